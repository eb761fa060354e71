/- Part 1 of the proof. -/
import Derived.Test.YtdnnmiemgmgffaaGreatDoorK0
import Derived.Laws.Shifts
import Derived.Laws.IdiomStrings
import Derived.Laws.BytesArg
import Derived.DeepKeys
import Derived.Laws.StructEq
set_option linter.unusedSimpArgs false
set_option linter.unusedVariables false
namespace Go.Proofs.YtdnnmiemgmgffaaGreatDoor.Vm
open Go.RowKit
section
inductive Td where
 |int (k:IntKind)
 |str
 |bool
 |slice (e:TypeId)
 |struct (fs:List (Nat×TypeId))
 |arr (n:Nat) (e:TypeId)
 |iface
 |map (k e:TypeId)
 |ptr (e:TypeId)
 |func
 |other
structure Te where
 d:Td
 z:List Value
 by':Nat
def m7:TypeDesc->Td
 |.int k=>.int k
 |.string=>.str
 |.bool=>.bool
 |.slice e=>.slice e
 |.struct fs=>.struct (fs.toList.map fun f=>(f.offset,f.type))
 |.array n e=>.arr n e
 |.interface _=>.iface
 |.map k e=>.map k e
 |.pointer e=>.ptr e
 |.func _ _ _=>.func
 |_=>.other
def jtg:Value->Bool
 |.agg _=>true
 |.tuple _=>true
 |_=>false
def Td.agg:Td->Bool
 |.struct _=>true
 |.arr _ _=>true
 |_=>false
def jom(P:Program)(t:TypeId):Option Te :=
 match P.info? t,P.underlying t with
 |some i,some d=>match i.zero with
  |some z=>if i.size=z.cells.size/\(jtg z=true->(m7 d).agg=true) then some ⟨m7 d,z.cells.toList,i.bytes⟩ else none
  |none=>none
 |_,_=>none
def Tab.get:List (Nat×Te)->Nat->Option Te
 |[],_=>none
 |(i,e)::r,t=>match Nat.beq i t with|true=>some e|false=>Tab.get r t
def Tab.ok(P:Program)(T:List (Nat×Te)):Prop:=∀t e,Tab.get T t=some e->jom P t=some e
theorem Tab.ok_nil(P:Program):Tab.ok P []:=fun _ _ h=>by simp[Tab.get] at h
theorem Tab.ok_cons{P:Program}{T:List (Nat×Te)}{i:Nat}{e:Te}(h:jom P i=some e)(k:Tab.ok P T):Tab.ok P ((i,e)::T):=fun t x hx=>by
 unfold Tab.get at hx;split at hx
 ·rename_i hb;cases hx;rw[<- Nat.eq_of_beq_eq_true hb];exact h
 ·exact k t x hx
section
variable{P:Program}{T:List (Nat×Te)}
theorem Tab.ok.info(hT:Tab.ok P T){t:Nat}{e:Te}(h:Tab.get T t=some e):∃i z d,P.info? t=some i/\P.underlying t=some d/\m7 d=e.d/\i.zero=some z/\z.cells.toList=e.z/\i.size=e.z.length/\i.bytes=e.by':=by
 have:=hT t e h;unfold jom at this;split at this
 ·rename_i i d hi hd;split at this
  ·rename_i z hz;split at this
   ·rename_i hs;cases this;exact⟨i,z,d,hi,hd,rfl,hz,rfl,by simpa using hs.1,rfl⟩
   ·cases this
  ·cases this
 ·cases this
theorem Tab.ok.one(hT:Tab.ok P T){t:Nat}{e:Te}(h:Tab.get T t=some e)(ha:e.d.agg=false):∃z:Value,e.z=[z]/\∀w,(zeroValue t).run P w=.ok z w:=by
 have:=hT t e h;unfold jom at this;split at this
 ·rename_i i d hi hd;split at this
  ·rename_i z hz;split at this
   ·rename_i hs;cases this;refine⟨z,?_,fun w=>by simp[zeroValue,typeInfo,program,Sem.run,hi,hz,Sem.bind,pure,bind]⟩
    have hn:¬jtg z=true:=fun e=>by rw[hs.2 e] at ha;cases ha
    cases z <;> first|rfl|exact absurd rfl hn
   ·cases this
  ·cases this
 ·cases this
theorem Tab.ok.slice(hT:Tab.ok P T){t:Nat}{z:List Value}{b:Nat}{x:TypeId}(h:Tab.get T t=some ⟨.slice x,z,b⟩):P.underlying t=some (.slice x):=by
 obtain⟨i,z,d,h1,h2,h3,_⟩:=hT.info h
 cases d <;> simp[m7] at h3
 rw[h2,h3]
theorem Tab.ok.strs(hT:Tab.ok P T){t:Nat}{z:List Value}{b:Nat}(h:Tab.get T t=some ⟨.str,z,b⟩):P.underlying t=some .string:=by
 obtain⟨i,z,d,h1,h2,h3,_⟩:=hT.info h
 cases d <;> simp[m7] at h3
 exact h2
theorem Tab.ok.bool(hT:Tab.ok P T){t:Nat}{z:List Value}{b:Nat}(h:Tab.get T t=some ⟨.bool,z,b⟩):P.underlying t=some .bool:=by
 obtain⟨i,z,d,h1,h2,h3,_⟩:=hT.info h
 cases d <;> simp[m7] at h3
 exact h2
theorem Tab.ok.int(hT:Tab.ok P T){t:Nat}{z:List Value}{b:Nat}{k:IntKind}(h:Tab.get T t=some ⟨.int k,z,b⟩):P.underlying t=some (.int k):=by
 obtain⟨i,z,d,h1,h2,h3,_⟩:=hT.info h
 cases d <;> simp[m7] at h3
 rw[h2,h3]
theorem Tab.ok.arr(hT:Tab.ok P T){t:Nat}{z:List Value}{b n:Nat}{x:TypeId}(h:Tab.get T t=some ⟨.arr n x,z,b⟩):P.underlying t=some (.array n x):=by
 obtain⟨i,z,d,h1,h2,h3,_⟩:=hT.info h
 cases d <;> simp[m7] at h3
 rw[h2,h3.1,h3.2]
theorem Tab.ok.struct(hT:Tab.ok P T){t:Nat}{z:List Value}{b:Nat}{fs:List (Nat×TypeId)}(h:Tab.get T t=some ⟨.struct fs,z,b⟩):∃f:Array Field,P.underlying t=some (.struct f)/\f.toList.map (fun x=>(x.offset,x.type))=fs:=by
 obtain⟨i,z,d,h1,h2,h3,_⟩:=hT.info h
 cases d <;> simp[m7] at h3
 exact⟨_,h2,h3⟩
theorem Tab.ok.size(hT:Tab.ok P T){t:Nat}{e:Te}(h:Tab.get T t=some e)(w:World):(sizeOf t).run P w=.ok e.z.length w:=by
 obtain⟨i,z,d,h1,h2,h3,h4,h5,h6,h7⟩:=hT.info h;simp[sizeOf,typeInfo,program,Sem.run,h1,h6,Sem.bind,pure,bind]
theorem Tab.ok.zero(hT:Tab.ok P T){t:Nat}{e:Te}(h:Tab.get T t=some e):∃z:Value,z.cells.toList=e.z/\∀w,(zeroValue t).run P w=.ok z w:=by
 obtain⟨i,z,d,h1,h2,h3,h4,h5,h6,h7⟩:=hT.info h;exact⟨z,h5,fun w=>by simp[zeroValue,typeInfo,program,Sem.run,h1,h4,Sem.bind,pure,bind]⟩
theorem Tab.ok.agg(hT:Tab.ok P T){t:Nat}{e:Te}(h:Tab.get T t=some e)(w:World):(isAgg t).run P w=.ok e.d.agg w:=by
 obtain⟨i,z,d,h1,h2,h3,h4,h5,h6,h7⟩:=hT.info h
 cases d <;> simp[m7] at h3 <;> rw[<- h3] <;> simp[isAgg,underlying,program,Sem.run,h2,Sem.bind,pure,bind,Td.agg]
end
def lo:IntKind->Int
 |.i8 => -128|.i16 => -32768|.i32 => -2147483648|.i64 => -9223372036854775808|_=>0
def hi:IntKind->Int
 |.i8=>127|.i16=>32767|.i32=>2147483647|.i64=>9223372036854775807|.u8=>255|.u16=>65535|.u32=>4294967295|.u64=>18446744073709551615
theorem jtQ(k:IntKind):k.min=lo k:=by cases k <;> decide
theorem jqG(k:IntKind):k.max=hi k:=by cases k <;> decide
theorem okV_int{k:IntKind}{n:Int}:fD (.int k n)↔lo k<=n/\n<=hi k:=by show k.min<=n/\n<=k.max↔_;rw[jtQ,jqG]
def yR:Value->A
 |.int k n=>match decide (lo k<=n),decide (n<=hi k) with|true,true=>.v (.int k n)|_,_=>.dead
 |.string s=>match Nat.ble s.size 1000000000 with|true=>.v (.string s)|false=>.dead
 |.agg _=>.dead
 |.tuple _=>.dead
 |x=>.v x
theorem eQ(x:Value)(E:Env):(yR x).rep E x:=by
 unfold yR;split
 ·split
  ·rename_i h1 h2;exact A.rep_v (okV_int.2 ⟨by simpa using h1,by simpa using h2⟩)
  ·exact A.rep_dead _ _
 ·split
  ·rename_i h1;exact A.rep_v (by show _<=maxLen;have:=Nat.le_of_ble_eq_true h1;unfold maxLen;omega)
  ·exact A.rep_dead _ _
 ·exact A.rep_dead _ _
 ·exact A.rep_dead _ _
 ·rename_i h1 h2 h3 h4;refine A.rep_v ?_
  cases x <;> simp[fD] at h1 h2 h3 h4 ⊢
def ev(s:S):Operand->A
 |.tmp t=>s.t.getD t .dead
 |.const v=>yR v
 |.func f=>.clo f []
 |.global g=>.gp g 0
theorem jM{s:S}{a:Act}{E:Env}(h:A.repL s.t E a.tmps.toList)(x:Operand):(ev s x).rep E (a.eval x):=by
 cases x with
 |tmp t =>
  have:=A.repL_getD h t undef;simpa [ev,Act.eval] using this
 |const v=>exact eQ v E
 |global g =>
  show(A.gp g 0).rep E (.pointer (some ⟨g,0,none⟩));unfold A.rep;rfl
 |func f =>
  show(A.clo f []).rep E (.func (.func f) #[] #[]);unfold A.rep;exact⟨#[],rfl,by simp[A.repL]⟩
def ifK(c:Bool)(p q:Prop):Prop:=match c with
 |true=>p
 |false=>q
theorem ifK_iff{c:Bool}{p q:Prop}:ifK c p q↔(c=true->p)/\(c=false->q):=by cases c <;> simp[ifK]
def jeF(k:IntKind)(n:Int)(K:A->Prop):Prop:=(lo k<=n/\n<=hi k)/\K (.v (.int k n))
def jqq(op:BinOp)(k:IntKind)(x y:Int)(K:A->Prop):Prop :=
 match op with
 |.add=>jeF k (x+y) K
 |.sub=>jeF k (x-y) K
 |.mul=>jeF k (x*y) K
 |.quo=>y≠0/\jeF k (x.tdiv y) K
 |.rem=>y≠0/\K (.v (.int k (x.tmod y)))
 |.eql=>K (.v (.bool (decide (x=y))))
 |.neq=>K (.v (.bool (!decide (x=y))))
 |.lss=>K (.v (.bool (decide (x<y))))
 |.leq=>K (.v (.bool (decide (x<=y))))
 |.gtr=>K (.v (.bool (decide (y<x))))
 |.geq=>K (.v (.bool (decide (y<=x))))
 |_=>False
def jqr(op:BinOp)(x y:ByteArray)(K:A->Prop):Prop :=
 match op with
 |.add=>x.size+y.size<=maxLen/\K (.v (.string (x++y)))
 |.eql=>K (.v (.bool (decide (x=y))))
 |.neq=>K (.v (.bool (!decide (x=y))))
 |_=>False
def ikN:IntKind->Nat
 |.i8=>0|.i16=>1|.i32=>2|.i64=>3|.u8=>4|.u16=>5|.u32=>6|.u64=>7
theorem aL{k k':IntKind}(h:Nat.beq (ikN k) (ikN k')=true):k=k':=by cases k <;> cases k' <;> first|rfl|exact absurd h (by decide)
def jrb(T:List (Nat×Te))(op:BinOp)(t:Nat)(x y:A)(K:A->Prop):Prop :=
 match x with
 |.v (.int k x)=>match y with
  |.v (.int k' y)=>match Nat.beq (ikN k) (ikN k') with
   |true=>jqq op k x y K
   |false=>False
  |_=>False
 |.v (.string x)=>match y with
  |.v (.string y)=>jqr op x y K
  |_=>False
 |.v (.bool x)=>match y with
  |.v (.bool y)=>match Tab.get T t with
   |some ⟨.bool,_,_⟩=>match op with
    |.eql=>K (.v (.bool (x==y)))
    |.neq=>K (.v (.bool (!(x==y))))
    |_=>False
   |_=>False
  |_=>False
 |_=>False
@[irreducible] def jD(k i:Nat)(cs:List A):List A:=(cs.drop (i*k)).take k
def field(T:List (Nat×Te))(t f:Nat):Option (Nat×Nat×Bool) :=
 match Tab.get T t with
 |some ⟨.struct fs,_,_⟩=>match fs[f]? with
  |some (o,u)=>match Tab.get T u with
   |some e=>some (o,e.z.length,e.d.agg)
   |none=>none
  |none=>none
 |_=>none
def wY(T:List (Nat×Te))(s:S)(o:Op)(K:A->Prop):Prop :=
 match o with
 |.move x=>K (ev s x)
 |.assign x=>K (ev s x)
 |.pick c a b=>match ev s c with
  |.v (.bool c)=>ifK c (K (ev s a)) (K (ev s b))
  |_=>False
 |.binOp op t x y _=>jrb T op t (ev s x) (ev s y) K
 |.unOp .not _ x=>match ev s x with
  |.v (.bool c)=>K (.v (.bool (!c)))
  |_=>False
 |.unOp .neg _ x=>match ev s x with
  |.v (.int k n)=>jeF k (0-n) K
  |_=>False
 |.extract x i=>match ev s x with
  |.tup l=>match l[i]? with
   |some a=>K a
   |none=>False
  |_=>False
 |.makeFunc (.func f) first caps=>match first.toList with
  |[]=>K (.clo f (caps.toList.map (ev s)))
  |x::r=>match caps.toList with
   |[]=>K (.bm f (ev s x::r.map (ev s)))
   |_=>False
 |.fieldAddr t x f=>match field T t f with
  |some (o,n+1,_)=>match ev s x with
   |.box b off=>K (.box b (off+o))
   |.pp cs=>K (.pp (cs.drop o))
   |.orow g off=>K (.orow g (off+o))
   |_=>False
  |_=>False
 |.field t x f=>match field T t f with
  |some (o,n,ag)=>match ev s x with
   |.agg l=>match ag with
    |true=>K (.agg ((l.drop o).take n))
    |false=>match l[o]? with
     |some a=>K a
     |none=>False
   |_=>False
  |none=>False
 |.indexAddr t x i=>match Tab.get T t with
  |some ⟨.slice e,_,_⟩=>match Tab.get T e with
   |some e=>match ev s i with
    |.v (.int _ i)=>match ev s x with
     |.sl k n cs=>match Nat.beq k e.z.length with
      |true=>(0<=i/\i<n)/\K (.pp (jD k i.toNat cs))
      |false=>False
     |.own g=>match s.rw[g]? with
      |some (.live _ k n cs)=>match Nat.beq k e.z.length with
       |true=>jix k ((0<=i/\i<n)/\K (.orow g (i.toNat*k)))
       |false=>False
      |some (.pub k n cs)=>match Nat.beq k e.z.length with
       |true=>(0<=i/\i<n)/\K (.pp (jD k i.toNat cs))
       |false=>False
      |_=>False
     |_=>False
    |_=>False
   |none=>False
  |_=>False
 |.index t x i=>match Tab.get T t with
  |some ⟨.str,_,_⟩=>match ev s x,ev s i with
   |.v (.string x),.v (.int _ i)=>(0<=i/\i<x.size)/\K (.v (.int .u8 ((x.data.toList.getD i.toNat 0).toNat)))
   |_,_=>False
  |_=>False
 |.slice t x l h none=>match Tab.get T t with
  |some ⟨.str,_,_⟩=>match ev s x with
   |.v (.string x) =>
    match (match l with|some l=>ev s l|none=>.v (.int .i64 0)),(match h with|some h=>ev s h|none=>.v (.int .i64 x.size)) with
    |.v (.int _ l),.v (.int _ h)=>(0<=l/\l<=h/\h<=x.size)/\K (.v (.string (x.extract l.toNat h.toNat)))
    |_,_=>False
   |_=>False
  |some ⟨.slice e,_,_⟩=>match Tab.get T e with
   |some e=>match ev s x with
    |.sl k n cs =>
     match (match l with|some l=>ev s l|none=>.v (.int .i64 0)),(match h with|some h=>ev s h|none=>.v (.int .i64 n)) with
     |.v (.int _ l),.v (.int _ h)=>match Nat.beq k e.z.length with
      |true=>(0<=l/\l<=h/\h<=n)/\K (.sl k (h.toNat-l.toNat) ((cs.drop (l.toNat*k)).take ((h.toNat-l.toNat)*k)))
      |false=>False
     |_,_=>False
    |_=>False
   |none=>False
  |_=>False
 |.call ⟨.builtin .len,args,ts⟩=>match args.toList with
  |[x]=>match ts.toList with
   |[t]=>match Tab.get T t with
    |some ⟨.str,_,_⟩=>match ev s x with
     |.v (.string x)=>K (.v (.int .i64 x.size))
     |_=>False
    |some ⟨.slice _,_,_⟩=>match ev s x with
     |.sl _ n _=>K (.v (.int .i64 n))
     |.v (.slice none 0 0)=>K (.v (.int .i64 0))
     |.own g=>match s.rw[g]? with
      |some (.live _ k n cs)=>match k with
       |0=>match cs with
        |[.v (.string _)]=>K (.v (.int .i64 n))
        |_=>False
       |_+1=>K (.v (.int .i64 n))
      |some (.pub _ n _)=>K (.v (.int .i64 n))
      |_=>False
     |_=>False
    |_=>False
   |_=>False
  |_=>False
 |.nilCheck x=>match ev s x with
  |.box b off=>K (.box b off)
  |.pp cs=>K (.pp cs)
  |.clo f cs=>K (.clo f cs)
  |.bm f cs=>K (.bm f cs)
  |_=>False
 |_=>False
end
section
section
variable{P:Program}{T:List (Nat×Te)}{w0:W0}{w:World}{C0:Rd}{β0:List Nat}{s:S}{a:Act}{E:Env}{K:A->Prop}{o:Oper}
def xE(P:Program)(a:Act)(o:Oper)(E:Env)(K:A->Prop):Prop:=∃r y,K r/\r.rep E y/\∀w',(execOp a.eval o).run P w'=.ok (.value y) w'
theorem fS{k:IntKind}{n:Int}(h:lo k<=n/\n<=hi k):k.wrap n=n:=by
 obtain⟨h1,h2⟩:=h
 cases k <;> simp only[lo,hi] at h1 h2 <;> simp[IntKind.wrap,IntKind.bits,IntKind.signed] <;> omega
theorem zO{k:IntKind}{n:Int}{E:Env}(h:lo k<=n/\n<=hi k):(A.v (.int k n)).rep E (.int k n):=A.rep_v (okV_int.2 h)
theorem zG{b:Bool}{E:Env}:(A.v (.bool b)).rep E (.bool b):=A.rep_v trivial
theorem kM{x:Value}{o:Operand}(ht:A.repL s.t E a.tmps.toList)(h:ev s o=.v x):a.eval o=x/\fD x:=by
 have:=jM ht o;rw[h] at this;exact A.rep_v_iff.1 this
theorem jq2{k:IntKind}{x y:Int}(h:lo k<=x/\x<=hi k):lo k<=x.tmod y/\x.tmod y<=hi k:=by
 have h0:lo k<=0/\0<=hi k:=by cases k <;> simp[lo,hi]
 rcases Int.le_total 0 x with hx|hx
 ·have h1:=Int.tmod_nonneg y hx
  have h2:x.tmod y<=x:=by
   obtain⟨n,rfl⟩:=Int.eq_ofNat_of_zero_le hx;rcases Int.le_total 0 y with hy|hy
   ·obtain⟨m,rfl⟩:=Int.eq_ofNat_of_zero_le hy;show((n % m:Nat):Int)<=n;have:=Nat.mod_le n m;omega
   ·have:=Int.tmod_neg (n:Int) (-y);rw[Int.neg_neg] at this;rw[this];obtain⟨m,hm⟩:=Int.eq_ofNat_of_zero_le (show 0 <= -y by omega);rw[hm];show((n % m:Nat):Int)<=n;have:=Nat.mod_le n m;omega
  omega
 ·have e:x.tmod y = -((-x).tmod y):=by rw[Int.neg_tmod,Int.neg_neg]
  have h1:=Int.tmod_nonneg y (show 0 <= -x by omega)
  have h2:(-x).tmod y <= -x:=by
   obtain⟨n,hn⟩:=Int.eq_ofNat_of_zero_le (show 0 <= -x by omega);rw[hn];rcases Int.le_total 0 y with hy|hy
   ·obtain⟨m,rfl⟩:=Int.eq_ofNat_of_zero_le hy;show((n % m:Nat):Int)<=n;have:=Nat.mod_le n m;omega
   ·have:=Int.tmod_neg (n:Int) (-y);rw[Int.neg_neg] at this;rw[this];obtain⟨m,hm⟩:=Int.eq_ofNat_of_zero_le (show 0 <= -y by omega);rw[hm];show((n % m:Nat):Int)<=n;have:=Nat.mod_le n m;omega
  omega
theorem jfy(x y:ByteArray):(x.toList==y.toList)=decide (x=y):=by
 rw[ByteArray.toList_eq,ByteArray.toList_eq,Bool.eq_iff_iff];simp only[beq_iff_eq,decide_eq_true_eq];constructor
 ·intro h;exact ByteArray.ext (Array.toList_inj.1 h)
 ·intro h;rw[h]
theorem jiJ{op:BinOp}{t t':TypeId}{x y:Operand}(hT:Tab.ok P T)(ht:A.repL s.t E a.tmps.toList)(ho:o.op=.binOp op t x y t')(h:jrb T op t (ev s x) (ev s y) K):xE P a o E K:=by
 unfold jrb at h;split at h
 ·rename_i k n hx;split at h
  ·rename_i k' m hy;obtain⟨hx,okx⟩:=kM ht hx;obtain⟨hy,oky⟩:=kM ht hy;split at h
   rotate_left
   ·exact h.elim
   rename_i hkk;obtain rfl:=aL hkk
   cases op <;> simp only[jqq,jeF] at h <;> try exact h.elim
   ·exact⟨_,_,h.2,zO h.1,fun w'=>by simp[execOp,ho,hx,hy,eqGuard,binOp,Op.intArith,fS h.1,bind,pure,Sem.bind,Sem.run]⟩
   ·exact⟨_,_,h.2,zO h.1,fun w'=>by simp[execOp,ho,hx,hy,eqGuard,binOp,Op.intArith,fS h.1,bind,pure,Sem.bind,Sem.run]⟩
   ·exact⟨_,_,h.2,zO h.1,fun w'=>by simp[execOp,ho,hx,hy,eqGuard,binOp,Op.intArith,fS h.1,bind,pure,Sem.bind,Sem.run]⟩
   ·exact⟨_,_,h.2.2,zO h.2.1,fun w'=>by simp[execOp,ho,hx,hy,eqGuard,binOp,Op.intDiv,fS h.2.1,h.1,bind,pure,Sem.bind,Sem.run]⟩
   ·exact⟨_,_,h.2,zO (jq2 (okV_int.1 okx)),fun w'=>by simp[execOp,ho,hx,hy,eqGuard,binOp,Op.intDiv,h.1,bind,pure,Sem.bind,Sem.run]⟩
   ·exact⟨_,_,h,zG,fun w'=>by simp[execOp,ho,hx,hy,eqGuard,binOp,Op.intCmp,bind,pure,Sem.bind,Sem.run];try rfl⟩
   ·exact⟨_,_,h,zG,fun w'=>by simp[execOp,ho,hx,hy,eqGuard,binOp,Op.intCmp,bind,pure,Sem.bind,Sem.run];try rfl⟩
   ·exact⟨_,_,h,zG,fun w'=>by simp[execOp,ho,hx,hy,eqGuard,binOp,Op.intCmp,bind,pure,Sem.bind,Sem.run]⟩
   ·exact⟨_,_,h,zG,fun w'=>by simp[execOp,ho,hx,hy,eqGuard,binOp,Op.intCmp,bind,pure,Sem.bind,Sem.run]⟩
   ·exact⟨_,_,h,zG,fun w'=>by simp[execOp,ho,hx,hy,eqGuard,binOp,Op.intCmp,bind,pure,Sem.bind,Sem.run]⟩
   ·exact⟨_,_,h,zG,fun w'=>by simp[execOp,ho,hx,hy,eqGuard,binOp,Op.intCmp,bind,pure,Sem.bind,Sem.run]⟩
  ·exact h.elim
 ·rename_i n hx;split at h
  ·rename_i m hy;obtain⟨hx,okx⟩:=kM ht hx;obtain⟨hy,oky⟩:=kM ht hy;have bt:=jfy n m
   cases op <;> simp only[jqr] at h <;> try exact h.elim
   ·obtain⟨h1,h2⟩:=h
    have h3:¬(((n.size+m.size:Nat):Int) > IntKind.i64.max):=by rw[jqG];simp only[hi];unfold maxLen at h1;omega
    refine⟨_,_,h2,A.rep_v (show(n++m).size<=maxLen by rw[ByteArray.size_append];exact h1),fun w'=>by simp only[execOp,ho,hx,hy,eqGuard,binOp,Op.stringOp,if_neg h3];simp[bind,pure,Sem.bind,Sem.run]⟩
   ·exact⟨_,_,h,zG,fun w'=>by simp only[execOp,ho,hx,hy,eqGuard,binOp,Op.stringOp,bt];simp[bind,pure,Sem.bind,Sem.run]⟩
   ·exact⟨_,_,h,zG,fun w'=>by simp only[execOp,ho,hx,hy,eqGuard,binOp,Op.stringOp,bt];simp[bind,pure,Sem.bind,Sem.run]⟩
  ·exact h.elim
 ·rename_i n hx;split at h
  ·rename_i m hy;obtain⟨hx,okx⟩:=kM ht hx;obtain⟨hy,oky⟩:=kM ht hy;split at h
   ·rename_i z b' htab;have hu:=hT.bool htab
    cases op <;> simp only at h <;> try exact h.elim
    ·exact⟨_,_,h,zG,fun w'=>by
      have e:=run_equal_bool (P:=P) (w:=w') t n m hu
      simp[execOp,ho,hx,hy,eqGuard,binOp,e,Result.andThen]⟩
    ·exact⟨_,_,h,zG,fun w'=>by
      have e:=run_equal_bool (P:=P) (w:=w') t n m hu
      simp[execOp,ho,hx,hy,eqGuard,binOp,e,Result.andThen]⟩
   ·exact h.elim
  ·exact h.elim
 ·exact h.elim
theorem jfU{t f o n:Nat}{ag:Bool}(hT:Tab.ok P T)(h:field T t f=some (o,n,ag)):∃(fs:Array Field) (x:Field),P.underlying t=some (.struct fs)/\fs[f]?=some x/\x.offset=o/\(∀w,(sizeOf x.type).run P w=.ok n w)/\∀w,(isAgg x.type).run P w=.ok ag w:=by
 unfold field at h;split at h
 ·rename_i fs z b htab;split at h
  ·rename_i o' u hf;split at h
   ·rename_i e he;cases h;obtain⟨f',h1,h2⟩:=hT.struct htab;rw[<- h2] at hf;simp only[List.getElem?_map,Option.map_eq_some_iff] at hf;obtain⟨x,hx,hx2⟩:=hf;cases hx2;exact⟨f',x,h1,by simpa using hx,rfl,hT.size he,hT.agg he⟩
   ·cases h
  ·cases h
 ·cases h
theorem vH(b off o:Nat):(⟨b,off,none⟩:Addr).add o=⟨b,off+o,none⟩:=je6 b off o
theorem jbl{t f:Nat}{x:Operand}(hT:Tab.ok P T)(ht:A.repL s.t E a.tmps.toList)(ho:o.op=.fieldAddr t x f)(h:wY T s (.fieldAddr t x f) K):xE P a o E K:=by
 unfold wY at h
 simp only at h
 split at h
 ·rename_i o' n ag hf;obtain⟨fs,fl,h1,h2,h3,h4,h5⟩:=jfU hT hf;have hx:=jM ht x
  have key:∀b off,a.eval x=.pointer (some ⟨b,off,none⟩)->∀w',(execOp a.eval o).run P w'=.ok (.value (.pointer (some ⟨b,off+o',none⟩))) w':=fun b off e w'=>by
   simp[execOp,ho,e,Instr.fieldAt,Instr.sureAddr,fieldPlace,underlying,program,h1,h2,h3,h4 w',Result.andThen,Sem.run,vH]
  split at h
  ·rename_i b off hev;rw[hev] at hx;unfold A.rep at hx;obtain⟨bb,hb,hv⟩:=hx;exact⟨_,_,h,(by unfold A.rep;exact⟨bb,hb,rfl⟩),key _ _ hv⟩
  ·rename_i cs hev;rw[hev] at hx;unfold A.rep at hx;obtain⟨b,off,hv,hr⟩:=hx;exact⟨_,_,h,(by unfold A.rep;exact⟨b,off+o',rfl,A.repAt_drop o' hr⟩),key _ _ hv⟩
  ·rename_i g off hev;rw[hev] at hx;unfold A.rep at hx;obtain⟨b,n',cap,hb,hv⟩:=hx;exact⟨_,_,h,(by unfold A.rep;exact⟨b,n',cap,hb,rfl⟩),key _ _ hv⟩
  ·exact h.elim
 ·exact h.elim
theorem jiK{t f:Nat}{x:Operand}(hT:Tab.ok P T)(ht:A.repL s.t E a.tmps.toList)(ho:o.op=.field t x f)(h:wY T s (.field t x f) K):xE P a o E K:=by
 unfold wY at h
 simp only at h
 split at h
 ·rename_i o' n ag hf;obtain⟨fs,fl,h1,h2,h3,h4,h5⟩:=jfU hT hf;have hx:=jM ht x;split at h
  ·rename_i l hev;rw[hev] at hx;unfold A.rep at hx;obtain⟨us,hv,hr⟩:=hx;split at h
   ·refine⟨_,.agg (us.extract o' (o'+n)),h,(by
     unfold A.rep;refine⟨_,rfl,?_⟩;rw[Array.toList_extract,List.extract_eq_take_drop,show o'+n-o'=n by omega]
     exact A.repC_take n (A.repC_drop o' hr)),fun w'=>?_⟩
    have e5:=h5 w';have e4:=h4 w';simp[execOp,ho,hv,Instr.field,part,asAgg,underlying,program,h1,h2,h3,e5,e4,Result.andThen,Sem.run]
   ·split at h
    ·rename_i r hr2;obtain⟨u,hu,ha⟩:=A.repL_get (A.repC_L hr) hr2;refine⟨_,u,h,ha,fun w'=>?_⟩;have e5:=h5 w'
     have hu':us[o']?=some u:=by simpa using hu
     simp[execOp,ho,hv,Instr.field,part,asAgg,underlying,program,h1,h2,h3,e5,hu',Result.andThen,Sem.run]
    ·exact h.elim
  ·exact h.elim
 ·exact h.elim
end
end
section
section
variable{P:Program}{T:List (Nat×Te)}{w0:W0}{w:World}{C0:Rd}{β0:List Nat}{s:S}{a:Act}{E:Env}{K:A->Prop}{o:Oper}
theorem y6{e k n:Nat}{y:Value}{xs:List Value}{base:Nat}(h:w.ownsRow base e k y n xs):xs.length=n*k/\n<=maxLen/\((y=.slice none 0 0/\n=0)∨∃b cap,y=.slice (some ⟨b,0,none⟩) n cap/\n<=cap/\∀j u,xs[j]?=some u->w.cell? ⟨b,j,none⟩=some u):=by
 refine⟨h.1,?_,?_⟩
 ·rcases h.2 with ⟨_,rfl⟩|⟨g,cap,cur,_,_,_,h1,h2,_⟩
  ·exact Nat.zero_le _
  ·exact Nat.le_trans h1 h2
 ·rcases jdq h with ⟨h1,h2,_⟩|⟨g,cap,h1,_,_,h2,h3⟩
  ·exact .inl ⟨h1,h2⟩
  ·exact .inr ⟨g,cap,h1,h2,h3⟩
theorem gT(hp:Hp w0 C0 β0 s.bx s.rw w E)(ht:A.repL s.t E a.tmps.toList){x:Operand}{g:Nat}{r:Row}(hx:ev s x=.own g)(hg:s.rw[g]?=some r):E.ρ[g]?=some (a.eval x)/\rowRep w w0 E r (a.eval x):=by
 have:=jM ht x;rw[hx] at this;unfold A.rep at this;exact⟨this,hp.rws g r _ hg this⟩
theorem yU{k n:Nat}{cs:List A}{y:Value}(h:(A.sl k n cs).rep E y):cs.length=n*k/\n<=maxLen/\∃p b off cap,y=.slice p n cap/\n<=cap/\(n=0∨p=some ⟨b,off,none⟩)/\(p=none->cap=0)/\A.repAt cs E.per b off:=by
 unfold A.rep at h;exact h
theorem jge{t e:TypeId}{el:Te}{z:List Value}{b':Nat}(hT:Tab.ok P T)(h1:Tab.get T t=some ⟨.slice e,z,b'⟩)(h2:Tab.get T e=some el){k:IntKind}{i:Int}{b off n cap:Nat}(hi:0<=i/\i<n)(w':World) :
  (Instr.indexAt t (.slice (some ⟨b,off,none⟩) n cap) (.int k i)).run P w'=.ok (.pointer (some ⟨b,off+i.toNat*el.z.length,none⟩)) w':=by
 have hu:=hT.slice h1;have hs:=hT.size h2 w';simp[Instr.indexAt,asIntOf,underlying,program,hu,hi,hs,Result.andThen,Sem.run,vH]
theorem jbn{t:Nat}{x i:Operand}(hT:Tab.ok P T)(hp:Hp w0 C0 β0 s.bx s.rw w E)(ht:A.repL s.t E a.tmps.toList)(ho:o.op=.indexAddr t x i)(h:wY T s (.indexAddr t x i) K):xE P a o E K:=by
 unfold wY at h
 simp only at h
 split at h
 ·rename_i e z b' htab;split at h
  ·rename_i el hel;split at h
   ·rename_i ki i' hi;obtain⟨hi,oki⟩:=kM ht hi
    have key:∀b off n cap,a.eval x=.slice (some ⟨b,off,none⟩) n cap->(0<=i'/\i'<n)->∀w',(execOp a.eval o).run P w'=.ok (.value (.pointer (some ⟨b,off+i'.toNat*el.z.length,none⟩))) w':=fun b off n cap ex hin w'=>by
     have e:=jge (P:=P) hT htab hel (k:=ki) (b:=b) (off:=off) (cap:=cap) hin w';simp[execOp,ho,hi,ex,e,Result.andThen]
    split at h
    ·rename_i k n cs hx;split at h
     rotate_left
     ·exact h.elim
     rename_i hbq;obtain rfl:=Nat.eq_of_beq_eq_true hbq;obtain⟨hin,h⟩:=h;have hr:=jM ht x;rw[hx] at hr;obtain⟨hl,hm,p,b,off,cap,hv,hc,hpn,hn,hat⟩:=yU hr;obtain rfl:p=some ⟨b,off,none⟩:=hpn.resolve_left (by omega);refine⟨_,_,h,?_,key b off n cap hv hin⟩;unfold A.rep;exact⟨b,_,rfl,by unfold jD;exact A.repAt_take _ (A.repAt_drop _ hat)⟩
    ·rename_i g hx;split at h
     ·rename_i e' k n cs hg;split at h
      rotate_left
      ·exact h.elim
      rename_i hbq;obtain rfl:=Nat.eq_of_beq_eq_true hbq;obtain⟨hk0,hin,h⟩:=notZ_iff.1 h;obtain⟨hy,xs,⟨hown,_⟩,hr⟩:=gT hp ht hx hg;have hown:=hown.row hk0;obtain⟨h1,h2,h3|⟨b,cap,h3,h4,h5⟩⟩:=y6 hown
      ·omega
      ·rw[h3] at hy;refine⟨_,_,h,?_,key b 0 n cap h3 hin⟩;unfold A.rep;exact⟨b,n,cap,hy,by simp⟩
     ·rename_i k n cs hg;split at h
      rotate_left
      ·exact h.elim
      rename_i hbq;obtain rfl:=Nat.eq_of_beq_eq_true hbq;obtain⟨hin,h⟩:=h;obtain⟨hy,hr⟩:=gT hp ht hx hg;obtain⟨hl,hm,p,b,off,cap,hv,hc,hpn,hn,hat⟩:=yU hr;obtain rfl:p=some ⟨b,off,none⟩:=hpn.resolve_left (by omega);refine⟨_,_,h,?_,key b off n cap hv hin⟩;unfold A.rep;exact⟨b,_,rfl,by unfold jD;exact A.repAt_take _ (A.repAt_drop _ hat)⟩
     ·exact h.elim
    ·exact h.elim
   ·exact h.elim
  ·exact h.elim
 ·exact h.elim
theorem jpY(x:ByteArray)(i:Nat)(h:i<x.size):x[i]?=some (x.data.toList.getD i 0):=by
 rw[getElem?_pos x i h];simp only[List.getD_eq_getElem?_getD];rw[List.getElem?_eq_getElem (by simpa using h)];rfl
theorem jiL{t:Nat}{x i:Operand}(hT:Tab.ok P T)(ht:A.repL s.t E a.tmps.toList)(ho:o.op=.index t x i)(h:wY T s (.index t x i) K):xE P a o E K:=by
 unfold wY at h
 simp only at h
 split at h
 ·rename_i z b' htab;split at h
  ·rename_i x' ki i' hx hi;obtain⟨hi,oki⟩:=kM ht hi;obtain⟨hx,okx⟩:=kM ht hx;obtain⟨⟨h1,h2⟩,h⟩:=h;have hu:=hT.strs htab;refine⟨_,_,h,zO ⟨by simp[lo],by have:=(x'.data.toList.getD i'.toNat 0).toNat_lt;show _<=(255:Int);omega⟩,fun w'=>?_⟩;have hg:=jpY x' i'.toNat (by omega);simp only[execOp,ho,hx,hi,Instr.index];simp[asIntOf,underlying,program,hu,h1,hg,Result.andThen,Sem.run]
  ·exact h.elim
 ·exact h.elim
theorem jf2{x:Operand}{i:Nat}(ht:A.repL s.t E a.tmps.toList)(ho:o.op=.extract x i)(h:wY T s (.extract x i) K):xE P a o E K:=by
 unfold wY at h
 simp only at h
 split at h
 ·rename_i l hx;split at h
  ·rename_i r hr;have hv:=jM ht x;rw[hx] at hv;unfold A.rep at hv;obtain⟨us,hv,hl⟩:=hv;obtain⟨u,hu,ha⟩:=A.repL_get hl hr
   have hu':us[i]?=some u:=by simpa using hu
   exact⟨_,u,h,ha,fun w'=>by simp[execOp,ho,hv,Instr.extract,hu',Result.andThen]⟩
  ·exact h.elim
 ·exact h.elim
theorem nD(ht:A.repL s.t E a.tmps.toList):∀l:List Operand,A.repL (l.map (ev s)) E (l.map a.eval)
 |[]=>by simp[A.repL]
 |x::r=>by
  simp only[List.map_cons];unfold A.repL;exact⟨_,_,rfl,jM ht x,nD ht r⟩
theorem jck{f:Fn}{first caps:Array Operand}(ht:A.repL s.t E a.tmps.toList)(ho:o.op=.makeFunc f first caps)(h:wY T s (.makeFunc f first caps) K):xE P a o E K:=by
 cases f with
 |func f =>
  unfold wY at h
  simp only at h
  split at h
  ·rename_i hf;obtain rfl:first = #[]:=Array.toList_eq_nil_iff.1 hf;refine⟨_,.func (.func f) #[] (caps.map a.eval),h,?_,fun w'=>by simp[execOp,ho,Instr.makeFunc,Result.andThen]⟩;unfold A.rep;exact⟨_,rfl,by rw[Array.toList_map];exact nD ht _⟩
  ·rename_i x r hf;split at h
   ·rename_i hcap;obtain rfl:caps = #[]:=Array.toList_eq_nil_iff.1 hcap;refine⟨_,.func (.func f) (first.map a.eval) #[],h,?_,fun w'=>by simp[execOp,ho,Instr.makeFunc,Result.andThen]⟩;unfold A.rep;refine⟨_,rfl,?_⟩;rw[Array.toList_map,hf];exact nD ht (x::r)
   ·exact h.elim
 |_=>exact h.elim
theorem jnA{args:Array Operand}{ts:Array TypeId}(hT:Tab.ok P T)(hp:Hp w0 C0 β0 s.bx s.rw w E)(ht:A.repL s.t E a.tmps.toList)(ho:o.op=.call ⟨.builtin .len,args,ts⟩)(h:wY T s (.call ⟨.builtin .len,args,ts⟩) K):xE P a o E K:=by
 unfold wY at h
 simp only at h
 split at h
 ·rename_i x hx;split at h
  ·rename_i t htt
   obtain rfl:args = #[x]:=by rw[<- hx]
   obtain rfl:ts = #[t]:=by rw[<- htt]
   have big:∀n:Nat,n<=maxLen->lo .i64<=(n:Int)/\(n:Int)<=hi .i64:=fun n hn=>by unfold maxLen at hn;simp[lo,hi];omega
   split at h
   ·rename_i z b' htab;have hu:=hT.strs htab;split at h
    ·rename_i x' hev;obtain⟨hv,ok⟩:=kM ht hev;have ok':x'.size<=maxLen:=ok;exact⟨_,_,h,zO (big _ ok'),fun w'=>by simp[execOp,ho,hv,resolve,invoke,builtin,Builtin.len_,underlying,program,hu,goInt,Result.andThen,Sem.run]⟩
    ·exact h.elim
   ·rename_i e z b' htab;have hu:=hT.slice htab
    have key:∀p n cap,a.eval x=.slice p n cap->∀w',(execOp a.eval o).run P w'=.ok (.value (.int .i64 n)) w':=fun p n cap hv w'=>by
     simp[execOp,ho,hv,resolve,invoke,builtin,Builtin.len_,underlying,program,hu,goInt,Result.andThen,Sem.run]
    split at h
    ·rename_i k n cs hev;have hr:=jM ht x;rw[hev] at hr;obtain⟨hl,hm,p,b,off,cap,hv,_⟩:=yU hr;exact⟨_,_,h,zO (big _ hm),key _ _ _ hv⟩
    ·rename_i hev;obtain⟨hv,ok⟩:=kM ht hev;exact⟨_,_,h,zO (big 0 (by simp)),key _ _ _ hv⟩
    ·rename_i g hev;split at h
     ·rename_i e' k n cs hg;split at h
      ·split at h
       ·rename_i b;obtain⟨hy,xs,⟨ho,_⟩,hr⟩:=gT hp ht hev hg;unfold A.repC at hr;obtain⟨u1,us1,rfl,-,r1,hr⟩:=hr;unfold A.repC at hr;subst hr;obtain⟨rfl,ok⟩:=A.rep_v_iff.1 r1;rcases ho with ⟨h9,_⟩|⟨_,⟨r,es,c,h1,h2,h3,h4,h5⟩|⟨_,_,h9⟩|⟨r,m',seen,since,h1,h2,h3,h4⟩|⟨b',h1,h2,h3⟩⟩
        ·exact absurd rfl h9
        ·cases h5
        ·cases h9
        ·cases h4
        ·cases h2
         have hm:n<=maxLen:=by rw[h1];exact ok
         rcases h3.2 with ⟨h5,h6⟩|⟨g',cap,cur,fz,h5,_⟩
         ·subst h6;exact⟨_,_,h,zO (big _ hm),key _ _ _ h5⟩
         ·exact⟨_,_,h,zO (big _ hm),key _ _ _ h5⟩
       ·exact h.elim
      ·obtain⟨hy,xs,⟨hown,_⟩,hr⟩:=gT hp ht hev hg;have hown:=hown.row (by omega);obtain⟨h1,h2,⟨h3,h4⟩|⟨b,cap,h3,h4,h5⟩⟩:=y6 hown
       ·subst h4;exact⟨_,_,h,zO (big _ h2),key _ _ _ h3⟩
       ·exact⟨_,_,h,zO (big _ h2),key _ _ _ h3⟩
     ·rename_i k n cs hg;obtain⟨hy,hr⟩:=gT hp ht hev hg;obtain⟨hl,hm,p,b,off,cap,hv,_⟩:=yU hr;exact⟨_,_,h,zO (big _ hm),key _ _ _ hv⟩
     ·exact h.elim
    ·exact h.elim
   ·exact h.elim
  ·exact h.elim
 ·exact h.elim
theorem rB{ob:Option Operand}{d:Value}{r:A}(ht:A.repL s.t E a.tmps.toList)(hd:fD d)(h:(match ob with|some l=>ev s l|none=>.v d)=r):r.rep E ((ob.map a.eval).getD d):=by
 subst h
 cases ob with
 |none=>exact A.rep_v hd
 |some l=>exact jM ht l
theorem tJ{y:Nat}{k:IntKind}{i:Int}{c:BoundsCode}(h:0<=i/\i<=y)(w':World):(Instr.sliceBound (.int k i) y c).run P w'=.ok i.toNat w':=by
 simp[Instr.sliceBound,asIntOf,h,Result.andThen]
theorem gU{isS:Bool}{len cap:Nat}{lw hg:Option Value}{kl kh:IntKind}{l h:Int}(hl:lw.getD (.int .i64 0)=.int kl l)(hh:hg.getD (.int .i64 len)=.int kh h)(b:0<=l/\l<=h/\h<=len)(hc:len<=cap)(w':World) :
  (Instr.sliceBounds isS len cap lw hg none).run P w'=.ok (l.toNat,h.toNat,cap) w':=by
 obtain⟨b1,b2,b3⟩:=b
 have h1:(0:Int)<=h/\h<=(cap:Int):=by omega
 have h2:(0:Int)<=l/\l<=(h.toNat:Int):=by omega
 cases hg with
 |none =>
  simp at hh;obtain⟨rfl,rfl⟩:=hh
  cases lw with
  |none =>
   simp at hl;obtain⟨rfl,rfl⟩:=hl;simp[Instr.sliceBounds,Result.andThen]
  |some v =>
   simp at hl;subst hl
   have e:=fun c=>tJ (P:=P) (k:=kl) (c:=c) (i:=l) (y:=len) (by omega) w'
   simp[Instr.sliceBounds,e,Result.andThen]
 |some v =>
  simp at hh;subst hh
  have e1:=fun c=>tJ (P:=P) (k:=kh) (c:=c) h1 w'
  cases lw with
  |none =>
   simp at hl;obtain⟨rfl,rfl⟩:=hl;simp[Instr.sliceBounds,e1,Result.andThen]
  |some v =>
   simp at hl;subst hl
   have e:=fun c=>tJ (P:=P) (k:=kl) (c:=c) h2 w'
   simp[Instr.sliceBounds,e1,e,Result.andThen]
theorem jiM{t:Nat}{x:Operand}{l h:Option Operand}(hT:Tab.ok P T)(ht:A.repL s.t E a.tmps.toList)(ho:o.op=.slice t x l h none)(hh:wY T s (.slice t x l h none) K):xE P a o E K:=by
 unfold wY at hh
 simp only at hh
 split at hh
 ·rename_i z b' htab;have hu:=hT.strs htab;split at hh
  ·rename_i x' hev;obtain⟨hv,ok⟩:=kM ht hev;have ok':x'.size<=maxLen:=ok;split at hh
   ·rename_i r1 r2 kl l' kh h' e1 e2;have q1:=rB ht (d:=.int .i64 0) (okV_int.2 (by decide)) e1;have q2:=rB ht (d:=.int .i64 x'.size) (okV_int.2 (by unfold maxLen at ok';simp[lo,Vm.hi];omega)) e2;rw[A.rep_v_iff] at q1 q2;obtain⟨hb,hh⟩:=hh;refine⟨_,_,hh,A.rep_v (show(x'.extract l'.toNat h'.toNat).size<=maxLen by rw[ByteArray.size_extract];omega),fun w'=>?_⟩;have e:=gU (P:=P) (isS:=false) (cap:=x'.size) (hl:=q1.1) (hh:=q2.1) hb (Nat.le_refl _) w';simp only[execOp,ho,hv,Option.map_none];simp[Instr.sliceAt,Instr.slice,underlying,program,hu,e,Result.andThen,Sem.run]
   ·exact hh.elim
  ·exact hh.elim
 ·rename_i e z b' htab;have hu:=hT.slice htab;split at hh
  ·rename_i el hel;split at hh
   ·rename_i k n cs hev;have hr:=jM ht x;rw[hev] at hr;obtain⟨hlen,hm,p,b,off,cap,hv,hc,hpn,hn,hat⟩:=yU hr;split at hh
    ·rename_i r1 r2 kl l' kh h' e1 e2;have q1:=rB ht (d:=.int .i64 0) (okV_int.2 (by decide)) e1;have q2:=rB ht (d:=.int .i64 n) (okV_int.2 (by unfold maxLen at hm;simp[lo,Vm.hi];omega)) e2;rw[A.rep_v_iff] at q1 q2;split at hh
     rotate_left
     ·exact hh.elim
     rename_i hbq;obtain rfl:=Nat.eq_of_beq_eq_true hbq;obtain⟨hb,hh⟩:=hh
     have hs:=fun w'=>hT.size hel w'
     have e:=fun w'=>gU (P:=P) (isS:=true) (cap:=cap) (hl:=q1.1) (hh:=q2.1) hb hc w'
     refine⟨_,.slice (if cap=l'.toNat then p else p.map (·.add (l'.toNat*el.z.length))) (h'.toNat-l'.toNat) (cap-l'.toNat),hh,?_,fun w'=>?_⟩
     ·unfold A.rep
      have hn0:∀m,(cs.drop (l'.toNat*el.z.length)).take ((h'.toNat-l'.toNat)*el.z.length)=m->m.length=(h'.toNat-l'.toNat)*el.z.length:=fun m hm'=>by
       subst hm';rw[List.length_take,List.length_drop,hlen];have:=Nat.mul_le_mul_right el.z.length (show h'.toNat-l'.toNat+l'.toNat<=n by omega);rw[Nat.add_mul] at this;omega
      by_cases hz:h'.toNat-l'.toNat=0
      ·refine⟨hn0 _ rfl,by omega,_,b,off,_,rfl,by omega,.inl hz,?_,?_⟩
       ·intro hp;split at hp
        ·omega
        ·cases p with
         |none=>have:=hn rfl;omega
         |some ad=>simp at hp
       ·rw[hz];simp[A.repAt]
      ·obtain rfl:p=some ⟨b,off,none⟩:=hpn.resolve_left (by omega);rw[if_neg (by omega)];refine⟨hn0 _ rfl,by omega,_,b,off+l'.toNat*el.z.length,_,rfl,by omega,.inr (by simp[vH]),by simp,A.repAt_take _ (A.repAt_drop _ hat)⟩
     ·have e':=e w';have hs':=hs w';simp only[execOp,ho,hv,Option.map_none];simp[Instr.sliceAt,Instr.slice,underlying,program,hu,e',hs',Result.andThen,Sem.run]
    ·exact hh.elim
   ·exact hh.elim
  ·exact hh.elim
 ·exact hh.elim
theorem p9(hT:Tab.ok P T)(hp:Hp w0 C0 β0 s.bx s.rw w E)(ht:A.repL s.t E a.tmps.toList)(h:wY T s o.op K):xE P a o E K:=by
 cases ho:o.op with
 |move x=>rw[ho] at h;exact⟨_,_,h,jM ht x,fun w'=>by simp[execOp,ho]⟩
 |assign x=>rw[ho] at h;exact⟨_,_,h,jM ht x,fun w'=>by simp[execOp,ho]⟩
 |pick c x y =>
  rw[ho] at h;unfold wY at h
  simp only at h
  split at h
  ·rename_i b hc;obtain⟨hc,-⟩:=kM ht hc;rw[ifK_iff] at h
   cases b with
   |true=>exact⟨_,_,h.1 rfl,jM ht x,fun w'=>by simp[execOp,ho,hc,asBool,Result.andThen]⟩
   |false=>exact⟨_,_,h.2 rfl,jM ht y,fun w'=>by simp[execOp,ho,hc,asBool,Result.andThen]⟩
  ·exact h.elim
 |binOp op t x y t'=>rw[ho] at h;exact jiJ hT ht ho h
 |unOp op t x =>
  rw[ho] at h
  cases op with
  |not =>
   unfold wY at h
   simp only at h
   split at h
   ·rename_i b hb;obtain⟨hb,-⟩:=kM ht hb;exact⟨_,_,h,zG,fun w'=>by simp[execOp,ho,hb,Op.unary,Result.andThen]⟩
   ·exact h.elim
  |neg =>
   unfold wY at h
   simp only at h
   split at h
   ·rename_i k n hb;obtain⟨hb,-⟩:=kM ht hb;exact⟨_,_,h.2,zO h.1,fun w'=>by simp only[execOp,ho,hb,Op.unary,Op.intArith,fS h.1];simp[Result.andThen]⟩
   ·exact h.elim
  |_=>exact h.elim
 |extract x i=>rw[ho] at h;exact jf2 ht ho h
 |makeFunc f first caps=>rw[ho] at h;exact jck ht ho h
 |fieldAddr t x f=>rw[ho] at h;exact jbl hT ht ho h
 |field t x f=>rw[ho] at h;exact jiK hT ht ho h
 |indexAddr t x i=>rw[ho] at h;exact jbn hT hp ht ho h
 |index t x i=>rw[ho] at h;exact jiL hT ht ho h
 |slice t x l hh m =>
  rw[ho] at h
  cases m with
  |none=>exact jiM hT ht ho h
  |some _=>exact h.elim
 |call c =>
  rw[ho] at h;obtain⟨callee,args,ts⟩:=c
  cases callee with
  |builtin b =>
   cases b with
   |len=>exact jnA hT hp ht ho h
   |_=>exact h.elim
  |_=>exact h.elim
 |nilCheck x =>
  rw[ho] at h;have hx:=jM ht x;unfold wY at h
  simp only at h
  split at h
  ·rename_i b off hev;rw[hev] at hx;have hx2:=hx;unfold A.rep at hx;obtain⟨bb,_,hv⟩:=hx;exact⟨_,_,h,hx2,fun w'=>by simp[execOp,ho,hv]⟩
  ·rename_i cs hev;rw[hev] at hx;have hx2:=hx;unfold A.rep at hx;obtain⟨b,off,hv,_⟩:=hx;exact⟨_,_,h,hx2,fun w'=>by simp[execOp,ho,hv]⟩
  ·rename_i f cs hev;rw[hev] at hx;have hx2:=hx;unfold A.rep at hx;obtain⟨us,hv,_⟩:=hx;exact⟨_,_,h,hx2,fun w'=>by simp[execOp,ho,hv]⟩
  ·rename_i f cs hev;rw[hev] at hx;have hx2:=hx;unfold A.rep at hx;obtain⟨us,hv,_⟩:=hx;exact⟨_,_,h,hx2,fun w'=>by simp[execOp,ho,hv]⟩
  ·exact h.elim
 |_=>rw[ho] at h;exact h.elim
end
end
section
def aS{α:Type}:List α->Nat->α->(List α->Prop)->Prop
 |[],_,_,_=>False
 |_::l,0,a,K=>K (a::l)
 |x::l,n+1,a,K=>aS l n a (fun l'=>K (x::l'))
theorem zQ{α:Type}:∀{l:List α} {i:Nat} {a:α} {K:List α->Prop},aS l i a K->i<l.length/\K (l.set i a)
 |[],_,_,_,h=>h.elim
 |_::l,0,a,K,h=>⟨by simp,by simpa [aS] using h⟩
 |x::l,n+1,a,K,h=>by
  obtain⟨h1,h2⟩:=zQ (l:=l) h;exact⟨by simpa using h1,by simpa using h2⟩
def yK:List A->Nat->List A->(List A->Prop)->Prop
 |cs,_,[],K=>K cs
 |cs,off,d::ds,K=>aS cs off d (fun cs'=>yK cs' (off+1) ds K)
def jbT:Nat->List A->(List A->Prop)->Prop
 |0,_,K=>K []
 |n+1,c::cs,K=>jbT n cs (fun l=>K (c::l))
 |_+1,[],_=>False
theorem jdW:∀{n:Nat} {cs:List A} {K:List A->Prop},jbT n cs K->n<=cs.length/\K (cs.take n)
 |0,_,_,h=>⟨by simp,by simpa [jbT] using h⟩
 |n+1,c::cs,K,h=>by
  obtain⟨h1,h2⟩:=jdW (n:=n) h;exact⟨by simpa using h1,by simpa using h2⟩
 |_+1,[],_,h=>h.elim
def zV(a:A)(K:A->Prop):Prop :=
 match a with
 |.dead=>K .dead
 |.v x=>K (.v x)
 |.sl k n cs=>K (.sl k n cs)
 |.own g=>K (.own g)
 |.orow g o=>K (.orow g o)
 |.box b o=>K (.box b o)
 |.pp cs=>K (.pp cs)
 |.gp g o=>K (.gp g o)
 |.adr T=>K (.adr T)
 |.err=>K .err
 |.num=>K .num
 |.clo f cs=>K (.clo f cs)
 |.bm f cs=>K (.bm f cs)
 |.mp ks vs=>K (.mp ks vs)
 |.agg l=>K (.agg l)
 |.tup l=>K (.tup l)
theorem force_iff{a:A}{K:A->Prop}:zV a K↔K a:=by cases a <;> rfl
def jhE(s:S)(t:List A)(K:S->Prop):Prop:=match s with|⟨_,bx,rw⟩=>K ⟨t,bx,rw⟩
def jkB(s:S)(bx:List (List A))(K:S->Prop):Prop:=match s with|⟨t,_,rw⟩=>K ⟨t,bx,rw⟩
def aH(s:S)(rw:List Row)(K:S->Prop):Prop:=match s with|⟨t,bx,_⟩=>K ⟨t,bx,rw⟩
def kT(s:S)(bx:List (List A))(rw:List Row)(K:S->Prop):Prop:=match s with|⟨t,_,_⟩=>K ⟨t,bx,rw⟩
theorem tP{s:S}{t:List A}{K:S->Prop}:jhE s t K↔K ⟨t,s.bx,s.rw⟩:=by cases s;rfl
theorem tO{s:S}{bx:List (List A)}{K:S->Prop}:jkB s bx K↔K ⟨s.t,bx,s.rw⟩:=by cases s;rfl
theorem kW{s:S}{rw:List Row}{K:S->Prop}:aH s rw K↔K ⟨s.t,s.bx,rw⟩:=by cases s;rfl
theorem bQ{s:S}{bx:List (List A)}{rw:List Row}{K:S->Prop}:kT s bx rw K↔K ⟨s.t,bx,rw⟩:=by cases s;rfl
def qA:List Row->(List Row->Prop)->Prop
 |[],K=>K []
 |r::l,K=>match r with
  |.live e k n cs=>qA l fun l'=>K (.live e k n cs::l')
  |.pub k n cs=>qA l fun l'=>K (.pub k n cs::l')
  |.gone=>qA l fun l'=>K (.gone::l')
theorem qR:∀{l:List Row} {K:List Row->Prop},qA l K↔K l
 |[],K=>by simp[qA]
 |r::l,K=>by cases r <;> simp[qA,qR (l:=l)]
def aN{α:Type}(f:α->A):List α->(List A->Prop)->Prop
 |[],K=>K []
 |x::l,K=>zV (f x) fun a=>aN f l fun r=>K (a::r)
theorem qN{α:Type}{f:α->A}:∀{l:List α} {K:List A->Prop},aN f l K↔K (l.map f)
 |[],K=>by simp[aN]
 |x::l,K=>by simp[aN,force_iff,qN (l:=l)]
def gX(s:S):A->Option (List A)
 |.box b off=>match s.bx[b]? with
  |some cs=>some (cs.drop off)
  |none=>none
 |.pp cs=>some cs
 |.gp g off=>match sW globs g with
  |some cs=>some (cs.drop off)
  |none=>none
 |.orow g off=>match s.rw[g]? with
  |some (.live _ k _ cs)=>match k with
   |0=>none
   |_+1=>some (cs.drop off)
  |_=>none
 |_=>none
def jgG(X:Nat->Bool)(x:A):Bool:=match x with|.box b _ => !X b|_=>true
def jit(a:A)(p:Prop):Prop:=match a with
 |.adr _=>False
 |_=>p
theorem noadrK_iff{a:A}{p:Prop}:jit a p↔(∀t,a≠.adr t)/\p:=by cases a <;> simp[jit]
theorem jbY{cs:List A}{E:Env}{us:List Value}(h:A.repC (n9 cs) E us)(off:Nat):A.repC (n9 (cs.drop off)) E (us.drop off):=by
 cases off with
 |zero=>simpa using h
 |succ o =>
  cases cs with
  |nil=>exact A.repC_drop (o+1) h
  |cons x r =>
   have e:(n9 (x::r)).drop (o+1)=r.drop o:=by cases x <;> rfl
   have h2:=A.repC_drop (o+1) h;rw[e] at h2;rw[List.drop_succ_cons,yI (jbb h2)];exact h2
theorem jox(cs:List A)(n:Nat):n9 (cs.take n)=(n9 cs).take n:=by
 cases n with
 |zero=>simp[n9]
 |succ n =>
  cases cs with
  |nil=>rfl
  |cons a r=>cases a <;> rfl
def m9(T:List (Nat×Te))(X:Nat->Bool)(s:S)(t:Nat)(x:Operand)(K:A->Prop):Prop :=
 match Tab.get T t with
 |some e =>
  match jgG X (ev s x) with
  |true=>match gX s (ev s x) with
   |some cs=>match e.d.agg with
    |true=>jbT e.z.length cs fun l=>K (.agg (n9 l))
    |false=>match cs with
     |c::_=>jit c (K c)
     |[]=>False
   |none=>False
  |false=>False
 |none=>False
def Same(X:Nat->Bool)(E:Env)(w w':World):Prop:=∀b,b<w.heap.size->(∀i:Nat,E.β[i]?=some b->X i=false)->w'.heap[b]?=w.heap[b]?
def jqp(X:Nat->Bool)(E:Env)(w w':World):Prop:=X 1000000007=false->Same X E w w'
section
variable{P:Program}{T:List (Nat×Te)}{w0:W0}{w:World}{C0:Rd}{β0:List Nat}{s:S}{a:Act}{E:Env}{o:Oper}
theorem Same.refl(X:Nat->Bool)(E:Env)(w:World):Same X E w w:=fun _ _ _=>rfl
theorem Same.cell{X:Nat->Bool}(hp:Hp w0 C0 β0 s.bx s.rw w E){w':World}(h:Same X E w w'){ad:Addr}{u:Value}(hc:E.C ad=some u):(kQ w') ad=some u:=by
 have h1:=hp.sub ad u hc;refine(aP (w:=w) (h ad.block (hp.clt hc) (fun i hi=>?_))).trans h1;have:E.C ad=none:=hp.bC ad.block (List.mem_iff_getElem?.2 ⟨i,hi⟩) ad.off ad.spot;rw[this] at hc;cases hc
theorem Same.box{X:Nat->Bool}(hp:Hp w0 C0 β0 s.bx s.rw w E){w':World}(h:Same X E w w'){i b:Nat}(hi:E.β[i]?=some b)(hx:X i=false):w'.heap[b]?=w.heap[b]?:=by
 refine h b (hp.blt (List.mem_iff_getElem?.2 ⟨i,hi⟩)) (fun j hj=>?_);have e1:=List.getElem?_eq_some_iff.1 hi;have e2:=List.getElem?_eq_some_iff.1 hj;have:i=j:=x8 hp.bnd (e1.2.trans e2.2.symm);rw[<- this];exact hx
theorem Same.row{X:Nat->Bool}(hp:Hp w0 C0 β0 s.bx s.rw w E){w':World}(h:Same X E w w'){g e k n:Nat}{cs:List A}{y:Value}{b:Nat}(h1:s.rw[g]?=some (.live e k n cs))(h2:E.ρ[g]?=some y)(h3:blk y=some b):w'.heap[b]?=w.heap[b]? :=
 h b (hp.rlt h1 h2 h3).2 (fun i hi=>absurd (List.mem_iff_getElem?.2 ⟨i,hi⟩) (hp.rC g e k n cs y b h1 h2 h3).1)
theorem jkJ(hp:Hp w0 C0 β0 s.bx s.rw w E){x:A}{y:Value}{cs:List A}{X:Nat->Bool}(hx:x.rep E y)(hX:jgG X x=true)(h:gX s x=some cs) :
  ∃b off us,y=.pointer (some ⟨b,off,none⟩)/\A.repC (n9 cs) E us/\∀w',Same X E w w'->∀j u,us[j]?=some u->w'.cell? ⟨b,off+j,none⟩=some u:=by
 cases x with
 |box i off =>
  unfold A.rep at hx;obtain⟨b,hb,hy⟩:=hx;simp only[gX] at h;split at h
  ·rename_i cs' hcs;cases h;obtain⟨T',arr,h1,h2⟩:=hp.bxs i b cs' hb hcs;refine⟨b,off,arr.toList.drop off,hy,jbY h2.1 off,fun w' hw j u hu=>?_⟩;rw[List.getElem?_drop] at hu;have e:=Same.box hp hw hb (by simpa [jgG] using hX);simp only[kQ,World.cell?,e,h1];simpa using hu
  ·cases h
 |pp cs' =>
  unfold A.rep at hx;obtain⟨b,off,hy,hr⟩:=hx;simp only[gX] at h;cases h;obtain⟨us,h1,h2⟩:=A.repAt_vals hr;exact⟨b,off,us,hy,by rw[yI (jbb h1)];exact A.repC.mono cs E.per_le h1,fun w' hw j u hu=>Same.cell hp hw (h2 j u hu)⟩
 |gp g off =>
  unfold A.rep at hx;simp only[gX] at h;split at h
  ·rename_i cs' hg;cases h;have h0:=A.repAt_drop off (hp.gok.at hg);rw[Nat.zero_add] at h0;obtain⟨us,h1,h2⟩:=A.repAt_vals h0;exact⟨g,off,us,hx,by rw[yI (jbb h1)];exact A.repC.mono _ E.per_le h1,fun w' hw j u hu=>Same.cell hp hw (h2 j u hu)⟩
  ·cases h
 |orow g off =>
  unfold A.rep at hx;obtain⟨b,n,cap,hb,hy⟩:=hx;simp only[gX] at h;split at h
  ·rename_i e k n' cs' hg;split at h
   ·cases h
   rename_i k;cases h;obtain⟨xs,⟨hown,_⟩,hr⟩:=hp.rws g _ _ hg hb;have hown:=hown.row (by omega);refine⟨b,off,xs.drop off,hy,by rw[yI (jbb (A.repC_drop off hr))];exact A.repC.mono _ E.per_le (A.repC_drop off hr),fun w' hw j u hu=>?_⟩;rw[List.getElem?_drop] at hu;have e:=Same.row hp hw hg hb rfl;have:=hown.cells (g:=b) rfl (off+j) u hu;rw[vH,Nat.zero_add] at this;rw[World.cell?_of_block (w:=w) (a:=⟨b,off+j,none⟩) e];exact this
  ·cases h
 |_=>simp[gX] at h
theorem jb9{X:Nat->Bool}{t:Nat}{x:Operand}{K:A->Prop}(G:World->Prop)(hT:Tab.ok P T)(hx:(ev s x).rep E (a.eval x))(ho:o.op=.load t x)(h:m9 T X s t x K)
  (hG:∀cs,jgG X (ev s x)=true->gX s (ev s x)=some cs->∃b off us,a.eval x=.pointer (some ⟨b,off,none⟩)/\A.repC (n9 cs) E us/\∀w',G w'->∀j u,us[j]?=some u->w'.cell? ⟨b,off+j,none⟩=some u) :
  ∃r y,K r/\r.rep E y/\∀w',G w'->(execOp a.eval o).run P w'=.ok (.value y) w':=by
 unfold m9 at h;split at h
 ·rename_i e htab;split at h
  rotate_left
  ·exact h.elim
  rename_i hX;split at h
  ·rename_i cs hcs;obtain⟨b,off,us,hy,hr,hc⟩:=hG cs hX hcs
   have hagg:=fun w'=>hT.agg htab w'
   have hsz:=fun w'=>hT.size htab w'
   split at h
   ·rename_i hag;obtain⟨h1,h2⟩:=jdW h;refine⟨_,.agg (us.take e.z.length).toArray,h2,?_,fun w' hw=>?_⟩
    ·unfold A.rep;refine⟨_,rfl,?_⟩;rw[jox];simpa using A.repC_take _ hr
    ·have hl:=run_loadCells_list (P:=P) w' ⟨b,off,none⟩ (us.take e.z.length) (fun j v hv=>by
      rw[vH];refine hc w' hw j v ?_;rw[List.getElem?_take] at hv;split at hv
      ·exact hv
      ·cases hv)
     have hlen:(us.take e.z.length).length=e.z.length:=by
      rw[List.length_take,A.repC_len hr,jkw];omega
     rw[hlen] at hl;have q1:=hagg w';rw[hag] at q1;simp[execOp,ho,hy,Instr.loadAt,Instr.sureAddr,loadVar,q1,hsz w',hl,Result.andThen]
   ·rename_i hag;split at h
    ·rename_i c cs';obtain⟨hna,h⟩:=noadrK_iff.1 h;rw[yI fun t r e9=>hna t (by injection e9)] at hr;unfold A.repC at hr;obtain⟨u,us',rfl,h1,h2,h3⟩:=hr;refine⟨_,u,h,h2,fun w' hw=>?_⟩;have q1:=hagg w';rw[hag] at q1;have q2:=hc w' hw 0 u (by simp);simp only[Nat.add_zero] at q2;simp[execOp,ho,hy,Instr.loadAt,Instr.sureAddr,loadVar,q1,load,Sem.run,q2,Result.andThen]
    ·exact h.elim
  ·exact h.elim
 ·exact h.elim
theorem jjW{X:Nat->Bool}{t:Nat}{x:Operand}{K:A->Prop}(hT:Tab.ok P T)(hp:Hp w0 C0 β0 s.bx s.rw w E)(ht:A.repL s.t E a.tmps.toList)(ho:o.op=.load t x)(h:m9 T X s t x K) :
  ∃r y,K r/\r.rep E y/\∀w',Same X E w w'->(execOp a.eval o).run P w'=.ok (.value y) w' :=
 jb9 (Same X E w) hT (jM ht x) ho h fun cs hX hcs=>jkJ hp (jM ht x) hX hcs
theorem jgu{X:Nat->Bool}{t:Nat}{x:Operand}{K:A->Prop}{i off0:Nat}(hT:Tab.ok P T)(hp:Hp w0 C0 β0 s.bx s.rw w E)(ht:A.repL s.t E a.tmps.toList)(ho:o.op=.load t x)(h:m9 T X s t x K)(hev:ev s x=.box i off0) :
  ∃r y,K r/\r.rep E y/\∀w',(∀b,E.β[i]?=some b->w'.heap[b]?=w.heap[b]?)->(execOp a.eval o).run P w'=.ok (.value y) w':=by
 refine jb9 (fun w'=>∀b,E.β[i]?=some b->w'.heap[b]?=w.heap[b]?) hT (jM ht x) ho h fun cs hX hcs=>?_
 have hx:=jM ht x;rw[hev] at hx hcs;unfold A.rep at hx;obtain⟨b,hb,hy⟩:=hx;simp only[gX] at hcs;split at hcs
 ·rename_i cs' hcs';cases hcs;obtain⟨T',arr,h1,h2⟩:=hp.bxs i b cs' hb hcs';refine⟨b,off0,arr.toList.drop off0,hy,jbY h2.1 off0,fun w' hw j u hu=>?_⟩;rw[List.getElem?_drop] at hu;simp only[kQ,World.cell?,hw b hb,h1];simpa using hu
 ·cases hcs
end
end
section
mutual
def okA:A->Prop
 |.v x=>fD x
 |.sl k n cs=>cs.length=n*k/\n<=maxLen/\nN cs
 |.pp cs=>nN cs
 |.agg l=>nN l
 |.tup l=>nN l
 |_=>True
def nN:List A->Prop
 |[]=>True
 |a::r=>okA a/\nN r
end
mutual
theorem jk3:∀(a:A) {E:Env} {y:Value},a.rep E y->okA a
 |.dead,_,_,_=>by unfold okA;trivial
 |.v x,_,_,h=>by unfold okA;exact(A.rep_v_iff.1 h).2
 |.sl k n cs,_,_,h=>by
  obtain⟨h1,h2,p,b,off,cap,_,_,_,_,h3⟩:=yU h;unfold okA;exact⟨h1,h2,jsf cs h3⟩
 |.own g,_,_,_=>by unfold okA;trivial
 |.orow g o,_,_,_=>by unfold okA;trivial
 |.box b o,_,_,_=>by unfold okA;trivial
 |.pp cs,_,_,h=>by
  unfold A.rep at h;obtain⟨b,off,_,h⟩:=h;unfold okA;exact jsf cs h
 |.gp _ _,_,_,_=>by unfold okA;trivial
 |.adr _,_,_,_=>by unfold okA;trivial
 |.err,_,_,_=>by unfold okA;trivial
 |.num,_,_,_=>by unfold okA;trivial
 |.clo f l,_,_,_=>by unfold okA;trivial
 |.bm f l,_,_,_=>by unfold okA;trivial
 |.mp ks vs,_,_,_=>by unfold okA;trivial
 |.agg l,_,_,h=>by
  unfold A.rep at h;obtain⟨us,_,h⟩:=h;unfold okA;exact kZ l (A.repC_L h)
 |.tup l,_,_,h=>by
  unfold A.rep at h;obtain⟨us,_,h⟩:=h;unfold okA;exact kZ l h
theorem kZ:∀(l:List A) {E:Env} {us:List Value},A.repL l E us->nN l
 |[],_,_,_=>by unfold nN;trivial
 |a::r,_,us,h=>by
  unfold A.repL at h;obtain⟨u,us',_,h1,h2⟩:=h;unfold nN;exact⟨jk3 a h1,kZ r h2⟩
theorem jsf:∀(l:List A) {E:Env} {b off:Nat},A.repAt l E b off->nN l
 |[],_,_,_,_=>by unfold nN;trivial
 |a::r,_,_,_,h=>by
  unfold A.repAt at h;obtain⟨⟨u,_,_,h1⟩,h2⟩:=h;unfold nN;exact⟨jk3 a h1,jsf r h2⟩
end
theorem okA_int{n:Int}:okA (.v (.int .i64 n)) ↔ -9223372036854775808<=n/\n<=9223372036854775807:=by unfold okA;exact okV_int
noncomputable def zA(C:Rd)(w w':World):Rd:=fun ad=>if ad.block<w.heap.size then C ad else(kQ w') ad
def Spec(P:Program)(f:Nat)(ins:List (List A))(args:List A)(post:List (List A)->A->Prop):Prop :=
 (∀vs w,(callFunc f vs).run P w=.ok (.enter f vs) w) ∧
 ∀(w:World) (C:Rd) (β:List Nat) (vals:List Value),Gok C w->Sub C (kQ w)->β.Nodup->(∀b∈β,∀o sp,C ⟨b,o,sp⟩=none)->ins.length=β.length →
  (∀(i b:Nat) (cs:List A),β[i]?=some b->ins[i]?=some cs->boxAt w ⟨C,β,[]⟩ b cs)->A.repL args ⟨C,β,[]⟩ vals →
  Calls P f vals.toArray w (fun e w'=>∃outs r v,e=.returned v/\post outs r/\Keeps β w w'/\outs.length=β.length ∧
   (∀(i b:Nat) (cs:List A),β[i]?=some b->outs[i]?=some cs->boxAt w' ⟨zA C w w',β,[]⟩ b cs)/\r.rep ⟨zA C w w',β,[]⟩ v)
def jcv(Cl:Array Value->World->(Ending->World->Prop)->Prop)(ins:List (List A))(args:List A)(post:List (List A)->A->Prop)(pn:List PanicEntry->Prop):Prop :=
 ∀(w:World) (C:Rd) (β:List Nat) (vals:List Value),Gok C w->Sub C (kQ w)->β.Nodup->(∀b∈β,∀o sp,C ⟨b,o,sp⟩=none)->ins.length=β.length →
  (∀(i b:Nat) (cs:List A),β[i]?=some b->ins[i]?=some cs->boxAt w ⟨C,β,[]⟩ b cs)->A.repL args ⟨C,β,[]⟩ vals →
  Cl vals.toArray w (fun e w'=>(∃outs r v,e=.returned v/\post outs r/\Keeps β w w'/\outs.length=β.length ∧
   (∀(i b:Nat) (cs:List A),β[i]?=some b->outs[i]?=some cs->boxAt w' ⟨zA C w w',β,[]⟩ b cs)/\r.rep ⟨zA C w w',β,[]⟩ v) ∨
   ∃(ch:List PanicEntry) (ns:List Nat),e=.panicked ch/\pn ch/\Keeps β w w'/\ns.length=β.length/\∀(i b n:Nat),β[i]?=some b->ns[i]?=some n->boxAt w' ⟨C,β,[]⟩ b (List.replicate n .dead))
def SpecP(P:Program)(f:Nat)(ins:List (List A))(args:List A)(post:List (List A)->A->Prop)(pn:List PanicEntry->Prop):Prop :=
 (∀vs w,(callFunc f vs).run P w=.ok (.enter f vs) w)/\jcv (Calls P f) ins args post pn
theorem SpecP.mono{P:Program}{f:Nat}{ins:List (List A)}{args:List A}{post post':List (List A)->A->Prop}{pn pn':List PanicEntry->Prop}(h:SpecP P f ins args post pn)(hp:∀o r,post o r->post' o r)(hn:∀ch,pn ch->pn' ch):SpecP P f ins args post' pn' :=
 ⟨h.1,fun w C β vals h0 h1 h2 h3 h4 h5 h6=>(h.2 w C β vals h0 h1 h2 h3 h4 h5 h6).mono fun e w' hh=>hh.elim (fun ⟨outs,r,v,k1,k2,k3⟩=>.inl ⟨outs,r,v,k1,hp _ _ k2,k3⟩) fun ⟨ch,ns,k1,k2,k3⟩=>.inr ⟨ch,ns,k1,hn _ k2,k3⟩⟩
def idx(X:List Nat)(b:Nat):Option Nat:=match X with
 |[]=>none
 |x::r=>match Nat.beq x b with|true=>some 0|false=>match idx r b with|some j=>some (j+1)|none=>none
mutual
def ren(X:List Nat)(rw:List Row):A->Option A
 |.dead=>some .dead
 |.v x=>some (.v x)
 |.sl k n cs=>some (.sl k n cs)
 |.pp cs=>some (.pp cs)
 |.gp g o=>some (.gp g o)
 |.adr T=>some (.adr T)
 |.err=>some .err
 |.num=>some .num
 |.own g=>match rw[g]? with
  |some (.pub k n cs)=>some (.sl k n cs)
  |_=>none
 |.orow _ _=>none
 |.box b off=>match idx X b with
  |some j=>some (.box j off)
  |none=>none
 |.clo f caps=>match zC X rw caps with
  |some l=>some (.clo f l)
  |none=>none
 |.bm f fs=>match zC X rw fs with
  |some l=>some (.bm f l)
  |none=>none
 |.mp ks vs=>some (.mp ks vs)
 |.agg l=>match zC X rw l with
  |some l=>some (.agg l)
  |none=>none
 |.tup l=>match zC X rw l with
  |some l=>some (.tup l)
  |none=>none
def zC(X:List Nat)(rw:List Row):List A->Option (List A)
 |[]=>some []
 |a::r=>match ren X rw a with
  |some a=>match zC X rw r with
   |some r=>some (a::r)
   |none=>none
  |none=>none
end
def nP(X:List Nat)(rw:List Row):List (List A)->Option (List (List A))
 |[]=>some []
 |a::r=>match zC X rw a with
  |some a=>match nP X rw r with
   |some r=>some (a::r)
   |none=>none
  |none=>none
mutual
def back(X:List Nat):A->A
 |.box j off=>.box (X.getD j 0) off
 |.clo f caps=>.clo f (y9 X caps)
 |.bm f fs=>.bm f (y9 X fs)
 |.mp ks vs=>.mp ks vs
 |.agg l=>.agg (y9 X l)
 |.tup l=>.tup (y9 X l)
 |.own g=>.own g
 |.gp g o=>.gp g o
 |.adr T=>.adr T
 |.err=>.err
 |.num=>.num
 |.orow g o=>.orow g o
 |.dead=>.dead
 |.v x=>.v x
 |.sl k n cs=>.sl k n cs
 |.pp cs=>.pp cs
def y9(X:List Nat):List A->List A
 |[]=>[]
 |a::r=>back X a::y9 X r
end
def lE:Row->Row
 |.live e k n cs=>match Nat.beq k 0 with
  |true=>.live e k n cs
  |false=>.pub k n cs
 |r=>r
def jA:List Row->List Nat->List Row
 |rw,[]=>rw
 |rw,g::r=>jA (rw.modify g lE) r
section
variable{w0:W0}{C0:Rd}{β0:List Nat}{bx:List (List A)}{rw rw':List Row}{w w':World}{E:Env}
theorem Hp.pub1(h:Hp w0 C0 β0 bx rw w E)(g:Nat):∃C',Hp w0 C0 β0 bx (rw.modify g lE) w ⟨C',E.β,E.ρ⟩/\E.le ⟨C',E.β,E.ρ⟩:=by
 cases hr:rw[g]? with
 |none =>
  refine⟨E.C,?_,Env.le.refl E⟩;rw[List.modify_eq_self (by simpa using hr)];exact h
 |some r =>
  have hm:∀r',lE r=r'->rw.modify g lE=rw.set g r':=fun r' e=>by
   rw[<- e];apply List.ext_getElem?;intro j;rw[List.getElem?_modify,List.getElem?_set];by_cases hj:g=j
   ·subst hj;have e2:=List.getElem?_eq_some_iff.1 hr;simp[e2.1,e2.2]
   ·simp[hj]
  have hs:lE r=r->rw.modify g lE=rw:=fun e=>by
   rw[hm r e];apply List.ext_getElem?;intro j;rw[List.getElem?_set];by_cases hj:g=j
   ·subst hj;have e2:=List.getElem?_eq_some_iff.1 hr;simp[e2.1,e2.2]
   ·simp[hj]
  cases r with
  |live e k n cs =>
   cases hk:Nat.beq k 0 with
   |true=>rw[hs (by simp[lE,hk])];exact⟨E.C,h,Env.le.refl E⟩
   |false =>
    rw[hm (.pub k n cs) (by simp[lE,hk])];exact h.pub (fun e=>by subst e;cases hk) hr
  |pub k n cs=>rw[hs rfl];exact⟨E.C,h,Env.le.refl E⟩
  |gone=>rw[hs rfl];exact⟨E.C,h,Env.le.refl E⟩
theorem Hp.pubs:∀(ids:List Nat) {rw:List Row} {E:Env},Hp w0 C0 β0 bx rw w E->∃C',Hp w0 C0 β0 bx (jA rw ids) w ⟨C',E.β,E.ρ⟩/\E.le ⟨C',E.β,E.ρ⟩
 |[],rw,E,h=>⟨E.C,h,Env.le.refl E⟩
 |g::r,rw,E,h=>by
  obtain⟨C1,h1,l1⟩:=h.pub1 g;obtain⟨C2,h2,l2⟩:=Hp.pubs r h1;exact⟨C2,h2,l1.trans l2⟩
theorem eT:∀{X:List Nat} {b j:Nat},idx X b=some j->X[j]?=some b
 |[],_,_,h=>by simp[idx] at h
 |x::r,b,j,h=>by
  unfold idx at h;split at h
  ·rename_i hb;cases h;simpa using Nat.eq_of_beq_eq_true hb
  ·split at h
   ·rename_i j' hj;cases h;simpa using eT hj
   ·cases h
def yP(E:Env)(X Y:List Nat):Prop:=∀j i:Nat,X[j]?=some i->∃b,Y[j]?=some b/\E.β[i]?=some b
variable{X Y:List Nat}
mutual
theorem ja2(hp:Hp w0 C0 β0 bx rw w E)(hY:yP E X Y):∀(a:A) {a':A} {y:Value},ren X rw a=some a'->a.rep E y->a'.rep ⟨E.C,Y,[]⟩ y
 |.dead,a',y,h,_=>by simp[ren] at h;subst h;exact A.rep_dead _ _
 |.v x,a',y,h,hr=>by simp[ren] at h;subst h;unfold A.rep at hr ⊢;exact hr
 |.sl k n cs,a',y,h,hr=>by simp[ren] at h;subst h;unfold A.rep at hr ⊢;exact hr
 |.pp cs,a',y,h,hr=>by simp[ren] at h;subst h;unfold A.rep at hr ⊢;exact hr
 |.own g,a',y,h,hr=>by
  unfold ren at h;split at h
  ·rename_i k n cs hg;cases h;unfold A.rep at hr;have:=hp.rws g _ y hg hr;have h2:(A.sl k n cs).rep E y:=this;unfold A.rep at h2 ⊢;exact h2
  ·cases h
 |.orow _ _,a',y,h,_=>by simp[ren] at h
 |.box b off,a',y,h,hr=>by
  unfold ren at h;split at h
  ·rename_i j hj;cases h;unfold A.rep at hr ⊢;obtain⟨bb,h1,h2⟩:=hr;obtain⟨b2,h3,h4⟩:=hY j b (eT hj);have:b2=bb:=Option.some.inj (h4.symm.trans h1);subst this;exact⟨b2,h3,h2⟩
  ·cases h
 |.gp _ _,a',y,h,hr=>by unfold ren at h;cases h;unfold A.rep at hr ⊢;exact hr
 |.adr _,a',y,h,hr=>by unfold A.rep at hr;exact hr.elim
 |.err,a',y,h,hr=>by unfold ren at h;cases h;unfold A.rep at hr ⊢;exact hr
 |.num,a',y,h,hr=>by unfold ren at h;cases h;unfold A.rep at hr ⊢;exact hr
 |.clo f caps,a',y,h,hr=>by
  unfold ren at h;split at h
  ·rename_i l hl;cases h;unfold A.rep at hr ⊢;obtain⟨us,h1,h2⟩:=hr;exact⟨us,h1,wM hp hY caps hl h2⟩
  ·cases h
 |.bm f fs,a',y,h,hr=>by
  unfold ren at h;split at h
  ·rename_i l hl;cases h;unfold A.rep at hr ⊢;obtain⟨us,h1,h2⟩:=hr;exact⟨us,h1,wM hp hY fs hl h2⟩
  ·cases h
 |.mp ks vs,a',y,h,hr=>by unfold ren at h;cases h;unfold A.rep at hr ⊢;exact hr
 |.agg l,a',y,h,hr=>by
  unfold ren at h;split at h
  ·rename_i l' hl;cases h;unfold A.rep at hr ⊢;obtain⟨us,h1,h2⟩:=hr;exact⟨us,h1,A.repC_mk (wM hp hY l hl (A.repC_L h2)) (A.repC_one h2)⟩
  ·cases h
 |.tup l,a',y,h,hr=>by
  unfold ren at h;split at h
  ·rename_i l' hl;cases h;unfold A.rep at hr ⊢;obtain⟨us,h1,h2⟩:=hr;exact⟨us,h1,wM hp hY l hl h2⟩
  ·cases h
theorem wM(hp:Hp w0 C0 β0 bx rw w E)(hY:yP E X Y):∀(l:List A) {l':List A} {us:List Value},zC X rw l=some l'->A.repL l E us->A.repL l' ⟨E.C,Y,[]⟩ us
 |[],l',us,h,hr=>by simp[zC] at h;subst h;unfold A.repL at hr ⊢;exact hr
 |a::r,l',us,h,hr=>by
  unfold zC at h;split at h
  ·rename_i a1 ha;split at h
   ·rename_i r1 hr1;cases h;unfold A.repL at hr ⊢;obtain⟨u,us',rfl,h1,h2⟩:=hr;exact⟨u,us',rfl,ja2 hp hY a ha h1,wM hp hY r hr1 h2⟩
   ·cases h
  ·cases h
end
theorem tG:∀{l l':List (List A)},nP X rw l=some l'->l'.length=l.length/\∀(j:Nat) (c:List A),l'[j]?=some c->∃c0,l[j]?=some c0/\zC X rw c0=some c
 |[],l',h=>by simp[nP] at h;subst h;simp
 |a::r,l',h=>by
  unfold nP at h;split at h
  ·rename_i a1 ha;split at h
   ·rename_i r1 hr1;cases h;obtain⟨h1,h2⟩:=tG hr1;refine⟨by simp[h1],fun j c hj=>?_⟩
    cases j with
    |zero=>simp at hj;subst hj;exact⟨a,rfl,ha⟩
    |succ j=>simpa using h2 j c (by simpa using hj)
   ·cases h
  ·cases h
mutual
theorem jfx{C':Rd}{ρ':List Value}(hY:yP E X Y)(hl:Y.length=X.length):∀(a:A) {y:Value},a.rep ⟨C',Y,[]⟩ y->(back X a).rep ⟨C',E.β,ρ'⟩ y
 |.dead,y,_=>by unfold back;exact A.rep_dead _ _
 |.v x,y,h=>by unfold back;unfold A.rep at h ⊢;exact h
 |.sl k n cs,y,h=>by unfold back;unfold A.rep at h ⊢;exact h
 |.pp cs,y,h=>by unfold back;unfold A.rep at h ⊢;exact h
 |.own g,y,h=>by unfold A.rep at h;simp at h
 |.orow g o,y,h=>by unfold A.rep at h;obtain⟨_,_,_,h,_⟩:=h;simp at h
 |.box j off,y,h=>by
  unfold back;unfold A.rep at h ⊢;obtain⟨b,h1,h2⟩:=h
  have hj:j<X.length:=by rw[<- hl];exact(List.getElem?_eq_some_iff.1 h1).1
  obtain⟨b2,h3,h4⟩:=hY j X[j] (by simp[hj]);have:b2=b:=Option.some.inj (h3.symm.trans h1);subst this;exact⟨b2,by simpa [List.getD_eq_getElem?_getD,hj] using h4,h2⟩
 |.gp _ _,y,h=>by unfold back;unfold A.rep at h ⊢;exact h
 |.adr _,y,h=>by unfold A.rep at h;exact h.elim
 |.err,y,h=>by unfold back;unfold A.rep at h ⊢;exact h
 |.num,y,h=>by unfold back;unfold A.rep at h ⊢;exact h
 |.clo f caps,y,h=>by
  unfold back;unfold A.rep at h ⊢;obtain⟨us,h1,h2⟩:=h;exact⟨us,h1,aU hY hl caps h2⟩
 |.bm f fs,y,h=>by
  unfold back;unfold A.rep at h ⊢;obtain⟨us,h1,h2⟩:=h;exact⟨us,h1,aU hY hl fs h2⟩
 |.mp ks vs,y,h=>by unfold back;unfold A.rep at h ⊢;exact h
 |.agg l,y,h=>by
  unfold back;unfold A.rep at h ⊢;obtain⟨us,h1,h2⟩:=h;exact⟨us,h1,A.repC_mk (aU hY hl l (A.repC_L h2)) (A.repC_one h2)⟩
 |.tup l,y,h=>by
  unfold back;unfold A.rep at h ⊢;obtain⟨us,h1,h2⟩:=h;exact⟨us,h1,aU hY hl l h2⟩
theorem aU{C':Rd}{ρ':List Value}(hY:yP E X Y)(hl:Y.length=X.length):∀(l:List A) {us:List Value},A.repL l ⟨C',Y,[]⟩ us->A.repL (y9 X l) ⟨C',E.β,ρ'⟩ us
 |[],us,h=>by unfold y9;unfold A.repL at h ⊢;exact h
 |a::r,us,h=>by
  unfold y9;unfold A.repL at h ⊢;obtain⟨u,us',h1,h2,h3⟩:=h;exact⟨u,us',h1,jfx hY hl a h2,aU hY hl r h3⟩
end
end
theorem jpH{X:List Nat}{rw:List Row}{a:A}{t:Nat}(h:ren X rw a=some (.adr t)):a=.adr t:=by
 cases a <;> unfold ren at h <;> (try split at h) <;> (try split at h) <;> first|(cases h;rfl)|(cases h;done)|simpa using h
theorem jdy{X:List Nat}{rw:List Row}{l m:List A}{t:Nat}{r:List A}(h:zC X rw l=some m)(e:m=.adr t::r):∃r',l=.adr t::r':=by
 subst e
 cases l with
 |nil=>unfold zC at h;cases h
 |cons a l =>
  unfold zC at h;split at h
  ·rename_i a1 ha;split at h
   ·cases h;exact⟨l,by rw[jpH ha]⟩
   ·cases h
  ·cases h
theorem jgR{X:List Nat}{rw:List Row}{l m:List A}(h:zC X rw l=some m):zC X rw (n9 l)=some (n9 m):=by
 by_cases hl:∃t r,l=.adr t::r
 ·obtain⟨t,r,rfl⟩:=hl;unfold zC at h;simp only[ren] at h;split at h
  ·rename_i r' hr;cases h;show zC X rw (.dead::r)=some (.dead::r');unfold zC;simp only[ren,hr]
  ·cases h
 ·rw[yI fun t r e=>hl ⟨t,r,e⟩,yI fun t r e=>hl ⟨t,_,(jdy h e).choose_spec⟩];exact h
theorem boxC.ren{T b:Nat}{w0:W0}{C0:Rd}{β0:List Nat}{bx:List (List A)}{rw:List Row}{w:World}{E:Env}{X Y:List Nat}{cs cs':List A}{arr:Array Value}(h:boxC T b cs E arr)(hp:Hp w0 C0 β0 bx rw w E)(hY:yP E X Y)(hr:zC X rw cs=some cs'):boxC T b cs' ⟨E.C,Y,[]⟩ arr :=
 h.rel (fun l m=>zC X rw l=some m) hr (fun l m us e k=>wM hp hY l e k) (fun l m e=>jgR e) fun l t r e=>jdy e rfl
theorem jm1{X:List Nat}{a:A}{t:Nat}(h:back X a=.adr t):a=.adr t:=by
 cases a <;> unfold back at h <;> first|(cases h;done)|(cases h;rfl)
theorem oU(X:List Nat):∀l:List A,y9 X l=l.map (back X)
 |[]=>by simp[y9]
 |a::r=>by unfold y9;rw[oU X r];rfl
theorem boxC.back{T b:Nat}{E:Env}{C':Rd}{ρ':List Value}{X Y:List Nat}{cs:List A}{arr:Array Value}(h:boxC T b cs ⟨C',Y,[]⟩ arr)(hY:yP E X Y)(hl:Y.length=X.length):boxC T b (y9 X cs) ⟨C',E.β,ρ'⟩ arr:=by
 rw[oU];refine h.map (Vm.back X) (fun l us k=>?_) (by unfold Vm.back;rfl) (fun t=>by unfold Vm.back;rfl) (fun a t e=>jm1 e);rw[<- oU];exact aU hY hl l k
end
section
mutual
def renG(X:List Nat)(g:Nat)(rw:List Row):A->Option A
 |.dead=>some .dead
 |.v x=>some (.v x)
 |.sl k n cs=>some (.sl k n cs)
 |.pp cs=>some (.pp cs)
 |.gp a o=>some (.gp a o)
 |.adr T=>some (.adr T)
 |.err=>some .err
 |.num=>some .num
 |.own j=>match Nat.beq j g with
  |true=>some (.own 0)
  |false=>match rw[j]? with
   |some (.pub k n cs)=>some (.sl k n cs)
   |_=>none
 |.orow j o=>match Nat.beq j g with
  |true=>some (.orow 0 o)
  |false=>none
 |.box b off=>match idx X b with
  |some j=>some (.box j off)
  |none=>none
 |.clo f caps=>match kE X g rw caps with
  |some l=>some (.clo f l)
  |none=>none
 |.bm f fs=>match kE X g rw fs with
  |some l=>some (.bm f l)
  |none=>none
 |.mp ks vs=>some (.mp ks vs)
 |.agg l=>match kE X g rw l with
  |some l=>some (.agg l)
  |none=>none
 |.tup l=>match kE X g rw l with
  |some l=>some (.tup l)
  |none=>none
def kE(X:List Nat)(g:Nat)(rw:List Row):List A->Option (List A)
 |[]=>some []
 |a::r=>match renG X g rw a with
  |some a=>match kE X g rw r with
   |some r=>some (a::r)
   |none=>none
  |none=>none
end
def bK(X:List Nat)(g:Nat)(rw:List Row):List (List A)->Option (List (List A))
 |[]=>some []
 |a::r=>match kE X g rw a with
  |some a=>match bK X g rw r with
   |some r=>some (a::r)
   |none=>none
  |none=>none
mutual
def backG(X:List Nat)(g:Nat):A->A
 |.box j off=>.box (X.getD j 0) off
 |.clo f caps=>.clo f (gD X g caps)
 |.bm f fs=>.bm f (gD X g fs)
 |.mp ks vs=>.mp ks vs
 |.agg l=>.agg (gD X g l)
 |.tup l=>.tup (gD X g l)
 |.own _=>.own g
 |.gp g o=>.gp g o
 |.adr T=>.adr T
 |.err=>.err
 |.num=>.num
 |.orow _ o=>.orow g o
 |.dead=>.dead
 |.v x=>.v x
 |.sl k n cs=>.sl k n cs
 |.pp cs=>.pp cs
def gD(X:List Nat)(g:Nat):List A->List A
 |[]=>[]
 |a::r=>backG X g a::gD X g r
end
theorem eF(X:List Nat)(g:Nat):∀l:List A,gD X g l=l.map (backG X g)
 |[]=>by simp[gD]
 |a::r=>by unfold gD;rw[eF X g r];rfl
section
variable{w0:W0}{C0:Rd}{β0:List Nat}{bx:List (List A)}{rw:List Row}{w w':World}{E:Env}{X Y:List Nat}{g:Nat}{y0:Value}
mutual
theorem jgQ(hp:Hp w0 C0 β0 bx rw w E)(hY:yP E X Y)(hg:E.ρ[g]?=some y0):∀(a:A) {a':A} {y:Value},renG X g rw a=some a'->a.rep E y->a'.rep ⟨E.C,Y,[y0]⟩ y
 |.dead,a',y,h,_=>by simp[renG] at h;subst h;exact A.rep_dead _ _
 |.v x,a',y,h,hr=>by simp[renG] at h;subst h;unfold A.rep at hr ⊢;exact hr
 |.sl k n cs,a',y,h,hr=>by simp[renG] at h;subst h;unfold A.rep at hr ⊢;exact hr
 |.pp cs,a',y,h,hr=>by simp[renG] at h;subst h;unfold A.rep at hr ⊢;exact hr
 |.own j,a',y,h,hr=>by
  unfold renG at h;split at h
  ·rename_i hb;cases h;have e:=Nat.eq_of_beq_eq_true hb;subst e;unfold A.rep at hr ⊢;have:=Option.some.inj (hg.symm.trans hr);subst this;rfl
  ·split at h
   ·rename_i k n cs hj;cases h;unfold A.rep at hr;have h2:(A.sl k n cs).rep E y:=hp.rws j _ y hj hr;unfold A.rep at h2 ⊢;exact h2
   ·cases h
 |.orow j o,a',y,h,hr=>by
  unfold renG at h;split at h
  ·rename_i hb;cases h;have e:=Nat.eq_of_beq_eq_true hb;subst e;unfold A.rep at hr ⊢;obtain⟨b,n,cap,h1,h2⟩:=hr;exact⟨b,n,cap,by rw[<- h1,hg];rfl,h2⟩
  ·cases h
 |.box b off,a',y,h,hr=>by
  unfold renG at h;split at h
  ·rename_i j hj;cases h;unfold A.rep at hr ⊢;obtain⟨bb,h1,h2⟩:=hr;obtain⟨b2,h3,h4⟩:=hY j b (eT hj);have:b2=bb:=Option.some.inj (h4.symm.trans h1);subst this;exact⟨b2,h3,h2⟩
  ·cases h
 |.gp _ _,a',y,h,hr=>by unfold renG at h;cases h;unfold A.rep at hr ⊢;exact hr
 |.adr _,a',y,h,hr=>by unfold A.rep at hr;exact hr.elim
 |.err,a',y,h,hr=>by unfold renG at h;cases h;unfold A.rep at hr ⊢;exact hr
 |.num,a',y,h,hr=>by unfold renG at h;cases h;unfold A.rep at hr ⊢;exact hr
 |.clo f caps,a',y,h,hr=>by
  unfold renG at h;split at h
  ·rename_i l hl;cases h;unfold A.rep at hr ⊢;obtain⟨us,h1,h2⟩:=hr;exact⟨us,h1,x9 hp hY hg caps hl h2⟩
  ·cases h
 |.bm f fs,a',y,h,hr=>by
  unfold renG at h;split at h
  ·rename_i l hl;cases h;unfold A.rep at hr ⊢;obtain⟨us,h1,h2⟩:=hr;exact⟨us,h1,x9 hp hY hg fs hl h2⟩
  ·cases h
 |.mp ks vs,a',y,h,hr=>by unfold renG at h;cases h;unfold A.rep at hr ⊢;exact hr
 |.agg l,a',y,h,hr=>by
  unfold renG at h;split at h
  ·rename_i l' hl;cases h;unfold A.rep at hr ⊢;obtain⟨us,h1,h2⟩:=hr;exact⟨us,h1,A.repC_mk (x9 hp hY hg l hl (A.repC_L h2)) (A.repC_one h2)⟩
  ·cases h
 |.tup l,a',y,h,hr=>by
  unfold renG at h;split at h
  ·rename_i l' hl;cases h;unfold A.rep at hr ⊢;obtain⟨us,h1,h2⟩:=hr;exact⟨us,h1,x9 hp hY hg l hl h2⟩
  ·cases h
theorem x9(hp:Hp w0 C0 β0 bx rw w E)(hY:yP E X Y)(hg:E.ρ[g]?=some y0):∀(l:List A) {l':List A} {us:List Value},kE X g rw l=some l'->A.repL l E us->A.repL l' ⟨E.C,Y,[y0]⟩ us
 |[],l',us,h,hr=>by simp[kE] at h;subst h;unfold A.repL at hr ⊢;exact hr
 |a::r,l',us,h,hr=>by
  unfold kE at h;split at h
  ·rename_i a1 ha;split at h
   ·rename_i r1 hr1;cases h;unfold A.repL at hr ⊢;obtain⟨u,us',rfl,h1,h2⟩:=hr;exact⟨u,us',rfl,jgQ hp hY hg a ha h1,x9 hp hY hg r hr1 h2⟩
   ·cases h
  ·cases h
end
theorem pJ:∀{l l':List (List A)},bK X g rw l=some l'->l'.length=l.length/\∀(j:Nat) (c:List A),l'[j]?=some c->∃c0,l[j]?=some c0/\kE X g rw c0=some c
 |[],l',h=>by simp[bK] at h;subst h;simp
 |a::r,l',h=>by
  unfold bK at h;split at h
  ·rename_i a1 ha;split at h
   ·rename_i r1 hr1;cases h;obtain⟨h1,h2⟩:=pJ hr1;refine⟨by simp[h1],fun j c hj=>?_⟩
    cases j with
    |zero=>simp at hj;subst hj;exact⟨a,rfl,ha⟩
    |succ j=>simpa using h2 j c (by simpa using hj)
   ·cases h
  ·cases h
theorem mH{y:Value}{j:Nat}{z:Value}(h:[y][j]?=some z):j=0/\z=y:=by
 cases j with
 |zero=>simp at h;exact⟨rfl,h.symm⟩
 |succ j=>simp at h
mutual
theorem jcD{C':Rd}{ρ':List Value}(hY:yP E X Y)(hl:Y.length=X.length)(hg:ρ'[g]?=some y0):∀(a:A) {y:Value},a.rep ⟨C',Y,[y0]⟩ y->(backG X g a).rep ⟨C',E.β,ρ'⟩ y
 |.dead,y,_=>by unfold backG;exact A.rep_dead _ _
 |.v x,y,h=>by unfold backG;unfold A.rep at h ⊢;exact h
 |.sl k n cs,y,h=>by unfold backG;unfold A.rep at h ⊢;exact h
 |.pp cs,y,h=>by unfold backG;unfold A.rep at h ⊢;exact h
 |.own j,y,h=>by
  unfold backG;unfold A.rep at h ⊢;obtain⟨rfl,rfl⟩:=mH h;exact hg
 |.orow j o,y,h=>by
  unfold backG;unfold A.rep at h ⊢;obtain⟨b,n,cap,h1,h2⟩:=h;obtain⟨rfl,h3⟩:=mH h1;exact⟨b,n,cap,by rw[h3];exact hg,h2⟩
 |.box j off,y,h=>by
  unfold backG;unfold A.rep at h ⊢;obtain⟨b,h1,h2⟩:=h
  have hj:j<X.length:=by rw[<- hl];exact(List.getElem?_eq_some_iff.1 h1).1
  obtain⟨b2,h3,h4⟩:=hY j X[j] (by simp[hj]);have:b2=b:=Option.some.inj (h3.symm.trans h1);subst this;exact⟨b2,by simpa [List.getD_eq_getElem?_getD,hj] using h4,h2⟩
 |.gp _ _,y,h=>by unfold backG;unfold A.rep at h ⊢;exact h
 |.adr _,y,h=>by unfold A.rep at h;exact h.elim
 |.err,y,h=>by unfold backG;unfold A.rep at h ⊢;exact h
 |.num,y,h=>by unfold backG;unfold A.rep at h ⊢;exact h
 |.clo f caps,y,h=>by
  unfold backG;unfold A.rep at h ⊢;obtain⟨us,h1,h2⟩:=h;exact⟨us,h1,gE hY hl hg caps h2⟩
 |.bm f fs,y,h=>by
  unfold backG;unfold A.rep at h ⊢;obtain⟨us,h1,h2⟩:=h;exact⟨us,h1,gE hY hl hg fs h2⟩
 |.mp ks vs,y,h=>by unfold backG;unfold A.rep at h ⊢;exact h
 |.agg l,y,h=>by
  unfold backG;unfold A.rep at h ⊢;obtain⟨us,h1,h2⟩:=h;exact⟨us,h1,A.repC_mk (gE hY hl hg l (A.repC_L h2)) (A.repC_one h2)⟩
 |.tup l,y,h=>by
  unfold backG;unfold A.rep at h ⊢;obtain⟨us,h1,h2⟩:=h;exact⟨us,h1,gE hY hl hg l h2⟩
theorem gE{C':Rd}{ρ':List Value}(hY:yP E X Y)(hl:Y.length=X.length)(hg:ρ'[g]?=some y0):∀(l:List A) {us:List Value},A.repL l ⟨C',Y,[y0]⟩ us->A.repL (gD X g l) ⟨C',E.β,ρ'⟩ us
 |[],us,h=>by unfold gD;unfold A.repL at h ⊢;exact h
 |a::r,us,h=>by
  unfold gD;unfold A.repL at h ⊢;obtain⟨u,us',h1,h2,h3⟩:=h;exact⟨u,us',h1,jcD hY hl hg a h2,gE hY hl hg r h3⟩
end
theorem Hp.callR(h:Hp w0 C0 β0 bx rw w E){e k n n':Nat}{cs cs':List A}{y y':Value}{xs':List Value}(hg:rw[g]?=some (.live e k n cs))(hy:E.ρ[g]?=some y)
  {Y:List Nat} (hY:∀b∈Y,b∈E.β) (kp:Keeps (Y++(blk y).toList) w w') {C':Rd} (hC:Sub E.C C') (hC':Sub C' (kQ w')) (hnew:∀ad u,C' ad=some u->E.C ad=some u∨w.heap.size<=ad.block∨blk y=some ad.block)
  {bx':List (List A)} (hbl:bx'.length=bx.length) (hown:owR w' e k y' n' xs') (hr:A.repC cs' ⟨C',[],[]⟩ xs') (hy':∀b,blk y'=some b->(∀o sp,C' ⟨b,o,sp⟩=none)/\(w.heap.size<=b∨blk y=some b))
  (hbx:∀(i b:Nat) (cs:List A),E.β[i]?=some b->bx'[i]?=some cs->boxAt w' ⟨C',E.β,E.ρ++[y']⟩ b cs∨(b∉Y/\bx[i]?=some cs)) :
  Hp w0 C0 β0 bx' (rw.set g .gone++[.live e k n' cs']) w' ⟨C',E.β,E.ρ++[y']⟩/\E.le ⟨C',E.β,E.ρ++[y']⟩:=by
 have le:E.le ⟨C',E.β,E.ρ++[y']⟩:=⟨hC,fun _ _ h=>h,fun i b hb=>by
  have:=(List.getElem?_eq_some_iff.1 hb).1
  rw[List.getElem?_append_left this];exact hb⟩
 have hmem:∀b,b∈Y++(blk y).toList↔b∈Y∨blk y=some b:=fun b=>by cases blk y <;> simp[eq_comm]
 have hnone:∀b,b<w.heap.size->blk y≠some b->(∀o sp,E.C ⟨b,o,sp⟩=none)->∀o sp,C' ⟨b,o,sp⟩=none:=fun b hb hnb hn o sp=>by
  cases hc:C' ⟨b,o,sp⟩ with
  |none=>rfl
  |some u =>
   rcases hnew _ _ hc with h2|h2|h2
   ·rw[hn] at h2;cases h2
   ·simp at h2;omega
   ·exact absurd h2 hnb
 have hgl:=(List.getElem?_eq_some_iff.1 hg).1
 have part:∀(j:Nat) (r:Row) (z:Value),(rw.set g .gone++[Row.live e k n' cs'])[j]?=some r->(E.ρ++[y'])[j]?=some z->(rw[j]?=some r/\E.ρ[j]?=some z/\j≠g)∨r=.gone∨(r=.live e k n' cs'/\z=y'/\j=rw.length):=fun j r z h1 h2=>by
  by_cases hj:j<rw.length
  ·rw[List.getElem?_append_left (by simpa using hj)] at h1;rw[List.getElem?_append_left (by rw[<- h.rl];exact hj)] at h2;by_cases hjg:g=j
   ·subst hjg;rw[List.getElem?_set_self hgl] at h1;cases h1;exact .inr (.inl rfl)
   ·rw[List.getElem?_set_ne hjg] at h1;exact .inl ⟨h1,h2,fun e=>hjg e.symm⟩
  ·rw[List.getElem?_append_right (by simp;omega)] at h1;rw[List.getElem?_append_right (by rw[<- h.rl];omega)] at h2
   have hi0:j-rw.length=0:=by
    have:=(List.getElem?_eq_some_iff.1 h1).1;simp at this;omega
   rw[List.length_set,hi0] at h1;rw[<- h.rl,hi0] at h2;simp at h1 h2;exact .inr (.inr ⟨h1.symm,h2.symm,by omega⟩)
 have keepb:∀b,b<w.heap.size->b∉Y->blk y≠some b->w'.heap[b]?=w.heap[b]?:=fun b h1 h2 h3=>kp.block b h1 fun hm=>((hmem b).1 hm).elim h2 h3
 have keepr:∀(j e' k' m:Nat) (ds:List A) (z:Value) (b:Nat),j≠g->rw[j]?=some (.live e' k' m ds)->E.ρ[j]?=some z->blk z=some b->w'.heap[b]?=w.heap[b]?:=fun j e' k' m ds z b hj h1 h2 h3 =>
  keepb b (h.rlt h1 h2 h3).2 (fun hm=>(h.rC j e' k' m ds z b h1 h2 h3).1 (hY b hm)) fun hb=>h.rd g e k n cs y j e' k' m ds z b (Ne.symm hj) hg hy h1 h2 hb h3
 refine⟨⟨hC',h.base.trans hC,fun ad u hc=>?_,h.bp,h.bnd,fun b hb=>hnone b (h.blt hb) (fun e2=>(h.rC g e k n cs y b hg hy e2).1 hb) (h.bC b hb),by rw[hbl];exact h.bl,fun i b cs1 h1 h2=>?_,by simp[h.rl],fun j r z h1 h2=>?_,fun j e' k' m ds z b h1 h2 h3=>?_,fun j e1 k1 n1 cs1 z j' e2 k2 n2 cs2 z' b hne h1 h2 h3 h4 h5=>?_,fun j z h1=>nS h.rs hown.kind j z h1,?_,h.gk⟩,le⟩
 ·rcases hnew ad u hc with h2|h2|h2
  ·exact h.fresh ad u h2
  ·exact .inr (.inl (Nat.le_trans h.keep.size h2))
  ·exact .inr (h.rlt hg hy h2).1
 ·rcases hbx i b cs1 h1 h2 with h3|⟨h3,h4⟩
  ·exact h3
  ·have hm:b∈E.β:=List.mem_iff_getElem?.2 ⟨i,h1⟩;exact((h.bxs i b cs1 h1 h4).same (keepb b (h.blt hm) h3 fun hb=>(h.rC g e k n cs y b hg hy hb).1 hm)).mono le
 ·rcases part j r z h1 h2 with ⟨h3,h4,h5⟩|rfl|⟨rfl,rfl,_⟩
  ·refine(h.rws j r z h3 h4).mono le (fun e' k' m ds hr' b hb=>?_);subst hr';exact keepr j e' k' m ds z b h5 h3 h4 hb
  ·exact trivial
  ·refine⟨xs',⟨hown,fun b hb=>?_⟩,hr⟩;rcases(hy' b hb).2 with h5|h5
   ·exact .inl (Nat.le_trans h.keep.size h5)
   ·exact(h.rlt hg hy h5).1
 ·rcases part j _ z h1 h2 with ⟨h4,h5,h6⟩|h4|⟨h4,rfl,_⟩
  ·have h7:=h.rC j e' k' m ds z b h4 h5 h3;exact⟨h7.1,hnone b (h.rlt h4 h5 h3).2 (fun e2=>h.rd g e k n cs y j e' k' m ds z b (Ne.symm h6) hg hy h4 h5 e2 h3) h7.2⟩
  ·cases h4
  ·refine⟨fun hm=>?_,(hy' b h3).1⟩;rcases(hy' b h3).2 with h5|h5
   ·have:=h.blt hm;omega
   ·exact(h.rC g e k n cs y b hg hy h5).1 hm
 ·rcases part j _ z h1 h2 with ⟨k3,k4,k5⟩|k3|⟨_,rfl,k3⟩
  ·rcases part j' _ z' h3 h4 with ⟨k6,k7,k8⟩|k6|⟨_,rfl,_⟩
   ·exact h.rd j e1 k1 n1 cs1 z j' e2 k2 n2 cs2 z' b hne k3 k4 k6 k7 h5
   ·cases k6
   ·intro hb;rcases(hy' b hb).2 with h6|h6
    ·have:=(h.rlt k3 k4 h5).2;omega
    ·exact h.rd g e k n cs y j e1 k1 n1 cs1 z b (Ne.symm k5) hg hy k3 k4 h6 h5
  ·cases k3
  ·rcases part j' _ z' h3 h4 with ⟨k6,k7,k8⟩|k6|⟨_,rfl,k6⟩
   ·intro hb;rcases(hy' b h5).2 with h6|h6
    ·have:=(h.rlt k6 k7 hb).2;omega
    ·exact h.rd g e k n cs y j' e2 k2 n2 cs2 z' b (Ne.symm k8) hg hy k6 k7 h6 hb
   ·cases k6
   ·omega
 ·refine h.keep.step kp (fun b hb=>?_);rcases(hmem b).1 hb with h1|h1
  ·obtain⟨β',hβ,hβ'⟩:=h.bp;have h2:=hY b h1;rw[hβ] at h2;rcases List.mem_append.1 h2 with h3|h3
   ·exact .inl (List.mem_append_left _ h3)
   ·exact .inr (hβ' b h3)
  ·exact(h.rlt hg hy h1).1.elim .inr fun hx=>.inl (List.mem_append_right _ hx)
end
def je5(Cl:Array Value->World->(Ending->World->Prop)->Prop)(ins:List (List A))(e k n:Nat)(cs:List A)(args:List A)(post:List (List A)->Nat->List A->A->Prop)(pn:List PanicEntry->Prop):Prop :=
 ∀(w:World) (C:Rd) (β:List Nat) (vals:List Value) (y:Value) (xs:List Value),Gok C w->Sub C (kQ w)->β.Nodup->(∀b∈β,∀o sp,C ⟨b,o,sp⟩=none)->ins.length=β.length →
  (∀(i b:Nat) (cs:List A),β[i]?=some b->ins[i]?=some cs->boxAt w ⟨C,β,[y]⟩ b cs)->owR w e k y n xs->A.repC cs ⟨C,[],[]⟩ xs->(∀b,blk y=some b->b∉β/\∀o sp,C ⟨b,o,sp⟩=none)->A.repL args ⟨C,β,[y]⟩ vals →
  Cl vals.toArray w (fun e' w'=>(∃(outs:List (List A)) (n':Nat) (cs':List A) (r:A) (v y':Value) (xs':List Value) (C':Rd),e'=.returned v/\post outs n' cs' r/\Keeps (β++(blk y).toList) w w'/\Sub C C'/\Sub C' (kQ w')/\(∀ad u,C' ad=some u->C ad=some u∨w.heap.size<=ad.block∨blk y=some ad.block)/\outs.length=β.length ∧
   (∀(i b:Nat) (cs:List A),β[i]?=some b->outs[i]?=some cs->boxAt w' ⟨C',β,[y']⟩ b cs)/\owR w' e k y' n' xs'/\A.repC cs' ⟨C',[],[]⟩ xs'/\(∀b,blk y'=some b->(∀o sp,C' ⟨b,o,sp⟩=none)/\(w.heap.size<=b∨blk y=some b))/\r.rep ⟨C',β,[y']⟩ v) ∨
   ∃(ch:List PanicEntry) (ns:List Nat),e'=.panicked ch/\pn ch/\Keeps (β++(blk y).toList) w w'/\ns.length=β.length/\∀(i b n:Nat),β[i]?=some b->ns[i]?=some n->boxAt w' ⟨C,β,[]⟩ b (List.replicate n .dead))
def iH(P:Program)(f:Nat)(ins:List (List A))(e k n:Nat)(cs:List A)(args:List A)(post:List (List A)->Nat->List A->A->Prop)(pn:List PanicEntry->Prop):Prop :=
 (∀vs w,(callFunc f vs).run P w=.ok (.enter f vs) w)/\je5 (Calls P f) ins e k n cs args post pn
abbrev m8(P:Program)(f:Nat)(ins:List (List A))(e k n:Nat)(cs:List A)(args:List A)(post:List (List A)->Nat->List A->A->Prop):Prop:=iH P f ins e k n cs args post fun _=>False
def fZ(X0:List Nat)(g:Nat):List (List A)->List Nat->List (List A)->(List (List A)->Prop)->Prop
 |bx,i::X,o::os,K=>aN (backG X0 g) o fun o'=>aS bx i o' fun bx'=>fZ X0 g bx' X os K
 |bx,[],[],K=>K bx
 |_,_,_,_=>False
theorem jdp{X0:List Nat}{g:Nat}:∀{X:List Nat} {os bx:List (List A)} {K:List (List A)->Prop},X.Nodup->fZ X0 g bx X os K->os.length=X.length/\∃bx',K bx'/\bx'.length=bx.length/\(∀i,i∉X->bx'[i]?=bx[i]?)/\∀(j i:Nat) (o:List A),X[j]?=some i->os[j]?=some o->bx'[i]?=some (gD X0 g o)
 |i::X,o::os,bx,K,hn,h=>by
  unfold fZ at h;rw[qN] at h;obtain⟨hi,h⟩:=zQ h;have hn2:=List.nodup_cons.1 hn;obtain⟨h1,bx',h2,h3,h4,h5⟩:=jdp hn2.2 h;refine⟨by simp[h1],bx',h2,by rw[h3];simp,fun k hk=>?_,fun j k o' hj ho=>?_⟩
  ·rw[h4 k (fun hm=>hk (List.mem_cons_of_mem _ hm)),List.getElem?_set_ne (fun e=>hk (by simp[e]))]
  ·cases j with
   |zero =>
    simp at hj ho;subst hj;subst ho;rw[h4 i hn2.1,List.getElem?_set_self hi,eF]
   |succ j=>exact h5 j k o' (by simpa using hj) (by simpa using ho)
 |[],[],bx,K,_,h=>⟨rfl,bx,h,rfl,fun _ _=>rfl,fun j i o hj _=>by simp at hj⟩
 |_::_,[],_,_,_,h=>h.elim
 |[],_::_,_,_,_,h=>h.elim
theorem jnF{X:List Nat}{g:Nat}{rw:List Row}{a:A}{t:Nat}(h:renG X g rw a=some (.adr t)):a=.adr t:=by
 cases a <;> unfold renG at h <;> (try split at h) <;> (try split at h) <;> first|(cases h;rfl)|(cases h;done)|simpa using h
theorem jbr{X:List Nat}{g:Nat}{rw:List Row}{l m:List A}{t:Nat}{r:List A}(h:kE X g rw l=some m)(e:m=.adr t::r):∃r',l=.adr t::r':=by
 subst e
 cases l with
 |nil=>unfold kE at h;cases h
 |cons a l =>
  unfold kE at h;split at h
  ·rename_i a1 ha;split at h
   ·cases h;exact⟨l,by rw[jnF ha]⟩
   ·cases h
  ·cases h
theorem jlh{X:List Nat}{g:Nat}{rw:List Row}{l m:List A}(h:kE X g rw l=some m):kE X g rw (n9 l)=some (n9 m):=by
 by_cases hl:∃t r,l=.adr t::r
 ·obtain⟨t,r,rfl⟩:=hl;unfold kE at h;simp only[renG] at h;split at h
  ·rename_i r' hr;cases h;show kE X g rw (.dead::r)=some (.dead::r');unfold kE;simp only[renG,hr]
  ·cases h
 ·rw[yI fun t r e=>hl ⟨t,r,e⟩,yI fun t r e=>hl ⟨t,_,(jbr h e).choose_spec⟩];exact h
theorem boxC.renG{T b:Nat}{w0:W0}{C0:Rd}{β0:List Nat}{bx:List (List A)}{rw:List Row}{w:World}{E:Env}{X Y:List Nat}{g:Nat}{y0:Value}{cs cs':List A}{arr:Array Value}(h:boxC T b cs E arr)(hp:Hp w0 C0 β0 bx rw w E)(hY:yP E X Y)(hg:E.ρ[g]?=some y0)(hr:kE X g rw cs=some cs'):boxC T b cs' ⟨E.C,Y,[y0]⟩ arr :=
 h.rel (fun l m=>kE X g rw l=some m) hr (fun l m us e k=>x9 hp hY hg l e k) (fun l m e=>jlh e) fun l t r e=>jbr e rfl
theorem jkF{X:List Nat}{g:Nat}{a:A}{t:Nat}(h:backG X g a=.adr t):a=.adr t:=by
 cases a <;> unfold backG at h <;> first|(cases h;done)|(cases h;rfl)
theorem boxC.backG{T b:Nat}{E:Env}{C':Rd}{ρ':List Value}{X Y:List Nat}{g:Nat}{y0:Value}{cs:List A}{arr:Array Value}(h:boxC T b cs ⟨C',Y,[y0]⟩ arr)(hY:yP E X Y)(hl:Y.length=X.length)(hg:ρ'[g]?=some y0):boxC T b (gD X g cs) ⟨C',E.β,ρ'⟩ arr:=by
 rw[eF];refine h.map (Vm.backG X g) (fun l us k=>?_) (by unfold Vm.backG;rfl) (fun t=>by unfold Vm.backG;rfl) (fun a t e=>jkF e);rw[<- eF];exact gE hY hl hg l k
end
section
def iC(X0:List Nat):List (List A)->List Nat->List (List A)->(List (List A)->Prop)->Prop
 |bx,i::X,o::os,K=>aN (back X0) o fun o'=>aS bx i o' fun bx'=>iC X0 bx' X os K
 |bx,[],[],K=>K bx
 |_,_,_,_=>False
theorem cX(X:List Nat):∀l:List A,y9 X l=l.map (back X)
 |[]=>by simp[y9]
 |a::r=>by unfold y9;rw[cX X r];rfl
theorem jbi{X0:List Nat}:∀{X:List Nat} {os bx:List (List A)} {K:List (List A)->Prop},X.Nodup->iC X0 bx X os K->os.length=X.length/\∃bx',K bx'/\bx'.length=bx.length/\(∀i,i∉X->bx'[i]?=bx[i]?)/\∀(j i:Nat) (o:List A),X[j]?=some i->os[j]?=some o->bx'[i]?=some (y9 X0 o)
 |i::X,o::os,bx,K,hn,h=>by
  unfold iC at h;rw[qN] at h;obtain⟨hi,h⟩:=zQ h;have hn2:=List.nodup_cons.1 hn;obtain⟨h1,bx',h2,h3,h4,h5⟩:=jbi hn2.2 h;refine⟨by simp[h1],bx',h2,by rw[h3];simp,fun k hk=>?_,fun j k o' hj ho=>?_⟩
  ·rw[h4 k (fun hm=>hk (List.mem_cons_of_mem _ hm)),List.getElem?_set_ne (fun e=>hk (by simp[e]))]
  ·cases j with
   |zero =>
    simp at hj ho;subst hj;subst ho;rw[h4 i hn2.1,List.getElem?_set_self hi,cX]
   |succ j=>exact h5 j k o' (by simpa using hj) (by simpa using ho)
 |[],[],bx,K,_,h=>⟨rfl,bx,h,rfl,fun _ _=>rfl,fun j i o hj _=>by simp at hj⟩
 |_::_,[],_,_,_,h=>h.elim
 |[],_::_,_,_,_,h=>h.elim
def jad(P:Program)(f:Nat)(args:List A)(post:Nat->Nat->Nat->List A->A->Prop):Prop :=
 (∀vs w,(callFunc f vs).run P w=.ok (.enter f vs) w) ∧
 ∀(w:World) (C:Rd) (vals:List Value),Gok C w->Sub C (kQ w)->A.repL args ⟨C,[],[]⟩ vals →
  Calls P f vals.toArray w (fun e w'=>∃(et k n:Nat) (cs:List A) (r:A) (v y:Value) (xs:List Value) (C':Rd),e=.returned v/\post et k n cs r/\Keeps [] w w'/\Sub C C'/\Sub C' (kQ w') ∧
   (∀ad u,C' ad=some u->C ad=some u∨w.heap.size<=ad.block)/\(∀b,blk y=some b->(∀o sp,C' ⟨b,o,sp⟩=none)/\w.heap.size<=b)/\owR w' et k y n xs/\A.repC cs ⟨C',[],[]⟩ xs/\r.rep ⟨C',[],[y]⟩ v)
mutual
def vI(g:Nat):A->A
 |.own _=>.own g
 |.orow _ o=>.orow g o
 |.clo f caps=>.clo f (iK g caps)
 |.bm f fs=>.bm f (iK g fs)
 |.mp ks vs=>.mp ks vs
 |.agg l=>.agg (iK g l)
 |.tup l=>.tup (iK g l)
 |.box b off=>.box b off
 |.gp g o=>.gp g o
 |.adr T=>.adr T
 |.err=>.err
 |.num=>.num
 |.dead=>.dead
 |.v x=>.v x
 |.sl k n cs=>.sl k n cs
 |.pp cs=>.pp cs
def iK(g:Nat):List A->List A
 |[]=>[]
 |a::r=>vI g a::iK g r
end
mutual
theorem jcC{C:Rd}{β:List Nat}{ρ:List Value}{y:Value}{g:Nat}(hg:ρ[g]?=some y):∀(a:A) {v:Value},a.rep ⟨C,[],[y]⟩ v->(vI g a).rep ⟨C,β,ρ⟩ v
 |.dead,v,h=>by unfold vI;exact A.rep_dead _ _
 |.v x,v,h=>by unfold vI;unfold A.rep at h ⊢;exact h
 |.sl k n cs,v,h=>by unfold vI;unfold A.rep at h ⊢;exact h
 |.pp cs,v,h=>by
  unfold vI;unfold A.rep at h ⊢;exact h
 |.own j,v,h=>by
  unfold vI;unfold A.rep at h ⊢
  cases j with
  |zero=>simp at h;subst h;exact hg
  |succ j=>simp at h
 |.orow j o,v,h=>by
  unfold vI;unfold A.rep at h ⊢;obtain⟨b,n,cap,h1,h2⟩:=h
  cases j with
  |zero=>simp at h1;subst h1;exact⟨b,n,cap,hg,h2⟩
  |succ j=>simp at h1
 |.box j o,v,h=>by
  unfold A.rep at h;obtain⟨b,h1,h2⟩:=h;simp at h1
 |.gp _ _,v,h=>by unfold vI;unfold A.rep at h ⊢;exact h
 |.adr _,v,h=>by unfold A.rep at h;exact h.elim
 |.err,v,h=>by unfold vI;unfold A.rep at h ⊢;exact h
 |.num,v,h=>by unfold vI;unfold A.rep at h ⊢;exact h
 |.clo f caps,v,h=>by
  unfold vI;unfold A.rep at h ⊢;obtain⟨us,h1,h2⟩:=h;exact⟨us,h1,bA hg caps h2⟩
 |.bm f fs,v,h=>by
  unfold vI;unfold A.rep at h ⊢;obtain⟨us,h1,h2⟩:=h;exact⟨us,h1,bA hg fs h2⟩
 |.mp ks vs,v,h=>by unfold vI;unfold A.rep at h ⊢;exact h
 |.agg l,v,h=>by
  unfold vI;unfold A.rep at h ⊢;obtain⟨us,h1,h2⟩:=h;exact⟨us,h1,A.repC_mk (bA hg l (A.repC_L h2)) (A.repC_one h2)⟩
 |.tup l,v,h=>by
  unfold vI;unfold A.rep at h ⊢;obtain⟨us,h1,h2⟩:=h;exact⟨us,h1,bA hg l h2⟩
theorem bA{C:Rd}{β:List Nat}{ρ:List Value}{y:Value}{g:Nat}(hg:ρ[g]?=some y):∀(l:List A) {us:List Value},A.repL l ⟨C,[],[y]⟩ us->A.repL (iK g l) ⟨C,β,ρ⟩ us
 |[],us,h=>by unfold iK;unfold A.repL at h ⊢;exact h
 |a::r,us,h=>by
  unfold iK;unfold A.repL at h ⊢;obtain⟨u,us',rfl,h1,h2⟩:=h;exact⟨u,us',rfl,jcC hg a h1,bA hg r h2⟩
end
section
variable{w0:W0}{C0:Rd}{β0:List Nat}{bx:List (List A)}{rw:List Row}{w w':World}{E:Env}
theorem Hp.addRow(h:Hp w0 C0 β0 bx rw w E){e k n:Nat}{cs:List A}{y:Value}{xs:List Value}(ho:owR w e k y n xs)(hr:A.repC cs E.per xs)
  (hfr:∀b,blk y=some b->w0.fr b) (hb:∀b,blk y=some b->b∉E.β/\(∀o sp,E.C ⟨b,o,sp⟩=none)/\∀(g e' k' n':Nat) (cs':List A) (z:Value),rw[g]?=some (.live e' k' n' cs')->E.ρ[g]?=some z->blk z≠some b) :
  Hp w0 C0 β0 bx (rw++[.live e k n cs]) w ⟨E.C,E.β,E.ρ++[y]⟩/\E.le ⟨E.C,E.β,E.ρ++[y]⟩:=by
 have le:E.le ⟨E.C,E.β,E.ρ++[y]⟩:=⟨Sub.refl _,fun _ _ h=>h,fun i b hb=>by
  have:=(List.getElem?_eq_some_iff.1 hb).1
  rw[List.getElem?_append_left this];exact hb⟩
 have part:∀(j:Nat) (r:Row) (z:Value),(rw++[Row.live e k n cs])[j]?=some r->(E.ρ++[y])[j]?=some z->(rw[j]?=some r/\E.ρ[j]?=some z)∨(r=.live e k n cs/\z=y/\j=rw.length):=fun j r z h1 h2=>by
  by_cases hg:j<rw.length
  ·rw[List.getElem?_append_left hg] at h1;rw[List.getElem?_append_left (by rw[<- h.rl];exact hg)] at h2;exact .inl ⟨h1,h2⟩
  ·rw[List.getElem?_append_right (by omega)] at h1;rw[List.getElem?_append_right (by rw[<- h.rl];omega)] at h2
   have hi0:j-rw.length=0:=by
    have:=(List.getElem?_eq_some_iff.1 h1).1;simp at this;omega
   rw[hi0] at h1;rw[<- h.rl,hi0] at h2;simp at h1 h2;exact .inr ⟨h1.symm,h2.symm,by omega⟩
 have hs:=ho.kind;refine⟨⟨h.sub,h.base,h.fresh,h.bp,h.bnd,h.bC,h.bl,fun i b cs h1 h2=>(h.bxs i b cs h1 h2).mono le,by simp[h.rl],fun j r z k1 k2=>?_,fun j e' k' n' cs' z b k1 k2 k3=>?_,fun j e1 k1 n1 cs1 z j' e2 k2 n2 cs2 z' b hne q1 q2 q3 q4 q5=>?_,nS h.rs hs,h.keep,h.gk⟩,le⟩
 ·rcases part j r z k1 k2 with ⟨h3,h4⟩|⟨rfl,rfl,_⟩
  ·exact(h.rws j r z h3 h4).mono le (fun _ _ _ _ _ _ _=>rfl)
  ·exact⟨xs,⟨ho,hfr⟩,hr⟩
 ·rcases part j _ z k1 k2 with ⟨h4,h5⟩|⟨_,rfl,_⟩
  ·exact h.rC j e' k' n' cs' z b h4 h5 k3
  ·exact⟨(hb b k3).1,(hb b k3).2.1⟩
 ·rcases part j _ z q1 q2 with ⟨r1,r2⟩|⟨_,rfl,r1⟩
  ·rcases part j' _ z' q3 q4 with ⟨r3,r4⟩|⟨_,rfl,_⟩
   ·exact h.rd j e1 k1 n1 cs1 z j' e2 k2 n2 cs2 z' b hne r1 r2 r3 r4 q5
   ·exact fun hz=>(hb b hz).2.2 j e1 k1 n1 cs1 z r1 r2 q5
  ·rcases part j' _ z' q3 q4 with ⟨r3,r4⟩|⟨_,rfl,r3⟩
   ·exact(hb b q5).2.2 j' e2 k2 n2 cs2 z' r3 r4
   ·omega
end
mutual
def vY(rw:List Row)(bx:List (List A)):A->Option A
 |.box i off=>match bx[i]? with
  |some cs=>match zC [] rw cs with
   |some cs'=>some (.pp ((n9 cs').drop off))
   |none=>none
  |none=>none
 |.clo f caps=>match lA rw bx caps with
  |some l=>some (.clo f l)
  |none=>none
 |.bm f fs=>match lA rw bx fs with
  |some l=>some (.bm f l)
  |none=>none
 |.dead=>some .dead
 |.v x=>some (.v x)
 |.sl k n cs=>some (.sl k n cs)
 |.pp cs=>some (.pp cs)
 |.own g=>ren [] rw (.own g)
 |.agg l=>ren [] rw (.agg l)
 |.gp g o=>some (.gp g o)
 |.adr T=>some (.adr T)
 |.err=>some .err
 |.num=>some .num
 |.mp ks vs=>some (.mp ks vs)
 |_=>none
def lA(rw:List Row)(bx:List (List A)):List A->Option (List A)
 |[]=>some []
 |a::r=>match vY rw bx a with
  |some a=>match lA rw bx r with
   |some r=>some (a::r)
   |none=>none
  |none=>none
end
section
variable{w0:W0}{w:World}{C0:Rd}{β0:List Nat}{bx:List (List A)}{rw:List Row}{E:Env}
theorem yT(hp:Hp w0 C0 β0 bx rw w E){a a':A}{y:Value}(h:ren [] rw a=some a')(hr:a.rep E y):a'.rep ⟨kQ w,[],[]⟩ y:=by
 have hY:yP E [] []:=fun j i h=>by simp at h
 exact A.rep.mono a' (E:=⟨E.C,[],[]⟩) (F:=⟨kQ w,[],[]⟩) ⟨hp.sub,fun _ _ h=>h,fun _ _ h=>h⟩ (ja2 hp hY a h hr)
mutual
theorem jl0(hp:Hp w0 C0 β0 bx rw w E):∀(a:A) {a':A} {y:Value},vY rw bx a=some a'->a.rep E y->a'.rep ⟨kQ w,[],[]⟩ y
 |.box i off,a',y,h,hr=>by
  unfold vY at h;split at h
  ·rename_i cs hcs;split at h
   ·rename_i cs' hcs';cases h;unfold A.rep at hr ⊢;obtain⟨b,h1,h2⟩:=hr;obtain⟨T',arr,q1,q2⟩:=hp.bxs i b cs h1 hcs
    have hY:yP E [] []:=fun j i h=>by simp at h
    have q3:A.repC (n9 cs') ⟨kQ w,[],[]⟩ arr.toList:=A.repC.mono _ (E:=⟨E.C,[],[]⟩) (F:=⟨kQ w,[],[]⟩) ⟨hp.sub,fun _ _ h=>h,fun _ _ h=>h⟩ (q2.ren hp hY hcs').1
    have hat:A.repAt (n9 cs') ⟨kQ w,[],[]⟩ b 0:=A.repAt_mk q3 fun j u hj=>by
     show(kQ w) ⟨b,0+j,none⟩=some u;simp only[kQ,World.cell?,q1,Nat.zero_add];simpa using hj
    have:=A.repAt_drop off hat;rw[Nat.zero_add] at this;exact⟨b,off,h2,this⟩
   ·cases h
  ·cases h
 |.clo f caps,a',y,h,hr=>by
  unfold vY at h;split at h
  ·rename_i l hl;cases h;unfold A.rep at hr ⊢;obtain⟨us,h1,h2⟩:=hr;exact⟨us,h1,eW hp caps hl h2⟩
  ·cases h
 |.bm f fs,a',y,h,hr=>by
  unfold vY at h;split at h
  ·rename_i l hl;cases h;unfold A.rep at hr ⊢;obtain⟨us,h1,h2⟩:=hr;exact⟨us,h1,eW hp fs hl h2⟩
  ·cases h
 |.dead,a',y,h,hr=>yT hp (by unfold vY at h;unfold ren;exact h) hr
 |.v x,a',y,h,hr=>yT hp (by unfold vY at h;unfold ren;exact h) hr
 |.sl k n cs,a',y,h,hr=>yT hp (by unfold vY at h;unfold ren;exact h) hr
 |.pp cs,a',y,h,hr=>yT hp (by unfold vY at h;unfold ren;exact h) hr
 |.own g,a',y,h,hr=>yT hp (by unfold vY at h;exact h) hr
 |.agg l,a',y,h,hr=>yT hp (by unfold vY at h;exact h) hr
 |.gp g o,a',y,h,hr=>yT hp (by unfold vY at h;unfold ren;exact h) hr
 |.adr _,a',y,h,hr=>yT hp (by unfold vY at h;unfold ren;exact h) hr
 |.err,a',y,h,hr=>yT hp (by unfold vY at h;unfold ren;exact h) hr
 |.num,a',y,h,hr=>yT hp (by unfold vY at h;unfold ren;exact h) hr
 |.mp ks vs,a',y,h,hr=>yT hp (by unfold vY at h;unfold ren;exact h) hr
 |.orow _ _,a',y,h,_=>by unfold vY at h;cases h
 |.tup _,a',y,h,_=>by unfold vY at h;cases h
theorem eW(hp:Hp w0 C0 β0 bx rw w E):∀(l:List A) {l':List A} {us:List Value},lA rw bx l=some l'->A.repL l E us->A.repL l' ⟨kQ w,[],[]⟩ us
 |[],l',us,h,hr=>by unfold lA at h;cases h;unfold A.repL at hr ⊢;exact hr
 |a::r,l',us,h,hr=>by
  unfold lA at h;split at h
  ·rename_i a1 ha;split at h
   ·rename_i r1 hr1;cases h;unfold A.repL at hr ⊢;obtain⟨u,us',rfl,h1,h2⟩:=hr;exact⟨u,us',rfl,jl0 hp a ha h1,eW hp r hr1 h2⟩
   ·cases h
  ·cases h
end
end
structure Left(w0:W0)(C0:Rd)(β0:List Nat)(Xr:Nat->Bool)(s:S)(E:Env)(w:World)(K:A->S->Prop)(y:Value)(w':World):Prop where
 ex:∃r s' E',K r s'/\s'.t=s.t/\E.le E'/\Hp w0 C0 β0 s'.bx s'.rw w' E'/\r.rep E' y/\jqp Xr E w w'/\w.heap.size<=w'.heap.size
@[irreducible] def kB(P:Program)(pan:List PanicEntry->S->Prop)(Xr:Nat->Bool)(f:Nat)(args:List A)(s:S)(K:A->S->Prop):Prop :=
 (∃(X ids:List Nat) (ins:List (List A)) (args':List A) (post:List (List A)->A->Prop),X.Nodup/\(∀i∈X,Xr i=true)/\(∀i∈X,i<s.bx.length) ∧
  nP X (jA s.rw ids) (X.map fun i=>s.bx.getD i [])=some ins/\zC X (jA s.rw ids) args=some args'/\(nN args'->Spec P f ins args' post) ∧
  ∀outs r,post outs r->outs.length=X.length->iC X s.bx X outs fun bx'=>zV (back X r) fun r'=>qA (jA s.rw ids) fun rw'=>kT s bx' rw' (K r')) ∨
 (∃(ids:List Nat) (args':List A) (post:Nat->Nat->Nat->List A->A->Prop),zC [] (jA s.rw ids) args=some args'/\(nN args'->jad P f args' post) ∧
  ∀e k n cs r,post e k n cs r->zV (vI s.rw.length r) fun r'=>qA (jA s.rw ids++[.live e k n cs]) fun rw'=>aH s rw' (K r')) ∨
 (∃(ids:List Nat) (args':List A) (post:List (List A)->A->Prop),lA (jA s.rw ids) s.bx args=some args'/\(nN args'->Spec P f [] args' post)/\∀r,post [] r->∃x,r=.v x/\K (.v x) s) ∨
 (∃(X ids:List Nat) (ins:List (List A)) (args':List A) (post:List (List A)->A->Prop) (pn:List PanicEntry->Prop),X.Nodup/\(∀i∈X,Xr i=true)/\(∀i∈X,i<s.bx.length) ∧
  nP X (jA s.rw ids) (X.map fun i=>s.bx.getD i [])=some ins/\zC X (jA s.rw ids) args=some args'/\(nN args'->SpecP P f ins args' post pn) ∧
  (∀outs r,post outs r->outs.length=X.length->iC X s.bx X outs fun bx'=>zV (back X r) fun r'=>qA (jA s.rw ids) fun rw'=>kT s bx' rw' (K r')) ∧
  ∀ch bx',pn ch->bx'.length=s.bx.length->(∀i,i∉X->bx'[i]?=s.bx[i]?)->pan ch ⟨s.t,bx',jA s.rw ids⟩) ∨
 (Xr 1000000007=true/\∃(X ids:List Nat) (g e k n:Nat) (cs:List A) (ins:List (List A)) (args':List A) (post:List (List A)->Nat->List A->A->Prop) (pn:List PanicEntry->Prop),X.Nodup/\(∀i∈X,Xr i=true)/\(∀i∈X,i<s.bx.length)/\(jA s.rw ids)[g]?=some (.live e k n cs) ∧
  bK X g (jA s.rw ids) (X.map fun i=>s.bx.getD i [])=some ins/\kE X g (jA s.rw ids) args=some args'/\(nN args'->iH P f ins e k n cs args' post pn) ∧
  (∀outs n' cs' r,post outs n' cs' r->outs.length=X.length->fZ X s.rw.length s.bx X outs fun bx'=>zV (backG X s.rw.length r) fun r'=>qA ((jA s.rw ids).set g .gone++[.live e k n' cs']) fun rw'=>kT s bx' rw' (K r')) ∧
  ∀ch bx',pn ch->bx'.length=s.bx.length->(∀i,i∉X->bx'[i]?=s.bx[i]?)->pan ch ⟨s.t,bx',(jA s.rw ids).set g .gone++[.live e k 0 []]⟩) ∨
 ((∀vs w,(callFunc f vs).run P w=.ok (.enter f vs) w)/\∀(w0:W0) (C0:Rd) (β0:List Nat) (E:Env) (w:World) (vs:List Value),Hp w0 C0 β0 s.bx s.rw w E->A.repL args E vs →
  Calls P f vs.toArray w (fun e w'=>(∃y,e=.returned y/\Left w0 C0 β0 Xr s E w K y w')∨∃ch s' E',e=.panicked ch/\pan ch s'/\s'.t=s.t/\E.le E'/\Hp w0 C0 β0 s'.bx s'.rw w' E'))
section
variable{P:Program}{T:List (Nat×Te)}{w0:W0}{w:World}{C0:Rd}{β0:List Nat}{s:S}{a:Act}{E:Env}{o:Oper}
theorem jnw(hp:Hp w0 C0 β0 s.bx s.rw w E){X:List Nat}(hX:∀i∈X,i<s.bx.length):yP E X (X.map fun i=>E.β.getD i 0):=fun j i h=>by
 have hi:i<E.β.length:=by rw[<- hp.bl];exact hX i (List.mem_iff_getElem?.2 ⟨j,h⟩)
 exact⟨E.β.getD i 0,by simp[h],by simp[List.getD_eq_getElem?_getD,hi]⟩
theorem uG(hp:Hp w0 C0 β0 s.bx s.rw w E){X:List Nat}(hX:∀i∈X,i<s.bx.length)(hn:X.Nodup):(X.map fun i=>E.β.getD i 0).Nodup:=by
 refine List.pairwise_map.2 (List.Pairwise.imp_of_mem (fun {i j} hi hj hne e=>?_) hn)
 have h1:i<E.β.length:=by rw[<- hp.bl];exact hX i hi
 have h2:j<E.β.length:=by rw[<- hp.bl];exact hX j hj
 simp[List.getD_eq_getElem?_getD,h1,h2] at e;exact hne (x8 hp.bnd e)
theorem dR{C:Rd}{w w':World}{Y:List Nat}(hC:Sub C (kQ w))(hY:∀b∈Y,∀o sp,C ⟨b,o,sp⟩=none)(k:Keeps Y w w'):Sub (zA C w w') (kQ w'):=fun ad u h=>by
 unfold zA at h;split at h
 ·refine k.cell (hC ad u h) (fun hm=>?_);have:C ad=none:=hY _ hm ad.off ad.spot;rw[this] at h;cases h
 ·exact h
theorem vV{C:Rd}{w w':World}(hC:Sub C (kQ w)):Sub C (zA C w w'):=fun ad u h=>by
 unfold zA;rw[if_pos (qI w ad (hC ad u h))];exact h
theorem aO{E F:Env}:∀{n:Nat} {us:List Value},A.repL (List.replicate n .dead) E us->A.repL (List.replicate n .dead) F us
 |0,us,h=>by
  rw[List.replicate_zero] at h ⊢;unfold A.repL at h ⊢;exact h
 |n+1,us,h=>by
  rw[List.replicate_succ] at h ⊢;unfold A.repL at h ⊢;obtain⟨u,us',rfl,_,h3⟩:=h;exact⟨u,us',rfl,A.rep_dead _ _,aO h3⟩
theorem jaB{E:Env}{n:Nat}{us:List Value}(h:A.repC (n9 (List.replicate n .dead)) E us):A.repL (List.replicate n .dead) E us:=by
 have e:n9 (List.replicate n A.dead)=List.replicate n .dead:=by cases n <;> rfl
 rw[e] at h;exact A.repC_L h
theorem jaX:∀{X:List Nat} {i:Nat},i∉X->idx X i=none
 |[],i,_=>rfl
 |x::r,i,h=>by
  unfold idx;split
  ·rename_i hb;have:=Nat.eq_of_beq_eq_true hb;exact absurd (by simp[this]) h
  ·rw[jaX (fun hm=>h (List.mem_cons_of_mem _ hm))]
theorem jgd{X:List Nat}{i:Nat}(h:i∈X)(k:idx X i=none):False:=by
 induction X with
 |nil=>cases h
 |cons x r ih =>
  unfold idx at k;split at k
  ·cases k
  ·rename_i hb;split at k
   ·cases k
   ·rename_i hn;rcases List.mem_cons.1 h with rfl|h
    ·simp at hb
    ·exact ih h hn
theorem Spec.toP{P:Program}{f:Nat}{ins:List (List A)}{args:List A}{post:List (List A)->A->Prop}(h:Spec P f ins args post):SpecP P f ins args post fun _=>False :=
 ⟨h.1,fun w C β vals h0 h1 h2 h3 h4 h5 h6=>(h.2 w C β vals h0 h1 h2 h3 h4 h5 h6).mono fun e w' hh=>.inl hh⟩
theorem jau{Cl:Array Value->World->(Ending->World->Prop)->Prop}(hmono:∀{vs:Array Value} {w:World} {R R':Ending->World->Prop},(∀e w',R e w'->R' e w')->Cl vs w R->Cl vs w R'){pan:List PanicEntry->S->Prop}{pn:List PanicEntry->Prop}{X ids:List Nat}{ins:List (List A)}{post:List (List A)->A->Prop}{Xr:Nat->Bool}{args args':List A}{vs:List Value}{K:A->S->Prop}(hp:Hp w0 C0 β0 s.bx s.rw w E)(hargs:A.repL args E vs)
  (hn:X.Nodup) (hXr:∀i∈X,Xr i=true) (hX:∀i∈X,i<s.bx.length) (hins:nP X (jA s.rw ids) (X.map fun i=>s.bx.getD i [])=some ins) (hargs':zC X (jA s.rw ids) args=some args') (hspec:nN args'->jcv Cl ins args' post pn)
  (hk:∀outs r,post outs r->outs.length=X.length->iC X s.bx X outs fun bx'=>zV (back X r) fun r'=>qA (jA s.rw ids) fun rw'=>kT s bx' rw' (K r'))
  (hpan:∀ch bx',pn ch->bx'.length=s.bx.length->(∀i,i∉X->bx'[i]?=s.bx[i]?)->pan ch ⟨s.t,bx',jA s.rw ids⟩) :
  Cl vs.toArray w (fun e w'=>(∃y,e=.returned y/\Left w0 C0 β0 Xr s E w K y w')∨∃ch s' E',e=.panicked ch/\pan ch s'/\s'.t=s.t/\E.le E'/\Hp w0 C0 β0 s'.bx s'.rw w' E'):=by
 obtain⟨C1,hp1,le1⟩:=hp.pubs ids;have hY:=jnw hp hX;have hok:nN args':=kZ _ (wM (E:=⟨C1,E.β,E.ρ⟩) hp1 hY args hargs' (A.repL.mono args le1 hargs))
 replace hspec:=hspec hok
 have hYn:=uG hp hX hn
 have hYl:(X.map fun i=>E.β.getD i 0).length=X.length:=by simp
 generalize (X.map fun i=>E.β.getD i 0)=Y at *
 have hYmem:∀b∈Y,∃j i,X[j]?=some i/\Y[j]?=some b/\E.β[i]?=some b:=fun b hb=>by
  obtain⟨j,hj⟩:=List.mem_iff_getElem?.1 hb
  have hjX:j<X.length:=by rw[<- hYl];exact(List.getElem?_eq_some_iff.1 hj).1
  obtain⟨b',h1,h2⟩:=hY j X[j] (by simp[hjX]);have:b'=b:=Option.some.inj (h1.symm.trans hj);subst this;exact⟨j,X[j],List.getElem?_eq_getElem hjX,hj,h2⟩
 have hYβ:∀b∈Y,b∈E.β:=fun b hb=>by
  obtain⟨j,i,_,_,h3⟩:=hYmem b hb;exact List.mem_iff_getElem?.2 ⟨i,h3⟩
 have hY1:yP ⟨C1,E.β,E.ρ⟩ X Y:=hY;obtain⟨hil,hig⟩:=tG hins
 have hC1Y:∀b∈Y,∀o sp,C1 ⟨b,o,sp⟩=none:=fun b hb=>hp1.bC b (hYβ b hb)
 refine hmono ?_ (hspec w C1 Y vs hp1.gok hp1.sub hYn hC1Y (by rw[hil];simp[hYl]) (fun j b cs hj hcs=>?_) (wM hp1 hY1 args hargs' (A.repL.mono args le1 hargs)))
 rotate_left
 ·obtain⟨c0,h1,h2⟩:=hig j cs hcs;rw[List.getElem?_map,Option.map_eq_some_iff] at h1;obtain⟨i,hi,hc0⟩:=h1;obtain⟨b',h3,h4⟩:=hY j i hi;have:b'=b:=Option.some.inj (h3.symm.trans hj);subst this;have hib:i<s.bx.length:=hX i (List.mem_iff_getElem?.2 ⟨j,hi⟩);obtain⟨T',arr,h5,h6⟩:=hp1.bxs i b' c0 h4 (by rw[<- hc0];simp[List.getD_eq_getElem?_getD,hib]);exact⟨T',arr,h5,h6.ren hp1 hY1 h2⟩
 ·rintro e w' (⟨outs,r,v,rfl,hpost,kp,hol,hob,hr⟩|⟨ch,ns,rfl,hpn,kp,hnl,hnb⟩)
  rotate_left
  ·right;have hcall:=hp1.call hYβ kp (C':=zA C1 w w') (vV hp1.sub) (dR hp1.sub hC1Y kp) (fun ad u hc=>?_) (bx':=(List.range s.bx.length).map fun i=>match idx X i with|some j=>List.replicate (ns.getD j 0) .dead|none=>s.bx.getD i []) (by simp) (fun i b cs h1 h2=>?_)
   ·refine⟨ch,⟨s.t,_,_⟩,_,rfl,hpan ch _ hpn (by simp) (fun i hi=>?_),rfl,le1.trans hcall.2,hcall.1⟩;rw[List.getElem?_map];by_cases hl:i<s.bx.length
    ·rw[List.getElem?_range hl];simp only[Option.map_some];rw[jaX hi];simp[List.getD_eq_getElem?_getD,hl]
    ·rw[List.getElem?_eq_none (by simpa using hl),List.getElem?_eq_none (by simpa using hl)];rfl
   ·unfold zA at hc;split at hc
    ·exact .inl hc
    ·exact .inr (by omega)
   ·have hil:=(List.getElem?_eq_some_iff.1 h2).1;simp only[List.length_map,List.length_range] at hil;rw[List.getElem?_map,List.getElem?_range hil] at h2;simp only[Option.map_some,Option.some.injEq] at h2
    cases hj:idx X i with
    |some j =>
     rw[hj] at h2
     simp only at h2
     left;obtain⟨b',h3,h4⟩:=hY j i (eT hj);have:b'=b:=Option.some.inj (h4.symm.trans h1);subst this
     have hjn:j<ns.length:=by rw[hnl];exact(List.getElem?_eq_some_iff.1 h3).1
     obtain⟨T',arr,h6,h7⟩:=hnb j b' ns[j] h3 (by simp[hjn]);rw[<- h2];refine⟨T',arr,h6,?_⟩
     have e:ns.getD j 0=ns[j]:=by simp[List.getD_eq_getElem?_getD,hjn]
     rw[e];have h7:=h7.1;exact .mk' (A.repC_mk (aO (jaB h7)) (A.repC_one h7))
    |none =>
     rw[hj] at h2
     simp only at h2
     right;refine⟨fun hm=>?_,?_⟩
     ·obtain⟨j,i',h3,h4,h5⟩:=hYmem b hm;have e1:=List.getElem?_eq_some_iff.1 h1;have e2:=List.getElem?_eq_some_iff.1 h5;have:i=i':=x8 hp.bnd (e1.2.trans e2.2.symm);subst this;exact jgd (List.mem_iff_getElem?.2 ⟨j,h3⟩) hj
     ·rw[<- h2];simp[List.getD_eq_getElem?_getD,hil]
  refine .inl ⟨v,rfl,⟨?_⟩⟩;obtain⟨-,bx',hK,hbl,hbo,hbi⟩:=jbi hn (hk outs r hpost (by rw[hol,hYl]));rw[force_iff,qR,bQ] at hK;have hcall:=hp1.call hYβ kp (C':=zA C1 w w') (vV hp1.sub) (dR hp1.sub hC1Y kp) (fun ad u hc=>?_) hbl (fun i b cs h1 h2=>?_)
  ·refine⟨back X r,_,_,hK,rfl,le1.trans hcall.2,hcall.1,jfx (E:=⟨C1,E.β,E.ρ⟩) hY1 hYl r hr,fun _ b hb h2=>?_,kp.size⟩;refine kp.block b hb (fun hm=>?_);obtain⟨j,i',h3,h4,h5⟩:=hYmem b hm;have:=h2 i' h5;rw[hXr i' (List.mem_iff_getElem?.2 ⟨j,h3⟩)] at this;cases this
  ·unfold zA at hc;split at hc
   ·exact .inl hc
   ·exact .inr (by omega)
  ·by_cases hi:i∈X
   ·left;obtain⟨j,hj⟩:=List.mem_iff_getElem?.1 hi;obtain⟨b',h3,h4⟩:=hY j i hj;have:b'=b:=Option.some.inj (h4.symm.trans h1);subst this
    have hjo:j<outs.length:=by rw[hol];exact(List.getElem?_eq_some_iff.1 h3).1
    have h5:=hbi j i outs[j] hj (by simp[hjo]);rw[h2] at h5;cases h5;obtain⟨T',arr,h6,h7⟩:=hob j b' outs[j] h3 (by simp[hjo]);exact⟨T',arr,h6,h7.back (E:=⟨C1,E.β,E.ρ⟩) hY1 hYl⟩
   ·right;rw[hbo i hi] at h2;refine⟨fun hm=>?_,h2⟩;obtain⟨j,i',h3,h4,h5⟩:=hYmem b hm;have e1:=List.getElem?_eq_some_iff.1 h1;have e2:=List.getElem?_eq_some_iff.1 h5;have:i=i':=x8 hp.bnd (e1.2.trans e2.2.symm);subst this;exact hi (List.mem_iff_getElem?.2 ⟨j,h3⟩)
theorem jpx{X ids:List Nat}{args args':List A}{vs:List Value}(hp:Hp w0 C0 β0 s.bx s.rw w E)(hX:∀i∈X,i<s.bx.length)(hargs:A.repL args E vs)(hargs':zC X (jA s.rw ids) args=some args'):nN args':=by
 obtain⟨C1,hp1,le1⟩:=hp.pubs ids;have hY:=jnw hp hX;exact kZ _ (wM (E:=⟨C1,E.β,E.ρ⟩) hp1 hY args hargs' (A.repL.mono args le1 hargs))
theorem jat{pan:List PanicEntry->S->Prop}{pn:List PanicEntry->Prop}{X ids:List Nat}{ins:List (List A)}{post:List (List A)->A->Prop}{Xr:Nat->Bool}{f:Nat}{args args':List A}{vs:List Value}{K:A->S->Prop}(hp:Hp w0 C0 β0 s.bx s.rw w E)(hargs:A.repL args E vs)
  (hn:X.Nodup) (hXr:∀i∈X,Xr i=true) (hX:∀i∈X,i<s.bx.length) (hins:nP X (jA s.rw ids) (X.map fun i=>s.bx.getD i [])=some ins) (hargs':zC X (jA s.rw ids) args=some args') (hspec:nN args'->SpecP P f ins args' post pn)
  (hk:∀outs r,post outs r->outs.length=X.length->iC X s.bx X outs fun bx'=>zV (back X r) fun r'=>qA (jA s.rw ids) fun rw'=>kT s bx' rw' (K r'))
  (hpan:∀ch bx',pn ch->bx'.length=s.bx.length->(∀i,i∉X->bx'[i]?=s.bx[i]?)->pan ch ⟨s.t,bx',jA s.rw ids⟩) :
  (∀vs w,(callFunc f vs).run P w=.ok (.enter f vs) w)/\Calls P f vs.toArray w (fun e w'=>(∃y,e=.returned y/\Left w0 C0 β0 Xr s E w K y w')∨∃ch s' E',e=.panicked ch/\pan ch s'/\s'.t=s.t/\E.le E'/\Hp w0 C0 β0 s'.bx s'.rw w' E') :=
 have ho:=jpx hp hX hargs hargs'
 ⟨(hspec ho).1,jau (Cl:=Calls P f) (fun h k=>Calls.mono k h) hp hargs hn hXr hX hins hargs' (fun h=>(hspec h).2) hk hpan⟩
theorem jfC{Cl:Array Value->World->(Ending->World->Prop)->Prop}(hmono:∀{vs:Array Value} {w:World} {R R':Ending->World->Prop},(∀e w',R e w'->R' e w')->Cl vs w R->Cl vs w R'){pan:List PanicEntry->S->Prop}{pn:List PanicEntry->Prop}{X ids:List Nat}{g e0 k0 n0:Nat}{cs0:List A}{ins:List (List A)}{post:List (List A)->Nat->List A->A->Prop}{Xr:Nat->Bool}{args args':List A}{vs:List Value}{K:A->S->Prop}(hp:Hp w0 C0 β0 s.bx s.rw w E)(hargs:A.repL args E vs)(hflag:Xr 1000000007=true)
  (hn:X.Nodup) (hXr:∀i∈X,Xr i=true) (hX:∀i∈X,i<s.bx.length) (hg:(jA s.rw ids)[g]?=some (.live e0 k0 n0 cs0)) (hins:bK X g (jA s.rw ids) (X.map fun i=>s.bx.getD i [])=some ins) (hargs':kE X g (jA s.rw ids) args=some args') (hspec:nN args'->je5 Cl ins e0 k0 n0 cs0 args' post pn)
  (hk:∀outs n' cs' r,post outs n' cs' r->outs.length=X.length->fZ X s.rw.length s.bx X outs fun bx'=>zV (backG X s.rw.length r) fun r'=>qA ((jA s.rw ids).set g .gone++[.live e0 k0 n' cs']) fun rw'=>kT s bx' rw' (K r'))
  (hpan:∀ch bx',pn ch->bx'.length=s.bx.length->(∀i,i∉X->bx'[i]?=s.bx[i]?)->pan ch ⟨s.t,bx',(jA s.rw ids).set g .gone++[.live e0 k0 0 []]⟩) :
  nN args'/\Cl vs.toArray w (fun e w'=>(∃y,e=.returned y/\Left w0 C0 β0 Xr s E w K y w')∨∃ch s' E',e=.panicked ch/\pan ch s'/\s'.t=s.t/\E.le E'/\Hp w0 C0 β0 s'.bx s'.rw w' E'):=by
 obtain⟨C1,hp1,le1⟩:=hp.pubs ids;have hY:=jnw hp hX;have hgl:=(List.getElem?_eq_some_iff.1 hg).1
 obtain⟨y0,hy0⟩:∃y,E.ρ[g]?=some y:=⟨_,List.getElem?_eq_getElem (by rw[<- hp1.rl];exact hgl)⟩
 have hok:nN args':=kZ _ (x9 (E:=⟨C1,E.β,E.ρ⟩) hp1 hY hy0 args hargs' (A.repL.mono args le1 hargs));refine⟨hok,?_⟩
 replace hspec:=hspec hok
 have hYn:=uG hp hX hn
 have hYl:(X.map fun i=>E.β.getD i 0).length=X.length:=by simp
 generalize (X.map fun i=>E.β.getD i 0)=Y at *
 have hYmem:∀b∈Y,∃j i,X[j]?=some i/\Y[j]?=some b/\E.β[i]?=some b:=fun b hb=>by
  obtain⟨j,hj⟩:=List.mem_iff_getElem?.1 hb
  have hjX:j<X.length:=by rw[<- hYl];exact(List.getElem?_eq_some_iff.1 hj).1
  obtain⟨b',h1,h2⟩:=hY j X[j] (by simp[hjX]);have:b'=b:=Option.some.inj (h1.symm.trans hj);subst this;exact⟨j,X[j],List.getElem?_eq_getElem hjX,hj,h2⟩
 have hYβ:∀b∈Y,b∈E.β:=fun b hb=>by
  obtain⟨j,i,_,_,h3⟩:=hYmem b hb;exact List.mem_iff_getElem?.2 ⟨i,h3⟩
 have hY1:yP ⟨C1,E.β,E.ρ⟩ X Y:=hY;obtain⟨hil,hig⟩:=pJ hins
 have hC1Y:∀b∈Y,∀o sp,C1 ⟨b,o,sp⟩=none:=fun b hb=>hp1.bC b (hYβ b hb)
 obtain⟨qB,⟨hown0,_⟩,hrow0⟩:=hp1.rws g _ y0 hg hy0
 have hrC0:∀b,blk y0=some b->b∉E.β/\∀o sp,C1 ⟨b,o,sp⟩=none:=fun b hb=>hp1.rC g _ _ _ _ y0 b hg hy0 hb
 refine hmono ?_ (hspec w C1 Y vs y0 qB hp1.gok hp1.sub hYn hC1Y (by rw[hil];simp[hYl]) (fun j b cs hj hcs=>?_) hown0 hrow0 (fun b hb=>⟨fun hm=>(hrC0 b hb).1 (hYβ b hm),(hrC0 b hb).2⟩) (x9 hp1 hY1 hy0 args hargs' (A.repL.mono args le1 hargs)))
 rotate_left
 ·obtain⟨c0,h1,h2⟩:=hig j cs hcs;rw[List.getElem?_map,Option.map_eq_some_iff] at h1;obtain⟨i,hi,hc0⟩:=h1;obtain⟨b',h3,h4⟩:=hY j i hi;have:b'=b:=Option.some.inj (h3.symm.trans hj);subst this;have hib:i<s.bx.length:=hX i (List.mem_iff_getElem?.2 ⟨j,hi⟩);obtain⟨T',arr,h5,h6⟩:=hp1.bxs i b' c0 h4 (by rw[<- hc0];simp[List.getD_eq_getElem?_getD,hib]);exact⟨T',arr,h5,h6.renG hp1 hY1 hy0 h2⟩
 ·rintro e w' (⟨outs,n',cs',r,v,y',xs',C',rfl,hpost,kp,hC,hC',hnew,hol,hob,hown,hrep,hy',hr⟩|⟨ch,ns,rfl,hpn,kp,hnl,hnb⟩)
  ·refine .inl ⟨v,rfl,⟨?_⟩⟩;obtain⟨-,bx',hK,hbl,hbo,hbi⟩:=jdp hn (hk outs n' cs' r hpost (by rw[hol,hYl]));rw[force_iff,qR,bQ] at hK
   have hlast:(E.ρ++[y'])[s.rw.length]?=some y':=by rw[hp.rl];simp
   have hcall:=hp1.callR hg hy0 hYβ kp hC hC' hnew (bx':=bx') hbl hown hrep hy' (fun i b cs h1 h2=>?_)
   ·exact⟨backG X s.rw.length r,_,_,hK,rfl,le1.trans hcall.2,hcall.1,jcD (E:=⟨C1,E.β,E.ρ⟩) hY1 hYl hlast r hr,fun hf=>by rw[hflag] at hf;(cases hf),kp.size⟩
   ·by_cases hi:i∈X
    ·left;obtain⟨j,hj⟩:=List.mem_iff_getElem?.1 hi;obtain⟨b',h3,h4⟩:=hY j i hj;have:b'=b:=Option.some.inj (h4.symm.trans h1);subst this
     have hjo:j<outs.length:=by rw[hol];exact(List.getElem?_eq_some_iff.1 h3).1
     have h5:=hbi j i outs[j] hj (by simp[hjo]);rw[h2] at h5;cases h5;obtain⟨T',arr,h6,h7⟩:=hob j b' outs[j] h3 (by simp[hjo]);exact⟨T',arr,h6,h7.backG (E:=⟨C1,E.β,E.ρ⟩) hY1 hYl hlast⟩
    ·right;rw[hbo i hi] at h2;refine⟨fun hm=>?_,h2⟩;obtain⟨j,i',h3,h4,h5⟩:=hYmem b hm;have e1:=List.getElem?_eq_some_iff.1 h1;have e2:=List.getElem?_eq_some_iff.1 h5;have:i=i':=x8 hp.bnd (e1.2.trans e2.2.symm);subst this;exact hi (List.mem_iff_getElem?.2 ⟨j,h3⟩)
  ·right
   have hkC:∀ad u,C1 ad=some u->(kQ w') ad=some u:=fun ad u hc=>by
    refine kp.cell (hp1.sub ad u hc) (fun hm=>?_);rcases List.mem_append.1 hm with h1|h1
    ·have:C1 ad=none:=hC1Y _ h1 ad.off ad.spot;rw[this] at hc;cases hc
    ·have h2:blk y0=some ad.block:=by
      cases hb:blk y0 with
      |none=>rw[hb] at h1;simp at h1
      |some b=>rw[hb] at h1;simp at h1;rw[h1]
     have:C1 ad=none:=(hrC0 _ h2).2 ad.off ad.spot;rw[this] at hc;cases hc
   have hcall:=hp1.callR (y':=.slice none 0 0) (n':=0) (cs':=[]) (xs':=[]) hg hy0 hYβ kp (C':=C1) (Sub.refl _) hkC (fun ad u hc=>.inl hc) (bx':=(List.range s.bx.length).map fun i=>match idx X i with|some j=>List.replicate (ns.getD j 0) .dead|none=>s.bx.getD i []) (by simp) (owR.nil _ _ _) (by simp[A.repC]) (fun b hb=>by simp[blk] at hb) (fun i b cs h1 h2=>?_)
   ·refine⟨ch,⟨s.t,_,_⟩,_,rfl,hpan ch _ hpn (by simp) (fun i hi=>?_),rfl,le1.trans hcall.2,hcall.1⟩;rw[List.getElem?_map];by_cases hl:i<s.bx.length
    ·rw[List.getElem?_range hl];simp only[Option.map_some];rw[jaX hi];simp[List.getD_eq_getElem?_getD,hl]
    ·rw[List.getElem?_eq_none (by simpa using hl),List.getElem?_eq_none (by simpa using hl)];rfl
   ·have hil:=(List.getElem?_eq_some_iff.1 h2).1;simp only[List.length_map,List.length_range] at hil;rw[List.getElem?_map,List.getElem?_range hil] at h2;simp only[Option.map_some,Option.some.injEq] at h2
    cases hj:idx X i with
    |some j =>
     rw[hj] at h2
     simp only at h2
     left;obtain⟨b',h3,h4⟩:=hY j i (eT hj);have:b'=b:=Option.some.inj (h4.symm.trans h1);subst this
     have hjn:j<ns.length:=by rw[hnl];exact(List.getElem?_eq_some_iff.1 h3).1
     obtain⟨T',arr,h6,h7⟩:=hnb j b' ns[j] h3 (by simp[hjn]);rw[<- h2];refine⟨T',arr,h6,?_⟩
     have e:ns.getD j 0=ns[j]:=by simp[List.getD_eq_getElem?_getD,hjn]
     rw[e];have h7:=h7.1;exact .mk' (A.repC_mk (aO (jaB h7)) (A.repC_one h7))
    |none =>
     rw[hj] at h2
     simp only at h2
     right;refine⟨fun hm=>?_,?_⟩
     ·obtain⟨j,i',h3,h4,h5⟩:=hYmem b hm;have e1:=List.getElem?_eq_some_iff.1 h1;have e2:=List.getElem?_eq_some_iff.1 h5;have:i=i':=x8 hp.bnd (e1.2.trans e2.2.symm);subst this;exact jgd (List.mem_iff_getElem?.2 ⟨j,h3⟩) hj
     ·rw[<- h2];simp[List.getD_eq_getElem?_getD,hil]
theorem jjv{Xr:Nat->Bool}{f:Nat}{args:List A}{vs:List Value}{pan:List PanicEntry->S->Prop}{K:A->S->Prop}(hp:Hp w0 C0 β0 s.bx s.rw w E)(hargs:A.repL args E vs)(h:kB P pan Xr f args s K) :
  (∀vs w,(callFunc f vs).run P w=.ok (.enter f vs) w)/\Calls P f vs.toArray w (fun e w'=>(∃y,e=.returned y/\Left w0 C0 β0 Xr s E w K y w')∨∃ch s' E',e=.panicked ch/\pan ch s'/\s'.t=s.t/\E.le E'/\Hp w0 C0 β0 s'.bx s'.rw w' E'):=by
 unfold kB at h;rcases h with h|h|h|h|h|h
 rotate_left
 ·obtain⟨ids,args',post,hargs',hspec,hk⟩:=h;obtain⟨C1,hp1,le1⟩:=hp.pubs ids
  have hY:yP ⟨C1,E.β,E.ρ⟩ [] []:=fun j i h=>by simp at h
  have hren:=wM (E:=⟨C1,E.β,E.ρ⟩) hp1 hY args hargs' (A.repL.mono args le1 hargs)
  replace hspec:=hspec (kZ _ hren)
  refine⟨hspec.1,(hspec.2 w C1 vs hp1.gok hp1.sub hren).mono ?_⟩;rintro e w' ⟨et,k,n,cs,r,v,y,xs,C',rfl,hpost,kp,hC,hC',hnew,hnone,hown,hrep,hr⟩;refine .inl ⟨v,rfl,⟨?_⟩⟩;have hK:=hk et k n cs r hpost;rw[force_iff,qR,kW] at hK;have hcall:=hp1.call (Y:=[]) (by simp) kp (C':=C') hC hC' hnew (bx':=s.bx) rfl (fun i b cs h1 h2=>.inr ⟨by simp,h2⟩)
  have hadd:=hcall.1.addRow hown hrep (fun b hb=>.inl (Nat.le_trans hp.keep.size (hnone b hb).2)) (fun b hb=>by
   have hlt:=(hnone b hb).2;refine⟨fun hm=>?_,(hnone b hb).1,fun g e' k' n' cs' z h1 h2 h3=>?_⟩
   ·have:=hp1.blt hm;omega
   ·have:=(hp1.rlt h1 h2 h3).2
    omega)
  refine⟨vI s.rw.length r,_,_,hK,rfl,le1.trans (hcall.2.trans hadd.2),hadd.1,?_,fun _ b hb h2=>?_,kp.size⟩
  ·refine jcC ?_ r hr;have hl:s.rw.length=E.ρ.length:=hp.rl;show(E.ρ++[y])[s.rw.length]?=some y;rw[hl];simp
  ·exact kp.block b hb (by simp)
 ·obtain⟨ids,args',post,hargs',hspec,hk⟩:=h;obtain⟨C1,hp1,le1⟩:=hp.pubs ids;have hren:=eW (E:=⟨C1,E.β,E.ρ⟩) hp1 args hargs' (A.repL.mono args le1 hargs)
  replace hspec:=hspec (kZ _ hren)
  refine⟨hspec.1,(hspec.2 w (kQ w) [] vs (hp1.gok.mono hp1.sub) (Sub.refl _) List.nodup_nil (by simp) rfl (by simp) hren).mono ?_⟩;rintro e w' ⟨outs,r,v,rfl,hpost,kp,hol,-,hr⟩;obtain rfl:outs=[]:=List.eq_nil_of_length_eq_zero (by simpa using hol);obtain⟨x,rfl,hK⟩:=hk r hpost;have hcall:=hp.call (Y:=[]) (by simp) kp (C':=E.C) (Sub.refl _) (fun ad u hc=>kp.cell (hp.sub ad u hc) (by simp)) (fun ad u hc=>.inl hc) (bx':=s.bx) rfl (fun i b cs h1 h2=>.inr ⟨by simp,h2⟩);exact .inl ⟨v,rfl,⟨⟨.v x,s,_,hK,rfl,hcall.2,hcall.1,by unfold A.rep at hr ⊢;exact hr,fun _ b hb _=>kp.block b hb (by simp),kp.size⟩⟩⟩
 ·obtain⟨X,ids,ins,args',post,pn,hn,hXr,hX,hins,hargs',hspec,hk,hpan⟩:=h;exact jat hp hargs hn hXr hX hins hargs' hspec hk hpan
 ·obtain⟨hflag,X,ids,g,e,k,n,cs,ins,args',post,pn,hn,hXr,hX,hg,hins,hargs',hspec,hk,hpan⟩:=h;obtain⟨ho,hc⟩:=jfC (Cl:=Calls P f) (fun h k=>Calls.mono k h) hp hargs hflag hn hXr hX hg hins hargs' (fun ho=>(hspec ho).2) hk hpan;exact⟨(hspec ho).1,hc⟩
 ·exact⟨h.1,h.2 w0 C0 β0 E w vs hp hargs⟩
 ·obtain⟨X,ids,ins,args',post,hn,hXr,hX,hins,hargs',hspec,hk⟩:=h;exact jat hp hargs hn hXr hX hins hargs' (fun ho=>(hspec ho).toP) hk (fun _ _ h=>h.elim)
end
end
section
def jax(a:A)(K:List A->Prop):Prop :=
 match a with
 |.agg l=>K l
 |.v x=>K [.v x]
 |.sl k n cs=>K [.sl k n cs]
 |.own g=>K [.own g]
 |.box b o=>K [.box b o]
 |.pp cs=>K [.pp cs]
 |.gp g o=>K [.gp g o]
 |.err=>K [.err]
 |.num=>K [.num]
 |.clo f cs=>K [.clo f cs]
 |.bm f cs=>K [.bm f cs]
 |.mp ks vs=>K [.mp ks vs]
 |_=>False
def aF{α:Type}:List α->α->Nat->(Nat->List α->Prop)->Prop
 |[],a,n,K=>K n [a]
 |x::l,a,n,K=>aF l a (n+1) fun m r=>K m (x::r)
theorem kK{α:Type}:∀{l:List α} {a:α} {n:Nat} {K:Nat->List α->Prop},aF l a n K↔K (n+l.length) (l++[a])
 |[],a,n,K=>by simp[aF]
 |x::l,a,n,K=>by
  unfold aF;rw[kK (l:=l)];simp[Nat.add_assoc,Nat.add_comm 1]
def jcS(s:S)(place:Nat->Option (Nat×Nat)):List (Nat×Operand)->List A->(List A->Prop)->Prop
 |[],cs,K=>K cs
 |(i,x)::r,cs,K=>match place i with
  |some (off,n+1)=>jax (ev s x) fun ds=>match Nat.beq ds.length (n+1) with
   |true=>yK cs off ds fun cs'=>jcS s place r cs' K
   |false=>False
  |_=>False
def jh8:List Value->Nat->List Value->List Value
 |us,_,[]=>us
 |us,off,v::vs=>jh8 (us.set off v) (off+1) vs
section
variable{P:Program}{T:List (Nat×Te)}{w0:W0}{w:World}{C0:Rd}{β0:List Nat}{s:S}{a:Act}{E:Env}{o:Oper}
theorem eK(hp:Hp w0 C0 β0 s.bx s.rw w E){x:A}{y:Value}{K:List A->Prop}(h:jax x K)(hr:x.rep E y):∃cs,K cs/\A.repC cs E y.cells.toList:=by
 have one:∀(x:A) (y:Value),x.rep E y->y.oneCell'=true->A.repC [x] E y.cells.toList:=fun x y h1 h2=>by
  have e:y.cells.toList=[y]:=by cases y <;> simp[Value.oneCell'] at h2 <;> rfl
  rw[e];unfold A.repC;exact⟨y,[],rfl,h2,h1,by simp[A.repC]⟩
 cases x with
 |agg l =>
  unfold A.rep at hr;obtain⟨us,rfl,h2⟩:=hr;exact⟨l,h,h2⟩
 |v x =>
  have h2:=A.rep_v_iff.1 hr;exact⟨_,h,one _ _ hr (by rw[h2.1];exact pC h2.2)⟩
 |sl k n cs =>
  obtain⟨_,_,p,b,off,cap,rfl,_⟩:=yU hr;exact⟨_,h,one _ _ hr rfl⟩
 |own g =>
  have h2:=hr;unfold A.rep at h2
  obtain⟨p,n,c,rfl⟩|⟨r,rfl⟩|⟨ad,rfl⟩:=hp.rs g y h2 <;> exact⟨_,h,one _ _ hr rfl⟩
 |box b o =>
  have h2:=hr;unfold A.rep at h2;obtain⟨_,_,rfl⟩:=h2;exact⟨_,h,one _ _ hr rfl⟩
 |pp cs =>
  have h2:=hr;unfold A.rep at h2;obtain⟨_,_,rfl,_⟩:=h2;exact⟨_,h,one _ _ hr rfl⟩
 |gp g o =>
  have h2:=hr;unfold A.rep at h2;subst h2;exact⟨_,h,one _ _ hr rfl⟩
 |err =>
  have h2:=hr;unfold A.rep at h2;obtain⟨_,_,rfl⟩:=h2;exact⟨_,h,one _ _ hr rfl⟩
 |num =>
  have h2:=hr;unfold A.rep at h2;obtain⟨_,rfl⟩:=h2;exact⟨_,h,one _ _ hr rfl⟩
 |clo f cs =>
  have h2:=hr;unfold A.rep at h2;obtain⟨_,rfl,_⟩:=h2;exact⟨_,h,one _ _ hr rfl⟩
 |bm f cs =>
  have h2:=hr;unfold A.rep at h2;obtain⟨_,rfl,_⟩:=h2;exact⟨_,h,one _ _ hr rfl⟩
 |mp ks vs =>
  have h2:=hr;unfold A.rep at h2;obtain⟨_,_,rfl,_⟩:=h2;exact⟨_,h,one _ _ hr rfl⟩
 |_=>exact h.elim
theorem pU:∀{ds:List A} {vs us:List Value} {cs:List A} {off:Nat} {K:List A->Prop},yK cs off ds K->A.repC cs E us->A.repC ds E vs->(∀j,j<ds.length->off+j<cs.length)/\∃cs',K cs'/\A.repC cs' E (jh8 us off vs)
 |[],vs,us,cs,off,K,h,hc,hd=>by
  unfold A.repC at hd;subst hd;exact⟨fun j hj=>by simp at hj,cs,h,hc⟩
 |d::ds,vs,us,cs,off,K,h,hc,hd=>by
  unfold A.repC at hd;obtain⟨v,vs',rfl,h1,h2,h3⟩:=hd;unfold yK at h;obtain⟨h4,h5⟩:=zQ h;obtain⟨h6,cs',h7,h8⟩:=pU h5 (A.repC_set hc off h2 h1) h3;refine⟨fun j hj=>?_,cs',h7,h8⟩
  cases j with
  |zero=>simpa using h4
  |succ j =>
   have:=h6 j (by simpa using hj);simp at this;omega
theorem je2:∀{ds cs:List A} {off:Nat} {K:List A->Prop},yK cs off ds K->∀j,j<ds.length->off+j<cs.length
 |[],cs,off,K,h=>fun j hj=>by simp at hj
 |d::ds,cs,off,K,h=>by
  unfold yK at h;obtain⟨h4,h5⟩:=zQ h;have h6:=je2 h5
  refine fun j hj=>?_
  cases j with
  |zero=>simpa using h4
  |succ j =>
   have:=h6 j (by simpa using hj);simp at this;omega
theorem jaM(off:Nat):∀(vs:List Value) (n:Nat) (arr:Array Value),((vs.zipIdx n).foldl (fun cs x=>cs.setIfInBounds (off+x.2) x.1) arr).toList=jh8 arr.toList (off+n) vs
 |[],n,arr=>by simp[jh8]
 |v::vs,n,arr=>by
  simp only[List.zipIdx_cons,List.foldl_cons,jh8];rw[jaM off vs (n+1)];simp[Nat.add_assoc]
theorem jaL(off:Nat)(v:Value)(arr:Array Value):(v.cells.zipIdx.foldl (fun cs x=>cs.setIfInBounds (off+x.2) x.1) arr).toList=jh8 arr.toList off v.cells.toList:=by
 have:=jaM off v.cells.toList 0 arr;rw[Nat.add_zero] at this;rw[<- this,<- Array.foldl_toList,Array.toList_zipIdx]
theorem uK:∀(vs us:List Value) (off:Nat),(jh8 us off vs).length=us.length
 |[],us,off=>rfl
 |v::vs,us,off=>by simp[jh8,uK vs]
theorem lZ(hp:Hp w0 C0 β0 s.bx s.rw w E)(ht:A.repL s.t E a.tmps.toList){place:Nat->Option (Nat×Nat)}:∀{ps:List (Nat×Operand)} {cs:List A} {arr:Array Value} {K:List A->Prop},jcS s place ps cs K->A.repC cs E arr.toList →
  ∃cs' arr',K cs'/\Instr.fill place arr (ps.map fun x=>(x.1,a.eval x.2))=some arr'/\A.repC cs' E arr'.toList/\arr'.size=arr.size
 |[],cs,arr,K,h,hc=>⟨cs,arr,h,by simp[Instr.fill],hc,rfl⟩
 |(i,x)::ps,cs,arr,K,h,hc=>by
  unfold jcS at h;split at h
  ·rename_i off n hpl;obtain⟨ds,h1,h2⟩:=eK hp h (jM ht x);split at h1
   ·rename_i hb;have hsz:ds.length=n+1:=Nat.eq_of_beq_eq_true hb;obtain⟨h3,cs',h4,h5⟩:=pU h1 hc h2
    have hvl:(a.eval x).cells.size=n+1:=by rw[<- hsz,<- A.repC_len h2];simp
    have hbd:off+(n+1)<=arr.size:=by
     have:=h3 n (by omega);rw[<- A.repC_len hc] at this;simp at this;omega
    rw[<- jaL] at h5;obtain⟨cs2,arr2,k1,k2,k3,k4⟩:=lZ hp ht h4 h5;refine⟨cs2,arr2,k1,?_,k3,k4.trans ?_⟩
    ·simp only[List.map_cons,Instr.fill,hpl];rw[if_neg (by simp[hvl];omega)];exact k2
    ·rw[<- Array.length_toList,jaL,uK,Array.length_toList]
   ·exact h1.elim
  ·exact h.elim
theorem jdT(hb:∀{i b:Nat},E.β[i]?=some b->True):∀{ds:List A} {vs:List Value} {bx:List (List A)} {rw:List Row} {w:World} {i b:Nat} {cs:List A} {off:Nat} {K:List A->Prop},Hp w0 C0 β0 bx rw w E->E.β[i]?=some b->bx[i]?=some cs->yK cs off ds K->A.repC ds E vs →
  ∃cs',K cs'/\Hp w0 C0 β0 (bx.set i cs') rw (w.setCells b off vs) E
 |[],vs,bx,rw,w,i,b,cs,off,K,hp,h1,h2,h,hd=>by
  unfold A.repC at hd;subst hd;refine⟨cs,h,?_⟩
  have e:bx.set i cs=bx:=by
   apply List.ext_getElem?;intro j;rw[List.getElem?_set];by_cases hj:i=j
   ·subst hj;have e2:=List.getElem?_eq_some_iff.1 h2;simp[e2.1,e2.2]
   ·simp[hj]
  rw[e];exact hp
 |d::ds,vs,bx,rw,w,i,b,cs,off,K,hp,h1,h2,h,hd=>by
  unfold A.repC at hd;obtain⟨v,vs',rfl,k1,k2,k3⟩:=hd;unfold yK at h;obtain⟨h4,h5⟩:=zQ h;have hp1:=hp.store (off:=off) h1 h2 k2 k1;have hi:=(List.getElem?_eq_some_iff.1 h2).1;obtain⟨cs',h6,h7⟩:=jdT hb (bx:=bx.set i (cs.set off d)) hp1 h1 (List.getElem?_set_self hi) h5 k3;refine⟨cs',h6,?_⟩;rw[List.set_set] at h7;exact h7
theorem lM(b k:Nat)(hk:k≠b):∀(vs:List Value) (off:Nat) (w:World),(w.setCells b off vs).heap[k]?=w.heap[k]?
 |[],_,_=>rfl
 |v::r,off,w=>by
  have h1:=lM b k hk r (off+1) (w.setCell ⟨b,off,none⟩ v);have h2:=Below.heap_setCell w ⟨b,off,none⟩ v k hk;exact h1.trans h2
def jef(T:List (Nat×Te))(s:S)(t:Nat)(x y:Operand)(K:A->S->Prop):Prop :=
 match Tab.get T t with
 |some e=>match ev s x with
  |.box b off=>match s.bx[b]? with
   |some cs=>jax (ev s y) fun ds=>match Nat.beq ds.length e.z.length with
    |true=>yK cs off ds fun cs'=>aS s.bx b cs' fun bx'=>jkB s bx' (K .dead)
    |false=>False
   |none=>False
  |_=>False
 |none=>False
theorem jhk{t:Nat}{x y:Operand}{K:A->S->Prop}(hT:Tab.ok P T)(hp:Hp w0 C0 β0 s.bx s.rw w E)(ht:A.repL s.t E a.tmps.toList)(ho:o.op=.store t x y)(h:jef T s t x y K) :
  ∃w' bx',(execOp a.eval o).run P w=.ok .skip w'/\K .dead ⟨s.t,bx',s.rw⟩/\Hp w0 C0 β0 bx' s.rw w' E/\∃i off b,ev s x=.box i off/\E.β[i]?=some b/\∀k,k≠b->w'.heap[k]?=w.heap[k]?:=by
 unfold jef at h;split at h
 ·rename_i e htab;have hx:=jM ht x;split at h
  ·rename_i i off hev;rw[hev] at hx;unfold A.rep at hx;obtain⟨b,hb,hv⟩:=hx;split at h
   ·rename_i cs hcs;obtain⟨ds,h1,h2⟩:=eK hp h (jM ht y);split at h1
    ·rename_i hbeq;have hlen:ds.length=e.z.length:=Nat.eq_of_beq_eq_true hbeq;obtain⟨T',arr,k1,k2⟩:=hp.bxs i b cs hb hcs;have k3:=je2 h1;obtain⟨cs',k4,k5⟩:=jdT (fun _=>trivial) hp hb hcs h1 h2;obtain⟨k6,k7⟩:=zQ k4;rw[tO] at k7;refine⟨_,_,?_,k7,k5,i,off,b,hev,hb,fun k hk=>lM b k hk _ _ _⟩;have hdl:=A.repC_len h2;have hcl:=k2.len
     have hst:=run_storeCells_cells (P:=P) b off (a.eval y).cells.toList 0 w (fun j hj=>by
       have h9:=k3 j (by omega);simp only[kQ,World.cell?,k1,Nat.add_zero];simp at hcl ⊢
       omega) (fun j hj=>by simp[World.frozen?,k1]) (A.repC_one h2)
     have hsz:=hT.size htab w
     have hss:(a.eval y).cells.size=e.z.length:=by rw[<- hlen,<- hdl];simp
     simp only[Nat.add_zero] at hst;simp[execOp,ho,hv,Instr.storeAt,Instr.sureAddr,storeVar,hsz,hss,hst,Result.andThen]
    ·exact h1.elim
   ·exact h.elim
  ·exact h.elim
 ·exact h.elim
end
end
section
mutual
def bE:A->List Nat
 |.own g=>[g]
 |.orow g _=>[g]
 |.clo _ l=>o6 l
 |.bm _ l=>o6 l
 |.agg l=>o6 l
 |.tup l=>o6 l
 |_=>[]
def o6:List A->List Nat
 |[]=>[]
 |a::r=>bE a++o6 r
end
def jfp:Nat->List Value->(List A->Prop)->Prop
 |0,_,K=>K []
 |n+1,z,K=>aN yR z fun l=>jfp n z fun r=>K (l++r)
theorem jc8:∀{n:Nat} {z:List Value} {K:List A->Prop},jfp n z K->∃cs,K cs/\cs=(List.replicate n (z.map yR)).flatten
 |0,z,K,h=>⟨[],h,by simp⟩
 |n+1,z,K,h=>by
  unfold jfp at h;rw[qN] at h;obtain⟨cs,h1,h2⟩:=jc8 h;exact⟨_,h1,by rw[h2,List.replicate_succ,List.flatten_cons]⟩
def jsx(n:Nat):List Value->List A
 |[x]=>List.replicate n (yR x)
 |z=>(List.replicate n (z.map yR)).flatten
theorem jpI(n:Nat)(z:List Value):jsx n z=(List.replicate n (z.map yR)).flatten:=by
 unfold jsx;split
 ·rw[List.map_cons,List.map_nil]
  induction n with
  |zero=>rfl
  |succ n ih=>rw[List.replicate_succ,List.replicate_succ,List.flatten_cons,<- ih];rfl
 ·rfl
def jtJ(t:Nat):List Nat->Bool
 |[]=>false
 |x::r=>match Nat.beq t x with
  |true=>true
  |false=>jtJ t r
def jhO(t:Nat)(cs:List A)(K:List A->Prop):Prop:=match jtJ t jtf with
 |true=>match cs with
  |a::r=>match a with
   |.v (.pointer none)=>K (.adr t::r)
   |a=>K (a::r)
  |[]=>K []
 |false=>K cs
theorem jkE{t b:Nat}{cs:List A}{E:Env}{arr:Array Value}{K:List A->Prop}(h:jhO t cs K)(hr:A.repC cs E arr.toList):∃cs',K cs'/\boxC t b cs' E arr:=by
 unfold jhO at h;split at h
 ·split at h
  ·rename_i a r;split at h
   ·refine⟨_,h,?_,fun t' r' e=>?_⟩
    ·show A.repC (.dead::r) E arr.toList;unfold A.repC at hr ⊢;obtain⟨u,us,e1,h1,_,h3⟩:=hr;exact⟨u,us,e1,h1,A.rep_dead _ _,h3⟩
    ·injection e with e1 e2;cases e1;unfold A.repC at hr;obtain⟨u,us,e1,h1,h2,h3⟩:=hr;have hu:=(A.rep_v_iff.1 h2).1;refine⟨rfl,.inl ?_⟩;rw[<- Array.getElem?_toList,e1];simp[hu]
   ·exact⟨_,h,.mk' hr⟩
  ·exact⟨_,h,.mk' hr⟩
 ·exact⟨_,h,.mk' hr⟩
def aE(P:Program)(T:List (Nat×Te))(pan:List PanicEntry->S->Prop)(Xr:Nat->Bool)(s:S)(op:Op)(K:A->S->Prop):Prop :=
 match op with
 |.alloc t=>match Tab.get T t with
  |some e=>aN yR e.z fun cs=>jhO t cs fun cs=>aF s.bx cs 0 fun n bx=>jkB s bx (K (.box n 0))
  |none=>False
 |.box t x=>jax (ev s x) fun cs=>aF s.bx cs 0 fun n bx=>jkB s bx (K (.box n 0))
 |.buildSlice t n ps=>match Tab.get T t with
  |some ⟨.slice e,_,_⟩=>match Tab.get T e with
   |some el=>match Nat.ble (n*el.z.length) 16777216,el.z with
    |true,_::_=>jfp n el.z fun cs=>jcS s (fun i=>some (i*el.z.length,el.z.length)) ps.toList cs fun cs' =>
     match zC [] (jA s.rw (o6 cs')) cs' with
     |some ds=>aF (jA s.rw (o6 cs')) (.live e el.z.length n ds) 0 fun g rw=>qA rw fun rw=>aH s rw (K (.own g))
     |none=>False
    |_,_=>False
   |none=>False
  |_=>False
 |.makeSlice t l c=>match Tab.get T t with
  |some ⟨.slice e,_,_⟩=>match Tab.get T e with
   |some ⟨_,z,b⟩=>match z with
    |z0::zr=>match ev s l with
     |.v (.int _ n)=>match ev s c with
      |.v (.int _ m)=>(0<=n/\m=n/\(b:Int)*n<=281474976710656/\n<=4611686018427387904)/\aF s.rw (.live e (z0::zr).length n.toNat (jsx n.toNat (z0::zr))) 0 fun g rw=>qA rw fun rw=>aH s rw (K (.own g))
      |_=>False
     |_=>False
    |[]=>False
   |none=>False
  |_=>False
 |.call ⟨.value f,args,_⟩=>match ev s f with
  |.clo f caps=>aN (ev s) args.toList fun l=>kB P pan Xr f (l++caps) s K
  |.bm f fs=>aN (ev s) args.toList fun l=>kB P pan Xr f (fs++l) s K
  |_=>False
 |_=>False
section
variable{P:Program}{T:List (Nat×Te)}{w0:W0}{w:World}{C0:Rd}{β0:List Nat}{s:S}{a:Act}{E:Env}{o:Oper}
theorem fT{z:List Value}{x:Value}(h:x.cells.toList=z)(h1:∀u∈z,u.oneCell'=true)(E:Env):A.repC (z.map yR) E x.cells.toList:=by
 rw[h];refine A.repC_mk ?_ h1;have:=A.repL_map (E:=E) z yR id (fun u hu=>eQ u E);simpa using this
theorem jdA{z:List Value}(h1:∀u∈z,u.oneCell'=true)(E:Env)(n:Nat):A.repC (List.replicate n (z.map yR)).flatten E (List.replicate n z).flatten:=by
 induction n with
 |zero=>simp[A.repC]
 |succ n ih =>
  rw[List.replicate_succ,List.flatten_cons,List.replicate_succ,List.flatten_cons];refine A.repC_append ?_ ih;exact A.repC_mk (by have:=A.repL_map (E:=E) z yR id (fun u hu=>eQ u E);simpa using this) h1
theorem jfY(l:List Value)(hl:0<l.length):∀(n i:Nat),i<n*l.length->(List.replicate n l).flatten[i]?=l[i % l.length]?
 |0,i,h=>by simp at h
 |n+1,i,h=>by
  rw[List.replicate_succ,List.flatten_cons];by_cases hi:i<l.length
  ·rw[List.getElem?_append_left hi,Nat.mod_eq_of_lt hi]
  ·rw[List.getElem?_append_right (by omega),jfY l hl n (i-l.length) (by rw[Nat.add_mul] at h;omega)];rw[Nat.mod_eq_sub_mod (a:=i) (by omega)]
theorem uH(z:Array Value)(hz:0<z.size)(n:Nat):((Array.range (n*z.size)).map (fun i=>z[i % z.size]!)).toList=(List.replicate n z.toList).flatten:=by
 apply List.ext_getElem?;intro i
 have hl:z.toList.length=z.size:=by simp
 by_cases hi:i<n*z.size
 ·rw[jfY z.toList (by omega) n i (by rw[hl];exact hi),hl];have hm:=Nat.mod_lt i hz;simp[hi,hm]
 ·rw[List.getElem?_eq_none (by simpa using hi),List.getElem?_eq_none (by simp;omega)]
def pV(T:List (Nat×Te)):Prop:=∀t e,Tab.get T t=some e->∀u∈e.z,u.oneCell'=true
theorem rE{pan:List PanicEntry->S->Prop}{Xr:Nat->Bool}{K:A->S->Prop}{Kc:Act->World->Prop}{Q:Exit->Act->World->Prop}(hT:Tab.ok P T)(hz:pV T)(hp:Hp w0 C0 β0 s.bx s.rw w E)(ht:A.repL s.t E a.tmps.toList)(h:aE P T pan Xr s o.op K)
  (hx:∀ch s' E' w',pan ch s'->s'.t=s.t->E.le E'->Hp w0 C0 β0 s'.bx s'.rw w' E'->Q (.panic ch) a w')
  (hk:∀y w',Left w0 C0 β0 Xr s E w K y w'->Kc (a.put o.dst y) w'):o.wp P a w Kc Q:=by
 have same:∀{w':World},Keeps [] w w'->jqp Xr E w w':=fun k _ b hb _=>k.block b hb (by simp)
 cases ho:o.op with
 |alloc t =>
  rw[ho] at h;unfold aE at h
  simp only at h
  split at h
  ·rename_i e htab;rw[qN] at h;obtain⟨z,hz1,hz2⟩:=hT.zero htab;have hr:=fT hz1 (hz t e htab) E;obtain⟨cs',h,hr⟩:=jkE (b:=w.heap.size) h hr;rw[kK,tO] at h;obtain⟨h1,le⟩:=hp.box z.cells t hr
   have hrun:(execOp a.eval o).run P w=.ok (.value (.pointer (some ⟨w.heap.size,0,none⟩))) (w.alloc (.cells z.cells t)):=by
    simp[execOp,ho,Instr.alloc,hz2,newVar,newRow,newObj,Sem.run,Result.andThen]
   unfold Oper.wp;rw[hrun];refine hk _ _ ⟨_,_,_,h,rfl,le,h1,?_,same (Keeps.alloc _ _),(Keeps.alloc _ _).size⟩;unfold A.rep;exact⟨w.heap.size,by rw[Nat.zero_add,hp.bl];simp,rfl⟩
  ·exact h.elim
 |box t x =>
  rw[ho] at h;unfold aE at h
  simp only at h
  obtain⟨cs,h,hr⟩:=eK hp h (jM ht x);rw[kK,tO] at h;obtain⟨h1,le⟩:=hp.box (a.eval x).cells t (.mk' hr)
  have hrun:(execOp a.eval o).run P w=.ok (.value (.pointer (some ⟨w.heap.size,0,none⟩))) (w.alloc (.cells (a.eval x).cells t)):=by
   simp[execOp,ho,Instr.box,newVar,newRow,newObj,Sem.run,Result.andThen]
  unfold Oper.wp;rw[hrun];refine hk _ _ ⟨_,_,_,h,rfl,le,h1,?_,same (Keeps.alloc _ _),(Keeps.alloc _ _).size⟩;unfold A.rep;exact⟨w.heap.size,by rw[Nat.zero_add,hp.bl];simp,rfl⟩
 |buildSlice t n ps =>
  rw[ho] at h;unfold aE at h
  simp only at h
  split at h
  ·rename_i e z b' htab;split at h
   ·rename_i el hel;split at h
    ·rename_i z0 zr hble hez;obtain⟨cs,h,hcs⟩:=jc8 h;have hu:=hT.slice htab;obtain⟨zv,hz1,hz2⟩:=hT.zero hel
     have hzs:zv.cells.size=el.z.length:=by rw[<- hz1];simp
     have hpos:0<zv.cells.size:=by rw[hzs,hez];simp
     have hr0:=jdA (hz e el hel) E n;rw[<- hz1,<- uH zv.cells hpos,hz1,<- hcs] at hr0;obtain⟨cs',arr',k1,k2,k3,k4⟩:=lZ hp ht h hr0;split at k1
     ·rename_i ds hds;rw[kK,qR,kW] at k1;obtain⟨C1,hp1,le1⟩:=hp.pubs (o6 cs')
      have hY:yP ⟨C1,E.β,E.ρ⟩ [] []:=fun j i h=>by simp at h
      have hrd:=A.repC_mk (wM hp1 hY cs' hds (A.repL.mono cs' le1 (A.repC_L k3))) (A.repC_one k3);have hbl:n*el.z.length<=16777216:=Nat.le_of_ble_eq_true hble
      have hnm:n<=maxLen:=by
       have:n*1<=n*el.z.length:=Nat.mul_le_mul_left n (by rw[hez];simp);unfold maxLen;omega
      have hsz:arr'.size=n*el.z.length:=by rw[k4];simp[hzs]
      obtain⟨h2,le2⟩:=hp1.row arr' e el.z.length n (by simp_all) hrd hsz hnm;have hsize:=hT.size hel w
      have hrun:(execOp a.eval o).run P w=.ok (.value (.slice (some ⟨w.heap.size,0,none⟩) n n)) (w.alloc (.cells arr' e)):=by
       have hps:(ps.map fun x=>(x.1,a.eval x.2)).toList=ps.toList.map fun x=>(x.1,a.eval x.2):=by simp
       have hn0:¬(2 ^ 24<n*el.z.length):=by omega
       by_cases h0:n=0
       ·subst h0
        have k2':Instr.fill (fun i=>some (i*el.z.length,el.z.length)) #[] (ps.toList.map fun x=>(x.1,a.eval x.2))=some arr':=by simpa [show Array.range 0 = #[] from rfl] using k2
        simp[execOp,ho,Instr.buildSlice,underlying,program,hu,hsize,show Array.range 0 = #[] from rfl,k2',newRow,newObj,Sem.run,Result.andThen]
       ·have hn1:¬(n*el.z.length=0):=by
         intro h9;rcases Nat.mul_eq_zero.1 h9 with h9|h9
         ·exact h0 h9
         ·rw[hez] at h9;simp at h9
        have hn2:¬(n=0∨el.z=[]):=by rintro (h9|h9);exact h0 h9;rw[hez] at h9;cases h9
        rw[hzs] at k2;simp[execOp,ho,Instr.buildSlice,underlying,program,hu,hsize,hn0,hn1,hz2 w,hzs,k2,newRow,newObj,Sem.run,Result.andThen]
      unfold Oper.wp;rw[hrun];refine hk _ _ ⟨_,_,_,k1,rfl,le1.trans le2,h2,?_,same (Keeps.alloc _ _),(Keeps.alloc _ _).size⟩;unfold A.rep;have hl:=hp1.rl;rw[Nat.zero_add,hl];simp
     ·exact k1.elim
    ·exact h.elim
   ·exact h.elim
  ·exact h.elim
 |makeSlice t l c =>
  rw[ho] at h;unfold aE at h
  simp only at h
  split at h
  ·rename_i e z' b' htab;split at h
   ·rename_i dd z b hel;split at h
    ·rename_i z0 zr;split at h
     ·rename_i kl n hl;split at h
      ·rename_i kc m hc;obtain⟨⟨hn0,rfl,hby,hnm⟩,h⟩:=h;rw[kK,qR,kW] at h;obtain⟨hl,-⟩:=kM ht hl;obtain⟨hc,-⟩:=kM ht hc;have hu:=hT.slice htab;obtain⟨i,zv,d,h1,h2,h3,h4,h5,h6,h7⟩:=hT.info hel
       have hzs:zv.cells.size=i.size:=by rw[h6,<- h5];simp
       have hpos:0<zv.cells.size:=by rw[<- Array.length_toList,h5];simp
       have hr0:=jdA (hz e _ hel) E.per m.toNat
       simp only at h5 h6 h7
       have hcs:(List.replicate m.toNat (z0::zr)).flatten=(madeCells zv.cells (m.toNat*i.size)).toList:=by
        unfold madeCells;rw[<- hzs,uH zv.cells hpos,h5]
       rw[hcs,<- jpI] at hr0
       have hk2:m.toNat<=maxLen:=by unfold maxLen;omega
       obtain⟨k1,le1⟩:=hp.row (madeCells zv.cells (m.toNat*i.size)) e (z0::zr).length m.toNat (by simp) hr0 (by rw[size_madeCells,h6]) hk2
       have hrun:(execOp a.eval o).run P w=.ok (.value (.slice (some ⟨w.heap.size,0,none⟩) m.toNat m.toNat)) (w.alloc (.cells (madeCells zv.cells (m.toNat*i.size)) e)):=by
        have:=run_make (P:=P) w t e i zv hu h1 h4 kl kc m m hn0 (Int.le_refl _) (by rw[h7];exact hby) (by omega);simp[execOp,ho,hl,hc,Sem.run_bind,Result.andThen,this]
       unfold Oper.wp;rw[hrun];refine hk _ _ ⟨_,_,_,h,rfl,le1,k1,?_,same (Keeps.alloc _ _),(Keeps.alloc _ _).size⟩;unfold A.rep;have hl:=hp.rl;rw[Nat.zero_add,hl];simp
      ·exact h.elim
     ·exact h.elim
    ·exact h.elim
   ·exact h.elim
  ·exact h.elim
 |call c =>
  obtain⟨callee,args,ts⟩:=c
  cases callee with
  |value f =>
   rw[ho] at h;unfold aE at h
   simp only at h
   split at h
   ·rename_i g caps hev;rw[qN] at h;have hf:=jM ht f;rw[hev] at hf;unfold A.rep at hf;obtain⟨us,hf,hcaps⟩:=hf;obtain⟨h1,h2⟩:=jjv hp (A.repL_append (nD ht args.toList) hcaps) h
    have hrun:(execOp a.eval o).run P w=.ok (.enter g (args.map a.eval++us)) w:=by
     simp[execOp,ho,resolve,Deferred.ofValue,hf,invoke,h1,Result.andThen]
    unfold Oper.wp;rw[hrun,Oper.upon_enter]
    have he:(args.toList.map a.eval++us.toList).toArray=args.map a.eval++us:=by
     apply Array.toList_inj.1;simp
    rw[he] at h2;refine h2.mono ?_;rintro e w' (⟨y,rfl,hl⟩|⟨ch,s',E',rfl,g1,g2,g3,g4⟩)
    ·exact hk y w' hl
    ·exact hx ch s' E' w' g1 g2 g3 g4
   ·rename_i g fs hev;rw[qN] at h;have hf:=jM ht f;rw[hev] at hf;unfold A.rep at hf;obtain⟨us,hf,hcaps⟩:=hf;obtain⟨h1,h2⟩:=jjv hp (A.repL_append hcaps (nD ht args.toList)) h
    have hrun:(execOp a.eval o).run P w=.ok (.enter g (us++args.map a.eval)) w:=by
     simp[execOp,ho,resolve,Deferred.ofValue,hf,invoke,h1,Result.andThen]
    unfold Oper.wp;rw[hrun,Oper.upon_enter]
    have he:(us.toList++args.toList.map a.eval).toArray=us++args.map a.eval:=by
     apply Array.toList_inj.1;simp
    rw[he] at h2;refine h2.mono ?_;rintro e w' (⟨y,rfl,hl⟩|⟨ch,s',E',rfl,g1,g2,g3,g4⟩)
    ·exact hk y w' hl
    ·exact hx ch s' E' w' g1 g2 g3 g4
   ·exact h.elim
  |_=>rw[ho] at h;exact h.elim
 |_=>rw[ho] at h;exact h.elim
end
end
section
def o9(g:Nat):List Nat->Bool
 |[]=>false
 |x::r=>match Nat.beq x g with|true=>true|false=>o9 g r
theorem memB_iff{g:Nat}:∀{l:List Nat},o9 g l=true↔g∈l
 |[]=>by simp[o9]
 |x::r=>by
  unfold o9
  cases h:Nat.beq x g with
  |true=>simp[Nat.eq_of_beq_eq_true h]
  |false =>
   have:x≠g:=fun e=>by rw[e] at h;simp at h
   simp[memB_iff (l:=r),Ne.symm this]
def kill(g:Nat)(a:A):A:=match o9 g (bE a) with|true=>.dead|false=>a
def rN(g:Nat):List A->(List A->Prop)->Prop
 |[],K=>K []
 |a::l,K=>match o9 g (bE a) with
  |true=>rN g l fun r=>K (.dead::r)
  |false=>rN g l fun r=>K (a::r)
theorem dH{g:Nat}:∀{l:List A} {K:List A->Prop},rN g l K↔K (l.map (kill g))
 |[],K=>by simp[rN]
 |a::l,K=>by
  unfold rN
  cases h:o9 g (bE a) <;> simp[dH (l:=l),kill,h]
def o8(g:Nat):List (List A)->(List (List A)->Prop)->Prop
 |[],K=>K []
 |a::l,K=>rN g a fun a'=>o8 g l fun r=>K (a'::r)
theorem eU{g:Nat}:∀{l:List (List A)} {K:List (List A)->Prop},o8 g l K↔K (l.map fun c=>c.map (kill g))
 |[],K=>by simp[o8]
 |a::l,K=>by
  unfold o8;rw[dH,eU (l:=l)];simp
mutual
theorem jkc{E:Env}{g:Nat}{v:Value}:∀(a:A) {y:Value},g∉bE a->a.rep E y->a.rep ⟨E.C,E.β,E.ρ.set g v⟩ y
 |.dead,y,_,_=>A.rep_dead _ _
 |.v x,y,_,h=>by unfold A.rep at h ⊢;exact h
 |.sl k n cs,y,_,h=>by unfold A.rep at h ⊢;exact h
 |.pp cs,y,_,h=>by unfold A.rep at h ⊢;exact h
 |.gp _ _,y,_,h=>by unfold A.rep at h ⊢;exact h
 |.adr _,y,_,h=>by unfold A.rep at h;exact h.elim
 |.err,y,_,h=>by unfold A.rep at h ⊢;exact h
 |.num,y,_,h=>by unfold A.rep at h ⊢;exact h
 |.own g',y,hn,h=>by
  unfold A.rep at h ⊢;rw[List.getElem?_set_ne (fun e=>hn (by simp[bE,e]))];exact h
 |.orow g' off,y,hn,h=>by
  unfold A.rep at h ⊢;obtain⟨b,n,cap,h1,h2⟩:=h;exact⟨b,n,cap,by rw[List.getElem?_set_ne (fun e=>hn (by simp[bE,e]))];exact h1,h2⟩
 |.box i off,y,_,h=>by unfold A.rep at h ⊢;exact h
 |.clo f l,y,hn,h=>by
  unfold A.rep at h ⊢;obtain⟨us,h1,h2⟩:=h;exact⟨us,h1,dU l (by simpa [bE] using hn) h2⟩
 |.bm f l,y,hn,h=>by
  unfold A.rep at h ⊢;obtain⟨us,h1,h2⟩:=h;exact⟨us,h1,dU l (by simpa [bE] using hn) h2⟩
 |.mp ks vs,y,_,h=>by unfold A.rep at h ⊢;exact h
 |.agg l,y,hn,h=>by
  unfold A.rep at h ⊢;obtain⟨us,h1,h2⟩:=h;exact⟨us,h1,A.repC_mk (dU l (by simpa [bE] using hn) (A.repC_L h2)) (A.repC_one h2)⟩
 |.tup l,y,hn,h=>by
  unfold A.rep at h ⊢;obtain⟨us,h1,h2⟩:=h;exact⟨us,h1,dU l (by simpa [bE] using hn) h2⟩
theorem dU{E:Env}{g:Nat}{v:Value}:∀(l:List A) {us:List Value},g∉o6 l->A.repL l E us->A.repL l ⟨E.C,E.β,E.ρ.set g v⟩ us
 |[],us,_,h=>by unfold A.repL at h ⊢;exact h
 |a::r,us,hn,h=>by
  unfold A.repL at h ⊢;obtain⟨u,us',h1,h2,h3⟩:=h;simp only[o6,List.mem_append,not_or] at hn;exact⟨u,us',h1,jkc a hn.1 h2,dU r hn.2 h3⟩
end
theorem jn6{E:Env}{g:Nat}{v:Value}{a:A}{y:Value}(h:a.rep E y):(kill g a).rep ⟨E.C,E.β,E.ρ.set g v⟩ y:=by
 unfold kill
 cases hm:o9 g (bE a) with
 |true=>exact A.rep_dead _ _
 |false=>exact jkc a (fun hg=>by rw[memB_iff.2 hg] at hm;cases hm) h
theorem dI{E:Env}{g:Nat}{v:Value}:∀{l:List A} {us:List Value},A.repL l E us->A.repL (l.map (kill g)) ⟨E.C,E.β,E.ρ.set g v⟩ us
 |[],us,h=>by unfold A.repL at h;subst h;simp[A.repL]
 |a::r,us,h=>by
  unfold A.repL at h;obtain⟨u,us',rfl,h2,h3⟩:=h;simp only[List.map_cons];unfold A.repL;exact⟨u,us',rfl,jn6 h2,dI h3⟩
def jj2(s:S)(k:Nat)(y:A)(K:Nat->List A->Prop):Prop :=
 match y with
 |.sl k' m ds=>match Nat.beq k' k with
  |true=>K m ds
  |false=>False
 |.own h=>match s.rw[h]? with
  |some (.live _ k' m ds)=>match Nat.beq k' k with
   |true=>K m ds
   |false=>False
  |some (.pub k' m ds)=>match Nat.beq k' k with
   |true=>K m ds
   |false=>False
  |_=>False
 |.v (.slice none 0 0)=>K 0 []
 |_=>False
def uV(T:List (Nat×Te))(s:S)(t t':Nat)(x y:A)(K:A->S->Prop):Prop :=
 match Nat.beq t t',Tab.get T t with
 |true,some ⟨.slice e,_,_⟩=>match Tab.get T e with
  |some ⟨_,z::zs,b⟩=>jj2 s (z::zs).length y fun m ds=>match x with
   |.own g=>match s.rw[g]? with
    |some (.live e' k n cs)=>match Nat.beq e' e,Nat.beq k (z::zs).length with
     |true,true=>(n+m<=maxLen/\(n+m)*b<=140737488355328)/\aS s.rw g (.live e k (n+m) (cs++ds)) fun r=>rN g s.t fun t=>o8 g s.bx fun bx=>K (.own g) ⟨t,bx,r⟩
     |_,_=>False
    |_=>False
   |.v (.slice none 0 0)=>(m<=maxLen/\m*b<=140737488355328)/\aF s.rw .gone 0 fun _ r=>aF r (.live e (z::zs).length m ds) 0 fun g' r'=>aH s r' (K (.own g'))
   |_=>False
  |_=>False
 |_,_=>False
def jed(T:List (Nat×Te))(s:S)(t g:Nat)(i:A)(K:A->S->Prop):Prop :=
 match Tab.get T t with
 |some ⟨.slice e,_,_⟩=>match Tab.get T e,s.rw[g]? with
  |some el,some (.live e' k n cs)=>match Nat.beq k el.z.length,k with
   |true,k'+1=>match i with
    |.v (.int _ j)=>∃m ds,(j=(m:Nat)/\m<=n/\ds=cs.take (m*(k'+1)))/\aS s.rw g (.live e' (k'+1) m ds) fun r=>rN g s.t fun t=>o8 g s.bx fun bx=>K (.own g) ⟨t,bx,r⟩
    |_=>False
   |_,_=>False
  |_,_=>False
 |_=>False
section
variable{P:Program}{T:List (Nat×Te)}{w0:W0}{w:World}{C0:Rd}{β0:List Nat}{s:S}{a:Act}{E:Env}{o:Oper}
theorem Hp.pushG'{bx:List (List A)}{rw:List Row}{w':World}(h:Hp w0 C0 β0 bx rw w E){g e k n nn:Nat}{cs ds:List A}{y v':Value}{xs:List Value}(hg:rw[g]?=some (.live e k n cs))(hy:E.ρ[g]?=some y)
  (hown:w'.ownsRow 0 e k v' nn xs) (hk:k≠0) (hr:A.repC ds E.per xs) (hgrow:w.grownBy w' y.ownBlock) (hw:v'.ownBlock=y.ownBlock∨v'.ownBlock=some w.heap.size) :
  Hp w0 C0 β0 (bx.map fun c=>c.map (kill g)) (rw.set g (.live e k nn ds)) w' ⟨E.C,E.β,E.ρ.set g v'⟩:=by
 obtain⟨hp,-⟩:=h.pushG hg hy hown hk hr hgrow hw;have hgl:=(List.getElem?_eq_some_iff.1 hg).1;have hgl2:g<E.ρ.length:=(List.getElem?_eq_some_iff.1 hy).1;have hl:=h.rl
 -- where a row of the one lies in the other
 have tr:∀(j:Nat) (r:Row) (z:Value),(rw.set g (.live e k nn ds))[j]?=some r->(E.ρ.set g v')[j]?=some z →
   ∃j',(rw.set g .gone++[Row.live e k nn ds])[j']?=some r/\(E.ρ++[v'])[j']?=some z/\(j≠g->j'=j/\j<rw.length)/\(j=g->j'=rw.length):=fun j r z h1 h2=>by
  by_cases hj:g=j
  ·subst hj;rw[List.getElem?_set_self hgl] at h1;rw[List.getElem?_set_self hgl2] at h2;refine⟨rw.length,?_,?_,fun h=>absurd rfl h,fun _=>rfl⟩
   ·rw[List.getElem?_append_right (by simp)];simpa using h1
   ·rw[List.getElem?_append_right (by omega),hl];simpa using h2
  ·rw[List.getElem?_set_ne hj] at h1 h2;have hjl:=(List.getElem?_eq_some_iff.1 h1).1;refine⟨j,?_,?_,fun _=>⟨rfl,hjl⟩,fun e=>absurd e.symm hj⟩
   ·rw[List.getElem?_append_left (by simpa using hjl),List.getElem?_set_ne hj];exact h1
   ·rw[List.getElem?_append_left (by omega)];exact h2
 refine⟨hp.sub,hp.base,hp.fresh,hp.bp,hp.bnd,hp.bC,by simpa using hp.bl,fun i b cs' h1 h2=>?_,by simp[hl],fun j r z h1 h2=>?_,fun j e' k' n' cs' z b h1 h2 h3=>?_,fun j e1 k1 n1 cs1 z j2 e2 k2 n2 cs2 z2 b hne h1 h2 h3 h4 h5=>?_,fun j z h1=>?_,hp.keep,hp.gk⟩
 ·rw[List.getElem?_map,Option.map_eq_some_iff] at h2;obtain⟨c0,h2,rfl⟩:=h2;obtain⟨T',arr,h3,h4⟩:=h.bxs i b c0 h1 h2;obtain⟨T2,arr2,h5,_⟩:=hp.bxs i b c0 h1 h2
  have hb:w'.heap[b]?=w.heap[b]?:=by
   refine hgrow.block b (h.blt (List.mem_iff_getElem?.2 ⟨i,h1⟩)) (fun e=>?_);exact(h.rC g _ _ _ _ y b hg hy (eG e.symm)).1 (List.mem_iff_getElem?.2 ⟨i,h1⟩)
  exact⟨T',arr,hb.trans h3,h4.map (kill g) (fun l us k=>dI k) rfl (fun t=>rfl) fun a t e=>by
   unfold kill at e;split at e
   ·cases e
   ·exact e⟩
 ·obtain⟨j',h3,h4,-⟩:=tr j r z h1 h2;have:=hp.rws j' r z h3 h4
  cases r with
  |live e k n cs=>exact this
  |pub k n cs =>
   have h5:(A.sl k n cs).rep _ z:=this;show(A.sl k n cs).rep _ z;unfold A.rep at h5 ⊢;exact h5
  |gone=>trivial
 ·obtain⟨j',h4,h5,-⟩:=tr j _ z h1 h2;exact hp.rC j' e' k' n' cs' z b h4 h5 h3
 ·obtain⟨j',q1,q2,q3,q4⟩:=tr j _ z h1 h2;obtain⟨j2',p1,p2,p3,p4⟩:=tr j2 _ z2 h3 h4;refine hp.rd j' e1 k1 n1 cs1 z j2' e2 k2 n2 cs2 z2 b (fun e=>hne ?_) q1 q2 p1 p2 h5;by_cases hj:j=g
  ·by_cases hj2:j2=g
   ·rw[hj,hj2]
   ·have a1:=q4 hj;have a2:=p3 hj2;omega
  ·by_cases hj2:j2=g
   ·have a1:=q3 hj;have a2:=p4 hj2;omega
   ·have a1:=q3 hj;have a2:=p3 hj2;omega
 ·rcases List.getElem?_set .. ▸ h1 with h2;by_cases hj:g=j
  ·subst hj;rw[List.getElem?_set_self hgl2] at h1;cases h1;exact .inl (jdr hown)
  ·rw[List.getElem?_set_ne hj] at h1;exact h.rs j z h1
theorem Hp.push'{bx:List (List A)}{rw:List Row}{w':World}(h:Hp w0 C0 β0 bx rw w E){g e k n m:Nat}{cs ds:List A}{y v':Value}{xs:List Value}(hg:rw[g]?=some (.live e k n cs))(hy:E.ρ[g]?=some y)
  (hown:w'.ownsRow 0 e k v' (n+m) xs) (hk:k≠0) (hr:A.repC (cs++ds) E.per xs) (hgrow:w.grownBy w' y.ownBlock) (hw:v'.ownBlock=y.ownBlock∨v'.ownBlock=some w.heap.size) :
  Hp w0 C0 β0 (bx.map fun c=>c.map (kill g)) (rw.set g (.live e k (n+m) (cs++ds))) w' ⟨E.C,E.β,E.ρ.set g v'⟩ :=
 h.pushG' hg hy hown hk hr hgrow hw
theorem jo8{k:Nat}(hk0:k≠0)(hp:Hp w0 C0 β0 s.bx s.rw w E){y:A}{v:Value}{K:Nat->List A->Prop}(h:jj2 s k y K)(hy:y.rep E v) :
  ∃m ds p c news,K m ds/\v=.slice p m c/\(p=none->m=0/\c=0)/\A.repC ds E.per news/\news.length=m*k/\∀a,p=some a->∀j u,news[j]?=some u->w.cell? (a.add j)=some u:=by
 have ofsl:∀{m:Nat} {ds:List A},(A.sl k m ds).rep E v->K m ds->∃m ds p c news,K m ds/\v=.slice p m c/\(p=none->m=0/\c=0)/\A.repC ds E.per news/\news.length=m*k/\∀a,p=some a->∀j u,news[j]?=some u->w.cell? (a.add j)=some u:=fun {m ds} hr hK=>by
  obtain⟨hl,hm,p,b,off,cap,hv,hc,hpn,hn,hat⟩:=yU hr;obtain⟨us,h1,h2⟩:=A.repAt_vals hat;refine⟨m,ds,p,cap,us,hK,hv,fun e=>⟨by have:=hn e;omega,hn e⟩,h1,by rw[A.repC_len h1,hl],fun a ha j u hu=>?_⟩;rcases hpn with h0|h0
  ·have h3:=(List.getElem?_eq_some_iff.1 hu).1;rw[A.repC_len h1,hl,h0] at h3;simp at h3
  ·rw[h0] at ha;cases ha;rw[vH];exact hp.sub _ _ (h2 j u hu)
 cases y with
 |sl k' m ds =>
  unfold jj2 at h
  simp only at h
  split at h
  ·rename_i hb;obtain rfl:=Nat.eq_of_beq_eq_true hb;exact ofsl hy h
  ·exact h.elim
 |own g =>
  unfold jj2 at h
  simp only at h
  have hyg:=hy;unfold A.rep at hyg;split at h
  ·rename_i e k' m ds hg;split at h
   ·rename_i hb;obtain rfl:=Nat.eq_of_beq_eq_true hb;obtain⟨xs,⟨hown,_⟩,hr⟩:=hp.rws g _ _ hg hyg;have hown:=hown.row hk0;obtain⟨h1,h2,h3⟩:=y6 hown;rcases h3 with ⟨rfl,rfl⟩|⟨b,cap,rfl,h4,h5⟩
    ·have hx:xs=[]:=List.eq_nil_of_length_eq_zero (by simpa using h1);subst hx;exact⟨0,ds,none,0,[],h,rfl,fun _=>⟨rfl,rfl⟩,hr,by simp,fun a ha=>by cases ha⟩
    ·refine⟨m,ds,_,cap,xs,h,rfl,by simp,hr,h1,fun a ha j u hu=>?_⟩;cases ha;rw[vH,Nat.zero_add];exact h5 j u hu
   ·exact h.elim
  ·rename_i k' m ds hg;split at h
   ·rename_i hb;obtain rfl:=Nat.eq_of_beq_eq_true hb;exact ofsl (hp.rws g _ _ hg hyg) h
   ·exact h.elim
  ·exact h.elim
 |v x =>
  have hv:=(A.rep_v_iff.1 hy).1
  cases x with
  |slice p n c =>
   cases p with
   |none =>
    cases n with
    |zero =>
     cases c with
     |zero=>exact⟨0,[],none,0,[],h,hv,fun _=>⟨rfl,rfl⟩,by simp[A.repC],by simp,fun a ha=>by cases ha⟩
     |succ c=>exact h.elim
    |succ n=>exact h.elim
   |some p=>exact h.elim
  |_=>exact h.elim
 |_=>exact h.elim
theorem jcA{args:Array Operand}{ts:Array TypeId}{x y:Operand}{t t':TypeId}{K:A->S->Prop}{Kc:Act->World->Prop}{Q:Exit->Act->World->Prop}(hT:Tab.ok P T)(hp:Hp w0 C0 β0 s.bx s.rw w E)(ht:A.repL s.t E a.tmps.toList)
  (ha:args.toList=[x,y]) (hts:ts.toList=[t,t']) (ho:o.op=.call ⟨.builtin .append,args,ts⟩) (h:uV T s t t' (ev s x) (ev s y) K)
  (hk:∀y w' r s' E',K r s'->A.repL s'.t E' a.tmps.toList->Hp w0 C0 β0 s'.bx s'.rw w' E'->r.rep E' y->Sub E.C E'.C->(∀(i b:Nat),E.β[i]?=some b->E'.β[i]?=some b)->(∀b∈E.β,w'.heap[b]?=w.heap[b]?)->w.heap.size<=w'.heap.size->Kc (a.put o.dst y) w'):o.wp P a w Kc Q:=by
 obtain rfl:args = #[x,y]:=by rw[<- ha]
 obtain rfl:ts = #[t,t']:=by rw[<- hts]
 unfold uV at h;split at h
 ·rename_i e z b' hbt htab;obtain rfl:=Nat.eq_of_beq_eq_true hbt;split at h
  ·rename_i d z0 zs by' hel
   obtain⟨m,ds,p,c,news,hK,hv,hp0,hr,hnl,hcell⟩:=jo8 (by simp) hp h (jM ht y);have hu:=hT.slice htab;obtain⟨i,zv,d',hi1,hi2,hi3,hi4,hi5,hi6,hi7⟩:=hT.info hel
   have hzs:zv.cells.size=(z0::zs).length:=by have:=congrArg List.length hi5;simpa using this
   have h1:=A.repC_one hr;split at hK
   ·rename_i g hev;split at hK
    ·rename_i e' k n cs hg;split at hK
     ·rename_i hb1 hb2;obtain rfl:=Nat.eq_of_beq_eq_true hb1;have hk2:=Nat.eq_of_beq_eq_true hb2;subst hk2;obtain⟨⟨q1,q2⟩,hK⟩:=hK;obtain⟨q3,hK⟩:=zQ hK;rw[dH,eU] at hK;have hx:=jM ht x;rw[hev] at hx;unfold A.rep at hx;obtain⟨xs,⟨hown,_⟩,hrx⟩:=hp.rws g _ _ hg hx;have hown:=hown.row (by simp)
      refine cP (P:=P) w x y t ho 0 e' i zv _ by' hu hi1 hi4 hi6 hi7 hzs (by simp) (a.eval x) n xs rfl hown p m c news hv hnl hp0 hcell h1 q1 q2 (Nat.zero_le _) ?_
      intro v' w' hown' hgrow hwh;have hp':=hp.push' hg hx hown' (by simp) (A.repC_append hrx hr) hgrow hwh
      have hown1:∀b,(a.eval x).ownBlock=some b->b∉E.β:=fun b hb=>(hp.rC g _ _ _ _ _ b hg hx (eG hb)).1
      refine hk v' w' _ _ _ hK (dI ht) hp' ?_ (Sub.refl _) (fun _ _ h=>h) (fun b hb=>hgrow.block b (hp.blt hb) (fun e=>hown1 b e.symm hb)) hgrow.size;unfold A.rep;have:=(List.getElem?_eq_some_iff.1 hx).1;simp[this]
     ·exact hK.elim
    ·exact hK.elim
   ·rename_i hev;obtain⟨⟨q1,q2⟩,hK⟩:=hK;rw[kK,kK,kW] at hK;obtain⟨hx,-⟩:=kM ht hev;obtain⟨hp1,le1⟩:=hp.nilRow e (z0::zs).length
    have hg:(s.rw++[Row.live e (z0::zs).length 0 []])[s.rw.length]?=some (.live e (z0::zs).length 0 []):=by simp
    have hy1:(E.ρ++[Value.slice none 0 0])[s.rw.length]?=some (.slice none 0 0):=by rw[hp.rl];simp
    refine cP (P:=P) w x y t ho 0 e i zv _ by' hu hi1 hi4 hi6 hi7 hzs (by simp) (a.eval x) 0 [] rfl (by rw[hx];exact World.ownsRow_nil _ _ _ _) p m c news hv hnl hp0 hcell h1 (by omega) (by simpa using q2) (Nat.zero_le _) ?_
    intro v' w' hown' hgrow hwh;rw[hx] at hgrow hwh;rw[List.nil_append] at hown';obtain⟨hp',le⟩:=hp1.push (ds:=ds) hg hy1 hown' (by simp) hr hgrow hwh;refine hk v' w' _ ⟨s.t,s.bx,s.rw++[.gone]++[.live e (z0::zs).length m ds]⟩ _ hK (A.repL.mono _ (le1.trans le) ht) ?_ ?_ (le1.trans le).C (le1.trans le).β (fun b hb=>hgrow.block b (hp.blt hb) (by simp[Value.ownBlock])) hgrow.size
    ·have e1:(s.rw++[Row.live e (z0::zs).length 0 []]).set s.rw.length .gone=s.rw++[.gone]:=by
      rw[List.set_append_right _ _ (Nat.le_refl _)];simp
     rw[e1] at hp';simpa using hp'
    ·unfold A.rep;have:=hp.rl;simp[this]
   ·exact hK.elim
  ·exact h.elim
 ·exact h.elim
def lC(T:List (Nat×Te)):List (Nat×TypeId)->Option (List (Nat×Nat))
 |[]=>some []
 |(o,u)::r=>match Tab.get T u with
  |some e=>match lC T r with
   |some l=>some ((o,e.z.length)::l)
   |none=>none
  |none=>none
def jae(T:List (Nat×Te))(s:S)(t:Nat)(ps:List (Nat×Operand))(K:A->Prop):Prop :=
 match Tab.get T t with
 |some ⟨.struct fs,z,_⟩=>match lC T fs with
  |some pl=>aN yR z fun cs=>jcS s (fun i=>pl[i]?) ps cs fun cs'=>K (.agg cs')
  |none=>False
 |some ⟨.arr _ e,z,_⟩=>match Tab.get T e with
  |some el=>aN yR z fun cs=>jcS s (fun i=>some (i*el.z.length,el.z.length)) ps cs fun cs'=>K (.agg cs')
  |none=>False
 |_=>False
theorem jdu(hT:Tab.ok P T):∀{f:List Field} {pl:List (Nat×Nat)},lC T (f.map fun x=>(x.offset,x.type))=some pl->f.mapM (fun f=>(P.info? f.type).map fun i=>(f.offset,i.size))=some pl
 |[],pl,h=>by simp[lC] at h;subst h;simp
 |x::f,pl,h=>by
  simp only[List.map_cons,lC] at h;split at h
  ·rename_i e he;split at h
   ·rename_i l hl;cases h;obtain⟨i,z,d,h1,h2,h3,h4,h5,h6,h7⟩:=hT.info he;have ih:=jdu hT hl;simp only[List.mapM_cons,Option.bind_eq_bind,Option.pure_def,h1,ih,Option.map_some,Option.bind_some,h6]
   ·cases h
  ·cases h
theorem jaq{t:Nat}{ps:Array (Nat×Operand)}{K:A->Prop}(hT:Tab.ok P T)(hz:pV T)(hp:Hp w0 C0 β0 s.bx s.rw w E)(ht:A.repL s.t E a.tmps.toList)(ho:o.op=.build t ps)(h:jae T s t ps.toList K):xE P a o E K:=by
 have run:∀arr',P.built t (ps.toList.map fun x=>(x.1,a.eval x.2))=some arr'->∀w',(execOp a.eval o).run P w'=.ok (.value (.agg arr')) w':=fun arr' h1 w'=>by
  have e:=run_build (P:=P) w' t (ps.map fun x=>(x.1,a.eval x.2)) arr' (by rw[Array.toList_map];exact h1);simp[execOp,ho,e,Result.andThen]
 unfold jae at h;split at h
 ·rename_i fs z b' htab;split at h
  ·rename_i pl hpl;rw[qN] at h;obtain⟨i,zv,d,h1,h2,h3,h4,h5,h6,h7⟩:=hT.info htab;obtain⟨f,hu,hf⟩:=hT.struct htab;have hr0:=fT h5 (hz t _ htab) E;obtain⟨cs',arr',k1,k2,k3,-⟩:=lZ hp ht h hr0;refine⟨_,.agg arr',k1,(by unfold A.rep;exact⟨_,rfl,k3⟩),run arr' ?_⟩;have hm:=jdu hT (f:=f.toList) (by rw[hf];exact hpl)
   have e:(fun x:Nat=>pl.toArray[x]?)=fun i=>pl[i]?:=by funext i;simp
   simp only[Program.built,h1,hu,h4,hm,e];exact k2
  ·exact h.elim
 ·rename_i n e z b' htab;split at h
  ·rename_i el hel;rw[qN] at h;obtain⟨i,zv,d,h1,h2,h3,h4,h5,h6,h7⟩:=hT.info htab;obtain⟨i2,zv2,d2,g1,g2,g3,g4,g5,g6,g7⟩:=hT.info hel;have hu:=hT.arr htab;have hr0:=fT h5 (hz t _ htab) E;obtain⟨cs',arr',k1,k2,k3,-⟩:=lZ hp ht h hr0;refine⟨_,.agg arr',k1,(by unfold A.rep;exact⟨_,rfl,k3⟩),run arr' ?_⟩;simp only[Program.built,h1,hu,h4,g1,g6];exact k2
  ·exact h.elim
 ·exact h.elim
theorem jlq{t g:Nat}{x i:Operand}{K:A->S->Prop}(hT:Tab.ok P T)(hp:Hp w0 C0 β0 s.bx s.rw w E)(ht:A.repL s.t E a.tmps.toList)(ho:o.op=.slice t x none (some i) none)(hx:ev s x=.own g)(hh:jed T s t g (ev s i) K) :
  ∃y r s' E',K r s'/\A.repL s'.t E' a.tmps.toList/\Hp w0 C0 β0 s'.bx s'.rw w E'/\r.rep E' y/\E'.C=E.C/\E'.β=E.β/\(execOp a.eval o).run P w=.ok (.value y) w:=by
 unfold jed at hh;split at hh
 rotate_left
 ·exact hh.elim
 rename_i e z b' htab;have hu:=hT.slice htab;split at hh
 rotate_left
 ·exact hh.elim
 rename_i el e' k n cs hel hg;split at hh
 rotate_left
 ·exact hh.elim
 rename_i k' hbq;have hk:=Nat.eq_of_beq_eq_true hbq;split at hh
 rotate_left
 ·exact hh.elim
 rename_i ki j hi;obtain⟨hiv,-⟩:=kM ht hi;obtain⟨m,ds,⟨rfl,hmn,rfl⟩,hK⟩:=hh;obtain⟨q3,hK⟩:=zQ hK;rw[dH,eU] at hK;obtain⟨hy,xs,⟨hown,_⟩,hrx⟩:=gT hp ht hx hg;have hown:=hown.row (by simp)
 have hs:=fun w'=>hT.size hel w'
 obtain⟨hl,hc⟩:=hown;have hgl:=(List.getElem?_eq_some_iff.1 hy).1
 have hgr:w.grownBy w (a.eval x).ownBlock:=⟨rfl,rfl,rfl,Nat.le_refl _,fun _ _ _=>rfl⟩
 have hlen:(xs.take (m*(k'+1))).length=m*(k'+1):=by
  rw[List.length_take,hl];exact Nat.min_eq_left (Nat.mul_le_mul_right (k'+1) hmn)
 have fin:∀v',w.ownsRow 0 e' (k'+1) v' m (xs.take (m*(k'+1)))->v'.ownBlock=(a.eval x).ownBlock->(execOp a.eval o).run P w=.ok (.value v') w->_:=fun v' h1 h2 h3 =>
  (⟨v',_,_,_,hK,dI ht,hp.pushG' hg hy h1 (by simp) (A.repC_take _ hrx) hgr (.inl h2),by unfold A.rep;simp[hgl],rfl,rfl,h3⟩:∃y r s' E',K r s'/\A.repL s'.t E' a.tmps.toList/\Hp w0 C0 β0 s'.bx s'.rw w E'/\r.rep E' y/\E'.C=E.C/\E'.β=E.β/\(execOp a.eval o).run P w=.ok (.value y) w)
 rcases hc with ⟨hv,rfl⟩|⟨b,cap,cur,hv,h1,h2,h3,h4,h5,h6⟩
 ·obtain rfl:m=0:=by omega
  refine fin (.slice none 0 0) ⟨by simp,.inl ⟨rfl,rfl⟩⟩ (by rw[hv]) ?_
  have e:=fun w'=>gU (P:=P) (isS:=true) (len:=0) (cap:=0) (lw:=none) (hg:=some (.int ki 0)) (kl:=.i64) (l:=0) (hl:=rfl) (hh:=rfl) ⟨by omega,by omega,by omega⟩ (Nat.le_refl _) w'
  have hs':=hs w;have e':=e w;simp only[execOp,ho,hv,hiv,Option.map_none,Option.map_some];simp at e';simp[Instr.sliceAt,Instr.slice,underlying,program,hu,e',hs',Result.andThen,Sem.run]
 ·refine fin (.slice (some ⟨b,0,none⟩) m cap) ⟨hlen,.inr ⟨b,cap,cur,rfl,h1,h2,by omega,h4,h5,?_⟩⟩ (by rw[hv];rfl) ?_
  ·rw[<- h6,List.take_take,Nat.min_eq_left (Nat.mul_le_mul_right _ hmn)]
  have e:=fun w'=>gU (P:=P) (isS:=true) (len:=n) (cap:=cap) (lw:=none) (hg:=some (.int ki m)) (kl:=.i64) (l:=0) (hl:=rfl) (hh:=rfl) ⟨by omega,by omega,by omega⟩ h3 w'
  have hs':=hs w;have e':=e w;simp only[execOp,ho,hv,hiv,Option.map_none,Option.map_some];simp at e';simp[Instr.sliceAt,Instr.slice,underlying,program,hu,e',hs',Result.andThen,Sem.run,vH]
end
end
section
def repD:List (Nat×List A)->Env->List Deferred->Prop
 |[],_,ds=>ds=[]
 |(f,as)::r,E,ds=>∃(d:Deferred) (ds':List Deferred) (cap:Array Value),ds=d::ds'/\d.target=.fn (.func f) cap/\A.repL as E (d.args++cap).toList/\repD r E ds'
theorem repD.mono{E F:Env}(le:E.le F):∀{dr:List (Nat×List A)} {ds:List Deferred},repD dr E ds->repD dr F ds
 |[],_,h=>h
 |(f,as)::r,_,⟨d,ds',cap,h1,h2,h3,h4⟩=>⟨d,ds',cap,h1,h2,A.repL.mono _ le h3,repD.mono le h4⟩
def Inv(dr:List (Nat×List A))(w0:W0)(C0:Rd)(β0:List Nat)(s:S)(a:Act)(w:World):Prop:=∃E,Hp w0 C0 β0 s.bx s.rw w E/\A.repL s.t E a.tmps.toList/\repD dr E a.defers
def LeA(a b:A):Prop:=b=.dead∨a=b
def LeL:List A->List A->Prop
 |[],[]=>True
 |a::as,b::bs=>LeA a b/\LeL as bs
 |_,_=>False
def LeB:List (List A)->List (List A)->Prop
 |_,[]=>True
 |a::as,b::bs=>LeL a b/\LeB as bs
 |[],_::_=>False
def LeR:List Row->List Row->Prop
 |_,[]=>True
 |a::as,b::bs=>(b=.gone∨a=b)/\LeR as bs
 |[],_::_=>False
mutual
def y7(nb nr:Nat):A->Bool
 |.own g=>Nat.blt g nr
 |.orow g _=>Nat.blt g nr
 |.box b _=>Nat.blt b nb
 |.clo _ l=>wL nb nr l
 |.bm _ l=>wL nb nr l
 |.agg l=>wL nb nr l
 |.tup l=>wL nb nr l
 |_=>true
def wL(nb nr:Nat):List A->Bool
 |[]=>true
 |a::r=>match y7 nb nr a with
  |true=>wL nb nr r
  |false=>false
end
def uI(nb nr:Nat):List (List A)->Bool
 |[]=>true
 |a::r=>match wL nb nr a with
  |true=>uI nb nr r
  |false=>false
def wR(np:Nat):List (Nat×List A)->Bool
 |[]=>true
 |(_,as)::r=>match wL np 0 as with
  |true=>wR np r
  |false=>false
def Le(np:Nat)(s s':S):Prop:=∀dr w0 C0 β0 a w,wR np dr=true->β0.length=np->Inv dr w0 C0 β0 s a w->Inv dr w0 C0 β0 s' a w
theorem Le.trans{np:Nat}{a b c:S}(h:Le np a b)(k:Le np b c):Le np a c:=fun dr w0 C0 β0 x w r e i=>k dr w0 C0 β0 x w r e (h dr w0 C0 β0 x w r e i)
section
variable{w0:W0}{w:World}{C0:Rd}{β0:List Nat}{E:Env}{nb nr:Nat}
mutual
theorem lH:∀(a:A) {y:Value},y7 nb nr a=true->a.rep E y->a.rep ⟨E.C,E.β.take nb,E.ρ.take nr⟩ y
 |.dead,y,_,_=>A.rep_dead _ _
 |.v x,y,_,h=>by unfold A.rep at h ⊢;exact h
 |.sl k n cs,y,_,h=>by unfold A.rep at h ⊢;exact h
 |.pp cs,y,_,h=>by unfold A.rep at h ⊢;exact h
 |.gp _ _,y,_,h=>by unfold A.rep at h ⊢;exact h
 |.adr _,y,_,h=>by unfold A.rep at h;exact h.elim
 |.err,y,_,h=>by unfold A.rep at h ⊢;exact h
 |.num,y,_,h=>by unfold A.rep at h ⊢;exact h
 |.own g,y,hn,h=>by
  unfold A.rep at h ⊢
  have:g<nr:=by simpa [y7] using hn
  simp[this,h]
 |.orow g off,y,hn,h=>by
  unfold A.rep at h ⊢;obtain⟨b,n,cap,h1,h2⟩:=h
  have:g<nr:=by simpa [y7] using hn
  exact⟨b,n,cap,by simp[this,h1],h2⟩
 |.box i off,y,hn,h=>by
  unfold A.rep at h ⊢;obtain⟨b,h1,h2⟩:=h
  have:i<nb:=by simpa [y7] using hn
  exact⟨b,by simp[this,h1],h2⟩
 |.clo f l,y,hn,h=>by
  unfold A.rep at h ⊢;obtain⟨us,h1,h2⟩:=h;exact⟨us,h1,yD l (by simpa [y7] using hn) h2⟩
 |.bm f l,y,hn,h=>by
  unfold A.rep at h ⊢;obtain⟨us,h1,h2⟩:=h;exact⟨us,h1,yD l (by simpa [y7] using hn) h2⟩
 |.mp _ _,y,_,h=>by unfold A.rep at h ⊢;exact h
 |.agg l,y,hn,h=>by
  unfold A.rep at h ⊢;obtain⟨us,h1,h2⟩:=h;exact⟨us,h1,A.repC_mk (yD l (by simpa [y7] using hn) (A.repC_L h2)) (A.repC_one h2)⟩
 |.tup l,y,hn,h=>by
  unfold A.rep at h ⊢;obtain⟨us,h1,h2⟩:=h;exact⟨us,h1,yD l (by simpa [y7] using hn) h2⟩
theorem yD:∀(l:List A) {us:List Value},wL nb nr l=true->A.repL l E us->A.repL l ⟨E.C,E.β.take nb,E.ρ.take nr⟩ us
 |[],us,_,h=>by unfold A.repL at h ⊢;exact h
 |a::r,us,hn,h=>by
  unfold A.repL at h ⊢;obtain⟨u,us',h1,h2,h3⟩:=h;unfold wL at hn;split at hn
  ·rename_i ha;exact⟨u,us',h1,lH a ha h2,yD r hn h3⟩
  ·cases hn
end
mutual
theorem jlf{nb nr nb' nr':Nat}(hb:nb<=nb')(hr:nr<=nr'):∀(a:A),y7 nb nr a=true->y7 nb' nr' a=true
 |.own g,h=>by simp[y7] at h ⊢;omega
 |.orow g o,h=>by simp[y7] at h ⊢;omega
 |.box b o,h=>by simp[y7] at h ⊢;omega
 |.clo f l,h=>by unfold y7 at h ⊢;exact gP hb hr l h
 |.bm f l,h=>by unfold y7 at h ⊢;exact gP hb hr l h
 |.agg l,h=>by unfold y7 at h ⊢;exact gP hb hr l h
 |.tup l,h=>by unfold y7 at h ⊢;exact gP hb hr l h
 |.mp _ _,_=>rfl
 |.dead,_=>rfl
 |.v _,_=>rfl
 |.sl _ _ _,_=>rfl
 |.pp _,_=>rfl
 |.gp _ _,_=>rfl
 |.adr _,_=>rfl
 |.err,_=>rfl
 |.num,_=>rfl
theorem gP{nb nr nb' nr':Nat}(hb:nb<=nb')(hr:nr<=nr'):∀(l:List A),wL nb nr l=true->wL nb' nr' l=true
 |[],_=>by unfold wL;rfl
 |a::r,h=>by
  unfold wL at h ⊢;split at h
  ·rename_i ha;rw[jlf hb hr a ha];exact gP hb hr r h
  ·cases h
end
mutual
theorem jle{E F:Env}{nb:Nat}(hC:Sub E.C F.C)(hβ:∀(i b:Nat),E.β[i]?=some b->F.β[i]?=some b):∀(a:A) {y:Value},y7 nb 0 a=true->a.rep E y->a.rep F y
 |.own g,y,k,_=>by simp[y7] at k
 |.orow g o,y,k,_=>by simp[y7] at k
 |.box i off,y,_,h=>by
  unfold A.rep at h ⊢;obtain⟨b,h1,h2⟩:=h;exact⟨b,hβ i b h1,h2⟩
 |.clo f l,y,k,h=>by
  unfold A.rep at h ⊢;unfold y7 at k;obtain⟨us,h1,h2⟩:=h;exact⟨us,h1,gO hC hβ l k h2⟩
 |.bm f l,y,k,h=>by
  unfold A.rep at h ⊢;unfold y7 at k;obtain⟨us,h1,h2⟩:=h;exact⟨us,h1,gO hC hβ l k h2⟩
 |.agg l,y,k,h=>by
  unfold A.rep at h ⊢;unfold y7 at k;obtain⟨us,h1,h2⟩:=h;exact⟨us,h1,A.repC_mk (gO hC hβ l k (A.repC_L h2)) (A.repC_one h2)⟩
 |.tup l,y,k,h=>by
  unfold A.rep at h ⊢;unfold y7 at k;obtain⟨us,h1,h2⟩:=h;exact⟨us,h1,gO hC hβ l k h2⟩
 |.mp ks vs,y,_,h=>by
  have h2:(A.mp ks vs).rep E.per y:=by unfold A.rep at h ⊢;exact h
  have h3:=A.rep.mono _ (E:=E.per) (F:=F.per) ⟨hC,fun _ _ h=>h,fun _ _ h=>h⟩ h2;unfold A.rep at h3 ⊢;exact h3
 |.dead,y,_,_=>A.rep_dead _ _
 |.v x,y,_,h=>by unfold A.rep at h ⊢;exact h
 |.sl k n cs,y,_,h=>by
  have h2:(A.sl k n cs).rep E.per y:=by unfold A.rep at h ⊢;exact h
  have h3:=A.rep.mono _ (E:=E.per) (F:=F.per) ⟨hC,fun _ _ h=>h,fun _ _ h=>h⟩ h2;unfold A.rep at h3 ⊢;exact h3
 |.pp cs,y,_,h=>by
  have h2:(A.pp cs).rep E.per y:=by unfold A.rep at h ⊢;exact h
  have h3:=A.rep.mono _ (E:=E.per) (F:=F.per) ⟨hC,fun _ _ h=>h,fun _ _ h=>h⟩ h2;unfold A.rep at h3 ⊢;exact h3
 |.gp g o,y,_,h=>by unfold A.rep at h ⊢;exact h
 |.adr _,y,_,h=>by unfold A.rep at h;exact h.elim
 |.err,y,_,h=>by unfold A.rep at h ⊢;exact h
 |.num,y,_,h=>by unfold A.rep at h ⊢;exact h
theorem gO{E F:Env}{nb:Nat}(hC:Sub E.C F.C)(hβ:∀(i b:Nat),E.β[i]?=some b->F.β[i]?=some b):∀(l:List A) {us:List Value},wL nb 0 l=true->A.repL l E us->A.repL l F us
 |[],us,_,h=>by unfold A.repL at h ⊢;exact h
 |a::r,us,k,h=>by
  unfold A.repL at h ⊢;obtain⟨u,us',h1,h2,h3⟩:=h;unfold wL at k;split at k
  ·rename_i ha;exact⟨u,us',h1,jle hC hβ a ha h2,gO hC hβ r k h3⟩
  ·cases k
end
theorem repD.keep{F:Env}{np:Nat}(hC:Sub E.C F.C)(hβ:∀(i b:Nat),E.β[i]?=some b->F.β[i]?=some b):∀{dr:List (Nat×List A)} {ds:List Deferred},wR np dr=true->repD dr E ds->repD dr F ds
 |[],_,_,h=>h
 |(f,as)::r,_,k,⟨d,ds',cap,h1,h2,h3,h4⟩=>by
  unfold wR at k;split at k
  ·rename_i ha;exact⟨d,ds',cap,h1,h2,gO hC hβ as ha h3,repD.keep hC hβ k h4⟩
  ·cases k
theorem mL{np nb nr:Nat}(hb:np<=nb):∀{dr:List (Nat×List A)} {ds:List Deferred},wR np dr=true->repD dr E ds->repD dr ⟨E.C,E.β.take nb,E.ρ.take nr⟩ ds
 |[],_,_,h=>h
 |(f,as)::r,_,k,⟨d,ds',cap,h1,h2,h3,h4⟩=>by
  unfold wR at k;split at k
  ·rename_i ha;exact⟨d,ds',cap,h1,h2,yD as (gP hb (Nat.zero_le _) as ha) h3,mL hb k h4⟩
  ·cases k
theorem jdx:∀{l:List (List A)} {i:Nat} {c:List A},uI nb nr l=true->l[i]?=some c->wL nb nr c=true
 |[],i,c,_,h=>by simp at h
 |a::r,i,c,hn,h=>by
  unfold uI at hn;split at hn
  ·rename_i ha
   cases i with
   |zero=>simp at h;subst h;exact ha
   |succ i=>exact jdx hn (by simpa using h)
  ·cases hn
theorem uU:∀{l m:List A} {us:List Value},LeL l m->A.repL l E us->A.repL m E us
 |[],[],us,_,h=>h
 |a::as,b::bs,us,hl,h=>by
  unfold A.repL at h ⊢;obtain⟨u,us',h1,h2,h3⟩:=h;refine⟨u,us',h1,?_,uU hl.2 h3⟩;rcases hl.1 with rfl|rfl
  ·exact A.rep_dead _ _
  ·exact h2
 |[],_::_,_,hl,_=>hl.elim
 |_::_,[],_,hl,_=>hl.elim
theorem jjj:∀{l m:List (List A)} {i:Nat} {c:List A},LeB l m->m[i]?=some c->∃c0,l[i]?=some c0/\LeL c0 c
 |_,[],i,c,_,h=>by simp at h
 |a::as,b::bs,i,c,hl,h=>by
  cases i with
  |zero=>simp at h;subst h;exact⟨a,rfl,hl.1⟩
  |succ i=>simpa using jjj hl.2 (by simpa using h)
 |[],_::_,_,_,hl,_=>hl.elim
theorem jlG{l:List A}{t:Nat}{r:List A}(h:LeL l (.adr t::r)):∃r',l=.adr t::r':=by
 cases l with
 |nil=>exact h.elim
 |cons a l =>
  rcases h.1 with e|rfl
  ·cases e
  ·exact⟨l,rfl⟩
theorem joU{l m:List A}(h:LeL l m):LeL (n9 l) (n9 m):=by
 match l,m,h with
 |[],[],_=>trivial
 |a::l,b::m,h =>
  rcases h.1 with rfl|rfl
  ·cases a <;> exact⟨.inl rfl,h.2⟩
  ·cases a <;> exact⟨.inr rfl,h.2⟩
theorem jnD{nb nr:Nat}{m:List A}(h:wL nb nr m=true):wL nb nr (n9 m)=true:=by
 cases m with
 |nil=>exact h
 |cons a m=>cases a <;> exact h
theorem jjk:∀{l m:List (List A)},LeB l m->m.length<=l.length
 |_,[],_=>by simp
 |a::as,b::bs,hl=>by simpa using jjk hl.2
 |[],_::_,hl=>hl.elim
theorem je4:∀{l m:List Row} {i:Nat} {c:Row},LeR l m->m[i]?=some c->∃c0,l[i]?=some c0/\(c=.gone∨c0=c)
 |_,[],i,c,_,h=>by simp at h
 |a::as,b::bs,i,c,hl,h=>by
  cases i with
  |zero=>simp at h;subst h;exact⟨a,rfl,hl.1⟩
  |succ i=>simpa using je4 hl.2 (by simpa using h)
 |[],_::_,_,_,hl,_=>hl.elim
theorem jjl:∀{l m:List Row},LeR l m->m.length<=l.length
 |_,[],_=>by simp
 |a::as,b::bs,hl=>by simpa using jjl hl.2
 |[],_::_,hl=>hl.elim
theorem Hp.weaken{bx bx':List (List A)}{rw rw':List Row}(h:Hp w0 C0 β0 bx rw w E)(hn:β0.length<=bx'.length)(hb:LeB bx bx')(hr:LeR rw rw')(hrf:uI bx'.length rw'.length bx'=true) :
  Hp w0 C0 β0 bx' rw' w ⟨E.C,E.β.take bx'.length,E.ρ.take rw'.length⟩:=by
 have hbl:=jjk hb;have hrl:=jjl hr;have b1:=h.bl;have r1:=h.rl
 have getβ:∀{i b:Nat},(E.β.take bx'.length)[i]?=some b->E.β[i]?=some b:=fun {i b} hi=>by
  rw[List.getElem?_take] at hi;split at hi
  ·exact hi
  ·cases hi
 have getρ:∀{i:Nat} {b:Value},(E.ρ.take rw'.length)[i]?=some b->E.ρ[i]?=some b:=fun {i b} hi=>by
  rw[List.getElem?_take] at hi;split at hi
  ·exact hi
  ·cases hi
 have live:∀{g e k n:Nat} {cs:List A},rw'[g]?=some (.live e k n cs)->rw[g]?=some (.live e k n cs):=fun {g e k n cs} hg=>by
  obtain⟨c0,h1,h2|h2⟩:=je4 hr hg
  ·cases h2
  ·rw[<- h2];exact h1
 refine⟨h.sub,h.base,h.fresh,?_,h.bnd.sublist (List.take_sublist _ _),fun b hb'=>h.bC b (List.mem_of_mem_take hb'),by simp;omega,fun i b cs h1 h2=>?_,by simp;omega,fun g r y h1 h2=>?_,fun g e k n cs y b h1 h2 h3=>?_,fun g e k n cs y g' e' k' n' cs' z b hne h1 h2 h3 h4 h5=>?_,fun g y h1=>h.rs g y (getρ h1),h.keep,h.gk⟩
 ·obtain⟨β',hβ,hβ'⟩:=h.bp;refine⟨β'.take (bx'.length-β0.length),?_,fun b hb'=>hβ' b (List.mem_of_mem_take hb')⟩;rw[hβ,List.take_append,List.take_of_length_le hn]
 ·obtain⟨c0,h3,h4⟩:=jjj hb h2;obtain⟨T',arr,h5,h6⟩:=h.bxs i b c0 (getβ h1) h3;exact⟨T',arr,h5,h6.rel (fun l m=>LeL l m/\wL bx'.length rw'.length m=true) ⟨h4,jdx hrf h2⟩ (fun l m us e k=>yD m e.2 (uU e.1 k)) (fun l m e=>⟨joU e.1,jnD e.2⟩) fun l t r e=>jlG e.1⟩
 ·obtain⟨c0,h3,rfl|rfl⟩:=je4 hr h1
  ·trivial
  ·have:=h.rws g c0 y h3 (getρ h2)
   cases c0 with
   |live e k n cs=>exact this
   |pub k n cs =>
    have h5:(A.sl k n cs).rep _ y:=this;show(A.sl k n cs).rep _ y;unfold A.rep at h5 ⊢;exact h5
   |gone=>trivial
 ·obtain⟨h4,h5⟩:=h.rC g e k n cs y b (live h1) (getρ h2) h3;exact⟨fun hb'=>h4 (List.mem_of_mem_take hb'),h5⟩
 ·exact h.rd g e k n cs y g' e' k' n' cs' z b hne (live h1) (getρ h2) (live h3) (getρ h4) h5
end
theorem jtM{np:Nat}{s s':S}(hn:Nat.ble np s'.bx.length=true)(hrf:uI s'.bx.length s'.rw.length s'.bx=true)(hrt:wL s'.bx.length s'.rw.length s'.t=true)(ht:LeL s.t s'.t)(hb:LeB s.bx s'.bx)(hr:LeR s.rw s'.rw):Le np s s':=by
 rintro dr w0 C0 β0 a w hdr e ⟨E,hp,hrep,hd⟩;have hn':=Nat.le_of_ble_eq_true hn;exact⟨_,hp.weaken (by omega) hb hr hrf,yD s'.t hrt (uU ht hrep),mL hn' hdr hd⟩
def juz(g:Nat)(a b:A):Prop:=a=b∨(a=.v (.slice none 0 0)/\b=.own g)
def oN(g:Nat):List A->List A->Prop
 |[],[]=>True
 |a::as,b::bs=>juz g a b/\oN g as bs
 |_,_=>False
def jhI(g:Nat):List (List A)->List (List A)->Prop
 |[],[]=>True
 |a::as,b::bs=>oN g a b/\jhI g as bs
 |_,_=>False
theorem pY{E:Env}{g:Nat}(hg:E.ρ[g]?=some (.slice none 0 0)):∀{l m:List A} {us:List Value},oN g l m->A.repL l E us->A.repL m E us
 |[],[],us,_,h=>h
 |a::as,b::bs,us,hl,h=>by
  unfold A.repL at h ⊢;obtain⟨u,us',h1,h2,h3⟩:=h;refine⟨u,us',h1,?_,pY hg hl.2 h3⟩;rcases hl.1 with rfl|⟨rfl,rfl⟩
  ·exact h2
  ·have:=(A.rep_v_iff.1 h2).1;rw[this];unfold A.rep;exact hg
 |[],_::_,_,hl,_=>hl.elim
 |_::_,[],_,hl,_=>hl.elim
theorem jct{g:Nat}{l:List A}{t:Nat}{r:List A}(h:oN g l (.adr t::r)):∃r',l=.adr t::r':=by
 cases l with
 |nil=>exact h.elim
 |cons a l =>
  rcases h.1 with rfl|⟨_,e⟩
  ·exact⟨l,rfl⟩
  ·cases e
theorem jfq{g:Nat}{l m:List A}(h:oN g l m):oN g (n9 l) (n9 m):=by
 match l,m,h with
 |[],[],_=>trivial
 |a::l,b::m,h =>
  rcases h.1 with rfl|⟨rfl,rfl⟩
  ·cases a <;> exact⟨.inl rfl,h.2⟩
  ·exact⟨.inr ⟨rfl,rfl⟩,h.2⟩
theorem jaa{g:Nat}:∀{l m:List (List A)} {i:Nat} {c:List A},jhI g l m->m[i]?=some c->∃c0,l[i]?=some c0/\oN g c0 c
 |[],[],i,c,_,h=>by simp at h
 |a::as,b::bs,i,c,hl,h=>by
  cases i with
  |zero=>simp at h;subst h;exact⟨a,rfl,hl.1⟩
  |succ i=>simpa using jaa hl.2 (by simpa using h)
 |[],_::_,_,_,hl,_=>hl.elim
 |_::_,[],_,_,hl,_=>hl.elim
theorem jab{g:Nat}:∀{l m:List (List A)},jhI g l m->m.length=l.length
 |[],[],_=>rfl
 |a::as,b::bs,hl=>by simpa using jab hl.2
 |[],_::_,hl=>hl.elim
 |_::_,[],hl=>hl.elim
theorem js7{np:Nat}{s:S}{t:List A}{bx:List (List A)}(e k:Nat)(ht:oN s.rw.length s.t t)(hb:jhI s.rw.length s.bx bx):Le np s ⟨t,bx,s.rw++[.live e k 0 []]⟩:=by
 rintro dr w0 C0 β0 a w _ _ ⟨E,hp,hrep,hd⟩;obtain⟨h1,le⟩:=hp.nilRow e k
 have hg:(E.ρ++[Value.slice none 0 0])[s.rw.length]?=some (.slice none 0 0):=by rw[hp.rl];simp
 refine⟨⟨E.C,E.β,E.ρ++[.slice none 0 0]⟩,?_,pY hg ht (A.repL.mono _ le hrep),hd.mono le⟩
 exact⟨h1.sub,h1.base,h1.fresh,h1.bp,h1.bnd,h1.bC,by rw[jab hb];exact h1.bl,fun i b cs h2 h3=>by
  obtain⟨c0,h4,h5⟩:=jaa hb h3;obtain⟨T',arr,h6,h7⟩:=h1.bxs i b c0 h2 h4
  exact⟨T',arr,h6,h7.rel (oN s.rw.length) h5 (fun l m us e k=>pY hg e k) (fun l m e=>jfq e) fun l t r e=>jct e⟩,h1.rl,h1.rws,h1.rC,h1.rd,h1.rs,h1.keep,h1.gk⟩
theorem jin{np:Nat}{s:S}(ids:List Nat):Le np s ⟨s.t,s.bx,jA s.rw ids⟩:=by
 rintro dr w0 C0 β0 a w _ _ ⟨E,hp,hrep,hd⟩;obtain⟨C',h1,le⟩:=hp.pubs ids;exact⟨_,h1,A.repL.mono _ le hrep,hd.mono le⟩
end
section
def okW(ok:Bool)(a:A):A:=match ok with
 |true=>.tup [a,.v (.bool true)]
 |false=>a
def jpz(ok:Bool)(y:Value):Value:=match ok with
 |true=>.tuple #[y,.bool true]
 |false=>y
theorem jk6{ok:Bool}{a:A}{E:Env}{y:Value}(h:a.rep E y):(okW ok a).rep E (jpz ok y):=by
 cases ok with
 |false=>exact h
 |true =>
  show(A.tup [a,.v (.bool true)]).rep E (.tuple #[y,.bool true]);unfold A.rep;refine⟨_,rfl,?_⟩;unfold A.repL;refine⟨_,_,rfl,h,?_⟩;unfold A.repL;exact⟨_,_,rfl,A.rep_v trivial,by simp[A.repL]⟩
def p6(T:List (Nat×Te))(t:Nat)(op:BinOp)(y:Operand)(b:Bool)(K:A->Prop):Prop :=
 match y with
 |.const .nilIface=>match Tab.get T t with
  |some ⟨.iface,_,_⟩=>match op with
   |.eql=>K (.v (.bool b))
   |.neq=>K (.v (.bool (!b)))
   |_=>False
  |_=>False
 |_=>False
def jjn(T:List (Nat×Te))(t:Nat)(op:BinOp)(y:Operand)(b:Bool)(K:A->Prop):Prop :=
 match y with
 |.const .nilFunc=>match Tab.get T t with
  |some ⟨.func,_,_⟩=>match op with
   |.eql=>K (.v (.bool b))
   |.neq=>K (.v (.bool (!b)))
   |_=>False
  |_=>False
 |_=>False
def jfw(T:List (Nat×Te))(t:Nat)(op:BinOp)(y:Operand)(b:Bool)(K:A->Prop):Prop :=
 match y with
 |.const (.slice none _ _)=>match Tab.get T t with
  |some ⟨.slice _,_,_⟩=>match op with
   |.eql=>K (.v (.bool b))
   |.neq=>K (.v (.bool (!b)))
   |_=>False
  |_=>False
 |_=>False
def jec(op:BinOp)(k:IntKind)(x y:Int)(K:A->Prop):Prop :=
 match op with
 |.shl=>(0<=y/\y<k.bits)/\jeF k (x*2 ^ y.toNat) K
 |.shr=>(0<=y/\y<k.bits)/\jeF k (x / 2 ^ y.toNat) K
 |_=>False
def vD:List A->Option (List Value)
 |[]=>some []
 |.v x::r=>match vD r with
  |some l=>some (x::l)
  |none=>none
 |_=>none
theorem jdY{E:Env}:∀{l:List A} {vs us:List Value},vD l=some vs->A.repL l E us->us=vs
 |[],vs,us,h,k=>by simp[vD] at h;subst h;unfold A.repL at k;exact k
 |.v x::r,vs,us,h,k=>by
  unfold vD at h;split at h
  ·rename_i l hl;cases h;unfold A.repL at k;obtain⟨u,us',rfl,h1,h2⟩:=k;rw[(A.rep_v_iff.1 h1).1,jdY hl h2]
  ·cases h
 |.dead::_,_,_,h,_=>by simp[vD] at h
 |.sl _ _ _::_,_,_,h,_=>by simp[vD] at h
 |.own _::_,_,_,h,_=>by simp[vD] at h
 |.orow _ _::_,_,_,h,_=>by simp[vD] at h
 |.box _ _::_,_,_,h,_=>by simp[vD] at h
 |.pp _::_,_,_,h,_=>by simp[vD] at h
 |.gp _ _::_,_,_,h,_=>by simp[vD] at h
 |.adr _::_,_,_,h,_=>by simp[vD] at h
 |.err::_,_,_,h,_=>by simp[vD] at h
 |.num::_,_,_,h,_=>by simp[vD] at h
 |.clo _ _::_,_,_,h,_=>by simp[vD] at h
 |.bm _ _::_,_,_,h,_=>by simp[vD] at h
 |.mp _ _::_,_,_,h,_=>by simp[vD] at h
 |.agg _::_,_,_,h,_=>by simp[vD] at h
 |.tup _::_,_,_,h,_=>by simp[vD] at h
def oQ(T:List (Nat×Te))(s:S)(o:Op)(K:A->Prop):Prop :=
 match o with
 |.indexAddr t x i=>match Tab.get T t with
  |some ⟨.arr n e,_,_⟩=>match Tab.get T e with
   |some e=>match ev s i with
    |.v (.int _ i)=>match ev s x with
     |.box b off=>(0<=i/\i<n)/\K (.box b (off+i.toNat*e.z.length))
     |.gp g off=>(0<=i/\i<n)/\K (.gp g (off+i.toNat*e.z.length))
     |.pp cs=>(0<=i/\i<n)/\K (.pp (jD e.z.length i.toNat cs))
     |_=>False
    |_=>False
   |none=>False
  |_=>wY T s (.indexAddr t x i) K
 |.makeInterface t x=>match Tab.get T t with
  |some ⟨d,_,_⟩=>match d with
   |.iface=>False
   |_=>match ev s x with
    |.v y=>K (.v (.iface t y))
    |.agg l=>match vD l with
     |some us=>K (.v (.iface t (.agg us.toArray)))
     |none=>K .err
    |_=>K .err
  |none=>False
 |.convert src dst x=>match Tab.get T src with
  |some _=>match Tab.get T dst with
   |some ⟨.int k,_,_⟩=>match ev s x with
    |.v (.int _ n)=>jeF k n K
    |_=>False
   |some ⟨.str,_,_⟩=>match ev s x with
    |.v (.int _ n)=>(0<=n/\n<128)/\K (.v (.string ⟨#[UInt8.ofNat n.toNat]⟩))
    |_=>False
   |_=>False
  |none=>False
 |.binOp op t x y u=>match ev s x with
  |.err=>p6 T t op y false K
  |.v .nilIface=>p6 T t op y true K
  |.v (.iface _ _)=>p6 T t op y false K
  |.v .nilFunc=>jjn T t op y true K
  |.clo _ _=>jjn T t op y false K
  |.v (.slice none _ _)=>jfw T t op y true K
  |.sl _ n _=>0<n/\jfw T t op y false K
  |.own g=>match s.rw[g]? with
   |some (.live _ k n _)=>jix k (0<n/\jfw T t op y false K)
   |_=>False
  |.v (.int k n)=>match op with
   |.shl=>match ev s y with
    |.v (.int _ m)=>jec .shl k n m K
    |_=>False
   |.shr=>match ev s y with
    |.v (.int _ m)=>jec .shr k n m K
    |_=>False
   |op=>wY T s (.binOp op t x y u) K
  |_=>wY T s (.binOp op t x y u) K
 |.call ⟨.builtin .min,args,ts⟩=>match args.toList with
  |[x,y]=>match ev s x with
   |.v (.int k x)=>match ev s y with
    |.v (.int k' y)=>match Nat.beq (ikN k) (ikN k') with
     |true=>K (.v (.int k (min x y)))
     |false=>False
    |_=>False
   |_=>False
  |_=>False
 |.call ⟨.builtin .max,args,ts⟩=>match args.toList with
  |[x,y]=>match ev s x with
   |.v (.int k x)=>match ev s y with
    |.v (.int k' y)=>match Nat.beq (ikN k) (ikN k') with
     |true=>K (.v (.int k (max x y)))
     |false=>False
    |_=>False
   |_=>False
  |[x,y,z]=>match ev s x with
   |.v (.int k x)=>match ev s y with
    |.v (.int k' y)=>match Nat.beq (ikN k) (ikN k') with
     |true=>match ev s z with
      |.v (.int k2 z)=>match Nat.beq (ikN k) (ikN k2) with
       |true=>K (.v (.int k (max (max x y) z)))
       |false=>False
      |_=>False
     |false=>False
    |_=>False
   |_=>False
  |_=>False
 |.typeAssert x _ t ok=>match ev s x with
   |.v (.iface t' y)=>match Nat.beq t' t with
    |true=>match Tab.get T t with
     |some ⟨d,_,_⟩=>match d with
      |.iface=>False
      |_=>match y with
       |.agg us=>(∀u∈us.toList,fD u)/\K (okW ok (.agg (us.toList.map .v)))
       |y=>fD y/\K (okW ok (.v y))
     |none=>False
    |false=>False
   |_=>False
 |op=>wY T s op K
section
variable{P:Program}{T:List (Nat×Te)}{w0:W0}{w:World}{C0:Rd}{β0:List Nat}{s:S}{a:Act}{E:Env}{o:Oper}{K:A->Prop}
theorem Tab.ok.iface(hT:Tab.ok P T){t:Nat}{z:List Value}{b:Nat}(h:Tab.get T t=some ⟨.iface,z,b⟩):∃ms,P.underlying t=some (.interface ms):=by
 obtain⟨i,z,d,h1,h2,h3,_⟩:=hT.info h
 cases d <;> simp[m7] at h3
 exact⟨_,h2⟩
theorem jfS{t:Nat}{ms:Array (String×TypeId)}(hu:P.underlying t=some (.interface ms))(d:Nat){v:Value}{b:Bool}(hv:(v=.nilIface/\b=true)∨((∃t v',v=.iface t v')/\b=false))(w':World):(Op.equalIn (d+1) t v .nilIface).run P w'=.ok b w':=by
 rcases hv with ⟨rfl,rfl⟩|⟨⟨t',v',rfl⟩,rfl⟩
 ·unfold Op.equalIn;simp[run_underlying hu]
 ·unfold Op.equalIn;simp[run_underlying hu]
theorem lF{t u:Nat}{op:BinOp}{x y:Operand}{b:Bool}{v:Value}(hT:Tab.ok P T)(ho:o.op=.binOp op t x y u)(hx:a.eval x=v)(hv:(v=.nilIface/\b=true)∨((∃t v',v=.iface t v')/\b=false))(h:p6 T t op y b K):xE P a o E K:=by
 unfold p6 at h;split at h
 ·split at h
  ·rename_i z b' htab;obtain⟨ms,hu⟩:=hT.iface htab
   have key:∀w',(Op.equal t v .nilIface).run P w'=.ok b w':=fun w'=>jfS hu 9999 hv w'
   have gd:∀(op:BinOp) w',(eqGuard op t x (.const .nilIface) v .nilIface).run P w'=.ok () w':=fun op w'=>by
    rcases hv with ⟨rfl,-⟩|⟨⟨t',v',rfl⟩,-⟩ <;> cases op <;> simp[eqGuard]
   have hb:∀(op:BinOp),binOp op t v .nilIface=(match op with
     |.eql=>do pure (.bool (<- Op.equal t v .nilIface))
     |.neq=>do pure (.bool (!(<- Op.equal t v .nilIface)))
     |op=>binOp op t v .nilIface):=fun op=>by
    rcases hv with ⟨rfl,-⟩|⟨⟨t',v',rfl⟩,-⟩ <;> cases op <;> rfl
   split at h
   ·exact⟨_,_,h,zG,fun w'=>by
     have hc:a.eval (.const .nilIface)=.nilIface:=rfl;simp only[execOp,ho,hx,hc,hb]
     simp[gd,key]⟩
   ·exact⟨_,_,h,zG,fun w'=>by
     have hc:a.eval (.const .nilIface)=.nilIface:=rfl;simp only[execOp,ho,hx,hc,hb]
     simp[gd,key]⟩
   ·exact h.elim
  ·exact h.elim
 ·exact h.elim
theorem Tab.ok.func(hT:Tab.ok P T){t:Nat}{z:List Value}{b:Nat}(h:Tab.get T t=some ⟨.func,z,b⟩):∃x y v,P.underlying t=some (.func x y v):=by
 obtain⟨i,z,d,h1,h2,h3,_⟩:=hT.info h
 cases d <;> simp[m7] at h3
 exact⟨_,_,_,h2⟩
theorem jbm{t u:Nat}{op:BinOp}{x y:Operand}{b:Bool}{v:Value}(hT:Tab.ok P T)(ho:o.op=.binOp op t x y u)(hx:a.eval x=v)(hv:(v=.nilFunc/\b=true)∨((∃f c d,v=.func f c d)/\b=false))(h:jjn T t op y b K):xE P a o E K:=by
 unfold jjn at h;split at h
 ·split at h
  ·rename_i z b' htab;obtain⟨p1,p2,p3,hu⟩:=hT.func htab
   have key:∀w',(Op.equal t v .nilFunc).run P w'=.ok b w':=fun w'=>by
    show(Op.equalIn (9999+1) t v .nilFunc).run P w'=.ok b w';rcases hv with ⟨rfl,rfl⟩|⟨⟨f,c,d,rfl⟩,rfl⟩
    ·unfold Op.equalIn;simp[run_underlying hu]
    ·unfold Op.equalIn;simp[run_underlying hu]
   have gd:∀(op:BinOp) w',(eqGuard op t x (.const .nilFunc) v .nilFunc).run P w'=.ok () w':=fun op w'=>by
    rcases hv with ⟨rfl,-⟩|⟨⟨f,c,d,rfl⟩,-⟩ <;> cases op <;> simp[eqGuard]
   have hb:∀(op:BinOp),binOp op t v .nilFunc=(match op with
     |.eql=>do pure (.bool (<- Op.equal t v .nilFunc))
     |.neq=>do pure (.bool (!(<- Op.equal t v .nilFunc)))
     |op=>binOp op t v .nilFunc):=fun op=>by
    rcases hv with ⟨rfl,-⟩|⟨⟨f,c,d,rfl⟩,-⟩ <;> cases op <;> rfl
   split at h
   ·exact⟨_,_,h,zG,fun w'=>by
     have hc:a.eval (.const .nilFunc)=.nilFunc:=rfl;simp only[execOp,ho,hx,hc,hb]
     simp[gd,key]⟩
   ·exact⟨_,_,h,zG,fun w'=>by
     have hc:a.eval (.const .nilFunc)=.nilFunc:=rfl;simp only[execOp,ho,hx,hc,hb]
     simp[gd,key]⟩
   ·exact h.elim
  ·exact h.elim
 ·exact h.elim
theorem jce{t e:Nat}(hu:P.underlying t=some (.slice e))(d:Nat){p:Option Addr}{n c n' c':Nat}(w':World):(Op.equalIn (d+1) t (.slice p n c) (.slice none n' c')).run P w'=.ok p.isNone w':=by
 unfold Op.equalIn
 cases p <;> simp[run_underlying hu]
theorem pI{t u:Nat}{op:BinOp}{x y:Operand}{b:Bool}{p:Option Addr}{n c:Nat}(hT:Tab.ok P T)(ho:o.op=.binOp op t x y u)(hx:a.eval x=.slice p n c)(hb:p.isNone=b)(h:jfw T t op y b K):xE P a o E K:=by
 unfold jfw at h;split at h
 ·rename_i n' c';split at h
  ·rename_i e z b' htab;have hu:=hT.slice htab;have hc:a.eval (.const (.slice none n' c'))=.slice none n' c':=rfl
   have key:∀w',(Op.equal t (.slice p n c) (.slice none n' c')).run P w'=.ok b w':=fun w'=>by rw[<- hb];exact jce hu 9999 w'
   split at h
   ·exact⟨_,_,h,zG,fun w'=>by
     simp only[execOp,ho,hx,hc]
     simp[eqGuard,binOp,key]⟩
   ·exact⟨_,_,h,zG,fun w'=>by
     simp only[execOp,ho,hx,hc]
     simp[eqGuard,binOp,key]⟩
   ·exact h.elim
  ·exact h.elim
 ·exact h.elim
theorem jbo{t u:Nat}{op:BinOp}{x y:Operand}{k k':IntKind}{n m:Int}(ho:o.op=.binOp op t x y u)(hx:a.eval x=.int k n)(hy:a.eval y=.int k' m)(h:jec op k n m K):xE P a o E K:=by
 unfold jec at h;split at h
 ·obtain⟨⟨h1,h2⟩,h3,h4⟩:=h
  have hm:min m.toNat k.bits=m.toNat:=by omega
  exact⟨_,_,h4,zO h3,fun w'=>by simp[execOp,ho,hx,hy,eqGuard,binOp,shift_shl_any k k' n m h1,hm,fS h3]⟩
 ·obtain⟨⟨h1,h2⟩,h3,h4⟩:=h
  have hm:min m.toNat k.bits=m.toNat:=by omega
  exact⟨_,_,h4,zO h3,fun w'=>by simp[execOp,ho,hx,hy,eqGuard,binOp,shift_shr_any k k' n m h1,hm]⟩
 ·exact h.elim
theorem cU(hT:Tab.ok P T)(hp:Hp w0 C0 β0 s.bx s.rw w E)(ht:A.repL s.t E a.tmps.toList)(h:oQ T s o.op K):xE P a o E K:=by
 unfold oQ at h;split at h
 ·rename_i t x i ho;split at h
  ·rename_i n e z b' htab;split at h
   ·rename_i el hel;split at h
    ·rename_i ki i' hi;obtain⟨hi,oki⟩:=kM ht hi;have hu:=hT.arr htab
     have key:∀b off,a.eval x=.pointer (some ⟨b,off,none⟩)->(0<=i'/\i'<n)->∀w',(execOp a.eval o).run P w'=.ok (.value (.pointer (some ⟨b,off+i'.toNat*el.z.length,none⟩))) w':=fun b off ex hin w'=>by
      have hs:=hT.size hel w';simp[execOp,ho,hi,ex,Instr.indexAt,Instr.sureAddr,asIntOf,underlying,program,hu,hin,hs,Result.andThen,Sem.run,vH]
     split at h
     ·rename_i b off hx;have hr:=jM ht x;rw[hx] at hr;unfold A.rep at hr;obtain⟨bb,h1,h2⟩:=hr;refine⟨_,_,h.2,?_,key bb off h2 h.1⟩;unfold A.rep;exact⟨bb,h1,rfl⟩
     ·rename_i g off hx;have hr:=jM ht x;rw[hx] at hr;unfold A.rep at hr;refine⟨_,_,h.2,?_,key g off hr h.1⟩;unfold A.rep;rfl
     ·rename_i cs hx;have hr:=jM ht x;rw[hx] at hr;unfold A.rep at hr;obtain⟨b,off,h1,h2⟩:=hr;refine⟨_,_,h.2,?_,key b off h1 h.1⟩;unfold A.rep;exact⟨b,_,rfl,by unfold jD;exact A.repAt_take _ (A.repAt_drop _ h2)⟩
     ·exact h.elim
    ·exact h.elim
   ·exact h.elim
  ·exact p9 hT hp ht (by rw[ho];exact h)
 ·rename_i t x ho;split at h
  ·rename_i d z b' htab;split at h
   ·exact h.elim
   ·rename_i hd;obtain⟨i,z',d',h1,h2,h3,_⟩:=hT.info htab
    have hm:∀w',(execOp a.eval o).run P w'=.ok (.value (.iface t (a.eval x))) w':=fun w'=>by
     have hm:(Instr.makeInterface t (a.eval x)).run P w'=.ok (.iface t (a.eval x)) w':=by
      unfold Instr.makeInterface
      cases d' <;> simp[run_underlying h2]
      simp[m7] at h3;exact absurd h3.symm hd
     simp[execOp,ho,hm]
    split at h
    ·rename_i y hx;obtain⟨hx,-⟩:=kM ht hx;rw[hx] at hm;exact⟨_,.iface t y,h,A.rep_v trivial,hm⟩
    ·rename_i l hx;have hr:=jM ht x;rw[hx] at hr;unfold A.rep at hr;obtain⟨us,hv,hr⟩:=hr;split at h
     ·rename_i vs hvs;have:=jdY hvs (A.repC_L hr);rw[hv] at hm
      have e:us=vs.toArray:=by rw[<- this]
      rw[e] at hm;exact⟨_,.iface t _,h,A.rep_v trivial,hm⟩
     ·exact⟨_,.iface t (a.eval x),h,by unfold A.rep;exact⟨_,_,rfl⟩,hm⟩
    ·exact⟨_,.iface t (a.eval x),h,by unfold A.rep;exact⟨_,_,rfl⟩,hm⟩
  ·exact h.elim
 ·rename_i src dst x ho;split at h
  ·rename_i e hsrc;split at h
   ·rename_i k z b' hdst;split at h
    ·rename_i k0 n hx;obtain⟨hx,okx⟩:=kM ht hx;obtain⟨i,z',d',h1,h2,h3,_⟩:=hT.info hsrc;have hu:=hT.int hdst;refine⟨_,_,h.2,zO h.1,fun w'=>?_⟩;simp[execOp,ho,hx,convert,run_underlying h2,run_underlying hu,Conv.intToInt,fS h.1]
    ·exact h.elim
   ·rename_i z b' hdst;split at h
    ·rename_i k0 n hx;obtain⟨hx,okx⟩:=kM ht hx;obtain⟨i,z',d',h1,h2,h3,_⟩:=hT.info hsrc;have hu:=hT.strs hdst;obtain⟨⟨h4,h5⟩,h6⟩:=h
     have henc:Utf8.encode n=⟨#[UInt8.ofNat n.toNat]⟩:=by
      have hv:Utf8.valid n=true:=by unfold Utf8.valid;simp;omega
      unfold Utf8.encode;simp only[hv,if_true];rw[if_pos (by omega)]
     refine⟨_,.string ⟨#[UInt8.ofNat n.toNat]⟩,h6,A.rep_v (by show(1:Nat)<=maxLen;unfold maxLen;omega),fun w'=>?_⟩;simp[execOp,ho,hx,convert,run_underlying h2,run_underlying hu,Conv.intToString,henc]
    ·exact h.elim
   ·exact h.elim
  ·exact h.elim
 ·rename_i op t x y u ho;split at h
  ·rename_i hx;have hr:=jM ht x;rw[hx] at hr;unfold A.rep at hr;exact lF hT ho rfl (.inr ⟨hr,rfl⟩) h
  ·rename_i hx;obtain⟨hx,-⟩:=kM ht hx;exact lF hT ho hx (.inl ⟨rfl,rfl⟩) h
  ·rename_i t' y' hx;obtain⟨hx,-⟩:=kM ht hx;exact lF hT ho hx (.inr ⟨⟨_,_,rfl⟩,rfl⟩) h
  ·rename_i hx;obtain⟨hx,-⟩:=kM ht hx;exact jbm hT ho hx (.inl ⟨rfl,rfl⟩) h
  ·rename_i f cs hx;have hr:=jM ht x;rw[hx] at hr;unfold A.rep at hr;obtain⟨us,h1,_⟩:=hr;exact jbm hT ho h1 (.inr ⟨⟨_,_,_,rfl⟩,rfl⟩) h
  ·rename_i n c hx;obtain⟨hx,-⟩:=kM ht hx;exact pI hT ho hx rfl h
  ·rename_i k n cs hx;have hr:=jM ht x;rw[hx] at hr;unfold A.rep at hr;obtain⟨_,_,p,b,off,cap,h1,h2,h3,_⟩:=hr
   have hp0:p.isNone=false:=by
    rcases h3 with h3|rfl
    ·have:=h.1;omega
    ·rfl
   exact pI hT ho h1 hp0 h.2
  ·rename_i g hx;split at h
   ·rename_i e k n cs hg;have hr:=jM ht x;rw[hx] at hr;unfold A.rep at hr;obtain⟨hk0,h⟩:=notZ_iff.1 h;obtain⟨xs,⟨k1,_⟩,k2⟩:=hp.rws g _ _ hg hr;have k1:=k1.row hk0;rcases k1.2 with ⟨h1,h2⟩|⟨b,cap,cur,h1,_⟩
    ·have:=h.1;omega
    ·exact pI hT ho h1 rfl h.2
   ·exact h.elim
  ·rename_i k n hx;obtain⟨hx',okx⟩:=kM ht hx;split at h
   ·split at h
    ·rename_i k' m hy;obtain⟨hy,-⟩:=kM ht hy;exact jbo ho hx' hy h
    ·exact h.elim
   ·split at h
    ·rename_i k' m hy;obtain⟨hy,-⟩:=kM ht hy;exact jbo ho hx' hy h
    ·exact h.elim
   ·exact p9 hT hp ht (by rw[ho];exact h)
  ·exact p9 hT hp ht (by rw[ho];exact h)
 ·rename_i args ts ho;split at h
  ·rename_i x y hargs;split at h
   ·rename_i k n hx;split at h
    ·rename_i k' m hy;split at h
     ·rename_i hk;obtain rfl:=aL hk;obtain⟨hx,okx⟩:=kM ht hx;obtain⟨hy,oky⟩:=kM ht hy;have okx:=okV_int.1 okx;have oky:=okV_int.1 oky
      have hargs':args = #[x,y]:=by rw[<- hargs]
      refine⟨_,_,h,zO (by omega),fun w'=>?_⟩
      have hm:(if m<n then m else n)=min n m:=by split <;> omega
      simp[execOp,ho,hargs',hx,hy,builtin,Builtin.min_,Builtin.min2,hm,resolve,invoke]
     ·exact h.elim
    ·exact h.elim
   ·exact h.elim
  ·exact h.elim
 ·rename_i args ts ho;split at h
  ·rename_i x y hargs;split at h
   ·rename_i k n hx;split at h
    ·rename_i k' m hy;split at h
     ·rename_i hk;obtain rfl:=aL hk;obtain⟨hx,okx⟩:=kM ht hx;obtain⟨hy,oky⟩:=kM ht hy;have okx:=okV_int.1 okx;have oky:=okV_int.1 oky
      have hargs':args = #[x,y]:=by rw[<- hargs]
      refine⟨_,_,h,zO (by omega),fun w'=>?_⟩
      have hm:(if n<m then m else n)=max n m:=by split <;> omega
      simp[execOp,ho,hargs',hx,hy,builtin,Builtin.max_,Builtin.max2,hm,resolve,invoke]
     ·exact h.elim
    ·exact h.elim
   ·exact h.elim
  ·rename_i x y z hargs;split at h
   ·rename_i k n hx;split at h
    ·rename_i k' m hy;split at h
     ·rename_i hk;obtain rfl:=aL hk;split at h
      ·rename_i k2 q hz;split at h
       ·rename_i hk2;obtain rfl:=aL hk2;obtain⟨hx,okx⟩:=kM ht hx;obtain⟨hy,oky⟩:=kM ht hy;obtain⟨hz,okz⟩:=kM ht hz;have okx:=okV_int.1 okx;have oky:=okV_int.1 oky;have okz:=okV_int.1 okz
        have hargs':args = #[x,y,z]:=by rw[<- hargs]
        refine⟨_,_,h,zO (by omega),fun w'=>?_⟩
        have hm:(if n<m then m else n)=max n m:=by split <;> omega
        have hm2:(if max n m<q then q else max n m)=max (max n m) q:=by split <;> omega
        simp[execOp,ho,hargs',hx,hy,hz,builtin,Builtin.max_,Builtin.max2,hm,hm2,resolve,invoke]
       ·exact h.elim
      ·exact h.elim
     ·exact h.elim
    ·exact h.elim
   ·exact h.elim
  ·exact h.elim
 ·rename_i x t0 t ok ho;split at h
  ·rename_i t' y hx;obtain⟨hx,-⟩:=kM ht hx;split at h
   ·rename_i hb;obtain rfl:=Nat.eq_of_beq_eq_true hb;split at h
    ·rename_i d z b' htab;split at h
     ·exact h.elim
     ·rename_i hd;obtain⟨i,z',d',h1,h2,h3,_⟩:=hT.info htab
      have hm:∀w',(execOp a.eval o).run P w'=.ok (.value (jpz ok y)) w':=fun w'=>by
       have hm:(Instr.typeAssert (.iface t' y) t0 t' ok).run P w'=.ok (jpz ok y) w':=by
        unfold Instr.typeAssert jpz
        cases d' <;> cases ok <;> simp[run_underlying h2]
        all_goals
         simp[m7] at h3;exact absurd h3.symm hd
       simp[execOp,ho,hx,hm]
      split at h
      ·rename_i us _;obtain⟨h4,h5⟩:=h;refine⟨_,_,h5,jk6 ?_,hm⟩;unfold A.rep;refine⟨us,rfl,?_⟩;generalize us.toList=l at h4;clear hm hx
       induction l with
       |nil=>simp[A.repC]
       |cons u l ih =>
        rw[List.map_cons];unfold A.repC;exact⟨u,l,rfl,pC (h4 u (by simp)),A.rep_v (h4 u (by simp)),ih fun v hv=>h4 v (by simp[hv])⟩
      ·exact⟨_,_,h.2,jk6 (A.rep_v h.1),hm⟩
    ·exact h.elim
   ·exact h.elim
  ·exact h.elim
 ·exact p9 hT hp ht h
end
end
section
def jm5(c:UInt8):A:=.v (.int .u8 (c.toNat:Int))
def wI(b:ByteArray):List A:=b.data.toList.map jm5
theorem jar(b:ByteArray):(wI b).length=b.size:=by simp[wI]
def jjm(T:List (Nat×Te))(s:S)(src dst:Nat)(x:Operand)(K:A->S->Prop):Prop :=
 match Tab.get T dst with
 |some ⟨.int _,_,_⟩=>oQ T s (.convert src dst x) fun r=>K r s
 |some ⟨.slice e,_,_⟩=>match Tab.get T e with
  |some ⟨.int .u8,_,_⟩=>match Tab.get T src with
   |some ⟨.str,_,_⟩=>match ev s x with
    |.v (.string b)=>K (.sl 1 b.size (wI b)) s
    |_=>False
   |_=>False
  |_=>False
 |some ⟨.str,_,_⟩=>match Tab.get T src with
  |some ⟨.slice e,_,_⟩=>match Tab.get T e with
   |some ⟨.int .u8,_,_⟩=>jj2 s 1 (ev s x) fun m ds=>∃b:ByteArray,ds=wI b/\K (.v (.string b)) s
   |_=>False
  |some ⟨.int _,_,_⟩=>oQ T s (.convert src dst x) fun r=>K r s
  |_=>False
 |_=>False
def js0(T:List (Nat×Te))(src dst:Nat):Bool:=match Tab.get T src with
 |some ⟨.slice _,_,_⟩=>match Tab.get T dst with
  |some ⟨.slice _,_,_⟩=>true
  |_=>false
 |_=>false
def jlR(T:List (Nat×Te))(s:S)(src dst:Nat)(x:Operand)(K:A->S->Prop):Prop :=
 match Nat.beq src dst with
 |true=>match Tab.get T dst with
  |some ⟨.slice e,_,_⟩=>match Tab.get T e with
   |some ⟨.int .u8,_,_⟩=>match ev s x with
    |.own g=>match s.rw[g]? with
     |some (.live _ k (n+1) cs)=>jix k (aS s.rw g (.pub k (n+1) cs) fun rw=>aH s rw (K (.sl k (n+1) cs)))
     |_=>False
    |_=>False
   |_=>False
  |_=>False
 |false=>False
section
variable{P:Program}{T:List (Nat×Te)}{w0:W0}{w:World}{C0:Rd}{β0:List Nat}{s:S}{a:Act}{E:Env}{o:Oper}
theorem jbk{C:Rd}{w w':World}{b o:Nat}(h:w.heap.size<=b):zA C w w' ⟨b,o,none⟩=w'.cell? ⟨b,o,none⟩:=by
 unfold zA;rw[if_neg (by simp only;omega)];rfl
theorem jg1(w:World)(b n:Nat)(ad:Addr):(w.freeze ⟨b,n,none⟩ 1).cell? ad=w.cell? ad:=by
 unfold World.freeze;rw[if_neg (by decide)];unfold World.cell?;simp only[Array.getElem?_modify];by_cases hb:b=ad.block
 ·subst hb;simp only[if_pos]
  cases w.heap[ad.block]? with
  |none=>rfl
  |some o=>cases o <;> rfl
 ·simp only[if_neg hb]
theorem jid(w:World)(b n:Nat)(ad:Addr):kQ (w.freeze ⟨b,n,none⟩ 1) ad=kQ w ad:=by
 have h:=jg1 w b n ad
 have k:cM (w.freeze ⟨b,n,none⟩ 1) ad.block=cM w ad.block:=by
  unfold World.freeze;rw[if_neg (by decide)];unfold cM;simp only[Array.getElem?_modify];by_cases hb:b=ad.block
  ·subst hb;simp only[if_pos]
   cases w.heap[ad.block]? with
   |none=>rfl
   |some o=>cases o <;> rfl
  ·simp only[if_neg hb]
 unfold kQ;rw[h,k]
theorem jeC(w:World)(b n:Nat)(i:Nat)(hi:i≠b):(w.freeze ⟨b,n,none⟩ 1).heap[i]?=w.heap[i]?:=by
 unfold World.freeze;rw[if_neg (by decide)];simp only[Array.getElem?_modify];rw[if_neg (fun e=>hi e.symm)]
theorem jg3(w:World)(b n:Nat):(w.freeze ⟨b,n,none⟩ 1).heap.size=w.heap.size:=by
 unfold World.freeze;rw[if_neg (by decide)];simp
theorem jg2(w:World)(b n:Nat):(w.freeze ⟨b,n,none⟩ 1).os=w.os/\(w.freeze ⟨b,n,none⟩ 1).tape=w.tape/\(w.freeze ⟨b,n,none⟩ 1).output=w.output:=by
 unfold World.freeze;rw[if_neg (by decide)];exact⟨rfl,rfl,rfl⟩
theorem Hp.mark{bx:List (List A)}{rw:List Row}(h:Hp w0 C0 β0 bx rw w E){b:Nat}(hb:w0.fr b)(hβ:b∉E.β)(hr:∀(g e k n:Nat) (cs:List A) (y:Value),rw[g]?=some (.live e k n cs)->E.ρ[g]?=some y->blk y≠some b)(n:Nat) :
  Hp w0 C0 β0 bx rw (w.freeze ⟨b,n,none⟩ 1) E:=by
 have same:∀i,i≠b->(w.freeze ⟨b,n,none⟩ 1).heap[i]?=w.heap[i]?:=fun i hi=>jeC w b n i hi
 refine⟨fun ad u hc=>by rw[jid];exact h.sub ad u hc,h.base,h.fresh,h.bp,h.bnd,h.bC,h.bl,fun i b' cs h1 h2=>(h.bxs i b' cs h1 h2).same (same b' fun e=>hβ (by rw[<- e];exact List.mem_iff_getElem?.2 ⟨i,h1⟩)),h.rl,fun g r y h1 h2=>(h.rws g r y h1 h2).mono (Env.le.refl E) fun e k n' cs hrr b' hb'=>?_,h.rC,h.rd,h.rs,?_,h.gk⟩
 ·subst hrr
  exact same b' fun e'=>hr g e k n' cs y h1 h2 (by rw[hb',e'])
 ·obtain⟨r1,r2,r3⟩:=jg2 w b n
  refine h.keep.step (Y:=[b]) ⟨r1,r2,r3,by rw[jg3];exact Nat.le_refl _,fun i hi hn=>same i (by simpa using hn)⟩ fun y hy=>?_
  obtain rfl:=List.mem_singleton.1 hy
  exact hb.elim .inr fun hx=>.inl (List.mem_append_right _ hx)
theorem jkG(c:UInt8):lo .u8<=(c.toNat:Int)/\(c.toNat:Int)<=hi .u8:=⟨by simp[lo],by have:=c.toNat_lt;show _<=(255:Int);omega⟩
theorem jkH{E:Env}{b off:Nat}{s:ByteArray}(h:∀j (hj:j<s.data.toList.length),E.C ⟨b,off+j,none⟩=some (.int .u8 (s.data.toList[j].toNat:Int))):A.repAt (wI s) E b off:=by
 have key:∀(l:List UInt8) (off:Nat),(∀j (hj:j<l.length),E.C ⟨b,off+j,none⟩=some (.int .u8 (l[j].toNat:Int)))->A.repAt (l.map jm5) E b off:=fun l=>by
  induction l with
  |nil=>intro off _;simp[A.repAt]
  |cons c l ih =>
   intro off hl;simp only[List.map_cons,A.repAt];refine⟨⟨.int .u8 (c.toNat:Int),by have:=hl 0 (by simp);rw[Nat.add_zero] at this;exact this,rfl,zO (jkG c)⟩,ih (off+1) fun j hj=>?_⟩;have:=hl (j+1) (by simpa using hj);rw[show off+1+j=off+(j+1) by omega];simpa using this
 exact key _ off h
theorem jj3{y:A}{v:Value}{K:Nat->List A->Prop}(hp:Hp w0 C0 β0 s.bx s.rw w E)(h:jj2 s 1 y K)(hy:y.rep E v) :
  ∃m ds,K m ds/\ds.length<=maxLen/\∀b:ByteArray,ds=wI b->∀(src dst e:TypeId),P.underlying src=some (.slice e)->P.underlying e=some (.int .u8)->P.underlying dst=some .string->(convert src dst v).run P w=.ok (.string b) w:=by
 have fin:∀(b off n cap:Nat) (t:ByteArray) (us:List Value),A.repC (wI t) E us->n=us.length->(∀j u,us[j]?=some u->w.cell? ⟨b,off+j,none⟩=some u)->∀(src dst e:TypeId),P.underlying src=some (.slice e)->P.underlying e=some (.int .u8)->P.underlying dst=some .string →
   (convert src dst (.slice (some ⟨b,off,none⟩) n cap)).run P w=.ok (.string t) w:=fun b off n cap t us hr hn hc src dst e h1 h2 h3=>by
  have hus:us=t.data.toList.map fun c=>Value.int .u8 c.toNat:=by
   have key:∀(l:List UInt8) (us:List Value),A.repC (l.map jm5) E us->us=l.map fun c=>Value.int .u8 c.toNat:=fun l=>by
    induction l with
    |nil=>intro us h;simpa [A.repC] using h
    |cons c l ih =>
     intro us h;simp only[List.map_cons,A.repC] at h;obtain⟨u,us',rfl,_,h3,h4⟩:=h;rw[(A.rep_v_iff.1 h3).1,ih us' h4];rfl
   exact key _ us hr
  have:=run_convert_bytes_arg (P:=P) w src e h1 h2 b off n cap (t.data.toList.map fun c=>(c.toNat:Int)) (by rw[hn,hus];simp) (fun i hi=>by
   have hil:i<t.data.toList.length:=by rw[hn,hus] at hi;simpa using hi
   have hg:us[i]?=some (.int .u8 (t.data.toList[i].toNat:Int)):=by rw[hus,List.getElem?_map,List.getElem?_eq_getElem hil];rfl
   rw[hc i _ hg]
   rw[List.getD_eq_getElem?_getD,List.getElem?_map,List.getElem?_eq_getElem hil];rfl) dst h3
  rw[this]
  congr 2
  unfold strOfNums;simp[List.map_map,Function.comp_def]
 have nilc:∀(l c:Nat),∀(src dst e:TypeId),P.underlying src=some (.slice e)->P.underlying e=some (.int .u8)->P.underlying dst=some .string->(convert src dst (.slice none l c)).run P w=.ok (.string ByteArray.empty) w:=fun l c src dst e h1 h2 h3=>run_convert_bytes_nil (P:=P) w src e h1 h2 l c dst h3
 have e0:∀b:ByteArray,wI b=[]->b=ByteArray.empty:=fun b hb=>by
  have h1:b.data.toList=[]:=by simpa [wI] using hb
  have h2:b.data = #[]:=Array.toList_eq_nil_iff.1 h1;cases b;simp at h2;subst h2;rfl
 have slc:∀(n:Nat) (cs:List A) (v:Value),(A.sl 1 n cs).rep E v->∀b:ByteArray,cs=wI b->∀(src dst e:TypeId),P.underlying src=some (.slice e)->P.underlying e=some (.int .u8)->P.underlying dst=some .string->(convert src dst v).run P w=.ok (.string b) w:=fun n cs v hr b hb src dst e h1 h2 h3=>by
  obtain⟨hl,hm,p,bb,off,cap,rfl,hc,hpn,hn,hat⟩:=yU hr;subst hb
  cases p with
  |none =>
   have hn0:n=0:=hpn.resolve_right (by simp);subst hn0;have hb0:wI b=[]:=List.eq_nil_of_length_eq_zero (by simpa using hl);rw[nilc 0 cap src dst e h1 h2 h3,e0 b hb0]
  |some ad =>
   obtain⟨us,k1,k2⟩:=A.repAt_vals hat;have hlen:=A.repC_len k1;by_cases hn0:n=0
   ·subst hn0;have hb0:wI b=[]:=List.eq_nil_of_length_eq_zero (by simpa using hl);obtain⟨b',off',sp⟩:=ad;have:=run_convert_bytes_string (P:=P) w src dst e (some ⟨b',off',sp⟩) 0 cap h1 h2 h3;rw[this,e0 b hb0];simp[Conv.bytesToString,loadCells];rfl
   ·have had:=hpn.resolve_left hn0;cases had;exact fin bb off n cap b us (A.repC.mono _ E.per_le k1) (by rw[hlen,hl,Nat.mul_one]) (fun j u hj=>hp.sub _ _ (k2 j u hj)) src dst e h1 h2 h3
 unfold jj2 at h;split at h
 ·rename_i k' m ds;split at h
  ·rename_i hk;obtain rfl:=Nat.eq_of_beq_eq_true hk;have hq:=yU hy;exact⟨m,ds,h,by rw[hq.1,Nat.mul_one];exact hq.2.1,slc m ds v hy⟩
  ·exact h.elim
 ·rename_i g;have hy2:=hy;unfold A.rep at hy2;split at h
  ·rename_i e' k' m ds hg;split at h
   ·rename_i hk;obtain rfl:=Nat.eq_of_beq_eq_true hk;obtain⟨xs,⟨hown,_⟩,hr⟩:=hp.rws g _ v hg hy2;have hown:=hown.row (by decide);obtain⟨q1,q2,q3⟩:=y6 hown;have hlen:=A.repC_len hr;refine⟨m,ds,h,by rw[<- hlen,q1,Nat.mul_one];exact q2,fun b hb src dst e h1 h2 h3=>?_⟩;subst hb;rcases q3 with ⟨rfl,rfl⟩|⟨bb,cap,rfl,hle,hcell⟩
    ·have hb0:wI b=[]:=List.eq_nil_of_length_eq_zero (by rw[<- hlen,q1]);rw[nilc 0 0 src dst e h1 h2 h3,e0 b hb0]
    ·refine fin bb 0 m cap b xs (A.repC.mono _ E.per_le hr) (by rw[q1,Nat.mul_one]) (fun j u hj=>by rw[Nat.zero_add];exact hcell j u hj) src dst e h1 h2 h3
   ·exact h.elim
  ·rename_i k' m ds hg;split at h
   ·rename_i hk;obtain rfl:=Nat.eq_of_beq_eq_true hk;have hq:=yU (hp.rws g _ v hg hy2);exact⟨m,ds,h,by rw[hq.1,Nat.mul_one];exact hq.2.1,slc m ds v (hp.rws g _ v hg hy2)⟩
   ·exact h.elim
  ·exact h.elim
 ·have hv:=(A.rep_v_iff.1 hy).1;subst hv;refine⟨0,[],h,by simp,fun b hb src dst e h1 h2 h3=>?_⟩;rw[nilc 0 0 src dst e h1 h2 h3,e0 b hb.symm]
 ·exact h.elim
theorem jp3{Xr:Nat->Bool}{K:A->S->Prop}{Kc:Act->World->Prop}{Q:Exit->Act->World->Prop}{src dst:Nat}{x:Operand}(hT:Tab.ok P T)(hp:Hp w0 C0 β0 s.bx s.rw w E)(ht:A.repL s.t E a.tmps.toList)(ho:o.op=.convert src dst x)(h:jjm T s src dst x K)
  (hk:∀y w',Left w0 C0 β0 Xr s E w K y w'->Kc (a.put o.dst y) w'):o.wp P a w Kc Q:=by
 unfold jjm at h;split at h
 ·obtain⟨r,y,h1,h2,h3⟩:=cU (o:=o) (K:=fun r=>K r s) hT hp ht (by rw[ho];exact h);unfold Oper.wp;rw[h3];exact hk y w ⟨r,s,E,h1,rfl,Env.le.refl E,hp,h2,fun _=>Same.refl _ _ _,Nat.le_refl _⟩
 ·rename_i e z b' hdst;split at h
  ·rename_i z2 b2 hel;split at h
   ·rename_i z3 b3 hsrc;split at h
    ·rename_i t hx;obtain⟨hx,okx⟩:=kM ht hx;have hu1:=hT.strs hsrc;have hu2:=hT.slice hdst;have hu3:=hT.int hel;have hrun:=run_bytes_of_string (P:=P) w src dst e t hu1 hu2 hu3
     obtain⟨cap,hcap⟩:∃cap,cap=grownCap w t.size 0 e:=⟨_,rfl⟩
     rw[<- hcap] at hrun
     obtain⟨ob,hob⟩:∃ob:Obj,ob=.cells (bytesRow t cap) e ((bytesRow t cap).size,(bytesRow t cap).size+1):=⟨_,rfl⟩
     rw[<- hob] at hrun;have kp:Keeps [] w (w.drew.alloc ob):=Keeps.of_ext (((Ext.refl w).drew).alloc ob)
     have hcall:=hp.call (Y:=[]) (by simp) kp (C':=zA E.C w (w.drew.alloc ob)) (vV hp.sub) (dR (Y:=[]) hp.sub (by simp) kp) (fun ad u hc=>by
      unfold zA at hc;split at hc
      ·exact .inl hc
      ·exact .inr (by omega)) rfl (fun i b cs _ h2=>.inr ⟨by simp,h2⟩)
     have hle:t.size<=cap:=by rw[hcap];exact grownCap_ge w t.size 0 e
     unfold Oper.wp
     have hx2:(execOp a.eval o).run P w=.ok (.value (.slice (some ⟨w.heap.size,0,none⟩) t.size cap)) (w.drew.alloc ob):=by
      simp[execOp,ho,hx,hrun]
     rw[hx2];refine hk _ _ ⟨_,s,_,h,rfl,hcall.2,hcall.1,?_,fun _ b hb _=>kp.block b hb (by simp),kp.size⟩;unfold A.rep;refine⟨by rw[jar,Nat.mul_one],okx,_,w.heap.size,0,cap,rfl,hle,.inr rfl,by simp,?_⟩
     refine jkH fun j hj=>?_
     show zA E.C w (w.drew.alloc ob) _=_;rw[Nat.zero_add,jbk (Nat.le_refl _)];have hnew:(w.drew.alloc ob).heap[w.heap.size]?=some ob:=heap_alloc_new w.drew ob
     have hjs:j<t.data.size:=by simpa using hj
     have:(bytesRow t cap)[j]?=some (Value.int .u8 (t.data.toList[j].toNat:Int)):=by
      unfold bytesRow;rw[Array.getElem?_append_left (by simpa using hjs),Array.getElem?_map,Array.getElem?_eq_getElem hjs];simp
     unfold World.cell?;show(match (w.drew.alloc ob).heap[w.heap.size]? with|some (.cells c _ _)=>if (none:Option Nat).isSome=true then none else c[j]?|_=>none)=_;rw[hnew,hob];simpa using this
    ·exact h.elim
   ·exact h.elim
  ·exact h.elim
 ·rename_i z b' hdst;split at h
  ·rename_i e z2 b2 hsrc;split at h
   ·rename_i z3 b3 hel;obtain⟨m,ds,⟨b,h1,h2⟩,hm,h3⟩:=jj3 hp h (jM ht x);have hrun:=h3 b h1 src dst e (hT.slice hsrc) (hT.int hel) (hT.strs hdst)
    have okb:fD (.string b):=by
     have hb:(wI b).length<=maxLen:=by rw[<- h1];exact hm
     rw[jar] at hb;exact hb
    unfold Oper.wp
    have hx2:(execOp a.eval o).run P w=.ok (.value (.string b)) w:=by simp[execOp,ho,hrun]
    rw[hx2];exact hk _ w ⟨_,s,E,h2,rfl,Env.le.refl E,hp,A.rep_v okb,fun _=>Same.refl _ _ _,Nat.le_refl _⟩
   ·exact h.elim
  ·obtain⟨r,y,h1,h2,h3⟩:=cU (o:=o) (K:=fun r=>K r s) hT hp ht (by rw[ho];exact h);unfold Oper.wp;rw[h3];exact hk y w ⟨r,s,E,h1,rfl,Env.le.refl E,hp,h2,fun _=>Same.refl _ _ _,Nat.le_refl _⟩
  ·exact h.elim
 ·exact h.elim
theorem jpo{K:A->S->Prop}{src dst:Nat}{x:Operand}(hT:Tab.ok P T)(hp:Hp w0 C0 β0 s.bx s.rw w E)(ht:A.repL s.t E a.tmps.toList)(ho:o.op=.convert src dst x)(h:jlR T s src dst x K) :
  ∃y w' r s' E',(execOp a.eval o).run P w=.ok (.value y) w'/\K r s'/\s'.t=s.t/\E.le E'/\Hp w0 C0 β0 s'.bx s'.rw w' E'/\r.rep E' y:=by
 unfold jlR at h;split at h
 ·rename_i hsd;obtain rfl:=Nat.eq_of_beq_eq_true hsd;split at h
  ·rename_i e z b' hdst;split at h
   ·rename_i z2 b2 hel;split at h
    ·rename_i g hx;split at h
     ·rename_i e' k n cs hg;obtain⟨hk0,h⟩:=notZ_iff.1 h;obtain⟨hgl,h⟩:=zQ h;rw[kW] at h;obtain⟨hy,xs,⟨hown,_⟩,hr⟩:=gT hp ht hx hg;have hown:=hown.row hk0;obtain⟨q1,q2,q3⟩:=y6 hown;rcases q3 with ⟨-,q3⟩|⟨b,cap,hv,hle,hcell⟩
      ·omega
      have hblk:blk (a.eval x)=some b:=by rw[hv];rfl
      obtain⟨C',hp1,le1⟩:=hp.pub hk0 hg;have hrl:=(hp.rlt hg hy hblk).1;have hbb:=hp.rC g _ _ _ _ _ b hg hy hblk
      obtain⟨ob,hob⟩:∃ob,w.heap[b]?=some ob:=⟨_,Array.getElem?_eq_getElem (hp.rlt hg hy hblk).2⟩
      have hshape:∃N,w.shape? b=some (e',N):=by
       rcases hown.2 with ⟨-,q4⟩|⟨b2,cap2,cur,q4,q5,q6,-⟩
       ·omega
       ·rw[hv] at q4;cases q4;exact⟨cur.size,by unfold World.shape?;rw[q6]⟩
      obtain⟨N,hN⟩:=hshape;refine⟨a.eval x,w.freeze ⟨b,N,none⟩ 1,_,_,⟨C',E.β,E.ρ⟩,?_,h,rfl,le1,hp1.mark hrl hbb.1 (fun g' e2 k2 n2 cs2 y2 h1 h2 h3=>?_) N,?_⟩
      ·have hu:=hT.slice hdst;have hi:=hT.int hel;simp only[execOp,ho];rw[hv];simp[convert,run_underlying hu,run_underlying hi,markStringish,hN]
      ·have hgg:g'≠g:=fun e=>by
        subst e;rw[List.getElem?_set_self hgl] at h1;cases h1
       rw[List.getElem?_set_ne (fun e=>hgg e.symm)] at h1;exact hp.rd g _ _ _ _ _ g' _ _ _ _ y2 b (fun e=>hgg e.symm) hg hy h1 h2 hblk h3
      ·exact hp1.rws g (.pub k (n+1) cs) _ (by rw[List.getElem?_set_self hgl]) hy
     ·exact h.elim
    ·exact h.elim
   ·exact h.elim
  ·exact h.elim
 ·exact h.elim
end
end
section
def jfX(g:TypeId->Option (List Nat))(P:Program):Nat->List Field->Option (List Nat)
 |_,[]=>some []
 |off,f::fs=>if f.offset=off then match g f.type with
   |some ks=>if ks.length=P.cellsOf f.type then match jfX g P (off+ks.length) fs with
    |some r=>some (ks++r)
    |none=>none
    else none
   |none=>none
  else none
def iR(P:Program):Nat->TypeId->Option (List Nat)
 |0,_=>none
 |d+1,t=>match P.underlying t with
  |some .bool=>some [1]
  |some .string=>some [0]
  |some (.int q)=>some [ikN q+2]
  |some (.array n e)=>match iR P d e with
   |some ks=>if ks.length=P.cellsOf e/\P.cellsOf t=n*P.cellsOf e then some (List.replicate n ks).flatten else none
   |none=>none
  |some (.struct fs)=>match jfX (iR P d) P 0 fs.toList with
   |some ks=>if ks.length=P.cellsOf t/\fs.all (·.name != "_")=true then some ks else none
   |none=>none
  |_=>none
def nK:Value->Lit
 |.bool b=>.bool b
 |.int k n=>.int k n
 |.string s=>.string s.data.toList
 |_=>.bool false
def tW:Value->Option Nat
 |.bool _=>some 1
 |.int k _=>some (ikN k+2)
 |.string _=>some 0
 |_=>none
def HasK:List Value->List Nat->Prop
 |[],[]=>True
 |u::us,k::ks=>fD u/\tW u=some k/\HasK us ks
 |_,_=>False
theorem HasK.len:∀{us:List Value} {ks:List Nat},HasK us ks->us.length=ks.length
 |[],[],_=>rfl
 |_::_,_::_,h=>by simp[HasK.len h.2.2]
 |[],_::_,h=>h.elim
 |_::_,[],h=>h.elim
theorem HasK.split:∀{us:List Value} {ks rs:List Nat},HasK us (ks++rs)->HasK (us.take ks.length) ks/\HasK (us.drop ks.length) rs
 |us,[],rs,h=>by simpa [HasK] using h
 |[],k::ks,rs,h=>h.elim
 |u::us,k::ks,rs,h=>by
  have:=HasK.split (us:=us) (ks:=ks) (rs:=rs) h.2.2;exact⟨⟨h.1,h.2.1,this.1⟩,this.2⟩
theorem jmX{k k':IntKind}(h:ikN k=ikN k'):k=k':=aL (by rw[h];exact Nat.beq_refl _)
theorem jur{k:IntKind}{n:Int}(h:fD (.int k n)):(Lit.int k n).wf=true:=by
 have h':k.min<=n/\n<=k.max:=h;simp[Lit.wf,h'.1,h'.2]
theorem uE{P:Program}{d:Nat}(IH:∀(t:TypeId) (ks:List Nat) (us:List Value),iR P d t=some ks->HasK us ks->P.keyLits d t us=some (us.map nK))(us:List Value):∀(fs:List Field) (off:Nat) (ks:List Nat),jfX (iR P d) P off fs=some ks->HasK (us.drop off) ks →
  ∃lss:List (List Lit),fs.mapM (fun f=>P.keyLits d f.type ((us.drop f.offset).take (P.cellsOf f.type)))=some lss/\lss.flatten=(us.drop off).map nK
 |[],off,ks,h,hk=>by
  simp[jfX] at h;subst h
  have:us.drop off=[]:=by
   cases hd:us.drop off with
   |nil=>rfl
   |cons x r=>rw[hd] at hk;exact hk.elim
  exact⟨[],by simp,by simp[this]⟩
 |f::fs,off,ks,h,hk=>by
  unfold jfX at h;split at h
  ·rename_i ho;split at h
   ·rename_i k1 h1;split at h
    ·rename_i hl;split at h
     ·rename_i r hr;cases h;obtain⟨a,b⟩:=hk.split;rw[List.drop_drop] at b;obtain⟨lss,e1,e2⟩:=uE IH us fs (off+k1.length) r hr b;have e3:=IH f.type k1 _ h1 a;refine⟨((us.drop off).take k1.length).map nK::lss,?_,?_⟩
      ·rw[List.mapM_cons,ho,<- hl,e3];simp only[Option.bind_eq_bind,Option.bind_some];rw[e1];rfl
      ·rw[List.flatten_cons,e2,<- List.map_append,<- List.drop_drop,List.take_append_drop]
     ·cases h
    ·cases h
   ·cases h
  ·cases h
theorem jb8{P:Program}{d e:Nat}{ks:List Nat}(IH:∀(us:List Value),HasK us ks->P.keyLits d e us=some (us.map nK))(hl:ks.length=P.cellsOf e)(us:List Value):∀(m j:Nat),HasK (us.drop (j*P.cellsOf e)) (List.replicate m ks).flatten →
  ∃lss:List (List Lit),(List.range' j m).mapM (fun i=>P.keyLits d e ((us.drop (i*P.cellsOf e)).take (P.cellsOf e)))=some lss/\lss.flatten=(us.drop (j*P.cellsOf e)).map nK
 |0,j,hk=>by
  have:us.drop (j*P.cellsOf e)=[]:=by
   cases hd:us.drop (j*P.cellsOf e) with
   |nil=>rfl
   |cons x r=>rw[hd] at hk;simp[HasK] at hk
  exact⟨[],by simp,by rw[this];rfl⟩
 |m+1,j,hk=>by
  rw[List.replicate_succ,List.flatten_cons] at hk;obtain⟨a,b⟩:=hk.split;rw[List.drop_drop,hl,show j*P.cellsOf e+P.cellsOf e=(j+1)*P.cellsOf e by rw[Nat.add_mul];omega] at b;obtain⟨lss,e1,e2⟩:=jb8 IH hl us m (j+1) b;have e3:=IH _ a;refine⟨((us.drop (j*P.cellsOf e)).take ks.length).map nK::lss,?_,?_⟩
  ·rw[List.range'_succ,List.mapM_cons,<- hl] at *;rw[e3];simp only[Option.bind_eq_bind,Option.bind_some];rw[e1];rfl
  ·rw[List.flatten_cons,e2,<- List.map_append,show(j+1)*P.cellsOf e=j*P.cellsOf e+ks.length by rw[hl,Nat.add_mul];omega,<- List.drop_drop,List.take_append_drop]
theorem u7{P:Program}:∀(d:Nat) (t:TypeId) (ks:List Nat) (us:List Value),iR P d t=some ks->HasK us ks->P.keyLits d t us=some (us.map nK)
 |0,t,ks,us,h,hk=>by simp[iR] at h
 |d+1,t,ks,us,h,hk=>by
  have one:∀{k:Nat},HasK us [k]->∃u,us=[u]/\fD u/\tW u=some k:=fun {k} hk=>by
   match us,hk with
   |[u],hk=>exact⟨u,rfl,hk.1,hk.2.1⟩
   |[],hk=>exact hk.elim
   |_::_::_,hk=>exact hk.2.2.elim
  unfold iR at h;split at h
  ·rename_i hu;cases h;obtain⟨u,rfl,h1,h2⟩:=one hk
   cases u <;> simp[tW] at h2
   simp[Program.keyLits,hu,nK]
  ·rename_i hu;cases h;obtain⟨u,rfl,h1,h2⟩:=one hk
   cases u <;> simp[tW] at h2
   have h1:_<=maxLen:=h1;simp[Program.keyLits,hu,nK,h1]
  ·rename_i q hu;cases h;obtain⟨u,rfl,h1,h2⟩:=one hk
   cases u <;> simp[tW] at h2
   obtain rfl:=jmX h2;simp[Program.keyLits,hu,nK,jur h1]
  ·rename_i n e hu;split at h
   ·rename_i ke he;split at h
    ·rename_i hc;cases h;obtain⟨lss,e1,e2⟩:=jb8 (fun us hk=>u7 d e ke us he hk) hc.1 us n 0 (by simpa using hk);have hlen:=hk.len
     have:us.length=P.cellsOf t:=by rw[hlen,hc.2,<- hc.1,List.length_flatten];simp
     simp only[Program.keyLits,hu,this,if_true];rw[List.range_eq_range',e1];simp only[Option.map_some,e2];simp
    ·cases h
   ·cases h
  ·rename_i fs hu;split at h
   ·rename_i kf hf;split at h
    ·rename_i hc;cases h;obtain⟨lss,e1,e2⟩:=uE (fun t ks us h hk=>u7 d t ks us h hk) us fs.toList 0 ks hf (by simpa using hk);have hlen:=hk.len
     have:us.length=P.cellsOf t:=by rw[hlen,hc.1]
     simp only[Program.keyLits,hu,this,hc.2,and_self,if_true];rw[e1];simp only[Option.map_some,e2];simp
    ·cases h
   ·cases h
  ·cases h
def eq1(x y:Value):Option Bool:=match x with
 |.int k m=>match y with
  |.int k' n=>match Nat.beq (ikN k) (ikN k') with
   |true=>some (decide (m=n))
   |false=>none
  |_=>none
 |.string a=>match y with
  |.string b=>some (decide (a=b))
  |_=>none
 |.bool a=>match y with
  |.bool b=>some (a==b)
  |_=>none
 |_=>none
def jkP:List A->List A->Option Bool
 |[],[]=>some true
 |.v x::xs,.v y::ys=>match eq1 x y with
  |some c=>match jkP xs ys with
   |some r=>some (c&&r)
   |none=>none
  |none=>none
 |_,_=>none
def gJ:List A->List Nat
 |.v x::xs=>match tW x with
  |some k=>k::gJ xs
  |none=>[]
 |_=>[]
theorem jrI{x y:Value}{c:Bool}(h:eq1 x y=some c):(∃k,tW x=some k/\tW y=some k)/\(c=true↔nK x=nK y):=by
 unfold eq1 at h;split at h
 ·split at h
  ·split at h
   ·rename_i hk;obtain rfl:=aL hk;cases h;exact⟨⟨_,rfl,rfl⟩,by simp[nK]⟩
   ·cases h
  ·cases h
 ·split at h
  ·cases h;refine⟨⟨_,rfl,rfl⟩,?_⟩;simp only[decide_eq_true_eq,nK,Lit.string.injEq];exact⟨fun h=>by rw[h],fun h=>ByteArray.ext (Array.toList_inj.1 h)⟩
  ·cases h
 ·split at h
  ·cases h;exact⟨⟨_,rfl,rfl⟩,by simp[nK]⟩
  ·cases h
 ·cases h
theorem jjF{E:Env}:∀{xs ys:List A} {b:Bool} {us vs:List Value},jkP xs ys=some b->A.repC xs E us->A.repC ys E vs->HasK us (gJ xs)/\HasK vs (gJ xs)/\(b=true↔us.map nK=vs.map nK)
 |[],[],b,us,vs,h,h1,h2=>by
  unfold A.repC at h1 h2;subst h1;subst h2;simp[jkP] at h;subst h;simp[HasK,gJ]
 |.v x::xs,.v y::ys,b,us,vs,h,h1,h2=>by
  unfold A.repC at h1 h2;obtain⟨u,us',rfl,_,h3,h4⟩:=h1;obtain⟨v,vs',rfl,_,h5,h6⟩:=h2;obtain⟨rfl,ox⟩:=A.rep_v_iff.1 h3;obtain⟨rfl,oy⟩:=A.rep_v_iff.1 h5;unfold jkP at h;split at h
  ·rename_i c hc;split at h
   ·rename_i r hr;cases h;obtain⟨⟨k,k1,k2⟩,k3⟩:=jrI hc;obtain⟨g1,g2,g3⟩:=jjF hr h4 h6
    have e:gJ (.v u::xs)=k::gJ xs:=by simp only[gJ,k1]
    rw[e];refine⟨⟨ox,k1,g1⟩,⟨oy,k2,g2⟩,?_⟩;simp only[Bool.and_eq_true,List.map_cons,List.cons.injEq,k3,g3]
   ·cases h
  ·cases h
def jpa(P:Program)(t:Nat)(ks:List Nat):Bool :=
 (match iR P 64 t with|some ls=>ls==ks|none=>false)&&P.keyTypeAt 64 t && !P.eqGuardType P.depth t&&(match P.underlying t with|some (.struct _)|some (.array _ _)=>true|_=>false)
def oR(P:Program)(T:List (Nat×Te))(s:S)(o:Op)(K:A->Prop):Prop :=
 match o with
 |.binOp op t x y u=>match ev s x with
  |.agg xs=>match ev s y with
   |.agg ys=>match jkP xs ys with
    |some b=>match op with
     |.eql=>jpa P t (gJ xs)=true/\K (.v (.bool b))
     |.neq=>jpa P t (gJ xs)=true/\K (.v (.bool (!b)))
     |_=>False
    |none=>False
   |_=>False
  |_=>oQ T s (.binOp op t x y u) K
 |.index t x i=>match Tab.get T t with
  |some ⟨.arr n e,_,_⟩=>match Tab.get T e with
   |some el=>match el.d.agg with
    |true=>False
    |false=>match ev s i with
     |.v (.int _ i)=>match ev s x with
      |.agg l=>(0<=i/\i<n)/\∃a,l[i.toNat*el.z.length]?=some a/\K a
      |_=>False
     |_=>False
   |none=>False
  |_=>oQ T s (.index t x i) K
 |o=>oQ T s o K
section
variable{P:Program}{T:List (Nat×Te)}{w0:W0}{w:World}{C0:Rd}{β0:List Nat}{s:S}{a:Act}{E:Env}{o:Oper}{K:A->Prop}
theorem jaF{t:Nat}{xs ys:List A}{b:Bool}{us vs:Array Value}(h:jkP xs ys=some b)(ht:jpa P t (gJ xs)=true)(h1:A.repC xs E us.toList)(h2:A.repC ys E vs.toList) :
  (∀(op:BinOp) (x y:Operand) (w:World),(eqGuard op t x y (.agg us) (.agg vs)).run P w=.ok () w)/\∀w:World,(Op.equalIn 10000 t (.agg us) (.agg vs)).run P w=.ok b w:=by
 unfold jpa at ht;simp only[Bool.and_eq_true,Bool.not_eq_true'] at ht;obtain⟨⟨⟨t1,t2⟩,t3⟩,t4⟩:=ht;obtain⟨k1,k2,k3⟩:=jjF h h1 h2
 have hf:iR P 64 t=some (gJ xs):=by
  cases hx:iR P 64 t with
  |none=>rw[hx] at t1;cases t1
  |some ls=>rw[hx] at t1;rw[eq_of_beq t1]
 have l1:=u7 64 t _ us.toList hf k1;have l2:=u7 64 t _ vs.toList hf k2
 have hc:(gJ xs).length=P.cellsOf t:=by
  have hf':=hf;unfold iR at hf'
  split at hf' <;> simp_all
  ·split at hf'
   ·rename_i hc;rw[Option.ite_none_right_eq_some] at hf';obtain⟨q1,q2⟩:=hf';simp only[Option.some.injEq] at q2;rw[<- q2,List.length_flatten,q1.2];simp[q1.1]
   ·cases hf'
  ·split at hf'
   ·rw[Option.ite_none_right_eq_some] at hf';obtain⟨q1,q2⟩:=hf';simp only[Option.some.injEq] at q2;rw[<- q2];exact q1.1
   ·cases hf'
 have fm:∀us:Array Value,us.toList.length=(gJ xs).length->(Value.agg us).formed P t=true:=fun us hl=>by
  unfold Value.formed;rw[hc] at hl;split at t4
  ·rename_i hu;simp only[hu];simpa using hl
  ·rename_i hu;simp only[hu];simpa using hl
  ·cases t4
 refine⟨fun op x y w=>run_eqGuard_agg w op t x y us vs t3,fun w=>?_⟩;obtain⟨r,hr,hiff⟩:=run_equalIn_deep (P:=P) 9936 64 t t2 w 64 64 (.agg us) (.agg vs) _ _ (fm us k1.len) (fm vs k2.len) l1 l2
 have:r=b:=by
  cases r <;> cases b <;> simp_all
 rw[<- this];exact hr
theorem cV(hT:Tab.ok P T)(hp:Hp w0 C0 β0 s.bx s.rw w E)(ht:A.repL s.t E a.tmps.toList)(h:oR P T s o.op K):xE P a o E K:=by
 unfold oR at h;split at h
 ·rename_i op t x y u ho;split at h
  ·rename_i xs hx;split at h
   ·rename_i ys hy;split at h
    ·rename_i b hb;have rx:=jM ht x;have ry:=jM ht y;rw[hx] at rx;rw[hy] at ry;unfold A.rep at rx ry;obtain⟨us,ex,rx⟩:=rx;obtain⟨vs,ey,ry⟩:=ry;split at h
     ·obtain⟨g,e⟩:=jaF (P:=P) hb h.1 rx ry;exact⟨_,_,h.2,zG,fun w'=>by simp only[execOp,ho,ex,ey];simp[g,run_eql_struct,e,Result.andThen]⟩
     ·obtain⟨g,e⟩:=jaF (P:=P) hb h.1 rx ry;exact⟨_,_,h.2,zG,fun w'=>by simp only[execOp,ho,ex,ey];simp[g,run_neq_struct,e,Result.andThen]⟩
     ·exact h.elim
    ·exact h.elim
   ·exact h.elim
  ·exact cU hT hp ht (by rw[ho];exact h)
 ·rename_i t x i ho;split at h
  ·rename_i n e z b' htab;split at h
   ·rename_i el hel;split at h
    ·exact h.elim
    ·rename_i hag;split at h
     ·rename_i ki i' hi;obtain⟨hi,oki⟩:=kM ht hi;have hu:=hT.arr htab;split at h
      ·rename_i l hev;obtain⟨⟨h1,h2⟩,r,hr2,h⟩:=h;have hx:=jM ht x;rw[hev] at hx;unfold A.rep at hx;obtain⟨us,hv,hr⟩:=hx;obtain⟨u,hu2,ha⟩:=A.repL_get (A.repC_L hr) hr2;refine⟨_,u,h,ha,fun w'=>?_⟩;have e5:=hT.agg hel w';have e4:=hT.size hel w';rw[hag] at e5
       have hu':us[i'.toNat*el.z.length]?=some u:=by simpa using hu2
       simp[execOp,ho,hi,hv,Instr.index,part,asIntOf,underlying,program,hu,h1,h2,e5,e4,hu',Result.andThen,Sem.run]
      ·exact h.elim
     ·exact h.elim
   ·exact h.elim
  ·exact cU hT hp ht (by rw[ho];exact h)
 ·exact cU hT hp ht h
end
end
section
def jeb(T:List (Nat×Te))(s:S)(t:Nat)(g off:Nat)(y:Operand)(K:A->S->Prop):Prop :=
 match Tab.get T t with
 |some e=>match s.rw[g]? with
  |some (.live e' k n cs)=>jix k<|jax (ev s y) fun ds=>match Nat.beq ds.length e.z.length with
   |true=>match wL 0 0 ds with
    |true=>yK cs off ds fun cs'=>aS s.rw g (.live e' k n cs') fun rw'=>aH s rw' (K .dead)
    |false=>False
   |false=>False
  |_=>False
 |none=>False
def jjt(T:List (Nat×Te))(s:S)(t:Nat)(x y:Operand)(K:A->S->Prop):Prop :=
 match ev s x with
 |.orow g off=>jeb T s t g off y K
 |_=>jef T s t x y K
section
variable{P:Program}{T:List (Nat×Te)}{w0:W0}{w:World}{C0:Rd}{β0:List Nat}{s:S}{a:Act}{E:Env}{o:Oper}
theorem jnt{base e k n b off cap:Nat}{xs:List Value}{u:Value}(h:w.ownsRow base e k (.slice (some ⟨b,0,none⟩) n cap) n xs)(hoff:off<xs.length):(w.setCell ⟨b,off,none⟩ u).ownsRow base e k (.slice (some ⟨b,0,none⟩) n cap) n (xs.set off u):=by
 obtain⟨h1,h2⟩:=h;refine⟨by simpa using h1,.inr ?_⟩;rcases h2 with ⟨h2,_⟩|⟨g,cap',cur,h2,h3,h4,h5,h6,h7,h8⟩
 ·cases h2
 ·cases h2;refine⟨b,cap,cur.setIfInBounds off u,rfl,h3,mS h4 off u,h5,h6,by simpa using h7,?_⟩;rw[Array.toList_setIfInBounds,List.take_set,h8]
theorem Hp.storeRow{bx:List (List A)}{rw:List Row}(h:Hp w0 C0 β0 bx rw w E){g e k n b cap off:Nat}{cs:List A}(hg:rw[g]?=some (.live e k n cs))(hy:E.ρ[g]?=some (.slice (some ⟨b,0,none⟩) n cap))(hk0:k≠0)(hoff:off<cs.length){a:A}{u:Value}(ha:a.rep E.per u)(h1:u.oneCell'=true) :
  Hp w0 C0 β0 bx (rw.set g (.live e k n (cs.set off a))) (w.setCell ⟨b,off,none⟩ u) E:=by
 have hgl:=(List.getElem?_eq_some_iff.1 hg).1;obtain⟨hbn,hbC⟩:=h.rC g e k n cs _ b hg hy rfl;have kp:=Keeps.set w b off u
 have part:∀(j e1 k1 n1:Nat) (cs1:List A),(rw.set g (.live e k n (cs.set off a)))[j]?=some (.live e1 k1 n1 cs1)->∃cs2,rw[j]?=some (.live e1 k1 n1 cs2):=fun j e1 k1 n1 cs1 h2=>by
  by_cases hj:g=j
  ·subst hj;rw[List.getElem?_set_self hgl] at h2;cases h2;exact⟨cs,hg⟩
  ·rw[List.getElem?_set_ne hj] at h2;exact⟨cs1,h2⟩
 refine⟨fun ad v hc=>kp.cell (h.sub ad v hc) (fun hm=>?_),h.base,h.fresh,h.bp,h.bnd,h.bC,h.bl,fun i b' cs' h2 h3=>?_,by simpa using h.rl,fun j r y h2 h3=>?_,fun j e1 k1 n1 cs1 y b' h2 h3 h4=>?_,fun j e1 k1 n1 cs1 y j' e2 k2 n2 cs2 z b' hne h2 h3 h4 h5 h6=>?_,h.rs,?_,h.gk⟩
 ·simp at hm;have hn:=hbC ad.off ad.spot;rw[<- hm] at hn;have:E.C ad=none:=hn;rw[this] at hc;cases hc
 ·refine(h.bxs i b' cs' h2 h3).same (kp.block b' (h.blt (List.mem_iff_getElem?.2 ⟨i,h2⟩)) (fun hm=>?_));simp at hm;subst hm;exact hbn (List.mem_iff_getElem?.2 ⟨i,h2⟩)
 ·by_cases hj:g=j
  ·subst hj;rw[List.getElem?_set_self hgl] at h2;cases h2;obtain rfl:y=_:=Option.some.inj (h3.symm.trans hy);obtain⟨xs,k1,k2⟩:=h.rws g _ _ hg hy;refine⟨xs.set off u,⟨.inl ⟨hk0,jnt (k1.1.row hk0) (by rw[A.repC_len k2];exact hoff)⟩,k1.2⟩,A.repC_set k2 off ha h1⟩
  ·rw[List.getElem?_set_ne hj] at h2;refine(h.rws j r y h2 h3).mono (Env.le.refl E) (fun e1 k1 n1 cs1 hr b' hb'=>?_);subst hr;refine kp.block b' (h.rlt h2 h3 hb').2 (fun hm=>?_);simp at hm;subst hm;exact h.rd g e k n cs _ j e1 k1 n1 cs1 y b' hj hg hy h2 h3 rfl hb'
 ·obtain⟨cs2,h5⟩:=part j e1 k1 n1 cs1 h2;exact h.rC j e1 k1 n1 cs2 y b' h5 h3 h4
 ·obtain⟨cs3,h7⟩:=part j e1 k1 n1 cs1 h2;obtain⟨cs4,h8⟩:=part j' e2 k2 n2 cs2 h4;exact h.rd j e1 k1 n1 cs3 y j' e2 k2 n2 cs4 z b' hne h7 h3 h8 h5 h6
 ·refine h.keep.step kp (fun b' hb'=>?_);simp at hb';subst hb'
  exact(h.rlt hg hy rfl).1.elim .inr fun hx=>.inl (List.mem_append_right _ hx)
theorem jby{g e k n b cap:Nat}(hk0:k≠0):∀{ds:List A} {vs:List Value} {bx:List (List A)} {rw:List Row} {w:World} {cs:List A} {off:Nat} {K:List A->Prop},Hp w0 C0 β0 bx rw w E->rw[g]?=some (.live e k n cs)->E.ρ[g]?=some (.slice (some ⟨b,0,none⟩) n cap)->yK cs off ds K->A.repC ds E.per vs →
  ∃cs',K cs'/\Hp w0 C0 β0 bx (rw.set g (.live e k n cs')) (w.setCells b off vs) E
 |[],vs,bx,rw,w,cs,off,K,hp,h1,h2,h,hd=>by
  unfold A.repC at hd;subst hd;refine⟨cs,h,?_⟩
  have e:rw.set g (.live e k n cs)=rw:=by
   apply List.ext_getElem?;intro j;rw[List.getElem?_set];by_cases hj:g=j
   ·subst hj;have e2:=List.getElem?_eq_some_iff.1 h1;simp[e2.1,e2.2]
   ·simp[hj]
  rw[e];exact hp
 |d::ds,vs,bx,rw,w,cs,off,K,hp,h1,h2,h,hd=>by
  unfold A.repC at hd;obtain⟨v,vs',rfl,k1,k2,k3⟩:=hd;unfold yK at h;obtain⟨h4,h5⟩:=zQ h;have hp1:=hp.storeRow (off:=off) h1 h2 hk0 h4 k2 k1;have hi:=(List.getElem?_eq_some_iff.1 h1).1;obtain⟨cs',h6,h7⟩:=jby hk0 (rw:=rw.set g (.live e k n (cs.set off d))) hp1 (List.getElem?_set_self hi) h2 h5 k3;refine⟨cs',h6,?_⟩;rw[List.set_set] at h7;exact h7
theorem jlk{t g off:Nat}{x y:Operand}{K:A->S->Prop}(hT:Tab.ok P T)(hp:Hp w0 C0 β0 s.bx s.rw w E)(ht:A.repL s.t E a.tmps.toList)(ho:o.op=.store t x y)(hev:ev s x=.orow g off)(h:jeb T s t g off y K) :
  ∃w' rw',(execOp a.eval o).run P w=.ok .skip w'/\K .dead ⟨s.t,s.bx,rw'⟩/\Hp w0 C0 β0 s.bx rw' w' E:=by
 unfold jeb at h;split at h
 ·rename_i e htab;have hx:=jM ht x;rw[hev] at hx;unfold A.rep at hx;obtain⟨b,n',cap,hb,hv⟩:=hx;split at h
  ·rename_i e' k n cs hg;obtain⟨hk0,h⟩:=notZ_iff.1 h;obtain⟨ds,h1,h2⟩:=eK hp h (jM ht y);split at h1
   ·rename_i hbeq;split at h1
    ·rename_i hrefs;have hlen:ds.length=e.z.length:=Nat.eq_of_beq_eq_true hbeq;obtain⟨xs,⟨k1,_⟩,k2⟩:=hp.rws g _ _ hg hb;have k1:=k1.row hk0
     have hper:A.repC ds E.per (a.eval y).cells.toList:=by
      have:=yD (nb:=0) (nr:=0) ds hrefs (A.repC_L h2);exact A.repC_mk (by simpa [Env.per] using this) (A.repC_one h2)
     have hn:n'=n:=by
      rcases k1.2 with ⟨h',_⟩|⟨g',cap',cur,h',_⟩
      ·cases h'
      ·cases h';rfl
     subst hn;obtain⟨k3,-⟩:=pU h1 k2 hper;obtain⟨cs',k4,k5⟩:=jby hk0 hp hg hb h1 hper;obtain⟨k6,k7⟩:=zQ k4;rw[kW] at k7;have hdl:=A.repC_len h2;have hxl:=A.repC_len k2
     obtain⟨cur,hcur,hsz',htake⟩:∃cur,w.heap[b]?=some (.cells cur e' (0,0))/\n'*k<=cur.size/\cur.toList.take (n'*k)=xs:=by
      rcases k1.2 with ⟨h',_⟩|⟨g',cap',cur,h',_,q1,q2,q3,q4,q5⟩
      ·cases h'
      ·cases h';exact⟨cur,q1,by rw[q4];exact Nat.mul_le_mul_right k q2,q5⟩
     refine⟨_,_,?_,k7,k5⟩
     have hst:=run_storeCells_cells (P:=P) b off (a.eval y).cells.toList 0 w (fun j hj=>by
       have h9:=k3 j (by omega);have h10:=k1.1;simp only[kQ,World.cell?,hcur,Nat.add_zero];simp at hxl ⊢
       omega) (fun j hj=>by simp[World.frozen?,hcur]) (A.repC_one h2)
     have hsz:=hT.size htab w
     have hss:(a.eval y).cells.size=e.z.length:=by rw[<- hlen,<- hdl];simp
     simp only[Nat.add_zero] at hst;simp[execOp,ho,hv,Instr.storeAt,Instr.sureAddr,storeVar,hsz,hss,hst,Result.andThen]
    ·exact h1.elim
   ·exact h1.elim
  ·exact h.elim
 ·exact h.elim
end
end
end Go.Proofs.YtdnnmiemgmgffaaGreatDoor.Vm
