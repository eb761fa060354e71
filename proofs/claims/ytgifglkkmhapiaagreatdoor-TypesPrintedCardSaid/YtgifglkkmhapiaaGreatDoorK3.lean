/- Part 3 of the proof. -/
import Derived.Test.YtgifglkkmhapiaaGreatDoorK2
import Derived.Test.YtgifglkkmhapiaaGreatDoorRows
import Derived.LaidLaws
import Derived.LaidMore
import Derived.LaidHandle
import Derived.MakeChecks
import Derived.FnData
import Derived.Lib.LaidTab
import Derived.WideShapes
import Derived.OpenShut
import Derived.Handed
import Derived.Shelf.Vars
import Derived.Shelf.Strings.BuilderF
import Derived.Shelf.Pu.ToErrorRange
import Derived.Shelf.Lay
import Derived.Ground.MpProg
import Derived.Shelf.Pu.ToError
import Derived.Shelf.Pu.Lower
import Derived.RangeFuncFrom
import Derived.RangeFuncBound
import Derived.RangeFuncLeaves
import Derived.TacticsIn
import Derived.RangeFuncNested
import Derived.RangeFuncBox
import Derived.WalkKit
import Derived.OwnWalkIn
import Derived.TacticsInMore
import Derived.LoopNIn
import Derived.LoopIn
import Derived.Maps.AppendAt
import Derived.Lib.IndexMore
import Derived.Shelf.Strings.Search3
import Derived.Ground.NamesProg
set_option maxRecDepth 100000
set_option linter.unusedSimpArgs false
set_option linter.unusedVariables false
set_option maxHeartbeats 4000000
namespace Go.Proofs.YtgifglkkmhapiaaGreatDoor.Vm
abbrev zI:Value := .int .i64 0
abbrev zL:Value := .slice none 0 0
abbrev zS:Value := .string ⟨#[]⟩
abbrev zB:Value := .bool false
abbrev zU:Value := .int .u8 0
abbrev zP:Value := .pointer none
abbrev eI:Te:=⟨.int .i64,[zI],8⟩
abbrev eS:Te:=⟨.str,[zS],16⟩
abbrev eY:Te:=⟨.iface,[.nilIface],16⟩
abbrev eL (k:Nat):Te:=⟨.slice k,[zL],24⟩
abbrev eP (k:Nat):Te:=⟨.ptr k,[zP],8⟩
def rZ (x:Value):Nat->List Value
 | 0=>[]
 | n+1=>x :: rZ x n
def fnT:List Nat->List (Nat × Te)
 | []=>[]
 | i :: l=>(i,⟨.func,[.nilFunc],8⟩) :: fnT l
set_option maxRecDepth 20000 in
def tab:List (Nat × Te):=(2,eI)::(3,eI)::(4,⟨.bool,[zB],1⟩)::(5,⟨.int .u8,[zU],1⟩)::(6,⟨.int .u8,[zU],1⟩)::(7,⟨.struct [(0,2),(1,3),(2,4),(3,6)],[zI,zI,zB,zU],24⟩)::(8,⟨.struct [(0,2),(1,3),(2,4),(3,6)],[zI,zI,zB,zU],24⟩)::(9,eS)::(10,eS)::(11,eS)::(12,⟨.int .u64,[.int .u64 0],8⟩)::(13,⟨.struct [(0,9),(1,12)],[zS,.int .u64 0],24⟩)::(14,⟨.struct [(0,9),(1,12)],[zS,.int .u64 0],24⟩)::(15,eP 196)::(16,eP 199)::(17,eP 206)::(18,⟨.struct [(0,17)],[zP],8⟩)::(19,⟨.struct [(0,17)],[zP],8⟩)::(20,eY)::(21,⟨.int .i32,[.int .i32 0],4⟩)::(22,eL 3)::(23,eL 9)::(24,eL 46)::(25,⟨.struct [(0,23),(1,23),(2,24)],[zL,zL,zL],72⟩)::(26,⟨.struct [(0,23),(1,23),(2,24)],[zL,zL,zL],72⟩)::(30,eI)::(35,eP 38)::(37,⟨.struct [(0,22),(1,3)],[zL,zI],32⟩)::(38,⟨.struct [(0,22),(1,3)],[zL,zI],32⟩)::(41,eL 43)::(42,⟨.struct [(0,3),(1,3),(2,9),(3,41)],[zI,zI,zS,zL],56⟩)::(43,⟨.struct [(0,3),(1,3),(2,9),(3,41)],[zI,zI,zS,zL],56⟩)::(45,⟨.struct [(0,3),(1,43)],[zI,zI,zI,zS,zL],64⟩)::(46,⟨.struct [(0,3),(1,43)],[zI,zI,zI,zS,zL],64⟩)::(47,eP 50)::(48,eL 5)::(49,⟨.struct [(0,47),(1,48)],[zP,zL],32⟩)::(50,⟨.struct [(0,47),(1,48)],[zP,zL],32⟩)::(51,⟨.struct [(0,50)],[zP,zL],32⟩)::(52,⟨.struct [(0,50)],[zP,zL],32⟩)::(53,eL 23)::(58,eI)::(62,eL 94)::(65,⟨.struct [(0,3),(1,30)],[zI,zI],16⟩)::(66,⟨.struct [(0,3),(1,30)],[zI,zI],16⟩)::(67,eP 69)::(68,⟨.struct [(0,62),(1,23)],[zL,zL],48⟩)::(69,⟨.struct [(0,62),(1,23)],[zL,zL],48⟩)::(74,eP 52)::(77,eY)::(78,eY)::(83,eP 5)::(84,⟨.struct [(0,58),(1,58)],[zI,zI],16⟩)::(85,⟨.struct [(0,58),(1,58)],[zI,zI],16⟩)::(86,⟨.map 9 85,[.map none],8⟩)::(93,⟨.struct [(0,3),(1,3),(2,9),(3,3)],[zI,zI,zS,zI],40⟩)::(94,⟨.struct [(0,3),(1,3),(2,9),(3,3)],[zI,zI,zS,zI],40⟩)::(95,⟨.struct [(0,3),(1,30)],[zI,zI],16⟩)::(96,⟨.struct [(0,3),(1,30)],[zI,zI],16⟩)::(99,⟨.map 3 46,[.map none],8⟩)::(111,⟨.int .u8,[zU],1⟩)::(112,⟨.arr 256 111,rZ zU 256,256⟩)::(119,⟨.int .u64,[.int .u64 0],8⟩)::(130,⟨.other,[zP],8⟩)::(133,⟨.arr 24 5,rZ zU 24,24⟩)::(143,⟨.map 9 142,[.map none],8⟩)::(148,⟨.int .u64,[.int .u64 0],8⟩)::(150,⟨.arr 20 119,[.int .u64 0,.int .u64 0,.int .u64 0,.int .u64 0,.int .u64 0,.int .u64 0,.int .u64 0,.int .u64 0,.int .u64 0,.int .u64 0,.int .u64 0,.int .u64 0,.int .u64 0,.int .u64 0,.int .u64 0,.int .u64 0,.int .u64 0,.int .u64 0,.int .u64 0,.int .u64 0],160⟩)::(151,⟨.int .u32,[.int .u32 0],4⟩)::(152,⟨.arr 65 5,rZ zU 65,65⟩)::(153,eI)::(155,eP 173)::(162,eI)::(172,⟨.struct [(0,9),(1,9),(2,78)],[zS,zS,.nilIface],48⟩)::(173,⟨.struct [(0,9),(1,9),(2,78)],[zS,zS,.nilIface],48⟩)::(176,⟨.int .u64,[.int .u64 0],8⟩)::(180,eP 3)::(182,⟨.arr 32 5,rZ zU 32,32⟩)::(183,⟨.arr 64 5,rZ zU 64,64⟩)::(184,eP 186)::(185,⟨.struct [(0,9)],[zS],16⟩)::(186,⟨.struct [(0,9)],[zS],16⟩)::(190,eP 176)::(195,⟨.struct [(0,17),(1,17),(2,17),(3,9)],[zP,zP,zP,zS],40⟩)::(196,⟨.struct [(0,17),(1,17),(2,17),(3,9)],[zP,zP,zP,zS],40⟩)::(197,⟨.arr 0 16,[],0⟩)::(198,⟨.struct [(0,197)],[],0⟩)::(199,⟨.struct [(0,197)],[],0⟩)::(200,⟨.int .u8,[zU],1⟩)::(201,⟨.int .u8,[zU],1⟩)::(203,⟨.int .i32,[.int .i32 0],4⟩)::(204,⟨.int .i32,[.int .i32 0],4⟩)::(205,⟨.struct [(0,12),(1,12),(2,151),(3,200),(4,5),(5,5),(6,201),(7,202),(8,83),(9,203),(10,204)],[.int .u64 0,.int .u64 0,.int .u32 0,zU,zU,zU,zU,.nilFunc,zP,.int .i32 0,.int .i32 0],48⟩)::(206,⟨.struct [(0,12),(1,12),(2,151),(3,200),(4,5),(5,5),(6,201),(7,202),(8,83),(9,203),(10,204)],[.int .u64 0,.int .u64 0,.int .u32 0,zU,zU,zU,zU,.nilFunc,zP,.int .i32 0,.int .i32 0],48⟩)::fnT [1,27,28,29,32,33,34,36,39,40,44,54,55,56,57,59,60,61,64,70,71,72,73,75,76,79,81,82,87,88,89,90,91,92,97,98,100,101,102,103,104,105,106,107,108,109,110,113,114,115,116,117,118,121,122,123,124,126,127,128,129,131,132,134,135,137,138,139,140,141,142,144,145,146,147,149,154,156,157,158,159,160,161,164,165,166,167,169,170,171,174,175,177,178,179,181,187,188,189,192,194,202]
theorem jlI {P:Program} : ∀ {T:List (Nat × Te)},T.map (fun p=>jlK P p.1)=T.map (fun p=>some p.2)->Tab.ok P T
 | [],_=>Tab.ok_nil P
 | (i,e) :: r,h=>by rw[List.map_cons,List.map_cons,List.cons.injEq] at h;exact Tab.ok_cons h.1 (jlI h.2)
theorem jaA:Tab.ok Tryz.prog tab:=jlI (by kernel_rfl)
theorem jnM {T:List (Nat × Te)} (h:(T.all fun x=>x.2.z.all fun u=>u.oneCell')=true):mE T:=fun t e he u hu=>by
 induction T with
 | nil=>simp[Tab.get] at he
 | cons x r ih =>
  obtain⟨i,e1⟩ := x
  simp only[List.all_cons,Bool.and_eq_true] at h;unfold Tab.get at he
  split at he
  ·cases he
   exact List.all_eq_true.1 h.1 u hu
  ·exact ih h.2 he
theorem jlJ:mE tab:=jnM (by kernel_rfl)
theorem mixed:Tryz.prog.follows .mixedOrders=true:=by kernel_rfl
def qr (m:Nat) (t:Tr):List Nat->Tr
 | []=>t
 | k :: l => .q k m (qr m t l)
def oS (i k:Nat) (x y:Tr):Tr:=match Nat.beq i k with | true=>x | false=>y
def jrN (id:Nat):Tr:=oS id 6 (qr 3 (qr 0 (.alt 4 1 (.alt 6 2 (qr 3 (.alt 10 2 (qr 3 .nil [11,12]) .nil) [7,8,9]) .nil) .nil) [3,5]) [0,1,2]) <|.nil
def jrO (id:Nat):Tr:=oS id 10 (.q 0 3 (.q 1 0 (.q 2 3 (.alt 3 1 (.alt 4 1 (.alt 5 1 (.q 6 3 (.alt 7 2 .nil .nil)) .nil) .nil) .nil)))) <|oS id 11 (.q 0 3 (.q 1 0 (.q 2 3 (.alt 3 1 (.alt 4 1 (.alt 5 1 (.q 6 3 (.alt 7 2 .nil .nil)) .nil) .nil) .nil)))) <|oS id 17 (.q 0 3 (.q 1 0 (qr 3 (.q 5 0 (.q 6 3 (.alt 7 1 (.q 8 3 (.alt 9 1 (.alt 10 1 (.q 11 3 (.alt 12 2 .nil .nil)) .nil) .nil)) .nil))) [2,3,4]))) <|.nil
def job (id:Nat):Tr:=oS id 2 (qr 3 (.q 3 0 (qr 3 (.q 7 0 (qr 3 .nil [8,9])) [4,5,6])) [0,1,2]) <|oS id 4 (qr 3 (.q 3 0 (qr 3 (.q 7 0 (qr 3 (.q 10 0 (.q 12 3 (.alt 11 2 (qr 3 .nil [13,14]) .nil))) [8,9])) [4,5,6])) [0,1,2]) <|.nil
def jr5 (id:Nat):Tr:=oS id 5 (.q 0 3 (.q 1 0 (qr 3 (.alt 4 1 (.alt 5 1 (.alt 6 1 (.q 7 3 (.alt 8 2 .nil .nil)) .nil) .nil) .nil) [2,3]))) <|.nil
def jr6 (id:Nat):Tr:=oS id 1 (qr 3 (.q 3 0 (qr 3 (.q 8 0 (.q 9 3 (.alt 10 2 (.q 11 3 .nil) .nil))) [4,5,6,7])) [0,1,2]) <|.nil
def jr7 (id:Nat):Tr:=oS id 5 (.q 0 3 (.q 1 0 (.q 2 3 (.alt 3 1 (.alt 4 1 (.alt 5 1 (.q 6 3 (.alt 7 2 .nil .nil)) .nil) .nil) .nil)))) <|.nil
def joc (id:Nat):Tr:=oS id 6 (.q 0 3 (.q 1 0 (.q 2 3 (.q 3 0 (.alt 4 1 (.alt 5 1 (.alt 6 2 .nil .nil) .nil) .nil))))) <|.nil
def jod (id:Nat):Tr:=oS id 7 (qr 3 (.q 2 0 (.q 3 3 (.q 4 0 (.alt 5 1 (.alt 6 1 (.alt 7 2 .nil .nil) .nil) .nil)))) [0,1]) <|.nil
def joe (id:Nat):Tr:=oS id 4 (.q 0 3 (.q 1 0 (qr 3 (.alt 4 1 (.alt 5 1 (.alt 6 1 (.q 7 3 (.alt 8 2 .nil .nil)) .nil) .nil) .nil) [2,3]))) <|.nil
def jof (id:Nat):Tr:=oS id 15 (.q 0 0 (qr 3 (.alt 2 1 (.q 3 3 (.alt 5 1 (.q 6 3 (.alt 7 2 .nil .nil)) .nil)) .nil) [1,4])) <|oS id 19 (.q 0 0 (qr 3 (.alt 2 1 (.q 3 3 (.alt 5 1 (.q 6 3 (.alt 7 2 .nil .nil)) .nil)) .nil) [1,4])) <|oS id 25 (.q 0 0 (qr 3 (.alt 3 1 (.q 4 3 (.alt 5 2 .nil .nil)) .nil) [1,2])) <|oS id 27 (.q 0 0 (qr 3 (.alt 3 1 (.q 4 3 (.alt 5 2 .nil .nil)) .nil) [1,2])) <|.nil
def jr8 (id:Nat):Tr:=oS id 1 (.q 0 0 (qr 3 (.q 3 0 (.alt 4 2 (qr 3 .nil [5,6]) .nil)) [1,2])) <|.nil
def jkL (id:Nat):Tr:=oS id 5 (.q 0 3 (.q 1 0 (qr 3 (.alt 4 1 (.alt 5 1 (.q 6 3 (.alt 7 1 (.alt 8 2 .nil .nil) .nil)) (.alt 7 1 (.alt 5 1 (.q 6 3 (.alt 8 2 .nil .nil)) .nil) .nil)) (.alt 7 1 (.alt 4 1 (.alt 5 1 (.q 6 3 (.alt 8 2 .nil .nil)) .nil) .nil) .nil)) [2,3]))) <|oS id 8 (.q 1 3 (.q 2 0 (.alt 0 1 (.alt 3 1 (.q 4 3 .nil) .nil) .nil))) <|.nil
def jpf (id:Nat):Tr:=oS id 4 (.q 0 3 (.q 1 0 (qr 3 (.alt 4 1 (.alt 5 1 (.q 6 3 (.alt 7 2 .nil .nil)) .nil) .nil) [2,3]))) <|.nil
def jpg (id:Nat):Tr:=oS id 1 (.q 0 0 (.q 1 3 (.alt 2 1 (.q 3 3 (.alt 4 1 (.alt 5 2 .nil .nil) .nil)) (.alt 4 1 (.alt 2 1 (.q 3 3 (.alt 5 2 .nil .nil)) .nil) .nil)))) <|.nil
def jph (id:Nat):Tr:=oS id 7 (.q 0 3 (.q 1 0 (qr 3 (.alt 4 1 (.alt 5 1 (.alt 6 1 (.q 7 3 (.alt 8 2 .nil .nil)) .nil) .nil) .nil) [2,3]))) <|.nil
def jpi (id:Nat):Tr:=oS id 3 (.q 0 0 (qr 3 (.alt 3 1 (.alt 4 1 (.q 5 3 (.alt 6 1 (.alt 7 2 .nil .nil) .nil)) (.alt 6 1 (.alt 4 1 (.q 5 3 (.alt 7 2 .nil .nil)) .nil) .nil)) (.alt 6 1 (.alt 3 1 (.alt 4 1 (.q 5 3 (.alt 7 2 .nil .nil)) .nil) .nil) .nil)) [1,2])) <|.nil
def jpj (id:Nat):Tr:=oS id 7 (.q 0 3 (.q 1 0 (qr 3 (.alt 4 1 (.alt 5 1 (.q 6 3 (.alt 7 2 .nil .nil)) .nil) .nil) [2,3]))) <|.nil
def jH (_:Nat):Tr := .nil
def jY (_:Nat):List Nat:=[]
theorem jF (ord:Nat->Tr) (xs:Nat->List Nat) (np:Nat):(⟨Tryz.prog,tab,ord,xs,np,fun _ _=>False⟩ : Cx).ok:=⟨jaA,jlJ,mixed⟩
theorem jjW (ord:Nat->Tr) (xs:Nat->List Nat) (np:Nat):(⟨Tryz.prog,tab,ord,xs,np,fun _ _=>False⟩ : Cx).okN:=⟨⟨jaA,jlJ,mixed⟩,fun _ _ h=>h⟩
theorem wB (ord:Nat->Tr) (xs:Nat->List Nat) (np:Nat) (pan:List PanicEntry->S->Prop):(⟨Tryz.prog,tab,ord,xs,np,pan⟩ : Cx).ok:=⟨jaA,jlJ,mixed⟩
set_option maxRecDepth 100000 in
theorem eN {f:Nat} {fn:Func} {x:Code} {ins:List (List A)} {args:List A} {post:List (List A)->A->Prop} (o:Nat->Tr) (xs:Nat->List Nat) (np:Nat) (hf:Tryz.prog.funcs[f]? = some fn) (hb:fn.body=some x) (h:nA args->yY args (fn.ntmps-args.length) fun t=>r5 ⟨Tryz.prog,tab,o,xs,np,fun _ _=>False⟩ x ⟨t,ins,[]⟩ (jfX ⟨Tryz.prog,tab,o,xs,np,fun _ _=>False⟩ fn.results.toList post)) (h1:(fn.name == "runtime.NumGoroutine")=false:=by kernel_rfl) (h2:ins.length=np:=by rfl) (h3:kI o x=true:=by kernel_rfl):Spec Tryz.prog f ins args post:=jnm (jF o xs np) (fun _ _ h=>h) hf hb h1 h2 h3 h
set_option maxRecDepth 100000 in
theorem tW {f:Nat} {fn:Func} {x:Code} {ins:List (List A)} {args:List A} {post:List (List A)->A->Prop} {pn:List PanicEntry->Prop} (o:Nat->Tr) (xs:Nat->List Nat) (hf:Tryz.prog.funcs[f]? = some fn) (hb:fn.body=some x) (h:nA args->yY args (fn.ntmps-args.length) fun t=>r5 ⟨Tryz.prog,tab,o,xs,1,fun ch _=>pn ch⟩ x ⟨t,ins,[]⟩ (jfX ⟨Tryz.prog,tab,o,xs,1,fun ch _=>pn ch⟩ fn.results.toList post)) (h1:(fn.name == "runtime.NumGoroutine")=false:=by kernel_rfl) (h2:ins.length=1:=by rfl) (h3:kI o x=true:=by kernel_rfl):SpecP Tryz.prog f ins args post pn:=xV (wB o xs 1 fun ch _=>pn ch) (fun _ _ h=>h) hf hb h1 h2 h3 h
end Go.Proofs.YtgifglkkmhapiaaGreatDoor.Vm
namespace Go.Proofs.YtgifglkkmhapiaaGreatDoor.Vm
open Go.RowKit
def j0 (x:ByteArray):A := .v (.string x)
def jJ (n:Int):A := .v (.int .i64 n)
def wP (b:Bool):A := .v (.bool b)
def aH (l:List ByteArray):List A:=l.map j0
def bF (l:List Int):List A:=l.map jJ
theorem jai (l:List ByteArray) (i:Nat) (hi:i<l.length):jM 1 i (aH l)=[.v (.string l[i])]:=y9 _ l i hi
theorem jgH (l:List Int) (i:Nat) (hi:i<l.length):jM 1 i (bF l)=[.v (.int .i64 l[i])]:=y9 _ l i hi
theorem eK (b:ByteArray) (i:Nat) (hi:i<b.data.toList.length):jM 1 i (kW b)=[.v (.int .u8 (b.data.toList[i].toNat:Int))]:=y9 _ b.data.toList i hi
theorem jkm {n:Nat} (h:n<=1000000000):n<=maxLen:=by unfold maxLen;omega
theorem vN {f:Nat} {fn:Func} {x:Code} (hf:Tryz.prog.funcs[f]? = some fn) (hb:fn.body=some x) (hname:(fn.name == "runtime.NumGoroutine")=false):∀ vs w,(callFunc f vs).run Tryz.prog w = .ok (.enter f vs) w:=fun vs w=>nH hf hb hname vs w
theorem nT {P:Program} {f:Nat} {args:List A} {r:A} (hcall:∀ vs w,(callFunc f vs).run P w = .ok (.enter f vs) w)
  (h:∀ w C vals,Gok C w->Sub C (kJ w)->A.repL args ⟨C,[],[]⟩ vals->Calls P f vals.toArray w fun e w' => ∃ v,e = .returned v/\Ext w w'/\r.rep ⟨qU C w w',[],[]⟩ v):Spec P f [] args fun _ x=>x=r:=by
 refine⟨hcall,fun w C β vals h0 h1 h2 h3 h4 h5 h6 => ?_⟩
 have hβ:β=[]:=List.eq_nil_of_length_eq_zero (by simpa using h4.symm)
 subst hβ;refine (h w C vals h0 h1 h6).mono ?_;rintro e w' ⟨v,rfl,x,hr⟩;exact⟨[],r,v,rfl,rfl,Keeps.of_ext x,rfl,fun i b cs hb=>by simp at hb,hr⟩
theorem jdr {α:Type} : ∀ {l:List α} {i:Nat} {a:α} {K:List α->Prop},i<l.length->K (l.set i a)->bU l i a K
 | [],i,a,K,h,_=>by simp at h
 | x :: l,0,a,K,h,k=>by simpa [bU] using k
 | x :: l,i+1,a,K,h,k=>by
  unfold bU;exact jdr (by simpa using h) (by simpa using k)
theorem jaD:∀ {n:Nat} {cs:List A} {K:List A->Prop},n<=cs.length->K (cs.take n)->jaC n cs K
 | 0,cs,K,_,k=>by unfold jaC;simpa using k
 | n+1,[],K,h,k=>by simp at h
 | n+1,c :: cs,K,h,k=>by
  unfold jaC;exact jaD (by simpa using h) (by simpa using k)
theorem lS {X:List Nat} {rw:List Row} : ∀ {l:List A},(∀ a ∈ l,∃ x,a = .v x)->zM X rw l=some l
 | [],_=>by simp[zM]
 | a :: r,h=>by
  obtain⟨x,rfl⟩ := h a (by simp)
  unfold zM;rw[lS (l:=r) fun b hb=>h b (by simp[hb])]
  simp[ren]
theorem jj4 {X:List Nat} {rw:List Row} {l:List A} (h:∀ a ∈ l,∃ x,a = .v x):ren X rw (.agg l)=some (.agg l):=by
 unfold ren;rw[lS h]
theorem rD {X:List Nat} : ∀ {l:List A},(∀ a ∈ l,∃ x,a = .v x)->xI X l=l
 | [],_=>by simp[xI]
 | a :: r,h=>by
  obtain⟨x,rfl⟩ := h a (by simp)
  unfold xI;rw[rD (l:=r) fun b hb=>h b (by simp[hb])]
  simp[back]
theorem bI {np:Nat} {t t':List A} {bx:List (List A)} {rw:List Row} (h:eqL t t'):Le np ⟨t,bx,rw⟩ ⟨t',bx,rw⟩ := by
 rintro dr w0 C0 β0 a w _ _ ⟨E,hp,hrep,hd⟩;exact⟨E,hp,sB (tY h) hrep,hd⟩
def dX {X:Type} (t0:List A) (g:X->List (Nat × A)) (bx:X->List (List A)) (rw:X->List Row) (x:X) (s:S):Prop :=
 xS (g x) t0 fun t=>eqL s.t t/\s.bx=bx x/\s.rw=rw x
theorem d6 {X:Type} {np:Nat} {s:S} {t0:List A} {g:X->List (Nat × A)} {bx:X->List (List A)} {rw:X->List Row} {x:X} (h:dX t0 g bx rw x s):Le np s (iF t0 g bx rw x):=by
 unfold dX at h;rw[k9] at h
 obtain⟨h1,h2,h3⟩ := h
 obtain⟨t,b,r⟩ := s
 simp only at h1 h2 h3
 subst h2;subst h3;exact bI h1
theorem oD {np:Nat} {f:S->(Exit->S->Prop)->Prop} {s:S} {t0:List A} {Q:Exit->S->Prop} {X:Type} (g:X->List (Nat × A)) (bx:X->List (List A)) (rw:X->List Row) (φ:X->Prop) (μ:X->Nat) (x0:X)
  (h0:dX t0 g bx rw x0 s) (hφ:φ x0)
  (hr:∀ x,φ x->xS (g x) t0 fun t=>f ⟨t,bx x,rw x⟩ fun e s' => match e with
   | .normal => ∃ x',Le np s' (iF t0 g bx rw x')/\φ x'/\μ x'<μ x
   | e=>Q e s'):jb8 np f s t0 Q:=by
 unfold jb8;unfold vU
 exact⟨X,iF t0 g bx rw,φ,μ,⟨x0,d6 h0,hφ⟩,fun x hx=>by
  have:=hr x hx
  rw[k9] at this
  exact this⟩
theorem nX {cs:List A} {off:Nat} {d:A} {K:List A->Prop} (h:off<cs.length) (k:K (cs.set off d)):wN cs off [d] K:=by
 unfold wN;exact jdr h (by unfold wN;exact k)
theorem mC:∀ {ds cs:List A} {K:List A->Prop} (pre:List A),ds.length=cs.length->K (pre++ds)->wN (pre++cs) pre.length ds K
 | [],[],K,pre,_,k=>by unfold wN;simpa using k
 | d :: ds,c :: cs,K,pre,h,k=>by
  unfold wN;refine jdr (by simp) ?_
  have e:(pre++c :: cs).set pre.length d=(pre++[d])++cs:=by simp
  rw[e]
  have:=mC (K:=K) (pre++[d]) (ds:=ds) (cs:=cs) (by simpa using h) (by simpa using k)
  simpa using this
 | [],_ :: _,_,_,h,_=>by simp at h
 | _ :: _,[],_,_,h,_=>by simp at h
theorem walk_cell {f:Nat} {args:List A} {vals:List Value} {w:World} (h:Spec Tryz.prog f [] args fun _ r=>r=wP true) (hg:Gok w.cell? w) (ha:A.repL args ⟨w.cell?,[],[]⟩ vals) :
  Calls Tryz.prog f vals.toArray w fun e w' => e = .returned (.bool true)/\Below w.heap.size w w' :=
 (h.2 w w.cell? [] vals hg (fun _ _ h=>jao h) List.nodup_nil (by simp) rfl (fun i b cs hb=>by simp at hb) ha).mono fun e w' ⟨outs,r,v,he,hr,hk,_,_,hv⟩=>by
  subst hr;rw[he,(A.rep_v_iff.1 hv).1];exact⟨rfl,hk.ext⟩
theorem pS {α:Type} {E:Env} {b:Nat} (f:α->Value) (hf:∀ x,(f x).oneCell'=true):∀ {l:List α} {off:Nat},A.repAt (l.map fun x => .v (f x)) E b off ↔ ∀ i (hi:i<l.length),E.C ⟨b,off+i,none⟩ = some (f l[i])/\dG (f l[i])
 | [],off=>by simp[A.repAt]
 | x :: l,off=>by
  simp only[List.map_cons,A.repAt];rw[pS f hf (l:=l)]
  constructor
  ·rintro⟨⟨u,h1,-,h3⟩,h4⟩ i hi;rw[A.rep_v_iff] at h3
   cases i with
   | zero=>rw[Nat.add_zero,h1,h3.1];exact⟨rfl,h3.2⟩
   | succ i =>
    have:=h4 i (by simpa using hi)
    rw[show off+(i+1)=off+1+i by omega];exact this
  ·intro h;refine⟨⟨f x,by have:=(h 0 (by simp)).1;simpa using this,hf x,A.rep_v_iff.2 ⟨rfl,(h 0 (by simp)).2⟩⟩,fun i hi => ?_⟩
   have:=h (i+1) (by simpa using hi)
   rw[show off+1+i=off+(i+1) by omega];exact this
theorem jbD {E:Env} {v:Value} {l:List Int} {p:Option Addr} {b off cap:Nat} (h1:l.length<=maxLen) (h2:∀ n ∈ l,-9223372036854775808<=n/\n<=9223372036854775807) (hv:v = .slice p l.length cap) (hc:l.length<=cap) (hp:l=[] ∨ p=some ⟨b,off,none⟩) (hn:p=none->cap=0)
  (hh:∀ i,i<l.length->E.C ⟨b,off+i,none⟩ = some (.int .i64 (l.getD i 0))):(A.sl 1 l.length (bF l)).rep E v:=by
 subst hv;unfold A.rep;refine⟨by simp[bF],h1,p,b,off,cap,rfl,hc,?_,hn,?_⟩
 ·rcases hp with rfl | hp
  ·exact .inl rfl
  ·exact .inr hp
 ·refine (pS (E:=E.per) (Value.int .i64) (fun _=>rfl)).2 fun i hi=>⟨?_,okV_int.2 (h2 _ (List.getElem_mem hi))⟩
  have:=hh i hi
  simp[List.getD_eq_getElem?_getD,hi] at this
  exact this
theorem row_rep {w:World} {a:Option Addr} {len cap:Nat} {zs:List Int} (h:(a=none/\len=0/\cap=0/\zs=[]) ∨ ∃ x,a=some x/\len<=cap/\cap<=maxLen/\zs.length=cap/\(∀ i,i<zs.length->w.cell? (x.add i)=some (.int .i64 (zs.getD i 0))) /\ ∀ n ∈ zs,(Lit.int .i64 n).wf=true) :
  (A.sl 1 (zs.take len).length (bF (zs.take len))).rep ⟨w.cell?,[],[]⟩ (.slice a len cap):=by
 rcases h with ⟨rfl,rfl,rfl,rfl⟩ | ⟨x,rfl,hl,hm,hz,hc,hw⟩
 ·exact jbD (p:=none) (b:=0) (off:=0) (cap:=0) (by simp) (by simp) rfl (by simp) (.inl rfl) (fun _=>rfl) (fun i hi=>absurd hi (by simp))
 ·have hlen:(zs.take len).length=len:=by simp;omega
  refine jbD (p:=some x) (b:=x.block) (off:=x.off) (cap:=cap) (by omega) (fun n hn => ?_) (by rw[hlen]) (by omega) ?_ (by simp) (fun i hi => ?_)
  ·have:=hw n (List.mem_of_mem_take hn)
   simp[Lit.wf] at this
   exact this
  ·by_cases h0:len=0
   ·left;subst h0;simp
   ·right
    have:=hc 0 (by omega)
    obtain⟨b,o,sp⟩ := x
    cases sp with
    | none=>rfl
    | some k=>simp[Addr.add,World.cell?] at this;split at this <;> simp at this
  ·have hi':i<len:=by omega
   have e:=hc i (by omega)
   have h0:=hc 0 (by omega)
   obtain⟨b,o,sp⟩ := x
   cases sp with
   | none=>rw[jcv] at e;show w.cell? ⟨b,o+i,none⟩ = _;rw[e];simp[List.getD_eq_getElem?_getD,hi']
   | some k=>simp[Addr.add,World.cell?] at h0;split at h0 <;> simp at h0
theorem args_nil {E:Env} : A.repL [] E []:=by unfold A.repL;rfl
theorem joG {C:Rd} {g:Nat} (h:∃ u v,C ⟨g,0,none⟩ = some (.iface u v)):A.repAt [.err] ⟨C,[],[]⟩ g 0:=by
 obtain⟨u,v,h⟩ := h
 unfold A.repAt;refine⟨⟨_,h,rfl,?_⟩,by simp[A.repAt]⟩;unfold A.rep;exact⟨u,v,rfl⟩
theorem d4 {P:Program} {w:World} {n:String} {d:DataW Unit} {g ti:Nat} (hg:P.globalNamed n=some g) (ht:(P.globals[g]?).map (·.type)=some ti) :
  ∀ {l:List (String × DataW Unit)} {ps:List MemPlace},DataW.LaidVars P w l ps->(n,d) ∈ l -> ∃ cs base sp fuel p,w.var? P n=some cs/\DataW.trod (fun _=>()) P w base sp false fuel ti cs.toList=some (d,p)
 | [],_,_,hm=>by simp at hm
 | (n',d') :: r,ps,h,hm=>by
  obtain⟨g',t',cs,fuel,p,q,e1,e2,e3,e4,e5,_⟩ := h
  rcases List.mem_cons.1 hm with e | hm
  ·cases e
   obtain rfl:=Option.some.inj (hg.symm.trans e1)
   obtain rfl:=Option.some.inj (ht.symm.trans e2)
   exact⟨cs,_,_,fuel,p,e3,e4⟩
  ·exact d4 hg ht e5 hm
theorem rK {P:Program} {w:World} {n:String} {g:Nat} {cs:Array Value} (hg:P.globalNamed n=some g) (h:w.var? P n=some cs):∃ T sp,w.heap[g]? = some (.cells cs T sp):=by
 simp only[World.var?,hg,Option.bind_some] at h
 split at h
 ·rename_i cs' T sp hh
  cases h
  exact⟨T,sp,hh⟩
 ·cases h
theorem gok_iface {P:Program} {w:World} {n nm:String} {d:DataW Unit} {g ti:Nat} {ms:Array (String × TypeId)} (hg:P.globalNamed n=some g) (ht:(P.globals[g]?).map (·.type)=some ti) (hi:P.underlying ti=some (.interface ms))
  {l:List (String × DataW Unit)} {ps:List MemPlace} (h:DataW.LaidVars P w l ps) (hm:(n,DataW.iface nm d) ∈ l):(([A.err]:List A) ≠ []/\A.repAt [.err] ⟨w.cell?,[],[]⟩ g 0) /\ ∃ cs T sp,w.heap[g]? = some (.cells cs T sp)/\cs.size=1:=by
 obtain⟨cs,base,sp,fuel,p,e1,e2⟩ := d4 hg ht h hm
 obtain⟨f',u,v,ecs,_⟩ := iface_of_trod hi e2
 obtain⟨T,sp2,hh⟩ := rK hg e1
 have hc:w.cell? ⟨g,0,none⟩ = some (.iface u v):=by
  have:=World.var?_cell hg e1 0
  rw[this,<- Array.getElem?_toList,ecs];rfl
 refine⟨⟨by simp,joG ⟨u,v,hc⟩⟩,cs,T,sp2,hh,?_⟩
 have:=congrArg List.length ecs
 simpa using this
theorem gok_tab {P:Program} {w:World} {n:String} {k:IntKind} {zs:List Int} {g ti e m:Nat} (hg:P.globalNamed n=some g) (ht:(P.globals[g]?).map (·.type)=some ti) (hu:P.underlying ti=some (.array m e)) (he:P.underlying e=some (.int k)) (hce:P.cellsOf e=1) (hct:P.cellsOf ti=m) (hne:zs ≠ []) (hzs:∀ z ∈ zs,dG (.int k z))
  {l:List (String × DataW Unit)} {ps:List MemPlace} (h:DataW.LaidVars P w l ps) (hm:(n,Lib.tabData k zs) ∈ l):(((zs.map fun z=>A.v (.int k z)) ≠ [])/\A.repAt (zs.map fun z=>A.v (.int k z)) ⟨w.cell?,[],[]⟩ g 0) /\ ∃ cs T sp,w.heap[g]? = some (.cells cs T sp)/\cs.size=(zs.map fun z=>A.v (.int k z)).length:=by
 obtain⟨cs,base,sp,fuel,p,e1,e2⟩ := d4 hg ht h hm
 have ecs:=Lib.cells_of_tab hu he hce hct e2
 obtain⟨T,sp2,hh⟩ := rK hg e1
 refine⟨⟨by simpa using hne,?_⟩,cs,T,sp2,hh,?_⟩
 ·refine (pS (fun z=>Value.int k z) (fun _=>rfl)).2 fun i hi=>⟨?_,hzs _ (List.getElem_mem hi)⟩
  have:=World.var?_cell hg e1 (0+i)
  show w.cell? _=_
  rw[this,<- Array.getElem?_toList,ecs]
  simp[hi]
 ·have:=congrArg List.length ecs
  simpa using this
section
theorem gok_num {P:Program} {w:World} {g t:Nat} (h:w.ShapedOpen P) (hg:g<P.globals.size)
  (h0:((begin P (fun _ _=>0) default).world.heap[g]?).bind Obj.row? = some (#[.int .i64 0],t))
  (hb:P.buildable t=true) (hc:P.cellTypes P.depth t=some [t]) (hu:P.underlying t=some (.int .i64)) :
  (([A.num]:List A) ≠ []/\A.repAt [.num] ⟨w.cell?,[],[]⟩ g 0) /\ ∃ cs T sp,w.heap[g]? = some (.cells cs T sp)/\cs.size=1:=by
 obtain⟨m,hm⟩ := cell_of_shapedOpen_int h hg h0 rfl hb hc hu
 obtain⟨cs,hh,hs,_⟩ := h.1 g _ _ hg h0
 refine⟨⟨by simp,?_⟩,cs,t,_,hh,hs⟩
 ·unfold A.repAt A.repAt;exact⟨⟨_,hm,rfl,by unfold A.rep;exact⟨m,rfl⟩⟩,trivial⟩
section
variable {H:Type} {enc:TypeId × Value->H}
theorem frame_shaped {a:Assume} {C:Checked} {os:Os} {f:FuncId} {fn:Func} {s:ChangeSpec} {conds:List PathCond} {apart fresh handsOn again:Bool} {X:World->Array Value->Prop}
  (hX:∀ (w w':World) (args:Array Value),w.heap=w'.heap->X w args->X w' args)
  (own:ownKnob C.prog.godebug=none) (started:os.Started) (noInit:C.prog.inits.idxOf? f=none) (hfn:C.prog.funcs[f]? = some fn)
  (witness:∃ (w:World) (tape:Tape) (i:Input),w.os=os/\(w.forCall tape i).Shaped C.prog/\i.vars=[]/\Input.okWide C.prog (w.forCall tape i) .any w.heap.size f i ∧
   ((s.pre enc C.prog fn conds apart (w.forCall tape i).memory i.args/\X (w.forCall tape i).memory i.args)/\sizedMet enc C.prog fn (OpenSpec.ofChange s) apart (w.forCall tape i).memory i.args)/\a.holds C.prog (lone (Frame.enter C.prog f i.args .normal) [] (w.forCall tape i)))
  (contract:∀ (W:World) (base:Nat) (args:Array Value) (ds gs:List (DataW H)) (before:List MemPlace),
   (∀ (j:Nat) t v,fn.params[j]? = some t->args[j]? = some v->Value.okWide C.prog W .any base t v) →
   DataW.Whole enc C.prog fn.params.toList s.vars apart W args.toList ds gs before->X W args->W.ShapedOpen C.prog →
   Calls C.prog f args W fun e W' => ∃ v,e = .returned v/\s.post enc C.prog fn apart fresh handsOn again W args v W') :
  ReturnsInHanded a C os f .any (fun w args=>(s.pre enc C.prog fn conds apart w args/\X w args)/\sizedMet enc C.prog fn (OpenSpec.ofChange s) apart w args) (s.post enc C.prog fn apart fresh handsOn again):=by
 refine returnsInHanded_of_calls own started noInit witness ?_;intro w tape i _ hsh _ hok hpre _
 obtain⟨_,_,_,fn',hfn',_,_,_,_,hval⟩ := hok
 obtain rfl:fn'=fn:=Option.some.inj (hfn'.symm.trans hfn)
 obtain⟨⟨⟨ds,gs,before,hw,_⟩,hx⟩,_⟩ := hpre
 have hw2:=DataW.Whole.of_heap (w':=w.forCall tape i) (by rfl) hw
 refine (contract (w.forCall tape i) w.heap.size i.args ds gs before hval hw2 (hX _ _ _ (by rfl) hx) hsh).mono fun e W' hr => ?_
 obtain⟨v,he,hp⟩ := hr
 subst he;exact ChangeSpec.post_blind hp
end
end
section
def jf5 (c:Cx) (e k g:Nat) (rv:List ResultVar) (post:List (List A)->Nat->List A->A->Prop) (s:S):Prop :=
 jla c.T s rv fun r=>match (jC s.rw (jiO g (cA r++rL (aI c.np s.bx))))[g]? with
  | some (.live e' k' n cs)=>match Nat.beq e' e,Nat.beq k' k with
   | true,true=>match aM (upto c.np) g (jC s.rw (jiO g (cA r++rL (aI c.np s.bx)))) (aI c.np s.bx) with
    | some outs=>match renG (upto c.np) g (jC s.rw (jiO g (cA r++rL (aI c.np s.bx)))) r with
     | some r' => post outs n cs r'
     | none=>False
    | none=>False
   | _,_=>False
  | _=>False
def jms (c:Cx) (e k:Nat) (rv:List ResultVar) (post:List (List A)->Nat->List A->A->Prop) (x:Exit) (s:S):Prop :=
 match x with
 | .ret => ∃ g,jf5 c e k g rv post s
 | .normal => ∃ g,jf5 c e k g rv post s
 | _=>False
section
variable {c:Cx} {s:S}
theorem jcQ {fn:Func} {post:List (List A)->Nat->List A->A->Prop} {w w':World} {C:Rd} {β:List Nat} {s':S} {a':Act} {e k g:Nat} {y:Value} (hc:c.ok) (hnp:β.length=c.np) (hr:jf5 c e k g fn.results.toList post s') (hi:Inv [] ⟨w,(blk y).toList⟩ C β s' a' w') :
  a'.defers=[] /\ ∃ v,(results fn a'.tmps).run c.P w' = .ok v w' /\ ∃ (outs:List (List A)) (n':Nat) (cs':List A) (r:A) (v' y':Value) (xs':List Value) (C':Rd),Ending.returned v = .returned v'/\post outs n' cs' r/\Keeps (β++(blk y).toList) w w'/\Sub C C'/\Sub C' (kJ w')/\(∀ ad u,C' ad=some u->C ad=some u ∨ w.heap.size<=ad.block ∨ blk y=some ad.block)/\outs.length=β.length ∧
   (∀ (i b:Nat) (cs:List A),β[i]? = some b->outs[i]? = some cs->boxAt w' ⟨C',β,[y']⟩ b cs)/\owR w' e k y' n' xs'/\A.repC cs' ⟨C',[],[]⟩ xs'/\(∀ b,blk y'=some b->(∀ o sp,C' ⟨b,o,sp⟩ = none)/\(w.heap.size<=b ∨ blk y=some b))/\r.rep ⟨C',β,[y']⟩ v':=by
 obtain⟨E,hp,ht,hd⟩ := hi
 unfold jf5 at hr
 obtain⟨r,v,g1,g2,g3⟩ := jdm (fn:=fn) hc hp ht hr
 refine⟨hd,v,g3,?_⟩
 have hmem:∀ b,b ∈ (blk y).toList->blk y=some b:=fun b hb=>by
  cases h:blk y with
  | none=>rw[h] at hb;simp at hb
  | some x=>rw[h] at hb;simp at hb;rw[hb]
 have hfr:∀ b,W0.fr ⟨w,(blk y).toList⟩ b->w.heap.size<=b ∨ blk y=some b:=fun b hb=>hb.imp id (hmem b)
 obtain⟨C1,hp1,le1⟩ := hp.pubs (jiO g (cA r++rL (aI c.np s'.bx)))
 split at g1
 ·rename_i e' k' n cs hg
  split at g1
  ·rename_i hb1 hb2
   obtain rfl:=Nat.eq_of_beq_eq_true hb1
   obtain rfl:=Nat.eq_of_beq_eq_true hb2
   split at g1
   ·rename_i outs houts
    split at g1
    ·rename_i r' hr'
     have hgl:=(List.getElem?_eq_some_iff.1 hg).1
     obtain⟨y',hy'⟩ : ∃ y',E.ρ[g]? = some y':=⟨_,List.getElem?_eq_getElem (by rw[<- hp1.rl];exact hgl)⟩
     obtain⟨xs,⟨k1,kf⟩,k2⟩ := hp1.rws g _ y' hg hy'
     obtain⟨β',hβ,hβ'⟩ := hp.bp
     have hβl:β.length<=E.β.length:=by rw[hβ];simp
     have hget:∀ i:Nat,i<β.length->E.β[i]? = β[i]? := fun i hi=>by rw[hβ,List.getElem?_append_left hi]
     have hY:wS ⟨C1,E.β,E.ρ⟩ (upto c.np) β:=fun j i hj=>by
      obtain⟨rfl,hi⟩ := jaM hj
      have:i<β.length:=by rw[hnp];exact hi
      exact⟨β[i],by simp[this],by rw[hget i this];simp[this]⟩
     obtain⟨q1,q2⟩ := lR houts
     have hbl:=hp.bl
     refine⟨outs,n,cs,r',v,y',xs,C1,rfl,g1,hp1.keep,hp1.base,hp1.sub,fun ad u hc=>(hp1.fresh ad u hc).imp id fun h=>hfr _ h,by rw[q1,eX,List.length_take];omega,fun i b cs h7 h8 => ?_,k1,k2,fun b hb=>⟨(hp1.rC g _ _ _ _ y' b hg hy' hb).2,hfr b (kf b hb)⟩,jf1 (E:=⟨C1,E.β,E.ρ⟩) hp1 hY hy' r hr' (A.rep.mono _ le1 g2)⟩
     obtain⟨c0,h9,h10⟩ := q2 i cs h8
     have hi:=(List.getElem?_eq_some_iff.1 h7).1
     rw[eX,List.getElem?_take,if_pos (by omega)] at h9
     obtain⟨T',arr,p1,p2⟩ := hp1.bxs i b c0 (by rw[<- h7];exact hget i hi) h9
     exact⟨T',arr,p1,p2.renG hp1 hY hy' h10⟩
    ·exact g1.elim
   ·exact g1.elim
  ·exact g1.elim
 ·exact g1.elim
theorem lE {nt:Nat} {ins:List (List A)} {args:List A} {w:World} {C:Rd} {β:List Nat} {vals:List Value} {y:Value} {xs:List Value} {e k n:Nat} {cs:List A} (h0:Gok C w) (h1:Sub C (kJ w)) (h2:β.Nodup) (h3:∀ b ∈ β,∀ o sp,C ⟨b,o,sp⟩ = none) (h4:ins.length=β.length)
  (h5:∀ (i b:Nat) (cs:List A),β[i]? = some b->ins[i]? = some cs->boxAt w ⟨C,β,[y]⟩ b cs) (h6:owR w e k y n xs) (h7:A.repC cs ⟨C,[],[]⟩ xs) (h8:∀ b,blk y=some b->b ∉ β /\ ∀ o sp,C ⟨b,o,sp⟩ = none) (h9:A.repL args ⟨C,β,[y]⟩ vals) :
  Inv [] ⟨w,(blk y).toList⟩ C β ⟨args++List.replicate (nt-args.length) .dead,ins,[.live e k n cs]⟩ { tmps:=vals.toArray++Array.replicate (nt-vals.toArray.size) undef,defers:=[] } w:=by
 have hl:=A.repL_len h9
 have one:∀ {g:Nat} {r:Row},[Row.live e k n cs][g]? = some r->g=0/\r = .live e k n cs:=fun {g r} hg=>by
  cases g with
  | zero=>simp at hg;exact⟨rfl,hg.symm⟩
  | succ g=>simp at hg
 refine⟨⟨C,β,[y]⟩,⟨h1,Sub.refl _,fun _ _ hc => .inl hc,⟨[],by simp,by simp⟩,h2,h3,h4,h5,rfl,fun g r z hg hz => ?_,fun g e' k' n' cs' z b hg hz hb => ?_,fun g e' k' n' cs' z g' e2 k2 n2 cs2 z2 b hne hg _ hg' => ?_,fun g z hz => ?_,Keeps.refl _ _,h0,fun b hb => ?_⟩,?_,rfl⟩
 ·obtain⟨rfl,rfl⟩ := one hg
  obtain⟨-,rfl⟩ := fN hz
  exact⟨xs,⟨h6,fun b hb => .inr (by simp[hb])⟩,h7⟩
 ·obtain⟨rfl,hr⟩ := one hg
  obtain⟨-,rfl⟩ := fN hz
  exact h8 b hb
 ·exact absurd ((one hg).1.trans (one hg').1.symm) hne
 ·obtain⟨-,rfl⟩ := fN hz
  exact h6.kind
 ·cases h:blk y with
  | none=>rw[h] at hb;simp at hb
  | some x=>rw[h] at hb;simp at hb;rw[hb];exact (h8 x h).2
 ·have:(vals.toArray++Array.replicate (nt-vals.toArray.size) undef).toList=vals++List.replicate (nt-args.length) undef:=by simp[hl]
  rw[this];exact A.repL_append h9 (nC _ _)
theorem jfj {f:Nat} {fn:Func} {x:Code} {ins:List (List A)} {e k n:Nat} {cs args:List A} {post:List (List A)->Nat->List A->A->Prop} {pn:List PanicEntry->Prop} (hc:c.ok) (hq:∀ ch s,c.pan ch s->pn ch) (hf:c.P.funcs[f]? = some fn) (hb:fn.body=some x) (hname:(fn.name == "runtime.NumGoroutine")=false)
  (hn:ins.length=c.np) (h:nA args->yY args (fn.ntmps-args.length) fun t=>Ok c x ⟨t,ins,[.live e k n cs]⟩ (jms c e k fn.results.toList post)):iV c.P f ins e k n cs args post pn:=by
 refine⟨nH hf hb hname,fun w C β vals y xs h0 h1 h2 h3 h4 h5 h6 h7 h8 h9 => ?_⟩;refine calls_of_wp hf hb ?_
 have hinit:=initK_iff.1 (h (wC _ h9))
 have hinv:=lE (nt:=fn.ntmps) h0 h1 h2 h3 h4 h5 h6 h7 h8 h9
 unfold Ok OkD at hinit;refine hinit ⟨w,(blk y).toList⟩ C β _ w _ (by rw[<- h4,hn]) hinv (fun ch s' a' w' hpan ⟨E,hp,ht,hd⟩=>⟨hd,.inr ⟨ch,(List.range β.length).map fun i=>(s'.bx.getD i []).length,rfl,hq ch s' hpan,hp.keep,by simp,fun i b n h7 h8 => ?_⟩⟩) ?_
 ·obtain⟨β',hβ,hβ'⟩ := hp.bp
  have hi:=(List.getElem?_eq_some_iff.1 h7).1
  have hbl:=hp.bl
  have hβl:β.length<=E.β.length:=by rw[hβ];simp
  have hib:i<s'.bx.length:=by omega
  rw[List.getElem?_map,List.getElem?_range hi] at h8;simp only[Option.map_some,Option.some.injEq] at h8;subst h8
  have e1:E.β[i]? = some b:=by rw[hβ,List.getElem?_append_left hi];exact h7
  obtain⟨T',arr,q1,q2⟩ := hp.bxs i b _ e1 (List.getElem?_eq_getElem hib)
  have e2:(s'.bx.getD i []).length=s'.bx[i].length:=by simp[List.getD_eq_getElem?_getD,hib]
  refine⟨T',arr,q1,?_⟩;rw[e2]
  have hl2:=q2.len
  have q2:=q2.1
  refine .mk' (A.repC_mk ?_ (A.repC_one q2))
  have:=dS (E:=⟨C,β,[]⟩) (l:=s'.bx[i]) hl2
  rw[List.map_const'] at this;exact this
 have fin:∀ (s':S) (a':Act) (w':World),(∃ g,jf5 c e k g fn.results.toList post s')->Inv [] ⟨w,(blk y).toList⟩ C β s' a' w'->_:=fun s' a' w' ⟨g,hr⟩ hi=>jcQ (w:=w) (C:=C) (β:=β) (s':=s') (a':=a') (w':=w') (fn:=fn) (post:=post) (y:=y) hc (by rw[<- h4,hn]) hr hi
 intro e1 s' a' w' hq hi
 cases e1 with
 | normal=>obtain⟨k1,v,k2,k3⟩ := fin s' a' w' hq hi;exact⟨k1,v,k2,.inl k3⟩
 | ret=>obtain⟨k1,v,k2,k3⟩ := fin s' a' w' hq hi;exact⟨k1,v,k2,.inl k3⟩
 | _=>exact hq.elim
theorem jas {f:Nat} {fn:Func} {x:Code} {ins:List (List A)} {e k n:Nat} {cs args:List A} {post:List (List A)->Nat->List A->A->Prop} {pn:List PanicEntry->Prop} (hc:c.ok) (hq:∀ ch s,c.pan ch s->pn ch) (hf:c.P.funcs[f]? = some fn) (hb:fn.body=some x) (hname:(fn.name == "runtime.NumGoroutine")=false)
  (hn:ins.length=c.np) (hord:kI c.ord x=true) (h:nA args->yY args (fn.ntmps-args.length) fun t=>r5 c x ⟨t,ins,[.live e k n cs]⟩ (jms c e k fn.results.toList post)):iV c.P f ins e k n cs args post pn :=
 jfj hc hq hf hb hname hn fun ho=>initK_iff.2 (kL hc hord (initK_iff.1 (h ho)))
end
section
variable {P:Program} {pan:List PanicEntry->S->Prop} {Xr:Nat->Bool} {f:Nat} {args args':List A} {s:S} {K:A->S->Prop} {post:List (List A)->Nat->List A->A->Prop} {ins:List (List A)}
theorem qX (i g m:Nat) (ids:List Nat) (hm:s.rw.length=m) {e k n:Nat} {cs c0 c1:List A} {pn:List PanicEntry->Prop} (hf:Xr 1000000007=true) (hX:Xr i=true) (hi:s.bx[i]? = some c0) (hg:(jC s.rw ids)[g]? = some (.live e k n cs)) (h1:z8 [i] g (jC s.rw ids) c0=some c1) (h2:z8 [i] g (jC s.rw ids) args=some args') (hs:nA args'->iV P f [c1] e k n cs args' post pn)
  (hpn:∀ ch bx',pn ch->bx'.length=s.bx.length->(∀ j,j ≠ i->bx'[j]? = s.bx[j]?)->pan ch ⟨s.t,bx',(jC s.rw ids).set g .gone++[.live e k 0 []]⟩)
  (hk:∀ o n' cs' r,post [o] n' cs' r->eC [i] m s.bx [i] [o] fun bx' => zO (backG [i] m r) fun r' => j7 ((jC s.rw ids).set g .gone++[.live e k n' cs']) fun rw' => kZ s bx' rw' (K r')):kV P pan Xr f args s K:=by
 subst hm;unfold kV
 right;right;right;right;left
 have hil:=(List.getElem?_eq_some_iff.1 hi).1
 refine⟨hf,[i],ids,g,e,k,n,cs,[c1],args',post,pn,by simp,by simpa using hX,by simpa using hil,hg,?_,h2,hs,fun outs n' cs' r hp hl => ?_,fun ch bx' h h1 h2=>hpn ch bx' h h1 fun j hj=>h2 j (by simpa using hj)⟩
 ·have:s.bx.getD i []=c0:=by simp[List.getD_eq_getElem?_getD,hi]
  simp only[List.map_cons,List.map_nil,this,aM,h1]
 ·obtain⟨o,rfl⟩ : ∃ o,outs=[o]:=List.length_eq_one_iff.1 (by simpa using hl)
  exact hk o n' cs' r hp
theorem tI (i g m:Nat) (ids:List Nat) (hm:s.rw.length=m) {e k n:Nat} {cs c0 c1:List A} (hf:Xr 1000000007=true) (hX:Xr i=true) (hi:s.bx[i]? = some c0) (hg:(jC s.rw ids)[g]? = some (.live e k n cs)) (h1:z8 [i] g (jC s.rw ids) c0=some c1) (h2:z8 [i] g (jC s.rw ids) args=some args') (hs:nA args'->mG P f [c1] e k n cs args' post)
  (hk:∀ o n' cs' r,post [o] n' cs' r->eC [i] m s.bx [i] [o] fun bx' => zO (backG [i] m r) fun r' => j7 ((jC s.rw ids).set g .gone++[.live e k n' cs']) fun rw' => kZ s bx' rw' (K r')):kV P pan Xr f args s K :=
 qX i g m ids hm hf hX hi hg h1 h2 hs (fun _ _ h=>h.elim) hk
end
mutual
def gV (sel:List Nat):A->A
 | .own g=>match idx sel g with
  | some j => .own j
  | none => .dead
 | .orow g o=>match idx sel g with
  | some j => .orow j o
  | none => .dead
 | .clo f l => .clo f (iA sel l)
 | .bm f l => .bm f (iA sel l)
 | .agg l => .agg (iA sel l)
 | .tup l => .tup (iA sel l)
 | .box b o => .box b o
 | .mp ks vs => .mp ks vs
 | .gp g o => .gp g o
 | .adr T => .adr T
 | .err => .err
 | .num => .num
 | .dead => .dead
 | .v x => .v x
 | .sl k n cs => .sl k n cs
 | .pp cs => .pp cs
def iA (sel:List Nat):List A->List A
 | []=>[]
 | a :: r=>gV sel a :: iA sel r
end
theorem eQ (sel:List Nat):∀ l:List A,iA sel l=l.map (gV sel)
 | []=>by simp[iA]
 | a :: r=>by unfold iA;rw[eQ sel r];rfl
section
variable {E:Env} {sel:List Nat} {ρ':List Value}
mutual
theorem jlo (hs:∀ j g:Nat,sel[j]? = some g->ρ'[j]? = E.ρ[g]?):∀ (a:A) {y:Value},a.rep E y->(gV sel a).rep ⟨E.C,E.β,ρ'⟩ y
 | .dead,y,_=>by unfold gV;exact A.rep_dead _ _
 | .v x,y,h=>by unfold gV;unfold A.rep at h ⊢;exact h
 | .sl k n cs,y,h=>by unfold gV;unfold A.rep at h ⊢;exact h
 | .pp cs,y,h=>by unfold gV;unfold A.rep at h ⊢;exact h
 | .own g,y,h=>by
  unfold gV
  split
  ·rename_i j hj
   unfold A.rep at h ⊢;exact (hs j g (cB hj)).trans h
  ·exact A.rep_dead _ _
 | .orow g o,y,h=>by
  unfold gV
  split
  ·rename_i j hj
   unfold A.rep at h ⊢
   obtain⟨b,n,cap,h1,h2⟩ := h
   exact⟨b,n,cap,(hs j g (cB hj)).trans h1,h2⟩
  ·exact A.rep_dead _ _
 | .box j off,y,h=>by unfold gV;unfold A.rep at h ⊢;exact h
 | .gp _ _,y,h=>by unfold gV;unfold A.rep at h ⊢;exact h
 | .adr _,y,h=>by unfold A.rep at h;exact h.elim
 | .err,y,h=>by unfold gV;unfold A.rep at h ⊢;exact h
 | .num,y,h=>by unfold gV;unfold A.rep at h ⊢;exact h
 | .clo f l,y,h=>by
  unfold gV;unfold A.rep at h ⊢
  obtain⟨us,h1,h2⟩ := h
  exact⟨us,h1,nS hs l h2⟩
 | .bm f l,y,h=>by
  unfold gV;unfold A.rep at h ⊢
  obtain⟨us,h1,h2⟩ := h
  exact⟨us,h1,nS hs l h2⟩
 | .mp ks vs,y,h=>by unfold gV;unfold A.rep at h ⊢;exact h
 | .agg l,y,h=>by
  unfold gV;unfold A.rep at h ⊢
  obtain⟨us,h1,h2⟩ := h
  exact⟨us,h1,A.repC_mk (nS hs l (A.repC_L h2)) (A.repC_one h2)⟩
 | .tup l,y,h=>by
  unfold gV;unfold A.rep at h ⊢
  obtain⟨us,h1,h2⟩ := h
  exact⟨us,h1,nS hs l h2⟩
theorem nS (hs:∀ j g:Nat,sel[j]? = some g->ρ'[j]? = E.ρ[g]?):∀ (l:List A) {us:List Value},A.repL l E us->A.repL (iA sel l) ⟨E.C,E.β,ρ'⟩ us
 | [],us,h=>by unfold iA;unfold A.repL at h ⊢;exact h
 | a :: r,us,h=>by
  unfold iA;unfold A.repL at h ⊢
  obtain⟨u,us',h1,h2,h3⟩ := h
  exact⟨u,us',h1,jlo hs a h2,nS hs r h3⟩
end
end
def ja0:List Nat->Bool
 | []=>true
 | x :: r=>match lI x r with | true=>false | false=>ja0 r
theorem ja1:∀ {l:List Nat},ja0 l=true->l.Nodup
 | [],_=>List.nodup_nil
 | x :: r,h=>by
  unfold ja0 at h
  split at h
  ·cases h
  ·rename_i hm
   refine List.nodup_cons.2 ⟨fun hx => ?_,ja1 h⟩;rw[memB_iff.2 hx] at hm;cases hm
theorem jp6 {np:Nat} {s:S} (sel:List Nat) (hn:ja0 sel=true) (hl:rA sel s.rw.length=true):Le np s ⟨iA sel s.t,s.bx.map (iA sel),sel.map fun g=>s.rw.getD g .gone⟩ := by
 rintro dr w0 C0 β0 a w hdr e ⟨E,hp,hrep,hd⟩
 have hlt:=jbg hl
 have hnd:=ja1 hn
 have r1:=hp.rl
 have hs:∀ j g:Nat,sel[j]? = some g->(sel.map fun g=>E.ρ.getD g undef)[j]? = E.ρ[g]? := fun j g h=>by
  have hg:g<E.ρ.length:=by rw[<- r1];exact hlt g (List.mem_iff_getElem?.2 ⟨j,h⟩)
  simp[h,List.getD_eq_getElem?_getD,hg]
 have row:∀ {j:Nat} {r:Row},(sel.map fun g=>s.rw.getD g .gone)[j]? = some r -> ∃ g,sel[j]? = some g/\s.rw[g]? = some r:=fun {j r} h=>by
  rw[List.getElem?_map,Option.map_eq_some_iff] at h
  obtain⟨g,h1,h2⟩ := h
  have hg:=hlt g (List.mem_iff_getElem?.2 ⟨j,h1⟩)
  exact⟨g,h1,by rw[<- h2];simp[List.getD_eq_getElem?_getD,hg]⟩
 have val:∀ {j:Nat} {y:Value},(sel.map fun g=>E.ρ.getD g undef)[j]? = some y -> ∃ g,sel[j]? = some g/\E.ρ[g]? = some y:=fun {j y} h=>by
  have h0:=h
  rw[List.getElem?_map,Option.map_eq_some_iff] at h
  obtain⟨g,h1,h2⟩ := h
  exact⟨g,h1,by rw[<- hs j g h1];exact h0⟩
 refine⟨⟨E.C,E.β,sel.map fun g=>E.ρ.getD g undef⟩,⟨hp.sub,hp.base,hp.fresh,hp.bp,hp.bnd,hp.bC,by simpa using hp.bl,fun i b cs h1 h2 => ?_,by simp,fun j r y h1 h2 => ?_,fun j e k n cs y b h1 h2 h3 => ?_,fun j e k n cs y j' e' k' n' cs' z b hne h1 h2 h3 h4 h5 => ?_,fun j y h1 => ?_,hp.keep,hp.gk⟩,nS hs _ hrep,repD.keep (E:=E) (F:=⟨E.C,E.β,sel.map fun g=>E.ρ.getD g undef⟩) (Sub.refl _) (fun _ _ h=>h) hdr hd⟩
 ·rw[List.getElem?_map,Option.map_eq_some_iff] at h2
  obtain⟨c0,h2,rfl⟩ := h2
  obtain⟨T',arr,h3,h4⟩ := hp.bxs i b c0 h1 h2
  rw[eQ];refine⟨T',arr,h3,h4.map (gV sel) (fun l us k=>by rw[<- eQ];exact nS hs l k) (by unfold gV;rfl) (fun t=>by unfold gV;rfl) fun a t e => ?_⟩
  cases a <;> unfold gV at e <;> (try split at e) <;> first | (cases e;done) | (cases e;rfl)
 ·obtain⟨g,k1,k2⟩ := row h1
  obtain⟨g',k3,k4⟩ := val h2
  obtain rfl:=Option.some.inj (k1.symm.trans k3)
  have:=hp.rws g r y k2 k4
  cases r with
  | live e k n cs=>exact this
  | pub k n cs =>
   have h5:(A.sl k n cs).rep _ y:=this
   show (A.sl k n cs).rep _ y
   unfold A.rep at h5 ⊢;exact h5
  | gone=>trivial
 ·obtain⟨g,k1,k2⟩ := row h1
  obtain⟨g',k3,k4⟩ := val h2
  obtain rfl:=Option.some.inj (k1.symm.trans k3)
  exact hp.rC g e k n cs y b k2 k4 h3
 ·obtain⟨g,k1,k2⟩ := row h1
  obtain⟨g',k3,k4⟩ := val h2
  obtain rfl:=Option.some.inj (k1.symm.trans k3)
  obtain⟨x,q1,q2⟩ := row h3
  obtain⟨x',q3,q4⟩ := val h4
  obtain rfl:=Option.some.inj (q1.symm.trans q3)
  exact hp.rd g e k n cs y x e' k' n' cs' z b (fun e9=>hne (by subst e9;exact jbS hnd k1 q1)) k2 k4 q2 q4 h5
 ·obtain⟨g,k1,k2⟩ := val h1
  exact hp.rs g y k2
def jfc (sel:List Nat):List (List A)->(List (List A)->Prop)->Prop
 | [],K=>K []
 | c :: l,K=>gS (gV sel) c fun c' => jfc sel l fun r=>K (c' :: r)
theorem jc8 {sel:List Nat} : ∀ {l:List (List A)} {K:List (List A)->Prop},jfc sel l K ↔ K (l.map (iA sel))
 | [],K=>by simp[jfc]
 | c :: l,K=>by simp[jfc,qI,jc8 (l:=l),eQ]
def jrn (sel:List Nat) (rw:List Row):List Row:=sel.map fun g=>rw.getD g .gone
def jjp (sel:List Nat) (t:List A) (bx:List (List A)) (rw:List Row) (K:S->Prop):Prop :=
 match ja0 sel with
 | true=>match rA sel rw.length with
  | true=>gS (gV sel) t fun t' => jfc sel bx fun bx' => j7 (jrn sel rw) fun rw' => K ⟨t',bx',rw'⟩
  | false=>False
 | false=>False
theorem jfb {sel:List Nat} {t:List A} {bx:List (List A)} {rw:List Row} {K:S->Prop} (h:jjp sel t bx rw K):∃ s',(∀ np,Le np ⟨t,bx,rw⟩ s')/\K s':=by
 unfold jjp at h
 split at h
 ·rename_i h1
  split at h
  ·rename_i h2
   rw[qI,jc8,qY] at h;refine⟨_,fun np=>jp6 (s:=⟨t,bx,rw⟩) sel h1 h2,?_⟩
   show K ⟨iA sel t,bx.map (iA sel),jrn sel rw⟩
   rw[eQ];exact h
  ·exact h.elim
 ·exact h.elim
theorem oE {np:Nat} {f:S->(Exit->S->Prop)->Prop} {t:List A} {bx:List (List A)} {rw:List Row} {Q:Exit->S->Prop} (sel:List Nat) (h:jjp sel t bx rw fun s' => vU np f s' Q):vU np f ⟨t,bx,rw⟩ Q:=by
 obtain⟨s',h1,h2⟩ := jfb h
 exact jhC (h1 _) h2
theorem jU {X:Type} {np:Nat} {t t0:List A} {bx:List (List A)} {rw:List Row} {g:X->List (Nat × A)} {hb:X->List (List A)} {hr:X->List Row} {x:X} (sel:List Nat) (h:jjp sel t bx rw fun s' => uK t0 g hb hr x fun s2=>LeS np s' s2):Le np ⟨t,bx,rw⟩ (iF t0 g hb hr x):=by
 obtain⟨s',h1,h2⟩ := jfb h
 exact (h1 np).trans (iJ (headK_iff.1 h2))
theorem Hp.pubMap {w0:W0} {w:World} {C0:Rd} {β0:List Nat} {s:S} {E:Env} (h:Hp w0 C0 β0 s.bx s.rw w E) {g e n f f':Nat} {kA vs:List A} {ks:List Value} (hg:s.rw[g]? = some (.live e 0 n [.clo f kA,.clo f' vs])) (hk:∀ us,A.repL kA E.per us->us=ks /\ ∀ k ∈ ks,dG k) :
  ∃ C' y,E.ρ[g]? = some y/\Hp w0 C0 β0 s.bx (s.rw.set g .gone) w ⟨C',E.β,E.ρ⟩ /\ E.le ⟨C',E.β,E.ρ⟩ /\ (A.mp ks vs).rep ⟨C',E.β,E.ρ⟩ y:=by
 have hgl:=(List.getElem?_eq_some_iff.1 hg).1
 obtain⟨y,hy⟩ : ∃ y,E.ρ[g]? = some y:=⟨_,List.getElem?_eq_getElem (by rw[<- h.rl];exact hgl)⟩
 obtain⟨r,es,c,us,e1,hr,hn,hst,h2,hks,hvs⟩ := sL h hg hy
 obtain⟨hks,hok⟩ := hk _ hks
 have hb:blk y=some r:=by rw[e1];rfl
 obtain⟨hrn,hrC⟩ := h.rC g e 0 n _ y r hg hy hb
 refine⟨fun ad=>if ad.block=r then (kJ w) ad else E.C ad,y,hy,?_⟩
 have hC:Sub E.C (fun ad=>if ad.block=r then (kJ w) ad else E.C ad):=fun ad u hc=>by
  simp only
  split
  ·exact h.sub ad u hc
  ·exact hc
 have le:E.le ⟨fun ad=>if ad.block=r then (kJ w) ad else E.C ad,E.β,E.ρ⟩ := ⟨hC,fun _ _ h=>h,fun _ _ h=>h⟩
 have live:∀ {j e k n:Nat} {cs:List A},(s.rw.set g .gone)[j]? = some (.live e k n cs)->s.rw[j]? = some (.live e k n cs)/\j ≠ g:=fun {j e k n cs} hj=>by
  rw[List.getElem?_set] at hj
  split at hj
  ·cases hj
  ·rename_i hne;exact⟨hj,fun e=>hne e.symm⟩
 refine⟨⟨fun ad u hc => ?_,h.base.trans hC,fun ad u hc => ?_,h.bp,h.bnd,fun b hb' o sp => ?_,h.bl,fun i b cs' h1 h2=>(h.bxs i b cs' h1 h2).mono le,by simp[h.rl],fun j r' z h1 h2 => ?_,fun j e' k' n' cs' z b h1 h2 h3 => ?_,fun j e1' k1 n1 cs1 z j' e2 k2 n2 cs2 z' b hne h1 h2 h3 h4 h5=>h.rd j e1' k1 n1 cs1 z j' e2 k2 n2 cs2 z' b hne (live h1).1 h2 (live h3).1 h4 h5,h.rs,h.keep,h.gk⟩,le,?_⟩
 ·simp only at hc
  split at hc
  ·exact hc
  ·exact h.sub ad u hc
 ·simp only at hc
  split at hc
  ·rename_i hb2
   right
   have:=(h.rlt hg hy hb).1
   rw[hb2];exact this
  ·exact h.fresh ad u hc
 ·simp only
  rw[if_neg (fun hb2:b=r=>hrn (by rw[<- hb2];exact hb'))];exact h.bC b hb' o sp
 ·rw[List.getElem?_set] at h1
  split at h1
  ·cases h1;trivial
  ·exact (h.rws j r' z h1 h2).mono le (fun _ _ _ _ _ _ _=>rfl)
 ·obtain⟨h4,h5⟩ := live h1
  obtain⟨q1,q2⟩ := h.rC j e' k' n' cs' z b h4 h2 h3
  refine⟨q1,fun o sp => ?_⟩
  simp only
  rw[if_neg (fun hb2:b=r=>h.rd g e 0 n _ y j e' k' n' cs' z r (Ne.symm h5) hg hy h4 h2 hb (by rw[<- hb2];exact h3))];exact q2 o sp
 ·unfold A.rep;refine⟨r,us,e1,?_,?_,A.repL.mono _ le.per hvs,hok⟩
  ·simp only[if_true];unfold kJ aN;simp only[hr];rw[if_pos hst]
   have q1:es.map (·.key)=ks.toArray:=by
    apply Array.toList_inj.1
    rw[<- hks];simp
   have q2:es.map (·.val)=us.toArray:=by
    apply Array.toList_inj.1
    rw[<- h2];simp
   rw[q1,q2]
  ·rw[A.repL_len hvs |>.symm,<- h2,<- hks];simp
def jfp (g:Nat) (m:A) (a:A):A:=match a with
 | .own j=>match Nat.beq j g with
  | true=>m
  | false => .own j
 | a=>a
def jav (g:Nat) (m:A):List (List A)->(List (List A)->Prop)->Prop
 | [],K=>K []
 | c :: l,K=>gS (jfp g m) c fun c' => jav g m l fun r=>K (c' :: r)
theorem jaw {g:Nat} {m:A} : ∀ {l:List (List A)} {K:List (List A)->Prop},jav g m l K ↔ K (l.map fun c=>c.map (jfp g m))
 | [],K=>by simp[jav]
 | c :: l,K=>by simp[jav,qI,jaw (l:=l)]
theorem jlD {E:Env} {g:Nat} {m a:A} {y v:Value} (hg:E.ρ[g]? = some v) (hm:m.rep E v) (h:a.rep E y):(jfp g m a).rep E y:=by
 cases a with
 | own j =>
  unfold jfp
  simp only
  split
  ·rename_i hb
   have:=Nat.eq_of_beq_eq_true hb
   subst this;unfold A.rep at h;rw[hg] at h
   cases h;exact hm
  ·exact h
 | _=>exact h
theorem pX {E:Env} {g:Nat} {m:A} {v:Value} (hg:E.ρ[g]? = some v) (hm:m.rep E v):∀ {l:List A} {us:List Value},A.repL l E us->A.repL (l.map (jfp g m)) E us
 | [],us,h=>by simpa using h
 | a :: r,us,h=>by
  unfold A.repL at h
  obtain⟨u,us',rfl,h2,h3⟩ := h
  simp only[List.map_cons];unfold A.repL;exact⟨u,us',rfl,jlD hg hm h2,pX hg hm h3⟩
theorem pG:∀ {l:List A} {K:List Value->Prop},iH l K -> ∃ ks,K ks /\ ∀ (E:Env) us,A.repL l E us->us=ks /\ ∀ k ∈ ks,dG k
 | [],K,h=>⟨[],h,fun E us hr=>by unfold A.repL at hr;exact⟨hr,by simp⟩⟩
 | a :: l,K,h=>by
  unfold iH at h
  split at h
  ·rename_i x
   obtain⟨ks,h1,h2⟩ := pG h
   refine⟨x :: ks,h1,fun E us hr => ?_⟩;unfold A.repL at hr
   obtain⟨u,us',rfl,h3,h4⟩ := hr
   obtain⟨rfl,h5⟩ := h2 E _ h4
   obtain⟨rfl,h6⟩ := A.rep_v_iff.1 h3
   refine⟨rfl,fun k hk => ?_⟩
   rcases List.mem_cons.1 hk with rfl | hk
   ·exact h6
   ·exact h5 k hk
  ·exact h.elim
def jnP (g:Nat) (rw:List Row) (K:A->List Row->Prop):Prop :=
 match rw[g]? with
 | some (.live _ z _ cs)=>match z with
  | 0=>match cs with
   | [.clo _ kA,.clo _ vs]=>iH kA fun ks=>bU rw g .gone fun rw' => K (.mp ks vs) rw'
   | _=>False
  | _+1=>False
 | _=>False
theorem jhM {c:Cx} {x:Code} {t:List A} {bx:List (List A)} {rw:List Row} {q:Exit->S->Prop} (g:Nat)
  (h:jnP g rw fun m rw' => gS (jfp g m) t fun t' => jav g m bx fun bx' => Ok c x ⟨t',bx',rw'⟩ q):Ok c x ⟨t,bx,rw⟩ q:=by
 unfold jnP at h
 split at h
 ·rename_i e z n cs hg
  split at h
  ·split at h
   ·rename_i f kA f' vs
    obtain⟨ks,h,hks⟩ := pG h
    obtain⟨-,h⟩ := zJ h
    rw[qI,jaw] at h;refine jkG ?_ h;rintro dr w0 C0 β0 a w hdr _ ⟨E,hp,hrep,hd⟩
    obtain⟨C',y,hy,hp',le,hm⟩ := hp.pubMap (s:=⟨t,bx,rw⟩) (ks:=ks) hg (hks E.per)
    refine⟨⟨C',E.β,E.ρ⟩,?_,pX (E:=⟨C',E.β,E.ρ⟩) hy hm (A.repL.mono _ le hrep),hd.mono le⟩;refine⟨hp'.sub,hp'.base,hp'.fresh,hp'.bp,hp'.bnd,hp'.bC,by simpa using hp'.bl,fun i b cs h1 h2 => ?_,hp'.rl,hp'.rws,hp'.rC,hp'.rd,hp'.rs,hp'.keep,hp'.gk⟩;rw[List.getElem?_map,Option.map_eq_some_iff] at h2
    obtain⟨c0,h2,rfl⟩ := h2
    obtain⟨T',arr,h3,h4⟩ := hp'.bxs i b c0 h1 h2
    refine⟨T',arr,h3,h4.map (jfp g (.mp ks vs)) (fun l us k=>pX (E:=⟨C',E.β,E.ρ⟩) hy hm k) rfl (fun t=>rfl) fun a t e => ?_⟩;unfold jfp at e
    split at e
    ·split at e <;> cases e
    ·exact e
   ·exact h.elim
  ·exact h.elim
 ·exact h.elim
theorem kB {P:Program} {pan:List PanicEntry->S->Prop} {Xr:Nat->Bool} {f:Nat} {args args0:List A} {s:S} {K:A->S->Prop} {post:List (List A)->Nat->List A->A->Prop} (i g m:Nat) (ids:List Nat) {e k n:Nat} {cs c1:List A} (hs:mG P f [c1] e k n cs args0 post) (hk:∀ o n1 cs1 r,post [o] n1 cs1 r->eC [i] m s.bx [i] [o] fun bx1=>zO (backG [i] m r) fun r1=>j7 ((jC s.rw ids).set g .gone++[.live e k n1 cs1]) fun rw1=>kZ s bx1 rw1 (K r1)) (hm:s.rw.length=m:=by rfl) (hf:Xr 1000000007=true:=by rfl) (hX:Xr i=true:=by rfl) (hg:(jC s.rw ids)[g]? = some (.live e k n cs):=by rfl) (h1:(s.bx[i]?.bind fun c=>z8 [i] g (jC s.rw ids) c)=some c1:=by rfl) (h2:z8 [i] g (jC s.rw ids) args=some args0:=by rfl):kV P pan Xr f args s K:=by
 obtain⟨c0,hi,h1⟩ := vqb h1
 exact tI i g m ids hm hf hX hi hg h1 h2 (fun _=>hs) hk
end
theorem oZ {f:Nat} {fn:Func} {x:Code} {ins:List (List A)} {e k n:Nat} {cs args:List A} {post:List (List A)->Nat->List A->A->Prop} (o:Nat->Tr) (xs:Nat->List Nat) (np:Nat) (hf:Tryz.prog.funcs[f]? = some fn) (hb:fn.body=some x) (h:nA args->yY args (fn.ntmps-args.length) fun t=>r5 ⟨Tryz.prog,tab,o,xs,np,fun _ _=>False⟩ x ⟨t,ins,[.live e k n cs]⟩ (jms ⟨Tryz.prog,tab,o,xs,np,fun _ _=>False⟩ e k fn.results.toList post)) (h1:(fn.name == "runtime.NumGoroutine")=false:=by kernel_rfl) (h2:ins.length=np:=by rfl) (h3:kI o x=true:=by kernel_rfl):mG Tryz.prog f ins e k n cs args post:=jas (jF o xs np) (fun _ _ h=>h) hf hb h1 h2 h3 h
theorem jN (j:Nat) {K:Prop} (h:(j:Int)+1<=9223372036854775807) (k:K):(lo .i64<=(j:Int)+1/\(j:Int)+1<=hi .i64)/\K:=⟨jS ⟨by omega,h⟩,k⟩
theorem jqK {d:Prop} {i:Decidable d} {p q:Unit->Prop} (h:Tab.get.match_1 (fun _=>Prop) (@decide d i) p q):Tab.get.match_1 (fun _=>Prop) (@decide d i) p q:=h
theorem jqL {d:Prop} {i:Decidable d} {p q:Unit->Prop} (h:Tab.get.match_1 (fun _=>Prop) (!@decide d i) p q):Tab.get.match_1 (fun _=>Prop) (!@decide d i) p q:=h
theorem jqM {d:Prop} {i:Decidable d} {b:Bool} {p q:Unit->Prop} (h:Tab.get.match_1 (fun _=>Prop) (@decide d i && b) p q):Tab.get.match_1 (fun _=>Prop) (@decide d i && b) p q:=h
theorem jqN {d:Prop} {i:Decidable d} {b:Bool} {p q:Unit->Prop} (h:Tab.get.match_1 (fun _=>Prop) (!(@decide d i && b)) p q):Tab.get.match_1 (fun _=>Prop) (!(@decide d i && b)) p q:=h
theorem jqO {d:Prop} {i:Decidable d} {b:Bool} {p q:Unit->Prop} (h:Tab.get.match_1 (fun _=>Prop) (@decide d i == b) p q):Tab.get.match_1 (fun _=>Prop) (@decide d i == b) p q:=h
theorem jqP {d:Prop} {i:Decidable d} {b:Bool} {p q:Unit->Prop} (h:Tab.get.match_1 (fun _=>Prop) (!(@decide d i == b)) p q):Tab.get.match_1 (fun _=>Prop) (!(@decide d i == b)) p q:=h
theorem jqQ {b c:Bool} {p q:Unit->Prop} (h:Tab.get.match_1 (fun _=>Prop) (!(b && c)) p q):Tab.get.match_1 (fun _=>Prop) (!(b && c)) p q:=h
theorem jqR {b c:Bool} {p q:Unit->Prop} (h:Tab.get.match_1 (fun _=>Prop) (b && c) p q):Tab.get.match_1 (fun _=>Prop) (b && c) p q:=h
theorem joY {c:Bool} {p q:Prop} (h:ifK c p q):ifK c p q:=h
theorem jku {n:Nat} (h:n<=100000000000000):n<=maxLen:=by unfold maxLen;omega
theorem jrH {α:Sort _} {x y:α} (h:x=y):x=y:=h
structure Tag (q:Prop):Prop where
 t:True
structure jqf (q:Prop):Prop where
 un:q
theorem uI {p q:Prop} (hq:q) (k:jqf q->p:=by intro hq;(repeat (first | ((with_reducible refine And.intro ?_ ?_);(focus (first | omega | (with_reducible refine jS ?_;(first | omega | (simp only[List.length_append,List.length_cons,List.length_nil,List.length_map,ByteArray.size_append];omega) | (dsimp only;omega))) | (with_reducible refine jku ?_;(first | omega | (simp only[List.length_append,List.length_cons,List.length_nil,List.length_map,ByteArray.size_append];omega) | (dsimp only;omega))) | ((fail_if_success (with_reducible refine jku ?_));decide) | (simp only[List.length_append,List.length_cons,List.length_nil,List.length_map,ByteArray.size_append];omega) | (dsimp only;omega) | ((with_reducible refine jS ?_);dsimp only;omega)));(conv=>whnf)) | ((first | with_reducible refine jqK ?_ | with_reducible refine jqL ?_ | with_reducible refine jqM ?_ | with_reducible refine jqN ?_ | with_reducible refine jqO ?_ | with_reducible refine jqP ?_ | with_reducible refine jqQ ?_ | with_reducible refine jqR ?_ | with_reducible refine joY ?_);first | ((focus (rw[qH];rotate_left;focus (first | (first | omega | (simp only[List.length_append,List.length_cons,List.length_nil,List.length_map,ByteArray.size_append];omega) | (dsimp only;omega)) | ((with_reducible refine jrH ?_);rfl))));(first | with_reducible refine kE rfl ?_ | with_reducible refine qP rfl ?_ | skip);(conv=>whnf)) | ((focus (rw[j8];rotate_left;focus (first | (first | omega | (simp only[List.length_append,List.length_cons,List.length_nil,List.length_map,ByteArray.size_append];omega) | (dsimp only;omega)) | (intro h;cases h;done))));(first | with_reducible refine kE rfl ?_ | with_reducible refine qP rfl ?_ | skip);(conv=>whnf)))));all_goals exact hq.un) (d:Tag q:=by first | exact (Tag.mk trivial:Tag True) | exact Tag.mk trivial):p:=k ⟨hq⟩
end Go.Proofs.YtgifglkkmhapiaaGreatDoor.Vm
namespace Go.Proofs.YtgifglkkmhapiaaGreatDoor.Vm
open Go.RowKit Go.Shelf
theorem nV:Tryz.prog.underlying 47=some (.pointer 50):=by kernel_rfl
theorem cX:Tryz.prog.underlying 130=some .unsafePointer:=by kernel_rfl
theorem m7:∃ j,Tryz.prog.info? 50=some j/\j.size=2:=by
 have h:(Tryz.prog.info? 50).map (·.size)=some 2:=by kernel_rfl
 obtain⟨j,h1,h2⟩ := Option.map_eq_some_iff.1 h
 exact⟨j,h1,h2⟩
theorem tP (b:Nat) (w:World) (h0:w.cell? ⟨b,0,none⟩ = some (.pointer (some ⟨b,0,none⟩))) :
  Calls Tryz.prog 50 #[.pointer (some ⟨b,0,none⟩)] w fun e w' => e = .returned (.tuple #[])/\w'=w:=by
 obtain⟨j,hj,hjs⟩ := m7
 have u1:=run_underlying (P:=Tryz.prog) nV
 go_enter Tryz.func50,Tryz.ntmps50
 go_wp2
 rw[Lib.run_neq_ptr_same w _ nV hj]
 go_wp2
 go_end0
 exact⟨rfl,rfl⟩
theorem r6 (b T:Nat) (w:World) (h0:w.cell? ⟨b,0,none⟩ = some (.pointer none)) (hsh:w.shape? b=some (T,2)) (hfz:w.frozen? ⟨b,0,none⟩ = false) (hl:liesAt Tryz.prog Tryz.prog.depth T (2 / Tryz.prog.cellsOf T) 0 50 1=true) :
  Calls Tryz.prog 50 #[.pointer (some ⟨b,0,none⟩)] w fun e w' => e = .returned (.tuple #[])/\w'=w.setCell ⟨b,0,none⟩ (.pointer (some ⟨b,0,none⟩)):=by
 obtain⟨j,hj,hjs⟩ := m7
 have u1:=run_underlying (P:=Tryz.prog) nV
 have u2:=run_underlying (P:=Tryz.prog) cX
 go_enter Tryz.func50,Tryz.ntmps50
 go_wp2
 rw[Lib.run_to_unsafe w ⟨b,0,none⟩ nV cX hj (by rw[hjs];decide) hsh (Nat.zero_lt_succ 1)];simp only[Result.andThen];rw[Oper.upon_value]
 go_wp2
 rw[run_callFunc_extern Tryz.func76 (by kernel_rfl) (by kernel_rfl) (by kernel_rfl) (e:=Extern.AbiNoEscape.same) (by kernel_rfl)];rw[Lib.run_noEscape];simp only[Result.andThen];rw[Oper.upon_value]
 go_wp2
 rw[Lib.run_from_unsafe w ⟨b,0,none⟩ cX nV hj hsh hl];simp only[Result.andThen];rw[Oper.upon_value]
 go_wp2
 go_end0
 exact⟨rfl,rfl⟩
theorem dR (T e k n:Nat) (cs:List A) (hl:liesAt Tryz.prog Tryz.prog.depth T (2 / Tryz.prog.cellsOf T) 0 50 1=true):mG Tryz.prog 50 [[.adr T,.own 0]] e k n cs [.box 0 0] fun o n' cs' r=>o=[[.adr T,.own 0]]/\n'=n/\cs'=cs/\r = .tup []:=by
 refine⟨nH Tryz.func50 rfl (by kernel_rfl),fun w C β vals y xs h0 h1 h2 h3 h4 h5 h6 h7 h8 h9 => ?_⟩
 obtain⟨b,rfl⟩ : ∃ b,β=[b]:=List.length_eq_one_iff.1 h4.symm
 unfold A.repL at h9
 obtain⟨u,us,rfl,hu,h9⟩ := h9
 unfold A.repL at h9;subst h9;unfold A.rep at hu
 obtain⟨b',hb',rfl⟩ := hu
 have:b'=b:=by simpa using hb'.symm
 subst this
 obtain⟨T',arr,hh,hbc⟩ := h5 0 b' _ rfl rfl
 obtain⟨rfl,hadr⟩ := hbc.2 T _ rfl
 have hlen:arr.size=2:=by have:=hbc.len;simpa using this
 have hrow:∀ w':World,(∀ q,q ≠ b'->w'.heap[q]? = w.heap[q]?)->owR w' e k y n xs:=fun w' hw=>h6.same fun q hq=>hw q fun e9=>(h8 q hq).1 (by simp[e9])
 have hres:(A.tup []).rep ⟨C,[b'],[y]⟩ (.tuple #[]):=by unfold A.rep;exact⟨_,rfl,by simp[A.repL]⟩
 have hbl:∀ q,blk y=some q->(∀ o sp,C ⟨q,o,sp⟩ = none)/\(w.heap.size<=q ∨ blk y=some q):=fun q hq=>⟨(h8 q hq).2,.inr hq⟩
 rcases hadr with hadr | hadr
 ·refine (r6 b' T w (by simp[World.cell?,hh,hadr]) (by unfold World.shape?;rw[hh];simp[hlen]) (by simp[World.frozen?,hh]) hl).mono ?_;rintro e' w' ⟨rfl,rfl⟩
  have kp:=Keeps.set w b' 0 (.pointer (some ⟨b',0,none⟩))
  refine .inl ⟨_,n,cs,.tup [],.tuple #[],y,xs,C,rfl,⟨rfl,rfl,rfl,rfl⟩,⟨kp.os,kp.tape,kp.output,kp.size,fun q hq hn=>kp.block q hq (by simp at hn ⊢;exact hn.1)⟩,Sub.refl _,fun ad v hc=>kp.cell (h1 ad v hc) (fun hm => ?_),fun ad v hc => .inl hc,rfl,fun i q ds hq hds => ?_,hrow _ fun q hq=>by
   exact Below.heap_setCell _ _ _ _ (by simpa using hq),h7,hbl,hres⟩
  ·simp at hm
   have:C ad=none:=by
    have:=h3 ad.block (by rw[hm];simp) ad.off ad.spot
    exact this
   rw[this] at hc;cases hc
  ·cases i with
   | succ i=>simp at hq
   | zero =>
    simp at hq hds
    subst hq;subst hds;refine⟨T,arr.setIfInBounds 0 (.pointer (some ⟨b',0,none⟩)),cR hh 0 _,?_,fun t r e9 => ?_⟩
    ·have:=A.repC_set hbc.1 0 (a := .dead) (u := .pointer (some ⟨b',0,none⟩)) (A.rep_dead _ _) rfl
     rw[Array.toList_setIfInBounds];exact this
    ·cases e9
     exact⟨rfl,.inr (by simp[hlen])⟩
 ·refine (tP b' w (by simp[World.cell?,hh,hadr])).mono ?_;rintro e' w' ⟨rfl,rfl⟩;exact .inl ⟨_,n,cs,.tup [],.tuple #[],y,xs,C,rfl,⟨rfl,rfl,rfl,rfl⟩,Keeps.refl _ _,Sub.refl _,h1,fun ad v hc => .inl hc,rfl,h5,h6,h7,hbl,hres⟩
abbrev p9 (f:Nat) (ins:List (List A)) (s:ByteArray) (args:List A) (post:List (List A)->ByteArray->A->Prop):Prop :=
 mG Tryz.prog f ins 5 0 s.size [.v (.string s)] args fun o n cs r => ∃ s',n=s'.size/\cs=[.v (.string s')]/\post o s' r
theorem jid (T:Nat) (s:ByteArray):p9 29 [[.adr T,.own 0]] s [.box 0 0] fun o s' r=>o=[[.adr T,.own 0]]/\s'=s/\r = .v (.int .i64 s.size):=by
 refine oZ jH jY 1 Tryz.func29 rfl ?_;intro _;conv=>whnf
 refine⟨0,?_⟩;conv=>whnf
 refine⟨s,?_⟩;conv=>whnf
 exact⟨rfl,rfl,rfl,rfl,rfl⟩
theorem mL (T:Nat) (s:ByteArray) (hs:0<s.size):p9 17 [[.adr T,.own 0]] s [.box 0 0] fun o s' r=>o=[[.adr T,.own 0]]/\s'=s/\r = .v (.string s):=by
 refine oZ jr6 jY 1 Tryz.func17 rfl ?_;intro _;conv=>whnf
 refine⟨hs,?_⟩;conv=>whnf
 refine⟨⟨hs,rfl⟩,?_⟩;conv=>whnf
 refine⟨0,?_⟩;conv=>whnf
 refine⟨s,?_⟩;conv=>whnf
 exact⟨rfl,rfl,rfl,rfl,rfl⟩
theorem gP (T:Nat) (hl:liesAt Tryz.prog Tryz.prog.depth T (2 / Tryz.prog.cellsOf T) 0 50 1=true) (s b:ByteArray) (hs:s.size+b.size<=140737488355328):p9 32 [[.adr T,.own 0]] s [.box 0 0,.v (.string b)] fun o s' r=>o=[[.adr T,.own 0]]/\s'=s++b/\r = .tup [.v (.int .i64 b.size),.v .nilIface]:=by
 have hc:=dR T 5 0 s.size [.v (.string s)] hl
 refine oZ jH jY 1 Tryz.func32 rfl ?_;intro _;conv=>whnf
 refine kB 0 0 1 [] hc ?_;rintro o n' cs' r ⟨ho,rfl,rfl,rfl⟩;cases ho;conv=>whnf
 refine⟨hs,?_⟩;conv=>whnf
 refine⟨2,?_⟩;conv=>whnf
 refine⟨s++b,?_⟩;conv=>whnf
 exact⟨by rw[ByteArray.size_append],rfl,rfl,rfl,rfl⟩
theorem jcJ (T:Nat) (hl:liesAt Tryz.prog Tryz.prog.depth T (2 / Tryz.prog.cellsOf T) 0 50 1=true) (s:ByteArray) (c:Int) (hc0:0<=c/\c<=255) (hs:s.size+1<=140737488355328):p9 31 [[.adr T,.own 0]] s [.box 0 0,.v (.int .u8 c)] fun o s' r=>o=[[.adr T,.own 0]]/\s'=s++jdR c/\r = .v .nilIface:=by
 have hc:=dR T 5 0 s.size [.v (.string s)] hl
 refine oZ jH jY 1 Tryz.func31 rfl ?_;intro _;conv=>whnf
 refine kB 0 0 1 [] hc ?_;rintro o n' cs' r ⟨ho,rfl,rfl,rfl⟩;cases ho;conv=>whnf
 refine⟨hs,?_⟩;conv=>whnf
 refine⟨3,?_⟩;conv=>whnf
 refine⟨s++jdR c,?_⟩;conv=>whnf
 exact⟨by rw[ByteArray.size_append],rfl,rfl,rfl,rfl⟩
end Go.Proofs.YtgifglkkmhapiaaGreatDoor.Vm
namespace Go.Proofs.YtgifglkkmhapiaaGreatDoor.Vm
open Go.RowKit
def isL (c:UInt8):Bool:=decide (97<=(c.toNat:Int)) && decide ((c.toNat:Int)<=122)
def yN (c:UInt8):Bool:=decide (48<=(c.toNat:Int)) && decide ((c.toNat:Int)<=57)
def zE (c:UInt8):Bool:=isL c || yN c
def pF (c:UInt8):Bool:=(decide ((c.toNat:Int)=32) || decide ((c.toNat:Int)=9)) || decide ((c.toNat:Int)=10)
def xF (c:UInt8):Bool := !decide ((c.toNat:Int)=10)
def yE (c:UInt8):Bool:=decide ((c.toNat:Int)=35)
def jI (p:UInt8->Bool):List UInt8->Nat
 | []=>0
 | c :: r=>match p c with | true=>jI p r+1 | false=>0
def gG:Int->List UInt8->Int
 | n,[]=>n
 | n,c :: r=>if 2147483647<10*n+(c.toNat:Int)-48 then -1 else gG (10*n+(c.toNat:Int)-48) r
def bs (l:List UInt8):ByteArray:=⟨l.toArray⟩
def aP:List ByteArray:=[bs [124,124],bs [38,38],bs [60,61],bs [62,61],bs [61,61],bs [33,61]]
def r8:List ByteArray:=[bs [123],bs [125],bs [91],bs [93],bs [40],bs [41],bs [61],bs [59],bs [44],bs [60],bs [62],bs [43],bs [45],bs [42],bs [47],bs [33]]
def kH (l:List ByteArray) (s:ByteArray):Bool:=l.any fun x=>decide (x=s)
inductive T1 where
 | bad (e:Int)
 | tok (kind:Int) (len:Nat) (n:Int)
def j9:List UInt8->T1
 | [] => .bad 10
 | c :: r=>match isL c with
  | true=>if 10<jI zE r+1 then .bad 2 else .tok 1 (jI zE r+1) 0
  | false=>match yN c with
   | true=>if gG 0 (c :: r.take (jI yN r))<0 then .bad 6 else .tok 2 (jI yN r+1) (gG 0 (c :: r.take (jI yN r)))
   | false=>match kH aP (bs ((c :: r).take 2)) with
    | true => .tok 3 2 0
    | false=>match kH r8 (bs [c]) with
     | true => .tok 3 1 0
     | false => .bad 10
structure Tk where
 kind:Int
 pos:Nat
 text:ByteArray
 n:Int
structure Lx where
 toks:List Tk
 err:Option (Nat × Int)
def Lx.cons (t:Tk) (x:Lx):Lx:=⟨t :: x.toks,x.err⟩
def xE:Nat->Nat->List UInt8->Lx
 | 0,_,_=>⟨[],none⟩
 | f+1,pos,[]=>⟨[],none⟩
 | f+1,pos,c :: r=>match yE c with
  | true=>xE f (pos+1+jI xF r) (r.drop (jI xF r))
  | false=>match pF c with
   | true=>xE f (pos+1) r
   | false=>match j9 (c :: r) with
    | .bad e=>⟨[],some (pos,e)⟩
    | .tok k len n=>Lx.cons ⟨k,pos,bs ((c :: r).take len),n⟩ (xE f (pos+len) ((c :: r).drop len))
def pY (t:Tk):List A:=[jJ t.kind,jJ t.pos,j0 t.text,jJ t.n]
def yH (l:List Tk):List A:=l.flatMap pY
def dT (s:ByteArray):Tk:=⟨0,s.size,⟨#[]⟩,0⟩
theorem xU (p:UInt8->Bool):∀ l:List UInt8,jI p l<=l.length
 | []=>by simp[jI]
 | c :: r=>by
  have:=xU p r
  unfold jI
  split <;> simp <;> omega
theorem jiu (l:List ByteArray) (s:ByteArray) (k:Nat) (hk:k<l.length):kH (l.take (k+1)) s=(kH (l.take k) s || decide (l[k]=s)):=by
 unfold kH;rw[List.take_succ_eq_append_getElem hk,List.any_append];simp
theorem kP (s:ByteArray):s.data.toList.length=s.size:=by rw[Array.length_toList];rfl
theorem fD (l:List UInt8) (i:Nat) (hi:i<l.length):l.drop i=l[i] :: l.drop (i+1):=List.drop_eq_getElem_cons hi
theorem jmB {c:UInt8} (h:yN c=true):48<=(c.toNat:Int)/\(c.toNat:Int)<=57:=by
 unfold yN at h;rw[Bool.and_eq_true] at h;exact⟨of_decide_eq_true h.1,of_decide_eq_true h.2⟩
theorem t6 (s:ByteArray) (a b:Nat):s.extract a b=bs ((s.data.toList.drop a).take (b-a)):=by
 apply ByteArray.ext
 rw[ByteArray.data_extract]
 apply Array.toList_inj.1
 simp[bs,Array.toList_extract,List.extract_eq_take_drop]
theorem mS (s:ByteArray) (a b n:Nat) (h:b=min (a+n) s.size) (ha:a<=s.size):s.extract a b=bs ((s.data.toList.drop a).take n):=by
 have hsl:=kP s
 rw[t6]
 congr 1
 subst h
 rcases Nat.le_total (a+n) s.size with h | h
 ·rw[Nat.min_eq_left h,Nat.add_sub_cancel_left]
 ·rw[Nat.min_eq_right h,List.take_of_length_le (by rw[List.length_drop];omega),List.take_of_length_le (by rw[List.length_drop];omega)]
theorem xJ (l:List UInt8):(bs l).size=l.length:=by show l.toArray.size=_;exact List.size_toArray
theorem zZ (l:List UInt8):(bs l).data.toList=l:=by simp[bs]
theorem pW (p:UInt8->Bool):∀ (l:List UInt8),∀ c ∈ l.take (jI p l),p c=true
 | [],c,h=>by simp[jI] at h
 | x :: r,c,h=>by
  unfold jI at h
  split at h
  ·rename_i hp
   rw[List.take_succ_cons] at h
   rcases List.mem_cons.1 h with rfl | h
   ·exact hp
   ·exact pW p r c h
  ·simp at h
theorem bX:∀ {l:List UInt8} {k:Int} {len:Nat} {n:Int},j9 l = .tok k len n->1<=len/\len<=l.length
 | [],_,_,_,h=>by simp[j9] at h
 | c :: r,k,len,n,h=>by
  have h1:=xU zE r
  have h2:=xU yN r
  cases hL:isL c
  ·cases hD:yN c
   ·cases h3:kH aP (bs ((c :: r).take 2))
    ·cases h4:kH r8 (bs [c])
     ·simp only[j9,hL,hD,h3,h4] at h
      cases h
     ·simp only[j9,hL,hD,h3,h4] at h
      cases h
      simp
    ·simp only[j9,hL,hD,h3] at h
     cases h
     cases r with
     | nil =>
      exfalso
      have:kH aP (bs [c])=false:=by
       unfold kH;rw[List.any_eq_false];intro x hx he
       have he:=of_decide_eq_true he
       have hs:x.size=1:=by rw[he,xJ];rfl
       have:∀ x ∈ aP,x.size=2:=by decide
       have:=this x hx
       omega
      rw[show (c :: ([]:List UInt8)).take 2=[c] from rfl,this] at h3
      cases h3
     | cons d r=>simp
   ·simp only[j9,hL,hD] at h
    split at h
    ·cases h
    ·cases h;simp;omega
  ·simp only[j9,hL] at h
   split at h
   ·cases h
   ·cases h;simp;omega
theorem jlW {l:List UInt8} {e:Int} (h:j9 l = .bad e):e ≠ 0:=by
 cases l with
 | nil=>simp[j9] at h;omega
 | cons c r =>
  cases hL:isL c
  ·cases hD:yN c
   ·cases h3:kH aP (bs ((c :: r).take 2))
    ·cases h4:kH r8 (bs [c])
     ·simp only[j9,hL,hD,h3,h4] at h
      cases h;decide
     ·simp only[j9,hL,hD,h3,h4] at h
      cases h
    ·simp only[j9,hL,hD,h3] at h
     cases h
   ·simp only[j9,hL,hD] at h
    split at h
    ·cases h;decide
    ·cases h
  ·simp only[j9,hL] at h
   split at h
   ·cases h;decide
   ·cases h
theorem oC:∀ (f f' p:Nat) (l:List UInt8),l.length<f->l.length<f'->xE f p l=xE f' p l
 | 0,_,_,_,h,_=>by omega
 | _+1,0,_,_,_,h=>by omega
 | f+1,f'+1,p,[],_,_=>rfl
 | f+1,f'+1,p,c :: r,h,h' => by
  simp only[List.length_cons] at h h'
  have key:∀ (q k:Nat) (l:List UInt8),l.length<=r.length->xE f q l=xE f' q l:=fun q k l hl=>oC f f' q l (by omega) (by omega)
  unfold xE
  split
  ·exact key _ 0 _ (by simp)
  ·split
   ·exact key _ 0 _ (Nat.le_refl _)
   ·split
    ·rfl
    ·rename_i k len n ht
     have:=bX ht
     rw[key _ 0 _ (by simp;omega)]
def bJ (p:Nat) (l:List UInt8):Lx:=xE (l.length+1) p l
theorem jeA (p:Nat):bJ p [] = ⟨[],none⟩ := rfl
theorem jiH {p:Nat} {c:UInt8} {r:List UInt8} (h:yE c=true):bJ p (c :: r)=bJ (p+1+jI xF r) (r.drop (jI xF r)):=by
 unfold bJ;rw[xE,h];exact oC _ _ _ _ (by simp;omega) (by simp)
theorem jhx {p:Nat} {c:UInt8} {r:List UInt8} (h:yE c=false) (h2:pF c=true):bJ p (c :: r)=bJ (p+1) r:=by
 unfold bJ;rw[xE,h,h2];exact oC _ _ _ _ (by simp) (by simp)
theorem jez {p:Nat} {c:UInt8} {r:List UInt8} {e:Int} (h:yE c=false) (h2:pF c=false) (ht:j9 (c :: r) = .bad e):bJ p (c :: r) = ⟨[],some (p,e)⟩ := by
 unfold bJ;rw[xE,h,h2,ht]
theorem uV {p:Nat} {c:UInt8} {r:List UInt8} {k:Int} {len:Nat} {n:Int} (h:yE c=false) (h2:pF c=false) (ht:j9 (c :: r) = .tok k len n) :
  bJ p (c :: r)=Lx.cons ⟨k,p,bs ((c :: r).take len),n⟩ (bJ (p+len) ((c :: r).drop len)):=by
 have hl:=bX ht
 unfold bJ;rw[xE,h,h2,ht]
 simp only
 rw[oC _ (((c :: r).drop len).length+1) _ _ (by simp at hl ⊢;omega) (by simp)]
def qW (s:ByteArray):Lx:=bJ 0 s.data.toList
def Lx.app (ts:List Tk) (x:Lx):Lx:=⟨ts++x.toks,x.err⟩
theorem jdI (ts:List Tk) (t:Tk) (x:Lx):Lx.app ts (Lx.cons t x)=Lx.app (ts++[t]) x:=by simp[Lx.app,Lx.cons]
def jge (s:ByteArray):A:=match (qW s).err with
 | some (p,e) => .tup [.v (.slice none 0 0),jJ p,jJ e]
 | none => .tup [.sl 4 ((qW s).toks.length+1) (yH ((qW s).toks++[dT s])),jJ 0,jJ 0]
theorem bW (l:List UInt8) (len:Nat) (h:len<=l.length):(bs (l.take len)).size=len:=by rw[xJ,List.length_take];omega
def sV (n:Int):A := .v (.int .u8 n)
@[irreducible] def qD (f:Nat->Int):List A:=(List.range 256).map fun j=>sV (f j)
theorem yK (f:Nat->Int):(qD f).length=256:=by unfold qD;simp
theorem je2 (f:Nat->Int) (j:Nat) (h:j<256):(qD f)[j]? = some (sV (f j)):=by unfold qD;simp[h]
theorem tO (f:Nat->Int):∀ a ∈ qD f,∃ x,a = .v x:=fun a ha=>by
 unfold qD at ha
 obtain⟨j,_,rfl⟩ := List.mem_map.1 ha
 exact⟨_,rfl⟩
theorem dQ (f:Nat->Int) (i:Nat) (d:Int):(qD f).set i (sV d)=qD fun j=>if j=i then d else f j:=by
 apply List.ext_getElem?
 intro j;rw[List.getElem?_set]
 by_cases hj:j<256
 ·rw[je2 _ j hj,je2 _ j hj,yK]
  by_cases hij:i=j
  ·subst hij;rw[if_pos rfl,if_pos hj,if_pos rfl]
  ·rw[if_neg hij,if_neg (fun e=>hij e.symm)]
 ·have h1:∀ f,(qD f)[j]? = none:=fun f=>List.getElem?_eq_none (by rw[yK];omega)
  rw[h1,h1,yK]
  split
  ·rename_i h
   subst h;rw[if_neg hj]
  ·rfl
theorem nI {f g:Nat->Int} (h:∀ j,j<256->f j=g j):qD f=qD g:=by
 unfold qD
 exact List.map_congr_left fun j hj=>by rw[h j (List.mem_range.1 hj)]
def f1 (k:Nat) (j:Nat):Int:=if 97<=j/\j<k then 2 else 0
def f2 (k:Nat) (j:Nat):Int:=if 48<=j/\j<k then 3 else f1 123 j
def l3:List Int:=[32,9,10]
def l5:List Int:=[123,125,91,93,40,41,61,59,44,60,62,43,45,42,47,33]
def f3 (k:Nat) (j:Nat):Int:=if (j:Int) ∈ l3.take k then 1 else f2 58 j
def f5 (k:Nat) (j:Nat):Int:=if (j:Int) ∈ l5.take k then 5 else f3 3 j
def classOf (j:Nat):Int:=if j=35 then 4 else f5 16 j
theorem bV (l:List Int) (k:Nat) (hk:k<l.length) (x:Int):x ∈ l.take (k+1) ↔ x ∈ l.take k ∨ x=l[k]:=by
 rw[List.take_succ_eq_append_getElem hk,List.mem_append,List.mem_singleton]
theorem jf6 (l:List Int) (i:Nat) (hi:i<l.length):jM 1 i (l.map sV)=[.v (.int .u8 l[i])]:=y9 _ l i hi
theorem joT (k:Nat) (h1:97<=k) (h2:k<256):(qD (f1 k)).set k (sV 2)=qD (f1 (k+1)):=by
 rw[dQ]
 refine nI fun j hj => ?_
 unfold f1
 by_cases h:j=k
 ·subst h;rw[if_pos rfl,if_pos (by omega)]
 ·rw[if_neg h]
  by_cases h3:97<=j/\j<k
  ·rw[if_pos h3,if_pos (by omega)]
  ·rw[if_neg h3,if_neg (by omega)]
theorem joU (k:Nat) (h1:48<=k) (h2:k<256):(qD (f2 k)).set k (sV 3)=qD (f2 (k+1)):=by
 rw[dQ]
 refine nI fun j hj => ?_
 unfold f2
 by_cases h:j=k
 ·subst h;rw[if_pos rfl,if_pos (by omega)]
 ·rw[if_neg h]
  by_cases h3:48<=j/\j<k
  ·rw[if_pos h3,if_pos (by omega)]
  ·rw[if_neg h3,if_neg (by omega)]
theorem joV (k:Nat) (hk:k<l3.length) (i:Nat) (hi:(i:Int)=l3[k]):(qD (f3 k)).set i (sV 1)=qD (f3 (k+1)):=by
 rw[dQ]
 refine nI fun j hj => ?_
 unfold f3
 by_cases h:j=i
 ·subst h;rw[if_pos rfl,if_pos ((bV l3 k hk _).2 (.inr hi))]
 ·rw[if_neg h]
  by_cases h3:(j:Int) ∈ l3.take k
  ·rw[if_pos h3,if_pos ((bV l3 k hk _).2 (.inl h3))]
  ·rw[if_neg h3,if_neg fun e=>((bV l3 k hk _).1 e).elim h3 fun e=>by omega]
theorem joW (k:Nat) (hk:k<l5.length) (i:Nat) (hi:(i:Int)=l5[k]):(qD (f5 k)).set i (sV 5)=qD (f5 (k+1)):=by
 rw[dQ]
 refine nI fun j hj => ?_
 unfold f5
 by_cases h:j=i
 ·subst h;rw[if_pos rfl,if_pos ((bV l5 k hk _).2 (.inr hi))]
 ·rw[if_neg h]
  by_cases h3:(j:Int) ∈ l5.take k
  ·rw[if_pos h3,if_pos ((bV l5 k hk _).2 (.inl h3))]
  ·rw[if_neg h3,if_neg fun e=>((bV l5 k hk _).1 e).elim h3 fun e=>by omega]
theorem jp3 (k:Nat) (hk:k<l3.length):0<=l3[k]/\l3[k]<256:=by
 have:∀ x ∈ l3,0<=x/\x<256:=by decide
 exact this _ (List.getElem_mem hk)
theorem jp4 (k:Nat) (hk:k<l5.length):0<=l5[k]/\l5[k]<256:=by
 have:∀ x ∈ l5,0<=x/\x<256:=by decide
 exact this _ (List.getElem_mem hk)
theorem u8r {n:Int} (h:0<=n/\n<=255):lo .u8<=n/\n<=hi .u8:=h
theorem jqd:(List.range 256).map (fun _=>sV 0)=qD (f1 97):=by
 unfold qD
 exact List.map_congr_left fun j hj=>by unfold f1;rw[if_neg (by omega)]
theorem jnN:(List.range 256).map (fun _=>sV 0)=qD (fun _=>0):=by unfold qD;rfl
theorem jcL:Spec Tryz.prog 56 [] [] fun _ r=>r = .agg (qD classOf):=by
 refine eN jH jY 0 Tryz.func56 rfl ?_;intro _;conv=>whnf
 refine jT [0,1] ?_;conv=>whnf
 refine oD (fun k:Nat=>[(2,.v (.int .u8 k))]) (fun k=>[qD fun _=>0,qD (f1 k)]) (fun _=>[]) (fun k=>97<=k/\k<=123) (fun k=>123-k) 97 ?_ ⟨by omega,by omega⟩ ?_
 ·unfold dX
  repeat' constructor
  ·show _=[qD _,qD _]
   rw[<- jqd,<- jnN];rfl
 ·rintro k ⟨hk,hk2⟩;conv=>whnf
  by_cases hlt:k<=122
  ·refine kE (by simp;omega) ?_;conv=>whnf
   refine⟨⟨by omega,by omega⟩,?_⟩;conv=>whnf
   refine nX (by rw[yK];simp;omega) ?_;conv=>whnf
   refine⟨u8r (by omega),?_⟩;conv=>whnf
   refine⟨k+1,d6 ?_,⟨by omega,by omega⟩,by omega⟩;unfold dX
   repeat' constructor
   ·exact congrArg (fun x=>[qD fun _=>0,x]) (by
     show (qD (f1 k)).set (0+k*1) (sV 2)=_
     rw[Nat.mul_one,Nat.zero_add];exact joT k (by omega) (by omega))
  ·refine qP (by simp;omega) ?_
   obtain rfl:k=123:=by omega
   conv=>whnf
   refine jT [0,1] ?_;conv=>whnf
   refine oD (fun k:Nat=>[(3,.v (.int .u8 k))]) (fun k=>[qD fun _=>0,qD (f2 k)]) (fun _=>[]) (fun k=>48<=k/\k<=58) (fun k=>58-k) 48 ?_ ⟨by omega,by omega⟩ ?_
   ·unfold dX
    repeat' constructor
    ·exact congrArg (fun x=>[qD fun _=>0,x]) (nI fun j hj=>by unfold f2;rw[if_neg (by omega)])
   ·rintro k ⟨hk,hk2⟩;conv=>whnf
    by_cases hlt:k<=57
    ·refine kE (by simp;omega) ?_;conv=>whnf
     refine⟨⟨by omega,by omega⟩,?_⟩;conv=>whnf
     refine nX (by rw[yK];simp;omega) ?_;conv=>whnf
     refine⟨u8r (by omega),?_⟩;conv=>whnf
     refine⟨k+1,d6 ?_,⟨by omega,by omega⟩,by omega⟩;unfold dX
     repeat' constructor
     ·exact congrArg (fun x=>[qD fun _=>0,x]) (by
       show (qD (f2 k)).set (0+k*1) (sV 3)=_
       rw[Nat.mul_one,Nat.zero_add];exact joU k (by omega) (by omega))
    ·refine qP (by simp;omega) ?_
     obtain rfl:k=58:=by omega
     conv=>whnf
     refine jT [0,1,22] ?_;conv=>whnf
     refine oD (fun k:Nat=>[(21,.sl 1 3 (l3.map sV)),(23,.v (.int .i64 k))]) (fun k=>[qD fun _=>0,qD (f3 k)]) (fun _=>[.pub 1 3 (l3.map sV)]) (fun k=>k<=3) (fun k=>3-k) 0 ?_ (by omega) ?_
     ·unfold dX
      repeat' constructor
     ·rintro k hk;conv=>whnf
      by_cases hlt:k<3
      ·have hr3:=jp3 k hlt
       refine kE (by simp;omega) ?_;conv=>whnf
       refine⟨⟨by omega,by omega⟩,?_⟩;conv=>whnf
       rw[show jM 1 (Int.toNat (k:Int)) (List.map sV l3)=[.v (.int .u8 l3[k])] from jf6 l3 k hlt]
       obtain⟨m,hm⟩ : ∃ m:Nat,(m:Int)=l3[k]'hlt:=⟨(l3[k]'hlt).toNat,by omega⟩
       rw[<- hm] at hr3 ⊢;conv=>whnf
       refine⟨⟨by omega,by omega⟩,?_⟩;conv=>whnf
       refine nX (by rw[yK];simp;omega) ?_;conv=>whnf
       refine⟨jS (by omega),?_⟩;conv=>whnf
       refine⟨k+1,d6 ?_,by omega,by omega⟩;unfold dX
       repeat' constructor
       ·exact congrArg (fun x=>[qD fun _=>0,x]) (by
         show (qD (f3 k)).set (0+m*1) (sV 1)=_
         rw[Nat.mul_one,Nat.zero_add];exact joV k hlt m hm)
      ·refine qP (by simp;omega) ?_
       obtain rfl:k=3:=by omega
       conv=>whnf
       refine jT [0,1,32] ?_;conv=>whnf
       refine oD (fun k:Nat=>[(31,.sl 1 16 (l5.map sV)),(33,.v (.int .i64 k))]) (fun k=>[qD fun _=>0,qD (f5 k)]) (fun _=>[.pub 1 3 (l3.map sV),.pub 1 16 (l5.map sV)]) (fun k=>k<=16) (fun k=>16-k) 0 ?_ (by omega) ?_
       ·unfold dX
        repeat' constructor
       ·rintro k hk;conv=>whnf
        by_cases hlt:k<16
        ·have hr5:=jp4 k hlt
         refine kE (by simp;omega) ?_;conv=>whnf
         refine⟨⟨by omega,by omega⟩,?_⟩;conv=>whnf
         rw[show jM 1 (Int.toNat (k:Int)) (List.map sV l5)=[.v (.int .u8 l5[k])] from jf6 l5 k hlt]
         obtain⟨m,hm⟩ : ∃ m:Nat,(m:Int)=l5[k]'hlt:=⟨(l5[k]'hlt).toNat,by omega⟩
         rw[<- hm] at hr5 ⊢;conv=>whnf
         refine⟨⟨by omega,by omega⟩,?_⟩;conv=>whnf
         refine nX (by rw[yK];simp;omega) ?_;conv=>whnf
         refine⟨jS (by omega),?_⟩;conv=>whnf
         refine⟨k+1,d6 ?_,by omega,by omega⟩;unfold dX
         repeat' constructor
         ·exact congrArg (fun x=>[qD fun _=>0,x]) (by
           show (qD (f5 k)).set (0+m*1) (sV 5)=_
           rw[Nat.mul_one,Nat.zero_add];exact joW k hlt m hm)
        ·refine qP (by simp;omega) ?_
         obtain rfl:k=16:=by omega
         have hlen0:=yK fun _=>0
         have hlen5:=yK (f5 16)
         have hfin:(qD (f5 16)).set 35 (sV 4)=qD classOf:=by rw[dQ];rfl
         have hpl:=tO classOf
         have hu:gJ (qD classOf)=qD classOf:=by kernel_rfl
         generalize qD (fun _=>0)=L0 at *;generalize qD (f5 16)=L5 at *;generalize qD classOf=Lc at *;conv=>whnf
         refine⟨⟨by omega,by omega⟩,?_⟩;conv=>whnf
         refine nX (by rw[hlen5];simp) ?_;generalize hLs:L5.set (0+Int.toNat 35*_) _=Ls
         obtain rfl:Ls=Lc:=hLs.symm.trans hfin
         have hlen:Ls.length=256:=by rw[<- hfin,List.length_set,hlen5]
         conv=>whnf
         refine jaD (cs:=Ls) (n:=256) (Nat.le_of_eq hlen.symm) ?_;rw[List.take_of_length_le (Nat.le_of_eq hlen)];conv=>whnf
         rw[hu,hlen];conv=>whnf
         refine mC (ds:=Ls) (cs:=L0) [] (by rw[hlen,hlen0]) ?_;rw[List.nil_append];conv=>whnf
         refine jaD (cs:=Ls) (n:=256) (Nat.le_of_eq hlen.symm) ?_;rw[List.take_of_length_le (Nat.le_of_eq hlen)];conv=>whnf
         rw[hu,jj4 hpl]
theorem jc5 (f:Nat->Int) (i:Nat) (hi:i<256):jM 1 i (qD f)=[.v (.int .u8 (f i))]:=by
 unfold qD
 have:=y9 (fun j=>sV (f j)) (List.range 256) i (by simpa using hi)
 rw[this];simp[sV]
def yM (p:UInt8->Bool) (l:List UInt8):Int:=if jI p l<l.length then (jI p l:Int) else -1
theorem jhY (p:UInt8->Bool) (l:List UInt8) (k:Nat) (hk:k<l.length) (h:jI p l=k+jI p (l.drop k)) (hp:p l[k]=true):jI p l=k+1+jI p (l.drop (k+1)):=by
 rw[h,fD l k hk];simp only[jI,hp];omega
theorem jcf (p:UInt8->Bool) (l:List UInt8) (k:Nat) (hk:k<l.length) (h:jI p l=k+jI p (l.drop k)) (hp:p l[k]=false):jI p l=k:=by
 rw[h,fD l k hk];simp only[jI,hp];omega
theorem jdS (c:UInt8):0<=(c.toNat:Int)/\(c.toNat:Int)<256:=⟨by omega,by have:=c.toNat_lt;omega⟩
theorem jd3 (b:ByteArray) (hb:b.size<=1000000000):Spec Tryz.prog 61 [] [.sl 1 b.size (kW b),.v (.int .u8 10)] fun _ r=>r=jJ (yM xF b.data.toList):=by
 have hsl:=kP b
 refine eN jH jY 0 Tryz.func61 rfl ?_;intro _;conv=>whnf
 refine jT [0,1,4,7] ?_;conv=>whnf
 refine zF (fun k:Nat=>[(8,.v (.int .i64 k))]) (fun _=>[]) (fun _=>[]) (fun k=>k<=b.size/\jI xF b.data.toList=k+jI xF (b.data.toList.drop k)) (fun k=>b.size-k) 0 ?_ ⟨Nat.zero_le _,by simp⟩ ?_
 ·repeat' constructor
 ·rintro k ⟨hk,hinv⟩;conv=>whnf
  by_cases hlt:k<b.size
  ·refine kE (by simp;omega) ?_;conv=>whnf
   refine⟨⟨by omega,by omega⟩,?_⟩;conv=>whnf
   rw[show jM 1 (Int.toNat (k:Int)) (kW b)=_ from eK b k (by omega)]
   have h1:=jhY xF b.data.toList k (by omega) hinv
   have h2:=jcf xF b.data.toList k (by omega) hinv
   generalize b.data.toList[k]'(by omega)=c at *;conv=>whnf
   cases hq:xF c
   ·have hc:(c.toNat:Int)=10:=by simpa [xF] using hq
    refine kE (by simp[hc]) ?_;conv=>whnf
    have:yM xF b.data.toList=k:=by unfold yM;rw[h2 hq,if_pos (by omega)]
    rw[this];rfl
   ·have hc : ¬ (c.toNat:Int)=10:=by simpa [xF] using hq
    refine qP (by simp;omega) ?_;conv=>whnf
    refine⟨jS (by omega),?_⟩;conv=>whnf
    refine⟨k+1,fI ?_,⟨by omega,h1 hq⟩,by omega⟩
    repeat' constructor
  ·refine qP (by simp;omega) ?_
   obtain rfl:k=b.size:=by omega
   conv=>whnf
   rw[List.drop_of_length_le (by omega)] at hinv
   have:yM xF b.data.toList = -1:=by unfold yM;rw[hinv,if_neg (by simp[jI])]
   rw[this];rfl
theorem iM (l:List ByteArray) (s:ByteArray) (hl:l.length<=1000000):Spec Tryz.prog 38 [] [.sl 1 l.length (aH l),.v (.string s)] fun _ r => ∃ n:Int,(-1<=n/\n<=1000000)/\decide (0<=n)=kH l s/\r=jJ n:=by
 refine eN jH jY 0 Tryz.func38 rfl ?_;intro _;conv=>whnf
 refine jT [0,1,4,7] ?_;conv=>whnf
 refine zF (fun k:Nat=>[(8,.v (.int .i64 k))]) (fun _=>[]) (fun _=>[]) (fun k=>k<=l.length/\kH (l.take k) s=false) (fun k=>l.length-k) 0 ?_ ⟨Nat.zero_le _,by simp[kH]⟩ ?_
 ·repeat' constructor
 ·rintro k ⟨hk,hinv⟩;conv=>whnf
  by_cases hlt:k<l.length
  ·refine kE (by simp;omega) ?_;conv=>whnf
   refine⟨⟨by omega,by omega⟩,?_⟩;conv=>whnf
   rw[show jM 1 (Int.toNat (k:Int)) (aH l)=[.v (.string l[k])] from jai l k hlt];conv=>whnf
   cases hq:decide (l[k]=s)
   ·refine qP (by rw[<- hq];exact decide_eq_decide.2 eq_comm) ?_;conv=>whnf
    refine⟨jS (by omega),?_⟩;conv=>whnf
    refine⟨k+1,fI ?_,⟨hlt,by rw[jiu l s k hlt,hinv,hq];rfl⟩,by omega⟩
    repeat' constructor
   ·refine kE (by rw[<- hq];exact decide_eq_decide.2 eq_comm) ?_;conv=>whnf
    have:kH l s=true:=List.any_eq_true.2 ⟨l[k],List.getElem_mem hlt,hq⟩
    exact⟨k,by omega,by rw[this];simp,rfl⟩
  ·refine qP (by simp;omega) ?_
   obtain rfl:k=l.length:=by omega
   rw[List.take_length] at hinv;conv=>whnf
   exact⟨-1,by omega,by rw[hinv];rfl,rfl⟩
theorem jaV (l:List ByteArray) (s:ByteArray) (hl:l.length<=1000000):Spec Tryz.prog 65 [] [.sl 1 l.length (aH l),.v (.string s)] fun _ r=>r=wP (kH l s):=by
 refine eN jH jY 0 Tryz.func65 rfl ?_;intro _;conv=>whnf
 refine yI [] (iM l s hl) ?_;rintro r ⟨n,hn,hq,rfl⟩;conv=>whnf
 rw[hq];rfl
theorem jeu (k:Int):Spec Tryz.prog 62 [] [.v (.int .u8 k)] fun _ r=>r=wP (decide (k=2) || decide (k=3)):=by
 refine eN jH jY 0 Tryz.func62 rfl ?_;intro _;conv=>whnf
 cases h:decide (k=2)
 ·conv=>whnf
  simp[wP,h]
 ·conv=>whnf
  simp[wP,h]
theorem jg9 (k:Int):Spec Tryz.prog 63 [] [.v (.int .u8 k)] fun _ r=>r=wP (decide (k=3)):=by
 refine eN jH jY 0 Tryz.func63 rfl ?_;intro _;conv=>whnf
 rfl
def aV (p:Int->Bool) (c:UInt8):Bool:=p (classOf c.toNat)
theorem jgl (f:Nat) (p:Int->Bool) (hf:∀ k,Spec Tryz.prog f [] [.v (.int .u8 k)] fun _ r=>r=wP (p k)) (c:UInt8) :
  Spec Tryz.prog 60 [[.clo f []]] [.v (.int .u8 (c.toNat:Int)),.box 0 0,.pp (qD classOf)] fun outs r=>outs=[[.clo f []]]/\r=wP (!aV p c):=by
 have hc:=jdS c
 obtain⟨L,hL⟩ : ∃ L,L=qD classOf:=⟨_,rfl⟩
 rw[<- hL];refine eN jr8 jY 1 Tryz.func60 rfl ?_;intro _;conv=>whnf
 refine⟨⟨by omega,by omega⟩,?_⟩;generalize hq:jM _ (Int.toNat (c.toNat:Int)) L=q
 obtain rfl:q=[.v (.int .u8 (classOf c.toNat))]:=by rw[<- hq,hL];exact jc5 classOf c.toNat (by omega)
 conv=>whnf
 refine jdT [] rfl (fun _=>hf _) ?_;rintro r rfl;conv=>whnf
 exact⟨rfl,rfl⟩
theorem jcW (f:Nat) (p:Int->Bool) (hf:∀ k,Spec Tryz.prog f [] [.v (.int .u8 k)] fun _ r=>r=wP (p k)) (b:ByteArray) (hb:b.size<=1000000000) :
  Spec Tryz.prog 59 [[.clo f []]] [.sl 1 b.size (kW b),.clo 60 [.box 0 0,.pp (qD classOf)]] fun outs r=>outs=[[.clo f []]]/\r=jJ (yM (aV p) b.data.toList):=by
 have hsl:=kP b
 have hno:=jgl f p hf
 obtain⟨L,hL⟩ : ∃ L,L=qD classOf:=⟨_,rfl⟩
 rw[<- hL] at hno ⊢;refine eN jH jY 1 Tryz.func59 rfl ?_;intro _;conv=>whnf
 refine jT [0,1,4,7] ?_;conv=>whnf
 refine zF (fun k:Nat=>[(8,.v (.int .i64 k))]) (fun _=>[[.clo f []]]) (fun _=>[]) (fun k=>k<=b.size/\jI (aV p) b.data.toList=k+jI (aV p) (b.data.toList.drop k)) (fun k=>b.size-k) 0 ?_ ⟨Nat.zero_le _,by simp⟩ ?_
 ·repeat' constructor
 ·rintro k ⟨hk,hinv⟩;conv=>whnf
  by_cases hlt:k<b.size
  ·refine kE (by simp;omega) ?_;conv=>whnf
   refine⟨⟨by omega,by omega⟩,?_⟩;conv=>whnf
   rw[show jM 1 (Int.toNat (k:Int)) (kW b)=_ from eK b k (by omega)]
   have h1:=jhY (aV p) b.data.toList k (by omega) hinv
   have h2:=jcf (aV p) b.data.toList k (by omega) hinv
   generalize b.data.toList[k]'(by omega)=c at *;conv=>whnf
   refine qT 0 [] (hno c) ?_;rintro o r ⟨ho,rfl⟩
   obtain rfl:o=[.clo f []]:=by simpa using ho
   conv=>whnf
   cases hq:aV p c
   ·conv=>whnf
    have:yM (aV p) b.data.toList=k:=by unfold yM;rw[h2 hq,if_pos (by omega)]
    rw[this];exact⟨rfl,rfl⟩
   ·conv=>whnf
    refine⟨jS (by omega),?_⟩;conv=>whnf
    refine⟨k+1,fI ?_,⟨by omega,h1 hq⟩,by omega⟩
    repeat' constructor
  ·refine qP (by simp;omega) ?_
   obtain rfl:k=b.size:=by omega
   conv=>whnf
   rw[List.drop_of_length_le (by omega)] at hinv
   have:yM (aV p) b.data.toList = -1:=by unfold yM;rw[hinv,if_neg (by simp[jI])]
   rw[this];exact⟨rfl,rfl⟩
theorem jce (f:Nat) (p:Int->Bool) (hf:∀ k,Spec Tryz.prog f [] [.v (.int .u8 k)] fun _ r=>r=wP (p k)) (b:ByteArray) (hb:b.size<=1000000000) :
  Spec Tryz.prog 58 [] [.clo f [],.pp [.v (.string b)],.pp (qD classOf)] fun _ r=>r=jJ (jI (aV p) b.data.toList:Nat):=by
 have hsl:=kP b
 have hidx:=jcW f p hf b hb
 have hle:=xU (aV p) b.data.toList
 obtain⟨L,hL⟩ : ∃ L,L=qD classOf:=⟨_,rfl⟩
 rw[<- hL] at hidx ⊢;refine eN jH jY 0 Tryz.func58 rfl ?_;intro _;conv=>whnf
 refine qT 0 [] hidx ?_;rintro o r ⟨ho,rfl⟩
 obtain rfl:o=[.clo f []]:=by simpa using ho
 conv=>whnf
 by_cases hlt:jI (aV p) b.data.toList<b.data.toList.length
 ·have hv:yM (aV p) b.data.toList=(jI (aV p) b.data.toList:Nat):=by unfold yM;rw[if_pos hlt]
  generalize yM (aV p) b.data.toList=v at *;refine qP (b:=decide (v<0)) (j8 (by omega)) ?_;conv=>whnf
  rw[hv];rfl
 ·have hv:yM (aV p) b.data.toList = -1:=by unfold yM;rw[if_neg hlt]
  generalize yM (aV p) b.data.toList=v at *;refine kE (b:=decide (v<0)) (qH (by omega)) ?_;conv=>whnf
  have:jI (aV p) b.data.toList=b.size:=by omega
  rw[this];rfl
theorem jin (c:UInt8):aV (fun k=>decide (k=2) || decide (k=3)) c=zE c:=by
 have:∀ n:Fin 256,(decide (classOf n.val=2) || decide (classOf n.val=3))=((decide (97<=(n.val:Int)) && decide ((n.val:Int)<=122)) || (decide (48<=(n.val:Int)) && decide ((n.val:Int)<=57))):=by decide +kernel
 exact this ⟨c.toNat,c.toNat_lt⟩
theorem je3 (c:UInt8):aV (fun k=>decide (k=3)) c=yN c:=by
 have:∀ n:Fin 256,decide (classOf n.val=3)=(decide (48<=(n.val:Int)) && decide ((n.val:Int)<=57)):=by decide +kernel
 exact this ⟨c.toNat,c.toNat_lt⟩
theorem rU {p q:UInt8->Bool} (h:∀ c,p c=q c) (l:List UInt8):jI p l=jI q l:=by
 have:p=q:=funext h
 rw[this]
theorem jjl (b:ByteArray) (hb:b.size<=1000000000):Spec Tryz.prog 58 [] [.clo 62 [],.pp [.v (.string b)],.pp (qD classOf)] fun _ r=>r=jJ (jI zE b.data.toList:Nat):=by
 have:=jce _ _ jeu b hb
 rw[rU jin] at this;exact this
theorem jkE (b:ByteArray) (hb:b.size<=1000000000):Spec Tryz.prog 58 [] [.clo 63 [],.pp [.v (.string b)],.pp (qD classOf)] fun _ r=>r=jJ (jI yN b.data.toList:Nat):=by
 have:=jce _ _ jg9 b hb
 rw[rU je3] at this;exact this
theorem joP (c:UInt8):decide (classOf c.toNat=1)=pF c:=by
 have:∀ n:Fin 256,decide (classOf n.val=1)=((decide ((n.val:Int)=32) || decide ((n.val:Int)=9)) || decide ((n.val:Int)=10)):=by decide +kernel
 exact this ⟨c.toNat,c.toNat_lt⟩
theorem jjS (c:UInt8):decide (classOf c.toNat=4)=yE c:=by
 have:∀ n:Fin 256,decide (classOf n.val=4)=decide ((n.val:Int)=35):=by decide +kernel
 exact this ⟨c.toNat,c.toNat_lt⟩
theorem jqC (c:UInt8):decide (classOf c.toNat=2)=isL c:=by
 have:∀ n:Fin 256,decide (classOf n.val=2)=(decide (97<=(n.val:Int)) && decide ((n.val:Int)<=122)):=by decide +kernel
 exact this ⟨c.toNat,c.toNat_lt⟩
theorem jqB (c:UInt8):decide (classOf c.toNat=3)=yN c:=je3 c
theorem joJ {a b:List UInt8} (h:bs a=bs b):a=b:=by
 have:=congrArg (fun x:ByteArray=>x.data.toList) h
 simpa [bs] using this
theorem jnX (c:UInt8):decide (classOf c.toNat=5)=kH r8 (bs [c]):=by
 have:∀ n:Fin 256,decide (classOf n.val=5)=kH r8 (bs [UInt8.ofNat n.val]):=by decide +kernel
 have h:=this ⟨c.toNat,c.toNat_lt⟩
 simpa using h
end Go.Proofs.YtgifglkkmhapiaaGreatDoor.Vm
namespace Go.Proofs.YtgifglkkmhapiaaGreatDoor.Vm
open Go.RowKit Go.Shelf
def puR (l:List UInt8):A:=if gG 0 l<0 then .tup [.v (.int .u64 2147483647),.v (.iface 153 (.int .i64 1))] else .tup [.v (.int .u64 (gG 0 l)),.v .nilIface]
theorem jgW {n:Int} (h:0<=n/\n<=18446744073709551615):lo .u64<=n/\n<=hi .u64:=h
theorem jgz (s:ByteArray) (hs:s.size<=1000000000) (hs1:1<=s.size) (hd:∀ c ∈ s.data.toList,yN c=true) :
  Spec Tryz.prog 84 [] [.v (.string s),.v (.int .i64 10),.v (.int .i64 31)] fun _ r=>r=puR s.data.toList:=by
 have hsl:=kP s
 refine eN jH jY 0 Tryz.func84 rfl ?_;intro _;conv=>whnf
 refine qP (j8 fun e=>by have h0:s.size=0:=(congrArg ByteArray.size e).trans rfl;omega) ?_;conv=>whnf
 refine⟨jgW (by omega),?_⟩;conv=>whnf
 refine⟨⟨by omega,by decide⟩,?_⟩;rw[show (1:Int)*2 ^ (Int.toNat 31)=2147483648 from by decide];conv=>whnf
 refine⟨jgW (by omega),?_⟩;conv=>whnf
 refine⟨jgW (by omega),?_⟩;conv=>whnf
 refine jT [0,1,8,9,10,11,12,99,100] ?_;conv=>whnf
 refine zF (fun x:Nat × Int=>[(13,.v (.int .u64 x.2)),(101,.v (.int .i64 x.1))]) (fun _=>[]) (fun _=>[]) (fun x=>x.1<=s.size/\0<=x.2/\x.2<=2147483647/\gG x.2 (s.data.toList.drop x.1)=gG 0 s.data.toList) (fun x=>s.size-x.1) (0,0) ?_ ⟨Nat.zero_le _,by simp,by simp,by simp⟩ ?_
 ·repeat' constructor
 ·rintro⟨j,v⟩ ⟨hj,hv0,hv1,hinv⟩
  simp only at hj hv0 hv1 hinv
  conv=>whnf
  by_cases hlt:j<s.size
  ·refine kE (by simp;omega) ?_;conv=>whnf
   refine⟨⟨by omega,by omega⟩,?_⟩;conv=>whnf
   rw[show jM 1 (Int.toNat (j:Int)) (kW s)=_ from eK s j (by omega)]
   have hdj:=hd _ (List.getElem_mem (l:=s.data.toList) (n:=j) (by omega))
   have hdr:=fD s.data.toList j (by omega)
   generalize hc:s.data.toList[j]'(by omega)=c at *
   have hr:=jmB hdj
   conv=>whnf
   rw[show decide ((c.toNat:Int)=95)=false from j8 (by omega)];conv=>whnf
   rw[show decide ((48:Int)<=(c.toNat:Int))=true from qH (by omega)];conv=>whnf
   rw[show decide ((c.toNat:Int)<=57)=true from qH (by omega)];conv=>whnf
   refine⟨u8r (by omega),?_⟩;conv=>whnf
   refine⟨u8r (by omega),?_⟩;conv=>whnf
   rw[show decide ((10:Int)<=(c.toNat:Int)-48)=false from j8 (by omega)];conv=>whnf
   refine qP (b:=decide ((1844674407370955162:Int)<=v)) (j8 (by omega)) ?_;conv=>whnf
   refine⟨jgW (by omega),?_⟩;conv=>whnf
   refine⟨jgW (by omega),?_⟩;conv=>whnf
   refine⟨jgW (by omega),?_⟩;conv=>whnf
   refine⟨jgW (by omega),?_⟩;conv=>whnf
   rw[show decide (v*10+((c.toNat:Int)-48)<v*10)=false from j8 (by omega)];conv=>whnf
   have hst:gG v (s.data.toList.drop j)=if 2147483647<10*v+(c.toNat:Int)-48 then -1 else gG (10*v+(c.toNat:Int)-48) (s.data.toList.drop (j+1)):=by rw[hdr];rfl
   have hv2:v*10+((c.toNat:Int)-48)=10*v+(c.toNat:Int)-48:=by omega
   by_cases hbig:2147483647<10*v+(c.toNat:Int)-48
   ·rw[if_pos hbig] at hst
    have hf:gG 0 s.data.toList<0:=by rw[<- hinv,hst];decide
    refine kE (b:=decide ((2147483647:Int)<v*10+((c.toNat:Int)-48))) (qH (by omega)) ?_;conv=>whnf
    unfold puR;rw[if_pos hf];rfl
   ·rw[if_neg hbig] at hst;refine qP (b:=decide ((2147483647:Int)<v*10+((c.toNat:Int)-48))) (j8 (by omega)) ?_;conv=>whnf
    refine⟨jS (by omega),?_⟩;conv=>whnf
    refine⟨(j+1,v*10+((c.toNat:Int)-48)),fI ?_,⟨by simp only;omega,by simp only;omega,by simp only;omega,by simp only;rw[hv2,<- hst,hinv]⟩,by simp only;omega⟩
    repeat' constructor
  ·refine qP (by simp;omega) ?_;rw[List.drop_of_length_le (by omega)] at hinv
   have hf:gG 0 s.data.toList=v:=by rw[<- hinv];rfl
   conv=>whnf
   unfold puR;rw[hf,if_neg (by omega)]
def oA:Go.Shelf.Ren:=⟨fun | 17=>85 | 21=>100 | 22=>101 | 23=>102 | 24=>103 | 25=>128 | 26=>129 | 27=>15 | 28=>34 | 29=>52 | 30=>78 | 31=>79 | 32=>80 | 33=>81 | 34=>92 | 35=>93 | 36=>94 | 37=>95 | 38=>96 | 39=>126 | 40=>127 | n=>n,fun | 22=>119 | 24=>78 | 34=>153 | 36=>148 | 37=>48 | 39=>155 | 44=>173 | 47=>83 | 48=>184 | 50=>186 | 52=>133 | 55=>136 | 59=>150 | 60=>151 | 61=>152 | 65=>182 | 66=>183 | 67=>57 | n=>n,fun | 0=>2 | 1=>3 | 2=>1 | 3=>4 | 4=>5 | n=>n⟩
theorem jaZ:LaysPu.n17 Tryz.prog oA where
 mixed:=by kernel_rfl
 f17:=Tryz.func85.trans (congrArg some (by kernel_rfl))
 f21:=Tryz.func100.trans (congrArg some (by kernel_rfl))
 f22:=Tryz.func101.trans (congrArg some (by kernel_rfl))
 f23:=Tryz.func102.trans (congrArg some (by kernel_rfl))
 f24:=Tryz.func103.trans (congrArg some (by kernel_rfl))
 f25:=Tryz.func128.trans (congrArg some (by kernel_rfl))
 f26:=Tryz.func129.trans (congrArg some (by kernel_rfl))
 f27:=Tryz.func15.trans (congrArg some (by kernel_rfl))
 f28:=Tryz.func34.trans (congrArg some (by kernel_rfl))
 f29:=Tryz.func52.trans (congrArg some (by kernel_rfl))
 f30:=Tryz.func78.trans (congrArg some (by kernel_rfl))
 f31:=Tryz.func79.trans (congrArg some (by kernel_rfl))
 f32:=Tryz.func80.trans (congrArg some (by kernel_rfl))
 f33:=Tryz.func81.trans (congrArg some (by kernel_rfl))
 f34:=Tryz.func92.trans (congrArg some (by kernel_rfl))
 f35:=Tryz.func93.trans (congrArg some (by kernel_rfl))
 f36:=Tryz.func94.trans (congrArg some (by kernel_rfl))
 f37:=Tryz.func95.trans (congrArg some (by kernel_rfl))
 f38:=Tryz.func96.trans (congrArg some (by kernel_rfl))
 f39:=Tryz.func126.trans (congrArg some (by kernel_rfl))
 f40:=Tryz.func127.trans (congrArg some (by kernel_rfl))
 t0:=Tryz.underlying0
 a0:=Tryz.isAgg0
 z0:=Tryz.sizeOf0
 v0:=Tryz.zeroValue0
 i0:=by kernel_rfl
 t2:=Tryz.underlying2
 a2:=Tryz.isAgg2
 z2:=Tryz.sizeOf2
 v2:=Tryz.zeroValue2
 i2:=by kernel_rfl
 t3:=Tryz.underlying3
 a3:=Tryz.isAgg3
 z3:=Tryz.sizeOf3
 v3:=Tryz.zeroValue3
 i3:=by kernel_rfl
 t4:=Tryz.underlying4
 a4:=Tryz.isAgg4
 z4:=Tryz.sizeOf4
 v4:=Tryz.zeroValue4
 i4:=by kernel_rfl
 t5:=Tryz.underlying5
 a5:=Tryz.isAgg5
 z5:=Tryz.sizeOf5
 v5:=Tryz.zeroValue5
 i5:=by kernel_rfl
 t9:=Tryz.underlying9
 a9:=Tryz.isAgg9
 z9:=Tryz.sizeOf9
 v9:=Tryz.zeroValue9
 i9:=by kernel_rfl
 t20:=Tryz.underlying20
 a20:=Tryz.isAgg20
 z20:=Tryz.sizeOf20
 v20:=Tryz.zeroValue20
 i20:=by kernel_rfl
 t22:=Tryz.underlying119
 a22:=Tryz.isAgg119
 z22:=Tryz.sizeOf119
 v22:=Tryz.zeroValue119
 i22:=by kernel_rfl
 t24:=Tryz.underlying78
 a24:=Tryz.isAgg78
 z24:=Tryz.sizeOf78
 v24:=Tryz.zeroValue78
 i24:=by kernel_rfl
 t34:=Tryz.underlying153
 a34:=Tryz.isAgg153
 z34:=Tryz.sizeOf153
 v34:=Tryz.zeroValue153
 i34:=by kernel_rfl
 c34:=by kernel_rfl
 t36:=Tryz.underlying148
 a36:=Tryz.isAgg148
 z36:=Tryz.sizeOf148
 v36:=Tryz.zeroValue148
 i36:=by kernel_rfl
 t37:=Tryz.underlying48
 a37:=Tryz.isAgg48
 z37:=Tryz.sizeOf48
 v37:=Tryz.zeroValue48
 i37:=by kernel_rfl
 t39:=Tryz.underlying155
 a39:=Tryz.isAgg155
 z39:=Tryz.sizeOf155
 v39:=Tryz.zeroValue155
 i39:=by kernel_rfl
 t44:=Tryz.underlying173
 a44:=Tryz.isAgg173
 z44:=Tryz.sizeOf173
 v44:=Tryz.zeroValue173
 i44:=by kernel_rfl
 t47:=Tryz.underlying83
 a47:=Tryz.isAgg83
 z47:=Tryz.sizeOf83
 v47:=Tryz.zeroValue83
 i47:=by kernel_rfl
 t48:=Tryz.underlying184
 a48:=Tryz.isAgg184
 z48:=Tryz.sizeOf184
 v48:=Tryz.zeroValue184
 i48:=by kernel_rfl
 t50:=Tryz.underlying186
 a50:=Tryz.isAgg186
 z50:=Tryz.sizeOf186
 v50:=Tryz.zeroValue186
 i50:=by kernel_rfl
 t52:=Tryz.underlying133
 a52:=Tryz.isAgg133
 z52:=Tryz.sizeOf133
 v52:=Tryz.zeroValue133
 i52:=by kernel_rfl
 t55:=Tryz.underlying136
 a55:=Tryz.isAgg136
 z55:=Tryz.sizeOf136
 v55:=Tryz.zeroValue136
 i55:=by kernel_rfl
 t59:=Tryz.underlying150
 a59:=Tryz.isAgg150
 z59:=Tryz.sizeOf150
 v59:=Tryz.zeroValue150
 i59:=by kernel_rfl
 t60:=Tryz.underlying151
 a60:=Tryz.isAgg151
 z60:=Tryz.sizeOf151
 v60:=Tryz.zeroValue151
 i60:=by kernel_rfl
 t61:=Tryz.underlying152
 a61:=Tryz.isAgg152
 z61:=Tryz.sizeOf152
 t65:=Tryz.underlying182
 a65:=Tryz.isAgg182
 z65:=Tryz.sizeOf182
 v65:=Tryz.zeroValue182
 i65:=by kernel_rfl
 t66:=Tryz.underlying183
 a66:=Tryz.isAgg183
 z66:=Tryz.sizeOf183
 v66:=Tryz.zeroValue183
 i66:=by kernel_rfl
 t67:=Tryz.underlying57
 a67:=Tryz.isAgg57
 z67:=Tryz.sizeOf57
 v67:=Tryz.zeroValue57
 i67:=by kernel_rfl
 g0:=by kernel_rfl
 m0:=by kernel_rfl
 g1:=by kernel_rfl
 m1:=by kernel_rfl
 g2:=by kernel_rfl
 m2:=by kernel_rfl
 g3:=by kernel_rfl
 m3:=by kernel_rfl
 g4:=by kernel_rfl
 m4:=by kernel_rfl

theorem fS {E:Env} : ∀ {l us:List Value},A.repL (l.map .v) E us->us=l
 | [],us,h=>by unfold A.repL at h;exact h
 | x :: r,us,h=>by
  simp only[List.map_cons] at h;unfold A.repL at h
  obtain⟨u,us',rfl,h1,h2⟩ := h
  rw[(A.rep_v_iff.1 h1).1,fS h2]
theorem jdy (fn s:ByteArray) (hs:s.size<=1000000000):Spec Tryz.prog 85 [] [.v (.string fn),.v (.string s),.v (.int .i64 10),.v (.int .i64 31),.v (.iface 153 (.int .i64 1))] fun _ r=>r = .err:=by
 refine nT (vN Tryz.func85 rfl (by kernel_rfl)) fun w C vals h0 h1 h2 => ?_
 obtain rfl:=fS (l:=[.string fn,.string s,.int .i64 10,.int .i64 31,.iface 153 (.int .i64 1)]) h2
 have hg:=h0.at (g:=3) (cs:=[.err]) rfl
 simp only[A.repAt,A.rep] at hg
 obtain⟨⟨u,k1,k2,t,v,rfl⟩,-⟩ := hg
 refine (AnyPu.strconv_toError_range jaZ fn s 10 31 _ w (by omega) (h1 _ _ k1) (.inr ⟨t,v,rfl⟩)).mono ?_;rintro e w' ⟨n,rfl,k3,k4,k5⟩;exact⟨_,rfl,k5,by unfold A.rep;exact⟨_,_,rfl⟩⟩
theorem jn2 (s:ByteArray) (hs:s.size<=1000000000) (hs1:1<=s.size) (hd:∀ c ∈ s.data.toList,yN c=true) :
  Spec Tryz.prog 64 [] [.v (.string s),.v (.int .i64 10),.v (.int .i64 31)] fun _ r=>r=if gG 0 s.data.toList<0 then .tup [.v (.int .u64 2147483647),.err] else .tup [.v (.int .u64 (gG 0 s.data.toList)),.v .nilIface]:=by
 have hpu:=jgz s hs hs1 hd
 unfold puR at hpu;refine eN jH jY 0 Tryz.func64 rfl ?_;intro _;conv=>whnf
 refine yI [] hpu ?_;rintro r rfl;generalize gG 0 s.data.toList=v at *
 by_cases hv:v<0
 ·rw[if_pos hv,if_pos hv];conv=>whnf
  refine jdT [] rfl (fun _=>jdy _ s hs) ?_;rintro r rfl;conv=>whnf
 ·rw[if_neg hv,if_neg hv];conv=>whnf
def jgp:Nat->List UInt8->Nat
 | n,[]=>n
 | n,c :: r=>jgp (10*n+(c.toNat-48)) r
def jcx (l:List UInt8):Bool:=l.all yN
def jar (l:List UInt8):Prop := ∀ k,k<=l.length->jcx (l.take k)=true->jgp 0 (l.take k)<=99999999999
def oX (s:ByteArray):ByteArray × Bool:=match s.data.toList with
 | []=>(s,false)
 | c :: r=>if c=118 then (bs r,true) else (s,false)
theorem jjV {s:ByteArray} (h:s.data.toList=[]):oX s=(s,false):=by unfold oX;rw[h]
theorem joQ {s:ByteArray} {r:List UInt8} (h:s.data.toList=118 :: r):oX s=(bs r,true):=by unfold oX;rw[h];rfl
theorem jhk {s:ByteArray} {c:UInt8} {r:List UInt8} (h:s.data.toList=c :: r) (hc:c ≠ 118):oX s=(s,false):=by unfold oX;rw[h];exact if_neg hc
end Go.Proofs.YtgifglkkmhapiaaGreatDoor.Vm
namespace Go.Proofs.YtgifglkkmhapiaaGreatDoor.Vm
open Go.RowKit
def jmo (rows:List Row) (bx:List (List A)) (a:A):Option A:=match ren [] rows a with
 | some a' => some a'
 | none=>match a with
  | .box b off=>match bx[b]? with
   | some cs=>match zM [] rows (cs.drop off) with
    | some cs' => some (.pp (gJ cs'))
    | none=>none
   | none=>none
  | _=>none
def rF (rows:List Row) (bx:List (List A)):List A->Option (List A)
 | []=>some []
 | a :: r=>match jmo rows bx a with
  | some a' => match rF rows bx r with
   | some r' => some (a' :: r')
   | none=>none
  | none=>none
def jpO (c:Cx) (rv:List ResultVar) (post:List (List A)->A->Prop) (s:S):Prop :=
 jla c.T s rv fun r=>match r with
  | .clo f caps=>match rF (jC s.rw (lD caps)) s.bx caps with
   | some caps' => post [] (.clo f caps')
   | none=>False
  | _=>False
def jrG (c:Cx) (rv:List ResultVar) (post:List (List A)->A->Prop) (e:Exit) (s:S):Prop :=
 match e with
 | .ret=>jpO c rv post s
 | .normal=>jpO c rv post s
 | _=>False
theorem jfk {c:Cx} {f:Nat} {fn:Func} {x:Code} {args:List A} {post:List (List A)->A->Prop} (hc:c.ok) (hf:c.P.funcs[f]? = some fn) (hb:fn.body=some x) (hname:(fn.name == "runtime.NumGoroutine")=false)
  (hn:c.np=0) (hq:∀ ch s,¬ c.pan ch s) (hord:kI c.ord x=true) (h:nA args->yY args (fn.ntmps-args.length) fun t=>r5 c x ⟨t,[],[]⟩ (jrG c fn.results.toList post)):Spec c.P f [] args post:=by
 refine⟨nH hf hb hname,fun w C β vals h0 h1 h2 h3 h4 h5 h6 => ?_⟩
 have hβ:β=[]:=List.eq_nil_of_length_eq_zero (by simpa using h4.symm)
 subst hβ
 have hl:=A.repL_len h6
 refine calls_of_wp hf hb ?_
 have hinit:=initK_iff.1 (h (wC _ h6))
 have hinv:Inv [] (.of w) C [] ⟨args++List.replicate (fn.ntmps-args.length) .dead,[],[]⟩ { tmps:=vals.toArray++Array.replicate (fn.ntmps-vals.toArray.size) undef,defers:=[] } w:=by
  refine⟨⟨C,[],[]⟩,⟨h1,Sub.refl _,fun _ _ hc => .inl hc,⟨[],by simp,by simp⟩,h2,h3,h4,h5,rfl,fun g r y hg=>by simp at hg,fun g e k n cs y b hg=>by simp at hg,fun g e k n cs y h' e' k' n' cs' z b _ hg=>by simp at hg,fun g y hg=>by simp at hg,Keeps.refl _ _,jis h0⟩,?_,rfl⟩
  have:(vals.toArray++Array.replicate (fn.ntmps-vals.toArray.size) undef).toList=vals++List.replicate (fn.ntmps-args.length) undef:=by simp[hl]
  rw[this];exact A.repL_append h6 (nC _ _)
 refine gC hc (by rw[hn];rfl) ⟨0,rfl⟩ x (.inl rfl) (fun ch s' _ _ h _=>absurd h (hq ch s')) hord hinv hinit ?_
 have fin:∀ (s':S) (a':Act) (w':World),jpO c fn.results.toList post s'->Inv [] (.of w) C [] s' a' w'->a'.defers=[] /\ ∃ v,(results fn a'.tmps).run c.P w' = .ok v w' /\ ∃ outs r v',Ending.returned v = .returned v'/\post outs r/\Keeps [] w w'/\outs.length=([]:List Nat).length ∧
   (∀ (i b:Nat) (cs:List A),([]:List Nat)[i]? = some b->outs[i]? = some cs->boxAt w' ⟨qU C w w',[],[]⟩ b cs)/\r.rep ⟨qU C w w',[],[]⟩ v':=fun s' a' w' hr ⟨E,hp,ht,hd⟩=>by
  obtain⟨r,v,g1,g2,g3⟩ := jdm (fn:=fn) hc hp ht hr
  refine⟨hd,v,g3,?_⟩
  split at g1
  ·rename_i f' caps
   split at g1
   ·rename_i caps' hcaps
    obtain⟨C1,hp1,le1⟩ := hp.pubs (lD caps)
    have lep:Sub C1 (qU C w w'):=fun ad u hc=>by
     unfold qU
     rcases hp1.fresh0 ad u hc with h7 | h7
     ·rw[if_pos (qB w ad (h1 ad u h7))];exact h7
     ·rw[if_neg (by omega)];exact hp1.sub ad u hc
    have le0:(⟨C1,[],[]⟩ : Env).le ⟨qU C w w',[],[]⟩ := ⟨lep,fun _ _ h=>h,fun _ _ h=>h⟩
    have hY:wS ⟨C1,E.β,E.ρ⟩ [] []:=fun j i hj=>by simp at hj
    have one:∀ (a a2:A) (y:Value),jmo (jC s'.rw (lD caps)) s'.bx a=some a2->a.rep E y->a2.rep ⟨qU C w w',[],[]⟩ y:=fun a a2 y hcp hy=>by
     have hy1:=A.rep.mono a le1 hy
     unfold jmo at hcp
     split at hcp
     ·rename_i a3 hren
      cases hcp
      exact A.rep.mono _ le0 (sO hp1 hY a hren hy1)
     ·split at hcp
      ·rename_i b off _
       split at hcp
       ·rename_i cs hcs
        split at hcp
        ·rename_i cs' hrn
         cases hcp
         unfold A.rep at hy1
         obtain⟨bb,q1,q2⟩ := hy1
         obtain⟨T',arr,q3,q4⟩ := hp1.bxs b bb cs q1 hcs
         have hbb:w.heap.size<=bb:=by
          obtain⟨β',e1,e2⟩ := hp1.bp
          rw[List.nil_append] at e1;exact e2 bb (by rw[<- e1];exact List.mem_iff_getElem?.2 ⟨b,q1⟩)
         unfold A.rep;refine⟨bb,off,q2,?_⟩
         have q5:=jaJ q4.1 off
         have q6:A.repC (gJ cs') ⟨C1,[],[]⟩ (arr.toList.drop off):=A.repC_mk (wJ hp1 hY (gJ (cs.drop off)) (jf2 hrn) (A.repC_L q5)) (A.repC_one q5)
         refine A.repAt_mk (E:=(⟨qU C w w',[],[]⟩ : Env).per) (A.repC.mono _ le0 q6) fun j u hj => ?_
         show qU C w w' _=_
         rw[ja7 hbb];rw[List.getElem?_drop] at hj;simp only[kJ,World.cell?,q3]
         simpa using hj
        ·cases hcp
       ·cases hcp
      ·cases hcp
    have all:∀ (l l2:List A) (us:List Value),rF (jC s'.rw (lD caps)) s'.bx l=some l2->A.repL l E us->A.repL l2 ⟨qU C w w',[],[]⟩ us:=fun l=>by
     induction l with
     | nil =>
      intro l2 us h7 h8;unfold rF at h7
      cases h7
      unfold A.repL at h8 ⊢;exact h8
     | cons a l ih =>
      intro l2 us h7 h8;unfold rF at h7
      split at h7
      ·rename_i a' ha
       split at h7
       ·rename_i r' hr'
        cases h7
        unfold A.repL at h8 ⊢
        obtain⟨u,us',rfl,q1,q2⟩ := h8
        exact⟨u,us',rfl,one _ _ _ ha q1,ih _ _ hr' q2⟩
       ·cases h7
      ·cases h7
    refine⟨[],_,v,rfl,g1,hp.keep0,rfl,fun i b cs hb=>by simp at hb,?_⟩;unfold A.rep at g2 ⊢
    obtain⟨us,q1,q2⟩ := g2
    exact⟨us,q1,all _ _ _ hcaps q2⟩
   ·exact g1.elim
  ·exact g1.elim
 intro e s' a' w' hq hi
 cases e with
 | normal=>exact fin s' a' w' hq hi
 | ret=>exact fin s' a' w' hq hi
 | _=>exact hq.elim
theorem jj9 (s:ByteArray):Spec Tryz.prog 39 [] [.v (.string s)] fun _ r=>r = .clo 57 [.pp [.v (.string s)],.pp (qD classOf)]:=by
 refine jfk (jF jH jY 0) Tryz.func39 rfl (by kernel_rfl) rfl (fun _ _ h=>h) (by kernel_rfl) ?_;intro _
 have hcl:=jcL
 have hpl:=tO classOf
 have hlen:=yK classOf
 have hu:gJ (qD classOf)=qD classOf:=by kernel_rfl
 generalize qD classOf=L at *;conv=>whnf
 refine yI [] hcl ?_;rintro r rfl;rw[show back [] (A.agg L) = .agg L from by unfold back;rw[rD hpl]];conv=>whnf
 rw[hlen];conv=>whnf
 refine mC (ds:=L) [] (by rw[hlen];rfl) ?_;rw[List.nil_append];conv=>whnf
 have hcp:rF ([]:List Row) [[A.v (Value.string s)],L] [A.box 0 0,A.box (0+1) 0]=some [.pp [.v (.string s)],.pp L]:=by
  have h1:zM [] ([]:List Row) (L.drop 0)=some L:=by rw[List.drop_zero];exact lS hpl
  simp[rF,jmo,ren,idx,zM] at h1 ⊢
  rw[h1]
  show some [A.pp [.v (.string s)],.pp (gJ L)]=_
  rw[hu]
 change (match rF ([]:List Row) [[A.v (Value.string s)],L] [A.box 0 0,A.box (0+1) 0] with
  | some caps' => A.clo 57 caps'=A.clo 57 [.pp [.v (.string s)],.pp L]
  | none=>False)
 rw[hcp]
section
def ppS (nr:Nat) (cs:List A) (a:A):A:=match a with
 | .box b off=>match b with
  | 0 => .pp (cs.drop off)
  | _+1 => .dead
 | a=>match yC 0 nr a with
  | true=>a
  | false => .dead
theorem c9 {t:List A} {cs cs':List A} {rw:List Row} (hcs:zM [] rw cs=some cs') (hna:gJ cs'=cs':=by rfl):Le 0 ⟨t,[cs],rw⟩ ⟨t.map (ppS rw.length cs'),[],rw⟩ := by
 rintro dr w0 C0 β0 a w hdr hn ⟨E,hp,hrep,hd⟩
 obtain rfl:β0=[]:=List.eq_nil_of_length_eq_zero hn
 have hbl:=hp.bl
 obtain⟨b,hβ⟩ : ∃ b,E.β=[b]:=by
  have:E.β.length=1:=by rw[<- hbl];rfl
  exact List.length_eq_one_iff.1 this
 have h0:E.β[0]? = some b:=by rw[hβ];rfl
 obtain⟨T',arr,q1,q2⟩ := hp.bxs 0 b cs h0 rfl
 have hbm:b ∈ E.β:=by rw[hβ];simp
 have hb0:w0.w.heap.size<=b:=by
  obtain⟨β',e1,e2⟩ := hp.bp
  rw[List.nil_append] at e1;exact e2 b (by rw[<- e1];exact hbm)
 obtain⟨C',hC'⟩ : ∃ C':Rd,C'=fun ad=>if ad.block=b then (kJ w) ad else E.C ad:=⟨_,rfl⟩
 have hsub:Sub E.C C':=fun ad u hc=>by
  rw[hC']
  simp only
  split
  ·exact hp.sub ad u hc
  ·exact hc
 have le:(⟨E.C,[],E.ρ⟩ : Env).le ⟨C',[],E.ρ⟩ := ⟨hsub,fun _ _ h=>h,fun _ _ h=>h⟩
 have hat:A.repAt cs' ⟨C',[],[]⟩ b 0:=by
  have hY:wS E [] []:=fun j i hj=>by simp at hj
  have q3:A.repC cs' ⟨E.C,[],[]⟩ arr.toList:=by
   have:=(q2.ren hp hY hcs).1
   rwa [hna] at this
  refine A.repAt_mk (E:=⟨C',[],[]⟩) (A.repC.mono _ (E:=⟨E.C,[],[]⟩) (F:=⟨C',[],[]⟩) ⟨hsub,fun _ _ h=>h,fun _ _ h=>h⟩ q3) fun j u hj => ?_
  show C' _=_
  rw[hC'];simp only[if_true,Nat.zero_add];simp only[kJ,World.cell?,q1]
  simpa using hj
 have hd':repD dr ⟨C',[],E.ρ⟩ a.defers:=by
  have h1:=fR (E:=E) (nb:=0) (nr:=E.ρ.length) (Nat.le_refl 0) hdr hd
  rw[List.take_zero,List.take_length] at h1;exact h1.mono le
 refine⟨⟨C',[],E.ρ⟩,⟨fun ad u hc => ?_,hp.base.trans hsub,fun ad u hc => ?_,⟨[],rfl,by simp⟩,List.nodup_nil,fun b hb=>by simp at hb,rfl,fun i b cs hb=>by simp at hb,hp.rl,fun g r y h1 h2 => ?_,fun g e k n cs y b' h1 h2 h3=>⟨by simp,fun o sp => ?_⟩,hp.rd,hp.rs,hp.keep,hp.gk⟩,?_,hd'⟩
 ·rw[hC'] at hc
  simp only at hc
  split at hc
  ·exact hc
  ·exact hp.sub ad u hc
 ·rw[hC'] at hc
  simp only at hc
  split at hc
  ·rename_i e
   exact .inr (.inl (by rw[e];exact hb0))
  ·exact hp.fresh ad u hc
 ·have hr:=hp.rws g r y h1 h2
  cases r with
  | live e k n cs =>
   obtain⟨xs,g1,g2⟩ := hr
   exact⟨xs,g1,A.repC.mono cs (E:=⟨E.C,[],[]⟩) (F:=⟨C',[],[]⟩) ⟨hsub,fun _ _ h=>h,fun _ _ h=>h⟩ g2⟩
  | pub k n cs =>
   have hr:(A.sl k n cs).rep E y:=hr
   show (A.sl k n cs).rep _ y
   unfold A.rep at hr ⊢
   obtain⟨g1,g2,p,bb,off,cap,g3,g4,g5,g6,g7⟩ := hr
   exact⟨g1,g2,p,bb,off,cap,g3,g4,g5,g6,A.repAt.mono cs (E:=⟨E.C,[],[]⟩) (F:=⟨C',[],[]⟩) ⟨hsub,fun _ _ h=>h,fun _ _ h=>h⟩ g7⟩
  | gone=>exact trivial
 ·have hr:=hp.rC g e k n cs y b' h1 h2 h3
  have hne : ¬ b'=b:=fun e' => hr.1 (by rw[e'];exact hbm)
  rw[hC'];simp only[if_neg hne];exact hr.2 o sp
 ·have one:∀ (a:A) (y:Value),a.rep E y->(ppS rw.length cs' a).rep ⟨C',[],E.ρ⟩ y:=fun a y ha=>by
   have gen:(∀ b off,a ≠ .box b off)->(ppS rw.length cs' a).rep ⟨C',[],E.ρ⟩ y:=fun hnb=>by
    have e:ppS rw.length cs' a=match yC 0 rw.length a with | true=>a | false => .dead:=by
     cases a <;> first | rfl | exact absurd rfl (hnb _ _)
    rw[e]
    split
    ·rename_i hrf
     have:=eJ (nb:=0) (nr:=rw.length) a hrf ha
     refine A.rep.mono a le ?_
     have e2:E.ρ.take rw.length=E.ρ:=by rw[hp.rl];exact List.take_length
     rw[e2] at this
     simpa using this
    ·exact A.rep_dead _ _
   cases a with
   | box b' off =>
    unfold A.rep at ha
    obtain⟨bb,g1,g2⟩ := ha
    cases b' with
    | zero =>
     rw[h0] at g1
     cases g1
     show (A.pp (cs'.drop off)).rep _ y
     unfold A.rep;refine⟨b,off,g2,?_⟩
     have:=A.repAt_drop off hat
     rwa [Nat.zero_add] at this
    | succ n=>exact A.rep_dead _ _
   | _=>exact gen (by intros;simp)
  have all:∀ (l:List A) (us:List Value),A.repL l E us->A.repL (l.map (ppS rw.length cs')) ⟨C',[],E.ρ⟩ us:=fun l=>by
   induction l with
   | nil=>intro us h;simpa [A.repL] using h
   | cons a l ih =>
    intro us h;simp only[List.map_cons];unfold A.repL at h ⊢
    obtain⟨u,us',rfl,h1,h2⟩ := h
    exact⟨u,us',rfl,one a u h1,ih us' h2⟩
  exact all _ _ hrep
theorem jcn {n:Nat} {P:Program} {row:String} {args:Array Value} {w:World} {R:Value->World->Prop} (h:Rows P row args w R):RowsIn Fence.wide n P row args w R :=
 fun c cs _=>let ⟨v,w',r,s⟩ := h c cs;⟨v,w',r,stepsIn_wide.2 s⟩
theorem jnL {n:Nat} {P:Program} {o:Oper} {a:Act} {w:World} {K:Act->World->Prop} {Q:Exit->Act->World->Prop} (h:o.wp P a w K Q):o.wpIn Fence.wide n P a w K Q:=by
 refine⟨fun _ _=>trivial,?_⟩
 have e:o.semAt Fence.wide.round a.eval=execOp a.eval o:=rfl
 rw[e];unfold Oper.wp at h;generalize (execOp a.eval o).run P w=r at *
 match r,h with
 | .ok (.value v) w',h=>exact h
 | .ok .skip w',h=>exact h
 | .ok (.defer d) w',h=>exact h
 | .ok (.enter f args) w',h=>exact⟨fun h' => by simp[Fence.wide] at h',callsIn_wide.2 h⟩
 | .ok (.row row args) w',h=>exact⟨fun h' => by simp[Fence.wide] at h',jcn h⟩
 | .halt (.panic v) w',h=>exact h
section
variable {c:Cx} {w0:W0} {C0:Rd} {β0:List Nat} {s:S} {a:Act} {w:World} {E:Env} {o:Oper} {n:Nat}
theorem jap {ops:List Oper} {Q:Exit->Act->World->Prop} (hc:c.okN) (l2:List Oper):∀ {l:List Oper} {s:S} {a:Act} {w:World} {K:S->Prop},Inv [] w0 C0 β0 s a w->iY c ops l s K->(∀ s' a' w',K s'->Inv [] w0 C0 β0 s' a' w'->wpListIn Fence.wide n c.P ops.toArray Q l2 a' w')->wpListIn Fence.wide n c.P ops.toArray Q (l++l2) a w
 | [],s,a,w,K,hi,h,hk=>hk s a w h hi
 | o :: r,s,a,w,K,hi,h,hk=>by
  obtain⟨E,hp,ht,hd⟩ := hi
  change nW ops o s (ado c (fun _=>true) s o fun s' => iY c ops r s' K) (kT s o.dst (.tup []) fun s' => iY c ops r s' K) at h
  show wpListIn Fence.wide n c.P ops.toArray Q (o :: (r++l2)) a w
  unfold wpListIn
  rcases xZ ht h with ⟨h1,h2⟩ | ⟨h1,h2⟩
  ·rw[if_pos h1];exact jnL (jeb hc.ok ⟨0,rfl⟩ ⟨E,hp,ht,hd⟩ h2 (fun ch s' _ _ h _=>absurd h (hc.no ch s')) fun s' a' w' h3 h4=>jap hc l2 h4 h3 hk)
  ·rw[if_neg (by rw[h1];simp)]
   obtain⟨s2,k1,k2,k3,k4,k5⟩ := qV (a:=a) hp ht hd (kY _) h2
   exact⟨fun _ _=>trivial,jap hc l2 ⟨E,by rw[k2,k3];exact hp,k4,k5⟩ k1 hk⟩
theorem jeU {x:Code} {q:Exit->S->Prop} {Q:Exit->Act->World->Prop} (hc:c.okN) (hn:β0.length=c.np) (ho:kI c.ord x=true) (hi:Inv [] w0 C0 β0 s a w) (h:r5 c x s q) (hk:∀ e s' a' w',q e s'->Inv [] w0 C0 β0 s' a' w'->Q e a' w'):x.wpIn Fence.wide n c.P Q a w :=
 wpIn_wide.2 (gC hc.ok hn ⟨0,rfl⟩ x (.inl rfl) (fun ch s' _ _ h _=>absurd h (hc.no ch s')) ho hi h hk)
theorem Inv.le {s':S} {np:Nat} (hi:Inv [] w0 C0 β0 s a w) (h:Le np s s') (hn:β0.length=np):Inv [] w0 C0 β0 s' a w:=h [] w0 C0 β0 a w rfl hn hi
theorem Inv.again {t:List A} {C:Rd} {u0:World} (hi:Inv [] (.of u0) C [] ⟨t,[],[]⟩ a w):∃ C',Sub C C'/\Sub C' (kJ w)/\(∀ ad u,C' ad=some u->C ad=some u ∨ u0.heap.size<=ad.block)/\Keeps [] u0 w/\Gok C' w /\ ∀ w',Sub C' (kJ w')->Gok C' w'->Inv [] (.of w') C' [] ⟨t,[],[]⟩ a w':=by
 obtain⟨E,hp,ht,hd⟩ := hi
 have hβ:E.β=[]:=List.eq_nil_of_length_eq_zero (by rw[<- hp.bl];rfl)
 have hρ:E.ρ=[]:=List.eq_nil_of_length_eq_zero (by rw[<- hp.rl];rfl)
 refine⟨E.C,hp.base,hp.sub,hp.fresh0,hp.keep0,hp.gok,fun w' hw' hg' => ⟨⟨E.C,[],[]⟩,⟨hw',Sub.refl _,fun _ _ h => .inl h,⟨[],rfl,by simp⟩,List.nodup_nil,fun b hb=>by simp at hb,rfl,fun i b cs hb=>by simp at hb,rfl,fun g r y hg=>by simp at hg,fun g e k n cs y b hg=>by simp at hg,fun g e k n cs y h' e' k' n' cs' z b _ hg=>by simp at hg,fun g y hg=>by simp at hg,Keeps.refl _ _,jis hg'⟩,?_,hd⟩⟩
 have:E = ⟨E.C,[],[]⟩ := by
  obtain⟨C',β',ρ'⟩ := E
  simp only at hβ hρ
  rw[hβ,hρ]
 rw[this] at ht;exact ht
end
end
section
def bM (B:Nat) (W:World) (b:Nat):Prop:=b=B ∨ ∃ a l c,W.cell? ⟨B,0,none⟩ = some (.slice (some a) l c)/\a.block=b
def ValB (B:Nat) (W:World):Prop:=(∃ o,W.heap[B]? = some o/\o.isCells=true) /\ ∀ b,bM B W b->b<W.heap.size
def rN (o:Obj):Bool:=o.isCells || o.isWalk
theorem jkg {o:Obj} (h:o.isCells=false) (k:o.isWalk=false):rN o=false:=by simp[rN,h,k]
theorem jes {o:Obj} (h:o.isCells=true):rN o=true:=by simp[rN,h]
def KpB (B:Nat) (W W':World):Prop:=ValB B W->ValB B W'/\W.heap.size<=W'.heap.size/\(∀ b,bM B W' b->bM B W b ∨ W.heap.size<=b) /\ ∀ b o,W.heap[b]? = some o->rN o=true -> ¬ bM B W b->W'.heap[b]? = some o
theorem xN {W:World} {b:Nat} {o:Obj} (h:W.heap[b]? = some o):b<W.heap.size:=(Array.getElem?_eq_some_iff.1 h).1
theorem ValB.lt {B:Nat} {W:World} (h:ValB B W):B<W.heap.size:=h.2 B (.inl rfl)
theorem KpB.refl (B:Nat) (W:World):KpB B W W:=fun h=>⟨h,Nat.le_refl _,fun _ h => .inl h,fun _ _ h _ _=>h⟩
theorem KpB.trans {B:Nat} {a b c:World} (h:KpB B a b) (k:KpB B b c):KpB B a c:=fun hv=>by
 obtain⟨h1,h2,h3,h4⟩ := h hv
 obtain⟨k1,k2,k3,k4⟩ := k h1
 refine⟨k1,Nat.le_trans h2 k2,fun x hx => ?_,fun x o hx ho hn=>k4 x o (h4 x o hx ho hn) ho fun ho' => ?_⟩
 ·rcases k3 x hx with hx | hx
  ·exact h3 x hx
  ·exact .inr (by omega)
 ·rcases h3 x ho' with hx' | hx'
  ·exact hn hx'
  ·have:=xN hx
   omega
theorem fO {B:Nat} {W W':World} (h:W'.heap[B]? = W.heap[B]?) (b:Nat):bM B W' b ↔ bM B W b:=by
 have:W'.cell? ⟨B,0,none⟩ = W.cell? ⟨B,0,none⟩ := World.cell?_of_block (w:=W) h
 unfold bM;rw[this]
theorem KpB.put {B:Nat} (W:World) (l:Nat) (o o':Obj) (hl:W.heap[l]? = some o) (ho:rN o=false):KpB B W (W.putObj l o'):=fun hv=>by
 obtain⟨⟨ob,h1,h2⟩,h3⟩ := hv
 have hne:∀ (b:Nat) (ob:Obj),W.heap[b]? = some ob->rN ob=true->(W.putObj l o').heap[b]? = W.heap[b]? := fun b ob h1 h2=>by
  refine World.putObj_heap_other ?_;rintro rfl;rw[hl] at h1
  cases h1
  rw[ho] at h2
  cases h2
 have hsz:(W.putObj l o').heap.size=W.heap.size:=by simp[World.putObj]
 have hB:=hne B ob h1 (jes h2)
 refine⟨⟨⟨ob,by rw[hB];exact h1,h2⟩,fun b hb => ?_⟩,by omega,fun b hb => .inl ((fO hB b).1 hb),fun b o hb hoc _=>(hne b o hb hoc).trans hb⟩;rw[hsz];exact h3 b ((fO hB b).1 hb)
theorem ValB.keeps {B:Nat} {W W':World} (h:ValB B W) (k:Keeps [] W W'):ValB B W' /\ ∀ b,bM B W' b ↔ bM B W b:=by
 have hB:=k.block B h.lt (by simp)
 refine⟨⟨?_,fun b hb => ?_⟩,fun b=>fO hB b⟩
 ·rw[hB];exact h.1
 ·have:=h.2 b ((fO hB b).1 hb)
  have:=k.size
  omega
theorem KpB.keeps {B:Nat} {W W':World} (k:Keeps [] W W'):KpB B W W':=fun hv=>by
 obtain⟨h1,h2⟩ := hv.keeps k
 exact⟨h1,k.size,fun b hb => .inl ((h2 b).1 hb),fun b o hb _ _=>(k.block b (xN hb) (by simp)).trans hb⟩
theorem tK {W:World} {ad:Addr} {u:Value} (h:(kJ W) ad=some u):∃ o,W.heap[ad.block]? = some o/\rN o=true:=by
 unfold kJ at h
 split at h
 ·unfold World.cell? at h
  split at h
  ·rename_i c e f ho
   exact⟨_,ho,rfl⟩
  ·cases h
 ·unfold aN at h
  split at h
  ·rename_i es c ho
   exact⟨_,ho,rfl⟩
  ·cases h
theorem wA {β:Type} {n:Nat} {J:β->World->Prop} (h:AbidesFrom n J) {s:β} {W W':World} (hj:J s W) (k:Keeps [] W W'):J s W' :=
 h s W W' none hj ⟨k.os,k.tape,k.output,k.size,fun b hb _=>k.block b hb (by simp)⟩ fun r hr=>by cases hr
section
variable {w0:W0} {w:World} {C:Rd} {t:List A} {a:Act} {B:Nat}
theorem Inv.yielded {u0:World} (hi:Inv [] (.of u0) C [] ⟨t,[],[]⟩ a w) (hv:ValB B u0) (hno:∀ ad u,C ad=some u -> ¬ bM B u0 ad.block):Keeps [] u0 w /\ ∀ w2,KpB B w w2 -> ∃ C',Inv [] (.of w2) C' [] ⟨t,[],[]⟩ a w2/\ValB B w2 /\ ∀ ad u,C' ad=some u -> ¬ bM B w2 ad.block:=by
 obtain⟨C',h1,h2,h3,h4,hg,h5⟩ := hi.again
 refine⟨h4,fun w2 hk => ?_⟩
 obtain⟨v1,v2⟩ := hv.keeps h4
 obtain⟨k1,k2,k3,k4⟩ := hk v1
 have hn:∀ ad u,C' ad=some u -> ¬ bM B w ad.block:=fun ad u hc ho=>by
  have ho:=(v2 _).1 ho
  rcases h3 ad u hc with q | q
  ·exact hno ad u q ho
  ·have:=hv.2 _ ho
   omega
 refine⟨C',h5 w2 (fun ad u hc => ?_) (hg.blocks fun b cs T sp q1 ⟨u,hc⟩=>k4 _ _ q1 rfl (hn _ u hc)),k1,fun ad u hc ho => ?_⟩
 ·obtain⟨o,q1,q2⟩ := tK (h2 ad u hc)
  have:=k4 _ o q1 q2 (hn ad u hc)
  exact (gU (w:=w) (this.trans q1.symm)).trans (h2 ad u hc)
 ·rcases k3 _ ho with q | q
  ·exact hn ad u hc q
  ·obtain⟨o,q1,q2⟩ := tK (h2 ad u hc)
   have:=xN q1
   omega
theorem oI {C0:Rd} {β0:List Nat} {s:S} (hi:Inv [] w0 C0 β0 s a w) {i:Nat} {v:Value} (h:s.t.getD i .dead = .v v):a.tmps.getD i undef=v:=by
 obtain⟨E,_,ht,_⟩ := hi
 have:=A.repL_getD ht i undef
 rw[h] at this
 have:=(A.rep_v_iff.1 this).1
 simpa [Array.getD_eq_getD_getElem?,List.getD_eq_getElem?_getD] using this
theorem jfd {n l:Nat} {P:Program} {ops:Array Oper} {o:Oper} {rest:List Oper} {f:Operand} {args:Array Operand} {ts:Array TypeId} {vals:Array Value} {Q:Exit->Act->World->Prop} {R:Ending->World->Prop}
  (ho:o.op = .call ⟨.value f,args,ts⟩) (hg:o.guard=none) (hf:a.eval f = .func (.yield l) #[] #[]) (hv:args.map a.eval=vals) (hy:YieldAt Fence.wide (n-1) P l vals w R)
  (hk:∀ e w',R e w' -> ∃ v,e = .returned v/\wpListIn Fence.wide n P ops Q rest (a.put o.dst v) w'):wpListIn Fence.wide n P ops Q (o :: rest) a w:=by
 unfold wpListIn;rw[if_pos (by simp[Region.wanted,hg])]
 obtain⟨fn,tmps,assign,body,h1,h2⟩ := hy
 refine⟨fun _ _=>trivial,?_⟩
 have e:o.semAt Fence.wide.round a.eval=execOp a.eval o:=rfl
 rw[e]
 have hrun:(execOp a.eval o).run P w = .ok (.round l fn tmps assign body) w:=by
  rw[<- h1,<- hv]
  simp[execOp,ho,resolve,Deferred.ofValue,hf,invoke,Result.andThen]
 rw[hrun];refine⟨fun h' => by simp[Fence.wide] at h',h2.mono fun e w' hr => ?_⟩
 obtain⟨v,rfl,hw⟩ := hk e w' hr
 exact hw
theorem jiB {W:World} {C:Rd} (h0:Gok C W) (h1:Sub C (kJ W)) {args:List A} {vals:Array Value} {n:Nat} (h6:A.repL args ⟨C,[],[]⟩ vals.toList) :
  Inv [] (.of W) C [] ⟨args++List.replicate (n-args.length) .dead,[],[]⟩ { tmps:=vals++Array.replicate (n-vals.size) undef,defers:=[] } W:=by
 have hl:=A.repL_len h6
 refine⟨⟨C,[],[]⟩,⟨h1,Sub.refl _,fun _ _ hc => .inl hc,⟨[],by simp,by simp⟩,List.nodup_nil,fun b hb=>by simp at hb,rfl,fun i b cs hb=>by simp at hb,rfl,fun g r y hg=>by simp at hg,fun g e k n cs y b hg=>by simp at hg,fun g e k n cs y h' e' k' n' cs' z b _ hg=>by simp at hg,fun g y hg=>by simp at hg,Keeps.refl _ _,jis h0⟩,?_,rfl⟩
 have:(vals++Array.replicate (n-vals.size) undef).toList=vals.toList++List.replicate (n-args.length) undef:=by
  have:vals.size=args.length:=by rw[<- hl];simp
  simp[this]
 rw[this];exact A.repL_append h6 (nC _ _)
theorem jcM {C0:Rd} {β0:List Nat} {s:S} {F:Fence} {n:Nat} {P:Program} {x y:Code} {Q:Exit->Act->World->Prop} (hi:Inv [] w0 C0 β0 s a w) {w2:World} {i:Nat} {b:Bool} (h:s.t.getD i .dead = .v (.bool b)) (hk:(if b then x else y).wpIn F n P Q a w2):(Code.cond (.tmp i) x y).wpIn F n P Q a w2 :=
 wpIn_cond (oI hi h) hk
theorem sN {c:Cx} {C0:Rd} {β0:List Nat} {s:S} {n:Nat} {x y:Code} {Q:Exit->Act->World->Prop} (hc:c.okN) (hn:β0.length=c.np) (hi:Inv [] w0 C0 β0 s a w) (ho:kI c.ord x=true)
  (h:r5 c x s fun e s' => ∀ a' w',Inv [] w0 C0 β0 s' a' w'->Exit.then (y.wpIn Fence.wide n c.P Q) Q e a' w'):(Code.seq x y).wpIn Fence.wide n c.P Q a w :=
 wpIn_seq (jeU hc hn ho hi h fun e s' a' w' h1 h2=>h1 a' w' h2)
theorem jde {c:Cx} {C0:Rd} {β0:List Nat} {l:List A} {m:Nat} {bx:List (List A)} {n:Nat} {x y:Code} {Q:Exit->Act->World->Prop} (hc:c.okN) (hn:β0.length=c.np) (hi:Inv [] w0 C0 β0 ⟨l++List.replicate m .dead,bx,[]⟩ a w) (ho:kI c.ord x=true)
  (h:yY l m fun t=>r5 c x ⟨t,bx,[]⟩ fun e s' => ∀ a' w',Inv [] w0 C0 β0 s' a' w'->Exit.then (y.wpIn Fence.wide n c.P Q) Q e a' w'):(Code.seq x y).wpIn Fence.wide n c.P Q a w :=
 sN hc hn hi ho ((initK_iff (K:=fun t=>r5 c x ⟨t,bx,[]⟩ _)).1 h)
theorem jdp {c:Cx} {C0:Rd} {β0:List Nat} {s:S} {n:Nat} {ops l:List Oper} {Q:Exit->Act->World->Prop} (m:Nat) (hc:c.okN) (hi:Inv [] w0 C0 β0 s a w)
  (h:iY c ops (l.take m) s fun s' => ∀ a' w',Inv [] w0 C0 β0 s' a' w'->wpListIn Fence.wide n c.P ops.toArray Q (l.drop m) a' w'):wpListIn Fence.wide n c.P ops.toArray Q l a w:=by
 have:=jap (n:=n) (Q:=Q) hc (l.drop m) hi h fun s' a' w' h1 h2=>h1 a' w' h2
 rwa [List.take_append_drop] at this
theorem jng {c:Cx} {C0:Rd} {β0:List Nat} {bx:List (List A)} {l0:List A} {m0 n:Nat} {ops l:List Oper} {Q:Exit->Act->World->Prop} (m:Nat) (hc:c.okN) (hi:Inv [] w0 C0 β0 ⟨l0++List.replicate m0 .dead,bx,[]⟩ a w)
  (h:yY l0 m0 fun t=>iY c ops (l.take m) ⟨t,bx,[]⟩ fun s' => ∀ a' w',Inv [] w0 C0 β0 s' a' w'->wpListIn Fence.wide n c.P ops.toArray Q (l.drop m) a' w'):wpListIn Fence.wide n c.P ops.toArray Q l a w :=
 jdp m hc hi ((initK_iff (K:=fun t=>iY c ops (l.take m) ⟨t,bx,[]⟩ _)).1 h)
theorem joi {C0:Rd} {β0:List Nat} {s:S} {d:Option Nat} {v:Value} {G:Act->Prop} (hi:Inv [] w0 C0 β0 s a w) (hv:dG v) (h:kT s d (.v v) fun s' => ∀ a',Inv [] w0 C0 β0 s' a' w->G a'):G (a.put d v):=by
 obtain⟨E,hp,ht,hd⟩ := hi
 obtain⟨s2,k1,k2,k3,k4,k5⟩ := qV (a:=a) hp ht hd (A.rep_v hv) h
 exact k1 _ ⟨E,by rw[k2,k3];exact hp,k4,k5⟩
def jrE (s:S) (K:S->Prop):Prop:=K s
def joE (c:Cx) (ops:List Oper) (o:Oper) (ih:S->(S->Prop)->Prop) (s:S) (K:S->Prop):Prop :=
 nW ops o s (jcA c s o fun r=>kT s o.dst r fun s' => ih s' K) (kT s o.dst (.tup []) fun s' => ih s' K)
noncomputable def apu (c:Cx) (ops:List Oper) (l:List Oper):S->(S->Prop)->Prop:=List.rec (motive:=fun _=>S->(S->Prop)->Prop) jrE (fun o _ ih=>joE c ops o ih) l
theorem lV {c:Cx} {C0:Rd} {β0:List Nat} {n:Nat} {ops:List Oper} {Q:Exit->Act->World->Prop} (hc:c.ok) {w2:World} : ∀ {l:List Oper} {s:S} {a:Act},Inv [] w0 C0 β0 s a w->apu c ops l s (fun s' => ∀ a',Inv [] w0 C0 β0 s' a' w->Q .normal a' w2)->wpListIn Fence.wide n c.P ops.toArray Q l a w2
 | [],s,a,hi,h=>h a hi
 | o :: r,s,a,⟨E,hp,ht,hd⟩,h=>by
  change joE c ops o (apu c ops r) s _ at h
  unfold joE at h;unfold wpListIn
  rcases xZ ht h with ⟨h1,h2⟩ | ⟨h1,h2⟩
  ·rw[if_pos h1]
   obtain⟨x,y,k1,k2,k3⟩ := jf0 hc hp ht h2
   obtain⟨s2,p1,p2,p3,p4,p5⟩ := qV (a:=a) hp ht hd k2 k1
   refine⟨fun _ _=>trivial,?_⟩
   have e:o.semAt Fence.wide.round a.eval=execOp a.eval o:=rfl
   rw[e,k3 w2];exact lV hc ⟨E,by rw[p2,p3];exact hp,p4,p5⟩ p1
  ·rw[if_neg (by rw[h1];simp)]
   obtain⟨s2,p1,p2,p3,p4,p5⟩ := qV (a:=a) hp ht hd (kY _) h2
   exact⟨fun _ _=>trivial,lV hc ⟨E,by rw[p2,p3];exact hp,p4,p5⟩ p1⟩
theorem pT {E:Env} : ∀ {vs us:List Value},A.repC (vs.map A.v) E us->us=vs
 | [],us,h=>by unfold A.repC at h;exact h
 | v :: vs,us,h=>by
  rw[List.map_cons] at h;unfold A.repC at h
  obtain⟨u,us',rfl,_,h2,h3⟩ := h
  rw[(A.rep_v_iff.1 h2).1,pT h3]
theorem jkF {C0:Rd} {β0:List Nat} {s:S} (hi:Inv [] w0 C0 β0 s a w) {i:Nat} {vs:List Value} (h:s.t.getD i .dead = .agg (vs.map A.v)):a.tmps.getD i undef = .agg vs.toArray:=by
 obtain⟨E,_,ht,_⟩ := hi
 have:=A.repL_getD ht i undef
 rw[h] at this;unfold A.rep at this
 obtain⟨us,h1,h2⟩ := this
 have h3:=pT h2
 have:a.tmps.getD i undef = .agg us:=by simpa [Array.getD_eq_getD_getElem?,List.getD_eq_getElem?_getD] using h1
 rw[this,<- h3]
end
end
structure It where
 tok:Tk
 pos:Nat
 err:Int
def jjf (t:Tk):Value := .agg #[.int .i64 t.kind,.int .i64 t.pos,.string t.text,.int .i64 t.n]
def clP (n:Nat):Nat:=if n<=1000000000 then n else 0
def clE (e:Int):Int:=if 0<=e/\e<=100 then e else 0
theorem jhj (n:Nat):clP n<=1000000000:=by unfold clP;split <;> omega
theorem jhi (e:Int):0<=clE e/\clE e<=100:=by unfold clE;split <;> omega
def jk2 (x:It):Array Value := #[jjf x.tok,.agg #[.int .i64 (clP x.pos:Nat),.int .i64 (clE x.err)]]
theorem jfu {l:List UInt8} {e:Int} (h:j9 l = .bad e):0<=e/\e<=100:=by
 cases l with
 | nil=>simp[j9] at h;omega
 | cons c r =>
  cases hL:isL c
  ·cases hD:yN c
   ·cases h3:kH aP (bs ((c :: r).take 2))
    ·cases h4:kH r8 (bs [c])
     ·simp only[j9,hL,hD,h3,h4] at h
      cases h;decide
     ·simp only[j9,hL,hD,h3,h4] at h
      cases h
    ·simp only[j9,hL,hD,h3] at h
     cases h
   ·simp only[j9,hL,hD] at h
    split at h
    ·cases h;decide
    ·cases h
  ·simp only[j9,hL] at h
   split at h
   ·cases h;decide
   ·cases h
def itOk (t:Tk):It:=⟨t,t.pos,0⟩
def aB (s:ByteArray) (xs:List It):Prop:=match (qW s).err with
 | none=>xs=(qW s).toks.map itOk
 | some (p,e) => ∃ t,xs=(qW s).toks.map itOk++[⟨t,p,e⟩]
def iU (s:ByteArray) (xs:List It):Prop := ∃ ys,aB s ys/\xs <+: ys
theorem jaN:∀ (l:List UInt8) (n:Int),n<=2147483647->gG n l<=2147483647
 | [],n,h=>h
 | c :: r,n,h=>by
  unfold gG
  split
  ·omega
  ·exact jaN r _ (by omega)
def jlk (l:Nat) (s:ByteArray) (L:List A) (p:Nat):List A:=[.v (.func (.yield l) #[] #[]),.pp [.v (.string s)],.pp L,.dead,.v (.int .i64 p)]++List.replicate 108 .dead
theorem jfa (s:ByteArray) (hs:s.size<=1000000000) (n B:Nat) (lb:Array Value) (w0:World) (C:Rd) (hv:ValB B w0) (hsub:Sub C (kJ w0)) (hg:Gok C w0) (hno:∀ ad u,C ad=some u -> ¬ bM B w0 ad.block)
  (hrep:A.repL [.pp [.v (.string s)],.pp (qD classOf)] ⟨C,[],[]⟩ lb.toList) :
  SeqStopsK Fence.wide n Tryz.prog 57 lb jk2 (KpB B) (aB s) (iU s) s.size w0:=by
 intro l J Jx W hW hJ hJx hY h0
 have hsl:=kP s
 have keepW:Keeps [] w0 W:=⟨hW.os,hW.tape,hW.output,hW.size,fun b hb _=>hW.block b hb⟩
 have hsubW:Sub C (kJ W):=fun ad u hc=>keepW.cell (hsub ad u hc) (by simp)
 have hgW:Gok C W:=hg.keep keepW (by simp)
 have hvW:ValB B W /\ ∀ b,bM B W b ↔ bM B w0 b:=by
  refine hv.keeps ⟨hW.os,hW.tape,hW.output,hW.size,fun b hb _=>hW.block b hb⟩
 have hnoW:∀ ad u,C ad=some u -> ¬ bM B W ad.block:=fun ad u hc ho=>hno ad u hc ((hvW.2 _).1 ho)
 obtain⟨L,hL⟩ : ∃ L,L=qD classOf:=⟨_,rfl⟩
 rw[<- hL] at hrep
 have hc:(Cx.mk Tryz.prog tab jof (fun _=>[0]) 0 (fun _ _=>False)).okN:=jjW jof (fun _=>[0]) 0
 refine callsIn_of_wp Tryz.func57 rfl trivial ?_
 have hi:=jiB (n:=113) hgW hsubW (args:=[.v (.func (.yield l) #[] #[]),.pp [.v (.string s)],.pp L]) (vals := #[.func (.yield l) #[] #[]]++lb) (by
  simp only[Array.toList_append];refine⟨_,_,rfl,A.rep_v trivial,?_⟩
  simpa using hrep)
 refine jde hc rfl hi (by kernel_rfl) ?_;conv=>whnf
 intro a W1 hi;refine wpIn_block ?_;refine wpIn_loop (fun a w => ∃ (ts:List Tk) (p:Nat) (C:Rd),Inv [] (.of w) C [] ⟨jlk l s L p,[],[]⟩ a w/\ValB B w/\(∀ ad u,C ad=some u -> ¬ bM B w ad.block)/\J (ts.map itOk) w/\p<=s.size/\ts.length<=p/\Lx.app ts (bJ p (s.data.toList.drop p))=qW s)
  (fun a _=>s.size-(intOf (a.tmps.getD 4 undef)).toNat) ?_ ?_
 ·obtain⟨hk,hy⟩ := hi.yielded hvW.1 hnoW
  obtain⟨C',i1,i2,i3⟩ := hy W1 (KpB.refl B W1)
  exact⟨[],0,C',i1,i2,i3,wA hJ h0 hk,Nat.zero_le _,Nat.zero_le _,rfl⟩
 rintro a w ⟨ts,p,C,hi,hv,hno,hj,hp,hts,hinv⟩
 have hp4:intOf (a.tmps.getD 4 undef)=p:=by rw[oI hi (i:=4) (v := .int .i64 p) rfl];rfl
 refine jde hc rfl hi (by kernel_rfl) ?_;conv=>whnf
 by_cases hlt:p<s.size
 ·refine kE (by simp;omega) ?_;conv=>whnf
  intro a' w' hi';refine wpIn_block ?_
  obtain⟨c,r,hd⟩ : ∃ c r,s.data.toList.drop p=c :: r:=⟨_,_,fD s.data.toList p (by omega)⟩
  have hrl:(c :: r).length=s.size-p:=by rw[<- hd,List.length_drop,hsl]
  have hR:s.extract (Int.toNat (p:Int)) (Int.toNat (s.size:Int))=bs (c :: r):=by rw[t6,<- hd];congr 1;apply List.take_of_length_le;rw[List.length_drop];omega
  have hbs:=xJ (c :: r)
  refine sN hc rfl hi' (by kernel_rfl) ?_;conv=>whnf
  refine⟨by omega,?_⟩;rw[hR];generalize hb:bs (c :: r)=b at *;conv=>whnf
  intro a2 w2 hi2
  replace hi2:=(hi2.le (c9 rfl) rfl).le (bI (t':=[.v (.func (.yield l) #[] #[]),.pp [.v (.string s)],.pp L,.dead,.v (.int .i64 p),.pp [.v (.string b)]]++List.replicate 107 .dead) (by repeat' constructor)) rfl
  refine jde hc rfl hi2 (by kernel_rfl) ?_;conv=>whnf
  intro a3 w3 hi3;refine sN hc rfl hi3 (by kernel_rfl) ?_;conv=>whnf
  intro a4 w4 hi4;refine sN hc rfl hi4 (by kernel_rfl) ?_;conv=>whnf
  intro a5 w5 hi5
  have hd1:∀ k,s.data.toList.drop (p+k)=(c :: r).drop k:=fun k=>by rw[<- hd,List.drop_drop]
  have hbL:b.size=s.size-p:=by rw[hbs];exact hrl
  have hrl2:r.length+1=s.size-p:=by simpa using hrl
  have hws:=jjl b (by omega)
  have hns:=jkE b (by omega)
  rw[<- hL] at hws hns
  refine wpIn_seq (jeU (q:=fun e s' => match e with
   | .normal => ∃ (tk:Tk) (e:Int),(yE c=false/\pF c=false)/\tk.pos=p/\tk.text.size<=s.size/\(e=0/\(∃ len,j9 (c :: r) = .tok tk.kind len tk.n/\tk.text=bs ((c :: r).take len)) ∨ e ≠ 0/\j9 (c :: r) = .bad e) ∧
     Le 0 s' ⟨[.v (.func (.yield l) #[] #[]),.pp [.v (.string s)],.pp L,.dead,.v (.int .i64 p),.dead,.dead,.pp (pY tk),jJ e]++List.replicate 104 .dead,[],[]⟩
   | .exit x=>x=1 /\ ∃ p',p<p'/\p'<=s.size/\Lx.app ts (bJ p' (s.data.toList.drop p'))=qW s/\Le 0 s' ⟨jlk l s L p',[],[]⟩
   | .ret=>qW s = ⟨ts,none⟩
   | _=>False) hc rfl (by kernel_rfl) hi5 ?_ ?_)
  ·conv=>whnf
   refine⟨⟨by omega,by rw[hbs];simp⟩,?_⟩;rw[show b.data.toList.getD (Int.toNat 0) 0=c from by rw[<- hb,zZ];rfl]
   have hcb:=jdS c
   conv=>whnf
   refine⟨⟨by omega,by omega⟩,?_⟩;generalize hq:jM _ (Int.toNat (c.toNat:Int)) L=q
   obtain rfl:q=[.v (.int .u8 (classOf c.toNat))]:=by rw[<- hq,hL];exact jc5 classOf c.toNat (by omega)
   conv=>whnf
   rw[joP]
   cases hsp:pF c with
   | true =>
    have hha:yE c=false:=by
     simp only[pF,yE,Bool.or_eq_true,decide_eq_true_eq,decide_eq_false_iff_not] at hsp ⊢;omega
    conv=>whnf
    refine⟨jS (by omega),?_⟩;conv=>whnf
    refine⟨rfl,p+1,by omega,by omega,?_,(c9 rfl).trans (bI (by repeat' constructor))⟩;rw[hd1 1,<- hinv,hd,jhx hha hsp];rfl
   | false =>
    conv=>whnf
    rw[jjS]
    cases hha:yE c with
    | true =>
     conv=>whnf
     refine yI [] (jd3 b (by omega)) ?_;rintro x rfl
     have hno:xF c=true:=by
      simp only[yE,xF,decide_eq_true_eq,Bool.not_eq_true',decide_eq_false_iff_not] at hha ⊢;omega
     have hsp1:jI xF (c :: r)=jI xF r+1:=by simp[jI,hno]
     have hle:=xU xF r
     have hlx:=jiH (p:=p) (r:=r) hha
     have hix:yM xF b.data.toList=if jI xF r+1<r.length+1 then ((jI xF r+1:Nat):Int) else -1:=by
      unfold yM;rw[<- hb,zZ,hsp1];rfl
     generalize yM xF b.data.toList=v at *;conv=>whnf
     by_cases hlt2:jI xF r<r.length
     ·rw[if_pos (by omega)] at hix;refine qP (b:=decide (v<0)) (j8 (by omega)) ?_;conv=>whnf
      refine⟨jS (by omega),?_⟩;conv=>whnf
      rw[hix];refine⟨rfl,p+(jI xF r+1),by omega,by omega,?_,(c9 rfl).trans (bI (by repeat' constructor))⟩;rw[hd1 _,<- hinv,hd,hlx,List.drop_succ_cons,Nat.add_comm (jI xF r) 1,<- Nat.add_assoc]
     ·rw[if_neg (by omega)] at hix;refine kE (b:=decide (v<0)) (qH (by omega)) ?_;conv=>whnf
      rw[<- hinv,hd,hlx,List.drop_of_length_le (by omega),jeA]
      simp[Lx.app]
    | false =>
     conv=>whnf
     rw[jqC]
     cases hL1:isL c with
     | true =>
      conv=>whnf
      refine yI [] hws ?_;rintro x rfl
      have hsp1:jI zE (c :: r)=jI zE r+1:=by simp[jI,zE,hL1]
      have hle:=xU zE r
      have htok:j9 (c :: r)=if 10<jI zE r+1 then .bad 2 else .tok 1 (jI zE r+1) 0:=by simp only[j9,hL1]
      have hw:=bW (c :: r) (jI zE r+1) (by simp;omega)
      have hcut:b.extract (Int.toNat 0) (Int.toNat ((jI zE r+1:Nat):Int))=bs ((c :: r).take (jI zE r+1)):=by
       rw[mS b (Int.toNat 0) _ (jI zE r+1) (by simp;omega) (by simp),<- hb,zZ];rfl
      rw[<- hb,zZ,hsp1,hb];conv=>whnf
      refine⟨⟨by omega,by omega,by omega⟩,?_⟩;rw[hcut];generalize hwd:bs ((c :: r).take (jI zE r+1))=wd at *;conv=>whnf
      by_cases hlong:10<jI zE r+1
      ·rw[if_pos hlong] at htok;refine kE (b:=decide ((10:Int)<(wd.size:Int))) (qH (by omega)) ?_;conv=>whnf
       exact⟨⟨1,p,wd,0⟩,2,⟨rfl,rfl⟩,rfl,by show wd.size<=s.size;omega,.inr ⟨by decide,htok⟩,(c9 rfl).trans (bI (by repeat' constructor))⟩
      ·rw[if_neg hlong] at htok;refine qP (b:=decide ((10:Int)<(wd.size:Int))) (j8 (by omega)) ?_;conv=>whnf
       exact⟨⟨1,p,wd,0⟩,0,⟨rfl,rfl⟩,rfl,by show wd.size<=s.size;omega,.inl ⟨rfl,_,htok,hwd.symm⟩,(c9 rfl).trans (bI (by repeat' constructor))⟩
     | false =>
      conv=>whnf
      rw[jqB]
      cases hD1:yN c with
      | true =>
       conv=>whnf
       refine yI [] hns ?_;rintro x rfl
       have hsp1:jI yN (c :: r)=jI yN r+1:=by simp[jI,hD1]
       have hle:=xU yN r
       have htok:j9 (c :: r)=if gG 0 (c :: r.take (jI yN r))<0 then .bad 6 else .tok 2 (jI yN r+1) (gG 0 (c :: r.take (jI yN r))):=by simp only[j9,hL1,hD1]
       have hw:=bW (c :: r) (jI yN r+1) (by simp;omega)
       have hcut:b.extract (Int.toNat 0) (Int.toNat ((jI yN r+1:Nat):Int))=bs ((c :: r).take (jI yN r+1)):=by
        rw[mS b (Int.toNat 0) _ (jI yN r+1) (by simp;omega) (by simp),<- hb,zZ];rfl
       have hpu:=jn2 (bs ((c :: r).take (jI yN r+1))) (by rw[hw];omega) (by rw[hw];omega) (by
        intro x hx;rw[zZ,<- hsp1] at hx
        exact pW yN _ x hx)
       rw[zZ,List.take_succ_cons] at hpu;rw[<- List.take_succ_cons] at hpu;rw[<- hb,zZ,hsp1,hb];conv=>whnf
       refine⟨⟨by omega,by omega,by omega⟩,?_⟩;rw[hcut];generalize hwd:bs ((c :: r).take (jI yN r+1))=wd at *;conv=>whnf
       refine yI [] hpu ?_;rintro x rfl
       have hvl:gG 0 ((c :: r).take (jI yN r+1))=gG 0 (c :: r.take (jI yN r)):=by rw[List.take_succ_cons]
       rw[hvl]
       have hmx:=jaN (c :: r.take (jI yN r)) 0 (by omega)
       generalize gG 0 (c :: r.take (jI yN r))=v at *
       by_cases hneg:v<0
       ·rw[if_pos hneg] at htok ⊢;conv=>whnf
        refine⟨jS (by omega),?_⟩;conv=>whnf
        exact⟨⟨2,p,wd,2147483647⟩,6,⟨rfl,rfl⟩,rfl,by show wd.size<=s.size;omega,.inr ⟨by decide,htok⟩,(c9 rfl).trans (iJ (by repeat' constructor))⟩
       ·rw[if_neg hneg] at htok ⊢;conv=>whnf
        refine⟨jS (by omega),?_⟩;conv=>whnf
        exact⟨⟨2,p,wd,v⟩,0,⟨rfl,rfl⟩,rfl,by show wd.size<=s.size;omega,.inl ⟨rfl,_,htok,hwd.symm⟩,(c9 rfl).trans (iJ (by repeat' constructor))⟩
      | false =>
       conv=>whnf
       have h1c:(bs [c]).size=1:=by rw[xJ];rfl
       have hcut1:b.extract (Int.toNat 0) (Int.toNat 1)=bs [c]:=by
        rw[mS b (Int.toNat 0) _ 1 (by simp;omega) (by simp),<- hb,zZ];rfl
       by_cases hone:1<r.length+1
       ·have hcut2:b.extract (Int.toNat 0) (Int.toNat 2)=bs ((c :: r).take 2):=by
         rw[mS b (Int.toNat 0) _ 2 (by simp;omega) (by simp),<- hb,zZ];rfl
        have h2c:=bW (c :: r) 2 (by simp;omega)
        rw[show decide ((1:Int)<(b.size:Int))=true from qH (by omega)];conv=>whnf
        refine⟨⟨by omega,by omega,by omega⟩,?_⟩;rw[hcut2];generalize hwd:bs ((c :: r).take 2)=wd at *;conv=>whnf
        refine yI [0] (jaV aP wd (by decide)) ?_;rintro x rfl
        cases h2:kH aP wd with
        | true =>
         have htok:j9 (c :: r) = .tok 3 2 0:=by simp only[j9,hL1,hD1,hwd,h2]
         conv=>whnf
         refine⟨⟨by omega,by omega,by omega⟩,?_⟩;rw[hcut2];conv=>whnf
         exact⟨⟨3,p,wd,0⟩,0,⟨rfl,rfl⟩,rfl,by show wd.size<=s.size;omega,.inl ⟨rfl,_,htok,hwd.symm⟩,(c9 rfl).trans (iJ (by repeat' constructor))⟩
        | false =>
         rw[<- hwd] at h2;conv=>whnf
         rw[jnX];generalize hwd1:bs [c]=w1 at *
         cases h1:kH r8 w1 with
         | true =>
          have htok:j9 (c :: r) = .tok 3 1 0:=by simp only[j9,hL1,hD1,h2,hwd1,h1]
          conv=>whnf
          refine⟨⟨by omega,by omega,by omega⟩,?_⟩;rw[hcut1];conv=>whnf
          exact⟨⟨3,p,w1,0⟩,0,⟨rfl,rfl⟩,rfl,by show w1.size<=s.size;omega,.inl ⟨rfl,_,htok,hwd1.symm⟩,(c9 rfl).trans (iJ (by repeat' constructor))⟩
         | false =>
          have htok:j9 (c :: r) = .bad 10:=by simp only[j9,hL1,hD1,h2,hwd1,h1]
          conv=>whnf
          exact⟨⟨0,p,⟨#[]⟩,0⟩,10,⟨rfl,rfl⟩,rfl,Nat.zero_le _,.inr ⟨by decide,htok⟩,(c9 rfl).trans (iJ (by repeat' constructor))⟩
       ·have h2:kH aP (bs ((c :: r).take 2))=false:=by
         obtain rfl:r=[]:=List.eq_nil_of_length_eq_zero (by omega)
         have:∀ n:Fin 256,kH aP (bs [UInt8.ofNat n.val])=false:=by decide +kernel
         have h:=this ⟨c.toNat,c.toNat_lt⟩
         simpa using h
        rw[show decide ((1:Int)<(b.size:Int))=false from j8 (by omega)];conv=>whnf
        rw[jnX];generalize hwd1:bs [c]=w1 at *
        cases h1:kH r8 w1 with
        | true =>
         have htok:j9 (c :: r) = .tok 3 1 0:=by simp only[j9,hL1,hD1,h2,hwd1,h1]
         conv=>whnf
         refine⟨⟨by omega,by omega,by omega⟩,?_⟩;rw[hcut1];conv=>whnf
         exact⟨⟨3,p,w1,0⟩,0,⟨rfl,rfl⟩,rfl,by show w1.size<=s.size;omega,.inl ⟨rfl,_,htok,hwd1.symm⟩,(c9 rfl).trans (iJ (by repeat' constructor))⟩
        | false =>
         have htok:j9 (c :: r) = .bad 10:=by simp only[j9,hL1,hD1,h2,hwd1,h1]
         conv=>whnf
         exact⟨⟨0,p,⟨#[]⟩,0⟩,10,⟨rfl,rfl⟩,rfl,Nat.zero_le _,.inr ⟨by decide,htok⟩,(c9 rfl).trans (iJ (by repeat' constructor))⟩
  ·intro e s' a6 w6 hq hi6
   match e,hq with
   | .exit x,hq =>
    obtain⟨rfl,p',hp1,hp2,hp3,hle⟩ := hq
    replace hi6:=hi6.le hle rfl
    obtain⟨hk,hy⟩ := hi6.yielded hv hno
    obtain⟨C',i1,i2,i3⟩ := hy w6 (KpB.refl B w6)
    refine⟨⟨ts,p',C',i1,i2,i3,wA hJ hj hk,hp2,by omega,hp3⟩,?_⟩;rw[hp4,oI hi6 (i:=4) (v := .int .i64 p') rfl];simp only[intOf];omega
   | .ret,hq =>
    have hk:Keeps [] w w6:=by obtain⟨E,hp,_,_⟩ := hi6;exact hp.keep
    change bodyPost Tryz.prog _ (fun e W' => (∃ v,e = .returned v)/\((∃ xs,aB s xs/\J xs W') ∨ (∃ pre,iU s pre/\Jx pre W'))) .ret a6 w6
    refine bodyPost_ret (results_none rfl _ _ _) (by obtain⟨E,_,_,hd⟩ := hi6;exact hd) ⟨⟨_,rfl⟩,.inl ⟨_,?_,wA hJ hj hk⟩⟩;unfold aB;rw[hq]
   | .normal,hq =>
    obtain⟨tk,e,hcl,htp,htz,hgood,hle⟩ := hq
    replace hi6:=hi6.le hle rfl
    refine wpIn_seq (wpIn_seq (wpIn_region_lit ?_));refine jng 5 hc hi6 ?_;conv=>whnf
    intro a7 w7 hi7
    obtain⟨hk,hy⟩ := hi7.yielded hv hno
    have e1:a7.tmps.getD 98 undef=jjf tk:=jkF hi7 (vs:=[.int .i64 tk.kind,.int .i64 tk.pos,.string tk.text,.int .i64 tk.n]) rfl
    have e2:a7.tmps.getD 101 undef = .agg #[.int .i64 p,.int .i64 e]:=jkF hi7 (vs:=[.int .i64 p,.int .i64 e]) rfl
    have hclP:clP p=p:=if_pos (by omega)
    have hclE:clE e=e:=if_pos (by
     rcases hgood with ⟨h,_⟩ | ⟨_,h⟩
     ·omega
     ·exact jfu h)
    have hlen:(ts.map itOk).length<s.size:=by rw[List.length_map];omega
    refine jfd (l:=l) (vals:=jk2 ⟨tk,p,e⟩) rfl rfl (oI hi7 (i:=97) (v := .func (.yield l) #[] #[]) rfl) (by rw[show Array.map a7.eval #[.tmp 98,.tmp 101] = #[a7.eval (.tmp 98),a7.eval (.tmp 101)] from by simp];show #[a7.tmps.getD 98 undef,a7.tmps.getD 101 undef] = #[jjf tk,.agg #[.int .i64 (clP p:Nat),.int .i64 (clE e)]];rw[e1,e2,hclP,hclE]) (hY (ts.map itOk) ⟨tk,p,e⟩ w7 (wA hJ hj hk) hlen) ?_;rintro x w8 (⟨rfl,hj8,hkp⟩ | ⟨rfl,hjx8⟩)
    ·refine⟨_,rfl,?_⟩
     obtain⟨C',i1,i2,i3⟩ := hy w8 hkp
     refine joi (G:=fun a=>wpListIn _ _ _ _ _ _ a _) i1 trivial ?_;conv=>whnf
     intro a8 hi8;refine jdp 5 hc hi8 ?_;conv=>whnf
     intro a9 w9 hi9
     have hd9:a9.defers=[]:=by obtain⟨E,_,_,hd⟩ := hi9;exact hd
     obtain⟨hk9,hy9⟩ := hi9.yielded i2 i3
     have hj9:=wA hJ hj8 hk9
     rcases hgood with ⟨rfl,len,htok,htx⟩ | ⟨hne,htok⟩
     ·rw[hd,uV hcl.1 hcl.2 htok,jdI] at hinv
      have hl:=bX htok
      have hsz:tk.text.size=len:=by rw[htx];exact bW _ _ hl.2
      refine jcM (i:=107) (b:=false) hi9 rfl ?_;rw[if_neg (by simp)];refine wpIn_skip (wpIn_region_lit ?_);refine jdp 6 hc hi9 ?_;conv=>whnf
      refine⟨jS (by omega),?_⟩;conv=>whnf
      intro a10 w10 hi10
      replace hi10:=hi10.le (iJ (s':=⟨jlk l s L (p+len),[],[]⟩) (by rw[<- hsz];repeat' constructor)) rfl
      obtain⟨hk10,hy10⟩ := hi10.yielded i2 i3
      obtain⟨C2,j1,j2,j3⟩ := hy10 w10 (KpB.refl B w10)
      have htk:(⟨tk.kind,p,bs (List.take len (c :: r)),tk.n⟩ : Tk)=tk:=by rw[<- htx,<- htp]
      have hit:(⟨tk,p,0⟩ : It)=itOk tk:=by unfold itOk;rw[htp]
      rw[hit] at hj8;refine⟨⟨ts++[tk],p+len,C2,j1,j2,j3,?_,by simp at hl;omega,by simp;omega,?_⟩,?_⟩
      ·rw[List.map_append];exact wA hJ hj8 hk10
      ·rw[hd1 len,<- hinv,htk]
      ·rw[hp4,oI hi10 (i:=4) (v := .int .i64 (p+len:Nat)) rfl];simp only[intOf];omega
     ·refine jcM (i:=107) (b:=true) hi9 (by show A.v (.bool (!decide (e=0)))=_;rw[j8 hne];rfl) ?_;rw[if_pos rfl];refine wpIn_ret ?_
      change bodyPost Tryz.prog _ (fun e W' => (∃ v,e = .returned v)/\((∃ xs,aB s xs/\J xs W') ∨ (∃ pre,iU s pre/\Jx pre W'))) .ret a9 w9
      refine bodyPost_ret (results_none rfl _ _ _) hd9 ⟨⟨_,rfl⟩,.inl ⟨_,?_,hj9⟩⟩;rw[hd,jez hcl.1 hcl.2 htok] at hinv;unfold aB;rw[<- hinv];exact⟨tk,by simp[Lx.app]⟩
    ·refine⟨_,rfl,?_⟩;refine joi (G:=fun a=>wpListIn _ _ _ _ _ _ a _) hi7 trivial ?_;conv=>whnf
     intro a8 hi8;refine lV hc.ok hi8 ?_;conv=>whnf
     intro a9 hi9;refine jcM (i:=107) (b:=true) hi9 rfl ?_;rw[if_pos rfl];refine wpIn_ret ?_
     change bodyPost Tryz.prog _ (fun e W' => (∃ v,e = .returned v)/\((∃ xs,aB s xs/\J xs W') ∨ (∃ pre,iU s pre/\Jx pre W'))) .ret a9 w8
     refine bodyPost_ret (results_none rfl _ _ _) (by obtain⟨E,_,_,hd⟩ := hi9;exact hd) ⟨⟨_,rfl⟩,.inr ⟨_,?_,hjx8⟩⟩
     rcases hgood with ⟨rfl,len,htok,htx⟩ | ⟨hne,htok⟩
     ·rw[hd,uV hcl.1 hcl.2 htok,jdI] at hinv;generalize bJ (p+len) (List.drop len (c :: r))=rest at *
      have htk:(⟨tk.kind,p,bs (List.take len (c :: r)),tk.n⟩ : Tk)=tk:=by rw[<- htx,<- htp]
      rw[htk] at hinv
      have hit:(⟨tk,p,0⟩ : It)=itOk tk:=by unfold itOk;rw[htp]
      rw[hit];unfold iU aB;rw[<- hinv]
      cases hr:rest.err with
      | none=>exact⟨(ts++[tk]++rest.toks).map itOk,by simp[Lx.app,hr],⟨rest.toks.map itOk,by simp⟩⟩
      | some x=>exact⟨(ts++[tk]++rest.toks).map itOk++[⟨tk,x.1,x.2⟩],by simp only[Lx.app,hr];exact⟨tk,by simp⟩,⟨rest.toks.map itOk++[⟨tk,x.1,x.2⟩],by simp⟩⟩
     ·rw[hd,jez hcl.1 hcl.2 htok] at hinv;refine⟨_,?_,List.prefix_rfl⟩;unfold aB;rw[<- hinv];exact⟨tk,by simp[Lx.app]⟩
 ·refine qP (by simp;omega) ?_
  obtain rfl:p=s.size:=by omega
  conv=>whnf
  intro a' w' hi';rw[List.drop_of_length_le (by omega),jeA] at hinv
  obtain⟨hk,hy⟩ := hi'.yielded hv hno
  change bodyPost Tryz.prog _ (fun e W' => (∃ v,e = .returned v)/\((∃ xs,aB s xs/\J xs W') ∨ (∃ pre,iU s pre/\Jx pre W'))) .normal a' w'
  refine bodyPost_end (results_none rfl _ _ _) (by obtain⟨E,_,_,hd⟩ := hi';exact hd) ⟨⟨_,rfl⟩,.inl ⟨_,?_,wA hJ hj hk⟩⟩;unfold aB;rw[<- hinv]
  simp[Lx.app]
section
def jd4 (ops:List Oper):Bool:=ops.all fun o=>match o.op with
 | .defer _=>false
 | _=>true
theorem jlb {n l:Nat} {P:Program} {o:Oper} {a:Act} {w:World} {K:Act->World->Prop} {Q:Exit->Act->World->Prop} (hd:∀ c,o.op ≠ .defer c) (h:o.wp P a w K Q):o.wpIn (Fence.wide.inRound l) n P a w K Q:=by
 refine⟨fun _ _=>trivial,?_⟩;rw[Oper.semAt_eq _ _ _ hd];unfold Oper.wp at h;generalize (execOp a.eval o).run P w=r at *
 match r,h with
 | .ok (.value v) w',h=>exact h
 | .ok .skip w',h=>exact h
 | .ok (.defer d) w',h=>exact h
 | .ok (.enter f args) w',h=>exact⟨fun h' => by simp[Fence.wide] at h',CallsIn.inRound l (callsIn_wide.2 h)⟩
 | .ok (.row row args) w',h=>exact⟨fun h' => by simp[Fence.wide] at h',jcn h⟩
 | .halt (.panic v) w',h=>exact h
theorem jd9 {n l:Nat} {P:Program} {ops:List Oper} {Q:Exit->Act->World->Prop} (hd:jd4 ops=true) (hQ : ¬ LetsOut Q):∀ {is:List Nat} {a:Act} {w:World},wpOps P ops.toArray Q is a w->wpOpsIn (Fence.wide.inRound l) n P ops.toArray Q is a w
 | [],a,w,h=>h
 | i :: rest,a,w,h=>by
  unfold wpOps at h;unfold wpOpsIn
  cases ho:ops.toArray[i]? with
  | none =>
   rw[ho] at h;exact jd9 hd hQ h
  | some o =>
   rw[ho] at h
   simp only at h ⊢
   have hmem:o ∈ ops:=by
    have:ops[i]? = some o:=by simpa using ho
    exact List.mem_iff_getElem?.2 ⟨i,this⟩
   have hnd:∀ c,o.op ≠ .defer c:=fun c e=>by
    have:=List.all_eq_true.1 hd o hmem
    rw[e] at this
    cases this
   split at h
   ·rename_i hw
    rw[if_pos hw]
    rcases h with h | h
    ·refine jlb hnd ?_;exact Oper.wp_mono (fun a' w' h' => jd9 hd hQ h') h
    ·exact absurd h.2 hQ
   ·rename_i hw
    rw[if_neg hw];exact⟨fun _ _=>trivial,jd9 hd hQ h⟩
def jba (K:Act->World->Prop):Exit->Act->World->Prop
 | .normal,a,w=>K a w
 | _,_,_=>False
section
variable {c:Cx} {w0:W0} {w:World} {C0:Rd} {β0:List Nat} {s:S} {a:Act}
theorem jmT {K:Act->World->Prop} : ¬ LetsOut (jaR c [] w0 C0 β0 (jba K)):=by
 rintro⟨a,w,h⟩
 simp[jaR,jba] at h
theorem jlq {id lp n:Nat} {ops:List Oper} {X:List Nat} {l:Tr} {K:S->Prop} {Kc:Act->World->Prop} (hc:c.okN) (hi:Inv [] w0 C0 β0 s a w) (hX:rA X s.bx.length=true) (hB:lW ops.toArray l=true) (hnd:jd4 ops=true)
  (h:jaT c (xrB X) s.bx.length ops l 0 s K) (hk:∀ s' a' w',K s'->Inv [] w0 C0 β0 s' a' w'->Kc a' w') {Q:Exit->Act->World->Prop} (hQ:∀ a w,Kc a w->Q .normal a w):(Code.region id ops.toArray true).wpIn (Fence.wide.inRound lp) n c.P Q a w:=by
 obtain⟨E,hp,ht,hd⟩ := hi
 rw[hp.bl] at h
 have hk0:jcr (xrB X) E w.drew w.drew:=⟨fun _ _ _ _=>rfl,(aY hp).sub⟩
 have hT:mB c.P ops.toArray (jaR c [] w0 C0 β0 (jba Kc)) (jcr (xrB X) E w.drew) l a w.drew :=
  xR rfl (Q:=jba Kc) hc.ok ⟨0,rfl⟩ (aY hp) ht hd (fun _=>⟨Sub.refl _,fun _ _ h=>h,hk0⟩) (fun _=>rfl) h hk
 simp only[lW,Bool.and_eq_true,decide_eq_true_eq] at hB
 have hA:=jdC (md := .any) hB.1.1 jeS _ l _ a _ hB.1.2 hB.2 hT
 have:(Code.region id ops.toArray true).wpIn (Fence.wide.inRound lp) n c.P (jaR c [] w0 C0 β0 (jba Kc)) a w:=wpIn_region_draw fun t=>by
  simp only[Region.schedule,hc.ok.m,Bool.true_or,if_true];exact jd9 hnd jmT (wpAny_sound ops.toArray.size t _ a _ hA)
 refine wpIn_mono this fun e a' w' h => ?_
 cases e with
 | normal=>exact hQ _ _ h
 | panic ch=>obtain⟨s',h1,_⟩ := h;exact absurd h1 (hc.no ch s')
 | _=>simp[jaR,jba] at h
theorem jj2 {id lp n:Nat} {ops:List Oper} {Q:Exit->Act->World->Prop} (hc:c.okN) (hi:Inv [] w0 C0 β0 s a w) (hfl:Tr.isFlow (c.ord id)=false) (hfl2:Tr.isFlowL (c.ord id)=false) (ho:lW ops.toArray (c.ord id)=true) (hnd:jd4 ops=true)
  (h:aU c id ops.toArray true s fun e s' => e = .normal /\ ∀ a' w',Inv [] w0 C0 β0 s' a' w'->Q .normal a' w'):(Code.region id ops.toArray true).wpIn (Fence.wide.inRound lp) n c.P Q a w:=by
 unfold aU at h
 simp only at h
 split at h
 ·rename_i hx
  rw[hfl] at h
  simp only at h
  rw[hfl2] at h
  simp only at h
  split at h
  ·exact jlq (c:=c.kill) ⟨hc.ok.kill,fun ch s' h=>hc.no ch _ h⟩ hi hx ho hnd h (Kc:=Q .normal) (fun s' a' w' h1 h2=>h1.2 a' w' h2) fun _ _ h=>h
  ·unfold iC at h
   obtain⟨φ,h,h'⟩ := h
   exact jlq (c:=c.kill) ⟨hc.ok.kill,fun ch s' h=>hc.no ch _ h⟩ hi hx ho hnd h (Kc:=Q .normal) (fun s' a' w' h1 h2=>(h' _ h1).2 a' w' h2) fun _ _ h=>h
 ·exact h.elim
theorem joZ {W:World} {β:List Nat} {bx:List (List A)} {t:List A} (h0:Gok C0 W) (h1:Sub C0 (kJ W)) (hnd:β.Nodup) (hbC:∀ b ∈ β,∀ o sp,C0 ⟨b,o,sp⟩ = none) (hbl:bx.length=β.length) (hbx:∀ (i b:Nat) (cs:List A),β[i]? = some b->bx[i]? = some cs->boxAt W ⟨C0,β,[]⟩ b cs)
  (ht:A.repL t ⟨C0,β,[]⟩ a.tmps.toList) (hd:a.defers=[]):Inv [] (.of W) C0 β ⟨t,bx,[]⟩ a W :=
 ⟨⟨C0,β,[]⟩,⟨h1,Sub.refl _,fun _ _ hc => .inl hc,⟨[],by simp,by simp⟩,hnd,hbC,hbl,hbx,rfl,fun g r y hg=>by simp at hg,fun g e k n cs y b hg=>by simp at hg,fun g e k n cs y h' e' k' n' cs' z b _ hg=>by simp at hg,fun g y hg=>by simp at hg,Keeps.refl _ _,jis h0⟩,ht,hd⟩
theorem tF (hi:Inv [] w0 C0 β0 s a w) {i b:Nat} {x:Value} (hβ:β0[i]? = some b) (hbx:s.bx[i]? = some [.v x]):w.cell? ⟨b,0,none⟩ = some x:=by
 obtain⟨E,hp,ht,hd⟩ := hi
 obtain⟨β',e1,e2⟩ := hp.bp
 have h1:E.β[i]? = some b:=by
  rw[e1,List.getElem?_append_left (List.getElem?_eq_some_iff.1 hβ).1];exact hβ
 obtain⟨T,arr,q1,q2⟩ := hp.bxs i b _ h1 hbx
 have:=pT (vs:=[x]) q2.1
 have e:arr = #[x]:=by
  apply Array.toList_inj.1
  rw[this]
 simp[kJ,World.cell?,q1,e]
theorem jcI {W:World} {E:Env} {b:Nat} {T:TypeId} {x:Value} (h:Boxed W b T x) (hx:dG x):boxAt W E b [.v x]:=⟨T,#[x],h,.mk' ⟨x,[],rfl,lL hx,A.rep_v hx,rfl⟩⟩
theorem jkt {P:Program} {T:List (Nat × Te)} {t:Nat} {e:Te} {W:World} {ad:Addr} {v:Value} (hT:Tab.ok P T) (h:Tab.get T t=some e) (ha:e.d.agg=false) (hc:W.cell? ad=some v):(loadVar t ad).run P W = .ok v W:=by
 have q1:=hT.agg h W
 rw[ha] at q1
 simp[loadVar,q1,load,Sem.run,hc,Result.andThen]
theorem jf4 {P:Program} {T:List (Nat × Te)} (hT:Tab.ok P T) {fn:Func} {a1 a2 a3 t1 t2 t3:Nat} {e1 e2 e3:Te} {tmps:Array Value} {W:World} {d1 d2 d3:Addr} {v1 v2 v3:Value} (hr:fn.results = #[.cell a1 t1,.cell a2 t2,.cell a3 t3])
  (p1:tmps.getD a1 undef = .pointer (some d1)) (p2:tmps.getD a2 undef = .pointer (some d2)) (p3:tmps.getD a3 undef = .pointer (some d3))
  (g1:Tab.get T t1=some e1) (g2:Tab.get T t2=some e2) (g3:Tab.get T t3=some e3) (k1:e1.d.agg=false) (k2:e2.d.agg=false) (k3:e3.d.agg=false)
  (c1:W.cell? d1=some v1) (c2:W.cell? d2=some v2) (c3:W.cell? d3=some v3):(results fn tmps).run P W = .ok (.tuple #[v1,v2,v3]) W:=by
 have he:results fn tmps=(do let vs <- fn.results.mapM (jgJ tmps);pure (if h:vs.size=1 then vs[0] else .tuple vs)):=by
  unfold results
  congr 1
 have f:∀ {x t d v},tmps.getD x undef = .pointer (some d)->(loadVar t d).run P W = .ok v W->(jgJ tmps (.cell x t)).run P W = .ok v W:=fun h1 h2=>by
  simp only[jgJ,h1,asAddr]
  simpa [Result.andThen] using h2
 have r1:=f (t:=t1) p1 (jkt hT g1 k1 c1)
 have r2:=f (t:=t2) p2 (jkt hT g2 k2 c2)
 have r3:=f (t:=t3) p3 (jkt hT g3 k3 c3)
 rw[he,hr]
 simp[r1,r2,r3,Result.andThen]
end
end
attribute [local go_sem] Oper.semAt_some
theorem gL {F:Fence} {n:Nat} {P:Program} (w:World) {ops:Array Oper} {rest:List Oper} {o:Oper} {a:Act} {Q:Exit->Act->World->Prop}
  (hg:o.guard=none) (s x:Operand) (t:TypeId) (hop:o.op=Op.call { callee:=Callee.builtin Builtin.append,args := #[s,x],argTypes := #[t,t] })
  (base:Nat) (e:TypeId) (i:TypeInfo) (z:Value) (size bytes:Nat) (h1:P.underlying t=some (.slice e)) (h2:P.info? e=some i) (h3:i.zero=some z) (h4:i.size=size) (h5:i.bytes=bytes) (h6:z.cells.size=size) (h7:0<size)
  (v:Value) (k:Nat) (xs:List Value) (hs:a.eval s=v) (hown:w.ownsRow base e size v k xs) (ad:Addr) (m c:Nat) (news:List Value) (hx:a.eval x = .slice (some ad) m c) (hn:news.length=m*size)
  (hc:∀ j u,news[j]? = some u->w.cell? (ad.add j)=some u) (h1c:∀ u ∈ news,u.oneCell'=true) (b1:k+m<=maxLen) (b2:(k+m)*bytes<=140737488355328) (b3:base<=w.heap.size)
  (hK:∀ v' w',w'.ownsRow base e size v' (k+m) (xs++news)->w.grownBy w' v.ownBlock->(v'.ownBlock=v.ownBlock ∨ v'.ownBlock=some w.heap.size)->wpListIn F n P ops Q rest (a.put o.dst v') w') :
  wpListIn F n P ops Q (o :: rest) a w:=by
 refine wpListIn_plain hg fun K hK' => ?_
 obtain⟨v',w',hrun,r1,r2,r3⟩ := eO (P:=P) w base t o.type e i z size bytes h1 h2 h3 h4 h5 h6 h7 v k xs hown (some ad) m c news hn (fun e=>by cases e) (fun a e=>by cases e;exact hc) h1c b1 b2 b3
 unfold Oper.wpIn;refine⟨?_,?_⟩
 ·simp[Oper.about,hop,resolve,Target.leads,Sem.run_pure]
 ·rw[Oper.semAt_plain F _ _ (by rw[hop];intro c hc';cases hc')]
  simp[execOp,hop,resolve,invoke,builtin,hs,hx,hrun,Result.andThen]
  exact hK' _ _ (hK v' w' r1 r2 r3)
theorem tL (W:World) (a b c d:Value) (T:TypeId):∀ (j:Nat) (u:Value),[a,b,c,d][j]? = some u->(W.alloc (.cells #[a,b,c,d] T)).cell? ((⟨W.heap.size,0,none⟩ : Addr).add j)=some u:=fun j u h=>by
 have e:(⟨W.heap.size,0,none⟩ : Addr).add j = ⟨W.heap.size,j,none⟩ := by unfold Addr.add;split <;> simp_all
 rw[e]
 have:=World.alloc_heap_new W (.cells #[a,b,c,d] T)
 simp only[World.cell?,this]
 simpa using h
def tkV (t:Tk):List Value:=[.int .i64 t.kind,.int .i64 t.pos,.string t.text,.int .i64 t.n]
def lY (l:List Tk):List Value:=l.flatMap tkV
theorem jmz:(Tryz.prog.info? 94).map (fun i=>(i.zero,i.size,i.bytes))=some (some (.agg #[.int .i64 0,.int .i64 0,.string ⟨#[]⟩,.int .i64 0]),4,40):=by kernel_rfl
theorem jne (s:ByteArray) (hs:s.size<=1000000000) (m:Nat) (w1:World) (C:Rd) (hg:Gok C w1) (hsub:Sub C (kJ w1)):CallsIn Fence.wide m Tryz.prog 39 #[.string s] w1 fun e w2 =>
  ∃ us:Array Value,e = .returned (.func (.func 57) #[] us)/\Keeps [] w1 w2/\A.repL [.pp [.v (.string s)],.pp (qD classOf)] ⟨qU C w1 w2,[],[]⟩ us.toList:=by
 refine callsIn_wide.2 (((jj9 s).2 w1 C [] [.string s] hg hsub List.nodup_nil (by simp) rfl (fun i b cs hb=>by simp at hb) ?_).mono ?_)
 ·exact⟨_,_,rfl,A.rep_v (by show s.size<=maxLen;exact jkm hs),rfl⟩
 ·rintro e w2 ⟨outs,r,v,rfl,rfl,hk,_,_,hv⟩;unfold A.rep at hv
  obtain⟨us,rfl,hus⟩ := hv
  exact⟨us,rfl,hk,hus⟩
theorem jiF {W w1:World} {n₀ B g n k:Nat} {t e:TypeId} {y:Value} {cap m:Nat} {xs ys:List Value} {tmp:Obj} (c5:Boxed W B t y) (hrow:W.ownsRow n₀ e 4 y k xs) (hgrow:(W.alloc tmp).grownBy w1 y.ownBlock) (hw:(Value.slice (some ⟨g,0,none⟩) m cap).ownBlock=y.ownBlock ∨ (Value.slice (some ⟨g,0,none⟩) m cap).ownBlock=some (W.alloc tmp).heap.size)
  (hv2:Boxed (w1.setCell ⟨B,0,none⟩ (.slice (some ⟨g,0,none⟩) m cap)) B t (.slice (some ⟨g,0,none⟩) m cap)) (hr2:(w1.setCell ⟨B,0,none⟩ (.slice (some ⟨g,0,none⟩) m cap)).ownsRow n₀ e 4 (.slice (some ⟨g,0,none⟩) m cap) n ys):KpB B W (w1.setCell ⟨B,0,none⟩ (.slice (some ⟨g,0,none⟩) m cap)):=fun hv=>by
 have hsz:W.heap.size<=(w1.setCell ⟨B,0,none⟩ (.slice (some ⟨g,0,none⟩) m cap)).heap.size:=by
  have h1:=hgrow.size
  have h2:=(grownBy_setCell' w1 B (.slice (some ⟨g,0,none⟩) m cap)).size
  rw[World.size_alloc] at h1;omega
 have hg2:∀ b,bM B (w1.setCell ⟨B,0,none⟩ (.slice (some ⟨g,0,none⟩) m cap)) b->b=B ∨ b=g:=fun b hb=>by
  rcases hb with hb | ⟨a,l,c,h1,h2⟩
  ·exact .inl hb
  ·rw[hv2.cell] at h1
   cases h1
   exact .inr h2.symm
 have hgl:g<(w1.setCell ⟨B,0,none⟩ (.slice (some ⟨g,0,none⟩) m cap)).heap.size:=by
  rcases hr2.2 with ⟨h,_⟩ | ⟨g2,cap2,cur,h,_,hgb,_⟩
  ·cases h
  ·cases h
   exact xN hgb
 have hyg:∀ b,y.ownBlock=some b->bM B W b:=fun b hb=>by
  rcases hrow.2 with ⟨rfl,_⟩ | ⟨g2,cap2,cur,rfl,_,hgb,_⟩
  ·simp[Value.ownBlock] at hb
  ·exact .inr ⟨_,_,_,c5.cell,by simpa [Value.ownBlock] using hb⟩
 refine⟨⟨⟨_,hv2,rfl⟩,fun b hb => ?_⟩,hsz,fun b hb => ?_,fun b o hb ho hn => ?_⟩
 ·rcases hg2 b hb with rfl | rfl
  ·exact hv2.lt
  ·exact hgl
 ·rcases hg2 b hb with rfl | rfl
  ·exact .inl (.inl rfl)
  ·rcases hw with hw | hw
   ·exact .inl (hyg _ (by rw[<- hw];simp[Value.ownBlock]))
   ·have:b=W.heap.size+1:=by simpa [Value.ownBlock] using hw
    exact .inr (by omega)
 ·have h1:(W.alloc tmp).heap[b]? = some o:=(Below.heap_alloc _ _ _ (xN hb)).trans hb
  have h2:w1.heap[b]? = some o:=(hgrow.block b (xN h1) fun e=>hn (hyg b e.symm)).trans h1
  refine ((grownBy_setCell' w1 B _).block b (xN h2) fun e=>hn (.inl ?_)).trans h2
  cases e
  rfl
def jqi (w:World) (pre:List It) (W:World):Prop:=(∀ x ∈ pre,clE x.err=0)/\Boxed W w.heap.size 62 (.slice none 0 0)/\Boxed W (w.heap.size+1) 3 (.int .i64 0)/\Boxed W (w.heap.size+1+1) 30 (.int .i64 0) ∧
 (∃ y,Boxed W (w.heap.size+1+1+1) 62 y/\W.ownsRow w.heap.size 94 4 y pre.length (lY (pre.map It.tok)))/\Below w.heap.size w W
def jqj (w:World) (c:Code) (pre:List It) (W:World):Prop:=c = .ret /\ ∃ q x,pre=q++[x]/\clE x.err ≠ 0/\W.cell? ⟨w.heap.size,0,none⟩ = some (.slice none 0 0)/\W.cell? ⟨w.heap.size+1,0,none⟩ = some (.int .i64 (clP x.pos:Nat))/\W.cell? ⟨w.heap.size+1+1,0,none⟩ = some (.int .i64 (clE x.err))/\Below w.heap.size w W
def jq3 (s:ByteArray) (us:Array Value) (w:World) (x:It) (b6 b7:Nat):Array Value :=
 #[.string s,undef,.pointer (some ⟨w.heap.size,0,none⟩),.pointer (some ⟨w.heap.size+1,0,none⟩),.pointer (some ⟨w.heap.size+1+1,0,none⟩),.pointer (some ⟨w.heap.size+1+1+1,0,none⟩),.pointer (some ⟨b6,0,none⟩),.pointer (some ⟨b7,0,none⟩),.string s,.func (.func 57) #[] us,
  jjf x.tok,.agg #[.int .i64 (clP x.pos:Nat),.int .i64 (clE x.err)],undef,undef,undef,undef,undef,undef,undef,undef,undef,undef,undef,undef,undef,undef,undef,undef,undef]
def jox (s:ByteArray) (us:Array Value) (w:World) (x:It) (a':Act) (W:World):Prop := ∃ b6 b7,a' = { tmps:=jq3 s us w x b6 b7,defers:=[] } /\ W.heap[b6]? = some (.cells (tkV x.tok).toArray 94 (0,0))/\W.heap[b7]? = some (.cells #[.int .i64 (clP x.pos:Nat),.int .i64 (clE x.err)] 96 (0,0))
theorem gZ {X Y:World} {row:Option Nat} {b B:Nat} {o:Obj} (h:X.heap[b]? = some o) (ho:o.isCells=true) (hg:X.grownBy Y row) (hrow:∀ r,row=some r->B<=r /\ ∃ o:Obj,X.heap[r]? = some o/\o.isCells=false):Y.heap[b]? = some o:=by
 refine (hg.block b (xN h) fun e => ?_).trans h
 obtain⟨_,o2,h1,h2⟩ := hrow b e.symm
 rw[h] at h1
 cases h1
 rw[ho] at h2
 cases h2
theorem jlV (s:ByteArray) (us:Array Value) (w:World) (x:It) (a':Act) (B:Nat):OwnFrom B (fun (_:Unit) W=>jox s us w x a' W):=by
 rintro _ X Y row ⟨b6,b7,e,h1,h2⟩ hg hrow;exact⟨b6,b7,e,gZ h1 rfl hg hrow,gZ h2 rfl hg hrow⟩
theorem jaH (w:World) (B:Nat) (hB:w.heap.size<=B):OwnFrom B (jqi w):=by
 rintro pre X Y row ⟨e,h1,h2,h3,⟨y,h4,h5⟩,h6⟩ hg hrow;refine⟨e,gZ h1 rfl hg hrow,gZ h2 rfl hg hrow,gZ h3 rfl hg hrow,⟨y,gZ h4 rfl hg hrow,h5.kept hg ?_⟩,h6.grown hg h6.size fun k e=>by have:=(hrow k e).1;omega⟩
 rcases h5.2 with ⟨rfl,_⟩ | ⟨g,cap,cur,rfl,_,hgb,_⟩
 ·exact .inl rfl
 ·refine .inr fun e' => ?_
  obtain⟨_,o,ho,hc⟩ := hrow g (by simpa [Value.ownBlock] using e'.symm)
  rw[hgb] at ho;cases ho;cases hc
theorem i6 {X Y:World} {row:Option Nat} {a:Addr} {v:Value} {B:Nat} (h:X.cell? a=some v) (hg:X.grownBy Y row) (hrow:∀ r,row=some r->B<=r /\ ∃ o:Obj,X.heap[r]? = some o/\o.isCells=false):Y.cell? a=some v:=cell_kept h hg fun r e=>(hrow r e).2
theorem jlX (w:World) (B:Nat) (hB:w.heap.size<=B) (c:Code):OwnFrom B (jqj w c):=by
 rintro pre X Y row ⟨e,q,x,e2,e3,h1,h2,h3,h6⟩ hg hrow;exact⟨e,q,x,e2,e3,i6 h1 hg hrow,i6 h2 hg hrow,i6 h3 hg hrow,h6.grown hg h6.size fun k e=>by have:=(hrow k e).1;omega⟩
theorem gR:∀ (f p:Nat) (l:List UInt8),(xE f p l).toks.length<=l.length /\ ∀ q e,(xE f p l).err=some (q,e)->q<=p+l.length/\e ≠ 0/\0<=e/\e<=100
 | 0,p,l=>by simp[xE]
 | f+1,p,[]=>by simp[xE]
 | f+1,p,c :: r=>by
  rw[xE]
  split
  ·obtain⟨h1,h2⟩ := gR f (p+1+jI xF r) (r.drop (jI xF r))
   have hle:=xU xF r
   rw[List.length_drop] at h1 h2;refine⟨by simp;omega,fun q e h => ?_⟩
   obtain⟨h3,h4⟩ := h2 q e h
   exact⟨by simp;omega,h4⟩
  ·split
   ·obtain⟨h1,h2⟩ := gR f (p+1) r
    refine⟨by simp;omega,fun q e h => ?_⟩
    obtain⟨h3,h4⟩ := h2 q e h
    exact⟨by simp;omega,h4⟩
   ·cases ht:j9 (c :: r) with
    | bad e =>
     refine⟨by simp,fun q e' h => ?_⟩
     cases h
     exact⟨by simp,jlW ht,jfu ht⟩
    | tok k len n =>
     have hl:=bX ht
     obtain⟨h1,h2⟩ := gR f (p+len) ((c :: r).drop len)
     rw[List.length_drop] at h1 h2;refine⟨by simp only[Lx.cons,List.length_cons] at hl h1 ⊢;omega,fun q e h => ?_⟩
     obtain⟨h3,h4⟩ := h2 q e h
     exact⟨by omega,h4⟩
theorem jjR {e:Int} (h:0<=e/\e<=100):clE e=e:=if_pos h
theorem jnA {l:List UInt8} {k:Int} {len:Nat} {n:Int} (h:j9 l = .tok k len n):(1<=k/\k<=3)/\0<=n/\n<=2147483647:=by
 cases l with
 | nil=>simp[j9] at h
 | cons c r =>
  cases hL:isL c
  ·cases hD:yN c
   ·cases h3:kH aP (bs ((c :: r).take 2))
    ·cases h4:kH r8 (bs [c])
     ·simp only[j9,hL,hD,h3,h4] at h
      cases h
     ·simp only[j9,hL,hD,h3,h4] at h
      cases h;decide
    ·simp only[j9,hL,hD,h3] at h
     cases h;decide
   ·simp only[j9,hL,hD] at h
    have hm:=jaN (c :: r.take (jI yN r)) 0 (by omega)
    split at h
    ·cases h
    ·rename_i hv
     cases h
     exact⟨by decide,by omega,hm⟩
  ·simp only[j9,hL] at h
   split at h
   ·cases h
   ·cases h;decide
def jnw (t:Tk):Prop:=(1<=t.kind/\t.kind<=3)/\t.pos<=1000000000/\t.text.size<=1000000000/\0<=t.n/\t.n<=2147483647
theorem fK:∀ (f p:Nat) (l:List UInt8),p+l.length<=1000000000 -> ∀ t ∈ (xE f p l).toks,jnw t
 | 0,p,l,_=>by simp[xE]
 | f+1,p,[],_=>by simp[xE]
 | f+1,p,c :: r,hp=>by
  rw[xE];simp only[List.length_cons] at hp
  split
  ·have hle:=xU xF r
   exact fK f _ _ (by rw[List.length_drop];omega)
  ·split
   ·exact fK f _ _ (by omega)
   ·cases ht:j9 (c :: r) with
    | bad e=>simp
    | tok k len n =>
     have hl:=bX ht
     have hk:=jnA ht
     simp only[List.length_cons] at hl;intro t hm;simp only[Lx.cons,List.mem_cons] at hm
     rcases hm with rfl | hm
     ·exact⟨hk.1,by show p<=_;omega,by show (bs ((c :: r).take len)).size<=_;rw[xJ,List.length_take];simp;omega,hk.2⟩
     ·exact fK f _ _ (by rw[List.length_drop];simp;omega) t hm
theorem jlQ {E:Env} {t:Tk} (h:jnw t ∨ t.kind=0/\t.pos<=1000000000/\t.text.size=0/\t.n=0):A.repC (pY t) E (tkV t):=by
 have h2:(0<=t.kind/\t.kind<=3)/\t.pos<=1000000000/\t.text.size<=1000000000/\0<=t.n/\t.n<=2147483647:=by
  rcases h with ⟨h1,h2,h3,h4⟩ | ⟨h1,h2,h3,h4⟩
  ·exact⟨by omega,h2,h3,h4⟩
  ·exact⟨by omega,h2,by omega,by omega⟩
 obtain⟨h1,h3,h4,h5⟩ := h2
 exact⟨_,_,rfl,rfl,A.rep_v (okV_int.2 (jS (by omega))),_,_,rfl,rfl,A.rep_v (okV_int.2 (jS (by omega))),_,_,rfl,rfl,A.rep_v (jkm h4),_,_,rfl,rfl,A.rep_v (okV_int.2 (jS (by omega))),rfl⟩
theorem ji0 {E:Env} : ∀ {l:List Tk},(∀ t ∈ l,jnw t)->A.repC (yH l) E (lY l)
 | [],_=>by simp[yH,lY,A.repC]
 | t :: l,h=>by
  have:yH (t :: l)=pY t++yH l:=rfl
  rw[this,show lY (t :: l)=tkV t++lY l from rfl];exact A.repC_append (jlQ (.inl (h t (by simp)))) (ji0 fun u hu=>h u (by simp[hu]))
theorem joC {s:ByteArray} {ys:List It} (h:aB s ys) (hp:∀ x ∈ ys,clE x.err=0):(qW s).err=none/\ys=(qW s).toks.map itOk:=by
 unfold aB at h
 split at h
 ·rename_i he
  exact⟨he,h⟩
 ·rename_i q e he
  obtain⟨t,rfl⟩ := h
  have h1:=(gR _ _ _).2 q e he
  have h2:=hp ⟨t,q,e⟩ (by simp)
  simp only at h2
  rw[jjR h1.2.2] at h2;exact absurd h2 h1.2.1
theorem jlu {s:ByteArray} (hs:s.size<=1000000000) {pre:List It} {x:It} (h:iU s (pre++[x])) (hx:clE x.err ≠ 0):(qW s).err=some (x.pos,x.err)/\clP x.pos=x.pos/\clE x.err=x.err:=by
 obtain⟨ys,h1,h2⟩ := h
 have hm:x ∈ ys:=h2.subset (by simp)
 have hit:∀ t:Tk,(itOk t).err=0:=fun _=>rfl
 have hz:clE 0=0:=rfl
 unfold aB at h1
 split at h1
 ·subst h1
  obtain⟨t,_,rfl⟩ := List.mem_map.1 hm
  exact absurd hz hx
 ·rename_i q e he
  obtain⟨t,rfl⟩ := h1
  rcases List.mem_append.1 hm with hm | hm
  ·obtain⟨t,_,rfl⟩ := List.mem_map.1 hm
   exact absurd hz hx
  ·obtain rfl:x = ⟨t,q,e⟩ := by simpa using hm
   have h3:=(gR _ _ _).2 q e he
   have hsl:=kP s
   exact⟨he,(show clP q=q from if_pos (by omega)),jjR h3.2.2⟩
theorem jhb {p q:Prop} (h:p) (k:q):p/\q:=⟨h,k⟩
def eM (s:ByteArray):List Tk:=match (qW s).err with | some _=>[] | none=>(qW s).toks++[dT s]
theorem vK {s:ByteArray} (h:(qW s).err=none):eM s=(qW s).toks++[dT s]:=by unfold eM;rw[h]
theorem jc6 {s:ByteArray} {p:Nat × Int} (h:(qW s).err=some p):eM s=[]:=by unfold eM;rw[h]
def jn9 (s:ByteArray):Int × Int:=match (qW s).err with | some (p,e)=>(p,e) | none=>(0,0)
structure jqh (s:ByteArray) (w W':World) (v:Value):Prop where
 ex:∃ y,v = .tuple #[y,.int .i64 (jn9 s).1,.int .i64 (jn9 s).2]/\W'.ownsRow w.heap.size 94 4 y (eM s).length (lY (eM s))
set_option maxRecDepth 100000 in
theorem jjh (s:ByteArray) (hs:s.size<=1000000000) (w:World) (C:Rd) (hg:Gok C w) (hsub:Sub C (kJ w)) :
  CallsIn Fence.wide 5 Tryz.prog 21 #[.string s] w fun e W' => ∃ v,e = .returned v/\Below w.heap.size w W'/\(jge s).rep ⟨qU C w W',[],[]⟩ v/\jqh s w W' v:=by
 obtain⟨i0,hi,hz0,hz1,hz2⟩ := info_parts jmz
 refine callsIn_of_wp_marks Tryz.func21 rfl trivial ?_;simp only[Tryz.ntmps21,List.size_toArray,List.length_cons,List.length_nil,Nat.reduceAdd,Nat.reduceSub,Array.replicate_succ,Array.replicate_zero,List.push_toArray,List.append_toArray,List.nil_append,List.cons_append]
 obtain⟨W0,hW0⟩ : ∃ W0,W0=(((w.alloc (.cells #[.slice none 0 0] 62)).alloc (.cells #[.int .i64 0] 3)).alloc (.cells #[.int .i64 0] 30)).alloc (.cells #[.slice none 0 0] 62):=⟨_,rfl⟩
 have kp0:Keeps [] w W0:=by
  rw[hW0];exact (((Keeps.alloc w _).trans (Keeps.alloc _ _)).trans (Keeps.alloc _ _)).trans (Keeps.alloc _ _)
 have hsub0:Sub C (kJ W0):=fun ad u hc=>kp0.cell (hsub ad u hc) (by simp)
 have hg0:Gok C W0:=hg.keep kp0 (by simp)
 have hF:Fence.wide.fn 39:=trivial
 gi_wp2_with (gi_at_call 39;rw[<- hW0];refine (jne s hs _ W0 C hg0 hsub0).mono ?_;rintro e w2 ⟨us,rfl,hk,hus⟩)
 have hsz0:W0.heap.size=w.heap.size+1+1+1+1:=by rw[hW0];simp
 have hB2:Below w.heap.size w w2:=by
  have:Below w.heap.size w W0:=by
   rw[hW0];exact ((((Below.refl _ w).alloc (Nat.le_refl _) _).alloc (by simp) _).alloc (by simp;omega) _).alloc (by simp;omega) _
  exact this.trans ((Keeps.ext hk).mono (by omega))
 have bx2:Boxed w2 w.heap.size 62 (.slice none 0 0):=(hk.block _ (by omega) (by simp)).trans (by rw[hW0];exact (((Boxed.new w _ _).alloc _).alloc _).alloc _)
 have bx3:Boxed w2 (w.heap.size+1) 3 (.int .i64 0):=(hk.block _ (by omega) (by simp)).trans (by rw[hW0];have:=Boxed.new (w.alloc (.cells #[.slice none 0 0] 62)) 3 (.int .i64 0);rw[World.size_alloc] at this;exact (this.alloc _).alloc _)
 have bx4:Boxed w2 (w.heap.size+1+1) 30 (.int .i64 0):=(hk.block _ (by omega) (by simp)).trans (by rw[hW0];have:=Boxed.new ((w.alloc (.cells #[.slice none 0 0] 62)).alloc (.cells #[.int .i64 0] 3)) 30 (.int .i64 0);rw[World.size_alloc,World.size_alloc] at this;exact this.alloc _)
 have bx5:Boxed w2 (w.heap.size+1+1+1) 62 (.slice none 0 0):=(hk.block _ (by omega) (by simp)).trans (by rw[hW0];have:=Boxed.new (((w.alloc (.cells #[.slice none 0 0] 62)).alloc (.cells #[.int .i64 0] 3)).alloc (.cells #[.int .i64 0] 30)) 62 (.slice none 0 0);rw[World.size_alloc,World.size_alloc,World.size_alloc] at this;exact this)
 have hown:∀ b,bM (w.heap.size+1+1+1) w2 b->b=w.heap.size+1+1+1:=by
  rintro b (e | ⟨a,l,c,h1,h2⟩)
  ·exact e
  ·rw[bx5.cell] at h1;cases h1
 have hval:ValB (w.heap.size+1+1+1) w2:=⟨⟨_,bx5,rfl⟩,fun b hb=>by have:=hown b hb;have:=hk.size;omega⟩
 have hplus:Sub C (qU C W0 w2):=fun ad u hc=>by
  unfold qU;rw[if_pos (qB W0 ad (hsub0 ad u hc))];exact hc
 have hseq:=jfa s hs (5-1) (w.heap.size+1+1+1) us w2 (qU C W0 w2) hval (bO hsub0 (Y:=[]) (fun b hb=>by simp at hb) hk) ((hg0.keep hk (by simp)).mono hplus) (fun ad u hc ho=>by
  have e:=hown _ ho
  unfold qU at hc;rw[if_pos (by omega)] at hc
  have:=qB w ad (hsub ad u hc)
  omega) hus
 refine wpIn_rangeFunc_ownH rfl (by decide) (gf:=57) (lb:=us) rfl trivial (enters_of Tryz.func57 (by kernel_rfl) rfl) hseq (fun h k=>h.trans k) (fun W l o o' _ h1 h2 h3=>KpB.put W l o o' h1 (jkg h2 h3)) (Below.refl _ _) (fun _=>rfl)
  (jqi w) (jqj w) (jaH w _ hB2.size) (fun c=>jlX w _ hB2.size c) ⟨by simp,bx2,bx3,bx4,⟨_,bx5,World.ownsRow_nil _ _ _ _⟩,hB2⟩ (jox s us w) (fun x a' => jlV s us w x a' _) ?assign ?body ?done ?stop
 case assign =>
  rintro l pre ⟨tk,xp0,xe0⟩ W K hI hK;simp only[jk2,jjf];simp only[jox,jq3] at hK;generalize clP xp0=xp at *;generalize clE xe0=xe at *
  gi_wp2
  refine hK _ _ (((KeepsOthers.alloc W _).trans (KeepsOthers.alloc _ _)).from _) (KpB.keeps ((Keeps.alloc W _).trans (Keeps.alloc _ _))) ((jaH w _ (Nat.le_refl _)).alloc _ ((jaH w _ (Nat.le_refl _)).alloc _ hI)) ⟨_,_,rfl,?_,?_⟩
  ·exact (Below.heap_alloc _ _ _ (by simp)).trans (World.alloc_heap_new W _)
  ·have:=World.alloc_heap_new (W.alloc (.cells (tkV tk).toArray 94)) (.cells #[.int .i64 xp,.int .i64 xe] 96)
   rw[World.size_alloc] at this;exact this
 case body =>
  rintro l pre ⟨tk,xp0,xe0⟩ a' W hBl hrec ⟨hpre,c2,c3,c4,⟨y,c5,hrow⟩,hB⟩ ⟨b6,b7,rfl,hb6,hb7⟩ hlt
  have hcy:=c5.cell
  simp only[jq3,jjf,tkV] at hb6 hb7 ⊢
  have hxpr:=jhj xp0
  have hxer:=jhi xe0
  obtain⟨xp,hxp⟩ : ∃ xp,xp=clP xp0:=⟨_,rfl⟩
  obtain⟨xe,hxe0⟩ : ∃ xe,xe=clE xe0:=⟨_,rfl⟩
  rw[<- hxp] at hb7 hxpr ⊢;rw[<- hxe0] at hb7 hxer ⊢
  have d70:W.cell? ⟨b7,0,none⟩ = some (.int .i64 xp):=by simp[World.cell?,hb7]
  have d71:W.cell? ⟨b7,1,none⟩ = some (.int .i64 xe):=by simp[World.cell?,hb7]
  have d60:W.cell? ⟨b6,0,none⟩ = some (.int .i64 tk.kind):=by simp[World.cell?,hb6]
  have d61:W.cell? ⟨b6,1,none⟩ = some (.int .i64 tk.pos):=by simp[World.cell?,hb6]
  have d62:W.cell? ⟨b6,2,none⟩ = some (.string tk.text):=by simp[World.cell?,hb6]
  have d63:W.cell? ⟨b6,3,none⟩ = some (.int .i64 tk.n):=by simp[World.cell?,hb6]
  have hmL:pre.length+1<=maxLen:=by unfold maxLen;omega
  have hrow':=hrow.alloc (.cells #[.int .i64 tk.kind,.int .i64 tk.pos,.string tk.text,.int .i64 tk.n] 94)
  have hBs:=hB.size
  by_cases hxe:xe=0
  ·rw[hxe] at hxe0 hb7 d71 ⊢
   gi_wp2_with (gi_at_builtin;refine gL _ rfl _ _ 62 rfl w.heap.size 94 i0 _ 4 40 Tryz.underlying62 hi hz0 hz1 hz2 rfl (by decide) y pre.length (lY (pre.map It.tok)) rfl hrow' ⟨W.heap.size,0,none⟩ 1 1 (tkV tk) rfl rfl (tL _ _ _ _ _ _) (by simp[Value.oneCell',tkV]) hmL (by omega) (by simp;omega) ?_;intro v' w1 hown' hgrow hwhere;obtain⟨g',cap',rfl⟩ := ownsRow_succ hown';obtain⟨hv1,hv2,hr2,hk2,hb2⟩ := c5.appended (by decide) hrow hB.size (by omega) hown' hgrow;have hc1:=hv1.cell;have hf1:=hv1.frozen)
   have keep:∀ {b T v},Boxed W b T v->T ≠ 94->b ≠ w.heap.size+1+1+1->Boxed (w1.setCell ⟨w.heap.size+1+1+1,0,none⟩ (.slice (some ⟨g',0,none⟩) (pre.length+1) cap')) b T v:=fun h hT hb =>
    ((h.alloc _).kept hgrow (h.not_row hT hrow)).kept (grownBy_setCell' _ _ _) (fun e=>hb (by cases e;rfl))
   refine⟨hk2.from _,jiF c5 hrow hgrow hwhere hv2 hr2,fun x hx => ?_,keep c2 (by decide) (by omega),keep c3 (by decide) (by omega),keep c4 (by decide) (by omega),⟨_,hv2,?_⟩,hB.trans hb2⟩
   ·rcases List.mem_append.1 hx with hx | hx
    ·exact hpre x hx
    ·obtain rfl:x = ⟨tk,xp0,xe0⟩ := by simpa using hx
     exact hxe0.symm
   ·have:lY ((pre++[(⟨tk,xp0,xe0⟩ : It)]).map It.tok)=lY (pre.map It.tok)++tkV tk:=by simp[lY]
    rw[this,List.length_append];exact hr2
  ·gi_wp2
   rename_i K1 hK1 hb1 K2 hK2
   have hc:(Cx.mk Tryz.prog tab joc (fun _=>[0,1,2]) 3 (fun _ _=>False)).okN:=jjW joc (fun _=>[0,1,2]) 3
   obtain⟨C0,hC0⟩ : ∃ C0:Rd,C0=fun ad=>if ad.block=b7 then kJ W ad else C ad:=⟨_,rfl⟩
   have hsubW:Sub C (kJ W):=fun ad u h=>(gU (w:=w) (hB.block _ (qB w ad (hsub ad u h)))).trans (hsub ad u h)
   have hgW:Gok C W:=hg.keep (Keeps.of_ext hB) (by simp)
   have hs0:Sub C0 (kJ W):=fun ad u h=>by
    rw[hC0] at h
    simp only at h
    split at h
    ·exact h
    ·exact hsubW ad u h
   have hC:Sub C C0:=fun ad u h=>by
    rw[hC0]
    simp only
    split
    ·exact hsubW ad u h
    ·exact h
   have hne:∀ {b T v},Boxed W b T v->T ≠ 96->b ≠ b7:=fun h hT e=>by
    rw[e] at h
    have:=h.symm.trans hb7
    simp only[Option.some.injEq,Obj.cells.injEq] at this;exact hT this.2.1
   have hnone:∀ b,b ≠ b7->w.heap.size<=b -> ∀ o sp,C0 ⟨b,o,sp⟩ = none:=fun b hb hw o sp=>by
    rw[hC0];simp only[if_neg hb]
    cases h:C ⟨b,o,sp⟩ with
    | none=>rfl
    | some u =>
     have:b<w.heap.size:=qB w _ (hsub _ u h)
     omega
   have hpp:(A.pp [.v (.int .i64 xp),.v (.int .i64 xe)]).rep ⟨C0,[w.heap.size,w.heap.size+1,w.heap.size+1+1],[]⟩ (.pointer (some ⟨b7,0,none⟩)):=by
    unfold A.rep;refine⟨b7,0,rfl,⟨.int .i64 xp,?_,rfl,A.rep_v (okV_int.2 (jS (by omega)))⟩,⟨.int .i64 xe,?_,rfl,A.rep_v (okV_int.2 (jS (by omega)))⟩,trivial⟩
    ·rw[hC0];exact (if_pos rfl).trans d70
    ·rw[hC0];exact (if_pos rfl).trans d71
   have hinv:=fun (a:Act) ht hd=>joZ (a:=a) (C0:=C0) (W:=W) (β:=[w.heap.size,w.heap.size+1,w.heap.size+1+1]) (bx:=[[.v (.slice none 0 0)],[.v (.int .i64 0)],[.v (.int .i64 0)]]) (t:=[.dead,.dead,.box 0 0,.box 1 0,.box 2 0,.dead,.dead,.pp [.v (.int .i64 xp),.v (.int .i64 xe)],.dead,.dead,.dead,.dead,.dead,.dead,.dead,.dead,.dead,.dead,.dead,.dead,.dead,.dead,.dead,.dead,.dead,.dead,.dead,.dead,.dead]) (hgW.mono hC) hs0 (by simp;omega) (fun b hb=>by
     simp only[List.mem_cons,List.not_mem_nil,or_false] at hb
     rcases hb with rfl | rfl | rfl
     ·exact hnone _ (hne c2 (by decide)) (by omega)
     ·exact hnone _ (hne c3 (by decide)) (by omega)
     ·exact hnone _ (hne c4 (by decide)) (by omega)) rfl (fun i b cs h1 h2=>by
     match i,h1,h2 with
     | 0,h1,h2=>cases h1;cases h2;exact jcI c2 trivial
     | 1,h1,h2=>cases h1;cases h2;exact jcI c3 (okV_int.2 (jS (by omega)))
     | 2,h1,h2=>cases h1;cases h2;exact jcI c4 (okV_int.2 (jS (by omega)))
     | n+3,h1,h2=>simp at h1) ht hd
   refine jj2 hc (hinv _ ?_ ?_) rfl rfl (by kernel_rfl) rfl ?_
   ·exact⟨_,_,rfl,A.rep_dead _ _,_,_,rfl,A.rep_dead _ _,_,_,rfl,(by unfold A.rep;exact⟨_,rfl,rfl⟩),_,_,rfl,(by unfold A.rep;exact⟨_,rfl,rfl⟩),_,_,rfl,(by unfold A.rep;exact⟨_,rfl,rfl⟩),_,_,rfl,A.rep_dead _ _,_,_,rfl,A.rep_dead _ _,_,_,rfl,hpp,_,_,rfl,A.rep_dead _ _,_,_,rfl,A.rep_dead _ _,_,_,rfl,A.rep_dead _ _,_,_,rfl,A.rep_dead _ _,_,_,rfl,A.rep_dead _ _,_,_,rfl,A.rep_dead _ _,_,_,rfl,A.rep_dead _ _,_,_,rfl,A.rep_dead _ _,_,_,rfl,A.rep_dead _ _,_,_,rfl,A.rep_dead _ _,_,_,rfl,A.rep_dead _ _,_,_,rfl,A.rep_dead _ _,_,_,rfl,A.rep_dead _ _,_,_,rfl,A.rep_dead _ _,_,_,rfl,A.rep_dead _ _,_,_,rfl,A.rep_dead _ _,_,_,rfl,A.rep_dead _ _,_,_,rfl,A.rep_dead _ _,_,_,rfl,A.rep_dead _ _,_,_,rfl,A.rep_dead _ _,_,_,rfl,A.rep_dead _ _,rfl⟩
   ·rfl
   conv=>whnf
   refine⟨rfl,fun a9 w9 hi9=>hK2 _ _ (wpIn_ret ?_)⟩
   have h90:=tF hi9 (i:=0) rfl rfl
   have h91:=tF hi9 (i:=1) rfl rfl
   have h92:=tF hi9 (i:=2) rfl rfl
   have hk9:Keeps [w.heap.size,w.heap.size+1,w.heap.size+1+1] W w9:=by obtain⟨E,hp,_,_⟩ := hi9;exact hp.keep
   refine⟨⟨hk9.size,fun b o hb h1 h2=>(hk9.block b (xN h1) fun hm => ?_).trans h1⟩,rfl,pre,_,rfl,by rw[<- hxe0];exact hxe,h90,by rw[<- hxp];exact h91,by rw[<- hxe0];exact h92,hB.trans ⟨hk9.os,hk9.tape,hk9.output,hk9.size,fun b hb=>hk9.block b (by omega) fun hm => ?_⟩⟩
   ·have hnc:∀ {T v},Boxed W b T v->False:=fun h=>by
     have:=h.symm.trans h1
     cases this
     cases h2
    simp only[List.mem_cons,List.not_mem_nil,or_false] at hm
    rcases hm with rfl | rfl | rfl
    ·exact hnc c2
    ·exact hnc c3
    ·exact hnc c4
   ·simp only[List.mem_cons,List.not_mem_nil,or_false] at hm;omega
 case done =>
  rintro D ys W hD hS ⟨hpre,c2,c3,c4,⟨y,c5,hrow⟩,hB⟩ hK
  have hcy:=c5.cell
  have hc2:=c2.cell
  have hc3:=c3.cell
  have hc4:=c4.cell
  have hf2:=c2.frozen
  have hf3:=c3.frozen
  have hf4:=c4.frozen
  have hrow':=hrow.alloc (.cells #[.int .i64 0,.int .i64 s.size,.string ⟨#[]⟩,.int .i64 0] 94)
  have hBs:=hB.size
  obtain⟨herr,hys⟩ := joC hS hpre
  have hyl:ys.length<=s.size:=by
   rw[hys,List.length_map]
   have:=(gR (s.data.toList.length+1) 0 s.data.toList).1
   have hsl:=kP s
   exact Nat.le_trans this (by omega)
  have hmL:ys.length+1<=maxLen:=by unfold maxLen;omega
  clear hcy hc2 hc3 hc4 hf2 hf3 hf4
  have hcy:=c5.cell
  gi_wp2_with (gi_at_builtin;refine gL _ rfl _ _ 62 rfl w.heap.size 94 i0 _ 4 40 Tryz.underlying62 hi hz0 hz1 hz2 rfl (by decide) y ys.length (lY (ys.map It.tok)) rfl hrow' ⟨W.heap.size,0,none⟩ 1 1 (tkV (dT s)) rfl rfl (tL _ _ _ _ _ _) (by simp[Value.oneCell',tkV]) hmL (by omega) (by simp;omega) ?_;intro v' w1 hown' hgrow hwhere;obtain⟨g',cap',rfl⟩ := ownsRow_succ hown';have k2:=(c2.alloc _).kept hgrow (c2.not_row (by decide) hrow);have k3:=(c3.alloc _).kept hgrow (c3.not_row (by decide) hrow);have k4:=(c4.alloc _).kept hgrow (c4.not_row (by decide) hrow);have hc2:=k2.cell;have hc3:=k3.cell;have hc4:=k4.cell;have hf2:=k2.frozen;have hf3:=k3.frozen;have hf4:=k4.frozen)
  have n25:w.heap.size ≠ w.heap.size+1:=by omega
  have hkD:w1.heap[D]? = some (.deferred (some [])):=by
   refine (hgrow.block D ?_ fun e => ?_).trans ((Below.heap_alloc _ _ _ (xN hK)).trans hK)
   ·have:=xN hK
    rw[World.size_alloc];omega
   ·rcases hrow.2 with ⟨rfl,_⟩ | ⟨g,cap,cur,rfl,_,hgb,_⟩
    ·simp[Value.ownBlock] at e
    ·obtain rfl:D=g:=by simpa [Value.ownBlock] using e
     rw[hK] at hgb
     cases hgb
  have hB1:Below w.heap.size W w1:=by
   refine ((Below.refl w.heap.size W).alloc hBs _).grown hgrow (by simp;omega) fun j ej => ?_
   rcases hrow.2 with ⟨rfl,_⟩ | ⟨g,cap,cur,rfl,hb,_,_⟩
   ·simp[Value.ownBlock] at ej
   ·obtain rfl:g=j:=by simpa [Value.ownBlock] using ej
    exact hb
  have e1:w.heap.size ≠ w.heap.size+1:=by omega
  have e2:w.heap.size ≠ w.heap.size+1+1:=by omega
  have e3:w.heap.size+1 ≠ w.heap.size+1+1:=by omega
  have hyn:ys.length=(qW s).toks.length:=by rw[hys,List.length_map]
  rw[hyn] at hown';generalize hv':Value.slice (some ⟨g',0,none⟩) ((qW s).toks.length+1) cap'=v' at *
  have o1:=hown'.kept (grownBy_setCell' w1 w.heap.size v') (.inr (k2.not_row (by decide) hown').symm)
  have k3a:=k3.other e1.symm v'
  have o2:=o1.kept (grownBy_setCell' _ (w.heap.size+1) (.int .i64 0)) (.inr (k3a.not_row (by decide) o1).symm)
  have k4b:=(k4.other e2.symm v').other e3.symm (.int .i64 0)
  have o3:=o2.kept (grownBy_setCell' _ (w.heap.size+1+1) (.int .i64 0)) (.inr (k4b.not_row (by decide) o2).symm)
  have x2:=((k2.set v').other e1 (.int .i64 0)).other e2 (.int .i64 0)
  have x3:=(k3a.set (.int .i64 0)).other e3 (.int .i64 0)
  have x4:=k4b.set (.int .i64 0)
  have hB3:=((hB1.setCell (p:=⟨w.heap.size,0,none⟩) (Nat.le_refl _) v').setCell (p:=⟨w.heap.size+1,0,none⟩) (by simp) (.int .i64 0)).setCell (p:=⟨w.heap.size+1+1,0,none⟩) (by simp;omega) (.int .i64 0)
  have hDl:w.heap.size+1+1+1<D:=by have:=hk.size;omega
  have hD3:=(Below.heap_setCell _ ⟨w.heap.size+1+1,0,none⟩ (.int .i64 0) D (by simp;omega)).trans ((Below.heap_setCell _ ⟨w.heap.size+1,0,none⟩ (.int .i64 0) D (by simp;omega)).trans ((Below.heap_setCell _ ⟨w.heap.size,0,none⟩ v' D (by simp;omega)).trans hkD))
  generalize ((w1.setCell ⟨w.heap.size,0,none⟩ v').setCell ⟨w.heap.size+1,0,none⟩ (.int .i64 0)).setCell ⟨w.heap.size+1+1,0,none⟩ (.int .i64 0)=W3 at *;refine⟨by simp,.inl ⟨_,_,rfl,run_takeDeferred hD3,?_⟩⟩
  have hg3:=grownBy_putObj' W3 D (.deferred none)
  have hr3:∀ r,some D=some r -> ∃ o:Obj,W3.heap[r]? = some o/\o.isCells=false:=fun r e=>by cases e;exact⟨_,hD3,rfl⟩
  have y2:=cell_kept x2.cell hg3 hr3
  have y3:=cell_kept x3.cell hg3 hr3
  have y4:=cell_kept x4.cell hg3 hr3
  have o4:=ownsRow_putObj o3 (.deferred none) hD3 rfl
  have hB4:=(hB.trans hB3).trans (belowK_b (w:=w) (Nat.le_refl _) W3 D _ (.deferred none) (by omega) hD3 rfl rfl)
  generalize W3.putObj D (.deferred none)=W4 at *;refine⟨.tuple #[v',.int .i64 0,.int .i64 0],jf4 jaA rfl rfl rfl rfl rfl rfl rfl rfl rfl rfl y2 y3 y4,_,rfl,hB4,?_⟩
  have hxs0:ys.map It.tok=(qW s).toks:=by rw[hys,List.map_map];exact List.map_id'' (fun _=>rfl) _
  refine jhb ?_ ⟨⟨v',by unfold jn9;rw[herr],by rw[vK herr,List.length_append,List.length_singleton];rw[hxs0] at o4;rw[show lY ((qW s).toks++[dT s])=lY (qW s).toks++tkV (dT s) by simp[lY]];exact o4⟩⟩
  have hlx:jge s = .tup [.sl 4 ((qW s).toks.length+1) (yH (qW s).toks++pY (dT s)),jJ 0,jJ 0]:=by unfold jge;rw[herr];simp[yH]
  rw[hlx];unfold A.rep;refine⟨_,rfl,_,_,rfl,?_,_,_,rfl,A.rep_v (okV_int.2 (jS (by omega))),_,_,rfl,A.rep_v (okV_int.2 (jS (by omega))),rfl⟩
  have hxs:ys.map It.tok=(qW s).toks:=by rw[hys,List.map_map];exact List.map_id'' (fun _=>rfl) _
  have hsl:=kP s
  have htl:∀ l:List Tk,(yH l).length=l.length*4:=fun l=>by
   induction l with
   | nil=>rfl
   | cons t l ih=>rw[show yH (t :: l)=pY t++yH l from rfl,List.length_append,ih,List.length_cons];simp only[pY,List.length_cons,List.length_nil];omega
  rw[hxs] at o4
  rcases o4.2 with ⟨h,_⟩ | ⟨g,cap,cur,hv4,hbg,hgb,hnc,hcm,hcs,htk⟩
  ·rw[<- hv'] at h
   cases h
  ·unfold A.rep;refine⟨by rw[List.length_append,htl];simp only[pY,List.length_cons,List.length_nil];omega,by rw[hyn] at hmL;exact hmL,some ⟨g,0,none⟩,g,0,cap,hv4,hnc,.inr rfl,(fun e=>by simp at e),?_⟩
   refine A.repAt_mk (A.repC_append (ji0 (fK _ _ _ (by omega))) (jlQ (.inr ⟨rfl,by show s.size<=_;omega,rfl,rfl⟩))) fun j u hj => ?_
   show qU C w W4 ⟨g,0+j,none⟩ = some u
   rw[ja7 hbg,Nat.zero_add];simp only[World.cell?,hgb]
   have hj2:(lY (qW s).toks++tkV (dT s))[j]? = some u:=hj
   rw[<- htk,List.getElem?_take] at hj2
   split at hj2
   ·simpa using hj2
   ·cases hj2
 case stop =>
  rintro D c pre W hD hSp ⟨rfl,q,x,rfl,hx,h2,h3,h4,hB⟩ hK
  obtain⟨herr,hxp,hxe⟩ := jlu hs hSp hx
  gi_wp2
  refine⟨by simp,.inl ⟨_,_,rfl,run_takeDeferred hK,?_⟩⟩
  have hg3:=grownBy_putObj' W D (.deferred none)
  have hr3:∀ r,some D=some r -> ∃ o:Obj,W.heap[r]? = some o/\o.isCells=false:=fun r e=>by cases e;exact⟨_,hK,rfl⟩
  have g2:=cell_kept h2 hg3 hr3
  have g3:=cell_kept h3 hg3 hr3
  have g4:=cell_kept h4 hg3 hr3
  refine⟨.tuple #[.slice none 0 0,.int .i64 (clP x.pos:Nat),.int .i64 (clE x.err)],?_,_,rfl,hB.trans (belowK_b (w:=w) (Nat.le_refl _) W D _ _ (by have:=hB2.size;omega) hK rfl rfl),?_⟩
  ·exact jf4 jaA rfl rfl rfl rfl rfl rfl rfl rfl rfl rfl g2 g3 g4
  ·refine jhb ?_ ⟨⟨.slice none 0 0,by unfold jn9;rw[herr,hxp,hxe],by rw[jc6 herr];exact World.ownsRow_nil _ _ _ _⟩⟩
   have hlx:jge s = .tup [.v (.slice none 0 0),jJ x.pos,jJ x.err]:=by unfold jge;rw[herr]
   have hr1:=jhj x.pos
   have hr2:=jhi x.err
   rw[hlx,hxp,hxe];rw[hxp] at hr1;rw[hxe] at hr2;unfold A.rep;exact⟨_,rfl,_,_,rfl,A.rep_v trivial,_,_,rfl,A.rep_v (okV_int.2 (jS (by omega))),_,_,rfl,A.rep_v (okV_int.2 (jS (by omega))),rfl⟩
theorem jfv (s:ByteArray) (hs:s.size<=1000000000):Spec Tryz.prog 21 [] [.v (.string s)] fun _ r=>r=jge s:=by
 refine nT (vN Tryz.func21 rfl (by kernel_rfl)) fun w C vals hg hsub hv => ?_
 obtain⟨u,us,rfl,h1,h2⟩ := hv
 have e1:=(A.rep_v_iff.1 h1).1
 obtain rfl:us=[]:=h2
 subst e1;refine (callsIn_wide.1 (jjh s hs w C hg hsub)).mono ?_;rintro e w' ⟨v,rfl,hB,hr,_⟩;exact⟨v,rfl,hB,hr⟩
theorem jna (s:ByteArray) (hs:s.size<=1000000000):∀ t ∈ eM s,jnw t ∨ t.kind=0/\t.pos<=1000000000/\t.text.size=0/\t.n=0:=fun t ht=>by
 cases he:(qW s).err with
 | some p=>rw[jc6 he] at ht;cases ht
 | none =>
  rw[vK he] at ht
  rcases List.mem_append.1 ht with h | h
  ·exact .inl (fK _ _ _ (by have:=kP s;omega) t h)
  ·obtain rfl:=List.mem_singleton.1 h
   exact .inr ⟨rfl,hs,rfl,rfl⟩
section
mutual
inductive Wk:A->A->Prop
 | refl (a:A):Wk a a
 | nil (k:Nat):Wk (.v (.slice none 0 0)) (.sl k 0 [])
 | dead (a:A):Wk a .dead
 | sl (k n:Nat) {cs ds:List A} (h:WkL cs ds):Wk (.sl k n cs) (.sl k n ds)
 | pp {cs ds:List A} (h:WkL cs ds):Wk (.pp cs) (.pp ds)
 | agg {cs ds:List A} (h:WkL cs ds):Wk (.agg cs) (.agg ds)
 | tup {cs ds:List A} (h:WkL cs ds):Wk (.tup cs) (.tup ds)
inductive WkL:List A->List A->Prop
 | nil:WkL [] []
 | cons {a b:A} {xs ys:List A} (h:Wk a b) (k:WkL xs ys):WkL (a :: xs) (b :: ys)
end
theorem WkL.refl:∀ l:List A,WkL l l
 | [] => .nil
 | a :: l => .cons (.refl a) (WkL.refl l)
theorem WkL.app {a b c d:List A} (h:WkL a b) (k:WkL c d):WkL (a++c) (b++d):=by
 induction a generalizing b with
 | nil=>cases h;exact k
 | cons x a ih=>cases h with | cons h1 h2=>exact .cons h1 (ih h2)
theorem WkL.length {a b:List A} (h:WkL a b):a.length=b.length:=by
 induction a generalizing b with
 | nil=>cases h;rfl
 | cons x a ih=>cases h with | cons h1 h2=>simp[ih h2]
mutual
theorem jh1:∀ {a b:A} {E:Env} {y:Value},Wk a b->a.rep E y->b.rep E y
 | _,_,_,_,.refl _,k=>k
 | _,_,_,_,.nil _,k=>jp9 k
 | _,_,_,_,.dead _,_=>A.rep_dead _ _
 | _,_,_,_,.sl k n h,r=>by
  unfold A.rep at r ⊢
  obtain⟨h1,h2,p,b,off,cap,h3,h4,h6,h7,h8⟩ := r
  exact⟨by rw[<- h.length];exact h1,h2,p,b,off,cap,h3,h4,h6,h7,jh0 h h8⟩
 | _,_,_,_,.pp h,r=>by
  unfold A.rep at r ⊢
  obtain⟨b,off,h1,h2⟩ := r
  exact⟨b,off,h1,jh0 h h2⟩
 | _,_,_,_,.agg h,r=>by
  unfold A.rep at r ⊢
  obtain⟨us,h1,h2⟩ := r
  exact⟨us,h1,A.repC_mk (f0 h (A.repC_L h2)) (A.repC_one h2)⟩
 | _,_,_,_,.tup h,r=>by
  unfold A.rep at r ⊢
  obtain⟨us,h1,h2⟩ := r
  exact⟨us,h1,f0 h h2⟩
theorem f0:∀ {a b:List A} {E:Env} {us:List Value},WkL a b->A.repL a E us->A.repL b E us
 | _,_,_,_,.nil,k=>k
 | _,_,_,_,.cons h k,r=>by
  unfold A.repL at r ⊢
  obtain⟨u,us',h1,h2,h3⟩ := r
  exact⟨u,us',h1,jh1 h h2,f0 k h3⟩
theorem jh0:∀ {a b:List A} {E:Env} {bl off:Nat},WkL a b->A.repAt a E bl off->A.repAt b E bl off
 | _,_,_,_,_,.nil,_=>by unfold A.repAt;trivial
 | _,_,_,_,_,.cons h k,r=>by
  unfold A.repAt at r ⊢
  obtain⟨⟨u,h1,h2,h3⟩,h4⟩ := r
  exact⟨⟨u,h1,h2,jh1 h h3⟩,jh0 k h4⟩
end
theorem jmf {a:A} {t:Nat} (h:Wk a (.adr t)):a = .adr t:=by cases h;rfl
theorem jfG {l:List A} {t:Nat} {r:List A} (h:WkL l (.adr t :: r)):∃ r',l = .adr t :: r':=by
 cases h with
 | cons h1 h2=>exact⟨_,by rw[jmf h1]⟩
theorem ji7 {l m:List A} (h:WkL l m):WkL (gJ l) (gJ m):=by
 cases h with
 | nil=>exact .nil
 | @cons a b xs ys h k =>
  by_cases ha:∃ t,a = .adr t
  ·obtain⟨t,rfl⟩ := ha
   cases h <;> exact .cons (.refl _) k
  ·have hb:∀ t,b ≠ .adr t:=fun t e=>by subst e;exact ha ⟨t,jmf h⟩
   rw[wY fun t r e=>ha ⟨t,by injection e⟩,wY fun t r e=>hb t (by injection e)];exact .cons h k
inductive WkB:List (List A)->List (List A)->Prop
 | nil:WkB [] []
 | cons {a b:List A} {xs ys:List (List A)} (h:WkL a b) (k:WkB xs ys):WkB (a :: xs) (b :: ys)
theorem WkB.refl:∀ l:List (List A),WkB l l
 | [] => .nil
 | a :: l => .cons (.refl a) (WkB.refl l)
theorem WkB.get {a b:List (List A)} (h:WkB a b) {i:Nat} {c:List A} (hc:b[i]? = some c):∃ c0,a[i]? = some c0/\WkL c0 c:=by
 induction a generalizing b i with
 | nil=>cases h;simp at hc
 | cons x a ih =>
  cases h with
  | cons h1 h2 =>
   cases i with
   | zero=>simp at hc;subst hc;exact⟨x,rfl,h1⟩
   | succ i=>simpa using ih h2 (by simpa using hc)
theorem WkB.length {a b:List (List A)} (h:WkB a b):a.length=b.length:=by
 induction a generalizing b with
 | nil=>cases h;rfl
 | cons x a ih=>cases h with | cons h1 h2=>simp[ih h2]
section
variable {P:Program} {f:Nat} {ins ins':List (List A)} {args args':List A} {post post':List (List A)->A->Prop} {pn pn':List PanicEntry->Prop}
theorem SpecP.weaken (h:SpecP P f ins args post pn) (hp:∀ o r,post o r -> ∃ o' r',post' o' r'/\WkB o o'/\Wk r r') (hn:∀ ch,pn ch->pn' ch):SpecP P f ins args post' pn' :=
 ⟨h.1,fun w C β vals h0 h1 h2 h3 h4 h5 h6=>(h.2 w C β vals h0 h1 h2 h3 h4 h5 h6).mono fun e w' hh=>by
  rcases hh with ⟨outs,r,v,k1,k2,k3,k4,k5,k6⟩ | ⟨ch,ns,k1,k2,k3⟩
  ·obtain⟨o',r',g1,g2,g3⟩ := hp _ _ k2
   refine .inl ⟨o',r',v,k1,g1,k3,by rw[<- g2.length];exact k4,fun i b cs q1 q2 => ?_,jh1 g3 k6⟩
   obtain⟨c0,q3,q4⟩ := g2.get q2
   obtain⟨T,arr,q5,q6⟩ := k5 i b c0 q1 q3
   exact⟨T,arr,q5,q6.rel WkL q4 (fun l m us e k=>f0 e k) (fun l m e=>ji7 e) fun l t r e=>jfG e⟩
  ·exact .inr ⟨ch,ns,k1,hn _ k2,k3⟩⟩
theorem Spec.weaken (h:Spec P f ins args post) (hp:∀ o r,post o r -> ∃ o' r',post' o' r'/\WkB o o'/\Wk r r'):Spec P f ins args post' :=
 (h.toP.weaken hp (pn':=fun _=>False) fun _ h=>h).toS
theorem SpecP.wargs (h:SpecP P f ins' args' post pn) (ha:WkL args args') (hi:WkB ins ins'):SpecP P f ins args post pn :=
 ⟨h.1,fun w C β vals h0 h1 h2 h3 h4 h5 h6=>h.2 w C β vals h0 h1 h2 h3 (by rw[<- hi.length];exact h4) (fun i b cs q1 q2=>by
  obtain⟨c0,q3,q4⟩ := hi.get q2
  obtain⟨T,arr,q5,q6⟩ := h5 i b c0 q1 q3
  exact⟨T,arr,q5,q6.rel WkL q4 (fun l m us e k=>f0 e k) (fun l m e=>ji7 e) fun l t r e=>jfG e⟩) (f0 ha h6)⟩
theorem Spec.wargs (h:Spec P f ins' args' post) (ha:WkL args args') (hi:WkB ins ins'):Spec P f ins args post:=(h.toP.wargs ha hi).toS
end
end
end Go.Proofs.YtgifglkkmhapiaaGreatDoor.Vm
namespace Go.Proofs.YtgifglkkmhapiaaGreatDoor.Vm
open Go.RowKit Go.Shelf
inductive Fm where
 | mk (k a b n:Int) (kids:List Fm)
inductive Ps where
 | ok (f:Fm) (r:List Tk)
 | bad (p e:Int)
def tk0:Tk:=⟨0,0,⟨#[]⟩,0⟩
def hd (ts:List Tk):Tk:=ts.headD tk0
theorem jny (l:List Tk):(yH l).length=l.length*4:=by
 induction l with
 | nil=>rfl
 | cons t l ih=>rw[show yH (t :: l)=pY t++yH l from rfl,List.length_append,ih,List.length_cons];simp only[pY,List.length_cons,List.length_nil];omega
theorem gF {ts:List Tk} (h:0<ts.length):jM 4 (Int.toNat 0) (yH ts)=pY (hd ts):=by
 cases ts with
 | nil=>simp at h
 | cons t r=>exact nR pY (fun _=>rfl) (t :: r) 0 (by simp)
theorem jlR {ts:List Tk} (h:0<ts.length):((yH ts).drop 4).take ((ts.length-1)*4)=yH ts.tail:=by
 cases ts with
 | nil=>simp at h
 | cons t r =>
  show (yH r).take ((r.length+1-1)*4)=yH r
  refine List.take_of_length_le ?_;rw[jny];simp
inductive Nt where
 | mk (k n:Int) (s:ByteArray) (kids:List Nt)
def Nt.k:Nt->Int | .mk k _ _ _=>k
def Nt.n:Nt->Int | .mk _ n _ _=>n
def Nt.s:Nt->ByteArray | .mk _ _ s _=>s
def Nt.kids:Nt->List Nt | .mk _ _ _ l=>l
mutual
def nt0:Nt->List A
 | .mk k n s l=>[jJ k,jJ n,j0 s,.sl 4 l.length (jgo l)]
def jgo:List Nt->List A
 | []=>[]
 | f :: l=>nt0 f++jgo l
end
@[irreducible] def qG (l:List Nt):List A:=jgo l
def ntA (f:Nt):List A:=[jJ f.k,jJ f.n,j0 f.s,.sl 4 f.kids.length (qG f.kids)]
theorem jgn (f:Nt):nt0 f=ntA f:=by
 cases f with
 | mk k n s l=>unfold nt0 ntA qG;rfl
theorem kC:qG []=[]:=by unfold qG jgo;rfl
theorem qQ (f:Nt) (l:List Nt):qG (f :: l)=ntA f++qG l:=by
 unfold qG;rw[<- jgn]
 conv=>lhs;unfold jgo
theorem jkC (l m:List Nt):qG (l++m)=qG l++qG m:=by
 induction l with
 | nil=>rw[List.nil_append,kC,List.nil_append]
 | cons f l ih=>rw[List.cons_append,qQ,qQ,ih,List.append_assoc]
theorem jiP (l:List Nt):qG l=l.flatMap ntA:=by
 induction l with
 | nil=>rw[kC];rfl
 | cons f l ih=>rw[qQ,ih,List.flatMap_cons]
theorem pM (l:List Nt) (f:Nt):qG (l++[f])=qG l++ntA f:=by rw[jkC,qQ,kC,List.append_nil]
theorem xA (l:List Nt) (i:Nat) (hi:i<l.length):jM 4 i (qG l)=ntA l[i]:=by rw[jiP];exact nR ntA (fun _=>rfl) l i hi
theorem jkD (l:List Nt):(qG l).length=l.length*4:=by
 induction l with
 | nil=>rw[kC];rfl
 | cons f l ih=>rw[qQ,List.length_append,ih,List.length_cons];simp only[ntA,List.length_cons,List.length_nil];omega
def pLp:ByteArray:=⟨#[40]⟩
def pRp:ByteArray:=⟨#[41]⟩
def pLb:ByteArray:=⟨#[123]⟩
def pRb:ByteArray:=⟨#[125]⟩
def pSemi:ByteArray:=⟨#[59]⟩
def pComma:ByteArray:=⟨#[44]⟩
def pEq:ByteArray:=⟨#[61]⟩
def zH:ByteArray:=⟨#[33]⟩
def pMinus:ByteArray:=⟨#[45]⟩
def wH:ByteArray:=⟨#[43]⟩
def z7:ByteArray:=⟨#[42]⟩
def qJ:ByteArray:=⟨#[47]⟩
def yP:ByteArray:=⟨#[38,38]⟩
def pOr:ByteArray:=⟨#[124,124]⟩
def pLt:ByteArray:=⟨#[60]⟩
def pLe:ByteArray:=⟨#[60,61]⟩
def pGt:ByteArray:=⟨#[62]⟩
def pGe:ByteArray:=⟨#[62,61]⟩
def jpl:ByteArray:=⟨#[61,61]⟩
def pNe:ByteArray:=⟨#[33,61]⟩
def wDurable:ByteArray:=⟨#[100,117,114,97,98,108,101]⟩
def wVolatile:ByteArray:=⟨#[118,111,108,97,116,105,108,101]⟩
def wOn:ByteArray:=⟨#[111,110]⟩
def wStart:ByteArray:=⟨#[115,116,97,114,116]⟩
def wRequest:ByteArray:=⟨#[114,101,113,117,101,115,116]⟩
def wTimer:ByteArray:=⟨#[116,105,109,101,114]⟩
def wMessage:ByteArray:=⟨#[109,101,115,115,97,103,101]⟩
def wIf:ByteArray:=⟨#[105,102]⟩
def wElse:ByteArray:=⟨#[101,108,115,101]⟩
def wWhile:ByteArray:=⟨#[119,104,105,108,101]⟩
def wSend:ByteArray:=⟨#[115,101,110,100]⟩
def wCancel:ByteArray:=⟨#[99,97,110,99,101,108]⟩
def xY:ByteArray:=⟨#[115,121,110,99]⟩
def wReply:ByteArray:=⟨#[114,101,112,108,121]⟩
def wFail:ByteArray:=⟨#[102,97,105,108]⟩
def xX:ByteArray:=⟨#[115,116,111,112]⟩
def oQ:ByteArray:=⟨#[116,114,117,101]⟩
def cZ:ByteArray:=⟨#[102,97,108,115,101]⟩
def wDraw:ByteArray:=⟨#[100,114,97,119]⟩
def keyL:List ByteArray:=[wDurable,wVolatile,wOn,wStart,wRequest,wTimer,wMessage,wIf,wElse,wWhile,wSend,wCancel,xY,wReply,wFail,xX,oQ,cZ,wDraw]
def builtL:List ByteArray:=[⟨#[115,101,108,102]⟩,⟨#[110,111,100,101,115]⟩,⟨#[110,111,119]⟩,⟨#[102,114,111,109]⟩,⟨#[97]⟩,⟨#[98]⟩,⟨#[105,100]⟩,⟨#[111,112]⟩,⟨#[107,101,121]⟩]
def eB:ByteArray:=⟨#[]⟩
inductive Pn where
 | ok (f:Nt) (r:List Tk)
 | bad (p e:Int)
def qS (s:ByteArray) (ts:List Tk):Bool:=decide ((hd ts).text=s) && (decide ((hd ts).kind=1) || decide ((hd ts).kind=3))
def vV (l:List ByteArray) (ts:List Tk):Bool:=l.any fun s=>qS s ts
def yU (ts:List Tk):Bool:=decide ((hd ts).kind=1) && !(keyL++builtL).any fun s=>decide ((hd ts).text=s)
def jer (ts:List Tk):Bool:=decide ((hd ts).kind=1) && builtL.any fun s=>decide ((hd ts).text=s)
def synE (ts:List Tk):Pn := .bad (hd ts).pos 10
def xpt (s:ByteArray) (ts:List Tk) (k:List Tk->Pn):Pn:=if qS s ts=true then k ts.tail else synE ts
def Pn.andThen:Pn->(Nt->List Tk->Pn)->Pn
 | .ok f r,k=>k f r
 | .bad x e,_ => .bad x e
structure Pa where
 no:List Tk->Pn
 un:List Tk->Pn
 ex:List Tk->Pn
 bl:List Tk->Pn
def dB (low:Option Pa) (ts:List Tk):Pn :=
 if qS pLp ts=true then match low with
  | none => .bad (hd ts).pos 2
  | some p=>(p.ex ts.tail).andThen fun n r=>xpt pRp r fun r' => .ok n r'
 else synE ts
def wI (low:Option Pa) (ts:List Tk):Pn :=
 if qS pLp ts=true then dB low ts
 else if qS wDraw ts=true then (dB low ts.tail).andThen fun n r => .ok (.mk 16 0 eB [n]) r
 else if (hd ts).kind=2 then .ok (.mk 12 (hd ts).n eB []) ts.tail
 else if qS oQ ts=true then .ok (.mk 13 1 eB []) ts.tail
 else if qS cZ ts=true then .ok (.mk 13 0 eB []) ts.tail
 else if yU ts=true then .ok (.mk 14 0 (hd ts).text []) ts.tail
 else if jer ts=true then .ok (.mk 15 0 (hd ts).text []) ts.tail
 else synE ts
def r9 (s:ByteArray) (op:Option (List Tk->Pn)) (ts:List Tk):Pn:=match op with
 | none => .bad (hd ts).pos 2
 | some f=>(f ts.tail).andThen fun n r => .ok (.mk 17 0 s [n]) r
def x6 (low:Option Pa) (ts:List Tk):Pn:=if qS pMinus ts=true then r9 pMinus (low.map (·.un)) ts else wI low ts
def xK (op:List Tk->Pn) (signs:List ByteArray):Nat->Nt->List Tk->Pn
 | 0,l,ts => .ok l ts
 | n+1,l,ts=>if vV signs ts=true then (op ts.tail).andThen fun f r=>xK op signs n (.mk 18 0 (hd ts).text [l,f]) r else .ok l ts
def kG (op:List Tk->Pn) (signs:List ByteArray) (ts:List Tk):Pn:=(op ts).andThen fun f r=>xK op signs r.length f r
def cmpL:List ByteArray:=[pLt,pLe,pGt,pGe,jpl,pNe]
def jax (low:Option Pa):List Tk->Pn:=kG (kG (x6 low) [z7,qJ]) [wH,pMinus]
def lK (low:Option Pa) (ts:List Tk):Pn:=if qS zH ts=true then r9 zH (low.map (·.no)) ts
 else (jax low ts).andThen fun l r=>if vV cmpL r=true then (jax low r.tail).andThen fun m r' => .ok (.mk 18 0 (hd r).text [l,m]) r' else .ok l r
def mR (low:Option Pa):List Tk->Pn:=kG (kG (lK low) [yP]) [pOr]
def bL (limit:Int) (ts:List Tk) (k:Int->List Tk->Pn):Pn:=if (hd ts).kind ≠ 2 then synE ts else if limit<=(hd ts).n then .bad (hd ts).pos 6 else k (hd ts).n ts.tail
def zD (l:List Nt):Nt := .mk 11 0 eB l
def eU (ex bl:List Tk->Pn) (ts:List Tk):Pn :=
 if yU ts=true then xpt pEq ts.tail fun r=>(ex r).andThen fun e r=>xpt pSemi r fun r => .ok (.mk 1 0 (hd ts).text [e]) r
 else if (hd ts).kind ≠ 1 then synE ts
 else if (hd ts).text=wIf then (ex ts.tail).andThen fun c r=>(bl r).andThen fun b r=>if qS wElse r=true then (bl r.tail).andThen fun o r => .ok (.mk 2 0 eB [c,b,o]) r else .ok (.mk 2 0 eB [c,b,zD []]) r
 else if (hd ts).text=wWhile then (ex ts.tail).andThen fun c r=>(bl r).andThen fun b r => .ok (.mk 3 0 eB [c,b]) r
 else if (hd ts).text=wSend then (ex ts.tail).andThen fun t r=>xpt pComma r fun r=>bL 30 r fun n r=>xpt pComma r fun r=>(ex r).andThen fun a r=>xpt pComma r fun r=>(ex r).andThen fun b r=>xpt pSemi r fun r => .ok (.mk 4 n eB [t,a,b]) r
 else if (hd ts).text=wTimer then bL 8 ts.tail fun n r=>xpt pSemi r fun r => .ok (.mk 5 n eB []) r
 else if (hd ts).text=wCancel then bL 8 ts.tail fun n r=>xpt pSemi r fun r => .ok (.mk 6 n eB []) r
 else if (hd ts).text=xY then xpt pSemi ts.tail fun r => .ok (.mk 7 0 eB []) r
 else if (hd ts).text=wReply then (ex ts.tail).andThen fun a r=>xpt pComma r fun r=>(ex r).andThen fun b r=>xpt pSemi r fun r => .ok (.mk 8 0 eB [a,b]) r
 else if (hd ts).text=wFail then (ex ts.tail).andThen fun a r=>xpt pSemi r fun r => .ok (.mk 9 0 eB [a]) r
 else if (hd ts).text=xX then xpt pSemi ts.tail fun r => .ok (.mk 10 0 eB []) r
 else synE ts
def f9 (st:List Tk->Pn):Nat->List Nt->List Tk->Pn
 | 0,_,ts=>synE ts
 | n+1,acc,ts=>if qS pRb ts=true then .ok (zD acc) ts.tail else (st ts).andThen fun s r=>f9 st n (acc++[s]) r
def bkF (st:List Tk->Pn) (ts:List Tk):Pn:=xpt pLb ts fun r=>f9 st r.length [] r
def bkN (ts:List Tk):Pn:=if qS pLb ts=true then .bad (hd ts).pos 2 else synE ts
def jiL:Option Pa->List Tk->Pn
 | none=>bkN
 | some p=>p.bl
def paG (low:Option Pa):Pa:=⟨lK low,x6 low,mR low,bkF (eU (mR low) (jiL low))⟩
def pa:Nat->Pa
 | 0=>paG none
 | d+1=>paG (some (pa d))
structure Ut where
 du:List ByteArray
 vo:List ByteArray
 on:List (Int × Nt)
inductive PU where
 | ok (u:Ut)
 | bad (p e:Int)
inductive Pd where
 | ok (names out:List ByteArray) (r:List Tk)
 | bad (p e:Int)
def aJ:Nat->List ByteArray->List ByteArray->List Tk->Pd
 | 0,_,_,ts => .bad (hd ts).pos 10
 | n+1,names,out,ts =>
  if yU ts.tail=false then .bad (hd ts.tail).pos 10
  else if names.any (fun s=>decide (s=(hd ts.tail).text))=true then .bad (hd ts.tail).pos 4
  else if names.length=16 then .bad (hd ts.tail).pos 2
  else if qS pComma ts.tail.tail=true then aJ n (names++[(hd ts.tail).text]) (out++[(hd ts.tail).text]) ts.tail.tail
  else if qS pSemi ts.tail.tail=true then .ok (names++[(hd ts.tail).text]) (out++[(hd ts.tail).text]) ts.tail.tail.tail
  else .bad (hd ts.tail.tail).pos 10
def uN (h:Int × Nt):List (Int × Nt)->List (Int × Nt)
 | []=>[h]
 | x :: l=>if h.1<=x.1 then h :: x :: l else x :: uN h l
def xT (l:List (Int × Nt)):List (Int × Nt):=l.foldr uN []
inductive Ph where
 | ok (n:Int) (r:List Tk)
 | bad (p e:Int)
def oH (limit off:Int) (ts:List Tk):Ph:=if (hd ts).kind ≠ 2 then .bad (hd ts).pos 10 else if limit<=(hd ts).n then .bad (hd ts).pos 6 else .ok (off+(hd ts).n) ts.tail
def hnF (ts:List Tk):Ph :=
 if qS wStart ts=true then .ok 0 ts.tail
 else if qS wRequest ts=true then .ok 1 ts.tail
 else if qS wTimer ts=true then oH 8 2 ts.tail
 else if qS wMessage ts=true then oH 30 10 ts.tail
 else .bad (hd ts).pos 10
def pA (du vo:List ByteArray):Nat->List (Int × Nt)->List Tk->PU
 | 0,_,ts => .bad (hd ts).pos 10
 | n+1,hs,ts=>if (hd ts).kind=0 then .ok ⟨du,vo,xT hs⟩
  else if qS wOn ts=false then .bad (hd ts).pos 10
  else match hnF ts.tail with
   | .bad x e => .bad x e
   | .ok k r=>if hs.any (fun h=>decide (h.1=k))=true then .bad (hd ts.tail).pos 4
    else match (pa 19).bl r with
     | .bad x e => .bad x e
     | .ok b r=>pA du vo n (hs++[(k,b)]) r
def lB:Nat->List ByteArray->List ByteArray->List ByteArray->List Tk->PU
 | 0,_,_,_,ts => .bad (hd ts).pos 10
 | n+1,names,du,vo,ts =>
  if qS wDurable ts=true then match aJ ts.length names [] ts with
   | .bad x e => .bad x e
   | .ok names' out r=>lB n names' (du++out) vo r
  else if qS wVolatile ts=true then match aJ ts.length names [] ts with
   | .bad x e => .bad x e
   | .ok names' out r=>lB n names' du (vo++out) r
  else pA du vo (ts.length+1) [] ts
def jeY (ts:List Tk):PU:=lB (ts.length+1) [] [] [] ts
def rW (s:ByteArray):PU:=if 3000<s.size then .bad 3000 2 else match (qW s).err with
 | some (p,e) => .bad p e
 | none=>jeY (eM s)
def spW:List (List UInt8)->List UInt8
 | []=>[32]
 | w :: l=>32 :: (w++spW l)
theorem jlv (l:List (List UInt8)):∃ z,spW l=32 :: z:=by cases l <;> exact⟨_,rfl⟩
theorem jeX:∀ (t w z:List UInt8),(∀ c ∈ t,c ≠ 32)->(∀ c ∈ w,c ≠ 32)->(t++[32]).isPrefixOf (w++32 :: z)=decide (t=w)
 | [],[],z,_,_=>by simp[List.isPrefixOf]
 | [],c :: w,z,_,h=>by
  have:=h c List.mem_cons_self
  rw[j8 (by simp)];simp only[List.nil_append,List.cons_append,List.isPrefixOf];rw[beq_eq_false_iff_ne.2 (Ne.symm this)];rfl
 | d :: t,[],z,h,_=>by
  have:=h d List.mem_cons_self
  rw[j8 (by simp)];simp only[List.nil_append,List.cons_append,List.isPrefixOf];rw[beq_eq_false_iff_ne.2 this];rfl
 | d :: t,c :: w,z,h,k=>by
  have ih:=jeX t w z (fun x hx=>h x (List.mem_cons_of_mem _ hx)) fun x hx=>k x (List.mem_cons_of_mem _ hx)
  simp only[List.cons_append,List.isPrefixOf];rw[ih]
  by_cases hdc:d=c
  ·subst hdc;rw[beq_self_eq_true,Bool.true_and]
   congr 1
   simp
  ·rw[beq_eq_false_iff_ne.2 hdc,Bool.false_and,j8];intro e;rw[List.cons.injEq] at e;exact hdc e.1
theorem oW (b:UInt8) (l sub:List UInt8) (h:sub.isPrefixOf (b :: l)=false):Lib.contains (b :: l) sub=Lib.contains l sub:=by
 unfold Lib.contains;rw[Lib.index,h];rw[if_neg (by decide)]
 have:=Lib.index_ge l sub
 by_cases hm:Lib.index l sub = -1
 ·rw[if_pos (by rw[hm];rfl),hm]
 ·rw[if_neg (by rw[beq_iff_eq];exact hm),qH (by omega),qH (by omega)]
theorem jbo:∀ (w l u:List UInt8),(∀ c ∈ w,c ≠ 32)->Lib.contains (w++l) (32 :: u)=Lib.contains l (32 :: u)
 | [],l,u,_=>rfl
 | c :: w,l,u,h=>by
  have:=h c List.mem_cons_self
  rw[List.cons_append,oW _ _ _ (by simp only[List.isPrefixOf];rw[beq_eq_false_iff_ne.2 (Ne.symm this)];rfl)]
  exact jbo w l u fun x hx=>h x (List.mem_cons_of_mem _ hx)
theorem lA (t:List UInt8) (ht:∀ c ∈ t,c ≠ 32):∀ (l:List (List UInt8)),(∀ w ∈ l,∀ c ∈ w,c ≠ 32)->Lib.contains (spW l) (32 :: (t++[32]))=decide (t ∈ l)
 | [],_=>by
  rw[j8 (by simp)]
  show Lib.contains [32] _=false
  rw[oW _ _ _ (by cases t with
   | nil=>simp[List.isPrefixOf]
   | cons c t=>simp[List.isPrefixOf])]
  unfold Lib.contains;rw[Lib.index];rfl
 | w :: l,h=>by
  have ih:=lA t ht l fun x hx=>h x (List.mem_cons_of_mem _ hx)
  obtain⟨z,hz⟩ := jlv l
  have hp:(32 :: (t++[32])).isPrefixOf (32 :: (w++spW l))=decide (t=w):=by
   simp only[List.isPrefixOf];rw[beq_self_eq_true,Bool.true_and,hz];exact jeX t w z ht (h w List.mem_cons_self)
  show Lib.contains (32 :: (w++spW l)) _=_
  by_cases hw:t=w
  ·rw[qH hw] at hp;unfold Lib.contains;rw[Lib.index,hp];simp only[if_true];rw[qH (by omega),qH (by rw[hw];exact List.mem_cons_self)]
  ·rw[j8 hw] at hp;rw[oW _ _ _ hp,jbo w _ _ (h w List.mem_cons_self),ih]
   congr 1
   simp[hw]
def jaF (t:Tk):Prop:=t.text.size<=1000000000/\jar (oX t.text).1.data.toList/\(oX t.text).1.size<=1000000000/\0<=t.n/\t.n<=2147483647/\t.pos<=1000000000
def TkW:List Tk->Prop
 | []=>False
 | t :: r=>jaF t/\((r=[]/\t.kind=0/\t.text.data.toList=[]) ∨ (t.kind ≠ 0/\TkW r))
theorem TkW.pos {ts:List Tk} (h:TkW ts):0<ts.length:=by
 cases ts with
 | nil=>exact h.elim
 | cons t r=>simp
theorem TkW.good {ts:List Tk} (h:TkW ts):jaF (hd ts):=by
 cases ts with
 | nil=>exact h.elim
 | cons t r=>exact h.1
theorem TkW.tail {ts:List Tk} (h:TkW ts) (hk:(hd ts).kind ≠ 0):TkW ts.tail:=by
 cases ts with
 | nil=>exact h.elim
 | cons t r =>
  rcases h.2 with ⟨_,h2,_⟩ | ⟨_,h2⟩
  ·exact absurd h2 hk
  ·exact h2
end Go.Proofs.YtgifglkkmhapiaaGreatDoor.Vm
namespace Go.Proofs.YtgifglkkmhapiaaGreatDoor.Vm
open Go.RowKit
section
def SpecV (P:Program) (f:Nat) (cs args:List A) (post:List A->A->Prop) (pn:List PanicEntry->Prop):Prop :=
 ∀ y:Value,dG y->SpecP P f [cs++[.v y]] args (fun o r => ∃ c,o=[c++[.v y]]/\post c r) pn
theorem e6 {a:A} (ha:∀ t,a ≠ .adr t):∀ c:List A,gJ (c++[a])=gJ c++[a]
 | []=>by cases a <;> first | rfl | exact absurd rfl (ha _)
 | x :: c=>by cases x <;> rfl
theorem repL_snoc {E:Env} {a:A} : ∀ {c:List A} {us:List Value},A.repL (c++[a]) E us ↔ ∃ us1 u,us=us1++[u]/\A.repL c E us1/\a.rep E u
 | [],us=>by
  rw[List.nil_append]
  constructor
  ·intro h;unfold A.repL at h
   obtain⟨u,us',rfl,h1,h2⟩ := h
   unfold A.repL at h2;subst h2;exact⟨[],u,rfl,by unfold A.repL;rfl,h1⟩
  ·rintro⟨us1,u,rfl,h1,h2⟩;unfold A.repL at h1;subst h1;unfold A.repL;exact⟨u,[],rfl,h2,by unfold A.repL;rfl⟩
 | x :: c,us=>by
  rw[List.cons_append]
  constructor
  ·intro h;unfold A.repL at h
   obtain⟨u,us',rfl,h1,h2⟩ := h
   obtain⟨us1,v,rfl,h3,h4⟩ := repL_snoc.1 h2
   exact⟨u :: us1,v,rfl,by unfold A.repL;exact⟨u,us1,rfl,h1,h3⟩,h4⟩
  ·rintro⟨us1,u,rfl,h1,h2⟩;unfold A.repL at h1
   obtain⟨u1,us2,rfl,h3,h4⟩ := h1
   unfold A.repL;exact⟨u1,us2++[u],rfl,h3,repL_snoc.2 ⟨us2,u,rfl,h4,h2⟩⟩
theorem jiZ {nb nr:Nat} {l:List A} (h:kX nb nr l=true):kX nb nr (gJ l)=true:=by
 cases l with
 | nil=>exact h
 | cons a l=>cases a <;> exact h
theorem oT {T b:Nat} {E F:Env} {c:List A} {a a':A} {arr:Array Value} (ha:∀ t,a ≠ .adr t) (ha':∀ t,a' ≠ .adr t) (hc:∀ us,A.repL (gJ c) E us->A.repL (gJ c) F us) (hl:∀ u,a.rep E u->u.oneCell'=true->a'.rep F u) (h:boxC T b (c++[a]) E arr):boxC T b (c++[a']) F arr:=by
 obtain⟨h1,h2⟩ := h
 rw[e6 ha] at h1
 have hone:=A.repC_one h1
 obtain⟨us1,u,he,h3,h4⟩ := repL_snoc.1 (A.repC_L h1)
 refine⟨?_,fun t r e => ?_⟩
 ·rw[e6 ha'];refine A.repC_mk (repL_snoc.2 ⟨us1,u,he,hc _ h3,hl u h4 (hone u (by rw[he];simp))⟩) hone
 ·cases c with
  | nil =>
   rw[List.nil_append,List.cons.injEq] at e;exact absurd e.1 (ha' t)
  | cons x c =>
   rw[List.cons_append,List.cons.injEq] at e;exact h2 t (c++[a]) (by rw[e.1];rfl)
theorem jhn (C:Rd) (β:List Nat) (y:Value):(⟨C,β,[]⟩ : Env).le ⟨C,β,[y]⟩ := ⟨Sub.refl _,fun _ _ h=>h,fun _ _ h=>by simp at h⟩
theorem jmR {w:World} {e k:Nat} {y:Value} {n:Nat} {xs:List Value} (h:owR w e k y n xs):dG y:=by
 rcases h.kind with ⟨_,_,_,rfl⟩ | ⟨_,rfl⟩ | ⟨_,rfl⟩ <;> exact trivial
theorem jgb {T b:Nat} {E:Env} {c:List A} {a:A} {arr:Array Value} (ha:∀ t,a ≠ .adr t) (h:boxC T b (c++[a]) E arr):∃ us1 u,arr.toList=us1++[u]/\a.rep E u:=by
 have h1:=h.1
 rw[e6 ha] at h1
 obtain⟨us1,u,he,h3,h4⟩ := repL_snoc.1 (A.repC_L h1)
 exact⟨us1,u,he,h4⟩
section
variable {P:Program} {f:Nat} {cs args:List A} {post:List A->A->Prop} {pn:List PanicEntry->Prop}
theorem SpecV.rp (h:SpecV P f cs args post pn) (hc:kX 1 0 cs=true) (ha:kX 1 0 args=true) (e k n:Nat) (rc:List A) :
  iV P f [cs++[.own 0]] e k n rc args (fun o n' rc' r => ∃ c,o=[c++[.own 0]]/\n'=n/\rc'=rc/\post c r) pn:=by
 refine⟨(h (.bool true) trivial).1,fun w C β vals y xs h0 h1 h2 h3 h4 h5 h6 h7 h8 h9 => ?_⟩
 obtain⟨b,rfl⟩ : ∃ b,β=[b]:=List.length_eq_one_iff.1 h4.symm
 have hy:=jmR h6
 have drop:∀ l us,kX 1 0 l=true->A.repL l ⟨C,[b],[y]⟩ us->A.repL l ⟨C,[b],[]⟩ us:=fun l us hr hl=>wL l hr hl
 refine ((h y hy).2 w C [b] vals h0 h1 h2 h3 rfl (fun i b' c hb hi => ?_) (drop _ _ ha h9)).mono fun e' w' hh => ?_
 ·obtain⟨T,arr,hh,hbc⟩ := h5 i b' (cs++[.own 0]) hb (by cases i with
   | zero=>rfl
   | succ i=>simp at hi)
  have:c=cs++[.v y]:=by cases i with
   | zero=>simpa using hi.symm
   | succ i=>simp at hi
  subst this;refine⟨T,arr,hh,oT (fun t e=>by cases e) (fun t e=>by cases e) (fun us hu=>drop _ _ (jiZ hc) hu) (fun u hu _ => ?_) hbc⟩;unfold A.rep at hu
  have:y=u:=by simpa using hu
  subst this;exact A.rep_v hy
 ·rcases hh with ⟨outs,r,v,rfl,⟨c,rfl,hpost⟩,kp,k2,k3,k4⟩ | ⟨ch,ns,k1,k2,kp,k4,k5⟩
  ·have le:(⟨qU C w w',[b],[]⟩ : Env).le ⟨qU C w w',[b],[y]⟩ := jhn _ _ _
   have hsub:=bO h1 h3 kp
   refine .inl ⟨[c++[.own 0]],n,rc,r,v,y,xs,qU C w w',rfl,⟨c,rfl,rfl,rfl,hpost⟩,⟨kp.os,kp.tape,kp.output,kp.size,fun q hq hn=>kp.block q hq fun hm=>hn (List.mem_append_left _ hm)⟩,xW h1,hsub,fun ad u hc => ?_,by simp,fun i b' c' hb hi => ?_,h6.same fun q hq => ?_,?_,fun q hq=>⟨fun o sp => ?_,.inr hq⟩,A.rep.mono _ le k4⟩
   ·unfold qU at hc
    split at hc
    ·exact .inl hc
    ·exact .inr (.inl (by omega))
   ·obtain⟨T,arr,hh,hbc⟩ := k3 i b' (c++[.v y]) hb (by cases i with
     | zero=>rfl
     | succ i=>simp at hi)
    have:c'=c++[.own 0]:=by cases i with
     | zero=>simpa using hi.symm
     | succ i=>simp at hi
    subst this;refine⟨T,arr,hh,oT (fun t e=>by cases e) (fun t e=>by cases e) (fun us hu=>A.repL.mono _ le hu) (fun u hu _ => ?_) hbc⟩
    obtain⟨rfl,-⟩ := A.rep_v_iff.1 hu
    unfold A.rep;rfl
   ·exact kp.block q (h6.lt hq) (h8 q hq).1
   ·exact A.repC.mono _ (show (⟨C,[],[]⟩ : Env).le ⟨qU C w w',[],[]⟩ from ⟨xW h1,fun _ _ h=>h,fun _ _ h=>h⟩) h7
   ·unfold qU;rw[if_pos (show (⟨q,o,sp⟩ : Addr).block<w.heap.size from h6.lt hq)];exact (h8 q hq).2 o sp
  ·exact .inr ⟨ch,ns,k1,k2,⟨kp.os,kp.tape,kp.output,kp.size,fun q hq hn=>kp.block q hq fun hm=>hn (List.mem_append_left _ hm)⟩,k4,k5⟩
theorem SpecV.q (h:SpecV P f cs args post pn) (k n:Nat) (l:List A) :
  SpecP P f [cs++[.sl k n l]] args (fun o r => ∃ c,o=[c++[.sl k n l]]/\post c r) pn:=by
 refine⟨(h (.bool true) trivial).1,fun w C β vals h0 h1 h2 h3 h4 h5 h6 => ?_⟩
 obtain⟨b,rfl⟩ : ∃ b,β=[b]:=List.length_eq_one_iff.1 h4.symm
 obtain⟨T0,arr0,hb0,hc0⟩ := h5 0 b _ rfl rfl
 obtain⟨us1,y,hy1,hy2⟩ := jgb (fun t e=>by cases e) hc0
 have hy:dG y:=by
  unfold A.rep at hy2
  obtain⟨_,_,p,b',off,cap,rfl,_⟩ := hy2
  exact trivial
 refine ((h y hy).2 w C [b] vals h0 h1 h2 h3 rfl (fun i b' c hb hi => ?_) h6).mono fun e' w' hh => ?_
 ·have hi0:i=0:=by cases i with
   | zero=>rfl
   | succ i=>simp at hi
  subst hi0
  obtain rfl:b=b':=by simpa using hb
  obtain rfl:cs++[.v y]=c:=by simpa using hi
  have hc0':boxC T0 b (cs++[.sl k n l]) ⟨C,[b],[]⟩ arr0:=hc0
  refine⟨T0,arr0,hb0,?_⟩
  obtain⟨g1,g2⟩ := hc0'
  rw[e6 (fun t e=>by cases e)] at g1
  have hone:=A.repC_one g1
  obtain⟨us2,u2,he2,g3,g4⟩ := repL_snoc.1 (A.repC_L g1)
  have hu2:u2=y:=by
   rw[hy1] at he2
   have:=List.append_inj_right' he2 rfl
   simpa using this.symm
  subst hu2;refine⟨?_,fun t r e => ?_⟩
  ·rw[e6 (fun t e=>by cases e)];exact A.repC_mk (repL_snoc.2 ⟨us2,u2,he2,g3,A.rep_v hy⟩) hone
  ·cases cs with
   | nil =>
    rw[List.nil_append,List.cons.injEq] at e
    cases e.1
   | cons x c =>
    rw[List.cons_append,List.cons.injEq] at e;exact g2 t (c++[.sl k n l]) (by rw[e.1];rfl)
 ·rcases hh with ⟨outs,r,v,rfl,⟨c,rfl,hpost⟩,kp,k2,k3,k4⟩ | hbad
  ·have le:(⟨C,[b],[]⟩ : Env).le ⟨qU C w w',[b],[]⟩ := ⟨xW h1,fun _ _ h=>h,fun _ _ h=>h⟩
   refine .inl ⟨[c++[.sl k n l]],r,v,rfl,⟨c,rfl,hpost⟩,kp,by simp,fun i b' c' hb hi => ?_,k4⟩
   obtain⟨T,arr,hh,hbc⟩ := k3 i b' (c++[.v y]) hb (by cases i with
    | zero=>rfl
    | succ i=>simp at hi)
   have:c'=c++[.sl k n l]:=by cases i with
    | zero=>simpa using hi.symm
    | succ i=>simp at hi
   subst this;refine⟨T,arr,hh,oT (fun t e=>by cases e) (fun t e=>by cases e) (fun us hu=>hu) (fun u hu _ => ?_) hbc⟩
   obtain⟨rfl,-⟩ := A.rep_v_iff.1 hu
   exact A.rep.mono _ le hy2
  ·exact .inr hbad
end
end
end Go.Proofs.YtgifglkkmhapiaaGreatDoor.Vm
namespace Go.Proofs.YtgifglkkmhapiaaGreatDoor.Vm
open Go.RowKit Go.Shelf
def pI:Go.Shelf.Ren:=⟨fun | 143=>104 | 144=>86 | 217=>139 | 219=>130 | 224=>141 | 225=>140 | 266=>147 | 267=>142 | 314=>148 | n=>n,fun | 46=>148 | 51=>151 | 146=>193 | n=>n,fun | 1=>0 | n=>n⟩
theorem jcZ:Lays.n144 Tryz.prog pI where
 mixed:=by kernel_rfl
 f143:=Tryz.func104.trans (congrArg some (by kernel_rfl))
 f144:=Tryz.func86.trans (congrArg some (by kernel_rfl))
 f217:=Tryz.func139.trans (congrArg some (by kernel_rfl))
 f219:=Tryz.func130.trans (congrArg some (by kernel_rfl))
 f224:=Tryz.func141.trans (congrArg some (by kernel_rfl))
 f225:=Tryz.func140.trans (congrArg some (by kernel_rfl))
 f266:=Tryz.func147.trans (congrArg some (by kernel_rfl))
 f267:=Tryz.func142.trans (congrArg some (by kernel_rfl))
 f314:=Tryz.func148.trans (congrArg some (by kernel_rfl))
 t3:=Tryz.underlying3
 a3:=Tryz.isAgg3
 z3:=Tryz.sizeOf3
 v3:=Tryz.zeroValue3
 t4:=Tryz.underlying4
 a4:=Tryz.isAgg4
 z4:=Tryz.sizeOf4
 v4:=Tryz.zeroValue4
 t5:=Tryz.underlying5
 a5:=Tryz.isAgg5
 z5:=Tryz.sizeOf5
 v5:=Tryz.zeroValue5
 t9:=Tryz.underlying9
 a9:=Tryz.isAgg9
 z9:=Tryz.sizeOf9
 v9:=Tryz.zeroValue9
 t46:=Tryz.underlying148
 a46:=Tryz.isAgg148
 z46:=Tryz.sizeOf148
 v46:=Tryz.zeroValue148
 t51:=Tryz.underlying151
 a51:=Tryz.isAgg151
 z51:=Tryz.sizeOf151
 v51:=Tryz.zeroValue151
 t146:=Tryz.underlying193
 a146:=Tryz.isAgg193
 z146:=Tryz.sizeOf193
 v146:=Tryz.zeroValue193
 g1:=by kernel_rfl

theorem jan (s sub:ByteArray) (hs:s.size<=1000000000):Spec Tryz.prog 86 [] [j0 s,j0 sub] fun _ r=>r=wP (Lib.contains s.data.toList sub.data.toList):=by
 refine nT (vN Tryz.func86 rfl (by kernel_rfl)) fun w C vals h0 h1 h2 => ?_
 obtain rfl:=fS (l:=[.string s,.string sub]) h2
 have hg:=h0.at (g:=0) (cs:=[.num]) rfl
 simp only[A.repAt,A.rep] at hg
 obtain⟨⟨u,k1,k2,m,rfl⟩,-⟩ := hg
 refine (Any.strings_Contains jcZ s sub m w (by omega) (h1 _ _ k1)).mono ?_;rintro e w' ⟨rfl,rfl⟩;exact⟨_,rfl,Ext.refl _,A.rep_v trivial⟩
def x8 (l:List ByteArray):List A:=l.map j0
def dE (nm:List ByteArray) (ts:List Tk):List A:=[.sl 4 ts.length (yH ts),.sl 1 nm.length (x8 nm)]
def qK (p e:Int):List PanicEntry:=[⟨.iface 66 (.agg #[.int .i64 p,.int .i64 e]),false,false⟩]
def bxN (ts:List Tk):List A:=[.sl 4 ts.length (yH ts)]
theorem eH (ts:List Tk) (h:0<ts.length) (e:Int):SpecV Tryz.prog 68 (bxN ts) [.box 0 0,jJ e] (fun _ _=>False) fun ch=>ch=qK (hd ts).pos e:=fun y hy=>by
 have hr:=gF h
 refine xV (wB jH jY 1 (fun ch _=>(fun ch=>ch=qK (hd ts).pos e) ch)) (fun _ _ h=>h) Tryz.func68 rfl (by kernel_rfl) rfl (by kernel_rfl) ?_;intro _;generalize hd ts=t at *;conv=>whnf
 (refine uI ?_;try with_reducible exact trivial)
 (generalize hrq:jM _ _ (yH ts)=rq;obtain rfl:rq=pY t:=hrq.symm.trans (hr);clear hrq;conv=>whnf)
 (refine uI ?_;try with_reducible exact trivial)
 rfl
theorem vG (nm:List ByteArray) (ts:List Tk) (h:0<ts.length) (e:Int):SpecP Tryz.prog 68 [dE nm ts] [.box 0 0,jJ e] (fun _ _=>False) fun ch=>ch=qK (hd ts).pos e :=
 ((eH ts h e).q 1 nm.length (x8 nm)).mono (fun _ _ ⟨_,_,k⟩=>k) fun _ k=>k
theorem pQ (ts:List Tk) (h:0<ts.length):SpecV Tryz.prog 66 (bxN ts) [.box 0 0] (fun c r=>c=bxN ts.tail/\r = .agg (pY (hd ts))) fun _=>False:=fun y hy=>by
 have hr:=gF h
 have htl:=jlR h
 have hln:ts.tail.length=ts.length-1:=by simp
 refine xV (wB jH jY 1 (fun ch _=>(fun _=>False) ch)) (fun _ _ h=>h) Tryz.func66 rfl (by kernel_rfl) rfl (by kernel_rfl) ?_;intro _;generalize hd ts=t at *;conv=>whnf
 (refine uI ?_;try with_reducible exact trivial)
 (generalize hrq:jM _ _ (yH ts)=rq;obtain rfl:rq=pY t:=hrq.symm.trans (hr);clear hrq;conv=>whnf)
 (refine uI ?_;try with_reducible exact trivial)
 refine⟨bxN ts.tail,?_,rfl,rfl⟩;unfold bxN;rw[show ((ts.length:Int).toNat-Int.toNat 1)=ts.length-1 by omega,show Int.toNat 1*4=4 from rfl,htl,hln];rfl
theorem wD (nm:List ByteArray) (ts:List Tk) (h:0<ts.length):Spec Tryz.prog 66 [dE nm ts] [.box 0 0] fun o r=>o=[dE nm ts.tail]/\r = .agg (pY (hd ts)) :=
 (((pQ ts h).q 1 nm.length (x8 nm)).mono (fun _ _ ⟨_,k1,k2,k3⟩=>⟨by rw[k1,k2];rfl,k3⟩) fun _ k=>k).toS
theorem jn4 (ts:List Tk) (h:0<ts.length) (s:ByteArray):SpecV Tryz.prog 40 (bxN ts) [.box 0 0,j0 s] (fun c r=>c=bxN ts/\r=wP (qS s ts)) fun _=>False:=fun y hy=>by
 have hr:=gF h
 unfold qS;refine xV (wB jH jY 1 (fun ch _=>(fun _=>False) ch)) (fun _ _ h=>h) Tryz.func40 rfl (by kernel_rfl) rfl (by kernel_rfl) ?_;intro _;generalize hd ts=t at *;conv=>whnf
 (refine uI ?_;try with_reducible exact trivial)
 (generalize hrq:jM _ _ (yH ts)=rq;obtain rfl:rq=pY t:=hrq.symm.trans (hr);clear hrq;conv=>whnf)
 by_cases h1:t.text=s
 ·rw[qH h1];conv=>whnf
  by_cases h2:t.kind=1
  ·rw[qH h2];conv=>whnf
   exact⟨_,rfl,rfl,rfl⟩
  ·rw[j8 h2];conv=>whnf
   exact⟨_,rfl,rfl,rfl⟩
 ·rw[j8 h1];conv=>whnf
  exact⟨_,rfl,rfl,rfl⟩
theorem v7 (nm:List ByteArray) (ts:List Tk) (h:0<ts.length) (s:ByteArray):Spec Tryz.prog 40 [dE nm ts] [.box 0 0,j0 s] fun o r=>o=[dE nm ts]/\r=wP (qS s ts) :=
 (((jn4 ts h s).q 1 nm.length (x8 nm)).mono (fun _ _ ⟨_,k1,k2,k3⟩=>⟨by rw[k1,k2];rfl,k3⟩) fun _ k=>k).toS
theorem jmU {a b:ByteArray} (h:a.data.toList=b.data.toList):a=b:=ByteArray.ext (Array.toList_inj.1 h)
def jn7:List (List UInt8):=keyL.map (·.data.toList)++[] :: builtL.map (·.data.toList)
theorem tC (l:List ByteArray) (t:ByteArray):(l.any fun s=>decide (t=s))=decide (t.data.toList ∈ l.map (·.data.toList)):=by
 induction l with
 | nil=>simp
 | cons s l ih =>
  rw[List.any_cons,ih,List.map_cons]
  by_cases h:t=s
  ·subst h;rw[qH rfl,qH List.mem_cons_self];rfl
  ·rw[j8 h,Bool.false_or]
   congr 1
   rw[List.mem_cons,eq_iff_iff]
   constructor
   ·exact .inr
   ·rintro (e | e)
    ·exact absurd (jmU e) h
    ·exact e
def wOk (t:Tk):Prop:=t.kind=1->t.text.data.toList ≠ [] /\ ∀ c ∈ t.text.data.toList,c ≠ 32
theorem jpN:∀ w ∈ jn7,∀ c ∈ w,c ≠ 32:=by decide +kernel
theorem joI:∀ w ∈ builtL.map (·.data.toList),∀ c ∈ w,c ≠ 32:=by decide +kernel
theorem tE (t:ByteArray):((⟨#[32]⟩ : ByteArray)++t ++ ⟨#[32]⟩).data.toList=32 :: (t.data.toList++[32]):=by simp
theorem jn8 (t:ByteArray) (h:t.data.toList ≠ []):decide (t.data.toList ∈ jn7)=(keyL++builtL).any fun s=>decide (t=s):=by
 rw[List.any_append,tC,tC,<- Bool.decide_or];unfold jn7
 congr 1
 rw[List.mem_append,List.mem_cons,eq_iff_iff]
 constructor
 ·rintro (e | e | e)
  ·exact .inl e
  ·exact absurd e h
  ·exact .inr e
 ·rintro (e | e)
  ·exact .inl e
  ·exact .inr (.inr e)
theorem jgE (ts:List Tk) (h:0<ts.length) (hw:wOk (hd ts)) (hz:(hd ts).text.size<=1000000000):SpecV Tryz.prog 67 (bxN ts) [.box 0 0] (fun c r=>c=bxN ts/\r=wP (yU ts)) fun _=>False:=fun y hy=>by
 have hr:=gF h
 unfold yU;refine xV (wB jH jY 1 (fun ch _=>(fun _=>False) ch)) (fun _ _ h=>h) Tryz.func67 rfl (by kernel_rfl) rfl (by kernel_rfl) ?_;intro _;unfold wOk at hw;generalize hd ts=t at *;conv=>whnf
 (refine uI ?_;try with_reducible exact trivial)
 (generalize hrq:jM _ _ (yH ts)=rq;obtain rfl:rq=pY t:=hrq.symm.trans (hr);clear hrq;conv=>whnf)
 by_cases h1:t.kind=1
 ·obtain⟨w1,w2⟩ := hw h1
  have hc:∀ K:ByteArray,K.size<=1000000000->K.data.toList=spW jn7->Spec Tryz.prog 86 [] [j0 K,j0 ((⟨#[32]⟩ : ByteArray)++t.text ++ ⟨#[32]⟩)] fun _ r=>r=wP ((keyL++builtL).any fun s=>decide (t.text=s)):=fun K hK hK2=>by
   have:=jan K ((⟨#[32]⟩ : ByteArray)++t.text ++ ⟨#[32]⟩) hK
   rw[tE,hK2,lA _ w2 _ jpN,jn8 _ w1] at this;exact this
  have hs1:(⟨#[32]⟩ : ByteArray).size=1:=rfl
  rw[qH h1];conv=>whnf
  refine⟨by rw[hs1];unfold maxLen;omega,?_⟩;conv=>whnf
  refine⟨by rw[ByteArray.size_append,hs1];unfold maxLen;omega,?_⟩;conv=>whnf
  (refine jdT [] rfl (fun _=>hc _ (by decide +kernel) (by decide +kernel)) ?_;rintro r rfl;conv=>whnf)
  exact⟨_,rfl,rfl,rfl⟩
 ·rw[j8 h1];conv=>whnf
  exact⟨_,rfl,rfl,rfl⟩
theorem cK (nm:List ByteArray) (ts:List Tk) (h:0<ts.length) (hw:wOk (hd ts)) (hz:(hd ts).text.size<=1000000000):Spec Tryz.prog 67 [dE nm ts] [.box 0 0] fun o r=>o=[dE nm ts]/\r=wP (yU ts) :=
 (((jgE ts h hw hz).q 1 nm.length (x8 nm)).mono (fun _ _ ⟨_,k1,k2,k3⟩=>⟨by rw[k1,k2];rfl,k3⟩) fun _ k=>k).toS
theorem jeZ (ts:List Tk) (h:0<ts.length) (s:ByteArray):SpecV Tryz.prog 42 (bxN ts) [.box 0 0,j0 s] (fun c r=>qS s ts=true/\c=bxN ts.tail/\r = .tup []) fun ch=>qS s ts=false/\ch=qK (hd ts).pos 10:=fun y hy=>by
 refine xV (wB jH jY 1 (fun ch _=>(fun ch=>qS s ts=false/\ch=qK (hd ts).pos 10) ch)) (fun _ _ h=>h) Tryz.func42 rfl (by kernel_rfl) rfl (by kernel_rfl) ?_;intro _;conv=>whnf
 refine kK 0 [] (jn4 ts h s y hy) (fun ch bx' hp=>hp.elim) ?_;rintro o r ⟨c,ho,rfl,rfl⟩;cases ho;conv=>whnf
 cases hq:qS s ts with
 | true =>
  conv=>whnf
  refine kK 0 [] (pQ ts h y hy) (fun ch bx' hp=>hp.elim) ?_;rintro o r ⟨c,ho,rfl,rfl⟩;cases ho;conv=>whnf
  exact⟨_,rfl,rfl,rfl,rfl⟩
 | false =>
  conv=>whnf
  refine kK 0 [] (eH ts h 10 y hy) (fun ch bx' hp=>⟨rfl,hp⟩) ?_;rintro o r ⟨_,_,⟨⟩⟩
theorem jR (nm:List ByteArray) (ts:List Tk) (h:0<ts.length) (s:ByteArray):SpecP Tryz.prog 42 [dE nm ts] [.box 0 0,j0 s] (fun o r=>qS s ts=true/\o=[dE nm ts.tail]/\r = .tup []) fun ch=>qS s ts=false/\ch=qK (hd ts).pos 10 :=
 ((jeZ ts h s).q 1 nm.length (x8 nm)).mono (fun _ _ ⟨_,k1,k2,k3,k4⟩=>⟨k2,by rw[k1,k3];rfl,k4⟩) fun _ k=>k
theorem cL (nm:List ByteArray) (ts:List Tk) (h:0<ts.length) (s:ByteArray) (lv:Int):SpecP Tryz.prog 70 [dE nm ts] [.box 0 0,j0 s,jJ lv] (fun o r=>(qS s ts=true/\lv<=20)/\o=[dE nm ts.tail]/\r = .tup [])
  fun ch=>(qS s ts=true/\20<lv/\ch=qK (hd ts).pos 2) ∨ (qS s ts=false/\ch=qK (hd ts).pos 10):=by
 refine xV (wB jH jY 1 (fun ch _=>(fun ch=>(qS s ts=true/\20<lv/\ch=qK (hd ts).pos 2) ∨ (qS s ts=false/\ch=qK (hd ts).pos 10)) ch)) (fun _ _ h=>h) Tryz.func70 rfl (by kernel_rfl) rfl (by kernel_rfl) ?_;intro _;conv=>whnf
 refine qT 0 [] (v7 nm ts h s) ?_;rintro o r ⟨ho,rfl⟩;cases ho;conv=>whnf
 cases hq:qS s ts with
 | true =>
  conv=>whnf
  by_cases h1:20<lv
  ·rw[qH h1];conv=>whnf
   refine kK 0 [] (vG nm ts h 2) (fun ch bx' hp => .inl ⟨rfl,h1,hp⟩) ?_;rintro o r ⟨⟩
  ·rw[j8 h1];conv=>whnf
   refine kK 0 [] (jR nm ts h s) (fun ch bx' hp => .inr (by rw[hq] at hp;exact hp)) ?_;rintro o r ⟨_,ho,rfl⟩;cases ho;conv=>whnf
   exact⟨⟨rfl,by omega⟩,rfl,rfl⟩
 | false =>
  conv=>whnf
  refine kK 0 [] (jR nm ts h s) (fun ch bx' hp => .inr (by rw[hq] at hp;exact hp)) ?_;rintro o r ⟨hx,ho,rfl⟩;rw[hq] at hx;cases hx
section
end
structure Pr where
 un:List Tk->Ps
 ch:List Tk->Ps
 fo:List Tk->Ps
inductive Lr where
 | ok (l:List Fm) (r:List Tk)
 | bad (p e:Int)
def TkB (ts:List Tk):Prop:=TkW ts/\ts.length<=1000000
theorem TkB.tail {ts:List Tk} (h:TkB ts) (hk:(hd ts).kind ≠ 0):TkB ts.tail/\ts.tail.length+1=ts.length:=by
 have h1:=h.1.pos
 refine⟨⟨h.1.tail hk,?_⟩,?_⟩
 ·have:=h.2;simp;omega
 ·simp;omega
theorem fQ (nm:List ByteArray) (ts:List Tk) (h:0<ts.length) (lim:Int):SpecP Tryz.prog 69 [dE nm ts] [.box 0 0,jJ lim] (fun o r=>((hd ts).kind=2/\(hd ts).n<lim)/\o=[dE nm ts.tail]/\r=jJ (hd ts).n)
  fun ch=>((hd ts).kind ≠ 2/\ch=qK (hd ts).pos 10) ∨ ((hd ts).kind=2/\lim<=(hd ts).n/\ch=qK (hd ts).pos 6):=by
 have hr:=gF h
 have hf:=fun e=>vG nm ts h e
 have hn:=wD nm ts h
 refine xV (wB jH jY 1 (fun ch _=>(fun ch=>((hd ts).kind ≠ 2/\ch=qK (hd ts).pos 10) ∨ ((hd ts).kind=2/\lim<=(hd ts).n/\ch=qK (hd ts).pos 6)) ch)) (fun _ _ h=>h) Tryz.func69 rfl (by kernel_rfl) rfl (by kernel_rfl) ?_;intro _;generalize hd ts=t at *;conv=>whnf
 (refine uI ?_;try with_reducible exact trivial)
 (generalize hrq:jM _ _ (yH ts)=rq;obtain rfl:rq=pY t:=hrq.symm.trans (hr);clear hrq;conv=>whnf)
 by_cases h1:t.kind=2
 ·rw[qH h1];conv=>whnf
  by_cases h2:lim<=t.n
  ·rw[qH h2];conv=>whnf
   refine kK 0 [] (hf 6) (fun ch bx' hp => .inr ⟨h1,h2,hp⟩) ?_;rintro o r ⟨⟩
  ·rw[j8 h2];conv=>whnf
   refine qT 0 [] hn ?_;rintro o r ⟨ho,rfl⟩;cases ho;conv=>whnf
   exact⟨⟨h1,by omega⟩,rfl,rfl⟩
 ·rw[j8 h1];conv=>whnf
  refine kK 0 [] (hf 10) (fun ch bx' hp => .inl ⟨h1,hp⟩) ?_;rintro o r ⟨⟩
def iG (ts:List Tk):List ByteArray->Int->Int
 | [],_ => -1
 | s :: l,i=>if qS s ts=true then i else iG ts l (i+1)
theorem jbA (ts:List Tk):∀ (l:List ByteArray) (i:Int),0<=i->(0<=iG ts l i ↔ vV l ts=true)
 | [],i,_=>by simp[iG,vV]
 | s :: l,i,h=>by
  have ih:=jbA ts l (i+1) (by omega)
  unfold iG vV;rw[List.any_cons]
  by_cases hs:qS s ts=true
  ·rw[if_pos hs,hs];simp[h]
  ·rw[if_neg hs,Bool.not_eq_true] at *;rw[hs,Bool.false_or];exact ih
theorem jiY (nm:List ByteArray) (ts:List Tk) (h:0<ts.length) (l:List ByteArray) (hl:l.length<=1000):Spec Tryz.prog 143 [dE nm ts] [.sl 1 l.length (aH l),.bm 40 [.box 0 0]] fun o r=>o=[dE nm ts]/\r=jJ (iG ts l 0):=by
 refine eN jH jY 1 Tryz.func143 rfl ?_;intro _;conv=>whnf
 refine jT [0,1,7] ?_;conv=>whnf
 refine zF (fun k:Nat=>[(8,.v (.int .i64 k))]) (fun _=>[dE nm ts]) (fun _=>[]) (fun k=>k<=l.length/\iG ts (l.drop k) k=iG ts l 0) (fun k=>l.length-k) 0 ?_ ⟨Nat.zero_le _,rfl⟩ ?_
 ·repeat' constructor
 ·rintro k ⟨hk,hinv⟩;conv=>whnf
  by_cases hlt:k<l.length
  ·have hr:=jai l k hlt
   rw[List.drop_eq_getElem_cons hlt] at hinv;generalize l[k]=s at *
   (refine uI ?_;try with_reducible exact trivial)
   (generalize hrq:jM _ _ (aH l)=rq;obtain rfl:rq=[j0 s]:=hrq.symm.trans (hr);clear hrq;conv=>whnf)
   refine qT 0 [] (v7 nm ts h s) ?_;rintro o r ⟨ho,rfl⟩;cases ho;conv=>whnf
   cases hq:qS s ts with
   | true =>
    (refine uI ?_;try with_reducible exact trivial)
    rw[iG,if_pos hq] at hinv;rw[<- hinv];exact⟨rfl,rfl⟩
   | false =>
    (refine uI ?_;try with_reducible exact trivial)
    rw[iG,if_neg (by rw[hq];simp)] at hinv;refine⟨jS (by omega),?_⟩;conv=>whnf
    refine⟨k+1,fI ?_,⟨hlt,by push_cast;exact hinv⟩,by omega⟩
    repeat' constructor
  ·(refine uI ?_;try with_reducible exact trivial)
   rw[List.drop_of_length_le (by omega)] at hinv;rw[<- hinv];exact⟨rfl,rfl⟩
theorem jad (nm:List ByteArray) (ts:List Tk) (h:0<ts.length) (l:List ByteArray) (hl:l.length<=1000):Spec Tryz.prog 131 [dE nm ts] [.sl 1 l.length (aH l),.bm 40 [.box 0 0]] fun o r=>o=[dE nm ts]/\r=wP (vV l ts):=by
 have hi:=jbA ts l 0 (by omega)
 refine eN jH jY 1 Tryz.func131 rfl ?_;intro _;conv=>whnf
 refine qT 0 [] (jiY nm ts h l hl) ?_;rintro o r ⟨ho,rfl⟩;cases ho;generalize iG ts l 0=i at *;conv=>whnf
 refine⟨rfl,?_⟩
 cases hq:vV l ts with
 | true=>rw[qH (hi.2 hq)];rfl
 | false=>rw[j8 (fun e=>by rw[hi.1 e] at hq;cases hq)];rfl
theorem jmH {X:Type} {np:Nat} {t t0:List A} {bx:List (List A)} {rw:List Row} {g:X->List (Nat × A)} {hb:X->List (List A)} {hr:X->List Row} {x:X} (ids sel:List Nat)
  (h:j7 (jC rw ids) fun rw' => gS (cV rw') t fun t' => jau rw' bx fun bx' => jjp sel t' bx' rw' fun s' => uK t0 g hb hr x fun s2=>LeS np s' s2):Le np ⟨t,bx,rw⟩ (iF t0 g hb hr x):=by
 rw[qY,qI,fX] at h;exact ((jgc (np:=np) (s:=⟨t,bx,rw⟩) ids).trans jgd).trans (jU sel h)
def TkP (ts:List Tk):Prop:=TkB ts /\ ∀ t ∈ ts,wOk t
theorem TkP.pos {ts:List Tk} (h:TkP ts):0<ts.length:=h.1.1.pos
theorem TkP.hd {ts:List Tk} (h:TkP ts):wOk (hd ts):=by
 have:=h.pos
 cases ts with
 | nil=>simp at this
 | cons t r=>exact h.2 t List.mem_cons_self
theorem TkP.good {ts:List Tk} (h:TkP ts):jaF (Vm.hd ts):=h.1.1.good
theorem TkP.tail {ts:List Tk} (h:TkP ts) (hk:(Vm.hd ts).kind ≠ 0):TkP ts.tail/\ts.tail.length+1=ts.length :=
 ⟨⟨(h.1.tail hk).1,fun t ht=>h.2 t (List.mem_of_mem_tail ht)⟩,(h.1.tail hk).2⟩
theorem xP {s:ByteArray} {ts:List Tk} (h:qS s ts=true):(hd ts).kind ≠ 0:=by
 unfold qS at h;simp only[Bool.and_eq_true,Bool.or_eq_true,decide_eq_true_eq] at h
 rcases h.2 with h | h <;> omega
theorem TkP.is {s:ByteArray} {ts:List Tk} (h:TkP ts) (k:qS s ts=true):TkP ts.tail/\ts.tail.length+1=ts.length:=h.tail (xP k)
theorem fA {l:List ByteArray} {ts:List Tk} (h:vV l ts=true):∃ s,qS s ts=true:=by
 unfold vV at h
 obtain⟨s,_,h⟩ := List.any_eq_true.1 h
 exact⟨s,h⟩
def qO (op:List Tk->Pn):Prop := ∀ ts f r,TkP ts->op ts = .ok f r->TkP r/\r.length<=ts.length
def pnQ (p:Pn) (ch:List PanicEntry):Prop:=match p with
 | .bad x e=>ch=qK x e
 | _=>False
def poQ (nm:List ByteArray) (p:Pn) (o:List (List A)) (r:A):Prop:=match p with
 | .ok f ts=>o=[dE nm ts]/\r = .agg (ntA f)
 | _=>False
theorem jZ {nm:List ByteArray} {p:Pn} {o:List (List A)} {r:A} (h:poQ nm p o r):∃ f ts,p = .ok f ts/\o=[dE nm ts]/\r = .agg (ntA f):=by
 unfold poQ at h
 split at h
 ·exact⟨_,_,rfl,h.1,h.2⟩
 ·exact h.elim
theorem zA {p:Pn} {ch:List PanicEntry} (h:pnQ p ch):∃ x e,p = .bad x e/\ch=qK x e:=by
 unfold pnQ at h
 split at h
 ·exact⟨_,_,rfl,h⟩
 ·exact h.elim
theorem jK {p:Pn} {x e:Int} {ch:List PanicEntry} (h:p = .bad x e) (k:ch=qK x e):pnQ p ch:=by subst h;exact k
def ji8:List A:=[jJ 0,jJ 0,j0 ⟨#[]⟩,.v (.slice none 0 0)]
def zN (nm:List ByteArray) (g:Nat) (lv:Int) (op:List Tk->Pn):Prop := ∀ ts,TkP ts->SpecP Tryz.prog g [dE nm ts] [.box 0 0,jJ lv] (poQ nm (op ts)) (pnQ (op ts))
theorem b8 (nm:List ByteArray) (op:List Tk->Pn) (signs:List ByteArray) (lv:Int) (g:Nat) (hsg:signs.length<=1000) (hgo:qO op) (hop:zN nm g lv op) (ts:List Tk) (h:TkP ts) :
  SpecP Tryz.prog 105 [dE nm ts] [.box 0 0,jJ lv,.bm g [.box 0 0],.sl 1 signs.length (aH signs)] (poQ nm (kG op signs ts)) (pnQ (kG op signs ts)):=by
 obtain⟨P,hP⟩ : ∃ P,kG op signs ts=P:=⟨_,rfl⟩
 rw[hP];refine tW jpf (fun _=>[0]) Tryz.func105 rfl ?_;intro _;unfold kG at hP
 have hspec:=hop ts h
 conv=>whnf
 refine kK 0 [] hspec (fun ch bx' hp => ?_) ?_
 ·obtain⟨x,e,he,hc⟩ := zA hp
  rw[he] at hP;exact jK hP.symm hc
 rintro o r hpo
 obtain⟨f,r1,he,ho,rfl⟩ := jZ hpo
 cases ho;rw[he] at hP;simp only[Pn.andThen] at hP
 obtain⟨h1,l1⟩ := hgo _ _ _ h he
 conv=>whnf
 refine jT [0,1,2,3,8,9] ?_;conv=>whnf
 refine zF (fun _:Nat × Nt × List Tk=>[]) (fun x=>[dE nm x.2.2,ji8,ntA x.2.1]) (fun _=>[]) (fun x=>TkP x.2.2/\x.2.2.length<=x.1/\xK op signs x.1 x.2.1 x.2.2=P) (fun x=>x.2.2.length) (r1.length,f,r1) ?_ ⟨h1,Nat.le_refl _,hP⟩ ?_
 ·repeat' constructor
 rintro⟨n,left,ts1⟩ ⟨g1,g2,g5⟩
 simp only at g1 g2 g5
 conv=>whnf
 refine qT 0 [] (jad nm ts1 g1.pos signs hsg) ?_;rintro o r ⟨ho,rfl⟩;cases ho;conv=>whnf
 cases hq:vV signs ts1 with
 | true =>
  obtain⟨s0,hs0⟩ := fA hq
  obtain⟨q1,q2⟩ := g1.is hs0
  obtain⟨m,rfl⟩ : ∃ m,n=m+1:=⟨n-1,by have:=g1.pos;omega⟩
  rw[xK,if_pos hq] at g5
  have hnx:=wD nm ts1 g1.pos
  generalize ts1.tail=ts2 at *;generalize hd ts1=t at *;conv=>whnf
  refine qT 0 [] hnx ?_;rintro o r ⟨ho,rfl⟩;cases ho;conv=>whnf
  refine kK 0 [] (hop ts2 q1) (fun ch bx' hp => ?_) ?_
  ·obtain⟨x,e,he,hc⟩ := zA hp
   rw[he] at g5;exact jK g5.symm hc
  rintro o r hpo
  obtain⟨f2,r2,he2,ho,rfl⟩ := jZ hpo
  cases ho;rw[he2] at g5;simp only[Pn.andThen] at g5
  obtain⟨h2,l2⟩ := hgo _ _ _ q1 he2
  refine⟨(m,.mk 18 0 t.text [left,f2],r2),jmH [0] [] ?_,⟨h2,by simp only;omega,g5⟩,by simp only;omega⟩;conv=>whnf
  repeat' constructor
  show A.sl 4 2 _=A.sl 4 2 (qG [left,f2])
  rw[qQ,qQ,kC];rfl
 | false =>
  have hlg:xK op signs n left ts1 = .ok left ts1:=by
   cases n with
   | zero=>rfl
   | succ m=>rw[xK,if_neg (by rw[hq];simp)]
  rw[hlg] at g5;subst g5;conv=>whnf
  (refine uI ?_;try with_reducible exact trivial)
  exact⟨rfl,rfl⟩
end Go.Proofs.YtgifglkkmhapiaaGreatDoor.Vm
