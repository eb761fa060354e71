/- Part 3 of the proof. -/
import Derived.Test.YtfbifdccmabdbaaGreatDoorZ2
import Derived.Test.YtfbifdccmabdbaaGreatDoorRows
import Derived.LaidLaws
import Derived.LaidMore
import Derived.LaidHandle
import Derived.MakeChecks
import Derived.FnData
import Derived.Lib.LaidTab
import Derived.WideShapes
import Derived.OpenShut
import Derived.Handed
import Derived.Shelf.Vars
import Derived.Lib.Hide
import Derived.Carry
import Derived.Laws.EntriesVeiled
import Derived.Shelf.Pu.ToErrorRange
import Derived.Shelf.Lay
import Derived.Ground.MpProg
import Derived.Shelf.Pu.ToError
import Derived.Shelf.Pu.Lower
import Derived.RangeFuncFrom
import Derived.RangeFuncBound
import Derived.RangeFuncLeaves
import Derived.TacticsIn
import Derived.RangeFuncNested
import Derived.RangeFuncBox
set_option maxRecDepth 100000
set_option linter.unusedSimpArgs false
set_option linter.unusedVariables false
set_option maxHeartbeats 4000000
namespace Go.Proofs.YtfbifdccmabdbaaGreatDoor.Vm
abbrev zI:Value := .int .i64 0
abbrev zL:Value := .slice none 0 0
abbrev zS:Value := .string ⟨#[]⟩
abbrev zB:Value := .bool false
abbrev zU:Value := .int .u8 0
abbrev zP:Value := .pointer none
abbrev eI:Te:=⟨.int .i64,[zI],8⟩
abbrev eS:Te:=⟨.str,[zS],16⟩
abbrev eY:Te:=⟨.iface,[.nilIface],16⟩
abbrev eL (k:Nat):Te:=⟨.slice k,[zL],24⟩
abbrev eP (k:Nat):Te:=⟨.ptr k,[zP],8⟩
def rZ (x:Value):Nat->List Value
 | 0=>[]
 | n+1=>x :: rZ x n
def fnT:List Nat->List (Nat × Te)
 | []=>[]
 | i :: l=>(i,⟨.func,[.nilFunc],8⟩) :: fnT l
set_option maxRecDepth 20000 in
def tab:List (Nat × Te):=(2,eI)::(3,eI)::(4,⟨.bool,[zB],1⟩)::(5,⟨.int .u8,[zU],1⟩)::(6,⟨.int .u8,[zU],1⟩)::(7,⟨.struct [(0,2),(1,3),(2,4),(3,6)],[zI,zI,zB,zU],24⟩)::(8,⟨.struct [(0,2),(1,3),(2,4),(3,6)],[zI,zI,zB,zU],24⟩)::(9,eS)::(10,eS)::(11,eS)::(12,⟨.int .u64,[.int .u64 0],8⟩)::(13,⟨.struct [(0,9),(1,12)],[zS,.int .u64 0],24⟩)::(14,⟨.struct [(0,9),(1,12)],[zS,.int .u64 0],24⟩)::(15,eP 257)::(16,eP 260)::(17,eP 268)::(18,⟨.struct [(0,17)],[zP],8⟩)::(19,⟨.struct [(0,17)],[zP],8⟩)::(20,eY)::(21,⟨.int .i32,[.int .i32 0],4⟩)::(22,eL 3)::(23,eL 9)::(24,eL 67)::(25,⟨.struct [(0,23),(1,23),(2,24)],[zL,zL,zL],72⟩)::(26,⟨.struct [(0,23),(1,23),(2,24)],[zL,zL,zL],72⟩)::(28,eL 52)::(29,⟨.arr 40 3,rZ zI 40,320⟩)::(30,⟨.struct [(0,28),(1,29),(41,3),(42,3)],[zL,zI,zI,zI,zI,zI,zI,zI,zI,zI,zI,zI,zI,zI,zI,zI,zI,zI,zI,zI,zI,zI,zI,zI,zI,zI,zI,zI,zI,zI,zI,zI,zI,zI,zI,zI,zI,zI,zI,zI,zI,zI,zI],360⟩)::(31,⟨.struct [(0,28),(1,29),(41,3),(42,3)],[zL,zI,zI,zI,zI,zI,zI,zI,zI,zI,zI,zI,zI,zI,zI,zI,zI,zI,zI,zI,zI,zI,zI,zI,zI,zI,zI,zI,zI,zI,zI,zI,zI,zI,zI,zI,zI,zI,zI,zI,zI,zI,zI],360⟩)::(32,eI)::(48,eL 31)::(51,⟨.struct [(0,3),(1,3)],[zI,zI],16⟩)::(52,⟨.struct [(0,3),(1,3)],[zI,zI],16⟩)::(59,eL 26)::(60,eP 70)::(63,eL 65)::(64,⟨.struct [(0,3),(1,3),(2,9),(3,63)],[zI,zI,zS,zL],56⟩)::(65,⟨.struct [(0,3),(1,3),(2,9),(3,63)],[zI,zI,zS,zL],56⟩)::(66,⟨.struct [(0,3),(1,65)],[zI,zI,zI,zS,zL],64⟩)::(67,⟨.struct [(0,3),(1,65)],[zI,zI,zI,zS,zL],64⟩)::(68,⟨.arr 16 3,rZ zI 16,128⟩)::(69,⟨.struct [(0,68),(16,22),(17,3),(18,3),(19,4),(20,3)],[zI,zI,zI,zI,zI,zI,zI,zI,zI,zI,zI,zI,zI,zI,zI,zI,zL,zI,zI,zB,zI],184⟩)::(70,⟨.struct [(0,68),(16,22),(17,3),(18,3),(19,4),(20,3)],[zI,zI,zI,zI,zI,zI,zI,zI,zI,zI,zI,zI,zI,zI,zI,zI,zL,zI,zI,zB,zI],184⟩)::(75,eP 78)::(77,⟨.struct [(0,22),(1,3)],[zL,zI],32⟩)::(78,⟨.struct [(0,22),(1,3)],[zL,zI],32⟩)::(81,eP 83)::(82,⟨.struct [(0,26),(3,28)],[zL,zL,zL,zL],96⟩)::(83,⟨.struct [(0,26),(3,28)],[zL,zL,zL,zL],96⟩)::(88,eL 97)::(91,eP 93)::(92,⟨.struct [(0,88),(1,3),(2,3),(3,32),(4,23)],[zL,zI,zI,zI,zL],72⟩)::(93,⟨.struct [(0,88),(1,3),(2,3),(3,32),(4,23)],[zL,zI,zI,zI,zL],72⟩)::(96,⟨.struct [(0,3),(1,3),(2,9),(3,3)],[zI,zI,zS,zI],40⟩)::(97,⟨.struct [(0,3),(1,3),(2,9),(3,3)],[zI,zI,zS,zI],40⟩)::(104,eL 5)::(106,⟨.map 3 109,[.map none],8⟩)::(108,⟨.struct [(0,3),(1,3),(2,3),(3,3)],[zI,zI,zI,zI],32⟩)::(109,⟨.struct [(0,3),(1,3),(2,3),(3,3)],[zI,zI,zI,zI],32⟩)::(122,⟨.map 3 120,[.map none],8⟩)::(123,⟨.map 3 3,[.map none],8⟩)::(138,eL 162)::(141,⟨.struct [(0,3),(1,32)],[zI,zI],16⟩)::(142,⟨.struct [(0,3),(1,32)],[zI,zI],16⟩)::(143,eP 145)::(144,⟨.struct [(0,138),(1,23)],[zL,zL],48⟩)::(145,⟨.struct [(0,138),(1,23)],[zL,zL],48⟩)::(148,eI)::(154,⟨.map 9 3,[.map none],8⟩)::(162,⟨.struct [(0,3),(1,3),(2,9),(3,3)],[zI,zI,zS,zI],40⟩)::(163,⟨.struct [(0,3),(1,32)],[zI,zI],16⟩)::(164,⟨.struct [(0,3),(1,32)],[zI,zI],16⟩)::(165,⟨.map 3 67,[.map none],8⟩)::(171,⟨.struct [(0,148),(1,148)],[zI,zI],16⟩)::(172,⟨.struct [(0,148),(1,148)],[zI,zI],16⟩)::(173,⟨.map 9 172,[.map none],8⟩)::(178,⟨.int .u8,[zU],1⟩)::(179,⟨.arr 256 178,rZ zU 256,256⟩)::(186,⟨.int .u64,[.int .u64 0],8⟩)::(187,eY)::(188,eY)::(196,eL 23)::(200,⟨.map 9 199,[.map none],8⟩)::(205,⟨.int .u64,[.int .u64 0],8⟩)::(206,eI)::(208,eP 226)::(215,eI)::(222,⟨.int .u32,[.int .u32 0],4⟩)::(225,⟨.struct [(0,9),(1,9),(2,188)],[zS,zS,.nilIface],48⟩)::(226,⟨.struct [(0,9),(1,9),(2,188)],[zS,zS,.nilIface],48⟩)::(229,⟨.int .u64,[.int .u64 0],8⟩)::(233,eP 3)::(235,eP 5)::(236,eP 238)::(237,⟨.struct [(0,9)],[zS],16⟩)::(238,⟨.struct [(0,9)],[zS],16⟩)::(242,eP 229)::(248,⟨.arr 24 5,rZ zU 24,24⟩)::(252,⟨.arr 20 186,[.int .u64 0,.int .u64 0,.int .u64 0,.int .u64 0,.int .u64 0,.int .u64 0,.int .u64 0,.int .u64 0,.int .u64 0,.int .u64 0,.int .u64 0,.int .u64 0,.int .u64 0,.int .u64 0,.int .u64 0,.int .u64 0,.int .u64 0,.int .u64 0,.int .u64 0,.int .u64 0],160⟩)::(253,⟨.arr 65 5,rZ zU 65,65⟩)::(254,⟨.arr 32 5,rZ zU 32,32⟩)::(255,⟨.arr 64 5,rZ zU 64,64⟩)::(256,⟨.struct [(0,17),(1,17),(2,17),(3,9)],[zP,zP,zP,zS],40⟩)::(257,⟨.struct [(0,17),(1,17),(2,17),(3,9)],[zP,zP,zP,zS],40⟩)::(258,⟨.arr 0 16,[],0⟩)::(259,⟨.struct [(0,258)],[],0⟩)::(260,⟨.struct [(0,258)],[],0⟩)::(262,⟨.int .u8,[zU],1⟩)::(263,⟨.int .u8,[zU],1⟩)::(265,⟨.int .i32,[.int .i32 0],4⟩)::(266,⟨.int .i32,[.int .i32 0],4⟩)::(267,⟨.struct [(0,12),(1,12),(2,222),(3,262),(4,5),(5,5),(6,263),(7,264),(8,235),(9,265),(10,266)],[.int .u64 0,.int .u64 0,.int .u32 0,zU,zU,zU,zU,.nilFunc,zP,.int .i32 0,.int .i32 0],48⟩)::(268,⟨.struct [(0,12),(1,12),(2,222),(3,262),(4,5),(5,5),(6,263),(7,264),(8,235),(9,265),(10,266)],[.int .u64 0,.int .u64 0,.int .u32 0,zU,zU,zU,zU,.nilFunc,zP,.int .i32 0,.int .i32 0],48⟩)::(269,⟨.other,[zP],8⟩)::fnT [1,27,34,36,37,38,39,40,41,42,43,44,45,46,47,49,50,53,54,55,57,58,61,62,71,72,73,74,76,79,80,84,85,86,87,90,94,95,98,99,100,101,102,103,105,107,111,112,113,114,115,116,117,118,119,120,125,126,127,128,129,131,132,133,134,135,136,137,140,146,147,149,150,151,152,153,155,156,157,158,159,160,161,166,167,168,169,170,174,175,176,177,180,181,182,183,184,185,190,191,192,194,195,197,198,199,201,202,203,204,207,209,210,211,212,213,214,217,218,219,220,221,223,224,227,228,230,231,232,234,239,240,241,244,245,247,249,251,261,264]
theorem jln {P:Program} : ∀ {T:List (Nat × Te)},T.map (fun p=>jlq P p.1)=T.map (fun p=>some p.2)->Tab.ok P T
 | [],_=>Tab.ok_nil P
 | (i,e) :: r,h=>by rw[List.map_cons,List.map_cons,List.cons.injEq] at h;exact Tab.ok_cons h.1 (jln h.2)
theorem ja9:Tab.ok Tryz.prog tab:=jln (by kernel_rfl)
theorem jnb {T:List (Nat × Te)} (h:(T.all fun x=>x.2.z.all fun u=>u.oneCell')=true):lL T:=fun t e he u hu=>by
 induction T with
 | nil=>simp[Tab.get] at he
 | cons x r ih =>
  obtain⟨i,e1⟩ := x
  simp only[List.all_cons,Bool.and_eq_true] at h;unfold Tab.get at he
  split at he
  ·cases he
   exact List.all_eq_true.1 h.1 u hu
  ·exact ih h.2 he
theorem jlo:lL tab:=jnb (by kernel_rfl)
theorem mixed:Tryz.prog.follows .mixedOrders=true:=by kernel_rfl
def qr (m:Nat) (t:Tr):List Nat->Tr
 | []=>t
 | k :: l => .q k m (qr m t l)
def oS (i k:Nat) (x y:Tr):Tr:=match Nat.beq i k with | true=>x | false=>y
def jqO (id:Nat):Tr:=oS id 15 (.q 0 0 (qr 3 (.q 4 0 (.alt 5 2 (qr 3 .nil [6,7,8,9,10]) .nil)) [1,2,3])) <|.nil
def jqf (id:Nat):Tr:=oS id 8 (.q 0 3 (.q 1 0 (qr 3 (.alt 4 1 (.q 5 3 (.alt 6 1 (.alt 7 1 (.q 8 3 (.alt 9 2 .nil .nil)) .nil) .nil)) .nil) [2,3]))) <|.nil
def jqg (id:Nat):Tr:=oS id 11 (.q 0 3 (.q 1 0 (qr 3 (.q 5 0 (qr 3 (.alt 9 2 .nil .nil) [6,7,8])) [2,3,4]))) <|.nil
def jqh (id:Nat):Tr:=oS id 6 (.q 0 3 (.q 1 0 (qr 3 (.q 4 0 (.q 5 3 (.q 6 0 (qr 3 (.q 9 0 (.q 10 3 .nil)) [7,8])))) [2,3]))) <|.nil
def jqi (id:Nat):Tr:=oS id 11 (.q 0 0 (qr 3 (.q 4 0 (.alt 5 2 (.q 6 3 .nil) .nil)) [1,2,3])) <|.nil
def jqj (id:Nat):Tr:=oS id 1 (qr 3 (.q 3 0 (qr 3 (.q 7 0 (.alt 8 2 (.q 9 3 .nil) .nil)) [4,5,6])) [0,1,2]) <|.nil
def jqk (id:Nat):Tr:=oS id 5 (.q 0 3 (.q 1 0 (qr 3 (.alt 4 1 (.alt 5 1 (.alt 6 1 (.q 7 3 (.alt 8 2 .nil .nil)) .nil) .nil) .nil) [2,3]))) <|.nil
def jql (id:Nat):Tr:=oS id 1 (.q 0 3 (.q 1 0 (.q 2 3 (.q 3 0 (qr 3 (.q 7 0 (qr 3 .nil [8,9,10,11])) [4,5,6]))))) <|.nil
def bZ (id:Nat):Tr:=oS id 14 (.q 0 3 (qr 0 (.q 3 3 (.alt 4 1 (.alt 5 1 (.q 6 3 (.alt 7 2 .nil .nil)) .nil) .nil)) [1,2])) <|oS id 23 (.q 0 0 (.q 1 3 (.alt 2 1 (.alt 3 1 (.q 4 3 (.alt 5 2 .nil .nil)) .nil) .nil))) <|oS id 32 (.q 0 0 (qr 3 (.alt 4 1 (.alt 5 1 (.q 6 3 (.alt 7 2 .nil .nil)) .nil) .nil) [1,2,3])) <|.nil
def b8 (id:Nat):Tr:=oS id 4 (.q 0 0 (.q 1 3 (.q 2 0 (.q 3 3 (.q 4 0 (qr 3 (.alt 7 2 .nil .nil) [5,6])))))) <|oS id 6 (.q 0 0 (.q 1 3 (.q 2 0 (.q 3 3 (.q 4 0 (qr 3 (.alt 7 2 .nil .nil) [5,6])))))) <|.nil
def jqm (id:Nat):Tr:=oS id 1 (.q 0 0 (.q 1 3 (.q 2 0 (.q 3 3 (.q 4 0 (qr 3 (.alt 7 2 .nil .nil) [5,6])))))) <|.nil
def jkz (id:Nat):Tr:=oS id 6 (.q 0 3 (.q 1 0 (.q 2 3 (.q 3 0 (.alt 4 1 (.alt 5 1 (.alt 6 2 .nil .nil) .nil) .nil))))) <|.nil
def jkA (id:Nat):Tr:=oS id 7 (qr 3 (.q 2 0 (.q 3 3 (.q 4 0 (.alt 5 1 (.alt 6 1 (.alt 7 2 .nil .nil) .nil) .nil)))) [0,1]) <|.nil
def oN (id:Nat):Tr:=oS id 20 (.q 0 3 (.q 1 0 (qr 3 (.alt 5 1 (.alt 6 1 (.q 7 3 (.alt 8 2 .nil .nil)) .nil) .nil) [2,3,4]))) <|.nil
def jcO (id:Nat):Tr:=oS id 11 (.q 0 3 (.q 1 0 (qr 3 (.alt 5 1 (.alt 6 1 (.q 7 3 (.alt 8 2 .nil .nil)) .nil) .nil) [2,3,4]))) <|oS id 14 (.q 0 3 (.q 1 0 (qr 3 (.alt 5 1 (.alt 6 1 (.q 7 3 (.alt 8 2 .nil .nil)) .nil) .nil) [2,3,4]))) <|.nil
def joJ (id:Nat):Tr:=oS id 0 (.q 0 0 (.q 1 3 (.q 2 0 (.q 3 3 (.q 4 0 (.alt 5 2 .nil .nil)))))) <|.nil
def joK (id:Nat):Tr:=oS id 0 (.q 0 0 (.q 1 3 (.q 2 0 (.q 3 3 (.q 4 0 (.alt 5 2 .nil .nil)))))) <|.nil
def joL (id:Nat):Tr:=oS id 0 (.q 0 0 (.q 1 3 (.q 2 0 (.q 3 3 (.q 4 0 (.alt 5 2 .nil .nil)))))) <|.nil
def joM (id:Nat):Tr:=oS id 0 (qr 3 (.q 3 0 (qr 3 (.q 8 0 (qr 3 (.alt 12 2 .nil .nil) [9,10,11])) [4,5,6,7])) [0,1,2]) <|.nil
def jkB (id:Nat):Tr:=oS id 4 (.q 0 3 (.q 1 0 (qr 3 (.alt 4 1 (.alt 5 1 (.alt 6 1 (.q 7 3 (.alt 8 2 .nil .nil)) .nil) .nil) .nil) [2,3]))) <|.nil
def jkC (id:Nat):Tr:=oS id 15 (.q 0 0 (qr 3 (.alt 2 1 (.q 3 3 (.alt 5 1 (.q 6 3 (.alt 7 2 .nil .nil)) .nil)) .nil) [1,4])) <|oS id 19 (.q 0 0 (qr 3 (.alt 2 1 (.q 3 3 (.alt 5 1 (.q 6 3 (.alt 7 2 .nil .nil)) .nil)) .nil) [1,4])) <|oS id 25 (.q 0 0 (qr 3 (.alt 3 1 (.q 4 3 (.alt 5 2 .nil .nil)) .nil) [1,2])) <|oS id 27 (.q 0 0 (qr 3 (.alt 3 1 (.q 4 3 (.alt 5 2 .nil .nil)) .nil) [1,2])) <|.nil
def joN (id:Nat):Tr:=oS id 1 (.q 0 0 (qr 3 (.q 3 0 (.alt 4 2 (qr 3 .nil [5,6]) .nil)) [1,2])) <|.nil
def jgm (id:Nat):Tr:=oS id 5 (.q 0 3 (.q 1 0 (qr 3 (.alt 4 1 (.alt 5 1 (.q 6 3 (.alt 7 1 (.alt 8 2 .nil .nil) .nil)) (.alt 7 1 (.alt 5 1 (.q 6 3 (.alt 8 2 .nil .nil)) .nil) .nil)) (.alt 7 1 (.alt 4 1 (.alt 5 1 (.q 6 3 (.alt 8 2 .nil .nil)) .nil) .nil) .nil)) [2,3]))) <|oS id 8 (.q 1 3 (.q 2 0 (.alt 0 1 (.alt 3 1 (.q 4 3 .nil) .nil) .nil))) <|.nil
def joO (id:Nat):Tr:=oS id 4 (.q 0 3 (.q 1 0 (qr 3 (.alt 4 1 (.alt 5 1 (.q 6 3 (.alt 7 2 .nil .nil)) .nil) .nil) [2,3]))) <|.nil
def joP (id:Nat):Tr:=oS id 1 (.q 0 0 (.q 1 3 (.alt 2 1 (.q 3 3 (.alt 4 1 (.alt 5 2 .nil .nil) .nil)) (.alt 4 1 (.alt 2 1 (.q 3 3 (.alt 5 2 .nil .nil)) .nil) .nil)))) <|.nil
def joQ (id:Nat):Tr:=oS id 7 (.q 0 3 (.q 1 0 (qr 3 (.alt 4 1 (.alt 5 1 (.alt 6 1 (.q 7 3 (.alt 8 2 .nil .nil)) .nil) .nil) .nil) [2,3]))) <|.nil
def joR (id:Nat):Tr:=oS id 3 (.q 0 0 (qr 3 (.alt 3 1 (.alt 4 1 (.q 5 3 (.alt 6 1 (.alt 7 2 .nil .nil) .nil)) (.alt 6 1 (.alt 4 1 (.q 5 3 (.alt 7 2 .nil .nil)) .nil) .nil)) (.alt 6 1 (.alt 3 1 (.alt 4 1 (.q 5 3 (.alt 7 2 .nil .nil)) .nil) .nil) .nil)) [1,2])) <|.nil
def joS (id:Nat):Tr:=oS id 7 (.q 0 3 (.q 1 0 (qr 3 (.alt 4 1 (.alt 5 1 (.q 6 3 (.alt 7 2 .nil .nil)) .nil) .nil) [2,3]))) <|.nil
def jM (_:Nat):Tr := .nil
def qD (_:Nat):List Nat:=[]
theorem jY (ord:Nat->Tr) (xs:Nat->List Nat) (np:Nat):(⟨Tryz.prog,tab,ord,xs,np,fun _ _=>False⟩ : Cx).ok:=⟨ja9,jlo,mixed⟩
theorem jjM (ord:Nat->Tr) (xs:Nat->List Nat) (np:Nat):(⟨Tryz.prog,tab,ord,xs,np,fun _ _=>False⟩ : Cx).okN:=⟨⟨ja9,jlo,mixed⟩,fun _ _ h=>h⟩
theorem kN (ord:Nat->Tr) (xs:Nat->List Nat) (np:Nat) (pan:List PanicEntry->S->Prop):(⟨Tryz.prog,tab,ord,xs,np,pan⟩ : Cx).ok:=⟨ja9,jlo,mixed⟩
set_option maxRecDepth 100000 in
theorem eN {f:Nat} {fn:Func} {x:Code} {ins:List (List A)} {args:List A} {post:List (List A)->A->Prop} (o:Nat->Tr) (xs:Nat->List Nat) (np:Nat) (hf:Tryz.prog.funcs[f]? = some fn) (hb:fn.body=some x) (h:vN args->yF args (fn.ntmps-args.length) fun t=>rA ⟨Tryz.prog,tab,o,xs,np,fun _ _=>False⟩ x ⟨t,ins,[]⟩ (jfO ⟨Tryz.prog,tab,o,xs,np,fun _ _=>False⟩ fn.results.toList post)) (h1:(fn.name == "runtime.NumGoroutine")=false:=by kernel_rfl) (h2:ins.length=np:=by rfl) (h3:zR o x=true:=by kernel_rfl):Spec Tryz.prog f ins args post:=jmR (jY o xs np) (fun _ _ h=>h) hf hb h1 h2 h3 h
set_option maxRecDepth 100000 in
theorem tC {f:Nat} {fn:Func} {x:Code} {ins:List (List A)} {args:List A} {post:List (List A)->A->Prop} {pn:List PanicEntry->Prop} (o:Nat->Tr) (xs:Nat->List Nat) (hf:Tryz.prog.funcs[f]? = some fn) (hb:fn.body=some x) (h:vN args->yF args (fn.ntmps-args.length) fun t=>rA ⟨Tryz.prog,tab,o,xs,1,fun ch _=>pn ch⟩ x ⟨t,ins,[]⟩ (jfO ⟨Tryz.prog,tab,o,xs,1,fun ch _=>pn ch⟩ fn.results.toList post)) (h1:(fn.name == "runtime.NumGoroutine")=false:=by kernel_rfl) (h2:ins.length=1:=by rfl) (h3:zR o x=true:=by kernel_rfl):SpecP Tryz.prog f ins args post pn:=yX (kN o xs 1 fun ch _=>pn ch) (fun _ _ h=>h) hf hb h1 h2 h3 h
end Go.Proofs.YtfbifdccmabdbaaGreatDoor.Vm
namespace Go.Proofs.YtfbifdccmabdbaaGreatDoor.Vm
open Go.RowKit
def jR (x:ByteArray):A := .v (.string x)
def intA (n:Int):A := .v (.int .i64 n)
def qR (b:Bool):A := .v (.bool b)
def dU (l:List ByteArray):List A:=l.map jR
def jQ (l:List Int):List A:=l.map intA
theorem uY (l:List ByteArray) (i:Nat) (hi:i<l.length):jC 1 i (dU l)=[.v (.string l[i])]:=wM _ l i hi
theorem bM (l:List Int) (i:Nat) (hi:i<l.length):jC 1 i (jQ l)=[.v (.int .i64 l[i])]:=wM _ l i hi
theorem dO (b:ByteArray) (i:Nat) (hi:i<b.data.toList.length):jC 1 i (kD b)=[.v (.int .u8 (b.data.toList[i].toNat:Int))]:=wM _ b.data.toList i hi
theorem jki {n:Nat} (h:n<=1000000000):n<=maxLen:=by unfold maxLen;omega
theorem aQ {f:Nat} {fn:Func} {x:Code} (hf:Tryz.prog.funcs[f]? = some fn) (hb:fn.body=some x) (hname:(fn.name == "runtime.NumGoroutine")=false):∀ vs w,(callFunc f vs).run Tryz.prog w = .ok (.enter f vs) w:=fun vs w=>nK hf hb hname vs w
theorem dT {P:Program} {f:Nat} {args:List A} {r:A} (hcall:∀ vs w,(callFunc f vs).run P w = .ok (.enter f vs) w)
  (h:∀ w C vals,Gok C w->Sub C (zW w)->A.repL args ⟨C,[],[]⟩ vals->Calls P f vals.toArray w fun e w' => ∃ v,e = .returned v/\Ext w w'/\r.rep ⟨qG C w w',[],[]⟩ v):Spec P f [] args fun _ x=>x=r:=by
 refine⟨hcall,fun w C β vals h0 h1 h2 h3 h4 h5 h6 => ?_⟩
 have hβ:β=[]:=List.eq_nil_of_length_eq_zero (by simpa using h4.symm)
 subst hβ;refine (h w C vals h0 h1 h6).mono ?_;rintro e w' ⟨v,rfl,x,hr⟩;exact⟨[],r,v,rfl,rfl,Keeps.of_ext x,rfl,fun i b cs hb=>by simp at hb,hr⟩
theorem fE {α:Type} : ∀ {l:List α} {i:Nat} {a:α} {K:List α->Prop},i<l.length->K (l.set i a)->gL l i a K
 | [],i,a,K,h,_=>by simp at h
 | x :: l,0,a,K,h,k=>by simpa [gL] using k
 | x :: l,i+1,a,K,h,k=>by
  unfold gL;exact fE (by simpa using h) (by simpa using k)
theorem jac:∀ {n:Nat} {cs:List A} {K:List A->Prop},n<=cs.length->K (cs.take n)->jab n cs K
 | 0,cs,K,_,k=>by unfold jab;simpa using k
 | n+1,[],K,h,k=>by simp at h
 | n+1,c :: cs,K,h,k=>by
  unfold jab;exact jac (by simpa using h) (by simpa using k)
theorem i6 {X:List Nat} {rw:List Row} : ∀ {l:List A},(∀ a ∈ l,∃ x,a = .v x)->qY X rw l=some l
 | [],_=>by simp[qY]
 | a :: r,h=>by
  obtain⟨x,rfl⟩ := h a (by simp)
  unfold qY;rw[i6 (l:=r) fun b hb=>h b (by simp[hb])]
  simp[ren]
theorem jiP {X:List Nat} {rw:List Row} {l:List A} (h:∀ a ∈ l,∃ x,a = .v x):ren X rw (.agg l)=some (.agg l):=by
 unfold ren;rw[i6 h]
theorem pE {X:List Nat} : ∀ {l:List A},(∀ a ∈ l,∃ x,a = .v x)->yN X l=l
 | [],_=>by simp[yN]
 | a :: r,h=>by
  obtain⟨x,rfl⟩ := h a (by simp)
  unfold yN;rw[pE (l:=r) fun b hb=>h b (by simp[hb])]
  simp[back]
theorem nR {np:Nat} {t t':List A} {bx:List (List A)} {rw:List Row} (h:eqL t t'):Le np ⟨t,bx,rw⟩ ⟨t',bx,rw⟩ := by
 rintro dr w0 C0 β0 a w _ _ ⟨E,hp,hrep,hd⟩;exact⟨E,hp,rI (tE h) hrep,hd⟩
def cW {X:Type} (t0:List A) (g:X->List (Nat × A)) (bx:X->List (List A)) (rw:X->List Row) (x:X) (s:S):Prop :=
 yV (g x) t0 fun t=>eqL s.t t/\s.bx=bx x/\s.rw=rw x
theorem dB {X:Type} {np:Nat} {s:S} {t0:List A} {g:X->List (Nat × A)} {bx:X->List (List A)} {rw:X->List Row} {x:X} (h:cW t0 g bx rw x s):Le np s (fP t0 g bx rw x):=by
 unfold cW at h;rw[kJ] at h
 obtain⟨h1,h2,h3⟩ := h
 obtain⟨t,b,r⟩ := s
 simp only at h1 h2 h3
 subst h2;subst h3;exact nR h1
theorem mG {np:Nat} {f:S->(Exit->S->Prop)->Prop} {s:S} {t0:List A} {Q:Exit->S->Prop} {X:Type} (g:X->List (Nat × A)) (bx:X->List (List A)) (rw:X->List Row) (φ:X->Prop) (μ:X->Nat) (x0:X)
  (h0:cW t0 g bx rw x0 s) (hφ:φ x0)
  (hr:∀ x,φ x->yV (g x) t0 fun t=>f ⟨t,bx x,rw x⟩ fun e s' => match e with
   | .normal => ∃ x',Le np s' (fP t0 g bx rw x')/\φ x'/\μ x'<μ x
   | e=>Q e s'):jaL np f s t0 Q:=by
 unfold jaL;unfold xS
 exact⟨X,fP t0 g bx rw,φ,μ,⟨x0,dB h0,hφ⟩,fun x hx=>by
  have:=hr x hx
  rw[kJ] at this
  exact this⟩
theorem gQ {cs:List A} {off:Nat} {d:A} {K:List A->Prop} (h:off<cs.length) (k:K (cs.set off d)):kY cs off [d] K:=by
 unfold kY;exact fE h (by unfold kY;exact k)
theorem lJ:∀ {ds cs:List A} {K:List A->Prop} (pre:List A),ds.length=cs.length->K (pre++ds)->kY (pre++cs) pre.length ds K
 | [],[],K,pre,_,k=>by unfold kY;simpa using k
 | d :: ds,c :: cs,K,pre,h,k=>by
  unfold kY;refine fE (by simp) ?_
  have e:(pre++c :: cs).set pre.length d=(pre++[d])++cs:=by simp
  rw[e]
  have:=lJ (K:=K) (pre++[d]) (ds:=ds) (cs:=cs) (by simpa using h) (by simpa using k)
  simpa using this
 | [],_ :: _,_,_,h,_=>by simp at h
 | _ :: _,[],_,_,h,_=>by simp at h
theorem walk_cell {f:Nat} {args:List A} {vals:List Value} {w:World} (h:Spec Tryz.prog f [] args fun _ r=>r=qR true) (hg:Gok w.cell? w) (ha:A.repL args ⟨w.cell?,[],[]⟩ vals) :
  Calls Tryz.prog f vals.toArray w fun e w' => e = .returned (.bool true)/\Below w.heap.size w w' :=
 (h.2 w w.cell? [] vals hg (fun _ _ h=>u9 h) List.nodup_nil (by simp) rfl (fun i b cs hb=>by simp at hb) ha).mono fun e w' ⟨outs,r,v,he,hr,hk,_,_,hv⟩=>by
  subst hr;rw[he,(A.rep_v_iff.1 hv).1];exact⟨rfl,hk.ext⟩
theorem oR {α:Type} {E:Env} {b:Nat} (f:α->Value) (hf:∀ x,(f x).oneCell'=true):∀ {l:List α} {off:Nat},A.repAt (l.map fun x => .v (f x)) E b off ↔ ∀ i (hi:i<l.length),E.C ⟨b,off+i,none⟩ = some (f l[i])/\cF (f l[i])
 | [],off=>by simp[A.repAt]
 | x :: l,off=>by
  simp only[List.map_cons,A.repAt];rw[oR f hf (l:=l)]
  constructor
  ·rintro⟨⟨u,h1,-,h3⟩,h4⟩ i hi;rw[A.rep_v_iff] at h3
   cases i with
   | zero=>rw[Nat.add_zero,h1,h3.1];exact⟨rfl,h3.2⟩
   | succ i =>
    have:=h4 i (by simpa using hi)
    rw[show off+(i+1)=off+1+i by omega];exact this
  ·intro h;refine⟨⟨f x,by have:=(h 0 (by simp)).1;simpa using this,hf x,A.rep_v_iff.2 ⟨rfl,(h 0 (by simp)).2⟩⟩,fun i hi => ?_⟩
   have:=h (i+1) (by simpa using hi)
   rw[show off+1+i=off+(i+1) by omega];exact this
theorem jbh {E:Env} {v:Value} {l:List Int} {p:Option Addr} {b off cap:Nat} (h1:l.length<=maxLen) (h2:∀ n ∈ l,-9223372036854775808<=n/\n<=9223372036854775807) (hv:v = .slice p l.length cap) (hc:l.length<=cap) (hp:l=[] ∨ p=some ⟨b,off,none⟩) (hn:p=none->cap=0)
  (hh:∀ i,i<l.length->E.C ⟨b,off+i,none⟩ = some (.int .i64 (l.getD i 0))):(A.sl 1 l.length (jQ l)).rep E v:=by
 subst hv;unfold A.rep;refine⟨by simp[jQ],h1,p,b,off,cap,rfl,hc,?_,hn,?_⟩
 ·rcases hp with rfl | hp
  ·exact .inl rfl
  ·exact .inr hp
 ·refine (oR (E:=E.per) (Value.int .i64) (fun _=>rfl)).2 fun i hi=>⟨?_,okV_int.2 (h2 _ (List.getElem_mem hi))⟩
  have:=hh i hi
  simp[List.getD_eq_getElem?_getD,hi] at this
  exact this
theorem row_rep {w:World} {a:Option Addr} {len cap:Nat} {zs:List Int} (h:(a=none/\len=0/\cap=0/\zs=[]) ∨ ∃ x,a=some x/\len<=cap/\cap<=maxLen/\zs.length=cap/\(∀ i,i<zs.length->w.cell? (x.add i)=some (.int .i64 (zs.getD i 0))) /\ ∀ n ∈ zs,(Lit.int .i64 n).wf=true) :
  (A.sl 1 (zs.take len).length (jQ (zs.take len))).rep ⟨w.cell?,[],[]⟩ (.slice a len cap):=by
 rcases h with ⟨rfl,rfl,rfl,rfl⟩ | ⟨x,rfl,hl,hm,hz,hc,hw⟩
 ·exact jbh (p:=none) (b:=0) (off:=0) (cap:=0) (by simp) (by simp) rfl (by simp) (.inl rfl) (fun _=>rfl) (fun i hi=>absurd hi (by simp))
 ·have hlen:(zs.take len).length=len:=by simp;omega
  refine jbh (p:=some x) (b:=x.block) (off:=x.off) (cap:=cap) (by omega) (fun n hn => ?_) (by rw[hlen]) (by omega) ?_ (by simp) (fun i hi => ?_)
  ·have:=hw n (List.mem_of_mem_take hn)
   simp[Lit.wf] at this
   exact this
  ·by_cases h0:len=0
   ·left;subst h0;simp
   ·right
    have:=hc 0 (by omega)
    obtain⟨b,o,sp⟩ := x
    cases sp with
    | none=>rfl
    | some k=>simp[Addr.add,World.cell?] at this;split at this <;> simp at this
  ·have hi':i<len:=by omega
   have e:=hc i (by omega)
   have h0:=hc 0 (by omega)
   obtain⟨b,o,sp⟩ := x
   cases sp with
   | none=>rw[jca] at e;show w.cell? ⟨b,o+i,none⟩ = _;rw[e];simp[List.getD_eq_getElem?_getD,hi']
   | some k=>simp[Addr.add,World.cell?] at h0;split at h0 <;> simp at h0
theorem args_nil {E:Env} : A.repL [] E []:=by unfold A.repL;rfl
theorem jnV {C:Rd} {g:Nat} (h:∃ u v,C ⟨g,0,none⟩ = some (.iface u v)):A.repAt [.err] ⟨C,[],[]⟩ g 0:=by
 obtain⟨u,v,h⟩ := h
 unfold A.repAt;refine⟨⟨_,h,rfl,?_⟩,by simp[A.repAt]⟩;unfold A.rep;exact⟨u,v,rfl⟩
theorem cZ {P:Program} {w:World} {n:String} {d:DataW Unit} {g ti:Nat} (hg:P.globalNamed n=some g) (ht:(P.globals[g]?).map (·.type)=some ti) :
  ∀ {l:List (String × DataW Unit)} {ps:List MemPlace},DataW.LaidVars P w l ps->(n,d) ∈ l -> ∃ cs base sp fuel p,w.var? P n=some cs/\DataW.trod (fun _=>()) P w base sp false fuel ti cs.toList=some (d,p)
 | [],_,_,hm=>by simp at hm
 | (n',d') :: r,ps,h,hm=>by
  obtain⟨g',t',cs,fuel,p,q,e1,e2,e3,e4,e5,_⟩ := h
  rcases List.mem_cons.1 hm with e | hm
  ·cases e
   obtain rfl:=Option.some.inj (hg.symm.trans e1)
   obtain rfl:=Option.some.inj (ht.symm.trans e2)
   exact⟨cs,_,_,fuel,p,e3,e4⟩
  ·exact cZ hg ht e5 hm
theorem pM {P:Program} {w:World} {n:String} {g:Nat} {cs:Array Value} (hg:P.globalNamed n=some g) (h:w.var? P n=some cs):∃ T sp,w.heap[g]? = some (.cells cs T sp):=by
 simp only[World.var?,hg,Option.bind_some] at h
 split at h
 ·rename_i cs' T sp hh
  cases h
  exact⟨T,sp,hh⟩
 ·cases h
theorem gok_iface {P:Program} {w:World} {n nm:String} {d:DataW Unit} {g ti:Nat} {ms:Array (String × TypeId)} (hg:P.globalNamed n=some g) (ht:(P.globals[g]?).map (·.type)=some ti) (hi:P.underlying ti=some (.interface ms))
  {l:List (String × DataW Unit)} {ps:List MemPlace} (h:DataW.LaidVars P w l ps) (hm:(n,DataW.iface nm d) ∈ l):(([A.err]:List A) ≠ []/\A.repAt [.err] ⟨w.cell?,[],[]⟩ g 0) /\ ∃ cs T sp,w.heap[g]? = some (.cells cs T sp)/\cs.size=1:=by
 obtain⟨cs,base,sp,fuel,p,e1,e2⟩ := cZ hg ht h hm
 obtain⟨f',u,v,ecs,_⟩ := iface_of_trod hi e2
 obtain⟨T,sp2,hh⟩ := pM hg e1
 have hc:w.cell? ⟨g,0,none⟩ = some (.iface u v):=by
  have:=World.var?_cell hg e1 0
  rw[this,<- Array.getElem?_toList,ecs];rfl
 refine⟨⟨by simp,jnV ⟨u,v,hc⟩⟩,cs,T,sp2,hh,?_⟩
 have:=congrArg List.length ecs
 simpa using this
theorem gok_tab {P:Program} {w:World} {n:String} {k:IntKind} {zs:List Int} {g ti e m:Nat} (hg:P.globalNamed n=some g) (ht:(P.globals[g]?).map (·.type)=some ti) (hu:P.underlying ti=some (.array m e)) (he:P.underlying e=some (.int k)) (hce:P.cellsOf e=1) (hct:P.cellsOf ti=m) (hne:zs ≠ []) (hzs:∀ z ∈ zs,cF (.int k z))
  {l:List (String × DataW Unit)} {ps:List MemPlace} (h:DataW.LaidVars P w l ps) (hm:(n,Lib.tabData k zs) ∈ l):(((zs.map fun z=>A.v (.int k z)) ≠ [])/\A.repAt (zs.map fun z=>A.v (.int k z)) ⟨w.cell?,[],[]⟩ g 0) /\ ∃ cs T sp,w.heap[g]? = some (.cells cs T sp)/\cs.size=(zs.map fun z=>A.v (.int k z)).length:=by
 obtain⟨cs,base,sp,fuel,p,e1,e2⟩ := cZ hg ht h hm
 have ecs:=Lib.cells_of_tab hu he hce hct e2
 obtain⟨T,sp2,hh⟩ := pM hg e1
 refine⟨⟨by simpa using hne,?_⟩,cs,T,sp2,hh,?_⟩
 ·refine (oR (fun z=>Value.int k z) (fun _=>rfl)).2 fun i hi=>⟨?_,hzs _ (List.getElem_mem hi)⟩
  have:=World.var?_cell hg e1 (0+i)
  show w.cell? _=_
  rw[this,<- Array.getElem?_toList,ecs]
  simp[hi]
 ·have:=congrArg List.length ecs
  simpa using this
section
theorem gok_num {P:Program} {w:World} {g t:Nat} (h:w.ShapedOpen P) (hg:g<P.globals.size)
  (h0:((begin P (fun _ _=>0) default).world.heap[g]?).bind Obj.row? = some (#[.int .i64 0],t))
  (hb:P.buildable t=true) (hc:P.cellTypes P.depth t=some [t]) (hu:P.underlying t=some (.int .i64)) :
  (([A.num]:List A) ≠ []/\A.repAt [.num] ⟨w.cell?,[],[]⟩ g 0) /\ ∃ cs T sp,w.heap[g]? = some (.cells cs T sp)/\cs.size=1:=by
 obtain⟨m,hm⟩ := cell_of_shapedOpen_int h hg h0 rfl hb hc hu
 obtain⟨cs,hh,hs,_⟩ := h.1 g _ _ hg h0
 refine⟨⟨by simp,?_⟩,cs,t,_,hh,hs⟩
 ·unfold A.repAt A.repAt;exact⟨⟨_,hm,rfl,by unfold A.rep;exact⟨m,rfl⟩⟩,trivial⟩
section
variable {H:Type} {enc:TypeId × Value->H}
theorem frame_shaped {a:Assume} {C:Checked} {os:Os} {f:FuncId} {fn:Func} {s:ChangeSpec} {conds:List PathCond} {apart fresh handsOn again:Bool} {X:World->Array Value->Prop}
  (hX:∀ (w w':World) (args:Array Value),w.heap=w'.heap->X w args->X w' args)
  (own:ownKnob C.prog.godebug=none) (started:os.Started) (noInit:C.prog.inits.idxOf? f=none) (hfn:C.prog.funcs[f]? = some fn)
  (witness:∃ (w:World) (tape:Tape) (i:Input),w.os=os/\(w.forCall tape i).Shaped C.prog/\i.vars=[]/\Input.okWide C.prog (w.forCall tape i) .any w.heap.size f i ∧
   ((s.pre enc C.prog fn conds apart (w.forCall tape i).memory i.args/\X (w.forCall tape i).memory i.args)/\sizedMet enc C.prog fn (OpenSpec.ofChange s) apart (w.forCall tape i).memory i.args)/\a.holds C.prog (lone (Frame.enter C.prog f i.args .normal) [] (w.forCall tape i)))
  (contract:∀ (W:World) (base:Nat) (args:Array Value) (ds gs:List (DataW H)) (before:List MemPlace),
   (∀ (j:Nat) t v,fn.params[j]? = some t->args[j]? = some v->Value.okWide C.prog W .any base t v) →
   DataW.Whole enc C.prog fn.params.toList s.vars apart W args.toList ds gs before->X W args->W.ShapedOpen C.prog →
   Calls C.prog f args W fun e W' => ∃ v,e = .returned v/\s.post enc C.prog fn apart fresh handsOn again W args v W') :
  ReturnsInHanded a C os f .any (fun w args=>(s.pre enc C.prog fn conds apart w args/\X w args)/\sizedMet enc C.prog fn (OpenSpec.ofChange s) apart w args) (s.post enc C.prog fn apart fresh handsOn again):=by
 refine returnsInHanded_of_calls own started noInit witness ?_;intro w tape i _ hsh _ hok hpre _
 obtain⟨_,_,_,fn',hfn',_,_,_,_,hval⟩ := hok
 obtain rfl:fn'=fn:=Option.some.inj (hfn'.symm.trans hfn)
 obtain⟨⟨⟨ds,gs,before,hw,_⟩,hx⟩,_⟩ := hpre
 have hw2:=DataW.Whole.of_heap (w':=w.forCall tape i) (by rfl) hw
 refine (contract (w.forCall tape i) w.heap.size i.args ds gs before hval hw2 (hX _ _ _ (by rfl) hx) hsh).mono fun e W' hr => ?_
 obtain⟨v,he,hp⟩ := hr
 subst he;exact ChangeSpec.post_blind hp
end
end
section
def jeW (c:Cx) (e k g:Nat) (rv:List ResultVar) (post:List (List A)->Nat->List A->A->Prop) (s:S):Prop :=
 jkR c.T s rv fun r=>match (jA s.rw (jiB g (aW r++pN (g9 c.np s.bx))))[g]? with
  | some (.live e' k' n cs)=>match Nat.beq e' e,Nat.beq k' k with
   | true,true=>match gI (upto c.np) g (jA s.rw (jiB g (aW r++pN (g9 c.np s.bx)))) (g9 c.np s.bx) with
    | some outs=>match renG (upto c.np) g (jA s.rw (jiB g (aW r++pN (g9 c.np s.bx)))) r with
     | some r' => post outs n cs r'
     | none=>False
    | none=>False
   | _,_=>False
  | _=>False
def jm3 (c:Cx) (e k:Nat) (rv:List ResultVar) (post:List (List A)->Nat->List A->A->Prop) (x:Exit) (s:S):Prop :=
 match x with
 | .ret => ∃ g,jeW c e k g rv post s
 | .normal => ∃ g,jeW c e k g rv post s
 | _=>False
section
variable {c:Cx} {s:S}
theorem jcw {fn:Func} {post:List (List A)->Nat->List A->A->Prop} {w w':World} {C:Rd} {β:List Nat} {s':S} {a':Act} {e k g:Nat} {y:Value} (hc:c.ok) (hnp:β.length=c.np) (hr:jeW c e k g fn.results.toList post s') (hi:Inv [] ⟨w,(blk y).toList⟩ C β s' a' w') :
  a'.defers=[] /\ ∃ v,(results fn a'.tmps).run c.P w' = .ok v w' /\ ∃ (outs:List (List A)) (n':Nat) (cs':List A) (r:A) (v' y':Value) (xs':List Value) (C':Rd),Ending.returned v = .returned v'/\post outs n' cs' r/\Keeps (β++(blk y).toList) w w'/\Sub C C'/\Sub C' (zW w')/\(∀ ad u,C' ad=some u->C ad=some u ∨ w.heap.size<=ad.block ∨ blk y=some ad.block)/\outs.length=β.length ∧
   (∀ (i b:Nat) (cs:List A),β[i]? = some b->outs[i]? = some cs->boxAt w' ⟨C',β,[y']⟩ b cs)/\owR w' e k y' n' xs'/\A.repC cs' ⟨C',[],[]⟩ xs'/\(∀ b,blk y'=some b->(∀ o sp,C' ⟨b,o,sp⟩ = none)/\(w.heap.size<=b ∨ blk y=some b))/\r.rep ⟨C',β,[y']⟩ v':=by
 obtain⟨E,hp,ht,hd⟩ := hi
 unfold jeW at hr
 obtain⟨r,v,g1,g2,g3⟩ := jd0 (fn:=fn) hc hp ht hr
 refine⟨hd,v,g3,?_⟩
 have hmem:∀ b,b ∈ (blk y).toList->blk y=some b:=fun b hb=>by
  cases h:blk y with
  | none=>rw[h] at hb;simp at hb
  | some x=>rw[h] at hb;simp at hb;rw[hb]
 have hfr:∀ b,W0.fr ⟨w,(blk y).toList⟩ b->w.heap.size<=b ∨ blk y=some b:=fun b hb=>hb.imp id (hmem b)
 obtain⟨C1,hp1,le1⟩ := hp.pubs (jiB g (aW r++pN (g9 c.np s'.bx)))
 split at g1
 ·rename_i e' k' n cs hg
  split at g1
  ·rename_i hb1 hb2
   obtain rfl:=Nat.eq_of_beq_eq_true hb1
   obtain rfl:=Nat.eq_of_beq_eq_true hb2
   split at g1
   ·rename_i outs houts
    split at g1
    ·rename_i r' hr'
     have hgl:=(List.getElem?_eq_some_iff.1 hg).1
     obtain⟨y',hy'⟩ : ∃ y',E.ρ[g]? = some y':=⟨_,List.getElem?_eq_getElem (by rw[<- hp1.rl];exact hgl)⟩
     obtain⟨xs,⟨k1,kf⟩,k2⟩ := hp1.rws g _ y' hg hy'
     obtain⟨β',hβ,hβ'⟩ := hp.bp
     have hβl:β.length<=E.β.length:=by rw[hβ];simp
     have hget:∀ i:Nat,i<β.length->E.β[i]? = β[i]? := fun i hi=>by rw[hβ,List.getElem?_append_left hi]
     have hY:wD ⟨C1,E.β,E.ρ⟩ (upto c.np) β:=fun j i hj=>by
      obtain⟨rfl,hi⟩ := jal hj
      have:i<β.length:=by rw[hnp];exact hi
      exact⟨β[i],by simp[this],by rw[hget i this];simp[this]⟩
     obtain⟨q1,q2⟩ := iZ houts
     have hbl:=hp.bl
     refine⟨outs,n,cs,r',v,y',xs,C1,rfl,g1,hp1.keep,hp1.base,hp1.sub,fun ad u hc=>(hp1.fresh ad u hc).imp id fun h=>hfr _ h,by rw[q1,dW,List.length_take];omega,fun i b cs h7 h8 => ?_,k1,k2,fun b hb=>⟨(hp1.rC g _ _ _ _ y' b hg hy' hb).2,hfr b (kf b hb)⟩,jeR (E:=⟨C1,E.β,E.ρ⟩) hp1 hY hy' r hr' (A.rep.mono _ le1 g2)⟩
     obtain⟨c0,h9,h10⟩ := q2 i cs h8
     have hi:=(List.getElem?_eq_some_iff.1 h7).1
     rw[dW,List.getElem?_take,if_pos (by omega)] at h9
     obtain⟨T',arr,p1,p2⟩ := hp1.bxs i b c0 (by rw[<- h7];exact hget i hi) h9
     exact⟨T',arr,p1,p2.renG hp1 hY hy' h10⟩
    ·exact g1.elim
   ·exact g1.elim
  ·exact g1.elim
 ·exact g1.elim
theorem iM {nt:Nat} {ins:List (List A)} {args:List A} {w:World} {C:Rd} {β:List Nat} {vals:List Value} {y:Value} {xs:List Value} {e k n:Nat} {cs:List A} (h0:Gok C w) (h1:Sub C (zW w)) (h2:β.Nodup) (h3:∀ b ∈ β,∀ o sp,C ⟨b,o,sp⟩ = none) (h4:ins.length=β.length)
  (h5:∀ (i b:Nat) (cs:List A),β[i]? = some b->ins[i]? = some cs->boxAt w ⟨C,β,[y]⟩ b cs) (h6:owR w e k y n xs) (h7:A.repC cs ⟨C,[],[]⟩ xs) (h8:∀ b,blk y=some b->b ∉ β /\ ∀ o sp,C ⟨b,o,sp⟩ = none) (h9:A.repL args ⟨C,β,[y]⟩ vals) :
  Inv [] ⟨w,(blk y).toList⟩ C β ⟨args++List.replicate (nt-args.length) .dead,ins,[.live e k n cs]⟩ { tmps:=vals.toArray++Array.replicate (nt-vals.toArray.size) undef,defers:=[] } w:=by
 have hl:=A.repL_len h9
 have one:∀ {g:Nat} {r:Row},[Row.live e k n cs][g]? = some r->g=0/\r = .live e k n cs:=fun {g r} hg=>by
  cases g with
  | zero=>simp at hg;exact⟨rfl,hg.symm⟩
  | succ g=>simp at hg
 refine⟨⟨C,β,[y]⟩,⟨h1,Sub.refl _,fun _ _ hc => .inl hc,⟨[],by simp,by simp⟩,h2,h3,h4,h5,rfl,fun g r z hg hz => ?_,fun g e' k' n' cs' z b hg hz hb => ?_,fun g e' k' n' cs' z g' e2 k2 n2 cs2 z2 b hne hg _ hg' => ?_,fun g z hz => ?_,Keeps.refl _ _,h0,fun b hb => ?_⟩,?_,rfl⟩
 ·obtain⟨rfl,rfl⟩ := one hg
  obtain⟨-,rfl⟩ := eU hz
  exact⟨xs,⟨h6,fun b hb => .inr (by simp[hb])⟩,h7⟩
 ·obtain⟨rfl,hr⟩ := one hg
  obtain⟨-,rfl⟩ := eU hz
  exact h8 b hb
 ·exact absurd ((one hg).1.trans (one hg').1.symm) hne
 ·obtain⟨-,rfl⟩ := eU hz
  exact h6.kind
 ·cases h:blk y with
  | none=>rw[h] at hb;simp at hb
  | some x=>rw[h] at hb;simp at hb;rw[hb];exact (h8 x h).2
 ·have:(vals.toArray++Array.replicate (nt-vals.toArray.size) undef).toList=vals++List.replicate (nt-args.length) undef:=by simp[hl]
  rw[this];exact A.repL_append h9 (vY _ _)
theorem jfa {f:Nat} {fn:Func} {x:Code} {ins:List (List A)} {e k n:Nat} {cs args:List A} {post:List (List A)->Nat->List A->A->Prop} {pn:List PanicEntry->Prop} (hc:c.ok) (hq:∀ ch s,c.pan ch s->pn ch) (hf:c.P.funcs[f]? = some fn) (hb:fn.body=some x) (hname:(fn.name == "runtime.NumGoroutine")=false)
  (hn:ins.length=c.np) (h:vN args->yF args (fn.ntmps-args.length) fun t=>Ok c x ⟨t,ins,[.live e k n cs]⟩ (jm3 c e k fn.results.toList post)):iA c.P f ins e k n cs args post pn:=by
 refine⟨nK hf hb hname,fun w C β vals y xs h0 h1 h2 h3 h4 h5 h6 h7 h8 h9 => ?_⟩;refine calls_of_wp hf hb ?_
 have hinit:=initK_iff.1 (h (kO _ h9))
 have hinv:=iM (nt:=fn.ntmps) h0 h1 h2 h3 h4 h5 h6 h7 h8 h9
 unfold Ok OkD at hinit;refine hinit ⟨w,(blk y).toList⟩ C β _ w _ (by rw[<- h4,hn]) hinv (fun ch s' a' w' hpan ⟨E,hp,ht,hd⟩=>⟨hd,.inr ⟨ch,(List.range β.length).map fun i=>(s'.bx.getD i []).length,rfl,hq ch s' hpan,hp.keep,by simp,fun i b n h7 h8 => ?_⟩⟩) ?_
 ·obtain⟨β',hβ,hβ'⟩ := hp.bp
  have hi:=(List.getElem?_eq_some_iff.1 h7).1
  have hbl:=hp.bl
  have hβl:β.length<=E.β.length:=by rw[hβ];simp
  have hib:i<s'.bx.length:=by omega
  rw[List.getElem?_map,List.getElem?_range hi] at h8;simp only[Option.map_some,Option.some.injEq] at h8;subst h8
  have e1:E.β[i]? = some b:=by rw[hβ,List.getElem?_append_left hi];exact h7
  obtain⟨T',arr,q1,q2⟩ := hp.bxs i b _ e1 (List.getElem?_eq_getElem hib)
  have e2:(s'.bx.getD i []).length=s'.bx[i].length:=by simp[List.getD_eq_getElem?_getD,hib]
  refine⟨T',arr,q1,?_⟩;rw[e2]
  have hl2:=q2.len
  have q2:=q2.1
  refine .mk' (A.repC_mk ?_ (A.repC_one q2))
  have:=cP (E:=⟨C,β,[]⟩) (l:=s'.bx[i]) hl2
  rw[List.map_const'] at this;exact this
 have fin:∀ (s':S) (a':Act) (w':World),(∃ g,jeW c e k g fn.results.toList post s')->Inv [] ⟨w,(blk y).toList⟩ C β s' a' w'->_:=fun s' a' w' ⟨g,hr⟩ hi=>jcw (w:=w) (C:=C) (β:=β) (s':=s') (a':=a') (w':=w') (fn:=fn) (post:=post) (y:=y) hc (by rw[<- h4,hn]) hr hi
 intro e1 s' a' w' hq hi
 cases e1 with
 | normal=>obtain⟨k1,v,k2,k3⟩ := fin s' a' w' hq hi;exact⟨k1,v,k2,.inl k3⟩
 | ret=>obtain⟨k1,v,k2,k3⟩ := fin s' a' w' hq hi;exact⟨k1,v,k2,.inl k3⟩
 | _=>exact hq.elim
theorem ja4 {f:Nat} {fn:Func} {x:Code} {ins:List (List A)} {e k n:Nat} {cs args:List A} {post:List (List A)->Nat->List A->A->Prop} {pn:List PanicEntry->Prop} (hc:c.ok) (hq:∀ ch s,c.pan ch s->pn ch) (hf:c.P.funcs[f]? = some fn) (hb:fn.body=some x) (hname:(fn.name == "runtime.NumGoroutine")=false)
  (hn:ins.length=c.np) (hord:zR c.ord x=true) (h:vN args->yF args (fn.ntmps-args.length) fun t=>rA c x ⟨t,ins,[.live e k n cs]⟩ (jm3 c e k fn.results.toList post)):iA c.P f ins e k n cs args post pn :=
 jfa hc hq hf hb hname hn fun ho=>initK_iff.2 (zX hc hord (initK_iff.1 (h ho)))
end
section
variable {P:Program} {pan:List PanicEntry->S->Prop} {Xr:Nat->Bool} {f:Nat} {args args':List A} {s:S} {K:A->S->Prop} {post:List (List A)->Nat->List A->A->Prop} {ins:List (List A)}
theorem qJ (i g m:Nat) (ids:List Nat) (hm:s.rw.length=m) {e k n:Nat} {cs c0 c1:List A} {pn:List PanicEntry->Prop} (hf:Xr 1000000007=true) (hX:Xr i=true) (hi:s.bx[i]? = some c0) (hg:(jA s.rw ids)[g]? = some (.live e k n cs)) (h1:zC [i] g (jA s.rw ids) c0=some c1) (h2:zC [i] g (jA s.rw ids) args=some args') (hs:vN args'->iA P f [c1] e k n cs args' post pn)
  (hpn:∀ ch bx',pn ch->bx'.length=s.bx.length->(∀ j,j ≠ i->bx'[j]? = s.bx[j]?)->pan ch ⟨s.t,bx',(jA s.rw ids).set g .gone++[.live e k 0 []]⟩)
  (hk:∀ o n' cs' r,post [o] n' cs' r->b9 [i] m s.bx [i] [o] fun bx' => qW (backG [i] m r) fun r' => jW ((jA s.rw ids).set g .gone++[.live e k n' cs']) fun rw' => kC s bx' rw' (K r')):z6 P pan Xr f args s K:=by
 subst hm;unfold z6
 right;right;right;right;left
 have hil:=(List.getElem?_eq_some_iff.1 hi).1
 refine⟨hf,[i],ids,g,e,k,n,cs,[c1],args',post,pn,by simp,by simpa using hX,by simpa using hil,hg,?_,h2,hs,fun outs n' cs' r hp hl => ?_,fun ch bx' h h1 h2=>hpn ch bx' h h1 fun j hj=>h2 j (by simpa using hj)⟩
 ·have:s.bx.getD i []=c0:=by simp[List.getD_eq_getElem?_getD,hi]
  simp only[List.map_cons,List.map_nil,this,gI,h1]
 ·obtain⟨o,rfl⟩ : ∃ o,outs=[o]:=List.length_eq_one_iff.1 (by simpa using hl)
  exact hk o n' cs' r hp
theorem jo4 (i g m:Nat) (ids:List Nat) (hm:s.rw.length=m) {e k n:Nat} {cs c0 c1:List A} (hf:Xr 1000000007=true) (hX:Xr i=true) (hi:s.bx[i]? = some c0) (hg:(jA s.rw ids)[g]? = some (.live e k n cs)) (h1:zC [i] g (jA s.rw ids) c0=some c1) (h2:zC [i] g (jA s.rw ids) args=some args') (hs:vN args'->lO P f [c1] e k n cs args' post)
  (hk:∀ o n' cs' r,post [o] n' cs' r->b9 [i] m s.bx [i] [o] fun bx' => qW (backG [i] m r) fun r' => jW ((jA s.rw ids).set g .gone++[.live e k n' cs']) fun rw' => kC s bx' rw' (K r')):z6 P pan Xr f args s K :=
 qJ i g m ids hm hf hX hi hg h1 h2 hs (fun _ _ h=>h.elim) hk
end
mutual
def vQ (sel:List Nat):A->A
 | .own g=>match idx sel g with
  | some j => .own j
  | none => .dead
 | .orow g o=>match idx sel g with
  | some j => .orow j o
  | none => .dead
 | .clo f l => .clo f (fL sel l)
 | .bm f l => .bm f (fL sel l)
 | .agg l => .agg (fL sel l)
 | .tup l => .tup (fL sel l)
 | .box b o => .box b o
 | .mp ks vs => .mp ks vs
 | .gp g o => .gp g o
 | .adr T => .adr T
 | .err => .err
 | .num => .num
 | .dead => .dead
 | .v x => .v x
 | .sl k n cs => .sl k n cs
 | .pp cs => .pp cs
def fL (sel:List Nat):List A->List A
 | []=>[]
 | a :: r=>vQ sel a :: fL sel r
end
theorem dQ (sel:List Nat):∀ l:List A,fL sel l=l.map (vQ sel)
 | []=>by simp[fL]
 | a :: r=>by unfold fL;rw[dQ sel r];rfl
section
variable {E:Env} {sel:List Nat} {ρ':List Value}
mutual
theorem jl3 (hs:∀ j g:Nat,sel[j]? = some g->ρ'[j]? = E.ρ[g]?):∀ (a:A) {y:Value},a.rep E y->(vQ sel a).rep ⟨E.C,E.β,ρ'⟩ y
 | .dead,y,_=>by unfold vQ;exact A.rep_dead _ _
 | .v x,y,h=>by unfold vQ;unfold A.rep at h ⊢;exact h
 | .sl k n cs,y,h=>by unfold vQ;unfold A.rep at h ⊢;exact h
 | .pp cs,y,h=>by unfold vQ;unfold A.rep at h ⊢;exact h
 | .own g,y,h=>by
  unfold vQ
  split
  ·rename_i j hj
   unfold A.rep at h ⊢;exact (hs j g (aX hj)).trans h
  ·exact A.rep_dead _ _
 | .orow g o,y,h=>by
  unfold vQ
  split
  ·rename_i j hj
   unfold A.rep at h ⊢
   obtain⟨b,n,cap,h1,h2⟩ := h
   exact⟨b,n,cap,(hs j g (aX hj)).trans h1,h2⟩
  ·exact A.rep_dead _ _
 | .box j off,y,h=>by unfold vQ;unfold A.rep at h ⊢;exact h
 | .gp _ _,y,h=>by unfold vQ;unfold A.rep at h ⊢;exact h
 | .adr _,y,h=>by unfold A.rep at h;exact h.elim
 | .err,y,h=>by unfold vQ;unfold A.rep at h ⊢;exact h
 | .num,y,h=>by unfold vQ;unfold A.rep at h ⊢;exact h
 | .clo f l,y,h=>by
  unfold vQ;unfold A.rep at h ⊢
  obtain⟨us,h1,h2⟩ := h
  exact⟨us,h1,gK hs l h2⟩
 | .bm f l,y,h=>by
  unfold vQ;unfold A.rep at h ⊢
  obtain⟨us,h1,h2⟩ := h
  exact⟨us,h1,gK hs l h2⟩
 | .mp ks vs,y,h=>by unfold vQ;unfold A.rep at h ⊢;exact h
 | .agg l,y,h=>by
  unfold vQ;unfold A.rep at h ⊢
  obtain⟨us,h1,h2⟩ := h
  exact⟨us,h1,A.repC_mk (gK hs l (A.repC_L h2)) (A.repC_one h2)⟩
 | .tup l,y,h=>by
  unfold vQ;unfold A.rep at h ⊢
  obtain⟨us,h1,h2⟩ := h
  exact⟨us,h1,gK hs l h2⟩
theorem gK (hs:∀ j g:Nat,sel[j]? = some g->ρ'[j]? = E.ρ[g]?):∀ (l:List A) {us:List Value},A.repL l E us->A.repL (fL sel l) ⟨E.C,E.β,ρ'⟩ us
 | [],us,h=>by unfold fL;unfold A.repL at h ⊢;exact h
 | a :: r,us,h=>by
  unfold fL;unfold A.repL at h ⊢
  obtain⟨u,us',h1,h2,h3⟩ := h
  exact⟨u,us',h1,jl3 hs a h2,gK hs r h3⟩
end
end
def uF:List Nat->Bool
 | []=>true
 | x :: r=>match iO x r with | true=>false | false=>uF r
theorem uG:∀ {l:List Nat},uF l=true->l.Nodup
 | [],_=>List.nodup_nil
 | x :: r,h=>by
  unfold uF at h
  split at h
  ·cases h
  ·rename_i hm
   refine List.nodup_cons.2 ⟨fun hx => ?_,uG h⟩;rw[memB_iff.2 hx] at hm;cases hm
theorem joz {np:Nat} {s:S} (sel:List Nat) (hn:uF sel=true) (hl:pD sel s.rw.length=true):Le np s ⟨fL sel s.t,s.bx.map (fL sel),sel.map fun g=>s.rw.getD g .gone⟩ := by
 rintro dr w0 C0 β0 a w hdr e ⟨E,hp,hrep,hd⟩
 have hlt:=jaR hl
 have hnd:=uG hn
 have r1:=hp.rl
 have hs:∀ j g:Nat,sel[j]? = some g->(sel.map fun g=>E.ρ.getD g undef)[j]? = E.ρ[g]? := fun j g h=>by
  have hg:g<E.ρ.length:=by rw[<- r1];exact hlt g (List.mem_iff_getElem?.2 ⟨j,h⟩)
  simp[h,List.getD_eq_getElem?_getD,hg]
 have row:∀ {j:Nat} {r:Row},(sel.map fun g=>s.rw.getD g .gone)[j]? = some r -> ∃ g,sel[j]? = some g/\s.rw[g]? = some r:=fun {j r} h=>by
  rw[List.getElem?_map,Option.map_eq_some_iff] at h
  obtain⟨g,h1,h2⟩ := h
  have hg:=hlt g (List.mem_iff_getElem?.2 ⟨j,h1⟩)
  exact⟨g,h1,by rw[<- h2];simp[List.getD_eq_getElem?_getD,hg]⟩
 have val:∀ {j:Nat} {y:Value},(sel.map fun g=>E.ρ.getD g undef)[j]? = some y -> ∃ g,sel[j]? = some g/\E.ρ[g]? = some y:=fun {j y} h=>by
  have h0:=h
  rw[List.getElem?_map,Option.map_eq_some_iff] at h
  obtain⟨g,h1,h2⟩ := h
  exact⟨g,h1,by rw[<- hs j g h1];exact h0⟩
 refine⟨⟨E.C,E.β,sel.map fun g=>E.ρ.getD g undef⟩,⟨hp.sub,hp.base,hp.fresh,hp.bp,hp.bnd,hp.bC,by simpa using hp.bl,fun i b cs h1 h2 => ?_,by simp,fun j r y h1 h2 => ?_,fun j e k n cs y b h1 h2 h3 => ?_,fun j e k n cs y j' e' k' n' cs' z b hne h1 h2 h3 h4 h5 => ?_,fun j y h1 => ?_,hp.keep,hp.gk⟩,gK hs _ hrep,repD.keep (E:=E) (F:=⟨E.C,E.β,sel.map fun g=>E.ρ.getD g undef⟩) (Sub.refl _) (fun _ _ h=>h) hdr hd⟩
 ·rw[List.getElem?_map,Option.map_eq_some_iff] at h2
  obtain⟨c0,h2,rfl⟩ := h2
  obtain⟨T',arr,h3,h4⟩ := hp.bxs i b c0 h1 h2
  rw[dQ];refine⟨T',arr,h3,h4.map (vQ sel) (fun l us k=>by rw[<- dQ];exact gK hs l k) (by unfold vQ;rfl) (fun t=>by unfold vQ;rfl) fun a t e => ?_⟩
  cases a <;> unfold vQ at e <;> (try split at e) <;> first | (cases e;done) | (cases e;rfl)
 ·obtain⟨g,k1,k2⟩ := row h1
  obtain⟨g',k3,k4⟩ := val h2
  obtain rfl:=Option.some.inj (k1.symm.trans k3)
  have:=hp.rws g r y k2 k4
  cases r with
  | live e k n cs=>exact this
  | pub k n cs =>
   have h5:(A.sl k n cs).rep _ y:=this
   show (A.sl k n cs).rep _ y
   unfold A.rep at h5 ⊢;exact h5
  | gone=>trivial
 ·obtain⟨g,k1,k2⟩ := row h1
  obtain⟨g',k3,k4⟩ := val h2
  obtain rfl:=Option.some.inj (k1.symm.trans k3)
  exact hp.rC g e k n cs y b k2 k4 h3
 ·obtain⟨g,k1,k2⟩ := row h1
  obtain⟨g',k3,k4⟩ := val h2
  obtain rfl:=Option.some.inj (k1.symm.trans k3)
  obtain⟨x,q1,q2⟩ := row h3
  obtain⟨x',q3,q4⟩ := val h4
  obtain rfl:=Option.some.inj (q1.symm.trans q3)
  exact hp.rd g e k n cs y x e' k' n' cs' z b (fun e9=>hne (by subst e9;exact jbt hnd k1 q1)) k2 k4 q2 q4 h5
 ·obtain⟨g,k1,k2⟩ := val h1
  exact hp.rs g y k2
def jf3 (sel:List Nat):List (List A)->(List (List A)->Prop)->Prop
 | [],K=>K []
 | c :: l,K=>vM (vQ sel) c fun c' => jf3 sel l fun r=>K (c' :: r)
theorem jbK {sel:List Nat} : ∀ {l:List (List A)} {K:List (List A)->Prop},jf3 sel l K ↔ K (l.map (fL sel))
 | [],K=>by simp[jf3]
 | c :: l,K=>by simp[jf3,j6,jbK (l:=l),dQ]
def jqq (sel:List Nat) (rw:List Row):List Row:=sel.map fun g=>rw.getD g .gone
def jjf (sel:List Nat) (t:List A) (bx:List (List A)) (rw:List Row) (K:S->Prop):Prop :=
 match uF sel with
 | true=>match pD sel rw.length with
  | true=>vM (vQ sel) t fun t' => jf3 sel bx fun bx' => jW (jqq sel rw) fun rw' => K ⟨t',bx',rw'⟩
  | false=>False
 | false=>False
theorem jf2 {sel:List Nat} {t:List A} {bx:List (List A)} {rw:List Row} {K:S->Prop} (h:jjf sel t bx rw K):∃ s',(∀ np,Le np ⟨t,bx,rw⟩ s')/\K s':=by
 unfold jjf at h
 split at h
 ·rename_i h1
  split at h
  ·rename_i h2
   rw[j6,jbK,qK] at h;refine⟨_,fun np=>joz (s:=⟨t,bx,rw⟩) sel h1 h2,?_⟩
   show K ⟨fL sel t,bx.map (fL sel),jqq sel rw⟩
   rw[dQ];exact h
  ·exact h.elim
 ·exact h.elim
theorem jep {np:Nat} {f:S->(Exit->S->Prop)->Prop} {t:List A} {bx:List (List A)} {rw:List Row} {Q:Exit->S->Prop} (sel:List Nat) (h:jjf sel t bx rw fun s' => xS np f s' Q):xS np f ⟨t,bx,rw⟩ Q:=by
 obtain⟨s',h1,h2⟩ := jf2 h
 exact jhx (h1 _) h2
theorem jD {X:Type} {np:Nat} {t t0:List A} {bx:List (List A)} {rw:List Row} {g:X->List (Nat × A)} {hb:X->List (List A)} {hr:X->List Row} {x:X} (sel:List Nat) (h:jjf sel t bx rw fun s' => tU t0 g hb hr x fun s2=>LeS np s' s2):Le np ⟨t,bx,rw⟩ (fP t0 g hb hr x):=by
 obtain⟨s',h1,h2⟩ := jf2 h
 exact (h1 np).trans (fT (headK_iff.1 h2))
theorem Hp.pubMap {w0:W0} {w:World} {C0:Rd} {β0:List Nat} {s:S} {E:Env} (h:Hp w0 C0 β0 s.bx s.rw w E) {g e n f f':Nat} {kA vs:List A} {ks:List Value} (hg:s.rw[g]? = some (.live e 0 n [.clo f kA,.clo f' vs])) (hk:∀ us,A.repL kA E.per us->us=ks /\ ∀ k ∈ ks,cF k) :
  ∃ C' y,E.ρ[g]? = some y/\Hp w0 C0 β0 s.bx (s.rw.set g .gone) w ⟨C',E.β,E.ρ⟩ /\ E.le ⟨C',E.β,E.ρ⟩ /\ (A.mp ks vs).rep ⟨C',E.β,E.ρ⟩ y:=by
 have hgl:=(List.getElem?_eq_some_iff.1 hg).1
 obtain⟨y,hy⟩ : ∃ y,E.ρ[g]? = some y:=⟨_,List.getElem?_eq_getElem (by rw[<- h.rl];exact hgl)⟩
 obtain⟨r,es,c,us,e1,hr,hn,hst,h2,hks,hvs⟩ := rV h hg hy
 obtain⟨hks,hok⟩ := hk _ hks
 have hb:blk y=some r:=by rw[e1];rfl
 obtain⟨hrn,hrC⟩ := h.rC g e 0 n _ y r hg hy hb
 refine⟨fun ad=>if ad.block=r then (zW w) ad else E.C ad,y,hy,?_⟩
 have hC:Sub E.C (fun ad=>if ad.block=r then (zW w) ad else E.C ad):=fun ad u hc=>by
  simp only
  split
  ·exact h.sub ad u hc
  ·exact hc
 have le:E.le ⟨fun ad=>if ad.block=r then (zW w) ad else E.C ad,E.β,E.ρ⟩ := ⟨hC,fun _ _ h=>h,fun _ _ h=>h⟩
 have live:∀ {j e k n:Nat} {cs:List A},(s.rw.set g .gone)[j]? = some (.live e k n cs)->s.rw[j]? = some (.live e k n cs)/\j ≠ g:=fun {j e k n cs} hj=>by
  rw[List.getElem?_set] at hj
  split at hj
  ·cases hj
  ·rename_i hne;exact⟨hj,fun e=>hne e.symm⟩
 refine⟨⟨fun ad u hc => ?_,h.base.trans hC,fun ad u hc => ?_,h.bp,h.bnd,fun b hb' o sp => ?_,h.bl,fun i b cs' h1 h2=>(h.bxs i b cs' h1 h2).mono le,by simp[h.rl],fun j r' z h1 h2 => ?_,fun j e' k' n' cs' z b h1 h2 h3 => ?_,fun j e1' k1 n1 cs1 z j' e2 k2 n2 cs2 z' b hne h1 h2 h3 h4 h5=>h.rd j e1' k1 n1 cs1 z j' e2 k2 n2 cs2 z' b hne (live h1).1 h2 (live h3).1 h4 h5,h.rs,h.keep,h.gk⟩,le,?_⟩
 ·simp only at hc
  split at hc
  ·exact hc
  ·exact h.sub ad u hc
 ·simp only at hc
  split at hc
  ·rename_i hb2
   right
   have:=(h.rlt hg hy hb).1
   rw[hb2];exact this
  ·exact h.fresh ad u hc
 ·simp only
  rw[if_neg (fun hb2:b=r=>hrn (by rw[<- hb2];exact hb'))];exact h.bC b hb' o sp
 ·rw[List.getElem?_set] at h1
  split at h1
  ·cases h1;trivial
  ·exact (h.rws j r' z h1 h2).mono le (fun _ _ _ _ _ _ _=>rfl)
 ·obtain⟨h4,h5⟩ := live h1
  obtain⟨q1,q2⟩ := h.rC j e' k' n' cs' z b h4 h2 h3
  refine⟨q1,fun o sp => ?_⟩
  simp only
  rw[if_neg (fun hb2:b=r=>h.rd g e 0 n _ y j e' k' n' cs' z r (Ne.symm h5) hg hy h4 h2 hb (by rw[<- hb2];exact h3))];exact q2 o sp
 ·unfold A.rep;refine⟨r,us,e1,?_,?_,A.repL.mono _ le.per hvs,hok⟩
  ·simp only[if_true];unfold zW nE;simp only[hr];rw[if_pos hst]
   have q1:es.map (·.key)=ks.toArray:=by
    apply Array.toList_inj.1
    rw[<- hks];simp
   have q2:es.map (·.val)=us.toArray:=by
    apply Array.toList_inj.1
    rw[<- h2];simp
   rw[q1,q2]
  ·rw[A.repL_len hvs |>.symm,<- h2,<- hks];simp
def jff (g:Nat) (m:A) (a:A):A:=match a with
 | .own j=>match Nat.beq j g with
  | true=>m
  | false => .own j
 | a=>a
def ja7 (g:Nat) (m:A):List (List A)->(List (List A)->Prop)->Prop
 | [],K=>K []
 | c :: l,K=>vM (jff g m) c fun c' => ja7 g m l fun r=>K (c' :: r)
theorem ja8 {g:Nat} {m:A} : ∀ {l:List (List A)} {K:List (List A)->Prop},ja7 g m l K ↔ K (l.map fun c=>c.map (jff g m))
 | [],K=>by simp[ja7]
 | c :: l,K=>by simp[ja7,j6,ja8 (l:=l)]
theorem jlh {E:Env} {g:Nat} {m a:A} {y v:Value} (hg:E.ρ[g]? = some v) (hm:m.rep E v) (h:a.rep E y):(jff g m a).rep E y:=by
 cases a with
 | own j =>
  unfold jff
  simp only
  split
  ·rename_i hb
   have:=Nat.eq_of_beq_eq_true hb
   subst this;unfold A.rep at h;rw[hg] at h
   cases h;exact hm
  ·exact h
 | _=>exact h
theorem oX {E:Env} {g:Nat} {m:A} {v:Value} (hg:E.ρ[g]? = some v) (hm:m.rep E v):∀ {l:List A} {us:List Value},A.repL l E us->A.repL (l.map (jff g m)) E us
 | [],us,h=>by simpa using h
 | a :: r,us,h=>by
  unfold A.repL at h
  obtain⟨u,us',rfl,h2,h3⟩ := h
  simp only[List.map_cons];unfold A.repL;exact⟨u,us',rfl,jlh hg hm h2,oX hg hm h3⟩
theorem oB:∀ {l:List A} {K:List Value->Prop},fR l K -> ∃ ks,K ks /\ ∀ (E:Env) us,A.repL l E us->us=ks /\ ∀ k ∈ ks,cF k
 | [],K,h=>⟨[],h,fun E us hr=>by unfold A.repL at hr;exact⟨hr,by simp⟩⟩
 | a :: l,K,h=>by
  unfold fR at h
  split at h
  ·rename_i x
   obtain⟨ks,h1,h2⟩ := oB h
   refine⟨x :: ks,h1,fun E us hr => ?_⟩;unfold A.repL at hr
   obtain⟨u,us',rfl,h3,h4⟩ := hr
   obtain⟨rfl,h5⟩ := h2 E _ h4
   obtain⟨rfl,h6⟩ := A.rep_v_iff.1 h3
   refine⟨rfl,fun k hk => ?_⟩
   rcases List.mem_cons.1 hk with rfl | hk
   ·exact h6
   ·exact h5 k hk
  ·exact h.elim
def jne (g:Nat) (rw:List Row) (K:A->List Row->Prop):Prop :=
 match rw[g]? with
 | some (.live _ z _ cs)=>match z with
  | 0=>match cs with
   | [.clo _ kA,.clo _ vs]=>fR kA fun ks=>gL rw g .gone fun rw' => K (.mp ks vs) rw'
   | _=>False
  | _+1=>False
 | _=>False
theorem jcL {c:Cx} {x:Code} {t:List A} {bx:List (List A)} {rw:List Row} {q:Exit->S->Prop} (g:Nat)
  (h:jne g rw fun m rw' => vM (jff g m) t fun t' => ja7 g m bx fun bx' => Ok c x ⟨t',bx',rw'⟩ q):Ok c x ⟨t,bx,rw⟩ q:=by
 unfold jne at h
 split at h
 ·rename_i e z n cs hg
  split at h
  ·split at h
   ·rename_i f kA f' vs
    obtain⟨ks,h,hks⟩ := oB h
    obtain⟨-,h⟩ := qX h
    rw[j6,ja8] at h;refine jnA ?_ h;rintro dr w0 C0 β0 a w hdr _ ⟨E,hp,hrep,hd⟩
    obtain⟨C',y,hy,hp',le,hm⟩ := hp.pubMap (s:=⟨t,bx,rw⟩) (ks:=ks) hg (hks E.per)
    refine⟨⟨C',E.β,E.ρ⟩,?_,oX (E:=⟨C',E.β,E.ρ⟩) hy hm (A.repL.mono _ le hrep),hd.mono le⟩;refine⟨hp'.sub,hp'.base,hp'.fresh,hp'.bp,hp'.bnd,hp'.bC,by simpa using hp'.bl,fun i b cs h1 h2 => ?_,hp'.rl,hp'.rws,hp'.rC,hp'.rd,hp'.rs,hp'.keep,hp'.gk⟩;rw[List.getElem?_map,Option.map_eq_some_iff] at h2
    obtain⟨c0,h2,rfl⟩ := h2
    obtain⟨T',arr,h3,h4⟩ := hp'.bxs i b c0 h1 h2
    refine⟨T',arr,h3,h4.map (jff g (.mp ks vs)) (fun l us k=>oX (E:=⟨C',E.β,E.ρ⟩) hy hm k) rfl (fun t=>rfl) fun a t e => ?_⟩;unfold jff at e
    split at e
    ·split at e <;> cases e
    ·exact e
   ·exact h.elim
  ·exact h.elim
 ·exact h.elim
theorem wP {P:Program} {pan:List PanicEntry->S->Prop} {Xr:Nat->Bool} {f:Nat} {args args0:List A} {s:S} {K:A->S->Prop} {post:List (List A)->Nat->List A->A->Prop} (i g m:Nat) (ids:List Nat) {e k n:Nat} {cs c1:List A} (hs:lO P f [c1] e k n cs args0 post) (hk:∀ o n1 cs1 r,post [o] n1 cs1 r->b9 [i] m s.bx [i] [o] fun bx1=>qW (backG [i] m r) fun r1=>jW ((jA s.rw ids).set g .gone++[.live e k n1 cs1]) fun rw1=>kC s bx1 rw1 (K r1)) (hm:s.rw.length=m:=by rfl) (hf:Xr 1000000007=true:=by rfl) (hX:Xr i=true:=by rfl) (hg:(jA s.rw ids)[g]? = some (.live e k n cs):=by rfl) (h1:(s.bx[i]?.bind fun c=>zC [i] g (jA s.rw ids) c)=some c1:=by rfl) (h2:zC [i] g (jA s.rw ids) args=some args0:=by rfl):z6 P pan Xr f args s K:=by
 obtain⟨c0,hi,h1⟩ := vqb h1
 exact jo4 i g m ids hm hf hX hi hg h1 h2 (fun _=>hs) hk
end
theorem cQ {f:Nat} {fn:Func} {x:Code} {ins:List (List A)} {e k n:Nat} {cs args:List A} {post:List (List A)->Nat->List A->A->Prop} (o:Nat->Tr) (xs:Nat->List Nat) (np:Nat) (hf:Tryz.prog.funcs[f]? = some fn) (hb:fn.body=some x) (h:vN args->yF args (fn.ntmps-args.length) fun t=>rA ⟨Tryz.prog,tab,o,xs,np,fun _ _=>False⟩ x ⟨t,ins,[.live e k n cs]⟩ (jm3 ⟨Tryz.prog,tab,o,xs,np,fun _ _=>False⟩ e k fn.results.toList post)) (h1:(fn.name == "runtime.NumGoroutine")=false:=by kernel_rfl) (h2:ins.length=np:=by rfl) (h3:zR o x=true:=by kernel_rfl):lO Tryz.prog f ins e k n cs args post:=ja4 (jY o xs np) (fun _ _ h=>h) hf hb h1 h2 h3 h
theorem jN (j:Nat) {K:Prop} (h:(j:Int)+1<=9223372036854775807) (k:K):(lo .i64<=(j:Int)+1/\(j:Int)+1<=hi .i64)/\K:=⟨jU ⟨by omega,h⟩,k⟩
@[irreducible] def mkA (l:List (Int × A)):List A:=l.map fun p => .v (.int .i64 p.1)
@[irreducible] def rT (l:List (Int × A)):List Value:=l.map fun p => .int .i64 p.1
@[irreducible] def lN (l:List (Int × A)):List A:=l.map (·.2)
theorem jmo:mkA []=[]:=by unfold mkA;rfl
theorem jmq:lN []=[]:=by unfold lN;rfl
theorem gD (l:List (Int × A)) {K:List Value->Prop} (h:K (rT l)):fR (mkA l) K:=by
 unfold rT at h;unfold mkA
 induction l generalizing K with
 | nil=>exact h
 | cons p l ih =>
  rw[List.map_cons]
  show fR (l.map _) fun r=>K (.int .i64 p.1 :: r)
  exact ih (K:=fun r=>K (.int .i64 p.1 :: r)) h
def kE (l:List (Int × A)) (k:Int):Option A:=(l.find? fun p=>decide (k=p.1)).map (·.2)
theorem zH (l:List (Int × A)) (k:Int) {K:A->Prop} {n:Prop} (h:match kE l k with | some a=>K a | none=>n):xP false (rT l) (lN l) (.int .i64 k) K n:=by
 unfold rT lN
 induction l with
 | nil=>exact h
 | cons p l ih =>
  rw[List.map_cons,List.map_cons]
  show ifK (decide (k=p.1)) (qW p.2 K) (xP false (l.map _) (l.map (·.2)) (.int .i64 k) K n)
  rw[ifK_iff]
  by_cases e:k=p.1
  ·refine⟨fun _ => ?_,fun e2=>by rw[jP e] at e2;cases e2⟩
   have:kE (p :: l) k=some p.2:=by unfold kE;rw[List.find?_cons_of_pos (by simpa using e)];rfl
   rw[this] at h;exact force_iff.2 h
  ·refine⟨fun e2=>absurd (of_decide_eq_true e2) e,fun _=>ih ?_⟩
   have:kE (p :: l) k=kE l k:=by unfold kE;rw[List.find?_cons_of_neg (by simpa using e)]
   rw[<- this];exact h
theorem jbf {l:List (Int × A)} {k:Int} {x:A} {n:Nat} {K:List A->List A->Nat->Prop} (hk:∀ p ∈ l,k ≠ p.1) (h:K (mkA (l++[(k,x)])) (lN (l++[(k,x)])) (n+1)):jfZ false (.int .i64 k) x (mkA l) (lN l) n K:=by
 unfold mkA lN at h;unfold mkA lN
 induction l generalizing K with
 | nil=>exact h
 | cons p l ih =>
  rw[List.map_cons,List.map_cons]
  show ifK (decide (k=p.1)) _ (jfZ false (.int .i64 k) x (l.map _) (l.map (·.2)) n fun ks' vs' n' => K (.v (.int .i64 p.1) :: ks') (p.2 :: vs') n')
  rw[ifK_iff];refine⟨fun e=>absurd (of_decide_eq_true e) (hk p List.mem_cons_self),fun _=>ih (K:=fun ks' vs' n' => K (.v (.int .i64 p.1) :: ks') (p.2 :: vs') n') (fun q hq=>hk q (List.mem_cons_of_mem _ hq)) h⟩
end Go.Proofs.YtfbifdccmabdbaaGreatDoor.Vm
namespace Go.Proofs.YtfbifdccmabdbaaGreatDoor
open Go.RowKit
def Asks (w:World) (c:FuncId) (cap:Array Value) (l:List Nd) (q:Nd->Bool):Prop :=
 (∀ args w',(callFunc c args).run Tryz.prog w' = .ok (.enter c args) w') ∧
 ∀ t ∈ l,∀ v w',Ext w w'->t.At w'.cell? v->Calls Tryz.prog c (#[v]++cap) w' (f9 w' (.bool (q t)))
theorem Asks.use {w:World} {c:FuncId} {cap:Array Value} {l:List Nd} {q:Nd->Bool} (h:Asks w c cap l q) (k:Nat) (hk:k<l.length) {v:Value} {w':World} (hx:Ext w w') (ht:l[k].At w'.cell? v) :
  Calls Tryz.prog c (#[v]++cap) w' (f9 w' (.bool (q l[k]))):=h.2 _ (List.getElem_mem hk) v w' hx ht
def wW (q:Nd->Bool) (l:List Nd):Int:=match l.findIdx? q with | some i=>(i:Int) | none => -1
theorem jk7 {q:Nd->Bool} {l:List Nd} {k:Nat} (hk:k<l.length) (h:∀ j (hj:j<k),q (l[j]'(by omega))=false) (hq:q l[k]=true):wW q l=(k:Int):=by
 have:l.findIdx? q=some k:=by
  rw[List.findIdx?_eq_some_iff_getElem];exact⟨hk,hq,fun j hj=>by simp[h j hj]⟩
 unfold wW;rw[this]
theorem jiq {q:Nd->Bool} {l:List Nd} (h:∀ j (hj:j<l.length),q l[j]=false):wW q l = -1:=by
 have:l.findIdx? q=none:=by
  rw[List.findIdx?_eq_none_iff];intro x hx
  obtain⟨j,hj,rfl⟩ := List.mem_iff_getElem.1 hx
  simp[h j hj]
 unfold wW;rw[this]
theorem je5 (q:Nd->Bool) (l:List Nd):decide (0<=wW q l)=l.any q:=by
 cases h:l.any q with
 | true =>
  unfold wW
  cases hf:l.findIdx? q with
  | some i=>simp
  | none =>
   rw[List.findIdx?_eq_none_iff] at hf
   obtain⟨x,hx,hq⟩ := List.any_eq_true.1 h
   rw[hf x hx] at hq;cases hq
 | false =>
  unfold wW
  cases hf:l.findIdx? q with
  | none=>simp
  | some i =>
   rw[List.findIdx?_eq_some_iff_getElem] at hf
   obtain⟨hi,hq,_⟩ := hf
   rw[List.any_eq_false] at h;exact absurd hq (h _ (List.getElem_mem hi))
theorem jmd (q:Nd->Bool) (l:List Nd) : -1<=wW q l/\wW q l<=l.length:=by
 unfold wW
 cases hf:l.findIdx? q with
 | none=>simp
 | some i =>
  rw[List.findIdx?_eq_some_iff_getElem] at hf
  obtain⟨hi,_⟩ := hf
  simp;omega
theorem jaA (l:List Nd) (sv:Value) (c:FuncId) (cap:Array Value) (w:World) (q:Nd->Bool) (hl:NdsAt w.cell? sv l) (hf:Asks w c cap l q) :
  Calls Tryz.prog 104 #[sv,.func (.func c) #[] cap] w (f9 w (.int .i64 (wW q l))):=by
 obtain⟨hl1,p,b,off,cp,rfl,hc,hp,hn,hin⟩ := hl
 have hcf:=hf.1
 go_enter Tryz.func104,Tryz.ntmps104
 go_wp2
 go_loopw [5,8] (fun _ i wr => ∃ k:Nat,k<=l.length/\i = .int .i64 k/\Ext w wr /\ ∀ j (hj:j<l.length),j<k->q l[j]=false) (fun _ i _=>l.length-(intOf i).toNat)
 case atStart=>exact⟨0,by omega,rfl,Ext.refl _,fun j hj h=>absurd h (by omega)⟩
 case round =>
  obtain⟨k,hk,rfl,hx,hno⟩ := hrel
  have HNO:Hid (∀ j (hj:j<l.length),j<k->q l[j]=false):=hno
  clear hno
  by_cases hlt:k<l.length
  ·obtain rfl:p=some ⟨b,off,none⟩ := by
    rcases hp with rfl | hp
    ·simp at hlt
    ·exact hp
   obtain⟨v0,v1,v2,v3,c0,c1,c2,c3,ht⟩ := Nd.In.get l off hin k hlt
   replace c0:=hx.c c0
   replace c1:=hx.c c1
   replace c2:=hx.c c2
   replace c3:=hx.c c3
   have ht2:=Nd.At.mono hx.sub _ _ ht
   have hcall:=Lib.hid (hf.use k hlt hx ht2)
   clear hin hp hn ht ht2
   obtain⟨qk,hqk⟩ : ∃ qk,qk=q l[k]:=⟨_,rfl⟩
   have HQ:Hid (qk=q l[k]):=hqk
   rw[<- hqk] at hcall;clear hqk
   cases qk with
   | true =>
    go_wp2_with (refine hcall.out.mono ?_;rintro e w2 ⟨rfl,hx2⟩)
    go_ret
    have:=jk7 hlt (fun j hj=>HNO.out j (by omega) hj) HQ.out.symm
    exact⟨by rw[this];rfl,hx.trans hx2⟩
   | false =>
    go_wp2_with (refine hcall.out.mono ?_;rintro e w2 ⟨rfl,hx2⟩)
    go_roundw
    case rel=>exact⟨k+1,by omega,by go_num,hx.trans hx2,fun j hj h=>by
     by_cases hjk:j=k
     ·subst hjk;exact HQ.out.symm
     ·exact HNO.out j hj (by omega)⟩
    case measure=>simp[intOf];omega
  ·have hkl:k=l.length:=by omega
   go_wp2
   go_ret
   exact⟨by rw[jiq (fun j hj=>HNO.out j hj (by omega))];rfl,hx⟩
theorem xC (l:List Nd) (sv:Value) (c:FuncId) (cap:Array Value) (w:World) (q:Nd->Bool) (hl:NdsAt w.cell? sv l) (hf:Asks w c cap l q) :
  Calls Tryz.prog 63 #[sv,.func (.func c) #[] cap] w (f9 w (.bool (l.any q))):=by
 have h0:=je5 q l
 have h1:=jmd q l
 obtain⟨n,hn⟩ : ∃ n,n=wW q l:=⟨_,rfl⟩
 have hcall:=Lib.hid (jaA l sv c cap w q hl hf)
 rw[<- hn] at hcall h0 h1
 obtain⟨h2,h3⟩ := h1
 have H0:=Lib.hid h0
 clear h0 hn
 go_enter Tryz.func63,Tryz.ntmps63
 go_wp2_with (go_at_call 104;refine hcall.out.mono ?_;rintro e w2 ⟨rfl,hx2⟩)
 go_ret
 exact⟨by rw[<- H0.out];rfl,hx2⟩
section
def MapAt (w:World) (r:Nat) (l:List (ByteArray × Value)):Prop :=
 ∃ es c,w.heap[r]? = some (.map es c)/\es.toList.map (fun e=>(e.key,e.val))=l.map (fun p=>(Value.string p.1,p.2))
def oF (l:List (ByteArray × Value)) (s:ByteArray):Option Value:=(l.find? (fun p=>s == p.1)).map (·.2)
theorem cR (s:ByteArray):∀ (es:List MapEntry) (l:List (ByteArray × Value)) (i:Nat),es.map (fun e=>(e.key,e.val))=l.map (fun p=>(Value.string p.1,p.2)) →
  ∃ r,Instr.findNow .string (.string s) es i=some r/\r.map (·.2)=oF l s
 | [],[],i,_=>⟨none,by simp[Instr.findNow],by simp[oF]⟩
 | [],_ :: _,_,h=>by simp at h
 | _ :: _,[],_,h=>by simp at h
 | e :: es,p :: l,i,h=>by
  simp only[List.map_cons,List.cons.injEq,Prod.mk.injEq] at h
  obtain⟨⟨h1,h2⟩,h3⟩ := h
  by_cases hs:s == p.1
  ·exact⟨some (i,e.val),by simp[Instr.findNow,Instr.sameNow,h1,hs],by simp[oF,hs,h2]⟩
  ·obtain⟨r,hr,hr2⟩ := cR s es l (i+1) h3
   refine⟨r,by simp[Instr.findNow,Instr.sameNow,h1,hs,hr],?_⟩;rw[hr2];simp[oF,hs]
section
variable {P:Program} {w:World} {T K E:TypeId} {r:Nat} {l:List (ByteArray × Value)} {s:ByteArray}
theorem lA {es:Array MapEntry} {c:Nat} (h:w.heap[r]? = some (.map es c)):(getObj r).run P w = .ok (.map es c) w:=by
 simp[getObj,Sem.run,h]
theorem jkT (hK:P.underlying K=some .string) (b:Bool) (n:Nat):(Instr.checkKey b (n+1) K (.string s)).run P w = .ok () w:=by
 simp[Instr.checkKey,run_underlying hK]
theorem u4 (hT:P.underlying T=some (.map K E)) (hK:P.underlying K=some .string) {z:Value} (hz:(zeroValue E).run P w = .ok z w) (h:MapAt w r l) :
  (Instr.lookup T (.map (some r)) (.string s) false).run P w = .ok ((oF l s).getD z) w:=by
 obtain⟨es,c,hr,hes⟩ := h
 obtain⟨x,hx,hx2⟩ := cR s es.toList l 0 hes
 have hc:∀ b,(Instr.checkKey b 10000 K (.string s)).run P w = .ok () w:=fun b=>jkT hK b 9999
 have hf:(Instr.findKey K (.string s) es.toList).run P w = .ok x w:=by simp[Instr.findKey,run_underlying hK,hx]
 rw[<- hx2]
 cases x with
 | none=>simp[Instr.lookup,run_underlying hT,lA hr,hc,hf,hz,Result.andThen]
 | some y=>obtain⟨j,y⟩ := y;simp[Instr.lookup,run_underlying hT,lA hr,hc,hf,Result.andThen]
theorem u5 (hT:P.underlying T=some (.map K E)) (hK:P.underlying K=some .string) (v:Value) (h:MapAt w r l) (hn:oF l s=none) :
  ∃ w',(Instr.mapUpdate T (.map (some r)) (.string s) v).run P w = .ok () w'/\w.grownBy w' (some r)/\MapAt w' r (l++[(s,v)]):=by
 obtain⟨es,c,hr,hes⟩ := h
 obtain⟨x,hx,hx2⟩ := cR s es.toList l 0 hes
 rw[hn] at hx2
 have hx0:x=none:=by cases x <;> simp_all
 subst hx0
 have hc:∀ b,(Instr.checkKey b 10000 K (.string s)).run P w = .ok () w:=fun b=>jkT hK b 9999
 have hf:(Instr.findKey K (.string s) es.toList).run P w = .ok none w:=by simp[Instr.findKey,run_underlying hK,hx]
 have hlt:r<w.heap.size:=(Array.getElem?_eq_some_iff.1 hr).1
 refine⟨{ w with heap:=w.heap.setIfInBounds r (.map (es.push { key := .string s,val:=v,born:=c }) (c+1)) },?_,⟨rfl,rfl,rfl,by simp,fun k hk hne => ?_⟩,es.push { key := .string s,val:=v,born:=c },c+1,by simp[hlt],?_⟩
 ·simp[Instr.mapUpdate,run_underlying hT,lA hr,hc,hf,Result.andThen,setObj,Sem.run,hr]
 ·have:r ≠ k:=fun e=>hne (by rw[e])
  simp[Array.getElem?_setIfInBounds_ne this]
 ·simp[hes]
theorem MapAt.ext {w':World} (h:MapAt w r l) (x:Ext w w'):MapAt w' r l:=by
 obtain⟨es,c,hr,hes⟩ := h
 exact⟨es,c,x.block hr,hes⟩
theorem MapAt.lt (h:MapAt w r l):r<w.heap.size:=by
 obtain⟨es,c,hr,hes⟩ := h
 exact (Array.getElem?_eq_some_iff.1 hr).1
theorem MapAt.made (w:World):MapAt (w.alloc (.map #[] 0)) w.heap.size []:=⟨#[],0,heap_alloc_new w _,by simp⟩
variable {o:Oper} {a:Act} {Kc:Act->World->Prop} {Q:Exit->Act->World->Prop}
theorem jaJ (m k x:Operand) (ho:o.op = .mapUpdate T m k x ∨ o.op = .insert T m k x) (hT:P.underlying T=some (.map K E)) (hK:P.underlying K=some .string) (v:Value)
  (hm:a.eval m = .map (some r)) (hk:a.eval k = .string s) (hx:a.eval x=v) (h:MapAt w r l) (hn:oF l s=none)
  (hc:∀ w',w.grownBy w' (some r)->MapAt w' r (l++[(s,v)])->Kc (a.put o.dst undef) w'):o.wp P a w Kc Q:=by
 obtain⟨w',hrun,hg,hM⟩ := u5 (P:=P) hT hK v h hn
 unfold Oper.wp
 rcases ho with ho | ho
 ·simp[execOp,ho,hm,hk,hx,hrun,Result.andThen]
  exact hc w' hg hM
 ·simp[execOp,ho,hm,hk,hx,hrun,Result.andThen]
  exact hc w' hg hM
theorem f0 (m k:Operand) (ho:o.op = .lookup T m k false) (hT:P.underlying T=some (.map K E)) (hK:P.underlying K=some .string) {z:Value} (hz:(zeroValue E).run P w = .ok z w)
  (hm:a.eval m = .map (some r)) (hk:a.eval k = .string s) (h:MapAt w r l) (hc:Kc (a.put o.dst ((oF l s).getD z)) w):o.wp P a w Kc Q:=by
 have hrun:=u4 (P:=P) (s:=s) hT hK hz h
 unfold Oper.wp
 simp[execOp,ho,hm,hk,hrun,Result.andThen]
 exact hc
variable {ops:Array Oper} {rest:List Oper}
theorem jL (hgd:o.guard=none) (m k x:Operand) (ho:o.op = .mapUpdate T m k x ∨ o.op = .insert T m k x) (hT:P.underlying T=some (.map K E)) (hK:P.underlying K=some .string) (v:Value)
  (hm:a.eval m = .map (some r)) (hk:a.eval k = .string s) (hx:a.eval x=v) (h:MapAt w r l) (hn:oF l s=none)
  (hc:∀ w',w.grownBy w' (some r)->MapAt w' r (l++[(s,v)])->wpList P ops Q rest (a.put o.dst undef) w'):wpList P ops Q (o :: rest) a w :=
 wpList_plain hgd fun _ hK' => jaJ m k x ho hT hK v hm hk hx h hn fun w' g M=>hK' _ _ (hc w' g M)
end
end
def sg (a b:Int):Value := .agg #[.int .i64 a,.int .i64 b]
def jqs:List (ByteArray × Value):=[(⟨#[45]⟩,sg 1 1),(⟨#[33]⟩,sg 2 2)]
def jqP:List (ByteArray × Value):=[(⟨#[38,38]⟩,sg 2 2),(⟨#[124,124]⟩,sg 2 2)]


def jiY (k:Nat):List (ByteArray × Value):=jqP++(opsA.take k).map (fun s=>(s,sg 1 1))
def jaI (k:Nat):List (ByteArray × Value):=jiY 4++(opsC.take k).map (fun s=>(s,sg 1 2))
def jl7 (b:Bool):List (ByteArray × Value):=if b then jaI 6 else jqs
def jnJ (l:List (ByteArray × Value)) (v:Value) (w:World):Prop := ∃ r,v = .map (some r)/\MapAt w r l
theorem jS:Tryz.prog.underlying 173=some (.map 9 172):=by kernel_rfl
theorem qM:Tryz.prog.underlying 9=some .string:=by kernel_rfl
theorem Ext.row {a b c:World} {r:Nat} (h:Ext a b) (g:b.grownBy c (some r)) (hr:a.heap.size<=r):Ext a c:=Below.grown h g (Below.size h) (by intro k hk;cases hk;exact hr)
theorem jiG (w:World):Calls Tryz.prog 139 #[.bool false] w (Ret w (jnJ jqs)):=by
 have hmm := @run_makeMap Tryz.prog
 have hM:=MapAt.made w
 have hE:Ext w (w.alloc (.map #[] 0)):=(Ext.refl w).alloc _
 go_enter Tryz.func139,Tryz.ntmps139
 go_wp2_with (first
  | (refine jL (r:=w.heap.size) (l:=[]) (s:=⟨#[45]⟩) rfl _ _ _ (.inr rfl) jS qM (sg 1 1) rfl rfl rfl hM (by decide +kernel) ?_;intro w2 hg hM2;replace hM:=hM2;clear hM2;replace hE:=hE.row hg (Nat.le_refl _);clear hg)
  | (refine jL (r:=w.heap.size) (l:=[(⟨#[45]⟩,sg 1 1)]) (s:=⟨#[33]⟩) rfl _ _ _ (.inr rfl) jS qM (sg 2 2) rfl rfl rfl hM (by decide +kernel) ?_;intro w2 hg hM2;replace hM:=hM2;clear hM2;replace hE:=hE.row hg (Nat.le_refl _);clear hg))
 go_ret
 exact⟨_,rfl,hE,_,rfl,hM⟩
theorem jky (w:World):Calls Tryz.prog 139 #[.bool true] w (Ret w (jnJ (jaI 6))):=by
 have hmm := @run_makeMap Tryz.prog
 have hM:=MapAt.made w
 have hE:Ext w (w.alloc (.map #[] 0)):=(Ext.refl w).alloc _
 go_enter Tryz.func139,Tryz.ntmps139
 go_wp2_with (first
  | (refine jL (r:=w.heap.size) (l:=[]) (s:=⟨#[38,38]⟩) rfl _ _ _ (.inr rfl) jS qM (sg 2 2) rfl rfl rfl hM (by decide +kernel) ?_;intro w2 hg hM2;replace hM:=hM2;clear hM2;replace hE:=hE.row hg (Nat.le_refl _);clear hg)
  | (refine jL (r:=w.heap.size) (l:=[(⟨#[38,38]⟩,sg 2 2)]) (s:=⟨#[124,124]⟩) rfl _ _ _ (.inr rfl) jS qM (sg 2 2) rfl rfl rfl hM (by decide +kernel) ?_;intro w2 hg hM2;replace hM:=hM2;clear hM2;replace hE:=hE.row hg (Nat.le_refl _);clear hg))
 have hlt2:=hM.lt
 have hB:=heap_alloc_new w2 (.cells #[.string ⟨#[43]⟩,.string ⟨#[45]⟩,.string ⟨#[42]⟩,.string ⟨#[47]⟩] 9)
 replace hM:=hM.ext ((Ext.refl w2).alloc (.cells #[.string ⟨#[43]⟩,.string ⟨#[45]⟩,.string ⟨#[42]⟩,.string ⟨#[47]⟩] 9))
 replace hE:=hE.alloc (.cells #[.string ⟨#[43]⟩,.string ⟨#[45]⟩,.string ⟨#[42]⟩,.string ⟨#[47]⟩] 9)
 go_loopw [20] (fun iv wr => ∃ k:Nat,k<=4/\iv = .int .i64 k/\Ext w wr/\wr.heap[w2.heap.size]? = some (.cells #[.string ⟨#[43]⟩,.string ⟨#[45]⟩,.string ⟨#[42]⟩,.string ⟨#[47]⟩] 9 (0,0))/\MapAt wr w.heap.size (jiY k)) (fun iv _=>4-(intOf iv).toNat)
 case atStart=>exact⟨0,by omega,rfl,hE,hB,hM⟩
 case round =>
  clear hM hE hB
  obtain⟨k,hk,rfl,hE,hB,hM⟩ := hrel
  by_cases hlt:k<4
  ·have hk4:k=0 ∨ k=1 ∨ k=2 ∨ k=3:=by omega
   clear hk hlt
   rcases hk4 with rfl | rfl | rfl | rfl
   ·have cS:wr.cell? ⟨w2.heap.size,0,none⟩ = some (.string ⟨#[43]⟩):=by simp[World.cell?,hB]
    go_wp2_with (refine jL (r:=w.heap.size) (l:=jiY 0) (s:=⟨#[43]⟩) rfl _ _ _ (.inl rfl) jS qM (sg 1 1) rfl rfl rfl hM (by decide +kernel) ?_;intro w3 hg hM2;have hB2:=(hg.block _ (Array.getElem?_eq_some_iff.1 hB).1 (by simp;omega)).trans hB;have hE2:=hE.row hg (Nat.le_refl _);clear hg)
    go_roundw
    case rel=>exact⟨1,by omega,rfl,hE2,hB2,hM2⟩
    case measure=>simp[intOf]
   ·have cS:wr.cell? ⟨w2.heap.size,1,none⟩ = some (.string ⟨#[45]⟩):=by simp[World.cell?,hB]
    go_wp2_with (refine jL (r:=w.heap.size) (l:=jiY 1) (s:=⟨#[45]⟩) rfl _ _ _ (.inl rfl) jS qM (sg 1 1) rfl rfl rfl hM (by decide +kernel) ?_;intro w3 hg hM2;have hB2:=(hg.block _ (Array.getElem?_eq_some_iff.1 hB).1 (by simp;omega)).trans hB;have hE2:=hE.row hg (Nat.le_refl _);clear hg)
    go_roundw
    case rel=>exact⟨2,by omega,rfl,hE2,hB2,hM2⟩
    case measure=>simp[intOf]
   ·have cS:wr.cell? ⟨w2.heap.size,2,none⟩ = some (.string ⟨#[42]⟩):=by simp[World.cell?,hB]
    go_wp2_with (refine jL (r:=w.heap.size) (l:=jiY 2) (s:=⟨#[42]⟩) rfl _ _ _ (.inl rfl) jS qM (sg 1 1) rfl rfl rfl hM (by decide +kernel) ?_;intro w3 hg hM2;have hB2:=(hg.block _ (Array.getElem?_eq_some_iff.1 hB).1 (by simp;omega)).trans hB;have hE2:=hE.row hg (Nat.le_refl _);clear hg)
    go_roundw
    case rel=>exact⟨3,by omega,rfl,hE2,hB2,hM2⟩
    case measure=>simp[intOf]
   ·have cS:wr.cell? ⟨w2.heap.size,3,none⟩ = some (.string ⟨#[47]⟩):=by simp[World.cell?,hB]
    go_wp2_with (refine jL (r:=w.heap.size) (l:=jiY 3) (s:=⟨#[47]⟩) rfl _ _ _ (.inl rfl) jS qM (sg 1 1) rfl rfl rfl hM (by decide +kernel) ?_;intro w3 hg hM2;have hB2:=(hg.block _ (Array.getElem?_eq_some_iff.1 hB).1 (by simp;omega)).trans hB;have hE2:=hE.row hg (Nat.le_refl _);clear hg)
    go_roundw
    case rel=>exact⟨4,by omega,rfl,hE2,hB2,hM2⟩
    case measure=>simp[intOf]
  ·obtain rfl:k=4:=by omega
   clear hk hlt hB
   obtain⟨wo,rfl⟩ : ∃ wo:World,wo=wr:=⟨_,rfl⟩
   go_wp2
   simp only[Int.cast_ofNat_Int]
   have hlt3:=hM.lt
   have hB:=heap_alloc_new wo (.cells #[.string ⟨#[60]⟩,.string ⟨#[60,61]⟩,.string ⟨#[62]⟩,.string ⟨#[62,61]⟩,.string ⟨#[61,61]⟩,.string ⟨#[33,61]⟩] 9)
   replace hM:=hM.ext ((Ext.refl wo).alloc (.cells #[.string ⟨#[60]⟩,.string ⟨#[60,61]⟩,.string ⟨#[62]⟩,.string ⟨#[62,61]⟩,.string ⟨#[61,61]⟩,.string ⟨#[33,61]⟩] 9))
   replace hE:=hE.alloc (.cells #[.string ⟨#[60]⟩,.string ⟨#[60,61]⟩,.string ⟨#[62]⟩,.string ⟨#[62,61]⟩,.string ⟨#[61,61]⟩,.string ⟨#[33,61]⟩] 9)
   have hM0:MapAt (wo.alloc (.cells #[.string ⟨#[60]⟩,.string ⟨#[60,61]⟩,.string ⟨#[62]⟩,.string ⟨#[62,61]⟩,.string ⟨#[61,61]⟩,.string ⟨#[33,61]⟩] 9)) w.heap.size (jaI 0):=hM
   clear hM
   go_loopw [30] (fun iv wr => ∃ k:Nat,k<=6/\iv = .int .i64 k/\Ext w wr/\wr.heap[wo.heap.size]? = some (.cells #[.string ⟨#[60]⟩,.string ⟨#[60,61]⟩,.string ⟨#[62]⟩,.string ⟨#[62,61]⟩,.string ⟨#[61,61]⟩,.string ⟨#[33,61]⟩] 9 (0,0))/\MapAt wr w.heap.size (jaI k)) (fun iv _=>6-(intOf iv).toNat)
   case atStart=>exact⟨0,by omega,rfl,hE,hB,hM0⟩
   case round =>
    clear hM0 hE hB
    obtain⟨k,hk,rfl,hE,hB,hM⟩ := hrel
    by_cases hlt:k<6
    ·have hk6:k=0 ∨ k=1 ∨ k=2 ∨ k=3 ∨ k=4 ∨ k=5:=by omega
     clear hk hlt
     rcases hk6 with rfl | rfl | rfl | rfl | rfl | rfl
     ·have cS:wr.cell? ⟨wo.heap.size,0,none⟩ = some (.string ⟨#[60]⟩):=by simp[World.cell?,hB]
      go_wp2_with (refine jL (r:=w.heap.size) (l:=jaI 0) (s:=⟨#[60]⟩) rfl _ _ _ (.inl rfl) jS qM (sg 1 2) rfl rfl rfl hM (by decide +kernel) ?_;intro w3 hg hM2;have hB2:=(hg.block _ (Array.getElem?_eq_some_iff.1 hB).1 (by simp;omega)).trans hB;have hE2:=hE.row hg (Nat.le_refl _);clear hg)
      go_roundw
      case rel=>exact⟨1,by omega,rfl,hE2,hB2,hM2⟩
      case measure=>simp[intOf]
     ·have cS:wr.cell? ⟨wo.heap.size,1,none⟩ = some (.string ⟨#[60,61]⟩):=by simp[World.cell?,hB]
      go_wp2_with (refine jL (r:=w.heap.size) (l:=jaI 1) (s:=⟨#[60,61]⟩) rfl _ _ _ (.inl rfl) jS qM (sg 1 2) rfl rfl rfl hM (by decide +kernel) ?_;intro w3 hg hM2;have hB2:=(hg.block _ (Array.getElem?_eq_some_iff.1 hB).1 (by simp;omega)).trans hB;have hE2:=hE.row hg (Nat.le_refl _);clear hg)
      go_roundw
      case rel=>exact⟨2,by omega,rfl,hE2,hB2,hM2⟩
      case measure=>simp[intOf]
     ·have cS:wr.cell? ⟨wo.heap.size,2,none⟩ = some (.string ⟨#[62]⟩):=by simp[World.cell?,hB]
      go_wp2_with (refine jL (r:=w.heap.size) (l:=jaI 2) (s:=⟨#[62]⟩) rfl _ _ _ (.inl rfl) jS qM (sg 1 2) rfl rfl rfl hM (by decide +kernel) ?_;intro w3 hg hM2;have hB2:=(hg.block _ (Array.getElem?_eq_some_iff.1 hB).1 (by simp;omega)).trans hB;have hE2:=hE.row hg (Nat.le_refl _);clear hg)
      go_roundw
      case rel=>exact⟨3,by omega,rfl,hE2,hB2,hM2⟩
      case measure=>simp[intOf]
     ·have cS:wr.cell? ⟨wo.heap.size,3,none⟩ = some (.string ⟨#[62,61]⟩):=by simp[World.cell?,hB]
      go_wp2_with (refine jL (r:=w.heap.size) (l:=jaI 3) (s:=⟨#[62,61]⟩) rfl _ _ _ (.inl rfl) jS qM (sg 1 2) rfl rfl rfl hM (by decide +kernel) ?_;intro w3 hg hM2;have hB2:=(hg.block _ (Array.getElem?_eq_some_iff.1 hB).1 (by simp;omega)).trans hB;have hE2:=hE.row hg (Nat.le_refl _);clear hg)
      go_roundw
      case rel=>exact⟨4,by omega,rfl,hE2,hB2,hM2⟩
      case measure=>simp[intOf]
     ·have cS:wr.cell? ⟨wo.heap.size,4,none⟩ = some (.string ⟨#[61,61]⟩):=by simp[World.cell?,hB]
      go_wp2_with (refine jL (r:=w.heap.size) (l:=jaI 4) (s:=⟨#[61,61]⟩) rfl _ _ _ (.inl rfl) jS qM (sg 1 2) rfl rfl rfl hM (by decide +kernel) ?_;intro w3 hg hM2;have hB2:=(hg.block _ (Array.getElem?_eq_some_iff.1 hB).1 (by simp;omega)).trans hB;have hE2:=hE.row hg (Nat.le_refl _);clear hg)
      go_roundw
      case rel=>exact⟨5,by omega,rfl,hE2,hB2,hM2⟩
      case measure=>simp[intOf]
     ·have cS:wr.cell? ⟨wo.heap.size,5,none⟩ = some (.string ⟨#[33,61]⟩):=by simp[World.cell?,hB]
      go_wp2_with (refine jL (r:=w.heap.size) (l:=jaI 5) (s:=⟨#[33,61]⟩) rfl _ _ _ (.inl rfl) jS qM (sg 1 2) rfl rfl rfl hM (by decide +kernel) ?_;intro w3 hg hM2;have hB2:=(hg.block _ (Array.getElem?_eq_some_iff.1 hB).1 (by simp;omega)).trans hB;have hE2:=hE.row hg (Nat.le_refl _);clear hg)
      go_roundw
      case rel=>exact⟨6,by omega,rfl,hE2,hB2,hM2⟩
      case measure=>simp[intOf]
    ·obtain rfl:k=6:=by omega
     go_wp2
     go_ret
     exact⟨_,rfl,hE,_,rfl,hM⟩
theorem xR (b:Bool) (w:World):Calls Tryz.prog 139 #[.bool b] w (Ret w (jnJ (jl7 b))):=by
 cases b
 ·exact jiG w
 ·exact jky w
def jkF (b:Bool):List (ByteArray × Int × Int) :=
 if b then [(⟨#[38,38]⟩,2,2),(⟨#[124,124]⟩,2,2),(⟨#[43]⟩,1,1),(⟨#[45]⟩,1,1),(⟨#[42]⟩,1,1),(⟨#[47]⟩,1,1),(⟨#[60]⟩,1,2),(⟨#[60,61]⟩,1,2),(⟨#[62]⟩,1,2),(⟨#[62,61]⟩,1,2),(⟨#[61,61]⟩,1,2),(⟨#[33,61]⟩,1,2)]
 else [(⟨#[45]⟩,1,1),(⟨#[33]⟩,2,2)]
def cG (b:Bool) (s:ByteArray):Int × Int:=(((jkF b).find? (fun p=>s == p.1)).map (·.2)).getD (0,0)
theorem jgJ (b:Bool):jl7 b=(jkF b).map (fun p=>(p.1,sg p.2.1 p.2.2)):=by cases b <;> rfl
theorem jbp (b:Bool) (s:ByteArray):(oF (jl7 b) s).getD (sg 0 0)=sg (cG b s).1 (cG b s).2:=by
 rw[jgJ];unfold cG oF;generalize jkF b=l
 induction l with
 | nil=>rfl
 | cons p l ih =>
  by_cases h:s == p.1
  ·simp[h]
  ·simp only[List.map_cons,List.find?_cons,h];exact ih
mutual
def wX:Nd->Int
 | .mk k _ s kids =>
  if k=13 then 2 else if k=12 ∨ k=14 ∨ k=15 then 1
  else if k=17 ∨ k=18 then (if kF (cG (k == 18) s).1 kids then 0 else (cG (k == 18) s).2)
  else if k=16 then (if kF 1 kids then 0 else 1) else 0
def kF (t:Int):List Nd->Bool
 | []=>false
 | x :: xs=>(wX x != t) || kF t xs
end
theorem uH (t:Int) (l:List Nd):kF t l=l.any (fun x=>wX x != t):=by
 induction l with
 | nil=>simp[kF]
 | cons x xs ih=>simp[kF,ih]
def TypeOfC (t:Nd):Prop := ∀ v w,t.At w.cell? v->Calls Tryz.prog 106 #[v] w (f9 w (.int .i64 (wX t)))
theorem TypeOfC.use {t:Nd} (h:TypeOfC t) {v:Value} {w:World} (ht:t.At w.cell? v):Calls Tryz.prog 106 #[v] w (f9 w (.int .i64 (wX t))):=h v w ht
theorem jkn (w:World) (a b c d:Value) (T:TypeId):(w.alloc (.cells #[a,b,c,d] T)).heap[w.heap.size]? = some (.cells #[a,b,c,d] T (0,0)):=heap_alloc_new w _
theorem jjl (x:Nd) (ih:TypeOfC x) (v:Value) (p:Addr) (t:Int) (w:World) (hv:x.At w.cell? v) (hc:w.cell? p=some (.int .i64 t)) :
  Calls Tryz.prog 140 #[v,.pointer (some p)] w (f9 w (.bool (wX x != t))):=by
 have IH:Hid (TypeOfC x):=ih
 have hA:=hv
 obtain⟨kv,rfl,-⟩ := hv.parts
 have hne:p.block<w.heap.size:=World.block_lt_of_cell? w p hc
 have hA1:Hid (x.At (w.alloc (.cells #[.int .i64 x.k,.int .i64 x.n,.string x.s,kv] 65)).cell? (.agg #[.int .i64 x.k,.int .i64 x.n,.string x.s,kv])):=Nd.At.mono (((Ext.refl w).alloc _).sub) _ _ hA
 obtain⟨c0,c1,c2,c3,-⟩ := mX (jkn w (.int .i64 x.k) (.int .i64 x.n) (.string x.s) kv 65)
 have hcp:=((Ext.refl w).alloc (.cells #[.int .i64 x.k,.int .i64 x.n,.string x.s,kv] 65)).c hc
 obtain⟨ty,hty⟩ : ∃ ty,ty=wX x:=⟨_,rfl⟩
 have HT:Hid (ty=wX x):=hty
 clear ih hA hty hc hv
 go_enter Tryz.func140,Tryz.ntmps140
 go_wp2_with fail
 refine nG (fun w' => w'.cell? ⟨w.heap.size,0,none⟩ = some (.int .i64 x.k)/\w'.cell? ⟨w.heap.size,1,none⟩ = some (.int .i64 x.n)/\w'.cell? ⟨w.heap.size,2,none⟩ = some (.string x.s)/\w'.cell? ⟨w.heap.size,3,none⟩ = some kv/\w'.cell? p=some (.int .i64 t)) [(0,0),(2,0),(1,1),(3,3),(4,3)] (by kernel_rfl) (by kernel_rfl) ?_ (fun hS => ?_)
 ·first | go_keep | exact⟨hx2.c c0,hx2.c c1,hx2.c c2,hx2.c c3,hx2.c hcp⟩
 refine n9 rfl hS (by rfl) ?_
 apply Exists.intro
 refine⟨fun w0 hS0 => ?_,?_⟩
 ·(try dsimp only at hS0);go_simp;try with_reducible rfl
 simp only[List.getElem_toArray,List.getElem_cons_zero,List.getElem_cons_succ,Act.put,List.setIfInBounds_toArray,List.set_cons_zero,List.set_cons_succ];refine n9 rfl hS (by rfl) ?_
 apply Exists.intro
 refine⟨fun w0 hS0 => ?_,?_⟩
 ·(try dsimp only at hS0);go_simp;try with_reducible rfl
 simp only[List.getElem_toArray,List.getElem_cons_zero,List.getElem_cons_succ,Act.put,List.setIfInBounds_toArray,List.set_cons_zero,List.set_cons_succ];refine aA rfl (fun K hK => ?_);rw[if_pos (by rfl)]
 go_wp2_with (first
  | (go_at_call 106;refine (IH.out.use (Nd.At.mono (((Ext.refl _).drew).sub) _ _ hA1.out)).mono ?_;rintro e w2 ⟨rfl,hx2⟩;rw[<- HT.out]))
 refine cK (by first | go_keep | exact⟨hx2.c c0,hx2.c c1,hx2.c c2,hx2.c c3,hx2.c hcp⟩) (fun hS => ?_);refine x5 rfl (by rfl) ?_
 apply Exists.intro
 refine⟨fun w0 => ?_,?_⟩
 ·go_simp;try with_reducible rfl
 simp only[List.getElem_toArray,List.getElem_cons_zero,List.getElem_cons_succ,Act.put,List.setIfInBounds_toArray,List.set_cons_zero,List.set_cons_succ];refine x5 rfl (by rfl) ?_
 apply Exists.intro
 refine⟨fun w0 => ?_,?_⟩
 ·go_simp;try with_reducible rfl
 simp only[List.getElem_toArray,List.getElem_cons_zero,List.getElem_cons_succ,Act.put,List.setIfInBounds_toArray,List.set_cons_zero,List.set_cons_succ];refine jd5 ?_
 go_wp2
 go_ret
 exact⟨by rw[<- HT.out];rfl,(((Ext.refl w).alloc _).drew).trans hx2⟩
theorem jlS (l:List Nd) (sv:Value) (t:Int) (w:World) (hl:NdsAt w.cell? sv l) (ih:∀ x ∈ l,TypeOfC x) :
  Calls Tryz.prog 107 #[sv,.int .i64 t] w (f9 w (.bool (!kF t l))):=by
 have x0:Ext w (w.alloc (.cells #[.int .i64 t] 148)):=(Ext.refl w).alloc _
 have hc:(w.alloc (.cells #[.int .i64 t] 148)).cell? ⟨w.heap.size,0,none⟩ = some (.int .i64 t):=jdD w [.int .i64 t] _ 0 _ rfl
 have hasks:Asks (w.alloc (.cells #[.int .i64 t] 148)) 140 #[.pointer (some ⟨w.heap.size,0,none⟩)] l (fun x=>wX x != t) :=
  ⟨fun _ _=>rfl,fun x hx v w' hx' hA=>jjl x (ih x hx) v ⟨w.heap.size,0,none⟩ t w' hA (hx'.c hc)⟩
 have hcall:=Lib.hid (xC l sv _ _ _ _ (hl.mono x0.sub) hasks)
 rw[<- uH] at hcall
 obtain⟨q,hq⟩ : ∃ q,q=kF t l:=⟨_,rfl⟩
 rw[<- hq] at hcall ⊢;clear hq hasks hc ih hl
 go_enter Tryz.func107,Tryz.ntmps107
 go_wp2_with (go_at_call 63;refine hcall.out.mono ?_;rintro e w2 ⟨rfl,hx2⟩)
 go_ret
 exact⟨rfl,x0.trans hx2⟩
theorem jfx (w:World):(zeroValue 172).run Tryz.prog w = .ok (sg 0 0) w:=by kernel_rfl
theorem joA (w:World) (a b:Value) (T:TypeId):(w.alloc (.cells #[a,b] T)).heap[w.heap.size]? = some (.cells #[a,b] T (0,0)):=heap_alloc_new w _
theorem iG {w:World} {R:Nat} {a b:Value} {T:TypeId} (h:w.heap[R]? = some (.cells #[a,b] T (0,0))) :
  w.cell? ⟨R,0,none⟩ = some a/\w.cell? ⟨R,1,none⟩ = some b/\w.frozen? ⟨R,0,none⟩ = false/\w.frozen? ⟨R,1,none⟩ = false:=by
 simp[World.cell?,World.frozen?,h]
theorem jlR {l:List Nd} {sv:Value} {w wk:World} (hl:NdsAt w.cell? sv l) (ih:∀ x ∈ l,TypeOfC x) (t:Int) {q:Bool} (hq:q=kF t l) (hE:Ext w wk) :
  Calls Tryz.prog 107 #[sv,.int .i64 t] wk (f9 wk (.bool (!q))):=by
 rw[hq];exact jlS l sv t wk (hl.mono hE.sub) ih
theorem jfo (k n:Int) (s:ByteArray) (l:List Nd) (hk:k=12 ∨ k=13 ∨ k=14 ∨ k=15):TypeOfC (.mk k n s l):=by
 intro v w ht
 obtain⟨kv,rfl,-⟩ := ht.parts
 clear ht
 rcases hk with rfl | rfl | rfl | rfl
 all_goals
  go_enter Tryz.func106,Tryz.ntmps106
  go_wp2
  go_ret
  exact⟨rfl,((Ext.refl w).alloc _).alloc _⟩
theorem jda (k n:Int) (s:ByteArray) (l:List Nd) (hk:k ≠ 12/\k ≠ 13/\k ≠ 14/\k ≠ 15/\k ≠ 16/\k ≠ 17/\k ≠ 18):TypeOfC (.mk k n s l):=by
 intro v w ht
 obtain⟨kv,rfl,-⟩ := ht.parts
 clear ht;simp only[Nd.k]
 obtain⟨h1,h2,h3,h4,h5,h6,h7⟩ := hk
 have e:wX (.mk k n s l)=0:=by simp[wX,h1,h2,h3,h4,h5,h6,h7]
 rw[e]
 go_enter Tryz.func106,Tryz.ntmps106
 go_wp2
 go_ret
 exact⟨rfl,((Ext.refl w).alloc _).alloc _⟩
theorem jfn (n:Int) (s:ByteArray) (l:List Nd) (ih:∀ x ∈ l,TypeOfC x):TypeOfC (.mk 16 n s l):=by
 intro v w ht
 obtain⟨kv,rfl,-,-,-,hl⟩ := ht.parts
 simp only[Nd.k,Nd.n,Nd.s,Nd.kids] at *
 obtain⟨q,hq⟩ : ∃ q,q=kF 1 l:=⟨_,rfl⟩
 have e:wX (.mk 16 n s l)=if q then 0 else 1:=by simp[wX,hq]
 have hcall:=fun (wk:World) (hE:Ext w wk)=>jlR hl ih 1 hq hE
 have HC:=Lib.hid hcall
 rw[e];clear e hq hl ht ih hcall
 have hE:=((Ext.refl w).alloc (.cells #[.int .i64 16,.int .i64 n,.string s,kv] 65)).alloc (.cells #[.int .i64 1,.int .i64 1] 172)
 have hV:=joA (w.alloc (.cells #[.int .i64 16,.int .i64 n,.string s,kv] 65)) (.int .i64 1) (.int .i64 1) 172
 simp only[World.size_alloc] at hV
 cases q
 all_goals
  go_enter Tryz.func106,Tryz.ntmps106
  go_wp2_with (go_at_call 107;refine (HC.out _ hE).mono ?_;rintro e w2 ⟨rfl,hx2⟩;obtain⟨cV0,cV1,fV0,fV1⟩ := iG (Ext.block hx2 hV))
  go_ret
  exact⟨rfl,hE.trans hx2⟩
theorem jfp (n:Int) (s:ByteArray) (l:List Nd) (ih:∀ x ∈ l,TypeOfC x):TypeOfC (.mk 17 n s l):=by
 intro v w ht
 obtain⟨kv,rfl,-,-,-,hl⟩ := ht.parts
 simp only[Nd.k,Nd.n,Nd.s,Nd.kids] at *
 obtain⟨o1,ho1⟩ : ∃ o1,o1=(cG false s).1:=⟨_,rfl⟩
 obtain⟨o2,ho2⟩ : ∃ o2,o2=(cG false s).2:=⟨_,rfl⟩
 obtain⟨q,hq⟩ : ∃ q,q=kF o1 l:=⟨_,rfl⟩
 have e:wX (.mk 17 n s l)=if q then 0 else o2:=by
  simp[wX,hq,ho1,ho2]
 have hlk:(oF (jl7 false) s).getD (sg 0 0) = .agg #[.int .i64 o1,.int .i64 o2]:=by rw[jbp,ho1,ho2];rfl
 have HL:=Lib.hid hlk
 have hcall:=fun (wk:World) (hE:Ext w wk)=>jlR hl ih o1 hq hE
 have HC:=Lib.hid hcall
 rw[e];clear e hq hl ht ih hcall ho1 ho2 hlk
 have hE:=((Ext.refl w).alloc (.cells #[.int .i64 17,.int .i64 n,.string s,kv] 65)).alloc (.cells #[.int .i64 1,.int .i64 1] 172)
 have hB:=Ext.block ((Ext.refl _).alloc (.cells #[.int .i64 1,.int .i64 1] 172)) (jkn w (.int .i64 17) (.int .i64 n) (.string s) kv 65)
 have hV:=joA (w.alloc (.cells #[.int .i64 17,.int .i64 n,.string s,kv] 65)) (.int .i64 1) (.int .i64 1) 172
 simp only[World.size_alloc] at hV
 cases q
 all_goals
  obtain⟨c0,c1,c2,c3,-⟩ := mX hB
  go_enter Tryz.func106,Tryz.ntmps106
  go_wp2_with fail
  refine nG (fun w' => w'.cell? ⟨w.heap.size,0,none⟩ = some (.int .i64 17)/\w'.cell? ⟨w.heap.size,2,none⟩ = some (.string s)) [(0,3),(1,0),(2,3),(4,3),(5,0),(3,1),(6,1),(7,2)] (by kernel_rfl) (by kernel_rfl) ?_ (fun hS => ?_)
  ·first | go_keep | exact⟨hx2.c c0,hx2.c c2⟩
  refine x5 rfl (by rfl) ?_
  apply Exists.intro
  refine⟨fun w0 => ?_,?_⟩
  ·go_simp;try with_reducible rfl
  simp only[List.getElem_toArray,List.getElem_cons_zero,List.getElem_cons_succ,Act.put,List.setIfInBounds_toArray,List.set_cons_zero,List.set_cons_succ];refine n9 rfl hS (by rfl) ?_
  apply Exists.intro
  refine⟨fun w0 hS0 => ?_,?_⟩
  ·(try dsimp only at hS0);go_simp;try with_reducible rfl
  simp only[List.getElem_toArray,List.getElem_cons_zero,List.getElem_cons_succ,Act.put,List.setIfInBounds_toArray,List.set_cons_zero,List.set_cons_succ];refine x5 rfl (by rfl) ?_
  apply Exists.intro
  refine⟨fun w0 => ?_,?_⟩
  ·go_simp;try with_reducible rfl
  simp only[List.getElem_toArray,List.getElem_cons_zero,List.getElem_cons_succ,Act.put,List.setIfInBounds_toArray,List.set_cons_zero,List.set_cons_succ];refine x5 rfl (by rfl) ?_
  apply Exists.intro
  refine⟨fun w0 => ?_,?_⟩
  ·go_simp;try with_reducible rfl
  simp only[List.getElem_toArray,List.getElem_cons_zero,List.getElem_cons_succ,Act.put,List.setIfInBounds_toArray,List.set_cons_zero,List.set_cons_succ];refine n9 rfl hS (by rfl) ?_
  apply Exists.intro
  refine⟨fun w0 hS0 => ?_,?_⟩
  ·(try dsimp only at hS0);go_simp;try with_reducible rfl
  simp only[List.getElem_toArray,List.getElem_cons_zero,List.getElem_cons_succ,Act.put,List.setIfInBounds_toArray,List.set_cons_zero,List.set_cons_succ];refine aA rfl (fun K hK => ?_);rw[if_pos (by rfl)]
  go_wp2_with (first
   | (go_at_call 139;refine (xR _ _).mono ?_;rintro e w2 ⟨v,rfl,hx2,r,rfl,hM⟩;have hV2:=Ext.block hx2 hV;obtain⟨cV0,cV1,fV0,fV1⟩ := iG hV2))
  refine cK (by first | go_keep | exact⟨hx2.c c0,hx2.c c2⟩) (fun hS => ?_);refine aA rfl (fun K hK => ?_);rw[if_pos (by rfl)];refine f0 (r:=r) _ _ (by rfl) jS qM (jfx _) (by rfl) (by rfl) hM ?_;rw[HL.out];refine hK _ _ ?_;refine cK (by first | go_keep | exact⟨hx2.c c0,hx2.c c2⟩) (fun hS => ?_);refine jbQ rfl (fun K hK => ?_);rw[if_pos (by rfl)]
  go_wp2_with (first
   | (go_at_call 139;refine (xR _ _).mono ?_;rintro e w2 ⟨v,rfl,hx2,r,rfl,hM⟩;have hV2:=Ext.block hx2 hV;obtain⟨cV0,cV1,fV0,fV1⟩ := iG hV2))
  refine jd5 ?_
  have hE3:=((hE.drew.trans hx2).row (yE w2 (w.heap.size+1) 0 (.int .i64 o1)) (by omega)).row (yE _ (w.heap.size+1) 1 (.int .i64 o2)) (by omega)
  have hV3:=fF (fF hV2 0 (.int .i64 o1)) 1 (.int .i64 o2)
  have hKids:=hx2.c c3
  have hKids3:=(yE (w2.setCell ⟨w.heap.size+1,0,none⟩ (.int .i64 o1)) (w.heap.size+1) 1 (.int .i64 o2)).cell ((yE w2 (w.heap.size+1) 0 (.int .i64 o1)).cell hKids (by simp)) (by simp)
  obtain⟨cW0,cW1,fW0,fW1⟩ := iG hV3
  clear hS hV hV2 hx2 hM hKids cV0 cV1 fV0 fV1 c0 c1 c2 c3 hB hE
  go_wp2_with (go_at_call 107;refine (HC.out _ hE3).mono ?_;rintro e w4 ⟨rfl,hx4⟩;have cX1:=hx4.c cW1)
  go_ret
  exact⟨rfl,hE3.trans hx4⟩
theorem jfq (n:Int) (s:ByteArray) (l:List Nd) (ih:∀ x ∈ l,TypeOfC x):TypeOfC (.mk 18 n s l):=by
 intro v w ht
 obtain⟨kv,rfl,-,-,-,hl⟩ := ht.parts
 simp only[Nd.k,Nd.n,Nd.s,Nd.kids] at *
 obtain⟨o1,ho1⟩ : ∃ o1,o1=(cG true s).1:=⟨_,rfl⟩
 obtain⟨o2,ho2⟩ : ∃ o2,o2=(cG true s).2:=⟨_,rfl⟩
 obtain⟨q,hq⟩ : ∃ q,q=kF o1 l:=⟨_,rfl⟩
 have e:wX (.mk 18 n s l)=if q then 0 else o2:=by
  simp[wX,hq,ho1,ho2]
 have hlk:(oF (jl7 true) s).getD (sg 0 0) = .agg #[.int .i64 o1,.int .i64 o2]:=by rw[jbp,ho1,ho2];rfl
 have HL:=Lib.hid hlk
 have hcall:=fun (wk:World) (hE:Ext w wk)=>jlR hl ih o1 hq hE
 have HC:=Lib.hid hcall
 rw[e];clear e hq hl ht ih hcall ho1 ho2 hlk
 have hE:=((Ext.refl w).alloc (.cells #[.int .i64 18,.int .i64 n,.string s,kv] 65)).alloc (.cells #[.int .i64 1,.int .i64 1] 172)
 have hB:=Ext.block ((Ext.refl _).alloc (.cells #[.int .i64 1,.int .i64 1] 172)) (jkn w (.int .i64 18) (.int .i64 n) (.string s) kv 65)
 have hV:=joA (w.alloc (.cells #[.int .i64 18,.int .i64 n,.string s,kv] 65)) (.int .i64 1) (.int .i64 1) 172
 simp only[World.size_alloc] at hV
 cases q
 all_goals
  obtain⟨c0,c1,c2,c3,-⟩ := mX hB
  go_enter Tryz.func106,Tryz.ntmps106
  go_wp2_with fail
  refine nG (fun w' => w'.cell? ⟨w.heap.size,0,none⟩ = some (.int .i64 18)/\w'.cell? ⟨w.heap.size,2,none⟩ = some (.string s)) [(0,3),(1,0),(2,3),(4,3),(5,0),(3,1),(6,1),(7,2)] (by kernel_rfl) (by kernel_rfl) ?_ (fun hS => ?_)
  ·first | go_keep | exact⟨hx2.c c0,hx2.c c2⟩
  refine x5 rfl (by rfl) ?_
  apply Exists.intro
  refine⟨fun w0 => ?_,?_⟩
  ·go_simp;try with_reducible rfl
  simp only[List.getElem_toArray,List.getElem_cons_zero,List.getElem_cons_succ,Act.put,List.setIfInBounds_toArray,List.set_cons_zero,List.set_cons_succ];refine n9 rfl hS (by rfl) ?_
  apply Exists.intro
  refine⟨fun w0 hS0 => ?_,?_⟩
  ·(try dsimp only at hS0);go_simp;try with_reducible rfl
  simp only[List.getElem_toArray,List.getElem_cons_zero,List.getElem_cons_succ,Act.put,List.setIfInBounds_toArray,List.set_cons_zero,List.set_cons_succ];refine x5 rfl (by rfl) ?_
  apply Exists.intro
  refine⟨fun w0 => ?_,?_⟩
  ·go_simp;try with_reducible rfl
  simp only[List.getElem_toArray,List.getElem_cons_zero,List.getElem_cons_succ,Act.put,List.setIfInBounds_toArray,List.set_cons_zero,List.set_cons_succ];refine x5 rfl (by rfl) ?_
  apply Exists.intro
  refine⟨fun w0 => ?_,?_⟩
  ·go_simp;try with_reducible rfl
  simp only[List.getElem_toArray,List.getElem_cons_zero,List.getElem_cons_succ,Act.put,List.setIfInBounds_toArray,List.set_cons_zero,List.set_cons_succ];refine n9 rfl hS (by rfl) ?_
  apply Exists.intro
  refine⟨fun w0 hS0 => ?_,?_⟩
  ·(try dsimp only at hS0);go_simp;try with_reducible rfl
  simp only[List.getElem_toArray,List.getElem_cons_zero,List.getElem_cons_succ,Act.put,List.setIfInBounds_toArray,List.set_cons_zero,List.set_cons_succ];refine aA rfl (fun K hK => ?_);rw[if_pos (by rfl)]
  go_wp2_with (first
   | (go_at_call 139;refine (xR _ _).mono ?_;rintro e w2 ⟨v,rfl,hx2,r,rfl,hM⟩;have hV2:=Ext.block hx2 hV;obtain⟨cV0,cV1,fV0,fV1⟩ := iG hV2))
  refine cK (by first | go_keep | exact⟨hx2.c c0,hx2.c c2⟩) (fun hS => ?_);refine aA rfl (fun K hK => ?_);rw[if_pos (by rfl)];refine f0 (r:=r) _ _ (by rfl) jS qM (jfx _) (by rfl) (by rfl) hM ?_;rw[HL.out];refine hK _ _ ?_;refine cK (by first | go_keep | exact⟨hx2.c c0,hx2.c c2⟩) (fun hS => ?_);refine jbQ rfl (fun K hK => ?_);rw[if_pos (by rfl)]
  go_wp2_with (first
   | (go_at_call 139;refine (xR _ _).mono ?_;rintro e w2 ⟨v,rfl,hx2,r,rfl,hM⟩;have hV2:=Ext.block hx2 hV;obtain⟨cV0,cV1,fV0,fV1⟩ := iG hV2))
  refine jd5 ?_
  have hE3:=((hE.drew.trans hx2).row (yE w2 (w.heap.size+1) 0 (.int .i64 o1)) (by omega)).row (yE _ (w.heap.size+1) 1 (.int .i64 o2)) (by omega)
  have hV3:=fF (fF hV2 0 (.int .i64 o1)) 1 (.int .i64 o2)
  have hKids:=hx2.c c3
  have hKids3:=(yE (w2.setCell ⟨w.heap.size+1,0,none⟩ (.int .i64 o1)) (w.heap.size+1) 1 (.int .i64 o2)).cell ((yE w2 (w.heap.size+1) 0 (.int .i64 o1)).cell hKids (by simp)) (by simp)
  obtain⟨cW0,cW1,fW0,fW1⟩ := iG hV3
  clear hS hV hV2 hx2 hM hKids cV0 cV1 fV0 fV1 c0 c1 c2 c3 hB hE
  go_wp2_with (go_at_call 107;refine (HC.out _ hE3).mono ?_;rintro e w4 ⟨rfl,hx4⟩;have cX1:=hx4.c cW1)
  go_ret
  exact⟨rfl,hE3.trans hx4⟩
mutual
theorem jah:∀ t:Nd,TypeOfC t
 | .mk k n s l=>by
  have ih:=lG l
  by_cases h1:k=12 ∨ k=13 ∨ k=14 ∨ k=15
  ·exact jfo k n s l h1
  ·by_cases h16:k=16
   ·subst h16;exact jfn n s l ih
   ·by_cases h17:k=17
    ·subst h17;exact jfp n s l ih
    ·by_cases h18:k=18
     ·subst h18;exact jfq n s l ih
     ·exact jda k n s l (by omega)
theorem lG:∀ l:List Nd,∀ x ∈ l,TypeOfC x
 | []=>fun _ h=>by cases h
 | t :: ts =>
  have h1:=jah t
  have h2:=lG ts
  fun x hx=>(List.mem_cons.1 hx).elim (fun e=>e ▸ h1) (h2 x)
end
def gH (l:List ByteArray) (s:ByteArray):Int:=match l.findIdx? (fun x=>x == s) with | some i=>(i:Int) | none => -1
theorem uO {l:List ByteArray} {s:ByteArray} {k:Nat} (hk:k<l.length) (h:∀ j (hj:j<l.length),j<k->(l[j] == s)=false) (hq:(l[k] == s)=true):gH l s=(k:Int):=by
 have:l.findIdx? (fun x=>x == s)=some k:=by
  rw[List.findIdx?_eq_some_iff_getElem];exact⟨hk,hq,fun j hj=>by simp[h j (by omega) hj]⟩
 unfold gH;rw[this]
theorem oO {l:List ByteArray} {s:ByteArray} (h:∀ j (hj:j<l.length),(l[j] == s)=false):gH l s = -1:=by
 have:l.findIdx? (fun x=>x == s)=none:=by
  rw[List.findIdx?_eq_none_iff];intro x hx
  obtain⟨j,hj,rfl⟩ := List.mem_iff_getElem.1 hx
  simp[h j hj]
 unfold gH;rw[this]
theorem jcU (l:List ByteArray) (s:ByteArray) : -1<=gH l s/\gH l s<l.length+1/\gH l s<=l.length:=by
 unfold gH
 cases hf:l.findIdx? (fun x=>x == s) with
 | none=>simp;omega
 | some i =>
  rw[List.findIdx?_eq_some_iff_getElem] at hf
  obtain⟨hi,_⟩ := hf
  simp;omega
theorem u6 (v:Value) (l:List ByteArray) (s:ByteArray) (w:World) (hl:StrsAt w.cell? v l) :
  Calls Tryz.prog 103 #[v,.string s] w fun e w' => e = .returned (.int .i64 (gH l s))/\w=w':=by
 obtain⟨h1,h2,p,b,off,cap,rfl,hc,hp,hn,hh⟩ := hl
 go_enter Tryz.func103,Tryz.ntmps103
 go_wp2
 go_loop [5,8] (fun _ i => ∃ k:Nat,k<=l.length/\i = .int .i64 k /\ ∀ j (hj:j<l.length),j<k->(l[j] == s)=false) (fun _ i=>l.length-(intOf i).toNat)
 case atStart=>exact⟨0,by omega,rfl,fun j hj h=>absurd h (by omega)⟩
 case round =>
  obtain⟨k,hk,rfl,hno⟩ := hrel
  have HNO:Hid (∀ j (hj:j<l.length),j<k->(l[j] == s)=false):=hno
  clear hno
  by_cases hlt:k<l.length
  ·obtain rfl:p=some ⟨b,off,none⟩ := by
    rcases hp with rfl | hp
    ·simp at hlt
    ·exact hp
   have cx:=hh k hlt
   obtain⟨x,hx⟩ : ∃ x,x=l[k]:=⟨_,rfl⟩
   rw[show l.getD k ByteArray.empty=x from by rw[hx];simp[hlt]] at cx
   have HX:Hid (x=l[k]):=hx
   clear hx hh hp hn h2
   cases hxs:(s.toList == x.toList) with
   | true =>
    have hxs2:(x == s)=true:=by rw[beq_toListBytes,<- hxs,Bool.beq_comm]
    go_wp2
    go_ret
    have:=uO (s:=s) hlt HNO.out (by rw[<- HX.out];exact hxs2)
    exact⟨by rw[this];rfl,rfl⟩
   | false =>
    have hxs2:(x == s)=false:=by rw[beq_toListBytes,<- hxs,Bool.beq_comm]
    go_wp2
    go_round
    case rel=>exact⟨k+1,by omega,by go_num,fun j hj h=>by
     by_cases hjk:j=k
     ·subst hjk;rw[<- HX.out];exact hxs2
     ·exact HNO.out j hj (by omega)⟩
    case measure=>simp[intOf];omega
  ·clear hh hp hn h2
   go_wp2
   go_ret
   exact⟨by rw[oO (fun j hj=>HNO.out j hj (by omega))];rfl,rfl⟩
def yB (d v:List ByteArray) (s:ByteArray):Int:=if 0<=gH d s then gH d s else if 0<=gH v s then d.length+gH v s else -1
theorem jbe (dv vv ov:Value) (d v:List ByteArray) (s:ByteArray) (w:World) (hd:StrsAt w.cell? dv d) (hv:StrsAt w.cell? vv v) :
  Calls Tryz.prog 62 #[.agg #[dv,vv,ov],.string s] w (f9 w (.int .i64 (yB d v s))):=by
 have x0:Ext w (w.alloc (.cells #[dv,vv,ov] 26)):=(Ext.refl w).alloc _
 have c1:=Lib.hid (u6 dv d s _ (hd.mono x0.sub))
 have c2:=Lib.hid (u6 vv v s _ (hv.mono x0.sub))
 have e:yB d v s=if 0<=gH d s then gH d s else if 0<=gH v s then d.length+gH v s else -1:=rfl
 have l1:=jcU d s
 have l2:=jcU v s
 have d1:=hd.1
 have d2:=hv.1
 obtain⟨p1,b1,o1,k1,rfl,hk1,-⟩ := hd.2.2
 obtain⟨p2,b2,o2,k2,rfl,hk2,-⟩ := hv.2.2
 obtain⟨i,hi⟩ : ∃ i,i=gH d s:=⟨_,rfl⟩
 obtain⟨j,hj⟩ : ∃ j,j=gH v s:=⟨_,rfl⟩
 rw[<- hi] at c1 e l1;rw[<- hj] at c2 e l2;rw[e];clear hi hj hd hv e
 by_cases h1:0<=i
 ·rw[if_pos h1]
  go_enter Tryz.func62,Tryz.ntmps62
  go_wp2_with (go_at_call 103;refine c1.out.mono ?_;rintro e w2 ⟨rfl,rfl⟩)
  go_ret
  exact⟨rfl,x0⟩
 ·rw[if_neg h1]
  by_cases h2:0<=j
  ·rw[if_pos h2]
   go_enter Tryz.func62,Tryz.ntmps62
   go_wp2_with fail
   refine c1.out.mono ?_;rintro e w2 ⟨rfl,rfl⟩
   go_wp2_with fail
   refine c2.out.mono ?_;rintro e w2 ⟨rfl,rfl⟩
   go_wp2
   go_ret
   exact⟨rfl,x0⟩
  ·rw[if_neg h2]
   go_enter Tryz.func62,Tryz.ntmps62
   go_wp2_with fail
   refine c1.out.mono ?_;rintro e w2 ⟨rfl,rfl⟩
   go_wp2_with fail
   refine c2.out.mono ?_;rintro e w2 ⟨rfl,rfl⟩
   go_wp2
   go_ret
   exact⟨rfl,x0⟩
mutual
def kI:Nd->Bool
 | .mk k _ _ kids=>if k=11 then vS kids else if k=2 ∨ k=3 then ji3 kids else !kF 1 kids
def vS:List Nd->Bool
 | []=>true
 | x :: xs=>kI x && vS xs
def ji3:List Nd->Bool
 | []=>false
 | c :: rest=>(wX c == 2) && vS rest
end
theorem jft (l:List Nd):vS l = !l.any (fun x => !kI x):=by
 induction l with
 | nil=>simp[vS]
 | cons x xs ih=>simp[vS,ih]
def WellC (t:Nd):Prop := ∀ v w,t.At w.cell? v->Calls Tryz.prog 64 #[v] w (f9 w (.bool (kI t)))
theorem WellC.use {t:Nd} (h:WellC t) {v:Value} {w:World} (ht:t.At w.cell? v):Calls Tryz.prog 64 #[v] w (f9 w (.bool (kI t))):=h v w ht
theorem jj6 (x:Nd) (ih:WellC x) (v:Value) (w:World) (hv:x.At w.cell? v) :
  Calls Tryz.prog 105 #[v] w (f9 w (.bool (!kI x))):=by
 have x0:=fun o=>(Ext.refl w).alloc o
 have hc:=fun o=>Lib.hid (ih.use (Nd.At.mono (x0 o).sub _ _ hv))
 obtain⟨kv,rfl,-⟩ := hv.parts
 obtain⟨q,hq⟩ : ∃ q,q=kI x:=⟨_,rfl⟩
 rw[<- hq] at hc ⊢;clear hq ih hv
 go_enter Tryz.func105,Tryz.ntmps105
 go_wp2_with (go_at_call 64;refine (hc _).out.mono ?_;rintro e w2 ⟨rfl,hx2⟩)
 go_ret
 exact⟨rfl,(x0 _).trans hx2⟩
theorem jao (n:Int) (s:ByteArray) (l:List Nd) (ih:∀ x ∈ l,WellC x):WellC (.mk 11 n s l):=by
 intro v w ht
 obtain⟨kv,rfl,-,-,-,hl⟩ := ht.parts
 simp only[Nd.k,Nd.n,Nd.s,Nd.kids] at *
 have e:kI (.mk 11 n s l) = !l.any (fun x => !kI x):=by simp only[kI,jft];simp
 have x0:Ext w (w.alloc (.cells #[.int .i64 11,.int .i64 n,.string s,kv] 65)):=(Ext.refl w).alloc _
 have hasks:Asks (w.alloc (.cells #[.int .i64 11,.int .i64 n,.string s,kv] 65)) 105 #[] l (fun x => !kI x) :=
  ⟨fun _ _=>rfl,fun x hx v w' hx' hA=>jj6 x (ih x hx) v w' hA⟩
 have hcall:=Lib.hid (xC l kv _ _ _ _ (hl.mono x0.sub) hasks)
 rw[e]
 obtain⟨q,hq⟩ : ∃ q,q=l.any (fun x => !kI x):=⟨_,rfl⟩
 rw[<- hq] at hcall ⊢;clear hq hasks ih hl e ht
 go_enter Tryz.func64,Tryz.ntmps64
 go_wp2_with (go_at_call 63;refine hcall.out.mono ?_;rintro e w2 ⟨rfl,hx2⟩)
 go_ret
 exact⟨rfl,x0.trans hx2⟩
theorem jgS (k n:Int) (s:ByteArray) (l:List Nd) (hk:k ≠ 11/\k ≠ 2/\k ≠ 3):WellC (.mk k n s l):=by
 intro v w ht
 obtain⟨kv,rfl,-,-,-,hl⟩ := ht.parts
 simp only[Nd.k,Nd.n,Nd.s,Nd.kids] at *
 obtain⟨h1,h2,h3⟩ := hk
 have e:kI (.mk k n s l) = !kF 1 l:=by simp[kI,h1,h2,h3]
 have x0:Ext w (w.alloc (.cells #[.int .i64 k,.int .i64 n,.string s,kv] 65)):=(Ext.refl w).alloc _
 have hcall:=Lib.hid (jlR hl (lG l) 1 rfl x0)
 rw[e]
 obtain⟨q,hq⟩ : ∃ q,q=kF 1 l:=⟨_,rfl⟩
 rw[<- hq] at hcall ⊢
 have b1:(k == 11)=false:=by simpa using h1
 have b2:(k == 2)=false:=by simpa using h2
 have b3:(k == 3)=false:=by simpa using h3
 clear hq hl e ht h1 h2 h3
 go_enter Tryz.func64,Tryz.ntmps64
 go_wp2_with (go_at_call 107;refine hcall.out.mono ?_;rintro e w2 ⟨rfl,hx2⟩)
 go_ret
 exact⟨rfl,x0.trans hx2⟩
theorem jlI (k n:Int) (s:ByteArray) (hk:k=2 ∨ k=3):WellC (.mk k n s []):=by
 intro v w ht
 obtain⟨kv,rfl,-,-,-,hl⟩ := ht.parts
 simp only[Nd.k,Nd.n,Nd.s,Nd.kids] at *
 obtain⟨_,p,b,off,cap,rfl,-⟩ := hl
 have e:kI (.mk k n s [])=false:=by rcases hk with rfl | rfl <;> simp[kI,ji3]
 rw[e];clear ht e
 rcases hk with rfl | rfl
 all_goals
  go_enter Tryz.func64,Tryz.ntmps64
  go_wp2
  go_ret
  exact⟨rfl,(Ext.refl w).alloc _⟩
theorem jj7 (k n:Int) (s:ByteArray) (c:Nd) (l:List Nd) (hk:k=2 ∨ k=3) (ih:∀ x ∈ l,WellC x):WellC (.mk k n s (c :: l)):=by
 intro v w ht
 obtain⟨kv,rfl,-,-,-,hl⟩ := ht.parts
 simp only[Nd.k,Nd.n,Nd.s,Nd.kids] at *
 have e:kI (.mk k n s (c :: l))=((wX c == 2) && kI (.mk 11 0 ⟨#[]⟩ l)):=by rcases hk with rfl | rfl <;> simp[kI,ji3]
 obtain⟨hlen,p,b,off,cap,rfl,hcap,hp,hn,hin⟩ := hl
 obtain rfl:p=some ⟨b,off,none⟩ := by
  rcases hp with h | h
  ·cases h
  ·exact h
 have hin2:=hin
 unfold Nd.In at hin2
 obtain⟨⟨v0,v1,v2,v3,d0,d1,d2,d3,hc⟩,hrest⟩ := hin2
 simp only[List.length_cons] at *
 have x0:Ext w (w.alloc (.cells #[.int .i64 k,.int .i64 n,.string s,.slice (some ⟨b,off,none⟩) (l.length+1) cap] 65)):=(Ext.refl w).alloc _
 replace d0:=x0.c d0
 replace d1:=x0.c d1
 replace d2:=x0.c d2
 replace d3:=x0.c d3
 have ht1:=Lib.hid ((jah c).use (Nd.At.mono x0.sub _ _ hc))
 obtain⟨ty,hty⟩ : ∃ ty,ty=wX c:=⟨_,rfl⟩
 have hB:=Ext.block (Ext.refl _) (jkn w (.int .i64 k) (.int .i64 n) (.string s) (.slice (some ⟨b,off,none⟩) (l.length+1) cap) 65)
 rw[e,<- hty];rw[<- hty] at ht1
 obtain⟨q,hq⟩ : ∃ q,q=kI (.mk 11 0 ⟨#[]⟩ l):=⟨_,rfl⟩
 have hw:=fun (w2:World) (hx2:Ext w w2) (kv2:Value) (hkv:NdsAt w.cell? kv2 l)=>(jao 0 ⟨#[]⟩ l ih).use (Nd.At.of_parts (t := .mk 11 0 ⟨#[]⟩ l) (by simp[Nd.k]) (by simp[Nd.n]) (Nat.zero_le _) (hkv.mono hx2.sub))
 simp only[Nd.k,Nd.n,Nd.s] at hw;rw[<- hq] at hw ⊢
 have HW:=Lib.hid hw
 clear hq hty e ht ih hw hc hp hn hin
 cases hte:(ty == 2) with
 | false =>
  rcases hk with rfl | rfl
  all_goals
   go_enter Tryz.func64,Tryz.ntmps64
   go_wp2_with (go_at_call 106;refine ht1.out.mono ?_;rintro e w2 ⟨rfl,hx2⟩)
   go_ret
   exact⟨rfl,x0.trans hx2⟩
 | true =>
  by_cases h1:cap=1
  ·obtain rfl:l=[]:=List.eq_nil_of_length_eq_zero (by omega)
   have hkv:NdsAt w.cell? (.slice (some ⟨b,off,none⟩) 0 0) []:=⟨by simp,_,b,off,0,rfl,by simp,.inl rfl,by simp,by unfold Nd.In;trivial⟩
   subst h1;simp only[List.length_nil,Nat.zero_add] at *;clear hrest
   rcases hk with rfl | rfl
   all_goals
    go_enter Tryz.func64,Tryz.ntmps64
    go_wp2_with (first
     | (go_at_call 106;refine ht1.out.mono ?_;rintro e w2 ⟨rfl,hx2⟩;obtain⟨e0,e1,e2,e3,-⟩ := mX (hx2.block hB))
     | (go_at_call 64;(with_reducible refine (HW.out _ (x0.trans hx2) _ hkv).mono ?_);rintro e w3 ⟨rfl,hx3⟩))
    go_ret
    exact⟨rfl,(x0.trans hx2).trans hx3⟩
  ·have hkv:NdsAt w.cell? (.slice (some ⟨b,off+4,none⟩) l.length (cap-1)) l:=⟨by omega,_,b,off+4,cap-1,rfl,by omega,.inr rfl,by simp,hrest⟩
   clear hrest
   rcases hk with rfl | rfl
   all_goals
    go_enter Tryz.func64,Tryz.ntmps64
    go_wp2_with (first
     | (go_at_call 106;refine ht1.out.mono ?_;rintro e w2 ⟨rfl,hx2⟩;obtain⟨e0,e1,e2,e3,-⟩ := mX (hx2.block hB))
     | (go_at_call 64;(with_reducible refine (HW.out _ (x0.trans hx2) _ hkv).mono ?_);rintro e w3 ⟨rfl,hx3⟩))
    go_ret
    exact⟨rfl,(x0.trans hx2).trans hx3⟩
mutual
theorem jfv:∀ t:Nd,WellC t
 | .mk k n s l=>by
  have ih:=jfu l
  by_cases h11:k=11
  ·subst h11;exact jao n s l ih
  ·by_cases h2:k=2 ∨ k=3
   ·cases l with
    | nil=>exact jlI k n s h2
    | cons c rest=>exact jj7 k n s c rest h2 (fun x hx=>ih x (List.mem_cons_of_mem _ hx))
   ·exact jgS k n s l (by omega)
theorem jfu:∀ l:List Nd,∀ x ∈ l,WellC x
 | []=>fun _ h=>by cases h
 | t :: ts =>
  have h1:=jfv t
  have h2:=jfu ts
  fun x hx=>(List.mem_cons.1 hx).elim (fun e=>e ▸ h1) (h2 x)
end
def HIn (C:Rd) (b:Nat) (off:Nat) (l:List (Int × Nd)):Prop := ∀ i (hi:i<l.length),-9223372036854775808<=l[i].1/\l[i].1<=9223372036854775807 ∧
 ∃ v1 v2 v3 v4,C ⟨b,off+i*5,none⟩ = some (.int .i64 l[i].1)/\C ⟨b,off+i*5+1,none⟩ = some v1/\C ⟨b,off+i*5+2,none⟩ = some v2/\C ⟨b,off+i*5+3,none⟩ = some v3/\C ⟨b,off+i*5+4,none⟩ = some v4/\l[i].2.At C (.agg #[v1,v2,v3,v4])
def jpt (C:Rd) (v:Value) (l:List (Int × Nd)):Prop :=
 l.length<=1000000000 /\ ∃ p b off cap,v = .slice p l.length cap/\l.length<=cap/\(l=[] ∨ p=some ⟨b,off,none⟩)/\(p=none->cap=0)/\HIn C b off l
structure Un where
 d:List ByteArray
 v:List ByteArray
 on:List (Int × Nd)
def jpx (C:Rd) (x:Value) (u:Un):Prop := ∃ dv vv ov,x = .agg #[dv,vv,ov]/\StrsAt C dv u.d/\StrsAt C vv u.v/\jpt C ov u.on
mutual
def o8 (ix:ByteArray->Int):Nd->Bool
 | .mk k _ s kids=>((k == 1 || k == 14) && decide (ix s<0)) || dY ix kids
def dY (ix:ByteArray->Int):List Nd->Bool
 | []=>false
 | x :: xs=>o8 ix x || dY ix xs
end
theorem jgQ (ix:ByteArray->Int) (l:List Nd):dY ix l=l.any (o8 ix):=by
 induction l with
 | nil=>simp[dY]
 | cons x xs ih=>simp[dY,ih]
structure Env (w:World) (U V:Nat) (dv vv ov:Value) (d v:List ByteArray):Prop where
 c0:w.cell? ⟨U,0,none⟩ = some dv
 c1:w.cell? ⟨U,1,none⟩ = some vv
 c2:w.cell? ⟨U,2,none⟩ = some ov
 f:w.cell? ⟨V,0,none⟩ = some (.func (.func 61) #[] #[.pointer (some ⟨U,0,none⟩),.pointer (some ⟨V,0,none⟩)])
 d:StrsAt w.cell? dv d
 v:StrsAt w.cell? vv v
theorem Env.ext {w w':World} {U V:Nat} {dv vv ov:Value} {d v:List ByteArray} (h:Env w U V dv vv ov d v) (x:Ext w w'):Env w' U V dv vv ov d v :=
 ⟨x.c h.c0,x.c h.c1,x.c h.c2,x.c h.f,h.d.mono x.sub,h.v.mono x.sub⟩
def jgW (t:Nd):Prop := ∀ (x:Value) (w:World) (U V:Nat) (dv vv ov:Value) (d v:List ByteArray),t.At w.cell? x->Env w U V dv vv ov d v →
  Calls Tryz.prog 61 #[x,.pointer (some ⟨U,0,none⟩),.pointer (some ⟨V,0,none⟩)] w (f9 w (.bool (o8 (yB d v) t)))
theorem jif (k n:Int) (s:ByteArray) (l:List Nd) (ih:∀ x ∈ l,jgW x):jgW (.mk k n s l):=by
 intro x w U V dv vv ov d v ht E
 obtain⟨kv,rfl,-,-,-,hl⟩ := ht.parts
 simp only[Nd.k,Nd.n,Nd.s,Nd.kids] at *
 have e:o8 (yB d v) (.mk k n s l)=(((k == 1 || k == 14) && decide (yB d v s<0)) || l.any (o8 (yB d v))):=by simp only[o8,jgQ]
 have x0:Ext w (w.alloc (.cells #[.int .i64 k,.int .i64 n,.string s,kv] 65)):=(Ext.refl w).alloc _
 have E0:=E.ext x0
 have hB:=jkn w (.int .i64 k) (.int .i64 n) (.string s) kv 65
 have hasks:∀ w1,Ext (w.alloc (.cells #[.int .i64 k,.int .i64 n,.string s,kv] 65)) w1->Asks w1 61 #[.pointer (some ⟨U,0,none⟩),.pointer (some ⟨V,0,none⟩)] l (o8 (yB d v)) :=
  fun w1 h1=>⟨fun _ _=>rfl,fun y hy z w' hx' hA=>ih y hy z w' U V dv vv ov d v hA ((E0.ext h1).ext hx')⟩
 have hcall:=fun w1 h1=>xC l kv _ _ w1 _ (hl.mono (x0.trans h1).sub) (hasks w1 h1)
 have hidx:=jbe dv vv ov d v s _ E0.d E0.v
 obtain⟨q,hq⟩ : ∃ q,q=l.any (o8 (yB d v)):=⟨_,rfl⟩
 obtain⟨i,hi⟩ : ∃ i,i=yB d v s:=⟨_,rfl⟩
 rw[e];rw[<- hq] at hcall ⊢;rw[<- hi] at hidx ⊢
 have HC:=Lib.hid hcall
 have HI:=Lib.hid hidx
 obtain⟨c0,c1,c2,cf,-,-⟩ := E0
 obtain⟨g0,g1,g2,g3,-⟩ := mX hB
 clear hq hi hasks hcall hidx ih hl e ht E
 by_cases hk:k=1 ∨ k=14
 ·by_cases hneg:i<0
  ·rcases hk with rfl | rfl
   all_goals
    go_enter Tryz.func61,Tryz.ntmps61
    go_wp2_with (first
     | (go_at_call 62;(with_reducible refine HI.out.mono ?_);rintro e w2 ⟨rfl,hx2⟩))
    go_ret
    exact⟨by simp[hneg],x0.trans hx2⟩
  ·rcases hk with rfl | rfl
   all_goals
    go_enter Tryz.func61,Tryz.ntmps61
    go_wp2_with (first
     | (go_at_call 62;(with_reducible refine HI.out.mono ?_);rintro e w2 ⟨rfl,hx2⟩;replace cf:=hx2.c cf;replace g3:=hx2.c g3)
     | (go_at_call 63;(with_reducible refine (HC.out _ hx2).mono ?_);rintro e w3 ⟨rfl,hx3⟩))
    go_ret
    exact⟨by simp[hneg],(x0.trans hx2).trans hx3⟩
 ·have b1:(k == 1)=false:=by simp;omega
  have b2:(k == 14)=false:=by simp;omega
  have hx2:=Ext.refl (w.alloc (.cells #[.int .i64 k,.int .i64 n,.string s,kv] 65))
  clear hk
  go_enter Tryz.func61,Tryz.ntmps61
  go_wp2_with (first
   | (go_at_call 63;(with_reducible refine (HC.out _ hx2).mono ?_);rintro e w3 ⟨rfl,hx3⟩))
  go_ret
  exact⟨by simp[b1,b2],x0.trans hx3⟩
mutual
theorem jdH:∀ t:Nd,jgW t
 | .mk k n s l=>jif k n s l (jdG l)
theorem jdG:∀ l:List Nd,∀ x ∈ l,jgW x
 | []=>fun _ h=>by cases h
 | t :: ts =>
  have h1:=jdH t
  have h2:=jdG ts
  fun x hx=>(List.mem_cons.1 hx).elim (fun e=>e ▸ h1) (h2 x)
end
def rB (u:Un) (t:Nd):Bool := !kI t || o8 (yB u.d u.v) t
def z8 (u:Un):Int:=if u.on.any (fun h=>rB u h.2) then 11 else 0
theorem s5 {u:Un} {k:Nat} (hk:k<u.on.length) (h:rB u u.on[k].2=true):z8 u=11:=by
 unfold z8;rw[if_pos];exact List.any_eq_true.2 ⟨_,List.getElem_mem hk,h⟩
theorem jdE {u:Un} (h:∀ j (hj:j<u.on.length),rB u u.on[j].2=false):z8 u=0:=by
 unfold z8;rw[if_neg];rw[List.any_eq_true];rintro⟨x,hx,hq⟩
 obtain⟨j,hj,rfl⟩ := List.mem_iff_getElem.1 hx
 rw[h j hj] at hq;cases hq
theorem jpJ {w:World} {R:Nat} {a:Value} {T:TypeId} (h:w.heap[R]? = some (.cells #[a] T (0,0))):w.cell? ⟨R,0,none⟩ = some a/\w.frozen? ⟨R,0,none⟩ = false:=by
 simp[World.cell?,World.frozen?,h]
theorem jfM {w:World} {R:Nat} {a b c:Value} {T:TypeId} (h:w.heap[R]? = some (.cells #[a,b,c] T (0,0))) :
  w.cell? ⟨R,0,none⟩ = some a/\w.cell? ⟨R,1,none⟩ = some b/\w.cell? ⟨R,2,none⟩ = some c:=by
 simp[World.cell?,h]
theorem jjE {w:World} {R:Nat} {a b c d e:Value} {T:TypeId} (h:w.heap[R]? = some (.cells #[a,b,c,d,e] T (0,0))) :
  w.cell? ⟨R,0,none⟩ = some a/\w.cell? ⟨R,1,none⟩ = some b/\w.cell? ⟨R,2,none⟩ = some c/\w.cell? ⟨R,3,none⟩ = some d/\w.cell? ⟨R,4,none⟩ = some e:=by
 simp[World.cell?,h]
theorem jjk {a b c d a' b' c' d':Value} (h:Value.agg #[a,b,c,d] = .agg #[a',b',c',d']):a=a'/\b=b'/\c=c'/\d=d':=by simpa using h
theorem jie (u:Un) (x:Value) (w:World) (hv:jpx w.cell? x u) :
  Calls Tryz.prog 28 #[x] w (f9 w (.int .i64 (z8 u))):=by
 obtain⟨dv,vv,ov,rfl,hd,hvv,hon⟩ := hv
 have hon2:=hon
 obtain⟨hl,p,b,off,cap,rfl,hcap,hp,hn,hin⟩ := hon2
 have x1:Ext w ((w.alloc (.cells #[dv,vv,.slice p u.on.length cap] 26)).alloc (.cells #[.func (.func 61) #[] #[.pointer (some ⟨w.heap.size,0,none⟩),.pointer (some ⟨w.heap.size+1,0,none⟩)]] 113)) :=
  ((Ext.refl w).alloc _).alloc _
 have hV:((w.alloc (.cells #[dv,vv,.slice p u.on.length cap] 26)).alloc (.cells #[.func (.func 61) #[] #[.pointer (some ⟨w.heap.size,0,none⟩),.pointer (some ⟨w.heap.size+1,0,none⟩)]] 113)).heap[w.heap.size+1]? = some (.cells #[(.func (.func 61) #[] #[.pointer (some ⟨w.heap.size,0,none⟩),.pointer (some ⟨w.heap.size+1,0,none⟩)])] 113 (0,0)):=by
  have:=heap_alloc_new (w.alloc (.cells #[dv,vv,.slice p u.on.length cap] 26)) (.cells #[.func (.func 61) #[] #[.pointer (some ⟨w.heap.size,0,none⟩),.pointer (some ⟨w.heap.size+1,0,none⟩)]] 113)
  simp only[World.size_alloc] at this;exact this
 have hU:=Ext.block ((Ext.refl _).alloc (.cells #[.func (.func 61) #[] #[.pointer (some ⟨w.heap.size,0,none⟩),.pointer (some ⟨w.heap.size+1,0,none⟩)]] 113)) (heap_alloc_new w (.cells #[dv,vv,.slice p u.on.length cap] 26))
 have E:Env _ w.heap.size (w.heap.size+1) dv vv (.slice p u.on.length cap) u.d u.v:=⟨(jfM hU).1,(jfM hU).2.1,(jfM hU).2.2,(jpJ hV).1,hd.mono x1.sub,hvv.mono x1.sub⟩
 clear hU hV hd hvv hon
 go_enter Tryz.func28,Tryz.ntmps28
 go_wp2_with fail
 go_loopw [10] (fun iv wr => ∃ k:Nat,k<=u.on.length/\iv = .int .i64 k/\Ext w wr/\Env wr w.heap.size (w.heap.size+1) dv vv (.slice p u.on.length cap) u.d u.v /\ ∀ j (hj:j<u.on.length),j<k->rB u u.on[j].2=false) (fun iv _=>u.on.length-(intOf iv).toNat)
 case atStart=>exact⟨0,by omega,rfl,x1,E,fun j hj h=>absurd h (by omega)⟩
 case round =>
  clear x1 E
  obtain⟨k,hk,rfl,hx,E,hno⟩ := hrel
  have HNO:Hid (∀ j (hj:j<u.on.length),j<k->rB u u.on[j].2=false):=hno
  clear hno
  by_cases hlt:k<u.on.length
  ·obtain rfl:p=some ⟨b,off,none⟩ := by
    rcases hp with h | hp
    ·rw[h] at hlt;simp at hlt
    ·exact hp
   obtain⟨-,-,v1,v2,v3,v4,c0,c1,c2,c3,c4,ht⟩ := hin k hlt
   replace c0:=hx.c c0
   replace c1:=hx.c c1
   replace c2:=hx.c c2
   replace c3:=hx.c c3
   replace c4:=hx.c c4
   have ht2:=Nd.At.mono hx.sub _ _ ht
   obtain⟨hn0,hhn⟩ : ∃ z,z=u.on[k].1:=⟨_,rfl⟩
   obtain⟨t,htt⟩ : ∃ t,t=u.on[k].2:=⟨_,rfl⟩
   rw[<- hhn] at c0;rw[<- htt] at ht2
   have HT:Hid (t=u.on[k].2):=htt
   obtain⟨kv,hvv,-,-,-,-,p',b',o',c',hkv,-⟩ := ht2.parts
   subst hkv
   obtain⟨rfl,rfl,rfl,rfl⟩ := jjk hvv
   clear hvv
   have hwell:=fun w1 (h1:Ext wr w1)=>(jfv t).use (Nd.At.mono h1.sub _ _ ht2)
   have hchk:=fun w1 (h1:Ext wr w1)=>jdH t _ w1 _ _ _ _ _ _ _ (Nd.At.mono h1.sub _ _ ht2) (E.ext h1)
   obtain⟨qa,hqa⟩ : ∃ q,q=kI t:=⟨_,rfl⟩
   obtain⟨qb,hqb⟩ : ∃ q,q=o8 (yB u.d u.v) t:=⟨_,rfl⟩
   have hbad:rB u t=(!qa || qb):=by rw[hqa,hqb];rfl
   rw[<- hqa] at hwell;rw[<- hqb] at hchk
   have HW:=Lib.hid hwell
   have HC:=Lib.hid hchk
   have HB:=Lib.hid hbad
   obtain⟨e0,e1,e2,ef,-,-⟩ := (show Env wr _ _ _ _ _ _ _ from E)
   clear hin hp hn ht ht2 htt hhn hwell hchk hqa hqb hbad
   have hH:=heap_alloc_new wr (.cells #[.int .i64 hn0,.int .i64 t.k,.int .i64 t.n,.string t.s,.slice p' t.kids.length c'] 67)
   cases qa with
   | false =>
    go_wp2_with (first
     | (go_at_call 64;refine (HW.out _ ((Ext.refl wr).alloc _)).mono ?_;rintro e w2 ⟨rfl,hx2⟩))
    go_ret
    refine⟨?_,(hx.alloc _).trans hx2⟩;rw[s5 hlt (by rw[<- HT.out,HB.out];rfl)];rfl
   | true =>
    have E1:=fun w2 (h2:Ext wr w2)=>E.ext h2
    have HE:=Lib.hid E1
    clear E1
    cases qb with
    | true =>
     go_wp2_with (first
      | (go_at_call 64;refine (HW.out _ ((Ext.refl wr).alloc _)).mono ?_;rintro e w2 ⟨rfl,hx2⟩;obtain⟨-,-,-,ef2,-,-⟩ := HE.out _ (((Ext.refl wr).alloc _).trans hx2);obtain⟨g0,g1,g2,g3,g4⟩ := jjE (hx2.block hH))
      | (go_at_call 61;refine (HC.out _ (((Ext.refl wr).alloc _).trans hx2)).mono ?_;rintro e w3 ⟨rfl,hx3⟩))
     go_ret
     refine⟨?_,((hx.alloc _).trans hx2).trans hx3⟩;rw[s5 hlt (by rw[<- HT.out,HB.out];rfl)];rfl
    | false =>
     go_wp2_with (first
      | (go_at_call 64;refine (HW.out _ ((Ext.refl wr).alloc _)).mono ?_;rintro e w2 ⟨rfl,hx2⟩;obtain⟨-,-,-,ef2,-,-⟩ := HE.out _ (((Ext.refl wr).alloc _).trans hx2);obtain⟨g0,g1,g2,g3,g4⟩ := jjE (hx2.block hH))
      | (go_at_call 61;refine (HC.out _ (((Ext.refl wr).alloc _).trans hx2)).mono ?_;rintro e w3 ⟨rfl,hx3⟩))
     go_roundw
     case rel=>exact⟨k+1,by omega,by go_num,((hx.alloc _).trans hx2).trans hx3,HE.out _ ((((Ext.refl wr).alloc _).trans hx2).trans hx3),fun j hj h=>by
      by_cases hjk:j=k
      ·subst hjk;rw[<- HT.out,HB.out];rfl
      ·exact HNO.out j hj (by omega)⟩
     case measure=>simp[intOf];omega
  ·clear hin
   obtain⟨e0,e1,e2,ef,-,-⟩ := E
   go_wp2
   go_ret
   exact⟨by rw[jdE (fun j hj=>HNO.out j hj (by omega))];rfl,hx⟩
end Go.Proofs.YtfbifdccmabdbaaGreatDoor
namespace Go.Proofs.YtfbifdccmabdbaaGreatDoor.Vm
open Go.RowKit
def isL (c:UInt8):Bool:=decide (97<=(c.toNat:Int)) && decide ((c.toNat:Int)<=122)
def x8 (c:UInt8):Bool:=decide (48<=(c.toNat:Int)) && decide ((c.toNat:Int)<=57)
def vK (c:UInt8):Bool:=isL c || x8 c
def jed (c:UInt8):Bool:=(decide ((c.toNat:Int)=32) || decide ((c.toNat:Int)=9)) || decide ((c.toNat:Int)=10)
def yK (c:UInt8):Bool := !decide ((c.toNat:Int)=10)
def gC (c:UInt8):Bool:=decide ((c.toNat:Int)=35)
def jF (p:UInt8->Bool):List UInt8->Nat
 | []=>0
 | c :: r=>match p c with | true=>jF p r+1 | false=>0
def gN:Int->List UInt8->Int
 | n,[]=>n
 | n,c :: r=>if 2147483647<10*n+(c.toNat:Int)-48 then -1 else gN (10*n+(c.toNat:Int)-48) r
def bs (l:List UInt8):ByteArray:=⟨l.toArray⟩
def o5:List ByteArray:=[bs [124,124],bs [38,38],bs [60,61],bs [62,61],bs [61,61],bs [33,61]]
def uK:List ByteArray:=[bs [123],bs [125],bs [91],bs [93],bs [40],bs [41],bs [61],bs [59],bs [44],bs [60],bs [62],bs [43],bs [45],bs [42],bs [47],bs [33]]
def kX (l:List ByteArray) (s:ByteArray):Bool:=l.any fun x=>decide (x=s)
inductive T1 where
 | bad (e:Int)
 | tok (kind:Int) (len:Nat) (n:Int)
def j9:List UInt8->T1
 | [] => .bad 10
 | c :: r=>match isL c with
  | true=>if 10<jF vK r+1 then .bad 2 else .tok 1 (jF vK r+1) 0
  | false=>match x8 c with
   | true=>if gN 0 (c :: r.take (jF x8 r))<0 then .bad 6 else .tok 2 (jF x8 r+1) (gN 0 (c :: r.take (jF x8 r)))
   | false=>match kX o5 (bs ((c :: r).take 2)) with
    | true => .tok 3 2 0
    | false=>match kX uK (bs [c]) with
     | true => .tok 3 1 0
     | false => .bad 10
structure Tk where
 kind:Int
 pos:Nat
 text:ByteArray
 n:Int
structure Lx where
 toks:List Tk
 err:Option (Nat × Int)
def Lx.cons (t:Tk) (x:Lx):Lx:=⟨t :: x.toks,x.err⟩
def yJ:Nat->Nat->List UInt8->Lx
 | 0,_,_=>⟨[],none⟩
 | f+1,pos,[]=>⟨[],none⟩
 | f+1,pos,c :: r=>match gC c with
  | true=>yJ f (pos+1+jF yK r) (r.drop (jF yK r))
  | false=>match jed c with
   | true=>yJ f (pos+1) r
   | false=>match j9 (c :: r) with
    | .bad e=>⟨[],some (pos,e)⟩
    | .tok k len n=>Lx.cons ⟨k,pos,bs ((c :: r).take len),n⟩ (yJ f (pos+len) ((c :: r).drop len))
def oZ (t:Tk):List A:=[intA t.kind,intA t.pos,jR t.text,intA t.n]
def wT (l:List Tk):List A:=l.flatMap oZ
def pJ (s:ByteArray):Tk:=⟨0,s.size,⟨#[]⟩,0⟩
theorem yW (p:UInt8->Bool):∀ l:List UInt8,jF p l<=l.length
 | []=>by simp[jF]
 | c :: r=>by
  have:=yW p r
  unfold jF
  split <;> simp <;> omega
theorem jio (l:List ByteArray) (s:ByteArray) (k:Nat) (hk:k<l.length):kX (l.take (k+1)) s=(kX (l.take k) s || decide (l[k]=s)):=by
 unfold kX;rw[List.take_succ_eq_append_getElem hk,List.any_append];simp
theorem z7 (s:ByteArray):s.data.toList.length=s.size:=by rw[Array.length_toList];rfl
theorem eE (l:List UInt8) (i:Nat) (hi:i<l.length):l.drop i=l[i] :: l.drop (i+1):=List.drop_eq_getElem_cons hi
theorem jmh {c:UInt8} (h:x8 c=true):48<=(c.toNat:Int)/\(c.toNat:Int)<=57:=by
 unfold x8 at h;rw[Bool.and_eq_true] at h;exact⟨of_decide_eq_true h.1,of_decide_eq_true h.2⟩
theorem tG (s:ByteArray) (a b:Nat):s.extract a b=bs ((s.data.toList.drop a).take (b-a)):=by
 apply ByteArray.ext
 rw[ByteArray.data_extract]
 apply Array.toList_inj.1
 simp[bs,Array.toList_extract,List.extract_eq_take_drop]
theorem lY (s:ByteArray) (a b n:Nat) (h:b=min (a+n) s.size) (ha:a<=s.size):s.extract a b=bs ((s.data.toList.drop a).take n):=by
 have hsl:=z7 s
 rw[tG]
 congr 1
 subst h
 rcases Nat.le_total (a+n) s.size with h | h
 ·rw[Nat.min_eq_left h,Nat.add_sub_cancel_left]
 ·rw[Nat.min_eq_right h,List.take_of_length_le (by rw[List.length_drop];omega),List.take_of_length_le (by rw[List.length_drop];omega)]
theorem eA (l:List UInt8):(bs l).size=l.length:=by show l.toArray.size=_;exact List.size_toArray
theorem wY (l:List UInt8):(bs l).data.toList=l:=by simp[bs]
theorem oW (p:UInt8->Bool):∀ (l:List UInt8),∀ c ∈ l.take (jF p l),p c=true
 | [],c,h=>by simp[jF] at h
 | x :: r,c,h=>by
  unfold jF at h
  split at h
  ·rename_i hp
   rw[List.take_succ_cons] at h
   rcases List.mem_cons.1 h with rfl | h
   ·exact hp
   ·exact oW p r c h
  ·simp at h
theorem aG:∀ {l:List UInt8} {k:Int} {len:Nat} {n:Int},j9 l = .tok k len n->1<=len/\len<=l.length
 | [],_,_,_,h=>by simp[j9] at h
 | c :: r,k,len,n,h=>by
  have h1:=yW vK r
  have h2:=yW x8 r
  cases hL:isL c
  ·cases hD:x8 c
   ·cases h3:kX o5 (bs ((c :: r).take 2))
    ·cases h4:kX uK (bs [c])
     ·simp only[j9,hL,hD,h3,h4] at h
      cases h
     ·simp only[j9,hL,hD,h3,h4] at h
      cases h
      simp
    ·simp only[j9,hL,hD,h3] at h
     cases h
     cases r with
     | nil =>
      exfalso
      have:kX o5 (bs [c])=false:=by
       unfold kX;rw[List.any_eq_false];intro x hx he
       have he:=of_decide_eq_true he
       have hs:x.size=1:=by rw[he,eA];rfl
       have:∀ x ∈ o5,x.size=2:=by decide
       have:=this x hx
       omega
      rw[show (c :: ([]:List UInt8)).take 2=[c] from rfl,this] at h3
      cases h3
     | cons d r=>simp
   ·simp only[j9,hL,hD] at h
    split at h
    ·cases h
    ·cases h;simp;omega
  ·simp only[j9,hL] at h
   split at h
   ·cases h
   ·cases h;simp;omega
theorem jlv {l:List UInt8} {e:Int} (h:j9 l = .bad e):e ≠ 0:=by
 cases l with
 | nil=>simp[j9] at h;omega
 | cons c r =>
  cases hL:isL c
  ·cases hD:x8 c
   ·cases h3:kX o5 (bs ((c :: r).take 2))
    ·cases h4:kX uK (bs [c])
     ·simp only[j9,hL,hD,h3,h4] at h
      cases h;decide
     ·simp only[j9,hL,hD,h3,h4] at h
      cases h
    ·simp only[j9,hL,hD,h3] at h
     cases h
   ·simp only[j9,hL,hD] at h
    split at h
    ·cases h;decide
    ·cases h
  ·simp only[j9,hL] at h
   split at h
   ·cases h;decide
   ·cases h
theorem mF:∀ (f f' p:Nat) (l:List UInt8),l.length<f->l.length<f'->yJ f p l=yJ f' p l
 | 0,_,_,_,h,_=>by omega
 | _+1,0,_,_,_,h=>by omega
 | f+1,f'+1,p,[],_,_=>rfl
 | f+1,f'+1,p,c :: r,h,h' => by
  simp only[List.length_cons] at h h'
  have key:∀ (q k:Nat) (l:List UInt8),l.length<=r.length->yJ f q l=yJ f' q l:=fun q k l hl=>mF f f' q l (by omega) (by omega)
  unfold yJ
  split
  ·exact key _ 0 _ (by simp)
  ·split
   ·exact key _ 0 _ (Nat.le_refl _)
   ·split
    ·rfl
    ·rename_i k len n ht
     have:=aG ht
     rw[key _ 0 _ (by simp;omega)]
def fK (p:Nat) (l:List UInt8):Lx:=yJ (l.length+1) p l
theorem jel (p:Nat):fK p [] = ⟨[],none⟩ := rfl
theorem jix {p:Nat} {c:UInt8} {r:List UInt8} (h:gC c=true):fK p (c :: r)=fK (p+1+jF yK r) (r.drop (jF yK r)):=by
 unfold fK;rw[yJ,h];exact mF _ _ _ _ (by simp;omega) (by simp)
theorem jml {p:Nat} {c:UInt8} {r:List UInt8} (h:gC c=false) (h2:jed c=true):fK p (c :: r)=fK (p+1) r:=by
 unfold fK;rw[yJ,h,h2];exact mF _ _ _ _ (by simp) (by simp)
theorem jek {p:Nat} {c:UInt8} {r:List UInt8} {e:Int} (h:gC c=false) (h2:jed c=false) (ht:j9 (c :: r) = .bad e):fK p (c :: r) = ⟨[],some (p,e)⟩ := by
 unfold fK;rw[yJ,h,h2,ht]
theorem jem {p:Nat} {c:UInt8} {r:List UInt8} {k:Int} {len:Nat} {n:Int} (h:gC c=false) (h2:jed c=false) (ht:j9 (c :: r) = .tok k len n) :
  fK p (c :: r)=Lx.cons ⟨k,p,bs ((c :: r).take len),n⟩ (fK (p+len) ((c :: r).drop len)):=by
 have hl:=aG ht
 unfold fK;rw[yJ,h,h2,ht]
 simp only
 rw[mF _ (((c :: r).drop len).length+1) _ _ (by simp at hl ⊢;omega) (by simp)]
def qS (s:ByteArray):Lx:=fK 0 s.data.toList
def Lx.app (ts:List Tk) (x:Lx):Lx:=⟨ts++x.toks,x.err⟩
theorem jdo (ts:List Tk) (t:Tk) (x:Lx):Lx.app ts (Lx.cons t x)=Lx.app (ts++[t]) x:=by simp[Lx.app,Lx.cons]
def jg7 (s:ByteArray):A:=match (qS s).err with
 | some (p,e) => .tup [.v (.slice none 0 0),intA p,intA e]
 | none => .tup [.sl 4 ((qS s).toks.length+1) (wT ((qS s).toks++[pJ s])),intA 0,intA 0]
theorem aE (l:List UInt8) (len:Nat) (h:len<=l.length):(bs (l.take len)).size=len:=by rw[eA,List.length_take];omega
def sA (n:Int):A := .v (.int .u8 n)
@[irreducible] def j0 (f:Nat->Int):List A:=(List.range 256).map fun j=>sA (f j)
theorem wV (f:Nat->Int):(j0 f).length=256:=by unfold j0;simp
theorem jdJ (f:Nat->Int) (j:Nat) (h:j<256):(j0 f)[j]? = some (sA (f j)):=by unfold j0;simp[h]
theorem s6 (f:Nat->Int):∀ a ∈ j0 f,∃ x,a = .v x:=fun a ha=>by
 unfold j0 at ha
 obtain⟨j,_,rfl⟩ := List.mem_map.1 ha
 exact⟨_,rfl⟩
theorem cM (f:Nat->Int) (i:Nat) (d:Int):(j0 f).set i (sA d)=j0 fun j=>if j=i then d else f j:=by
 apply List.ext_getElem?
 intro j;rw[List.getElem?_set]
 by_cases hj:j<256
 ·rw[jdJ _ j hj,jdJ _ j hj,wV]
  by_cases hij:i=j
  ·subst hij;rw[if_pos rfl,if_pos hj,if_pos rfl]
  ·rw[if_neg hij,if_neg (fun e=>hij e.symm)]
 ·have h1:∀ f,(j0 f)[j]? = none:=fun f=>List.getElem?_eq_none (by rw[wV];omega)
  rw[h1,h1,wV]
  split
  ·rename_i h
   subst h;rw[if_neg hj]
  ·rfl
theorem gA {f g:Nat->Int} (h:∀ j,j<256->f j=g j):j0 f=j0 g:=by
 unfold j0
 exact List.map_congr_left fun j hj=>by rw[h j (List.mem_range.1 hj)]
def f1 (k:Nat) (j:Nat):Int:=if 97<=j/\j<k then 2 else 0
def f2 (k:Nat) (j:Nat):Int:=if 48<=j/\j<k then 3 else f1 123 j
def l3:List Int:=[32,9,10]
def l5:List Int:=[123,125,91,93,40,41,61,59,44,60,62,43,45,42,47,33]
def f3 (k:Nat) (j:Nat):Int:=if (j:Int) ∈ l3.take k then 1 else f2 58 j
def f5 (k:Nat) (j:Nat):Int:=if (j:Int) ∈ l5.take k then 5 else f3 3 j
def classOf (j:Nat):Int:=if j=35 then 4 else f5 16 j
theorem aD (l:List Int) (k:Nat) (hk:k<l.length) (x:Int):x ∈ l.take (k+1) ↔ x ∈ l.take k ∨ x=l[k]:=by
 rw[List.take_succ_eq_append_getElem hk,List.mem_append,List.mem_singleton]
theorem jeX (l:List Int) (i:Nat) (hi:i<l.length):jC 1 i (l.map sA)=[.v (.int .u8 l[i])]:=wM _ l i hi
theorem joe (k:Nat) (h1:97<=k) (h2:k<256):(j0 (f1 k)).set k (sA 2)=j0 (f1 (k+1)):=by
 rw[cM]
 refine gA fun j hj => ?_
 unfold f1
 by_cases h:j=k
 ·subst h;rw[if_pos rfl,if_pos (by omega)]
 ·rw[if_neg h]
  by_cases h3:97<=j/\j<k
  ·rw[if_pos h3,if_pos (by omega)]
  ·rw[if_neg h3,if_neg (by omega)]
theorem jof (k:Nat) (h1:48<=k) (h2:k<256):(j0 (f2 k)).set k (sA 3)=j0 (f2 (k+1)):=by
 rw[cM]
 refine gA fun j hj => ?_
 unfold f2
 by_cases h:j=k
 ·subst h;rw[if_pos rfl,if_pos (by omega)]
 ·rw[if_neg h]
  by_cases h3:48<=j/\j<k
  ·rw[if_pos h3,if_pos (by omega)]
  ·rw[if_neg h3,if_neg (by omega)]
theorem jog (k:Nat) (hk:k<l3.length) (i:Nat) (hi:(i:Int)=l3[k]):(j0 (f3 k)).set i (sA 1)=j0 (f3 (k+1)):=by
 rw[cM]
 refine gA fun j hj => ?_
 unfold f3
 by_cases h:j=i
 ·subst h;rw[if_pos rfl,if_pos ((aD l3 k hk _).2 (.inr hi))]
 ·rw[if_neg h]
  by_cases h3:(j:Int) ∈ l3.take k
  ·rw[if_pos h3,if_pos ((aD l3 k hk _).2 (.inl h3))]
  ·rw[if_neg h3,if_neg fun e=>((aD l3 k hk _).1 e).elim h3 fun e=>by omega]
theorem joh (k:Nat) (hk:k<l5.length) (i:Nat) (hi:(i:Int)=l5[k]):(j0 (f5 k)).set i (sA 5)=j0 (f5 (k+1)):=by
 rw[cM]
 refine gA fun j hj => ?_
 unfold f5
 by_cases h:j=i
 ·subst h;rw[if_pos rfl,if_pos ((aD l5 k hk _).2 (.inr hi))]
 ·rw[if_neg h]
  by_cases h3:(j:Int) ∈ l5.take k
  ·rw[if_pos h3,if_pos ((aD l5 k hk _).2 (.inl h3))]
  ·rw[if_neg h3,if_neg fun e=>((aD l5 k hk _).1 e).elim h3 fun e=>by omega]
theorem jow (k:Nat) (hk:k<l3.length):0<=l3[k]/\l3[k]<256:=by
 have:∀ x ∈ l3,0<=x/\x<256:=by decide
 exact this _ (List.getElem_mem hk)
theorem jox (k:Nat) (hk:k<l5.length):0<=l5[k]/\l5[k]<256:=by
 have:∀ x ∈ l5,0<=x/\x<256:=by decide
 exact this _ (List.getElem_mem hk)
theorem u8r {n:Int} (h:0<=n/\n<=255):lo .u8<=n/\n<=hi .u8:=h
theorem jpq:(List.range 256).map (fun _=>sA 0)=j0 (f1 97):=by
 unfold j0
 exact List.map_congr_left fun j hj=>by unfold f1;rw[if_neg (by omega)]
theorem jnc:(List.range 256).map (fun _=>sA 0)=j0 (fun _=>0):=by unfold j0;rfl
theorem jcp:Spec Tryz.prog 148 [] [] fun _ r=>r = .agg (j0 classOf):=by
 refine eN jM qD 0 Tryz.func148 rfl ?_;intro _;conv=>whnf
 refine jB [0,1] ?_;conv=>whnf
 refine mG (fun k:Nat=>[(2,.v (.int .u8 k))]) (fun k=>[j0 fun _=>0,j0 (f1 k)]) (fun _=>[]) (fun k=>97<=k/\k<=123) (fun k=>123-k) 97 ?_ ⟨by omega,by omega⟩ ?_
 ·unfold cW
  repeat' constructor
  ·show _=[j0 _,j0 _]
   rw[<- jpq,<- jnc];rfl
 ·rintro k ⟨hk,hk2⟩;conv=>whnf
  by_cases hlt:k<=122
  ·refine zG (by simp;omega) ?_;conv=>whnf
   refine⟨⟨by omega,by omega⟩,?_⟩;conv=>whnf
   refine gQ (by rw[wV];simp;omega) ?_;conv=>whnf
   refine⟨u8r (by omega),?_⟩;conv=>whnf
   refine⟨k+1,dB ?_,⟨by omega,by omega⟩,by omega⟩;unfold cW
   repeat' constructor
   ·exact congrArg (fun x=>[j0 fun _=>0,x]) (by
     show (j0 (f1 k)).set (0+k*1) (sA 2)=_
     rw[Nat.mul_one,Nat.zero_add];exact joe k (by omega) (by omega))
  ·refine j5 (by simp;omega) ?_
   obtain rfl:k=123:=by omega
   conv=>whnf
   refine jB [0,1] ?_;conv=>whnf
   refine mG (fun k:Nat=>[(3,.v (.int .u8 k))]) (fun k=>[j0 fun _=>0,j0 (f2 k)]) (fun _=>[]) (fun k=>48<=k/\k<=58) (fun k=>58-k) 48 ?_ ⟨by omega,by omega⟩ ?_
   ·unfold cW
    repeat' constructor
    ·exact congrArg (fun x=>[j0 fun _=>0,x]) (gA fun j hj=>by unfold f2;rw[if_neg (by omega)])
   ·rintro k ⟨hk,hk2⟩;conv=>whnf
    by_cases hlt:k<=57
    ·refine zG (by simp;omega) ?_;conv=>whnf
     refine⟨⟨by omega,by omega⟩,?_⟩;conv=>whnf
     refine gQ (by rw[wV];simp;omega) ?_;conv=>whnf
     refine⟨u8r (by omega),?_⟩;conv=>whnf
     refine⟨k+1,dB ?_,⟨by omega,by omega⟩,by omega⟩;unfold cW
     repeat' constructor
     ·exact congrArg (fun x=>[j0 fun _=>0,x]) (by
       show (j0 (f2 k)).set (0+k*1) (sA 3)=_
       rw[Nat.mul_one,Nat.zero_add];exact jof k (by omega) (by omega))
    ·refine j5 (by simp;omega) ?_
     obtain rfl:k=58:=by omega
     conv=>whnf
     refine jB [0,1,22] ?_;conv=>whnf
     refine mG (fun k:Nat=>[(21,.sl 1 3 (l3.map sA)),(23,.v (.int .i64 k))]) (fun k=>[j0 fun _=>0,j0 (f3 k)]) (fun _=>[.pub 1 3 (l3.map sA)]) (fun k=>k<=3) (fun k=>3-k) 0 ?_ (by omega) ?_
     ·unfold cW
      repeat' constructor
     ·rintro k hk;conv=>whnf
      by_cases hlt:k<3
      ·have hr3:=jow k hlt
       refine zG (by simp;omega) ?_;conv=>whnf
       refine⟨⟨by omega,by omega⟩,?_⟩;conv=>whnf
       rw[show jC 1 (Int.toNat (k:Int)) (List.map sA l3)=[.v (.int .u8 l3[k])] from jeX l3 k hlt]
       obtain⟨m,hm⟩ : ∃ m:Nat,(m:Int)=l3[k]'hlt:=⟨(l3[k]'hlt).toNat,by omega⟩
       rw[<- hm] at hr3 ⊢;conv=>whnf
       refine⟨⟨by omega,by omega⟩,?_⟩;conv=>whnf
       refine gQ (by rw[wV];simp;omega) ?_;conv=>whnf
       refine⟨jU (by omega),?_⟩;conv=>whnf
       refine⟨k+1,dB ?_,by omega,by omega⟩;unfold cW
       repeat' constructor
       ·exact congrArg (fun x=>[j0 fun _=>0,x]) (by
         show (j0 (f3 k)).set (0+m*1) (sA 1)=_
         rw[Nat.mul_one,Nat.zero_add];exact jog k hlt m hm)
      ·refine j5 (by simp;omega) ?_
       obtain rfl:k=3:=by omega
       conv=>whnf
       refine jB [0,1,32] ?_;conv=>whnf
       refine mG (fun k:Nat=>[(31,.sl 1 16 (l5.map sA)),(33,.v (.int .i64 k))]) (fun k=>[j0 fun _=>0,j0 (f5 k)]) (fun _=>[.pub 1 3 (l3.map sA),.pub 1 16 (l5.map sA)]) (fun k=>k<=16) (fun k=>16-k) 0 ?_ (by omega) ?_
       ·unfold cW
        repeat' constructor
       ·rintro k hk;conv=>whnf
        by_cases hlt:k<16
        ·have hr5:=jox k hlt
         refine zG (by simp;omega) ?_;conv=>whnf
         refine⟨⟨by omega,by omega⟩,?_⟩;conv=>whnf
         rw[show jC 1 (Int.toNat (k:Int)) (List.map sA l5)=[.v (.int .u8 l5[k])] from jeX l5 k hlt]
         obtain⟨m,hm⟩ : ∃ m:Nat,(m:Int)=l5[k]'hlt:=⟨(l5[k]'hlt).toNat,by omega⟩
         rw[<- hm] at hr5 ⊢;conv=>whnf
         refine⟨⟨by omega,by omega⟩,?_⟩;conv=>whnf
         refine gQ (by rw[wV];simp;omega) ?_;conv=>whnf
         refine⟨jU (by omega),?_⟩;conv=>whnf
         refine⟨k+1,dB ?_,by omega,by omega⟩;unfold cW
         repeat' constructor
         ·exact congrArg (fun x=>[j0 fun _=>0,x]) (by
           show (j0 (f5 k)).set (0+m*1) (sA 5)=_
           rw[Nat.mul_one,Nat.zero_add];exact joh k hlt m hm)
        ·refine j5 (by simp;omega) ?_
         obtain rfl:k=16:=by omega
         have hlen0:=wV fun _=>0
         have hlen5:=wV (f5 16)
         have hfin:(j0 (f5 16)).set 35 (sA 4)=j0 classOf:=by rw[cM];rfl
         have hpl:=s6 classOf
         have hu:vF (j0 classOf)=j0 classOf:=by kernel_rfl
         generalize j0 (fun _=>0)=L0 at *;generalize j0 (f5 16)=L5 at *;generalize j0 classOf=Lc at *;conv=>whnf
         refine⟨⟨by omega,by omega⟩,?_⟩;conv=>whnf
         refine gQ (by rw[hlen5];simp) ?_;generalize hLs:L5.set (0+Int.toNat 35*_) _=Ls
         obtain rfl:Ls=Lc:=hLs.symm.trans hfin
         have hlen:Ls.length=256:=by rw[<- hfin,List.length_set,hlen5]
         conv=>whnf
         refine jac (cs:=Ls) (n:=256) (Nat.le_of_eq hlen.symm) ?_;rw[List.take_of_length_le (Nat.le_of_eq hlen)];conv=>whnf
         rw[hu,hlen];conv=>whnf
         refine lJ (ds:=Ls) (cs:=L0) [] (by rw[hlen,hlen0]) ?_;rw[List.nil_append];conv=>whnf
         refine jac (cs:=Ls) (n:=256) (Nat.le_of_eq hlen.symm) ?_;rw[List.take_of_length_le (Nat.le_of_eq hlen)];conv=>whnf
         rw[hu,jiP hpl]
theorem jbG (f:Nat->Int) (i:Nat) (hi:i<256):jC 1 i (j0 f)=[.v (.int .u8 (f i))]:=by
 unfold j0
 have:=wM (fun j=>sA (f j)) (List.range 256) i (by simpa using hi)
 rw[this];simp[sA]
def wW (p:UInt8->Bool) (l:List UInt8):Int:=if jF p l<l.length then (jF p l:Int) else -1
theorem jhV (p:UInt8->Bool) (l:List UInt8) (k:Nat) (hk:k<l.length) (h:jF p l=k+jF p (l.drop k)) (hp:p l[k]=true):jF p l=k+1+jF p (l.drop (k+1)):=by
 rw[h,eE l k hk];simp only[jF,hp];omega
theorem jbS (p:UInt8->Bool) (l:List UInt8) (k:Nat) (hk:k<l.length) (h:jF p l=k+jF p (l.drop k)) (hp:p l[k]=false):jF p l=k:=by
 rw[h,eE l k hk];simp only[jF,hp];omega
theorem jdy (c:UInt8):0<=(c.toNat:Int)/\(c.toNat:Int)<256:=⟨by omega,by have:=c.toNat_lt;omega⟩
theorem jcG (b:ByteArray) (hb:b.size<=1000000000):Spec Tryz.prog 153 [] [.sl 1 b.size (kD b),.v (.int .u8 10)] fun _ r=>r=intA (wW yK b.data.toList):=by
 have hsl:=z7 b
 refine eN jM qD 0 Tryz.func153 rfl ?_;intro _;conv=>whnf
 refine jB [0,1,4,7] ?_;conv=>whnf
 refine jE (fun k:Nat=>[(8,.v (.int .i64 k))]) (fun _=>[]) (fun _=>[]) (fun k=>k<=b.size/\jF yK b.data.toList=k+jF yK (b.data.toList.drop k)) (fun k=>b.size-k) 0 ?_ ⟨Nat.zero_le _,by simp⟩ ?_
 ·repeat' constructor
 ·rintro k ⟨hk,hinv⟩;conv=>whnf
  by_cases hlt:k<b.size
  ·refine zG (by simp;omega) ?_;conv=>whnf
   refine⟨⟨by omega,by omega⟩,?_⟩;conv=>whnf
   rw[show jC 1 (Int.toNat (k:Int)) (kD b)=_ from dO b k (by omega)]
   have h1:=jhV yK b.data.toList k (by omega) hinv
   have h2:=jbS yK b.data.toList k (by omega) hinv
   generalize b.data.toList[k]'(by omega)=c at *;conv=>whnf
   cases hq:yK c
   ·have hc:(c.toNat:Int)=10:=by simpa [yK] using hq
    refine zG (by simp[hc]) ?_;conv=>whnf
    have:wW yK b.data.toList=k:=by unfold wW;rw[h2 hq,if_pos (by omega)]
    rw[this];rfl
   ·have hc : ¬ (c.toNat:Int)=10:=by simpa [yK] using hq
    refine j5 (by simp;omega) ?_;conv=>whnf
    refine⟨jU (by omega),?_⟩;conv=>whnf
    refine⟨k+1,eQ ?_,⟨by omega,h1 hq⟩,by omega⟩
    repeat' constructor
  ·refine j5 (by simp;omega) ?_
   obtain rfl:k=b.size:=by omega
   conv=>whnf
   rw[List.drop_of_length_le (by omega)] at hinv
   have:wW yK b.data.toList = -1:=by unfold wW;rw[hinv,if_neg (by simp[jF])]
   rw[this];rfl
theorem fX (l:List ByteArray) (s:ByteArray) (hl:l.length<=1000000):Spec Tryz.prog 103 [] [.sl 1 l.length (dU l),.v (.string s)] fun _ r => ∃ n:Int,(-1<=n/\n<=1000000)/\decide (0<=n)=kX l s/\r=intA n:=by
 refine eN jM qD 0 Tryz.func103 rfl ?_;intro _;conv=>whnf
 refine jB [0,1,4,7] ?_;conv=>whnf
 refine jE (fun k:Nat=>[(8,.v (.int .i64 k))]) (fun _=>[]) (fun _=>[]) (fun k=>k<=l.length/\kX (l.take k) s=false) (fun k=>l.length-k) 0 ?_ ⟨Nat.zero_le _,by simp[kX]⟩ ?_
 ·repeat' constructor
 ·rintro k ⟨hk,hinv⟩;conv=>whnf
  by_cases hlt:k<l.length
  ·refine zG (by simp;omega) ?_;conv=>whnf
   refine⟨⟨by omega,by omega⟩,?_⟩;conv=>whnf
   rw[show jC 1 (Int.toNat (k:Int)) (dU l)=[.v (.string l[k])] from uY l k hlt];conv=>whnf
   cases hq:decide (l[k]=s)
   ·refine j5 (by rw[<- hq];exact decide_eq_decide.2 eq_comm) ?_;conv=>whnf
    refine⟨jU (by omega),?_⟩;conv=>whnf
    refine⟨k+1,eQ ?_,⟨hlt,by rw[jio l s k hlt,hinv,hq];rfl⟩,by omega⟩
    repeat' constructor
   ·refine zG (by rw[<- hq];exact decide_eq_decide.2 eq_comm) ?_;conv=>whnf
    have:kX l s=true:=List.any_eq_true.2 ⟨l[k],List.getElem_mem hlt,hq⟩
    exact⟨k,by omega,by rw[this];simp,rfl⟩
  ·refine j5 (by simp;omega) ?_
   obtain rfl:k=l.length:=by omega
   rw[List.take_length] at hinv;conv=>whnf
   exact⟨-1,by omega,by rw[hinv];rfl,rfl⟩
theorem jay (l:List ByteArray) (s:ByteArray) (hl:l.length<=1000000):Spec Tryz.prog 157 [] [.sl 1 l.length (dU l),.v (.string s)] fun _ r=>r=qR (kX l s):=by
 refine eN jM qD 0 Tryz.func157 rfl ?_;intro _;conv=>whnf
 refine kS [] (fX l s hl) ?_;rintro r ⟨n,hn,hq,rfl⟩;conv=>whnf
 rw[hq];rfl
theorem jee (k:Int):Spec Tryz.prog 154 [] [.v (.int .u8 k)] fun _ r=>r=qR (decide (k=2) || decide (k=3)):=by
 refine eN jM qD 0 Tryz.func154 rfl ?_;intro _;conv=>whnf
 cases h:decide (k=2)
 ·conv=>whnf
  simp[qR,h]
 ·conv=>whnf
  simp[qR,h]
theorem jg2 (k:Int):Spec Tryz.prog 155 [] [.v (.int .u8 k)] fun _ r=>r=qR (decide (k=3)):=by
 refine eN jM qD 0 Tryz.func155 rfl ?_;intro _;conv=>whnf
 rfl
def nL (p:Int->Bool) (c:UInt8):Bool:=p (classOf c.toNat)
theorem jgf (f:Nat) (p:Int->Bool) (hf:∀ k,Spec Tryz.prog f [] [.v (.int .u8 k)] fun _ r=>r=qR (p k)) (c:UInt8) :
  Spec Tryz.prog 152 [[.clo f []]] [.v (.int .u8 (c.toNat:Int)),.box 0 0,.pp (j0 classOf)] fun outs r=>outs=[[.clo f []]]/\r=qR (!nL p c):=by
 have hc:=jdy c
 obtain⟨L,hL⟩ : ∃ L,L=j0 classOf:=⟨_,rfl⟩
 rw[<- hL];refine eN joN qD 1 Tryz.func152 rfl ?_;intro _;conv=>whnf
 refine⟨⟨by omega,by omega⟩,?_⟩;generalize hq:jC _ (Int.toNat (c.toNat:Int)) L=q
 obtain rfl:q=[.v (.int .u8 (classOf c.toNat))]:=by rw[<- hq,hL];exact jbG classOf c.toNat (by omega)
 conv=>whnf
 refine jdz [] rfl (fun _=>hf _) ?_;rintro r rfl;conv=>whnf
 exact⟨rfl,rfl⟩
theorem jcA (f:Nat) (p:Int->Bool) (hf:∀ k,Spec Tryz.prog f [] [.v (.int .u8 k)] fun _ r=>r=qR (p k)) (b:ByteArray) (hb:b.size<=1000000000) :
  Spec Tryz.prog 151 [[.clo f []]] [.sl 1 b.size (kD b),.clo 152 [.box 0 0,.pp (j0 classOf)]] fun outs r=>outs=[[.clo f []]]/\r=intA (wW (nL p) b.data.toList):=by
 have hsl:=z7 b
 have hno:=jgf f p hf
 obtain⟨L,hL⟩ : ∃ L,L=j0 classOf:=⟨_,rfl⟩
 rw[<- hL] at hno ⊢;refine eN jM qD 1 Tryz.func151 rfl ?_;intro _;conv=>whnf
 refine jB [0,1,4,7] ?_;conv=>whnf
 refine jE (fun k:Nat=>[(8,.v (.int .i64 k))]) (fun _=>[[.clo f []]]) (fun _=>[]) (fun k=>k<=b.size/\jF (nL p) b.data.toList=k+jF (nL p) (b.data.toList.drop k)) (fun k=>b.size-k) 0 ?_ ⟨Nat.zero_le _,by simp⟩ ?_
 ·repeat' constructor
 ·rintro k ⟨hk,hinv⟩;conv=>whnf
  by_cases hlt:k<b.size
  ·refine zG (by simp;omega) ?_;conv=>whnf
   refine⟨⟨by omega,by omega⟩,?_⟩;conv=>whnf
   rw[show jC 1 (Int.toNat (k:Int)) (kD b)=_ from dO b k (by omega)]
   have h1:=jhV (nL p) b.data.toList k (by omega) hinv
   have h2:=jbS (nL p) b.data.toList k (by omega) hinv
   generalize b.data.toList[k]'(by omega)=c at *;conv=>whnf
   refine qN 0 [] (hno c) ?_;rintro o r ⟨ho,rfl⟩
   obtain rfl:o=[.clo f []]:=by simpa using ho
   conv=>whnf
   cases hq:nL p c
   ·conv=>whnf
    have:wW (nL p) b.data.toList=k:=by unfold wW;rw[h2 hq,if_pos (by omega)]
    rw[this];exact⟨rfl,rfl⟩
   ·conv=>whnf
    refine⟨jU (by omega),?_⟩;conv=>whnf
    refine⟨k+1,eQ ?_,⟨by omega,h1 hq⟩,by omega⟩
    repeat' constructor
  ·refine j5 (by simp;omega) ?_
   obtain rfl:k=b.size:=by omega
   conv=>whnf
   rw[List.drop_of_length_le (by omega)] at hinv
   have:wW (nL p) b.data.toList = -1:=by unfold wW;rw[hinv,if_neg (by simp[jF])]
   rw[this];exact⟨rfl,rfl⟩
theorem jbR (f:Nat) (p:Int->Bool) (hf:∀ k,Spec Tryz.prog f [] [.v (.int .u8 k)] fun _ r=>r=qR (p k)) (b:ByteArray) (hb:b.size<=1000000000) :
  Spec Tryz.prog 150 [] [.clo f [],.pp [.v (.string b)],.pp (j0 classOf)] fun _ r=>r=intA (jF (nL p) b.data.toList:Nat):=by
 have hsl:=z7 b
 have hidx:=jcA f p hf b hb
 have hle:=yW (nL p) b.data.toList
 obtain⟨L,hL⟩ : ∃ L,L=j0 classOf:=⟨_,rfl⟩
 rw[<- hL] at hidx ⊢;refine eN jM qD 0 Tryz.func150 rfl ?_;intro _;conv=>whnf
 refine qN 0 [] hidx ?_;rintro o r ⟨ho,rfl⟩
 obtain rfl:o=[.clo f []]:=by simpa using ho
 conv=>whnf
 by_cases hlt:jF (nL p) b.data.toList<b.data.toList.length
 ·have hv:wW (nL p) b.data.toList=(jF (nL p) b.data.toList:Nat):=by unfold wW;rw[if_pos hlt]
  generalize wW (nL p) b.data.toList=v at *;refine j5 (b:=decide (v<0)) (jH (by omega)) ?_;conv=>whnf
  rw[hv];rfl
 ·have hv:wW (nL p) b.data.toList = -1:=by unfold wW;rw[if_neg hlt]
  generalize wW (nL p) b.data.toList=v at *;refine zG (b:=decide (v<0)) (jP (by omega)) ?_;conv=>whnf
  have:jF (nL p) b.data.toList=b.size:=by omega
  rw[this];rfl
theorem jig (c:UInt8):nL (fun k=>decide (k=2) || decide (k=3)) c=vK c:=by
 have:∀ n:Fin 256,(decide (classOf n.val=2) || decide (classOf n.val=3))=((decide (97<=(n.val:Int)) && decide ((n.val:Int)<=122)) || (decide (48<=(n.val:Int)) && decide ((n.val:Int)<=57))):=by decide +kernel
 exact this ⟨c.toNat,c.toNat_lt⟩
theorem jdK (c:UInt8):nL (fun k=>decide (k=3)) c=x8 c:=by
 have:∀ n:Fin 256,decide (classOf n.val=3)=(decide (48<=(n.val:Int)) && decide ((n.val:Int)<=57)):=by decide +kernel
 exact this ⟨c.toNat,c.toNat_lt⟩
theorem pY {p q:UInt8->Bool} (h:∀ c,p c=q c) (l:List UInt8):jF p l=jF q l:=by
 have:p=q:=funext h
 rw[this]
theorem jj9 (b:ByteArray) (hb:b.size<=1000000000):Spec Tryz.prog 150 [] [.clo 154 [],.pp [.v (.string b)],.pp (j0 classOf)] fun _ r=>r=intA (jF vK b.data.toList:Nat):=by
 have:=jbR _ _ jee b hb
 rw[pY jig] at this;exact this
theorem jkt (b:ByteArray) (hb:b.size<=1000000000):Spec Tryz.prog 150 [] [.clo 155 [],.pp [.v (.string b)],.pp (j0 classOf)] fun _ r=>r=intA (jF x8 b.data.toList:Nat):=by
 have:=jbR _ _ jg2 b hb
 rw[pY jdK] at this;exact this
theorem jo6 (c:UInt8):decide (classOf c.toNat=1)=jed c:=by
 have:∀ n:Fin 256,decide (classOf n.val=1)=((decide ((n.val:Int)=32) || decide ((n.val:Int)=9)) || decide ((n.val:Int)=10)):=by decide +kernel
 exact this ⟨c.toNat,c.toNat_lt⟩
theorem jjJ (c:UInt8):decide (classOf c.toNat=4)=gC c:=by
 have:∀ n:Fin 256,decide (classOf n.val=4)=decide ((n.val:Int)=35):=by decide +kernel
 exact this ⟨c.toNat,c.toNat_lt⟩
theorem jpL (c:UInt8):decide (classOf c.toNat=2)=isL c:=by
 have:∀ n:Fin 256,decide (classOf n.val=2)=(decide (97<=(n.val:Int)) && decide ((n.val:Int)<=122)):=by decide +kernel
 exact this ⟨c.toNat,c.toNat_lt⟩
theorem jpK (c:UInt8):decide (classOf c.toNat=3)=x8 c:=jdK c
theorem jnm (c:UInt8):decide (classOf c.toNat=5)=kX uK (bs [c]):=by
 have:∀ n:Fin 256,decide (classOf n.val=5)=kX uK (bs [UInt8.ofNat n.val]):=by decide +kernel
 have h:=this ⟨c.toNat,c.toNat_lt⟩
 simpa using h
end Go.Proofs.YtfbifdccmabdbaaGreatDoor.Vm
namespace Go.Proofs.YtfbifdccmabdbaaGreatDoor.Vm
open Go.RowKit Go.Shelf
def puR (l:List UInt8):A:=if gN 0 l<0 then .tup [.v (.int .u64 2147483647),.v (.iface 206 (.int .i64 1))] else .tup [.v (.int .u64 (gN 0 l)),.v .nilIface]
theorem jgP {n:Int} (h:0<=n/\n<=18446744073709551615):lo .u64<=n/\n<=hi .u64:=h
theorem jgt (s:ByteArray) (hs:s.size<=1000000000) (hs1:1<=s.size) (hd:∀ c ∈ s.data.toList,x8 c=true) :
  Spec Tryz.prog 169 [] [.v (.string s),.v (.int .i64 10),.v (.int .i64 31)] fun _ r=>r=puR s.data.toList:=by
 have hsl:=z7 s
 refine eN jM qD 0 Tryz.func169 rfl ?_;intro _;conv=>whnf
 refine j5 (jH fun e=>by have h0:s.size=0:=(congrArg ByteArray.size e).trans rfl;omega) ?_;conv=>whnf
 refine⟨jgP (by omega),?_⟩;conv=>whnf
 refine⟨⟨by omega,by decide⟩,?_⟩;rw[show (1:Int)*2 ^ (Int.toNat 31)=2147483648 from by decide];conv=>whnf
 refine⟨jgP (by omega),?_⟩;conv=>whnf
 refine⟨jgP (by omega),?_⟩;conv=>whnf
 refine jB [0,1,8,9,10,11,12,99,100] ?_;conv=>whnf
 refine jE (fun x:Nat × Int=>[(13,.v (.int .u64 x.2)),(101,.v (.int .i64 x.1))]) (fun _=>[]) (fun _=>[]) (fun x=>x.1<=s.size/\0<=x.2/\x.2<=2147483647/\gN x.2 (s.data.toList.drop x.1)=gN 0 s.data.toList) (fun x=>s.size-x.1) (0,0) ?_ ⟨Nat.zero_le _,by simp,by simp,by simp⟩ ?_
 ·repeat' constructor
 ·rintro⟨j,v⟩ ⟨hj,hv0,hv1,hinv⟩
  simp only at hj hv0 hv1 hinv
  conv=>whnf
  by_cases hlt:j<s.size
  ·refine zG (by simp;omega) ?_;conv=>whnf
   refine⟨⟨by omega,by omega⟩,?_⟩;conv=>whnf
   rw[show jC 1 (Int.toNat (j:Int)) (kD s)=_ from dO s j (by omega)]
   have hdj:=hd _ (List.getElem_mem (l:=s.data.toList) (n:=j) (by omega))
   have hdr:=eE s.data.toList j (by omega)
   generalize hc:s.data.toList[j]'(by omega)=c at *
   have hr:=jmh hdj
   conv=>whnf
   rw[show decide ((c.toNat:Int)=95)=false from jH (by omega)];conv=>whnf
   rw[show decide ((48:Int)<=(c.toNat:Int))=true from jP (by omega)];conv=>whnf
   rw[show decide ((c.toNat:Int)<=57)=true from jP (by omega)];conv=>whnf
   refine⟨u8r (by omega),?_⟩;conv=>whnf
   refine⟨u8r (by omega),?_⟩;conv=>whnf
   rw[show decide ((10:Int)<=(c.toNat:Int)-48)=false from jH (by omega)];conv=>whnf
   refine j5 (b:=decide ((1844674407370955162:Int)<=v)) (jH (by omega)) ?_;conv=>whnf
   refine⟨jgP (by omega),?_⟩;conv=>whnf
   refine⟨jgP (by omega),?_⟩;conv=>whnf
   refine⟨jgP (by omega),?_⟩;conv=>whnf
   refine⟨jgP (by omega),?_⟩;conv=>whnf
   rw[show decide (v*10+((c.toNat:Int)-48)<v*10)=false from jH (by omega)];conv=>whnf
   have hst:gN v (s.data.toList.drop j)=if 2147483647<10*v+(c.toNat:Int)-48 then -1 else gN (10*v+(c.toNat:Int)-48) (s.data.toList.drop (j+1)):=by rw[hdr];rfl
   have hv2:v*10+((c.toNat:Int)-48)=10*v+(c.toNat:Int)-48:=by omega
   by_cases hbig:2147483647<10*v+(c.toNat:Int)-48
   ·rw[if_pos hbig] at hst
    have hf:gN 0 s.data.toList<0:=by rw[<- hinv,hst];decide
    refine zG (b:=decide ((2147483647:Int)<v*10+((c.toNat:Int)-48))) (jP (by omega)) ?_;conv=>whnf
    unfold puR;rw[if_pos hf];rfl
   ·rw[if_neg hbig] at hst;refine j5 (b:=decide ((2147483647:Int)<v*10+((c.toNat:Int)-48))) (jH (by omega)) ?_;conv=>whnf
    refine⟨jU (by omega),?_⟩;conv=>whnf
    refine⟨(j+1,v*10+((c.toNat:Int)-48)),eQ ?_,⟨by simp only;omega,by simp only;omega,by simp only;omega,by simp only;rw[hv2,<- hst,hinv]⟩,by simp only;omega⟩
    repeat' constructor
  ·refine j5 (by simp;omega) ?_;rw[List.drop_of_length_le (by omega)] at hinv
   have hf:gN 0 s.data.toList=v:=by rw[<- hinv];rfl
   conv=>whnf
   unfold puR;rw[hf,if_neg (by omega)]
def mD:Go.Shelf.Ren:=⟨fun | 17=>170 | 21=>179 | 22=>180 | 23=>181 | 24=>182 | 25=>206 | 26=>207 | 27=>208 | 28=>218 | 29=>227 | 30=>231 | 31=>232 | 32=>233 | 33=>234 | 34=>236 | 35=>205 | 36=>237 | 37=>238 | 38=>239 | 39=>241 | 40=>242 | n=>n,fun | 22=>186 | 24=>188 | 34=>206 | 36=>205 | 37=>104 | 39=>208 | 44=>226 | 47=>235 | 48=>236 | 50=>238 | 52=>248 | 55=>250 | 59=>252 | 60=>222 | 61=>253 | 65=>254 | 66=>255 | 67=>94 | n=>n,fun | 2=>3 | 3=>4 | 4=>5 | n=>n⟩
theorem jaC:LaysPu.n17 Tryz.prog mD where
 mixed:=by kernel_rfl
 f17:=Tryz.func170.trans (congrArg some (by kernel_rfl))
 f21:=Tryz.func179.trans (congrArg some (by kernel_rfl))
 f22:=Tryz.func180.trans (congrArg some (by kernel_rfl))
 f23:=Tryz.func181.trans (congrArg some (by kernel_rfl))
 f24:=Tryz.func182.trans (congrArg some (by kernel_rfl))
 f25:=Tryz.func206.trans (congrArg some (by kernel_rfl))
 f26:=Tryz.func207.trans (congrArg some (by kernel_rfl))
 f27:=Tryz.func208.trans (congrArg some (by kernel_rfl))
 f28:=Tryz.func218.trans (congrArg some (by kernel_rfl))
 f29:=Tryz.func227.trans (congrArg some (by kernel_rfl))
 f30:=Tryz.func231.trans (congrArg some (by kernel_rfl))
 f31:=Tryz.func232.trans (congrArg some (by kernel_rfl))
 f32:=Tryz.func233.trans (congrArg some (by kernel_rfl))
 f33:=Tryz.func234.trans (congrArg some (by kernel_rfl))
 f34:=Tryz.func236.trans (congrArg some (by kernel_rfl))
 f35:=Tryz.func205.trans (congrArg some (by kernel_rfl))
 f36:=Tryz.func237.trans (congrArg some (by kernel_rfl))
 f37:=Tryz.func238.trans (congrArg some (by kernel_rfl))
 f38:=Tryz.func239.trans (congrArg some (by kernel_rfl))
 f39:=Tryz.func241.trans (congrArg some (by kernel_rfl))
 f40:=Tryz.func242.trans (congrArg some (by kernel_rfl))
 t0:=Tryz.underlying0
 a0:=Tryz.isAgg0
 z0:=Tryz.sizeOf0
 v0:=Tryz.zeroValue0
 i0:=by kernel_rfl
 t2:=Tryz.underlying2
 a2:=Tryz.isAgg2
 z2:=Tryz.sizeOf2
 v2:=Tryz.zeroValue2
 i2:=by kernel_rfl
 t3:=Tryz.underlying3
 a3:=Tryz.isAgg3
 z3:=Tryz.sizeOf3
 v3:=Tryz.zeroValue3
 i3:=by kernel_rfl
 t4:=Tryz.underlying4
 a4:=Tryz.isAgg4
 z4:=Tryz.sizeOf4
 v4:=Tryz.zeroValue4
 i4:=by kernel_rfl
 t5:=Tryz.underlying5
 a5:=Tryz.isAgg5
 z5:=Tryz.sizeOf5
 v5:=Tryz.zeroValue5
 i5:=by kernel_rfl
 t9:=Tryz.underlying9
 a9:=Tryz.isAgg9
 z9:=Tryz.sizeOf9
 v9:=Tryz.zeroValue9
 i9:=by kernel_rfl
 t20:=Tryz.underlying20
 a20:=Tryz.isAgg20
 z20:=Tryz.sizeOf20
 v20:=Tryz.zeroValue20
 i20:=by kernel_rfl
 t22:=Tryz.underlying186
 a22:=Tryz.isAgg186
 z22:=Tryz.sizeOf186
 v22:=Tryz.zeroValue186
 i22:=by kernel_rfl
 t24:=Tryz.underlying188
 a24:=Tryz.isAgg188
 z24:=Tryz.sizeOf188
 v24:=Tryz.zeroValue188
 i24:=by kernel_rfl
 t34:=Tryz.underlying206
 a34:=Tryz.isAgg206
 z34:=Tryz.sizeOf206
 v34:=Tryz.zeroValue206
 i34:=by kernel_rfl
 c34:=by kernel_rfl
 t36:=Tryz.underlying205
 a36:=Tryz.isAgg205
 z36:=Tryz.sizeOf205
 v36:=Tryz.zeroValue205
 i36:=by kernel_rfl
 t37:=Tryz.underlying104
 a37:=Tryz.isAgg104
 z37:=Tryz.sizeOf104
 v37:=Tryz.zeroValue104
 i37:=by kernel_rfl
 t39:=Tryz.underlying208
 a39:=Tryz.isAgg208
 z39:=Tryz.sizeOf208
 v39:=Tryz.zeroValue208
 i39:=by kernel_rfl
 t44:=Tryz.underlying226
 a44:=Tryz.isAgg226
 z44:=Tryz.sizeOf226
 v44:=Tryz.zeroValue226
 i44:=by kernel_rfl
 t47:=Tryz.underlying235
 a47:=Tryz.isAgg235
 z47:=Tryz.sizeOf235
 v47:=Tryz.zeroValue235
 i47:=by kernel_rfl
 t48:=Tryz.underlying236
 a48:=Tryz.isAgg236
 z48:=Tryz.sizeOf236
 v48:=Tryz.zeroValue236
 i48:=by kernel_rfl
 t50:=Tryz.underlying238
 a50:=Tryz.isAgg238
 z50:=Tryz.sizeOf238
 v50:=Tryz.zeroValue238
 i50:=by kernel_rfl
 t52:=Tryz.underlying248
 a52:=Tryz.isAgg248
 z52:=Tryz.sizeOf248
 v52:=Tryz.zeroValue248
 i52:=by kernel_rfl
 t55:=Tryz.underlying250
 a55:=Tryz.isAgg250
 z55:=Tryz.sizeOf250
 v55:=Tryz.zeroValue250
 i55:=by kernel_rfl
 t59:=Tryz.underlying252
 a59:=Tryz.isAgg252
 z59:=Tryz.sizeOf252
 v59:=Tryz.zeroValue252
 i59:=by kernel_rfl
 t60:=Tryz.underlying222
 a60:=Tryz.isAgg222
 z60:=Tryz.sizeOf222
 v60:=Tryz.zeroValue222
 i60:=by kernel_rfl
 t61:=Tryz.underlying253
 a61:=Tryz.isAgg253
 z61:=Tryz.sizeOf253
 t65:=Tryz.underlying254
 a65:=Tryz.isAgg254
 z65:=Tryz.sizeOf254
 v65:=Tryz.zeroValue254
 i65:=by kernel_rfl
 t66:=Tryz.underlying255
 a66:=Tryz.isAgg255
 z66:=Tryz.sizeOf255
 v66:=Tryz.zeroValue255
 i66:=by kernel_rfl
 t67:=Tryz.underlying94
 a67:=Tryz.isAgg94
 z67:=Tryz.sizeOf94
 v67:=Tryz.zeroValue94
 i67:=by kernel_rfl
 g0:=by kernel_rfl
 m0:=by kernel_rfl
 g1:=by kernel_rfl
 m1:=by kernel_rfl
 g2:=by kernel_rfl
 m2:=by kernel_rfl
 g3:=by kernel_rfl
 m3:=by kernel_rfl
 g4:=by kernel_rfl
 m4:=by kernel_rfl

theorem jcZ {E:Env} : ∀ {l us:List Value},A.repL (l.map .v) E us->us=l
 | [],us,h=>by unfold A.repL at h;exact h
 | x :: r,us,h=>by
  simp only[List.map_cons] at h;unfold A.repL at h
  obtain⟨u,us',rfl,h1,h2⟩ := h
  rw[(A.rep_v_iff.1 h1).1,jcZ h2]
theorem jd8 (fn s:ByteArray) (hs:s.size<=1000000000):Spec Tryz.prog 170 [] [.v (.string fn),.v (.string s),.v (.int .i64 10),.v (.int .i64 31),.v (.iface 206 (.int .i64 1))] fun _ r=>r = .err:=by
 refine dT (aQ Tryz.func170 rfl (by kernel_rfl)) fun w C vals h0 h1 h2 => ?_
 obtain rfl:=jcZ (l:=[.string fn,.string s,.int .i64 10,.int .i64 31,.iface 206 (.int .i64 1)]) h2
 have hg:=h0.at (g:=1) (cs:=[.err]) rfl
 simp only[A.repAt,A.rep] at hg
 obtain⟨⟨u,k1,k2,t,v,rfl⟩,-⟩ := hg
 refine (AnyPu.strconv_toError_range jaC fn s 10 31 _ w (by omega) (h1 _ _ k1) (.inr ⟨t,v,rfl⟩)).mono ?_;rintro e w' ⟨n,rfl,k3,k4,k5⟩;exact⟨_,rfl,k5,by unfold A.rep;exact⟨_,_,rfl⟩⟩
theorem jmC (s:ByteArray) (hs:s.size<=1000000000) (hs1:1<=s.size) (hd:∀ c ∈ s.data.toList,x8 c=true) :
  Spec Tryz.prog 156 [] [.v (.string s),.v (.int .i64 10),.v (.int .i64 31)] fun _ r=>r=if gN 0 s.data.toList<0 then .tup [.v (.int .u64 2147483647),.err] else .tup [.v (.int .u64 (gN 0 s.data.toList)),.v .nilIface]:=by
 have hpu:=jgt s hs hs1 hd
 unfold puR at hpu;refine eN jM qD 0 Tryz.func156 rfl ?_;intro _;conv=>whnf
 refine kS [] hpu ?_;rintro r rfl;generalize gN 0 s.data.toList=v at *
 by_cases hv:v<0
 ·rw[if_pos hv,if_pos hv];conv=>whnf
  refine jdz [] rfl (fun _=>jd8 _ s hs) ?_;rintro r rfl;conv=>whnf
 ·rw[if_neg hv,if_neg hv];conv=>whnf
end Go.Proofs.YtfbifdccmabdbaaGreatDoor.Vm
namespace Go.Proofs.YtfbifdccmabdbaaGreatDoor.Vm
open Go.RowKit
theorem jpU {d:Prop} {i:Decidable d} {p q:Unit->Prop} (h:Tab.get.match_1 (fun _=>Prop) (@decide d i) p q):Tab.get.match_1 (fun _=>Prop) (@decide d i) p q:=h
theorem jpV {d:Prop} {i:Decidable d} {p q:Unit->Prop} (h:Tab.get.match_1 (fun _=>Prop) (!@decide d i) p q):Tab.get.match_1 (fun _=>Prop) (!@decide d i) p q:=h
theorem jpW {d:Prop} {i:Decidable d} {b:Bool} {p q:Unit->Prop} (h:Tab.get.match_1 (fun _=>Prop) (@decide d i && b) p q):Tab.get.match_1 (fun _=>Prop) (@decide d i && b) p q:=h
theorem jpX {d:Prop} {i:Decidable d} {b:Bool} {p q:Unit->Prop} (h:Tab.get.match_1 (fun _=>Prop) (!(@decide d i && b)) p q):Tab.get.match_1 (fun _=>Prop) (!(@decide d i && b)) p q:=h
theorem jpY {d:Prop} {i:Decidable d} {b:Bool} {p q:Unit->Prop} (h:Tab.get.match_1 (fun _=>Prop) (@decide d i == b) p q):Tab.get.match_1 (fun _=>Prop) (@decide d i == b) p q:=h
theorem jpZ {d:Prop} {i:Decidable d} {b:Bool} {p q:Unit->Prop} (h:Tab.get.match_1 (fun _=>Prop) (!(@decide d i == b)) p q):Tab.get.match_1 (fun _=>Prop) (!(@decide d i == b)) p q:=h
theorem jq0 {b c:Bool} {p q:Unit->Prop} (h:Tab.get.match_1 (fun _=>Prop) (!(b && c)) p q):Tab.get.match_1 (fun _=>Prop) (!(b && c)) p q:=h
theorem jq1 {b c:Bool} {p q:Unit->Prop} (h:Tab.get.match_1 (fun _=>Prop) (b && c) p q):Tab.get.match_1 (fun _=>Prop) (b && c) p q:=h
theorem jom {c:Bool} {p q:Prop} (h:ifK c p q):ifK c p q:=h
theorem jkk {n:Nat} (h:n<=100000000000000):n<=maxLen:=by unfold maxLen;omega
theorem jqF {α:Sort _} {x y:α} (h:x=y):x=y:=h
structure Tag (q:Prop):Prop where
 t:True
structure jps (q:Prop):Prop where
 un:q
theorem rN {p q:Prop} (hq:q) (k:jps q->p:=by intro hq;(repeat (first | ((with_reducible refine And.intro ?_ ?_);(focus (first | omega | (with_reducible refine jU ?_;(first | omega | (simp only[List.length_append,List.length_cons,List.length_nil,List.length_map,ByteArray.size_append];omega) | (dsimp only;omega))) | (with_reducible refine jkk ?_;(first | omega | (simp only[List.length_append,List.length_cons,List.length_nil,List.length_map,ByteArray.size_append];omega) | (dsimp only;omega))) | ((fail_if_success (with_reducible refine jkk ?_));decide) | (simp only[List.length_append,List.length_cons,List.length_nil,List.length_map,ByteArray.size_append];omega) | (dsimp only;omega) | ((with_reducible refine jU ?_);dsimp only;omega)));(conv=>whnf)) | ((first | with_reducible refine jpU ?_ | with_reducible refine jpV ?_ | with_reducible refine jpW ?_ | with_reducible refine jpX ?_ | with_reducible refine jpY ?_ | with_reducible refine jpZ ?_ | with_reducible refine jq0 ?_ | with_reducible refine jq1 ?_ | with_reducible refine jom ?_);first | ((focus (rw[jP];rotate_left;focus (first | (first | omega | (simp only[List.length_append,List.length_cons,List.length_nil,List.length_map,ByteArray.size_append];omega) | (dsimp only;omega)) | ((with_reducible refine jqF ?_);rfl))));(first | with_reducible refine zG rfl ?_ | with_reducible refine j5 rfl ?_ | skip);(conv=>whnf)) | ((focus (rw[jH];rotate_left;focus (first | (first | omega | (simp only[List.length_append,List.length_cons,List.length_nil,List.length_map,ByteArray.size_append];omega) | (dsimp only;omega)) | (intro h;cases h;done))));(first | with_reducible refine zG rfl ?_ | with_reducible refine j5 rfl ?_ | skip);(conv=>whnf)))));all_goals exact hq.un) (d:Tag q:=by first | exact (Tag.mk trivial:Tag True) | exact Tag.mk trivial):p:=k ⟨hq⟩
end Go.Proofs.YtfbifdccmabdbaaGreatDoor.Vm
namespace Go.Proofs.YtfbifdccmabdbaaGreatDoor.Vm
open Go.RowKit Go.Shelf
def jeA:Nat->List UInt8->Nat
 | n,[]=>n
 | n,c :: r=>jeA (10*n+(c.toNat-48)) r
def jav (l:List UInt8):Bool:=l.all x8
def ja3 (l:List UInt8):Prop := ∀ k,k<=l.length->jav (l.take k)=true->jeA 0 (l.take k)<=99999999999
def jqL (l:List UInt8):Option Nat:=if l ≠ []/\jav l=true then some (jeA 0 l) else none
def iK (s:ByteArray):ByteArray × Bool:=match s.data.toList with
 | []=>(s,false)
 | c :: r=>if c=118 then (bs r,true) else (s,false)
theorem jjL {s:ByteArray} (h:s.data.toList=[]):iK s=(s,false):=by unfold iK;rw[h]
theorem jo9 {s:ByteArray} {r:List UInt8} (h:s.data.toList=118 :: r):iK s=(bs r,true):=by unfold iK;rw[h];rfl
theorem jhc {s:ByteArray} {c:UInt8} {r:List UInt8} (h:s.data.toList=c :: r) (hc:c ≠ 118):iK s=(s,false):=by unfold iK;rw[h];exact if_neg hc
end Go.Proofs.YtfbifdccmabdbaaGreatDoor.Vm
namespace Go.Proofs.YtfbifdccmabdbaaGreatDoor.Vm
open Go.RowKit
def jlY (rows:List Row) (bx:List (List A)) (a:A):Option A:=match ren [] rows a with
 | some a' => some a'
 | none=>match a with
  | .box b off=>match bx[b]? with
   | some cs=>match qY [] rows (cs.drop off) with
    | some cs' => some (.pp (vF cs'))
    | none=>none
   | none=>none
  | _=>none
def pG (rows:List Row) (bx:List (List A)):List A->Option (List A)
 | []=>some []
 | a :: r=>match jlY rows bx a with
  | some a' => match pG rows bx r with
   | some r' => some (a' :: r')
   | none=>none
  | none=>none
def joX (c:Cx) (rv:List ResultVar) (post:List (List A)->A->Prop) (s:S):Prop :=
 jkR c.T s rv fun r=>match r with
  | .clo f caps=>match pG (jA s.rw (iL caps)) s.bx caps with
   | some caps' => post [] (.clo f caps')
   | none=>False
  | _=>False
def jqD (c:Cx) (rv:List ResultVar) (post:List (List A)->A->Prop) (e:Exit) (s:S):Prop :=
 match e with
 | .ret=>joX c rv post s
 | .normal=>joX c rv post s
 | _=>False
theorem jfb {c:Cx} {f:Nat} {fn:Func} {x:Code} {args:List A} {post:List (List A)->A->Prop} (hc:c.ok) (hf:c.P.funcs[f]? = some fn) (hb:fn.body=some x) (hname:(fn.name == "runtime.NumGoroutine")=false)
  (hn:c.np=0) (hq:∀ ch s,¬ c.pan ch s) (hord:zR c.ord x=true) (h:vN args->yF args (fn.ntmps-args.length) fun t=>rA c x ⟨t,[],[]⟩ (jqD c fn.results.toList post)):Spec c.P f [] args post:=by
 refine⟨nK hf hb hname,fun w C β vals h0 h1 h2 h3 h4 h5 h6 => ?_⟩
 have hβ:β=[]:=List.eq_nil_of_length_eq_zero (by simpa using h4.symm)
 subst hβ
 have hl:=A.repL_len h6
 refine calls_of_wp hf hb ?_
 have hinit:=initK_iff.1 (h (kO _ h6))
 have hinv:Inv [] (.of w) C [] ⟨args++List.replicate (fn.ntmps-args.length) .dead,[],[]⟩ { tmps:=vals.toArray++Array.replicate (fn.ntmps-vals.toArray.size) undef,defers:=[] } w:=by
  refine⟨⟨C,[],[]⟩,⟨h1,Sub.refl _,fun _ _ hc => .inl hc,⟨[],by simp,by simp⟩,h2,h3,h4,h5,rfl,fun g r y hg=>by simp at hg,fun g e k n cs y b hg=>by simp at hg,fun g e k n cs y h' e' k' n' cs' z b _ hg=>by simp at hg,fun g y hg=>by simp at hg,Keeps.refl _ _,jim h0⟩,?_,rfl⟩
  have:(vals.toArray++Array.replicate (fn.ntmps-vals.toArray.size) undef).toList=vals++List.replicate (fn.ntmps-args.length) undef:=by simp[hl]
  rw[this];exact A.repL_append h6 (vY _ _)
 refine x7 hc (by rw[hn];rfl) ⟨0,rfl⟩ x (.inl rfl) (fun ch s' _ _ h _=>absurd h (hq ch s')) hord hinv hinit ?_
 have fin:∀ (s':S) (a':Act) (w':World),joX c fn.results.toList post s'->Inv [] (.of w) C [] s' a' w'->a'.defers=[] /\ ∃ v,(results fn a'.tmps).run c.P w' = .ok v w' /\ ∃ outs r v',Ending.returned v = .returned v'/\post outs r/\Keeps [] w w'/\outs.length=([]:List Nat).length ∧
   (∀ (i b:Nat) (cs:List A),([]:List Nat)[i]? = some b->outs[i]? = some cs->boxAt w' ⟨qG C w w',[],[]⟩ b cs)/\r.rep ⟨qG C w w',[],[]⟩ v':=fun s' a' w' hr ⟨E,hp,ht,hd⟩=>by
  obtain⟨r,v,g1,g2,g3⟩ := jd0 (fn:=fn) hc hp ht hr
  refine⟨hd,v,g3,?_⟩
  split at g1
  ·rename_i f' caps
   split at g1
   ·rename_i caps' hcaps
    obtain⟨C1,hp1,le1⟩ := hp.pubs (iL caps)
    have lep:Sub C1 (qG C w w'):=fun ad u hc=>by
     unfold qG
     rcases hp1.fresh0 ad u hc with h7 | h7
     ·rw[if_pos (jZ w ad (h1 ad u h7))];exact h7
     ·rw[if_neg (by omega)];exact hp1.sub ad u hc
    have le0:(⟨C1,[],[]⟩ : Env).le ⟨qG C w w',[],[]⟩ := ⟨lep,fun _ _ h=>h,fun _ _ h=>h⟩
    have hY:wD ⟨C1,E.β,E.ρ⟩ [] []:=fun j i hj=>by simp at hj
    have one:∀ (a a2:A) (y:Value),jlY (jA s'.rw (iL caps)) s'.bx a=some a2->a.rep E y->a2.rep ⟨qG C w w',[],[]⟩ y:=fun a a2 y hcp hy=>by
     have hy1:=A.rep.mono a le1 hy
     unfold jlY at hcp
     split at hcp
     ·rename_i a3 hren
      cases hcp
      exact A.rep.mono _ le0 (rY hp1 hY a hren hy1)
     ·split at hcp
      ·rename_i b off _
       split at hcp
       ·rename_i cs hcs
        split at hcp
        ·rename_i cs' hrn
         cases hcp
         unfold A.rep at hy1
         obtain⟨bb,q1,q2⟩ := hy1
         obtain⟨T',arr,q3,q4⟩ := hp1.bxs b bb cs q1 hcs
         have hbb:w.heap.size<=bb:=by
          obtain⟨β',e1,e2⟩ := hp1.bp
          rw[List.nil_append] at e1;exact e2 bb (by rw[<- e1];exact List.mem_iff_getElem?.2 ⟨b,q1⟩)
         unfold A.rep;refine⟨bb,off,q2,?_⟩
         have q5:=jai q4.1 off
         have q6:A.repC (vF cs') ⟨C1,[],[]⟩ (arr.toList.drop off):=A.repC_mk (kV hp1 hY (vF (cs.drop off)) (jeS hrn) (A.repC_L q5)) (A.repC_one q5)
         refine A.repAt_mk (E:=(⟨qG C w w',[],[]⟩ : Env).per) (A.repC.mono _ le0 q6) fun j u hj => ?_
         show qG C w w' _=_
         rw[uN hbb];rw[List.getElem?_drop] at hj;simp only[zW,World.cell?,q3]
         simpa using hj
        ·cases hcp
       ·cases hcp
      ·cases hcp
    have all:∀ (l l2:List A) (us:List Value),pG (jA s'.rw (iL caps)) s'.bx l=some l2->A.repL l E us->A.repL l2 ⟨qG C w w',[],[]⟩ us:=fun l=>by
     induction l with
     | nil =>
      intro l2 us h7 h8;unfold pG at h7
      cases h7
      unfold A.repL at h8 ⊢;exact h8
     | cons a l ih =>
      intro l2 us h7 h8;unfold pG at h7
      split at h7
      ·rename_i a' ha
       split at h7
       ·rename_i r' hr'
        cases h7
        unfold A.repL at h8 ⊢
        obtain⟨u,us',rfl,q1,q2⟩ := h8
        exact⟨u,us',rfl,one _ _ _ ha q1,ih _ _ hr' q2⟩
       ·cases h7
      ·cases h7
    refine⟨[],_,v,rfl,g1,hp.keep0,rfl,fun i b cs hb=>by simp at hb,?_⟩;unfold A.rep at g2 ⊢
    obtain⟨us,q1,q2⟩ := g2
    exact⟨us,q1,all _ _ _ hcaps q2⟩
   ·exact g1.elim
  ·exact g1.elim
 intro e s' a' w' hq hi
 cases e with
 | normal=>exact fin s' a' w' hq hi
 | ret=>exact fin s' a' w' hq hi
 | _=>exact hq.elim
theorem jiV (s:ByteArray):Spec Tryz.prog 131 [] [.v (.string s)] fun _ r=>r = .clo 149 [.pp [.v (.string s)],.pp (j0 classOf)]:=by
 refine jfb (jY jM qD 0) Tryz.func131 rfl (by kernel_rfl) rfl (fun _ _ h=>h) (by kernel_rfl) ?_;intro _
 have hcl:=jcp
 have hpl:=s6 classOf
 have hlen:=wV classOf
 have hu:vF (j0 classOf)=j0 classOf:=by kernel_rfl
 generalize j0 classOf=L at *;conv=>whnf
 refine kS [] hcl ?_;rintro r rfl;rw[show back [] (A.agg L) = .agg L from by unfold back;rw[pE hpl]];conv=>whnf
 rw[hlen];conv=>whnf
 refine lJ (ds:=L) [] (by rw[hlen];rfl) ?_;rw[List.nil_append];conv=>whnf
 have hcp:pG ([]:List Row) [[A.v (Value.string s)],L] [A.box 0 0,A.box (0+1) 0]=some [.pp [.v (.string s)],.pp L]:=by
  have h1:qY [] ([]:List Row) (L.drop 0)=some L:=by rw[List.drop_zero];exact i6 hpl
  simp[pG,jlY,ren,idx,qY] at h1 ⊢
  rw[h1]
  show some [A.pp [.v (.string s)],.pp (vF L)]=_
  rw[hu]
 change (match pG ([]:List Row) [[A.v (Value.string s)],L] [A.box 0 0,A.box (0+1) 0] with
  | some caps' => A.clo 149 caps'=A.clo 149 [.pp [.v (.string s)],.pp L]
  | none=>False)
 rw[hcp]
section
def ppS (nr:Nat) (cs:List A) (a:A):A:=match a with
 | .box b off=>match b with
  | 0 => .pp (cs.drop off)
  | _+1 => .dead
 | a=>match wL 0 nr a with
  | true=>a
  | false => .dead
theorem bW {t:List A} {cs cs':List A} {rw:List Row} (hcs:qY [] rw cs=some cs') (hna:vF cs'=cs':=by rfl):Le 0 ⟨t,[cs],rw⟩ ⟨t.map (ppS rw.length cs'),[],rw⟩ := by
 rintro dr w0 C0 β0 a w hdr hn ⟨E,hp,hrep,hd⟩
 obtain rfl:β0=[]:=List.eq_nil_of_length_eq_zero hn
 have hbl:=hp.bl
 obtain⟨b,hβ⟩ : ∃ b,E.β=[b]:=by
  have:E.β.length=1:=by rw[<- hbl];rfl
  exact List.length_eq_one_iff.1 this
 have h0:E.β[0]? = some b:=by rw[hβ];rfl
 obtain⟨T',arr,q1,q2⟩ := hp.bxs 0 b cs h0 rfl
 have hbm:b ∈ E.β:=by rw[hβ];simp
 have hb0:w0.w.heap.size<=b:=by
  obtain⟨β',e1,e2⟩ := hp.bp
  rw[List.nil_append] at e1;exact e2 b (by rw[<- e1];exact hbm)
 obtain⟨C',hC'⟩ : ∃ C':Rd,C'=fun ad=>if ad.block=b then (zW w) ad else E.C ad:=⟨_,rfl⟩
 have hsub:Sub E.C C':=fun ad u hc=>by
  rw[hC']
  simp only
  split
  ·exact hp.sub ad u hc
  ·exact hc
 have le:(⟨E.C,[],E.ρ⟩ : Env).le ⟨C',[],E.ρ⟩ := ⟨hsub,fun _ _ h=>h,fun _ _ h=>h⟩
 have hat:A.repAt cs' ⟨C',[],[]⟩ b 0:=by
  have hY:wD E [] []:=fun j i hj=>by simp at hj
  have q3:A.repC cs' ⟨E.C,[],[]⟩ arr.toList:=by
   have:=(q2.ren hp hY hcs).1
   rwa [hna] at this
  refine A.repAt_mk (E:=⟨C',[],[]⟩) (A.repC.mono _ (E:=⟨E.C,[],[]⟩) (F:=⟨C',[],[]⟩) ⟨hsub,fun _ _ h=>h,fun _ _ h=>h⟩ q3) fun j u hj => ?_
  show C' _=_
  rw[hC'];simp only[if_true,Nat.zero_add];simp only[zW,World.cell?,q1]
  simpa using hj
 have hd':repD dr ⟨C',[],E.ρ⟩ a.defers:=by
  have h1:=eZ (E:=E) (nb:=0) (nr:=E.ρ.length) (Nat.le_refl 0) hdr hd
  rw[List.take_zero,List.take_length] at h1;exact h1.mono le
 refine⟨⟨C',[],E.ρ⟩,⟨fun ad u hc => ?_,hp.base.trans hsub,fun ad u hc => ?_,⟨[],rfl,by simp⟩,List.nodup_nil,fun b hb=>by simp at hb,rfl,fun i b cs hb=>by simp at hb,hp.rl,fun g r y h1 h2 => ?_,fun g e k n cs y b' h1 h2 h3=>⟨by simp,fun o sp => ?_⟩,hp.rd,hp.rs,hp.keep,hp.gk⟩,?_,hd'⟩
 ·rw[hC'] at hc
  simp only at hc
  split at hc
  ·exact hc
  ·exact hp.sub ad u hc
 ·rw[hC'] at hc
  simp only at hc
  split at hc
  ·rename_i e
   exact .inr (.inl (by rw[e];exact hb0))
  ·exact hp.fresh ad u hc
 ·have hr:=hp.rws g r y h1 h2
  cases r with
  | live e k n cs =>
   obtain⟨xs,g1,g2⟩ := hr
   exact⟨xs,g1,A.repC.mono cs (E:=⟨E.C,[],[]⟩) (F:=⟨C',[],[]⟩) ⟨hsub,fun _ _ h=>h,fun _ _ h=>h⟩ g2⟩
  | pub k n cs =>
   have hr:(A.sl k n cs).rep E y:=hr
   show (A.sl k n cs).rep _ y
   unfold A.rep at hr ⊢
   obtain⟨g1,g2,p,bb,off,cap,g3,g4,g5,g6,g7⟩ := hr
   exact⟨g1,g2,p,bb,off,cap,g3,g4,g5,g6,A.repAt.mono cs (E:=⟨E.C,[],[]⟩) (F:=⟨C',[],[]⟩) ⟨hsub,fun _ _ h=>h,fun _ _ h=>h⟩ g7⟩
  | gone=>exact trivial
 ·have hr:=hp.rC g e k n cs y b' h1 h2 h3
  have hne : ¬ b'=b:=fun e' => hr.1 (by rw[e'];exact hbm)
  rw[hC'];simp only[if_neg hne];exact hr.2 o sp
 ·have one:∀ (a:A) (y:Value),a.rep E y->(ppS rw.length cs' a).rep ⟨C',[],E.ρ⟩ y:=fun a y ha=>by
   have gen:(∀ b off,a ≠ .box b off)->(ppS rw.length cs' a).rep ⟨C',[],E.ρ⟩ y:=fun hnb=>by
    have e:ppS rw.length cs' a=match wL 0 rw.length a with | true=>a | false => .dead:=by
     cases a <;> first | rfl | exact absurd rfl (hnb _ _)
    rw[e]
    split
    ·rename_i hrf
     have:=dN (nb:=0) (nr:=rw.length) a hrf ha
     refine A.rep.mono a le ?_
     have e2:E.ρ.take rw.length=E.ρ:=by rw[hp.rl];exact List.take_length
     rw[e2] at this
     simpa using this
    ·exact A.rep_dead _ _
   cases a with
   | box b' off =>
    unfold A.rep at ha
    obtain⟨bb,g1,g2⟩ := ha
    cases b' with
    | zero =>
     rw[h0] at g1
     cases g1
     show (A.pp (cs'.drop off)).rep _ y
     unfold A.rep;refine⟨b,off,g2,?_⟩
     have:=A.repAt_drop off hat
     rwa [Nat.zero_add] at this
    | succ n=>exact A.rep_dead _ _
   | _=>exact gen (by intros;simp)
  have all:∀ (l:List A) (us:List Value),A.repL l E us->A.repL (l.map (ppS rw.length cs')) ⟨C',[],E.ρ⟩ us:=fun l=>by
   induction l with
   | nil=>intro us h;simpa [A.repL] using h
   | cons a l ih =>
    intro us h;simp only[List.map_cons];unfold A.repL at h ⊢
    obtain⟨u,us',rfl,h1,h2⟩ := h
    exact⟨u,us',rfl,one a u h1,ih us' h2⟩
  exact all _ _ hrep
theorem jc2 {n:Nat} {P:Program} {row:String} {args:Array Value} {w:World} {R:Value->World->Prop} (h:Rows P row args w R):RowsIn Fence.wide n P row args w R :=
 fun c cs _=>let ⟨v,w',r,s⟩ := h c cs;⟨v,w',r,stepsIn_wide.2 s⟩
theorem jn9 {n:Nat} {P:Program} {o:Oper} {a:Act} {w:World} {K:Act->World->Prop} {Q:Exit->Act->World->Prop} (h:o.wp P a w K Q):o.wpIn Fence.wide n P a w K Q:=by
 refine⟨fun _ _=>trivial,?_⟩
 have e:o.semAt Fence.wide.round a.eval=execOp a.eval o:=rfl
 rw[e];unfold Oper.wp at h;generalize (execOp a.eval o).run P w=r at *
 match r,h with
 | .ok (.value v) w',h=>exact h
 | .ok .skip w',h=>exact h
 | .ok (.defer d) w',h=>exact h
 | .ok (.enter f args) w',h=>exact⟨fun h' => by simp[Fence.wide] at h',callsIn_wide.2 h⟩
 | .ok (.row row args) w',h=>exact⟨fun h' => by simp[Fence.wide] at h',jc2 h⟩
 | .halt (.panic v) w',h=>exact h
section
variable {c:Cx} {w0:W0} {C0:Rd} {β0:List Nat} {s:S} {a:Act} {w:World} {E:Env} {o:Oper} {n:Nat}
theorem ja0 {ops:List Oper} {Q:Exit->Act->World->Prop} (hc:c.okN) (l2:List Oper):∀ {l:List Oper} {s:S} {a:Act} {w:World} {K:S->Prop},Inv [] w0 C0 β0 s a w->iD c ops l s K->(∀ s' a' w',K s'->Inv [] w0 C0 β0 s' a' w'->wpListIn Fence.wide n c.P ops.toArray Q l2 a' w')->wpListIn Fence.wide n c.P ops.toArray Q (l++l2) a w
 | [],s,a,w,K,hi,h,hk=>hk s a w h hi
 | o :: r,s,a,w,K,hi,h,hk=>by
  obtain⟨E,hp,ht,hd⟩ := hi
  change gP ops o s (ado c (fun _=>true) s o fun s' => iD c ops r s' K) (kB s o.dst (.tup []) fun s' => iD c ops r s' K) at h
  show wpListIn Fence.wide n c.P ops.toArray Q (o :: (r++l2)) a w
  unfold wpListIn
  rcases y6 ht h with ⟨h1,h2⟩ | ⟨h1,h2⟩
  ·rw[if_pos h1];exact jn9 (jdQ hc.ok ⟨0,rfl⟩ ⟨E,hp,ht,hd⟩ h2 (fun ch s' _ _ h _=>absurd h (hc.no ch s')) fun s' a' w' h3 h4=>ja0 hc l2 h4 h3 hk)
  ·rw[if_neg (by rw[h1];simp)]
   obtain⟨s2,k1,k2,k3,k4,k5⟩ := qH (a:=a) hp ht hd (kH _) h2
   exact⟨fun _ _=>trivial,ja0 hc l2 ⟨E,by rw[k2,k3];exact hp,k4,k5⟩ k1 hk⟩
theorem jeJ {x:Code} {q:Exit->S->Prop} {Q:Exit->Act->World->Prop} (hc:c.okN) (hn:β0.length=c.np) (ho:zR c.ord x=true) (hi:Inv [] w0 C0 β0 s a w) (h:rA c x s q) (hk:∀ e s' a' w',q e s'->Inv [] w0 C0 β0 s' a' w'->Q e a' w'):x.wpIn Fence.wide n c.P Q a w :=
 wpIn_wide.2 (x7 hc.ok hn ⟨0,rfl⟩ x (.inl rfl) (fun ch s' _ _ h _=>absurd h (hc.no ch s')) ho hi h hk)
theorem Inv.le {s':S} {np:Nat} (hi:Inv [] w0 C0 β0 s a w) (h:Le np s s') (hn:β0.length=np):Inv [] w0 C0 β0 s' a w:=h [] w0 C0 β0 a w rfl hn hi
theorem Inv.again {t:List A} {C:Rd} {u0:World} (hi:Inv [] (.of u0) C [] ⟨t,[],[]⟩ a w):∃ C',Sub C C'/\Sub C' (zW w)/\(∀ ad u,C' ad=some u->C ad=some u ∨ u0.heap.size<=ad.block)/\Keeps [] u0 w/\Gok C' w /\ ∀ w',Sub C' (zW w')->Gok C' w'->Inv [] (.of w') C' [] ⟨t,[],[]⟩ a w':=by
 obtain⟨E,hp,ht,hd⟩ := hi
 have hβ:E.β=[]:=List.eq_nil_of_length_eq_zero (by rw[<- hp.bl];rfl)
 have hρ:E.ρ=[]:=List.eq_nil_of_length_eq_zero (by rw[<- hp.rl];rfl)
 refine⟨E.C,hp.base,hp.sub,hp.fresh0,hp.keep0,hp.gok,fun w' hw' hg' => ⟨⟨E.C,[],[]⟩,⟨hw',Sub.refl _,fun _ _ h => .inl h,⟨[],rfl,by simp⟩,List.nodup_nil,fun b hb=>by simp at hb,rfl,fun i b cs hb=>by simp at hb,rfl,fun g r y hg=>by simp at hg,fun g e k n cs y b hg=>by simp at hg,fun g e k n cs y h' e' k' n' cs' z b _ hg=>by simp at hg,fun g y hg=>by simp at hg,Keeps.refl _ _,jim hg'⟩,?_,hd⟩⟩
 have:E = ⟨E.C,[],[]⟩ := by
  obtain⟨C',β',ρ'⟩ := E
  simp only at hβ hρ
  rw[hβ,hρ]
 rw[this] at ht;exact ht
end
end
section
def nW (B:Nat) (W:World) (b:Nat):Prop:=b=B ∨ ∃ a l c,W.cell? ⟨B,0,none⟩ = some (.slice (some a) l c)/\a.block=b
def ValB (B:Nat) (W:World):Prop:=(∃ o,W.heap[B]? = some o/\o.isCells=true) /\ ∀ b,nW B W b->b<W.heap.size
def pP (o:Obj):Bool:=o.isCells || o.isWalk
theorem jkc {o:Obj} (h:o.isCells=false) (k:o.isWalk=false):pP o=false:=by simp[pP,h,k]
theorem jeb {o:Obj} (h:o.isCells=true):pP o=true:=by simp[pP,h]
def KpB (B:Nat) (W W':World):Prop:=ValB B W->ValB B W'/\W.heap.size<=W'.heap.size/\(∀ b,nW B W' b->nW B W b ∨ W.heap.size<=b) /\ ∀ b o,W.heap[b]? = some o->pP o=true -> ¬ nW B W b->W'.heap[b]? = some o
theorem yQ {W:World} {b:Nat} {o:Obj} (h:W.heap[b]? = some o):b<W.heap.size:=(Array.getElem?_eq_some_iff.1 h).1
theorem ValB.lt {B:Nat} {W:World} (h:ValB B W):B<W.heap.size:=h.2 B (.inl rfl)
theorem KpB.refl (B:Nat) (W:World):KpB B W W:=fun h=>⟨h,Nat.le_refl _,fun _ h => .inl h,fun _ _ h _ _=>h⟩
theorem KpB.trans {B:Nat} {a b c:World} (h:KpB B a b) (k:KpB B b c):KpB B a c:=fun hv=>by
 obtain⟨h1,h2,h3,h4⟩ := h hv
 obtain⟨k1,k2,k3,k4⟩ := k h1
 refine⟨k1,Nat.le_trans h2 k2,fun x hx => ?_,fun x o hx ho hn=>k4 x o (h4 x o hx ho hn) ho fun ho' => ?_⟩
 ·rcases k3 x hx with hx | hx
  ·exact h3 x hx
  ·exact .inr (by omega)
 ·rcases h3 x ho' with hx' | hx'
  ·exact hn hx'
  ·have:=yQ hx
   omega
theorem eV {B:Nat} {W W':World} (h:W'.heap[B]? = W.heap[B]?) (b:Nat):nW B W' b ↔ nW B W b:=by
 have:W'.cell? ⟨B,0,none⟩ = W.cell? ⟨B,0,none⟩ := World.cell?_of_block (w:=W) h
 unfold nW;rw[this]
theorem KpB.put {B:Nat} (W:World) (l:Nat) (o o':Obj) (hl:W.heap[l]? = some o) (ho:pP o=false):KpB B W (W.putObj l o'):=fun hv=>by
 obtain⟨⟨ob,h1,h2⟩,h3⟩ := hv
 have hne:∀ (b:Nat) (ob:Obj),W.heap[b]? = some ob->pP ob=true->(W.putObj l o').heap[b]? = W.heap[b]? := fun b ob h1 h2=>by
  refine World.putObj_heap_other ?_;rintro rfl;rw[hl] at h1
  cases h1
  rw[ho] at h2
  cases h2
 have hsz:(W.putObj l o').heap.size=W.heap.size:=by simp[World.putObj]
 have hB:=hne B ob h1 (jeb h2)
 refine⟨⟨⟨ob,by rw[hB];exact h1,h2⟩,fun b hb => ?_⟩,by omega,fun b hb => .inl ((eV hB b).1 hb),fun b o hb hoc _=>(hne b o hb hoc).trans hb⟩;rw[hsz];exact h3 b ((eV hB b).1 hb)
theorem ValB.keeps {B:Nat} {W W':World} (h:ValB B W) (k:Keeps [] W W'):ValB B W' /\ ∀ b,nW B W' b ↔ nW B W b:=by
 have hB:=k.block B h.lt (by simp)
 refine⟨⟨?_,fun b hb => ?_⟩,fun b=>eV hB b⟩
 ·rw[hB];exact h.1
 ·have:=h.2 b ((eV hB b).1 hb)
  have:=k.size
  omega
theorem KpB.keeps {B:Nat} {W W':World} (k:Keeps [] W W'):KpB B W W':=fun hv=>by
 obtain⟨h1,h2⟩ := hv.keeps k
 exact⟨h1,k.size,fun b hb => .inl ((h2 b).1 hb),fun b o hb _ _=>(k.block b (yQ hb) (by simp)).trans hb⟩
theorem sX {W:World} {ad:Addr} {u:Value} (h:(zW W) ad=some u):∃ o,W.heap[ad.block]? = some o/\pP o=true:=by
 unfold zW at h
 split at h
 ·unfold World.cell? at h
  split at h
  ·rename_i c e f ho
   exact⟨_,ho,rfl⟩
  ·cases h
 ·unfold nE at h
  split at h
  ·rename_i es c ho
   exact⟨_,ho,rfl⟩
  ·cases h
theorem kK {β:Type} {n:Nat} {J:β->World->Prop} (h:AbidesFrom n J) {s:β} {W W':World} (hj:J s W) (k:Keeps [] W W'):J s W' :=
 h s W W' none hj ⟨k.os,k.tape,k.output,k.size,fun b hb _=>k.block b hb (by simp)⟩ fun r hr=>by cases hr
section
variable {w0:W0} {w:World} {C:Rd} {t:List A} {a:Act} {B:Nat}
theorem Inv.yielded {u0:World} (hi:Inv [] (.of u0) C [] ⟨t,[],[]⟩ a w) (hv:ValB B u0) (hno:∀ ad u,C ad=some u -> ¬ nW B u0 ad.block):Keeps [] u0 w /\ ∀ w2,KpB B w w2 -> ∃ C',Inv [] (.of w2) C' [] ⟨t,[],[]⟩ a w2/\ValB B w2 /\ ∀ ad u,C' ad=some u -> ¬ nW B w2 ad.block:=by
 obtain⟨C',h1,h2,h3,h4,hg,h5⟩ := hi.again
 refine⟨h4,fun w2 hk => ?_⟩
 obtain⟨v1,v2⟩ := hv.keeps h4
 obtain⟨k1,k2,k3,k4⟩ := hk v1
 have hn:∀ ad u,C' ad=some u -> ¬ nW B w ad.block:=fun ad u hc ho=>by
  have ho:=(v2 _).1 ho
  rcases h3 ad u hc with q | q
  ·exact hno ad u q ho
  ·have:=hv.2 _ ho
   omega
 refine⟨C',h5 w2 (fun ad u hc => ?_) (hg.blocks fun b cs T sp q1 ⟨u,hc⟩=>k4 _ _ q1 rfl (hn _ u hc)),k1,fun ad u hc ho => ?_⟩
 ·obtain⟨o,q1,q2⟩ := sX (h2 ad u hc)
  have:=k4 _ o q1 q2 (hn ad u hc)
  exact (vP (w:=w) (this.trans q1.symm)).trans (h2 ad u hc)
 ·rcases k3 _ ho with q | q
  ·exact hn ad u hc q
  ·obtain⟨o,q1,q2⟩ := sX (h2 ad u hc)
   have:=yQ q1
   omega
theorem mL {C0:Rd} {β0:List Nat} {s:S} (hi:Inv [] w0 C0 β0 s a w) {i:Nat} {v:Value} (h:s.t.getD i .dead = .v v):a.tmps.getD i undef=v:=by
 obtain⟨E,_,ht,_⟩ := hi
 have:=A.repL_getD ht i undef
 rw[h] at this
 have:=(A.rep_v_iff.1 this).1
 simpa [Array.getD_eq_getD_getElem?,List.getD_eq_getElem?_getD] using this
theorem jf4 {n l:Nat} {P:Program} {ops:Array Oper} {o:Oper} {rest:List Oper} {f:Operand} {args:Array Operand} {ts:Array TypeId} {vals:Array Value} {Q:Exit->Act->World->Prop} {R:Ending->World->Prop}
  (ho:o.op = .call ⟨.value f,args,ts⟩) (hg:o.guard=none) (hf:a.eval f = .func (.yield l) #[] #[]) (hv:args.map a.eval=vals) (hy:YieldAt Fence.wide (n-1) P l vals w R)
  (hk:∀ e w',R e w' -> ∃ v,e = .returned v/\wpListIn Fence.wide n P ops Q rest (a.put o.dst v) w'):wpListIn Fence.wide n P ops Q (o :: rest) a w:=by
 unfold wpListIn;rw[if_pos (by simp[Region.wanted,hg])]
 obtain⟨fn,tmps,assign,body,h1,h2⟩ := hy
 refine⟨fun _ _=>trivial,?_⟩
 have e:o.semAt Fence.wide.round a.eval=execOp a.eval o:=rfl
 rw[e]
 have hrun:(execOp a.eval o).run P w = .ok (.round l fn tmps assign body) w:=by
  rw[<- h1,<- hv]
  simp[execOp,ho,resolve,Deferred.ofValue,hf,invoke,Result.andThen]
 rw[hrun];refine⟨fun h' => by simp[Fence.wide] at h',h2.mono fun e w' hr => ?_⟩
 obtain⟨v,rfl,hw⟩ := hk e w' hr
 exact hw
theorem jis {W:World} {C:Rd} (h0:Gok C W) (h1:Sub C (zW W)) {args:List A} {vals:Array Value} {n:Nat} (h6:A.repL args ⟨C,[],[]⟩ vals.toList) :
  Inv [] (.of W) C [] ⟨args++List.replicate (n-args.length) .dead,[],[]⟩ { tmps:=vals++Array.replicate (n-vals.size) undef,defers:=[] } W:=by
 have hl:=A.repL_len h6
 refine⟨⟨C,[],[]⟩,⟨h1,Sub.refl _,fun _ _ hc => .inl hc,⟨[],by simp,by simp⟩,List.nodup_nil,fun b hb=>by simp at hb,rfl,fun i b cs hb=>by simp at hb,rfl,fun g r y hg=>by simp at hg,fun g e k n cs y b hg=>by simp at hg,fun g e k n cs y h' e' k' n' cs' z b _ hg=>by simp at hg,fun g y hg=>by simp at hg,Keeps.refl _ _,jim h0⟩,?_,rfl⟩
 have:(vals++Array.replicate (n-vals.size) undef).toList=vals.toList++List.replicate (n-args.length) undef:=by
  have:vals.size=args.length:=by rw[<- hl];simp
  simp[this]
 rw[this];exact A.repL_append h6 (vY _ _)
theorem jcq {C0:Rd} {β0:List Nat} {s:S} {F:Fence} {n:Nat} {P:Program} {x y:Code} {Q:Exit->Act->World->Prop} (hi:Inv [] w0 C0 β0 s a w) {w2:World} {i:Nat} {b:Bool} (h:s.t.getD i .dead = .v (.bool b)) (hk:(if b then x else y).wpIn F n P Q a w2):(Code.cond (.tmp i) x y).wpIn F n P Q a w2 :=
 wpIn_cond (mL hi h) hk
theorem rW {c:Cx} {C0:Rd} {β0:List Nat} {s:S} {n:Nat} {x y:Code} {Q:Exit->Act->World->Prop} (hc:c.okN) (hn:β0.length=c.np) (hi:Inv [] w0 C0 β0 s a w) (ho:zR c.ord x=true)
  (h:rA c x s fun e s' => ∀ a' w',Inv [] w0 C0 β0 s' a' w'->Exit.then (y.wpIn Fence.wide n c.P Q) Q e a' w'):(Code.seq x y).wpIn Fence.wide n c.P Q a w :=
 wpIn_seq (jeJ hc hn ho hi h fun e s' a' w' h1 h2=>h1 a' w' h2)
theorem jcT {c:Cx} {C0:Rd} {β0:List Nat} {l:List A} {m:Nat} {bx:List (List A)} {n:Nat} {x y:Code} {Q:Exit->Act->World->Prop} (hc:c.okN) (hn:β0.length=c.np) (hi:Inv [] w0 C0 β0 ⟨l++List.replicate m .dead,bx,[]⟩ a w) (ho:zR c.ord x=true)
  (h:yF l m fun t=>rA c x ⟨t,bx,[]⟩ fun e s' => ∀ a' w',Inv [] w0 C0 β0 s' a' w'->Exit.then (y.wpIn Fence.wide n c.P Q) Q e a' w'):(Code.seq x y).wpIn Fence.wide n c.P Q a w :=
 rW hc hn hi ho ((initK_iff (K:=fun t=>rA c x ⟨t,bx,[]⟩ _)).1 h)
theorem jd4 {c:Cx} {C0:Rd} {β0:List Nat} {s:S} {n:Nat} {ops l:List Oper} {Q:Exit->Act->World->Prop} (m:Nat) (hc:c.okN) (hi:Inv [] w0 C0 β0 s a w)
  (h:iD c ops (l.take m) s fun s' => ∀ a' w',Inv [] w0 C0 β0 s' a' w'->wpListIn Fence.wide n c.P ops.toArray Q (l.drop m) a' w'):wpListIn Fence.wide n c.P ops.toArray Q l a w:=by
 have:=ja0 (n:=n) (Q:=Q) hc (l.drop m) hi h fun s' a' w' h1 h2=>h1 a' w' h2
 rwa [List.take_append_drop] at this
theorem jmP {c:Cx} {C0:Rd} {β0:List Nat} {bx:List (List A)} {l0:List A} {m0 n:Nat} {ops l:List Oper} {Q:Exit->Act->World->Prop} (m:Nat) (hc:c.okN) (hi:Inv [] w0 C0 β0 ⟨l0++List.replicate m0 .dead,bx,[]⟩ a w)
  (h:yF l0 m0 fun t=>iD c ops (l.take m) ⟨t,bx,[]⟩ fun s' => ∀ a' w',Inv [] w0 C0 β0 s' a' w'->wpListIn Fence.wide n c.P ops.toArray Q (l.drop m) a' w'):wpListIn Fence.wide n c.P ops.toArray Q l a w :=
 jd4 m hc hi ((initK_iff (K:=fun t=>iD c ops (l.take m) ⟨t,bx,[]⟩ _)).1 h)
theorem jnC {C0:Rd} {β0:List Nat} {s:S} {d:Option Nat} {v:Value} {G:Act->Prop} (hi:Inv [] w0 C0 β0 s a w) (hv:cF v) (h:kB s d (.v v) fun s' => ∀ a',Inv [] w0 C0 β0 s' a' w->G a'):G (a.put d v):=by
 obtain⟨E,hp,ht,hd⟩ := hi
 obtain⟨s2,k1,k2,k3,k4,k5⟩ := qH (a:=a) hp ht hd (A.rep_v hv) h
 exact k1 _ ⟨E,by rw[k2,k3];exact hp,k4,k5⟩
def jqA (s:S) (K:S->Prop):Prop:=K s
def jnU (c:Cx) (ops:List Oper) (o:Oper) (ih:S->(S->Prop)->Prop) (s:S) (K:S->Prop):Prop :=
 gP ops o s (jce c s o fun r=>kB s o.dst r fun s' => ih s' K) (kB s o.dst (.tup []) fun s' => ih s' K)
noncomputable def apu (c:Cx) (ops:List Oper) (l:List Oper):S->(S->Prop)->Prop:=List.rec (motive:=fun _=>S->(S->Prop)->Prop) jqA (fun o _ ih=>jnU c ops o ih) l
theorem lC {c:Cx} {C0:Rd} {β0:List Nat} {n:Nat} {ops:List Oper} {Q:Exit->Act->World->Prop} (hc:c.ok) {w2:World} : ∀ {l:List Oper} {s:S} {a:Act},Inv [] w0 C0 β0 s a w->apu c ops l s (fun s' => ∀ a',Inv [] w0 C0 β0 s' a' w->Q .normal a' w2)->wpListIn Fence.wide n c.P ops.toArray Q l a w2
 | [],s,a,hi,h=>h a hi
 | o :: r,s,a,⟨E,hp,ht,hd⟩,h=>by
  change jnU c ops o (apu c ops r) s _ at h
  unfold jnU at h;unfold wpListIn
  rcases y6 ht h with ⟨h1,h2⟩ | ⟨h1,h2⟩
  ·rw[if_pos h1]
   obtain⟨x,y,k1,k2,k3⟩ := jeP hc hp ht h2
   obtain⟨s2,p1,p2,p3,p4,p5⟩ := qH (a:=a) hp ht hd k2 k1
   refine⟨fun _ _=>trivial,?_⟩
   have e:o.semAt Fence.wide.round a.eval=execOp a.eval o:=rfl
   rw[e,k3 w2];exact lC hc ⟨E,by rw[p2,p3];exact hp,p4,p5⟩ p1
  ·rw[if_neg (by rw[h1];simp)]
   obtain⟨s2,p1,p2,p3,p4,p5⟩ := qH (a:=a) hp ht hd (kH _) h2
   exact⟨fun _ _=>trivial,lC hc ⟨E,by rw[p2,p3];exact hp,p4,p5⟩ p1⟩
theorem oT {E:Env} : ∀ {vs us:List Value},A.repC (vs.map A.v) E us->us=vs
 | [],us,h=>by unfold A.repC at h;exact h
 | v :: vs,us,h=>by
  rw[List.map_cons] at h;unfold A.repC at h
  obtain⟨u,us',rfl,_,h2,h3⟩ := h
  rw[(A.rep_v_iff.1 h2).1,oT h3]
theorem jku {C0:Rd} {β0:List Nat} {s:S} (hi:Inv [] w0 C0 β0 s a w) {i:Nat} {vs:List Value} (h:s.t.getD i .dead = .agg (vs.map A.v)):a.tmps.getD i undef = .agg vs.toArray:=by
 obtain⟨E,_,ht,_⟩ := hi
 have:=A.repL_getD ht i undef
 rw[h] at this;unfold A.rep at this
 obtain⟨us,h1,h2⟩ := this
 have h3:=oT h2
 have:a.tmps.getD i undef = .agg us:=by simpa [Array.getD_eq_getD_getElem?,List.getD_eq_getElem?_getD] using h1
 rw[this,<- h3]
end
end
structure It where
 tok:Tk
 pos:Nat
 err:Int
def jj1 (t:Tk):Value := .agg #[.int .i64 t.kind,.int .i64 t.pos,.string t.text,.int .i64 t.n]
def clP (n:Nat):Nat:=if n<=1000000000 then n else 0
def clE (e:Int):Int:=if 0<=e/\e<=100 then e else 0
theorem jha (n:Nat):clP n<=1000000000:=by unfold clP;split <;> omega
theorem jh9 (e:Int):0<=clE e/\clE e<=100:=by unfold clE;split <;> omega
def jjR (x:It):Array Value := #[jj1 x.tok,.agg #[.int .i64 (clP x.pos:Nat),.int .i64 (clE x.err)]]
theorem jfj {l:List UInt8} {e:Int} (h:j9 l = .bad e):0<=e/\e<=100:=by
 cases l with
 | nil=>simp[j9] at h;omega
 | cons c r =>
  cases hL:isL c
  ·cases hD:x8 c
   ·cases h3:kX o5 (bs ((c :: r).take 2))
    ·cases h4:kX uK (bs [c])
     ·simp only[j9,hL,hD,h3,h4] at h
      cases h;decide
     ·simp only[j9,hL,hD,h3,h4] at h
      cases h
    ·simp only[j9,hL,hD,h3] at h
     cases h
   ·simp only[j9,hL,hD] at h
    split at h
    ·cases h;decide
    ·cases h
  ·simp only[j9,hL] at h
   split at h
   ·cases h;decide
   ·cases h
def itOk (t:Tk):It:=⟨t,t.pos,0⟩
def gS (s:ByteArray) (xs:List It):Prop:=match (qS s).err with
 | none=>xs=(qS s).toks.map itOk
 | some (p,e) => ∃ t,xs=(qS s).toks.map itOk++[⟨t,p,e⟩]
def hZ (s:ByteArray) (xs:List It):Prop := ∃ ys,gS s ys/\xs <+: ys
theorem jam:∀ (l:List UInt8) (n:Int),n<=2147483647->gN n l<=2147483647
 | [],n,h=>h
 | c :: r,n,h=>by
  unfold gN
  split
  ·omega
  ·exact jam r _ (by omega)
def jkZ (l:Nat) (s:ByteArray) (L:List A) (p:Nat):List A:=[.v (.func (.yield l) #[] #[]),.pp [.v (.string s)],.pp L,.dead,.v (.int .i64 p)]++List.replicate 108 .dead
theorem jf1 (s:ByteArray) (hs:s.size<=1000000000) (n B:Nat) (lb:Array Value) (w0:World) (C:Rd) (hv:ValB B w0) (hsub:Sub C (zW w0)) (hg:Gok C w0) (hno:∀ ad u,C ad=some u -> ¬ nW B w0 ad.block)
  (hrep:A.repL [.pp [.v (.string s)],.pp (j0 classOf)] ⟨C,[],[]⟩ lb.toList) :
  SeqStopsK Fence.wide n Tryz.prog 149 lb jjR (KpB B) (gS s) (hZ s) s.size w0:=by
 intro l J Jx W hW hJ hJx hY h0
 have hsl:=z7 s
 have keepW:Keeps [] w0 W:=⟨hW.os,hW.tape,hW.output,hW.size,fun b hb _=>hW.block b hb⟩
 have hsubW:Sub C (zW W):=fun ad u hc=>keepW.cell (hsub ad u hc) (by simp)
 have hgW:Gok C W:=hg.keep keepW (by simp)
 have hvW:ValB B W /\ ∀ b,nW B W b ↔ nW B w0 b:=by
  refine hv.keeps ⟨hW.os,hW.tape,hW.output,hW.size,fun b hb _=>hW.block b hb⟩
 have hnoW:∀ ad u,C ad=some u -> ¬ nW B W ad.block:=fun ad u hc ho=>hno ad u hc ((hvW.2 _).1 ho)
 obtain⟨L,hL⟩ : ∃ L,L=j0 classOf:=⟨_,rfl⟩
 rw[<- hL] at hrep
 have hc:(Cx.mk Tryz.prog tab jkC (fun _=>[0]) 0 (fun _ _=>False)).okN:=jjM jkC (fun _=>[0]) 0
 refine callsIn_of_wp Tryz.func149 rfl trivial ?_
 have hi:=jis (n:=113) hgW hsubW (args:=[.v (.func (.yield l) #[] #[]),.pp [.v (.string s)],.pp L]) (vals := #[.func (.yield l) #[] #[]]++lb) (by
  simp only[Array.toList_append];refine⟨_,_,rfl,A.rep_v trivial,?_⟩
  simpa using hrep)
 refine jcT hc rfl hi (by kernel_rfl) ?_;conv=>whnf
 intro a W1 hi;refine wpIn_block ?_;refine wpIn_loop (fun a w => ∃ (ts:List Tk) (p:Nat) (C:Rd),Inv [] (.of w) C [] ⟨jkZ l s L p,[],[]⟩ a w/\ValB B w/\(∀ ad u,C ad=some u -> ¬ nW B w ad.block)/\J (ts.map itOk) w/\p<=s.size/\ts.length<=p/\Lx.app ts (fK p (s.data.toList.drop p))=qS s)
  (fun a _=>s.size-(intOf (a.tmps.getD 4 undef)).toNat) ?_ ?_
 ·obtain⟨hk,hy⟩ := hi.yielded hvW.1 hnoW
  obtain⟨C',i1,i2,i3⟩ := hy W1 (KpB.refl B W1)
  exact⟨[],0,C',i1,i2,i3,kK hJ h0 hk,Nat.zero_le _,Nat.zero_le _,rfl⟩
 rintro a w ⟨ts,p,C,hi,hv,hno,hj,hp,hts,hinv⟩
 have hp4:intOf (a.tmps.getD 4 undef)=p:=by rw[mL hi (i:=4) (v := .int .i64 p) rfl];rfl
 refine jcT hc rfl hi (by kernel_rfl) ?_;conv=>whnf
 by_cases hlt:p<s.size
 ·refine zG (by simp;omega) ?_;conv=>whnf
  intro a' w' hi';refine wpIn_block ?_
  obtain⟨c,r,hd⟩ : ∃ c r,s.data.toList.drop p=c :: r:=⟨_,_,eE s.data.toList p (by omega)⟩
  have hrl:(c :: r).length=s.size-p:=by rw[<- hd,List.length_drop,hsl]
  have hR:s.extract (Int.toNat (p:Int)) (Int.toNat (s.size:Int))=bs (c :: r):=by rw[tG,<- hd];congr 1;apply List.take_of_length_le;rw[List.length_drop];omega
  have hbs:=eA (c :: r)
  refine rW hc rfl hi' (by kernel_rfl) ?_;conv=>whnf
  refine⟨by omega,?_⟩;rw[hR];generalize hb:bs (c :: r)=b at *;conv=>whnf
  intro a2 w2 hi2
  replace hi2:=(hi2.le (bW rfl) rfl).le (nR (t':=[.v (.func (.yield l) #[] #[]),.pp [.v (.string s)],.pp L,.dead,.v (.int .i64 p),.pp [.v (.string b)]]++List.replicate 107 .dead) (by repeat' constructor)) rfl
  refine jcT hc rfl hi2 (by kernel_rfl) ?_;conv=>whnf
  intro a3 w3 hi3;refine rW hc rfl hi3 (by kernel_rfl) ?_;conv=>whnf
  intro a4 w4 hi4;refine rW hc rfl hi4 (by kernel_rfl) ?_;conv=>whnf
  intro a5 w5 hi5
  have hd1:∀ k,s.data.toList.drop (p+k)=(c :: r).drop k:=fun k=>by rw[<- hd,List.drop_drop]
  have hbL:b.size=s.size-p:=by rw[hbs];exact hrl
  have hrl2:r.length+1=s.size-p:=by simpa using hrl
  have hws:=jj9 b (by omega)
  have hns:=jkt b (by omega)
  rw[<- hL] at hws hns
  refine wpIn_seq (jeJ (q:=fun e s' => match e with
   | .normal => ∃ (tk:Tk) (e:Int),(gC c=false/\jed c=false)/\tk.pos=p/\tk.text.size<=s.size/\(e=0/\(∃ len,j9 (c :: r) = .tok tk.kind len tk.n/\tk.text=bs ((c :: r).take len)) ∨ e ≠ 0/\j9 (c :: r) = .bad e) ∧
     Le 0 s' ⟨[.v (.func (.yield l) #[] #[]),.pp [.v (.string s)],.pp L,.dead,.v (.int .i64 p),.dead,.dead,.pp (oZ tk),intA e]++List.replicate 104 .dead,[],[]⟩
   | .exit x=>x=1 /\ ∃ p',p<p'/\p'<=s.size/\Lx.app ts (fK p' (s.data.toList.drop p'))=qS s/\Le 0 s' ⟨jkZ l s L p',[],[]⟩
   | .ret=>qS s = ⟨ts,none⟩
   | _=>False) hc rfl (by kernel_rfl) hi5 ?_ ?_)
  ·conv=>whnf
   refine⟨⟨by omega,by rw[hbs];simp⟩,?_⟩;rw[show b.data.toList.getD (Int.toNat 0) 0=c from by rw[<- hb,wY];rfl]
   have hcb:=jdy c
   conv=>whnf
   refine⟨⟨by omega,by omega⟩,?_⟩;generalize hq:jC _ (Int.toNat (c.toNat:Int)) L=q
   obtain rfl:q=[.v (.int .u8 (classOf c.toNat))]:=by rw[<- hq,hL];exact jbG classOf c.toNat (by omega)
   conv=>whnf
   rw[jo6]
   cases hsp:jed c with
   | true =>
    have hha:gC c=false:=by
     simp only[jed,gC,Bool.or_eq_true,decide_eq_true_eq,decide_eq_false_iff_not] at hsp ⊢;omega
    conv=>whnf
    refine⟨jU (by omega),?_⟩;conv=>whnf
    refine⟨rfl,p+1,by omega,by omega,?_,(bW rfl).trans (nR (by repeat' constructor))⟩;rw[hd1 1,<- hinv,hd,jml hha hsp];rfl
   | false =>
    conv=>whnf
    rw[jjJ]
    cases hha:gC c with
    | true =>
     conv=>whnf
     refine kS [] (jcG b (by omega)) ?_;rintro x rfl
     have hno:yK c=true:=by
      simp only[gC,yK,decide_eq_true_eq,Bool.not_eq_true',decide_eq_false_iff_not] at hha ⊢;omega
     have hsp1:jF yK (c :: r)=jF yK r+1:=by simp[jF,hno]
     have hle:=yW yK r
     have hlx:=jix (p:=p) (r:=r) hha
     have hix:wW yK b.data.toList=if jF yK r+1<r.length+1 then ((jF yK r+1:Nat):Int) else -1:=by
      unfold wW;rw[<- hb,wY,hsp1];rfl
     generalize wW yK b.data.toList=v at *;conv=>whnf
     by_cases hlt2:jF yK r<r.length
     ·rw[if_pos (by omega)] at hix;refine j5 (b:=decide (v<0)) (jH (by omega)) ?_;conv=>whnf
      refine⟨jU (by omega),?_⟩;conv=>whnf
      rw[hix];refine⟨rfl,p+(jF yK r+1),by omega,by omega,?_,(bW rfl).trans (nR (by repeat' constructor))⟩;rw[hd1 _,<- hinv,hd,hlx,List.drop_succ_cons,Nat.add_comm (jF yK r) 1,<- Nat.add_assoc]
     ·rw[if_neg (by omega)] at hix;refine zG (b:=decide (v<0)) (jP (by omega)) ?_;conv=>whnf
      rw[<- hinv,hd,hlx,List.drop_of_length_le (by omega),jel]
      simp[Lx.app]
    | false =>
     conv=>whnf
     rw[jpL]
     cases hL1:isL c with
     | true =>
      conv=>whnf
      refine kS [] hws ?_;rintro x rfl
      have hsp1:jF vK (c :: r)=jF vK r+1:=by simp[jF,vK,hL1]
      have hle:=yW vK r
      have htok:j9 (c :: r)=if 10<jF vK r+1 then .bad 2 else .tok 1 (jF vK r+1) 0:=by simp only[j9,hL1]
      have hw:=aE (c :: r) (jF vK r+1) (by simp;omega)
      have hcut:b.extract (Int.toNat 0) (Int.toNat ((jF vK r+1:Nat):Int))=bs ((c :: r).take (jF vK r+1)):=by
       rw[lY b (Int.toNat 0) _ (jF vK r+1) (by simp;omega) (by simp),<- hb,wY];rfl
      rw[<- hb,wY,hsp1,hb];conv=>whnf
      refine⟨⟨by omega,by omega,by omega⟩,?_⟩;rw[hcut];generalize hwd:bs ((c :: r).take (jF vK r+1))=wd at *;conv=>whnf
      by_cases hlong:10<jF vK r+1
      ·rw[if_pos hlong] at htok;refine zG (b:=decide ((10:Int)<(wd.size:Int))) (jP (by omega)) ?_;conv=>whnf
       exact⟨⟨1,p,wd,0⟩,2,⟨rfl,rfl⟩,rfl,by show wd.size<=s.size;omega,.inr ⟨by decide,htok⟩,(bW rfl).trans (nR (by repeat' constructor))⟩
      ·rw[if_neg hlong] at htok;refine j5 (b:=decide ((10:Int)<(wd.size:Int))) (jH (by omega)) ?_;conv=>whnf
       exact⟨⟨1,p,wd,0⟩,0,⟨rfl,rfl⟩,rfl,by show wd.size<=s.size;omega,.inl ⟨rfl,_,htok,hwd.symm⟩,(bW rfl).trans (nR (by repeat' constructor))⟩
     | false =>
      conv=>whnf
      rw[jpK]
      cases hD1:x8 c with
      | true =>
       conv=>whnf
       refine kS [] hns ?_;rintro x rfl
       have hsp1:jF x8 (c :: r)=jF x8 r+1:=by simp[jF,hD1]
       have hle:=yW x8 r
       have htok:j9 (c :: r)=if gN 0 (c :: r.take (jF x8 r))<0 then .bad 6 else .tok 2 (jF x8 r+1) (gN 0 (c :: r.take (jF x8 r))):=by simp only[j9,hL1,hD1]
       have hw:=aE (c :: r) (jF x8 r+1) (by simp;omega)
       have hcut:b.extract (Int.toNat 0) (Int.toNat ((jF x8 r+1:Nat):Int))=bs ((c :: r).take (jF x8 r+1)):=by
        rw[lY b (Int.toNat 0) _ (jF x8 r+1) (by simp;omega) (by simp),<- hb,wY];rfl
       have hpu:=jmC (bs ((c :: r).take (jF x8 r+1))) (by rw[hw];omega) (by rw[hw];omega) (by
        intro x hx;rw[wY,<- hsp1] at hx
        exact oW x8 _ x hx)
       rw[wY,List.take_succ_cons] at hpu;rw[<- List.take_succ_cons] at hpu;rw[<- hb,wY,hsp1,hb];conv=>whnf
       refine⟨⟨by omega,by omega,by omega⟩,?_⟩;rw[hcut];generalize hwd:bs ((c :: r).take (jF x8 r+1))=wd at *;conv=>whnf
       refine kS [] hpu ?_;rintro x rfl
       have hvl:gN 0 ((c :: r).take (jF x8 r+1))=gN 0 (c :: r.take (jF x8 r)):=by rw[List.take_succ_cons]
       rw[hvl]
       have hmx:=jam (c :: r.take (jF x8 r)) 0 (by omega)
       generalize gN 0 (c :: r.take (jF x8 r))=v at *
       by_cases hneg:v<0
       ·rw[if_pos hneg] at htok ⊢;conv=>whnf
        refine⟨jU (by omega),?_⟩;conv=>whnf
        exact⟨⟨2,p,wd,2147483647⟩,6,⟨rfl,rfl⟩,rfl,by show wd.size<=s.size;omega,.inr ⟨by decide,htok⟩,(bW rfl).trans (fT (by repeat' constructor))⟩
       ·rw[if_neg hneg] at htok ⊢;conv=>whnf
        refine⟨jU (by omega),?_⟩;conv=>whnf
        exact⟨⟨2,p,wd,v⟩,0,⟨rfl,rfl⟩,rfl,by show wd.size<=s.size;omega,.inl ⟨rfl,_,htok,hwd.symm⟩,(bW rfl).trans (fT (by repeat' constructor))⟩
      | false =>
       conv=>whnf
       have h1c:(bs [c]).size=1:=by rw[eA];rfl
       have hcut1:b.extract (Int.toNat 0) (Int.toNat 1)=bs [c]:=by
        rw[lY b (Int.toNat 0) _ 1 (by simp;omega) (by simp),<- hb,wY];rfl
       by_cases hone:1<r.length+1
       ·have hcut2:b.extract (Int.toNat 0) (Int.toNat 2)=bs ((c :: r).take 2):=by
         rw[lY b (Int.toNat 0) _ 2 (by simp;omega) (by simp),<- hb,wY];rfl
        have h2c:=aE (c :: r) 2 (by simp;omega)
        rw[show decide ((1:Int)<(b.size:Int))=true from jP (by omega)];conv=>whnf
        refine⟨⟨by omega,by omega,by omega⟩,?_⟩;rw[hcut2];generalize hwd:bs ((c :: r).take 2)=wd at *;conv=>whnf
        refine kS [0] (jay o5 wd (by decide)) ?_;rintro x rfl
        cases h2:kX o5 wd with
        | true =>
         have htok:j9 (c :: r) = .tok 3 2 0:=by simp only[j9,hL1,hD1,hwd,h2]
         conv=>whnf
         refine⟨⟨by omega,by omega,by omega⟩,?_⟩;rw[hcut2];conv=>whnf
         exact⟨⟨3,p,wd,0⟩,0,⟨rfl,rfl⟩,rfl,by show wd.size<=s.size;omega,.inl ⟨rfl,_,htok,hwd.symm⟩,(bW rfl).trans (fT (by repeat' constructor))⟩
        | false =>
         rw[<- hwd] at h2;conv=>whnf
         rw[jnm];generalize hwd1:bs [c]=w1 at *
         cases h1:kX uK w1 with
         | true =>
          have htok:j9 (c :: r) = .tok 3 1 0:=by simp only[j9,hL1,hD1,h2,hwd1,h1]
          conv=>whnf
          refine⟨⟨by omega,by omega,by omega⟩,?_⟩;rw[hcut1];conv=>whnf
          exact⟨⟨3,p,w1,0⟩,0,⟨rfl,rfl⟩,rfl,by show w1.size<=s.size;omega,.inl ⟨rfl,_,htok,hwd1.symm⟩,(bW rfl).trans (fT (by repeat' constructor))⟩
         | false =>
          have htok:j9 (c :: r) = .bad 10:=by simp only[j9,hL1,hD1,h2,hwd1,h1]
          conv=>whnf
          exact⟨⟨0,p,⟨#[]⟩,0⟩,10,⟨rfl,rfl⟩,rfl,Nat.zero_le _,.inr ⟨by decide,htok⟩,(bW rfl).trans (fT (by repeat' constructor))⟩
       ·have h2:kX o5 (bs ((c :: r).take 2))=false:=by
         obtain rfl:r=[]:=List.eq_nil_of_length_eq_zero (by omega)
         have:∀ n:Fin 256,kX o5 (bs [UInt8.ofNat n.val])=false:=by decide +kernel
         have h:=this ⟨c.toNat,c.toNat_lt⟩
         simpa using h
        rw[show decide ((1:Int)<(b.size:Int))=false from jH (by omega)];conv=>whnf
        rw[jnm];generalize hwd1:bs [c]=w1 at *
        cases h1:kX uK w1 with
        | true =>
         have htok:j9 (c :: r) = .tok 3 1 0:=by simp only[j9,hL1,hD1,h2,hwd1,h1]
         conv=>whnf
         refine⟨⟨by omega,by omega,by omega⟩,?_⟩;rw[hcut1];conv=>whnf
         exact⟨⟨3,p,w1,0⟩,0,⟨rfl,rfl⟩,rfl,by show w1.size<=s.size;omega,.inl ⟨rfl,_,htok,hwd1.symm⟩,(bW rfl).trans (fT (by repeat' constructor))⟩
        | false =>
         have htok:j9 (c :: r) = .bad 10:=by simp only[j9,hL1,hD1,h2,hwd1,h1]
         conv=>whnf
         exact⟨⟨0,p,⟨#[]⟩,0⟩,10,⟨rfl,rfl⟩,rfl,Nat.zero_le _,.inr ⟨by decide,htok⟩,(bW rfl).trans (fT (by repeat' constructor))⟩
  ·intro e s' a6 w6 hq hi6
   match e,hq with
   | .exit x,hq =>
    obtain⟨rfl,p',hp1,hp2,hp3,hle⟩ := hq
    replace hi6:=hi6.le hle rfl
    obtain⟨hk,hy⟩ := hi6.yielded hv hno
    obtain⟨C',i1,i2,i3⟩ := hy w6 (KpB.refl B w6)
    refine⟨⟨ts,p',C',i1,i2,i3,kK hJ hj hk,hp2,by omega,hp3⟩,?_⟩;rw[hp4,mL hi6 (i:=4) (v := .int .i64 p') rfl];simp only[intOf];omega
   | .ret,hq =>
    have hk:Keeps [] w w6:=by obtain⟨E,hp,_,_⟩ := hi6;exact hp.keep
    change bodyPost Tryz.prog _ (fun e W' => (∃ v,e = .returned v)/\((∃ xs,gS s xs/\J xs W') ∨ (∃ pre,hZ s pre/\Jx pre W'))) .ret a6 w6
    refine bodyPost_ret (results_none rfl _ _ _) (by obtain⟨E,_,_,hd⟩ := hi6;exact hd) ⟨⟨_,rfl⟩,.inl ⟨_,?_,kK hJ hj hk⟩⟩;unfold gS;rw[hq]
   | .normal,hq =>
    obtain⟨tk,e,hcl,htp,htz,hgood,hle⟩ := hq
    replace hi6:=hi6.le hle rfl
    refine wpIn_seq (wpIn_seq (wpIn_region_lit ?_));refine jmP 5 hc hi6 ?_;conv=>whnf
    intro a7 w7 hi7
    obtain⟨hk,hy⟩ := hi7.yielded hv hno
    have e1:a7.tmps.getD 98 undef=jj1 tk:=jku hi7 (vs:=[.int .i64 tk.kind,.int .i64 tk.pos,.string tk.text,.int .i64 tk.n]) rfl
    have e2:a7.tmps.getD 101 undef = .agg #[.int .i64 p,.int .i64 e]:=jku hi7 (vs:=[.int .i64 p,.int .i64 e]) rfl
    have hclP:clP p=p:=if_pos (by omega)
    have hclE:clE e=e:=if_pos (by
     rcases hgood with ⟨h,_⟩ | ⟨_,h⟩
     ·omega
     ·exact jfj h)
    have hlen:(ts.map itOk).length<s.size:=by rw[List.length_map];omega
    refine jf4 (l:=l) (vals:=jjR ⟨tk,p,e⟩) rfl rfl (mL hi7 (i:=97) (v := .func (.yield l) #[] #[]) rfl) (by rw[show Array.map a7.eval #[.tmp 98,.tmp 101] = #[a7.eval (.tmp 98),a7.eval (.tmp 101)] from by simp];show #[a7.tmps.getD 98 undef,a7.tmps.getD 101 undef] = #[jj1 tk,.agg #[.int .i64 (clP p:Nat),.int .i64 (clE e)]];rw[e1,e2,hclP,hclE]) (hY (ts.map itOk) ⟨tk,p,e⟩ w7 (kK hJ hj hk) hlen) ?_;rintro x w8 (⟨rfl,hj8,hkp⟩ | ⟨rfl,hjx8⟩)
    ·refine⟨_,rfl,?_⟩
     obtain⟨C',i1,i2,i3⟩ := hy w8 hkp
     refine jnC (G:=fun a=>wpListIn _ _ _ _ _ _ a _) i1 trivial ?_;conv=>whnf
     intro a8 hi8;refine jd4 5 hc hi8 ?_;conv=>whnf
     intro a9 w9 hi9
     have hd9:a9.defers=[]:=by obtain⟨E,_,_,hd⟩ := hi9;exact hd
     obtain⟨hk9,hy9⟩ := hi9.yielded i2 i3
     have hj9:=kK hJ hj8 hk9
     rcases hgood with ⟨rfl,len,htok,htx⟩ | ⟨hne,htok⟩
     ·rw[hd,jem hcl.1 hcl.2 htok,jdo] at hinv
      have hl:=aG htok
      have hsz:tk.text.size=len:=by rw[htx];exact aE _ _ hl.2
      refine jcq (i:=107) (b:=false) hi9 rfl ?_;rw[if_neg (by simp)];refine wpIn_skip (wpIn_region_lit ?_);refine jd4 6 hc hi9 ?_;conv=>whnf
      refine⟨jU (by omega),?_⟩;conv=>whnf
      intro a10 w10 hi10
      replace hi10:=hi10.le (fT (s':=⟨jkZ l s L (p+len),[],[]⟩) (by rw[<- hsz];repeat' constructor)) rfl
      obtain⟨hk10,hy10⟩ := hi10.yielded i2 i3
      obtain⟨C2,j1,j2,j3⟩ := hy10 w10 (KpB.refl B w10)
      have htk:(⟨tk.kind,p,bs (List.take len (c :: r)),tk.n⟩ : Tk)=tk:=by rw[<- htx,<- htp]
      have hit:(⟨tk,p,0⟩ : It)=itOk tk:=by unfold itOk;rw[htp]
      rw[hit] at hj8;refine⟨⟨ts++[tk],p+len,C2,j1,j2,j3,?_,by simp at hl;omega,by simp;omega,?_⟩,?_⟩
      ·rw[List.map_append];exact kK hJ hj8 hk10
      ·rw[hd1 len,<- hinv,htk]
      ·rw[hp4,mL hi10 (i:=4) (v := .int .i64 (p+len:Nat)) rfl];simp only[intOf];omega
     ·refine jcq (i:=107) (b:=true) hi9 (by show A.v (.bool (!decide (e=0)))=_;rw[jH hne];rfl) ?_;rw[if_pos rfl];refine wpIn_ret ?_
      change bodyPost Tryz.prog _ (fun e W' => (∃ v,e = .returned v)/\((∃ xs,gS s xs/\J xs W') ∨ (∃ pre,hZ s pre/\Jx pre W'))) .ret a9 w9
      refine bodyPost_ret (results_none rfl _ _ _) hd9 ⟨⟨_,rfl⟩,.inl ⟨_,?_,hj9⟩⟩;rw[hd,jek hcl.1 hcl.2 htok] at hinv;unfold gS;rw[<- hinv];exact⟨tk,by simp[Lx.app]⟩
    ·refine⟨_,rfl,?_⟩;refine jnC (G:=fun a=>wpListIn _ _ _ _ _ _ a _) hi7 trivial ?_;conv=>whnf
     intro a8 hi8;refine lC hc.ok hi8 ?_;conv=>whnf
     intro a9 hi9;refine jcq (i:=107) (b:=true) hi9 rfl ?_;rw[if_pos rfl];refine wpIn_ret ?_
     change bodyPost Tryz.prog _ (fun e W' => (∃ v,e = .returned v)/\((∃ xs,gS s xs/\J xs W') ∨ (∃ pre,hZ s pre/\Jx pre W'))) .ret a9 w8
     refine bodyPost_ret (results_none rfl _ _ _) (by obtain⟨E,_,_,hd⟩ := hi9;exact hd) ⟨⟨_,rfl⟩,.inr ⟨_,?_,hjx8⟩⟩
     rcases hgood with ⟨rfl,len,htok,htx⟩ | ⟨hne,htok⟩
     ·rw[hd,jem hcl.1 hcl.2 htok,jdo] at hinv;generalize fK (p+len) (List.drop len (c :: r))=rest at *
      have htk:(⟨tk.kind,p,bs (List.take len (c :: r)),tk.n⟩ : Tk)=tk:=by rw[<- htx,<- htp]
      rw[htk] at hinv
      have hit:(⟨tk,p,0⟩ : It)=itOk tk:=by unfold itOk;rw[htp]
      rw[hit];unfold hZ gS;rw[<- hinv]
      cases hr:rest.err with
      | none=>exact⟨(ts++[tk]++rest.toks).map itOk,by simp[Lx.app,hr],⟨rest.toks.map itOk,by simp⟩⟩
      | some x=>exact⟨(ts++[tk]++rest.toks).map itOk++[⟨tk,x.1,x.2⟩],by simp only[Lx.app,hr];exact⟨tk,by simp⟩,⟨rest.toks.map itOk++[⟨tk,x.1,x.2⟩],by simp⟩⟩
     ·rw[hd,jek hcl.1 hcl.2 htok] at hinv;refine⟨_,?_,List.prefix_rfl⟩;unfold gS;rw[<- hinv];exact⟨tk,by simp[Lx.app]⟩
 ·refine j5 (by simp;omega) ?_
  obtain rfl:p=s.size:=by omega
  conv=>whnf
  intro a' w' hi';rw[List.drop_of_length_le (by omega),jel] at hinv
  obtain⟨hk,hy⟩ := hi'.yielded hv hno
  change bodyPost Tryz.prog _ (fun e W' => (∃ v,e = .returned v)/\((∃ xs,gS s xs/\J xs W') ∨ (∃ pre,hZ s pre/\Jx pre W'))) .normal a' w'
  refine bodyPost_end (results_none rfl _ _ _) (by obtain⟨E,_,_,hd⟩ := hi';exact hd) ⟨⟨_,rfl⟩,.inl ⟨_,?_,kK hJ hj hk⟩⟩;unfold gS;rw[<- hinv]
  simp[Lx.app]
section
def jcH (ops:List Oper):Bool:=ops.all fun o=>match o.op with
 | .defer _=>false
 | _=>true
theorem jkS {n l:Nat} {P:Program} {o:Oper} {a:Act} {w:World} {K:Act->World->Prop} {Q:Exit->Act->World->Prop} (hd:∀ c,o.op ≠ .defer c) (h:o.wp P a w K Q):o.wpIn (Fence.wide.inRound l) n P a w K Q:=by
 refine⟨fun _ _=>trivial,?_⟩;rw[Oper.semAt_eq _ _ _ hd];unfold Oper.wp at h;generalize (execOp a.eval o).run P w=r at *
 match r,h with
 | .ok (.value v) w',h=>exact h
 | .ok .skip w',h=>exact h
 | .ok (.defer d) w',h=>exact h
 | .ok (.enter f args) w',h=>exact⟨fun h' => by simp[Fence.wide] at h',CallsIn.inRound l (callsIn_wide.2 h)⟩
 | .ok (.row row args) w',h=>exact⟨fun h' => by simp[Fence.wide] at h',jc2 h⟩
 | .halt (.panic v) w',h=>exact h
theorem jcN {n l:Nat} {P:Program} {ops:List Oper} {Q:Exit->Act->World->Prop} (hd:jcH ops=true) (hQ : ¬ LetsOut Q):∀ {is:List Nat} {a:Act} {w:World},wpOps P ops.toArray Q is a w->wpOpsIn (Fence.wide.inRound l) n P ops.toArray Q is a w
 | [],a,w,h=>h
 | i :: rest,a,w,h=>by
  unfold wpOps at h;unfold wpOpsIn
  cases ho:ops.toArray[i]? with
  | none =>
   rw[ho] at h;exact jcN hd hQ h
  | some o =>
   rw[ho] at h
   simp only at h ⊢
   have hmem:o ∈ ops:=by
    have:ops[i]? = some o:=by simpa using ho
    exact List.mem_iff_getElem?.2 ⟨i,this⟩
   have hnd:∀ c,o.op ≠ .defer c:=fun c e=>by
    have:=List.all_eq_true.1 hd o hmem
    rw[e] at this
    cases this
   split at h
   ·rename_i hw
    rw[if_pos hw]
    rcases h with h | h
    ·refine jkS hnd ?_;exact Oper.wp_mono (fun a' w' h' => jcN hd hQ h') h
    ·exact absurd h.2 hQ
   ·rename_i hw
    rw[if_neg hw];exact⟨fun _ _=>trivial,jcN hd hQ h⟩
def jaM (K:Act->World->Prop):Exit->Act->World->Prop
 | .normal,a,w=>K a w
 | _,_,_=>False
section
variable {c:Cx} {w0:W0} {w:World} {C0:Rd} {β0:List Nat} {s:S} {a:Act}
theorem jmz {K:Act->World->Prop} : ¬ LetsOut (jat c [] w0 C0 β0 (jaM K)):=by
 rintro⟨a,w,h⟩
 simp[jat,jaM] at h
theorem jl5 {id lp n:Nat} {ops:List Oper} {X:List Nat} {l:Tr} {K:S->Prop} {Kc:Act->World->Prop} (hc:c.okN) (hi:Inv [] w0 C0 β0 s a w) (hX:pD X s.bx.length=true) (hB:lD ops.toArray l=true) (hnd:jcH ops=true)
  (h:jaw c (xrB X) s.bx.length ops l 0 s K) (hk:∀ s' a' w',K s'->Inv [] w0 C0 β0 s' a' w'->Kc a' w') {Q:Exit->Act->World->Prop} (hQ:∀ a w,Kc a w->Q .normal a w):(Code.region id ops.toArray true).wpIn (Fence.wide.inRound lp) n c.P Q a w:=by
 obtain⟨E,hp,ht,hd⟩ := hi
 rw[hp.bl] at h
 have hk0:jc6 (xrB X) E w.drew w.drew:=⟨fun _ _ _ _=>rfl,(nM hp).sub⟩
 have hT:lI c.P ops.toArray (jat c [] w0 C0 β0 (jaM Kc)) (jc6 (xrB X) E w.drew) l a w.drew :=
  yU rfl (Q:=jaM Kc) hc.ok ⟨0,rfl⟩ (nM hp) ht hd (fun _=>⟨Sub.refl _,fun _ _ h=>h,hk0⟩) (fun _=>rfl) h hk
 simp only[lD,Bool.and_eq_true,decide_eq_true_eq] at hB
 have hA:=jdg (md := .any) hB.1.1 jeI _ l _ a _ hB.1.2 hB.2 hT
 have:(Code.region id ops.toArray true).wpIn (Fence.wide.inRound lp) n c.P (jat c [] w0 C0 β0 (jaM Kc)) a w:=wpIn_region_draw fun t=>by
  simp only[Region.schedule,hc.ok.m,Bool.true_or,if_true];exact jcN hnd jmz (wpAny_sound ops.toArray.size t _ a _ hA)
 refine wpIn_mono this fun e a' w' h => ?_
 cases e with
 | normal=>exact hQ _ _ h
 | panic ch=>obtain⟨s',h1,_⟩ := h;exact absurd h1 (hc.no ch s')
 | _=>simp[jat,jaM] at h
theorem jiN {id lp n:Nat} {ops:List Oper} {Q:Exit->Act->World->Prop} (hc:c.okN) (hi:Inv [] w0 C0 β0 s a w) (hfl:Tr.isFlow (c.ord id)=false) (hfl2:Tr.isFlowL (c.ord id)=false) (ho:lD ops.toArray (c.ord id)=true) (hnd:jcH ops=true)
  (h:nJ c id ops.toArray true s fun e s' => e = .normal /\ ∀ a' w',Inv [] w0 C0 β0 s' a' w'->Q .normal a' w'):(Code.region id ops.toArray true).wpIn (Fence.wide.inRound lp) n c.P Q a w:=by
 unfold nJ at h
 simp only at h
 split at h
 ·rename_i hx
  rw[hfl] at h
  simp only at h
  rw[hfl2] at h
  simp only at h
  split at h
  ·exact jl5 (c:=c.kill) ⟨hc.ok.kill,fun ch s' h=>hc.no ch _ h⟩ hi hx ho hnd h (Kc:=Q .normal) (fun s' a' w' h1 h2=>h1.2 a' w' h2) fun _ _ h=>h
  ·unfold fN at h
   obtain⟨φ,h,h'⟩ := h
   exact jl5 (c:=c.kill) ⟨hc.ok.kill,fun ch s' h=>hc.no ch _ h⟩ hi hx ho hnd h (Kc:=Q .normal) (fun s' a' w' h1 h2=>(h' _ h1).2 a' w' h2) fun _ _ h=>h
 ·exact h.elim
theorem joo {W:World} {β:List Nat} {bx:List (List A)} {t:List A} (h0:Gok C0 W) (h1:Sub C0 (zW W)) (hnd:β.Nodup) (hbC:∀ b ∈ β,∀ o sp,C0 ⟨b,o,sp⟩ = none) (hbl:bx.length=β.length) (hbx:∀ (i b:Nat) (cs:List A),β[i]? = some b->bx[i]? = some cs->boxAt W ⟨C0,β,[]⟩ b cs)
  (ht:A.repL t ⟨C0,β,[]⟩ a.tmps.toList) (hd:a.defers=[]):Inv [] (.of W) C0 β ⟨t,bx,[]⟩ a W :=
 ⟨⟨C0,β,[]⟩,⟨h1,Sub.refl _,fun _ _ hc => .inl hc,⟨[],by simp,by simp⟩,hnd,hbC,hbl,hbx,rfl,fun g r y hg=>by simp at hg,fun g e k n cs y b hg=>by simp at hg,fun g e k n cs y h' e' k' n' cs' z b _ hg=>by simp at hg,fun g y hg=>by simp at hg,Keeps.refl _ _,jim h0⟩,ht,hd⟩
theorem sR (hi:Inv [] w0 C0 β0 s a w) {i b:Nat} {x:Value} (hβ:β0[i]? = some b) (hbx:s.bx[i]? = some [.v x]):w.cell? ⟨b,0,none⟩ = some x:=by
 obtain⟨E,hp,ht,hd⟩ := hi
 obtain⟨β',e1,e2⟩ := hp.bp
 have h1:E.β[i]? = some b:=by
  rw[e1,List.getElem?_append_left (List.getElem?_eq_some_iff.1 hβ).1];exact hβ
 obtain⟨T,arr,q1,q2⟩ := hp.bxs i b _ h1 hbx
 have:=oT (vs:=[x]) q2.1
 have e:arr = #[x]:=by
  apply Array.toList_inj.1
  rw[this]
 simp[zW,World.cell?,q1,e]
theorem jcn {W:World} {E:Env} {b:Nat} {T:TypeId} {x:Value} (h:Boxed W b T x) (hx:cF x):boxAt W E b [.v x]:=⟨T,#[x],h,.mk' ⟨x,[],rfl,iR hx,A.rep_v hx,rfl⟩⟩
theorem jkj {P:Program} {T:List (Nat × Te)} {t:Nat} {e:Te} {W:World} {ad:Addr} {v:Value} (hT:Tab.ok P T) (h:Tab.get T t=some e) (ha:e.d.agg=false) (hc:W.cell? ad=some v):(loadVar t ad).run P W = .ok v W:=by
 have q1:=hT.agg h W
 rw[ha] at q1
 simp[loadVar,q1,load,Sem.run,hc,Result.andThen]
theorem jeV {P:Program} {T:List (Nat × Te)} (hT:Tab.ok P T) {fn:Func} {a1 a2 a3 t1 t2 t3:Nat} {e1 e2 e3:Te} {tmps:Array Value} {W:World} {d1 d2 d3:Addr} {v1 v2 v3:Value} (hr:fn.results = #[.cell a1 t1,.cell a2 t2,.cell a3 t3])
  (p1:tmps.getD a1 undef = .pointer (some d1)) (p2:tmps.getD a2 undef = .pointer (some d2)) (p3:tmps.getD a3 undef = .pointer (some d3))
  (g1:Tab.get T t1=some e1) (g2:Tab.get T t2=some e2) (g3:Tab.get T t3=some e3) (k1:e1.d.agg=false) (k2:e2.d.agg=false) (k3:e3.d.agg=false)
  (c1:W.cell? d1=some v1) (c2:W.cell? d2=some v2) (c3:W.cell? d3=some v3):(results fn tmps).run P W = .ok (.tuple #[v1,v2,v3]) W:=by
 have he:results fn tmps=(do let vs <- fn.results.mapM (jgD tmps);pure (if h:vs.size=1 then vs[0] else .tuple vs)):=by
  unfold results
  congr 1
 have f:∀ {x t d v},tmps.getD x undef = .pointer (some d)->(loadVar t d).run P W = .ok v W->(jgD tmps (.cell x t)).run P W = .ok v W:=fun h1 h2=>by
  simp only[jgD,h1,asAddr]
  simpa [Result.andThen] using h2
 have r1:=f (t:=t1) p1 (jkj hT g1 k1 c1)
 have r2:=f (t:=t2) p2 (jkj hT g2 k2 c2)
 have r3:=f (t:=t3) p3 (jkj hT g3 k3 c3)
 rw[he,hr]
 simp[r1,r2,r3,Result.andThen]
end
end
end Go.Proofs.YtfbifdccmabdbaaGreatDoor.Vm
