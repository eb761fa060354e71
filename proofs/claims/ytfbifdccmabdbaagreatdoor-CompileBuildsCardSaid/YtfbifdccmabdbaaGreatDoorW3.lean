/- Part 3 of the proof. -/
import Derived.Test.YtfbifdccmabdbaaGreatDoorW2
import Derived.Test.YtfbifdccmabdbaaGreatDoorRows
import Derived.LaidLaws
import Derived.LaidMore
import Derived.LaidHandle
import Derived.MakeChecks
import Derived.FnData
import Derived.Lib.LaidTab
import Derived.WideShapes
import Derived.OpenShut
import Derived.Handed
import Derived.Shelf.Vars
import Derived.Lib.Hide
import Derived.Carry
import Derived.Laws.EntriesVeiled
import Derived.Shelf.Pu.ToErrorRange
import Derived.Shelf.Lay
import Derived.Ground.MpProg
import Derived.Shelf.Pu.ToError
import Derived.Shelf.Pu.Lower
import Derived.RangeFuncFrom
import Derived.RangeFuncBound
import Derived.RangeFuncLeaves
import Derived.TacticsIn
import Derived.RangeFuncNested
import Derived.RangeFuncBox
set_option maxRecDepth 100000
set_option linter.unusedSimpArgs false
set_option linter.unusedVariables false
set_option maxHeartbeats 4000000
namespace Go.Proofs.YtfbifdccmabdbaaGreatDoor.Vm
abbrev zI:Value:=.int .i64 0
abbrev zL:Value:=.slice none 0 0
abbrev zS:Value:=.string ⟨#[]⟩
abbrev zB:Value:=.bool false
abbrev zU:Value:=.int .u8 0
abbrev zP:Value:=.pointer none
abbrev eI:Te:=⟨.int .i64,[zI],8⟩
abbrev eS:Te:=⟨.str,[zS],16⟩
abbrev eY:Te:=⟨.iface,[.nilIface],16⟩
abbrev eL(k:Nat):Te:=⟨.slice k,[zL],24⟩
abbrev eP(k:Nat):Te:=⟨.ptr k,[zP],8⟩
def rZ(x:Value):Nat->List Value
 |0=>[]
 |n+1=>x::rZ x n
def fnT:List Nat->List (Nat×Te)
 |[]=>[]
 |i::l=>(i,⟨.func,[.nilFunc],8⟩)::fnT l
set_option maxRecDepth 20000 in
def tab:List (Nat×Te):=(2,eI)::(3,eI)::(4,⟨.bool,[zB],1⟩)::(5,⟨.int .u8,[zU],1⟩)::(6,⟨.int .u8,[zU],1⟩)::(7,⟨.struct [(0,2),(1,3),(2,4),(3,6)],[zI,zI,zB,zU],24⟩)::(8,⟨.struct [(0,2),(1,3),(2,4),(3,6)],[zI,zI,zB,zU],24⟩)::(9,eS)::(10,eS)::(11,eS)::(12,⟨.int .u64,[.int .u64 0],8⟩)::(13,⟨.struct [(0,9),(1,12)],[zS,.int .u64 0],24⟩)::(14,⟨.struct [(0,9),(1,12)],[zS,.int .u64 0],24⟩)::(15,eP 257)::(16,eP 260)::(17,eP 268)::(18,⟨.struct [(0,17)],[zP],8⟩)::(19,⟨.struct [(0,17)],[zP],8⟩)::(20,eY)::(21,⟨.int .i32,[.int .i32 0],4⟩)::(22,eL 3)::(23,eL 9)::(24,eL 67)::(25,⟨.struct [(0,23),(1,23),(2,24)],[zL,zL,zL],72⟩)::(26,⟨.struct [(0,23),(1,23),(2,24)],[zL,zL,zL],72⟩)::(28,eL 52)::(29,⟨.arr 40 3,rZ zI 40,320⟩)::(30,⟨.struct [(0,28),(1,29),(41,3),(42,3)],[zL,zI,zI,zI,zI,zI,zI,zI,zI,zI,zI,zI,zI,zI,zI,zI,zI,zI,zI,zI,zI,zI,zI,zI,zI,zI,zI,zI,zI,zI,zI,zI,zI,zI,zI,zI,zI,zI,zI,zI,zI,zI,zI],360⟩)::(31,⟨.struct [(0,28),(1,29),(41,3),(42,3)],[zL,zI,zI,zI,zI,zI,zI,zI,zI,zI,zI,zI,zI,zI,zI,zI,zI,zI,zI,zI,zI,zI,zI,zI,zI,zI,zI,zI,zI,zI,zI,zI,zI,zI,zI,zI,zI,zI,zI,zI,zI,zI,zI],360⟩)::(32,eI)::(48,eL 31)::(51,⟨.struct [(0,3),(1,3)],[zI,zI],16⟩)::(52,⟨.struct [(0,3),(1,3)],[zI,zI],16⟩)::(59,eL 26)::(60,eP 70)::(63,eL 65)::(64,⟨.struct [(0,3),(1,3),(2,9),(3,63)],[zI,zI,zS,zL],56⟩)::(65,⟨.struct [(0,3),(1,3),(2,9),(3,63)],[zI,zI,zS,zL],56⟩)::(66,⟨.struct [(0,3),(1,65)],[zI,zI,zI,zS,zL],64⟩)::(67,⟨.struct [(0,3),(1,65)],[zI,zI,zI,zS,zL],64⟩)::(68,⟨.arr 16 3,rZ zI 16,128⟩)::(69,⟨.struct [(0,68),(16,22),(17,3),(18,3),(19,4),(20,3)],[zI,zI,zI,zI,zI,zI,zI,zI,zI,zI,zI,zI,zI,zI,zI,zI,zL,zI,zI,zB,zI],184⟩)::(70,⟨.struct [(0,68),(16,22),(17,3),(18,3),(19,4),(20,3)],[zI,zI,zI,zI,zI,zI,zI,zI,zI,zI,zI,zI,zI,zI,zI,zI,zL,zI,zI,zB,zI],184⟩)::(75,eP 78)::(77,⟨.struct [(0,22),(1,3)],[zL,zI],32⟩)::(78,⟨.struct [(0,22),(1,3)],[zL,zI],32⟩)::(81,eP 83)::(82,⟨.struct [(0,26),(3,28)],[zL,zL,zL,zL],96⟩)::(83,⟨.struct [(0,26),(3,28)],[zL,zL,zL,zL],96⟩)::(88,eL 97)::(91,eP 93)::(92,⟨.struct [(0,88),(1,3),(2,3),(3,32),(4,23)],[zL,zI,zI,zI,zL],72⟩)::(93,⟨.struct [(0,88),(1,3),(2,3),(3,32),(4,23)],[zL,zI,zI,zI,zL],72⟩)::(96,⟨.struct [(0,3),(1,3),(2,9),(3,3)],[zI,zI,zS,zI],40⟩)::(97,⟨.struct [(0,3),(1,3),(2,9),(3,3)],[zI,zI,zS,zI],40⟩)::(104,eL 5)::(106,⟨.map 3 109,[.map none],8⟩)::(108,⟨.struct [(0,3),(1,3),(2,3),(3,3)],[zI,zI,zI,zI],32⟩)::(109,⟨.struct [(0,3),(1,3),(2,3),(3,3)],[zI,zI,zI,zI],32⟩)::(122,⟨.map 3 120,[.map none],8⟩)::(123,⟨.map 3 3,[.map none],8⟩)::(138,eL 162)::(141,⟨.struct [(0,3),(1,32)],[zI,zI],16⟩)::(142,⟨.struct [(0,3),(1,32)],[zI,zI],16⟩)::(143,eP 145)::(144,⟨.struct [(0,138),(1,23)],[zL,zL],48⟩)::(145,⟨.struct [(0,138),(1,23)],[zL,zL],48⟩)::(148,eI)::(154,⟨.map 9 3,[.map none],8⟩)::(162,⟨.struct [(0,3),(1,3),(2,9),(3,3)],[zI,zI,zS,zI],40⟩)::(163,⟨.struct [(0,3),(1,32)],[zI,zI],16⟩)::(164,⟨.struct [(0,3),(1,32)],[zI,zI],16⟩)::(165,⟨.map 3 67,[.map none],8⟩)::(171,⟨.struct [(0,148),(1,148)],[zI,zI],16⟩)::(172,⟨.struct [(0,148),(1,148)],[zI,zI],16⟩)::(173,⟨.map 9 172,[.map none],8⟩)::(178,⟨.int .u8,[zU],1⟩)::(179,⟨.arr 256 178,rZ zU 256,256⟩)::(186,⟨.int .u64,[.int .u64 0],8⟩)::(187,eY)::(188,eY)::(196,eL 23)::(200,⟨.map 9 199,[.map none],8⟩)::(205,⟨.int .u64,[.int .u64 0],8⟩)::(206,eI)::(208,eP 226)::(215,eI)::(222,⟨.int .u32,[.int .u32 0],4⟩)::(225,⟨.struct [(0,9),(1,9),(2,188)],[zS,zS,.nilIface],48⟩)::(226,⟨.struct [(0,9),(1,9),(2,188)],[zS,zS,.nilIface],48⟩)::(229,⟨.int .u64,[.int .u64 0],8⟩)::(233,eP 3)::(235,eP 5)::(236,eP 238)::(237,⟨.struct [(0,9)],[zS],16⟩)::(238,⟨.struct [(0,9)],[zS],16⟩)::(242,eP 229)::(248,⟨.arr 24 5,rZ zU 24,24⟩)::(252,⟨.arr 20 186,[.int .u64 0,.int .u64 0,.int .u64 0,.int .u64 0,.int .u64 0,.int .u64 0,.int .u64 0,.int .u64 0,.int .u64 0,.int .u64 0,.int .u64 0,.int .u64 0,.int .u64 0,.int .u64 0,.int .u64 0,.int .u64 0,.int .u64 0,.int .u64 0,.int .u64 0,.int .u64 0],160⟩)::(253,⟨.arr 65 5,rZ zU 65,65⟩)::(254,⟨.arr 32 5,rZ zU 32,32⟩)::(255,⟨.arr 64 5,rZ zU 64,64⟩)::(256,⟨.struct [(0,17),(1,17),(2,17),(3,9)],[zP,zP,zP,zS],40⟩)::(257,⟨.struct [(0,17),(1,17),(2,17),(3,9)],[zP,zP,zP,zS],40⟩)::(258,⟨.arr 0 16,[],0⟩)::(259,⟨.struct [(0,258)],[],0⟩)::(260,⟨.struct [(0,258)],[],0⟩)::(262,⟨.int .u8,[zU],1⟩)::(263,⟨.int .u8,[zU],1⟩)::(265,⟨.int .i32,[.int .i32 0],4⟩)::(266,⟨.int .i32,[.int .i32 0],4⟩)::(267,⟨.struct [(0,12),(1,12),(2,222),(3,262),(4,5),(5,5),(6,263),(7,264),(8,235),(9,265),(10,266)],[.int .u64 0,.int .u64 0,.int .u32 0,zU,zU,zU,zU,.nilFunc,zP,.int .i32 0,.int .i32 0],48⟩)::(268,⟨.struct [(0,12),(1,12),(2,222),(3,262),(4,5),(5,5),(6,263),(7,264),(8,235),(9,265),(10,266)],[.int .u64 0,.int .u64 0,.int .u32 0,zU,zU,zU,zU,.nilFunc,zP,.int .i32 0,.int .i32 0],48⟩)::(269,⟨.other,[zP],8⟩)::fnT [1,27,34,36,37,38,39,40,41,42,43,44,45,46,47,49,50,53,54,55,57,58,61,62,71,72,73,74,76,79,80,84,85,86,87,90,94,95,98,99,100,101,102,103,105,107,111,112,113,114,115,116,117,118,119,120,125,126,127,128,129,131,132,133,134,135,136,137,140,146,147,149,150,151,152,153,155,156,157,158,159,160,161,166,167,168,169,170,174,175,176,177,180,181,182,183,184,185,190,191,192,194,195,197,198,199,201,202,203,204,207,209,210,211,212,213,214,217,218,219,220,221,223,224,227,228,230,231,232,234,239,240,241,244,245,247,249,251,261,264]
theorem joh{P:Program}:∀{T:List (Nat×Te)},T.map (fun p=>jok P p.1)=T.map (fun p=>some p.2)->Tab.ok P T
 |[],_=>Tab.ok_nil P
 |(i,e)::r,h=>by rw[List.map_cons,List.map_cons,List.cons.injEq] at h;exact Tab.ok_cons h.1 (joh h.2)
theorem jc6:Tab.ok Tryz.prog tab:=joh (by kernel_rfl)
theorem jqi{T:List (Nat×Te)}(h:(T.all fun x=>x.2.z.all fun u=>u.oneCell')=true):pX T:=fun t e he u hu=>by
 induction T with
 |nil=>simp[Tab.get] at he
 |cons x r ih =>
  obtain⟨i,e1⟩:=x;simp only[xtw113,xtw14] at h;unfold Tab.get at he;split at he
  ·cases he;exact xtw65.1 h.1 u hu
  ·exact ih h.2 he
theorem joi:pX tab:=jqi (by kernel_rfl)
theorem mixed:Tryz.prog.follows .mixedOrders=true:=by kernel_rfl
def qr(m:Nat)(t:Tr):List Nat->Tr
 |[]=>t
 |k::l=>.q k m (qr m t l)
def oS(i k:Nat)(x y:Tr):Tr:=match Nat.beq i k with|true=>x|false=>y
def jtJ(id:Nat):Tr:=oS id 8 (.q 0 3 (.q 1 0 (qr 3 (.alt 4 1 (.q 5 3 (.alt 6 1 (.alt 7 1 (.q 8 3 (.alt 9 2 .nil .nil)) .nil) .nil)) .nil) [2,3])))<|.nil
def jtK(id:Nat):Tr:=oS id 11 (.q 0 3 (.q 1 0 (qr 3 (.q 5 0 (qr 3 (.alt 9 2 .nil .nil) [6,7,8])) [2,3,4])))<|.nil
def jtL(id:Nat):Tr:=oS id 11 (.q 0 3 (qr 0 (.q 3 3 (.q 4 0 (qr 3 (.q 8 0 (.q 9 3 (.q 10 0 (.q 11 3 (.alt 12 1 (.alt 13 1 (.q 14 3 (.alt 15 2 .nil .nil)) .nil) .nil))))) [5,6,7]))) [1,2]))<|.nil
def jtM(id:Nat):Tr:=oS id 10 (.q 0 3 (.q 1 0 (.q 2 3 (.alt 3 1 (.alt 4 1 (.q 5 3 (.alt 6 2 .nil .nil)) .nil) .nil))))<|oS id 11 (.q 0 3 (.q 1 0 (.q 2 3 (.alt 3 1 (.alt 4 1 (.q 5 3 (.alt 6 2 .nil .nil)) .nil) .nil))))<|oS id 12 (qr 3 (.q 3 0 (qr 3 (.q 9 0 (qr 3 (.q 13 0 (qr 3 (.q 16 0 (qr 3 .nil [17,18])) [14,15])) [10,11,12])) [4,5,6,7,8])) [0,1,2])<|oS id 19 (qr 3 (.q 4 0 (qr 3 (.q 8 0 (.alt 9 1 (qr 3 .nil [10,11]) .nil)) [5,6,7])) [0,1,2,3])<|.nil
def jtN(id:Nat):Tr:=oS id 6 (.q 0 3 (.q 1 0 (qr 3 (.q 4 0 (.q 5 3 (.q 6 0 (qr 3 (.q 9 0 (.q 10 3 .nil)) [7,8])))) [2,3])))<|.nil
def jtO(id:Nat):Tr:=oS id 7 (qr 3 .nil [0,1,2,3,4,5,6,7,8,9,10])<|oS id 9 (qr 3 .nil [0,1,2,3,4,5,6,7,8])<|oS id 12 (qr 3 .nil [0,1,2,3,4,5,6,7,8,9])<|.nil
def jtP(id:Nat):Tr:=oS id 11 (.q 0 0 (qr 3 (.q 4 0 (.alt 5 2 (.q 6 3 .nil) .nil)) [1,2,3]))<|.nil
def jtQ(id:Nat):Tr:=oS id 1 (qr 3 (.q 3 0 (qr 3 (.q 7 0 (.alt 8 2 (.q 9 3 .nil) .nil)) [4,5,6])) [0,1,2])<|.nil
def jtR(id:Nat):Tr:=oS id 5 (.q 0 3 (.q 1 0 (qr 3 (.alt 4 1 (.alt 5 1 (.alt 6 1 (.q 7 3 (.alt 8 2 .nil .nil)) .nil) .nil) .nil) [2,3])))<|.nil
def vT(id:Nat):Tr:=oS id 8 (.q 1 3 (.q 2 0 (.alt 0 1 (.alt 3 2 (.q 4 3 (.alt 5 2 (.q 6 3 .nil) .nil)) .nil) .nil)))<|oS id 10 (.q 0 0 (.q 1 3 (.q 2 0 (.q 3 3 (.q 4 0 (.q 5 3 (.q 6 0 (qr 3 (.q 9 0 (qr 3 (.alt 12 2 (.q 13 3 .nil) .nil) [10,11])) [7,8]))))))))<|oS id 20 (.q 0 0 (.q 1 3 (.q 2 0 (.q 3 3 (.q 4 0 (.q 5 3 (.alt 6 2 (.q 7 3 .nil) .nil)))))))<|oS id 21 (.q 0 0 (.q 1 3 (.q 2 0 (.q 3 3 (.q 4 0 (qr 3 (.alt 10 2 (.q 11 3 .nil) .nil) [5,6,7,8,9]))))))<|oS id 26 (.q 0 0 (.q 1 3 (.q 2 0 (.q 3 3 (.q 4 0 (.q 5 3 (.q 6 0 (qr 3 (.alt 9 2 (.q 10 3 .nil) .nil) [7,8]))))))))<|oS id 28 (.q 0 0 (.q 1 3 (.q 2 0 (.q 3 3 (.q 4 0 (.q 5 3 (.q 6 0 (qr 3 (.alt 9 2 (.q 10 3 .nil) .nil) [7,8]))))))))<|.nil
def jqI(id:Nat):Tr:=oS id 1 (.q 0 0 (qr 3 (.q 4 0 (.alt 5 2 (qr 3 .nil [6,7,8,9,10]) .nil)) [1,2,3]))<|oS id 8 (qr 3 (.q 4 0 (qr 3 (.q 8 0 (qr 3 (.alt 10 1 (.q 11 3 (.alt 13 1 (.q 14 3 (.alt 15 2 (.q 16 3 .nil) .nil)) .nil)) .nil) [9,12])) [5,6,7])) [0,1,2,3])<|.nil
def jtS(id:Nat):Tr:=oS id 1 (qr 3 (.q 3 0 (qr 3 (.q 7 0 (qr 3 (.q 10 0 (.q 11 3 .nil)) [8,9])) [4,5,6])) [0,1,2])<|.nil
def jqJ(id:Nat):Tr:=oS id 4 (.q 0 3 (.q 1 0 (qr 3 (.alt 4 1 (.alt 5 1 (.alt 6 1 (.q 7 3 (.alt 8 2 .nil .nil)) .nil) .nil) .nil) [2,3])))<|.nil
def jtT(id:Nat):Tr:=oS id 3 (qr 3 (.q 9 0 (.q 10 3 (.q 11 0 (qr 3 .nil [12,13])))) [0,1,2,3,4,5,6,7,8])<|.nil
def jtU(id:Nat):Tr:=oS id 1 (.q 0 3 (.q 1 0 (.q 2 3 (.q 3 0 (qr 3 (.q 7 0 (qr 3 .nil [8,9,10,11])) [4,5,6])))))<|.nil
def nD(id:Nat):Tr:=oS id 14 (.q 0 3 (qr 0 (.q 3 3 (.alt 4 1 (.alt 5 1 (.q 6 3 (.alt 7 2 .nil .nil)) .nil) .nil)) [1,2]))<|oS id 23 (.q 0 0 (.q 1 3 (.alt 2 1 (.alt 3 1 (.q 4 3 (.alt 5 2 .nil .nil)) .nil) .nil)))<|oS id 32 (.q 0 0 (qr 3 (.alt 4 1 (.alt 5 1 (.q 6 3 (.alt 7 2 .nil .nil)) .nil) .nil) [1,2,3]))<|.nil
def fY(id:Nat):Tr:=oS id 4 (.q 0 0 (.q 1 3 (.q 2 0 (.q 3 3 (.q 4 0 (qr 3 (.alt 7 2 .nil .nil) [5,6]))))))<|oS id 6 (.q 0 0 (.q 1 3 (.q 2 0 (.q 3 3 (.q 4 0 (qr 3 (.alt 7 2 .nil .nil) [5,6]))))))<|.nil
def jtV(id:Nat):Tr:=oS id 1 (.q 0 0 (.q 1 3 (.q 2 0 (.q 3 3 (.q 4 0 (qr 3 (.alt 7 2 .nil .nil) [5,6]))))))<|.nil
def jtW(id:Nat):Tr:=oS id 5 (.q 0 3 (.q 1 0 (qr 3 (.q 5 0 (qr 3 (.alt 10 2 (.alt 11 2 (.q 12 3 .nil) .nil) .nil) [6,7,8,9])) [2,3,4])))<|.nil
def jtX(id:Nat):Tr:=oS id 0 (qr 3 (.q 3 0 (qr 3 (.q 8 0 (qr 3 .nil [9,10])) [4,5,6,7])) [0,1,2])<|.nil
def jtY(id:Nat):Tr:=oS id 1 (qr 3 (.q 3 0 (qr 3 (.q 7 0 (.q 8 3 (.q 9 0 (.alt 10 1 (.alt 11 2 .nil .nil) .nil)))) [4,5,6])) [0,1,2])<|.nil
def jnl(id:Nat):Tr:=oS id 18 (.q 0 0 (qr 3 (.alt 4 1 (.alt 5 1 (.q 6 3 .nil) .nil) .nil) [1,2,3]))<|oS id 33 (.q 0 3 (qr 0 (qr 3 (.alt 5 1 (.alt 6 1 (.q 7 3 (.alt 8 2 .nil .nil)) .nil) .nil) [3,4]) [1,2]))<|oS id 41 (.q 0 0 (qr 3 (.alt 3 1 (.alt 4 1 (.q 5 3 (.alt 6 2 .nil .nil)) .nil) .nil) [1,2]))<|.nil
def jng(id:Nat):Tr:=oS id 6 (.q 0 3 (.q 1 0 (.q 2 3 (.q 3 0 (.alt 4 1 (.alt 5 1 (.alt 6 2 .nil .nil) .nil) .nil)))))<|.nil
def jnh(id:Nat):Tr:=oS id 7 (qr 3 (.q 2 0 (.q 3 3 (.q 4 0 (.alt 5 1 (.alt 6 1 (.alt 7 2 .nil .nil) .nil) .nil)))) [0,1])<|.nil
def nN(id:Nat):Tr:=oS id 20 (.q 0 3 (.q 1 0 (qr 3 (.alt 5 1 (.alt 6 1 (.q 7 3 (.alt 8 2 .nil .nil)) .nil) .nil) [2,3,4])))<|.nil
def i7(id:Nat):Tr:=oS id 11 (.q 0 3 (.q 1 0 (qr 3 (.alt 5 1 (.alt 6 1 (.q 7 3 (.alt 8 2 .nil .nil)) .nil) .nil) [2,3,4])))<|oS id 14 (.q 0 3 (.q 1 0 (qr 3 (.alt 5 1 (.alt 6 1 (.q 7 3 (.alt 8 2 .nil .nil)) .nil) .nil) [2,3,4])))<|.nil
def jsc(id:Nat):Tr:=oS id 0 (.q 0 0 (.q 1 3 (.q 2 0 (.q 3 3 (.q 4 0 (.alt 5 2 .nil .nil))))))<|.nil
def jsd(id:Nat):Tr:=oS id 0 (.q 0 0 (.q 1 3 (.q 2 0 (.q 3 3 (.q 4 0 (.alt 5 2 .nil .nil))))))<|.nil
def jse(id:Nat):Tr:=oS id 0 (.q 0 0 (.q 1 3 (.q 2 0 (.q 3 3 (.q 4 0 (.alt 5 2 .nil .nil))))))<|.nil
def jsf(id:Nat):Tr:=oS id 0 (qr 3 (.q 3 0 (qr 3 (.q 8 0 (qr 3 (.alt 12 2 .nil .nil) [9,10,11])) [4,5,6,7])) [0,1,2])<|.nil
def jni(id:Nat):Tr:=oS id 2 (.q 0 0 (qr 3 (.q 3 0 (.q 4 3 (.alt 5 2 (.q 6 3 .nil) .nil))) [1,2]))<|.nil
def jnj(id:Nat):Tr:=oS id 4 (.q 0 3 (.q 1 0 (qr 3 (.alt 4 1 (.alt 5 1 (.alt 6 1 (.q 7 3 (.alt 8 2 .nil .nil)) .nil) .nil) .nil) [2,3])))<|.nil
def jsg(id:Nat):Tr:=oS id 1 (qr 3 (.q 3 0 (qr 3 (.q 7 0 (.q 8 3 (.q 9 0 (.alt 10 1 (.alt 11 2 .nil .nil) .nil)))) [4,5,6])) [0,1,2])<|oS id 15 (.q 1 3 (.q 2 0 (.alt 0 1 (.alt 3 2 .nil .nil) .nil)))<|.nil
def jnk(id:Nat):Tr:=oS id 15 (.q 0 0 (qr 3 (.alt 2 1 (.q 3 3 (.alt 5 1 (.q 6 3 (.alt 7 2 .nil .nil)) .nil)) .nil) [1,4]))<|oS id 19 (.q 0 0 (qr 3 (.alt 2 1 (.q 3 3 (.alt 5 1 (.q 6 3 (.alt 7 2 .nil .nil)) .nil)) .nil) [1,4]))<|oS id 25 (.q 0 0 (qr 3 (.alt 3 1 (.q 4 3 (.alt 5 2 .nil .nil)) .nil) [1,2]))<|oS id 27 (.q 0 0 (qr 3 (.alt 3 1 (.q 4 3 (.alt 5 2 .nil .nil)) .nil) [1,2]))<|.nil
def jsh(id:Nat):Tr:=oS id 1 (.q 0 0 (qr 3 (.q 3 0 (.alt 4 2 (qr 3 .nil [5,6]) .nil)) [1,2]))<|.nil
def jiC(id:Nat):Tr:=oS id 5 (.q 0 3 (.q 1 0 (qr 3 (.alt 4 1 (.alt 5 1 (.q 6 3 (.alt 7 1 (.alt 8 2 .nil .nil) .nil)) (.alt 7 1 (.alt 5 1 (.q 6 3 (.alt 8 2 .nil .nil)) .nil) .nil)) (.alt 7 1 (.alt 4 1 (.alt 5 1 (.q 6 3 (.alt 8 2 .nil .nil)) .nil) .nil) .nil)) [2,3])))<|oS id 8 (.q 1 3 (.q 2 0 (.alt 0 1 (.alt 3 1 (.q 4 3 .nil) .nil) .nil)))<|.nil
def jsi(id:Nat):Tr:=oS id 4 (.q 0 3 (.q 1 0 (qr 3 (.alt 4 1 (.alt 5 1 (.q 6 3 (.alt 7 2 .nil .nil)) .nil) .nil) [2,3])))<|.nil
def jsj(id:Nat):Tr:=oS id 1 (.q 0 0 (.q 1 3 (.alt 2 1 (.q 3 3 (.alt 4 1 (.alt 5 2 .nil .nil) .nil)) (.alt 4 1 (.alt 2 1 (.q 3 3 (.alt 5 2 .nil .nil)) .nil) .nil))))<|.nil
def jsk(id:Nat):Tr:=oS id 7 (.q 0 3 (.q 1 0 (qr 3 (.alt 4 1 (.alt 5 1 (.alt 6 1 (.q 7 3 (.alt 8 2 .nil .nil)) .nil) .nil) .nil) [2,3])))<|.nil
def jsl(id:Nat):Tr:=oS id 3 (.q 0 0 (qr 3 (.alt 3 1 (.alt 4 1 (.q 5 3 (.alt 6 1 (.alt 7 2 .nil .nil) .nil)) (.alt 6 1 (.alt 4 1 (.q 5 3 (.alt 7 2 .nil .nil)) .nil) .nil)) (.alt 6 1 (.alt 3 1 (.alt 4 1 (.q 5 3 (.alt 7 2 .nil .nil)) .nil) .nil) .nil)) [1,2]))<|.nil
def jsm(id:Nat):Tr:=oS id 7 (.q 0 3 (.q 1 0 (qr 3 (.alt 4 1 (.alt 5 1 (.q 6 3 (.alt 7 2 .nil .nil)) .nil) .nil) [2,3])))<|.nil
def jK(_:Nat):Tr:=.nil
def jT(_:Nat):List Nat:=[]
theorem qE(ord:Nat->Tr)(xs:Nat->List Nat)(np:Nat):(⟨Tryz.prog,tab,ord,xs,np,fun _ _=>False⟩:Cx).ok:=⟨jc6,joi,mixed⟩
theorem jml(ord:Nat->Tr)(xs:Nat->List Nat)(np:Nat):(⟨Tryz.prog,tab,ord,xs,np,fun _ _=>False⟩:Cx).okN:=⟨⟨jc6,joi,mixed⟩,fun _ _ h=>h⟩
theorem wH(ord:Nat->Tr)(xs:Nat->List Nat)(np:Nat)(pan:List PanicEntry->S->Prop):(⟨Tryz.prog,tab,ord,xs,np,pan⟩:Cx).ok:=⟨jc6,joi,mixed⟩
set_option maxRecDepth 100000 in
theorem eN{f:Nat}{fn:Func}{x:Code}{ins:List (List A)}{args:List A}{post:List (List A)->A->Prop}(o:Nat->Tr)(xs:Nat->List Nat)(np:Nat)(hf:Tryz.prog.funcs[f]?=some fn)(hb:fn.body=some x)(h:nK args->yT args (fn.ntmps-args.length) fun t=>sQ ⟨Tryz.prog,tab,o,xs,np,fun _ _=>False⟩ x ⟨t,ins,[]⟩ (ji3 ⟨Tryz.prog,tab,o,xs,np,fun _ _=>False⟩ fn.results.toList post))(h1:(fn.name == "runtime.NumGoroutine")=false:=by kernel_rfl) (h2:ins.length=np:=by rfl) (h3:kI o x=true:=by kernel_rfl):Spec Tryz.prog f ins args post:=jpT (qE o xs np) (fun _ _ h=>h) hf hb h1 h2 h3 h
set_option maxRecDepth 100000 in
theorem eNF{f:Nat}{fn:Func}{x:Code}{args:List A}{post:Nat->Nat->Nat->List A->A->Prop}(o:Nat->Tr)(xs:Nat->List Nat)(hf:Tryz.prog.funcs[f]?=some fn)(hb:fn.body=some x)(h:nK args->yT args (fn.ntmps-args.length) fun t=>sQ ⟨Tryz.prog,tab,o,xs,0,fun _ _=>False⟩ x ⟨t,[],[]⟩ (jrE ⟨Tryz.prog,tab,o,xs,0,fun _ _=>False⟩ fn.results.toList post))(h1:(fn.name == "runtime.NumGoroutine")=false:=by kernel_rfl) (h3:kI o x=true:=by kernel_rfl):bY Tryz.prog f args post:=jo3 (qE o xs 0) (fun _ _ h=>h) hf hb h1 rfl h3 h
set_option maxRecDepth 100000 in
theorem eNP{f:Nat}{fn:Func}{x:Code}{ins:List (List A)}{args:List A}{post:List (List A)->A->Prop}{pn:List PanicEntry->Prop}(o:Nat->Tr)(xs:Nat->List Nat)(hf:Tryz.prog.funcs[f]?=some fn)(hb:fn.body=some x)(h:nK args->yT args (fn.ntmps-args.length) fun t=>sQ ⟨Tryz.prog,tab,o,xs,1,fun ch _=>pn ch⟩ x ⟨t,ins,[]⟩ (ji3 ⟨Tryz.prog,tab,o,xs,1,fun ch _=>pn ch⟩ fn.results.toList post))(h1:(fn.name == "runtime.NumGoroutine")=false:=by kernel_rfl) (h2:ins.length=1:=by rfl) (h3:kI o x=true:=by kernel_rfl):SpecP Tryz.prog f ins args post pn:=vY (wH o xs 1 fun ch _=>pn ch) (fun _ _ h=>h) hf hb h1 h2 h3 h
end Go.Proofs.YtfbifdccmabdbaaGreatDoor.Vm
namespace Go.Proofs.YtfbifdccmabdbaaGreatDoor.Vm
open Go.RowKit
def jJ(x:ByteArray):A:=.v (.string x)
def intA(n:Int):A:=.v (.int .i64 n)
def qA(b:Bool):A:=.v (.bool b)
def wO(l:List ByteArray):List A:=l.map jJ
def jX(l:List Int):List A:=l.map intA
theorem fL(l:List ByteArray)(i:Nat)(hi:i<l.length):jC 1 i (wO l)=[.v (.string l[i])]:=wN _ l i hi
theorem bH(l:List Int)(i:Nat)(hi:i<l.length):jC 1 i (jX l)=[.v (.int .i64 l[i])]:=wN _ l i hi
theorem lG(b:ByteArray)(i:Nat)(hi:i<b.data.toList.length):jC 1 i (wF b)=[.v (.int .u8 (b.data.toList[i].toNat:Int))]:=wN _ b.data.toList i hi
theorem jmU{n:Nat}(h:n<=1000000000):n<=maxLen:=by unfold maxLen;omega
theorem eQ{f:Nat}{fn:Func}{x:Code}(hf:Tryz.prog.funcs[f]?=some fn)(hb:fn.body=some x)(hname:(fn.name == "runtime.NumGoroutine")=false):∀vs w,(callFunc f vs).run Tryz.prog w=.ok (.enter f vs) w:=fun vs w=>aS hf hb hname vs w
theorem lO{P:Program}{f:Nat}{args:List A}{r:A}(hcall:∀vs w,(callFunc f vs).run P w=.ok (.enter f vs) w)
  (h:∀w C vals,Gok C w->Sub C (kR w)->A.repL args ⟨C,[],[]⟩ vals->Calls P f vals.toArray w fun e w'=>∃v,e=.returned v/\Ext w w'/\r.rep ⟨qY C w w',[],[]⟩ v):Spec P f [] args fun _ x=>x=r:=by
 refine⟨hcall,fun w C β vals h0 h1 h2 h3 h4 h5 h6=>?_⟩;have hβ:β=[]:=xtw15 (by simpa using h4.symm);subst hβ;refine(h w C vals h0 h1 h6).mono ?_;rintro e w' ⟨v,rfl,x,hr⟩;exact⟨[],r,v,rfl,rfl,Keeps.of_ext x,rfl,fun i b cs hb=>by simp at hb,hr⟩
theorem fP{α:Type}:∀{l:List α} {i:Nat} {a:α} {K:List α->Prop},i<l.length->K (l.set i a)->cM l i a K
 |[],i,a,K,h,_=>by simp at h
 |x::l,0,a,K,h,k=>by simpa [cM] using k
 |x::l,i+1,a,K,h,k=>by
  unfold cM;exact fP (by simpa using h) (by simpa using k)
theorem jca:∀{n:Nat} {cs:List A} {K:List A->Prop},n<=cs.length->K (cs.take n)->jc9 n cs K
 |0,cs,K,_,k=>by unfold jc9;simpa using k
 |n+1,[],K,h,k=>by simp at h
 |n+1,c::cs,K,h,k=>by
  unfold jc9;exact jca (by simpa using h) (by simpa using k)
theorem pK{X:List Nat}{rw:List Row}:∀{l:List A},(∀a∈l,∃x,a=.v x)->q8 X rw l=some l
 |[],_=>by simp[q8]
 |a::r,h=>by
  obtain⟨x,rfl⟩:=h a (by simp);unfold q8;rw[pK (l:=r) fun b hb=>h b (by simp[hb])];simp[ren]
theorem jlm{X:List Nat}{rw:List Row}{l:List A}(h:∀a∈l,∃x,a=.v x):ren X rw (.agg l)=some (.agg l):=by
 unfold ren;rw[pK h]
theorem uC{X:List Nat}:∀{l:List A},(∀a∈l,∃x,a=.v x)->xC X l=l
 |[],_=>by simp[xC]
 |a::r,h=>by
  obtain⟨x,rfl⟩:=h a (by simp);unfold xC;rw[uC (l:=r) fun b hb=>h b (by simp[hb])];simp[back]
theorem dM{np:Nat}{t t':List A}{bx:List (List A)}{rw:List Row}(h:eqL t t'):Le np ⟨t,bx,rw⟩ ⟨t',bx,rw⟩:=by
 rintro dr w0 C0 β0 a w _ _ ⟨E,hp,hrep,hd⟩;exact⟨E,hp,ja0 (jaT h) hrep,hd⟩
def iQ{X:Type}(t0:List A)(g:X->List (Nat×A))(bx:X->List (List A))(rw:X->List Row)(x:X)(s:S):Prop :=
 vW (g x) t0 fun t=>eqL s.t t/\s.bx=bx x/\s.rw=rw x
theorem iW{X:Type}{np:Nat}{s:S}{t0:List A}{g:X->List (Nat×A)}{bx:X->List (List A)}{rw:X->List Row}{x:X}(h:iQ t0 g bx rw x s):Le np s (m9 t0 g bx rw x):=by
 unfold iQ at h;rw[wS] at h;obtain⟨h1,h2,h3⟩:=h;obtain⟨t,b,r⟩:=s
 simp only at h1 h2 h3
 subst h2;subst h3;exact dM h1
theorem rY{np:Nat}{f:S->(Exit->S->Prop)->Prop}{s:S}{t0:List A}{Q:Exit->S->Prop}{X:Type}(g:X->List (Nat×A))(bx:X->List (List A))(rw:X->List Row)(φ:X->Prop)(μ:X->Nat)(x0:X)
  (h0:iQ t0 g bx rw x0 s) (hφ:φ x0)
  (hr:∀x,φ x->vW (g x) t0 fun t=>f ⟨t,bx x,rw x⟩ fun e s'=>match e with
   |.normal=>∃x',Le np s' (m9 t0 g bx rw x')/\φ x'/\μ x'<μ x
   |e=>Q e s'):jcL np f s t0 Q:=by
 unfold jcL;unfold xY
 exact⟨X,m9 t0 g bx rw,φ,μ,⟨x0,iW h0,hφ⟩,fun x hx=>by
  have:=hr x hx;rw[wS] at this
  exact this⟩
theorem bR{cs:List A}{off:Nat}{d:A}{K:List A->Prop}(h:off<cs.length)(k:K (cs.set off d)):yL cs off [d] K:=by
 unfold yL;exact fP h (by unfold yL;exact k)
theorem pV:∀{ds cs:List A} {K:List A->Prop} (pre:List A),ds.length=cs.length->K (pre++ds)->yL (pre++cs) pre.length ds K
 |[],[],K,pre,_,k=>by unfold yL;simpa using k
 |d::ds,c::cs,K,pre,h,k=>by
  unfold yL;refine fP (by simp) ?_
  have e:(pre++c::cs).set pre.length d=(pre++[d])++cs:=by simp
  rw[e];have:=pV (K:=K) (pre++[d]) (ds:=ds) (cs:=cs) (by simpa using h) (by simpa using k);simpa using this
 |[],_::_,_,_,h,_=>by simp at h
 |_::_,[],_,_,h,_=>by simp at h
theorem walk_cell{f:Nat}{args:List A}{vals:List Value}{w:World}(h:Spec Tryz.prog f [] args fun _ r=>r=qA true)(hg:Gok w.cell? w)(ha:A.repL args ⟨w.cell?,[],[]⟩ vals) :
  Calls Tryz.prog f vals.toArray w fun e w'=>e=.returned (.bool true)/\Below w.heap.size w w' :=
 (h.2 w w.cell? [] vals hg (fun _ _ h=>jbU h) xtw92 (by simp) rfl (fun i b cs hb=>by simp at hb) ha).mono fun e w' ⟨outs,r,v,he,hr,hk,_,_,hv⟩=>by
  subst hr;rw[he,(A.rep_v_iff.1 hv).1];exact⟨rfl,hk.ext⟩
theorem tS{α:Type}{E:Env}{b:Nat}(f:α->Value)(hf:∀x,(f x).oneCell'=true):∀{l:List α} {off:Nat},A.repAt (l.map fun x=>.v (f x)) E b off↔∀i (hi:i<l.length),E.C ⟨b,off+i,none⟩=some (f l[i])/\fX (f l[i])
 |[],off=>by simp[A.repAt]
 |x::l,off=>by
  simp only[xtw22,A.repAt];rw[tS f hf (l:=l)];constructor
  ·rintro⟨⟨u,h1,-,h3⟩,h4⟩ i hi;rw[A.rep_v_iff] at h3
   cases i with
   |zero=>rw[xtw97,h1,h3.1];exact⟨rfl,h3.2⟩
   |succ i =>
    have:=h4 i (by simpa using hi);rw[show off+(i+1)=off+1+i by omega];exact this
  ·intro h;refine⟨⟨f x,by have:=(h 0 (by simp)).1;simpa using this,hf x,A.rep_v_iff.2 ⟨rfl,(h 0 (by simp)).2⟩⟩,fun i hi=>?_⟩;have:=h (i+1) (by simpa using hi);rw[show off+1+i=off+(i+1) by omega];exact this
theorem rep_vi{E:Env}{n:Int}{u:Value}:(A.v (.int .i64 n)).rep E u↔u=.int .i64 n/\(-9223372036854775808<=n/\n<=9223372036854775807):=by
 rw[A.rep_v_iff];constructor
 ·rintro⟨h1,h2⟩;exact⟨h1,okV_int.1 h2⟩
 ·rintro⟨h1,h2⟩;exact⟨h1,okV_int.2 h2⟩
theorem rep_vs{E:Env}{n:ByteArray}{u:Value}:(A.v (.string n)).rep E u↔u=.string n/\n.size<=maxLen:=by
 rw[A.rep_v_iff];exact Iff.rfl
theorem jdi{E:Env}{v:Value}{l:List Int}{p:Option Addr}{b off cap:Nat}(h1:l.length<=maxLen)(h2:∀n∈l,-9223372036854775808<=n/\n<=9223372036854775807)(hv:v=.slice p l.length cap)(hc:l.length<=cap)(hp:l=[]∨p=some ⟨b,off,none⟩)(hn:p=none->cap=0)
  (hh:∀i,i<l.length->E.C ⟨b,off+i,none⟩=some (.int .i64 (l.getD i 0))):(A.sl 1 l.length (jX l)).rep E v:=by
 subst hv;unfold A.rep;refine⟨by simp[jX],h1,p,b,off,cap,rfl,hc,?_,hn,?_⟩
 ·rcases hp with rfl|hp
  ·exact .inl rfl
  ·exact .inr hp
 ·refine(tS (E:=E.per) (Value.int .i64) (fun _=>rfl)).2 fun i hi=>⟨?_,okV_int.2 (h2 _ (xtw10 hi))⟩
  have:=hh i hi;simp[xtw9,hi] at this;exact this
theorem row_rep{w:World}{a:Option Addr}{len cap:Nat}{zs:List Int}(h:(a=none/\len=0/\cap=0/\zs=[])∨∃x,a=some x/\len<=cap/\cap<=maxLen/\zs.length=cap/\(∀i,i<zs.length->w.cell? (x.add i)=some (.int .i64 (zs.getD i 0)))/\∀n∈zs,(Lit.int .i64 n).wf=true) :
  (A.sl 1 (zs.take len).length (jX (zs.take len))).rep ⟨w.cell?,[],[]⟩ (.slice a len cap):=by
 rcases h with ⟨rfl,rfl,rfl,rfl⟩|⟨x,rfl,hl,hm,hz,hc,hw⟩
 ·exact jdi (p:=none) (b:=0) (off:=0) (cap:=0) (by simp) (by simp) rfl (by simp) (.inl rfl) (fun _=>rfl) (fun i hi=>absurd hi (by simp))
 ·have hlen:(zs.take len).length=len:=by simp;omega
  refine jdi (p:=some x) (b:=x.block) (off:=x.off) (cap:=cap) (by omega) (fun n hn=>?_) (by rw[hlen]) (by omega) ?_ (by simp) (fun i hi=>?_)
  ·have:=hw n (xtw90 hn);simp[Lit.wf] at this;exact this
  ·by_cases h0:len=0
   ·left;subst h0;simp
   ·right;have:=hc 0 (by omega);obtain⟨b,o,sp⟩:=x
    cases sp with
    |none=>rfl
    |some k=>simp[Addr.add,World.cell?] at this;split at this <;> simp at this
  ·have hi':i<len:=by omega
   have e:=hc i (by omega);have h0:=hc 0 (by omega);obtain⟨b,o,sp⟩:=x
   cases sp with
   |none=>rw[jej] at e;show w.cell? ⟨b,o+i,none⟩=_;rw[e];simp[xtw9,hi']
   |some k=>simp[Addr.add,World.cell?] at h0;split at h0 <;> simp at h0
theorem str_rep{E:Env}{s:ByteArray}(h:s.size<=maxLen):(A.v (.string s)).rep E (.string s):=rep_vs.2 ⟨rfl,h⟩
theorem int_rep{E:Env}{n:Int}(h:(Lit.int .i64 n).wf=true):(A.v (.int .i64 n)).rep E (.int .i64 n):=by
 refine rep_vi.2 ⟨rfl,?_⟩;simp[Lit.wf] at h;exact h
theorem args_nil{E:Env}:A.repL [] E []:=by unfold A.repL;rfl
theorem byte_rep{E:Env}{n:Int}(h:(Lit.int .u8 n).wf=true):(jaC (UInt8.ofNat n.toNat)).rep E (.int .u8 n):=by
 have h':0<=n/\n<=255:=by
  simp[Lit.wf] at h;exact h
 have e:((UInt8.ofNat n.toNat).toNat:Int)=n:=by rw[UInt8.toNat_ofNat'];omega
 unfold jaC;rw[e];exact A.rep_v (x:=.int .u8 n) (show(0:Int)<=n/\n<=255 from h')
theorem jr7{C:Rd}{g:Nat}(h:∃u v,C ⟨g,0,none⟩=some (.iface u v)):A.repAt [.err] ⟨C,[],[]⟩ g 0:=by
 obtain⟨u,v,h⟩:=h;unfold A.repAt;refine⟨⟨_,h,rfl,?_⟩,by simp[A.repAt]⟩;unfold A.rep;exact⟨u,v,rfl⟩
theorem iU{P:Program}{w:World}{n:String}{d:DataW Unit}{g ti:Nat}(hg:P.globalNamed n=some g)(ht:(P.globals[g]?).map (·.type)=some ti) :
  ∀{l:List (String×DataW Unit)} {ps:List MemPlace},DataW.LaidVars P w l ps->(n,d)∈l->∃cs base sp fuel p,w.var? P n=some cs/\DataW.trod (fun _=>()) P w base sp false fuel ti cs.toList=some (d,p)
 |[],_,_,hm=>by simp at hm
 |(n',d')::r,ps,h,hm=>by
  obtain⟨g',t',cs,fuel,p,q,e1,e2,e3,e4,e5,_⟩:=h;rcases xtw13.1 hm with e|hm
  ·cases e;obtain rfl:=xtw43 (hg.symm.trans e1);obtain rfl:=xtw43 (ht.symm.trans e2);exact⟨cs,_,_,fuel,p,e3,e4⟩
  ·exact iU hg ht e5 hm
theorem uJ{P:Program}{w:World}{n:String}{g:Nat}{cs:Array Value}(hg:P.globalNamed n=some g)(h:w.var? P n=some cs):∃T sp,w.heap[g]?=some (.cells cs T sp):=by
 simp only[World.var?,hg,Option.bind_some] at h;split at h
 ·rename_i cs' T sp hh;cases h;exact⟨T,sp,hh⟩
 ·cases h
theorem gok_iface{P:Program}{w:World}{n nm:String}{d:DataW Unit}{g ti:Nat}{ms:Array (String×TypeId)}(hg:P.globalNamed n=some g)(ht:(P.globals[g]?).map (·.type)=some ti)(hi:P.underlying ti=some (.interface ms))
  {l:List (String×DataW Unit)} {ps:List MemPlace} (h:DataW.LaidVars P w l ps) (hm:(n,DataW.iface nm d)∈l):(([A.err]:List A)≠[]/\A.repAt [.err] ⟨w.cell?,[],[]⟩ g 0)/\∃cs T sp,w.heap[g]?=some (.cells cs T sp)/\cs.size=1:=by
 obtain⟨cs,base,sp,fuel,p,e1,e2⟩:=iU hg ht h hm;obtain⟨f',u,v,ecs,_⟩:=iface_of_trod hi e2;obtain⟨T,sp2,hh⟩:=uJ hg e1
 have hc:w.cell? ⟨g,0,none⟩=some (.iface u v):=by
  have:=World.var?_cell hg e1 0;rw[this,<- xtw103,ecs];rfl
 refine⟨⟨by simp,jr7 ⟨u,v,hc⟩⟩,cs,T,sp2,hh,?_⟩;have:=congrArg List.length ecs;simpa using this
theorem gok_tab{P:Program}{w:World}{n:String}{k:IntKind}{zs:List Int}{g ti e m:Nat}(hg:P.globalNamed n=some g)(ht:(P.globals[g]?).map (·.type)=some ti)(hu:P.underlying ti=some (.array m e))(he:P.underlying e=some (.int k))(hce:P.cellsOf e=1)(hct:P.cellsOf ti=m)(hne:zs≠[])(hzs:∀z∈zs,fX (.int k z))
  {l:List (String×DataW Unit)} {ps:List MemPlace} (h:DataW.LaidVars P w l ps) (hm:(n,Lib.tabData k zs)∈l):(((zs.map fun z=>A.v (.int k z))≠[])/\A.repAt (zs.map fun z=>A.v (.int k z)) ⟨w.cell?,[],[]⟩ g 0)/\∃cs T sp,w.heap[g]?=some (.cells cs T sp)/\cs.size=(zs.map fun z=>A.v (.int k z)).length:=by
 obtain⟨cs,base,sp,fuel,p,e1,e2⟩:=iU hg ht h hm;have ecs:=Lib.cells_of_tab hu he hce hct e2;obtain⟨T,sp2,hh⟩:=uJ hg e1;refine⟨⟨by simpa using hne,?_⟩,cs,T,sp2,hh,?_⟩
 ·refine(tS (fun z=>Value.int k z) (fun _=>rfl)).2 fun i hi=>⟨?_,hzs _ (xtw10 hi)⟩
  have:=World.var?_cell hg e1 (0+i);show w.cell? _=_;rw[this,<- xtw103,ecs];simp[hi]
 ·have:=congrArg List.length ecs;simpa using this
section
theorem gok_num{P:Program}{w:World}{g t:Nat}(h:w.ShapedOpen P)(hg:g<P.globals.size)
  (h0:((begin P (fun _ _=>0) default).world.heap[g]?).bind Obj.row?=some (#[.int .i64 0],t))
  (hb:P.buildable t=true) (hc:P.cellTypes P.depth t=some [t]) (hu:P.underlying t=some (.int .i64)) :
  (([A.num]:List A)≠[]/\A.repAt [.num] ⟨w.cell?,[],[]⟩ g 0)/\∃cs T sp,w.heap[g]?=some (.cells cs T sp)/\cs.size=1:=by
 obtain⟨m,hm⟩:=cell_of_shapedOpen_int h hg h0 rfl hb hc hu;obtain⟨cs,hh,hs,_⟩:=h.1 g _ _ hg h0;refine⟨⟨by simp,?_⟩,cs,t,_,hh,hs⟩
 ·unfold A.repAt A.repAt;exact⟨⟨_,hm,rfl,by unfold A.rep;exact⟨m,rfl⟩⟩,trivial⟩
section
variable{H:Type}{enc:TypeId×Value->H}
theorem frame_shaped{a:Assume}{C:Checked}{os:Os}{f:FuncId}{fn:Func}{s:ChangeSpec}{conds:List PathCond}{apart fresh handsOn again:Bool}{X:World->Array Value->Prop}
  (hX:∀(w w':World) (args:Array Value),w.heap=w'.heap->X w args->X w' args)
  (own:ownKnob C.prog.godebug=none) (started:os.Started) (noInit:C.prog.inits.idxOf? f=none) (hfn:C.prog.funcs[f]?=some fn)
  (witness:∃(w:World) (tape:Tape) (i:Input),w.os=os/\(w.forCall tape i).Shaped C.prog/\i.vars=[]/\Input.okWide C.prog (w.forCall tape i) .any w.heap.size f i ∧
   ((s.pre enc C.prog fn conds apart (w.forCall tape i).memory i.args/\X (w.forCall tape i).memory i.args)/\sizedMet enc C.prog fn (OpenSpec.ofChange s) apart (w.forCall tape i).memory i.args)/\a.holds C.prog (lone (Frame.enter C.prog f i.args .normal) [] (w.forCall tape i)))
  (contract:∀(W:World) (base:Nat) (args:Array Value) (ds gs:List (DataW H)) (before:List MemPlace),
   (∀(j:Nat) t v,fn.params[j]?=some t->args[j]?=some v->Value.okWide C.prog W .any base t v) →
   DataW.Whole enc C.prog fn.params.toList s.vars apart W args.toList ds gs before->X W args->W.ShapedOpen C.prog →
   Calls C.prog f args W fun e W'=>∃v,e=.returned v/\s.post enc C.prog fn apart fresh handsOn again W args v W') :
  ReturnsInHanded a C os f .any (fun w args=>(s.pre enc C.prog fn conds apart w args/\X w args)/\sizedMet enc C.prog fn (OpenSpec.ofChange s) apart w args) (s.post enc C.prog fn apart fresh handsOn again):=by
 refine returnsInHanded_of_calls own started noInit witness ?_;intro w tape i _ hsh _ hok hpre _;obtain⟨_,_,_,fn',hfn',_,_,_,_,hval⟩:=hok;obtain rfl:fn'=fn:=xtw43 (hfn'.symm.trans hfn);obtain⟨⟨⟨ds,gs,before,hw,_⟩,hx⟩,_⟩:=hpre;have hw2:=DataW.Whole.of_heap (w':=w.forCall tape i) (by rfl) hw
 refine(contract (w.forCall tape i) w.heap.size i.args ds gs before hval hw2 (hX _ _ _ (by rfl) hx) hsh).mono fun e W' hr=>?_
 obtain⟨v,he,hp⟩:=hr;subst he;exact ChangeSpec.post_blind hp
end
end
section
def jgZ(c:Cx)(e k g:Nat)(rv:List ResultVar)(post:List (List A)->Nat->List A->A->Prop)(s:S):Prop :=
 jlp c.T s rv fun r=>match (jB s.rw (jcA g (aX r++uL (cE c.np s.bx))))[g]? with
  |some (.live e' k' n cs)=>match Nat.beq e' e,Nat.beq k' k with
   |true,true=>match bG (upto c.np) g (jB s.rw (jcA g (aX r++uL (cE c.np s.bx)))) (cE c.np s.bx) with
    |some outs=>match renG (upto c.np) g (jB s.rw (jcA g (aX r++uL (cE c.np s.bx)))) r with
     |some r'=>post outs n cs r'
     |none=>False
    |none=>False
   |_,_=>False
  |_=>False
def jp0(c:Cx)(e k:Nat)(rv:List ResultVar)(post:List (List A)->Nat->List A->A->Prop)(x:Exit)(s:S):Prop :=
 match x with
 |.ret=>∃g,jgZ c e k g rv post s
 |.normal=>∃g,jgZ c e k g rv post s
 |_=>False
section
variable{c:Cx}{s:S}
theorem jeG{fn:Func}{post:List (List A)->Nat->List A->A->Prop}{w w':World}{C:Rd}{β:List Nat}{s':S}{a':Act}{e k g:Nat}{y:Value}(hc:c.ok)(hnp:β.length=c.np)(hr:jgZ c e k g fn.results.toList post s')(hi:Inv [] ⟨w,(blk y).toList⟩ C β s' a' w') :
  a'.defers=[]/\∃v,(results fn a'.tmps).run c.P w'=.ok v w'/\∃(outs:List (List A)) (n':Nat) (cs':List A) (r:A) (v' y':Value) (xs':List Value) (C':Rd),Ending.returned v=.returned v'/\post outs n' cs' r/\Keeps (β++(blk y).toList) w w'/\Sub C C'/\Sub C' (kR w')/\(∀ad u,C' ad=some u->C ad=some u∨w.heap.size<=ad.block∨blk y=some ad.block)/\outs.length=β.length ∧
   (∀(i b:Nat) (cs:List A),β[i]?=some b->outs[i]?=some cs->boxAt w' ⟨C',β,[y']⟩ b cs)/\owR w' e k y' n' xs'/\A.repC cs' ⟨C',[],[]⟩ xs'/\(∀b,blk y'=some b->(∀o sp,C' ⟨b,o,sp⟩=none)/\(w.heap.size<=b∨blk y=some b))/\r.rep ⟨C',β,[y']⟩ v':=by
 obtain⟨E,hp,ht,hd⟩:=hi;unfold jgZ at hr;obtain⟨r,v,g1,g2,g3⟩:=jag (fn:=fn) hc hp ht hr;refine⟨hd,v,g3,?_⟩
 have hmem:∀b,b∈(blk y).toList->blk y=some b:=fun b hb=>by
  cases h:blk y with
  |none=>rw[h] at hb;simp at hb
  |some x=>rw[h] at hb;simp at hb;rw[hb]
 have hfr:∀b,W0.fr ⟨w,(blk y).toList⟩ b->w.heap.size<=b∨blk y=some b:=fun b hb=>hb.imp id (hmem b)
 obtain⟨C1,hp1,le1⟩:=hp.pubs (jcA g (aX r++uL (cE c.np s'.bx)));split at g1
 ·rename_i e' k' n cs hg;split at g1
  ·rename_i hb1 hb2;obtain rfl:=xtw24 hb1;obtain rfl:=xtw24 hb2;split at g1
   ·rename_i outs houts;split at g1
    ·rename_i r' hr';have hgl:=(xtw5.1 hg).1
     obtain⟨y',hy'⟩:∃y',E.ρ[g]?=some y':=⟨_,xtw21 (by rw[<- hp1.rl];exact hgl)⟩
     obtain⟨xs,⟨k1,kf⟩,k2⟩:=hp1.rws g _ y' hg hy';obtain⟨β',hβ,hβ'⟩:=hp.bp
     have hβl:β.length<=E.β.length:=by rw[hβ];simp
     have hget:∀i:Nat,i<β.length->E.β[i]?=β[i]?:=fun i hi=>by rw[hβ,xtw18 hi]
     have hY:yR ⟨C1,E.β,E.ρ⟩ (upto c.np) β:=fun j i hj=>by
      obtain⟨rfl,hi⟩:=jci hj
      have:i<β.length:=by rw[hnp];exact hi
      exact⟨β[i],by simp[this],by rw[hget i this];simp[this]⟩
     obtain⟨q1,q2⟩:=pJ houts;have hbl:=hp.bl;refine⟨outs,n,cs,r',v,y',xs,C1,rfl,g1,hp1.keep,hp1.base,hp1.sub,fun ad u hc=>(hp1.fresh ad u hc).imp id fun h=>hfr _ h,by rw[q1,lQ,xtw38];omega,fun i b cs h7 h8=>?_,k1,k2,fun b hb=>⟨(hp1.rC g _ _ _ _ y' b hg hy' hb).2,hfr b (kf b hb)⟩,jgU (E:=⟨C1,E.β,E.ρ⟩) hp1 hY hy' r hr' (A.rep.mono _ le1 g2)⟩;obtain⟨c0,h9,h10⟩:=q2 i cs h8;have hi:=(xtw5.1 h7).1;rw[lQ,xtw83,xtw3 (by omega)] at h9;obtain⟨T',arr,p1,p2⟩:=hp1.bxs i b c0 (by rw[<- h7];exact hget i hi) h9;exact⟨T',arr,p1,p2.renG hp1 hY hy' h10⟩
    ·exact g1.elim
   ·exact g1.elim
  ·exact g1.elim
 ·exact g1.elim
theorem o8{nt:Nat}{ins:List (List A)}{args:List A}{w:World}{C:Rd}{β:List Nat}{vals:List Value}{y:Value}{xs:List Value}{e k n:Nat}{cs:List A}(h0:Gok C w)(h1:Sub C (kR w))(h2:β.Nodup)(h3:∀b∈β,∀o sp,C ⟨b,o,sp⟩=none)(h4:ins.length=β.length)
  (h5:∀(i b:Nat) (cs:List A),β[i]?=some b->ins[i]?=some cs->boxAt w ⟨C,β,[y]⟩ b cs) (h6:owR w e k y n xs) (h7:A.repC cs ⟨C,[],[]⟩ xs) (h8:∀b,blk y=some b->b∉β/\∀o sp,C ⟨b,o,sp⟩=none) (h9:A.repL args ⟨C,β,[y]⟩ vals) :
  Inv [] ⟨w,(blk y).toList⟩ C β ⟨args++List.replicate (nt-args.length) .dead,ins,[.live e k n cs]⟩ { tmps:=vals.toArray++Array.replicate (nt-vals.toArray.size) undef,defers:=[] } w:=by
 have hl:=A.repL_len h9
 have one:∀{g:Nat} {r:Row},[Row.live e k n cs][g]?=some r->g=0/\r=.live e k n cs:=fun {g r} hg=>by
  cases g with
  |zero=>simp at hg;exact⟨rfl,hg.symm⟩
  |succ g=>simp at hg
 refine⟨⟨C,β,[y]⟩,⟨h1,Sub.refl _,fun _ _ hc=>.inl hc,⟨[],by simp,by simp⟩,h2,h3,h4,h5,rfl,fun g r z hg hz=>?_,fun g e' k' n' cs' z b hg hz hb=>?_,fun g e' k' n' cs' z g' e2 k2 n2 cs2 z2 b hne hg _ hg'=>?_,fun g z hz=>?_,Keeps.refl _ _,h0,fun b hb=>?_⟩,?_,rfl⟩
 ·obtain⟨rfl,rfl⟩:=one hg;obtain⟨-,rfl⟩:=sC hz;exact⟨xs,⟨h6,fun b hb=>.inr (by simp[hb])⟩,h7⟩
 ·obtain⟨rfl,hr⟩:=one hg;obtain⟨-,rfl⟩:=sC hz;exact h8 b hb
 ·exact absurd ((one hg).1.trans (one hg').1.symm) hne
 ·obtain⟨-,rfl⟩:=sC hz;exact h6.kind
 ·cases h:blk y with
  |none=>rw[h] at hb;simp at hb
  |some x=>rw[h] at hb;simp at hb;rw[hb];exact(h8 x h).2
 ·have:(vals.toArray++Array.replicate (nt-vals.toArray.size) undef).toList=vals++List.replicate (nt-args.length) undef:=by simp[hl]
  rw[this];exact A.repL_append h9 (gN _ _)
theorem jhj{f:Nat}{fn:Func}{x:Code}{ins:List (List A)}{e k n:Nat}{cs args:List A}{post:List (List A)->Nat->List A->A->Prop}{pn:List PanicEntry->Prop}(hc:c.ok)(hq:∀ch s,c.pan ch s->pn ch)(hf:c.P.funcs[f]?=some fn)(hb:fn.body=some x)(hname:(fn.name == "runtime.NumGoroutine")=false)
  (hn:ins.length=c.np) (h:nK args->yT args (fn.ntmps-args.length) fun t=>Ok c x ⟨t,ins,[.live e k n cs]⟩ (jp0 c e k fn.results.toList post)):iD c.P f ins e k n cs args post pn:=by
 refine⟨aS hf hb hname,fun w C β vals y xs h0 h1 h2 h3 h4 h5 h6 h7 h8 h9=>?_⟩;refine calls_of_wp hf hb ?_;have hinit:=initK_iff.1 (h (wD _ h9));have hinv:=o8 (nt:=fn.ntmps) h0 h1 h2 h3 h4 h5 h6 h7 h8 h9;unfold Ok OkD at hinit;refine hinit ⟨w,(blk y).toList⟩ C β _ w _ (by rw[<- h4,hn]) hinv (fun ch s' a' w' hpan ⟨E,hp,ht,hd⟩=>⟨hd,.inr ⟨ch,(List.range β.length).map fun i=>(s'.bx.getD i []).length,rfl,hq ch s' hpan,hp.keep,by simp,fun i b n h7 h8=>?_⟩⟩) ?_
 ·obtain⟨β',hβ,hβ'⟩:=hp.bp;have hi:=(xtw5.1 h7).1;have hbl:=hp.bl
  have hβl:β.length<=E.β.length:=by rw[hβ];simp
  have hib:i<s'.bx.length:=by omega
  rw[xtw48,xtw93 hi] at h8;simp only[xtw85,xtw76] at h8;subst h8
  have e1:E.β[i]?=some b:=by rw[hβ,xtw18 hi];exact h7
  obtain⟨T',arr,q1,q2⟩:=hp.bxs i b _ e1 (xtw21 hib)
  have e2:(s'.bx.getD i []).length=s'.bx[i].length:=by simp[xtw9,hib]
  refine⟨T',arr,q1,?_⟩;rw[e2];have hl2:=q2.len;have q2:=q2.1;refine .mk' (A.repC_mk ?_ (A.repC_one q2));have:=iK (E:=⟨C,β,[]⟩) (l:=s'.bx[i]) hl2;rw[List.map_const'] at this;exact this
 have fin:∀(s':S) (a':Act) (w':World),(∃g,jgZ c e k g fn.results.toList post s')->Inv [] ⟨w,(blk y).toList⟩ C β s' a' w'->_:=fun s' a' w' ⟨g,hr⟩ hi=>jeG (w:=w) (C:=C) (β:=β) (s':=s') (a':=a') (w':=w') (fn:=fn) (post:=post) (y:=y) hc (by rw[<- h4,hn]) hr hi
 intro e1 s' a' w' hq hi
 cases e1 with
 |normal=>obtain⟨k1,v,k2,k3⟩:=fin s' a' w' hq hi;exact⟨k1,v,k2,.inl k3⟩
 |ret=>obtain⟨k1,v,k2,k3⟩:=fin s' a' w' hq hi;exact⟨k1,v,k2,.inl k3⟩
 |_=>exact hq.elim
theorem sJ{f:Nat}{fn:Func}{x:Code}{ins:List (List A)}{e k n:Nat}{cs args:List A}{post:List (List A)->Nat->List A->A->Prop}{pn:List PanicEntry->Prop}(hc:c.ok)(hq:∀ch s,c.pan ch s->pn ch)(hf:c.P.funcs[f]?=some fn)(hb:fn.body=some x)(hname:(fn.name == "runtime.NumGoroutine")=false)
  (hn:ins.length=c.np) (hord:kI c.ord x=true) (h:nK args->yT args (fn.ntmps-args.length) fun t=>sQ c x ⟨t,ins,[.live e k n cs]⟩ (jp0 c e k fn.results.toList post)):iD c.P f ins e k n cs args post pn :=
 jhj hc hq hf hb hname hn fun ho=>initK_iff.2 (kK hc hord (initK_iff.1 (h ho)))
end
section
variable{P:Program}{pan:List PanicEntry->S->Prop}{Xr:Nat->Bool}{f:Nat}{args args':List A}{s:S}{K:A->S->Prop}{post:List (List A)->Nat->List A->A->Prop}{ins:List (List A)}
theorem qK(i g m:Nat)(ids:List Nat)(hm:s.rw.length=m){e k n:Nat}{cs c0 c1:List A}{pn:List PanicEntry->Prop}(hf:Xr 1000000007=true)(hX:Xr i=true)(hi:s.bx[i]?=some c0)(hg:(jB s.rw ids)[g]?=some (.live e k n cs))(h1:kC [i] g (jB s.rw ids) c0=some c1)(h2:kC [i] g (jB s.rw ids) args=some args')(hs:nK args'->iD P f [c1] e k n cs args' post pn)
  (hpn:∀ch bx',pn ch->bx'.length=s.bx.length->(∀j,j≠i->bx'[j]?=s.bx[j]?)->pan ch ⟨s.t,bx',(jB s.rw ids).set g .gone++[.live e k 0 []]⟩)
  (hk:∀o n' cs' r,post [o] n' cs' r->fZ [i] m s.bx [i] [o] fun bx'=>zT (backG [i] m r) fun r'=>j9 ((jB s.rw ids).set g .gone++[.live e k n' cs']) fun rw'=>kS s bx' rw' (K r')):kL P pan Xr f args s K:=by
 subst hm;unfold kL
 right;right;right;right;left
 have hil:=(xtw5.1 hi).1;refine⟨hf,[i],ids,g,e,k,n,cs,[c1],args',post,pn,by simp,by simpa using hX,by simpa using hil,hg,?_,h2,hs,fun outs n' cs' r hp hl=>?_,fun ch bx' h h1 h2=>hpn ch bx' h h1 fun j hj=>h2 j (by simpa using hj)⟩
 ·have:s.bx.getD i []=c0:=by simp[xtw9,hi]
  simp only[xtw22,xtw104,this,bG,h1]
 ·obtain⟨o,rfl⟩:∃o,outs=[o]:=xtw77.1 (by simpa using hl);exact hk o n' cs' r hp
theorem jrj(i g m:Nat)(ids:List Nat)(hm:s.rw.length=m){e k n:Nat}{cs c0 c1:List A}(hf:Xr 1000000007=true)(hX:Xr i=true)(hi:s.bx[i]?=some c0)(hg:(jB s.rw ids)[g]?=some (.live e k n cs))(h1:kC [i] g (jB s.rw ids) c0=some c1)(h2:kC [i] g (jB s.rw ids) args=some args')(hs:nK args'->pZ P f [c1] e k n cs args' post)
  (hk:∀o n' cs' r,post [o] n' cs' r->fZ [i] m s.bx [i] [o] fun bx'=>zT (backG [i] m r) fun r'=>j9 ((jB s.rw ids).set g .gone++[.live e k n' cs']) fun rw'=>kS s bx' rw' (K r')):kL P pan Xr f args s K :=
 qK i g m ids hm hf hX hi hg h1 h2 hs (fun _ _ h=>h.elim) hk
end
mutual
def aD(sel:List Nat):A->A
 |.own g=>match idx sel g with
  |some j=>.own j
  |none=>.dead
 |.orow g o=>match idx sel g with
  |some j=>.orow j o
  |none=>.dead
 |.clo f l=>.clo f (m6 sel l)
 |.bm f l=>.bm f (m6 sel l)
 |.agg l=>.agg (m6 sel l)
 |.tup l=>.tup (m6 sel l)
 |.box b o=>.box b o
 |.mp ks vs=>.mp ks vs
 |.gp g o=>.gp g o
 |.adr T=>.adr T
 |.err=>.err
 |.num=>.num
 |.dead=>.dead
 |.v x=>.v x
 |.sl k n cs=>.sl k n cs
 |.pp cs=>.pp cs
def m6(sel:List Nat):List A->List A
 |[]=>[]
 |a::r=>aD sel a::m6 sel r
end
theorem lJ(sel:List Nat):∀l:List A,m6 sel l=l.map (aD sel)
 |[]=>by simp[m6]
 |a::r=>by unfold m6;rw[lJ sel r];rfl
section
variable{E:Env}{sel:List Nat}{ρ':List Value}
mutual
theorem jnU(hs:∀j g:Nat,sel[j]?=some g->ρ'[j]?=E.ρ[g]?):∀(a:A) {y:Value},a.rep E y->(aD sel a).rep ⟨E.C,E.β,ρ'⟩ y
 |.dead,y,_=>by unfold aD;exact A.rep_dead _ _
 |.v x,y,h=>by unfold aD;unfold A.rep at h ⊢;exact h
 |.sl k n cs,y,h=>by unfold aD;unfold A.rep at h ⊢;exact h
 |.pp cs,y,h=>by unfold aD;unfold A.rep at h ⊢;exact h
 |.own g,y,h=>by
  unfold aD;split
  ·rename_i j hj;unfold A.rep at h ⊢;exact(hs j g (eW hj)).trans h
  ·exact A.rep_dead _ _
 |.orow g o,y,h=>by
  unfold aD;split
  ·rename_i j hj;unfold A.rep at h ⊢;obtain⟨b,n,cap,h1,h2⟩:=h;exact⟨b,n,cap,(hs j g (eW hj)).trans h1,h2⟩
  ·exact A.rep_dead _ _
 |.box j off,y,h=>by unfold aD;unfold A.rep at h ⊢;exact h
 |.gp _ _,y,h=>by unfold aD;unfold A.rep at h ⊢;exact h
 |.adr _,y,h=>by unfold A.rep at h;exact h.elim
 |.err,y,h=>by unfold aD;unfold A.rep at h ⊢;exact h
 |.num,y,h=>by unfold aD;unfold A.rep at h ⊢;exact h
 |.clo f l,y,h=>by
  unfold aD;unfold A.rep at h ⊢;obtain⟨us,h1,h2⟩:=h;exact⟨us,h1,bK hs l h2⟩
 |.bm f l,y,h=>by
  unfold aD;unfold A.rep at h ⊢;obtain⟨us,h1,h2⟩:=h;exact⟨us,h1,bK hs l h2⟩
 |.mp ks vs,y,h=>by unfold aD;unfold A.rep at h ⊢;exact h
 |.agg l,y,h=>by
  unfold aD;unfold A.rep at h ⊢;obtain⟨us,h1,h2⟩:=h;exact⟨us,h1,A.repC_mk (bK hs l (A.repC_L h2)) (A.repC_one h2)⟩
 |.tup l,y,h=>by
  unfold aD;unfold A.rep at h ⊢;obtain⟨us,h1,h2⟩:=h;exact⟨us,h1,bK hs l h2⟩
theorem bK(hs:∀j g:Nat,sel[j]?=some g->ρ'[j]?=E.ρ[g]?):∀(l:List A) {us:List Value},A.repL l E us->A.repL (m6 sel l) ⟨E.C,E.β,ρ'⟩ us
 |[],us,h=>by unfold m6;unfold A.repL at h ⊢;exact h
 |a::r,us,h=>by
  unfold m6;unfold A.repL at h ⊢;obtain⟨u,us',h1,h2,h3⟩:=h;exact⟨u,us',h1,jnU hs a h2,bK hs r h3⟩
end
end
def jbu:List Nat->Bool
 |[]=>true
 |x::r=>match pA x r with|true=>false|false=>jbu r
theorem jbv:∀{l:List Nat},jbu l=true->l.Nodup
 |[],_=>xtw92
 |x::r,h=>by
  unfold jbu at h;split at h
  ·cases h
  ·rename_i hm;refine xtw121.2 ⟨fun hx=>?_,jbv h⟩;rw[memB_iff.2 hx] at hm;cases hm
theorem js2{np:Nat}{s:S}(sel:List Nat)(hn:jbu sel=true)(hl:uB sel s.rw.length=true):Le np s ⟨m6 sel s.t,s.bx.map (m6 sel),sel.map fun g=>s.rw.getD g .gone⟩:=by
 rintro dr w0 C0 β0 a w hdr e ⟨E,hp,hrep,hd⟩;have hlt:=jcS hl;have hnd:=jbv hn;have r1:=hp.rl
 have hs:∀j g:Nat,sel[j]?=some g->(sel.map fun g=>E.ρ.getD g undef)[j]?=E.ρ[g]?:=fun j g h=>by
  have hg:g<E.ρ.length:=by rw[<- r1];exact hlt g (xtw20.2 ⟨j,h⟩)
  simp[h,xtw9,hg]
 have row:∀{j:Nat} {r:Row},(sel.map fun g=>s.rw.getD g .gone)[j]?=some r->∃g,sel[j]?=some g/\s.rw[g]?=some r:=fun {j r} h=>by
  rw[xtw48,xtw49] at h;obtain⟨g,h1,h2⟩:=h;have hg:=hlt g (xtw20.2 ⟨j,h1⟩);exact⟨g,h1,by rw[<- h2];simp[xtw9,hg]⟩
 have val:∀{j:Nat} {y:Value},(sel.map fun g=>E.ρ.getD g undef)[j]?=some y->∃g,sel[j]?=some g/\E.ρ[g]?=some y:=fun {j y} h=>by
  have h0:=h;rw[xtw48,xtw49] at h;obtain⟨g,h1,h2⟩:=h;exact⟨g,h1,by rw[<- hs j g h1];exact h0⟩
 refine⟨⟨E.C,E.β,sel.map fun g=>E.ρ.getD g undef⟩,⟨hp.sub,hp.base,hp.fresh,hp.bp,hp.bnd,hp.bC,by simpa using hp.bl,fun i b cs h1 h2=>?_,by simp,fun j r y h1 h2=>?_,fun j e k n cs y b h1 h2 h3=>?_,fun j e k n cs y j' e' k' n' cs' z b hne h1 h2 h3 h4 h5=>?_,fun j y h1=>?_,hp.keep,hp.gk⟩,bK hs _ hrep,repD.keep (E:=E) (F:=⟨E.C,E.β,sel.map fun g=>E.ρ.getD g undef⟩) (Sub.refl _) (fun _ _ h=>h) hdr hd⟩
 ·rw[xtw48,xtw49] at h2;obtain⟨c0,h2,rfl⟩:=h2;obtain⟨T',arr,h3,h4⟩:=hp.bxs i b c0 h1 h2;rw[lJ];refine⟨T',arr,h3,h4.map (aD sel) (fun l us k=>by rw[<- lJ];exact bK hs l k) (by unfold aD;rfl) (fun t=>by unfold aD;rfl) fun a t e=>?_⟩
  cases a <;> unfold aD at e <;> (try split at e) <;> first|(cases e;done)|(cases e;rfl)
 ·obtain⟨g,k1,k2⟩:=row h1;obtain⟨g',k3,k4⟩:=val h2;obtain rfl:=xtw43 (k1.symm.trans k3);have:=hp.rws g r y k2 k4
  cases r with
  |live e k n cs=>exact this
  |pub k n cs =>
   have h5:(A.sl k n cs).rep _ y:=this;show(A.sl k n cs).rep _ y;unfold A.rep at h5 ⊢;exact h5
  |gone=>trivial
 ·obtain⟨g,k1,k2⟩:=row h1;obtain⟨g',k3,k4⟩:=val h2;obtain rfl:=xtw43 (k1.symm.trans k3);exact hp.rC g e k n cs y b k2 k4 h3
 ·obtain⟨g,k1,k2⟩:=row h1;obtain⟨g',k3,k4⟩:=val h2;obtain rfl:=xtw43 (k1.symm.trans k3);obtain⟨x,q1,q2⟩:=row h3;obtain⟨x',q3,q4⟩:=val h4;obtain rfl:=xtw43 (q1.symm.trans q3);exact hp.rd g e k n cs y x e' k' n' cs' z b (fun e9=>hne (by subst e9;exact jdx hnd k1 q1)) k2 k4 q2 q4 h5
 ·obtain⟨g,k1,k2⟩:=val h1;exact hp.rs g y k2
def jh9(sel:List Nat):List (List A)->(List (List A)->Prop)->Prop
 |[],K=>K []
 |c::l,K=>n8 (aD sel) c fun c'=>jh9 sel l fun r=>K (c'::r)
theorem jdT{sel:List Nat}:∀{l:List (List A)} {K:List (List A)->Prop},jh9 sel l K↔K (l.map (m6 sel))
 |[],K=>by simp[jh9]
 |c::l,K=>by simp[jh9,qN,jdT (l:=l),lJ]
def ju9(sel:List Nat)(rw:List Row):List Row:=sel.map fun g=>rw.getD g .gone
def jlM(sel:List Nat)(t:List A)(bx:List (List A))(rw:List Row)(K:S->Prop):Prop :=
 match jbu sel with
 |true=>match uB sel rw.length with
  |true=>n8 (aD sel) t fun t'=>jh9 sel bx fun bx'=>j9 (ju9 sel rw) fun rw'=>K ⟨t',bx',rw'⟩
  |false=>False
 |false=>False
theorem jh8{sel:List Nat}{t:List A}{bx:List (List A)}{rw:List Row}{K:S->Prop}(h:jlM sel t bx rw K):∃s',(∀np,Le np ⟨t,bx,rw⟩ s')/\K s':=by
 unfold jlM at h;split at h
 ·rename_i h1;split at h
  ·rename_i h2;rw[qN,jdT,qP] at h;refine⟨_,fun np=>js2 (s:=⟨t,bx,rw⟩) sel h1 h2,?_⟩;show K ⟨m6 sel t,bx.map (m6 sel),ju9 sel rw⟩;rw[lJ];exact h
  ·exact h.elim
 ·exact h.elim
theorem nC{np:Nat}{f:S->(Exit->S->Prop)->Prop}{t:List A}{bx:List (List A)}{rw:List Row}{Q:Exit->S->Prop}(sel:List Nat)(h:jlM sel t bx rw fun s'=>xY np f s' Q):xY np f ⟨t,bx,rw⟩ Q:=by
 obtain⟨s',h1,h2⟩:=jh8 h;exact jk2 (h1 _) h2
theorem jD{X:Type}{np:Nat}{t t0:List A}{bx:List (List A)}{rw:List Row}{g:X->List (Nat×A)}{hb:X->List (List A)}{hr:X->List Row}{x:X}(sel:List Nat)(h:jlM sel t bx rw fun s'=>jb8 t0 g hb hr x fun s2=>LeS np s' s2):Le np ⟨t,bx,rw⟩ (m9 t0 g hb hr x):=by
 obtain⟨s',h1,h2⟩:=jh8 h;exact(h1 np).trans (oE (headK_iff.1 h2))
theorem Hp.pubMap{w0:W0}{w:World}{C0:Rd}{β0:List Nat}{s:S}{E:Env}(h:Hp w0 C0 β0 s.bx s.rw w E){g e n f f':Nat}{kA vs:List A}{ks:List Value}(hg:s.rw[g]?=some (.live e 0 n [.clo f kA,.clo f' vs]))(hk:∀us,A.repL kA E.per us->us=ks/\∀k∈ks,fX k) :
  ∃C' y,E.ρ[g]?=some y/\Hp w0 C0 β0 s.bx (s.rw.set g .gone) w ⟨C',E.β,E.ρ⟩/\E.le ⟨C',E.β,E.ρ⟩/\(A.mp ks vs).rep ⟨C',E.β,E.ρ⟩ y:=by
 have hgl:=(xtw5.1 hg).1
 obtain⟨y,hy⟩:∃y,E.ρ[g]?=some y:=⟨_,xtw21 (by rw[<- h.rl];exact hgl)⟩
 obtain⟨r,es,c,us,e1,hr,hn,hst,h2,hks,hvs⟩:=jac h hg hy;obtain⟨hks,hok⟩:=hk _ hks
 have hb:blk y=some r:=by rw[e1];rfl
 obtain⟨hrn,hrC⟩:=h.rC g e 0 n _ y r hg hy hb;refine⟨fun ad=>if ad.block=r then(kR w) ad else E.C ad,y,hy,?_⟩
 have hC:Sub E.C (fun ad=>if ad.block=r then(kR w) ad else E.C ad):=fun ad u hc=>by
  simp only
  split
  ·exact h.sub ad u hc
  ·exact hc
 have le:E.le ⟨fun ad=>if ad.block=r then(kR w) ad else E.C ad,E.β,E.ρ⟩:=⟨hC,fun _ _ h=>h,fun _ _ h=>h⟩
 have live:∀{j e k n:Nat} {cs:List A},(s.rw.set g .gone)[j]?=some (.live e k n cs)->s.rw[j]?=some (.live e k n cs)/\j≠g:=fun {j e k n cs} hj=>by
  rw[xtw86] at hj;split at hj
  ·cases hj
  ·rename_i hne;exact⟨hj,fun e=>hne e.symm⟩
 refine⟨⟨fun ad u hc=>?_,h.base.trans hC,fun ad u hc=>?_,h.bp,h.bnd,fun b hb' o sp=>?_,h.bl,fun i b cs' h1 h2=>(h.bxs i b cs' h1 h2).mono le,by simp[h.rl],fun j r' z h1 h2=>?_,fun j e' k' n' cs' z b h1 h2 h3=>?_,fun j e1' k1 n1 cs1 z j' e2 k2 n2 cs2 z' b hne h1 h2 h3 h4 h5=>h.rd j e1' k1 n1 cs1 z j' e2 k2 n2 cs2 z' b hne (live h1).1 h2 (live h3).1 h4 h5,h.rs,h.keep,h.gk⟩,le,?_⟩
 ·simp only at hc
  split at hc
  ·exact hc
  ·exact h.sub ad u hc
 ·simp only at hc
  split at hc
  ·rename_i hb2;right;have:=(h.rlt hg hy hb).1;rw[hb2];exact this
  ·exact h.fresh ad u hc
 ·simp only
  rw[xtw2 (fun hb2:b=r=>hrn (by rw[<- hb2];exact hb'))];exact h.bC b hb' o sp
 ·rw[xtw86] at h1;split at h1
  ·cases h1;trivial
  ·exact(h.rws j r' z h1 h2).mono le (fun _ _ _ _ _ _ _=>rfl)
 ·obtain⟨h4,h5⟩:=live h1;obtain⟨q1,q2⟩:=h.rC j e' k' n' cs' z b h4 h2 h3;refine⟨q1,fun o sp=>?_⟩
  simp only
  rw[xtw2 (fun hb2:b=r=>h.rd g e 0 n _ y j e' k' n' cs' z r (xtw106 h5) hg hy h4 h2 hb (by rw[<- hb2];exact h3))];exact q2 o sp
 ·unfold A.rep;refine⟨r,us,e1,?_,?_,A.repL.mono _ le.per hvs,hok⟩
  ·simp only[xtw127];unfold kR cK;simp only[hr];rw[xtw3 hst]
   have q1:es.map (·.key)=ks.toArray:=by
    apply xtw80.1;rw[<- hks];simp
   have q2:es.map (·.val)=us.toArray:=by
    apply xtw80.1;rw[<- h2];simp
   rw[q1,q2]
  ·rw[A.repL_len hvs |>.symm,<- h2,<- hks];simp
def jhs(g:Nat)(m:A)(a:A):A:=match a with
 |.own j=>match Nat.beq j g with
  |true=>m
  |false=>.own j
 |a=>a
def jc2(g:Nat)(m:A):List (List A)->(List (List A)->Prop)->Prop
 |[],K=>K []
 |c::l,K=>n8 (jhs g m) c fun c'=>jc2 g m l fun r=>K (c'::r)
theorem jc3{g:Nat}{m:A}:∀{l:List (List A)} {K:List (List A)->Prop},jc2 g m l K↔K (l.map fun c=>c.map (jhs g m))
 |[],K=>by simp[jc2]
 |c::l,K=>by simp[jc2,qN,jc3 (l:=l)]
theorem joc{E:Env}{g:Nat}{m a:A}{y v:Value}(hg:E.ρ[g]?=some v)(hm:m.rep E v)(h:a.rep E y):(jhs g m a).rep E y:=by
 cases a with
 |own j =>
  unfold jhs
  simp only
  split
  ·rename_i hb;have:=xtw24 hb;subst this;unfold A.rep at h;rw[hg] at h;cases h;exact hm
  ·exact h
 |_=>exact h
theorem tY{E:Env}{g:Nat}{m:A}{v:Value}(hg:E.ρ[g]?=some v)(hm:m.rep E v):∀{l:List A} {us:List Value},A.repL l E us->A.repL (l.map (jhs g m)) E us
 |[],us,h=>by simpa using h
 |a::r,us,h=>by
  unfold A.repL at h;obtain⟨u,us',rfl,h2,h3⟩:=h;simp only[xtw22];unfold A.repL;exact⟨u,us',rfl,joc hg hm h2,tY hg hm h3⟩
theorem tE:∀{l:List A} {K:List Value->Prop},oC l K->∃ks,K ks/\∀(E:Env) us,A.repL l E us->us=ks/\∀k∈ks,fX k
 |[],K,h=>⟨[],h,fun E us hr=>by unfold A.repL at hr;exact⟨hr,by simp⟩⟩
 |a::l,K,h=>by
  unfold oC at h;split at h
  ·rename_i x;obtain⟨ks,h1,h2⟩:=tE h;refine⟨x::ks,h1,fun E us hr=>?_⟩;unfold A.repL at hr;obtain⟨u,us',rfl,h3,h4⟩:=hr;obtain⟨rfl,h5⟩:=h2 E _ h4;obtain⟨rfl,h6⟩:=A.rep_v_iff.1 h3;refine⟨rfl,fun k hk=>?_⟩;rcases xtw13.1 hk with rfl|hk
   ·exact h6
   ·exact h5 k hk
  ·exact h.elim
def jql(g:Nat)(rw:List Row)(K:A->List Row->Prop):Prop :=
 match rw[g]? with
 |some (.live _ z _ cs)=>match z with
  |0=>match cs with
   |[.clo _ kA,.clo _ vs]=>oC kA fun ks=>cM rw g .gone fun rw'=>K (.mp ks vs) rw'
   |_=>False
  |_+1=>False
 |_=>False
theorem jeW{c:Cx}{x:Code}{t:List A}{bx:List (List A)}{rw:List Row}{q:Exit->S->Prop}(g:Nat)
  (h:jql g rw fun m rw'=>n8 (jhs g m) t fun t'=>jc2 g m bx fun bx'=>Ok c x ⟨t',bx',rw'⟩ q):Ok c x ⟨t,bx,rw⟩ q:=by
 unfold jql at h;split at h
 ·rename_i e z n cs hg;split at h
  ·split at h
   ·rename_i f kA f' vs;obtain⟨ks,h,hks⟩:=tE h;obtain⟨-,h⟩:=kD h;rw[qN,jc3] at h;refine jqH ?_ h;rintro dr w0 C0 β0 a w hdr _ ⟨E,hp,hrep,hd⟩;obtain⟨C',y,hy,hp',le,hm⟩:=hp.pubMap (s:=⟨t,bx,rw⟩) (ks:=ks) hg (hks E.per);refine⟨⟨C',E.β,E.ρ⟩,?_,tY (E:=⟨C',E.β,E.ρ⟩) hy hm (A.repL.mono _ le hrep),hd.mono le⟩;refine⟨hp'.sub,hp'.base,hp'.fresh,hp'.bp,hp'.bnd,hp'.bC,by simpa using hp'.bl,fun i b cs h1 h2=>?_,hp'.rl,hp'.rws,hp'.rC,hp'.rd,hp'.rs,hp'.keep,hp'.gk⟩;rw[xtw48,xtw49] at h2;obtain⟨c0,h2,rfl⟩:=h2;obtain⟨T',arr,h3,h4⟩:=hp'.bxs i b c0 h1 h2;refine⟨T',arr,h3,h4.map (jhs g (.mp ks vs)) (fun l us k=>tY (E:=⟨C',E.β,E.ρ⟩) hy hm k) rfl (fun t=>rfl) fun a t e=>?_⟩;unfold jhs at e;split at e
    ·split at e <;> cases e
    ·exact e
   ·exact h.elim
  ·exact h.elim
 ·exact h.elim
theorem xB{P:Program}{pan:List PanicEntry->S->Prop}{Xr:Nat->Bool}{f:Nat}{args args0:List A}{s:S}{K:A->S->Prop}{post:List (List A)->Nat->List A->A->Prop}(i g m:Nat)(ids:List Nat){e k n:Nat}{cs c1:List A}(hs:pZ P f [c1] e k n cs args0 post)(hk:∀o n1 cs1 r,post [o] n1 cs1 r->fZ [i] m s.bx [i] [o] fun bx1=>zT (backG [i] m r) fun r1=>j9 ((jB s.rw ids).set g .gone++[.live e k n1 cs1]) fun rw1=>kS s bx1 rw1 (K r1))(hm:s.rw.length=m:=by rfl)(hf:Xr 1000000007=true:=by rfl)(hX:Xr i=true:=by rfl)(hg:(jB s.rw ids)[g]?=some (.live e k n cs):=by rfl)(h1:(s.bx[i]?.bind fun c=>kC [i] g (jB s.rw ids) c)=some c1:=by rfl)(h2:kC [i] g (jB s.rw ids) args=some args0:=by rfl):kL P pan Xr f args s K:=by
 obtain⟨c0,hi,h1⟩:=vqb h1;exact jrj i g m ids hm hf hX hi hg h1 h2 (fun _=>hs) hk
end
theorem iL{f:Nat}{fn:Func}{x:Code}{ins:List (List A)}{e k n:Nat}{cs args:List A}{post:List (List A)->Nat->List A->A->Prop}(o:Nat->Tr)(xs:Nat->List Nat)(np:Nat)(hf:Tryz.prog.funcs[f]?=some fn)(hb:fn.body=some x)(h:nK args->yT args (fn.ntmps-args.length) fun t=>sQ ⟨Tryz.prog,tab,o,xs,np,fun _ _=>False⟩ x ⟨t,ins,[.live e k n cs]⟩ (jp0 ⟨Tryz.prog,tab,o,xs,np,fun _ _=>False⟩ e k fn.results.toList post))(h1:(fn.name == "runtime.NumGoroutine")=false:=by kernel_rfl) (h2:ins.length=np:=by rfl) (h3:kI o x=true:=by kernel_rfl):pZ Tryz.prog f ins e k n cs args post:=sJ (qE o xs np) (fun _ _ h=>h) hf hb h1 h2 h3 h
theorem jN(j:Nat){K:Prop}(h:(j:Int)+1<=9223372036854775807)(k:K):(lo .i64<=(j:Int)+1/\(j:Int)+1<=hi .i64)/\K:=⟨jG ⟨by omega,h⟩,k⟩
@[irreducible] def mkA(l:List (Int×A)):List A:=l.map fun p=>.v (.int .i64 p.1)
@[irreducible] def mkV(l:List (Int×A)):List Value:=l.map fun p=>.int .i64 p.1
@[irreducible] def pY(l:List (Int×A)):List A:=l.map (·.2)
theorem jpl:mkA []=[]:=by unfold mkA;rfl
theorem jpm:pY []=[]:=by unfold pY;rfl
theorem aY(l:List (Int×A)){K:List Value->Prop}(h:K (mkV l)):oC (mkA l) K:=by
 unfold mkV at h;unfold mkA
 induction l generalizing K with
 |nil=>exact h
 |cons p l ih =>
  rw[xtw22]
  show oC (l.map _) fun r=>K (.int .i64 p.1::r)
  exact ih (K:=fun r=>K (.int .i64 p.1::r)) h
def wI(l:List (Int×A))(k:Int):Option A:=(l.find? fun p=>decide (k=p.1)).map (·.2)
theorem kH(l:List (Int×A))(k:Int){K:A->Prop}{n:Prop}(h:match wI l k with|some a=>K a|none=>n):gU false (mkV l) (pY l) (.int .i64 k) K n:=by
 unfold mkV pY
 induction l with
 |nil=>exact h
 |cons p l ih =>
  rw[xtw22,xtw22];show ifK (decide (k=p.1)) (zT p.2 K) (gU false (l.map _) (l.map (·.2)) (.int .i64 k) K n);rw[ifK_iff];by_cases e:k=p.1
  ·refine⟨fun _=>?_,fun e2=>by rw[xtw1 e] at e2;cases e2⟩
   have:wI (p::l) k=some p.2:=by unfold wI;rw[List.find?_cons_of_pos (by simpa using e)];rfl
   rw[this] at h;exact force_iff.2 h
  ·refine⟨fun e2=>absurd (xtw23 e2) e,fun _=>ih ?_⟩
   have:wI (p::l) k=wI l k:=by unfold wI;rw[List.find?_cons_of_neg (by simpa using e)]
   rw[<- this];exact h
theorem jdg{l:List (Int×A)}{k:Int}{x:A}{n:Nat}{K:List A->List A->Nat->Prop}(hk:∀p∈l,k≠p.1)(h:K (mkA (l++[(k,x)])) (pY (l++[(k,x)])) (n+1)):jig false (.int .i64 k) x (mkA l) (pY l) n K:=by
 unfold mkA pY at h;unfold mkA pY
 induction l generalizing K with
 |nil=>exact h
 |cons p l ih =>
  rw[xtw22,xtw22];show ifK (decide (k=p.1)) _ (jig false (.int .i64 k) x (l.map _) (l.map (·.2)) n fun ks' vs' n'=>K (.v (.int .i64 p.1)::ks') (p.2::vs') n');rw[ifK_iff];refine⟨fun e=>absurd (xtw23 e) (hk p xtw29),fun _=>ih (K:=fun ks' vs' n'=>K (.v (.int .i64 p.1)::ks') (p.2::vs') n') (fun q hq=>hk q (xtw25 _ hq)) h⟩
end Go.Proofs.YtfbifdccmabdbaaGreatDoor.Vm
namespace Go.Proofs.YtfbifdccmabdbaaGreatDoor
open Go.RowKit
def Asks(w:World)(c:FuncId)(cap:Array Value)(l:List Nd)(q:Nd->Bool):Prop :=
 (∀args w',(callFunc c args).run Tryz.prog w'=.ok (.enter c args) w') ∧
 ∀t∈l,∀v w',Ext w w'->t.At w'.cell? v->Calls Tryz.prog c (#[v]++cap) w' (oO w' (.bool (q t)))
theorem Asks.use{w:World}{c:FuncId}{cap:Array Value}{l:List Nd}{q:Nd->Bool}(h:Asks w c cap l q)(k:Nat)(hk:k<l.length){v:Value}{w':World}(hx:Ext w w')(ht:l[k].At w'.cell? v) :
  Calls Tryz.prog c (#[v]++cap) w' (oO w' (.bool (q l[k]))):=h.2 _ (xtw10 hk) v w' hx ht
def xL(q:Nd->Bool)(l:List Nd):Int:=match l.findIdx? q with|some i=>(i:Int)|none => -1
theorem jmJ{q:Nd->Bool}{l:List Nd}{k:Nat}(hk:k<l.length)(h:∀j (hj:j<k),q (l[j]'(by omega))=false)(hq:q l[k]=true):xL q l=(k:Int):=by
 have:l.findIdx? q=some k:=by
  rw[xtw89];exact⟨hk,hq,fun j hj=>by simp[h j hj]⟩
 unfold xL;rw[this]
theorem jkW{q:Nd->Bool}{l:List Nd}(h:∀j (hj:j<l.length),q l[j]=false):xL q l = -1:=by
 have:l.findIdx? q=none:=by
  rw[List.findIdx?_eq_none_iff];intro x hx;obtain⟨j,hj,rfl⟩:=xtw67.1 hx;simp[h j hj]
 unfold xL;rw[this]
theorem jgd(q:Nd->Bool)(l:List Nd):decide (0<=xL q l)=l.any q:=by
 cases h:l.any q with
 |true =>
  unfold xL
  cases hf:l.findIdx? q with
  |some i=>simp
  |none =>
   rw[List.findIdx?_eq_none_iff] at hf;obtain⟨x,hx,hq⟩:=xtw34.1 h;rw[hf x hx] at hq;cases hq
 |false =>
  unfold xL
  cases hf:l.findIdx? q with
  |none=>simp
  |some i =>
   rw[xtw89] at hf;obtain⟨hi,hq,_⟩:=hf;rw[xtw124] at h;exact absurd hq (h _ (xtw10 hi))
theorem jpa(q:Nd->Bool)(l:List Nd) : -1<=xL q l/\xL q l<=l.length:=by
 unfold xL
 cases hf:l.findIdx? q with
 |none=>simp
 |some i =>
  rw[xtw89] at hf;obtain⟨hi,_⟩:=hf
  simp;omega
theorem jcx(l:List Nd)(sv:Value)(c:FuncId)(cap:Array Value)(w:World)(q:Nd->Bool)(hl:NdsAt w.cell? sv l)(hf:Asks w c cap l q) :
  Calls Tryz.prog 104 #[sv,.func (.func c) #[] cap] w (oO w (.int .i64 (xL q l))):=by
 obtain⟨hl1,p,b,off,cp,rfl,hc,hp,hn,hin⟩:=hl;have hcf:=hf.1
 go_enter Tryz.func104,Tryz.ntmps104
 go_wp2
 go_loopw [5,8] (fun _ i wr=>∃k:Nat,k<=l.length/\i=.int .i64 k/\Ext w wr/\∀j (hj:j<l.length),j<k->q l[j]=false) (fun _ i _=>l.length-(intOf i).toNat)
 case atStart=>exact⟨0,by omega,rfl,Ext.refl _,fun j hj h=>absurd h (by omega)⟩
 case round =>
  obtain⟨k,hk,rfl,hx,hno⟩:=hrel;have HNO:Hid (∀j (hj:j<l.length),j<k->q l[j]=false):=hno;clear hno;by_cases hlt:k<l.length
  ·obtain rfl:p=some ⟨b,off,none⟩:=by
    rcases hp with rfl|hp
    ·simp at hlt
    ·exact hp
   obtain⟨v0,v1,v2,v3,c0,c1,c2,c3,ht⟩:=Nd.In.get l off hin k hlt
   replace c0:=hx.c c0
   replace c1:=hx.c c1
   replace c2:=hx.c c2
   replace c3:=hx.c c3
   have ht2:=Nd.At.mono hx.sub _ _ ht;have hcall:=Lib.hid (hf.use k hlt hx ht2);clear hin hp hn ht ht2
   obtain⟨qk,hqk⟩:∃qk,qk=q l[k]:=⟨_,rfl⟩
   have HQ:Hid (qk=q l[k]):=hqk;rw[<- hqk] at hcall;clear hqk
   cases qk with
   |true =>
    go_wp2_with (refine hcall.out.mono ?_;rintro e w2 ⟨rfl,hx2⟩)
    go_ret
    have:=jmJ hlt (fun j hj=>HNO.out j (by omega) hj) HQ.out.symm;exact⟨by rw[this];rfl,hx.trans hx2⟩
   |false =>
    go_wp2_with (refine hcall.out.mono ?_;rintro e w2 ⟨rfl,hx2⟩)
    go_roundw
    case rel=>exact⟨k+1,by omega,by go_num,hx.trans hx2,fun j hj h=>by
     by_cases hjk:j=k
     ·subst hjk;exact HQ.out.symm
     ·exact HNO.out j hj (by omega)⟩
    case measure=>simp[intOf];omega
  ·have hkl:k=l.length:=by omega
   go_wp2
   go_ret
   exact⟨by rw[jkW (fun j hj=>HNO.out j hj (by omega))];rfl,hx⟩
theorem gD(l:List Nd)(sv:Value)(c:FuncId)(cap:Array Value)(w:World)(q:Nd->Bool)(hl:NdsAt w.cell? sv l)(hf:Asks w c cap l q) :
  Calls Tryz.prog 63 #[sv,.func (.func c) #[] cap] w (oO w (.bool (l.any q))):=by
 have h0:=jgd q l;have h1:=jpa q l
 obtain⟨n,hn⟩:∃n,n=xL q l:=⟨_,rfl⟩
 have hcall:=Lib.hid (jcx l sv c cap w q hl hf);rw[<- hn] at hcall h0 h1;obtain⟨h2,h3⟩:=h1;have H0:=Lib.hid h0;clear h0 hn
 go_enter Tryz.func63,Tryz.ntmps63
 go_wp2_with (go_at_call 104;refine hcall.out.mono ?_;rintro e w2 ⟨rfl,hx2⟩)
 go_ret
 exact⟨by rw[<- H0.out];rfl,hx2⟩
section
def MapAt(w:World)(r:Nat)(l:List (ByteArray×Value)):Prop :=
 ∃es c,w.heap[r]?=some (.map es c)/\es.toList.map (fun e=>(e.key,e.val))=l.map (fun p=>(Value.string p.1,p.2))
def tJ(l:List (ByteArray×Value))(s:ByteArray):Option Value:=(l.find? (fun p=>s==p.1)).map (·.2)
theorem iM(s:ByteArray):∀(es:List MapEntry) (l:List (ByteArray×Value)) (i:Nat),es.map (fun e=>(e.key,e.val))=l.map (fun p=>(Value.string p.1,p.2)) →
  ∃r,Instr.findNow .string (.string s) es i=some r/\r.map (·.2)=tJ l s
 |[],[],i,_=>⟨none,by simp[Instr.findNow],by simp[tJ]⟩
 |[],_::_,_,h=>by simp at h
 |_::_,[],_,h=>by simp at h
 |e::es,p::l,i,h=>by
  simp only[xtw22,xtw74,Prod.mk.injEq] at h;obtain⟨⟨h1,h2⟩,h3⟩:=h;by_cases hs:s==p.1
  ·exact⟨some (i,e.val),by simp[Instr.findNow,Instr.sameNow,h1,hs],by simp[tJ,hs,h2]⟩
  ·obtain⟨r,hr,hr2⟩:=iM s es l (i+1) h3;refine⟨r,by simp[Instr.findNow,Instr.sameNow,h1,hs,hr],?_⟩;rw[hr2];simp[tJ,hs]
section
variable{P:Program}{w:World}{T K E:TypeId}{r:Nat}{l:List (ByteArray×Value)}{s:ByteArray}
theorem pL{es:Array MapEntry}{c:Nat}(h:w.heap[r]?=some (.map es c)):(getObj r).run P w=.ok (.map es c) w:=by
 simp[getObj,Sem.run,h]
theorem jnJ(hK:P.underlying K=some .string)(b:Bool)(n:Nat):(Instr.checkKey b (n+1) K (.string s)).run P w=.ok () w:=by
 simp[Instr.checkKey,run_underlying hK]
theorem jbQ(hT:P.underlying T=some (.map K E))(hK:P.underlying K=some .string){z:Value}(hz:(zeroValue E).run P w=.ok z w)(h:MapAt w r l) :
  (Instr.lookup T (.map (some r)) (.string s) false).run P w=.ok ((tJ l s).getD z) w:=by
 obtain⟨es,c,hr,hes⟩:=h;obtain⟨x,hx,hx2⟩:=iM s es.toList l 0 hes
 have hc:∀b,(Instr.checkKey b 10000 K (.string s)).run P w=.ok () w:=fun b=>jnJ hK b 9999
 have hf:(Instr.findKey K (.string s) es.toList).run P w=.ok x w:=by simp[Instr.findKey,run_underlying hK,hx]
 rw[<- hx2]
 cases x with
 |none=>simp[Instr.lookup,run_underlying hT,pL hr,hc,hf,hz,Result.andThen]
 |some y=>obtain⟨j,y⟩:=y;simp[Instr.lookup,run_underlying hT,pL hr,hc,hf,Result.andThen]
theorem jbR(hT:P.underlying T=some (.map K E))(hK:P.underlying K=some .string)(v:Value)(h:MapAt w r l)(hn:tJ l s=none) :
  ∃w',(Instr.mapUpdate T (.map (some r)) (.string s) v).run P w=.ok () w'/\w.grownBy w' (some r)/\MapAt w' r (l++[(s,v)]):=by
 obtain⟨es,c,hr,hes⟩:=h;obtain⟨x,hx,hx2⟩:=iM s es.toList l 0 hes;rw[hn] at hx2
 have hx0:x=none:=by cases x <;> simp_all
 subst hx0
 have hc:∀b,(Instr.checkKey b 10000 K (.string s)).run P w=.ok () w:=fun b=>jnJ hK b 9999
 have hf:(Instr.findKey K (.string s) es.toList).run P w=.ok none w:=by simp[Instr.findKey,run_underlying hK,hx]
 have hlt:r<w.heap.size:=(xtw27.1 hr).1;refine⟨{ w with heap:=w.heap.setIfInBounds r (.map (es.push { key:=.string s,val:=v,born:=c }) (c+1)) },?_,⟨rfl,rfl,rfl,by simp,fun k hk hne=>?_⟩,es.push { key:=.string s,val:=v,born:=c },c+1,by simp[hlt],?_⟩
 ·simp[Instr.mapUpdate,run_underlying hT,pL hr,hc,hf,Result.andThen,setObj,Sem.run,hr]
 ·have:r≠k:=fun e=>hne (by rw[e])
  simp[xtw87 this]
 ·simp[hes]
theorem MapAt.ext{w':World}(h:MapAt w r l)(x:Ext w w'):MapAt w' r l:=by
 obtain⟨es,c,hr,hes⟩:=h;exact⟨es,c,x.block hr,hes⟩
theorem MapAt.lt(h:MapAt w r l):r<w.heap.size:=by
 obtain⟨es,c,hr,hes⟩:=h;exact(xtw27.1 hr).1
theorem MapAt.made(w:World):MapAt (w.alloc (.map #[] 0)) w.heap.size []:=⟨#[],0,heap_alloc_new w _,by simp⟩
variable{o:Oper}{a:Act}{Kc:Act->World->Prop}{Q:Exit->Act->World->Prop}
theorem jcJ(m k x:Operand)(ho:o.op=.mapUpdate T m k x∨o.op=.insert T m k x)(hT:P.underlying T=some (.map K E))(hK:P.underlying K=some .string)(v:Value)
  (hm:a.eval m=.map (some r)) (hk:a.eval k=.string s) (hx:a.eval x=v) (h:MapAt w r l) (hn:tJ l s=none)
  (hc:∀w',w.grownBy w' (some r)->MapAt w' r (l++[(s,v)])->Kc (a.put o.dst undef) w'):o.wp P a w Kc Q:=by
 obtain⟨w',hrun,hg,hM⟩:=jbR (P:=P) hT hK v h hn;unfold Oper.wp;rcases ho with ho|ho
 ·simp[execOp,ho,hm,hk,hx,hrun,Result.andThen];exact hc w' hg hM
 ·simp[execOp,ho,hm,hk,hx,hrun,Result.andThen];exact hc w' hg hM
theorem oN(m k:Operand)(ho:o.op=.lookup T m k false)(hT:P.underlying T=some (.map K E))(hK:P.underlying K=some .string){z:Value}(hz:(zeroValue E).run P w=.ok z w)
  (hm:a.eval m=.map (some r)) (hk:a.eval k=.string s) (h:MapAt w r l) (hc:Kc (a.put o.dst ((tJ l s).getD z)) w):o.wp P a w Kc Q:=by
 have hrun:=jbQ (P:=P) (s:=s) hT hK hz h;unfold Oper.wp;simp[execOp,ho,hm,hk,hrun,Result.andThen];exact hc
variable{ops:Array Oper}{rest:List Oper}
theorem jP(hgd:o.guard=none)(m k x:Operand)(ho:o.op=.mapUpdate T m k x∨o.op=.insert T m k x)(hT:P.underlying T=some (.map K E))(hK:P.underlying K=some .string)(v:Value)
  (hm:a.eval m=.map (some r)) (hk:a.eval k=.string s) (hx:a.eval x=v) (h:MapAt w r l) (hn:tJ l s=none)
  (hc:∀w',w.grownBy w' (some r)->MapAt w' r (l++[(s,v)])->wpList P ops Q rest (a.put o.dst undef) w'):wpList P ops Q (o::rest) a w :=
 wpList_plain hgd fun _ hK'=>jcJ m k x ho hT hK v hm hk hx h hn fun w' g M=>hK' _ _ (hc w' g M)
end
end
def sg(a b:Int):Value:=.agg #[.int .i64 a,.int .i64 b]
def juc:List (ByteArray×Value):=[(⟨#[45]⟩,sg 1 1),(⟨#[33]⟩,sg 2 2)]
def juy:List (ByteArray×Value):=[(⟨#[38,38]⟩,sg 2 2),(⟨#[124,124]⟩,sg 2 2)]


def jlw(k:Nat):List (ByteArray×Value):=juy++(opsA.take k).map (fun s=>(s,sg 1 1))
def jcH(k:Nat):List (ByteArray×Value):=jlw 4++(opsC.take k).map (fun s=>(s,sg 1 2))
def jo0(b:Bool):List (ByteArray×Value):=if b then jcH 6 else juc
def jqV(l:List (ByteArray×Value))(v:Value)(w:World):Prop:=∃r,v=.map (some r)/\MapAt w r l
theorem j5:Tryz.prog.underlying 173=some (.map 9 172):=by kernel_rfl
theorem zG:Tryz.prog.underlying 9=some .string:=by kernel_rfl
theorem Ext.row{a b c:World}{r:Nat}(h:Ext a b)(g:b.grownBy c (some r))(hr:a.heap.size<=r):Ext a c:=Below.grown h g (Below.size h) (by intro k hk;cases hk;exact hr)
theorem jlb(w:World):Calls Tryz.prog 139 #[.bool false] w (Ret w (jqV juc)):=by
 have hmm := @run_makeMap Tryz.prog;have hM:=MapAt.made w;have hE:Ext w (w.alloc (.map #[] 0)):=(Ext.refl w).alloc _
 go_enter Tryz.func139,Tryz.ntmps139
 go_wp2_with (first
  |(refine jP (r:=w.heap.size) (l:=[]) (s:=⟨#[45]⟩) rfl _ _ _ (.inr rfl) j5 zG (sg 1 1) rfl rfl rfl hM (by decide +kernel) ?_;intro w2 hg hM2;replace hM:=hM2;clear hM2;replace hE:=hE.row hg (xtw11 _);clear hg)
  |(refine jP (r:=w.heap.size) (l:=[(⟨#[45]⟩,sg 1 1)]) (s:=⟨#[33]⟩) rfl _ _ _ (.inr rfl) j5 zG (sg 2 2) rfl rfl rfl hM (by decide +kernel) ?_;intro w2 hg hM2;replace hM:=hM2;clear hM2;replace hE:=hE.row hg (xtw11 _);clear hg))
 go_ret
 exact⟨_,rfl,hE,_,rfl,hM⟩
theorem jnf(w:World):Calls Tryz.prog 139 #[.bool true] w (Ret w (jqV (jcH 6))):=by
 have hmm := @run_makeMap Tryz.prog;have hM:=MapAt.made w;have hE:Ext w (w.alloc (.map #[] 0)):=(Ext.refl w).alloc _
 go_enter Tryz.func139,Tryz.ntmps139
 go_wp2_with (first
  |(refine jP (r:=w.heap.size) (l:=[]) (s:=⟨#[38,38]⟩) rfl _ _ _ (.inr rfl) j5 zG (sg 2 2) rfl rfl rfl hM (by decide +kernel) ?_;intro w2 hg hM2;replace hM:=hM2;clear hM2;replace hE:=hE.row hg (xtw11 _);clear hg)
  |(refine jP (r:=w.heap.size) (l:=[(⟨#[38,38]⟩,sg 2 2)]) (s:=⟨#[124,124]⟩) rfl _ _ _ (.inr rfl) j5 zG (sg 2 2) rfl rfl rfl hM (by decide +kernel) ?_;intro w2 hg hM2;replace hM:=hM2;clear hM2;replace hE:=hE.row hg (xtw11 _);clear hg))
 have hlt2:=hM.lt;have hB:=heap_alloc_new w2 (.cells #[.string ⟨#[43]⟩,.string ⟨#[45]⟩,.string ⟨#[42]⟩,.string ⟨#[47]⟩] 9)
 replace hM:=hM.ext ((Ext.refl w2).alloc (.cells #[.string ⟨#[43]⟩,.string ⟨#[45]⟩,.string ⟨#[42]⟩,.string ⟨#[47]⟩] 9))
 replace hE:=hE.alloc (.cells #[.string ⟨#[43]⟩,.string ⟨#[45]⟩,.string ⟨#[42]⟩,.string ⟨#[47]⟩] 9)
 go_loopw [20] (fun iv wr=>∃k:Nat,k<=4/\iv=.int .i64 k/\Ext w wr/\wr.heap[w2.heap.size]?=some (.cells #[.string ⟨#[43]⟩,.string ⟨#[45]⟩,.string ⟨#[42]⟩,.string ⟨#[47]⟩] 9 (0,0))/\MapAt wr w.heap.size (jlw k)) (fun iv _=>4-(intOf iv).toNat)
 case atStart=>exact⟨0,by omega,rfl,hE,hB,hM⟩
 case round =>
  clear hM hE hB;obtain⟨k,hk,rfl,hE,hB,hM⟩:=hrel;by_cases hlt:k<4
  ·have hk4:k=0∨k=1∨k=2∨k=3:=by omega
   clear hk hlt;rcases hk4 with rfl|rfl|rfl|rfl
   ·have cS:wr.cell? ⟨w2.heap.size,0,none⟩=some (.string ⟨#[43]⟩):=by simp[World.cell?,hB]
    go_wp2_with (refine jP (r:=w.heap.size) (l:=jlw 0) (s:=⟨#[43]⟩) rfl _ _ _ (.inl rfl) j5 zG (sg 1 1) rfl rfl rfl hM (by decide +kernel) ?_;intro w3 hg hM2;have hB2:=(hg.block _ (xtw27.1 hB).1 (by simp;omega)).trans hB;have hE2:=hE.row hg (xtw11 _);clear hg)
    go_roundw
    case rel=>exact⟨1,by omega,rfl,hE2,hB2,hM2⟩
    case measure=>simp[intOf]
   ·have cS:wr.cell? ⟨w2.heap.size,1,none⟩=some (.string ⟨#[45]⟩):=by simp[World.cell?,hB]
    go_wp2_with (refine jP (r:=w.heap.size) (l:=jlw 1) (s:=⟨#[45]⟩) rfl _ _ _ (.inl rfl) j5 zG (sg 1 1) rfl rfl rfl hM (by decide +kernel) ?_;intro w3 hg hM2;have hB2:=(hg.block _ (xtw27.1 hB).1 (by simp;omega)).trans hB;have hE2:=hE.row hg (xtw11 _);clear hg)
    go_roundw
    case rel=>exact⟨2,by omega,rfl,hE2,hB2,hM2⟩
    case measure=>simp[intOf]
   ·have cS:wr.cell? ⟨w2.heap.size,2,none⟩=some (.string ⟨#[42]⟩):=by simp[World.cell?,hB]
    go_wp2_with (refine jP (r:=w.heap.size) (l:=jlw 2) (s:=⟨#[42]⟩) rfl _ _ _ (.inl rfl) j5 zG (sg 1 1) rfl rfl rfl hM (by decide +kernel) ?_;intro w3 hg hM2;have hB2:=(hg.block _ (xtw27.1 hB).1 (by simp;omega)).trans hB;have hE2:=hE.row hg (xtw11 _);clear hg)
    go_roundw
    case rel=>exact⟨3,by omega,rfl,hE2,hB2,hM2⟩
    case measure=>simp[intOf]
   ·have cS:wr.cell? ⟨w2.heap.size,3,none⟩=some (.string ⟨#[47]⟩):=by simp[World.cell?,hB]
    go_wp2_with (refine jP (r:=w.heap.size) (l:=jlw 3) (s:=⟨#[47]⟩) rfl _ _ _ (.inl rfl) j5 zG (sg 1 1) rfl rfl rfl hM (by decide +kernel) ?_;intro w3 hg hM2;have hB2:=(hg.block _ (xtw27.1 hB).1 (by simp;omega)).trans hB;have hE2:=hE.row hg (xtw11 _);clear hg)
    go_roundw
    case rel=>exact⟨4,by omega,rfl,hE2,hB2,hM2⟩
    case measure=>simp[intOf]
  ·obtain rfl:k=4:=by omega
   clear hk hlt hB
   obtain⟨wo,rfl⟩:∃wo:World,wo=wr:=⟨_,rfl⟩
   go_wp2
   simp only[Int.cast_ofNat_Int];have hlt3:=hM.lt;have hB:=heap_alloc_new wo (.cells #[.string ⟨#[60]⟩,.string ⟨#[60,61]⟩,.string ⟨#[62]⟩,.string ⟨#[62,61]⟩,.string ⟨#[61,61]⟩,.string ⟨#[33,61]⟩] 9)
   replace hM:=hM.ext ((Ext.refl wo).alloc (.cells #[.string ⟨#[60]⟩,.string ⟨#[60,61]⟩,.string ⟨#[62]⟩,.string ⟨#[62,61]⟩,.string ⟨#[61,61]⟩,.string ⟨#[33,61]⟩] 9))
   replace hE:=hE.alloc (.cells #[.string ⟨#[60]⟩,.string ⟨#[60,61]⟩,.string ⟨#[62]⟩,.string ⟨#[62,61]⟩,.string ⟨#[61,61]⟩,.string ⟨#[33,61]⟩] 9)
   have hM0:MapAt (wo.alloc (.cells #[.string ⟨#[60]⟩,.string ⟨#[60,61]⟩,.string ⟨#[62]⟩,.string ⟨#[62,61]⟩,.string ⟨#[61,61]⟩,.string ⟨#[33,61]⟩] 9)) w.heap.size (jcH 0):=hM;clear hM
   go_loopw [30] (fun iv wr=>∃k:Nat,k<=6/\iv=.int .i64 k/\Ext w wr/\wr.heap[wo.heap.size]?=some (.cells #[.string ⟨#[60]⟩,.string ⟨#[60,61]⟩,.string ⟨#[62]⟩,.string ⟨#[62,61]⟩,.string ⟨#[61,61]⟩,.string ⟨#[33,61]⟩] 9 (0,0))/\MapAt wr w.heap.size (jcH k)) (fun iv _=>6-(intOf iv).toNat)
   case atStart=>exact⟨0,by omega,rfl,hE,hB,hM0⟩
   case round =>
    clear hM0 hE hB;obtain⟨k,hk,rfl,hE,hB,hM⟩:=hrel;by_cases hlt:k<6
    ·have hk6:k=0∨k=1∨k=2∨k=3∨k=4∨k=5:=by omega
     clear hk hlt;rcases hk6 with rfl|rfl|rfl|rfl|rfl|rfl
     ·have cS:wr.cell? ⟨wo.heap.size,0,none⟩=some (.string ⟨#[60]⟩):=by simp[World.cell?,hB]
      go_wp2_with (refine jP (r:=w.heap.size) (l:=jcH 0) (s:=⟨#[60]⟩) rfl _ _ _ (.inl rfl) j5 zG (sg 1 2) rfl rfl rfl hM (by decide +kernel) ?_;intro w3 hg hM2;have hB2:=(hg.block _ (xtw27.1 hB).1 (by simp;omega)).trans hB;have hE2:=hE.row hg (xtw11 _);clear hg)
      go_roundw
      case rel=>exact⟨1,by omega,rfl,hE2,hB2,hM2⟩
      case measure=>simp[intOf]
     ·have cS:wr.cell? ⟨wo.heap.size,1,none⟩=some (.string ⟨#[60,61]⟩):=by simp[World.cell?,hB]
      go_wp2_with (refine jP (r:=w.heap.size) (l:=jcH 1) (s:=⟨#[60,61]⟩) rfl _ _ _ (.inl rfl) j5 zG (sg 1 2) rfl rfl rfl hM (by decide +kernel) ?_;intro w3 hg hM2;have hB2:=(hg.block _ (xtw27.1 hB).1 (by simp;omega)).trans hB;have hE2:=hE.row hg (xtw11 _);clear hg)
      go_roundw
      case rel=>exact⟨2,by omega,rfl,hE2,hB2,hM2⟩
      case measure=>simp[intOf]
     ·have cS:wr.cell? ⟨wo.heap.size,2,none⟩=some (.string ⟨#[62]⟩):=by simp[World.cell?,hB]
      go_wp2_with (refine jP (r:=w.heap.size) (l:=jcH 2) (s:=⟨#[62]⟩) rfl _ _ _ (.inl rfl) j5 zG (sg 1 2) rfl rfl rfl hM (by decide +kernel) ?_;intro w3 hg hM2;have hB2:=(hg.block _ (xtw27.1 hB).1 (by simp;omega)).trans hB;have hE2:=hE.row hg (xtw11 _);clear hg)
      go_roundw
      case rel=>exact⟨3,by omega,rfl,hE2,hB2,hM2⟩
      case measure=>simp[intOf]
     ·have cS:wr.cell? ⟨wo.heap.size,3,none⟩=some (.string ⟨#[62,61]⟩):=by simp[World.cell?,hB]
      go_wp2_with (refine jP (r:=w.heap.size) (l:=jcH 3) (s:=⟨#[62,61]⟩) rfl _ _ _ (.inl rfl) j5 zG (sg 1 2) rfl rfl rfl hM (by decide +kernel) ?_;intro w3 hg hM2;have hB2:=(hg.block _ (xtw27.1 hB).1 (by simp;omega)).trans hB;have hE2:=hE.row hg (xtw11 _);clear hg)
      go_roundw
      case rel=>exact⟨4,by omega,rfl,hE2,hB2,hM2⟩
      case measure=>simp[intOf]
     ·have cS:wr.cell? ⟨wo.heap.size,4,none⟩=some (.string ⟨#[61,61]⟩):=by simp[World.cell?,hB]
      go_wp2_with (refine jP (r:=w.heap.size) (l:=jcH 4) (s:=⟨#[61,61]⟩) rfl _ _ _ (.inl rfl) j5 zG (sg 1 2) rfl rfl rfl hM (by decide +kernel) ?_;intro w3 hg hM2;have hB2:=(hg.block _ (xtw27.1 hB).1 (by simp;omega)).trans hB;have hE2:=hE.row hg (xtw11 _);clear hg)
      go_roundw
      case rel=>exact⟨5,by omega,rfl,hE2,hB2,hM2⟩
      case measure=>simp[intOf]
     ·have cS:wr.cell? ⟨wo.heap.size,5,none⟩=some (.string ⟨#[33,61]⟩):=by simp[World.cell?,hB]
      go_wp2_with (refine jP (r:=w.heap.size) (l:=jcH 5) (s:=⟨#[33,61]⟩) rfl _ _ _ (.inl rfl) j5 zG (sg 1 2) rfl rfl rfl hM (by decide +kernel) ?_;intro w3 hg hM2;have hB2:=(hg.block _ (xtw27.1 hB).1 (by simp;omega)).trans hB;have hE2:=hE.row hg (xtw11 _);clear hg)
      go_roundw
      case rel=>exact⟨6,by omega,rfl,hE2,hB2,hM2⟩
      case measure=>simp[intOf]
    ·obtain rfl:k=6:=by omega
     go_wp2
     go_ret
     exact⟨_,rfl,hE,_,rfl,hM⟩
theorem gV(b:Bool)(w:World):Calls Tryz.prog 139 #[.bool b] w (Ret w (jqV (jo0 b))):=by
 cases b
 ·exact jlb w
 ·exact jnf w
def jno(b:Bool):List (ByteArray×Int×Int) :=
 if b then [(⟨#[38,38]⟩,2,2),(⟨#[124,124]⟩,2,2),(⟨#[43]⟩,1,1),(⟨#[45]⟩,1,1),(⟨#[42]⟩,1,1),(⟨#[47]⟩,1,1),(⟨#[60]⟩,1,2),(⟨#[60,61]⟩,1,2),(⟨#[62]⟩,1,2),(⟨#[62,61]⟩,1,2),(⟨#[61,61]⟩,1,2),(⟨#[33,61]⟩,1,2)]
 else [(⟨#[45]⟩,1,1),(⟨#[33]⟩,2,2)]
def pO(b:Bool)(s:ByteArray):Int×Int:=(((jno b).find? (fun p=>s==p.1)).map (·.2)).getD (0,0)
theorem jj1(b:Bool):jo0 b=(jno b).map (fun p=>(p.1,sg p.2.1 p.2.2)):=by cases b <;> rfl
theorem jdt(b:Bool)(s:ByteArray):(tJ (jo0 b) s).getD (sg 0 0)=sg (pO b s).1 (pO b s).2:=by
 rw[jj1];unfold pO tJ;generalize jno b=l
 induction l with
 |nil=>rfl
 |cons p l ih =>
  by_cases h:s==p.1
  ·simp[h]
  ·simp only[xtw22,List.find?_cons,h];exact ih
mutual
def xO:Nd->Int
 |.mk k _ s kids =>
  if k=13 then 2 else if k=12∨k=14∨k=15 then 1
  else if k=17∨k=18 then(if wJ (pO (k==18) s).1 kids then 0 else(pO (k==18) s).2)
  else if k=16 then(if wJ 1 kids then 0 else 1) else 0
def wJ(t:Int):List Nd->Bool
 |[]=>false
 |x::xs=>(xO x != t)||wJ t xs
end
theorem jbw(t:Int)(l:List Nd):wJ t l=l.any (fun x=>xO x != t):=by
 induction l with
 |nil=>simp[wJ]
 |cons x xs ih=>simp[wJ,ih]
def TypeOfC(t:Nd):Prop:=∀v w,t.At w.cell? v->Calls Tryz.prog 106 #[v] w (oO w (.int .i64 (xO t)))
theorem TypeOfC.use{t:Nd}(h:TypeOfC t){v:Value}{w:World}(ht:t.At w.cell? v):Calls Tryz.prog 106 #[v] w (oO w (.int .i64 (xO t))):=h v w ht
theorem jn3(w:World)(a b c d:Value)(T:TypeId):(w.alloc (.cells #[a,b,c,d] T)).heap[w.heap.size]?=some (.cells #[a,b,c,d] T (0,0)):=heap_alloc_new w _
theorem jlQ(x:Nd)(ih:TypeOfC x)(v:Value)(p:Addr)(t:Int)(w:World)(hv:x.At w.cell? v)(hc:w.cell? p=some (.int .i64 t)) :
  Calls Tryz.prog 140 #[v,.pointer (some p)] w (oO w (.bool (xO x != t))):=by
 have IH:Hid (TypeOfC x):=ih;have hA:=hv;obtain⟨kv,rfl,-⟩:=hv.parts;have hne:p.block<w.heap.size:=World.block_lt_of_cell? w p hc;have hA1:Hid (x.At (w.alloc (.cells #[.int .i64 x.k,.int .i64 x.n,.string x.s,kv] 65)).cell? (.agg #[.int .i64 x.k,.int .i64 x.n,.string x.s,kv])):=Nd.At.mono (((Ext.refl w).alloc _).sub) _ _ hA;obtain⟨c0,c1,c2,c3,-⟩:=sR (jn3 w (.int .i64 x.k) (.int .i64 x.n) (.string x.s) kv 65);have hcp:=((Ext.refl w).alloc (.cells #[.int .i64 x.k,.int .i64 x.n,.string x.s,kv] 65)).c hc
 obtain⟨ty,hty⟩:∃ty,ty=xO x:=⟨_,rfl⟩
 have HT:Hid (ty=xO x):=hty;clear ih hA hty hc hv
 go_enter Tryz.func140,Tryz.ntmps140
 go_wp2_with fail
 refine cQ (fun w'=>w'.cell? ⟨w.heap.size,0,none⟩=some (.int .i64 x.k)/\w'.cell? ⟨w.heap.size,1,none⟩=some (.int .i64 x.n)/\w'.cell? ⟨w.heap.size,2,none⟩=some (.string x.s)/\w'.cell? ⟨w.heap.size,3,none⟩=some kv/\w'.cell? p=some (.int .i64 t)) [(0,0),(2,0),(1,1),(3,3),(4,3)] (by kernel_rfl) (by kernel_rfl) ?_ (fun hS=>?_)
 ·first|go_keep|exact⟨hx2.c c0,hx2.c c1,hx2.c c2,hx2.c c3,hx2.c hcp⟩
 refine dX rfl hS (by rfl) ?_;apply Exists.intro;refine⟨fun w0 hS0=>?_,?_⟩
 ·(try dsimp only at hS0);go_simp;try with_reducible rfl
 simp only[xtw68,xtw50,xtw57,Act.put,xtw52,xtw45,xtw46];refine dX rfl hS (by rfl) ?_;apply Exists.intro;refine⟨fun w0 hS0=>?_,?_⟩
 ·(try dsimp only at hS0);go_simp;try with_reducible rfl
 simp only[xtw68,xtw50,xtw57,Act.put,xtw52,xtw45,xtw46];refine dY rfl (fun K hK=>?_);rw[xtw3 (by rfl)]
 go_wp2_with (first
  |(go_at_call 106;refine(IH.out.use (Nd.At.mono (((Ext.refl _).drew).sub) _ _ hA1.out)).mono ?_;rintro e w2 ⟨rfl,hx2⟩;rw[<- HT.out]))
 refine iE (by first|go_keep|exact⟨hx2.c c0,hx2.c c1,hx2.c c2,hx2.c c3,hx2.c hcp⟩) (fun hS=>?_);refine nH rfl (by rfl) ?_;apply Exists.intro;refine⟨fun w0=>?_,?_⟩
 ·go_simp;try with_reducible rfl
 simp only[xtw68,xtw50,xtw57,Act.put,xtw52,xtw45,xtw46];refine nH rfl (by rfl) ?_;apply Exists.intro;refine⟨fun w0=>?_,?_⟩
 ·go_simp;try with_reducible rfl
 simp only[xtw68,xtw50,xtw57,Act.put,xtw52,xtw45,xtw46];refine jfe ?_
 go_wp2
 go_ret
 exact⟨by rw[<- HT.out];rfl,(((Ext.refl w).alloc _).drew).trans hx2⟩
theorem joL(l:List Nd)(sv:Value)(t:Int)(w:World)(hl:NdsAt w.cell? sv l)(ih:∀x∈l,TypeOfC x) :
  Calls Tryz.prog 107 #[sv,.int .i64 t] w (oO w (.bool (!wJ t l))):=by
 have x0:Ext w (w.alloc (.cells #[.int .i64 t] 148)):=(Ext.refl w).alloc _;have hc:(w.alloc (.cells #[.int .i64 t] 148)).cell? ⟨w.heap.size,0,none⟩=some (.int .i64 t):=jfH w [.int .i64 t] _ 0 _ rfl
 have hasks:Asks (w.alloc (.cells #[.int .i64 t] 148)) 140 #[.pointer (some ⟨w.heap.size,0,none⟩)] l (fun x=>xO x != t) :=
  ⟨fun _ _=>rfl,fun x hx v w' hx' hA=>jlQ x (ih x hx) v ⟨w.heap.size,0,none⟩ t w' hA (hx'.c hc)⟩
 have hcall:=Lib.hid (gD l sv _ _ _ _ (hl.mono x0.sub) hasks);rw[<- jbw] at hcall
 obtain⟨q,hq⟩:∃q,q=wJ t l:=⟨_,rfl⟩
 rw[<- hq] at hcall ⊢;clear hq hasks hc ih hl
 go_enter Tryz.func107,Tryz.ntmps107
 go_wp2_with (go_at_call 63;refine hcall.out.mono ?_;rintro e w2 ⟨rfl,hx2⟩)
 go_ret
 exact⟨rfl,x0.trans hx2⟩
theorem jhK(w:World):(zeroValue 172).run Tryz.prog w=.ok (sg 0 0) w:=by kernel_rfl
theorem js3(w:World)(a b:Value)(T:TypeId):(w.alloc (.cells #[a,b] T)).heap[w.heap.size]?=some (.cells #[a,b] T (0,0)):=heap_alloc_new w _
theorem oX{w:World}{R:Nat}{a b:Value}{T:TypeId}(h:w.heap[R]?=some (.cells #[a,b] T (0,0))) :
  w.cell? ⟨R,0,none⟩=some a/\w.cell? ⟨R,1,none⟩=some b/\w.frozen? ⟨R,0,none⟩=false/\w.frozen? ⟨R,1,none⟩=false:=by
 simp[World.cell?,World.frozen?,h]
theorem joK{l:List Nd}{sv:Value}{w wk:World}(hl:NdsAt w.cell? sv l)(ih:∀x∈l,TypeOfC x)(t:Int){q:Bool}(hq:q=wJ t l)(hE:Ext w wk) :
  Calls Tryz.prog 107 #[sv,.int .i64 t] wk (oO wk (.bool (!q))):=by
 rw[hq];exact joL l sv t wk (hl.mono hE.sub) ih
theorem jhB(k n:Int)(s:ByteArray)(l:List Nd)(hk:k=12∨k=13∨k=14∨k=15):TypeOfC (.mk k n s l):=by
 intro v w ht;obtain⟨kv,rfl,-⟩:=ht.parts;clear ht;rcases hk with rfl|rfl|rfl|rfl
 all_goals
  go_enter Tryz.func106,Tryz.ntmps106
  go_wp2
  go_ret
  exact⟨rfl,((Ext.refl w).alloc _).alloc _⟩
theorem jfj(k n:Int)(s:ByteArray)(l:List Nd)(hk:k≠12/\k≠13/\k≠14/\k≠15/\k≠16/\k≠17/\k≠18):TypeOfC (.mk k n s l):=by
 intro v w ht;obtain⟨kv,rfl,-⟩:=ht.parts;clear ht;simp only[Nd.k];obtain⟨h1,h2,h3,h4,h5,h6,h7⟩:=hk
 have e:xO (.mk k n s l)=0:=by simp[xO,h1,h2,h3,h4,h5,h6,h7]
 rw[e]
 go_enter Tryz.func106,Tryz.ntmps106
 go_wp2
 go_ret
 exact⟨rfl,((Ext.refl w).alloc _).alloc _⟩
theorem jhA(n:Int)(s:ByteArray)(l:List Nd)(ih:∀x∈l,TypeOfC x):TypeOfC (.mk 16 n s l):=by
 intro v w ht;obtain⟨kv,rfl,-,-,-,hl⟩:=ht.parts;simp only[Nd.k,Nd.n,Nd.s,Nd.kids] at *
 obtain⟨q,hq⟩:∃q,q=wJ 1 l:=⟨_,rfl⟩
 have e:xO (.mk 16 n s l)=if q then 0 else 1:=by simp[xO,hq]
 have hcall:=fun(wk:World) (hE:Ext w wk)=>joK hl ih 1 hq hE
 have HC:=Lib.hid hcall;rw[e];clear e hq hl ht ih hcall;have hE:=((Ext.refl w).alloc (.cells #[.int .i64 16,.int .i64 n,.string s,kv] 65)).alloc (.cells #[.int .i64 1,.int .i64 1] 172);have hV:=js3 (w.alloc (.cells #[.int .i64 16,.int .i64 n,.string s,kv] 65)) (.int .i64 1) (.int .i64 1) 172;simp only[World.size_alloc] at hV;cases q
 all_goals
  go_enter Tryz.func106,Tryz.ntmps106
  go_wp2_with (go_at_call 107;refine(HC.out _ hE).mono ?_;rintro e w2 ⟨rfl,hx2⟩;obtain⟨cV0,cV1,fV0,fV1⟩:=oX (Ext.block hx2 hV))
  go_ret
  exact⟨rfl,hE.trans hx2⟩
theorem jhC(n:Int)(s:ByteArray)(l:List Nd)(ih:∀x∈l,TypeOfC x):TypeOfC (.mk 17 n s l):=by
 intro v w ht;obtain⟨kv,rfl,-,-,-,hl⟩:=ht.parts;simp only[Nd.k,Nd.n,Nd.s,Nd.kids] at *
 obtain⟨o1,ho1⟩:∃o1,o1=(pO false s).1:=⟨_,rfl⟩
 obtain⟨o2,ho2⟩:∃o2,o2=(pO false s).2:=⟨_,rfl⟩
 obtain⟨q,hq⟩:∃q,q=wJ o1 l:=⟨_,rfl⟩
 have e:xO (.mk 17 n s l)=if q then 0 else o2:=by
  simp[xO,hq,ho1,ho2]
 have hlk:(tJ (jo0 false) s).getD (sg 0 0)=.agg #[.int .i64 o1,.int .i64 o2]:=by rw[jdt,ho1,ho2];rfl
 have HL:=Lib.hid hlk
 have hcall:=fun(wk:World) (hE:Ext w wk)=>joK hl ih o1 hq hE
 have HC:=Lib.hid hcall;rw[e];clear e hq hl ht ih hcall ho1 ho2 hlk;have hE:=((Ext.refl w).alloc (.cells #[.int .i64 17,.int .i64 n,.string s,kv] 65)).alloc (.cells #[.int .i64 1,.int .i64 1] 172);have hB:=Ext.block ((Ext.refl _).alloc (.cells #[.int .i64 1,.int .i64 1] 172)) (jn3 w (.int .i64 17) (.int .i64 n) (.string s) kv 65);have hV:=js3 (w.alloc (.cells #[.int .i64 17,.int .i64 n,.string s,kv] 65)) (.int .i64 1) (.int .i64 1) 172;simp only[World.size_alloc] at hV;cases q
 all_goals
  obtain⟨c0,c1,c2,c3,-⟩:=sR hB
  go_enter Tryz.func106,Tryz.ntmps106
  go_wp2_with fail
  refine cQ (fun w'=>w'.cell? ⟨w.heap.size,0,none⟩=some (.int .i64 17)/\w'.cell? ⟨w.heap.size,2,none⟩=some (.string s)) [(0,3),(1,0),(2,3),(4,3),(5,0),(3,1),(6,1),(7,2)] (by kernel_rfl) (by kernel_rfl) ?_ (fun hS=>?_)
  ·first|go_keep|exact⟨hx2.c c0,hx2.c c2⟩
  refine nH rfl (by rfl) ?_;apply Exists.intro;refine⟨fun w0=>?_,?_⟩
  ·go_simp;try with_reducible rfl
  simp only[xtw68,xtw50,xtw57,Act.put,xtw52,xtw45,xtw46];refine dX rfl hS (by rfl) ?_;apply Exists.intro;refine⟨fun w0 hS0=>?_,?_⟩
  ·(try dsimp only at hS0);go_simp;try with_reducible rfl
  simp only[xtw68,xtw50,xtw57,Act.put,xtw52,xtw45,xtw46];refine nH rfl (by rfl) ?_;apply Exists.intro;refine⟨fun w0=>?_,?_⟩
  ·go_simp;try with_reducible rfl
  simp only[xtw68,xtw50,xtw57,Act.put,xtw52,xtw45,xtw46];refine nH rfl (by rfl) ?_;apply Exists.intro;refine⟨fun w0=>?_,?_⟩
  ·go_simp;try with_reducible rfl
  simp only[xtw68,xtw50,xtw57,Act.put,xtw52,xtw45,xtw46];refine dX rfl hS (by rfl) ?_;apply Exists.intro;refine⟨fun w0 hS0=>?_,?_⟩
  ·(try dsimp only at hS0);go_simp;try with_reducible rfl
  simp only[xtw68,xtw50,xtw57,Act.put,xtw52,xtw45,xtw46];refine dY rfl (fun K hK=>?_);rw[xtw3 (by rfl)]
  go_wp2_with (first
   |(go_at_call 139;refine(gV _ _).mono ?_;rintro e w2 ⟨v,rfl,hx2,r,rfl,hM⟩;have hV2:=Ext.block hx2 hV;obtain⟨cV0,cV1,fV0,fV1⟩:=oX hV2))
  refine iE (by first|go_keep|exact⟨hx2.c c0,hx2.c c2⟩) (fun hS=>?_);refine dY rfl (fun K hK=>?_);rw[xtw3 (by rfl)];refine oN (r:=r) _ _ (by rfl) j5 zG (jhK _) (by rfl) (by rfl) hM ?_;rw[HL.out];refine hK _ _ ?_;refine iE (by first|go_keep|exact⟨hx2.c c0,hx2.c c2⟩) (fun hS=>?_);refine jdY rfl (fun K hK=>?_);rw[xtw3 (by rfl)]
  go_wp2_with (first
   |(go_at_call 139;refine(gV _ _).mono ?_;rintro e w2 ⟨v,rfl,hx2,r,rfl,hM⟩;have hV2:=Ext.block hx2 hV;obtain⟨cV0,cV1,fV0,fV1⟩:=oX hV2))
  refine jfe ?_;have hE3:=((hE.drew.trans hx2).row (x9 w2 (w.heap.size+1) 0 (.int .i64 o1)) (by omega)).row (x9 _ (w.heap.size+1) 1 (.int .i64 o2)) (by omega);have hV3:=mQ (mQ hV2 0 (.int .i64 o1)) 1 (.int .i64 o2);have hKids:=hx2.c c3;have hKids3:=(x9 (w2.setCell ⟨w.heap.size+1,0,none⟩ (.int .i64 o1)) (w.heap.size+1) 1 (.int .i64 o2)).cell ((x9 w2 (w.heap.size+1) 0 (.int .i64 o1)).cell hKids (by simp)) (by simp);obtain⟨cW0,cW1,fW0,fW1⟩:=oX hV3;clear hS hV hV2 hx2 hM hKids cV0 cV1 fV0 fV1 c0 c1 c2 c3 hB hE
  go_wp2_with (go_at_call 107;refine(HC.out _ hE3).mono ?_;rintro e w4 ⟨rfl,hx4⟩;have cX1:=hx4.c cW1)
  go_ret
  exact⟨rfl,hE3.trans hx4⟩
theorem jhD(n:Int)(s:ByteArray)(l:List Nd)(ih:∀x∈l,TypeOfC x):TypeOfC (.mk 18 n s l):=by
 intro v w ht;obtain⟨kv,rfl,-,-,-,hl⟩:=ht.parts;simp only[Nd.k,Nd.n,Nd.s,Nd.kids] at *
 obtain⟨o1,ho1⟩:∃o1,o1=(pO true s).1:=⟨_,rfl⟩
 obtain⟨o2,ho2⟩:∃o2,o2=(pO true s).2:=⟨_,rfl⟩
 obtain⟨q,hq⟩:∃q,q=wJ o1 l:=⟨_,rfl⟩
 have e:xO (.mk 18 n s l)=if q then 0 else o2:=by
  simp[xO,hq,ho1,ho2]
 have hlk:(tJ (jo0 true) s).getD (sg 0 0)=.agg #[.int .i64 o1,.int .i64 o2]:=by rw[jdt,ho1,ho2];rfl
 have HL:=Lib.hid hlk
 have hcall:=fun(wk:World) (hE:Ext w wk)=>joK hl ih o1 hq hE
 have HC:=Lib.hid hcall;rw[e];clear e hq hl ht ih hcall ho1 ho2 hlk;have hE:=((Ext.refl w).alloc (.cells #[.int .i64 18,.int .i64 n,.string s,kv] 65)).alloc (.cells #[.int .i64 1,.int .i64 1] 172);have hB:=Ext.block ((Ext.refl _).alloc (.cells #[.int .i64 1,.int .i64 1] 172)) (jn3 w (.int .i64 18) (.int .i64 n) (.string s) kv 65);have hV:=js3 (w.alloc (.cells #[.int .i64 18,.int .i64 n,.string s,kv] 65)) (.int .i64 1) (.int .i64 1) 172;simp only[World.size_alloc] at hV;cases q
 all_goals
  obtain⟨c0,c1,c2,c3,-⟩:=sR hB
  go_enter Tryz.func106,Tryz.ntmps106
  go_wp2_with fail
  refine cQ (fun w'=>w'.cell? ⟨w.heap.size,0,none⟩=some (.int .i64 18)/\w'.cell? ⟨w.heap.size,2,none⟩=some (.string s)) [(0,3),(1,0),(2,3),(4,3),(5,0),(3,1),(6,1),(7,2)] (by kernel_rfl) (by kernel_rfl) ?_ (fun hS=>?_)
  ·first|go_keep|exact⟨hx2.c c0,hx2.c c2⟩
  refine nH rfl (by rfl) ?_;apply Exists.intro;refine⟨fun w0=>?_,?_⟩
  ·go_simp;try with_reducible rfl
  simp only[xtw68,xtw50,xtw57,Act.put,xtw52,xtw45,xtw46];refine dX rfl hS (by rfl) ?_;apply Exists.intro;refine⟨fun w0 hS0=>?_,?_⟩
  ·(try dsimp only at hS0);go_simp;try with_reducible rfl
  simp only[xtw68,xtw50,xtw57,Act.put,xtw52,xtw45,xtw46];refine nH rfl (by rfl) ?_;apply Exists.intro;refine⟨fun w0=>?_,?_⟩
  ·go_simp;try with_reducible rfl
  simp only[xtw68,xtw50,xtw57,Act.put,xtw52,xtw45,xtw46];refine nH rfl (by rfl) ?_;apply Exists.intro;refine⟨fun w0=>?_,?_⟩
  ·go_simp;try with_reducible rfl
  simp only[xtw68,xtw50,xtw57,Act.put,xtw52,xtw45,xtw46];refine dX rfl hS (by rfl) ?_;apply Exists.intro;refine⟨fun w0 hS0=>?_,?_⟩
  ·(try dsimp only at hS0);go_simp;try with_reducible rfl
  simp only[xtw68,xtw50,xtw57,Act.put,xtw52,xtw45,xtw46];refine dY rfl (fun K hK=>?_);rw[xtw3 (by rfl)]
  go_wp2_with (first
   |(go_at_call 139;refine(gV _ _).mono ?_;rintro e w2 ⟨v,rfl,hx2,r,rfl,hM⟩;have hV2:=Ext.block hx2 hV;obtain⟨cV0,cV1,fV0,fV1⟩:=oX hV2))
  refine iE (by first|go_keep|exact⟨hx2.c c0,hx2.c c2⟩) (fun hS=>?_);refine dY rfl (fun K hK=>?_);rw[xtw3 (by rfl)];refine oN (r:=r) _ _ (by rfl) j5 zG (jhK _) (by rfl) (by rfl) hM ?_;rw[HL.out];refine hK _ _ ?_;refine iE (by first|go_keep|exact⟨hx2.c c0,hx2.c c2⟩) (fun hS=>?_);refine jdY rfl (fun K hK=>?_);rw[xtw3 (by rfl)]
  go_wp2_with (first
   |(go_at_call 139;refine(gV _ _).mono ?_;rintro e w2 ⟨v,rfl,hx2,r,rfl,hM⟩;have hV2:=Ext.block hx2 hV;obtain⟨cV0,cV1,fV0,fV1⟩:=oX hV2))
  refine jfe ?_;have hE3:=((hE.drew.trans hx2).row (x9 w2 (w.heap.size+1) 0 (.int .i64 o1)) (by omega)).row (x9 _ (w.heap.size+1) 1 (.int .i64 o2)) (by omega);have hV3:=mQ (mQ hV2 0 (.int .i64 o1)) 1 (.int .i64 o2);have hKids:=hx2.c c3;have hKids3:=(x9 (w2.setCell ⟨w.heap.size+1,0,none⟩ (.int .i64 o1)) (w.heap.size+1) 1 (.int .i64 o2)).cell ((x9 w2 (w.heap.size+1) 0 (.int .i64 o1)).cell hKids (by simp)) (by simp);obtain⟨cW0,cW1,fW0,fW1⟩:=oX hV3;clear hS hV hV2 hx2 hM hKids cV0 cV1 fV0 fV1 c0 c1 c2 c3 hB hE
  go_wp2_with (go_at_call 107;refine(HC.out _ hE3).mono ?_;rintro e w4 ⟨rfl,hx4⟩;have cX1:=hx4.c cW1)
  go_ret
  exact⟨rfl,hE3.trans hx4⟩
mutual
theorem jcf:∀t:Nd,TypeOfC t
 |.mk k n s l=>by
  have ih:=pT l;by_cases h1:k=12∨k=13∨k=14∨k=15
  ·exact jhB k n s l h1
  ·by_cases h16:k=16
   ·subst h16;exact jhA n s l ih
   ·by_cases h17:k=17
    ·subst h17;exact jhC n s l ih
    ·by_cases h18:k=18
     ·subst h18;exact jhD n s l ih
     ·exact jfj k n s l (by omega)
theorem pT:∀l:List Nd,∀x∈l,TypeOfC x
 |[]=>fun _ h=>by cases h
 |t::ts =>
  have h1:=jcf t;have h2:=pT ts
  fun x hx=>(xtw13.1 hx).elim (fun e=>e ▸ h1) (h2 x)
end
def aA(l:List ByteArray)(s:ByteArray):Int:=match l.findIdx? (fun x=>x==s) with|some i=>(i:Int)|none => -1
theorem sG{l:List ByteArray}{s:ByteArray}{k:Nat}(hk:k<l.length)(h:∀j (hj:j<l.length),j<k->(l[j]==s)=false)(hq:(l[k]==s)=true):aA l s=(k:Int):=by
 have:l.findIdx? (fun x=>x==s)=some k:=by
  rw[xtw89];exact⟨hk,hq,fun j hj=>by simp[h j (by omega) hj]⟩
 unfold aA;rw[this]
theorem mI{l:List ByteArray}{s:ByteArray}(h:∀j (hj:j<l.length),(l[j]==s)=false):aA l s = -1:=by
 have:l.findIdx? (fun x=>x==s)=none:=by
  rw[List.findIdx?_eq_none_iff];intro x hx;obtain⟨j,hj,rfl⟩:=xtw67.1 hx;simp[h j hj]
 unfold aA;rw[this]
theorem jf2(l:List ByteArray)(s:ByteArray) : -1<=aA l s/\aA l s<l.length+1/\aA l s<=l.length:=by
 unfold aA
 cases hf:l.findIdx? (fun x=>x==s) with
 |none=>simp;omega
 |some i =>
  rw[xtw89] at hf;obtain⟨hi,_⟩:=hf
  simp;omega
theorem jbS(v:Value)(l:List ByteArray)(s:ByteArray)(w:World)(hl:StrsAt w.cell? v l) :
  Calls Tryz.prog 103 #[v,.string s] w fun e w'=>e=.returned (.int .i64 (aA l s))/\w=w':=by
 obtain⟨h1,h2,p,b,off,cap,rfl,hc,hp,hn,hh⟩:=hl
 go_enter Tryz.func103,Tryz.ntmps103
 go_wp2
 go_loop [5,8] (fun _ i=>∃k:Nat,k<=l.length/\i=.int .i64 k/\∀j (hj:j<l.length),j<k->(l[j]==s)=false) (fun _ i=>l.length-(intOf i).toNat)
 case atStart=>exact⟨0,by omega,rfl,fun j hj h=>absurd h (by omega)⟩
 case round =>
  obtain⟨k,hk,rfl,hno⟩:=hrel;have HNO:Hid (∀j (hj:j<l.length),j<k->(l[j]==s)=false):=hno;clear hno;by_cases hlt:k<l.length
  ·obtain rfl:p=some ⟨b,off,none⟩:=by
    rcases hp with rfl|hp
    ·simp at hlt
    ·exact hp
   have cx:=hh k hlt
   obtain⟨x,hx⟩:∃x,x=l[k]:=⟨_,rfl⟩
   rw[show l.getD k ByteArray.empty=x from by rw[hx];simp[hlt]] at cx;have HX:Hid (x=l[k]):=hx;clear hx hh hp hn h2
   cases hxs:(s.toList==x.toList) with
   |true =>
    have hxs2:(x==s)=true:=by rw[beq_toListBytes,<- hxs,Bool.beq_comm]
    go_wp2
    go_ret
    have:=sG (s:=s) hlt HNO.out (by rw[<- HX.out];exact hxs2);exact⟨by rw[this];rfl,rfl⟩
   |false =>
    have hxs2:(x==s)=false:=by rw[beq_toListBytes,<- hxs,Bool.beq_comm]
    go_wp2
    go_round
    case rel=>exact⟨k+1,by omega,by go_num,fun j hj h=>by
     by_cases hjk:j=k
     ·subst hjk;rw[<- HX.out];exact hxs2
     ·exact HNO.out j hj (by omega)⟩
    case measure=>simp[intOf];omega
  ·clear hh hp hn h2
   go_wp2
   go_ret
   exact⟨by rw[mI (fun j hj=>HNO.out j hj (by omega))];rfl,rfl⟩
def vR(d v:List ByteArray)(s:ByteArray):Int:=if 0<=aA d s then aA d s else if 0<=aA v s then d.length+aA v s else -1
theorem jdf(dv vv ov:Value)(d v:List ByteArray)(s:ByteArray)(w:World)(hd:StrsAt w.cell? dv d)(hv:StrsAt w.cell? vv v) :
  Calls Tryz.prog 62 #[.agg #[dv,vv,ov],.string s] w (oO w (.int .i64 (vR d v s))):=by
 have x0:Ext w (w.alloc (.cells #[dv,vv,ov] 26)):=(Ext.refl w).alloc _;have c1:=Lib.hid (jbS dv d s _ (hd.mono x0.sub));have c2:=Lib.hid (jbS vv v s _ (hv.mono x0.sub));have e:vR d v s=if 0<=aA d s then aA d s else if 0<=aA v s then d.length+aA v s else -1:=rfl;have l1:=jf2 d s;have l2:=jf2 v s;have d1:=hd.1;have d2:=hv.1;obtain⟨p1,b1,o1,k1,rfl,hk1,-⟩:=hd.2.2;obtain⟨p2,b2,o2,k2,rfl,hk2,-⟩:=hv.2.2
 obtain⟨i,hi⟩:∃i,i=aA d s:=⟨_,rfl⟩
 obtain⟨j,hj⟩:∃j,j=aA v s:=⟨_,rfl⟩
 rw[<- hi] at c1 e l1;rw[<- hj] at c2 e l2;rw[e];clear hi hj hd hv e;by_cases h1:0<=i
 ·rw[xtw3 h1]
  go_enter Tryz.func62,Tryz.ntmps62
  go_wp2_with (go_at_call 103;refine c1.out.mono ?_;rintro e w2 ⟨rfl,rfl⟩)
  go_ret
  exact⟨rfl,x0⟩
 ·rw[xtw2 h1];by_cases h2:0<=j
  ·rw[xtw3 h2]
   go_enter Tryz.func62,Tryz.ntmps62
   go_wp2_with fail
   refine c1.out.mono ?_;rintro e w2 ⟨rfl,rfl⟩
   go_wp2_with fail
   refine c2.out.mono ?_;rintro e w2 ⟨rfl,rfl⟩
   go_wp2
   go_ret
   exact⟨rfl,x0⟩
  ·rw[xtw2 h2]
   go_enter Tryz.func62,Tryz.ntmps62
   go_wp2_with fail
   refine c1.out.mono ?_;rintro e w2 ⟨rfl,rfl⟩
   go_wp2_with fail
   refine c2.out.mono ?_;rintro e w2 ⟨rfl,rfl⟩
   go_wp2
   go_ret
   exact⟨rfl,x0⟩
mutual
def wP:Nd->Bool
 |.mk k _ _ kids=>if k=11 then aH kids else if k=2∨k=3 then jkz kids else !wJ 1 kids
def aH:List Nd->Bool
 |[]=>true
 |x::xs=>wP x&&aH xs
def jkz:List Nd->Bool
 |[]=>false
 |c::rest=>(xO c==2)&&aH rest
end
theorem jhF(l:List Nd):aH l = !l.any (fun x => !wP x):=by
 induction l with
 |nil=>simp[aH]
 |cons x xs ih=>simp[aH,ih]
def WellC(t:Nd):Prop:=∀v w,t.At w.cell? v->Calls Tryz.prog 64 #[v] w (oO w (.bool (wP t)))
theorem WellC.use{t:Nd}(h:WellC t){v:Value}{w:World}(ht:t.At w.cell? v):Calls Tryz.prog 64 #[v] w (oO w (.bool (wP t))):=h v w ht
theorem jlD(x:Nd)(ih:WellC x)(v:Value)(w:World)(hv:x.At w.cell? v) :
  Calls Tryz.prog 105 #[v] w (oO w (.bool (!wP x))):=by
 have x0:=fun o=>(Ext.refl w).alloc o
 have hc:=fun o=>Lib.hid (ih.use (Nd.At.mono (x0 o).sub _ _ hv))
 obtain⟨kv,rfl,-⟩:=hv.parts
 obtain⟨q,hq⟩:∃q,q=wP x:=⟨_,rfl⟩
 rw[<- hq] at hc ⊢;clear hq ih hv
 go_enter Tryz.func105,Tryz.ntmps105
 go_wp2_with (go_at_call 64;refine(hc _).out.mono ?_;rintro e w2 ⟨rfl,hx2⟩)
 go_ret
 exact⟨rfl,(x0 _).trans hx2⟩
theorem jck(n:Int)(s:ByteArray)(l:List Nd)(ih:∀x∈l,WellC x):WellC (.mk 11 n s l):=by
 intro v w ht;obtain⟨kv,rfl,-,-,-,hl⟩:=ht.parts;simp only[Nd.k,Nd.n,Nd.s,Nd.kids] at *
 have e:wP (.mk 11 n s l) = !l.any (fun x => !wP x):=by simp only[wP,jhF];simp
 have x0:Ext w (w.alloc (.cells #[.int .i64 11,.int .i64 n,.string s,kv] 65)):=(Ext.refl w).alloc _
 have hasks:Asks (w.alloc (.cells #[.int .i64 11,.int .i64 n,.string s,kv] 65)) 105 #[] l (fun x => !wP x) :=
  ⟨fun _ _=>rfl,fun x hx v w' hx' hA=>jlD x (ih x hx) v w' hA⟩
 have hcall:=Lib.hid (gD l kv _ _ _ _ (hl.mono x0.sub) hasks);rw[e]
 obtain⟨q,hq⟩:∃q,q=l.any (fun x => !wP x):=⟨_,rfl⟩
 rw[<- hq] at hcall ⊢;clear hq hasks ih hl e ht
 go_enter Tryz.func64,Tryz.ntmps64
 go_wp2_with (go_at_call 63;refine hcall.out.mono ?_;rintro e w2 ⟨rfl,hx2⟩)
 go_ret
 exact⟨rfl,x0.trans hx2⟩
theorem jjg(k n:Int)(s:ByteArray)(l:List Nd)(hk:k≠11/\k≠2/\k≠3):WellC (.mk k n s l):=by
 intro v w ht;obtain⟨kv,rfl,-,-,-,hl⟩:=ht.parts;simp only[Nd.k,Nd.n,Nd.s,Nd.kids] at *;obtain⟨h1,h2,h3⟩:=hk
 have e:wP (.mk k n s l) = !wJ 1 l:=by simp[wP,h1,h2,h3]
 have x0:Ext w (w.alloc (.cells #[.int .i64 k,.int .i64 n,.string s,kv] 65)):=(Ext.refl w).alloc _;have hcall:=Lib.hid (joK hl (pT l) 1 rfl x0);rw[e]
 obtain⟨q,hq⟩:∃q,q=wJ 1 l:=⟨_,rfl⟩
 rw[<- hq] at hcall ⊢
 have b1:(k==11)=false:=by simpa using h1
 have b2:(k==2)=false:=by simpa using h2
 have b3:(k==3)=false:=by simpa using h3
 clear hq hl e ht h1 h2 h3
 go_enter Tryz.func64,Tryz.ntmps64
 go_wp2_with (go_at_call 107;refine hcall.out.mono ?_;rintro e w2 ⟨rfl,hx2⟩)
 go_ret
 exact⟨rfl,x0.trans hx2⟩
theorem joA(k n:Int)(s:ByteArray)(hk:k=2∨k=3):WellC (.mk k n s []):=by
 intro v w ht;obtain⟨kv,rfl,-,-,-,hl⟩:=ht.parts;simp only[Nd.k,Nd.n,Nd.s,Nd.kids] at *;obtain⟨_,p,b,off,cap,rfl,-⟩:=hl
 have e:wP (.mk k n s [])=false:=by rcases hk with rfl|rfl <;> simp[wP,jkz]
 rw[e];clear ht e;rcases hk with rfl|rfl
 all_goals
  go_enter Tryz.func64,Tryz.ntmps64
  go_wp2
  go_ret
  exact⟨rfl,(Ext.refl w).alloc _⟩
theorem jlE(k n:Int)(s:ByteArray)(c:Nd)(l:List Nd)(hk:k=2∨k=3)(ih:∀x∈l,WellC x):WellC (.mk k n s (c::l)):=by
 intro v w ht;obtain⟨kv,rfl,-,-,-,hl⟩:=ht.parts;simp only[Nd.k,Nd.n,Nd.s,Nd.kids] at *
 have e:wP (.mk k n s (c::l))=((xO c==2)&&wP (.mk 11 0 ⟨#[]⟩ l)):=by rcases hk with rfl|rfl <;> simp[wP,jkz]
 obtain⟨hlen,p,b,off,cap,rfl,hcap,hp,hn,hin⟩:=hl
 obtain rfl:p=some ⟨b,off,none⟩:=by
  rcases hp with h|h
  ·cases h
  ·exact h
 have hin2:=hin;unfold Nd.In at hin2;obtain⟨⟨v0,v1,v2,v3,d0,d1,d2,d3,hc⟩,hrest⟩:=hin2;simp only[xtw6] at *;have x0:Ext w (w.alloc (.cells #[.int .i64 k,.int .i64 n,.string s,.slice (some ⟨b,off,none⟩) (l.length+1) cap] 65)):=(Ext.refl w).alloc _
 replace d0:=x0.c d0
 replace d1:=x0.c d1
 replace d2:=x0.c d2
 replace d3:=x0.c d3
 have ht1:=Lib.hid ((jcf c).use (Nd.At.mono x0.sub _ _ hc))
 obtain⟨ty,hty⟩:∃ty,ty=xO c:=⟨_,rfl⟩
 have hB:=Ext.block (Ext.refl _) (jn3 w (.int .i64 k) (.int .i64 n) (.string s) (.slice (some ⟨b,off,none⟩) (l.length+1) cap) 65);rw[e,<- hty];rw[<- hty] at ht1
 obtain⟨q,hq⟩:∃q,q=wP (.mk 11 0 ⟨#[]⟩ l):=⟨_,rfl⟩
 have hw:=fun(w2:World) (hx2:Ext w w2) (kv2:Value) (hkv:NdsAt w.cell? kv2 l)=>(jck 0 ⟨#[]⟩ l ih).use (Nd.At.of_parts (t:=.mk 11 0 ⟨#[]⟩ l) (by simp[Nd.k]) (by simp[Nd.n]) (xtw19 _) (hkv.mono hx2.sub))
 simp only[Nd.k,Nd.n,Nd.s] at hw;rw[<- hq] at hw ⊢;have HW:=Lib.hid hw;clear hq hty e ht ih hw hc hp hn hin
 cases hte:(ty==2) with
 |false =>
  rcases hk with rfl|rfl
  all_goals
   go_enter Tryz.func64,Tryz.ntmps64
   go_wp2_with (go_at_call 106;refine ht1.out.mono ?_;rintro e w2 ⟨rfl,hx2⟩)
   go_ret
   exact⟨rfl,x0.trans hx2⟩
 |true =>
  by_cases h1:cap=1
  ·obtain rfl:l=[]:=xtw15 (by omega)
   have hkv:NdsAt w.cell? (.slice (some ⟨b,off,none⟩) 0 0) []:=⟨by simp,_,b,off,0,rfl,by simp,.inl rfl,by simp,by unfold Nd.In;trivial⟩
   subst h1;simp only[xtw8,xtw41] at *;clear hrest;rcases hk with rfl|rfl
   all_goals
    go_enter Tryz.func64,Tryz.ntmps64
    go_wp2_with (first
     |(go_at_call 106;refine ht1.out.mono ?_;rintro e w2 ⟨rfl,hx2⟩;obtain⟨e0,e1,e2,e3,-⟩:=sR (hx2.block hB))
     |(go_at_call 64;(with_reducible refine(HW.out _ (x0.trans hx2) _ hkv).mono ?_);rintro e w3 ⟨rfl,hx3⟩))
    go_ret
    exact⟨rfl,(x0.trans hx2).trans hx3⟩
  ·have hkv:NdsAt w.cell? (.slice (some ⟨b,off+4,none⟩) l.length (cap-1)) l:=⟨by omega,_,b,off+4,cap-1,rfl,by omega,.inr rfl,by simp,hrest⟩
   clear hrest;rcases hk with rfl|rfl
   all_goals
    go_enter Tryz.func64,Tryz.ntmps64
    go_wp2_with (first
     |(go_at_call 106;refine ht1.out.mono ?_;rintro e w2 ⟨rfl,hx2⟩;obtain⟨e0,e1,e2,e3,-⟩:=sR (hx2.block hB))
     |(go_at_call 64;(with_reducible refine(HW.out _ (x0.trans hx2) _ hkv).mono ?_);rintro e w3 ⟨rfl,hx3⟩))
    go_ret
    exact⟨rfl,(x0.trans hx2).trans hx3⟩
mutual
theorem jhH:∀t:Nd,WellC t
 |.mk k n s l=>by
  have ih:=jhG l;by_cases h11:k=11
  ·subst h11;exact jck n s l ih
  ·by_cases h2:k=2∨k=3
   ·cases l with
    |nil=>exact joA k n s h2
    |cons c rest=>exact jlE k n s c rest h2 (fun x hx=>ih x (xtw25 _ hx))
   ·exact jjg k n s l (by omega)
theorem jhG:∀l:List Nd,∀x∈l,WellC x
 |[]=>fun _ h=>by cases h
 |t::ts =>
  have h1:=jhH t;have h2:=jhG ts
  fun x hx=>(xtw13.1 hx).elim (fun e=>e ▸ h1) (h2 x)
end
def HIn(C:Rd)(b:Nat)(off:Nat)(l:List (Int×Nd)):Prop:=∀i (hi:i<l.length),-9223372036854775808<=l[i].1/\l[i].1<=9223372036854775807 ∧
 ∃v1 v2 v3 v4,C ⟨b,off+i*5,none⟩=some (.int .i64 l[i].1)/\C ⟨b,off+i*5+1,none⟩=some v1/\C ⟨b,off+i*5+2,none⟩=some v2/\C ⟨b,off+i*5+3,none⟩=some v3/\C ⟨b,off+i*5+4,none⟩=some v4/\l[i].2.At C (.agg #[v1,v2,v3,v4])
def jsU(C:Rd)(v:Value)(l:List (Int×Nd)):Prop :=
 l.length<=1000000000/\∃p b off cap,v=.slice p l.length cap/\l.length<=cap/\(l=[]∨p=some ⟨b,off,none⟩)/\(p=none->cap=0)/\HIn C b off l
structure Un where
 d:List ByteArray
 v:List ByteArray
 on:List (Int×Nd)
def jsY(C:Rd)(x:Value)(u:Un):Prop:=∃dv vv ov,x=.agg #[dv,vv,ov]/\StrsAt C dv u.d/\StrsAt C vv u.v/\jsU C ov u.on
mutual
def t6(ix:ByteArray->Int):Nd->Bool
 |.mk k _ s kids=>((k==1||k==14)&&decide (ix s<0))||lT ix kids
def lT(ix:ByteArray->Int):List Nd->Bool
 |[]=>false
 |x::xs=>t6 ix x||lT ix xs
end
theorem jjc(ix:ByteArray->Int)(l:List Nd):lT ix l=l.any (t6 ix):=by
 induction l with
 |nil=>simp[lT]
 |cons x xs ih=>simp[lT,ih]
structure Env(w:World)(U V:Nat)(dv vv ov:Value)(d v:List ByteArray):Prop where
 c0:w.cell? ⟨U,0,none⟩=some dv
 c1:w.cell? ⟨U,1,none⟩=some vv
 c2:w.cell? ⟨U,2,none⟩=some ov
 f:w.cell? ⟨V,0,none⟩=some (.func (.func 61) #[] #[.pointer (some ⟨U,0,none⟩),.pointer (some ⟨V,0,none⟩)])
 d:StrsAt w.cell? dv d
 v:StrsAt w.cell? vv v
theorem Env.ext{w w':World}{U V:Nat}{dv vv ov:Value}{d v:List ByteArray}(h:Env w U V dv vv ov d v)(x:Ext w w'):Env w' U V dv vv ov d v :=
 ⟨x.c h.c0,x.c h.c1,x.c h.c2,x.c h.f,h.d.mono x.sub,h.v.mono x.sub⟩
def jjk(t:Nd):Prop:=∀(x:Value) (w:World) (U V:Nat) (dv vv ov:Value) (d v:List ByteArray),t.At w.cell? x->Env w U V dv vv ov d v →
  Calls Tryz.prog 61 #[x,.pointer (some ⟨U,0,none⟩),.pointer (some ⟨V,0,none⟩)] w (oO w (.bool (t6 (vR d v) t)))
theorem jkN(k n:Int)(s:ByteArray)(l:List Nd)(ih:∀x∈l,jjk x):jjk (.mk k n s l):=by
 intro x w U V dv vv ov d v ht E;obtain⟨kv,rfl,-,-,-,hl⟩:=ht.parts;simp only[Nd.k,Nd.n,Nd.s,Nd.kids] at *
 have e:t6 (vR d v) (.mk k n s l)=(((k==1||k==14)&&decide (vR d v s<0))||l.any (t6 (vR d v))):=by simp only[t6,jjc]
 have x0:Ext w (w.alloc (.cells #[.int .i64 k,.int .i64 n,.string s,kv] 65)):=(Ext.refl w).alloc _;have E0:=E.ext x0;have hB:=jn3 w (.int .i64 k) (.int .i64 n) (.string s) kv 65
 have hasks:∀w1,Ext (w.alloc (.cells #[.int .i64 k,.int .i64 n,.string s,kv] 65)) w1->Asks w1 61 #[.pointer (some ⟨U,0,none⟩),.pointer (some ⟨V,0,none⟩)] l (t6 (vR d v)) :=
  fun w1 h1=>⟨fun _ _=>rfl,fun y hy z w' hx' hA=>ih y hy z w' U V dv vv ov d v hA ((E0.ext h1).ext hx')⟩
 have hcall:=fun w1 h1=>gD l kv _ _ w1 _ (hl.mono (x0.trans h1).sub) (hasks w1 h1)
 have hidx:=jdf dv vv ov d v s _ E0.d E0.v
 obtain⟨q,hq⟩:∃q,q=l.any (t6 (vR d v)):=⟨_,rfl⟩
 obtain⟨i,hi⟩:∃i,i=vR d v s:=⟨_,rfl⟩
 rw[e];rw[<- hq] at hcall ⊢;rw[<- hi] at hidx ⊢;have HC:=Lib.hid hcall;have HI:=Lib.hid hidx;obtain⟨c0,c1,c2,cf,-,-⟩:=E0;obtain⟨g0,g1,g2,g3,-⟩:=sR hB;clear hq hi hasks hcall hidx ih hl e ht E;by_cases hk:k=1∨k=14
 ·by_cases hneg:i<0
  ·rcases hk with rfl|rfl
   all_goals
    go_enter Tryz.func61,Tryz.ntmps61
    go_wp2_with (first
     |(go_at_call 62;(with_reducible refine HI.out.mono ?_);rintro e w2 ⟨rfl,hx2⟩))
    go_ret
    exact⟨by simp[hneg],x0.trans hx2⟩
  ·rcases hk with rfl|rfl
   all_goals
    go_enter Tryz.func61,Tryz.ntmps61
    go_wp2_with (first
     |(go_at_call 62;(with_reducible refine HI.out.mono ?_);rintro e w2 ⟨rfl,hx2⟩;replace cf:=hx2.c cf;replace g3:=hx2.c g3)
     |(go_at_call 63;(with_reducible refine(HC.out _ hx2).mono ?_);rintro e w3 ⟨rfl,hx3⟩))
    go_ret
    exact⟨by simp[hneg],(x0.trans hx2).trans hx3⟩
 ·have b1:(k==1)=false:=by simp;omega
  have b2:(k==14)=false:=by simp;omega
  have hx2:=Ext.refl (w.alloc (.cells #[.int .i64 k,.int .i64 n,.string s,kv] 65));clear hk
  go_enter Tryz.func61,Tryz.ntmps61
  go_wp2_with (first
   |(go_at_call 63;(with_reducible refine(HC.out _ hx2).mono ?_);rintro e w3 ⟨rfl,hx3⟩))
  go_ret
  exact⟨by simp[b1,b2],x0.trans hx3⟩
mutual
theorem jfL:∀t:Nd,jjk t
 |.mk k n s l=>jkN k n s l (jfK l)
theorem jfK:∀l:List Nd,∀x∈l,jjk x
 |[]=>fun _ h=>by cases h
 |t::ts =>
  have h1:=jfL t;have h2:=jfK ts
  fun x hx=>(xtw13.1 hx).elim (fun e=>e ▸ h1) (h2 x)
end
def u4(u:Un)(t:Nd):Bool := !wP t||t6 (vR u.d u.v) t
def yH(u:Un):Int:=if u.on.any (fun h=>u4 u h.2) then 11 else 0
theorem jaK{u:Un}{k:Nat}(hk:k<u.on.length)(h:u4 u u.on[k].2=true):yH u=11:=by
 unfold yH;rw[xtw3];exact xtw34.2 ⟨_,xtw10 hk,h⟩
theorem jfI{u:Un}(h:∀j (hj:j<u.on.length),u4 u u.on[j].2=false):yH u=0:=by
 unfold yH;rw[xtw2];rw[xtw34];rintro⟨x,hx,hq⟩;obtain⟨j,hj,rfl⟩:=xtw67.1 hx;rw[h j hj] at hq;cases hq
theorem jtc{w:World}{R:Nat}{a:Value}{T:TypeId}(h:w.heap[R]?=some (.cells #[a] T (0,0))):w.cell? ⟨R,0,none⟩=some a/\w.frozen? ⟨R,0,none⟩=false:=by
 simp[World.cell?,World.frozen?,h]
theorem ji0{w:World}{R:Nat}{a b c:Value}{T:TypeId}(h:w.heap[R]?=some (.cells #[a,b,c] T (0,0))) :
  w.cell? ⟨R,0,none⟩=some a/\w.cell? ⟨R,1,none⟩=some b/\w.cell? ⟨R,2,none⟩=some c:=by
 simp[World.cell?,h]
theorem jm9{w:World}{R:Nat}{a b c d e:Value}{T:TypeId}(h:w.heap[R]?=some (.cells #[a,b,c,d,e] T (0,0))) :
  w.cell? ⟨R,0,none⟩=some a/\w.cell? ⟨R,1,none⟩=some b/\w.cell? ⟨R,2,none⟩=some c/\w.cell? ⟨R,3,none⟩=some d/\w.cell? ⟨R,4,none⟩=some e:=by
 simp[World.cell?,h]
theorem jlP{a b c d a' b' c' d':Value}(h:Value.agg #[a,b,c,d]=.agg #[a',b',c',d']):a=a'/\b=b'/\c=c'/\d=d':=by simpa using h
theorem jkM(u:Un)(x:Value)(w:World)(hv:jsY w.cell? x u) :
  Calls Tryz.prog 28 #[x] w (oO w (.int .i64 (yH u))):=by
 obtain⟨dv,vv,ov,rfl,hd,hvv,hon⟩:=hv;have hon2:=hon;obtain⟨hl,p,b,off,cap,rfl,hcap,hp,hn,hin⟩:=hon2
 have x1:Ext w ((w.alloc (.cells #[dv,vv,.slice p u.on.length cap] 26)).alloc (.cells #[.func (.func 61) #[] #[.pointer (some ⟨w.heap.size,0,none⟩),.pointer (some ⟨w.heap.size+1,0,none⟩)]] 113)) :=
  ((Ext.refl w).alloc _).alloc _
 have hV:((w.alloc (.cells #[dv,vv,.slice p u.on.length cap] 26)).alloc (.cells #[.func (.func 61) #[] #[.pointer (some ⟨w.heap.size,0,none⟩),.pointer (some ⟨w.heap.size+1,0,none⟩)]] 113)).heap[w.heap.size+1]?=some (.cells #[(.func (.func 61) #[] #[.pointer (some ⟨w.heap.size,0,none⟩),.pointer (some ⟨w.heap.size+1,0,none⟩)])] 113 (0,0)):=by
  have:=heap_alloc_new (w.alloc (.cells #[dv,vv,.slice p u.on.length cap] 26)) (.cells #[.func (.func 61) #[] #[.pointer (some ⟨w.heap.size,0,none⟩),.pointer (some ⟨w.heap.size+1,0,none⟩)]] 113);simp only[World.size_alloc] at this;exact this
 have hU:=Ext.block ((Ext.refl _).alloc (.cells #[.func (.func 61) #[] #[.pointer (some ⟨w.heap.size,0,none⟩),.pointer (some ⟨w.heap.size+1,0,none⟩)]] 113)) (heap_alloc_new w (.cells #[dv,vv,.slice p u.on.length cap] 26))
 have E:Env _ w.heap.size (w.heap.size+1) dv vv (.slice p u.on.length cap) u.d u.v:=⟨(ji0 hU).1,(ji0 hU).2.1,(ji0 hU).2.2,(jtc hV).1,hd.mono x1.sub,hvv.mono x1.sub⟩
 clear hU hV hd hvv hon
 go_enter Tryz.func28,Tryz.ntmps28
 go_wp2_with fail
 go_loopw [10] (fun iv wr=>∃k:Nat,k<=u.on.length/\iv=.int .i64 k/\Ext w wr/\Env wr w.heap.size (w.heap.size+1) dv vv (.slice p u.on.length cap) u.d u.v/\∀j (hj:j<u.on.length),j<k->u4 u u.on[j].2=false) (fun iv _=>u.on.length-(intOf iv).toNat)
 case atStart=>exact⟨0,by omega,rfl,x1,E,fun j hj h=>absurd h (by omega)⟩
 case round =>
  clear x1 E;obtain⟨k,hk,rfl,hx,E,hno⟩:=hrel;have HNO:Hid (∀j (hj:j<u.on.length),j<k->u4 u u.on[j].2=false):=hno;clear hno;by_cases hlt:k<u.on.length
  ·obtain rfl:p=some ⟨b,off,none⟩:=by
    rcases hp with h|hp
    ·rw[h] at hlt;simp at hlt
    ·exact hp
   obtain⟨-,-,v1,v2,v3,v4,c0,c1,c2,c3,c4,ht⟩:=hin k hlt
   replace c0:=hx.c c0
   replace c1:=hx.c c1
   replace c2:=hx.c c2
   replace c3:=hx.c c3
   replace c4:=hx.c c4
   have ht2:=Nd.At.mono hx.sub _ _ ht
   obtain⟨hn0,hhn⟩:∃z,z=u.on[k].1:=⟨_,rfl⟩
   obtain⟨t,htt⟩:∃t,t=u.on[k].2:=⟨_,rfl⟩
   rw[<- hhn] at c0;rw[<- htt] at ht2;have HT:Hid (t=u.on[k].2):=htt;obtain⟨kv,hvv,-,-,-,-,p',b',o',c',hkv,-⟩:=ht2.parts;subst hkv;obtain⟨rfl,rfl,rfl,rfl⟩:=jlP hvv;clear hvv
   have hwell:=fun w1 (h1:Ext wr w1)=>(jhH t).use (Nd.At.mono h1.sub _ _ ht2)
   have hchk:=fun w1 (h1:Ext wr w1)=>jfL t _ w1 _ _ _ _ _ _ _ (Nd.At.mono h1.sub _ _ ht2) (E.ext h1)
   obtain⟨qa,hqa⟩:∃q,q=wP t:=⟨_,rfl⟩
   obtain⟨qb,hqb⟩:∃q,q=t6 (vR u.d u.v) t:=⟨_,rfl⟩
   have hbad:u4 u t=(!qa||qb):=by rw[hqa,hqb];rfl
   rw[<- hqa] at hwell;rw[<- hqb] at hchk;have HW:=Lib.hid hwell;have HC:=Lib.hid hchk;have HB:=Lib.hid hbad
   obtain⟨e0,e1,e2,ef,-,-⟩:=(show Env wr _ _ _ _ _ _ _ from E)
   clear hin hp hn ht ht2 htt hhn hwell hchk hqa hqb hbad;have hH:=heap_alloc_new wr (.cells #[.int .i64 hn0,.int .i64 t.k,.int .i64 t.n,.string t.s,.slice p' t.kids.length c'] 67)
   cases qa with
   |false =>
    go_wp2_with (first
     |(go_at_call 64;refine(HW.out _ ((Ext.refl wr).alloc _)).mono ?_;rintro e w2 ⟨rfl,hx2⟩))
    go_ret
    refine⟨?_,(hx.alloc _).trans hx2⟩;rw[jaK hlt (by rw[<- HT.out,HB.out];rfl)];rfl
   |true =>
    have E1:=fun w2 (h2:Ext wr w2)=>E.ext h2
    have HE:=Lib.hid E1;clear E1
    cases qb with
    |true =>
     go_wp2_with (first
      |(go_at_call 64;refine(HW.out _ ((Ext.refl wr).alloc _)).mono ?_;rintro e w2 ⟨rfl,hx2⟩;obtain⟨-,-,-,ef2,-,-⟩:=HE.out _ (((Ext.refl wr).alloc _).trans hx2);obtain⟨g0,g1,g2,g3,g4⟩:=jm9 (hx2.block hH))
      |(go_at_call 61;refine(HC.out _ (((Ext.refl wr).alloc _).trans hx2)).mono ?_;rintro e w3 ⟨rfl,hx3⟩))
     go_ret
     refine⟨?_,((hx.alloc _).trans hx2).trans hx3⟩;rw[jaK hlt (by rw[<- HT.out,HB.out];rfl)];rfl
    |false =>
     go_wp2_with (first
      |(go_at_call 64;refine(HW.out _ ((Ext.refl wr).alloc _)).mono ?_;rintro e w2 ⟨rfl,hx2⟩;obtain⟨-,-,-,ef2,-,-⟩:=HE.out _ (((Ext.refl wr).alloc _).trans hx2);obtain⟨g0,g1,g2,g3,g4⟩:=jm9 (hx2.block hH))
      |(go_at_call 61;refine(HC.out _ (((Ext.refl wr).alloc _).trans hx2)).mono ?_;rintro e w3 ⟨rfl,hx3⟩))
     go_roundw
     case rel=>exact⟨k+1,by omega,by go_num,((hx.alloc _).trans hx2).trans hx3,HE.out _ ((((Ext.refl wr).alloc _).trans hx2).trans hx3),fun j hj h=>by
      by_cases hjk:j=k
      ·subst hjk;rw[<- HT.out,HB.out];rfl
      ·exact HNO.out j hj (by omega)⟩
     case measure=>simp[intOf];omega
  ·clear hin;obtain⟨e0,e1,e2,ef,-,-⟩:=E
   go_wp2
   go_ret
   exact⟨by rw[jfI (fun j hj=>HNO.out j hj (by omega))];rfl,hx⟩
end Go.Proofs.YtfbifdccmabdbaaGreatDoor
namespace Go.Proofs.YtfbifdccmabdbaaGreatDoor.Vm
open Go.RowKit
def isL(c:UInt8):Bool:=decide (97<=(c.toNat:Int))&&decide ((c.toNat:Int)<=122)
def wA(c:UInt8):Bool:=decide (48<=(c.toNat:Int))&&decide ((c.toNat:Int)<=57)
def kG(c:UInt8):Bool:=isL c||wA c
def nZ(c:UInt8):Bool:=(decide ((c.toNat:Int)=32)||decide ((c.toNat:Int)=9))||decide ((c.toNat:Int)=10)
def kP(c:UInt8):Bool := !decide ((c.toNat:Int)=10)
def kY(c:UInt8):Bool:=decide ((c.toNat:Int)=35)
def jF(p:UInt8->Bool):List UInt8->Nat
 |[]=>0
 |c::r=>match p c with|true=>jF p r+1|false=>0
def jO:Bool->List UInt8->Nat
 |_,[]=>0
 |true,c::r=>match kP c with|true=>jO true r+1|false=>jO false r+1
 |false,c::r=>match kY c with
  |true=>jO true r+1
  |false=>match nZ c with
   |true=>jO false r+1
   |false=>0
def xP:Int->List UInt8->Int
 |n,[]=>n
 |n,c::r=>if 2147483647<10*n+(c.toNat:Int)-48 then -1 else xP (10*n+(c.toNat:Int)-48) r
def bs(l:List UInt8):ByteArray:=⟨l.toArray⟩
def pS:List ByteArray:=[bs [124,124],bs [38,38],bs [60,61],bs [62,61],bs [61,61],bs [33,61]]
def tN:List ByteArray:=[bs [123],bs [125],bs [91],bs [93],bs [40],bs [41],bs [61],bs [59],bs [44],bs [60],bs [62],bs [43],bs [45],bs [42],bs [47],bs [33]]
def qC(l:List ByteArray)(s:ByteArray):Bool:=l.any fun x=>decide (x=s)
inductive T1 where
 |bad (e:Int)
 |tok (kind:Int) (len:Nat) (n:Int)
def qD:List UInt8->T1
 |[]=>.bad 10
 |c::r=>match isL c with
  |true=>if 10<jF kG r+1 then .bad 2 else .tok 1 (jF kG r+1) 0
  |false=>match wA c with
   |true=>if xP 0 (c::r.take (jF wA r))<0 then .bad 6 else .tok 2 (jF wA r+1) (xP 0 (c::r.take (jF wA r)))
   |false=>match qC pS (bs ((c::r).take 2)) with
    |true=>.tok 3 2 0
    |false=>match qC tN (bs [c]) with
     |true=>.tok 3 1 0
     |false=>.bad 10
structure Tk where
 kind:Int
 pos:Nat
 text:ByteArray
 n:Int
structure Lx where
 toks:List Tk
 err:Option (Nat×Int)
def Lx.cons(t:Tk)(x:Lx):Lx:=⟨t::x.toks,x.err⟩
def vI:Nat->Nat->List UInt8->Lx
 |0,_,_=>⟨[],none⟩
 |f+1,pos,[]=>⟨[],none⟩
 |f+1,pos,c::r=>match kY c with
  |true=>vI f (pos+1+jF kP r) (r.drop (jF kP r))
  |false=>match nZ c with
   |true=>vI f (pos+1) r
   |false=>match qD (c::r) with
    |.bad e=>⟨[],some (pos,e)⟩
    |.tok k len n=>Lx.cons ⟨k,pos,bs ((c::r).take len),n⟩ (vI f (pos+len) ((c::r).drop len))
def cT(t:Tk):List A:=[intA t.kind,intA t.pos,jJ t.text,intA t.n]
def z8(l:List Tk):List A:=l.flatMap cT
def rN(s:ByteArray):Tk:=⟨0,s.size,⟨#[]⟩,0⟩
theorem xN(p:UInt8->Bool):∀l:List UInt8,jF p l<=l.length
 |[]=>by simp[jF]
 |c::r=>by
  have:=xN p r;unfold jF
  split <;> simp <;> omega
theorem d9:∀(b:Bool) (l:List UInt8),jO b l<=l.length
 |b,[]=>by cases b <;> simp[jO]
 |true,c::r=>by
  have h1:=d9 true r;have h2:=d9 false r;unfold jO
  split <;> simp <;> omega
 |false,c::r=>by
  have h1:=d9 true r;have h2:=d9 false r;unfold jO;split
  ·simp;omega
  ·split <;> simp;omega
theorem s9(l:List ByteArray)(s:ByteArray)(k:Nat)(hk:k<l.length):qC (l.take (k+1)) s=(qC (l.take k) s||decide (l[k]=s)):=by
 unfold qC;rw[xtw26 hk,List.any_append];simp
theorem dI(s:ByteArray)(i:Nat)(hi:i<s.data.toList.length):s.data.toList.getD i 0=s.data.toList[i]:=by rw[xtw9,xtw21 hi];rfl
theorem zQ(s:ByteArray):s.data.toList.length=s.size:=by rw[xtw108];rfl
theorem yD(l:List UInt8)(i:Nat)(hi:i<l.length):l.drop i=l[i]::l.drop (i+1):=xtw63 hi
theorem jjW{c:UInt8}(h:wA c=true):48<=(c.toNat:Int)/\(c.toNat:Int)<=57:=by
 unfold wA at h;rw[xtw14] at h;exact⟨xtw23 h.1,xtw23 h.2⟩
theorem jaV(s:ByteArray)(a b:Nat):s.extract a b=bs ((s.data.toList.drop a).take (b-a)):=by
 apply ByteArray.ext;rw[ByteArray.data_extract];apply xtw80.1;simp[bs,Array.toList_extract,List.extract_eq_take_drop]
theorem yA(s:ByteArray)(a b n:Nat)(h:b=min (a+n) s.size)(ha:a<=s.size):s.extract a b=bs ((s.data.toList.drop a).take n):=by
 have hsl:=zQ s;rw[jaV]
 congr 1
 subst h;rcases Nat.le_total (a+n) s.size with h|h
 ·rw[xtw112 h,Nat.add_sub_cancel_left]
 ·rw[Nat.min_eq_right h,xtw56 (by rw[xtw28];omega),xtw56 (by rw[xtw28];omega)]
theorem gR(l:List UInt8):(bs l).size=l.length:=by show l.toArray.size=_;exact xtw32
theorem yM(l:List UInt8):(bs l).data.toList=l:=by simp[bs]
theorem mR(p:UInt8->Bool):∀(l:List UInt8),∀c∈l.take (jF p l),p c=true
 |[],c,h=>by simp[jF] at h
 |x::r,c,h=>by
  unfold jF at h;split at h
  ·rename_i hp;rw[xtw79] at h;rcases xtw13.1 h with rfl|h
   ·exact hp
   ·exact mR p r c h
  ·simp at h
def jpr:List A:=[intA 0,intA 0,jJ ⟨#[]⟩,intA 0]
def jop(s:ByteArray)(k:Nat):A:=match qD (s.data.toList.drop k) with
 |.bad e=>.tup [.agg jpr,intA e]
 |.tok kd len n=>.tup [.agg (cT ⟨kd,k,bs ((s.data.toList.drop k).take len),n⟩),intA 0]
theorem eD{s:ByteArray}{k:Nat}{e:Int}(h:qD (s.data.toList.drop k)=.bad e):jop s k=.tup [.agg jpr,intA e]:=by unfold jop;rw[h]
theorem bO{s:ByteArray}{k len:Nat}{kd n:Int}(h:qD (s.data.toList.drop k)=.tok kd len n):jop s k=.tup [.agg [intA kd,intA k,jJ (bs ((s.data.toList.drop k).take len)),intA n],intA 0]:=by unfold jop;rw[h];rfl
theorem bN:∀{l:List UInt8} {k:Int} {len:Nat} {n:Int},qD l=.tok k len n->1<=len/\len<=l.length
 |[],_,_,_,h=>by simp[qD] at h
 |c::r,k,len,n,h=>by
  have h1:=xN kG r;have h2:=xN wA r;cases hL:isL c
  ·cases hD:wA c
   ·cases h3:qC pS (bs ((c::r).take 2))
    ·cases h4:qC tN (bs [c])
     ·simp only[qD,hL,hD,h3,h4] at h;cases h
     ·simp only[qD,hL,hD,h3,h4] at h;cases h;simp
    ·simp only[qD,hL,hD,h3] at h;cases h
     cases r with
     |nil =>
      exfalso
      have:qC pS (bs [c])=false:=by
       unfold qC;rw[xtw124];intro x hx he;have he:=xtw23 he
       have hs:x.size=1:=by rw[he,gR];rfl
       have:∀x∈pS,x.size=2:=by decide
       have:=this x hx;omega
      rw[show(c::([]:List UInt8)).take 2=[c] from rfl,this] at h3;cases h3
     |cons d r=>simp
   ·simp only[qD,hL,hD] at h;split at h
    ·cases h
    ·cases h;simp;omega
  ·simp only[qD,hL] at h;split at h
   ·cases h
   ·cases h;simp;omega
theorem jhw{l:List UInt8}{e:Int}(h:qD l=.bad e):e≠0:=by
 cases l with
 |nil=>simp[qD] at h;omega
 |cons c r =>
  cases hL:isL c
  ·cases hD:wA c
   ·cases h3:qC pS (bs ((c::r).take 2))
    ·cases h4:qC tN (bs [c])
     ·simp only[qD,hL,hD,h3,h4] at h;cases h;decide
     ·simp only[qD,hL,hD,h3,h4] at h;cases h
    ·simp only[qD,hL,hD,h3] at h;cases h
   ·simp only[qD,hL,hD] at h;split at h
    ·cases h;decide
    ·cases h
  ·simp only[qD,hL] at h;split at h
   ·cases h;decide
   ·cases h
theorem rX:∀(f f' p:Nat) (l:List UInt8),l.length<f->l.length<f'->vI f p l=vI f' p l
 |0,_,_,_,h,_=>by omega
 |_+1,0,_,_,_,h=>by omega
 |f+1,f'+1,p,[],_,_=>rfl
 |f+1,f'+1,p,c::r,h,h'=>by
  simp only[xtw6] at h h'
  have key:∀(q k:Nat) (l:List UInt8),l.length<=r.length->vI f q l=vI f' q l:=fun q k l hl=>rX f f' q l (by omega) (by omega)
  unfold vI;split
  ·exact key _ 0 _ (by simp)
  ·split
   ·exact key _ 0 _ (xtw11 _)
   ·split
    ·rfl
    ·rename_i k len n ht;have:=bN ht;rw[key _ 0 _ (by simp;omega)]
def bD(p:Nat)(l:List UInt8):Lx:=vI (l.length+1) p l
theorem jbl(p:Nat):bD p []=⟨[],none⟩:=rfl
theorem jdp{p:Nat}{c:UInt8}{r:List UInt8}(h:kY c=true):bD p (c::r)=bD (p+1+jF kP r) (r.drop (jF kP r)):=by
 unfold bD;rw[vI,h];exact rX _ _ _ _ (by simp;omega) (by simp)
theorem jeO{p:Nat}{c:UInt8}{r:List UInt8}(h:kY c=false)(h2:nZ c=true):bD p (c::r)=bD (p+1) r:=by
 unfold bD;rw[vI,h,h2];exact rX _ _ _ _ (by simp) (by simp)
theorem jbk{p:Nat}{c:UInt8}{r:List UInt8}{e:Int}(h:kY c=false)(h2:nZ c=false)(ht:qD (c::r)=.bad e):bD p (c::r)=⟨[],some (p,e)⟩:=by
 unfold bD;rw[vI,h,h2,ht]
theorem jbn{p:Nat}{c:UInt8}{r:List UInt8}{k:Int}{len:Nat}{n:Int}(h:kY c=false)(h2:nZ c=false)(ht:qD (c::r)=.tok k len n) :
  bD p (c::r)=Lx.cons ⟨k,p,bs ((c::r).take len),n⟩ (bD (p+len) ((c::r).drop len)):=by
 have hl:=bN ht;unfold bD;rw[vI,h,h2,ht]
 simp only
 rw[rX _ (((c::r).drop len).length+1) _ _ (by simp at hl ⊢;omega) (by simp)]
theorem jtH{c:UInt8}(h:kP c=false):kY c=false/\nZ c=true:=by
 have:(c.toNat:Int)=10:=by simpa [kP] using h
 simp[kY,nZ,this]
theorem jbm:∀(l:List UInt8) (p:Nat),bD p l=bD (p+jO false l) (l.drop (jO false l))/\bD (p+jF kP l) (l.drop (jF kP l))=bD (p+jO true l) (l.drop (jO true l))
 |[],p=>by simp[jO,jF]
 |c::r,p=>by
  obtain⟨h1,h2⟩:=jbm r (p+1)
  have e:∀n,p+(n+1)=p+1+n:=fun n=>by omega
  constructor
  ·cases hh:kY c with
   |true =>
    have:jO false (c::r)=jO true r+1:=by simp[jO,hh]
    rw[this,jdp hh,h2,xtw71,e (jO true r)]
   |false =>
    cases hs:nZ c with
    |true =>
     have:jO false (c::r)=jO false r+1:=by simp[jO,hh,hs]
     rw[this,jeO hh hs,h1,xtw71,e (jO false r)]
    |false =>
     have:jO false (c::r)=0:=by simp[jO,hh,hs]
     rw[this];rfl
  ·cases hn:kP c with
   |true =>
    have a:jF kP (c::r)=jF kP r+1:=by simp[jF,hn]
    have b:jO true (c::r)=jO true r+1:=by simp[jO,hn]
    rw[a,b,xtw71,xtw71,e (jF kP r),e (jO true r)];exact h2
   |false =>
    obtain⟨hh,hs⟩:=jtH hn
    have a:jF kP (c::r)=0:=by simp[jF,hn]
    have b:jO true (c::r)=jO false r+1:=by simp[jO,hn]
    rw[a,b,xtw118,xtw97,jeO hh hs,h1,xtw71,e (jO false r)]
theorem jdq(p:Nat)(l:List UInt8):bD p l=bD (p+jO false l) (l.drop (jO false l)):=(jbm l p).1
def jmg:List UInt8->Prop
 |[]=>True
 |c::_=>kY c=false/\nZ c=false
theorem gQ:∀(b:Bool) (l:List UInt8),jmg (l.drop (jO b l))
 |b,[]=>by cases b <;> simp[jO,jmg]
 |true,c::r=>by
  unfold jO;split
  ·rw[xtw71];exact gQ true r
  ·rw[xtw71];exact gQ false r
 |false,c::r=>by
  cases hh:kY c with
  |true =>
   have:jO false (c::r)=jO true r+1:=by simp[jO,hh]
   rw[this,xtw71];exact gQ true r
  |false =>
   cases hs:nZ c with
   |true =>
    have:jO false (c::r)=jO false r+1:=by simp[jO,hh,hs]
    rw[this,xtw71];exact gQ false r
   |false =>
    have:jO false (c::r)=0:=by simp[jO,hh,hs]
    rw[this];exact⟨hh,hs⟩
def qM(s:ByteArray):Lx:=bD 0 s.data.toList
def Lx.app(ts:List Tk)(x:Lx):Lx:=⟨ts++x.toks,x.err⟩
theorem jaw(ts:List Tk)(t:Tk)(x:Lx):Lx.app ts (Lx.cons t x)=Lx.app (ts++[t]) x:=by simp[Lx.app,Lx.cons]
def tI(s:ByteArray):A:=match (qM s).err with
 |some (p,e)=>.tup [.v (.slice none 0 0),intA p,intA e]
 |none=>.tup [.sl 4 ((qM s).toks.length+1) (z8 ((qM s).toks++[rN s])),intA 0,intA 0]
theorem jmW{s:ByteArray}{ts:List Tk}{p:Nat}{e:Int}(h:qM s=⟨ts,some (p,e)⟩):tI s=.tup [.v (.slice none 0 0),intA p,intA e]:=by unfold tI;rw[h]
theorem jpi{s:ByteArray}{ts:List Tk}(h:qM s=⟨ts,none⟩):tI s=.tup [.sl 4 (ts.length+1) (z8 ts++cT (rN s)),intA 0,intA 0]:=by
 unfold tI;rw[h];simp[z8]
theorem jlz(ts:List Tk)(t:Tk):z8 (ts++[t])=z8 ts++cT t:=by simp[z8]
theorem aQ(l:List UInt8)(len:Nat)(h:len<=l.length):(bs (l.take len)).size=len:=by rw[gR,xtw38];omega
def u8A(n:Int):A:=.v (.int .u8 n)
@[irreducible] def qL(f:Nat->Int):List A:=(List.range 256).map fun j=>u8A (f j)
theorem xJ(f:Nat->Int):(qL f).length=256:=by unfold qL;simp
theorem jfN(f:Nat->Int)(j:Nat)(h:j<256):(qL f)[j]?=some (u8A (f j)):=by unfold qL;simp[h]
theorem jaL(f:Nat->Int):∀a∈qL f,∃x,a=.v x:=fun a ha=>by
 unfold qL at ha;obtain⟨j,_,rfl⟩:=xtw60.1 ha;exact⟨_,rfl⟩
theorem iJ(f:Nat->Int)(i:Nat)(d:Int):(qL f).set i (u8A d)=qL fun j=>if j=i then d else f j:=by
 apply xtw75;intro j;rw[xtw86];by_cases hj:j<256
 ·rw[jfN _ j hj,jfN _ j hj,xJ];by_cases hij:i=j
  ·subst hij;rw[xtw3 rfl,xtw3 hj,xtw3 rfl]
  ·rw[xtw2 hij,xtw2 (fun e=>hij e.symm)]
 ·have h1:∀f,(qL f)[j]?=none:=fun f=>xtw78 (by rw[xJ];omega)
  rw[h1,h1,xJ];split
  ·rename_i h;subst h;rw[xtw2 hj]
  ·rfl
theorem aT{f g:Nat->Int}(h:∀j,j<256->f j=g j):qL f=qL g:=by
 unfold qL
 exact xtw109 fun j hj=>by rw[h j (xtw98.1 hj)]
def f1(k:Nat)(j:Nat):Int:=if 97<=j/\j<k then 2 else 0
def f2(k:Nat)(j:Nat):Int:=if 48<=j/\j<k then 3 else f1 123 j
def l3:List Int:=[32,9,10]
def l5:List Int:=[123,125,91,93,40,41,61,59,44,60,62,43,45,42,47,33]
def f3(k:Nat)(j:Nat):Int:=if (j:Int)∈l3.take k then 1 else f2 58 j
def f5(k:Nat)(j:Nat):Int:=if (j:Int)∈l5.take k then 5 else f3 3 j
def classOf(j:Nat):Int:=if j=35 then 4 else f5 16 j
theorem eA(l:List Int)(k:Nat)(hk:k<l.length)(x:Int):x∈l.take (k+1)↔x∈l.take k∨x=l[k]:=by
 rw[xtw26 hk,xtw30,xtw16]
theorem jh3(l:List Int)(i:Nat)(hi:i<l.length):jC 1 i (l.map u8A)=[.v (.int .u8 l[i])]:=wN _ l i hi
theorem jrJ(k:Nat)(h1:97<=k)(h2:k<256):(qL (f1 k)).set k (u8A 2)=qL (f1 (k+1)):=by
 rw[iJ]
 refine aT fun j hj=>?_
 unfold f1;by_cases h:j=k
 ·subst h;rw[xtw3 rfl,xtw3 (by omega)]
 ·rw[xtw2 h];by_cases h3:97<=j/\j<k
  ·rw[xtw3 h3,xtw3 (by omega)]
  ·rw[xtw2 h3,xtw2 (by omega)]
theorem jrK(k:Nat)(h1:48<=k)(h2:k<256):(qL (f2 k)).set k (u8A 3)=qL (f2 (k+1)):=by
 rw[iJ]
 refine aT fun j hj=>?_
 unfold f2;by_cases h:j=k
 ·subst h;rw[xtw3 rfl,xtw3 (by omega)]
 ·rw[xtw2 h];by_cases h3:48<=j/\j<k
  ·rw[xtw3 h3,xtw3 (by omega)]
  ·rw[xtw2 h3,xtw2 (by omega)]
theorem jrL(k:Nat)(hk:k<l3.length)(i:Nat)(hi:(i:Int)=l3[k]):(qL (f3 k)).set i (u8A 1)=qL (f3 (k+1)):=by
 rw[iJ]
 refine aT fun j hj=>?_
 unfold f3;by_cases h:j=i
 ·subst h;rw[xtw3 rfl,xtw3 ((eA l3 k hk _).2 (.inr hi))]
 ·rw[xtw2 h];by_cases h3:(j:Int)∈l3.take k
  ·rw[xtw3 h3,xtw3 ((eA l3 k hk _).2 (.inl h3))]
  ·rw[xtw2 h3,xtw2 fun e=>((eA l3 k hk _).1 e).elim h3 fun e=>by omega]
theorem jrM(k:Nat)(hk:k<l5.length)(i:Nat)(hi:(i:Int)=l5[k]):(qL (f5 k)).set i (u8A 5)=qL (f5 (k+1)):=by
 rw[iJ]
 refine aT fun j hj=>?_
 unfold f5;by_cases h:j=i
 ·subst h;rw[xtw3 rfl,xtw3 ((eA l5 k hk _).2 (.inr hi))]
 ·rw[xtw2 h];by_cases h3:(j:Int)∈l5.take k
  ·rw[xtw3 h3,xtw3 ((eA l5 k hk _).2 (.inl h3))]
  ·rw[xtw2 h3,xtw2 fun e=>((eA l5 k hk _).1 e).elim h3 fun e=>by omega]
theorem js0(k:Nat)(hk:k<l3.length):0<=l3[k]/\l3[k]<256:=by
 have:∀x∈l3,0<=x/\x<256:=by decide
 exact this _ (xtw10 hk)
theorem js1(k:Nat)(hk:k<l5.length):0<=l5[k]/\l5[k]<256:=by
 have:∀x∈l5,0<=x/\x<256:=by decide
 exact this _ (xtw10 hk)
theorem u8r{n:Int}(h:0<=n/\n<=255):lo .u8<=n/\n<=hi .u8:=h
theorem jsR:(List.range 256).map (fun _=>u8A 0)=qL (f1 97):=by
 unfold qL
 exact xtw109 fun j hj=>by unfold f1;rw[xtw2 (by omega)]
theorem jqj:(List.range 256).map (fun _=>u8A 0)=qL (fun _=>0):=by unfold qL;rfl
theorem jex:Spec Tryz.prog 148 [] [] fun _ r=>r=.agg (qL classOf):=by
 refine eN jK jT 0 Tryz.func148 rfl ?_;intro _;conv=>whnf
 refine jA [0,1] ?_;conv=>whnf
 refine rY (fun k:Nat=>[(2,.v (.int .u8 k))]) (fun k=>[qL fun _=>0,qL (f1 k)]) (fun _=>[]) (fun k=>97<=k/\k<=123) (fun k=>123-k) 97 ?_ ⟨by omega,by omega⟩ ?_
 ·unfold iQ;repeat' constructor
  ·show _=[qL _,qL _];rw[<- jsR,<- jqj];rfl
 ·rintro k ⟨hk,hk2⟩;conv=>whnf
  by_cases hlt:k<=122
  ·refine j7 (by simp;omega) ?_;conv=>whnf
   refine⟨⟨by omega,by omega⟩,?_⟩;conv=>whnf
   refine bR (by rw[xJ];simp;omega) ?_;conv=>whnf
   refine⟨u8r (by omega),?_⟩;conv=>whnf
   refine⟨k+1,iW ?_,⟨by omega,by omega⟩,by omega⟩;unfold iQ;repeat' constructor
   ·exact congrArg (fun x=>[qL fun _=>0,x]) (by
     show(qL (f1 k)).set (0+k*1) (u8A 2)=_
     rw[xtw84,xtw41];exact jrJ k (by omega) (by omega))
  ·refine jW (by simp;omega) ?_
   obtain rfl:k=123:=by omega
   conv=>whnf
   refine jA [0,1] ?_;conv=>whnf
   refine rY (fun k:Nat=>[(3,.v (.int .u8 k))]) (fun k=>[qL fun _=>0,qL (f2 k)]) (fun _=>[]) (fun k=>48<=k/\k<=58) (fun k=>58-k) 48 ?_ ⟨by omega,by omega⟩ ?_
   ·unfold iQ;repeat' constructor
    ·exact congrArg (fun x=>[qL fun _=>0,x]) (aT fun j hj=>by unfold f2;rw[xtw2 (by omega)])
   ·rintro k ⟨hk,hk2⟩;conv=>whnf
    by_cases hlt:k<=57
    ·refine j7 (by simp;omega) ?_;conv=>whnf
     refine⟨⟨by omega,by omega⟩,?_⟩;conv=>whnf
     refine bR (by rw[xJ];simp;omega) ?_;conv=>whnf
     refine⟨u8r (by omega),?_⟩;conv=>whnf
     refine⟨k+1,iW ?_,⟨by omega,by omega⟩,by omega⟩;unfold iQ;repeat' constructor
     ·exact congrArg (fun x=>[qL fun _=>0,x]) (by
       show(qL (f2 k)).set (0+k*1) (u8A 3)=_
       rw[xtw84,xtw41];exact jrK k (by omega) (by omega))
    ·refine jW (by simp;omega) ?_
     obtain rfl:k=58:=by omega
     conv=>whnf
     refine jA [0,1,22] ?_;conv=>whnf
     refine rY (fun k:Nat=>[(21,.sl 1 3 (l3.map u8A)),(23,.v (.int .i64 k))]) (fun k=>[qL fun _=>0,qL (f3 k)]) (fun _=>[.pub 1 3 (l3.map u8A)]) (fun k=>k<=3) (fun k=>3-k) 0 ?_ (by omega) ?_
     ·unfold iQ;repeat' constructor
     ·rintro k hk;conv=>whnf
      by_cases hlt:k<3
      ·have hr3:=js0 k hlt;refine j7 (by simp;omega) ?_;conv=>whnf
       refine⟨⟨by omega,by omega⟩,?_⟩;conv=>whnf
       rw[show jC 1 (Int.toNat (k:Int)) (List.map u8A l3)=[.v (.int .u8 l3[k])] from jh3 l3 k hlt]
       obtain⟨m,hm⟩:∃m:Nat,(m:Int)=l3[k]'hlt:=⟨(l3[k]'hlt).toNat,by omega⟩
       rw[<- hm] at hr3 ⊢;conv=>whnf
       refine⟨⟨by omega,by omega⟩,?_⟩;conv=>whnf
       refine bR (by rw[xJ];simp;omega) ?_;conv=>whnf
       refine⟨jG (by omega),?_⟩;conv=>whnf
       refine⟨k+1,iW ?_,by omega,by omega⟩;unfold iQ;repeat' constructor
       ·exact congrArg (fun x=>[qL fun _=>0,x]) (by
         show(qL (f3 k)).set (0+m*1) (u8A 1)=_
         rw[xtw84,xtw41];exact jrL k hlt m hm)
      ·refine jW (by simp;omega) ?_
       obtain rfl:k=3:=by omega
       conv=>whnf
       refine jA [0,1,32] ?_;conv=>whnf
       refine rY (fun k:Nat=>[(31,.sl 1 16 (l5.map u8A)),(33,.v (.int .i64 k))]) (fun k=>[qL fun _=>0,qL (f5 k)]) (fun _=>[.pub 1 3 (l3.map u8A),.pub 1 16 (l5.map u8A)]) (fun k=>k<=16) (fun k=>16-k) 0 ?_ (by omega) ?_
       ·unfold iQ;repeat' constructor
       ·rintro k hk;conv=>whnf
        by_cases hlt:k<16
        ·have hr5:=js1 k hlt;refine j7 (by simp;omega) ?_;conv=>whnf
         refine⟨⟨by omega,by omega⟩,?_⟩;conv=>whnf
         rw[show jC 1 (Int.toNat (k:Int)) (List.map u8A l5)=[.v (.int .u8 l5[k])] from jh3 l5 k hlt]
         obtain⟨m,hm⟩:∃m:Nat,(m:Int)=l5[k]'hlt:=⟨(l5[k]'hlt).toNat,by omega⟩
         rw[<- hm] at hr5 ⊢;conv=>whnf
         refine⟨⟨by omega,by omega⟩,?_⟩;conv=>whnf
         refine bR (by rw[xJ];simp;omega) ?_;conv=>whnf
         refine⟨jG (by omega),?_⟩;conv=>whnf
         refine⟨k+1,iW ?_,by omega,by omega⟩;unfold iQ;repeat' constructor
         ·exact congrArg (fun x=>[qL fun _=>0,x]) (by
           show(qL (f5 k)).set (0+m*1) (u8A 5)=_
           rw[xtw84,xtw41];exact jrM k hlt m hm)
        ·refine jW (by simp;omega) ?_
         obtain rfl:k=16:=by omega
         have hlen0:=xJ fun _=>0
         have hlen5:=xJ (f5 16)
         have hfin:(qL (f5 16)).set 35 (u8A 4)=qL classOf:=by rw[iJ];rfl
         have hpl:=jaL classOf
         have hu:nV (qL classOf)=qL classOf:=by kernel_rfl
         generalize qL (fun _=>0)=L0 at *;generalize qL (f5 16)=L5 at *;generalize qL classOf=Lc at *;conv=>whnf
         refine⟨⟨by omega,by omega⟩,?_⟩;conv=>whnf
         refine bR (by rw[hlen5];simp) ?_;generalize hLs:L5.set (0+Int.toNat 35*_) _=Ls;obtain rfl:Ls=Lc:=hLs.symm.trans hfin
         have hlen:Ls.length=256:=by rw[<- hfin,xtw111,hlen5]
         conv=>whnf
         refine jca (cs:=Ls) (n:=256) (Nat.le_of_eq hlen.symm) ?_;rw[xtw56 (Nat.le_of_eq hlen)];conv=>whnf
         rw[hu,hlen];conv=>whnf
         refine pV (ds:=Ls) (cs:=L0) [] (by rw[hlen,hlen0]) ?_;rw[xtw53];conv=>whnf
         refine jca (cs:=Ls) (n:=256) (Nat.le_of_eq hlen.symm) ?_;rw[xtw56 (Nat.le_of_eq hlen)];conv=>whnf
         rw[hu,jlm hpl]
theorem jdP(f:Nat->Int)(i:Nat)(hi:i<256):jC 1 i (qL f)=[.v (.int .u8 (f i))]:=by
 unfold qL;have:=wN (fun j=>u8A (f j)) (List.range 256) i (by simpa using hi);rw[this];simp[u8A]
def xL(p:UInt8->Bool)(l:List UInt8):Int:=if jF p l<l.length then(jF p l:Int) else -1
theorem jkq(p:UInt8->Bool)(l:List UInt8)(k:Nat)(hk:k<l.length)(h:jF p l=k+jF p (l.drop k))(hp:p l[k]=true):jF p l=k+1+jF p (l.drop (k+1)):=by
 rw[h,yD l k hk];simp only[jF,hp];omega
theorem je1(p:UInt8->Bool)(l:List UInt8)(k:Nat)(hk:k<l.length)(h:jF p l=k+jF p (l.drop k))(hp:p l[k]=false):jF p l=k:=by
 rw[h,yD l k hk];simp only[jF,hp];omega
theorem jfE(c:UInt8):0<=(c.toNat:Int)/\(c.toNat:Int)<256:=⟨by omega,by have:=c.toNat_lt;omega⟩
theorem jeP(b:ByteArray)(hb:b.size<=1000000000):Spec Tryz.prog 153 [] [.sl 1 b.size (wF b),.v (.int .u8 10)] fun _ r=>r=intA (xL kP b.data.toList):=by
 have hsl:=zQ b;refine eN jK jT 0 Tryz.func153 rfl ?_;intro _;conv=>whnf
 refine jA [0,1,4,7] ?_;conv=>whnf
 refine jE (fun k:Nat=>[(8,.v (.int .i64 k))]) (fun _=>[]) (fun _=>[]) (fun k=>k<=b.size/\jF kP b.data.toList=k+jF kP (b.data.toList.drop k)) (fun k=>b.size-k) 0 ?_ ⟨xtw19 _,by simp⟩ ?_
 ·repeat' constructor
 ·rintro k ⟨hk,hinv⟩;conv=>whnf
  by_cases hlt:k<b.size
  ·refine j7 (by simp;omega) ?_;conv=>whnf
   refine⟨⟨by omega,by omega⟩,?_⟩;conv=>whnf
   rw[show jC 1 (Int.toNat (k:Int)) (wF b)=_ from lG b k (by omega)];have h1:=jkq kP b.data.toList k (by omega) hinv;have h2:=je1 kP b.data.toList k (by omega) hinv;generalize b.data.toList[k]'(by omega)=c at *;conv=>whnf
   cases hq:kP c
   ·have hc:(c.toNat:Int)=10:=by simpa [kP] using hq
    refine j7 (by simp[hc]) ?_;conv=>whnf
    have:xL kP b.data.toList=k:=by unfold xL;rw[h2 hq,xtw3 (by omega)]
    rw[this];rfl
   ·have hc:¬(c.toNat:Int)=10:=by simpa [kP] using hq
    refine jW (by simp;omega) ?_;conv=>whnf
    refine⟨jG (by omega),?_⟩;conv=>whnf
    refine⟨k+1,zW ?_,⟨by omega,h1 hq⟩,by omega⟩;repeat' constructor
  ·refine jW (by simp;omega) ?_
   obtain rfl:k=b.size:=by omega
   conv=>whnf
   rw[xtw51 (by omega)] at hinv
   have:xL kP b.data.toList = -1:=by unfold xL;rw[hinv,xtw2 (by simp[jF])]
   rw[this];rfl
theorem oI(l:List ByteArray)(s:ByteArray)(hl:l.length<=1000000):Spec Tryz.prog 103 [] [.sl 1 l.length (wO l),.v (.string s)] fun _ r=>∃n:Int,(-1<=n/\n<=1000000)/\decide (0<=n)=qC l s/\r=intA n:=by
 refine eN jK jT 0 Tryz.func103 rfl ?_;intro _;conv=>whnf
 refine jA [0,1,4,7] ?_;conv=>whnf
 refine jE (fun k:Nat=>[(8,.v (.int .i64 k))]) (fun _=>[]) (fun _=>[]) (fun k=>k<=l.length/\qC (l.take k) s=false) (fun k=>l.length-k) 0 ?_ ⟨xtw19 _,by simp[qC]⟩ ?_
 ·repeat' constructor
 ·rintro k ⟨hk,hinv⟩;conv=>whnf
  by_cases hlt:k<l.length
  ·refine j7 (by simp;omega) ?_;conv=>whnf
   refine⟨⟨by omega,by omega⟩,?_⟩;conv=>whnf
   rw[show jC 1 (Int.toNat (k:Int)) (wO l)=[.v (.string l[k])] from fL l k hlt];conv=>whnf
   cases hq:decide (l[k]=s)
   ·refine jW (by rw[<- hq];exact decide_eq_decide.2 eq_comm) ?_;conv=>whnf
    refine⟨jG (by omega),?_⟩;conv=>whnf
    refine⟨k+1,zW ?_,⟨hlt,by rw[s9 l s k hlt,hinv,hq];rfl⟩,by omega⟩;repeat' constructor
   ·refine j7 (by rw[<- hq];exact decide_eq_decide.2 eq_comm) ?_;conv=>whnf
    have:qC l s=true:=xtw34.2 ⟨l[k],xtw10 hlt,hq⟩;exact⟨k,by omega,by rw[this];simp,rfl⟩
  ·refine jW (by simp;omega) ?_
   obtain rfl:k=l.length:=by omega
   rw[xtw54] at hinv;conv=>whnf
   exact⟨-1,by omega,by rw[hinv];rfl,rfl⟩
theorem jcv(l:List ByteArray)(s:ByteArray)(hl:l.length<=1000000):Spec Tryz.prog 157 [] [.sl 1 l.length (wO l),.v (.string s)] fun _ r=>r=qA (qC l s):=by
 refine eN jK jT 0 Tryz.func157 rfl ?_;intro _;conv=>whnf
 refine jY [] (oI l s hl) ?_;rintro r ⟨n,hn,hq,rfl⟩;conv=>whnf
 rw[hq];rfl
theorem jgm(k:Int):Spec Tryz.prog 154 [] [.v (.int .u8 k)] fun _ r=>r=qA (decide (k=2)||decide (k=3)):=by
 refine eN jK jT 0 Tryz.func154 rfl ?_;intro _;conv=>whnf
 cases h:decide (k=2)
 ·conv=>whnf
  simp[qA,h]
 ·conv=>whnf
  simp[qA,h]
theorem jil(k:Int):Spec Tryz.prog 155 [] [.v (.int .u8 k)] fun _ r=>r=qA (decide (k=3)):=by
 refine eN jK jT 0 Tryz.func155 rfl ?_;intro _;conv=>whnf
 rfl
def dC(p:Int->Bool)(c:UInt8):Bool:=p (classOf c.toNat)
theorem jiw(f:Nat)(p:Int->Bool)(hf:∀k,Spec Tryz.prog f [] [.v (.int .u8 k)] fun _ r=>r=qA (p k))(c:UInt8) :
  Spec Tryz.prog 152 [[.clo f []]] [.v (.int .u8 (c.toNat:Int)),.box 0 0,.pp (qL classOf)] fun outs r=>outs=[[.clo f []]]/\r=qA (!dC p c):=by
 have hc:=jfE c
 obtain⟨L,hL⟩:∃L,L=qL classOf:=⟨_,rfl⟩
 rw[<- hL];refine eN jsh jT 1 Tryz.func152 rfl ?_;intro _;conv=>whnf
 refine⟨⟨by omega,by omega⟩,?_⟩;generalize hq:jC _ (Int.toNat (c.toNat:Int)) L=q
 obtain rfl:q=[.v (.int .u8 (classOf c.toNat))]:=by rw[<- hq,hL];exact jdP classOf c.toNat (by omega)
 conv=>whnf
 refine jcY [] rfl (fun _=>hf _) ?_;rintro r rfl;conv=>whnf
 exact⟨rfl,rfl⟩
theorem jeK(f:Nat)(p:Int->Bool)(hf:∀k,Spec Tryz.prog f [] [.v (.int .u8 k)] fun _ r=>r=qA (p k))(b:ByteArray)(hb:b.size<=1000000000) :
  Spec Tryz.prog 151 [[.clo f []]] [.sl 1 b.size (wF b),.clo 152 [.box 0 0,.pp (qL classOf)]] fun outs r=>outs=[[.clo f []]]/\r=intA (xL (dC p) b.data.toList):=by
 have hsl:=zQ b;have hno:=jiw f p hf
 obtain⟨L,hL⟩:∃L,L=qL classOf:=⟨_,rfl⟩
 rw[<- hL] at hno ⊢;refine eN jK jT 1 Tryz.func151 rfl ?_;intro _;conv=>whnf
 refine jA [0,1,4,7] ?_;conv=>whnf
 refine jE (fun k:Nat=>[(8,.v (.int .i64 k))]) (fun _=>[[.clo f []]]) (fun _=>[]) (fun k=>k<=b.size/\jF (dC p) b.data.toList=k+jF (dC p) (b.data.toList.drop k)) (fun k=>b.size-k) 0 ?_ ⟨xtw19 _,by simp⟩ ?_
 ·repeat' constructor
 ·rintro k ⟨hk,hinv⟩;conv=>whnf
  by_cases hlt:k<b.size
  ·refine j7 (by simp;omega) ?_;conv=>whnf
   refine⟨⟨by omega,by omega⟩,?_⟩;conv=>whnf
   rw[show jC 1 (Int.toNat (k:Int)) (wF b)=_ from lG b k (by omega)];have h1:=jkq (dC p) b.data.toList k (by omega) hinv;have h2:=je1 (dC p) b.data.toList k (by omega) hinv;generalize b.data.toList[k]'(by omega)=c at *;conv=>whnf
   refine jL 0 [] (hno c) ?_;rintro o r ⟨ho,rfl⟩
   obtain rfl:o=[.clo f []]:=by simpa using ho
   conv=>whnf
   cases hq:dC p c
   ·conv=>whnf
    have:xL (dC p) b.data.toList=k:=by unfold xL;rw[h2 hq,xtw3 (by omega)]
    rw[this];exact⟨rfl,rfl⟩
   ·conv=>whnf
    refine⟨jG (by omega),?_⟩;conv=>whnf
    refine⟨k+1,zW ?_,⟨by omega,h1 hq⟩,by omega⟩;repeat' constructor
  ·refine jW (by simp;omega) ?_
   obtain rfl:k=b.size:=by omega
   conv=>whnf
   rw[xtw51 (by omega)] at hinv
   have:xL (dC p) b.data.toList = -1:=by unfold xL;rw[hinv,xtw2 (by simp[jF])]
   rw[this];exact⟨rfl,rfl⟩
theorem je0(f:Nat)(p:Int->Bool)(hf:∀k,Spec Tryz.prog f [] [.v (.int .u8 k)] fun _ r=>r=qA (p k))(b:ByteArray)(hb:b.size<=1000000000) :
  Spec Tryz.prog 150 [] [.clo f [],.pp [.v (.string b)],.pp (qL classOf)] fun _ r=>r=intA (jF (dC p) b.data.toList:Nat):=by
 have hsl:=zQ b;have hidx:=jeK f p hf b hb;have hle:=xN (dC p) b.data.toList
 obtain⟨L,hL⟩:∃L,L=qL classOf:=⟨_,rfl⟩
 rw[<- hL] at hidx ⊢;refine eN jK jT 0 Tryz.func150 rfl ?_;intro _;conv=>whnf
 refine jL 0 [] hidx ?_;rintro o r ⟨ho,rfl⟩
 obtain rfl:o=[.clo f []]:=by simpa using ho
 conv=>whnf
 by_cases hlt:jF (dC p) b.data.toList<b.data.toList.length
 ·have hv:xL (dC p) b.data.toList=(jF (dC p) b.data.toList:Nat):=by unfold xL;rw[xtw3 hlt]
  generalize xL (dC p) b.data.toList=v at *;refine jW (b:=decide (v<0)) (xtw0 (by omega)) ?_;conv=>whnf
  rw[hv];rfl
 ·have hv:xL (dC p) b.data.toList = -1:=by unfold xL;rw[xtw2 hlt]
  generalize xL (dC p) b.data.toList=v at *;refine j7 (b:=decide (v<0)) (xtw1 (by omega)) ?_;conv=>whnf
  have:jF (dC p) b.data.toList=b.size:=by omega
  rw[this];rfl
theorem jkO(c:UInt8):dC (fun k=>decide (k=2)||decide (k=3)) c=kG c:=by
 have:∀n:Fin 256,(decide (classOf n.val=2)||decide (classOf n.val=3))=((decide (97<=(n.val:Int))&&decide ((n.val:Int)<=122))||(decide (48<=(n.val:Int))&&decide ((n.val:Int)<=57))):=by decide +kernel
 exact this ⟨c.toNat,c.toNat_lt⟩
theorem jfO(c:UInt8):dC (fun k=>decide (k=3)) c=wA c:=by
 have:∀n:Fin 256,decide (classOf n.val=3)=(decide (48<=(n.val:Int))&&decide ((n.val:Int)<=57)):=by decide +kernel
 exact this ⟨c.toNat,c.toNat_lt⟩
theorem uW{p q:UInt8->Bool}(h:∀c,p c=q c)(l:List UInt8):jF p l=jF q l:=by
 have:p=q:=funext h;rw[this]
theorem jlG(b:ByteArray)(hb:b.size<=1000000000):Spec Tryz.prog 150 [] [.clo 154 [],.pp [.v (.string b)],.pp (qL classOf)] fun _ r=>r=intA (jF kG b.data.toList:Nat):=by
 have:=je0 _ _ jgm b hb;rw[uW jkO] at this;exact this
theorem jna(b:ByteArray)(hb:b.size<=1000000000):Spec Tryz.prog 150 [] [.clo 155 [],.pp [.v (.string b)],.pp (qL classOf)] fun _ r=>r=intA (jF wA b.data.toList:Nat):=by
 have:=je0 _ _ jil b hb;rw[uW jfO] at this;exact this
theorem jrA(c:UInt8):decide (classOf c.toNat=1)=nZ c:=by
 have:∀n:Fin 256,decide (classOf n.val=1)=((decide ((n.val:Int)=32)||decide ((n.val:Int)=9))||decide ((n.val:Int)=10)):=by decide +kernel
 exact this ⟨c.toNat,c.toNat_lt⟩
theorem jmh(c:UInt8):decide (classOf c.toNat=4)=kY c:=by
 have:∀n:Fin 256,decide (classOf n.val=4)=decide ((n.val:Int)=35):=by decide +kernel
 exact this ⟨c.toNat,c.toNat_lt⟩
theorem jtg(c:UInt8):decide (classOf c.toNat=2)=isL c:=by
 have:∀n:Fin 256,decide (classOf n.val=2)=(decide (97<=(n.val:Int))&&decide ((n.val:Int)<=122)):=by decide +kernel
 exact this ⟨c.toNat,c.toNat_lt⟩
theorem jtf(c:UInt8):decide (classOf c.toNat=3)=wA c:=jfO c
theorem jqt(c:UInt8):decide (classOf c.toNat=5)=qC tN (bs [c]):=by
 have:∀n:Fin 256,decide (classOf n.val=5)=qC tN (bs [UInt8.ofNat n.val]):=by decide +kernel
 have h:=this ⟨c.toNat,c.toNat_lt⟩;simpa using h
end Go.Proofs.YtfbifdccmabdbaaGreatDoor.Vm
namespace Go.Proofs.YtfbifdccmabdbaaGreatDoor.Vm
open Go.RowKit Go.Shelf
def puR(l:List UInt8):A:=if xP 0 l<0 then .tup [.v (.int .u64 2147483647),.v (.iface 206 (.int .i64 1))] else .tup [.v (.int .u64 (xP 0 l)),.v .nilIface]
theorem jjb{n:Int}(h:0<=n/\n<=18446744073709551615):lo .u64<=n/\n<=hi .u64:=h
theorem jiH(s:ByteArray)(hs:s.size<=1000000000)(hs1:1<=s.size)(hd:∀c∈s.data.toList,wA c=true) :
  Spec Tryz.prog 169 [] [.v (.string s),.v (.int .i64 10),.v (.int .i64 31)] fun _ r=>r=puR s.data.toList:=by
 have hsl:=zQ s;refine eN jK jT 0 Tryz.func169 rfl ?_;intro _;conv=>whnf
 refine jW (xtw0 fun e=>by have h0:s.size=0:=(congrArg ByteArray.size e).trans rfl;omega) ?_;conv=>whnf
 refine⟨jjb (by omega),?_⟩;conv=>whnf
 refine⟨⟨by omega,by decide⟩,?_⟩;rw[show(1:Int)*2 ^ (Int.toNat 31)=2147483648 from by decide];conv=>whnf
 refine⟨jjb (by omega),?_⟩;conv=>whnf
 refine⟨jjb (by omega),?_⟩;conv=>whnf
 refine jA [0,1,8,9,10,11,12,99,100] ?_;conv=>whnf
 refine jE (fun x:Nat×Int=>[(13,.v (.int .u64 x.2)),(101,.v (.int .i64 x.1))]) (fun _=>[]) (fun _=>[]) (fun x=>x.1<=s.size/\0<=x.2/\x.2<=2147483647/\xP x.2 (s.data.toList.drop x.1)=xP 0 s.data.toList) (fun x=>s.size-x.1) (0,0) ?_ ⟨xtw19 _,by simp,by simp,by simp⟩ ?_
 ·repeat' constructor
 ·rintro⟨j,v⟩ ⟨hj,hv0,hv1,hinv⟩
  simp only at hj hv0 hv1 hinv
  conv=>whnf
  by_cases hlt:j<s.size
  ·refine j7 (by simp;omega) ?_;conv=>whnf
   refine⟨⟨by omega,by omega⟩,?_⟩;conv=>whnf
   rw[show jC 1 (Int.toNat (j:Int)) (wF s)=_ from lG s j (by omega)];have hdj:=hd _ (xtw10 (l:=s.data.toList) (n:=j) (by omega));have hdr:=yD s.data.toList j (by omega);generalize hc:s.data.toList[j]'(by omega)=c at *;have hr:=jjW hdj;conv=>whnf
   rw[show decide ((c.toNat:Int)=95)=false from xtw0 (by omega)];conv=>whnf
   rw[show decide ((48:Int)<=(c.toNat:Int))=true from xtw1 (by omega)];conv=>whnf
   rw[show decide ((c.toNat:Int)<=57)=true from xtw1 (by omega)];conv=>whnf
   refine⟨u8r (by omega),?_⟩;conv=>whnf
   refine⟨u8r (by omega),?_⟩;conv=>whnf
   rw[show decide ((10:Int)<=(c.toNat:Int)-48)=false from xtw0 (by omega)];conv=>whnf
   refine jW (b:=decide ((1844674407370955162:Int)<=v)) (xtw0 (by omega)) ?_;conv=>whnf
   refine⟨jjb (by omega),?_⟩;conv=>whnf
   refine⟨jjb (by omega),?_⟩;conv=>whnf
   refine⟨jjb (by omega),?_⟩;conv=>whnf
   refine⟨jjb (by omega),?_⟩;conv=>whnf
   rw[show decide (v*10+((c.toNat:Int)-48)<v*10)=false from xtw0 (by omega)];conv=>whnf
   have hst:xP v (s.data.toList.drop j)=if 2147483647<10*v+(c.toNat:Int)-48 then -1 else xP (10*v+(c.toNat:Int)-48) (s.data.toList.drop (j+1)):=by rw[hdr];rfl
   have hv2:v*10+((c.toNat:Int)-48)=10*v+(c.toNat:Int)-48:=by omega
   by_cases hbig:2147483647<10*v+(c.toNat:Int)-48
   ·rw[xtw3 hbig] at hst
    have hf:xP 0 s.data.toList<0:=by rw[<- hinv,hst];decide
    refine j7 (b:=decide ((2147483647:Int)<v*10+((c.toNat:Int)-48))) (xtw1 (by omega)) ?_;conv=>whnf
    unfold puR;rw[xtw3 hf];rfl
   ·rw[xtw2 hbig] at hst;refine jW (b:=decide ((2147483647:Int)<v*10+((c.toNat:Int)-48))) (xtw0 (by omega)) ?_;conv=>whnf
    refine⟨jG (by omega),?_⟩;conv=>whnf
    refine⟨(j+1,v*10+((c.toNat:Int)-48)),zW ?_,⟨by simp only;omega,by simp only;omega,by simp only;omega,by simp only;rw[hv2,<- hst,hinv]⟩,by simp only;omega⟩;repeat' constructor
  ·refine jW (by simp;omega) ?_;rw[xtw51 (by omega)] at hinv
   have hf:xP 0 s.data.toList=v:=by rw[<- hinv];rfl
   conv=>whnf
   unfold puR;rw[hf,xtw2 (by omega)]
def rU:Go.Shelf.Ren:=⟨fun|17=>170|21=>179|22=>180|23=>181|24=>182|25=>206|26=>207|27=>208|28=>218|29=>227|30=>231|31=>232|32=>233|33=>234|34=>236|35=>205|36=>237|37=>238|38=>239|39=>241|40=>242|n=>n,fun|22=>186|24=>188|34=>206|36=>205|37=>104|39=>208|44=>226|47=>235|48=>236|50=>238|52=>248|55=>250|59=>252|60=>222|61=>253|65=>254|66=>255|67=>94|n=>n,fun|2=>3|3=>4|4=>5|n=>n⟩
theorem jcz:LaysPu.n17 Tryz.prog rU where
 mixed:=by kernel_rfl
 f17:=Tryz.func170.trans (congrArg some (by kernel_rfl))
 f21:=Tryz.func179.trans (congrArg some (by kernel_rfl))
 f22:=Tryz.func180.trans (congrArg some (by kernel_rfl))
 f23:=Tryz.func181.trans (congrArg some (by kernel_rfl))
 f24:=Tryz.func182.trans (congrArg some (by kernel_rfl))
 f25:=Tryz.func206.trans (congrArg some (by kernel_rfl))
 f26:=Tryz.func207.trans (congrArg some (by kernel_rfl))
 f27:=Tryz.func208.trans (congrArg some (by kernel_rfl))
 f28:=Tryz.func218.trans (congrArg some (by kernel_rfl))
 f29:=Tryz.func227.trans (congrArg some (by kernel_rfl))
 f30:=Tryz.func231.trans (congrArg some (by kernel_rfl))
 f31:=Tryz.func232.trans (congrArg some (by kernel_rfl))
 f32:=Tryz.func233.trans (congrArg some (by kernel_rfl))
 f33:=Tryz.func234.trans (congrArg some (by kernel_rfl))
 f34:=Tryz.func236.trans (congrArg some (by kernel_rfl))
 f35:=Tryz.func205.trans (congrArg some (by kernel_rfl))
 f36:=Tryz.func237.trans (congrArg some (by kernel_rfl))
 f37:=Tryz.func238.trans (congrArg some (by kernel_rfl))
 f38:=Tryz.func239.trans (congrArg some (by kernel_rfl))
 f39:=Tryz.func241.trans (congrArg some (by kernel_rfl))
 f40:=Tryz.func242.trans (congrArg some (by kernel_rfl))
 t0:=Tryz.underlying0
 a0:=Tryz.isAgg0
 z0:=Tryz.sizeOf0
 v0:=Tryz.zeroValue0
 i0:=by kernel_rfl
 t2:=Tryz.underlying2
 a2:=Tryz.isAgg2
 z2:=Tryz.sizeOf2
 v2:=Tryz.zeroValue2
 i2:=by kernel_rfl
 t3:=Tryz.underlying3
 a3:=Tryz.isAgg3
 z3:=Tryz.sizeOf3
 v3:=Tryz.zeroValue3
 i3:=by kernel_rfl
 t4:=Tryz.underlying4
 a4:=Tryz.isAgg4
 z4:=Tryz.sizeOf4
 v4:=Tryz.zeroValue4
 i4:=by kernel_rfl
 t5:=Tryz.underlying5
 a5:=Tryz.isAgg5
 z5:=Tryz.sizeOf5
 v5:=Tryz.zeroValue5
 i5:=by kernel_rfl
 t9:=Tryz.underlying9
 a9:=Tryz.isAgg9
 z9:=Tryz.sizeOf9
 v9:=Tryz.zeroValue9
 i9:=by kernel_rfl
 t20:=Tryz.underlying20
 a20:=Tryz.isAgg20
 z20:=Tryz.sizeOf20
 v20:=Tryz.zeroValue20
 i20:=by kernel_rfl
 t22:=Tryz.underlying186
 a22:=Tryz.isAgg186
 z22:=Tryz.sizeOf186
 v22:=Tryz.zeroValue186
 i22:=by kernel_rfl
 t24:=Tryz.underlying188
 a24:=Tryz.isAgg188
 z24:=Tryz.sizeOf188
 v24:=Tryz.zeroValue188
 i24:=by kernel_rfl
 t34:=Tryz.underlying206
 a34:=Tryz.isAgg206
 z34:=Tryz.sizeOf206
 v34:=Tryz.zeroValue206
 i34:=by kernel_rfl
 c34:=by kernel_rfl
 t36:=Tryz.underlying205
 a36:=Tryz.isAgg205
 z36:=Tryz.sizeOf205
 v36:=Tryz.zeroValue205
 i36:=by kernel_rfl
 t37:=Tryz.underlying104
 a37:=Tryz.isAgg104
 z37:=Tryz.sizeOf104
 v37:=Tryz.zeroValue104
 i37:=by kernel_rfl
 t39:=Tryz.underlying208
 a39:=Tryz.isAgg208
 z39:=Tryz.sizeOf208
 v39:=Tryz.zeroValue208
 i39:=by kernel_rfl
 t44:=Tryz.underlying226
 a44:=Tryz.isAgg226
 z44:=Tryz.sizeOf226
 v44:=Tryz.zeroValue226
 i44:=by kernel_rfl
 t47:=Tryz.underlying235
 a47:=Tryz.isAgg235
 z47:=Tryz.sizeOf235
 v47:=Tryz.zeroValue235
 i47:=by kernel_rfl
 t48:=Tryz.underlying236
 a48:=Tryz.isAgg236
 z48:=Tryz.sizeOf236
 v48:=Tryz.zeroValue236
 i48:=by kernel_rfl
 t50:=Tryz.underlying238
 a50:=Tryz.isAgg238
 z50:=Tryz.sizeOf238
 v50:=Tryz.zeroValue238
 i50:=by kernel_rfl
 t52:=Tryz.underlying248
 a52:=Tryz.isAgg248
 z52:=Tryz.sizeOf248
 v52:=Tryz.zeroValue248
 i52:=by kernel_rfl
 t55:=Tryz.underlying250
 a55:=Tryz.isAgg250
 z55:=Tryz.sizeOf250
 v55:=Tryz.zeroValue250
 i55:=by kernel_rfl
 t59:=Tryz.underlying252
 a59:=Tryz.isAgg252
 z59:=Tryz.sizeOf252
 v59:=Tryz.zeroValue252
 i59:=by kernel_rfl
 t60:=Tryz.underlying222
 a60:=Tryz.isAgg222
 z60:=Tryz.sizeOf222
 v60:=Tryz.zeroValue222
 i60:=by kernel_rfl
 t61:=Tryz.underlying253
 a61:=Tryz.isAgg253
 z61:=Tryz.sizeOf253
 t65:=Tryz.underlying254
 a65:=Tryz.isAgg254
 z65:=Tryz.sizeOf254
 v65:=Tryz.zeroValue254
 i65:=by kernel_rfl
 t66:=Tryz.underlying255
 a66:=Tryz.isAgg255
 z66:=Tryz.sizeOf255
 v66:=Tryz.zeroValue255
 i66:=by kernel_rfl
 t67:=Tryz.underlying94
 a67:=Tryz.isAgg94
 z67:=Tryz.sizeOf94
 v67:=Tryz.zeroValue94
 i67:=by kernel_rfl
 g0:=by kernel_rfl
 m0:=by kernel_rfl
 g1:=by kernel_rfl
 m1:=by kernel_rfl
 g2:=by kernel_rfl
 m2:=by kernel_rfl
 g3:=by kernel_rfl
 m3:=by kernel_rfl
 g4:=by kernel_rfl
 m4:=by kernel_rfl

theorem jf7{E:Env}:∀{l us:List Value},A.repL (l.map .v) E us->us=l
 |[],us,h=>by unfold A.repL at h;exact h
 |x::r,us,h=>by
  simp only[xtw22] at h;unfold A.repL at h;obtain⟨u,us',rfl,h1,h2⟩:=h;rw[(A.rep_v_iff.1 h1).1,jf7 h2]
theorem jfh(fn s:ByteArray)(hs:s.size<=1000000000):Spec Tryz.prog 170 [] [.v (.string fn),.v (.string s),.v (.int .i64 10),.v (.int .i64 31),.v (.iface 206 (.int .i64 1))] fun _ r=>r=.err:=by
 refine lO (eQ Tryz.func170 rfl (by kernel_rfl)) fun w C vals h0 h1 h2=>?_
 obtain rfl:=jf7 (l:=[.string fn,.string s,.int .i64 10,.int .i64 31,.iface 206 (.int .i64 1)]) h2;have hg:=h0.at (g:=1) (cs:=[.err]) rfl;simp only[A.repAt,A.rep] at hg;obtain⟨⟨u,k1,k2,t,v,rfl⟩,-⟩:=hg;refine(AnyPu.strconv_toError_range jcz fn s 10 31 _ w (by omega) (h1 _ _ k1) (.inr ⟨t,v,rfl⟩)).mono ?_;rintro e w' ⟨n,rfl,k3,k4,k5⟩;exact⟨_,rfl,k5,by unfold A.rep;exact⟨_,_,rfl⟩⟩
theorem jpC(s:ByteArray)(hs:s.size<=1000000000)(hs1:1<=s.size)(hd:∀c∈s.data.toList,wA c=true) :
  Spec Tryz.prog 156 [] [.v (.string s),.v (.int .i64 10),.v (.int .i64 31)] fun _ r=>r=if xP 0 s.data.toList<0 then .tup [.v (.int .u64 2147483647),.err] else .tup [.v (.int .u64 (xP 0 s.data.toList)),.v .nilIface]:=by
 have hpu:=jiH s hs hs1 hd;unfold puR at hpu;refine eN jK jT 0 Tryz.func156 rfl ?_;intro _;conv=>whnf
 refine jY [] hpu ?_;rintro r rfl;generalize xP 0 s.data.toList=v at *;by_cases hv:v<0
 ·rw[xtw3 hv,xtw3 hv];conv=>whnf
  refine jcY [] rfl (fun _=>jfh _ s hs) ?_;rintro r rfl;conv=>whnf
 ·rw[xtw2 hv,xtw2 hv];conv=>whnf
end Go.Proofs.YtfbifdccmabdbaaGreatDoor.Vm
namespace Go.Proofs.YtfbifdccmabdbaaGreatDoor.Vm
open Go.RowKit
theorem jtq{d:Prop}{i:Decidable d}{p q:Unit->Prop}(h:Tab.get.match_1 (fun _=>Prop) (@decide d i) p q):Tab.get.match_1 (fun _=>Prop) (@decide d i) p q:=h
theorem jtr{d:Prop}{i:Decidable d}{p q:Unit->Prop}(h:Tab.get.match_1 (fun _=>Prop) (!@decide d i) p q):Tab.get.match_1 (fun _=>Prop) (!@decide d i) p q:=h
theorem jts{d:Prop}{i:Decidable d}{b:Bool}{p q:Unit->Prop}(h:Tab.get.match_1 (fun _=>Prop) (@decide d i&&b) p q):Tab.get.match_1 (fun _=>Prop) (@decide d i&&b) p q:=h
theorem jtt{d:Prop}{i:Decidable d}{b:Bool}{p q:Unit->Prop}(h:Tab.get.match_1 (fun _=>Prop) (!(@decide d i&&b)) p q):Tab.get.match_1 (fun _=>Prop) (!(@decide d i&&b)) p q:=h
theorem jtu{d:Prop}{i:Decidable d}{b:Bool}{p q:Unit->Prop}(h:Tab.get.match_1 (fun _=>Prop) (@decide d i==b) p q):Tab.get.match_1 (fun _=>Prop) (@decide d i==b) p q:=h
theorem jtv{d:Prop}{i:Decidable d}{b:Bool}{p q:Unit->Prop}(h:Tab.get.match_1 (fun _=>Prop) (!(@decide d i==b)) p q):Tab.get.match_1 (fun _=>Prop) (!(@decide d i==b)) p q:=h
theorem jtw{b c:Bool}{p q:Unit->Prop}(h:Tab.get.match_1 (fun _=>Prop) (!(b&&c)) p q):Tab.get.match_1 (fun _=>Prop) (!(b&&c)) p q:=h
theorem jtx{b c:Bool}{p q:Unit->Prop}(h:Tab.get.match_1 (fun _=>Prop) (b&&c) p q):Tab.get.match_1 (fun _=>Prop) (b&&c) p q:=h
theorem jrS{c:Bool}{p q:Prop}(h:ifK c p q):ifK c p q:=h
theorem tL{n:Nat}(h:n<=100000000000000):n<=maxLen:=by unfold maxLen;omega
theorem juq{α:Sort _}{x y:α}(h:x=y):x=y:=h
structure Tag(q:Prop):Prop where
 t:True
structure jsT(q:Prop):Prop where
 un:q
theorem cR{p q:Prop}(hq:q)(k:jsT q->p:=by intro hq;(repeat (first|((with_reducible refine And.intro ?_ ?_);(focus (first|omega|(with_reducible refine jG ?_;(first|omega|(simp only[xtw4,xtw6,xtw8,xtw44,xtw7];omega)|(dsimp only;omega)))|(with_reducible refine tL ?_;(first|omega|(simp only[xtw4,xtw6,xtw8,xtw44,xtw7];omega)|(dsimp only;omega)))|((fail_if_success (with_reducible refine tL ?_));decide)|(simp only[xtw4,xtw6,xtw8,xtw44,xtw7];omega)|(dsimp only;omega)|((with_reducible refine jG ?_);dsimp only;omega)));(conv=>whnf))|((first|with_reducible refine jtq ?_|with_reducible refine jtr ?_|with_reducible refine jts ?_|with_reducible refine jtt ?_|with_reducible refine jtu ?_|with_reducible refine jtv ?_|with_reducible refine jtw ?_|with_reducible refine jtx ?_|with_reducible refine jrS ?_);first|((focus (rw[xtw1];rotate_left;focus (first|(first|omega|(simp only[xtw4,xtw6,xtw8,xtw44,xtw7];omega)|(dsimp only;omega))|((with_reducible refine juq ?_);rfl))));(first|with_reducible refine j7 rfl ?_|with_reducible refine jW rfl ?_|skip);(conv=>whnf))|((focus (rw[xtw0];rotate_left;focus (first|(first|omega|(simp only[xtw4,xtw6,xtw8,xtw44,xtw7];omega)|(dsimp only;omega))|(intro h;cases h;done))));(first|with_reducible refine j7 rfl ?_|with_reducible refine jW rfl ?_|skip);(conv=>whnf)))));all_goals exact hq.un)(d:Tag q:=by first|exact(Tag.mk trivial:Tag True)|exact Tag.mk trivial):p:=k ⟨hq⟩
end Go.Proofs.YtfbifdccmabdbaaGreatDoor.Vm
namespace Go.Proofs.YtfbifdccmabdbaaGreatDoor.Vm
open Go.RowKit Go.Shelf
def jgE:Nat->List UInt8->Nat
 |n,[]=>n
 |n,c::r=>jgE (10*n+(c.toNat-48)) r
def jcs(l:List UInt8):Bool:=l.all wA
def jbX(l:List UInt8):Prop:=∀k,k<=l.length->jcs (l.take k)=true->jgE 0 (l.take k)<=99999999999
def juv(l:List UInt8):Option Nat:=if l≠[]/\jcs l=true then some (jgE 0 l) else none
def oZ(s:ByteArray):ByteArray×Bool:=match s.data.toList with
 |[]=>(s,false)
 |c::r=>if c=118 then(bs r,true) else(s,false)
theorem jmk{s:ByteArray}(h:s.data.toList=[]):oZ s=(s,false):=by unfold oZ;rw[h]
theorem jrD{s:ByteArray}{r:List UInt8}(h:s.data.toList=118::r):oZ s=(bs r,true):=by unfold oZ;rw[h];rfl
theorem jjD{s:ByteArray}{c:UInt8}{r:List UInt8}(h:s.data.toList=c::r)(hc:c≠118):oZ s=(s,false):=by unfold oZ;rw[h];exact xtw2 hc
end Go.Proofs.YtfbifdccmabdbaaGreatDoor.Vm
namespace Go.Proofs.YtfbifdccmabdbaaGreatDoor.Vm
open Go.RowKit
def joS(rows:List Row)(bx:List (List A))(a:A):Option A:=match ren [] rows a with
 |some a'=>some a'
 |none=>match a with
  |.box b off=>match bx[b]? with
   |some cs=>match q8 [] rows (cs.drop off) with
    |some cs'=>some (.pp (nV cs'))
    |none=>none
   |none=>none
  |_=>none
def uD(rows:List Row)(bx:List (List A)):List A->Option (List A)
 |[]=>some []
 |a::r=>match joS rows bx a with
  |some a'=>match uD rows bx r with
   |some r'=>some (a'::r')
   |none=>none
  |none=>none
def jss(c:Cx)(rv:List ResultVar)(post:List (List A)->A->Prop)(s:S):Prop :=
 jlp c.T s rv fun r=>match r with
  |.clo f caps=>match uD (jB s.rw (o7 caps)) s.bx caps with
   |some caps'=>post [] (.clo f caps')
   |none=>False
  |_=>False
def juo(c:Cx)(rv:List ResultVar)(post:List (List A)->A->Prop)(e:Exit)(s:S):Prop :=
 match e with
 |.ret=>jss c rv post s
 |.normal=>jss c rv post s
 |_=>False
theorem jhk{c:Cx}{f:Nat}{fn:Func}{x:Code}{args:List A}{post:List (List A)->A->Prop}(hc:c.ok)(hf:c.P.funcs[f]?=some fn)(hb:fn.body=some x)(hname:(fn.name == "runtime.NumGoroutine")=false)
  (hn:c.np=0) (hq:∀ch s,¬c.pan ch s) (hord:kI c.ord x=true) (h:nK args->yT args (fn.ntmps-args.length) fun t=>sQ c x ⟨t,[],[]⟩ (juo c fn.results.toList post)):Spec c.P f [] args post:=by
 refine⟨aS hf hb hname,fun w C β vals h0 h1 h2 h3 h4 h5 h6=>?_⟩;have hβ:β=[]:=xtw15 (by simpa using h4.symm);subst hβ;have hl:=A.repL_len h6;refine calls_of_wp hf hb ?_;have hinit:=initK_iff.1 (h (wD _ h6))
 have hinv:Inv [] (.of w) C [] ⟨args++List.replicate (fn.ntmps-args.length) .dead,[],[]⟩ { tmps:=vals.toArray++Array.replicate (fn.ntmps-vals.toArray.size) undef,defers:=[] } w:=by
  refine⟨⟨C,[],[]⟩,⟨h1,Sub.refl _,fun _ _ hc=>.inl hc,⟨[],by simp,by simp⟩,h2,h3,h4,h5,rfl,fun g r y hg=>by simp at hg,fun g e k n cs y b hg=>by simp at hg,fun g e k n cs y h' e' k' n' cs' z b _ hg=>by simp at hg,fun g y hg=>by simp at hg,Keeps.refl _ _,jie h0⟩,?_,rfl⟩
  have:(vals.toArray++Array.replicate (fn.ntmps-vals.toArray.size) undef).toList=vals++List.replicate (fn.ntmps-args.length) undef:=by simp[hl]
  rw[this];exact A.repL_append h6 (gN _ _)
 refine nL hc (by rw[hn];rfl) ⟨0,rfl⟩ x (.inl rfl) (fun ch s' _ _ h _=>absurd h (hq ch s')) hord hinv hinit ?_;have fin:∀(s':S) (a':Act) (w':World),jss c fn.results.toList post s'->Inv [] (.of w) C [] s' a' w'->a'.defers=[]/\∃v,(results fn a'.tmps).run c.P w'=.ok v w'/\∃outs r v',Ending.returned v=.returned v'/\post outs r/\Keeps [] w w'/\outs.length=([]:List Nat).length ∧
   (∀(i b:Nat) (cs:List A),([]:List Nat)[i]?=some b->outs[i]?=some cs->boxAt w' ⟨qY C w w',[],[]⟩ b cs)/\r.rep ⟨qY C w w',[],[]⟩ v':=fun s' a' w' hr ⟨E,hp,ht,hd⟩=>by
  obtain⟨r,v,g1,g2,g3⟩:=jag (fn:=fn) hc hp ht hr;refine⟨hd,v,g3,?_⟩;split at g1
  ·rename_i f' caps;split at g1
   ·rename_i caps' hcaps;obtain⟨C1,hp1,le1⟩:=hp.pubs (o7 caps)
    have lep:Sub C1 (qY C w w'):=fun ad u hc=>by
     unfold qY;rcases hp1.fresh0 ad u hc with h7|h7
     ·rw[xtw3 (qI w ad (h1 ad u h7))];exact h7
     ·rw[xtw2 (by omega)];exact hp1.sub ad u hc
    have le0:(⟨C1,[],[]⟩:Env).le ⟨qY C w w',[],[]⟩:=⟨lep,fun _ _ h=>h,fun _ _ h=>h⟩
    have hY:yR ⟨C1,E.β,E.ρ⟩ [] []:=fun j i hj=>by simp at hj
    have one:∀(a a2:A) (y:Value),joS (jB s'.rw (o7 caps)) s'.bx a=some a2->a.rep E y->a2.rep ⟨qY C w w',[],[]⟩ y:=fun a a2 y hcp hy=>by
     have hy1:=A.rep.mono a le1 hy;unfold joS at hcp;split at hcp
     ·rename_i a3 hren;cases hcp;exact A.rep.mono _ le0 (jae hp1 hY a hren hy1)
     ·split at hcp
      ·rename_i b off _;split at hcp
       ·rename_i cs hcs;split at hcp
        ·rename_i cs' hrn;cases hcp;unfold A.rep at hy1;obtain⟨bb,q1,q2⟩:=hy1;obtain⟨T',arr,q3,q4⟩:=hp1.bxs b bb cs q1 hcs
         have hbb:w.heap.size<=bb:=by
          obtain⟨β',e1,e2⟩:=hp1.bp;rw[xtw53] at e1;exact e2 bb (by rw[<- e1];exact xtw20.2 ⟨b,q1⟩)
         unfold A.rep;refine⟨bb,off,q2,?_⟩;have q5:=jcg q4.1 off;have q6:A.repC (nV cs') ⟨C1,[],[]⟩ (arr.toList.drop off):=A.repC_mk (yC hp1 hY (nV (cs.drop off)) (jgV hrn) (A.repC_L q5)) (A.repC_one q5)
         refine A.repAt_mk (E:=(⟨qY C w w',[],[]⟩:Env).per) (A.repC.mono _ le0 q6) fun j u hj=>?_
         show qY C w w' _=_;rw[jbC hbb];rw[List.getElem?_drop] at hj;simp only[kR,World.cell?,q3];simpa using hj
        ·cases hcp
       ·cases hcp
      ·cases hcp
    have all:∀(l l2:List A) (us:List Value),uD (jB s'.rw (o7 caps)) s'.bx l=some l2->A.repL l E us->A.repL l2 ⟨qY C w w',[],[]⟩ us:=fun l=>by
     induction l with
     |nil =>
      intro l2 us h7 h8;unfold uD at h7;cases h7;unfold A.repL at h8 ⊢;exact h8
     |cons a l ih =>
      intro l2 us h7 h8;unfold uD at h7;split at h7
      ·rename_i a' ha;split at h7
       ·rename_i r' hr';cases h7;unfold A.repL at h8 ⊢;obtain⟨u,us',rfl,q1,q2⟩:=h8;exact⟨u,us',rfl,one _ _ _ ha q1,ih _ _ hr' q2⟩
       ·cases h7
      ·cases h7
    refine⟨[],_,v,rfl,g1,hp.keep0,rfl,fun i b cs hb=>by simp at hb,?_⟩;unfold A.rep at g2 ⊢;obtain⟨us,q1,q2⟩:=g2;exact⟨us,q1,all _ _ _ hcaps q2⟩
   ·exact g1.elim
  ·exact g1.elim
 intro e s' a' w' hq hi
 cases e with
 |normal=>exact fin s' a' w' hq hi
 |ret=>exact fin s' a' w' hq hi
 |_=>exact hq.elim
theorem jls(s:ByteArray):Spec Tryz.prog 131 [] [.v (.string s)] fun _ r=>r=.clo 149 [.pp [.v (.string s)],.pp (qL classOf)]:=by
 refine jhk (qE jK jT 0) Tryz.func131 rfl (by kernel_rfl) rfl (fun _ _ h=>h) (by kernel_rfl) ?_;intro _;have hcl:=jex;have hpl:=jaL classOf;have hlen:=xJ classOf
 have hu:nV (qL classOf)=qL classOf:=by kernel_rfl
 generalize qL classOf=L at *;conv=>whnf
 refine jY [] hcl ?_;rintro r rfl;rw[show back [] (A.agg L)=.agg L from by unfold back;rw[uC hpl]];conv=>whnf
 rw[hlen];conv=>whnf
 refine pV (ds:=L) [] (by rw[hlen];rfl) ?_;rw[xtw53];conv=>whnf
 have hcp:uD ([]:List Row) [[A.v (Value.string s)],L] [A.box 0 0,A.box (0+1) 0]=some [.pp [.v (.string s)],.pp L]:=by
  have h1:q8 [] ([]:List Row) (L.drop 0)=some L:=by rw[xtw118];exact pK hpl
  simp[uD,joS,ren,idx,q8] at h1 ⊢;rw[h1];show some [A.pp [.v (.string s)],.pp (nV L)]=_;rw[hu]
 change (match uD ([]:List Row) [[A.v (Value.string s)],L] [A.box 0 0,A.box (0+1) 0] with
  |some caps'=>A.clo 149 caps'=A.clo 149 [.pp [.v (.string s)],.pp L]
  |none=>False)
 rw[hcp]
section
def ppS(nr:Nat)(cs:List A)(a:A):A:=match a with
 |.box b off=>match b with
  |0=>.pp (cs.drop off)
  |_+1=>.dead
 |a=>match y8 0 nr a with
  |true=>a
  |false=>.dead
theorem fV{t:List A}{cs cs':List A}{rw:List Row}(hcs:q8 [] rw cs=some cs')(hna:nV cs'=cs':=by rfl):Le 0 ⟨t,[cs],rw⟩ ⟨t.map (ppS rw.length cs'),[],rw⟩:=by
 rintro dr w0 C0 β0 a w hdr hn ⟨E,hp,hrep,hd⟩;obtain rfl:β0=[]:=xtw15 hn;have hbl:=hp.bl
 obtain⟨b,hβ⟩:∃b,E.β=[b]:=by
  have:E.β.length=1:=by rw[<- hbl];rfl
  exact xtw77.1 this
 have h0:E.β[0]?=some b:=by rw[hβ];rfl
 obtain⟨T',arr,q1,q2⟩:=hp.bxs 0 b cs h0 rfl
 have hbm:b∈E.β:=by rw[hβ];simp
 have hb0:w0.w.heap.size<=b:=by
  obtain⟨β',e1,e2⟩:=hp.bp;rw[xtw53] at e1;exact e2 b (by rw[<- e1];exact hbm)
 obtain⟨C',hC'⟩:∃C':Rd,C'=fun ad=>if ad.block=b then(kR w) ad else E.C ad:=⟨_,rfl⟩
 have hsub:Sub E.C C':=fun ad u hc=>by
  rw[hC']
  simp only
  split
  ·exact hp.sub ad u hc
  ·exact hc
 have le:(⟨E.C,[],E.ρ⟩:Env).le ⟨C',[],E.ρ⟩:=⟨hsub,fun _ _ h=>h,fun _ _ h=>h⟩
 have hat:A.repAt cs' ⟨C',[],[]⟩ b 0:=by
  have hY:yR E [] []:=fun j i hj=>by simp at hj
  have q3:A.repC cs' ⟨E.C,[],[]⟩ arr.toList:=by
   have:=(q2.ren hp hY hcs).1;rwa [hna] at this
  refine A.repAt_mk (E:=⟨C',[],[]⟩) (A.repC.mono _ (E:=⟨E.C,[],[]⟩) (F:=⟨C',[],[]⟩) ⟨hsub,fun _ _ h=>h,fun _ _ h=>h⟩ q3) fun j u hj=>?_
  show C' _=_;rw[hC'];simp only[xtw127,xtw41];simp only[kR,World.cell?,q1];simpa using hj
 have hd':repD dr ⟨C',[],E.ρ⟩ a.defers:=by
  have h1:=mK (E:=E) (nb:=0) (nr:=E.ρ.length) (xtw11 0) hdr hd;rw[xtw99,xtw54] at h1;exact h1.mono le
 refine⟨⟨C',[],E.ρ⟩,⟨fun ad u hc=>?_,hp.base.trans hsub,fun ad u hc=>?_,⟨[],rfl,by simp⟩,xtw92,fun b hb=>by simp at hb,rfl,fun i b cs hb=>by simp at hb,hp.rl,fun g r y h1 h2=>?_,fun g e k n cs y b' h1 h2 h3=>⟨by simp,fun o sp=>?_⟩,hp.rd,hp.rs,hp.keep,hp.gk⟩,?_,hd'⟩
 ·rw[hC'] at hc
  simp only at hc
  split at hc
  ·exact hc
  ·exact hp.sub ad u hc
 ·rw[hC'] at hc
  simp only at hc
  split at hc
  ·rename_i e;exact .inr (.inl (by rw[e];exact hb0))
  ·exact hp.fresh ad u hc
 ·have hr:=hp.rws g r y h1 h2
  cases r with
  |live e k n cs =>
   obtain⟨xs,g1,g2⟩:=hr;exact⟨xs,g1,A.repC.mono cs (E:=⟨E.C,[],[]⟩) (F:=⟨C',[],[]⟩) ⟨hsub,fun _ _ h=>h,fun _ _ h=>h⟩ g2⟩
  |pub k n cs =>
   have hr:(A.sl k n cs).rep E y:=hr;show(A.sl k n cs).rep _ y;unfold A.rep at hr ⊢;obtain⟨g1,g2,p,bb,off,cap,g3,g4,g5,g6,g7⟩:=hr;exact⟨g1,g2,p,bb,off,cap,g3,g4,g5,g6,A.repAt.mono cs (E:=⟨E.C,[],[]⟩) (F:=⟨C',[],[]⟩) ⟨hsub,fun _ _ h=>h,fun _ _ h=>h⟩ g7⟩
  |gone=>exact trivial
 ·have hr:=hp.rC g e k n cs y b' h1 h2 h3
  have hne:¬b'=b:=fun e'=>hr.1 (by rw[e'];exact hbm)
  rw[hC'];simp only[xtw2 hne];exact hr.2 o sp
 ·have one:∀(a:A) (y:Value),a.rep E y->(ppS rw.length cs' a).rep ⟨C',[],E.ρ⟩ y:=fun a y ha=>by
   have gen:(∀b off,a≠.box b off)->(ppS rw.length cs' a).rep ⟨C',[],E.ρ⟩ y:=fun hnb=>by
    have e:ppS rw.length cs' a=match y8 0 rw.length a with|true=>a|false=>.dead:=by
     cases a <;> first|rfl|exact absurd rfl (hnb _ _)
    rw[e];split
    ·rename_i hrf;have:=lF (nb:=0) (nr:=rw.length) a hrf ha;refine A.rep.mono a le ?_
     have e2:E.ρ.take rw.length=E.ρ:=by rw[hp.rl];exact xtw54
     rw[e2] at this;simpa using this
    ·exact A.rep_dead _ _
   cases a with
   |box b' off =>
    unfold A.rep at ha;obtain⟨bb,g1,g2⟩:=ha
    cases b' with
    |zero =>
     rw[h0] at g1;cases g1;show(A.pp (cs'.drop off)).rep _ y;unfold A.rep;refine⟨b,off,g2,?_⟩;have:=A.repAt_drop off hat;rwa [xtw41] at this
    |succ n=>exact A.rep_dead _ _
   |_=>exact gen (by intros;simp)
  have all:∀(l:List A) (us:List Value),A.repL l E us->A.repL (l.map (ppS rw.length cs')) ⟨C',[],E.ρ⟩ us:=fun l=>by
   induction l with
   |nil=>intro us h;simpa [A.repL] using h
   |cons a l ih =>
    intro us h;simp only[xtw22];unfold A.repL at h ⊢;obtain⟨u,us',rfl,h1,h2⟩:=h;exact⟨u,us',rfl,one a u h1,ih us' h2⟩
  exact all _ _ hrep
theorem jec{n:Nat}{P:Program}{row:String}{args:Array Value}{w:World}{R:Value->World->Prop}(h:Rows P row args w R):RowsIn Fence.wide n P row args w R :=
 fun c cs _=>let ⟨v,w',r,s⟩:=h c cs;⟨v,w',r,stepsIn_wide.2 s⟩
theorem jqf{n:Nat}{P:Program}{o:Oper}{a:Act}{w:World}{K:Act->World->Prop}{Q:Exit->Act->World->Prop}(h:o.wp P a w K Q):o.wpIn Fence.wide n P a w K Q:=by
 refine⟨fun _ _=>trivial,?_⟩;have e:o.semAt Fence.wide.round a.eval=execOp a.eval o:=rfl;rw[e];unfold Oper.wp at h;generalize (execOp a.eval o).run P w=r at *
 match r,h with
 |.ok (.value v) w',h=>exact h
 |.ok .skip w',h=>exact h
 |.ok (.defer d) w',h=>exact h
 |.ok (.enter f args) w',h=>exact⟨fun h'=>by simp[Fence.wide] at h',callsIn_wide.2 h⟩
 |.ok (.row row args) w',h=>exact⟨fun h'=>by simp[Fence.wide] at h',jec h⟩
 |.halt (.panic v) w',h=>exact h
section
variable{c:Cx}{w0:W0}{C0:Rd}{β0:List Nat}{s:S}{a:Act}{w:World}{E:Env}{o:Oper}{n:Nat}
theorem jbV{ops:List Oper}{Q:Exit->Act->World->Prop}(hc:c.okN)(l2:List Oper):∀{l:List Oper} {s:S} {a:Act} {w:World} {K:S->Prop},Inv [] w0 C0 β0 s a w->oT c ops l s K->(∀s' a' w',K s'->Inv [] w0 C0 β0 s' a' w'->wpListIn Fence.wide n c.P ops.toArray Q l2 a' w')->wpListIn Fence.wide n c.P ops.toArray Q (l++l2) a w
 |[],s,a,w,K,hi,h,hk=>hk s a w h hi
 |o::r,s,a,w,K,hi,h,hk=>by
  obtain⟨E,hp,ht,hd⟩:=hi
  change bP ops o s (ado c (fun _=>true) s o fun s'=>oT c ops r s' K) (kZ s o.dst (.tup []) fun s'=>oT c ops r s' K) at h
  show wpListIn Fence.wide n c.P ops.toArray Q (o::(r++l2)) a w;unfold wpListIn;rcases v7 ht h with ⟨h1,h2⟩|⟨h1,h2⟩
  ·rw[xtw3 h1];exact jqf (jfW hc.ok ⟨0,rfl⟩ ⟨E,hp,ht,hd⟩ h2 (fun ch s' _ _ h _=>absurd h (hc.no ch s')) fun s' a' w' h3 h4=>jbV hc l2 h4 h3 hk)
  ·rw[xtw2 (by rw[h1];simp)];obtain⟨s2,k1,k2,k3,k4,k5⟩:=qZ (a:=a) hp ht hd (wM _) h2;exact⟨fun _ _=>trivial,jbV hc l2 ⟨E,by rw[k2,k3];exact hp,k4,k5⟩ k1 hk⟩
theorem jgM{x:Code}{q:Exit->S->Prop}{Q:Exit->Act->World->Prop}(hc:c.okN)(hn:β0.length=c.np)(ho:kI c.ord x=true)(hi:Inv [] w0 C0 β0 s a w)(h:sQ c x s q)(hk:∀e s' a' w',q e s'->Inv [] w0 C0 β0 s' a' w'->Q e a' w'):x.wpIn Fence.wide n c.P Q a w :=
 wpIn_wide.2 (nL hc.ok hn ⟨0,rfl⟩ x (.inl rfl) (fun ch s' _ _ h _=>absurd h (hc.no ch s')) ho hi h hk)
theorem Inv.le{s':S}{np:Nat}(hi:Inv [] w0 C0 β0 s a w)(h:Le np s s')(hn:β0.length=np):Inv [] w0 C0 β0 s' a w:=h [] w0 C0 β0 a w rfl hn hi
theorem Inv.again{t:List A}{C:Rd}{u0:World}(hi:Inv [] (.of u0) C [] ⟨t,[],[]⟩ a w):∃C',Sub C C'/\Sub C' (kR w)/\(∀ad u,C' ad=some u->C ad=some u∨u0.heap.size<=ad.block)/\Keeps [] u0 w/\Gok C' w/\∀w',Sub C' (kR w')->Gok C' w'->Inv [] (.of w') C' [] ⟨t,[],[]⟩ a w':=by
 obtain⟨E,hp,ht,hd⟩:=hi;have hβ:E.β=[]:=xtw15 (by rw[<- hp.bl];rfl);have hρ:E.ρ=[]:=xtw15 (by rw[<- hp.rl];rfl);refine⟨E.C,hp.base,hp.sub,hp.fresh0,hp.keep0,hp.gok,fun w' hw' hg'=>⟨⟨E.C,[],[]⟩,⟨hw',Sub.refl _,fun _ _ h=>.inl h,⟨[],rfl,by simp⟩,xtw92,fun b hb=>by simp at hb,rfl,fun i b cs hb=>by simp at hb,rfl,fun g r y hg=>by simp at hg,fun g e k n cs y b hg=>by simp at hg,fun g e k n cs y h' e' k' n' cs' z b _ hg=>by simp at hg,fun g y hg=>by simp at hg,Keeps.refl _ _,jie hg'⟩,?_,hd⟩⟩
 have:E=⟨E.C,[],[]⟩:=by
  obtain⟨C',β',ρ'⟩:=E
  simp only at hβ hρ
  rw[hβ,hρ]
 rw[this] at ht;exact ht
end
end
section
def dS(B:Nat)(W:World)(b:Nat):Prop:=b=B∨∃a l c,W.cell? ⟨B,0,none⟩=some (.slice (some a) l c)/\a.block=b
def ValB(B:Nat)(W:World):Prop:=(∃o,W.heap[B]?=some o/\o.isCells=true)/\∀b,dS B W b->b<W.heap.size
def uM(o:Obj):Bool:=o.isCells||o.isWalk
theorem jmN{o:Obj}(h:o.isCells=false)(k:o.isWalk=false):uM o=false:=by simp[uM,h,k]
theorem jgk{o:Obj}(h:o.isCells=true):uM o=true:=by simp[uM,h]
def KpB(B:Nat)(W W':World):Prop:=ValB B W->ValB B W'/\W.heap.size<=W'.heap.size/\(∀b,dS B W' b->dS B W b∨W.heap.size<=b)/\∀b o,W.heap[b]?=some o->uM o=true->¬dS B W b->W'.heap[b]?=some o
theorem vP{W:World}{b:Nat}{o:Obj}(h:W.heap[b]?=some o):b<W.heap.size:=(xtw27.1 h).1
theorem ValB.lt{B:Nat}{W:World}(h:ValB B W):B<W.heap.size:=h.2 B (.inl rfl)
theorem KpB.refl(B:Nat)(W:World):KpB B W W:=fun h=>⟨h,xtw11 _,fun _ h=>.inl h,fun _ _ h _ _=>h⟩
theorem KpB.trans{B:Nat}{a b c:World}(h:KpB B a b)(k:KpB B b c):KpB B a c:=fun hv=>by
 obtain⟨h1,h2,h3,h4⟩:=h hv;obtain⟨k1,k2,k3,k4⟩:=k h1;refine⟨k1,xtw58 h2 k2,fun x hx=>?_,fun x o hx ho hn=>k4 x o (h4 x o hx ho hn) ho fun ho'=>?_⟩
 ·rcases k3 x hx with hx|hx
  ·exact h3 x hx
  ·exact .inr (by omega)
 ·rcases h3 x ho' with hx'|hx'
  ·exact hn hx'
  ·have:=vP hx;omega
theorem mH{B:Nat}{W W':World}(h:W'.heap[B]?=W.heap[B]?)(b:Nat):dS B W' b↔dS B W b:=by
 have:W'.cell? ⟨B,0,none⟩=W.cell? ⟨B,0,none⟩:=World.cell?_of_block (w:=W) h;unfold dS;rw[this]
theorem KpB.put{B:Nat}(W:World)(l:Nat)(o o':Obj)(hl:W.heap[l]?=some o)(ho:uM o=false):KpB B W (W.putObj l o'):=fun hv=>by
 obtain⟨⟨ob,h1,h2⟩,h3⟩:=hv
 have hne:∀(b:Nat) (ob:Obj),W.heap[b]?=some ob->uM ob=true->(W.putObj l o').heap[b]?=W.heap[b]?:=fun b ob h1 h2=>by
  refine World.putObj_heap_other ?_;rintro rfl;rw[hl] at h1;cases h1;rw[ho] at h2;cases h2
 have hsz:(W.putObj l o').heap.size=W.heap.size:=by simp[World.putObj]
 have hB:=hne B ob h1 (jgk h2);refine⟨⟨⟨ob,by rw[hB];exact h1,h2⟩,fun b hb=>?_⟩,by omega,fun b hb=>.inl ((mH hB b).1 hb),fun b o hb hoc _=>(hne b o hb hoc).trans hb⟩;rw[hsz];exact h3 b ((mH hB b).1 hb)
theorem ValB.keeps{B:Nat}{W W':World}(h:ValB B W)(k:Keeps [] W W'):ValB B W'/\∀b,dS B W' b↔dS B W b:=by
 have hB:=k.block B h.lt (by simp);refine⟨⟨?_,fun b hb=>?_⟩,fun b=>mH hB b⟩
 ·rw[hB];exact h.1
 ·have:=h.2 b ((mH hB b).1 hb);have:=k.size;omega
theorem KpB.keeps{B:Nat}{W W':World}(k:Keeps [] W W'):KpB B W W':=fun hv=>by
 obtain⟨h1,h2⟩:=hv.keeps k;exact⟨h1,k.size,fun b hb=>.inl ((h2 b).1 hb),fun b o hb _ _=>(k.block b (vP hb) (by simp)).trans hb⟩
theorem jaH{W:World}{ad:Addr}{u:Value}(h:(kR W) ad=some u):∃o,W.heap[ad.block]?=some o/\uM o=true:=by
 unfold kR at h;split at h
 ·unfold World.cell? at h;split at h
  ·rename_i c e f ho;exact⟨_,ho,rfl⟩
  ·cases h
 ·unfold cK at h;split at h
  ·rename_i es c ho;exact⟨_,ho,rfl⟩
  ·cases h
theorem wT{β:Type}{n:Nat}{J:β->World->Prop}(h:AbidesFrom n J){s:β}{W W':World}(hj:J s W)(k:Keeps [] W W'):J s W' :=
 h s W W' none hj ⟨k.os,k.tape,k.output,k.size,fun b hb _=>k.block b hb (by simp)⟩ fun r hr=>by cases hr
section
variable{w0:W0}{w:World}{C:Rd}{t:List A}{a:Act}{B:Nat}
theorem Inv.yielded{u0:World}(hi:Inv [] (.of u0) C [] ⟨t,[],[]⟩ a w)(hv:ValB B u0)(hno:∀ad u,C ad=some u->¬dS B u0 ad.block):Keeps [] u0 w/\∀w2,KpB B w w2->∃C',Inv [] (.of w2) C' [] ⟨t,[],[]⟩ a w2/\ValB B w2/\∀ad u,C' ad=some u->¬dS B w2 ad.block:=by
 obtain⟨C',h1,h2,h3,h4,hg,h5⟩:=hi.again;refine⟨h4,fun w2 hk=>?_⟩;obtain⟨v1,v2⟩:=hv.keeps h4;obtain⟨k1,k2,k3,k4⟩:=hk v1
 have hn:∀ad u,C' ad=some u->¬dS B w ad.block:=fun ad u hc ho=>by
  have ho:=(v2 _).1 ho;rcases h3 ad u hc with q|q
  ·exact hno ad u q ho
  ·have:=hv.2 _ ho;omega
 refine⟨C',h5 w2 (fun ad u hc=>?_) (hg.blocks fun b cs T sp q1 ⟨u,hc⟩=>k4 _ _ q1 rfl (hn _ u hc)),k1,fun ad u hc ho=>?_⟩
 ·obtain⟨o,q1,q2⟩:=jaH (h2 ad u hc);have:=k4 _ o q1 q2 (hn ad u hc);exact(aC (w:=w) (this.trans q1.symm)).trans (h2 ad u hc)
 ·rcases k3 _ ho with q|q
  ·exact hn ad u hc q
  ·obtain⟨o,q1,q2⟩:=jaH (h2 ad u hc);have:=vP q1;omega
theorem sB{C0:Rd}{β0:List Nat}{s:S}(hi:Inv [] w0 C0 β0 s a w){i:Nat}{v:Value}(h:s.t.getD i .dead=.v v):a.tmps.getD i undef=v:=by
 obtain⟨E,_,ht,_⟩:=hi;have:=A.repL_getD ht i undef;rw[h] at this;have:=(A.rep_v_iff.1 this).1;simpa [xtw47,xtw9] using this
theorem jha{n l:Nat}{P:Program}{ops:Array Oper}{o:Oper}{rest:List Oper}{f:Operand}{args:Array Operand}{ts:Array TypeId}{vals:Array Value}{Q:Exit->Act->World->Prop}{R:Ending->World->Prop}
  (ho:o.op=.call ⟨.value f,args,ts⟩) (hg:o.guard=none) (hf:a.eval f=.func (.yield l) #[] #[]) (hv:args.map a.eval=vals) (hy:YieldAt Fence.wide (n-1) P l vals w R)
  (hk:∀e w',R e w'->∃v,e=.returned v/\wpListIn Fence.wide n P ops Q rest (a.put o.dst v) w'):wpListIn Fence.wide n P ops Q (o::rest) a w:=by
 unfold wpListIn;rw[xtw3 (by simp[Region.wanted,hg])];obtain⟨fn,tmps,assign,body,h1,h2⟩:=hy;refine⟨fun _ _=>trivial,?_⟩;have e:o.semAt Fence.wide.round a.eval=execOp a.eval o:=rfl;rw[e]
 have hrun:(execOp a.eval o).run P w=.ok (.round l fn tmps assign body) w:=by
  rw[<- h1,<- hv];simp[execOp,ho,resolve,Deferred.ofValue,hf,invoke,Result.andThen]
 rw[hrun];refine⟨fun h'=>by simp[Fence.wide] at h',h2.mono fun e w' hr=>?_⟩;obtain⟨v,rfl,hw⟩:=hk e w' hr;exact hw
theorem jkY{W:World}{C:Rd}(h0:Gok C W)(h1:Sub C (kR W)){args:List A}{vals:Array Value}{n:Nat}(h6:A.repL args ⟨C,[],[]⟩ vals.toList) :
  Inv [] (.of W) C [] ⟨args++List.replicate (n-args.length) .dead,[],[]⟩ { tmps:=vals++Array.replicate (n-vals.size) undef,defers:=[] } W:=by
 have hl:=A.repL_len h6;refine⟨⟨C,[],[]⟩,⟨h1,Sub.refl _,fun _ _ hc=>.inl hc,⟨[],by simp,by simp⟩,xtw92,fun b hb=>by simp at hb,rfl,fun i b cs hb=>by simp at hb,rfl,fun g r y hg=>by simp at hg,fun g e k n cs y b hg=>by simp at hg,fun g e k n cs y h' e' k' n' cs' z b _ hg=>by simp at hg,fun g y hg=>by simp at hg,Keeps.refl _ _,jie h0⟩,?_,rfl⟩
 have:(vals++Array.replicate (n-vals.size) undef).toList=vals.toList++List.replicate (n-args.length) undef:=by
  have:vals.size=args.length:=by rw[<- hl];simp
  simp[this]
 rw[this];exact A.repL_append h6 (gN _ _)
theorem jey{C0:Rd}{β0:List Nat}{s:S}{F:Fence}{n:Nat}{P:Program}{x y:Code}{Q:Exit->Act->World->Prop}(hi:Inv [] w0 C0 β0 s a w){w2:World}{i:Nat}{b:Bool}(h:s.t.getD i .dead=.v (.bool b))(hk:(if b then x else y).wpIn F n P Q a w2):(Code.cond (.tmp i) x y).wpIn F n P Q a w2 :=
 wpIn_cond (sB hi h) hk
theorem jad{c:Cx}{C0:Rd}{β0:List Nat}{s:S}{n:Nat}{x y:Code}{Q:Exit->Act->World->Prop}(hc:c.okN)(hn:β0.length=c.np)(hi:Inv [] w0 C0 β0 s a w)(ho:kI c.ord x=true)
  (h:sQ c x s fun e s'=>∀a' w',Inv [] w0 C0 β0 s' a' w'->Exit.then (y.wpIn Fence.wide n c.P Q) Q e a' w'):(Code.seq x y).wpIn Fence.wide n c.P Q a w :=
 wpIn_seq (jgM hc hn ho hi h fun e s' a' w' h1 h2=>h1 a' w' h2)
theorem jf1{c:Cx}{C0:Rd}{β0:List Nat}{l:List A}{m:Nat}{bx:List (List A)}{n:Nat}{x y:Code}{Q:Exit->Act->World->Prop}(hc:c.okN)(hn:β0.length=c.np)(hi:Inv [] w0 C0 β0 ⟨l++List.replicate m .dead,bx,[]⟩ a w)(ho:kI c.ord x=true)
  (h:yT l m fun t=>sQ c x ⟨t,bx,[]⟩ fun e s'=>∀a' w',Inv [] w0 C0 β0 s' a' w'->Exit.then (y.wpIn Fence.wide n c.P Q) Q e a' w'):(Code.seq x y).wpIn Fence.wide n c.P Q a w :=
 jad hc hn hi ho ((initK_iff (K:=fun t=>sQ c x ⟨t,bx,[]⟩ _)).1 h)
theorem jfd{c:Cx}{C0:Rd}{β0:List Nat}{s:S}{n:Nat}{ops l:List Oper}{Q:Exit->Act->World->Prop}(m:Nat)(hc:c.okN)(hi:Inv [] w0 C0 β0 s a w)
  (h:oT c ops (l.take m) s fun s'=>∀a' w',Inv [] w0 C0 β0 s' a' w'->wpListIn Fence.wide n c.P ops.toArray Q (l.drop m) a' w'):wpListIn Fence.wide n c.P ops.toArray Q l a w:=by
 have:=jbV (n:=n) (Q:=Q) hc (l.drop m) hi h fun s' a' w' h1 h2=>h1 a' w' h2
 rwa [xtw69] at this
theorem jpQ{c:Cx}{C0:Rd}{β0:List Nat}{bx:List (List A)}{l0:List A}{m0 n:Nat}{ops l:List Oper}{Q:Exit->Act->World->Prop}(m:Nat)(hc:c.okN)(hi:Inv [] w0 C0 β0 ⟨l0++List.replicate m0 .dead,bx,[]⟩ a w)
  (h:yT l0 m0 fun t=>oT c ops (l.take m) ⟨t,bx,[]⟩ fun s'=>∀a' w',Inv [] w0 C0 β0 s' a' w'->wpListIn Fence.wide n c.P ops.toArray Q (l.drop m) a' w'):wpListIn Fence.wide n c.P ops.toArray Q l a w :=
 jfd m hc hi ((initK_iff (K:=fun t=>oT c ops (l.take m) ⟨t,bx,[]⟩ _)).1 h)
theorem jqL{C0:Rd}{β0:List Nat}{s:S}{d:Option Nat}{v:Value}{G:Act->Prop}(hi:Inv [] w0 C0 β0 s a w)(hv:fX v)(h:kZ s d (.v v) fun s'=>∀a',Inv [] w0 C0 β0 s' a' w->G a'):G (a.put d v):=by
 obtain⟨E,hp,ht,hd⟩:=hi;obtain⟨s2,k1,k2,k3,k4,k5⟩:=qZ (a:=a) hp ht hd (A.rep_v hv) h;exact k1 _ ⟨E,by rw[k2,k3];exact hp,k4,k5⟩
def jul(s:S)(K:S->Prop):Prop:=K s
def jr6(c:Cx)(ops:List Oper)(o:Oper)(ih:S->(S->Prop)->Prop)(s:S)(K:S->Prop):Prop :=
 bP ops o s (jeo c s o fun r=>kZ s o.dst r fun s'=>ih s' K) (kZ s o.dst (.tup []) fun s'=>ih s' K)
noncomputable def apu(c:Cx)(ops:List Oper)(l:List Oper):S->(S->Prop)->Prop:=List.rec (motive:=fun _=>S->(S->Prop)->Prop) jul (fun o _ ih=>jr6 c ops o ih) l
theorem pM{c:Cx}{C0:Rd}{β0:List Nat}{n:Nat}{ops:List Oper}{Q:Exit->Act->World->Prop}(hc:c.ok){w2:World}:∀{l:List Oper} {s:S} {a:Act},Inv [] w0 C0 β0 s a w->apu c ops l s (fun s'=>∀a',Inv [] w0 C0 β0 s' a' w->Q .normal a' w2)->wpListIn Fence.wide n c.P ops.toArray Q l a w2
 |[],s,a,hi,h=>h a hi
 |o::r,s,a,⟨E,hp,ht,hd⟩,h=>by
  change jr6 c ops o (apu c ops r) s _ at h
  unfold jr6 at h;unfold wpListIn;rcases v7 ht h with ⟨h1,h2⟩|⟨h1,h2⟩
  ·rw[xtw3 h1];obtain⟨x,y,k1,k2,k3⟩:=jgR hc hp ht h2;obtain⟨s2,p1,p2,p3,p4,p5⟩:=qZ (a:=a) hp ht hd k2 k1;refine⟨fun _ _=>trivial,?_⟩;have e:o.semAt Fence.wide.round a.eval=execOp a.eval o:=rfl;rw[e,k3 w2];exact pM hc ⟨E,by rw[p2,p3];exact hp,p4,p5⟩ p1
  ·rw[xtw2 (by rw[h1];simp)];obtain⟨s2,p1,p2,p3,p4,p5⟩:=qZ (a:=a) hp ht hd (wM _) h2;exact⟨fun _ _=>trivial,pM hc ⟨E,by rw[p2,p3];exact hp,p4,p5⟩ p1⟩
theorem tT{E:Env}:∀{vs us:List Value},A.repC (vs.map A.v) E us->us=vs
 |[],us,h=>by unfold A.repC at h;exact h
 |v::vs,us,h=>by
  rw[xtw22] at h;unfold A.repC at h;obtain⟨u,us',rfl,_,h2,h3⟩:=h;rw[(A.rep_v_iff.1 h2).1,tT h3]
theorem jnb{C0:Rd}{β0:List Nat}{s:S}(hi:Inv [] w0 C0 β0 s a w){i:Nat}{vs:List Value}(h:s.t.getD i .dead=.agg (vs.map A.v)):a.tmps.getD i undef=.agg vs.toArray:=by
 obtain⟨E,_,ht,_⟩:=hi;have:=A.repL_getD ht i undef;rw[h] at this;unfold A.rep at this;obtain⟨us,h1,h2⟩:=this;have h3:=tT h2
 have:a.tmps.getD i undef=.agg us:=by simpa [xtw47,xtw9] using h1
 rw[this,<- h3]
end
end
structure It where
 tok:Tk
 pos:Nat
 err:Int
def jlA(t:Tk):Value:=.agg #[.int .i64 t.kind,.int .i64 t.pos,.string t.text,.int .i64 t.n]
def clP(n:Nat):Nat:=if n<=1000000000 then n else 0
def clE(e:Int):Int:=if 0<=e/\e<=100 then e else 0
theorem jjB(n:Nat):clP n<=1000000000:=by unfold clP;split <;> omega
theorem jjA(e:Int):0<=clE e/\clE e<=100:=by unfold clE;split <;> omega
def jmv(x:It):Array Value := #[jlA x.tok,.agg #[.int .i64 (clP x.pos:Nat),.int .i64 (clE x.err)]]
theorem jhx{l:List UInt8}{e:Int}(h:qD l=.bad e):0<=e/\e<=100:=by
 cases l with
 |nil=>simp[qD] at h;omega
 |cons c r =>
  cases hL:isL c
  ·cases hD:wA c
   ·cases h3:qC pS (bs ((c::r).take 2))
    ·cases h4:qC tN (bs [c])
     ·simp only[qD,hL,hD,h3,h4] at h;cases h;decide
     ·simp only[qD,hL,hD,h3,h4] at h;cases h
    ·simp only[qD,hL,hD,h3] at h;cases h
   ·simp only[qD,hL,hD] at h;split at h
    ·cases h;decide
    ·cases h
  ·simp only[qD,hL] at h;split at h
   ·cases h;decide
   ·cases h
def itOk(t:Tk):It:=⟨t,t.pos,0⟩
def bX(s:ByteArray)(xs:List It):Prop:=match (qM s).err with
 |none=>xs=(qM s).toks.map itOk
 |some (p,e)=>∃t,xs=(qM s).toks.map itOk++[⟨t,p,e⟩]
def oP(s:ByteArray)(xs:List It):Prop:=∃ys,bX s ys/\xs <+: ys
theorem jcj:∀(l:List UInt8) (n:Int),n<=2147483647->xP n l<=2147483647
 |[],n,h=>h
 |c::r,n,h=>by
  unfold xP;split
  ·omega
  ·exact jcj r _ (by omega)
def jnQ(l:Nat)(s:ByteArray)(L:List A)(p:Nat):List A:=[.v (.func (.yield l) #[] #[]),.pp [.v (.string s)],.pp L,.dead,.v (.int .i64 p)]++List.replicate 108 .dead
theorem jh7(s:ByteArray)(hs:s.size<=1000000000)(n B:Nat)(lb:Array Value)(w0:World)(C:Rd)(hv:ValB B w0)(hsub:Sub C (kR w0))(hg:Gok C w0)(hno:∀ad u,C ad=some u->¬dS B w0 ad.block)
  (hrep:A.repL [.pp [.v (.string s)],.pp (qL classOf)] ⟨C,[],[]⟩ lb.toList) :
  SeqStopsK Fence.wide n Tryz.prog 149 lb jmv (KpB B) (bX s) (oP s) s.size w0:=by
 intro l J Jx W hW hJ hJx hY h0;have hsl:=zQ s
 have keepW:Keeps [] w0 W:=⟨hW.os,hW.tape,hW.output,hW.size,fun b hb _=>hW.block b hb⟩
 have hsubW:Sub C (kR W):=fun ad u hc=>keepW.cell (hsub ad u hc) (by simp)
 have hgW:Gok C W:=hg.keep keepW (by simp)
 have hvW:ValB B W/\∀b,dS B W b↔dS B w0 b:=by
  refine hv.keeps ⟨hW.os,hW.tape,hW.output,hW.size,fun b hb _=>hW.block b hb⟩
 have hnoW:∀ad u,C ad=some u->¬dS B W ad.block:=fun ad u hc ho=>hno ad u hc ((hvW.2 _).1 ho)
 obtain⟨L,hL⟩:∃L,L=qL classOf:=⟨_,rfl⟩
 rw[<- hL] at hrep;have hc:(Cx.mk Tryz.prog tab jnk (fun _=>[0]) 0 (fun _ _=>False)).okN:=jml jnk (fun _=>[0]) 0;refine callsIn_of_wp Tryz.func149 rfl trivial ?_
 have hi:=jkY (n:=113) hgW hsubW (args:=[.v (.func (.yield l) #[] #[]),.pp [.v (.string s)],.pp L]) (vals := #[.func (.yield l) #[] #[]]++lb) (by
  simp only[Array.toList_append];refine⟨_,_,rfl,A.rep_v trivial,?_⟩
  simpa using hrep)
 refine jf1 hc rfl hi (by kernel_rfl) ?_;conv=>whnf
 intro a W1 hi;refine wpIn_block ?_;refine wpIn_loop (fun a w=>∃(ts:List Tk) (p:Nat) (C:Rd),Inv [] (.of w) C [] ⟨jnQ l s L p,[],[]⟩ a w/\ValB B w/\(∀ad u,C ad=some u->¬dS B w ad.block)/\J (ts.map itOk) w/\p<=s.size/\ts.length<=p/\Lx.app ts (bD p (s.data.toList.drop p))=qM s)
  (fun a _=>s.size-(intOf (a.tmps.getD 4 undef)).toNat) ?_ ?_
 ·obtain⟨hk,hy⟩:=hi.yielded hvW.1 hnoW;obtain⟨C',i1,i2,i3⟩:=hy W1 (KpB.refl B W1);exact⟨[],0,C',i1,i2,i3,wT hJ h0 hk,xtw19 _,xtw19 _,rfl⟩
 rintro a w ⟨ts,p,C,hi,hv,hno,hj,hp,hts,hinv⟩
 have hp4:intOf (a.tmps.getD 4 undef)=p:=by rw[sB hi (i:=4) (v:=.int .i64 p) rfl];rfl
 refine jf1 hc rfl hi (by kernel_rfl) ?_;conv=>whnf
 by_cases hlt:p<s.size
 ·refine j7 (by simp;omega) ?_;conv=>whnf
  intro a' w' hi';refine wpIn_block ?_
  obtain⟨c,r,hd⟩:∃c r,s.data.toList.drop p=c::r:=⟨_,_,yD s.data.toList p (by omega)⟩
  have hrl:(c::r).length=s.size-p:=by rw[<- hd,xtw28,hsl]
  have hR:s.extract (Int.toNat (p:Int)) (Int.toNat (s.size:Int))=bs (c::r):=by rw[jaV,<- hd];congr 1;apply xtw56;rw[xtw28];omega
  have hbs:=gR (c::r);refine jad hc rfl hi' (by kernel_rfl) ?_;conv=>whnf
  refine⟨by omega,?_⟩;rw[hR];generalize hb:bs (c::r)=b at *;conv=>whnf
  intro a2 w2 hi2
  replace hi2:=(hi2.le (fV rfl) rfl).le (dM (t':=[.v (.func (.yield l) #[] #[]),.pp [.v (.string s)],.pp L,.dead,.v (.int .i64 p),.pp [.v (.string b)]]++List.replicate 107 .dead) (by repeat' constructor)) rfl
  refine jf1 hc rfl hi2 (by kernel_rfl) ?_;conv=>whnf
  intro a3 w3 hi3;refine jad hc rfl hi3 (by kernel_rfl) ?_;conv=>whnf
  intro a4 w4 hi4;refine jad hc rfl hi4 (by kernel_rfl) ?_;conv=>whnf
  intro a5 w5 hi5
  have hd1:∀k,s.data.toList.drop (p+k)=(c::r).drop k:=fun k=>by rw[<- hd,xtw117]
  have hbL:b.size=s.size-p:=by rw[hbs];exact hrl
  have hrl2:r.length+1=s.size-p:=by simpa using hrl
  have hws:=jlG b (by omega);have hns:=jna b (by omega);rw[<- hL] at hws hns
  refine wpIn_seq (jgM (q:=fun e s'=>match e with
   |.normal=>∃(tk:Tk) (e:Int),(kY c=false/\nZ c=false)/\tk.pos=p/\tk.text.size<=s.size/\(e=0/\(∃len,qD (c::r)=.tok tk.kind len tk.n/\tk.text=bs ((c::r).take len))∨e≠0/\qD (c::r)=.bad e) ∧
     Le 0 s' ⟨[.v (.func (.yield l) #[] #[]),.pp [.v (.string s)],.pp L,.dead,.v (.int .i64 p),.dead,.dead,.pp (cT tk),intA e]++List.replicate 104 .dead,[],[]⟩
   |.exit x=>x=1/\∃p',p<p'/\p'<=s.size/\Lx.app ts (bD p' (s.data.toList.drop p'))=qM s/\Le 0 s' ⟨jnQ l s L p',[],[]⟩
   |.ret=>qM s=⟨ts,none⟩
   |_=>False) hc rfl (by kernel_rfl) hi5 ?_ ?_)
  ·conv=>whnf
   refine⟨⟨by omega,by rw[hbs];simp⟩,?_⟩;rw[show b.data.toList.getD (Int.toNat 0) 0=c from by rw[<- hb,yM];rfl];have hcb:=jfE c;conv=>whnf
   refine⟨⟨by omega,by omega⟩,?_⟩;generalize hq:jC _ (Int.toNat (c.toNat:Int)) L=q
   obtain rfl:q=[.v (.int .u8 (classOf c.toNat))]:=by rw[<- hq,hL];exact jdP classOf c.toNat (by omega)
   conv=>whnf
   rw[jrA]
   cases hsp:nZ c with
   |true =>
    have hha:kY c=false:=by
     simp only[nZ,kY,xtw72,xtw17,xtw101] at hsp ⊢;omega
    conv=>whnf
    refine⟨jG (by omega),?_⟩;conv=>whnf
    refine⟨rfl,p+1,by omega,by omega,?_,(fV rfl).trans (dM (by repeat' constructor))⟩;rw[hd1 1,<- hinv,hd,jeO hha hsp];rfl
   |false =>
    conv=>whnf
    rw[jmh]
    cases hha:kY c with
    |true =>
     conv=>whnf
     refine jY [] (jeP b (by omega)) ?_;rintro x rfl
     have hno:kP c=true:=by
      simp only[kY,kP,xtw17,xtw125,xtw101] at hha ⊢;omega
     have hsp1:jF kP (c::r)=jF kP r+1:=by simp[jF,hno]
     have hle:=xN kP r;have hlx:=jdp (p:=p) (r:=r) hha
     have hix:xL kP b.data.toList=if jF kP r+1<r.length+1 then((jF kP r+1:Nat):Int) else -1:=by
      unfold xL;rw[<- hb,yM,hsp1];rfl
     generalize xL kP b.data.toList=v at *;conv=>whnf
     by_cases hlt2:jF kP r<r.length
     ·rw[xtw3 (by omega)] at hix;refine jW (b:=decide (v<0)) (xtw0 (by omega)) ?_;conv=>whnf
      refine⟨jG (by omega),?_⟩;conv=>whnf
      rw[hix];refine⟨rfl,p+(jF kP r+1),by omega,by omega,?_,(fV rfl).trans (dM (by repeat' constructor))⟩;rw[hd1 _,<- hinv,hd,hlx,xtw71,Nat.add_comm (jF kP r) 1,<- Nat.add_assoc]
     ·rw[xtw2 (by omega)] at hix;refine j7 (b:=decide (v<0)) (xtw1 (by omega)) ?_;conv=>whnf
      rw[<- hinv,hd,hlx,xtw51 (by omega),jbl];simp[Lx.app]
    |false =>
     conv=>whnf
     rw[jtg]
     cases hL1:isL c with
     |true =>
      conv=>whnf
      refine jY [] hws ?_;rintro x rfl
      have hsp1:jF kG (c::r)=jF kG r+1:=by simp[jF,kG,hL1]
      have hle:=xN kG r
      have htok:qD (c::r)=if 10<jF kG r+1 then .bad 2 else .tok 1 (jF kG r+1) 0:=by simp only[qD,hL1]
      have hw:=aQ (c::r) (jF kG r+1) (by simp;omega)
      have hcut:b.extract (Int.toNat 0) (Int.toNat ((jF kG r+1:Nat):Int))=bs ((c::r).take (jF kG r+1)):=by
       rw[yA b (Int.toNat 0) _ (jF kG r+1) (by simp;omega) (by simp),<- hb,yM];rfl
      rw[<- hb,yM,hsp1,hb];conv=>whnf
      refine⟨⟨by omega,by omega,by omega⟩,?_⟩;rw[hcut];generalize hwd:bs ((c::r).take (jF kG r+1))=wd at *;conv=>whnf
      by_cases hlong:10<jF kG r+1
      ·rw[xtw3 hlong] at htok;refine j7 (b:=decide ((10:Int)<(wd.size:Int))) (xtw1 (by omega)) ?_;conv=>whnf
       exact⟨⟨1,p,wd,0⟩,2,⟨rfl,rfl⟩,rfl,by show wd.size<=s.size;omega,.inr ⟨by decide,htok⟩,(fV rfl).trans (dM (by repeat' constructor))⟩
      ·rw[xtw2 hlong] at htok;refine jW (b:=decide ((10:Int)<(wd.size:Int))) (xtw0 (by omega)) ?_;conv=>whnf
       exact⟨⟨1,p,wd,0⟩,0,⟨rfl,rfl⟩,rfl,by show wd.size<=s.size;omega,.inl ⟨rfl,_,htok,hwd.symm⟩,(fV rfl).trans (dM (by repeat' constructor))⟩
     |false =>
      conv=>whnf
      rw[jtf]
      cases hD1:wA c with
      |true =>
       conv=>whnf
       refine jY [] hns ?_;rintro x rfl
       have hsp1:jF wA (c::r)=jF wA r+1:=by simp[jF,hD1]
       have hle:=xN wA r
       have htok:qD (c::r)=if xP 0 (c::r.take (jF wA r))<0 then .bad 6 else .tok 2 (jF wA r+1) (xP 0 (c::r.take (jF wA r))):=by simp only[qD,hL1,hD1]
       have hw:=aQ (c::r) (jF wA r+1) (by simp;omega)
       have hcut:b.extract (Int.toNat 0) (Int.toNat ((jF wA r+1:Nat):Int))=bs ((c::r).take (jF wA r+1)):=by
        rw[yA b (Int.toNat 0) _ (jF wA r+1) (by simp;omega) (by simp),<- hb,yM];rfl
       have hpu:=jpC (bs ((c::r).take (jF wA r+1))) (by rw[hw];omega) (by rw[hw];omega) (by
        intro x hx;rw[yM,<- hsp1] at hx
        exact mR wA _ x hx)
       rw[yM,xtw79] at hpu;rw[<- xtw79] at hpu;rw[<- hb,yM,hsp1,hb];conv=>whnf
       refine⟨⟨by omega,by omega,by omega⟩,?_⟩;rw[hcut];generalize hwd:bs ((c::r).take (jF wA r+1))=wd at *;conv=>whnf
       refine jY [] hpu ?_;rintro x rfl
       have hvl:xP 0 ((c::r).take (jF wA r+1))=xP 0 (c::r.take (jF wA r)):=by rw[xtw79]
       rw[hvl];have hmx:=jcj (c::r.take (jF wA r)) 0 (by omega);generalize xP 0 (c::r.take (jF wA r))=v at *;by_cases hneg:v<0
       ·rw[xtw3 hneg] at htok ⊢;conv=>whnf
        refine⟨jG (by omega),?_⟩;conv=>whnf
        exact⟨⟨2,p,wd,2147483647⟩,6,⟨rfl,rfl⟩,rfl,by show wd.size<=s.size;omega,.inr ⟨by decide,htok⟩,(fV rfl).trans (oE (by repeat' constructor))⟩
       ·rw[xtw2 hneg] at htok ⊢;conv=>whnf
        refine⟨jG (by omega),?_⟩;conv=>whnf
        exact⟨⟨2,p,wd,v⟩,0,⟨rfl,rfl⟩,rfl,by show wd.size<=s.size;omega,.inl ⟨rfl,_,htok,hwd.symm⟩,(fV rfl).trans (oE (by repeat' constructor))⟩
      |false =>
       conv=>whnf
       have h1c:(bs [c]).size=1:=by rw[gR];rfl
       have hcut1:b.extract (Int.toNat 0) (Int.toNat 1)=bs [c]:=by
        rw[yA b (Int.toNat 0) _ 1 (by simp;omega) (by simp),<- hb,yM];rfl
       by_cases hone:1<r.length+1
       ·have hcut2:b.extract (Int.toNat 0) (Int.toNat 2)=bs ((c::r).take 2):=by
         rw[yA b (Int.toNat 0) _ 2 (by simp;omega) (by simp),<- hb,yM];rfl
        have h2c:=aQ (c::r) 2 (by simp;omega);rw[show decide ((1:Int)<(b.size:Int))=true from xtw1 (by omega)];conv=>whnf
        refine⟨⟨by omega,by omega,by omega⟩,?_⟩;rw[hcut2];generalize hwd:bs ((c::r).take 2)=wd at *;conv=>whnf
        refine jY [0] (jcv pS wd (by decide)) ?_;rintro x rfl
        cases h2:qC pS wd with
        |true =>
         have htok:qD (c::r)=.tok 3 2 0:=by simp only[qD,hL1,hD1,hwd,h2]
         conv=>whnf
         refine⟨⟨by omega,by omega,by omega⟩,?_⟩;rw[hcut2];conv=>whnf
         exact⟨⟨3,p,wd,0⟩,0,⟨rfl,rfl⟩,rfl,by show wd.size<=s.size;omega,.inl ⟨rfl,_,htok,hwd.symm⟩,(fV rfl).trans (oE (by repeat' constructor))⟩
        |false =>
         rw[<- hwd] at h2;conv=>whnf
         rw[jqt];generalize hwd1:bs [c]=w1 at *
         cases h1:qC tN w1 with
         |true =>
          have htok:qD (c::r)=.tok 3 1 0:=by simp only[qD,hL1,hD1,h2,hwd1,h1]
          conv=>whnf
          refine⟨⟨by omega,by omega,by omega⟩,?_⟩;rw[hcut1];conv=>whnf
          exact⟨⟨3,p,w1,0⟩,0,⟨rfl,rfl⟩,rfl,by show w1.size<=s.size;omega,.inl ⟨rfl,_,htok,hwd1.symm⟩,(fV rfl).trans (oE (by repeat' constructor))⟩
         |false =>
          have htok:qD (c::r)=.bad 10:=by simp only[qD,hL1,hD1,h2,hwd1,h1]
          conv=>whnf
          exact⟨⟨0,p,⟨#[]⟩,0⟩,10,⟨rfl,rfl⟩,rfl,xtw19 _,.inr ⟨by decide,htok⟩,(fV rfl).trans (oE (by repeat' constructor))⟩
       ·have h2:qC pS (bs ((c::r).take 2))=false:=by
         obtain rfl:r=[]:=xtw15 (by omega)
         have:∀n:Fin 256,qC pS (bs [UInt8.ofNat n.val])=false:=by decide +kernel
         have h:=this ⟨c.toNat,c.toNat_lt⟩;simpa using h
        rw[show decide ((1:Int)<(b.size:Int))=false from xtw0 (by omega)];conv=>whnf
        rw[jqt];generalize hwd1:bs [c]=w1 at *
        cases h1:qC tN w1 with
        |true =>
         have htok:qD (c::r)=.tok 3 1 0:=by simp only[qD,hL1,hD1,h2,hwd1,h1]
         conv=>whnf
         refine⟨⟨by omega,by omega,by omega⟩,?_⟩;rw[hcut1];conv=>whnf
         exact⟨⟨3,p,w1,0⟩,0,⟨rfl,rfl⟩,rfl,by show w1.size<=s.size;omega,.inl ⟨rfl,_,htok,hwd1.symm⟩,(fV rfl).trans (oE (by repeat' constructor))⟩
        |false =>
         have htok:qD (c::r)=.bad 10:=by simp only[qD,hL1,hD1,h2,hwd1,h1]
         conv=>whnf
         exact⟨⟨0,p,⟨#[]⟩,0⟩,10,⟨rfl,rfl⟩,rfl,xtw19 _,.inr ⟨by decide,htok⟩,(fV rfl).trans (oE (by repeat' constructor))⟩
  ·intro e s' a6 w6 hq hi6
   match e,hq with
   |.exit x,hq =>
    obtain⟨rfl,p',hp1,hp2,hp3,hle⟩:=hq
    replace hi6:=hi6.le hle rfl
    obtain⟨hk,hy⟩:=hi6.yielded hv hno;obtain⟨C',i1,i2,i3⟩:=hy w6 (KpB.refl B w6);refine⟨⟨ts,p',C',i1,i2,i3,wT hJ hj hk,hp2,by omega,hp3⟩,?_⟩;rw[hp4,sB hi6 (i:=4) (v:=.int .i64 p') rfl];simp only[intOf];omega
   |.ret,hq =>
    have hk:Keeps [] w w6:=by obtain⟨E,hp,_,_⟩:=hi6;exact hp.keep
    change bodyPost Tryz.prog _ (fun e W'=>(∃v,e=.returned v)/\((∃xs,bX s xs/\J xs W')∨(∃pre,oP s pre/\Jx pre W'))) .ret a6 w6
    refine bodyPost_ret (results_none rfl _ _ _) (by obtain⟨E,_,_,hd⟩:=hi6;exact hd) ⟨⟨_,rfl⟩,.inl ⟨_,?_,wT hJ hj hk⟩⟩;unfold bX;rw[hq]
   |.normal,hq =>
    obtain⟨tk,e,hcl,htp,htz,hgood,hle⟩:=hq
    replace hi6:=hi6.le hle rfl
    refine wpIn_seq (wpIn_seq (wpIn_region_lit ?_));refine jpQ 5 hc hi6 ?_;conv=>whnf
    intro a7 w7 hi7;obtain⟨hk,hy⟩:=hi7.yielded hv hno;have e1:a7.tmps.getD 98 undef=jlA tk:=jnb hi7 (vs:=[.int .i64 tk.kind,.int .i64 tk.pos,.string tk.text,.int .i64 tk.n]) rfl;have e2:a7.tmps.getD 101 undef=.agg #[.int .i64 p,.int .i64 e]:=jnb hi7 (vs:=[.int .i64 p,.int .i64 e]) rfl;have hclP:clP p=p:=xtw3 (by omega)
    have hclE:clE e=e:=xtw3 (by
     rcases hgood with ⟨h,_⟩|⟨_,h⟩
     ·omega
     ·exact jhx h)
    have hlen:(ts.map itOk).length<s.size:=by rw[xtw44];omega
    refine jha (l:=l) (vals:=jmv ⟨tk,p,e⟩) rfl rfl (sB hi7 (i:=97) (v:=.func (.yield l) #[] #[]) rfl) (by rw[show Array.map a7.eval #[.tmp 98,.tmp 101] = #[a7.eval (.tmp 98),a7.eval (.tmp 101)] from by simp];show #[a7.tmps.getD 98 undef,a7.tmps.getD 101 undef] = #[jlA tk,.agg #[.int .i64 (clP p:Nat),.int .i64 (clE e)]];rw[e1,e2,hclP,hclE]) (hY (ts.map itOk) ⟨tk,p,e⟩ w7 (wT hJ hj hk) hlen) ?_;rintro x w8 (⟨rfl,hj8,hkp⟩|⟨rfl,hjx8⟩)
    ·refine⟨_,rfl,?_⟩;obtain⟨C',i1,i2,i3⟩:=hy w8 hkp;refine jqL (G:=fun a=>wpListIn _ _ _ _ _ _ a _) i1 trivial ?_;conv=>whnf
     intro a8 hi8;refine jfd 5 hc hi8 ?_;conv=>whnf
     intro a9 w9 hi9
     have hd9:a9.defers=[]:=by obtain⟨E,_,_,hd⟩:=hi9;exact hd
     obtain⟨hk9,hy9⟩:=hi9.yielded i2 i3;have hj9:=wT hJ hj8 hk9;rcases hgood with ⟨rfl,len,htok,htx⟩|⟨hne,htok⟩
     ·rw[hd,jbn hcl.1 hcl.2 htok,jaw] at hinv;have hl:=bN htok
      have hsz:tk.text.size=len:=by rw[htx];exact aQ _ _ hl.2
      refine jey (i:=107) (b:=false) hi9 rfl ?_;rw[xtw2 (by simp)];refine wpIn_skip (wpIn_region_lit ?_);refine jfd 6 hc hi9 ?_;conv=>whnf
      refine⟨jG (by omega),?_⟩;conv=>whnf
      intro a10 w10 hi10
      replace hi10:=hi10.le (oE (s':=⟨jnQ l s L (p+len),[],[]⟩) (by rw[<- hsz];repeat' constructor)) rfl
      obtain⟨hk10,hy10⟩:=hi10.yielded i2 i3;obtain⟨C2,j1,j2,j3⟩:=hy10 w10 (KpB.refl B w10)
      have htk:(⟨tk.kind,p,bs (List.take len (c::r)),tk.n⟩:Tk)=tk:=by rw[<- htx,<- htp]
      have hit:(⟨tk,p,0⟩:It)=itOk tk:=by unfold itOk;rw[htp]
      rw[hit] at hj8;refine⟨⟨ts++[tk],p+len,C2,j1,j2,j3,?_,by simp at hl;omega,by simp;omega,?_⟩,?_⟩
      ·rw[xtw59];exact wT hJ hj8 hk10
      ·rw[hd1 len,<- hinv,htk]
      ·rw[hp4,sB hi10 (i:=4) (v:=.int .i64 (p+len:Nat)) rfl];simp only[intOf];omega
     ·refine jey (i:=107) (b:=true) hi9 (by show A.v (.bool (!decide (e=0)))=_;rw[xtw0 hne];rfl) ?_;rw[xtw3 rfl];refine wpIn_ret ?_
      change bodyPost Tryz.prog _ (fun e W'=>(∃v,e=.returned v)/\((∃xs,bX s xs/\J xs W')∨(∃pre,oP s pre/\Jx pre W'))) .ret a9 w9
      refine bodyPost_ret (results_none rfl _ _ _) hd9 ⟨⟨_,rfl⟩,.inl ⟨_,?_,hj9⟩⟩;rw[hd,jbk hcl.1 hcl.2 htok] at hinv;unfold bX;rw[<- hinv];exact⟨tk,by simp[Lx.app]⟩
    ·refine⟨_,rfl,?_⟩;refine jqL (G:=fun a=>wpListIn _ _ _ _ _ _ a _) hi7 trivial ?_;conv=>whnf
     intro a8 hi8;refine pM hc.ok hi8 ?_;conv=>whnf
     intro a9 hi9;refine jey (i:=107) (b:=true) hi9 rfl ?_;rw[xtw3 rfl];refine wpIn_ret ?_
     change bodyPost Tryz.prog _ (fun e W'=>(∃v,e=.returned v)/\((∃xs,bX s xs/\J xs W')∨(∃pre,oP s pre/\Jx pre W'))) .ret a9 w8
     refine bodyPost_ret (results_none rfl _ _ _) (by obtain⟨E,_,_,hd⟩:=hi9;exact hd) ⟨⟨_,rfl⟩,.inr ⟨_,?_,hjx8⟩⟩;rcases hgood with ⟨rfl,len,htok,htx⟩|⟨hne,htok⟩
     ·rw[hd,jbn hcl.1 hcl.2 htok,jaw] at hinv;generalize bD (p+len) (List.drop len (c::r))=rest at *
      have htk:(⟨tk.kind,p,bs (List.take len (c::r)),tk.n⟩:Tk)=tk:=by rw[<- htx,<- htp]
      rw[htk] at hinv
      have hit:(⟨tk,p,0⟩:It)=itOk tk:=by unfold itOk;rw[htp]
      rw[hit];unfold oP bX;rw[<- hinv]
      cases hr:rest.err with
      |none=>exact⟨(ts++[tk]++rest.toks).map itOk,by simp[Lx.app,hr],⟨rest.toks.map itOk,by simp⟩⟩
      |some x=>exact⟨(ts++[tk]++rest.toks).map itOk++[⟨tk,x.1,x.2⟩],by simp only[Lx.app,hr];exact⟨tk,by simp⟩,⟨rest.toks.map itOk++[⟨tk,x.1,x.2⟩],by simp⟩⟩
     ·rw[hd,jbk hcl.1 hcl.2 htok] at hinv;refine⟨_,?_,List.prefix_rfl⟩;unfold bX;rw[<- hinv];exact⟨tk,by simp[Lx.app]⟩
 ·refine jW (by simp;omega) ?_
  obtain rfl:p=s.size:=by omega
  conv=>whnf
  intro a' w' hi';rw[xtw51 (by omega),jbl] at hinv;obtain⟨hk,hy⟩:=hi'.yielded hv hno
  change bodyPost Tryz.prog _ (fun e W'=>(∃v,e=.returned v)/\((∃xs,bX s xs/\J xs W')∨(∃pre,oP s pre/\Jx pre W'))) .normal a' w'
  refine bodyPost_end (results_none rfl _ _ _) (by obtain⟨E,_,_,hd⟩:=hi';exact hd) ⟨⟨_,rfl⟩,.inl ⟨_,?_,wT hJ hj hk⟩⟩;unfold bX;rw[<- hinv];simp[Lx.app]
section
def jeQ(ops:List Oper):Bool:=ops.all fun o=>match o.op with
 |.defer _=>false
 |_=>true
theorem jnA{n l:Nat}{P:Program}{o:Oper}{a:Act}{w:World}{K:Act->World->Prop}{Q:Exit->Act->World->Prop}(hd:∀c,o.op≠.defer c)(h:o.wp P a w K Q):o.wpIn (Fence.wide.inRound l) n P a w K Q:=by
 refine⟨fun _ _=>trivial,?_⟩;rw[Oper.semAt_eq _ _ _ hd];unfold Oper.wp at h;generalize (execOp a.eval o).run P w=r at *
 match r,h with
 |.ok (.value v) w',h=>exact h
 |.ok .skip w',h=>exact h
 |.ok (.defer d) w',h=>exact h
 |.ok (.enter f args) w',h=>exact⟨fun h'=>by simp[Fence.wide] at h',CallsIn.inRound l (callsIn_wide.2 h)⟩
 |.ok (.row row args) w',h=>exact⟨fun h'=>by simp[Fence.wide] at h',jec h⟩
 |.halt (.panic v) w',h=>exact h
theorem jeX{n l:Nat}{P:Program}{ops:List Oper}{Q:Exit->Act->World->Prop}(hd:jeQ ops=true)(hQ:¬LetsOut Q):∀{is:List Nat} {a:Act} {w:World},wpOps P ops.toArray Q is a w->wpOpsIn (Fence.wide.inRound l) n P ops.toArray Q is a w
 |[],a,w,h=>h
 |i::rest,a,w,h=>by
  unfold wpOps at h;unfold wpOpsIn
  cases ho:ops.toArray[i]? with
  |none =>
   rw[ho] at h;exact jeX hd hQ h
  |some o =>
   rw[ho] at h
   simp only at h ⊢
   have hmem:o∈ops:=by
    have:ops[i]?=some o:=by simpa using ho
    exact xtw20.2 ⟨i,this⟩
   have hnd:∀c,o.op≠.defer c:=fun c e=>by
    have:=xtw65.1 hd o hmem;rw[e] at this;cases this
   split at h
   ·rename_i hw;rw[xtw3 hw];rcases h with h|h
    ·refine jnA hnd ?_;exact Oper.wp_mono (fun a' w' h'=>jeX hd hQ h') h
    ·exact absurd h.2 hQ
   ·rename_i hw;rw[xtw2 hw];exact⟨fun _ _=>trivial,jeX hd hQ h⟩
def jcM(K:Act->World->Prop):Exit->Act->World->Prop
 |.normal,a,w=>K a w
 |_,_,_=>False
section
variable{c:Cx}{w0:W0}{w:World}{C0:Rd}{β0:List Nat}{s:S}{a:Act}
theorem jpy{K:Act->World->Prop}:¬LetsOut (jcp c [] w0 C0 β0 (jcM K)):=by
 rintro⟨a,w,h⟩;simp[jcp,jcM] at h
theorem jnW{id lp n:Nat}{ops:List Oper}{X:List Nat}{l:Tr}{K:S->Prop}{Kc:Act->World->Prop}(hc:c.okN)(hi:Inv [] w0 C0 β0 s a w)(hX:uB X s.bx.length=true)(hB:pN ops.toArray l=true)(hnd:jeQ ops=true)
  (h:jct c (xrB X) s.bx.length ops l 0 s K) (hk:∀s' a' w',K s'->Inv [] w0 C0 β0 s' a' w'->Kc a' w') {Q:Exit->Act->World->Prop} (hQ:∀a w,Kc a w->Q .normal a w):(Code.region id ops.toArray true).wpIn (Fence.wide.inRound lp) n c.P Q a w:=by
 obtain⟨E,hp,ht,hd⟩:=hi;rw[hp.bl] at h
 have hk0:jeg (xrB X) E w.drew w.drew:=⟨fun _ _ _ _=>rfl,(dE hp).sub⟩
 have hT:pU c.P ops.toArray (jcp c [] w0 C0 β0 (jcM Kc)) (jeg (xrB X) E w.drew) l a w.drew :=
  vV rfl (Q:=jcM Kc) hc.ok ⟨0,rfl⟩ (dE hp) ht hd (fun _=>⟨Sub.refl _,fun _ _ h=>h,hk0⟩) (fun _=>rfl) h hk
 simp only[pN,xtw14,xtw17] at hB;have hA:=jfn (md:=.any) hB.1.1 jgL _ l _ a _ hB.1.2 hB.2 hT
 have:(Code.region id ops.toArray true).wpIn (Fence.wide.inRound lp) n c.P (jcp c [] w0 C0 β0 (jcM Kc)) a w:=wpIn_region_draw fun t=>by
  simp only[Region.schedule,hc.ok.m,Bool.true_or,xtw127];exact jeX hnd jpy (wpAny_sound ops.toArray.size t _ a _ hA)
 refine wpIn_mono this fun e a' w' h=>?_
 cases e with
 |normal=>exact hQ _ _ h
 |panic ch=>obtain⟨s',h1,_⟩:=h;exact absurd h1 (hc.no ch s')
 |_=>simp[jcp,jcM] at h
theorem jlk{id lp n:Nat}{ops:List Oper}{Q:Exit->Act->World->Prop}(hc:c.okN)(hi:Inv [] w0 C0 β0 s a w)(hfl:Tr.isFlow (c.ord id)=false)(hfl2:Tr.isFlowL (c.ord id)=false)(ho:pN ops.toArray (c.ord id)=true)(hnd:jeQ ops=true)
  (h:cZ c id ops.toArray true s fun e s'=>e=.normal/\∀a' w',Inv [] w0 C0 β0 s' a' w'->Q .normal a' w'):(Code.region id ops.toArray true).wpIn (Fence.wide.inRound lp) n c.P Q a w:=by
 unfold cZ at h
 simp only at h
 split at h
 ·rename_i hx;rw[hfl] at h
  simp only at h
  rw[hfl2] at h
  simp only at h
  split at h
  ·exact jnW (c:=c.kill) ⟨hc.ok.kill,fun ch s' h=>hc.no ch _ h⟩ hi hx ho hnd h (Kc:=Q .normal) (fun s' a' w' h1 h2=>h1.2 a' w' h2) fun _ _ h=>h
  ·unfold fU at h;obtain⟨φ,h,h'⟩:=h
   exact jnW (c:=c.kill) ⟨hc.ok.kill,fun ch s' h=>hc.no ch _ h⟩ hi hx ho hnd h (Kc:=Q .normal) (fun s' a' w' h1 h2=>(h' _ h1).2 a' w' h2) fun _ _ h=>h
 ·exact h.elim
theorem jrU{W:World}{β:List Nat}{bx:List (List A)}{t:List A}(h0:Gok C0 W)(h1:Sub C0 (kR W))(hnd:β.Nodup)(hbC:∀b∈β,∀o sp,C0 ⟨b,o,sp⟩=none)(hbl:bx.length=β.length)(hbx:∀(i b:Nat) (cs:List A),β[i]?=some b->bx[i]?=some cs->boxAt W ⟨C0,β,[]⟩ b cs)
  (ht:A.repL t ⟨C0,β,[]⟩ a.tmps.toList) (hd:a.defers=[]):Inv [] (.of W) C0 β ⟨t,bx,[]⟩ a W :=
 ⟨⟨C0,β,[]⟩,⟨h1,Sub.refl _,fun _ _ hc=>.inl hc,⟨[],by simp,by simp⟩,hnd,hbC,hbl,hbx,rfl,fun g r y hg=>by simp at hg,fun g e k n cs y b hg=>by simp at hg,fun g e k n cs y h' e' k' n' cs' z b _ hg=>by simp at hg,fun g y hg=>by simp at hg,Keeps.refl _ _,jie h0⟩,ht,hd⟩
theorem jaz(hi:Inv [] w0 C0 β0 s a w){i b:Nat}{x:Value}(hβ:β0[i]?=some b)(hbx:s.bx[i]?=some [.v x]):w.cell? ⟨b,0,none⟩=some x:=by
 obtain⟨E,hp,ht,hd⟩:=hi;obtain⟨β',e1,e2⟩:=hp.bp
 have h1:E.β[i]?=some b:=by
  rw[e1,xtw18 (xtw5.1 hβ).1];exact hβ
 obtain⟨T,arr,q1,q2⟩:=hp.bxs i b _ h1 hbx;have:=tT (vs:=[x]) q2.1
 have e:arr = #[x]:=by
  apply xtw80.1;rw[this]
 simp[kR,World.cell?,q1,e]
theorem jew{W:World}{E:Env}{b:Nat}{T:TypeId}{x:Value}(h:Boxed W b T x)(hx:fX x):boxAt W E b [.v x]:=⟨T,#[x],h,.mk' ⟨x,[],rfl,pD hx,A.rep_v hx,rfl⟩⟩
theorem jmZ{P:Program}{T:List (Nat×Te)}{t:Nat}{e:Te}{W:World}{ad:Addr}{v:Value}(hT:Tab.ok P T)(h:Tab.get T t=some e)(ha:e.d.agg=false)(hc:W.cell? ad=some v):(loadVar t ad).run P W=.ok v W:=by
 have q1:=hT.agg h W;rw[ha] at q1;simp[loadVar,q1,load,Sem.run,hc,Result.andThen]
theorem jgY{P:Program}{T:List (Nat×Te)}(hT:Tab.ok P T){fn:Func}{a1 a2 a3 t1 t2 t3:Nat}{e1 e2 e3:Te}{tmps:Array Value}{W:World}{d1 d2 d3:Addr}{v1 v2 v3:Value}(hr:fn.results = #[.cell a1 t1,.cell a2 t2,.cell a3 t3])
  (p1:tmps.getD a1 undef=.pointer (some d1)) (p2:tmps.getD a2 undef=.pointer (some d2)) (p3:tmps.getD a3 undef=.pointer (some d3))
  (g1:Tab.get T t1=some e1) (g2:Tab.get T t2=some e2) (g3:Tab.get T t3=some e3) (k1:e1.d.agg=false) (k2:e2.d.agg=false) (k3:e3.d.agg=false)
  (c1:W.cell? d1=some v1) (c2:W.cell? d2=some v2) (c3:W.cell? d3=some v3):(results fn tmps).run P W=.ok (.tuple #[v1,v2,v3]) W:=by
 have he:results fn tmps=(do let vs <- fn.results.mapM (jiS tmps);pure (if h:vs.size=1 then vs[0] else .tuple vs)):=by
  unfold results
  congr 1
 have f:∀{x t d v},tmps.getD x undef=.pointer (some d)->(loadVar t d).run P W=.ok v W->(jiS tmps (.cell x t)).run P W=.ok v W:=fun h1 h2=>by
  simp only[jiS,h1,asAddr];simpa [Result.andThen] using h2
 have r1:=f (t:=t1) p1 (jmZ hT g1 k1 c1);have r2:=f (t:=t2) p2 (jmZ hT g2 k2 c2);have r3:=f (t:=t3) p3 (jmZ hT g3 k3 c3);rw[he,hr];simp[r1,r2,r3,Result.andThen]
end
end
end Go.Proofs.YtfbifdccmabdbaaGreatDoor.Vm
