/- Part 3 of the proof. -/
import Derived.Test.YtdnnmiemgmgffaaGreatDoorK2
import Derived.Test.YtdnnmiemgmgffaaGreatDoorRows
import Derived.LaidLaws
import Derived.LaidMore
import Derived.LaidHandle
import Derived.MakeChecks
import Derived.FnData
import Derived.Lib.LaidTab
import Derived.WideShapes
import Derived.OpenShut
import Derived.Handed
import Derived.Shelf.Vars
import Derived.Recover
import Derived.Lib.Hide
import Derived.Carry
import Derived.Laws.EntriesVeiled
import Derived.Shelf.Pu.ToErrorRange
import Derived.Shelf.Lay
import Derived.Ground.MpProg
import Derived.Shelf.Pu.ToError
import Derived.Shelf.Pu.Lower
import Derived.RangeFuncFrom
import Derived.RangeFuncBound
import Derived.RangeFuncLeaves
import Derived.TacticsIn
set_option maxRecDepth 100000
set_option linter.unusedSimpArgs false
set_option linter.unusedVariables false
set_option maxHeartbeats 4000000
namespace Go.Proofs.YtdnnmiemgmgffaaGreatDoor.Vm
abbrev zI:Value:=.int .i64 0
abbrev zL:Value:=.slice none 0 0
abbrev zS:Value:=.string ⟨#[]⟩
abbrev zB:Value:=.bool false
abbrev zU:Value:=.int .u8 0
abbrev zP:Value:=.pointer none
abbrev eI:Te:=⟨.int .i64,[zI],8⟩
abbrev eS:Te:=⟨.str,[zS],16⟩
abbrev eY:Te:=⟨.iface,[.nilIface],16⟩
abbrev eL(k:Nat):Te:=⟨.slice k,[zL],24⟩
abbrev eP(k:Nat):Te:=⟨.ptr k,[zP],8⟩
def rZ(x:Value):Nat->List Value
 |0=>[]
 |n+1=>x::rZ x n
def fnT:List Nat->List (Nat×Te)
 |[]=>[]
 |i::l=>(i,⟨.func,[.nilFunc],8⟩)::fnT l
set_option maxRecDepth 20000 in
def tab:List (Nat×Te):=(2,eI)::(3,eI)::(4,⟨.bool,[zB],1⟩)::(5,⟨.int .u8,[zU],1⟩)::(6,⟨.int .u8,[zU],1⟩)::(7,⟨.struct [(0,2),(1,3),(2,4),(3,6)],[zI,zI,zB,zU],24⟩)::(8,⟨.struct [(0,2),(1,3),(2,4),(3,6)],[zI,zI,zB,zU],24⟩)::(9,eS)::(10,eS)::(11,eS)::(12,⟨.int .u64,[.int .u64 0],8⟩)::(13,⟨.struct [(0,9),(1,12)],[zS,.int .u64 0],24⟩)::(14,⟨.struct [(0,9),(1,12)],[zS,.int .u64 0],24⟩)::(15,eP 229)::(16,eP 232)::(17,eP 240)::(18,⟨.struct [(0,17)],[zP],8⟩)::(19,⟨.struct [(0,17)],[zP],8⟩)::(20,eY)::(21,⟨.int .i32,[.int .i32 0],4⟩)::(22,eL 3)::(23,eL 9)::(24,eL 47)::(25,⟨.struct [(0,23),(1,23),(2,24)],[zL,zL,zL],72⟩)::(26,⟨.struct [(0,23),(1,23),(2,24)],[zL,zL,zL],72⟩)::(27,eI)::(32,eL 26)::(33,eL 84)::(34,⟨.arr 40 3,rZ zI 40,320⟩)::(35,⟨.struct [(0,33),(1,34),(41,3),(42,3)],[zL,zI,zI,zI,zI,zI,zI,zI,zI,zI,zI,zI,zI,zI,zI,zI,zI,zI,zI,zI,zI,zI,zI,zI,zI,zI,zI,zI,zI,zI,zI,zI,zI,zI,zI,zI,zI,zI,zI,zI,zI,zI,zI],360⟩)::(36,⟨.struct [(0,33),(1,34),(41,3),(42,3)],[zL,zI,zI,zI,zI,zI,zI,zI,zI,zI,zI,zI,zI,zI,zI,zI,zI,zI,zI,zI,zI,zI,zI,zI,zI,zI,zI,zI,zI,zI,zI,zI,zI,zI,zI,zI,zI,zI,zI,zI,zI,zI,zI],360⟩)::(39,eP 50)::(43,eL 45)::(44,⟨.struct [(0,3),(1,3),(2,9),(3,43)],[zI,zI,zS,zL],56⟩)::(45,⟨.struct [(0,3),(1,3),(2,9),(3,43)],[zI,zI,zS,zL],56⟩)::(46,⟨.struct [(0,3),(1,45)],[zI,zI,zI,zS,zL],64⟩)::(47,⟨.struct [(0,3),(1,45)],[zI,zI,zI,zS,zL],64⟩)::(48,⟨.arr 16 3,rZ zI 16,128⟩)::(49,⟨.struct [(0,48),(16,22),(17,3),(18,3),(19,4),(20,3)],[zI,zI,zI,zI,zI,zI,zI,zI,zI,zI,zI,zI,zI,zI,zI,zI,zL,zI,zI,zB,zI],184⟩)::(50,⟨.struct [(0,48),(16,22),(17,3),(18,3),(19,4),(20,3)],[zI,zI,zI,zI,zI,zI,zI,zI,zI,zI,zI,zI,zI,zI,zI,zI,zL,zI,zI,zB,zI],184⟩)::(55,eL 64)::(58,eP 60)::(59,⟨.struct [(0,55),(1,3),(2,3),(3,27),(4,23)],[zL,zI,zI,zI,zL],72⟩)::(60,⟨.struct [(0,55),(1,3),(2,3),(3,27),(4,23)],[zL,zI,zI,zI,zL],72⟩)::(63,⟨.struct [(0,3),(1,3),(2,9),(3,3)],[zI,zI,zS,zI],40⟩)::(64,⟨.struct [(0,3),(1,3),(2,9),(3,3)],[zI,zI,zS,zI],40⟩)::(69,eP 72)::(71,⟨.struct [(0,22),(1,3)],[zL,zI],32⟩)::(72,⟨.struct [(0,22),(1,3)],[zL,zI],32⟩)::(75,eP 77)::(76,⟨.struct [(0,26),(3,33)],[zL,zL,zL,zL],96⟩)::(77,⟨.struct [(0,26),(3,33)],[zL,zL,zL,zL],96⟩)::(83,⟨.struct [(0,3),(1,3)],[zI,zI],16⟩)::(84,⟨.struct [(0,3),(1,3)],[zI,zI],16⟩)::(98,⟨.map 3 96,[.map none],8⟩)::(99,⟨.map 3 103,[.map none],8⟩)::(101,⟨.map 3 3,[.map none],8⟩)::(102,⟨.struct [(0,3),(1,3),(2,3),(3,3)],[zI,zI,zI,zI],32⟩)::(103,⟨.struct [(0,3),(1,3),(2,3),(3,3)],[zI,zI,zI,zI],32⟩)::(113,⟨.map 9 3,[.map none],8⟩)::(116,eL 131)::(119,⟨.struct [(0,3),(1,27)],[zI,zI],16⟩)::(120,⟨.struct [(0,3),(1,27)],[zI,zI],16⟩)::(121,eP 123)::(122,⟨.struct [(0,116),(1,23)],[zL,zL],48⟩)::(123,⟨.struct [(0,116),(1,23)],[zL,zL],48⟩)::(131,⟨.struct [(0,3),(1,3),(2,9),(3,3)],[zI,zI,zS,zI],40⟩)::(132,⟨.struct [(0,3),(1,27)],[zI,zI],16⟩)::(133,⟨.struct [(0,3),(1,27)],[zI,zI],16⟩)::(134,⟨.map 3 47,[.map none],8⟩)::(141,eI)::(144,eL 23)::(145,⟨.int .u8,[zU],1⟩)::(146,⟨.arr 256 145,rZ zU 256,256⟩)::(151,eL 5)::(154,⟨.int .u64,[.int .u64 0],8⟩)::(155,eY)::(156,eY)::(164,⟨.struct [(0,141),(1,141)],[zI,zI],16⟩)::(165,⟨.struct [(0,141),(1,141)],[zI,zI],16⟩)::(166,⟨.map 9 165,[.map none],8⟩)::(171,⟨.map 9 170,[.map none],8⟩)::(176,⟨.int .u64,[.int .u64 0],8⟩)::(177,eI)::(179,eP 198)::(186,eI)::(194,⟨.int .u32,[.int .u32 0],4⟩)::(197,⟨.struct [(0,9),(1,9),(2,156)],[zS,zS,.nilIface],48⟩)::(198,⟨.struct [(0,9),(1,9),(2,156)],[zS,zS,.nilIface],48⟩)::(201,⟨.int .u64,[.int .u64 0],8⟩)::(205,eP 3)::(207,eP 5)::(208,eP 210)::(209,⟨.struct [(0,9)],[zS],16⟩)::(210,⟨.struct [(0,9)],[zS],16⟩)::(214,eP 201)::(220,⟨.arr 24 5,rZ zU 24,24⟩)::(224,⟨.arr 20 154,[.int .u64 0,.int .u64 0,.int .u64 0,.int .u64 0,.int .u64 0,.int .u64 0,.int .u64 0,.int .u64 0,.int .u64 0,.int .u64 0,.int .u64 0,.int .u64 0,.int .u64 0,.int .u64 0,.int .u64 0,.int .u64 0,.int .u64 0,.int .u64 0,.int .u64 0,.int .u64 0],160⟩)::(225,⟨.arr 65 5,rZ zU 65,65⟩)::(226,⟨.arr 32 5,rZ zU 32,32⟩)::(227,⟨.arr 64 5,rZ zU 64,64⟩)::(228,⟨.struct [(0,17),(1,17),(2,17),(3,9)],[zP,zP,zP,zS],40⟩)::(229,⟨.struct [(0,17),(1,17),(2,17),(3,9)],[zP,zP,zP,zS],40⟩)::(230,⟨.arr 0 16,[],0⟩)::(231,⟨.struct [(0,230)],[],0⟩)::(232,⟨.struct [(0,230)],[],0⟩)::(234,⟨.int .u8,[zU],1⟩)::(235,⟨.int .u8,[zU],1⟩)::(237,⟨.int .i32,[.int .i32 0],4⟩)::(238,⟨.int .i32,[.int .i32 0],4⟩)::(239,⟨.struct [(0,12),(1,12),(2,194),(3,234),(4,5),(5,5),(6,235),(7,236),(8,207),(9,237),(10,238)],[.int .u64 0,.int .u64 0,.int .u32 0,zU,zU,zU,zU,.nilFunc,zP,.int .i32 0,.int .i32 0],48⟩)::(240,⟨.struct [(0,12),(1,12),(2,194),(3,234),(4,5),(5,5),(6,235),(7,236),(8,207),(9,237),(10,238)],[.int .u64 0,.int .u64 0,.int .u32 0,zU,zU,zU,zU,.nilFunc,zP,.int .i32 0,.int .i32 0],48⟩)::(241,⟨.other,[zP],8⟩)::fnT [1,29,30,31,38,40,41,42,51,52,53,54,57,61,62,65,66,67,68,70,73,74,78,79,80,81,82,85,86,87,88,89,90,92,93,94,95,96,100,105,106,107,109,110,111,112,114,115,118,124,125,126,127,128,129,130,135,136,137,138,139,140,142,143,147,148,149,150,152,153,158,159,160,162,163,167,168,169,170,172,173,174,175,178,180,181,182,183,184,185,188,189,190,191,192,193,195,196,199,200,202,203,204,206,211,212,213,216,217,219,221,223,233,236]
theorem jok{P:Program}:∀{T:List (Nat×Te)},T.map (fun p=>jom P p.1)=T.map (fun p=>some p.2)->Tab.ok P T
 |[],_=>Tab.ok_nil P
 |(i,e)::r,h=>by rw[List.map_cons,List.map_cons,List.cons.injEq] at h;exact Tab.ok_cons h.1 (jok h.2)
theorem jbQ:Tab.ok Tryz.prog tab:=jok (by kernel_rfl)
theorem jqj{T:List (Nat×Te)}(h:(T.all fun x=>x.2.z.all fun u=>u.oneCell')=true):pV T:=fun t e he u hu=>by
 induction T with
 |nil=>simp[Tab.get] at he
 |cons x r ih =>
  obtain⟨i,e1⟩:=x;simp only[List.all_cons,Bool.and_eq_true] at h;unfold Tab.get at he;split at he
  ·cases he;exact List.all_eq_true.1 h.1 u hu
  ·exact ih h.2 he
theorem jol:pV tab:=jqj (by kernel_rfl)
theorem mixed:Tryz.prog.follows .mixedOrders=true:=by kernel_rfl
def qr(m:Nat)(t:Tr):List Nat->Tr
 |[]=>t
 |k::l=>.q k m (qr m t l)
def oS(i k:Nat)(x y:Tr):Tr:=match Nat.beq i k with|true=>x|false=>y
def juQ(id:Nat):Tr:=oS id 2 (.q 0 3 (.q 2 0 (.alt 1 1 (.alt 3 1 (.q 4 3 .nil) .nil) .nil)))<|oS id 12 (qr 3 (.q 4 0 (qr 3 (.q 9 0 (qr 3 (.q 13 0 (.alt 14 2 .nil .nil)) [10,11,12])) [5,6,7,8])) [0,1,2,3])<|oS id 15 (.q 0 3 (.q 1 0 (qr 3 (.q 6 0 (qr 3 (.q 10 0 (.q 12 3 (.alt 11 1 (.q 13 3 (.q 14 0 (.alt 15 1 (qr 3 (.q 21 0 (qr 3 .nil [22,23])) [16,17,18,19,20]) .nil))) .nil))) [7,8,9])) [2,3,4,5])))<|oS id 17 (qr 3 (.q 3 0 (qr 3 (.q 7 0 (qr 3 (.q 13 0 (qr 3 (.q 17 0 (qr 3 (.q 24 0 (qr 3 (.q 28 0 (.alt 29 2 (qr 3 .nil [30,31]) .nil)) [25,26,27])) [18,19,20,21,22,23])) [14,15,16])) [8,9,10,11,12])) [4,5,6])) [0,1,2])<|.nil
def juR(id:Nat):Tr:=oS id 10 (.q 0 3 (.q 1 0 (.q 2 3 (.alt 3 1 (.alt 4 1 (.q 5 3 (.alt 6 2 .nil .nil)) .nil) .nil))))<|oS id 11 (.q 0 3 (.q 1 0 (.q 2 3 (.alt 3 1 (.alt 4 1 (.q 5 3 (.alt 6 2 .nil .nil)) .nil) .nil))))<|oS id 12 (qr 3 (.q 3 0 (qr 3 (.q 9 0 (qr 3 (.q 13 0 (qr 3 (.q 16 0 (qr 3 .nil [17,18])) [14,15])) [10,11,12])) [4,5,6,7,8])) [0,1,2])<|oS id 19 (qr 3 (.q 4 0 (qr 3 (.q 8 0 (.alt 9 1 (qr 3 .nil [10,11]) .nil)) [5,6,7])) [0,1,2,3])<|.nil
def juS(id:Nat):Tr:=oS id 8 (.q 0 3 (.q 1 0 (qr 3 (.alt 4 1 (.q 5 3 (.alt 6 1 (.alt 7 1 (.q 8 3 (.alt 9 2 .nil .nil)) .nil) .nil)) .nil) [2,3])))<|.nil
def juT(id:Nat):Tr:=oS id 11 (.q 0 3 (.q 1 0 (qr 3 (.q 5 0 (qr 3 (.alt 9 2 .nil .nil) [6,7,8])) [2,3,4])))<|.nil
def juU(id:Nat):Tr:=oS id 5 (qr 3 (.alt 4 1 (qr 3 (.alt 9 2 .nil .nil) [5,8]) .nil) [0,1,2,3,6,7])<|.nil
def uF(id:Nat):Tr:=oS id 5 (.q 0 3 (.q 1 0 (.q 2 3 (.q 3 0 (.q 4 3 (.q 5 0 (.alt 6 2 (.q 7 3 .nil) .nil)))))))<|oS id 6 (.q 0 3 (.q 1 0 (.q 2 3 (.q 3 0 (.q 4 3 (.q 5 0 (.alt 6 2 .nil .nil)))))))<|oS id 7 (.q 0 3 (.q 1 0 (.q 2 3 (.q 3 0 (.q 4 3 (.q 5 0 (.alt 6 2 .nil .nil)))))))<|oS id 10 (.q 0 3 (.q 1 0 (.q 2 3 (.q 3 0 (.q 4 3 (.q 5 0 (.alt 6 2 (.q 7 3 .nil) .nil)))))))<|oS id 11 (.q 0 3 (.q 1 0 (.q 2 3 (.q 3 0 (.q 4 3 (.q 5 0 (.alt 6 2 .nil .nil)))))))<|oS id 16 (.q 0 3 (.q 1 0 (.q 2 3 (.q 3 0 (qr 3 (.q 6 0 (.alt 7 2 .nil .nil)) [4,5])))))<|oS id 23 (qr 3 (.q 2 0 (.q 3 3 (.q 4 0 (qr 3 (.q 7 0 (.alt 8 2 (.alt 9 2 (.alt 10 2 (.q 11 3 .nil) .nil) .nil) .nil)) [5,6])))) [0,1])<|oS id 25 (.q 0 3 (.q 1 0 (.q 2 3 (.q 3 0 (qr 3 (.q 9 0 (qr 3 (.alt 4 1 (.alt 5 1 (qr 3 (.alt 13 2 .nil .nil) [6,12]) .nil) .nil) [10,11])) [7,8])))))<|oS id 26 (qr 3 (.q 4 0 (.q 5 3 (.q 6 0 (.q 7 3 (.q 8 0 (.alt 9 1 (.alt 10 1 (qr 3 (.alt 13 2 .nil .nil) [11,12]) .nil) .nil)))))) [0,1,2,3])<|.nil
def jtV(id:Nat):Tr:=oS id 20 (qr 3 (.q 3 0 (qr 3 (.alt 4 1 (.q 7 3 (.q 8 0 (.alt 9 1 (.alt 10 1 (.q 11 3 .nil) .nil) .nil))) .nil) [5,6])) [0,1,2])<|oS id 36 (qr 3 (.q 2 0 (qr 3 (.q 5 0 (qr 3 (.q 8 0 (.alt 9 2 (.alt 10 2 (.alt 11 2 (.q 12 3 .nil) .nil) .nil) .nil)) [6,7])) [3,4])) [0,1])<|oS id 38 (qr 3 (.q 2 0 (qr 3 (.q 6 0 (qr 3 (.alt 3 1 (.q 9 3 (.alt 10 2 .nil .nil)) .nil) [7,8])) [4,5])) [0,1])<|oS id 15 (qr 3 (.q 4 0 (.q 5 3 (.q 6 0 (.q 8 3 (.q 9 0 (.alt 7 1 (.alt 10 1 (.alt 11 1 (qr 3 (.alt 14 2 .nil .nil) [12,13]) .nil) .nil) .nil)))))) [0,1,2,3])<|.nil
def jtW(id:Nat):Tr:=oS id 6 (qr 3 (.q 3 0 (qr 3 (.q 7 0 (.q 8 3 .nil)) [4,5,6])) [0,1,2])<|.nil
def jtX(id:Nat):Tr:=oS id 1 (qr 3 (.q 3 0 (qr 3 (.q 7 0 (qr 3 (.q 10 0 (.q 11 3 .nil)) [8,9])) [4,5,6])) [0,1,2])<|.nil
def jqO(id:Nat):Tr:=oS id 4 (.q 0 3 (.q 1 0 (qr 3 (.alt 4 1 (.alt 5 1 (.alt 6 1 (.q 7 3 (.alt 8 2 .nil .nil)) .nil) .nil) .nil) [2,3])))<|.nil
def jtY(id:Nat):Tr:=oS id 3 (qr 3 (.q 9 0 (.q 10 3 (.q 11 0 (qr 3 .nil [12,13])))) [0,1,2,3,4,5,6,7,8])<|.nil
def jtZ(id:Nat):Tr:=oS id 1 (qr 3 (.q 3 0 (qr 3 (.q 7 0 (.alt 8 2 (.q 9 3 .nil) .nil)) [4,5,6])) [0,1,2])<|.nil
def ju0(id:Nat):Tr:=oS id 5 (.q 0 3 (.q 1 0 (qr 3 (.alt 4 1 (.alt 5 1 (.alt 6 1 (.q 7 3 (.alt 8 2 .nil .nil)) .nil) .nil) .nil) [2,3])))<|.nil
def jbh(id:Nat):Tr:=oS id 4 (.q 0 3 (.q 1 0 (.q 2 3 (.q 3 0 (qr 3 (.alt 4 1 (.alt 5 1 (qr 3 (.q 10 0 (.q 11 3 .nil)) [6,9]) .nil) .nil) [7,8])))))<|oS id 6 (.q 1 3 (.q 2 0 (.alt 0 1 (.alt 3 2 (qr 3 .nil [4,5]) .nil) .nil)))<|oS id 8 (qr 3 (.q 2 0 (.q 3 3 (.q 4 0 (.q 5 3 (.q 6 0 (.alt 7 2 (.alt 8 2 (.q 9 3 .nil) .nil) .nil)))))) [0,1])<|oS id 10 (.q 0 3 (.q 1 0 (.q 2 3 (.q 3 0 (.q 4 3 (.q 5 0 (.alt 6 2 (.q 7 3 .nil) .nil)))))))<|oS id 15 (.q 0 3 (.q 1 0 (.q 2 3 (.q 3 0 (.q 4 3 (.q 5 0 (.alt 6 2 (.q 7 3 .nil) .nil)))))))<|oS id 20 (.q 0 3 (.q 1 0 (.q 2 3 (.q 3 0 (.q 4 3 (.q 5 0 (.alt 6 2 (.q 7 3 .nil) .nil)))))))<|.nil
def ju1(id:Nat):Tr:=oS id 1 (qr 3 (.q 3 0 (qr 3 (.q 7 0 (qr 3 (.alt 12 1 (.alt 13 2 (.q 14 3 .nil) .nil) .nil) [8,9,10,11])) [4,5,6])) [0,1,2])<|.nil
def ju2(id:Nat):Tr:=oS id 6 (.q 0 3 (.q 1 0 (qr 3 (.q 4 0 (.q 5 3 (.q 6 0 (qr 3 (.q 9 0 (.q 10 3 .nil)) [7,8])))) [2,3])))<|.nil
def ju3(id:Nat):Tr:=oS id 0 (qr 3 (.q 3 0 (qr 3 (.q 8 0 (qr 3 .nil [9,10])) [4,5,6,7])) [0,1,2])<|.nil
def ju4(id:Nat):Tr:=oS id 1 (qr 3 (.q 3 0 (qr 3 (.q 7 0 (.q 8 3 (.q 9 0 (.alt 10 1 (.alt 11 2 .nil .nil) .nil)))) [4,5,6])) [0,1,2])<|.nil
def jns(id:Nat):Tr:=oS id 18 (.q 0 0 (qr 3 (.alt 4 1 (.alt 5 1 (.q 6 3 .nil) .nil) .nil) [1,2,3]))<|oS id 33 (.q 0 3 (qr 0 (qr 3 (.alt 5 1 (.alt 6 1 (.q 7 3 (.alt 8 2 .nil .nil)) .nil) .nil) [3,4]) [1,2]))<|oS id 41 (.q 0 0 (qr 3 (.alt 3 1 (.alt 4 1 (.q 5 3 (.alt 6 2 .nil .nil)) .nil) .nil) [1,2]))<|.nil
def fX(id:Nat):Tr:=oS id 14 (.q 0 3 (qr 0 (.q 3 3 (.alt 4 1 (.alt 5 1 (.q 6 3 (.alt 7 2 .nil .nil)) .nil) .nil)) [1,2]))<|oS id 23 (.q 0 0 (.q 1 3 (.alt 2 1 (.alt 3 1 (.q 4 3 (.alt 5 2 .nil .nil)) .nil) .nil)))<|oS id 32 (.q 0 0 (qr 3 (.alt 4 1 (.alt 5 1 (.q 6 3 (.alt 7 2 .nil .nil)) .nil) .nil) [1,2,3]))<|.nil
def fY(id:Nat):Tr:=oS id 4 (.q 0 0 (.q 1 3 (.q 2 0 (.q 3 3 (.q 4 0 (qr 3 (.alt 7 2 .nil .nil) [5,6]))))))<|oS id 6 (.q 0 0 (.q 1 3 (.q 2 0 (.q 3 3 (.q 4 0 (qr 3 (.alt 7 2 .nil .nil) [5,6]))))))<|.nil
def ju5(id:Nat):Tr:=oS id 1 (.q 0 0 (.q 1 3 (.q 2 0 (.q 3 3 (.q 4 0 (qr 3 (.alt 7 2 .nil .nil) [5,6]))))))<|.nil
def ju6(id:Nat):Tr:=oS id 1 (.q 0 3 (.q 1 0 (.q 2 3 (.q 3 0 (qr 3 (.q 7 0 (qr 3 .nil [8,9,10,11])) [4,5,6])))))<|.nil
def jdo(id:Nat):Tr:=oS id 20 (.q 0 3 (.q 1 0 (qr 3 (.alt 5 1 (.alt 6 1 (.q 7 3 (.alt 8 2 .nil .nil)) .nil) .nil) [2,3,4])))<|.nil
def jk8(id:Nat):Tr:=oS id 11 (.q 0 3 (.q 1 0 (qr 3 (.alt 5 1 (.alt 6 1 (.q 7 3 (.alt 8 2 .nil .nil)) .nil) .nil) [2,3,4])))<|oS id 14 (.q 0 3 (.q 1 0 (qr 3 (.alt 5 1 (.alt 6 1 (.q 7 3 (.alt 8 2 .nil .nil)) .nil) .nil) [2,3,4])))<|.nil
def ju7(id:Nat):Tr:=oS id 0 (.q 0 0 (.q 1 3 (.q 2 0 (.q 3 3 (.q 4 0 (.alt 5 2 .nil .nil))))))<|.nil
def ju8(id:Nat):Tr:=oS id 0 (.q 0 0 (.q 1 3 (.q 2 0 (.q 3 3 (.q 4 0 (.alt 5 2 .nil .nil))))))<|.nil
def ju9(id:Nat):Tr:=oS id 0 (.q 0 0 (.q 1 3 (.q 2 0 (.q 3 3 (.q 4 0 (.alt 5 2 .nil .nil))))))<|.nil
def jua(id:Nat):Tr:=oS id 0 (qr 3 (.q 3 0 (qr 3 (.q 8 0 (qr 3 (.alt 12 2 .nil .nil) [9,10,11])) [4,5,6,7])) [0,1,2])<|.nil
def jqP(id:Nat):Tr:=oS id 6 (.q 0 3 (.q 1 0 (.q 2 3 (.q 3 0 (.alt 4 1 (.alt 5 1 (.alt 6 2 .nil .nil) .nil) .nil)))))<|.nil
def jqQ(id:Nat):Tr:=oS id 7 (qr 3 (.q 2 0 (.q 3 3 (.q 4 0 (.alt 5 1 (.alt 6 1 (.alt 7 2 .nil .nil) .nil) .nil)))) [0,1])<|.nil
def jub(id:Nat):Tr:=oS id 1 (qr 3 (.q 3 0 (qr 3 (.q 7 0 (.q 8 3 (.q 9 0 (.alt 10 1 (.alt 11 2 .nil .nil) .nil)))) [4,5,6])) [0,1,2])<|oS id 15 (.q 1 3 (.q 2 0 (.alt 0 1 (.alt 3 2 .nil .nil) .nil)))<|.nil
def jqR(id:Nat):Tr:=oS id 4 (.q 0 3 (.q 1 0 (qr 3 (.alt 4 1 (.alt 5 1 (.alt 6 1 (.q 7 3 (.alt 8 2 .nil .nil)) .nil) .nil) .nil) [2,3])))<|.nil
def jnr(id:Nat):Tr:=oS id 15 (.q 0 0 (qr 3 (.alt 2 1 (.q 3 3 (.alt 5 1 (.q 6 3 (.alt 7 2 .nil .nil)) .nil)) .nil) [1,4]))<|oS id 19 (.q 0 0 (qr 3 (.alt 2 1 (.q 3 3 (.alt 5 1 (.q 6 3 (.alt 7 2 .nil .nil)) .nil)) .nil) [1,4]))<|oS id 25 (.q 0 0 (qr 3 (.alt 3 1 (.q 4 3 (.alt 5 2 .nil .nil)) .nil) [1,2]))<|oS id 27 (.q 0 0 (qr 3 (.alt 3 1 (.q 4 3 (.alt 5 2 .nil .nil)) .nil) [1,2]))<|.nil
def jsm(id:Nat):Tr:=oS id 1 (.q 0 0 (qr 3 (.q 3 0 (.alt 4 2 (qr 3 .nil [5,6]) .nil)) [1,2]))<|.nil
def jiC(id:Nat):Tr:=oS id 5 (.q 0 3 (.q 1 0 (qr 3 (.alt 4 1 (.alt 5 1 (.q 6 3 (.alt 7 1 (.alt 8 2 .nil .nil) .nil)) (.alt 7 1 (.alt 5 1 (.q 6 3 (.alt 8 2 .nil .nil)) .nil) .nil)) (.alt 7 1 (.alt 4 1 (.alt 5 1 (.q 6 3 (.alt 8 2 .nil .nil)) .nil) .nil) .nil)) [2,3])))<|oS id 8 (.q 1 3 (.q 2 0 (.alt 0 1 (.alt 3 1 (.q 4 3 .nil) .nil) .nil)))<|.nil
def jsn(id:Nat):Tr:=oS id 4 (.q 0 3 (.q 1 0 (qr 3 (.alt 4 1 (.alt 5 1 (.q 6 3 (.alt 7 2 .nil .nil)) .nil) .nil) [2,3])))<|.nil
def jso(id:Nat):Tr:=oS id 1 (.q 0 0 (.q 1 3 (.alt 2 1 (.q 3 3 (.alt 4 1 (.alt 5 2 .nil .nil) .nil)) (.alt 4 1 (.alt 2 1 (.q 3 3 (.alt 5 2 .nil .nil)) .nil) .nil))))<|.nil
def jsp(id:Nat):Tr:=oS id 7 (.q 0 3 (.q 1 0 (qr 3 (.alt 4 1 (.alt 5 1 (.alt 6 1 (.q 7 3 (.alt 8 2 .nil .nil)) .nil) .nil) .nil) [2,3])))<|.nil
def jsq(id:Nat):Tr:=oS id 3 (.q 0 0 (qr 3 (.alt 3 1 (.alt 4 1 (.q 5 3 (.alt 6 1 (.alt 7 2 .nil .nil) .nil)) (.alt 6 1 (.alt 4 1 (.q 5 3 (.alt 7 2 .nil .nil)) .nil) .nil)) (.alt 6 1 (.alt 3 1 (.alt 4 1 (.q 5 3 (.alt 7 2 .nil .nil)) .nil) .nil) .nil)) [1,2]))<|.nil
def jsr(id:Nat):Tr:=oS id 7 (.q 0 3 (.q 1 0 (qr 3 (.alt 4 1 (.alt 5 1 (.q 6 3 (.alt 7 2 .nil .nil)) .nil) .nil) [2,3])))<|.nil
def jR(_:Nat):Tr:=.nil
def qB(_:Nat):List Nat:=[]
theorem jQ(ord:Nat->Tr)(xs:Nat->List Nat)(np:Nat):(⟨Tryz.prog,tab,ord,xs,np,fun _ _=>False⟩:Cx).ok:=⟨jbQ,jol,mixed⟩
theorem jmj(ord:Nat->Tr)(xs:Nat->List Nat)(np:Nat):(⟨Tryz.prog,tab,ord,xs,np,fun _ _=>False⟩:Cx).okN:=⟨⟨jbQ,jol,mixed⟩,fun _ _ h=>h⟩
theorem wJ(ord:Nat->Tr)(xs:Nat->List Nat)(np:Nat)(pan:List PanicEntry->S->Prop):(⟨Tryz.prog,tab,ord,xs,np,pan⟩:Cx).ok:=⟨jbQ,jol,mixed⟩
set_option maxRecDepth 100000 in
theorem eN{f:Nat}{fn:Func}{x:Code}{ins:List (List A)}{args:List A}{post:List (List A)->A->Prop}(o:Nat->Tr)(xs:Nat->List Nat)(np:Nat)(hf:Tryz.prog.funcs[f]?=some fn)(hb:fn.body=some x)(h:nN args->yM args (fn.ntmps-args.length) fun t=>sG ⟨Tryz.prog,tab,o,xs,np,fun _ _=>False⟩ x ⟨t,ins,[]⟩ (ji5 ⟨Tryz.prog,tab,o,xs,np,fun _ _=>False⟩ fn.results.toList post))(h1:(fn.name == "runtime.NumGoroutine")=false:=by kernel_rfl) (h2:ins.length=np:=by rfl) (h3:kD o x=true:=by kernel_rfl):Spec Tryz.prog f ins args post:=jpW (jQ o xs np) (fun _ _ h=>h) hf hb h1 h2 h3 h
set_option maxRecDepth 100000 in
theorem eNF{f:Nat}{fn:Func}{x:Code}{args:List A}{post:Nat->Nat->Nat->List A->A->Prop}(o:Nat->Tr)(xs:Nat->List Nat)(hf:Tryz.prog.funcs[f]?=some fn)(hb:fn.body=some x)(h:nN args->yM args (fn.ntmps-args.length) fun t=>sG ⟨Tryz.prog,tab,o,xs,0,fun _ _=>False⟩ x ⟨t,[],[]⟩ (jrH ⟨Tryz.prog,tab,o,xs,0,fun _ _=>False⟩ fn.results.toList post))(h1:(fn.name == "runtime.NumGoroutine")=false:=by kernel_rfl) (h3:kD o x=true:=by kernel_rfl):jad Tryz.prog f args post:=jo5 (jQ o xs 0) (fun _ _ h=>h) hf hb h1 rfl h3 h
set_option maxRecDepth 100000 in
theorem eNP{f:Nat}{fn:Func}{x:Code}{ins:List (List A)}{args:List A}{post:List (List A)->A->Prop}{pn:List PanicEntry->Prop}(o:Nat->Tr)(xs:Nat->List Nat)(hf:Tryz.prog.funcs[f]?=some fn)(hb:fn.body=some x)(h:nN args->yM args (fn.ntmps-args.length) fun t=>sG ⟨Tryz.prog,tab,o,xs,1,fun ch _=>pn ch⟩ x ⟨t,ins,[]⟩ (ji5 ⟨Tryz.prog,tab,o,xs,1,fun ch _=>pn ch⟩ fn.results.toList post))(h1:(fn.name == "runtime.NumGoroutine")=false:=by kernel_rfl) (h2:ins.length=1:=by rfl) (h3:kD o x=true:=by kernel_rfl):SpecP Tryz.prog f ins args post pn:=vT (wJ o xs 1 fun ch _=>pn ch) (fun _ _ h=>h) hf hb h1 h2 h3 h
end Go.Proofs.YtdnnmiemgmgffaaGreatDoor.Vm
namespace Go.Proofs.YtdnnmiemgmgffaaGreatDoor.Vm
open Go.RowKit
def jX(x:ByteArray):A:=.v (.string x)
def intA(n:Int):A:=.v (.int .i64 n)
def zK(b:Bool):A:=.v (.bool b)
def yV(l:List ByteArray):List A:=l.map jX
def jV(l:List Int):List A:=l.map intA
theorem fL(l:List ByteArray)(i:Nat)(hi:i<l.length):jD 1 i (yV l)=[.v (.string l[i])]:=y8 _ l i hi
theorem pL(l:List Int)(i:Nat)(hi:i<l.length):jD 1 i (jV l)=[.v (.int .i64 l[i])]:=y8 _ l i hi
theorem lI(b:ByteArray)(i:Nat)(hi:i<b.data.toList.length):jD 1 i (wI b)=[.v (.int .u8 (b.data.toList[i].toNat:Int))]:=y8 _ b.data.toList i hi
theorem jn7{n:Nat}(h:n<=1000000000):n<=maxLen:=by unfold maxLen;omega
theorem eJ{f:Nat}{fn:Func}{x:Code}(hf:Tryz.prog.funcs[f]?=some fn)(hb:fn.body=some x)(hname:(fn.name == "runtime.NumGoroutine")=false):∀vs w,(callFunc f vs).run Tryz.prog w=.ok (.enter f vs) w:=fun vs w=>nC hf hb hname vs w
theorem lO{P:Program}{f:Nat}{args:List A}{r:A}(hcall:∀vs w,(callFunc f vs).run P w=.ok (.enter f vs) w)
  (h:∀w C vals,Gok C w->Sub C (kQ w)->A.repL args ⟨C,[],[]⟩ vals->Calls P f vals.toArray w fun e w'=>∃v,e=.returned v/\Ext w w'/\r.rep ⟨zA C w w',[],[]⟩ v):Spec P f [] args fun _ x=>x=r:=by
 refine⟨hcall,fun w C β vals h0 h1 h2 h3 h4 h5 h6=>?_⟩;have hβ:β=[]:=List.eq_nil_of_length_eq_zero (by simpa using h4.symm);subst hβ;refine(h w C vals h0 h1 h6).mono ?_;rintro e w' ⟨v,rfl,x,hr⟩;exact⟨[],r,v,rfl,rfl,Keeps.of_ext x,rfl,fun i b cs hb=>by simp at hb,hr⟩
theorem fP{α:Type}:∀{l:List α} {i:Nat} {a:α} {K:List α->Prop},i<l.length->K (l.set i a)->aS l i a K
 |[],i,a,K,h,_=>by simp at h
 |x::l,0,a,K,h,k=>by simpa [aS] using k
 |x::l,i+1,a,K,h,k=>by
  unfold aS;exact fP (by simpa using h) (by simpa using k)
theorem jbU:∀{n:Nat} {cs:List A} {K:List A->Prop},n<=cs.length->K (cs.take n)->jbT n cs K
 |0,cs,K,_,k=>by unfold jbT;simpa using k
 |n+1,[],K,h,k=>by simp at h
 |n+1,c::cs,K,h,k=>by
  unfold jbT;exact jbU (by simpa using h) (by simpa using k)
theorem pK{X:List Nat}{rw:List Row}:∀{l:List A},(∀a∈l,∃x,a=.v x)->zC X rw l=some l
 |[],_=>by simp[zC]
 |a::r,h=>by
  obtain⟨x,rfl⟩:=h a (by simp);unfold zC;rw[pK (l:=r) fun b hb=>h b (by simp[hb])];simp[ren]
theorem jli{X:List Nat}{rw:List Row}{l:List A}(h:∀a∈l,∃x,a=.v x):ren X rw (.agg l)=some (.agg l):=by
 unfold ren;rw[pK h]
theorem tT{X:List Nat}:∀{l:List A},(∀a∈l,∃x,a=.v x)->y9 X l=l
 |[],_=>by simp[y9]
 |a::r,h=>by
  obtain⟨x,rfl⟩:=h a (by simp);unfold y9;rw[tT (l:=r) fun b hb=>h b (by simp[hb])];simp[back]
theorem dJ{np:Nat}{t t':List A}{bx:List (List A)}{rw:List Row}(h:eqL t t'):Le np ⟨t,bx,rw⟩ ⟨t',bx,rw⟩:=by
 rintro dr w0 C0 β0 a w _ _ ⟨E,hp,hrep,hd⟩;exact⟨E,hp,uU (jaE h) hrep,hd⟩
def iU{X:Type}(t0:List A)(g:X->List (Nat×A))(bx:X->List (List A))(rw:X->List Row)(x:X)(s:S):Prop :=
 vR (g x) t0 fun t=>eqL s.t t/\s.bx=bx x/\s.rw=rw x
theorem i6{X:Type}{np:Nat}{s:S}{t0:List A}{g:X->List (Nat×A)}{bx:X->List (List A)}{rw:X->List Row}{x:X}(h:iU t0 g bx rw x s):Le np s (oB t0 g bx rw x):=by
 unfold iU at h;rw[wT] at h;obtain⟨h1,h2,h3⟩:=h;obtain⟨t,b,r⟩:=s
 simp only at h1 h2 h3
 subst h2;subst h3;exact dJ h1
theorem rS{np:Nat}{f:S->(Exit->S->Prop)->Prop}{s:S}{t0:List A}{Q:Exit->S->Prop}{X:Type}(g:X->List (Nat×A))(bx:X->List (List A))(rw:X->List Row)(φ:X->Prop)(μ:X->Nat)(x0:X)
  (h0:iU t0 g bx rw x0 s) (hφ:φ x0)
  (hr:∀x,φ x->vR (g x) t0 fun t=>f ⟨t,bx x,rw x⟩ fun e s'=>match e with
   |.normal=>∃x',Le np s' (oB t0 g bx rw x')/\φ x'/\μ x'<μ x
   |e=>Q e s'):jcs np f s t0 Q:=by
 unfold jcs;unfold nB
 exact⟨X,oB t0 g bx rw,φ,μ,⟨x0,i6 h0,hφ⟩,fun x hx=>by
  have:=hr x hx;rw[wT] at this
  exact this⟩
theorem bR{cs:List A}{off:Nat}{d:A}{K:List A->Prop}(h:off<cs.length)(k:K (cs.set off d)):yK cs off [d] K:=by
 unfold yK;exact fP h (by unfold yK;exact k)
theorem pT:∀{ds cs:List A} {K:List A->Prop} (pre:List A),ds.length=cs.length->K (pre++ds)->yK (pre++cs) pre.length ds K
 |[],[],K,pre,_,k=>by unfold yK;simpa using k
 |d::ds,c::cs,K,pre,h,k=>by
  unfold yK;refine fP (by simp) ?_
  have e:(pre++c::cs).set pre.length d=(pre++[d])++cs:=by simp
  rw[e];have:=pT (K:=K) (pre++[d]) (ds:=ds) (cs:=cs) (by simpa using h) (by simpa using k);simpa using this
 |[],_::_,_,_,h,_=>by simp at h
 |_::_,[],_,_,h,_=>by simp at h
theorem walk_cell{f:Nat}{args:List A}{vals:List Value}{w:World}(h:Spec Tryz.prog f [] args fun _ r=>r=zK true)(hg:Gok w.cell? w)(ha:A.repL args ⟨w.cell?,[],[]⟩ vals) :
  Calls Tryz.prog f vals.toArray w fun e w'=>e=.returned (.bool true)/\Below w.heap.size w w' :=
 (h.2 w w.cell? [] vals hg (fun _ _ h=>jbD h) List.nodup_nil (by simp) rfl (fun i b cs hb=>by simp at hb) ha).mono fun e w' ⟨outs,r,v,he,hr,hk,_,_,hv⟩=>by
  subst hr;rw[he,(A.rep_v_iff.1 hv).1];exact⟨rfl,hk.ext⟩
theorem tH{α:Type}{E:Env}{b:Nat}(f:α->Value)(hf:∀x,(f x).oneCell'=true):∀{l:List α} {off:Nat},A.repAt (l.map fun x=>.v (f x)) E b off↔∀i (hi:i<l.length),E.C ⟨b,off+i,none⟩=some (f l[i])/\fD (f l[i])
 |[],off=>by simp[A.repAt]
 |x::l,off=>by
  simp only[List.map_cons,A.repAt];rw[tH f hf (l:=l)];constructor
  ·rintro⟨⟨u,h1,-,h3⟩,h4⟩ i hi;rw[A.rep_v_iff] at h3
   cases i with
   |zero=>rw[Nat.add_zero,h1,h3.1];exact⟨rfl,h3.2⟩
   |succ i =>
    have:=h4 i (by simpa using hi);rw[show off+(i+1)=off+1+i by omega];exact this
  ·intro h;refine⟨⟨f x,by have:=(h 0 (by simp)).1;simpa using this,hf x,A.rep_v_iff.2 ⟨rfl,(h 0 (by simp)).2⟩⟩,fun i hi=>?_⟩;have:=h (i+1) (by simpa using hi);rw[show off+1+i=off+(i+1) by omega];exact this
theorem rep_vi{E:Env}{n:Int}{u:Value}:(A.v (.int .i64 n)).rep E u↔u=.int .i64 n/\(-9223372036854775808<=n/\n<=9223372036854775807):=by
 rw[A.rep_v_iff];constructor
 ·rintro⟨h1,h2⟩;exact⟨h1,okV_int.1 h2⟩
 ·rintro⟨h1,h2⟩;exact⟨h1,okV_int.2 h2⟩
theorem jd5{E:Env}{v:Value}{l:List Int}{p:Option Addr}{b off cap:Nat}(h1:l.length<=maxLen)(h2:∀n∈l,-9223372036854775808<=n/\n<=9223372036854775807)(hv:v=.slice p l.length cap)(hc:l.length<=cap)(hp:l=[]∨p=some ⟨b,off,none⟩)(hn:p=none->cap=0)
  (hh:∀i,i<l.length->E.C ⟨b,off+i,none⟩=some (.int .i64 (l.getD i 0))):(A.sl 1 l.length (jV l)).rep E v:=by
 subst hv;unfold A.rep;refine⟨by simp[jV],h1,p,b,off,cap,rfl,hc,?_,hn,?_⟩
 ·rcases hp with rfl|hp
  ·exact .inl rfl
  ·exact .inr hp
 ·refine(tH (E:=E.per) (Value.int .i64) (fun _=>rfl)).2 fun i hi=>⟨?_,okV_int.2 (h2 _ (List.getElem_mem hi))⟩
  have:=hh i hi;simp[List.getD_eq_getElem?_getD,hi] at this;exact this
theorem row_rep{w:World}{a:Option Addr}{len cap:Nat}{zs:List Int}(h:(a=none/\len=0/\cap=0/\zs=[])∨∃x,a=some x/\len<=cap/\cap<=maxLen/\zs.length=cap/\(∀i,i<zs.length->w.cell? (x.add i)=some (.int .i64 (zs.getD i 0)))/\∀n∈zs,(Lit.int .i64 n).wf=true) :
  (A.sl 1 (zs.take len).length (jV (zs.take len))).rep ⟨w.cell?,[],[]⟩ (.slice a len cap):=by
 rcases h with ⟨rfl,rfl,rfl,rfl⟩|⟨x,rfl,hl,hm,hz,hc,hw⟩
 ·exact jd5 (p:=none) (b:=0) (off:=0) (cap:=0) (by simp) (by simp) rfl (by simp) (.inl rfl) (fun _=>rfl) (fun i hi=>absurd hi (by simp))
 ·have hlen:(zs.take len).length=len:=by simp;omega
  refine jd5 (p:=some x) (b:=x.block) (off:=x.off) (cap:=cap) (by omega) (fun n hn=>?_) (by rw[hlen]) (by omega) ?_ (by simp) (fun i hi=>?_)
  ·have:=hw n (List.mem_of_mem_take hn);simp[Lit.wf] at this;exact this
  ·by_cases h0:len=0
   ·left;subst h0;simp
   ·right;have:=hc 0 (by omega);obtain⟨b,o,sp⟩:=x
    cases sp with
    |none=>rfl
    |some k=>simp[Addr.add,World.cell?] at this;split at this <;> simp at this
  ·have hi':i<len:=by omega
   have e:=hc i (by omega);have h0:=hc 0 (by omega);obtain⟨b,o,sp⟩:=x
   cases sp with
   |none=>rw[je6] at e;show w.cell? ⟨b,o+i,none⟩=_;rw[e];simp[List.getD_eq_getElem?_getD,hi']
   |some k=>simp[Addr.add,World.cell?] at h0;split at h0 <;> simp at h0
theorem int_rep{E:Env}{n:Int}(h:(Lit.int .i64 n).wf=true):(A.v (.int .i64 n)).rep E (.int .i64 n):=by
 refine rep_vi.2 ⟨rfl,?_⟩;simp[Lit.wf] at h;exact h
theorem args_nil{E:Env}:A.repL [] E []:=by unfold A.repL;rfl
theorem jrh{C:Rd}{g:Nat}(h:∃u v,C ⟨g,0,none⟩=some (.iface u v)):A.repAt [.err] ⟨C,[],[]⟩ g 0:=by
 obtain⟨u,v,h⟩:=h;unfold A.repAt;refine⟨⟨_,h,rfl,?_⟩,by simp[A.repAt]⟩;unfold A.rep;exact⟨u,v,rfl⟩
theorem iY{P:Program}{w:World}{n:String}{d:DataW Unit}{g ti:Nat}(hg:P.globalNamed n=some g)(ht:(P.globals[g]?).map (·.type)=some ti) :
  ∀{l:List (String×DataW Unit)} {ps:List MemPlace},DataW.LaidVars P w l ps->(n,d)∈l->∃cs base sp fuel p,w.var? P n=some cs/\DataW.trod (fun _=>()) P w base sp false fuel ti cs.toList=some (d,p)
 |[],_,_,hm=>by simp at hm
 |(n',d')::r,ps,h,hm=>by
  obtain⟨g',t',cs,fuel,p,q,e1,e2,e3,e4,e5,_⟩:=h;rcases List.mem_cons.1 hm with e|hm
  ·cases e;obtain rfl:=Option.some.inj (hg.symm.trans e1);obtain rfl:=Option.some.inj (ht.symm.trans e2);exact⟨cs,_,_,fuel,p,e3,e4⟩
  ·exact iY hg ht e5 hm
theorem t8{P:Program}{w:World}{n:String}{g:Nat}{cs:Array Value}(hg:P.globalNamed n=some g)(h:w.var? P n=some cs):∃T sp,w.heap[g]?=some (.cells cs T sp):=by
 simp only[World.var?,hg,Option.bind_some] at h;split at h
 ·rename_i cs' T sp hh;cases h;exact⟨T,sp,hh⟩
 ·cases h
theorem gok_iface{P:Program}{w:World}{n nm:String}{d:DataW Unit}{g ti:Nat}{ms:Array (String×TypeId)}(hg:P.globalNamed n=some g)(ht:(P.globals[g]?).map (·.type)=some ti)(hi:P.underlying ti=some (.interface ms))
  {l:List (String×DataW Unit)} {ps:List MemPlace} (h:DataW.LaidVars P w l ps) (hm:(n,DataW.iface nm d)∈l):(([A.err]:List A)≠[]/\A.repAt [.err] ⟨w.cell?,[],[]⟩ g 0)/\∃cs T sp,w.heap[g]?=some (.cells cs T sp)/\cs.size=1:=by
 obtain⟨cs,base,sp,fuel,p,e1,e2⟩:=iY hg ht h hm;obtain⟨f',u,v,ecs,_⟩:=iface_of_trod hi e2;obtain⟨T,sp2,hh⟩:=t8 hg e1
 have hc:w.cell? ⟨g,0,none⟩=some (.iface u v):=by
  have:=World.var?_cell hg e1 0;rw[this,<- Array.getElem?_toList,ecs];rfl
 refine⟨⟨by simp,jrh ⟨u,v,hc⟩⟩,cs,T,sp2,hh,?_⟩;have:=congrArg List.length ecs;simpa using this
theorem gok_tab{P:Program}{w:World}{n:String}{k:IntKind}{zs:List Int}{g ti e m:Nat}(hg:P.globalNamed n=some g)(ht:(P.globals[g]?).map (·.type)=some ti)(hu:P.underlying ti=some (.array m e))(he:P.underlying e=some (.int k))(hce:P.cellsOf e=1)(hct:P.cellsOf ti=m)(hne:zs≠[])(hzs:∀z∈zs,fD (.int k z))
  {l:List (String×DataW Unit)} {ps:List MemPlace} (h:DataW.LaidVars P w l ps) (hm:(n,Lib.tabData k zs)∈l):(((zs.map fun z=>A.v (.int k z))≠[])/\A.repAt (zs.map fun z=>A.v (.int k z)) ⟨w.cell?,[],[]⟩ g 0)/\∃cs T sp,w.heap[g]?=some (.cells cs T sp)/\cs.size=(zs.map fun z=>A.v (.int k z)).length:=by
 obtain⟨cs,base,sp,fuel,p,e1,e2⟩:=iY hg ht h hm;have ecs:=Lib.cells_of_tab hu he hce hct e2;obtain⟨T,sp2,hh⟩:=t8 hg e1;refine⟨⟨by simpa using hne,?_⟩,cs,T,sp2,hh,?_⟩
 ·refine(tH (fun z=>Value.int k z) (fun _=>rfl)).2 fun i hi=>⟨?_,hzs _ (List.getElem_mem hi)⟩
  have:=World.var?_cell hg e1 (0+i);show w.cell? _=_;rw[this,<- Array.getElem?_toList,ecs];simp[hi]
 ·have:=congrArg List.length ecs;simpa using this
section
theorem gok_num{P:Program}{w:World}{g t:Nat}(h:w.ShapedOpen P)(hg:g<P.globals.size)
  (h0:((begin P (fun _ _=>0) default).world.heap[g]?).bind Obj.row?=some (#[.int .i64 0],t))
  (hb:P.buildable t=true) (hc:P.cellTypes P.depth t=some [t]) (hu:P.underlying t=some (.int .i64)) :
  (([A.num]:List A)≠[]/\A.repAt [.num] ⟨w.cell?,[],[]⟩ g 0)/\∃cs T sp,w.heap[g]?=some (.cells cs T sp)/\cs.size=1:=by
 obtain⟨m,hm⟩:=cell_of_shapedOpen_int h hg h0 rfl hb hc hu;obtain⟨cs,hh,hs,_⟩:=h.1 g _ _ hg h0;refine⟨⟨by simp,?_⟩,cs,t,_,hh,hs⟩
 ·unfold A.repAt A.repAt;exact⟨⟨_,hm,rfl,by unfold A.rep;exact⟨m,rfl⟩⟩,trivial⟩
section
variable{H:Type}{enc:TypeId×Value->H}
theorem frame_shaped{a:Assume}{C:Checked}{os:Os}{f:FuncId}{fn:Func}{s:ChangeSpec}{conds:List PathCond}{apart fresh handsOn again:Bool}{X:World->Array Value->Prop}
  (hX:∀(w w':World) (args:Array Value),w.heap=w'.heap->X w args->X w' args)
  (own:ownKnob C.prog.godebug=none) (started:os.Started) (noInit:C.prog.inits.idxOf? f=none) (hfn:C.prog.funcs[f]?=some fn)
  (witness:∃(w:World) (tape:Tape) (i:Input),w.os=os/\(w.forCall tape i).Shaped C.prog/\i.vars=[]/\Input.okWide C.prog (w.forCall tape i) .any w.heap.size f i ∧
   ((s.pre enc C.prog fn conds apart (w.forCall tape i).memory i.args/\X (w.forCall tape i).memory i.args)/\sizedMet enc C.prog fn (OpenSpec.ofChange s) apart (w.forCall tape i).memory i.args)/\a.holds C.prog (lone (Frame.enter C.prog f i.args .normal) [] (w.forCall tape i)))
  (contract:∀(W:World) (base:Nat) (args:Array Value) (ds gs:List (DataW H)) (before:List MemPlace),
   (∀(j:Nat) t v,fn.params[j]?=some t->args[j]?=some v->Value.okWide C.prog W .any base t v) →
   DataW.Whole enc C.prog fn.params.toList s.vars apart W args.toList ds gs before->X W args->W.ShapedOpen C.prog →
   Calls C.prog f args W fun e W'=>∃v,e=.returned v/\s.post enc C.prog fn apart fresh handsOn again W args v W') :
  ReturnsInHanded a C os f .any (fun w args=>(s.pre enc C.prog fn conds apart w args/\X w args)/\sizedMet enc C.prog fn (OpenSpec.ofChange s) apart w args) (s.post enc C.prog fn apart fresh handsOn again):=by
 refine returnsInHanded_of_calls own started noInit witness ?_;intro w tape i _ hsh _ hok hpre _;obtain⟨_,_,_,fn',hfn',_,_,_,_,hval⟩:=hok;obtain rfl:fn'=fn:=Option.some.inj (hfn'.symm.trans hfn);obtain⟨⟨⟨ds,gs,before,hw,_⟩,hx⟩,_⟩:=hpre;have hw2:=DataW.Whole.of_heap (w':=w.forCall tape i) (by rfl) hw
 refine(contract (w.forCall tape i) w.heap.size i.args ds gs before hval hw2 (hX _ _ _ (by rfl) hx) hsh).mono fun e W' hr=>?_
 obtain⟨v,he,hp⟩:=hr;subst he;exact ChangeSpec.post_blind hp
end
end
section
def jgU(c:Cx)(e k g:Nat)(rv:List ResultVar)(post:List (List A)->Nat->List A->A->Prop)(s:S):Prop :=
 jiP c.T s rv fun r=>match (jA s.rw (jci g (bE r++uA (cI c.np s.bx))))[g]? with
  |some (.live e' k' n cs)=>match Nat.beq e' e,Nat.beq k' k with
   |true,true=>match bK (upto c.np) g (jA s.rw (jci g (bE r++uA (cI c.np s.bx)))) (cI c.np s.bx) with
    |some outs=>match renG (upto c.np) g (jA s.rw (jci g (bE r++uA (cI c.np s.bx)))) r with
     |some r'=>post outs n cs r'
     |none=>False
    |none=>False
   |_,_=>False
  |_=>False
def jp9(c:Cx)(e k:Nat)(rv:List ResultVar)(post:List (List A)->Nat->List A->A->Prop)(x:Exit)(s:S):Prop :=
 match x with
 |.ret=>∃g,jgU c e k g rv post s
 |.normal=>∃g,jgU c e k g rv post s
 |_=>False
section
variable{c:Cx}{s:S}
theorem jeA{fn:Func}{post:List (List A)->Nat->List A->A->Prop}{w w':World}{C:Rd}{β:List Nat}{s':S}{a':Act}{e k g:Nat}{y:Value}(hc:c.ok)(hnp:β.length=c.np)(hr:jgU c e k g fn.results.toList post s')(hi:Inv [] ⟨w,(blk y).toList⟩ C β s' a' w') :
  a'.defers=[]/\∃v,(results fn a'.tmps).run c.P w'=.ok v w'/\∃(outs:List (List A)) (n':Nat) (cs':List A) (r:A) (v' y':Value) (xs':List Value) (C':Rd),Ending.returned v=.returned v'/\post outs n' cs' r/\Keeps (β++(blk y).toList) w w'/\Sub C C'/\Sub C' (kQ w')/\(∀ad u,C' ad=some u->C ad=some u∨w.heap.size<=ad.block∨blk y=some ad.block)/\outs.length=β.length ∧
   (∀(i b:Nat) (cs:List A),β[i]?=some b->outs[i]?=some cs->boxAt w' ⟨C',β,[y']⟩ b cs)/\owR w' e k y' n' xs'/\A.repC cs' ⟨C',[],[]⟩ xs'/\(∀b,blk y'=some b->(∀o sp,C' ⟨b,o,sp⟩=none)/\(w.heap.size<=b∨blk y=some b))/\r.rep ⟨C',β,[y']⟩ v':=by
 obtain⟨E,hp,ht,hd⟩:=hi;unfold jgU at hr;obtain⟨r,v,g1,g2,g3⟩:=r5 (fn:=fn) hc hp ht hr;refine⟨hd,v,g3,?_⟩
 have hmem:∀b,b∈(blk y).toList->blk y=some b:=fun b hb=>by
  cases h:blk y with
  |none=>rw[h] at hb;simp at hb
  |some x=>rw[h] at hb;simp at hb;rw[hb]
 have hfr:∀b,W0.fr ⟨w,(blk y).toList⟩ b->w.heap.size<=b∨blk y=some b:=fun b hb=>hb.imp id (hmem b)
 obtain⟨C1,hp1,le1⟩:=hp.pubs (jci g (bE r++uA (cI c.np s'.bx)));split at g1
 ·rename_i e' k' n cs hg;split at g1
  ·rename_i hb1 hb2;obtain rfl:=Nat.eq_of_beq_eq_true hb1;obtain rfl:=Nat.eq_of_beq_eq_true hb2;split at g1
   ·rename_i outs houts;split at g1
    ·rename_i r' hr';have hgl:=(List.getElem?_eq_some_iff.1 hg).1
     obtain⟨y',hy'⟩:∃y',E.ρ[g]?=some y':=⟨_,List.getElem?_eq_getElem (by rw[<- hp1.rl];exact hgl)⟩
     obtain⟨xs,⟨k1,kf⟩,k2⟩:=hp1.rws g _ y' hg hy';obtain⟨β',hβ,hβ'⟩:=hp.bp
     have hβl:β.length<=E.β.length:=by rw[hβ];simp
     have hget:∀i:Nat,i<β.length->E.β[i]?=β[i]?:=fun i hi=>by rw[hβ,List.getElem?_append_left hi]
     have hY:yP ⟨C1,E.β,E.ρ⟩ (upto c.np) β:=fun j i hj=>by
      obtain⟨rfl,hi⟩:=jc1 hj
      have:i<β.length:=by rw[hnp];exact hi
      exact⟨β[i],by simp[this],by rw[hget i this];simp[this]⟩
     obtain⟨q1,q2⟩:=pJ houts;have hbl:=hp.bl;refine⟨outs,n,cs,r',v,y',xs,C1,rfl,g1,hp1.keep,hp1.base,hp1.sub,fun ad u hc=>(hp1.fresh ad u hc).imp id fun h=>hfr _ h,by rw[q1,lQ,List.length_take];omega,fun i b cs h7 h8=>?_,k1,k2,fun b hb=>⟨(hp1.rC g _ _ _ _ y' b hg hy' hb).2,hfr b (kf b hb)⟩,jgQ (E:=⟨C1,E.β,E.ρ⟩) hp1 hY hy' r hr' (A.rep.mono _ le1 g2)⟩;obtain⟨c0,h9,h10⟩:=q2 i cs h8;have hi:=(List.getElem?_eq_some_iff.1 h7).1;rw[lQ,List.getElem?_take,if_pos (by omega)] at h9;obtain⟨T',arr,p1,p2⟩:=hp1.bxs i b c0 (by rw[<- h7];exact hget i hi) h9;exact⟨T',arr,p1,p2.renG hp1 hY hy' h10⟩
    ·exact g1.elim
   ·exact g1.elim
  ·exact g1.elim
 ·exact g1.elim
theorem o7{nt:Nat}{ins:List (List A)}{args:List A}{w:World}{C:Rd}{β:List Nat}{vals:List Value}{y:Value}{xs:List Value}{e k n:Nat}{cs:List A}(h0:Gok C w)(h1:Sub C (kQ w))(h2:β.Nodup)(h3:∀b∈β,∀o sp,C ⟨b,o,sp⟩=none)(h4:ins.length=β.length)
  (h5:∀(i b:Nat) (cs:List A),β[i]?=some b->ins[i]?=some cs->boxAt w ⟨C,β,[y]⟩ b cs) (h6:owR w e k y n xs) (h7:A.repC cs ⟨C,[],[]⟩ xs) (h8:∀b,blk y=some b->b∉β/\∀o sp,C ⟨b,o,sp⟩=none) (h9:A.repL args ⟨C,β,[y]⟩ vals) :
  Inv [] ⟨w,(blk y).toList⟩ C β ⟨args++List.replicate (nt-args.length) .dead,ins,[.live e k n cs]⟩ { tmps:=vals.toArray++Array.replicate (nt-vals.toArray.size) undef,defers:=[] } w:=by
 have hl:=A.repL_len h9
 have one:∀{g:Nat} {r:Row},[Row.live e k n cs][g]?=some r->g=0/\r=.live e k n cs:=fun {g r} hg=>by
  cases g with
  |zero=>simp at hg;exact⟨rfl,hg.symm⟩
  |succ g=>simp at hg
 refine⟨⟨C,β,[y]⟩,⟨h1,Sub.refl _,fun _ _ hc=>.inl hc,⟨[],by simp,by simp⟩,h2,h3,h4,h5,rfl,fun g r z hg hz=>?_,fun g e' k' n' cs' z b hg hz hb=>?_,fun g e' k' n' cs' z g' e2 k2 n2 cs2 z2 b hne hg _ hg'=>?_,fun g z hz=>?_,Keeps.refl _ _,h0,fun b hb=>?_⟩,?_,rfl⟩
 ·obtain⟨rfl,rfl⟩:=one hg;obtain⟨-,rfl⟩:=mH hz;exact⟨xs,⟨h6,fun b hb=>.inr (by simp[hb])⟩,h7⟩
 ·obtain⟨rfl,hr⟩:=one hg;obtain⟨-,rfl⟩:=mH hz;exact h8 b hb
 ·exact absurd ((one hg).1.trans (one hg').1.symm) hne
 ·obtain⟨-,rfl⟩:=mH hz;exact h6.kind
 ·cases h:blk y with
  |none=>rw[h] at hb;simp at hb
  |some x=>rw[h] at hb;simp at hb;rw[hb];exact(h8 x h).2
 ·have:(vals.toArray++Array.replicate (nt-vals.toArray.size) undef).toList=vals++List.replicate (nt-args.length) undef:=by simp[hl]
  rw[this];exact A.repL_append h9 (vA _ _)
theorem jhd{f:Nat}{fn:Func}{x:Code}{ins:List (List A)}{e k n:Nat}{cs args:List A}{post:List (List A)->Nat->List A->A->Prop}{pn:List PanicEntry->Prop}(hc:c.ok)(hq:∀ch s,c.pan ch s->pn ch)(hf:c.P.funcs[f]?=some fn)(hb:fn.body=some x)(hname:(fn.name == "runtime.NumGoroutine")=false)
  (hn:ins.length=c.np) (h:nN args->yM args (fn.ntmps-args.length) fun t=>Ok c x ⟨t,ins,[.live e k n cs]⟩ (jp9 c e k fn.results.toList post)):iH c.P f ins e k n cs args post pn:=by
 refine⟨nC hf hb hname,fun w C β vals y xs h0 h1 h2 h3 h4 h5 h6 h7 h8 h9=>?_⟩;refine calls_of_wp hf hb ?_;have hinit:=initK_iff.1 (h (kZ _ h9));have hinv:=o7 (nt:=fn.ntmps) h0 h1 h2 h3 h4 h5 h6 h7 h8 h9;unfold Ok OkD at hinit;refine hinit ⟨w,(blk y).toList⟩ C β _ w _ (by rw[<- h4,hn]) hinv (fun ch s' a' w' hpan ⟨E,hp,ht,hd⟩=>⟨hd,.inr ⟨ch,(List.range β.length).map fun i=>(s'.bx.getD i []).length,rfl,hq ch s' hpan,hp.keep,by simp,fun i b n h7 h8=>?_⟩⟩) ?_
 ·obtain⟨β',hβ,hβ'⟩:=hp.bp;have hi:=(List.getElem?_eq_some_iff.1 h7).1;have hbl:=hp.bl
  have hβl:β.length<=E.β.length:=by rw[hβ];simp
  have hib:i<s'.bx.length:=by omega
  rw[List.getElem?_map,List.getElem?_range hi] at h8;simp only[Option.map_some,Option.some.injEq] at h8;subst h8
  have e1:E.β[i]?=some b:=by rw[hβ,List.getElem?_append_left hi];exact h7
  obtain⟨T',arr,q1,q2⟩:=hp.bxs i b _ e1 (List.getElem?_eq_getElem hib)
  have e2:(s'.bx.getD i []).length=s'.bx[i].length:=by simp[List.getD_eq_getElem?_getD,hib]
  refine⟨T',arr,q1,?_⟩;rw[e2];have hl2:=q2.len;have q2:=q2.1;refine .mk' (A.repC_mk ?_ (A.repC_one q2));have:=iN (E:=⟨C,β,[]⟩) (l:=s'.bx[i]) hl2;rw[List.map_const'] at this;exact this
 have fin:∀(s':S) (a':Act) (w':World),(∃g,jgU c e k g fn.results.toList post s')->Inv [] ⟨w,(blk y).toList⟩ C β s' a' w'->_:=fun s' a' w' ⟨g,hr⟩ hi=>jeA (w:=w) (C:=C) (β:=β) (s':=s') (a':=a') (w':=w') (fn:=fn) (post:=post) (y:=y) hc (by rw[<- h4,hn]) hr hi
 intro e1 s' a' w' hq hi
 cases e1 with
 |normal=>obtain⟨k1,v,k2,k3⟩:=fin s' a' w' hq hi;exact⟨k1,v,k2,.inl k3⟩
 |ret=>obtain⟨k1,v,k2,k3⟩:=fin s' a' w' hq hi;exact⟨k1,v,k2,.inl k3⟩
 |_=>exact hq.elim
theorem qP{f:Nat}{fn:Func}{x:Code}{ins:List (List A)}{e k n:Nat}{cs args:List A}{post:List (List A)->Nat->List A->A->Prop}{pn:List PanicEntry->Prop}(hc:c.ok)(hq:∀ch s,c.pan ch s->pn ch)(hf:c.P.funcs[f]?=some fn)(hb:fn.body=some x)(hname:(fn.name == "runtime.NumGoroutine")=false)
  (hn:ins.length=c.np) (hord:kD c.ord x=true) (h:nN args->yM args (fn.ntmps-args.length) fun t=>sG c x ⟨t,ins,[.live e k n cs]⟩ (jp9 c e k fn.results.toList post)):iH c.P f ins e k n cs args post pn :=
 jhd hc hq hf hb hname hn fun ho=>initK_iff.2 (z6 hc hord (initK_iff.1 (h ho)))
end
section
variable{P:Program}{pan:List PanicEntry->S->Prop}{Xr:Nat->Bool}{f:Nat}{args args':List A}{s:S}{K:A->S->Prop}{post:List (List A)->Nat->List A->A->Prop}{ins:List (List A)}
theorem qJ(i g m:Nat)(ids:List Nat)(hm:s.rw.length=m){e k n:Nat}{cs c0 c1:List A}{pn:List PanicEntry->Prop}(hf:Xr 1000000007=true)(hX:Xr i=true)(hi:s.bx[i]?=some c0)(hg:(jA s.rw ids)[g]?=some (.live e k n cs))(h1:kE [i] g (jA s.rw ids) c0=some c1)(h2:kE [i] g (jA s.rw ids) args=some args')(hs:nN args'->iH P f [c1] e k n cs args' post pn)
  (hpn:∀ch bx',pn ch->bx'.length=s.bx.length->(∀j,j≠i->bx'[j]?=s.bx[j]?)->pan ch ⟨s.t,bx',(jA s.rw ids).set g .gone++[.live e k 0 []]⟩)
  (hk:∀o n' cs' r,post [o] n' cs' r->fZ [i] m s.bx [i] [o] fun bx'=>zV (backG [i] m r) fun r'=>qA ((jA s.rw ids).set g .gone++[.live e k n' cs']) fun rw'=>kT s bx' rw' (K r')):kB P pan Xr f args s K:=by
 subst hm;unfold kB
 right;right;right;right;left
 have hil:=(List.getElem?_eq_some_iff.1 hi).1;refine⟨hf,[i],ids,g,e,k,n,cs,[c1],args',post,pn,by simp,by simpa using hX,by simpa using hil,hg,?_,h2,hs,fun outs n' cs' r hp hl=>?_,fun ch bx' h h1 h2=>hpn ch bx' h h1 fun j hj=>h2 j (by simpa using hj)⟩
 ·have:s.bx.getD i []=c0:=by simp[List.getD_eq_getElem?_getD,hi]
  simp only[List.map_cons,List.map_nil,this,bK,h1]
 ·obtain⟨o,rfl⟩:∃o,outs=[o]:=List.length_eq_one_iff.1 (by simpa using hl);exact hk o n' cs' r hp
theorem jrs(i g m:Nat)(ids:List Nat)(hm:s.rw.length=m){e k n:Nat}{cs c0 c1:List A}(hf:Xr 1000000007=true)(hX:Xr i=true)(hi:s.bx[i]?=some c0)(hg:(jA s.rw ids)[g]?=some (.live e k n cs))(h1:kE [i] g (jA s.rw ids) c0=some c1)(h2:kE [i] g (jA s.rw ids) args=some args')(hs:nN args'->m8 P f [c1] e k n cs args' post)
  (hk:∀o n' cs' r,post [o] n' cs' r->fZ [i] m s.bx [i] [o] fun bx'=>zV (backG [i] m r) fun r'=>qA ((jA s.rw ids).set g .gone++[.live e k n' cs']) fun rw'=>kT s bx' rw' (K r')):kB P pan Xr f args s K :=
 qJ i g m ids hm hf hX hi hg h1 h2 hs (fun _ _ h=>h.elim) hk
end
mutual
def aQ(sel:List Nat):A->A
 |.own g=>match idx sel g with
  |some j=>.own j
  |none=>.dead
 |.orow g o=>match idx sel g with
  |some j=>.orow j o
  |none=>.dead
 |.clo f l=>.clo f (m6 sel l)
 |.bm f l=>.bm f (m6 sel l)
 |.agg l=>.agg (m6 sel l)
 |.tup l=>.tup (m6 sel l)
 |.box b o=>.box b o
 |.mp ks vs=>.mp ks vs
 |.gp g o=>.gp g o
 |.adr T=>.adr T
 |.err=>.err
 |.num=>.num
 |.dead=>.dead
 |.v x=>.v x
 |.sl k n cs=>.sl k n cs
 |.pp cs=>.pp cs
def m6(sel:List Nat):List A->List A
 |[]=>[]
 |a::r=>aQ sel a::m6 sel r
end
theorem lK(sel:List Nat):∀l:List A,m6 sel l=l.map (aQ sel)
 |[]=>by simp[m6]
 |a::r=>by unfold m6;rw[lK sel r];rfl
section
variable{E:Env}{sel:List Nat}{ρ':List Value}
mutual
theorem jnY(hs:∀j g:Nat,sel[j]?=some g->ρ'[j]?=E.ρ[g]?):∀(a:A) {y:Value},a.rep E y->(aQ sel a).rep ⟨E.C,E.β,ρ'⟩ y
 |.dead,y,_=>by unfold aQ;exact A.rep_dead _ _
 |.v x,y,h=>by unfold aQ;unfold A.rep at h ⊢;exact h
 |.sl k n cs,y,h=>by unfold aQ;unfold A.rep at h ⊢;exact h
 |.pp cs,y,h=>by unfold aQ;unfold A.rep at h ⊢;exact h
 |.own g,y,h=>by
  unfold aQ;split
  ·rename_i j hj;unfold A.rep at h ⊢;exact(hs j g (eT hj)).trans h
  ·exact A.rep_dead _ _
 |.orow g o,y,h=>by
  unfold aQ;split
  ·rename_i j hj;unfold A.rep at h ⊢;obtain⟨b,n,cap,h1,h2⟩:=h;exact⟨b,n,cap,(hs j g (eT hj)).trans h1,h2⟩
  ·exact A.rep_dead _ _
 |.box j off,y,h=>by unfold aQ;unfold A.rep at h ⊢;exact h
 |.gp _ _,y,h=>by unfold aQ;unfold A.rep at h ⊢;exact h
 |.adr _,y,h=>by unfold A.rep at h;exact h.elim
 |.err,y,h=>by unfold aQ;unfold A.rep at h ⊢;exact h
 |.num,y,h=>by unfold aQ;unfold A.rep at h ⊢;exact h
 |.clo f l,y,h=>by
  unfold aQ;unfold A.rep at h ⊢;obtain⟨us,h1,h2⟩:=h;exact⟨us,h1,bL hs l h2⟩
 |.bm f l,y,h=>by
  unfold aQ;unfold A.rep at h ⊢;obtain⟨us,h1,h2⟩:=h;exact⟨us,h1,bL hs l h2⟩
 |.mp ks vs,y,h=>by unfold aQ;unfold A.rep at h ⊢;exact h
 |.agg l,y,h=>by
  unfold aQ;unfold A.rep at h ⊢;obtain⟨us,h1,h2⟩:=h;exact⟨us,h1,A.repC_mk (bL hs l (A.repC_L h2)) (A.repC_one h2)⟩
 |.tup l,y,h=>by
  unfold aQ;unfold A.rep at h ⊢;obtain⟨us,h1,h2⟩:=h;exact⟨us,h1,bL hs l h2⟩
theorem bL(hs:∀j g:Nat,sel[j]?=some g->ρ'[j]?=E.ρ[g]?):∀(l:List A) {us:List Value},A.repL l E us->A.repL (m6 sel l) ⟨E.C,E.β,ρ'⟩ us
 |[],us,h=>by unfold m6;unfold A.repL at h ⊢;exact h
 |a::r,us,h=>by
  unfold m6;unfold A.repL at h ⊢;obtain⟨u,us',h1,h2,h3⟩:=h;exact⟨u,us',h1,jnY hs a h2,bL hs r h3⟩
end
end
def jbc:List Nat->Bool
 |[]=>true
 |x::r=>match o9 x r with|true=>false|false=>jbc r
theorem jbd:∀{l:List Nat},jbc l=true->l.Nodup
 |[],_=>List.nodup_nil
 |x::r,h=>by
  unfold jbc at h;split at h
  ·cases h
  ·rename_i hm;refine List.nodup_cons.2 ⟨fun hx=>?_,jbd h⟩;rw[memB_iff.2 hx] at hm;cases hm
theorem js8{np:Nat}{s:S}(sel:List Nat)(hn:jbc sel=true)(hl:tS sel s.rw.length=true):Le np s ⟨m6 sel s.t,s.bx.map (m6 sel),sel.map fun g=>s.rw.getD g .gone⟩:=by
 rintro dr w0 C0 β0 a w hdr e ⟨E,hp,hrep,hd⟩;have hlt:=jcz hl;have hnd:=jbd hn;have r1:=hp.rl
 have hs:∀j g:Nat,sel[j]?=some g->(sel.map fun g=>E.ρ.getD g undef)[j]?=E.ρ[g]?:=fun j g h=>by
  have hg:g<E.ρ.length:=by rw[<- r1];exact hlt g (List.mem_iff_getElem?.2 ⟨j,h⟩)
  simp[h,List.getD_eq_getElem?_getD,hg]
 have row:∀{j:Nat} {r:Row},(sel.map fun g=>s.rw.getD g .gone)[j]?=some r->∃g,sel[j]?=some g/\s.rw[g]?=some r:=fun {j r} h=>by
  rw[List.getElem?_map,Option.map_eq_some_iff] at h;obtain⟨g,h1,h2⟩:=h;have hg:=hlt g (List.mem_iff_getElem?.2 ⟨j,h1⟩);exact⟨g,h1,by rw[<- h2];simp[List.getD_eq_getElem?_getD,hg]⟩
 have val:∀{j:Nat} {y:Value},(sel.map fun g=>E.ρ.getD g undef)[j]?=some y->∃g,sel[j]?=some g/\E.ρ[g]?=some y:=fun {j y} h=>by
  have h0:=h;rw[List.getElem?_map,Option.map_eq_some_iff] at h;obtain⟨g,h1,h2⟩:=h;exact⟨g,h1,by rw[<- hs j g h1];exact h0⟩
 refine⟨⟨E.C,E.β,sel.map fun g=>E.ρ.getD g undef⟩,⟨hp.sub,hp.base,hp.fresh,hp.bp,hp.bnd,hp.bC,by simpa using hp.bl,fun i b cs h1 h2=>?_,by simp,fun j r y h1 h2=>?_,fun j e k n cs y b h1 h2 h3=>?_,fun j e k n cs y j' e' k' n' cs' z b hne h1 h2 h3 h4 h5=>?_,fun j y h1=>?_,hp.keep,hp.gk⟩,bL hs _ hrep,repD.keep (E:=E) (F:=⟨E.C,E.β,sel.map fun g=>E.ρ.getD g undef⟩) (Sub.refl _) (fun _ _ h=>h) hdr hd⟩
 ·rw[List.getElem?_map,Option.map_eq_some_iff] at h2;obtain⟨c0,h2,rfl⟩:=h2;obtain⟨T',arr,h3,h4⟩:=hp.bxs i b c0 h1 h2;rw[lK];refine⟨T',arr,h3,h4.map (aQ sel) (fun l us k=>by rw[<- lK];exact bL hs l k) (by unfold aQ;rfl) (fun t=>by unfold aQ;rfl) fun a t e=>?_⟩
  cases a <;> unfold aQ at e <;> (try split at e) <;> first|(cases e;done)|(cases e;rfl)
 ·obtain⟨g,k1,k2⟩:=row h1;obtain⟨g',k3,k4⟩:=val h2;obtain rfl:=Option.some.inj (k1.symm.trans k3);have:=hp.rws g r y k2 k4
  cases r with
  |live e k n cs=>exact this
  |pub k n cs =>
   have h5:(A.sl k n cs).rep _ y:=this;show(A.sl k n cs).rep _ y;unfold A.rep at h5 ⊢;exact h5
  |gone=>trivial
 ·obtain⟨g,k1,k2⟩:=row h1;obtain⟨g',k3,k4⟩:=val h2;obtain rfl:=Option.some.inj (k1.symm.trans k3);exact hp.rC g e k n cs y b k2 k4 h3
 ·obtain⟨g,k1,k2⟩:=row h1;obtain⟨g',k3,k4⟩:=val h2;obtain rfl:=Option.some.inj (k1.symm.trans k3);obtain⟨x,q1,q2⟩:=row h3;obtain⟨x',q3,q4⟩:=val h4;obtain rfl:=Option.some.inj (q1.symm.trans q3);exact hp.rd g e k n cs y x e' k' n' cs' z b (fun e9=>hne (by subst e9;exact jdl hnd k1 q1)) k2 k4 q2 q4 h5
 ·obtain⟨g,k1,k2⟩:=val h1;exact hp.rs g y k2
def jh4(sel:List Nat):List (List A)->(List (List A)->Prop)->Prop
 |[],K=>K []
 |c::l,K=>aN (aQ sel) c fun c'=>jh4 sel l fun r=>K (c'::r)
theorem jdF{sel:List Nat}:∀{l:List (List A)} {K:List (List A)->Prop},jh4 sel l K↔K (l.map (m6 sel))
 |[],K=>by simp[jh4]
 |c::l,K=>by simp[jh4,qN,jdF (l:=l),lK]
def jum(sel:List Nat)(rw:List Row):List Row:=sel.map fun g=>rw.getD g .gone
def jlI(sel:List Nat)(t:List A)(bx:List (List A))(rw:List Row)(K:S->Prop):Prop :=
 match jbc sel with
 |true=>match tS sel rw.length with
  |true=>aN (aQ sel) t fun t'=>jh4 sel bx fun bx'=>qA (jum sel rw) fun rw'=>K ⟨t',bx',rw'⟩
  |false=>False
 |false=>False
theorem jh3{sel:List Nat}{t:List A}{bx:List (List A)}{rw:List Row}{K:S->Prop}(h:jlI sel t bx rw K):∃s',(∀np,Le np ⟨t,bx,rw⟩ s')/\K s':=by
 unfold jlI at h;split at h
 ·rename_i h1;split at h
  ·rename_i h2;rw[qN,jdF,qR] at h;refine⟨_,fun np=>js8 (s:=⟨t,bx,rw⟩) sel h1 h2,?_⟩;show K ⟨m6 sel t,bx.map (m6 sel),jum sel rw⟩;rw[lK];exact h
  ·exact h.elim
 ·exact h.elim
theorem nM{np:Nat}{f:S->(Exit->S->Prop)->Prop}{t:List A}{bx:List (List A)}{rw:List Row}{Q:Exit->S->Prop}(sel:List Nat)(h:jlI sel t bx rw fun s'=>nB np f s' Q):nB np f ⟨t,bx,rw⟩ Q:=by
 obtain⟨s',h1,h2⟩:=jh3 h;exact jjY (h1 _) h2
theorem jF{X:Type}{np:Nat}{t t0:List A}{bx:List (List A)}{rw:List Row}{g:X->List (Nat×A)}{hb:X->List (List A)}{hr:X->List Row}{x:X}(sel:List Nat)(h:jlI sel t bx rw fun s'=>jaU t0 g hb hr x fun s2=>LeS np s' s2):Le np ⟨t,bx,rw⟩ (oB t0 g hb hr x):=by
 obtain⟨s',h1,h2⟩:=jh3 h;exact(h1 np).trans (oG (headK_iff.1 h2))
theorem Hp.pubMap{w0:W0}{w:World}{C0:Rd}{β0:List Nat}{s:S}{E:Env}(h:Hp w0 C0 β0 s.bx s.rw w E){g e n f f':Nat}{kA vs:List A}{ks:List Value}(hg:s.rw[g]?=some (.live e 0 n [.clo f kA,.clo f' vs]))(hk:∀us,A.repL kA E.per us->us=ks/\∀k∈ks,fD k) :
  ∃C' y,E.ρ[g]?=some y/\Hp w0 C0 β0 s.bx (s.rw.set g .gone) w ⟨C',E.β,E.ρ⟩/\E.le ⟨C',E.β,E.ρ⟩/\(A.mp ks vs).rep ⟨C',E.β,E.ρ⟩ y:=by
 have hgl:=(List.getElem?_eq_some_iff.1 hg).1
 obtain⟨y,hy⟩:∃y,E.ρ[g]?=some y:=⟨_,List.getElem?_eq_getElem (by rw[<- h.rl];exact hgl)⟩
 obtain⟨r,es,c,us,e1,hr,hn,hst,h2,hks,hvs⟩:=ja0 h hg hy;obtain⟨hks,hok⟩:=hk _ hks
 have hb:blk y=some r:=by rw[e1];rfl
 obtain⟨hrn,hrC⟩:=h.rC g e 0 n _ y r hg hy hb;refine⟨fun ad=>if ad.block=r then(kQ w) ad else E.C ad,y,hy,?_⟩
 have hC:Sub E.C (fun ad=>if ad.block=r then(kQ w) ad else E.C ad):=fun ad u hc=>by
  simp only
  split
  ·exact h.sub ad u hc
  ·exact hc
 have le:E.le ⟨fun ad=>if ad.block=r then(kQ w) ad else E.C ad,E.β,E.ρ⟩:=⟨hC,fun _ _ h=>h,fun _ _ h=>h⟩
 have live:∀{j e k n:Nat} {cs:List A},(s.rw.set g .gone)[j]?=some (.live e k n cs)->s.rw[j]?=some (.live e k n cs)/\j≠g:=fun {j e k n cs} hj=>by
  rw[List.getElem?_set] at hj;split at hj
  ·cases hj
  ·rename_i hne;exact⟨hj,fun e=>hne e.symm⟩
 refine⟨⟨fun ad u hc=>?_,h.base.trans hC,fun ad u hc=>?_,h.bp,h.bnd,fun b hb' o sp=>?_,h.bl,fun i b cs' h1 h2=>(h.bxs i b cs' h1 h2).mono le,by simp[h.rl],fun j r' z h1 h2=>?_,fun j e' k' n' cs' z b h1 h2 h3=>?_,fun j e1' k1 n1 cs1 z j' e2 k2 n2 cs2 z' b hne h1 h2 h3 h4 h5=>h.rd j e1' k1 n1 cs1 z j' e2 k2 n2 cs2 z' b hne (live h1).1 h2 (live h3).1 h4 h5,h.rs,h.keep,h.gk⟩,le,?_⟩
 ·simp only at hc
  split at hc
  ·exact hc
  ·exact h.sub ad u hc
 ·simp only at hc
  split at hc
  ·rename_i hb2;right;have:=(h.rlt hg hy hb).1;rw[hb2];exact this
  ·exact h.fresh ad u hc
 ·simp only
  rw[if_neg (fun hb2:b=r=>hrn (by rw[<- hb2];exact hb'))];exact h.bC b hb' o sp
 ·rw[List.getElem?_set] at h1;split at h1
  ·cases h1;trivial
  ·exact(h.rws j r' z h1 h2).mono le (fun _ _ _ _ _ _ _=>rfl)
 ·obtain⟨h4,h5⟩:=live h1;obtain⟨q1,q2⟩:=h.rC j e' k' n' cs' z b h4 h2 h3;refine⟨q1,fun o sp=>?_⟩
  simp only
  rw[if_neg (fun hb2:b=r=>h.rd g e 0 n _ y j e' k' n' cs' z r (Ne.symm h5) hg hy h4 h2 hb (by rw[<- hb2];exact h3))];exact q2 o sp
 ·unfold A.rep;refine⟨r,us,e1,?_,?_,A.repL.mono _ le.per hvs,hok⟩
  ·simp only[if_true];unfold kQ cM;simp only[hr];rw[if_pos hst]
   have q1:es.map (·.key)=ks.toArray:=by
    apply Array.toList_inj.1;rw[<- hks];simp
   have q2:es.map (·.val)=us.toArray:=by
    apply Array.toList_inj.1;rw[<- h2];simp
   rw[q1,q2]
  ·rw[A.repL_len hvs |>.symm,<- h2,<- hks];simp
def jhl(g:Nat)(m:A)(a:A):A:=match a with
 |.own j=>match Nat.beq j g with
  |true=>m
  |false=>.own j
 |a=>a
def jbN(g:Nat)(m:A):List (List A)->(List (List A)->Prop)->Prop
 |[],K=>K []
 |c::l,K=>aN (jhl g m) c fun c'=>jbN g m l fun r=>K (c'::r)
theorem jbO{g:Nat}{m:A}:∀{l:List (List A)} {K:List (List A)->Prop},jbN g m l K↔K (l.map fun c=>c.map (jhl g m))
 |[],K=>by simp[jbN]
 |c::l,K=>by simp[jbN,qN,jbO (l:=l)]
theorem joe{E:Env}{g:Nat}{m a:A}{y v:Value}(hg:E.ρ[g]?=some v)(hm:m.rep E v)(h:a.rep E y):(jhl g m a).rep E y:=by
 cases a with
 |own j =>
  unfold jhl
  simp only
  split
  ·rename_i hb;have:=Nat.eq_of_beq_eq_true hb;subst this;unfold A.rep at h;rw[hg] at h;cases h;exact hm
  ·exact h
 |_=>exact h
theorem tL{E:Env}{g:Nat}{m:A}{v:Value}(hg:E.ρ[g]?=some v)(hm:m.rep E v):∀{l:List A} {us:List Value},A.repL l E us->A.repL (l.map (jhl g m)) E us
 |[],us,h=>by simpa using h
 |a::r,us,h=>by
  unfold A.repL at h;obtain⟨u,us',rfl,h2,h3⟩:=h;simp only[List.map_cons];unfold A.repL;exact⟨u,us',rfl,joe hg hm h2,tL hg hm h3⟩
theorem sY:∀{l:List A} {K:List Value->Prop},oD l K->∃ks,K ks/\∀(E:Env) us,A.repL l E us->us=ks/\∀k∈ks,fD k
 |[],K,h=>⟨[],h,fun E us hr=>by unfold A.repL at hr;exact⟨hr,by simp⟩⟩
 |a::l,K,h=>by
  unfold oD at h;split at h
  ·rename_i x;obtain⟨ks,h1,h2⟩:=sY h;refine⟨x::ks,h1,fun E us hr=>?_⟩;unfold A.repL at hr;obtain⟨u,us',rfl,h3,h4⟩:=hr;obtain⟨rfl,h5⟩:=h2 E _ h4;obtain⟨rfl,h6⟩:=A.rep_v_iff.1 h3;refine⟨rfl,fun k hk=>?_⟩;rcases List.mem_cons.1 hk with rfl|hk
   ·exact h6
   ·exact h5 k hk
  ·exact h.elim
def jqo(g:Nat)(rw:List Row)(K:A->List Row->Prop):Prop :=
 match rw[g]? with
 |some (.live _ z _ cs)=>match z with
  |0=>match cs with
   |[.clo _ kA,.clo _ vs]=>oD kA fun ks=>aS rw g .gone fun rw'=>K (.mp ks vs) rw'
   |_=>False
  |_+1=>False
 |_=>False
theorem jeP{c:Cx}{x:Code}{t:List A}{bx:List (List A)}{rw:List Row}{q:Exit->S->Prop}(g:Nat)
  (h:jqo g rw fun m rw'=>aN (jhl g m) t fun t'=>jbN g m bx fun bx'=>Ok c x ⟨t',bx',rw'⟩ q):Ok c x ⟨t,bx,rw⟩ q:=by
 unfold jqo at h;split at h
 ·rename_i e z n cs hg;split at h
  ·split at h
   ·rename_i f kA f' vs;obtain⟨ks,h,hks⟩:=sY h;obtain⟨-,h⟩:=zQ h;rw[qN,jbO] at h;refine jqN ?_ h;rintro dr w0 C0 β0 a w hdr _ ⟨E,hp,hrep,hd⟩;obtain⟨C',y,hy,hp',le,hm⟩:=hp.pubMap (s:=⟨t,bx,rw⟩) (ks:=ks) hg (hks E.per);refine⟨⟨C',E.β,E.ρ⟩,?_,tL (E:=⟨C',E.β,E.ρ⟩) hy hm (A.repL.mono _ le hrep),hd.mono le⟩;refine⟨hp'.sub,hp'.base,hp'.fresh,hp'.bp,hp'.bnd,hp'.bC,by simpa using hp'.bl,fun i b cs h1 h2=>?_,hp'.rl,hp'.rws,hp'.rC,hp'.rd,hp'.rs,hp'.keep,hp'.gk⟩;rw[List.getElem?_map,Option.map_eq_some_iff] at h2;obtain⟨c0,h2,rfl⟩:=h2;obtain⟨T',arr,h3,h4⟩:=hp'.bxs i b c0 h1 h2;refine⟨T',arr,h3,h4.map (jhl g (.mp ks vs)) (fun l us k=>tL (E:=⟨C',E.β,E.ρ⟩) hy hm k) rfl (fun t=>rfl) fun a t e=>?_⟩;unfold jhl at e;split at e
    ·split at e <;> cases e
    ·exact e
   ·exact h.elim
  ·exact h.elim
 ·exact h.elim
theorem wE{P:Program}{pan:List PanicEntry->S->Prop}{Xr:Nat->Bool}{f:Nat}{args args0:List A}{s:S}{K:A->S->Prop}{post:List (List A)->Nat->List A->A->Prop}(i g m:Nat)(ids:List Nat){e k n:Nat}{cs c1:List A}(hs:m8 P f [c1] e k n cs args0 post)(hk:∀o n1 cs1 r,post [o] n1 cs1 r->fZ [i] m s.bx [i] [o] fun bx1=>zV (backG [i] m r) fun r1=>qA ((jA s.rw ids).set g .gone++[.live e k n1 cs1]) fun rw1=>kT s bx1 rw1 (K r1))(hm:s.rw.length=m:=by rfl)(hf:Xr 1000000007=true:=by rfl)(hX:Xr i=true:=by rfl)(hg:(jA s.rw ids)[g]?=some (.live e k n cs):=by rfl)(h1:(s.bx[i]?.bind fun c=>kE [i] g (jA s.rw ids) c)=some c1:=by rfl)(h2:kE [i] g (jA s.rw ids) args=some args0:=by rfl):kB P pan Xr f args s K:=by
 obtain⟨c0,hi,h1⟩:=vqb h1;exact jrs i g m ids hm hf hX hi hg h1 h2 (fun _=>hs) hk
end
section
theorem iP{f:Nat}{fn:Func}{x:Code}{ins:List (List A)}{e k n:Nat}{cs args:List A}{post:List (List A)->Nat->List A->A->Prop}(o:Nat->Tr)(xs:Nat->List Nat)(np:Nat)(hf:Tryz.prog.funcs[f]?=some fn)(hb:fn.body=some x)(h:nN args->yM args (fn.ntmps-args.length) fun t=>sG ⟨Tryz.prog,tab,o,xs,np,fun _ _=>False⟩ x ⟨t,ins,[.live e k n cs]⟩ (jp9 ⟨Tryz.prog,tab,o,xs,np,fun _ _=>False⟩ e k fn.results.toList post))(h1:(fn.name == "runtime.NumGoroutine")=false:=by kernel_rfl) (h2:ins.length=np:=by rfl) (h3:kD o x=true:=by kernel_rfl):m8 Tryz.prog f ins e k n cs args post:=qP (jQ o xs np) (fun _ _ h=>h) hf hb h1 h2 h3 h
theorem jN(j:Nat){K:Prop}(h:(j:Int)+1<=9223372036854775807)(k:K):(lo .i64<=(j:Int)+1/\(j:Int)+1<=hi .i64)/\K:=⟨jH ⟨by omega,h⟩,k⟩
mutual
inductive Wk:A->A->Prop
 |refl (a:A):Wk a a
 |nil (k:Nat):Wk (.v (.slice none 0 0)) (.sl k 0 [])
 |dead (a:A):Wk a .dead
 |sl (k n:Nat) {cs ds:List A} (h:WkL cs ds):Wk (.sl k n cs) (.sl k n ds)
 |pp {cs ds:List A} (h:WkL cs ds):Wk (.pp cs) (.pp ds)
 |agg {cs ds:List A} (h:WkL cs ds):Wk (.agg cs) (.agg ds)
 |tup {cs ds:List A} (h:WkL cs ds):Wk (.tup cs) (.tup ds)
inductive WkL:List A->List A->Prop
 |nil:WkL [] []
 |cons {a b:A} {xs ys:List A} (h:Wk a b) (k:WkL xs ys):WkL (a::xs) (b::ys)
end
theorem WkL.refl:∀l:List A,WkL l l
 |[]=>.nil
 |a::l=>.cons (.refl a) (WkL.refl l)
theorem WkL.app{a b c d:List A}(h:WkL a b)(k:WkL c d):WkL (a++c) (b++d):=by
 induction a generalizing b with
 |nil=>cases h;exact k
 |cons x a ih=>cases h with|cons h1 h2=>exact .cons h1 (ih h2)
theorem WkL.length{a b:List A}(h:WkL a b):a.length=b.length:=by
 induction a generalizing b with
 |nil=>cases h;rfl
 |cons x a ih=>cases h with|cons h1 h2=>simp[ih h2]
mutual
theorem jjg:∀{a b:A} {E:Env} {y:Value},Wk a b->a.rep E y->b.rep E y
 |_,_,_,_,.refl _,k=>k
 |_,_,_,_,.nil _,k=>jsd k
 |_,_,_,_,.dead _,_=>A.rep_dead _ _
 |_,_,_,_,.sl k n h,r=>by
  unfold A.rep at r ⊢;obtain⟨h1,h2,p,b,off,cap,h3,h4,h6,h7,h8⟩:=r;exact⟨by rw[<- h.length];exact h1,h2,p,b,off,cap,h3,h4,h6,h7,jjf h h8⟩
 |_,_,_,_,.pp h,r=>by
  unfold A.rep at r ⊢;obtain⟨b,off,h1,h2⟩:=r;exact⟨b,off,h1,jjf h h2⟩
 |_,_,_,_,.agg h,r=>by
  unfold A.rep at r ⊢;obtain⟨us,h1,h2⟩:=r;exact⟨us,h1,A.repC_mk (ja9 h (A.repC_L h2)) (A.repC_one h2)⟩
 |_,_,_,_,.tup h,r=>by
  unfold A.rep at r ⊢;obtain⟨us,h1,h2⟩:=r;exact⟨us,h1,ja9 h h2⟩
theorem ja9:∀{a b:List A} {E:Env} {us:List Value},WkL a b->A.repL a E us->A.repL b E us
 |_,_,_,_,.nil,k=>k
 |_,_,_,_,.cons h k,r=>by
  unfold A.repL at r ⊢;obtain⟨u,us',h1,h2,h3⟩:=r;exact⟨u,us',h1,jjg h h2,ja9 k h3⟩
theorem jjf:∀{a b:List A} {E:Env} {bl off:Nat},WkL a b->A.repAt a E bl off->A.repAt b E bl off
 |_,_,_,_,_,.nil,_=>by unfold A.repAt;trivial
 |_,_,_,_,_,.cons h k,r=>by
  unfold A.repAt at r ⊢;obtain⟨⟨u,h1,h2,h3⟩,h4⟩:=r;exact⟨⟨u,h1,h2,jjg h h3⟩,jjf k h4⟩
end
theorem joL{a:A}{t:Nat}(h:Wk a (.adr t)):a=.adr t:=by cases h;rfl
theorem joK{l:List A}{t:Nat}{r:List A}(h:WkL l (.adr t::r)):∃r',l=.adr t::r':=by
 cases h with
 |cons h1 h2=>exact⟨_,by rw[joL h1]⟩
theorem jqh{l m:List A}(h:WkL l m):WkL (n9 l) (n9 m):=by
 cases h with
 |nil=>exact .nil
 | @cons a b xs ys h k =>
  by_cases ha:∃t,a=.adr t
  ·obtain⟨t,rfl⟩:=ha
   cases h <;> exact .cons (.refl _) k
  ·have hb:∀t,b≠.adr t:=fun t e=>by subst e;exact ha ⟨t,joL h⟩
   rw[yI fun t r e=>ha ⟨t,by injection e⟩,yI fun t r e=>hb t (by injection e)];exact .cons h k
inductive WkB:List (List A)->List (List A)->Prop
 |nil:WkB [] []
 |cons {a b:List A} {xs ys:List (List A)} (h:WkL a b) (k:WkB xs ys):WkB (a::xs) (b::ys)
theorem WkB.refl:∀l:List (List A),WkB l l
 |[]=>.nil
 |a::l=>.cons (.refl a) (WkB.refl l)
theorem WkB.get{a b:List (List A)}(h:WkB a b){i:Nat}{c:List A}(hc:b[i]?=some c):∃c0,a[i]?=some c0/\WkL c0 c:=by
 induction a generalizing b i with
 |nil=>cases h;simp at hc
 |cons x a ih =>
  cases h with
  |cons h1 h2 =>
   cases i with
   |zero=>simp at hc;subst hc;exact⟨x,rfl,h1⟩
   |succ i=>simpa using ih h2 (by simpa using hc)
theorem WkB.length{a b:List (List A)}(h:WkB a b):a.length=b.length:=by
 induction a generalizing b with
 |nil=>cases h;rfl
 |cons x a ih=>cases h with|cons h1 h2=>simp[ih h2]
section
variable{P:Program}{f:Nat}{ins ins':List (List A)}{args args':List A}{post post':List (List A)->A->Prop}{pn pn':List PanicEntry->Prop}
theorem SpecP.weaken(h:SpecP P f ins args post pn)(hp:∀o r,post o r->∃o' r',post' o' r'/\WkB o o'/\Wk r r')(hn:∀ch,pn ch->pn' ch):SpecP P f ins args post' pn' :=
 ⟨h.1,fun w C β vals h0 h1 h2 h3 h4 h5 h6=>(h.2 w C β vals h0 h1 h2 h3 h4 h5 h6).mono fun e w' hh=>by
  rcases hh with ⟨outs,r,v,k1,k2,k3,k4,k5,k6⟩|⟨ch,ns,k1,k2,k3⟩
  ·obtain⟨o',r',g1,g2,g3⟩:=hp _ _ k2;refine .inl ⟨o',r',v,k1,g1,k3,by rw[<- g2.length];exact k4,fun i b cs q1 q2=>?_,jjg g3 k6⟩;obtain⟨c0,q3,q4⟩:=g2.get q2;obtain⟨T,arr,q5,q6⟩:=k5 i b c0 q1 q3;exact⟨T,arr,q5,q6.rel WkL q4 (fun l m us e k=>ja9 e k) (fun l m e=>jqh e) fun l t r e=>joK e⟩
  ·exact .inr ⟨ch,ns,k1,hn _ k2,k3⟩⟩
theorem Spec.weaken(h:Spec P f ins args post)(hp:∀o r,post o r->∃o' r',post' o' r'/\WkB o o'/\Wk r r'):Spec P f ins args post' :=
 (h.toP.weaken hp (pn':=fun _=>False) fun _ h=>h).toS
end
end
section
def ClD(P:Program)(f:Nat)(u u':FrameMode):Array Value->World->(Ending->World->Prop)->Prop:=fun vs w R=>CallsD P f vs u w fun e m w'=>m=u'/\R e w'
theorem ClD.mono{P:Program}{f:Nat}{u u':FrameMode}{vs:Array Value}{w:World}{R R':Ending->World->Prop}(h:∀e w',R e w'->R' e w')(k:ClD P f u u' vs w R):ClD P f u u' vs w R' :=
 CallsD.mono k fun e m w' ⟨h1,h2⟩=>⟨h1,h _ _ h2⟩
@[irreducible] def joT(P:Program)(u u':FrameMode)(f:Nat)(args:List A)(s:S)(K:S->Prop):Prop :=
 (∀vs w,(callFunc f vs).run P w=.ok (.enter f vs) w) ∧
 ∃(X ids:List Nat) (ins:List (List A)) (args':List A) (post:List (List A)->A->Prop),X.Nodup/\(∀i∈X,i<s.bx.length) ∧
  nP X (jA s.rw ids) (X.map fun i=>s.bx.getD i [])=some ins/\zC X (jA s.rw ids) args=some args'/\(nN args'->jcv (ClD P f u u') ins args' post fun _=>False) ∧
  ∀outs r,post outs r->outs.length=X.length->iC X s.bx X outs fun bx'=>zV (back X r) fun _=>qA (jA s.rw ids) fun rw'=>kT s bx' rw' K
def eV(c:Cx)(rv:List ResultVar)(post:List (List A)->A->Prop):List (Nat×List A)->FrameMode->S->Prop
 |[],.returning,s=>jiQ c rv post s
 |[],_,_=>False
 |(f,args)::r,u,s=>u≠.run/\∃u',joT c.P u u' f args s fun s'=>eV c rv post r (settle u') s'
section
variable{c:Cx}{w0:W0}{C0:Rd}{β0:List Nat}
theorem mD{fn:Func}{post:List (List A)->A->Prop}{R:Ending->World->Prop}{tmps:Array Value}(hfin:∀s' w',jiQ c fn.results.toList post s'->Inv [] w0 C0 β0 s' { tmps:=tmps,defers:=[] } w'->∃v,(results fn tmps).run c.P w'=.ok v w'/\R (.returned v) w') :
  ∀(dr:List (Nat×List A)) (ds:List Deferred) (u:FrameMode) (s:S) (E:Env) (w:World),repD dr E ds->Hp w0 C0 β0 s.bx s.rw w E->A.repL s.t E tmps.toList->eV c fn.results.toList post dr u s->Leaves c.P fn tmps R ds u w
 |[],ds,u,s,E,w,hd,hp,ht,h=>by
  obtain rfl:ds=[]:=hd
  cases u with
  |returning=>exact hfin s w h ⟨E,hp,ht,rfl⟩
  |run=>exact h.elim
  |panicking ch=>exact h.elim
 |(f,args)::r,ds,u,s,E,w,⟨d,ds',cap,hds,htg,hargs,hrest⟩,hp,ht,h=>by
  subst hds;obtain⟨hu,u',h⟩:=h;unfold joT at h;obtain⟨hcall,X,ids,ins,args',post',hn,hX,hins,hargs',hspec,hk⟩:=h;have hcx:=jau (pan:=fun _ _=>False) (Xr:=fun _=>true) (K:=fun _ s'=>eV c fn.results.toList post r (settle u') s') (Cl:=ClD c.P f u u') ClD.mono hp hargs hn (fun _ _=>rfl) hX hins hargs' hspec (fun outs r hp hl=>hk outs r hp hl) (fun ch bx' h _ _=>h.elim);obtain⟨t,da⟩:=d
  simp only at htg hargs hcx
  subst htg;refine leaves_cons (f:=f) (args:=da++cap) hu (by simp[invoke,hcall]) ?_
  have hcx':CallsD c.P f (da++cap) u w fun e m w'=>m=u'/\((∃y,e=.returned y/\Left w0 C0 β0 (fun _=>true) s E w (fun _ s'=>eV c fn.results.toList post r (settle u') s') y w')∨∃(ch:List PanicEntry) (s':S) (E':Env),e=.panicked ch/\False/\s'.t=s.t/\E.le E'/\Hp w0 C0 β0 s'.bx s'.rw w' E'):=hcx
  refine CallsD.mono hcx' ?_;rintro e m w' ⟨rfl,⟨y,rfl,⟨⟨r0,s',E',h1,h2,h3,h4,h5,_⟩⟩⟩|⟨ch,s',E',_,h,_⟩⟩
  ·exact mD hfin r ds' _ s' E' w' (hrest.mono h3) h4 (by rw[h2];exact A.repL.mono _ h3 ht) h1
  ·exact h.elim
@[irreducible] def OkT(P:Program)(np:Nat)(pt:List (Nat×List A)->List PanicEntry->S->Prop)(qt:List (Nat×List A)->Exit->S->Prop)(dr:List (Nat×List A))(x:Code)(s:S):Prop :=
 ∀(w0:W0) (C0:Rd) (β0:List Nat) (a:Act) (w:World) (Q:Exit->Act->World->Prop),β0.length=np->Inv dr w0 C0 β0 s a w->(∀dr' ch s' a' w',pt dr' ch s'->Inv dr' w0 C0 β0 s' a' w'->Q (.panic ch) a' w')->(∀dr' e s' a' w',qt dr' e s'->Inv dr' w0 C0 β0 s' a' w'->Q e a' w')->x.wp P Q a w
def tQ(P:Program)(np:Nat)(pt:List (Nat×List A)->List PanicEntry->S->Prop)(qt:List (Nat×List A)->Exit->S->Prop)(dr:List (Nat×List A))(y:Code)(e:Exit)(s:S):Prop:=match e with
 |.normal=>OkT P np pt qt dr y s
 |e=>qt dr e s
variable{pt:List (Nat×List A)->List PanicEntry->S->Prop}{qt:List (Nat×List A)->Exit->S->Prop}{dr:List (Nat×List A)}{s:S}
theorem jgH{x:Code}(hc:c.ok)(hdr:∃n,wR n dr=true)(hl:wR c.np dr=true∨xB x=true)(ho:kD c.ord x=true)(hp:∀ch s',c.pan ch s'->pt dr ch s')(h:sG c x s (qt dr)):OkT c.P c.np pt qt dr x s:=by
 unfold OkT
 exact fun w0 C0 β0 a w Q hn hi hx hk=>nU hc hn hdr x hl (fun ch s' a' w' h1 h2=>hx dr ch s' a' w' (hp ch s' h1) h2) ho hi h fun e s' a' w' h1 h2=>hk dr e s' a' w' h1 h2
theorem kC{x y:Code}(hc:c.ok)(hdr:∃n,wR n dr=true)(hl:wR c.np dr=true∨xB x=true)(ho:kD c.ord x=true)(hp:∀ch s',c.pan ch s'->pt dr ch s')(h:sG c x s (tQ c.P c.np pt qt dr y)):OkT c.P c.np pt qt dr (.seq x y) s:=by
 unfold OkT;intro w0 C0 β0 a w Q hn hi hx hk;refine wp_seq (nU hc hn hdr x hl (fun ch s' a' w' h1 h2=>hx dr ch s' a' w' (hp ch s' h1) h2) ho hi h fun e s' a' w' h1 h2=>?_)
 cases e with
 |normal =>
  have h1:OkT c.P c.np pt qt dr y s':=h1;unfold OkT at h1;exact h1 w0 C0 β0 a' w' Q hn h2 hx hk
 |_=>exact hk dr _ _ _ _ h1 h2
def jts(s:S)(fo:Operand)(xs:List Operand)(K:Nat->List A->Prop):Prop:=match ev s fo with
 |.clo f caps=>K f (xs.map (ev s)++caps)
 |.bm f fs=>K f (fs++xs.map (ev s))
 |_=>False
theorem ja7{ops l2:List Oper}{Q:Exit->Act->World->Prop}(hc:c.ok)(hdr:∃n,wR n dr=true)(hx:∀ch s' a' w',c.pan ch s'->Inv dr w0 C0 β0 s' a' w'->Q (.panic ch) a' w'):∀{l:List Oper} {s:S} {a:Act} {w:World} {K:S->Prop},Inv dr w0 C0 β0 s a w->bV c ops l s K->(∀s' a' w',K s'->Inv dr w0 C0 β0 s' a' w'->wpList c.P ops.toArray Q l2 a' w')->wpList c.P ops.toArray Q (l++l2) a w
 |[],s,a,w,K,hi,h,hk=>hk s a w h hi
 |o::r,s,a,w,K,hi,h,hk=>by
  obtain⟨E,hp,ht,hd⟩:=hi
  change aG ops o s (ado c (fun _=>true) s o fun s'=>bV c ops r s' K) (kP s o.dst (.tup []) fun s'=>bV c ops r s' K) at h
  refine wpList_step fun Kc hKc=>?_
  rcases xP ht h with ⟨h1,h2⟩|⟨h1,h2⟩
  ·rw[if_pos h1]
   exact jcP hc hdr ⟨E,hp,ht,hd⟩ h2 hx fun s' a' w' h3 h4=>hKc _ _ (ja7 hc hdr hx h4 h3 hk)
  ·rw[if_neg (by rw[h1];simp)];obtain⟨s2,k1,k2,k3,k4,k5⟩:=qS (a:=a) hp ht hd (kV _) h2;exact hKc _ _ (ja7 hc hdr hx ⟨E,by rw[k2,k3];exact hp,k4,k5⟩ k1 hk)
theorem jl6{id:Nat}{l:List Oper}{od:Oper}{fo:Operand}{xs:Array Operand}{ts:Array TypeId}{y:Code}(hc:c.ok)(hdr:∃n,wR n dr=true)(hp:∀ch s',c.pan ch s'->pt dr ch s')(hop:od.op=.defer ⟨.value fo,xs,ts⟩)(hg:od.guard=none)(hd:od.dst=none)
  (h:bV c (l++[od]) l s fun s'=>jts s' fo xs.toList fun f args=>OkT c.P c.np pt qt ((f,args)::dr) y s'):OkT c.P c.np pt qt dr (.seq (.region id (l++[od]).toArray false) y) s:=by
 unfold OkT;intro w0 C0 β0 a w Q hn hi hx hk;refine wp_seq (wp_region_lit (ja7 (l2:=[od]) (Q:=Exit.then (y.wp c.P Q) Q) hc hdr (fun ch s' a' w' h1 h2=>hx dr ch s' a' w' (hp ch s' h1) h2) hi h fun s' a' w' h1 h2=>?_))
 refine wpList_step fun Kc hKc=>?_
 rw[if_pos (by simp[Region.wanted,hg])];obtain⟨E,hpp,ht,hdd⟩:=h2;unfold jts at h1;split at h1
 ·rename_i f caps hev;have hf:=jM ht fo;rw[hev] at hf;unfold A.rep at hf;obtain⟨us,hf,hcaps⟩:=hf
  have hrun:(execOp a'.eval od).run c.P w'=.ok (.defer { target:=.fn (.func f) us,args:=xs.map a'.eval }) w':=by simp[execOp,hop,resolve,Deferred.ofValue,hf,Result.andThen]
  unfold Oper.wp;rw[hrun,Oper.upon_defer];rw[hd];unfold OkT at h1;refine hKc _ _ (h1 w0 C0 β0 _ w' Q hn ⟨E,hpp,ht,{ target:=.fn (.func f) us,args:=xs.map a'.eval },a'.defers,us,rfl,rfl,?_,hdd⟩ hx hk);have:=A.repL_append (nD ht xs.toList) hcaps;simpa using this
 ·rename_i f fs hev;have hf:=jM ht fo;rw[hev] at hf;unfold A.rep at hf;obtain⟨us,hf,hcaps⟩:=hf
  have hrun:(execOp a'.eval od).run c.P w'=.ok (.defer { target:=.fn (.func f) #[],args:=us++xs.map a'.eval }) w':=by simp[execOp,hop,resolve,Deferred.ofValue,hf,Result.andThen]
  unfold Oper.wp;rw[hrun,Oper.upon_defer];rw[hd];unfold OkT at h1;refine hKc _ _ (h1 w0 C0 β0 _ w' Q hn ⟨E,hpp,ht,{ target:=.fn (.func f) #[],args:=us++xs.map a'.eval },a'.defers,#[],rfl,rfl,?_,hdd⟩ hx hk);have:=A.repL_append hcaps (nD ht xs.toList);simpa using this
 ·exact h1.elim
theorem jd6{n:Nat}{ins:List (List A)}{args:List A}{w:World}{C:Rd}{β:List Nat}{vals:List Value}(h0:Gok C w)(h1:Sub C (kQ w))(h2:β.Nodup)(h3:∀b∈β,∀o sp,C ⟨b,o,sp⟩=none)(h4:ins.length=β.length)
  (h5:∀(i b:Nat) (cs:List A),β[i]?=some b->ins[i]?=some cs->boxAt w ⟨C,β,[]⟩ b cs) (h6:A.repL args ⟨C,β,[]⟩ vals) :
  Inv [] (.of w) C β ⟨args++List.replicate (n-args.length) .dead,ins,[]⟩ { tmps:=vals.toArray++Array.replicate (n-vals.toArray.size) undef,defers:=[] } w:=by
 have hl:=A.repL_len h6;refine⟨⟨C,β,[]⟩,⟨h1,Sub.refl _,fun _ _ hc=>.inl hc,⟨[],by simp,by simp⟩,h2,h3,h4,h5,rfl,fun g r y hg=>by simp at hg,fun g e k n cs y b hg=>by simp at hg,fun g e k n cs y h' e' k' n' cs' z b _ hg=>by simp at hg,fun g y hg=>by simp at hg,Keeps.refl _ _,jg5 h0⟩,?_,rfl⟩
 have:(vals.toArray++Array.replicate (n-vals.toArray.size) undef).toList=vals++List.replicate (n-args.length) undef:=by simp[hl]
 rw[this];exact A.repL_append h6 (vA _ _)
theorem jo7{f:Nat}{fn:Func}{x:Code}{ins:List (List A)}{args:List A}{post:List (List A)->A->Prop}(hc:c.ok)(hf:c.P.funcs[f]?=some fn)(hb:fn.body=some x)(hname:(fn.name == "runtime.NumGoroutine")=false)
  (hn:ins.length=c.np) (h:nN args->yM args (fn.ntmps-args.length) fun t=>OkT c.P c.np (fun dr ch s=>eV c fn.results.toList post dr (.panicking ch) s) (fun dr e s=>(e=.normal∨e=.ret)/\eV c fn.results.toList post dr .returning s) [] x ⟨t,ins,[]⟩):Spec c.P f ins args post:=by
 refine⟨nC hf hb hname,fun w C β vals h0 h1 h2 h3 h4 h5 h6=>?_⟩;refine calls_of_wp_defers hf hb ?_;have hinit:=initK_iff.1 (h (kZ _ h6));have hinv:=jd6 (n:=fn.ntmps) h0 h1 h2 h3 h4 h5 h6;unfold OkT at hinit;have hfin:∀(tmps:Array Value) (s':S) (w':World),jiQ c fn.results.toList post s'->Inv [] (.of w) C β s' { tmps:=tmps,defers:=[] } w'->∃v,(results fn tmps).run c.P w'=.ok v w'/\∃outs r v',Ending.returned v=.returned v'/\post outs r/\Keeps β w w'/\outs.length=β.length ∧
   (∀(i b:Nat) (cs:List A),β[i]?=some b->outs[i]?=some cs->boxAt w' ⟨zA C w w',β,[]⟩ b cs)/\r.rep ⟨zA C w w',β,[]⟩ v':=fun tmps s' w' hr hi =>
  (jib (w:=w) (C:=C) (β:=β) (fn:=fn) (post:=post) hc h1 (by rw[<- h4,hn]) hr hi).2
 refine hinit (.of w) C β _ w _ (by rw[<- h4,hn]) hinv (fun dr ch s' a' w' hl ⟨E,hp,ht,hd⟩=>?_) (fun dr e s' a' w' hl ⟨E,hp,ht,hd⟩=>?_)
 ·exact mD (hfin a'.tmps) dr a'.defers _ s' E w' hd hp ht hl
 ·obtain⟨he,hl⟩:=hl;rcases he with rfl|rfl
  ·exact mD (hfin a'.tmps) dr a'.defers _ s' E w' hd hp ht hl
  ·exact mD (hfin a'.tmps) dr a'.defers _ s' E w' hd hp ht hl
theorem jcm{c0:Frame}{cs:List Frame}(h:c0.mode=.returning):recoverD (c0::cs)=none:=by
 simp[recoverD,h]
theorem jcl{c0:Frame}{cs:List Frame}{v:Value}{older:List PanicEntry}(h:c0.mode=.panicking (⟨v,false,false⟩::older)):recoverD (c0::cs)=some (v,{ c0 with mode:=.panicking (⟨v,true,false⟩::older) }::cs):=by
 simp[recoverD,h]
theorem jkb{f id d0:Nat}{fn:Func}{o0:Oper}{ts:Array TypeId}{rest:Code}{ins:List (List A)}{args:List A}{post:List (List A)->A->Prop}{u u':FrameMode}{rv:Value}(hc:c.ok)(hq:∀ch s,¬c.pan ch s)(hf:c.P.funcs[f]?=some fn)(hb:fn.body=some (.seq (.region id #[o0] false) rest))
  (k0:o0.op=.call ⟨.builtin .recover,#[],ts⟩/\o0.guard=none/\o0.dst=some d0) (hd0:d0<fn.ntmps) (hv:fD rv)
  (hu:(u=.returning/\u'=.returning/\rv=.nilIface)∨∃v older,u=.panicking (⟨v,false,false⟩::older)/\u'=.panicking (⟨v,true,false⟩::older)/\rv=v)
  (hn:ins.length=c.np) (h:nN args->yM args (fn.ntmps-args.length) fun t=>Ok c rest ⟨t.set d0 (.v rv),ins,[]⟩ (ji5 c fn.results.toList post)):jcv (ClD c.P f u u') ins args post fun _=>False:=by
 intro w C β vals h0 h1 h2 h3 h4 h5 h6;unfold ClD
 refine callsD_of_wpS hf hb fun c0 cs hu0=>wpS_seq (wpS_region ?_)
 have hinit:=initK_iff.1 (h (kZ _ h6));have hinv:=jd6 (n:=fn.ntmps) h0 h1 h2 h3 h4 h5 h6
 have hnp:β.length=c.np:=by rw[<- h4,hn]
 generalize hA:({ tmps:=vals.toArray++Array.replicate (fn.ntmps-vals.toArray.size) undef,defers:=[] }:Act)=a0 at *
 have hsz:d0<a0.tmps.size:=by rw[<- hA];simp;omega
 obtain⟨E,hp,ht,hd⟩:=hinv
 have hi2:Inv [] (.of w) C β ⟨(args++List.replicate (fn.ntmps-args.length) A.dead).set d0 (.v rv),ins,[]⟩ (a0.put (some d0) rv) w:=by
  refine⟨E,hp,?_,hd⟩;show A.repL _ E (a0.tmps.setIfInBounds d0 rv).toList;rw[Array.toList_setIfInBounds];exact A.repL_set ht d0 (A.rep_v hv)
 have e0:(execOp a0.eval o0).run c.P w=.ok .recover w:=by
  simp[execOp,k0.1,resolve,invoke,Result.andThen];rfl
 have hrange:List.range (#[o0]:Array Oper).size=[0]:=rfl;rw[hrange];have g0:(#[o0]:Array Oper)[0]?=some o0:=rfl
 have w0':∀y,Region.wanted o0 y=true:=fun y=>by simp[Region.wanted,k0.2.1]
 simp only[wpOpsS,g0,w0',if_true,e0];unfold Ok OkD at hinit
 have fin:∀cs',cs'={ c0 with mode:=u' }::cs->rest.wpS c.P (bodyPostS c.P fn c0 cs fun e m w'=>m=u'/\((∃outs r v,e=.returned v/\post outs r/\Keeps β w w'/\outs.length=β.length ∧
   (∀(i b:Nat) (cs:List A),β[i]?=some b->outs[i]?=some cs->boxAt w' ⟨zA C w w',β,[]⟩ b cs)/\r.rep ⟨zA C w w',β,[]⟩ v) ∨
   ∃(ch:List PanicEntry) (ns:List Nat),e=.panicked ch/\False/\Keeps β w w'/\ns.length=β.length/\∀(i b n:Nat),β[i]?=some b->ns[i]?=some n->boxAt w' ⟨C,β,[]⟩ b (List.replicate n .dead))) (a0.put (some d0) rv) cs' w:=fun cs' hcs=>by
  subst hcs;refine wpS_of_wp ?_
  refine hinit (.of w) C β _ w _ hnp hi2 (fun ch s' _ _ hh _=>absurd hh (hq ch s')) fun e s' a' w' he hi=>?_
  have ff:=fun(hr:jiQ c fn.results.toList post s')=>jib (w:=w) (C:=C) (β:=β) (fn:=fn) (post:=post) hc h1 hnp hr hi
  cases e with
  |normal=>obtain⟨q1,v,q2,q3⟩:=ff he;exact⟨q1,u',rfl,v,q2,rfl,.inl q3⟩
  |ret=>obtain⟨q1,v,q2,q3⟩:=ff he;exact⟨q1,u',rfl,v,q2,rfl,.inl q3⟩
  |_=>exact he.elim
 rcases hu with ⟨rfl,rfl,rfl⟩|⟨v,older,rfl,rfl,rfl⟩
 ·rw[jcm hu0];simp only[k0.2.2];exact fin _ (by rw[<- hu0])
 ·rw[jcl hu0];simp only[k0.2.2];exact fin _ rfl
end
end
section
structure jhK(P:Program)(f:Nat)(ins:List (List A))(e k n:Nat)(cs args:List A)(post:List (List A)->Nat->List A->A->Prop):Prop where
 r:m8 P f ins e k n cs args post
 d:∀u,je5 (ClD P f u u) ins e k n cs args post fun _=>False
section
variable{c:Cx}{s:S}
theorem jdP{f:Nat}{fn:Func}{x:Code}{ins:List (List A)}{e k n:Nat}{cs args:List A}{post:List (List A)->Nat->List A->A->Prop}(hc:c.ok)(hq:∀ch s,¬c.pan ch s)(hf:c.P.funcs[f]?=some fn)(hb:fn.body=some x)(hname:(fn.name == "runtime.NumGoroutine")=false)
  (hn:ins.length=c.np) (hord:kD c.ord x=true) (h:nN args->yM args (fn.ntmps-args.length) fun t=>sG c x ⟨t,ins,[.live e k n cs]⟩ (jp9 c e k fn.results.toList post)):jhK c.P f ins e k n cs args post:=by
 refine⟨qP hc (fun ch s h=>hq ch s h) hf hb hname hn hord h,fun u w C β vals y xs h0 h1 h2 h3 h4 h5 h6 h7 h8 h9=>?_⟩;unfold ClD
 refine CallsD.mono (callsD_of_wp hf hb (R:=fun e' w'=>(∃(outs:List (List A)) (n':Nat) (cs':List A) (r:A) (v y':Value) (xs':List Value) (C':Rd),e'=.returned v/\post outs n' cs' r/\Keeps (β++(blk y).toList) w w'/\Sub C C'/\Sub C' (kQ w')/\(∀ad u,C' ad=some u->C ad=some u∨w.heap.size<=ad.block∨blk y=some ad.block)/\outs.length=β.length ∧
   (∀(i b:Nat) (cs:List A),β[i]?=some b->outs[i]?=some cs->boxAt w' ⟨C',β,[y']⟩ b cs)/\owR w' e k y' n' xs'/\A.repC cs' ⟨C',[],[]⟩ xs'/\(∀b,blk y'=some b->(∀o sp,C' ⟨b,o,sp⟩=none)/\(w.heap.size<=b∨blk y=some b))/\r.rep ⟨C',β,[y']⟩ v) ∨
   ∃(ch:List PanicEntry) (ns:List Nat),e'=.panicked ch/\False/\Keeps (β++(blk y).toList) w w'/\ns.length=β.length/\∀(i b n:Nat),β[i]?=some b->ns[i]?=some n->boxAt w' ⟨C,β,[]⟩ b (List.replicate n .dead)) ?_) fun e m w' hh=>hh
 have hinit:=initK_iff.1 (h (kZ _ h9));have hinit:=z6 hc hord hinit;have hinv:=o7 (nt:=fn.ntmps) h0 h1 h2 h3 h4 h5 h6 h7 h8 h9;unfold Ok OkD at hinit;refine hinit ⟨w,(blk y).toList⟩ C β _ w _ (by rw[<- h4,hn]) hinv (fun ch s' a' w' hpan hi=>absurd hpan (hq ch s')) ?_
 have fin:∀(s':S) (a':Act) (w':World),(∃g,jgU c e k g fn.results.toList post s')->Inv [] ⟨w,(blk y).toList⟩ C β s' a' w'->_:=fun s' a' w' ⟨g,hr⟩ hi=>jeA (w:=w) (C:=C) (β:=β) (s':=s') (a':=a') (w':=w') (fn:=fn) (post:=post) (y:=y) hc (by rw[<- h4,hn]) hr hi
 intro e1 s' a' w' hq hi
 cases e1 with
 |normal=>obtain⟨k1,v,k2,k3⟩:=fin s' a' w' hq hi;exact⟨k1,v,k2,.inl k3⟩
 |ret=>obtain⟨k1,v,k2,k3⟩:=fin s' a' w' hq hi;exact⟨k1,v,k2,.inl k3⟩
 |_=>exact hq.elim
@[irreducible] def joS(P:Program)(f:Nat)(args:List A)(s:S)(K:S->Prop):Prop :=
 (∀vs w,(callFunc f vs).run P w=.ok (.enter f vs) w) ∧
 ∃(X ids:List Nat) (g e k n:Nat) (cs:List A) (ins:List (List A)) (args':List A) (post:List (List A)->Nat->List A->A->Prop),X.Nodup/\(∀i∈X,i<s.bx.length)/\(jA s.rw ids)[g]?=some (.live e k n cs) ∧
  bK X g (jA s.rw ids) (X.map fun i=>s.bx.getD i [])=some ins/\kE X g (jA s.rw ids) args=some args'/\(nN args'->je5 (ClD P f .returning .returning) ins e k n cs args' post fun _=>False) ∧
  ∀outs n' cs' r,post outs n' cs' r->outs.length=X.length->fZ X s.rw.length s.bx X outs fun bx'=>zV (backG X s.rw.length r) fun r'=>qA ((jA s.rw ids).set g .gone++[.live e k n' cs']) fun rw'=>kT s bx' rw' K
def i7(c:Cx)(e k:Nat)(rv:List ResultVar)(post:List (List A)->Nat->List A->A->Prop):List (Nat×List A)->S->Prop
 |[],s=>∃g,jgU c e k g rv post s
 |(f,args)::r,s=>joS c.P f args s fun s'=>i7 c e k rv post r s'
theorem jb3{w0:W0}{C0:Rd}{β0:List Nat}{e k:Nat}{fn:Func}{post:List (List A)->Nat->List A->A->Prop}{R:Ending->World->Prop}{tmps:Array Value}(hfin:∀s' w',(∃g,jgU c e k g fn.results.toList post s')->Inv [] w0 C0 β0 s' { tmps:=tmps,defers:=[] } w'->∃v,(results fn tmps).run c.P w'=.ok v w'/\R (.returned v) w') :
  ∀(dr:List (Nat×List A)) (ds:List Deferred) (s:S) (E:Env) (w:World),repD dr E ds->Hp w0 C0 β0 s.bx s.rw w E->A.repL s.t E tmps.toList->i7 c e k fn.results.toList post dr s->Leaves c.P fn tmps R ds .returning w
 |[],ds,s,E,w,hd,hp,ht,h=>by
  obtain rfl:ds=[]:=hd;exact hfin s w h ⟨E,hp,ht,rfl⟩
 |(f,args)::r,ds,s,E,w,⟨d,ds',cap,hds,htg,hargs,hrest⟩,hp,ht,h=>by
  subst hds;unfold i7 joS at h;obtain⟨hcall,X,ids,g,e0,k0,n0,cs0,ins,args',post',hn,hX,hg,hins,hargs',hspec,hk⟩:=h;obtain⟨-,hcx⟩:=jfC (pan:=fun _ _=>False) (Xr:=fun _=>true) (K:=fun _ s'=>i7 c e k fn.results.toList post r s') (Cl:=ClD c.P f .returning .returning) ClD.mono hp hargs rfl hn (fun _ _=>rfl) hX hg hins hargs' hspec (fun outs n' cs' r hp hl=>hk outs n' cs' r hp hl) (fun ch bx' h _ _=>h.elim);obtain⟨t,da⟩:=d
  simp only at htg hargs hcx
  subst htg;refine leaves_cons (f:=f) (args:=da++cap) (by simp) (by simp[invoke,hcall]) ?_
  have hcx':CallsD c.P f (da++cap) .returning w fun e' m w'=>m=.returning/\((∃y,e'=.returned y/\Left w0 C0 β0 (fun _=>true) s E w (fun _ s'=>i7 c e k fn.results.toList post r s') y w')∨∃(ch:List PanicEntry) (s':S) (E':Env),e'=.panicked ch/\False/\s'.t=s.t/\E.le E'/\Hp w0 C0 β0 s'.bx s'.rw w' E'):=hcx
  refine CallsD.mono hcx' ?_;rintro e' m w' ⟨rfl,⟨y,rfl,⟨⟨r0,s',E',h1,h2,h3,h4,h5,_⟩⟩⟩|⟨ch,s',E',_,h,_⟩⟩
  ·exact jb3 hfin r ds' s' E' w' (hrest.mono h3) h4 (by rw[h2];exact A.repL.mono _ h3 ht) h1
  ·exact h.elim
theorem jdQ{f:Nat}{fn:Func}{x:Code}{ins:List (List A)}{e k n:Nat}{cs args:List A}{post:List (List A)->Nat->List A->A->Prop}(hc:c.ok)(hf:c.P.funcs[f]?=some fn)(hb:fn.body=some x)(hname:(fn.name == "runtime.NumGoroutine")=false)
  (hn:ins.length=c.np) (h:nN args->yM args (fn.ntmps-args.length) fun t=>OkT c.P c.np (fun _ _ _=>False) (fun dr ex s=>(ex=.normal∨ex=.ret)/\i7 c e k fn.results.toList post dr s) [] x ⟨t,ins,[.live e k n cs]⟩):m8 c.P f ins e k n cs args post:=by
 refine⟨nC hf hb hname,fun w C β vals y xs h0 h1 h2 h3 h4 h5 h6 h7 h8 h9=>?_⟩;refine calls_of_wp_defers hf hb ?_;have hinit:=initK_iff.1 (h (kZ _ h9));have hinv:=o7 (nt:=fn.ntmps) h0 h1 h2 h3 h4 h5 h6 h7 h8 h9;unfold OkT at hinit;refine hinit ⟨w,(blk y).toList⟩ C β _ w _ (by rw[<- h4,hn]) hinv (fun dr ch s' a' w' hl _=>hl.elim) (fun dr ex s' a' w' hl ⟨E,hp,ht,hd⟩=>?_)
 have key:=jb3 (c:=c) (e:=e) (k:=k) (fn:=fn) (post:=post) (tmps:=a'.tmps) (R:=fun e' w'=>(∃(outs:List (List A)) (n':Nat) (cs':List A) (r:A) (v y':Value) (xs':List Value) (C':Rd),e'=.returned v/\post outs n' cs' r/\Keeps (β++(blk y).toList) w w'/\Sub C C'/\Sub C' (kQ w')/\(∀ad u,C' ad=some u->C ad=some u∨w.heap.size<=ad.block∨blk y=some ad.block)/\outs.length=β.length ∧
   (∀(i b:Nat) (cs:List A),β[i]?=some b->outs[i]?=some cs->boxAt w' ⟨C',β,[y']⟩ b cs)/\owR w' e k y' n' xs'/\A.repC cs' ⟨C',[],[]⟩ xs'/\(∀b,blk y'=some b->(∀o sp,C' ⟨b,o,sp⟩=none)/\(w.heap.size<=b∨blk y=some b))/\r.rep ⟨C',β,[y']⟩ v) ∨
   ∃(ch:List PanicEntry) (ns:List Nat),e'=.panicked ch/\False/\Keeps (β++(blk y).toList) w w'/\ns.length=β.length/\∀(i b n:Nat),β[i]?=some b->ns[i]?=some n->boxAt w' ⟨C,β,[]⟩ b (List.replicate n .dead))
  (fun s2 w2 ⟨g,hr⟩ hi=>by
   obtain⟨-,v,q1,q2⟩:=jeA (w:=w) (C:=C) (β:=β) (fn:=fn) (post:=post) (y:=y) hc (by rw[<- h4,hn]) hr hi
   exact⟨v,q1,.inl q2⟩) dr a'.defers s' E w' hd hp ht hl.2
 rcases hl.1 with rfl|rfl
 ·exact key
 ·exact key
end
section
variable{c:Cx}{P:Program}{np:Nat}{pt:List (Nat×List A)->List PanicEntry->S->Prop}{qt:List (Nat×List A)->Exit->S->Prop}{dr:List (Nat×List A)}{s:S}
theorem jk4{x y:Code}(h:OkT P np pt (fun dr' e s'=>tQ P np pt qt dr' y e s') dr x s):OkT P np pt qt dr (.seq x y) s:=by
 unfold OkT at h ⊢;intro w0 C0 β0 a w Q hn hi hx hk;refine wp_seq (h w0 C0 β0 a w _ hn hi (fun dr' ch s' a' w' h1 h2=>hx dr' ch s' a' w' h1 h2) fun dr' e s' a' w' h1 h2=>?_)
 cases e with
 |normal =>
  have h1:OkT P np pt qt dr' y s':=h1;unfold OkT at h1;exact h1 w0 C0 β0 a' w' Q hn h2 hx hk
 |_=>exact hk dr' _ _ _ _ h1 h2
def jqB(s:S)(ids:List Nat)(fo:Operand)(xs:List Operand)(K:Nat->List A->S->Prop):Prop :=
 match s with
 |⟨t,bx,rw⟩=>qA (jA rw ids) fun rw'=>aN (fR rw') t fun t'=>jbM rw' bx fun bx'=>match ev ⟨t',bx',rw'⟩ fo with
  |.clo f caps=>aN (ev ⟨t',bx',rw'⟩) xs fun l=>K f (l++caps) ⟨t',bx',rw'⟩
  |_=>False
theorem pB{id:Nat}{l:List Oper}{od:Oper}{fo:Operand}{xs:Array Operand}{ts:Array TypeId}(ids:List Nat)(hc:c.ok)(hdr:∃n,wR n dr=true)(hp:∀ch s',c.pan ch s'->pt dr ch s')(hop:od.op=.defer ⟨.value fo,xs,ts⟩)(hg:od.guard=none)(hd:od.dst=none)
  (h:bV c (l++[od]) l s fun s'=>jqB s' ids fo xs.toList fun f args s''=>qt ((f,args)::dr) .normal s''):OkT c.P c.np pt qt dr (.region id (l++[od]).toArray false) s:=by
 unfold OkT;intro w0 C0 β0 a w Q hn hi hx hk;refine wp_region_lit (ja7 (l2:=[od]) (Q:=Q) hc hdr (fun ch s' a' w' h1 h2=>hx dr ch s' a' w' (hp ch s' h1) h2) hi h fun s' a' w' h1 h2=>?_)
 refine wpList_step fun Kc hKc=>?_
 rw[if_pos (by simp[Region.wanted,hg])];obtain⟨t,bx,rw'⟩:=s';unfold jqB at h1
 simp only at h1
 rw[qR,qN,mW] at h1;have hle:Le (β0.length) ⟨t,bx,rw'⟩ _:=(jin (np:=β0.length) (s:=⟨t,bx,rw'⟩) ids).trans jio
 -- publishing keeps what is deferred
 obtain⟨E,hpp,ht,hdd⟩:=h2;obtain⟨C',hp1,le1⟩:=hpp.pubs ids;have ht1:=lP (E:=⟨C',E.β,E.ρ⟩) hp1 (A.repL.mono _ le1 ht);have hd1:=hdd.mono le1
 have hp2:Hp w0 C0 β0 (bx.map fun c=>c.map (fR (jA rw' ids))) (jA rw' ids) w' ⟨C',E.β,E.ρ⟩:=by
  refine⟨hp1.sub,hp1.base,hp1.fresh,hp1.bp,hp1.bnd,hp1.bC,by simpa using hp1.bl,fun i b cs h1 h2=>?_,hp1.rl,hp1.rws,hp1.rC,hp1.rd,hp1.rs,hp1.keep,hp1.gk⟩;rw[List.getElem?_map,Option.map_eq_some_iff] at h2;obtain⟨c0,h2,rfl⟩:=h2;obtain⟨T',arr,h3,h4⟩:=hp1.bxs i b c0 h1 h2
  exact⟨T',arr,h3,h4.map (fR (jA rw' ids)) (fun l us k=>lP (E:=⟨C',E.β,E.ρ⟩) hp1 k) rfl (fun t=>rfl) fun a t e=>by
   unfold fR at e;split at e
   ·split at e <;> cases e
   ·exact e⟩
 split at h1
 ·rename_i f caps hev;rw[qN] at h1;have hf:=jM (s:=⟨t.map (fR (jA rw' ids)),bx.map fun c=>c.map (fR (jA rw' ids)),jA rw' ids⟩) ht1 fo;rw[hev] at hf;unfold A.rep at hf;obtain⟨us,hf,hcaps⟩:=hf
  have hrun:(execOp a'.eval od).run c.P w'=.ok (.defer { target:=.fn (.func f) us,args:=xs.map a'.eval }) w':=by simp[execOp,hop,resolve,Deferred.ofValue,hf,Result.andThen]
  unfold Oper.wp;rw[hrun,Oper.upon_defer];rw[hd];refine hKc _ _ (hk _ _ _ _ _ h1 ⟨⟨C',E.β,E.ρ⟩,hp2,ht1,{ target:=.fn (.func f) us,args:=xs.map a'.eval },a'.defers,us,rfl,rfl,?_,hd1⟩);have:=A.repL_append (nD (s:=⟨t.map (fR (jA rw' ids)),bx.map fun c=>c.map (fR (jA rw' ids)),jA rw' ids⟩) ht1 xs.toList) hcaps;simpa using this
 ·exact h1.elim
end
theorem jmn{P:Program}{f:Nat}{args args':List A}{s:S}{K:S->Prop}{post:List (List A)->Nat->List A->A->Prop}(i g m:Nat)(ids:List Nat)(hm:s.rw.length=m){e k n:Nat}{cs c0 c1:List A}(hi:s.bx[i]?=some c0)(hg:(jA s.rw ids)[g]?=some (.live e k n cs))(h1:kE [i] g (jA s.rw ids) c0=some c1)(h2:kE [i] g (jA s.rw ids) args=some args')(hs:jhK P f [c1] e k n cs args' post)
  (hk:∀o n' cs' r,post [o] n' cs' r->fZ [i] m s.bx [i] [o] fun bx'=>zV (backG [i] m r) fun r'=>qA ((jA s.rw ids).set g .gone++[.live e k n' cs']) fun rw'=>kT s bx' rw' K):joS P f args s K:=by
 subst hm;unfold joS;have hil:=(List.getElem?_eq_some_iff.1 hi).1;refine⟨hs.r.1,[i],ids,g,e,k,n,cs,[c1],args',post,by simp,by simpa using hil,hg,?_,h2,fun _=>hs.d .returning,fun outs n' cs' r hp hl=>?_⟩
 ·have:s.bx.getD i []=c0:=by simp[List.getD_eq_getElem?_getD,hi]
  simp only[List.map_cons,List.map_nil,this,bK,h1]
 ·obtain⟨o,rfl⟩:∃o,outs=[o]:=List.length_eq_one_iff.1 (by simpa using hl);exact hk o n' cs' r hp
end
section
def tD(cs:List A):Prop:=∀a∈cs,∃x,a=.v x
theorem jbu:∀{cs:List A} {E F:Env} {us:List Value},tD cs->A.repL cs E us->A.repL cs F us
 |[],_,_,_,_,h=>h
 |a::l,E,F,us,hp,h=>by
  unfold A.repL at h ⊢;obtain⟨u,us',rfl,h1,h2⟩:=h;obtain⟨x,rfl⟩:=hp a List.mem_cons_self;refine⟨u,us',rfl,?_,jbu (fun b hb=>hp b (List.mem_cons_of_mem _ hb)) h2⟩;rw[A.rep_v_iff] at h1 ⊢;exact h1
theorem jdv{w:World}{E F:Env}{b:Nat}{cs:List A}(h:boxAt w E b cs)(hp:tD cs):boxAt w F b cs:=by
 obtain⟨T,arr,h1,h2,h3⟩:=h
 have e:n9 cs=cs:=yI fun t r e=>by
  subst e;obtain⟨x,hx⟩:=hp _ List.mem_cons_self;cases hx
 refine⟨T,arr,h1,?_,h3⟩;rw[e] at h2 ⊢;exact A.repC_mk (jbu hp (A.repC_L h2)) (A.repC_one h2)
def jlK(P:Program)(f:Nat)(args:List A)(post:List A->Prop):Prop :=
 (∀vs w,(callFunc f vs).run P w=.ok (.enter f vs) w) ∧
 ∀(w:World) (C:Rd) (vals:List Value),Gok C w->Sub C (kQ w)->A.repL args ⟨C,[],[]⟩ vals →
  Calls P f vals.toArray w (fun e w'=>∃cs b,e=.returned (.pointer (some ⟨b,0,none⟩))/\post cs/\tD cs/\Keeps [] w w'/\w.heap.size<=b/\boxAt w' ⟨C,[],[]⟩ b cs)
section
variable{w0:W0}{C0:Rd}{β0:List Nat}{bx:List (List A)}{rw:List Row}{w w':World}{E:Env}
theorem Hp.boxN(h:Hp w0 C0 β0 bx rw w E)(k:Keeps [] w w'){b:Nat}(hb:w.heap.size<=b){cs:List A}(hbox:boxAt w' E b cs) :
  Hp w0 C0 β0 (bx++[cs]) rw w' ⟨E.C,E.β++[b],E.ρ⟩/\E.le ⟨E.C,E.β++[b],E.ρ⟩:=by
 have le:E.le ⟨E.C,E.β++[b],E.ρ⟩:=⟨Sub.refl _,fun i b' hb'=>by
  have:=(List.getElem?_eq_some_iff.1 hb').1
  rw[List.getElem?_append_left this];exact hb',fun _ _ h=>h⟩
 have g:=(h.call (Y:=[]) (by simp) k (Sub.refl _) (fun ad u hc=>k.cell (h.sub ad u hc) (by simp)) (fun _ _ hc=>.inl hc) rfl (fun i b cs h1 h2=>.inr ⟨by simp,h2⟩)).1
 have hnone:∀o sp,E.C ⟨b,o,sp⟩=none:=fun o sp=>by
  cases hc:E.C ⟨b,o,sp⟩ with
  |none=>rfl
  |some u=>have:=h.clt hc;simp at this;omega
 refine⟨⟨g.sub,g.base,g.fresh,?_,?_,fun b' hb'=>?_,by simp[g.bl],fun i b' cs' h1 h2=>?_,g.rl,fun a r y h1 h2=>?_,fun a e k n cs y b' h1 h2 h3=>?_,g.rd,g.rs,g.keep,g.gk⟩,le⟩
 ·obtain⟨β',hβ,hβ'⟩:=h.bp;refine⟨β'++[b],by rw[hβ];simp,fun b' hb'=>?_⟩;rcases List.mem_append.1 hb' with h1|h1
  ·exact hβ' b' h1
  ·simp at h1;rw[h1];exact Nat.le_trans h.keep.size hb
 ·refine List.nodup_append.2 ⟨h.bnd,by simp,fun a ha b' hb'=>?_⟩;simp at hb';have:=h.blt ha;omega
 ·rcases List.mem_append.1 hb' with h1|h1
  ·exact h.bC b' h1
  ·simp at h1;subst h1;exact hnone
 ·by_cases hi:i<E.β.length
  ·rw[List.getElem?_append_left hi] at h1;rw[List.getElem?_append_left (by rw[h.bl];exact hi)] at h2;exact(g.bxs i b' cs' h1 h2).mono le
  ·rw[List.getElem?_append_right (by omega)] at h1;rw[List.getElem?_append_right (by rw[h.bl];omega)] at h2
   have hi0:i-E.β.length=0:=by
    have:=(List.getElem?_eq_some_iff.1 h1).1;simp at this;omega
   rw[hi0] at h1;rw[h.bl,hi0] at h2;simp at h1 h2;subst h1;subst h2;exact hbox.mono le
 ·exact(g.rws a r y h1 h2).mono le (fun _ _ _ _ _ _ _=>rfl)
 ·refine⟨fun hb'=>?_,(h.rC a e k n cs y b' h1 h2 h3).2⟩;rcases List.mem_append.1 hb' with h4|h4
  ·exact(h.rC a e k n cs y b' h1 h2 h3).1 h4
  ·have:=(h.rlt h1 h2 h3).2;simp at h4;omega
end
def jpM(c:Cx)(rv:List ResultVar)(post:List A->Prop)(s:S):Prop:=jiP c.T s rv fun r=>∃j cs,r=.box j 0/\s.bx[j]?=some cs/\tD cs/\post cs
def juE(c:Cx)(rv:List ResultVar)(post:List A->Prop)(e:Exit)(s:S):Prop :=
 match e with
 |.ret=>jpM c rv post s
 |.normal=>jpM c rv post s
 |_=>False
section
variable{c:Cx}{w0:W0}{C0:Rd}{β0:List Nat}{s:S}{a:Act}{w:World}{E:Env}
theorem jo6{f:Nat}{fn:Func}{x:Code}{args:List A}{post:List A->Prop}(hc:c.ok)(hq:∀ch s,¬c.pan ch s)(hf:c.P.funcs[f]?=some fn)(hb:fn.body=some x)(hname:(fn.name == "runtime.NumGoroutine")=false)
  (hn:c.np=0) (hord:kD c.ord x=true) (h:nN args->yM args (fn.ntmps-args.length) fun t=>sG c x ⟨t,[],[]⟩ (juE c fn.results.toList post)):jlK c.P f args post:=by
 refine⟨nC hf hb hname,fun w C vals h0 h1 h6=>?_⟩;have hl:=A.repL_len h6;refine calls_of_wp hf hb ?_;have hinit:=z6 hc hord (initK_iff.1 (h (kZ _ h6)))
 have hinv:Inv [] (.of w) C [] ⟨args++List.replicate (fn.ntmps-args.length) .dead,[],[]⟩ { tmps:=vals.toArray++Array.replicate (fn.ntmps-vals.toArray.size) undef,defers:=[] } w:=by
  refine⟨⟨C,[],[]⟩,⟨h1,Sub.refl _,fun _ _ hc=>.inl hc,⟨[],by simp,by simp⟩,List.nodup_nil,by simp,rfl,fun i b cs hi=>by simp at hi,rfl,fun g r y hg=>by simp at hg,fun g e k n cs y b hg=>by simp at hg,fun g e k n cs y h' e' k' n' cs' z b _ hg=>by simp at hg,fun g y hg=>by simp at hg,Keeps.refl _ _,jg5 h0⟩,?_,rfl⟩
  have:(vals.toArray++Array.replicate (fn.ntmps-vals.toArray.size) undef).toList=vals++List.replicate (fn.ntmps-args.length) undef:=by simp[hl]
  rw[this];exact A.repL_append h6 (vA _ _)
 unfold Ok OkD at hinit;refine hinit (.of w) C [] _ w _ (by rw[hn];rfl) hinv (fun ch s' _ _ h _=>absurd h (hq ch s')) ?_
 have fin:∀(s':S) (a':Act) (w':World),jpM c fn.results.toList post s'->Inv [] (.of w) C [] s' a' w'->a'.defers=[]/\∃v,(results fn a'.tmps).run c.P w'=.ok v w'/\∃cs b,Ending.returned v=.returned (.pointer (some ⟨b,0,none⟩))/\post cs/\tD cs/\Keeps [] w w'/\w.heap.size<=b/\boxAt w' ⟨C,[],[]⟩ b cs:=fun s' a' w' hr ⟨E,hp,ht,hd⟩=>by
  unfold jpM at hr;obtain⟨r,v,⟨j,cs,rfl,g1,g2,g3⟩,g4,g5⟩:=r5 (fn:=fn) hc hp ht hr;unfold A.rep at g4;obtain⟨b,g6,rfl⟩:=g4;obtain⟨β',hβ,hβ'⟩:=hp.bp;refine⟨hd,_,g5,cs,b,rfl,g3,g2,hp.keep0,hβ' b ?_,jdv (hp.bxs j b cs g6 g1) g2⟩;rw[List.nil_append] at hβ;rw[<- hβ];exact List.mem_iff_getElem?.2 ⟨j,g6⟩
 intro e s' a' w' hq hi
 cases e with
 |normal=>exact fin s' a' w' hq hi
 |ret=>exact fin s' a' w' hq hi
 |_=>exact hq.elim
end
end
@[irreducible] def mkA(l:List (Int×A)):List A:=l.map fun p=>.v (.int .i64 p.1)
@[irreducible] def u9(l:List (Int×A)):List Value:=l.map fun p=>.int .i64 p.1
@[irreducible] def pX(l:List (Int×A)):List A:=l.map (·.2)
theorem jpp:mkA []=[]:=by unfold mkA;rfl
theorem jpr:pX []=[]:=by unfold pX;rfl
theorem bF(l:List (Int×A)){K:List Value->Prop}(h:K (u9 l)):oD (mkA l) K:=by
 unfold u9 at h;unfold mkA
 induction l generalizing K with
 |nil=>exact h
 |cons p l ih =>
  rw[List.map_cons]
  show oD (l.map _) fun r=>K (.int .i64 p.1::r)
  exact ih (K:=fun r=>K (.int .i64 p.1::r)) h
def wK(l:List (Int×A))(k:Int):Option A:=(l.find? fun p=>decide (k=p.1)).map (·.2)
theorem kI(l:List (Int×A))(k:Int){K:A->Prop}{n:Prop}(h:match wK l k with|some a=>K a|none=>n):g9 false (u9 l) (pX l) (.int .i64 k) K n:=by
 unfold u9 pX
 induction l with
 |nil=>exact h
 |cons p l ih =>
  rw[List.map_cons,List.map_cons];show ifK (decide (k=p.1)) (zV p.2 K) (g9 false (l.map _) (l.map (·.2)) (.int .i64 k) K n);rw[ifK_iff];by_cases e:k=p.1
  ·refine⟨fun _=>?_,fun e2=>by rw[jJ e] at e2;cases e2⟩
   have:wK (p::l) k=some p.2:=by unfold wK;rw[List.find?_cons_of_pos (by simpa using e)];rfl
   rw[this] at h;exact force_iff.2 h
  ·refine⟨fun e2=>absurd (of_decide_eq_true e2) e,fun _=>ih ?_⟩
   have:wK (p::l) k=wK l k:=by unfold wK;rw[List.find?_cons_of_neg (by simpa using e)]
   rw[<- this];exact h
theorem jd3{l:List (Int×A)}{k:Int}{x:A}{n:Nat}{K:List A->List A->Nat->Prop}(hk:∀p∈l,k≠p.1)(h:K (mkA (l++[(k,x)])) (pX (l++[(k,x)])) (n+1)):jig false (.int .i64 k) x (mkA l) (pX l) n K:=by
 unfold mkA pX at h;unfold mkA pX
 induction l generalizing K with
 |nil=>exact h
 |cons p l ih =>
  rw[List.map_cons,List.map_cons];show ifK (decide (k=p.1)) _ (jig false (.int .i64 k) x (l.map _) (l.map (·.2)) n fun ks' vs' n'=>K (.v (.int .i64 p.1)::ks') (p.2::vs') n');rw[ifK_iff];refine⟨fun e=>absurd (of_decide_eq_true e) (hk p List.mem_cons_self),fun _=>ih (K:=fun ks' vs' n'=>K (.v (.int .i64 p.1)::ks') (p.2::vs') n') (fun q hq=>hk q (List.mem_cons_of_mem _ hq)) h⟩
end Go.Proofs.YtdnnmiemgmgffaaGreatDoor.Vm
namespace Go.Proofs.YtdnnmiemgmgffaaGreatDoor
open Go.RowKit
def Asks(w:World)(c:FuncId)(cap:Array Value)(l:List Nd)(q:Nd->Bool):Prop :=
 (∀args w',(callFunc c args).run Tryz.prog w'=.ok (.enter c args) w') ∧
 ∀t∈l,∀v w',Ext w w'->t.At w'.cell? v->Calls Tryz.prog c (#[v]++cap) w' (oO w' (.bool (q t)))
theorem Asks.use{w:World}{c:FuncId}{cap:Array Value}{l:List Nd}{q:Nd->Bool}(h:Asks w c cap l q)(k:Nat)(hk:k<l.length){v:Value}{w':World}(hx:Ext w w')(ht:l[k].At w'.cell? v) :
  Calls Tryz.prog c (#[v]++cap) w' (oO w' (.bool (q l[k]))):=h.2 _ (List.getElem_mem hk) v w' hx ht
def xI(q:Nd->Bool)(l:List Nd):Int:=match l.findIdx? q with|some i=>(i:Int)|none => -1
theorem jmW{q:Nd->Bool}{l:List Nd}{k:Nat}(hk:k<l.length)(h:∀j (hj:j<k),q (l[j]'(by omega))=false)(hq:q l[k]=true):xI q l=(k:Int):=by
 have:l.findIdx? q=some k:=by
  rw[List.findIdx?_eq_some_iff_getElem];exact⟨hk,hq,fun j hj=>by simp[h j hj]⟩
 unfold xI;rw[this]
theorem jkU{q:Nd->Bool}{l:List Nd}(h:∀j (hj:j<l.length),q l[j]=false):xI q l = -1:=by
 have:l.findIdx? q=none:=by
  rw[List.findIdx?_eq_none_iff];intro x hx;obtain⟨j,hj,rfl⟩:=List.mem_iff_getElem.1 hx;simp[h j hj]
 unfold xI;rw[this]
theorem jgc(q:Nd->Bool)(l:List Nd):decide (0<=xI q l)=l.any q:=by
 cases h:l.any q with
 |true =>
  unfold xI
  cases hf:l.findIdx? q with
  |some i=>simp
  |none =>
   rw[List.findIdx?_eq_none_iff] at hf;obtain⟨x,hx,hq⟩:=List.any_eq_true.1 h;rw[hf x hx] at hq;cases hq
 |false =>
  unfold xI
  cases hf:l.findIdx? q with
  |none=>simp
  |some i =>
   rw[List.findIdx?_eq_some_iff_getElem] at hf;obtain⟨hi,hq,_⟩:=hf;rw[List.any_eq_false] at h;exact absurd hq (h _ (List.getElem_mem hi))
theorem jph(q:Nd->Bool)(l:List Nd) : -1<=xI q l/\xI q l<=l.length:=by
 unfold xI
 cases hf:l.findIdx? q with
 |none=>simp
 |some i =>
  rw[List.findIdx?_eq_some_iff_getElem] at hf;obtain⟨hi,_⟩:=hf
  simp;omega
theorem jcf(l:List Nd)(sv:Value)(c:FuncId)(cap:Array Value)(w:World)(q:Nd->Bool)(hl:NdsAt w.cell? sv l)(hf:Asks w c cap l q) :
  Calls Tryz.prog 100 #[sv,.func (.func c) #[] cap] w (oO w (.int .i64 (xI q l))):=by
 obtain⟨hl1,p,b,off,cp,rfl,hc,hp,hn,hin⟩:=hl;have hcf:=hf.1
 go_enter Tryz.func100,Tryz.ntmps100
 go_wp2
 go_loopw [5,8] (fun _ i wr=>∃k:Nat,k<=l.length/\i=.int .i64 k/\Ext w wr/\∀j (hj:j<l.length),j<k->q l[j]=false) (fun _ i _=>l.length-(intOf i).toNat)
 case atStart=>exact⟨0,by omega,rfl,Ext.refl _,fun j hj h=>absurd h (by omega)⟩
 case round =>
  obtain⟨k,hk,rfl,hx,hno⟩:=hrel;have HNO:Hid (∀j (hj:j<l.length),j<k->q l[j]=false):=hno;clear hno;by_cases hlt:k<l.length
  ·obtain rfl:p=some ⟨b,off,none⟩:=by
    rcases hp with rfl|hp
    ·simp at hlt
    ·exact hp
   obtain⟨v0,v1,v2,v3,c0,c1,c2,c3,ht⟩:=Nd.In.get l off hin k hlt
   replace c0:=hx.c c0
   replace c1:=hx.c c1
   replace c2:=hx.c c2
   replace c3:=hx.c c3
   have ht2:=Nd.At.mono hx.sub _ _ ht;have hcall:=Lib.hid (hf.use k hlt hx ht2);clear hin hp hn ht ht2
   obtain⟨qk,hqk⟩:∃qk,qk=q l[k]:=⟨_,rfl⟩
   have HQ:Hid (qk=q l[k]):=hqk;rw[<- hqk] at hcall;clear hqk
   cases qk with
   |true =>
    go_wp2_with (refine hcall.out.mono ?_;rintro e w2 ⟨rfl,hx2⟩)
    go_ret
    have:=jmW hlt (fun j hj=>HNO.out j (by omega) hj) HQ.out.symm;exact⟨by rw[this];rfl,hx.trans hx2⟩
   |false =>
    go_wp2_with (refine hcall.out.mono ?_;rintro e w2 ⟨rfl,hx2⟩)
    go_roundw
    case rel=>exact⟨k+1,by omega,by go_num,hx.trans hx2,fun j hj h=>by
     by_cases hjk:j=k
     ·subst hjk;exact HQ.out.symm
     ·exact HNO.out j hj (by omega)⟩
    case measure=>simp[intOf];omega
  ·have hkl:k=l.length:=by omega
   go_wp2
   go_ret
   exact⟨by rw[jkU (fun j hj=>HNO.out j hj (by omega))];rfl,hx⟩
theorem gF(l:List Nd)(sv:Value)(c:FuncId)(cap:Array Value)(w:World)(q:Nd->Bool)(hl:NdsAt w.cell? sv l)(hf:Asks w c cap l q) :
  Calls Tryz.prog 85 #[sv,.func (.func c) #[] cap] w (oO w (.bool (l.any q))):=by
 have h0:=jgc q l;have h1:=jph q l
 obtain⟨n,hn⟩:∃n,n=xI q l:=⟨_,rfl⟩
 have hcall:=Lib.hid (jcf l sv c cap w q hl hf);rw[<- hn] at hcall h0 h1;obtain⟨h2,h3⟩:=h1;have H0:=Lib.hid h0;clear h0 hn
 go_enter Tryz.func85,Tryz.ntmps85
 go_wp2_with (go_at_call 100;refine hcall.out.mono ?_;rintro e w2 ⟨rfl,hx2⟩)
 go_ret
 exact⟨by rw[<- H0.out];rfl,hx2⟩
section
def MapAt(w:World)(r:Nat)(l:List (ByteArray×Value)):Prop :=
 ∃es c,w.heap[r]?=some (.map es c)/\es.toList.map (fun e=>(e.key,e.val))=l.map (fun p=>(Value.string p.1,p.2))
def s8(l:List (ByteArray×Value))(s:ByteArray):Option Value:=(l.find? (fun p=>s==p.1)).map (·.2)
theorem iQ(s:ByteArray):∀(es:List MapEntry) (l:List (ByteArray×Value)) (i:Nat),es.map (fun e=>(e.key,e.val))=l.map (fun p=>(Value.string p.1,p.2)) →
  ∃r,Instr.findNow .string (.string s) es i=some r/\r.map (·.2)=s8 l s
 |[],[],i,_=>⟨none,by simp[Instr.findNow],by simp[s8]⟩
 |[],_::_,_,h=>by simp at h
 |_::_,[],_,h=>by simp at h
 |e::es,p::l,i,h=>by
  simp only[List.map_cons,List.cons.injEq,Prod.mk.injEq] at h;obtain⟨⟨h1,h2⟩,h3⟩:=h;by_cases hs:s==p.1
  ·exact⟨some (i,e.val),by simp[Instr.findNow,Instr.sameNow,h1,hs],by simp[s8,hs,h2]⟩
  ·obtain⟨r,hr,hr2⟩:=iQ s es l (i+1) h3;refine⟨r,by simp[Instr.findNow,Instr.sameNow,h1,hs,hr],?_⟩;rw[hr2];simp[s8,hs]
section
variable{P:Program}{w:World}{T K E:TypeId}{r:Nat}{l:List (ByteArray×Value)}{s:ByteArray}
theorem pM{es:Array MapEntry}{c:Nat}(h:w.heap[r]?=some (.map es c)):(getObj r).run P w=.ok (.map es c) w:=by
 simp[getObj,Sem.run,h]
theorem jnN(hK:P.underlying K=some .string)(b:Bool)(n:Nat):(Instr.checkKey b (n+1) K (.string s)).run P w=.ok () w:=by
 simp[Instr.checkKey,run_underlying hK]
theorem jbz(hT:P.underlying T=some (.map K E))(hK:P.underlying K=some .string){z:Value}(hz:(zeroValue E).run P w=.ok z w)(h:MapAt w r l) :
  (Instr.lookup T (.map (some r)) (.string s) false).run P w=.ok ((s8 l s).getD z) w:=by
 obtain⟨es,c,hr,hes⟩:=h;obtain⟨x,hx,hx2⟩:=iQ s es.toList l 0 hes
 have hc:∀b,(Instr.checkKey b 10000 K (.string s)).run P w=.ok () w:=fun b=>jnN hK b 9999
 have hf:(Instr.findKey K (.string s) es.toList).run P w=.ok x w:=by simp[Instr.findKey,run_underlying hK,hx]
 rw[<- hx2]
 cases x with
 |none=>simp[Instr.lookup,run_underlying hT,pM hr,hc,hf,hz,Result.andThen]
 |some y=>obtain⟨j,y⟩:=y;simp[Instr.lookup,run_underlying hT,pM hr,hc,hf,Result.andThen]
theorem jbA(hT:P.underlying T=some (.map K E))(hK:P.underlying K=some .string)(v:Value)(h:MapAt w r l)(hn:s8 l s=none) :
  ∃w',(Instr.mapUpdate T (.map (some r)) (.string s) v).run P w=.ok () w'/\w.grownBy w' (some r)/\MapAt w' r (l++[(s,v)]):=by
 obtain⟨es,c,hr,hes⟩:=h;obtain⟨x,hx,hx2⟩:=iQ s es.toList l 0 hes;rw[hn] at hx2
 have hx0:x=none:=by cases x <;> simp_all
 subst hx0
 have hc:∀b,(Instr.checkKey b 10000 K (.string s)).run P w=.ok () w:=fun b=>jnN hK b 9999
 have hf:(Instr.findKey K (.string s) es.toList).run P w=.ok none w:=by simp[Instr.findKey,run_underlying hK,hx]
 have hlt:r<w.heap.size:=(Array.getElem?_eq_some_iff.1 hr).1;refine⟨{ w with heap:=w.heap.setIfInBounds r (.map (es.push { key:=.string s,val:=v,born:=c }) (c+1)) },?_,⟨rfl,rfl,rfl,by simp,fun k hk hne=>?_⟩,es.push { key:=.string s,val:=v,born:=c },c+1,by simp[hlt],?_⟩
 ·simp[Instr.mapUpdate,run_underlying hT,pM hr,hc,hf,Result.andThen,setObj,Sem.run,hr]
 ·have:r≠k:=fun e=>hne (by rw[e])
  simp[Array.getElem?_setIfInBounds_ne this]
 ·simp[hes]
theorem MapAt.ext{w':World}(h:MapAt w r l)(x:Ext w w'):MapAt w' r l:=by
 obtain⟨es,c,hr,hes⟩:=h;exact⟨es,c,x.block hr,hes⟩
theorem MapAt.lt(h:MapAt w r l):r<w.heap.size:=by
 obtain⟨es,c,hr,hes⟩:=h;exact(Array.getElem?_eq_some_iff.1 hr).1
theorem MapAt.made(w:World):MapAt (w.alloc (.map #[] 0)) w.heap.size []:=⟨#[],0,heap_alloc_new w _,by simp⟩
variable{o:Oper}{a:Act}{Kc:Act->World->Prop}{Q:Exit->Act->World->Prop}
theorem jcq(m k x:Operand)(ho:o.op=.mapUpdate T m k x∨o.op=.insert T m k x)(hT:P.underlying T=some (.map K E))(hK:P.underlying K=some .string)(v:Value)
  (hm:a.eval m=.map (some r)) (hk:a.eval k=.string s) (hx:a.eval x=v) (h:MapAt w r l) (hn:s8 l s=none)
  (hc:∀w',w.grownBy w' (some r)->MapAt w' r (l++[(s,v)])->Kc (a.put o.dst undef) w'):o.wp P a w Kc Q:=by
 obtain⟨w',hrun,hg,hM⟩:=jbA (P:=P) hT hK v h hn;unfold Oper.wp;rcases ho with ho|ho
 ·simp[execOp,ho,hm,hk,hx,hrun,Result.andThen];exact hc w' hg hM
 ·simp[execOp,ho,hm,hk,hx,hrun,Result.andThen];exact hc w' hg hM
theorem oM(m k:Operand)(ho:o.op=.lookup T m k false)(hT:P.underlying T=some (.map K E))(hK:P.underlying K=some .string){z:Value}(hz:(zeroValue E).run P w=.ok z w)
  (hm:a.eval m=.map (some r)) (hk:a.eval k=.string s) (h:MapAt w r l) (hc:Kc (a.put o.dst ((s8 l s).getD z)) w):o.wp P a w Kc Q:=by
 have hrun:=jbz (P:=P) (s:=s) hT hK hz h;unfold Oper.wp;simp[execOp,ho,hm,hk,hrun,Result.andThen];exact hc
variable{ops:Array Oper}{rest:List Oper}
theorem jP(hgd:o.guard=none)(m k x:Operand)(ho:o.op=.mapUpdate T m k x∨o.op=.insert T m k x)(hT:P.underlying T=some (.map K E))(hK:P.underlying K=some .string)(v:Value)
  (hm:a.eval m=.map (some r)) (hk:a.eval k=.string s) (hx:a.eval x=v) (h:MapAt w r l) (hn:s8 l s=none)
  (hc:∀w',w.grownBy w' (some r)->MapAt w' r (l++[(s,v)])->wpList P ops Q rest (a.put o.dst undef) w'):wpList P ops Q (o::rest) a w :=
 wpList_plain hgd fun _ hK'=>jcq m k x ho hT hK v hm hk hx h hn fun w' g M=>hK' _ _ (hc w' g M)
end
end
def sg(a b:Int):Value:=.agg #[.int .i64 a,.int .i64 b]
def juo:List (ByteArray×Value):=[(⟨#[45]⟩,sg 1 1),(⟨#[33]⟩,sg 2 2)]
def juV:List (ByteArray×Value):=[(⟨#[38,38]⟩,sg 2 2),(⟨#[124,124]⟩,sg 2 2)]


def jlr(k:Nat):List (ByteArray×Value):=juV++(opsA.take k).map (fun s=>(s,sg 1 1))
def jco(k:Nat):List (ByteArray×Value):=jlr 4++(opsC.take k).map (fun s=>(s,sg 1 2))
def jo2(b:Bool):List (ByteArray×Value):=if b then jco 6 else juo
def jr7(l:List (ByteArray×Value))(v:Value)(w:World):Prop:=∃r,v=.map (some r)/\MapAt w r l
theorem j0:Tryz.prog.underlying 166=some (.map 9 165):=by kernel_rfl
theorem zJ:Tryz.prog.underlying 9=some .string:=by kernel_rfl
theorem Ext.row{a b c:World}{r:Nat}(h:Ext a b)(g:b.grownBy c (some r))(hr:a.heap.size<=r):Ext a c:=Below.grown h g (Below.size h) (by intro k hk;cases hk;exact hr)
theorem jl8(w:World):Calls Tryz.prog 124 #[.bool false] w (Ret w (jr7 juo)):=by
 have hmm := @run_makeMap Tryz.prog;have hM:=MapAt.made w;have hE:Ext w (w.alloc (.map #[] 0)):=(Ext.refl w).alloc _
 go_enter Tryz.func124,Tryz.ntmps124
 go_wp2_with (first
  |(refine jP (r:=w.heap.size) (l:=[]) (s:=⟨#[45]⟩) rfl _ _ _ (.inr rfl) j0 zJ (sg 1 1) rfl rfl rfl hM (by decide +kernel) ?_;intro w2 hg hM2;replace hM:=hM2;clear hM2;replace hE:=hE.row hg (Nat.le_refl _);clear hg)
  |(refine jP (r:=w.heap.size) (l:=[(⟨#[45]⟩,sg 1 1)]) (s:=⟨#[33]⟩) rfl _ _ _ (.inr rfl) j0 zJ (sg 2 2) rfl rfl rfl hM (by decide +kernel) ?_;intro w2 hg hM2;replace hM:=hM2;clear hM2;replace hE:=hE.row hg (Nat.le_refl _);clear hg))
 go_ret
 exact⟨_,rfl,hE,_,rfl,hM⟩
theorem jnq(w:World):Calls Tryz.prog 124 #[.bool true] w (Ret w (jr7 (jco 6))):=by
 have hmm := @run_makeMap Tryz.prog;have hM:=MapAt.made w;have hE:Ext w (w.alloc (.map #[] 0)):=(Ext.refl w).alloc _
 go_enter Tryz.func124,Tryz.ntmps124
 go_wp2_with (first
  |(refine jP (r:=w.heap.size) (l:=[]) (s:=⟨#[38,38]⟩) rfl _ _ _ (.inr rfl) j0 zJ (sg 2 2) rfl rfl rfl hM (by decide +kernel) ?_;intro w2 hg hM2;replace hM:=hM2;clear hM2;replace hE:=hE.row hg (Nat.le_refl _);clear hg)
  |(refine jP (r:=w.heap.size) (l:=[(⟨#[38,38]⟩,sg 2 2)]) (s:=⟨#[124,124]⟩) rfl _ _ _ (.inr rfl) j0 zJ (sg 2 2) rfl rfl rfl hM (by decide +kernel) ?_;intro w2 hg hM2;replace hM:=hM2;clear hM2;replace hE:=hE.row hg (Nat.le_refl _);clear hg))
 have hlt2:=hM.lt;have hB:=heap_alloc_new w2 (.cells #[.string ⟨#[43]⟩,.string ⟨#[45]⟩,.string ⟨#[42]⟩,.string ⟨#[47]⟩] 9)
 replace hM:=hM.ext ((Ext.refl w2).alloc (.cells #[.string ⟨#[43]⟩,.string ⟨#[45]⟩,.string ⟨#[42]⟩,.string ⟨#[47]⟩] 9))
 replace hE:=hE.alloc (.cells #[.string ⟨#[43]⟩,.string ⟨#[45]⟩,.string ⟨#[42]⟩,.string ⟨#[47]⟩] 9)
 go_loopw [20] (fun iv wr=>∃k:Nat,k<=4/\iv=.int .i64 k/\Ext w wr/\wr.heap[w2.heap.size]?=some (.cells #[.string ⟨#[43]⟩,.string ⟨#[45]⟩,.string ⟨#[42]⟩,.string ⟨#[47]⟩] 9 (0,0))/\MapAt wr w.heap.size (jlr k)) (fun iv _=>4-(intOf iv).toNat)
 case atStart=>exact⟨0,by omega,rfl,hE,hB,hM⟩
 case round =>
  clear hM hE hB;obtain⟨k,hk,rfl,hE,hB,hM⟩:=hrel;by_cases hlt:k<4
  ·have hk4:k=0∨k=1∨k=2∨k=3:=by omega
   clear hk hlt;rcases hk4 with rfl|rfl|rfl|rfl
   ·have cS:wr.cell? ⟨w2.heap.size,0,none⟩=some (.string ⟨#[43]⟩):=by simp[World.cell?,hB]
    go_wp2_with (refine jP (r:=w.heap.size) (l:=jlr 0) (s:=⟨#[43]⟩) rfl _ _ _ (.inl rfl) j0 zJ (sg 1 1) rfl rfl rfl hM (by decide +kernel) ?_;intro w3 hg hM2;have hB2:=(hg.block _ (Array.getElem?_eq_some_iff.1 hB).1 (by simp;omega)).trans hB;have hE2:=hE.row hg (Nat.le_refl _);clear hg)
    go_roundw
    case rel=>exact⟨1,by omega,rfl,hE2,hB2,hM2⟩
    case measure=>simp[intOf]
   ·have cS:wr.cell? ⟨w2.heap.size,1,none⟩=some (.string ⟨#[45]⟩):=by simp[World.cell?,hB]
    go_wp2_with (refine jP (r:=w.heap.size) (l:=jlr 1) (s:=⟨#[45]⟩) rfl _ _ _ (.inl rfl) j0 zJ (sg 1 1) rfl rfl rfl hM (by decide +kernel) ?_;intro w3 hg hM2;have hB2:=(hg.block _ (Array.getElem?_eq_some_iff.1 hB).1 (by simp;omega)).trans hB;have hE2:=hE.row hg (Nat.le_refl _);clear hg)
    go_roundw
    case rel=>exact⟨2,by omega,rfl,hE2,hB2,hM2⟩
    case measure=>simp[intOf]
   ·have cS:wr.cell? ⟨w2.heap.size,2,none⟩=some (.string ⟨#[42]⟩):=by simp[World.cell?,hB]
    go_wp2_with (refine jP (r:=w.heap.size) (l:=jlr 2) (s:=⟨#[42]⟩) rfl _ _ _ (.inl rfl) j0 zJ (sg 1 1) rfl rfl rfl hM (by decide +kernel) ?_;intro w3 hg hM2;have hB2:=(hg.block _ (Array.getElem?_eq_some_iff.1 hB).1 (by simp;omega)).trans hB;have hE2:=hE.row hg (Nat.le_refl _);clear hg)
    go_roundw
    case rel=>exact⟨3,by omega,rfl,hE2,hB2,hM2⟩
    case measure=>simp[intOf]
   ·have cS:wr.cell? ⟨w2.heap.size,3,none⟩=some (.string ⟨#[47]⟩):=by simp[World.cell?,hB]
    go_wp2_with (refine jP (r:=w.heap.size) (l:=jlr 3) (s:=⟨#[47]⟩) rfl _ _ _ (.inl rfl) j0 zJ (sg 1 1) rfl rfl rfl hM (by decide +kernel) ?_;intro w3 hg hM2;have hB2:=(hg.block _ (Array.getElem?_eq_some_iff.1 hB).1 (by simp;omega)).trans hB;have hE2:=hE.row hg (Nat.le_refl _);clear hg)
    go_roundw
    case rel=>exact⟨4,by omega,rfl,hE2,hB2,hM2⟩
    case measure=>simp[intOf]
  ·obtain rfl:k=4:=by omega
   clear hk hlt hB
   obtain⟨wo,rfl⟩:∃wo:World,wo=wr:=⟨_,rfl⟩
   go_wp2
   simp only[Int.cast_ofNat_Int];have hlt3:=hM.lt;have hB:=heap_alloc_new wo (.cells #[.string ⟨#[60]⟩,.string ⟨#[60,61]⟩,.string ⟨#[62]⟩,.string ⟨#[62,61]⟩,.string ⟨#[61,61]⟩,.string ⟨#[33,61]⟩] 9)
   replace hM:=hM.ext ((Ext.refl wo).alloc (.cells #[.string ⟨#[60]⟩,.string ⟨#[60,61]⟩,.string ⟨#[62]⟩,.string ⟨#[62,61]⟩,.string ⟨#[61,61]⟩,.string ⟨#[33,61]⟩] 9))
   replace hE:=hE.alloc (.cells #[.string ⟨#[60]⟩,.string ⟨#[60,61]⟩,.string ⟨#[62]⟩,.string ⟨#[62,61]⟩,.string ⟨#[61,61]⟩,.string ⟨#[33,61]⟩] 9)
   have hM0:MapAt (wo.alloc (.cells #[.string ⟨#[60]⟩,.string ⟨#[60,61]⟩,.string ⟨#[62]⟩,.string ⟨#[62,61]⟩,.string ⟨#[61,61]⟩,.string ⟨#[33,61]⟩] 9)) w.heap.size (jco 0):=hM;clear hM
   go_loopw [30] (fun iv wr=>∃k:Nat,k<=6/\iv=.int .i64 k/\Ext w wr/\wr.heap[wo.heap.size]?=some (.cells #[.string ⟨#[60]⟩,.string ⟨#[60,61]⟩,.string ⟨#[62]⟩,.string ⟨#[62,61]⟩,.string ⟨#[61,61]⟩,.string ⟨#[33,61]⟩] 9 (0,0))/\MapAt wr w.heap.size (jco k)) (fun iv _=>6-(intOf iv).toNat)
   case atStart=>exact⟨0,by omega,rfl,hE,hB,hM0⟩
   case round =>
    clear hM0 hE hB;obtain⟨k,hk,rfl,hE,hB,hM⟩:=hrel;by_cases hlt:k<6
    ·have hk6:k=0∨k=1∨k=2∨k=3∨k=4∨k=5:=by omega
     clear hk hlt;rcases hk6 with rfl|rfl|rfl|rfl|rfl|rfl
     ·have cS:wr.cell? ⟨wo.heap.size,0,none⟩=some (.string ⟨#[60]⟩):=by simp[World.cell?,hB]
      go_wp2_with (refine jP (r:=w.heap.size) (l:=jco 0) (s:=⟨#[60]⟩) rfl _ _ _ (.inl rfl) j0 zJ (sg 1 2) rfl rfl rfl hM (by decide +kernel) ?_;intro w3 hg hM2;have hB2:=(hg.block _ (Array.getElem?_eq_some_iff.1 hB).1 (by simp;omega)).trans hB;have hE2:=hE.row hg (Nat.le_refl _);clear hg)
      go_roundw
      case rel=>exact⟨1,by omega,rfl,hE2,hB2,hM2⟩
      case measure=>simp[intOf]
     ·have cS:wr.cell? ⟨wo.heap.size,1,none⟩=some (.string ⟨#[60,61]⟩):=by simp[World.cell?,hB]
      go_wp2_with (refine jP (r:=w.heap.size) (l:=jco 1) (s:=⟨#[60,61]⟩) rfl _ _ _ (.inl rfl) j0 zJ (sg 1 2) rfl rfl rfl hM (by decide +kernel) ?_;intro w3 hg hM2;have hB2:=(hg.block _ (Array.getElem?_eq_some_iff.1 hB).1 (by simp;omega)).trans hB;have hE2:=hE.row hg (Nat.le_refl _);clear hg)
      go_roundw
      case rel=>exact⟨2,by omega,rfl,hE2,hB2,hM2⟩
      case measure=>simp[intOf]
     ·have cS:wr.cell? ⟨wo.heap.size,2,none⟩=some (.string ⟨#[62]⟩):=by simp[World.cell?,hB]
      go_wp2_with (refine jP (r:=w.heap.size) (l:=jco 2) (s:=⟨#[62]⟩) rfl _ _ _ (.inl rfl) j0 zJ (sg 1 2) rfl rfl rfl hM (by decide +kernel) ?_;intro w3 hg hM2;have hB2:=(hg.block _ (Array.getElem?_eq_some_iff.1 hB).1 (by simp;omega)).trans hB;have hE2:=hE.row hg (Nat.le_refl _);clear hg)
      go_roundw
      case rel=>exact⟨3,by omega,rfl,hE2,hB2,hM2⟩
      case measure=>simp[intOf]
     ·have cS:wr.cell? ⟨wo.heap.size,3,none⟩=some (.string ⟨#[62,61]⟩):=by simp[World.cell?,hB]
      go_wp2_with (refine jP (r:=w.heap.size) (l:=jco 3) (s:=⟨#[62,61]⟩) rfl _ _ _ (.inl rfl) j0 zJ (sg 1 2) rfl rfl rfl hM (by decide +kernel) ?_;intro w3 hg hM2;have hB2:=(hg.block _ (Array.getElem?_eq_some_iff.1 hB).1 (by simp;omega)).trans hB;have hE2:=hE.row hg (Nat.le_refl _);clear hg)
      go_roundw
      case rel=>exact⟨4,by omega,rfl,hE2,hB2,hM2⟩
      case measure=>simp[intOf]
     ·have cS:wr.cell? ⟨wo.heap.size,4,none⟩=some (.string ⟨#[61,61]⟩):=by simp[World.cell?,hB]
      go_wp2_with (refine jP (r:=w.heap.size) (l:=jco 4) (s:=⟨#[61,61]⟩) rfl _ _ _ (.inl rfl) j0 zJ (sg 1 2) rfl rfl rfl hM (by decide +kernel) ?_;intro w3 hg hM2;have hB2:=(hg.block _ (Array.getElem?_eq_some_iff.1 hB).1 (by simp;omega)).trans hB;have hE2:=hE.row hg (Nat.le_refl _);clear hg)
      go_roundw
      case rel=>exact⟨5,by omega,rfl,hE2,hB2,hM2⟩
      case measure=>simp[intOf]
     ·have cS:wr.cell? ⟨wo.heap.size,5,none⟩=some (.string ⟨#[33,61]⟩):=by simp[World.cell?,hB]
      go_wp2_with (refine jP (r:=w.heap.size) (l:=jco 5) (s:=⟨#[33,61]⟩) rfl _ _ _ (.inl rfl) j0 zJ (sg 1 2) rfl rfl rfl hM (by decide +kernel) ?_;intro w3 hg hM2;have hB2:=(hg.block _ (Array.getElem?_eq_some_iff.1 hB).1 (by simp;omega)).trans hB;have hE2:=hE.row hg (Nat.le_refl _);clear hg)
      go_roundw
      case rel=>exact⟨6,by omega,rfl,hE2,hB2,hM2⟩
      case measure=>simp[intOf]
    ·obtain rfl:k=6:=by omega
     go_wp2
     go_ret
     exact⟨_,rfl,hE,_,rfl,hM⟩
theorem nA(b:Bool)(w:World):Calls Tryz.prog 124 #[.bool b] w (Ret w (jr7 (jo2 b))):=by
 cases b
 ·exact jl8 w
 ·exact jnq w
def jnv(b:Bool):List (ByteArray×Int×Int) :=
 if b then [(⟨#[38,38]⟩,2,2),(⟨#[124,124]⟩,2,2),(⟨#[43]⟩,1,1),(⟨#[45]⟩,1,1),(⟨#[42]⟩,1,1),(⟨#[47]⟩,1,1),(⟨#[60]⟩,1,2),(⟨#[60,61]⟩,1,2),(⟨#[62]⟩,1,2),(⟨#[62,61]⟩,1,2),(⟨#[61,61]⟩,1,2),(⟨#[33,61]⟩,1,2)]
 else [(⟨#[45]⟩,1,1),(⟨#[33]⟩,2,2)]
def jfb(b:Bool)(s:ByteArray):Int×Int:=(((jnv b).find? (fun p=>s==p.1)).map (·.2)).getD (0,0)
theorem jj0(b:Bool):jo2 b=(jnv b).map (fun p=>(p.1,sg p.2.1 p.2.2)):=by cases b <;> rfl
theorem jdf(b:Bool)(s:ByteArray):(s8 (jo2 b) s).getD (sg 0 0)=sg (jfb b s).1 (jfb b s).2:=by
 rw[jj0];unfold jfb s8;generalize jnv b=l
 induction l with
 |nil=>rfl
 |cons p l ih =>
  by_cases h:s==p.1
  ·simp[h]
  ·simp only[List.map_cons,List.find?_cons,h];exact ih
mutual
def vW:Nd->Int
 |.mk k _ s kids =>
  if k=13 then 2 else if k=12∨k=14∨k=15 then 1
  else if k=17∨k=18 then(if xS (jfb (k==18) s).1 kids then 0 else(jfb (k==18) s).2)
  else if k=16 then(if xS 1 kids then 0 else 1) else 0
def xS(t:Int):List Nd->Bool
 |[]=>false
 |x::xs=>(vW x != t)||xS t xs
end
theorem jiv(t:Int)(l:List Nd):xS t l=l.any (fun x=>vW x != t):=by
 induction l with
 |nil=>simp[xS]
 |cons x xs ih=>simp[xS,ih]
def TypeOfC(t:Nd):Prop:=∀v w,t.At w.cell? v->Calls Tryz.prog 102 #[v] w (oO w (.int .i64 (vW t)))
theorem TypeOfC.use{t:Nd}(h:TypeOfC t){v:Value}{w:World}(ht:t.At w.cell? v):Calls Tryz.prog 102 #[v] w (oO w (.int .i64 (vW t))):=h v w ht
theorem jng(w:World)(a b c d:Value)(T:TypeId):(w.alloc (.cells #[a,b,c,d] T)).heap[w.heap.size]?=some (.cells #[a,b,c,d] T (0,0)):=heap_alloc_new w _
theorem jlP(x:Nd)(ih:TypeOfC x)(v:Value)(p:Addr)(t:Int)(w:World)(hv:x.At w.cell? v)(hc:w.cell? p=some (.int .i64 t)) :
  Calls Tryz.prog 125 #[v,.pointer (some p)] w (oO w (.bool (vW x != t))):=by
 have IH:Hid (TypeOfC x):=ih;have hA:=hv;obtain⟨kv,rfl,-⟩:=hv.parts;have hne:p.block<w.heap.size:=World.block_lt_of_cell? w p hc;have hA1:Hid (x.At (w.alloc (.cells #[.int .i64 x.k,.int .i64 x.n,.string x.s,kv] 45)).cell? (.agg #[.int .i64 x.k,.int .i64 x.n,.string x.s,kv])):=Nd.At.mono (((Ext.refl w).alloc _).sub) _ _ hA;obtain⟨c0,c1,c2,c3,-⟩:=sM (jng w (.int .i64 x.k) (.int .i64 x.n) (.string x.s) kv 45);have hcp:=((Ext.refl w).alloc (.cells #[.int .i64 x.k,.int .i64 x.n,.string x.s,kv] 45)).c hc
 obtain⟨ty,hty⟩:∃ty,ty=vW x:=⟨_,rfl⟩
 have HT:Hid (ty=vW x):=hty;clear ih hA hty hc hv
 go_enter Tryz.func125,Tryz.ntmps125
 go_wp2_with fail
 refine cQ (fun w'=>w'.cell? ⟨w.heap.size,0,none⟩=some (.int .i64 x.k)/\w'.cell? ⟨w.heap.size,1,none⟩=some (.int .i64 x.n)/\w'.cell? ⟨w.heap.size,2,none⟩=some (.string x.s)/\w'.cell? ⟨w.heap.size,3,none⟩=some kv/\w'.cell? p=some (.int .i64 t)) [(0,0),(2,0),(1,1),(3,3),(4,3)] (by kernel_rfl) (by kernel_rfl) ?_ (fun hS=>?_)
 ·first|go_keep|exact⟨hx2.c c0,hx2.c c1,hx2.c c2,hx2.c c3,hx2.c hcp⟩
 refine dW rfl hS (by rfl) ?_;apply Exists.intro;refine⟨fun w0 hS0=>?_,?_⟩
 ·(try dsimp only at hS0);go_simp;try with_reducible rfl
 simp only[List.getElem_toArray,List.getElem_cons_zero,List.getElem_cons_succ,Act.put,List.setIfInBounds_toArray,List.set_cons_zero,List.set_cons_succ];refine dW rfl hS (by rfl) ?_;apply Exists.intro;refine⟨fun w0 hS0=>?_,?_⟩
 ·(try dsimp only at hS0);go_simp;try with_reducible rfl
 simp only[List.getElem_toArray,List.getElem_cons_zero,List.getElem_cons_succ,Act.put,List.setIfInBounds_toArray,List.set_cons_zero,List.set_cons_succ];refine dX rfl (fun K hK=>?_);rw[if_pos (by rfl)]
 go_wp2_with (first
  |(go_at_call 102;refine(IH.out.use (Nd.At.mono (((Ext.refl _).drew).sub) _ _ hA1.out)).mono ?_;rintro e w2 ⟨rfl,hx2⟩;rw[<- HT.out]))
 refine iJ (by first|go_keep|exact⟨hx2.c c0,hx2.c c1,hx2.c c2,hx2.c c3,hx2.c hcp⟩) (fun hS=>?_);refine nR rfl (by rfl) ?_;apply Exists.intro;refine⟨fun w0=>?_,?_⟩
 ·go_simp;try with_reducible rfl
 simp only[List.getElem_toArray,List.getElem_cons_zero,List.getElem_cons_succ,Act.put,List.setIfInBounds_toArray,List.set_cons_zero,List.set_cons_succ];refine nR rfl (by rfl) ?_;apply Exists.intro;refine⟨fun w0=>?_,?_⟩
 ·go_simp;try with_reducible rfl
 simp only[List.getElem_toArray,List.getElem_cons_zero,List.getElem_cons_succ,Act.put,List.setIfInBounds_toArray,List.set_cons_zero,List.set_cons_succ];refine jfa ?_
 go_wp2
 go_ret
 exact⟨by rw[<- HT.out];rfl,(((Ext.refl w).alloc _).drew).trans hx2⟩
theorem joX(l:List Nd)(sv:Value)(t:Int)(w:World)(hl:NdsAt w.cell? sv l)(ih:∀x∈l,TypeOfC x) :
  Calls Tryz.prog 103 #[sv,.int .i64 t] w (oO w (.bool (!xS t l))):=by
 have x0:Ext w (w.alloc (.cells #[.int .i64 t] 141)):=(Ext.refl w).alloc _;have hc:(w.alloc (.cells #[.int .i64 t] 141)).cell? ⟨w.heap.size,0,none⟩=some (.int .i64 t):=jfE w [.int .i64 t] _ 0 _ rfl
 have hasks:Asks (w.alloc (.cells #[.int .i64 t] 141)) 125 #[.pointer (some ⟨w.heap.size,0,none⟩)] l (fun x=>vW x != t) :=
  ⟨fun _ _=>rfl,fun x hx v w' hx' hA=>jlP x (ih x hx) v ⟨w.heap.size,0,none⟩ t w' hA (hx'.c hc)⟩
 have hcall:=Lib.hid (gF l sv _ _ _ _ (hl.mono x0.sub) hasks);rw[<- jiv] at hcall
 obtain⟨q,hq⟩:∃q,q=xS t l:=⟨_,rfl⟩
 rw[<- hq] at hcall ⊢;clear hq hasks hc ih hl
 go_enter Tryz.func103,Tryz.ntmps103
 go_wp2_with (go_at_call 85;refine hcall.out.mono ?_;rintro e w2 ⟨rfl,hx2⟩)
 go_ret
 exact⟨rfl,x0.trans hx2⟩
theorem jhF(w:World):(zeroValue 165).run Tryz.prog w=.ok (sg 0 0) w:=by kernel_rfl
theorem jsc(w:World)(a b:Value)(T:TypeId):(w.alloc (.cells #[a,b] T)).heap[w.heap.size]?=some (.cells #[a,b] T (0,0)):=heap_alloc_new w _
theorem oW{w:World}{R:Nat}{a b:Value}{T:TypeId}(h:w.heap[R]?=some (.cells #[a,b] T (0,0))) :
  w.cell? ⟨R,0,none⟩=some a/\w.cell? ⟨R,1,none⟩=some b/\w.frozen? ⟨R,0,none⟩=false/\w.frozen? ⟨R,1,none⟩=false:=by
 simp[World.cell?,World.frozen?,h]
theorem joW{l:List Nd}{sv:Value}{w wk:World}(hl:NdsAt w.cell? sv l)(ih:∀x∈l,TypeOfC x)(t:Int){q:Bool}(hq:q=xS t l)(hE:Ext w wk) :
  Calls Tryz.prog 103 #[sv,.int .i64 t] wk (oO wk (.bool (!q))):=by
 rw[hq];exact joX l sv t wk (hl.mono hE.sub) ih
theorem jhw(k n:Int)(s:ByteArray)(l:List Nd)(hk:k=12∨k=13∨k=14∨k=15):TypeOfC (.mk k n s l):=by
 intro v w ht;obtain⟨kv,rfl,-⟩:=ht.parts;clear ht;rcases hk with rfl|rfl|rfl|rfl
 all_goals
  go_enter Tryz.func102,Tryz.ntmps102
  go_wp2
  go_ret
  exact⟨rfl,((Ext.refl w).alloc _).alloc _⟩
theorem jfh(k n:Int)(s:ByteArray)(l:List Nd)(hk:k≠12/\k≠13/\k≠14/\k≠15/\k≠16/\k≠17/\k≠18):TypeOfC (.mk k n s l):=by
 intro v w ht;obtain⟨kv,rfl,-⟩:=ht.parts;clear ht;simp only[Nd.k];obtain⟨h1,h2,h3,h4,h5,h6,h7⟩:=hk
 have e:vW (.mk k n s l)=0:=by simp[vW,h1,h2,h3,h4,h5,h6,h7]
 rw[e]
 go_enter Tryz.func102,Tryz.ntmps102
 go_wp2
 go_ret
 exact⟨rfl,((Ext.refl w).alloc _).alloc _⟩
theorem jhv(n:Int)(s:ByteArray)(l:List Nd)(ih:∀x∈l,TypeOfC x):TypeOfC (.mk 16 n s l):=by
 intro v w ht;obtain⟨kv,rfl,-,-,-,hl⟩:=ht.parts;simp only[Nd.k,Nd.n,Nd.s,Nd.kids] at *
 obtain⟨q,hq⟩:∃q,q=xS 1 l:=⟨_,rfl⟩
 have e:vW (.mk 16 n s l)=if q then 0 else 1:=by simp[vW,hq]
 have hcall:=fun(wk:World) (hE:Ext w wk)=>joW hl ih 1 hq hE
 have HC:=Lib.hid hcall;rw[e];clear e hq hl ht ih hcall;have hE:=((Ext.refl w).alloc (.cells #[.int .i64 16,.int .i64 n,.string s,kv] 45)).alloc (.cells #[.int .i64 1,.int .i64 1] 165);have hV:=jsc (w.alloc (.cells #[.int .i64 16,.int .i64 n,.string s,kv] 45)) (.int .i64 1) (.int .i64 1) 165;simp only[World.size_alloc] at hV;cases q
 all_goals
  go_enter Tryz.func102,Tryz.ntmps102
  go_wp2_with (go_at_call 103;refine(HC.out _ hE).mono ?_;rintro e w2 ⟨rfl,hx2⟩;obtain⟨cV0,cV1,fV0,fV1⟩:=oW (Ext.block hx2 hV))
  go_ret
  exact⟨rfl,hE.trans hx2⟩
theorem jhx(n:Int)(s:ByteArray)(l:List Nd)(ih:∀x∈l,TypeOfC x):TypeOfC (.mk 17 n s l):=by
 intro v w ht;obtain⟨kv,rfl,-,-,-,hl⟩:=ht.parts;simp only[Nd.k,Nd.n,Nd.s,Nd.kids] at *
 obtain⟨o1,ho1⟩:∃o1,o1=(jfb false s).1:=⟨_,rfl⟩
 obtain⟨o2,ho2⟩:∃o2,o2=(jfb false s).2:=⟨_,rfl⟩
 obtain⟨q,hq⟩:∃q,q=xS o1 l:=⟨_,rfl⟩
 have e:vW (.mk 17 n s l)=if q then 0 else o2:=by
  simp[vW,hq,ho1,ho2]
 have hlk:(s8 (jo2 false) s).getD (sg 0 0)=.agg #[.int .i64 o1,.int .i64 o2]:=by rw[jdf,ho1,ho2];rfl
 have HL:=Lib.hid hlk
 have hcall:=fun(wk:World) (hE:Ext w wk)=>joW hl ih o1 hq hE
 have HC:=Lib.hid hcall;rw[e];clear e hq hl ht ih hcall ho1 ho2 hlk;have hE:=((Ext.refl w).alloc (.cells #[.int .i64 17,.int .i64 n,.string s,kv] 45)).alloc (.cells #[.int .i64 1,.int .i64 1] 165);have hB:=Ext.block ((Ext.refl _).alloc (.cells #[.int .i64 1,.int .i64 1] 165)) (jng w (.int .i64 17) (.int .i64 n) (.string s) kv 45);have hV:=jsc (w.alloc (.cells #[.int .i64 17,.int .i64 n,.string s,kv] 45)) (.int .i64 1) (.int .i64 1) 165;simp only[World.size_alloc] at hV;cases q
 all_goals
  obtain⟨c0,c1,c2,c3,-⟩:=sM hB
  go_enter Tryz.func102,Tryz.ntmps102
  go_wp2_with fail
  refine cQ (fun w'=>w'.cell? ⟨w.heap.size,0,none⟩=some (.int .i64 17)/\w'.cell? ⟨w.heap.size,2,none⟩=some (.string s)) [(0,3),(1,0),(2,3),(4,3),(5,0),(3,1),(6,1),(7,2)] (by kernel_rfl) (by kernel_rfl) ?_ (fun hS=>?_)
  ·first|go_keep|exact⟨hx2.c c0,hx2.c c2⟩
  refine nR rfl (by rfl) ?_;apply Exists.intro;refine⟨fun w0=>?_,?_⟩
  ·go_simp;try with_reducible rfl
  simp only[List.getElem_toArray,List.getElem_cons_zero,List.getElem_cons_succ,Act.put,List.setIfInBounds_toArray,List.set_cons_zero,List.set_cons_succ];refine dW rfl hS (by rfl) ?_;apply Exists.intro;refine⟨fun w0 hS0=>?_,?_⟩
  ·(try dsimp only at hS0);go_simp;try with_reducible rfl
  simp only[List.getElem_toArray,List.getElem_cons_zero,List.getElem_cons_succ,Act.put,List.setIfInBounds_toArray,List.set_cons_zero,List.set_cons_succ];refine nR rfl (by rfl) ?_;apply Exists.intro;refine⟨fun w0=>?_,?_⟩
  ·go_simp;try with_reducible rfl
  simp only[List.getElem_toArray,List.getElem_cons_zero,List.getElem_cons_succ,Act.put,List.setIfInBounds_toArray,List.set_cons_zero,List.set_cons_succ];refine nR rfl (by rfl) ?_;apply Exists.intro;refine⟨fun w0=>?_,?_⟩
  ·go_simp;try with_reducible rfl
  simp only[List.getElem_toArray,List.getElem_cons_zero,List.getElem_cons_succ,Act.put,List.setIfInBounds_toArray,List.set_cons_zero,List.set_cons_succ];refine dW rfl hS (by rfl) ?_;apply Exists.intro;refine⟨fun w0 hS0=>?_,?_⟩
  ·(try dsimp only at hS0);go_simp;try with_reducible rfl
  simp only[List.getElem_toArray,List.getElem_cons_zero,List.getElem_cons_succ,Act.put,List.setIfInBounds_toArray,List.set_cons_zero,List.set_cons_succ];refine dX rfl (fun K hK=>?_);rw[if_pos (by rfl)]
  go_wp2_with (first
   |(go_at_call 124;refine(nA _ _).mono ?_;rintro e w2 ⟨v,rfl,hx2,r,rfl,hM⟩;have hV2:=Ext.block hx2 hV;obtain⟨cV0,cV1,fV0,fV1⟩:=oW hV2))
  refine iJ (by first|go_keep|exact⟨hx2.c c0,hx2.c c2⟩) (fun hS=>?_);refine dX rfl (fun K hK=>?_);rw[if_pos (by rfl)];refine oM (r:=r) _ _ (by rfl) j0 zJ (jhF _) (by rfl) (by rfl) hM ?_;rw[HL.out];refine hK _ _ ?_;refine iJ (by first|go_keep|exact⟨hx2.c c0,hx2.c c2⟩) (fun hS=>?_);refine jdL rfl (fun K hK=>?_);rw[if_pos (by rfl)]
  go_wp2_with (first
   |(go_at_call 124;refine(nA _ _).mono ?_;rintro e w2 ⟨v,rfl,hx2,r,rfl,hM⟩;have hV2:=Ext.block hx2 hV;obtain⟨cV0,cV1,fV0,fV1⟩:=oW hV2))
  refine jfa ?_;have hE3:=((hE.drew.trans hx2).row (xY w2 (w.heap.size+1) 0 (.int .i64 o1)) (by omega)).row (xY _ (w.heap.size+1) 1 (.int .i64 o2)) (by omega);have hV3:=mS (mS hV2 0 (.int .i64 o1)) 1 (.int .i64 o2);have hKids:=hx2.c c3;have hKids3:=(xY (w2.setCell ⟨w.heap.size+1,0,none⟩ (.int .i64 o1)) (w.heap.size+1) 1 (.int .i64 o2)).cell ((xY w2 (w.heap.size+1) 0 (.int .i64 o1)).cell hKids (by simp)) (by simp);obtain⟨cW0,cW1,fW0,fW1⟩:=oW hV3;clear hS hV hV2 hx2 hM hKids cV0 cV1 fV0 fV1 c0 c1 c2 c3 hB hE
  go_wp2_with (go_at_call 103;refine(HC.out _ hE3).mono ?_;rintro e w4 ⟨rfl,hx4⟩;have cX1:=hx4.c cW1)
  go_ret
  exact⟨rfl,hE3.trans hx4⟩
theorem jhy(n:Int)(s:ByteArray)(l:List Nd)(ih:∀x∈l,TypeOfC x):TypeOfC (.mk 18 n s l):=by
 intro v w ht;obtain⟨kv,rfl,-,-,-,hl⟩:=ht.parts;simp only[Nd.k,Nd.n,Nd.s,Nd.kids] at *
 obtain⟨o1,ho1⟩:∃o1,o1=(jfb true s).1:=⟨_,rfl⟩
 obtain⟨o2,ho2⟩:∃o2,o2=(jfb true s).2:=⟨_,rfl⟩
 obtain⟨q,hq⟩:∃q,q=xS o1 l:=⟨_,rfl⟩
 have e:vW (.mk 18 n s l)=if q then 0 else o2:=by
  simp[vW,hq,ho1,ho2]
 have hlk:(s8 (jo2 true) s).getD (sg 0 0)=.agg #[.int .i64 o1,.int .i64 o2]:=by rw[jdf,ho1,ho2];rfl
 have HL:=Lib.hid hlk
 have hcall:=fun(wk:World) (hE:Ext w wk)=>joW hl ih o1 hq hE
 have HC:=Lib.hid hcall;rw[e];clear e hq hl ht ih hcall ho1 ho2 hlk;have hE:=((Ext.refl w).alloc (.cells #[.int .i64 18,.int .i64 n,.string s,kv] 45)).alloc (.cells #[.int .i64 1,.int .i64 1] 165);have hB:=Ext.block ((Ext.refl _).alloc (.cells #[.int .i64 1,.int .i64 1] 165)) (jng w (.int .i64 18) (.int .i64 n) (.string s) kv 45);have hV:=jsc (w.alloc (.cells #[.int .i64 18,.int .i64 n,.string s,kv] 45)) (.int .i64 1) (.int .i64 1) 165;simp only[World.size_alloc] at hV;cases q
 all_goals
  obtain⟨c0,c1,c2,c3,-⟩:=sM hB
  go_enter Tryz.func102,Tryz.ntmps102
  go_wp2_with fail
  refine cQ (fun w'=>w'.cell? ⟨w.heap.size,0,none⟩=some (.int .i64 18)/\w'.cell? ⟨w.heap.size,2,none⟩=some (.string s)) [(0,3),(1,0),(2,3),(4,3),(5,0),(3,1),(6,1),(7,2)] (by kernel_rfl) (by kernel_rfl) ?_ (fun hS=>?_)
  ·first|go_keep|exact⟨hx2.c c0,hx2.c c2⟩
  refine nR rfl (by rfl) ?_;apply Exists.intro;refine⟨fun w0=>?_,?_⟩
  ·go_simp;try with_reducible rfl
  simp only[List.getElem_toArray,List.getElem_cons_zero,List.getElem_cons_succ,Act.put,List.setIfInBounds_toArray,List.set_cons_zero,List.set_cons_succ];refine dW rfl hS (by rfl) ?_;apply Exists.intro;refine⟨fun w0 hS0=>?_,?_⟩
  ·(try dsimp only at hS0);go_simp;try with_reducible rfl
  simp only[List.getElem_toArray,List.getElem_cons_zero,List.getElem_cons_succ,Act.put,List.setIfInBounds_toArray,List.set_cons_zero,List.set_cons_succ];refine nR rfl (by rfl) ?_;apply Exists.intro;refine⟨fun w0=>?_,?_⟩
  ·go_simp;try with_reducible rfl
  simp only[List.getElem_toArray,List.getElem_cons_zero,List.getElem_cons_succ,Act.put,List.setIfInBounds_toArray,List.set_cons_zero,List.set_cons_succ];refine nR rfl (by rfl) ?_;apply Exists.intro;refine⟨fun w0=>?_,?_⟩
  ·go_simp;try with_reducible rfl
  simp only[List.getElem_toArray,List.getElem_cons_zero,List.getElem_cons_succ,Act.put,List.setIfInBounds_toArray,List.set_cons_zero,List.set_cons_succ];refine dW rfl hS (by rfl) ?_;apply Exists.intro;refine⟨fun w0 hS0=>?_,?_⟩
  ·(try dsimp only at hS0);go_simp;try with_reducible rfl
  simp only[List.getElem_toArray,List.getElem_cons_zero,List.getElem_cons_succ,Act.put,List.setIfInBounds_toArray,List.set_cons_zero,List.set_cons_succ];refine dX rfl (fun K hK=>?_);rw[if_pos (by rfl)]
  go_wp2_with (first
   |(go_at_call 124;refine(nA _ _).mono ?_;rintro e w2 ⟨v,rfl,hx2,r,rfl,hM⟩;have hV2:=Ext.block hx2 hV;obtain⟨cV0,cV1,fV0,fV1⟩:=oW hV2))
  refine iJ (by first|go_keep|exact⟨hx2.c c0,hx2.c c2⟩) (fun hS=>?_);refine dX rfl (fun K hK=>?_);rw[if_pos (by rfl)];refine oM (r:=r) _ _ (by rfl) j0 zJ (jhF _) (by rfl) (by rfl) hM ?_;rw[HL.out];refine hK _ _ ?_;refine iJ (by first|go_keep|exact⟨hx2.c c0,hx2.c c2⟩) (fun hS=>?_);refine jdL rfl (fun K hK=>?_);rw[if_pos (by rfl)]
  go_wp2_with (first
   |(go_at_call 124;refine(nA _ _).mono ?_;rintro e w2 ⟨v,rfl,hx2,r,rfl,hM⟩;have hV2:=Ext.block hx2 hV;obtain⟨cV0,cV1,fV0,fV1⟩:=oW hV2))
  refine jfa ?_;have hE3:=((hE.drew.trans hx2).row (xY w2 (w.heap.size+1) 0 (.int .i64 o1)) (by omega)).row (xY _ (w.heap.size+1) 1 (.int .i64 o2)) (by omega);have hV3:=mS (mS hV2 0 (.int .i64 o1)) 1 (.int .i64 o2);have hKids:=hx2.c c3;have hKids3:=(xY (w2.setCell ⟨w.heap.size+1,0,none⟩ (.int .i64 o1)) (w.heap.size+1) 1 (.int .i64 o2)).cell ((xY w2 (w.heap.size+1) 0 (.int .i64 o1)).cell hKids (by simp)) (by simp);obtain⟨cW0,cW1,fW0,fW1⟩:=oW hV3;clear hS hV hV2 hx2 hM hKids cV0 cV1 fV0 fV1 c0 c1 c2 c3 hB hE
  go_wp2_with (go_at_call 103;refine(HC.out _ hE3).mono ?_;rintro e w4 ⟨rfl,hx4⟩;have cX1:=hx4.c cW1)
  go_ret
  exact⟨rfl,hE3.trans hx4⟩
mutual
theorem jbX:∀t:Nd,TypeOfC t
 |.mk k n s l=>by
  have ih:=pR l;by_cases h1:k=12∨k=13∨k=14∨k=15
  ·exact jhw k n s l h1
  ·by_cases h16:k=16
   ·subst h16;exact jhv n s l ih
   ·by_cases h17:k=17
    ·subst h17;exact jhx n s l ih
    ·by_cases h18:k=18
     ·subst h18;exact jhy n s l ih
     ·exact jfh k n s l (by omega)
theorem pR:∀l:List Nd,∀x∈l,TypeOfC x
 |[]=>fun _ h=>by cases h
 |t::ts =>
  have h1:=jbX t;have h2:=pR ts
  fun x hx=>(List.mem_cons.1 hx).elim (fun e=>e ▸ h1) (h2 x)
end
def gM(l:List ByteArray)(s:ByteArray):Int:=match l.findIdx? (fun x=>x==s) with|some i=>(i:Int)|none => -1
theorem rX{l:List ByteArray}{s:ByteArray}{k:Nat}(hk:k<l.length)(h:∀j (hj:j<l.length),j<k->(l[j]==s)=false)(hq:(l[k]==s)=true):gM l s=(k:Int):=by
 have:l.findIdx? (fun x=>x==s)=some k:=by
  rw[List.findIdx?_eq_some_iff_getElem];exact⟨hk,hq,fun j hj=>by simp[h j (by omega) hj]⟩
 unfold gM;rw[this]
theorem mJ{l:List ByteArray}{s:ByteArray}(h:∀j (hj:j<l.length),(l[j]==s)=false):gM l s = -1:=by
 have:l.findIdx? (fun x=>x==s)=none:=by
  rw[List.findIdx?_eq_none_iff];intro x hx;obtain⟨j,hj,rfl⟩:=List.mem_iff_getElem.1 hx;simp[h j hj]
 unfold gM;rw[this]
theorem jeY(l:List ByteArray)(s:ByteArray) : -1<=gM l s/\gM l s<l.length+1/\gM l s<=l.length:=by
 unfold gM
 cases hf:l.findIdx? (fun x=>x==s) with
 |none=>simp;omega
 |some i =>
  rw[List.findIdx?_eq_some_iff_getElem] at hf;obtain⟨hi,_⟩:=hf
  simp;omega
theorem jbB(v:Value)(l:List ByteArray)(s:ByteArray)(w:World)(hl:StrsAt w.cell? v l) :
  Calls Tryz.prog 91 #[v,.string s] w fun e w'=>e=.returned (.int .i64 (gM l s))/\w=w':=by
 obtain⟨h1,h2,p,b,off,cap,rfl,hc,hp,hn,hh⟩:=hl
 go_enter Tryz.func91,Tryz.ntmps91
 go_wp2
 go_loop [5,8] (fun _ i=>∃k:Nat,k<=l.length/\i=.int .i64 k/\∀j (hj:j<l.length),j<k->(l[j]==s)=false) (fun _ i=>l.length-(intOf i).toNat)
 case atStart=>exact⟨0,by omega,rfl,fun j hj h=>absurd h (by omega)⟩
 case round =>
  obtain⟨k,hk,rfl,hno⟩:=hrel;have HNO:Hid (∀j (hj:j<l.length),j<k->(l[j]==s)=false):=hno;clear hno;by_cases hlt:k<l.length
  ·obtain rfl:p=some ⟨b,off,none⟩:=by
    rcases hp with rfl|hp
    ·simp at hlt
    ·exact hp
   have cx:=hh k hlt
   obtain⟨x,hx⟩:∃x,x=l[k]:=⟨_,rfl⟩
   rw[show l.getD k ByteArray.empty=x from by rw[hx];simp[hlt]] at cx;have HX:Hid (x=l[k]):=hx;clear hx hh hp hn h2
   cases hxs:(s.toList==x.toList) with
   |true =>
    have hxs2:(x==s)=true:=by rw[beq_toListBytes,<- hxs,Bool.beq_comm]
    go_wp2
    go_ret
    have:=rX (s:=s) hlt HNO.out (by rw[<- HX.out];exact hxs2);exact⟨by rw[this];rfl,rfl⟩
   |false =>
    have hxs2:(x==s)=false:=by rw[beq_toListBytes,<- hxs,Bool.beq_comm]
    go_wp2
    go_round
    case rel=>exact⟨k+1,by omega,by go_num,fun j hj h=>by
     by_cases hjk:j=k
     ·subst hjk;rw[<- HX.out];exact hxs2
     ·exact HNO.out j hj (by omega)⟩
    case measure=>simp[intOf];omega
  ·clear hh hp hn h2
   go_wp2
   go_ret
   exact⟨by rw[mJ (fun j hj=>HNO.out j hj (by omega))];rfl,rfl⟩
def vM(d v:List ByteArray)(s:ByteArray):Int:=if 0<=gM d s then gM d s else if 0<=gM v s then d.length+gM v s else -1
theorem jd2(dv vv ov:Value)(d v:List ByteArray)(s:ByteArray)(w:World)(hd:StrsAt w.cell? dv d)(hv:StrsAt w.cell? vv v) :
  Calls Tryz.prog 78 #[.agg #[dv,vv,ov],.string s] w (oO w (.int .i64 (vM d v s))):=by
 have x0:Ext w (w.alloc (.cells #[dv,vv,ov] 26)):=(Ext.refl w).alloc _;have c1:=Lib.hid (jbB dv d s _ (hd.mono x0.sub));have c2:=Lib.hid (jbB vv v s _ (hv.mono x0.sub));have e:vM d v s=if 0<=gM d s then gM d s else if 0<=gM v s then d.length+gM v s else -1:=rfl;have l1:=jeY d s;have l2:=jeY v s;have d1:=hd.1;have d2:=hv.1;obtain⟨p1,b1,o1,k1,rfl,hk1,-⟩:=hd.2.2;obtain⟨p2,b2,o2,k2,rfl,hk2,-⟩:=hv.2.2
 obtain⟨i,hi⟩:∃i,i=gM d s:=⟨_,rfl⟩
 obtain⟨j,hj⟩:∃j,j=gM v s:=⟨_,rfl⟩
 rw[<- hi] at c1 e l1;rw[<- hj] at c2 e l2;rw[e];clear hi hj hd hv e;by_cases h1:0<=i
 ·rw[if_pos h1]
  go_enter Tryz.func78,Tryz.ntmps78
  go_wp2_with (go_at_call 91;refine c1.out.mono ?_;rintro e w2 ⟨rfl,rfl⟩)
  go_ret
  exact⟨rfl,x0⟩
 ·rw[if_neg h1];by_cases h2:0<=j
  ·rw[if_pos h2]
   go_enter Tryz.func78,Tryz.ntmps78
   go_wp2_with fail
   refine c1.out.mono ?_;rintro e w2 ⟨rfl,rfl⟩
   go_wp2_with fail
   refine c2.out.mono ?_;rintro e w2 ⟨rfl,rfl⟩
   go_wp2
   go_ret
   exact⟨rfl,x0⟩
  ·rw[if_neg h2]
   go_enter Tryz.func78,Tryz.ntmps78
   go_wp2_with fail
   refine c1.out.mono ?_;rintro e w2 ⟨rfl,rfl⟩
   go_wp2_with fail
   refine c2.out.mono ?_;rintro e w2 ⟨rfl,rfl⟩
   go_wp2
   go_ret
   exact⟨rfl,x0⟩
mutual
def xM:Nd->Bool
 |.mk k _ _ kids=>if k=11 then mX kids else if k=2∨k=3 then joH kids else !xS 1 kids
def mX:List Nd->Bool
 |[]=>true
 |x::xs=>xM x&&mX xs
def joH:List Nd->Bool
 |[]=>false
 |c::rest=>(vW c==2)&&mX rest
end
theorem jhB(l:List Nd):mX l = !l.any (fun x => !xM x):=by
 induction l with
 |nil=>simp[mX]
 |cons x xs ih=>simp[mX,ih]
def WellC(t:Nd):Prop:=∀v w,t.At w.cell? v->Calls Tryz.prog 86 #[v] w (oO w (.bool (xM t)))
theorem WellC.use{t:Nd}(h:WellC t){v:Value}{w:World}(ht:t.At w.cell? v):Calls Tryz.prog 86 #[v] w (oO w (.bool (xM t))):=h v w ht
theorem jly(x:Nd)(ih:WellC x)(v:Value)(w:World)(hv:x.At w.cell? v) :
  Calls Tryz.prog 101 #[v] w (oO w (.bool (!xM x))):=by
 have x0:=fun o=>(Ext.refl w).alloc o
 have hc:=fun o=>Lib.hid (ih.use (Nd.At.mono (x0 o).sub _ _ hv))
 obtain⟨kv,rfl,-⟩:=hv.parts
 obtain⟨q,hq⟩:∃q,q=xM x:=⟨_,rfl⟩
 rw[<- hq] at hc ⊢;clear hq ih hv
 go_enter Tryz.func101,Tryz.ntmps101
 go_wp2_with (go_at_call 86;refine(hc _).out.mono ?_;rintro e w2 ⟨rfl,hx2⟩)
 go_ret
 exact⟨rfl,(x0 _).trans hx2⟩
theorem jc4(n:Int)(s:ByteArray)(l:List Nd)(ih:∀x∈l,WellC x):WellC (.mk 11 n s l):=by
 intro v w ht;obtain⟨kv,rfl,-,-,-,hl⟩:=ht.parts;simp only[Nd.k,Nd.n,Nd.s,Nd.kids] at *
 have e:xM (.mk 11 n s l) = !l.any (fun x => !xM x):=by simp only[xM,jhB];simp
 have x0:Ext w (w.alloc (.cells #[.int .i64 11,.int .i64 n,.string s,kv] 45)):=(Ext.refl w).alloc _
 have hasks:Asks (w.alloc (.cells #[.int .i64 11,.int .i64 n,.string s,kv] 45)) 101 #[] l (fun x => !xM x) :=
  ⟨fun _ _=>rfl,fun x hx v w' hx' hA=>jly x (ih x hx) v w' hA⟩
 have hcall:=Lib.hid (gF l kv _ _ _ _ (hl.mono x0.sub) hasks);rw[e]
 obtain⟨q,hq⟩:∃q,q=l.any (fun x => !xM x):=⟨_,rfl⟩
 rw[<- hq] at hcall ⊢;clear hq hasks ih hl e ht
 go_enter Tryz.func86,Tryz.ntmps86
 go_wp2_with (go_at_call 85;refine hcall.out.mono ?_;rintro e w2 ⟨rfl,hx2⟩)
 go_ret
 exact⟨rfl,x0.trans hx2⟩
theorem jjd(k n:Int)(s:ByteArray)(l:List Nd)(hk:k≠11/\k≠2/\k≠3):WellC (.mk k n s l):=by
 intro v w ht;obtain⟨kv,rfl,-,-,-,hl⟩:=ht.parts;simp only[Nd.k,Nd.n,Nd.s,Nd.kids] at *;obtain⟨h1,h2,h3⟩:=hk
 have e:xM (.mk k n s l) = !xS 1 l:=by simp[xM,h1,h2,h3]
 have x0:Ext w (w.alloc (.cells #[.int .i64 k,.int .i64 n,.string s,kv] 45)):=(Ext.refl w).alloc _;have hcall:=Lib.hid (joW hl (pR l) 1 rfl x0);rw[e]
 obtain⟨q,hq⟩:∃q,q=xS 1 l:=⟨_,rfl⟩
 rw[<- hq] at hcall ⊢
 have b1:(k==11)=false:=by simpa using h1
 have b2:(k==2)=false:=by simpa using h2
 have b3:(k==3)=false:=by simpa using h3
 clear hq hl e ht h1 h2 h3
 go_enter Tryz.func86,Tryz.ntmps86
 go_wp2_with (go_at_call 103;refine hcall.out.mono ?_;rintro e w2 ⟨rfl,hx2⟩)
 go_ret
 exact⟨rfl,x0.trans hx2⟩
theorem joI(k n:Int)(s:ByteArray)(hk:k=2∨k=3):WellC (.mk k n s []):=by
 intro v w ht;obtain⟨kv,rfl,-,-,-,hl⟩:=ht.parts;simp only[Nd.k,Nd.n,Nd.s,Nd.kids] at *;obtain⟨_,p,b,off,cap,rfl,-⟩:=hl
 have e:xM (.mk k n s [])=false:=by rcases hk with rfl|rfl <;> simp[xM,joH]
 rw[e];clear ht e;rcases hk with rfl|rfl
 all_goals
  go_enter Tryz.func86,Tryz.ntmps86
  go_wp2
  go_ret
  exact⟨rfl,(Ext.refl w).alloc _⟩
theorem jlz(k n:Int)(s:ByteArray)(c:Nd)(l:List Nd)(hk:k=2∨k=3)(ih:∀x∈l,WellC x):WellC (.mk k n s (c::l)):=by
 intro v w ht;obtain⟨kv,rfl,-,-,-,hl⟩:=ht.parts;simp only[Nd.k,Nd.n,Nd.s,Nd.kids] at *
 have e:xM (.mk k n s (c::l))=((vW c==2)&&xM (.mk 11 0 ⟨#[]⟩ l)):=by rcases hk with rfl|rfl <;> simp[xM,joH]
 obtain⟨hlen,p,b,off,cap,rfl,hcap,hp,hn,hin⟩:=hl
 obtain rfl:p=some ⟨b,off,none⟩:=by
  rcases hp with h|h
  ·cases h
  ·exact h
 have hin2:=hin;unfold Nd.In at hin2;obtain⟨⟨v0,v1,v2,v3,d0,d1,d2,d3,hc⟩,hrest⟩:=hin2;simp only[List.length_cons] at *;have x0:Ext w (w.alloc (.cells #[.int .i64 k,.int .i64 n,.string s,.slice (some ⟨b,off,none⟩) (l.length+1) cap] 45)):=(Ext.refl w).alloc _
 replace d0:=x0.c d0
 replace d1:=x0.c d1
 replace d2:=x0.c d2
 replace d3:=x0.c d3
 have ht1:=Lib.hid ((jbX c).use (Nd.At.mono x0.sub _ _ hc))
 obtain⟨ty,hty⟩:∃ty,ty=vW c:=⟨_,rfl⟩
 have hB:=Ext.block (Ext.refl _) (jng w (.int .i64 k) (.int .i64 n) (.string s) (.slice (some ⟨b,off,none⟩) (l.length+1) cap) 45);rw[e,<- hty];rw[<- hty] at ht1
 obtain⟨q,hq⟩:∃q,q=xM (.mk 11 0 ⟨#[]⟩ l):=⟨_,rfl⟩
 have hw:=fun(w2:World) (hx2:Ext w w2) (kv2:Value) (hkv:NdsAt w.cell? kv2 l)=>(jc4 0 ⟨#[]⟩ l ih).use (Nd.At.of_parts (t:=.mk 11 0 ⟨#[]⟩ l) (by simp[Nd.k]) (by simp[Nd.n]) (Nat.zero_le _) (hkv.mono hx2.sub))
 simp only[Nd.k,Nd.n,Nd.s] at hw;rw[<- hq] at hw ⊢;have HW:=Lib.hid hw;clear hq hty e ht ih hw hc hp hn hin
 cases hte:(ty==2) with
 |false =>
  rcases hk with rfl|rfl
  all_goals
   go_enter Tryz.func86,Tryz.ntmps86
   go_wp2_with (go_at_call 102;refine ht1.out.mono ?_;rintro e w2 ⟨rfl,hx2⟩)
   go_ret
   exact⟨rfl,x0.trans hx2⟩
 |true =>
  by_cases h1:cap=1
  ·obtain rfl:l=[]:=List.eq_nil_of_length_eq_zero (by omega)
   have hkv:NdsAt w.cell? (.slice (some ⟨b,off,none⟩) 0 0) []:=⟨by simp,_,b,off,0,rfl,by simp,.inl rfl,by simp,by unfold Nd.In;trivial⟩
   subst h1;simp only[List.length_nil,Nat.zero_add] at *;clear hrest;rcases hk with rfl|rfl
   all_goals
    go_enter Tryz.func86,Tryz.ntmps86
    go_wp2_with (first
     |(go_at_call 102;refine ht1.out.mono ?_;rintro e w2 ⟨rfl,hx2⟩;obtain⟨e0,e1,e2,e3,-⟩:=sM (hx2.block hB))
     |(go_at_call 86;(with_reducible refine(HW.out _ (x0.trans hx2) _ hkv).mono ?_);rintro e w3 ⟨rfl,hx3⟩))
    go_ret
    exact⟨rfl,(x0.trans hx2).trans hx3⟩
  ·have hkv:NdsAt w.cell? (.slice (some ⟨b,off+4,none⟩) l.length (cap-1)) l:=⟨by omega,_,b,off+4,cap-1,rfl,by omega,.inr rfl,by simp,hrest⟩
   clear hrest;rcases hk with rfl|rfl
   all_goals
    go_enter Tryz.func86,Tryz.ntmps86
    go_wp2_with (first
     |(go_at_call 102;refine ht1.out.mono ?_;rintro e w2 ⟨rfl,hx2⟩;obtain⟨e0,e1,e2,e3,-⟩:=sM (hx2.block hB))
     |(go_at_call 86;(with_reducible refine(HW.out _ (x0.trans hx2) _ hkv).mono ?_);rintro e w3 ⟨rfl,hx3⟩))
    go_ret
    exact⟨rfl,(x0.trans hx2).trans hx3⟩
mutual
theorem jhD:∀t:Nd,WellC t
 |.mk k n s l=>by
  have ih:=jhC l;by_cases h11:k=11
  ·subst h11;exact jc4 n s l ih
  ·by_cases h2:k=2∨k=3
   ·cases l with
    |nil=>exact joI k n s h2
    |cons c rest=>exact jlz k n s c rest h2 (fun x hx=>ih x (List.mem_cons_of_mem _ hx))
   ·exact jjd k n s l (by omega)
theorem jhC:∀l:List Nd,∀x∈l,WellC x
 |[]=>fun _ h=>by cases h
 |t::ts =>
  have h1:=jhD t;have h2:=jhC ts
  fun x hx=>(List.mem_cons.1 hx).elim (fun e=>e ▸ h1) (h2 x)
end
def HIn(C:Rd)(b:Nat)(off:Nat)(l:List (Int×Nd)):Prop:=∀i (hi:i<l.length),-9223372036854775808<=l[i].1/\l[i].1<=9223372036854775807 ∧
 ∃v1 v2 v3 v4,C ⟨b,off+i*5,none⟩=some (.int .i64 l[i].1)/\C ⟨b,off+i*5+1,none⟩=some v1/\C ⟨b,off+i*5+2,none⟩=some v2/\C ⟨b,off+i*5+3,none⟩=some v3/\C ⟨b,off+i*5+4,none⟩=some v4/\l[i].2.At C (.agg #[v1,v2,v3,v4])
def jt8(C:Rd)(v:Value)(l:List (Int×Nd)):Prop :=
 l.length<=1000000000/\∃p b off cap,v=.slice p l.length cap/\l.length<=cap/\(l=[]∨p=some ⟨b,off,none⟩)/\(p=none->cap=0)/\HIn C b off l
structure Un where
 d:List ByteArray
 v:List ByteArray
 on:List (Int×Nd)
def jtc(C:Rd)(x:Value)(u:Un):Prop:=∃dv vv ov,x=.agg #[dv,vv,ov]/\StrsAt C dv u.d/\StrsAt C vv u.v/\jt8 C ov u.on
mutual
def jcp(ix:ByteArray->Int):Nd->Bool
 |.mk k _ s kids=>((k==1||k==14)&&decide (ix s<0))||jc0 ix kids
def jc0(ix:ByteArray->Int):List Nd->Bool
 |[]=>false
 |x::xs=>jcp ix x||jc0 ix xs
end
theorem jj8(ix:ByteArray->Int)(l:List Nd):jc0 ix l=l.any (jcp ix):=by
 induction l with
 |nil=>simp[jc0]
 |cons x xs ih=>simp[jc0,ih]
structure Env(w:World)(U V:Nat)(dv vv ov:Value)(d v:List ByteArray):Prop where
 c0:w.cell? ⟨U,0,none⟩=some dv
 c1:w.cell? ⟨U,1,none⟩=some vv
 c2:w.cell? ⟨U,2,none⟩=some ov
 f:w.cell? ⟨V,0,none⟩=some (.func (.func 84) #[] #[.pointer (some ⟨U,0,none⟩),.pointer (some ⟨V,0,none⟩)])
 d:StrsAt w.cell? dv d
 v:StrsAt w.cell? vv v
theorem Env.ext{w w':World}{U V:Nat}{dv vv ov:Value}{d v:List ByteArray}(h:Env w U V dv vv ov d v)(x:Ext w w'):Env w' U V dv vv ov d v :=
 ⟨x.c h.c0,x.c h.c1,x.c h.c2,x.c h.f,h.d.mono x.sub,h.v.mono x.sub⟩
def jji(t:Nd):Prop:=∀(x:Value) (w:World) (U V:Nat) (dv vv ov:Value) (d v:List ByteArray),t.At w.cell? x->Env w U V dv vv ov d v →
  Calls Tryz.prog 84 #[x,.pointer (some ⟨U,0,none⟩),.pointer (some ⟨V,0,none⟩)] w (oO w (.bool (jcp (vM d v) t)))
theorem jkL(k n:Int)(s:ByteArray)(l:List Nd)(ih:∀x∈l,jji x):jji (.mk k n s l):=by
 intro x w U V dv vv ov d v ht E;obtain⟨kv,rfl,-,-,-,hl⟩:=ht.parts;simp only[Nd.k,Nd.n,Nd.s,Nd.kids] at *
 have e:jcp (vM d v) (.mk k n s l)=(((k==1||k==14)&&decide (vM d v s<0))||l.any (jcp (vM d v))):=by simp only[jcp,jj8]
 have x0:Ext w (w.alloc (.cells #[.int .i64 k,.int .i64 n,.string s,kv] 45)):=(Ext.refl w).alloc _;have E0:=E.ext x0;have hB:=jng w (.int .i64 k) (.int .i64 n) (.string s) kv 45
 have hasks:∀w1,Ext (w.alloc (.cells #[.int .i64 k,.int .i64 n,.string s,kv] 45)) w1->Asks w1 84 #[.pointer (some ⟨U,0,none⟩),.pointer (some ⟨V,0,none⟩)] l (jcp (vM d v)) :=
  fun w1 h1=>⟨fun _ _=>rfl,fun y hy z w' hx' hA=>ih y hy z w' U V dv vv ov d v hA ((E0.ext h1).ext hx')⟩
 have hcall:=fun w1 h1=>gF l kv _ _ w1 _ (hl.mono (x0.trans h1).sub) (hasks w1 h1)
 have hidx:=jd2 dv vv ov d v s _ E0.d E0.v
 obtain⟨q,hq⟩:∃q,q=l.any (jcp (vM d v)):=⟨_,rfl⟩
 obtain⟨i,hi⟩:∃i,i=vM d v s:=⟨_,rfl⟩
 rw[e];rw[<- hq] at hcall ⊢;rw[<- hi] at hidx ⊢;have HC:=Lib.hid hcall;have HI:=Lib.hid hidx;obtain⟨c0,c1,c2,cf,-,-⟩:=E0;obtain⟨g0,g1,g2,g3,-⟩:=sM hB;clear hq hi hasks hcall hidx ih hl e ht E;by_cases hk:k=1∨k=14
 ·by_cases hneg:i<0
  ·rcases hk with rfl|rfl
   all_goals
    go_enter Tryz.func84,Tryz.ntmps84
    go_wp2_with (first
     |(go_at_call 78;(with_reducible refine HI.out.mono ?_);rintro e w2 ⟨rfl,hx2⟩))
    go_ret
    exact⟨by simp[hneg],x0.trans hx2⟩
  ·rcases hk with rfl|rfl
   all_goals
    go_enter Tryz.func84,Tryz.ntmps84
    go_wp2_with (first
     |(go_at_call 78;(with_reducible refine HI.out.mono ?_);rintro e w2 ⟨rfl,hx2⟩;replace cf:=hx2.c cf;replace g3:=hx2.c g3)
     |(go_at_call 85;(with_reducible refine(HC.out _ hx2).mono ?_);rintro e w3 ⟨rfl,hx3⟩))
    go_ret
    exact⟨by simp[hneg],(x0.trans hx2).trans hx3⟩
 ·have b1:(k==1)=false:=by simp;omega
  have b2:(k==14)=false:=by simp;omega
  have hx2:=Ext.refl (w.alloc (.cells #[.int .i64 k,.int .i64 n,.string s,kv] 45));clear hk
  go_enter Tryz.func84,Tryz.ntmps84
  go_wp2_with (first
   |(go_at_call 85;(with_reducible refine(HC.out _ hx2).mono ?_);rintro e w3 ⟨rfl,hx3⟩))
  go_ret
  exact⟨by simp[b1,b2],x0.trans hx3⟩
mutual
theorem jfI:∀t:Nd,jji t
 |.mk k n s l=>jkL k n s l (jfH l)
theorem jfH:∀l:List Nd,∀x∈l,jji x
 |[]=>fun _ h=>by cases h
 |t::ts =>
  have h1:=jfI t;have h2:=jfH ts
  fun x hx=>(List.mem_cons.1 hx).elim (fun e=>e ▸ h1) (h2 x)
end
def jei(u:Un)(t:Nd):Bool := !xM t||jcp (vM u.d u.v) t
def eO(u:Un):Int:=if u.on.any (fun h=>jei u h.2) then 11 else 0
theorem jay{u:Un}{k:Nat}(hk:k<u.on.length)(h:jei u u.on[k].2=true):eO u=11:=by
 unfold eO;rw[if_pos];exact List.any_eq_true.2 ⟨_,List.getElem_mem hk,h⟩
theorem jfF{u:Un}(h:∀j (hj:j<u.on.length),jei u u.on[j].2=false):eO u=0:=by
 unfold eO;rw[if_neg];rw[List.any_eq_true];rintro⟨x,hx,hq⟩;obtain⟨j,hj,rfl⟩:=List.mem_iff_getElem.1 hx;rw[h j hj] at hq;cases hq
theorem jtp{w:World}{R:Nat}{a:Value}{T:TypeId}(h:w.heap[R]?=some (.cells #[a] T (0,0))):w.cell? ⟨R,0,none⟩=some a/\w.frozen? ⟨R,0,none⟩=false:=by
 simp[World.cell?,World.frozen?,h]
theorem ji0{w:World}{R:Nat}{a b c:Value}{T:TypeId}(h:w.heap[R]?=some (.cells #[a,b,c] T (0,0))) :
  w.cell? ⟨R,0,none⟩=some a/\w.cell? ⟨R,1,none⟩=some b/\w.cell? ⟨R,2,none⟩=some c:=by
 simp[World.cell?,h]
theorem jmb{w:World}{R:Nat}{a b c d e:Value}{T:TypeId}(h:w.heap[R]?=some (.cells #[a,b,c,d,e] T (0,0))) :
  w.cell? ⟨R,0,none⟩=some a/\w.cell? ⟨R,1,none⟩=some b/\w.cell? ⟨R,2,none⟩=some c/\w.cell? ⟨R,3,none⟩=some d/\w.cell? ⟨R,4,none⟩=some e:=by
 simp[World.cell?,h]
theorem jlO{a b c d a' b' c' d':Value}(h:Value.agg #[a,b,c,d]=.agg #[a',b',c',d']):a=a'/\b=b'/\c=c'/\d=d':=by simpa using h
theorem jkK(u:Un)(x:Value)(w:World)(hv:jtc w.cell? x u) :
  Calls Tryz.prog 61 #[x] w (oO w (.int .i64 (eO u))):=by
 obtain⟨dv,vv,ov,rfl,hd,hvv,hon⟩:=hv;have hon2:=hon;obtain⟨hl,p,b,off,cap,rfl,hcap,hp,hn,hin⟩:=hon2
 have x1:Ext w ((w.alloc (.cells #[dv,vv,.slice p u.on.length cap] 26)).alloc (.cells #[.func (.func 84) #[] #[.pointer (some ⟨w.heap.size,0,none⟩),.pointer (some ⟨w.heap.size+1,0,none⟩)]] 125)) :=
  ((Ext.refl w).alloc _).alloc _
 have hV:((w.alloc (.cells #[dv,vv,.slice p u.on.length cap] 26)).alloc (.cells #[.func (.func 84) #[] #[.pointer (some ⟨w.heap.size,0,none⟩),.pointer (some ⟨w.heap.size+1,0,none⟩)]] 125)).heap[w.heap.size+1]?=some (.cells #[(.func (.func 84) #[] #[.pointer (some ⟨w.heap.size,0,none⟩),.pointer (some ⟨w.heap.size+1,0,none⟩)])] 125 (0,0)):=by
  have:=heap_alloc_new (w.alloc (.cells #[dv,vv,.slice p u.on.length cap] 26)) (.cells #[.func (.func 84) #[] #[.pointer (some ⟨w.heap.size,0,none⟩),.pointer (some ⟨w.heap.size+1,0,none⟩)]] 125);simp only[World.size_alloc] at this;exact this
 have hU:=Ext.block ((Ext.refl _).alloc (.cells #[.func (.func 84) #[] #[.pointer (some ⟨w.heap.size,0,none⟩),.pointer (some ⟨w.heap.size+1,0,none⟩)]] 125)) (heap_alloc_new w (.cells #[dv,vv,.slice p u.on.length cap] 26))
 have E:Env _ w.heap.size (w.heap.size+1) dv vv (.slice p u.on.length cap) u.d u.v:=⟨(ji0 hU).1,(ji0 hU).2.1,(ji0 hU).2.2,(jtp hV).1,hd.mono x1.sub,hvv.mono x1.sub⟩
 clear hU hV hd hvv hon
 go_enter Tryz.func61,Tryz.ntmps61
 go_wp2_with fail
 go_loopw [10] (fun iv wr=>∃k:Nat,k<=u.on.length/\iv=.int .i64 k/\Ext w wr/\Env wr w.heap.size (w.heap.size+1) dv vv (.slice p u.on.length cap) u.d u.v/\∀j (hj:j<u.on.length),j<k->jei u u.on[j].2=false) (fun iv _=>u.on.length-(intOf iv).toNat)
 case atStart=>exact⟨0,by omega,rfl,x1,E,fun j hj h=>absurd h (by omega)⟩
 case round =>
  clear x1 E;obtain⟨k,hk,rfl,hx,E,hno⟩:=hrel;have HNO:Hid (∀j (hj:j<u.on.length),j<k->jei u u.on[j].2=false):=hno;clear hno;by_cases hlt:k<u.on.length
  ·obtain rfl:p=some ⟨b,off,none⟩:=by
    rcases hp with h|hp
    ·rw[h] at hlt;simp at hlt
    ·exact hp
   obtain⟨-,-,v1,v2,v3,v4,c0,c1,c2,c3,c4,ht⟩:=hin k hlt
   replace c0:=hx.c c0
   replace c1:=hx.c c1
   replace c2:=hx.c c2
   replace c3:=hx.c c3
   replace c4:=hx.c c4
   have ht2:=Nd.At.mono hx.sub _ _ ht
   obtain⟨hn0,hhn⟩:∃z,z=u.on[k].1:=⟨_,rfl⟩
   obtain⟨t,htt⟩:∃t,t=u.on[k].2:=⟨_,rfl⟩
   rw[<- hhn] at c0;rw[<- htt] at ht2;have HT:Hid (t=u.on[k].2):=htt;obtain⟨kv,hvv,-,-,-,-,p',b',o',c',hkv,-⟩:=ht2.parts;subst hkv;obtain⟨rfl,rfl,rfl,rfl⟩:=jlO hvv;clear hvv
   have hwell:=fun w1 (h1:Ext wr w1)=>(jhD t).use (Nd.At.mono h1.sub _ _ ht2)
   have hchk:=fun w1 (h1:Ext wr w1)=>jfI t _ w1 _ _ _ _ _ _ _ (Nd.At.mono h1.sub _ _ ht2) (E.ext h1)
   obtain⟨qa,hqa⟩:∃q,q=xM t:=⟨_,rfl⟩
   obtain⟨qb,hqb⟩:∃q,q=jcp (vM u.d u.v) t:=⟨_,rfl⟩
   have hbad:jei u t=(!qa||qb):=by rw[hqa,hqb];rfl
   rw[<- hqa] at hwell;rw[<- hqb] at hchk;have HW:=Lib.hid hwell;have HC:=Lib.hid hchk;have HB:=Lib.hid hbad
   obtain⟨e0,e1,e2,ef,-,-⟩:=(show Env wr _ _ _ _ _ _ _ from E)
   clear hin hp hn ht ht2 htt hhn hwell hchk hqa hqb hbad;have hH:=heap_alloc_new wr (.cells #[.int .i64 hn0,.int .i64 t.k,.int .i64 t.n,.string t.s,.slice p' t.kids.length c'] 47)
   cases qa with
   |false =>
    go_wp2_with (first
     |(go_at_call 86;refine(HW.out _ ((Ext.refl wr).alloc _)).mono ?_;rintro e w2 ⟨rfl,hx2⟩))
    go_ret
    refine⟨?_,(hx.alloc _).trans hx2⟩;rw[jay hlt (by rw[<- HT.out,HB.out];rfl)];rfl
   |true =>
    have E1:=fun w2 (h2:Ext wr w2)=>E.ext h2
    have HE:=Lib.hid E1;clear E1
    cases qb with
    |true =>
     go_wp2_with (first
      |(go_at_call 86;refine(HW.out _ ((Ext.refl wr).alloc _)).mono ?_;rintro e w2 ⟨rfl,hx2⟩;obtain⟨-,-,-,ef2,-,-⟩:=HE.out _ (((Ext.refl wr).alloc _).trans hx2);obtain⟨g0,g1,g2,g3,g4⟩:=jmb (hx2.block hH))
      |(go_at_call 84;refine(HC.out _ (((Ext.refl wr).alloc _).trans hx2)).mono ?_;rintro e w3 ⟨rfl,hx3⟩))
     go_ret
     refine⟨?_,((hx.alloc _).trans hx2).trans hx3⟩;rw[jay hlt (by rw[<- HT.out,HB.out];rfl)];rfl
    |false =>
     go_wp2_with (first
      |(go_at_call 86;refine(HW.out _ ((Ext.refl wr).alloc _)).mono ?_;rintro e w2 ⟨rfl,hx2⟩;obtain⟨-,-,-,ef2,-,-⟩:=HE.out _ (((Ext.refl wr).alloc _).trans hx2);obtain⟨g0,g1,g2,g3,g4⟩:=jmb (hx2.block hH))
      |(go_at_call 84;refine(HC.out _ (((Ext.refl wr).alloc _).trans hx2)).mono ?_;rintro e w3 ⟨rfl,hx3⟩))
     go_roundw
     case rel=>exact⟨k+1,by omega,by go_num,((hx.alloc _).trans hx2).trans hx3,HE.out _ ((((Ext.refl wr).alloc _).trans hx2).trans hx3),fun j hj h=>by
      by_cases hjk:j=k
      ·subst hjk;rw[<- HT.out,HB.out];rfl
      ·exact HNO.out j hj (by omega)⟩
     case measure=>simp[intOf];omega
  ·clear hin;obtain⟨e0,e1,e2,ef,-,-⟩:=E
   go_wp2
   go_ret
   exact⟨by rw[jfF (fun j hj=>HNO.out j hj (by omega))];rfl,hx⟩
end Go.Proofs.YtdnnmiemgmgffaaGreatDoor
namespace Go.Proofs.YtdnnmiemgmgffaaGreatDoor.Vm
open Go.RowKit
def isL(c:UInt8):Bool:=decide (97<=(c.toNat:Int))&&decide ((c.toNat:Int)<=122)
def wG(c:UInt8):Bool:=decide (48<=(c.toNat:Int))&&decide ((c.toNat:Int)<=57)
def wD(c:UInt8):Bool:=isL c||wG c
def aM(c:UInt8):Bool:=(decide ((c.toNat:Int)=32)||decide ((c.toNat:Int)=9))||decide ((c.toNat:Int)=10)
def kO(c:UInt8):Bool := !decide ((c.toNat:Int)=10)
def wC(c:UInt8):Bool:=decide ((c.toNat:Int)=35)
def jE(p:UInt8->Bool):List UInt8->Nat
 |[]=>0
 |c::r=>match p c with|true=>jE p r+1|false=>0
def jL:Bool->List UInt8->Nat
 |_,[]=>0
 |true,c::r=>match kO c with|true=>jL true r+1|false=>jL false r+1
 |false,c::r=>match wC c with
  |true=>jL true r+1
  |false=>match aM c with
   |true=>jL false r+1
   |false=>0
def xK:Int->List UInt8->Int
 |n,[]=>n
 |n,c::r=>if 2147483647<10*n+(c.toNat:Int)-48 then -1 else xK (10*n+(c.toNat:Int)-48) r
def bs(l:List UInt8):ByteArray:=⟨l.toArray⟩
def pQ:List ByteArray:=[bs [124,124],bs [38,38],bs [60,61],bs [62,61],bs [61,61],bs [33,61]]
def tB:List ByteArray:=[bs [123],bs [125],bs [91],bs [93],bs [40],bs [41],bs [61],bs [59],bs [44],bs [60],bs [62],bs [43],bs [45],bs [42],bs [47],bs [33]]
def qD(l:List ByteArray)(s:ByteArray):Bool:=l.any fun x=>decide (x=s)
inductive T1 where
 |bad (e:Int)
 |tok (kind:Int) (len:Nat) (n:Int)
def qE:List UInt8->T1
 |[]=>.bad 10
 |c::r=>match isL c with
  |true=>if 10<jE wD r+1 then .bad 2 else .tok 1 (jE wD r+1) 0
  |false=>match wG c with
   |true=>if xK 0 (c::r.take (jE wG r))<0 then .bad 6 else .tok 2 (jE wG r+1) (xK 0 (c::r.take (jE wG r)))
   |false=>match qD pQ (bs ((c::r).take 2)) with
    |true=>.tok 3 2 0
    |false=>match qD tB (bs [c]) with
     |true=>.tok 3 1 0
     |false=>.bad 10
structure Tk where
 kind:Int
 pos:Nat
 text:ByteArray
 n:Int
structure Lx where
 toks:List Tk
 err:Option (Nat×Int)
def Lx.cons(t:Tk)(x:Lx):Lx:=⟨t::x.toks,x.err⟩
def vF:Nat->Nat->List UInt8->Lx
 |0,_,_=>⟨[],none⟩
 |f+1,pos,[]=>⟨[],none⟩
 |f+1,pos,c::r=>match wC c with
  |true=>vF f (pos+1+jE kO r) (r.drop (jE kO r))
  |false=>match aM c with
   |true=>vF f (pos+1) r
   |false=>match qE (c::r) with
    |.bad e=>⟨[],some (pos,e)⟩
    |.tok k len n=>Lx.cons ⟨k,pos,bs ((c::r).take len),n⟩ (vF f (pos+len) ((c::r).drop len))
def cR(t:Tk):List A:=[intA t.kind,intA t.pos,jX t.text,intA t.n]
def z8(l:List Tk):List A:=l.flatMap cR
def rI(s:ByteArray):Tk:=⟨0,s.size,⟨#[]⟩,0⟩
theorem xJ(p:UInt8->Bool):∀l:List UInt8,jE p l<=l.length
 |[]=>by simp[jE]
 |c::r=>by
  have:=xJ p r;unfold jE
  split <;> simp <;> omega
theorem dY:∀(b:Bool) (l:List UInt8),jL b l<=l.length
 |b,[]=>by cases b <;> simp[jL]
 |true,c::r=>by
  have h1:=dY true r;have h2:=dY false r;unfold jL
  split <;> simp <;> omega
 |false,c::r=>by
  have h1:=dY true r;have h2:=dY false r;unfold jL;split
  ·simp;omega
  ·split <;> simp;omega
theorem sX(l:List ByteArray)(s:ByteArray)(k:Nat)(hk:k<l.length):qD (l.take (k+1)) s=(qD (l.take k) s||decide (l[k]=s)):=by
 unfold qD;rw[List.take_succ_eq_append_getElem hk,List.any_append];simp
theorem dE(s:ByteArray)(i:Nat)(hi:i<s.data.toList.length):s.data.toList.getD i 0=s.data.toList[i]:=by rw[List.getD_eq_getElem?_getD,List.getElem?_eq_getElem hi];rfl
theorem zR(s:ByteArray):s.data.toList.length=s.size:=by rw[Array.length_toList];rfl
theorem yC(l:List UInt8)(i:Nat)(hi:i<l.length):l.drop i=l[i]::l.drop (i+1):=List.drop_eq_getElem_cons hi
theorem jjN{c:UInt8}(h:wG c=true):48<=(c.toNat:Int)/\(c.toNat:Int)<=57:=by
 unfold wG at h;rw[Bool.and_eq_true] at h;exact⟨of_decide_eq_true h.1,of_decide_eq_true h.2⟩
theorem jaH(s:ByteArray)(a b:Nat):s.extract a b=bs ((s.data.toList.drop a).take (b-a)):=by
 apply ByteArray.ext;rw[ByteArray.data_extract];apply Array.toList_inj.1;simp[bs,Array.toList_extract,List.extract_eq_take_drop]
theorem yB(s:ByteArray)(a b n:Nat)(h:b=min (a+n) s.size)(ha:a<=s.size):s.extract a b=bs ((s.data.toList.drop a).take n):=by
 have hsl:=zR s;rw[jaH]
 congr 1
 subst h;rcases Nat.le_total (a+n) s.size with h|h
 ·rw[Nat.min_eq_left h,Nat.add_sub_cancel_left]
 ·rw[Nat.min_eq_right h,List.take_of_length_le (by rw[List.length_drop];omega),List.take_of_length_le (by rw[List.length_drop];omega)]
theorem eH(l:List UInt8):(bs l).size=l.length:=by show l.toArray.size=_;exact List.size_toArray
theorem yL(l:List UInt8):(bs l).data.toList=l:=by simp[bs]
theorem mT(p:UInt8->Bool):∀(l:List UInt8),∀c∈l.take (jE p l),p c=true
 |[],c,h=>by simp[jE] at h
 |x::r,c,h=>by
  unfold jE at h;split at h
  ·rename_i hp;rw[List.take_succ_cons] at h;rcases List.mem_cons.1 h with rfl|h
   ·exact hp
   ·exact mT p r c h
  ·simp at h
def jpu:List A:=[intA 0,intA 0,jX ⟨#[]⟩,intA 0]
def jor(s:ByteArray)(k:Nat):A:=match qE (s.data.toList.drop k) with
 |.bad e=>.tup [.agg jpu,intA e]
 |.tok kd len n=>.tup [.agg (cR ⟨kd,k,bs ((s.data.toList.drop k).take len),n⟩),intA 0]
theorem d9{s:ByteArray}{k:Nat}{e:Int}(h:qE (s.data.toList.drop k)=.bad e):jor s k=.tup [.agg jpu,intA e]:=by unfold jor;rw[h]
theorem bP{s:ByteArray}{k len:Nat}{kd n:Int}(h:qE (s.data.toList.drop k)=.tok kd len n):jor s k=.tup [.agg [intA kd,intA k,jX (bs ((s.data.toList.drop k).take len)),intA n],intA 0]:=by unfold jor;rw[h];rfl
theorem bO:∀{l:List UInt8} {k:Int} {len:Nat} {n:Int},qE l=.tok k len n->1<=len/\len<=l.length
 |[],_,_,_,h=>by simp[qE] at h
 |c::r,k,len,n,h=>by
  have h1:=xJ wD r;have h2:=xJ wG r;cases hL:isL c
  ·cases hD:wG c
   ·cases h3:qD pQ (bs ((c::r).take 2))
    ·cases h4:qD tB (bs [c])
     ·simp only[qE,hL,hD,h3,h4] at h;cases h
     ·simp only[qE,hL,hD,h3,h4] at h;cases h;simp
    ·simp only[qE,hL,hD,h3] at h;cases h
     cases r with
     |nil =>
      exfalso
      have:qD pQ (bs [c])=false:=by
       unfold qD;rw[List.any_eq_false];intro x hx he;have he:=of_decide_eq_true he
       have hs:x.size=1:=by rw[he,eH];rfl
       have:∀x∈pQ,x.size=2:=by decide
       have:=this x hx;omega
      rw[show(c::([]:List UInt8)).take 2=[c] from rfl,this] at h3;cases h3
     |cons d r=>simp
   ·simp only[qE,hL,hD] at h;split at h
    ·cases h
    ·cases h;simp;omega
  ·simp only[qE,hL] at h;split at h
   ·cases h
   ·cases h;simp;omega
theorem jhr{l:List UInt8}{e:Int}(h:qE l=.bad e):e≠0:=by
 cases l with
 |nil=>simp[qE] at h;omega
 |cons c r =>
  cases hL:isL c
  ·cases hD:wG c
   ·cases h3:qD pQ (bs ((c::r).take 2))
    ·cases h4:qD tB (bs [c])
     ·simp only[qE,hL,hD,h3,h4] at h;cases h;decide
     ·simp only[qE,hL,hD,h3,h4] at h;cases h
    ·simp only[qE,hL,hD,h3] at h;cases h
   ·simp only[qE,hL,hD] at h;split at h
    ·cases h;decide
    ·cases h
  ·simp only[qE,hL] at h;split at h
   ·cases h;decide
   ·cases h
theorem rR:∀(f f' p:Nat) (l:List UInt8),l.length<f->l.length<f'->vF f p l=vF f' p l
 |0,_,_,_,h,_=>by omega
 |_+1,0,_,_,_,h=>by omega
 |f+1,f'+1,p,[],_,_=>rfl
 |f+1,f'+1,p,c::r,h,h'=>by
  simp only[List.length_cons] at h h'
  have key:∀(q k:Nat) (l:List UInt8),l.length<=r.length->vF f q l=vF f' q l:=fun q k l hl=>rR f f' q l (by omega) (by omega)
  unfold vF;split
  ·exact key _ 0 _ (by simp)
  ·split
   ·exact key _ 0 _ (Nat.le_refl _)
   ·split
    ·rfl
    ·rename_i k len n ht;have:=bO ht;rw[key _ 0 _ (by simp;omega)]
def bJ(p:Nat)(l:List UInt8):Lx:=vF (l.length+1) p l
theorem jb5(p:Nat):bJ p []=⟨[],none⟩:=rfl
theorem jdc{p:Nat}{c:UInt8}{r:List UInt8}(h:wC c=true):bJ p (c::r)=bJ (p+1+jE kO r) (r.drop (jE kO r)):=by
 unfold bJ;rw[vF,h];exact rR _ _ _ _ (by simp;omega) (by simp)
theorem jeH{p:Nat}{c:UInt8}{r:List UInt8}(h:wC c=false)(h2:aM c=true):bJ p (c::r)=bJ (p+1) r:=by
 unfold bJ;rw[vF,h,h2];exact rR _ _ _ _ (by simp) (by simp)
theorem jb4{p:Nat}{c:UInt8}{r:List UInt8}{e:Int}(h:wC c=false)(h2:aM c=false)(ht:qE (c::r)=.bad e):bJ p (c::r)=⟨[],some (p,e)⟩:=by
 unfold bJ;rw[vF,h,h2,ht]
theorem jb7{p:Nat}{c:UInt8}{r:List UInt8}{k:Int}{len:Nat}{n:Int}(h:wC c=false)(h2:aM c=false)(ht:qE (c::r)=.tok k len n) :
  bJ p (c::r)=Lx.cons ⟨k,p,bs ((c::r).take len),n⟩ (bJ (p+len) ((c::r).drop len)):=by
 have hl:=bO ht;unfold bJ;rw[vF,h,h2,ht]
 simp only
 rw[rR _ (((c::r).drop len).length+1) _ _ (by simp at hl ⊢;omega) (by simp)]
theorem jtS{c:UInt8}(h:kO c=false):wC c=false/\aM c=true:=by
 have:(c.toNat:Int)=10:=by simpa [kO] using h
 simp[wC,aM,this]
theorem jb6:∀(l:List UInt8) (p:Nat),bJ p l=bJ (p+jL false l) (l.drop (jL false l))/\bJ (p+jE kO l) (l.drop (jE kO l))=bJ (p+jL true l) (l.drop (jL true l))
 |[],p=>by simp[jL,jE]
 |c::r,p=>by
  obtain⟨h1,h2⟩:=jb6 r (p+1)
  have e:∀n,p+(n+1)=p+1+n:=fun n=>by omega
  constructor
  ·cases hh:wC c with
   |true =>
    have:jL false (c::r)=jL true r+1:=by simp[jL,hh]
    rw[this,jdc hh,h2,List.drop_succ_cons,e (jL true r)]
   |false =>
    cases hs:aM c with
    |true =>
     have:jL false (c::r)=jL false r+1:=by simp[jL,hh,hs]
     rw[this,jeH hh hs,h1,List.drop_succ_cons,e (jL false r)]
    |false =>
     have:jL false (c::r)=0:=by simp[jL,hh,hs]
     rw[this];rfl
  ·cases hn:kO c with
   |true =>
    have a:jE kO (c::r)=jE kO r+1:=by simp[jE,hn]
    have b:jL true (c::r)=jL true r+1:=by simp[jL,hn]
    rw[a,b,List.drop_succ_cons,List.drop_succ_cons,e (jE kO r),e (jL true r)];exact h2
   |false =>
    obtain⟨hh,hs⟩:=jtS hn
    have a:jE kO (c::r)=0:=by simp[jE,hn]
    have b:jL true (c::r)=jL false r+1:=by simp[jL,hn]
    rw[a,b,List.drop_zero,Nat.add_zero,jeH hh hs,h1,List.drop_succ_cons,e (jL false r)]
theorem jdd(p:Nat)(l:List UInt8):bJ p l=bJ (p+jL false l) (l.drop (jL false l)):=(jb6 l p).1
def jmg:List UInt8->Prop
 |[]=>True
 |c::_=>wC c=false/\aM c=false
theorem gV:∀(b:Bool) (l:List UInt8),jmg (l.drop (jL b l))
 |b,[]=>by cases b <;> simp[jL,jmg]
 |true,c::r=>by
  unfold jL;split
  ·rw[List.drop_succ_cons];exact gV true r
  ·rw[List.drop_succ_cons];exact gV false r
 |false,c::r=>by
  cases hh:wC c with
  |true =>
   have:jL false (c::r)=jL true r+1:=by simp[jL,hh]
   rw[this,List.drop_succ_cons];exact gV true r
  |false =>
   cases hs:aM c with
   |true =>
    have:jL false (c::r)=jL false r+1:=by simp[jL,hh,hs]
    rw[this,List.drop_succ_cons];exact gV false r
   |false =>
    have:jL false (c::r)=0:=by simp[jL,hh,hs]
    rw[this];exact⟨hh,hs⟩
def qM(s:ByteArray):Lx:=bJ 0 s.data.toList
def Lx.app(ts:List Tk)(x:Lx):Lx:=⟨ts++x.toks,x.err⟩
theorem jak(ts:List Tk)(t:Tk)(x:Lx):Lx.app ts (Lx.cons t x)=Lx.app (ts++[t]) x:=by simp[Lx.app,Lx.cons]
def s7(s:ByteArray):A:=match (qM s).err with
 |some (p,e)=>.tup [.v (.slice none 0 0),intA p,intA e]
 |none=>.tup [.sl 4 ((qM s).toks.length+1) (z8 ((qM s).toks++[rI s])),intA 0,intA 0]
theorem jn8{s:ByteArray}{ts:List Tk}{p:Nat}{e:Int}(h:qM s=⟨ts,some (p,e)⟩):s7 s=.tup [.v (.slice none 0 0),intA p,intA e]:=by unfold s7;rw[h]
theorem jpn{s:ByteArray}{ts:List Tk}(h:qM s=⟨ts,none⟩):s7 s=.tup [.sl 4 (ts.length+1) (z8 ts++cR (rI s)),intA 0,intA 0]:=by
 unfold s7;rw[h];simp[z8]
theorem jlu(ts:List Tk)(t:Tk):z8 (ts++[t])=z8 ts++cR t:=by simp[z8]
theorem aZ(l:List UInt8)(len:Nat)(h:len<=l.length):(bs (l.take len)).size=len:=by rw[eH,List.length_take];omega
def u8A(n:Int):A:=.v (.int .u8 n)
@[irreducible] def qK(f:Nat->Int):List A:=(List.range 256).map fun j=>u8A (f j)
theorem xG(f:Nat->Int):(qK f).length=256:=by unfold qK;simp
theorem jfK(f:Nat->Int)(j:Nat)(h:j<256):(qK f)[j]?=some (u8A (f j)):=by unfold qK;simp[h]
theorem jaz(f:Nat->Int):∀a∈qK f,∃x,a=.v x:=fun a ha=>by
 unfold qK at ha;obtain⟨j,_,rfl⟩:=List.mem_map.1 ha;exact⟨_,rfl⟩
theorem iM(f:Nat->Int)(i:Nat)(d:Int):(qK f).set i (u8A d)=qK fun j=>if j=i then d else f j:=by
 apply List.ext_getElem?;intro j;rw[List.getElem?_set];by_cases hj:j<256
 ·rw[jfK _ j hj,jfK _ j hj,xG];by_cases hij:i=j
  ·subst hij;rw[if_pos rfl,if_pos hj,if_pos rfl]
  ·rw[if_neg hij,if_neg (fun e=>hij e.symm)]
 ·have h1:∀f,(qK f)[j]?=none:=fun f=>List.getElem?_eq_none (by rw[xG];omega)
  rw[h1,h1,xG];split
  ·rename_i h;subst h;rw[if_neg hj]
  ·rfl
theorem bD{f g:Nat->Int}(h:∀j,j<256->f j=g j):qK f=qK g:=by
 unfold qK
 exact List.map_congr_left fun j hj=>by rw[h j (List.mem_range.1 hj)]
def f1(k:Nat)(j:Nat):Int:=if 97<=j/\j<k then 2 else 0
def f2(k:Nat)(j:Nat):Int:=if 48<=j/\j<k then 3 else f1 123 j
def l3:List Int:=[32,9,10]
def l5:List Int:=[123,125,91,93,40,41,61,59,44,60,62,43,45,42,47,33]
def f3(k:Nat)(j:Nat):Int:=if (j:Int)∈l3.take k then 1 else f2 58 j
def f5(k:Nat)(j:Nat):Int:=if (j:Int)∈l5.take k then 5 else f3 3 j
def classOf(j:Nat):Int:=if j=35 then 4 else f5 16 j
theorem dZ(l:List Int)(k:Nat)(hk:k<l.length)(x:Int):x∈l.take (k+1)↔x∈l.take k∨x=l[k]:=by
 rw[List.take_succ_eq_append_getElem hk,List.mem_append,List.mem_singleton]
theorem jgY(l:List Int)(i:Nat)(hi:i<l.length):jD 1 i (l.map u8A)=[.v (.int .u8 l[i])]:=y8 _ l i hi
theorem jrL(k:Nat)(h1:97<=k)(h2:k<256):(qK (f1 k)).set k (u8A 2)=qK (f1 (k+1)):=by
 rw[iM]
 refine bD fun j hj=>?_
 unfold f1;by_cases h:j=k
 ·subst h;rw[if_pos rfl,if_pos (by omega)]
 ·rw[if_neg h];by_cases h3:97<=j/\j<k
  ·rw[if_pos h3,if_pos (by omega)]
  ·rw[if_neg h3,if_neg (by omega)]
theorem jrM(k:Nat)(h1:48<=k)(h2:k<256):(qK (f2 k)).set k (u8A 3)=qK (f2 (k+1)):=by
 rw[iM]
 refine bD fun j hj=>?_
 unfold f2;by_cases h:j=k
 ·subst h;rw[if_pos rfl,if_pos (by omega)]
 ·rw[if_neg h];by_cases h3:48<=j/\j<k
  ·rw[if_pos h3,if_pos (by omega)]
  ·rw[if_neg h3,if_neg (by omega)]
theorem jrN(k:Nat)(hk:k<l3.length)(i:Nat)(hi:(i:Int)=l3[k]):(qK (f3 k)).set i (u8A 1)=qK (f3 (k+1)):=by
 rw[iM]
 refine bD fun j hj=>?_
 unfold f3;by_cases h:j=i
 ·subst h;rw[if_pos rfl,if_pos ((dZ l3 k hk _).2 (.inr hi))]
 ·rw[if_neg h];by_cases h3:(j:Int)∈l3.take k
  ·rw[if_pos h3,if_pos ((dZ l3 k hk _).2 (.inl h3))]
  ·rw[if_neg h3,if_neg fun e=>((dZ l3 k hk _).1 e).elim h3 fun e=>by omega]
theorem jrO(k:Nat)(hk:k<l5.length)(i:Nat)(hi:(i:Int)=l5[k]):(qK (f5 k)).set i (u8A 5)=qK (f5 (k+1)):=by
 rw[iM]
 refine bD fun j hj=>?_
 unfold f5;by_cases h:j=i
 ·subst h;rw[if_pos rfl,if_pos ((dZ l5 k hk _).2 (.inr hi))]
 ·rw[if_neg h];by_cases h3:(j:Int)∈l5.take k
  ·rw[if_pos h3,if_pos ((dZ l5 k hk _).2 (.inl h3))]
  ·rw[if_neg h3,if_neg fun e=>((dZ l5 k hk _).1 e).elim h3 fun e=>by omega]
theorem js5(k:Nat)(hk:k<l3.length):0<=l3[k]/\l3[k]<256:=by
 have:∀x∈l3,0<=x/\x<256:=by decide
 exact this _ (List.getElem_mem hk)
theorem js6(k:Nat)(hk:k<l5.length):0<=l5[k]/\l5[k]<256:=by
 have:∀x∈l5,0<=x/\x<256:=by decide
 exact this _ (List.getElem_mem hk)
theorem u8r{n:Int}(h:0<=n/\n<=255):lo .u8<=n/\n<=hi .u8:=h
theorem jt6:(List.range 256).map (fun _=>u8A 0)=qK (f1 97):=by
 unfold qK
 exact List.map_congr_left fun j hj=>by unfold f1;rw[if_neg (by omega)]
theorem jql:(List.range 256).map (fun _=>u8A 0)=qK (fun _=>0):=by unfold qK;rfl
theorem jeo:Spec Tryz.prog 105 [] [] fun _ r=>r=.agg (qK classOf):=by
 refine eN jR qB 0 Tryz.func105 rfl ?_;intro _;conv=>whnf
 refine jC [0,1] ?_;conv=>whnf
 refine rS (fun k:Nat=>[(2,.v (.int .u8 k))]) (fun k=>[qK fun _=>0,qK (f1 k)]) (fun _=>[]) (fun k=>97<=k/\k<=123) (fun k=>123-k) 97 ?_ ⟨by omega,by omega⟩ ?_
 ·unfold iU;repeat' constructor
  ·show _=[qK _,qK _];rw[<- jt6,<- jql];rfl
 ·rintro k ⟨hk,hk2⟩;conv=>whnf
  by_cases hlt:k<=122
  ·refine j9 (by simp;omega) ?_;conv=>whnf
   refine⟨⟨by omega,by omega⟩,?_⟩;conv=>whnf
   refine bR (by rw[xG];simp;omega) ?_;conv=>whnf
   refine⟨u8r (by omega),?_⟩;conv=>whnf
   refine⟨k+1,i6 ?_,⟨by omega,by omega⟩,by omega⟩;unfold iU;repeat' constructor
   ·exact congrArg (fun x=>[qK fun _=>0,x]) (by
     show(qK (f1 k)).set (0+k*1) (u8A 2)=_
     rw[Nat.mul_one,Nat.zero_add];exact jrL k (by omega) (by omega))
  ·refine jW (by simp;omega) ?_
   obtain rfl:k=123:=by omega
   conv=>whnf
   refine jC [0,1] ?_;conv=>whnf
   refine rS (fun k:Nat=>[(3,.v (.int .u8 k))]) (fun k=>[qK fun _=>0,qK (f2 k)]) (fun _=>[]) (fun k=>48<=k/\k<=58) (fun k=>58-k) 48 ?_ ⟨by omega,by omega⟩ ?_
   ·unfold iU;repeat' constructor
    ·exact congrArg (fun x=>[qK fun _=>0,x]) (bD fun j hj=>by unfold f2;rw[if_neg (by omega)])
   ·rintro k ⟨hk,hk2⟩;conv=>whnf
    by_cases hlt:k<=57
    ·refine j9 (by simp;omega) ?_;conv=>whnf
     refine⟨⟨by omega,by omega⟩,?_⟩;conv=>whnf
     refine bR (by rw[xG];simp;omega) ?_;conv=>whnf
     refine⟨u8r (by omega),?_⟩;conv=>whnf
     refine⟨k+1,i6 ?_,⟨by omega,by omega⟩,by omega⟩;unfold iU;repeat' constructor
     ·exact congrArg (fun x=>[qK fun _=>0,x]) (by
       show(qK (f2 k)).set (0+k*1) (u8A 3)=_
       rw[Nat.mul_one,Nat.zero_add];exact jrM k (by omega) (by omega))
    ·refine jW (by simp;omega) ?_
     obtain rfl:k=58:=by omega
     conv=>whnf
     refine jC [0,1,22] ?_;conv=>whnf
     refine rS (fun k:Nat=>[(21,.sl 1 3 (l3.map u8A)),(23,.v (.int .i64 k))]) (fun k=>[qK fun _=>0,qK (f3 k)]) (fun _=>[.pub 1 3 (l3.map u8A)]) (fun k=>k<=3) (fun k=>3-k) 0 ?_ (by omega) ?_
     ·unfold iU;repeat' constructor
     ·rintro k hk;conv=>whnf
      by_cases hlt:k<3
      ·have hr3:=js5 k hlt;refine j9 (by simp;omega) ?_;conv=>whnf
       refine⟨⟨by omega,by omega⟩,?_⟩;conv=>whnf
       rw[show jD 1 (Int.toNat (k:Int)) (List.map u8A l3)=[.v (.int .u8 l3[k])] from jgY l3 k hlt]
       obtain⟨m,hm⟩:∃m:Nat,(m:Int)=l3[k]'hlt:=⟨(l3[k]'hlt).toNat,by omega⟩
       rw[<- hm] at hr3 ⊢;conv=>whnf
       refine⟨⟨by omega,by omega⟩,?_⟩;conv=>whnf
       refine bR (by rw[xG];simp;omega) ?_;conv=>whnf
       refine⟨jH (by omega),?_⟩;conv=>whnf
       refine⟨k+1,i6 ?_,by omega,by omega⟩;unfold iU;repeat' constructor
       ·exact congrArg (fun x=>[qK fun _=>0,x]) (by
         show(qK (f3 k)).set (0+m*1) (u8A 1)=_
         rw[Nat.mul_one,Nat.zero_add];exact jrN k hlt m hm)
      ·refine jW (by simp;omega) ?_
       obtain rfl:k=3:=by omega
       conv=>whnf
       refine jC [0,1,32] ?_;conv=>whnf
       refine rS (fun k:Nat=>[(31,.sl 1 16 (l5.map u8A)),(33,.v (.int .i64 k))]) (fun k=>[qK fun _=>0,qK (f5 k)]) (fun _=>[.pub 1 3 (l3.map u8A),.pub 1 16 (l5.map u8A)]) (fun k=>k<=16) (fun k=>16-k) 0 ?_ (by omega) ?_
       ·unfold iU;repeat' constructor
       ·rintro k hk;conv=>whnf
        by_cases hlt:k<16
        ·have hr5:=js6 k hlt;refine j9 (by simp;omega) ?_;conv=>whnf
         refine⟨⟨by omega,by omega⟩,?_⟩;conv=>whnf
         rw[show jD 1 (Int.toNat (k:Int)) (List.map u8A l5)=[.v (.int .u8 l5[k])] from jgY l5 k hlt]
         obtain⟨m,hm⟩:∃m:Nat,(m:Int)=l5[k]'hlt:=⟨(l5[k]'hlt).toNat,by omega⟩
         rw[<- hm] at hr5 ⊢;conv=>whnf
         refine⟨⟨by omega,by omega⟩,?_⟩;conv=>whnf
         refine bR (by rw[xG];simp;omega) ?_;conv=>whnf
         refine⟨jH (by omega),?_⟩;conv=>whnf
         refine⟨k+1,i6 ?_,by omega,by omega⟩;unfold iU;repeat' constructor
         ·exact congrArg (fun x=>[qK fun _=>0,x]) (by
           show(qK (f5 k)).set (0+m*1) (u8A 5)=_
           rw[Nat.mul_one,Nat.zero_add];exact jrO k hlt m hm)
        ·refine jW (by simp;omega) ?_
         obtain rfl:k=16:=by omega
         have hlen0:=xG fun _=>0
         have hlen5:=xG (f5 16)
         have hfin:(qK (f5 16)).set 35 (u8A 4)=qK classOf:=by rw[iM];rfl
         have hpl:=jaz classOf
         have hu:n9 (qK classOf)=qK classOf:=by kernel_rfl
         generalize qK (fun _=>0)=L0 at *;generalize qK (f5 16)=L5 at *;generalize qK classOf=Lc at *;conv=>whnf
         refine⟨⟨by omega,by omega⟩,?_⟩;conv=>whnf
         refine bR (by rw[hlen5];simp) ?_;generalize hLs:L5.set (0+Int.toNat 35*_) _=Ls;obtain rfl:Ls=Lc:=hLs.symm.trans hfin
         have hlen:Ls.length=256:=by rw[<- hfin,List.length_set,hlen5]
         conv=>whnf
         refine jbU (cs:=Ls) (n:=256) (Nat.le_of_eq hlen.symm) ?_;rw[List.take_of_length_le (Nat.le_of_eq hlen)];conv=>whnf
         rw[hu,hlen];conv=>whnf
         refine pT (ds:=Ls) (cs:=L0) [] (by rw[hlen,hlen0]) ?_;rw[List.nil_append];conv=>whnf
         refine jbU (cs:=Ls) (n:=256) (Nat.le_of_eq hlen.symm) ?_;rw[List.take_of_length_le (Nat.le_of_eq hlen)];conv=>whnf
         rw[hu,jli hpl]
theorem jdC(f:Nat->Int)(i:Nat)(hi:i<256):jD 1 i (qK f)=[.v (.int .u8 (f i))]:=by
 unfold qK;have:=y8 (fun j=>u8A (f j)) (List.range 256) i (by simpa using hi);rw[this];simp[u8A]
def xI(p:UInt8->Bool)(l:List UInt8):Int:=if jE p l<l.length then(jE p l:Int) else -1
theorem jkp(p:UInt8->Bool)(l:List UInt8)(k:Nat)(hk:k<l.length)(h:jE p l=k+jE p (l.drop k))(hp:p l[k]=true):jE p l=k+1+jE p (l.drop (k+1)):=by
 rw[h,yC l k hk];simp only[jE,hp];omega
theorem jdO(p:UInt8->Bool)(l:List UInt8)(k:Nat)(hk:k<l.length)(h:jE p l=k+jE p (l.drop k))(hp:p l[k]=false):jE p l=k:=by
 rw[h,yC l k hk];simp only[jE,hp];omega
theorem jfB(c:UInt8):0<=(c.toNat:Int)/\(c.toNat:Int)<256:=⟨by omega,by have:=c.toNat_lt;omega⟩
theorem jeK(b:ByteArray)(hb:b.size<=1000000000):Spec Tryz.prog 110 [] [.sl 1 b.size (wI b),.v (.int .u8 10)] fun _ r=>r=intA (xI kO b.data.toList):=by
 have hsl:=zR b;refine eN jR qB 0 Tryz.func110 rfl ?_;intro _;conv=>whnf
 refine jC [0,1,4,7] ?_;conv=>whnf
 refine jI (fun k:Nat=>[(8,.v (.int .i64 k))]) (fun _=>[]) (fun _=>[]) (fun k=>k<=b.size/\jE kO b.data.toList=k+jE kO (b.data.toList.drop k)) (fun k=>b.size-k) 0 ?_ ⟨Nat.zero_le _,by simp⟩ ?_
 ·repeat' constructor
 ·rintro k ⟨hk,hinv⟩;conv=>whnf
  by_cases hlt:k<b.size
  ·refine j9 (by simp;omega) ?_;conv=>whnf
   refine⟨⟨by omega,by omega⟩,?_⟩;conv=>whnf
   rw[show jD 1 (Int.toNat (k:Int)) (wI b)=_ from lI b k (by omega)];have h1:=jkp kO b.data.toList k (by omega) hinv;have h2:=jdO kO b.data.toList k (by omega) hinv;generalize b.data.toList[k]'(by omega)=c at *;conv=>whnf
   cases hq:kO c
   ·have hc:(c.toNat:Int)=10:=by simpa [kO] using hq
    refine j9 (by simp[hc]) ?_;conv=>whnf
    have:xI kO b.data.toList=k:=by unfold xI;rw[h2 hq,if_pos (by omega)]
    rw[this];rfl
   ·have hc:¬(c.toNat:Int)=10:=by simpa [kO] using hq
    refine jW (by simp;omega) ?_;conv=>whnf
    refine⟨jH (by omega),?_⟩;conv=>whnf
    refine⟨k+1,zZ ?_,⟨by omega,h1 hq⟩,by omega⟩;repeat' constructor
  ·refine jW (by simp;omega) ?_
   obtain rfl:k=b.size:=by omega
   conv=>whnf
   rw[List.drop_of_length_le (by omega)] at hinv
   have:xI kO b.data.toList = -1:=by unfold xI;rw[hinv,if_neg (by simp[jE])]
   rw[this];rfl
theorem oK(l:List ByteArray)(s:ByteArray)(hl:l.length<=1000000):Spec Tryz.prog 91 [] [.sl 1 l.length (yV l),.v (.string s)] fun _ r=>∃n:Int,(-1<=n/\n<=1000000)/\decide (0<=n)=qD l s/\r=intA n:=by
 refine eN jR qB 0 Tryz.func91 rfl ?_;intro _;conv=>whnf
 refine jC [0,1,4,7] ?_;conv=>whnf
 refine jI (fun k:Nat=>[(8,.v (.int .i64 k))]) (fun _=>[]) (fun _=>[]) (fun k=>k<=l.length/\qD (l.take k) s=false) (fun k=>l.length-k) 0 ?_ ⟨Nat.zero_le _,by simp[qD]⟩ ?_
 ·repeat' constructor
 ·rintro k ⟨hk,hinv⟩;conv=>whnf
  by_cases hlt:k<l.length
  ·refine j9 (by simp;omega) ?_;conv=>whnf
   refine⟨⟨by omega,by omega⟩,?_⟩;conv=>whnf
   rw[show jD 1 (Int.toNat (k:Int)) (yV l)=[.v (.string l[k])] from fL l k hlt];conv=>whnf
   cases hq:decide (l[k]=s)
   ·refine jW (by rw[<- hq];exact decide_eq_decide.2 eq_comm) ?_;conv=>whnf
    refine⟨jH (by omega),?_⟩;conv=>whnf
    refine⟨k+1,zZ ?_,⟨hlt,by rw[sX l s k hlt,hinv,hq];rfl⟩,by omega⟩;repeat' constructor
   ·refine j9 (by rw[<- hq];exact decide_eq_decide.2 eq_comm) ?_;conv=>whnf
    have:qD l s=true:=List.any_eq_true.2 ⟨l[k],List.getElem_mem hlt,hq⟩;exact⟨k,by omega,by rw[this];simp,rfl⟩
  ·refine jW (by simp;omega) ?_
   obtain rfl:k=l.length:=by omega
   rw[List.take_length] at hinv;conv=>whnf
   exact⟨-1,by omega,by rw[hinv];rfl,rfl⟩
theorem jcd(l:List ByteArray)(s:ByteArray)(hl:l.length<=1000000):Spec Tryz.prog 114 [] [.sl 1 l.length (yV l),.v (.string s)] fun _ r=>r=zK (qD l s):=by
 refine eN jR qB 0 Tryz.func114 rfl ?_;intro _;conv=>whnf
 refine kL [] (oK l s hl) ?_;rintro r ⟨n,hn,hq,rfl⟩;conv=>whnf
 rw[hq];rfl
theorem jgn(k:Int):Spec Tryz.prog 111 [] [.v (.int .u8 k)] fun _ r=>r=zK (decide (k=2)||decide (k=3)):=by
 refine eN jR qB 0 Tryz.func111 rfl ?_;intro _;conv=>whnf
 cases h:decide (k=2)
 ·conv=>whnf
  simp[zK,h]
 ·conv=>whnf
  simp[zK,h]
theorem jik(k:Int):Spec Tryz.prog 112 [] [.v (.int .u8 k)] fun _ r=>r=zK (decide (k=3)):=by
 refine eN jR qB 0 Tryz.func112 rfl ?_;intro _;conv=>whnf
 rfl
def dA(p:Int->Bool)(c:UInt8):Bool:=p (classOf c.toNat)
theorem jiw(f:Nat)(p:Int->Bool)(hf:∀k,Spec Tryz.prog f [] [.v (.int .u8 k)] fun _ r=>r=zK (p k))(c:UInt8) :
  Spec Tryz.prog 109 [[.clo f []]] [.v (.int .u8 (c.toNat:Int)),.box 0 0,.pp (qK classOf)] fun outs r=>outs=[[.clo f []]]/\r=zK (!dA p c):=by
 have hc:=jfB c
 obtain⟨L,hL⟩:∃L,L=qK classOf:=⟨_,rfl⟩
 rw[<- hL];refine eN jsm qB 1 Tryz.func109 rfl ?_;intro _;conv=>whnf
 refine⟨⟨by omega,by omega⟩,?_⟩;generalize hq:jD _ (Int.toNat (c.toNat:Int)) L=q
 obtain rfl:q=[.v (.int .u8 (classOf c.toNat))]:=by rw[<- hq,hL];exact jdC classOf c.toNat (by omega)
 conv=>whnf
 refine jcH [] rfl (fun _=>hf _) ?_;rintro r rfl;conv=>whnf
 exact⟨rfl,rfl⟩
theorem jeE(f:Nat)(p:Int->Bool)(hf:∀k,Spec Tryz.prog f [] [.v (.int .u8 k)] fun _ r=>r=zK (p k))(b:ByteArray)(hb:b.size<=1000000000) :
  Spec Tryz.prog 108 [[.clo f []]] [.sl 1 b.size (wI b),.clo 109 [.box 0 0,.pp (qK classOf)]] fun outs r=>outs=[[.clo f []]]/\r=intA (xI (dA p) b.data.toList):=by
 have hsl:=zR b;have hno:=jiw f p hf
 obtain⟨L,hL⟩:∃L,L=qK classOf:=⟨_,rfl⟩
 rw[<- hL] at hno ⊢;refine eN jR qB 1 Tryz.func108 rfl ?_;intro _;conv=>whnf
 refine jC [0,1,4,7] ?_;conv=>whnf
 refine jI (fun k:Nat=>[(8,.v (.int .i64 k))]) (fun _=>[[.clo f []]]) (fun _=>[]) (fun k=>k<=b.size/\jE (dA p) b.data.toList=k+jE (dA p) (b.data.toList.drop k)) (fun k=>b.size-k) 0 ?_ ⟨Nat.zero_le _,by simp⟩ ?_
 ·repeat' constructor
 ·rintro k ⟨hk,hinv⟩;conv=>whnf
  by_cases hlt:k<b.size
  ·refine j9 (by simp;omega) ?_;conv=>whnf
   refine⟨⟨by omega,by omega⟩,?_⟩;conv=>whnf
   rw[show jD 1 (Int.toNat (k:Int)) (wI b)=_ from lI b k (by omega)];have h1:=jkp (dA p) b.data.toList k (by omega) hinv;have h2:=jdO (dA p) b.data.toList k (by omega) hinv;generalize b.data.toList[k]'(by omega)=c at *;conv=>whnf
   refine jT 0 [] (hno c) ?_;rintro o r ⟨ho,rfl⟩
   obtain rfl:o=[.clo f []]:=by simpa using ho
   conv=>whnf
   cases hq:dA p c
   ·conv=>whnf
    have:xI (dA p) b.data.toList=k:=by unfold xI;rw[h2 hq,if_pos (by omega)]
    rw[this];exact⟨rfl,rfl⟩
   ·conv=>whnf
    refine⟨jH (by omega),?_⟩;conv=>whnf
    refine⟨k+1,zZ ?_,⟨by omega,h1 hq⟩,by omega⟩;repeat' constructor
  ·refine jW (by simp;omega) ?_
   obtain rfl:k=b.size:=by omega
   conv=>whnf
   rw[List.drop_of_length_le (by omega)] at hinv
   have:xI (dA p) b.data.toList = -1:=by unfold xI;rw[hinv,if_neg (by simp[jE])]
   rw[this];exact⟨rfl,rfl⟩
theorem jdN(f:Nat)(p:Int->Bool)(hf:∀k,Spec Tryz.prog f [] [.v (.int .u8 k)] fun _ r=>r=zK (p k))(b:ByteArray)(hb:b.size<=1000000000) :
  Spec Tryz.prog 107 [] [.clo f [],.pp [.v (.string b)],.pp (qK classOf)] fun _ r=>r=intA (jE (dA p) b.data.toList:Nat):=by
 have hsl:=zR b;have hidx:=jeE f p hf b hb;have hle:=xJ (dA p) b.data.toList
 obtain⟨L,hL⟩:∃L,L=qK classOf:=⟨_,rfl⟩
 rw[<- hL] at hidx ⊢;refine eN jR qB 0 Tryz.func107 rfl ?_;intro _;conv=>whnf
 refine jT 0 [] hidx ?_;rintro o r ⟨ho,rfl⟩
 obtain rfl:o=[.clo f []]:=by simpa using ho
 conv=>whnf
 by_cases hlt:jE (dA p) b.data.toList<b.data.toList.length
 ·have hv:xI (dA p) b.data.toList=(jE (dA p) b.data.toList:Nat):=by unfold xI;rw[if_pos hlt]
  generalize xI (dA p) b.data.toList=v at *;refine jW (b:=decide (v<0)) (jG (by omega)) ?_;conv=>whnf
  rw[hv];rfl
 ·have hv:xI (dA p) b.data.toList = -1:=by unfold xI;rw[if_neg hlt]
  generalize xI (dA p) b.data.toList=v at *;refine j9 (b:=decide (v<0)) (jJ (by omega)) ?_;conv=>whnf
  have:jE (dA p) b.data.toList=b.size:=by omega
  rw[this];rfl
theorem jkM(c:UInt8):dA (fun k=>decide (k=2)||decide (k=3)) c=wD c:=by
 have:∀n:Fin 256,(decide (classOf n.val=2)||decide (classOf n.val=3))=((decide (97<=(n.val:Int))&&decide ((n.val:Int)<=122))||(decide (48<=(n.val:Int))&&decide ((n.val:Int)<=57))):=by decide +kernel
 exact this ⟨c.toNat,c.toNat_lt⟩
theorem jfL(c:UInt8):dA (fun k=>decide (k=3)) c=wG c:=by
 have:∀n:Fin 256,decide (classOf n.val=3)=(decide (48<=(n.val:Int))&&decide ((n.val:Int)<=57)):=by decide +kernel
 exact this ⟨c.toNat,c.toNat_lt⟩
theorem uM{p q:UInt8->Bool}(h:∀c,p c=q c)(l:List UInt8):jE p l=jE q l:=by
 have:p=q:=funext h;rw[this]
theorem jlB(b:ByteArray)(hb:b.size<=1000000000):Spec Tryz.prog 107 [] [.clo 111 [],.pp [.v (.string b)],.pp (qK classOf)] fun _ r=>r=intA (jE wD b.data.toList:Nat):=by
 have:=jdN _ _ jgn b hb;rw[uM jkM] at this;exact this
theorem jnk(b:ByteArray)(hb:b.size<=1000000000):Spec Tryz.prog 107 [] [.clo 112 [],.pp [.v (.string b)],.pp (qK classOf)] fun _ r=>r=intA (jE wG b.data.toList:Nat):=by
 have:=jdN _ _ jik b hb;rw[uM jfL] at this;exact this
theorem jrB(c:UInt8):decide (classOf c.toNat=1)=aM c:=by
 have:∀n:Fin 256,decide (classOf n.val=1)=((decide ((n.val:Int)=32)||decide ((n.val:Int)=9))||decide ((n.val:Int)=10)):=by decide +kernel
 exact this ⟨c.toNat,c.toNat_lt⟩
theorem jmh(c:UInt8):decide (classOf c.toNat=4)=wC c:=by
 have:∀n:Fin 256,decide (classOf n.val=4)=decide ((n.val:Int)=35):=by decide +kernel
 exact this ⟨c.toNat,c.toNat_lt⟩
theorem jtr(c:UInt8):decide (classOf c.toNat=2)=isL c:=by
 have:∀n:Fin 256,decide (classOf n.val=2)=(decide (97<=(n.val:Int))&&decide ((n.val:Int)<=122)):=by decide +kernel
 exact this ⟨c.toNat,c.toNat_lt⟩
theorem jtq(c:UInt8):decide (classOf c.toNat=3)=wG c:=jfL c
theorem jqz(c:UInt8):decide (classOf c.toNat=5)=qD tB (bs [c]):=by
 have:∀n:Fin 256,decide (classOf n.val=5)=qD tB (bs [UInt8.ofNat n.val]):=by decide +kernel
 have h:=this ⟨c.toNat,c.toNat_lt⟩;simpa using h
end Go.Proofs.YtdnnmiemgmgffaaGreatDoor.Vm
namespace Go.Proofs.YtdnnmiemgmgffaaGreatDoor.Vm
open Go.RowKit Go.Shelf
def puR(l:List UInt8):A:=if xK 0 l<0 then .tup [.v (.int .u64 2147483647),.v (.iface 177 (.int .i64 1))] else .tup [.v (.int .u64 (xK 0 l)),.v .nilIface]
theorem jj7{n:Int}(h:0<=n/\n<=18446744073709551615):lo .u64<=n/\n<=hi .u64:=h
theorem jiI(s:ByteArray)(hs:s.size<=1000000000)(hs1:1<=s.size)(hd:∀c∈s.data.toList,wG c=true) :
  Spec Tryz.prog 126 [] [.v (.string s),.v (.int .i64 10),.v (.int .i64 31)] fun _ r=>r=puR s.data.toList:=by
 have hsl:=zR s;refine eN jR qB 0 Tryz.func126 rfl ?_;intro _;conv=>whnf
 refine jW (jG fun e=>by have h0:s.size=0:=(congrArg ByteArray.size e).trans rfl;omega) ?_;conv=>whnf
 refine⟨jj7 (by omega),?_⟩;conv=>whnf
 refine⟨⟨by omega,by decide⟩,?_⟩;rw[show(1:Int)*2 ^ (Int.toNat 31)=2147483648 from by decide];conv=>whnf
 refine⟨jj7 (by omega),?_⟩;conv=>whnf
 refine⟨jj7 (by omega),?_⟩;conv=>whnf
 refine jC [0,1,8,9,10,11,12,99,100] ?_;conv=>whnf
 refine jI (fun x:Nat×Int=>[(13,.v (.int .u64 x.2)),(101,.v (.int .i64 x.1))]) (fun _=>[]) (fun _=>[]) (fun x=>x.1<=s.size/\0<=x.2/\x.2<=2147483647/\xK x.2 (s.data.toList.drop x.1)=xK 0 s.data.toList) (fun x=>s.size-x.1) (0,0) ?_ ⟨Nat.zero_le _,by simp,by simp,by simp⟩ ?_
 ·repeat' constructor
 ·rintro⟨j,v⟩ ⟨hj,hv0,hv1,hinv⟩
  simp only at hj hv0 hv1 hinv
  conv=>whnf
  by_cases hlt:j<s.size
  ·refine j9 (by simp;omega) ?_;conv=>whnf
   refine⟨⟨by omega,by omega⟩,?_⟩;conv=>whnf
   rw[show jD 1 (Int.toNat (j:Int)) (wI s)=_ from lI s j (by omega)];have hdj:=hd _ (List.getElem_mem (l:=s.data.toList) (n:=j) (by omega));have hdr:=yC s.data.toList j (by omega);generalize hc:s.data.toList[j]'(by omega)=c at *;have hr:=jjN hdj;conv=>whnf
   rw[show decide ((c.toNat:Int)=95)=false from jG (by omega)];conv=>whnf
   rw[show decide ((48:Int)<=(c.toNat:Int))=true from jJ (by omega)];conv=>whnf
   rw[show decide ((c.toNat:Int)<=57)=true from jJ (by omega)];conv=>whnf
   refine⟨u8r (by omega),?_⟩;conv=>whnf
   refine⟨u8r (by omega),?_⟩;conv=>whnf
   rw[show decide ((10:Int)<=(c.toNat:Int)-48)=false from jG (by omega)];conv=>whnf
   refine jW (b:=decide ((1844674407370955162:Int)<=v)) (jG (by omega)) ?_;conv=>whnf
   refine⟨jj7 (by omega),?_⟩;conv=>whnf
   refine⟨jj7 (by omega),?_⟩;conv=>whnf
   refine⟨jj7 (by omega),?_⟩;conv=>whnf
   refine⟨jj7 (by omega),?_⟩;conv=>whnf
   rw[show decide (v*10+((c.toNat:Int)-48)<v*10)=false from jG (by omega)];conv=>whnf
   have hst:xK v (s.data.toList.drop j)=if 2147483647<10*v+(c.toNat:Int)-48 then -1 else xK (10*v+(c.toNat:Int)-48) (s.data.toList.drop (j+1)):=by rw[hdr];rfl
   have hv2:v*10+((c.toNat:Int)-48)=10*v+(c.toNat:Int)-48:=by omega
   by_cases hbig:2147483647<10*v+(c.toNat:Int)-48
   ·rw[if_pos hbig] at hst
    have hf:xK 0 s.data.toList<0:=by rw[<- hinv,hst];decide
    refine j9 (b:=decide ((2147483647:Int)<v*10+((c.toNat:Int)-48))) (jJ (by omega)) ?_;conv=>whnf
    unfold puR;rw[if_pos hf];rfl
   ·rw[if_neg hbig] at hst;refine jW (b:=decide ((2147483647:Int)<v*10+((c.toNat:Int)-48))) (jG (by omega)) ?_;conv=>whnf
    refine⟨jH (by omega),?_⟩;conv=>whnf
    refine⟨(j+1,v*10+((c.toNat:Int)-48)),zZ ?_,⟨by simp only;omega,by simp only;omega,by simp only;omega,by simp only;rw[hv2,<- hst,hinv]⟩,by simp only;omega⟩;repeat' constructor
  ·refine jW (by simp;omega) ?_;rw[List.drop_of_length_le (by omega)] at hinv
   have hf:xK 0 s.data.toList=v:=by rw[<- hinv];rfl
   conv=>whnf
   unfold puR;rw[hf,if_neg (by omega)]
def rP:Go.Shelf.Ren:=⟨fun|17=>127|21=>136|22=>137|23=>138|24=>139|25=>163|26=>164|27=>165|28=>175|29=>184|30=>188|31=>189|32=>190|33=>191|34=>193|35=>162|36=>194|37=>195|38=>196|39=>198|40=>199|n=>n,fun|22=>154|24=>156|34=>177|36=>176|37=>151|39=>179|44=>198|47=>207|48=>208|50=>210|52=>220|55=>222|59=>224|60=>194|61=>225|65=>226|66=>227|67=>61|n=>n,fun|2=>3|3=>4|4=>5|n=>n⟩
theorem jcg:LaysPu.n17 Tryz.prog rP where
 mixed:=by kernel_rfl
 f17:=Tryz.func127.trans (congrArg some (by kernel_rfl))
 f21:=Tryz.func136.trans (congrArg some (by kernel_rfl))
 f22:=Tryz.func137.trans (congrArg some (by kernel_rfl))
 f23:=Tryz.func138.trans (congrArg some (by kernel_rfl))
 f24:=Tryz.func139.trans (congrArg some (by kernel_rfl))
 f25:=Tryz.func163.trans (congrArg some (by kernel_rfl))
 f26:=Tryz.func164.trans (congrArg some (by kernel_rfl))
 f27:=Tryz.func165.trans (congrArg some (by kernel_rfl))
 f28:=Tryz.func175.trans (congrArg some (by kernel_rfl))
 f29:=Tryz.func184.trans (congrArg some (by kernel_rfl))
 f30:=Tryz.func188.trans (congrArg some (by kernel_rfl))
 f31:=Tryz.func189.trans (congrArg some (by kernel_rfl))
 f32:=Tryz.func190.trans (congrArg some (by kernel_rfl))
 f33:=Tryz.func191.trans (congrArg some (by kernel_rfl))
 f34:=Tryz.func193.trans (congrArg some (by kernel_rfl))
 f35:=Tryz.func162.trans (congrArg some (by kernel_rfl))
 f36:=Tryz.func194.trans (congrArg some (by kernel_rfl))
 f37:=Tryz.func195.trans (congrArg some (by kernel_rfl))
 f38:=Tryz.func196.trans (congrArg some (by kernel_rfl))
 f39:=Tryz.func198.trans (congrArg some (by kernel_rfl))
 f40:=Tryz.func199.trans (congrArg some (by kernel_rfl))
 t0:=Tryz.underlying0
 a0:=Tryz.isAgg0
 z0:=Tryz.sizeOf0
 v0:=Tryz.zeroValue0
 i0:=by kernel_rfl
 t2:=Tryz.underlying2
 a2:=Tryz.isAgg2
 z2:=Tryz.sizeOf2
 v2:=Tryz.zeroValue2
 i2:=by kernel_rfl
 t3:=Tryz.underlying3
 a3:=Tryz.isAgg3
 z3:=Tryz.sizeOf3
 v3:=Tryz.zeroValue3
 i3:=by kernel_rfl
 t4:=Tryz.underlying4
 a4:=Tryz.isAgg4
 z4:=Tryz.sizeOf4
 v4:=Tryz.zeroValue4
 i4:=by kernel_rfl
 t5:=Tryz.underlying5
 a5:=Tryz.isAgg5
 z5:=Tryz.sizeOf5
 v5:=Tryz.zeroValue5
 i5:=by kernel_rfl
 t9:=Tryz.underlying9
 a9:=Tryz.isAgg9
 z9:=Tryz.sizeOf9
 v9:=Tryz.zeroValue9
 i9:=by kernel_rfl
 t20:=Tryz.underlying20
 a20:=Tryz.isAgg20
 z20:=Tryz.sizeOf20
 v20:=Tryz.zeroValue20
 i20:=by kernel_rfl
 t22:=Tryz.underlying154
 a22:=Tryz.isAgg154
 z22:=Tryz.sizeOf154
 v22:=Tryz.zeroValue154
 i22:=by kernel_rfl
 t24:=Tryz.underlying156
 a24:=Tryz.isAgg156
 z24:=Tryz.sizeOf156
 v24:=Tryz.zeroValue156
 i24:=by kernel_rfl
 t34:=Tryz.underlying177
 a34:=Tryz.isAgg177
 z34:=Tryz.sizeOf177
 v34:=Tryz.zeroValue177
 i34:=by kernel_rfl
 c34:=by kernel_rfl
 t36:=Tryz.underlying176
 a36:=Tryz.isAgg176
 z36:=Tryz.sizeOf176
 v36:=Tryz.zeroValue176
 i36:=by kernel_rfl
 t37:=Tryz.underlying151
 a37:=Tryz.isAgg151
 z37:=Tryz.sizeOf151
 v37:=Tryz.zeroValue151
 i37:=by kernel_rfl
 t39:=Tryz.underlying179
 a39:=Tryz.isAgg179
 z39:=Tryz.sizeOf179
 v39:=Tryz.zeroValue179
 i39:=by kernel_rfl
 t44:=Tryz.underlying198
 a44:=Tryz.isAgg198
 z44:=Tryz.sizeOf198
 v44:=Tryz.zeroValue198
 i44:=by kernel_rfl
 t47:=Tryz.underlying207
 a47:=Tryz.isAgg207
 z47:=Tryz.sizeOf207
 v47:=Tryz.zeroValue207
 i47:=by kernel_rfl
 t48:=Tryz.underlying208
 a48:=Tryz.isAgg208
 z48:=Tryz.sizeOf208
 v48:=Tryz.zeroValue208
 i48:=by kernel_rfl
 t50:=Tryz.underlying210
 a50:=Tryz.isAgg210
 z50:=Tryz.sizeOf210
 v50:=Tryz.zeroValue210
 i50:=by kernel_rfl
 t52:=Tryz.underlying220
 a52:=Tryz.isAgg220
 z52:=Tryz.sizeOf220
 v52:=Tryz.zeroValue220
 i52:=by kernel_rfl
 t55:=Tryz.underlying222
 a55:=Tryz.isAgg222
 z55:=Tryz.sizeOf222
 v55:=Tryz.zeroValue222
 i55:=by kernel_rfl
 t59:=Tryz.underlying224
 a59:=Tryz.isAgg224
 z59:=Tryz.sizeOf224
 v59:=Tryz.zeroValue224
 i59:=by kernel_rfl
 t60:=Tryz.underlying194
 a60:=Tryz.isAgg194
 z60:=Tryz.sizeOf194
 v60:=Tryz.zeroValue194
 i60:=by kernel_rfl
 t61:=Tryz.underlying225
 a61:=Tryz.isAgg225
 z61:=Tryz.sizeOf225
 t65:=Tryz.underlying226
 a65:=Tryz.isAgg226
 z65:=Tryz.sizeOf226
 v65:=Tryz.zeroValue226
 i65:=by kernel_rfl
 t66:=Tryz.underlying227
 a66:=Tryz.isAgg227
 z66:=Tryz.sizeOf227
 v66:=Tryz.zeroValue227
 i66:=by kernel_rfl
 t67:=Tryz.underlying61
 a67:=Tryz.isAgg61
 z67:=Tryz.sizeOf61
 v67:=Tryz.zeroValue61
 i67:=by kernel_rfl
 g0:=by kernel_rfl
 m0:=by kernel_rfl
 g1:=by kernel_rfl
 m1:=by kernel_rfl
 g2:=by kernel_rfl
 m2:=by kernel_rfl
 g3:=by kernel_rfl
 m3:=by kernel_rfl
 g4:=by kernel_rfl
 m4:=by kernel_rfl

theorem jf3{E:Env}:∀{l us:List Value},A.repL (l.map .v) E us->us=l
 |[],us,h=>by unfold A.repL at h;exact h
 |x::r,us,h=>by
  simp only[List.map_cons] at h;unfold A.repL at h;obtain⟨u,us',rfl,h1,h2⟩:=h;rw[(A.rep_v_iff.1 h1).1,jf3 h2]
theorem jfg(fn s:ByteArray)(hs:s.size<=1000000000):Spec Tryz.prog 127 [] [.v (.string fn),.v (.string s),.v (.int .i64 10),.v (.int .i64 31),.v (.iface 177 (.int .i64 1))] fun _ r=>r=.err:=by
 refine lO (eJ Tryz.func127 rfl (by kernel_rfl)) fun w C vals h0 h1 h2=>?_
 obtain rfl:=jf3 (l:=[.string fn,.string s,.int .i64 10,.int .i64 31,.iface 177 (.int .i64 1)]) h2;have hg:=h0.at (g:=1) (cs:=[.err]) rfl;simp only[A.repAt,A.rep] at hg;obtain⟨⟨u,k1,k2,t,v,rfl⟩,-⟩:=hg;refine(AnyPu.strconv_toError_range jcg fn s 10 31 _ w (by omega) (h1 _ _ k1) (.inr ⟨t,v,rfl⟩)).mono ?_;rintro e w' ⟨n,rfl,k3,k4,k5⟩;exact⟨_,rfl,k5,by unfold A.rep;exact⟨_,_,rfl⟩⟩
theorem jpD(s:ByteArray)(hs:s.size<=1000000000)(hs1:1<=s.size)(hd:∀c∈s.data.toList,wG c=true) :
  Spec Tryz.prog 113 [] [.v (.string s),.v (.int .i64 10),.v (.int .i64 31)] fun _ r=>r=if xK 0 s.data.toList<0 then .tup [.v (.int .u64 2147483647),.err] else .tup [.v (.int .u64 (xK 0 s.data.toList)),.v .nilIface]:=by
 have hpu:=jiI s hs hs1 hd;unfold puR at hpu;refine eN jR qB 0 Tryz.func113 rfl ?_;intro _;conv=>whnf
 refine kL [] hpu ?_;rintro r rfl;generalize xK 0 s.data.toList=v at *;by_cases hv:v<0
 ·rw[if_pos hv,if_pos hv];conv=>whnf
  refine jcH [] rfl (fun _=>jfg _ s hs) ?_;rintro r rfl;conv=>whnf
 ·rw[if_neg hv,if_neg hv];conv=>whnf
end Go.Proofs.YtdnnmiemgmgffaaGreatDoor.Vm
namespace Go.Proofs.YtdnnmiemgmgffaaGreatDoor.Vm
open Go.RowKit
theorem jtB{d:Prop}{i:Decidable d}{p q:Unit->Prop}(h:Tab.get.match_1 (fun _=>Prop) (@decide d i) p q):Tab.get.match_1 (fun _=>Prop) (@decide d i) p q:=h
theorem jtC{d:Prop}{i:Decidable d}{p q:Unit->Prop}(h:Tab.get.match_1 (fun _=>Prop) (!@decide d i) p q):Tab.get.match_1 (fun _=>Prop) (!@decide d i) p q:=h
theorem jtD{d:Prop}{i:Decidable d}{b:Bool}{p q:Unit->Prop}(h:Tab.get.match_1 (fun _=>Prop) (@decide d i&&b) p q):Tab.get.match_1 (fun _=>Prop) (@decide d i&&b) p q:=h
theorem jtE{d:Prop}{i:Decidable d}{b:Bool}{p q:Unit->Prop}(h:Tab.get.match_1 (fun _=>Prop) (!(@decide d i&&b)) p q):Tab.get.match_1 (fun _=>Prop) (!(@decide d i&&b)) p q:=h
theorem jtF{d:Prop}{i:Decidable d}{b:Bool}{p q:Unit->Prop}(h:Tab.get.match_1 (fun _=>Prop) (@decide d i==b) p q):Tab.get.match_1 (fun _=>Prop) (@decide d i==b) p q:=h
theorem jtG{d:Prop}{i:Decidable d}{b:Bool}{p q:Unit->Prop}(h:Tab.get.match_1 (fun _=>Prop) (!(@decide d i==b)) p q):Tab.get.match_1 (fun _=>Prop) (!(@decide d i==b)) p q:=h
theorem jtH{b c:Bool}{p q:Unit->Prop}(h:Tab.get.match_1 (fun _=>Prop) (!(b&&c)) p q):Tab.get.match_1 (fun _=>Prop) (!(b&&c)) p q:=h
theorem jtI{b c:Bool}{p q:Unit->Prop}(h:Tab.get.match_1 (fun _=>Prop) (b&&c) p q):Tab.get.match_1 (fun _=>Prop) (b&&c) p q:=h
theorem jrV{c:Bool}{p q:Prop}(h:ifK c p q):ifK c p q:=h
theorem jnc{n:Nat}(h:n<=100000000000000):n<=maxLen:=by unfold maxLen;omega
theorem juH{α:Sort _}{x y:α}(h:x=y):x=y:=h
structure Tag(q:Prop):Prop where
 t:True
structure jt7(q:Prop):Prop where
 un:q
theorem iA{p q:Prop}(hq:q)(k:jt7 q->p:=by intro hq;(repeat (first|((with_reducible refine And.intro ?_ ?_);(focus (first|omega|(with_reducible refine jH ?_;(first|omega|(simp only[List.length_append,List.length_cons,List.length_nil,List.length_map,ByteArray.size_append];omega)|(dsimp only;omega)))|(with_reducible refine jnc ?_;(first|omega|(simp only[List.length_append,List.length_cons,List.length_nil,List.length_map,ByteArray.size_append];omega)|(dsimp only;omega)))|((fail_if_success (with_reducible refine jnc ?_));decide)|(simp only[List.length_append,List.length_cons,List.length_nil,List.length_map,ByteArray.size_append];omega)|(dsimp only;omega)|((with_reducible refine jH ?_);dsimp only;omega)));(conv=>whnf))|((first|with_reducible refine jtB ?_|with_reducible refine jtC ?_|with_reducible refine jtD ?_|with_reducible refine jtE ?_|with_reducible refine jtF ?_|with_reducible refine jtG ?_|with_reducible refine jtH ?_|with_reducible refine jtI ?_|with_reducible refine jrV ?_);first|((focus (rw[jJ];rotate_left;focus (first|(first|omega|(simp only[List.length_append,List.length_cons,List.length_nil,List.length_map,ByteArray.size_append];omega)|(dsimp only;omega))|((with_reducible refine juH ?_);rfl))));(first|with_reducible refine j9 rfl ?_|with_reducible refine jW rfl ?_|skip);(conv=>whnf))|((focus (rw[jG];rotate_left;focus (first|(first|omega|(simp only[List.length_append,List.length_cons,List.length_nil,List.length_map,ByteArray.size_append];omega)|(dsimp only;omega))|(intro h;cases h;done))));(first|with_reducible refine j9 rfl ?_|with_reducible refine jW rfl ?_|skip);(conv=>whnf)))));all_goals exact hq.un)(d:Tag q:=by first|exact(Tag.mk trivial:Tag True)|exact Tag.mk trivial):p:=k ⟨hq⟩
end Go.Proofs.YtdnnmiemgmgffaaGreatDoor.Vm
namespace Go.Proofs.YtdnnmiemgmgffaaGreatDoor.Vm
open Go.RowKit Go.Shelf
def jgF:Nat->List UInt8->Nat
 |n,[]=>n
 |n,c::r=>jgF (10*n+(c.toNat-48)) r
def jcb(l:List UInt8):Bool:=l.all wG
def jbI(l:List UInt8):Prop:=∀k,k<=l.length->jcb (l.take k)=true->jgF 0 (l.take k)<=99999999999
def juN(l:List UInt8):Option Nat:=if l≠[]/\jcb l=true then some (jgF 0 l) else none
def oY(s:ByteArray):ByteArray×Bool:=match s.data.toList with
 |[]=>(s,false)
 |c::r=>if c=118 then(bs r,true) else(s,false)
theorem jmi{s:ByteArray}(h:s.data.toList=[]):oY s=(s,false):=by unfold oY;rw[h]
theorem jrF{s:ByteArray}{r:List UInt8}(h:s.data.toList=118::r):oY s=(bs r,true):=by unfold oY;rw[h];rfl
theorem jjy{s:ByteArray}{c:UInt8}{r:List UInt8}(h:s.data.toList=c::r)(hc:c≠118):oY s=(s,false):=by unfold oY;rw[h];exact if_neg hc
end Go.Proofs.YtdnnmiemgmgffaaGreatDoor.Vm
namespace Go.Proofs.YtdnnmiemgmgffaaGreatDoor.Vm
open Go.RowKit
def jp2(rows:List Row)(bx:List (List A))(a:A):Option A:=match ren [] rows a with
 |some a'=>some a'
 |none=>match a with
  |.box b off=>match bx[b]? with
   |some cs=>match zC [] rows (cs.drop off) with
    |some cs'=>some (.pp (n9 cs'))
    |none=>none
   |none=>none
  |_=>none
def tV(rows:List Row)(bx:List (List A)):List A->Option (List A)
 |[]=>some []
 |a::r=>match jp2 rows bx a with
  |some a'=>match tV rows bx r with
   |some r'=>some (a'::r')
   |none=>none
  |none=>none
def jsz(c:Cx)(rv:List ResultVar)(post:List (List A)->A->Prop)(s:S):Prop :=
 jiP c.T s rv fun r=>match r with
  |.clo f caps=>match tV (jA s.rw (o6 caps)) s.bx caps with
   |some caps'=>post [] (.clo f caps')
   |none=>False
  |_=>False
def juF(c:Cx)(rv:List ResultVar)(post:List (List A)->A->Prop)(e:Exit)(s:S):Prop :=
 match e with
 |.ret=>jsz c rv post s
 |.normal=>jsz c rv post s
 |_=>False
theorem jhe{c:Cx}{f:Nat}{fn:Func}{x:Code}{args:List A}{post:List (List A)->A->Prop}(hc:c.ok)(hf:c.P.funcs[f]?=some fn)(hb:fn.body=some x)(hname:(fn.name == "runtime.NumGoroutine")=false)
  (hn:c.np=0) (hq:∀ch s,¬c.pan ch s) (hord:kD c.ord x=true) (h:nN args->yM args (fn.ntmps-args.length) fun t=>sG c x ⟨t,[],[]⟩ (juF c fn.results.toList post)):Spec c.P f [] args post:=by
 refine⟨nC hf hb hname,fun w C β vals h0 h1 h2 h3 h4 h5 h6=>?_⟩;have hβ:β=[]:=List.eq_nil_of_length_eq_zero (by simpa using h4.symm);subst hβ;have hl:=A.repL_len h6;refine calls_of_wp hf hb ?_;have hinit:=initK_iff.1 (h (kZ _ h6))
 have hinv:Inv [] (.of w) C [] ⟨args++List.replicate (fn.ntmps-args.length) .dead,[],[]⟩ { tmps:=vals.toArray++Array.replicate (fn.ntmps-vals.toArray.size) undef,defers:=[] } w:=by
  refine⟨⟨C,[],[]⟩,⟨h1,Sub.refl _,fun _ _ hc=>.inl hc,⟨[],by simp,by simp⟩,h2,h3,h4,h5,rfl,fun g r y hg=>by simp at hg,fun g e k n cs y b hg=>by simp at hg,fun g e k n cs y h' e' k' n' cs' z b _ hg=>by simp at hg,fun g y hg=>by simp at hg,Keeps.refl _ _,jg5 h0⟩,?_,rfl⟩
  have:(vals.toArray++Array.replicate (fn.ntmps-vals.toArray.size) undef).toList=vals++List.replicate (fn.ntmps-args.length) undef:=by simp[hl]
  rw[this];exact A.repL_append h6 (vA _ _)
 refine nU hc (by rw[hn];rfl) ⟨0,rfl⟩ x (.inl rfl) (fun ch s' _ _ h _=>absurd h (hq ch s')) hord hinv hinit ?_;have fin:∀(s':S) (a':Act) (w':World),jsz c fn.results.toList post s'->Inv [] (.of w) C [] s' a' w'->a'.defers=[]/\∃v,(results fn a'.tmps).run c.P w'=.ok v w'/\∃outs r v',Ending.returned v=.returned v'/\post outs r/\Keeps [] w w'/\outs.length=([]:List Nat).length ∧
   (∀(i b:Nat) (cs:List A),([]:List Nat)[i]?=some b->outs[i]?=some cs->boxAt w' ⟨zA C w w',[],[]⟩ b cs)/\r.rep ⟨zA C w w',[],[]⟩ v':=fun s' a' w' hr ⟨E,hp,ht,hd⟩=>by
  obtain⟨r,v,g1,g2,g3⟩:=r5 (fn:=fn) hc hp ht hr;refine⟨hd,v,g3,?_⟩;split at g1
  ·rename_i f' caps;split at g1
   ·rename_i caps' hcaps;obtain⟨C1,hp1,le1⟩:=hp.pubs (o6 caps)
    have lep:Sub C1 (zA C w w'):=fun ad u hc=>by
     unfold zA;rcases hp1.fresh0 ad u hc with h7|h7
     ·rw[if_pos (qI w ad (h1 ad u h7))];exact h7
     ·rw[if_neg (by omega)];exact hp1.sub ad u hc
    have le0:(⟨C1,[],[]⟩:Env).le ⟨zA C w w',[],[]⟩:=⟨lep,fun _ _ h=>h,fun _ _ h=>h⟩
    have hY:yP ⟨C1,E.β,E.ρ⟩ [] []:=fun j i hj=>by simp at hj
    have one:∀(a a2:A) (y:Value),jp2 (jA s'.rw (o6 caps)) s'.bx a=some a2->a.rep E y->a2.rep ⟨zA C w w',[],[]⟩ y:=fun a a2 y hcp hy=>by
     have hy1:=A.rep.mono a le1 hy;unfold jp2 at hcp;split at hcp
     ·rename_i a3 hren;cases hcp;exact A.rep.mono _ le0 (ja2 hp1 hY a hren hy1)
     ·split at hcp
      ·rename_i b off _;split at hcp
       ·rename_i cs hcs;split at hcp
        ·rename_i cs' hrn;cases hcp;unfold A.rep at hy1;obtain⟨bb,q1,q2⟩:=hy1;obtain⟨T',arr,q3,q4⟩:=hp1.bxs b bb cs q1 hcs
         have hbb:w.heap.size<=bb:=by
          obtain⟨β',e1,e2⟩:=hp1.bp;rw[List.nil_append] at e1;exact e2 bb (by rw[<- e1];exact List.mem_iff_getElem?.2 ⟨b,q1⟩)
         unfold A.rep;refine⟨bb,off,q2,?_⟩;have q5:=jbY q4.1 off;have q6:A.repC (n9 cs') ⟨C1,[],[]⟩ (arr.toList.drop off):=A.repC_mk (wM hp1 hY (n9 (cs.drop off)) (jgR hrn) (A.repC_L q5)) (A.repC_one q5)
         refine A.repAt_mk (E:=(⟨zA C w w',[],[]⟩:Env).per) (A.repC.mono _ le0 q6) fun j u hj=>?_
         show zA C w w' _=_;rw[jbk hbb];rw[List.getElem?_drop] at hj;simp only[kQ,World.cell?,q3];simpa using hj
        ·cases hcp
       ·cases hcp
      ·cases hcp
    have all:∀(l l2:List A) (us:List Value),tV (jA s'.rw (o6 caps)) s'.bx l=some l2->A.repL l E us->A.repL l2 ⟨zA C w w',[],[]⟩ us:=fun l=>by
     induction l with
     |nil =>
      intro l2 us h7 h8;unfold tV at h7;cases h7;unfold A.repL at h8 ⊢;exact h8
     |cons a l ih =>
      intro l2 us h7 h8;unfold tV at h7;split at h7
      ·rename_i a' ha;split at h7
       ·rename_i r' hr';cases h7;unfold A.repL at h8 ⊢;obtain⟨u,us',rfl,q1,q2⟩:=h8;exact⟨u,us',rfl,one _ _ _ ha q1,ih _ _ hr' q2⟩
       ·cases h7
      ·cases h7
    refine⟨[],_,v,rfl,g1,hp.keep0,rfl,fun i b cs hb=>by simp at hb,?_⟩;unfold A.rep at g2 ⊢;obtain⟨us,q1,q2⟩:=g2;exact⟨us,q1,all _ _ _ hcaps q2⟩
   ·exact g1.elim
  ·exact g1.elim
 intro e s' a' w' hq hi
 cases e with
 |normal=>exact fin s' a' w' hq hi
 |ret=>exact fin s' a' w' hq hi
 |_=>exact hq.elim
theorem jlo(s:ByteArray):Spec Tryz.prog 92 [] [.v (.string s)] fun _ r=>r=.clo 106 [.pp [.v (.string s)],.pp (qK classOf)]:=by
 refine jhe (jQ jR qB 0) Tryz.func92 rfl (by kernel_rfl) rfl (fun _ _ h=>h) (by kernel_rfl) ?_;intro _;have hcl:=jeo;have hpl:=jaz classOf;have hlen:=xG classOf
 have hu:n9 (qK classOf)=qK classOf:=by kernel_rfl
 generalize qK classOf=L at *;conv=>whnf
 refine kL [] hcl ?_;rintro r rfl;rw[show back [] (A.agg L)=.agg L from by unfold back;rw[tT hpl]];conv=>whnf
 rw[hlen];conv=>whnf
 refine pT (ds:=L) [] (by rw[hlen];rfl) ?_;rw[List.nil_append];conv=>whnf
 have hcp:tV ([]:List Row) [[A.v (Value.string s)],L] [A.box 0 0,A.box (0+1) 0]=some [.pp [.v (.string s)],.pp L]:=by
  have h1:zC [] ([]:List Row) (L.drop 0)=some L:=by rw[List.drop_zero];exact pK hpl
  simp[tV,jp2,ren,idx,zC] at h1 ⊢;rw[h1];show some [A.pp [.v (.string s)],.pp (n9 L)]=_;rw[hu]
 change (match tV ([]:List Row) [[A.v (Value.string s)],L] [A.box 0 0,A.box (0+1) 0] with
  |some caps'=>A.clo 106 caps'=A.clo 106 [.pp [.v (.string s)],.pp L]
  |none=>False)
 rw[hcp]
section
def ppS(nr:Nat)(cs:List A)(a:A):A:=match a with
 |.box b off=>match b with
  |0=>.pp (cs.drop off)
  |_+1=>.dead
 |a=>match y7 0 nr a with
  |true=>a
  |false=>.dead
theorem fV{t:List A}{cs cs':List A}{rw:List Row}(hcs:zC [] rw cs=some cs')(hna:n9 cs'=cs':=by rfl):Le 0 ⟨t,[cs],rw⟩ ⟨t.map (ppS rw.length cs'),[],rw⟩:=by
 rintro dr w0 C0 β0 a w hdr hn ⟨E,hp,hrep,hd⟩;obtain rfl:β0=[]:=List.eq_nil_of_length_eq_zero hn;have hbl:=hp.bl
 obtain⟨b,hβ⟩:∃b,E.β=[b]:=by
  have:E.β.length=1:=by rw[<- hbl];rfl
  exact List.length_eq_one_iff.1 this
 have h0:E.β[0]?=some b:=by rw[hβ];rfl
 obtain⟨T',arr,q1,q2⟩:=hp.bxs 0 b cs h0 rfl
 have hbm:b∈E.β:=by rw[hβ];simp
 have hb0:w0.w.heap.size<=b:=by
  obtain⟨β',e1,e2⟩:=hp.bp;rw[List.nil_append] at e1;exact e2 b (by rw[<- e1];exact hbm)
 obtain⟨C',hC'⟩:∃C':Rd,C'=fun ad=>if ad.block=b then(kQ w) ad else E.C ad:=⟨_,rfl⟩
 have hsub:Sub E.C C':=fun ad u hc=>by
  rw[hC']
  simp only
  split
  ·exact hp.sub ad u hc
  ·exact hc
 have le:(⟨E.C,[],E.ρ⟩:Env).le ⟨C',[],E.ρ⟩:=⟨hsub,fun _ _ h=>h,fun _ _ h=>h⟩
 have hat:A.repAt cs' ⟨C',[],[]⟩ b 0:=by
  have hY:yP E [] []:=fun j i hj=>by simp at hj
  have q3:A.repC cs' ⟨E.C,[],[]⟩ arr.toList:=by
   have:=(q2.ren hp hY hcs).1;rwa [hna] at this
  refine A.repAt_mk (E:=⟨C',[],[]⟩) (A.repC.mono _ (E:=⟨E.C,[],[]⟩) (F:=⟨C',[],[]⟩) ⟨hsub,fun _ _ h=>h,fun _ _ h=>h⟩ q3) fun j u hj=>?_
  show C' _=_;rw[hC'];simp only[if_true,Nat.zero_add];simp only[kQ,World.cell?,q1];simpa using hj
 have hd':repD dr ⟨C',[],E.ρ⟩ a.defers:=by
  have h1:=mL (E:=E) (nb:=0) (nr:=E.ρ.length) (Nat.le_refl 0) hdr hd;rw[List.take_zero,List.take_length] at h1;exact h1.mono le
 refine⟨⟨C',[],E.ρ⟩,⟨fun ad u hc=>?_,hp.base.trans hsub,fun ad u hc=>?_,⟨[],rfl,by simp⟩,List.nodup_nil,fun b hb=>by simp at hb,rfl,fun i b cs hb=>by simp at hb,hp.rl,fun g r y h1 h2=>?_,fun g e k n cs y b' h1 h2 h3=>⟨by simp,fun o sp=>?_⟩,hp.rd,hp.rs,hp.keep,hp.gk⟩,?_,hd'⟩
 ·rw[hC'] at hc
  simp only at hc
  split at hc
  ·exact hc
  ·exact hp.sub ad u hc
 ·rw[hC'] at hc
  simp only at hc
  split at hc
  ·rename_i e;exact .inr (.inl (by rw[e];exact hb0))
  ·exact hp.fresh ad u hc
 ·have hr:=hp.rws g r y h1 h2
  cases r with
  |live e k n cs =>
   obtain⟨xs,g1,g2⟩:=hr;exact⟨xs,g1,A.repC.mono cs (E:=⟨E.C,[],[]⟩) (F:=⟨C',[],[]⟩) ⟨hsub,fun _ _ h=>h,fun _ _ h=>h⟩ g2⟩
  |pub k n cs =>
   have hr:(A.sl k n cs).rep E y:=hr;show(A.sl k n cs).rep _ y;unfold A.rep at hr ⊢;obtain⟨g1,g2,p,bb,off,cap,g3,g4,g5,g6,g7⟩:=hr;exact⟨g1,g2,p,bb,off,cap,g3,g4,g5,g6,A.repAt.mono cs (E:=⟨E.C,[],[]⟩) (F:=⟨C',[],[]⟩) ⟨hsub,fun _ _ h=>h,fun _ _ h=>h⟩ g7⟩
  |gone=>exact trivial
 ·have hr:=hp.rC g e k n cs y b' h1 h2 h3
  have hne:¬b'=b:=fun e'=>hr.1 (by rw[e'];exact hbm)
  rw[hC'];simp only[if_neg hne];exact hr.2 o sp
 ·have one:∀(a:A) (y:Value),a.rep E y->(ppS rw.length cs' a).rep ⟨C',[],E.ρ⟩ y:=fun a y ha=>by
   have gen:(∀b off,a≠.box b off)->(ppS rw.length cs' a).rep ⟨C',[],E.ρ⟩ y:=fun hnb=>by
    have e:ppS rw.length cs' a=match y7 0 rw.length a with|true=>a|false=>.dead:=by
     cases a <;> first|rfl|exact absurd rfl (hnb _ _)
    rw[e];split
    ·rename_i hrf;have:=lH (nb:=0) (nr:=rw.length) a hrf ha;refine A.rep.mono a le ?_
     have e2:E.ρ.take rw.length=E.ρ:=by rw[hp.rl];exact List.take_length
     rw[e2] at this;simpa using this
    ·exact A.rep_dead _ _
   cases a with
   |box b' off =>
    unfold A.rep at ha;obtain⟨bb,g1,g2⟩:=ha
    cases b' with
    |zero =>
     rw[h0] at g1;cases g1;show(A.pp (cs'.drop off)).rep _ y;unfold A.rep;refine⟨b,off,g2,?_⟩;have:=A.repAt_drop off hat;rwa [Nat.zero_add] at this
    |succ n=>exact A.rep_dead _ _
   |_=>exact gen (by intros;simp)
  have all:∀(l:List A) (us:List Value),A.repL l E us->A.repL (l.map (ppS rw.length cs')) ⟨C',[],E.ρ⟩ us:=fun l=>by
   induction l with
   |nil=>intro us h;simpa [A.repL] using h
   |cons a l ih =>
    intro us h;simp only[List.map_cons];unfold A.repL at h ⊢;obtain⟨u,us',rfl,h1,h2⟩:=h;exact⟨u,us',rfl,one a u h1,ih us' h2⟩
  exact all _ _ hrep
theorem jdZ{n:Nat}{P:Program}{row:String}{args:Array Value}{w:World}{R:Value->World->Prop}(h:Rows P row args w R):RowsIn Fence.wide n P row args w R :=
 fun c cs _=>let ⟨v,w',r,s⟩:=h c cs;⟨v,w',r,stepsIn_wide.2 s⟩
theorem jqg{n:Nat}{P:Program}{o:Oper}{a:Act}{w:World}{K:Act->World->Prop}{Q:Exit->Act->World->Prop}(h:o.wp P a w K Q):o.wpIn Fence.wide n P a w K Q:=by
 refine⟨fun _ _=>trivial,?_⟩;have e:o.semAt Fence.wide.round a.eval=execOp a.eval o:=rfl;rw[e];unfold Oper.wp at h;generalize (execOp a.eval o).run P w=r at *
 match r,h with
 |.ok (.value v) w',h=>exact h
 |.ok .skip w',h=>exact h
 |.ok (.defer d) w',h=>exact h
 |.ok (.enter f args) w',h=>exact⟨fun h'=>by simp[Fence.wide] at h',callsIn_wide.2 h⟩
 |.ok (.row row args) w',h=>exact⟨fun h'=>by simp[Fence.wide] at h',jdZ h⟩
 |.halt (.panic v) w',h=>exact h
section
variable{c:Cx}{w0:W0}{C0:Rd}{β0:List Nat}{s:S}{a:Act}{w:World}{E:Env}{o:Oper}{n:Nat}
theorem jbE{ops:List Oper}{Q:Exit->Act->World->Prop}(hc:c.okN)(l2:List Oper):∀{l:List Oper} {s:S} {a:Act} {w:World} {K:S->Prop},Inv [] w0 C0 β0 s a w->bV c ops l s K->(∀s' a' w',K s'->Inv [] w0 C0 β0 s' a' w'->wpListIn Fence.wide n c.P ops.toArray Q l2 a' w')->wpListIn Fence.wide n c.P ops.toArray Q (l++l2) a w
 |[],s,a,w,K,hi,h,hk=>hk s a w h hi
 |o::r,s,a,w,K,hi,h,hk=>by
  obtain⟨E,hp,ht,hd⟩:=hi
  change aG ops o s (ado c (fun _=>true) s o fun s'=>bV c ops r s' K) (kP s o.dst (.tup []) fun s'=>bV c ops r s' K) at h
  show wpListIn Fence.wide n c.P ops.toArray Q (o::(r++l2)) a w;unfold wpListIn;rcases xP ht h with ⟨h1,h2⟩|⟨h1,h2⟩
  ·rw[if_pos h1];exact jqg (jcP hc.ok ⟨0,rfl⟩ ⟨E,hp,ht,hd⟩ h2 (fun ch s' _ _ h _=>absurd h (hc.no ch s')) fun s' a' w' h3 h4=>jbE hc l2 h4 h3 hk)
  ·rw[if_neg (by rw[h1];simp)];obtain⟨s2,k1,k2,k3,k4,k5⟩:=qS (a:=a) hp ht hd (kV _) h2;exact⟨fun _ _=>trivial,jbE hc l2 ⟨E,by rw[k2,k3];exact hp,k4,k5⟩ k1 hk⟩
theorem jgK{x:Code}{q:Exit->S->Prop}{Q:Exit->Act->World->Prop}(hc:c.okN)(hn:β0.length=c.np)(ho:kD c.ord x=true)(hi:Inv [] w0 C0 β0 s a w)(h:sG c x s q)(hk:∀e s' a' w',q e s'->Inv [] w0 C0 β0 s' a' w'->Q e a' w'):x.wpIn Fence.wide n c.P Q a w :=
 wpIn_wide.2 (nU hc.ok hn ⟨0,rfl⟩ x (.inl rfl) (fun ch s' _ _ h _=>absurd h (hc.no ch s')) ho hi h hk)
theorem Inv.le{s':S}{np:Nat}(hi:Inv [] w0 C0 β0 s a w)(h:Le np s s')(hn:β0.length=np):Inv [] w0 C0 β0 s' a w:=h [] w0 C0 β0 a w rfl hn hi
theorem Inv.again{t:List A}{C:Rd}{u0:World}(hi:Inv [] (.of u0) C [] ⟨t,[],[]⟩ a w):∃C',Sub C C'/\Sub C' (kQ w)/\(∀ad u,C' ad=some u->C ad=some u∨u0.heap.size<=ad.block)/\Keeps [] u0 w/\Gok C' w/\∀w',Sub C' (kQ w')->Gok C' w'->Inv [] (.of w') C' [] ⟨t,[],[]⟩ a w':=by
 obtain⟨E,hp,ht,hd⟩:=hi;have hβ:E.β=[]:=List.eq_nil_of_length_eq_zero (by rw[<- hp.bl];rfl);have hρ:E.ρ=[]:=List.eq_nil_of_length_eq_zero (by rw[<- hp.rl];rfl);refine⟨E.C,hp.base,hp.sub,hp.fresh0,hp.keep0,hp.gok,fun w' hw' hg'=>⟨⟨E.C,[],[]⟩,⟨hw',Sub.refl _,fun _ _ h=>.inl h,⟨[],rfl,by simp⟩,List.nodup_nil,fun b hb=>by simp at hb,rfl,fun i b cs hb=>by simp at hb,rfl,fun g r y hg=>by simp at hg,fun g e k n cs y b hg=>by simp at hg,fun g e k n cs y h' e' k' n' cs' z b _ hg=>by simp at hg,fun g y hg=>by simp at hg,Keeps.refl _ _,jg5 hg'⟩,?_,hd⟩⟩
 have:E=⟨E.C,[],[]⟩:=by
  obtain⟨C',β',ρ'⟩:=E
  simp only at hβ hρ
  rw[hβ,hρ]
 rw[this] at ht;exact ht
end
end
section
def dP(B:Nat)(W:World)(b:Nat):Prop:=b=B∨∃a l c,W.cell? ⟨B,0,none⟩=some (.slice (some a) l c)/\a.block=b
def ValB(B:Nat)(W:World):Prop:=(∃o,W.heap[B]?=some o/\o.isCells=true)/\∀b,dP B W b->b<W.heap.size
def uB(o:Obj):Bool:=o.isCells||o.isWalk
theorem jn0{o:Obj}(h:o.isCells=false)(k:o.isWalk=false):uB o=false:=by simp[uB,h,k]
theorem jgl{o:Obj}(h:o.isCells=true):uB o=true:=by simp[uB,h]
def KpB(B:Nat)(W W':World):Prop:=ValB B W->ValB B W'/\W.heap.size<=W'.heap.size/\(∀b,dP B W' b->dP B W b∨W.heap.size<=b)/\∀b o,W.heap[b]?=some o->uB o=true->¬dP B W b->W'.heap[b]?=some o
theorem vL{W:World}{b:Nat}{o:Obj}(h:W.heap[b]?=some o):b<W.heap.size:=(Array.getElem?_eq_some_iff.1 h).1
theorem ValB.lt{B:Nat}{W:World}(h:ValB B W):B<W.heap.size:=h.2 B (.inl rfl)
theorem KpB.refl(B:Nat)(W:World):KpB B W W:=fun h=>⟨h,Nat.le_refl _,fun _ h=>.inl h,fun _ _ h _ _=>h⟩
theorem KpB.trans{B:Nat}{a b c:World}(h:KpB B a b)(k:KpB B b c):KpB B a c:=fun hv=>by
 obtain⟨h1,h2,h3,h4⟩:=h hv;obtain⟨k1,k2,k3,k4⟩:=k h1;refine⟨k1,Nat.le_trans h2 k2,fun x hx=>?_,fun x o hx ho hn=>k4 x o (h4 x o hx ho hn) ho fun ho'=>?_⟩
 ·rcases k3 x hx with hx|hx
  ·exact h3 x hx
  ·exact .inr (by omega)
 ·rcases h3 x ho' with hx'|hx'
  ·exact hn hx'
  ·have:=vL hx;omega
theorem mI{B:Nat}{W W':World}(h:W'.heap[B]?=W.heap[B]?)(b:Nat):dP B W' b↔dP B W b:=by
 have:W'.cell? ⟨B,0,none⟩=W.cell? ⟨B,0,none⟩:=World.cell?_of_block (w:=W) h;unfold dP;rw[this]
theorem KpB.put{B:Nat}(W:World)(l:Nat)(o o':Obj)(hl:W.heap[l]?=some o)(ho:uB o=false):KpB B W (W.putObj l o'):=fun hv=>by
 obtain⟨⟨ob,h1,h2⟩,h3⟩:=hv
 have hne:∀(b:Nat) (ob:Obj),W.heap[b]?=some ob->uB ob=true->(W.putObj l o').heap[b]?=W.heap[b]?:=fun b ob h1 h2=>by
  refine World.putObj_heap_other ?_;rintro rfl;rw[hl] at h1;cases h1;rw[ho] at h2;cases h2
 have hsz:(W.putObj l o').heap.size=W.heap.size:=by simp[World.putObj]
 have hB:=hne B ob h1 (jgl h2);refine⟨⟨⟨ob,by rw[hB];exact h1,h2⟩,fun b hb=>?_⟩,by omega,fun b hb=>.inl ((mI hB b).1 hb),fun b o hb hoc _=>(hne b o hb hoc).trans hb⟩;rw[hsz];exact h3 b ((mI hB b).1 hb)
theorem ValB.keeps{B:Nat}{W W':World}(h:ValB B W)(k:Keeps [] W W'):ValB B W'/\∀b,dP B W' b↔dP B W b:=by
 have hB:=k.block B h.lt (by simp);refine⟨⟨?_,fun b hb=>?_⟩,fun b=>mI hB b⟩
 ·rw[hB];exact h.1
 ·have:=h.2 b ((mI hB b).1 hb);have:=k.size;omega
theorem KpB.keeps{B:Nat}{W W':World}(k:Keeps [] W W'):KpB B W W':=fun hv=>by
 obtain⟨h1,h2⟩:=hv.keeps k;exact⟨h1,k.size,fun b hb=>.inl ((h2 b).1 hb),fun b o hb _ _=>(k.block b (vL hb) (by simp)).trans hb⟩
theorem jav{W:World}{ad:Addr}{u:Value}(h:(kQ W) ad=some u):∃o,W.heap[ad.block]?=some o/\uB o=true:=by
 unfold kQ at h;split at h
 ·unfold World.cell? at h;split at h
  ·rename_i c e f ho;exact⟨_,ho,rfl⟩
  ·cases h
 ·unfold cM at h;split at h
  ·rename_i es c ho;exact⟨_,ho,rfl⟩
  ·cases h
theorem wU{β:Type}{n:Nat}{J:β->World->Prop}(h:AbidesFrom n J){s:β}{W W':World}(hj:J s W)(k:Keeps [] W W'):J s W' :=
 h s W W' none hj ⟨k.os,k.tape,k.output,k.size,fun b hb _=>k.block b hb (by simp)⟩ fun r hr=>by cases hr
section
variable{w0:W0}{w:World}{C:Rd}{t:List A}{a:Act}{B:Nat}
theorem Inv.yielded{u0:World}(hi:Inv [] (.of u0) C [] ⟨t,[],[]⟩ a w)(hv:ValB B u0)(hno:∀ad u,C ad=some u->¬dP B u0 ad.block):Keeps [] u0 w/\∀w2,KpB B w w2->∃C',Inv [] (.of w2) C' [] ⟨t,[],[]⟩ a w2/\ValB B w2/\∀ad u,C' ad=some u->¬dP B w2 ad.block:=by
 obtain⟨C',h1,h2,h3,h4,hg,h5⟩:=hi.again;refine⟨h4,fun w2 hk=>?_⟩;obtain⟨v1,v2⟩:=hv.keeps h4;obtain⟨k1,k2,k3,k4⟩:=hk v1
 have hn:∀ad u,C' ad=some u->¬dP B w ad.block:=fun ad u hc ho=>by
  have ho:=(v2 _).1 ho;rcases h3 ad u hc with q|q
  ·exact hno ad u q ho
  ·have:=hv.2 _ ho;omega
 refine⟨C',h5 w2 (fun ad u hc=>?_) (hg.blocks fun b cs T sp q1 ⟨u,hc⟩=>k4 _ _ q1 rfl (hn _ u hc)),k1,fun ad u hc ho=>?_⟩
 ·obtain⟨o,q1,q2⟩:=jav (h2 ad u hc);have:=k4 _ o q1 q2 (hn ad u hc);exact(aP (w:=w) (this.trans q1.symm)).trans (h2 ad u hc)
 ·rcases k3 _ ho with q|q
  ·exact hn ad u hc q
  ·obtain⟨o,q1,q2⟩:=jav (h2 ad u hc);have:=vL q1;omega
theorem rW{C0:Rd}{β0:List Nat}{s:S}(hi:Inv [] w0 C0 β0 s a w){i:Nat}{v:Value}(h:s.t.getD i .dead=.v v):a.tmps.getD i undef=v:=by
 obtain⟨E,_,ht,_⟩:=hi;have:=A.repL_getD ht i undef;rw[h] at this;have:=(A.rep_v_iff.1 this).1;simpa [Array.getD_eq_getD_getElem?,List.getD_eq_getElem?_getD] using this
theorem jh5{n l:Nat}{P:Program}{ops:Array Oper}{o:Oper}{rest:List Oper}{f:Operand}{args:Array Operand}{ts:Array TypeId}{vals:Array Value}{Q:Exit->Act->World->Prop}{R:Ending->World->Prop}
  (ho:o.op=.call ⟨.value f,args,ts⟩) (hg:o.guard=none) (hf:a.eval f=.func (.yield l) #[] #[]) (hv:args.map a.eval=vals) (hy:YieldAt Fence.wide (n-1) P l vals w R)
  (hk:∀e w',R e w'->∃v,e=.returned v/\wpListIn Fence.wide n P ops Q rest (a.put o.dst v) w'):wpListIn Fence.wide n P ops Q (o::rest) a w:=by
 unfold wpListIn;rw[if_pos (by simp[Region.wanted,hg])];obtain⟨fn,tmps,assign,body,h1,h2⟩:=hy;refine⟨fun _ _=>trivial,?_⟩;have e:o.semAt Fence.wide.round a.eval=execOp a.eval o:=rfl;rw[e]
 have hrun:(execOp a.eval o).run P w=.ok (.round l fn tmps assign body) w:=by
  rw[<- h1,<- hv];simp[execOp,ho,resolve,Deferred.ofValue,hf,invoke,Result.andThen]
 rw[hrun];refine⟨fun h'=>by simp[Fence.wide] at h',h2.mono fun e w' hr=>?_⟩;obtain⟨v,rfl,hw⟩:=hk e w' hr;exact hw
theorem jkV{W:World}{C:Rd}(h0:Gok C W)(h1:Sub C (kQ W)){args:List A}{vals:Array Value}{n:Nat}(h6:A.repL args ⟨C,[],[]⟩ vals.toList) :
  Inv [] (.of W) C [] ⟨args++List.replicate (n-args.length) .dead,[],[]⟩ { tmps:=vals++Array.replicate (n-vals.size) undef,defers:=[] } W:=by
 have hl:=A.repL_len h6;refine⟨⟨C,[],[]⟩,⟨h1,Sub.refl _,fun _ _ hc=>.inl hc,⟨[],by simp,by simp⟩,List.nodup_nil,fun b hb=>by simp at hb,rfl,fun i b cs hb=>by simp at hb,rfl,fun g r y hg=>by simp at hg,fun g e k n cs y b hg=>by simp at hg,fun g e k n cs y h' e' k' n' cs' z b _ hg=>by simp at hg,fun g y hg=>by simp at hg,Keeps.refl _ _,jg5 h0⟩,?_,rfl⟩
 have:(vals++Array.replicate (n-vals.size) undef).toList=vals.toList++List.replicate (n-args.length) undef:=by
  have:vals.size=args.length:=by rw[<- hl];simp
  simp[this]
 rw[this];exact A.repL_append h6 (vA _ _)
theorem jeq{C0:Rd}{β0:List Nat}{s:S}{F:Fence}{n:Nat}{P:Program}{x y:Code}{Q:Exit->Act->World->Prop}(hi:Inv [] w0 C0 β0 s a w){w2:World}{i:Nat}{b:Bool}(h:s.t.getD i .dead=.v (.bool b))(hk:(if b then x else y).wpIn F n P Q a w2):(Code.cond (.tmp i) x y).wpIn F n P Q a w2 :=
 wpIn_cond (rW hi h) hk
theorem ja1{c:Cx}{C0:Rd}{β0:List Nat}{s:S}{n:Nat}{x y:Code}{Q:Exit->Act->World->Prop}(hc:c.okN)(hn:β0.length=c.np)(hi:Inv [] w0 C0 β0 s a w)(ho:kD c.ord x=true)
  (h:sG c x s fun e s'=>∀a' w',Inv [] w0 C0 β0 s' a' w'->Exit.then (y.wpIn Fence.wide n c.P Q) Q e a' w'):(Code.seq x y).wpIn Fence.wide n c.P Q a w :=
 wpIn_seq (jgK hc hn ho hi h fun e s' a' w' h1 h2=>h1 a' w' h2)
theorem jeW{c:Cx}{C0:Rd}{β0:List Nat}{l:List A}{m:Nat}{bx:List (List A)}{n:Nat}{x y:Code}{Q:Exit->Act->World->Prop}(hc:c.okN)(hn:β0.length=c.np)(hi:Inv [] w0 C0 β0 ⟨l++List.replicate m .dead,bx,[]⟩ a w)(ho:kD c.ord x=true)
  (h:yM l m fun t=>sG c x ⟨t,bx,[]⟩ fun e s'=>∀a' w',Inv [] w0 C0 β0 s' a' w'->Exit.then (y.wpIn Fence.wide n c.P Q) Q e a' w'):(Code.seq x y).wpIn Fence.wide n c.P Q a w :=
 ja1 hc hn hi ho ((initK_iff (K:=fun t=>sG c x ⟨t,bx,[]⟩ _)).1 h)
theorem jf8{c:Cx}{C0:Rd}{β0:List Nat}{s:S}{n:Nat}{ops l:List Oper}{Q:Exit->Act->World->Prop}(m:Nat)(hc:c.okN)(hi:Inv [] w0 C0 β0 s a w)
  (h:bV c ops (l.take m) s fun s'=>∀a' w',Inv [] w0 C0 β0 s' a' w'->wpListIn Fence.wide n c.P ops.toArray Q (l.drop m) a' w'):wpListIn Fence.wide n c.P ops.toArray Q l a w:=by
 have:=jbE (n:=n) (Q:=Q) hc (l.drop m) hi h fun s' a' w' h1 h2=>h1 a' w' h2
 rwa [List.take_append_drop] at this
theorem jpU{c:Cx}{C0:Rd}{β0:List Nat}{bx:List (List A)}{l0:List A}{m0 n:Nat}{ops l:List Oper}{Q:Exit->Act->World->Prop}(m:Nat)(hc:c.okN)(hi:Inv [] w0 C0 β0 ⟨l0++List.replicate m0 .dead,bx,[]⟩ a w)
  (h:yM l0 m0 fun t=>bV c ops (l.take m) ⟨t,bx,[]⟩ fun s'=>∀a' w',Inv [] w0 C0 β0 s' a' w'->wpListIn Fence.wide n c.P ops.toArray Q (l.drop m) a' w'):wpListIn Fence.wide n c.P ops.toArray Q l a w :=
 jf8 m hc hi ((initK_iff (K:=fun t=>bV c ops (l.take m) ⟨t,bx,[]⟩ _)).1 h)
theorem jqU{C0:Rd}{β0:List Nat}{s:S}{d:Option Nat}{v:Value}{G:Act->Prop}(hi:Inv [] w0 C0 β0 s a w)(hv:fD v)(h:kP s d (.v v) fun s'=>∀a',Inv [] w0 C0 β0 s' a' w->G a'):G (a.put d v):=by
 obtain⟨E,hp,ht,hd⟩:=hi;obtain⟨s2,k1,k2,k3,k4,k5⟩:=qS (a:=a) hp ht hd (A.rep_v hv) h;exact k1 _ ⟨E,by rw[k2,k3];exact hp,k4,k5⟩
def juB(s:S)(K:S->Prop):Prop:=K s
def jrg(c:Cx)(ops:List Oper)(o:Oper)(ih:S->(S->Prop)->Prop)(s:S)(K:S->Prop):Prop :=
 aG ops o s (jea c s o fun r=>kP s o.dst r fun s'=>ih s' K) (kP s o.dst (.tup []) fun s'=>ih s' K)
noncomputable def apu(c:Cx)(ops:List Oper)(l:List Oper):S->(S->Prop)->Prop:=List.rec (motive:=fun _=>S->(S->Prop)->Prop) juB (fun o _ ih=>jrg c ops o ih) l
theorem pN{c:Cx}{C0:Rd}{β0:List Nat}{n:Nat}{ops:List Oper}{Q:Exit->Act->World->Prop}(hc:c.ok){w2:World}:∀{l:List Oper} {s:S} {a:Act},Inv [] w0 C0 β0 s a w->apu c ops l s (fun s'=>∀a',Inv [] w0 C0 β0 s' a' w->Q .normal a' w2)->wpListIn Fence.wide n c.P ops.toArray Q l a w2
 |[],s,a,hi,h=>h a hi
 |o::r,s,a,⟨E,hp,ht,hd⟩,h=>by
  change jrg c ops o (apu c ops r) s _ at h
  unfold jrg at h;unfold wpListIn;rcases xP ht h with ⟨h1,h2⟩|⟨h1,h2⟩
  ·rw[if_pos h1];obtain⟨x,y,k1,k2,k3⟩:=jgO hc hp ht h2;obtain⟨s2,p1,p2,p3,p4,p5⟩:=qS (a:=a) hp ht hd k2 k1;refine⟨fun _ _=>trivial,?_⟩;have e:o.semAt Fence.wide.round a.eval=execOp a.eval o:=rfl;rw[e,k3 w2];exact pN hc ⟨E,by rw[p2,p3];exact hp,p4,p5⟩ p1
  ·rw[if_neg (by rw[h1];simp)];obtain⟨s2,p1,p2,p3,p4,p5⟩:=qS (a:=a) hp ht hd (kV _) h2;exact⟨fun _ _=>trivial,pN hc ⟨E,by rw[p2,p3];exact hp,p4,p5⟩ p1⟩
theorem tI{E:Env}:∀{vs us:List Value},A.repC (vs.map A.v) E us->us=vs
 |[],us,h=>by unfold A.repC at h;exact h
 |v::vs,us,h=>by
  rw[List.map_cons] at h;unfold A.repC at h;obtain⟨u,us',rfl,_,h2,h3⟩:=h;rw[(A.rep_v_iff.1 h2).1,tI h3]
theorem jnl{C0:Rd}{β0:List Nat}{s:S}(hi:Inv [] w0 C0 β0 s a w){i:Nat}{vs:List Value}(h:s.t.getD i .dead=.agg (vs.map A.v)):a.tmps.getD i undef=.agg vs.toArray:=by
 obtain⟨E,_,ht,_⟩:=hi;have:=A.repL_getD ht i undef;rw[h] at this;unfold A.rep at this;obtain⟨us,h1,h2⟩:=this;have h3:=tI h2
 have:a.tmps.getD i undef=.agg us:=by simpa [Array.getD_eq_getD_getElem?,List.getD_eq_getElem?_getD] using h1
 rw[this,<- h3]
end
end
end Go.Proofs.YtdnnmiemgmgffaaGreatDoor.Vm
