/- Part 6 of the proof. -/
import Derived.Test.YtgifglkkmhapiaaGreatDoorK5
import Derived.Lib.Hide
import Derived.Carry
import Derived.Laws.EntriesVeiled
set_option maxRecDepth 100000
set_option linter.unusedSimpArgs false
set_option linter.unusedVariables false
set_option maxHeartbeats 4000000
namespace Go.Proofs.YtgifglkkmhapiaaGreatDoor
open Go.RowKit
def Asks (w:World) (c:FuncId) (cap:Array Value) (l:List Nd) (q:Nd->Bool):Prop :=
 (∀ args w',(callFunc c args).run Tryz.prog w' = .ok (.enter c args) w') ∧
 ∀ t ∈ l,∀ v w',Ext w w'->t.At w'.cell? v->Calls Tryz.prog c (#[v]++cap) w' (iT w' (.bool (q t)))
theorem Asks.use {w:World} {c:FuncId} {cap:Array Value} {l:List Nd} {q:Nd->Bool} (h:Asks w c cap l q) (k:Nat) (hk:k<l.length) {v:Value} {w':World} (hx:Ext w w') (ht:l[k].At w'.cell? v) :
  Calls Tryz.prog c (#[v]++cap) w' (iT w' (.bool (q l[k]))):=h.2 _ (List.getElem_mem hk) v w' hx ht
def yM (q:Nd->Bool) (l:List Nd):Int:=match l.findIdx? q with | some i=>(i:Int) | none => -1
theorem jkc {q:Nd->Bool} {l:List Nd} {k:Nat} (hk:k<l.length) (h:∀ j (hj:j<k),q (l[j]'(by omega))=false) (hq:q l[k]=true):yM q l=(k:Int):=by
 have:l.findIdx? q=some k:=by
  rw[List.findIdx?_eq_some_iff_getElem];exact⟨hk,hq,fun j hj=>by simp[h j hj]⟩
 unfold yM;rw[this]
theorem jiy {q:Nd->Bool} {l:List Nd} (h:∀ j (hj:j<l.length),q l[j]=false):yM q l = -1:=by
 have:l.findIdx? q=none:=by
  rw[List.findIdx?_eq_none_iff];intro x hx
  obtain⟨j,hj,rfl⟩ := List.mem_iff_getElem.1 hx
  simp[h j hj]
 unfold yM;rw[this]
theorem jel (q:Nd->Bool) (l:List Nd):decide (0<=yM q l)=l.any q:=by
 cases h:l.any q with
 | true =>
  unfold yM
  cases hf:l.findIdx? q with
  | some i=>simp
  | none =>
   rw[List.findIdx?_eq_none_iff] at hf
   obtain⟨x,hx,hq⟩ := List.any_eq_true.1 h
   rw[hf x hx] at hq;cases hq
 | false =>
  unfold yM
  cases hf:l.findIdx? q with
  | none=>simp
  | some i =>
   rw[List.findIdx?_eq_some_iff_getElem] at hf
   obtain⟨hi,hq,_⟩ := hf
   rw[List.any_eq_false] at h;exact absurd hq (h _ (List.getElem_mem hi))
theorem jmy (q:Nd->Bool) (l:List Nd) : -1<=yM q l/\yM q l<=l.length:=by
 unfold yM
 cases hf:l.findIdx? q with
 | none=>simp
 | some i =>
  rw[List.findIdx?_eq_some_iff_getElem] at hf
  obtain⟨hi,_⟩ := hf
  simp;omega
theorem jaX (l:List Nd) (sv:Value) (c:FuncId) (cap:Array Value) (w:World) (q:Nd->Bool) (hl:NdsAt w.cell? sv l) (hf:Asks w c cap l q) :
  Calls Tryz.prog 47 #[sv,.func (.func c) #[] cap] w (iT w (.int .i64 (yM q l))):=by
 obtain⟨hl1,p,b,off,cp,rfl,hc,hp,hn,hin⟩ := hl
 have hcf:=hf.1
 go_enter Tryz.func47,Tryz.ntmps47
 go_wp2
 go_loopw [5,8] (fun _ i wr => ∃ k:Nat,k<=l.length/\i = .int .i64 k/\Ext w wr /\ ∀ j (hj:j<l.length),j<k->q l[j]=false) (fun _ i _=>l.length-(intOf i).toNat)
 case atStart=>exact⟨0,by omega,rfl,Ext.refl _,fun j hj h=>absurd h (by omega)⟩
 case round =>
  obtain⟨k,hk,rfl,hx,hno⟩ := hrel
  have HNO:Hid (∀ j (hj:j<l.length),j<k->q l[j]=false):=hno
  clear hno
  by_cases hlt:k<l.length
  ·obtain rfl:p=some ⟨b,off,none⟩ := by
    rcases hp with rfl | hp
    ·simp at hlt
    ·exact hp
   obtain⟨v0,v1,v2,v3,c0,c1,c2,c3,ht⟩ := Nd.In.get l off hin k hlt
   replace c0:=hx.c c0
   replace c1:=hx.c c1
   replace c2:=hx.c c2
   replace c3:=hx.c c3
   have ht2:=Nd.At.mono hx.sub _ _ ht
   have hcall:=Lib.hid (hf.use k hlt hx ht2)
   clear hin hp hn ht ht2
   obtain⟨qk,hqk⟩ : ∃ qk,qk=q l[k]:=⟨_,rfl⟩
   have HQ:Hid (qk=q l[k]):=hqk
   rw[<- hqk] at hcall;clear hqk
   cases qk with
   | true =>
    go_wp2_with (refine hcall.out.mono ?_;rintro e w2 ⟨rfl,hx2⟩)
    go_ret
    have:=jkc hlt (fun j hj=>HNO.out j (by omega) hj) HQ.out.symm
    exact⟨by rw[this];rfl,hx.trans hx2⟩
   | false =>
    go_wp2_with (refine hcall.out.mono ?_;rintro e w2 ⟨rfl,hx2⟩)
    go_roundw
    case rel=>exact⟨k+1,by omega,by go_num,hx.trans hx2,fun j hj h=>by
     by_cases hjk:j=k
     ·subst hjk;exact HQ.out.symm
     ·exact HNO.out j hj (by omega)⟩
    case measure=>simp[intOf];omega
  ·have hkl:k=l.length:=by omega
   go_wp2
   go_ret
   exact⟨by rw[jiy (fun j hj=>HNO.out j hj (by omega))];rfl,hx⟩
theorem vC (l:List Nd) (sv:Value) (c:FuncId) (cap:Array Value) (w:World) (q:Nd->Bool) (hl:NdsAt w.cell? sv l) (hf:Asks w c cap l q) :
  Calls Tryz.prog 25 #[sv,.func (.func c) #[] cap] w (iT w (.bool (l.any q))):=by
 have h0:=jel q l
 have h1:=jmy q l
 obtain⟨n,hn⟩ : ∃ n,n=yM q l:=⟨_,rfl⟩
 have hcall:=Lib.hid (jaX l sv c cap w q hl hf)
 rw[<- hn] at hcall h0 h1
 obtain⟨h2,h3⟩ := h1
 have H0:=Lib.hid h0
 clear h0 hn
 go_enter Tryz.func25,Tryz.ntmps25
 go_wp2_with (go_at_call 47;refine hcall.out.mono ?_;rintro e w2 ⟨rfl,hx2⟩)
 go_ret
 exact⟨by rw[<- H0.out];rfl,hx2⟩
section
def MapAt (w:World) (r:Nat) (l:List (ByteArray × Value)):Prop :=
 ∃ es c,w.heap[r]? = some (.map es c)/\es.toList.map (fun e=>(e.key,e.val))=l.map (fun p=>(Value.string p.1,p.2))
def pJ (l:List (ByteArray × Value)) (s:ByteArray):Option Value:=(l.find? (fun p=>s == p.1)).map (·.2)
theorem dU (s:ByteArray):∀ (es:List MapEntry) (l:List (ByteArray × Value)) (i:Nat),es.map (fun e=>(e.key,e.val))=l.map (fun p=>(Value.string p.1,p.2)) →
  ∃ r,Instr.findNow .string (.string s) es i=some r/\r.map (·.2)=pJ l s
 | [],[],i,_=>⟨none,by simp[Instr.findNow],by simp[pJ]⟩
 | [],_ :: _,_,h=>by simp at h
 | _ :: _,[],_,h=>by simp at h
 | e :: es,p :: l,i,h=>by
  simp only[List.map_cons,List.cons.injEq,Prod.mk.injEq] at h
  obtain⟨⟨h1,h2⟩,h3⟩ := h
  by_cases hs:s == p.1
  ·exact⟨some (i,e.val),by simp[Instr.findNow,Instr.sameNow,h1,hs],by simp[pJ,hs,h2]⟩
  ·obtain⟨r,hr,hr2⟩ := dU s es l (i+1) h3
   refine⟨r,by simp[Instr.findNow,Instr.sameNow,h1,hs,hr],?_⟩;rw[hr2];simp[pJ,hs]
section
variable {P:Program} {w:World} {T K E:TypeId} {r:Nat} {l:List (ByteArray × Value)} {s:ByteArray}
theorem lT {es:Array MapEntry} {c:Nat} (h:w.heap[r]? = some (.map es c)):(getObj r).run P w = .ok (.map es c) w:=by
 simp[getObj,Sem.run,h]
theorem jle (hK:P.underlying K=some .string) (b:Bool) (n:Nat):(Instr.checkKey b (n+1) K (.string s)).run P w = .ok () w:=by
 simp[Instr.checkKey,run_underlying hK]
theorem jak (hT:P.underlying T=some (.map K E)) (hK:P.underlying K=some .string) {z:Value} (hz:(zeroValue E).run P w = .ok z w) (h:MapAt w r l) :
  (Instr.lookup T (.map (some r)) (.string s) false).run P w = .ok ((pJ l s).getD z) w:=by
 obtain⟨es,c,hr,hes⟩ := h
 obtain⟨x,hx,hx2⟩ := dU s es.toList l 0 hes
 have hc:∀ b,(Instr.checkKey b 10000 K (.string s)).run P w = .ok () w:=fun b=>jle hK b 9999
 have hf:(Instr.findKey K (.string s) es.toList).run P w = .ok x w:=by simp[Instr.findKey,run_underlying hK,hx]
 rw[<- hx2]
 cases x with
 | none=>simp[Instr.lookup,run_underlying hT,lT hr,hc,hf,hz,Result.andThen]
 | some y=>obtain⟨j,y⟩ := y;simp[Instr.lookup,run_underlying hT,lT hr,hc,hf,Result.andThen]
theorem jal (hT:P.underlying T=some (.map K E)) (hK:P.underlying K=some .string) (v:Value) (h:MapAt w r l) (hn:pJ l s=none) :
  ∃ w',(Instr.mapUpdate T (.map (some r)) (.string s) v).run P w = .ok () w'/\w.grownBy w' (some r)/\MapAt w' r (l++[(s,v)]):=by
 obtain⟨es,c,hr,hes⟩ := h
 obtain⟨x,hx,hx2⟩ := dU s es.toList l 0 hes
 rw[hn] at hx2
 have hx0:x=none:=by cases x <;> simp_all
 subst hx0
 have hc:∀ b,(Instr.checkKey b 10000 K (.string s)).run P w = .ok () w:=fun b=>jle hK b 9999
 have hf:(Instr.findKey K (.string s) es.toList).run P w = .ok none w:=by simp[Instr.findKey,run_underlying hK,hx]
 have hlt:r<w.heap.size:=(Array.getElem?_eq_some_iff.1 hr).1
 refine⟨{ w with heap:=w.heap.setIfInBounds r (.map (es.push { key := .string s,val:=v,born:=c }) (c+1)) },?_,⟨rfl,rfl,rfl,by simp,fun k hk hne => ?_⟩,es.push { key := .string s,val:=v,born:=c },c+1,by simp[hlt],?_⟩
 ·simp[Instr.mapUpdate,run_underlying hT,lT hr,hc,hf,Result.andThen,setObj,Sem.run,hr]
 ·have:r ≠ k:=fun e=>hne (by rw[e])
  simp[Array.getElem?_setIfInBounds_ne this]
 ·simp[hes]
theorem MapAt.ext {w':World} (h:MapAt w r l) (x:Ext w w'):MapAt w' r l:=by
 obtain⟨es,c,hr,hes⟩ := h
 exact⟨es,c,x.block hr,hes⟩
theorem MapAt.lt (h:MapAt w r l):r<w.heap.size:=by
 obtain⟨es,c,hr,hes⟩ := h
 exact (Array.getElem?_eq_some_iff.1 hr).1
theorem MapAt.made (w:World):MapAt (w.alloc (.map #[] 0)) w.heap.size []:=⟨#[],0,heap_alloc_new w _,by simp⟩
variable {o:Oper} {a:Act} {Kc:Act->World->Prop} {Q:Exit->Act->World->Prop}
theorem jb6 (m k x:Operand) (ho:o.op = .mapUpdate T m k x ∨ o.op = .insert T m k x) (hT:P.underlying T=some (.map K E)) (hK:P.underlying K=some .string) (v:Value)
  (hm:a.eval m = .map (some r)) (hk:a.eval k = .string s) (hx:a.eval x=v) (h:MapAt w r l) (hn:pJ l s=none)
  (hc:∀ w',w.grownBy w' (some r)->MapAt w' r (l++[(s,v)])->Kc (a.put o.dst undef) w'):o.wp P a w Kc Q:=by
 obtain⟨w',hrun,hg,hM⟩ := jal (P:=P) hT hK v h hn
 unfold Oper.wp
 rcases ho with ho | ho
 ·simp[execOp,ho,hm,hk,hx,hrun,Result.andThen]
  exact hc w' hg hM
 ·simp[execOp,ho,hm,hk,hx,hrun,Result.andThen]
  exact hc w' hg hM
theorem iR (m k:Operand) (ho:o.op = .lookup T m k false) (hT:P.underlying T=some (.map K E)) (hK:P.underlying K=some .string) {z:Value} (hz:(zeroValue E).run P w = .ok z w)
  (hm:a.eval m = .map (some r)) (hk:a.eval k = .string s) (h:MapAt w r l) (hc:Kc (a.put o.dst ((pJ l s).getD z)) w):o.wp P a w Kc Q:=by
 have hrun:=jak (P:=P) (s:=s) hT hK hz h
 unfold Oper.wp
 simp[execOp,ho,hm,hk,hrun,Result.andThen]
 exact hc
variable {ops:Array Oper} {rest:List Oper}
theorem jQ (hgd:o.guard=none) (m k x:Operand) (ho:o.op = .mapUpdate T m k x ∨ o.op = .insert T m k x) (hT:P.underlying T=some (.map K E)) (hK:P.underlying K=some .string) (v:Value)
  (hm:a.eval m = .map (some r)) (hk:a.eval k = .string s) (hx:a.eval x=v) (h:MapAt w r l) (hn:pJ l s=none)
  (hc:∀ w',w.grownBy w' (some r)->MapAt w' r (l++[(s,v)])->wpList P ops Q rest (a.put o.dst undef) w'):wpList P ops Q (o :: rest) a w :=
 wpList_plain hgd fun _ hK' => jb6 m k x ho hT hK v hm hk hx h hn fun w' g M=>hK' _ _ (hc w' g M)
end
end
def sg (a b:Int):Value := .agg #[.int .i64 a,.int .i64 b]
def jrq:List (ByteArray × Value):=[(⟨#[45]⟩,sg 1 1),(⟨#[33]⟩,sg 2 2)]
def jrP:List (ByteArray × Value):=[(⟨#[38,38]⟩,sg 2 2),(⟨#[124,124]⟩,sg 2 2)]


def jjc (k:Nat):List (ByteArray × Value):=jrP++(opsA.take k).map (fun s=>(s,sg 1 1))
def jb4 (k:Nat):List (ByteArray × Value):=jjc 4++(opsC.take k).map (fun s=>(s,sg 1 2))
def jlt (b:Bool):List (ByteArray × Value):=if b then jb4 6 else jrq
def jov (l:List (ByteArray × Value)) (v:Value) (w:World):Prop := ∃ r,v = .map (some r)/\MapAt w r l
theorem jW:Tryz.prog.underlying 86=some (.map 9 85):=by kernel_rfl
theorem q8:Tryz.prog.underlying 9=some .string:=by kernel_rfl
theorem Ext.row {a b c:World} {r:Nat} (h:Ext a b) (g:b.grownBy c (some r)) (hr:a.heap.size<=r):Ext a c:=Below.grown h g (Below.size h) (by intro k hk;cases hk;exact hr)
theorem jiS (w:World):Calls Tryz.prog 36 #[.bool false] w (Ret w (jov jrq)):=by
 have hmm := @run_makeMap Tryz.prog
 have hM:=MapAt.made w
 have hE:Ext w (w.alloc (.map #[] 0)):=(Ext.refl w).alloc _
 go_enter Tryz.func36,Tryz.ntmps36
 go_wp2_with (first
  | (refine jQ (r:=w.heap.size) (l:=[]) (s:=⟨#[45]⟩) rfl _ _ _ (.inr rfl) jW q8 (sg 1 1) rfl rfl rfl hM (by decide +kernel) ?_;intro w2 hg hM2;replace hM:=hM2;clear hM2;replace hE:=hE.row hg (Nat.le_refl _);clear hg)
  | (refine jQ (r:=w.heap.size) (l:=[(⟨#[45]⟩,sg 1 1)]) (s:=⟨#[33]⟩) rfl _ _ _ (.inr rfl) jW q8 (sg 2 2) rfl rfl rfl hM (by decide +kernel) ?_;intro w2 hg hM2;replace hM:=hM2;clear hM2;replace hE:=hE.row hg (Nat.le_refl _);clear hg))
 go_ret
 exact⟨_,rfl,hE,_,rfl,hM⟩
theorem jkK (w:World):Calls Tryz.prog 36 #[.bool true] w (Ret w (jov (jb4 6))):=by
 have hmm := @run_makeMap Tryz.prog
 have hM:=MapAt.made w
 have hE:Ext w (w.alloc (.map #[] 0)):=(Ext.refl w).alloc _
 go_enter Tryz.func36,Tryz.ntmps36
 go_wp2_with (first
  | (refine jQ (r:=w.heap.size) (l:=[]) (s:=⟨#[38,38]⟩) rfl _ _ _ (.inr rfl) jW q8 (sg 2 2) rfl rfl rfl hM (by decide +kernel) ?_;intro w2 hg hM2;replace hM:=hM2;clear hM2;replace hE:=hE.row hg (Nat.le_refl _);clear hg)
  | (refine jQ (r:=w.heap.size) (l:=[(⟨#[38,38]⟩,sg 2 2)]) (s:=⟨#[124,124]⟩) rfl _ _ _ (.inr rfl) jW q8 (sg 2 2) rfl rfl rfl hM (by decide +kernel) ?_;intro w2 hg hM2;replace hM:=hM2;clear hM2;replace hE:=hE.row hg (Nat.le_refl _);clear hg))
 have hlt2:=hM.lt
 have hB:=heap_alloc_new w2 (.cells #[.string ⟨#[43]⟩,.string ⟨#[45]⟩,.string ⟨#[42]⟩,.string ⟨#[47]⟩] 9)
 replace hM:=hM.ext ((Ext.refl w2).alloc (.cells #[.string ⟨#[43]⟩,.string ⟨#[45]⟩,.string ⟨#[42]⟩,.string ⟨#[47]⟩] 9))
 replace hE:=hE.alloc (.cells #[.string ⟨#[43]⟩,.string ⟨#[45]⟩,.string ⟨#[42]⟩,.string ⟨#[47]⟩] 9)
 go_loopw [20] (fun iv wr => ∃ k:Nat,k<=4/\iv = .int .i64 k/\Ext w wr/\wr.heap[w2.heap.size]? = some (.cells #[.string ⟨#[43]⟩,.string ⟨#[45]⟩,.string ⟨#[42]⟩,.string ⟨#[47]⟩] 9 (0,0))/\MapAt wr w.heap.size (jjc k)) (fun iv _=>4-(intOf iv).toNat)
 case atStart=>exact⟨0,by omega,rfl,hE,hB,hM⟩
 case round =>
  clear hM hE hB
  obtain⟨k,hk,rfl,hE,hB,hM⟩ := hrel
  by_cases hlt:k<4
  ·have hk4:k=0 ∨ k=1 ∨ k=2 ∨ k=3:=by omega
   clear hk hlt
   rcases hk4 with rfl | rfl | rfl | rfl
   ·have cS:wr.cell? ⟨w2.heap.size,0,none⟩ = some (.string ⟨#[43]⟩):=by simp[World.cell?,hB]
    go_wp2_with (refine jQ (r:=w.heap.size) (l:=jjc 0) (s:=⟨#[43]⟩) rfl _ _ _ (.inl rfl) jW q8 (sg 1 1) rfl rfl rfl hM (by decide +kernel) ?_;intro w3 hg hM2;have hB2:=(hg.block _ (Array.getElem?_eq_some_iff.1 hB).1 (by simp;omega)).trans hB;have hE2:=hE.row hg (Nat.le_refl _);clear hg)
    go_roundw
    case rel=>exact⟨1,by omega,rfl,hE2,hB2,hM2⟩
    case measure=>simp[intOf]
   ·have cS:wr.cell? ⟨w2.heap.size,1,none⟩ = some (.string ⟨#[45]⟩):=by simp[World.cell?,hB]
    go_wp2_with (refine jQ (r:=w.heap.size) (l:=jjc 1) (s:=⟨#[45]⟩) rfl _ _ _ (.inl rfl) jW q8 (sg 1 1) rfl rfl rfl hM (by decide +kernel) ?_;intro w3 hg hM2;have hB2:=(hg.block _ (Array.getElem?_eq_some_iff.1 hB).1 (by simp;omega)).trans hB;have hE2:=hE.row hg (Nat.le_refl _);clear hg)
    go_roundw
    case rel=>exact⟨2,by omega,rfl,hE2,hB2,hM2⟩
    case measure=>simp[intOf]
   ·have cS:wr.cell? ⟨w2.heap.size,2,none⟩ = some (.string ⟨#[42]⟩):=by simp[World.cell?,hB]
    go_wp2_with (refine jQ (r:=w.heap.size) (l:=jjc 2) (s:=⟨#[42]⟩) rfl _ _ _ (.inl rfl) jW q8 (sg 1 1) rfl rfl rfl hM (by decide +kernel) ?_;intro w3 hg hM2;have hB2:=(hg.block _ (Array.getElem?_eq_some_iff.1 hB).1 (by simp;omega)).trans hB;have hE2:=hE.row hg (Nat.le_refl _);clear hg)
    go_roundw
    case rel=>exact⟨3,by omega,rfl,hE2,hB2,hM2⟩
    case measure=>simp[intOf]
   ·have cS:wr.cell? ⟨w2.heap.size,3,none⟩ = some (.string ⟨#[47]⟩):=by simp[World.cell?,hB]
    go_wp2_with (refine jQ (r:=w.heap.size) (l:=jjc 3) (s:=⟨#[47]⟩) rfl _ _ _ (.inl rfl) jW q8 (sg 1 1) rfl rfl rfl hM (by decide +kernel) ?_;intro w3 hg hM2;have hB2:=(hg.block _ (Array.getElem?_eq_some_iff.1 hB).1 (by simp;omega)).trans hB;have hE2:=hE.row hg (Nat.le_refl _);clear hg)
    go_roundw
    case rel=>exact⟨4,by omega,rfl,hE2,hB2,hM2⟩
    case measure=>simp[intOf]
  ·obtain rfl:k=4:=by omega
   clear hk hlt hB
   obtain⟨wo,rfl⟩ : ∃ wo:World,wo=wr:=⟨_,rfl⟩
   go_wp2
   simp only[Int.cast_ofNat_Int]
   have hlt3:=hM.lt
   have hB:=heap_alloc_new wo (.cells #[.string ⟨#[60]⟩,.string ⟨#[60,61]⟩,.string ⟨#[62]⟩,.string ⟨#[62,61]⟩,.string ⟨#[61,61]⟩,.string ⟨#[33,61]⟩] 9)
   replace hM:=hM.ext ((Ext.refl wo).alloc (.cells #[.string ⟨#[60]⟩,.string ⟨#[60,61]⟩,.string ⟨#[62]⟩,.string ⟨#[62,61]⟩,.string ⟨#[61,61]⟩,.string ⟨#[33,61]⟩] 9))
   replace hE:=hE.alloc (.cells #[.string ⟨#[60]⟩,.string ⟨#[60,61]⟩,.string ⟨#[62]⟩,.string ⟨#[62,61]⟩,.string ⟨#[61,61]⟩,.string ⟨#[33,61]⟩] 9)
   have hM0:MapAt (wo.alloc (.cells #[.string ⟨#[60]⟩,.string ⟨#[60,61]⟩,.string ⟨#[62]⟩,.string ⟨#[62,61]⟩,.string ⟨#[61,61]⟩,.string ⟨#[33,61]⟩] 9)) w.heap.size (jb4 0):=hM
   clear hM
   go_loopw [30] (fun iv wr => ∃ k:Nat,k<=6/\iv = .int .i64 k/\Ext w wr/\wr.heap[wo.heap.size]? = some (.cells #[.string ⟨#[60]⟩,.string ⟨#[60,61]⟩,.string ⟨#[62]⟩,.string ⟨#[62,61]⟩,.string ⟨#[61,61]⟩,.string ⟨#[33,61]⟩] 9 (0,0))/\MapAt wr w.heap.size (jb4 k)) (fun iv _=>6-(intOf iv).toNat)
   case atStart=>exact⟨0,by omega,rfl,hE,hB,hM0⟩
   case round =>
    clear hM0 hE hB
    obtain⟨k,hk,rfl,hE,hB,hM⟩ := hrel
    by_cases hlt:k<6
    ·have hk6:k=0 ∨ k=1 ∨ k=2 ∨ k=3 ∨ k=4 ∨ k=5:=by omega
     clear hk hlt
     rcases hk6 with rfl | rfl | rfl | rfl | rfl | rfl
     ·have cS:wr.cell? ⟨wo.heap.size,0,none⟩ = some (.string ⟨#[60]⟩):=by simp[World.cell?,hB]
      go_wp2_with (refine jQ (r:=w.heap.size) (l:=jb4 0) (s:=⟨#[60]⟩) rfl _ _ _ (.inl rfl) jW q8 (sg 1 2) rfl rfl rfl hM (by decide +kernel) ?_;intro w3 hg hM2;have hB2:=(hg.block _ (Array.getElem?_eq_some_iff.1 hB).1 (by simp;omega)).trans hB;have hE2:=hE.row hg (Nat.le_refl _);clear hg)
      go_roundw
      case rel=>exact⟨1,by omega,rfl,hE2,hB2,hM2⟩
      case measure=>simp[intOf]
     ·have cS:wr.cell? ⟨wo.heap.size,1,none⟩ = some (.string ⟨#[60,61]⟩):=by simp[World.cell?,hB]
      go_wp2_with (refine jQ (r:=w.heap.size) (l:=jb4 1) (s:=⟨#[60,61]⟩) rfl _ _ _ (.inl rfl) jW q8 (sg 1 2) rfl rfl rfl hM (by decide +kernel) ?_;intro w3 hg hM2;have hB2:=(hg.block _ (Array.getElem?_eq_some_iff.1 hB).1 (by simp;omega)).trans hB;have hE2:=hE.row hg (Nat.le_refl _);clear hg)
      go_roundw
      case rel=>exact⟨2,by omega,rfl,hE2,hB2,hM2⟩
      case measure=>simp[intOf]
     ·have cS:wr.cell? ⟨wo.heap.size,2,none⟩ = some (.string ⟨#[62]⟩):=by simp[World.cell?,hB]
      go_wp2_with (refine jQ (r:=w.heap.size) (l:=jb4 2) (s:=⟨#[62]⟩) rfl _ _ _ (.inl rfl) jW q8 (sg 1 2) rfl rfl rfl hM (by decide +kernel) ?_;intro w3 hg hM2;have hB2:=(hg.block _ (Array.getElem?_eq_some_iff.1 hB).1 (by simp;omega)).trans hB;have hE2:=hE.row hg (Nat.le_refl _);clear hg)
      go_roundw
      case rel=>exact⟨3,by omega,rfl,hE2,hB2,hM2⟩
      case measure=>simp[intOf]
     ·have cS:wr.cell? ⟨wo.heap.size,3,none⟩ = some (.string ⟨#[62,61]⟩):=by simp[World.cell?,hB]
      go_wp2_with (refine jQ (r:=w.heap.size) (l:=jb4 3) (s:=⟨#[62,61]⟩) rfl _ _ _ (.inl rfl) jW q8 (sg 1 2) rfl rfl rfl hM (by decide +kernel) ?_;intro w3 hg hM2;have hB2:=(hg.block _ (Array.getElem?_eq_some_iff.1 hB).1 (by simp;omega)).trans hB;have hE2:=hE.row hg (Nat.le_refl _);clear hg)
      go_roundw
      case rel=>exact⟨4,by omega,rfl,hE2,hB2,hM2⟩
      case measure=>simp[intOf]
     ·have cS:wr.cell? ⟨wo.heap.size,4,none⟩ = some (.string ⟨#[61,61]⟩):=by simp[World.cell?,hB]
      go_wp2_with (refine jQ (r:=w.heap.size) (l:=jb4 4) (s:=⟨#[61,61]⟩) rfl _ _ _ (.inl rfl) jW q8 (sg 1 2) rfl rfl rfl hM (by decide +kernel) ?_;intro w3 hg hM2;have hB2:=(hg.block _ (Array.getElem?_eq_some_iff.1 hB).1 (by simp;omega)).trans hB;have hE2:=hE.row hg (Nat.le_refl _);clear hg)
      go_roundw
      case rel=>exact⟨5,by omega,rfl,hE2,hB2,hM2⟩
      case measure=>simp[intOf]
     ·have cS:wr.cell? ⟨wo.heap.size,5,none⟩ = some (.string ⟨#[33,61]⟩):=by simp[World.cell?,hB]
      go_wp2_with (refine jQ (r:=w.heap.size) (l:=jb4 5) (s:=⟨#[33,61]⟩) rfl _ _ _ (.inl rfl) jW q8 (sg 1 2) rfl rfl rfl hM (by decide +kernel) ?_;intro w3 hg hM2;have hB2:=(hg.block _ (Array.getElem?_eq_some_iff.1 hB).1 (by simp;omega)).trans hB;have hE2:=hE.row hg (Nat.le_refl _);clear hg)
      go_roundw
      case rel=>exact⟨6,by omega,rfl,hE2,hB2,hM2⟩
      case measure=>simp[intOf]
    ·obtain rfl:k=6:=by omega
     go_wp2
     go_ret
     exact⟨_,rfl,hE,_,rfl,hM⟩
theorem vS (b:Bool) (w:World):Calls Tryz.prog 36 #[.bool b] w (Ret w (jov (jlt b))):=by
 cases b
 ·exact jiS w
 ·exact jkK w
def jkN (b:Bool):List (ByteArray × Int × Int) :=
 if b then [(⟨#[38,38]⟩,2,2),(⟨#[124,124]⟩,2,2),(⟨#[43]⟩,1,1),(⟨#[45]⟩,1,1),(⟨#[42]⟩,1,1),(⟨#[47]⟩,1,1),(⟨#[60]⟩,1,2),(⟨#[60,61]⟩,1,2),(⟨#[62]⟩,1,2),(⟨#[62,61]⟩,1,2),(⟨#[61,61]⟩,1,2),(⟨#[33,61]⟩,1,2)]
 else [(⟨#[45]⟩,1,1),(⟨#[33]⟩,2,2)]
def jds (b:Bool) (s:ByteArray):Int × Int:=(((jkN b).find? (fun p=>s == p.1)).map (·.2)).getD (0,0)
theorem jgR (b:Bool):jlt b=(jkN b).map (fun p=>(p.1,sg p.2.1 p.2.2)):=by cases b <;> rfl
theorem jbP (b:Bool) (s:ByteArray):(pJ (jlt b) s).getD (sg 0 0)=sg (jds b s).1 (jds b s).2:=by
 rw[jgR];unfold jds pJ;generalize jkN b=l
 induction l with
 | nil=>rfl
 | cons p l ih =>
  by_cases h:s == p.1
  ·simp[h]
  ·simp only[List.map_cons,List.find?_cons,h];exact ih
mutual
def xC:Nd->Int
 | .mk k _ s kids =>
  if k=13 then 2 else if k=12 ∨ k=14 ∨ k=15 then 1
  else if k=17 ∨ k=18 then (if yV (jds (k == 18) s).1 kids then 0 else (jds (k == 18) s).2)
  else if k=16 then (if yV 1 kids then 0 else 1) else 0
def yV (t:Int):List Nd->Bool
 | []=>false
 | x :: xs=>(xC x != t) || yV t xs
end
theorem jgk (t:Int) (l:List Nd):yV t l=l.any (fun x=>xC x != t):=by
 induction l with
 | nil=>simp[yV]
 | cons x xs ih=>simp[yV,ih]
def TypeOfC (t:Nd):Prop := ∀ v w,t.At w.cell? v->Calls Tryz.prog 18 #[v] w (iT w (.int .i64 (xC t)))
theorem TypeOfC.use {t:Nd} (h:TypeOfC t) {v:Value} {w:World} (ht:t.At w.cell? v):Calls Tryz.prog 18 #[v] w (iT w (.int .i64 (xC t))):=h v w ht
theorem jkz (w:World) (a b c d:Value) (T:TypeId):(w.alloc (.cells #[a,b,c,d] T)).heap[w.heap.size]? = some (.cells #[a,b,c,d] T (0,0)):=heap_alloc_new w _
theorem jjv (x:Nd) (ih:TypeOfC x) (v:Value) (p:Addr) (t:Int) (w:World) (hv:x.At w.cell? v) (hc:w.cell? p=some (.int .i64 t)) :
  Calls Tryz.prog 55 #[v,.pointer (some p)] w (iT w (.bool (xC x != t))):=by
 have IH:Hid (TypeOfC x):=ih
 have hA:=hv
 obtain⟨kv,rfl,-⟩ := hv.parts
 have hne:p.block<w.heap.size:=World.block_lt_of_cell? w p hc
 have hA1:Hid (x.At (w.alloc (.cells #[.int .i64 x.k,.int .i64 x.n,.string x.s,kv] 43)).cell? (.agg #[.int .i64 x.k,.int .i64 x.n,.string x.s,kv])):=Nd.At.mono (((Ext.refl w).alloc _).sub) _ _ hA
 obtain⟨c0,c1,c2,c3,-⟩ := oV (jkz w (.int .i64 x.k) (.int .i64 x.n) (.string x.s) kv 43)
 have hcp:=((Ext.refl w).alloc (.cells #[.int .i64 x.k,.int .i64 x.n,.string x.s,kv] 43)).c hc
 obtain⟨ty,hty⟩ : ∃ ty,ty=xC x:=⟨_,rfl⟩
 have HT:Hid (ty=xC x):=hty
 clear ih hA hty hc hv
 go_enter Tryz.func55,Tryz.ntmps55
 go_wp2_with fail
 refine aQ (fun w' => w'.cell? ⟨w.heap.size,0,none⟩ = some (.int .i64 x.k)/\w'.cell? ⟨w.heap.size,1,none⟩ = some (.int .i64 x.n)/\w'.cell? ⟨w.heap.size,2,none⟩ = some (.string x.s)/\w'.cell? ⟨w.heap.size,3,none⟩ = some kv/\w'.cell? p=some (.int .i64 t)) [(0,0),(2,0),(1,1),(3,3),(4,3)] (by kernel_rfl) (by kernel_rfl) ?_ (fun hS => ?_)
 ·first | go_keep | exact⟨hx2.c c0,hx2.c c1,hx2.c c2,hx2.c c3,hx2.c hcp⟩
 refine bR rfl hS (by rfl) ?_
 apply Exists.intro
 refine⟨fun w0 hS0 => ?_,?_⟩
 ·(try dsimp only at hS0);go_simp;try with_reducible rfl
 simp only[List.getElem_toArray,List.getElem_cons_zero,List.getElem_cons_succ,Act.put,List.setIfInBounds_toArray,List.set_cons_zero,List.set_cons_succ];refine bR rfl hS (by rfl) ?_
 apply Exists.intro
 refine⟨fun w0 hS0 => ?_,?_⟩
 ·(try dsimp only at hS0);go_simp;try with_reducible rfl
 simp only[List.getElem_toArray,List.getElem_cons_zero,List.getElem_cons_succ,Act.put,List.setIfInBounds_toArray,List.set_cons_zero,List.set_cons_succ];refine bS rfl (fun K hK => ?_);rw[if_pos (by rfl)]
 go_wp2_with (first
  | (go_at_call 18;refine (IH.out.use (Nd.At.mono (((Ext.refl _).drew).sub) _ _ hA1.out)).mono ?_;rintro e w2 ⟨rfl,hx2⟩;rw[<- HT.out]))
 refine dM (by first | go_keep | exact⟨hx2.c c0,hx2.c c1,hx2.c c2,hx2.c c3,hx2.c hcp⟩) (fun hS => ?_);refine v8 rfl (by rfl) ?_
 apply Exists.intro
 refine⟨fun w0 => ?_,?_⟩
 ·go_simp;try with_reducible rfl
 simp only[List.getElem_toArray,List.getElem_cons_zero,List.getElem_cons_succ,Act.put,List.setIfInBounds_toArray,List.set_cons_zero,List.set_cons_succ];refine v8 rfl (by rfl) ?_
 apply Exists.intro
 refine⟨fun w0 => ?_,?_⟩
 ·go_simp;try with_reducible rfl
 simp only[List.getElem_toArray,List.getElem_cons_zero,List.getElem_cons_succ,Act.put,List.setIfInBounds_toArray,List.set_cons_zero,List.set_cons_succ];refine jdq ?_
 go_wp2
 go_ret
 exact⟨by rw[<- HT.out];rfl,(((Ext.refl w).alloc _).drew).trans hx2⟩
theorem jml (l:List Nd) (sv:Value) (t:Int) (w:World) (hl:NdsAt w.cell? sv l) (ih:∀ x ∈ l,TypeOfC x) :
  Calls Tryz.prog 37 #[sv,.int .i64 t] w (iT w (.bool (!yV t l))):=by
 have x0:Ext w (w.alloc (.cells #[.int .i64 t] 58)):=(Ext.refl w).alloc _
 have hc:(w.alloc (.cells #[.int .i64 t] 58)).cell? ⟨w.heap.size,0,none⟩ = some (.int .i64 t):=jdX w [.int .i64 t] _ 0 _ rfl
 have hasks:Asks (w.alloc (.cells #[.int .i64 t] 58)) 55 #[.pointer (some ⟨w.heap.size,0,none⟩)] l (fun x=>xC x != t) :=
  ⟨fun _ _=>rfl,fun x hx v w' hx' hA=>jjv x (ih x hx) v ⟨w.heap.size,0,none⟩ t w' hA (hx'.c hc)⟩
 have hcall:=Lib.hid (vC l sv _ _ _ _ (hl.mono x0.sub) hasks)
 rw[<- jgk] at hcall
 obtain⟨q,hq⟩ : ∃ q,q=yV t l:=⟨_,rfl⟩
 rw[<- hq] at hcall ⊢;clear hq hasks hc ih hl
 go_enter Tryz.func37,Tryz.ntmps37
 go_wp2_with (go_at_call 25;refine hcall.out.mono ?_;rintro e w2 ⟨rfl,hx2⟩)
 go_ret
 exact⟨rfl,x0.trans hx2⟩
theorem jfH (w:World):(zeroValue 85).run Tryz.prog w = .ok (sg 0 0) w:=by kernel_rfl
theorem jp8 (w:World) (a b:Value) (T:TypeId):(w.alloc (.cells #[a,b] T)).heap[w.heap.size]? = some (.cells #[a,b] T (0,0)):=heap_alloc_new w _
theorem i7 {w:World} {R:Nat} {a b:Value} {T:TypeId} (h:w.heap[R]? = some (.cells #[a,b] T (0,0))) :
  w.cell? ⟨R,0,none⟩ = some a/\w.cell? ⟨R,1,none⟩ = some b/\w.frozen? ⟨R,0,none⟩ = false/\w.frozen? ⟨R,1,none⟩ = false:=by
 simp[World.cell?,World.frozen?,h]
theorem jmk {l:List Nd} {sv:Value} {w wk:World} (hl:NdsAt w.cell? sv l) (ih:∀ x ∈ l,TypeOfC x) (t:Int) {q:Bool} (hq:q=yV t l) (hE:Ext w wk) :
  Calls Tryz.prog 37 #[sv,.int .i64 t] wk (iT wk (.bool (!q))):=by
 rw[hq];exact jml l sv t wk (hl.mono hE.sub) ih
theorem jfz (k n:Int) (s:ByteArray) (l:List Nd) (hk:k=12 ∨ k=13 ∨ k=14 ∨ k=15):TypeOfC (.mk k n s l):=by
 intro v w ht
 obtain⟨kv,rfl,-⟩ := ht.parts
 clear ht
 rcases hk with rfl | rfl | rfl | rfl
 all_goals
  go_enter Tryz.func18,Tryz.ntmps18
  go_wp2
  go_ret
  exact⟨rfl,((Ext.refl w).alloc _).alloc _⟩
theorem jdA (k n:Int) (s:ByteArray) (l:List Nd) (hk:k ≠ 12/\k ≠ 13/\k ≠ 14/\k ≠ 15/\k ≠ 16/\k ≠ 17/\k ≠ 18):TypeOfC (.mk k n s l):=by
 intro v w ht
 obtain⟨kv,rfl,-⟩ := ht.parts
 clear ht;simp only[Nd.k]
 obtain⟨h1,h2,h3,h4,h5,h6,h7⟩ := hk
 have e:xC (.mk k n s l)=0:=by simp[xC,h1,h2,h3,h4,h5,h6,h7]
 rw[e]
 go_enter Tryz.func18,Tryz.ntmps18
 go_wp2
 go_ret
 exact⟨rfl,((Ext.refl w).alloc _).alloc _⟩
theorem jfy (n:Int) (s:ByteArray) (l:List Nd) (ih:∀ x ∈ l,TypeOfC x):TypeOfC (.mk 16 n s l):=by
 intro v w ht
 obtain⟨kv,rfl,-,-,-,hl⟩ := ht.parts
 simp only[Nd.k,Nd.n,Nd.s,Nd.kids] at *
 obtain⟨q,hq⟩ : ∃ q,q=yV 1 l:=⟨_,rfl⟩
 have e:xC (.mk 16 n s l)=if q then 0 else 1:=by simp[xC,hq]
 have hcall:=fun (wk:World) (hE:Ext w wk)=>jmk hl ih 1 hq hE
 have HC:=Lib.hid hcall
 rw[e];clear e hq hl ht ih hcall
 have hE:=((Ext.refl w).alloc (.cells #[.int .i64 16,.int .i64 n,.string s,kv] 43)).alloc (.cells #[.int .i64 1,.int .i64 1] 85)
 have hV:=jp8 (w.alloc (.cells #[.int .i64 16,.int .i64 n,.string s,kv] 43)) (.int .i64 1) (.int .i64 1) 85
 simp only[World.size_alloc] at hV
 cases q
 all_goals
  go_enter Tryz.func18,Tryz.ntmps18
  go_wp2_with (go_at_call 37;refine (HC.out _ hE).mono ?_;rintro e w2 ⟨rfl,hx2⟩;obtain⟨cV0,cV1,fV0,fV1⟩ := i7 (Ext.block hx2 hV))
  go_ret
  exact⟨rfl,hE.trans hx2⟩
theorem jfA (n:Int) (s:ByteArray) (l:List Nd) (ih:∀ x ∈ l,TypeOfC x):TypeOfC (.mk 17 n s l):=by
 intro v w ht
 obtain⟨kv,rfl,-,-,-,hl⟩ := ht.parts
 simp only[Nd.k,Nd.n,Nd.s,Nd.kids] at *
 obtain⟨o1,ho1⟩ : ∃ o1,o1=(jds false s).1:=⟨_,rfl⟩
 obtain⟨o2,ho2⟩ : ∃ o2,o2=(jds false s).2:=⟨_,rfl⟩
 obtain⟨q,hq⟩ : ∃ q,q=yV o1 l:=⟨_,rfl⟩
 have e:xC (.mk 17 n s l)=if q then 0 else o2:=by
  simp[xC,hq,ho1,ho2]
 have hlk:(pJ (jlt false) s).getD (sg 0 0) = .agg #[.int .i64 o1,.int .i64 o2]:=by rw[jbP,ho1,ho2];rfl
 have HL:=Lib.hid hlk
 have hcall:=fun (wk:World) (hE:Ext w wk)=>jmk hl ih o1 hq hE
 have HC:=Lib.hid hcall
 rw[e];clear e hq hl ht ih hcall ho1 ho2 hlk
 have hE:=((Ext.refl w).alloc (.cells #[.int .i64 17,.int .i64 n,.string s,kv] 43)).alloc (.cells #[.int .i64 1,.int .i64 1] 85)
 have hB:=Ext.block ((Ext.refl _).alloc (.cells #[.int .i64 1,.int .i64 1] 85)) (jkz w (.int .i64 17) (.int .i64 n) (.string s) kv 43)
 have hV:=jp8 (w.alloc (.cells #[.int .i64 17,.int .i64 n,.string s,kv] 43)) (.int .i64 1) (.int .i64 1) 85
 simp only[World.size_alloc] at hV
 cases q
 all_goals
  obtain⟨c0,c1,c2,c3,-⟩ := oV hB
  go_enter Tryz.func18,Tryz.ntmps18
  go_wp2_with fail
  refine aQ (fun w' => w'.cell? ⟨w.heap.size,0,none⟩ = some (.int .i64 17)/\w'.cell? ⟨w.heap.size,2,none⟩ = some (.string s)) [(0,3),(1,0),(2,3),(4,3),(5,0),(3,1),(6,1),(7,2)] (by kernel_rfl) (by kernel_rfl) ?_ (fun hS => ?_)
  ·first | go_keep | exact⟨hx2.c c0,hx2.c c2⟩
  refine v8 rfl (by rfl) ?_
  apply Exists.intro
  refine⟨fun w0 => ?_,?_⟩
  ·go_simp;try with_reducible rfl
  simp only[List.getElem_toArray,List.getElem_cons_zero,List.getElem_cons_succ,Act.put,List.setIfInBounds_toArray,List.set_cons_zero,List.set_cons_succ];refine bR rfl hS (by rfl) ?_
  apply Exists.intro
  refine⟨fun w0 hS0 => ?_,?_⟩
  ·(try dsimp only at hS0);go_simp;try with_reducible rfl
  simp only[List.getElem_toArray,List.getElem_cons_zero,List.getElem_cons_succ,Act.put,List.setIfInBounds_toArray,List.set_cons_zero,List.set_cons_succ];refine v8 rfl (by rfl) ?_
  apply Exists.intro
  refine⟨fun w0 => ?_,?_⟩
  ·go_simp;try with_reducible rfl
  simp only[List.getElem_toArray,List.getElem_cons_zero,List.getElem_cons_succ,Act.put,List.setIfInBounds_toArray,List.set_cons_zero,List.set_cons_succ];refine v8 rfl (by rfl) ?_
  apply Exists.intro
  refine⟨fun w0 => ?_,?_⟩
  ·go_simp;try with_reducible rfl
  simp only[List.getElem_toArray,List.getElem_cons_zero,List.getElem_cons_succ,Act.put,List.setIfInBounds_toArray,List.set_cons_zero,List.set_cons_succ];refine bR rfl hS (by rfl) ?_
  apply Exists.intro
  refine⟨fun w0 hS0 => ?_,?_⟩
  ·(try dsimp only at hS0);go_simp;try with_reducible rfl
  simp only[List.getElem_toArray,List.getElem_cons_zero,List.getElem_cons_succ,Act.put,List.setIfInBounds_toArray,List.set_cons_zero,List.set_cons_succ];refine bS rfl (fun K hK => ?_);rw[if_pos (by rfl)]
  go_wp2_with (first
   | (go_at_call 36;refine (vS _ _).mono ?_;rintro e w2 ⟨v,rfl,hx2,r,rfl,hM⟩;have hV2:=Ext.block hx2 hV;obtain⟨cV0,cV1,fV0,fV1⟩ := i7 hV2))
  refine dM (by first | go_keep | exact⟨hx2.c c0,hx2.c c2⟩) (fun hS => ?_);refine bS rfl (fun K hK => ?_);rw[if_pos (by rfl)];refine iR (r:=r) _ _ (by rfl) jW q8 (jfH _) (by rfl) (by rfl) hM ?_;rw[HL.out];refine hK _ _ ?_;refine dM (by first | go_keep | exact⟨hx2.c c0,hx2.c c2⟩) (fun hS => ?_);refine jcd rfl (fun K hK => ?_);rw[if_pos (by rfl)]
  go_wp2_with (first
   | (go_at_call 36;refine (vS _ _).mono ?_;rintro e w2 ⟨v,rfl,hx2,r,rfl,hM⟩;have hV2:=Ext.block hx2 hV;obtain⟨cV0,cV1,fV0,fV1⟩ := i7 hV2))
  refine jdq ?_
  have hE3:=((hE.drew.trans hx2).row (yX w2 (w.heap.size+1) 0 (.int .i64 o1)) (by omega)).row (yX _ (w.heap.size+1) 1 (.int .i64 o2)) (by omega)
  have hV3:=cR (cR hV2 0 (.int .i64 o1)) 1 (.int .i64 o2)
  have hKids:=hx2.c c3
  have hKids3:=(yX (w2.setCell ⟨w.heap.size+1,0,none⟩ (.int .i64 o1)) (w.heap.size+1) 1 (.int .i64 o2)).cell ((yX w2 (w.heap.size+1) 0 (.int .i64 o1)).cell hKids (by simp)) (by simp)
  obtain⟨cW0,cW1,fW0,fW1⟩ := i7 hV3
  clear hS hV hV2 hx2 hM hKids cV0 cV1 fV0 fV1 c0 c1 c2 c3 hB hE
  go_wp2_with (go_at_call 37;refine (HC.out _ hE3).mono ?_;rintro e w4 ⟨rfl,hx4⟩;have cX1:=hx4.c cW1)
  go_ret
  exact⟨rfl,hE3.trans hx4⟩
theorem jfB (n:Int) (s:ByteArray) (l:List Nd) (ih:∀ x ∈ l,TypeOfC x):TypeOfC (.mk 18 n s l):=by
 intro v w ht
 obtain⟨kv,rfl,-,-,-,hl⟩ := ht.parts
 simp only[Nd.k,Nd.n,Nd.s,Nd.kids] at *
 obtain⟨o1,ho1⟩ : ∃ o1,o1=(jds true s).1:=⟨_,rfl⟩
 obtain⟨o2,ho2⟩ : ∃ o2,o2=(jds true s).2:=⟨_,rfl⟩
 obtain⟨q,hq⟩ : ∃ q,q=yV o1 l:=⟨_,rfl⟩
 have e:xC (.mk 18 n s l)=if q then 0 else o2:=by
  simp[xC,hq,ho1,ho2]
 have hlk:(pJ (jlt true) s).getD (sg 0 0) = .agg #[.int .i64 o1,.int .i64 o2]:=by rw[jbP,ho1,ho2];rfl
 have HL:=Lib.hid hlk
 have hcall:=fun (wk:World) (hE:Ext w wk)=>jmk hl ih o1 hq hE
 have HC:=Lib.hid hcall
 rw[e];clear e hq hl ht ih hcall ho1 ho2 hlk
 have hE:=((Ext.refl w).alloc (.cells #[.int .i64 18,.int .i64 n,.string s,kv] 43)).alloc (.cells #[.int .i64 1,.int .i64 1] 85)
 have hB:=Ext.block ((Ext.refl _).alloc (.cells #[.int .i64 1,.int .i64 1] 85)) (jkz w (.int .i64 18) (.int .i64 n) (.string s) kv 43)
 have hV:=jp8 (w.alloc (.cells #[.int .i64 18,.int .i64 n,.string s,kv] 43)) (.int .i64 1) (.int .i64 1) 85
 simp only[World.size_alloc] at hV
 cases q
 all_goals
  obtain⟨c0,c1,c2,c3,-⟩ := oV hB
  go_enter Tryz.func18,Tryz.ntmps18
  go_wp2_with fail
  refine aQ (fun w' => w'.cell? ⟨w.heap.size,0,none⟩ = some (.int .i64 18)/\w'.cell? ⟨w.heap.size,2,none⟩ = some (.string s)) [(0,3),(1,0),(2,3),(4,3),(5,0),(3,1),(6,1),(7,2)] (by kernel_rfl) (by kernel_rfl) ?_ (fun hS => ?_)
  ·first | go_keep | exact⟨hx2.c c0,hx2.c c2⟩
  refine v8 rfl (by rfl) ?_
  apply Exists.intro
  refine⟨fun w0 => ?_,?_⟩
  ·go_simp;try with_reducible rfl
  simp only[List.getElem_toArray,List.getElem_cons_zero,List.getElem_cons_succ,Act.put,List.setIfInBounds_toArray,List.set_cons_zero,List.set_cons_succ];refine bR rfl hS (by rfl) ?_
  apply Exists.intro
  refine⟨fun w0 hS0 => ?_,?_⟩
  ·(try dsimp only at hS0);go_simp;try with_reducible rfl
  simp only[List.getElem_toArray,List.getElem_cons_zero,List.getElem_cons_succ,Act.put,List.setIfInBounds_toArray,List.set_cons_zero,List.set_cons_succ];refine v8 rfl (by rfl) ?_
  apply Exists.intro
  refine⟨fun w0 => ?_,?_⟩
  ·go_simp;try with_reducible rfl
  simp only[List.getElem_toArray,List.getElem_cons_zero,List.getElem_cons_succ,Act.put,List.setIfInBounds_toArray,List.set_cons_zero,List.set_cons_succ];refine v8 rfl (by rfl) ?_
  apply Exists.intro
  refine⟨fun w0 => ?_,?_⟩
  ·go_simp;try with_reducible rfl
  simp only[List.getElem_toArray,List.getElem_cons_zero,List.getElem_cons_succ,Act.put,List.setIfInBounds_toArray,List.set_cons_zero,List.set_cons_succ];refine bR rfl hS (by rfl) ?_
  apply Exists.intro
  refine⟨fun w0 hS0 => ?_,?_⟩
  ·(try dsimp only at hS0);go_simp;try with_reducible rfl
  simp only[List.getElem_toArray,List.getElem_cons_zero,List.getElem_cons_succ,Act.put,List.setIfInBounds_toArray,List.set_cons_zero,List.set_cons_succ];refine bS rfl (fun K hK => ?_);rw[if_pos (by rfl)]
  go_wp2_with (first
   | (go_at_call 36;refine (vS _ _).mono ?_;rintro e w2 ⟨v,rfl,hx2,r,rfl,hM⟩;have hV2:=Ext.block hx2 hV;obtain⟨cV0,cV1,fV0,fV1⟩ := i7 hV2))
  refine dM (by first | go_keep | exact⟨hx2.c c0,hx2.c c2⟩) (fun hS => ?_);refine bS rfl (fun K hK => ?_);rw[if_pos (by rfl)];refine iR (r:=r) _ _ (by rfl) jW q8 (jfH _) (by rfl) (by rfl) hM ?_;rw[HL.out];refine hK _ _ ?_;refine dM (by first | go_keep | exact⟨hx2.c c0,hx2.c c2⟩) (fun hS => ?_);refine jcd rfl (fun K hK => ?_);rw[if_pos (by rfl)]
  go_wp2_with (first
   | (go_at_call 36;refine (vS _ _).mono ?_;rintro e w2 ⟨v,rfl,hx2,r,rfl,hM⟩;have hV2:=Ext.block hx2 hV;obtain⟨cV0,cV1,fV0,fV1⟩ := i7 hV2))
  refine jdq ?_
  have hE3:=((hE.drew.trans hx2).row (yX w2 (w.heap.size+1) 0 (.int .i64 o1)) (by omega)).row (yX _ (w.heap.size+1) 1 (.int .i64 o2)) (by omega)
  have hV3:=cR (cR hV2 0 (.int .i64 o1)) 1 (.int .i64 o2)
  have hKids:=hx2.c c3
  have hKids3:=(yX (w2.setCell ⟨w.heap.size+1,0,none⟩ (.int .i64 o1)) (w.heap.size+1) 1 (.int .i64 o2)).cell ((yX w2 (w.heap.size+1) 0 (.int .i64 o1)).cell hKids (by simp)) (by simp)
  obtain⟨cW0,cW1,fW0,fW1⟩ := i7 hV3
  clear hS hV hV2 hx2 hM hKids cV0 cV1 fV0 fV1 c0 c1 c2 c3 hB hE
  go_wp2_with (go_at_call 37;refine (HC.out _ hE3).mono ?_;rintro e w4 ⟨rfl,hx4⟩;have cX1:=hx4.c cW1)
  go_ret
  exact⟨rfl,hE3.trans hx4⟩
mutual
theorem l9:∀ t:Nd,TypeOfC t
 | .mk k n s l=>by
  have ih:=lZ l
  by_cases h1:k=12 ∨ k=13 ∨ k=14 ∨ k=15
  ·exact jfz k n s l h1
  ·by_cases h16:k=16
   ·subst h16;exact jfy n s l ih
   ·by_cases h17:k=17
    ·subst h17;exact jfA n s l ih
    ·by_cases h18:k=18
     ·subst h18;exact jfB n s l ih
     ·exact jdA k n s l (by omega)
theorem lZ:∀ l:List Nd,∀ x ∈ l,TypeOfC x
 | []=>fun _ h=>by cases h
 | t :: ts =>
  have h1:=l9 t
  have h2:=lZ ts
  fun x hx=>(List.mem_cons.1 hx).elim (fun e=>e ▸ h1) (h2 x)
end
def aL (l:List ByteArray) (s:ByteArray):Int:=match l.findIdx? (fun x=>x == s) with | some i=>(i:Int) | none => -1
theorem jkV {l:List ByteArray} {s:ByteArray} {k:Nat} (hk:k<l.length) (h:∀ j (hj:j<l.length),j<k->(l[j] == s)=false) (hq:(l[k] == s)=true):aL l s=(k:Int):=by
 have:l.findIdx? (fun x=>x == s)=some k:=by
  rw[List.findIdx?_eq_some_iff_getElem];exact⟨hk,hq,fun j hj=>by simp[h j (by omega) hj]⟩
 unfold aL;rw[this]
theorem jiW {l:List ByteArray} {s:ByteArray} (h:∀ j (hj:j<l.length),(l[j] == s)=false):aL l s = -1:=by
 have:l.findIdx? (fun x=>x == s)=none:=by
  rw[List.findIdx?_eq_none_iff];intro x hx
  obtain⟨j,hj,rfl⟩ := List.mem_iff_getElem.1 hx
  simp[h j hj]
 unfold aL;rw[this]
theorem jdh (l:List ByteArray) (s:ByteArray) : -1<=aL l s/\aL l s<l.length+1/\aL l s<=l.length:=by
 unfold aL
 cases hf:l.findIdx? (fun x=>x == s) with
 | none=>simp;omega
 | some i =>
  rw[List.findIdx?_eq_some_iff_getElem] at hf
  obtain⟨hi,_⟩ := hf
  simp;omega
theorem jam (v:Value) (l:List ByteArray) (s:ByteArray) (w:World) (hl:StrsAt w.cell? v l) :
  Calls Tryz.prog 38 #[v,.string s] w fun e w' => e = .returned (.int .i64 (aL l s))/\w=w':=by
 obtain⟨h1,h2,p,b,off,cap,rfl,hc,hp,hn,hh⟩ := hl
 go_enter Tryz.func38,Tryz.ntmps38
 go_wp2
 go_loop [5,8] (fun _ i => ∃ k:Nat,k<=l.length/\i = .int .i64 k /\ ∀ j (hj:j<l.length),j<k->(l[j] == s)=false) (fun _ i=>l.length-(intOf i).toNat)
 case atStart=>exact⟨0,by omega,rfl,fun j hj h=>absurd h (by omega)⟩
 case round =>
  obtain⟨k,hk,rfl,hno⟩ := hrel
  have HNO:Hid (∀ j (hj:j<l.length),j<k->(l[j] == s)=false):=hno
  clear hno
  by_cases hlt:k<l.length
  ·obtain rfl:p=some ⟨b,off,none⟩ := by
    rcases hp with rfl | hp
    ·simp at hlt
    ·exact hp
   have cx:=hh k hlt
   obtain⟨x,hx⟩ : ∃ x,x=l[k]:=⟨_,rfl⟩
   rw[show l.getD k ByteArray.empty=x from by rw[hx];simp[hlt]] at cx
   have HX:Hid (x=l[k]):=hx
   clear hx hh hp hn h2
   cases hxs:(s.toList == x.toList) with
   | true =>
    have hxs2:(x == s)=true:=by rw[beq_toListBytes,<- hxs,Bool.beq_comm]
    go_wp2
    go_ret
    have:=jkV (s:=s) hlt HNO.out (by rw[<- HX.out];exact hxs2)
    exact⟨by rw[this];rfl,rfl⟩
   | false =>
    have hxs2:(x == s)=false:=by rw[beq_toListBytes,<- hxs,Bool.beq_comm]
    go_wp2
    go_round
    case rel=>exact⟨k+1,by omega,by go_num,fun j hj h=>by
     by_cases hjk:j=k
     ·subst hjk;rw[<- HX.out];exact hxs2
     ·exact HNO.out j hj (by omega)⟩
    case measure=>simp[intOf];omega
  ·clear hh hp hn h2
   go_wp2
   go_ret
   exact⟨by rw[jiW (fun j hj=>HNO.out j hj (by omega))];rfl,rfl⟩
def vE (d v:List ByteArray) (s:ByteArray):Int:=if 0<=aL d s then aL d s else if 0<=aL v s then d.length+aL v s else -1
theorem jbB (dv vv ov:Value) (d v:List ByteArray) (s:ByteArray) (w:World) (hd:StrsAt w.cell? dv d) (hv:StrsAt w.cell? vv v) :
  Calls Tryz.prog 20 #[.agg #[dv,vv,ov],.string s] w (iT w (.int .i64 (vE d v s))):=by
 have x0:Ext w (w.alloc (.cells #[dv,vv,ov] 26)):=(Ext.refl w).alloc _
 have c1:=Lib.hid (jam dv d s _ (hd.mono x0.sub))
 have c2:=Lib.hid (jam vv v s _ (hv.mono x0.sub))
 have e:vE d v s=if 0<=aL d s then aL d s else if 0<=aL v s then d.length+aL v s else -1:=rfl
 have l1:=jdh d s
 have l2:=jdh v s
 have d1:=hd.1
 have d2:=hv.1
 obtain⟨p1,b1,o1,k1,rfl,hk1,-⟩ := hd.2.2
 obtain⟨p2,b2,o2,k2,rfl,hk2,-⟩ := hv.2.2
 obtain⟨i,hi⟩ : ∃ i,i=aL d s:=⟨_,rfl⟩
 obtain⟨j,hj⟩ : ∃ j,j=aL v s:=⟨_,rfl⟩
 rw[<- hi] at c1 e l1;rw[<- hj] at c2 e l2;rw[e];clear hi hj hd hv e
 by_cases h1:0<=i
 ·rw[if_pos h1]
  go_enter Tryz.func20,Tryz.ntmps20
  go_wp2_with (go_at_call 38;refine c1.out.mono ?_;rintro e w2 ⟨rfl,rfl⟩)
  go_ret
  exact⟨rfl,x0⟩
 ·rw[if_neg h1]
  by_cases h2:0<=j
  ·rw[if_pos h2]
   go_enter Tryz.func20,Tryz.ntmps20
   go_wp2_with fail
   refine c1.out.mono ?_;rintro e w2 ⟨rfl,rfl⟩
   go_wp2_with fail
   refine c2.out.mono ?_;rintro e w2 ⟨rfl,rfl⟩
   go_wp2
   go_ret
   exact⟨rfl,x0⟩
  ·rw[if_neg h2]
   go_enter Tryz.func20,Tryz.ntmps20
   go_wp2_with fail
   refine c1.out.mono ?_;rintro e w2 ⟨rfl,rfl⟩
   go_wp2_with fail
   refine c2.out.mono ?_;rintro e w2 ⟨rfl,rfl⟩
   go_wp2
   go_ret
   exact⟨rfl,x0⟩
mutual
def yR:Nd->Bool
 | .mk k _ _ kids=>if k=11 then fZ kids else if k=2 ∨ k=3 then jmc kids else !yV 1 kids
def fZ:List Nd->Bool
 | []=>true
 | x :: xs=>yR x && fZ xs
def jmc:List Nd->Bool
 | []=>false
 | c :: rest=>(xC c == 2) && fZ rest
end
theorem jfC (l:List Nd):fZ l = !l.any (fun x => !yR x):=by
 induction l with
 | nil=>simp[fZ]
 | cons x xs ih=>simp[fZ,ih]
def WellC (t:Nd):Prop := ∀ v w,t.At w.cell? v->Calls Tryz.prog 26 #[v] w (iT w (.bool (yR t)))
theorem WellC.use {t:Nd} (h:WellC t) {v:Value} {w:World} (ht:t.At w.cell? v):Calls Tryz.prog 26 #[v] w (iT w (.bool (yR t))):=h v w ht
theorem jji (x:Nd) (ih:WellC x) (v:Value) (w:World) (hv:x.At w.cell? v) :
  Calls Tryz.prog 48 #[v] w (iT w (.bool (!yR x))):=by
 have x0:=fun o=>(Ext.refl w).alloc o
 have hc:=fun o=>Lib.hid (ih.use (Nd.At.mono (x0 o).sub _ _ hv))
 obtain⟨kv,rfl,-⟩ := hv.parts
 obtain⟨q,hq⟩ : ∃ q,q=yR x:=⟨_,rfl⟩
 rw[<- hq] at hc ⊢;clear hq ih hv
 go_enter Tryz.func48,Tryz.ntmps48
 go_wp2_with (go_at_call 26;refine (hc _).out.mono ?_;rintro e w2 ⟨rfl,hx2⟩)
 go_ret
 exact⟨rfl,(x0 _).trans hx2⟩
theorem jaO (n:Int) (s:ByteArray) (l:List Nd) (ih:∀ x ∈ l,WellC x):WellC (.mk 11 n s l):=by
 intro v w ht
 obtain⟨kv,rfl,-,-,-,hl⟩ := ht.parts
 simp only[Nd.k,Nd.n,Nd.s,Nd.kids] at *
 have e:yR (.mk 11 n s l) = !l.any (fun x => !yR x):=by simp only[yR,jfC];simp
 have x0:Ext w (w.alloc (.cells #[.int .i64 11,.int .i64 n,.string s,kv] 43)):=(Ext.refl w).alloc _
 have hasks:Asks (w.alloc (.cells #[.int .i64 11,.int .i64 n,.string s,kv] 43)) 48 #[] l (fun x => !yR x) :=
  ⟨fun _ _=>rfl,fun x hx v w' hx' hA=>jji x (ih x hx) v w' hA⟩
 have hcall:=Lib.hid (vC l kv _ _ _ _ (hl.mono x0.sub) hasks)
 rw[e]
 obtain⟨q,hq⟩ : ∃ q,q=l.any (fun x => !yR x):=⟨_,rfl⟩
 rw[<- hq] at hcall ⊢;clear hq hasks ih hl e ht
 go_enter Tryz.func26,Tryz.ntmps26
 go_wp2_with (go_at_call 25;refine hcall.out.mono ?_;rintro e w2 ⟨rfl,hx2⟩)
 go_ret
 exact⟨rfl,x0.trans hx2⟩
theorem jgY (k n:Int) (s:ByteArray) (l:List Nd) (hk:k ≠ 11/\k ≠ 2/\k ≠ 3):WellC (.mk k n s l):=by
 intro v w ht
 obtain⟨kv,rfl,-,-,-,hl⟩ := ht.parts
 simp only[Nd.k,Nd.n,Nd.s,Nd.kids] at *
 obtain⟨h1,h2,h3⟩ := hk
 have e:yR (.mk k n s l) = !yV 1 l:=by simp[yR,h1,h2,h3]
 have x0:Ext w (w.alloc (.cells #[.int .i64 k,.int .i64 n,.string s,kv] 43)):=(Ext.refl w).alloc _
 have hcall:=Lib.hid (jmk hl (lZ l) 1 rfl x0)
 rw[e]
 obtain⟨q,hq⟩ : ∃ q,q=yV 1 l:=⟨_,rfl⟩
 rw[<- hq] at hcall ⊢
 have b1:(k == 11)=false:=by simpa using h1
 have b2:(k == 2)=false:=by simpa using h2
 have b3:(k == 3)=false:=by simpa using h3
 clear hq hl e ht h1 h2 h3
 go_enter Tryz.func26,Tryz.ntmps26
 go_wp2_with (go_at_call 37;refine hcall.out.mono ?_;rintro e w2 ⟨rfl,hx2⟩)
 go_ret
 exact⟨rfl,x0.trans hx2⟩
theorem jmd (k n:Int) (s:ByteArray) (hk:k=2 ∨ k=3):WellC (.mk k n s []):=by
 intro v w ht
 obtain⟨kv,rfl,-,-,-,hl⟩ := ht.parts
 simp only[Nd.k,Nd.n,Nd.s,Nd.kids] at *
 obtain⟨_,p,b,off,cap,rfl,-⟩ := hl
 have e:yR (.mk k n s [])=false:=by rcases hk with rfl | rfl <;> simp[yR,jmc]
 rw[e];clear ht e
 rcases hk with rfl | rfl
 all_goals
  go_enter Tryz.func26,Tryz.ntmps26
  go_wp2
  go_ret
  exact⟨rfl,(Ext.refl w).alloc _⟩
theorem jjj (k n:Int) (s:ByteArray) (c:Nd) (l:List Nd) (hk:k=2 ∨ k=3) (ih:∀ x ∈ l,WellC x):WellC (.mk k n s (c :: l)):=by
 intro v w ht
 obtain⟨kv,rfl,-,-,-,hl⟩ := ht.parts
 simp only[Nd.k,Nd.n,Nd.s,Nd.kids] at *
 have e:yR (.mk k n s (c :: l))=((xC c == 2) && yR (.mk 11 0 ⟨#[]⟩ l)):=by rcases hk with rfl | rfl <;> simp[yR,jmc]
 obtain⟨hlen,p,b,off,cap,rfl,hcap,hp,hn,hin⟩ := hl
 obtain rfl:p=some ⟨b,off,none⟩ := by
  rcases hp with h | h
  ·cases h
  ·exact h
 have hin2:=hin
 unfold Nd.In at hin2
 obtain⟨⟨v0,v1,v2,v3,d0,d1,d2,d3,hc⟩,hrest⟩ := hin2
 simp only[List.length_cons] at *
 have x0:Ext w (w.alloc (.cells #[.int .i64 k,.int .i64 n,.string s,.slice (some ⟨b,off,none⟩) (l.length+1) cap] 43)):=(Ext.refl w).alloc _
 replace d0:=x0.c d0
 replace d1:=x0.c d1
 replace d2:=x0.c d2
 replace d3:=x0.c d3
 have ht1:=Lib.hid ((l9 c).use (Nd.At.mono x0.sub _ _ hc))
 obtain⟨ty,hty⟩ : ∃ ty,ty=xC c:=⟨_,rfl⟩
 have hB:=Ext.block (Ext.refl _) (jkz w (.int .i64 k) (.int .i64 n) (.string s) (.slice (some ⟨b,off,none⟩) (l.length+1) cap) 43)
 rw[e,<- hty];rw[<- hty] at ht1
 obtain⟨q,hq⟩ : ∃ q,q=yR (.mk 11 0 ⟨#[]⟩ l):=⟨_,rfl⟩
 have hw:=fun (w2:World) (hx2:Ext w w2) (kv2:Value) (hkv:NdsAt w.cell? kv2 l)=>(jaO 0 ⟨#[]⟩ l ih).use (Nd.At.of_parts (t := .mk 11 0 ⟨#[]⟩ l) (by simp[Nd.k]) (by simp[Nd.n]) (Nat.zero_le _) (hkv.mono hx2.sub))
 simp only[Nd.k,Nd.n,Nd.s] at hw;rw[<- hq] at hw ⊢
 have HW:=Lib.hid hw
 clear hq hty e ht ih hw hc hp hn hin
 cases hte:(ty == 2) with
 | false =>
  rcases hk with rfl | rfl
  all_goals
   go_enter Tryz.func26,Tryz.ntmps26
   go_wp2_with (go_at_call 18;refine ht1.out.mono ?_;rintro e w2 ⟨rfl,hx2⟩)
   go_ret
   exact⟨rfl,x0.trans hx2⟩
 | true =>
  by_cases h1:cap=1
  ·obtain rfl:l=[]:=List.eq_nil_of_length_eq_zero (by omega)
   have hkv:NdsAt w.cell? (.slice (some ⟨b,off,none⟩) 0 0) []:=⟨by simp,_,b,off,0,rfl,by simp,.inl rfl,by simp,by unfold Nd.In;trivial⟩
   subst h1;simp only[List.length_nil,Nat.zero_add] at *;clear hrest
   rcases hk with rfl | rfl
   all_goals
    go_enter Tryz.func26,Tryz.ntmps26
    go_wp2_with (first
     | (go_at_call 18;refine ht1.out.mono ?_;rintro e w2 ⟨rfl,hx2⟩;obtain⟨e0,e1,e2,e3,-⟩ := oV (hx2.block hB))
     | (go_at_call 26;(with_reducible refine (HW.out _ (x0.trans hx2) _ hkv).mono ?_);rintro e w3 ⟨rfl,hx3⟩))
    go_ret
    exact⟨rfl,(x0.trans hx2).trans hx3⟩
  ·have hkv:NdsAt w.cell? (.slice (some ⟨b,off+4,none⟩) l.length (cap-1)) l:=⟨by omega,_,b,off+4,cap-1,rfl,by omega,.inr rfl,by simp,hrest⟩
   clear hrest
   rcases hk with rfl | rfl
   all_goals
    go_enter Tryz.func26,Tryz.ntmps26
    go_wp2_with (first
     | (go_at_call 18;refine ht1.out.mono ?_;rintro e w2 ⟨rfl,hx2⟩;obtain⟨e0,e1,e2,e3,-⟩ := oV (hx2.block hB))
     | (go_at_call 26;(with_reducible refine (HW.out _ (x0.trans hx2) _ hkv).mono ?_);rintro e w3 ⟨rfl,hx3⟩))
    go_ret
    exact⟨rfl,(x0.trans hx2).trans hx3⟩
mutual
theorem jfE:∀ t:Nd,WellC t
 | .mk k n s l=>by
  have ih:=jfD l
  by_cases h11:k=11
  ·subst h11;exact jaO n s l ih
  ·by_cases h2:k=2 ∨ k=3
   ·cases l with
    | nil=>exact jmd k n s h2
    | cons c rest=>exact jjj k n s c rest h2 (fun x hx=>ih x (List.mem_cons_of_mem _ hx))
   ·exact jgY k n s l (by omega)
theorem jfD:∀ l:List Nd,∀ x ∈ l,WellC x
 | []=>fun _ h=>by cases h
 | t :: ts =>
  have h1:=jfE t
  have h2:=jfD ts
  fun x hx=>(List.mem_cons.1 hx).elim (fun e=>e ▸ h1) (h2 x)
end
def HIn (C:Rd) (b:Nat) (off:Nat) (l:List (Int × Nd)):Prop := ∀ i (hi:i<l.length),-9223372036854775808<=l[i].1/\l[i].1<=9223372036854775807 ∧
 ∃ v1 v2 v3 v4,C ⟨b,off+i*5,none⟩ = some (.int .i64 l[i].1)/\C ⟨b,off+i*5+1,none⟩ = some v1/\C ⟨b,off+i*5+2,none⟩ = some v2/\C ⟨b,off+i*5+3,none⟩ = some v3/\C ⟨b,off+i*5+4,none⟩ = some v4/\l[i].2.At C (.agg #[v1,v2,v3,v4])
def jqg (C:Rd) (v:Value) (l:List (Int × Nd)):Prop :=
 l.length<=1000000000 /\ ∃ p b off cap,v = .slice p l.length cap/\l.length<=cap/\(l=[] ∨ p=some ⟨b,off,none⟩)/\(p=none->cap=0)/\HIn C b off l
structure Un where
 d:List ByteArray
 v:List ByteArray
 on:List (Int × Nd)
def jqk (C:Rd) (x:Value) (u:Un):Prop := ∃ dv vv ov,x = .agg #[dv,vv,ov]/\StrsAt C dv u.d/\StrsAt C vv u.v/\jqg C ov u.on
mutual
def jb5 (ix:ByteArray->Int):Nd->Bool
 | .mk k _ s kids=>((k == 1 || k == 14) && decide (ix s<0)) || jaL ix kids
def jaL (ix:ByteArray->Int):List Nd->Bool
 | []=>false
 | x :: xs=>jb5 ix x || jaL ix xs
end
theorem jgX (ix:ByteArray->Int) (l:List Nd):jaL ix l=l.any (jb5 ix):=by
 induction l with
 | nil=>simp[jaL]
 | cons x xs ih=>simp[jaL,ih]
structure Env (w:World) (U V:Nat) (dv vv ov:Value) (d v:List ByteArray):Prop where
 c0:w.cell? ⟨U,0,none⟩ = some dv
 c1:w.cell? ⟨U,1,none⟩ = some vv
 c2:w.cell? ⟨U,2,none⟩ = some ov
 f:w.cell? ⟨V,0,none⟩ = some (.func (.func 24) #[] #[.pointer (some ⟨U,0,none⟩),.pointer (some ⟨V,0,none⟩)])
 d:StrsAt w.cell? dv d
 v:StrsAt w.cell? vv v
theorem Env.ext {w w':World} {U V:Nat} {dv vv ov:Value} {d v:List ByteArray} (h:Env w U V dv vv ov d v) (x:Ext w w'):Env w' U V dv vv ov d v :=
 ⟨x.c h.c0,x.c h.c1,x.c h.c2,x.c h.f,h.d.mono x.sub,h.v.mono x.sub⟩
def jh4 (t:Nd):Prop := ∀ (x:Value) (w:World) (U V:Nat) (dv vv ov:Value) (d v:List ByteArray),t.At w.cell? x->Env w U V dv vv ov d v →
  Calls Tryz.prog 24 #[x,.pointer (some ⟨U,0,none⟩),.pointer (some ⟨V,0,none⟩)] w (iT w (.bool (jb5 (vE d v) t)))
theorem jim (k n:Int) (s:ByteArray) (l:List Nd) (ih:∀ x ∈ l,jh4 x):jh4 (.mk k n s l):=by
 intro x w U V dv vv ov d v ht E
 obtain⟨kv,rfl,-,-,-,hl⟩ := ht.parts
 simp only[Nd.k,Nd.n,Nd.s,Nd.kids] at *
 have e:jb5 (vE d v) (.mk k n s l)=(((k == 1 || k == 14) && decide (vE d v s<0)) || l.any (jb5 (vE d v))):=by simp only[jb5,jgX]
 have x0:Ext w (w.alloc (.cells #[.int .i64 k,.int .i64 n,.string s,kv] 43)):=(Ext.refl w).alloc _
 have E0:=E.ext x0
 have hB:=jkz w (.int .i64 k) (.int .i64 n) (.string s) kv 43
 have hasks:∀ w1,Ext (w.alloc (.cells #[.int .i64 k,.int .i64 n,.string s,kv] 43)) w1->Asks w1 24 #[.pointer (some ⟨U,0,none⟩),.pointer (some ⟨V,0,none⟩)] l (jb5 (vE d v)) :=
  fun w1 h1=>⟨fun _ _=>rfl,fun y hy z w' hx' hA=>ih y hy z w' U V dv vv ov d v hA ((E0.ext h1).ext hx')⟩
 have hcall:=fun w1 h1=>vC l kv _ _ w1 _ (hl.mono (x0.trans h1).sub) (hasks w1 h1)
 have hidx:=jbB dv vv ov d v s _ E0.d E0.v
 obtain⟨q,hq⟩ : ∃ q,q=l.any (jb5 (vE d v)):=⟨_,rfl⟩
 obtain⟨i,hi⟩ : ∃ i,i=vE d v s:=⟨_,rfl⟩
 rw[e];rw[<- hq] at hcall ⊢;rw[<- hi] at hidx ⊢
 have HC:=Lib.hid hcall
 have HI:=Lib.hid hidx
 obtain⟨c0,c1,c2,cf,-,-⟩ := E0
 obtain⟨g0,g1,g2,g3,-⟩ := oV hB
 clear hq hi hasks hcall hidx ih hl e ht E
 by_cases hk:k=1 ∨ k=14
 ·by_cases hneg:i<0
  ·rcases hk with rfl | rfl
   all_goals
    go_enter Tryz.func24,Tryz.ntmps24
    go_wp2_with (first
     | (go_at_call 20;(with_reducible refine HI.out.mono ?_);rintro e w2 ⟨rfl,hx2⟩))
    go_ret
    exact⟨by simp[hneg],x0.trans hx2⟩
  ·rcases hk with rfl | rfl
   all_goals
    go_enter Tryz.func24,Tryz.ntmps24
    go_wp2_with (first
     | (go_at_call 20;(with_reducible refine HI.out.mono ?_);rintro e w2 ⟨rfl,hx2⟩;replace cf:=hx2.c cf;replace g3:=hx2.c g3)
     | (go_at_call 25;(with_reducible refine (HC.out _ hx2).mono ?_);rintro e w3 ⟨rfl,hx3⟩))
    go_ret
    exact⟨by simp[hneg],(x0.trans hx2).trans hx3⟩
 ·have b1:(k == 1)=false:=by simp;omega
  have b2:(k == 14)=false:=by simp;omega
  have hx2:=Ext.refl (w.alloc (.cells #[.int .i64 k,.int .i64 n,.string s,kv] 43))
  clear hk
  go_enter Tryz.func24,Tryz.ntmps24
  go_wp2_with (first
   | (go_at_call 25;(with_reducible refine (HC.out _ hx2).mono ?_);rintro e w3 ⟨rfl,hx3⟩))
  go_ret
  exact⟨by simp[b1,b2],x0.trans hx3⟩
mutual
theorem je1:∀ t:Nd,jh4 t
 | .mk k n s l=>jim k n s l (je0 l)
theorem je0:∀ l:List Nd,∀ x ∈ l,jh4 x
 | []=>fun _ h=>by cases h
 | t :: ts =>
  have h1:=je1 t
  have h2:=je0 ts
  fun x hx=>(List.mem_cons.1 hx).elim (fun e=>e ▸ h1) (h2 x)
end
def jic (u:Un) (t:Nd):Bool := !yR t || jb5 (vE u.d u.v) t
def gD (u:Un):Int:=if u.on.any (fun h=>jic u h.2) then 11 else 0
theorem tN {u:Un} {k:Nat} (hk:k<u.on.length) (h:jic u u.on[k].2=true):gD u=11:=by
 unfold gD;rw[if_pos];exact List.any_eq_true.2 ⟨_,List.getElem_mem hk,h⟩
theorem jdY {u:Un} (h:∀ j (hj:j<u.on.length),jic u u.on[j].2=false):gD u=0:=by
 unfold gD;rw[if_neg];rw[List.any_eq_true];rintro⟨x,hx,hq⟩
 obtain⟨j,hj,rfl⟩ := List.mem_iff_getElem.1 hx
 rw[h j hj] at hq;cases hq
theorem jqA {w:World} {R:Nat} {a:Value} {T:TypeId} (h:w.heap[R]? = some (.cells #[a] T (0,0))):w.cell? ⟨R,0,none⟩ = some a/\w.frozen? ⟨R,0,none⟩ = false:=by
 simp[World.cell?,World.frozen?,h]
theorem jfV {w:World} {R:Nat} {a b c:Value} {T:TypeId} (h:w.heap[R]? = some (.cells #[a,b,c] T (0,0))) :
  w.cell? ⟨R,0,none⟩ = some a/\w.cell? ⟨R,1,none⟩ = some b/\w.cell? ⟨R,2,none⟩ = some c:=by
 simp[World.cell?,h]
theorem jjQ {w:World} {R:Nat} {a b c d e:Value} {T:TypeId} (h:w.heap[R]? = some (.cells #[a,b,c,d,e] T (0,0))) :
  w.cell? ⟨R,0,none⟩ = some a/\w.cell? ⟨R,1,none⟩ = some b/\w.cell? ⟨R,2,none⟩ = some c/\w.cell? ⟨R,3,none⟩ = some d/\w.cell? ⟨R,4,none⟩ = some e:=by
 simp[World.cell?,h]
theorem jju {a b c d a' b' c' d':Value} (h:Value.agg #[a,b,c,d] = .agg #[a',b',c',d']):a=a'/\b=b'/\c=c'/\d=d':=by simpa using h
theorem jil (u:Un) (x:Value) (w:World) (hv:jqk w.cell? x u) :
  Calls Tryz.prog 8 #[x] w (iT w (.int .i64 (gD u))):=by
 obtain⟨dv,vv,ov,rfl,hd,hvv,hon⟩ := hv
 have hon2:=hon
 obtain⟨hl,p,b,off,cap,rfl,hcap,hp,hn,hin⟩ := hon2
 have x1:Ext w ((w.alloc (.cells #[dv,vv,.slice p u.on.length cap] 26)).alloc (.cells #[.func (.func 24) #[] #[.pointer (some ⟨w.heap.size,0,none⟩),.pointer (some ⟨w.heap.size+1,0,none⟩)]] 71)) :=
  ((Ext.refl w).alloc _).alloc _
 have hV:((w.alloc (.cells #[dv,vv,.slice p u.on.length cap] 26)).alloc (.cells #[.func (.func 24) #[] #[.pointer (some ⟨w.heap.size,0,none⟩),.pointer (some ⟨w.heap.size+1,0,none⟩)]] 71)).heap[w.heap.size+1]? = some (.cells #[(.func (.func 24) #[] #[.pointer (some ⟨w.heap.size,0,none⟩),.pointer (some ⟨w.heap.size+1,0,none⟩)])] 71 (0,0)):=by
  have:=heap_alloc_new (w.alloc (.cells #[dv,vv,.slice p u.on.length cap] 26)) (.cells #[.func (.func 24) #[] #[.pointer (some ⟨w.heap.size,0,none⟩),.pointer (some ⟨w.heap.size+1,0,none⟩)]] 71)
  simp only[World.size_alloc] at this;exact this
 have hU:=Ext.block ((Ext.refl _).alloc (.cells #[.func (.func 24) #[] #[.pointer (some ⟨w.heap.size,0,none⟩),.pointer (some ⟨w.heap.size+1,0,none⟩)]] 71)) (heap_alloc_new w (.cells #[dv,vv,.slice p u.on.length cap] 26))
 have E:Env _ w.heap.size (w.heap.size+1) dv vv (.slice p u.on.length cap) u.d u.v:=⟨(jfV hU).1,(jfV hU).2.1,(jfV hU).2.2,(jqA hV).1,hd.mono x1.sub,hvv.mono x1.sub⟩
 clear hU hV hd hvv hon
 go_enter Tryz.func8,Tryz.ntmps8
 go_wp2_with fail
 go_loopw [10] (fun iv wr => ∃ k:Nat,k<=u.on.length/\iv = .int .i64 k/\Ext w wr/\Env wr w.heap.size (w.heap.size+1) dv vv (.slice p u.on.length cap) u.d u.v /\ ∀ j (hj:j<u.on.length),j<k->jic u u.on[j].2=false) (fun iv _=>u.on.length-(intOf iv).toNat)
 case atStart=>exact⟨0,by omega,rfl,x1,E,fun j hj h=>absurd h (by omega)⟩
 case round =>
  clear x1 E
  obtain⟨k,hk,rfl,hx,E,hno⟩ := hrel
  have HNO:Hid (∀ j (hj:j<u.on.length),j<k->jic u u.on[j].2=false):=hno
  clear hno
  by_cases hlt:k<u.on.length
  ·obtain rfl:p=some ⟨b,off,none⟩ := by
    rcases hp with h | hp
    ·rw[h] at hlt;simp at hlt
    ·exact hp
   obtain⟨-,-,v1,v2,v3,v4,c0,c1,c2,c3,c4,ht⟩ := hin k hlt
   replace c0:=hx.c c0
   replace c1:=hx.c c1
   replace c2:=hx.c c2
   replace c3:=hx.c c3
   replace c4:=hx.c c4
   have ht2:=Nd.At.mono hx.sub _ _ ht
   obtain⟨hn0,hhn⟩ : ∃ z,z=u.on[k].1:=⟨_,rfl⟩
   obtain⟨t,htt⟩ : ∃ t,t=u.on[k].2:=⟨_,rfl⟩
   rw[<- hhn] at c0;rw[<- htt] at ht2
   have HT:Hid (t=u.on[k].2):=htt
   obtain⟨kv,hvv,-,-,-,-,p',b',o',c',hkv,-⟩ := ht2.parts
   subst hkv
   obtain⟨rfl,rfl,rfl,rfl⟩ := jju hvv
   clear hvv
   have hwell:=fun w1 (h1:Ext wr w1)=>(jfE t).use (Nd.At.mono h1.sub _ _ ht2)
   have hchk:=fun w1 (h1:Ext wr w1)=>je1 t _ w1 _ _ _ _ _ _ _ (Nd.At.mono h1.sub _ _ ht2) (E.ext h1)
   obtain⟨qa,hqa⟩ : ∃ q,q=yR t:=⟨_,rfl⟩
   obtain⟨qb,hqb⟩ : ∃ q,q=jb5 (vE u.d u.v) t:=⟨_,rfl⟩
   have hbad:jic u t=(!qa || qb):=by rw[hqa,hqb];rfl
   rw[<- hqa] at hwell;rw[<- hqb] at hchk
   have HW:=Lib.hid hwell
   have HC:=Lib.hid hchk
   have HB:=Lib.hid hbad
   obtain⟨e0,e1,e2,ef,-,-⟩ := (show Env wr _ _ _ _ _ _ _ from E)
   clear hin hp hn ht ht2 htt hhn hwell hchk hqa hqb hbad
   have hH:=heap_alloc_new wr (.cells #[.int .i64 hn0,.int .i64 t.k,.int .i64 t.n,.string t.s,.slice p' t.kids.length c'] 46)
   cases qa with
   | false =>
    go_wp2_with (first
     | (go_at_call 26;refine (HW.out _ ((Ext.refl wr).alloc _)).mono ?_;rintro e w2 ⟨rfl,hx2⟩))
    go_ret
    refine⟨?_,(hx.alloc _).trans hx2⟩;rw[tN hlt (by rw[<- HT.out,HB.out];rfl)];rfl
   | true =>
    have E1:=fun w2 (h2:Ext wr w2)=>E.ext h2
    have HE:=Lib.hid E1
    clear E1
    cases qb with
    | true =>
     go_wp2_with (first
      | (go_at_call 26;refine (HW.out _ ((Ext.refl wr).alloc _)).mono ?_;rintro e w2 ⟨rfl,hx2⟩;obtain⟨-,-,-,ef2,-,-⟩ := HE.out _ (((Ext.refl wr).alloc _).trans hx2);obtain⟨g0,g1,g2,g3,g4⟩ := jjQ (hx2.block hH))
      | (go_at_call 24;refine (HC.out _ (((Ext.refl wr).alloc _).trans hx2)).mono ?_;rintro e w3 ⟨rfl,hx3⟩))
     go_ret
     refine⟨?_,((hx.alloc _).trans hx2).trans hx3⟩;rw[tN hlt (by rw[<- HT.out,HB.out];rfl)];rfl
    | false =>
     go_wp2_with (first
      | (go_at_call 26;refine (HW.out _ ((Ext.refl wr).alloc _)).mono ?_;rintro e w2 ⟨rfl,hx2⟩;obtain⟨-,-,-,ef2,-,-⟩ := HE.out _ (((Ext.refl wr).alloc _).trans hx2);obtain⟨g0,g1,g2,g3,g4⟩ := jjQ (hx2.block hH))
      | (go_at_call 24;refine (HC.out _ (((Ext.refl wr).alloc _).trans hx2)).mono ?_;rintro e w3 ⟨rfl,hx3⟩))
     go_roundw
     case rel=>exact⟨k+1,by omega,by go_num,((hx.alloc _).trans hx2).trans hx3,HE.out _ ((((Ext.refl wr).alloc _).trans hx2).trans hx3),fun j hj h=>by
      by_cases hjk:j=k
      ·subst hjk;rw[<- HT.out,HB.out];rfl
      ·exact HNO.out j hj (by omega)⟩
     case measure=>simp[intOf];omega
  ·clear hin
   obtain⟨e0,e1,e2,ef,-,-⟩ := E
   go_wp2
   go_ret
   exact⟨by rw[jdY (fun j hj=>HNO.out j hj (by omega))];rfl,hx⟩
end Go.Proofs.YtgifglkkmhapiaaGreatDoor
namespace Go.Proofs.YtgifglkkmhapiaaGreatDoor.Vm
open Go.RowKit Go.Shelf
def opAll:List ByteArray:=[yP,pOr,wH,pMinus,z7,qJ,pLt,pLe,pGt,pGe,jpl,pNe]
def arN (k:Int) (s:ByteArray) (m:Nat):Bool :=
 if k=11 then decide (m<=3002)
 else if k=12 ∨ k=13 ∨ k=14 ∨ k=5 ∨ k=6 ∨ k=7 ∨ k=10 then decide (m=0)
 else if k=15 then decide (m=0) && builtL.any fun x=>decide (s=x)
 else if k=16 ∨ k=1 ∨ k=9 then decide (m=1)
 else if k=17 then decide (m=1) && (decide (s=pMinus) || decide (s=zH))
 else if k=18 then decide (m=2) && opAll.any fun x=>decide (s=x)
 else if k=8 ∨ k=3 then decide (m=2)
 else if k=2 ∨ k=4 then decide (m=3)
 else false
theorem joF {k:Int} {s:ByteArray} {m:Nat} (h:arN k s m=true):m<=3002:=by
 unfold arN at h
 repeat' split at h
 all_goals (try rw[Bool.and_eq_true] at h);(try simp only[decide_eq_true_eq] at h);(first | omega | (have:=h.1;omega) | cases h)
def isX (f:Nt):Bool:=decide (12<=f.k)
def clN (k:Int) (l:List Nt):Bool :=
 if k=11 then l.all fun f => !isX f
 else if k=2 ∨ k=3 then (l.take 1).all isX && (l.drop 1).all fun f => !isX f
 else l.all isX
mutual
def iO:Nt->Prop
 | .mk k n s kids=>arN k s kids.length=true/\jgZ kids/\clN k kids=true
def jgZ:List Nt->Prop
 | []=>True
 | f :: l=>iO f/\jgZ l
end
theorem ji5:∀ {l:List Nt},(∀ f ∈ l,iO f)->jgZ l
 | [],_=>by unfold jgZ;trivial
 | x :: r,h=>by
  unfold jgZ;exact⟨h x List.mem_cons_self,ji5 fun f hf=>h f (List.mem_cons_of_mem _ hf)⟩
theorem iP {k n:Int} {s:ByteArray} {kids:List Nt} (h:arN k s kids.length=true) (hc:clN k kids=true) (hk:∀ f ∈ kids,iO f):iO (.mk k n s kids):=by
 unfold iO;exact⟨h,ji5 hk,hc⟩
def Wc (c:Bool) (f:Nt):Prop:=iO f/\isX f=c
theorem wx0 {k n:Int} {s:ByteArray} (h:arN k s 0=true):iO (.mk k n s []):=iP h (by unfold clN;(repeat' split) <;> rfl) (by simp)
theorem joO {k:Int} {l:List Nt} (hk:k ≠ 11/\k ≠ 2/\k ≠ 3):clN k l=l.all isX:=by
 unfold clN;rw[if_neg hk.1,if_neg (fun h=>h.elim hk.2.1 hk.2.2)]
theorem wx1 {k n:Int} {s:ByteArray} {f:Nt} (h:arN k s 1=true) (hk:k ≠ 11/\k ≠ 2/\k ≠ 3) (hf:Wc true f):iO (.mk k n s [f]):=iP h (by rw[joO hk];simp[hf.2]) fun x hx=>by rw[List.mem_singleton.1 hx];exact hf.1
theorem jaI {f g h:Nt} (hf:iO f) (hg:iO g) (hh:h ∈ [f,g]):iO h:=by
 simp only[List.mem_cons,List.not_mem_nil,or_false] at hh
 rcases hh with rfl | rfl <;> assumption
theorem jaE {f g h i:Nt} (hf:iO f) (hg:iO g) (hh:iO h) (hi:i ∈ [f,g,h]):iO i:=by
 simp only[List.mem_cons,List.not_mem_nil,or_false] at hi
 rcases hi with rfl | rfl | rfl <;> assumption
theorem wx2 {k n:Int} {s:ByteArray} {f g:Nt} (h:arN k s 2=true) (hk:k ≠ 11/\k ≠ 2/\k ≠ 3) (hf:Wc true f) (hg:Wc true g):iO (.mk k n s [f,g]):=iP h (by rw[joO hk];simp[hf.2,hg.2]) fun x hx=>jaI hf.1 hg.1 hx
theorem wx3 {k n:Int} {s:ByteArray} {f g c:Nt} (h:arN k s 3=true) (hk:k ≠ 11/\k ≠ 2/\k ≠ 3) (hf:Wc true f) (hg:Wc true g) (hc:Wc true c):iO (.mk k n s [f,g,c]):=iP h (by rw[joO hk];simp[hf.2,hg.2,hc.2]) fun x hx=>jaE hf.1 hg.1 hc.1 hx
theorem wi2 {n:Int} {s:ByteArray} {c b:Nt} (hc:Wc true c) (hb:Wc false b):Wc false (.mk 3 n s [c,b]):=⟨iP rfl (by unfold clN;simp[hc.2,hb.2]) fun x hx=>jaI hc.1 hb.1 hx,rfl⟩
theorem wi3 {n:Int} {s:ByteArray} {c b o:Nt} (hc:Wc true c) (hb:Wc false b) (ho:Wc false o):Wc false (.mk 2 n s [c,b,o]):=⟨iP rfl (by unfold clN;simp[hc.2,hb.2,ho.2]) fun x hx=>jaE hc.1 hb.1 ho.1 hx,rfl⟩
theorem wbk {n:Int} {s:ByteArray} {l:List Nt} (hl:l.length<=3002) (h:∀ f ∈ l,Wc false f):Wc false (.mk 11 n s l):=⟨iP (qH hl) (by
 unfold clN;rw[if_pos rfl,List.all_eq_true]
 exact fun f hf=>by rw[(h f hf).2];rfl) fun f hf=>(h f hf).1,rfl⟩
mutual
def eW:Nt->Nat
 | .mk _ _ _ kids=>3+cW kids
def cW:List Nt->Nat
 | []=>0
 | f :: l=>eW f+cW l
end
theorem jck (s:Nt):∀ l:List Nt,cW (l++[s])=cW l+eW s
 | []=>by show eW s+0=0+eW s;omega
 | f :: l=>by show eW f+cW (l++[s])=eW f+cW l+eW s;rw[jck s l];omega
def WP (c:Bool) (z:Nat) (op:List Tk->Pn):Prop := ∀ ts f r,ts.length<=3002->op ts = .ok f r->Wc c f /\ ∃ a,ts=a++r/\eW f<=z+9*a.length
def WPt (c:Bool) (z:Nat) (op:List Tk->Pn):Prop := ∀ ts f r,ts ≠ []->ts.length<=3002->op ts = .ok f r->Wc c f /\ ∃ a,ts=a++r/\eW f<=z+9*a.length
theorem WP.syn {c:Bool} {z:Nat} : WP c z synE:=fun ts f r _ h=>by cases h
theorem WP.bad {c:Bool} {z:Nat} (x:List Tk->Int) (y:Int):WP c z (fun ts => .bad (x ts) y):=fun ts f r _ h=>by cases h
theorem WP.mono {c:Bool} {z y:Nat} {op:List Tk->Pn} (h:WP c z op) (hz:z<=y):WP c y op:=fun ts f r h1 h2=>by
 obtain⟨a1,a,a2,a3⟩ := h ts f r h1 h2
 exact⟨a1,a,a2,by omega⟩
theorem WP.okT {c:Bool} {z:Nat} {f:Nt} (hf:Wc c f) (hz:eW f<=z:=by first | omega | (simp only[eW,cW,zD];omega)):WP c z (fun r => .ok f r):=fun ts g r _ h=>by cases h;exact⟨hf,[],rfl,by simpa using hz⟩
theorem WP.andThen {c d:Bool} {z:Nat} {op:List Tk->Pn} {k:Nt->List Tk->Pn} (h1:WP c 0 op) (h2:∀ f,Wc c f->WP d (z+eW f) (k f)):WP d z (fun ts=>(op ts).andThen k):=fun ts f r hz h=>by
 cases ho:op ts with
 | bad x y=>simp only[ho] at h;cases h
 | ok g u =>
  simp only[ho] at h
  obtain⟨a1,a,a2,a3⟩ := h1 ts g u hz ho
  have hu:u.length<=3002:=by rw[a2,List.length_append] at hz;omega
  obtain⟨b1,b,b2,b3⟩ := h2 g a1 u f r hu h
  exact⟨b1,a++b,by rw[a2,b2,List.append_assoc],by rw[List.length_append];omega⟩
theorem WP.tail {c:Bool} {z:Nat} {op:List Tk->Pn} (h:WP c (z+9) op):WPt c z (fun ts=>op ts.tail):=fun ts f r hne hz ho=>by
 obtain⟨a1,a,a2,a3⟩ := h _ f r (by rw[List.length_tail];omega) ho
 cases ts with
 | nil=>exact absurd rfl hne
 | cons t ts=>exact⟨a1,t :: a,by simpa using a2,by rw[List.length_cons];omega⟩
theorem WP.itc {d:Bool} {z:Nat} (c:List Tk->Prop) [DecidablePred c] (hc : ¬ c []) {op1 op2:List Tk->Pn} (h1:WPt d z op1) (h2:WP d z op2):WP d z (fun ts=>if c ts then op1 ts else op2 ts):=fun ts f r hz h=>by
 dsimp only at h
 split at h
 ·rename_i hcc
  exact h1 ts f r (fun e=>hc (e ▸ hcc)) hz h
 ·exact h2 ts f r hz h
theorem WP.ite {d:Bool} {z:Nat} (c:List Tk->Prop) [DecidablePred c] {op1 op2:List Tk->Pn} (h1:WP d z op1) (h2:WP d z op2):WP d z (fun ts=>if c ts then op1 ts else op2 ts):=fun ts f r hz h=>by
 dsimp only at h
 split at h
 ·exact h1 ts f r hz h
 ·exact h2 ts f r hz h
theorem vQ (s:ByteArray) : ¬ qS s []=true:=by
 unfold qS;rw[show (decide ((hd []).kind=1) || decide ((hd []).kind=3))=false from rfl,Bool.and_false];exact Bool.false_ne_true
theorem jdH (l:List ByteArray) : ¬ vV l []=true:=fun h=>by
 obtain⟨s,-,h2⟩ := List.any_eq_true.1 h
 exact vQ s h2
theorem WP.xpt {c:Bool} {z:Nat} (s:ByteArray) {k:List Tk->Pn} (h:WP c (z+9) k):WP c z (fun ts=>Vm.xpt s ts k):=WP.itc (fun ts=>qS s ts=true) (vQ s) h.tail WP.syn
theorem WP.num {c:Bool} {z:Nat} (limit:Int) {k:Int->List Tk->Pn} (h:∀ n,WP c (z+9) (k n)):WP c z (fun ts=>bL limit ts k):=fun ts f r hz ho=>by
 unfold bL at ho
 dsimp only at ho
 split at ho
 ·cases ho
 ·rename_i h2
  split at ho
  ·cases ho
  ·exact (h _).tail ts f r (fun e=>h2 (by rw[e];decide)) hz ho
structure WPa (p:Pa):Prop where
 no:WP true 0 p.no
 un:WP true 0 p.un
 ex:WP true 0 p.ex
 bl:WP false 0 p.bl
def jfJ (low:Option Pa):Prop := ∀ p,low=some p->WPa p
theorem WP.nest {low:Option Pa} (hl:jfJ low):WP true 0 (dB low):=by
 cases low with
 | none=>exact WP.ite (fun ts=>qS pLp ts=true) (WP.bad _ _) WP.syn
 | some p=>exact WP.itc (fun ts=>qS pLp ts=true) (vQ _) (((hl p rfl).ex.andThen fun n hn=>WP.xpt pRp (WP.okT hn)).tail) WP.syn
theorem WP.tok {c:Bool} {z:Nat} {op:Tk->List Tk->Pn} (h:∀ t,WP c (z+9) (op t)):WPt c z (fun ts=>op (hd ts) ts.tail):=fun ts f r hne hz ho=>(h (hd ts)).tail ts f r hne hz ho
theorem jet:yU []=false:=rfl
theorem WP.prim {low:Option Pa} (hl:jfJ low):WP true 0 (wI low):=by
 refine WP.ite (fun ts=>qS pLp ts=true) (WP.nest hl) <|
  WP.itc (fun ts=>qS wDraw ts=true) (vQ _) (((WP.nest hl).andThen fun n hn=>WP.okT ⟨wx1 rfl (by decide) hn,rfl⟩).tail) <|
  WP.itc (fun ts=>(hd ts).kind=2) (by decide) (WP.tok (op:=fun t r => .ok (.mk 12 t.n eB []) r) fun t=>WP.okT ⟨wx0 rfl,rfl⟩) <|
  WP.itc (fun ts=>qS oQ ts=true) (vQ _) (WP.okT ⟨wx0 rfl,rfl⟩).tail <|
  WP.itc (fun ts=>qS cZ ts=true) (vQ _) (WP.okT ⟨wx0 rfl,rfl⟩).tail <|
  WP.itc (fun ts=>yU ts=true) (by rw[jet];exact Bool.false_ne_true) (WP.tok (op:=fun t r => .ok (.mk 14 0 t.text []) r) fun t=>WP.okT ⟨wx0 rfl,rfl⟩) ?_
 intro ts f r hz h
 dsimp only at h
 by_cases hb:jer ts=true
 ·rw[if_pos hb] at h
  cases h
  refine⟨⟨wx0 ?_,rfl⟩,?_⟩
  ·unfold jer at hb;rw[Bool.and_eq_true] at hb
   show (decide (0=0) && _)=true
   rw[hb.2];rfl
  ·cases ts with
   | nil=>cases hb
   | cons t ts=>exact⟨[t],rfl,by show 3+0<=0+9*1;decide⟩
 ·rw[if_neg hb] at h
  cases h
theorem jqo {s:ByteArray} (h:s=pMinus ∨ s=zH):arN 17 s 1=true:=by
 show (decide (1=1) && (decide (s=pMinus) || decide (s=zH)))=true
 rcases h with rfl | rfl <;> simp
theorem WP.pre (s:ByteArray) (hs:s=pMinus ∨ s=zH) {op:Option (List Tk->Pn)} (h:∀ f,op=some f->WP true 0 f) {op2:List Tk->Pn} (h2:WP true 0 op2):WP true 0 (fun ts=>if qS s ts=true then r9 s op ts else op2 ts):=by
 cases op with
 | none=>exact WP.ite (fun ts=>qS s ts=true) (WP.bad _ _) h2
 | some f=>exact WP.itc (fun ts=>qS s ts=true) (vQ _) (((h f rfl).andThen fun n hn=>WP.okT ⟨wx1 (jqo hs) (by decide) hn,rfl⟩).tail) h2
theorem WP.una {low:Option Pa} (hl:jfJ low):WP true 0 (x6 low) :=
 WP.pre pMinus (.inl rfl) (op:=low.map fun p:Pa=>p.un) (fun f hf=>by
  cases low with
  | none=>cases hf
  | some p=>cases hf;exact (hl p rfl).un) (WP.prim hl)
theorem jhc {signs:List ByteArray} {ts:List Tk} (hs:∀ s ∈ signs,(opAll.any fun x=>decide (s=x))=true) (h:vV signs ts=true):(opAll.any fun x=>decide ((hd ts).text=x))=true:=by
 unfold vV at h;rw[List.any_eq_true] at h
 obtain⟨s,h1,h2⟩ := h
 unfold qS at h2;rw[Bool.and_eq_true,decide_eq_true_eq] at h2;rw[h2.1];exact hs s h1
theorem jjB {s:ByteArray} (h:(opAll.any fun x=>decide (s=x))=true):arN 18 s 2=true:=by
 show (decide (2=2) && _)=true
 rw[h];rfl
theorem WP.chn {op:List Tk->Pn} {signs:List ByteArray} (hs:∀ s ∈ signs,(opAll.any fun x=>decide (s=x))=true) (h:WP true 0 op):WP true 0 (kG op signs):=by
 have go:∀ (n:Nat) (l:Nt),Wc true l->WP true (eW l) (xK op signs n l):=fun n=>by
  induction n with
  | zero=>intro l hl;exact WP.okT hl
  | succ n ih =>
   intro l hl ts f r hz ho;rw[xK] at ho
   by_cases ha:vV signs ts=true
   ·rw[if_pos ha] at ho;exact (h.andThen (k:=fun f r=>xK op signs n (.mk 18 0 (hd ts).text [l,f]) r) fun g hg=>(ih _ ⟨wx2 (jjB (jhc hs ha)) (by decide) hl hg,rfl⟩).mono (by simp only[eW,cW];omega)).tail ts f r (fun e=>jdH signs (by rw[<- e];exact ha)) hz ho
   ·rw[if_neg ha] at ho;exact WP.okT hl (Nat.le_refl _) ts f r hz ho
 exact h.andThen (k:=fun f r=>xK op signs r.length f r) fun f hf ts g r hz ho=>(go _ f hf).mono (by omega) ts g r hz ho
theorem WP.sum {low:Option Pa} (hl:jfJ low):WP true 0 (jax low):=WP.chn (by decide) (WP.chn (by decide) (WP.una hl))
theorem WP.nt {low:Option Pa} (hl:jfJ low):WP true 0 (lK low) :=
 WP.pre zH (.inr rfl) (op:=low.map fun p:Pa=>p.no) (fun f hf=>by
  cases low with
  | none=>cases hf
  | some p=>cases hf;exact (hl p rfl).no) <| (WP.sum hl).andThen fun l hw=>fun r f r' hz ho=>by
   by_cases ha:vV cmpL r=true
   ·rw[if_pos ha] at ho;exact ((WP.sum hl).andThen (k:=fun m r' => .ok (.mk 18 0 (hd r).text [l,m]) r') fun g hg=>WP.okT ⟨wx2 (jjB (jhc (by decide) ha)) (by decide) hw hg,rfl⟩).tail r f r' (fun e=>jdH cmpL (by rw[<- e];exact ha)) hz ho
   ·rw[if_neg ha] at ho;exact WP.okT hw (by omega) r f r' hz ho
theorem WP.exp {low:Option Pa} (hl:jfJ low):WP true 0 (mR low):=WP.chn (by decide) (WP.chn (by decide) (WP.nt hl))
theorem jkI {c:Bool} {f g:Nt} (hf:Wc c f) (hg:g ∈ [f]):Wc c g:=by rw[List.mem_singleton.1 hg];exact hf
theorem WP.stm {ex bl:List Tk->Pn} (hx:WP true 0 ex) (hb:WP false 0 bl):WP false 0 (eU ex bl):=by
 have semi:∀ (z:Nat) (f:Nt),Wc false f->eW f<=z+9->WP false z (fun r=>Vm.xpt pSemi r fun r => .ok f r):=fun z f hf hz=>WP.xpt pSemi (WP.okT hf hz)
 exact WP.itc (fun ts=>yU ts=true) (by rw[jet];exact Bool.false_ne_true) (WP.tok (op:=fun t ts=>Vm.xpt pEq ts fun r=>(ex r).andThen fun e r=>Vm.xpt pSemi r fun r => .ok (.mk 1 0 t.text [e]) r) fun t=>WP.xpt pEq (hx.andThen fun e he=>semi _ _ ⟨wx1 rfl (by decide) he,rfl⟩ (by simp only[eW,cW];omega))) <|
  WP.ite (fun ts=>(hd ts).kind ≠ 1) WP.syn <|
  WP.itc (fun ts=>(hd ts).text=wIf) (by decide) ((hx.andThen fun c hc=>hb.andThen fun b hb2=>WP.itc (fun r=>qS wElse r=true) (vQ _) ((hb.andThen fun o ho=>WP.okT (wi3 hc hb2 ho)).tail) (WP.okT (wi3 hc hb2 ⟨wx0 rfl,rfl⟩))).tail) <|
  WP.itc (fun ts=>(hd ts).text=wWhile) (by decide) ((hx.andThen fun c hc=>hb.andThen fun b hb2=>WP.okT (wi2 hc hb2)).tail) <|
  WP.itc (fun ts=>(hd ts).text=wSend) (by decide) ((hx.andThen fun t ht=>WP.xpt pComma (WP.num 30 fun n=>WP.xpt pComma (hx.andThen fun a ha=>WP.xpt pComma (hx.andThen fun b hb2=>semi _ _ ⟨wx3 rfl (by decide) ht ha hb2,rfl⟩ (by simp only[eW,cW];omega))))).tail) <|
  WP.itc (fun ts=>(hd ts).text=wTimer) (by decide) ((WP.num 8 fun n=>semi _ _ ⟨wx0 rfl,rfl⟩ (by simp only[eW,cW];omega)).tail) <|
  WP.itc (fun ts=>(hd ts).text=wCancel) (by decide) ((WP.num 8 fun n=>semi _ _ ⟨wx0 rfl,rfl⟩ (by simp only[eW,cW];omega)).tail) <|
  WP.itc (fun ts=>(hd ts).text=xY) (by decide) ((semi _ _ ⟨wx0 rfl,rfl⟩ (by simp only[eW,cW];omega)).tail) <|
  WP.itc (fun ts=>(hd ts).text=wReply) (by decide) ((hx.andThen fun a ha=>WP.xpt pComma (hx.andThen fun b hb2=>semi _ _ ⟨wx2 rfl (by decide) ha hb2,rfl⟩ (by simp only[eW,cW];omega))).tail) <|
  WP.itc (fun ts=>(hd ts).text=wFail) (by decide) ((hx.andThen fun a ha=>semi _ _ ⟨wx1 rfl (by decide) ha,rfl⟩ (by simp only[eW,cW];omega)).tail) <|
  WP.itc (fun ts=>(hd ts).text=xX) (by decide) ((semi _ _ ⟨wx0 rfl,rfl⟩ (by simp only[eW,cW];omega)).tail) WP.syn
theorem WP.blk {st:List Tk->Pn} (h:WP false 0 st):WP false 0 (bkF st):=by
 have go:∀ (n:Nat) (acc:List Nt),(∀ f ∈ acc,Wc false f)->acc.length+n<=3002->WP false (9+cW acc) (f9 st n acc):=fun n=>by
  induction n with
  | zero=>intro acc ha hz ts f r _ ho;cases ho
  | succ n ih =>
   intro acc ha hz ts f r hz2 ho;rw[f9] at ho
   by_cases hp:qS pRb ts=true
   ·rw[if_pos hp] at ho;cases ho;refine⟨wbk (by omega) ha,?_⟩
    cases ts with
    | nil=>exact absurd hp (vQ _)
    | cons t ts=>exact⟨[t],rfl,by show 3+cW acc<=9+cW acc+9*1;omega⟩
   ·rw[if_neg hp] at ho
    exact h.andThen (k:=fun s r=>f9 st n (acc++[s]) r) (fun s hs=>(ih (acc++[s]) (fun f hf=>by
     rcases List.mem_append.1 hf with hf | hf
     ·exact ha f hf
     ·exact jkI hs hf) (by rw[List.length_append,List.length_singleton];omega)).mono (by rw[jck];omega)) ts f r hz2 ho
 exact WP.xpt pLb (k:=fun r=>f9 st r.length [] r) fun ts f r hz ho=>go ts.length [] (by simp) (by simpa using hz) ts f r hz ho
theorem WP.bkN:WP false 0 bkN:=WP.ite (fun ts=>qS pLb ts=true) (WP.bad _ _) WP.syn
theorem WPa.pa {low:Option Pa} (hl:jfJ low):WPa (paG low) where
 no:=WP.nt hl
 un:=WP.una hl
 ex:=WP.exp hl
 bl:=WP.blk (WP.stm (WP.exp hl) (by
  cases low with
  | none=>exact WP.bkN
  | some p=>exact (hl p rfl).bl))
theorem wpa:∀ n,WPa (pa n)
 | 0=>WPa.pa fun p h=>by cases h
 | n+1=>WPa.pa fun p h=>by cases h;exact wpa n
def szH:List (Int × Nt)->Nat
 | []=>0
 | h :: r=>eW h.2+1+szH r
structure WfU (u:Ut):Prop where
 du:u.du.length+u.vo.length<=16
 on:∀ h ∈ u.on,0<=h.1/\h.1<40/\iO h.2
 st:∀ h ∈ u.on,isX h.2=false
 nd:u.on.Pairwise fun a b=>a.1 ≠ b.1
 ol:u.on.length<=4000
mutual
def toD:Nt->Nd
 | .mk k n s kids => .mk k n s (jfs kids)
def jfs:List Nt->List Nd
 | []=>[]
 | f :: l=>toD f :: jfs l
end
theorem jft:∀ l:List Nt,jfs l=l.map toD
 | []=>rfl
 | f :: l=>by rw[jfs,jft l];rfl
def toU (u:Ut):Un:=⟨u.du,u.vo,u.on.map fun h=>(h.1,toD h.2)⟩
def jjo (C D:Rd):Prop := ∀ b o u,C ⟨b,o,none⟩ = some u->D ⟨b,o,none⟩ = some u
theorem cN {E:Env} {b:Nat} : ∀ {l m:List A} {off:Nat},A.repAt (l++m) E b off ↔ A.repAt l E b off/\A.repAt m E b (off+l.length)
 | [],m,off=>by simp[A.repAt]
 | a :: r,m,off=>by
  simp only[List.cons_append,A.repAt];rw[cN (l:=r)];simp only[List.length_cons,Nat.add_assoc,Nat.add_comm 1]
  constructor
  ·rintro⟨h1,h2,h3⟩;exact⟨⟨h1,h2⟩,h3⟩
  ·rintro⟨⟨h1,h2⟩,h3⟩;exact⟨h1,h2,h3⟩
theorem jhR {E:Env} {n:Int} {u:Value} : (A.v (.int .i64 n)).rep E u ↔ u = .int .i64 n/\(-9223372036854775808<=n/\n<=9223372036854775807):=by
 rw[A.rep_v_iff]
 constructor
 ·rintro⟨h1,h2⟩;exact⟨h1,okV_int.1 h2⟩
 ·rintro⟨h1,h2⟩;exact⟨h1,okV_int.2 h2⟩
theorem rep_vsC {E:Env} {n:ByteArray} {u:Value} : (A.v (.string n)).rep E u ↔ u = .string n/\n.size<=maxLen:=by
 rw[A.rep_v_iff];exact Iff.rfl
mutual
theorem jkB:∀ (t:Nt) {E:Env} {D:Rd} {v:Value},jjo E.C D->iO t->(A.agg (nt0 t)).rep E v->(toD t).At D v
 | .mk k n s kids,E,D,v,hD,hs,h=>by
  unfold iO at hs
  have hl:kids.length<=3002:=joF hs.1
  unfold A.rep nt0 at h
  obtain⟨us,rfl,h⟩ := h
  obtain⟨us⟩ := us
  simp only[A.repC] at h
  obtain⟨_,_,rfl,-,g1,_,_,rfl,-,g2,_,_,rfl,-,g3,_,_,rfl,-,g4,rfl⟩ := h
  unfold jJ at g1 g2;unfold j0 at g3;rw[jhR] at g1 g2;rw[rep_vsC] at g3
  obtain⟨rfl,g1⟩ := g1
  obtain⟨rfl,g2⟩ := g2
  obtain⟨rfl,g3⟩ := g3
  unfold A.rep at g4
  obtain⟨_,_,p,b,off,cap,rfl,h6,h7,h8,h9⟩ := g4
  unfold toD Nd.At
  have hlen:(jfs kids).length=kids.length:=by rw[jft,List.length_map]
  rw[hlen];refine⟨g1,g2,g3,by omega,p,b,off,cap,rfl,h6,?_,h8,joa kids (E:=E.per) hD hs.2.1 h9⟩
  rcases h7 with h7 | h7
  ·exact .inl (List.eq_nil_of_length_eq_zero (by rw[hlen];exact h7))
  ·exact .inr h7
theorem joa:∀ (l:List Nt) {E:Env} {D:Rd} {b off:Nat},jjo E.C D->jgZ l->A.repAt (jgo l) E b off->Nd.In D b (jfs l) off
 | [],_,_,_,_,_,_,_=>by unfold jfs Nd.In;trivial
 | t :: ts,E,D,b,off,hD,hs,h=>by
  unfold jgZ at hs;unfold jgo at h
  have hl4:(nt0 t).length=4:=by rw[jgn];rfl
  rw[cN,hl4] at h
  obtain⟨h1,h2⟩ := h
  unfold jfs Nd.In;refine⟨?_,joa ts hD hs.2 h2⟩
  obtain⟨us,k1,k2⟩ := A.repAt_vals h1
  have hl:=A.repC_len k1
  rw[hl4] at hl
  match us,hl,k1,k2 with
  | [v0,v1,v2,v3],_,k1,k2 =>
   refine⟨v0,v1,v2,v3,hD _ _ _ (k2 0 v0 rfl),hD _ _ _ (k2 1 v1 rfl),hD _ _ _ (k2 2 v2 rfl),hD _ _ _ (k2 3 v3 rfl),jkB t (E:=E) hD hs.1 ?_⟩;unfold A.rep;exact⟨_,rfl,k1⟩
end
theorem jag {α:Type} {E:Env} {b:Nat} (f:α->Value) (hf:∀ x,(f x).oneCell'=true):∀ {l:List α} {off:Nat},A.repAt (l.map fun x => .v (f x)) E b off ↔ ∀ i (hi:i<l.length),E.C ⟨b,off+i,none⟩ = some (f l[i])/\dG (f l[i])
 | [],off=>by simp[A.repAt]
 | x :: l,off=>by
  simp only[List.map_cons,A.repAt];rw[jag f hf (l:=l)]
  constructor
  ·rintro⟨⟨u,h1,-,h3⟩,h4⟩ i hi;rw[A.rep_v_iff] at h3
   cases i with
   | zero=>rw[Nat.add_zero,h1,h3.1];exact⟨rfl,h3.2⟩
   | succ i =>
    have:=h4 i (by simpa using hi)
    rw[show off+(i+1)=off+1+i by omega];exact this
  ·intro h;refine⟨⟨f x,by have:=(h 0 (by simp)).1;simpa using this,hf x,A.rep_v_iff.2 ⟨rfl,(h 0 (by simp)).2⟩⟩,fun i hi => ?_⟩
   have:=h (i+1) (by simpa using hi)
   rw[show off+1+i=off+(i+1) by omega];exact this
theorem jf3 {E:Env} {D:Rd} {v:Value} {l:List ByteArray} (hD:jjo E.C D) (hl:l.length<=1000000000) (h:(A.sl 1 l.length (x8 l)).rep E v):StrsAt D v l:=by
 unfold x8 j0 at h;unfold A.rep at h
 obtain⟨_,_,p,b,off,cap,rfl,h6,h7,h8,h9⟩ := h
 have h9:=(jag (E:=E.per) Value.string (fun _=>rfl)).1 h9
 refine⟨hl,fun s hs => ?_,p,b,off,cap,rfl,h6,?_,h8,fun i hi => ?_⟩
 ·obtain⟨i,hi,rfl⟩ := List.mem_iff_getElem.1 hs
  exact (h9 i hi).2
 ·rcases h7 with h7 | h7
  ·exact .inl (List.eq_nil_of_length_eq_zero h7)
  ·exact .inr h7
 ·have:=(h9 i hi).1
  simp[List.getD_eq_getElem?_getD,hi]
  exact hD _ _ _ this
theorem jaf {α:Type} {E:Env} {b k:Nat} (f:α->List A) (hf:∀ x,(f x).length=k):∀ {l:List α} {off:Nat},A.repAt (l.flatMap f) E b off ↔ ∀ i (hi:i<l.length),A.repAt (f l[i]) E b (off+i*k)
 | [],off=>by simp[A.repAt]
 | x :: l,off=>by
  rw[List.flatMap_cons,cN,jaf f hf (l:=l),hf]
  constructor
  ·rintro⟨h1,h2⟩ i hi
   cases i with
   | zero=>simpa using h1
   | succ i =>
    have:=h2 i (by simpa using hi)
    rw[show off+(i+1)*k=off+k+i*k by rw[Nat.add_mul];omega];exact this
  ·intro h;refine⟨by have:=h 0 (by simp);rw[Nat.zero_mul,Nat.add_zero] at this;exact this,fun i hi => ?_⟩
   have:=h (i+1) (by simpa using hi)
   rw[show off+k+i*k=off+(i+1)*k by rw[Nat.add_mul];omega];exact this
theorem jl9 {E:Env} {D:Rd} {v:Value} {u:Ut} (hD:jjo E.C D) (hs:WfU u) (h:(A.agg (utA u)).rep E v):jqk D v (toU u):=by
 unfold A.rep utA at h
 obtain⟨us,rfl,h⟩ := h
 obtain⟨us⟩ := us
 simp only[A.repC] at h
 obtain⟨dv,_,rfl,-,g1,vv,_,rfl,-,g2,ov,_,rfl,-,g3,rfl⟩ := h
 refine⟨dv,vv,ov,rfl,jf3 (l:=u.du) hD (by have:=hs.du;omega) g1,jf3 (l:=u.vo) hD (by have:=hs.du;omega) g2,?_⟩;unfold A.rep at g3
 obtain⟨_,_,p,b,off,cap,rfl,h6,h7,h8,h9⟩ := g3
 have hlen:(toU u).on.length=u.on.length:=List.length_map ..
 unfold jqg;rw[hlen];refine⟨by have:=hs.ol;omega,p,b,off,cap,rfl,h6,?_,h8,fun i hi => ?_⟩
 ·rcases h7 with h7 | h7
  ·exact .inl (List.eq_nil_of_length_eq_zero (by rw[hlen];exact h7))
  ·exact .inr h7
 ·rw[hlen] at hi
  have hon:(toU u).on[i]=(u.on[i].1,toD u.on[i].2):=by simp[toU]
  rw[hon];unfold nZ at h9
  have h10:=(jaf (E:=E.per) (k:=5) hnA (fun _=>rfl)).1 h9 i hi
  obtain⟨us,k1,k2⟩ := A.repAt_vals h10
  have hl:=A.repC_len k1
  rw[show (hnA u.on[i]).length=5 from rfl] at hl
  match us,hl,k1,k2 with
  | [v0,v1,v2,v3,v4],_,k1,k2 =>
   unfold hnA jJ A.repC at k1
   obtain⟨_,_,e,-,g1,k3⟩ := k1
   cases e
   rw[jhR] at g1
   obtain⟨rfl,g4,g5⟩ := g1
   refine⟨g4,g5,v1,v2,v3,v4,hD _ _ _ (k2 0 _ rfl),hD _ _ _ (k2 1 v1 rfl),hD _ _ _ (k2 2 v2 rfl),hD _ _ _ (k2 3 v3 rfl),hD _ _ _ (k2 4 v4 rfl),jkB u.on[i].2 (E:=E) hD (hs.on _ (List.getElem_mem hi)).2.2 ?_⟩;unfold A.rep;rw[jgn];exact⟨_,rfl,A.repC.mono _ E.per_le k3⟩
theorem u7 {w:World} {C:Rd} (h:Sub C (kJ w)):jjo C w.cell? := fun b o u hc=>h _ _ hc
def ixU (u:Ut) (s:ByteArray):Int:=vE u.du u.vo s
theorem jdw (u:Ut) (hu:WfU u):Spec Tryz.prog 8 [] [.agg (utA u)] fun _ r=>r=jJ (gD (toU u)):=by
 refine nT (vN Tryz.func8 rfl (by kernel_rfl)) fun w C vals h0 h1 h2 => ?_
 unfold A.repL at h2
 obtain⟨v,us,rfl,h2,h3⟩ := h2
 unfold A.repL at h3;subst h3;refine (jil (toU u) v w (jl9 (u7 h1) hu h2)).mono ?_;rintro e w' ⟨rfl,hx⟩;exact⟨_,rfl,hx,A.rep_v (okV_int.2 (by unfold gD;split <;> decide))⟩
theorem jeW (l:List ByteArray) (s:ByteArray) : -1<=aL l s/\aL l s<=l.length:=by
 have:=jdh l s
 omega
theorem jmD {u:Ut} (hu:WfU u) (s:ByteArray) : -1<=ixU u s/\ixU u s<=100:=by
 have h1:=jeW u.du s
 have h2:=jeW u.vo s
 have h3:=hu.du
 unfold ixU vE
 repeat' split
 all_goals omega
theorem jpY (u:Ut) (hu:WfU u) (s:ByteArray):Spec Tryz.prog 20 [] [.agg (utA u),j0 s] fun _ r=>r=jJ (ixU u s):=by
 have hb:=jmD hu s
 refine nT (vN Tryz.func20 rfl (by kernel_rfl)) fun w C vals h0 h1 h2 => ?_
 unfold A.repL at h2
 obtain⟨v,us,rfl,h2,h3⟩ := h2
 unfold A.repL at h3
 obtain⟨v2,us2,rfl,h3,h4⟩ := h3
 unfold A.repL at h4;subst h4
 obtain⟨rfl,-⟩ := rep_vsC.1 h3
 obtain⟨dv,vv,ov,rfl,g1,g2,g3⟩ := jl9 (u7 h1) hu h2
 refine (jbB dv vv ov u.du u.vo s w g1 g2).mono ?_;rintro e w' ⟨rfl,hx⟩;exact⟨_,rfl,hx,A.rep_v (by have h:=(okA_int (n:=ixU u s)).2 (by omega);unfold okA at h;exact h)⟩
theorem jep (x:Int × Nt):∀ l:List (Int × Nt),(uN x l).Perm (x :: l)
 | [] => .refl _
 | y :: l=>by
  rw[uN]
  split
  ·exact .refl _
  ·exact ((jep x l).cons y).trans (.swap x y l)
theorem nE:∀ l:List (Int × Nt),(xT l).Perm l
 | [] => .refl _
 | x :: l=>(jep x (xT l)).trans ((nE l).cons x)
theorem jlH {l m:List (Int × Nt)} (h:l.Perm m):szH l=szH m:=by
 induction h with
 | nil=>rfl
 | cons x _ ih=>show _+szH _=_+szH _;rw[ih]
 | swap x y l=>show eW y.2+1+(eW x.2+1+szH l)=eW x.2+1+(eW y.2+1+szH l);omega
 | trans _ _ i j=>exact i.trans j
theorem jfq (x:Int × Nt):∀ l:List (Int × Nt),szH (l++[x])=szH l+(eW x.2+1)
 | []=>by show eW x.2+1+0=0+(eW x.2+1);omega
 | f :: l=>by show eW f.2+1+szH (l++[x])=eW f.2+1+szH l+(eW x.2+1);rw[jfq x l];omega
structure WfH (l:List (Int × Nt)):Prop where
 on:∀ h ∈ l,0<=h.1/\h.1<40/\iO h.2
 st:∀ h ∈ l,isX h.2=false
 nd:l.Pairwise fun a b=>a.1 ≠ b.1
theorem WfH.sort {l:List (Int × Nt)} (h:WfH l):WfH (xT l) where
 on:=fun x hx=>h.on x ((nE l).mem_iff.1 hx)
 st:=fun x hx=>h.st x ((nE l).mem_iff.1 hx)
 nd:=((nE l).pairwise_iff (fun {a b} hab=>fun e=>hab e.symm)).2 h.nd
def TkN (ts:List Tk):Prop := ∀ t ∈ ts,0<=t.n
theorem TkN.suf {a r:List Tk} (h:TkN (a++r)):TkN r:=fun t ht=>h t (List.mem_append_right _ ht)
theorem TkN.tail {ts:List Tk} (h:TkN ts):TkN ts.tail:=fun t ht=>h t (List.mem_of_mem_tail ht)
theorem TkN.hd {ts:List Tk} (h:TkN ts):0<=(Vm.hd ts).n:=by
 cases ts with
 | nil=>exact Int.le_refl 0
 | cons t ts=>exact h t List.mem_cons_self
theorem jqJ {ts r:List Tk} {n:Int} (hz:TkN ts) (h:hnF ts = .ok n r):0<=n/\n<40 /\ ∃ a,ts=a++r:=by
 have suf:∀ ts:List Tk,∃ a,ts=a++ts.tail:=fun ts=>by
  cases ts with
  | nil=>exact⟨[],rfl⟩
  | cons t ts=>exact⟨[t],rfl⟩
 have num:∀ (limit off:Int) (q:List Tk),TkN q->oH limit off q = .ok n r->off<=n/\n<off+limit /\ ∃ a,q=a++r:=fun limit off q hq h=>by
  unfold oH at h
  split at h
  ·cases h
  ·split at h
   ·cases h
   ·cases h
    have:=hq.hd
    exact⟨by omega,by omega,suf q⟩
 obtain⟨a,ha⟩ := suf ts
 unfold hnF at h
 split at h
 ·cases h;exact⟨by omega,by omega,suf ts⟩
 ·split at h
  ·cases h;exact⟨by omega,by omega,suf ts⟩
  ·split at h
   ·obtain⟨h1,h2,b,h3⟩ := num 8 2 _ hz.tail h
    exact⟨by omega,by omega,a++b,by rw[List.append_assoc,<- h3];exact ha⟩
   ·split at h
    ·obtain⟨h1,h2,b,h3⟩ := num 30 10 _ hz.tail h
     exact⟨by omega,by omega,a++b,by rw[List.append_assoc,<- h3];exact ha⟩
    ·cases h
theorem jo4 (du vo:List ByteArray) (hn:du.length+vo.length<=16):∀ (n:Nat) (hs:List (Int × Nt)) (ts:List Tk) (u:Ut),szH hs+10*ts.length<=40000->TkN ts->ts.length<=3002->hs.length+n<=4000->WfH hs->pA du vo n hs ts = .ok u->WfU u/\szH u.on<=40000
 | 0,hs,ts,u,_,_,_,_,_,h=>by cases h
 | n+1,hs,ts,u,hs0,hz,hl,hb,hw,h=>by
  rw[pA] at h
  split at h
  ·cases h
   exact⟨⟨hn,hw.sort.on,hw.sort.st,hw.sort.nd,by show (xT hs).length<=_;rw[(nE hs).length_eq];omega⟩,by show szH (xT hs)<=_;rw[jlH (nE hs)];omega⟩
  ·split at h
   ·cases h
   ·rename_i hon
    have hne:ts ≠ []:=fun e=>hon (by rw[e];exact Bool.eq_false_iff.2 (vQ _))
    cases hh:hnF ts.tail with
    | bad x y=>rw[hh] at h;cases h
    | ok k r =>
     rw[hh] at h
     obtain⟨k0,k1,a,ha⟩ := jqJ hz.tail hh
     dsimp only at h
     split at h
     ·cases h
     ·rename_i hdup
      cases hbl:(pa 19).bl r with
      | bad x y=>rw[hbl] at h;cases h
      | ok b r2 =>
       rw[hbl] at h
       have hr:r.length<=3002:=by
        have:=congrArg List.length ha
        rw[List.length_append,List.length_tail] at this;omega
       obtain⟨wb,a2,ha2,hsb⟩ := (wpa 19).bl r b r2 hr hbl
       have hzr:TkN r:=by
        have h1:=hz.tail
        rw[ha] at h1;exact h1.suf
       refine jo4 du vo hn n (hs++[(k,b)]) r2 u (by
        have h1:=congrArg List.length ha
        have h2:=congrArg List.length ha2
        have h3:=List.length_pos_iff.2 hne
        rw[List.length_append] at h1 h2;rw[List.length_tail] at h1;rw[jfq]
        show szH hs+(eW b+1)+_<=_
        omega) (by rw[ha2] at hzr;exact hzr.suf) (by
        rw[ha2,List.length_append] at hr;omega) (by rw[List.length_append,List.length_singleton];omega) ?_ h
       refine⟨fun x hx => ?_,fun x hx => ?_,List.pairwise_append.2 ⟨hw.nd,List.pairwise_singleton _ _,fun x hx y hy => ?_⟩⟩
       ·rcases List.mem_append.1 hx with hx | hx
        ·exact hw.on x hx
        ·rw[List.mem_singleton.1 hx];exact⟨k0,k1,wb.1⟩
       ·rcases List.mem_append.1 hx with hx | hx
        ·exact hw.st x hx
        ·rw[List.mem_singleton.1 hx];exact wb.2
       ·rw[List.mem_singleton.1 hy];intro e;refine hdup ?_;rw[List.any_eq_true];exact⟨x,hx,qH e⟩
theorem jk0:∀ (n:Nat) (names out:List ByteArray) (ts:List Tk) (names' out':List ByteArray) (r:List Tk),names.length<=16->aJ n names out ts = .ok names' out' r->names'.length<=16/\names'.length+out.length=names.length+out'.length /\ ∃ a,ts=a++r
 | 0,names,out,ts,names',out',r,_,h=>by cases h
 | n+1,names,out,ts,names',out',r,hl,h=>by
  have suf:∀ ts:List Tk,∃ a,ts=a++ts.tail:=fun ts=>by
   cases ts with
   | nil=>exact⟨[],rfl⟩
   | cons t ts=>exact⟨[t],rfl⟩
  obtain⟨a1,h1⟩ := suf ts
  obtain⟨a2,h2⟩ := suf ts.tail
  obtain⟨a3,h3⟩ := suf ts.tail.tail
  rw[aJ] at h
  split at h
  ·cases h
  ·split at h
   ·cases h
   ·split at h
    ·cases h
    ·split at h
     ·obtain⟨g1,g2,b,g3⟩ := jk0 n _ _ _ _ _ _ (by rw[List.length_append,List.length_singleton];omega) h
      rw[List.length_append,List.length_append,List.length_singleton] at g2;exact⟨g1,by omega,a1++(a2++b),by rw[List.append_assoc,List.append_assoc,<- g3,<- h2];exact h1⟩
     ·split at h
      ·cases h
       refine⟨by rw[List.length_append,List.length_singleton];omega,by rw[List.length_append,List.length_append,List.length_singleton];omega,a1++(a2++a3),by rw[List.append_assoc,List.append_assoc,<- h3,<- h2];exact h1⟩
      ·cases h
theorem jjY:∀ (n:Nat) (names du vo:List ByteArray) (ts:List Tk) (u:Ut),TkN ts->ts.length<=3002->names.length<=16->names.length=du.length+vo.length->lB n names du vo ts = .ok u->WfU u/\szH u.on<=40000
 | 0,names,du,vo,ts,u,_,_,_,_,h=>by cases h
 | n+1,names,du,vo,ts,u,hz,hl,hn,he,h=>by
  rw[lB] at h
  split at h
  ·cases hd:aJ ts.length names [] ts with
   | bad x y=>rw[hd] at h;cases h
   | ok names' out r =>
    rw[hd] at h
    obtain⟨g1,g2,b,g3⟩ := jk0 _ _ _ _ _ _ _ hn hd
    rw[List.length_nil] at g2;rw[g3] at hz hl;exact jjY n names' (du++out) vo r u hz.suf (by rw[List.length_append] at hl;omega) g1 (by rw[List.length_append];omega) h
  ·split at h
   ·cases hd:aJ ts.length names [] ts with
    | bad x y=>rw[hd] at h;cases h
    | ok names' out r =>
     rw[hd] at h
     obtain⟨g1,g2,b,g3⟩ := jk0 _ _ _ _ _ _ _ hn hd
     rw[List.length_nil] at g2;rw[g3] at hz hl;exact jjY n names' du (vo++out) r u hz.suf (by rw[List.length_append] at hl;omega) g1 (by rw[List.length_append];omega) h
   ·exact jo4 du vo (by omega) _ [] ts u (by show 0+_<=_;omega) hz hl (by simp;omega) ⟨by simp,by simp,.nil⟩ h
theorem jnG {s:ByteArray} {u:Ut} (h:rW s = .ok u):WfU u/\szH u.on<=40000:=by
 unfold rW at h
 split at h
 ·cases h
 ·rename_i hsz
  cases he:(qW s).err with
  | some p=>rw[he] at h;cases h
  | none =>
   rw[he] at h
   have hok:=jna s (by omega)
   have hlen:(eM s).length<=3002:=by
    have h1:=(gR (s.data.toList.length+1) 0 s.data.toList).1
    rw[vK he,List.length_append,List.length_singleton]
    have h2:(qW s).toks.length<=s.data.toList.length:=h1
    rw[kP] at h2;omega
   refine jjY _ [] [] [] (eM s) u (fun t ht => ?_) hlen (by simp) rfl h
   rcases hok t ht with h3 | h3
   ·exact h3.2.2.2.1
   ·rw[h3.2.2.2];exact Int.le_refl 0
def rwC:Nat->List A->A
 | 0,_ => .v (.slice none 0 0)
 | n+1,l => .sl 4 (n+1) l
mutual
def rwA:Nt->List A
 | .mk k n s kids=>[jJ k,jJ n,j0 s,rwC kids.length (rwS kids)]
def rwS:List Nt->List A
 | []=>[]
 | f :: l=>rwA f++rwS l
end
mutual
theorem jgL:∀ f:Nt,WkL (rwA f) (ntA f)
 | .mk k n s []=>by
  unfold rwA;exact .cons (.refl _) (.cons (.refl _) (.cons (.refl _) (.cons (by show Wk _ (.sl 4 0 (qG []));rw[kC];exact .nil 4) .nil)))
 | .mk k n s (f :: l)=>by
  unfold rwA;exact .cons (.refl _) (.cons (.refl _) (.cons (.refl _) (.cons (.sl 4 _ (jlf (f :: l))) .nil)))
theorem jlf:∀ l:List Nt,WkL (rwS l) (qG l)
 | []=>by rw[kC];unfold rwS;exact .nil
 | f :: l=>by
  rw[qQ];unfold rwS;exact (jgL f).app (jlf l)
end
theorem joo (f:Nt) (hf:iO f) (m:Int) (hm:xC (toD f)=m) (h:0<=m/\m<=2):Spec Tryz.prog 18 [] [.agg (rwA f)] fun _ r=>r=jJ m:=by
 refine Spec.wargs (args':=[.agg (ntA f)]) (ins':=[]) ?_ (.cons (.agg (jgL f)) .nil) .nil
 refine nT (vN Tryz.func18 rfl (by kernel_rfl)) fun w C vals h0 h1 h2 => ?_
 unfold A.repL at h2
 obtain⟨v,us,rfl,h2,h3⟩ := h2
 unfold A.repL at h3;subst h3
 have e:ntA f=nt0 f:=by cases f;unfold nt0 ntA qG;rfl
 rw[e] at h2
 have hh:=(l9 (toD f)).use (jkB f (u7 h1) hf h2)
 rw[hm] at hh;refine hh.mono ?_;rintro e w' ⟨rfl,hx⟩;exact⟨_,rfl,hx,A.rep_v (okV_int.2 (by show (-9223372036854775808:Int)<=m/\m<=9223372036854775807;omega))⟩
def sgU (t:Nt):Ut:=⟨[],vnL,[(0,zD [t])]⟩
theorem jmX:nP (fun _=>true) 10=vnL:=by decide
theorem ji2 (t:Nt):Spec Tryz.prog 19 [] [.agg (rwA t)] fun _ r=>r = .agg (utA (sgU t)):=by
 refine Spec.wargs (args':=[.agg (ntA t)]) (ins':=[]) ?_ (.cons (.agg (jgL t)) .nil) .nil
 have key:Spec Tryz.prog 19 [] [.agg (ntA t)] fun _ r=>r = .agg [.v (.slice none 0 0),.sl 1 10 (x8 vnL),.sl 5 1 (jJ 0 :: [jJ 11,jJ 0,j0 ⟨#[]⟩,.sl 4 1 (ntA t)])]:=by
  rw[<- jmX];refine eN jr7 jY 0 Tryz.func19 rfl ?_;intro hok;conv=>whnf
  refine wV 9 1 [] [(2,1)] ?_;conv=>whnf
  refine⟨trivial,?_⟩;conv=>whnf
  refine jT [1,2,3] ?_;conv=>whnf
  refine zF (fun k:Nat=>[(4,.v (.int .i64 k))]) (fun _=>[ntA t,e7,[.v (.slice none 0 0),.own 0,.v (.slice none 0 0)]]) (fun k=>[.live 9 1 (nP (fun _=>true) k).length (x8 (nP (fun _=>true) k))]) (fun k=>k<=10) (fun k=>10-k) 0 ?_ (Nat.zero_le _) ?_
  ·repeat' constructor
  intro k hk;conv=>whnf
  have hpl:=jdf (fun _=>true) k
  by_cases hlt:k<10
  ·rw[qH (show (k:Int)<10 by omega)]
   have hsn:=jg5 k hlt
   conv=>whnf
   (refine yI [] hsn ?_;rintro r rfl;conv=>whnf)
   refine⟨⟨by unfold maxLen;omega,by omega⟩,?_⟩;conv=>whnf
   refine⟨jS (by omega),?_⟩;conv=>whnf
   refine⟨k+1,jU [0] ?_,hlt,by omega⟩;conv=>whnf
   rw[<- jgM (p:=fun _=>true) (k:=k) rfl]
   repeat' constructor
  ·rw[j8 (show ¬ (k:Int)<10 by omega)]
   obtain rfl:k=10:=by omega
   conv=>whnf
   rfl
 refine key.weaken fun o r h=>⟨o,_,rfl,.refl _,?_⟩
 rw[h];refine .agg (.cons ?_ (.cons (.refl _) (.cons ?_ .nil)))
 ·show Wk _ (.sl 1 0 (x8 []))
  exact .nil 1
 ·show Wk _ (.sl 5 1 (nZ [(0,zD [t])]))
  rw[show nZ [(0,zD [t])]=nZ []++hnA (0,zD [t]) from pB [] _,m6]
  show Wk _ (.sl 5 1 ([]++jJ 0 :: [jJ 11,jJ 0,j0 eB,.sl 4 1 (qG [t])]))
  rw[qQ,kC,List.append_nil];exact .refl _
def jr4:Nt := .mk 12 1 eB []
def jrR:Nt := .mk 18 0 wH [jr4,.mk 12 2 eB []]
def jrK:Nt := .mk 15 0 ⟨#[110,111,119]⟩ []
def lessV:Nt := .mk 18 0 pLt [jrR,jrK]
def drawV:Nt := .mk 16 0 eB [.mk 13 1 eB []]
def testV:Nt := .mk 2 0 eB [jr4,zD [],zD []]
def setV:Nt := .mk 1 0 ⟨#[118,97]⟩ [.mk 14 0 ⟨#[119]⟩ []]
def unV:Ut:=⟨[⟨#[100]⟩],[⟨#[118]⟩],[]⟩
theorem jme {k n:Int} {s:ByteArray} {f g:Nt} (h:arN k s 2=true) (hc:clN k [f,g]=true) (hf:iO f) (hg:iO g):iO (.mk k n s [f,g]):=iP h hc fun x hx=>jaI hf hg hx
theorem jdB {k n:Int} {s:ByteArray} {f:Nt} (h:arN k s 1=true) (hc:clN k [f]=true) (hf:iO f):iO (.mk k n s [f]):=iP h hc fun x hx=>by rw[List.mem_singleton.1 hx];exact hf
theorem jnJ:iO lessV:=jme (by decide) (by decide) (jme (by decide) (by decide) (wx0 (by decide)) (wx0 (by decide))) (wx0 (by decide))
theorem jnI:iO drawV:=jdB (by decide) (by decide) (wx0 (by decide))
theorem jnK:iO testV:=iP (by decide) (by decide) fun x hx=>by
 simp only[List.mem_cons,List.not_mem_nil,or_false] at hx
 rcases hx with rfl | rfl | rfl
 all_goals exact wx0 (by decide)
theorem jqb:iO setV:=jdB (by decide) (by decide) (wx0 (by decide))
theorem joq {t:Nt} (h:iO t) (hx:isX t=false):WfU (sgU t) where
 du:=by show 0+10<=16;decide
 on:=fun x hh=>by
  rw[List.mem_singleton.1 hh];exact⟨Int.le_refl 0,show (0:Int)<40 by decide,jdB (f:=t) (by decide) (by show (!isX t && true)=true;rw[hx];rfl) h⟩
 st:=fun x hh=>by rw[List.mem_singleton.1 hh];rfl
 nd:=List.pairwise_singleton _ _
 ol:=by show 1<=4000;decide
theorem jor:WfU unV where
 du:=by decide
 on:=fun x hh=>by cases hh
 st:=fun x hh=>by cases hh
 nd := .nil
 ol:=by decide
def unR:List A:=[.sl 1 1 (x8 [⟨#[100]⟩]),.sl 1 1 (x8 [⟨#[118]⟩]),.v (.slice none 0 0)]
theorem jm7:WkL unR (utA unV) := .cons (.refl _) (.cons (.refl _) (.cons (by show Wk _ (.sl 5 0 (nZ []));rw[m6];exact .nil 5) .nil))
theorem jp7:Spec Tryz.prog 6 [] [] fun _ r=>r=wP true:=by
 have h1:=joo lessV jnJ 2 (by decide +kernel) (by decide)
 have h2:=joo drawV jnI 0 (by decide +kernel) (by decide)
 have h3:=ji2 testV
 have h4:=ji2 setV
 have c3:=jdw (sgU testV) (joq jnK rfl)
 have c4:=jdw (sgU setV) (joq jqb rfl)
 have c5:=jdw unV jor
 have c6:=jpY unV jor ⟨#[118]⟩
 rw[show gD (toU (sgU testV))=11 by decide +kernel] at c3;rw[show gD (toU (sgU setV))=11 by decide +kernel] at c4;rw[show gD (toU unV)=0 by decide +kernel] at c5;rw[show ixU unV ⟨#[118]⟩ = 1 by decide +kernel] at c6
 have c5:=c5.wargs (args:=[.agg unR]) (ins:=[]) (.cons (.agg jm7) .nil) .nil
 have c6:=c6.wargs (args:=[.agg unR,j0 ⟨#[118]⟩]) (ins:=[]) (.cons (.agg jm7) (.cons (.refl _) .nil)) .nil
 refine eN jH jY 0 Tryz.func6 rfl ?_;intro _;conv=>whnf
 refine yI [1] h1 ?_;rintro r rfl;conv=>whnf
 refine yI [2] h2 ?_;rintro r rfl;conv=>whnf
 refine yI [3] h3 ?_;rintro r rfl;conv=>whnf
 (refine yI [] c3 ?_;rintro r rfl;conv=>whnf)
 refine yI [4] h4 ?_;rintro r rfl;conv=>whnf
 (refine yI [] c4 ?_;rintro r rfl;conv=>whnf)
 refine yI [5,6] c5 ?_;rintro r rfl;conv=>whnf
 (refine yI [] c6 ?_;rintro r rfl;conv=>whnf)
 rfl
theorem tprinted_spec (l:List Int):Spec Tryz.prog 3 [] [.sl 1 l.length (bF l)] fun _ r=>r=wP true:=by
 have hu:=jqG l
 have hlv:=jp7
 refine eN jrN jY 0 Tryz.func3 rfl ?_;intro hok;conv=>whnf
 refine yI [] hu ?_;rintro r ⟨u,hg,rfl⟩
 have hpp:=jn0 hg
 have hup:=jm8 hg
 have hps:=fun h=>jgx (prF u) h
 generalize prF u=s at *;conv=>whnf
 (refine yI [] hpp ?_;rintro r rfl;conv=>whnf)
 by_cases hz:3000<s.size
 ·rw[qH (show (3000:Int)<(s.size:Int) by omega)];conv=>whnf
  (refine yI [] hlv ?_;rintro r rfl;conv=>whnf)
  rfl
 rw[j8 (show ¬ (3000:Int)<(s.size:Int) by omega)]
 have hup:=hup (by omega)
 have hps:=hps (by omega)
 rw[hup,show jkO (.ok u) = .tup [.agg (utA u),jJ 0,jJ 0] from rfl] at hps
 have hc:=jdw u (jnG hup).1
 conv=>whnf
 (refine yI [] hps ?_;rintro r rfl;conv=>whnf)
 (refine yI [] hc ?_;rintro r rfl;conv=>whnf)
 (refine yI [] hc ?_;rintro r rfl;conv=>whnf)
 rw[qH (show gD (toU u)=gD (toU u) from rfl)];conv=>whnf
 (refine yI [] hlv ?_;rintro r rfl;conv=>whnf)
 rfl
end Go.Proofs.YtgifglkkmhapiaaGreatDoor.Vm
