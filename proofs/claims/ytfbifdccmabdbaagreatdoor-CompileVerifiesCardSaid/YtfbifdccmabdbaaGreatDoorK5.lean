/- Texts 5 of the proof: P25, VmD, P26, C0, C1, C2, C3, C12, C11, C14, C15, C16, C13, C17, C18, VmB, C4, C5, C6, VmX, C7, C8, C9, C10, C19, C21, C37, C38. -/
import Derived.Test.YtfbifdccmabdbaaGreatDoorK4
import Derived.Recover
namespace Go.Proofs.YtfbifdccmabdbaaGreatDoor.Vm
open Go.RowKit Go.Shelf
set_option linter.unusedSimpArgs false
set_option linter.unusedVariables false
set_option maxRecDepth 100000
def K6 (t:Tk):Prop:=(t.kind=1 /\ ∃ c r,t.text.data.toList=c :: r/\isL c=true /\ ∀ x ∈ c :: r,jgU x=true) ∨ (t.kind=3 /\ ∃ c r,t.text.data.toList=c :: r/\jgU c=false) ∨ (t.kind=0/\t.text.data.toList=[]) ∨ (t.kind=2 /\ ∃ c r,t.text.data.toList=c :: r/\isD c=true)
theorem jyU {l:List UInt8} {k:Int} {len:Nat} {n:Int} {p:Nat} (h:jbs l = .tok k len n):K6 ⟨k,p,bs (l.take len),n⟩ := by
 unfold K6;simp only[jc4]
 cases l with
 | nil=>simp[jbs] at h
 | cons c r =>
  cases hL:isL c
  ·cases hD:isD c
   ·have h3:k=3/\(len=1 ∨ len=2):=by
     cases h3:jdI jq7 (bs ((c :: r).take 2))
     ·cases h4:jdI jrK (bs [c])
      ·simp only[jbs,hL,hD,h3,h4] at h
       cases h
      ·simp only[jbs,hL,hD,h3,h4] at h
       cases h;exact⟨rfl,.inl rfl⟩
     ·simp only[jbs,hL,hD,h3] at h
      cases h;exact⟨rfl,.inr rfl⟩
    right;left
    refine⟨h3.1,c,r.take (len-1),?_,by unfold jgU;rw[hL,hD];rfl⟩
    rcases h3.2 with e | e <;> rw[e] <;> rfl
   ·simp only[jbs,hL,hD] at h
    split at h
    ·cases h
    ·cases h
     exact .inr (.inr (.inr ⟨rfl,c,r.take (jai isD r),List.take_succ_cons,hD⟩))
  ·simp only[jbs,hL] at h
   split at h
   ·cases h
   ·cases h
    left
    refine⟨rfl,c,r.take (jai jgU r),List.take_succ_cons,hL,fun x hx => ?_⟩
    rcases List.mem_cons.1 hx with rfl | hx
    ·unfold jgU;rw[hL];rfl
    ·exact ji2 jgU r x hx
theorem jjR:∀ (f p:Nat) (l:List UInt8),∀ t ∈ (jf2 f p l).toks,K6 t
 | 0,p,l=>by simp[jf2]
 | f+1,p,[]=>by simp[jf2]
 | f+1,p,c :: r=>by
  rw[jf2]
  split
  ·exact jjR f _ _
  ·split
   ·exact jjR f _ _
   ·cases ht:jbs (c :: r) with
    | bad e=>simp
    | tok k len n =>
     intro t hm;simp only[Lx.cons,List.mem_cons] at hm
     rcases hm with rfl | hm
     ·exact jyU ht
     ·exact jjR f _ _ t hm
theorem jyJ {s:ByteArray} (he:(jb8 s).err=none):∀ t ∈ jnm s,K6 t:=fun t ht=>by
 rw[jdg he,List.mem_append] at ht
 rcases ht with ht | ht
 ·exact jjR _ _ _ t ht
 ·rw[List.mem_singleton.1 ht];exact .inr (.inr (.inl ⟨rfl,rfl⟩))
theorem jpB {c:UInt8} (h:jgU c=true):c ≠ 32:=fun e=>by subst e;revert h;decide
theorem juI {t:Tk} (h:K6 t):wOk t:=fun hk=>by
 rcases h with ⟨_,c,r,h1,_,h3⟩ | ⟨h1,_⟩ | ⟨h1,_⟩ | ⟨h1,_⟩
 ·rw[h1];exact⟨by simp,fun x hx=>jpB (h3 x hx)⟩
 ·omega
 ·omega
 ·omega
theorem jws {s:ByteArray} (hs:s.size<=3000) (he:(jb8 s).err=none):TkP (jnm s):=⟨jwr hs he,fun t ht=>juI (jyJ he t ht)⟩
def okE (x e:Int):Prop:=(0<=x/\x<=1000000000)/\0<e/\e<=100
def jmu (p:Pn):Prop:=match p with
 | .bad x e=>okE x e
 | _=>True
def jic (op:List Tk->Pn):Prop := ∀ ts,TkP ts->jmu (op ts)
theorem TkP.hp {ts:List Tk} (h:TkP ts):(Vm.hd ts).pos<=1000000000:=h.good.2.2.2.2.2
theorem je2 {ts:List Tk} (h:TkP ts) {e:Int} (he:0<e/\e<=100):jmu (.bad (hd ts).pos e):=⟨⟨by omega,by have:=h.hp;omega⟩,he⟩
theorem jaD {p:Pn} {k:Nt->List Tk->Pn} (h:jmu p) (hk:∀ f r,p = .ok f r->jmu (k f r)):jmu (p.andThen k):=by
 cases p with
 | ok f r=>exact hk f r rfl
 | bad x e=>exact h
theorem jby {s:ByteArray} {ts:List Tk} {k:List Tk->Pn} (h:TkP ts) (hk:TkP ts.tail->jmu (k ts.tail)):jmu (xpt s ts k):=by
 unfold xpt
 by_cases hs:isP s ts=true
 ·rw[if_pos hs];exact hk (h.is hs).1
 ·rw[if_neg hs];exact je2 h (by decide)
theorem jno {lim:Int} {ts:List Tk} {k:Int->List Tk->Pn} (h:TkP ts) (hk:TkP ts.tail->jmu (k (hd ts).n ts.tail)):jmu (jkt lim ts k):=by
 unfold jkt
 by_cases h1:(hd ts).kind ≠ 2
 ·rw[if_pos h1];exact je2 h (by decide)
 ·rw[if_neg h1]
  by_cases h2:lim<=(hd ts).n
  ·rw[if_pos h2];exact je2 h (by decide)
  ·rw[if_neg h2];exact hk (h.tail (by rw[Decidable.not_not.1 h1];decide)).1
theorem jgg {ts:List Tk} (h:TkP ts):jmu (synE ts):=je2 h (by decide)
def jsS (low:Option Pa):Prop := ∀ p,low=some p->jic p.no/\jic p.un/\jic p.ex/\jic p.bl
theorem jp0 {low:Option Pa} (hg:jkr low) (hl:jsS low):jic (jik low):=fun ts h=>by
 unfold jik
 by_cases hs:isP pLp ts=true
 ·rw[if_pos hs]
  cases low with
  | none=>exact je2 h (by decide)
  | some p =>
   have q:=(h.is hs).1
   exact jaD ((hl p rfl).2.2.1 _ q) fun f r e=>jby ((hg p rfl).2.2.1 _ _ _ q e).1 fun _=>trivial
 ·rw[if_neg hs];exact jgg h
theorem jaF {c:Prop} [Decidable c] {a b:Pn} (h1:c->jmu a) (h2 : ¬ c->jmu b):jmu (if c then a else b):=by
 by_cases h:c
 ·rw[if_pos h];exact h1 h
 ·rw[if_neg h];exact h2 h
theorem ju0 {low:Option Pa} (hg:jkr low) (hl:jsS low):jic (jk0 low):=fun ts h=>by
 unfold jk0
 refine jaF (fun hs=>jp0 hg hl ts h) fun _ => ?_
 refine jaF (fun hs=>jaD (jp0 hg hl _ (h.is hs).1) fun _ _ _=>trivial) fun _ => ?_
 refine jaF (fun hs=>trivial) fun _ => ?_
 refine jaF (fun hs=>trivial) fun _ => ?_
 refine jaF (fun hs=>trivial) fun _ => ?_
 refine jaF (fun hs=>trivial) fun _ => ?_
 exact jaF (fun hs=>trivial) fun _=>jgg h
theorem jsh {s:ByteArray} {op:Option (List Tk->Pn)} (hl:∀ f,op=some f->jic f) {ts:List Tk} (h:TkP ts) (hs:isP s ts=true):jmu (jsX s op ts):=by
 cases op with
 | none=>exact je2 h (by decide)
 | some f=>exact jaD (hl f rfl _ (h.is hs).1) fun _ _ _=>trivial
theorem jsj {low:Option Pa} (hg:jkr low) (hl:jsS low):jic (jjg low):=fun ts h=>by
 unfold jjg
 refine jaF (fun hs=>jsh (fun f hf => ?_) h hs) fun _=>ju0 hg hl ts h
 obtain⟨p,hp,rfl⟩ := Option.map_eq_some_iff.1 hf
 exact (hl p hp).2.1
theorem jlU {op:List Tk->Pn} (hg:jaV op) (ho:jic op) (signs:List ByteArray):∀ (n:Nat) (l:Nt) (ts:List Tk),TkP ts->jmu (jf9 op signs n l ts)
 | 0,l,ts,h=>trivial
 | n+1,l,ts,h=>by
  rw[jf9]
  refine jaF (fun hs => ?_) fun _=>trivial
  obtain⟨s,hs⟩ := jfS hs
  have q:=(h.is hs).1
  exact jaD (ho _ q) fun f r e=>jlU hg ho signs n _ _ (hg _ _ _ q e).1
theorem jka {op:List Tk->Pn} (hg:jaV op) (ho:jic op) (signs:List ByteArray):jic (jdq op signs):=fun ts h=>by
 unfold jdq
 exact jaD (ho _ h) fun f r e=>jlU hg ho signs _ _ _ (hg _ _ _ h e).1
theorem jsi {low:Option Pa} (hg:jkr low) (hl:jsS low):jic (jwC low):=jka (jcL (jeg hg) _) (jka (jeg hg) (jsj hg hl) _) _
theorem jsg {low:Option Pa} (hg:jkr low) (hl:jsS low):jic (ntG low):=fun ts h=>by
 unfold ntG
 refine jaF (fun hs=>jsh (fun f hf => ?_) h hs) fun _ => ?_
 ·obtain⟨p,hp,rfl⟩ := Option.map_eq_some_iff.1 hf
  exact (hl p hp).1
 ·refine jaD (jsi hg hl _ h) fun l r e => ?_
  have q:=(jgS hg _ _ _ h e).1
  refine jaF (fun hs => ?_) fun _=>trivial
  obtain⟨s,hs⟩ := jfS hs
  exact jaD (jsi hg hl _ (q.is hs).1) fun _ _ _=>trivial
theorem jsf {low:Option Pa} (hg:jkr low) (hl:jsS low):jic (jwZ low):=jka (jcL (jef hg) _) (jka (jef hg) (jsg hg hl) _) _
theorem jyM {ex bl:List Tk->Pn} (gex:jaV ex) (gbl:jaV bl) (hex:jic ex) (hbl:jic bl):jic (stG ex bl):=fun ts h=>by
 unfold stG
 refine jaF (fun hn => ?_) fun _ => ?_
 ·have q:=(h.tail (by rw[jdc hn];decide)).1
  exact jby q fun q=>jaD (hex _ q) fun f r e=>jby (gex _ _ _ q e).1 fun _=>trivial
 refine jaF (fun _=>jgg h) fun hk => ?_
 have q:=(h.tail (by rw[Decidable.not_not.1 hk];decide)).1
 refine jaF (fun _=>jaD (hex _ q) fun f r e=>jaD (hbl _ (gex _ _ _ q e).1) fun f2 r2 e2=>jaF (fun hs=>jaD (hbl _ ((gbl _ _ _ (gex _ _ _ q e).1 e2).1.is hs).1) fun _ _ _=>trivial) fun _=>trivial) fun _ => ?_
 refine jaF (fun _=>jaD (hex _ q) fun f r e=>jaD (hbl _ (gex _ _ _ q e).1) fun _ _ _=>trivial) fun _ => ?_
 refine jaF (fun _=>jaD (hex _ q) fun f r e=>jby (gex _ _ _ q e).1 fun q=>jno q fun q=>jby q fun q=>jaD (hex _ q) fun f r e=>jby (gex _ _ _ q e).1 fun q=>jaD (hex _ q) fun f r e=>jby (gex _ _ _ q e).1 fun _=>trivial) fun _ => ?_
 refine jaF (fun _=>jno q fun q=>jby q fun _=>trivial) fun _ => ?_
 refine jaF (fun _=>jno q fun q=>jby q fun _=>trivial) fun _ => ?_
 refine jaF (fun _=>jby q fun _=>trivial) fun _ => ?_
 refine jaF (fun _=>jaD (hex _ q) fun f r e=>jby (gex _ _ _ q e).1 fun q=>jaD (hex _ q) fun f r e=>jby (gex _ _ _ q e).1 fun _=>trivial) fun _ => ?_
 refine jaF (fun _=>jaD (hex _ q) fun f r e=>jby (gex _ _ _ q e).1 fun _=>trivial) fun _ => ?_
 exact jaF (fun _=>jby q fun _=>trivial) fun _=>jgg h
theorem joZ {st:List Tk->Pn} (gst:GoesS st) (hst:jic st):∀ (n:Nat) (acc:List Nt) (ts:List Tk),TkP ts->jmu (jqb st n acc ts)
 | 0,acc,ts,h=>jgg h
 | n+1,acc,ts,h=>by
  rw[jqb]
  exact jaF (fun _=>trivial) fun _=>jaD (hst _ h) fun f r e=>joZ gst hst n _ _ (gst _ _ _ h e).1
theorem jyK {st:List Tk->Pn} (gst:GoesS st) (hst:jic st):jic (bkF st):=fun ts h=>by
 unfold bkF
 exact jby h fun q=>joZ gst hst _ _ _ q
theorem jtZ {low:Option Pa} (hl:jsS low):jic (jzi low):=by
 cases low with
 | none=>exact fun ts h=>jaF (fun _=>je2 h (by decide)) fun _=>jgg h
 | some p=>exact (hl p rfl).2.2.2
theorem jv0 {low:Option Pa} (hg:jkr low) (hl:jsS low):jsS (some (paG low)):=fun p hp=>by
 cases hp
 exact⟨jsg hg hl,jsj hg hl,jsf hg hl,jyK (jjK (jds hg) (jda hg)) (jyM (jds hg) (jda hg) (jsf hg hl) (jtZ hl))⟩
theorem joL:∀ d,jkr (some (pa d))/\jsS (some (pa d))
 | 0=>⟨jmY (fun _ h=>by cases h),jv0 (fun _ h=>by cases h) (fun _ h=>by cases h)⟩
 | d+1=>⟨jmY (joL d).1,jv0 (joL d).1 (joL d).2⟩
theorem jwu:jic (pa 19).bl:=((joL 19).2 _ rfl).2.2.2
theorem jc8 {ts:List Tk} (h:TkP ts) {e:Int} (he:0<e/\e<=100):okE (hd ts).pos e:=je2 h he
theorem jp1 {lim off:Int} {ts:List Tk} (h:TkP ts) {x e:Int} (k:jqc lim off ts = .bad x e):okE x e:=by
 unfold jqc at k
 split at k
 ·cases k;exact jc8 h (by decide)
 ·split at k
  ·cases k;exact jc8 h (by decide)
  ·cases k
theorem jyL {hs:List (Int × Nt)} {ts:List Tk} (h:TkP ts) {x e:Int} (k:heF hs ts = .bad x e):okE x e:=by
 unfold heF at k
 cases hh:hnF ts with
 | bad x2 e2 =>
  rw[hh] at k
  cases k
  unfold hnF at hh
  by_cases h1:isP jji ts=true
  ·rw[if_pos h1] at hh;cases hh
  rw[if_neg h1] at hh
  by_cases h2:isP jeB ts=true
  ·rw[if_pos h2] at hh;cases hh
  rw[if_neg h2] at hh
  by_cases h3:isP jbI ts=true
  ·rw[if_pos h3] at hh;exact jp1 (h.is h3).1 hh
  rw[if_neg h3] at hh
  by_cases h4:isP jeA ts=true
  ·rw[if_pos h4] at hh;exact jp1 (h.is h4).1 hh
  rw[if_neg h4] at hh
  cases hh
  exact jc8 h (by decide)
 | ok k2 r2 =>
  rw[hh] at k
  simp only at k
  split at k
  ·cases k;exact jc8 h (by decide)
  ·cases k
theorem juZ (du vo:List ByteArray):∀ (n:Nat) (hs:List (Int × Nt)) (ts:List Tk) (x e:Int),TkP ts->jtv du vo n hs ts = .bad x e->okE x e
 | 0,hs,ts,x,e,h,k=>by cases k;exact jc8 h (by decide)
 | n+1,hs,ts,x,e,h,k=>by
  rw[jr5] at k
  by_cases hk:(hd ts).kind=0
  ·rw[if_pos hk] at k;cases k
  rw[if_neg hk] at k
  by_cases ho:isP wOn ts=false
  ·rw[if_pos ho] at k;cases k;exact jc8 h (by decide)
  rw[if_neg ho] at k
  have q:=(h.tail hk).1
  cases hh:heF hs ts.tail with
  | bad x2 e2=>rw[hh] at k;cases k;exact jyL q hh
  | ok k2 r =>
   rw[hh] at k
   simp only at k
   obtain⟨_,q2,_⟩ := juG q hh
   have hb:=jwu _ q2
   cases hbl:(pa 19).bl r with
   | bad x2 e2=>rw[hbl] at k hb;cases k;exact hb
   | ok b r2 =>
    rw[hbl] at k;exact juZ du vo n _ _ _ _ (jhe _ _ _ q2 hbl).1 k
theorem jse:∀ (n:Nat) (nm out:List ByteArray) (ts:List Tk) (x e:Int),TkP ts->(hd ts).kind ≠ 0->jkQ n nm out ts = .bad x e->okE x e
 | 0,nm,out,ts,x,e,h,hk,k=>by cases k;exact jc8 h (by decide)
 | n+1,nm,out,ts,x,e,h,hk,k=>by
  rw[jjD] at k
  have q:=(h.tail hk).1
  by_cases hn:jgt ts.tail=false
  ·rw[if_pos hn] at k;cases k;exact jc8 q (by decide)
  rw[if_neg hn] at k
  by_cases hh:jdI nm (hd ts.tail).text=true
  ·rw[if_pos hh] at k;cases k;exact jc8 q (by decide)
  rw[if_neg hh] at k
  by_cases h6:nm.length=16
  ·rw[if_pos h6] at k;cases k;exact jc8 q (by decide)
  rw[if_neg h6] at k
  have q3:=(q.tail (by rw[jdc (by simpa using hn)];decide)).1
  unfold deH at k
  by_cases hc:isP jba ts.tail.tail=true
  ·rw[if_pos hc] at k;exact jse n _ _ _ _ _ q3 (jcc hc) k
  ·rw[if_neg hc] at k
   by_cases hs:isP jaR ts.tail.tail=true
   ·rw[if_pos hs] at k;cases k
   ·rw[if_neg hs] at k;cases k;exact jc8 q3 (by decide)
theorem jsd:∀ (n:Nat) (nm du vo:List ByteArray) (ts:List Tk) (x e:Int),TkP ts->nm.length<=16->jtl n nm du vo ts = .bad x e->okE x e
 | 0,nm,du,vo,ts,x,e,h,h16,k=>by cases k;exact jc8 h (by decide)
 | n+1,nm,du,vo,ts,x,e,h,h16,k=>by
  rw[jtl] at k
  by_cases h1:isP jdD ts=true
  ·rw[if_pos h1] at k
   cases hd:jkQ ts.length nm [] ts with
   | bad x2 e2=>rw[hd] at k;cases k;exact jse _ _ _ _ _ _ h (jcc h1) hd
   | ok nm2 out r =>
    rw[hd] at k
    obtain⟨k1,k2,k3,k4⟩ := jcr _ _ _ _ _ _ _ h (jcc h1) h16 hd
    exact jsd n _ _ _ _ _ _ k1 k3 k
  rw[if_neg h1] at k
  by_cases h2:isP je8 ts=true
  ·rw[if_pos h2] at k
   cases hd:jkQ ts.length nm [] ts with
   | bad x2 e2=>rw[hd] at k;cases k;exact jse _ _ _ _ _ _ h (jcc h2) hd
   | ok nm2 out r =>
    rw[hd] at k
    obtain⟨k1,k2,k3,k4⟩ := jcr _ _ _ _ _ _ _ h (jcc h2) h16 hd
    exact jsd n _ _ _ _ _ _ k1 k3 k
  rw[if_neg h2] at k;exact juZ _ _ _ _ _ _ _ h k
theorem jtR {ts:List Tk} (h:TkP ts) {x e:Int} (k:jyF ts = .bad x e):okE x e:=jsd _ _ _ _ _ _ _ h (Nat.zero_le _) k
end Go.Proofs.YtfbifdccmabdbaaGreatDoor.Vm
namespace Go.Proofs.YtfbifdccmabdbaaGreatDoor.Vm
open Go.RowKit
set_option linter.unusedSimpArgs false
set_option linter.unusedVariables false
section
def ClD (P:Program) (f:Nat) (u u':FrameMode):Array Value->World->(Ending->World->Prop)->Prop:=fun vs w R=>CallsD P f vs u w fun e m w' => m=u'/\R e w'
theorem ClD.mono {P:Program} {f:Nat} {u u':FrameMode} {vs:Array Value} {w:World} {R R':Ending->World->Prop} (h:∀ e w',R e w'->R' e w') (k:ClD P f u u' vs w R):ClD P f u u' vs w R' :=
 CallsD.mono k fun e m w' ⟨h1,h2⟩=>⟨h1,h _ _ h2⟩
@[irreducible] def jze (P:Program) (u u':FrameMode) (f:Nat) (args:List A) (s:S) (K:S->Prop):Prop :=
 (∀ vs w,(callFunc f vs).run P w = .ok (.enter f vs) w) ∧
 ∃ (X ids:List Nat) (ins:List (List A)) (args':List A) (post:List (List A)->A->Prop),X.Nodup/\(∀ i ∈ X,i<s.bx.length) ∧
  jeW X (ja1 s.rw ids) (X.map fun i=>s.bx.getD i [])=some ins/\jcw X (ja1 s.rw ids) args=some args'/\(okL args'->jpo (ClD P f u u') ins args' post fun _=>False) ∧
  ∀ outs r,post outs r->outs.length=X.length->jpP X s.bx X outs fun bx' => jbw (back X r) fun _=>jaB (ja1 s.rw ids) fun rw' => jbM s bx' rw' K
def jfo (c:Cx) (rv:List ResultVar) (post:List (List A)->A->Prop):List (Nat × List A)->FrameMode->S->Prop
 | [],.returning,s=>jwp c rv post s
 | [],_,_=>False
 | (f,args) :: r,u,s=>u ≠ .run /\ ∃ u',jze c.P u u' f args s fun s' => jfo c rv post r (settle u') s'
section
variable {c:Cx} {w0:W0} {C0:Rd} {β0:List Nat}
theorem jfp {fn:Func} {post:List (List A)->A->Prop} {R:Ending->World->Prop} {tmps:Array Value} (hfin:∀ s' w',jwp c fn.results.toList post s'->Inv [] w0 C0 β0 s' { tmps:=tmps,defers:=[] } w' -> ∃ v,(results fn tmps).run c.P w' = .ok v w'/\R (.returned v) w') :
  ∀ (dr:List (Nat × List A)) (ds:List Deferred) (u:FrameMode) (s:S) (E:Env) (w:World),repD dr E ds->Hp w0 C0 β0 s.bx s.rw w E->A.repL s.t E tmps.toList->jfo c fn.results.toList post dr u s->Leaves c.P fn tmps R ds u w
 | [],ds,u,s,E,w,hd,hp,ht,h=>by
  obtain rfl:ds=[]:=hd
  cases u with
  | returning=>exact hfin s w h ⟨E,hp,ht,rfl⟩
  | run=>exact h.elim
  | panicking ch=>exact h.elim
 | (f,args) :: r,ds,u,s,E,w,⟨d,ds',cap,hds,htg,hargs,hrest⟩,hp,ht,h=>by
  subst hds
  obtain⟨hu,u',h⟩ := h
  unfold jze at h
  obtain⟨hcall,X,ids,ins,args',post',hn,hX,hins,hargs',hspec,hk⟩ := h
  have hcx:=jjy (pan:=fun _ _=>False) (Xr:=fun _=>true) (K:=fun _ s' => jfo c fn.results.toList post r (settle u') s') (Cl:=ClD c.P f u u') ClD.mono hp hargs hn (fun _ _=>rfl) hX hins hargs' hspec (fun outs r hp hl=>hk outs r hp hl) (fun ch bx' h _ _=>h.elim)
  obtain⟨t,da⟩ := d
  simp only at htg hargs hcx
  subst htg;refine leaves_cons (f:=f) (args:=da++cap) hu (by simp[invoke,hcall]) ?_
  have hcx':CallsD c.P f (da++cap) u w fun e m w' => m=u'/\((∃ y,e = .returned y/\Left w0 C0 β0 (fun _=>true) s E w (fun _ s' => jfo c fn.results.toList post r (settle u') s') y w') ∨ ∃ (ch:List PanicEntry) (s':S) (E':Env),e = .panicked ch/\False/\s'.t=s.t/\E.le E'/\Hp w0 C0 β0 s'.bx s'.rw w' E'):=hcx
  refine CallsD.mono hcx' ?_;rintro e m w' ⟨rfl,⟨y,rfl,⟨⟨r0,s',E',h1,h2,h3,h4,h5,_⟩⟩⟩ | ⟨ch,s',E',_,h,_⟩⟩
  ·exact jfp hfin r ds' _ s' E' w' (hrest.mono h3) h4 (by rw[h2];exact A.repL.mono _ h3 ht) h1
  ·exact h.elim
@[irreducible] def OkT (P:Program) (np:Nat) (pt:List (Nat × List A)->List PanicEntry->S->Prop) (qt:List (Nat × List A)->Exit->S->Prop) (dr:List (Nat × List A)) (x:Code) (s:S):Prop :=
 ∀ (w0:W0) (C0:Rd) (β0:List Nat) (a:Act) (w:World) (Q:Exit->Act->World->Prop),β0.length=np->Inv dr w0 C0 β0 s a w->(∀ dr' ch s' a' w',pt dr' ch s'->Inv dr' w0 C0 β0 s' a' w'->Q (.panic ch) a' w')->(∀ dr' e s' a' w',qt dr' e s'->Inv dr' w0 C0 β0 s' a' w'->Q e a' w')->x.wp P Q a w
def tQ (P:Program) (np:Nat) (pt:List (Nat × List A)->List PanicEntry->S->Prop) (qt:List (Nat × List A)->Exit->S->Prop) (dr:List (Nat × List A)) (y:Code) (e:Exit) (s:S):Prop:=match e with
 | .normal=>OkT P np pt qt dr y s
 | e=>qt dr e s
variable {pt:List (Nat × List A)->List PanicEntry->S->Prop} {qt:List (Nat × List A)->Exit->S->Prop} {dr:List (Nat × List A)} {s:S}
theorem joF {x:Code} (hc:c.ok) (hdr:∃ n,jcf n dr=true) (hl:jcf c.np dr=true ∨ jca x=true) (ho:jbJ c.ord x=true) (hp:∀ ch s',c.pan ch s'->pt dr ch s') (h:awp c x s (qt dr)):OkT c.P c.np pt qt dr x s:=by
 unfold OkT
 exact fun w0 C0 β0 a w Q hn hi hx hk=>jdF hc hn hdr x hl (fun ch s' a' w' h1 h2=>hx dr ch s' a' w' (hp ch s' h1) h2) ho hi h fun e s' a' w' h1 h2=>hk dr e s' a' w' h1 h2
theorem jaS {x y:Code} (hc:c.ok) (hdr:∃ n,jcf n dr=true) (hl:jcf c.np dr=true ∨ jca x=true) (ho:jbJ c.ord x=true) (hp:∀ ch s',c.pan ch s'->pt dr ch s') (h:awp c x s (tQ c.P c.np pt qt dr y)):OkT c.P c.np pt qt dr (.seq x y) s:=by
 unfold OkT;intro w0 C0 β0 a w Q hn hi hx hk;refine wp_seq (jdF hc hn hdr x hl (fun ch s' a' w' h1 h2=>hx dr ch s' a' w' (hp ch s' h1) h2) ho hi h fun e s' a' w' h1 h2 => ?_)
 cases e with
 | normal =>
  have h1:OkT c.P c.np pt qt dr y s':=h1
  unfold OkT at h1;exact h1 w0 C0 β0 a' w' Q hn h2 hx hk
 | _=>exact hk dr _ _ _ _ h1 h2
def jAG (s:S) (fo:Operand) (xs:List Operand) (K:Nat->List A->Prop):Prop:=match ev s fo with
 | .clo f caps=>K f (xs.map (ev s)++caps)
 | .bm f fs=>K f (fs++xs.map (ev s))
 | _=>False
theorem jke {ops l2:List Oper} {Q:Exit->Act->World->Prop} (hc:c.ok) (hdr:∃ n,jcf n dr=true) (hx:∀ ch s' a' w',c.pan ch s'->Inv dr w0 C0 β0 s' a' w'->Q (.panic ch) a' w'):∀ {l:List Oper} {s:S} {a:Act} {w:World} {K:S->Prop},Inv dr w0 C0 β0 s a w->jmG c ops l s K->(∀ s' a' w',K s'->Inv dr w0 C0 β0 s' a' w'->wpList c.P ops.toArray Q l2 a' w')->wpList c.P ops.toArray Q (l++l2) a w
 | [],s,a,w,K,hi,h,hk=>hk s a w h hi
 | o :: r,s,a,w,K,hi,h,hk=>by
  obtain⟨E,hp,ht,hd⟩ := hi
  change jeZ ops o s (ado c (fun _=>true) s o fun s' => jmG c ops r s' K) (jd2 s o.dst (.tup []) fun s' => jmG c ops r s' K) at h
  refine wpList_step fun Kc hKc => ?_
  rcases jcE ht h with ⟨h1,h2⟩ | ⟨h1,h2⟩
  ·rw[if_pos h1]
   exact jqR hc hdr ⟨E,hp,ht,hd⟩ h2 hx fun s' a' w' h3 h4=>hKc _ _ (jke hc hdr hx h4 h3 hk)
  ·rw[if_neg (by rw[h1];simp)]
   obtain⟨s2,k1,k2,k3,k4,k5⟩ := jaK (a:=a) hp ht hd (jbi _) h2
   exact hKc _ _ (jke hc hdr hx ⟨E,by rw[k2,k3];exact hp,k4,k5⟩ k1 hk)
theorem jrG {id:Nat} {l:List Oper} {od:Oper} {fo:Operand} {xs:Array Operand} {ts:Array TypeId} {y:Code} (hc:c.ok) (hdr:∃ n,jcf n dr=true) (hp:∀ ch s',c.pan ch s'->pt dr ch s') (hop:od.op = .defer ⟨.value fo,xs,ts⟩) (hg:od.guard=none) (hd:od.dst=none)
  (h:jmG c (l++[od]) l s fun s' => jAG s' fo xs.toList fun f args=>OkT c.P c.np pt qt ((f,args) :: dr) y s'):OkT c.P c.np pt qt dr (.seq (.region id (l++[od]).toArray false) y) s:=by
 unfold OkT;intro w0 C0 β0 a w Q hn hi hx hk;refine wp_seq (wp_region_lit (jke (l2:=[od]) (Q:=Exit.then (y.wp c.P Q) Q) hc hdr (fun ch s' a' w' h1 h2=>hx dr ch s' a' w' (hp ch s' h1) h2) hi h fun s' a' w' h1 h2 => ?_))
 refine wpList_step fun Kc hKc => ?_
 rw[if_pos (by simp[Region.wanted,hg])]
 obtain⟨E,hpp,ht,hdd⟩ := h2
 unfold jAG at h1
 split at h1
 ·rename_i f caps hev
  have hf:=jaj ht fo
  rw[hev] at hf;unfold A.rep at hf
  obtain⟨us,hf,hcaps⟩ := hf
  have hrun:(execOp a'.eval od).run c.P w' = .ok (.defer { target := .fn (.func f) us,args:=xs.map a'.eval }) w':=by simp[execOp,hop,resolve,Deferred.ofValue,hf,Result.andThen]
  unfold Oper.wp;rw[hrun,Oper.upon_defer];rw[hd];unfold OkT at h1;refine hKc _ _ (h1 w0 C0 β0 _ w' Q hn ⟨E,hpp,ht,{ target := .fn (.func f) us,args:=xs.map a'.eval },a'.defers,us,rfl,rfl,?_,hdd⟩ hx hk)
  have:=A.repL_append (jcK ht xs.toList) hcaps
  simpa using this
 ·rename_i f fs hev
  have hf:=jaj ht fo
  rw[hev] at hf;unfold A.rep at hf
  obtain⟨us,hf,hcaps⟩ := hf
  have hrun:(execOp a'.eval od).run c.P w' = .ok (.defer { target := .fn (.func f) #[],args:=us++xs.map a'.eval }) w':=by simp[execOp,hop,resolve,Deferred.ofValue,hf,Result.andThen]
  unfold Oper.wp;rw[hrun,Oper.upon_defer];rw[hd];unfold OkT at h1;refine hKc _ _ (h1 w0 C0 β0 _ w' Q hn ⟨E,hpp,ht,{ target := .fn (.func f) #[],args:=us++xs.map a'.eval },a'.defers,#[],rfl,rfl,?_,hdd⟩ hx hk)
  have:=A.repL_append hcaps (jcK ht xs.toList)
  simpa using this
 ·exact h1.elim
theorem jle {n:Nat} {ins:List (List A)} {args:List A} {w:World} {C:Rd} {β:List Nat} {vals:List Value} (h0:Gok C w) (h1:Sub C (see w)) (h2:β.Nodup) (h3:∀ b ∈ β,∀ o sp,C ⟨b,o,sp⟩ = none) (h4:ins.length=β.length)
  (h5:∀ (i b:Nat) (cs:List A),β[i]? = some b->ins[i]? = some cs->boxAt w ⟨C,β,[]⟩ b cs) (h6:A.repL args ⟨C,β,[]⟩ vals) :
  Inv [] (.of w) C β ⟨args++List.replicate (n-args.length) .dead,ins,[]⟩ { tmps:=vals.toArray++Array.replicate (n-vals.toArray.size) undef,defers:=[] } w:=by
 have hl:=A.repL_len h6
 refine⟨⟨C,β,[]⟩,⟨h1,Sub.refl _,fun _ _ hc => .inl hc,⟨[],by simp,by simp⟩,h2,h3,h4,h5,rfl,fun g r y hg=>by simp at hg,fun g e k n cs y b hg=>by simp at hg,fun g e k n cs y h' e' k' n' cs' z b _ hg=>by simp at hg,fun g y hg=>by simp at hg,Keeps.refl _ _,jvM h0⟩,?_,rfl⟩
 have:(vals.toArray++Array.replicate (n-vals.toArray.size) undef).toList=vals++List.replicate (n-args.length) undef:=by simp[hl]
 rw[this];exact A.repL_append h6 (jcx _ _)
theorem ju8 {f:Nat} {fn:Func} {x:Code} {ins:List (List A)} {args:List A} {post:List (List A)->A->Prop} (hc:c.ok) (hf:c.P.funcs[f]? = some fn) (hb:fn.body=some x) (hname:(fn.name == "runtime.NumGoroutine")=false)
  (hn:ins.length=c.np) (h:okL args->jdw args (fn.ntmps-args.length) fun t=>OkT c.P c.np (fun dr ch s=>jfo c fn.results.toList post dr (.panicking ch) s) (fun dr e s=>(e = .normal ∨ e = .ret)/\jfo c fn.results.toList post dr .returning s) [] x ⟨t,ins,[]⟩):Spec c.P f ins args post:=by
 refine⟨jdp hf hb hname,fun w C β vals h0 h1 h2 h3 h4 h5 h6 => ?_⟩;refine calls_of_wp_defers hf hb ?_
 have hinit:=initK_iff.1 (h (jbo _ h6))
 have hinv:=jle (n:=fn.ntmps) h0 h1 h2 h3 h4 h5 h6
 unfold OkT at hinit
 have hfin:∀ (tmps:Array Value) (s':S) (w':World),jwp c fn.results.toList post s'->Inv [] (.of w) C β s' { tmps:=tmps,defers:=[] } w' -> ∃ v,(results fn tmps).run c.P w' = .ok v w' /\ ∃ outs r v',Ending.returned v = .returned v'/\post outs r/\Keeps β w w'/\outs.length=β.length ∧
   (∀ (i b:Nat) (cs:List A),β[i]? = some b->outs[i]? = some cs->boxAt w' ⟨jbp C w w',β,[]⟩ b cs)/\r.rep ⟨jbp C w w',β,[]⟩ v':=fun tmps s' w' hr hi =>
  (jqW (w:=w) (C:=C) (β:=β) (fn:=fn) (post:=post) hc h1 (by rw[<- h4,hn]) hr hi).2
 refine hinit (.of w) C β _ w _ (by rw[<- h4,hn]) hinv (fun dr ch s' a' w' hl ⟨E,hp,ht,hd⟩ => ?_) (fun dr e s' a' w' hl ⟨E,hp,ht,hd⟩ => ?_)
 ·exact jfp (hfin a'.tmps) dr a'.defers _ s' E w' hd hp ht hl
 ·obtain⟨he,hl⟩ := hl
  rcases he with rfl | rfl
  ·exact jfp (hfin a'.tmps) dr a'.defers _ s' E w' hd hp ht hl
  ·exact jfp (hfin a'.tmps) dr a'.defers _ s' E w' hd hp ht hl
theorem jk4 {c0:Frame} {cs:List Frame} (h:c0.mode = .returning):recoverD (c0 :: cs)=none:=by
 simp[recoverD,h]
theorem jk3 {c0:Frame} {cs:List Frame} {v:Value} {older:List PanicEntry} (h:c0.mode = .panicking (⟨v,false,false⟩ :: older)):recoverD (c0 :: cs)=some (v,{ c0 with mode := .panicking (⟨v,true,false⟩ :: older) } :: cs):=by
 simp[recoverD,h]
theorem jrX {f id d0:Nat} {fn:Func} {o0:Oper} {ts:Array TypeId} {rest:Code} {ins:List (List A)} {args:List A} {post:List (List A)->A->Prop} {u u':FrameMode} {rv:Value} (hc:c.ok) (hq:∀ ch s,¬ c.pan ch s) (hf:c.P.funcs[f]? = some fn) (hb:fn.body=some (.seq (.region id #[o0] false) rest))
  (k0:o0.op = .call ⟨.builtin .recover,#[],ts⟩ /\ o0.guard=none/\o0.dst=some d0) (hd0:d0<fn.ntmps) (hv:okV rv)
  (hu:(u = .returning/\u' = .returning/\rv = .nilIface) ∨ ∃ v older,u = .panicking (⟨v,false,false⟩ :: older)/\u' = .panicking (⟨v,true,false⟩ :: older)/\rv=v)
  (hn:ins.length=c.np) (h:okL args->jdw args (fn.ntmps-args.length) fun t=>Ok c rest ⟨t.set d0 (.v rv),ins,[]⟩ (jxV c fn.results.toList post)):jpo (ClD c.P f u u') ins args post fun _=>False:=by
 intro w C β vals h0 h1 h2 h3 h4 h5 h6;unfold ClD
 refine callsD_of_wpS hf hb fun c0 cs hu0=>wpS_seq (wpS_region ?_)
 have hinit:=initK_iff.1 (h (jbo _ h6))
 have hinv:=jle (n:=fn.ntmps) h0 h1 h2 h3 h4 h5 h6
 have hnp:β.length=c.np:=by rw[<- h4,hn]
 generalize hA:({ tmps:=vals.toArray++Array.replicate (fn.ntmps-vals.toArray.size) undef,defers:=[] } : Act)=a0 at *
 have hsz:d0<a0.tmps.size:=by rw[<- hA];simp;omega
 obtain⟨E,hp,ht,hd⟩ := hinv
 have hi2:Inv [] (.of w) C β ⟨(args++List.replicate (fn.ntmps-args.length) A.dead).set d0 (.v rv),ins,[]⟩ (a0.put (some d0) rv) w:=by
  refine⟨E,hp,?_,hd⟩
  show A.repL _ E (a0.tmps.setIfInBounds d0 rv).toList
  rw[Array.toList_setIfInBounds];exact A.repL_set ht d0 (A.rep_v hv)
 have e0:(execOp a0.eval o0).run c.P w = .ok .recover w:=by
  simp[execOp,k0.1,resolve,invoke,Result.andThen]
  rfl
 have hrange:List.range (#[o0]:Array Oper).size=[0]:=rfl
 rw[hrange]
 have g0:(#[o0]:Array Oper)[0]? = some o0:=rfl
 have w0':∀ y,Region.wanted o0 y=true:=fun y=>by simp[Region.wanted,k0.2.1]
 simp only[wpOpsS,g0,w0',if_true,e0];unfold Ok OkD at hinit
 have fin:∀ cs',cs' = { c0 with mode:=u' } :: cs->rest.wpS c.P (bodyPostS c.P fn c0 cs fun e m w' => m=u'/\((∃ outs r v,e = .returned v/\post outs r/\Keeps β w w'/\outs.length=β.length ∧
   (∀ (i b:Nat) (cs:List A),β[i]? = some b->outs[i]? = some cs->boxAt w' ⟨jbp C w w',β,[]⟩ b cs)/\r.rep ⟨jbp C w w',β,[]⟩ v) ∨
   ∃ (ch:List PanicEntry) (ns:List Nat),e = .panicked ch/\False/\Keeps β w w'/\ns.length=β.length /\ ∀ (i b n:Nat),β[i]? = some b->ns[i]? = some n->boxAt w' ⟨C,β,[]⟩ b (List.replicate n .dead))) (a0.put (some d0) rv) cs' w:=fun cs' hcs=>by
  subst hcs;refine wpS_of_wp ?_
  refine hinit (.of w) C β _ w _ hnp hi2 (fun ch s' _ _ hh _=>absurd hh (hq ch s')) fun e s' a' w' he hi => ?_
  have ff:=fun (hr:jwp c fn.results.toList post s')=>jqW (w:=w) (C:=C) (β:=β) (fn:=fn) (post:=post) hc h1 hnp hr hi
  cases e with
  | normal=>obtain⟨q1,v,q2,q3⟩ := ff he;exact⟨q1,u',rfl,v,q2,rfl,.inl q3⟩
  | ret=>obtain⟨q1,v,q2,q3⟩ := ff he;exact⟨q1,u',rfl,v,q2,rfl,.inl q3⟩
  | _=>exact he.elim
 rcases hu with ⟨rfl,rfl,rfl⟩ | ⟨v,older,rfl,rfl,rfl⟩
 ·rw[jk4 hu0];simp only[k0.2.2];exact fin _ (by rw[<- hu0])
 ·rw[jk3 hu0];simp only[k0.2.2];exact fin _ rfl
end
end
end Go.Proofs.YtfbifdccmabdbaaGreatDoor.Vm
namespace Go.Proofs.YtfbifdccmabdbaaGreatDoor.Vm
open Go.RowKit Go.Shelf
set_option linter.unusedSimpArgs false
set_option linter.unusedVariables false
set_option maxRecDepth 100000
theorem jpR (u:Ut):jpo (ClD Tryz.prog 101 .returning .returning) [utA u,[intA 0],[intA 0]] [.box 0 0,.box 1 0,.box 2 0] (fun o r=>o=[utA u,[intA 0],[intA 0]]/\r = .tup []) fun _=>False:=by
 refine jrX (ja2 juQ (fun _=>[0,1,2]) 3) (fun _ _ h=>h) Tryz.func101 rfl (d0:=6) ⟨rfl,rfl,rfl⟩ (by decide) (rv := .nilIface) trivial (.inl ⟨rfl,rfl,rfl⟩) rfl ?_;intro _;conv=>whnf
 refine jaY (ja2 _ _ _) (by kernel_rfl) ?_;conv=>whnf
 exact⟨rfl,rfl⟩
theorem jpQ (x e:Int) (hx:okE x e) (c0 c1 c2 b1 b2:A):jpo (ClD Tryz.prog 101 (.panicking (jaE x e)) (.panicking [⟨.iface 142 (.agg #[.int .i64 x,.int .i64 e]),true,false⟩])) [[c0,c1,c2],[b1],[b2]] [.box 0 0,.box 1 0,.box 2 0]
  (fun o r=>o=[jkq,[intA x],[intA e]]/\r = .tup []) fun _=>False:=by
 obtain⟨hx,he⟩ := hx
 refine jrX (ja2 juQ (fun _=>[0,1,2]) 3) (fun _ _ h=>h) Tryz.func101 rfl (d0:=6) ⟨rfl,rfl,rfl⟩ (by decide) (rv := .iface 142 (.agg #[.int .i64 x,.int .i64 e])) trivial (.inr ⟨_,[],rfl,rfl,rfl⟩) rfl ?_;intro _;conv=>whnf
 refine jaY (ja2 _ _ _) (by kernel_rfl) ?_;conv=>whnf
 refine⟨?_,?_⟩
 ·intro u hu
  simp at hu
  rcases hu with rfl | rfl
  ·exact okV_int.2 (ja7 (by omega))
  ·exact okV_int.2 (ja7 (by omega))
 conv=>whnf
 exact⟨rfl,rfl⟩
def jwf:PU->A
 | .ok u => .tup [.agg (utA u),intA 0,intA 0]
 | .bad x e => .tup [.agg jkq,intA x,intA e]
def jzy (p:PU) (ch:List PanicEntry) (s:S):Prop := ∃ (x e:Int) (c0 c1 c2:A) (bx:List (List A)) (a b:A) (t:List A),p = .bad x e/\okE x e/\ch=jaE x e/\s.bx=jkq :: [intA 0] :: [intA 0] :: bx/\s.t=a :: b :: .box 0 0 :: .box 1 0 :: .box 2 0 :: t/\s.rw=[]
theorem jzM {l:List (List A)} {a b c d:List A} (h:l.length=4) (k:∀ j,j ≠ 3->l[j]? = [a,b,c,d][j]?):∃ d',l=[a,b,c,d']:=by
 match l,h with
 | [x,y,z,w],_ =>
  have h0:=k 0 (by decide)
  have h1:=k 1 (by decide)
  have h2:=k 2 (by decide)
  simp at h0 h1 h2
  exact⟨w,by rw[h0,h1,h2]⟩
def jil (id:Nat):Tr:=match Nat.beq id 5 with
 | true => .q 0 3 (.alt 1 2 (.alt 2 2 (.alt 3 2 (.alt 4 2 (.alt 5 2 .nil .nil) .nil) .nil) (.alt 3 2 (.alt 2 2 (.alt 4 2 (.alt 5 2 .nil .nil) .nil) (.alt 4 2 (.alt 2 2 (.alt 5 2 .nil .nil) .nil) .nil)) .nil)) (.alt 2 2 (.alt 1 2 (.alt 3 2 (.alt 4 2 (.alt 5 2 .nil .nil) .nil) .nil) (.alt 3 2 (.alt 1 2 (.alt 4 2 (.alt 5 2 .nil .nil) .nil) .nil) .nil)) (.alt 3 2 (.alt 1 2 (.alt 2 2 (.alt 4 2 (.alt 5 2 .nil .nil) .nil) (.alt 4 2 (.alt 2 2 (.alt 5 2 .nil .nil) .nil) .nil)) (.alt 2 2 (.alt 1 2 (.alt 4 2 (.alt 5 2 .nil .nil) .nil) .nil) .nil)) .nil)))
 | false => .nil
theorem jpU (s:ByteArray) (hs:s.size<=1000000000):Spec Tryz.prog 55 [] [jbm s] fun _ r=>r=jwf (jnG s):=by
 obtain⟨R,hR⟩ : ∃ R,jnG s=R:=⟨_,rfl⟩
 rw[hR]
 have htk:=jnB s hs
 have hpan:∀ (ch:List PanicEntry) (s':S),jzy R ch s'->jfo ⟨Tryz.prog,tab,jil,fun _=>[0],0,fun _ _=>False⟩ Tryz.f55.results.toList (fun _ r=>r=jwf R) [(101,[.box 0 0,.box 1 0,.box 2 0])] (.panicking ch) s':=fun ch s' hP=>by
  obtain⟨x,e,c0,c1,c2,bx,a,b,t0,hRe,hran,rfl,hbx,ht,hrw⟩ := hP
  obtain⟨t,bx',rw'⟩ := s'
  simp only at hbx hrw ht
  subst hbx hrw ht;subst hRe;unfold jfo;refine⟨(fun h=>by cases h),FrameMode.panicking [⟨.iface 142 (.agg #[.int .i64 x,.int .i64 e]),true,false⟩],?_⟩;unfold jze;refine⟨fun vs w=>rfl,[0,1,2],[],[jkq,[intA 0],[intA 0]],[.box 0 0,.box 1 0,.box 2 0],fun o r=>o=[jkq,[intA x],[intA e]]/\r = .tup [],by decide,?_,rfl,rfl,fun _=>jpQ x e hran _ _ _ _ _,?_⟩
  ·intro i hi;simp only[List.length_cons]
   simp at hi
   omega
  rintro o r ⟨rfl,rfl⟩ _;conv=>whnf
  rfl
 refine ju8 (ja2 jil (fun _=>[0]) 0) Tryz.func55 rfl (by kernel_rfl) rfl ?_;intro _;conv=>whnf
 refine jaS (ja2 jil (fun _=>[0]) 0) (dr:=[]) ⟨0,rfl⟩ (.inl rfl) (by kernel_rfl) (fun _ _ h=>h.elim) ?_;conv=>whnf
 refine jaS (ja2 jil (fun _=>[0]) 0) (dr:=[]) ⟨0,rfl⟩ (.inl rfl) (by kernel_rfl) (fun _ _ h=>h.elim) ?_;conv=>whnf
 unfold jnG at hR
 by_cases hbig:3000<s.size
 ·rw[if_pos hbig] at hR;rw[decide_eq_true (by omega)];conv=>whnf
  refine⟨.inr rfl,?_⟩;conv=>whnf
  subst hR;rfl
 rw[if_neg hbig] at hR;rw[decide_eq_false (by omega)];conv=>whnf
 refine jaS (ja2 jil (fun _=>[0]) 0) (dr:=[]) ⟨0,rfl⟩ (.inl rfl) (by kernel_rfl) (fun _ _ h=>h.elim) ?_;conv=>whnf
 refine jac [] rfl (fun _=>htk) ?_;rintro r rfl
 have htb:=fun h=>jws (s:=s) (by omega) h
 unfold jvZ
 cases herr:(jb8 s).err with
 | some pe =>
  obtain⟨p,e⟩ := pe
  rw[herr] at hR
  simp only at hR
  have hne:=(jdx (s.data.toList.length+1) 0 s.data.toList).2 p e herr
  conv=>whnf
  refine jaS (ja2 jil (fun _=>[0]) 0) (dr:=[]) ⟨0,rfl⟩ (.inl rfl) (by kernel_rfl) (fun _ _ h=>h.elim) ?_;conv=>whnf
  rw[decide_eq_false hne.2.1];conv=>whnf
  apply jrg
  ·repeat' (first | (with_reducible refine And.intro ?_ ?_) | (conv=>whnf))
  conv=>whnf
  refine⟨.inr rfl,?_⟩;conv=>whnf
  subst hR;rfl
 | none =>
  rw[herr] at hR
  simp only at hR
  have htb:=htb herr
  have hrl:=jdg herr
  rw[<- hrl]
  have hln:(jb8 s).toks.length+1=(jnm s).length:=by rw[hrl];simp
  rw[hln];generalize jnm s=T at *;conv=>whnf
  refine jaS (ja2 jil (fun _=>[0]) 0) (dr:=[]) ⟨0,rfl⟩ (.inl rfl) (by kernel_rfl) (fun _ _ h=>h.elim) ?_;conv=>whnf
  refine jrG (ja2 jil (fun _=>[0]) 0) ⟨0,rfl⟩ (fun _ _ h=>h.elim) (l:=[_]) rfl rfl rfl ?_;conv=>whnf
  have hpg:=jlJ T htb
  have hsan:=fun x e=>jtR htb (x:=x) (e:=e)
  rw[hR] at hpg;refine jaS (c:=⟨Tryz.prog,tab,jil,fun _=>[0],0,jzy R⟩) (jas _ _ _ _) ⟨3,rfl⟩ (.inr (by kernel_rfl)) (by kernel_rfl) hpan ?_;conv=>whnf
  refine jvx 3 [] rfl rfl rfl rfl (fun _=>hpg) (fun ch bx' hp hbl hbx => ?_) ?_
  ·unfold puQ at hp
   split at hp
   ·rename_i x e
    obtain⟨d',rfl⟩ := jzM hbl hbx
    exact⟨x,e,.dead,.dead,.dead,_,_,_,_,rfl,hsan _ _ hR,hp,rfl,rfl,rfl⟩
   ·exact hp.elim
  rintro o r ⟨⟨nm,ts1,ho⟩,huo⟩;cases ho;unfold uoQ at huo
  split at huo
  rotate_left
  ·exact huo.elim
  rename_i u
  subst huo;conv=>whnf
  refine joF (c:=⟨Tryz.prog,tab,jil,fun _=>[0],0,jzy (.ok u)⟩) (jas _ _ _ _) ⟨3,rfl⟩ (.inr (by kernel_rfl)) (by kernel_rfl) hpan ?_;conv=>whnf
  refine⟨.inr rfl,?_⟩;unfold jfo;refine⟨(fun h=>by cases h),FrameMode.returning,?_⟩;unfold jze;refine⟨fun vs w=>rfl,[0,1,2],[],[utA u,[intA 0],[intA 0]],[.box 0 0,.box 1 0,.box 2 0],fun o r=>o=[utA u,[intA 0],[intA 0]]/\r = .tup [],by decide,?_,rfl,rfl,fun _=>jpR u,?_⟩
  ·intro i hi;simp only[List.length_cons]
   simp at hi
   omega
  rintro o r ⟨rfl,rfl⟩ _;conv=>whnf
  rfl
def opAll:List ByteArray:=[jga,pOr,jgJ,pMinus,jdW,jbX,pLt,pLe,pGt,pGe,jyE,pNe]
def arN (k:Int) (s:ByteArray) (m:Nat):Bool :=
 if k=11 then decide (m<=3002)
 else if k=12 ∨ k=13 ∨ k=14 ∨ k=5 ∨ k=6 ∨ k=7 ∨ k=10 then decide (m=0)
 else if k=15 then decide (m=0) && builtL.any fun x=>decide (s=x)
 else if k=16 ∨ k=1 ∨ k=9 then decide (m=1)
 else if k=17 then decide (m=1) && (decide (s=pMinus) || decide (s=pNot))
 else if k=18 then decide (m=2) && opAll.any fun x=>decide (s=x)
 else if k=8 ∨ k=3 then decide (m=2)
 else if k=2 ∨ k=4 then decide (m=3)
 else false
theorem jqr {k:Int} {s:ByteArray} {m:Nat} (h:arN k s m=true):m<=3002:=by
 unfold arN at h
 repeat' split at h
 all_goals (try rw[Bool.and_eq_true] at h);(try simp only[decide_eq_true_eq] at h);(first | omega | (have:=h.1;omega) | cases h)
def isX (f:Nt):Bool:=decide (12<=f.k)
def clN (k:Int) (l:List Nt):Bool :=
 if k=11 then l.all fun f => !isX f
 else if k=2 ∨ k=3 then (l.take 1).all isX && (l.drop 1).all fun f => !isX f
 else l.all isX
mutual
def wfN:Nt->Prop
 | .mk k n s kids=>arN k s kids.length=true/\juu kids/\clN k kids=true
def juu:List Nt->Prop
 | []=>True
 | f :: l=>wfN f/\juu l
end
theorem jh7:∀ {l:List Nt} {f:Nt},juu l->f ∈ l->wfN f
 | x :: r,f,h,hf=>by
  unfold juu at h
  rcases List.mem_cons.1 hf with rfl | hf
  ·exact h.1
  ·exact jh7 h.2 hf
theorem jsI:∀ {l:List Nt},(∀ f ∈ l,wfN f)->juu l
 | [],_=>by unfold juu;trivial
 | x :: r,h=>by
  unfold juu;exact⟨h x List.mem_cons_self,jsI fun f hf=>h f (List.mem_cons_of_mem _ hf)⟩
theorem jnI {k n:Int} {s:ByteArray} {kids:List Nt} (h:arN k s kids.length=true) (hc:clN k kids=true) (hk:∀ f ∈ kids,wfN f):wfN (.mk k n s kids):=by
 unfold wfN;exact⟨h,jsI hk,hc⟩
def Wc (c:Bool) (f:Nt):Prop:=wfN f/\isX f=c
theorem wx0 {k n:Int} {s:ByteArray} (h:arN k s 0=true):wfN (.mk k n s []):=jnI h (by unfold clN;(repeat' split) <;> rfl) (by simp)
theorem jzQ {k:Int} {l:List Nt} (hk:k ≠ 11/\k ≠ 2/\k ≠ 3):clN k l=l.all isX:=by
 unfold clN;rw[if_neg hk.1,if_neg (fun h=>h.elim hk.2.1 hk.2.2)]
theorem wx1 {k n:Int} {s:ByteArray} {f:Nt} (h:arN k s 1=true) (hk:k ≠ 11/\k ≠ 2/\k ≠ 3) (hf:Wc true f):wfN (.mk k n s [f]):=jnI h (by rw[jzQ hk];simp[hf.2]) fun x hx=>by rw[List.mem_singleton.1 hx];exact hf.1
theorem jpd {f g h:Nt} (hf:wfN f) (hg:wfN g) (hh:h ∈ [f,g]):wfN h:=by
 simp only[List.mem_cons,List.not_mem_nil,or_false] at hh
 rcases hh with rfl | rfl <;> assumption
theorem jje {f g h i:Nt} (hf:wfN f) (hg:wfN g) (hh:wfN h) (hi:i ∈ [f,g,h]):wfN i:=by
 simp only[List.mem_cons,List.not_mem_nil,or_false] at hi
 rcases hi with rfl | rfl | rfl <;> assumption
theorem wx2 {k n:Int} {s:ByteArray} {f g:Nt} (h:arN k s 2=true) (hk:k ≠ 11/\k ≠ 2/\k ≠ 3) (hf:Wc true f) (hg:Wc true g):wfN (.mk k n s [f,g]):=jnI h (by rw[jzQ hk];simp[hf.2,hg.2]) fun x hx=>jpd hf.1 hg.1 hx
theorem wx3 {k n:Int} {s:ByteArray} {f g c:Nt} (h:arN k s 3=true) (hk:k ≠ 11/\k ≠ 2/\k ≠ 3) (hf:Wc true f) (hg:Wc true g) (hc:Wc true c):wfN (.mk k n s [f,g,c]):=jnI h (by rw[jzQ hk];simp[hf.2,hg.2,hc.2]) fun x hx=>jje hf.1 hg.1 hc.1 hx
theorem wi2 {n:Int} {s:ByteArray} {c b:Nt} (hc:Wc true c) (hb:Wc false b):Wc false (.mk 3 n s [c,b]):=⟨jnI rfl (by unfold clN;simp[hc.2,hb.2]) fun x hx=>jpd hc.1 hb.1 hx,rfl⟩
theorem wi3 {n:Int} {s:ByteArray} {c b o:Nt} (hc:Wc true c) (hb:Wc false b) (ho:Wc false o):Wc false (.mk 2 n s [c,b,o]):=⟨jnI rfl (by unfold clN;simp[hc.2,hb.2,ho.2]) fun x hx=>jje hc.1 hb.1 ho.1 hx,rfl⟩
theorem wbk {n:Int} {s:ByteArray} {l:List Nt} (hl:l.length<=3002) (h:∀ f ∈ l,Wc false f):Wc false (.mk 11 n s l):=⟨jnI (decide_eq_true hl) (by
 unfold clN;rw[if_pos rfl,List.all_eq_true]
 exact fun f hf=>by rw[(h f hf).2];rfl) fun f hf=>(h f hf).1,rfl⟩
mutual
def szN:Nt->Nat
 | .mk _ _ _ kids=>3+jbK kids
def jbK:List Nt->Nat
 | []=>0
 | f :: l=>szN f+jbK l
end
theorem jme (s:Nt):∀ l:List Nt,jbK (l++[s])=jbK l+szN s
 | []=>by show szN s+0=0+szN s;omega
 | f :: l=>by show szN f+jbK (l++[s])=szN f+jbK l+szN s;rw[jme s l];omega
def WP (c:Bool) (z:Nat) (op:List Tk->Pn):Prop := ∀ ts f r,ts.length<=3002->op ts = .ok f r->Wc c f /\ ∃ a,ts=a++r/\szN f<=z+9*a.length
def WPt (c:Bool) (z:Nat) (op:List Tk->Pn):Prop := ∀ ts f r,ts ≠ []->ts.length<=3002->op ts = .ok f r->Wc c f /\ ∃ a,ts=a++r/\szN f<=z+9*a.length
theorem WP.syn {c:Bool} {z:Nat} : WP c z synE:=fun ts f r _ h=>by cases h
theorem WP.bad {c:Bool} {z:Nat} (x:List Tk->Int) (y:Int):WP c z (fun ts => .bad (x ts) y):=fun ts f r _ h=>by cases h
theorem WP.t {c:Bool} {z:Nat} {op:List Tk->Pn} (h:WP c z op):WPt c z op:=fun ts f r _=>h ts f r
theorem WP.mono {c:Bool} {z y:Nat} {op:List Tk->Pn} (h:WP c z op) (hz:z<=y):WP c y op:=fun ts f r h1 h2=>by
 obtain⟨a1,a,a2,a3⟩ := h ts f r h1 h2
 exact⟨a1,a,a2,by omega⟩
theorem WP.okT {c:Bool} {z:Nat} {f:Nt} (hf:Wc c f) (hz:szN f<=z:=by first | omega | (simp only[szN,jbK,jeL];omega)):WP c z (fun r => .ok f r):=fun ts g r _ h=>by cases h;exact⟨hf,[],rfl,by simpa using hz⟩
theorem WP.andThen {c d:Bool} {z:Nat} {op:List Tk->Pn} {k:Nt->List Tk->Pn} (h1:WP c 0 op) (h2:∀ f,Wc c f->WP d (z+szN f) (k f)):WP d z (fun ts=>(op ts).andThen k):=fun ts f r hz h=>by
 cases ho:op ts with
 | bad x y=>simp only[ho] at h;cases h
 | ok g u =>
  simp only[ho] at h
  obtain⟨a1,a,a2,a3⟩ := h1 ts g u hz ho
  have hu:u.length<=3002:=by rw[a2,List.length_append] at hz;omega
  obtain⟨b1,b,b2,b3⟩ := h2 g a1 u f r hu h
  exact⟨b1,a++b,by rw[a2,b2,List.append_assoc],by rw[List.length_append];omega⟩
theorem WP.tail {c:Bool} {z:Nat} {op:List Tk->Pn} (h:WP c (z+9) op):WPt c z (fun ts=>op ts.tail):=fun ts f r hne hz ho=>by
 obtain⟨a1,a,a2,a3⟩ := h _ f r (by rw[List.length_tail];omega) ho
 cases ts with
 | nil=>exact absurd rfl hne
 | cons t ts=>exact⟨a1,t :: a,by simpa using a2,by rw[List.length_cons];omega⟩
theorem WP.itc {d:Bool} {z:Nat} (c:List Tk->Prop) [DecidablePred c] (hc : ¬ c []) {op1 op2:List Tk->Pn} (h1:WPt d z op1) (h2:WP d z op2):WP d z (fun ts=>if c ts then op1 ts else op2 ts):=fun ts f r hz h=>by
 dsimp only at h
 split at h
 ·rename_i hcc
  exact h1 ts f r (fun e=>hc (e ▸ hcc)) hz h
 ·exact h2 ts f r hz h
theorem WP.ite {d:Bool} {z:Nat} (c:List Tk->Prop) [DecidablePred c] {op1 op2:List Tk->Pn} (h1:WP d z op1) (h2:WP d z op2):WP d z (fun ts=>if c ts then op1 ts else op2 ts):=fun ts f r hz h=>by
 dsimp only at h
 split at h
 ·exact h1 ts f r hz h
 ·exact h2 ts f r hz h
theorem jcZ (s:ByteArray) : ¬ isP s []=true:=by
 unfold isP;rw[show (decide ((hd []).kind=1) || decide ((hd []).kind=3))=false from rfl,Bool.and_false];exact Bool.false_ne_true
theorem jnR (l:List ByteArray) : ¬ jmv l []=true:=fun h=>by
 obtain⟨s,-,h2⟩ := List.any_eq_true.1 h
 exact jcZ s h2
theorem WP.xpt {c:Bool} {z:Nat} (s:ByteArray) {k:List Tk->Pn} (h:WP c (z+9) k):WP c z (fun ts=>Vm.xpt s ts k):=WP.itc (fun ts=>isP s ts=true) (jcZ s) h.tail WP.syn
theorem WP.num {c:Bool} {z:Nat} (limit:Int) {k:Int->List Tk->Pn} (h:∀ n,WP c (z+9) (k n)):WP c z (fun ts=>jkt limit ts k):=fun ts f r hz ho=>by
 unfold jkt at ho
 dsimp only at ho
 split at ho
 ·cases ho
 ·rename_i h2
  split at ho
  ·cases ho
  ·exact (h _).tail ts f r (fun e=>h2 (by rw[e];decide)) hz ho
structure WPa (p:Pa):Prop where
 no:WP true 0 p.no
 un:WP true 0 p.un
 ex:WP true 0 p.ex
 bl:WP false 0 p.bl
def jvi (low:Option Pa):Prop := ∀ p,low=some p->WPa p
theorem WP.nest {low:Option Pa} (hl:jvi low):WP true 0 (jik low):=by
 cases low with
 | none=>exact WP.ite (fun ts=>isP pLp ts=true) (WP.bad _ _) WP.syn
 | some p=>exact WP.itc (fun ts=>isP pLp ts=true) (jcZ _) (((hl p rfl).ex.andThen fun n hn=>WP.xpt pRp (WP.okT hn)).tail) WP.syn
theorem WP.tok {c:Bool} {z:Nat} {op:Tk->List Tk->Pn} (h:∀ t,WP c (z+9) (op t)):WPt c z (fun ts=>op (hd ts) ts.tail):=fun ts f r hne hz ho=>(h (hd ts)).tail ts f r hne hz ho
theorem jom:jgt []=false:=rfl
theorem WP.prim {low:Option Pa} (hl:jvi low):WP true 0 (jk0 low):=by
 refine WP.ite (fun ts=>isP pLp ts=true) (WP.nest hl) <|
  WP.itc (fun ts=>isP jsD ts=true) (jcZ _) (((WP.nest hl).andThen fun n hn=>WP.okT ⟨wx1 rfl (by decide) hn,rfl⟩).tail) <|
  WP.itc (fun ts=>(hd ts).kind=2) (by decide) (WP.tok (op:=fun t r => .ok (.mk 12 t.n eB []) r) fun t=>WP.okT ⟨wx0 rfl,rfl⟩) <|
  WP.itc (fun ts=>isP jsF ts=true) (jcZ _) (WP.okT ⟨wx0 rfl,rfl⟩).tail <|
  WP.itc (fun ts=>isP jmo ts=true) (jcZ _) (WP.okT ⟨wx0 rfl,rfl⟩).tail <|
  WP.itc (fun ts=>jgt ts=true) (by rw[jom];exact Bool.false_ne_true) (WP.tok (op:=fun t r => .ok (.mk 14 0 t.text []) r) fun t=>WP.okT ⟨wx0 rfl,rfl⟩) ?_
 intro ts f r hz h
 dsimp only at h
 by_cases hb:jy9 ts=true
 ·rw[if_pos hb] at h
  cases h
  refine⟨⟨wx0 ?_,rfl⟩,?_⟩
  ·unfold jy9 at hb;rw[Bool.and_eq_true] at hb
   show (decide (0=0) && _)=true
   rw[hb.2];rfl
  ·cases ts with
   | nil=>cases hb
   | cons t ts=>exact⟨[t],rfl,by show 3+0<=0+9*1;decide⟩
 ·rw[if_neg hb] at h
  cases h
theorem jvo {s:ByteArray} (h:s=pMinus ∨ s=pNot):arN 17 s 1=true:=by
 show (decide (1=1) && (decide (s=pMinus) || decide (s=pNot)))=true
 rcases h with rfl | rfl <;> simp
theorem WP.pre (s:ByteArray) (hs:s=pMinus ∨ s=pNot) {op:Option (List Tk->Pn)} (h:∀ f,op=some f->WP true 0 f) {op2:List Tk->Pn} (h2:WP true 0 op2):WP true 0 (fun ts=>if isP s ts=true then jsX s op ts else op2 ts):=by
 cases op with
 | none=>exact WP.ite (fun ts=>isP s ts=true) (WP.bad _ _) h2
 | some f=>exact WP.itc (fun ts=>isP s ts=true) (jcZ _) (((h f rfl).andThen fun n hn=>WP.okT ⟨wx1 (jvo hs) (by decide) hn,rfl⟩).tail) h2
theorem WP.una {low:Option Pa} (hl:jvi low):WP true 0 (jjg low) :=
 WP.pre pMinus (.inl rfl) (op:=low.map fun p:Pa=>p.un) (fun f hf=>by
  cases low with
  | none=>cases hf
  | some p=>cases hf;exact (hl p rfl).un) (WP.prim hl)
theorem jqq {signs:List ByteArray} {ts:List Tk} (hs:∀ s ∈ signs,(opAll.any fun x=>decide (s=x))=true) (h:jmv signs ts=true):(opAll.any fun x=>decide ((hd ts).text=x))=true:=by
 unfold jmv at h;rw[List.any_eq_true] at h
 obtain⟨s,h1,h2⟩ := h
 unfold isP at h2;rw[Bool.and_eq_true,decide_eq_true_eq] at h2;rw[h2.1];exact hs s h1
theorem jkC {s:ByteArray} (h:(opAll.any fun x=>decide (s=x))=true):arN 18 s 2=true:=by
 show (decide (2=2) && _)=true
 rw[h];rfl
theorem WP.chn {op:List Tk->Pn} {signs:List ByteArray} (hs:∀ s ∈ signs,(opAll.any fun x=>decide (s=x))=true) (h:WP true 0 op):WP true 0 (jdq op signs):=by
 have go:∀ (n:Nat) (l:Nt),Wc true l->WP true (szN l) (jf9 op signs n l):=fun n=>by
  induction n with
  | zero=>intro l hl;exact WP.okT hl
  | succ n ih =>
   intro l hl ts f r hz ho;rw[jf9] at ho
   by_cases ha:jmv signs ts=true
   ·rw[if_pos ha] at ho;exact (h.andThen (k:=fun f r=>jf9 op signs n (.mk 18 0 (hd ts).text [l,f]) r) fun g hg=>(ih _ ⟨wx2 (jkC (jqq hs ha)) (by decide) hl hg,rfl⟩).mono (by simp only[szN,jbK];omega)).tail ts f r (fun e=>jnR signs (by rw[<- e];exact ha)) hz ho
   ·rw[if_neg ha] at ho;exact WP.okT hl (Nat.le_refl _) ts f r hz ho
 exact h.andThen (k:=fun f r=>jf9 op signs r.length f r) fun f hf ts g r hz ho=>(go _ f hf).mono (by omega) ts g r hz ho
theorem WP.sum {low:Option Pa} (hl:jvi low):WP true 0 (jwC low):=WP.chn (by decide) (WP.chn (by decide) (WP.una hl))
theorem WP.nt {low:Option Pa} (hl:jvi low):WP true 0 (ntG low) :=
 WP.pre pNot (.inr rfl) (op:=low.map fun p:Pa=>p.no) (fun f hf=>by
  cases low with
  | none=>cases hf
  | some p=>cases hf;exact (hl p rfl).no) <| (WP.sum hl).andThen fun l hw=>fun r f r' hz ho=>by
   by_cases ha:jmv cmpL r=true
   ·rw[if_pos ha] at ho;exact ((WP.sum hl).andThen (k:=fun m r' => .ok (.mk 18 0 (hd r).text [l,m]) r') fun g hg=>WP.okT ⟨wx2 (jkC (jqq (by decide) ha)) (by decide) hw hg,rfl⟩).tail r f r' (fun e=>jnR cmpL (by rw[<- e];exact ha)) hz ho
   ·rw[if_neg ha] at ho;exact WP.okT hw (by omega) r f r' hz ho
theorem WP.exp {low:Option Pa} (hl:jvi low):WP true 0 (jwZ low):=WP.chn (by decide) (WP.chn (by decide) (WP.nt hl))
theorem jtO {c:Bool} {f g:Nt} (hf:Wc c f) (hg:g ∈ [f]):Wc c g:=by rw[List.mem_singleton.1 hg];exact hf
theorem WP.stm {ex bl:List Tk->Pn} (hx:WP true 0 ex) (hb:WP false 0 bl):WP false 0 (stG ex bl):=by
 have semi:∀ (z:Nat) (f:Nt),Wc false f->szN f<=z+9->WP false z (fun r=>Vm.xpt jaR r fun r => .ok f r):=fun z f hf hz=>WP.xpt jaR (WP.okT hf hz)
 exact WP.itc (fun ts=>jgt ts=true) (by rw[jom];exact Bool.false_ne_true) (WP.tok (op:=fun t ts=>Vm.xpt pEq ts fun r=>(ex r).andThen fun e r=>Vm.xpt jaR r fun r => .ok (.mk 1 0 t.text [e]) r) fun t=>WP.xpt pEq (hx.andThen fun e he=>semi _ _ ⟨wx1 rfl (by decide) he,rfl⟩ (by simp only[szN,jbK];omega))) <|
  WP.ite (fun ts=>(hd ts).kind ≠ 1) WP.syn <|
  WP.itc (fun ts=>(hd ts).text=wIf) (by decide) ((hx.andThen fun c hc=>hb.andThen fun b hb2=>WP.itc (fun r=>isP jmn r=true) (jcZ _) ((hb.andThen fun o ho=>WP.okT (wi3 hc hb2 ho)).tail) (WP.okT (wi3 hc hb2 ⟨wx0 rfl,rfl⟩))).tail) <|
  WP.itc (fun ts=>(hd ts).text=jcU) (by decide) ((hx.andThen fun c hc=>hb.andThen fun b hb2=>WP.okT (wi2 hc hb2)).tail) <|
  WP.itc (fun ts=>(hd ts).text=jfM) (by decide) ((hx.andThen fun t ht=>WP.xpt jba (WP.num 30 fun n=>WP.xpt jba (hx.andThen fun a ha=>WP.xpt jba (hx.andThen fun b hb2=>semi _ _ ⟨wx3 rfl (by decide) ht ha hb2,rfl⟩ (by simp only[szN,jbK];omega))))).tail) <|
  WP.itc (fun ts=>(hd ts).text=jbI) (by decide) ((WP.num 8 fun n=>semi _ _ ⟨wx0 rfl,rfl⟩ (by simp only[szN,jbK];omega)).tail) <|
  WP.itc (fun ts=>(hd ts).text=jbH) (by decide) ((WP.num 8 fun n=>semi _ _ ⟨wx0 rfl,rfl⟩ (by simp only[szN,jbK];omega)).tail) <|
  WP.itc (fun ts=>(hd ts).text=jfO) (by decide) ((semi _ _ ⟨wx0 rfl,rfl⟩ (by simp only[szN,jbK];omega)).tail) <|
  WP.itc (fun ts=>(hd ts).text=jcT) (by decide) ((hx.andThen fun a ha=>WP.xpt jba (hx.andThen fun b hb2=>semi _ _ ⟨wx2 rfl (by decide) ha hb2,rfl⟩ (by simp only[szN,jbK];omega))).tail) <|
  WP.itc (fun ts=>(hd ts).text=wFail) (by decide) ((hx.andThen fun a ha=>semi _ _ ⟨wx1 rfl (by decide) ha,rfl⟩ (by simp only[szN,jbK];omega)).tail) <|
  WP.itc (fun ts=>(hd ts).text=jfN) (by decide) ((semi _ _ ⟨wx0 rfl,rfl⟩ (by simp only[szN,jbK];omega)).tail) WP.syn
theorem WP.blk {st:List Tk->Pn} (h:WP false 0 st):WP false 0 (bkF st):=by
 have go:∀ (n:Nat) (acc:List Nt),(∀ f ∈ acc,Wc false f)->acc.length+n<=3002->WP false (9+jbK acc) (jqb st n acc):=fun n=>by
  induction n with
  | zero=>intro acc ha hz ts f r _ ho;cases ho
  | succ n ih =>
   intro acc ha hz ts f r hz2 ho;rw[jqb] at ho
   by_cases hp:isP pRb ts=true
   ·rw[if_pos hp] at ho;cases ho;refine⟨wbk (by omega) ha,?_⟩
    cases ts with
    | nil=>exact absurd hp (jcZ _)
    | cons t ts=>exact⟨[t],rfl,by show 3+jbK acc<=9+jbK acc+9*1;omega⟩
   ·rw[if_neg hp] at ho
    exact h.andThen (k:=fun s r=>jqb st n (acc++[s]) r) (fun s hs=>(ih (acc++[s]) (fun f hf=>by
     rcases List.mem_append.1 hf with hf | hf
     ·exact ha f hf
     ·exact jtO hs hf) (by rw[List.length_append,List.length_singleton];omega)).mono (by rw[jme];omega)) ts f r hz2 ho
 exact WP.xpt pLb (k:=fun r=>jqb st r.length [] r) fun ts f r hz ho=>go ts.length [] (by simp) (by simpa using hz) ts f r hz ho
theorem WP.bkN:WP false 0 bkN:=WP.ite (fun ts=>isP pLb ts=true) (WP.bad _ _) WP.syn
theorem WPa.pa {low:Option Pa} (hl:jvi low):WPa (paG low) where
 no:=WP.nt hl
 un:=WP.una hl
 ex:=WP.exp hl
 bl:=WP.blk (WP.stm (WP.exp hl) (by
  cases low with
  | none=>exact WP.bkN
  | some p=>exact (hl p rfl).bl))
theorem wpa:∀ n,WPa (pa n)
 | 0=>WPa.pa fun p h=>by cases h
 | n+1=>WPa.pa fun p h=>by cases h;exact wpa n
def szH:List (Int × Nt)->Nat
 | []=>0
 | h :: r=>szN h.2+1+szH r
structure WfU (u:Ut):Prop where
 du:u.du.length+u.vo.length<=16
 on:∀ h ∈ u.on,0<=h.1/\h.1<40/\wfN h.2
 st:∀ h ∈ u.on,isX h.2=false
 nd:u.on.Pairwise fun a b=>a.1 ≠ b.1
 ol:u.on.length<=4000
mutual
def toD:Nt->Nd
 | .mk k n s kids => .mk k n s (jv9 kids)
def jv9:List Nt->List Nd
 | []=>[]
 | f :: l=>toD f :: jv9 l
end
theorem jpb:∀ l:List Nt,jv9 l=l.map toD
 | []=>rfl
 | f :: l=>by rw[jv9,jpb l];rfl
def toU (u:Ut):Un:=⟨u.du,u.vo,u.on.map fun h=>(h.1,toD h.2)⟩
def jx9 (C D:Rd):Prop := ∀ b o u,C ⟨b,o,none⟩ = some u->D ⟨b,o,none⟩ = some u
theorem jdZ {E:Env} {b:Nat} : ∀ {l m:List A} {off:Nat},A.repAt (l++m) E b off ↔ A.repAt l E b off/\A.repAt m E b (off+l.length)
 | [],m,off=>by simp[A.repAt]
 | a :: r,m,off=>by
  simp only[List.cons_append,A.repAt];rw[jdZ (l:=r)];simp only[List.length_cons,Nat.add_assoc,Nat.add_comm 1]
  constructor
  ·rintro⟨h1,h2,h3⟩;exact⟨⟨h1,h2⟩,h3⟩
  ·rintro⟨⟨h1,h2⟩,h3⟩;exact⟨h1,h2,h3⟩
theorem js6 {E:Env} {n:Int} {u:Value} : (A.v (.int .i64 n)).rep E u ↔ u = .int .i64 n/\(-9223372036854775808<=n/\n<=9223372036854775807):=by
 rw[A.rep_v_iff]
 constructor
 ·rintro⟨h1,h2⟩;exact⟨h1,okV_int.1 h2⟩
 ·rintro⟨h1,h2⟩;exact⟨h1,okV_int.2 h2⟩
theorem rep_vsC {E:Env} {n:ByteArray} {u:Value} : (A.v (.string n)).rep E u ↔ u = .string n/\n.size<=maxLen:=by
 rw[A.rep_v_iff];exact Iff.rfl
mutual
theorem jym:∀ (t:Nt) {E:Env} {D:Rd} {v:Value},jx9 E.C D->wfN t->(A.agg (nt0 t)).rep E v->(toD t).At D v
 | .mk k n s kids,E,D,v,hD,hs,h=>by
  unfold wfN at hs
  have hl:kids.length<=3002:=jqr hs.1
  unfold A.rep nt0 at h
  obtain⟨us,rfl,h⟩ := h
  obtain⟨us⟩ := us
  simp only[A.repC] at h
  obtain⟨_,_,rfl,-,g1,_,_,rfl,-,g2,_,_,rfl,-,g3,_,_,rfl,-,g4,rfl⟩ := h
  unfold intA at g1 g2;unfold jbm at g3;rw[js6] at g1 g2;rw[rep_vsC] at g3
  obtain⟨rfl,g1⟩ := g1
  obtain⟨rfl,g2⟩ := g2
  obtain⟨rfl,g3⟩ := g3
  unfold A.rep at g4
  obtain⟨_,_,p,b,off,cap,rfl,h6,h7,h8,h9⟩ := g4
  unfold toD Nd.At
  have hlen:(jv9 kids).length=kids.length:=by rw[jpb,List.length_map]
  rw[hlen];refine⟨g1,g2,g3,by omega,p,b,off,cap,rfl,h6,?_,h8,jyn kids (E:=E.per) hD hs.2.1 h9⟩
  rcases h7 with h7 | h7
  ·exact .inl (List.eq_nil_of_length_eq_zero (by rw[hlen];exact h7))
  ·exact .inr h7
theorem jyn:∀ (l:List Nt) {E:Env} {D:Rd} {b off:Nat},jx9 E.C D->juu l->A.repAt (jw6 l) E b off->Nd.In D b (jv9 l) off
 | [],_,_,_,_,_,_,_=>by unfold jv9 Nd.In;trivial
 | t :: ts,E,D,b,off,hD,hs,h=>by
  unfold juu at hs;unfold jw6 at h
  have hl4:(nt0 t).length=4:=by rw[jrz];rfl
  rw[jdZ,hl4] at h
  obtain⟨h1,h2⟩ := h
  unfold jv9 Nd.In;refine⟨?_,jyn ts hD hs.2 h2⟩
  obtain⟨us,k1,k2⟩ := A.repAt_vals h1
  have hl:=A.repC_len k1
  rw[hl4] at hl
  match us,hl,k1,k2 with
  | [v0,v1,v2,v3],_,k1,k2 =>
   refine⟨v0,v1,v2,v3,hD _ _ _ (k2 0 v0 rfl),hD _ _ _ (k2 1 v1 rfl),hD _ _ _ (k2 2 v2 rfl),hD _ _ _ (k2 3 v3 rfl),jym t (E:=E) hD hs.1 ?_⟩;unfold A.rep;exact⟨_,rfl,k1⟩
end
theorem jj6 {α:Type} {E:Env} {b:Nat} (f:α->Value) (hf:∀ x,(f x).oneCell'=true):∀ {l:List α} {off:Nat},A.repAt (l.map fun x => .v (f x)) E b off ↔ ∀ i (hi:i<l.length),E.C ⟨b,off+i,none⟩ = some (f l[i])/\okV (f l[i])
 | [],off=>by simp[A.repAt]
 | x :: l,off=>by
  simp only[List.map_cons,A.repAt];rw[jj6 f hf (l:=l)]
  constructor
  ·rintro⟨⟨u,h1,-,h3⟩,h4⟩ i hi;rw[A.rep_v_iff] at h3
   cases i with
   | zero=>rw[Nat.add_zero,h1,h3.1];exact⟨rfl,h3.2⟩
   | succ i =>
    have:=h4 i (by simpa using hi)
    rw[show off+(i+1)=off+1+i by omega];exact this
  ·intro h;refine⟨⟨f x,by have:=(h 0 (by simp)).1;simpa using this,hf x,A.rep_v_iff.2 ⟨rfl,(h 0 (by simp)).2⟩⟩,fun i hi => ?_⟩
   have:=h (i+1) (by simpa using hi)
   rw[show off+1+i=off+(i+1) by omega];exact this
theorem joW {E:Env} {D:Rd} {v:Value} {l:List ByteArray} (hD:jx9 E.C D) (hl:l.length<=1000000000) (h:(A.sl 1 l.length (txA l)).rep E v):StrsAt D v l:=by
 unfold txA jbm at h;unfold A.rep at h
 obtain⟨_,_,p,b,off,cap,rfl,h6,h7,h8,h9⟩ := h
 have h9:=(jj6 (E:=E.per) Value.string (fun _=>rfl)).1 h9
 refine⟨hl,fun s hs => ?_,p,b,off,cap,rfl,h6,?_,h8,fun i hi => ?_⟩
 ·obtain⟨i,hi,rfl⟩ := List.mem_iff_getElem.1 hs
  exact (h9 i hi).2
 ·rcases h7 with h7 | h7
  ·exact .inl (List.eq_nil_of_length_eq_zero h7)
  ·exact .inr h7
 ·have:=(h9 i hi).1
  simp[List.getD_eq_getElem?_getD,hi]
  exact hD _ _ _ this
theorem jj5 {α:Type} {E:Env} {b k:Nat} (f:α->List A) (hf:∀ x,(f x).length=k):∀ {l:List α} {off:Nat},A.repAt (l.flatMap f) E b off ↔ ∀ i (hi:i<l.length),A.repAt (f l[i]) E b (off+i*k)
 | [],off=>by simp[A.repAt]
 | x :: l,off=>by
  rw[List.flatMap_cons,jdZ,jj5 f hf (l:=l),hf]
  constructor
  ·rintro⟨h1,h2⟩ i hi
   cases i with
   | zero=>simpa using h1
   | succ i =>
    have:=h2 i (by simpa using hi)
    rw[show off+(i+1)*k=off+k+i*k by rw[Nat.add_mul];omega];exact this
  ·intro h;refine⟨by have:=h 0 (by simp);rw[Nat.zero_mul,Nat.add_zero] at this;exact this,fun i hi => ?_⟩
   have:=h (i+1) (by simpa using hi)
   rw[show off+k+i*k=off+(i+1)*k by rw[Nat.add_mul];omega];exact this
theorem juW {E:Env} {D:Rd} {v:Value} {u:Ut} (hD:jx9 E.C D) (hs:WfU u) (h:(A.agg (utA u)).rep E v):UnAt D v (toU u):=by
 unfold A.rep utA at h
 obtain⟨us,rfl,h⟩ := h
 obtain⟨us⟩ := us
 simp only[A.repC] at h
 obtain⟨dv,_,rfl,-,g1,vv,_,rfl,-,g2,ov,_,rfl,-,g3,rfl⟩ := h
 refine⟨dv,vv,ov,rfl,joW (l:=u.du) hD (by have:=hs.du;omega) g1,joW (l:=u.vo) hD (by have:=hs.du;omega) g2,?_⟩;unfold A.rep at g3
 obtain⟨_,_,p,b,off,cap,rfl,h6,h7,h8,h9⟩ := g3
 have hlen:(toU u).on.length=u.on.length:=List.length_map ..
 unfold HsAt;rw[hlen];refine⟨by have:=hs.ol;omega,p,b,off,cap,rfl,h6,?_,h8,fun i hi => ?_⟩
 ·rcases h7 with h7 | h7
  ·exact .inl (List.eq_nil_of_length_eq_zero (by rw[hlen];exact h7))
  ·exact .inr h7
 ·rw[hlen] at hi
  have hon:(toU u).on[i]=(u.on[i].1,toD u.on[i].2):=by simp[toU]
  rw[hon];unfold jjL at h9
  have h10:=(jj5 (E:=E.per) (k:=5) hnA (fun _=>rfl)).1 h9 i hi
  obtain⟨us,k1,k2⟩ := A.repAt_vals h10
  have hl:=A.repC_len k1
  rw[show (hnA u.on[i]).length=5 from rfl] at hl
  match us,hl,k1,k2 with
  | [v0,v1,v2,v3,v4],_,k1,k2 =>
   unfold hnA intA A.repC at k1
   obtain⟨_,_,e,-,g1,k3⟩ := k1
   cases e
   rw[js6] at g1
   obtain⟨rfl,g4,g5⟩ := g1
   refine⟨g4,g5,v1,v2,v3,v4,hD _ _ _ (k2 0 _ rfl),hD _ _ _ (k2 1 v1 rfl),hD _ _ _ (k2 2 v2 rfl),hD _ _ _ (k2 3 v3 rfl),hD _ _ _ (k2 4 v4 rfl),jym u.on[i].2 (E:=E) hD (hs.on _ (List.getElem_mem hi)).2.2 ?_⟩;unfold A.rep;rw[jrz];exact⟨_,rfl,A.repC.mono _ E.per_le k3⟩
theorem joB {w:World} {C:Rd} (h:Sub C (see w)):jx9 C w.cell? := fun b o u hc=>h _ _ hc
def ixU (u:Ut) (s:ByteArray):Int:=jcM u.du u.vo s
theorem jyS (u:Ut) (hu:WfU u):Spec Tryz.prog 28 [] [.agg (utA u)] fun _ r=>r=intA (jf8 (toU u)):=by
 refine jfE (jeM Tryz.func28 rfl (by kernel_rfl)) fun w C vals h0 h1 h2 => ?_
 unfold A.repL at h2
 obtain⟨v,us,rfl,h2,h3⟩ := h2
 unfold A.repL at h3;subst h3;refine (jqI (toU u) v w (juW (joB h1) hu h2)).mono ?_;rintro e w' ⟨rfl,hx⟩;exact⟨_,rfl,hx,A.rep_v (okV_int.2 (by unfold jf8;split <;> decide))⟩
theorem joO (l:List ByteArray) (s:ByteArray) : -1<=jh2 l s/\jh2 l s<=l.length:=by
 have:=jnj l s
 omega
theorem jvV {u:Ut} (hu:WfU u) (s:ByteArray) : -1<=ixU u s/\ixU u s<=100:=by
 have h1:=joO u.du s
 have h2:=joO u.vo s
 have h3:=hu.du
 unfold ixU jcM
 repeat' split
 all_goals omega
theorem jyT (u:Ut) (hu:WfU u) (s:ByteArray):Spec Tryz.prog 62 [] [.agg (utA u),jbm s] fun _ r=>r=intA (ixU u s):=by
 have hb:=jvV hu s
 refine jfE (jeM Tryz.func62 rfl (by kernel_rfl)) fun w C vals h0 h1 h2 => ?_
 unfold A.repL at h2
 obtain⟨v,us,rfl,h2,h3⟩ := h2
 unfold A.repL at h3
 obtain⟨v2,us2,rfl,h3,h4⟩ := h3
 unfold A.repL at h4;subst h4
 obtain⟨rfl,-⟩ := rep_vsC.1 h3
 obtain⟨dv,vv,ov,rfl,g1,g2,g3⟩ := juW (joB h1) hu h2
 refine (jla dv vv ov u.du u.vo s w g1 g2).mono ?_;rintro e w' ⟨rfl,hx⟩;exact⟨_,rfl,hx,A.rep_v (by have h:=(okA_int (n:=ixU u s)).2 (by omega);unfold okA at h;exact h)⟩
theorem jok (x:Int × Nt):∀ l:List (Int × Nt),(jtz x l).Perm (x :: l)
 | [] => .refl _
 | y :: l=>by
  rw[jtz]
  split
  ·exact .refl _
  ·exact ((jok x l).cons y).trans (.swap x y l)
theorem jdi:∀ l:List (Int × Nt),(jfD l).Perm l
 | [] => .refl _
 | x :: l=>(jok x (jfD l)).trans ((jdi l).cons x)
theorem juj {l m:List (Int × Nt)} (h:l.Perm m):szH l=szH m:=by
 induction h with
 | nil=>rfl
 | cons x _ ih=>show _+szH _=_+szH _;rw[ih]
 | swap x y l=>show szN y.2+1+(szN x.2+1+szH l)=szN x.2+1+(szN y.2+1+szH l);omega
 | trans _ _ i j=>exact i.trans j
theorem jp8 (x:Int × Nt):∀ l:List (Int × Nt),szH (l++[x])=szH l+(szN x.2+1)
 | []=>by show szN x.2+1+0=0+(szN x.2+1);omega
 | f :: l=>by show szN f.2+1+szH (l++[x])=szN f.2+1+szH l+(szN x.2+1);rw[jp8 x l];omega
structure WfH (l:List (Int × Nt)):Prop where
 on:∀ h ∈ l,0<=h.1/\h.1<40/\wfN h.2
 st:∀ h ∈ l,isX h.2=false
 nd:l.Pairwise fun a b=>a.1 ≠ b.1
theorem WfH.sort {l:List (Int × Nt)} (h:WfH l):WfH (jfD l) where
 on:=fun x hx=>h.on x ((jdi l).mem_iff.1 hx)
 st:=fun x hx=>h.st x ((jdi l).mem_iff.1 hx)
 nd:=((jdi l).pairwise_iff (fun {a b} hab=>fun e=>hab e.symm)).2 h.nd
def TkN (ts:List Tk):Prop := ∀ t ∈ ts,0<=t.n
theorem TkN.suf {a r:List Tk} (h:TkN (a++r)):TkN r:=fun t ht=>h t (List.mem_append_right _ ht)
theorem TkN.tail {ts:List Tk} (h:TkN ts):TkN ts.tail:=fun t ht=>h t (List.mem_of_mem_tail ht)
theorem TkN.hd {ts:List Tk} (h:TkN ts):0<=(Vm.hd ts).n:=by
 cases ts with
 | nil=>exact Int.le_refl 0
 | cons t ts=>exact h t List.mem_cons_self
theorem jzZ {ts r:List Tk} {n:Int} (hz:TkN ts) (h:hnF ts = .ok n r):0<=n/\n<40 /\ ∃ a,ts=a++r:=by
 have suf:∀ ts:List Tk,∃ a,ts=a++ts.tail:=fun ts=>by
  cases ts with
  | nil=>exact⟨[],rfl⟩
  | cons t ts=>exact⟨[t],rfl⟩
 have num:∀ (limit off:Int) (q:List Tk),TkN q->jqc limit off q = .ok n r->off<=n/\n<off+limit /\ ∃ a,q=a++r:=fun limit off q hq h=>by
  unfold jqc at h
  split at h
  ·cases h
  ·split at h
   ·cases h
   ·cases h
    have:=hq.hd
    exact⟨by omega,by omega,suf q⟩
 obtain⟨a,ha⟩ := suf ts
 unfold hnF at h
 split at h
 ·cases h;exact⟨by omega,by omega,suf ts⟩
 ·split at h
  ·cases h;exact⟨by omega,by omega,suf ts⟩
  ·split at h
   ·obtain⟨h1,h2,b,h3⟩ := num 8 2 _ hz.tail h
    exact⟨by omega,by omega,a++b,by rw[List.append_assoc,<- h3];exact ha⟩
   ·split at h
    ·obtain⟨h1,h2,b,h3⟩ := num 30 10 _ hz.tail h
     exact⟨by omega,by omega,a++b,by rw[List.append_assoc,<- h3];exact ha⟩
    ·cases h
theorem jy5 (du vo:List ByteArray) (hn:du.length+vo.length<=16):∀ (n:Nat) (hs:List (Int × Nt)) (ts:List Tk) (u:Ut),szH hs+10*ts.length<=40000->TkN ts->ts.length<=3002->hs.length+n<=4000->WfH hs->jtv du vo n hs ts = .ok u->WfU u/\szH u.on<=40000
 | 0,hs,ts,u,_,_,_,_,_,h=>by cases h
 | n+1,hs,ts,u,hs0,hz,hl,hb,hw,h=>by
  rw[jtv] at h
  split at h
  ·cases h
   exact⟨⟨hn,hw.sort.on,hw.sort.st,hw.sort.nd,by show (jfD hs).length<=_;rw[(jdi hs).length_eq];omega⟩,by show szH (jfD hs)<=_;rw[juj (jdi hs)];omega⟩
  ·split at h
   ·cases h
   ·rename_i hon
    have hne:ts ≠ []:=fun e=>hon (by rw[e];exact Bool.eq_false_iff.2 (jcZ _))
    cases hh:hnF ts.tail with
    | bad x y=>rw[hh] at h;cases h
    | ok k r =>
     rw[hh] at h
     obtain⟨k0,k1,a,ha⟩ := jzZ hz.tail hh
     dsimp only at h
     split at h
     ·cases h
     ·rename_i hdup
      cases hbl:(pa 19).bl r with
      | bad x y=>rw[hbl] at h;cases h
      | ok b r2 =>
       rw[hbl] at h
       have hr:r.length<=3002:=by
        have:=congrArg List.length ha
        rw[List.length_append,List.length_tail] at this;omega
       obtain⟨wb,a2,ha2,hsb⟩ := (wpa 19).bl r b r2 hr hbl
       have hzr:TkN r:=by
        have h1:=hz.tail
        rw[ha] at h1;exact h1.suf
       refine jy5 du vo hn n (hs++[(k,b)]) r2 u (by
        have h1:=congrArg List.length ha
        have h2:=congrArg List.length ha2
        have h3:=List.length_pos_iff.2 hne
        rw[List.length_append] at h1 h2;rw[List.length_tail] at h1;rw[jp8]
        show szH hs+(szN b+1)+_<=_
        omega) (by rw[ha2] at hzr;exact hzr.suf) (by
        rw[ha2,List.length_append] at hr;omega) (by rw[List.length_append,List.length_singleton];omega) ?_ h
       refine⟨fun x hx => ?_,fun x hx => ?_,List.pairwise_append.2 ⟨hw.nd,List.pairwise_singleton _ _,fun x hx y hy => ?_⟩⟩
       ·rcases List.mem_append.1 hx with hx | hx
        ·exact hw.on x hx
        ·rw[List.mem_singleton.1 hx];exact⟨k0,k1,wb.1⟩
       ·rcases List.mem_append.1 hx with hx | hx
        ·exact hw.st x hx
        ·rw[List.mem_singleton.1 hx];exact wb.2
       ·rw[List.mem_singleton.1 hy];intro e;refine hdup ?_;rw[List.any_eq_true];exact⟨x,hx,decide_eq_true e⟩
theorem jvA:∀ (n:Nat) (names out:List ByteArray) (ts:List Tk) (names' out':List ByteArray) (r:List Tk),names.length<=16->jkQ n names out ts = .ok names' out' r->names'.length<=16/\names'.length+out.length=names.length+out'.length /\ ∃ a,ts=a++r
 | 0,names,out,ts,names',out',r,_,h=>by cases h
 | n+1,names,out,ts,names',out',r,hl,h=>by
  have suf:∀ ts:List Tk,∃ a,ts=a++ts.tail:=fun ts=>by
   cases ts with
   | nil=>exact⟨[],rfl⟩
   | cons t ts=>exact⟨[t],rfl⟩
  obtain⟨a1,h1⟩ := suf ts
  obtain⟨a2,h2⟩ := suf ts.tail
  obtain⟨a3,h3⟩ := suf ts.tail.tail
  rw[jkQ] at h
  split at h
  ·cases h
  ·split at h
   ·cases h
   ·split at h
    ·cases h
    ·split at h
     ·obtain⟨g1,g2,b,g3⟩ := jvA n _ _ _ _ _ _ (by rw[List.length_append,List.length_singleton];omega) h
      rw[List.length_append,List.length_append,List.length_singleton] at g2;exact⟨g1,by omega,a1++(a2++b),by rw[List.append_assoc,List.append_assoc,<- g3,<- h2];exact h1⟩
     ·split at h
      ·cases h
       refine⟨by rw[List.length_append,List.length_singleton];omega,by rw[List.length_append,List.length_append,List.length_singleton];omega,a1++(a2++a3),by rw[List.append_assoc,List.append_assoc,<- h3,<- h2];exact h1⟩
      ·cases h
theorem jvz:∀ (n:Nat) (names du vo:List ByteArray) (ts:List Tk) (u:Ut),TkN ts->ts.length<=3002->names.length<=16->names.length=du.length+vo.length->jtl n names du vo ts = .ok u->WfU u/\szH u.on<=40000
 | 0,names,du,vo,ts,u,_,_,_,_,h=>by cases h
 | n+1,names,du,vo,ts,u,hz,hl,hn,he,h=>by
  rw[jtl] at h
  split at h
  ·cases hd:jkQ ts.length names [] ts with
   | bad x y=>rw[hd] at h;cases h
   | ok names' out r =>
    rw[hd] at h
    obtain⟨g1,g2,b,g3⟩ := jvA _ _ _ _ _ _ _ hn hd
    rw[List.length_nil] at g2;rw[g3] at hz hl;exact jvz n names' (du++out) vo r u hz.suf (by rw[List.length_append] at hl;omega) g1 (by rw[List.length_append];omega) h
  ·split at h
   ·cases hd:jkQ ts.length names [] ts with
    | bad x y=>rw[hd] at h;cases h
    | ok names' out r =>
     rw[hd] at h
     obtain⟨g1,g2,b,g3⟩ := jvA _ _ _ _ _ _ _ hn hd
     rw[List.length_nil] at g2;rw[g3] at hz hl;exact jvz n names' du (vo++out) r u hz.suf (by rw[List.length_append] at hl;omega) g1 (by rw[List.length_append];omega) h
   ·exact jy5 du vo (by omega) _ [] ts u (by show 0+_<=_;omega) hz hl (by simp;omega) ⟨by simp,by simp,.nil⟩ h
theorem jwN {s:ByteArray} {u:Ut} (h:jnG s = .ok u):WfU u/\szH u.on<=40000:=by
 unfold jnG at h
 split at h
 ·cases h
 ·rename_i hsz
  cases he:(jb8 s).err with
  | some p=>rw[he] at h;cases h
  | none =>
   rw[he] at h
   have hok:=jwq s (by omega)
   have hlen:(jnm s).length<=3002:=by
    have h1:=(jdx (s.data.toList.length+1) 0 s.data.toList).1
    rw[jdg he,List.length_append,List.length_singleton]
    have h2:(jb8 s).toks.length<=s.data.toList.length:=h1
    rw[jbc] at h2;omega
   refine jvz _ [] [] [] (jnm s) u (fun t ht => ?_) hlen (by simp) rfl h
   rcases hok t ht with h3 | h3
   ·exact h3.2.2.2.1
   ·rw[h3.2.2.2];exact Int.le_refl 0
abbrev Ic:=Int × Int
def icA (i:Ic):List A:=[intA i.1,intA i.2]
@[irreducible] def jaJ (l:List Ic):List A:=l.flatMap icA
theorem jdu:jaJ []=[]:=by unfold jaJ;rfl
theorem jb3 (l m:List Ic):jaJ (l++m)=jaJ l++jaJ m:=by unfold jaJ;rw[List.flatMap_append]
theorem jcb (i:Ic):jaJ [i]=icA i:=by unfold jaJ;rw[List.flatMap_cons,List.flatMap_nil,List.append_nil]
theorem jav (l:List Ic) (a b:Int):jaJ (l++[(a,b)])=jaJ l++[intA a,intA b]:=by rw[jb3,jcb];rfl
theorem jfg (l:List Ic):jaJ l=l.flatMap icA:=by unfold jaJ;rfl
theorem jcz (l:List Ic) (i:Nat) (hi:i<l.length):ja5 2 i (jaJ l)=icA l[i]:=by rw[jfg];exact jcn icA (fun _=>rfl) l i hi
theorem jfh (l:List Ic):(jaJ l).length=l.length*2:=by
 rw[jfg]
 induction l with
 | nil=>rfl
 | cons a l ih=>rw[List.flatMap_cons,List.length_append,ih,List.length_cons];simp only[icA,List.length_cons,List.length_nil];omega
def noI:Int->List Ic:=fun _=>[]
def brC (c y n:Int->List Ic) (at':Int):List Ic :=
 let l:=c at'
 let f:=at'+l.length+1+(y (at'+l.length+1)).length+1
 l++(16,f) :: (y (at'+l.length+1)++(15,f+(n f).length) :: n f)
def jc9:List (Int->List Ic)->Int->List Ic
 | [],_=>[]
 | g :: r,at' => g at'++jc9 r (at'+(g at').length)
def biF (s:ByteArray):Int:=match builtL.findIdx? (fun x=>decide (x=s)) with
 | some i=>i
 | none => -1
def opC (s:ByteArray):List Ic :=
 if s=jgJ then [(6,0)] else if s=pMinus then [(7,0)] else if s=jdW then [(8,0)] else if s=jbX then [(9,0)]
 else if s=pLt then [(11,0)] else if s=pLe then [(12,0)] else if s=jyE then [(13,0)] else if s=pGt then [(12,0),(14,0)]
 else if s=pGe then [(11,0),(14,0)] else [(13,0),(14,0)]
def jcW (ix:ByteArray->Int) (k n:Int) (s:ByteArray) (g:List (Int->List Ic)) (at':Int):List Ic :=
 if k=12 ∨ k=13 then [(1,n)]
 else if k=14 then [(2,ix s)]
 else if k=15 then [(4,biF s)]
 else if k=2 then brC (g.getD 0 noI) (g.getD 1 noI) (g.getD 2 noI) at'
 else if k=5 then [(18,n)]
 else if k=6 then [(19,n)]
 else if k=7 then [(20,0)]
 else if k=10 then [(23,0)]
 else if k=3 then
  let c:=(g.getD 0 noI) at'
  let b:=(g.getD 1 noI) (at'+c.length+1)
  c++(16,at'+c.length+b.length+2) :: (b++[(15,at')])
 else if k=18/\s=jga then brC (g.getD 0 noI) (g.getD 1 noI) (fun _=>[(1,0)]) at'
 else if k=18/\s=pOr then brC (g.getD 0 noI) (fun _=>[(1,1)]) (g.getD 1 noI) at'
 else jc9 g at'++(if k=18 then opC s else if k=16 then [(5,0)] else if k=17 then (if s=pMinus then [(10,0)] else [(14,0)]) else if k=1 then [(3,ix s)] else if k=4 then [(17,n)] else if k=8 then [(21,0)] else if k=9 then [(22,0)] else [])
mutual
def jal (ix:ByteArray->Int):Nt->Int->List Ic
 | .mk k n s kids,at' => jcW ix k n s (jaf ix kids) at'
def jaf (ix:ByteArray->Int):List Nt->List (Int->List Ic)
 | []=>[]
 | f :: l=>jal ix f :: jaf ix l
end
theorem jcj (ix:ByteArray->Int):∀ l:List Nt,jaf ix l=l.map (jal ix)
 | []=>rfl
 | f :: l=>by rw[jaf,jcj ix l];rfl
def jay (k:Int):Int:=if k=3 ∨ k=5 ∨ k=10 ∨ k=14 ∨ k=16 ∨ k=22 then 1 else if 6<=k/\k<=9 ∨ 11<=k/\k<=13 ∨ k=21 then 2 else if k=17 then 3 else 0
def jad (k:Int):Int:=if k=1 ∨ k=2 ∨ 4<=k/\k<=14 then 1 else 0
def nxI (a:Int) (i:Ic):List Int:=if i.1=23 then [] else if i.1=15 then [i.2] else if i.1=16 then [a+1,i.2] else [a+1]
structure Fs where
 dm:List (Int × Int)
 wk:List Int
 er:Bool
def dF (dm:List (Int × Int)) (k:Int):Option Int:=(dm.find? fun p=>decide (k=p.1)).map (·.2)
def jcI (n:Nat) (af:Int) (s:Fs) (k:Int):Option Fs :=
 if (n:Int)<=k then none else match dF s.dm k with
 | some d=>some ⟨s.dm,s.wk,s.er || decide (d ≠ af)⟩
 | none=>some ⟨s.dm++[(k,af)],s.wk++[k],s.er⟩
def jb0 (n:Nat) (af:Int):List Int->Fs->Option Fs
 | [],s=>some s
 | k :: l,s=>match jcI n af s k with
  | none=>none
  | some s' => jb0 n af l s'
def afF (code:List Ic) (dm:List (Int × Int)) (a:Int):Int:=(dF dm a).getD 0-jay (code.getD a.toNat (0,0)).1+jad (code.getD a.toNat (0,0)).1
def jqa (code:List Ic) (dm:List (Int × Int)) (a:Int):Bool:=decide ((dF dm a).getD 0<jay (code.getD a.toNat (0,0)).1) || decide (16<afF code dm a)
def jm9 (code:List Ic) (dm:List (Int × Int)) (wk:List Int) (er:Bool) (a:Int):Option Fs :=
 jb0 code.length (afF code dm a) (nxI a (code.getD a.toNat (0,0))) ⟨dm,wk,er || jqa code dm a⟩
def jtu (er:Bool):Int:=if er=true then 13 else 0
def jvK (code:List Ic):Nat->Fs->Int
 | 0,s=>jtu s.er
 | m+1,s=>match s.wk.getLast? with
  | none=>jtu s.er
  | some a=>match jm9 code s.dm s.wk.dropLast s.er a with
   | none=>12
   | some s' => jvK code m s'
def jb7 (code:List Ic) (entry:Int):Int:=if entry<0 then 0 else jvK code (code.length+1) ⟨[(entry,0)],[entry],false⟩
def jf5 (code:List Ic):Prop := ∀ i ∈ code,i.1=15 ∨ i.1=16->0<=i.2
structure jmt (n:Nat) (s:Fs):Prop where
 rng:∀ p ∈ s.dm,0<=p.1/\p.1<n
 nd:(s.dm.map (·.1)).Nodup
 wk:∀ k ∈ s.wk,∃ d,(k,d) ∈ s.dm
 dep:∀ p ∈ s.dm,-(3*(s.dm.length:Int))<=p.2/\p.2<=3*s.dm.length
theorem jkP {dm:List (Int × Int)} {k d:Int} (h:dF dm k=some d):(k,d) ∈ dm:=by
 unfold dF at h
 cases hf:dm.find? (fun p=>decide (k=p.1)) with
 | none=>rw[hf] at h;cases h
 | some p =>
  rw[hf] at h
  cases h
  have h1:=List.find?_some hf
  have h2:=List.mem_of_find?_eq_some hf
  rw[decide_eq_true_eq] at h1;rw[h1];exact h2
theorem jmR {dm:List (Int × Int)} {k d:Int} (h:(k,d) ∈ dm):∃ d',dF dm k=some d':=by
 unfold dF
 cases hf:dm.find? (fun p=>decide (k=p.1)) with
 | none=>rw[List.find?_eq_none] at hf;exact absurd (hf _ h) (by simp)
 | some p=>exact⟨_,rfl⟩
theorem jqO {dm:List (Int × Int)} {k:Int} (h:dF dm k=none):∀ p ∈ dm,k ≠ p.1:=by
 unfold dF at h;rw[Option.map_eq_none_iff,List.find?_eq_none] at h
 exact fun p hp=>by simpa using h p hp
theorem jgw:∀ (n:Nat) (l:List Int),l.Nodup->(∀ a ∈ l,0<=a/\a<(n:Int))->l.length<=n
 | 0,l,_,h=>by
  cases l with
  | nil=>exact Nat.le_refl _
  | cons a l=>have:=h a List.mem_cons_self;omega
 | n+1,l,hn,h=>by
  have h1:(l.erase (n:Int)).length<=n:=jgw n (l.erase (n:Int)) (hn.erase _) fun a ha=>by
   have h2:=h a (List.mem_of_mem_erase ha)
   have h3:a ≠ n:=(hn.mem_erase_iff.1 ha).1
   omega
  rw[List.length_erase] at h1
  split at h1 <;> omega
theorem jbf {n:Nat} {dm:List (Int × Int)} (h:∀ p ∈ dm,0<=p.1/\p.1<(n:Int)) (hn:(dm.map (·.1)).Nodup):dm.length<=n:=by
 have:=jgw n _ hn fun a ha=>by
  obtain⟨p,hp,rfl⟩ := List.mem_map.1 ha
  exact h p hp
 simpa using this
theorem jbg {n:Nat} {af k:Int} {s s':Fs} (h:jmt n s) (hk:0<=k) (ha : -(3*(s.dm.length:Int))-3<=af/\af<=3*s.dm.length+3) (e:jcI n af s k=some s'):jmt n s'/\s'.wk.length+s.dm.length=s.wk.length+s'.dm.length/\s.dm.length<=s'.dm.length:=by
 unfold jcI at e
 split at e
 ·cases e
 split at e
 ·cases e;exact⟨⟨h.rng,h.nd,h.wk,h.dep⟩,rfl,Nat.le_refl _⟩
 ·rename_i hd
  have hne:=jqO hd
  cases e
  refine⟨⟨fun p hp => ?_,?_,fun j hj => ?_,fun p hp => ?_⟩,by simp only[List.length_append,List.length_singleton];omega,by simp⟩
  ·rcases List.mem_append.1 hp with hp | hp
   ·exact h.rng p hp
   ·rw[List.mem_singleton.1 hp];exact⟨hk,by simp only;omega⟩
  ·rw[List.map_append,List.map_singleton,List.nodup_append];refine⟨h.nd,by simp,fun a ha b hb => ?_⟩
   obtain⟨p,hp,rfl⟩ := List.mem_map.1 ha
   rw[List.mem_singleton.1 hb];exact Ne.symm (hne p hp)
  ·rcases List.mem_append.1 hj with hj | hj
   ·obtain⟨d,hd⟩ := h.wk j hj
    exact⟨d,List.mem_append_left _ hd⟩
   ·rw[List.mem_singleton.1 hj];exact⟨af,List.mem_append_right _ List.mem_cons_self⟩
  ·simp only[List.length_append,List.length_singleton]
   rcases List.mem_append.1 hp with hp | hp
   ·have:=h.dep p hp;omega
   ·rw[List.mem_singleton.1 hp];simp only;omega
theorem joq {n:Nat} {af:Int} : ∀ (l:List Int) {s s':Fs} (B:Nat),jmt n s->B<=s.dm.length->(∀ k ∈ l,0<=k)->(-(3*(B:Int))-3<=af/\af<=3*B+3)->jb0 n af l s=some s'->jmt n s'/\s'.wk.length+s.dm.length=s.wk.length+s'.dm.length/\s.dm.length<=s'.dm.length
 | [],s,s',B,h,hB,hk,ha,e=>by
  unfold jb0 at e
  cases e
  exact⟨h,rfl,Nat.le_refl _⟩
 | k :: l,s,s',B,h,hB,hk,ha,e=>by
  unfold jb0 at e
  split at e
  ·cases e
  ·rename_i s1 e1
   obtain⟨h1,h2,h3⟩ := jbg h (hk k List.mem_cons_self) ⟨by omega,by omega⟩ e1
   obtain⟨h4,h5,h6⟩ := joq l B h1 (by omega) (fun j hj=>hk j (List.mem_cons_of_mem _ hj)) ha e
   exact⟨h4,by omega,by omega⟩
theorem jhL (k:Int):0<=jay k/\jay k<=3:=by unfold jay;repeat' split <;> omega
theorem jen (k:Int):0<=jad k/\jad k<=1:=by unfold jad;split <;> omega
theorem jtT (k:Int) : -3<=jad k-jay k/\jad k-jay k<=1:=by
 have:=jhL k
 have:=jen k
 omega
theorem jrB {code:List Ic} (hj:jf5 code) {a:Int} (ha:0<=a/\a<code.length):∀ k ∈ nxI a (code.getD a.toNat (0,0)),0<=k:=by
 have hm:code.getD a.toNat (0,0) ∈ code:=by
  have h:a.toNat<code.length:=by omega
  rw[List.getD_eq_getElem?_getD,List.getElem?_eq_getElem h];exact List.getElem_mem h
 have hjm:=hj _ hm
 generalize code.getD a.toNat (0,0)=i at *;intro k hk;unfold nxI at hk
 split at hk
 ·cases hk
 ·split at hk
  ·rw[List.mem_singleton.1 hk];exact hjm (.inl (by assumption))
  ·split at hk
   ·rcases List.mem_cons.1 hk with rfl | hk
    ·omega
    ·rw[List.mem_singleton.1 hk];exact hjm (.inr (by assumption))
   ·rw[List.mem_singleton.1 hk];omega
theorem jxg {n:Nat} {code:List Ic} {s:Fs} (h:jmt n s) {a:Int} : -(3*(s.dm.length:Int))-3<=afF code s.dm a/\afF code s.dm a<=3*s.dm.length+3:=by
 have hp:=jtT (code.getD a.toNat (0,0)).1
 unfold afF
 cases hd:dF s.dm a with
 | none=>simp only[Option.getD_none];omega
 | some d =>
  have:=h.dep _ (jkP hd)
  simp only[Option.getD_some];omega
theorem jsw {code:List Ic} (hj:jf5 code) {dm:List (Int × Int)} {pre:List Int} {a:Int} {er:Bool} {s':Fs} (h:jmt code.length ⟨dm,pre++[a],er⟩) (e:jm9 code dm pre er a=some s'):jmt code.length s'/\s'.wk.length+(code.length-s'.dm.length)+1=(pre++[a]).length+(code.length-dm.length)/\dm.length<=s'.dm.length:=by
 have h0:jmt code.length ⟨dm,pre,er || jqa code dm a⟩ := ⟨h.rng,h.nd,fun k hk=>h.wk k (List.mem_append_left _ hk),h.dep⟩
 obtain⟨d,hd⟩ := h.wk a (List.mem_append_right _ List.mem_cons_self)
 have hr:=h.rng _ hd
 obtain⟨h1,h2,h3⟩ := joq _ dm.length h0 (Nat.le_refl _) (jrB hj hr) (jxg h) e
 have hl:=jbf h1.rng h1.nd
 have hl0:=jbf h.rng h.nd
 simp only[List.length_append,List.length_singleton] at h2 h3 hl0 ⊢;exact⟨h1,by omega,h3⟩
def dmA (dm:List (Int × Int)):List (Int × A):=dm.map fun p=>(p.1,intA p.2)
theorem joc (dm:List (Int × Int)) (k:Int):jbP (dmA dm) k=(dF dm k).map intA:=by
 unfold jbP dmA dF;rw[List.find?_map]
 cases h:dm.find? ((fun p:Int × A=>decide (k=p.1)) ∘ fun p:Int × Int=>(p.1,intA p.2)) with
 | none =>
  have:dm.find? (fun p:Int × Int=>decide (k=p.1))=none:=h
  rw[this];rfl
 | some p =>
  have:dm.find? (fun p:Int × Int=>decide (k=p.1))=some p:=h
  rw[this];rfl
theorem jtm (dm:List (Int × Int)) (k d:Int):dmA (dm++[(k,d)])=dmA dm++[(k,intA d)]:=by unfold dmA;rw[List.map_append];rfl
def pgE (e:Nat->Int) (du vo:Int):List A:=[intA (e 0),intA (e 1),intA (e 2),intA (e 3),intA (e 4),intA (e 5),intA (e 6),intA (e 7),intA (e 8),intA (e 9),intA (e 10),intA (e 11),intA (e 12),intA (e 13),intA (e 14),intA (e 15),intA (e 16),intA (e 17),intA (e 18),intA (e 19),intA (e 20),intA (e 21),intA (e 22),intA (e 23),intA (e 24),intA (e 25),intA (e 26),intA (e 27),intA (e 28),intA (e 29),intA (e 30),intA (e 31),intA (e 32),intA (e 33),intA (e 34),intA (e 35),intA (e 36),intA (e 37),intA (e 38),intA (e 39),intA du,intA vo]
def pgL (code:List Ic) (e:Nat->Int) (du vo:Int):List A := .sl 2 code.length (jaJ code) :: pgE e du vo
def pgA (code:List Ic) (e:Nat->Int) (du vo:Int):A := .agg (pgL code e du vo)
structure Sh where
 po:Int
 pu:Int
 lo:Int
 hi:Int
def shA (s:Sh):A := .agg [intA s.po,intA s.pu,intA s.lo,intA s.hi]
def shL (v l:Int):List (Int × Sh):=[(1,⟨0,1,(-2147483647),2147483647⟩),(2,⟨0,1,0,v⟩),(3,⟨1,0,0,v⟩),(4,⟨0,1,0,8⟩),(5,⟨1,1,0,0⟩),(6,⟨2,1,0,0⟩),(7,⟨2,1,0,0⟩),(8,⟨2,1,0,0⟩),(9,⟨2,1,0,0⟩),(10,⟨1,1,0,0⟩),(11,⟨2,1,0,0⟩),(12,⟨2,1,0,0⟩),(13,⟨2,1,0,0⟩),(14,⟨1,1,0,0⟩),(15,⟨0,0,0,l⟩),(16,⟨1,0,0,l⟩),(17,⟨3,0,0,29⟩),(18,⟨0,0,0,7⟩),(19,⟨0,0,0,7⟩),(20,⟨0,0,0,0⟩),(21,⟨2,0,0,0⟩),(22,⟨1,0,0,0⟩),(23,⟨0,0,0,0⟩)]
def shP (v l:Int):List (Int × A):=(shL v l).map fun p=>(p.1,shA p.2)
def shM (v l:Int):A := .mp (mkV (shP v l)) (mvA (shP v l))
set_option maxHeartbeats 2000000 in
theorem ji0 (code:List Ic) (e:Nat->Int) (du vo:Int) (hd : -100<=du/\du<=100) (hv : -100<=vo/\vo<=100) (hl:code.length<=1000000):Spec Tryz.prog 57 [] [pgA code e du vo] fun _ r=>r=shM (du+vo-1) (code.length-1):=by
 refine jdj (ja2 jAq xs0 0) (fun _ _ h=>h) Tryz.func57 rfl (by kernel_rfl) rfl ?_;intro _;refine jbF (ja2 _ _ _) (by kernel_rfl) ?_;conv=>whnf
 refine jbF (ja2 _ _ _) (by kernel_rfl) ?_;conv=>whnf
 refine⟨ja7 (by omega),?_⟩;conv=>whnf
 refine⟨ja7 (by omega),?_⟩;conv=>whnf
 refine⟨ja7 (by omega),?_⟩;conv=>whnf
 refine jbF (ja2 _ _ _) (by kernel_rfl) ?_;conv=>whnf
 refine jnf 0 ?_;conv=>whnf
 refine jaY (ja2 _ _ _) (by kernel_rfl) ?_;conv=>whnf
 unfold shM mkV mvA shP shL;rfl
theorem jts (v l k:Int) (hk:1<=k/\k<=23):∃ lo hi,jbP (shP v l) k=some (.agg [intA (jay k),intA (jad k),intA lo,intA hi]):=by
 have h:k=1 ∨ k=2 ∨ k=3 ∨ k=4 ∨ k=5 ∨ k=6 ∨ k=7 ∨ k=8 ∨ k=9 ∨ k=10 ∨ k=11 ∨ k=12 ∨ k=13 ∨ k=14 ∨ k=15 ∨ k=16 ∨ k=17 ∨ k=18 ∨ k=19 ∨ k=20 ∨ k=21 ∨ k=22 ∨ k=23:=by omega
 rcases h with rfl | rfl | rfl | rfl | rfl | rfl | rfl | rfl | rfl | rfl | rfl | rfl | rfl | rfl | rfl | rfl | rfl | rfl | rfl | rfl | rfl | rfl | rfl
 all_goals exact⟨_,_,rfl⟩
theorem jpK (v l k:Int) (hk:1<=k/\k<=23) {K:A->Prop} {n:Prop} (h:∀ lo hi,K (.agg [intA (jay k),intA (jad k),intA lo,intA hi])):jd0 false (mkV (shP v l)) (mvA (shP v l)) (.int .i64 k) K n:=by
 refine jaN _ _ ?_
 obtain⟨lo,hi,e⟩ := jts v l k hk
 rw[e];exact h lo hi
def jwV (i:Ic):Prop:=(1<=i.1/\i.1<=23)/\(i.1=15 ∨ i.1=16->0<=i.2)
def GOk (g:Int->List Ic):Prop := ∀ at':Int,0<=at' -> ∀ i ∈ g at',jwV i
theorem GOk.no:GOk noI:=fun _ _ i hi=>by cases hi
theorem GOk.one {i:Ic} (h:jwV i):GOk fun _=>[i]:=fun _ _ j hj=>by rw[List.mem_singleton.1 hj];exact h
theorem GOk.seq:∀ {l:List (Int->List Ic)},(∀ g ∈ l,GOk g)->GOk (jc9 l)
 | [],_,_,_,i,hi=>by cases hi
 | g :: r,h,at',ha,i,hi=>by
  unfold jc9 at hi
  rcases List.mem_append.1 hi with hi | hi
  ·exact h g List.mem_cons_self at' ha i hi
  ·exact GOk.seq (fun x hx=>h x (List.mem_cons_of_mem _ hx)) _ (by omega) i hi
theorem GOk.br {c y n:Int->List Ic} (hc:GOk c) (hy:GOk y) (hn:GOk n):GOk (brC c y n):=fun at' ha i hi=>by
 unfold brC at hi;simp only[List.mem_append,List.mem_cons] at hi
 rcases hi with hi | rfl | hi | rfl | hi
 ·exact hc at' ha i hi
 ·exact⟨by simp,fun _=>by simp only;omega⟩
 ·exact hy _ (by omega) i hi
 ·exact⟨by simp,fun _=>by simp only;omega⟩
 ·exact hn _ (by omega) i hi
theorem GOk.get {l:List (Int->List Ic)} (h:∀ g ∈ l,GOk g) (k:Nat):GOk (l.getD k noI):=by
 rw[List.getD_eq_getElem?_getD]
 cases hk:l[k]? with
 | none=>exact GOk.no
 | some g=>exact h g (List.mem_of_getElem? hk)
theorem jyr (s:ByteArray):∀ i ∈ opC s,jwV i:=by
 unfold opC
 repeat' split
 all_goals (intro i hi;simp only[List.mem_cons,List.not_mem_nil,or_false] at hi)
 all_goals first
  | (rcases hi with rfl | rfl <;> exact⟨by simp,fun h=>by simp at h⟩)
  | (subst hi;exact⟨by simp,fun h=>by simp at h⟩)
theorem GOk.body (ix:ByteArray->Int) (k n:Int) (s:ByteArray) {l:List (Int->List Ic)} (h:∀ g ∈ l,GOk g):GOk (jcW ix k n s l):=fun at' ha i hi=>by
 have g0:=GOk.get h 0
 have g1:=GOk.get h 1
 have g2:=GOk.get h 2
 have sq:=GOk.seq h
 have one:∀ {a b:Int},1<=a->a<=23->a ≠ 15->a ≠ 16->i ∈ [((a,b):Ic)]->jwV i:=fun h1 h2 h3 h4 hi=>by
  rw[List.mem_singleton.1 hi];exact⟨⟨h1,h2⟩,fun h=>by rcases h with h | h;exact absurd h h3;exact absurd h h4⟩
 unfold jcW at hi
 by_cases c1:k=12 ∨ k=13
 ·rw[if_pos c1] at hi;exact one (by decide) (by decide) (by decide) (by decide) hi
 rw[if_neg c1] at hi
 by_cases c2:k=14
 ·rw[if_pos c2] at hi;exact one (by decide) (by decide) (by decide) (by decide) hi
 rw[if_neg c2] at hi
 by_cases c3:k=15
 ·rw[if_pos c3] at hi;exact one (by decide) (by decide) (by decide) (by decide) hi
 rw[if_neg c3] at hi
 by_cases c4:k=2
 ·rw[if_pos c4] at hi;exact GOk.br g0 g1 g2 at' ha i hi
 rw[if_neg c4] at hi
 by_cases c5:k=5
 ·rw[if_pos c5] at hi;exact one (by decide) (by decide) (by decide) (by decide) hi
 rw[if_neg c5] at hi
 by_cases c6:k=6
 ·rw[if_pos c6] at hi;exact one (by decide) (by decide) (by decide) (by decide) hi
 rw[if_neg c6] at hi
 by_cases c7:k=7
 ·rw[if_pos c7] at hi;exact one (by decide) (by decide) (by decide) (by decide) hi
 rw[if_neg c7] at hi
 by_cases c8:k=10
 ·rw[if_pos c8] at hi;exact one (by decide) (by decide) (by decide) (by decide) hi
 rw[if_neg c8] at hi
 by_cases c9:k=3
 ·rw[if_pos c9] at hi;simp only[List.mem_append,List.mem_cons,List.not_mem_nil,or_false] at hi
  rcases hi with hi | rfl | hi | rfl
  ·exact g0 at' ha i hi
  ·exact⟨by simp,fun _=>by simp only;omega⟩
  ·exact g1 _ (by omega) i hi
  ·exact⟨by simp,fun _=>ha⟩
 rw[if_neg c9] at hi
 by_cases ca:k=18/\s=jga
 ·rw[if_pos ca] at hi;exact GOk.br g0 g1 (GOk.one ⟨by simp,fun h=>by simp at h⟩) at' ha i hi
 rw[if_neg ca] at hi
 by_cases cb:k=18/\s=pOr
 ·rw[if_pos cb] at hi;exact GOk.br g0 (GOk.one ⟨by simp,fun h=>by simp at h⟩) g1 at' ha i hi
 rw[if_neg cb] at hi
 rcases List.mem_append.1 hi with hi | hi
 ·exact sq at' ha i hi
 by_cases d1:k=18
 ·rw[if_pos d1] at hi;exact jyr s i hi
 rw[if_neg d1] at hi
 by_cases d2:k=16
 ·rw[if_pos d2] at hi;exact one (by decide) (by decide) (by decide) (by decide) hi
 rw[if_neg d2] at hi
 by_cases d3:k=17
 ·rw[if_pos d3] at hi
  by_cases d4:s=pMinus
  ·rw[if_pos d4] at hi;exact one (by decide) (by decide) (by decide) (by decide) hi
  ·rw[if_neg d4] at hi;exact one (by decide) (by decide) (by decide) (by decide) hi
 rw[if_neg d3] at hi
 by_cases d5:k=1
 ·rw[if_pos d5] at hi;exact one (by decide) (by decide) (by decide) (by decide) hi
 rw[if_neg d5] at hi
 by_cases d6:k=4
 ·rw[if_pos d6] at hi;exact one (by decide) (by decide) (by decide) (by decide) hi
 rw[if_neg d6] at hi
 by_cases d7:k=8
 ·rw[if_pos d7] at hi;exact one (by decide) (by decide) (by decide) (by decide) hi
 rw[if_neg d7] at hi
 by_cases d8:k=9
 ·rw[if_pos d8] at hi;exact one (by decide) (by decide) (by decide) (by decide) hi
 rw[if_neg d8] at hi
 cases hi
theorem jjA (ix:ByteArray->Int):∀ f:Nt,GOk (jal ix f)
 | .mk k n s kids=>by
  have h:∀ f ∈ kids,GOk (jal ix f):=fun f hf=>jjA ix f
  rw[show jal ix (.mk k n s kids)=jcW ix k n s (jaf ix kids) by funext at';rw[jal]]
  refine GOk.body ix k n s fun g hg => ?_
  rw[jcj] at hg
  obtain⟨f,hf,rfl⟩ := List.mem_map.1 hg
  exact h f hf
def hcL (ix:ByteArray->Int):List (Int × Nt)->List Ic->(Nat->Int)->List Ic × (Nat->Int)
 | [],c,e=>(c,e)
 | (h,b) :: r,c,e=>hcL ix r (c++jal ix b c.length++[(23,0)]) (fun j=>if j=h.toNat then (c.length:Int) else e j)
def jpy (code:List Ic) (e:Nat->Int):Nat->Nat->Int
 | _,0=>0
 | j,m+1=>if jb7 code (e j) ≠ 0 then jb7 code (e j) else jpy code e (j+1) m
def noE:Nat->Int:=fun _ => -1
def zE:Nat->Int:=fun _=>0
def jks (u:Ut):List Ic × (Nat->Int):=hcL (ixU u) u.on [] noE
def jxQ (u:Ut):Int:=if 400<(jks u).1.length then 2 else jpy (jks u).1 (jks u).2 0 40
def je9:List A := .v (.slice none 0 0) :: pgE zE 0 0
def jxP (u:Ut):A:=if jxQ u=0 then .tup [pgA (jks u).1 (jks u).2 u.du.length u.vo.length,intA 0] else .tup [.agg je9,intA (jxQ u)]
def okI (v l:Int) (i:Ic):Bool:=match (shL v l).find? (fun p=>decide (i.1=p.1)) with
 | none=>false
 | some p=>decide (p.2.lo<=i.2) && decide (i.2<=p.2.hi)
def jeS (n:Nat) (x:Int):Bool:=decide (-1<=x) && decide (x<(n:Int))
def jgK (p:Int->Bool) (e:Nat->Int):Nat->Nat->Bool
 | _,0=>true
 | j,m+1=>p (e j) && jgK p e (j+1) m
def jx6 (code:List Ic) (e:Nat->Int):Nat->Nat->Int->Int
 | _,0,r=>r
 | j,m+1,r=>if jb7 code (e j)=12 then 12 else jx6 code e (j+1) m (if jb7 code (e j)=13 then 13 else r)
def jva (code:List Ic) (e:Nat->Int) (du vo:Int):Int :=
 if 400<code.length then 2
 else if du<0 ∨ vo<0 ∨ 16<du ∨ 16-du<vo then 12
 else if (code.all (okI (du+vo-1) (code.length-1)))=false then 12
 else if jgK (jeS code.length) e 0 40=false then 12
 else jx6 code e 0 40 0
section
set_option maxRecDepth 100000
end
def jAN (i:Int):Nt := .mk 12 i eB []
theorem jpA (l:List Int) (a:Int):jaq (l++[a])=jaq l++[intA a]:=by unfold jaq;rw[List.map_append];rfl
theorem jbh {dm:List (Int × Int)} {k:Int} {K:A->Prop} {n:Prop} (hd:dF dm k=none) (h:n):jd0 false (mkV (dmA dm)) (mvA (dmA dm)) (.int .i64 k) K n:=by
 refine jaN _ _ ?_;rw[joc,hd];exact h
theorem jaQ {dm:List (Int × Int)} {k d:Int} {K:A->Prop} {n:Prop} (hd:dF dm k=some d) (h:K (intA d)):jd0 false (mkV (dmA dm)) (mvA (dmA dm)) (.int .i64 k) K n:=by
 refine jaN _ _ ?_;rw[joc,hd];exact h
theorem jdP {dm:List (Int × Int)} {k d:Int} {n:Nat} {K:List A->List A->Nat->Prop} (hd:dF dm k=none) (h:K (mkA (dmA (dm++[(k,d)]))) (mvA (dmA (dm++[(k,d)]))) (n+1)):jvQ false (.int .i64 k) (.v (.int .i64 d)) (mkA (dmA dm)) (mvA (dmA dm)) n K:=by
 rw[jtm] at h;refine jlb (fun p hp => ?_) h;unfold dmA at hp
 obtain⟨q,hq,rfl⟩ := List.mem_map.1 hp
 exact jqO hd q hq
theorem jgA (t:Nat) (dm:List (Int × Int)) (k d:Int):Row.live t 0 (dm.length+1) [.clo 0 (mkA (dmA (dm++[(k,d)]))),.clo 0 (mvA (dmA (dm++[(k,d)])))]=Row.live t 0 (dm++[(k,d)]).length [.clo 0 (mkA (dmA (dm++[(k,d)]))),.clo 0 (mvA (dmA (dm++[(k,d)])))]:=by rw[List.length_append];rfl
theorem jgB (t:Nat) (wk:List Int) (k:Int):Row.live t 1 (wk.length+1) (jaq wk++[intA k])=Row.live t 1 (wk++[k]).length (jaq (wk++[k])):=by rw[List.length_append,jpA];rfl
theorem jbq {α:Type} (o:Option α):o=none ∨ ∃ a,o=some a:=by cases o with
 | none=>exact .inl rfl
 | some a=>exact .inr ⟨a,rfl⟩
def jBc (id:Nat):List Nat:=match Nat.beq id 1000003 with | true=>[1000003] | false=>[]
def flR (dm:List (Int × Int)) (wk:List Int):List Row:=[.live 123 0 dm.length [.clo 0 (mkA (dmA dm)),.clo 0 (mvA (dmA dm))],.live 3 1 wk.length (jaq wk)]
set_option maxHeartbeats 4000000 in
theorem jhp (code:List Ic) (e:Nat->Int) (du vo entry:Int) (hd : -100<=du/\du<=100) (hv : -100<=vo/\vo<=100) (hl:code.length<=1000000) (hj:jf5 code) (ho:∀ i ∈ code,1<=i.1/\i.1<=23) (he:entry<code.length):Spec Tryz.prog 41 [] [pgA code e du vo,intA entry] fun _ r=>r=intA (jb7 code entry):=by
 have hsh:=ji0 code e du vo hd hv hl
 obtain⟨R,hR⟩ : ∃ R,jb7 code entry=R:=⟨_,rfl⟩
 rw[hR];unfold jb7 at hR;refine ja3 (ja2 jax jBc 0) (fun _ _ h=>h) Tryz.func41 rfl (by kernel_rfl) rfl (by kernel_rfl) ?_;intro _;conv=>whnf
 by_cases h0:entry<0
 ·rw[decide_eq_true h0];rw[if_pos h0] at hR;conv=>whnf
  rw[<- hR];rfl
 rw[decide_eq_false h0];rw[if_neg h0] at hR;conv=>whnf
 refine jac [] rfl (fun _=>hsh) ?_;rintro r rfl;conv=>whnf
 refine ja4 [2,5,6,8] ?_;conv=>whnf
 refine ja9 (fun x:Nat × Fs=>[(7,intA (jtu x.2.er))]) (fun _=>[pgL code e du vo]) (fun x=>flR x.2.dm x.2.wk)
  (fun x=>jmt code.length x.2/\x.2.wk.length+(code.length-x.2.dm.length)+1<=x.1/\x.1<=code.length+1/\jvK code x.1 x.2=R) (fun x=>x.1) (code.length+1,⟨[(entry,0)],[entry],false⟩) ?_ ⟨⟨?_,?_,?_,?_⟩,?_,Nat.le_refl _,hR⟩ ?_
 ·repeat' constructor
  unfold mkA mvA dmA;rfl
 ·intro p hp;rw[List.mem_singleton.1 hp];exact⟨by simp only;omega,he⟩
 ·simp
 ·intro k hk;rw[List.mem_singleton.1 hk];exact⟨0,List.mem_singleton.2 rfl⟩
 ·intro p hp;rw[List.mem_singleton.1 hp];simp only[List.length_singleton];omega
 ·simp only[List.length_singleton];omega
 rintro⟨m0,dm,wk,er⟩ ⟨g1,g2,g3,hR⟩
 simp only at g1 g2 g3 hR
 obtain⟨m,rfl⟩ : ∃ m,m0=m+1:=⟨m0-1,by omega⟩
 have hwl:wk.length<=1000000:=by omega
 rcases List.eq_nil_or_concat wk with rfl | ⟨pre,a,hw⟩
 ·conv=>whnf
  rw[jvK] at hR;simp only[List.getLast?_nil] at hR;rw[<- hR];rfl
 rw[List.concat_eq_append] at hw;subst hw;rw[jvK] at hR;simp only[List.getLast?_append,List.getLast?_singleton,Option.some_or,List.dropLast_append_cons,List.dropLast_singleton,List.append_nil] at hR
 have hlen:(pre++[a]).length=pre.length+1:=by simp
 have htk:(jaq (pre++[a])).take (pre.length*1)=jaq pre:=by unfold jaq;rw[List.map_append,Nat.mul_one];exact List.take_left' (by simp)
 have hdr:(jaq (pre++[a])).drop ((((pre++[a]).length:Int)-1).toNat*1)=[intA a]:=by
  have e1:(((pre++[a]).length:Int)-1).toNat*1=pre.length:=by omega
  rw[e1];unfold jaq;rw[List.map_append];exact List.drop_left' (by simp)
 obtain⟨d,hda⟩ := g1.wk a (List.mem_append_right _ List.mem_cons_self)
 have ha:=g1.rng _ hda
 simp only at ha
 obtain⟨d',hd'⟩ := jmR hda
 have hdr':=g1.dep _ (jkP hd')
 simp only at hdr'
 have hdl:=jbf g1.rng g1.nd
 simp only at hdl
 have hpp:=jhL (code.getD a.toNat (0,0)).1
 have hps:=jen (code.getD a.toNat (0,0)).1
 have hnn:=jrB hj ha
 have hst:jm9 code dm pre er a=jb0 code.length (d'-jay (code.getD a.toNat (0,0)).1+jad (code.getD a.toNat (0,0)).1) (nxI a (code.getD a.toNat (0,0))) ⟨dm,pre,er || (decide (d'<jay (code.getD a.toNat (0,0)).1) || decide (16<d'-jay (code.getD a.toNat (0,0)).1+jad (code.getD a.toNat (0,0)).1))⟩ := by
  unfold jm9 jqa afF;rw[hd'];rfl
 rw[hst] at hR
 have hil:a.toNat<code.length:=by omega
 have hgi:code.getD a.toNat (0,0)=code[a.toNat]:=by rw[List.getD_eq_getElem?_getD,List.getElem?_eq_getElem hil];rfl
 have hcr:ja5 2 a.toNat (jaJ code)=icA (code.getD a.toNat (0,0)):=by rw[hgi];exact jcz code _ hil
 have hio:1<=(code.getD a.toNat (0,0)).1/\(code.getD a.toNat (0,0)).1<=23:=by rw[hgi];exact ho _ (List.getElem_mem hil)
 generalize code.getD a.toNat (0,0)=i at *
 obtain⟨op,n⟩ := i
 simp only at hpp hps hio hR hnn
 unfold icA at hcr
 simp only at hcr
 conv=>whnf
 rw[decide_eq_true (show (0:Int)<((pre++[a]).length:Int) by rw[hlen];omega)];conv=>whnf
 refine⟨show lo .i64<=((pre++[a]).length:Int)-1/\((pre++[a]).length:Int)-1<=hi .i64 from ja7 (by omega),?_⟩;conv=>whnf
 refine⟨show (0:Int)<=((pre++[a]).length:Int)-1/\((pre++[a]).length:Int)-1<((pre++[a]).length:Nat) from ⟨by omega,by omega⟩,?_⟩;conv=>whnf
 rw[hdr];conv=>whnf
 refine⟨show lo .i64<=((pre++[a]).length:Int)-1/\((pre++[a]).length:Int)-1<=hi .i64 from ja7 (by omega),?_⟩;conv=>whnf
 refine⟨pre.length,jaq pre,⟨show ((pre++[a]).length:Int)-1=(pre.length:Nat) by omega,show pre.length<=(pre++[a]).length by omega,htk.symm⟩,?_⟩;conv=>whnf
 refine⟨ha,?_⟩;conv=>whnf
 (generalize hrq:ja5 _ _ (jaJ code)=rq;obtain rfl:rq=[intA op,intA n]:=hrq.symm.trans (hcr);clear hrq;conv=>whnf)
 conv=>whnf
 refine jpK _ _ _ hio fun slo shi => ?_
 conv=>whnf
 refine jap _ ?_;conv=>whnf
 refine jaQ hd' ?_;conv=>whnf
 refine⟨ja7 (by omega),?_⟩;conv=>whnf
 refine⟨ja7 (by omega),?_⟩;conv=>whnf
 refine jap _ ?_;conv=>whnf
 refine jaQ hd' ?_;conv=>whnf
 by_cases hbad:d'<jay op ∨ ¬ d'<jay op/\16<d'-jay op+jad op
 ·rcases hbad with hb1 | ⟨hb1,hb2⟩
  rw[decide_eq_true hb1] at hR ⊢;rw[Bool.true_or,Bool.or_true] at hR
  rotate_left
  rw[decide_eq_false hb1,decide_eq_true hb2] at hR;rw[decide_eq_false hb1];rw[Bool.or_true,Bool.or_true] at hR;conv=>whnf
  rw[decide_eq_true hb2]
  all_goals
   conv=>whnf
   unfold nxI at hR hnn
   simp only at hR hnn
   by_cases hc1:op=23
   ·rw[decide_eq_true hc1];rw[if_pos hc1] at hR hnn;unfold jb0 at hR
    have hF:=hR
    simp only at hF
    conv=>whnf
    refine ja4 [2,5,6,7,8,88,89,90] ?_;conv=>whnf
    refine ja9 (fun _:Unit=>[]) (fun _=>[pgL code e du vo]) (fun _=>flR dm pre) (fun _=>True) (fun _=>0) () ?_ trivial ?_
    ·repeat' constructor
    rintro⟨⟩ -;conv=>whnf
    refine⟨(m,⟨dm,pre,true⟩),ja0 [0,1] ?_,⟨⟨g1.rng,g1.nd,fun k hk=>g1.wk k (List.mem_append_left _ hk),g1.dep⟩,show pre.length+(code.length-dm.length)+1<=m by omega,show m<=code.length+1 by omega,hF⟩,show m<m+1 by omega⟩;conv=>whnf
    repeat' constructor
   rw[decide_eq_false hc1];rw[if_neg hc1] at hR hnn;conv=>whnf
   by_cases hc2:op=15
   ·rw[decide_eq_true hc2];rw[if_pos hc2] at hR hnn;conv=>whnf
    obtain⟨F,hF⟩ : ∃ F,jb0 code.length (d'-jay op+jad op) [n] ⟨dm,pre,true⟩ = F:=⟨_,rfl⟩
    rw[hF] at hR;refine jbC [2] ?_;conv=>whnf
    refine ja4 [2,5,6,8,12,88,89] ?_;conv=>whnf
    refine ja9 (fun x:Nat × Fs=>[(7,intA (jtu x.2.er)),(90,.v (.int .i64 x.1))]) (fun _=>[pgL code e du vo]) (fun x=>flR x.2.dm x.2.wk++[.pub 1 1 ([n].map intA)])
     (fun x=>x.1<=1/\jmt code.length x.2/\x.2.wk.length+dm.length=pre.length+x.2.dm.length/\dm.length<=x.2.dm.length/\jb0 code.length (d'-jay op+jad op) ([n].drop x.1) x.2=F) (fun x=>1-x.1) (0,⟨dm,pre,true⟩) ?_ ⟨Nat.zero_le _,⟨g1.rng,g1.nd,fun k hk=>g1.wk k (List.mem_append_left _ hk),g1.dep⟩,rfl,Nat.le_refl _,hF⟩ ?_
    ·repeat' constructor
    clear hF;rintro⟨j,dm1,wk1,er1⟩ ⟨f1,f2,f3,f4,hF⟩
    simp only at f1 f2 f3 f4 hF
    rcases (show j=0 ∨ j=1 by omega) with hj0 | hj0
    ·have hdr:[n].drop j=(n) :: [n].drop (j+1):=by rw[hj0];rfl
     rw[hdr] at hF;unfold jb0 at hF
     have hk0:0<=n:=hnn _ (by simp)
     have hdl1:=jbf f2.rng f2.nd
     simp only at hdl1
     by_cases hge:(code.length:Int)<=n
     ·unfold jcI at hF;rw[if_pos hge] at hF;rw[<- hF] at hR;conv=>whnf
      rw[decide_eq_true (show (j:Int)<((1:Nat):Int) by omega)];conv=>whnf
      refine⟨show (0:Int)<=(j:Int)/\(j:Int)<((1:Nat):Int) from ⟨by omega,by omega⟩,?_⟩;conv=>whnf
      (generalize hrq:ja5 _ _ ([A.v (.int .i64 n)])=rq;obtain rfl:rq=[intA (n)]:=hrq.symm.trans ((by rw[hj0];unfold ja5;rfl));clear hrq;conv=>whnf)
      rw[decide_eq_true hge];conv=>whnf
      rw[<- hR];rfl
     rcases jbq (dF dm1 (n)) with hdk | ⟨d2,hdk⟩
     ·have hkf:jcI code.length (d'-jay op+jad op) ⟨dm1,wk1,er1⟩ (n)=some ⟨dm1++[(n,d'-jay op+jad op)],wk1++[n],er1⟩ := by unfold jcI;rw[if_neg hge];simp only;rw[hdk]
      obtain⟨q1,q2,q3⟩ := jbg f2 hk0 ⟨by simp only;omega,by simp only;omega⟩ hkf
      rw[hkf] at hF
      simp only at hF
      conv=>whnf
      rw[decide_eq_true (show (j:Int)<((1:Nat):Int) by omega)];conv=>whnf
      refine⟨show (0:Int)<=(j:Int)/\(j:Int)<((1:Nat):Int) from ⟨by omega,by omega⟩,?_⟩;conv=>whnf
      (generalize hrq:ja5 _ _ ([A.v (.int .i64 n)])=rq;obtain rfl:rq=[intA (n)]:=hrq.symm.trans ((by rw[hj0];unfold ja5;rfl));clear hrq;conv=>whnf)
      rw[decide_eq_false hge];conv=>whnf
      refine jap _ ?_;conv=>whnf
      refine jbh hdk ?_;conv=>whnf
      refine jdP hdk ?_;conv=>whnf
      refine⟨⟨show wk1.length+1<=maxLen by unfold maxLen;omega,show (wk1.length+1)*8<=140737488355328 by omega⟩,?_⟩;conv=>whnf
      refine⟨show lo .i64<=(j:Int)+1/\(j:Int)+1<=hi .i64 from ja7 (by omega),?_⟩;conv=>whnf
      refine⟨(j+1,⟨dm1++[(n,d'-jay op+jad op)],wk1++[n],er1⟩),ja0 [0,1,2] ?_,⟨show j+1<=1 by omega,q1,show _+_=_+_ by simp only at q2 ⊢;omega,show _<=_ by simp only at q3 ⊢;omega,hF⟩,show 1-(j+1)<1-j by omega⟩;conv=>whnf
      repeat' constructor
      ·exact jgA _ _ _ _
      ·exact jgB _ _ _
     ·have hkf:jcI code.length (d'-jay op+jad op) ⟨dm1,wk1,er1⟩ (n)=some ⟨dm1,wk1,er1 || decide (d2 ≠ d'-jay op+jad op)⟩ := by unfold jcI;rw[if_neg hge];simp only;rw[hdk]
      obtain⟨q1,q2,q3⟩ := jbg f2 hk0 ⟨by simp only;omega,by simp only;omega⟩ hkf
      rw[hkf] at hF
      simp only at hF
      conv=>whnf
      rw[decide_eq_true (show (j:Int)<((1:Nat):Int) by omega)];conv=>whnf
      refine⟨show (0:Int)<=(j:Int)/\(j:Int)<((1:Nat):Int) from ⟨by omega,by omega⟩,?_⟩;conv=>whnf
      (generalize hrq:ja5 _ _ ([A.v (.int .i64 n)])=rq;obtain rfl:rq=[intA (n)]:=hrq.symm.trans ((by rw[hj0];unfold ja5;rfl));clear hrq;conv=>whnf)
      rw[decide_eq_false hge];conv=>whnf
      refine jap _ ?_;conv=>whnf
      refine jaQ hdk ?_;conv=>whnf
      rcases (show d2=d'-jay op+jad op ∨ d2 ≠ d'-jay op+jad op by omega) with heq | heq
      ·rw[decide_eq_true heq];rw[decide_eq_false (fun h=>h heq),Bool.or_false] at hF q1;conv=>whnf
       refine⟨show lo .i64<=(j:Int)+1/\(j:Int)+1<=hi .i64 from ja7 (by omega),?_⟩;conv=>whnf
       refine⟨(j+1,⟨dm1,wk1,er1⟩),ja0 [0,1,2] ?_,⟨show j+1<=1 by omega,q1,show _+_=_+_ by simp only at q2 ⊢;omega,show _<=_ by simp only at q3 ⊢;omega,hF⟩,show 1-(j+1)<1-j by omega⟩;conv=>whnf
       repeat' constructor
      ·rw[decide_eq_false heq];rw[decide_eq_true heq,Bool.or_true] at hF q1;conv=>whnf
       refine⟨show lo .i64<=(j:Int)+1/\(j:Int)+1<=hi .i64 from ja7 (by omega),?_⟩;conv=>whnf
       refine⟨(j+1,⟨dm1,wk1,true⟩),ja0 [0,1,2] ?_,⟨show j+1<=1 by omega,q1,show _+_=_+_ by simp only at q2 ⊢;omega,show _<=_ by simp only at q3 ⊢;omega,hF⟩,show 1-(j+1)<1-j by omega⟩;conv=>whnf
       repeat' constructor
    ·rw[show [n].drop j=[] by rw[hj0];rfl] at hF;unfold jb0 at hF;rw[<- hF] at hR
     have hdl1:=jbf f2.rng f2.nd
     simp only at hdl1 hR
     conv=>whnf
     rw[decide_eq_false (show ¬ (j:Int)<((1:Nat):Int) by omega)];conv=>whnf
     refine⟨(m,⟨dm1,wk1,er1⟩),ja0 [0,1] ?_,⟨f2,show wk1.length+(code.length-dm1.length)+1<=m by omega,show m<=code.length+1 by omega,hR⟩,show m<m+1 by omega⟩;conv=>whnf
     repeat' constructor
   rw[decide_eq_false hc2];rw[if_neg hc2] at hR hnn;conv=>whnf
   by_cases hc3:op=16
   ·rw[decide_eq_true hc3];rw[if_pos hc3] at hR hnn;conv=>whnf
    refine⟨show lo .i64<=a+1/\a+1<=hi .i64 from ja7 (by omega),?_⟩;conv=>whnf
    obtain⟨F,hF⟩ : ∃ F,jb0 code.length (d'-jay op+jad op) [a+1,n] ⟨dm,pre,true⟩ = F:=⟨_,rfl⟩
    rw[hF] at hR;refine jbC [2] ?_;conv=>whnf
    refine ja4 [2,5,6,8,12,88,89] ?_;conv=>whnf
    refine ja9 (fun x:Nat × Fs=>[(7,intA (jtu x.2.er)),(90,.v (.int .i64 x.1))]) (fun _=>[pgL code e du vo]) (fun x=>flR x.2.dm x.2.wk++[.pub 1 2 ([a+1,n].map intA)])
     (fun x=>x.1<=2/\jmt code.length x.2/\x.2.wk.length+dm.length=pre.length+x.2.dm.length/\dm.length<=x.2.dm.length/\jb0 code.length (d'-jay op+jad op) ([a+1,n].drop x.1) x.2=F) (fun x=>2-x.1) (0,⟨dm,pre,true⟩) ?_ ⟨Nat.zero_le _,⟨g1.rng,g1.nd,fun k hk=>g1.wk k (List.mem_append_left _ hk),g1.dep⟩,rfl,Nat.le_refl _,hF⟩ ?_
    ·repeat' constructor
    clear hF;rintro⟨j,dm1,wk1,er1⟩ ⟨f1,f2,f3,f4,hF⟩
    simp only at f1 f2 f3 f4 hF
    rcases (show j=0 ∨ j=1 ∨ j=2 by omega) with hj0 | hj0 | hj0
    ·have hdr:[a+1,n].drop j=(a+1) :: [a+1,n].drop (j+1):=by rw[hj0];rfl
     rw[hdr] at hF;unfold jb0 at hF
     have hk0:0<=a+1:=hnn _ (by simp)
     have hdl1:=jbf f2.rng f2.nd
     simp only at hdl1
     by_cases hge:(code.length:Int)<=a+1
     ·unfold jcI at hF;rw[if_pos hge] at hF;rw[<- hF] at hR;conv=>whnf
      rw[decide_eq_true (show (j:Int)<((2:Nat):Int) by omega)];conv=>whnf
      refine⟨show (0:Int)<=(j:Int)/\(j:Int)<((2:Nat):Int) from ⟨by omega,by omega⟩,?_⟩;conv=>whnf
      (generalize hrq:ja5 _ _ ([A.v (.int .i64 (a+1)),A.v (.int .i64 n)])=rq;obtain rfl:rq=[intA (a+1)]:=hrq.symm.trans ((by rw[hj0];unfold ja5;rfl));clear hrq;conv=>whnf)
      rw[decide_eq_true hge];conv=>whnf
      rw[<- hR];rfl
     rcases jbq (dF dm1 (a+1)) with hdk | ⟨d2,hdk⟩
     ·have hkf:jcI code.length (d'-jay op+jad op) ⟨dm1,wk1,er1⟩ (a+1)=some ⟨dm1++[(a+1,d'-jay op+jad op)],wk1++[a+1],er1⟩ := by unfold jcI;rw[if_neg hge];simp only;rw[hdk]
      obtain⟨q1,q2,q3⟩ := jbg f2 hk0 ⟨by simp only;omega,by simp only;omega⟩ hkf
      rw[hkf] at hF
      simp only at hF
      conv=>whnf
      rw[decide_eq_true (show (j:Int)<((2:Nat):Int) by omega)];conv=>whnf
      refine⟨show (0:Int)<=(j:Int)/\(j:Int)<((2:Nat):Int) from ⟨by omega,by omega⟩,?_⟩;conv=>whnf
      (generalize hrq:ja5 _ _ ([A.v (.int .i64 (a+1)),A.v (.int .i64 n)])=rq;obtain rfl:rq=[intA (a+1)]:=hrq.symm.trans ((by rw[hj0];unfold ja5;rfl));clear hrq;conv=>whnf)
      rw[decide_eq_false hge];conv=>whnf
      refine jap _ ?_;conv=>whnf
      refine jbh hdk ?_;conv=>whnf
      refine jdP hdk ?_;conv=>whnf
      refine⟨⟨show wk1.length+1<=maxLen by unfold maxLen;omega,show (wk1.length+1)*8<=140737488355328 by omega⟩,?_⟩;conv=>whnf
      refine⟨show lo .i64<=(j:Int)+1/\(j:Int)+1<=hi .i64 from ja7 (by omega),?_⟩;conv=>whnf
      refine⟨(j+1,⟨dm1++[(a+1,d'-jay op+jad op)],wk1++[a+1],er1⟩),ja0 [0,1,2] ?_,⟨show j+1<=2 by omega,q1,show _+_=_+_ by simp only at q2 ⊢;omega,show _<=_ by simp only at q3 ⊢;omega,hF⟩,show 2-(j+1)<2-j by omega⟩;conv=>whnf
      repeat' constructor
      ·exact jgA _ _ _ _
      ·exact jgB _ _ _
     ·have hkf:jcI code.length (d'-jay op+jad op) ⟨dm1,wk1,er1⟩ (a+1)=some ⟨dm1,wk1,er1 || decide (d2 ≠ d'-jay op+jad op)⟩ := by unfold jcI;rw[if_neg hge];simp only;rw[hdk]
      obtain⟨q1,q2,q3⟩ := jbg f2 hk0 ⟨by simp only;omega,by simp only;omega⟩ hkf
      rw[hkf] at hF
      simp only at hF
      conv=>whnf
      rw[decide_eq_true (show (j:Int)<((2:Nat):Int) by omega)];conv=>whnf
      refine⟨show (0:Int)<=(j:Int)/\(j:Int)<((2:Nat):Int) from ⟨by omega,by omega⟩,?_⟩;conv=>whnf
      (generalize hrq:ja5 _ _ ([A.v (.int .i64 (a+1)),A.v (.int .i64 n)])=rq;obtain rfl:rq=[intA (a+1)]:=hrq.symm.trans ((by rw[hj0];unfold ja5;rfl));clear hrq;conv=>whnf)
      rw[decide_eq_false hge];conv=>whnf
      refine jap _ ?_;conv=>whnf
      refine jaQ hdk ?_;conv=>whnf
      rcases (show d2=d'-jay op+jad op ∨ d2 ≠ d'-jay op+jad op by omega) with heq | heq
      ·rw[decide_eq_true heq];rw[decide_eq_false (fun h=>h heq),Bool.or_false] at hF q1;conv=>whnf
       refine⟨show lo .i64<=(j:Int)+1/\(j:Int)+1<=hi .i64 from ja7 (by omega),?_⟩;conv=>whnf
       refine⟨(j+1,⟨dm1,wk1,er1⟩),ja0 [0,1,2] ?_,⟨show j+1<=2 by omega,q1,show _+_=_+_ by simp only at q2 ⊢;omega,show _<=_ by simp only at q3 ⊢;omega,hF⟩,show 2-(j+1)<2-j by omega⟩;conv=>whnf
       repeat' constructor
      ·rw[decide_eq_false heq];rw[decide_eq_true heq,Bool.or_true] at hF q1;conv=>whnf
       refine⟨show lo .i64<=(j:Int)+1/\(j:Int)+1<=hi .i64 from ja7 (by omega),?_⟩;conv=>whnf
       refine⟨(j+1,⟨dm1,wk1,true⟩),ja0 [0,1,2] ?_,⟨show j+1<=2 by omega,q1,show _+_=_+_ by simp only at q2 ⊢;omega,show _<=_ by simp only at q3 ⊢;omega,hF⟩,show 2-(j+1)<2-j by omega⟩;conv=>whnf
       repeat' constructor
    ·have hdr:[a+1,n].drop j=(n) :: [a+1,n].drop (j+1):=by rw[hj0];rfl
     rw[hdr] at hF;unfold jb0 at hF
     have hk0:0<=n:=hnn _ (by simp)
     have hdl1:=jbf f2.rng f2.nd
     simp only at hdl1
     by_cases hge:(code.length:Int)<=n
     ·unfold jcI at hF;rw[if_pos hge] at hF;rw[<- hF] at hR;conv=>whnf
      rw[decide_eq_true (show (j:Int)<((2:Nat):Int) by omega)];conv=>whnf
      refine⟨show (0:Int)<=(j:Int)/\(j:Int)<((2:Nat):Int) from ⟨by omega,by omega⟩,?_⟩;conv=>whnf
      (generalize hrq:ja5 _ _ ([A.v (.int .i64 (a+1)),A.v (.int .i64 n)])=rq;obtain rfl:rq=[intA (n)]:=hrq.symm.trans ((by rw[hj0];unfold ja5;rfl));clear hrq;conv=>whnf)
      rw[decide_eq_true hge];conv=>whnf
      rw[<- hR];rfl
     rcases jbq (dF dm1 (n)) with hdk | ⟨d2,hdk⟩
     ·have hkf:jcI code.length (d'-jay op+jad op) ⟨dm1,wk1,er1⟩ (n)=some ⟨dm1++[(n,d'-jay op+jad op)],wk1++[n],er1⟩ := by unfold jcI;rw[if_neg hge];simp only;rw[hdk]
      obtain⟨q1,q2,q3⟩ := jbg f2 hk0 ⟨by simp only;omega,by simp only;omega⟩ hkf
      rw[hkf] at hF
      simp only at hF
      conv=>whnf
      rw[decide_eq_true (show (j:Int)<((2:Nat):Int) by omega)];conv=>whnf
      refine⟨show (0:Int)<=(j:Int)/\(j:Int)<((2:Nat):Int) from ⟨by omega,by omega⟩,?_⟩;conv=>whnf
      (generalize hrq:ja5 _ _ ([A.v (.int .i64 (a+1)),A.v (.int .i64 n)])=rq;obtain rfl:rq=[intA (n)]:=hrq.symm.trans ((by rw[hj0];unfold ja5;rfl));clear hrq;conv=>whnf)
      rw[decide_eq_false hge];conv=>whnf
      refine jap _ ?_;conv=>whnf
      refine jbh hdk ?_;conv=>whnf
      refine jdP hdk ?_;conv=>whnf
      refine⟨⟨show wk1.length+1<=maxLen by unfold maxLen;omega,show (wk1.length+1)*8<=140737488355328 by omega⟩,?_⟩;conv=>whnf
      refine⟨show lo .i64<=(j:Int)+1/\(j:Int)+1<=hi .i64 from ja7 (by omega),?_⟩;conv=>whnf
      refine⟨(j+1,⟨dm1++[(n,d'-jay op+jad op)],wk1++[n],er1⟩),ja0 [0,1,2] ?_,⟨show j+1<=2 by omega,q1,show _+_=_+_ by simp only at q2 ⊢;omega,show _<=_ by simp only at q3 ⊢;omega,hF⟩,show 2-(j+1)<2-j by omega⟩;conv=>whnf
      repeat' constructor
      ·exact jgA _ _ _ _
      ·exact jgB _ _ _
     ·have hkf:jcI code.length (d'-jay op+jad op) ⟨dm1,wk1,er1⟩ (n)=some ⟨dm1,wk1,er1 || decide (d2 ≠ d'-jay op+jad op)⟩ := by unfold jcI;rw[if_neg hge];simp only;rw[hdk]
      obtain⟨q1,q2,q3⟩ := jbg f2 hk0 ⟨by simp only;omega,by simp only;omega⟩ hkf
      rw[hkf] at hF
      simp only at hF
      conv=>whnf
      rw[decide_eq_true (show (j:Int)<((2:Nat):Int) by omega)];conv=>whnf
      refine⟨show (0:Int)<=(j:Int)/\(j:Int)<((2:Nat):Int) from ⟨by omega,by omega⟩,?_⟩;conv=>whnf
      (generalize hrq:ja5 _ _ ([A.v (.int .i64 (a+1)),A.v (.int .i64 n)])=rq;obtain rfl:rq=[intA (n)]:=hrq.symm.trans ((by rw[hj0];unfold ja5;rfl));clear hrq;conv=>whnf)
      rw[decide_eq_false hge];conv=>whnf
      refine jap _ ?_;conv=>whnf
      refine jaQ hdk ?_;conv=>whnf
      rcases (show d2=d'-jay op+jad op ∨ d2 ≠ d'-jay op+jad op by omega) with heq | heq
      ·rw[decide_eq_true heq];rw[decide_eq_false (fun h=>h heq),Bool.or_false] at hF q1;conv=>whnf
       refine⟨show lo .i64<=(j:Int)+1/\(j:Int)+1<=hi .i64 from ja7 (by omega),?_⟩;conv=>whnf
       refine⟨(j+1,⟨dm1,wk1,er1⟩),ja0 [0,1,2] ?_,⟨show j+1<=2 by omega,q1,show _+_=_+_ by simp only at q2 ⊢;omega,show _<=_ by simp only at q3 ⊢;omega,hF⟩,show 2-(j+1)<2-j by omega⟩;conv=>whnf
       repeat' constructor
      ·rw[decide_eq_false heq];rw[decide_eq_true heq,Bool.or_true] at hF q1;conv=>whnf
       refine⟨show lo .i64<=(j:Int)+1/\(j:Int)+1<=hi .i64 from ja7 (by omega),?_⟩;conv=>whnf
       refine⟨(j+1,⟨dm1,wk1,true⟩),ja0 [0,1,2] ?_,⟨show j+1<=2 by omega,q1,show _+_=_+_ by simp only at q2 ⊢;omega,show _<=_ by simp only at q3 ⊢;omega,hF⟩,show 2-(j+1)<2-j by omega⟩;conv=>whnf
       repeat' constructor
    ·rw[show [a+1,n].drop j=[] by rw[hj0];rfl] at hF;unfold jb0 at hF;rw[<- hF] at hR
     have hdl1:=jbf f2.rng f2.nd
     simp only at hdl1 hR
     conv=>whnf
     rw[decide_eq_false (show ¬ (j:Int)<((2:Nat):Int) by omega)];conv=>whnf
     refine⟨(m,⟨dm1,wk1,er1⟩),ja0 [0,1] ?_,⟨f2,show wk1.length+(code.length-dm1.length)+1<=m by omega,show m<=code.length+1 by omega,hR⟩,show m<m+1 by omega⟩;conv=>whnf
     repeat' constructor
   rw[decide_eq_false hc3];rw[if_neg hc3] at hR hnn;conv=>whnf
   refine⟨show lo .i64<=a+1/\a+1<=hi .i64 from ja7 (by omega),?_⟩;conv=>whnf
   obtain⟨F,hF⟩ : ∃ F,jb0 code.length (d'-jay op+jad op) [a+1] ⟨dm,pre,true⟩ = F:=⟨_,rfl⟩
   rw[hF] at hR;refine jbC [2] ?_;conv=>whnf
   refine ja4 [2,5,6,8,12,88,89] ?_;conv=>whnf
   refine ja9 (fun x:Nat × Fs=>[(7,intA (jtu x.2.er)),(90,.v (.int .i64 x.1))]) (fun _=>[pgL code e du vo]) (fun x=>flR x.2.dm x.2.wk++[.pub 1 1 ([a+1].map intA)])
    (fun x=>x.1<=1/\jmt code.length x.2/\x.2.wk.length+dm.length=pre.length+x.2.dm.length/\dm.length<=x.2.dm.length/\jb0 code.length (d'-jay op+jad op) ([a+1].drop x.1) x.2=F) (fun x=>1-x.1) (0,⟨dm,pre,true⟩) ?_ ⟨Nat.zero_le _,⟨g1.rng,g1.nd,fun k hk=>g1.wk k (List.mem_append_left _ hk),g1.dep⟩,rfl,Nat.le_refl _,hF⟩ ?_
   ·repeat' constructor
   clear hF;rintro⟨j,dm1,wk1,er1⟩ ⟨f1,f2,f3,f4,hF⟩
   simp only at f1 f2 f3 f4 hF
   rcases (show j=0 ∨ j=1 by omega) with hj0 | hj0
   ·have hdr:[a+1].drop j=(a+1) :: [a+1].drop (j+1):=by rw[hj0];rfl
    rw[hdr] at hF;unfold jb0 at hF
    have hk0:0<=a+1:=hnn _ (by simp)
    have hdl1:=jbf f2.rng f2.nd
    simp only at hdl1
    by_cases hge:(code.length:Int)<=a+1
    ·unfold jcI at hF;rw[if_pos hge] at hF;rw[<- hF] at hR;conv=>whnf
     rw[decide_eq_true (show (j:Int)<((1:Nat):Int) by omega)];conv=>whnf
     refine⟨show (0:Int)<=(j:Int)/\(j:Int)<((1:Nat):Int) from ⟨by omega,by omega⟩,?_⟩;conv=>whnf
     (generalize hrq:ja5 _ _ ([A.v (.int .i64 (a+1))])=rq;obtain rfl:rq=[intA (a+1)]:=hrq.symm.trans ((by rw[hj0];unfold ja5;rfl));clear hrq;conv=>whnf)
     rw[decide_eq_true hge];conv=>whnf
     rw[<- hR];rfl
    rcases jbq (dF dm1 (a+1)) with hdk | ⟨d2,hdk⟩
    ·have hkf:jcI code.length (d'-jay op+jad op) ⟨dm1,wk1,er1⟩ (a+1)=some ⟨dm1++[(a+1,d'-jay op+jad op)],wk1++[a+1],er1⟩ := by unfold jcI;rw[if_neg hge];simp only;rw[hdk]
     obtain⟨q1,q2,q3⟩ := jbg f2 hk0 ⟨by simp only;omega,by simp only;omega⟩ hkf
     rw[hkf] at hF
     simp only at hF
     conv=>whnf
     rw[decide_eq_true (show (j:Int)<((1:Nat):Int) by omega)];conv=>whnf
     refine⟨show (0:Int)<=(j:Int)/\(j:Int)<((1:Nat):Int) from ⟨by omega,by omega⟩,?_⟩;conv=>whnf
     (generalize hrq:ja5 _ _ ([A.v (.int .i64 (a+1))])=rq;obtain rfl:rq=[intA (a+1)]:=hrq.symm.trans ((by rw[hj0];unfold ja5;rfl));clear hrq;conv=>whnf)
     rw[decide_eq_false hge];conv=>whnf
     refine jap _ ?_;conv=>whnf
     refine jbh hdk ?_;conv=>whnf
     refine jdP hdk ?_;conv=>whnf
     refine⟨⟨show wk1.length+1<=maxLen by unfold maxLen;omega,show (wk1.length+1)*8<=140737488355328 by omega⟩,?_⟩;conv=>whnf
     refine⟨show lo .i64<=(j:Int)+1/\(j:Int)+1<=hi .i64 from ja7 (by omega),?_⟩;conv=>whnf
     refine⟨(j+1,⟨dm1++[(a+1,d'-jay op+jad op)],wk1++[a+1],er1⟩),ja0 [0,1,2] ?_,⟨show j+1<=1 by omega,q1,show _+_=_+_ by simp only at q2 ⊢;omega,show _<=_ by simp only at q3 ⊢;omega,hF⟩,show 1-(j+1)<1-j by omega⟩;conv=>whnf
     repeat' constructor
     ·exact jgA _ _ _ _
     ·exact jgB _ _ _
    ·have hkf:jcI code.length (d'-jay op+jad op) ⟨dm1,wk1,er1⟩ (a+1)=some ⟨dm1,wk1,er1 || decide (d2 ≠ d'-jay op+jad op)⟩ := by unfold jcI;rw[if_neg hge];simp only;rw[hdk]
     obtain⟨q1,q2,q3⟩ := jbg f2 hk0 ⟨by simp only;omega,by simp only;omega⟩ hkf
     rw[hkf] at hF
     simp only at hF
     conv=>whnf
     rw[decide_eq_true (show (j:Int)<((1:Nat):Int) by omega)];conv=>whnf
     refine⟨show (0:Int)<=(j:Int)/\(j:Int)<((1:Nat):Int) from ⟨by omega,by omega⟩,?_⟩;conv=>whnf
     (generalize hrq:ja5 _ _ ([A.v (.int .i64 (a+1))])=rq;obtain rfl:rq=[intA (a+1)]:=hrq.symm.trans ((by rw[hj0];unfold ja5;rfl));clear hrq;conv=>whnf)
     rw[decide_eq_false hge];conv=>whnf
     refine jap _ ?_;conv=>whnf
     refine jaQ hdk ?_;conv=>whnf
     rcases (show d2=d'-jay op+jad op ∨ d2 ≠ d'-jay op+jad op by omega) with heq | heq
     ·rw[decide_eq_true heq];rw[decide_eq_false (fun h=>h heq),Bool.or_false] at hF q1;conv=>whnf
      refine⟨show lo .i64<=(j:Int)+1/\(j:Int)+1<=hi .i64 from ja7 (by omega),?_⟩;conv=>whnf
      refine⟨(j+1,⟨dm1,wk1,er1⟩),ja0 [0,1,2] ?_,⟨show j+1<=1 by omega,q1,show _+_=_+_ by simp only at q2 ⊢;omega,show _<=_ by simp only at q3 ⊢;omega,hF⟩,show 1-(j+1)<1-j by omega⟩;conv=>whnf
      repeat' constructor
     ·rw[decide_eq_false heq];rw[decide_eq_true heq,Bool.or_true] at hF q1;conv=>whnf
      refine⟨show lo .i64<=(j:Int)+1/\(j:Int)+1<=hi .i64 from ja7 (by omega),?_⟩;conv=>whnf
      refine⟨(j+1,⟨dm1,wk1,true⟩),ja0 [0,1,2] ?_,⟨show j+1<=1 by omega,q1,show _+_=_+_ by simp only at q2 ⊢;omega,show _<=_ by simp only at q3 ⊢;omega,hF⟩,show 1-(j+1)<1-j by omega⟩;conv=>whnf
      repeat' constructor
   ·rw[show [a+1].drop j=[] by rw[hj0];rfl] at hF;unfold jb0 at hF;rw[<- hF] at hR
    have hdl1:=jbf f2.rng f2.nd
    simp only at hdl1 hR
    conv=>whnf
    rw[decide_eq_false (show ¬ (j:Int)<((1:Nat):Int) by omega)];conv=>whnf
    refine⟨(m,⟨dm1,wk1,er1⟩),ja0 [0,1] ?_,⟨f2,show wk1.length+(code.length-dm1.length)+1<=m by omega,show m<=code.length+1 by omega,hR⟩,show m<m+1 by omega⟩;conv=>whnf
    repeat' constructor
 have hb1 : ¬ d'<jay op:=fun h=>hbad (.inl h)
 have hb2 : ¬ 16<d'-jay op+jad op:=fun h=>hbad (.inr ⟨hb1,h⟩)
 rw[decide_eq_false hb1] at hR ⊢;conv=>whnf
 rw[decide_eq_false hb2] at hR ⊢;rw[Bool.or_self,Bool.or_false] at hR;conv=>whnf
 unfold nxI at hR hnn
 simp only at hR hnn
 by_cases hc1:op=23
 ·rw[decide_eq_true hc1];rw[if_pos hc1] at hR hnn;unfold jb0 at hR
  have hF:=hR
  simp only at hF
  conv=>whnf
  refine ja4 [2,5,6,7,8,88,89,90] ?_;conv=>whnf
  refine ja9 (fun _:Unit=>[]) (fun _=>[pgL code e du vo]) (fun _=>flR dm pre) (fun _=>True) (fun _=>0) () ?_ trivial ?_
  ·repeat' constructor
  rintro⟨⟩ -;conv=>whnf
  refine⟨(m,⟨dm,pre,er⟩),ja0 [0,1] ?_,⟨⟨g1.rng,g1.nd,fun k hk=>g1.wk k (List.mem_append_left _ hk),g1.dep⟩,show pre.length+(code.length-dm.length)+1<=m by omega,show m<=code.length+1 by omega,hF⟩,show m<m+1 by omega⟩;conv=>whnf
  repeat' constructor
 rw[decide_eq_false hc1];rw[if_neg hc1] at hR hnn;conv=>whnf
 by_cases hc2:op=15
 ·rw[decide_eq_true hc2];rw[if_pos hc2] at hR hnn;conv=>whnf
  obtain⟨F,hF⟩ : ∃ F,jb0 code.length (d'-jay op+jad op) [n] ⟨dm,pre,er⟩ = F:=⟨_,rfl⟩
  rw[hF] at hR;refine jbC [2] ?_;conv=>whnf
  refine ja4 [2,5,6,8,12,88,89] ?_;conv=>whnf
  refine ja9 (fun x:Nat × Fs=>[(7,intA (jtu x.2.er)),(90,.v (.int .i64 x.1))]) (fun _=>[pgL code e du vo]) (fun x=>flR x.2.dm x.2.wk++[.pub 1 1 ([n].map intA)])
   (fun x=>x.1<=1/\jmt code.length x.2/\x.2.wk.length+dm.length=pre.length+x.2.dm.length/\dm.length<=x.2.dm.length/\jb0 code.length (d'-jay op+jad op) ([n].drop x.1) x.2=F) (fun x=>1-x.1) (0,⟨dm,pre,er⟩) ?_ ⟨Nat.zero_le _,⟨g1.rng,g1.nd,fun k hk=>g1.wk k (List.mem_append_left _ hk),g1.dep⟩,rfl,Nat.le_refl _,hF⟩ ?_
  ·repeat' constructor
  clear hF;rintro⟨j,dm1,wk1,er1⟩ ⟨f1,f2,f3,f4,hF⟩
  simp only at f1 f2 f3 f4 hF
  rcases (show j=0 ∨ j=1 by omega) with hj0 | hj0
  ·have hdr:[n].drop j=(n) :: [n].drop (j+1):=by rw[hj0];rfl
   rw[hdr] at hF;unfold jb0 at hF
   have hk0:0<=n:=hnn _ (by simp)
   have hdl1:=jbf f2.rng f2.nd
   simp only at hdl1
   by_cases hge:(code.length:Int)<=n
   ·unfold jcI at hF;rw[if_pos hge] at hF;rw[<- hF] at hR;conv=>whnf
    rw[decide_eq_true (show (j:Int)<((1:Nat):Int) by omega)];conv=>whnf
    refine⟨show (0:Int)<=(j:Int)/\(j:Int)<((1:Nat):Int) from ⟨by omega,by omega⟩,?_⟩;conv=>whnf
    (generalize hrq:ja5 _ _ ([A.v (.int .i64 n)])=rq;obtain rfl:rq=[intA (n)]:=hrq.symm.trans ((by rw[hj0];unfold ja5;rfl));clear hrq;conv=>whnf)
    rw[decide_eq_true hge];conv=>whnf
    rw[<- hR];rfl
   rcases jbq (dF dm1 (n)) with hdk | ⟨d2,hdk⟩
   ·have hkf:jcI code.length (d'-jay op+jad op) ⟨dm1,wk1,er1⟩ (n)=some ⟨dm1++[(n,d'-jay op+jad op)],wk1++[n],er1⟩ := by unfold jcI;rw[if_neg hge];simp only;rw[hdk]
    obtain⟨q1,q2,q3⟩ := jbg f2 hk0 ⟨by simp only;omega,by simp only;omega⟩ hkf
    rw[hkf] at hF
    simp only at hF
    conv=>whnf
    rw[decide_eq_true (show (j:Int)<((1:Nat):Int) by omega)];conv=>whnf
    refine⟨show (0:Int)<=(j:Int)/\(j:Int)<((1:Nat):Int) from ⟨by omega,by omega⟩,?_⟩;conv=>whnf
    (generalize hrq:ja5 _ _ ([A.v (.int .i64 n)])=rq;obtain rfl:rq=[intA (n)]:=hrq.symm.trans ((by rw[hj0];unfold ja5;rfl));clear hrq;conv=>whnf)
    rw[decide_eq_false hge];conv=>whnf
    refine jap _ ?_;conv=>whnf
    refine jbh hdk ?_;conv=>whnf
    refine jdP hdk ?_;conv=>whnf
    refine⟨⟨show wk1.length+1<=maxLen by unfold maxLen;omega,show (wk1.length+1)*8<=140737488355328 by omega⟩,?_⟩;conv=>whnf
    refine⟨show lo .i64<=(j:Int)+1/\(j:Int)+1<=hi .i64 from ja7 (by omega),?_⟩;conv=>whnf
    refine⟨(j+1,⟨dm1++[(n,d'-jay op+jad op)],wk1++[n],er1⟩),ja0 [0,1,2] ?_,⟨show j+1<=1 by omega,q1,show _+_=_+_ by simp only at q2 ⊢;omega,show _<=_ by simp only at q3 ⊢;omega,hF⟩,show 1-(j+1)<1-j by omega⟩;conv=>whnf
    repeat' constructor
    ·exact jgA _ _ _ _
    ·exact jgB _ _ _
   ·have hkf:jcI code.length (d'-jay op+jad op) ⟨dm1,wk1,er1⟩ (n)=some ⟨dm1,wk1,er1 || decide (d2 ≠ d'-jay op+jad op)⟩ := by unfold jcI;rw[if_neg hge];simp only;rw[hdk]
    obtain⟨q1,q2,q3⟩ := jbg f2 hk0 ⟨by simp only;omega,by simp only;omega⟩ hkf
    rw[hkf] at hF
    simp only at hF
    conv=>whnf
    rw[decide_eq_true (show (j:Int)<((1:Nat):Int) by omega)];conv=>whnf
    refine⟨show (0:Int)<=(j:Int)/\(j:Int)<((1:Nat):Int) from ⟨by omega,by omega⟩,?_⟩;conv=>whnf
    (generalize hrq:ja5 _ _ ([A.v (.int .i64 n)])=rq;obtain rfl:rq=[intA (n)]:=hrq.symm.trans ((by rw[hj0];unfold ja5;rfl));clear hrq;conv=>whnf)
    rw[decide_eq_false hge];conv=>whnf
    refine jap _ ?_;conv=>whnf
    refine jaQ hdk ?_;conv=>whnf
    rcases (show d2=d'-jay op+jad op ∨ d2 ≠ d'-jay op+jad op by omega) with heq | heq
    ·rw[decide_eq_true heq];rw[decide_eq_false (fun h=>h heq),Bool.or_false] at hF q1;conv=>whnf
     refine⟨show lo .i64<=(j:Int)+1/\(j:Int)+1<=hi .i64 from ja7 (by omega),?_⟩;conv=>whnf
     refine⟨(j+1,⟨dm1,wk1,er1⟩),ja0 [0,1,2] ?_,⟨show j+1<=1 by omega,q1,show _+_=_+_ by simp only at q2 ⊢;omega,show _<=_ by simp only at q3 ⊢;omega,hF⟩,show 1-(j+1)<1-j by omega⟩;conv=>whnf
     repeat' constructor
    ·rw[decide_eq_false heq];rw[decide_eq_true heq,Bool.or_true] at hF q1;conv=>whnf
     refine⟨show lo .i64<=(j:Int)+1/\(j:Int)+1<=hi .i64 from ja7 (by omega),?_⟩;conv=>whnf
     refine⟨(j+1,⟨dm1,wk1,true⟩),ja0 [0,1,2] ?_,⟨show j+1<=1 by omega,q1,show _+_=_+_ by simp only at q2 ⊢;omega,show _<=_ by simp only at q3 ⊢;omega,hF⟩,show 1-(j+1)<1-j by omega⟩;conv=>whnf
     repeat' constructor
  ·rw[show [n].drop j=[] by rw[hj0];rfl] at hF;unfold jb0 at hF;rw[<- hF] at hR
   have hdl1:=jbf f2.rng f2.nd
   simp only at hdl1 hR
   conv=>whnf
   rw[decide_eq_false (show ¬ (j:Int)<((1:Nat):Int) by omega)];conv=>whnf
   refine⟨(m,⟨dm1,wk1,er1⟩),ja0 [0,1] ?_,⟨f2,show wk1.length+(code.length-dm1.length)+1<=m by omega,show m<=code.length+1 by omega,hR⟩,show m<m+1 by omega⟩;conv=>whnf
   repeat' constructor
 rw[decide_eq_false hc2];rw[if_neg hc2] at hR hnn;conv=>whnf
 by_cases hc3:op=16
 ·rw[decide_eq_true hc3];rw[if_pos hc3] at hR hnn;conv=>whnf
  refine⟨show lo .i64<=a+1/\a+1<=hi .i64 from ja7 (by omega),?_⟩;conv=>whnf
  obtain⟨F,hF⟩ : ∃ F,jb0 code.length (d'-jay op+jad op) [a+1,n] ⟨dm,pre,er⟩ = F:=⟨_,rfl⟩
  rw[hF] at hR;refine jbC [2] ?_;conv=>whnf
  refine ja4 [2,5,6,8,12,88,89] ?_;conv=>whnf
  refine ja9 (fun x:Nat × Fs=>[(7,intA (jtu x.2.er)),(90,.v (.int .i64 x.1))]) (fun _=>[pgL code e du vo]) (fun x=>flR x.2.dm x.2.wk++[.pub 1 2 ([a+1,n].map intA)])
   (fun x=>x.1<=2/\jmt code.length x.2/\x.2.wk.length+dm.length=pre.length+x.2.dm.length/\dm.length<=x.2.dm.length/\jb0 code.length (d'-jay op+jad op) ([a+1,n].drop x.1) x.2=F) (fun x=>2-x.1) (0,⟨dm,pre,er⟩) ?_ ⟨Nat.zero_le _,⟨g1.rng,g1.nd,fun k hk=>g1.wk k (List.mem_append_left _ hk),g1.dep⟩,rfl,Nat.le_refl _,hF⟩ ?_
  ·repeat' constructor
  clear hF;rintro⟨j,dm1,wk1,er1⟩ ⟨f1,f2,f3,f4,hF⟩
  simp only at f1 f2 f3 f4 hF
  rcases (show j=0 ∨ j=1 ∨ j=2 by omega) with hj0 | hj0 | hj0
  ·have hdr:[a+1,n].drop j=(a+1) :: [a+1,n].drop (j+1):=by rw[hj0];rfl
   rw[hdr] at hF;unfold jb0 at hF
   have hk0:0<=a+1:=hnn _ (by simp)
   have hdl1:=jbf f2.rng f2.nd
   simp only at hdl1
   by_cases hge:(code.length:Int)<=a+1
   ·unfold jcI at hF;rw[if_pos hge] at hF;rw[<- hF] at hR;conv=>whnf
    rw[decide_eq_true (show (j:Int)<((2:Nat):Int) by omega)];conv=>whnf
    refine⟨show (0:Int)<=(j:Int)/\(j:Int)<((2:Nat):Int) from ⟨by omega,by omega⟩,?_⟩;conv=>whnf
    (generalize hrq:ja5 _ _ ([A.v (.int .i64 (a+1)),A.v (.int .i64 n)])=rq;obtain rfl:rq=[intA (a+1)]:=hrq.symm.trans ((by rw[hj0];unfold ja5;rfl));clear hrq;conv=>whnf)
    rw[decide_eq_true hge];conv=>whnf
    rw[<- hR];rfl
   rcases jbq (dF dm1 (a+1)) with hdk | ⟨d2,hdk⟩
   ·have hkf:jcI code.length (d'-jay op+jad op) ⟨dm1,wk1,er1⟩ (a+1)=some ⟨dm1++[(a+1,d'-jay op+jad op)],wk1++[a+1],er1⟩ := by unfold jcI;rw[if_neg hge];simp only;rw[hdk]
    obtain⟨q1,q2,q3⟩ := jbg f2 hk0 ⟨by simp only;omega,by simp only;omega⟩ hkf
    rw[hkf] at hF
    simp only at hF
    conv=>whnf
    rw[decide_eq_true (show (j:Int)<((2:Nat):Int) by omega)];conv=>whnf
    refine⟨show (0:Int)<=(j:Int)/\(j:Int)<((2:Nat):Int) from ⟨by omega,by omega⟩,?_⟩;conv=>whnf
    (generalize hrq:ja5 _ _ ([A.v (.int .i64 (a+1)),A.v (.int .i64 n)])=rq;obtain rfl:rq=[intA (a+1)]:=hrq.symm.trans ((by rw[hj0];unfold ja5;rfl));clear hrq;conv=>whnf)
    rw[decide_eq_false hge];conv=>whnf
    refine jap _ ?_;conv=>whnf
    refine jbh hdk ?_;conv=>whnf
    refine jdP hdk ?_;conv=>whnf
    refine⟨⟨show wk1.length+1<=maxLen by unfold maxLen;omega,show (wk1.length+1)*8<=140737488355328 by omega⟩,?_⟩;conv=>whnf
    refine⟨show lo .i64<=(j:Int)+1/\(j:Int)+1<=hi .i64 from ja7 (by omega),?_⟩;conv=>whnf
    refine⟨(j+1,⟨dm1++[(a+1,d'-jay op+jad op)],wk1++[a+1],er1⟩),ja0 [0,1,2] ?_,⟨show j+1<=2 by omega,q1,show _+_=_+_ by simp only at q2 ⊢;omega,show _<=_ by simp only at q3 ⊢;omega,hF⟩,show 2-(j+1)<2-j by omega⟩;conv=>whnf
    repeat' constructor
    ·exact jgA _ _ _ _
    ·exact jgB _ _ _
   ·have hkf:jcI code.length (d'-jay op+jad op) ⟨dm1,wk1,er1⟩ (a+1)=some ⟨dm1,wk1,er1 || decide (d2 ≠ d'-jay op+jad op)⟩ := by unfold jcI;rw[if_neg hge];simp only;rw[hdk]
    obtain⟨q1,q2,q3⟩ := jbg f2 hk0 ⟨by simp only;omega,by simp only;omega⟩ hkf
    rw[hkf] at hF
    simp only at hF
    conv=>whnf
    rw[decide_eq_true (show (j:Int)<((2:Nat):Int) by omega)];conv=>whnf
    refine⟨show (0:Int)<=(j:Int)/\(j:Int)<((2:Nat):Int) from ⟨by omega,by omega⟩,?_⟩;conv=>whnf
    (generalize hrq:ja5 _ _ ([A.v (.int .i64 (a+1)),A.v (.int .i64 n)])=rq;obtain rfl:rq=[intA (a+1)]:=hrq.symm.trans ((by rw[hj0];unfold ja5;rfl));clear hrq;conv=>whnf)
    rw[decide_eq_false hge];conv=>whnf
    refine jap _ ?_;conv=>whnf
    refine jaQ hdk ?_;conv=>whnf
    rcases (show d2=d'-jay op+jad op ∨ d2 ≠ d'-jay op+jad op by omega) with heq | heq
    ·rw[decide_eq_true heq];rw[decide_eq_false (fun h=>h heq),Bool.or_false] at hF q1;conv=>whnf
     refine⟨show lo .i64<=(j:Int)+1/\(j:Int)+1<=hi .i64 from ja7 (by omega),?_⟩;conv=>whnf
     refine⟨(j+1,⟨dm1,wk1,er1⟩),ja0 [0,1,2] ?_,⟨show j+1<=2 by omega,q1,show _+_=_+_ by simp only at q2 ⊢;omega,show _<=_ by simp only at q3 ⊢;omega,hF⟩,show 2-(j+1)<2-j by omega⟩;conv=>whnf
     repeat' constructor
    ·rw[decide_eq_false heq];rw[decide_eq_true heq,Bool.or_true] at hF q1;conv=>whnf
     refine⟨show lo .i64<=(j:Int)+1/\(j:Int)+1<=hi .i64 from ja7 (by omega),?_⟩;conv=>whnf
     refine⟨(j+1,⟨dm1,wk1,true⟩),ja0 [0,1,2] ?_,⟨show j+1<=2 by omega,q1,show _+_=_+_ by simp only at q2 ⊢;omega,show _<=_ by simp only at q3 ⊢;omega,hF⟩,show 2-(j+1)<2-j by omega⟩;conv=>whnf
     repeat' constructor
  ·have hdr:[a+1,n].drop j=(n) :: [a+1,n].drop (j+1):=by rw[hj0];rfl
   rw[hdr] at hF;unfold jb0 at hF
   have hk0:0<=n:=hnn _ (by simp)
   have hdl1:=jbf f2.rng f2.nd
   simp only at hdl1
   by_cases hge:(code.length:Int)<=n
   ·unfold jcI at hF;rw[if_pos hge] at hF;rw[<- hF] at hR;conv=>whnf
    rw[decide_eq_true (show (j:Int)<((2:Nat):Int) by omega)];conv=>whnf
    refine⟨show (0:Int)<=(j:Int)/\(j:Int)<((2:Nat):Int) from ⟨by omega,by omega⟩,?_⟩;conv=>whnf
    (generalize hrq:ja5 _ _ ([A.v (.int .i64 (a+1)),A.v (.int .i64 n)])=rq;obtain rfl:rq=[intA (n)]:=hrq.symm.trans ((by rw[hj0];unfold ja5;rfl));clear hrq;conv=>whnf)
    rw[decide_eq_true hge];conv=>whnf
    rw[<- hR];rfl
   rcases jbq (dF dm1 (n)) with hdk | ⟨d2,hdk⟩
   ·have hkf:jcI code.length (d'-jay op+jad op) ⟨dm1,wk1,er1⟩ (n)=some ⟨dm1++[(n,d'-jay op+jad op)],wk1++[n],er1⟩ := by unfold jcI;rw[if_neg hge];simp only;rw[hdk]
    obtain⟨q1,q2,q3⟩ := jbg f2 hk0 ⟨by simp only;omega,by simp only;omega⟩ hkf
    rw[hkf] at hF
    simp only at hF
    conv=>whnf
    rw[decide_eq_true (show (j:Int)<((2:Nat):Int) by omega)];conv=>whnf
    refine⟨show (0:Int)<=(j:Int)/\(j:Int)<((2:Nat):Int) from ⟨by omega,by omega⟩,?_⟩;conv=>whnf
    (generalize hrq:ja5 _ _ ([A.v (.int .i64 (a+1)),A.v (.int .i64 n)])=rq;obtain rfl:rq=[intA (n)]:=hrq.symm.trans ((by rw[hj0];unfold ja5;rfl));clear hrq;conv=>whnf)
    rw[decide_eq_false hge];conv=>whnf
    refine jap _ ?_;conv=>whnf
    refine jbh hdk ?_;conv=>whnf
    refine jdP hdk ?_;conv=>whnf
    refine⟨⟨show wk1.length+1<=maxLen by unfold maxLen;omega,show (wk1.length+1)*8<=140737488355328 by omega⟩,?_⟩;conv=>whnf
    refine⟨show lo .i64<=(j:Int)+1/\(j:Int)+1<=hi .i64 from ja7 (by omega),?_⟩;conv=>whnf
    refine⟨(j+1,⟨dm1++[(n,d'-jay op+jad op)],wk1++[n],er1⟩),ja0 [0,1,2] ?_,⟨show j+1<=2 by omega,q1,show _+_=_+_ by simp only at q2 ⊢;omega,show _<=_ by simp only at q3 ⊢;omega,hF⟩,show 2-(j+1)<2-j by omega⟩;conv=>whnf
    repeat' constructor
    ·exact jgA _ _ _ _
    ·exact jgB _ _ _
   ·have hkf:jcI code.length (d'-jay op+jad op) ⟨dm1,wk1,er1⟩ (n)=some ⟨dm1,wk1,er1 || decide (d2 ≠ d'-jay op+jad op)⟩ := by unfold jcI;rw[if_neg hge];simp only;rw[hdk]
    obtain⟨q1,q2,q3⟩ := jbg f2 hk0 ⟨by simp only;omega,by simp only;omega⟩ hkf
    rw[hkf] at hF
    simp only at hF
    conv=>whnf
    rw[decide_eq_true (show (j:Int)<((2:Nat):Int) by omega)];conv=>whnf
    refine⟨show (0:Int)<=(j:Int)/\(j:Int)<((2:Nat):Int) from ⟨by omega,by omega⟩,?_⟩;conv=>whnf
    (generalize hrq:ja5 _ _ ([A.v (.int .i64 (a+1)),A.v (.int .i64 n)])=rq;obtain rfl:rq=[intA (n)]:=hrq.symm.trans ((by rw[hj0];unfold ja5;rfl));clear hrq;conv=>whnf)
    rw[decide_eq_false hge];conv=>whnf
    refine jap _ ?_;conv=>whnf
    refine jaQ hdk ?_;conv=>whnf
    rcases (show d2=d'-jay op+jad op ∨ d2 ≠ d'-jay op+jad op by omega) with heq | heq
    ·rw[decide_eq_true heq];rw[decide_eq_false (fun h=>h heq),Bool.or_false] at hF q1;conv=>whnf
     refine⟨show lo .i64<=(j:Int)+1/\(j:Int)+1<=hi .i64 from ja7 (by omega),?_⟩;conv=>whnf
     refine⟨(j+1,⟨dm1,wk1,er1⟩),ja0 [0,1,2] ?_,⟨show j+1<=2 by omega,q1,show _+_=_+_ by simp only at q2 ⊢;omega,show _<=_ by simp only at q3 ⊢;omega,hF⟩,show 2-(j+1)<2-j by omega⟩;conv=>whnf
     repeat' constructor
    ·rw[decide_eq_false heq];rw[decide_eq_true heq,Bool.or_true] at hF q1;conv=>whnf
     refine⟨show lo .i64<=(j:Int)+1/\(j:Int)+1<=hi .i64 from ja7 (by omega),?_⟩;conv=>whnf
     refine⟨(j+1,⟨dm1,wk1,true⟩),ja0 [0,1,2] ?_,⟨show j+1<=2 by omega,q1,show _+_=_+_ by simp only at q2 ⊢;omega,show _<=_ by simp only at q3 ⊢;omega,hF⟩,show 2-(j+1)<2-j by omega⟩;conv=>whnf
     repeat' constructor
  ·rw[show [a+1,n].drop j=[] by rw[hj0];rfl] at hF;unfold jb0 at hF;rw[<- hF] at hR
   have hdl1:=jbf f2.rng f2.nd
   simp only at hdl1 hR
   conv=>whnf
   rw[decide_eq_false (show ¬ (j:Int)<((2:Nat):Int) by omega)];conv=>whnf
   refine⟨(m,⟨dm1,wk1,er1⟩),ja0 [0,1] ?_,⟨f2,show wk1.length+(code.length-dm1.length)+1<=m by omega,show m<=code.length+1 by omega,hR⟩,show m<m+1 by omega⟩;conv=>whnf
   repeat' constructor
 rw[decide_eq_false hc3];rw[if_neg hc3] at hR hnn;conv=>whnf
 refine⟨show lo .i64<=a+1/\a+1<=hi .i64 from ja7 (by omega),?_⟩;conv=>whnf
 obtain⟨F,hF⟩ : ∃ F,jb0 code.length (d'-jay op+jad op) [a+1] ⟨dm,pre,er⟩ = F:=⟨_,rfl⟩
 rw[hF] at hR;refine jbC [2] ?_;conv=>whnf
 refine ja4 [2,5,6,8,12,88,89] ?_;conv=>whnf
 refine ja9 (fun x:Nat × Fs=>[(7,intA (jtu x.2.er)),(90,.v (.int .i64 x.1))]) (fun _=>[pgL code e du vo]) (fun x=>flR x.2.dm x.2.wk++[.pub 1 1 ([a+1].map intA)])
  (fun x=>x.1<=1/\jmt code.length x.2/\x.2.wk.length+dm.length=pre.length+x.2.dm.length/\dm.length<=x.2.dm.length/\jb0 code.length (d'-jay op+jad op) ([a+1].drop x.1) x.2=F) (fun x=>1-x.1) (0,⟨dm,pre,er⟩) ?_ ⟨Nat.zero_le _,⟨g1.rng,g1.nd,fun k hk=>g1.wk k (List.mem_append_left _ hk),g1.dep⟩,rfl,Nat.le_refl _,hF⟩ ?_
 ·repeat' constructor
 clear hF;rintro⟨j,dm1,wk1,er1⟩ ⟨f1,f2,f3,f4,hF⟩
 simp only at f1 f2 f3 f4 hF
 rcases (show j=0 ∨ j=1 by omega) with hj0 | hj0
 ·have hdr:[a+1].drop j=(a+1) :: [a+1].drop (j+1):=by rw[hj0];rfl
  rw[hdr] at hF;unfold jb0 at hF
  have hk0:0<=a+1:=hnn _ (by simp)
  have hdl1:=jbf f2.rng f2.nd
  simp only at hdl1
  by_cases hge:(code.length:Int)<=a+1
  ·unfold jcI at hF;rw[if_pos hge] at hF;rw[<- hF] at hR;conv=>whnf
   rw[decide_eq_true (show (j:Int)<((1:Nat):Int) by omega)];conv=>whnf
   refine⟨show (0:Int)<=(j:Int)/\(j:Int)<((1:Nat):Int) from ⟨by omega,by omega⟩,?_⟩;conv=>whnf
   (generalize hrq:ja5 _ _ ([A.v (.int .i64 (a+1))])=rq;obtain rfl:rq=[intA (a+1)]:=hrq.symm.trans ((by rw[hj0];unfold ja5;rfl));clear hrq;conv=>whnf)
   rw[decide_eq_true hge];conv=>whnf
   rw[<- hR];rfl
  rcases jbq (dF dm1 (a+1)) with hdk | ⟨d2,hdk⟩
  ·have hkf:jcI code.length (d'-jay op+jad op) ⟨dm1,wk1,er1⟩ (a+1)=some ⟨dm1++[(a+1,d'-jay op+jad op)],wk1++[a+1],er1⟩ := by unfold jcI;rw[if_neg hge];simp only;rw[hdk]
   obtain⟨q1,q2,q3⟩ := jbg f2 hk0 ⟨by simp only;omega,by simp only;omega⟩ hkf
   rw[hkf] at hF
   simp only at hF
   conv=>whnf
   rw[decide_eq_true (show (j:Int)<((1:Nat):Int) by omega)];conv=>whnf
   refine⟨show (0:Int)<=(j:Int)/\(j:Int)<((1:Nat):Int) from ⟨by omega,by omega⟩,?_⟩;conv=>whnf
   (generalize hrq:ja5 _ _ ([A.v (.int .i64 (a+1))])=rq;obtain rfl:rq=[intA (a+1)]:=hrq.symm.trans ((by rw[hj0];unfold ja5;rfl));clear hrq;conv=>whnf)
   rw[decide_eq_false hge];conv=>whnf
   refine jap _ ?_;conv=>whnf
   refine jbh hdk ?_;conv=>whnf
   refine jdP hdk ?_;conv=>whnf
   refine⟨⟨show wk1.length+1<=maxLen by unfold maxLen;omega,show (wk1.length+1)*8<=140737488355328 by omega⟩,?_⟩;conv=>whnf
   refine⟨show lo .i64<=(j:Int)+1/\(j:Int)+1<=hi .i64 from ja7 (by omega),?_⟩;conv=>whnf
   refine⟨(j+1,⟨dm1++[(a+1,d'-jay op+jad op)],wk1++[a+1],er1⟩),ja0 [0,1,2] ?_,⟨show j+1<=1 by omega,q1,show _+_=_+_ by simp only at q2 ⊢;omega,show _<=_ by simp only at q3 ⊢;omega,hF⟩,show 1-(j+1)<1-j by omega⟩;conv=>whnf
   repeat' constructor
   ·exact jgA _ _ _ _
   ·exact jgB _ _ _
  ·have hkf:jcI code.length (d'-jay op+jad op) ⟨dm1,wk1,er1⟩ (a+1)=some ⟨dm1,wk1,er1 || decide (d2 ≠ d'-jay op+jad op)⟩ := by unfold jcI;rw[if_neg hge];simp only;rw[hdk]
   obtain⟨q1,q2,q3⟩ := jbg f2 hk0 ⟨by simp only;omega,by simp only;omega⟩ hkf
   rw[hkf] at hF
   simp only at hF
   conv=>whnf
   rw[decide_eq_true (show (j:Int)<((1:Nat):Int) by omega)];conv=>whnf
   refine⟨show (0:Int)<=(j:Int)/\(j:Int)<((1:Nat):Int) from ⟨by omega,by omega⟩,?_⟩;conv=>whnf
   (generalize hrq:ja5 _ _ ([A.v (.int .i64 (a+1))])=rq;obtain rfl:rq=[intA (a+1)]:=hrq.symm.trans ((by rw[hj0];unfold ja5;rfl));clear hrq;conv=>whnf)
   rw[decide_eq_false hge];conv=>whnf
   refine jap _ ?_;conv=>whnf
   refine jaQ hdk ?_;conv=>whnf
   rcases (show d2=d'-jay op+jad op ∨ d2 ≠ d'-jay op+jad op by omega) with heq | heq
   ·rw[decide_eq_true heq];rw[decide_eq_false (fun h=>h heq),Bool.or_false] at hF q1;conv=>whnf
    refine⟨show lo .i64<=(j:Int)+1/\(j:Int)+1<=hi .i64 from ja7 (by omega),?_⟩;conv=>whnf
    refine⟨(j+1,⟨dm1,wk1,er1⟩),ja0 [0,1,2] ?_,⟨show j+1<=1 by omega,q1,show _+_=_+_ by simp only at q2 ⊢;omega,show _<=_ by simp only at q3 ⊢;omega,hF⟩,show 1-(j+1)<1-j by omega⟩;conv=>whnf
    repeat' constructor
   ·rw[decide_eq_false heq];rw[decide_eq_true heq,Bool.or_true] at hF q1;conv=>whnf
    refine⟨show lo .i64<=(j:Int)+1/\(j:Int)+1<=hi .i64 from ja7 (by omega),?_⟩;conv=>whnf
    refine⟨(j+1,⟨dm1,wk1,true⟩),ja0 [0,1,2] ?_,⟨show j+1<=1 by omega,q1,show _+_=_+_ by simp only at q2 ⊢;omega,show _<=_ by simp only at q3 ⊢;omega,hF⟩,show 1-(j+1)<1-j by omega⟩;conv=>whnf
    repeat' constructor
 ·rw[show [a+1].drop j=[] by rw[hj0];rfl] at hF;unfold jb0 at hF;rw[<- hF] at hR
  have hdl1:=jbf f2.rng f2.nd
  simp only at hdl1 hR
  conv=>whnf
  rw[decide_eq_false (show ¬ (j:Int)<((1:Nat):Int) by omega)];conv=>whnf
  refine⟨(m,⟨dm1,wk1,er1⟩),ja0 [0,1] ?_,⟨f2,show wk1.length+(code.length-dm1.length)+1<=m by omega,show m<=code.length+1 by omega,hR⟩,show m<m+1 by omega⟩;conv=>whnf
  repeat' constructor
def enL (e:Nat->Int):List A:=(List.range 40).map fun j=>intA (e j)
theorem joa (e:Nat->Int) (j:Nat) (hj:j<40):(enL e)[((j:Int)).toNat*1]? = some (intA (e j)):=by
 rw[Int.toNat_natCast,Nat.mul_one];unfold enL;rw[List.getElem?_map,List.getElem?_range hj];rfl
theorem jsc (c:List Ic) (e:Nat->Int) (du vo:Int) (hl:c.length<=1000000):Spec Tryz.prog 16 [] [pgA c e du vo,pgA c e du vo] fun _ r=>r=jaw true:=by
 refine ja3 (ja2 jAl xs0 0) (fun _ _ h=>h) Tryz.func16 rfl (by kernel_rfl) rfl (by kernel_rfl) ?_;intro _;conv=>whnf
 refine⟨by kernel_rfl,?_⟩;conv=>whnf
 generalize hq:(decide (e 0=e 0) && _)=b
 obtain rfl:b=true:=by rw[<- hq];simp
 clear hq;conv=>whnf
 rw[decide_eq_true (rfl:du=du)];conv=>whnf
 rw[decide_eq_true (rfl:vo=vo)];conv=>whnf
 rw[decide_eq_true (rfl:(c.length:Int)=c.length)];conv=>whnf
 refine ja4 [2,3] ?_;conv=>whnf
 refine ja9 (fun j:Nat=>[(5,.v (.int .i64 j))]) (fun _=>[pgL c e du vo,pgL c e du vo]) (fun _=>[]) (fun j=>j<=c.length) (fun j=>c.length-j) 0 ?_ (by omega) ?_
 ·repeat' constructor
 intro j hj;conv=>whnf
 rcases Nat.lt_or_ge j c.length with hlt | hge
 ·have hrow:ja5 2 j (jaJ c)=icA c[j]:=jcz c j hlt
  generalize c[j]=i at hrow
  obtain⟨op,n⟩ := i
  unfold icA at hrow
  simp only at hrow
  rw[decide_eq_true (show (j:Int)<(c.length:Int) by omega)];conv=>whnf
  refine⟨show (0:Int)<=(j:Int)/\(j:Int)<(c.length:Nat) from ⟨by omega,by omega⟩,?_⟩;conv=>whnf
  (generalize hrq:ja5 _ _ (jaJ c)=rq;obtain rfl:rq=[intA op,intA n]:=hrq.symm.trans (hrow);clear hrq;conv=>whnf)
  refine⟨show (0:Int)<=(j:Int)/\(j:Int)<(c.length:Nat) from ⟨by omega,by omega⟩,?_⟩;conv=>whnf
  (generalize hrq:ja5 _ _ (jaJ c)=rq;obtain rfl:rq=[intA op,intA n]:=hrq.symm.trans (hrow);clear hrq;conv=>whnf)
  refine⟨by kernel_rfl,?_⟩;conv=>whnf
  generalize hq:(decide (op=op) && _)=b
  obtain rfl:b=true:=by rw[<- hq];simp
  clear hq;conv=>whnf
  refine⟨show lo .i64<=(j:Int)+1/\(j:Int)+1<=hi .i64 from ja7 (by omega),?_⟩;conv=>whnf
  refine⟨j+1,ja0 [] ?_,show j+1<=c.length by omega,show c.length-(j+1)<c.length-j by omega⟩;conv=>whnf
  repeat' constructor
 rw[decide_eq_false (show ¬ (j:Int)<(c.length:Int) by omega)];conv=>whnf
 rfl
theorem jn8 (v l k:Int) {K:A->Prop} {n:Prop} (h:match (shL v l).find? (fun p=>decide (k=p.1)) with | some p=>K (shA p.2) | none=>n):jd0 false (mkV (shP v l)) (mvA (shP v l)) (.int .i64 k) K n:=by
 refine jaN _ _ ?_
 have e:jbP (shP v l) k=((shL v l).find? fun p=>decide (k=p.1)).map fun p=>shA p.2:=by
  unfold jbP shP;rw[List.find?_map]
  show ((((shL v l).find? fun p=>decide (k=p.1)).map _).map _)=_
  cases (shL v l).find? fun p=>decide (k=p.1) <;> rfl
 rw[e]
 revert h
 cases (shL v l).find? fun p=>decide (k=p.1) <;> exact id
theorem juO {v l:Int} {i:Ic} (h:okI v l i=true):(1<=i.1/\i.1<=23)/\(i.1=15 ∨ i.1=16->0<=i.2):=by
 unfold okI at h
 rcases jbq ((shL v l).find? fun p=>decide (i.1=p.1)) with hf | ⟨p,hf⟩
 ·rw[hf] at h;cases h
 rw[hf] at h
 have hk:=List.find?_some hf
 have hm:=List.mem_of_find?_eq_some hf
 simp only[decide_eq_true_eq] at hk;simp only[Bool.and_eq_true,decide_eq_true_eq] at h
 obtain⟨a,b⟩ := i
 simp only at hk h ⊢
 subst hk;unfold shL at hm;simp only[List.mem_cons,List.not_mem_nil,or_false] at hm
 rcases hm with rfl | rfl | rfl | rfl | rfl | rfl | rfl | rfl | rfl | rfl | rfl | rfl | rfl | rfl | rfl | rfl | rfl | rfl | rfl | rfl | rfl | rfl | rfl
 all_goals (simp only at h ⊢;omega)
theorem jjr (p:Int->Bool) (e:Nat->Int):∀ (m j:Nat),jgK p e j m=true -> ∀ i,j<=i->i<j+m->p (e i)=true
 | 0,j,h,i,h1,h2=>by omega
 | m+1,j,h,i,h1,h2=>by
  unfold jgK at h;rw[Bool.and_eq_true] at h
  by_cases q:i=j
  ·rw[q];exact h.1
  ·exact jjr p e m (j+1) h.2 i (by omega) (by omega)
theorem ji8 (code:List Ic) (e:Nat->Int) (du vo:Int) (hl:code.length<=1000000):Spec Tryz.prog 25 [] [pgA code e du vo] fun _ r=>r=intA (jva code e du vo):=by
 obtain⟨R,hR⟩ : ∃ R,jva code e du vo=R:=⟨_,rfl⟩
 rw[hR];unfold jva at hR;refine ja3 (ja2 jax xs0 0) (fun _ _ h=>h) Tryz.func25 rfl (by kernel_rfl) rfl (by kernel_rfl) ?_;intro _;conv=>whnf
 by_cases h0:400<code.length
 ·rw[decide_eq_true (show (400:Int)<(code.length:Int) by omega)];rw[if_pos h0] at hR;conv=>whnf
  rw[<- hR];rfl
 rw[decide_eq_false (show ¬ (400:Int)<(code.length:Int) by omega)];rw[if_neg h0] at hR;conv=>whnf
 by_cases h1:du<0
 ·rw[decide_eq_true h1];rw[if_pos (.inl h1)] at hR;conv=>whnf
  rw[<- hR];rfl
 rw[decide_eq_false h1];conv=>whnf
 by_cases h2:vo<0
 ·rw[decide_eq_true h2];rw[if_pos (.inr (.inl h2))] at hR;conv=>whnf
  rw[<- hR];rfl
 rw[decide_eq_false h2];conv=>whnf
 by_cases h3:16<du
 ·rw[decide_eq_true h3];rw[if_pos (.inr (.inr (.inl h3)))] at hR;conv=>whnf
  rw[<- hR];rfl
 rw[decide_eq_false h3];conv=>whnf
 refine⟨ja7 (by omega),?_⟩;conv=>whnf
 by_cases h4:16-du<vo
 ·rw[decide_eq_true h4];rw[if_pos (.inr (.inr (.inr h4)))] at hR;conv=>whnf
  rw[<- hR];rfl
 rw[decide_eq_false h4];rw[if_neg (by omega)] at hR
 have hsh:=ji0 code e du vo (by omega) (by omega) hl
 conv=>whnf
 refine jac [] rfl (fun _=>hsh) ?_;rintro r rfl;conv=>whnf
 refine ja4 [1,3,42,43] ?_;conv=>whnf
 refine ja9 (fun j:Nat=>[(44,.v (.int .i64 j))]) (fun _=>[pgL code e du vo]) (fun _=>[]) (fun j=>j<=code.length/\(code.take j).all (okI (du+vo-1) (code.length-1))=true) (fun j=>code.length-j) 0 ?_ ⟨Nat.zero_le _,by rw[List.take_zero];rfl⟩ ?_
 ·repeat' constructor
 rintro j ⟨hj,hall⟩;conv=>whnf
 rcases Nat.lt_or_ge j code.length with hlt | hge
 ·have hrow:ja5 2 j (jaJ code)=icA code[j]:=jcz code j hlt
  have htk:(code.take (j+1)).all (okI (du+vo-1) (code.length-1))=okI (du+vo-1) (code.length-1) code[j]:=by
   rw[List.take_succ_eq_append_getElem hlt,List.all_append,hall,Bool.true_and,List.all_cons,List.all_nil,Bool.and_true]
  have hcn:okI (du+vo-1) (code.length-1) code[j]=false->R=12:=fun hb=>by
   have h5:code.all (okI (du+vo-1) (code.length-1))=false:=by
    rw[List.all_eq_false];exact⟨code[j],List.getElem_mem hlt,by rw[hb];simp⟩
   rw[<- hR,if_pos h5]
  unfold okI at htk hcn;generalize code[j]=i at hrow htk hcn
  obtain⟨op,n⟩ := i
  unfold icA at hrow
  simp only at hrow
  rw[decide_eq_true (show (j:Int)<(code.length:Int) by omega)];conv=>whnf
  refine⟨show (0:Int)<=(j:Int)/\(j:Int)<(code.length:Nat) from ⟨by omega,by omega⟩,?_⟩;conv=>whnf
  (generalize hrq:ja5 _ _ (jaJ code)=rq;obtain rfl:rq=[intA op,intA n]:=hrq.symm.trans (hrow);clear hrq;conv=>whnf)
  refine jn8 _ _ _ ?_
  rcases jbq ((shL (du+vo-1) (code.length-1)).find? fun p=>decide (op=p.1)) with hf | ⟨⟨pk,po,pu,plo,phi⟩,hf⟩
  ·rw[hf] at hcn ⊢
   have hcn:=hcn rfl
   conv=>whnf
   rw[hcn];rfl
  rw[hf] at htk hcn ⊢
  simp only at htk hcn
  conv=>whnf
  by_cases hlo:n<plo
  ·rw[decide_eq_true hlo]
   have hcn:=hcn (by rw[decide_eq_false (by omega)];rfl)
   conv=>whnf
   rw[hcn];rfl
  rw[decide_eq_false hlo];conv=>whnf
  by_cases hhi:phi<n
  ·rw[decide_eq_true hhi]
   have hcn:=hcn (by rw[decide_eq_false (show ¬ n<=phi by omega),Bool.and_false])
   conv=>whnf
   rw[hcn];rfl
  rw[decide_eq_false hhi];conv=>whnf
  refine⟨show lo .i64<=(j:Int)+1/\(j:Int)+1<=hi .i64 from ja7 (by omega),?_⟩;conv=>whnf
  refine⟨j+1,ja0 [] ?_,⟨show j+1<=code.length by omega,htk.trans (by rw[decide_eq_true (show plo<=n by omega),decide_eq_true (show n<=phi by omega)];rfl)⟩,show code.length-(j+1)<code.length-j by omega⟩;conv=>whnf
  repeat' constructor
 rw[decide_eq_false (show ¬ (j:Int)<(code.length:Int) by omega)]
 have hall2:code.all (okI (du+vo-1) (code.length-1))=true:=by
  have:=hall
  rw[List.take_of_length_le hge] at this;exact this
 rw[hall2,if_neg (by decide)] at hR
 have hops:=fun i hi=>juO (List.all_eq_true.1 hall2 i hi)
 clear hall;conv=>whnf
 refine ja4 [1,73] ?_;conv=>whnf
 refine ja9 (fun j:Nat=>[(74,.v (.int .i64 j))]) (fun _=>[pgL code e du vo]) (fun _=>[]) (fun j=>j<=40/\jgK (jeS code.length) e j (40-j)=jgK (jeS code.length) e 0 40) (fun j=>40-j) 0 ?_ ⟨Nat.zero_le _,rfl⟩ ?_
 ·repeat' constructor
 clear hge hj j;rintro j ⟨hj,hall⟩;conv=>whnf
 rcases Nat.lt_or_ge j 40 with hlt | hge
 ·rw[decide_eq_true (show (j:Int)<40 by omega)]
  have hst:jgK (jeS code.length) e j (40-j)=(jeS code.length (e j) && jgK (jeS code.length) e (j+1) (40-(j+1))):=by
   rw[show 40-j=(40-(j+1))+1 by omega];rfl
  have hall':jgK (jeS code.length) e j (40-j)=jgK (jeS code.length) e 0 40:=hall
  conv=>whnf
  refine⟨⟨show (0:Int)<=(j:Int) by omega,show (j:Int)<((40:Nat):Int) by omega⟩,intA (e j),joa e j hlt,?_⟩;conv=>whnf
  by_cases hlo:e j < -1
  ·rw[decide_eq_true hlo];rw[if_pos (by rw[<- hall',hst];unfold jeS;rw[decide_eq_false (show ¬ -1<=e j by omega)];rfl)] at hR;conv=>whnf
   rw[<- hR];rfl
  rw[decide_eq_false hlo];conv=>whnf
  by_cases hhi:(code.length:Int)<=e j
  ·rw[decide_eq_true hhi];rw[if_pos (by rw[<- hall',hst];unfold jeS;rw[decide_eq_false (show ¬ e j<code.length by omega),Bool.and_false];rfl)] at hR;conv=>whnf
   rw[<- hR];rfl
  rw[decide_eq_false hhi];conv=>whnf
  refine⟨show lo .i64<=(j:Int)+1/\(j:Int)+1<=hi .i64 from ja7 (by omega),?_⟩;conv=>whnf
  refine⟨j+1,ja0 [] ?_,⟨show j+1<=40 by omega,?_⟩,show 40-(j+1)<40-j by omega⟩
  ·conv=>whnf
   repeat' constructor
  ·show jgK (jeS code.length) e (j+1) (40-(j+1))=_
   rw[<- hall',hst];unfold jeS;rw[decide_eq_true (show -1<=e j by omega),decide_eq_true (show e j<code.length by omega)];rfl
 obtain rfl:j=40:=by omega
 have hall2:jgK (jeS code.length) e 0 40=true:=by
  have:jgK (jeS code.length) e 40 (40-40)=jgK (jeS code.length) e 0 40:=hall
  rw[<- this];rfl
 rw[decide_eq_false (show ¬ ((40:Nat):Int)<40 by omega)];rw[hall2,if_neg (by decide)] at hR
 have hent:=jjr _ _ _ _ hall2
 clear hall hge hj;conv=>whnf
 refine ja4 [1,88] ?_;conv=>whnf
 refine ja9 (fun x:Nat × Int=>[(10,intA x.2),(89,.v (.int .i64 x.1))]) (fun _=>[pgL code e du vo]) (fun _=>[]) (fun x=>x.1<=40/\jx6 code e x.1 (40-x.1) x.2=R) (fun x=>40-x.1) (0,0) ?_ ⟨Nat.zero_le _,hR⟩ ?_
 ·repeat' constructor
 rintro⟨j,q⟩ ⟨hj,hv⟩
 simp only at hj hv
 conv=>whnf
 rcases Nat.lt_or_ge j 40 with hlt | hge
 ·rw[decide_eq_true (show (j:Int)<40 by omega)];rw[show 40-j=(40-(j+1))+1 by omega] at hv;unfold jx6 at hv
  have hq:=hent j (by omega) (by omega)
  unfold jeS at hq;rw[Bool.and_eq_true,decide_eq_true_eq,decide_eq_true_eq] at hq
  have hfo:=jhp code e du vo (e j) (by omega) (by omega) hl (fun i hi=>(hops i hi).2) (fun i hi=>(hops i hi).1) hq.2
  conv=>whnf
  refine⟨⟨show (0:Int)<=(j:Int) by omega,show (j:Int)<((40:Nat):Int) by omega⟩,intA (e j),joa e j hlt,?_⟩;conv=>whnf
  refine jac [] rfl (fun _=>hfo) ?_;rintro r rfl;generalize jb7 code (e j)=f at hv;conv=>whnf
  by_cases h12:f=12
  ·rw[decide_eq_true h12];rw[if_pos h12] at hv;conv=>whnf
   rw[<- hv,<- h12];rfl
  rw[decide_eq_false h12];rw[if_neg h12] at hv;conv=>whnf
  by_cases h13:f=13
  ·rw[decide_eq_true h13];rw[if_pos h13] at hv;conv=>whnf
   refine⟨show lo .i64<=(j:Int)+1/\(j:Int)+1<=hi .i64 from ja7 (by omega),?_⟩;conv=>whnf
   refine⟨(j+1,13),ja0 [] ?_,⟨show j+1<=40 by omega,hv⟩,show 40-(j+1)<40-j by omega⟩;conv=>whnf
   repeat' constructor
   rw[h13]
  rw[decide_eq_false h13];rw[if_neg h13] at hv;conv=>whnf
  refine⟨show lo .i64<=(j:Int)+1/\(j:Int)+1<=hi .i64 from ja7 (by omega),?_⟩;conv=>whnf
  refine⟨(j+1,q),ja0 [] ?_,⟨show j+1<=40 by omega,hv⟩,show 40-(j+1)<40-j by omega⟩;conv=>whnf
  repeat' constructor
 obtain rfl:j=40:=by omega
 rw[decide_eq_false (show ¬ ((40:Nat):Int)<40 by omega)];conv=>whnf
 rw[<- hv];rfl
end Go.Proofs.YtfbifdccmabdbaaGreatDoor.Vm
namespace Go.Proofs.YtfbifdccmabdbaaGreatDoor.Vm
open Go.RowKit
set_option linter.unusedSimpArgs false
set_option linter.unusedVariables false
section
section
variable {w0:W0} {C0:Rd} {β0:List Nat} {bx:List (List A)} {rw:List Row} {w:World} {E:Env}
end
section
variable {P:Program} {pan:List PanicEntry->S->Prop} {Xr:Nat->Bool} {f:Nat} {s:S} {K:A->S->Prop} {post:List A->A->Prop}
end
end
end Go.Proofs.YtfbifdccmabdbaaGreatDoor.Vm
namespace Go.Proofs.YtfbifdccmabdbaaGreatDoor.Vm
open Go.RowKit Go.Shelf
set_option linter.unusedSimpArgs false
set_option linter.unusedVariables false
set_option maxRecDepth 100000
def cbx (u:Ut):List A:=utA u++[.own 0]
abbrev jeD (f:Nat) (ins:List (List A)) (l:List Ic) (args:List A) (post:List (List A)->List Ic->A->Prop):Prop :=
 jmB Tryz.prog f ins 52 2 l.length (jaJ l) args fun o n cs r => ∃ l',n=l'.length/\cs=jaJ l'/\post o l' r
theorem jcs (u:Ut) (l:List Ic) (op n:Int) (hl:l.length<=1000000):jeD 40 [cbx u] l [.box 0 0,intA op,intA n] fun o l' r=>o=[cbx u]/\l'=l++[(op,n)]/\r=intA l.length:=by
 refine jae (ja2 jax xs0 1) (fun _ _ h=>h) Tryz.func40 rfl (by kernel_rfl) rfl (by kernel_rfl) ?_;intro _;conv=>whnf
 refine⟨⟨by unfold maxLen;omega,by omega⟩,?_⟩;conv=>whnf
 refine⟨ja7 (by omega),?_⟩;conv=>whnf
 refine⟨0,?_⟩;conv=>whnf
 refine⟨l++[(op,n)],by rw[List.length_append];rfl,?_,rfl,rfl,?_⟩
 ·rw[jav];rfl
 ·show intA (((l.length+1:Nat):Int)-1)=intA l.length
  congr 1;omega
theorem jaW (a:Ic) (l:List Ic):jaJ (a :: l)=icA a++jaJ l:=by rw[jfg,List.flatMap_cons,jfg]
theorem jgT:∀ (l:List Ic) (k:Nat) (hk:k<l.length) (v:Int),(jaJ l).set (k*2+1) (intA v)=jaJ (l.set k (l[k].1,v))
 | [],k,hk,v=>by simp at hk
 | a :: l,0,hk,v=>by rw[List.set_cons_zero,jaW,jaW];rfl
 | a :: l,k+1,hk,v=>by
  rw[List.set_cons_succ,jaW,jaW]
  have h:=jgT l k (by simpa using hk) v
  rw[show (k+1)*2+1=k*2+1+2 by omega]
  show intA a.1 :: intA a.2 :: (jaJ l).set (k*2+1) (intA v)=_
  rw[h];rfl
theorem jhW:∀ (l:List (Int->List Ic)) (g:Int->List Ic) (at':Int),jc9 (l++[g]) at'=jc9 l at'++g (at'+(jc9 l at').length)
 | [],g,at' => by
  show g at'++[]=[]++g (at'+((0:Nat):Int))
  rw[List.append_nil,List.nil_append,show at'+((0:Nat):Int)=at' by omega]
 | h :: l,g,at' => by
  show h at'++jc9 (l++[g]) _=(h at'++jc9 l _)++g _
  rw[jhW l g,List.append_assoc]
  congr 3
  show _=at'+((h at'++jc9 l _).length:Int)
  rw[List.length_append];omega
def jbd (u:Ut) (f:Nt):Prop:=(∀ at':Int,(jal (ixU u) f at').length<=szN f) /\ ∀ l:List Ic,l.length+szN f<=1000000->jeD 39 [cbx u] l [.box 0 0,.agg (ntA f)] fun o l' r=>o=[cbx u]/\l'=l++jal (ixU u) f l.length/\r = .tup []
theorem ji6:∀ (l:List Nt) (j:Nat) (h:j<l.length),jbK (l.take j)+szN l[j]<=jbK l
 | [],j,h=>by simp at h
 | f :: l,0,h=>by show 0+szN f<=szN f+jbK l;omega
 | f :: l,j+1,h=>by
  have hj:j<l.length:=by simpa using h
  have:=ji6 l j hj
  show szN f+jbK (l.take j)+szN (l[j]'hj)<=szN f+jbK l
  omega
theorem jp9:∀ (l:List Nt) (j:Nat),jbK (l.take j)<=jbK l
 | [],j=>by rw[List.take_nil];exact Nat.le_refl _
 | f :: l,0=>Nat.zero_le _
 | f :: l,j+1=>by
  have:=jp9 l j
  show szN f+jbK (l.take j)<=szN f+jbK l
  omega
theorem jbb {u:Ut} : ∀ (l:List Nt) (at':Int),(∀ f ∈ l,jbd u f)->(jc9 (jaf (ixU u) l) at').length<=jbK l
 | [],at',_=>Nat.zero_le _
 | f :: l,at',h=>by
  show (jal (ixU u) f at'++jc9 (jaf (ixU u) l) _).length<=szN f+jbK l
  rw[List.length_append]
  have h1:=(h f List.mem_cons_self).1 at'
  have h2:=jbb l (at'+(jal (ixU u) f at').length) fun g hg=>h g (List.mem_cons_of_mem _ hg)
  omega
theorem jfj (u:Ut) (k n:Int) (s:ByteArray) (kids:List Nt) (hm:kids.length<=3002) (hf:∀ f ∈ kids,jbd u f) (l:List Ic) (hl:l.length+jbK kids<=1000000):jeD 80 [cbx u] l [.box 0 0,.agg (ntA (.mk k n s kids))] fun o l' r=>o=[cbx u]/\l'=l++jc9 (jaf (ixU u) kids) l.length/\r = .tup []:=by
 obtain⟨S,hS⟩ : ∃ S:Nat->List Ic,∀ j,S j=l++jc9 (jaf (ixU u) (kids.take j)) l.length:=⟨_,fun _=>rfl⟩
 have hS0:S 0=l:=by rw[hS];exact List.append_nil l
 have hSl:l++jc9 (jaf (ixU u) kids) l.length=S kids.length:=by rw[hS,List.take_length]
 have hSn:∀ j (h:j<kids.length),S (j+1)=S j++jal (ixU u) kids[j] (S j).length:=fun j h=>by
  rw[hS,hS,List.take_succ_eq_append_getElem h,jcj,jcj,List.map_append]
  show l++jc9 (_++[jal (ixU u) kids[j]]) _=_
  rw[jhW,List.append_assoc,List.length_append]
  congr 3
 have hSz:∀ j (h:j<kids.length),(S j).length+szN kids[j]<=1000000:=fun j h=>by
  rw[hS,List.length_append]
  have h1:=jbb (kids.take j) l.length fun f hf' => hf f (List.mem_of_mem_take hf')
  have h2:=ji6 kids j h
  omega
 rw[hSl,<- hS0];simp only[ntA,Nt.k,Nt.n,Nt.s,Nt.kids];refine jae (ja2 jax xs0 1) (fun _ _ h=>h) Tryz.func80 rfl (by kernel_rfl) rfl (by kernel_rfl) ?_;intro _;conv=>whnf
 refine ja4 [0,7,8] ?_;conv=>whnf
 refine ja9 (fun j:Nat=>[(9,.v (.int .i64 j))]) (fun _=>[cbx u,[intA k,intA n,jbm s,.sl 4 kids.length (jbQ kids)]]) (fun j=>[.live 52 2 (S j).length (jaJ (S j))]) (fun j=>j<=kids.length) (fun j=>kids.length-j) 0 ?_ (Nat.zero_le _) ?_
 ·repeat' constructor
 rintro j hj;conv=>whnf
 by_cases hlt:j<kids.length
 ·rw[decide_eq_true (show (j:Int)<(kids.length:Int) by omega)]
  have hrow:=jaO kids j hlt
  have hSn:=hSn j hlt
  have hSz:=hSz j hlt
  have hg:=hf _ (List.getElem_mem hlt)
  generalize kids[j]=g at *
  have hx:=hg.2 (S j) hSz
  generalize hcd:jal (ixU u) g (S j).length=y at *;conv=>whnf
  refine⟨by omega,?_⟩;conv=>whnf
  (generalize hrq:ja5 _ _ (jbQ kids)=rq;obtain rfl:rq=ntA g:=hrq.symm.trans (hrow);clear hrq;conv=>whnf)
  refine jaa 0 0 1 [] rfl rfl rfl rfl rfl rfl rfl (fun _=>hx) ?_;rintro o n' cs' r ⟨s4,rfl,rfl,ho,hs4,rfl⟩;cases ho;conv=>whnf
  refine⟨ja7 (by omega),?_⟩;conv=>whnf
  refine⟨j+1,ja0 [1] ?_,hlt,by omega⟩;conv=>whnf
  rw[hs4,show S (j+1)=_ from hSn]
  repeat' constructor
 ·rw[decide_eq_false (show ¬ (j:Int)<(kids.length:Int) by omega)];conv=>whnf
  obtain rfl:j=kids.length:=by omega
  refine⟨0,?_⟩;conv=>whnf
  exact⟨_,rfl,rfl,rfl,rfl,rfl⟩
theorem jti (s:ByteArray) (h:(builtL.any fun x=>decide (s=x))=true):Spec Tryz.prog 122 [] [jbm s] fun _ r=>r=intA (biF s):=by
 have h:s ∈ builtL:=by
  rw[List.any_eq_true] at h
  obtain⟨x,h1,h2⟩ := h
  rw[decide_eq_true_eq] at h2;rw[h2];exact h1
 unfold builtL at h;simp only[List.mem_cons,List.not_mem_nil,or_false] at h
 rcases h with rfl | rfl | rfl | rfl | rfl | rfl | rfl | rfl | rfl
 all_goals
  refine ja3 (ja2 jax xs0 0) (fun _ _ h=>h) Tryz.func122 rfl (by kernel_rfl) rfl (by kernel_rfl) ?_;intro _;conv=>whnf
  rfl
def jyi (ix:ByteArray->Int) (k n:Int) (s:ByteArray):Ic :=
 if k=12 ∨ k=13 then (1,n) else if k=14 then (2,ix s) else if k=15 then (4,biF s) else if k=1 then (3,ix s)
 else if k=4 then (17,n) else if k=5 then (18,n) else if k=6 then (19,n) else if k=16 then (5,0) else if k=7 then (20,0)
 else if k=10 then (23,0) else if k=8 then (21,0) else (22,0)
def jg9 (id:Nat):Tr:=match Nat.beq id 8 with | true => .q 0 3 (.q 1 3 (.q 2 3 (.q 3 3 (.q 5 3 (.q 6 0 (.alt 4 1 (.alt 7 1 (.alt 8 2 (.nil) (.nil)) (.nil)) (.nil))))))) | false=>match Nat.beq id 12 with | true => .q 0 3 (.q 1 3 (.q 2 3 (.q 3 3 (.q 5 3 (.q 6 0 (.alt 4 1 (.alt 7 1 (.alt 8 2 (.nil) (.nil)) (.nil)) (.nil))))))) | false => .nil
theorem jrm (u:Ut) (hu:WfU u) (k n:Int) (s:ByteArray) (kids:List Nt) (hm:kids.length<=3002) (hf:∀ f ∈ kids,jbd u f) (hc:k=12 ∨ k=13 ∨ k=14 ∨ k=15/\(builtL.any fun x=>decide (s=x))=true ∨ k=1 ∨ k=4 ∨ k=5 ∨ k=6 ∨ k=16 ∨ k=7 ∨ k=10 ∨ k=8 ∨ k=9) (l:List Ic) (hl:l.length+jbK kids+1<=1000000):jeD 81 [cbx u] l [.box 0 0,.agg (ntA (.mk k n s kids))] fun o l' r=>o=[cbx u]/\l'=l++jc9 (jaf (ixU u) kids) l.length++[jyi (ixU u) k n s]/\r = .tup []:=by
 have hk:=jfj u k n s kids hm hf l (by omega)
 simp only[ntA,Nt.k,Nt.n,Nt.s,Nt.kids] at hk
 have hz:=jbb (u:=u) kids l.length hf
 have hem:=fun (l:List Ic) (op n:Int) (h:l.length<=1000000)=>jcs u l op n h
 have hix:=jyT u hu s
 generalize jc9 (jaf (ixU u) kids) l.length=y at *
 have hly:(l++y).length<=999999:=by rw[List.length_append];omega
 generalize l++y=l3 at *
 rcases hc with rfl | rfl | rfl | ⟨rfl,hb⟩ | rfl | rfl | rfl | rfl | rfl | rfl | rfl | rfl | rfl
 ·simp only[ntA,Nt.k,Nt.n,Nt.s,Nt.kids];refine jae (ja2 jg9 (fun _=>[0]) 1) (fun _ _ h=>h) Tryz.func81 rfl (by kernel_rfl) rfl (by kernel_rfl) ?_;intro _;conv=>whnf
  refine jaa 0 0 1 [] rfl rfl rfl rfl rfl rfl rfl (fun _=>hk) ?_;rintro o n' cs' r ⟨l2,rfl,rfl,ho,hl2,rfl⟩;cases ho;conv=>whnf
  subst hl2;refine jaa 0 1 2 [] rfl rfl rfl rfl rfl rfl rfl (fun _=>hem l2 1 n (by omega)) ?_;rintro o n' cs' r ⟨l4,rfl,rfl,ho,hl4,rfl⟩;cases ho;conv=>whnf
  refine⟨2,?_⟩;conv=>whnf
  exact⟨l4,rfl,rfl,rfl,by rw[hl4];rfl,rfl⟩
 ·simp only[ntA,Nt.k,Nt.n,Nt.s,Nt.kids];refine jae (ja2 jg9 (fun _=>[0]) 1) (fun _ _ h=>h) Tryz.func81 rfl (by kernel_rfl) rfl (by kernel_rfl) ?_;intro _;conv=>whnf
  refine jaa 0 0 1 [] rfl rfl rfl rfl rfl rfl rfl (fun _=>hk) ?_;rintro o n' cs' r ⟨l2,rfl,rfl,ho,hl2,rfl⟩;cases ho;conv=>whnf
  subst hl2;refine jaa 0 1 2 [] rfl rfl rfl rfl rfl rfl rfl (fun _=>hem l2 1 n (by omega)) ?_;rintro o n' cs' r ⟨l4,rfl,rfl,ho,hl4,rfl⟩;cases ho;conv=>whnf
  refine⟨2,?_⟩;conv=>whnf
  exact⟨l4,rfl,rfl,rfl,by rw[hl4];rfl,rfl⟩
 ·simp only[ntA,Nt.k,Nt.n,Nt.s,Nt.kids];refine jae (ja2 jg9 (fun _=>[0]) 1) (fun _ _ h=>h) Tryz.func81 rfl (by kernel_rfl) rfl (by kernel_rfl) ?_;intro _;conv=>whnf
  refine jaa 0 0 1 [] rfl rfl rfl rfl rfl rfl rfl (fun _=>hk) ?_;rintro o n' cs' r ⟨l2,rfl,rfl,ho,hl2,rfl⟩;cases ho;conv=>whnf
  subst hl2
  (refine jac [] rfl (fun _=>hix) ?_;rintro r rfl;conv=>whnf)
  refine jaa 0 1 2 [] rfl rfl rfl rfl rfl rfl rfl (fun _=>hem l2 2 (ixU u s) (by omega)) ?_;rintro o n' cs' r ⟨l4,rfl,rfl,ho,hl4,rfl⟩;cases ho;conv=>whnf
  refine⟨2,?_⟩;conv=>whnf
  exact⟨l4,rfl,rfl,rfl,by rw[hl4];rfl,rfl⟩
 ·have hbi:=jti s hb
  simp only[ntA,Nt.k,Nt.n,Nt.s,Nt.kids];refine jae (ja2 jg9 (fun _=>[0]) 1) (fun _ _ h=>h) Tryz.func81 rfl (by kernel_rfl) rfl (by kernel_rfl) ?_;intro _;conv=>whnf
  refine jaa 0 0 1 [] rfl rfl rfl rfl rfl rfl rfl (fun _=>hk) ?_;rintro o n' cs' r ⟨l2,rfl,rfl,ho,hl2,rfl⟩;cases ho;conv=>whnf
  subst hl2
  (refine jac [] rfl (fun _=>hbi) ?_;rintro r rfl;conv=>whnf)
  refine jaa 0 1 2 [] rfl rfl rfl rfl rfl rfl rfl (fun _=>hem l2 4 (biF s) (by omega)) ?_;rintro o n' cs' r ⟨l4,rfl,rfl,ho,hl4,rfl⟩;cases ho;conv=>whnf
  refine⟨2,?_⟩;conv=>whnf
  exact⟨l4,rfl,rfl,rfl,by rw[hl4];rfl,rfl⟩
 ·simp only[ntA,Nt.k,Nt.n,Nt.s,Nt.kids];refine jae (ja2 jg9 (fun _=>[0]) 1) (fun _ _ h=>h) Tryz.func81 rfl (by kernel_rfl) rfl (by kernel_rfl) ?_;intro _;conv=>whnf
  refine jaa 0 0 1 [] rfl rfl rfl rfl rfl rfl rfl (fun _=>hk) ?_;rintro o n' cs' r ⟨l2,rfl,rfl,ho,hl2,rfl⟩;cases ho;conv=>whnf
  subst hl2
  (refine jac [] rfl (fun _=>hix) ?_;rintro r rfl;conv=>whnf)
  refine jaa 0 1 2 [] rfl rfl rfl rfl rfl rfl rfl (fun _=>hem l2 3 (ixU u s) (by omega)) ?_;rintro o n' cs' r ⟨l4,rfl,rfl,ho,hl4,rfl⟩;cases ho;conv=>whnf
  refine⟨2,?_⟩;conv=>whnf
  exact⟨l4,rfl,rfl,rfl,by rw[hl4];rfl,rfl⟩
 ·simp only[ntA,Nt.k,Nt.n,Nt.s,Nt.kids];refine jae (ja2 jg9 (fun _=>[0]) 1) (fun _ _ h=>h) Tryz.func81 rfl (by kernel_rfl) rfl (by kernel_rfl) ?_;intro _;conv=>whnf
  refine jaa 0 0 1 [] rfl rfl rfl rfl rfl rfl rfl (fun _=>hk) ?_;rintro o n' cs' r ⟨l2,rfl,rfl,ho,hl2,rfl⟩;cases ho;conv=>whnf
  subst hl2;refine jaa 0 1 2 [] rfl rfl rfl rfl rfl rfl rfl (fun _=>hem l2 17 n (by omega)) ?_;rintro o n' cs' r ⟨l4,rfl,rfl,ho,hl4,rfl⟩;cases ho;conv=>whnf
  refine⟨2,?_⟩;conv=>whnf
  exact⟨l4,rfl,rfl,rfl,by rw[hl4];rfl,rfl⟩
 ·simp only[ntA,Nt.k,Nt.n,Nt.s,Nt.kids];refine jae (ja2 jg9 (fun _=>[0]) 1) (fun _ _ h=>h) Tryz.func81 rfl (by kernel_rfl) rfl (by kernel_rfl) ?_;intro _;conv=>whnf
  refine jaa 0 0 1 [] rfl rfl rfl rfl rfl rfl rfl (fun _=>hk) ?_;rintro o n' cs' r ⟨l2,rfl,rfl,ho,hl2,rfl⟩;cases ho;conv=>whnf
  subst hl2;refine jaa 0 1 2 [] rfl rfl rfl rfl rfl rfl rfl (fun _=>hem l2 18 n (by omega)) ?_;rintro o n' cs' r ⟨l4,rfl,rfl,ho,hl4,rfl⟩;cases ho;conv=>whnf
  refine⟨2,?_⟩;conv=>whnf
  exact⟨l4,rfl,rfl,rfl,by rw[hl4];rfl,rfl⟩
 ·simp only[ntA,Nt.k,Nt.n,Nt.s,Nt.kids];refine jae (ja2 jg9 (fun _=>[0]) 1) (fun _ _ h=>h) Tryz.func81 rfl (by kernel_rfl) rfl (by kernel_rfl) ?_;intro _;conv=>whnf
  refine jaa 0 0 1 [] rfl rfl rfl rfl rfl rfl rfl (fun _=>hk) ?_;rintro o n' cs' r ⟨l2,rfl,rfl,ho,hl2,rfl⟩;cases ho;conv=>whnf
  subst hl2;refine jaa 0 1 2 [] rfl rfl rfl rfl rfl rfl rfl (fun _=>hem l2 19 n (by omega)) ?_;rintro o n' cs' r ⟨l4,rfl,rfl,ho,hl4,rfl⟩;cases ho;conv=>whnf
  refine⟨2,?_⟩;conv=>whnf
  exact⟨l4,rfl,rfl,rfl,by rw[hl4];rfl,rfl⟩
 ·simp only[ntA,Nt.k,Nt.n,Nt.s,Nt.kids];refine jae (ja2 jg9 (fun _=>[0]) 1) (fun _ _ h=>h) Tryz.func81 rfl (by kernel_rfl) rfl (by kernel_rfl) ?_;intro _;conv=>whnf
  refine jaa 0 0 1 [] rfl rfl rfl rfl rfl rfl rfl (fun _=>hk) ?_;rintro o n' cs' r ⟨l2,rfl,rfl,ho,hl2,rfl⟩;cases ho;conv=>whnf
  subst hl2;refine jaa 0 1 3 [] rfl rfl rfl rfl rfl rfl rfl (fun _=>hem l2 5 0 (by omega)) ?_;rintro o n' cs' r ⟨l4,rfl,rfl,ho,hl4,rfl⟩;cases ho;conv=>whnf
  refine⟨3,?_⟩;conv=>whnf
  exact⟨l4,rfl,rfl,rfl,by rw[hl4];rfl,rfl⟩
 ·simp only[ntA,Nt.k,Nt.n,Nt.s,Nt.kids];refine jae (ja2 jg9 (fun _=>[0]) 1) (fun _ _ h=>h) Tryz.func81 rfl (by kernel_rfl) rfl (by kernel_rfl) ?_;intro _;conv=>whnf
  refine jaa 0 0 1 [] rfl rfl rfl rfl rfl rfl rfl (fun _=>hk) ?_;rintro o n' cs' r ⟨l2,rfl,rfl,ho,hl2,rfl⟩;cases ho;conv=>whnf
  subst hl2;refine jaa 0 1 3 [] rfl rfl rfl rfl rfl rfl rfl (fun _=>hem l2 20 0 (by omega)) ?_;rintro o n' cs' r ⟨l4,rfl,rfl,ho,hl4,rfl⟩;cases ho;conv=>whnf
  refine⟨3,?_⟩;conv=>whnf
  exact⟨l4,rfl,rfl,rfl,by rw[hl4];rfl,rfl⟩
 ·simp only[ntA,Nt.k,Nt.n,Nt.s,Nt.kids];refine jae (ja2 jg9 (fun _=>[0]) 1) (fun _ _ h=>h) Tryz.func81 rfl (by kernel_rfl) rfl (by kernel_rfl) ?_;intro _;conv=>whnf
  refine jaa 0 0 1 [] rfl rfl rfl rfl rfl rfl rfl (fun _=>hk) ?_;rintro o n' cs' r ⟨l2,rfl,rfl,ho,hl2,rfl⟩;cases ho;conv=>whnf
  subst hl2;refine jaa 0 1 3 [] rfl rfl rfl rfl rfl rfl rfl (fun _=>hem l2 23 0 (by omega)) ?_;rintro o n' cs' r ⟨l4,rfl,rfl,ho,hl4,rfl⟩;cases ho;conv=>whnf
  refine⟨3,?_⟩;conv=>whnf
  exact⟨l4,rfl,rfl,rfl,by rw[hl4];rfl,rfl⟩
 ·simp only[ntA,Nt.k,Nt.n,Nt.s,Nt.kids];refine jae (ja2 jg9 (fun _=>[0]) 1) (fun _ _ h=>h) Tryz.func81 rfl (by kernel_rfl) rfl (by kernel_rfl) ?_;intro _;conv=>whnf
  refine jaa 0 0 1 [] rfl rfl rfl rfl rfl rfl rfl (fun _=>hk) ?_;rintro o n' cs' r ⟨l2,rfl,rfl,ho,hl2,rfl⟩;cases ho;conv=>whnf
  subst hl2;refine jaa 0 1 3 [] rfl rfl rfl rfl rfl rfl rfl (fun _=>hem l2 21 0 (by omega)) ?_;rintro o n' cs' r ⟨l4,rfl,rfl,ho,hl4,rfl⟩;cases ho;conv=>whnf
  refine⟨3,?_⟩;conv=>whnf
  exact⟨l4,rfl,rfl,rfl,by rw[hl4];rfl,rfl⟩
 ·simp only[ntA,Nt.k,Nt.n,Nt.s,Nt.kids];refine jae (ja2 jg9 (fun _=>[0]) 1) (fun _ _ h=>h) Tryz.func81 rfl (by kernel_rfl) rfl (by kernel_rfl) ?_;intro _;conv=>whnf
  refine jaa 0 0 1 [] rfl rfl rfl rfl rfl rfl rfl (fun _=>hk) ?_;rintro o n' cs' r ⟨l2,rfl,rfl,ho,hl2,rfl⟩;cases ho;conv=>whnf
  subst hl2;refine jaa 0 1 3 [] rfl rfl rfl rfl rfl rfl rfl (fun _=>hem l2 22 0 (by omega)) ?_;rintro o n' cs' r ⟨l4,rfl,rfl,ho,hl4,rfl⟩;cases ho;conv=>whnf
  refine⟨3,?_⟩;conv=>whnf
  exact⟨l4,rfl,rfl,rfl,by rw[hl4];rfl,rfl⟩
end Go.Proofs.YtfbifdccmabdbaaGreatDoor.Vm
namespace Go.Proofs.YtfbifdccmabdbaaGreatDoor.Vm
open Go.RowKit
set_option linter.unusedSimpArgs false
set_option linter.unusedVariables false
section
structure jqj (P:Program) (f:Nat) (ins:List (List A)) (e k n:Nat) (cs args:List A) (post:List (List A)->Nat->List A->A->Prop):Prop where
 r:jmB P f ins e k n cs args post
 d:∀ u,jnM (ClD P f u u) ins e k n cs args post fun _=>False
section
variable {c:Cx} {s:S}
theorem jm5 {f:Nat} {fn:Func} {x:Code} {ins:List (List A)} {e k n:Nat} {cs args:List A} {post:List (List A)->Nat->List A->A->Prop} (hc:c.ok) (hq:∀ ch s,¬ c.pan ch s) (hf:c.P.funcs[f]? = some fn) (hb:fn.body=some x) (hname:(fn.name == "runtime.NumGoroutine")=false)
  (hn:ins.length=c.np) (hord:jbJ c.ord x=true) (h:okL args->jdw args (fn.ntmps-args.length) fun t=>awp c x ⟨t,ins,[.live e k n cs]⟩ (jzU c e k fn.results.toList post)):jqj c.P f ins e k n cs args post:=by
 refine⟨jae hc (fun ch s h=>hq ch s h) hf hb hname hn hord h,fun u w C β vals y xs h0 h1 h2 h3 h4 h5 h6 h7 h8 h9 => ?_⟩;unfold ClD
 refine CallsD.mono (callsD_of_wp hf hb (R:=fun e' w' => (∃ (outs:List (List A)) (n':Nat) (cs':List A) (r:A) (v y':Value) (xs':List Value) (C':Rd),e' = .returned v/\post outs n' cs' r/\Keeps (β++(blk y).toList) w w'/\Sub C C'/\Sub C' (see w')/\(∀ ad u,C' ad=some u->C ad=some u ∨ w.heap.size<=ad.block ∨ blk y=some ad.block)/\outs.length=β.length ∧
   (∀ (i b:Nat) (cs:List A),β[i]? = some b->outs[i]? = some cs->boxAt w' ⟨C',β,[y']⟩ b cs)/\owR w' e k y' n' xs'/\A.repC cs' ⟨C',[],[]⟩ xs'/\(∀ b,blk y'=some b->(∀ o sp,C' ⟨b,o,sp⟩ = none)/\(w.heap.size<=b ∨ blk y=some b))/\r.rep ⟨C',β,[y']⟩ v) ∨
   ∃ (ch:List PanicEntry) (ns:List Nat),e' = .panicked ch/\False/\Keeps (β++(blk y).toList) w w'/\ns.length=β.length /\ ∀ (i b n:Nat),β[i]? = some b->ns[i]? = some n->boxAt w' ⟨C,β,[]⟩ b (List.replicate n .dead)) ?_) fun e m w' hh=>hh
 have hinit:=initK_iff.1 (h (jbo _ h9))
 have hinit:=jaY hc hord hinit
 have hinv:=jfZ (nt:=fn.ntmps) h0 h1 h2 h3 h4 h5 h6 h7 h8 h9
 unfold Ok OkD at hinit;refine hinit ⟨w,(blk y).toList⟩ C β _ w _ (by rw[<- h4,hn]) hinv (fun ch s' a' w' hpan hi=>absurd hpan (hq ch s')) ?_
 have fin:∀ (s':S) (a':Act) (w':World),(∃ g,juX c e k g fn.results.toList post s')->Inv [] ⟨w,(blk y).toList⟩ C β s' a' w'->_:=fun s' a' w' ⟨g,hr⟩ hi=>jmU (w:=w) (C:=C) (β:=β) (s':=s') (a':=a') (w':=w') (fn:=fn) (post:=post) (y:=y) hc (by rw[<- h4,hn]) hr hi
 intro e1 s' a' w' hq hi
 cases e1 with
 | normal=>obtain⟨k1,v,k2,k3⟩ := fin s' a' w' hq hi;exact⟨k1,v,k2,.inl k3⟩
 | ret=>obtain⟨k1,v,k2,k3⟩ := fin s' a' w' hq hi;exact⟨k1,v,k2,.inl k3⟩
 | _=>exact hq.elim
@[irreducible] def jzd (P:Program) (f:Nat) (args:List A) (s:S) (K:S->Prop):Prop :=
 (∀ vs w,(callFunc f vs).run P w = .ok (.enter f vs) w) ∧
 ∃ (X ids:List Nat) (g e k n:Nat) (cs:List A) (ins:List (List A)) (args':List A) (post:List (List A)->Nat->List A->A->Prop),X.Nodup/\(∀ i ∈ X,i<s.bx.length)/\(ja1 s.rw ids)[g]? = some (.live e k n cs) ∧
  jdY X g (ja1 s.rw ids) (X.map fun i=>s.bx.getD i [])=some ins/\jbx X g (ja1 s.rw ids) args=some args'/\(okL args'->jnM (ClD P f .returning .returning) ins e k n cs args' post fun _=>False) ∧
  ∀ outs n' cs' r,post outs n' cs' r->outs.length=X.length->jhF X s.rw.length s.bx X outs fun bx' => jbw (backG X s.rw.length r) fun r' => jaB ((ja1 s.rw ids).set g .gone++[.live e k n' cs']) fun rw' => jbM s bx' rw' K
def jgu (c:Cx) (e k:Nat) (rv:List ResultVar) (post:List (List A)->Nat->List A->A->Prop):List (Nat × List A)->S->Prop
 | [],s => ∃ g,juX c e k g rv post s
 | (f,args) :: r,s=>jzd c.P f args s fun s' => jgu c e k rv post r s'
theorem jiU {w0:W0} {C0:Rd} {β0:List Nat} {e k:Nat} {fn:Func} {post:List (List A)->Nat->List A->A->Prop} {R:Ending->World->Prop} {tmps:Array Value} (hfin:∀ s' w',(∃ g,juX c e k g fn.results.toList post s')->Inv [] w0 C0 β0 s' { tmps:=tmps,defers:=[] } w' -> ∃ v,(results fn tmps).run c.P w' = .ok v w'/\R (.returned v) w') :
  ∀ (dr:List (Nat × List A)) (ds:List Deferred) (s:S) (E:Env) (w:World),repD dr E ds->Hp w0 C0 β0 s.bx s.rw w E->A.repL s.t E tmps.toList->jgu c e k fn.results.toList post dr s->Leaves c.P fn tmps R ds .returning w
 | [],ds,s,E,w,hd,hp,ht,h=>by
  obtain rfl:ds=[]:=hd
  exact hfin s w h ⟨E,hp,ht,rfl⟩
 | (f,args) :: r,ds,s,E,w,⟨d,ds',cap,hds,htg,hargs,hrest⟩,hp,ht,h=>by
  subst hds;unfold jgu jzd at h
  obtain⟨hcall,X,ids,g,e0,k0,n0,cs0,ins,args',post',hn,hX,hg,hins,hargs',hspec,hk⟩ := h
  obtain⟨-,hcx⟩ := jo1 (pan:=fun _ _=>False) (Xr:=fun _=>true) (K:=fun _ s' => jgu c e k fn.results.toList post r s') (Cl:=ClD c.P f .returning .returning) ClD.mono hp hargs rfl hn (fun _ _=>rfl) hX hg hins hargs' hspec (fun outs n' cs' r hp hl=>hk outs n' cs' r hp hl) (fun ch bx' h _ _=>h.elim)
  obtain⟨t,da⟩ := d
  simp only at htg hargs hcx
  subst htg;refine leaves_cons (f:=f) (args:=da++cap) (by simp) (by simp[invoke,hcall]) ?_
  have hcx':CallsD c.P f (da++cap) .returning w fun e' m w' => m = .returning/\((∃ y,e' = .returned y/\Left w0 C0 β0 (fun _=>true) s E w (fun _ s' => jgu c e k fn.results.toList post r s') y w') ∨ ∃ (ch:List PanicEntry) (s':S) (E':Env),e' = .panicked ch/\False/\s'.t=s.t/\E.le E'/\Hp w0 C0 β0 s'.bx s'.rw w' E'):=hcx
  refine CallsD.mono hcx' ?_;rintro e' m w' ⟨rfl,⟨y,rfl,⟨⟨r0,s',E',h1,h2,h3,h4,h5,_⟩⟩⟩ | ⟨ch,s',E',_,h,_⟩⟩
  ·exact jiU hfin r ds' s' E' w' (hrest.mono h3) h4 (by rw[h2];exact A.repL.mono _ h3 ht) h1
  ·exact h.elim
theorem jm6 {f:Nat} {fn:Func} {x:Code} {ins:List (List A)} {e k n:Nat} {cs args:List A} {post:List (List A)->Nat->List A->A->Prop} (hc:c.ok) (hf:c.P.funcs[f]? = some fn) (hb:fn.body=some x) (hname:(fn.name == "runtime.NumGoroutine")=false)
  (hn:ins.length=c.np) (h:okL args->jdw args (fn.ntmps-args.length) fun t=>OkT c.P c.np (fun _ _ _=>False) (fun dr ex s=>(ex = .normal ∨ ex = .ret)/\jgu c e k fn.results.toList post dr s) [] x ⟨t,ins,[.live e k n cs]⟩):jmB c.P f ins e k n cs args post:=by
 refine⟨jdp hf hb hname,fun w C β vals y xs h0 h1 h2 h3 h4 h5 h6 h7 h8 h9 => ?_⟩;refine calls_of_wp_defers hf hb ?_
 have hinit:=initK_iff.1 (h (jbo _ h9))
 have hinv:=jfZ (nt:=fn.ntmps) h0 h1 h2 h3 h4 h5 h6 h7 h8 h9
 unfold OkT at hinit;refine hinit ⟨w,(blk y).toList⟩ C β _ w _ (by rw[<- h4,hn]) hinv (fun dr ch s' a' w' hl _=>hl.elim) (fun dr ex s' a' w' hl ⟨E,hp,ht,hd⟩ => ?_)
 have key:=jiU (c:=c) (e:=e) (k:=k) (fn:=fn) (post:=post) (tmps:=a'.tmps) (R:=fun e' w' => (∃ (outs:List (List A)) (n':Nat) (cs':List A) (r:A) (v y':Value) (xs':List Value) (C':Rd),e' = .returned v/\post outs n' cs' r/\Keeps (β++(blk y).toList) w w'/\Sub C C'/\Sub C' (see w')/\(∀ ad u,C' ad=some u->C ad=some u ∨ w.heap.size<=ad.block ∨ blk y=some ad.block)/\outs.length=β.length ∧
   (∀ (i b:Nat) (cs:List A),β[i]? = some b->outs[i]? = some cs->boxAt w' ⟨C',β,[y']⟩ b cs)/\owR w' e k y' n' xs'/\A.repC cs' ⟨C',[],[]⟩ xs'/\(∀ b,blk y'=some b->(∀ o sp,C' ⟨b,o,sp⟩ = none)/\(w.heap.size<=b ∨ blk y=some b))/\r.rep ⟨C',β,[y']⟩ v) ∨
   ∃ (ch:List PanicEntry) (ns:List Nat),e' = .panicked ch/\False/\Keeps (β++(blk y).toList) w w'/\ns.length=β.length /\ ∀ (i b n:Nat),β[i]? = some b->ns[i]? = some n->boxAt w' ⟨C,β,[]⟩ b (List.replicate n .dead))
  (fun s2 w2 ⟨g,hr⟩ hi=>by
   obtain⟨-,v,q1,q2⟩ := jmU (w:=w) (C:=C) (β:=β) (fn:=fn) (post:=post) (y:=y) hc (by rw[<- h4,hn]) hr hi
   exact⟨v,q1,.inl q2⟩) dr a'.defers s' E w' hd hp ht hl.2
 rcases hl.1 with rfl | rfl
 ·exact key
 ·exact key
end
section
variable {c:Cx} {P:Program} {np:Nat} {pt:List (Nat × List A)->List PanicEntry->S->Prop} {qt:List (Nat × List A)->Exit->S->Prop} {dr:List (Nat × List A)} {s:S}
theorem jrH {x y:Code} (h:OkT P np pt (fun dr' e s' => tQ P np pt qt dr' y e s') dr x s):OkT P np pt qt dr (.seq x y) s:=by
 unfold OkT at h ⊢;intro w0 C0 β0 a w Q hn hi hx hk;refine wp_seq (h w0 C0 β0 a w _ hn hi (fun dr' ch s' a' w' h1 h2=>hx dr' ch s' a' w' h1 h2) fun dr' e s' a' w' h1 h2 => ?_)
 cases e with
 | normal =>
  have h1:OkT P np pt qt dr' y s':=h1
  unfold OkT at h1;exact h1 w0 C0 β0 a' w' Q hn h2 hx hk
 | _=>exact hk dr' _ _ _ _ h1 h2
def jxU (s:S) (ids:List Nat) (fo:Operand) (xs:List Operand) (K:Nat->List A->S->Prop):Prop :=
 match s with
 | ⟨t,bx,rw⟩=>jaB (ja1 rw ids) fun rw' => jgY (jkf rw') t fun t' => jnx rw' bx fun bx' => match ev ⟨t',bx',rw'⟩ fo with
  | .clo f caps=>jgY (ev ⟨t',bx',rw'⟩) xs fun l=>K f (l++caps) ⟨t',bx',rw'⟩
  | _=>False
theorem jg6 {id:Nat} {l:List Oper} {od:Oper} {fo:Operand} {xs:Array Operand} {ts:Array TypeId} (ids:List Nat) (hc:c.ok) (hdr:∃ n,jcf n dr=true) (hp:∀ ch s',c.pan ch s'->pt dr ch s') (hop:od.op = .defer ⟨.value fo,xs,ts⟩) (hg:od.guard=none) (hd:od.dst=none)
  (h:jmG c (l++[od]) l s fun s' => jxU s' ids fo xs.toList fun f args s'' => qt ((f,args) :: dr) .normal s''):OkT c.P c.np pt qt dr (.region id (l++[od]).toArray false) s:=by
 unfold OkT;intro w0 C0 β0 a w Q hn hi hx hk;refine wp_region_lit (jke (l2:=[od]) (Q:=Q) hc hdr (fun ch s' a' w' h1 h2=>hx dr ch s' a' w' (hp ch s' h1) h2) hi h fun s' a' w' h1 h2 => ?_)
 refine wpList_step fun Kc hKc => ?_
 rw[if_pos (by simp[Region.wanted,hg])]
 obtain⟨t,bx,rw'⟩ := s'
 unfold jxU at h1
 simp only at h1
 rw[jaC,jaA,jfH] at h1
 have hle:Le (β0.length) ⟨t,bx,rw'⟩ _:=(jrk (np:=β0.length) (s:=⟨t,bx,rw'⟩) ids).trans jrl
 -- publishing keeps what is deferred
 obtain⟨E,hpp,ht,hdd⟩ := h2
 obtain⟨C',hp1,le1⟩ := hpp.pubs ids
 have ht1:=jfI (E:=⟨C',E.β,E.ρ⟩) hp1 (A.repL.mono _ le1 ht)
 have hd1:=hdd.mono le1
 have hp2:Hp w0 C0 β0 (bx.map fun c=>c.map (jkf (ja1 rw' ids))) (ja1 rw' ids) w' ⟨C',E.β,E.ρ⟩ := by
  refine⟨hp1.sub,hp1.base,hp1.fresh,hp1.bp,hp1.bnd,hp1.bC,by simpa using hp1.bl,fun i b cs h1 h2 => ?_,hp1.rl,hp1.rws,hp1.rC,hp1.rd,hp1.rs,hp1.keep,hp1.gk⟩;rw[List.getElem?_map,Option.map_eq_some_iff] at h2
  obtain⟨c0,h2,rfl⟩ := h2
  obtain⟨T',arr,h3,h4⟩ := hp1.bxs i b c0 h1 h2
  exact⟨T',arr,h3,h4.map (jkf (ja1 rw' ids)) (fun l us k=>jfI (E:=⟨C',E.β,E.ρ⟩) hp1 k) rfl (fun t=>rfl) fun a t e=>by
   unfold jkf at e
   split at e
   ·split at e <;> cases e
   ·exact e⟩
 split at h1
 ·rename_i f caps hev
  rw[jaA] at h1
  have hf:=jaj (s:=⟨t.map (jkf (ja1 rw' ids)),bx.map fun c=>c.map (jkf (ja1 rw' ids)),ja1 rw' ids⟩) ht1 fo
  rw[hev] at hf;unfold A.rep at hf
  obtain⟨us,hf,hcaps⟩ := hf
  have hrun:(execOp a'.eval od).run c.P w' = .ok (.defer { target := .fn (.func f) us,args:=xs.map a'.eval }) w':=by simp[execOp,hop,resolve,Deferred.ofValue,hf,Result.andThen]
  unfold Oper.wp;rw[hrun,Oper.upon_defer];rw[hd];refine hKc _ _ (hk _ _ _ _ _ h1 ⟨⟨C',E.β,E.ρ⟩,hp2,ht1,{ target := .fn (.func f) us,args:=xs.map a'.eval },a'.defers,us,rfl,rfl,?_,hd1⟩)
  have:=A.repL_append (jcK (s:=⟨t.map (jkf (ja1 rw' ids)),bx.map fun c=>c.map (jkf (ja1 rw' ids)),ja1 rw' ids⟩) ht1 xs.toList) hcaps
  simpa using this
 ·exact h1.elim
end
theorem jvB {P:Program} {f:Nat} {args args':List A} {s:S} {K:S->Prop} {post:List (List A)->Nat->List A->A->Prop} (i g m:Nat) (ids:List Nat) (hm:s.rw.length=m) {e k n:Nat} {cs c0 c1:List A} (hi:s.bx[i]? = some c0) (hg:(ja1 s.rw ids)[g]? = some (.live e k n cs)) (h1:jbx [i] g (ja1 s.rw ids) c0=some c1) (h2:jbx [i] g (ja1 s.rw ids) args=some args') (hs:jqj P f [c1] e k n cs args' post)
  (hk:∀ o n' cs' r,post [o] n' cs' r->jhF [i] m s.bx [i] [o] fun bx' => jbw (backG [i] m r) fun r' => jaB ((ja1 s.rw ids).set g .gone++[.live e k n' cs']) fun rw' => jbM s bx' rw' K):jzd P f args s K:=by
 subst hm;unfold jzd
 have hil:=(List.getElem?_eq_some_iff.1 hi).1
 refine⟨hs.r.1,[i],ids,g,e,k,n,cs,[c1],args',post,by simp,by simpa using hil,hg,?_,h2,fun _=>hs.d .returning,fun outs n' cs' r hp hl => ?_⟩
 ·have:s.bx.getD i []=c0:=by simp[List.getD_eq_getElem?_getD,hi]
  simp only[List.map_cons,List.map_nil,this,jdY,h1]
 ·obtain⟨o,rfl⟩ : ∃ o,outs=[o]:=List.length_eq_one_iff.1 (by simpa using hl)
  exact hk o n' cs' r hp
end
end Go.Proofs.YtfbifdccmabdbaaGreatDoor.Vm
namespace Go.Proofs.YtfbifdccmabdbaaGreatDoor.Vm
open Go.RowKit Go.Shelf
set_option linter.unusedSimpArgs false
set_option linter.unusedVariables false
set_option maxRecDepth 100000
section
section
variable {P:Program} {pan:List PanicEntry->S->Prop} {Xr:Nat->Bool} {f:Nat} {args args':List A} {s:S} {K:A->S->Prop} {post:List (List A)->Nat->List A->A->Prop}
theorem jkH (X:List Nat) (g m:Nat) (ids:List Nat) (hm:s.rw.length=m) {e k n:Nat} {cs:List A} {ins:List (List A)} (hf:Xr 1000000007=true) (hn:X.Nodup) (hX:∀ i ∈ X,Xr i=true) (hi:∀ i ∈ X,i<s.bx.length) (hg:(ja1 s.rw ids)[g]? = some (.live e k n cs)) (h1:jdY X g (ja1 s.rw ids) (X.map fun i=>s.bx.getD i [])=some ins) (h2:jbx X g (ja1 s.rw ids) args=some args') (hs:okL args'->jmB P f ins e k n cs args' post)
  (hk:∀ outs n' cs' r,post outs n' cs' r->outs.length=X.length->jhF X m s.bx X outs fun bx' => jbw (backG X m r) fun r' => jaB ((ja1 s.rw ids).set g .gone++[.live e k n' cs']) fun rw' => jbM s bx' rw' (K r')):jc2 P pan Xr f args s K:=by
 subst hm;unfold jc2
 right;right;right;right;left
 exact⟨hf,X,ids,g,e,k,n,cs,ins,args',post,_,hn,hX,hi,hg,h1,h2,hs,hk,fun ch bx' h _ _=>h.elim⟩
end
abbrev jqi (f:Nat) (ins:List (List A)) (l:List Ic) (args:List A) (post:List (List A)->List Ic->A->Prop):Prop :=
 jqj Tryz.prog f ins 52 2 l.length (jaJ l) args fun o n cs r => ∃ l',n=l'.length/\cs=jaJ l'/\post o l' r
theorem jzT (u:Ut) (l:List Ic) (op n:Int) (hl:l.length<=1000000):jqi 40 [cbx u] l [.box 0 0,intA op,intA n] fun o l' r=>o=[cbx u]/\l'=l++[(op,n)]/\r=intA l.length:=by
 refine jm5 (ja2 jax xs0 1) (fun _ _ h=>h) Tryz.func40 rfl (by kernel_rfl) rfl (by kernel_rfl) ?_;intro _;conv=>whnf
 refine⟨⟨by unfold maxLen;omega,by omega⟩,?_⟩;conv=>whnf
 refine⟨ja7 (by omega),?_⟩;conv=>whnf
 refine⟨0,?_⟩;conv=>whnf
 refine⟨l++[(op,n)],by rw[List.length_append];rfl,?_,rfl,rfl,?_⟩
 ·rw[jav];rfl
 ·show intA (((l.length+1:Nat):Int)-1)=intA l.length
  congr 1;omega
theorem jzY (u:Ut) (l:List Ic) (k:Nat) (hk:k<l.length) (hl:l.length<=1000000):jqi 121 [cbx u] l [.box 0 0,intA k] fun o l' r=>o=[cbx u]/\l'=l.set k (l[k].1,l.length)/\r = .tup []:=by
 refine jm5 (ja2 jyv xs0 1) (fun _ _ h=>h) Tryz.func121 rfl (by kernel_rfl) rfl (by kernel_rfl) ?_;intro _;conv=>whnf
 refine⟨⟨by omega,by omega⟩,?_⟩;conv=>whnf
 rw[show ((k:Int)).toNat=k from rfl];refine jd3 (by rw[jfh];omega) ?_;conv=>whnf
 refine⟨0,?_⟩;conv=>whnf
 refine⟨l.set k (l[k].1,l.length),by rw[List.length_set],?_,rfl,rfl,rfl⟩;exact jgT l k hk l.length
theorem jmP (u:Ut) (n:Int) (s:ByteArray) (kids:List Nt) (hm:kids.length<=3002) (hf:∀ f ∈ kids,jbd u f) (l:List Ic) (hl:l.length+jbK kids+1<=1000000):jeD 76 [cbx u] l [.box 0 0,.agg (ntA (.mk 17 n s kids))] fun o l' r=>o=[cbx u]/\l'=l++jc9 (jaf (ixU u) kids) l.length++(if s=pMinus then [(10,0)] else [(14,0)])/\r = .tup []:=by
 have hk:=jfj u 17 n s kids hm hf l (by omega)
 simp only[ntA,Nt.k,Nt.n,Nt.s,Nt.kids] at hk
 have hz:=jbb (u:=u) kids l.length hf
 have hem:=fun (l:List Ic) (op n:Int) (h:l.length<=1000000)=>jcs u l op n h
 generalize jc9 (jaf (ixU u) kids) l.length=y at *
 have hly:(l++y).length<=999999:=by rw[List.length_append];omega
 generalize l++y=l3 at *;simp only[ntA,Nt.k,Nt.n,Nt.s,Nt.kids];refine jae (ja2 jax xs0 1) (fun _ _ h=>h) Tryz.func76 rfl (by kernel_rfl) rfl (by kernel_rfl) ?_;intro _;conv=>whnf
 refine jaa 0 0 1 [] rfl rfl rfl rfl rfl rfl rfl (fun _=>hk) ?_;rintro o n' cs' r ⟨l2,rfl,rfl,ho,hl2,rfl⟩;cases ho;subst hl2;conv=>whnf
 by_cases hs:s=pMinus
 ·rw[if_pos hs];refine jb2 (b:=decide (s = ⟨#[45]⟩)) (decide_eq_true hs) ?_;conv=>whnf
  refine jaa 0 1 2 [] rfl rfl rfl rfl rfl rfl rfl (fun _=>hem l2 10 0 (by omega)) ?_;rintro o n' cs' r ⟨l4,rfl,rfl,ho,hl4,rfl⟩;cases ho;conv=>whnf
  refine⟨2,?_⟩;conv=>whnf
  exact⟨l4,rfl,rfl,rfl,hl4,rfl⟩
 ·rw[if_neg hs];refine jaz (b:=decide (s = ⟨#[45]⟩)) (decide_eq_false hs) ?_;conv=>whnf
  refine jaa 0 1 2 [] rfl rfl rfl rfl rfl rfl rfl (fun _=>hem l2 14 0 (by omega)) ?_;rintro o n' cs' r ⟨l4,rfl,rfl,ho,hl4,rfl⟩;cases ho;conv=>whnf
  refine⟨2,?_⟩;conv=>whnf
  exact⟨l4,rfl,rfl,rfl,hl4,rfl⟩
theorem jsr {α:Type} : ∀ (a:List α) (x v:α) (b:List α),(a++x :: b).set a.length v=a++v :: b
 | [],x,v,b=>rfl
 | y :: a,x,v,b=>by
  show y :: (a++x :: b).set a.length v=_
  rw[jsr a x v b];rfl
theorem jvN (u:Ut) (a b:List Ic) (op x:Int) (hl:(a++(op,x) :: b).length<=1000000):jqi 121 [cbx u] (a++(op,x) :: b) [.box 0 0,intA a.length] fun o l' r=>o=[cbx u]/\l'=a++(op,((a++(op,x) :: b).length:Int)) :: b/\r = .tup []:=by
 have hk:a.length<(a++(op,x) :: b).length:=by rw[List.length_append,List.length_cons];omega
 have h:=jzY u (a++(op,x) :: b) a.length hk hl
 have e:(a++(op,x) :: b)[a.length]=(op,x):=by simp
 rw[e,jsr] at h;exact h
def jzc (u:Ut) (nd:Nt) (f:Nat) (caps:List A) (g:Int->List Ic) (z:Nat):Prop:=(∀ at':Int,(g at').length<=z) /\ ∀ l:List Ic,l.length+z<=1000000->jeD f [cbx u,[.box 0 0],ntA nd] l caps fun o l' r=>o=[cbx u,[.box 0 0],ntA nd]/\l'=l++g l.length/\r = .tup []
theorem choose_spec (u:Ut) (nd:Nt) (f:Nt) (hf:jbd u f) (fy fn zy zn:Nat) (cy cn:List A) (gy gn:Int->List Ic) (hcy:cy=[.box 1 0,.box 2 0] ∨ cy=[.box 1 0]) (hcn:cn=[.box 1 0,.box 2 0] ∨ cn=[.box 1 0]) (hy:jzc u nd fy cy gy zy) (hn:jzc u nd fn cn gn zn) (l:List Ic) (hl:l.length+szN f+zy+zn+2<=1000000):jeD 116 [cbx u,[.box 0 0],ntA nd] l [.box 0 0,.agg (ntA f),.clo fy cy,.clo fn cn] fun o l' r=>o=[cbx u,[.box 0 0],ntA nd]/\l'=l++brC (jal (ixU u) f) gy gn l.length/\r = .tup []:=by
 have hz1:=hf.1 l.length
 have hN:=hf.2 l (by omega)
 have hem:=fun (l:List Ic) (op n:Int) (h:l.length<=1000000)=>jcs u l op n h
 generalize hC:jal (ixU u) f l.length=C at *
 have e1:(l++C).length=l.length+C.length:=List.length_append
 have h1:=hem (l++C) 16 0 (by omega)
 have e2:(l++C++[(16,0)]).length=l.length+C.length+1:=by rw[List.length_append,e1];rfl
 have hz2:=hy.1 ((l++C++[((16:Int),(0:Int))]).length:Nat)
 have h2:=hy.2 (l++C++[(16,0)]) (by omega)
 generalize hY:gy ((l++C++[((16:Int),(0:Int))]).length:Nat)=Y at *
 have e3:(l++C++[(16,0)]++Y).length=l.length+C.length+1+Y.length:=by rw[List.length_append,e2]
 have h3:=hem (l++C++[(16,0)]++Y) 15 0 (by omega)
 have e4:l++C++[(16,0)]++Y++[(15,0)]=(l++C)++((16:Int),(0:Int)) :: (Y++[(15,0)]):=by simp
 have e5:((l++C)++((16:Int),(0:Int)) :: (Y++[((15:Int),(0:Int))])).length=l.length+C.length+1+Y.length+1:=by rw[<- e4,List.length_append,e3];rfl
 have h4:=jvN u (l++C) (Y++[(15,0)]) 16 0 (by omega)
 rw[e5] at h4
 have e6:((l++C)++((16:Int),((l.length+C.length+1+Y.length+1:Nat):Int)) :: (Y++[((15:Int),(0:Int))])).length=l.length+C.length+1+Y.length+1:=by
  rw[List.length_append,List.length_cons,e1,List.length_append];simp;omega
 have hz3:=hn.1 ((l.length+C.length+1+Y.length+1:Nat):Int)
 have h5:=hn.2 ((l++C)++((16:Int),((l.length+C.length+1+Y.length+1:Nat):Int)) :: (Y++[((15:Int),(0:Int))])) (by omega)
 rw[e6] at h5;generalize hN2:gn ((l.length+C.length+1+Y.length+1:Nat):Int)=N at *
 have e7:(l++C)++((16:Int),((l.length+C.length+1+Y.length+1:Nat):Int)) :: (Y++[((15:Int),(0:Int))])++N=((l++C)++((16:Int),((l.length+C.length+1+Y.length+1:Nat):Int)) :: Y)++(15,0) :: N:=by simp
 have e8:((l++C)++((16:Int),((l.length+C.length+1+Y.length+1:Nat):Int)) :: Y).length=l.length+C.length+1+Y.length:=by
  rw[List.length_append,List.length_cons,e1];omega
 have e9:(((l++C)++((16:Int),((l.length+C.length+1+Y.length+1:Nat):Int)) :: Y)++((15:Int),(0:Int)) :: N).length=l.length+C.length+1+Y.length+1+N.length:=by
  rw[List.length_append,List.length_cons,e8];omega
 have h6:=jvN u ((l++C)++((16:Int),((l.length+C.length+1+Y.length+1:Nat):Int)) :: Y) N 15 0 (by omega)
 rw[e8,e9] at h6
 have hfin:l++brC (jal (ixU u) f) gy gn l.length=((l++C)++((16:Int),((l.length+C.length+1+Y.length+1:Nat):Int)) :: Y)++((15:Int),((l.length+C.length+1+Y.length+1+N.length:Nat):Int)) :: N:=by
  unfold brC;simp only[hC];rw[e2] at hY
  have k1:(l.length:Int)+(C.length:Int)+1=((l.length+C.length+1:Nat):Int):=by omega
  rw[k1,hY]
  have k2:((l.length+C.length+1:Nat):Int)+(Y.length:Int)+1=((l.length+C.length+1+Y.length+1:Nat):Int):=by omega
  rw[k2,hN2]
  have k3:((l.length+C.length+1+Y.length+1:Nat):Int)+(N.length:Int)=((l.length+C.length+1+Y.length+1+N.length:Nat):Int):=by omega
  rw[k3]
  simp
 rw[e3] at h3;rw[hfin];rw[e4] at h3;rw[e7] at h5
 rcases hcy with rfl | rfl <;> rcases hcn with rfl | rfl
 all_goals
  refine jm6 (ja2 jax xs0 3) Tryz.func116 rfl (by kernel_rfl) rfl ?_;intro _;conv=>whnf
  refine jaS (ja2 jax xs0 3) (dr:=[]) ⟨0,rfl⟩ (.inl rfl) (by kernel_rfl) (fun _ _ h=>h.elim) ?_;conv=>whnf
  refine jaS (ja2 jax xs0 3) (dr:=[]) ⟨0,rfl⟩ (.inl rfl) (by kernel_rfl) (fun _ _ h=>h.elim) ?_;conv=>whnf
  refine jaa 0 0 1 [] rfl rfl rfl rfl rfl rfl rfl (fun _=>hN) ?_;rintro o n' cs' r ⟨l2,rfl,rfl,ho,hl2,rfl⟩;cases ho;subst hl2;conv=>whnf
  refine jaS (ja2 jax xs0 3) (dr:=[]) ⟨0,rfl⟩ (.inl rfl) (by kernel_rfl) (fun _ _ h=>h.elim) ?_;conv=>whnf
  refine jaa 0 1 2 [] rfl rfl rfl rfl rfl rfl rfl (fun _=>h1) ?_;rintro o n' cs' r ⟨l3,rfl,rfl,ho,hl3,rfl⟩;cases ho;subst hl3;conv=>whnf
  refine jaS (ja2 jax xs0 3) (dr:=[]) ⟨0,rfl⟩ (.inl rfl) (by kernel_rfl) (fun _ _ h=>h.elim) ?_;conv=>whnf
  refine jkH [0,1,2] 2 3 [] rfl rfl (by decide) (by simp) (by simp) rfl rfl rfl (fun _=>h2) ?_;rintro o n' cs' r ⟨l4,rfl,rfl,ho,hl4,rfl⟩ _;cases ho;subst hl4;conv=>whnf
  refine jaS (ja2 jax xs0 3) (dr:=[]) ⟨0,rfl⟩ (.inl rfl) (by kernel_rfl) (fun _ _ h=>h.elim) ?_;conv=>whnf
  refine jaa 0 3 4 [] rfl rfl rfl rfl rfl rfl rfl (fun _=>h3) ?_;rintro o n' cs' r ⟨l5,rfl,rfl,ho,hl5,rfl⟩;cases ho;subst hl5;conv=>whnf
  refine jrH ?_;refine jg6 (l:=[_,_]) [] (ja2 jax xs0 3) ⟨0,rfl⟩ (fun _ _ h=>h.elim) rfl rfl rfl ?_;conv=>whnf
  refine joF (ja2 jax xs0 3) ⟨1,rfl⟩ (.inl rfl) (by kernel_rfl) (fun _ _ h=>h.elim) ?_;conv=>whnf
  refine jaa 0 4 5 [] rfl rfl rfl rfl rfl rfl rfl (fun _=>h4.r) ?_;rintro o n' cs' r ⟨l6,rfl,rfl,ho,hl6,rfl⟩;cases ho;subst hl6;conv=>whnf
  refine jkH [0,1,2] 5 6 [] rfl rfl (by decide) (by simp) (by simp) rfl rfl rfl (fun _=>h5) ?_;rintro o n' cs' r ⟨l7,rfl,rfl,ho,hl7,rfl⟩ _;cases ho;subst hl7;conv=>whnf
  refine⟨.inl rfl,?_⟩;unfold jgu;refine jvB 0 6 7 [] rfl rfl rfl rfl rfl h6 ?_;rintro o n' cs' r ⟨l8,rfl,rfl,ho,hl8,rfl⟩;cases ho;conv=>whnf
  refine⟨7,?_⟩;conv=>whnf
  exact⟨l8,rfl,rfl,rfl,hl8,rfl⟩
end
theorem jjz (u:Ut) (k n:Int) (s:ByteArray) (kids:List Nt) (i c:Nat) (hi:i<kids.length) (hf:jbd u kids[i]) (hc:c=115/\i=1 ∨ c=119/\i=1 ∨ c=120/\i=2):jzc u (.mk k n s kids) c [.box 1 0,.box 2 0] (jal (ixU u) kids[i]) (szN kids[i]):=by
 refine⟨hf.1,fun l hl => ?_⟩
 have hN:=hf.2 l hl
 have hrow:=jaO kids i hi
 generalize kids[i]=g at *;simp only[ntA,Nt.k,Nt.n,Nt.s,Nt.kids]
 rcases hc with ⟨rfl,rfl⟩ | ⟨rfl,rfl⟩ | ⟨rfl,rfl⟩
 ·refine jae (ja2 jys xs0 3) (fun _ _ h=>h) Tryz.func115 rfl (by kernel_rfl) rfl (by kernel_rfl) ?_;intro _;conv=>whnf
  refine⟨by omega,?_⟩;conv=>whnf
  (generalize hrq:ja5 _ _ (jbQ kids)=rq;obtain rfl:rq=ntA g:=hrq.symm.trans (hrow);clear hrq;conv=>whnf)
  refine jaa 0 0 1 [] rfl rfl rfl rfl rfl rfl rfl (fun _=>hN) ?_;rintro o n' cs' r ⟨l2,rfl,rfl,ho,hl2,rfl⟩;cases ho;conv=>whnf
  refine⟨1,?_⟩;conv=>whnf
  exact⟨l2,rfl,rfl,rfl,hl2,rfl⟩
 ·refine jae (ja2 jyt xs0 3) (fun _ _ h=>h) Tryz.func119 rfl (by kernel_rfl) rfl (by kernel_rfl) ?_;intro _;conv=>whnf
  refine⟨by omega,?_⟩;conv=>whnf
  (generalize hrq:ja5 _ _ (jbQ kids)=rq;obtain rfl:rq=ntA g:=hrq.symm.trans (hrow);clear hrq;conv=>whnf)
  refine jaa 0 0 1 [] rfl rfl rfl rfl rfl rfl rfl (fun _=>hN) ?_;rintro o n' cs' r ⟨l2,rfl,rfl,ho,hl2,rfl⟩;cases ho;conv=>whnf
  refine⟨1,?_⟩;conv=>whnf
  exact⟨l2,rfl,rfl,rfl,hl2,rfl⟩
 ·refine jae (ja2 jyu xs0 3) (fun _ _ h=>h) Tryz.func120 rfl (by kernel_rfl) rfl (by kernel_rfl) ?_;intro _;conv=>whnf
  refine⟨by omega,?_⟩;conv=>whnf
  (generalize hrq:ja5 _ _ (jbQ kids)=rq;obtain rfl:rq=ntA g:=hrq.symm.trans (hrow);clear hrq;conv=>whnf)
  refine jaa 0 0 1 [] rfl rfl rfl rfl rfl rfl rfl (fun _=>hN) ?_;rintro o n' cs' r ⟨l2,rfl,rfl,ho,hl2,rfl⟩;cases ho;conv=>whnf
  refine⟨1,?_⟩;conv=>whnf
  exact⟨l2,rfl,rfl,rfl,hl2,rfl⟩
theorem jo6 (u:Ut) (k n:Int) (s:ByteArray) (kids:List Nt) (c:Nat) (v:Int) (hc:c=117/\v=0 ∨ c=118/\v=1):jzc u (.mk k n s kids) c [.box 1 0] (fun _=>[(1,v)]) 1:=by
 refine⟨fun _=>Nat.le_refl _,fun l hl => ?_⟩
 have hN:=jcs u l 1 v (by omega)
 simp only[ntA,Nt.k,Nt.n,Nt.s,Nt.kids]
 rcases hc with ⟨rfl,rfl⟩ | ⟨rfl,rfl⟩
 ·refine jae (ja2 jax xs0 3) (fun _ _ h=>h) Tryz.func117 rfl (by kernel_rfl) rfl (by kernel_rfl) ?_;intro _;conv=>whnf
  refine jaa 0 0 1 [] rfl rfl rfl rfl rfl rfl rfl (fun _=>hN) ?_;rintro o n' cs' r ⟨l2,rfl,rfl,ho,hl2,rfl⟩;cases ho;conv=>whnf
  refine⟨1,?_⟩;conv=>whnf
  exact⟨l2,rfl,rfl,rfl,hl2,rfl⟩
 ·refine jae (ja2 jax xs0 3) (fun _ _ h=>h) Tryz.func118 rfl (by kernel_rfl) rfl (by kernel_rfl) ?_;intro _;conv=>whnf
  refine jaa 0 0 1 [] rfl rfl rfl rfl rfl rfl rfl (fun _=>hN) ?_;rintro o n' cs' r ⟨l2,rfl,rfl,ho,hl2,rfl⟩;cases ho;conv=>whnf
  refine⟨1,?_⟩;conv=>whnf
  exact⟨l2,rfl,rfl,rfl,hl2,rfl⟩
theorem jek (k n:Int) (s:ByteArray) (kids:List Nt):ntA (.mk k n s kids)=[intA k,intA n,jbm s,.sl 4 kids.length (jbQ kids)]:=rfl
theorem jmM (u:Ut) (n:Int) (s:ByteArray) (kids:List Nt) (h3:kids.length=3) (hf:∀ f ∈ kids,jbd u f) (l:List Ic) (hl:l.length+(kids.map szN).sum+2<=1000000):jeD 78 [cbx u] l [.box 0 0,.agg (ntA (.mk 2 n s kids))] fun o l' r=>o=[cbx u]/\l'=l++brC (jal (ixU u) (kids[0]'(by omega))) (jal (ixU u) (kids[1]'(by omega))) (jal (ixU u) (kids[2]'(by omega))) l.length/\r = .tup []:=by
 have h1:=jjz u 2 n s kids 1 119 (by omega) (hf _ (List.getElem_mem _)) (.inr (.inl ⟨rfl,rfl⟩))
 have h2:=jjz u 2 n s kids 2 120 (by omega) (hf _ (List.getElem_mem _)) (.inr (.inr ⟨rfl,rfl⟩))
 have hsum:szN (kids[0]'(by omega))+szN (kids[1]'(by omega))+szN (kids[2]'(by omega))<=(kids.map szN).sum:=by
  match kids,h3 with
  | [a,b,c],_=>simp;omega
 have hch:=choose_spec u _ (kids[0]'(by omega)) (hf _ (List.getElem_mem _)) _ _ _ _ _ _ _ _ (.inl rfl) (.inl rfl) h1 h2 l (by omega)
 have hrow:=jaO kids 0 (by omega)
 generalize kids[0]'(by omega)=g at *;rw[jek] at hch ⊢;refine jae (ja2 jAr xs0 1) (fun _ _ h=>h) Tryz.func78 rfl (by kernel_rfl) rfl (by kernel_rfl) ?_;intro _;conv=>whnf
 refine⟨by omega,?_⟩;conv=>whnf
 (generalize hrq:ja5 _ _ (jbQ kids)=rq;obtain rfl:rq=ntA g:=hrq.symm.trans (hrow);clear hrq;conv=>whnf)
 refine jkH [0,1,2] 0 1 [] rfl rfl (by decide) (by simp) (by simp) rfl rfl rfl (fun _=>hch) ?_;rintro o n' cs' r ⟨l2,rfl,rfl,ho,hl2,rfl⟩ _;cases ho;conv=>whnf
 refine⟨1,?_⟩;conv=>whnf
 exact⟨l2,rfl,rfl,rfl,hl2,rfl⟩
theorem jvu (u:Ut) (n:Int) (kids:List Nt) (h3:kids.length=2) (hf:∀ f ∈ kids,jbd u f) (l:List Ic) (hl:l.length+(kids.map szN).sum+3<=1000000):jeD 77 [cbx u] l [.box 0 0,.agg (ntA (.mk 18 n jga kids))] fun o l' r=>o=[cbx u]/\l'=l++brC (jal (ixU u) (kids[0]'(by omega))) (jal (ixU u) (kids[1]'(by omega))) (fun _=>[(1,0)]) l.length/\r = .tup []:=by
 have h1:=jjz u 18 n jga kids 1 115 (by omega) (hf _ (List.getElem_mem _)) (.inl ⟨rfl,rfl⟩)
 have h2:=jo6 u 18 n jga kids 117 0 (.inl ⟨rfl,rfl⟩)
 have hsum:szN (kids[0]'(by omega))+szN (kids[1]'(by omega))<=(kids.map szN).sum:=by
  match kids,h3 with
  | [a,b],_=>simp
 have hch:=choose_spec u _ (kids[0]'(by omega)) (hf _ (List.getElem_mem _)) _ _ _ _ _ _ _ _ (.inl rfl) (.inr rfl) h1 h2 l (by omega)
 have hrow:=jaO kids 0 (by omega)
 generalize kids[0]'(by omega)=g at *;rw[jek] at hch ⊢;refine jae (ja2 jgI xs0 1) (fun _ _ h=>h) Tryz.func77 rfl (by kernel_rfl) rfl (by kernel_rfl) ?_;intro _;conv=>whnf
 refine⟨by omega,?_⟩;conv=>whnf
 (generalize hrq:ja5 _ _ (jbQ kids)=rq;obtain rfl:rq=ntA g:=hrq.symm.trans (hrow);clear hrq;conv=>whnf)
 refine jkH [0,1,2] 0 1 [] rfl rfl (by decide) (by simp) (by simp) rfl rfl rfl (fun _=>hch) ?_;rintro o n' cs' r ⟨l2,rfl,rfl,ho,hl2,rfl⟩ _;cases ho;conv=>whnf
 refine⟨1,?_⟩;conv=>whnf
 exact⟨l2,rfl,rfl,rfl,hl2,rfl⟩
theorem jxp (u:Ut) (n:Int) (kids:List Nt) (h3:kids.length=2) (hf:∀ f ∈ kids,jbd u f) (l:List Ic) (hl:l.length+(kids.map szN).sum+3<=1000000):jeD 77 [cbx u] l [.box 0 0,.agg (ntA (.mk 18 n pOr kids))] fun o l' r=>o=[cbx u]/\l'=l++brC (jal (ixU u) (kids[0]'(by omega))) (fun _=>[(1,1)]) (jal (ixU u) (kids[1]'(by omega))) l.length/\r = .tup []:=by
 have h1:=jjz u 18 n pOr kids 1 115 (by omega) (hf _ (List.getElem_mem _)) (.inl ⟨rfl,rfl⟩)
 have h2:=jo6 u 18 n pOr kids 118 1 (.inr ⟨rfl,rfl⟩)
 have hsum:szN (kids[0]'(by omega))+szN (kids[1]'(by omega))<=(kids.map szN).sum:=by
  match kids,h3 with
  | [a,b],_=>simp
 have hch:=choose_spec u _ (kids[0]'(by omega)) (hf _ (List.getElem_mem _)) _ _ _ _ _ _ _ _ (.inr rfl) (.inl rfl) h2 h1 l (by omega)
 have hrow:=jaO kids 0 (by omega)
 generalize kids[0]'(by omega)=g at *;rw[jek] at hch ⊢;refine jae (ja2 jgI xs0 1) (fun _ _ h=>h) Tryz.func77 rfl (by kernel_rfl) rfl (by kernel_rfl) ?_;intro _;conv=>whnf
 refine⟨by omega,?_⟩;conv=>whnf
 (generalize hrq:ja5 _ _ (jbQ kids)=rq;obtain rfl:rq=ntA g:=hrq.symm.trans (hrow);clear hrq;conv=>whnf)
 refine jkH [0,1,2] 0 1 [] rfl rfl (by decide) (by simp) (by simp) rfl rfl rfl (fun _=>hch) ?_;rintro o n' cs' r ⟨l2,rfl,rfl,ho,hl2,rfl⟩ _;cases ho;conv=>whnf
 refine⟨1,?_⟩;conv=>whnf
 exact⟨l2,rfl,rfl,rfl,hl2,rfl⟩
def opBin:List ByteArray:=[jgJ,pMinus,jdW,jbX,pLt,pLe,jyE,pGt,pGe,pNe]
set_option maxHeartbeats 20000000 in
theorem jxo (u:Ut) (n:Int) (s:ByteArray) (hs:(opBin.any fun x=>decide (s=x))=true) (kids:List Nt) (hm:kids.length<=3002) (hf:∀ f ∈ kids,jbd u f) (l:List Ic) (hl:l.length+jbK kids+2<=1000000):jeD 77 [cbx u] l [.box 0 0,.agg (ntA (.mk 18 n s kids))] fun o l' r=>o=[cbx u]/\l'=l++jc9 (jaf (ixU u) kids) l.length++opC s/\r = .tup []:=by
 have hs:s ∈ opBin:=by
  rw[List.any_eq_true] at hs
  obtain⟨x,h1,h2⟩ := hs
  rw[decide_eq_true_eq] at h2;rw[h2];exact h1
 have hk:=jfj u 18 n s kids hm hf l (by omega)
 have hz:=jbb (u:=u) kids l.length hf
 have hem:=fun (l:List Ic) (op n:Int) (h:l.length<=1000000)=>jcs u l op n h
 generalize jc9 (jaf (ixU u) kids) l.length=y at *
 have hly:(l++y).length<=999998:=by rw[List.length_append];omega
 generalize l++y=l3 at *;rw[jek] at hk ⊢;unfold opBin at hs;simp only[List.mem_cons,List.not_mem_nil,or_false] at hs
 rcases hs with rfl | rfl | rfl | rfl | rfl | rfl | rfl | rfl | rfl | rfl
 ·refine jae (ja2 jgI xs0 1) (fun _ _ h=>h) Tryz.func77 rfl (by kernel_rfl) rfl (by kernel_rfl) ?_;intro _;conv=>whnf
  refine jaa 0 0 1 [] rfl rfl rfl rfl rfl rfl rfl (fun _=>hk) ?_;rintro o n' cs' r ⟨l2,rfl,rfl,ho,hl2,rfl⟩;cases ho;subst hl2;conv=>whnf
  refine jaa 0 1 3 [] rfl rfl rfl rfl rfl rfl rfl (fun _=>hem l2 6 0 (by omega)) ?_;rintro o n' cs' r ⟨l4,rfl,rfl,ho,hl4,rfl⟩;cases ho;conv=>whnf
  refine⟨3,?_⟩;conv=>whnf
  exact⟨l4,rfl,rfl,rfl,hl4,rfl⟩
 ·refine jae (ja2 jgI xs0 1) (fun _ _ h=>h) Tryz.func77 rfl (by kernel_rfl) rfl (by kernel_rfl) ?_;intro _;conv=>whnf
  refine jaa 0 0 1 [] rfl rfl rfl rfl rfl rfl rfl (fun _=>hk) ?_;rintro o n' cs' r ⟨l2,rfl,rfl,ho,hl2,rfl⟩;cases ho;subst hl2;conv=>whnf
  refine jaa 0 1 3 [] rfl rfl rfl rfl rfl rfl rfl (fun _=>hem l2 7 0 (by omega)) ?_;rintro o n' cs' r ⟨l4,rfl,rfl,ho,hl4,rfl⟩;cases ho;conv=>whnf
  refine⟨3,?_⟩;conv=>whnf
  exact⟨l4,rfl,rfl,rfl,hl4,rfl⟩
 ·refine jae (ja2 jgI xs0 1) (fun _ _ h=>h) Tryz.func77 rfl (by kernel_rfl) rfl (by kernel_rfl) ?_;intro _;conv=>whnf
  refine jaa 0 0 1 [] rfl rfl rfl rfl rfl rfl rfl (fun _=>hk) ?_;rintro o n' cs' r ⟨l2,rfl,rfl,ho,hl2,rfl⟩;cases ho;subst hl2;conv=>whnf
  refine jaa 0 1 3 [] rfl rfl rfl rfl rfl rfl rfl (fun _=>hem l2 8 0 (by omega)) ?_;rintro o n' cs' r ⟨l4,rfl,rfl,ho,hl4,rfl⟩;cases ho;conv=>whnf
  refine⟨3,?_⟩;conv=>whnf
  exact⟨l4,rfl,rfl,rfl,hl4,rfl⟩
 ·refine jae (ja2 jgI xs0 1) (fun _ _ h=>h) Tryz.func77 rfl (by kernel_rfl) rfl (by kernel_rfl) ?_;intro _;conv=>whnf
  refine jaa 0 0 1 [] rfl rfl rfl rfl rfl rfl rfl (fun _=>hk) ?_;rintro o n' cs' r ⟨l2,rfl,rfl,ho,hl2,rfl⟩;cases ho;subst hl2;conv=>whnf
  refine jaa 0 1 3 [] rfl rfl rfl rfl rfl rfl rfl (fun _=>hem l2 9 0 (by omega)) ?_;rintro o n' cs' r ⟨l4,rfl,rfl,ho,hl4,rfl⟩;cases ho;conv=>whnf
  refine⟨3,?_⟩;conv=>whnf
  exact⟨l4,rfl,rfl,rfl,hl4,rfl⟩
 ·refine jae (ja2 jgI xs0 1) (fun _ _ h=>h) Tryz.func77 rfl (by kernel_rfl) rfl (by kernel_rfl) ?_;intro _;conv=>whnf
  refine jaa 0 0 1 [] rfl rfl rfl rfl rfl rfl rfl (fun _=>hk) ?_;rintro o n' cs' r ⟨l2,rfl,rfl,ho,hl2,rfl⟩;cases ho;subst hl2;conv=>whnf
  refine jaa 0 1 3 [] rfl rfl rfl rfl rfl rfl rfl (fun _=>hem l2 11 0 (by omega)) ?_;rintro o n' cs' r ⟨l4,rfl,rfl,ho,hl4,rfl⟩;cases ho;conv=>whnf
  refine⟨3,?_⟩;conv=>whnf
  exact⟨l4,rfl,rfl,rfl,hl4,rfl⟩
 ·refine jae (ja2 jgI xs0 1) (fun _ _ h=>h) Tryz.func77 rfl (by kernel_rfl) rfl (by kernel_rfl) ?_;intro _;conv=>whnf
  refine jaa 0 0 1 [] rfl rfl rfl rfl rfl rfl rfl (fun _=>hk) ?_;rintro o n' cs' r ⟨l2,rfl,rfl,ho,hl2,rfl⟩;cases ho;subst hl2;conv=>whnf
  refine jaa 0 1 3 [] rfl rfl rfl rfl rfl rfl rfl (fun _=>hem l2 12 0 (by omega)) ?_;rintro o n' cs' r ⟨l4,rfl,rfl,ho,hl4,rfl⟩;cases ho;conv=>whnf
  refine⟨3,?_⟩;conv=>whnf
  exact⟨l4,rfl,rfl,rfl,hl4,rfl⟩
 ·refine jae (ja2 jgI xs0 1) (fun _ _ h=>h) Tryz.func77 rfl (by kernel_rfl) rfl (by kernel_rfl) ?_;intro _;conv=>whnf
  refine jaa 0 0 1 [] rfl rfl rfl rfl rfl rfl rfl (fun _=>hk) ?_;rintro o n' cs' r ⟨l2,rfl,rfl,ho,hl2,rfl⟩;cases ho;subst hl2;conv=>whnf
  refine jaa 0 1 3 [] rfl rfl rfl rfl rfl rfl rfl (fun _=>hem l2 13 0 (by omega)) ?_;rintro o n' cs' r ⟨l4,rfl,rfl,ho,hl4,rfl⟩;cases ho;conv=>whnf
  refine⟨3,?_⟩;conv=>whnf
  exact⟨l4,rfl,rfl,rfl,hl4,rfl⟩
 ·refine jae (ja2 jgI xs0 1) (fun _ _ h=>h) Tryz.func77 rfl (by kernel_rfl) rfl (by kernel_rfl) ?_;intro _;conv=>whnf
  refine jaa 0 0 1 [] rfl rfl rfl rfl rfl rfl rfl (fun _=>hk) ?_;rintro o n' cs' r ⟨l2,rfl,rfl,ho,hl2,rfl⟩;cases ho;subst hl2;conv=>whnf
  refine jaa 0 1 3 [] rfl rfl rfl rfl rfl rfl rfl (fun _=>hem l2 12 0 (by omega)) ?_;rintro o n' cs' r ⟨l4,rfl,rfl,ho,hl4,rfl⟩;cases ho
  have hz4:l4.length<=1000000:=by rw[hl4,List.length_append,List.length_singleton];omega
  conv=>whnf
  refine jaa 0 3 4 [] rfl rfl rfl rfl rfl rfl rfl (fun _=>hem l4 14 0 hz4) ?_;rintro o n' cs' r ⟨l5,rfl,rfl,ho,hl5,rfl⟩;cases ho;conv=>whnf
  refine⟨4,?_⟩;conv=>whnf
  exact⟨l5,rfl,rfl,rfl,by rw[hl5,hl4,List.append_assoc];rfl,rfl⟩
 ·refine jae (ja2 jgI xs0 1) (fun _ _ h=>h) Tryz.func77 rfl (by kernel_rfl) rfl (by kernel_rfl) ?_;intro _;conv=>whnf
  refine jaa 0 0 1 [] rfl rfl rfl rfl rfl rfl rfl (fun _=>hk) ?_;rintro o n' cs' r ⟨l2,rfl,rfl,ho,hl2,rfl⟩;cases ho;subst hl2;conv=>whnf
  refine jaa 0 1 3 [] rfl rfl rfl rfl rfl rfl rfl (fun _=>hem l2 11 0 (by omega)) ?_;rintro o n' cs' r ⟨l4,rfl,rfl,ho,hl4,rfl⟩;cases ho
  have hz4:l4.length<=1000000:=by rw[hl4,List.length_append,List.length_singleton];omega
  conv=>whnf
  refine jaa 0 3 4 [] rfl rfl rfl rfl rfl rfl rfl (fun _=>hem l4 14 0 hz4) ?_;rintro o n' cs' r ⟨l5,rfl,rfl,ho,hl5,rfl⟩;cases ho;conv=>whnf
  refine⟨4,?_⟩;conv=>whnf
  exact⟨l5,rfl,rfl,rfl,by rw[hl5,hl4,List.append_assoc];rfl,rfl⟩
 ·refine jae (ja2 jgI xs0 1) (fun _ _ h=>h) Tryz.func77 rfl (by kernel_rfl) rfl (by kernel_rfl) ?_;intro _;conv=>whnf
  refine jaa 0 0 1 [] rfl rfl rfl rfl rfl rfl rfl (fun _=>hk) ?_;rintro o n' cs' r ⟨l2,rfl,rfl,ho,hl2,rfl⟩;cases ho;subst hl2;conv=>whnf
  refine jaa 0 1 3 [] rfl rfl rfl rfl rfl rfl rfl (fun _=>hem l2 13 0 (by omega)) ?_;rintro o n' cs' r ⟨l4,rfl,rfl,ho,hl4,rfl⟩;cases ho
  have hz4:l4.length<=1000000:=by rw[hl4,List.length_append,List.length_singleton];omega
  conv=>whnf
  refine jaa 0 3 4 [] rfl rfl rfl rfl rfl rfl rfl (fun _=>hem l4 14 0 hz4) ?_;rintro o n' cs' r ⟨l5,rfl,rfl,ho,hl5,rfl⟩;cases ho;conv=>whnf
  refine⟨4,?_⟩;conv=>whnf
  exact⟨l5,rfl,rfl,rfl,by rw[hl5,hl4,List.append_assoc];rfl,rfl⟩
def whC (c b:Int->List Ic) (at':Int):List Ic:=c at'++(16,at'+(c at').length+(b (at'+(c at').length+1)).length+2) :: (b (at'+(c at').length+1)++[(15,at')])
theorem jrs (u:Ut) (n:Int) (s:ByteArray) (kids:List Nt) (h3:kids.length=2) (hf:∀ f ∈ kids,jbd u f) (l:List Ic) (hl:l.length+(kids.map szN).sum+2<=1000000):jeD 79 [cbx u] l [.box 0 0,.agg (ntA (.mk 3 n s kids))] fun o l' r=>o=[cbx u]/\l'=l++whC (jal (ixU u) (kids[0]'(by omega))) (jal (ixU u) (kids[1]'(by omega))) l.length/\r = .tup []:=by
 have hsum:szN (kids[0]'(by omega))+szN (kids[1]'(by omega))<=(kids.map szN).sum:=by
  match kids,h3 with
  | [a,b],_=>simp
 have hem:=fun (l:List Ic) (op n:Int) (h:l.length<=1000000)=>jcs u l op n h
 have ha:=hf (kids[0]'(by omega)) (List.getElem_mem _)
 have hb:=hf (kids[1]'(by omega)) (List.getElem_mem _)
 have hr0:=jaO kids 0 (by omega)
 have hr1:=jaO kids 1 (by omega)
 generalize kids[0]'(by omega)=a at *;generalize kids[1]'(by omega)=b at *
 have hz1:=ha.1 l.length
 have h0:=ha.2 l (by omega)
 generalize hC:jal (ixU u) a l.length=C at *
 have e1:(l++C).length=l.length+C.length:=List.length_append
 have h1:=hem (l++C) 16 0 (by omega)
 have e2:(l++C++[(16,0)]).length=l.length+C.length+1:=by rw[List.length_append,e1];rfl
 have hz2:=hb.1 ((l++C++[((16:Int),(0:Int))]).length:Nat)
 have h2:=hb.2 (l++C++[(16,0)]) (by omega)
 generalize hB:jal (ixU u) b ((l++C++[((16:Int),(0:Int))]).length:Nat)=B at *
 have e3:(l++C++[(16,0)]++B).length=l.length+C.length+1+B.length:=by rw[List.length_append,e2]
 have h4:=jzT u (l++C++[(16,0)]++B) 15 l.length (by omega)
 have e4:l++C++[(16,0)]++B++[(15,(l.length:Int))]=(l++C)++((16:Int),(0:Int)) :: (B++[(15,(l.length:Int))]):=by simp
 have e5:((l++C)++((16:Int),(0:Int)) :: (B++[((15:Int),(l.length:Int))])).length=l.length+C.length+1+B.length+1:=by rw[<- e4,List.length_append,e3];rfl
 have h5:=jvN u (l++C) (B++[(15,(l.length:Int))]) 16 0 (by omega)
 rw[e5] at h5;rw[e4] at h4
 have hfin:l++whC (jal (ixU u) a) (jal (ixU u) b) l.length=(l++C)++((16:Int),((l.length+C.length+1+B.length+1:Nat):Int)) :: (B++[((15:Int),(l.length:Int))]):=by
  unfold whC;simp only[hC];rw[e2] at hB
  have k1:(l.length:Int)+(C.length:Int)+1=((l.length+C.length+1:Nat):Int):=by omega
  rw[k1,hB]
  have k2:(l.length:Int)+(C.length:Int)+(B.length:Int)+2=((l.length+C.length+1+B.length+1:Nat):Int):=by omega
  rw[k2]
  simp
 rw[hfin];rw[jek];refine jm6 (ja2 jax xs0 1) Tryz.func79 rfl (by kernel_rfl) rfl ?_;intro _;conv=>whnf
 refine jaS (ja2 jax xs0 1) (dr:=[]) ⟨0,rfl⟩ (.inl rfl) (by kernel_rfl) (fun _ _ h=>h.elim) ?_;conv=>whnf
 refine jaS (ja2 jax xs0 1) (dr:=[]) ⟨0,rfl⟩ (.inl rfl) (by kernel_rfl) (fun _ _ h=>h.elim) ?_;conv=>whnf
 refine jaS (ja2 jax xs0 1) (dr:=[]) ⟨0,rfl⟩ (.inl rfl) (by kernel_rfl) (fun _ _ h=>h.elim) ?_;conv=>whnf
 refine⟨by omega,?_⟩;conv=>whnf
 (generalize hrq:ja5 _ _ (jbQ kids)=rq;obtain rfl:rq=ntA a:=hrq.symm.trans (hr0);clear hrq;conv=>whnf)
 refine jaa 0 0 1 [] rfl rfl rfl rfl rfl rfl rfl (fun _=>h0) ?_;rintro o n' cs' r ⟨l2,rfl,rfl,ho,hl2,rfl⟩;cases ho;subst hl2;conv=>whnf
 refine jaS (ja2 jax xs0 1) (dr:=[]) ⟨0,rfl⟩ (.inl rfl) (by kernel_rfl) (fun _ _ h=>h.elim) ?_;conv=>whnf
 refine jaa 0 1 2 [] rfl rfl rfl rfl rfl rfl rfl (fun _=>h1) ?_;rintro o n' cs' r ⟨l3,rfl,rfl,ho,hl3,rfl⟩;cases ho;subst hl3;conv=>whnf
 refine jrH ?_;refine jg6 (l:=[_,_]) [] (ja2 jax xs0 1) ⟨0,rfl⟩ (fun _ _ h=>h.elim) rfl rfl rfl ?_;conv=>whnf
 refine jaS (ja2 jax xs0 1) ⟨1,rfl⟩ (.inl rfl) (by kernel_rfl) (fun _ _ h=>h.elim) ?_;conv=>whnf
 refine⟨by omega,?_⟩;conv=>whnf
 (generalize hrq:ja5 _ _ (jbQ kids)=rq;obtain rfl:rq=ntA b:=hrq.symm.trans (hr1);clear hrq;conv=>whnf)
 refine jaa 0 2 3 [] rfl rfl rfl rfl rfl rfl rfl (fun _=>h2) ?_;rintro o n' cs' r ⟨l4,rfl,rfl,ho,hl4,rfl⟩;cases ho;subst hl4;conv=>whnf
 refine jg6 (l:=[_,_]) [] (ja2 jax xs0 1) ⟨1,rfl⟩ (fun _ _ h=>h.elim) rfl rfl rfl ?_;conv=>whnf
 refine⟨.inl rfl,?_⟩;unfold jgu;refine jvB 0 3 4 [] rfl rfl rfl rfl rfl h4 ?_;rintro o n' cs' r ⟨l5,rfl,rfl,ho,hl5,rfl⟩;cases ho;subst hl5;conv=>whnf
 refine jvB 0 4 5 [] rfl rfl rfl rfl rfl h5 ?_;rintro o n' cs' r ⟨l6,rfl,rfl,ho,hl6,rfl⟩;cases ho;conv=>whnf
 refine⟨5,?_⟩;conv=>whnf
 exact⟨l6,rfl,rfl,rfl,hl6,rfl⟩
theorem jjv {c y n:Int->List Ic} {a b d:Nat} (h1:∀ at':Int,(c at').length<=a) (h2:∀ at':Int,(y at').length<=b) (h3:∀ at':Int,(n at').length<=d) (at':Int):(brC c y n at').length<=a+b+d+2:=by
 unfold brC;simp only[List.length_append,List.length_cons]
 have q1:=h1 at'
 have q2:=h2 (at'+(c at').length+1)
 have q3:=h3 (at'+(c at').length+1+(y (at'+(c at').length+1)).length+1)
 omega
theorem joG (s:ByteArray):(opC s).length<=2:=by
 unfold opC
 repeat' split
 all_goals decide
theorem jkg:∀ l:List Nt,jbK l=(l.map szN).sum
 | []=>rfl
 | f :: l=>by rw[List.map_cons,List.sum_cons,<- jkg l];rfl
theorem jdS (u:Ut) (k n:Int) (s:ByteArray) (kids:List Nt) (l:List Ic) (r:List Ic) (c:Nat) (hc:k=17/\c=76 ∨ k=18/\c=77 ∨ k=2/\c=78 ∨ k=3/\c=79 ∨ k=11/\c=80 ∨ (k ≠ 17/\k ≠ 18/\k ≠ 2/\k ≠ 3/\k ≠ 11)/\c=81)
  (h:jeD c [cbx u] l [.box 0 0,.agg (ntA (.mk k n s kids))] fun o l' q=>o=[cbx u]/\l'=l++r/\q = .tup []):jeD 39 [cbx u] l [.box 0 0,.agg (ntA (.mk k n s kids))] fun o l' q=>o=[cbx u]/\l'=l++r/\q = .tup []:=by
 rw[jek] at h ⊢
 rcases hc with ⟨rfl,rfl⟩ | ⟨rfl,rfl⟩ | ⟨rfl,rfl⟩ | ⟨rfl,rfl⟩ | ⟨rfl,rfl⟩ | ⟨⟨k1,k2,k3,k4,k5⟩,rfl⟩
 all_goals
  refine jae (ja2 jax xs0 1) (fun _ _ h=>h) Tryz.func39 rfl (by kernel_rfl) rfl (by kernel_rfl) ?_;intro _;conv=>whnf
 all_goals try
  refine jaa 0 0 2 [] rfl rfl rfl rfl rfl rfl rfl (fun _=>h) ?_;rintro o n' cs' r ⟨l2,rfl,rfl,ho,hl2,rfl⟩;cases ho;conv=>whnf
  refine⟨2,?_⟩;conv=>whnf
  exact⟨l2,rfl,rfl,rfl,hl2,rfl⟩
 rw[decide_eq_false k1];conv=>whnf
 rw[decide_eq_false k2];conv=>whnf
 rw[decide_eq_false k3];conv=>whnf
 rw[decide_eq_false k4];conv=>whnf
 rw[decide_eq_false k5];conv=>whnf
 refine jaa 0 0 2 [] rfl rfl rfl rfl rfl rfl rfl (fun _=>h) ?_;rintro o n' cs' r ⟨l2,rfl,rfl,ho,hl2,rfl⟩;cases ho;conv=>whnf
 refine⟨2,?_⟩;conv=>whnf
 exact⟨l2,rfl,rfl,rfl,hl2,rfl⟩
theorem jqp {l:List ByteArray} {s:ByteArray} (h:(l.any fun x=>decide (s=x))=true):s ∈ l:=by
 rw[List.any_eq_true] at h
 obtain⟨x,h1,h2⟩ := h
 rw[decide_eq_true_eq] at h2;rw[h2];exact h1
theorem jlA {s:ByteArray} (h:(opAll.any fun x=>decide (s=x))=true) (h1:s ≠ jga) (h2:s ≠ pOr):(opBin.any fun x=>decide (s=x))=true:=by
 have h:=jqp h
 unfold opAll at h;simp only[List.mem_cons,List.not_mem_nil,or_false] at h
 rcases h with h | h | h | h | h | h | h | h | h | h | h | h
 ·exact absurd h h1
 ·exact absurd h h2
 all_goals (rw[h];decide)
theorem jh1 (u:Ut) (hu:WfU u):∀ f:Nt,wfN f->jbd u f
 | .mk k n s kids,hw=>by
  unfold wfN at hw
  obtain⟨ha,hwk,-⟩ := hw
  have hm:=jqr ha
  have hk:∀ f ∈ kids,jbd u f:=fun f hf=>jh1 u hu f (jh7 hwk hf)
  have hsq:=fun at' => jbb (u:=u) kids at' hk
  have hss:=jkg kids
  unfold jbd
  show (∀ at':Int,(jcW (ixU u) k n s (jaf (ixU u) kids) at').length<=3+jbK kids) /\ ∀ l:List Ic,l.length+(3+jbK kids)<=1000000->jeD _ [cbx u] l _ fun o l' r=>o=[cbx u]/\l'=l++jcW (ixU u) k n s (jaf (ixU u) kids) l.length/\r = .tup []
  have lf:∀ (hc:k=12 ∨ k=13 ∨ k=14 ∨ k=15/\(builtL.any fun x=>decide (s=x))=true ∨ k=1 ∨ k=4 ∨ k=5 ∨ k=6 ∨ k=16 ∨ k=7 ∨ k=10 ∨ k=8 ∨ k=9),(∀ at',jcW (ixU u) k n s (jaf (ixU u) kids) at'=jc9 (jaf (ixU u) kids) at'++[jyi (ixU u) k n s])->(∀ at':Int,(jcW (ixU u) k n s (jaf (ixU u) kids) at').length<=3+jbK kids) /\ ∀ l:List Ic,l.length+(3+jbK kids)<=1000000->jeD 39 [cbx u] l [.box 0 0,.agg (ntA (.mk k n s kids))] fun o l' r=>o=[cbx u]/\l'=l++jcW (ixU u) k n s (jaf (ixU u) kids) l.length/\r = .tup []:=fun hc he=>by
   refine⟨fun at' => ?_,fun l hl => ?_⟩
   ·have:=hsq at'
    rw[he,List.length_append,List.length_singleton];omega
   ·have h1:=jrm u hu k n s kids hm hk hc l (by omega)
    rw[List.append_assoc,<- he] at h1;refine jdS u k n s kids l _ _ (.inr (.inr (.inr (.inr (.inr ⟨?_,rfl⟩))))) h1;omega
  unfold arN at ha
  by_cases h11:k=11
  ·subst h11
   have he:∀ at',jcW (ixU u) 11 n s (jaf (ixU u) kids) at'=jc9 (jaf (ixU u) kids) at':=fun at' => List.append_nil _
   refine⟨fun at' => by rw[he];have:=hsq at';omega,fun l hl => ?_⟩;rw[he];exact jdS u 11 n s kids l _ _ (.inr (.inr (.inr (.inr (.inl ⟨rfl,rfl⟩))))) (jfj u 11 n s kids hm hk l (by omega))
  rw[if_neg h11] at ha
  by_cases h0:k=12 ∨ k=13 ∨ k=14 ∨ k=5 ∨ k=6 ∨ k=7 ∨ k=10
  ·rw[if_pos h0,decide_eq_true_eq] at ha
   obtain rfl:=List.eq_nil_of_length_eq_zero ha
   rcases h0 with rfl | rfl | rfl | rfl | rfl | rfl | rfl
   all_goals exact lf (by omega) fun at' => rfl
  rw[if_neg h0] at ha
  by_cases h15:k=15
  ·rw[if_pos h15,Bool.and_eq_true,decide_eq_true_eq] at ha;subst h15
   obtain⟨ha,hb⟩ := ha
   obtain rfl:=List.eq_nil_of_length_eq_zero ha
   exact lf (.inr (.inr (.inr (.inl ⟨rfl,hb⟩)))) fun at' => rfl
  rw[if_neg h15] at ha
  by_cases h1:k=16 ∨ k=1 ∨ k=9
  ·rcases h1 with rfl | rfl | rfl
   all_goals exact lf (by omega) fun at' => rfl
  rw[if_neg h1] at ha
  by_cases h17:k=17
  ·subst h17
   have he:∀ at',jcW (ixU u) 17 n s (jaf (ixU u) kids) at'=jc9 (jaf (ixU u) kids) at'++(if s=pMinus then [(10,0)] else [(14,0)]):=fun at' => rfl
   refine⟨fun at' => ?_,fun l hl => ?_⟩
   ·have:=hsq at'
    rw[he,List.length_append]
    split <;> simp only[List.length_singleton] <;> omega
   ·rw[he];refine jdS u 17 n s kids l _ _ (.inl ⟨rfl,rfl⟩) ?_
    have h2:=jmP u n s kids hm hk l (by omega)
    rw[List.append_assoc] at h2;exact h2
  rw[if_neg h17] at ha
  by_cases h18:k=18
  ·rw[if_pos h18,Bool.and_eq_true,decide_eq_true_eq] at ha;subst h18
   obtain⟨ha,hb⟩ := ha
   have k0:=hk (kids[0]'(by omega)) (List.getElem_mem _)
   have k1:=hk (kids[1]'(by omega)) (List.getElem_mem _)
   have hsum:szN (kids[0]'(by omega))+szN (kids[1]'(by omega))<=(kids.map szN).sum:=by
    match kids,ha with
    | [a,b],_=>simp
   have g0:(jaf (ixU u) kids).getD 0 noI=jal (ixU u) (kids[0]'(by omega)):=by
    match kids,ha with
    | [a,b],_=>rfl
   have g1:(jaf (ixU u) kids).getD 1 noI=jal (ixU u) (kids[1]'(by omega)):=by
    match kids,ha with
    | [a,b],_=>rfl
   by_cases hA:s=jga
   ·subst hA
    have he:∀ at',jcW (ixU u) 18 n jga (jaf (ixU u) kids) at'=brC (jal (ixU u) (kids[0]'(by omega))) (jal (ixU u) (kids[1]'(by omega))) (fun _=>[(1,0)]) at':=fun at' => by
     rw[<- g0,<- g1];rfl
    refine⟨fun at' => ?_,fun l hl => ?_⟩
    ·have:=jjv k0.1 k1.1 (fun _=>Nat.le_refl 1) (n:=fun _=>[((1:Int),(0:Int))]) at'
     rw[he];omega
    ·rw[he];exact jdS u 18 n jga kids l _ _ (.inr (.inl ⟨rfl,rfl⟩)) (jvu u n kids ha hk l (by omega))
   by_cases hO:s=pOr
   ·subst hO
    have he:∀ at',jcW (ixU u) 18 n pOr (jaf (ixU u) kids) at'=brC (jal (ixU u) (kids[0]'(by omega))) (fun _=>[(1,1)]) (jal (ixU u) (kids[1]'(by omega))) at':=fun at' => by
     rw[<- g0,<- g1];rfl
    refine⟨fun at' => ?_,fun l hl => ?_⟩
    ·have:=jjv k0.1 (fun _=>Nat.le_refl 1) k1.1 (y:=fun _=>[((1:Int),(1:Int))]) at'
     rw[he];omega
    ·rw[he];exact jdS u 18 n pOr kids l _ _ (.inr (.inl ⟨rfl,rfl⟩)) (jxp u n kids ha hk l (by omega))
   have he:∀ at',jcW (ixU u) 18 n s (jaf (ixU u) kids) at'=jc9 (jaf (ixU u) kids) at'++opC s:=fun at' => by
    unfold jcW;rw[if_neg (by decide),if_neg (by decide),if_neg (by decide),if_neg (by decide),if_neg (by decide),if_neg (by decide),if_neg (by decide),if_neg (by decide),if_neg (by decide),if_neg (fun h=>hA h.2),if_neg (fun h=>hO h.2),if_pos rfl]
   refine⟨fun at' => ?_,fun l hl => ?_⟩
   ·have:=hsq at'
    have:=joG s
    rw[he,List.length_append];omega
   ·rw[he];refine jdS u 18 n s kids l _ _ (.inr (.inl ⟨rfl,rfl⟩)) ?_
    have h2:=jxo u n s (jlA hb hA hO) kids hm hk l (by omega)
    rw[List.append_assoc] at h2;exact h2
  rw[if_neg h18] at ha
  by_cases h8:k=8 ∨ k=3
  ·rw[if_pos h8,decide_eq_true_eq] at ha
   rcases h8 with rfl | rfl
   ·exact lf (by omega) fun at' => rfl
   ·have k0:=hk (kids[0]'(by omega)) (List.getElem_mem _)
    have k1:=hk (kids[1]'(by omega)) (List.getElem_mem _)
    have hsum:szN (kids[0]'(by omega))+szN (kids[1]'(by omega))<=(kids.map szN).sum:=by
     match kids,ha with
     | [a,b],_=>simp
    have he:∀ at',jcW (ixU u) 3 n s (jaf (ixU u) kids) at'=whC (jal (ixU u) (kids[0]'(by omega))) (jal (ixU u) (kids[1]'(by omega))) at':=fun at' => by
     match kids,ha with
     | [a,b],_=>rfl
    refine⟨fun at' => ?_,fun l hl => ?_⟩
    ·rw[he];unfold whC
     have q0:=k0.1 at'
     have q1:=k1.1 (at'+(jal (ixU u) (kids[0]'(by omega)) at').length+1)
     simp only[List.length_append,List.length_cons,List.length_nil];omega
    ·rw[he];exact jdS u 3 n s kids l _ _ (.inr (.inr (.inr (.inl ⟨rfl,rfl⟩)))) (jrs u n s kids ha hk l (by omega))
  rw[if_neg h8] at ha
  by_cases h2:k=2 ∨ k=4
  ·rw[if_pos h2,decide_eq_true_eq] at ha
   rcases h2 with rfl | rfl
   ·have k0:=hk (kids[0]'(by omega)) (List.getElem_mem _)
    have k1:=hk (kids[1]'(by omega)) (List.getElem_mem _)
    have k2:=hk (kids[2]'(by omega)) (List.getElem_mem _)
    have hsum:szN (kids[0]'(by omega))+szN (kids[1]'(by omega))+szN (kids[2]'(by omega))<=(kids.map szN).sum:=by
     match kids,ha with
     | [a,b,c],_=>simp;omega
    have he:∀ at',jcW (ixU u) 2 n s (jaf (ixU u) kids) at'=brC (jal (ixU u) (kids[0]'(by omega))) (jal (ixU u) (kids[1]'(by omega))) (jal (ixU u) (kids[2]'(by omega))) at':=fun at' => by
     match kids,ha with
     | [a,b,c],_=>rfl
    refine⟨fun at' => ?_,fun l hl => ?_⟩
    ·have:=jjv k0.1 k1.1 k2.1 at'
     rw[he];omega
    ·rw[he];exact jdS u 2 n s kids l _ _ (.inr (.inr (.inl ⟨rfl,rfl⟩))) (jmM u n s kids ha hk l (by omega))
   ·exact lf (by omega) fun at' => rfl
  rw[if_neg h2] at ha
  cases ha
theorem jhH (e:Nat->Int) (du vo:Int):pgE e du vo=enL e++[intA du,intA vo]:=rfl
theorem jvC (e:Nat->Int) (j:Nat) (v:Int):(enL e).set j (intA v)=enL fun i=>if i=j then v else e i:=by
 unfold enL
 apply List.ext_getElem (by simp)
 intro i h1 h2;rw[List.getElem_set,List.getElem_map,List.getElem_map,List.getElem_range]
 by_cases h:j=i
 ·simp only[if_pos h,if_pos h.symm]
 ·simp only[if_neg h,if_neg (fun q:i=j=>h q.symm)]
theorem jwz (c0:A) (e:Nat->Int) (du vo v:Int) (j:Nat) (hj:j<40) {K:List A->Prop} (h:K (c0 :: pgE (fun i=>if i=j then v else e i) du vo)):jhY (c0 :: pgE e du vo) (1+j*1) (intA v) K:=by
 have hl:(enL e).length=40:=by unfold enL;simp
 refine jd3 ?_ ?_
 ·rw[jhH,List.length_cons,List.length_append,hl];omega
 ·rw[show 1+j*1=j+1 by omega,List.set_cons_succ,jhH,List.set_append_left _ _ (by rw[hl];exact hj),jvC];exact h
theorem jbu (c0:A) (e e':Nat->Int) (du vo v:Int) (j:Nat) (hj:j<40) (he:∀ i,i<40->(if i=j then v else e i)=e' i) {K:List A->Prop} (h:K (c0 :: pgE e' du vo)):jhY (c0 :: pgE e du vo) (1+j*1) (intA v) K:=by
 refine jwz c0 e du vo v j hj ?_
 have q:pgE (fun i=>if i=j then v else e i) du vo=pgE e' du vo:=by
  rw[jhH,jhH]
  congr 1
  unfold enL
  exact List.map_congr_left fun i hi=>by simp only[he i (List.mem_range.1 hi)]
 rw[q];exact h
def e1 (j:Nat):Nat->Int:=fun i=>if i<j then -1 else 0
theorem jwh {e e':Nat->Int} (h:∀ i,i<40->e i=e' i) (du vo:Int):pgE e du vo=pgE e' du vo:=by
 rw[jhH,jhH]
 congr 1
 unfold enL
 exact List.map_congr_left fun i hi=>by rw[h i (List.mem_range.1 hi)]
set_option maxHeartbeats 2000000 in
theorem jkN (u:Ut) (hu:WfU u) (hz:szH u.on<=900000):Spec Tryz.prog 12 [] [.agg (utA u)] fun _ r=>r=jxP u:=by
 have hnode:=jh1 u hu
 have hdv:=hu.du
 have hol:=hu.ol
 refine ja3 (ja2 jAj xs0 0) (fun _ _ h=>h) Tryz.func12 rfl (by kernel_rfl) rfl (by kernel_rfl) ?_;intro _;conv=>whnf
 refine ja4 [1,2,4] ?_;conv=>whnf
 refine ja9 (fun j:Nat=>[(19,.v (.int .i64 j))]) (fun j=>[utA u,je9,.v (.slice none 0 0) :: pgE (e1 j) u.du.length u.vo.length]) (fun _=>[]) (fun j=>j<=40) (fun j=>40-j) 0 ?_ (by omega) ?_
 ·repeat' constructor
 intro j hj;conv=>whnf
 rcases Nat.lt_or_ge j 40 with hlt | hge
 ·rw[decide_eq_true (show (j:Int)<40 by omega)];conv=>whnf
  refine⟨show (0:Int)<=(j:Int)/\(j:Int)<((40:Nat):Int) from ⟨by omega,by omega⟩,?_⟩;conv=>whnf
  refine jbu (.v (.slice none 0 0)) (e1 j) (e1 (j+1)) u.du.length u.vo.length (-1) j hlt (fun i hi => ?_) ?_
  ·unfold e1
   by_cases h:i=j
   ·rw[if_pos h,if_pos (by omega)]
   ·rw[if_neg h]
    by_cases h2:i<j
    ·rw[if_pos h2,if_pos (by omega)]
    ·rw[if_neg h2,if_neg (by omega)]
  conv=>whnf
  refine⟨show lo .i64<=(j:Int)+1/\(j:Int)+1<=hi .i64 from ja7 (by omega),?_⟩;conv=>whnf
  refine⟨j+1,ja0 [] ?_,show j+1<=40 by omega,show 40-(j+1)<40-j by omega⟩;conv=>whnf
  repeat' constructor
 rw[decide_eq_false (show ¬ (j:Int)<40 by omega)]
 obtain rfl:j=40:=by omega
 conv=>whnf
 refine jbT 52 2 [] [(3,3)] ?_;conv=>whnf
 refine⟨trivial,?_⟩;conv=>whnf
 refine ja4 [1,2,4,6,30,31] ?_;conv=>whnf
 refine ja9 (fun x:Nat × List Ic × (Nat->Int)=>[(32,.v (.int .i64 x.1))]) (fun x=>[utA u,je9,.v (.slice none 0 0) :: pgE x.2.2 u.du.length u.vo.length,cbx u]) (fun x=>[.live 52 2 x.2.1.length (jaJ x.2.1)])
  (fun x=>x.1<=u.on.length/\hcL (ixU u) (u.on.drop x.1) x.2.1 x.2.2=jks u/\x.2.1.length+szH (u.on.drop x.1)<=900000/\(∀ i ∈ x.2.1,jwV i) /\ ∀ i,x.2.2 i<x.2.1.length) (fun x=>u.on.length-x.1) (0,[],noE) ?_ ⟨Nat.zero_le _,rfl,by simpa using hz,(fun i hi=>by cases hi),fun i=>show (-1:Int)<0 by decide⟩ ?_
 ·repeat' constructor
  show Row.live _ 2 0 []=Row.live _ 2 0 (jaJ [])
  rw[jdu]
 rintro⟨j,l,e⟩ ⟨g1,g2,g3,g4,g5⟩
 simp only at g1 g2 g3 g4 g5
 conv=>whnf
 rcases Nat.lt_or_ge j u.on.length with hlt | hge
 ·have hrow:ja5 5 j (jjL u.on)=hnA u.on[j]:=jlR u.on j hlt
  have hon:=hu.on _ (List.getElem_mem hlt)
  rw[List.drop_eq_getElem_cons hlt] at g2 g3;generalize u.on[j]=hb at hrow hon g2 g3
  obtain⟨h,b⟩ := hb
  obtain⟨o1,o2,o3⟩ := hon
  have hnd:=hnode b o3
  unfold hcL at g2;unfold szH at g3
  simp only at o1 o2 g2 g3
  unfold hnA at hrow
  simp only at hrow
  rw[decide_eq_true (show (j:Int)<(u.on.length:Int) by omega)];conv=>whnf
  refine⟨show (0:Int)<=(j:Int)/\(j:Int)<(u.on.length:Nat) from ⟨by omega,by omega⟩,?_⟩;conv=>whnf
  (generalize hrq:ja5 _ _ (jjL u.on)=rq;obtain rfl:rq=intA h :: ntA b:=hrq.symm.trans (hrow);clear hrq;conv=>whnf)
  refine⟨⟨o1,show h<((40:Nat):Int) by omega⟩,?_⟩;conv=>whnf
  refine jbu (.v (.slice none 0 0)) e (fun i=>if i=h.toNat then (l.length:Int) else e i) u.du.length u.vo.length l.length h.toNat (by omega) (fun i hi=>rfl) ?_;conv=>whnf
  refine jaa 3 0 1 [] rfl rfl rfl rfl rfl rfl rfl (fun _=>hnd.2 l (by omega)) ?_;rintro o n' cs' r ⟨l2,rfl,rfl,ho,hl2,rfl⟩;cases ho
  have hl2:l2=l++jal (ixU u) b l.length:=hl2
  have hsz:(jal (ixU u) b l.length).length<=szN b:=hnd.1 l.length
  have hl2':l2.length<=l.length+szN b:=by rw[hl2,List.length_append];omega
  conv=>whnf
  have hem:=jcs u l2 23 0 (by omega)
  refine jaa 3 1 2 [] rfl rfl rfl rfl rfl rfl rfl (fun _=>hem) ?_;rintro o n' cs' r ⟨l3,rfl,rfl,ho,hl3,rfl⟩;cases ho;conv=>whnf
  refine⟨show lo .i64<=(j:Int)+1/\(j:Int)+1<=hi .i64 from ja7 (by omega),?_⟩;conv=>whnf
  refine⟨(j+1,l3,fun i=>if i=h.toNat then (l.length:Int) else e i),ja0 [2] ?_,⟨show j+1<=u.on.length by omega,?_,?_,?_,?_⟩,show u.on.length-(j+1)<u.on.length-j by omega⟩
  ·conv=>whnf
   repeat' constructor
  ·rw[hl3,hl2];exact g2
  ·show l3.length+szH (u.on.drop (j+1))<=900000
   rw[hl3,List.length_append,List.length_singleton];omega
  ·intro i hi
   simp only at hi
   rw[hl3,hl2] at hi
   rcases List.mem_append.1 hi with hi | hi
   ·rcases List.mem_append.1 hi with hi | hi
    ·exact g4 i hi
    ·exact jjA (ixU u) b _ (by omega) i hi
   ·rw[List.mem_singleton.1 hi];exact⟨by simp,fun h=>by simp at h⟩
  ·intro i
   show (if i=h.toNat then (l.length:Int) else e i)<(l3.length:Int)
   have g5i:=g5 i
   have:l3.length=l.length+(jal (ixU u) b l.length).length+1:=by rw[hl3,hl2,List.length_append,List.length_append,List.length_singleton]
   split <;> omega
 rw[decide_eq_false (show ¬ (j:Int)<(u.on.length:Int) by omega)]
 have hcm:hcL (ixU u) [] l e=jks u:=by rw[<- g2,List.drop_of_length_le hge]
 have hcl:l.length<=900000:=by omega
 unfold hcL at hcm;conv=>whnf
 unfold jxP jxQ;rw[<- hcm]
 simp only
 by_cases hbig:400<l.length
 ·rw[decide_eq_true (show (400:Int)<(l.length:Int) by omega)];conv=>whnf
  rw[if_pos hbig,if_neg (by decide)];rfl
 rw[decide_eq_false (show ¬ (400:Int)<(l.length:Int) by omega)];rw[if_neg hbig];conv=>whnf
 refine jbC [0] ?_;conv=>whnf
 refine ja4 [2,4,63] ?_;conv=>whnf
 obtain⟨E,hE⟩ : ∃ E,jpy l e 0 40=E:=⟨_,rfl⟩
 rw[hE];refine ja9 (fun j:Nat=>[(64,.v (.int .i64 j))]) (fun _=>[utA u,je9,pgL l e u.du.length u.vo.length,utA u++[.sl 2 l.length (jaJ l)]]) (fun _=>[]) (fun j=>j<=40/\jpy l e j (40-j)=E) (fun j=>40-j) 0 ?_ ⟨Nat.zero_le _,hE⟩ ?_
 ·repeat' constructor
  done
 clear hE hge g1 g2 g3 hcm;clear j;rintro j ⟨hj,hE⟩
 have hE:jpy l e j (40-j)=E:=hE
 conv=>whnf
 rcases Nat.lt_or_ge j 40 with hlt | hge
 ·rw[decide_eq_true (show (j:Int)<40 by omega)];rw[show 40-j=(40-(j+1))+1 by omega] at hE;unfold jpy at hE
  have hfo:=jhp l e u.du.length u.vo.length (e j) (by omega) (by omega) (by omega) (fun i hi=>(g4 i hi).2) (fun i hi=>(g4 i hi).1) (g5 j)
  conv=>whnf
  refine⟨⟨show (0:Int)<=(j:Int) by omega,show (j:Int)<((40:Nat):Int) by omega⟩,intA (e j),joa e j hlt,?_⟩;conv=>whnf
  refine jac [] rfl (fun _=>hfo) ?_;rintro r rfl;generalize jb7 l (e j)=f at hE;conv=>whnf
  by_cases h0:f=0
  ·rw[decide_eq_true h0];rw[if_neg (fun h=>h h0)] at hE;conv=>whnf
   refine⟨show lo .i64<=(j:Int)+1/\(j:Int)+1<=hi .i64 from ja7 (by omega),?_⟩;conv=>whnf
   refine⟨j+1,ja0 [] ?_,⟨show j+1<=40 by omega,hE⟩,show 40-(j+1)<40-j by omega⟩;conv=>whnf
   repeat' constructor
  rw[decide_eq_false h0];rw[if_pos h0] at hE;conv=>whnf
  rw[<- hE,if_neg h0];rfl
 obtain rfl:j=40:=by omega
 rw[decide_eq_false (show ¬ ((40:Nat):Int)<40 by omega)]
 obtain rfl:0=E:=hE
 conv=>whnf
 rw[if_pos rfl];rfl
theorem jxq (s:ByteArray) (hs:s.size<=1000000000) (u:Ut) (hp:jnG s = .ok u) (hc:jf8 (toU u)=0):Spec Tryz.prog 21 [] [jbm s] fun _ r=>r=jxP u:=by
 have h1:=jpU s hs
 rw[hp] at h1;unfold jwf at h1
 simp only at h1
 obtain⟨hu,hz⟩ := jwN hp
 have h2:=jyS u hu
 rw[hc] at h2
 have h3:=jkN u hu (by omega)
 unfold jxP at h3 ⊢;refine ja3 (ja2 jax xs0 0) (fun _ _ h=>h) Tryz.func21 rfl (by kernel_rfl) rfl (by kernel_rfl) ?_;intro _;conv=>whnf
 (refine jac [] rfl (fun _=>h1) ?_;rintro r rfl;conv=>whnf)
 (refine jac [] rfl (fun _=>h2) ?_;rintro r rfl;conv=>whnf)
 by_cases he:jxQ u=0
 ·rw[if_pos he] at h3 ⊢
  (refine jac [] rfl (fun _=>h3) ?_;rintro r rfl;conv=>whnf)
  rfl
 ·rw[if_neg he] at h3 ⊢
  (refine jac [] rfl (fun _=>h3) ?_;rintro r rfl;conv=>whnf)
  rfl
def exS:ByteArray:=⟨#[100,117,114,97,98,108,101,32,120,59,32,111,110,32,115,116,97,114,116,32,123,32,120,32,61,32,49,32,43,32,50,59,32,125]⟩
def exX:ByteArray:=⟨#[120]⟩
def exU:Ut:=⟨[exX],[],[(0,.mk 11 0 eB [.mk 1 0 exX [.mk 18 0 jgJ [jAN 1,jAN 2]]])]⟩
def exI:List Ic:=[(1,1),(1,2),(6,0),(3,0),(23,0)]
def exE:Nat->Int:=fun j=>if j=0 then 0 else -1
theorem jxX:jnG exS = .ok exU:=by kernel_rfl
theorem jvF:jf8 (toU exU)=0:=by kernel_rfl
theorem jvG:jks exU=(exI,exE):=by kernel_rfl
theorem jvH:jxQ exU=0:=by kernel_rfl
theorem jxY:jva exI exE 1 0=0:=by kernel_rfl
theorem jtp:Spec Tryz.prog 21 [] [jbm exS] fun _ r=>r = .tup [pgA exI exE 1 0,intA 0]:=by
 have h:=jxq exS (by decide) exU jxX jvF
 unfold jxP at h;rw[jvH,jvG,if_pos rfl] at h;exact h
def e2 (j:Nat):Nat->Int:=fun i=>if 1<=i/\i<j then -1 else 0
theorem jpH:Spec Tryz.prog 17 [] [] fun _ r=>r=jaw true:=by
 have h1:=jtp
 have h2:=jsc exI exE 1 0 (by decide)
 have h3:=ji8 exI exE 1 0 (by decide)
 rw[jxY] at h3
 have hpe:pgE exE 1 0=pgE (e2 40) 1 0:=jwh (fun i hi=>by
  unfold exE e2
  by_cases h:i=0
  ·rw[if_pos h,if_neg (by omega)]
  ·rw[if_neg h,if_pos (by omega)]) 1 0
 have hpa:pgA exI exE 1 0=pgA exI (e2 40) 1 0:=by unfold pgA pgL;rw[hpe]
 rw[show [pgA exI exE 1 0,pgA exI exE 1 0]=[pgA exI exE 1 0,pgA exI (e2 40) 1 0] by rw[<- hpa]] at h2;clear hpe hpa;refine ja3 (ja2 jax xs0 0) (fun _ _ h=>h) Tryz.func17 rfl (by kernel_rfl) rfl (by kernel_rfl) ?_;intro _;conv=>whnf
 (refine jac [] rfl (fun _=>h1) ?_;rintro r rfl;conv=>whnf)
 refine jbC [0] ?_;conv=>whnf
 refine ja4 [1,2,3] ?_;conv=>whnf
 refine ja9 (fun j:Nat=>[(4,.v (.int .i64 j))]) (fun j=>[pgL exI exE 1 0,pgL exI (e2 j) 1 0]) (fun _=>[]) (fun j=>1<=j/\j<=40) (fun j=>40-j) 1 ?_ ⟨by omega,by omega⟩ ?_
 ·repeat' constructor
  unfold jaJ;rfl
 rintro j ⟨hj1,hj⟩;conv=>whnf
 rcases Nat.lt_or_ge j 40 with hlt | hge
 ·rw[decide_eq_true (show (j:Int)<40 by omega)];conv=>whnf
  refine⟨show (0:Int)<=(j:Int)/\(j:Int)<((40:Nat):Int) from ⟨by omega,by omega⟩,?_⟩;conv=>whnf
  refine jbu (.sl 2 5 (jaJ exI)) (e2 j) (e2 (j+1)) 1 0 (-1) j hlt (fun i hi => ?_) ?_
  ·unfold e2
   by_cases h:i=j
   ·rw[if_pos h,if_pos (by omega)]
   ·rw[if_neg h]
    by_cases h2:1<=i/\i<j
    ·rw[if_pos h2,if_pos (by omega)]
    ·rw[if_neg h2,if_neg (by omega)]
  conv=>whnf
  refine⟨show lo .i64<=(j:Int)+1/\(j:Int)+1<=hi .i64 from ja7 (by omega),?_⟩;conv=>whnf
  refine⟨j+1,ja0 [] ?_,⟨show 1<=j+1 by omega,show j+1<=40 by omega⟩,show 40-(j+1)<40-j by omega⟩;conv=>whnf
  repeat' constructor
 rw[decide_eq_false (show ¬ (j:Int)<40 by omega)]
 obtain rfl:j=40:=by omega
 conv=>whnf
 (refine jac [] rfl (fun _=>h2) ?_;rintro r rfl;conv=>whnf)
 (refine jac [] rfl (fun _=>h3) ?_;rintro r rfl;conv=>whnf)
 rfl
theorem jhc (x s:ByteArray):(x == s)=decide (x=s):=by
 cases x with
 | mk a=>cases s with
  | mk b =>
   show (a == b)=_
   rw[Bool.eq_iff_iff,decide_eq_true_eq,beq_iff_eq];exact⟨fun h=>by rw[h],fun h=>by injection h⟩
theorem jk9 (l:List ByteArray) (i:Nat) (hi:i<l.length):ja5 1 i (txA l)=[jbm l[i]]:=jbZ jbm l i hi
theorem jnl (l:List ByteArray) (s:ByteArray) (hl:l.length<=1000000):Spec Tryz.prog 82 [] [.sl 1 l.length (txA l),jbm s] fun _ r=>r=intA (jh2 l s):=by
 refine ja3 (ja2 jax xs0 0) (fun _ _ h=>h) Tryz.func82 rfl (by kernel_rfl) rfl (by kernel_rfl) ?_;intro _;conv=>whnf
 refine ja4 [0,1] ?_;conv=>whnf
 refine ja9 (fun j:Nat=>[(5,.v (.int .i64 j))]) (fun _=>[]) (fun _=>[]) (fun j=>j<=l.length /\ ∀ i (h:i<l.length),i<j->(l[i] == s)=false) (fun j=>l.length-j) 0 ?_ ⟨Nat.zero_le _,fun i h h2=>by omega⟩ ?_
 ·repeat' constructor
 rintro j ⟨hj,hn⟩;conv=>whnf
 rcases Nat.lt_or_ge j l.length with hlt | hge
 ·have hrow:=jk9 l j hlt
  rw[decide_eq_true (show (j:Int)<(l.length:Int) by omega)];conv=>whnf
  refine⟨show (0:Int)<=(j:Int)/\(j:Int)<(l.length:Nat) from ⟨by omega,by omega⟩,?_⟩;conv=>whnf
  (generalize hrq:ja5 _ _ (txA l)=rq;obtain rfl:rq=[jbm l[j]]:=hrq.symm.trans (hrow);clear hrq;conv=>whnf)
  by_cases he:l[j]=s
  ·rw[decide_eq_true he];rw[jh3 hlt (fun i h h2=>hn i h h2) (by rw[jhc,he,decide_eq_true rfl])];conv=>whnf
   rfl
  rw[decide_eq_false he];conv=>whnf
  refine⟨show lo .i64<=(j:Int)+1/\(j:Int)+1<=hi .i64 from ja7 (by omega),?_⟩;conv=>whnf
  refine⟨j+1,ja0 [] ?_,⟨show j+1<=l.length by omega,fun i h h2 => ?_⟩,show l.length-(j+1)<l.length-j by omega⟩
  ·conv=>whnf
   repeat' constructor
  ·by_cases q:i=j
   ·subst q;rw[jhc,decide_eq_false he]
   ·exact hn i h (by omega)
 rw[jfu fun i h=>hn i h (by omega)];rw[decide_eq_false (show ¬ (j:Int)<(l.length:Int) by omega)];conv=>whnf
 rfl
theorem jio:Spec Tryz.prog 83 [] [] fun _ r=>r = .sl 1 9 (txA builtL):=by
 refine ja3 (ja2 jax xs0 0) (fun _ _ h=>h) Tryz.func83 rfl (by kernel_rfl) rfl (by kernel_rfl) ?_;intro _;conv=>whnf
 rfl
theorem jxn (s:ByteArray):jh2 builtL s=biF s:=by
 unfold jh2 biF;rw[show (fun x:ByteArray=>x == s)=fun x=>decide (x=s) from funext fun x=>jhc x s]
 cases builtL.findIdx? (fun x=>decide (x=s)) <;> rfl
theorem jhS (s:ByteArray) (h:(opBin.any fun x=>decide (s=x))=true):SpecF Tryz.prog 86 [jbm s] fun e k n cs r=>e=52/\k=2/\n=(opC s).length/\cs=jaJ (opC s)/\r = .own 0:=by
 have h:=jqp h
 unfold opBin at h;simp only[List.mem_cons,List.not_mem_nil,or_false] at h
 rcases h with rfl | rfl | rfl | rfl | rfl | rfl | rfl | rfl | rfl | rfl
 all_goals
  refine jat (ja2 jax xs0 0) (fun _ _ h=>h) Tryz.func86 rfl (by kernel_rfl) rfl (by kernel_rfl) ?_;intro _;conv=>whnf
  refine⟨0,?_⟩;conv=>whnf
  exact⟨rfl,rfl,rfl,by unfold jaJ;rfl,rfl⟩
def jvg (l:List Ic) (e k n:Nat) (cs:List A) (r:A):Prop:=e=52/\k=2/\n=l.length/\cs=jaJ l/\r = .own 0
def jco (u:Ut) (f:Nt):Prop := ∀ at':Int,0<=at'->at'+szN f<=1000000->SpecF Tryz.prog 42 [.agg (utA u),.agg (ntA f),intA at'] (jvg (jal (ixU u) f at'))
theorem jyI (t:Nat) (l m:List Ic):Row.live t 2 (l.length+m.length) (jaJ l++jaJ m)=Row.live t 2 (l++m).length (jaJ (l++m)):=by rw[List.length_append,jb3]
theorem jso (ix:ByteArray->Int) (l:List Nt) (j:Nat) (h:j<l.length) (at':Int):jc9 (jaf ix (l.take (j+1))) at'=jc9 (jaf ix (l.take j)) at'++jal ix l[j] (at'+(jc9 (jaf ix (l.take j)) at').length):=by
 rw[List.take_succ_eq_append_getElem h,jcj,jcj,List.map_append,List.map_singleton,jhW]
theorem jc0 (u:Ut) (kids:List Nt) (hm:kids.length<=3002) (hf:∀ f ∈ kids,jbd u f) (hc:∀ f ∈ kids,jco u f) (at':Int) (h0:0<=at') (hz:at'+jbK kids<=1000000):SpecF Tryz.prog 85 [.agg (utA u),.sl 4 kids.length (jbQ kids),intA at'] (jvg (jc9 (jaf (ixU u) kids) at')):=by
 have hsz:=fun j=>jbb (u:=u) (kids.take j) at' fun f hf' => hf f (List.mem_of_mem_take hf')
 refine jat (ja2 jAs xs0 0) (fun _ _ h=>h) Tryz.func85 rfl (by kernel_rfl) rfl (by kernel_rfl) ?_;intro _;conv=>whnf
 refine jbT 52 2 [7] [] ?_;conv=>whnf
 refine⟨trivial,?_⟩;conv=>whnf
 refine ja4 [1,2,3,7] ?_;conv=>whnf
 refine ja9 (fun j:Nat=>[(8,.v (.int .i64 j))]) (fun _=>[utA u]) (fun j=>[.live 52 2 (jc9 (jaf (ixU u) (kids.take j)) at').length (jaJ (jc9 (jaf (ixU u) (kids.take j)) at'))]) (fun j=>j<=kids.length) (fun j=>kids.length-j) 0 ?_ (Nat.zero_le _) ?_
 ·repeat' constructor
  show Row.live _ 2 0 []=Row.live _ 2 0 (jaJ [])
  rw[jdu]
 intro j hj
 have hpre:=jp9 kids j
 have hszj:=hsz j
 conv=>whnf
 rcases Nat.lt_or_ge j kids.length with hlt | hge
 ·have hrow:ja5 4 j (jbQ kids)=ntA kids[j]:=jaO kids j hlt
  have htk:=ji6 kids j hlt
  have hnx:=jso (ixU u) kids j hlt at'
  have hcj:=hc _ (List.getElem_mem hlt)
  have hnj:=(hf _ (List.getElem_mem hlt)).1
  generalize kids[j]=f at hrow htk hnx hcj hnj
  obtain⟨l,hl⟩ : ∃ l,jc9 (jaf (ixU u) (kids.take j)) at'=l:=⟨_,rfl⟩
  rw[hl] at hszj hnx
  have hcode:=hcj (at'+l.length) (by omega) (by omega)
  have hnl:=hnj (at'+l.length)
  generalize jal (ixU u) f (at'+l.length)=m at hcode hnx hnl;rw[hl];rw[decide_eq_true (show (j:Int)<(kids.length:Int) by omega)];conv=>whnf
  refine⟨show (0:Int)<=(j:Int)/\(j:Int)<(kids.length:Nat) from ⟨by omega,by omega⟩,?_⟩;conv=>whnf
  (generalize hrq:ja5 _ _ (jbQ kids)=rq;obtain rfl:rq=ntA f:=hrq.symm.trans (hrow);clear hrq;conv=>whnf)
  refine⟨ja7 (by omega),?_⟩;conv=>whnf
  refine jcX 1 [] rfl rfl (fun _=>hcode) ?_;rintro e k n cs r ⟨rfl,rfl,rfl,rfl,rfl⟩;conv=>whnf
  refine⟨⟨show l.length+m.length<=maxLen by unfold maxLen;omega,show (l.length+m.length)*16<=140737488355328 by omega⟩,?_⟩;conv=>whnf
  refine⟨show lo .i64<=(j:Int)+1/\(j:Int)+1<=hi .i64 from ja7 (by omega),?_⟩;conv=>whnf
  refine⟨j+1,ja0 [0] ?_,show j+1<=kids.length by omega,show kids.length-(j+1)<kids.length-j by omega⟩;conv=>whnf
  rw[hnx]
  repeat' constructor
  exact jyI _ l m
 rw[decide_eq_false (show ¬ (j:Int)<(kids.length:Int) by omega)];rw[List.take_of_length_le hge];conv=>whnf
 refine⟨0,?_⟩;conv=>whnf
 exact⟨rfl,rfl,rfl,rfl,rfl⟩
theorem jrW (u:Ut) (f:Nt) (hc:jco u f) (n at':Int) (h0:0<=at') (hz:at'+szN f<=1000000):SpecF Tryz.prog 123 [.agg (utA u),.sl 4 1 (ntA f),intA n,intA at'] (jvg (jal (ixU u) f at')):=by
 have hcode:=hc at' h0 hz
 have hrow:ja5 4 0 (ntA f)=ntA f:=by unfold ja5;rfl
 generalize jal (ixU u) f at'=m at hcode;refine jat (ja2 juR xs0 0) (fun _ _ h=>h) Tryz.func123 rfl (by kernel_rfl) rfl (by kernel_rfl) ?_;intro _;conv=>whnf
 refine⟨by decide,?_⟩;conv=>whnf
 (generalize hrq:ja5 _ _ (ntA f)=rq;obtain rfl:rq=ntA f:=hrq.symm.trans (hrow);clear hrq;conv=>whnf)
 refine jcX 0 [] rfl rfl (fun _=>hcode) ?_;rintro e k n cs r ⟨rfl,rfl,rfl,rfl,rfl⟩;conv=>whnf
 refine⟨0,?_⟩;conv=>whnf
 exact⟨rfl,rfl,rfl,rfl,rfl⟩
theorem jrV (u:Ut) (n at':Int):SpecF Tryz.prog 123 [.agg (utA u),.v (.slice none 0 0),intA n,intA at'] (jvg [(1,n)]):=by
 refine jat (ja2 juR xs0 0) (fun _ _ h=>h) Tryz.func123 rfl (by kernel_rfl) rfl (by kernel_rfl) ?_;intro _;conv=>whnf
 refine⟨0,?_⟩;conv=>whnf
 exact⟨rfl,rfl,rfl,by unfold jaJ;rfl,rfl⟩
end Go.Proofs.YtfbifdccmabdbaaGreatDoor.Vm
