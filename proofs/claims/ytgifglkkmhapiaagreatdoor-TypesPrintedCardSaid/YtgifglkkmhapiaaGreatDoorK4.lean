/- Part 4 of the proof. -/
import Derived.Test.YtgifglkkmhapiaaGreatDoorK3
import Derived.Shelf.Lay
import Derived.Shelf.SlIterI.Nil
import Derived.Shelf.SortM.Plain
import Derived.Shelf.SortM.SortNone
import Derived.Recover
set_option maxRecDepth 100000
set_option linter.unusedSimpArgs false
set_option linter.unusedVariables false
set_option linter.unusedSectionVars false
set_option maxHeartbeats 4000000
namespace Go.Proofs.YtgifglkkmhapiaaGreatDoor.Vm
open Go.RowKit Go.Shelf
theorem kU (k n:Int) (s:ByteArray) (f:Nt):ntA (.mk k n s [f])=[jJ k,jJ n,j0 s,.sl 4 1 (ntA f)]:=by
 have e1:ntA f=qG [f]:=by rw[qQ,kC,List.append_nil]
 rw[e1];rfl
theorem wZ (k n:Int) (s:ByteArray) (f g:Nt):ntA (.mk k n s [f,g])=[jJ k,jJ n,j0 s,.sl 4 2 (ntA f++ntA g)]:=by
 have e1:ntA f++ntA g=qG [f,g]:=by rw[qQ,qQ,kC,List.append_nil]
 rw[e1];rfl
def LowQ (nm:List ByteArray) (lv:Int) (low:Option Pa):Prop:=0<=lv/\((low=none/\lv=20) ∨ ∃ p,low=some p/\lv+1<=20/\qO p.no/\qO p.un/\qO p.ex/\qO p.bl ∧
 zN nm 132 (lv+1) p.no/\zN nm 150 (lv+1) p.un/\zN nm 87 (lv+1) p.ex/\zN nm 44 (lv+1) p.bl)
def jou (nm:List ByteArray) (lv:Int) (g:Nat) (op:Option (List Tk->Pn)):Prop:=0<=lv/\((op=none/\lv=20) ∨ ∃ f,op=some f/\lv+1<=20/\qO f/\zN nm g (lv+1) f)
theorem LowQ.no {nm:List ByteArray} {lv:Int} {low:Option Pa} (h:LowQ nm lv low):jou nm lv 132 (low.map (·.no)):=by
 obtain⟨h0,⟨rfl,h1⟩ | ⟨p,rfl,h1,a,b,c,d,e,f,g,i⟩⟩ := h
 ·exact⟨h0,.inl ⟨rfl,h1⟩⟩
 ·exact⟨h0,.inr ⟨_,rfl,h1,a,e⟩⟩
theorem LowQ.un {nm:List ByteArray} {lv:Int} {low:Option Pa} (h:LowQ nm lv low):jou nm lv 150 (low.map (·.un)):=by
 obtain⟨h0,⟨rfl,h1⟩ | ⟨p,rfl,h1,a,b,c,d,e,f,g,i⟩⟩ := h
 ·exact⟨h0,.inl ⟨rfl,h1⟩⟩
 ·exact⟨h0,.inr ⟨_,rfl,h1,b,f⟩⟩
theorem iL (nm:List ByteArray) (s:ByteArray) (lv:Int) (g:Nat) (op:Option (List Tk->Pn)) (hlo:jou nm lv g op) (ts:List Tk) (h:TkP ts) (hs:qS s ts=true) :
  SpecP Tryz.prog 144 [dE nm ts] [.box 0 0,jJ lv,j0 s,.bm g [.box 0 0]] (poQ nm (r9 s op ts)) (pnQ (r9 s op ts)):=by
 obtain⟨hlv,hlo⟩ := hlo
 obtain⟨P,hP⟩ : ∃ P,r9 s op ts=P:=⟨_,rfl⟩
 rw[hP]
 have hopen:=cL nm ts h.pos s (lv+1)
 obtain⟨q1,q2⟩ := h.is hs
 unfold r9 at hP
 rcases hlo with ⟨rfl,rfl⟩ | ⟨f,rfl,hle,gf,sf⟩
 ·simp only at hP
  refine tW jH jY Tryz.func144 rfl ?_;intro _;conv=>whnf
  refine⟨jS (by omega),?_⟩;conv=>whnf
  refine kK 0 [] hopen (fun ch bx' hp => ?_) ?_
  ·rcases hp with ⟨_,_,hp⟩ | ⟨hp,_⟩
   ·exact jK hP.symm hp
   ·rw[hs] at hp;cases hp
  rintro o r ⟨⟨_,hbad⟩,_⟩;omega
 ·simp only at hP
  refine tW jH jY Tryz.func144 rfl ?_;intro _;conv=>whnf
  refine⟨jS (by omega),?_⟩;conv=>whnf
  refine kK 0 [] hopen (fun ch bx' hp => ?_) ?_
  ·rcases hp with ⟨_,hp,_⟩ | ⟨hp,_⟩
   ·omega
   ·rw[hs] at hp;cases hp
  rintro o r ⟨_,ho,rfl⟩;cases ho;generalize ts.tail=ts1 at *;conv=>whnf
  refine⟨jS (by omega),?_⟩;conv=>whnf
  refine kK 0 [] (sf ts1 q1) (fun ch bx' hp => ?_) ?_
  ·obtain⟨x,e,he,hc⟩ := zA hp
   rw[he] at hP;exact jK hP.symm hc
  rintro o r hpo
  obtain⟨k,r1,he,ho,rfl⟩ := jZ hpo
  cases ho;rw[he] at hP;simp only[Pn.andThen] at hP;subst hP;conv=>whnf
  exact⟨rfl,by rw[kU];rfl⟩
theorem jeK {nm:List ByteArray} {lv:Int} {low:Option Pa} (hlo:LowQ nm lv low):zN nm 152 lv (dB low):=fun ts h=>by
 obtain⟨hlv,hlo⟩ := hlo
 obtain⟨P,hP⟩ : ∃ P,dB low ts=P:=⟨_,rfl⟩
 rw[hP]
 have hopen:=cL nm ts h.pos pLp (lv+1)
 unfold dB at hP;refine tW jH jY Tryz.func152 rfl ?_;intro _;conv=>whnf
 have hlv2:lv<=20:=by rcases hlo with ⟨_,h⟩ | ⟨_,_,h,_⟩ <;> omega
 refine⟨jS (by omega),?_⟩;conv=>whnf
 refine kK 0 [] hopen (fun ch bx' hp => ?_) ?_
 ·rcases hp with ⟨h1,h2,hp⟩ | ⟨h1,hp⟩
  ·rw[if_pos h1] at hP
   rcases hlo with ⟨rfl,rfl⟩ | ⟨p,rfl,hle,_⟩
   ·exact jK hP.symm hp
   ·omega
  ·rw[if_neg (by rw[h1];simp)] at hP;exact jK hP.symm hp
 rintro o r ⟨⟨h1,h2⟩,ho,rfl⟩;cases ho;rw[if_pos h1] at hP
 obtain⟨q1,q2⟩ := h.is h1
 rcases hlo with ⟨rfl,rfl⟩ | ⟨p,rfl,hle,_,_,ge,_,_,_,se,_⟩
 ·omega
 simp only at hP
 generalize ts.tail=ts1 at *;conv=>whnf
 refine⟨jS (by omega),?_⟩;conv=>whnf
 refine kK 0 [] (se ts1 q1) (fun ch bx' hp => ?_) ?_
 ·obtain⟨x,e,he,hc⟩ := zA hp
  rw[he] at hP;exact jK hP.symm hc
 rintro o r hpo
 obtain⟨k,r1,he,ho,rfl⟩ := jZ hpo
 cases ho;rw[he] at hP;simp only[Pn.andThen,xpt] at hP
 obtain⟨g1,g2⟩ := ge _ _ _ q1 he
 conv=>whnf
 refine kK 0 [] (jR nm r1 g1.pos pRp) (fun ch bx' hp => ?_) ?_
 ·rw[if_neg (by rw[hp.1];simp)] at hP;exact jK hP.symm hp.2
 rintro o r ⟨h3,ho,rfl⟩;cases ho;rw[if_pos h3] at hP;subst hP;conv=>whnf
 exact⟨rfl,rfl⟩
def jpL (f:Nt):List A:=[jJ f.k,jJ f.n,j0 f.s,.v (.slice none 0 0)]
theorem jV {f:Nt} (h:f.kids=[]):WkL (jpL f) (ntA f):=by
 unfold jpL ntA;rw[h,kC];exact .cons (.refl _) (.cons (.refl _) (.cons (.refl _) (.cons (.nil 4) .nil)))
def poW (nm:List ByteArray) (p:Pn) (o:List (List A)) (r:A):Prop:=match p with
 | .ok f ts=>o=[dE nm ts] /\ ∃ c,r = .agg c/\WkL c (ntA f)
 | _=>False
theorem qE:∀ l:List A,WkL l l
 | [] => .nil
 | a :: l => .cons (.refl a) (qE l)
theorem jgw {nm:List ByteArray} {p:Pn} {o:List (List A)} {r:A} (h:poQ nm p o r):poW nm p o r:=by
 obtain⟨f,ts,rfl,rfl,rfl⟩ := jZ h
 exact⟨rfl,_,rfl,qE _⟩
theorem jhZ {nm:List ByteArray} {g:Nat} {ins:List (List A)} {args:List A} {p:Pn} (h:SpecP Tryz.prog g ins args (poW nm p) (pnQ p)):SpecP Tryz.prog g ins args (poQ nm p) (pnQ p) :=
 h.weaken (fun o r k=>by
  unfold poW at k
  split at k
  ·rename_i f ts
   obtain⟨k1,c,rfl,k2⟩ := k
   exact⟨o,.agg (ntA f),⟨k1,rfl⟩,.refl o,.agg k2⟩
  ·exact k.elim) fun ch k=>k
theorem jdi {nm:List ByteArray} {lv:Int} {low:Option Pa} (hlo:LowQ nm lv low):zN nm 151 lv (wI low):=fun ts h=>by
 have hne:=jeK hlo
 refine jhZ ?_
 obtain⟨P,hP⟩ : ∃ P,wI low ts=P:=⟨_,rfl⟩
 rw[hP]
 have hl:=h.pos
 have hr:=gF hl
 have hw:=h.hd
 have hgd:=h.good
 have his:=fun s=>v7 nm ts hl s
 have hnx:=wD nm ts hl
 have hnm:=cK nm ts hl hw hgd.1
 have hfl:=vG nm ts hl 10
 have htl:=h.tail
 have hps:=fun s (hs:qS s ts=true)=>h.is hs
 unfold wOk at hw
 have hz:=hgd.1
 clear hgd
 have hbi:jer ts=(decide ((hd ts).kind=1) && builtL.any fun s=>decide ((hd ts).text=s)):=rfl
 unfold wI at hP;refine tW jH jY Tryz.func151 rfl ?_;intro _
 have hsyn:synE ts = .bad (hd ts).pos 10:=rfl
 have hn0:=hne ts h
 generalize hd ts=t at *;conv=>whnf
 (refine uI ?_;try with_reducible exact trivial)
 (generalize hrq:jM _ _ (yH ts)=rq;obtain rfl:rq=pY t:=hrq.symm.trans (hr);clear hrq;conv=>whnf)
 refine qT 0 [] (his pLp) ?_;rintro o r ⟨ho,rfl⟩;cases ho;conv=>whnf
 cases hq1:qS pLp ts with
 | true =>
  rw[if_pos hq1] at hP;conv=>whnf
  rw[hP] at hn0;refine kK 0 [] hn0 (fun ch bx' hp=>hp) ?_;rintro o r hpo
  obtain⟨f,r1,rfl,ho,rfl⟩ := jZ hpo
  cases ho;conv=>whnf
  exact jgw (p := .ok f r1) (show _/\_ from ⟨rfl,rfl⟩)
 | false =>
  rw[if_neg (by rw[hq1];simp)] at hP;conv=>whnf
  refine qT 0 [] (his wDraw) ?_;rintro o r ⟨ho,rfl⟩;cases ho;conv=>whnf
  cases hq2:qS wDraw ts with
  | true =>
   rw[if_pos hq2] at hP
   obtain⟨q1,q2⟩ := hps _ hq2
   generalize ts.tail=ts1 at *;conv=>whnf
   refine qT 0 [] hnx ?_;rintro o r ⟨ho,rfl⟩;cases ho;conv=>whnf
   refine kK 0 [] (hne ts1 q1) (fun ch bx' hp => ?_) ?_
   ·obtain⟨x,e,he,hc⟩ := zA hp
    rw[he] at hP;exact jK hP.symm hc
   rintro o r hpo
   obtain⟨f,r1,he,ho,rfl⟩ := jZ hpo
   cases ho;rw[he] at hP;simp only[Pn.andThen] at hP;subst hP;conv=>whnf
   exact jgw (p := .ok (.mk 16 0 eB [f]) r1) (show _/\_ from ⟨rfl,by rw[kU];rfl⟩)
  | false =>
   rw[if_neg (by rw[hq2];simp)] at hP;conv=>whnf
   by_cases hk2:t.kind=2
   ·rw[qH hk2];rw[if_pos hk2] at hP;conv=>whnf
    refine qT 0 [] hnx ?_;rintro o r ⟨ho,rfl⟩;cases ho;subst hP;conv=>whnf
    exact⟨rfl,_,rfl,jV (f := .mk 12 t.n eB []) rfl⟩
   ·rw[j8 hk2];rw[if_neg hk2] at hP;conv=>whnf
    refine qT 0 [] (his oQ) ?_;rintro o r ⟨ho,rfl⟩;cases ho;conv=>whnf
    cases hq3:qS oQ ts with
    | true =>
     rw[if_pos hq3] at hP;conv=>whnf
     refine qT 0 [] hnx ?_;rintro o r ⟨ho,rfl⟩;cases ho;subst hP;conv=>whnf
     exact⟨rfl,_,rfl,jV (f := .mk 13 1 eB []) rfl⟩
    | false =>
     rw[if_neg (by rw[hq3];simp)] at hP;conv=>whnf
     refine qT 0 [] (his cZ) ?_;rintro o r ⟨ho,rfl⟩;cases ho;conv=>whnf
     cases hq4:qS cZ ts with
     | true =>
      rw[if_pos hq4] at hP;conv=>whnf
      refine qT 0 [] hnx ?_;rintro o r ⟨ho,rfl⟩;cases ho;subst hP;conv=>whnf
      exact⟨rfl,_,rfl,jV (f := .mk 13 0 eB []) rfl⟩
     | false =>
      rw[if_neg (by rw[hq4];simp)] at hP;conv=>whnf
      refine qT 0 [] hnm ?_;rintro o r ⟨ho,rfl⟩;cases ho;conv=>whnf
      cases hq5:yU ts with
      | true =>
       rw[if_pos hq5] at hP;conv=>whnf
       refine qT 0 [] hnx ?_;rintro o r ⟨ho,rfl⟩;cases ho;subst hP;conv=>whnf
       exact⟨rfl,_,rfl,jV (f := .mk 14 0 t.text []) rfl⟩
      | false =>
       rw[if_neg (by rw[hq5];simp)] at hP;conv=>whnf
       by_cases hk1:t.kind=1
       ·obtain⟨w1,w2⟩ := hw hk1
        have hc:∀ K:ByteArray,K.size<=1000000000->K.data.toList=spW (builtL.map (·.data.toList))->Spec Tryz.prog 86 [] [j0 K,j0 ((⟨#[32]⟩ : ByteArray)++t.text ++ ⟨#[32]⟩)] fun _ r=>r=wP (builtL.any fun s=>decide (t.text=s)):=fun K hK hK2=>by
         have:=jan K ((⟨#[32]⟩ : ByteArray)++t.text ++ ⟨#[32]⟩) hK
         rw[tE,hK2,lA _ w2 _ joI,<- tC] at this;exact this
        have hs1:(⟨#[32]⟩ : ByteArray).size=1:=rfl
        rw[qH hk1,Bool.true_and] at hbi;rw[qH hk1];conv=>whnf
        refine⟨by rw[hs1];unfold maxLen;omega,?_⟩;conv=>whnf
        refine⟨by rw[ByteArray.size_append,hs1];unfold maxLen;omega,?_⟩;conv=>whnf
        (refine jdT [] rfl (fun _=>hc _ (by decide +kernel) (by decide +kernel)) ?_;rintro r rfl;conv=>whnf)
        rw[hbi] at hP
        cases hq6:builtL.any fun s=>decide (t.text=s) with
        | true =>
         rw[hq6,if_pos rfl] at hP;conv=>whnf
         refine qT 0 [] hnx ?_;rintro o r ⟨ho,rfl⟩;cases ho;subst hP;conv=>whnf
         exact⟨rfl,_,rfl,jV (f := .mk 15 0 t.text []) rfl⟩
        | false =>
         rw[hq6,if_neg (by simp),hsyn] at hP;conv=>whnf
         refine kK 0 [] hfl (fun ch bx' hp=>jK hP.symm hp) ?_;rintro o r ⟨⟩
       ·rw[j8 hk1,Bool.false_and] at hbi;rw[hbi,if_neg (by simp),hsyn] at hP;rw[j8 hk1];conv=>whnf
        refine kK 0 [] hfl (fun ch bx' hp=>jK hP.symm hp) ?_;rintro o r ⟨⟩
def dD (low:Option Pa):Prop := ∀ p,low=some p->qO p.no/\qO p.un/\qO p.ex/\qO p.bl
theorem jX {p:Pn} {k:Nt->List Tk->Pn} {f:Nt} {r:List Tk} (h:p.andThen k = .ok f r):∃ g s,p = .ok g s/\k g s = .ok f r:=by
 cases p with
 | ok g s=>exact⟨g,s,rfl,h⟩
 | bad x e=>cases h
theorem yW {s:ByteArray} {ts:List Tk} {k:List Tk->Pn} {f:Nt} {r:List Tk} (h:xpt s ts k = .ok f r):qS s ts=true/\k ts.tail = .ok f r:=by
 unfold xpt at h
 split at h
 ·rename_i hs;exact⟨hs,h⟩
 ·cases h
theorem jbz {low:Option Pa} (hl:dD low):qO (dB low):=fun ts f r h e=>by
 unfold dB at e
 split at e
 ·rename_i hs
  obtain⟨q1,q2⟩ := h.is hs
  cases low with
  | none=>cases e
  | some p =>
   simp only at e
   obtain⟨n,s,e1,e2⟩ := jX e
   obtain⟨g1,g2⟩ := (hl p rfl).2.2.1 _ _ _ q1 e1
   obtain⟨e3,e4⟩ := yW e2
   obtain⟨g3,g4⟩ := g1.is e3
   cases e4
   exact⟨g3,by omega⟩
 ·cases e
theorem jek {s:ByteArray} {op:Option (List Tk->Pn)} (hg:∀ f,op=some f->qO f) (ts:List Tk) (f:Nt) (r:List Tk) (h:TkP ts) (hs:qS s ts=true) (e:r9 s op ts = .ok f r):TkP r/\r.length<=ts.length:=by
 obtain⟨q1,q2⟩ := h.is hs
 cases op with
 | none=>cases e
 | some o =>
  unfold r9 at e
  simp only at e
  obtain⟨n,s,e1,e2⟩ := jX e
  obtain⟨g1,g2⟩ := hg o rfl _ _ _ q1 e1
  cases e2
  exact⟨g1,by omega⟩
theorem jir {low:Option Pa} (hl:dD low):qO (wI low):=fun ts f r h e=>by
 unfold wI at e
 split at e
 ·exact jbz hl ts f r h e
 split at e
 ·rename_i hs
  obtain⟨q1,q2⟩ := h.is hs
  obtain⟨n,s,e1,e2⟩ := jX e
  obtain⟨g1,g2⟩ := jbz hl _ _ _ q1 e1
  cases e2
  exact⟨g1,by omega⟩
 split at e
 ·rename_i hk
  obtain⟨q1,q2⟩ := h.tail (by rw[hk];decide)
  cases e
  exact⟨q1,by omega⟩
 split at e
 ·rename_i hs
  obtain⟨q1,q2⟩ := h.is hs
  cases e
  exact⟨q1,by omega⟩
 split at e
 ·rename_i hs
  obtain⟨q1,q2⟩ := h.is hs
  cases e
  exact⟨q1,by omega⟩
 split at e
 ·rename_i hs
  unfold yU at hs;simp only[Bool.and_eq_true,decide_eq_true_eq] at hs
  obtain⟨q1,q2⟩ := h.tail (by rw[hs.1];decide)
  cases e
  exact⟨q1,by omega⟩
 split at e
 ·rename_i hs
  unfold jer at hs;simp only[Bool.and_eq_true,decide_eq_true_eq] at hs
  obtain⟨q1,q2⟩ := h.tail (by rw[hs.1];decide)
  cases e
  exact⟨q1,by omega⟩
 ·cases e
theorem bE {low:Option Pa} (hl:dD low):qO (x6 low):=fun ts f r h e=>by
 unfold x6 at e
 split at e
 ·rename_i hs
  refine jek (fun o ho => ?_) ts f r h hs e;rw[Option.map_eq_some_iff] at ho
  obtain⟨p,hp,rfl⟩ := ho
  exact (hl p hp).2.1
 ·exact jir hl ts f r h e
theorem uJ {op:List Tk->Pn} (hg:qO op) (signs:List ByteArray):∀ (n:Nat) (l:Nt) (ts:List Tk) (f:Nt) (r:List Tk),TkP ts->xK op signs n l ts = .ok f r->TkP r/\r.length<=ts.length
 | 0,l,ts,f,r,h,e=>by cases e;exact⟨h,Nat.le_refl _⟩
 | n+1,l,ts,f,r,h,e=>by
  rw[xK] at e
  split at e
  ·rename_i hs
   obtain⟨s,hs⟩ := fA hs
   obtain⟨q1,q2⟩ := h.is hs
   obtain⟨g,s,e1,e2⟩ := jX e
   obtain⟨g1,g2⟩ := hg _ _ _ q1 e1
   obtain⟨g3,g4⟩ := uJ hg signs n _ _ _ _ g1 e2
   exact⟨g3,by omega⟩
  ·cases e;exact⟨h,Nat.le_refl _⟩
theorem vY {op:List Tk->Pn} (hg:qO op) (signs:List ByteArray):qO (kG op signs):=fun ts f r h e=>by
 unfold kG at e
 obtain⟨g,s,e1,e2⟩ := jX e
 obtain⟨g1,g2⟩ := hg _ _ _ h e1
 obtain⟨g3,g4⟩ := uJ hg signs _ _ _ _ _ g1 e2
 exact⟨g3,by omega⟩
theorem mY {low:Option Pa} (hl:dD low):qO (jax low):=vY (vY (bE hl) _) _
theorem bD {low:Option Pa} (hl:dD low):qO (lK low):=fun ts f r h e=>by
 unfold lK at e
 split at e
 ·rename_i hs
  refine jek (fun o ho => ?_) ts f r h hs e;rw[Option.map_eq_some_iff] at ho
  obtain⟨p,hp,rfl⟩ := ho
  exact (hl p hp).1
 ·obtain⟨g,s,e1,e2⟩ := jX e
  obtain⟨g1,g2⟩ := mY hl _ _ _ h e1
  split at e2
  ·rename_i hs
   obtain⟨_,hs⟩ := fA hs
   obtain⟨q1,q2⟩ := g1.is hs
   obtain⟨g',s',e3,e4⟩ := jX e2
   obtain⟨g3,g4⟩ := mY hl _ _ _ q1 e3
   cases e4
   exact⟨g3,by omega⟩
  ·cases e2
   exact⟨g1,g2⟩
theorem nK {low:Option Pa} (hl:dD low):qO (mR low):=vY (vY (bD hl) _) _
theorem LowQ.goes {nm:List ByteArray} {lv:Int} {low:Option Pa} (h:LowQ nm lv low):dD low:=fun p hp=>by
 obtain⟨h0,⟨rfl,h1⟩ | ⟨q,rfl,h1,a,b,c,d,e,f,g,i⟩⟩ := h
 ·cases hp
 ·cases hp;exact⟨a,b,c,d⟩
theorem jaK {nm:List ByteArray} {lv:Int} {low:Option Pa} (hlo:LowQ nm lv low):zN nm 150 lv (x6 low):=fun ts h=>by
 have hpr:=jdi hlo ts h
 obtain⟨P,hP⟩ : ∃ P,x6 low ts=P:=⟨_,rfl⟩
 rw[hP]
 have his:=v7 nm ts h.pos pMinus
 have hpre:=fun hs=>iL nm pMinus lv _ _ hlo.un ts h hs
 unfold x6 at hP;refine tW jH jY Tryz.func150 rfl ?_;intro _;conv=>whnf
 refine qT 0 [] his ?_;rintro o r ⟨ho,rfl⟩;cases ho;conv=>whnf
 cases hq:qS pMinus ts with
 | true =>
  have hpre:=hpre hq
  rw[if_pos hq] at hP;rw[hP] at hpre;conv=>whnf
  refine kK 0 [] hpre (fun ch bx' hp=>hp) ?_;rintro o r hpo
  obtain⟨f,r1,rfl,ho,rfl⟩ := jZ hpo
  cases ho;conv=>whnf
  exact⟨rfl,rfl⟩
 | false =>
  rw[if_neg (by rw[hq];simp)] at hP;rw[hP] at hpr;conv=>whnf
  refine kK 0 [] hpr (fun ch bx' hp=>hp) ?_;rintro o r hpo
  obtain⟨f,r1,rfl,ho,rfl⟩ := jZ hpo
  cases ho;conv=>whnf
  exact⟨rfl,rfl⟩
theorem jdj {nm:List ByteArray} {lv:Int} {low:Option Pa} (hlo:LowQ nm lv low):zN nm 149 lv (kG (x6 low) [z7,qJ]):=by
 have hop:=jaK hlo
 have hgo:=bE hlo.goes
 intro ts h
 obtain⟨P,hP⟩ : ∃ P,kG (x6 low) [z7,qJ] ts=P:=⟨_,rfl⟩
 have hch:=b8 nm (x6 low) [z7,qJ] lv 150 (by decide) hgo hop ts h
 show SpecP _ _ _ _ (poQ nm (kG (x6 low) [z7,qJ] ts)) (pnQ (kG (x6 low) [z7,qJ] ts))
 rw[hP] at hch ⊢;refine tW jH jY Tryz.func149 rfl ?_;intro _;conv=>whnf
 refine kK 0 [0] hch (fun ch bx' hp=>hp) ?_;rintro o r hpo
 obtain⟨f,r1,rfl,ho,rfl⟩ := jZ hpo
 cases ho;conv=>whnf
 exact⟨rfl,rfl⟩
theorem jlG {nm:List ByteArray} {lv:Int} {low:Option Pa} (hlo:LowQ nm lv low):zN nm 145 lv (jax low):=by
 have hop:=jdj hlo
 have hgo:=vY (bE hlo.goes) [z7,qJ]
 show zN _ _ _ (kG (kG (x6 low) [z7,qJ]) [wH,pMinus])
 intro ts h
 obtain⟨P,hP⟩ : ∃ P,kG (kG (x6 low) [z7,qJ]) [wH,pMinus] ts=P:=⟨_,rfl⟩
 have hch:=b8 nm (kG (x6 low) [z7,qJ]) [wH,pMinus] lv 149 (by decide) hgo hop ts h
 show SpecP _ _ _ _ (poQ nm (kG (kG (x6 low) [z7,qJ]) [wH,pMinus] ts)) (pnQ (kG (kG (x6 low) [z7,qJ]) [wH,pMinus] ts))
 rw[hP] at hch ⊢;refine tW jH jY Tryz.func145 rfl ?_;intro _;conv=>whnf
 refine kK 0 [0] hch (fun ch bx' hp=>hp) ?_;rintro o r hpo
 obtain⟨f,r1,rfl,ho,rfl⟩ := jZ hpo
 cases ho;conv=>whnf
 exact⟨rfl,rfl⟩
theorem jeO {nm:List ByteArray} {lv:Int} {low:Option Pa} (hlo:LowQ nm lv low):zN nm 132 lv (lK low):=fun ts h=>by
 have hsm:=jlG hlo
 have hgs:=mY hlo.goes
 obtain⟨P,hP⟩ : ∃ P,lK low ts=P:=⟨_,rfl⟩
 rw[hP]
 have his:=v7 nm ts h.pos zH
 have hpre:=fun hs=>iL nm zH lv _ _ hlo.no ts h hs
 unfold lK at hP;generalize jax low=op at *;refine tW jpj (fun _=>[0]) Tryz.func132 rfl ?_;intro _;conv=>whnf
 refine qT 0 [] his ?_;rintro o r ⟨ho,rfl⟩;cases ho;conv=>whnf
 cases hq:qS zH ts with
 | true =>
  have hpre:=hpre hq
  rw[if_pos hq] at hP;rw[hP] at hpre;conv=>whnf
  refine kK 0 [] hpre (fun ch bx' hp=>hp) ?_;rintro o r hpo
  obtain⟨f,r1,rfl,ho,rfl⟩ := jZ hpo
  cases ho;conv=>whnf
  exact⟨rfl,rfl⟩
 | false =>
  rw[if_neg (by rw[hq];simp)] at hP;conv=>whnf
  refine kK 0 [] (hsm ts h) (fun ch bx' hp => ?_) ?_
  ·obtain⟨x,e,he,hc⟩ := zA hp
   rw[he] at hP;exact jK hP.symm hc
  rintro o r hpo
  obtain⟨f,r1,he,ho,rfl⟩ := jZ hpo
  cases ho;rw[he] at hP;simp only[Pn.andThen] at hP
  obtain⟨g1,g2⟩ := hgs _ _ _ h he
  have hct:=jad nm r1 g1.pos cmpL (by decide)
  conv=>whnf
  refine qT 0 [0] hct ?_;rintro o r ⟨ho,rfl⟩;cases ho;conv=>whnf
  cases hc:vV cmpL r1 with
  | true =>
   rw[if_pos hc] at hP
   obtain⟨_,hs⟩ := fA hc
   obtain⟨q1,q2⟩ := g1.is hs
   have hnx:=wD nm r1 g1.pos
   generalize r1.tail=r2 at *;generalize hd r1=t at *;conv=>whnf
   refine qT 0 [] hnx ?_;rintro o r ⟨ho,rfl⟩;cases ho;conv=>whnf
   refine kK 0 [] (hsm r2 q1) (fun ch bx' hp => ?_) ?_
   ·obtain⟨x,e,he,hc⟩ := zA hp
    rw[he] at hP;exact jK hP.symm hc
   rintro o r hpo
   obtain⟨f2,r3,he2,ho,rfl⟩ := jZ hpo
   cases ho;rw[he2] at hP;simp only[Pn.andThen] at hP;subst hP;conv=>whnf
   exact⟨rfl,by rw[wZ];rfl⟩
  | false =>
   rw[if_neg (by rw[hc];simp)] at hP;subst hP;conv=>whnf
   exact⟨rfl,rfl⟩
theorem jjy {nm:List ByteArray} {lv:Int} {low:Option Pa} (hlo:LowQ nm lv low):zN nm 106 lv (kG (lK low) [yP]):=by
 have hop:=jeO hlo
 have hgo:=bD hlo.goes
 intro ts h
 obtain⟨P,hP⟩ : ∃ P,kG (lK low) [yP] ts=P:=⟨_,rfl⟩
 have hch:=b8 nm (lK low) [yP] lv 132 (by decide) hgo hop ts h
 show SpecP _ _ _ _ (poQ nm (kG (lK low) [yP] ts)) (pnQ (kG (lK low) [yP] ts))
 rw[hP] at hch ⊢;refine tW jH jY Tryz.func106 rfl ?_;intro _;conv=>whnf
 refine kK 0 [0] hch (fun ch bx' hp=>hp) ?_;rintro o r hpo
 obtain⟨f,r1,rfl,ho,rfl⟩ := jZ hpo
 cases ho;conv=>whnf
 exact⟨rfl,rfl⟩
theorem jbt {nm:List ByteArray} {lv:Int} {low:Option Pa} (hlo:LowQ nm lv low):zN nm 87 lv (mR low):=by
 have hop:=jjy hlo
 have hgo:=vY (bD hlo.goes) [yP]
 show zN _ _ _ (kG (kG (lK low) [yP]) [pOr])
 intro ts h
 obtain⟨P,hP⟩ : ∃ P,kG (kG (lK low) [yP]) [pOr] ts=P:=⟨_,rfl⟩
 have hch:=b8 nm (kG (lK low) [yP]) [pOr] lv 106 (by decide) hgo hop ts h
 show SpecP _ _ _ _ (poQ nm (kG (kG (lK low) [yP]) [pOr] ts)) (pnQ (kG (kG (lK low) [yP]) [pOr] ts))
 rw[hP] at hch ⊢;refine tW jH jY Tryz.func87 rfl ?_;intro _;conv=>whnf
 refine kK 0 [0] hch (fun ch bx' hp=>hp) ?_;rintro o r hpo
 obtain⟨f,r1,rfl,ho,rfl⟩ := jZ hpo
 cases ho;conv=>whnf
 exact⟨rfl,rfl⟩
end Go.Proofs.YtgifglkkmhapiaaGreatDoor.Vm
namespace Go.Proofs.YtgifglkkmhapiaaGreatDoor.Vm
open Go.RowKit
section
section
variable {w0:W0} {C0:Rd} {β0:List Nat} {bx:List (List A)} {rw:List Row} {w:World} {E:Env}
theorem Hp.learn (h:Hp w0 C0 β0 bx rw w E) {b:Nat} (hf:w0.fr b) (hβ:b ∉ E.β) (hr:∀ (g e k n:Nat) (cs:List A) (y:Value),rw[g]? = some (.live e k n cs)->E.ρ[g]? = some y->blk y ≠ some b) :
  ∃ C',Hp w0 C0 β0 bx rw w ⟨C',E.β,E.ρ⟩ /\ E.le ⟨C',E.β,E.ρ⟩ /\ ∀ ad,ad.block=b->C' ad=kJ w ad:=by
 refine⟨fun ad=>if ad.block=b then kJ w ad else E.C ad,?_⟩
 have hC:Sub E.C (fun ad=>if ad.block=b then kJ w ad else E.C ad):=fun ad u hc=>by
  simp only
  split
  ·exact h.sub ad u hc
  ·exact hc
 have le:E.le ⟨fun ad=>if ad.block=b then kJ w ad else E.C ad,E.β,E.ρ⟩ := ⟨hC,fun _ _ h=>h,fun _ _ h=>h⟩
 refine⟨⟨fun ad u hc => ?_,h.base.trans hC,fun ad u hc => ?_,h.bp,h.bnd,fun b' hb' o sp => ?_,h.bl,fun i b cs' h1 h2=>(h.bxs i b cs' h1 h2).mono le,h.rl,fun j r' z h1 h2=>(h.rws j r' z h1 h2).mono le (fun _ _ _ _ _ _ _=>rfl),fun j e' k' n' cs' z b' h1 h2 h3 => ?_,h.rd,h.rs,h.keep,h.gk⟩,le,fun ad e=>if_pos e⟩
 ·simp only at hc
  split at hc
  ·exact hc
  ·exact h.sub ad u hc
 ·simp only at hc
  split at hc
  ·rename_i hb2
   right
   rw[hb2];exact hf
  ·exact h.fresh ad u hc
 ·simp only
  rw[if_neg (fun hb2:b'=b=>hβ (by rw[<- hb2];exact hb'))];exact h.bC b' hb' o sp
 ·obtain⟨q1,q2⟩ := h.rC j e' k' n' cs' z b' h1 h2 h3
  refine⟨q1,fun o sp => ?_⟩
  simp only
  rw[if_neg (fun hb2:b'=b=>hr j e' k' n' cs' z h1 h2 (by rw[<- hb2];exact h3))];exact q2 o sp
end
def jdW (n nr:Nat) (x:Value) (a:A):A:=match a with
 | .box i o=>match Nat.beq i n with
  | true=>match o with
   | 0 => .pp [.v x]
   | _+1 => .dead
  | false=>match yC n nr a with
   | true=>a
   | false => .dead
 | a=>match yC n nr a with
  | true=>a
  | false => .dead
theorem jij {E:Env} {C':Rd} {n nr b:Nat} {x:Value} {a:A} {y:Value} (hb:E.β[n]? = some b) (hC:Sub E.C C') (hx:C' ⟨b,0,none⟩ = some x) (h1:x.oneCell'=true) (hv:dG x) (h:a.rep E y):(jdW n nr x a).rep ⟨C',E.β.take n,E.ρ.take nr⟩ y:=by
 have le:(⟨E.C,E.β.take n,E.ρ.take nr⟩ : Env).le ⟨C',E.β.take n,E.ρ.take nr⟩ := ⟨hC,fun _ _ h=>h,fun _ _ h=>h⟩
 have gen:∀ a:A,a.rep E y->(match yC n nr a with | true=>a | false => .dead:A).rep ⟨C',E.β.take n,E.ρ.take nr⟩ y:=fun a h=>by
  split
  ·rename_i hr
   exact A.rep.mono a le (eJ a hr h)
  ·exact A.rep_dead _ _
 cases a with
 | box i o =>
  unfold jdW
  simp only
  split
  ·rename_i hi
   have hi:=Nat.eq_of_beq_eq_true hi
   subst hi;unfold A.rep at h
   obtain⟨b',h2,rfl⟩ := h
   rw[hb] at h2
   cases h2
   cases o with
   | zero =>
    simp only
    unfold A.rep;refine⟨b,0,rfl,?_⟩;unfold A.repAt;exact⟨⟨x,hx,h1,A.rep_v hv⟩,by unfold A.repAt;trivial⟩
   | succ o=>exact A.rep_dead _ _
  ·exact gen _ h
 | _=>exact gen _ h
theorem jbn {E:Env} {C':Rd} {n nr b:Nat} {x:Value} (hb:E.β[n]? = some b) (hC:Sub E.C C') (hx:C' ⟨b,0,none⟩ = some x) (h1:x.oneCell'=true) (hv:dG x):∀ {l:List A} {us:List Value},A.repL l E us->A.repL (l.map (jdW n nr x)) ⟨C',E.β.take n,E.ρ.take nr⟩ us
 | [],us,h=>by unfold A.repL at h ⊢;exact h
 | a :: r,us,h=>by
  unfold A.repL at h
  obtain⟨u,us',rfl,h2,h3⟩ := h
  rw[List.map_cons];unfold A.repL;exact⟨u,us',rfl,jij hb hC hx h1 hv h2,jbn hb hC hx h1 hv h3⟩
theorem jex:∀ l:List A,LeL l l
 | []=>trivial
 | a :: l=>⟨.inr rfl,jex l⟩
theorem jhv:∀ (l m:List (List A)),LeB (l++m) l
 | [],[]=>trivial
 | [],_ :: _=>trivial
 | a :: l,m=>⟨jex a,jhv l m⟩
theorem jey:∀ l:List Row,LeR l l
 | []=>trivial
 | a :: l=>⟨.inr rfl,jey l⟩
theorem jmF {np:Nat} {t:List A} {bx:List (List A)} {rw:List Row} {x:Value} (hn:Nat.ble np bx.length=true) (hrf:rS bx.length rw.length bx=true):Le np ⟨t,bx++[[.v x]],rw⟩ ⟨t.map (jdW bx.length rw.length x),bx,rw⟩ := by
 rintro dr w0 C0 β0 a w hdr e ⟨E,hp,hrep,hd⟩
 have hn':=Nat.le_of_ble_eq_true hn
 rw[<- e] at hn'
 have hpw:=hp.weaken (bx':=bx) (rw':=rw) hn' (jhv _ _) (jey _) hrf
 have hbl:=hp.bl
 simp only[List.length_append,List.length_cons,List.length_nil] at hbl
 have hlt:bx.length<E.β.length:=by omega
 obtain⟨b,hb⟩ : ∃ b,E.β[bx.length]? = some b:=⟨_,List.getElem?_eq_getElem hlt⟩
 obtain⟨T,arr,h1,h2⟩ := hp.bxs bx.length b [.v x] hb (by simp)
 have h2:=h2.plain (fun t r e=>by cases e)
 unfold A.repC at h2
 obtain⟨u,us',h3,h4,h5,-⟩ := h2
 obtain⟨rfl,h6⟩ := A.rep_v_iff.1 h5
 have hsee:kJ w ⟨b,0,none⟩ = some u:=by
  refine jao ?_
  have h0:arr[0]? = some u:=by
   have:=congrArg (·[0]?) h3
   simpa using this
  simp[World.cell?,h1,h0]
 have hbm:b ∈ E.β:=List.mem_of_getElem? hb
 have hfr:w0.fr b:=by
  obtain⟨β',hβ,hβ'⟩ := hp.bp
  refine .inl (hβ' b ?_);rw[hβ,List.getElem?_append_right hn'] at hb;exact List.mem_of_getElem? hb
 have hnt:b ∉ E.β.take bx.length:=fun hm=>by
  obtain⟨i,hi,he⟩ := List.mem_iff_getElem.1 hm
  rw[List.length_take] at hi;rw[List.getElem_take] at he
  have h7:E.β[i]? = some b:=by rw[List.getElem?_eq_getElem (by omega),he]
  have:=(List.getElem?_inj (by omega) hp.bnd).1 (h7.trans hb.symm)
  omega
 obtain⟨C',hp2,le,hC'⟩ := hpw.learn hfr hnt (fun g e k n cs y hg hy hk=>by
  have hy':E.ρ[g]? = some y:=by
   rw[List.getElem?_take] at hy
   split at hy
   ·exact hy
   ·cases hy
  exact (hp.rC g e k n cs y b hg hy' hk).1 hbm)
 refine⟨⟨C',E.β.take bx.length,E.ρ.take rw.length⟩,hp2,?_,?_⟩
 ·exact jbn hb le.C (show C' ⟨b,0,none⟩ = some u by rw[hC' _ rfl];exact hsee) h4 h6 hrep
 ·exact (fR (by rw[e] at hn';exact hn') hdr hd).mono le
theorem jhL {c:Cx} {x:Code} {t:List A} {bx:List (List A)} {rw:List Row} {v:Value} {q:Exit->S->Prop} (hn:Nat.ble c.np bx.length=true) (hrf:rS bx.length rw.length bx=true) (h:gS (jdW bx.length rw.length v) t fun t' => Ok c x ⟨t',bx,rw⟩ q):Ok c x ⟨t,bx++[[.v v]],rw⟩ q:=by
 rw[qI] at h;exact jkG (jmF hn hrf) h
end
end Go.Proofs.YtgifglkkmhapiaaGreatDoor.Vm
namespace Go.Proofs.YtgifglkkmhapiaaGreatDoor.Vm
open Go.RowKit Go.Shelf
theorem jfl (k:Int):Spec Tryz.prog 107 [] [jJ k] fun _ r=>r = .clo 108 [.pp [jJ k]]:=by
 refine nU (jF jH jY 0) (fun _ _ h=>h) Tryz.func107 rfl (by kernel_rfl) rfl ?_;intro _;refine yA (jF _ _ _) (by kernel_rfl) ?_;conv=>whnf
 refine jhL (bx:=[]) (v := .int .i64 k) rfl rfl ?_;conv=>whnf
 refine kL (jF _ _ _) (by kernel_rfl) ?_;conv=>whnf
 rfl
theorem jfm (k:Int):Spec Tryz.prog 109 [] [jJ k] fun _ r=>r = .clo 110 [.pp [jJ k]]:=by
 refine nU (jF jH jY 0) (fun _ _ h=>h) Tryz.func109 rfl (by kernel_rfl) rfl ?_;intro _;refine yA (jF _ _ _) (by kernel_rfl) ?_;conv=>whnf
 refine jhL (bx:=[]) (v := .int .i64 k) rfl rfl ?_;conv=>whnf
 refine kL (jF _ _ _) (by kernel_rfl) ?_;conv=>whnf
 rfl
def stmL:List (ByteArray × A):=[(wIf,.clo 111 []),(wWhile,.clo 112 []),(wSend,.clo 113 []),(wTimer,.clo 110 [.pp [jJ 5]]),(wCancel,.clo 110 [.pp [jJ 6]]),(xY,.clo 108 [.pp [jJ 7]]),(xX,.clo 108 [.pp [jJ 10]]),(wReply,.clo 114 []),(wFail,.clo 115 [])]
def stmA:A := .mp (stmL.map fun p => .string p.1) (stmL.map (·.2))
theorem dC:Spec Tryz.prog 88 [] [] fun _ r=>r=stmA:=by
 refine nU (jF jH jY 0) (fun _ _ h=>h) Tryz.func88 rfl (by kernel_rfl) rfl ?_;intro _;refine yA (jF _ _ _) (by kernel_rfl) ?_;conv=>whnf
 refine yA (jF _ _ _) (by kernel_rfl) ?_;conv=>whnf
 refine yA (jF _ _ _) (by kernel_rfl) ?_;conv=>whnf
 refine yA (jF _ _ _) (by kernel_rfl) ?_;conv=>whnf
 have h5:=jfm 5
 have h6:=jfm 6
 have h7:=jfl 7
 have h10:=jfl 10
 (refine yI [] h5 ?_;rintro r rfl;conv=>whnf)
 conv=>whnf
 (refine yI [] h6 ?_;rintro r rfl;conv=>whnf)
 conv=>whnf
 (refine yI [] h7 ?_;rintro r rfl;conv=>whnf)
 conv=>whnf
 (refine yI [] h10 ?_;rintro r rfl;conv=>whnf)
 conv=>whnf
 refine jhM 0 ?_;conv=>whnf
 refine kL (jF _ _ _) (by kernel_rfl) ?_;conv=>whnf
 rfl
def sY (nm:List ByteArray) (lv:Int) (g:Nat) (caps:List A) (op:List Tk->Pn):Prop := ∀ ts,TkP ts->SpecP Tryz.prog g [dE nm ts] ([.box 0 0,jJ lv]++caps) (poQ nm (op ts)) (pnQ (op ts))
theorem jcg (nm:List ByteArray) (lv k:Int):sY nm lv 108 [.pp [jJ k]] fun ts=>xpt pSemi ts fun r => .ok (.mk k 0 eB []) r:=fun ts h=>by
 refine jhZ ?_
 obtain⟨P,hP⟩ : ∃ P,(xpt pSemi ts fun r => .ok (.mk k 0 eB []) r)=P:=⟨_,rfl⟩
 simp only
 rw[hP];unfold xpt at hP;refine tW jH jY Tryz.func108 rfl ?_;intro _;conv=>whnf
 refine kK 0 [] (jR nm ts h.pos pSemi) (fun ch bx' hp => ?_) ?_
 ·rw[if_neg (by rw[hp.1];simp)] at hP;exact jK hP.symm hp.2
 rintro o r ⟨hx,ho,rfl⟩;cases ho;rw[if_pos hx] at hP;subst hP;conv=>whnf
 exact⟨rfl,_,rfl,jV (f := .mk k 0 eB []) rfl⟩
theorem jch (nm:List ByteArray) (lv k:Int):sY nm lv 110 [.pp [jJ k]] fun ts=>bL 8 ts fun n r=>xpt pSemi r fun r => .ok (.mk k n eB []) r:=fun ts h=>by
 refine jhZ ?_
 obtain⟨P,hP⟩ : ∃ P,(bL 8 ts fun n r=>xpt pSemi r fun r => .ok (.mk k n eB []) r)=P:=⟨_,rfl⟩
 simp only
 rw[hP]
 have hnum:=fQ nm ts h.pos 8
 unfold bL at hP
 have htl:=h.tail
 refine tW jpg (fun _=>[0]) Tryz.func110 rfl ?_;intro _;conv=>whnf
 unfold iC;refine⟨_,?_,fun _ h=>h⟩;conv=>whnf
 refine⟨?_,?_⟩
 ·conv=>whnf
  refine kK 0 [] hnum (fun ch bx' hp => ?_) ?_
  ·rcases hp with ⟨h1,h2⟩ | ⟨h1,h2,h3⟩
   ·rw[if_pos h1] at hP;exact jK hP.symm h2
   ·rw[if_neg (by rw[h1];simp),if_pos h2] at hP;exact jK hP.symm h3
  rintro o r ⟨⟨h1,h2⟩,ho,rfl⟩;cases ho;rw[if_neg (by rw[h1];simp),if_neg (by omega)] at hP
  obtain⟨q1,q2⟩ := htl (by rw[h1];decide)
  generalize ts.tail=ts1 at *;generalize (hd ts).n=n at *;conv=>whnf
  simp only[xpt] at hP;refine kK 0 [] (jR nm ts1 q1.pos pSemi) (fun ch bx' hp => ?_) ?_
  ·rw[if_neg (by rw[hp.1];simp)] at hP;exact jK hP.symm hp.2
  rintro o r ⟨hx,ho,rfl⟩;cases ho;rw[if_pos hx] at hP;subst hP;conv=>whnf
  exact⟨rfl,_,rfl,jV (f := .mk k n eB []) rfl⟩
 ·conv=>whnf
  refine kK 0 [] hnum (fun ch bx' hp => ?_) ?_
  ·rcases hp with ⟨h1,h2⟩ | ⟨h1,h2,h3⟩
   ·rw[if_pos h1] at hP;exact jK hP.symm h2
   ·rw[if_neg (by rw[h1];simp),if_pos h2] at hP;exact jK hP.symm h3
  rintro o r ⟨⟨h1,h2⟩,ho,rfl⟩;cases ho;rw[if_neg (by rw[h1];simp),if_neg (by omega)] at hP
  obtain⟨q1,q2⟩ := htl (by rw[h1];decide)
  generalize ts.tail=ts1 at *;generalize (hd ts).n=n at *;conv=>whnf
  simp only[xpt] at hP;refine kK 0 [] (jR nm ts1 q1.pos pSemi) (fun ch bx' hp => ?_) ?_
  ·rw[if_neg (by rw[hp.1];simp)] at hP;exact jK hP.symm hp.2
  rintro o r ⟨hx,ho,rfl⟩;cases ho;rw[if_pos hx] at hP;subst hP;conv=>whnf
  exact⟨rfl,_,rfl,jV (f := .mk k n eB []) rfl⟩
theorem jk5 {nm:List ByteArray} {lv:Int} {ex:List Tk->Pn} (hex:zN nm 87 lv ex) (gex:qO ex):sY nm lv 115 [] fun ts=>(ex ts).andThen fun a r=>xpt pSemi r fun r => .ok (.mk 9 0 eB [a]) r:=fun ts h=>by
 obtain⟨P,hP⟩ : ∃ P,((ex ts).andThen fun a r=>xpt pSemi r fun r => .ok (.mk 9 0 eB [a]) r)=P:=⟨_,rfl⟩
 simp only
 rw[hP];refine tW jH jY Tryz.func115 rfl ?_;intro _;conv=>whnf
 refine kK 0 [] (hex ts h) (fun ch bx' hp => ?_) ?_
 ·obtain⟨x,e,he,hc⟩ := zA hp
  rw[he] at hP;exact jK hP.symm hc
 rintro o r hpo
 obtain⟨f,r1,he,ho,rfl⟩ := jZ hpo
 cases ho;rw[he] at hP;simp only[Pn.andThen,xpt] at hP
 obtain⟨g1,l1⟩ := gex _ _ _ h he
 conv=>whnf
 refine kK 0 [] (jR nm r1 g1.pos pSemi) (fun ch bx' hp => ?_) ?_
 ·rw[if_neg (by rw[hp.1];simp)] at hP;exact jK hP.symm hp.2
 rintro o r ⟨hx,ho,rfl⟩;cases ho;rw[if_pos hx] at hP;subst hP;conv=>whnf
 exact⟨rfl,by rw[kU];rfl⟩
theorem jjk {nm:List ByteArray} {lv:Int} {ex bl:List Tk->Pn} (hlv:0<=lv/\lv<=20) (hex:zN nm 87 lv ex) (gex:qO ex) (hbl:zN nm 44 (lv+1) bl) (gbl:qO bl):sY nm lv 112 [] fun ts=>(ex ts).andThen fun c r=>(bl r).andThen fun b r => .ok (.mk 3 0 eB [c,b]) r:=fun ts h=>by
 obtain⟨P,hP⟩ : ∃ P,((ex ts).andThen fun c r=>(bl r).andThen fun b r => .ok (.mk 3 0 eB [c,b]) r)=P:=⟨_,rfl⟩
 simp only
 rw[hP];refine tW jH jY Tryz.func112 rfl ?_;intro _;conv=>whnf
 refine kK 0 [] (hex ts h) (fun ch bx' hp => ?_) ?_
 ·obtain⟨x,e,he,hc⟩ := zA hp
  rw[he] at hP;exact jK hP.symm hc
 rintro o r hpo
 obtain⟨f,r1,he,ho,rfl⟩ := jZ hpo
 cases ho;rw[he] at hP;simp only[Pn.andThen,xpt] at hP
 obtain⟨g1,l1⟩ := gex _ _ _ h he
 conv=>whnf
 refine⟨jS (by omega),?_⟩;conv=>whnf
 refine kK 0 [] (hbl r1 g1) (fun ch bx' hp => ?_) ?_
 ·obtain⟨x,e,he,hc⟩ := zA hp
  rw[he] at hP;exact jK hP.symm hc
 rintro o r hpo
 obtain⟨f2,r2,he,ho,rfl⟩ := jZ hpo
 cases ho;rw[he] at hP;simp only[Pn.andThen,xpt] at hP
 obtain⟨g2,l2⟩ := gbl _ _ _ g1 he
 subst hP;conv=>whnf
 exact⟨rfl,by rw[wZ];rfl⟩
theorem fM (k n:Int) (s:ByteArray) (f g h:Nt):ntA (.mk k n s [f,g,h])=[jJ k,jJ n,j0 s,.sl 4 3 (ntA f++(ntA g++ntA h))]:=by
 have e1:ntA f++(ntA g++ntA h)=qG [f,g,h]:=by rw[qQ,qQ,qQ,kC,List.append_nil]
 rw[e1];rfl
theorem jj5 {nm:List ByteArray} {lv:Int} {ex:List Tk->Pn} (hex:zN nm 87 lv ex) (gex:qO ex):sY nm lv 114 [] fun ts=>(ex ts).andThen fun a r=>xpt pComma r fun r=>(ex r).andThen fun b r=>xpt pSemi r fun r => .ok (.mk 8 0 eB [a,b]) r:=fun ts h=>by
 obtain⟨P,hP⟩ : ∃ P,((ex ts).andThen fun a r=>xpt pComma r fun r=>(ex r).andThen fun b r=>xpt pSemi r fun r => .ok (.mk 8 0 eB [a,b]) r)=P:=⟨_,rfl⟩
 simp only
 rw[hP];refine tW jpi (fun _=>[0]) Tryz.func114 rfl ?_;intro _;conv=>whnf
 refine kK 0 [] (hex ts h) (fun ch bx' hp => ?_) ?_
 ·obtain⟨x,e,he,hc⟩ := zA hp
  rw[he] at hP;exact jK hP.symm hc
 rintro o r hpo
 obtain⟨f,r1,he,ho,rfl⟩ := jZ hpo
 cases ho;rw[he] at hP;simp only[Pn.andThen,xpt] at hP
 obtain⟨g1,l1⟩ := gex _ _ _ h he
 conv=>whnf
 refine kK 0 [] (jR nm r1 g1.pos pComma) (fun ch bx' hp => ?_) ?_
 ·rw[if_neg (by rw[hp.1];simp)] at hP;exact jK hP.symm hp.2
 rintro o r ⟨hx,ho,rfl⟩;cases ho;rw[if_pos hx] at hP
 obtain⟨q2,q3⟩ := g1.is hx
 generalize r1.tail=r2 at *;conv=>whnf
 unfold iC;refine⟨_,?_,fun _ h=>h⟩;conv=>whnf
 refine⟨?_,?_⟩
 ·conv=>whnf
  refine kK 0 [] (hex r2 q2) (fun ch bx' hp => ?_) ?_
  ·obtain⟨x,e,he,hc⟩ := zA hp
   rw[he] at hP;exact jK hP.symm hc
  rintro o r hpo
  obtain⟨f2,r3,he,ho,rfl⟩ := jZ hpo
  cases ho;rw[he] at hP;simp only[Pn.andThen,xpt] at hP
  obtain⟨g3,l3⟩ := gex _ _ _ q2 he
  conv=>whnf
  refine⟨?_,?_⟩
  ·conv=>whnf
   refine kK 0 [] (jR nm r3 g3.pos pSemi) (fun ch bx' hp => ?_) ?_
   ·rw[if_neg (by rw[hp.1];simp)] at hP;exact jK hP.symm hp.2
   rintro o r ⟨hx,ho,rfl⟩;cases ho;rw[if_pos hx] at hP;subst hP;conv=>whnf
   exact⟨rfl,by rw[wZ];rfl⟩
  ·conv=>whnf
   refine kK 0 [] (jR nm r3 g3.pos pSemi) (fun ch bx' hp => ?_) ?_
   ·rw[if_neg (by rw[hp.1];simp)] at hP;exact jK hP.symm hp.2
   rintro o r ⟨hx,ho,rfl⟩;cases ho;rw[if_pos hx] at hP;subst hP;conv=>whnf
   exact⟨rfl,by rw[wZ];rfl⟩
 ·conv=>whnf
  refine kK 0 [] (hex r2 q2) (fun ch bx' hp => ?_) ?_
  ·obtain⟨x,e,he,hc⟩ := zA hp
   rw[he] at hP;exact jK hP.symm hc
  rintro o r hpo
  obtain⟨f2,r3,he,ho,rfl⟩ := jZ hpo
  cases ho;rw[he] at hP;simp only[Pn.andThen,xpt] at hP
  obtain⟨g3,l3⟩ := gex _ _ _ q2 he
  conv=>whnf
  conv=>whnf
  refine kK 0 [] (jR nm r3 g3.pos pSemi) (fun ch bx' hp => ?_) ?_
  ·rw[if_neg (by rw[hp.1];simp)] at hP;exact jK hP.symm hp.2
  rintro o r ⟨hx,ho,rfl⟩;cases ho;rw[if_pos hx] at hP;subst hP;conv=>whnf
  exact⟨rfl,by rw[wZ];rfl⟩
theorem jfU {nm:List ByteArray} {lv:Int} {ex bl:List Tk->Pn} (hlv:0<=lv/\lv<=20) (hex:zN nm 87 lv ex) (gex:qO ex) (hbl:zN nm 44 (lv+1) bl) (gbl:qO bl):sY nm lv 111 [] fun ts=>(ex ts).andThen fun c r=>(bl r).andThen fun b r=>if qS wElse r=true then (bl r.tail).andThen fun o r => .ok (.mk 2 0 eB [c,b,o]) r else .ok (.mk 2 0 eB [c,b,zD []]) r:=fun ts h=>by
 refine jhZ ?_
 obtain⟨P,hP⟩ : ∃ P,((ex ts).andThen fun c r=>(bl r).andThen fun b r=>if qS wElse r=true then (bl r.tail).andThen fun o r => .ok (.mk 2 0 eB [c,b,o]) r else .ok (.mk 2 0 eB [c,b,zD []]) r)=P:=⟨_,rfl⟩
 simp only
 rw[hP];refine tW jH jY Tryz.func111 rfl ?_;intro _;conv=>whnf
 refine kK 0 [] (hex ts h) (fun ch bx' hp => ?_) ?_
 ·obtain⟨x,e,he,hc⟩ := zA hp
  rw[he] at hP;exact jK hP.symm hc
 rintro o r hpo
 obtain⟨f,r1,he,ho,rfl⟩ := jZ hpo
 cases ho;rw[he] at hP;simp only[Pn.andThen,xpt] at hP
 obtain⟨g1,l1⟩ := gex _ _ _ h he
 conv=>whnf
 refine⟨jS (by omega),?_⟩;conv=>whnf
 refine kK 0 [] (hbl r1 g1) (fun ch bx' hp => ?_) ?_
 ·obtain⟨x,e,he,hc⟩ := zA hp
  rw[he] at hP;exact jK hP.symm hc
 rintro o r hpo
 obtain⟨f2,r2,he,ho,rfl⟩ := jZ hpo
 cases ho;rw[he] at hP;simp only[Pn.andThen,xpt] at hP
 obtain⟨g2,l2⟩ := gbl _ _ _ g1 he
 conv=>whnf
 refine qT 0 [] (v7 nm r2 g2.pos wElse) ?_;rintro o r ⟨ho,rfl⟩;cases ho;conv=>whnf
 cases hq:qS wElse r2 with
 | true =>
  rw[if_pos hq] at hP
  obtain⟨q2,q3⟩ := g2.is hq
  have hnx:=wD nm r2 g2.pos
  generalize r2.tail=r3 at *;conv=>whnf
  refine qT 0 [] hnx ?_;rintro o r ⟨ho,rfl⟩;cases ho;conv=>whnf
  refine⟨jS (by omega),?_⟩;conv=>whnf
  refine kK 0 [] (hbl r3 q2) (fun ch bx' hp => ?_) ?_
  ·obtain⟨x,e,he,hc⟩ := zA hp
   rw[he] at hP;exact jK hP.symm hc
  rintro o r hpo
  obtain⟨f3,r4,he,ho,rfl⟩ := jZ hpo
  cases ho;rw[he] at hP;simp only[Pn.andThen,xpt] at hP
  obtain⟨g4,l4⟩ := gbl _ _ _ q2 he
  subst hP;conv=>whnf
  refine⟨by omega,?_⟩;conv=>whnf
  exact jgw (p := .ok (.mk 2 0 eB [f,f2,f3]) r4) (show _/\_ from ⟨rfl,by rw[fM];rfl⟩)
 | false =>
  rw[if_neg (by rw[hq];simp)] at hP;subst hP;conv=>whnf
  refine⟨rfl,_,rfl,?_⟩;rw[fM];exact .cons (.refl _) (.cons (.refl _) (.cons (.refl _) (.cons (.sl 4 3 (cs:=ntA f++(ntA f2++jpL (zD []))) (WkL.app (WkL.refl (ntA f)) (WkL.app (WkL.refl (ntA f2)) (jV (f:=zD []) rfl)))) .nil)))
def lU (ex:List Tk->Pn) (n:Int):Nat->List Nt->List Tk->Pn
 | 0,l,ts=>xpt pSemi ts fun r => .ok (.mk 4 n eB l) r
 | k+1,l,ts=>xpt pComma ts fun r=>(ex r).andThen fun a r=>lU ex n k (l++[a]) r
theorem jlp {nm:List ByteArray} {lv:Int} {ex:List Tk->Pn} (hex:zN nm 87 lv ex) (gex:qO ex):sY nm lv 113 [] fun ts=>(ex ts).andThen fun t r=>xpt pComma r fun r=>bL 30 r fun n r=>lU ex n 2 [t] r:=fun ts h=>by
 obtain⟨P,hP⟩ : ∃ P,((ex ts).andThen fun t r=>xpt pComma r fun r=>bL 30 r fun n r=>lU ex n 2 [t] r)=P:=⟨_,rfl⟩
 simp only
 rw[hP];refine tW jph (fun _=>[0]) Tryz.func113 rfl ?_;intro _;conv=>whnf
 refine kK 0 [] (hex ts h) (fun ch bx' hp => ?_) ?_
 ·obtain⟨x,e,he,hc⟩ := zA hp
  rw[he] at hP;exact jK hP.symm hc
 rintro o r hpo
 obtain⟨f,r1,he,ho,rfl⟩ := jZ hpo
 cases ho;rw[he] at hP;simp only[Pn.andThen,xpt] at hP
 obtain⟨g1,l1⟩ := gex _ _ _ h he
 conv=>whnf
 refine kK 0 [] (jR nm r1 g1.pos pComma) (fun ch bx' hp => ?_) ?_
 ·rw[if_neg (by rw[hp.1];simp)] at hP;exact jK hP.symm hp.2
 rintro o r ⟨hx,ho,rfl⟩;cases ho;rw[if_pos hx] at hP
 obtain⟨q2,q3⟩ := g1.is hx
 generalize r1.tail=r2 at *;simp only[bL] at hP;conv=>whnf
 refine kK 0 [] (fQ nm r2 q2.pos 30) (fun ch bx' hp => ?_) ?_
 ·rcases hp with ⟨h1,h2⟩ | ⟨h1,h2,h3⟩
  ·rw[if_pos h1] at hP;exact jK hP.symm h2
  ·rw[if_neg (by rw[h1];simp),if_pos h2] at hP;exact jK hP.symm h3
 rintro o r ⟨⟨h1,h2⟩,ho,rfl⟩;cases ho;rw[if_neg (by rw[h1];simp),if_neg (by omega)] at hP
 obtain⟨q4,q5⟩ := q2.tail (by rw[h1];decide)
 generalize r2.tail=r3 at *;generalize (hd r2).n=n at *;conv=>whnf
 refine jT [0,1,4,5] ?_;conv=>whnf
 refine zF (fun x:Nat × List Nt × List Tk=>[(16,.v (.int .i64 x.1))]) (fun x=>[dE nm x.2.2,ji8,[jJ 4,jJ n,j0 ⟨#[]⟩,.own 0]]) (fun x=>[.live 43 4 x.2.1.length (qG x.2.1)]) (fun x=>TkP x.2.2/\x.1<=2/\x.2.1.length<=1+x.1/\lU ex n (2-x.1) x.2.1 x.2.2=P) (fun x=>2-x.1) (0,[f],r3) ?_ ⟨q4,by simp,by simp,hP⟩ ?_
 ·have e1:qG [f]=ntA f:=by rw[qQ,kC,List.append_nil]
  repeat' constructor
  show Row.live _ _ _ _=Row.live _ 4 1 (qG [f])
  rw[e1];rfl
 rintro⟨j,l,ts1⟩ ⟨g2,g3,g4,g5⟩
 simp only at g2 g3 g4 g5
 conv=>whnf
 by_cases hj:j<2
 ·rw[qH (show (j:Int)<2 by omega)]
  obtain⟨m,hm⟩ : ∃ m,2-j=m+1:=⟨1-j,by omega⟩
  rw[hm] at g5;simp only[lU,xpt] at g5
  have hP:=g5
  conv=>whnf
  refine kK 0 [] (jR nm ts1 g2.pos pComma) (fun ch bx' hp => ?_) ?_
  ·rw[if_neg (by rw[hp.1];simp)] at hP;exact jK hP.symm hp.2
  rintro o r ⟨hx,ho,rfl⟩;cases ho;rw[if_pos hx] at hP
  obtain⟨q6,q7⟩ := g2.is hx
  generalize ts1.tail=ts2 at *;conv=>whnf
  refine kK 0 [] (hex ts2 q6) (fun ch bx' hp => ?_) ?_
  ·obtain⟨x,e,he,hc⟩ := zA hp
   rw[he] at hP;exact jK hP.symm hc
  rintro o r hpo
  obtain⟨f2,r4,he,ho,rfl⟩ := jZ hpo
  cases ho;rw[he] at hP;simp only[Pn.andThen,xpt] at hP
  obtain⟨g6,l6⟩ := gex _ _ _ q6 he
  conv=>whnf
  refine⟨⟨by simp only;unfold maxLen;omega,by simp only;omega⟩,?_⟩;conv=>whnf
  refine⟨jS (by omega),?_⟩;conv=>whnf
  refine⟨(j+1,l++[f2],r4),jU [0] ?_,⟨g6,hj,by simp only[List.length_append,List.length_cons,List.length_nil];omega,by simp only;rw[show 2-(j+1)=m by omega];exact hP⟩,by simp only;omega⟩;conv=>whnf
  repeat' constructor
  simp only[List.length_append,List.length_cons,List.length_nil];rw[pM];rfl
 ·rw[j8 (show ¬ (j:Int)<2 by omega)];rw[show 2-j=0 by omega] at g5;simp only[lU,xpt] at g5
  have hP:=g5
  conv=>whnf
  refine kK 0 [] (jR nm ts1 g2.pos pSemi) (fun ch bx' hp => ?_) ?_
  ·rw[if_neg (by rw[hp.1];simp)] at hP;exact jK hP.symm hp.2
  rintro o r ⟨hx,ho,rfl⟩;cases ho;rw[if_pos hx] at hP;subst hP;conv=>whnf
  exact⟨rfl,rfl⟩
def stK (ex bl:List Tk->Pn) (w:ByteArray) (ts:List Tk):Pn :=
 if w=wIf then (ex ts).andThen fun c r=>(bl r).andThen fun b r=>if qS wElse r=true then (bl r.tail).andThen fun o r => .ok (.mk 2 0 eB [c,b,o]) r else .ok (.mk 2 0 eB [c,b,zD []]) r
 else if w=wWhile then (ex ts).andThen fun c r=>(bl r).andThen fun b r => .ok (.mk 3 0 eB [c,b]) r
 else if w=wSend then (ex ts).andThen fun t r=>xpt pComma r fun r=>bL 30 r fun n r=>lU ex n 2 [t] r
 else if w=wTimer then bL 8 ts fun n r=>xpt pSemi r fun r => .ok (.mk 5 n eB []) r
 else if w=wCancel then bL 8 ts fun n r=>xpt pSemi r fun r => .ok (.mk 6 n eB []) r
 else if w=xY then xpt pSemi ts fun r => .ok (.mk 7 0 eB []) r
 else if w=xX then xpt pSemi ts fun r => .ok (.mk 10 0 eB []) r
 else if w=wReply then (ex ts).andThen fun a r=>xpt pComma r fun r=>(ex r).andThen fun b r=>xpt pSemi r fun r => .ok (.mk 8 0 eB [a,b]) r
 else (ex ts).andThen fun a r=>xpt pSemi r fun r => .ok (.mk 9 0 eB [a]) r
theorem jlB {nm:List ByteArray} {lv:Int} {ex bl:List Tk->Pn} (hlv:0<=lv/\lv<=20) (hex:zN nm 87 lv ex) (gex:qO ex) (hbl:zN nm 44 (lv+1) bl) (gbl:qO bl) (ts:List Tk) (h:TkP ts) (P:Pn) (hn:yU ts=false)
  (hP:(if (hd ts).kind ≠ 1 then .bad (hd ts).pos 10 else stK ex bl (hd ts).text ts.tail)=P) (hw:(hd ts).text=wIf ∨ (hd ts).text=wWhile ∨ (hd ts).text=wSend ∨ (hd ts).text=wTimer ∨ (hd ts).text=wCancel ∨ (hd ts).text=xY ∨ (hd ts).text=xX ∨ (hd ts).text=wReply ∨ (hd ts).text=wFail):SpecP Tryz.prog 71 [dE nm ts] [.box 0 0,jJ lv] (poQ nm P) (pnQ P):=by
 have hl:=h.pos
 have hr:=gF hl
 have hnm:=cK nm ts hl h.hd h.good.1
 rw[hn] at hnm
 have hnx:=wD nm ts hl
 have hfl:=vG nm ts hl 10
 have htl:=h.tail
 have sIf:=jfU hlv hex gex hbl gbl
 have sWhile:=jjk hlv hex gex hbl gbl
 have sSend:=jlp hex gex
 have sTimer:=jch nm lv 5
 have sCancel:=jch nm lv 6
 have sSync:=jcg nm lv 7
 have sStop:=jcg nm lv 10
 have sReply:=jj5 hex gex
 have sFail:=jk5 hex gex
 refine tW jkL (fun _=>[0]) Tryz.func71 rfl ?_;intro _;generalize hd ts=t at *;conv=>whnf
 (refine uI ?_;try with_reducible exact trivial)
 (generalize hrq:jM _ _ (yH ts)=rq;obtain rfl:rq=pY t:=hrq.symm.trans (hr);clear hrq;conv=>whnf)
 refine qT 0 [] hnm ?_;rintro o r ⟨ho,rfl⟩;cases ho;conv=>whnf
 refine yI [] dC ?_;rintro r rfl;conv=>whnf
 unfold stK at hP
 by_cases g0:t.text=wIf
 ·rw[show decide (t.text=(wIf,A.clo 111 []).fst)=true from qH g0];rw[if_pos g0] at hP;conv=>whnf
  by_cases hk:t.kind=1
  ·rw[qH hk];rw[if_neg (by rw[hk];simp)] at hP
   obtain⟨q1,q2⟩ := htl (by rw[hk];decide)
   have hs:=sIf ts.tail q1
   simp only at hs
   rw[hP] at hs;generalize ts.tail=r1 at *;conv=>whnf
   refine qT 0 [] hnx ?_;rintro o r ⟨ho,rfl⟩;cases ho;conv=>whnf
   refine kK 0 [] hs (fun ch bx' hp=>hp) ?_;rintro o r hpo
   obtain⟨f,r2,rfl,ho,rfl⟩ := jZ hpo
   cases ho;conv=>whnf
   exact⟨rfl,rfl⟩
  ·rw[j8 hk];rw[if_pos hk] at hP;conv=>whnf
   refine kK 0 [] hfl (fun ch bx' hp=>jK hP.symm hp) ?_;rintro o r ⟨⟩
 rw[show decide (t.text=(wIf,A.clo 111 []).fst)=false from j8 g0];rw[if_neg g0] at hP;conv=>whnf
 by_cases g1:t.text=wWhile
 ·rw[show decide (t.text=(wWhile,A.clo 112 []).fst)=true from qH g1];rw[if_pos g1] at hP;conv=>whnf
  by_cases hk:t.kind=1
  ·rw[qH hk];rw[if_neg (by rw[hk];simp)] at hP
   obtain⟨q1,q2⟩ := htl (by rw[hk];decide)
   have hs:=sWhile ts.tail q1
   simp only at hs
   rw[hP] at hs;generalize ts.tail=r1 at *;conv=>whnf
   refine qT 0 [] hnx ?_;rintro o r ⟨ho,rfl⟩;cases ho;conv=>whnf
   refine kK 0 [] hs (fun ch bx' hp=>hp) ?_;rintro o r hpo
   obtain⟨f,r2,rfl,ho,rfl⟩ := jZ hpo
   cases ho;conv=>whnf
   exact⟨rfl,rfl⟩
  ·rw[j8 hk];rw[if_pos hk] at hP;conv=>whnf
   refine kK 0 [] hfl (fun ch bx' hp=>jK hP.symm hp) ?_;rintro o r ⟨⟩
 rw[show decide (t.text=(wWhile,A.clo 112 []).fst)=false from j8 g1];rw[if_neg g1] at hP;conv=>whnf
 by_cases g2:t.text=wSend
 ·rw[show decide (t.text=(wSend,A.clo 113 []).fst)=true from qH g2];rw[if_pos g2] at hP;conv=>whnf
  by_cases hk:t.kind=1
  ·rw[qH hk];rw[if_neg (by rw[hk];simp)] at hP
   obtain⟨q1,q2⟩ := htl (by rw[hk];decide)
   have hs:=sSend ts.tail q1
   simp only at hs
   rw[hP] at hs;generalize ts.tail=r1 at *;conv=>whnf
   refine qT 0 [] hnx ?_;rintro o r ⟨ho,rfl⟩;cases ho;conv=>whnf
   refine kK 0 [] hs (fun ch bx' hp=>hp) ?_;rintro o r hpo
   obtain⟨f,r2,rfl,ho,rfl⟩ := jZ hpo
   cases ho;conv=>whnf
   exact⟨rfl,rfl⟩
  ·rw[j8 hk];rw[if_pos hk] at hP;conv=>whnf
   refine kK 0 [] hfl (fun ch bx' hp=>jK hP.symm hp) ?_;rintro o r ⟨⟩
 rw[show decide (t.text=(wSend,A.clo 113 []).fst)=false from j8 g2];rw[if_neg g2] at hP;conv=>whnf
 by_cases g3:t.text=wTimer
 ·rw[show decide (t.text=(wTimer,A.clo 110 [.pp [jJ 5]]).fst)=true from qH g3];rw[if_pos g3] at hP;conv=>whnf
  by_cases hk:t.kind=1
  ·rw[qH hk];rw[if_neg (by rw[hk];simp)] at hP
   obtain⟨q1,q2⟩ := htl (by rw[hk];decide)
   have hs:=sTimer ts.tail q1
   simp only at hs
   rw[hP] at hs;generalize ts.tail=r1 at *;conv=>whnf
   refine qT 0 [] hnx ?_;rintro o r ⟨ho,rfl⟩;cases ho;conv=>whnf
   refine kK 0 [] hs (fun ch bx' hp=>hp) ?_;rintro o r hpo
   obtain⟨f,r2,rfl,ho,rfl⟩ := jZ hpo
   cases ho;conv=>whnf
   exact⟨rfl,rfl⟩
  ·rw[j8 hk];rw[if_pos hk] at hP;conv=>whnf
   refine kK 0 [] hfl (fun ch bx' hp=>jK hP.symm hp) ?_;rintro o r ⟨⟩
 rw[show decide (t.text=(wTimer,A.clo 110 [.pp [jJ 5]]).fst)=false from j8 g3];rw[if_neg g3] at hP;conv=>whnf
 by_cases g4:t.text=wCancel
 ·rw[show decide (t.text=(wCancel,A.clo 110 [.pp [jJ 6]]).fst)=true from qH g4];rw[if_pos g4] at hP;conv=>whnf
  by_cases hk:t.kind=1
  ·rw[qH hk];rw[if_neg (by rw[hk];simp)] at hP
   obtain⟨q1,q2⟩ := htl (by rw[hk];decide)
   have hs:=sCancel ts.tail q1
   simp only at hs
   rw[hP] at hs;generalize ts.tail=r1 at *;conv=>whnf
   refine qT 0 [] hnx ?_;rintro o r ⟨ho,rfl⟩;cases ho;conv=>whnf
   refine kK 0 [] hs (fun ch bx' hp=>hp) ?_;rintro o r hpo
   obtain⟨f,r2,rfl,ho,rfl⟩ := jZ hpo
   cases ho;conv=>whnf
   exact⟨rfl,rfl⟩
  ·rw[j8 hk];rw[if_pos hk] at hP;conv=>whnf
   refine kK 0 [] hfl (fun ch bx' hp=>jK hP.symm hp) ?_;rintro o r ⟨⟩
 rw[show decide (t.text=(wCancel,A.clo 110 [.pp [jJ 6]]).fst)=false from j8 g4];rw[if_neg g4] at hP;conv=>whnf
 by_cases g5:t.text=xY
 ·rw[show decide (t.text=(xY,A.clo 108 [.pp [jJ 7]]).fst)=true from qH g5];rw[if_pos g5] at hP;conv=>whnf
  by_cases hk:t.kind=1
  ·rw[qH hk];rw[if_neg (by rw[hk];simp)] at hP
   obtain⟨q1,q2⟩ := htl (by rw[hk];decide)
   have hs:=sSync ts.tail q1
   simp only at hs
   rw[hP] at hs;generalize ts.tail=r1 at *;conv=>whnf
   refine qT 0 [] hnx ?_;rintro o r ⟨ho,rfl⟩;cases ho;conv=>whnf
   refine kK 0 [] hs (fun ch bx' hp=>hp) ?_;rintro o r hpo
   obtain⟨f,r2,rfl,ho,rfl⟩ := jZ hpo
   cases ho;conv=>whnf
   exact⟨rfl,rfl⟩
  ·rw[j8 hk];rw[if_pos hk] at hP;conv=>whnf
   refine kK 0 [] hfl (fun ch bx' hp=>jK hP.symm hp) ?_;rintro o r ⟨⟩
 rw[show decide (t.text=(xY,A.clo 108 [.pp [jJ 7]]).fst)=false from j8 g5];rw[if_neg g5] at hP;conv=>whnf
 by_cases g6:t.text=xX
 ·rw[show decide (t.text=(xX,A.clo 108 [.pp [jJ 10]]).fst)=true from qH g6];rw[if_pos g6] at hP;conv=>whnf
  by_cases hk:t.kind=1
  ·rw[qH hk];rw[if_neg (by rw[hk];simp)] at hP
   obtain⟨q1,q2⟩ := htl (by rw[hk];decide)
   have hs:=sStop ts.tail q1
   simp only at hs
   rw[hP] at hs;generalize ts.tail=r1 at *;conv=>whnf
   refine qT 0 [] hnx ?_;rintro o r ⟨ho,rfl⟩;cases ho;conv=>whnf
   refine kK 0 [] hs (fun ch bx' hp=>hp) ?_;rintro o r hpo
   obtain⟨f,r2,rfl,ho,rfl⟩ := jZ hpo
   cases ho;conv=>whnf
   exact⟨rfl,rfl⟩
  ·rw[j8 hk];rw[if_pos hk] at hP;conv=>whnf
   refine kK 0 [] hfl (fun ch bx' hp=>jK hP.symm hp) ?_;rintro o r ⟨⟩
 rw[show decide (t.text=(xX,A.clo 108 [.pp [jJ 10]]).fst)=false from j8 g6];rw[if_neg g6] at hP;conv=>whnf
 by_cases g7:t.text=wReply
 ·rw[show decide (t.text=(wReply,A.clo 114 []).fst)=true from qH g7];rw[if_pos g7] at hP;conv=>whnf
  by_cases hk:t.kind=1
  ·rw[qH hk];rw[if_neg (by rw[hk];simp)] at hP
   obtain⟨q1,q2⟩ := htl (by rw[hk];decide)
   have hs:=sReply ts.tail q1
   simp only at hs
   rw[hP] at hs;generalize ts.tail=r1 at *;conv=>whnf
   refine qT 0 [] hnx ?_;rintro o r ⟨ho,rfl⟩;cases ho;conv=>whnf
   refine kK 0 [] hs (fun ch bx' hp=>hp) ?_;rintro o r hpo
   obtain⟨f,r2,rfl,ho,rfl⟩ := jZ hpo
   cases ho;conv=>whnf
   exact⟨rfl,rfl⟩
  ·rw[j8 hk];rw[if_pos hk] at hP;conv=>whnf
   refine kK 0 [] hfl (fun ch bx' hp=>jK hP.symm hp) ?_;rintro o r ⟨⟩
 rw[show decide (t.text=(wReply,A.clo 114 []).fst)=false from j8 g7];rw[if_neg g7] at hP;conv=>whnf
 have g8:t.text=wFail:=by
  rcases hw with e | e | e | e | e | e | e | e | e <;> first | exact e | contradiction
 rw[show decide (t.text=(wFail,A.clo 115 []).fst)=true from qH g8];conv=>whnf
 by_cases hk:t.kind=1
 ·rw[qH hk];rw[if_neg (by rw[hk];simp)] at hP
  obtain⟨q1,q2⟩ := htl (by rw[hk];decide)
  have hs:=sFail ts.tail q1
  simp only at hs
  rw[hP] at hs;generalize ts.tail=r1 at *;conv=>whnf
  refine qT 0 [] hnx ?_;rintro o r ⟨ho,rfl⟩;cases ho;conv=>whnf
  refine kK 0 [] hs (fun ch bx' hp=>hp) ?_;rintro o r hpo
  obtain⟨f,r2,rfl,ho,rfl⟩ := jZ hpo
  cases ho;conv=>whnf
  exact⟨rfl,rfl⟩
 ·rw[j8 hk];rw[if_pos hk] at hP;conv=>whnf
  refine kK 0 [] hfl (fun ch bx' hp=>jK hP.symm hp) ?_;rintro o r ⟨⟩
theorem jlA (nm:List ByteArray) (lv:Int) (ts:List Tk) (h:TkP ts) (hn:yU ts=false) (hw : ¬ ((hd ts).text=wIf ∨ (hd ts).text=wWhile ∨ (hd ts).text=wSend ∨ (hd ts).text=wTimer ∨ (hd ts).text=wCancel ∨ (hd ts).text=xY ∨ (hd ts).text=xX ∨ (hd ts).text=wReply ∨ (hd ts).text=wFail)):SpecP Tryz.prog 71 [dE nm ts] [.box 0 0,jJ lv] (poQ nm (synE ts)) (pnQ (synE ts)):=by
 obtain⟨P,hP⟩ : ∃ P,Pn.bad (hd ts).pos 10=P:=⟨_,rfl⟩
 unfold synE;rw[hP]
 have hl:=h.pos
 have hr:=gF hl
 have hnm:=cK nm ts hl h.hd h.good.1
 rw[hn] at hnm
 have hfl:=vG nm ts hl 10
 simp only[not_or] at hw
 obtain⟨g0,g1,g2,g3,g4,g5,g6,g7,g8⟩ := hw
 refine tW jkL (fun _=>[0]) Tryz.func71 rfl ?_;intro _;generalize hd ts=t at *;conv=>whnf
 (refine uI ?_;try with_reducible exact trivial)
 (generalize hrq:jM _ _ (yH ts)=rq;obtain rfl:rq=pY t:=hrq.symm.trans (hr);clear hrq;conv=>whnf)
 refine qT 0 [] hnm ?_;rintro o r ⟨ho,rfl⟩;cases ho;conv=>whnf
 refine yI [] dC ?_;rintro r rfl;conv=>whnf
 rw[show decide (t.text=(wIf,A.clo 111 []).fst)=false from j8 g0];conv=>whnf
 rw[show decide (t.text=(wWhile,A.clo 112 []).fst)=false from j8 g1];conv=>whnf
 rw[show decide (t.text=(wSend,A.clo 113 []).fst)=false from j8 g2];conv=>whnf
 rw[show decide (t.text=(wTimer,A.clo 110 [.pp [jJ 5]]).fst)=false from j8 g3];conv=>whnf
 rw[show decide (t.text=(wCancel,A.clo 110 [.pp [jJ 6]]).fst)=false from j8 g4];conv=>whnf
 rw[show decide (t.text=(xY,A.clo 108 [.pp [jJ 7]]).fst)=false from j8 g5];conv=>whnf
 rw[show decide (t.text=(xX,A.clo 108 [.pp [jJ 10]]).fst)=false from j8 g6];conv=>whnf
 rw[show decide (t.text=(wReply,A.clo 114 []).fst)=false from j8 g7];conv=>whnf
 rw[show decide (t.text=(wFail,A.clo 115 []).fst)=false from j8 g8];conv=>whnf
 by_cases hk:t.kind=1
 ·rw[qH hk];conv=>whnf
  refine kK 0 [] hfl (fun ch bx' hp=>jK hP.symm hp) ?_;rintro o r ⟨⟩
 ·rw[j8 hk];conv=>whnf
  refine kK 0 [] hfl (fun ch bx' hp=>jK hP.symm hp) ?_;rintro o r ⟨⟩
theorem jgV {nm:List ByteArray} {lv:Int} {ex:List Tk->Pn} (hex:zN nm 87 lv ex) (gex:qO ex) (ts:List Tk) (h:TkP ts) (hn:yU ts=true) (P:Pn) (hP:(xpt pEq ts.tail fun r=>(ex r).andThen fun e r=>xpt pSemi r fun r => .ok (.mk 1 0 (hd ts).text [e]) r)=P):SpecP Tryz.prog 71 [dE nm ts] [.box 0 0,jJ lv] (poQ nm P) (pnQ P):=by
 have hl:=h.pos
 have hr:=gF hl
 have hnm:=cK nm ts hl h.hd h.good.1
 rw[hn] at hnm
 have hnx:=wD nm ts hl
 have hk1:(hd ts).kind=1:=by
  unfold yU at hn;simp only[Bool.and_eq_true,decide_eq_true_eq] at hn;exact hn.1
 obtain⟨q1,q2⟩ := h.tail (by rw[hk1];decide)
 simp only[xpt] at hP;refine tW jkL (fun _=>[0]) Tryz.func71 rfl ?_;intro _;generalize hd ts=t at *;generalize ts.tail=r1 at *;conv=>whnf
 (refine uI ?_;try with_reducible exact trivial)
 (generalize hrq:jM _ _ (yH ts)=rq;obtain rfl:rq=pY t:=hrq.symm.trans (hr);clear hrq;conv=>whnf)
 refine qT 0 [] hnm ?_;rintro o r ⟨ho,rfl⟩;cases ho;conv=>whnf
 refine qT 0 [] hnx ?_;rintro o r ⟨ho,rfl⟩;cases ho;conv=>whnf
 refine kK 0 [] (jR nm r1 q1.pos pEq) (fun ch bx' hp => ?_) ?_
 ·rw[if_neg (by rw[hp.1];simp)] at hP;exact jK hP.symm hp.2
 rintro o r ⟨hx,ho,rfl⟩;cases ho;rw[if_pos hx] at hP
 obtain⟨q4,q5⟩ := q1.is hx
 generalize r1.tail=r2 at *;conv=>whnf
 unfold iC;refine⟨_,?_,fun _ h=>h⟩;conv=>whnf
 refine⟨?_,?_⟩
 ·conv=>whnf
  refine kK 0 [] (hex r2 q4) (fun ch bx' hp => ?_) ?_
  ·obtain⟨x,e,he,hc⟩ := zA hp
   rw[he] at hP;exact jK hP.symm hc
  rintro o r hpo
  obtain⟨f2,r3,he,ho,rfl⟩ := jZ hpo
  cases ho;rw[he] at hP;simp only[Pn.andThen,xpt] at hP
  obtain⟨g3,l3⟩ := gex _ _ _ q4 he
  conv=>whnf
  refine⟨?_,?_⟩
  ·conv=>whnf
   refine kK 0 [] (jR nm r3 g3.pos pSemi) (fun ch bx' hp => ?_) ?_
   ·rw[if_neg (by rw[hp.1];simp)] at hP;exact jK hP.symm hp.2
   rintro o r ⟨hx,ho,rfl⟩;cases ho;rw[if_pos hx] at hP;subst hP;conv=>whnf
   exact⟨rfl,by rw[kU];rfl⟩
  ·conv=>whnf
   refine kK 0 [] (jR nm r3 g3.pos pSemi) (fun ch bx' hp => ?_) ?_
   ·rw[if_neg (by rw[hp.1];simp)] at hP;exact jK hP.symm hp.2
   rintro o r ⟨hx,ho,rfl⟩;cases ho;rw[if_pos hx] at hP;subst hP;conv=>whnf
   exact⟨rfl,by rw[kU];rfl⟩
 ·conv=>whnf
  refine kK 0 [] (hex r2 q4) (fun ch bx' hp => ?_) ?_
  ·obtain⟨x,e,he,hc⟩ := zA hp
   rw[he] at hP;exact jK hP.symm hc
  rintro o r hpo
  obtain⟨f2,r3,he,ho,rfl⟩ := jZ hpo
  cases ho;rw[he] at hP;simp only[Pn.andThen,xpt] at hP
  obtain⟨g3,l3⟩ := gex _ _ _ q4 he
  conv=>whnf
  conv=>whnf
  refine kK 0 [] (jR nm r3 g3.pos pSemi) (fun ch bx' hp => ?_) ?_
  ·rw[if_neg (by rw[hp.1];simp)] at hP;exact jK hP.symm hp.2
  rintro o r ⟨hx,ho,rfl⟩;cases ho;rw[if_pos hx] at hP;subst hP;conv=>whnf
  exact⟨rfl,by rw[kU];rfl⟩
theorem jjL {nm:List ByteArray} {lv:Int} {st:List Tk->Pn} (hlv:0<=lv/\lv<=20) (hst:zN nm 71 lv st) (gst:qO st) (sst:∀ ts f r,TkP ts->st ts = .ok f r->r.length<ts.length):zN nm 44 lv (bkF st):=fun ts h=>by
 obtain⟨P,hP⟩ : ∃ P,bkF st ts=P:=⟨_,rfl⟩
 rw[hP]
 have hopen:=cL nm ts h.pos pLb lv
 simp only[bkF,xpt] at hP
 have hb0:=h.1.2
 refine tW joe (fun _=>[0]) Tryz.func44 rfl ?_;intro _;conv=>whnf
 refine kK 0 [] hopen (fun ch bx' hp => ?_) ?_
 ·rcases hp with ⟨h1,h2,hp⟩ | ⟨h1,hp⟩
  ·omega
  ·rw[if_neg (by rw[h1];simp)] at hP;exact jK hP.symm hp
 rintro o r ⟨⟨h1,h2⟩,ho,rfl⟩;cases ho;rw[if_pos h1] at hP
 obtain⟨q1,q2⟩ := h.is h1
 generalize ts.tail=r1 at *;conv=>whnf
 refine wV 43 4 [] [(2,3)] ?_;conv=>whnf
 refine⟨trivial,?_⟩;conv=>whnf
 refine jT [0,1,4,5] ?_;conv=>whnf
 refine zF (fun _:Nat × List Nt × List Tk=>[]) (fun x=>[dE nm x.2.2,ji8,[jJ 11,jJ 0,j0 ⟨#[]⟩,.own 0]]) (fun x=>[.live 43 4 x.2.1.length (qG x.2.1)]) (fun x=>TkP x.2.2/\x.2.2.length<=x.1/\x.2.1.length+x.2.2.length<=1000001/\f9 st x.1 x.2.1 x.2.2=P) (fun x=>x.2.2.length) (r1.length,[],r1) ?_ ⟨q1,Nat.le_refl _,by simp only[List.length_nil];omega,hP⟩ ?_
 ·repeat' constructor
  show Row.live _ _ _ _=Row.live _ 4 0 (qG [])
  rw[kC]
 rintro⟨n,acc,ts1⟩ ⟨g1,g2,g3,g5⟩
 simp only at g1 g2 g3 g5
 obtain⟨m,rfl⟩ : ∃ m,n=m+1:=⟨n-1,by have:=g1.pos;omega⟩
 rw[f9] at g5;conv=>whnf
 refine qT 0 [] (v7 nm ts1 g1.pos pRb) ?_;rintro o r ⟨ho,rfl⟩;cases ho;conv=>whnf
 cases hq:qS pRb ts1 with
 | false =>
  rw[if_neg (by rw[hq];simp)] at g5
  have hP:=g5
  conv=>whnf
  refine kK 0 [] (hst ts1 g1) (fun ch bx' hp => ?_) ?_
  ·obtain⟨x,e,he,hc⟩ := zA hp
   rw[he] at hP;exact jK hP.symm hc
  rintro o r hpo
  obtain⟨f2,r2,he,ho,rfl⟩ := jZ hpo
  cases ho;rw[he] at hP;simp only[Pn.andThen] at hP
  obtain⟨g6,l6⟩ := gst _ _ _ g1 he
  have hlt:=sst _ _ _ g1 he
  conv=>whnf
  refine⟨⟨by simp only;unfold maxLen;omega,by simp only;omega⟩,?_⟩;conv=>whnf
  refine⟨(m,acc++[f2],r2),jU [0] ?_,⟨g6,by simp only;omega,by simp only[List.length_append,List.length_cons,List.length_nil];omega,hP⟩,by simp only;omega⟩;conv=>whnf
  repeat' constructor
  simp only[List.length_append,List.length_cons,List.length_nil];rw[pM];rfl
 | true =>
  rw[if_pos hq] at g5
  have hnx:=wD nm ts1 g1.pos
  subst g5;conv=>whnf
  refine qT 0 [] hnx ?_;rintro o r ⟨ho,rfl⟩;cases ho;conv=>whnf
  exact⟨rfl,rfl⟩
theorem jfR (nm:List ByteArray):zN nm 44 21 bkN:=fun ts h=>by
 obtain⟨P,hP⟩ : ∃ P,bkN ts=P:=⟨_,rfl⟩
 rw[hP]
 have hopen:=cL nm ts h.pos pLb 21
 unfold bkN at hP;refine tW joe (fun _=>[0]) Tryz.func44 rfl ?_;intro _;conv=>whnf
 refine kK 0 [] hopen (fun ch bx' hp => ?_) ?_
 ·rcases hp with ⟨h1,h2,hp⟩ | ⟨h1,hp⟩
  ·rw[if_pos h1] at hP;exact jK hP.symm hp
  ·rw[if_neg (by rw[h1];simp)] at hP;exact jK hP.symm hp
 rintro o r ⟨⟨h1,h2⟩,ho,rfl⟩;exact absurd h2 (by decide)
theorem jlz (ex bl:List Tk->Pn) (ts:List Tk) (hn:yU ts=false) (hw:(hd ts).text=wIf ∨ (hd ts).text=wWhile ∨ (hd ts).text=wSend ∨ (hd ts).text=wTimer ∨ (hd ts).text=wCancel ∨ (hd ts).text=xY ∨ (hd ts).text=xX ∨ (hd ts).text=wReply ∨ (hd ts).text=wFail) :
  (if (hd ts).kind ≠ 1 then .bad (hd ts).pos 10 else stK ex bl (hd ts).text ts.tail)=eU ex bl ts:=by
 unfold eU stK;rw[if_neg (show ¬ yU ts=true by rw[hn];simp)]
 by_cases hk:(hd ts).kind ≠ 1
 ·rw[if_pos hk,if_pos hk];rfl
 ·rw[if_neg hk,if_neg hk]
  rcases hw with e | e | e | e | e | e | e | e | e <;> rw[e] <;> rfl
theorem jly (ex bl:List Tk->Pn) (ts:List Tk) (hn:yU ts=false) (hw : ¬ ((hd ts).text=wIf ∨ (hd ts).text=wWhile ∨ (hd ts).text=wSend ∨ (hd ts).text=wTimer ∨ (hd ts).text=wCancel ∨ (hd ts).text=xY ∨ (hd ts).text=xX ∨ (hd ts).text=wReply ∨ (hd ts).text=wFail)):eU ex bl ts=synE ts:=by
 simp only[not_or] at hw
 obtain⟨g0,g1,g2,g3,g4,g5,g6,g7,g8⟩ := hw
 unfold eU;rw[if_neg (show ¬ yU ts=true by rw[hn];simp),if_neg g0,if_neg g1,if_neg g2,if_neg g3,if_neg g4,if_neg g5,if_neg g7,if_neg g8,if_neg g6]
 split <;> rfl
theorem jat {nm:List ByteArray} {lv:Int} {ex bl:List Tk->Pn} (hlv:0<=lv/\lv<=20) (hex:zN nm 87 lv ex) (gex:qO ex) (hbl:zN nm 44 (lv+1) bl) (gbl:qO bl):zN nm 71 lv (eU ex bl):=fun ts h=>by
 cases hn:yU ts with
 | true=>exact jgV hex gex ts h hn _ (by unfold eU;rw[hn,if_pos rfl])
 | false =>
  by_cases hw:(hd ts).text=wIf ∨ (hd ts).text=wWhile ∨ (hd ts).text=wSend ∨ (hd ts).text=wTimer ∨ (hd ts).text=wCancel ∨ (hd ts).text=xY ∨ (hd ts).text=xX ∨ (hd ts).text=wReply ∨ (hd ts).text=wFail
  ·exact jlB hlv hex gex hbl gbl ts h _ hn (jlz ex bl ts hn hw) hw
  ·rw[jly ex bl ts hn hw];exact jlA nm lv ts h hn hw
def GoesS (op:List Tk->Pn):Prop := ∀ ts f r,TkP ts->op ts = .ok f r->TkP r/\r.length<ts.length
theorem GoesS.goes {op:List Tk->Pn} (h:GoesS op):qO op:=fun ts f r k e=>⟨(h ts f r k e).1,Nat.le_of_lt (h ts f r k e).2⟩
theorem jd8 {lim:Int} {ts:List Tk} {k:Int->List Tk->Pn} {f:Nt} {r:List Tk} (h:bL lim ts k = .ok f r):(hd ts).kind=2/\k (hd ts).n ts.tail = .ok f r:=by
 unfold bL at h
 split at h
 ·cases h
 ·split at h
  ·cases h
  ·rename_i h1 h2
   exact⟨Decidable.not_not.1 h1,h⟩
theorem g9 {ts:List Tk} (h:yU ts=true):(hd ts).kind=1:=by
 have h2:(decide ((hd ts).kind=1) && !(keyL++builtL).any fun s=>decide ((hd ts).text=s))=true:=h
 exact of_decide_eq_true (Bool.and_eq_true_iff.1 h2).1
theorem gE {c:Prop} [Decidable c] {a b x:Pn} (h:(if c then a else b)=x):(c/\a=x) ∨ (¬ c/\b=x):=by
 by_cases hc:c
 ·rw[if_pos hc] at h;exact .inl ⟨hc,h⟩
 ·rw[if_neg hc] at h;exact .inr ⟨hc,h⟩
theorem sG {ex bl:List Tk->Pn} (gex:qO ex) (gbl:qO bl):GoesS (eU ex bl):=fun ts f r h e=>by
 unfold eU at e
 rcases gE e with ⟨hn,e⟩ | ⟨hn,e⟩
 ·obtain⟨q1,q2⟩ := h.tail (by rw[g9 hn];decide)
  obtain⟨i,e⟩ := yW e
  obtain⟨g1,l1⟩ := q1.is i
  obtain⟨_,_,i,e⟩ := jX e
  obtain⟨g2,l2⟩ := gex _ _ _ g1 i
  obtain⟨i,e⟩ := yW e
  obtain⟨g3,l3⟩ := g2.is i
  cases e
  exact⟨g3,by omega⟩
 rcases gE e with ⟨hk,e⟩ | ⟨hk,e⟩
 ·cases e
 obtain⟨q1,q2⟩ := h.tail (by rw[Decidable.not_not.1 hk];decide)
 rcases gE e with ⟨_,e⟩ | ⟨_,e⟩
 ·obtain⟨_,_,i,e⟩ := jX e
  obtain⟨g1,l1⟩ := gex _ _ _ q1 i
  obtain⟨_,_,i,e⟩ := jX e
  obtain⟨g2,l2⟩ := gbl _ _ _ g1 i
  rcases gE e with ⟨hs,e⟩ | ⟨hs,e⟩
  ·obtain⟨g3,l3⟩ := g2.is hs
   obtain⟨_,_,i,e⟩ := jX e
   obtain⟨g4,l4⟩ := gbl _ _ _ g3 i
   cases e
   exact⟨g4,by omega⟩
  ·cases e
   exact⟨g2,by omega⟩
 rcases gE e with ⟨_,e⟩ | ⟨_,e⟩
 ·obtain⟨_,_,i,e⟩ := jX e
  obtain⟨g1,l1⟩ := gex _ _ _ q1 i
  obtain⟨_,_,i,e⟩ := jX e
  obtain⟨g2,l2⟩ := gbl _ _ _ g1 i
  cases e
  exact⟨g2,by omega⟩
 rcases gE e with ⟨_,e⟩ | ⟨_,e⟩
 ·obtain⟨_,_,i,e⟩ := jX e
  obtain⟨g1,l1⟩ := gex _ _ _ q1 i
  obtain⟨i,e⟩ := yW e
  obtain⟨g2,l2⟩ := g1.is i
  obtain⟨i,e⟩ := jd8 e
  obtain⟨g3,l3⟩ := g2.tail (by rw[i];decide)
  obtain⟨i,e⟩ := yW e
  obtain⟨g4,l4⟩ := g3.is i
  obtain⟨_,_,i,e⟩ := jX e
  obtain⟨g5,l5⟩ := gex _ _ _ g4 i
  obtain⟨i,e⟩ := yW e
  obtain⟨g6,l6⟩ := g5.is i
  obtain⟨_,_,i,e⟩ := jX e
  obtain⟨g7,l7⟩ := gex _ _ _ g6 i
  obtain⟨i,e⟩ := yW e
  obtain⟨g8,l8⟩ := g7.is i
  cases e
  exact⟨g8,by omega⟩
 rcases gE e with ⟨_,e⟩ | ⟨_,e⟩
 ·obtain⟨i,e⟩ := jd8 e
  obtain⟨g3,l3⟩ := q1.tail (by rw[i];decide)
  obtain⟨i,e⟩ := yW e
  obtain⟨g4,l4⟩ := g3.is i
  cases e
  exact⟨g4,by omega⟩
 rcases gE e with ⟨_,e⟩ | ⟨_,e⟩
 ·obtain⟨i,e⟩ := jd8 e
  obtain⟨g3,l3⟩ := q1.tail (by rw[i];decide)
  obtain⟨i,e⟩ := yW e
  obtain⟨g4,l4⟩ := g3.is i
  cases e
  exact⟨g4,by omega⟩
 rcases gE e with ⟨_,e⟩ | ⟨_,e⟩
 ·obtain⟨i,e⟩ := yW e
  obtain⟨g4,l4⟩ := q1.is i
  cases e
  exact⟨g4,by omega⟩
 rcases gE e with ⟨_,e⟩ | ⟨_,e⟩
 ·obtain⟨_,_,i,e⟩ := jX e
  obtain⟨g1,l1⟩ := gex _ _ _ q1 i
  obtain⟨i,e⟩ := yW e
  obtain⟨g2,l2⟩ := g1.is i
  obtain⟨_,_,i,e⟩ := jX e
  obtain⟨g3,l3⟩ := gex _ _ _ g2 i
  obtain⟨i,e⟩ := yW e
  obtain⟨g4,l4⟩ := g3.is i
  cases e
  exact⟨g4,by omega⟩
 rcases gE e with ⟨_,e⟩ | ⟨_,e⟩
 ·obtain⟨_,_,i,e⟩ := jX e
  obtain⟨g1,l1⟩ := gex _ _ _ q1 i
  obtain⟨i,e⟩ := yW e
  obtain⟨g2,l2⟩ := g1.is i
  cases e
  exact⟨g2,by omega⟩
 rcases gE e with ⟨_,e⟩ | ⟨_,e⟩
 ·obtain⟨i,e⟩ := yW e
  obtain⟨g4,l4⟩ := q1.is i
  cases e
  exact⟨g4,by omega⟩
 ·cases e
theorem jby {st:List Tk->Pn} (gst:GoesS st):∀ (n:Nat) (acc:List Nt) (ts:List Tk) (f:Nt) (r:List Tk),TkP ts->f9 st n acc ts = .ok f r->TkP r/\r.length<=ts.length
 | 0,acc,ts,f,r,h,e=>by cases e
 | n+1,acc,ts,f,r,h,e=>by
  rw[f9] at e
  split at e
  ·rename_i hs
   obtain⟨g1,l1⟩ := h.is hs
   cases e
   exact⟨g1,by omega⟩
  ·obtain⟨_,_,i,e⟩ := jX e
   obtain⟨g1,l1⟩ := gst _ _ _ h i
   obtain⟨g2,l2⟩ := jby gst n _ _ _ _ g1 e
   exact⟨g2,by omega⟩
theorem jhs {st:List Tk->Pn} (gst:GoesS st):GoesS (bkF st):=fun ts f r h e=>by
 unfold bkF at e
 obtain⟨i,e⟩ := yW e
 obtain⟨g1,l1⟩ := h.is i
 obtain⟨g2,l2⟩ := jby gst _ _ _ _ _ g1 e
 exact⟨g2,by omega⟩
theorem gY {low:Option Pa} (hl:dD low):qO (jiL low):=by
 cases low with
 | none =>
  intro ts f r h e
  have e2:(if qS pLb ts=true then Pn.bad (hd ts).pos 2 else .bad (hd ts).pos 10) = .ok f r:=e
  split at e2 <;> cases e2
 | some p=>exact (hl p rfl).2.2.2
theorem jcT {low:Option Pa} (hl:dD low):dD (some (paG low)):=fun p hp=>by
 cases hp
 exact⟨bD hl,bE hl,nK hl,(jhs (sG (nK hl) (gY hl))).goes⟩
theorem jbQ {nm:List ByteArray} {lv:Int} {low:Option Pa} (h:LowQ nm lv low):zN nm 44 (lv+1) (jiL low):=by
 obtain⟨h0,⟨rfl,rfl⟩ | ⟨p,rfl,h1,a,b,c,d,e,f,g,i⟩⟩ := h
 ·exact jfR nm
 ·exact i
theorem jeE {nm:List ByteArray} {lv:Int} {low:Option Pa} (h0:0<=lv) (h1:lv+1<=20) (h:LowQ nm (lv+1) low):LowQ nm lv (some (paG low)):=by
 have hg:=h.goes
 obtain⟨a,b,c,d⟩ := jcT hg _ rfl
 have hst:=jat (lv:=lv+1) ⟨by omega,h1⟩ (jbt h) (nK hg) (jbQ h) (gY hg)
 have gst:=sG (nK hg) (gY hg)
 exact⟨h0,.inr ⟨_,rfl,h1,a,b,c,d,jeO h,jaK h,jbt h,jjL ⟨by omega,h1⟩ hst gst.goes fun ts f r k e=>(gst ts f r k e).2⟩⟩
theorem jgr (nm:List ByteArray):∀ d:Nat,d<=19->LowQ nm (19-d) (some (pa d))
 | 0,_=>jeE (by decide) (by decide) ⟨by decide,.inl ⟨rfl,rfl⟩⟩
 | d+1,h=>by
  have ih:=jgr nm d (by omega)
  refine jeE (by omega) (by omega) ?_;rw[show (19-((d+1:Nat):Int)+1)=19-(d:Int) by push_cast;omega];exact ih
theorem jdP (nm:List ByteArray):zN nm 44 1 (pa 19).bl:=jbQ (jgr nm 19 (by decide))
theorem rE:GoesS (pa 19).bl:=by
 have h:=(jgr [] 18 (by decide)).goes
 exact jhs (sG (nK h) (gY h))
theorem rV (l:List ByteArray) (s:ByteArray) (hl:l.length<=1000000):Spec Tryz.prog 65 [] [.sl 1 l.length (x8 l),j0 s] fun _ r=>r=wP (kH l s):=by
 have hi:=iM l s hl
 refine eN jH jY 0 Tryz.func65 rfl ?_;intro _;conv=>whnf
 refine yI [] hi ?_;rintro r ⟨n,hn,hq,rfl⟩;conv=>whnf
 rw[hq];rfl
def deH (n:Nat) (nm out:List ByteArray) (ts:List Tk):Pd :=
 if qS pComma ts=true then aJ n nm out ts else if qS pSemi ts=true then .ok nm out ts.tail else .bad (hd ts).pos 10
theorem sF (n:Nat) (nm out:List ByteArray) (ts:List Tk):aJ (n+1) nm out ts =
  (if yU ts.tail=false then .bad (hd ts.tail).pos 10
  else if kH nm (hd ts.tail).text=true then .bad (hd ts.tail).pos 4
  else if nm.length=16 then .bad (hd ts.tail).pos 2
  else deH n (nm++[(hd ts.tail).text]) (out++[(hd ts.tail).text]) ts.tail.tail):=rfl
def pdQ (p:Pd) (ch:List PanicEntry):Prop:=match p with
 | .bad x e=>ch=qK x e
 | _=>False
theorem lO {p:Pd} {x e:Int} {ch:List PanicEntry} (h:p = .bad x e) (k:ch=qK x e):pdQ p ch:=by subst h;exact k
def doQ (p:Pd) (o:List (List A)) (n:Nat) (cs:List A) (r:A):Prop:=match p with
 | .ok nm out ts=>o=[bxN ts++[.own 0]]/\n=nm.length/\cs=x8 nm/\r = .sl 1 out.length (x8 out)
 | _=>False
theorem jfx (l:List ByteArray) (s:ByteArray):x8 (l++[s])=x8 l++[j0 s]:=by unfold x8;rw[List.map_append];rfl
theorem jbs (nm:List ByteArray) (ts:List Tk) (h:TkP ts) (hk:(hd ts).kind ≠ 0) (hl16:nm.length<=16) :
  iV Tryz.prog 41 [bxN ts++[.own 0]] 9 1 nm.length (x8 nm) [.box 0 0] (doQ (aJ ts.length nm [] ts)) (pdQ (aJ ts.length nm [] ts)):=by
 obtain⟨P,hP⟩ : ∃ P,aJ ts.length nm [] ts=P:=⟨_,rfl⟩
 rw[hP]
 have hb0:=h.1.2
 refine jas (wB jH jY 1 (fun ch _=>(pdQ P) ch)) (fun _ _ h=>h) Tryz.func41 rfl (by kernel_rfl) rfl (by kernel_rfl) ?_;intro _;conv=>whnf
 refine wV 9 1 [3] [] ?_;conv=>whnf
 refine⟨trivial,?_⟩;conv=>whnf
 refine jT [0,3] ?_;conv=>whnf
 refine zF (fun x:Nat × Bool × List ByteArray × List ByteArray × List Tk=>[(4,.v (.bool x.2.1))]) (fun x=>[bxN x.2.2.2.2++[.own 0]]) (fun x=>[.live 9 1 x.2.2.1.length (x8 x.2.2.1),.live 9 1 x.2.2.2.1.length (x8 x.2.2.2.1)])
  (fun x=>TkP x.2.2.2.2/\x.2.2.2.2.length<=x.1/\x.2.2.1.length<=16/\x.2.2.2.1.length+x.2.2.2.2.length<=1000001/\(x.2.1=true->(hd x.2.2.2.2).kind ≠ 0/\aJ x.1 x.2.2.1 x.2.2.2.1 x.2.2.2.2=P)/\(x.2.1=false->deH x.1 x.2.2.1 x.2.2.2.1 x.2.2.2.2=P)) (fun x=>x.2.2.2.2.length) (ts.length,true,nm,[],ts) ?_ ⟨h,Nat.le_refl _,hl16,by simp only[List.length_nil];omega,fun _=>⟨hk,hP⟩,fun e=>by cases e⟩ ?_
 ·repeat' constructor
 rintro⟨n0,b,nm1,out,ts0⟩ ⟨g1,g2,g3,g4,g5,g6⟩
 simp only at g1 g2 g3 g4 g5 g6
 conv=>whnf
 cases b with
 | true =>
  obtain⟨g7,hP⟩ := g5 rfl
  obtain⟨n,rfl⟩ : ∃ n,n0=n+1:=⟨n0-1,by have:=g1.pos;omega⟩
  rw[sF] at hP
  obtain⟨q1,q2⟩ := g1.tail g7
  have hnx:=pQ ts0 g1.pos
  have hp1:=q1.pos
  generalize hd ts0=t0 at *;generalize ts0.tail=ts1 at *;conv=>whnf
  refine qX 0 0 2 [] rfl rfl rfl rfl rfl rfl rfl (fun _=>(hnx).rp rfl rfl _ _ _ _) (fun ch bx' hp=>hp.elim) ?_;rintro o n' cs' r ⟨c,ho,rfl,rfl,rfl,rfl⟩;cases ho;conv=>whnf
  have hnm:=jgE ts1 hp1 q1.hd q1.good.1
  refine qX 0 2 3 [] rfl rfl rfl rfl rfl rfl rfl (fun _=>(hnm).rp rfl rfl _ _ _ _) (fun ch bx' hp=>hp.elim) ?_;rintro o n' cs' r ⟨c,ho,rfl,rfl,rfl,rfl⟩;cases ho;conv=>whnf
  cases hn:yU ts1 with
  | false =>
   rw[if_pos hn] at hP;conv=>whnf
   refine qX 0 3 4 [] rfl rfl rfl rfl rfl rfl rfl (fun _=>(eH ts1 hp1 10).rp rfl rfl _ _ _ _) (fun ch bx' hp _ _=>lO hP.symm hp) ?_;rintro o n' cs' r ⟨c,ho,_,_,⟨⟩⟩
  | true =>
   rw[if_neg (by rw[hn];simp)] at hP
   have hr1:=gF hp1
   obtain⟨q4,q5⟩ := q1.tail (by rw[g9 hn];decide)
   have hnx2:=pQ ts1 hp1
   have hz1:=q1.good.1
   generalize hts2:ts1.tail=ts2 at *;generalize ht1:hd ts1=t1 at *
   have hct:=rV nm1 t1.text (by omega)
   conv=>whnf
   (refine uI ?_;try with_reducible exact trivial)
   (generalize hrq:jM _ _ (yH ts1)=rq;obtain rfl:rq=pY t1:=hrq.symm.trans (hr1);clear hrq;conv=>whnf)
   refine jnV [3] rfl (fun _=>hct) ?_;rintro r rfl;refine⟨_,rfl,?_⟩;conv=>whnf
   cases hh:kH nm1 t1.text with
   | true =>
    rw[if_pos hh] at hP;rw[<- ht1] at hP;conv=>whnf
    refine qX 0 3 4 [] rfl rfl rfl rfl rfl rfl rfl (fun _=>(eH ts1 hp1 4).rp rfl rfl _ _ _ _) (fun ch bx' hp _ _=>lO hP.symm hp) ?_;rintro o n' cs' r ⟨c,ho,_,_,⟨⟩⟩
   | false =>
    rw[if_neg (by rw[hh];simp)] at hP;conv=>whnf
    by_cases h16:nm1.length=16
    ·rw[qH (show (nm1.length:Int)=16 by omega)];rw[if_pos h16] at hP;rw[<- ht1] at hP;conv=>whnf
     refine qX 0 3 4 [] rfl rfl rfl rfl rfl rfl rfl (fun _=>(eH ts1 hp1 2).rp rfl rfl _ _ _ _) (fun ch bx' hp _ _=>lO hP.symm hp) ?_;rintro o n' cs' r ⟨c,ho,_,_,⟨⟩⟩
    ·rw[j8 (show ¬ (nm1.length:Int)=16 by omega)];rw[if_neg h16] at hP;conv=>whnf
     refine⟨⟨by simp only;unfold maxLen;omega,by simp only;omega⟩,?_⟩;conv=>whnf
     refine⟨⟨by simp only;unfold maxLen;omega,by simp only;omega⟩,?_⟩;conv=>whnf
     refine qX 0 3 6 [] rfl rfl rfl rfl rfl rfl rfl (fun _=>(hnx2).rp rfl rfl _ _ _ _) (fun ch bx' hp=>hp.elim) ?_;rintro o n' cs' r ⟨c,ho,rfl,rfl,rfl,rfl⟩;cases ho;conv=>whnf
     refine⟨(n,false,nm1++[t1.text],out++[t1.text],ts2),jU [6,1] ?_,⟨q4,by simp only;omega,by simp only[List.length_append,List.length_cons,List.length_nil];omega,by simp only[List.length_append,List.length_cons,List.length_nil];omega,fun e=>(by cases e),fun _=>hP⟩,by simp only;omega⟩;conv=>whnf
     simp only[List.length_append,List.length_cons,List.length_nil,jfx]
     repeat' constructor
 | false =>
  have hP:=g6 rfl
  have hpos:=g1.pos
  have hcm:=jn4 ts0 hpos pComma
  conv=>whnf
  refine qX 0 0 2 [] rfl rfl rfl rfl rfl rfl rfl (fun _=>(hcm).rp rfl rfl _ _ _ _) (fun ch bx' hp=>hp.elim) ?_;rintro o n' cs' r ⟨c,ho,rfl,rfl,rfl,rfl⟩;cases ho;conv=>whnf
  unfold deH at hP
  cases hq:qS pComma ts0 with
  | true =>
   rw[if_pos hq] at hP
   obtain⟨n,rfl⟩ : ∃ n,n0=n+1:=⟨n0-1,by omega⟩
   rw[sF] at hP
   obtain⟨q1,q2⟩ := g1.is hq
   have hnx:=pQ ts0 hpos
   have hp1:=q1.pos
   generalize hd ts0=t0 at *;generalize ts0.tail=ts1 at *;conv=>whnf
   refine qX 0 2 3 [] rfl rfl rfl rfl rfl rfl rfl (fun _=>(hnx).rp rfl rfl _ _ _ _) (fun ch bx' hp=>hp.elim) ?_;rintro o n' cs' r ⟨c,ho,rfl,rfl,rfl,rfl⟩;cases ho;conv=>whnf
   have hnm:=jgE ts1 hp1 q1.hd q1.good.1
   refine qX 0 3 4 [] rfl rfl rfl rfl rfl rfl rfl (fun _=>(hnm).rp rfl rfl _ _ _ _) (fun ch bx' hp=>hp.elim) ?_;rintro o n' cs' r ⟨c,ho,rfl,rfl,rfl,rfl⟩;cases ho;conv=>whnf
   cases hn:yU ts1 with
   | false =>
    rw[if_pos hn] at hP;conv=>whnf
    refine qX 0 4 5 [] rfl rfl rfl rfl rfl rfl rfl (fun _=>(eH ts1 hp1 10).rp rfl rfl _ _ _ _) (fun ch bx' hp _ _=>lO hP.symm hp) ?_;rintro o n' cs' r ⟨c,ho,_,_,⟨⟩⟩
   | true =>
    rw[if_neg (by rw[hn];simp)] at hP
    have hr1:=gF hp1
    obtain⟨q4,q5⟩ := q1.tail (by rw[g9 hn];decide)
    have hnx2:=pQ ts1 hp1
    have hz1:=q1.good.1
    generalize hts2:ts1.tail=ts2 at *;generalize ht1:hd ts1=t1 at *
    have hct:=rV nm1 t1.text (by omega)
    conv=>whnf
    (refine uI ?_;try with_reducible exact trivial)
    (generalize hrq:jM _ _ (yH ts1)=rq;obtain rfl:rq=pY t1:=hrq.symm.trans (hr1);clear hrq;conv=>whnf)
    refine jnV [4] rfl (fun _=>hct) ?_;rintro r rfl;refine⟨_,rfl,?_⟩;conv=>whnf
    cases hh:kH nm1 t1.text with
    | true =>
     rw[if_pos hh] at hP;rw[<- ht1] at hP;conv=>whnf
     refine qX 0 4 5 [] rfl rfl rfl rfl rfl rfl rfl (fun _=>(eH ts1 hp1 4).rp rfl rfl _ _ _ _) (fun ch bx' hp _ _=>lO hP.symm hp) ?_;rintro o n' cs' r ⟨c,ho,_,_,⟨⟩⟩
    | false =>
     rw[if_neg (by rw[hh];simp)] at hP;conv=>whnf
     by_cases h16:nm1.length=16
     ·rw[qH (show (nm1.length:Int)=16 by omega)];rw[if_pos h16] at hP;rw[<- ht1] at hP;conv=>whnf
      refine qX 0 4 5 [] rfl rfl rfl rfl rfl rfl rfl (fun _=>(eH ts1 hp1 2).rp rfl rfl _ _ _ _) (fun ch bx' hp _ _=>lO hP.symm hp) ?_;rintro o n' cs' r ⟨c,ho,_,_,⟨⟩⟩
     ·rw[j8 (show ¬ (nm1.length:Int)=16 by omega)];rw[if_neg h16] at hP;conv=>whnf
      refine⟨⟨by simp only;unfold maxLen;omega,by simp only;omega⟩,?_⟩;conv=>whnf
      refine⟨⟨by simp only;unfold maxLen;omega,by simp only;omega⟩,?_⟩;conv=>whnf
      refine qX 0 4 7 [] rfl rfl rfl rfl rfl rfl rfl (fun _=>(hnx2).rp rfl rfl _ _ _ _) (fun ch bx' hp=>hp.elim) ?_;rintro o n' cs' r ⟨c,ho,rfl,rfl,rfl,rfl⟩;cases ho;conv=>whnf
      refine⟨(n,false,nm1++[t1.text],out++[t1.text],ts2),jU [7,1] ?_,⟨q4,by simp only;omega,by simp only[List.length_append,List.length_cons,List.length_nil];omega,by simp only[List.length_append,List.length_cons,List.length_nil];omega,fun e=>(by cases e),fun _=>hP⟩,by simp only;omega⟩;conv=>whnf
      simp only[List.length_append,List.length_cons,List.length_nil,jfx]
      repeat' constructor
  | false =>
   rw[if_neg (by rw[hq];simp)] at hP;conv=>whnf
   refine qX 0 2 3 [] rfl rfl rfl rfl rfl rfl rfl (fun _=>(jeZ ts0 hpos pSemi).rp rfl rfl _ _ _ _) (fun ch bx' hp _ _ => ?_) ?_
   ·rw[if_neg (by rw[hp.1];simp)] at hP;exact lO hP.symm hp.2
   rintro o n' cs' r ⟨c,ho,rfl,rfl,hs,rfl,rfl⟩;cases ho;rw[if_pos hs] at hP;subst hP;conv=>whnf
   refine⟨3,?_⟩;conv=>whnf
   exact⟨rfl,rfl,rfl,rfl⟩
end Go.Proofs.YtgifglkkmhapiaaGreatDoor.Vm
namespace Go.Proofs.YtgifglkkmhapiaaGreatDoor.Vm
open Go.RowKit
@[irreducible] def mkA (l:List (Int × A)):List A:=l.map fun p => .v (.int .i64 p.1)
@[irreducible] def mkV (l:List (Int × A)):List Value:=l.map fun p => .int .i64 p.1
@[irreducible] def mvA (l:List (Int × A)):List A:=l.map (·.2)
theorem jmK:mkA []=[]:=by unfold mkA;rfl
theorem jmL:mvA []=[]:=by unfold mvA;rfl
theorem uP (l:List (Int × A)) {K:List Value->Prop} (h:K (mkV l)):iH (mkA l) K:=by
 unfold mkV at h;unfold mkA
 induction l generalizing K with
 | nil=>exact h
 | cons p l ih =>
  rw[List.map_cons]
  show iH (l.map _) fun r=>K (.int .i64 p.1 :: r)
  exact ih (K:=fun r=>K (.int .i64 p.1 :: r)) h
def yD (l:List (Int × A)) (k:Int):Option A:=(l.find? fun p=>decide (k=p.1)).map (·.2)
theorem xQ (l:List (Int × A)) (k:Int) {K:A->Prop} {n:Prop} (h:match yD l k with | some a=>K a | none=>n):fL false (mkV l) (mvA l) (.int .i64 k) K n:=by
 unfold mkV mvA
 induction l with
 | nil=>exact h
 | cons p l ih =>
  rw[List.map_cons,List.map_cons]
  show ifK (decide (k=p.1)) (zO p.2 K) (fL false (l.map _) (l.map (·.2)) (.int .i64 k) K n)
  rw[ifK_iff]
  by_cases e:k=p.1
  ·refine⟨fun _ => ?_,fun e2=>by rw[qH e] at e2;cases e2⟩
   have:yD (p :: l) k=some p.2:=by unfold yD;rw[List.find?_cons_of_pos (by simpa using e)];rfl
   rw[this] at h;exact force_iff.2 h
  ·refine⟨fun e2=>absurd (of_decide_eq_true e2) e,fun _=>ih ?_⟩
   have:yD (p :: l) k=yD l k:=by unfold yD;rw[List.find?_cons_of_neg (by simpa using e)]
   rw[<- this];exact h
theorem jiA {l:List (Int × A)} {k:Int} {x:A} {n:Nat} {K:List A->List A->Nat->Prop} (hk:∀ p ∈ l,k ≠ p.1) (h:K (mkA (l++[(k,x)])) (mvA (l++[(k,x)])) (n+1)):jiz false (.int .i64 k) x (mkA l) (mvA l) n K:=by
 unfold mkA mvA at h;unfold mkA mvA
 induction l generalizing K with
 | nil=>exact h
 | cons p l ih =>
  rw[List.map_cons,List.map_cons]
  show ifK (decide (k=p.1)) _ (jiz false (.int .i64 k) x (l.map _) (l.map (·.2)) n fun ks' vs' n' => K (.v (.int .i64 p.1) :: ks') (p.2 :: vs') n')
  rw[ifK_iff];refine⟨fun e=>absurd (of_decide_eq_true e) (hk p List.mem_cons_self),fun _=>ih (K:=fun ks' vs' n' => K (.v (.int .i64 p.1) :: ks') (p.2 :: vs') n') (fun q hq=>hk q (List.mem_cons_of_mem _ hq)) h⟩
section
mutual
def u6:A->Bool
 | .mp _ _=>false
 | .sl _ _ cs=>wQ cs
 | .pp cs=>wQ cs
 | .clo _ l=>wQ l
 | .bm _ l=>wQ l
 | .agg l=>wQ l
 | .tup l=>wQ l
 | _=>true
def wQ:List A->Bool
 | []=>true
 | a :: r=>u6 a && wQ r
end
theorem noMpL_iff:∀ {l:List A},wQ l=true ↔ ∀ a ∈ l,u6 a=true
 | []=>by unfold wQ;simp
 | a :: r=>by
  unfold wQ;rw[Bool.and_eq_true,noMpL_iff];simp
theorem jiN {l:List A} (h:wQ l=true):wQ (gJ l)=true:=by
 cases l with
 | nil=>exact h
 | cons a l=>cases a <;> exact h
def jnO (D C:Rd):Prop := ∀ b o u,D ⟨b,o,none⟩ = some u->C ⟨b,o,none⟩ = some u
section
variable {D C:Rd} (hC:jnO D C)
include hC
mutual
theorem oG:∀ (a:A) {β:List Nat} {ρ:List Value} {y:Value},u6 a=true->a.rep ⟨D,β,ρ⟩ y->a.rep ⟨C,β,ρ⟩ y
 | .dead,_,_,_,_,h=>by unfold A.rep;trivial
 | .v x,_,_,_,_,h=>by unfold A.rep at h ⊢;exact h
 | .sl k n cs,_,_,_,hm,h=>by
  unfold A.rep at h ⊢
  obtain⟨h1,h2,p,b,off,cap,h3,h4,h6,h7,h8⟩ := h
  exact⟨h1,h2,p,b,off,cap,h3,h4,h6,h7,jd6 cs (by unfold u6 at hm;exact hm) h8⟩
 | .own g,_,_,_,_,h=>by unfold A.rep at h ⊢;exact h
 | .orow g off,_,_,_,_,h=>by unfold A.rep at h ⊢;exact h
 | .box i off,_,_,_,_,h=>by unfold A.rep at h ⊢;exact h
 | .pp cs,_,_,_,hm,h=>by
  unfold A.rep at h ⊢
  obtain⟨b,off,h1,h2⟩ := h
  exact⟨b,off,h1,jd6 cs (by unfold u6 at hm;exact hm) h2⟩
 | .gp _ _,_,_,_,_,h=>by unfold A.rep at h ⊢;exact h
 | .adr _,_,_,_,_,h=>by unfold A.rep at h;exact h.elim
 | .err,_,_,_,_,h=>by unfold A.rep at h ⊢;exact h
 | .num,_,_,_,_,h=>by unfold A.rep at h ⊢;exact h
 | .clo f caps,_,_,_,hm,h=>by
  unfold A.rep at h ⊢
  obtain⟨us,h1,h2⟩ := h
  exact⟨us,h1,jd5 caps (by unfold u6 at hm;exact hm) h2⟩
 | .bm f fs,_,_,_,hm,h=>by
  unfold A.rep at h ⊢
  obtain⟨us,h1,h2⟩ := h
  exact⟨us,h1,jd5 fs (by unfold u6 at hm;exact hm) h2⟩
 | .mp ks vs,_,_,_,hm,h=>by unfold u6 at hm;cases hm
 | .agg l,_,_,_,hm,h=>by
  unfold A.rep at h ⊢
  obtain⟨us,h1,h2⟩ := h
  exact⟨us,h1,jgh l (by unfold u6 at hm;exact hm) h2⟩
 | .tup l,_,_,_,hm,h=>by
  unfold A.rep at h ⊢
  obtain⟨us,h1,h2⟩ := h
  exact⟨us,h1,jd5 l (by unfold u6 at hm;exact hm) h2⟩
theorem jd6:∀ (l:List A) {β:List Nat} {ρ:List Value} {b off:Nat},wQ l=true->A.repAt l ⟨D,β,ρ⟩ b off->A.repAt l ⟨C,β,ρ⟩ b off
 | [],_,_,_,_,_,_=>by unfold A.repAt;trivial
 | a :: ar,_,_,_,_,hm,h=>by
  unfold wQ at hm;rw[Bool.and_eq_true] at hm;unfold A.repAt at h ⊢
  obtain⟨⟨u,h1,h2,h3⟩,h4⟩ := h
  exact⟨⟨u,hC _ _ _ h1,h2,oG a hm.1 h3⟩,jd6 ar hm.2 h4⟩
theorem jd5:∀ (l:List A) {β:List Nat} {ρ:List Value} {us:List Value},wQ l=true->A.repL l ⟨D,β,ρ⟩ us->A.repL l ⟨C,β,ρ⟩ us
 | [],_,_,_,_,h=>by unfold A.repL at h ⊢;exact h
 | a :: ar,_,_,_,hm,h=>by
  unfold wQ at hm;rw[Bool.and_eq_true] at hm;unfold A.repL at h ⊢
  obtain⟨u,us',h1,h2,h3⟩ := h
  exact⟨u,us',h1,oG a hm.1 h2,jd5 ar hm.2 h3⟩
theorem jgh:∀ (l:List A) {β:List Nat} {ρ:List Value} {us:List Value},wQ l=true->A.repC l ⟨D,β,ρ⟩ us->A.repC l ⟨C,β,ρ⟩ us
 | [],_,_,_,_,h=>by unfold A.repC at h ⊢;exact h
 | a :: ar,_,_,_,hm,h=>by
  unfold wQ at hm;rw[Bool.and_eq_true] at hm;unfold A.repC at h ⊢
  obtain⟨u,us',h1,h2,h3,h4⟩ := h
  exact⟨u,us',h1,h2,oG a hm.1 h3,jgh ar hm.2 h4⟩
end
end
def jbJ:A->A
 | .agg l => .agg (l.map fun _ => .dead)
 | _ => .dead
theorem jbr {F:Env} : ∀ {us:List Value},(∀ u ∈ us,u.oneCell'=true) -> ∀ {l:List A},us.length=l.length->A.repC (l.map fun _=>A.dead) F us
 | [],_,[],_=>by simp[A.repC]
 | u :: us,h,a :: l,hl=>by
  rw[List.map_cons];unfold A.repC;exact⟨u,us,rfl,h u List.mem_cons_self,A.rep_dead _ _,jbr (fun v hv=>h v (List.mem_cons_of_mem _ hv)) (by simpa using hl)⟩
 | [],_,_ :: _,hl=>by simp at hl
 | _ :: _,_,[],hl=>by simp at hl
theorem jiE {a:A} {E F:Env} {y:Value} (h:a.rep E y):(jbJ a).rep F y:=by
 cases a with
 | agg l =>
  unfold A.rep at h
  obtain⟨us,h1,h2⟩ := h
  unfold jbJ A.rep;exact⟨us,h1,jbr (A.repC_one h2) (A.repC_len h2)⟩
 | _=>exact A.rep_dead _ _
theorem jbK {E F:Env} : ∀ {l:List A} {us:List Value},A.repL l E us->A.repL (l.map jbJ) F us
 | [],us,h=>by unfold A.repL at h;subst h;simp[A.repL]
 | a :: r,us,h=>by
  unfold A.repL at h
  obtain⟨u,us',rfl,h2,h3⟩ := h
  rw[List.map_cons];unfold A.repL;exact⟨u,us',rfl,jiE h2,jbK h3⟩
section
variable {P:Program} {pan:List PanicEntry->S->Prop} {Xr:Nat->Bool} {f:Nat} {s:S} {K:A->S->Prop} {post:List (List A)->A->Prop}
theorem joK (i g:Nat) {e n:Nat} {kA vs c0 c1:List A} {ks:List Value} {pn:List PanicEntry->Prop} (hX:Xr i=true) (hi:s.bx[i]? = some c0) (hg:s.rw[g]? = some (.live e 0 n [.clo 0 kA,.clo 0 vs])) (hkk:iH kA fun l=>l=ks) (h1:zM [i] s.rw c0=some c1)
  (hs:SpecP P f [c1] [.box 0 0,.mp ks (vs.map jbJ)] post pn) (hno:∀ o r,post o r->(∀ c ∈ o,wQ c=true)/\u6 r=true)
  (hpn:∀ ch bx',pn ch->bx'.length=s.bx.length->(∀ j,j ≠ i->bx'[j]? = s.bx[j]?)->pan ch ⟨s.t,bx',s.rw⟩)
  (hk:∀ o r,post [o] r->lM [i] s.bx [i] [o] fun bx' => zO (back [i] r) fun r' => j7 s.rw fun rw' => kZ s bx' rw' (K r')):kV P pan Xr f [.box i 0,.own g] s K:=by
 unfold kV
 right;right;right;right;right
 refine⟨hs.1,fun w0 C0 β0 E w vals hp hargs => ?_⟩
 have hil:=(List.getElem?_eq_some_iff.1 hi).1
 unfold A.repL at hargs
 obtain⟨v0,us0,rfl,hv0,hargs⟩ := hargs
 unfold A.repL at hargs
 obtain⟨y,us1,rfl,hy,hargs⟩ := hargs
 unfold A.repL at hargs;subst hargs
 have hyg:E.ρ[g]? = some y:=by unfold A.rep at hy;exact hy
 obtain⟨r,es,c,us,rfl,hr,hn,hst,h2,hks,hvs⟩ := sL hp hg hyg
 obtain⟨ks',hke,hka⟩ := pG hkk
 subst hke
 obtain⟨hkeys,hok⟩ := hka E.per _ hks
 have hseeM:kJ w ⟨r,0,some 0⟩ = some (.tuple #[.tuple ks'.toArray,.tuple us.toArray]):=by
  unfold kJ aN;simp only[hr];rw[if_pos hst]
  have q1:es.map (·.key)=ks'.toArray:=by
   apply Array.toList_inj.1
   rw[<- hkeys];simp
  have q2:es.map (·.val)=us.toArray:=by
   apply Array.toList_inj.1
   rw[<- h2];simp
  rw[q1,q2]
 have hlen:(vs.map jbJ).length=ks'.length:=by
  rw[List.length_map,<- A.repL_len hvs,<- h2,<- hkeys];simp
 have hno0:∀ o,kJ w ⟨r,o,none⟩ = none:=fun o=>by
  unfold kJ World.cell?
  simp[hr]
 have hcall:=tJ (Cl:=fun vals w1 R=>w1=w->vals.toList[1]? = some (.map (some r))->Calls P f vals w R) (fun h k e1 e2=>Calls.mono (k e1 e2) fun e w' => h e w') (pan:=pan) (pn:=pn) (X:=[i]) (ids:=[]) (ins:=[c1]) (post:=post) (Xr:=Xr) (args:=[.box i 0,.dead]) (args':=[.box 0 0,.dead]) (vs:=[v0,.map (some r)]) (K:=K) hp
  (by
   unfold A.repL;refine⟨_,_,rfl,hv0,?_⟩;unfold A.repL
   exact⟨_,_,rfl,A.rep_dead _ _,by unfold A.repL;rfl⟩)
  (by simp) (by simpa using hX) (by simpa using hil)
  (by
   have:s.bx.getD i []=c0:=by simp[List.getD_eq_getElem?_getD,hi]
   simp only[List.map_cons,List.map_nil,this]
   show nQ [i] s.rw [c0]=_
   simp only[nQ,h1])
  (by
   show zM [i] s.rw [.box i 0,.dead]=_
   simp[zM,ren,idx])
  (fun _ w1 C β vals1 g0 g1 g2 g3 g4 g5 g6 hw hv => ?_)
  (fun outs r' hp' hl=>by
   obtain⟨o,rfl⟩ : ∃ o,outs=[o]:=List.length_eq_one_iff.1 (by simpa using hl)
   exact hk o r' hp')
  (fun ch bx' h h1 h2=>hpn ch bx' h h1 fun j hj=>h2 j (by simpa using hj))
 ·exact hcall rfl rfl
 ·subst hw
  obtain⟨b,rfl⟩ : ∃ b,β=[b]:=List.length_eq_one_iff.1 g4.symm
  have hbr:b ≠ r:=fun e=>by
   obtain⟨T,arr,hb,_⟩ := g5 0 b c1 rfl rfl
   rw[e,hr] at hb;cases hb
  obtain⟨C1,hC1⟩ : ∃ C1:Rd,C1=fun ad=>if ad.block=r then kJ w1 ad else C ad:=⟨_,rfl⟩
  have sub1:Sub C C1:=fun ad u hc=>by
   rw[hC1]
   simp only
   split
   ·exact g1 ad u hc
   ·exact hc
  have sub2:Sub C1 (kJ w1):=fun ad u hc=>by
   rw[hC1] at hc
   simp only at hc
   split at hc
   ·exact hc
   ·exact g1 ad u hc
  have hβ1:∀ b' ∈ [b],∀ o sp,C1 ⟨b',o,sp⟩ = none:=fun b' hb' o sp=>by
   have e:b'=b:=by simpa using hb'
   subst e;rw[hC1]
   simp only
   rw[if_neg hbr];exact g3 _ hb' o sp
  have le1:(⟨C,[b],[]⟩ : Env).le ⟨C1,[b],[]⟩ := ⟨sub1,fun _ _ h=>h,fun _ _ h=>h⟩
  unfold A.repL at g6
  obtain⟨p,l1,rfl,hp0,g6⟩ := g6
  unfold A.repL at g6
  obtain⟨q,l2,rfl,-,g6⟩ := g6
  unfold A.repL at g6;subst g6
  obtain rfl:q = .map (some r):=by simpa using hv
  have tr:∀ w',jnO (qU C1 w1 w') (qU C w1 w'):=fun w' b' o u hc=>by
   unfold qU at hc ⊢
   split
   ·rename_i hlt
    rw[if_pos hlt,hC1] at hc
    simp only at hc
    split at hc
    ·rename_i hbr2
     subst hbr2;rw[hno0] at hc;cases hc
    ·exact hc
   ·rename_i hlt
    rw[if_neg hlt] at hc;exact hc
  refine (hs.2 w1 C1 [b] [p,.map (some r)] (g0.mono sub1) sub2 g2 hβ1 g4 (fun j b' cs hj hcs=>(g5 j b' cs hj hcs).mono le1) ?_).mono fun e' w' hh => ?_
  ·unfold A.repL;refine⟨_,_,rfl,A.rep.mono _ le1 hp0,?_⟩;unfold A.repL;refine⟨_,_,rfl,?_,by unfold A.repL;rfl⟩;unfold A.rep;refine⟨r,us,rfl,?_,hlen,jbK hvs,hok⟩;rw[hC1];simp only[if_true];exact hseeM
  ·rcases hh with ⟨outs,r',v,rfl,hpost,kp,k2,k3,k4⟩ | ⟨ch,ns,k1,k2,kp,k4,k5⟩
   ·obtain⟨n1,n2⟩ := hno _ _ hpost
    refine .inl ⟨outs,r',v,rfl,hpost,kp,k2,fun j b' cs hj hcs => ?_,oG (tr w') r' n2 k4⟩
    obtain⟨T,arr,hh,hbc⟩ := k3 j b' cs hj hcs
    exact⟨T,arr,hh,jgh (tr w') _ (jiN (n1 cs (List.mem_of_getElem? hcs))) hbc.1,hbc.2⟩
   ·refine .inr ⟨ch,ns,k1,k2,kp,k4,fun j b' n' hj hn' => ?_⟩
    obtain⟨T,arr,hh,hbc⟩ := k5 j b' n' hj hn'
    exact⟨T,arr,hh,.mk' (A.repC_mk (gT (tT hbc.1)) (by
     have:=A.repC_one hbc.1
     exact this))⟩
end
end
end Go.Proofs.YtgifglkkmhapiaaGreatDoor.Vm
namespace Go.Proofs.YtgifglkkmhapiaaGreatDoor.Vm
open Go.RowKit Go.Shelf
def haA (h:Int × Nt):Int × A:=(h.1,.agg (jJ h.1 :: ntA h.2))
def x5 (l:List (Int × Nt)):List (Int × A):=l.map haA
def heF (hs:List (Int × Nt)) (ts:List Tk):Ph:=match hnF ts with
 | .bad x e => .bad x e
 | .ok k r=>if hs.any (fun h=>decide (h.1=k))=true then .bad (hd ts).pos 4 else .ok k r
def phQ (p:Ph) (ch:List PanicEntry):Prop:=match p with
 | .bad x e=>ch=qK x e
 | _=>False
theorem cG {p:Ph} {x e:Int} {ch:List PanicEntry} (h:p = .bad x e) (k:ch=qK x e):phQ p ch:=by subst h;exact k
def hoQ (nm:List ByteArray) (p:Ph) (o:List (List A)) (r:A):Prop:=match p with
 | .ok k ts=>o=[dE nm ts]/\r=jJ k
 | _=>False
def haD (h:Int × Nt):Int × A:=(h.1,.agg [.dead,.dead,.dead,.dead,.dead])
def mZ (l:List (Int × Nt)):List (Int × A):=l.map haD
theorem jkv (l:List (Int × Nt)):mkV (mZ l)=mkV (x5 l):=by
 unfold mkV mZ x5;rw[List.map_map,List.map_map];rfl
theorem jkw (l:List (Int × Nt)):(mvA (x5 l)).map jbJ=mvA (mZ l):=by
 unfold mvA mZ x5;rw[List.map_map,List.map_map,List.map_map];rfl
theorem fF (g:Int × Nt->Int × A) (hg:∀ h,(g h).1=h.1) (hs:List (Int × Nt)) (k:Int):(hs.any (fun h=>decide (h.1=k))=true /\ ∃ h ∈ hs,h.1=k/\yD (hs.map g) k=some (g h).2) ∨ (hs.any (fun h=>decide (h.1=k))=false/\yD (hs.map g) k=none):=by
 induction hs with
 | nil=>exact .inr ⟨rfl,rfl⟩
 | cons h l ih =>
  by_cases e:h.1=k
  ·left
   refine⟨by rw[List.any_cons,qH e];rfl,h,List.mem_cons_self,e,?_⟩;unfold yD;rw[List.map_cons,List.find?_cons_of_pos (p:=fun p:Int × A=>decide (k=p.1)) (show decide (k=(g h).1)=true from qH (by rw[hg];exact e.symm))];rfl
  ·have hf:yD ((h :: l).map g) k=yD (l.map g) k:=by
    unfold yD;rw[List.map_cons,List.find?_cons_of_neg (p:=fun p:Int × A=>decide (k=p.1)) (show ¬ decide (k=(g h).1)=true by rw[j8 (fun e2:k=(g h).1=>e (by rw[e2,hg]))];simp)]
   rw[hf,List.any_cons,j8 e,Bool.false_or]
   rcases ih with ⟨h1,x,h2,h3,h4⟩ | ⟨h1,h2⟩
   ·exact .inl ⟨h1,x,List.mem_cons_of_mem _ h2,h3,h4⟩
   ·exact .inr ⟨h1,h2⟩
theorem jbR {α:Type} (f:α->List A) (hf:∀ x,wQ (f x)=true) (l:List α):wQ (l.flatMap f)=true:=by
 rw[noMpL_iff];intro a ha
 obtain⟨x,_,hx⟩ := List.mem_flatMap.1 ha
 exact noMpL_iff.1 (hf x) a hx
theorem jkA (nm:List ByteArray) (ts:List Tk):wQ (dE nm ts)=true:=by
 have h1:wQ (yH ts)=true:=jbR pY (fun _=>rfl) ts
 have h2:wQ (x8 nm)=true:=by
  unfold x8;rw[jeH];exact jbR (fun x=>[j0 x]) (fun _=>rfl) nm
 refine noMpL_iff.2 fun a ha => ?_
 rcases List.mem_cons.1 ha with rfl | ha
 ·exact h1
 ·rw[List.mem_singleton.1 ha];exact h2
theorem jix (nm:List ByteArray) (hs:List (Int × Nt)) (ts:List Tk) (h:TkP ts) :
  SpecP Tryz.prog 43 [dE nm ts] [.box 0 0,.mp (mkV (mZ hs)) (mvA (mZ hs))] (hoQ nm (heF hs ts)) (phQ (heF hs ts)):=by
 obtain⟨P,hP⟩ : ∃ P,heF hs ts=P:=⟨_,rfl⟩
 rw[hP]
 have hpos:=h.pos
 have his:=fun s=>v7 nm ts hpos s
 have hnx:=wD nm ts hpos
 have hfl:=fun e=>vG nm ts hpos e
 have hps:=fun s (hs:qS s ts=true)=>h.is hs
 unfold heF hnF at hP;refine xV (wB jH jY 1 (fun ch _=>(phQ P) ch)) (fun _ _ h=>h) Tryz.func43 rfl (by kernel_rfl) rfl (by kernel_rfl) ?_;intro _;conv=>whnf
 refine qT 0 [] (his wStart) ?_;rintro o r ⟨ho,rfl⟩;cases ho;conv=>whnf
 cases hq1:qS wStart ts with
 | true =>
  rw[if_pos hq1] at hP
  simp only at hP
  obtain⟨q1,q2⟩ := hps _ hq1
  conv=>whnf
  refine qT 0 [] hnx ?_;rintro o r ⟨ho,rfl⟩;cases ho;conv=>whnf
  refine xQ _ _ ?_
  rcases fF haD (fun _=>rfl) hs (0) with ⟨hany,hx,hm,hek,hf⟩ | ⟨hany,hf⟩
  ·rw[show yD (mZ hs) _=_ from hf];rw[if_pos hany] at hP;conv=>whnf
   refine kK 0 [] (hfl 4) (fun ch bx' hp=>cG hP.symm hp) ?_;rintro o r ⟨⟩
  ·rw[show yD (mZ hs) _=_ from hf];rw[if_neg (by rw[hany];simp)] at hP;subst hP;conv=>whnf
   exact⟨rfl,rfl⟩
 | false =>
  rw[if_neg (by rw[hq1];simp)] at hP;conv=>whnf
  refine qT 0 [] (his wRequest) ?_;rintro o r ⟨ho,rfl⟩;cases ho;conv=>whnf
  cases hq2:qS wRequest ts with
  | true =>
   rw[if_pos hq2] at hP
   simp only at hP
   obtain⟨q1,q2⟩ := hps _ hq2
   conv=>whnf
   refine qT 0 [] hnx ?_;rintro o r ⟨ho,rfl⟩;cases ho;conv=>whnf
   refine xQ _ _ ?_
   rcases fF haD (fun _=>rfl) hs (1) with ⟨hany,hx,hm,hek,hf⟩ | ⟨hany,hf⟩
   ·rw[show yD (mZ hs) _=_ from hf];rw[if_pos hany] at hP;conv=>whnf
    refine kK 0 [] (hfl 4) (fun ch bx' hp=>cG hP.symm hp) ?_;rintro o r ⟨⟩
   ·rw[show yD (mZ hs) _=_ from hf];rw[if_neg (by rw[hany];simp)] at hP;subst hP;conv=>whnf
    exact⟨rfl,rfl⟩
  | false =>
   rw[if_neg (by rw[hq2];simp)] at hP;conv=>whnf
   refine qT 0 [] (his wTimer) ?_;rintro o r ⟨ho,rfl⟩;cases ho;conv=>whnf
   cases hq:qS wTimer ts with
   | true =>
    rw[if_pos hq] at hP
    obtain⟨q1,q2⟩ := hps _ hq
    have hnu:=fQ nm ts.tail q1.pos 8
    have hnp:=q1.good
    generalize ts.tail=ts1 at *;conv=>whnf
    refine qT 0 [] hnx ?_;rintro o r ⟨ho,rfl⟩;cases ho;conv=>whnf
    refine kK 0 [] hnu (fun ch bx' hp => ?_) ?_
    ·unfold oH at hP
     rcases hp with ⟨h1,h2⟩ | ⟨h1,h2,h3⟩
     ·rw[if_pos h1] at hP;exact cG hP.symm h2
     ·rw[if_neg (by rw[h1];simp),if_pos h2] at hP;exact cG hP.symm h3
    rintro o r ⟨⟨h1,h2⟩,ho,rfl⟩;cases ho;unfold oH at hP;rw[if_neg (by rw[h1];simp),if_neg (by omega)] at hP
    simp only at hP
    have hn0:0<=(hd ts1).n:=hnp.2.2.2.1
    generalize hd ts1=t1 at *;conv=>whnf
    refine⟨jS (by omega),?_⟩;conv=>whnf
    refine xQ _ _ ?_
    rcases fF haD (fun _=>rfl) hs (2+t1.n) with ⟨hany,hx,hm,hek,hf⟩ | ⟨hany,hf⟩
    ·rw[show yD (mZ hs) _=_ from hf];rw[if_pos hany] at hP;conv=>whnf
     refine kK 0 [] (hfl 4) (fun ch bx' hp=>cG hP.symm hp) ?_;rintro o r ⟨⟩
    ·rw[show yD (mZ hs) _=_ from hf];rw[if_neg (by rw[hany];simp)] at hP;subst hP;conv=>whnf
     exact⟨rfl,rfl⟩
   | false =>
    rw[if_neg (by rw[hq];simp)] at hP;clear hq;conv=>whnf
    refine qT 0 [] (his wMessage) ?_;rintro o r ⟨ho,rfl⟩;cases ho;conv=>whnf
    cases hq:qS wMessage ts with
    | true =>
     rw[if_pos hq] at hP
     obtain⟨q1,q2⟩ := hps _ hq
     have hnu:=fQ nm ts.tail q1.pos 30
     have hnp:=q1.good
     generalize ts.tail=ts1 at *;conv=>whnf
     refine qT 0 [] hnx ?_;rintro o r ⟨ho,rfl⟩;cases ho;conv=>whnf
     refine kK 0 [] hnu (fun ch bx' hp => ?_) ?_
     ·unfold oH at hP
      rcases hp with ⟨h1,h2⟩ | ⟨h1,h2,h3⟩
      ·rw[if_pos h1] at hP;exact cG hP.symm h2
      ·rw[if_neg (by rw[h1];simp),if_pos h2] at hP;exact cG hP.symm h3
     rintro o r ⟨⟨h1,h2⟩,ho,rfl⟩;cases ho;unfold oH at hP;rw[if_neg (by rw[h1];simp),if_neg (by omega)] at hP
     simp only at hP
     have hn0:0<=(hd ts1).n:=hnp.2.2.2.1
     generalize hd ts1=t1 at *;conv=>whnf
     refine⟨jS (by omega),?_⟩;conv=>whnf
     refine xQ _ _ ?_
     rcases fF haD (fun _=>rfl) hs (10+t1.n) with ⟨hany,hx,hm,hek,hf⟩ | ⟨hany,hf⟩
     ·rw[show yD (mZ hs) _=_ from hf];rw[if_pos hany] at hP;conv=>whnf
      refine kK 0 [] (hfl 4) (fun ch bx' hp=>cG hP.symm hp) ?_;rintro o r ⟨⟩
     ·rw[show yD (mZ hs) _=_ from hf];rw[if_neg (by rw[hany];simp)] at hP;subst hP;conv=>whnf
      exact⟨rfl,rfl⟩
    | false =>
     rw[if_neg (by rw[hq];simp)] at hP;conv=>whnf
     refine kK 0 [] (hfl 10) (fun ch bx' hp=>cG hP.symm hp) ?_;rintro o r ⟨⟩
end Go.Proofs.YtgifglkkmhapiaaGreatDoor.Vm
namespace Go.Proofs.YtgifglkkmhapiaaGreatDoor.Vm
open Go.RowKit
section
section
variable {C D:Rd} {y:Value} {k n:Nat} {cs:List A}
end
theorem jpk {w:World} {base e k n:Nat} {y:Value} {xs:List Value} {cs:List A} {D:Rd} (h:w.ownsRow base e k y n xs) (hr:A.repC cs ⟨D,[],[]⟩ xs) (hD:∀ b,y.ownBlock=some b -> ∀ o u,w.cell? ⟨b,o,none⟩ = some u->D ⟨b,o,none⟩ = some u):(A.sl k n cs).rep ⟨D,[],[]⟩ y:=by
 have hlen:cs.length=n*k:=by rw[<- A.repC_len hr,h.1]
 rcases h.2 with ⟨rfl,rfl⟩ | ⟨b,cap,cur,rfl,hb,hbb,hn,hcm,hcs,htake⟩
 ·unfold A.rep
  have hcs:cs=[]:=List.eq_nil_of_length_eq_zero (by simpa using hlen)
  subst hcs;exact⟨by simp,by simp,none,0,0,0,rfl,Nat.le_refl _,.inl rfl,fun _=>rfl,by simp[A.repAt]⟩
 ·unfold A.rep;refine⟨hlen,Nat.le_trans hn hcm,_,b,0,cap,rfl,hn,.inr rfl,by simp,?_⟩;refine A.repAt_mk (E:=⟨D,[],[]⟩) hr (fun j' u hu => ?_)
  have:=h.cells (g:=b) rfl j' u hu
  rw[jcv] at this;exact hD b rfl _ u this
end
end Go.Proofs.YtgifglkkmhapiaaGreatDoor.Vm
namespace Go.Proofs.YtgifglkkmhapiaaGreatDoor.Vm
open Go.RowKit Go.Shelf Go.Maps Go.Sort
def nN:Go.Shelf.Ren:=⟨fun | 7=>46 | 10=>74 | n=>n,fun | 3=>46 | 23=>99 | 26=>3 | 27=>103 | 28=>104 | 33=>128 | n=>n,fun | n=>n⟩
theorem d5:SlLaysZI.n7 Tryz.prog nN where
 mixed:=by kernel_rfl
 f7:=⟨ "maps.Keys[map[int]simproof/api.Handler,int,simproof/api.Handler]",of_decide_eq_true (by kernel_rfl),Tryz.func46.trans (congrArg some (by kernel_rfl))⟩
 f10:=⟨ "maps.Keys[map[int]simproof/api.Handler,int,simproof/api.Handler]$1",of_decide_eq_true (by kernel_rfl),Tryz.func74.trans (congrArg some (by kernel_rfl))⟩
 t0:=Tryz.underlying0
 a0:=Tryz.isAgg0
 z0:=Tryz.sizeOf0
 v0:=Tryz.zeroValue0
 t4:=Tryz.underlying4
 a4:=Tryz.isAgg4
 z4:=Tryz.sizeOf4
 v4:=Tryz.zeroValue4
 t23:=Tryz.underlying99
 a23:=Tryz.isAgg99
 z23:=Tryz.sizeOf99
 v23:=Tryz.zeroValue99
 t26:=Tryz.underlying3
 a26:=Tryz.isAgg3
 z26:=Tryz.sizeOf3
 v26:=Tryz.zeroValue3
 t27:=Tryz.underlying103
 a27:=Tryz.isAgg103
 z27:=Tryz.sizeOf103
 v27:=Tryz.zeroValue103
 t28:=Tryz.underlying104
 a28:=Tryz.isAgg104
 z28:=Tryz.sizeOf104
 v28:=Tryz.zeroValue104
 t33:=Tryz.underlying128
 a33:=Tryz.isAgg128
 z33:=Tryz.sizeOf128
 v33:=Tryz.zeroValue128

def nM:Go.Shelf.Ren:=⟨fun | 6=>45 | 8=>72 | 9=>73 | 11=>89 | 12=>90 | 13=>91 | 14=>116 | 15=>117 | 16=>118 | 17=>119 | 18=>120 | 19=>121 | 20=>122 | 21=>123 | 22=>124 | 23=>125 | 24=>93 | 25=>133 | 26=>134 | 27=>135 | 28=>136 | 29=>137 | 30=>138 | 31=>146 | n=>n,fun | 24=>22 | 26=>3 | 28=>104 | 33=>128 | 37=>148 | 39=>162 | 40=>163 | 45=>168 | 48=>151 | 50=>119 | 51=>176 | 55=>180 | 57=>190 | 58=>191 | n=>n,fun | n=>n⟩
theorem uT:SlLaysZI.n6 Tryz.prog nM where
 mixed:=by kernel_rfl
 f6:=⟨ "slices.Sorted[int]",of_decide_eq_true (by kernel_rfl),Tryz.func45.trans (congrArg some (by kernel_rfl))⟩
 f8:=⟨ "slices.Collect[int]",of_decide_eq_true (by kernel_rfl),Tryz.func72.trans (congrArg some (by kernel_rfl))⟩
 f11:=⟨ "slices.AppendSeq[[]int,int]",of_decide_eq_true (by kernel_rfl),Tryz.func89.trans (congrArg some (by kernel_rfl))⟩
 t0:=Tryz.underlying0
 a0:=Tryz.isAgg0
 z0:=Tryz.sizeOf0
 v0:=Tryz.zeroValue0
 t24:=Tryz.underlying22
 a24:=Tryz.isAgg22
 z24:=Tryz.sizeOf22
 v24:=Tryz.zeroValue22
 t26:=Tryz.underlying3
 a26:=Tryz.isAgg3
 z26:=Tryz.sizeOf3
 v26:=Tryz.zeroValue3
 t28:=Tryz.underlying104
 a28:=Tryz.isAgg104
 z28:=Tryz.sizeOf104
 v28:=Tryz.zeroValue104
 i26:=by kernel_rfl

def oB:Go.Shelf.Ren:=⟨fun | 5=>73 | 7=>90 | 8=>91 | 10=>116 | 11=>117 | 12=>118 | 13=>119 | 14=>120 | 15=>121 | 16=>122 | 17=>123 | 18=>124 | 19=>125 | 20=>93 | 30=>133 | 31=>134 | 32=>135 | 33=>136 | 34=>137 | 35=>138 | 40=>146 | n=>n,fun | 23=>22 | 25=>3 | 32=>148 | 35=>162 | 36=>163 | 41=>168 | 44=>151 | 46=>119 | 53=>176 | 57=>180 | 63=>190 | 64=>191 | n=>n,fun | n=>n⟩
theorem iI:SlLaysM.n5 Tryz.prog oB where
 mixed:=by kernel_rfl
 f5:=⟨ "slices.Sort[[]int,int]",of_decide_eq_true (by kernel_rfl),Tryz.func73.trans (congrArg some (by kernel_rfl))⟩
 f7:=⟨ "slices.pdqsortOrdered[int]",of_decide_eq_true (by kernel_rfl),Tryz.func90.trans (congrArg some (by kernel_rfl))⟩
 f8:=Tryz.func91.trans (congrArg some (by kernel_rfl))
 f10:=⟨ "slices.insertionSortOrdered[int]",of_decide_eq_true (by kernel_rfl),Tryz.func116.trans (congrArg some (by kernel_rfl))⟩
 f11:=⟨ "slices.heapSortOrdered[int]",of_decide_eq_true (by kernel_rfl),Tryz.func117.trans (congrArg some (by kernel_rfl))⟩
 f12:=⟨ "slices.breakPatternsOrdered[int]",of_decide_eq_true (by kernel_rfl),Tryz.func118.trans (congrArg some (by kernel_rfl))⟩
 f13:=⟨ "slices.choosePivotOrdered[int]",of_decide_eq_true (by kernel_rfl),Tryz.func119.trans (congrArg some (by kernel_rfl))⟩
 f14:=⟨ "slices.reverseRangeOrdered[int]",of_decide_eq_true (by kernel_rfl),Tryz.func120.trans (congrArg some (by kernel_rfl))⟩
 f15:=⟨ "slices.partialInsertionSortOrdered[int]",of_decide_eq_true (by kernel_rfl),Tryz.func121.trans (congrArg some (by kernel_rfl))⟩
 f16:=⟨ "cmp.Less[int]",of_decide_eq_true (by kernel_rfl),Tryz.func122.trans (congrArg some (by kernel_rfl))⟩
 f17:=⟨ "slices.partitionEqualOrdered[int]",of_decide_eq_true (by kernel_rfl),Tryz.func123.trans (congrArg some (by kernel_rfl))⟩
 f18:=⟨ "slices.partitionOrdered[int]",of_decide_eq_true (by kernel_rfl),Tryz.func124.trans (congrArg some (by kernel_rfl))⟩
 f19:=Tryz.func125.trans (congrArg some (by kernel_rfl))
 f20:=Tryz.func93.trans (congrArg some (by kernel_rfl))
 f30:=⟨ "slices.siftDownOrdered[int]",of_decide_eq_true (by kernel_rfl),Tryz.func133.trans (congrArg some (by kernel_rfl))⟩
 f31:=Tryz.func134.trans (congrArg some (by kernel_rfl))
 f32:=Tryz.func135.trans (congrArg some (by kernel_rfl))
 f33:=⟨ "slices.medianAdjacentOrdered[int]",of_decide_eq_true (by kernel_rfl),Tryz.func136.trans (congrArg some (by kernel_rfl))⟩
 f34:=⟨ "slices.medianOrdered[int]",of_decide_eq_true (by kernel_rfl),Tryz.func137.trans (congrArg some (by kernel_rfl))⟩
 f35:=⟨ "cmp.isNaN[int]",of_decide_eq_true (by kernel_rfl),Tryz.func138.trans (congrArg some (by kernel_rfl))⟩
 f40:=⟨ "slices.order2Ordered[int]",of_decide_eq_true (by kernel_rfl),Tryz.func146.trans (congrArg some (by kernel_rfl))⟩
 t0:=Tryz.underlying0
 a0:=Tryz.isAgg0
 z0:=Tryz.sizeOf0
 v0:=Tryz.zeroValue0
 t3:=Tryz.underlying3
 a3:=Tryz.isAgg3
 z3:=Tryz.sizeOf3
 v3:=Tryz.zeroValue3
 t4:=Tryz.underlying4
 a4:=Tryz.isAgg4
 z4:=Tryz.sizeOf4
 v4:=Tryz.zeroValue4
 t5:=Tryz.underlying5
 a5:=Tryz.isAgg5
 z5:=Tryz.sizeOf5
 v5:=Tryz.zeroValue5
 t9:=Tryz.underlying9
 a9:=Tryz.isAgg9
 z9:=Tryz.sizeOf9
 v9:=Tryz.zeroValue9
 t22:=Tryz.underlying22
 a22:=Tryz.isAgg22
 z22:=Tryz.sizeOf22
 v22:=Tryz.zeroValue22
 t23:=Tryz.underlying22
 a23:=Tryz.isAgg22
 z23:=Tryz.sizeOf22
 v23:=Tryz.zeroValue22
 t25:=Tryz.underlying3
 a25:=Tryz.isAgg3
 z25:=Tryz.sizeOf3
 v25:=Tryz.zeroValue3
 t32:=Tryz.underlying148
 a32:=Tryz.isAgg148
 z32:=Tryz.sizeOf148
 v32:=Tryz.zeroValue148
 t35:=Tryz.underlying162
 a35:=Tryz.isAgg162
 z35:=Tryz.sizeOf162
 v35:=Tryz.zeroValue162
 t36:=Tryz.underlying163
 a36:=Tryz.isAgg163
 z36:=Tryz.sizeOf163
 v36:=Tryz.zeroValue163
 t41:=Tryz.underlying168
 a41:=Tryz.isAgg168
 z41:=Tryz.sizeOf168
 v41:=Tryz.zeroValue168
 t44:=Tryz.underlying151
 a44:=Tryz.isAgg151
 z44:=Tryz.sizeOf151
 v44:=Tryz.zeroValue151
 t46:=Tryz.underlying119
 a46:=Tryz.isAgg119
 z46:=Tryz.sizeOf119
 v46:=Tryz.zeroValue119
 t53:=Tryz.underlying176
 a53:=Tryz.isAgg176
 z53:=Tryz.sizeOf176
 v53:=Tryz.zeroValue176
 t57:=Tryz.underlying180
 a57:=Tryz.isAgg180
 z57:=Tryz.sizeOf180
 v57:=Tryz.zeroValue180
 t63:=Tryz.underlying190
 a63:=Tryz.isAgg190
 z63:=Tryz.sizeOf190
 v63:=Tryz.zeroValue190
 t64:=Tryz.underlying191
 a64:=Tryz.isAgg191
 z64:=Tryz.sizeOf191
 v64:=Tryz.zeroValue191

def jhD:Nat:=74
theorem jga (ks:List Value) (vs:List A):jjr Tryz.prog 46 [.mp ks vs] fun e k n cs r=>e=99/\k=1/\n=1/\cs=[.mp ks vs]/\r = .clo jhD [.orow 0 0]:=by
 refine⟨vN Tryz.func46 rfl (by kernel_rfl),fun w C vals h0 h1 h2 => ?_⟩;unfold A.repL at h2
 obtain⟨u,us,rfl,h3,h4⟩ := h2
 unfold A.repL at h4;subst h4
 have h3':=h3
 unfold A.rep at h3
 obtain⟨r,us,rfl,hC,hlen,hvs,hok⟩ := h3
 refine ((callsIn_wide (n:=6)).1 (AnyZI.keys_in d5 Fence.wide 6 trivial rfl (some r) w)).mono ?_;rintro e w' ⟨rfl,rfl⟩
 have hB:Ext w (w.alloc (.cells #[.map (some r)] 99)):=(Below.refl _ w).alloc (Nat.le_refl _) _
 have kp:=Keeps.of_ext hB
 refine⟨_,_,_,_,_,_,.slice (some ⟨w.heap.size,0,none⟩) 1 1,[.map (some r)],C,rfl,⟨rfl,rfl,rfl,rfl,rfl⟩,kp,Sub.refl _,fun ad u hc => ?_,fun ad u hc => .inl hc,fun b hb => ?_,.inl ⟨by decide,?_⟩,?_,?_⟩
 ·refine kp.cell (h1 ad u hc) (fun hm=>by simp at hm)
 ·obtain rfl:w.heap.size=b:=by simpa [blk] using hb
  refine⟨fun o sp => ?_,Nat.le_refl _⟩
  cases hc:C ⟨w.heap.size,o,sp⟩ with
  | none=>rfl
  | some u =>
   have:=qB w _ (h1 _ _ hc)
   simp at this
 ·refine⟨rfl,.inr ⟨w.heap.size,1,#[.map (some r)],rfl,Nat.zero_le _,World.alloc_heap_new w _,Nat.le_refl _,by unfold maxLen;omega,rfl,rfl⟩⟩
 ·unfold A.repC;exact⟨_,[],rfl,rfl,h3',by unfold A.repC;rfl⟩
 ·unfold A.rep;refine⟨#[.pointer (some ⟨w.heap.size,0,none⟩)],rfl,?_⟩;unfold A.repL;refine⟨_,[],rfl,?_,by unfold A.repL;rfl⟩;unfold A.rep;exact⟨w.heap.size,1,1,rfl,rfl⟩
theorem jpU (m:Nat):AnyZI.SortsIn Tryz.prog nM Fence.wide m :=
 ⟨fun blk off cap ss W hH hblk hsz=>callsIn_wide.2 (AnyM.slices_Sort_int iI blk off cap ss W hH hblk hsz),
 fun p cap W=>callsIn_wide.2 (AnyM.slices_Sort_int_none iI p cap W)⟩
theorem jiT {w:World} {r c:Nat} {es:Array MapEntry} {l:List (Int × A)} (hr:w.heap[r]? = some (.map es c)) (hst:cU es c) (hk:es.toList.map (·.key)=mkV l) (hok:∀ k ∈ mkV l,dG k) (hnd:(l.map (·.1)).Nodup) (hn:l.length<=1000000) :
  ∃ D0:DataW Unit,w.ownsMap Tryz.prog 3 (fun _=>some (.nil,[])) r l.length D0/\(intKeys D0).Perm (l.map (·.1))/\Maps.size D0=l.length:=by
 have hu:Tryz.prog.underlying 3=some (.int .i64):=by kernel_rfl
 have hlen:es.size=l.length:=by
  have:=congrArg List.length hk
  unfold mkV at this
  simpa using this
 have hkey:∀ x ∈ es.toList,∃ a:Int,x.key = .int .i64 a/\(Lit.int .i64 a).wf=true:=fun x hx=>by
  have h1:x.key ∈ mkV l:=by rw[<- hk];exact List.mem_map.2 ⟨x,hx,rfl⟩
  have h2:=hok _ h1
  unfold mkV at h1
  obtain⟨p,_,hp⟩ := List.mem_map.1 h1
  rw[<- hp] at h2;refine⟨p.1,hp.symm,?_⟩
  have:=okV_int.1 h2
  simp[Lit.wf]
  exact this
 have hrd:∀ x ∈ es.toList,∀ a:Int,x.key = .int .i64 a->(Lit.int .i64 a).wf=true->WideElems.rd Tryz.prog 3 (fun _=>some ((DataW.nil:DataW Unit),([]:List MemPlace))) x=some (.int .i64 a,.nil):=fun x hx a h1 h2=>by
  unfold WideElems.rd;rw[h1,keyOf_int_mk hu h2];rfl
 have hrg:es.toList.map (fun x=>Go.intOf (WideElems.rg Tryz.prog 3 (fun _=>some ((DataW.nil:DataW Unit),([]:List MemPlace))) x).1)=l.map (·.1):=by
  have h1:es.toList.map (fun x=>Go.intOf (WideElems.rg Tryz.prog 3 (fun _=>some ((DataW.nil:DataW Unit),([]:List MemPlace))) x).1)=(es.toList.map (·.key)).map fun v=>match v with | .int _ a=>a | _=>0:=by
   rw[List.map_map]
   refine List.map_congr_left fun x hx => ?_
   obtain⟨a,e1,e2⟩ := hkey x hx
   rw[WideElems.rg_of (hrd x hx a e1 e2)]
   simp[Go.intOf,e1]
  rw[h1,hk];unfold mkV;rw[List.map_map]
  exact List.map_congr_left fun p hp=>rfl
 have hfit:WideElems.Fit Tryz.prog 3 (fun _=>some ((DataW.nil:DataW Unit),([]:List MemPlace))) es c:=by
  refine⟨by rw[hlen];unfold maxLen;omega,⟨?_,?_,?_⟩,fun x hx => ?_⟩
  ·intro x hx
   obtain⟨i,hi,e⟩ := List.mem_iff_getElem.1 hx
   have hi':i<es.size:=by simpa using hi
   have h2:=hst.2 i es[i] (Array.getElem?_eq_getElem hi')
   have e':es[i]=x:=by rw[<- e];simp
   rw[<- e',h2,hst.1];exact hi'
  ·have h2:es.toList.map (·.born)=List.range es.size:=by
    apply List.ext_getElem?
    intro i;rw[List.getElem?_map,Array.getElem?_toList]
    by_cases hi:i<es.size
    ·rw[Array.getElem?_eq_getElem hi,List.getElem?_range hi];simp only[Option.map_some];rw[hst.2 i es[i] (Array.getElem?_eq_getElem hi)]
    ·rw[Array.getElem?_eq_none (by omega),List.getElem?_eq_none (by simp;omega)];rfl
   rw[h2];exact List.nodup_range
  ·rw[hk];unfold mkV
   have:(l.map fun p:Int × A=>Value.int .i64 p.1)=(l.map (·.1)).map (Value.int .i64):=by rw[List.map_map];rfl
   rw[this];exact List.pairwise_map.2 (hnd.imp fun h e=>h (by cases e;rfl))
  ·obtain⟨a,e1,e2⟩ := hkey x hx
   exact⟨_,hrd x hx a e1 e2⟩
 refine⟨_,⟨es,c,hr,hfit,by omega,rfl⟩,?_,?_⟩
 ·show (List.map (fun p:Lit × DataW Unit=>Go.intOf p.1) _).Perm _
  refine ((WideShapes.sorted_perm _).map _).trans ?_;rw[List.map_map];exact List.Perm.of_eq hrg
 ·show (List.foldr DataW.insert [] _).length=_
  rw[(WideShapes.sorted_perm _).length_eq,List.length_map,Array.length_toList,hlen]
theorem joM {P:Program} {pan:List PanicEntry->S->Prop} {Xr:Nat->Bool} {f:Nat} {args args':List A} {s:S} {K:A->S->Prop} {post:List (List A)->Nat->List A->A->Prop} (g m:Nat) (ids:List Nat) (hm:s.rw.length=m) {e k n:Nat} {cs:List A} (hf:Xr 1000000007=true) (hg:(jC s.rw ids)[g]? = some (.live e k n cs)) (h2:z8 [] g (jC s.rw ids) args=some args') (hs:nA args'->mG P f [] e k n cs args' post)
  (hk:∀ n' cs' r,post [] n' cs' r->eC [] m s.bx [] [] fun bx' => zO (backG [] m r) fun r' => j7 ((jC s.rw ids).set g .gone++[.live e k n' cs']) fun rw' => kZ s bx' rw' (K r')):kV P pan Xr f args s K:=by
 subst hm;unfold kV
 right;right;right;right;left
 refine⟨hf,[],ids,g,e,k,n,cs,[],args',post,fun _=>False,by simp,by simp,by simp,hg,rfl,h2,hs,fun outs n' cs' r hp hl => ?_,fun ch bx' h=>h.elim⟩
 obtain rfl:outs=[]:=List.eq_nil_of_length_eq_zero (by simpa using hl)
 exact hk n' cs' r hp
theorem jdt (l:List (Int × A)) (hnd:(l.map (·.1)).Nodup) (hn:l.length<=1000000):mG Tryz.prog 45 [] 99 1 1 [.mp (mkV l) (mvA l)] [.clo jhD [.orow 0 0]] fun o n' cs' r=>r = .sl 1 l.length (((l.map (·.1)).mergeSort leI).map jJ):=by
 refine⟨vN Tryz.func45 rfl (by kernel_rfl),fun w C β vals y xs h0 h1 h2 h3 h4 h5 h6 h7 h8 h9 => ?_⟩
 obtain rfl:β=[]:=List.eq_nil_of_length_eq_zero (by simpa using h4.symm)
 unfold A.repL at h9
 obtain⟨v,vs',rfl,hv,h9⟩ := h9
 unfold A.repL at h9;subst h9;unfold A.rep at hv
 obtain⟨us,rfl,hus⟩ := hv
 unfold A.repL at hus
 obtain⟨p,us',hus,hp,h9⟩ := hus
 unfold A.repL at h9;subst h9
 obtain rfl:us = #[p]:=by apply Array.toList_inj.1;simpa using hus
 unfold A.rep at hp
 obtain⟨b,n1,cap1,hy,rfl⟩ := hp
 obtain rfl:y = .slice (some ⟨b,0,none⟩) n1 cap1:=by simpa using hy
 have hrow:=h6.row (by decide)
 unfold A.repC at h7
 obtain⟨u,us',rfl,-,hu,h7⟩ := h7
 unfold A.repC at h7;subst h7;unfold A.rep at hu
 obtain⟨r,us,rfl,hC,hlen,hvs,hok⟩ := hu
 obtain⟨es,c,hr,hk1,hk2,hst⟩ := sR (h1 _ _ hC)
 obtain⟨D0,hown,hperm,hsize⟩ := jiT hr hst hk1 hok hnd hn
 have hcell:w.cell? ⟨b,0,none⟩ = some (.map (some r)):=by
  rcases hrow.2 with ⟨h,_⟩ | ⟨g,cap,cur,h,_,hb,_,_,_,htake⟩
  ·cases h
  ·cases h
   have h0:cur[0]? = some (.map (some r)):=by
    have:=congrArg (·[0]?) htake
    simpa using this
   simp[World.cell?,hb,h0]
 have hbl:b<w.heap.size:=h6.lt rfl
 have hseq:SeqGives Fence.wide 2 Tryz.prog jhD #[.pointer (some ⟨b,0,none⟩)] encZ (fun ss=>ss.Perm (intKeys D0)) (Maps.size D0) w :=
  AnyZI.keys_gives (ρ:=nN) { d5 with } Fence.wide _ trivial rfl (by omega) b r l.length D0 w hbl hcell hown
 have cS:=AnyZI.sorted_in uT Fence.wide 5 trivial trivial trivial trivial rfl (by omega) (jpU _) (enters_of Tryz.func73 (by kernel_rfl) rfl) jhD #[.pointer (some ⟨b,0,none⟩)] trivial (enters_of Tryz.func74 (by kernel_rfl) rfl) _ _ (by rw[hsize];unfold maxLen;omega) (by rw[hsize];omega) _ hseq
 refine (callsIn_wide.1 cS).mono ?_;rintro e w' ⟨v,ss,rfl,hS,hrw,hnil,hB⟩
 have hB:Ext w w':=hB
 have kp:=Keeps.of_ext hB
 have hpm:ss.mergeSort (fun x y=>decide (x<=y))=(l.map (·.1)).mergeSort leI:=mergeSort_of_perm_i (hS.trans hperm)
 have hlen2:ss.length=l.length:=by rw[(hS.trans hperm).length_eq,List.length_map]
 rw[hpm,hlen2] at hrw;refine .inl ⟨[],1,[.mp (mkV l) (mvA l)],_,v,_,[.map (some r)],qU C w w',rfl,rfl,⟨kp.os,kp.tape,kp.output,kp.size,fun q hq hn=>kp.block q hq (by simp)⟩,xW h1,bO h1 h3 kp,fun ad u hc => ?_,rfl,fun i b cs hb=>by simp at hb,h6.same fun q hq=>kp.block q (h6.lt hq) (by simp),?_,fun q hq=>⟨fun o sp => ?_,.inr hq⟩,?_⟩
 ·unfold qU at hc
  split at hc
  ·exact .inl hc
  ·exact .inr (.inl (by omega))
 ·unfold A.repC;refine⟨_,[],rfl,rfl,?_,by unfold A.repC;rfl⟩;unfold A.rep;exact⟨r,us,rfl,xW h1 _ _ hC,hlen,A.repL.mono _ (show (⟨C,[],[]⟩ : Env).per.le (⟨qU C w w',[],[]⟩ : Env).per from ⟨xW h1,fun _ _ h=>h,fun _ _ h=>h⟩) hvs,hok⟩
 ·unfold qU;rw[if_pos (show (⟨q,o,sp⟩ : Addr).block<w.heap.size from h6.lt hq)];exact (h8 q hq).2 o sp
 ·refine A.rep.mono _ (jhn (qU C w w') [] _) (jpk hrw (D:=qU C w w') ?_ fun b' hb o u hc => ?_)
  ·refine A.repC_mk ?_ (fun u hu => ?_)
   ·have:=A.repL_map (E:=⟨qU C w w',[],[]⟩) ((l.map (·.1)).mergeSort leI) jJ encZ (fun x hx => ?_)
    ·exact this
    ·refine A.rep_v (okV_int.2 ?_)
     have hx':x ∈ l.map (·.1):=(List.mergeSort_perm _ _).mem_iff.1 hx
     obtain⟨p,hp,rfl⟩ := List.mem_map.1 hx'
     exact okV_int.1 (hok _ (by unfold mkV;exact List.mem_map.2 ⟨p,hp,rfl⟩))
   ·obtain⟨x,_,rfl⟩ := List.mem_map.1 hu
    rfl
  ·unfold qU
   have:=(hrw.lt b' hb).1
   rw[if_neg (by simp only;omega)];exact jao hc
theorem pE (h:Int × Nt):∀ l:List (Int × Nt),(uN h l).Perm (h :: l)
 | []=>List.Perm.refl _
 | x :: l=>by
  unfold uN
  split
  ·exact List.Perm.refl _
  ·exact ((pE h l).cons x).trans (List.Perm.swap h x l)
theorem lX:∀ l:List (Int × Nt),(xT l).Perm l
 | []=>List.Perm.refl _
 | h :: l=>(pE h (xT l)).trans ((lX l).cons h)
theorem rM (h:Int × Nt):∀ l:List (Int × Nt),l.Pairwise (fun a b=>a.1<=b.1)->(uN h l).Pairwise fun a b=>a.1<=b.1
 | [],_=>by unfold uN;simp
 | x :: l,hp=>by
  obtain⟨h1,h2⟩ := List.pairwise_cons.1 hp
  unfold uN
  split
  ·rename_i hx
   refine List.pairwise_cons.2 ⟨fun b hb => ?_,hp⟩
   rcases List.mem_cons.1 hb with rfl | hb
   ·exact hx
   ·exact Int.le_trans hx (h1 b hb)
  ·rename_i hx
   refine List.pairwise_cons.2 ⟨fun b hb => ?_,rM h l h2⟩
   rcases List.mem_cons.1 ((pE h l).mem_iff.1 hb) with rfl | hb
   ·omega
   ·exact h1 b hb
theorem oM:∀ l:List (Int × Nt),(xT l).Pairwise fun a b=>a.1<=b.1
 | []=>List.Pairwise.nil
 | h :: l=>rM h _ (oM l)
theorem jgS (l:List (Int × Nt)):((x5 l).map (·.1)).mergeSort leI=(xT l).map (·.1):=by
 have e:(x5 l).map (·.1)=l.map (·.1):=by unfold x5;rw[List.map_map];rfl
 rw[e]
 have tr:∀ a b c:Int,leI a b=true->leI b c=true->leI a c=true:=fun a b c h1 h2=>by simp only[leI,decide_eq_true_eq] at *;exact Int.le_trans h1 h2
 have to:∀ a b:Int,(leI a b || leI b a)=true:=fun a b=>by simp only[leI,Bool.or_eq_true,decide_eq_true_eq];exact Int.le_total a b
 refine List.Perm.eq_of_pairwise (le:=fun a b=>leI a b=true) (fun a b _ _ h1 h2 => ?_) (List.pairwise_mergeSort tr to _) ?_ ((List.mergeSort_perm _ leI).trans ((lX l).map _).symm)
 ·simp only[leI,decide_eq_true_eq] at h1 h2;exact Int.le_antisymm h1 h2
 ·exact List.pairwise_map.2 ((oM l).imp fun h=>by simpa [leI] using h)
theorem jgj (l:List (Int × Nt)):((x5 l).map (·.1)).Nodup ↔ (l.map (·.1)).Nodup:=by
 have e:(x5 l).map (·.1)=l.map (·.1):=by unfold x5;rw[List.map_map];rfl
 rw[e]
theorem jk6 {l:List (Int × Nt)} (hnd:(l.map (·.1)).Nodup) {h:Int × Nt} (hm:h ∈ l):yD (x5 l) h.1=some (haA h).2:=by
 induction l with
 | nil=>simp at hm
 | cons x l ih =>
  rw[List.map_cons,List.nodup_cons] at hnd;unfold yD x5;rw[List.map_cons]
  rcases List.mem_cons.1 hm with rfl | hm
  ·rw[List.find?_cons_of_pos (p:=fun p:Int × A=>decide (h.1=p.1)) (show decide (h.1=(haA h).1)=true from qH rfl)];rfl
  ·have hne:h.1 ≠ x.1:=fun e=>hnd.1 (by rw[<- e];exact List.mem_map.2 ⟨h,hm,rfl⟩)
   rw[List.find?_cons_of_neg (p:=fun p:Int × A=>decide (h.1=p.1)) (show ¬ decide (h.1=(haA x).1)=true by rw[j8 (show ¬ h.1=(haA x).1 from hne)];simp)];exact ih hnd.2 hm
def hnA (h:Int × Nt):List A:=jJ h.1 :: ntA h.2
@[irreducible] def nZ (l:List (Int × Nt)):List A:=l.flatMap hnA
theorem m6:nZ []=[]:=by unfold nZ;rfl
theorem pB (l:List (Int × Nt)) (h:Int × Nt):nZ (l++[h])=nZ l++hnA h:=by
 unfold nZ;rw[List.flatMap_append,List.flatMap_cons,List.flatMap_nil,List.append_nil]
theorem jj6 (l:List (Int × Nt)) (i:Nat) (hi:i<l.length):jM 5 i (nZ l)=hnA l[i]:=by
 unfold nZ;exact nR hnA (fun _=>rfl) l i hi
theorem jit (l:List (Int × Nt)) (k:Int) (b:Nt):x5 l++[(k,.agg (jJ k :: ntA b))]=x5 (l++[(k,b)]):=by
 unfold x5;rw[List.map_append];rfl
def utA (u:Ut):List A:=[.sl 1 u.du.length (x8 u.du),.sl 1 u.vo.length (x8 u.vo),.sl 5 u.on.length (nZ u.on)]
def puQ (p:PU) (ch:List PanicEntry):Prop:=match p with
 | .bad x e=>ch=qK x e
 | _=>False
theorem lP {p:PU} {x e:Int} {ch:List PanicEntry} (h:p = .bad x e) (k:ch=qK x e):puQ p ch:=by subst h;exact k
def uoQ (p:PU) (r:A):Prop:=match p with
 | .ok u=>r = .agg (utA u)
 | _=>False
def jr9 (id:Nat):Tr:=match Nat.beq id 4 || Nat.beq id 5 with
 | true => .q 0 3 (.q 2 3 (.alt 1 2 (.alt 3 2 (.alt 4 2 (.q 5 3 (.alt 6 2 .nil .nil)) .nil) .nil) (.alt 3 2 (.alt 1 2 (.alt 4 2 (.q 5 3 (.alt 6 2 .nil .nil)) .nil) .nil) .nil)))
 | false => .nil
theorem vD:∀ (n:Nat) (nm out:List ByteArray) (ts:List Tk) (nm' out':List ByteArray) (r:List Tk),TkP ts->(hd ts).kind ≠ 0->nm.length<=16->aJ n nm out ts = .ok nm' out' r->TkP r/\r.length<ts.length/\nm'.length<=16/\out'.length+r.length<=out.length+ts.length
 | 0,nm,out,ts,nm',out',r,h,hk,h16,e=>by cases e
 | n+1,nm,out,ts,nm',out',r,h,hk,h16,e=>by
  rw[sF] at e
  obtain⟨q1,q2⟩ := h.tail hk
  by_cases hn:yU ts.tail=false
  ·rw[if_pos hn] at e;cases e
  rw[if_neg hn] at e
  by_cases hh:kH nm (hd ts.tail).text=true
  ·rw[if_pos hh] at e;cases e
  rw[if_neg hh] at e
  by_cases h6:nm.length=16
  ·rw[if_pos h6] at e;cases e
  rw[if_neg h6] at e
  obtain⟨q3,q4⟩ := q1.tail (by rw[g9 (by simpa using hn)];decide)
  unfold deH at e
  by_cases hc:qS pComma ts.tail.tail=true
  ·rw[if_pos hc] at e
   obtain⟨g1,g2,g3,g4⟩ := vD n _ _ _ _ _ _ q3 (xP hc) (by simp only[List.length_append,List.length_cons,List.length_nil];omega) e
   refine⟨g1,by omega,g3,?_⟩;simp only[List.length_append,List.length_cons,List.length_nil] at g4;omega
  ·rw[if_neg hc] at e
   by_cases hs:qS pSemi ts.tail.tail=true
   ·rw[if_pos hs] at e
    cases e
    obtain⟨g1,g2⟩ := q3.is hs
    refine⟨g1,by omega,by simp only[List.length_append,List.length_cons,List.length_nil];omega,by simp only[List.length_append,List.length_cons,List.length_nil];omega⟩
   ·rw[if_neg hs] at e;cases e
theorem jht (du vo:List ByteArray) (n:Nat) (hs:List (Int × Nt)) (ts:List Tk):pA du vo (n+1) hs ts=(if (hd ts).kind=0 then .ok ⟨du,vo,xT hs⟩
  else if qS wOn ts=false then .bad (hd ts).pos 10
  else match heF hs ts.tail with
   | .bad x e => .bad x e
   | .ok k r=>match (pa 19).bl r with
    | .bad x e => .bad x e
    | .ok b r=>pA du vo n (hs++[(k,b)]) r):=by
 rw[pA];unfold heF
 cases hnF ts.tail with
 | bad x e=>rfl
 | ok k r =>
  simp only
  by_cases hd:(hs.any fun h=>decide (h.1=k))=true
  ·rw[if_pos hd,if_pos hd]
  ·rw[if_neg hd,if_neg hd];try rfl
theorem jkb {hs:List (Int × Nt)} {ts:List Tk} {k:Int} {r:List Tk} (h:TkP ts) (e:heF hs ts = .ok k r):(∀ p ∈ hs,k ≠ p.1)/\TkP r/\r.length<ts.length:=by
 unfold heF at e
 cases hh:hnF ts with
 | bad x e2=>rw[hh] at e;cases e
 | ok k2 r2 =>
  rw[hh] at e
  simp only at e
  by_cases hdp:(hs.any fun h=>decide (h.1=k2))=true
  ·rw[if_pos hdp] at e;cases e
  rw[if_neg hdp] at e
  cases e
  refine⟨fun p hp e=>hdp (List.any_eq_true.2 ⟨p,hp,qH e.symm⟩),?_⟩
  have num:∀ (lim off:Int) (t:List Tk),TkP t->t.length+1=ts.length->oH lim off t = .ok k r->TkP r/\r.length<ts.length:=fun lim off t ht hl e=>by
   unfold oH at e
   split at e
   ·cases e
   ·split at e
    ·cases e
    ·rename_i h2 _
     obtain⟨q1,q2⟩ := ht.tail (by rw[Decidable.not_not.1 h2];decide)
     cases e
     exact⟨q1,by omega⟩
  unfold hnF at hh
  by_cases h1:qS wStart ts=true
  ·rw[if_pos h1] at hh
   obtain⟨q1,q2⟩ := h.is h1
   cases hh
   exact⟨q1,by omega⟩
  rw[if_neg h1] at hh
  by_cases h2:qS wRequest ts=true
  ·rw[if_pos h2] at hh
   obtain⟨q1,q2⟩ := h.is h2
   cases hh
   exact⟨q1,by omega⟩
  rw[if_neg h2] at hh
  by_cases h3:qS wTimer ts=true
  ·rw[if_pos h3] at hh
   obtain⟨q1,q2⟩ := h.is h3
   exact num _ _ _ q1 q2 hh
  rw[if_neg h3] at hh
  by_cases h4:qS wMessage ts=true
  ·rw[if_pos h4] at hh
   obtain⟨q1,q2⟩ := h.is h4
   exact num _ _ _ q1 q2 hh
  rw[if_neg h4] at hh
  cases hh
def e7:List A:=[.v (.slice none 0 0),.v (.slice none 0 0),.v (.slice none 0 0)]
theorem sU (l m:List ByteArray):x8 (l++m)=x8 l++x8 m:=by unfold x8;rw[List.map_append]
theorem jdk (ts:List Tk) (h:TkP ts):SpecP Tryz.prog 23 [bxN ts++[.v (.slice none 0 0)]] [.box 0 0] (fun o r=>(∃ nm ts',o=[dE nm ts'])/\uoQ (jeY ts) r) (puQ (jeY ts)):=by
 obtain⟨P,hP⟩ : ∃ P,jeY ts=P:=⟨_,rfl⟩
 rw[hP]
 have hb0:=h.1.2
 refine eT (wB jr9 (fun _=>[0]) 1 (fun ch _=>puQ P ch)) (fun _ _ h=>h) Tryz.func23 rfl (by kernel_rfl) rfl ?_;intro _;conv=>whnf
 refine yA (wB _ _ _ _) (by kernel_rfl) ?_;conv=>whnf
 refine yA (wB _ _ _ _) (by kernel_rfl) ?_;conv=>whnf
 refine yA (wB _ _ _ _) (by kernel_rfl) ?_;conv=>whnf
 refine wV 9 1 [] [(0,1)] ?_;conv=>whnf
 refine⟨trivial,?_⟩;conv=>whnf
 refine wV 9 1 [] [(2,0)] ?_;conv=>whnf
 refine⟨trivial,?_⟩;conv=>whnf
 refine wV 9 1 [] [(2,1)] ?_;conv=>whnf
 refine⟨trivial,?_⟩;conv=>whnf
 refine jT [0,2,3] ?_;conv=>whnf
 refine zF (fun x:Nat × List ByteArray × List ByteArray × List ByteArray × List Tk=>[]) (fun x=>[bxN x.2.2.2.2++[.own 0],e7,[.own 1,.own 2,.v (.slice none 0 0)]]) (fun x=>[.live 9 1 x.2.1.length (x8 x.2.1),.live 9 1 x.2.2.1.length (x8 x.2.2.1),.live 9 1 x.2.2.2.1.length (x8 x.2.2.2.1)])
  (fun x=>TkP x.2.2.2.2/\x.2.2.2.2.length+1<=x.1/\x.2.1.length<=16/\x.2.2.1.length+x.2.2.2.1.length+x.2.2.2.2.length<=1000001/\lB x.1 x.2.1 x.2.2.1 x.2.2.2.1 x.2.2.2.2=P) (fun x=>x.2.2.2.2.length) (ts.length+1,[],[],[],ts) ?_ ⟨h,Nat.le_refl _,Nat.zero_le _,by simp only[List.length_nil];omega,hP⟩ ?_
 ·repeat' constructor
 rintro⟨n0,nm,du,vo,ts0⟩ ⟨g1,g2,g3,g4,hP⟩
 simp only at g1 g2 g3 g4 hP
 obtain⟨n,rfl⟩ : ∃ n,n0=n+1:=⟨n0-1,by omega⟩
 have hpos:=g1.pos
 rw[lB] at hP
 have his:=fun s=>jn4 ts0 hpos s
 conv=>whnf
 refine qX 0 0 3 [] rfl rfl rfl rfl rfl rfl rfl (fun _=>(his wDurable).rp rfl rfl _ _ _ _) (fun ch bx' hp=>hp.elim) ?_;rintro o n' cs' r ⟨c,ho,rfl,rfl,rfl,rfl⟩;cases ho;conv=>whnf
 cases hq1:qS wDurable ts0 with
 | true =>
  rw[if_pos hq1] at hP
  have hkd:=xP hq1
  have hde:=jbs nm ts0 g1 hkd g3
  conv=>whnf
  refine qX 0 3 4 [] rfl rfl rfl rfl rfl rfl rfl (fun _=>(his wDurable).rp rfl rfl _ _ _ _) (fun ch bx' hp=>hp.elim) ?_;rintro o n' cs' r ⟨c,ho,rfl,rfl,rfl,rfl⟩;cases ho;conv=>whnf
  rw[hq1];conv=>whnf
  unfold iC;refine⟨_,?_,fun _ h=>h⟩;conv=>whnf
  refine⟨?_,?_⟩
  ·refine qX 0 4 5 [] rfl rfl rfl rfl rfl rfl rfl (fun _=>hde) (fun ch bx' hp _ _ => ?_) ?_
   ·unfold pdQ at hp
    split at hp
    ·rename_i he
     rw[he] at hP;exact lP hP.symm hp
    ·exact hp.elim
   rintro o n' cs' r hdo;unfold doQ at hdo
   split at hdo
   rotate_left
   ·exact hdo.elim
   rename_i nm2 out r1 he
   obtain⟨ho,rfl,rfl,rfl⟩ := hdo
   rw[he] at hP
   simp only at hP
   obtain⟨k1,k2,k3,k4⟩ := vD _ _ _ _ _ _ _ g1 hkd g3 he
   simp only[List.length_nil] at k4;cases ho;conv=>whnf
   refine⟨⟨by simp only;unfold maxLen;omega,by simp only;omega⟩,?_⟩;conv=>whnf
   refine⟨(n,nm2,du++out,vo,r1),jU [5,1,2] ?_,⟨k1,by simp only;omega,k3,by simp only[List.length_append];omega,hP⟩,by simp only;omega⟩;conv=>whnf
   simp only[List.length_append,sU]
   repeat' constructor
  ·refine qX 0 4 5 [] rfl rfl rfl rfl rfl rfl rfl (fun _=>hde) (fun ch bx' hp _ _ => ?_) ?_
   ·unfold pdQ at hp
    split at hp
    ·rename_i he
     rw[he] at hP;exact lP hP.symm hp
    ·exact hp.elim
   rintro o n' cs' r hdo;unfold doQ at hdo
   split at hdo
   rotate_left
   ·exact hdo.elim
   rename_i nm2 out r1 he
   obtain⟨ho,rfl,rfl,rfl⟩ := hdo
   rw[he] at hP
   simp only at hP
   obtain⟨k1,k2,k3,k4⟩ := vD _ _ _ _ _ _ _ g1 hkd g3 he
   simp only[List.length_nil] at k4;cases ho;conv=>whnf
   refine⟨⟨by simp only;unfold maxLen;omega,by simp only;omega⟩,?_⟩;conv=>whnf
   refine⟨(n,nm2,du++out,vo,r1),jU [5,1,2] ?_,⟨k1,by simp only;omega,k3,by simp only[List.length_append];omega,hP⟩,by simp only;omega⟩;conv=>whnf
   simp only[List.length_append,sU]
   repeat' constructor
 | false =>
  rw[if_neg (by rw[hq1];simp)] at hP;conv=>whnf
  refine qX 0 3 4 [] rfl rfl rfl rfl rfl rfl rfl (fun _=>(his wVolatile).rp rfl rfl _ _ _ _) (fun ch bx' hp=>hp.elim) ?_;rintro o n' cs' r ⟨c,ho,rfl,rfl,rfl,rfl⟩;cases ho;conv=>whnf
  cases hq2:qS wVolatile ts0 with
  | true =>
   rw[if_pos hq2] at hP
   have hkd:=xP hq2
   have hde:=jbs nm ts0 g1 hkd g3
   conv=>whnf
   refine qX 0 4 5 [] rfl rfl rfl rfl rfl rfl rfl (fun _=>(his wDurable).rp rfl rfl _ _ _ _) (fun ch bx' hp=>hp.elim) ?_;rintro o n' cs' r ⟨c,ho,rfl,rfl,rfl,rfl⟩;cases ho;conv=>whnf
   rw[hq1];conv=>whnf
   unfold iC;refine⟨_,?_,fun _ h=>h⟩;conv=>whnf
   refine⟨?_,?_⟩
   ·refine qX 0 5 6 [] rfl rfl rfl rfl rfl rfl rfl (fun _=>hde) (fun ch bx' hp _ _ => ?_) ?_
    ·unfold pdQ at hp
     split at hp
     ·rename_i he
      rw[he] at hP;exact lP hP.symm hp
     ·exact hp.elim
    rintro o n' cs' r hdo;unfold doQ at hdo
    split at hdo
    rotate_left
    ·exact hdo.elim
    rename_i nm2 out r1 he
    obtain⟨ho,rfl,rfl,rfl⟩ := hdo
    rw[he] at hP
    simp only at hP
    obtain⟨k1,k2,k3,k4⟩ := vD _ _ _ _ _ _ _ g1 hkd g3 he
    simp only[List.length_nil] at k4;cases ho;conv=>whnf
    refine⟨⟨by simp only;unfold maxLen;omega,by simp only;omega⟩,?_⟩;conv=>whnf
    refine⟨(n,nm2,du,vo++out,r1),jU [6,1,2] ?_,⟨k1,by simp only;omega,k3,by simp only[List.length_append];omega,hP⟩,by simp only;omega⟩;conv=>whnf
    simp only[List.length_append,sU]
    repeat' constructor
   ·refine qX 0 5 6 [] rfl rfl rfl rfl rfl rfl rfl (fun _=>hde) (fun ch bx' hp _ _ => ?_) ?_
    ·unfold pdQ at hp
     split at hp
     ·rename_i he
      rw[he] at hP;exact lP hP.symm hp
     ·exact hp.elim
    rintro o n' cs' r hdo;unfold doQ at hdo
    split at hdo
    rotate_left
    ·exact hdo.elim
    rename_i nm2 out r1 he
    obtain⟨ho,rfl,rfl,rfl⟩ := hdo
    rw[he] at hP
    simp only at hP
    obtain⟨k1,k2,k3,k4⟩ := vD _ _ _ _ _ _ _ g1 hkd g3 he
    simp only[List.length_nil] at k4;cases ho;conv=>whnf
    refine⟨⟨by simp only;unfold maxLen;omega,by simp only;omega⟩,?_⟩;conv=>whnf
    refine⟨(n,nm2,du,vo++out,r1),jU [6,1,2] ?_,⟨k1,by simp only;omega,k3,by simp only[List.length_append];omega,hP⟩,by simp only;omega⟩;conv=>whnf
    simp only[List.length_append,sU]
    repeat' constructor
  | false =>
   rw[if_neg (by rw[hq2];simp)] at hP
   have g4':du.length+vo.length<=1000001:=by omega
   conv=>whnf
   refine yA (wB _ _ _ _) (by kernel_rfl) ?_;conv=>whnf
   refine yA (wB _ _ _ _) (by kernel_rfl) ?_;conv=>whnf
   refine jeD [4] ?_;conv=>whnf
   refine oE [1,2,5] ?_;conv=>whnf
   refine jT [0,2,3,4] ?_;conv=>whnf
   refine zF (fun x:Nat × List (Int × Nt) × List Tk=>[]) (fun x=>[dE nm x.2.2,e7,[.own 0,.own 1,.v (.slice none 0 0)]]) (fun x=>[.live 9 1 du.length (x8 du),.live 9 1 vo.length (x8 vo),.live 99 0 x.2.1.length [.clo 0 (mkA (x5 x.2.1)),.clo 0 (mvA (x5 x.2.1))]])
    (fun x=>TkP x.2.2/\x.2.2.length+1<=x.1/\(x.2.1.map (·.1)).Nodup/\x.2.1.length+x.2.2.length<=1000000/\pA du vo x.1 x.2.1 x.2.2=P) (fun x=>x.2.2.length) (ts0.length+1,[],ts0) ?_ ⟨g1,Nat.le_refl _,List.nodup_nil,by have:=g1.1.2;simp only[List.length_nil];omega,hP⟩ ?_
   ·repeat' constructor
    show Row.live _ _ _ _=Row.live _ 0 0 [.clo 0 (mkA (x5 [])),.clo 0 (mvA (x5 []))]
    rw[show x5 []=[] from rfl,jmK,jmL]
   clear hP hq1 hq2 his hpos g2 g1;rintro⟨n0,hs,ts1⟩ ⟨g1,g2,gnd,g5,hP⟩
   simp only at g1 g2 gnd g5 hP
   obtain⟨n1,rfl⟩ : ∃ n1,n0=n1+1:=⟨n0-1,by omega⟩
   have hpos:=g1.pos
   rw[jht] at hP
   have hr:=gF hpos
   have htl:=g1.tail
   have hbl:=fun r (q:TkP r)=>jdP nm r q
   generalize ht1:hd ts1=t1 at *;conv=>whnf
   (refine uI ?_;try with_reducible exact trivial)
   (generalize hrq:jM _ _ (yH ts1)=rq;obtain rfl:rq=pY t1:=hrq.symm.trans (hr);clear hrq;conv=>whnf)
   by_cases hk:t1.kind=0
   ·rw[qH hk];rw[if_pos hk] at hP;conv=>whnf
    refine jhM 2 ?_;refine uP _ ?_;conv=>whnf
    have hlh:(x5 hs).length=hs.length:=by unfold x5;rw[List.length_map]
    have hso:=jdt (x5 hs) ((jgj hs).2 gnd) (by omega)
    rw[jgS,hlh] at hso
    have hpm:=lX hs
    have hfind:=fun h (hm:h ∈ xT hs)=>jk6 gnd (hpm.mem_iff.1 hm)
    have hln:hs.length=(xT hs).length:=hpm.length_eq.symm
    rw[hln] at hso;refine kL (wB _ _ _ _) (by kernel_rfl) ?_;conv=>whnf
    refine jqz 3 [] rfl rfl (fun _=>jga _ _) ?_;rintro e k n r x ⟨rfl,rfl,rfl,rfl,rfl⟩;conv=>whnf
    refine joM 3 4 [] rfl rfl rfl rfl (fun _=>hso) ?_;rintro n' cs' r rfl;generalize xT hs=L at *;conv=>whnf
    refine wV 46 5 [] [(2,2)] ?_;conv=>whnf
    refine⟨trivial,?_⟩;conv=>whnf
    refine oE [0,1,5] ?_;conv=>whnf
    refine jT [2,3,4,50,51] ?_;conv=>whnf
    refine zF (fun j:Nat=>[(52,.v (.int .i64 j))]) (fun _=>[dE nm ts1,e7,[.own 0,.own 1,.own 2]]) (fun j=>[.live 9 1 du.length (x8 du),.live 9 1 vo.length (x8 vo),.live 46 5 (L.take j).length (nZ (L.take j))])
     (fun j=>j<=L.length) (fun j=>L.length-j) 0 ?_ (Nat.zero_le _) ?_
    ·repeat' constructor
     show Row.live _ _ _ _=Row.live _ 5 0 (nZ [])
     rw[m6]
    intro j hj;conv=>whnf
    by_cases hlt:j<L.length
    ·have hrow:jM 1 j ((L.map fun x=>x.1).map jJ)=[jJ L[j].1]:=by
      have:=y9 jJ (L.map fun x=>x.1) j (by simpa using hlt)
      rw[this,List.getElem_map]
     have hfj:=hfind L[j] (List.getElem_mem hlt)
     have htk:L.take (j+1)=L.take j++[L[j]]:=List.take_succ_eq_append_getElem hlt
     have hlj:(L.take j).length=j:=by rw[List.length_take];omega
     generalize L[j]=h at *
     (refine uI ?_;try with_reducible exact trivial)
     (generalize hrq:jM _ _ ((L.map fun x=>x.1).map jJ)=rq;obtain rfl:rq=[jJ h.1]:=hrq.symm.trans (hrow);clear hrq;conv=>whnf)
     refine xQ _ _ ?_;rw[hfj];conv=>whnf
     refine⟨⟨by unfold maxLen;omega,by omega⟩,?_⟩;conv=>whnf
     refine⟨jS (by omega),?_⟩;conv=>whnf
     refine⟨j+1,jU [0,1,2] ?_,hlt,by omega⟩;conv=>whnf
     rw[htk]
     repeat' constructor
     show Row.live _ 5 _ _=Row.live _ 5 (L.take j++[h]).length (nZ (L.take j++[h]))
     rw[pB,List.length_append];rfl
    ·(refine uI ?_;try with_reducible exact trivial)
     rw[show j=L.length by omega,List.take_length];subst hP;exact⟨⟨nm,ts1,rfl⟩,rfl⟩
   ·rw[j8 hk];rw[if_neg hk] at hP
    obtain⟨q1,q2⟩ := htl hk
    have hx:=jR nm ts1 hpos wOn
    rw[ht1] at hx;generalize ts1.tail=ts2 at *
    have hh:=jix nm hs ts2 q1
    rw[jkv,<- jkw] at hh
    have hhok:=fun k r=>jkb (hs:=hs) (k:=k) (r:=r) q1
    conv=>whnf
    refine kK 0 [] hx (fun ch bx' hp => ?_) ?_
    ·rw[if_pos hp.1] at hP;exact lP hP.symm hp.2
    rintro o r ⟨hon,ho,rfl⟩;cases ho;rw[if_neg (by rw[hon];simp)] at hP;conv=>whnf
    refine joK 0 2 rfl rfl rfl (uP _ rfl) rfl hh (fun o r hho => ?_) (fun ch bx' hp _ _ => ?_) ?_
    ·unfold hoQ at hho
     split at hho
     ·obtain⟨rfl,rfl⟩ := hho
      exact⟨fun c hc=>by rw[List.mem_singleton.1 hc];exact jkA _ _,rfl⟩
     ·exact hho.elim
    ·unfold phQ at hp
     split at hp
     ·rename_i he
      rw[he] at hP;exact lP hP.symm hp
     ·exact hp.elim
    rintro o r hho;unfold hoQ at hho
    split at hho
    rotate_left
    ·exact hho.elim
    rename_i k r1 he
    obtain⟨ho,rfl⟩ := hho
    rw[he] at hP
    simp only at hP
    obtain⟨hnk,k1,k2⟩ := hhok _ _ he
    have hb:=hbl r1 k1
    cases ho;conv=>whnf
    refine kK 0 [] hb (fun ch bx' hp => ?_) ?_
    ·obtain⟨x,e,he,hc⟩ := zA hp
     rw[he] at hP;exact lP hP.symm hc
    rintro o r hpo
    obtain⟨b,r2,he2,ho,rfl⟩ := jZ hpo
    cases ho;rw[he2] at hP
    simp only at hP
    obtain⟨k3,k4⟩ := rE _ _ _ k1 he2
    conv=>whnf
    refine jiA (fun p hp => ?_) ?_
    ·unfold x5 at hp
     obtain⟨q,hq,rfl⟩ := List.mem_map.1 hp
     exact hnk q hq
    conv=>whnf
    refine⟨(n1,hs++[(k,b)],r2),jU [0,1,2] ?_,⟨k3,by simp only;omega,?_,by simp only[List.length_append,List.length_cons,List.length_nil];omega,hP⟩,by simp only;omega⟩
    ·conv=>whnf
     repeat' constructor
     show Row.live _ 0 (hs.length+1) [.clo 0 (mkA (x5 hs++[(k,.agg (jJ k :: ntA b))])),.clo 0 (mvA (x5 hs++[(k,.agg (jJ k :: ntA b))]))]=Row.live _ 0 (hs++[(k,b)]).length [.clo 0 (mkA (x5 (hs++[(k,b)]))),.clo 0 (mvA (x5 (hs++[(k,b)])))]
     rw[jit,List.length_append];rfl
    ·simp only
     rw[List.map_append,List.nodup_append];refine⟨gnd,by simp,fun a ha c hc e => ?_⟩
     simp at hc
     subst hc
     obtain⟨q,hq,rfl⟩ := List.mem_map.1 ha
     exact hnk q hq e.symm
end Go.Proofs.YtgifglkkmhapiaaGreatDoor.Vm
namespace Go.Proofs.YtgifglkkmhapiaaGreatDoor.Vm
open Go.RowKit Go.Shelf
theorem jp0 {c:UInt8} (h:yN c=true):c.toNat-48<=9:=by
 simp only[yN,Bool.and_eq_true,decide_eq_true_eq] at h;omega
theorem ja4 (n:Nat):jgp n []=n:=rfl
theorem jbT (n:Nat) (c:UInt8) (r:List UInt8):jgp n (c :: r)=jgp (10*n+(c.toNat-48)) r:=by kernel_rfl
theorem jmO (l:List UInt8):∀ (n:Nat),jcx l=true->jgp n l+1<=(n+1)*10 ^ l.length:=by
 induction l with
 | nil=>intro n _;rw[ja4];simp
 | cons c r ih =>
  intro n h;simp only[jcx,List.all_cons,Bool.and_eq_true] at h
  have:=jp0 h.1
  have ih:=ih (10*n+(c.toNat-48)) h.2
  rw[jbT,List.length_cons,Nat.pow_succ];refine Nat.le_trans ih ?_;generalize 10 ^ r.length=p at *;rw[show (n+1)*(p*10)=(10*n+10)*p by rw[Nat.mul_comm p 10,<- Nat.mul_assoc];congr 1;omega];exact Nat.mul_le_mul_right _ (by omega)
theorem jfh {l:List UInt8} (h:l.length<=10):jar l:=fun k hk hd=>by
 have h1:=jmO _ 0 hd
 have h2:(l.take k).length<=10:=by rw[List.length_take];omega
 have h3:10 ^ (l.take k).length<=10 ^ 10:=Nat.pow_le_pow_right (by decide) h2
 have h4:(10:Nat) ^ 10=10000000000:=by decide
 omega
theorem jbU:∀ (l:List UInt8) (n:Nat) (k:Nat),0<=gG n l->jcx l=true->n<=2147483647->jgp n (l.take k)<=2147483647
 | [],n,k,_,_,hn=>by rw[List.take_nil,ja4];exact hn
 | c :: r,n,k,h,hd,hn=>by
  simp only[jcx,List.all_cons,Bool.and_eq_true] at hd
  have hc:=hd.1
  simp only[yN,Bool.and_eq_true,decide_eq_true_eq] at hc;rw[gG] at h
  split at h
  ·omega
  ·rename_i hv
   cases k with
   | zero=>rw[List.take_zero,ja4];exact hn
   | succ k =>
    rw[List.take_succ_cons,jbT]
    have e:(((10*n+(c.toNat-48):Nat)):Int)=10*(n:Int)+c.toNat-48:=by omega
    refine jbU r (10*n+(c.toNat-48)) k ?_ hd.2 (by omega);rw[e];exact h
theorem jbe:∀ r:List UInt8,jcx (r.take (jI yN r))=true
 | []=>rfl
 | c :: r=>by
  rw[jI]
  cases h:yN c with
  | false=>rfl
  | true =>
   simp only[List.take_succ_cons,jcx,List.all_cons,h,Bool.true_and];exact jbe r
theorem tS (s:ByteArray):(oX s).1.size<=s.size:=by
 cases h:s.data.toList with
 | nil=>rw[jjV h];exact Nat.le_refl _
 | cons c r =>
  have hl:=kP s
  rw[h,List.length_cons] at hl
  by_cases hc:c=118
  ·subst hc;rw[joQ h,xJ];omega
  ·rw[jhk h hc];exact Nat.le_refl _
theorem oY {s:ByteArray} (h:s.size<=10):jar (oX s).1.data.toList:=by
 have h1:=tS s
 have h2:=kP (oX s).1
 exact jfh (by omega)
theorem jjg {l:List UInt8} {k:Int} {len:Nat} {n:Int} (h:j9 l = .tok k len n):jar (oX (bs (l.take len))).1.data.toList:=by
 have hle:=bX h
 have hsz:(bs (l.take len)).size=len:=bW l len hle.2
 cases l with
 | nil=>simp[j9] at h
 | cons c r =>
  cases hL:isL c
  ·cases hD:yN c
   ·refine oY ?_
    cases h3:kH aP (bs ((c :: r).take 2))
    ·cases h4:kH r8 (bs [c])
     ·simp only[j9,hL,hD,h3,h4] at h
      cases h
     ·simp only[j9,hL,hD,h3,h4] at h
      cases h;omega
    ·simp only[j9,hL,hD,h3] at h
     cases h;omega
   ·simp only[j9,hL,hD] at h
    split at h
    ·cases h
    ·rename_i hv
     cases h
     have hc:c ≠ 118:=fun e=>by subst e;simp[yN] at hD; 
     have hlist:(bs ((c :: r).take (jI yN r+1))).data.toList=c :: r.take (jI yN r):=by rw[zZ,List.take_succ_cons]
     rw[jhk hlist hc,hlist];intro j hj hd
     have h0:jcx (c :: r.take (jI yN r))=true:=by
      simp only[jcx,List.all_cons,hD,Bool.true_and];exact jbe r
     have:=jbU (c :: r.take (jI yN r)) 0 j (by simpa using hv) h0 (by omega)
     omega
  ·simp only[j9,hL] at h
   split at h
   ·cases h
   ·cases h
    exact oY (by omega)
theorem cE:∀ (f p:Nat) (l:List UInt8),∀ t ∈ (xE f p l).toks,jar (oX t.text).1.data.toList
 | 0,p,l=>by simp[xE]
 | f+1,p,[]=>by simp[xE]
 | f+1,p,c :: r=>by
  rw[xE]
  split
  ·exact cE f _ _
  ·split
   ·exact cE f _ _
   ·cases ht:j9 (c :: r) with
    | bad e=>simp
    | tok k len n =>
     intro t hm;simp only[Lx.cons,List.mem_cons] at hm
     rcases hm with rfl | hm
     ·exact jjg ht
     ·exact cE f _ _ t hm
theorem jlP {e:Tk} (he:jaF e/\e.kind=0/\e.text.data.toList=[]):∀ l:List Tk,(∀ t ∈ l,jaF t/\t.kind ≠ 0)->TkW (l++[e])
 | [],_=>⟨he.1,.inl ⟨rfl,he.2⟩⟩
 | t :: l,h=>⟨(h t (by simp)).1,.inr ⟨(h t (by simp)).2,jlP he l fun x hx=>h x (by simp[hx])⟩⟩
theorem jnb {s:ByteArray} (hs:s.size<=3000) (he:(qW s).err=none):TkB (eM s):=by
 rw[vK he]
 have hl:=kP s
 have hlen:=(gR (s.data.toList.length+1) 0 s.data.toList).1
 refine⟨jlP ⟨⟨?_,?_,?_,?_⟩,rfl,rfl⟩ _ fun t ht => ?_,?_⟩
 ·show (⟨#[]⟩ : ByteArray).size<=_;decide
 ·exact oY (by show (⟨#[]⟩ : ByteArray).size<=_;decide)
 ·exact Nat.le_trans (tS _) (by show (⟨#[]⟩ : ByteArray).size<=_;decide)
 ·exact⟨by show (0:Int)<=0;decide,by show (0:Int)<=_;decide,by show s.size<=_;omega⟩
 ·have h1:=fK (s.data.toList.length+1) 0 s.data.toList (by omega) t ht
  exact⟨⟨h1.2.2.1,cE _ _ _ t ht,Nat.le_trans (tS _) h1.2.2.1,h1.2.2.2.1,h1.2.2.2.2,h1.2.1⟩,by have:=h1.1.1;omega⟩
 ·have:(qW s).toks.length<=s.data.toList.length:=hlen
  simp only[List.length_append,List.length_cons,List.length_nil];omega
def K6 (t:Tk):Prop:=(t.kind=1 /\ ∃ c r,t.text.data.toList=c :: r/\isL c=true /\ ∀ x ∈ c :: r,zE x=true) ∨ (t.kind=3 /\ ∃ c r,t.text.data.toList=c :: r/\zE c=false) ∨ (t.kind=0/\t.text.data.toList=[]) ∨ (t.kind=2 /\ ∃ c r,t.text.data.toList=c :: r/\yN c=true)
theorem jq4 {l:List UInt8} {k:Int} {len:Nat} {n:Int} {p:Nat} (h:j9 l = .tok k len n):K6 ⟨k,p,bs (l.take len),n⟩ := by
 unfold K6;simp only[zZ]
 cases l with
 | nil=>simp[j9] at h
 | cons c r =>
  cases hL:isL c
  ·cases hD:yN c
   ·have h3:k=3/\(len=1 ∨ len=2):=by
     cases h3:kH aP (bs ((c :: r).take 2))
     ·cases h4:kH r8 (bs [c])
      ·simp only[j9,hL,hD,h3,h4] at h
       cases h
      ·simp only[j9,hL,hD,h3,h4] at h
       cases h;exact⟨rfl,.inl rfl⟩
     ·simp only[j9,hL,hD,h3] at h
      cases h;exact⟨rfl,.inr rfl⟩
    right;left
    refine⟨h3.1,c,r.take (len-1),?_,by unfold zE;rw[hL,hD];rfl⟩
    rcases h3.2 with e | e <;> rw[e] <;> rfl
   ·simp only[j9,hL,hD] at h
    split at h
    ·cases h
    ·cases h
     exact .inr (.inr (.inr ⟨rfl,c,r.take (jI yN r),List.take_succ_cons,hD⟩))
  ·simp only[j9,hL] at h
   split at h
   ·cases h
   ·cases h
    left
    refine⟨rfl,c,r.take (jI zE r),List.take_succ_cons,hL,fun x hx => ?_⟩
    rcases List.mem_cons.1 hx with rfl | hx
    ·unfold zE;rw[hL];rfl
    ·exact pW zE r x hx
theorem sI:∀ (f p:Nat) (l:List UInt8),∀ t ∈ (xE f p l).toks,K6 t
 | 0,p,l=>by simp[xE]
 | f+1,p,[]=>by simp[xE]
 | f+1,p,c :: r=>by
  rw[xE]
  split
  ·exact sI f _ _
  ·split
   ·exact sI f _ _
   ·cases ht:j9 (c :: r) with
    | bad e=>simp
    | tok k len n =>
     intro t hm;simp only[Lx.cons,List.mem_cons] at hm
     rcases hm with rfl | hm
     ·exact jq4 ht
     ·exact sI f _ _ t hm
theorem jpP {s:ByteArray} (he:(qW s).err=none):∀ t ∈ eM s,K6 t:=fun t ht=>by
 rw[vK he,List.mem_append] at ht
 rcases ht with ht | ht
 ·exact sI _ _ _ t ht
 ·rw[List.mem_singleton.1 ht];exact .inr (.inr (.inl ⟨rfl,rfl⟩))
theorem jg8 {c:UInt8} (h:zE c=true):c ≠ 32:=fun e=>by subst e;revert h;decide
theorem jp2 {t:Tk} (h:K6 t):wOk t:=fun hk=>by
 rcases h with ⟨_,c,r,h1,_,h3⟩ | ⟨h1,_⟩ | ⟨h1,_⟩ | ⟨h1,_⟩
 ·rw[h1];exact⟨by simp,fun x hx=>jg8 (h3 x hx)⟩
 ·omega
 ·omega
 ·omega
theorem jnc {s:ByteArray} (hs:s.size<=3000) (he:(qW s).err=none):TkP (eM s):=⟨jnb hs he,fun t ht=>jp2 (jpP he t ht)⟩
def okE (x e:Int):Prop:=(0<=x/\x<=1000000000)/\0<e/\e<=100
def f4 (p:Pn):Prop:=match p with
 | .bad x e=>okE x e
 | _=>True
def nY (op:List Tk->Pn):Prop := ∀ ts,TkP ts->f4 (op ts)
theorem TkP.hp {ts:List Tk} (h:TkP ts):(Vm.hd ts).pos<=1000000000:=h.good.2.2.2.2.2
theorem aF {ts:List Tk} (h:TkP ts) {e:Int} (he:0<e/\e<=100):f4 (.bad (hd ts).pos e):=⟨⟨by omega,by have:=h.hp;omega⟩,he⟩
theorem qR {p:Pn} {k:Nt->List Tk->Pn} (h:f4 p) (hk:∀ f r,p = .ok f r->f4 (k f r)):f4 (p.andThen k):=by
 cases p with
 | ok f r=>exact hk f r rfl
 | bad x e=>exact h
theorem wE {s:ByteArray} {ts:List Tk} {k:List Tk->Pn} (h:TkP ts) (hk:TkP ts.tail->f4 (k ts.tail)):f4 (xpt s ts k):=by
 unfold xpt
 by_cases hs:qS s ts=true
 ·rw[if_pos hs];exact hk (h.is hs).1
 ·rw[if_neg hs];exact aF h (by decide)
theorem jdo {lim:Int} {ts:List Tk} {k:Int->List Tk->Pn} (h:TkP ts) (hk:TkP ts.tail->f4 (k (hd ts).n ts.tail)):f4 (bL lim ts k):=by
 unfold bL
 by_cases h1:(hd ts).kind ≠ 2
 ·rw[if_pos h1];exact aF h (by decide)
 ·rw[if_neg h1]
  by_cases h2:lim<=(hd ts).n
  ·rw[if_pos h2];exact aF h (by decide)
  ·rw[if_neg h2];exact hk (h.tail (by rw[Decidable.not_not.1 h1];decide)).1
theorem fU {ts:List Tk} (h:TkP ts):f4 (synE ts):=aF h (by decide)
def jaS (low:Option Pa):Prop := ∀ p,low=some p->nY p.no/\nY p.un/\nY p.ex/\nY p.bl
theorem jf8 {low:Option Pa} (hg:dD low) (hl:jaS low):nY (dB low):=fun ts h=>by
 unfold dB
 by_cases hs:qS pLp ts=true
 ·rw[if_pos hs]
  cases low with
  | none=>exact aF h (by decide)
  | some p =>
   have q:=(h.is hs).1
   exact qR ((hl p rfl).2.2.1 _ q) fun f r e=>wE ((hg p rfl).2.2.1 _ _ _ q e).1 fun _=>trivial
 ·rw[if_neg hs];exact fU h
theorem qL {c:Prop} [Decidable c] {a b:Pn} (h1:c->f4 a) (h2 : ¬ c->f4 b):f4 (if c then a else b):=by
 by_cases h:c
 ·rw[if_pos h];exact h1 h
 ·rw[if_neg h];exact h2 h
theorem jlj {low:Option Pa} (hg:dD low) (hl:jaS low):nY (wI low):=fun ts h=>by
 unfold wI
 refine qL (fun hs=>jf8 hg hl ts h) fun _ => ?_
 refine qL (fun hs=>qR (jf8 hg hl _ (h.is hs).1) fun _ _ _=>trivial) fun _ => ?_
 refine qL (fun hs=>trivial) fun _ => ?_
 refine qL (fun hs=>trivial) fun _ => ?_
 refine qL (fun hs=>trivial) fun _ => ?_
 refine qL (fun hs=>trivial) fun _ => ?_
 exact qL (fun hs=>trivial) fun _=>fU h
theorem jhV {s:ByteArray} {op:Option (List Tk->Pn)} (hl:∀ f,op=some f->nY f) {ts:List Tk} (h:TkP ts) (hs:qS s ts=true):f4 (r9 s op ts):=by
 cases op with
 | none=>exact aF h (by decide)
 | some f=>exact qR (hl f rfl _ (h.is hs).1) fun _ _ _=>trivial
theorem jhX {low:Option Pa} (hg:dD low) (hl:jaS low):nY (x6 low):=fun ts h=>by
 unfold x6
 refine qL (fun hs=>jhV (fun f hf => ?_) h hs) fun _=>jlj hg hl ts h
 obtain⟨p,hp,rfl⟩ := Option.map_eq_some_iff.1 hf
 exact (hl p hp).2.1
theorem jc7 {op:List Tk->Pn} (hg:qO op) (ho:nY op) (signs:List ByteArray):∀ (n:Nat) (l:Nt) (ts:List Tk),TkP ts->f4 (xK op signs n l ts)
 | 0,l,ts,h=>trivial
 | n+1,l,ts,h=>by
  rw[xK]
  refine qL (fun hs => ?_) fun _=>trivial
  obtain⟨s,hs⟩ := fA hs
  have q:=(h.is hs).1
  exact qR (ho _ q) fun f r e=>jc7 hg ho signs n _ _ (hg _ _ _ q e).1
theorem sQ {op:List Tk->Pn} (hg:qO op) (ho:nY op) (signs:List ByteArray):nY (kG op signs):=fun ts h=>by
 unfold kG
 exact qR (ho _ h) fun f r e=>jc7 hg ho signs _ _ _ (hg _ _ _ h e).1
theorem jhW {low:Option Pa} (hg:dD low) (hl:jaS low):nY (jax low):=sQ (vY (bE hg) _) (sQ (bE hg) (jhX hg hl) _) _
theorem jhU {low:Option Pa} (hg:dD low) (hl:jaS low):nY (lK low):=fun ts h=>by
 unfold lK
 refine qL (fun hs=>jhV (fun f hf => ?_) h hs) fun _ => ?_
 ·obtain⟨p,hp,rfl⟩ := Option.map_eq_some_iff.1 hf
  exact (hl p hp).1
 ·refine qR (jhW hg hl _ h) fun l r e => ?_
  have q:=(mY hg _ _ _ h e).1
  refine qL (fun hs => ?_) fun _=>trivial
  obtain⟨s,hs⟩ := fA hs
  exact qR (jhW hg hl _ (q.is hs).1) fun _ _ _=>trivial
theorem jhT {low:Option Pa} (hg:dD low) (hl:jaS low):nY (mR low):=sQ (vY (bD hg) _) (sQ (bD hg) (jhU hg hl) _) _
theorem jpS {ex bl:List Tk->Pn} (gex:qO ex) (gbl:qO bl) (hex:nY ex) (hbl:nY bl):nY (eU ex bl):=fun ts h=>by
 unfold eU
 refine qL (fun hn => ?_) fun _ => ?_
 ·have q:=(h.tail (by rw[g9 hn];decide)).1
  exact wE q fun q=>qR (hex _ q) fun f r e=>wE (gex _ _ _ q e).1 fun _=>trivial
 refine qL (fun _=>fU h) fun hk => ?_
 have q:=(h.tail (by rw[Decidable.not_not.1 hk];decide)).1
 refine qL (fun _=>qR (hex _ q) fun f r e=>qR (hbl _ (gex _ _ _ q e).1) fun f2 r2 e2=>qL (fun hs=>qR (hbl _ ((gbl _ _ _ (gex _ _ _ q e).1 e2).1.is hs).1) fun _ _ _=>trivial) fun _=>trivial) fun _ => ?_
 refine qL (fun _=>qR (hex _ q) fun f r e=>qR (hbl _ (gex _ _ _ q e).1) fun _ _ _=>trivial) fun _ => ?_
 refine qL (fun _=>qR (hex _ q) fun f r e=>wE (gex _ _ _ q e).1 fun q=>jdo q fun q=>wE q fun q=>qR (hex _ q) fun f r e=>wE (gex _ _ _ q e).1 fun q=>qR (hex _ q) fun f r e=>wE (gex _ _ _ q e).1 fun _=>trivial) fun _ => ?_
 refine qL (fun _=>jdo q fun q=>wE q fun _=>trivial) fun _ => ?_
 refine qL (fun _=>jdo q fun q=>wE q fun _=>trivial) fun _ => ?_
 refine qL (fun _=>wE q fun _=>trivial) fun _ => ?_
 refine qL (fun _=>qR (hex _ q) fun f r e=>wE (gex _ _ _ q e).1 fun q=>qR (hex _ q) fun f r e=>wE (gex _ _ _ q e).1 fun _=>trivial) fun _ => ?_
 refine qL (fun _=>qR (hex _ q) fun f r e=>wE (gex _ _ _ q e).1 fun _=>trivial) fun _ => ?_
 exact qL (fun _=>wE q fun _=>trivial) fun _=>fU h
theorem jf7 {st:List Tk->Pn} (gst:GoesS st) (hst:nY st):∀ (n:Nat) (acc:List Nt) (ts:List Tk),TkP ts->f4 (f9 st n acc ts)
 | 0,acc,ts,h=>fU h
 | n+1,acc,ts,h=>by
  rw[f9]
  exact qL (fun _=>trivial) fun _=>qR (hst _ h) fun f r e=>jf7 gst hst n _ _ (gst _ _ _ h e).1
theorem jpQ {st:List Tk->Pn} (gst:GoesS st) (hst:nY st):nY (bkF st):=fun ts h=>by
 unfold bkF
 exact wE h fun q=>jf7 gst hst _ _ _ q
theorem jlh {low:Option Pa} (hl:jaS low):nY (jiL low):=by
 cases low with
 | none=>exact fun ts h=>qL (fun _=>aF h (by decide)) fun _=>fU h
 | some p=>exact (hl p rfl).2.2.2
theorem jli {low:Option Pa} (hg:dD low) (hl:jaS low):jaS (some (paG low)):=fun p hp=>by
 cases hp
 exact⟨jhU hg hl,jhX hg hl,jhT hg hl,jpQ (sG (nK hg) (gY hg)) (jpS (nK hg) (gY hg) (jhT hg hl) (jlh hl))⟩
theorem jdc:∀ d,dD (some (pa d))/\jaS (some (pa d))
 | 0=>⟨jcT (fun _ h=>by cases h),jli (fun _ h=>by cases h) (fun _ h=>by cases h)⟩
 | d+1=>⟨jcT (jdc d).1,jli (jdc d).1 (jdc d).2⟩
theorem jnd:nY (pa 19).bl:=((jdc 19).2 _ rfl).2.2.2
theorem yS {ts:List Tk} (h:TkP ts) {e:Int} (he:0<e/\e<=100):okE (hd ts).pos e:=aF h he
theorem jf9 {lim off:Int} {ts:List Tk} (h:TkP ts) {x e:Int} (k:oH lim off ts = .bad x e):okE x e:=by
 unfold oH at k
 split at k
 ·cases k;exact yS h (by decide)
 ·split at k
  ·cases k;exact yS h (by decide)
  ·cases k
theorem jpR {hs:List (Int × Nt)} {ts:List Tk} (h:TkP ts) {x e:Int} (k:heF hs ts = .bad x e):okE x e:=by
 unfold heF at k
 cases hh:hnF ts with
 | bad x2 e2 =>
  rw[hh] at k
  cases k
  unfold hnF at hh
  by_cases h1:qS wStart ts=true
  ·rw[if_pos h1] at hh;cases hh
  rw[if_neg h1] at hh
  by_cases h2:qS wRequest ts=true
  ·rw[if_pos h2] at hh;cases hh
  rw[if_neg h2] at hh
  by_cases h3:qS wTimer ts=true
  ·rw[if_pos h3] at hh;exact jf9 (h.is h3).1 hh
  rw[if_neg h3] at hh
  by_cases h4:qS wMessage ts=true
  ·rw[if_pos h4] at hh;exact jf9 (h.is h4).1 hh
  rw[if_neg h4] at hh
  cases hh
  exact yS h (by decide)
 | ok k2 r2 =>
  rw[hh] at k
  simp only at k
  split at k
  ·cases k;exact yS h (by decide)
  ·cases k
theorem jlg (du vo:List ByteArray):∀ (n:Nat) (hs:List (Int × Nt)) (ts:List Tk) (x e:Int),TkP ts->pA du vo n hs ts = .bad x e->okE x e
 | 0,hs,ts,x,e,h,k=>by cases k;exact yS h (by decide)
 | n+1,hs,ts,x,e,h,k=>by
  rw[jht] at k
  by_cases hk:(hd ts).kind=0
  ·rw[if_pos hk] at k;cases k
  rw[if_neg hk] at k
  by_cases ho:qS wOn ts=false
  ·rw[if_pos ho] at k;cases k;exact yS h (by decide)
  rw[if_neg ho] at k
  have q:=(h.tail hk).1
  cases hh:heF hs ts.tail with
  | bad x2 e2=>rw[hh] at k;cases k;exact jpR q hh
  | ok k2 r =>
   rw[hh] at k
   simp only at k
   obtain⟨_,q2,_⟩ := jkb q hh
   have hb:=jnd _ q2
   cases hbl:(pa 19).bl r with
   | bad x2 e2=>rw[hbl] at k hb;cases k;exact hb
   | ok b r2 =>
    rw[hbl] at k;exact jlg du vo n _ _ _ _ (rE _ _ _ q2 hbl).1 k
theorem jgO:∀ (n:Nat) (nm out:List ByteArray) (ts:List Tk) (x e:Int),TkP ts->(hd ts).kind ≠ 0->aJ n nm out ts = .bad x e->okE x e
 | 0,nm,out,ts,x,e,h,hk,k=>by cases k;exact yS h (by decide)
 | n+1,nm,out,ts,x,e,h,hk,k=>by
  rw[sF] at k
  have q:=(h.tail hk).1
  by_cases hn:yU ts.tail=false
  ·rw[if_pos hn] at k;cases k;exact yS q (by decide)
  rw[if_neg hn] at k
  by_cases hh:kH nm (hd ts.tail).text=true
  ·rw[if_pos hh] at k;cases k;exact yS q (by decide)
  rw[if_neg hh] at k
  by_cases h6:nm.length=16
  ·rw[if_pos h6] at k;cases k;exact yS q (by decide)
  rw[if_neg h6] at k
  have q3:=(q.tail (by rw[g9 (by simpa using hn)];decide)).1
  unfold deH at k
  by_cases hc:qS pComma ts.tail.tail=true
  ·rw[if_pos hc] at k;exact jgO n _ _ _ _ _ q3 (xP hc) k
  ·rw[if_neg hc] at k
   by_cases hs:qS pSemi ts.tail.tail=true
   ·rw[if_pos hs] at k;cases k
   ·rw[if_neg hs] at k;cases k;exact yS q3 (by decide)
theorem jgN:∀ (n:Nat) (nm du vo:List ByteArray) (ts:List Tk) (x e:Int),TkP ts->nm.length<=16->lB n nm du vo ts = .bad x e->okE x e
 | 0,nm,du,vo,ts,x,e,h,h16,k=>by cases k;exact yS h (by decide)
 | n+1,nm,du,vo,ts,x,e,h,h16,k=>by
  rw[lB] at k
  by_cases h1:qS wDurable ts=true
  ·rw[if_pos h1] at k
   cases hd:aJ ts.length nm [] ts with
   | bad x2 e2=>rw[hd] at k;cases k;exact jgO _ _ _ _ _ _ h (xP h1) hd
   | ok nm2 out r =>
    rw[hd] at k
    obtain⟨k1,k2,k3,k4⟩ := vD _ _ _ _ _ _ _ h (xP h1) h16 hd
    exact jgN n _ _ _ _ _ _ k1 k3 k
  rw[if_neg h1] at k
  by_cases h2:qS wVolatile ts=true
  ·rw[if_pos h2] at k
   cases hd:aJ ts.length nm [] ts with
   | bad x2 e2=>rw[hd] at k;cases k;exact jgO _ _ _ _ _ _ h (xP h2) hd
   | ok nm2 out r =>
    rw[hd] at k
    obtain⟨k1,k2,k3,k4⟩ := vD _ _ _ _ _ _ _ h (xP h2) h16 hd
    exact jgN n _ _ _ _ _ _ k1 k3 k
  rw[if_neg h2] at k;exact jlg _ _ _ _ _ _ _ h k
theorem jkX {ts:List Tk} (h:TkP ts) {x e:Int} (k:jeY ts = .bad x e):okE x e:=jgN _ _ _ _ _ _ _ h (Nat.zero_le _) k
end Go.Proofs.YtgifglkkmhapiaaGreatDoor.Vm
namespace Go.Proofs.YtgifglkkmhapiaaGreatDoor.Vm
open Go.RowKit
section
def ClD (P:Program) (f:Nat) (u u':FrameMode):Array Value->World->(Ending->World->Prop)->Prop:=fun vs w R=>CallsD P f vs u w fun e m w' => m=u'/\R e w'
theorem ClD.mono {P:Program} {f:Nat} {u u':FrameMode} {vs:Array Value} {w:World} {R R':Ending->World->Prop} (h:∀ e w',R e w'->R' e w') (k:ClD P f u u' vs w R):ClD P f u u' vs w R' :=
 CallsD.mono k fun e m w' ⟨h1,h2⟩=>⟨h1,h _ _ h2⟩
@[irreducible] def jmh (P:Program) (u u':FrameMode) (f:Nat) (args:List A) (s:S) (K:S->Prop):Prop :=
 (∀ vs w,(callFunc f vs).run P w = .ok (.enter f vs) w) ∧
 ∃ (X ids:List Nat) (ins:List (List A)) (args':List A) (post:List (List A)->A->Prop),X.Nodup/\(∀ i ∈ X,i<s.bx.length) ∧
  nQ X (jC s.rw ids) (X.map fun i=>s.bx.getD i [])=some ins/\zM X (jC s.rw ids) args=some args'/\(nA args'->jbb (ClD P f u u') ins args' post fun _=>False) ∧
  ∀ outs r,post outs r->outs.length=X.length->lM X s.bx X outs fun bx' => zO (back X r) fun _=>j7 (jC s.rw ids) fun rw' => kZ s bx' rw' K
def cC (c:Cx) (rv:List ResultVar) (post:List (List A)->A->Prop):List (Nat × List A)->FrameMode->S->Prop
 | [],.returning,s=>jgG c rv post s
 | [],_,_=>False
 | (f,args) :: r,u,s=>u ≠ .run /\ ∃ u',jmh c.P u u' f args s fun s' => cC c rv post r (settle u') s'
section
variable {c:Cx} {w0:W0} {C0:Rd} {β0:List Nat}
theorem fJ {fn:Func} {post:List (List A)->A->Prop} {R:Ending->World->Prop} {tmps:Array Value} (hfin:∀ s' w',jgG c fn.results.toList post s'->Inv [] w0 C0 β0 s' { tmps:=tmps,defers:=[] } w' -> ∃ v,(results fn tmps).run c.P w' = .ok v w'/\R (.returned v) w') :
  ∀ (dr:List (Nat × List A)) (ds:List Deferred) (u:FrameMode) (s:S) (E:Env) (w:World),repD dr E ds->Hp w0 C0 β0 s.bx s.rw w E->A.repL s.t E tmps.toList->cC c fn.results.toList post dr u s->Leaves c.P fn tmps R ds u w
 | [],ds,u,s,E,w,hd,hp,ht,h=>by
  obtain rfl:ds=[]:=hd
  cases u with
  | returning=>exact hfin s w h ⟨E,hp,ht,rfl⟩
  | run=>exact h.elim
  | panicking ch=>exact h.elim
 | (f,args) :: r,ds,u,s,E,w,⟨d,ds',cap,hds,htg,hargs,hrest⟩,hp,ht,h=>by
  subst hds
  obtain⟨hu,u',h⟩ := h
  unfold jmh at h
  obtain⟨hcall,X,ids,ins,args',post',hn,hX,hins,hargs',hspec,hk⟩ := h
  have hcx:=tJ (pan:=fun _ _=>False) (Xr:=fun _=>true) (K:=fun _ s' => cC c fn.results.toList post r (settle u') s') (Cl:=ClD c.P f u u') ClD.mono hp hargs hn (fun _ _=>rfl) hX hins hargs' hspec (fun outs r hp hl=>hk outs r hp hl) (fun ch bx' h _ _=>h.elim)
  obtain⟨t,da⟩ := d
  simp only at htg hargs hcx
  subst htg;refine leaves_cons (f:=f) (args:=da++cap) hu (by simp[invoke,hcall]) ?_
  have hcx':CallsD c.P f (da++cap) u w fun e m w' => m=u'/\((∃ y,e = .returned y/\Left w0 C0 β0 (fun _=>true) s E w (fun _ s' => cC c fn.results.toList post r (settle u') s') y w') ∨ ∃ (ch:List PanicEntry) (s':S) (E':Env),e = .panicked ch/\False/\s'.t=s.t/\E.le E'/\Hp w0 C0 β0 s'.bx s'.rw w' E'):=hcx
  refine CallsD.mono hcx' ?_;rintro e m w' ⟨rfl,⟨y,rfl,⟨⟨r0,s',E',h1,h2,h3,h4,h5,_⟩⟩⟩ | ⟨ch,s',E',_,h,_⟩⟩
  ·exact fJ hfin r ds' _ s' E' w' (hrest.mono h3) h4 (by rw[h2];exact A.repL.mono _ h3 ht) h1
  ·exact h.elim
@[irreducible] def p8 (P:Program) (np:Nat) (pt:List (Nat × List A)->List PanicEntry->S->Prop) (qt:List (Nat × List A)->Exit->S->Prop) (dr:List (Nat × List A)) (x:Code) (s:S):Prop :=
 ∀ (w0:W0) (C0:Rd) (β0:List Nat) (a:Act) (w:World) (Q:Exit->Act->World->Prop),β0.length=np->Inv dr w0 C0 β0 s a w->(∀ dr' ch s' a' w',pt dr' ch s'->Inv dr' w0 C0 β0 s' a' w'->Q (.panic ch) a' w')->(∀ dr' e s' a' w',qt dr' e s'->Inv dr' w0 C0 β0 s' a' w'->Q e a' w')->x.wp P Q a w
def tQ (P:Program) (np:Nat) (pt:List (Nat × List A)->List PanicEntry->S->Prop) (qt:List (Nat × List A)->Exit->S->Prop) (dr:List (Nat × List A)) (y:Code) (e:Exit) (s:S):Prop:=match e with
 | .normal=>p8 P np pt qt dr y s
 | e=>qt dr e s
variable {pt:List (Nat × List A)->List PanicEntry->S->Prop} {qt:List (Nat × List A)->Exit->S->Prop} {dr:List (Nat × List A)} {s:S}
theorem wW {x:Code} (hc:c.ok) (hdr:∃ n,wR n dr=true) (hl:wR c.np dr=true ∨ yG x=true) (ho:kI c.ord x=true) (hp:∀ ch s',c.pan ch s'->pt dr ch s') (h:r5 c x s (qt dr)):p8 c.P c.np pt qt dr x s:=by
 unfold p8
 exact fun w0 C0 β0 a w Q hn hi hx hk=>gC hc hn hdr x hl (fun ch s' a' w' h1 h2=>hx dr ch s' a' w' (hp ch s' h1) h2) ho hi h fun e s' a' w' h1 h2=>hk dr e s' a' w' h1 h2
theorem jE {x y:Code} (hc:c.ok) (hdr:∃ n,wR n dr=true) (hl:wR c.np dr=true ∨ yG x=true) (ho:kI c.ord x=true) (hp:∀ ch s',c.pan ch s'->pt dr ch s') (h:r5 c x s (tQ c.P c.np pt qt dr y)):p8 c.P c.np pt qt dr (.seq x y) s:=by
 unfold p8;intro w0 C0 β0 a w Q hn hi hx hk;refine wp_seq (gC hc hn hdr x hl (fun ch s' a' w' h1 h2=>hx dr ch s' a' w' (hp ch s' h1) h2) ho hi h fun e s' a' w' h1 h2 => ?_)
 cases e with
 | normal =>
  have h1:p8 c.P c.np pt qt dr y s':=h1
  unfold p8 at h1;exact h1 w0 C0 β0 a' w' Q hn h2 hx hk
 | _=>exact hk dr _ _ _ _ h1 h2
def jqE (s:S) (fo:Operand) (xs:List Operand) (K:Nat->List A->Prop):Prop:=match ev s fo with
 | .clo f caps=>K f (xs.map (ev s)++caps)
 | .bm f fs=>K f (fs++xs.map (ev s))
 | _=>False
theorem sS {ops l2:List Oper} {Q:Exit->Act->World->Prop} (hc:c.ok) (hdr:∃ n,wR n dr=true) (hx:∀ ch s' a' w',c.pan ch s'->Inv dr w0 C0 β0 s' a' w'->Q (.panic ch) a' w'):∀ {l:List Oper} {s:S} {a:Act} {w:World} {K:S->Prop},Inv dr w0 C0 β0 s a w->iY c ops l s K->(∀ s' a' w',K s'->Inv dr w0 C0 β0 s' a' w'->wpList c.P ops.toArray Q l2 a' w')->wpList c.P ops.toArray Q (l++l2) a w
 | [],s,a,w,K,hi,h,hk=>hk s a w h hi
 | o :: r,s,a,w,K,hi,h,hk=>by
  obtain⟨E,hp,ht,hd⟩ := hi
  change nW ops o s (ado c (fun _=>true) s o fun s' => iY c ops r s' K) (kT s o.dst (.tup []) fun s' => iY c ops r s' K) at h
  refine wpList_step fun Kc hKc => ?_
  rcases xZ ht h with ⟨h1,h2⟩ | ⟨h1,h2⟩
  ·rw[if_pos h1]
   exact jeb hc hdr ⟨E,hp,ht,hd⟩ h2 hx fun s' a' w' h3 h4=>hKc _ _ (sS hc hdr hx h4 h3 hk)
  ·rw[if_neg (by rw[h1];simp)]
   obtain⟨s2,k1,k2,k3,k4,k5⟩ := qV (a:=a) hp ht hd (kY _) h2
   exact hKc _ _ (sS hc hdr hx ⟨E,by rw[k2,k3];exact hp,k4,k5⟩ k1 hk)
theorem jiR {id:Nat} {l:List Oper} {od:Oper} {fo:Operand} {xs:Array Operand} {ts:Array TypeId} {y:Code} (hc:c.ok) (hdr:∃ n,wR n dr=true) (hp:∀ ch s',c.pan ch s'->pt dr ch s') (hop:od.op = .defer ⟨.value fo,xs,ts⟩) (hg:od.guard=none) (hd:od.dst=none)
  (h:iY c (l++[od]) l s fun s' => jqE s' fo xs.toList fun f args=>p8 c.P c.np pt qt ((f,args) :: dr) y s'):p8 c.P c.np pt qt dr (.seq (.region id (l++[od]).toArray false) y) s:=by
 unfold p8;intro w0 C0 β0 a w Q hn hi hx hk;refine wp_seq (wp_region_lit (sS (l2:=[od]) (Q:=Exit.then (y.wp c.P Q) Q) hc hdr (fun ch s' a' w' h1 h2=>hx dr ch s' a' w' (hp ch s' h1) h2) hi h fun s' a' w' h1 h2 => ?_))
 refine wpList_step fun Kc hKc => ?_
 rw[if_pos (by simp[Region.wanted,hg])]
 obtain⟨E,hpp,ht,hdd⟩ := h2
 unfold jqE at h1
 split at h1
 ·rename_i f caps hev
  have hf:=jP ht fo
  rw[hev] at hf;unfold A.rep at hf
  obtain⟨us,hf,hcaps⟩ := hf
  have hrun:(execOp a'.eval od).run c.P w' = .ok (.defer { target := .fn (.func f) us,args:=xs.map a'.eval }) w':=by simp[execOp,hop,resolve,Deferred.ofValue,hf,Result.andThen]
  unfold Oper.wp;rw[hrun,Oper.upon_defer];rw[hd];unfold p8 at h1;refine hKc _ _ (h1 w0 C0 β0 _ w' Q hn ⟨E,hpp,ht,{ target := .fn (.func f) us,args:=xs.map a'.eval },a'.defers,us,rfl,rfl,?_,hdd⟩ hx hk)
  have:=A.repL_append (vW ht xs.toList) hcaps
  simpa using this
 ·rename_i f fs hev
  have hf:=jP ht fo
  rw[hev] at hf;unfold A.rep at hf
  obtain⟨us,hf,hcaps⟩ := hf
  have hrun:(execOp a'.eval od).run c.P w' = .ok (.defer { target := .fn (.func f) #[],args:=us++xs.map a'.eval }) w':=by simp[execOp,hop,resolve,Deferred.ofValue,hf,Result.andThen]
  unfold Oper.wp;rw[hrun,Oper.upon_defer];rw[hd];unfold p8 at h1;refine hKc _ _ (h1 w0 C0 β0 _ w' Q hn ⟨E,hpp,ht,{ target := .fn (.func f) #[],args:=us++xs.map a'.eval },a'.defers,#[],rfl,rfl,?_,hdd⟩ hx hk)
  have:=A.repL_append hcaps (vW ht xs.toList)
  simpa using this
 ·exact h1.elim
theorem jbE {n:Nat} {ins:List (List A)} {args:List A} {w:World} {C:Rd} {β:List Nat} {vals:List Value} (h0:Gok C w) (h1:Sub C (kJ w)) (h2:β.Nodup) (h3:∀ b ∈ β,∀ o sp,C ⟨b,o,sp⟩ = none) (h4:ins.length=β.length)
  (h5:∀ (i b:Nat) (cs:List A),β[i]? = some b->ins[i]? = some cs->boxAt w ⟨C,β,[]⟩ b cs) (h6:A.repL args ⟨C,β,[]⟩ vals) :
  Inv [] (.of w) C β ⟨args++List.replicate (n-args.length) .dead,ins,[]⟩ { tmps:=vals.toArray++Array.replicate (n-vals.toArray.size) undef,defers:=[] } w:=by
 have hl:=A.repL_len h6
 refine⟨⟨C,β,[]⟩,⟨h1,Sub.refl _,fun _ _ hc => .inl hc,⟨[],by simp,by simp⟩,h2,h3,h4,h5,rfl,fun g r y hg=>by simp at hg,fun g e k n cs y b hg=>by simp at hg,fun g e k n cs y h' e' k' n' cs' z b _ hg=>by simp at hg,fun g y hg=>by simp at hg,Keeps.refl _ _,jis h0⟩,?_,rfl⟩
 have:(vals.toArray++Array.replicate (n-vals.toArray.size) undef).toList=vals++List.replicate (n-args.length) undef:=by simp[hl]
 rw[this];exact A.repL_append h6 (nC _ _)
theorem jlw {f:Nat} {fn:Func} {x:Code} {ins:List (List A)} {args:List A} {post:List (List A)->A->Prop} (hc:c.ok) (hf:c.P.funcs[f]? = some fn) (hb:fn.body=some x) (hname:(fn.name == "runtime.NumGoroutine")=false)
  (hn:ins.length=c.np) (h:nA args->yY args (fn.ntmps-args.length) fun t=>p8 c.P c.np (fun dr ch s=>cC c fn.results.toList post dr (.panicking ch) s) (fun dr e s=>(e = .normal ∨ e = .ret)/\cC c fn.results.toList post dr .returning s) [] x ⟨t,ins,[]⟩):Spec c.P f ins args post:=by
 refine⟨nH hf hb hname,fun w C β vals h0 h1 h2 h3 h4 h5 h6 => ?_⟩;refine calls_of_wp_defers hf hb ?_
 have hinit:=initK_iff.1 (h (wC _ h6))
 have hinv:=jbE (n:=fn.ntmps) h0 h1 h2 h3 h4 h5 h6
 unfold p8 at hinit
 have hfin:∀ (tmps:Array Value) (s':S) (w':World),jgG c fn.results.toList post s'->Inv [] (.of w) C β s' { tmps:=tmps,defers:=[] } w' -> ∃ v,(results fn tmps).run c.P w' = .ok v w' /\ ∃ outs r v',Ending.returned v = .returned v'/\post outs r/\Keeps β w w'/\outs.length=β.length ∧
   (∀ (i b:Nat) (cs:List A),β[i]? = some b->outs[i]? = some cs->boxAt w' ⟨qU C w w',β,[]⟩ b cs)/\r.rep ⟨qU C w w',β,[]⟩ v':=fun tmps s' w' hr hi =>
  (jg1 (w:=w) (C:=C) (β:=β) (fn:=fn) (post:=post) hc h1 (by rw[<- h4,hn]) hr hi).2
 refine hinit (.of w) C β _ w _ (by rw[<- h4,hn]) hinv (fun dr ch s' a' w' hl ⟨E,hp,ht,hd⟩ => ?_) (fun dr e s' a' w' hl ⟨E,hp,ht,hd⟩ => ?_)
 ·exact fJ (hfin a'.tmps) dr a'.defers _ s' E w' hd hp ht hl
 ·obtain⟨he,hl⟩ := hl
  rcases he with rfl | rfl
  ·exact fJ (hfin a'.tmps) dr a'.defers _ s' E w' hd hp ht hl
  ·exact fJ (hfin a'.tmps) dr a'.defers _ s' E w' hd hp ht hl
theorem jb3 {c0:Frame} {cs:List Frame} (h:c0.mode = .returning):recoverD (c0 :: cs)=none:=by
 simp[recoverD,h]
theorem jb2 {c0:Frame} {cs:List Frame} {v:Value} {older:List PanicEntry} (h:c0.mode = .panicking (⟨v,false,false⟩ :: older)):recoverD (c0 :: cs)=some (v,{ c0 with mode := .panicking (⟨v,true,false⟩ :: older) } :: cs):=by
 simp[recoverD,h]
theorem jhP {f id d0:Nat} {fn:Func} {o0:Oper} {ts:Array TypeId} {rest:Code} {ins:List (List A)} {args:List A} {post:List (List A)->A->Prop} {u u':FrameMode} {rv:Value} (hc:c.ok) (hq:∀ ch s,¬ c.pan ch s) (hf:c.P.funcs[f]? = some fn) (hb:fn.body=some (.seq (.region id #[o0] false) rest))
  (k0:o0.op = .call ⟨.builtin .recover,#[],ts⟩ /\ o0.guard=none/\o0.dst=some d0) (hd0:d0<fn.ntmps) (hv:dG rv)
  (hu:(u = .returning/\u' = .returning/\rv = .nilIface) ∨ ∃ v older,u = .panicking (⟨v,false,false⟩ :: older)/\u' = .panicking (⟨v,true,false⟩ :: older)/\rv=v)
  (hn:ins.length=c.np) (h:nA args->yY args (fn.ntmps-args.length) fun t=>Ok c rest ⟨t.set d0 (.v rv),ins,[]⟩ (jfX c fn.results.toList post)):jbb (ClD c.P f u u') ins args post fun _=>False:=by
 intro w C β vals h0 h1 h2 h3 h4 h5 h6;unfold ClD
 refine callsD_of_wpS hf hb fun c0 cs hu0=>wpS_seq (wpS_region ?_)
 have hinit:=initK_iff.1 (h (wC _ h6))
 have hinv:=jbE (n:=fn.ntmps) h0 h1 h2 h3 h4 h5 h6
 have hnp:β.length=c.np:=by rw[<- h4,hn]
 generalize hA:({ tmps:=vals.toArray++Array.replicate (fn.ntmps-vals.toArray.size) undef,defers:=[] } : Act)=a0 at *
 have hsz:d0<a0.tmps.size:=by rw[<- hA];simp;omega
 obtain⟨E,hp,ht,hd⟩ := hinv
 have hi2:Inv [] (.of w) C β ⟨(args++List.replicate (fn.ntmps-args.length) A.dead).set d0 (.v rv),ins,[]⟩ (a0.put (some d0) rv) w:=by
  refine⟨E,hp,?_,hd⟩
  show A.repL _ E (a0.tmps.setIfInBounds d0 rv).toList
  rw[Array.toList_setIfInBounds];exact A.repL_set ht d0 (A.rep_v hv)
 have e0:(execOp a0.eval o0).run c.P w = .ok .recover w:=by
  simp[execOp,k0.1,resolve,invoke,Result.andThen]
  rfl
 have hrange:List.range (#[o0]:Array Oper).size=[0]:=rfl
 rw[hrange]
 have g0:(#[o0]:Array Oper)[0]? = some o0:=rfl
 have w0':∀ y,Region.wanted o0 y=true:=fun y=>by simp[Region.wanted,k0.2.1]
 simp only[wpOpsS,g0,w0',if_true,e0];unfold Ok OkD at hinit
 have fin:∀ cs',cs' = { c0 with mode:=u' } :: cs->rest.wpS c.P (bodyPostS c.P fn c0 cs fun e m w' => m=u'/\((∃ outs r v,e = .returned v/\post outs r/\Keeps β w w'/\outs.length=β.length ∧
   (∀ (i b:Nat) (cs:List A),β[i]? = some b->outs[i]? = some cs->boxAt w' ⟨qU C w w',β,[]⟩ b cs)/\r.rep ⟨qU C w w',β,[]⟩ v) ∨
   ∃ (ch:List PanicEntry) (ns:List Nat),e = .panicked ch/\False/\Keeps β w w'/\ns.length=β.length /\ ∀ (i b n:Nat),β[i]? = some b->ns[i]? = some n->boxAt w' ⟨C,β,[]⟩ b (List.replicate n .dead))) (a0.put (some d0) rv) cs' w:=fun cs' hcs=>by
  subst hcs;refine wpS_of_wp ?_
  refine hinit (.of w) C β _ w _ hnp hi2 (fun ch s' _ _ hh _=>absurd hh (hq ch s')) fun e s' a' w' he hi => ?_
  have ff:=fun (hr:jgG c fn.results.toList post s')=>jg1 (w:=w) (C:=C) (β:=β) (fn:=fn) (post:=post) hc h1 hnp hr hi
  cases e with
  | normal=>obtain⟨q1,v,q2,q3⟩ := ff he;exact⟨q1,u',rfl,v,q2,rfl,.inl q3⟩
  | ret=>obtain⟨q1,v,q2,q3⟩ := ff he;exact⟨q1,u',rfl,v,q2,rfl,.inl q3⟩
  | _=>exact he.elim
 rcases hu with ⟨rfl,rfl,rfl⟩ | ⟨v,older,rfl,rfl,rfl⟩
 ·rw[jb3 hu0];simp only[k0.2.2];exact fin _ (by rw[<- hu0])
 ·rw[jb2 hu0];simp only[k0.2.2];exact fin _ rfl
end
end
end Go.Proofs.YtgifglkkmhapiaaGreatDoor.Vm
namespace Go.Proofs.YtgifglkkmhapiaaGreatDoor.Vm
open Go.RowKit Go.Shelf
theorem jgu (u:Ut):jbb (ClD Tryz.prog 22 .returning .returning) [utA u,[jJ 0],[jJ 0]] [.box 0 0,.box 1 0,.box 2 0] (fun o r=>o=[utA u,[jJ 0],[jJ 0]]/\r = .tup []) fun _=>False:=by
 refine jhP (jF jod (fun _=>[0,1,2]) 3) (fun _ _ h=>h) Tryz.func22 rfl (d0:=6) ⟨rfl,rfl,rfl⟩ (by decide) (rv := .nilIface) trivial (.inl ⟨rfl,rfl,rfl⟩) rfl ?_;intro _;conv=>whnf
 refine kL (jF _ _ _) (by kernel_rfl) ?_;conv=>whnf
 exact⟨rfl,rfl⟩
theorem jgt (x e:Int) (hx:okE x e) (c0 c1 c2 b1 b2:A):jbb (ClD Tryz.prog 22 (.panicking (qK x e)) (.panicking [⟨.iface 66 (.agg #[.int .i64 x,.int .i64 e]),true,false⟩])) [[c0,c1,c2],[b1],[b2]] [.box 0 0,.box 1 0,.box 2 0]
  (fun o r=>o=[e7,[jJ x],[jJ e]]/\r = .tup []) fun _=>False:=by
 obtain⟨hx,he⟩ := hx
 refine jhP (jF jod (fun _=>[0,1,2]) 3) (fun _ _ h=>h) Tryz.func22 rfl (d0:=6) ⟨rfl,rfl,rfl⟩ (by decide) (rv := .iface 66 (.agg #[.int .i64 x,.int .i64 e])) trivial (.inr ⟨_,[],rfl,rfl,rfl⟩) rfl ?_;intro _;conv=>whnf
 refine kL (jF _ _ _) (by kernel_rfl) ?_;conv=>whnf
 refine⟨?_,?_⟩
 ·intro u hu
  simp at hu
  rcases hu with rfl | rfl
  ·exact okV_int.2 (jS (by omega))
  ·exact okV_int.2 (jS (by omega))
 conv=>whnf
 exact⟨rfl,rfl⟩
def jkO:PU->A
 | .ok u => .tup [.agg (utA u),jJ 0,jJ 0]
 | .bad x e => .tup [.agg e7,jJ x,jJ e]
def jow (p:PU) (ch:List PanicEntry) (s:S):Prop := ∃ (x e:Int) (c0 c1 c2:A) (bx:List (List A)) (a b:A) (t:List A),p = .bad x e/\okE x e/\ch=qK x e/\s.bx=e7 :: [jJ 0] :: [jJ 0] :: bx/\s.t=a :: b :: .box 0 0 :: .box 1 0 :: .box 2 0 :: t/\s.rw=[]
theorem jqx {l:List (List A)} {a b c d:List A} (h:l.length=4) (k:∀ j,j ≠ 3->l[j]? = [a,b,c,d][j]?):∃ d',l=[a,b,c,d']:=by
 match l,h with
 | [x,y,z,w],_ =>
  have h0:=k 0 (by decide)
  have h1:=k 1 (by decide)
  have h2:=k 2 (by decide)
  simp at h0 h1 h2
  exact⟨w,by rw[h0,h1,h2]⟩
def iK (id:Nat):Tr:=match Nat.beq id 5 with
 | true => .q 0 3 (.alt 1 2 (.alt 2 2 (.alt 3 2 (.alt 4 2 (.alt 5 2 .nil .nil) .nil) .nil) (.alt 3 2 (.alt 2 2 (.alt 4 2 (.alt 5 2 .nil .nil) .nil) (.alt 4 2 (.alt 2 2 (.alt 5 2 .nil .nil) .nil) .nil)) .nil)) (.alt 2 2 (.alt 1 2 (.alt 3 2 (.alt 4 2 (.alt 5 2 .nil .nil) .nil) .nil) (.alt 3 2 (.alt 1 2 (.alt 4 2 (.alt 5 2 .nil .nil) .nil) .nil) .nil)) (.alt 3 2 (.alt 1 2 (.alt 2 2 (.alt 4 2 (.alt 5 2 .nil .nil) .nil) (.alt 4 2 (.alt 2 2 (.alt 5 2 .nil .nil) .nil) .nil)) (.alt 2 2 (.alt 1 2 (.alt 4 2 (.alt 5 2 .nil .nil) .nil) .nil) .nil)) .nil)))
 | false => .nil
theorem jgx (s:ByteArray) (hs:s.size<=1000000000):Spec Tryz.prog 7 [] [j0 s] fun _ r=>r=jkO (rW s):=by
 obtain⟨R,hR⟩ : ∃ R,rW s=R:=⟨_,rfl⟩
 rw[hR]
 have htk:=jfv s hs
 have hpan:∀ (ch:List PanicEntry) (s':S),jow R ch s'->cC ⟨Tryz.prog,tab,iK,fun _=>[0],0,fun _ _=>False⟩ Tryz.f7.results.toList (fun _ r=>r=jkO R) [(22,[.box 0 0,.box 1 0,.box 2 0])] (.panicking ch) s':=fun ch s' hP=>by
  obtain⟨x,e,c0,c1,c2,bx,a,b,t0,hRe,hran,rfl,hbx,ht,hrw⟩ := hP
  obtain⟨t,bx',rw'⟩ := s'
  simp only at hbx hrw ht
  subst hbx hrw ht;subst hRe;unfold cC;refine⟨(fun h=>by cases h),FrameMode.panicking [⟨.iface 66 (.agg #[.int .i64 x,.int .i64 e]),true,false⟩],?_⟩;unfold jmh;refine⟨fun vs w=>rfl,[0,1,2],[],[e7,[jJ 0],[jJ 0]],[.box 0 0,.box 1 0,.box 2 0],fun o r=>o=[e7,[jJ x],[jJ e]]/\r = .tup [],by decide,?_,rfl,rfl,fun _=>jgt x e hran _ _ _ _ _,?_⟩
  ·intro i hi;simp only[List.length_cons]
   simp at hi
   omega
  rintro o r ⟨rfl,rfl⟩ _;conv=>whnf
  rfl
 refine jlw (jF iK (fun _=>[0]) 0) Tryz.func7 rfl (by kernel_rfl) rfl ?_;intro _;conv=>whnf
 refine jE (jF iK (fun _=>[0]) 0) (dr:=[]) ⟨0,rfl⟩ (.inl rfl) (by kernel_rfl) (fun _ _ h=>h.elim) ?_;conv=>whnf
 refine jE (jF iK (fun _=>[0]) 0) (dr:=[]) ⟨0,rfl⟩ (.inl rfl) (by kernel_rfl) (fun _ _ h=>h.elim) ?_;conv=>whnf
 unfold rW at hR
 by_cases hbig:3000<s.size
 ·rw[if_pos hbig] at hR;rw[qH (by omega)];conv=>whnf
  refine⟨.inr rfl,?_⟩;conv=>whnf
  subst hR;rfl
 rw[if_neg hbig] at hR;rw[j8 (by omega)];conv=>whnf
 refine jE (jF iK (fun _=>[0]) 0) (dr:=[]) ⟨0,rfl⟩ (.inl rfl) (by kernel_rfl) (fun _ _ h=>h.elim) ?_;conv=>whnf
 refine yI [] htk ?_;rintro r rfl
 have htb:=fun h=>jnc (s:=s) (by omega) h
 unfold jge
 cases herr:(qW s).err with
 | some pe =>
  obtain⟨p,e⟩ := pe
  rw[herr] at hR
  simp only at hR
  have hne:=(gR (s.data.toList.length+1) 0 s.data.toList).2 p e herr
  conv=>whnf
  refine jE (jF iK (fun _=>[0]) 0) (dr:=[]) ⟨0,rfl⟩ (.inl rfl) (by kernel_rfl) (fun _ _ h=>h.elim) ?_;conv=>whnf
  rw[j8 hne.2.1];conv=>whnf
  apply jmE
  ·repeat' (first | (with_reducible refine And.intro ?_ ?_) | (conv=>whnf))
  conv=>whnf
  refine⟨.inr rfl,?_⟩;conv=>whnf
  subst hR;rfl
 | none =>
  rw[herr] at hR
  simp only at hR
  have htb:=htb herr
  have hrl:=vK herr
  rw[<- hrl]
  have hln:(qW s).toks.length+1=(eM s).length:=by rw[hrl];simp
  rw[hln];generalize eM s=T at *;conv=>whnf
  refine jE (jF iK (fun _=>[0]) 0) (dr:=[]) ⟨0,rfl⟩ (.inl rfl) (by kernel_rfl) (fun _ _ h=>h.elim) ?_;conv=>whnf
  refine jiR (jF iK (fun _=>[0]) 0) ⟨0,rfl⟩ (fun _ _ h=>h.elim) (l:=[_]) rfl rfl rfl ?_;conv=>whnf
  have hpg:=jdk T htb
  have hsan:=fun x e=>jkX htb (x:=x) (e:=e)
  rw[hR] at hpg;refine jE (c:=⟨Tryz.prog,tab,iK,fun _=>[0],0,jow R⟩) (wB _ _ _ _) ⟨3,rfl⟩ (.inr (by kernel_rfl)) (by kernel_rfl) hpan ?_;conv=>whnf
  refine jmn 3 [] rfl rfl rfl rfl (fun _=>hpg) (fun ch bx' hp hbl hbx => ?_) ?_
  ·unfold puQ at hp
   split at hp
   ·rename_i x e
    obtain⟨d',rfl⟩ := jqx hbl hbx
    exact⟨x,e,.dead,.dead,.dead,_,_,_,_,rfl,hsan _ _ hR,hp,rfl,rfl,rfl⟩
   ·exact hp.elim
  rintro o r ⟨⟨nm,ts1,ho⟩,huo⟩;cases ho;unfold uoQ at huo
  split at huo
  rotate_left
  ·exact huo.elim
  rename_i u
  subst huo;conv=>whnf
  refine wW (c:=⟨Tryz.prog,tab,iK,fun _=>[0],0,jow (.ok u)⟩) (wB _ _ _ _) ⟨3,rfl⟩ (.inr (by kernel_rfl)) (by kernel_rfl) hpan ?_;conv=>whnf
  refine⟨.inr rfl,?_⟩;unfold cC;refine⟨(fun h=>by cases h),FrameMode.returning,?_⟩;unfold jmh;refine⟨fun vs w=>rfl,[0,1,2],[],[utA u,[jJ 0],[jJ 0]],[.box 0 0,.box 1 0,.box 2 0],fun o r=>o=[utA u,[jJ 0],[jJ 0]]/\r = .tup [],by decide,?_,rfl,rfl,fun _=>jgu u,?_⟩
  ·intro i hi;simp only[List.length_cons]
   simp at hi
   omega
  rintro o r ⟨rfl,rfl⟩ _;conv=>whnf
  rfl
end Go.Proofs.YtgifglkkmhapiaaGreatDoor.Vm
namespace Go.Proofs.YtgifglkkmhapiaaGreatDoor.Vm
open Go.RowKit
section
end
section
end
section
end
end Go.Proofs.YtgifglkkmhapiaaGreatDoor.Vm
namespace Go.Proofs.YtgifglkkmhapiaaGreatDoor.Vm
open Go.RowKit Go.Shelf
structure Ks (T:List Tk):Prop where
 t:∀ t ∈ T,K6 t
 n:T.length<=1000000
 w:TkW T
structure S6 where
 i:Nat
 a:Int
 e:Int
section
variable {T:List Tk}
end
section
variable {T:List Tk}
end
section
variable {T:List Tk}
def opsA:List A:=[.v (.slice none 0 0),.sl 1 1 [j0 pOr],.sl 1 1 [j0 yP],.v (.slice none 0 0),.sl 1 6 [j0 pLt,j0 pLe,j0 pGt,j0 pGe,j0 jpl,j0 pNe],.sl 1 2 [j0 wH,j0 pMinus],.sl 1 2 [j0 z7,j0 qJ]]
end
section
variable {T:List Tk}
end
section
variable {T:List Tk}
end
section
variable {T:List Tk}
end
section
variable {T:List Tk}
end
section
variable {T:List Tk}
end
end Go.Proofs.YtgifglkkmhapiaaGreatDoor.Vm
namespace Go.Proofs.YtgifglkkmhapiaaGreatDoor.Vm
open Go.RowKit
section
section
variable {w0:W0} {C0:Rd} {β0:List Nat} {bx:List (List A)} {rw:List Row} {w:World} {E:Env}
end
section
variable {P:Program} {pan:List PanicEntry->S->Prop} {Xr:Nat->Bool} {f:Nat} {s:S} {K:A->S->Prop} {post:List A->A->Prop}
end
end
end Go.Proofs.YtgifglkkmhapiaaGreatDoor.Vm
namespace Go.Proofs.YtgifglkkmhapiaaGreatDoor.Vm
open Go.RowKit Go.Shelf
section
variable {T:List Tk}
end
section
variable {T:List Tk}
end
section
end
section
end
section
end
section
end
section
end
section
end
end Go.Proofs.YtgifglkkmhapiaaGreatDoor.Vm
namespace Go.Proofs.YtgifglkkmhapiaaGreatDoor.Vm
open Go.RowKit
def sZ (n:Int):Int:=if n<0 then -(n+1) else n
def gN (n m:Int):Int:=(sZ n).tmod m
theorem jdG {n:Int} (hn : -9223372036854775808<=n/\n<=9223372036854775807):0<=sZ n/\sZ n<=9223372036854775807:=by unfold sZ;split <;> omega
theorem jdL {n m:Int} (hn : -9223372036854775808<=n/\n<=9223372036854775807) (hm:1<=m):0<=gN n m/\gN n m<m:=by
 have h:=jdG hn
 unfold gN;rw[Int.tmod_eq_emod_of_nonneg h.1];exact⟨Int.emod_nonneg _ (by omega),Int.emod_lt_of_pos _ (by omega)⟩
theorem rB (n m:Int) (hm:1<=m/\m<=9223372036854775807):Spec Tryz.prog 27 [] [jJ n,jJ m] fun _ r=>(-9223372036854775808<=n/\n<=9223372036854775807)/\r=jJ (gN n m):=by
 refine eN jH jY 0 Tryz.func27 rfl ?_;intro hok
 have hn : -9223372036854775808<=n/\n<=9223372036854775807:=okA_int.1 hok.1
 have hab:=jdG hn
 conv=>whnf
 by_cases h:n<0
 ·refine kE (b:=decide (n<0)) (qH h) ?_;conv=>whnf
  refine⟨jS (by omega),?_⟩;conv=>whnf
  refine⟨jS (by omega),?_⟩;conv=>whnf
  refine⟨by omega,?_⟩;conv=>whnf
  refine⟨hn,?_⟩
  have:0-(n+1)=sZ n:=by unfold sZ;rw[if_pos h];omega
  rw[this];rfl
 ·refine qP (b:=decide (n<0)) (j8 h) ?_;conv=>whnf
  refine⟨by omega,?_⟩;conv=>whnf
  refine⟨hn,?_⟩
  have:n=sZ n:=by unfold sZ;rw[if_neg h]
  show A.v (.int .i64 (n.tmod m))=jJ ((sZ n).tmod m)
  rw[<- this];rfl
end Go.Proofs.YtgifglkkmhapiaaGreatDoor.Vm
namespace Go.Proofs.YtgifglkkmhapiaaGreatDoor.Vm
open Go.RowKit Go.Shelf
section
end
def bxG (l:List Int) (i:Nat):List A:=[.sl 1 l.length (bF l),.v (.int .i64 i)]
def jrx:List ByteArray:=[⟨#[100]⟩,⟨#[100,100,49]⟩,⟨#[118]⟩,⟨#[119,50]⟩]
def jrI:List Int:=[0,1,2,3,7,100,2147483647,30]
def opL:List ByteArray:=[wH,pMinus,z7,qJ]
inductive EI:Nat->Nt->Prop
 | lit (d:Nat) (n:Int) (h:n ∈ jrI):EI d (.mk 12 n eB [])
 | var (d:Nat) (s:ByteArray) (h:s ∈ jrx):EI d (.mk 14 0 s [])
 | nam (d:Nat) (s:ByteArray) (h:s ∈ builtL):EI d (.mk 15 0 s [])
 | drw (d:Nat) (f:Nt) (h:EI d f):EI (d+1) (.mk 16 0 eB [f])
 | neg (d:Nat) (f:Nt) (h:EI d f):EI (d+1) (.mk 17 0 pMinus [f])
 | bin (d:Nat) (s:ByteArray) (f g:Nt) (hs:s ∈ opL) (h1:EI d f) (h2:EI d g):EI (d+1) (.mk 18 0 s [f,g])
def jfS:List ByteArray:=[yP,pOr]
inductive EB:Nat->Nt->Prop
 | lit (d n:Nat) (h:n<2):EB d (.mk 13 n eB [])
 | nt (d:Nat) (f:Nt) (h:EB d f):EB (d+1) (.mk 17 0 zH [f])
 | bin (d:Nat) (s:ByteArray) (f g:Nt) (hs:s ∈ jfS) (h1:EB d f) (h2:EB d g):EB (d+1) (.mk 18 0 s [f,g])
 | cmp (d:Nat) (s:ByteArray) (f g:Nt) (hs:s ∈ cmpL) (h1:EI (d-1) f) (h2:EI (d-1) g):EB d (.mk 18 0 s [f,g])
inductive ES:Nat->Nt->Prop
 | asg (d e:Nat) (s:ByteArray) (f:Nt) (hs:s ∈ jrx) (h:EI e f) (he:e<=2):ES d (.mk 1 0 s [f])
 | snd (d n:Nat) (f g h:Nt) (hn:n<4) (h1:EI 0 f) (h2:EI 1 g) (h3:EI 1 h):ES d (.mk 4 n eB [f,g,h])
 | tim (d n:Nat) (hn:n<3):ES d (.mk 5 n eB [])
 | can (d n:Nat) (hn:n<3):ES d (.mk 6 n eB [])
 | syn (d:Nat):ES d (.mk 7 0 eB [])
 | rep (d:Nat) (f g:Nt) (h1:EI 0 f) (h2:EI 1 g):ES d (.mk 8 0 eB [f,g])
 | fai (d:Nat) (f:Nt) (h1:EI 1 f):ES d (.mk 9 0 eB [f])
 | stp (d:Nat):ES d (.mk 10 0 eB [])
 | whi (d:Nat) (c:Nt) (l:List Nt) (h1:EB 1 c) (h2:l.length<=2) (h3:∀ s ∈ l,ES d s):ES (d+1) (.mk 3 0 eB [c,zD l])
 | iff (d:Nat) (c:Nt) (l m:List Nt) (h1:EB 2 c) (h2:l.length<=2) (h3:∀ s ∈ l,ES d s) (h4:m.length<=2) (h5:∀ s ∈ m,ES d s):ES (d+1) (.mk 2 0 eB [c,zD l,zD m])
section
end
theorem jrl (l:List Int) (most:Nat) (hm:most<=1000):Spec Tryz.prog 9 [] [.sl 1 l.length (bF l),.v (.int .i64 most)] fun _ r=>r = .sl 1 (l.take most).length (bF (l.take most)):=by
 refine eN jH jY 0 Tryz.func9 rfl ?_;intro hok
 have e1:(min (l.length:Int) (most:Int)).toNat-Int.toNat 0=(l.take most).length:=by rw[List.length_take];omega
 have e2:List.take ((l.take most).length*1) (List.drop (Int.toNat 0*1) (bF l))=bF (l.take most):=by
  rw[Nat.mul_one,List.length_take];simp only[bF,Int.toNat_zero,Nat.zero_mul,List.drop_zero];rw[<- List.map_take]
  congr 1
  rcases Nat.le_total most l.length with h | h
  ·rw[Nat.min_eq_left h]
  ·rw[Nat.min_eq_right h,List.take_of_length_le h,List.take_of_length_le (Nat.le_refl _)]
 have e3:(l.take most).length<=most:=by rw[List.length_take];omega
 conv=>whnf
 (refine uI ?_;try with_reducible exact trivial)
 rw[e1,e2];generalize l.take most=L at *;refine⟨⟨by unfold maxLen;omega,by omega⟩,?_⟩;conv=>whnf
 rfl
def tU (n:Nat):List UInt8:=if h:n=0 then [] else tU (n / 10)++[UInt8.ofNat (48+n % 10)]
decreasing_by omega
theorem aW:tU 0=[]:=by unfold tU;simp
theorem vX {n:Nat} (h:n ≠ 0):tU n=tU (n / 10)++[UInt8.ofNat (48+n % 10)]:=by
 rw[tU];simp[h]
def qF (n:Nat):List UInt8:=if n=0 then [48] else tU n
theorem je7:∀ (k n:Nat),n<10 ^ k->(tU n).length<=k
 | k,0,_=>by rw[aW];simp
 | 0,n+1,h=>by simp at h
 | k+1,n+1,h=>by
  rw[vX (by omega),List.length_append]
  have:=je7 k ((n+1) / 10) (by rw[Nat.pow_succ] at h;omega)
  simp only[List.length_cons,List.length_nil];omega
theorem wK (n:Nat) (hn:n<1000000000000):(bs (qF n)).size<=12:=by
 rw[xJ];unfold qF
 split
 ·decide
 ·exact je7 12 n hn
def yZ (a:ByteArray):UInt8:=a.data.toList.getD (a.size-1) 0
def qA (a:ByteArray):UInt8:=a.data.toList.getD 0 0
def jA (a b:ByteArray):ByteArray:=if a = ⟨#[]⟩ then a++b else if b = ⟨#[]⟩ then a++b else if zE (yZ a)=false then a++b else if zE (qA b)=false then a++b else a ++ ⟨#[32]⟩ ++ b
theorem z6 {a:ByteArray} (h:a ≠ ⟨#[]⟩):0<a.size:=by
 refine Nat.pos_of_ne_zero fun h0=>h ?_
 apply ByteArray.ext
 exact Array.eq_empty_of_size_eq_zero h0
theorem jB (a b:ByteArray):(jA a b).size<=a.size+b.size+1:=by
 have h:(⟨#[32]⟩ : ByteArray).size=1:=rfl
 unfold jA
 repeat' split
 all_goals (simp only[ByteArray.size_append];omega)
def tsz (l:List ByteArray):Nat:=(l.map fun x=>x.size+1).sum
def qM (l:List ByteArray):ByteArray:=l.foldl jA ⟨#[]⟩
theorem kQ (x:ByteArray) (l:List ByteArray):tsz (x :: l)=(x.size+1)+tsz l:=by unfold tsz;simp
theorem jfw (l:List ByteArray) (x:ByteArray):tsz (l++[x])=tsz l+(x.size+1):=by unfold tsz;simp
theorem oR (l:List ByteArray) (x:ByteArray):qM (l++[x])=jA (qM l) x:=by unfold qM;rw[List.foldl_append];rfl
theorem jbf (l:List ByteArray):∀ j,j<=l.length->(qM (l.take j)).size<=tsz (l.take j)
 | 0,_=>by rw[List.take_zero];exact Nat.zero_le _
 | j+1,h=>by
  have ih:=jbf l j (by omega)
  rw[List.take_succ_eq_append_getElem (by omega),oR,jfw]
  have:=jB (qM (l.take j)) (l[j]'(by omega))
  omega
theorem aR (l:List ByteArray):(qM l).size<=tsz l:=by
 have:=jbf l l.length (Nat.le_refl _)
 rwa [List.take_length] at this
def jL (k:Int) (s:ByteArray):Int:=if k=17 then (if s=zH then 3 else 7) else if k ≠ 18 then 8 else if s=pOr then 1 else if s=yP then 2 else if s=wH then 5 else if s=pMinus then 5 else if s=z7 then 6 else if s=qJ then 6 else 4
theorem fP (k:Int) (s:ByteArray):1<=jL k s/\jL k s<=8:=by
 unfold jL
 repeat' split
 all_goals decide
def aK (p req:Int) (full:Bool) (b:ByteArray):ByteArray:=if p<req then pLp++b++pRp else if full=true then (if p<8 then pLp++b++pRp else b) else b
def noG:Int->ByteArray:=fun _=>eB
def tfB (n:Int):ByteArray:=[cZ,oQ].getD (gN n 2).toNat eB
def jqv (k n:Int) (s:ByteArray) (g:List (Int->ByteArray)):ByteArray :=
 if k=12 then bs (qF n.toNat)
 else if k=13 then tfB n
 else if k=16 then qM [wDraw,pLp,(g.getD 0 noG) 1,pRp]
 else if k=17 then qM [s,(g.getD 0 noG) (jL k s)]
 else if k=18 then qM [(g.getD 0 noG) (if jL k s=4 then 5 else jL k s),s,(g.getD 1 noG) (jL k s+1)]
 else s
mutual
def zK (full:Bool):Nt->Int->ByteArray
 | .mk k n s kids,req=>aK (jL k s) req full (jqv k n s (jrp full kids))
def jrp (full:Bool):List Nt->List (Int->ByteArray)
 | []=>[]
 | f :: l=>zK full f :: jrp full l
end
theorem jiU (p req:Int) (full:Bool) (b:ByteArray):(aK p req full b).size<=b.size+2:=by
 unfold aK
 have h1:pLp.size=1:=rfl
 have h2:pRp.size=1:=rfl
 repeat' split
 all_goals (try simp only[ByteArray.size_append]);omega
theorem joj (f:Nt):jM 4 0 (qG [f])=ntA f:=xA [f] 0 (by simp)
theorem jlc (f g:Nt):jM 4 0 (qG [f,g])=ntA f:=xA [f,g] 0 (by simp)
theorem jld (f g:Nt):jM 4 1 (qG [f,g])=ntA g:=xA [f,g] 1 (by simp)
def cI:Nat->Nat
 | 0=>14
 | d+1=>2*cI d+20
theorem jhg:∀ d,14<=cI d
 | 0=>Nat.le_refl _
 | d+1=>by unfold cI;omega
theorem jig:∀ s ∈ builtL,s.size<=12:=by decide
def cmF (l:List ByteArray):ByteArray:=match l with
 | []=>eB
 | x :: l=>l.foldl (fun a y=>jA (a++pComma) y) (jA eB x)
theorem mP (x:ByteArray) (l:List ByteArray) (y:ByteArray):cmF (x :: l++[y])=jA (cmF (x :: l)++pComma) y:=by
 unfold cmF
 show (l++[y]).foldl _ _=_
 rw[List.foldl_append];rfl
theorem jjU:∀ (l:List ByteArray),(cmF l).size<=tsz l+l.length:=fun l=>by
 induction h:l.length generalizing l with
 | zero=>rw[List.eq_nil_of_length_eq_zero h];exact Nat.zero_le _
 | succ n ih =>
  obtain⟨m,y,rfl⟩ : ∃ m y,l=m++[y]:=by
   have hne:l ≠ []:=fun e=>by rw[e] at h;cases h
   exact⟨l.dropLast,l.getLast hne,(List.dropLast_concat_getLast hne).symm⟩
  have hm:m.length=n:=by simpa using h
  have:=ih m hm
  rw[jfw]
  cases m with
  | nil =>
   show (jA eB y).size<=_
   have:=jB eB y
   have e0:eB.size=0:=rfl
   omega
  | cons x m =>
   rw[mP]
   have g:=jB (cmF (x :: m)++pComma) y
   have e1:pComma.size=1:=rfl
   rw[ByteArray.size_append] at g;omega
def zG (full:Bool) (l:List Nt):ByteArray:=cmF (l.map fun f=>zK full f 1)++pSemi
def syncB:ByteArray:=⟨#[115,121,110,99,59]⟩
def stopB:ByteArray:=⟨#[115,116,111,112,59]⟩
def kid (l:List Nt) (i:Nat):Nt:=l.getD i (.mk 0 0 eB [])
def stB (full:Bool) (k n:Int) (s:ByteArray) (kids:List Nt) (bks:List ByteArray):ByteArray :=
 if k=1 then qM [s,pEq,zG full kids]
 else if k=3 then qM [wWhile,zK full (kid kids 0) 1,bks.getD 1 eB]
 else if k=4 then qM [wSend,zK full (kid kids 0) 1,pComma,bs (qF n.toNat),pComma,zG full (kids.drop 1)]
 else if k=5 then qM [wTimer,bs (qF n.toNat),pSemi]
 else if k=6 then qM [wCancel,bs (qF n.toNat),pSemi]
 else if k=7 then syncB
 else if k=10 then stopB
 else if k=8 then qM [wReply,zG full kids]
 else if k=9 then qM [wFail,zG full kids]
 else if 0<(kid kids 2).kids.length then qM [qM [wIf,zK full (kid kids 0) 1,bks.getD 1 eB],wElse,bks.getD 2 eB] else qM [wIf,zK full (kid kids 0) 1,bks.getD 1 eB]
mutual
def aG (full:Bool):Nt->ByteArray
 | .mk k n s kids=>stB full k n s kids (jqu full kids)
def gO (full:Bool):Nt->ByteArray
 | .mk _ _ _ kids=>(jno full kids).foldl jA pLb++pRb
def jno (full:Bool):List Nt->List ByteArray
 | []=>[]
 | f :: l=>aG full f :: jno full l
def jqu (full:Bool):List Nt->List ByteArray
 | []=>[]
 | f :: l=>gO full f :: jqu full l
end
theorem jok (f g h:Nt):jM 4 0 (qG [f,g,h])=ntA f/\jM 4 1 (qG [f,g,h])=ntA g/\jM 4 2 (qG [f,g,h])=ntA h:=⟨xA [f,g,h] 0 (by simp),xA [f,g,h] 1 (by simp),xA [f,g,h] 2 (by simp)⟩
theorem jfo (full:Bool):∀ l:List Nt,jno full l=l.map (aG full)
 | []=>rfl
 | f :: l=>by rw[jno,jfo full l];rfl
def bkL (full:Bool) (l:List Nt):ByteArray:=(l.map (aG full)).foldl jA pLb
theorem jjK (full:Bool) (l:List Nt) (f:Nt):bkL full (l++[f])=jA (bkL full l) (aG full f):=by
 unfold bkL;rw[List.map_append,List.foldl_append];rfl
theorem jfP (full:Bool) (k n:Int) (s:ByteArray) (l:List Nt):gO full (.mk k n s l)=bkL full l++pRb:=by
 rw[gO,jfo];rfl
def cS:Nat->Nat
 | 0=>900
 | d+1=>700+3*(3*cS d+10)
theorem dP:∀ d,900<=cS d
 | 0=>Nat.le_refl _
 | d+1=>by have:=dP d;unfold cS;omega
def wMsgS:ByteArray:=⟨#[109,101,115,115,97,103,101,32]⟩
def wTimS:ByteArray:=⟨#[116,105,109,101,114,32]⟩
def hdW (n:Int):ByteArray:=if n=1 then wRequest else if 10<=n then wMsgS++bs (qF (n-10).toNat) else if 2<=n then wTimS++bs (qF (n-2).toNat) else wStart
def hdN (full:Bool) (h:Int × Nt):ByteArray:=qM [wOn,hdW h.1,gO full h.2]
def uZ (l:List ByteArray):ByteArray:=match l with
 | []=>eB
 | x :: l=>l.foldl (fun a y=>a++pComma++y) (eB++x)
theorem jeI (x:ByteArray) (l:List ByteArray) (y:ByteArray):uZ (x :: l++[y])=uZ (x :: l)++pComma++y:=by
 unfold uZ
 show (l++[y]).foldl _ _=_
 rw[List.foldl_append];rfl
theorem jkx (l:List ByteArray) (j:Nat) (h:j<l.length):uZ (l.take (j+1))=(if 0<j then uZ (l.take j)++pComma else uZ (l.take j))++l[j]:=by
 rw[List.take_succ_eq_append_getElem h]
 by_cases h0:0<j
 ·rw[if_pos h0]
  cases hq:l.take j with
  | nil =>
   have:=congrArg List.length hq
   rw[List.length_take,List.length_nil] at this;omega
  | cons a b=>exact jeI _ _ _
 ·rw[if_neg h0]
  obtain rfl:j=0:=by omega
  rfl
theorem d8 (l:List ByteArray) (hs:∀ x ∈ l,x.size<=100):∀ j,j<=l.length->(uZ (l.take j)).size<=j*101
 | 0,_=>by rw[List.take_zero];exact Nat.zero_le _
 | j+1,h=>by
  have ih:=d8 l hs j (by omega)
  have:=hs _ (List.getElem_mem (show j<l.length by omega))
  have e1:pComma.size=1:=rfl
  rw[jkx l j (by omega),ByteArray.size_append]
  split
  ·rw[ByteArray.size_append];omega
  ·omega
def spB:ByteArray:=⟨#[32]⟩
def nmF (w:ByteArray) (l:List ByteArray):ByteArray:=if uZ l = ⟨#[]⟩ then ⟨#[]⟩ else w++spB++uZ l++pSemi
theorem jeN (w:ByteArray) (l:List ByteArray) (hl:l.length<=20) (hs:∀ x ∈ l,x.size<=100) (hw:w.size<=20):(nmF w l).size<=2100:=by
 have h:=d8 l hs l.length (Nat.le_refl _)
 rw[List.take_length] at h
 have a1:spB.size=1:=rfl
 have a2:pSemi.size=1:=rfl
 unfold nmF
 split
 ·exact (by decide:(⟨#[]⟩ : ByteArray).size<=2100)
 ·simp only[ByteArray.size_append];omega
def r7 (full:Bool) (a:ByteArray) (l:List (Int × Nt)):ByteArray:=l.foldl (fun a h=>jA a (hdN full h)) a
theorem jiw (full:Bool) (a:ByteArray) (l:List (Int × Nt)) (h:Int × Nt):r7 full a (l++[h])=jA (r7 full a l) (hdN full h):=by
 unfold r7;rw[List.foldl_append];rfl
theorem jiv (full:Bool) (a:ByteArray) (l:List (Int × Nt)) (hl:∀ h ∈ l,(hdN full h).size<=400000):(r7 full a l).size<=a.size+l.length*400001:=by
 induction l generalizing a with
 | nil=>exact Nat.le_add_right _ _
 | cons h l ih =>
  have h1:=ih (jA a (hdN full h)) (fun x hx=>hl x (List.mem_cons_of_mem _ hx))
  have h2:=jB a (hdN full h)
  have h3:=hl h List.mem_cons_self
  have e:r7 full a (h :: l)=r7 full (jA a (hdN full h)) l:=rfl
  rw[e,List.length_cons,Nat.succ_mul];omega
def prF (u:Ut):ByteArray:=r7 false (nmF wDurable u.du++nmF wVolatile u.vo) u.on
section
end
def SHz (full:Bool) (m:Nat) (f:Nt):Prop := ∀ req:Int,0<=req->req<=9->(zK full f req).size<=m/\True
def STz (full:Bool) (m:Nat) (f:Nt):Prop:=(aG full f).size<=m/\True
def BKz (full:Bool) (m:Nat) (f:Nt):Prop:=(gO full f).size<=m/\True
theorem SHz.mono {full:Bool} {m m':Nat} {f:Nt} (h:SHz full m f) (hm:m<=m'):SHz full m' f:=fun req h1 h2=>⟨Nat.le_trans (h req h1 h2).1 hm,trivial⟩
theorem jiV {p req:Int} {full:Bool} {b:ByteArray} {m:Nat} (h:b.size+2<=m):(aK p req full b).size<=m/\True:=⟨Nat.le_trans (jiU p req full b) h,trivial⟩
theorem jnj (full:Bool) (n:Int) (hn:0<=n/\n<1000000000000):SHz full 14 (.mk 12 n eB []):=fun req h1 h2=>by
 have hsz:(bs (qF n.toNat)).size<=12:=wK _ (by omega)
 exact jiV (p:=8) (b:=bs (qF n.toNat)) (by omega)
theorem jnk (full:Bool) (k:Int) (hk:k=14 ∨ k=15) (s:ByteArray) (hs:s.size<=12):SHz full 14 (.mk k 0 s []):=fun req h1 h2=>by
 rcases hk with rfl | rfl
 all_goals exact jiV (p:=8) (b:=s) (by omega)
theorem jls (full:Bool) (n:Nat) (hn:n<2):SHz full 14 (.mk 13 n eB []):=fun req h1 h2=>by
 have hsz:(tfB n).size<=12:=by rcases (by omega:n=0 ∨ n=1) with rfl | rfl <;> decide
 exact jiV (p:=8) (b:=tfB n) (by omega)
theorem jni (full:Bool) (m:Nat) (hm:m<=1000000) (f:Nt) (hf:SHz full m f):SHz full (m+20) (.mk 16 0 eB [f]):=fun req h1 h2=>by
 obtain⟨hs1,-⟩ := hf 1 (by decide) (by decide)
 have hz:=aR [wDraw,pLp,zK full f 1,pRp]
 have a1:wDraw.size=4:=rfl
 have a2:pLp.size=1:=rfl
 have a3:pRp.size=1:=rfl
 have a4:tsz []=0:=rfl
 simp only[kQ] at hz;exact jiV (p:=8) (b:=qM [wDraw,pLp,zK full f 1,pRp]) (by omega)
theorem jnl (full:Bool) (m:Nat) (hm:m<=1000000) (s:ByteArray) (hs:s.size<=2) (f:Nt) (hf:SHz full m f):SHz full (m+20) (.mk 17 0 s [f]):=fun req h1 h2=>by
 have hp9:=fP 17 s
 obtain⟨hs1,-⟩ := hf (jL 17 s) (by omega) (by omega)
 have hz:=aR [s,zK full f (jL 17 s)]
 have a4:tsz []=0:=rfl
 simp only[kQ] at hz;exact jiV (p:=jL 17 s) (b:=qM [s,zK full f (jL 17 s)]) (by omega)
theorem jnh (full:Bool) (m:Nat) (hm:m<=1000000) (s:ByteArray) (hs:s.size<=2) (f g:Nt) (hf:SHz full m f) (hg:SHz full m g):SHz full (2*m+20) (.mk 18 0 s [f,g]):=fun req h1 h2=>by
 have hp9:=fP 18 s
 have hp8:jL 18 s<=7:=by
  unfold jL
  repeat' split
  all_goals first | decide | (rename_i h1 h2;exact absurd h2 (by decide)) | contradiction
 have hqr:0<=(if jL 18 s=4 then 5 else jL 18 s)/\(if jL 18 s=4 then 5 else jL 18 s)<=9:=by split <;> omega
 obtain⟨hs1,-⟩ := hf (if jL 18 s=4 then 5 else jL 18 s) hqr.1 hqr.2
 obtain⟨hs2,-⟩ := hg (jL 18 s+1) (by omega) (by omega)
 have hz:=aR [zK full f (if jL 18 s=4 then 5 else jL 18 s),s,zK full g (jL 18 s+1)]
 have a4:tsz []=0:=rfl
 simp only[kQ] at hz;exact jiV (p:=jL 18 s) (b:=qM [zK full f (if jL 18 s=4 then 5 else jL 18 s),s,zK full g (jL 18 s+1)]) (by omega)
theorem jo9 (full:Bool) (m:Nat) (l:List Nt) (hf:∀ f ∈ l,SHz full m f):(zG full l).size<=l.length*(m+2)+1:=by
 have h1:=jjU (l.map fun f=>zK full f 1)
 have h2:∀ l:List Nt,(∀ f ∈ l,SHz full m f)->tsz (l.map fun f=>zK full f 1)<=l.length*(m+1):=fun l=>by
  induction l with
  | nil=>exact fun _=>Nat.zero_le _
  | cons f l ih =>
   intro hf
   have:=ih fun g hg=>hf g (List.mem_cons_of_mem _ hg)
   have:=(hf f List.mem_cons_self 1 (by decide) (by decide)).1
   rw[List.map_cons,kQ,List.length_cons,Nat.succ_mul];omega
 have:=h2 l hf
 have e1:pSemi.size=1:=rfl
 rw[List.length_map] at h1
 have e:l.length*(m+2)=l.length*(m+1)+l.length:=by rw[show m+2=(m+1)+1 by omega,Nat.mul_add,Nat.mul_one]
 unfold zG;rw[ByteArray.size_append];omega
theorem jcy {l:List ByteArray} {m:Nat} (h:tsz l<=m):(qM l).size<=m/\True:=⟨Nat.le_trans (aR l) h,trivial⟩
theorem jnr (full:Bool) (k:Int) (hk:k=1 ∨ k=8 ∨ k=9) (s:ByteArray) (hs:s.size<=12) (m:Nat) (hm:m<=1000000) (l:List Nt) (hl:l.length<=2) (hf:∀ f ∈ l,SHz full m f):STz full (2*m+40) (.mk k 0 s l):=by
 have hz:=jo9 full m l hf
 have hlm:l.length*(m+2)<=2*(m+2):=Nat.mul_le_mul_right _ hl
 have c1:pEq.size=1:=rfl
 have c2:wReply.size=5:=rfl
 have c3:wFail.size=4:=rfl
 have a4:tsz []=0:=rfl
 rcases hk with rfl | rfl | rfl
 ·exact jcy (l:=[s,pEq,zG full l]) (by simp only[kQ];omega)
 ·exact jcy (l:=[wReply,zG full l]) (by simp only[kQ];omega)
 ·exact jcy (l:=[wFail,zG full l]) (by simp only[kQ];omega)
theorem jnq (full:Bool) (k:Int) (hk:k=5 ∨ k=6) (n:Nat) (hn:n<1000):STz full 40 (.mk k n eB []):=by
 have hds:=wK n (by omega)
 have c1:pSemi.size=1:=rfl
 have c2:wTimer.size=5:=rfl
 have c3:wCancel.size=6:=rfl
 have a4:tsz []=0:=rfl
 rcases hk with rfl | rfl
 ·exact jcy (l:=[wTimer,bs (qF n),pSemi]) (by simp only[kQ];omega)
 ·exact jcy (l:=[wCancel,bs (qF n),pSemi]) (by simp only[kQ];omega)
theorem jnu (full:Bool) (k:Int) (hk:k=7 ∨ k=10):STz full 40 (.mk k 0 eB []):=by
 rcases hk with rfl | rfl
 ·exact⟨show syncB.size<=40 by decide,trivial⟩
 ·exact⟨show stopB.size<=40 by decide,trivial⟩
theorem jns (full:Bool) (n:Nat) (hn:n<1000) (m:Nat) (hm:m<=1000000) (f g h:Nt) (hf:SHz full m f) (hg:SHz full m g) (hh:SHz full m h):STz full (3*m+80) (.mk 4 n eB [f,g,h]):=by
 have hz:=jo9 full m [g,h] (fun x hx=>by
  simp only[List.mem_cons,List.not_mem_nil,or_false] at hx
  rcases hx with rfl | rfl
  ·exact hg
  ·exact hh)
 obtain⟨hs1,-⟩ := hf 1 (by decide) (by decide)
 have hds:=wK n (by omega)
 have c1:pComma.size=1:=rfl
 have c2:wSend.size=4:=rfl
 have c3:[g,h].length=2:=rfl
 have a4:tsz []=0:=rfl
 rw[c3] at hz;exact jcy (l:=[wSend,zK full f 1,pComma,bs (qF n),pComma,zG full [g,h]]) (by simp only[kQ];omega)
theorem jnt (full:Bool) (m:Nat) (hm:m<=100000000) (c b:Nt) (hc:SHz full m c) (hb:BKz full m b):STz full (2*m+40) (.mk 3 0 eB [c,b]):=by
 obtain⟨hs1,-⟩ := hc 1 (by decide) (by decide)
 obtain⟨hs2,-⟩ := hb
 have c2:wWhile.size=5:=rfl
 have a4:tsz []=0:=rfl
 exact jcy (l:=[wWhile,zK full c 1,gO full b]) (by simp only[kQ];omega)
theorem jnp (full:Bool) (m:Nat) (hm:m<=50000000) (c b d:Nt) (hc:SHz full m c) (hb:BKz full m b) (hd:BKz full m d):STz full (3*m+60) (.mk 2 0 eB [c,b,d]):=by
 obtain⟨hs1,-⟩ := hc 1 (by decide) (by decide)
 obtain⟨hs2,-⟩ := hb
 obtain⟨hs3,-⟩ := hd
 have c2:wIf.size=2:=rfl
 have c3:wElse.size=4:=rfl
 have a4:tsz []=0:=rfl
 have e:aG full (.mk 2 0 eB [c,b,d])=if 0<d.kids.length then qM [qM [wIf,zK full c 1,gO full b],wElse,gO full d] else qM [wIf,zK full c 1,gO full b]:=rfl
 have h1:=aR [wIf,zK full c 1,gO full b]
 simp only[kQ] at h1;unfold STz;rw[e]
 split
 ·exact jcy (by simp only[kQ];omega)
 ·exact⟨by omega,trivial⟩
theorem bkz (full:Bool) (m:Nat) (hm:m<=1000000) (l:List Nt) (hl:l.length<=3) (hf:∀ f ∈ l,STz full m f):BKz full (3*m+10) (zD l):=by
 have hsz:∀ j,j<=l.length->(bkL full (l.take j)).size<=j*(m+1)+1:=fun j hj=>by
  induction j with
  | zero =>
   have:pLb.size=1:=rfl
   rw[List.take_zero]
   show pLb.size<=_
   omega
  | succ j ih =>
   have:=ih (by omega)
   rw[List.take_succ_eq_append_getElem (by omega),jjK,Nat.succ_mul]
   have h1:=(hf (l[j]'(by omega)) (List.getElem_mem _)).1
   have h2:=jB (bkL full (l.take j)) (aG full (l[j]'(by omega)))
   omega
 have h:=hsz l.length (Nat.le_refl _)
 rw[List.take_length] at h
 have h3:l.length*(m+1)<=3*(m+1):=Nat.mul_le_mul_right _ hl
 have c:pRb.size=1:=rfl
 refine⟨?_,trivial⟩;unfold zD;rw[jfP,ByteArray.size_append];omega
theorem hdz (full:Bool) (h:Int × Nt) (hn:0<=h.1/\h.1<40) (hb:BKz full 300000 h.2):(hdN full h).size<=400000:=by
 obtain⟨hs1,-⟩ := hb
 have hw:(hdW h.1).size<=20:=by
  unfold hdW
  have a1:wRequest.size=7:=rfl
  have a2:wMsgS.size=8:=rfl
  have a3:wTimS.size=6:=rfl
  have a4:wStart.size=5:=rfl
  have d1:=wK (h.1-10).toNat (by omega)
  have d2:=wK (h.1-2).toNat (by omega)
  repeat' split
  all_goals (try simp only[ByteArray.size_append]);omega
 have c:wOn.size=2:=rfl
 have a4:tsz []=0:=rfl
 exact (jcy (l:=[wOn,hdW h.1,gO full h.2]) (by simp only[kQ];omega)).1
structure PUz (u:Ut):Prop where
 du:u.du.length<=20 /\ ∀ x ∈ u.du,x.size<=100
 vo:u.vo.length<=20 /\ ∀ x ∈ u.vo,x.size<=100
 on:u.on.length<=4
 hd:∀ full,∀ h ∈ u.on,(hdN full h).size<=400000/\True
def dF (a b:ByteArray):ByteArray:=if a = ⟨#[]⟩ ∨ b = ⟨#[]⟩ ∨ zE (yZ a)=false ∨ zE (qA b)=false then ⟨#[]⟩ else ⟨#[32]⟩
theorem bY {a b:ByteArray} (h:a.data.toList=b.data.toList):a=b:=ByteArray.ext (Array.toList_inj.1 h)
theorem dO (a b:ByteArray):(a++b).data.toList=a.data.toList++b.data.toList:=by simp
theorem x9 (a:ByteArray):a ++ ⟨#[]⟩ = a:=bY (by simp)
theorem eA (a:ByteArray) : ⟨#[]⟩ ++ a=a:=bY (by simp)
theorem jjI {a:ByteArray} : a ≠ ⟨#[]⟩ ↔ a.data.toList ≠ []:=by
 constructor
 ·intro h e;exact h (bY e)
 ·rintro h rfl;exact h rfl
theorem nG (a b c:ByteArray):a++b++c=a++(b++c):=bY (by simp)
theorem kO (a b:ByteArray):jA a b=a++dF a b++b:=by
 unfold jA dF
 split
 ·rename_i h;rw[if_pos (.inl h),x9]
 split
 ·rename_i h;rw[if_pos (.inr (.inl h)),x9]
 split
 ·rename_i h;rw[if_pos (.inr (.inr (.inl h))),x9]
 split
 ·rename_i h;rw[if_pos (.inr (.inr (.inr h))),x9]
 ·rename_i h1 h2 h3 h4
  rw[if_neg (by rintro (h | h | h | h) <;> contradiction)]
theorem jjA {a b:ByteArray} (h:b ≠ ⟨#[]⟩):a++b ≠ ⟨#[]⟩ := by
 rw[jjI] at h ⊢;rw[dO];intro e;exact h (List.append_eq_nil_iff.1 e).2
theorem mI {a b:ByteArray} (h:a ≠ ⟨#[]⟩):a++b ≠ ⟨#[]⟩ := by
 rw[jjI] at h ⊢;rw[dO];intro e;exact h (List.append_eq_nil_iff.1 e).1
theorem sT (a:ByteArray):a.size=a.data.toList.length:=by rw[Array.length_toList];rfl
theorem lG (a:ByteArray) {b:ByteArray} (h:b ≠ ⟨#[]⟩):yZ (a++b)=yZ b:=by
 have hb:=z6 h
 unfold yZ;rw[sT] at hb;rw[sT,sT,dO,List.getD_eq_getElem?_getD,List.getD_eq_getElem?_getD,List.length_append,List.getElem?_append_right (by omega)]
 congr 2
 omega
theorem dV {a:ByteArray} (b:ByteArray) (h:a ≠ ⟨#[]⟩):qA (a++b)=qA a:=by
 have ha:=z6 h
 unfold qA;rw[sT] at ha;rw[dO,List.getD_eq_getElem?_getD,List.getD_eq_getElem?_getD,List.getElem?_append_left ha]
theorem bB {a b:ByteArray} (h:b ≠ ⟨#[]⟩):jA a b ≠ ⟨#[]⟩ := by rw[kO];exact jjA h
theorem bA {a b:ByteArray} (h:a ≠ ⟨#[]⟩):jA a b ≠ ⟨#[]⟩ := by rw[kO,nG];exact mI h
theorem qN (a b c:ByteArray) (hb:b ≠ ⟨#[]⟩):jA (jA a b) c=jA a (jA b c):=by
 have e1:dF (jA a b) c=dF b c:=by
  have h1:yZ (jA a b)=yZ b:=by rw[kO];exact lG _ hb
  unfold dF;rw[h1];simp only[bB (a:=a) hb,hb,false_or]
 have e2:dF a (jA b c)=dF a b:=by
  have h1:qA (jA b c)=qA b:=by rw[kO,nG];exact dV _ hb
  unfold dF;rw[h1];simp only[bA (b:=c) hb,hb,false_or]
 rw[kO (jA a b) c,e1,kO a (jA b c),e2,kO a b,kO b c];simp only[nG]
theorem kR (a b:ByteArray) (h:zE (qA b)=false):jA a b=a++b:=by
 rw[kO];unfold dF;rw[if_pos (.inr (.inr (.inr h))),x9]
theorem nJ (a b:ByteArray) (h:zE (yZ a)=false):jA a b=a++b:=by
 rw[kO];unfold dF;rw[if_pos (.inr (.inr (.inl h))),x9]
theorem yL (s b:ByteArray):jA (jA (jA s ⟨#[40]⟩) b) ⟨#[41]⟩ = jA s (⟨#[40]⟩ ++ b ++ ⟨#[41]⟩):=by
 rw[qN s _ b (by decide),qN s _ _ (bA (by decide)),nJ ⟨#[40]⟩ b (by decide),kR _ ⟨#[41]⟩ (by decide)]
end Go.Proofs.YtgifglkkmhapiaaGreatDoor.Vm
namespace Go.Proofs.YtgifglkkmhapiaaGreatDoor.Vm
open Go.RowKit
section
structure jfI (P:Program) (f:Nat) (ins:List (List A)) (e k n:Nat) (cs args:List A) (post:List (List A)->Nat->List A->A->Prop):Prop where
 r:mG P f ins e k n cs args post
 d:∀ u,jcu (ClD P f u u) ins e k n cs args post fun _=>False
section
variable {c:Cx} {s:S}
theorem jje {f:Nat} {fn:Func} {x:Code} {ins:List (List A)} {e k n:Nat} {cs args:List A} {post:List (List A)->Nat->List A->A->Prop} (hc:c.ok) (hq:∀ ch s,¬ c.pan ch s) (hf:c.P.funcs[f]? = some fn) (hb:fn.body=some x) (hname:(fn.name == "runtime.NumGoroutine")=false)
  (hn:ins.length=c.np) (hord:kI c.ord x=true) (h:nA args->yY args (fn.ntmps-args.length) fun t=>r5 c x ⟨t,ins,[.live e k n cs]⟩ (jms c e k fn.results.toList post)):jfI c.P f ins e k n cs args post:=by
 refine⟨jas hc (fun ch s h=>hq ch s h) hf hb hname hn hord h,fun u w C β vals y xs h0 h1 h2 h3 h4 h5 h6 h7 h8 h9 => ?_⟩;unfold ClD
 refine CallsD.mono (callsD_of_wp hf hb (R:=fun e' w' => (∃ (outs:List (List A)) (n':Nat) (cs':List A) (r:A) (v y':Value) (xs':List Value) (C':Rd),e' = .returned v/\post outs n' cs' r/\Keeps (β++(blk y).toList) w w'/\Sub C C'/\Sub C' (kJ w')/\(∀ ad u,C' ad=some u->C ad=some u ∨ w.heap.size<=ad.block ∨ blk y=some ad.block)/\outs.length=β.length ∧
   (∀ (i b:Nat) (cs:List A),β[i]? = some b->outs[i]? = some cs->boxAt w' ⟨C',β,[y']⟩ b cs)/\owR w' e k y' n' xs'/\A.repC cs' ⟨C',[],[]⟩ xs'/\(∀ b,blk y'=some b->(∀ o sp,C' ⟨b,o,sp⟩ = none)/\(w.heap.size<=b ∨ blk y=some b))/\r.rep ⟨C',β,[y']⟩ v) ∨
   ∃ (ch:List PanicEntry) (ns:List Nat),e' = .panicked ch/\False/\Keeps (β++(blk y).toList) w w'/\ns.length=β.length /\ ∀ (i b n:Nat),β[i]? = some b->ns[i]? = some n->boxAt w' ⟨C,β,[]⟩ b (List.replicate n .dead)) ?_) fun e m w' hh=>hh
 have hinit:=initK_iff.1 (h (wC _ h9))
 have hinit:=kL hc hord hinit
 have hinv:=lE (nt:=fn.ntmps) h0 h1 h2 h3 h4 h5 h6 h7 h8 h9
 unfold Ok OkD at hinit;refine hinit ⟨w,(blk y).toList⟩ C β _ w _ (by rw[<- h4,hn]) hinv (fun ch s' a' w' hpan hi=>absurd hpan (hq ch s')) ?_
 have fin:∀ (s':S) (a':Act) (w':World),(∃ g,jf5 c e k g fn.results.toList post s')->Inv [] ⟨w,(blk y).toList⟩ C β s' a' w'->_:=fun s' a' w' ⟨g,hr⟩ hi=>jcQ (w:=w) (C:=C) (β:=β) (s':=s') (a':=a') (w':=w') (fn:=fn) (post:=post) (y:=y) hc (by rw[<- h4,hn]) hr hi
 intro e1 s' a' w' hq hi
 cases e1 with
 | normal=>obtain⟨k1,v,k2,k3⟩ := fin s' a' w' hq hi;exact⟨k1,v,k2,.inl k3⟩
 | ret=>obtain⟨k1,v,k2,k3⟩ := fin s' a' w' hq hi;exact⟨k1,v,k2,.inl k3⟩
 | _=>exact hq.elim
@[irreducible] def jmg (P:Program) (f:Nat) (args:List A) (s:S) (K:S->Prop):Prop :=
 (∀ vs w,(callFunc f vs).run P w = .ok (.enter f vs) w) ∧
 ∃ (X ids:List Nat) (g e k n:Nat) (cs:List A) (ins:List (List A)) (args':List A) (post:List (List A)->Nat->List A->A->Prop),X.Nodup/\(∀ i ∈ X,i<s.bx.length)/\(jC s.rw ids)[g]? = some (.live e k n cs) ∧
  aM X g (jC s.rw ids) (X.map fun i=>s.bx.getD i [])=some ins/\z8 X g (jC s.rw ids) args=some args'/\(nA args'->jcu (ClD P f .returning .returning) ins e k n cs args' post fun _=>False) ∧
  ∀ outs n' cs' r,post outs n' cs' r->outs.length=X.length->eC X s.rw.length s.bx X outs fun bx' => zO (backG X s.rw.length r) fun r' => j7 ((jC s.rw ids).set g .gone++[.live e k n' cs']) fun rw' => kZ s bx' rw' K
def yF (c:Cx) (e k:Nat) (rv:List ResultVar) (post:List (List A)->Nat->List A->A->Prop):List (Nat × List A)->S->Prop
 | [],s => ∃ g,jf5 c e k g rv post s
 | (f,args) :: r,s=>jmg c.P f args s fun s' => yF c e k rv post r s'
theorem uU {w0:W0} {C0:Rd} {β0:List Nat} {e k:Nat} {fn:Func} {post:List (List A)->Nat->List A->A->Prop} {R:Ending->World->Prop} {tmps:Array Value} (hfin:∀ s' w',(∃ g,jf5 c e k g fn.results.toList post s')->Inv [] w0 C0 β0 s' { tmps:=tmps,defers:=[] } w' -> ∃ v,(results fn tmps).run c.P w' = .ok v w'/\R (.returned v) w') :
  ∀ (dr:List (Nat × List A)) (ds:List Deferred) (s:S) (E:Env) (w:World),repD dr E ds->Hp w0 C0 β0 s.bx s.rw w E->A.repL s.t E tmps.toList->yF c e k fn.results.toList post dr s->Leaves c.P fn tmps R ds .returning w
 | [],ds,s,E,w,hd,hp,ht,h=>by
  obtain rfl:ds=[]:=hd
  exact hfin s w h ⟨E,hp,ht,rfl⟩
 | (f,args) :: r,ds,s,E,w,⟨d,ds',cap,hds,htg,hargs,hrest⟩,hp,ht,h=>by
  subst hds;unfold yF jmg at h
  obtain⟨hcall,X,ids,g,e0,k0,n0,cs0,ins,args',post',hn,hX,hg,hins,hargs',hspec,hk⟩ := h
  obtain⟨-,hcx⟩ := jdV (pan:=fun _ _=>False) (Xr:=fun _=>true) (K:=fun _ s' => yF c e k fn.results.toList post r s') (Cl:=ClD c.P f .returning .returning) ClD.mono hp hargs rfl hn (fun _ _=>rfl) hX hg hins hargs' hspec (fun outs n' cs' r hp hl=>hk outs n' cs' r hp hl) (fun ch bx' h _ _=>h.elim)
  obtain⟨t,da⟩ := d
  simp only at htg hargs hcx
  subst htg;refine leaves_cons (f:=f) (args:=da++cap) (by simp) (by simp[invoke,hcall]) ?_
  have hcx':CallsD c.P f (da++cap) .returning w fun e' m w' => m = .returning/\((∃ y,e' = .returned y/\Left w0 C0 β0 (fun _=>true) s E w (fun _ s' => yF c e k fn.results.toList post r s') y w') ∨ ∃ (ch:List PanicEntry) (s':S) (E':Env),e' = .panicked ch/\False/\s'.t=s.t/\E.le E'/\Hp w0 C0 β0 s'.bx s'.rw w' E'):=hcx
  refine CallsD.mono hcx' ?_;rintro e' m w' ⟨rfl,⟨y,rfl,⟨⟨r0,s',E',h1,h2,h3,h4,h5,_⟩⟩⟩ | ⟨ch,s',E',_,h,_⟩⟩
  ·exact uU hfin r ds' s' E' w' (hrest.mono h3) h4 (by rw[h2];exact A.repL.mono _ h3 ht) h1
  ·exact h.elim
theorem wM {f:Nat} {fn:Func} {x:Code} {ins:List (List A)} {e k n:Nat} {cs args:List A} {post:List (List A)->Nat->List A->A->Prop} (hc:c.ok) (hf:c.P.funcs[f]? = some fn) (hb:fn.body=some x) (hname:(fn.name == "runtime.NumGoroutine")=false)
  (hn:ins.length=c.np) (h:nA args->yY args (fn.ntmps-args.length) fun t=>p8 c.P c.np (fun _ _ _=>False) (fun dr ex s=>(ex = .normal ∨ ex = .ret)/\yF c e k fn.results.toList post dr s) [] x ⟨t,ins,[.live e k n cs]⟩):mG c.P f ins e k n cs args post:=by
 refine⟨nH hf hb hname,fun w C β vals y xs h0 h1 h2 h3 h4 h5 h6 h7 h8 h9 => ?_⟩;refine calls_of_wp_defers hf hb ?_
 have hinit:=initK_iff.1 (h (wC _ h9))
 have hinv:=lE (nt:=fn.ntmps) h0 h1 h2 h3 h4 h5 h6 h7 h8 h9
 unfold p8 at hinit;refine hinit ⟨w,(blk y).toList⟩ C β _ w _ (by rw[<- h4,hn]) hinv (fun dr ch s' a' w' hl _=>hl.elim) (fun dr ex s' a' w' hl ⟨E,hp,ht,hd⟩ => ?_)
 have key:=uU (c:=c) (e:=e) (k:=k) (fn:=fn) (post:=post) (tmps:=a'.tmps) (R:=fun e' w' => (∃ (outs:List (List A)) (n':Nat) (cs':List A) (r:A) (v y':Value) (xs':List Value) (C':Rd),e' = .returned v/\post outs n' cs' r/\Keeps (β++(blk y).toList) w w'/\Sub C C'/\Sub C' (kJ w')/\(∀ ad u,C' ad=some u->C ad=some u ∨ w.heap.size<=ad.block ∨ blk y=some ad.block)/\outs.length=β.length ∧
   (∀ (i b:Nat) (cs:List A),β[i]? = some b->outs[i]? = some cs->boxAt w' ⟨C',β,[y']⟩ b cs)/\owR w' e k y' n' xs'/\A.repC cs' ⟨C',[],[]⟩ xs'/\(∀ b,blk y'=some b->(∀ o sp,C' ⟨b,o,sp⟩ = none)/\(w.heap.size<=b ∨ blk y=some b))/\r.rep ⟨C',β,[y']⟩ v) ∨
   ∃ (ch:List PanicEntry) (ns:List Nat),e' = .panicked ch/\False/\Keeps (β++(blk y).toList) w w'/\ns.length=β.length /\ ∀ (i b n:Nat),β[i]? = some b->ns[i]? = some n->boxAt w' ⟨C,β,[]⟩ b (List.replicate n .dead))
  (fun s2 w2 ⟨g,hr⟩ hi=>by
   obtain⟨-,v,q1,q2⟩ := jcQ (w:=w) (C:=C) (β:=β) (fn:=fn) (post:=post) (y:=y) hc (by rw[<- h4,hn]) hr hi
   exact⟨v,q1,.inl q2⟩) dr a'.defers s' E w' hd hp ht hl.2
 rcases hl.1 with rfl | rfl
 ·exact key
 ·exact key
end
section
variable {c:Cx} {P:Program} {np:Nat} {pt:List (Nat × List A)->List PanicEntry->S->Prop} {qt:List (Nat × List A)->Exit->S->Prop} {dr:List (Nat × List A)} {s:S}
theorem vR {x y:Code} (h:p8 P np pt (fun dr' e s' => tQ P np pt qt dr' y e s') dr x s):p8 P np pt qt dr (.seq x y) s:=by
 unfold p8 at h ⊢;intro w0 C0 β0 a w Q hn hi hx hk;refine wp_seq (h w0 C0 β0 a w _ hn hi (fun dr' ch s' a' w' h1 h2=>hx dr' ch s' a' w' h1 h2) fun dr' e s' a' w' h1 h2 => ?_)
 cases e with
 | normal =>
  have h1:p8 P np pt qt dr' y s':=h1
  unfold p8 at h1;exact h1 w0 C0 β0 a' w' Q hn h2 hx hk
 | _=>exact hk dr' _ _ _ _ h1 h2
theorem yO {b:Operand} {x y:Code} (hb:ev s b = .v (.bool true)) (h:p8 P np pt qt dr x s):p8 P np pt qt dr (.cond b x y) s:=by
 unfold p8 at h ⊢;rintro w0 C0 β0 a w Q hn ⟨E,hp,ht,hd⟩ hx hk
 have hv:=(kD ht hb).1
 exact wp_cond_split hv (fun _=>h w0 C0 β0 a w Q hn ⟨E,hp,ht,hd⟩ hx hk) (fun e=>by cases e)
def jnY (s:S) (ids:List Nat) (fo:Operand) (xs:List Operand) (K:Nat->List A->S->Prop):Prop :=
 match s with
 | ⟨t,bx,rw⟩=>j7 (jC rw ids) fun rw' => gS (cV rw') t fun t' => jau rw' bx fun bx' => match ev ⟨t',bx',rw'⟩ fo with
  | .clo f caps=>gS (ev ⟨t',bx',rw'⟩) xs fun l=>K f (l++caps) ⟨t',bx',rw'⟩
  | _=>False
theorem kS {id:Nat} {l:List Oper} {od:Oper} {fo:Operand} {xs:Array Operand} {ts:Array TypeId} (ids:List Nat) (hc:c.ok) (hdr:∃ n,wR n dr=true) (hp:∀ ch s',c.pan ch s'->pt dr ch s') (hop:od.op = .defer ⟨.value fo,xs,ts⟩) (hg:od.guard=none) (hd:od.dst=none)
  (h:iY c (l++[od]) l s fun s' => jnY s' ids fo xs.toList fun f args s'' => qt ((f,args) :: dr) .normal s''):p8 c.P c.np pt qt dr (.region id (l++[od]).toArray false) s:=by
 unfold p8;intro w0 C0 β0 a w Q hn hi hx hk;refine wp_region_lit (sS (l2:=[od]) (Q:=Q) hc hdr (fun ch s' a' w' h1 h2=>hx dr ch s' a' w' (hp ch s' h1) h2) hi h fun s' a' w' h1 h2 => ?_)
 refine wpList_step fun Kc hKc => ?_
 rw[if_pos (by simp[Region.wanted,hg])]
 obtain⟨t,bx,rw'⟩ := s'
 unfold jnY at h1
 simp only at h1
 rw[qY,qI,fX] at h1
 have hle:Le (β0.length) ⟨t,bx,rw'⟩ _:=(jgc (np:=β0.length) (s:=⟨t,bx,rw'⟩) ids).trans jgd
 -- publishing keeps what is deferred
 obtain⟨E,hpp,ht,hdd⟩ := h2
 obtain⟨C',hp1,le1⟩ := hpp.pubs ids
 have ht1:=eV (E:=⟨C',E.β,E.ρ⟩) hp1 (A.repL.mono _ le1 ht)
 have hd1:=hdd.mono le1
 have hp2:Hp w0 C0 β0 (bx.map fun c=>c.map (cV (jC rw' ids))) (jC rw' ids) w' ⟨C',E.β,E.ρ⟩ := by
  refine⟨hp1.sub,hp1.base,hp1.fresh,hp1.bp,hp1.bnd,hp1.bC,by simpa using hp1.bl,fun i b cs h1 h2 => ?_,hp1.rl,hp1.rws,hp1.rC,hp1.rd,hp1.rs,hp1.keep,hp1.gk⟩;rw[List.getElem?_map,Option.map_eq_some_iff] at h2
  obtain⟨c0,h2,rfl⟩ := h2
  obtain⟨T',arr,h3,h4⟩ := hp1.bxs i b c0 h1 h2
  exact⟨T',arr,h3,h4.map (cV (jC rw' ids)) (fun l us k=>eV (E:=⟨C',E.β,E.ρ⟩) hp1 k) rfl (fun t=>rfl) fun a t e=>by
   unfold cV at e
   split at e
   ·split at e <;> cases e
   ·exact e⟩
 split at h1
 ·rename_i f caps hev
  rw[qI] at h1
  have hf:=jP (s:=⟨t.map (cV (jC rw' ids)),bx.map fun c=>c.map (cV (jC rw' ids)),jC rw' ids⟩) ht1 fo
  rw[hev] at hf;unfold A.rep at hf
  obtain⟨us,hf,hcaps⟩ := hf
  have hrun:(execOp a'.eval od).run c.P w' = .ok (.defer { target := .fn (.func f) us,args:=xs.map a'.eval }) w':=by simp[execOp,hop,resolve,Deferred.ofValue,hf,Result.andThen]
  unfold Oper.wp;rw[hrun,Oper.upon_defer];rw[hd];refine hKc _ _ (hk _ _ _ _ _ h1 ⟨⟨C',E.β,E.ρ⟩,hp2,ht1,{ target := .fn (.func f) us,args:=xs.map a'.eval },a'.defers,us,rfl,rfl,?_,hd1⟩)
  have:=A.repL_append (vW (s:=⟨t.map (cV (jC rw' ids)),bx.map fun c=>c.map (cV (jC rw' ids)),jC rw' ids⟩) ht1 xs.toList) hcaps
  simpa using this
 ·exact h1.elim
end
theorem iE {P:Program} {f:Nat} {args args':List A} {s:S} {K:S->Prop} {post:List (List A)->Nat->List A->A->Prop} (i g m:Nat) (ids:List Nat) (hm:s.rw.length=m) {e k n:Nat} {cs c0 c1:List A} (hi:s.bx[i]? = some c0) (hg:(jC s.rw ids)[g]? = some (.live e k n cs)) (h1:z8 [i] g (jC s.rw ids) c0=some c1) (h2:z8 [i] g (jC s.rw ids) args=some args') (hs:jfI P f [c1] e k n cs args' post)
  (hk:∀ o n' cs' r,post [o] n' cs' r->eC [i] m s.bx [i] [o] fun bx' => zO (backG [i] m r) fun r' => j7 ((jC s.rw ids).set g .gone++[.live e k n' cs']) fun rw' => kZ s bx' rw' K):jmg P f args s K:=by
 subst hm;unfold jmg
 have hil:=(List.getElem?_eq_some_iff.1 hi).1
 refine⟨hs.r.1,[i],ids,g,e,k,n,cs,[c1],args',post,by simp,by simpa using hil,hg,?_,h2,fun _=>hs.d .returning,fun outs n' cs' r hp hl => ?_⟩
 ·have:s.bx.getD i []=c0:=by simp[List.getD_eq_getElem?_getD,hi]
  simp only[List.map_cons,List.map_nil,this,aM,h1]
 ·obtain⟨o,rfl⟩ : ∃ o,outs=[o]:=List.length_eq_one_iff.1 (by simpa using hl)
  exact hk o n' cs' r hp
end
end Go.Proofs.YtgifglkkmhapiaaGreatDoor.Vm
namespace Go.Proofs.YtgifglkkmhapiaaGreatDoor.Vm
open Go.RowKit Go.Shelf
theorem jco (c:UInt8):Spec Tryz.prog 30 [] [.v (.int .u8 (c.toNat:Int))] fun _ r=>r=wP (zE c):=by
 have hm:0<=(c.toNat:Int)/\(c.toNat:Int)<=255:=by have:=c.toNat_lt;omega
 unfold zE isL yN;generalize (c.toNat:Int)=n at *;refine eN jH jY 0 Tryz.func30 rfl ?_;intro _;conv=>whnf
 by_cases h1:97<=n
 ·rw[qH h1];conv=>whnf
  by_cases h2:n<=122
  ·rw[qH h2];conv=>whnf
   rfl
  ·rw[j8 h2];conv=>whnf
   rw[qH (show 48<=n by omega)];conv=>whnf
   rw[j8 (show ¬ n<=57 by omega)];conv=>whnf
   rfl
 ·rw[j8 h1];conv=>whnf
  by_cases h3:48<=n
  ·rw[qH h3];conv=>whnf
   rcases Decidable.em (n<=57) with h4 | h4
   ·rw[qH h4];conv=>whnf
    rfl
   ·rw[j8 h4];conv=>whnf
    rfl
  ·rw[j8 h3];conv=>whnf
   rfl
def iS:Nat:=52
theorem oJ:liesAt Tryz.prog Tryz.prog.depth iS (2 / Tryz.prog.cellsOf iS) 0 50 1=true:=by kernel_rfl
abbrev jct (f:Nat) (ins:List (List A)) (s:ByteArray) (args:List A) (post:List (List A)->ByteArray->A->Prop):Prop :=
 jfI Tryz.prog f ins 5 0 s.size [.v (.string s)] args fun o n cs r => ∃ s',n=s'.size/\cs=[.v (.string s')]/\post o s' r
def dH (s:ByteArray) (l:List ByteArray):ByteArray:=l.foldl jA s
theorem jiX (s:ByteArray) (l:List ByteArray) (j:Nat) (h:j<l.length):dH s (l.take (j+1))=jA (dH s (l.take j)) l[j]:=by
 unfold dH;rw[List.take_succ_eq_append_getElem h,List.foldl_append];rfl
theorem jac (s:ByteArray) (l:List ByteArray) (hll:l.length<=1000000) (hne:∀ x ∈ l,0<x.size) (hz:∀ j,(dH s (l.take j)).size<=1000000000):jct 13 [[.adr iS,.own 0]] s [.box 0 0,.sl 1 l.length (x8 l)] fun o s' r=>o=[[.adr iS,.own 0]]/\s'=dH s l/\r = .tup []:=by
 obtain⟨S,hS⟩ : ∃ S:Nat->ByteArray,∀ j,S j=dH s (l.take j):=⟨_,fun _=>rfl⟩
 have hS0:S 0=s:=by rw[hS];rfl
 have hSl:S l.length=dH s l:=by rw[hS,List.take_length]
 have hSz:∀ j,(S j).size<=1000000000:=fun j=>by rw[hS];exact hz j
 rw[<- hSl,<- hS0];refine jje (jF jH jY 1) (fun _ _ h=>h) Tryz.func13 rfl (by kernel_rfl) rfl (by kernel_rfl) ?_;intro _;conv=>whnf
 refine jT [0,1,7,8] ?_;conv=>whnf
 refine zF (fun j:Nat=>[(9,.v (.int .i64 j))]) (fun _=>[[.adr iS,.own 0]]) (fun j=>[.live 5 0 (S j).size [.v (.string (S j))]]) (fun j=>j<=l.length) (fun j=>l.length-j) 0 ?_ (Nat.zero_le _) ?_
 ·repeat' constructor
 rintro j hj;conv=>whnf
 by_cases hlt:j<l.length
 ·rw[qH (show (j:Int)<(l.length:Int) by omega)]
  have hrow:jM 1 j (x8 l)=[j0 l[j]]:=y9 j0 l j hlt
  have hx:=hne l[j] (List.getElem_mem hlt)
  have hSn:S (j+1)=jA (S j) l[j]:=by rw[hS,hS];exact jiX s l j hlt
  have hz1:=hSz j
  have hz2:=hSz (j+1)
  rw[hSn] at hz2;generalize l[j]=x at *;conv=>whnf
  refine⟨by omega,?_⟩;conv=>whnf
  (generalize hrq:jM _ _ (x8 l)=rq;obtain rfl:rq=[j0 x]:=hrq.symm.trans (hrow);clear hrq;conv=>whnf)
  refine kB 0 0 1 [] (jid iS (S j)) ?_;rintro o n' cs' r ⟨s',rfl,rfl,ho,rfl,rfl⟩;cases ho;conv=>whnf
  by_cases e0:S j = ⟨#[]⟩
  ·have hg:jA (S j) x=S j++x:=by unfold jA;rw[if_pos e0]
   have hs0:(S j).size=0:=by rw[e0];rfl
   rw[j8 (show ¬ (0:Int)<((S j).size:Int) by omega)];rw[hg,ByteArray.size_append] at hz2;rw[hg] at hSn;conv=>whnf
   refine tI 0 1 2 [] rfl rfl rfl rfl rfl rfl rfl (fun _=>gP iS oJ _ x (by omega)) ?_;rintro o n' cs' r ⟨s',rfl,rfl,ho,hs',rfl⟩;cases ho;conv=>whnf
   refine⟨jS (by omega),?_⟩;conv=>whnf
   refine⟨j+1,jU [2] ?_,hlt,by omega⟩;conv=>whnf
   subst hs';rw[show S (j+1)=_ from hSn]
   repeat' constructor
  ·have hs0:=z6 e0
   have h1:=jco (yZ (S j))
   have h2:=jco (qA x)
   rw[qH (show (0:Int)<((S j).size:Int) by omega)]
   have hgl:jA (S j) x=if zE (yZ (S j))=false then S j++x else if zE (qA x)=false then S j++x else S j ++ ⟨#[32]⟩ ++ x:=by
    unfold jA;rw[if_neg e0,if_neg (fun e=>by rw[e] at hx;exact absurd hx (by decide))]
   conv=>whnf
   refine kB 0 1 2 [] (mL iS (S j) hs0) ?_;rintro o n' cs' r ⟨s',rfl,rfl,ho,rfl,rfl⟩;cases ho;conv=>whnf
   refine⟨jS (by omega),?_⟩;conv=>whnf
   refine⟨⟨by omega,by omega⟩,?_⟩;rw[show (S j).data.toList.getD (Int.toNat (((S j).size:Int)-1)) 0=yZ (S j) from by unfold yZ;congr 1;omega];generalize zE (yZ (S j))=p at *
   (refine yI [] h1 ?_;rintro r rfl;conv=>whnf)
   cases p
   ·rw[if_pos rfl] at hgl;rw[hgl,ByteArray.size_append] at hz2;rw[hgl] at hSn;conv=>whnf
    refine tI 0 2 3 [] rfl rfl rfl rfl rfl rfl rfl (fun _=>gP iS oJ _ x (by omega)) ?_;rintro o n' cs' r ⟨s',rfl,rfl,ho,hs',rfl⟩;cases ho;conv=>whnf
    refine⟨jS (by omega),?_⟩;conv=>whnf
    refine⟨j+1,jU [3] ?_,hlt,by omega⟩;conv=>whnf
    subst hs';rw[show S (j+1)=_ from hSn]
    repeat' constructor
   ·rw[if_neg (by decide)] at hgl;conv=>whnf
    refine⟨⟨by omega,by omega⟩,?_⟩;rw[show x.data.toList.getD (Int.toNat 0) 0=qA x from rfl];generalize zE (qA x)=q at *
    (refine yI [] h2 ?_;rintro r rfl;conv=>whnf)
    cases q
    ·rw[if_pos rfl] at hgl;rw[hgl,ByteArray.size_append] at hz2;rw[hgl] at hSn;conv=>whnf
     refine tI 0 2 3 [] rfl rfl rfl rfl rfl rfl rfl (fun _=>gP iS oJ _ x (by omega)) ?_;rintro o n' cs' r ⟨s',rfl,rfl,ho,hs',rfl⟩;cases ho;conv=>whnf
     refine⟨jS (by omega),?_⟩;conv=>whnf
     refine⟨j+1,jU [3] ?_,hlt,by omega⟩;conv=>whnf
     subst hs';rw[show S (j+1)=_ from hSn]
     repeat' constructor
    ·rw[if_neg (by decide)] at hgl;rw[hgl,ByteArray.size_append,ByteArray.size_append] at hz2
     have hsp:(⟨#[32]⟩ : ByteArray).size=1:=rfl
     rw[hsp] at hz2;rw[hgl] at hSn;conv=>whnf
     refine kB 0 2 3 [] (jcJ iS oJ (S j) 32 (by omega) (by omega)) ?_;rintro o n' cs' r ⟨s',rfl,rfl,ho,hs',rfl⟩
     obtain rfl:s'=S j ++ ⟨#[32]⟩ := hs'
     cases ho;conv=>whnf
     refine tI 0 3 4 [] rfl rfl rfl rfl rfl rfl rfl (fun _=>gP iS oJ _ x (by rw[ByteArray.size_append,hsp];omega)) ?_;rintro o n' cs' r ⟨s',rfl,rfl,ho,hs',rfl⟩;cases ho;conv=>whnf
     refine⟨jS (by omega),?_⟩;conv=>whnf
     refine⟨j+1,jU [4] ?_,hlt,by omega⟩;conv=>whnf
     subst hs';rw[show S (j+1)=_ from hSn]
     repeat' constructor
 ·rw[j8 (show ¬ (j:Int)<(l.length:Int) by omega)]
  obtain rfl:j=l.length:=by omega
  conv=>whnf
  refine⟨0,?_⟩;conv=>whnf
  exact⟨_,rfl,rfl,rfl,rfl,rfl⟩
theorem jl3 (s x:ByteArray):dH s [x]=jA s x:=rfl
theorem jl4 (s x y:ByteArray):dH s [x,y]=jA (jA s x) y:=rfl
theorem jD (s x:ByteArray) (hx:0<x.size) (hz:s.size+x.size+1<=1000000000):jct 13 [[.adr iS,.own 0]] s [.box 0 0,.sl 1 1 [j0 x]] fun o s' r=>o=[[.adr iS,.own 0]]/\s'=jA s x/\r = .tup []:=by
 refine jac s [x] (by simp) (by simpa using hx) fun j => ?_
 have:=jB s x
 match j with
 | 0=>show s.size<=_;omega
 | j+1=>show (dH s ([x].take (j+1))).size<=_;rw[show [x].take (j+1)=[x] by simp,jl3];omega
theorem yB (s x y:ByteArray) (hx:0<x.size) (hy:0<y.size) (hz:s.size+x.size+y.size+2<=1000000000):jct 13 [[.adr iS,.own 0]] s [.box 0 0,.sl 1 2 [j0 x,j0 y]] fun o s' r=>o=[[.adr iS,.own 0]]/\s'=jA (jA s x) y/\r = .tup []:=by
 refine jac s [x,y] (by simp) (by simpa using ⟨hx,hy⟩) fun j => ?_
 have h1:=jB s x
 have h2:=jB (jA s x) y
 match j with
 | 0=>show s.size<=_;omega
 | 1=>show (jA s x).size<=_;omega
 | j+2=>show (dH s ([x,y].take (j+2))).size<=_;rw[show [x,y].take (j+2)=[x,y] by simp,jl4];omega
theorem pP (s x y z:ByteArray) (hx:0<x.size) (hy:0<y.size) (hw:0<z.size) (hz:s.size+x.size+y.size+z.size+3<=1000000000):jct 13 [[.adr iS,.own 0]] s [.box 0 0,.sl 1 3 [j0 x,j0 y,j0 z]] fun o s' r=>o=[[.adr iS,.own 0]]/\s'=jA (jA (jA s x) y) z/\r = .tup []:=by
 refine jac s [x,y,z] (by simp) (by simpa using ⟨hx,hy,hw⟩) fun j => ?_
 have h1:=jB s x
 have h2:=jB (jA s x) y
 have h3:=jB (jA (jA s x) y) z
 match j with
 | 0=>show s.size<=_;omega
 | 1=>show (jA s x).size<=_;omega
 | 2=>show (jA (jA s x) y).size<=_;omega
 | j+3=>show (dH s ([x,y,z].take (j+3))).size<=_;rw[show [x,y,z].take (j+3)=[x,y,z] by simp];show (jA (jA (jA s x) y) z).size<=_;omega
end Go.Proofs.YtgifglkkmhapiaaGreatDoor.Vm
