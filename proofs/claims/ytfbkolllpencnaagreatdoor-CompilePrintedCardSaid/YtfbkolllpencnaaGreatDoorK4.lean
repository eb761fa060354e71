/- Part 4 of the proof. -/
import Derived.Test.YtfbkolllpencnaaGreatDoorK3
import Derived.Shelf.Lay
import Derived.Shelf.SlIterI.Nil
import Derived.Shelf.SortM.Plain
import Derived.Shelf.SortM.SortNone
import Derived.Recover
set_option maxRecDepth 100000
set_option linter.unusedSimpArgs false
set_option linter.unusedVariables false
set_option linter.unusedSectionVars false
set_option maxHeartbeats 4000000
namespace Go.Proofs.YtfbkolllpencnaaGreatDoor.Vm
open Go.RowKit Go.Shelf
theorem xH (k n:Int) (s:ByteArray) (f:Nt):ntA (.mk k n s [f])=[intA k,intA n,jY s,.sl 4 1 (ntA f)]:=by
 have e1:ntA f=qE [f]:=by rw[zH,yA,List.append_nil]
 rw[e1];rfl
theorem gN (k n:Int) (s:ByteArray) (f g:Nt):ntA (.mk k n s [f,g])=[intA k,intA n,jY s,.sl 4 2 (ntA f++ntA g)]:=by
 have e1:ntA f++ntA g=qE [f,g]:=by rw[zH,zH,yA,List.append_nil]
 rw[e1];rfl
def LowQ (nm:List ByteArray) (lv:Int) (low:Option Pa):Prop:=0<=lv/\((low=none/\lv=20) ∨ ∃ p,low=some p/\lv+1<=20/\qS p.no/\qS p.un/\qS p.ex/\qS p.bl ∧
 zT nm 155 (lv+1) p.no/\zT nm 173 (lv+1) p.un/\zT nm 110 (lv+1) p.ex/\zT nm 71 (lv+1) p.bl)
def jr4 (nm:List ByteArray) (lv:Int) (g:Nat) (op:Option (List Tk->Pn)):Prop:=0<=lv/\((op=none/\lv=20) ∨ ∃ f,op=some f/\lv+1<=20/\qS f/\zT nm g (lv+1) f)
theorem LowQ.no {nm:List ByteArray} {lv:Int} {low:Option Pa} (h:LowQ nm lv low):jr4 nm lv 155 (low.map (·.no)):=by
 obtain⟨h0,⟨rfl,h1⟩ | ⟨p,rfl,h1,a,b,c,d,e,f,g,i⟩⟩ := h
 ·exact⟨h0,.inl ⟨rfl,h1⟩⟩
 ·exact⟨h0,.inr ⟨_,rfl,h1,a,e⟩⟩
theorem LowQ.un {nm:List ByteArray} {lv:Int} {low:Option Pa} (h:LowQ nm lv low):jr4 nm lv 173 (low.map (·.un)):=by
 obtain⟨h0,⟨rfl,h1⟩ | ⟨p,rfl,h1,a,b,c,d,e,f,g,i⟩⟩ := h
 ·exact⟨h0,.inl ⟨rfl,h1⟩⟩
 ·exact⟨h0,.inr ⟨_,rfl,h1,b,f⟩⟩
theorem mG (nm:List ByteArray) (s:ByteArray) (lv:Int) (g:Nat) (op:Option (List Tk->Pn)) (hlo:jr4 nm lv g op) (ts:List Tk) (h:TkP ts) (hs:qU s ts=true) :
  SpecP Tryz.prog 167 [fD nm ts] [.box 0 0,intA lv,jY s,.bm g [.box 0 0]] (poQ nm (uG s op ts)) (pnQ (uG s op ts)):=by
 obtain⟨hlv,hlo⟩ := hlo
 obtain⟨P,hP⟩ : ∃ P,uG s op ts=P:=⟨_,rfl⟩
 rw[hP]
 have hopen:=eA nm ts h.pos s (lv+1)
 obtain⟨q1,q2⟩ := h.is hs
 unfold uG at hP
 rcases hlo with ⟨rfl,rfl⟩ | ⟨f,rfl,hle,gf,sf⟩
 ·simp only at hP
  refine eNP jH jT Tryz.func167 rfl ?_;intro _;conv=>whnf
  refine⟨jV (by omega),?_⟩;conv=>whnf
  refine kT 0 [] hopen (fun ch bx' hp => ?_) ?_
  ·rcases hp with ⟨_,_,hp⟩ | ⟨hp,_⟩
   ·exact jP hP.symm hp
   ·rw[hs] at hp;cases hp
  rintro o r ⟨⟨_,hbad⟩,_⟩;omega
 ·simp only at hP
  refine eNP jH jT Tryz.func167 rfl ?_;intro _;conv=>whnf
  refine⟨jV (by omega),?_⟩;conv=>whnf
  refine kT 0 [] hopen (fun ch bx' hp => ?_) ?_
  ·rcases hp with ⟨_,hp,_⟩ | ⟨hp,_⟩
   ·omega
   ·rw[hs] at hp;cases hp
  rintro o r ⟨_,ho,rfl⟩;cases ho;generalize ts.tail=ts1 at *;conv=>whnf
  refine⟨jV (by omega),?_⟩;conv=>whnf
  refine kT 0 [] (sf ts1 q1) (fun ch bx' hp => ?_) ?_
  ·obtain⟨x,e,he,hc⟩ := zD hp
   rw[he] at hP;exact jP hP.symm hc
  rintro o r hpo
  obtain⟨k,r1,he,ho,rfl⟩ := j9 hpo
  cases ho;rw[he] at hP;simp only[Pn.andThen] at hP;subst hP;conv=>whnf
  exact⟨rfl,by rw[xH];rfl⟩
theorem jgo {nm:List ByteArray} {lv:Int} {low:Option Pa} (hlo:LowQ nm lv low):zT nm 175 lv (eW low):=fun ts h=>by
 obtain⟨hlv,hlo⟩ := hlo
 obtain⟨P,hP⟩ : ∃ P,eW low ts=P:=⟨_,rfl⟩
 rw[hP]
 have hopen:=eA nm ts h.pos pLp (lv+1)
 unfold eW at hP;refine eNP jH jT Tryz.func175 rfl ?_;intro _;conv=>whnf
 have hlv2:lv<=20:=by rcases hlo with ⟨_,h⟩ | ⟨_,_,h,_⟩ <;> omega
 refine⟨jV (by omega),?_⟩;conv=>whnf
 refine kT 0 [] hopen (fun ch bx' hp => ?_) ?_
 ·rcases hp with ⟨h1,h2,hp⟩ | ⟨h1,hp⟩
  ·rw[if_pos h1] at hP
   rcases hlo with ⟨rfl,rfl⟩ | ⟨p,rfl,hle,_⟩
   ·exact jP hP.symm hp
   ·omega
  ·rw[if_neg (by rw[h1];simp)] at hP;exact jP hP.symm hp
 rintro o r ⟨⟨h1,h2⟩,ho,rfl⟩;cases ho;rw[if_pos h1] at hP
 obtain⟨q1,q2⟩ := h.is h1
 rcases hlo with ⟨rfl,rfl⟩ | ⟨p,rfl,hle,_,_,ge,_,_,_,se,_⟩
 ·omega
 simp only at hP
 generalize ts.tail=ts1 at *;conv=>whnf
 refine⟨jV (by omega),?_⟩;conv=>whnf
 refine kT 0 [] (se ts1 q1) (fun ch bx' hp => ?_) ?_
 ·obtain⟨x,e,he,hc⟩ := zD hp
  rw[he] at hP;exact jP hP.symm hc
 rintro o r hpo
 obtain⟨k,r1,he,ho,rfl⟩ := j9 hpo
 cases ho;rw[he] at hP;simp only[Pn.andThen,xpt] at hP
 obtain⟨g1,g2⟩ := ge _ _ _ q1 he
 conv=>whnf
 refine kT 0 [] (jU nm r1 g1.pos pRp) (fun ch bx' hp => ?_) ?_
 ·rw[if_neg (by rw[hp.1];simp)] at hP;exact jP hP.symm hp.2
 rintro o r ⟨h3,ho,rfl⟩;cases ho;rw[if_pos h3] at hP;subst hP;conv=>whnf
 exact⟨rfl,rfl⟩
def jpI (f:Nt):List A:=[intA f.k,intA f.n,jY f.s,.v (.slice none 0 0)]
theorem kN {f:Nt} (h:f.kids=[]):WkL (jpI f) (ntA f):=by
 unfold jpI ntA;rw[h,yA];exact .cons (.refl _) (.cons (.refl _) (.cons (.refl _) (.cons (.nil 4) .nil)))
def poW (nm:List ByteArray) (p:Pn) (o:List (List A)) (r:A):Prop:=match p with
 | .ok f ts=>o=[fD nm ts] /\ ∃ c,r = .agg c/\WkL c (ntA f)
 | _=>False
theorem kK:∀ l:List A,WkL l l
 | [] => .nil
 | a :: l => .cons (.refl a) (kK l)
theorem jiq {nm:List ByteArray} {p:Pn} {o:List (List A)} {r:A} (h:poQ nm p o r):poW nm p o r:=by
 obtain⟨f,ts,rfl,rfl,rfl⟩ := j9 h
 exact⟨rfl,_,rfl,kK _⟩
theorem jjZ {nm:List ByteArray} {g:Nat} {ins:List (List A)} {args:List A} {p:Pn} (h:SpecP Tryz.prog g ins args (poW nm p) (pnQ p)):SpecP Tryz.prog g ins args (poQ nm p) (pnQ p) :=
 h.weaken (fun o r k=>by
  unfold poW at k
  split at k
  ·rename_i f ts
   obtain⟨k1,c,rfl,k2⟩ := k
   exact⟨o,.agg (ntA f),⟨k1,rfl⟩,.refl o,.agg k2⟩
  ·exact k.elim) fun ch k=>k
theorem jeE {nm:List ByteArray} {lv:Int} {low:Option Pa} (hlo:LowQ nm lv low):zT nm 174 lv (yC low):=fun ts h=>by
 have hne:=jgo hlo
 refine jjZ ?_
 obtain⟨P,hP⟩ : ∃ P,yC low ts=P:=⟨_,rfl⟩
 rw[hP]
 have hl:=h.pos
 have hr:=nH hl
 have hw:=h.hd
 have hgd:=h.good
 have his:=fun s=>g9 nm ts hl s
 have hnx:=wV nm ts hl
 have hnm:=d9 nm ts hl hw hgd.1
 have hfl:=gB nm ts hl 10
 have htl:=h.tail
 have hps:=fun s (hs:qU s ts=true)=>h.is hs
 unfold wOk at hw
 have hz:=hgd.1
 clear hgd
 have hbi:jg3 ts=(decide ((hd ts).kind=1) && builtL.any fun s=>decide ((hd ts).text=s)):=rfl
 unfold yC at hP;refine eNP jH jT Tryz.func174 rfl ?_;intro _
 have hsyn:synE ts = .bad (hd ts).pos 10:=rfl
 have hn0:=hne ts h
 generalize hd ts=t at *;conv=>whnf
 (refine uP ?_;try with_reducible exact trivial)
 (generalize hrq:jJ _ _ (y7 ts)=rq;obtain rfl:rq=sY t:=hrq.symm.trans (hr);clear hrq;conv=>whnf)
 refine zC 0 [] (his pLp) ?_;rintro o r ⟨ho,rfl⟩;cases ho;conv=>whnf
 cases hq1:qU pLp ts with
 | true =>
  rw[if_pos hq1] at hP;conv=>whnf
  rw[hP] at hn0;refine kT 0 [] hn0 (fun ch bx' hp=>hp) ?_;rintro o r hpo
  obtain⟨f,r1,rfl,ho,rfl⟩ := j9 hpo
  cases ho;conv=>whnf
  exact jiq (p := .ok f r1) (show _/\_ from ⟨rfl,rfl⟩)
 | false =>
  rw[if_neg (by rw[hq1];simp)] at hP;conv=>whnf
  refine zC 0 [] (his wDraw) ?_;rintro o r ⟨ho,rfl⟩;cases ho;conv=>whnf
  cases hq2:qU wDraw ts with
  | true =>
   rw[if_pos hq2] at hP
   obtain⟨q1,q2⟩ := hps _ hq2
   generalize ts.tail=ts1 at *;conv=>whnf
   refine zC 0 [] hnx ?_;rintro o r ⟨ho,rfl⟩;cases ho;conv=>whnf
   refine kT 0 [] (hne ts1 q1) (fun ch bx' hp => ?_) ?_
   ·obtain⟨x,e,he,hc⟩ := zD hp
    rw[he] at hP;exact jP hP.symm hc
   rintro o r hpo
   obtain⟨f,r1,he,ho,rfl⟩ := j9 hpo
   cases ho;rw[he] at hP;simp only[Pn.andThen] at hP;subst hP;conv=>whnf
   exact jiq (p := .ok (.mk 16 0 eB [f]) r1) (show _/\_ from ⟨rfl,by rw[xH];rfl⟩)
  | false =>
   rw[if_neg (by rw[hq2];simp)] at hP;conv=>whnf
   by_cases hk2:t.kind=2
   ·rw[j8 hk2];rw[if_pos hk2] at hP;conv=>whnf
    refine zC 0 [] hnx ?_;rintro o r ⟨ho,rfl⟩;cases ho;subst hP;conv=>whnf
    exact⟨rfl,_,rfl,kN (f := .mk 12 t.n eB []) rfl⟩
   ·rw[jW hk2];rw[if_neg hk2] at hP;conv=>whnf
    refine zC 0 [] (his rK) ?_;rintro o r ⟨ho,rfl⟩;cases ho;conv=>whnf
    cases hq3:qU rK ts with
    | true =>
     rw[if_pos hq3] at hP;conv=>whnf
     refine zC 0 [] hnx ?_;rintro o r ⟨ho,rfl⟩;cases ho;subst hP;conv=>whnf
     exact⟨rfl,_,rfl,kN (f := .mk 13 1 eB []) rfl⟩
    | false =>
     rw[if_neg (by rw[hq3];simp)] at hP;conv=>whnf
     refine zC 0 [] (his eQ) ?_;rintro o r ⟨ho,rfl⟩;cases ho;conv=>whnf
     cases hq4:qU eQ ts with
     | true =>
      rw[if_pos hq4] at hP;conv=>whnf
      refine zC 0 [] hnx ?_;rintro o r ⟨ho,rfl⟩;cases ho;subst hP;conv=>whnf
      exact⟨rfl,_,rfl,kN (f := .mk 13 0 eB []) rfl⟩
     | false =>
      rw[if_neg (by rw[hq4];simp)] at hP;conv=>whnf
      refine zC 0 [] hnm ?_;rintro o r ⟨ho,rfl⟩;cases ho;conv=>whnf
      cases hq5:xK ts with
      | true =>
       rw[if_pos hq5] at hP;conv=>whnf
       refine zC 0 [] hnx ?_;rintro o r ⟨ho,rfl⟩;cases ho;subst hP;conv=>whnf
       exact⟨rfl,_,rfl,kN (f := .mk 14 0 t.text []) rfl⟩
      | false =>
       rw[if_neg (by rw[hq5];simp)] at hP;conv=>whnf
       by_cases hk1:t.kind=1
       ·obtain⟨w1,w2⟩ := hw hk1
        have hc:∀ K:ByteArray,K.size<=1000000000->K.data.toList=spW (builtL.map (·.data.toList))->Spec Tryz.prog 109 [] [jY K,jY ((⟨#[32]⟩ : ByteArray)++t.text ++ ⟨#[32]⟩)] fun _ r=>r=wY (builtL.any fun s=>decide (t.text=s)):=fun K hK hK2=>by
         have:=jbo K ((⟨#[32]⟩ : ByteArray)++t.text ++ ⟨#[32]⟩) hK
         rw[jaf,hK2,mV _ w2 _ jrk,<- jac] at this;exact this
        have hs1:(⟨#[32]⟩ : ByteArray).size=1:=rfl
        rw[j8 hk1,Bool.true_and] at hbi;rw[j8 hk1];conv=>whnf
        refine⟨by rw[hs1];unfold maxLen;omega,?_⟩;conv=>whnf
        refine⟨by rw[ByteArray.size_append,hs1];unfold maxLen;omega,?_⟩;conv=>whnf
        (refine jfn [] rfl (fun _=>hc _ (by decide +kernel) (by decide +kernel)) ?_;rintro r rfl;conv=>whnf)
        rw[hbi] at hP
        cases hq6:builtL.any fun s=>decide (t.text=s) with
        | true =>
         rw[hq6,if_pos rfl] at hP;conv=>whnf
         refine zC 0 [] hnx ?_;rintro o r ⟨ho,rfl⟩;cases ho;subst hP;conv=>whnf
         exact⟨rfl,_,rfl,kN (f := .mk 15 0 t.text []) rfl⟩
        | false =>
         rw[hq6,if_neg (by simp),hsyn] at hP;conv=>whnf
         refine kT 0 [] hfl (fun ch bx' hp=>jP hP.symm hp) ?_;rintro o r ⟨⟩
       ·rw[jW hk1,Bool.false_and] at hbi;rw[hbi,if_neg (by simp),hsyn] at hP;rw[jW hk1];conv=>whnf
        refine kT 0 [] hfl (fun ch bx' hp=>jP hP.symm hp) ?_;rintro o r ⟨⟩
def fC (low:Option Pa):Prop := ∀ p,low=some p->qS p.no/\qS p.un/\qS p.ex/\qS p.bl
theorem j0 {p:Pn} {k:Nt->List Tk->Pn} {f:Nt} {r:List Tk} (h:p.andThen k = .ok f r):∃ g s,p = .ok g s/\k g s = .ok f r:=by
 cases p with
 | ok g s=>exact⟨g,s,rfl,h⟩
 | bad x e=>cases h
theorem xM {s:ByteArray} {ts:List Tk} {k:List Tk->Pn} {f:Nt} {r:List Tk} (h:xpt s ts k = .ok f r):qU s ts=true/\k ts.tail = .ok f r:=by
 unfold xpt at h
 split at h
 ·rename_i hs;exact⟨hs,h⟩
 ·cases h
theorem jcF {low:Option Pa} (hl:fC low):qS (eW low):=fun ts f r h e=>by
 unfold eW at e
 split at e
 ·rename_i hs
  obtain⟨q1,q2⟩ := h.is hs
  cases low with
  | none=>cases e
  | some p =>
   simp only at e
   obtain⟨n,s,e1,e2⟩ := j0 e
   obtain⟨g1,g2⟩ := (hl p rfl).2.2.1 _ _ _ q1 e1
   obtain⟨e3,e4⟩ := xM e2
   obtain⟨g3,g4⟩ := g1.is e3
   cases e4
   exact⟨g3,by omega⟩
 ·cases e
theorem jfT {s:ByteArray} {op:Option (List Tk->Pn)} (hg:∀ f,op=some f->qS f) (ts:List Tk) (f:Nt) (r:List Tk) (h:TkP ts) (hs:qU s ts=true) (e:uG s op ts = .ok f r):TkP r/\r.length<=ts.length:=by
 obtain⟨q1,q2⟩ := h.is hs
 cases op with
 | none=>cases e
 | some o =>
  unfold uG at e
  simp only at e
  obtain⟨n,s,e1,e2⟩ := j0 e
  obtain⟨g1,g2⟩ := hg o rfl _ _ _ q1 e1
  cases e2
  exact⟨g1,by omega⟩
theorem jkt {low:Option Pa} (hl:fC low):qS (yC low):=fun ts f r h e=>by
 unfold yC at e
 split at e
 ·exact jcF hl ts f r h e
 split at e
 ·rename_i hs
  obtain⟨q1,q2⟩ := h.is hs
  obtain⟨n,s,e1,e2⟩ := j0 e
  obtain⟨g1,g2⟩ := jcF hl _ _ _ q1 e1
  cases e2
  exact⟨g1,by omega⟩
 split at e
 ·rename_i hk
  obtain⟨q1,q2⟩ := h.tail (by rw[hk];decide)
  cases e
  exact⟨q1,by omega⟩
 split at e
 ·rename_i hs
  obtain⟨q1,q2⟩ := h.is hs
  cases e
  exact⟨q1,by omega⟩
 split at e
 ·rename_i hs
  obtain⟨q1,q2⟩ := h.is hs
  cases e
  exact⟨q1,by omega⟩
 split at e
 ·rename_i hs
  unfold xK at hs;simp only[Bool.and_eq_true,decide_eq_true_eq] at hs
  obtain⟨q1,q2⟩ := h.tail (by rw[hs.1];decide)
  cases e
  exact⟨q1,by omega⟩
 split at e
 ·rename_i hs
  unfold jg3 at hs;simp only[Bool.and_eq_true,decide_eq_true_eq] at hs
  obtain⟨q1,q2⟩ := h.tail (by rw[hs.1];decide)
  cases e
  exact⟨q1,by omega⟩
 ·cases e
theorem cK {low:Option Pa} (hl:fC low):qS (vP low):=fun ts f r h e=>by
 unfold vP at e
 split at e
 ·rename_i hs
  refine jfT (fun o ho => ?_) ts f r h hs e;rw[Option.map_eq_some_iff] at ho
  obtain⟨p,hp,rfl⟩ := ho
  exact (hl p hp).2.1
 ·exact jkt hl ts f r h e
theorem jaN {op:List Tk->Pn} (hg:qS op) (signs:List ByteArray):∀ (n:Nat) (l:Nt) (ts:List Tk) (f:Nt) (r:List Tk),TkP ts->x7 op signs n l ts = .ok f r->TkP r/\r.length<=ts.length
 | 0,l,ts,f,r,h,e=>by cases e;exact⟨h,Nat.le_refl _⟩
 | n+1,l,ts,f,r,h,e=>by
  rw[x7] at e
  split at e
  ·rename_i hs
   obtain⟨s,hs⟩ := iT hs
   obtain⟨q1,q2⟩ := h.is hs
   obtain⟨g,s,e1,e2⟩ := j0 e
   obtain⟨g1,g2⟩ := hg _ _ _ q1 e1
   obtain⟨g3,g4⟩ := jaN hg signs n _ _ _ _ g1 e2
   exact⟨g3,by omega⟩
  ·cases e;exact⟨h,Nat.le_refl _⟩
theorem gW {op:List Tk->Pn} (hg:qS op) (signs:List ByteArray):qS (kO op signs):=fun ts f r h e=>by
 unfold kO at e
 obtain⟨g,s,e1,e2⟩ := j0 e
 obtain⟨g1,g2⟩ := hg _ _ _ h e1
 obtain⟨g3,g4⟩ := jaN hg signs _ _ _ _ _ g1 e2
 exact⟨g3,by omega⟩
theorem pN {low:Option Pa} (hl:fC low):qS (jbA low):=gW (gW (cK hl) _) _
theorem cJ {low:Option Pa} (hl:fC low):qS (m9 low):=fun ts f r h e=>by
 unfold m9 at e
 split at e
 ·rename_i hs
  refine jfT (fun o ho => ?_) ts f r h hs e;rw[Option.map_eq_some_iff] at ho
  obtain⟨p,hp,rfl⟩ := ho
  exact (hl p hp).1
 ·obtain⟨g,s,e1,e2⟩ := j0 e
  obtain⟨g1,g2⟩ := pN hl _ _ _ h e1
  split at e2
  ·rename_i hs
   obtain⟨_,hs⟩ := iT hs
   obtain⟨q1,q2⟩ := g1.is hs
   obtain⟨g',s',e3,e4⟩ := j0 e2
   obtain⟨g3,g4⟩ := pN hl _ _ _ q1 e3
   cases e4
   exact⟨g3,by omega⟩
  ·cases e2
   exact⟨g1,g2⟩
theorem aL {low:Option Pa} (hl:fC low):qS (pH low):=gW (gW (cJ hl) _) _
theorem LowQ.goes {nm:List ByteArray} {lv:Int} {low:Option Pa} (h:LowQ nm lv low):fC low:=fun p hp=>by
 obtain⟨h0,⟨rfl,h1⟩ | ⟨q,rfl,h1,a,b,c,d,e,f,g,i⟩⟩ := h
 ·cases hp
 ·cases hp;exact⟨a,b,c,d⟩
theorem jbM {nm:List ByteArray} {lv:Int} {low:Option Pa} (hlo:LowQ nm lv low):zT nm 173 lv (vP low):=fun ts h=>by
 have hpr:=jeE hlo ts h
 obtain⟨P,hP⟩ : ∃ P,vP low ts=P:=⟨_,rfl⟩
 rw[hP]
 have his:=g9 nm ts h.pos pMinus
 have hpre:=fun hs=>mG nm pMinus lv _ _ hlo.un ts h hs
 unfold vP at hP;refine eNP jH jT Tryz.func173 rfl ?_;intro _;conv=>whnf
 refine zC 0 [] his ?_;rintro o r ⟨ho,rfl⟩;cases ho;conv=>whnf
 cases hq:qU pMinus ts with
 | true =>
  have hpre:=hpre hq
  rw[if_pos hq] at hP;rw[hP] at hpre;conv=>whnf
  refine kT 0 [] hpre (fun ch bx' hp=>hp) ?_;rintro o r hpo
  obtain⟨f,r1,rfl,ho,rfl⟩ := j9 hpo
  cases ho;conv=>whnf
  exact⟨rfl,rfl⟩
 | false =>
  rw[if_neg (by rw[hq];simp)] at hP;rw[hP] at hpr;conv=>whnf
  refine kT 0 [] hpr (fun ch bx' hp=>hp) ?_;rintro o r hpo
  obtain⟨f,r1,rfl,ho,rfl⟩ := j9 hpo
  cases ho;conv=>whnf
  exact⟨rfl,rfl⟩
theorem jeF {nm:List ByteArray} {lv:Int} {low:Option Pa} (hlo:LowQ nm lv low):zT nm 172 lv (kO (vP low) [zZ,qM]):=by
 have hop:=jbM hlo
 have hgo:=cK hlo.goes
 intro ts h
 obtain⟨P,hP⟩ : ∃ P,kO (vP low) [zZ,qM] ts=P:=⟨_,rfl⟩
 have hch:=dM nm (vP low) [zZ,qM] lv 173 (by decide) hgo hop ts h
 show SpecP _ _ _ _ (poQ nm (kO (vP low) [zZ,qM] ts)) (pnQ (kO (vP low) [zZ,qM] ts))
 rw[hP] at hch ⊢;refine eNP jH jT Tryz.func172 rfl ?_;intro _;conv=>whnf
 refine kT 0 [0] hch (fun ch bx' hp=>hp) ?_;rintro o r hpo
 obtain⟨f,r1,rfl,ho,rfl⟩ := j9 hpo
 cases ho;conv=>whnf
 exact⟨rfl,rfl⟩
theorem jnT {nm:List ByteArray} {lv:Int} {low:Option Pa} (hlo:LowQ nm lv low):zT nm 168 lv (jbA low):=by
 have hop:=jeF hlo
 have hgo:=gW (cK hlo.goes) [zZ,qM]
 show zT _ _ _ (kO (kO (vP low) [zZ,qM]) [wP,pMinus])
 intro ts h
 obtain⟨P,hP⟩ : ∃ P,kO (kO (vP low) [zZ,qM]) [wP,pMinus] ts=P:=⟨_,rfl⟩
 have hch:=dM nm (kO (vP low) [zZ,qM]) [wP,pMinus] lv 172 (by decide) hgo hop ts h
 show SpecP _ _ _ _ (poQ nm (kO (kO (vP low) [zZ,qM]) [wP,pMinus] ts)) (pnQ (kO (kO (vP low) [zZ,qM]) [wP,pMinus] ts))
 rw[hP] at hch ⊢;refine eNP jH jT Tryz.func168 rfl ?_;intro _;conv=>whnf
 refine kT 0 [0] hch (fun ch bx' hp=>hp) ?_;rintro o r hpo
 obtain⟨f,r1,rfl,ho,rfl⟩ := j9 hpo
 cases ho;conv=>whnf
 exact⟨rfl,rfl⟩
theorem jgv {nm:List ByteArray} {lv:Int} {low:Option Pa} (hlo:LowQ nm lv low):zT nm 155 lv (m9 low):=fun ts h=>by
 have hsm:=jnT hlo
 have hgs:=pN hlo.goes
 obtain⟨P,hP⟩ : ∃ P,m9 low ts=P:=⟨_,rfl⟩
 rw[hP]
 have his:=g9 nm ts h.pos pNot
 have hpre:=fun hs=>mG nm pNot lv _ _ hlo.no ts h hs
 unfold m9 at hP;generalize jbA low=op at *;refine eNP js7 (fun _=>[0]) Tryz.func155 rfl ?_;intro _;conv=>whnf
 refine zC 0 [] his ?_;rintro o r ⟨ho,rfl⟩;cases ho;conv=>whnf
 cases hq:qU pNot ts with
 | true =>
  have hpre:=hpre hq
  rw[if_pos hq] at hP;rw[hP] at hpre;conv=>whnf
  refine kT 0 [] hpre (fun ch bx' hp=>hp) ?_;rintro o r hpo
  obtain⟨f,r1,rfl,ho,rfl⟩ := j9 hpo
  cases ho;conv=>whnf
  exact⟨rfl,rfl⟩
 | false =>
  rw[if_neg (by rw[hq];simp)] at hP;conv=>whnf
  refine kT 0 [] (hsm ts h) (fun ch bx' hp => ?_) ?_
  ·obtain⟨x,e,he,hc⟩ := zD hp
   rw[he] at hP;exact jP hP.symm hc
  rintro o r hpo
  obtain⟨f,r1,he,ho,rfl⟩ := j9 hpo
  cases ho;rw[he] at hP;simp only[Pn.andThen] at hP
  obtain⟨g1,g2⟩ := hgs _ _ _ h he
  have hct:=jbe nm r1 g1.pos cmpL (by decide)
  conv=>whnf
  refine zC 0 [0] hct ?_;rintro o r ⟨ho,rfl⟩;cases ho;conv=>whnf
  cases hc:gS cmpL r1 with
  | true =>
   rw[if_pos hc] at hP
   obtain⟨_,hs⟩ := iT hc
   obtain⟨q1,q2⟩ := g1.is hs
   have hnx:=wV nm r1 g1.pos
   generalize r1.tail=r2 at *;generalize hd r1=t at *;conv=>whnf
   refine zC 0 [] hnx ?_;rintro o r ⟨ho,rfl⟩;cases ho;conv=>whnf
   refine kT 0 [] (hsm r2 q1) (fun ch bx' hp => ?_) ?_
   ·obtain⟨x,e,he,hc⟩ := zD hp
    rw[he] at hP;exact jP hP.symm hc
   rintro o r hpo
   obtain⟨f2,r3,he2,ho,rfl⟩ := j9 hpo
   cases ho;rw[he2] at hP;simp only[Pn.andThen] at hP;subst hP;conv=>whnf
   exact⟨rfl,by rw[gN];rfl⟩
  | false =>
   rw[if_neg (by rw[hc];simp)] at hP;subst hP;conv=>whnf
   exact⟨rfl,rfl⟩
theorem jly {nm:List ByteArray} {lv:Int} {low:Option Pa} (hlo:LowQ nm lv low):zT nm 129 lv (kO (m9 low) [kZ]):=by
 have hop:=jgv hlo
 have hgo:=cJ hlo.goes
 intro ts h
 obtain⟨P,hP⟩ : ∃ P,kO (m9 low) [kZ] ts=P:=⟨_,rfl⟩
 have hch:=dM nm (m9 low) [kZ] lv 155 (by decide) hgo hop ts h
 show SpecP _ _ _ _ (poQ nm (kO (m9 low) [kZ] ts)) (pnQ (kO (m9 low) [kZ] ts))
 rw[hP] at hch ⊢;refine eNP jH jT Tryz.func129 rfl ?_;intro _;conv=>whnf
 refine kT 0 [0] hch (fun ch bx' hp=>hp) ?_;rintro o r hpo
 obtain⟨f,r1,rfl,ho,rfl⟩ := j9 hpo
 cases ho;conv=>whnf
 exact⟨rfl,rfl⟩
theorem jcy {nm:List ByteArray} {lv:Int} {low:Option Pa} (hlo:LowQ nm lv low):zT nm 110 lv (pH low):=by
 have hop:=jly hlo
 have hgo:=gW (cJ hlo.goes) [kZ]
 show zT _ _ _ (kO (kO (m9 low) [kZ]) [pOr])
 intro ts h
 obtain⟨P,hP⟩ : ∃ P,kO (kO (m9 low) [kZ]) [pOr] ts=P:=⟨_,rfl⟩
 have hch:=dM nm (kO (m9 low) [kZ]) [pOr] lv 129 (by decide) hgo hop ts h
 show SpecP _ _ _ _ (poQ nm (kO (kO (m9 low) [kZ]) [pOr] ts)) (pnQ (kO (kO (m9 low) [kZ]) [pOr] ts))
 rw[hP] at hch ⊢;refine eNP jH jT Tryz.func110 rfl ?_;intro _;conv=>whnf
 refine kT 0 [0] hch (fun ch bx' hp=>hp) ?_;rintro o r hpo
 obtain⟨f,r1,rfl,ho,rfl⟩ := j9 hpo
 cases ho;conv=>whnf
 exact⟨rfl,rfl⟩
end Go.Proofs.YtfbkolllpencnaaGreatDoor.Vm
namespace Go.Proofs.YtfbkolllpencnaaGreatDoor.Vm
open Go.RowKit
section
section
variable {w0:W0} {C0:Rd} {β0:List Nat} {bx:List (List A)} {rw:List Row} {w:World} {E:Env}
theorem Hp.learn (h:Hp w0 C0 β0 bx rw w E) {b:Nat} (hf:w0.fr b) (hβ:b ∉ E.β) (hr:∀ (g e k n:Nat) (cs:List A) (y:Value),rw[g]? = some (.live e k n cs)->E.ρ[g]? = some y->blk y ≠ some b) :
  ∃ C',Hp w0 C0 β0 bx rw w ⟨C',E.β,E.ρ⟩ /\ E.le ⟨C',E.β,E.ρ⟩ /\ ∀ ad,ad.block=b->C' ad=kS w ad:=by
 refine⟨fun ad=>if ad.block=b then kS w ad else E.C ad,?_⟩
 have hC:Sub E.C (fun ad=>if ad.block=b then kS w ad else E.C ad):=fun ad u hc=>by
  simp only
  split
  ·exact h.sub ad u hc
  ·exact hc
 have le:E.le ⟨fun ad=>if ad.block=b then kS w ad else E.C ad,E.β,E.ρ⟩ := ⟨hC,fun _ _ h=>h,fun _ _ h=>h⟩
 refine⟨⟨fun ad u hc => ?_,h.base.trans hC,fun ad u hc => ?_,h.bp,h.bnd,fun b' hb' o sp => ?_,h.bl,fun i b cs' h1 h2=>(h.bxs i b cs' h1 h2).mono le,h.rl,fun j r' z h1 h2=>(h.rws j r' z h1 h2).mono le (fun _ _ _ _ _ _ _=>rfl),fun j e' k' n' cs' z b' h1 h2 h3 => ?_,h.rd,h.rs,h.keep,h.gk⟩,le,fun ad e=>if_pos e⟩
 ·simp only at hc
  split at hc
  ·exact hc
  ·exact h.sub ad u hc
 ·simp only at hc
  split at hc
  ·rename_i hb2
   right
   rw[hb2];exact hf
  ·exact h.fresh ad u hc
 ·simp only
  rw[if_neg (fun hb2:b'=b=>hβ (by rw[<- hb2];exact hb'))];exact h.bC b' hb' o sp
 ·obtain⟨q1,q2⟩ := h.rC j e' k' n' cs' z b' h1 h2 h3
  refine⟨q1,fun o sp => ?_⟩
  simp only
  rw[if_neg (fun hb2:b'=b=>hr j e' k' n' cs' z h1 h2 (by rw[<- hb2];exact h3))];exact q2 o sp
end
def jfq (n nr:Nat) (x:Value) (a:A):A:=match a with
 | .box i o=>match Nat.beq i n with
  | true=>match o with
   | 0 => .pp [.v x]
   | _+1 => .dead
  | false=>match yW n nr a with
   | true=>a
   | false => .dead
 | a=>match yW n nr a with
  | true=>a
  | false => .dead
theorem jkl {E:Env} {C':Rd} {n nr b:Nat} {x:Value} {a:A} {y:Value} (hb:E.β[n]? = some b) (hC:Sub E.C C') (hx:C' ⟨b,0,none⟩ = some x) (h1:x.oneCell'=true) (hv:fF x) (h:a.rep E y):(jfq n nr x a).rep ⟨C',E.β.take n,E.ρ.take nr⟩ y:=by
 have le:(⟨E.C,E.β.take n,E.ρ.take nr⟩ : Env).le ⟨C',E.β.take n,E.ρ.take nr⟩ := ⟨hC,fun _ _ h=>h,fun _ _ h=>h⟩
 have gen:∀ a:A,a.rep E y->(match yW n nr a with | true=>a | false => .dead:A).rep ⟨C',E.β.take n,E.ρ.take nr⟩ y:=fun a h=>by
  split
  ·rename_i hr
   exact A.rep.mono a le (iG a hr h)
  ·exact A.rep_dead _ _
 cases a with
 | box i o =>
  unfold jfq
  simp only
  split
  ·rename_i hi
   have hi:=Nat.eq_of_beq_eq_true hi
   subst hi;unfold A.rep at h
   obtain⟨b',h2,rfl⟩ := h
   rw[hb] at h2
   cases h2
   cases o with
   | zero =>
    simp only
    unfold A.rep;refine⟨b,0,rfl,?_⟩;unfold A.repAt;exact⟨⟨x,hx,h1,A.rep_v hv⟩,by unfold A.repAt;trivial⟩
   | succ o=>exact A.rep_dead _ _
  ·exact gen _ h
 | _=>exact gen _ h
theorem jcs {E:Env} {C':Rd} {n nr b:Nat} {x:Value} (hb:E.β[n]? = some b) (hC:Sub E.C C') (hx:C' ⟨b,0,none⟩ = some x) (h1:x.oneCell'=true) (hv:fF x):∀ {l:List A} {us:List Value},A.repL l E us->A.repL (l.map (jfq n nr x)) ⟨C',E.β.take n,E.ρ.take nr⟩ us
 | [],us,h=>by unfold A.repL at h ⊢;exact h
 | a :: r,us,h=>by
  unfold A.repL at h
  obtain⟨u,us',rfl,h2,h3⟩ := h
  rw[List.map_cons];unfold A.repL;exact⟨u,us',rfl,jkl hb hC hx h1 hv h2,jcs hb hC hx h1 hv h3⟩
theorem jga:∀ l:List A,LeL l l
 | []=>trivial
 | a :: l=>⟨.inr rfl,jga l⟩
theorem jjt:∀ (l m:List (List A)),LeB (l++m) l
 | [],[]=>trivial
 | [],_ :: _=>trivial
 | a :: l,m=>⟨jga a,jjt l m⟩
theorem jgb:∀ l:List Row,LeR l l
 | []=>trivial
 | a :: l=>⟨.inr rfl,jgb l⟩
theorem jpm {np:Nat} {t:List A} {bx:List (List A)} {rw:List Row} {x:Value} (hn:Nat.ble np bx.length=true) (hrf:tV bx.length rw.length bx=true):Le np ⟨t,bx++[[.v x]],rw⟩ ⟨t.map (jfq bx.length rw.length x),bx,rw⟩ := by
 rintro dr w0 C0 β0 a w hdr e ⟨E,hp,hrep,hd⟩
 have hn':=Nat.le_of_ble_eq_true hn
 rw[<- e] at hn'
 have hpw:=hp.weaken (bx':=bx) (rw':=rw) hn' (jjt _ _) (jgb _) hrf
 have hbl:=hp.bl
 simp only[List.length_append,List.length_cons,List.length_nil] at hbl
 have hlt:bx.length<E.β.length:=by omega
 obtain⟨b,hb⟩ : ∃ b,E.β[bx.length]? = some b:=⟨_,List.getElem?_eq_getElem hlt⟩
 obtain⟨T,arr,h1,h2⟩ := hp.bxs bx.length b [.v x] hb (by simp)
 have h2:=h2.plain (fun t r e=>by cases e)
 unfold A.repC at h2
 obtain⟨u,us',h3,h4,h5,-⟩ := h2
 obtain⟨rfl,h6⟩ := A.rep_v_iff.1 h5
 have hsee:kS w ⟨b,0,none⟩ = some u:=by
  refine jbp ?_
  have h0:arr[0]? = some u:=by
   have:=congrArg (·[0]?) h3
   simpa using this
  simp[World.cell?,h1,h0]
 have hbm:b ∈ E.β:=List.mem_of_getElem? hb
 have hfr:w0.fr b:=by
  obtain⟨β',hβ,hβ'⟩ := hp.bp
  refine .inl (hβ' b ?_);rw[hβ,List.getElem?_append_right hn'] at hb;exact List.mem_of_getElem? hb
 have hnt:b ∉ E.β.take bx.length:=fun hm=>by
  obtain⟨i,hi,he⟩ := List.mem_iff_getElem.1 hm
  rw[List.length_take] at hi;rw[List.getElem_take] at he
  have h7:E.β[i]? = some b:=by rw[List.getElem?_eq_getElem (by omega),he]
  have:=(List.getElem?_inj (by omega) hp.bnd).1 (h7.trans hb.symm)
  omega
 obtain⟨C',hp2,le,hC'⟩ := hpw.learn hfr hnt (fun g e k n cs y hg hy hk=>by
  have hy':E.ρ[g]? = some y:=by
   rw[List.getElem?_take] at hy
   split at hy
   ·exact hy
   ·cases hy
  exact (hp.rC g e k n cs y b hg hy' hk).1 hbm)
 refine⟨⟨C',E.β.take bx.length,E.ρ.take rw.length⟩,hp2,?_,?_⟩
 ·exact jcs hb le.C (show C' ⟨b,0,none⟩ = some u by rw[hC' _ rfl];exact hsee) h4 h6 hrep
 ·exact (lM (by rw[e] at hn';exact hn') hdr hd).mono le
theorem jjI {c:Cx} {x:Code} {t:List A} {bx:List (List A)} {rw:List Row} {v:Value} {q:Exit->S->Prop} (hn:Nat.ble c.np bx.length=true) (hrf:tV bx.length rw.length bx=true) (h:nV (jfq bx.length rw.length v) t fun t' => Ok c x ⟨t',bx,rw⟩ q):Ok c x ⟨t,bx++[[.v v]],rw⟩ q:=by
 rw[qO] at h;exact jmR (jpm hn hrf) h
end
end Go.Proofs.YtfbkolllpencnaaGreatDoor.Vm
namespace Go.Proofs.YtfbkolllpencnaaGreatDoor.Vm
open Go.RowKit Go.Shelf
theorem jh6 (k:Int):Spec Tryz.prog 130 [] [intA k] fun _ r=>r = .clo 131 [.pp [intA k]]:=by
 refine gH (jD jH jT 0) (fun _ _ h=>h) Tryz.func130 rfl (by kernel_rfl) rfl ?_;intro _;refine wG (jD _ _ _) (by kernel_rfl) ?_;conv=>whnf
 refine jjI (bx:=[]) (v := .int .i64 k) rfl rfl ?_;conv=>whnf
 refine kI (jD _ _ _) (by kernel_rfl) ?_;conv=>whnf
 rfl
theorem jh7 (k:Int):Spec Tryz.prog 132 [] [intA k] fun _ r=>r = .clo 133 [.pp [intA k]]:=by
 refine gH (jD jH jT 0) (fun _ _ h=>h) Tryz.func132 rfl (by kernel_rfl) rfl ?_;intro _;refine wG (jD _ _ _) (by kernel_rfl) ?_;conv=>whnf
 refine jjI (bx:=[]) (v := .int .i64 k) rfl rfl ?_;conv=>whnf
 refine kI (jD _ _ _) (by kernel_rfl) ?_;conv=>whnf
 rfl
def stmL:List (ByteArray × A):=[(wIf,.clo 134 []),(wWhile,.clo 135 []),(wSend,.clo 136 []),(wTimer,.clo 133 [.pp [intA 5]]),(wCancel,.clo 133 [.pp [intA 6]]),(wSync,.clo 131 [.pp [intA 7]]),(wStop,.clo 131 [.pp [intA 10]]),(wReply,.clo 137 []),(wFail,.clo 138 [])]
def stmA:A := .mp (stmL.map fun p => .string p.1) (stmL.map (·.2))
theorem fB:Spec Tryz.prog 111 [] [] fun _ r=>r=stmA:=by
 refine gH (jD jH jT 0) (fun _ _ h=>h) Tryz.func111 rfl (by kernel_rfl) rfl ?_;intro _;refine wG (jD _ _ _) (by kernel_rfl) ?_;conv=>whnf
 refine wG (jD _ _ _) (by kernel_rfl) ?_;conv=>whnf
 refine wG (jD _ _ _) (by kernel_rfl) ?_;conv=>whnf
 refine wG (jD _ _ _) (by kernel_rfl) ?_;conv=>whnf
 have h5:=jh7 5
 have h6:=jh7 6
 have h7:=jh6 7
 have h10:=jh6 10
 (refine xV [] h5 ?_;rintro r rfl;conv=>whnf)
 conv=>whnf
 (refine xV [] h6 ?_;rintro r rfl;conv=>whnf)
 conv=>whnf
 (refine xV [] h7 ?_;rintro r rfl;conv=>whnf)
 conv=>whnf
 (refine xV [] h10 ?_;rintro r rfl;conv=>whnf)
 conv=>whnf
 refine jeu 0 ?_;conv=>whnf
 refine kI (jD _ _ _) (by kernel_rfl) ?_;conv=>whnf
 rfl
def ja6 (nm:List ByteArray) (lv:Int) (g:Nat) (caps:List A) (op:List Tk->Pn):Prop := ∀ ts,TkP ts->SpecP Tryz.prog g [fD nm ts] ([.box 0 0,intA lv]++caps) (poQ nm (op ts)) (pnQ (op ts))
theorem jdw (nm:List ByteArray) (lv k:Int):ja6 nm lv 131 [.pp [intA k]] fun ts=>xpt pSemi ts fun r => .ok (.mk k 0 eB []) r:=fun ts h=>by
 refine jjZ ?_
 obtain⟨P,hP⟩ : ∃ P,(xpt pSemi ts fun r => .ok (.mk k 0 eB []) r)=P:=⟨_,rfl⟩
 simp only
 rw[hP];unfold xpt at hP;refine eNP jH jT Tryz.func131 rfl ?_;intro _;conv=>whnf
 refine kT 0 [] (jU nm ts h.pos pSemi) (fun ch bx' hp => ?_) ?_
 ·rw[if_neg (by rw[hp.1];simp)] at hP;exact jP hP.symm hp.2
 rintro o r ⟨hx,ho,rfl⟩;cases ho;rw[if_pos hx] at hP;subst hP;conv=>whnf
 exact⟨rfl,_,rfl,kN (f := .mk k 0 eB []) rfl⟩
theorem jdx (nm:List ByteArray) (lv k:Int):ja6 nm lv 133 [.pp [intA k]] fun ts=>cR 8 ts fun n r=>xpt pSemi r fun r => .ok (.mk k n eB []) r:=fun ts h=>by
 refine jjZ ?_
 obtain⟨P,hP⟩ : ∃ P,(cR 8 ts fun n r=>xpt pSemi r fun r => .ok (.mk k n eB []) r)=P:=⟨_,rfl⟩
 simp only
 rw[hP]
 have hnum:=lL nm ts h.pos 8
 unfold cR at hP
 have htl:=h.tail
 refine eNP js4 (fun _=>[0]) Tryz.func133 rfl ?_;intro _;conv=>whnf
 unfold lZ;refine⟨_,?_,fun _ h=>h⟩;conv=>whnf
 refine⟨?_,?_⟩
 ·conv=>whnf
  refine kT 0 [] hnum (fun ch bx' hp => ?_) ?_
  ·rcases hp with ⟨h1,h2⟩ | ⟨h1,h2,h3⟩
   ·rw[if_pos h1] at hP;exact jP hP.symm h2
   ·rw[if_neg (by rw[h1];simp),if_pos h2] at hP;exact jP hP.symm h3
  rintro o r ⟨⟨h1,h2⟩,ho,rfl⟩;cases ho;rw[if_neg (by rw[h1];simp),if_neg (by omega)] at hP
  obtain⟨q1,q2⟩ := htl (by rw[h1];decide)
  generalize ts.tail=ts1 at *;generalize (hd ts).n=n at *;conv=>whnf
  simp only[xpt] at hP;refine kT 0 [] (jU nm ts1 q1.pos pSemi) (fun ch bx' hp => ?_) ?_
  ·rw[if_neg (by rw[hp.1];simp)] at hP;exact jP hP.symm hp.2
  rintro o r ⟨hx,ho,rfl⟩;cases ho;rw[if_pos hx] at hP;subst hP;conv=>whnf
  exact⟨rfl,_,rfl,kN (f := .mk k n eB []) rfl⟩
 ·conv=>whnf
  refine kT 0 [] hnum (fun ch bx' hp => ?_) ?_
  ·rcases hp with ⟨h1,h2⟩ | ⟨h1,h2,h3⟩
   ·rw[if_pos h1] at hP;exact jP hP.symm h2
   ·rw[if_neg (by rw[h1];simp),if_pos h2] at hP;exact jP hP.symm h3
  rintro o r ⟨⟨h1,h2⟩,ho,rfl⟩;cases ho;rw[if_neg (by rw[h1];simp),if_neg (by omega)] at hP
  obtain⟨q1,q2⟩ := htl (by rw[h1];decide)
  generalize ts.tail=ts1 at *;generalize (hd ts).n=n at *;conv=>whnf
  simp only[xpt] at hP;refine kT 0 [] (jU nm ts1 q1.pos pSemi) (fun ch bx' hp => ?_) ?_
  ·rw[if_neg (by rw[hp.1];simp)] at hP;exact jP hP.symm hp.2
  rintro o r ⟨hx,ho,rfl⟩;cases ho;rw[if_pos hx] at hP;subst hP;conv=>whnf
  exact⟨rfl,_,rfl,kN (f := .mk k n eB []) rfl⟩
theorem jmd {nm:List ByteArray} {lv:Int} {ex:List Tk->Pn} (hex:zT nm 110 lv ex) (gex:qS ex):ja6 nm lv 138 [] fun ts=>(ex ts).andThen fun a r=>xpt pSemi r fun r => .ok (.mk 9 0 eB [a]) r:=fun ts h=>by
 obtain⟨P,hP⟩ : ∃ P,((ex ts).andThen fun a r=>xpt pSemi r fun r => .ok (.mk 9 0 eB [a]) r)=P:=⟨_,rfl⟩
 simp only
 rw[hP];refine eNP jH jT Tryz.func138 rfl ?_;intro _;conv=>whnf
 refine kT 0 [] (hex ts h) (fun ch bx' hp => ?_) ?_
 ·obtain⟨x,e,he,hc⟩ := zD hp
  rw[he] at hP;exact jP hP.symm hc
 rintro o r hpo
 obtain⟨f,r1,he,ho,rfl⟩ := j9 hpo
 cases ho;rw[he] at hP;simp only[Pn.andThen,xpt] at hP
 obtain⟨g1,l1⟩ := gex _ _ _ h he
 conv=>whnf
 refine kT 0 [] (jU nm r1 g1.pos pSemi) (fun ch bx' hp => ?_) ?_
 ·rw[if_neg (by rw[hp.1];simp)] at hP;exact jP hP.symm hp.2
 rintro o r ⟨hx,ho,rfl⟩;cases ho;rw[if_pos hx] at hP;subst hP;conv=>whnf
 exact⟨rfl,by rw[xH];rfl⟩
theorem jlj {nm:List ByteArray} {lv:Int} {ex bl:List Tk->Pn} (hlv:0<=lv/\lv<=20) (hex:zT nm 110 lv ex) (gex:qS ex) (hbl:zT nm 71 (lv+1) bl) (gbl:qS bl):ja6 nm lv 135 [] fun ts=>(ex ts).andThen fun c r=>(bl r).andThen fun b r => .ok (.mk 3 0 eB [c,b]) r:=fun ts h=>by
 obtain⟨P,hP⟩ : ∃ P,((ex ts).andThen fun c r=>(bl r).andThen fun b r => .ok (.mk 3 0 eB [c,b]) r)=P:=⟨_,rfl⟩
 simp only
 rw[hP];refine eNP jH jT Tryz.func135 rfl ?_;intro _;conv=>whnf
 refine kT 0 [] (hex ts h) (fun ch bx' hp => ?_) ?_
 ·obtain⟨x,e,he,hc⟩ := zD hp
  rw[he] at hP;exact jP hP.symm hc
 rintro o r hpo
 obtain⟨f,r1,he,ho,rfl⟩ := j9 hpo
 cases ho;rw[he] at hP;simp only[Pn.andThen,xpt] at hP
 obtain⟨g1,l1⟩ := gex _ _ _ h he
 conv=>whnf
 refine⟨jV (by omega),?_⟩;conv=>whnf
 refine kT 0 [] (hbl r1 g1) (fun ch bx' hp => ?_) ?_
 ·obtain⟨x,e,he,hc⟩ := zD hp
  rw[he] at hP;exact jP hP.symm hc
 rintro o r hpo
 obtain⟨f2,r2,he,ho,rfl⟩ := j9 hpo
 cases ho;rw[he] at hP;simp only[Pn.andThen,xpt] at hP
 obtain⟨g2,l2⟩ := gbl _ _ _ g1 he
 subst hP;conv=>whnf
 exact⟨rfl,by rw[gN];rfl⟩
theorem cP (k n:Int) (s:ByteArray) (f g h:Nt):ntA (.mk k n s [f,g,h])=[intA k,intA n,jY s,.sl 4 3 (ntA f++(ntA g++ntA h))]:=by
 have e1:ntA f++(ntA g++ntA h)=qE [f,g,h]:=by rw[zH,zH,zH,yA,List.append_nil]
 rw[e1];rfl
theorem jl6 {nm:List ByteArray} {lv:Int} {ex:List Tk->Pn} (hex:zT nm 110 lv ex) (gex:qS ex):ja6 nm lv 137 [] fun ts=>(ex ts).andThen fun a r=>xpt pComma r fun r=>(ex r).andThen fun b r=>xpt pSemi r fun r => .ok (.mk 8 0 eB [a,b]) r:=fun ts h=>by
 obtain⟨P,hP⟩ : ∃ P,((ex ts).andThen fun a r=>xpt pComma r fun r=>(ex r).andThen fun b r=>xpt pSemi r fun r => .ok (.mk 8 0 eB [a,b]) r)=P:=⟨_,rfl⟩
 simp only
 rw[hP];refine eNP js6 (fun _=>[0]) Tryz.func137 rfl ?_;intro _;conv=>whnf
 refine kT 0 [] (hex ts h) (fun ch bx' hp => ?_) ?_
 ·obtain⟨x,e,he,hc⟩ := zD hp
  rw[he] at hP;exact jP hP.symm hc
 rintro o r hpo
 obtain⟨f,r1,he,ho,rfl⟩ := j9 hpo
 cases ho;rw[he] at hP;simp only[Pn.andThen,xpt] at hP
 obtain⟨g1,l1⟩ := gex _ _ _ h he
 conv=>whnf
 refine kT 0 [] (jU nm r1 g1.pos pComma) (fun ch bx' hp => ?_) ?_
 ·rw[if_neg (by rw[hp.1];simp)] at hP;exact jP hP.symm hp.2
 rintro o r ⟨hx,ho,rfl⟩;cases ho;rw[if_pos hx] at hP
 obtain⟨q2,q3⟩ := g1.is hx
 generalize r1.tail=r2 at *;conv=>whnf
 unfold lZ;refine⟨_,?_,fun _ h=>h⟩;conv=>whnf
 refine⟨?_,?_⟩
 ·conv=>whnf
  refine kT 0 [] (hex r2 q2) (fun ch bx' hp => ?_) ?_
  ·obtain⟨x,e,he,hc⟩ := zD hp
   rw[he] at hP;exact jP hP.symm hc
  rintro o r hpo
  obtain⟨f2,r3,he,ho,rfl⟩ := j9 hpo
  cases ho;rw[he] at hP;simp only[Pn.andThen,xpt] at hP
  obtain⟨g3,l3⟩ := gex _ _ _ q2 he
  conv=>whnf
  refine⟨?_,?_⟩
  ·conv=>whnf
   refine kT 0 [] (jU nm r3 g3.pos pSemi) (fun ch bx' hp => ?_) ?_
   ·rw[if_neg (by rw[hp.1];simp)] at hP;exact jP hP.symm hp.2
   rintro o r ⟨hx,ho,rfl⟩;cases ho;rw[if_pos hx] at hP;subst hP;conv=>whnf
   exact⟨rfl,by rw[gN];rfl⟩
  ·conv=>whnf
   refine kT 0 [] (jU nm r3 g3.pos pSemi) (fun ch bx' hp => ?_) ?_
   ·rw[if_neg (by rw[hp.1];simp)] at hP;exact jP hP.symm hp.2
   rintro o r ⟨hx,ho,rfl⟩;cases ho;rw[if_pos hx] at hP;subst hP;conv=>whnf
   exact⟨rfl,by rw[gN];rfl⟩
 ·conv=>whnf
  refine kT 0 [] (hex r2 q2) (fun ch bx' hp => ?_) ?_
  ·obtain⟨x,e,he,hc⟩ := zD hp
   rw[he] at hP;exact jP hP.symm hc
  rintro o r hpo
  obtain⟨f2,r3,he,ho,rfl⟩ := j9 hpo
  cases ho;rw[he] at hP;simp only[Pn.andThen,xpt] at hP
  obtain⟨g3,l3⟩ := gex _ _ _ q2 he
  conv=>whnf
  conv=>whnf
  refine kT 0 [] (jU nm r3 g3.pos pSemi) (fun ch bx' hp => ?_) ?_
  ·rw[if_neg (by rw[hp.1];simp)] at hP;exact jP hP.symm hp.2
  rintro o r ⟨hx,ho,rfl⟩;cases ho;rw[if_pos hx] at hP;subst hP;conv=>whnf
  exact⟨rfl,by rw[gN];rfl⟩
theorem jhH {nm:List ByteArray} {lv:Int} {ex bl:List Tk->Pn} (hlv:0<=lv/\lv<=20) (hex:zT nm 110 lv ex) (gex:qS ex) (hbl:zT nm 71 (lv+1) bl) (gbl:qS bl):ja6 nm lv 134 [] fun ts=>(ex ts).andThen fun c r=>(bl r).andThen fun b r=>if qU wElse r=true then (bl r.tail).andThen fun o r => .ok (.mk 2 0 eB [c,b,o]) r else .ok (.mk 2 0 eB [c,b,qD []]) r:=fun ts h=>by
 refine jjZ ?_
 obtain⟨P,hP⟩ : ∃ P,((ex ts).andThen fun c r=>(bl r).andThen fun b r=>if qU wElse r=true then (bl r.tail).andThen fun o r => .ok (.mk 2 0 eB [c,b,o]) r else .ok (.mk 2 0 eB [c,b,qD []]) r)=P:=⟨_,rfl⟩
 simp only
 rw[hP];refine eNP jH jT Tryz.func134 rfl ?_;intro _;conv=>whnf
 refine kT 0 [] (hex ts h) (fun ch bx' hp => ?_) ?_
 ·obtain⟨x,e,he,hc⟩ := zD hp
  rw[he] at hP;exact jP hP.symm hc
 rintro o r hpo
 obtain⟨f,r1,he,ho,rfl⟩ := j9 hpo
 cases ho;rw[he] at hP;simp only[Pn.andThen,xpt] at hP
 obtain⟨g1,l1⟩ := gex _ _ _ h he
 conv=>whnf
 refine⟨jV (by omega),?_⟩;conv=>whnf
 refine kT 0 [] (hbl r1 g1) (fun ch bx' hp => ?_) ?_
 ·obtain⟨x,e,he,hc⟩ := zD hp
  rw[he] at hP;exact jP hP.symm hc
 rintro o r hpo
 obtain⟨f2,r2,he,ho,rfl⟩ := j9 hpo
 cases ho;rw[he] at hP;simp only[Pn.andThen,xpt] at hP
 obtain⟨g2,l2⟩ := gbl _ _ _ g1 he
 conv=>whnf
 refine zC 0 [] (g9 nm r2 g2.pos wElse) ?_;rintro o r ⟨ho,rfl⟩;cases ho;conv=>whnf
 cases hq:qU wElse r2 with
 | true =>
  rw[if_pos hq] at hP
  obtain⟨q2,q3⟩ := g2.is hq
  have hnx:=wV nm r2 g2.pos
  generalize r2.tail=r3 at *;conv=>whnf
  refine zC 0 [] hnx ?_;rintro o r ⟨ho,rfl⟩;cases ho;conv=>whnf
  refine⟨jV (by omega),?_⟩;conv=>whnf
  refine kT 0 [] (hbl r3 q2) (fun ch bx' hp => ?_) ?_
  ·obtain⟨x,e,he,hc⟩ := zD hp
   rw[he] at hP;exact jP hP.symm hc
  rintro o r hpo
  obtain⟨f3,r4,he,ho,rfl⟩ := j9 hpo
  cases ho;rw[he] at hP;simp only[Pn.andThen,xpt] at hP
  obtain⟨g4,l4⟩ := gbl _ _ _ q2 he
  subst hP;conv=>whnf
  refine⟨by omega,?_⟩;conv=>whnf
  exact jiq (p := .ok (.mk 2 0 eB [f,f2,f3]) r4) (show _/\_ from ⟨rfl,by rw[cP];rfl⟩)
 | false =>
  rw[if_neg (by rw[hq];simp)] at hP;subst hP;conv=>whnf
  refine⟨rfl,_,rfl,?_⟩;rw[cP];exact .cons (.refl _) (.cons (.refl _) (.cons (.refl _) (.cons (.sl 4 3 (cs:=ntA f++(ntA f2++jpI (qD []))) (WkL.app (WkL.refl (ntA f)) (WkL.app (WkL.refl (ntA f2)) (kN (f:=qD []) rfl)))) .nil)))
def oM (ex:List Tk->Pn) (n:Int):Nat->List Nt->List Tk->Pn
 | 0,l,ts=>xpt pSemi ts fun r => .ok (.mk 4 n eB l) r
 | k+1,l,ts=>xpt pComma ts fun r=>(ex r).andThen fun a r=>oM ex n k (l++[a]) r
theorem jnB {nm:List ByteArray} {lv:Int} {ex:List Tk->Pn} (hex:zT nm 110 lv ex) (gex:qS ex):ja6 nm lv 136 [] fun ts=>(ex ts).andThen fun t r=>xpt pComma r fun r=>cR 30 r fun n r=>oM ex n 2 [t] r:=fun ts h=>by
 obtain⟨P,hP⟩ : ∃ P,((ex ts).andThen fun t r=>xpt pComma r fun r=>cR 30 r fun n r=>oM ex n 2 [t] r)=P:=⟨_,rfl⟩
 simp only
 rw[hP];refine eNP js5 (fun _=>[0]) Tryz.func136 rfl ?_;intro _;conv=>whnf
 refine kT 0 [] (hex ts h) (fun ch bx' hp => ?_) ?_
 ·obtain⟨x,e,he,hc⟩ := zD hp
  rw[he] at hP;exact jP hP.symm hc
 rintro o r hpo
 obtain⟨f,r1,he,ho,rfl⟩ := j9 hpo
 cases ho;rw[he] at hP;simp only[Pn.andThen,xpt] at hP
 obtain⟨g1,l1⟩ := gex _ _ _ h he
 conv=>whnf
 refine kT 0 [] (jU nm r1 g1.pos pComma) (fun ch bx' hp => ?_) ?_
 ·rw[if_neg (by rw[hp.1];simp)] at hP;exact jP hP.symm hp.2
 rintro o r ⟨hx,ho,rfl⟩;cases ho;rw[if_pos hx] at hP
 obtain⟨q2,q3⟩ := g1.is hx
 generalize r1.tail=r2 at *;simp only[cR] at hP;conv=>whnf
 refine kT 0 [] (lL nm r2 q2.pos 30) (fun ch bx' hp => ?_) ?_
 ·rcases hp with ⟨h1,h2⟩ | ⟨h1,h2,h3⟩
  ·rw[if_pos h1] at hP;exact jP hP.symm h2
  ·rw[if_neg (by rw[h1];simp),if_pos h2] at hP;exact jP hP.symm h3
 rintro o r ⟨⟨h1,h2⟩,ho,rfl⟩;cases ho;rw[if_neg (by rw[h1];simp),if_neg (by omega)] at hP
 obtain⟨q4,q5⟩ := q2.tail (by rw[h1];decide)
 generalize r2.tail=r3 at *;generalize (hd r2).n=n at *;conv=>whnf
 refine jO [0,1,4,5] ?_;conv=>whnf
 refine qA (fun x:Nat × List Nt × List Tk=>[(16,.v (.int .i64 x.1))]) (fun x=>[fD nm x.2.2,jkc,[intA 4,intA n,jY ⟨#[]⟩,.own 0]]) (fun x=>[.live 48 4 x.2.1.length (qE x.2.1)]) (fun x=>TkP x.2.2/\x.1<=2/\x.2.1.length<=1+x.1/\oM ex n (2-x.1) x.2.1 x.2.2=P) (fun x=>2-x.1) (0,[f],r3) ?_ ⟨q4,by simp,by simp,hP⟩ ?_
 ·have e1:qE [f]=ntA f:=by rw[zH,yA,List.append_nil]
  repeat' constructor
  show Row.live _ _ _ _=Row.live _ 4 1 (qE [f])
  rw[e1];rfl
 rintro⟨j,l,ts1⟩ ⟨g2,g3,g4,g5⟩
 simp only at g2 g3 g4 g5
 conv=>whnf
 by_cases hj:j<2
 ·rw[j8 (show (j:Int)<2 by omega)]
  obtain⟨m,hm⟩ : ∃ m,2-j=m+1:=⟨1-j,by omega⟩
  rw[hm] at g5;simp only[oM,xpt] at g5
  have hP:=g5
  conv=>whnf
  refine kT 0 [] (jU nm ts1 g2.pos pComma) (fun ch bx' hp => ?_) ?_
  ·rw[if_neg (by rw[hp.1];simp)] at hP;exact jP hP.symm hp.2
  rintro o r ⟨hx,ho,rfl⟩;cases ho;rw[if_pos hx] at hP
  obtain⟨q6,q7⟩ := g2.is hx
  generalize ts1.tail=ts2 at *;conv=>whnf
  refine kT 0 [] (hex ts2 q6) (fun ch bx' hp => ?_) ?_
  ·obtain⟨x,e,he,hc⟩ := zD hp
   rw[he] at hP;exact jP hP.symm hc
  rintro o r hpo
  obtain⟨f2,r4,he,ho,rfl⟩ := j9 hpo
  cases ho;rw[he] at hP;simp only[Pn.andThen,xpt] at hP
  obtain⟨g6,l6⟩ := gex _ _ _ q6 he
  conv=>whnf
  refine⟨⟨by simp only;unfold maxLen;omega,by simp only;omega⟩,?_⟩;conv=>whnf
  refine⟨jV (by omega),?_⟩;conv=>whnf
  refine⟨(j+1,l++[f2],r4),jS [0] ?_,⟨g6,hj,by simp only[List.length_append,List.length_cons,List.length_nil];omega,by simp only;rw[show 2-(j+1)=m by omega];exact hP⟩,by simp only;omega⟩;conv=>whnf
  repeat' constructor
  simp only[List.length_append,List.length_cons,List.length_nil];rw[sK];rfl
 ·rw[jW (show ¬ (j:Int)<2 by omega)];rw[show 2-j=0 by omega] at g5;simp only[oM,xpt] at g5
  have hP:=g5
  conv=>whnf
  refine kT 0 [] (jU nm ts1 g2.pos pSemi) (fun ch bx' hp => ?_) ?_
  ·rw[if_neg (by rw[hp.1];simp)] at hP;exact jP hP.symm hp.2
  rintro o r ⟨hx,ho,rfl⟩;cases ho;rw[if_pos hx] at hP;subst hP;conv=>whnf
  exact⟨rfl,rfl⟩
def stK (ex bl:List Tk->Pn) (w:ByteArray) (ts:List Tk):Pn :=
 if w=wIf then (ex ts).andThen fun c r=>(bl r).andThen fun b r=>if qU wElse r=true then (bl r.tail).andThen fun o r => .ok (.mk 2 0 eB [c,b,o]) r else .ok (.mk 2 0 eB [c,b,qD []]) r
 else if w=wWhile then (ex ts).andThen fun c r=>(bl r).andThen fun b r => .ok (.mk 3 0 eB [c,b]) r
 else if w=wSend then (ex ts).andThen fun t r=>xpt pComma r fun r=>cR 30 r fun n r=>oM ex n 2 [t] r
 else if w=wTimer then cR 8 ts fun n r=>xpt pSemi r fun r => .ok (.mk 5 n eB []) r
 else if w=wCancel then cR 8 ts fun n r=>xpt pSemi r fun r => .ok (.mk 6 n eB []) r
 else if w=wSync then xpt pSemi ts fun r => .ok (.mk 7 0 eB []) r
 else if w=wStop then xpt pSemi ts fun r => .ok (.mk 10 0 eB []) r
 else if w=wReply then (ex ts).andThen fun a r=>xpt pComma r fun r=>(ex r).andThen fun b r=>xpt pSemi r fun r => .ok (.mk 8 0 eB [a,b]) r
 else (ex ts).andThen fun a r=>xpt pSemi r fun r => .ok (.mk 9 0 eB [a]) r
theorem jnO {nm:List ByteArray} {lv:Int} {ex bl:List Tk->Pn} (hlv:0<=lv/\lv<=20) (hex:zT nm 110 lv ex) (gex:qS ex) (hbl:zT nm 71 (lv+1) bl) (gbl:qS bl) (ts:List Tk) (h:TkP ts) (P:Pn) (hn:xK ts=false)
  (hP:(if (hd ts).kind ≠ 1 then .bad (hd ts).pos 10 else stK ex bl (hd ts).text ts.tail)=P) (hw:(hd ts).text=wIf ∨ (hd ts).text=wWhile ∨ (hd ts).text=wSend ∨ (hd ts).text=wTimer ∨ (hd ts).text=wCancel ∨ (hd ts).text=wSync ∨ (hd ts).text=wStop ∨ (hd ts).text=wReply ∨ (hd ts).text=wFail):SpecP Tryz.prog 95 [fD nm ts] [.box 0 0,intA lv] (poQ nm P) (pnQ P):=by
 have hl:=h.pos
 have hr:=nH hl
 have hnm:=d9 nm ts hl h.hd h.good.1
 rw[hn] at hnm
 have hnx:=wV nm ts hl
 have hfl:=gB nm ts hl 10
 have htl:=h.tail
 have sIf:=jhH hlv hex gex hbl gbl
 have sWhile:=jlj hlv hex gex hbl gbl
 have sSend:=jnB hex gex
 have sTimer:=jdx nm lv 5
 have sCancel:=jdx nm lv 6
 have sSync:=jdw nm lv 7
 have sStop:=jdw nm lv 10
 have sReply:=jl6 hex gex
 have sFail:=jmd hex gex
 refine eNP jmY (fun _=>[0]) Tryz.func95 rfl ?_;intro _;generalize hd ts=t at *;conv=>whnf
 (refine uP ?_;try with_reducible exact trivial)
 (generalize hrq:jJ _ _ (y7 ts)=rq;obtain rfl:rq=sY t:=hrq.symm.trans (hr);clear hrq;conv=>whnf)
 refine zC 0 [] hnm ?_;rintro o r ⟨ho,rfl⟩;cases ho;conv=>whnf
 refine xV [] fB ?_;rintro r rfl;conv=>whnf
 unfold stK at hP
 by_cases g0:t.text=wIf
 ·rw[show decide (t.text=(wIf,A.clo 134 []).fst)=true from j8 g0];rw[if_pos g0] at hP;conv=>whnf
  by_cases hk:t.kind=1
  ·rw[j8 hk];rw[if_neg (by rw[hk];simp)] at hP
   obtain⟨q1,q2⟩ := htl (by rw[hk];decide)
   have hs:=sIf ts.tail q1
   simp only at hs
   rw[hP] at hs;generalize ts.tail=r1 at *;conv=>whnf
   refine zC 0 [] hnx ?_;rintro o r ⟨ho,rfl⟩;cases ho;conv=>whnf
   refine kT 0 [] hs (fun ch bx' hp=>hp) ?_;rintro o r hpo
   obtain⟨f,r2,rfl,ho,rfl⟩ := j9 hpo
   cases ho;conv=>whnf
   exact⟨rfl,rfl⟩
  ·rw[jW hk];rw[if_pos hk] at hP;conv=>whnf
   refine kT 0 [] hfl (fun ch bx' hp=>jP hP.symm hp) ?_;rintro o r ⟨⟩
 rw[show decide (t.text=(wIf,A.clo 134 []).fst)=false from jW g0];rw[if_neg g0] at hP;conv=>whnf
 by_cases g1:t.text=wWhile
 ·rw[show decide (t.text=(wWhile,A.clo 135 []).fst)=true from j8 g1];rw[if_pos g1] at hP;conv=>whnf
  by_cases hk:t.kind=1
  ·rw[j8 hk];rw[if_neg (by rw[hk];simp)] at hP
   obtain⟨q1,q2⟩ := htl (by rw[hk];decide)
   have hs:=sWhile ts.tail q1
   simp only at hs
   rw[hP] at hs;generalize ts.tail=r1 at *;conv=>whnf
   refine zC 0 [] hnx ?_;rintro o r ⟨ho,rfl⟩;cases ho;conv=>whnf
   refine kT 0 [] hs (fun ch bx' hp=>hp) ?_;rintro o r hpo
   obtain⟨f,r2,rfl,ho,rfl⟩ := j9 hpo
   cases ho;conv=>whnf
   exact⟨rfl,rfl⟩
  ·rw[jW hk];rw[if_pos hk] at hP;conv=>whnf
   refine kT 0 [] hfl (fun ch bx' hp=>jP hP.symm hp) ?_;rintro o r ⟨⟩
 rw[show decide (t.text=(wWhile,A.clo 135 []).fst)=false from jW g1];rw[if_neg g1] at hP;conv=>whnf
 by_cases g2:t.text=wSend
 ·rw[show decide (t.text=(wSend,A.clo 136 []).fst)=true from j8 g2];rw[if_pos g2] at hP;conv=>whnf
  by_cases hk:t.kind=1
  ·rw[j8 hk];rw[if_neg (by rw[hk];simp)] at hP
   obtain⟨q1,q2⟩ := htl (by rw[hk];decide)
   have hs:=sSend ts.tail q1
   simp only at hs
   rw[hP] at hs;generalize ts.tail=r1 at *;conv=>whnf
   refine zC 0 [] hnx ?_;rintro o r ⟨ho,rfl⟩;cases ho;conv=>whnf
   refine kT 0 [] hs (fun ch bx' hp=>hp) ?_;rintro o r hpo
   obtain⟨f,r2,rfl,ho,rfl⟩ := j9 hpo
   cases ho;conv=>whnf
   exact⟨rfl,rfl⟩
  ·rw[jW hk];rw[if_pos hk] at hP;conv=>whnf
   refine kT 0 [] hfl (fun ch bx' hp=>jP hP.symm hp) ?_;rintro o r ⟨⟩
 rw[show decide (t.text=(wSend,A.clo 136 []).fst)=false from jW g2];rw[if_neg g2] at hP;conv=>whnf
 by_cases g3:t.text=wTimer
 ·rw[show decide (t.text=(wTimer,A.clo 133 [.pp [intA 5]]).fst)=true from j8 g3];rw[if_pos g3] at hP;conv=>whnf
  by_cases hk:t.kind=1
  ·rw[j8 hk];rw[if_neg (by rw[hk];simp)] at hP
   obtain⟨q1,q2⟩ := htl (by rw[hk];decide)
   have hs:=sTimer ts.tail q1
   simp only at hs
   rw[hP] at hs;generalize ts.tail=r1 at *;conv=>whnf
   refine zC 0 [] hnx ?_;rintro o r ⟨ho,rfl⟩;cases ho;conv=>whnf
   refine kT 0 [] hs (fun ch bx' hp=>hp) ?_;rintro o r hpo
   obtain⟨f,r2,rfl,ho,rfl⟩ := j9 hpo
   cases ho;conv=>whnf
   exact⟨rfl,rfl⟩
  ·rw[jW hk];rw[if_pos hk] at hP;conv=>whnf
   refine kT 0 [] hfl (fun ch bx' hp=>jP hP.symm hp) ?_;rintro o r ⟨⟩
 rw[show decide (t.text=(wTimer,A.clo 133 [.pp [intA 5]]).fst)=false from jW g3];rw[if_neg g3] at hP;conv=>whnf
 by_cases g4:t.text=wCancel
 ·rw[show decide (t.text=(wCancel,A.clo 133 [.pp [intA 6]]).fst)=true from j8 g4];rw[if_pos g4] at hP;conv=>whnf
  by_cases hk:t.kind=1
  ·rw[j8 hk];rw[if_neg (by rw[hk];simp)] at hP
   obtain⟨q1,q2⟩ := htl (by rw[hk];decide)
   have hs:=sCancel ts.tail q1
   simp only at hs
   rw[hP] at hs;generalize ts.tail=r1 at *;conv=>whnf
   refine zC 0 [] hnx ?_;rintro o r ⟨ho,rfl⟩;cases ho;conv=>whnf
   refine kT 0 [] hs (fun ch bx' hp=>hp) ?_;rintro o r hpo
   obtain⟨f,r2,rfl,ho,rfl⟩ := j9 hpo
   cases ho;conv=>whnf
   exact⟨rfl,rfl⟩
  ·rw[jW hk];rw[if_pos hk] at hP;conv=>whnf
   refine kT 0 [] hfl (fun ch bx' hp=>jP hP.symm hp) ?_;rintro o r ⟨⟩
 rw[show decide (t.text=(wCancel,A.clo 133 [.pp [intA 6]]).fst)=false from jW g4];rw[if_neg g4] at hP;conv=>whnf
 by_cases g5:t.text=wSync
 ·rw[show decide (t.text=(wSync,A.clo 131 [.pp [intA 7]]).fst)=true from j8 g5];rw[if_pos g5] at hP;conv=>whnf
  by_cases hk:t.kind=1
  ·rw[j8 hk];rw[if_neg (by rw[hk];simp)] at hP
   obtain⟨q1,q2⟩ := htl (by rw[hk];decide)
   have hs:=sSync ts.tail q1
   simp only at hs
   rw[hP] at hs;generalize ts.tail=r1 at *;conv=>whnf
   refine zC 0 [] hnx ?_;rintro o r ⟨ho,rfl⟩;cases ho;conv=>whnf
   refine kT 0 [] hs (fun ch bx' hp=>hp) ?_;rintro o r hpo
   obtain⟨f,r2,rfl,ho,rfl⟩ := j9 hpo
   cases ho;conv=>whnf
   exact⟨rfl,rfl⟩
  ·rw[jW hk];rw[if_pos hk] at hP;conv=>whnf
   refine kT 0 [] hfl (fun ch bx' hp=>jP hP.symm hp) ?_;rintro o r ⟨⟩
 rw[show decide (t.text=(wSync,A.clo 131 [.pp [intA 7]]).fst)=false from jW g5];rw[if_neg g5] at hP;conv=>whnf
 by_cases g6:t.text=wStop
 ·rw[show decide (t.text=(wStop,A.clo 131 [.pp [intA 10]]).fst)=true from j8 g6];rw[if_pos g6] at hP;conv=>whnf
  by_cases hk:t.kind=1
  ·rw[j8 hk];rw[if_neg (by rw[hk];simp)] at hP
   obtain⟨q1,q2⟩ := htl (by rw[hk];decide)
   have hs:=sStop ts.tail q1
   simp only at hs
   rw[hP] at hs;generalize ts.tail=r1 at *;conv=>whnf
   refine zC 0 [] hnx ?_;rintro o r ⟨ho,rfl⟩;cases ho;conv=>whnf
   refine kT 0 [] hs (fun ch bx' hp=>hp) ?_;rintro o r hpo
   obtain⟨f,r2,rfl,ho,rfl⟩ := j9 hpo
   cases ho;conv=>whnf
   exact⟨rfl,rfl⟩
  ·rw[jW hk];rw[if_pos hk] at hP;conv=>whnf
   refine kT 0 [] hfl (fun ch bx' hp=>jP hP.symm hp) ?_;rintro o r ⟨⟩
 rw[show decide (t.text=(wStop,A.clo 131 [.pp [intA 10]]).fst)=false from jW g6];rw[if_neg g6] at hP;conv=>whnf
 by_cases g7:t.text=wReply
 ·rw[show decide (t.text=(wReply,A.clo 137 []).fst)=true from j8 g7];rw[if_pos g7] at hP;conv=>whnf
  by_cases hk:t.kind=1
  ·rw[j8 hk];rw[if_neg (by rw[hk];simp)] at hP
   obtain⟨q1,q2⟩ := htl (by rw[hk];decide)
   have hs:=sReply ts.tail q1
   simp only at hs
   rw[hP] at hs;generalize ts.tail=r1 at *;conv=>whnf
   refine zC 0 [] hnx ?_;rintro o r ⟨ho,rfl⟩;cases ho;conv=>whnf
   refine kT 0 [] hs (fun ch bx' hp=>hp) ?_;rintro o r hpo
   obtain⟨f,r2,rfl,ho,rfl⟩ := j9 hpo
   cases ho;conv=>whnf
   exact⟨rfl,rfl⟩
  ·rw[jW hk];rw[if_pos hk] at hP;conv=>whnf
   refine kT 0 [] hfl (fun ch bx' hp=>jP hP.symm hp) ?_;rintro o r ⟨⟩
 rw[show decide (t.text=(wReply,A.clo 137 []).fst)=false from jW g7];rw[if_neg g7] at hP;conv=>whnf
 have g8:t.text=wFail:=by
  rcases hw with e | e | e | e | e | e | e | e | e <;> first | exact e | contradiction
 rw[show decide (t.text=(wFail,A.clo 138 []).fst)=true from j8 g8];conv=>whnf
 by_cases hk:t.kind=1
 ·rw[j8 hk];rw[if_neg (by rw[hk];simp)] at hP
  obtain⟨q1,q2⟩ := htl (by rw[hk];decide)
  have hs:=sFail ts.tail q1
  simp only at hs
  rw[hP] at hs;generalize ts.tail=r1 at *;conv=>whnf
  refine zC 0 [] hnx ?_;rintro o r ⟨ho,rfl⟩;cases ho;conv=>whnf
  refine kT 0 [] hs (fun ch bx' hp=>hp) ?_;rintro o r hpo
  obtain⟨f,r2,rfl,ho,rfl⟩ := j9 hpo
  cases ho;conv=>whnf
  exact⟨rfl,rfl⟩
 ·rw[jW hk];rw[if_pos hk] at hP;conv=>whnf
  refine kT 0 [] hfl (fun ch bx' hp=>jP hP.symm hp) ?_;rintro o r ⟨⟩
theorem jnN (nm:List ByteArray) (lv:Int) (ts:List Tk) (h:TkP ts) (hn:xK ts=false) (hw : ¬ ((hd ts).text=wIf ∨ (hd ts).text=wWhile ∨ (hd ts).text=wSend ∨ (hd ts).text=wTimer ∨ (hd ts).text=wCancel ∨ (hd ts).text=wSync ∨ (hd ts).text=wStop ∨ (hd ts).text=wReply ∨ (hd ts).text=wFail)):SpecP Tryz.prog 95 [fD nm ts] [.box 0 0,intA lv] (poQ nm (synE ts)) (pnQ (synE ts)):=by
 obtain⟨P,hP⟩ : ∃ P,Pn.bad (hd ts).pos 10=P:=⟨_,rfl⟩
 unfold synE;rw[hP]
 have hl:=h.pos
 have hr:=nH hl
 have hnm:=d9 nm ts hl h.hd h.good.1
 rw[hn] at hnm
 have hfl:=gB nm ts hl 10
 simp only[not_or] at hw
 obtain⟨g0,g1,g2,g3,g4,g5,g6,g7,g8⟩ := hw
 refine eNP jmY (fun _=>[0]) Tryz.func95 rfl ?_;intro _;generalize hd ts=t at *;conv=>whnf
 (refine uP ?_;try with_reducible exact trivial)
 (generalize hrq:jJ _ _ (y7 ts)=rq;obtain rfl:rq=sY t:=hrq.symm.trans (hr);clear hrq;conv=>whnf)
 refine zC 0 [] hnm ?_;rintro o r ⟨ho,rfl⟩;cases ho;conv=>whnf
 refine xV [] fB ?_;rintro r rfl;conv=>whnf
 rw[show decide (t.text=(wIf,A.clo 134 []).fst)=false from jW g0];conv=>whnf
 rw[show decide (t.text=(wWhile,A.clo 135 []).fst)=false from jW g1];conv=>whnf
 rw[show decide (t.text=(wSend,A.clo 136 []).fst)=false from jW g2];conv=>whnf
 rw[show decide (t.text=(wTimer,A.clo 133 [.pp [intA 5]]).fst)=false from jW g3];conv=>whnf
 rw[show decide (t.text=(wCancel,A.clo 133 [.pp [intA 6]]).fst)=false from jW g4];conv=>whnf
 rw[show decide (t.text=(wSync,A.clo 131 [.pp [intA 7]]).fst)=false from jW g5];conv=>whnf
 rw[show decide (t.text=(wStop,A.clo 131 [.pp [intA 10]]).fst)=false from jW g6];conv=>whnf
 rw[show decide (t.text=(wReply,A.clo 137 []).fst)=false from jW g7];conv=>whnf
 rw[show decide (t.text=(wFail,A.clo 138 []).fst)=false from jW g8];conv=>whnf
 by_cases hk:t.kind=1
 ·rw[j8 hk];conv=>whnf
  refine kT 0 [] hfl (fun ch bx' hp=>jP hP.symm hp) ?_;rintro o r ⟨⟩
 ·rw[jW hk];conv=>whnf
  refine kT 0 [] hfl (fun ch bx' hp=>jP hP.symm hp) ?_;rintro o r ⟨⟩
theorem jiO {nm:List ByteArray} {lv:Int} {ex:List Tk->Pn} (hex:zT nm 110 lv ex) (gex:qS ex) (ts:List Tk) (h:TkP ts) (hn:xK ts=true) (P:Pn) (hP:(xpt pEq ts.tail fun r=>(ex r).andThen fun e r=>xpt pSemi r fun r => .ok (.mk 1 0 (hd ts).text [e]) r)=P):SpecP Tryz.prog 95 [fD nm ts] [.box 0 0,intA lv] (poQ nm P) (pnQ P):=by
 have hl:=h.pos
 have hr:=nH hl
 have hnm:=d9 nm ts hl h.hd h.good.1
 rw[hn] at hnm
 have hnx:=wV nm ts hl
 have hk1:(hd ts).kind=1:=by
  unfold xK at hn;simp only[Bool.and_eq_true,decide_eq_true_eq] at hn;exact hn.1
 obtain⟨q1,q2⟩ := h.tail (by rw[hk1];decide)
 simp only[xpt] at hP;refine eNP jmY (fun _=>[0]) Tryz.func95 rfl ?_;intro _;generalize hd ts=t at *;generalize ts.tail=r1 at *;conv=>whnf
 (refine uP ?_;try with_reducible exact trivial)
 (generalize hrq:jJ _ _ (y7 ts)=rq;obtain rfl:rq=sY t:=hrq.symm.trans (hr);clear hrq;conv=>whnf)
 refine zC 0 [] hnm ?_;rintro o r ⟨ho,rfl⟩;cases ho;conv=>whnf
 refine zC 0 [] hnx ?_;rintro o r ⟨ho,rfl⟩;cases ho;conv=>whnf
 refine kT 0 [] (jU nm r1 q1.pos pEq) (fun ch bx' hp => ?_) ?_
 ·rw[if_neg (by rw[hp.1];simp)] at hP;exact jP hP.symm hp.2
 rintro o r ⟨hx,ho,rfl⟩;cases ho;rw[if_pos hx] at hP
 obtain⟨q4,q5⟩ := q1.is hx
 generalize r1.tail=r2 at *;conv=>whnf
 unfold lZ;refine⟨_,?_,fun _ h=>h⟩;conv=>whnf
 refine⟨?_,?_⟩
 ·conv=>whnf
  refine kT 0 [] (hex r2 q4) (fun ch bx' hp => ?_) ?_
  ·obtain⟨x,e,he,hc⟩ := zD hp
   rw[he] at hP;exact jP hP.symm hc
  rintro o r hpo
  obtain⟨f2,r3,he,ho,rfl⟩ := j9 hpo
  cases ho;rw[he] at hP;simp only[Pn.andThen,xpt] at hP
  obtain⟨g3,l3⟩ := gex _ _ _ q4 he
  conv=>whnf
  refine⟨?_,?_⟩
  ·conv=>whnf
   refine kT 0 [] (jU nm r3 g3.pos pSemi) (fun ch bx' hp => ?_) ?_
   ·rw[if_neg (by rw[hp.1];simp)] at hP;exact jP hP.symm hp.2
   rintro o r ⟨hx,ho,rfl⟩;cases ho;rw[if_pos hx] at hP;subst hP;conv=>whnf
   exact⟨rfl,by rw[xH];rfl⟩
  ·conv=>whnf
   refine kT 0 [] (jU nm r3 g3.pos pSemi) (fun ch bx' hp => ?_) ?_
   ·rw[if_neg (by rw[hp.1];simp)] at hP;exact jP hP.symm hp.2
   rintro o r ⟨hx,ho,rfl⟩;cases ho;rw[if_pos hx] at hP;subst hP;conv=>whnf
   exact⟨rfl,by rw[xH];rfl⟩
 ·conv=>whnf
  refine kT 0 [] (hex r2 q4) (fun ch bx' hp => ?_) ?_
  ·obtain⟨x,e,he,hc⟩ := zD hp
   rw[he] at hP;exact jP hP.symm hc
  rintro o r hpo
  obtain⟨f2,r3,he,ho,rfl⟩ := j9 hpo
  cases ho;rw[he] at hP;simp only[Pn.andThen,xpt] at hP
  obtain⟨g3,l3⟩ := gex _ _ _ q4 he
  conv=>whnf
  conv=>whnf
  refine kT 0 [] (jU nm r3 g3.pos pSemi) (fun ch bx' hp => ?_) ?_
  ·rw[if_neg (by rw[hp.1];simp)] at hP;exact jP hP.symm hp.2
  rintro o r ⟨hx,ho,rfl⟩;cases ho;rw[if_pos hx] at hP;subst hP;conv=>whnf
  exact⟨rfl,by rw[xH];rfl⟩
theorem jlN {nm:List ByteArray} {lv:Int} {st:List Tk->Pn} (hlv:0<=lv/\lv<=20) (hst:zT nm 95 lv st) (gst:qS st) (sst:∀ ts f r,TkP ts->st ts = .ok f r->r.length<ts.length):zT nm 71 lv (bkF st):=fun ts h=>by
 obtain⟨P,hP⟩ : ∃ P,bkF st ts=P:=⟨_,rfl⟩
 rw[hP]
 have hopen:=eA nm ts h.pos pLb lv
 simp only[bkF,xpt] at hP
 have hb0:=h.1.2
 refine eNP jqM (fun _=>[0]) Tryz.func71 rfl ?_;intro _;conv=>whnf
 refine kT 0 [] hopen (fun ch bx' hp => ?_) ?_
 ·rcases hp with ⟨h1,h2,hp⟩ | ⟨h1,hp⟩
  ·omega
  ·rw[if_neg (by rw[h1];simp)] at hP;exact jP hP.symm hp
 rintro o r ⟨⟨h1,h2⟩,ho,rfl⟩;cases ho;rw[if_pos h1] at hP
 obtain⟨q1,q2⟩ := h.is h1
 generalize ts.tail=r1 at *;conv=>whnf
 refine vE 48 4 [] [(2,3)] ?_;conv=>whnf
 refine⟨trivial,?_⟩;conv=>whnf
 refine jO [0,1,4,5] ?_;conv=>whnf
 refine qA (fun _:Nat × List Nt × List Tk=>[]) (fun x=>[fD nm x.2.2,jkc,[intA 11,intA 0,jY ⟨#[]⟩,.own 0]]) (fun x=>[.live 48 4 x.2.1.length (qE x.2.1)]) (fun x=>TkP x.2.2/\x.2.2.length<=x.1/\x.2.1.length+x.2.2.length<=1000001/\lV st x.1 x.2.1 x.2.2=P) (fun x=>x.2.2.length) (r1.length,[],r1) ?_ ⟨q1,Nat.le_refl _,by simp only[List.length_nil];omega,hP⟩ ?_
 ·repeat' constructor
  show Row.live _ _ _ _=Row.live _ 4 0 (qE [])
  rw[yA]
 rintro⟨n,acc,ts1⟩ ⟨g1,g2,g3,g5⟩
 simp only at g1 g2 g3 g5
 obtain⟨m,rfl⟩ : ∃ m,n=m+1:=⟨n-1,by have:=g1.pos;omega⟩
 rw[lV] at g5;conv=>whnf
 refine zC 0 [] (g9 nm ts1 g1.pos pRb) ?_;rintro o r ⟨ho,rfl⟩;cases ho;conv=>whnf
 cases hq:qU pRb ts1 with
 | false =>
  rw[if_neg (by rw[hq];simp)] at g5
  have hP:=g5
  conv=>whnf
  refine kT 0 [] (hst ts1 g1) (fun ch bx' hp => ?_) ?_
  ·obtain⟨x,e,he,hc⟩ := zD hp
   rw[he] at hP;exact jP hP.symm hc
  rintro o r hpo
  obtain⟨f2,r2,he,ho,rfl⟩ := j9 hpo
  cases ho;rw[he] at hP;simp only[Pn.andThen] at hP
  obtain⟨g6,l6⟩ := gst _ _ _ g1 he
  have hlt:=sst _ _ _ g1 he
  conv=>whnf
  refine⟨⟨by simp only;unfold maxLen;omega,by simp only;omega⟩,?_⟩;conv=>whnf
  refine⟨(m,acc++[f2],r2),jS [0] ?_,⟨g6,by simp only;omega,by simp only[List.length_append,List.length_cons,List.length_nil];omega,hP⟩,by simp only;omega⟩;conv=>whnf
  repeat' constructor
  simp only[List.length_append,List.length_cons,List.length_nil];rw[sK];rfl
 | true =>
  rw[if_pos hq] at g5
  have hnx:=wV nm ts1 g1.pos
  subst g5;conv=>whnf
  refine zC 0 [] hnx ?_;rintro o r ⟨ho,rfl⟩;cases ho;conv=>whnf
  exact⟨rfl,rfl⟩
theorem jhF (nm:List ByteArray):zT nm 71 21 bkN:=fun ts h=>by
 obtain⟨P,hP⟩ : ∃ P,bkN ts=P:=⟨_,rfl⟩
 rw[hP]
 have hopen:=eA nm ts h.pos pLb 21
 unfold bkN at hP;refine eNP jqM (fun _=>[0]) Tryz.func71 rfl ?_;intro _;conv=>whnf
 refine kT 0 [] hopen (fun ch bx' hp => ?_) ?_
 ·rcases hp with ⟨h1,h2,hp⟩ | ⟨h1,hp⟩
  ·rw[if_pos h1] at hP;exact jP hP.symm hp
  ·rw[if_neg (by rw[h1];simp)] at hP;exact jP hP.symm hp
 rintro o r ⟨⟨h1,h2⟩,ho,rfl⟩;exact absurd h2 (by decide)
theorem jnL (ex bl:List Tk->Pn) (ts:List Tk) (hn:xK ts=false) (hw:(hd ts).text=wIf ∨ (hd ts).text=wWhile ∨ (hd ts).text=wSend ∨ (hd ts).text=wTimer ∨ (hd ts).text=wCancel ∨ (hd ts).text=wSync ∨ (hd ts).text=wStop ∨ (hd ts).text=wReply ∨ (hd ts).text=wFail) :
  (if (hd ts).kind ≠ 1 then .bad (hd ts).pos 10 else stK ex bl (hd ts).text ts.tail)=iN ex bl ts:=by
 unfold iN stK;rw[if_neg (show ¬ xK ts=true by rw[hn];simp)]
 by_cases hk:(hd ts).kind ≠ 1
 ·rw[if_pos hk,if_pos hk];rfl
 ·rw[if_neg hk,if_neg hk]
  rcases hw with e | e | e | e | e | e | e | e | e <;> rw[e] <;> rfl
theorem jnK (ex bl:List Tk->Pn) (ts:List Tk) (hn:xK ts=false) (hw : ¬ ((hd ts).text=wIf ∨ (hd ts).text=wWhile ∨ (hd ts).text=wSend ∨ (hd ts).text=wTimer ∨ (hd ts).text=wCancel ∨ (hd ts).text=wSync ∨ (hd ts).text=wStop ∨ (hd ts).text=wReply ∨ (hd ts).text=wFail)):iN ex bl ts=synE ts:=by
 simp only[not_or] at hw
 obtain⟨g0,g1,g2,g3,g4,g5,g6,g7,g8⟩ := hw
 unfold iN;rw[if_neg (show ¬ xK ts=true by rw[hn];simp),if_neg g0,if_neg g1,if_neg g2,if_neg g3,if_neg g4,if_neg g5,if_neg g7,if_neg g8,if_neg g6]
 split <;> rfl
theorem jbw {nm:List ByteArray} {lv:Int} {ex bl:List Tk->Pn} (hlv:0<=lv/\lv<=20) (hex:zT nm 110 lv ex) (gex:qS ex) (hbl:zT nm 71 (lv+1) bl) (gbl:qS bl):zT nm 95 lv (iN ex bl):=fun ts h=>by
 cases hn:xK ts with
 | true=>exact jiO hex gex ts h hn _ (by unfold iN;rw[hn,if_pos rfl])
 | false =>
  by_cases hw:(hd ts).text=wIf ∨ (hd ts).text=wWhile ∨ (hd ts).text=wSend ∨ (hd ts).text=wTimer ∨ (hd ts).text=wCancel ∨ (hd ts).text=wSync ∨ (hd ts).text=wStop ∨ (hd ts).text=wReply ∨ (hd ts).text=wFail
  ·exact jnO hlv hex gex hbl gbl ts h _ hn (jnL ex bl ts hn hw) hw
  ·rw[jnK ex bl ts hn hw];exact jnN nm lv ts h hn hw
def GoesS (op:List Tk->Pn):Prop := ∀ ts f r,TkP ts->op ts = .ok f r->TkP r/\r.length<ts.length
theorem GoesS.goes {op:List Tk->Pn} (h:GoesS op):qS op:=fun ts f r k e=>⟨(h ts f r k e).1,Nat.le_of_lt (h ts f r k e).2⟩
theorem jet {lim:Int} {ts:List Tk} {k:Int->List Tk->Pn} {f:Nt} {r:List Tk} (h:cR lim ts k = .ok f r):(hd ts).kind=2/\k (hd ts).n ts.tail = .ok f r:=by
 unfold cR at h
 split at h
 ·cases h
 ·split at h
  ·cases h
  ·rename_i h1 h2
   exact⟨Decidable.not_not.1 h1,h⟩
theorem aD {ts:List Tk} (h:xK ts=true):(hd ts).kind=1:=by
 have h2:(decide ((hd ts).kind=1) && !(keyL++builtL).any fun s=>decide ((hd ts).text=s))=true:=h
 exact of_decide_eq_true (Bool.and_eq_true_iff.1 h2).1
theorem nG {c:Prop} [Decidable c] {a b x:Pn} (h:(if c then a else b)=x):(c/\a=x) ∨ (¬ c/\b=x):=by
 by_cases hc:c
 ·rw[if_pos hc] at h;exact .inl ⟨hc,h⟩
 ·rw[if_neg hc] at h;exact .inr ⟨hc,h⟩
theorem uQ {ex bl:List Tk->Pn} (gex:qS ex) (gbl:qS bl):GoesS (iN ex bl):=fun ts f r h e=>by
 unfold iN at e
 rcases nG e with ⟨hn,e⟩ | ⟨hn,e⟩
 ·obtain⟨q1,q2⟩ := h.tail (by rw[aD hn];decide)
  obtain⟨i,e⟩ := xM e
  obtain⟨g1,l1⟩ := q1.is i
  obtain⟨_,_,i,e⟩ := j0 e
  obtain⟨g2,l2⟩ := gex _ _ _ g1 i
  obtain⟨i,e⟩ := xM e
  obtain⟨g3,l3⟩ := g2.is i
  cases e
  exact⟨g3,by omega⟩
 rcases nG e with ⟨hk,e⟩ | ⟨hk,e⟩
 ·cases e
 obtain⟨q1,q2⟩ := h.tail (by rw[Decidable.not_not.1 hk];decide)
 rcases nG e with ⟨_,e⟩ | ⟨_,e⟩
 ·obtain⟨_,_,i,e⟩ := j0 e
  obtain⟨g1,l1⟩ := gex _ _ _ q1 i
  obtain⟨_,_,i,e⟩ := j0 e
  obtain⟨g2,l2⟩ := gbl _ _ _ g1 i
  rcases nG e with ⟨hs,e⟩ | ⟨hs,e⟩
  ·obtain⟨g3,l3⟩ := g2.is hs
   obtain⟨_,_,i,e⟩ := j0 e
   obtain⟨g4,l4⟩ := gbl _ _ _ g3 i
   cases e
   exact⟨g4,by omega⟩
  ·cases e
   exact⟨g2,by omega⟩
 rcases nG e with ⟨_,e⟩ | ⟨_,e⟩
 ·obtain⟨_,_,i,e⟩ := j0 e
  obtain⟨g1,l1⟩ := gex _ _ _ q1 i
  obtain⟨_,_,i,e⟩ := j0 e
  obtain⟨g2,l2⟩ := gbl _ _ _ g1 i
  cases e
  exact⟨g2,by omega⟩
 rcases nG e with ⟨_,e⟩ | ⟨_,e⟩
 ·obtain⟨_,_,i,e⟩ := j0 e
  obtain⟨g1,l1⟩ := gex _ _ _ q1 i
  obtain⟨i,e⟩ := xM e
  obtain⟨g2,l2⟩ := g1.is i
  obtain⟨i,e⟩ := jet e
  obtain⟨g3,l3⟩ := g2.tail (by rw[i];decide)
  obtain⟨i,e⟩ := xM e
  obtain⟨g4,l4⟩ := g3.is i
  obtain⟨_,_,i,e⟩ := j0 e
  obtain⟨g5,l5⟩ := gex _ _ _ g4 i
  obtain⟨i,e⟩ := xM e
  obtain⟨g6,l6⟩ := g5.is i
  obtain⟨_,_,i,e⟩ := j0 e
  obtain⟨g7,l7⟩ := gex _ _ _ g6 i
  obtain⟨i,e⟩ := xM e
  obtain⟨g8,l8⟩ := g7.is i
  cases e
  exact⟨g8,by omega⟩
 rcases nG e with ⟨_,e⟩ | ⟨_,e⟩
 ·obtain⟨i,e⟩ := jet e
  obtain⟨g3,l3⟩ := q1.tail (by rw[i];decide)
  obtain⟨i,e⟩ := xM e
  obtain⟨g4,l4⟩ := g3.is i
  cases e
  exact⟨g4,by omega⟩
 rcases nG e with ⟨_,e⟩ | ⟨_,e⟩
 ·obtain⟨i,e⟩ := jet e
  obtain⟨g3,l3⟩ := q1.tail (by rw[i];decide)
  obtain⟨i,e⟩ := xM e
  obtain⟨g4,l4⟩ := g3.is i
  cases e
  exact⟨g4,by omega⟩
 rcases nG e with ⟨_,e⟩ | ⟨_,e⟩
 ·obtain⟨i,e⟩ := xM e
  obtain⟨g4,l4⟩ := q1.is i
  cases e
  exact⟨g4,by omega⟩
 rcases nG e with ⟨_,e⟩ | ⟨_,e⟩
 ·obtain⟨_,_,i,e⟩ := j0 e
  obtain⟨g1,l1⟩ := gex _ _ _ q1 i
  obtain⟨i,e⟩ := xM e
  obtain⟨g2,l2⟩ := g1.is i
  obtain⟨_,_,i,e⟩ := j0 e
  obtain⟨g3,l3⟩ := gex _ _ _ g2 i
  obtain⟨i,e⟩ := xM e
  obtain⟨g4,l4⟩ := g3.is i
  cases e
  exact⟨g4,by omega⟩
 rcases nG e with ⟨_,e⟩ | ⟨_,e⟩
 ·obtain⟨_,_,i,e⟩ := j0 e
  obtain⟨g1,l1⟩ := gex _ _ _ q1 i
  obtain⟨i,e⟩ := xM e
  obtain⟨g2,l2⟩ := g1.is i
  cases e
  exact⟨g2,by omega⟩
 rcases nG e with ⟨_,e⟩ | ⟨_,e⟩
 ·obtain⟨i,e⟩ := xM e
  obtain⟨g4,l4⟩ := q1.is i
  cases e
  exact⟨g4,by omega⟩
 ·cases e
theorem jcE {st:List Tk->Pn} (gst:GoesS st):∀ (n:Nat) (acc:List Nt) (ts:List Tk) (f:Nt) (r:List Tk),TkP ts->lV st n acc ts = .ok f r->TkP r/\r.length<=ts.length
 | 0,acc,ts,f,r,h,e=>by cases e
 | n+1,acc,ts,f,r,h,e=>by
  rw[lV] at e
  split at e
  ·rename_i hs
   obtain⟨g1,l1⟩ := h.is hs
   cases e
   exact⟨g1,by omega⟩
  ·obtain⟨_,_,i,e⟩ := j0 e
   obtain⟨g1,l1⟩ := gst _ _ _ h i
   obtain⟨g2,l2⟩ := jcE gst n _ _ _ _ g1 e
   exact⟨g2,by omega⟩
theorem jjp {st:List Tk->Pn} (gst:GoesS st):GoesS (bkF st):=fun ts f r h e=>by
 unfold bkF at e
 obtain⟨i,e⟩ := xM e
 obtain⟨g1,l1⟩ := h.is i
 obtain⟨g2,l2⟩ := jcE gst _ _ _ _ _ g1 e
 exact⟨g2,by omega⟩
theorem aB {low:Option Pa} (hl:fC low):qS (jkL low):=by
 cases low with
 | none =>
  intro ts f r h e
  have e2:(if qU pLb ts=true then Pn.bad (hd ts).pos 2 else .bad (hd ts).pos 10) = .ok f r:=e
  split at e2 <;> cases e2
 | some p=>exact (hl p rfl).2.2.2
theorem jee {low:Option Pa} (hl:fC low):fC (some (paG low)):=fun p hp=>by
 cases hp
 exact⟨cJ hl,cK hl,aL hl,(jjp (uQ (aL hl) (aB hl))).goes⟩
theorem jd1 {nm:List ByteArray} {lv:Int} {low:Option Pa} (h:LowQ nm lv low):zT nm 71 (lv+1) (jkL low):=by
 obtain⟨h0,⟨rfl,rfl⟩ | ⟨p,rfl,h1,a,b,c,d,e,f,g,i⟩⟩ := h
 ·exact jhF nm
 ·exact i
theorem jgh {nm:List ByteArray} {lv:Int} {low:Option Pa} (h0:0<=lv) (h1:lv+1<=20) (h:LowQ nm (lv+1) low):LowQ nm lv (some (paG low)):=by
 have hg:=h.goes
 obtain⟨a,b,c,d⟩ := jee hg _ rfl
 have hst:=jbw (lv:=lv+1) ⟨by omega,h1⟩ (jcy h) (aL hg) (jd1 h) (aB hg)
 have gst:=uQ (aL hg) (aB hg)
 exact⟨h0,.inr ⟨_,rfl,h1,a,b,c,d,jgv h,jbM h,jcy h,jlN ⟨by omega,h1⟩ hst gst.goes fun ts f r k e=>(gst ts f r k e).2⟩⟩
theorem jim (nm:List ByteArray):∀ d:Nat,d<=19->LowQ nm (19-d) (some (pa d))
 | 0,_=>jgh (by decide) (by decide) ⟨by decide,.inl ⟨rfl,rfl⟩⟩
 | d+1,h=>by
  have ih:=jim nm d (by omega)
  refine jgh (by omega) (by omega) ?_;rw[show (19-((d+1:Nat):Int)+1)=19-(d:Int) by push_cast;omega];exact ih
theorem jfj (nm:List ByteArray):zT nm 71 1 (pa 19).bl:=jd1 (jim nm 19 (by decide))
theorem tD:GoesS (pa 19).bl:=by
 have h:=(jim [] 18 (by decide)).goes
 exact jjp (uQ (aL h) (aB h))
theorem t7 (l:List ByteArray) (s:ByteArray) (hl:l.length<=1000000):Spec Tryz.prog 89 [] [.sl 1 l.length (bA l),jY s] fun _ r=>r=wY (kP l s):=by
 have hi:=mH l s hl
 refine eN jH jT 0 Tryz.func89 rfl ?_;intro _;conv=>whnf
 refine xV [] hi ?_;rintro r ⟨n,hn,hq,rfl⟩;conv=>whnf
 rw[hq];rfl
def deH (n:Nat) (nm out:List ByteArray) (ts:List Tk):Pd :=
 if qU pComma ts=true then cB n nm out ts else if qU pSemi ts=true then .ok nm out ts.tail else .bad (hd ts).pos 10
theorem uO (n:Nat) (nm out:List ByteArray) (ts:List Tk):cB (n+1) nm out ts =
  (if xK ts.tail=false then .bad (hd ts.tail).pos 10
  else if kP nm (hd ts.tail).text=true then .bad (hd ts.tail).pos 4
  else if nm.length=16 then .bad (hd ts.tail).pos 2
  else deH n (nm++[(hd ts.tail).text]) (out++[(hd ts.tail).text]) ts.tail.tail):=rfl
def pdQ (p:Pd) (ch:List PanicEntry):Prop:=match p with
 | .bad x e=>ch=qP x e
 | _=>False
theorem oC {p:Pd} {x e:Int} {ch:List PanicEntry} (h:p = .bad x e) (k:ch=qP x e):pdQ p ch:=by subst h;exact k
def doQ (p:Pd) (o:List (List A)) (n:Nat) (cs:List A) (r:A):Prop:=match p with
 | .ok nm out ts=>o=[bxN ts++[.own 0]]/\n=nm.length/\cs=bA nm/\r = .sl 1 out.length (bA out)
 | _=>False
theorem jhk (l:List ByteArray) (s:ByteArray):bA (l++[s])=bA l++[jY s]:=by unfold bA;rw[List.map_append];rfl
theorem jcx (nm:List ByteArray) (ts:List Tk) (h:TkP ts) (hk:(hd ts).kind ≠ 0) (hl16:nm.length<=16) :
  mO Tryz.prog 68 [bxN ts++[.own 0]] 9 1 nm.length (bA nm) [.box 0 0] (doQ (cB ts.length nm [] ts)) (pdQ (cB ts.length nm [] ts)):=by
 obtain⟨P,hP⟩ : ∃ P,cB ts.length nm [] ts=P:=⟨_,rfl⟩
 rw[hP]
 have hb0:=h.1.2
 refine jbv (wT jH jT 1 (fun ch _=>(pdQ P) ch)) (fun _ _ h=>h) Tryz.func68 rfl (by kernel_rfl) rfl (by kernel_rfl) ?_;intro _;conv=>whnf
 refine vE 9 1 [3] [] ?_;conv=>whnf
 refine⟨trivial,?_⟩;conv=>whnf
 refine jO [0,3] ?_;conv=>whnf
 refine qA (fun x:Nat × Bool × List ByteArray × List ByteArray × List Tk=>[(4,.v (.bool x.2.1))]) (fun x=>[bxN x.2.2.2.2++[.own 0]]) (fun x=>[.live 9 1 x.2.2.1.length (bA x.2.2.1),.live 9 1 x.2.2.2.1.length (bA x.2.2.2.1)])
  (fun x=>TkP x.2.2.2.2/\x.2.2.2.2.length<=x.1/\x.2.2.1.length<=16/\x.2.2.2.1.length+x.2.2.2.2.length<=1000001/\(x.2.1=true->(hd x.2.2.2.2).kind ≠ 0/\cB x.1 x.2.2.1 x.2.2.2.1 x.2.2.2.2=P)/\(x.2.1=false->deH x.1 x.2.2.1 x.2.2.2.1 x.2.2.2.2=P)) (fun x=>x.2.2.2.2.length) (ts.length,true,nm,[],ts) ?_ ⟨h,Nat.le_refl _,hl16,by simp only[List.length_nil];omega,fun _=>⟨hk,hP⟩,fun e=>by cases e⟩ ?_
 ·repeat' constructor
 rintro⟨n0,b,nm1,out,ts0⟩ ⟨g1,g2,g3,g4,g5,g6⟩
 simp only at g1 g2 g3 g4 g5 g6
 conv=>whnf
 cases b with
 | true =>
  obtain⟨g7,hP⟩ := g5 rfl
  obtain⟨n,rfl⟩ : ∃ n,n0=n+1:=⟨n0-1,by have:=g1.pos;omega⟩
  rw[uO] at hP
  obtain⟨q1,q2⟩ := g1.tail g7
  have hnx:=sP ts0 g1.pos
  have hp1:=q1.pos
  generalize hd ts0=t0 at *;generalize ts0.tail=ts1 at *;conv=>whnf
  refine qZ 0 0 2 [] rfl rfl rfl rfl rfl rfl rfl (fun _=>(hnx).rp rfl rfl _ _ _ _) (fun ch bx' hp=>hp.elim) ?_;rintro o n' cs' r ⟨c,ho,rfl,rfl,rfl,rfl⟩;cases ho;conv=>whnf
  have hnm:=jiz ts1 hp1 q1.hd q1.good.1
  refine qZ 0 2 3 [] rfl rfl rfl rfl rfl rfl rfl (fun _=>(hnm).rp rfl rfl _ _ _ _) (fun ch bx' hp=>hp.elim) ?_;rintro o n' cs' r ⟨c,ho,rfl,rfl,rfl,rfl⟩;cases ho;conv=>whnf
  cases hn:xK ts1 with
  | false =>
   rw[if_pos hn] at hP;conv=>whnf
   refine qZ 0 3 4 [] rfl rfl rfl rfl rfl rfl rfl (fun _=>(iF ts1 hp1 10).rp rfl rfl _ _ _ _) (fun ch bx' hp _ _=>oC hP.symm hp) ?_;rintro o n' cs' r ⟨c,ho,_,_,⟨⟩⟩
  | true =>
   rw[if_neg (by rw[hn];simp)] at hP
   have hr1:=nH hp1
   obtain⟨q4,q5⟩ := q1.tail (by rw[aD hn];decide)
   have hnx2:=sP ts1 hp1
   have hz1:=q1.good.1
   generalize hts2:ts1.tail=ts2 at *;generalize ht1:hd ts1=t1 at *
   have hct:=t7 nm1 t1.text (by omega)
   conv=>whnf
   (refine uP ?_;try with_reducible exact trivial)
   (generalize hrq:jJ _ _ (y7 ts1)=rq;obtain rfl:rq=sY t1:=hrq.symm.trans (hr1);clear hrq;conv=>whnf)
   refine jqt [3] rfl (fun _=>hct) ?_;rintro r rfl;refine⟨_,rfl,?_⟩;conv=>whnf
   cases hh:kP nm1 t1.text with
   | true =>
    rw[if_pos hh] at hP;rw[<- ht1] at hP;conv=>whnf
    refine qZ 0 3 4 [] rfl rfl rfl rfl rfl rfl rfl (fun _=>(iF ts1 hp1 4).rp rfl rfl _ _ _ _) (fun ch bx' hp _ _=>oC hP.symm hp) ?_;rintro o n' cs' r ⟨c,ho,_,_,⟨⟩⟩
   | false =>
    rw[if_neg (by rw[hh];simp)] at hP;conv=>whnf
    by_cases h16:nm1.length=16
    ·rw[j8 (show (nm1.length:Int)=16 by omega)];rw[if_pos h16] at hP;rw[<- ht1] at hP;conv=>whnf
     refine qZ 0 3 4 [] rfl rfl rfl rfl rfl rfl rfl (fun _=>(iF ts1 hp1 2).rp rfl rfl _ _ _ _) (fun ch bx' hp _ _=>oC hP.symm hp) ?_;rintro o n' cs' r ⟨c,ho,_,_,⟨⟩⟩
    ·rw[jW (show ¬ (nm1.length:Int)=16 by omega)];rw[if_neg h16] at hP;conv=>whnf
     refine⟨⟨by simp only;unfold maxLen;omega,by simp only;omega⟩,?_⟩;conv=>whnf
     refine⟨⟨by simp only;unfold maxLen;omega,by simp only;omega⟩,?_⟩;conv=>whnf
     refine qZ 0 3 6 [] rfl rfl rfl rfl rfl rfl rfl (fun _=>(hnx2).rp rfl rfl _ _ _ _) (fun ch bx' hp=>hp.elim) ?_;rintro o n' cs' r ⟨c,ho,rfl,rfl,rfl,rfl⟩;cases ho;conv=>whnf
     refine⟨(n,false,nm1++[t1.text],out++[t1.text],ts2),jS [6,1] ?_,⟨q4,by simp only;omega,by simp only[List.length_append,List.length_cons,List.length_nil];omega,by simp only[List.length_append,List.length_cons,List.length_nil];omega,fun e=>(by cases e),fun _=>hP⟩,by simp only;omega⟩;conv=>whnf
     simp only[List.length_append,List.length_cons,List.length_nil,jhk]
     repeat' constructor
 | false =>
  have hP:=g6 rfl
  have hpos:=g1.pos
  have hcm:=jpH ts0 hpos pComma
  conv=>whnf
  refine qZ 0 0 2 [] rfl rfl rfl rfl rfl rfl rfl (fun _=>(hcm).rp rfl rfl _ _ _ _) (fun ch bx' hp=>hp.elim) ?_;rintro o n' cs' r ⟨c,ho,rfl,rfl,rfl,rfl⟩;cases ho;conv=>whnf
  unfold deH at hP
  cases hq:qU pComma ts0 with
  | true =>
   rw[if_pos hq] at hP
   obtain⟨n,rfl⟩ : ∃ n,n0=n+1:=⟨n0-1,by omega⟩
   rw[uO] at hP
   obtain⟨q1,q2⟩ := g1.is hq
   have hnx:=sP ts0 hpos
   have hp1:=q1.pos
   generalize hd ts0=t0 at *;generalize ts0.tail=ts1 at *;conv=>whnf
   refine qZ 0 2 3 [] rfl rfl rfl rfl rfl rfl rfl (fun _=>(hnx).rp rfl rfl _ _ _ _) (fun ch bx' hp=>hp.elim) ?_;rintro o n' cs' r ⟨c,ho,rfl,rfl,rfl,rfl⟩;cases ho;conv=>whnf
   have hnm:=jiz ts1 hp1 q1.hd q1.good.1
   refine qZ 0 3 4 [] rfl rfl rfl rfl rfl rfl rfl (fun _=>(hnm).rp rfl rfl _ _ _ _) (fun ch bx' hp=>hp.elim) ?_;rintro o n' cs' r ⟨c,ho,rfl,rfl,rfl,rfl⟩;cases ho;conv=>whnf
   cases hn:xK ts1 with
   | false =>
    rw[if_pos hn] at hP;conv=>whnf
    refine qZ 0 4 5 [] rfl rfl rfl rfl rfl rfl rfl (fun _=>(iF ts1 hp1 10).rp rfl rfl _ _ _ _) (fun ch bx' hp _ _=>oC hP.symm hp) ?_;rintro o n' cs' r ⟨c,ho,_,_,⟨⟩⟩
   | true =>
    rw[if_neg (by rw[hn];simp)] at hP
    have hr1:=nH hp1
    obtain⟨q4,q5⟩ := q1.tail (by rw[aD hn];decide)
    have hnx2:=sP ts1 hp1
    have hz1:=q1.good.1
    generalize hts2:ts1.tail=ts2 at *;generalize ht1:hd ts1=t1 at *
    have hct:=t7 nm1 t1.text (by omega)
    conv=>whnf
    (refine uP ?_;try with_reducible exact trivial)
    (generalize hrq:jJ _ _ (y7 ts1)=rq;obtain rfl:rq=sY t1:=hrq.symm.trans (hr1);clear hrq;conv=>whnf)
    refine jqt [4] rfl (fun _=>hct) ?_;rintro r rfl;refine⟨_,rfl,?_⟩;conv=>whnf
    cases hh:kP nm1 t1.text with
    | true =>
     rw[if_pos hh] at hP;rw[<- ht1] at hP;conv=>whnf
     refine qZ 0 4 5 [] rfl rfl rfl rfl rfl rfl rfl (fun _=>(iF ts1 hp1 4).rp rfl rfl _ _ _ _) (fun ch bx' hp _ _=>oC hP.symm hp) ?_;rintro o n' cs' r ⟨c,ho,_,_,⟨⟩⟩
    | false =>
     rw[if_neg (by rw[hh];simp)] at hP;conv=>whnf
     by_cases h16:nm1.length=16
     ·rw[j8 (show (nm1.length:Int)=16 by omega)];rw[if_pos h16] at hP;rw[<- ht1] at hP;conv=>whnf
      refine qZ 0 4 5 [] rfl rfl rfl rfl rfl rfl rfl (fun _=>(iF ts1 hp1 2).rp rfl rfl _ _ _ _) (fun ch bx' hp _ _=>oC hP.symm hp) ?_;rintro o n' cs' r ⟨c,ho,_,_,⟨⟩⟩
     ·rw[jW (show ¬ (nm1.length:Int)=16 by omega)];rw[if_neg h16] at hP;conv=>whnf
      refine⟨⟨by simp only;unfold maxLen;omega,by simp only;omega⟩,?_⟩;conv=>whnf
      refine⟨⟨by simp only;unfold maxLen;omega,by simp only;omega⟩,?_⟩;conv=>whnf
      refine qZ 0 4 7 [] rfl rfl rfl rfl rfl rfl rfl (fun _=>(hnx2).rp rfl rfl _ _ _ _) (fun ch bx' hp=>hp.elim) ?_;rintro o n' cs' r ⟨c,ho,rfl,rfl,rfl,rfl⟩;cases ho;conv=>whnf
      refine⟨(n,false,nm1++[t1.text],out++[t1.text],ts2),jS [7,1] ?_,⟨q4,by simp only;omega,by simp only[List.length_append,List.length_cons,List.length_nil];omega,by simp only[List.length_append,List.length_cons,List.length_nil];omega,fun e=>(by cases e),fun _=>hP⟩,by simp only;omega⟩;conv=>whnf
      simp only[List.length_append,List.length_cons,List.length_nil,jhk]
      repeat' constructor
  | false =>
   rw[if_neg (by rw[hq];simp)] at hP;conv=>whnf
   refine qZ 0 2 3 [] rfl rfl rfl rfl rfl rfl rfl (fun _=>(jgJ ts0 hpos pSemi).rp rfl rfl _ _ _ _) (fun ch bx' hp _ _ => ?_) ?_
   ·rw[if_neg (by rw[hp.1];simp)] at hP;exact oC hP.symm hp.2
   rintro o n' cs' r ⟨c,ho,rfl,rfl,hs,rfl,rfl⟩;cases ho;rw[if_pos hs] at hP;subst hP;conv=>whnf
   refine⟨3,?_⟩;conv=>whnf
   exact⟨rfl,rfl,rfl,rfl⟩
end Go.Proofs.YtfbkolllpencnaaGreatDoor.Vm
namespace Go.Proofs.YtfbkolllpencnaaGreatDoor.Vm
open Go.RowKit
@[irreducible] def mkA (l:List (Int × A)):List A:=l.map fun p => .v (.int .i64 p.1)
@[irreducible] def uU (l:List (Int × A)):List Value:=l.map fun p => .int .i64 p.1
@[irreducible] def oY (l:List (Int × A)):List A:=l.map (·.2)
theorem jpr:mkA []=[]:=by unfold mkA;rfl
theorem jpt:oY []=[]:=by unfold oY;rfl
theorem aM (l:List (Int × A)) {K:List Value->Prop} (h:K (uU l)):mC (mkA l) K:=by
 unfold uU at h;unfold mkA
 induction l generalizing K with
 | nil=>exact h
 | cons p l ih =>
  rw[List.map_cons]
  show mC (l.map _) fun r=>K (.int .i64 p.1 :: r)
  exact ih (K:=fun r=>K (.int .i64 p.1 :: r)) h
def wJ (l:List (Int × A)) (k:Int):Option A:=(l.find? fun p=>decide (k=p.1)).map (·.2)
theorem kF (l:List (Int × A)) (k:Int) {K:A->Prop} {n:Prop} (h:match wJ l k with | some a=>K a | none=>n):gM false (uU l) (oY l) (.int .i64 k) K n:=by
 unfold uU oY
 induction l with
 | nil=>exact h
 | cons p l ih =>
  rw[List.map_cons,List.map_cons]
  show ifK (decide (k=p.1)) (zM p.2 K) (gM false (l.map _) (l.map (·.2)) (.int .i64 k) K n)
  rw[ifK_iff]
  by_cases e:k=p.1
  ·refine⟨fun _ => ?_,fun e2=>by rw[j8 e] at e2;cases e2⟩
   have:wJ (p :: l) k=some p.2:=by unfold wJ;rw[List.find?_cons_of_pos (by simpa using e)];rfl
   rw[this] at h;exact force_iff.2 h
  ·refine⟨fun e2=>absurd (of_decide_eq_true e2) e,fun _=>ih ?_⟩
   have:wJ (p :: l) k=wJ l k:=by unfold wJ;rw[List.find?_cons_of_neg (by simpa using e)]
   rw[<- this];exact h
theorem jcL {l:List (Int × A)} {k:Int} {x:A} {n:Nat} {K:List A->List A->Nat->Prop} (hk:∀ p ∈ l,k ≠ p.1) (h:K (mkA (l++[(k,x)])) (oY (l++[(k,x)])) (n+1)):jhW false (.int .i64 k) x (mkA l) (oY l) n K:=by
 unfold mkA oY at h;unfold mkA oY
 induction l generalizing K with
 | nil=>exact h
 | cons p l ih =>
  rw[List.map_cons,List.map_cons]
  show ifK (decide (k=p.1)) _ (jhW false (.int .i64 k) x (l.map _) (l.map (·.2)) n fun ks' vs' n' => K (.v (.int .i64 p.1) :: ks') (p.2 :: vs') n')
  rw[ifK_iff];refine⟨fun e=>absurd (of_decide_eq_true e) (hk p List.mem_cons_self),fun _=>ih (K:=fun ks' vs' n' => K (.v (.int .i64 p.1) :: ks') (p.2 :: vs') n') (fun q hq=>hk q (List.mem_cons_of_mem _ hq)) h⟩
section
mutual
def jb2:A->Bool
 | .mp _ _=>false
 | .sl _ _ cs=>yL cs
 | .pp cs=>yL cs
 | .clo _ l=>yL l
 | .bm _ l=>yL l
 | .agg l=>yL l
 | .tup l=>yL l
 | _=>true
def yL:List A->Bool
 | []=>true
 | a :: r=>jb2 a && yL r
end
theorem noMpL_iff:∀ {l:List A},yL l=true ↔ ∀ a ∈ l,jb2 a=true
 | []=>by unfold yL;simp
 | a :: r=>by
  unfold yL;rw[Bool.and_eq_true,noMpL_iff];simp
theorem jkM {l:List A} (h:yL l=true):yL (nL l)=true:=by
 cases l with
 | nil=>exact h
 | cons a l=>cases a <;> exact h
def jql (D C:Rd):Prop := ∀ b o u,D ⟨b,o,none⟩ = some u->C ⟨b,o,none⟩ = some u
section
variable {D C:Rd} (hC:jql D C)
include hC
mutual
theorem pZ:∀ (a:A) {β:List Nat} {ρ:List Value} {y:Value},jb2 a=true->a.rep ⟨D,β,ρ⟩ y->a.rep ⟨C,β,ρ⟩ y
 | .dead,_,_,_,_,h=>by unfold A.rep;trivial
 | .v x,_,_,_,_,h=>by unfold A.rep at h ⊢;exact h
 | .sl k n cs,_,_,_,hm,h=>by
  unfold A.rep at h ⊢
  obtain⟨h1,h2,p,b,off,cap,h3,h4,h6,h7,h8⟩ := h
  exact⟨h1,h2,p,b,off,cap,h3,h4,h6,h7,jer cs (by unfold jb2 at hm;exact hm) h8⟩
 | .own g,_,_,_,_,h=>by unfold A.rep at h ⊢;exact h
 | .orow g off,_,_,_,_,h=>by unfold A.rep at h ⊢;exact h
 | .box i off,_,_,_,_,h=>by unfold A.rep at h ⊢;exact h
 | .pp cs,_,_,_,hm,h=>by
  unfold A.rep at h ⊢
  obtain⟨b,off,h1,h2⟩ := h
  exact⟨b,off,h1,jer cs (by unfold jb2 at hm;exact hm) h2⟩
 | .gp _ _,_,_,_,_,h=>by unfold A.rep at h ⊢;exact h
 | .adr _,_,_,_,_,h=>by unfold A.rep at h;exact h.elim
 | .err,_,_,_,_,h=>by unfold A.rep at h ⊢;exact h
 | .num,_,_,_,_,h=>by unfold A.rep at h ⊢;exact h
 | .clo f caps,_,_,_,hm,h=>by
  unfold A.rep at h ⊢
  obtain⟨us,h1,h2⟩ := h
  exact⟨us,h1,jeq caps (by unfold jb2 at hm;exact hm) h2⟩
 | .bm f fs,_,_,_,hm,h=>by
  unfold A.rep at h ⊢
  obtain⟨us,h1,h2⟩ := h
  exact⟨us,h1,jeq fs (by unfold jb2 at hm;exact hm) h2⟩
 | .mp ks vs,_,_,_,hm,h=>by unfold jb2 at hm;cases hm
 | .agg l,_,_,_,hm,h=>by
  unfold A.rep at h ⊢
  obtain⟨us,h1,h2⟩ := h
  exact⟨us,h1,jib l (by unfold jb2 at hm;exact hm) h2⟩
 | .tup l,_,_,_,hm,h=>by
  unfold A.rep at h ⊢
  obtain⟨us,h1,h2⟩ := h
  exact⟨us,h1,jeq l (by unfold jb2 at hm;exact hm) h2⟩
theorem jer:∀ (l:List A) {β:List Nat} {ρ:List Value} {b off:Nat},yL l=true->A.repAt l ⟨D,β,ρ⟩ b off->A.repAt l ⟨C,β,ρ⟩ b off
 | [],_,_,_,_,_,_=>by unfold A.repAt;trivial
 | a :: ar,_,_,_,_,hm,h=>by
  unfold yL at hm;rw[Bool.and_eq_true] at hm;unfold A.repAt at h ⊢
  obtain⟨⟨u,h1,h2,h3⟩,h4⟩ := h
  exact⟨⟨u,hC _ _ _ h1,h2,pZ a hm.1 h3⟩,jer ar hm.2 h4⟩
theorem jeq:∀ (l:List A) {β:List Nat} {ρ:List Value} {us:List Value},yL l=true->A.repL l ⟨D,β,ρ⟩ us->A.repL l ⟨C,β,ρ⟩ us
 | [],_,_,_,_,h=>by unfold A.repL at h ⊢;exact h
 | a :: ar,_,_,_,hm,h=>by
  unfold yL at hm;rw[Bool.and_eq_true] at hm;unfold A.repL at h ⊢
  obtain⟨u,us',h1,h2,h3⟩ := h
  exact⟨u,us',h1,pZ a hm.1 h2,jeq ar hm.2 h3⟩
theorem jib:∀ (l:List A) {β:List Nat} {ρ:List Value} {us:List Value},yL l=true->A.repC l ⟨D,β,ρ⟩ us->A.repC l ⟨C,β,ρ⟩ us
 | [],_,_,_,_,h=>by unfold A.repC at h ⊢;exact h
 | a :: ar,_,_,_,hm,h=>by
  unfold yL at hm;rw[Bool.and_eq_true] at hm;unfold A.repC at h ⊢
  obtain⟨u,us',h1,h2,h3,h4⟩ := h
  exact⟨u,us',h1,h2,pZ a hm.1 h3,jib ar hm.2 h4⟩
end
end
def jcU:A->A
 | .agg l => .agg (l.map fun _ => .dead)
 | _ => .dead
theorem jcw {F:Env} : ∀ {us:List Value},(∀ u ∈ us,u.oneCell'=true) -> ∀ {l:List A},us.length=l.length->A.repC (l.map fun _=>A.dead) F us
 | [],_,[],_=>by simp[A.repC]
 | u :: us,h,a :: l,hl=>by
  rw[List.map_cons];unfold A.repC;exact⟨u,us,rfl,h u List.mem_cons_self,A.rep_dead _ _,jcw (fun v hv=>h v (List.mem_cons_of_mem _ hv)) (by simpa using hl)⟩
 | [],_,_ :: _,hl=>by simp at hl
 | _ :: _,_,[],hl=>by simp at hl
theorem jkC {a:A} {E F:Env} {y:Value} (h:a.rep E y):(jcU a).rep F y:=by
 cases a with
 | agg l =>
  unfold A.rep at h
  obtain⟨us,h1,h2⟩ := h
  unfold jcU A.rep;exact⟨us,h1,jcw (A.repC_one h2) (A.repC_len h2)⟩
 | _=>exact A.rep_dead _ _
theorem jcV {E F:Env} : ∀ {l:List A} {us:List Value},A.repL l E us->A.repL (l.map jcU) F us
 | [],us,h=>by unfold A.repL at h;subst h;simp[A.repL]
 | a :: r,us,h=>by
  unfold A.repL at h
  obtain⟨u,us',rfl,h2,h3⟩ := h
  rw[List.map_cons];unfold A.repL;exact⟨u,us',rfl,jkC h2,jcV h3⟩
section
variable {P:Program} {pan:List PanicEntry->S->Prop} {Xr:Nat->Bool} {f:Nat} {s:S} {K:A->S->Prop} {post:List (List A)->A->Prop}
theorem jrn (i g:Nat) {e n:Nat} {kA vs c0 c1:List A} {ks:List Value} {pn:List PanicEntry->Prop} (hX:Xr i=true) (hi:s.bx[i]? = some c0) (hg:s.rw[g]? = some (.live e 0 n [.clo 0 kA,.clo 0 vs])) (hkk:mC kA fun l=>l=ks) (h1:zR [i] s.rw c0=some c1)
  (hs:SpecP P f [c1] [.box 0 0,.mp ks (vs.map jcU)] post pn) (hno:∀ o r,post o r->(∀ c ∈ o,yL c=true)/\jb2 r=true)
  (hpn:∀ ch bx',pn ch->bx'.length=s.bx.length->(∀ j,j ≠ i->bx'[j]? = s.bx[j]?)->pan ch ⟨s.t,bx',s.rw⟩)
  (hk:∀ o r,post [o] r->oB [i] s.bx [i] [o] fun bx' => zM (back [i] r) fun r' => qB s.rw fun rw' => wD s bx' rw' (K r')):kX P pan Xr f [.box i 0,.own g] s K:=by
 unfold kX
 right;right;right;right;right
 refine⟨hs.1,fun w0 C0 β0 E w vals hp hargs => ?_⟩
 have hil:=(List.getElem?_eq_some_iff.1 hi).1
 unfold A.repL at hargs
 obtain⟨v0,us0,rfl,hv0,hargs⟩ := hargs
 unfold A.repL at hargs
 obtain⟨y,us1,rfl,hy,hargs⟩ := hargs
 unfold A.repL at hargs;subst hargs
 have hyg:E.ρ[g]? = some y:=by unfold A.rep at hy;exact hy
 obtain⟨r,es,c,us,rfl,hr,hn,hst,h2,hks,hvs⟩ := uV hp hg hyg
 obtain⟨ks',hke,hka⟩ := sE hkk
 subst hke
 obtain⟨hkeys,hok⟩ := hka E.per _ hks
 have hseeM:kS w ⟨r,0,some 0⟩ = some (.tuple #[.tuple ks'.toArray,.tuple us.toArray]):=by
  unfold kS bV;simp only[hr];rw[if_pos hst]
  have q1:es.map (·.key)=ks'.toArray:=by
   apply Array.toList_inj.1
   rw[<- hkeys];simp
  have q2:es.map (·.val)=us.toArray:=by
   apply Array.toList_inj.1
   rw[<- h2];simp
  rw[q1,q2]
 have hlen:(vs.map jcU).length=ks'.length:=by
  rw[List.length_map,<- A.repL_len hvs,<- h2,<- hkeys];simp
 have hno0:∀ o,kS w ⟨r,o,none⟩ = none:=fun o=>by
  unfold kS World.cell?
  simp[hr]
 have hcall:=jam (Cl:=fun vals w1 R=>w1=w->vals.toList[1]? = some (.map (some r))->Calls P f vals w R) (fun h k e1 e2=>Calls.mono (k e1 e2) fun e w' => h e w') (pan:=pan) (pn:=pn) (X:=[i]) (ids:=[]) (ins:=[c1]) (post:=post) (Xr:=Xr) (args:=[.box i 0,.dead]) (args':=[.box 0 0,.dead]) (vs:=[v0,.map (some r)]) (K:=K) hp
  (by
   unfold A.repL;refine⟨_,_,rfl,hv0,?_⟩;unfold A.repL
   exact⟨_,_,rfl,A.rep_dead _ _,by unfold A.repL;rfl⟩)
  (by simp) (by simpa using hX) (by simpa using hil)
  (by
   have:s.bx.getD i []=c0:=by simp[List.getD_eq_getElem?_getD,hi]
   simp only[List.map_cons,List.map_nil,this]
   show aS [i] s.rw [c0]=_
   simp only[aS,h1])
  (by
   show zR [i] s.rw [.box i 0,.dead]=_
   simp[zR,ren,idx])
  (fun _ w1 C β vals1 g0 g1 g2 g3 g4 g5 g6 hw hv => ?_)
  (fun outs r' hp' hl=>by
   obtain⟨o,rfl⟩ : ∃ o,outs=[o]:=List.length_eq_one_iff.1 (by simpa using hl)
   exact hk o r' hp')
  (fun ch bx' h h1 h2=>hpn ch bx' h h1 fun j hj=>h2 j (by simpa using hj))
 ·exact hcall rfl rfl
 ·subst hw
  obtain⟨b,rfl⟩ : ∃ b,β=[b]:=List.length_eq_one_iff.1 g4.symm
  have hbr:b ≠ r:=fun e=>by
   obtain⟨T,arr,hb,_⟩ := g5 0 b c1 rfl rfl
   rw[e,hr] at hb;cases hb
  obtain⟨C1,hC1⟩ : ∃ C1:Rd,C1=fun ad=>if ad.block=r then kS w1 ad else C ad:=⟨_,rfl⟩
  have sub1:Sub C C1:=fun ad u hc=>by
   rw[hC1]
   simp only
   split
   ·exact g1 ad u hc
   ·exact hc
  have sub2:Sub C1 (kS w1):=fun ad u hc=>by
   rw[hC1] at hc
   simp only at hc
   split at hc
   ·exact hc
   ·exact g1 ad u hc
  have hβ1:∀ b' ∈ [b],∀ o sp,C1 ⟨b',o,sp⟩ = none:=fun b' hb' o sp=>by
   have e:b'=b:=by simpa using hb'
   subst e;rw[hC1]
   simp only
   rw[if_neg hbr];exact g3 _ hb' o sp
  have le1:(⟨C,[b],[]⟩ : Env).le ⟨C1,[b],[]⟩ := ⟨sub1,fun _ _ h=>h,fun _ _ h=>h⟩
  unfold A.repL at g6
  obtain⟨p,l1,rfl,hp0,g6⟩ := g6
  unfold A.repL at g6
  obtain⟨q,l2,rfl,-,g6⟩ := g6
  unfold A.repL at g6;subst g6
  obtain rfl:q = .map (some r):=by simpa using hv
  have tr:∀ w',jql (qV C1 w1 w') (qV C w1 w'):=fun w' b' o u hc=>by
   unfold qV at hc ⊢
   split
   ·rename_i hlt
    rw[if_pos hlt,hC1] at hc
    simp only at hc
    split at hc
    ·rename_i hbr2
     subst hbr2;rw[hno0] at hc;cases hc
    ·exact hc
   ·rename_i hlt
    rw[if_neg hlt] at hc;exact hc
  refine (hs.2 w1 C1 [b] [p,.map (some r)] (g0.mono sub1) sub2 g2 hβ1 g4 (fun j b' cs hj hcs=>(g5 j b' cs hj hcs).mono le1) ?_).mono fun e' w' hh => ?_
  ·unfold A.repL;refine⟨_,_,rfl,A.rep.mono _ le1 hp0,?_⟩;unfold A.repL;refine⟨_,_,rfl,?_,by unfold A.repL;rfl⟩;unfold A.rep;refine⟨r,us,rfl,?_,hlen,jcV hvs,hok⟩;rw[hC1];simp only[if_true];exact hseeM
  ·rcases hh with ⟨outs,r',v,rfl,hpost,kp,k2,k3,k4⟩ | ⟨ch,ns,k1,k2,kp,k4,k5⟩
   ·obtain⟨n1,n2⟩ := hno _ _ hpost
    refine .inl ⟨outs,r',v,rfl,hpost,kp,k2,fun j b' cs hj hcs => ?_,pZ (tr w') r' n2 k4⟩
    obtain⟨T,arr,hh,hbc⟩ := k3 j b' cs hj hcs
    exact⟨T,arr,hh,jib (tr w') _ (jkM (n1 cs (List.mem_of_getElem? hcs))) hbc.1,hbc.2⟩
   ·refine .inr ⟨ch,ns,k1,k2,kp,k4,fun j b' n' hj hn' => ?_⟩
    obtain⟨T,arr,hh,hbc⟩ := k5 j b' n' hj hn'
    exact⟨T,arr,hh,.mk' (A.repC_mk (nX (jav hbc.1)) (by
     have:=A.repC_one hbc.1
     exact this))⟩
end
end
end Go.Proofs.YtfbkolllpencnaaGreatDoor.Vm
namespace Go.Proofs.YtfbkolllpencnaaGreatDoor.Vm
open Go.RowKit Go.Shelf
def haA (h:Int × Nt):Int × A:=(h.1,.agg (intA h.1 :: ntA h.2))
def vO (l:List (Int × Nt)):List (Int × A):=l.map haA
def heF (hs:List (Int × Nt)) (ts:List Tk):Ph:=match hnF ts with
 | .bad x e => .bad x e
 | .ok k r=>if hs.any (fun h=>decide (h.1=k))=true then .bad (hd ts).pos 4 else .ok k r
def phQ (p:Ph) (ch:List PanicEntry):Prop:=match p with
 | .bad x e=>ch=qP x e
 | _=>False
theorem dX {p:Ph} {x e:Int} {ch:List PanicEntry} (h:p = .bad x e) (k:ch=qP x e):phQ p ch:=by subst h;exact k
def hoQ (nm:List ByteArray) (p:Ph) (o:List (List A)) (r:A):Prop:=match p with
 | .ok k ts=>o=[fD nm ts]/\r=intA k
 | _=>False
def haD (h:Int × Nt):Int × A:=(h.1,.agg [.dead,.dead,.dead,.dead,.dead])
def pO (l:List (Int × Nt)):List (Int × A):=l.map haD
theorem jmG (l:List (Int × Nt)):uU (pO l)=uU (vO l):=by
 unfold uU pO vO;rw[List.map_map,List.map_map];rfl
theorem jmH (l:List (Int × Nt)):(oY (vO l)).map jcU=oY (pO l):=by
 unfold oY pO vO;rw[List.map_map,List.map_map,List.map_map];rfl
theorem i6 (g:Int × Nt->Int × A) (hg:∀ h,(g h).1=h.1) (hs:List (Int × Nt)) (k:Int):(hs.any (fun h=>decide (h.1=k))=true /\ ∃ h ∈ hs,h.1=k/\wJ (hs.map g) k=some (g h).2) ∨ (hs.any (fun h=>decide (h.1=k))=false/\wJ (hs.map g) k=none):=by
 induction hs with
 | nil=>exact .inr ⟨rfl,rfl⟩
 | cons h l ih =>
  by_cases e:h.1=k
  ·left
   refine⟨by rw[List.any_cons,j8 e];rfl,h,List.mem_cons_self,e,?_⟩;unfold wJ;rw[List.map_cons,List.find?_cons_of_pos (p:=fun p:Int × A=>decide (k=p.1)) (show decide (k=(g h).1)=true from j8 (by rw[hg];exact e.symm))];rfl
  ·have hf:wJ ((h :: l).map g) k=wJ (l.map g) k:=by
    unfold wJ;rw[List.map_cons,List.find?_cons_of_neg (p:=fun p:Int × A=>decide (k=p.1)) (show ¬ decide (k=(g h).1)=true by rw[jW (fun e2:k=(g h).1=>e (by rw[e2,hg]))];simp)]
   rw[hf,List.any_cons,jW e,Bool.false_or]
   rcases ih with ⟨h1,x,h2,h3,h4⟩ | ⟨h1,h2⟩
   ·exact .inl ⟨h1,x,List.mem_cons_of_mem _ h2,h3,h4⟩
   ·exact .inr ⟨h1,h2⟩
theorem jd2 {α:Type} (f:α->List A) (hf:∀ x,yL (f x)=true) (l:List α):yL (l.flatMap f)=true:=by
 rw[noMpL_iff];intro a ha
 obtain⟨x,_,hx⟩ := List.mem_flatMap.1 ha
 exact noMpL_iff.1 (hf x) a hx
theorem jmM (nm:List ByteArray) (ts:List Tk):yL (fD nm ts)=true:=by
 have h1:yL (y7 ts)=true:=jd2 sY (fun _=>rfl) ts
 have h2:yL (bA nm)=true:=by
  unfold bA;rw[jgm];exact jd2 (fun x=>[jY x]) (fun _=>rfl) nm
 refine noMpL_iff.2 fun a ha => ?_
 rcases List.mem_cons.1 ha with rfl | ha
 ·exact h1
 ·rw[List.mem_singleton.1 ha];exact h2
theorem jky (nm:List ByteArray) (hs:List (Int × Nt)) (ts:List Tk) (h:TkP ts) :
  SpecP Tryz.prog 70 [fD nm ts] [.box 0 0,.mp (uU (pO hs)) (oY (pO hs))] (hoQ nm (heF hs ts)) (phQ (heF hs ts)):=by
 obtain⟨P,hP⟩ : ∃ P,heF hs ts=P:=⟨_,rfl⟩
 rw[hP]
 have hpos:=h.pos
 have his:=fun s=>g9 nm ts hpos s
 have hnx:=wV nm ts hpos
 have hfl:=fun e=>gB nm ts hpos e
 have hps:=fun s (hs:qU s ts=true)=>h.is hs
 unfold heF hnF at hP;refine vK (wT jH jT 1 (fun ch _=>(phQ P) ch)) (fun _ _ h=>h) Tryz.func70 rfl (by kernel_rfl) rfl (by kernel_rfl) ?_;intro _;conv=>whnf
 refine zC 0 [] (his wStart) ?_;rintro o r ⟨ho,rfl⟩;cases ho;conv=>whnf
 cases hq1:qU wStart ts with
 | true =>
  rw[if_pos hq1] at hP
  simp only at hP
  obtain⟨q1,q2⟩ := hps _ hq1
  conv=>whnf
  refine zC 0 [] hnx ?_;rintro o r ⟨ho,rfl⟩;cases ho;conv=>whnf
  refine kF _ _ ?_
  rcases i6 haD (fun _=>rfl) hs (0) with ⟨hany,hx,hm,hek,hf⟩ | ⟨hany,hf⟩
  ·rw[show wJ (pO hs) _=_ from hf];rw[if_pos hany] at hP;conv=>whnf
   refine kT 0 [] (hfl 4) (fun ch bx' hp=>dX hP.symm hp) ?_;rintro o r ⟨⟩
  ·rw[show wJ (pO hs) _=_ from hf];rw[if_neg (by rw[hany];simp)] at hP;subst hP;conv=>whnf
   exact⟨rfl,rfl⟩
 | false =>
  rw[if_neg (by rw[hq1];simp)] at hP;conv=>whnf
  refine zC 0 [] (his wRequest) ?_;rintro o r ⟨ho,rfl⟩;cases ho;conv=>whnf
  cases hq2:qU wRequest ts with
  | true =>
   rw[if_pos hq2] at hP
   simp only at hP
   obtain⟨q1,q2⟩ := hps _ hq2
   conv=>whnf
   refine zC 0 [] hnx ?_;rintro o r ⟨ho,rfl⟩;cases ho;conv=>whnf
   refine kF _ _ ?_
   rcases i6 haD (fun _=>rfl) hs (1) with ⟨hany,hx,hm,hek,hf⟩ | ⟨hany,hf⟩
   ·rw[show wJ (pO hs) _=_ from hf];rw[if_pos hany] at hP;conv=>whnf
    refine kT 0 [] (hfl 4) (fun ch bx' hp=>dX hP.symm hp) ?_;rintro o r ⟨⟩
   ·rw[show wJ (pO hs) _=_ from hf];rw[if_neg (by rw[hany];simp)] at hP;subst hP;conv=>whnf
    exact⟨rfl,rfl⟩
  | false =>
   rw[if_neg (by rw[hq2];simp)] at hP;conv=>whnf
   refine zC 0 [] (his wTimer) ?_;rintro o r ⟨ho,rfl⟩;cases ho;conv=>whnf
   cases hq:qU wTimer ts with
   | true =>
    rw[if_pos hq] at hP
    obtain⟨q1,q2⟩ := hps _ hq
    have hnu:=lL nm ts.tail q1.pos 8
    have hnp:=q1.good
    generalize ts.tail=ts1 at *;conv=>whnf
    refine zC 0 [] hnx ?_;rintro o r ⟨ho,rfl⟩;cases ho;conv=>whnf
    refine kT 0 [] hnu (fun ch bx' hp => ?_) ?_
    ·unfold p7 at hP
     rcases hp with ⟨h1,h2⟩ | ⟨h1,h2,h3⟩
     ·rw[if_pos h1] at hP;exact dX hP.symm h2
     ·rw[if_neg (by rw[h1];simp),if_pos h2] at hP;exact dX hP.symm h3
    rintro o r ⟨⟨h1,h2⟩,ho,rfl⟩;cases ho;unfold p7 at hP;rw[if_neg (by rw[h1];simp),if_neg (by omega)] at hP
    simp only at hP
    have hn0:0<=(hd ts1).n:=hnp.2.2.2.1
    generalize hd ts1=t1 at *;conv=>whnf
    refine⟨jV (by omega),?_⟩;conv=>whnf
    refine kF _ _ ?_
    rcases i6 haD (fun _=>rfl) hs (2+t1.n) with ⟨hany,hx,hm,hek,hf⟩ | ⟨hany,hf⟩
    ·rw[show wJ (pO hs) _=_ from hf];rw[if_pos hany] at hP;conv=>whnf
     refine kT 0 [] (hfl 4) (fun ch bx' hp=>dX hP.symm hp) ?_;rintro o r ⟨⟩
    ·rw[show wJ (pO hs) _=_ from hf];rw[if_neg (by rw[hany];simp)] at hP;subst hP;conv=>whnf
     exact⟨rfl,rfl⟩
   | false =>
    rw[if_neg (by rw[hq];simp)] at hP;clear hq;conv=>whnf
    refine zC 0 [] (his wMessage) ?_;rintro o r ⟨ho,rfl⟩;cases ho;conv=>whnf
    cases hq:qU wMessage ts with
    | true =>
     rw[if_pos hq] at hP
     obtain⟨q1,q2⟩ := hps _ hq
     have hnu:=lL nm ts.tail q1.pos 30
     have hnp:=q1.good
     generalize ts.tail=ts1 at *;conv=>whnf
     refine zC 0 [] hnx ?_;rintro o r ⟨ho,rfl⟩;cases ho;conv=>whnf
     refine kT 0 [] hnu (fun ch bx' hp => ?_) ?_
     ·unfold p7 at hP
      rcases hp with ⟨h1,h2⟩ | ⟨h1,h2,h3⟩
      ·rw[if_pos h1] at hP;exact dX hP.symm h2
      ·rw[if_neg (by rw[h1];simp),if_pos h2] at hP;exact dX hP.symm h3
     rintro o r ⟨⟨h1,h2⟩,ho,rfl⟩;cases ho;unfold p7 at hP;rw[if_neg (by rw[h1];simp),if_neg (by omega)] at hP
     simp only at hP
     have hn0:0<=(hd ts1).n:=hnp.2.2.2.1
     generalize hd ts1=t1 at *;conv=>whnf
     refine⟨jV (by omega),?_⟩;conv=>whnf
     refine kF _ _ ?_
     rcases i6 haD (fun _=>rfl) hs (10+t1.n) with ⟨hany,hx,hm,hek,hf⟩ | ⟨hany,hf⟩
     ·rw[show wJ (pO hs) _=_ from hf];rw[if_pos hany] at hP;conv=>whnf
      refine kT 0 [] (hfl 4) (fun ch bx' hp=>dX hP.symm hp) ?_;rintro o r ⟨⟩
     ·rw[show wJ (pO hs) _=_ from hf];rw[if_neg (by rw[hany];simp)] at hP;subst hP;conv=>whnf
      exact⟨rfl,rfl⟩
    | false =>
     rw[if_neg (by rw[hq];simp)] at hP;conv=>whnf
     refine kT 0 [] (hfl 10) (fun ch bx' hp=>dX hP.symm hp) ?_;rintro o r ⟨⟩
end Go.Proofs.YtfbkolllpencnaaGreatDoor.Vm
namespace Go.Proofs.YtfbkolllpencnaaGreatDoor.Vm
open Go.RowKit
section
section
variable {C D:Rd} {y:Value} {k n:Nat} {cs:List A}
end
theorem js8 {w:World} {base e k n:Nat} {y:Value} {xs:List Value} {cs:List A} {D:Rd} (h:w.ownsRow base e k y n xs) (hr:A.repC cs ⟨D,[],[]⟩ xs) (hD:∀ b,y.ownBlock=some b -> ∀ o u,w.cell? ⟨b,o,none⟩ = some u->D ⟨b,o,none⟩ = some u):(A.sl k n cs).rep ⟨D,[],[]⟩ y:=by
 have hlen:cs.length=n*k:=by rw[<- A.repC_len hr,h.1]
 rcases h.2 with ⟨rfl,rfl⟩ | ⟨b,cap,cur,rfl,hb,hbb,hn,hcm,hcs,htake⟩
 ·unfold A.rep
  have hcs:cs=[]:=List.eq_nil_of_length_eq_zero (by simpa using hlen)
  subst hcs;exact⟨by simp,by simp,none,0,0,0,rfl,Nat.le_refl _,.inl rfl,fun _=>rfl,by simp[A.repAt]⟩
 ·unfold A.rep;refine⟨hlen,Nat.le_trans hn hcm,_,b,0,cap,rfl,hn,.inr rfl,by simp,?_⟩;refine A.repAt_mk (E:=⟨D,[],[]⟩) hr (fun j' u hu => ?_)
  have:=h.cells (g:=b) rfl j' u hu
  rw[jdP] at this;exact hD b rfl _ u this
end
end Go.Proofs.YtfbkolllpencnaaGreatDoor.Vm
namespace Go.Proofs.YtfbkolllpencnaaGreatDoor.Vm
open Go.RowKit Go.Shelf Go.Maps Go.Sort
def aO:Go.Shelf.Ren:=⟨fun | 7=>73 | 10=>98 | n=>n,fun | 3=>51 | 23=>129 | 26=>3 | 27=>133 | 28=>134 | 33=>156 | n=>n,fun | n=>n⟩
theorem fY:SlLaysZI.n7 Tryz.prog aO where
 mixed:=by kernel_rfl
 f7:=⟨ "maps.Keys[map[int]simproof/api.Handler,int,simproof/api.Handler]",of_decide_eq_true (by kernel_rfl),Tryz.func73.trans (congrArg some (by kernel_rfl))⟩
 f10:=⟨ "maps.Keys[map[int]simproof/api.Handler,int,simproof/api.Handler]$1",of_decide_eq_true (by kernel_rfl),Tryz.func98.trans (congrArg some (by kernel_rfl))⟩
 t0:=Tryz.underlying0
 a0:=Tryz.isAgg0
 z0:=Tryz.sizeOf0
 v0:=Tryz.zeroValue0
 t4:=Tryz.underlying4
 a4:=Tryz.isAgg4
 z4:=Tryz.sizeOf4
 v4:=Tryz.zeroValue4
 t23:=Tryz.underlying129
 a23:=Tryz.isAgg129
 z23:=Tryz.sizeOf129
 v23:=Tryz.zeroValue129
 t26:=Tryz.underlying3
 a26:=Tryz.isAgg3
 z26:=Tryz.sizeOf3
 v26:=Tryz.zeroValue3
 t27:=Tryz.underlying133
 a27:=Tryz.isAgg133
 z27:=Tryz.sizeOf133
 v27:=Tryz.zeroValue133
 t28:=Tryz.underlying134
 a28:=Tryz.isAgg134
 z28:=Tryz.sizeOf134
 v28:=Tryz.zeroValue134
 t33:=Tryz.underlying156
 a33:=Tryz.isAgg156
 z33:=Tryz.sizeOf156
 v33:=Tryz.zeroValue156

def aN:Go.Shelf.Ren:=⟨fun | 6=>72 | 8=>96 | 9=>97 | 11=>112 | 12=>113 | 13=>114 | 14=>139 | 15=>140 | 16=>141 | 17=>142 | 18=>143 | 19=>144 | 20=>145 | 21=>146 | 22=>147 | 23=>148 | 24=>116 | 25=>156 | 26=>157 | 27=>158 | 28=>159 | 29=>160 | 30=>161 | 31=>169 | n=>n,fun | 24=>22 | 26=>3 | 28=>134 | 33=>156 | 37=>174 | 39=>188 | 40=>189 | 45=>93 | 48=>177 | 50=>147 | 51=>201 | 55=>205 | 57=>215 | 58=>216 | n=>n,fun | n=>n⟩
theorem jaW:SlLaysZI.n6 Tryz.prog aN where
 mixed:=by kernel_rfl
 f6:=⟨ "slices.Sorted[int]",of_decide_eq_true (by kernel_rfl),Tryz.func72.trans (congrArg some (by kernel_rfl))⟩
 f8:=⟨ "slices.Collect[int]",of_decide_eq_true (by kernel_rfl),Tryz.func96.trans (congrArg some (by kernel_rfl))⟩
 f11:=⟨ "slices.AppendSeq[[]int,int]",of_decide_eq_true (by kernel_rfl),Tryz.func112.trans (congrArg some (by kernel_rfl))⟩
 t0:=Tryz.underlying0
 a0:=Tryz.isAgg0
 z0:=Tryz.sizeOf0
 v0:=Tryz.zeroValue0
 t24:=Tryz.underlying22
 a24:=Tryz.isAgg22
 z24:=Tryz.sizeOf22
 v24:=Tryz.zeroValue22
 t26:=Tryz.underlying3
 a26:=Tryz.isAgg3
 z26:=Tryz.sizeOf3
 v26:=Tryz.zeroValue3
 t28:=Tryz.underlying134
 a28:=Tryz.isAgg134
 z28:=Tryz.sizeOf134
 v28:=Tryz.zeroValue134
 i26:=by kernel_rfl

def pU:Go.Shelf.Ren:=⟨fun | 5=>97 | 7=>113 | 8=>114 | 10=>139 | 11=>140 | 12=>141 | 13=>142 | 14=>143 | 15=>144 | 16=>145 | 17=>146 | 18=>147 | 19=>148 | 20=>116 | 30=>156 | 31=>157 | 32=>158 | 33=>159 | 34=>160 | 35=>161 | 40=>169 | n=>n,fun | 23=>22 | 25=>3 | 32=>174 | 35=>188 | 36=>189 | 41=>93 | 44=>177 | 46=>147 | 53=>201 | 57=>205 | 63=>215 | 64=>216 | n=>n,fun | n=>n⟩
theorem mD:SlLaysM.n5 Tryz.prog pU where
 mixed:=by kernel_rfl
 f5:=⟨ "slices.Sort[[]int,int]",of_decide_eq_true (by kernel_rfl),Tryz.func97.trans (congrArg some (by kernel_rfl))⟩
 f7:=⟨ "slices.pdqsortOrdered[int]",of_decide_eq_true (by kernel_rfl),Tryz.func113.trans (congrArg some (by kernel_rfl))⟩
 f8:=Tryz.func114.trans (congrArg some (by kernel_rfl))
 f10:=⟨ "slices.insertionSortOrdered[int]",of_decide_eq_true (by kernel_rfl),Tryz.func139.trans (congrArg some (by kernel_rfl))⟩
 f11:=⟨ "slices.heapSortOrdered[int]",of_decide_eq_true (by kernel_rfl),Tryz.func140.trans (congrArg some (by kernel_rfl))⟩
 f12:=⟨ "slices.breakPatternsOrdered[int]",of_decide_eq_true (by kernel_rfl),Tryz.func141.trans (congrArg some (by kernel_rfl))⟩
 f13:=⟨ "slices.choosePivotOrdered[int]",of_decide_eq_true (by kernel_rfl),Tryz.func142.trans (congrArg some (by kernel_rfl))⟩
 f14:=⟨ "slices.reverseRangeOrdered[int]",of_decide_eq_true (by kernel_rfl),Tryz.func143.trans (congrArg some (by kernel_rfl))⟩
 f15:=⟨ "slices.partialInsertionSortOrdered[int]",of_decide_eq_true (by kernel_rfl),Tryz.func144.trans (congrArg some (by kernel_rfl))⟩
 f16:=⟨ "cmp.Less[int]",of_decide_eq_true (by kernel_rfl),Tryz.func145.trans (congrArg some (by kernel_rfl))⟩
 f17:=⟨ "slices.partitionEqualOrdered[int]",of_decide_eq_true (by kernel_rfl),Tryz.func146.trans (congrArg some (by kernel_rfl))⟩
 f18:=⟨ "slices.partitionOrdered[int]",of_decide_eq_true (by kernel_rfl),Tryz.func147.trans (congrArg some (by kernel_rfl))⟩
 f19:=Tryz.func148.trans (congrArg some (by kernel_rfl))
 f20:=Tryz.func116.trans (congrArg some (by kernel_rfl))
 f30:=⟨ "slices.siftDownOrdered[int]",of_decide_eq_true (by kernel_rfl),Tryz.func156.trans (congrArg some (by kernel_rfl))⟩
 f31:=Tryz.func157.trans (congrArg some (by kernel_rfl))
 f32:=Tryz.func158.trans (congrArg some (by kernel_rfl))
 f33:=⟨ "slices.medianAdjacentOrdered[int]",of_decide_eq_true (by kernel_rfl),Tryz.func159.trans (congrArg some (by kernel_rfl))⟩
 f34:=⟨ "slices.medianOrdered[int]",of_decide_eq_true (by kernel_rfl),Tryz.func160.trans (congrArg some (by kernel_rfl))⟩
 f35:=⟨ "cmp.isNaN[int]",of_decide_eq_true (by kernel_rfl),Tryz.func161.trans (congrArg some (by kernel_rfl))⟩
 f40:=⟨ "slices.order2Ordered[int]",of_decide_eq_true (by kernel_rfl),Tryz.func169.trans (congrArg some (by kernel_rfl))⟩
 t0:=Tryz.underlying0
 a0:=Tryz.isAgg0
 z0:=Tryz.sizeOf0
 v0:=Tryz.zeroValue0
 t3:=Tryz.underlying3
 a3:=Tryz.isAgg3
 z3:=Tryz.sizeOf3
 v3:=Tryz.zeroValue3
 t4:=Tryz.underlying4
 a4:=Tryz.isAgg4
 z4:=Tryz.sizeOf4
 v4:=Tryz.zeroValue4
 t5:=Tryz.underlying5
 a5:=Tryz.isAgg5
 z5:=Tryz.sizeOf5
 v5:=Tryz.zeroValue5
 t9:=Tryz.underlying9
 a9:=Tryz.isAgg9
 z9:=Tryz.sizeOf9
 v9:=Tryz.zeroValue9
 t22:=Tryz.underlying22
 a22:=Tryz.isAgg22
 z22:=Tryz.sizeOf22
 v22:=Tryz.zeroValue22
 t23:=Tryz.underlying22
 a23:=Tryz.isAgg22
 z23:=Tryz.sizeOf22
 v23:=Tryz.zeroValue22
 t25:=Tryz.underlying3
 a25:=Tryz.isAgg3
 z25:=Tryz.sizeOf3
 v25:=Tryz.zeroValue3
 t32:=Tryz.underlying174
 a32:=Tryz.isAgg174
 z32:=Tryz.sizeOf174
 v32:=Tryz.zeroValue174
 t35:=Tryz.underlying188
 a35:=Tryz.isAgg188
 z35:=Tryz.sizeOf188
 v35:=Tryz.zeroValue188
 t36:=Tryz.underlying189
 a36:=Tryz.isAgg189
 z36:=Tryz.sizeOf189
 v36:=Tryz.zeroValue189
 t41:=Tryz.underlying93
 a41:=Tryz.isAgg93
 z41:=Tryz.sizeOf93
 v41:=Tryz.zeroValue93
 t44:=Tryz.underlying177
 a44:=Tryz.isAgg177
 z44:=Tryz.sizeOf177
 v44:=Tryz.zeroValue177
 t46:=Tryz.underlying147
 a46:=Tryz.isAgg147
 z46:=Tryz.sizeOf147
 v46:=Tryz.zeroValue147
 t53:=Tryz.underlying201
 a53:=Tryz.isAgg201
 z53:=Tryz.sizeOf201
 v53:=Tryz.zeroValue201
 t57:=Tryz.underlying205
 a57:=Tryz.isAgg205
 z57:=Tryz.sizeOf205
 v57:=Tryz.zeroValue205
 t63:=Tryz.underlying215
 a63:=Tryz.isAgg215
 z63:=Tryz.sizeOf215
 v63:=Tryz.zeroValue215
 t64:=Tryz.underlying216
 a64:=Tryz.isAgg216
 z64:=Tryz.sizeOf216
 v64:=Tryz.zeroValue216

def jjC:Nat:=98
theorem ji1 (ks:List Value) (vs:List A):jlr Tryz.prog 73 [.mp ks vs] fun e k n cs r=>e=129/\k=1/\n=1/\cs=[.mp ks vs]/\r = .clo jjC [.orow 0 0]:=by
 refine⟨nR Tryz.func73 rfl (by kernel_rfl),fun w C vals h0 h1 h2 => ?_⟩;unfold A.repL at h2
 obtain⟨u,us,rfl,h3,h4⟩ := h2
 unfold A.repL at h4;subst h4
 have h3':=h3
 unfold A.rep at h3
 obtain⟨r,us,rfl,hC,hlen,hvs,hok⟩ := h3
 refine ((callsIn_wide (n:=6)).1 (AnyZI.keys_in fY Fence.wide 6 trivial rfl (some r) w)).mono ?_;rintro e w' ⟨rfl,rfl⟩
 have hB:Ext w (w.alloc (.cells #[.map (some r)] 129)):=(Below.refl _ w).alloc (Nat.le_refl _) _
 have kp:=Keeps.of_ext hB
 refine⟨_,_,_,_,_,_,.slice (some ⟨w.heap.size,0,none⟩) 1 1,[.map (some r)],C,rfl,⟨rfl,rfl,rfl,rfl,rfl⟩,kp,Sub.refl _,fun ad u hc => ?_,fun ad u hc => .inl hc,fun b hb => ?_,.inl ⟨by decide,?_⟩,?_,?_⟩
 ·refine kp.cell (h1 ad u hc) (fun hm=>by simp at hm)
 ·obtain rfl:w.heap.size=b:=by simpa [blk] using hb
  refine⟨fun o sp => ?_,Nat.le_refl _⟩
  cases hc:C ⟨w.heap.size,o,sp⟩ with
  | none=>rfl
  | some u =>
   have:=qH w _ (h1 _ _ hc)
   simp at this
 ·refine⟨rfl,.inr ⟨w.heap.size,1,#[.map (some r)],rfl,Nat.zero_le _,World.alloc_heap_new w _,Nat.le_refl _,by unfold maxLen;omega,rfl,rfl⟩⟩
 ·unfold A.repC;exact⟨_,[],rfl,rfl,h3',by unfold A.repC;rfl⟩
 ·unfold A.rep;refine⟨#[.pointer (some ⟨w.heap.size,0,none⟩)],rfl,?_⟩;unfold A.repL;refine⟨_,[],rfl,?_,by unfold A.repL;rfl⟩;unfold A.rep;exact⟨w.heap.size,1,1,rfl,rfl⟩
theorem jsM (m:Nat):AnyZI.SortsIn Tryz.prog aN Fence.wide m :=
 ⟨fun blk off cap ss W hH hblk hsz=>callsIn_wide.2 (AnyM.slices_Sort_int mD blk off cap ss W hH hblk hsz),
 fun p cap W=>callsIn_wide.2 (AnyM.slices_Sort_int_none mD p cap W)⟩
theorem jkT {w:World} {r c:Nat} {es:Array MapEntry} {l:List (Int × A)} (hr:w.heap[r]? = some (.map es c)) (hst:eK es c) (hk:es.toList.map (·.key)=uU l) (hok:∀ k ∈ uU l,fF k) (hnd:(l.map (·.1)).Nodup) (hn:l.length<=1000000) :
  ∃ D0:DataW Unit,w.ownsMap Tryz.prog 3 (fun _=>some (.nil,[])) r l.length D0/\(intKeys D0).Perm (l.map (·.1))/\Maps.size D0=l.length:=by
 have hu:Tryz.prog.underlying 3=some (.int .i64):=by kernel_rfl
 have hlen:es.size=l.length:=by
  have:=congrArg List.length hk
  unfold uU at this
  simpa using this
 have hkey:∀ x ∈ es.toList,∃ a:Int,x.key = .int .i64 a/\(Lit.int .i64 a).wf=true:=fun x hx=>by
  have h1:x.key ∈ uU l:=by rw[<- hk];exact List.mem_map.2 ⟨x,hx,rfl⟩
  have h2:=hok _ h1
  unfold uU at h1
  obtain⟨p,_,hp⟩ := List.mem_map.1 h1
  rw[<- hp] at h2;refine⟨p.1,hp.symm,?_⟩
  have:=okV_int.1 h2
  simp[Lit.wf]
  exact this
 have hrd:∀ x ∈ es.toList,∀ a:Int,x.key = .int .i64 a->(Lit.int .i64 a).wf=true->WideElems.rd Tryz.prog 3 (fun _=>some ((DataW.nil:DataW Unit),([]:List MemPlace))) x=some (.int .i64 a,.nil):=fun x hx a h1 h2=>by
  unfold WideElems.rd;rw[h1,keyOf_int_mk hu h2];rfl
 have hrg:es.toList.map (fun x=>Go.intOf (WideElems.rg Tryz.prog 3 (fun _=>some ((DataW.nil:DataW Unit),([]:List MemPlace))) x).1)=l.map (·.1):=by
  have h1:es.toList.map (fun x=>Go.intOf (WideElems.rg Tryz.prog 3 (fun _=>some ((DataW.nil:DataW Unit),([]:List MemPlace))) x).1)=(es.toList.map (·.key)).map fun v=>match v with | .int _ a=>a | _=>0:=by
   rw[List.map_map]
   refine List.map_congr_left fun x hx => ?_
   obtain⟨a,e1,e2⟩ := hkey x hx
   rw[WideElems.rg_of (hrd x hx a e1 e2)]
   simp[Go.intOf,e1]
  rw[h1,hk];unfold uU;rw[List.map_map]
  exact List.map_congr_left fun p hp=>rfl
 have hfit:WideElems.Fit Tryz.prog 3 (fun _=>some ((DataW.nil:DataW Unit),([]:List MemPlace))) es c:=by
  refine⟨by rw[hlen];unfold maxLen;omega,⟨?_,?_,?_⟩,fun x hx => ?_⟩
  ·intro x hx
   obtain⟨i,hi,e⟩ := List.mem_iff_getElem.1 hx
   have hi':i<es.size:=by simpa using hi
   have h2:=hst.2 i es[i] (Array.getElem?_eq_getElem hi')
   have e':es[i]=x:=by rw[<- e];simp
   rw[<- e',h2,hst.1];exact hi'
  ·have h2:es.toList.map (·.born)=List.range es.size:=by
    apply List.ext_getElem?
    intro i;rw[List.getElem?_map,Array.getElem?_toList]
    by_cases hi:i<es.size
    ·rw[Array.getElem?_eq_getElem hi,List.getElem?_range hi];simp only[Option.map_some];rw[hst.2 i es[i] (Array.getElem?_eq_getElem hi)]
    ·rw[Array.getElem?_eq_none (by omega),List.getElem?_eq_none (by simp;omega)];rfl
   rw[h2];exact List.nodup_range
  ·rw[hk];unfold uU
   have:(l.map fun p:Int × A=>Value.int .i64 p.1)=(l.map (·.1)).map (Value.int .i64):=by rw[List.map_map];rfl
   rw[this];exact List.pairwise_map.2 (hnd.imp fun h e=>h (by cases e;rfl))
  ·obtain⟨a,e1,e2⟩ := hkey x hx
   exact⟨_,hrd x hx a e1 e2⟩
 refine⟨_,⟨es,c,hr,hfit,by omega,rfl⟩,?_,?_⟩
 ·show (List.map (fun p:Lit × DataW Unit=>Go.intOf p.1) _).Perm _
  refine ((WideShapes.sorted_perm _).map _).trans ?_;rw[List.map_map];exact List.Perm.of_eq hrg
 ·show (List.foldr DataW.insert [] _).length=_
  rw[(WideShapes.sorted_perm _).length_eq,List.length_map,Array.length_toList,hlen]
theorem jrp {P:Program} {pan:List PanicEntry->S->Prop} {Xr:Nat->Bool} {f:Nat} {args args':List A} {s:S} {K:A->S->Prop} {post:List (List A)->Nat->List A->A->Prop} (g m:Nat) (ids:List Nat) (hm:s.rw.length=m) {e k n:Nat} {cs:List A} (hf:Xr 1000000007=true) (hg:(jC s.rw ids)[g]? = some (.live e k n cs)) (h2:kC [] g (jC s.rw ids) args=some args') (hs:nW args'->fK P f [] e k n cs args' post)
  (hk:∀ n' cs' r,post [] n' cs' r->fA [] m s.bx [] [] fun bx' => zM (backG [] m r) fun r' => qB ((jC s.rw ids).set g .gone++[.live e k n' cs']) fun rw' => wD s bx' rw' (K r')):kX P pan Xr f args s K:=by
 subst hm;unfold kX
 right;right;right;right;left
 refine⟨hf,[],ids,g,e,k,n,cs,[],args',post,fun _=>False,by simp,by simp,by simp,hg,rfl,h2,hs,fun outs n' cs' r hp hl => ?_,fun ch bx' h=>h.elim⟩
 obtain rfl:outs=[]:=List.eq_nil_of_length_eq_zero (by simpa using hl)
 exact hk n' cs' r hp
theorem jeQ (l:List (Int × A)) (hnd:(l.map (·.1)).Nodup) (hn:l.length<=1000000):fK Tryz.prog 72 [] 129 1 1 [.mp (uU l) (oY l)] [.clo jjC [.orow 0 0]] fun o n' cs' r=>r = .sl 1 l.length (((l.map (·.1)).mergeSort leI).map intA):=by
 refine⟨nR Tryz.func72 rfl (by kernel_rfl),fun w C β vals y xs h0 h1 h2 h3 h4 h5 h6 h7 h8 h9 => ?_⟩
 obtain rfl:β=[]:=List.eq_nil_of_length_eq_zero (by simpa using h4.symm)
 unfold A.repL at h9
 obtain⟨v,vs',rfl,hv,h9⟩ := h9
 unfold A.repL at h9;subst h9;unfold A.rep at hv
 obtain⟨us,rfl,hus⟩ := hv
 unfold A.repL at hus
 obtain⟨p,us',hus,hp,h9⟩ := hus
 unfold A.repL at h9;subst h9
 obtain rfl:us = #[p]:=by apply Array.toList_inj.1;simpa using hus
 unfold A.rep at hp
 obtain⟨b,n1,cap1,hy,rfl⟩ := hp
 obtain rfl:y = .slice (some ⟨b,0,none⟩) n1 cap1:=by simpa using hy
 have hrow:=h6.row (by decide)
 unfold A.repC at h7
 obtain⟨u,us',rfl,-,hu,h7⟩ := h7
 unfold A.repC at h7;subst h7;unfold A.rep at hu
 obtain⟨r,us,rfl,hC,hlen,hvs,hok⟩ := hu
 obtain⟨es,c,hr,hk1,hk2,hst⟩ := u5 (h1 _ _ hC)
 obtain⟨D0,hown,hperm,hsize⟩ := jkT hr hst hk1 hok hnd hn
 have hcell:w.cell? ⟨b,0,none⟩ = some (.map (some r)):=by
  rcases hrow.2 with ⟨h,_⟩ | ⟨g,cap,cur,h,_,hb,_,_,_,htake⟩
  ·cases h
  ·cases h
   have h0:cur[0]? = some (.map (some r)):=by
    have:=congrArg (·[0]?) htake
    simpa using this
   simp[World.cell?,hb,h0]
 have hbl:b<w.heap.size:=h6.lt rfl
 have hseq:SeqGives Fence.wide 2 Tryz.prog jjC #[.pointer (some ⟨b,0,none⟩)] encZ (fun ss=>ss.Perm (intKeys D0)) (Maps.size D0) w :=
  AnyZI.keys_gives (ρ:=aO) { fY with } Fence.wide _ trivial rfl (by omega) b r l.length D0 w hbl hcell hown
 have cS:=AnyZI.sorted_in jaW Fence.wide 5 trivial trivial trivial trivial rfl (by omega) (jsM _) (enters_of Tryz.func97 (by kernel_rfl) rfl) jjC #[.pointer (some ⟨b,0,none⟩)] trivial (enters_of Tryz.func98 (by kernel_rfl) rfl) _ _ (by rw[hsize];unfold maxLen;omega) (by rw[hsize];omega) _ hseq
 refine (callsIn_wide.1 cS).mono ?_;rintro e w' ⟨v,ss,rfl,hS,hrw,hnil,hB⟩
 have hB:Ext w w':=hB
 have kp:=Keeps.of_ext hB
 have hpm:ss.mergeSort (fun x y=>decide (x<=y))=(l.map (·.1)).mergeSort leI:=mergeSort_of_perm_i (hS.trans hperm)
 have hlen2:ss.length=l.length:=by rw[(hS.trans hperm).length_eq,List.length_map]
 rw[hpm,hlen2] at hrw;refine .inl ⟨[],1,[.mp (uU l) (oY l)],_,v,_,[.map (some r)],qV C w w',rfl,rfl,⟨kp.os,kp.tape,kp.output,kp.size,fun q hq hn=>kp.block q hq (by simp)⟩,vL h1,cW h1 h3 kp,fun ad u hc => ?_,rfl,fun i b cs hb=>by simp at hb,h6.same fun q hq=>kp.block q (h6.lt hq) (by simp),?_,fun q hq=>⟨fun o sp => ?_,.inr hq⟩,?_⟩
 ·unfold qV at hc
  split at hc
  ·exact .inl hc
  ·exact .inr (.inl (by omega))
 ·unfold A.repC;refine⟨_,[],rfl,rfl,?_,by unfold A.repC;rfl⟩;unfold A.rep;exact⟨r,us,rfl,vL h1 _ _ hC,hlen,A.repL.mono _ (show (⟨C,[],[]⟩ : Env).per.le (⟨qV C w w',[],[]⟩ : Env).per from ⟨vL h1,fun _ _ h=>h,fun _ _ h=>h⟩) hvs,hok⟩
 ·unfold qV;rw[if_pos (show (⟨q,o,sp⟩ : Addr).block<w.heap.size from h6.lt hq)];exact (h8 q hq).2 o sp
 ·refine A.rep.mono _ (jjk (qV C w w') [] _) (js8 hrw (D:=qV C w w') ?_ fun b' hb o u hc => ?_)
  ·refine A.repC_mk ?_ (fun u hu => ?_)
   ·have:=A.repL_map (E:=⟨qV C w w',[],[]⟩) ((l.map (·.1)).mergeSort leI) intA encZ (fun x hx => ?_)
    ·exact this
    ·refine A.rep_v (okV_int.2 ?_)
     have hx':x ∈ l.map (·.1):=(List.mergeSort_perm _ _).mem_iff.1 hx
     obtain⟨p,hp,rfl⟩ := List.mem_map.1 hx'
     exact okV_int.1 (hok _ (by unfold uU;exact List.mem_map.2 ⟨p,hp,rfl⟩))
   ·obtain⟨x,_,rfl⟩ := List.mem_map.1 hu
    rfl
  ·unfold qV
   have:=(hrw.lt b' hb).1
   rw[if_neg (by simp only;omega)];exact jbp hc
theorem sC (h:Int × Nt):∀ l:List (Int × Nt),(jaR h l).Perm (h :: l)
 | []=>List.Perm.refl _
 | x :: l=>by
  unfold jaR
  split
  ·exact List.Perm.refl _
  ·exact ((sC h l).cons x).trans (List.Perm.swap h x l)
theorem oP:∀ l:List (Int × Nt),(vS l).Perm l
 | []=>List.Perm.refl _
 | h :: l=>(sC h (vS l)).trans ((oP l).cons h)
theorem tN (h:Int × Nt):∀ l:List (Int × Nt),l.Pairwise (fun a b=>a.1<=b.1)->(jaR h l).Pairwise fun a b=>a.1<=b.1
 | [],_=>by unfold jaR;simp
 | x :: l,hp=>by
  obtain⟨h1,h2⟩ := List.pairwise_cons.1 hp
  unfold jaR
  split
  ·rename_i hx
   refine List.pairwise_cons.2 ⟨fun b hb => ?_,hp⟩
   rcases List.mem_cons.1 hb with rfl | hb
   ·exact hx
   ·exact Int.le_trans hx (h1 b hb)
  ·rename_i hx
   refine List.pairwise_cons.2 ⟨fun b hb => ?_,tN h l h2⟩
   rcases List.mem_cons.1 ((sC h l).mem_iff.1 hb) with rfl | hb
   ·omega
   ·exact h1 b hb
theorem rE:∀ l:List (Int × Nt),(vS l).Pairwise fun a b=>a.1<=b.1
 | []=>List.Pairwise.nil
 | h :: l=>tN h _ (rE l)
theorem jiL (l:List (Int × Nt)):((vO l).map (·.1)).mergeSort leI=(vS l).map (·.1):=by
 have e:(vO l).map (·.1)=l.map (·.1):=by unfold vO;rw[List.map_map];rfl
 rw[e]
 have tr:∀ a b c:Int,leI a b=true->leI b c=true->leI a c=true:=fun a b c h1 h2=>by simp only[leI,decide_eq_true_eq] at *;exact Int.le_trans h1 h2
 have to:∀ a b:Int,(leI a b || leI b a)=true:=fun a b=>by simp only[leI,Bool.or_eq_true,decide_eq_true_eq];exact Int.le_total a b
 refine List.Perm.eq_of_pairwise (le:=fun a b=>leI a b=true) (fun a b _ _ h1 h2 => ?_) (List.pairwise_mergeSort tr to _) ?_ ((List.mergeSort_perm _ leI).trans ((oP l).map _).symm)
 ·simp only[leI,decide_eq_true_eq] at h1 h2;exact Int.le_antisymm h1 h2
 ·exact List.pairwise_map.2 ((rE l).imp fun h=>by simpa [leI] using h)
theorem jid (l:List (Int × Nt)):((vO l).map (·.1)).Nodup ↔ (l.map (·.1)).Nodup:=by
 have e:(vO l).map (·.1)=l.map (·.1):=by unfold vO;rw[List.map_map];rfl
 rw[e]
theorem jme {l:List (Int × Nt)} (hnd:(l.map (·.1)).Nodup) {h:Int × Nt} (hm:h ∈ l):wJ (vO l) h.1=some (haA h).2:=by
 induction l with
 | nil=>simp at hm
 | cons x l ih =>
  rw[List.map_cons,List.nodup_cons] at hnd;unfold wJ vO;rw[List.map_cons]
  rcases List.mem_cons.1 hm with rfl | hm
  ·rw[List.find?_cons_of_pos (p:=fun p:Int × A=>decide (h.1=p.1)) (show decide (h.1=(haA h).1)=true from j8 rfl)];rfl
  ·have hne:h.1 ≠ x.1:=fun e=>hnd.1 (by rw[<- e];exact List.mem_map.2 ⟨h,hm,rfl⟩)
   rw[List.find?_cons_of_neg (p:=fun p:Int × A=>decide (h.1=p.1)) (show ¬ decide (h.1=(haA x).1)=true by rw[jW (show ¬ h.1=(haA x).1 from hne)];simp)];exact ih hnd.2 hm
def hnA (h:Int × Nt):List A:=intA h.1 :: ntA h.2
@[irreducible] def dP (l:List (Int × Nt)):List A:=l.flatMap hnA
theorem jfU:dP []=[]:=by unfold dP;rfl
theorem jcH (l:List (Int × Nt)) (h:Int × Nt):dP (l++[h])=dP l++hnA h:=by
 unfold dP;rw[List.flatMap_append,List.flatMap_cons,List.flatMap_nil,List.append_nil]
theorem jdj (l:List (Int × Nt)) (i:Nat) (hi:i<l.length):jJ 5 i (dP l)=hnA l[i]:=by
 unfold dP;exact gE hnA (fun _=>rfl) l i hi
theorem jkv (l:List (Int × Nt)) (k:Int) (b:Nt):vO l++[(k,.agg (intA k :: ntA b))]=vO (l++[(k,b)]):=by
 unfold vO;rw[List.map_append];rfl
def utA (u:Ut):List A:=[.sl 1 u.du.length (bA u.du),.sl 1 u.vo.length (bA u.vo),.sl 5 u.on.length (dP u.on)]
def puQ (p:PU) (ch:List PanicEntry):Prop:=match p with
 | .bad x e=>ch=qP x e
 | _=>False
theorem oG {p:PU} {x e:Int} {ch:List PanicEntry} (h:p = .bad x e) (k:ch=qP x e):puQ p ch:=by subst h;exact k
def uoQ (p:PU) (r:A):Prop:=match p with
 | .ok u=>r = .agg (utA u)
 | _=>False
def ju8 (id:Nat):Tr:=match Nat.beq id 4 || Nat.beq id 5 with
 | true => .q 0 3 (.q 2 3 (.alt 1 2 (.alt 3 2 (.alt 4 2 (.q 5 3 (.alt 6 2 .nil .nil)) .nil) .nil) (.alt 3 2 (.alt 1 2 (.alt 4 2 (.q 5 3 (.alt 6 2 .nil .nil)) .nil) .nil) .nil)))
 | false => .nil
theorem vX:∀ (n:Nat) (nm out:List ByteArray) (ts:List Tk) (nm' out':List ByteArray) (r:List Tk),TkP ts->(hd ts).kind ≠ 0->nm.length<=16->cB n nm out ts = .ok nm' out' r->TkP r/\r.length<ts.length/\nm'.length<=16/\out'.length+r.length<=out.length+ts.length
 | 0,nm,out,ts,nm',out',r,h,hk,h16,e=>by cases e
 | n+1,nm,out,ts,nm',out',r,h,hk,h16,e=>by
  rw[uO] at e
  obtain⟨q1,q2⟩ := h.tail hk
  by_cases hn:xK ts.tail=false
  ·rw[if_pos hn] at e;cases e
  rw[if_neg hn] at e
  by_cases hh:kP nm (hd ts.tail).text=true
  ·rw[if_pos hh] at e;cases e
  rw[if_neg hh] at e
  by_cases h6:nm.length=16
  ·rw[if_pos h6] at e;cases e
  rw[if_neg h6] at e
  obtain⟨q3,q4⟩ := q1.tail (by rw[aD (by simpa using hn)];decide)
  unfold deH at e
  by_cases hc:qU pComma ts.tail.tail=true
  ·rw[if_pos hc] at e
   obtain⟨g1,g2,g3,g4⟩ := vX n _ _ _ _ _ _ q3 (vD hc) (by simp only[List.length_append,List.length_cons,List.length_nil];omega) e
   refine⟨g1,by omega,g3,?_⟩;simp only[List.length_append,List.length_cons,List.length_nil] at g4;omega
  ·rw[if_neg hc] at e
   by_cases hs:qU pSemi ts.tail.tail=true
   ·rw[if_pos hs] at e
    cases e
    obtain⟨g1,g2⟩ := q3.is hs
    refine⟨g1,by omega,by simp only[List.length_append,List.length_cons,List.length_nil];omega,by simp only[List.length_append,List.length_cons,List.length_nil];omega⟩
   ·rw[if_neg hs] at e;cases e
theorem jjq (du vo:List ByteArray) (n:Nat) (hs:List (Int × Nt)) (ts:List Tk):r9 du vo (n+1) hs ts=(if (hd ts).kind=0 then .ok ⟨du,vo,vS hs⟩
  else if qU wOn ts=false then .bad (hd ts).pos 10
  else match heF hs ts.tail with
   | .bad x e => .bad x e
   | .ok k r=>match (pa 19).bl r with
    | .bad x e => .bad x e
    | .ok b r=>r9 du vo n (hs++[(k,b)]) r):=by
 rw[r9];unfold heF
 cases hnF ts.tail with
 | bad x e=>rfl
 | ok k r =>
  simp only
  by_cases hd:(hs.any fun h=>decide (h.1=k))=true
  ·rw[if_pos hd,if_pos hd]
  ·rw[if_neg hd,if_neg hd];try rfl
theorem jmk {hs:List (Int × Nt)} {ts:List Tk} {k:Int} {r:List Tk} (h:TkP ts) (e:heF hs ts = .ok k r):(∀ p ∈ hs,k ≠ p.1)/\TkP r/\r.length<ts.length:=by
 unfold heF at e
 cases hh:hnF ts with
 | bad x e2=>rw[hh] at e;cases e
 | ok k2 r2 =>
  rw[hh] at e
  simp only at e
  by_cases hdp:(hs.any fun h=>decide (h.1=k2))=true
  ·rw[if_pos hdp] at e;cases e
  rw[if_neg hdp] at e
  cases e
  refine⟨fun p hp e=>hdp (List.any_eq_true.2 ⟨p,hp,j8 e.symm⟩),?_⟩
  have num:∀ (lim off:Int) (t:List Tk),TkP t->t.length+1=ts.length->p7 lim off t = .ok k r->TkP r/\r.length<ts.length:=fun lim off t ht hl e=>by
   unfold p7 at e
   split at e
   ·cases e
   ·split at e
    ·cases e
    ·rename_i h2 _
     obtain⟨q1,q2⟩ := ht.tail (by rw[Decidable.not_not.1 h2];decide)
     cases e
     exact⟨q1,by omega⟩
  unfold hnF at hh
  by_cases h1:qU wStart ts=true
  ·rw[if_pos h1] at hh
   obtain⟨q1,q2⟩ := h.is h1
   cases hh
   exact⟨q1,by omega⟩
  rw[if_neg h1] at hh
  by_cases h2:qU wRequest ts=true
  ·rw[if_pos h2] at hh
   obtain⟨q1,q2⟩ := h.is h2
   cases hh
   exact⟨q1,by omega⟩
  rw[if_neg h2] at hh
  by_cases h3:qU wTimer ts=true
  ·rw[if_pos h3] at hh
   obtain⟨q1,q2⟩ := h.is h3
   exact num _ _ _ q1 q2 hh
  rw[if_neg h3] at hh
  by_cases h4:qU wMessage ts=true
  ·rw[if_pos h4] at hh
   obtain⟨q1,q2⟩ := h.is h4
   exact num _ _ _ q1 q2 hh
  rw[if_neg h4] at hh
  cases hh
def rM:List A:=[.v (.slice none 0 0),.v (.slice none 0 0),.v (.slice none 0 0)]
theorem ja1 (l m:List ByteArray):bA (l++m)=bA l++bA m:=by unfold bA;rw[List.map_append]
theorem jeG (ts:List Tk) (h:TkP ts):SpecP Tryz.prog 44 [bxN ts++[.v (.slice none 0 0)]] [.box 0 0] (fun o r=>(∃ nm ts',o=[fD nm ts'])/\uoQ (jgH ts) r) (puQ (jgH ts)):=by
 obtain⟨P,hP⟩ : ∃ P,jgH ts=P:=⟨_,rfl⟩
 rw[hP]
 have hb0:=h.1.2
 refine iM (wT ju8 (fun _=>[0]) 1 (fun ch _=>puQ P ch)) (fun _ _ h=>h) Tryz.func44 rfl (by kernel_rfl) rfl ?_;intro _;conv=>whnf
 refine wG (wT _ _ _ _) (by kernel_rfl) ?_;conv=>whnf
 refine wG (wT _ _ _ _) (by kernel_rfl) ?_;conv=>whnf
 refine wG (wT _ _ _ _) (by kernel_rfl) ?_;conv=>whnf
 refine vE 9 1 [] [(0,1)] ?_;conv=>whnf
 refine⟨trivial,?_⟩;conv=>whnf
 refine vE 9 1 [] [(2,0)] ?_;conv=>whnf
 refine⟨trivial,?_⟩;conv=>whnf
 refine vE 9 1 [] [(2,1)] ?_;conv=>whnf
 refine⟨trivial,?_⟩;conv=>whnf
 refine jO [0,2,3] ?_;conv=>whnf
 refine qA (fun x:Nat × List ByteArray × List ByteArray × List ByteArray × List Tk=>[]) (fun x=>[bxN x.2.2.2.2++[.own 0],rM,[.own 1,.own 2,.v (.slice none 0 0)]]) (fun x=>[.live 9 1 x.2.1.length (bA x.2.1),.live 9 1 x.2.2.1.length (bA x.2.2.1),.live 9 1 x.2.2.2.1.length (bA x.2.2.2.1)])
  (fun x=>TkP x.2.2.2.2/\x.2.2.2.2.length+1<=x.1/\x.2.1.length<=16/\x.2.2.1.length+x.2.2.2.1.length+x.2.2.2.2.length<=1000001/\mW x.1 x.2.1 x.2.2.1 x.2.2.2.1 x.2.2.2.2=P) (fun x=>x.2.2.2.2.length) (ts.length+1,[],[],[],ts) ?_ ⟨h,Nat.le_refl _,Nat.zero_le _,by simp only[List.length_nil];omega,hP⟩ ?_
 ·repeat' constructor
 rintro⟨n0,nm,du,vo,ts0⟩ ⟨g1,g2,g3,g4,hP⟩
 simp only at g1 g2 g3 g4 hP
 obtain⟨n,rfl⟩ : ∃ n,n0=n+1:=⟨n0-1,by omega⟩
 have hpos:=g1.pos
 rw[mW] at hP
 have his:=fun s=>jpH ts0 hpos s
 conv=>whnf
 refine qZ 0 0 3 [] rfl rfl rfl rfl rfl rfl rfl (fun _=>(his wDurable).rp rfl rfl _ _ _ _) (fun ch bx' hp=>hp.elim) ?_;rintro o n' cs' r ⟨c,ho,rfl,rfl,rfl,rfl⟩;cases ho;conv=>whnf
 cases hq1:qU wDurable ts0 with
 | true =>
  rw[if_pos hq1] at hP
  have hkd:=vD hq1
  have hde:=jcx nm ts0 g1 hkd g3
  conv=>whnf
  refine qZ 0 3 4 [] rfl rfl rfl rfl rfl rfl rfl (fun _=>(his wDurable).rp rfl rfl _ _ _ _) (fun ch bx' hp=>hp.elim) ?_;rintro o n' cs' r ⟨c,ho,rfl,rfl,rfl,rfl⟩;cases ho;conv=>whnf
  rw[hq1];conv=>whnf
  unfold lZ;refine⟨_,?_,fun _ h=>h⟩;conv=>whnf
  refine⟨?_,?_⟩
  ·refine qZ 0 4 5 [] rfl rfl rfl rfl rfl rfl rfl (fun _=>hde) (fun ch bx' hp _ _ => ?_) ?_
   ·unfold pdQ at hp
    split at hp
    ·rename_i he
     rw[he] at hP;exact oG hP.symm hp
    ·exact hp.elim
   rintro o n' cs' r hdo;unfold doQ at hdo
   split at hdo
   rotate_left
   ·exact hdo.elim
   rename_i nm2 out r1 he
   obtain⟨ho,rfl,rfl,rfl⟩ := hdo
   rw[he] at hP
   simp only at hP
   obtain⟨k1,k2,k3,k4⟩ := vX _ _ _ _ _ _ _ g1 hkd g3 he
   simp only[List.length_nil] at k4;cases ho;conv=>whnf
   refine⟨⟨by simp only;unfold maxLen;omega,by simp only;omega⟩,?_⟩;conv=>whnf
   refine⟨(n,nm2,du++out,vo,r1),jS [5,1,2] ?_,⟨k1,by simp only;omega,k3,by simp only[List.length_append];omega,hP⟩,by simp only;omega⟩;conv=>whnf
   simp only[List.length_append,ja1]
   repeat' constructor
  ·refine qZ 0 4 5 [] rfl rfl rfl rfl rfl rfl rfl (fun _=>hde) (fun ch bx' hp _ _ => ?_) ?_
   ·unfold pdQ at hp
    split at hp
    ·rename_i he
     rw[he] at hP;exact oG hP.symm hp
    ·exact hp.elim
   rintro o n' cs' r hdo;unfold doQ at hdo
   split at hdo
   rotate_left
   ·exact hdo.elim
   rename_i nm2 out r1 he
   obtain⟨ho,rfl,rfl,rfl⟩ := hdo
   rw[he] at hP
   simp only at hP
   obtain⟨k1,k2,k3,k4⟩ := vX _ _ _ _ _ _ _ g1 hkd g3 he
   simp only[List.length_nil] at k4;cases ho;conv=>whnf
   refine⟨⟨by simp only;unfold maxLen;omega,by simp only;omega⟩,?_⟩;conv=>whnf
   refine⟨(n,nm2,du++out,vo,r1),jS [5,1,2] ?_,⟨k1,by simp only;omega,k3,by simp only[List.length_append];omega,hP⟩,by simp only;omega⟩;conv=>whnf
   simp only[List.length_append,ja1]
   repeat' constructor
 | false =>
  rw[if_neg (by rw[hq1];simp)] at hP;conv=>whnf
  refine qZ 0 3 4 [] rfl rfl rfl rfl rfl rfl rfl (fun _=>(his wVolatile).rp rfl rfl _ _ _ _) (fun ch bx' hp=>hp.elim) ?_;rintro o n' cs' r ⟨c,ho,rfl,rfl,rfl,rfl⟩;cases ho;conv=>whnf
  cases hq2:qU wVolatile ts0 with
  | true =>
   rw[if_pos hq2] at hP
   have hkd:=vD hq2
   have hde:=jcx nm ts0 g1 hkd g3
   conv=>whnf
   refine qZ 0 4 5 [] rfl rfl rfl rfl rfl rfl rfl (fun _=>(his wDurable).rp rfl rfl _ _ _ _) (fun ch bx' hp=>hp.elim) ?_;rintro o n' cs' r ⟨c,ho,rfl,rfl,rfl,rfl⟩;cases ho;conv=>whnf
   rw[hq1];conv=>whnf
   unfold lZ;refine⟨_,?_,fun _ h=>h⟩;conv=>whnf
   refine⟨?_,?_⟩
   ·refine qZ 0 5 6 [] rfl rfl rfl rfl rfl rfl rfl (fun _=>hde) (fun ch bx' hp _ _ => ?_) ?_
    ·unfold pdQ at hp
     split at hp
     ·rename_i he
      rw[he] at hP;exact oG hP.symm hp
     ·exact hp.elim
    rintro o n' cs' r hdo;unfold doQ at hdo
    split at hdo
    rotate_left
    ·exact hdo.elim
    rename_i nm2 out r1 he
    obtain⟨ho,rfl,rfl,rfl⟩ := hdo
    rw[he] at hP
    simp only at hP
    obtain⟨k1,k2,k3,k4⟩ := vX _ _ _ _ _ _ _ g1 hkd g3 he
    simp only[List.length_nil] at k4;cases ho;conv=>whnf
    refine⟨⟨by simp only;unfold maxLen;omega,by simp only;omega⟩,?_⟩;conv=>whnf
    refine⟨(n,nm2,du,vo++out,r1),jS [6,1,2] ?_,⟨k1,by simp only;omega,k3,by simp only[List.length_append];omega,hP⟩,by simp only;omega⟩;conv=>whnf
    simp only[List.length_append,ja1]
    repeat' constructor
   ·refine qZ 0 5 6 [] rfl rfl rfl rfl rfl rfl rfl (fun _=>hde) (fun ch bx' hp _ _ => ?_) ?_
    ·unfold pdQ at hp
     split at hp
     ·rename_i he
      rw[he] at hP;exact oG hP.symm hp
     ·exact hp.elim
    rintro o n' cs' r hdo;unfold doQ at hdo
    split at hdo
    rotate_left
    ·exact hdo.elim
    rename_i nm2 out r1 he
    obtain⟨ho,rfl,rfl,rfl⟩ := hdo
    rw[he] at hP
    simp only at hP
    obtain⟨k1,k2,k3,k4⟩ := vX _ _ _ _ _ _ _ g1 hkd g3 he
    simp only[List.length_nil] at k4;cases ho;conv=>whnf
    refine⟨⟨by simp only;unfold maxLen;omega,by simp only;omega⟩,?_⟩;conv=>whnf
    refine⟨(n,nm2,du,vo++out,r1),jS [6,1,2] ?_,⟨k1,by simp only;omega,k3,by simp only[List.length_append];omega,hP⟩,by simp only;omega⟩;conv=>whnf
    simp only[List.length_append,ja1]
    repeat' constructor
  | false =>
   rw[if_neg (by rw[hq2];simp)] at hP
   have g4':du.length+vo.length<=1000001:=by omega
   conv=>whnf
   refine wG (wT _ _ _ _) (by kernel_rfl) ?_;conv=>whnf
   refine wG (wT _ _ _ _) (by kernel_rfl) ?_;conv=>whnf
   refine pX [4] ?_;conv=>whnf
   refine pY [1,2,5] ?_;conv=>whnf
   refine jO [0,2,3,4] ?_;conv=>whnf
   refine qA (fun x:Nat × List (Int × Nt) × List Tk=>[]) (fun x=>[fD nm x.2.2,rM,[.own 0,.own 1,.v (.slice none 0 0)]]) (fun x=>[.live 9 1 du.length (bA du),.live 9 1 vo.length (bA vo),.live 129 0 x.2.1.length [.clo 0 (mkA (vO x.2.1)),.clo 0 (oY (vO x.2.1))]])
    (fun x=>TkP x.2.2/\x.2.2.length+1<=x.1/\(x.2.1.map (·.1)).Nodup/\x.2.1.length+x.2.2.length<=1000000/\r9 du vo x.1 x.2.1 x.2.2=P) (fun x=>x.2.2.length) (ts0.length+1,[],ts0) ?_ ⟨g1,Nat.le_refl _,List.nodup_nil,by have:=g1.1.2;simp only[List.length_nil];omega,hP⟩ ?_
   ·repeat' constructor
    show Row.live _ _ _ _=Row.live _ 0 0 [.clo 0 (mkA (vO [])),.clo 0 (oY (vO []))]
    rw[show vO []=[] from rfl,jpr,jpt]
   clear hP hq1 hq2 his hpos g2 g1;rintro⟨n0,hs,ts1⟩ ⟨g1,g2,gnd,g5,hP⟩
   simp only at g1 g2 gnd g5 hP
   obtain⟨n1,rfl⟩ : ∃ n1,n0=n1+1:=⟨n0-1,by omega⟩
   have hpos:=g1.pos
   rw[jjq] at hP
   have hr:=nH hpos
   have htl:=g1.tail
   have hbl:=fun r (q:TkP r)=>jfj nm r q
   generalize ht1:hd ts1=t1 at *;conv=>whnf
   (refine uP ?_;try with_reducible exact trivial)
   (generalize hrq:jJ _ _ (y7 ts1)=rq;obtain rfl:rq=sY t1:=hrq.symm.trans (hr);clear hrq;conv=>whnf)
   by_cases hk:t1.kind=0
   ·rw[j8 hk];rw[if_pos hk] at hP;conv=>whnf
    refine jeu 2 ?_;refine aM _ ?_;conv=>whnf
    have hlh:(vO hs).length=hs.length:=by unfold vO;rw[List.length_map]
    have hso:=jeQ (vO hs) ((jid hs).2 gnd) (by omega)
    rw[jiL,hlh] at hso
    have hpm:=oP hs
    have hfind:=fun h (hm:h ∈ vS hs)=>jme gnd (hpm.mem_iff.1 hm)
    have hln:hs.length=(vS hs).length:=hpm.length_eq.symm
    rw[hln] at hso;refine kI (wT _ _ _ _) (by kernel_rfl) ?_;conv=>whnf
    refine jto 3 [] rfl rfl (fun _=>ji1 _ _) ?_;rintro e k n r x ⟨rfl,rfl,rfl,rfl,rfl⟩;conv=>whnf
    refine jrp 3 4 [] rfl rfl rfl rfl (fun _=>hso) ?_;rintro n' cs' r rfl;generalize vS hs=L at *;conv=>whnf
    refine vE 51 5 [] [(2,2)] ?_;conv=>whnf
    refine⟨trivial,?_⟩;conv=>whnf
    refine pY [0,1,5] ?_;conv=>whnf
    refine jO [2,3,4,50,51] ?_;conv=>whnf
    refine qA (fun j:Nat=>[(52,.v (.int .i64 j))]) (fun _=>[fD nm ts1,rM,[.own 0,.own 1,.own 2]]) (fun j=>[.live 9 1 du.length (bA du),.live 9 1 vo.length (bA vo),.live 51 5 (L.take j).length (dP (L.take j))])
     (fun j=>j<=L.length) (fun j=>L.length-j) 0 ?_ (Nat.zero_le _) ?_
    ·repeat' constructor
     show Row.live _ _ _ _=Row.live _ 5 0 (dP [])
     rw[jfU]
    intro j hj;conv=>whnf
    by_cases hlt:j<L.length
    ·have hrow:jJ 1 j ((L.map fun x=>x.1).map intA)=[intA L[j].1]:=by
      have:=yX intA (L.map fun x=>x.1) j (by simpa using hlt)
      rw[this,List.getElem_map]
     have hfj:=hfind L[j] (List.getElem_mem hlt)
     have htk:L.take (j+1)=L.take j++[L[j]]:=List.take_succ_eq_append_getElem hlt
     have hlj:(L.take j).length=j:=by rw[List.length_take];omega
     generalize L[j]=h at *
     (refine uP ?_;try with_reducible exact trivial)
     (generalize hrq:jJ _ _ ((L.map fun x=>x.1).map intA)=rq;obtain rfl:rq=[intA h.1]:=hrq.symm.trans (hrow);clear hrq;conv=>whnf)
     refine kF _ _ ?_;rw[hfj];conv=>whnf
     refine⟨⟨by unfold maxLen;omega,by omega⟩,?_⟩;conv=>whnf
     refine⟨jV (by omega),?_⟩;conv=>whnf
     refine⟨j+1,jS [0,1,2] ?_,hlt,by omega⟩;conv=>whnf
     rw[htk]
     repeat' constructor
     show Row.live _ 5 _ _=Row.live _ 5 (L.take j++[h]).length (dP (L.take j++[h]))
     rw[jcH,List.length_append];rfl
    ·(refine uP ?_;try with_reducible exact trivial)
     rw[show j=L.length by omega,List.take_length];subst hP;exact⟨⟨nm,ts1,rfl⟩,rfl⟩
   ·rw[jW hk];rw[if_neg hk] at hP
    obtain⟨q1,q2⟩ := htl hk
    have hx:=jU nm ts1 hpos wOn
    rw[ht1] at hx;generalize ts1.tail=ts2 at *
    have hh:=jky nm hs ts2 q1
    rw[jmG,<- jmH] at hh
    have hhok:=fun k r=>jmk (hs:=hs) (k:=k) (r:=r) q1
    conv=>whnf
    refine kT 0 [] hx (fun ch bx' hp => ?_) ?_
    ·rw[if_pos hp.1] at hP;exact oG hP.symm hp.2
    rintro o r ⟨hon,ho,rfl⟩;cases ho;rw[if_neg (by rw[hon];simp)] at hP;conv=>whnf
    refine jrn 0 2 rfl rfl rfl (aM _ rfl) rfl hh (fun o r hho => ?_) (fun ch bx' hp _ _ => ?_) ?_
    ·unfold hoQ at hho
     split at hho
     ·obtain⟨rfl,rfl⟩ := hho
      exact⟨fun c hc=>by rw[List.mem_singleton.1 hc];exact jmM _ _,rfl⟩
     ·exact hho.elim
    ·unfold phQ at hp
     split at hp
     ·rename_i he
      rw[he] at hP;exact oG hP.symm hp
     ·exact hp.elim
    rintro o r hho;unfold hoQ at hho
    split at hho
    rotate_left
    ·exact hho.elim
    rename_i k r1 he
    obtain⟨ho,rfl⟩ := hho
    rw[he] at hP
    simp only at hP
    obtain⟨hnk,k1,k2⟩ := hhok _ _ he
    have hb:=hbl r1 k1
    cases ho;conv=>whnf
    refine kT 0 [] hb (fun ch bx' hp => ?_) ?_
    ·obtain⟨x,e,he,hc⟩ := zD hp
     rw[he] at hP;exact oG hP.symm hc
    rintro o r hpo
    obtain⟨b,r2,he2,ho,rfl⟩ := j9 hpo
    cases ho;rw[he2] at hP
    simp only at hP
    obtain⟨k3,k4⟩ := tD _ _ _ k1 he2
    conv=>whnf
    refine jcL (fun p hp => ?_) ?_
    ·unfold vO at hp
     obtain⟨q,hq,rfl⟩ := List.mem_map.1 hp
     exact hnk q hq
    conv=>whnf
    refine⟨(n1,hs++[(k,b)],r2),jS [0,1,2] ?_,⟨k3,by simp only;omega,?_,by simp only[List.length_append,List.length_cons,List.length_nil];omega,hP⟩,by simp only;omega⟩
    ·conv=>whnf
     repeat' constructor
     show Row.live _ 0 (hs.length+1) [.clo 0 (mkA (vO hs++[(k,.agg (intA k :: ntA b))])),.clo 0 (oY (vO hs++[(k,.agg (intA k :: ntA b))]))]=Row.live _ 0 (hs++[(k,b)]).length [.clo 0 (mkA (vO (hs++[(k,b)]))),.clo 0 (oY (vO (hs++[(k,b)])))]
     rw[jkv,List.length_append];rfl
    ·simp only
     rw[List.map_append,List.nodup_append];refine⟨gnd,by simp,fun a ha c hc e => ?_⟩
     simp at hc
     subst hc
     obtain⟨q,hq,rfl⟩ := List.mem_map.1 ha
     exact hnk q hq e.symm
end Go.Proofs.YtfbkolllpencnaaGreatDoor.Vm
namespace Go.Proofs.YtfbkolllpencnaaGreatDoor.Vm
open Go.RowKit Go.Shelf
theorem jrL {c:UInt8} (h:xD c=true):c.toNat-48<=9:=by
 simp only[xD,Bool.and_eq_true,decide_eq_true_eq] at h;omega
theorem jb6 (n:Nat):jij n []=n:=rfl
theorem jd4 (n:Nat) (c:UInt8) (r:List UInt8):jij n (c :: r)=jij (10*n+(c.toNat-48)) r:=by kernel_rfl
theorem jpv (l:List UInt8):∀ (n:Nat),jdR l=true->jij n l+1<=(n+1)*10 ^ l.length:=by
 induction l with
 | nil=>intro n _;rw[jb6];simp
 | cons c r ih =>
  intro n h;simp only[jdR,List.all_cons,Bool.and_eq_true] at h
  have:=jrL h.1
  have ih:=ih (10*n+(c.toNat-48)) h.2
  rw[jd4,List.length_cons,Nat.pow_succ];refine Nat.le_trans ih ?_;generalize 10 ^ r.length=p at *;rw[show (n+1)*(p*10)=(10*n+10)*p by rw[Nat.mul_comm p 10,<- Nat.mul_assoc];congr 1;omega];exact Nat.mul_le_mul_right _ (by omega)
theorem jh2 {l:List UInt8} (h:l.length<=10):jbu l:=fun k hk hd=>by
 have h1:=jpv _ 0 hd
 have h2:(l.take k).length<=10:=by rw[List.length_take];omega
 have h3:10 ^ (l.take k).length<=10 ^ 10:=Nat.pow_le_pow_right (by decide) h2
 have h4:(10:Nat) ^ 10=10000000000:=by decide
 omega
theorem jd5:∀ (l:List UInt8) (n:Nat) (k:Nat),0<=nI n l->jdR l=true->n<=2147483647->jij n (l.take k)<=2147483647
 | [],n,k,_,_,hn=>by rw[List.take_nil,jb6];exact hn
 | c :: r,n,k,h,hd,hn=>by
  simp only[jdR,List.all_cons,Bool.and_eq_true] at hd
  have hc:=hd.1
  simp only[xD,Bool.and_eq_true,decide_eq_true_eq] at hc;rw[nI] at h
  split at h
  ·omega
  ·rename_i hv
   cases k with
   | zero=>rw[List.take_zero,jb6];exact hn
   | succ k =>
    rw[List.take_succ_cons,jd4]
    have e:(((10*n+(c.toNat-48):Nat)):Int)=10*(n:Int)+c.toNat-48:=by omega
    refine jd5 r (10*n+(c.toNat-48)) k ?_ hd.2 (by omega);rw[e];exact h
theorem jcj:∀ r:List UInt8,jdR (r.take (jK xD r))=true
 | []=>rfl
 | c :: r=>by
  rw[jK]
  cases h:xD c with
  | false=>rfl
  | true =>
   simp only[List.take_succ_cons,jdR,List.all_cons,h,Bool.true_and];exact jcj r
theorem jau (s:ByteArray):(rU s).1.size<=s.size:=by
 cases h:s.data.toList with
 | nil=>rw[jm2 h];exact Nat.le_refl _
 | cons c r =>
  have hl:=k9 s
  rw[h,List.length_cons] at hl
  by_cases hc:c=118
  ·subst hc;rw[jru h,x6];omega
  ·rw[jjf h hc];exact Nat.le_refl _
theorem rV {s:ByteArray} (h:s.size<=10):jbu (rU s).1.data.toList:=by
 have h1:=jau s
 have h2:=k9 (rU s).1
 exact jh2 (by omega)
theorem jlf {l:List UInt8} {k:Int} {len:Nat} {n:Int} (h:qF l = .tok k len n):jbu (rU (bs (l.take len))).1.data.toList:=by
 have hle:=dG h
 have hsz:(bs (l.take len)).size=len:=dE l len hle.2
 cases l with
 | nil=>simp[qF] at h
 | cons c r =>
  cases hL:isL c
  ·cases hD:xD c
   ·refine rV ?_
    cases h3:kP bX (bs ((c :: r).take 2))
    ·cases h4:kP uF (bs [c])
     ·simp only[qF,hL,hD,h3,h4] at h
      cases h
     ·simp only[qF,hL,hD,h3,h4] at h
      cases h;omega
    ·simp only[qF,hL,hD,h3] at h
     cases h;omega
   ·simp only[qF,hL,hD] at h
    split at h
    ·cases h
    ·rename_i hv
     cases h
     have hc:c ≠ 118:=fun e=>by subst e;simp[xD] at hD; 
     have hlist:(bs ((c :: r).take (jK xD r+1))).data.toList=c :: r.take (jK xD r):=by rw[kM,List.take_succ_cons]
     rw[jjf hlist hc,hlist];intro j hj hd
     have h0:jdR (c :: r.take (jK xD r))=true:=by
      simp only[jdR,List.all_cons,hD,Bool.true_and];exact jcj r
     have:=jd5 (c :: r.take (jK xD r)) 0 j (by simpa using hv) h0 (by omega)
     omega
  ·simp only[qF,hL] at h
   split at h
   ·cases h
   ·cases h
    exact rV (by omega)
theorem dU:∀ (f p:Nat) (l:List UInt8),∀ t ∈ (xW f p l).toks,jbu (rU t.text).1.data.toList
 | 0,p,l=>by simp[xW]
 | f+1,p,[]=>by simp[xW]
 | f+1,p,c :: r=>by
  rw[xW]
  split
  ·exact dU f _ _
  ·split
   ·exact dU f _ _
   ·cases ht:qF (c :: r) with
    | bad e=>simp
    | tok k len n =>
     intro t hm;simp only[Lx.cons,List.mem_cons] at hm
     rcases hm with rfl | hm
     ·exact jlf ht
     ·exact dU f _ _ t hm
theorem jo4 {e:Tk} (he:jbI e/\e.kind=0/\e.text.data.toList=[]):∀ l:List Tk,(∀ t ∈ l,jbI t/\t.kind ≠ 0)->TkW (l++[e])
 | [],_=>⟨he.1,.inl ⟨rfl,he.2⟩⟩
 | t :: l,h=>⟨(h t (by simp)).1,.inr ⟨(h t (by simp)).2,jo4 he l fun x hx=>h x (by simp[hx])⟩⟩
theorem jpP {s:ByteArray} (hs:s.size<=3000) (he:(qY s).err=none):TkB (iI s):=by
 rw[gF he]
 have hl:=k9 s
 have hlen:=(nU (s.data.toList.length+1) 0 s.data.toList).1
 refine⟨jo4 ⟨⟨?_,?_,?_,?_⟩,rfl,rfl⟩ _ fun t ht => ?_,?_⟩
 ·show (⟨#[]⟩ : ByteArray).size<=_;decide
 ·exact rV (by show (⟨#[]⟩ : ByteArray).size<=_;decide)
 ·exact Nat.le_trans (jau _) (by show (⟨#[]⟩ : ByteArray).size<=_;decide)
 ·exact⟨by show (0:Int)<=0;decide,by show (0:Int)<=_;decide,by show s.size<=_;omega⟩
 ·have h1:=lH (s.data.toList.length+1) 0 s.data.toList (by omega) t ht
  exact⟨⟨h1.2.2.1,dU _ _ _ t ht,Nat.le_trans (jau _) h1.2.2.1,h1.2.2.2.1,h1.2.2.2.2,h1.2.1⟩,by have:=h1.1.1;omega⟩
 ·have:(qY s).toks.length<=s.data.toList.length:=hlen
  simp only[List.length_append,List.length_cons,List.length_nil];omega
def K6 (t:Tk):Prop:=(t.kind=1 /\ ∃ c r,t.text.data.toList=c :: r/\isL c=true /\ ∀ x ∈ c :: r,zY x=true) ∨ (t.kind=3 /\ ∃ c r,t.text.data.toList=c :: r/\zY c=false) ∨ (t.kind=0/\t.text.data.toList=[]) ∨ (t.kind=2 /\ ∃ c r,t.text.data.toList=c :: r/\xD c=true)
theorem jsU {l:List UInt8} {k:Int} {len:Nat} {n:Int} {p:Nat} (h:qF l = .tok k len n):K6 ⟨k,p,bs (l.take len),n⟩ := by
 unfold K6;simp only[kM]
 cases l with
 | nil=>simp[qF] at h
 | cons c r =>
  cases hL:isL c
  ·cases hD:xD c
   ·have h3:k=3/\(len=1 ∨ len=2):=by
     cases h3:kP bX (bs ((c :: r).take 2))
     ·cases h4:kP uF (bs [c])
      ·simp only[qF,hL,hD,h3,h4] at h
       cases h
      ·simp only[qF,hL,hD,h3,h4] at h
       cases h;exact⟨rfl,.inl rfl⟩
     ·simp only[qF,hL,hD,h3] at h
      cases h;exact⟨rfl,.inr rfl⟩
    right;left
    refine⟨h3.1,c,r.take (len-1),?_,by unfold zY;rw[hL,hD];rfl⟩
    rcases h3.2 with e | e <;> rw[e] <;> rfl
   ·simp only[qF,hL,hD] at h
    split at h
    ·cases h
    ·cases h
     exact .inr (.inr (.inr ⟨rfl,c,r.take (jK xD r),List.take_succ_cons,hD⟩))
  ·simp only[qF,hL] at h
   split at h
   ·cases h
   ·cases h
    left
    refine⟨rfl,c,r.take (jK zY r),List.take_succ_cons,hL,fun x hx => ?_⟩
    rcases List.mem_cons.1 hx with rfl | hx
    ·unfold zY;rw[hL];rfl
    ·exact sV zY r x hx
theorem uS:∀ (f p:Nat) (l:List UInt8),∀ t ∈ (xW f p l).toks,K6 t
 | 0,p,l=>by simp[xW]
 | f+1,p,[]=>by simp[xW]
 | f+1,p,c :: r=>by
  rw[xW]
  split
  ·exact uS f _ _
  ·split
   ·exact uS f _ _
   ·cases ht:qF (c :: r) with
    | bad e=>simp
    | tok k len n =>
     intro t hm;simp only[Lx.cons,List.mem_cons] at hm
     rcases hm with rfl | hm
     ·exact jsU ht
     ·exact uS f _ _ t hm
theorem jsG {s:ByteArray} (he:(qY s).err=none):∀ t ∈ iI s,K6 t:=fun t ht=>by
 rw[gF he,List.mem_append] at ht
 rcases ht with ht | ht
 ·exact uS _ _ _ t ht
 ·rw[List.mem_singleton.1 ht];exact .inr (.inr (.inl ⟨rfl,rfl⟩))
theorem jhZ {c:UInt8} (h:zY c=true):c ≠ 32:=fun e=>by subst e;revert h;decide
theorem jrN {t:Tk} (h:K6 t):wOk t:=fun hk=>by
 rcases h with ⟨_,c,r,h1,_,h3⟩ | ⟨h1,_⟩ | ⟨h1,_⟩ | ⟨h1,_⟩
 ·rw[h1];exact⟨by simp,fun x hx=>jhZ (h3 x hx)⟩
 ·omega
 ·omega
 ·omega
theorem jpQ {s:ByteArray} (hs:s.size<=3000) (he:(qY s).err=none):TkP (iI s):=⟨jpP hs he,fun t ht=>jrN (jsG he t ht)⟩
def okE (x e:Int):Prop:=(0<=x/\x<=1000000000)/\0<e/\e<=100
def lU (p:Pn):Prop:=match p with
 | .bad x e=>okE x e
 | _=>True
def aY (op:List Tk->Pn):Prop := ∀ ts,TkP ts->lU (op ts)
theorem TkP.hp {ts:List Tk} (h:TkP ts):(Vm.hd ts).pos<=1000000000:=h.good.2.2.2.2.2
theorem bK {ts:List Tk} (h:TkP ts) {e:Int} (he:0<e/\e<=100):lU (.bad (hd ts).pos e):=⟨⟨by omega,by have:=h.hp;omega⟩,he⟩
theorem qT {p:Pn} {k:Nt->List Tk->Pn} (h:lU p) (hk:∀ f r,p = .ok f r->lU (k f r)):lU (p.andThen k):=by
 cases p with
 | ok f r=>exact hk f r rfl
 | bad x e=>exact h
theorem wW {s:ByteArray} {ts:List Tk} {k:List Tk->Pn} (h:TkP ts) (hk:TkP ts.tail->lU (k ts.tail)):lU (xpt s ts k):=by
 unfold xpt
 by_cases hs:qU s ts=true
 ·rw[if_pos hs];exact hk (h.is hs).1
 ·rw[if_neg hs];exact bK h (by decide)
theorem jeK {lim:Int} {ts:List Tk} {k:Int->List Tk->Pn} (h:TkP ts) (hk:TkP ts.tail->lU (k (hd ts).n ts.tail)):lU (cR lim ts k):=by
 unfold cR
 by_cases h1:(hd ts).kind ≠ 2
 ·rw[if_pos h1];exact bK h (by decide)
 ·rw[if_neg h1]
  by_cases h2:lim<=(hd ts).n
  ·rw[if_pos h2];exact bK h (by decide)
  ·rw[if_neg h2];exact hk (h.tail (by rw[Decidable.not_not.1 h1];decide)).1
theorem lP {ts:List Tk} (h:TkP ts):lU (synE ts):=bK h (by decide)
def jbW (low:Option Pa):Prop := ∀ p,low=some p->aY p.no/\aY p.un/\aY p.ex/\aY p.bl
theorem jgS {low:Option Pa} (hg:fC low) (hl:jbW low):aY (eW low):=fun ts h=>by
 unfold eW
 by_cases hs:qU pLp ts=true
 ·rw[if_pos hs]
  cases low with
  | none=>exact bK h (by decide)
  | some p =>
   have q:=(h.is hs).1
   exact qT ((hl p rfl).2.2.1 _ q) fun f r e=>wW ((hg p rfl).2.2.1 _ _ _ q e).1 fun _=>trivial
 ·rw[if_neg hs];exact lP h
theorem qQ {c:Prop} [Decidable c] {a b:Pn} (h1:c->lU a) (h2 : ¬ c->lU b):lU (if c then a else b):=by
 by_cases h:c
 ·rw[if_pos h];exact h1 h
 ·rw[if_neg h];exact h2 h
theorem jnv {low:Option Pa} (hg:fC low) (hl:jbW low):aY (yC low):=fun ts h=>by
 unfold yC
 refine qQ (fun hs=>jgS hg hl ts h) fun _ => ?_
 refine qQ (fun hs=>qT (jgS hg hl _ (h.is hs).1) fun _ _ _=>trivial) fun _ => ?_
 refine qQ (fun hs=>trivial) fun _ => ?_
 refine qQ (fun hs=>trivial) fun _ => ?_
 refine qQ (fun hs=>trivial) fun _ => ?_
 refine qQ (fun hs=>trivial) fun _ => ?_
 exact qQ (fun hs=>trivial) fun _=>lP h
theorem jjS {s:ByteArray} {op:Option (List Tk->Pn)} (hl:∀ f,op=some f->aY f) {ts:List Tk} (h:TkP ts) (hs:qU s ts=true):lU (uG s op ts):=by
 cases op with
 | none=>exact bK h (by decide)
 | some f=>exact qT (hl f rfl _ (h.is hs).1) fun _ _ _=>trivial
theorem jjU {low:Option Pa} (hg:fC low) (hl:jbW low):aY (vP low):=fun ts h=>by
 unfold vP
 refine qQ (fun hs=>jjS (fun f hf => ?_) h hs) fun _=>jnv hg hl ts h
 obtain⟨p,hp,rfl⟩ := Option.map_eq_some_iff.1 hf
 exact (hl p hp).2.1
theorem jdm {op:List Tk->Pn} (hg:qS op) (ho:aY op) (signs:List ByteArray):∀ (n:Nat) (l:Nt) (ts:List Tk),TkP ts->lU (x7 op signs n l ts)
 | 0,l,ts,h=>trivial
 | n+1,l,ts,h=>by
  rw[x7]
  refine qQ (fun hs => ?_) fun _=>trivial
  obtain⟨s,hs⟩ := iT hs
  have q:=(h.is hs).1
  exact qT (ho _ q) fun f r e=>jdm hg ho signs n _ _ (hg _ _ _ q e).1
theorem u4 {op:List Tk->Pn} (hg:qS op) (ho:aY op) (signs:List ByteArray):aY (kO op signs):=fun ts h=>by
 unfold kO
 exact qT (ho _ h) fun f r e=>jdm hg ho signs _ _ _ (hg _ _ _ h e).1
theorem jjT {low:Option Pa} (hg:fC low) (hl:jbW low):aY (jbA low):=u4 (gW (cK hg) _) (u4 (cK hg) (jjU hg hl) _) _
theorem jjR {low:Option Pa} (hg:fC low) (hl:jbW low):aY (m9 low):=fun ts h=>by
 unfold m9
 refine qQ (fun hs=>jjS (fun f hf => ?_) h hs) fun _ => ?_
 ·obtain⟨p,hp,rfl⟩ := Option.map_eq_some_iff.1 hf
  exact (hl p hp).1
 ·refine qT (jjT hg hl _ h) fun l r e => ?_
  have q:=(pN hg _ _ _ h e).1
  refine qQ (fun hs => ?_) fun _=>trivial
  obtain⟨s,hs⟩ := iT hs
  exact qT (jjT hg hl _ (q.is hs).1) fun _ _ _=>trivial
theorem jjQ {low:Option Pa} (hg:fC low) (hl:jbW low):aY (pH low):=u4 (gW (cJ hg) _) (u4 (cJ hg) (jjR hg hl) _) _
theorem jsK {ex bl:List Tk->Pn} (gex:qS ex) (gbl:qS bl) (hex:aY ex) (hbl:aY bl):aY (iN ex bl):=fun ts h=>by
 unfold iN
 refine qQ (fun hn => ?_) fun _ => ?_
 ·have q:=(h.tail (by rw[aD hn];decide)).1
  exact wW q fun q=>qT (hex _ q) fun f r e=>wW (gex _ _ _ q e).1 fun _=>trivial
 refine qQ (fun _=>lP h) fun hk => ?_
 have q:=(h.tail (by rw[Decidable.not_not.1 hk];decide)).1
 refine qQ (fun _=>qT (hex _ q) fun f r e=>qT (hbl _ (gex _ _ _ q e).1) fun f2 r2 e2=>qQ (fun hs=>qT (hbl _ ((gbl _ _ _ (gex _ _ _ q e).1 e2).1.is hs).1) fun _ _ _=>trivial) fun _=>trivial) fun _ => ?_
 refine qQ (fun _=>qT (hex _ q) fun f r e=>qT (hbl _ (gex _ _ _ q e).1) fun _ _ _=>trivial) fun _ => ?_
 refine qQ (fun _=>qT (hex _ q) fun f r e=>wW (gex _ _ _ q e).1 fun q=>jeK q fun q=>wW q fun q=>qT (hex _ q) fun f r e=>wW (gex _ _ _ q e).1 fun q=>qT (hex _ q) fun f r e=>wW (gex _ _ _ q e).1 fun _=>trivial) fun _ => ?_
 refine qQ (fun _=>jeK q fun q=>wW q fun _=>trivial) fun _ => ?_
 refine qQ (fun _=>jeK q fun q=>wW q fun _=>trivial) fun _ => ?_
 refine qQ (fun _=>wW q fun _=>trivial) fun _ => ?_
 refine qQ (fun _=>qT (hex _ q) fun f r e=>wW (gex _ _ _ q e).1 fun q=>qT (hex _ q) fun f r e=>wW (gex _ _ _ q e).1 fun _=>trivial) fun _ => ?_
 refine qQ (fun _=>qT (hex _ q) fun f r e=>wW (gex _ _ _ q e).1 fun _=>trivial) fun _ => ?_
 exact qQ (fun _=>wW q fun _=>trivial) fun _=>lP h
theorem jgR {st:List Tk->Pn} (gst:GoesS st) (hst:aY st):∀ (n:Nat) (acc:List Nt) (ts:List Tk),TkP ts->lU (lV st n acc ts)
 | 0,acc,ts,h=>lP h
 | n+1,acc,ts,h=>by
  rw[lV]
  exact qQ (fun _=>trivial) fun _=>qT (hst _ h) fun f r e=>jgR gst hst n _ _ (gst _ _ _ h e).1
theorem jsI {st:List Tk->Pn} (gst:GoesS st) (hst:aY st):aY (bkF st):=fun ts h=>by
 unfold bkF
 exact wW h fun q=>jgR gst hst _ _ _ q
theorem jnt {low:Option Pa} (hl:jbW low):aY (jkL low):=by
 cases low with
 | none=>exact fun ts h=>qQ (fun _=>bK h (by decide)) fun _=>lP h
 | some p=>exact (hl p rfl).2.2.2
theorem jnu {low:Option Pa} (hg:fC low) (hl:jbW low):jbW (some (paG low)):=fun p hp=>by
 cases hp
 exact⟨jjR hg hl,jjU hg hl,jjQ hg hl,jsI (uQ (aL hg) (aB hg)) (jsK (aL hg) (aB hg) (jjQ hg hl) (jnt hl))⟩
theorem jey:∀ d,fC (some (pa d))/\jbW (some (pa d))
 | 0=>⟨jee (fun _ h=>by cases h),jnu (fun _ h=>by cases h) (fun _ h=>by cases h)⟩
 | d+1=>⟨jee (jey d).1,jnu (jey d).1 (jey d).2⟩
theorem jpR:aY (pa 19).bl:=((jey 19).2 _ rfl).2.2.2
theorem xI {ts:List Tk} (h:TkP ts) {e:Int} (he:0<e/\e<=100):okE (hd ts).pos e:=bK h he
theorem jgT {lim off:Int} {ts:List Tk} (h:TkP ts) {x e:Int} (k:p7 lim off ts = .bad x e):okE x e:=by
 unfold p7 at k
 split at k
 ·cases k;exact xI h (by decide)
 ·split at k
  ·cases k;exact xI h (by decide)
  ·cases k
theorem jsJ {hs:List (Int × Nt)} {ts:List Tk} (h:TkP ts) {x e:Int} (k:heF hs ts = .bad x e):okE x e:=by
 unfold heF at k
 cases hh:hnF ts with
 | bad x2 e2 =>
  rw[hh] at k
  cases k
  unfold hnF at hh
  by_cases h1:qU wStart ts=true
  ·rw[if_pos h1] at hh;cases hh
  rw[if_neg h1] at hh
  by_cases h2:qU wRequest ts=true
  ·rw[if_pos h2] at hh;cases hh
  rw[if_neg h2] at hh
  by_cases h3:qU wTimer ts=true
  ·rw[if_pos h3] at hh;exact jgT (h.is h3).1 hh
  rw[if_neg h3] at hh
  by_cases h4:qU wMessage ts=true
  ·rw[if_pos h4] at hh;exact jgT (h.is h4).1 hh
  rw[if_neg h4] at hh
  cases hh
  exact xI h (by decide)
 | ok k2 r2 =>
  rw[hh] at k
  simp only at k
  split at k
  ·cases k;exact xI h (by decide)
  ·cases k
theorem jns (du vo:List ByteArray):∀ (n:Nat) (hs:List (Int × Nt)) (ts:List Tk) (x e:Int),TkP ts->r9 du vo n hs ts = .bad x e->okE x e
 | 0,hs,ts,x,e,h,k=>by cases k;exact xI h (by decide)
 | n+1,hs,ts,x,e,h,k=>by
  rw[jjq] at k
  by_cases hk:(hd ts).kind=0
  ·rw[if_pos hk] at k;cases k
  rw[if_neg hk] at k
  by_cases ho:qU wOn ts=false
  ·rw[if_pos ho] at k;cases k;exact xI h (by decide)
  rw[if_neg ho] at k
  have q:=(h.tail hk).1
  cases hh:heF hs ts.tail with
  | bad x2 e2=>rw[hh] at k;cases k;exact jsJ q hh
  | ok k2 r =>
   rw[hh] at k
   simp only at k
   obtain⟨_,q2,_⟩ := jmk q hh
   have hb:=jpR _ q2
   cases hbl:(pa 19).bl r with
   | bad x2 e2=>rw[hbl] at k hb;cases k;exact hb
   | ok b r2 =>
    rw[hbl] at k;exact jns du vo n _ _ _ _ (tD _ _ _ q2 hbl).1 k
theorem jiH:∀ (n:Nat) (nm out:List ByteArray) (ts:List Tk) (x e:Int),TkP ts->(hd ts).kind ≠ 0->cB n nm out ts = .bad x e->okE x e
 | 0,nm,out,ts,x,e,h,hk,k=>by cases k;exact xI h (by decide)
 | n+1,nm,out,ts,x,e,h,hk,k=>by
  rw[uO] at k
  have q:=(h.tail hk).1
  by_cases hn:xK ts.tail=false
  ·rw[if_pos hn] at k;cases k;exact xI q (by decide)
  rw[if_neg hn] at k
  by_cases hh:kP nm (hd ts.tail).text=true
  ·rw[if_pos hh] at k;cases k;exact xI q (by decide)
  rw[if_neg hh] at k
  by_cases h6:nm.length=16
  ·rw[if_pos h6] at k;cases k;exact xI q (by decide)
  rw[if_neg h6] at k
  have q3:=(q.tail (by rw[aD (by simpa using hn)];decide)).1
  unfold deH at k
  by_cases hc:qU pComma ts.tail.tail=true
  ·rw[if_pos hc] at k;exact jiH n _ _ _ _ _ q3 (vD hc) k
  ·rw[if_neg hc] at k
   by_cases hs:qU pSemi ts.tail.tail=true
   ·rw[if_pos hs] at k;cases k
   ·rw[if_neg hs] at k;cases k;exact xI q3 (by decide)
theorem jiG:∀ (n:Nat) (nm du vo:List ByteArray) (ts:List Tk) (x e:Int),TkP ts->nm.length<=16->mW n nm du vo ts = .bad x e->okE x e
 | 0,nm,du,vo,ts,x,e,h,h16,k=>by cases k;exact xI h (by decide)
 | n+1,nm,du,vo,ts,x,e,h,h16,k=>by
  rw[mW] at k
  by_cases h1:qU wDurable ts=true
  ·rw[if_pos h1] at k
   cases hd:cB ts.length nm [] ts with
   | bad x2 e2=>rw[hd] at k;cases k;exact jiH _ _ _ _ _ _ h (vD h1) hd
   | ok nm2 out r =>
    rw[hd] at k
    obtain⟨k1,k2,k3,k4⟩ := vX _ _ _ _ _ _ _ h (vD h1) h16 hd
    exact jiG n _ _ _ _ _ _ k1 k3 k
  rw[if_neg h1] at k
  by_cases h2:qU wVolatile ts=true
  ·rw[if_pos h2] at k
   cases hd:cB ts.length nm [] ts with
   | bad x2 e2=>rw[hd] at k;cases k;exact jiH _ _ _ _ _ _ h (vD h2) hd
   | ok nm2 out r =>
    rw[hd] at k
    obtain⟨k1,k2,k3,k4⟩ := vX _ _ _ _ _ _ _ h (vD h2) h16 hd
    exact jiG n _ _ _ _ _ _ k1 k3 k
  rw[if_neg h2] at k;exact jns _ _ _ _ _ _ _ h k
theorem jn9 {ts:List Tk} (h:TkP ts) {x e:Int} (k:jgH ts = .bad x e):okE x e:=jiG _ _ _ _ _ _ _ h (Nat.zero_le _) k
end Go.Proofs.YtfbkolllpencnaaGreatDoor.Vm
namespace Go.Proofs.YtfbkolllpencnaaGreatDoor.Vm
open Go.RowKit
section
def ClD (P:Program) (f:Nat) (u u':FrameMode):Array Value->World->(Ending->World->Prop)->Prop:=fun vs w R=>CallsD P f vs u w fun e m w' => m=u'/\R e w'
theorem ClD.mono {P:Program} {f:Nat} {u u':FrameMode} {vs:Array Value} {w:World} {R R':Ending->World->Prop} (h:∀ e w',R e w'->R' e w') (k:ClD P f u u' vs w R):ClD P f u u' vs w R' :=
 CallsD.mono k fun e m w' ⟨h1,h2⟩=>⟨h1,h _ _ h2⟩
@[irreducible] def joK (P:Program) (u u':FrameMode) (f:Nat) (args:List A) (s:S) (K:S->Prop):Prop :=
 (∀ vs w,(callFunc f vs).run P w = .ok (.enter f vs) w) ∧
 ∃ (X ids:List Nat) (ins:List (List A)) (args':List A) (post:List (List A)->A->Prop),X.Nodup/\(∀ i ∈ X,i<s.bx.length) ∧
  aS X (jC s.rw ids) (X.map fun i=>s.bx.getD i [])=some ins/\zR X (jC s.rw ids) args=some args'/\(nW args'->jcg (ClD P f u u') ins args' post fun _=>False) ∧
  ∀ outs r,post outs r->outs.length=X.length->oB X s.bx X outs fun bx' => zM (back X r) fun _=>qB (jC s.rw ids) fun rw' => wD s bx' rw' K
def dS (c:Cx) (rv:List ResultVar) (post:List (List A)->A->Prop):List (Nat × List A)->FrameMode->S->Prop
 | [],.returning,s=>jiB c rv post s
 | [],_,_=>False
 | (f,args) :: r,u,s=>u ≠ .run /\ ∃ u',joK c.P u u' f args s fun s' => dS c rv post r (settle u') s'
section
variable {c:Cx} {w0:W0} {C0:Rd} {β0:List Nat}
theorem lG {fn:Func} {post:List (List A)->A->Prop} {R:Ending->World->Prop} {tmps:Array Value} (hfin:∀ s' w',jiB c fn.results.toList post s'->Inv [] w0 C0 β0 s' { tmps:=tmps,defers:=[] } w' -> ∃ v,(results fn tmps).run c.P w' = .ok v w'/\R (.returned v) w') :
  ∀ (dr:List (Nat × List A)) (ds:List Deferred) (u:FrameMode) (s:S) (E:Env) (w:World),repD dr E ds->Hp w0 C0 β0 s.bx s.rw w E->A.repL s.t E tmps.toList->dS c fn.results.toList post dr u s->Leaves c.P fn tmps R ds u w
 | [],ds,u,s,E,w,hd,hp,ht,h=>by
  obtain rfl:ds=[]:=hd
  cases u with
  | returning=>exact hfin s w h ⟨E,hp,ht,rfl⟩
  | run=>exact h.elim
  | panicking ch=>exact h.elim
 | (f,args) :: r,ds,u,s,E,w,⟨d,ds',cap,hds,htg,hargs,hrest⟩,hp,ht,h=>by
  subst hds
  obtain⟨hu,u',h⟩ := h
  unfold joK at h
  obtain⟨hcall,X,ids,ins,args',post',hn,hX,hins,hargs',hspec,hk⟩ := h
  have hcx:=jam (pan:=fun _ _=>False) (Xr:=fun _=>true) (K:=fun _ s' => dS c fn.results.toList post r (settle u') s') (Cl:=ClD c.P f u u') ClD.mono hp hargs hn (fun _ _=>rfl) hX hins hargs' hspec (fun outs r hp hl=>hk outs r hp hl) (fun ch bx' h _ _=>h.elim)
  obtain⟨t,da⟩ := d
  simp only at htg hargs hcx
  subst htg;refine leaves_cons (f:=f) (args:=da++cap) hu (by simp[invoke,hcall]) ?_
  have hcx':CallsD c.P f (da++cap) u w fun e m w' => m=u'/\((∃ y,e = .returned y/\Left w0 C0 β0 (fun _=>true) s E w (fun _ s' => dS c fn.results.toList post r (settle u') s') y w') ∨ ∃ (ch:List PanicEntry) (s':S) (E':Env),e = .panicked ch/\False/\s'.t=s.t/\E.le E'/\Hp w0 C0 β0 s'.bx s'.rw w' E'):=hcx
  refine CallsD.mono hcx' ?_;rintro e m w' ⟨rfl,⟨y,rfl,⟨⟨r0,s',E',h1,h2,h3,h4,h5,_⟩⟩⟩ | ⟨ch,s',E',_,h,_⟩⟩
  ·exact lG hfin r ds' _ s' E' w' (hrest.mono h3) h4 (by rw[h2];exact A.repL.mono _ h3 ht) h1
  ·exact h.elim
@[irreducible] def s8 (P:Program) (np:Nat) (pt:List (Nat × List A)->List PanicEntry->S->Prop) (qt:List (Nat × List A)->Exit->S->Prop) (dr:List (Nat × List A)) (x:Code) (s:S):Prop :=
 ∀ (w0:W0) (C0:Rd) (β0:List Nat) (a:Act) (w:World) (Q:Exit->Act->World->Prop),β0.length=np->Inv dr w0 C0 β0 s a w->(∀ dr' ch s' a' w',pt dr' ch s'->Inv dr' w0 C0 β0 s' a' w'->Q (.panic ch) a' w')->(∀ dr' e s' a' w',qt dr' e s'->Inv dr' w0 C0 β0 s' a' w'->Q e a' w')->x.wp P Q a w
def tQ (P:Program) (np:Nat) (pt:List (Nat × List A)->List PanicEntry->S->Prop) (qt:List (Nat × List A)->Exit->S->Prop) (dr:List (Nat × List A)) (y:Code) (e:Exit) (s:S):Prop:=match e with
 | .normal=>s8 P np pt qt dr y s
 | e=>qt dr e s
variable {pt:List (Nat × List A)->List PanicEntry->S->Prop} {qt:List (Nat × List A)->Exit->S->Prop} {dr:List (Nat × List A)} {s:S}
theorem yB {x:Code} (hc:c.ok) (hdr:∃ n,yM n dr=true) (hl:yM c.np dr=true ∨ y6 x=true) (ho:kR c.ord x=true) (hp:∀ ch s',c.pan ch s'->pt dr ch s') (h:uB c x s (qt dr)):s8 c.P c.np pt qt dr x s:=by
 unfold s8
 exact fun w0 C0 β0 a w Q hn hi hx hk=>nE hc hn hdr x hl (fun ch s' a' w' h1 h2=>hx dr ch s' a' w' (hp ch s' h1) h2) ho hi h fun e s' a' w' h1 h2=>hk dr e s' a' w' h1 h2
theorem jE {x y:Code} (hc:c.ok) (hdr:∃ n,yM n dr=true) (hl:yM c.np dr=true ∨ y6 x=true) (ho:kR c.ord x=true) (hp:∀ ch s',c.pan ch s'->pt dr ch s') (h:uB c x s (tQ c.P c.np pt qt dr y)):s8 c.P c.np pt qt dr (.seq x y) s:=by
 unfold s8;intro w0 C0 β0 a w Q hn hi hx hk;refine wp_seq (nE hc hn hdr x hl (fun ch s' a' w' h1 h2=>hx dr ch s' a' w' (hp ch s' h1) h2) ho hi h fun e s' a' w' h1 h2 => ?_)
 cases e with
 | normal =>
  have h1:s8 c.P c.np pt qt dr y s':=h1
  unfold s8 at h1;exact h1 w0 C0 β0 a' w' Q hn h2 hx hk
 | _=>exact hk dr _ _ _ _ h1 h2
def jts (s:S) (fo:Operand) (xs:List Operand) (K:Nat->List A->Prop):Prop:=match ev s fo with
 | .clo f caps=>K f (xs.map (ev s)++caps)
 | .bm f fs=>K f (fs++xs.map (ev s))
 | _=>False
theorem u6 {ops l2:List Oper} {Q:Exit->Act->World->Prop} (hc:c.ok) (hdr:∃ n,yM n dr=true) (hx:∀ ch s' a' w',c.pan ch s'->Inv dr w0 C0 β0 s' a' w'->Q (.panic ch) a' w'):∀ {l:List Oper} {s:S} {a:Act} {w:World} {K:S->Prop},Inv dr w0 C0 β0 s a w->mR c ops l s K->(∀ s' a' w',K s'->Inv dr w0 C0 β0 s' a' w'->wpList c.P ops.toArray Q l2 a' w')->wpList c.P ops.toArray Q (l++l2) a w
 | [],s,a,w,K,hi,h,hk=>hk s a w h hi
 | o :: r,s,a,w,K,hi,h,hk=>by
  obtain⟨E,hp,ht,hd⟩ := hi
  change aV ops o s (ado c (fun _=>true) s o fun s' => mR c ops r s' K) (wC s o.dst (.tup []) fun s' => mR c ops r s' K) at h
  refine wpList_step fun Kc hKc => ?_
  rcases vN ht h with ⟨h1,h2⟩ | ⟨h1,h2⟩
  ·rw[if_pos h1]
   exact jfI hc hdr ⟨E,hp,ht,hd⟩ h2 hx fun s' a' w' h3 h4=>hKc _ _ (u6 hc hdr hx h4 h3 hk)
  ·rw[if_neg (by rw[h1];simp)]
   obtain⟨s2,k1,k2,k3,k4,k5⟩ := qW (a:=a) hp ht hd (wL _) h2
   exact hKc _ _ (u6 hc hdr hx ⟨E,by rw[k2,k3];exact hp,k4,k5⟩ k1 hk)
theorem jkQ {id:Nat} {l:List Oper} {od:Oper} {fo:Operand} {xs:Array Operand} {ts:Array TypeId} {y:Code} (hc:c.ok) (hdr:∃ n,yM n dr=true) (hp:∀ ch s',c.pan ch s'->pt dr ch s') (hop:od.op = .defer ⟨.value fo,xs,ts⟩) (hg:od.guard=none) (hd:od.dst=none)
  (h:mR c (l++[od]) l s fun s' => jts s' fo xs.toList fun f args=>s8 c.P c.np pt qt ((f,args) :: dr) y s'):s8 c.P c.np pt qt dr (.seq (.region id (l++[od]).toArray false) y) s:=by
 unfold s8;intro w0 C0 β0 a w Q hn hi hx hk;refine wp_seq (wp_region_lit (u6 (l2:=[od]) (Q:=Exit.then (y.wp c.P Q) Q) hc hdr (fun ch s' a' w' h1 h2=>hx dr ch s' a' w' (hp ch s' h1) h2) hi h fun s' a' w' h1 h2 => ?_))
 refine wpList_step fun Kc hKc => ?_
 rw[if_pos (by simp[Region.wanted,hg])]
 obtain⟨E,hpp,ht,hdd⟩ := h2
 unfold jts at h1
 split at h1
 ·rename_i f caps hev
  have hf:=jQ ht fo
  rw[hev] at hf;unfold A.rep at hf
  obtain⟨us,hf,hcaps⟩ := hf
  have hrun:(execOp a'.eval od).run c.P w' = .ok (.defer { target := .fn (.func f) us,args:=xs.map a'.eval }) w':=by simp[execOp,hop,resolve,Deferred.ofValue,hf,Result.andThen]
  unfold Oper.wp;rw[hrun,Oper.upon_defer];rw[hd];unfold s8 at h1;refine hKc _ _ (h1 w0 C0 β0 _ w' Q hn ⟨E,hpp,ht,{ target := .fn (.func f) us,args:=xs.map a'.eval },a'.defers,us,rfl,rfl,?_,hdd⟩ hx hk)
  have:=A.repL_append (gU ht xs.toList) hcaps
  simpa using this
 ·rename_i f fs hev
  have hf:=jQ ht fo
  rw[hev] at hf;unfold A.rep at hf
  obtain⟨us,hf,hcaps⟩ := hf
  have hrun:(execOp a'.eval od).run c.P w' = .ok (.defer { target := .fn (.func f) #[],args:=us++xs.map a'.eval }) w':=by simp[execOp,hop,resolve,Deferred.ofValue,hf,Result.andThen]
  unfold Oper.wp;rw[hrun,Oper.upon_defer];rw[hd];unfold s8 at h1;refine hKc _ _ (h1 w0 C0 β0 _ w' Q hn ⟨E,hpp,ht,{ target := .fn (.func f) #[],args:=us++xs.map a'.eval },a'.defers,#[],rfl,rfl,?_,hdd⟩ hx hk)
  have:=A.repL_append hcaps (gU ht xs.toList)
  simpa using this
 ·exact h1.elim
theorem jcO {n:Nat} {ins:List (List A)} {args:List A} {w:World} {C:Rd} {β:List Nat} {vals:List Value} (h0:Gok C w) (h1:Sub C (kS w)) (h2:β.Nodup) (h3:∀ b ∈ β,∀ o sp,C ⟨b,o,sp⟩ = none) (h4:ins.length=β.length)
  (h5:∀ (i b:Nat) (cs:List A),β[i]? = some b->ins[i]? = some cs->boxAt w ⟨C,β,[]⟩ b cs) (h6:A.repL args ⟨C,β,[]⟩ vals) :
  Inv [] (.of w) C β ⟨args++List.replicate (n-args.length) .dead,ins,[]⟩ { tmps:=vals.toArray++Array.replicate (n-vals.toArray.size) undef,defers:=[] } w:=by
 have hl:=A.repL_len h6
 refine⟨⟨C,β,[]⟩,⟨h1,Sub.refl _,fun _ _ hc => .inl hc,⟨[],by simp,by simp⟩,h2,h3,h4,h5,rfl,fun g r y hg=>by simp at hg,fun g e k n cs y b hg=>by simp at hg,fun g e k n cs y h' e' k' n' cs' z b _ hg=>by simp at hg,fun g y hg=>by simp at hg,Keeps.refl _ _,jku h0⟩,?_,rfl⟩
 have:(vals.toArray++Array.replicate (n-vals.toArray.size) undef).toList=vals++List.replicate (n-args.length) undef:=by simp[hl]
 rw[this];exact A.repL_append h6 (aF _ _)
theorem jnI {f:Nat} {fn:Func} {x:Code} {ins:List (List A)} {args:List A} {post:List (List A)->A->Prop} (hc:c.ok) (hf:c.P.funcs[f]? = some fn) (hb:fn.body=some x) (hname:(fn.name == "runtime.NumGoroutine")=false)
  (hn:ins.length=c.np) (h:nW args->xP args (fn.ntmps-args.length) fun t=>s8 c.P c.np (fun dr ch s=>dS c fn.results.toList post dr (.panicking ch) s) (fun dr e s=>(e = .normal ∨ e = .ret)/\dS c fn.results.toList post dr .returning s) [] x ⟨t,ins,[]⟩):Spec c.P f ins args post:=by
 refine⟨aJ hf hb hname,fun w C β vals h0 h1 h2 h3 h4 h5 h6 => ?_⟩;refine calls_of_wp_defers hf hb ?_
 have hinit:=initK_iff.1 (h (wU _ h6))
 have hinv:=jcO (n:=fn.ntmps) h0 h1 h2 h3 h4 h5 h6
 unfold s8 at hinit
 have hfin:∀ (tmps:Array Value) (s':S) (w':World),jiB c fn.results.toList post s'->Inv [] (.of w) C β s' { tmps:=tmps,defers:=[] } w' -> ∃ v,(results fn tmps).run c.P w' = .ok v w' /\ ∃ outs r v',Ending.returned v = .returned v'/\post outs r/\Keeps β w w'/\outs.length=β.length ∧
   (∀ (i b:Nat) (cs:List A),β[i]? = some b->outs[i]? = some cs->boxAt w' ⟨qV C w w',β,[]⟩ b cs)/\r.rep ⟨qV C w w',β,[]⟩ v':=fun tmps s' w' hr hi =>
  (jhR (w:=w) (C:=C) (β:=β) (fn:=fn) (post:=post) hc h1 (by rw[<- h4,hn]) hr hi).2
 refine hinit (.of w) C β _ w _ (by rw[<- h4,hn]) hinv (fun dr ch s' a' w' hl ⟨E,hp,ht,hd⟩ => ?_) (fun dr e s' a' w' hl ⟨E,hp,ht,hd⟩ => ?_)
 ·exact lG (hfin a'.tmps) dr a'.defers _ s' E w' hd hp ht hl
 ·obtain⟨he,hl⟩ := hl
  rcases he with rfl | rfl
  ·exact lG (hfin a'.tmps) dr a'.defers _ s' E w' hd hp ht hl
  ·exact lG (hfin a'.tmps) dr a'.defers _ s' E w' hd hp ht hl
theorem jc8 {c0:Frame} {cs:List Frame} (h:c0.mode = .returning):recoverD (c0 :: cs)=none:=by
 simp[recoverD,h]
theorem jc7 {c0:Frame} {cs:List Frame} {v:Value} {older:List PanicEntry} (h:c0.mode = .panicking (⟨v,false,false⟩ :: older)):recoverD (c0 :: cs)=some (v,{ c0 with mode := .panicking (⟨v,true,false⟩ :: older) } :: cs):=by
 simp[recoverD,h]
theorem jjM {f id d0:Nat} {fn:Func} {o0:Oper} {ts:Array TypeId} {rest:Code} {ins:List (List A)} {args:List A} {post:List (List A)->A->Prop} {u u':FrameMode} {rv:Value} (hc:c.ok) (hq:∀ ch s,¬ c.pan ch s) (hf:c.P.funcs[f]? = some fn) (hb:fn.body=some (.seq (.region id #[o0] false) rest))
  (k0:o0.op = .call ⟨.builtin .recover,#[],ts⟩ /\ o0.guard=none/\o0.dst=some d0) (hd0:d0<fn.ntmps) (hv:fF rv)
  (hu:(u = .returning/\u' = .returning/\rv = .nilIface) ∨ ∃ v older,u = .panicking (⟨v,false,false⟩ :: older)/\u' = .panicking (⟨v,true,false⟩ :: older)/\rv=v)
  (hn:ins.length=c.np) (h:nW args->xP args (fn.ntmps-args.length) fun t=>Ok c rest ⟨t.set d0 (.v rv),ins,[]⟩ (jhM c fn.results.toList post)):jcg (ClD c.P f u u') ins args post fun _=>False:=by
 intro w C β vals h0 h1 h2 h3 h4 h5 h6;unfold ClD
 refine callsD_of_wpS hf hb fun c0 cs hu0=>wpS_seq (wpS_region ?_)
 have hinit:=initK_iff.1 (h (wU _ h6))
 have hinv:=jcO (n:=fn.ntmps) h0 h1 h2 h3 h4 h5 h6
 have hnp:β.length=c.np:=by rw[<- h4,hn]
 generalize hA:({ tmps:=vals.toArray++Array.replicate (fn.ntmps-vals.toArray.size) undef,defers:=[] } : Act)=a0 at *
 have hsz:d0<a0.tmps.size:=by rw[<- hA];simp;omega
 obtain⟨E,hp,ht,hd⟩ := hinv
 have hi2:Inv [] (.of w) C β ⟨(args++List.replicate (fn.ntmps-args.length) A.dead).set d0 (.v rv),ins,[]⟩ (a0.put (some d0) rv) w:=by
  refine⟨E,hp,?_,hd⟩
  show A.repL _ E (a0.tmps.setIfInBounds d0 rv).toList
  rw[Array.toList_setIfInBounds];exact A.repL_set ht d0 (A.rep_v hv)
 have e0:(execOp a0.eval o0).run c.P w = .ok .recover w:=by
  simp[execOp,k0.1,resolve,invoke,Result.andThen]
  rfl
 have hrange:List.range (#[o0]:Array Oper).size=[0]:=rfl
 rw[hrange]
 have g0:(#[o0]:Array Oper)[0]? = some o0:=rfl
 have w0':∀ y,Region.wanted o0 y=true:=fun y=>by simp[Region.wanted,k0.2.1]
 simp only[wpOpsS,g0,w0',if_true,e0];unfold Ok OkD at hinit
 have fin:∀ cs',cs' = { c0 with mode:=u' } :: cs->rest.wpS c.P (bodyPostS c.P fn c0 cs fun e m w' => m=u'/\((∃ outs r v,e = .returned v/\post outs r/\Keeps β w w'/\outs.length=β.length ∧
   (∀ (i b:Nat) (cs:List A),β[i]? = some b->outs[i]? = some cs->boxAt w' ⟨qV C w w',β,[]⟩ b cs)/\r.rep ⟨qV C w w',β,[]⟩ v) ∨
   ∃ (ch:List PanicEntry) (ns:List Nat),e = .panicked ch/\False/\Keeps β w w'/\ns.length=β.length /\ ∀ (i b n:Nat),β[i]? = some b->ns[i]? = some n->boxAt w' ⟨C,β,[]⟩ b (List.replicate n .dead))) (a0.put (some d0) rv) cs' w:=fun cs' hcs=>by
  subst hcs;refine wpS_of_wp ?_
  refine hinit (.of w) C β _ w _ hnp hi2 (fun ch s' _ _ hh _=>absurd hh (hq ch s')) fun e s' a' w' he hi => ?_
  have ff:=fun (hr:jiB c fn.results.toList post s')=>jhR (w:=w) (C:=C) (β:=β) (fn:=fn) (post:=post) hc h1 hnp hr hi
  cases e with
  | normal=>obtain⟨q1,v,q2,q3⟩ := ff he;exact⟨q1,u',rfl,v,q2,rfl,.inl q3⟩
  | ret=>obtain⟨q1,v,q2,q3⟩ := ff he;exact⟨q1,u',rfl,v,q2,rfl,.inl q3⟩
  | _=>exact he.elim
 rcases hu with ⟨rfl,rfl,rfl⟩ | ⟨v,older,rfl,rfl,rfl⟩
 ·rw[jc8 hu0];simp only[k0.2.2];exact fin _ (by rw[<- hu0])
 ·rw[jc7 hu0];simp only[k0.2.2];exact fin _ rfl
end
end
end Go.Proofs.YtfbkolllpencnaaGreatDoor.Vm
namespace Go.Proofs.YtfbkolllpencnaaGreatDoor.Vm
open Go.RowKit Go.Shelf
theorem jio (u:Ut):jcg (ClD Tryz.prog 43 .returning .returning) [utA u,[intA 0],[intA 0]] [.box 0 0,.box 1 0,.box 2 0] (fun o r=>o=[utA u,[intA 0],[intA 0]]/\r = .tup []) fun _=>False:=by
 refine jjM (jD jqL (fun _=>[0,1,2]) 3) (fun _ _ h=>h) Tryz.func43 rfl (d0:=6) ⟨rfl,rfl,rfl⟩ (by decide) (rv := .nilIface) trivial (.inl ⟨rfl,rfl,rfl⟩) rfl ?_;intro _;conv=>whnf
 refine kI (jD _ _ _) (by kernel_rfl) ?_;conv=>whnf
 exact⟨rfl,rfl⟩
theorem jin (x e:Int) (hx:okE x e) (c0 c1 c2 b1 b2:A):jcg (ClD Tryz.prog 43 (.panicking (qP x e)) (.panicking [⟨.iface 98 (.agg #[.int .i64 x,.int .i64 e]),true,false⟩])) [[c0,c1,c2],[b1],[b2]] [.box 0 0,.box 1 0,.box 2 0]
  (fun o r=>o=[rM,[intA x],[intA e]]/\r = .tup []) fun _=>False:=by
 obtain⟨hx,he⟩ := hx
 refine jjM (jD jqL (fun _=>[0,1,2]) 3) (fun _ _ h=>h) Tryz.func43 rfl (d0:=6) ⟨rfl,rfl,rfl⟩ (by decide) (rv := .iface 98 (.agg #[.int .i64 x,.int .i64 e])) trivial (.inr ⟨_,[],rfl,rfl,rfl⟩) rfl ?_;intro _;conv=>whnf
 refine kI (jD _ _ _) (by kernel_rfl) ?_;conv=>whnf
 refine⟨?_,?_⟩
 ·intro u hu
  simp at hu
  rcases hu with rfl | rfl
  ·exact okV_int.2 (jV (by omega))
  ·exact okV_int.2 (jV (by omega))
 conv=>whnf
 exact⟨rfl,rfl⟩
def jn2:PU->A
 | .ok u => .tup [.agg (utA u),intA 0,intA 0]
 | .bad x e => .tup [.agg rM,intA x,intA e]
def jr6 (p:PU) (ch:List PanicEntry) (s:S):Prop := ∃ (x e:Int) (c0 c1 c2:A) (bx:List (List A)) (a b:A) (t:List A),p = .bad x e/\okE x e/\ch=qP x e/\s.bx=rM :: [intA 0] :: [intA 0] :: bx/\s.t=a :: b :: .box 0 0 :: .box 1 0 :: .box 2 0 :: t/\s.rw=[]
theorem jtm {l:List (List A)} {a b c d:List A} (h:l.length=4) (k:∀ j,j ≠ 3->l[j]? = [a,b,c,d][j]?):∃ d',l=[a,b,c,d']:=by
 match l,h with
 | [x,y,z,w],_ =>
  have h0:=k 0 (by decide)
  have h1:=k 1 (by decide)
  have h2:=k 2 (by decide)
  simp at h0 h1 h2
  exact⟨w,by rw[h0,h1,h2]⟩
def mF (id:Nat):Tr:=match Nat.beq id 5 with
 | true => .q 0 3 (.alt 1 2 (.alt 2 2 (.alt 3 2 (.alt 4 2 (.alt 5 2 .nil .nil) .nil) .nil) (.alt 3 2 (.alt 2 2 (.alt 4 2 (.alt 5 2 .nil .nil) .nil) (.alt 4 2 (.alt 2 2 (.alt 5 2 .nil .nil) .nil) .nil)) .nil)) (.alt 2 2 (.alt 1 2 (.alt 3 2 (.alt 4 2 (.alt 5 2 .nil .nil) .nil) .nil) (.alt 3 2 (.alt 1 2 (.alt 4 2 (.alt 5 2 .nil .nil) .nil) .nil) .nil)) (.alt 3 2 (.alt 1 2 (.alt 2 2 (.alt 4 2 (.alt 5 2 .nil .nil) .nil) (.alt 4 2 (.alt 2 2 (.alt 5 2 .nil .nil) .nil) .nil)) (.alt 2 2 (.alt 1 2 (.alt 4 2 (.alt 5 2 .nil .nil) .nil) .nil) .nil)) .nil)))
 | false => .nil
theorem jir (s:ByteArray) (hs:s.size<=1000000000):Spec Tryz.prog 22 [] [jY s] fun _ r=>r=jn2 (mI s):=by
 obtain⟨R,hR⟩ : ∃ R,mI s=R:=⟨_,rfl⟩
 rw[hR]
 have htk:=jhh s hs
 have hpan:∀ (ch:List PanicEntry) (s':S),jr6 R ch s'->dS ⟨Tryz.prog,tab,mF,fun _=>[0],0,fun _ _=>False⟩ Tryz.f22.results.toList (fun _ r=>r=jn2 R) [(43,[.box 0 0,.box 1 0,.box 2 0])] (.panicking ch) s':=fun ch s' hP=>by
  obtain⟨x,e,c0,c1,c2,bx,a,b,t0,hRe,hran,rfl,hbx,ht,hrw⟩ := hP
  obtain⟨t,bx',rw'⟩ := s'
  simp only at hbx hrw ht
  subst hbx hrw ht;subst hRe;unfold dS;refine⟨(fun h=>by cases h),FrameMode.panicking [⟨.iface 98 (.agg #[.int .i64 x,.int .i64 e]),true,false⟩],?_⟩;unfold joK;refine⟨fun vs w=>rfl,[0,1,2],[],[rM,[intA 0],[intA 0]],[.box 0 0,.box 1 0,.box 2 0],fun o r=>o=[rM,[intA x],[intA e]]/\r = .tup [],by decide,?_,rfl,rfl,fun _=>jin x e hran _ _ _ _ _,?_⟩
  ·intro i hi;simp only[List.length_cons]
   simp at hi
   omega
  rintro o r ⟨rfl,rfl⟩ _;conv=>whnf
  rfl
 refine jnI (jD mF (fun _=>[0]) 0) Tryz.func22 rfl (by kernel_rfl) rfl ?_;intro _;conv=>whnf
 refine jE (jD mF (fun _=>[0]) 0) (dr:=[]) ⟨0,rfl⟩ (.inl rfl) (by kernel_rfl) (fun _ _ h=>h.elim) ?_;conv=>whnf
 refine jE (jD mF (fun _=>[0]) 0) (dr:=[]) ⟨0,rfl⟩ (.inl rfl) (by kernel_rfl) (fun _ _ h=>h.elim) ?_;conv=>whnf
 unfold mI at hR
 by_cases hbig:3000<s.size
 ·rw[if_pos hbig] at hR;rw[j8 (by omega)];conv=>whnf
  refine⟨.inr rfl,?_⟩;conv=>whnf
  subst hR;rfl
 rw[if_neg hbig] at hR;rw[jW (by omega)];conv=>whnf
 refine jE (jD mF (fun _=>[0]) 0) (dr:=[]) ⟨0,rfl⟩ (.inl rfl) (by kernel_rfl) (fun _ _ h=>h.elim) ?_;conv=>whnf
 refine xV [] htk ?_;rintro r rfl
 have htb:=fun h=>jpQ (s:=s) (by omega) h
 unfold ji6
 cases herr:(qY s).err with
 | some pe =>
  obtain⟨p,e⟩ := pe
  rw[herr] at hR
  simp only at hR
  have hne:=(nU (s.data.toList.length+1) 0 s.data.toList).2 p e herr
  conv=>whnf
  refine jE (jD mF (fun _=>[0]) 0) (dr:=[]) ⟨0,rfl⟩ (.inl rfl) (by kernel_rfl) (fun _ _ h=>h.elim) ?_;conv=>whnf
  rw[jW hne.2.1];conv=>whnf
  apply jpk
  ·repeat' (first | (with_reducible refine And.intro ?_ ?_) | (conv=>whnf))
  conv=>whnf
  refine⟨.inr rfl,?_⟩;conv=>whnf
  subst hR;rfl
 | none =>
  rw[herr] at hR
  simp only at hR
  have htb:=htb herr
  have hrl:=gF herr
  rw[<- hrl]
  have hln:(qY s).toks.length+1=(iI s).length:=by rw[hrl];simp
  rw[hln];generalize iI s=T at *;conv=>whnf
  refine jE (jD mF (fun _=>[0]) 0) (dr:=[]) ⟨0,rfl⟩ (.inl rfl) (by kernel_rfl) (fun _ _ h=>h.elim) ?_;conv=>whnf
  refine jkQ (jD mF (fun _=>[0]) 0) ⟨0,rfl⟩ (fun _ _ h=>h.elim) (l:=[_]) rfl rfl rfl ?_;conv=>whnf
  have hpg:=jeG T htb
  have hsan:=fun x e=>jn9 htb (x:=x) (e:=e)
  rw[hR] at hpg;refine jE (c:=⟨Tryz.prog,tab,mF,fun _=>[0],0,jr6 R⟩) (wT _ _ _ _) ⟨3,rfl⟩ (.inr (by kernel_rfl)) (by kernel_rfl) hpan ?_;conv=>whnf
  refine joU 3 [] rfl rfl rfl rfl (fun _=>hpg) (fun ch bx' hp hbl hbx => ?_) ?_
  ·unfold puQ at hp
   split at hp
   ·rename_i x e
    obtain⟨d',rfl⟩ := jtm hbl hbx
    exact⟨x,e,.dead,.dead,.dead,_,_,_,_,rfl,hsan _ _ hR,hp,rfl,rfl,rfl⟩
   ·exact hp.elim
  rintro o r ⟨⟨nm,ts1,ho⟩,huo⟩;cases ho;unfold uoQ at huo
  split at huo
  rotate_left
  ·exact huo.elim
  rename_i u
  subst huo;conv=>whnf
  refine yB (c:=⟨Tryz.prog,tab,mF,fun _=>[0],0,jr6 (.ok u)⟩) (wT _ _ _ _) ⟨3,rfl⟩ (.inr (by kernel_rfl)) (by kernel_rfl) hpan ?_;conv=>whnf
  refine⟨.inr rfl,?_⟩;unfold dS;refine⟨(fun h=>by cases h),FrameMode.returning,?_⟩;unfold joK;refine⟨fun vs w=>rfl,[0,1,2],[],[utA u,[intA 0],[intA 0]],[.box 0 0,.box 1 0,.box 2 0],fun o r=>o=[utA u,[intA 0],[intA 0]]/\r = .tup [],by decide,?_,rfl,rfl,fun _=>jio u,?_⟩
  ·intro i hi;simp only[List.length_cons]
   simp at hi
   omega
  rintro o r ⟨rfl,rfl⟩ _;conv=>whnf
  rfl
end Go.Proofs.YtfbkolllpencnaaGreatDoor.Vm
namespace Go.Proofs.YtfbkolllpencnaaGreatDoor.Vm
open Go.RowKit
section
end
section
end
section
end
end Go.Proofs.YtfbkolllpencnaaGreatDoor.Vm
namespace Go.Proofs.YtfbkolllpencnaaGreatDoor.Vm
open Go.RowKit Go.Shelf
structure Ks (T:List Tk):Prop where
 t:∀ t ∈ T,K6 t
 n:T.length<=1000000
 w:TkW T
structure S6 where
 i:Nat
 a:Int
 e:Int
theorem jbZ:Spec Tryz.prog 79 [] [] fun _ r=>r = .sl 1 builtL.length (bM builtL):=by
 refine eN jH jT 0 Tryz.func79 rfl ?_;intro _;conv=>whnf
 rfl
section
variable {T:List Tk}
end
section
variable {T:List Tk}
end
section
variable {T:List Tk}
def opsA:List A:=[.v (.slice none 0 0),.sl 1 1 [jY pOr],.sl 1 1 [jY kZ],.v (.slice none 0 0),.sl 1 6 [jY pLt,jY pLe,jY pGt,jY pGe,jY jn0,jY pNe],.sl 1 2 [jY wP,jY pMinus],.sl 1 2 [jY zZ,jY qM]]
end
section
variable {T:List Tk}
end
section
variable {T:List Tk}
end
section
variable {T:List Tk}
end
section
variable {T:List Tk}
theorem juC (f b:Nt):WkL [intA 2,intA 0,jY eB,.sl 4 3 (ntA f++(ntA b++jpI (qD [])))] [intA 2,intA 0,jY eB,.sl 4 3 (ntA f++(ntA b++ntA (qD [])))] :=
 .cons (.refl _) (.cons (.refl _) (.cons (.refl _) (.cons (.sl 4 3 (WkL.app (WkL.refl (ntA f)) (WkL.app (WkL.refl (ntA b)) (kN (f:=qD []) rfl)))) .nil)))
end
section
variable {T:List Tk}
end
end Go.Proofs.YtfbkolllpencnaaGreatDoor.Vm
namespace Go.Proofs.YtfbkolllpencnaaGreatDoor.Vm
open Go.RowKit
section
section
variable {w0:W0} {C0:Rd} {β0:List Nat} {bx:List (List A)} {rw:List Row} {w:World} {E:Env}
end
section
variable {P:Program} {pan:List PanicEntry->S->Prop} {Xr:Nat->Bool} {f:Nat} {s:S} {K:A->S->Prop} {post:List A->A->Prop}
end
end
end Go.Proofs.YtfbkolllpencnaaGreatDoor.Vm
namespace Go.Proofs.YtfbkolllpencnaaGreatDoor.Vm
open Go.RowKit Go.Shelf
section
variable {T:List Tk}
end
section
variable {T:List Tk}
end
section
end
section
end
section
end
section
end
section
end
section
end
end Go.Proofs.YtfbkolllpencnaaGreatDoor.Vm
namespace Go.Proofs.YtfbkolllpencnaaGreatDoor.Vm
open Go.RowKit
def jdO (n:Int):Int:=if n<0 then -(n+1) else n
def iU (n m:Int):Int:=(jdO n).tmod m
theorem jf7 {n:Int} (hn : -9223372036854775808<=n/\n<=9223372036854775807):0<=jdO n/\jdO n<=9223372036854775807:=by unfold jdO;split <;> omega
theorem jfe {n m:Int} (hn : -9223372036854775808<=n/\n<=9223372036854775807) (hm:1<=m):0<=iU n m/\iU n m<m:=by
 have h:=jf7 hn
 unfold iU;rw[Int.tmod_eq_emod_of_nonneg h.1];exact⟨Int.emod_nonneg _ (by omega),Int.emod_lt_of_pos _ (by omega)⟩
theorem jff (n m:Int) (hm:1<=m/\m<=9223372036854775807):Spec Tryz.prog 52 [] [intA n,intA m] fun _ r=>(-9223372036854775808<=n/\n<=9223372036854775807)/\r=intA (iU n m):=by
 refine eN jH jT 0 Tryz.func52 rfl ?_;intro hok
 have hn : -9223372036854775808<=n/\n<=9223372036854775807:=okA_int.1 hok.1
 have hab:=jf7 hn
 conv=>whnf
 by_cases h:n<0
 ·refine kE (b:=decide (n<0)) (j8 h) ?_;conv=>whnf
  refine⟨jV (by omega),?_⟩;conv=>whnf
  refine⟨jV (by omega),?_⟩;conv=>whnf
  refine⟨by omega,?_⟩;conv=>whnf
  refine⟨hn,?_⟩
  have:0-(n+1)=jdO n:=by unfold jdO;rw[if_pos h];omega
  rw[this];rfl
 ·refine qN (b:=decide (n<0)) (jW h) ?_;conv=>whnf
  refine⟨by omega,?_⟩;conv=>whnf
  refine⟨hn,?_⟩
  have:n=jdO n:=by unfold jdO;rw[if_neg h]
  show A.v (.int .i64 (n.tmod m))=intA ((jdO n).tmod m)
  rw[<- this];rfl
end Go.Proofs.YtfbkolllpencnaaGreatDoor.Vm
namespace Go.Proofs.YtfbkolllpencnaaGreatDoor.Vm
open Go.RowKit Go.Shelf
def phA (κ i:Nat):Nat:=if i<70 then (4*κ+12)*i else (4*κ+12)*70
def rO (κ i:Nat):Nat:=if i<70 then (4*κ+12)*i else (4*κ+12)*70+6*κ+18
theorem oE (κ i:Nat):phA κ i<=phA κ (i+1)/\(i<70->phA κ i+(4*κ+12)<=phA κ (i+1)):=by
 unfold phA;generalize 4*κ+12=c
 have e:c*(i+1)=c*i+c:=Nat.mul_succ c i
 by_cases h:i<70
 ·rw[if_pos h]
  by_cases h2:i+1<70
  ·rw[if_pos h2];omega
  ·rw[if_neg h2]
   obtain rfl:i=69:=by omega
   omega
 ·rw[if_neg h,if_neg (by omega)];omega
theorem jdb (κ i:Nat):(i<70->rO κ i=phA κ i)/\(70<=i->rO κ i=phA κ i+6*κ+18):=by
 unfold rO phA
 by_cases h:i<70
 ·rw[if_pos h,if_pos h];omega
 ·rw[if_neg h,if_neg h];omega
theorem gA (κ i:Nat):rO κ i<=rO κ (i+1)/\(i<70->rO κ i+(4*κ+12)<=rO κ (i+1)):=by
 have h1:=jdb κ i
 have h2:=jdb κ (i+1)
 have h3:=oE κ i
 omega
theorem dW {κ w b i j:Nat} (hij:i<=j) (h:w+phA κ i<=b+phA κ j):w+rO κ i<=b+rO κ j:=by
 have h1:=jdb κ i
 have h2:=jdb κ j
 omega
theorem jeB (κ i:Nat):rO κ i<=(4*κ+12)*70+6*κ+18/\(67<=i->i<70->rO κ i+(4*κ+12)<=(4*κ+12)*70)/\(70<=i->rO κ i=(4*κ+12)*70+6*κ+18):=by
 unfold rO;generalize 4*κ+12=c
 by_cases h:i<70
 ·rw[if_pos h]
  have e:c*(i+1)=c*i+c:=Nat.mul_succ c i
  have e2:c*(i+1)<=c*70:=Nat.mul_le_mul_left c (by omega)
  omega
 ·rw[if_neg h];omega
def dgN (n:Int):Nat:=if n<10 then 1 else if n<100 then 2 else if n<1000 then 3 else 10
mutual
def wN (κ:Nat):Nt->Nat
 | .mk k n s kids=>(if k=12 then κ+dgN n else if k=13 then 5+κ else if k=14 then κ+s.size else if k=15 then κ+s.size else if k=16 then 6+3*κ else s.size+(2+3*κ))+wNs κ kids
def wNs (κ:Nat):List Nt->Nat
 | []=>0
 | f :: l=>wN κ f+wNs κ l
end
theorem joo (κ:Nat) (n:Int):wN κ (.mk 12 n eB [])=κ+dgN n:=rfl
theorem jk9 (κ:Nat) (n:Int):wN κ (.mk 13 n eB [])=5+κ:=rfl
theorem joq (κ:Nat) (s:ByteArray):wN κ (.mk 14 0 s [])=κ+s.size:=rfl
theorem jop (κ:Nat) (s:ByteArray):wN κ (.mk 15 0 s [])=κ+s.size:=rfl
theorem jon (κ:Nat) (f:Nt):wN κ (.mk 16 0 eB [f])=6+3*κ+wN κ f:=rfl
theorem jf0 (κ:Nat) (s:ByteArray) (f:Nt):wN κ (.mk 17 0 s [f])=s.size+(2+3*κ)+wN κ f:=by
 rw[wN,wNs,wNs];simp
theorem sZ (κ:Nat) (s:ByteArray) (f g:Nt):wN κ (.mk 18 0 s [f,g])=s.size+(2+3*κ)+(wN κ f+wN κ g):=by
 rw[wN,wNs,wNs,wNs];simp
def jrO (l:List Nt) (i:Nat):Nt:=l.getD i (.mk 0 0 eB [])
mutual
def wS (κ:Nat):Nt->Nat
 | .mk k n s kids=>if k=1 then s.size+2+3*κ+wNs κ kids else if k=4 then 9+6*κ+wNs κ kids else if k=5 then 7+3*κ else if k=6 then 8+3*κ else if k=7 then 5+2*κ else if k=10 then 5+2*κ else if k=8 then 7+3*κ+wNs κ kids else if k=9 then 5+2*κ+wNs κ kids else if k=3 then 5+κ+wN κ (jrO kids 0)+(wBs κ kids).getD 1 0 else 2+κ+wN κ (jrO kids 0)+(wBs κ kids).getD 1 0+(if 0<(jrO kids 2).kids.length then 4+κ+(wBs κ kids).getD 2 0 else 0)
def wB (κ:Nat):Nt->Nat
 | .mk _ _ _ kids=>2+2*κ+wSs κ kids
def wSs (κ:Nat):List Nt->Nat
 | []=>0
 | f :: l=>wS κ f+wSs κ l
def wBs (κ:Nat):List Nt->List Nat
 | []=>[]
 | f :: l=>wB κ f :: wBs κ l
end
theorem jbQ (κ:Nat) (l:List Nt):wB κ (qD l)=2+2*κ+wSs κ l:=by unfold qD;rw[wB]
theorem jiT (κ:Nat) (s:ByteArray) (f:Nt):wS κ (.mk 1 0 s [f])=s.size+2+3*κ+wN κ f:=rfl
theorem jow (κ:Nat) (n:Int) (f g h:Nt):wS κ (.mk 4 n eB [f,g,h])=9+6*κ+(wN κ f+(wN κ g+wN κ h)):=rfl
theorem joz (κ:Nat) (n:Int):wS κ (.mk 5 n eB [])=7+3*κ:=rfl
theorem jor (κ:Nat) (n:Int):wS κ (.mk 6 n eB [])=8+3*κ:=rfl
theorem joy (κ:Nat):wS κ (.mk 7 0 eB [])=5+2*κ:=rfl
theorem jox (κ:Nat):wS κ (.mk 10 0 eB [])=5+2*κ:=rfl
theorem jov (κ:Nat) (f g:Nt):wS κ (.mk 8 0 eB [f,g])=7+3*κ+(wN κ f+wN κ g):=rfl
theorem jos (κ:Nat) (f:Nt):wS κ (.mk 9 0 eB [f])=5+2*κ+wN κ f:=rfl
theorem joA (κ:Nat) (c b:Nt):wS κ (.mk 3 0 eB [c,b])=5+κ+wN κ c+wB κ b:=rfl
theorem jou (κ:Nat) (c b d:Nt):wS κ (.mk 2 0 eB [c,b,d])=2+κ+wN κ c+wB κ b+(if 0<d.kids.length then 4+κ+wB κ d else 0):=rfl
theorem jot (κ:Nat) (c:Nt) (l m:List Nt):wS κ (.mk 2 0 eB [c,qD l,qD m])<=4+3*κ+wN κ c+wSs κ l+(6+3*κ+wSs κ m)/\(m.length=0->wS κ (.mk 2 0 eB [c,qD l,qD m])=4+3*κ+wN κ c+wSs κ l):=by
 rw[jou,jbQ,jbQ];refine⟨by split <;> omega,fun h => ?_⟩;rw[if_neg (by show ¬ 0<m.length;omega)];omega
def wHs (κ:Nat):List (Int × Nt)->Nat
 | []=>0
 | x :: l=>11+3*κ+wB κ x.2+wHs κ l
def pkF (l:List Int) (i:Nat):Int:=if i<l.length then iU (l.getD i 0) 1000000 else 0
theorem juj (l:List Int) (i:Nat):Spec Tryz.prog 28 [] [.sl 1 l.length (wO l),intA i,intA 1000000] fun _ r=>(0<=pkF l i/\pkF l i<1000000)/\r=intA (pkF l i):=by
 unfold pkF;refine eN jH jT 0 Tryz.func28 rfl ?_;intro hok;conv=>whnf
 rw[jW (show ¬ (i:Int)<0 by omega)];conv=>whnf
 by_cases hi:i<l.length
 ·have hr:=jiC l i hi
  have e:l.getD i 0=l[i]:=by rw[List.getD_eq_getElem?_getD,List.getElem?_eq_getElem hi];rfl
  rw[<- e] at hr;rw[if_pos hi,jW (show ¬ (l.length:Int)<=i by omega)];generalize l.getD i 0=x at *
  have ha:=jff x 1000000 (by omega)
  conv=>whnf
  (refine uP ?_;try with_reducible exact trivial)
  (generalize hrq:jJ _ _ (wO l)=rq;obtain rfl:rq=[intA x]:=hrq.symm.trans (hr);clear hrq;conv=>whnf)
  refine xV [] ha ?_;rintro r ⟨hx,rfl⟩;conv=>whnf
  exact⟨jfe hx (by omega),rfl⟩
 ·rw[if_neg hi,j8 (show (l.length:Int)<=i by omega)];conv=>whnf
  exact⟨by omega,rfl⟩
def bxG (l:List Int) (i:Nat):List A:=[.sl 1 l.length (wO l),.v (.int .i64 i)]
def pk (l:List Int) (i m:Nat):Nat:=(pkF l i).toNat % m
theorem vF (l:List Int) (i:Nat) {m:Nat} (h:0<m):pk l i m<m:=Nat.mod_lt _ h
theorem x9 (l:List Int) (i m:Nat) (hi:i<=1000000000) (hm:1<=m/\m<=1000):Spec Tryz.prog 12 [bxG l i] [.box 0 0,.v (.int .i64 m)] fun o r=>o=[bxG l (i+1)]/\r = .v (.int .i64 (pk l i m)):=by
 unfold pk;refine eN jtY jT 1 Tryz.func12 rfl ?_;intro hok;conv=>whnf
 refine xV [] (juj l i) ?_;rintro r ⟨hr,rfl⟩
 obtain⟨k,hk⟩ : ∃ k:Nat,pkF l i=(k:Int):=⟨(pkF l i).toNat,by omega⟩
 rw[hk] at hr ⊢;conv=>whnf
 (refine uP ?_;try with_reducible exact trivial)
 have e:((k:Int)).tmod (m:Int)=((k % m:Nat):Int):=by rw[Int.tmod_eq_emod_of_nonneg (by omega)];omega
 exact⟨rfl,by rw[e];rfl⟩
theorem cG {α:Type} (f:α->A) (l:List α) (i:Nat) (h:i<l.length):(l.map f).drop (i*1)=f l[i] :: (l.map f).drop (i+1):=by
 rw[Nat.mul_one,List.drop_eq_getElem_cons (by simpa using h),List.getElem_map]
theorem oF (l:List Int) (i m:Nat) (h:l.length<=70):70<=i->pk l i m=0:=fun hi=>by
 unfold pk pkF;rw[if_neg (by omega)];exact Nat.zero_mod m
def varL:List ByteArray:=[⟨#[100]⟩,⟨#[100,100,49]⟩,⟨#[118]⟩,⟨#[119,50]⟩]
theorem jrI (l:List Int) (i:Nat) (hi:i<=1000000000):∃ s ∈ varL,(s.size<=3/\(l.length<=70->70<=i->s.size=1))/\Spec Tryz.prog 53 [bxG l i] [.box 0 0] fun o r=>o=[bxG l (i+1)]/\r=jY s:=by
 have hp:=x9 l i 4 hi (by decide)
 have hlt:=vF l i (m:=4) (by decide)
 have ho:=oF l i 4
 generalize pk l i 4=k at *;refine⟨varL[k]'hlt,List.getElem_mem _,?_,?_⟩
 ·have h4:∀ (k:Nat) (h:k<varL.length),(varL[k]'h).size<=3/\(k=0->(varL[k]'h).size=1):=by decide
  exact⟨(h4 k hlt).1,fun a b=>(h4 k hlt).2 (ho a b)⟩
 have hr:=cG jY varL k hlt
 generalize varL[k]'hlt=s at *;refine eN jH jT 1 Tryz.func53 rfl ?_;intro hok;conv=>whnf
 refine zC 0 [] hp ?_;rintro o r ⟨ho,rfl⟩;cases ho;conv=>whnf
 refine⟨⟨by omega,by omega⟩,?_⟩;conv=>whnf
 generalize hrq:List.drop (Int.toNat (k:Int)*_) _=rq
 obtain rfl:rq=_ :: _:=hrq.symm.trans hr
 clear hrq;conv=>whnf
 exact⟨rfl,rfl⟩
def litL:List Int:=[0,1,2,3,7,100,2147483647,30]
def opL:List ByteArray:=[wP,pMinus,zZ,qM]
inductive EI:Nat->Nt->Prop
 | lit (d:Nat) (n:Int) (h:n ∈ litL):EI d (.mk 12 n eB [])
 | var (d:Nat) (s:ByteArray) (h:s ∈ varL):EI d (.mk 14 0 s [])
 | nam (d:Nat) (s:ByteArray) (h:s ∈ builtL):EI d (.mk 15 0 s [])
 | drw (d:Nat) (f:Nt) (h:EI d f):EI (d+1) (.mk 16 0 eB [f])
 | neg (d:Nat) (f:Nt) (h:EI d f):EI (d+1) (.mk 17 0 pMinus [f])
 | bin (d:Nat) (s:ByteArray) (f g:Nt) (hs:s ∈ opL) (h1:EI d f) (h2:EI d g):EI (d+1) (.mk 18 0 s [f,g])
def bI:Nat->Nat
 | 0=>2
 | d+1=>2+2*bI d
theorem jqr:∀ d,2<=bI d
 | 0=>Nat.le_refl _
 | d+1=>by unfold bI;omega
def jr2 (l:List Int) (d:Nat):Prop:=l.length<=70 -> ∀ (i:Nat) (z:Int),z.toNat=d -> -5<=z->z<=10->i+bI d<=1000000000 -> ∃ f i',EI d f/\i<=i'/\i'<=i+bI d/\(∀ κ,1<=κ->κ<=7->wN κ f+phA κ i<=1+κ+phA κ i')/\Spec Tryz.prog 54 [bxG l i] [.box 0 0,.v (.int .i64 z)] fun o r=>o=[bxG l i']/\r = .agg (ntA f)
theorem gw {P:Program} {f:Nat} {cs args:List A} {X:List (List A)} {t:Nt} (h:Spec P f [cs] args fun o r=>o=X /\ ∃ l,r = .agg l/\WkL l (ntA t)):Spec P f [cs] args fun o r=>o=X/\r = .agg (ntA t) :=
 Spec.weaken h fun o r ⟨h1,l,h2,h3⟩=>⟨o,.agg (ntA t),⟨h1,rfl⟩,.refl _,by rw[h2];exact .agg h3⟩
theorem jtx (l:List Int) (d:Nat) (ih:∀ e,d=e+1->jr2 l e):jr2 l d:=fun hl i z hz h1 h2 hi=>by
 have hge:=jqr d
 have hp:=x9 l i 12 (by omega) (by decide)
 have hlt:=vF l i (m:=12) (by decide)
 have ho:=oF l i 12 hl
 have p0:=fun κ=>oE κ i
 have p1:=fun κ=>oE κ (i+1)
 have pe2:∀ κ,phA κ (i+2)=phA κ (i+1+1):=fun _=>rfl
 generalize pk l i 12=n0 at *
 obtain⟨n,hn⟩ : ∃ n,(if z<=0 then n0 % 6 else n0)=n:=⟨_,rfl⟩
 have hn12:n<12:=by split at hn <;> omega
 have hn6:z<=0->n<6:=fun h=>by rw[if_pos h] at hn;omega
 have hlo:n ≠ 0->i<70:=fun h=>by
  by_cases h70:70<=i
  ·have:=ho h70
   split at hn <;> omega
  ·omega
 by_cases hA:n<=1
 ·have hp2:=x9 l (i+1) 8 (by omega) (by decide)
  have hlt2:=vF l (i+1) (m:=8) (by decide)
  have ho2:=oF l (i+1) 8 hl
  generalize pk l (i+1) 8=k8 at *
  have hlw:∀ (k:Nat) (h:k<litL.length),dgN (litL[k]'h)<=10/\(k=0->dgN (litL[k]'h)=1):=by decide
  have hlk:=hlw k8 hlt2
  refine⟨.mk 12 (litL[k8]'hlt2) eB [],i+2,.lit _ _ (List.getElem_mem _),by omega,by omega,fun κ ka kb=>by have p0:=p0 κ;have p1:=p1 κ;have pe2:=pe2 κ;rw[joo];omega,?_⟩;clear hlw hlk
  have hr:=cG intA litL k8 hlt2
  generalize litL[k8]'hlt2=x at *
  rcases (by omega:n=0 ∨ n=1) with rfl | rfl
  all_goals
   refine gw ?_;refine eN jd7 (fun _=>[0]) 1 Tryz.func54 rfl ?_;intro hok;conv=>whnf
   refine zC 0 [] hp ?_;rintro o r ⟨ho,rfl⟩;cases ho;conv=>whnf
   by_cases hz0:z<=0
   all_goals
    first
    | (rw[if_pos hz0] at hn;rw[j8 hz0];(conv=>whnf);refine⟨by decide,?_⟩;rw[Int.tmod_eq_emod_of_nonneg (by omega),show (n0:Int) % 6=((n0 % 6:Nat):Int) by omega,hn])
    | (rw[if_neg hz0] at hn;rw[jW hz0];(conv=>whnf);rw[hn])
    conv=>whnf
   all_goals
    refine zC 0 [] hp2 ?_;rintro o r ⟨ho,rfl⟩;cases ho;conv=>whnf
    refine⟨⟨by omega,by omega⟩,?_⟩;conv=>whnf
    generalize hrq:List.drop (Int.toNat (k8:Int)*_) _=rq
    obtain rfl:rq=_ :: _:=hrq.symm.trans hr
    clear hrq;conv=>whnf
    exact⟨rfl,_,rfl,kN (f := .mk 12 x eB []) rfl⟩
 by_cases hB:n<=3
 ·obtain⟨s,hs1,hs2,hp2⟩ := jrI l (i+1) (by omega)
  refine⟨.mk 14 0 s [],i+2,.var _ _ hs1,by omega,by omega,fun κ ka kb=>by have p0:=p0 κ;have p1:=p1 κ;have pe2:=pe2 κ;rw[joq];omega,?_⟩
  rcases (by omega:n=2 ∨ n=3) with rfl | rfl
  all_goals
   refine gw ?_;refine eN jd7 (fun _=>[0]) 1 Tryz.func54 rfl ?_;intro hok;conv=>whnf
   refine zC 0 [] hp ?_;rintro o r ⟨ho,rfl⟩;cases ho;conv=>whnf
   by_cases hz0:z<=0
   all_goals
    first
    | (rw[if_pos hz0] at hn;rw[j8 hz0];(conv=>whnf);refine⟨by decide,?_⟩;rw[Int.tmod_eq_emod_of_nonneg (by omega),show (n0:Int) % 6=((n0 % 6:Nat):Int) by omega,hn])
    | (rw[if_neg hz0] at hn;rw[jW hz0];(conv=>whnf);rw[hn])
    conv=>whnf
   all_goals
    refine zC 0 [] hp2 ?_;rintro o r ⟨ho,rfl⟩;cases ho;conv=>whnf
    exact⟨rfl,_,rfl,kN (f := .mk 14 0 s []) rfl⟩
 by_cases hC:n<=5
 ·have hp2:=x9 l (i+1) 9 (by omega) (by decide)
  have hlt2:=vF l (i+1) (m:=9) (by decide)
  generalize pk l (i+1) 9=k8 at *
  have hlw:∀ (k:Nat) (h:k<builtL.length),(builtL[k]'h).size<=5:=by decide
  have hlk:=hlw k8 hlt2
  refine⟨.mk 15 0 (builtL[k8]'hlt2) [],i+2,.nam _ _ (List.getElem_mem _),by omega,by omega,fun κ ka kb=>by have p0:=p0 κ;have p1:=p1 κ;have pe2:=pe2 κ;rw[jop];omega,?_⟩;clear hlw hlk
  have hr:jJ 1 k8 (bM builtL)=[jY (builtL[k8]'hlt2)]:=yX jY builtL k8 hlt2
  have hbu:=jbZ
  generalize builtL[k8]'hlt2=s at *
  rcases (by omega:n=4 ∨ n=5) with rfl | rfl
  all_goals
   refine gw ?_;refine eN jd7 (fun _=>[0]) 1 Tryz.func54 rfl ?_;intro hok;conv=>whnf
   refine zC 0 [] hp ?_;rintro o r ⟨ho,rfl⟩;cases ho;conv=>whnf
   by_cases hz0:z<=0
   all_goals
    first
    | (rw[if_pos hz0] at hn;rw[j8 hz0];(conv=>whnf);refine⟨by decide,?_⟩;rw[Int.tmod_eq_emod_of_nonneg (by omega),show (n0:Int) % 6=((n0 % 6:Nat):Int) by omega,hn])
    | (rw[if_neg hz0] at hn;rw[jW hz0];(conv=>whnf);rw[hn])
    conv=>whnf
   all_goals
    (refine xV [] hbu ?_;rintro r rfl;conv=>whnf)
    refine zC 0 [] hp2 ?_;rintro o r ⟨ho,rfl⟩;cases ho;conv=>whnf
    refine⟨⟨by omega,by show (k8:Int)<9;omega⟩,?_⟩;conv=>whnf
    (generalize hrq:jJ _ _ (bM builtL)=rq;obtain rfl:rq=[jY s]:=hrq.symm.trans (hr);clear hrq;conv=>whnf)
    exact⟨rfl,_,rfl,kN (f := .mk 15 0 s []) rfl⟩
 have hzp:0<z:=by
  by_cases h:0<z
  ·exact h
  ·have:=hn6 (by omega);omega
 obtain⟨e,rfl⟩ : ∃ e,d=e+1:=⟨d-1,by omega⟩
 have ihe:=ih e rfl
 unfold bI at hi
 by_cases hD:n<=7
 ·obtain⟨f,i2,hf,g1,g2,w1,hs⟩ := ihe hl (i+1) (z-1) (by omega) (by omega) (by omega) (by omega)
  rcases (by omega:n=6 ∨ n=7) with rfl | rfl
  ·refine⟨.mk 16 0 eB [f],i2,.drw _ _ hf,by omega,by unfold bI;omega,fun κ ka kb=>by have p0:=p0 κ;have p1:=p1 κ;have pe2:=pe2 κ;have w1:=w1 κ ka kb;rw[jon];omega,?_⟩;refine gw ?_;refine eN jd7 (fun _=>[0]) 1 Tryz.func54 rfl ?_;intro hok;conv=>whnf
   refine zC 0 [] hp ?_;rintro o r ⟨ho,rfl⟩;cases ho;conv=>whnf
   by_cases hz0:z<=0
   all_goals
    first
    | (rw[if_pos hz0] at hn;rw[j8 hz0];(conv=>whnf);refine⟨by decide,?_⟩;rw[Int.tmod_eq_emod_of_nonneg (by omega),show (n0:Int) % 6=((n0 % 6:Nat):Int) by omega,hn])
    | (rw[if_neg hz0] at hn;rw[jW hz0];(conv=>whnf);rw[hn])
    conv=>whnf
   ·exact absurd hz0 (by omega)
   refine⟨jV (by omega),?_⟩;conv=>whnf
   refine zC 0 [] hs ?_;rintro o r ⟨ho,rfl⟩;cases ho;conv=>whnf
   exact⟨rfl,_,rfl,by rw[xH];exact kK _⟩
  ·have hsz:pMinus.size=1:=rfl
   refine⟨.mk 17 0 pMinus [f],i2,.neg _ _ hf,by omega,by unfold bI;omega,fun κ ka kb=>by have p0:=p0 κ;have p1:=p1 κ;have pe2:=pe2 κ;have w1:=w1 κ ka kb;rw[jf0];omega,?_⟩;refine gw ?_;refine eN jd7 (fun _=>[0]) 1 Tryz.func54 rfl ?_;intro hok;conv=>whnf
   refine zC 0 [] hp ?_;rintro o r ⟨ho,rfl⟩;cases ho;conv=>whnf
   by_cases hz0:z<=0
   all_goals
    first
    | (rw[if_pos hz0] at hn;rw[j8 hz0];(conv=>whnf);refine⟨by decide,?_⟩;rw[Int.tmod_eq_emod_of_nonneg (by omega),show (n0:Int) % 6=((n0 % 6:Nat):Int) by omega,hn])
    | (rw[if_neg hz0] at hn;rw[jW hz0];(conv=>whnf);rw[hn])
    conv=>whnf
   ·exact absurd hz0 (by omega)
   refine⟨jV (by omega),?_⟩;conv=>whnf
   refine zC 0 [] hs ?_;rintro o r ⟨ho,rfl⟩;cases ho;conv=>whnf
   exact⟨rfl,_,rfl,by rw[xH];exact kK _⟩
 have hp2:=x9 l (i+1) 4 (by omega) (by decide)
 have hlt2:=vF l (i+1) (m:=4) (by decide)
 generalize pk l (i+1) 4=k8 at *
 obtain⟨f,i2,hf,g1,g2,w1,hs⟩ := ihe hl (i+1+1) (z-1) (by omega) (by omega) (by omega) (by omega)
 obtain⟨g,i3,hg,g3,g4,w2,hs2⟩ := ihe hl i2 (z-1) (by omega) (by omega) (by omega) (by omega)
 have hlw:∀ (k:Nat) (h:k<opL.length),(opL[k]'h).size=1:=by decide
 have hlk:=hlw k8 hlt2
 refine⟨.mk 18 0 (opL[k8]'hlt2) [f,g],i3,.bin _ _ _ _ (List.getElem_mem _) hf hg,by omega,by unfold bI;omega,fun κ ka kb=>by have p0:=p0 κ;have p1:=p1 κ;have pe2:=pe2 κ;have w1:=w1 κ ka kb;have w2:=w2 κ ka kb;rw[sZ];omega,?_⟩;clear hlw hlk
 have hr:=cG jY opL k8 hlt2
 generalize opL[k8]'hlt2=s at *
 rcases (by omega:n=8 ∨ n=9 ∨ n=10 ∨ n=11) with rfl | rfl | rfl | rfl
 all_goals
  refine gw ?_;refine eN jd7 (fun _=>[0]) 1 Tryz.func54 rfl ?_;intro hok;conv=>whnf
  refine zC 0 [] hp ?_;rintro o r ⟨ho,rfl⟩;cases ho;conv=>whnf
  by_cases hz0:z<=0
  all_goals
   first
   | (rw[if_pos hz0] at hn;rw[j8 hz0];(conv=>whnf);refine⟨by decide,?_⟩;rw[Int.tmod_eq_emod_of_nonneg (by omega),show (n0:Int) % 6=((n0 % 6:Nat):Int) by omega,hn])
   | (rw[if_neg hz0] at hn;rw[jW hz0];(conv=>whnf);rw[hn])
   conv=>whnf
  ·exact absurd hz0 (by omega)
  refine zC 0 [] hp2 ?_;rintro o r ⟨ho,rfl⟩;cases ho;conv=>whnf
  refine⟨⟨by omega,by omega⟩,?_⟩;conv=>whnf
  generalize hrq:List.drop (Int.toNat (k8:Int)*_) _=rq
  obtain rfl:rq=_ :: _:=hrq.symm.trans hr
  clear hrq;conv=>whnf
  refine⟨jV (by omega),?_⟩;conv=>whnf
  refine zC 0 [] hs ?_;rintro o r ⟨ho,rfl⟩;cases ho;conv=>whnf
  refine⟨jV (by omega),?_⟩;conv=>whnf
  refine zC 0 [] hs2 ?_;rintro o r ⟨ho,rfl⟩;cases ho;conv=>whnf
  exact⟨rfl,_,rfl,by rw[gN];exact kK _⟩
theorem fT (l:List Int):∀ d,jr2 l d
 | 0=>jtx l 0 fun e h=>by omega
 | d+1=>jtx l (d+1) fun e h=>by
  obtain rfl:d=e:=by omega
  exact fT l d
def bolL:List ByteArray:=[kZ,pOr]
inductive EB:Nat->Nt->Prop
 | lit (d n:Nat) (h:n<2):EB d (.mk 13 n eB [])
 | nt (d:Nat) (f:Nt) (h:EB d f):EB (d+1) (.mk 17 0 pNot [f])
 | bin (d:Nat) (s:ByteArray) (f g:Nt) (hs:s ∈ bolL) (h1:EB d f) (h2:EB d g):EB (d+1) (.mk 18 0 s [f,g])
 | cmp (d:Nat) (s:ByteArray) (f g:Nt) (hs:s ∈ cmpL) (h1:EI (d-1) f) (h2:EI (d-1) g):EB d (.mk 18 0 s [f,g])
def bB:Nat->Nat
 | 0=>6
 | d+1=>2+2*bB d+2*bI d
theorem jtg:∀ d,2+2*bI (d-1)<=bB d
 | 0=>by decide
 | d+1=>by unfold bB;rw[Nat.add_sub_cancel];omega
def jr1 (l:List Int) (d:Nat):Prop:=l.length<=70 -> ∀ (i:Nat) (z:Int),z.toNat=d -> -3<=z->z<=10->i+bB d<=1000000000 -> ∃ f i',EB d f/\i<=i'/\i'<=i+bB d/\(∀ κ,1<=κ->κ<=7->wN κ f+phA κ i<=5+κ+phA κ i')/\Spec Tryz.prog 55 [bxG l i] [.box 0 0,.v (.int .i64 z)] fun o r=>o=[bxG l i']/\r = .agg (ntA f)
theorem jqz (l:List Int) (d:Nat) (ih:∀ e,d=e+1->jr1 l e):jr1 l d:=fun hl i z hz h1 h2 hi=>by
 have hge:=jtg d
 have hge2:=jqr (d-1)
 have hp:=x9 l i 8 (by omega) (by decide)
 have hlt:=vF l i (m:=8) (by decide)
 have ho:=oF l i 8 hl
 have p0:=fun κ=>oE κ i
 have p1:=fun κ=>oE κ (i+1)
 have pe2:∀ κ,phA κ (i+2)=phA κ (i+1+1):=fun _=>rfl
 generalize pk l i 8=n0 at *
 obtain⟨n,hn⟩ : ∃ n,(if z<=0 then n0 % 4 else n0)=n:=⟨_,rfl⟩
 have hn12:n<8:=by split at hn <;> omega
 have hn6:z<=0->n<4:=fun h=>by rw[if_pos h] at hn;omega
 have hlo:n ≠ 0->i<70:=fun h=>by
  by_cases h70:70<=i
  ·have:=ho h70
   split at hn <;> omega
  ·omega
 by_cases hA:n=0
 ·have hp2:=x9 l (i+1) 2 (by omega) (by decide)
  have hlt2:=vF l (i+1) (m:=2) (by decide)
  generalize pk l (i+1) 2=k8 at *;refine⟨.mk 13 k8 eB [],i+2,.lit _ _ hlt2,by omega,by omega,fun κ ka kb=>by have p0:=p0 κ;have p1:=p1 κ;have pe2:=pe2 κ;rw[jk9];omega,?_⟩;subst hA;refine gw ?_;refine eN jjK (fun _=>[0]) 1 Tryz.func55 rfl ?_;intro hok;conv=>whnf
  refine zC 0 [] hp ?_;rintro o r ⟨ho,rfl⟩;cases ho;conv=>whnf
  by_cases hz0:z<=0
  all_goals
   first
   | (rw[if_pos hz0] at hn;rw[j8 hz0];(conv=>whnf);refine⟨by decide,?_⟩;rw[Int.tmod_eq_emod_of_nonneg (by omega),show (n0:Int) % 4=((n0 % 4:Nat):Int) by omega,hn])
   | (rw[if_neg hz0] at hn;rw[jW hz0];(conv=>whnf);rw[hn])
   conv=>whnf
  all_goals
   refine zC 0 [] hp2 ?_;rintro o r ⟨ho,rfl⟩;cases ho;conv=>whnf
   exact⟨rfl,_,rfl,kN (f := .mk 13 k8 eB []) rfl⟩
 by_cases hB:n<=4
 ·have hp2:=x9 l (i+1) 6 (by omega) (by decide)
  have hlt2:=vF l (i+1) (m:=6) (by decide)
  generalize pk l (i+1) 6=k8 at *
  obtain⟨f,i2,hf,g1,g2,w1,hs⟩ := fT l (d-1) hl (i+1+1) (z-1) (by omega) (by omega) (by omega) (by omega)
  obtain⟨g,i3,hg,g3,g4,w2,hs2⟩ := fT l (d-1) hl i2 (z-1) (by omega) (by omega) (by omega) (by omega)
  have hlw:∀ (k:Nat) (h:k<cmpL.length),(cmpL[k]'h).size<=2:=by decide
  have hlk:=hlw k8 hlt2
  refine⟨.mk 18 0 (cmpL[k8]'hlt2) [f,g],i3,.cmp _ _ _ _ (List.getElem_mem _) hf hg,by omega,by omega,fun κ ka kb=>by have p0:=p0 κ;have p1:=p1 κ;have pe2:=pe2 κ;have w1:=w1 κ ka kb;have w2:=w2 κ ka kb;rw[sZ];omega,?_⟩;clear hlw hlk
  have hr:=cG jY cmpL k8 hlt2
  generalize cmpL[k8]'hlt2=s at *
  rcases (by omega:n=1 ∨ n=2 ∨ n=3 ∨ n=4) with rfl | rfl | rfl | rfl
  all_goals
   refine gw ?_;refine eN jjK (fun _=>[0]) 1 Tryz.func55 rfl ?_;intro hok;conv=>whnf
   refine zC 0 [] hp ?_;rintro o r ⟨ho,rfl⟩;cases ho;conv=>whnf
   by_cases hz0:z<=0
   all_goals
    first
    | (rw[if_pos hz0] at hn;rw[j8 hz0];(conv=>whnf);refine⟨by decide,?_⟩;rw[Int.tmod_eq_emod_of_nonneg (by omega),show (n0:Int) % 4=((n0 % 4:Nat):Int) by omega,hn])
    | (rw[if_neg hz0] at hn;rw[jW hz0];(conv=>whnf);rw[hn])
    conv=>whnf
   all_goals
    refine zC 0 [] hp2 ?_;rintro o r ⟨ho,rfl⟩;cases ho;conv=>whnf
    refine⟨⟨by omega,by omega⟩,?_⟩;conv=>whnf
    generalize hrq:List.drop (Int.toNat (k8:Int)*_) _=rq
    obtain rfl:rq=_ :: _:=hrq.symm.trans hr
    clear hrq;conv=>whnf
    refine⟨jV (by omega),?_⟩;conv=>whnf
    refine zC 0 [] hs ?_;rintro o r ⟨ho,rfl⟩;cases ho;conv=>whnf
    refine⟨jV (by omega),?_⟩;conv=>whnf
    refine zC 0 [] hs2 ?_;rintro o r ⟨ho,rfl⟩;cases ho;conv=>whnf
    exact⟨rfl,_,rfl,by rw[gN];exact kK _⟩
 have hzp:0<z:=by
  by_cases h:0<z
  ·exact h
  ·have:=hn6 (by omega);omega
 obtain⟨e,rfl⟩ : ∃ e,d=e+1:=⟨d-1,by omega⟩
 have ihe:=ih e rfl
 unfold bB at hi
 by_cases hD:n=5
 ·obtain⟨f,i2,hf,g1,g2,w1,hs⟩ := ihe hl (i+1) (z-1) (by omega) (by omega) (by omega) (by omega)
  subst hD
  have hsz:pNot.size=1:=rfl
  refine⟨.mk 17 0 pNot [f],i2,.nt _ _ hf,by omega,by unfold bB;omega,fun κ ka kb=>by have p0:=p0 κ;have p1:=p1 κ;have pe2:=pe2 κ;have w1:=w1 κ ka kb;rw[jf0];omega,?_⟩;refine gw ?_;refine eN jjK (fun _=>[0]) 1 Tryz.func55 rfl ?_;intro hok;conv=>whnf
  refine zC 0 [] hp ?_;rintro o r ⟨ho,rfl⟩;cases ho;conv=>whnf
  by_cases hz0:z<=0
  all_goals
   first
   | (rw[if_pos hz0] at hn;rw[j8 hz0];(conv=>whnf);refine⟨by decide,?_⟩;rw[Int.tmod_eq_emod_of_nonneg (by omega),show (n0:Int) % 4=((n0 % 4:Nat):Int) by omega,hn])
   | (rw[if_neg hz0] at hn;rw[jW hz0];(conv=>whnf);rw[hn])
   conv=>whnf
  ·exact absurd hz0 (by omega)
  refine⟨jV (by omega),?_⟩;conv=>whnf
  refine zC 0 [] hs ?_;rintro o r ⟨ho,rfl⟩;cases ho;conv=>whnf
  exact⟨rfl,_,rfl,by rw[xH];exact kK _⟩
 have hp2:=x9 l (i+1) 2 (by omega) (by decide)
 have hlt2:=vF l (i+1) (m:=2) (by decide)
 generalize pk l (i+1) 2=k8 at *
 obtain⟨f,i2,hf,g1,g2,w1,hs⟩ := ihe hl (i+1+1) (z-1) (by omega) (by omega) (by omega) (by omega)
 obtain⟨g,i3,hg,g3,g4,w2,hs2⟩ := ihe hl i2 (z-1) (by omega) (by omega) (by omega) (by omega)
 have hlw:∀ (k:Nat) (h:k<bolL.length),(bolL[k]'h).size=2:=by decide
 have hlk:=hlw k8 hlt2
 refine⟨.mk 18 0 (bolL[k8]'hlt2) [f,g],i3,.bin _ _ _ _ (List.getElem_mem _) hf hg,by omega,by unfold bB;omega,fun κ ka kb=>by have p0:=p0 κ;have p1:=p1 κ;have pe2:=pe2 κ;have w1:=w1 κ ka kb;have w2:=w2 κ ka kb;rw[sZ];omega,?_⟩;clear hlw hlk
 have hr:=cG jY bolL k8 hlt2
 generalize bolL[k8]'hlt2=s at *
 rcases (by omega:n=6 ∨ n=7) with rfl | rfl
 all_goals
  refine gw ?_;refine eN jjK (fun _=>[0]) 1 Tryz.func55 rfl ?_;intro hok;conv=>whnf
  refine zC 0 [] hp ?_;rintro o r ⟨ho,rfl⟩;cases ho;conv=>whnf
  by_cases hz0:z<=0
  all_goals
   first
   | (rw[if_pos hz0] at hn;rw[j8 hz0];(conv=>whnf);refine⟨by decide,?_⟩;rw[Int.tmod_eq_emod_of_nonneg (by omega),show (n0:Int) % 4=((n0 % 4:Nat):Int) by omega,hn])
   | (rw[if_neg hz0] at hn;rw[jW hz0];(conv=>whnf);rw[hn])
   conv=>whnf
  ·exact absurd hz0 (by omega)
  refine zC 0 [] hp2 ?_;rintro o r ⟨ho,rfl⟩;cases ho;conv=>whnf
  refine⟨⟨by omega,by omega⟩,?_⟩;conv=>whnf
  generalize hrq:List.drop (Int.toNat (k8:Int)*_) _=rq
  obtain rfl:rq=_ :: _:=hrq.symm.trans hr
  clear hrq;conv=>whnf
  refine⟨jV (by omega),?_⟩;conv=>whnf
  refine zC 0 [] hs ?_;rintro o r ⟨ho,rfl⟩;cases ho;conv=>whnf
  refine⟨jV (by omega),?_⟩;conv=>whnf
  refine zC 0 [] hs2 ?_;rintro o r ⟨ho,rfl⟩;cases ho;conv=>whnf
  exact⟨rfl,_,rfl,by rw[gN];exact kK _⟩
theorem jhU (l:List Int):∀ d,jr1 l d
 | 0=>jqz l 0 fun e h=>by omega
 | d+1=>jqz l (d+1) fun e h=>by
  obtain rfl:d=e:=by omega
  exact jhU l d
inductive ES:Nat->Nt->Prop
 | asg (d e:Nat) (s:ByteArray) (f:Nt) (hs:s ∈ varL) (h:EI e f) (he:e<=2):ES d (.mk 1 0 s [f])
 | snd (d n:Nat) (f g h:Nt) (hn:n<4) (h1:EI 0 f) (h2:EI 1 g) (h3:EI 1 h):ES d (.mk 4 n eB [f,g,h])
 | tim (d n:Nat) (hn:n<3):ES d (.mk 5 n eB [])
 | can (d n:Nat) (hn:n<3):ES d (.mk 6 n eB [])
 | syn (d:Nat):ES d (.mk 7 0 eB [])
 | rep (d:Nat) (f g:Nt) (h1:EI 0 f) (h2:EI 1 g):ES d (.mk 8 0 eB [f,g])
 | fai (d:Nat) (f:Nt) (h1:EI 1 f):ES d (.mk 9 0 eB [f])
 | stp (d:Nat):ES d (.mk 10 0 eB [])
 | whi (d:Nat) (c:Nt) (l:List Nt) (h1:EB 1 c) (h2:l.length<=2) (h3:∀ s ∈ l,ES d s):ES (d+1) (.mk 3 0 eB [c,qD l])
 | iff (d:Nat) (c:Nt) (l m:List Nt) (h1:EB 2 c) (h2:l.length<=2) (h3:∀ s ∈ l,ES d s) (h4:m.length<=2) (h5:∀ s ∈ m,ES d s):ES (d+1) (.mk 2 0 eB [c,qD l,qD m])
theorem jps (c:Nat) {n:Nat} (h:n<=2):(n=0/\c*n=0) ∨ (n=1/\c*n=c) ∨ (n=2/\c*n=2*c):=by
 rcases (by omega:n=0 ∨ n=1 ∨ n=2) with rfl | rfl | rfl <;> omega
def bS:Nat->Nat
 | 0=>60
 | d+1=>62+4*bS d
theorem jth:∀ d,60<=bS d
 | 0=>Nat.le_refl _
 | d+1=>by unfold bS;omega
def jll (l:List Int) (d:Nat):Prop:=l.length<=70 -> ∀ (i:Nat) (z:Int),z.toNat=d->0<=z->z<=5->i+bS d<=1000000000 -> ∃ f i',ES d f/\i<=i'/\i'<=i+bS d/\(∀ κ,1<=κ->κ<=7->wS κ f+rO κ i<=4+4*κ+rO κ i')/\Spec Tryz.prog 29 [bxG l i] [.box 0 0,.v (.int .i64 z)] fun o r=>o=[bxG l i']/\r = .agg (ntA f)
def jr3 (l:List Int) (d:Nat):Prop:=l.length<=70 -> ∀ (i m:Nat) (z:Int),z.toNat=d->0<=z->z<=5->m<=3->i+(1+m*bS d)<=1000000000 -> ∃ k i',k.length<=m/\(∀ s ∈ k,ES d s)/\i<=i'/\i'<=i+(1+m*bS d)/\((∀ κ,1<=κ->κ<=7->wSs κ k+rO κ (i+1)<=(4+4*κ)*k.length+rO κ i')/\(70<=i->k.length=0))/\Spec Tryz.prog 13 [bxG l i] [.box 0 0,.v (.int .i64 z),.v (.int .i64 m)] fun o r=>o=[bxG l i']/\r = .agg (ntA (qD k))
theorem jrH (l:List Int) (d:Nat) (ih:∀ e,d=e+1->jr3 l e):jll l d:=fun hl i z hz h1 h2 hi=>by
 have hge:=jth d
 have b0:bI 0=2:=rfl
 have b1:bI 1=6:=rfl
 have b2:bI 2=14:=rfl
 have c1:bB 1=18:=rfl
 have c2:bB 2=50:=rfl
 have hp:=x9 l i 14 (by omega) (by decide)
 have hlt:=vF l i (m:=14) (by decide)
 have ho:=oF l i 14 hl
 have p0:=fun κ=>gA κ i
 have p1:=fun κ=>gA κ (i+1)
 have pe2:∀ κ,rO κ (i+2)=rO κ (i+1+1):=fun _=>rfl
 have p2:=fun κ=>gA κ (i+1+1)
 generalize pk l i 14=n0 at *
 obtain⟨n,hn⟩ : ∃ n,(if z<=0 then n0 % 11 else n0)=n:=⟨_,rfl⟩
 have hn12:n<14:=by split at hn <;> omega
 have hn6:z<=0->n<11:=fun h=>by rw[if_pos h] at hn;omega
 have hlo:n ≠ 0->i<70:=fun h=>by
  by_cases h70:70<=i
  ·have:=ho h70
   split at hn <;> omega
  ·omega
 by_cases hA:n<=2
 ·obtain⟨s,hs1,⟨hz3,hz1⟩,hp2⟩ := jrI l (i+1) (by omega)
  have hz1:=hz1 hl
  obtain⟨f,i2,hf,g1,g2,w1,hs⟩ := fT l 2 hl (i+1+1) 2 (by omega) (by omega) (by omega) (by omega)
  have w1:=fun κ ka kb=>dW (by omega) (w1 κ ka kb)
  refine⟨.mk 1 0 s [f],i2,.asg _ _ _ _ hs1 hf (Nat.le_refl _),by omega,by omega,fun κ ka kb=>by have p0:=p0 κ;have p1:=p1 κ;have pe2:=pe2 κ;have p2:=p2 κ;have w1:=w1 κ ka kb;rw[jiT];omega,?_⟩
  rcases (by omega:n=0 ∨ n=1 ∨ n=2) with rfl | rfl | rfl
  all_goals
   refine gw ?_;refine eN eX (fun _=>[0]) 1 Tryz.func29 rfl ?_;intro hok;conv=>whnf
   refine zC 0 [] hp ?_;rintro o r ⟨ho,rfl⟩;cases ho;conv=>whnf
   by_cases hz0:z<=0
   all_goals
    first
    | (rw[if_pos hz0] at hn;rw[j8 hz0];(conv=>whnf);refine⟨by decide,?_⟩;rw[Int.tmod_eq_emod_of_nonneg (by omega),show (n0:Int) % 11=((n0 % 11:Nat):Int) by omega,hn])
    | (rw[if_neg hz0] at hn;rw[jW hz0];(conv=>whnf);rw[hn])
    conv=>whnf
   all_goals
    refine zC 0 [] hp2 ?_;rintro o r ⟨ho,rfl⟩;cases ho;conv=>whnf
    refine zC 0 [] hs ?_;rintro o r ⟨ho,rfl⟩;cases ho;conv=>whnf
    exact⟨rfl,_,rfl,by rw[xH];exact kK _⟩
 by_cases hB:n<=4
 ·obtain⟨f,i2,hf,g1,g2,w1,hs1⟩ := fT l 0 hl (i+1) 0 (by omega) (by omega) (by omega) (by omega)
  have hp2:=x9 l i2 4 (by omega) (by decide)
  have hlt2:=vF l i2 (m:=4) (by decide)
  generalize pk l i2 4=k8 at *
  have p3:=fun κ=>oE κ i2
  have q0:=fun κ=>oE κ i
  have qi:=fun κ=>jdb κ i
  obtain⟨g,i3,hg,g3,g4,w2,hs2⟩ := fT l 1 hl (i2+1) 1 (by omega) (by omega) (by omega) (by omega)
  obtain⟨h,i4,hh,g5,g6,w3,hs3⟩ := fT l 1 hl i3 1 (by omega) (by omega) (by omega) (by omega)
  refine⟨.mk 4 k8 eB [f,g,h],i4,.snd _ _ _ _ _ hlt2 hf hg hh,by omega,by omega,fun κ ka kb=>by have qj:=jdb κ i4;have p3:=p3 κ;have q0:=q0 κ;have qi:=qi κ;have w1:=w1 κ ka kb;have w2:=w2 κ ka kb;have w3:=w3 κ ka kb;rw[jow];omega,?_⟩
  rcases (by omega:n=3 ∨ n=4) with rfl | rfl
  all_goals
   refine gw ?_;refine eN eX (fun _=>[0]) 1 Tryz.func29 rfl ?_;intro hok;conv=>whnf
   refine zC 0 [] hp ?_;rintro o r ⟨ho,rfl⟩;cases ho;conv=>whnf
   by_cases hz0:z<=0
   all_goals
    first
    | (rw[if_pos hz0] at hn;rw[j8 hz0];(conv=>whnf);refine⟨by decide,?_⟩;rw[Int.tmod_eq_emod_of_nonneg (by omega),show (n0:Int) % 11=((n0 % 11:Nat):Int) by omega,hn])
    | (rw[if_neg hz0] at hn;rw[jW hz0];(conv=>whnf);rw[hn])
    conv=>whnf
   all_goals
    refine zC 0 [] hs1 ?_;rintro o r ⟨ho,rfl⟩;cases ho;conv=>whnf
    refine zC 0 [] hp2 ?_;rintro o r ⟨ho,rfl⟩;cases ho;conv=>whnf
    refine zC 0 [] hs2 ?_;rintro o r ⟨ho,rfl⟩;cases ho;conv=>whnf
    refine zC 0 [] hs3 ?_;rintro o r ⟨ho,rfl⟩;cases ho;conv=>whnf
    exact⟨rfl,_,rfl,by rw[cP];exact kK _⟩
 by_cases hC:n<=6
 ·have hp2:=x9 l (i+1) 3 (by omega) (by decide)
  have hlt2:=vF l (i+1) (m:=3) (by decide)
  generalize pk l (i+1) 3=k8 at *
  rcases (by omega:n=5 ∨ n=6) with rfl | rfl
  ·refine⟨.mk 5 k8 eB [],i+2,.tim _ _ hlt2,by omega,by omega,fun κ ka kb=>by have p0:=p0 κ;have p1:=p1 κ;have pe2:=pe2 κ;have p2:=p2 κ;rw[joz];omega,?_⟩;refine gw ?_;refine eN eX (fun _=>[0]) 1 Tryz.func29 rfl ?_;intro hok;conv=>whnf
   refine zC 0 [] hp ?_;rintro o r ⟨ho,rfl⟩;cases ho;conv=>whnf
   by_cases hz0:z<=0
   all_goals
    first
    | (rw[if_pos hz0] at hn;rw[j8 hz0];(conv=>whnf);refine⟨by decide,?_⟩;rw[Int.tmod_eq_emod_of_nonneg (by omega),show (n0:Int) % 11=((n0 % 11:Nat):Int) by omega,hn])
    | (rw[if_neg hz0] at hn;rw[jW hz0];(conv=>whnf);rw[hn])
    conv=>whnf
   all_goals
    refine zC 0 [] hp2 ?_;rintro o r ⟨ho,rfl⟩;cases ho;conv=>whnf
    exact⟨rfl,_,rfl,kN (f := .mk 5 k8 eB []) rfl⟩
  ·refine⟨.mk 6 k8 eB [],i+2,.can _ _ hlt2,by omega,by omega,fun κ ka kb=>by have p0:=p0 κ;have p1:=p1 κ;have pe2:=pe2 κ;have p2:=p2 κ;rw[jor];omega,?_⟩;refine gw ?_;refine eN eX (fun _=>[0]) 1 Tryz.func29 rfl ?_;intro hok;conv=>whnf
   refine zC 0 [] hp ?_;rintro o r ⟨ho,rfl⟩;cases ho;conv=>whnf
   by_cases hz0:z<=0
   all_goals
    first
    | (rw[if_pos hz0] at hn;rw[j8 hz0];(conv=>whnf);refine⟨by decide,?_⟩;rw[Int.tmod_eq_emod_of_nonneg (by omega),show (n0:Int) % 11=((n0 % 11:Nat):Int) by omega,hn])
    | (rw[if_neg hz0] at hn;rw[jW hz0];(conv=>whnf);rw[hn])
    conv=>whnf
   all_goals
    refine zC 0 [] hp2 ?_;rintro o r ⟨ho,rfl⟩;cases ho;conv=>whnf
    exact⟨rfl,_,rfl,kN (f := .mk 6 k8 eB []) rfl⟩
 by_cases hD:n=7
 ·subst hD;refine⟨.mk 7 0 eB [],i+1,.syn _,by omega,by omega,fun κ ka kb=>by have p0:=p0 κ;have p1:=p1 κ;have pe2:=pe2 κ;have p2:=p2 κ;rw[joy];omega,?_⟩;refine gw ?_;refine eN eX (fun _=>[0]) 1 Tryz.func29 rfl ?_;intro hok;conv=>whnf
  refine zC 0 [] hp ?_;rintro o r ⟨ho,rfl⟩;cases ho;conv=>whnf
  by_cases hz0:z<=0
  all_goals
   first
   | (rw[if_pos hz0] at hn;rw[j8 hz0];(conv=>whnf);refine⟨by decide,?_⟩;rw[Int.tmod_eq_emod_of_nonneg (by omega),show (n0:Int) % 11=((n0 % 11:Nat):Int) by omega,hn])
   | (rw[if_neg hz0] at hn;rw[jW hz0];(conv=>whnf);rw[hn])
   conv=>whnf
  all_goals
   exact⟨rfl,_,rfl,kN (f := .mk 7 0 eB []) rfl⟩
 by_cases hE:n=8
 ·subst hE
  obtain⟨f,i2,hf,g1,g2,w1,hs1⟩ := fT l 0 hl (i+1) 0 (by omega) (by omega) (by omega) (by omega)
  have w1:=fun κ ka kb=>dW (by omega) (w1 κ ka kb)
  obtain⟨g,i3,hg,g3,g4,w2,hs2⟩ := fT l 1 hl i2 1 (by omega) (by omega) (by omega) (by omega)
  have w2:=fun κ ka kb=>dW (by omega) (w2 κ ka kb)
  refine⟨.mk 8 0 eB [f,g],i3,.rep _ _ _ hf hg,by omega,by omega,fun κ ka kb=>by have p0:=p0 κ;have p1:=p1 κ;have pe2:=pe2 κ;have p2:=p2 κ;have w1:=w1 κ ka kb;have w2:=w2 κ ka kb;rw[jov];omega,?_⟩;refine gw ?_;refine eN eX (fun _=>[0]) 1 Tryz.func29 rfl ?_;intro hok;conv=>whnf
  refine zC 0 [] hp ?_;rintro o r ⟨ho,rfl⟩;cases ho;conv=>whnf
  by_cases hz0:z<=0
  all_goals
   first
   | (rw[if_pos hz0] at hn;rw[j8 hz0];(conv=>whnf);refine⟨by decide,?_⟩;rw[Int.tmod_eq_emod_of_nonneg (by omega),show (n0:Int) % 11=((n0 % 11:Nat):Int) by omega,hn])
   | (rw[if_neg hz0] at hn;rw[jW hz0];(conv=>whnf);rw[hn])
   conv=>whnf
  all_goals
   refine zC 0 [] hs1 ?_;rintro o r ⟨ho,rfl⟩;cases ho;conv=>whnf
   refine zC 0 [] hs2 ?_;rintro o r ⟨ho,rfl⟩;cases ho;conv=>whnf
   exact⟨rfl,_,rfl,by rw[gN];exact kK _⟩
 by_cases hF:n=9
 ·subst hF
  obtain⟨f,i2,hf,g1,g2,w1,hs1⟩ := fT l 1 hl (i+1) 1 (by omega) (by omega) (by omega) (by omega)
  have w1:=fun κ ka kb=>dW (by omega) (w1 κ ka kb)
  refine⟨.mk 9 0 eB [f],i2,.fai _ _ hf,by omega,by omega,fun κ ka kb=>by have p0:=p0 κ;have p1:=p1 κ;have pe2:=pe2 κ;have p2:=p2 κ;have w1:=w1 κ ka kb;rw[jos];omega,?_⟩;refine gw ?_;refine eN eX (fun _=>[0]) 1 Tryz.func29 rfl ?_;intro hok;conv=>whnf
  refine zC 0 [] hp ?_;rintro o r ⟨ho,rfl⟩;cases ho;conv=>whnf
  by_cases hz0:z<=0
  all_goals
   first
   | (rw[if_pos hz0] at hn;rw[j8 hz0];(conv=>whnf);refine⟨by decide,?_⟩;rw[Int.tmod_eq_emod_of_nonneg (by omega),show (n0:Int) % 11=((n0 % 11:Nat):Int) by omega,hn])
   | (rw[if_neg hz0] at hn;rw[jW hz0];(conv=>whnf);rw[hn])
   conv=>whnf
  all_goals
   refine zC 0 [] hs1 ?_;rintro o r ⟨ho,rfl⟩;cases ho;conv=>whnf
   exact⟨rfl,_,rfl,by rw[xH];exact kK _⟩
 by_cases hG:n=10
 ·subst hG
  have hp2:=x9 l (i+1) 3 (by omega) (by decide)
  have hlt2:=vF l (i+1) (m:=3) (by decide)
  generalize pk l (i+1) 3=k8 at *
  by_cases hk:0<k8
  ·obtain⟨s,hs1,⟨hz3,_⟩,hp3⟩ := jrI l (i+1+1) (by omega)
   obtain⟨f,i2,hf,g1,g2,w1,hs⟩ := fT l 1 hl (i+1+1+1) 1 (by omega) (by omega) (by omega) (by omega)
   have w1:=fun κ ka kb=>dW (by omega) (w1 κ ka kb)
   refine⟨.mk 1 0 s [f],i2,.asg _ _ _ _ hs1 hf (by decide),by omega,by omega,fun κ ka kb=>by have p0:=p0 κ;have p1:=p1 κ;have pe2:=pe2 κ;have p2:=p2 κ;have w1:=w1 κ ka kb;rw[jiT];omega,?_⟩;refine gw ?_;refine eN eX (fun _=>[0]) 1 Tryz.func29 rfl ?_;intro hok;conv=>whnf
   refine zC 0 [] hp ?_;rintro o r ⟨ho,rfl⟩;cases ho;conv=>whnf
   by_cases hz0:z<=0
   all_goals
    first
    | (rw[if_pos hz0] at hn;rw[j8 hz0];(conv=>whnf);refine⟨by decide,?_⟩;rw[Int.tmod_eq_emod_of_nonneg (by omega),show (n0:Int) % 11=((n0 % 11:Nat):Int) by omega,hn])
    | (rw[if_neg hz0] at hn;rw[jW hz0];(conv=>whnf);rw[hn])
    conv=>whnf
   all_goals
    refine zC 0 [] hp2 ?_;rintro o r ⟨ho,rfl⟩;cases ho;conv=>whnf
    rw[j8 (show 0<(k8:Int) by omega)];conv=>whnf
    refine zC 0 [] hp3 ?_;rintro o r ⟨ho,rfl⟩;cases ho;conv=>whnf
    refine zC 0 [] hs ?_;rintro o r ⟨ho,rfl⟩;cases ho;conv=>whnf
    exact⟨rfl,_,rfl,by rw[xH];exact kK _⟩
  ·refine⟨.mk 10 0 eB [],i+2,.stp _,by omega,by omega,fun κ ka kb=>by have p0:=p0 κ;have p1:=p1 κ;have pe2:=pe2 κ;have p2:=p2 κ;rw[jox];omega,?_⟩;refine gw ?_;refine eN eX (fun _=>[0]) 1 Tryz.func29 rfl ?_;intro hok;conv=>whnf
   refine zC 0 [] hp ?_;rintro o r ⟨ho,rfl⟩;cases ho;conv=>whnf
   by_cases hz0:z<=0
   all_goals
    first
    | (rw[if_pos hz0] at hn;rw[j8 hz0];(conv=>whnf);refine⟨by decide,?_⟩;rw[Int.tmod_eq_emod_of_nonneg (by omega),show (n0:Int) % 11=((n0 % 11:Nat):Int) by omega,hn])
    | (rw[if_neg hz0] at hn;rw[jW hz0];(conv=>whnf);rw[hn])
    conv=>whnf
   all_goals
    refine zC 0 [] hp2 ?_;rintro o r ⟨ho,rfl⟩;cases ho;conv=>whnf
    rw[jW (show ¬ 0<(k8:Int) by omega)];conv=>whnf
    exact⟨rfl,_,rfl,kN (f := .mk 10 0 eB []) rfl⟩
 have hzp:0<z:=by
  by_cases h:0<z
  ·exact h
  ·have:=hn6 (by omega);omega
 obtain⟨e,rfl⟩ : ∃ e,d=e+1:=⟨d-1,by omega⟩
 have ihe:=ih e rfl
 unfold bS at hi
 by_cases hH:n=11
 ·subst hH
  obtain⟨f,i2,hf,g1,g2,w1,hs1⟩ := jhU l 1 hl (i+1) 1 (by omega) (by omega) (by omega) (by omega)
  have w1:=fun κ ka kb=>dW (by omega) (w1 κ ka kb)
  have p3:=fun κ=>gA κ i2
  obtain⟨k,i3,q1,q2,g3,g4,⟨w2,w3⟩,hs2⟩ := ihe hl i2 2 (z-1) (by omega) (by omega) (by omega) (by omega) (by omega)
  refine⟨.mk 3 0 eB [f,qD k],i3,.whi _ _ _ hf q1 q2,by omega,by unfold bS;omega,fun κ ka kb=>by have p0:=p0 κ;have p1:=p1 κ;have pe2:=pe2 κ;have p2:=p2 κ;have w1:=w1 κ ka kb;have w2:=w2 κ ka kb;have p3:=p3 κ;have hm2:=jps (4+4*κ) q1;rw[joA,jbQ];omega,?_⟩;refine gw ?_;refine eN eX (fun _=>[0]) 1 Tryz.func29 rfl ?_;intro hok;conv=>whnf
  refine zC 0 [] hp ?_;rintro o r ⟨ho,rfl⟩;cases ho;conv=>whnf
  by_cases hz0:z<=0
  all_goals
   first
   | (rw[if_pos hz0] at hn;rw[j8 hz0];(conv=>whnf);refine⟨by decide,?_⟩;rw[Int.tmod_eq_emod_of_nonneg (by omega),show (n0:Int) % 11=((n0 % 11:Nat):Int) by omega,hn])
   | (rw[if_neg hz0] at hn;rw[jW hz0];(conv=>whnf);rw[hn])
   conv=>whnf
  ·exact absurd hz0 (by omega)
  refine zC 0 [] hs1 ?_;rintro o r ⟨ho,rfl⟩;cases ho;conv=>whnf
  refine⟨jV (by omega),?_⟩;conv=>whnf
  refine zC 0 [] hs2 ?_;rintro o r ⟨ho,rfl⟩;cases ho;conv=>whnf
  exact⟨rfl,_,rfl,by rw[gN];exact kK _⟩
 obtain⟨f,i2,hf,g1,g2,w1,hs1⟩ := jhU l 2 hl (i+1) 2 (by omega) (by omega) (by omega) (by omega)
 have w1:=fun κ ka kb=>dW (by omega) (w1 κ ka kb)
 have p3:=fun κ=>gA κ i2
 obtain⟨k,i3,q1,q2,g3,g4,⟨w2,w3⟩,hs2⟩ := ihe hl i2 2 (z-1) (by omega) (by omega) (by omega) (by omega) (by omega)
 have hp2:=x9 l i3 2 (by omega) (by decide)
 have hlt2:=vF l i3 (m:=2) (by decide)
 generalize pk l i3 2=k8 at *
 by_cases hk:k8=1
 ·have p4:=fun κ=>gA κ i3
  have p5:=fun κ=>gA κ (i3+1)
  obtain⟨m,i4,q3,q4,g5,g6,⟨w4,w5⟩,hs3⟩ := ihe hl (i3+1) 2 (z-1) (by omega) (by omega) (by omega) (by omega) (by omega)
  refine⟨.mk 2 0 eB [f,qD k,qD m],i4,.iff _ _ _ _ hf q1 q2 q3 q4,by omega,by unfold bS;omega,fun κ ka kb=>by have p0:=p0 κ;have p1:=p1 κ;have pe2:=pe2 κ;have p2:=p2 κ;have p3:=p3 κ;have p4:=p4 κ;have p5:=p5 κ;have w1:=w1 κ ka kb;have w2:=w2 κ ka kb;have w4:=w4 κ ka kb;have hif:=jot κ f k m;have hm2:=jps (4+4*κ) q1;have hm3:=jps (4+4*κ) q3;omega,?_⟩
  rcases (by omega:n=12 ∨ n=13) with rfl | rfl
  all_goals
   refine gw ?_;refine eN eX (fun _=>[0]) 1 Tryz.func29 rfl ?_;intro hok;conv=>whnf
   refine zC 0 [] hp ?_;rintro o r ⟨ho,rfl⟩;cases ho;conv=>whnf
   by_cases hz0:z<=0
   all_goals
    first
    | (rw[if_pos hz0] at hn;rw[j8 hz0];(conv=>whnf);refine⟨by decide,?_⟩;rw[Int.tmod_eq_emod_of_nonneg (by omega),show (n0:Int) % 11=((n0 % 11:Nat):Int) by omega,hn])
    | (rw[if_neg hz0] at hn;rw[jW hz0];(conv=>whnf);rw[hn])
    conv=>whnf
   ·exact absurd hz0 (by omega)
   refine zC 0 [] hs1 ?_;rintro o r ⟨ho,rfl⟩;cases ho;conv=>whnf
   refine⟨jV (by omega),?_⟩;conv=>whnf
   refine zC 0 [] hs2 ?_;rintro o r ⟨ho,rfl⟩;cases ho;conv=>whnf
   refine zC 0 [] hp2 ?_;rintro o r ⟨ho,rfl⟩;cases ho;conv=>whnf
   rw[j8 (show (k8:Int)=1 by omega)];conv=>whnf
   refine⟨jV (by omega),?_⟩;conv=>whnf
   refine zC 0 [] hs3 ?_;rintro o r ⟨ho,rfl⟩;cases ho;conv=>whnf
   exact⟨rfl,_,rfl,by rw[cP];exact kK _⟩
 ·have p4:=fun κ=>gA κ i3
  refine⟨.mk 2 0 eB [f,qD k,qD []],i3+1,.iff _ _ _ _ hf q1 q2 (by decide) (by simp),by omega,by unfold bS;omega,fun κ ka kb=>by have p0:=p0 κ;have p1:=p1 κ;have pe2:=pe2 κ;have p2:=p2 κ;have p3:=p3 κ;have p4:=p4 κ;have w1:=w1 κ ka kb;have w2:=w2 κ ka kb;have hif:=(jot κ f k []).2 rfl;have hm2:=jps (4+4*κ) q1;omega,?_⟩
  rcases (by omega:n=12 ∨ n=13) with rfl | rfl
  all_goals
   refine gw ?_;refine eN eX (fun _=>[0]) 1 Tryz.func29 rfl ?_;intro hok;conv=>whnf
   refine zC 0 [] hp ?_;rintro o r ⟨ho,rfl⟩;cases ho;conv=>whnf
   by_cases hz0:z<=0
   all_goals
    first
    | (rw[if_pos hz0] at hn;rw[j8 hz0];(conv=>whnf);refine⟨by decide,?_⟩;rw[Int.tmod_eq_emod_of_nonneg (by omega),show (n0:Int) % 11=((n0 % 11:Nat):Int) by omega,hn])
    | (rw[if_neg hz0] at hn;rw[jW hz0];(conv=>whnf);rw[hn])
    conv=>whnf
   ·exact absurd hz0 (by omega)
   refine zC 0 [] hs1 ?_;rintro o r ⟨ho,rfl⟩;cases ho;conv=>whnf
   refine⟨jV (by omega),?_⟩;conv=>whnf
   refine zC 0 [] hs2 ?_;rintro o r ⟨ho,rfl⟩;cases ho;conv=>whnf
   refine zC 0 [] hp2 ?_;rintro o r ⟨ho,rfl⟩;cases ho;conv=>whnf
   rw[jW (show ¬ (k8:Int)=1 by omega)];conv=>whnf
   exact⟨rfl,_,rfl,by rw[cP];exact juC f (qD k)⟩
inductive Chn (l:List Int) (z:Int):Nat->List Nt->Nat->Prop
 | nil (i:Nat):Chn l z i [] i
 | cons (i i1 i2:Nat) (f:Nt) (ss:List Nt) (h:Spec Tryz.prog 29 [bxG l i] [.box 0 0,.v (.int .i64 z)] fun o r=>o=[bxG l i1]/\r = .agg (ntA f)) (k:Chn l z i1 ss i2):Chn l z i (f :: ss) i2
theorem jlV {l:List Int} {d:Nat} (hS:jll l d) (hl:l.length<=70) {z:Int} (hz:z.toNat=d) (h1:0<=z) (h2:z<=5):∀ (k i:Nat),i+k*bS d<=1000000000 -> ∃ ss i',ss.length=k/\(∀ s ∈ ss,ES d s)/\i<=i'/\i'<=i+k*bS d/\(∀ κ,1<=κ->κ<=7->wSs κ ss+rO κ i<=(4+4*κ)*k+rO κ i')/\Chn l z i ss i'
 | 0,i,_=>⟨[],i,rfl,by simp,Nat.le_refl _,by omega,fun κ ka kb=>by show 0+rO κ i<=_;omega,.nil i⟩
 | k+1,i,hb=>by
  rw[Nat.succ_mul] at hb
  obtain⟨f,i1,hf,g1,g2,w1,hs⟩ := hS hl i z hz h1 h2 (by omega)
  obtain⟨ss,i2,e1,e2,g3,g4,w2,hc⟩ := jlV hS hl hz h1 h2 k i1 (by omega)
  refine⟨f :: ss,i2,by rw[List.length_cons,e1],fun s hs => ?_,by omega,by rw[Nat.succ_mul];omega,fun κ ka kb=>by have w1:=w1 κ ka kb;have w2:=w2 κ ka kb;rw[wSs,Nat.mul_succ];omega,.cons _ _ _ _ _ hs hc⟩
  rcases List.mem_cons.1 hs with rfl | hs
  ·exact hf
  ·exact e2 s hs
theorem jtw (l:List Int) (d:Nat) (hS:jll l d):jr3 l d:=fun hl i m z hz h1 h2 hm hi=>by
 have hp:=x9 l i (m+1) (by omega) (by omega)
 have hlt:=vF l i (m:=m+1) (by omega)
 have ho:=oF l i (m+1) hl
 generalize pk l i (m+1)=k at *
 have hkm:k*bS d<=m*bS d:=Nat.mul_le_mul_right _ (by omega)
 obtain⟨ss,i2,e1,e2,g3,g4,w2,hc⟩ := jlV hS hl hz h1 h2 k (i+1) (by omega)
 refine⟨ss,i2,by omega,e2,by omega,by omega,⟨fun κ ka kb=>by rw[e1];exact w2 κ ka kb,by omega⟩,?_⟩;refine eN jtZ (fun _=>[0]) 1 Tryz.func13 rfl ?_;intro hok;conv=>whnf
 refine⟨jV (by omega),?_⟩;conv=>whnf
 refine zC 0 [] hp ?_;rintro o r ⟨ho,rfl⟩;cases ho;conv=>whnf
 refine vE 48 4 [] [(2,3)] ?_;conv=>whnf
 refine⟨trivial,?_⟩;conv=>whnf
 refine jO [0,1,6,7] ?_;conv=>whnf
 refine qA (fun x:List Nt × List Nt × Nat=>[(8,.v (.int .i64 x.2.1.length))]) (fun x=>[bxG l x.2.2,jkc,[intA 11,intA 0,jY ⟨#[]⟩,.own 0]]) (fun x=>[.live 48 4 x.1.length (qE x.1)]) (fun x=>x.1++x.2.1=ss/\Chn l z x.2.2 x.2.1 i2) (fun x=>x.2.1.length) ([],ss,i+1) ?_ ⟨rfl,hc⟩ ?_
 ·rw[<- e1]
  repeat' constructor
  show Row.live _ _ _ _=Row.live _ 4 0 (qE [])
  rw[yA]
 rintro⟨acc,rem,j⟩ ⟨hacc,hch⟩
 simp only at hacc hch
 conv=>whnf
 cases hch with
 | nil =>
  rw[List.append_nil] at hacc;conv=>whnf
  rw[<- hacc];exact⟨rfl,rfl⟩
 | cons _ i1 _ f rem hs hch =>
  have hln:acc.length+(rem.length+1)=ss.length:=by rw[<- hacc,List.length_append,List.length_cons]
  rw[show ((f :: rem).length:Int)=(rem.length:Int)+1 by simp];rw[j8 (show 0<(rem.length:Int)+1 by omega)];conv=>whnf
  refine zC 0 [] hs ?_;rintro o r ⟨ho,rfl⟩;cases ho;conv=>whnf
  refine⟨⟨by simp only;unfold maxLen;omega,by simp only;omega⟩,?_⟩;conv=>whnf
  refine⟨jV (by omega),?_⟩;rw[show (rem.length:Int)+1-1=rem.length by omega];conv=>whnf
  refine⟨(acc++[f],rem,i1),jS [0] ?_,⟨by simp only;rw[List.append_assoc];exact hacc,hch⟩,by simp only[List.length_cons];omega⟩;conv=>whnf
  simp only[List.length_append,List.length_cons,List.length_nil];rw[sK]
  repeat' constructor
end Go.Proofs.YtfbkolllpencnaaGreatDoor.Vm
