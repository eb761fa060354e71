/- Part 6 of the proof. -/
import Derived.Test.YtfbkolllpencnaaGreatDoorK5
import Derived.Lib.Hide
import Derived.Carry
import Derived.Laws.EntriesVeiled
set_option maxRecDepth 100000
set_option linter.unusedSimpArgs false
set_option linter.unusedVariables false
set_option maxHeartbeats 4000000
namespace Go.Proofs.YtfbkolllpencnaaGreatDoor.Vm
open Go.RowKit Go.Shelf
section
theorem jh3:∀ (l:List (Int × Nt)),l.Pairwise (fun a b=>a.1<b.1)->vS l=l
 | [],_=>rfl
 | x :: l,h=>by
  have h1:=jh3 l (List.pairwise_cons.1 h).2
  show jaR x (vS l)=_
  rw[h1]
  cases l with
  | nil=>rfl
  | cons y l =>
   have:=(List.pairwise_cons.1 h).1 y List.mem_cons_self
   rw[jaR,if_pos (by omega)]
theorem jtA {n:Int} (h0:0<=n) (h1:n<40) {b:List Co} {ts r:List Tk} (hb:Beg (uD n++b) ts r):∃ u,hnF ts = .ok n u/\Beg b u r:=by
 have num:∀ (m:Nat) (limit off:Int) (q s:List Tk),(m:Int)<limit->Beg (v8 m :: b) q s->p7 limit off q = .ok (off+m) q.tail/\Beg b q.tail s:=fun m limit off q s hl hq=>by
  obtain⟨hc,hr,_⟩ := hq.cons
  refine⟨?_,hr⟩;unfold p7;rw[show (hd q).kind=2 from (vA hc).1,show (hd q).n=m from (vA hc).2,if_neg (by decide),if_neg (by omega)]
 unfold uD at hb
 by_cases e1:n=1
 ·subst e1;rw[if_pos rfl] at hb
  obtain⟨p,_,_,_,_,hr⟩ := qX (b:=b) hb
  refine⟨ts.tail,?_,hr⟩;unfold hnF;rw[p,p,if_neg (by decide),if_pos (by decide)]
 rw[if_neg e1] at hb
 by_cases e10:10<=n
 ·rw[if_pos e10] at hb
  obtain⟨p,_,_,_,_,hr⟩ := qX (b:=v8 (n-10).toNat :: b) hb
  obtain⟨q1,q2⟩ := num (n-10).toNat 30 10 ts.tail r (by omega) hr
  refine⟨_,?_,q2⟩;unfold hnF;rw[p,p,p,p,if_neg (by decide),if_neg (by decide),if_neg (by decide),if_pos (by decide),q1]
  congr 1;omega
 rw[if_neg e10] at hb
 by_cases e2:2<=n
 ·rw[if_pos e2] at hb
  obtain⟨p,_,_,_,_,hr⟩ := qX (b:=v8 (n-2).toNat :: b) hb
  obtain⟨q1,q2⟩ := num (n-2).toNat 8 2 ts.tail r (by omega) hr
  refine⟨_,?_,q2⟩;unfold hnF;rw[p,p,p,if_neg (by decide),if_neg (by decide),if_pos (by decide),q1]
  congr 1;omega
 rw[if_neg e2] at hb
 obtain⟨p,_,_,_,_,hr⟩ := qX (b:=b) hb
 refine⟨ts.tail,?_,hr⟩;unfold hnF;rw[p,if_pos (by decide)]
 congr 1;omega
variable {fu:Bool}
def HO (fu:Bool) (x:Int × Nt):Prop:=0<=x.1/\x.1<40/\PBk 19 (bO fu x.2) x.2
theorem jrd (l:List (Int × Nt)) (k:Int) (h:∀ x ∈ l,x.1 ≠ k):l.any (fun h=>decide (h.1=k))=false:=by
 rw[List.any_eq_false];intro x hx
 simpa using h x hx
theorem jqA (du vo:List ByteArray):∀ (l acc:List (Int × Nt)) (ts r:List Tk) (k:Nat),(∀ x ∈ l,HO fu x)->(acc++l).Pairwise (fun a b=>a.1 ≠ b.1)->Beg ((l.map (vZ fu)).flatten) ts r->l.length+1<=k->(hd r).kind=0->r9 du vo k acc ts = .ok ⟨du,vo,vS (acc++l)⟩
 | [],acc,ts,r,k,_,_,hb,hk,hr=>by
  obtain⟨j,rfl⟩ : ∃ j,k=j+1:=⟨k-1,by simp at hk;omega⟩
  have e:ts=r:=hb.nil
  rw[r9,e,if_pos hr,List.append_nil]
 | x :: l,acc,ts,r,k,hl,hp,hb,hk,hr=>by
  obtain⟨j,rfl⟩ : ∃ j,k=j+1:=⟨k-1,by simp at hk;omega⟩
  obtain⟨h0,h1,hbk⟩ := hl x List.mem_cons_self
  rw[List.map_cons,List.flatten_cons] at hb
  have hb:Beg (jL wOn :: (uD x.1++(bO fu x.2++(l.map (vZ fu)).flatten))) ts r:=by
   have e:vZ fu x++(l.map (vZ fu)).flatten=jL wOn :: (uD x.1++(bO fu x.2++(l.map (vZ fu)).flatten)):=by
    unfold vZ
    simp
   rw[<- e];exact hb
  obtain⟨p,_,_,_,q,h2⟩ := qX hb
  obtain⟨u,h3,h4⟩ := jtA h0 h1 h2
  obtain⟨v,h5,h6⟩ := h4.app
  have h7:=hbk u v h5
  have hne:∀ y ∈ acc,y.1 ≠ x.1:=fun y hy=>(List.pairwise_append.1 hp).2.2 y hy x List.mem_cons_self
  rw[r9,if_neg (by rw[q];decide),if_neg (by rw[p];decide),h3]
  show (if acc.any (fun h=>decide (h.1=x.1))=true then _ else _)=_
  rw[jrd acc x.1 hne,if_neg (by decide),jua,h7]
  show r9 du vo j (acc++[(x.1,x.2)]) v=_
  have ih:=jqA du vo l (acc++[x]) v r j (fun y hy=>hl y (List.mem_cons_of_mem _ hy)) (by rw[List.append_assoc];exact hp) h6 (by simp at hk;omega) hr
  rw[show acc++[(x.1,x.2)]=acc++[x] from rfl,ih,List.append_assoc];rfl
theorem jpb (l:List (Int × Nt)):l.length<=((l.map (vZ fu)).flatten).length:=by
 induction l with
 | nil=>exact Nat.zero_le _
 | cons x l ih =>
  rw[List.map_cons,List.flatten_cons,List.length_append,List.length_cons]
  have:1<=(vZ fu x).length:=by unfold vZ;simp
  omega
def jqy (a:ByteArray):Bool := !(keyL++builtL).any fun x=>decide (a=x)
theorem jm5 {w a b:ByteArray} {names out:List ByteArray} {q:List Co} {ts r:List Tk} (hb:Beg (jL w :: jL a :: jG pComma :: jL b :: jG pSemi :: q) ts r) (ha:jqy a=true) (hf:jqy b=true) (h1:names.any (fun s=>decide (s=a))=false) (h2:(names++[a]).any (fun s=>decide (s=b))=false) (hl:names.length+2<=16):∃ u,cB ts.length names out ts = .ok (names++[a]++[b]) (out++[a]++[b]) u/\Beg q u r:=by
 have hlen:=hb.len
 simp only[List.length_cons] at hlen
 obtain⟨n,hn⟩ : ∃ n,ts.length=n+2:=⟨ts.length-2,by omega⟩
 rw[hn]
 obtain⟨_,_,_,_,_,g1⟩ := qX hb
 obtain⟨_,n1,_,t1,_,g2⟩ := qX g1
 obtain⟨p2,_,_,g3⟩ := gI g2
 obtain⟨_,n3,_,t3,_,g4⟩ := qX g3
 obtain⟨p4,_,_,g5⟩ := gI g4
 refine⟨ts.tail.tail.tail.tail.tail,?_,g5⟩
 have n1:xK ts.tail=true:=by rw[n1];exact ha
 have n3:xK ts.tail.tail.tail=true:=by rw[n3];exact hf
 rw[cB,if_neg (by rw[n1];decide),t1,if_neg (by rw[h1];decide),if_neg (by omega),p2,if_pos (by decide),cB,if_neg (by rw[n3];decide),t3,if_neg (by rw[h2];decide),if_neg (by rw[List.length_append];simp only[List.length_cons,List.length_nil];omega),p4,if_neg (by decide),p4,if_pos (by decide)]
def joL (r:List Tk):Prop:=(hd r).kind=0/\qU wDurable r=false/\qU wVolatile r=false
theorem GU.ho {u:Ut} (h:GU u):∀ x ∈ u.on,HO fu x:=fun x hx=>by
 obtain⟨h1,h2,h3,h4,h5⟩ := h
 obtain⟨g1,g2,g3⟩ := h3 x hx
 exact⟨g1,g2,jsb g3 19 (by decide)⟩
theorem jrW {l:List (Int × Nt)} {ts r:List Tk} (hb:Beg ((l.map (vZ fu)).flatten) ts r) (hr:joL r):qU wDurable ts=false/\qU wVolatile ts=false:=by
 cases l with
 | nil=>have e:ts=r:=hb.nil;rw[e];exact hr.2
 | cons x l =>
  have hb:Beg (jL wOn :: (uD x.1++(bO fu x.2++(l.map (vZ fu)).flatten))) ts r:=by
   have e:((x :: l).map (vZ fu)).flatten=jL wOn :: (uD x.1++(bO fu x.2++(l.map (vZ fu)).flatten)):=by
    rw[List.map_cons,List.flatten_cons];unfold vZ
    simp
   rw[<- e];exact hb
  obtain⟨p,_⟩ := qX hb
  rw[p,p];decide
theorem jrx {names du vo:List ByteArray} {l:List (Int × Nt)} {ts r:List Tk} {k:Nat} (hb:Beg ((l.map (vZ fu)).flatten) ts r) (hr:joL r) (hl:∀ x ∈ l,HO fu x) (hp:l.Pairwise (fun a b=>a.1 ≠ b.1)):mW (k+1) names du vo ts = .ok ⟨du,vo,vS l⟩ := by
 obtain⟨n1,n2⟩ := jrW hb hr
 have hlen:=hb.len
 have hh:=jpb (fu:=fu) l
 rw[mW,if_neg (by rw[n1];decide),if_neg (by rw[n2];decide),jqA du vo l [] ts r _ hl hp hb (by omega) hr.1];rfl
theorem jsl {u:Ut} (h:GU u) {ts r:List Tk} (hb:Beg (jn7 u) ts r) (hr:joL r):jgH ts = .ok u:=by
 have hho:=h.ho (fu:=false)
 obtain⟨h1,h2,h3,h4,h5⟩ := h
 have hb:Beg (jL wDurable :: jL ⟨#[100]⟩ :: jG pComma :: jL ⟨#[100,100,49]⟩ :: jG pSemi :: jL wVolatile :: jL ⟨#[118]⟩ :: jG pComma :: jL ⟨#[119,50]⟩ :: jG pSemi :: (u.on.map (vZ false)).flatten) ts r:=hb
 obtain⟨v,e1,g1⟩ := jm5 (names:=[]) (out:=[]) hb (by decide) (by decide) (by decide) (by decide) (by decide)
 obtain⟨w,e2,g2⟩ := jm5 (names:=duL) (out:=[]) g1 (by decide) (by decide) (by decide) (by decide) (by decide)
 obtain⟨p1,_⟩ := qX hb
 obtain⟨p2,_⟩ := qX g1
 have hlen:=hb.len
 simp only[List.length_cons] at hlen
 obtain⟨n,hn⟩ : ∃ n,ts.length+1=n+3:=⟨ts.length-2,by omega⟩
 unfold jgH;rw[hn,mW,if_pos (by rw[p1];decide),e1]
 show mW (n+2) duL ([]++duL) [] v=_
 rw[mW,if_neg (by rw[p2];decide),if_pos (by rw[p2];decide),e2]
 show mW (n+1) _ duL voL w=_
 rw[jrx g2 hr hho (h4.imp fun hab=>by omega),jh3 _ h4,<- h1,<- h2]
theorem TN.row {s:ByteArray} {l:List Co} (h:TN s l):(qY s).err=none/\Beg l (iI s) [fQ s]:=by
 obtain⟨ts,h1,h2⟩ := jjv l false 0 h.lx h.fi
 rw[<- h.eq] at h1
 have h3:qY s = ⟨ts,none⟩ := h1
 rw[gF (by rw[h3]),h3];exact⟨rfl,ts,rfl,h2⟩
theorem jqx (s x:ByteArray):qU x [fQ s]=false:=by
 show (decide ((⟨#[]⟩ : ByteArray)=x) && (decide ((0:Int)=1) || decide ((0:Int)=3)))=false
 rw[Bool.and_eq_false_iff];exact .inr rfl
theorem jp3 (s:ByteArray):joL [fQ s]:=⟨rfl,jqx s _,jqx s _⟩
theorem jol {s:ByteArray} (hs:s.size<=3000) (he:(qY s).err=none):mI s=jgH (iI s):=by
 unfold mI;rw[if_neg (by omega),he]
theorem jqa {u:Ut} (h:GU u) (hs:(prF u).size<=3000):mI (prF u) = .ok u:=by
 obtain⟨h1,h2⟩ := (jqX h).row
 rw[jol hs h1];exact jsl h h2 (jp3 _)
end
section
def tW (κ:Nat):List Co->Nat
 | []=>0
 | c :: l=>c.text.length+κ+tW κ l
theorem kG (κ:Nat) (l m:List Co):tW κ (l++m)=tW κ l+tW κ m:=by
 induction l with
 | nil=>show tW κ m=0+_;omega
 | cons c l ih=>show c.text.length+κ+tW κ (l++m)=c.text.length+κ+tW κ l+tW κ m;omega
theorem jM (κ:Nat) (c:Co) (l:List Co):tW κ (c :: l)=c.text.length+κ+tW κ l:=rfl
theorem wM (κ:Nat):tW κ []=0:=rfl
theorem jfS:∀ (l:List Co),(rN l).size<=tW 1 l
 | []=>Nat.zero_le _
 | c :: l=>by
  have h1:=jfS l
  have h2:=jB (bs c.text) (rN l)
  have h3:(bs c.text).size=c.text.length:=x6 _
  show (jA _ _).size<=c.text.length+1+tW 1 l
  omega
theorem yT (s:ByteArray):(jG s).text.length=s.size:=rfl
theorem yY (s:ByteArray):(jL s).text.length=s.size:=rfl
theorem jd6 (n:Nat):(v8 n).text.length=(qG n).length:=rfl
theorem jgA (κ:Nat) (p lv:Int) (fu:Bool) (l:List Co) (hl:lv<=8):tW κ (wE p lv fu l)<=tW κ l+(if p=8 then 0 else 2+2*κ):=by
 rcases yR p lv fu l hl with ⟨e,h⟩ | ⟨e,h⟩
 ·rw[e];omega
 ·rw[e,if_neg (by omega),kG,jM,jM,yT,yT,wM]
  have e1:pLp.size=1:=rfl
  have e2:pRp.size=1:=rfl
  omega
variable {fu:Bool} (κ:Nat)
theorem jrT:∀ n ∈ litL,(qG n.toNat).length<=dgN n:=by decide +kernel
theorem jtW:∀ s ∈ opL,jI 18 s<=6/\5<=jI 18 s:=by decide
theorem rH {d:Nat} {f:Nt} (h:EI d f):∀ lv:Int,lv<=8->tW κ (qC fu f lv)<=wN κ f:=by
 induction h with
 | lit d n h =>
  intro lv hl
  have h1:=jrT n h
  rw[show qC fu (.mk 12 n eB []) lv=wE 8 lv fu [v8 n.toNat] from rfl,bT hl,jM,jd6,wM,joo];omega
 | var d s h =>
  intro lv hl;rw[show qC fu (.mk 14 0 s []) lv=wE 8 lv fu [jL s] from rfl,bT hl,jM,yY,wM,joq];omega
 | nam d s h =>
  intro lv hl;rw[show qC fu (.mk 15 0 s []) lv=wE 8 lv fu [jL s] from rfl,bT hl,jM,yY,wM,jop];omega
 | drw d f h ih =>
  intro lv hl
  have h1:=ih 1 (by omega)
  have e1:wDraw.size=4:=rfl
  have e2:pLp.size=1:=rfl
  have e3:pRp.size=1:=rfl
  rw[show qC fu (.mk 16 0 eB [f]) lv=wE 8 lv fu (jL wDraw :: jG pLp :: (qC fu f 1++[jG pRp])) from rfl,bT hl,jM,jM,kG,jM,wM,yY,yT,yT,jon];omega
 | neg d f h ih =>
  intro lv hl
  have h1:=ih 7 (by omega)
  have e1:pMinus.size=1:=rfl
  have hp:=jgA κ 7 lv fu (jG pMinus :: qC fu f 7) hl
  rw[jM,yT,if_neg (by decide)] at hp;rw[show qC fu (.mk 17 0 pMinus [f]) lv=wE 7 lv fu (jG pMinus :: qC fu f 7) from rfl,jf0];omega
 | bin d s f g hs h1 h2 i1 i2 =>
  intro lv hl
  have hp6:=jtW s hs
  have hp:=jgA κ (jI 18 s) lv fu (qC fu f (if jI 18 s=4 then 5 else jI 18 s)++jG s :: qC fu g (jI 18 s+1)) hl
  rw[kG,jM,yT,if_neg (by omega),if_neg (by omega)] at hp
  have a1:=i1 (jI 18 s) (by omega)
  have a2:=i2 (jI 18 s+1) (by omega)
  rw[show qC fu (.mk 18 0 s [f,g]) lv=wE (jI 18 s) lv fu (qC fu f (if jI 18 s=4 then 5 else jI 18 s)++jG s :: qC fu g (jI 18 s+1)) from rfl,if_neg (by omega),sZ];omega
theorem jrl:∀ s ∈ bolL,jI 18 s<=2:=by decide
theorem jrt:∀ s ∈ cmpL,jI 18 s=4:=by decide
theorem jqY {d:Nat} {f:Nt} (h:EB d f):∀ lv:Int,lv<=8->tW κ (qC fu f lv)<=wN κ f:=by
 induction h with
 | lit d n h =>
  intro lv hl
  have h1:(tfB n).size<=5:=by rcases (by omega:n=0 ∨ n=1) with rfl | rfl <;> decide
  rw[show qC fu (.mk 13 n eB []) lv=wE 8 lv fu [jL (tfB n)] from rfl,bT hl,jM,yY,wM,jk9];omega
 | nt d f h ih =>
  intro lv hl
  have h1:=ih 3 (by omega)
  have e1:pNot.size=1:=rfl
  have hp:=jgA κ 3 lv fu (jG pNot :: qC fu f 3) hl
  rw[jM,yT,if_neg (by decide)] at hp;rw[show qC fu (.mk 17 0 pNot [f]) lv=wE 3 lv fu (jG pNot :: qC fu f 3) from rfl,jf0];omega
 | bin d s f g hs h1 h2 i1 i2 =>
  intro lv hl
  have hp6:=jrl s hs
  have hp:=jgA κ (jI 18 s) lv fu (qC fu f (if jI 18 s=4 then 5 else jI 18 s)++jG s :: qC fu g (jI 18 s+1)) hl
  rw[kG,jM,yT,if_neg (by omega),if_neg (by omega)] at hp
  have a1:=i1 (jI 18 s) (by omega)
  have a2:=i2 (jI 18 s+1) (by omega)
  rw[show qC fu (.mk 18 0 s [f,g]) lv=wE (jI 18 s) lv fu (qC fu f (if jI 18 s=4 then 5 else jI 18 s)++jG s :: qC fu g (jI 18 s+1)) from rfl,if_neg (by omega),sZ];omega
 | cmp d s f g hs h1 h2 =>
  intro lv hl
  have hp6:=jrt s hs
  have hp:=jgA κ 4 lv fu (qC fu f 5++jG s :: qC fu g 5) hl
  rw[kG,jM,yT,if_neg (by omega)] at hp
  have a1:=rH (fu:=fu) κ h1 5 (by omega)
  have a2:=rH (fu:=fu) κ h2 5 (by omega)
  rw[show qC fu (.mk 18 0 s [f,g]) lv=wE (jI 18 s) lv fu (qC fu f (if jI 18 s=4 then 5 else jI 18 s)++jG s :: qC fu g (jI 18 s+1)) from rfl,hp6,sZ]
  show tW κ (wE 4 lv fu (qC fu f 5++jG s :: qC fu g 5))<=_
  omega
theorem rW:∀ n,n<10->(qG n).length<=1:=by decide +kernel
theorem jji:∀ n,n<40->(qG n).length<=2:=by decide +kernel
theorem jeY (l:List Nt) (h:∀ f ∈ l,tW κ (aX fu f)<=wS κ f):tW κ (bO fu (qD l))<=wB κ (qD l):=by
 have e1:pLb.size=1:=rfl
 have e2:pRb.size=1:=rfl
 have e:bO fu (qD l)=jG pLb :: (l.map (aX fu)).flatten++[jG pRb]:=by
  unfold qD;rw[bO,rG]
 have key:tW κ (l.map (aX fu)).flatten<=wSs κ l:=by
  clear e
  induction l with
  | nil=>exact Nat.zero_le _
  | cons f l ih =>
   have h1:=h f List.mem_cons_self
   have h2:=ih fun g hg=>h g (List.mem_cons_of_mem _ hg)
   rw[List.map_cons,List.flatten_cons,kG,wSs];omega
 rw[e,jbQ,kG,jM,jM,yT,yT,wM];omega
theorem juy {d:Nat} {f:Nt} (h:ES d f):tW κ (aX fu f)<=wS κ f:=by
 have z1:pSemi.size=1:=rfl
 have z2:pComma.size=1:=rfl
 have z3:pEq.size=1:=rfl
 have z4:wSend.size=4:=rfl
 have z5:wTimer.size=5:=rfl
 have z6:wCancel.size=6:=rfl
 have z7:wSync.size=4:=rfl
 have z8:wReply.size=5:=rfl
 have z9:wFail.size=4:=rfl
 have z10:wStop.size=4:=rfl
 have z11:wWhile.size=5:=rfl
 have z12:wIf.size=2:=rfl
 have z13:wElse.size=4:=rfl
 induction h with
 | asg d e s f hs h he =>
  have a:=rH (fu:=fu) κ h 1 (by omega)
  rw[show aX fu (.mk 1 0 s [f])=jL s :: jG pEq :: lsT fu [f] from rfl,jem,jM,jM,kG,jM,wM,yY,yT,yT,jiT];omega
 | snd d n f g h hn h1 h2 h3 =>
  have a1:=rH (fu:=fu) κ h1 1 (by omega)
  have a2:=rH (fu:=fu) κ h2 1 (by omega)
  have a3:=rH (fu:=fu) κ h3 1 (by omega)
  have d1:=rW n (by omega)
  rw[show aX fu (.mk 4 n eB [f,g,h])=jL wSend :: (qC fu f 1++jG pComma :: v8 n :: jG pComma :: lsT fu [g,h]) from rfl,jen,jM,kG,jM,jM,jM,kG,jM,kG,jM,wM,yY,yT,yT,jd6,jow];omega
 | tim d n hn =>
  have d1:=rW n (by omega)
  rw[show aX fu (.mk 5 n eB [])=[jL wTimer,v8 n,jG pSemi] from rfl,jM,jM,jM,wM,yY,yT,jd6,joz];omega
 | can d n hn =>
  have d1:=rW n (by omega)
  rw[show aX fu (.mk 6 n eB [])=[jL wCancel,v8 n,jG pSemi] from rfl,jM,jM,jM,wM,yY,yT,jd6,jor];omega
 | syn d =>
  rw[show aX fu (.mk 7 0 eB [])=[jL wSync,jG pSemi] from rfl,jM,jM,wM,yY,yT,joy];omega
 | rep d f g h1 h2 =>
  have a1:=rH (fu:=fu) κ h1 1 (by omega)
  have a2:=rH (fu:=fu) κ h2 1 (by omega)
  rw[show aX fu (.mk 8 0 eB [f,g])=jL wReply :: lsT fu [f,g] from rfl,jen,jM,kG,jM,kG,jM,wM,yY,yT,yT,jov];omega
 | fai d f h1 =>
  have a1:=rH (fu:=fu) κ h1 1 (by omega)
  rw[show aX fu (.mk 9 0 eB [f])=jL wFail :: lsT fu [f] from rfl,jem,jM,kG,jM,wM,yY,yT,jos];omega
 | stp d =>
  rw[show aX fu (.mk 10 0 eB [])=[jL wStop,jG pSemi] from rfl,jM,jM,wM,yY,yT,jox];omega
 | whi d c l h1 h2 h3 ih =>
  have a1:=jqY (fu:=fu) κ h1 1 (by omega)
  have a2:=jeY (fu:=fu) κ l ih
  rw[show aX fu (.mk 3 0 eB [c,qD l])=jL wWhile :: (qC fu c 1++bO fu (qD l)) from rfl,jM,kG,yY,joA];omega
 | iff d c l m h1 h2 h3 h4 h5 ih1 ih2 =>
  have a1:=jqY (fu:=fu) κ h1 1 (by omega)
  have a2:=jeY (fu:=fu) κ l ih1
  have a3:=jeY (fu:=fu) κ m ih2
  rw[show aX fu (.mk 2 0 eB [c,qD l,qD m])=(if 0<(qD m).kids.length then jL wIf :: (qC fu c 1++bO fu (qD l)++jL wElse :: bO fu (qD m)) else jL wIf :: (qC fu c 1++bO fu (qD l))) from rfl,jou]
  split
  ·rw[jM,kG,kG,jM,yY,yY];omega
  ·rw[jM,kG,yY];omega
theorem jux {b:Nt} (h:EK b):tW κ (bO fu b)<=wB κ b:=by
 obtain⟨k,rfl,h1,h2⟩ := h
 exact jeY κ k fun f hf=>juy κ (h2 f hf)
theorem juz {x:Int × Nt} (h0:0<=x.1) (h1:x.1<40) (hb:EK x.2):tW κ (vZ fu x)<=11+3*κ+wB κ x.2:=by
 have a:=jux (fu:=fu) κ hb
 have hw:tW κ (uD x.1)<=9+2*κ:=by
  have z1:wRequest.size=7:=rfl
  have z2:wMessage.size=7:=rfl
  have z3:wTimer.size=5:=rfl
  have z4:wStart.size=5:=rfl
  have d1:=jji (x.1-10).toNat (by omega)
  have d2:=jji (x.1-2).toNat (by omega)
  unfold uD
  split
  ·rw[jM,wM,yY];omega
  ·split
   ·rw[jM,jM,wM,yY,jd6];omega
   ·split
    ·rw[jM,jM,wM,yY,jd6];omega
    ·rw[jM,wM,yY];omega
 have z:wOn.size=2:=rfl
 rw[show vZ fu x=jL wOn :: (uD x.1++bO fu x.2) from rfl,jM,kG,yY];omega
theorem jiQ:∀ (l:List (Int × Nt)),(∀ x ∈ l,0<=x.1/\x.1<40/\EK x.2)->tW κ ((l.map (vZ fu)).flatten)<=wHs κ l
 | [],_=>Nat.zero_le _
 | x :: l,h=>by
  obtain⟨a,b,c⟩ := h x List.mem_cons_self
  have h1:=juz (fu:=fu) κ a b c
  have h2:=jiQ l fun y hy=>h y (List.mem_cons_of_mem _ hy)
  rw[List.map_cons,List.flatten_cons,kG,wHs];omega
theorem jqf (l m:List (Int × Nt)):wHs κ (l++m)=wHs κ l+wHs κ m:=by
 induction l with
 | nil=>show wHs κ m=0+_;omega
 | cons x l ih=>show 11+3*κ+wB κ x.2+wHs κ (l++m)=11+3*κ+wB κ x.2+wHs κ l+_;omega
theorem jqg (l:List (Int × Nt)):wHs κ l.reverse=wHs κ l:=by
 induction l with
 | nil=>rfl
 | cons x l ih=>rw[List.reverse_cons,jqf,ih];show wHs κ l+(11+3*κ+wB κ x.2+0)=11+3*κ+wB κ x.2+wHs κ l;omega
theorem juw:tW κ dcTk=26+10*κ/\tW κ jrw=26+10*κ:=by
 unfold dcTk jrw;simp only[jM,wM,yT,yY]
 have z1:wDurable.size=7:=rfl
 have z2:wVolatile.size=8:=rfl
 have z3:pComma.size=1:=rfl
 have z4:pSemi.size=1:=rfl
 have z5:(⟨#[100]⟩ : ByteArray).size=1:=rfl
 have z6:(⟨#[100,100,49]⟩ : ByteArray).size=3:=rfl
 have z7:(⟨#[118]⟩ : ByteArray).size=1:=rfl
 have z8:(⟨#[119,50]⟩ : ByteArray).size=2:=rfl
 omega
theorem GW.twK {u:Ut} (h:GW u) (ka:1<=κ) (kb:κ<=7):tW κ (jn7 u)<=884+296*κ/\tW κ (jtS u)<=884+296*κ /\ ∀ x ∈ u.on,tW κ (vZ false x)<=858+286*κ:=by
 obtain⟨⟨h1,h2,h3,h4,h5⟩,hw⟩ := h
 have hw:=hw κ ka kb
 have a:=jiQ (fu:=false) κ u.on h3
 have b:=jiQ (fu:=true) κ u.on.reverse fun x hx=>h3 x (List.mem_reverse.1 hx)
 have c:=juw κ
 rw[jqg] at b;refine⟨by unfold jn7;rw[kG];omega,by unfold jtS;rw[kG];omega,fun x hx => ?_⟩
 obtain⟨l,r,hl⟩ := List.append_of_mem hx
 rw[hl] at a hw;rw[List.map_append,List.map_cons,List.flatten_append,List.flatten_cons,kG,kG] at a;omega
theorem GW.size {u:Ut} (h:GW u):(prF u).size<=1180:=by
 have h1:=(jqX h.1).eq
 have h2:=jfS (jn7 u)
 have h3:=(h.twK 1 (by omega) (by omega)).1
 rw[h1];omega
end
end Go.Proofs.YtfbkolllpencnaaGreatDoor.Vm
namespace Go.Proofs.YtfbkolllpencnaaGreatDoor
open Go.RowKit
def Asks (w:World) (c:FuncId) (cap:Array Value) (l:List Nd) (q:Nd->Bool):Prop :=
 (∀ args w',(callFunc c args).run Tryz.prog w' = .ok (.enter c args) w') ∧
 ∀ t ∈ l,∀ v w',Ext w w'->t.At w'.cell? v->Calls Tryz.prog c (#[v]++cap) w' (mM w' (.bool (q t)))
theorem Asks.use {w:World} {c:FuncId} {cap:Array Value} {l:List Nd} {q:Nd->Bool} (h:Asks w c cap l q) (k:Nat) (hk:k<l.length) {v:Value} {w':World} (hx:Ext w w') (ht:l[k].At w'.cell? v) :
  Calls Tryz.prog c (#[v]++cap) w' (mM w' (.bool (q l[k]))):=h.2 _ (List.getElem_mem hk) v w' hx ht
def xC (q:Nd->Bool) (l:List Nd):Int:=match l.findIdx? q with | some i=>(i:Int) | none => -1
theorem jmp {q:Nd->Bool} {l:List Nd} {k:Nat} (hk:k<l.length) (h:∀ j (hj:j<k),q (l[j]'(by omega))=false) (hq:q l[k]=true):xC q l=(k:Int):=by
 have:l.findIdx? q=some k:=by
  rw[List.findIdx?_eq_some_iff_getElem];exact⟨hk,hq,fun j hj=>by simp[h j hj]⟩
 unfold xC;rw[this]
theorem jkz {q:Nd->Bool} {l:List Nd} (h:∀ j (hj:j<l.length),q l[j]=false):xC q l = -1:=by
 have:l.findIdx? q=none:=by
  rw[List.findIdx?_eq_none_iff];intro x hx
  obtain⟨j,hj,rfl⟩ := List.mem_iff_getElem.1 hx
  simp[h j hj]
 unfold xC;rw[this]
theorem jfX (q:Nd->Bool) (l:List Nd):decide (0<=xC q l)=l.any q:=by
 cases h:l.any q with
 | true =>
  unfold xC
  cases hf:l.findIdx? q with
  | some i=>simp
  | none =>
   rw[List.findIdx?_eq_none_iff] at hf
   obtain⟨x,hx,hq⟩ := List.any_eq_true.1 h
   rw[hf x hx] at hq;cases hq
 | false =>
  unfold xC
  cases hf:l.findIdx? q with
  | none=>simp
  | some i =>
   rw[List.findIdx?_eq_some_iff_getElem] at hf
   obtain⟨hi,hq,_⟩ := hf
   rw[List.any_eq_false] at h;exact absurd hq (h _ (List.getElem_mem hi))
theorem jpc (q:Nd->Bool) (l:List Nd) : -1<=xC q l/\xC q l<=l.length:=by
 unfold xC
 cases hf:l.findIdx? q with
 | none=>simp
 | some i =>
  rw[List.findIdx?_eq_some_iff_getElem] at hf
  obtain⟨hi,_⟩ := hf
  simp;omega
theorem jc2 (l:List Nd) (sv:Value) (c:FuncId) (cap:Array Value) (w:World) (q:Nd->Bool) (hl:NdsAt w.cell? sv l) (hf:Asks w c cap l q) :
  Calls Tryz.prog 31 #[sv,.func (.func c) #[] cap] w (mM w (.int .i64 (xC q l))):=by
 obtain⟨hl1,p,b,off,cp,rfl,hc,hp,hn,hin⟩ := hl
 have hcf:=hf.1
 go_enter Tryz.func31,Tryz.ntmps31
 go_wp2
 go_loopw [5,8] (fun _ i wr => ∃ k:Nat,k<=l.length/\i = .int .i64 k/\Ext w wr /\ ∀ j (hj:j<l.length),j<k->q l[j]=false) (fun _ i _=>l.length-(intOf i).toNat)
 case atStart=>exact⟨0,by omega,rfl,Ext.refl _,fun j hj h=>absurd h (by omega)⟩
 case round =>
  obtain⟨k,hk,rfl,hx,hno⟩ := hrel
  have HNO:Hid (∀ j (hj:j<l.length),j<k->q l[j]=false):=hno
  clear hno
  by_cases hlt:k<l.length
  ·obtain rfl:p=some ⟨b,off,none⟩ := by
    rcases hp with rfl | hp
    ·simp at hlt
    ·exact hp
   obtain⟨v0,v1,v2,v3,c0,c1,c2,c3,ht⟩ := Nd.In.get l off hin k hlt
   replace c0:=hx.c c0
   replace c1:=hx.c c1
   replace c2:=hx.c c2
   replace c3:=hx.c c3
   have ht2:=Nd.At.mono hx.sub _ _ ht
   have hcall:=Lib.hid (hf.use k hlt hx ht2)
   clear hin hp hn ht ht2
   obtain⟨qk,hqk⟩ : ∃ qk,qk=q l[k]:=⟨_,rfl⟩
   have HQ:Hid (qk=q l[k]):=hqk
   rw[<- hqk] at hcall;clear hqk
   cases qk with
   | true =>
    go_wp2_with (refine hcall.out.mono ?_;rintro e w2 ⟨rfl,hx2⟩)
    go_ret
    have:=jmp hlt (fun j hj=>HNO.out j (by omega) hj) HQ.out.symm
    exact⟨by rw[this];rfl,hx.trans hx2⟩
   | false =>
    go_wp2_with (refine hcall.out.mono ?_;rintro e w2 ⟨rfl,hx2⟩)
    go_roundw
    case rel=>exact⟨k+1,by omega,by go_num,hx.trans hx2,fun j hj h=>by
     by_cases hjk:j=k
     ·subst hjk;exact HQ.out.symm
     ·exact HNO.out j hj (by omega)⟩
    case measure=>simp[intOf];omega
  ·have hkl:k=l.length:=by omega
   go_wp2
   go_ret
   exact⟨by rw[jkz (fun j hj=>HNO.out j hj (by omega))];rfl,hx⟩
theorem vW (l:List Nd) (sv:Value) (c:FuncId) (cap:Array Value) (w:World) (q:Nd->Bool) (hl:NdsAt w.cell? sv l) (hf:Asks w c cap l q) :
  Calls Tryz.prog 16 #[sv,.func (.func c) #[] cap] w (mM w (.bool (l.any q))):=by
 have h0:=jfX q l
 have h1:=jpc q l
 obtain⟨n,hn⟩ : ∃ n,n=xC q l:=⟨_,rfl⟩
 have hcall:=Lib.hid (jc2 l sv c cap w q hl hf)
 rw[<- hn] at hcall h0 h1
 obtain⟨h2,h3⟩ := h1
 have H0:=Lib.hid h0
 clear h0 hn
 go_enter Tryz.func16,Tryz.ntmps16
 go_wp2_with (go_at_call 31;refine hcall.out.mono ?_;rintro e w2 ⟨rfl,hx2⟩)
 go_ret
 exact⟨by rw[<- H0.out];rfl,hx2⟩
section
def MapAt (w:World) (r:Nat) (l:List (ByteArray × Value)):Prop :=
 ∃ es c,w.heap[r]? = some (.map es c)/\es.toList.map (fun e=>(e.key,e.val))=l.map (fun p=>(Value.string p.1,p.2))
def sH (l:List (ByteArray × Value)) (s:ByteArray):Option Value:=(l.find? (fun p=>s == p.1)).map (·.2)
theorem fR (s:ByteArray):∀ (es:List MapEntry) (l:List (ByteArray × Value)) (i:Nat),es.map (fun e=>(e.key,e.val))=l.map (fun p=>(Value.string p.1,p.2)) →
  ∃ r,Instr.findNow .string (.string s) es i=some r/\r.map (·.2)=sH l s
 | [],[],i,_=>⟨none,by simp[Instr.findNow],by simp[sH]⟩
 | [],_ :: _,_,h=>by simp at h
 | _ :: _,[],_,h=>by simp at h
 | e :: es,p :: l,i,h=>by
  simp only[List.map_cons,List.cons.injEq,Prod.mk.injEq] at h
  obtain⟨⟨h1,h2⟩,h3⟩ := h
  by_cases hs:s == p.1
  ·exact⟨some (i,e.val),by simp[Instr.findNow,Instr.sameNow,h1,hs],by simp[sH,hs,h2]⟩
  ·obtain⟨r,hr,hr2⟩ := fR s es l (i+1) h3
   refine⟨r,by simp[Instr.findNow,Instr.sameNow,h1,hs,hr],?_⟩;rw[hr2];simp[sH,hs]
section
variable {P:Program} {w:World} {T K E:TypeId} {r:Nat} {l:List (ByteArray × Value)} {s:ByteArray}
theorem oK {es:Array MapEntry} {c:Nat} (h:w.heap[r]? = some (.map es c)):(getObj r).run P w = .ok (.map es c) w:=by
 simp[getObj,Sem.run,h]
theorem jnr (hK:P.underlying K=some .string) (b:Bool) (n:Nat):(Instr.checkKey b (n+1) K (.string s)).run P w = .ok () w:=by
 simp[Instr.checkKey,run_underlying hK]
theorem jbl (hT:P.underlying T=some (.map K E)) (hK:P.underlying K=some .string) {z:Value} (hz:(zeroValue E).run P w = .ok z w) (h:MapAt w r l) :
  (Instr.lookup T (.map (some r)) (.string s) false).run P w = .ok ((sH l s).getD z) w:=by
 obtain⟨es,c,hr,hes⟩ := h
 obtain⟨x,hx,hx2⟩ := fR s es.toList l 0 hes
 have hc:∀ b,(Instr.checkKey b 10000 K (.string s)).run P w = .ok () w:=fun b=>jnr hK b 9999
 have hf:(Instr.findKey K (.string s) es.toList).run P w = .ok x w:=by simp[Instr.findKey,run_underlying hK,hx]
 rw[<- hx2]
 cases x with
 | none=>simp[Instr.lookup,run_underlying hT,oK hr,hc,hf,hz,Result.andThen]
 | some y=>obtain⟨j,y⟩ := y;simp[Instr.lookup,run_underlying hT,oK hr,hc,hf,Result.andThen]
theorem jbm (hT:P.underlying T=some (.map K E)) (hK:P.underlying K=some .string) (v:Value) (h:MapAt w r l) (hn:sH l s=none) :
  ∃ w',(Instr.mapUpdate T (.map (some r)) (.string s) v).run P w = .ok () w'/\w.grownBy w' (some r)/\MapAt w' r (l++[(s,v)]):=by
 obtain⟨es,c,hr,hes⟩ := h
 obtain⟨x,hx,hx2⟩ := fR s es.toList l 0 hes
 rw[hn] at hx2
 have hx0:x=none:=by cases x <;> simp_all
 subst hx0
 have hc:∀ b,(Instr.checkKey b 10000 K (.string s)).run P w = .ok () w:=fun b=>jnr hK b 9999
 have hf:(Instr.findKey K (.string s) es.toList).run P w = .ok none w:=by simp[Instr.findKey,run_underlying hK,hx]
 have hlt:r<w.heap.size:=(Array.getElem?_eq_some_iff.1 hr).1
 refine⟨{ w with heap:=w.heap.setIfInBounds r (.map (es.push { key := .string s,val:=v,born:=c }) (c+1)) },?_,⟨rfl,rfl,rfl,by simp,fun k hk hne => ?_⟩,es.push { key := .string s,val:=v,born:=c },c+1,by simp[hlt],?_⟩
 ·simp[Instr.mapUpdate,run_underlying hT,oK hr,hc,hf,Result.andThen,setObj,Sem.run,hr]
 ·have:r ≠ k:=fun e=>hne (by rw[e])
  simp[Array.getElem?_setIfInBounds_ne this]
 ·simp[hes]
theorem MapAt.ext {w':World} (h:MapAt w r l) (x:Ext w w'):MapAt w' r l:=by
 obtain⟨es,c,hr,hes⟩ := h
 exact⟨es,c,x.block hr,hes⟩
theorem MapAt.lt (h:MapAt w r l):r<w.heap.size:=by
 obtain⟨es,c,hr,hes⟩ := h
 exact (Array.getElem?_eq_some_iff.1 hr).1
theorem MapAt.made (w:World):MapAt (w.alloc (.map #[] 0)) w.heap.size []:=⟨#[],0,heap_alloc_new w _,by simp⟩
variable {o:Oper} {a:Act} {Kc:Act->World->Prop} {Q:Exit->Act->World->Prop}
theorem jcb (m k x:Operand) (ho:o.op = .mapUpdate T m k x ∨ o.op = .insert T m k x) (hT:P.underlying T=some (.map K E)) (hK:P.underlying K=some .string) (v:Value)
  (hm:a.eval m = .map (some r)) (hk:a.eval k = .string s) (hx:a.eval x=v) (h:MapAt w r l) (hn:sH l s=none)
  (hc:∀ w',w.grownBy w' (some r)->MapAt w' r (l++[(s,v)])->Kc (a.put o.dst undef) w'):o.wp P a w Kc Q:=by
 obtain⟨w',hrun,hg,hM⟩ := jbm (P:=P) hT hK v h hn
 unfold Oper.wp
 rcases ho with ho | ho
 ·simp[execOp,ho,hm,hk,hx,hrun,Result.andThen]
  exact hc w' hg hM
 ·simp[execOp,ho,hm,hk,hx,hrun,Result.andThen]
  exact hc w' hg hM
theorem mK (m k:Operand) (ho:o.op = .lookup T m k false) (hT:P.underlying T=some (.map K E)) (hK:P.underlying K=some .string) {z:Value} (hz:(zeroValue E).run P w = .ok z w)
  (hm:a.eval m = .map (some r)) (hk:a.eval k = .string s) (h:MapAt w r l) (hc:Kc (a.put o.dst ((sH l s).getD z)) w):o.wp P a w Kc Q:=by
 have hrun:=jbl (P:=P) (s:=s) hT hK hz h
 unfold Oper.wp
 simp[execOp,ho,hm,hk,hrun,Result.andThen]
 exact hc
variable {ops:Array Oper} {rest:List Oper}
theorem jR (hgd:o.guard=none) (m k x:Operand) (ho:o.op = .mapUpdate T m k x ∨ o.op = .insert T m k x) (hT:P.underlying T=some (.map K E)) (hK:P.underlying K=some .string) (v:Value)
  (hm:a.eval m = .map (some r)) (hk:a.eval k = .string s) (hx:a.eval x=v) (h:MapAt w r l) (hn:sH l s=none)
  (hc:∀ w',w.grownBy w' (some r)->MapAt w' r (l++[(s,v)])->wpList P ops Q rest (a.put o.dst undef) w'):wpList P ops Q (o :: rest) a w :=
 wpList_plain hgd fun _ hK' => jcb m k x ho hT hK v hm hk hx h hn fun w' g M=>hK' _ _ (hc w' g M)
end
end
def sg (a b:Int):Value := .agg #[.int .i64 a,.int .i64 b]
def juo:List (ByteArray × Value):=[(⟨#[45]⟩,sg 1 1),(⟨#[33]⟩,sg 2 2)]
def juQ:List (ByteArray × Value):=[(⟨#[38,38]⟩,sg 2 2),(⟨#[124,124]⟩,sg 2 2)]


def jlc (k:Nat):List (ByteArray × Value):=juQ++(opsA.take k).map (fun s=>(s,sg 1 1))
def jc9 (k:Nat):List (ByteArray × Value):=jlc 4++(opsC.take k).map (fun s=>(s,sg 1 2))
def jnF (b:Bool):List (ByteArray × Value):=if b then jc9 6 else juo
def jr5 (l:List (ByteArray × Value)) (v:Value) (w:World):Prop := ∃ r,v = .map (some r)/\MapAt w r l
theorem jZ:Tryz.prog.underlying 115=some (.map 9 114):=by kernel_rfl
theorem zA:Tryz.prog.underlying 9=some .string:=by kernel_rfl
theorem Ext.row {a b c:World} {r:Nat} (h:Ext a b) (g:b.grownBy c (some r)) (hr:a.heap.size<=r):Ext a c:=Below.grown h g (Below.size h) (by intro k hk;cases hk;exact hr)
theorem jkS (w:World):Calls Tryz.prog 56 #[.bool false] w (Ret w (jr5 juo)):=by
 have hmm := @run_makeMap Tryz.prog
 have hM:=MapAt.made w
 have hE:Ext w (w.alloc (.map #[] 0)):=(Ext.refl w).alloc _
 go_enter Tryz.func56,Tryz.ntmps56
 go_wp2_with (first
  | (refine jR (r:=w.heap.size) (l:=[]) (s:=⟨#[45]⟩) rfl _ _ _ (.inr rfl) jZ zA (sg 1 1) rfl rfl rfl hM (by decide +kernel) ?_;intro w2 hg hM2;replace hM:=hM2;clear hM2;replace hE:=hE.row hg (Nat.le_refl _);clear hg)
  | (refine jR (r:=w.heap.size) (l:=[(⟨#[45]⟩,sg 1 1)]) (s:=⟨#[33]⟩) rfl _ _ _ (.inr rfl) jZ zA (sg 2 2) rfl rfl rfl hM (by decide +kernel) ?_;intro w2 hg hM2;replace hM:=hM2;clear hM2;replace hE:=hE.row hg (Nat.le_refl _);clear hg))
 go_ret
 exact⟨_,rfl,hE,_,rfl,hM⟩
theorem jmX (w:World):Calls Tryz.prog 56 #[.bool true] w (Ret w (jr5 (jc9 6))):=by
 have hmm := @run_makeMap Tryz.prog
 have hM:=MapAt.made w
 have hE:Ext w (w.alloc (.map #[] 0)):=(Ext.refl w).alloc _
 go_enter Tryz.func56,Tryz.ntmps56
 go_wp2_with (first
  | (refine jR (r:=w.heap.size) (l:=[]) (s:=⟨#[38,38]⟩) rfl _ _ _ (.inr rfl) jZ zA (sg 2 2) rfl rfl rfl hM (by decide +kernel) ?_;intro w2 hg hM2;replace hM:=hM2;clear hM2;replace hE:=hE.row hg (Nat.le_refl _);clear hg)
  | (refine jR (r:=w.heap.size) (l:=[(⟨#[38,38]⟩,sg 2 2)]) (s:=⟨#[124,124]⟩) rfl _ _ _ (.inr rfl) jZ zA (sg 2 2) rfl rfl rfl hM (by decide +kernel) ?_;intro w2 hg hM2;replace hM:=hM2;clear hM2;replace hE:=hE.row hg (Nat.le_refl _);clear hg))
 have hlt2:=hM.lt
 have hB:=heap_alloc_new w2 (.cells #[.string ⟨#[43]⟩,.string ⟨#[45]⟩,.string ⟨#[42]⟩,.string ⟨#[47]⟩] 9)
 replace hM:=hM.ext ((Ext.refl w2).alloc (.cells #[.string ⟨#[43]⟩,.string ⟨#[45]⟩,.string ⟨#[42]⟩,.string ⟨#[47]⟩] 9))
 replace hE:=hE.alloc (.cells #[.string ⟨#[43]⟩,.string ⟨#[45]⟩,.string ⟨#[42]⟩,.string ⟨#[47]⟩] 9)
 go_loopw [20] (fun iv wr => ∃ k:Nat,k<=4/\iv = .int .i64 k/\Ext w wr/\wr.heap[w2.heap.size]? = some (.cells #[.string ⟨#[43]⟩,.string ⟨#[45]⟩,.string ⟨#[42]⟩,.string ⟨#[47]⟩] 9 (0,0))/\MapAt wr w.heap.size (jlc k)) (fun iv _=>4-(intOf iv).toNat)
 case atStart=>exact⟨0,by omega,rfl,hE,hB,hM⟩
 case round =>
  clear hM hE hB
  obtain⟨k,hk,rfl,hE,hB,hM⟩ := hrel
  by_cases hlt:k<4
  ·have hk4:k=0 ∨ k=1 ∨ k=2 ∨ k=3:=by omega
   clear hk hlt
   rcases hk4 with rfl | rfl | rfl | rfl
   ·have cS:wr.cell? ⟨w2.heap.size,0,none⟩ = some (.string ⟨#[43]⟩):=by simp[World.cell?,hB]
    go_wp2_with (refine jR (r:=w.heap.size) (l:=jlc 0) (s:=⟨#[43]⟩) rfl _ _ _ (.inl rfl) jZ zA (sg 1 1) rfl rfl rfl hM (by decide +kernel) ?_;intro w3 hg hM2;have hB2:=(hg.block _ (Array.getElem?_eq_some_iff.1 hB).1 (by simp;omega)).trans hB;have hE2:=hE.row hg (Nat.le_refl _);clear hg)
    go_roundw
    case rel=>exact⟨1,by omega,rfl,hE2,hB2,hM2⟩
    case measure=>simp[intOf]
   ·have cS:wr.cell? ⟨w2.heap.size,1,none⟩ = some (.string ⟨#[45]⟩):=by simp[World.cell?,hB]
    go_wp2_with (refine jR (r:=w.heap.size) (l:=jlc 1) (s:=⟨#[45]⟩) rfl _ _ _ (.inl rfl) jZ zA (sg 1 1) rfl rfl rfl hM (by decide +kernel) ?_;intro w3 hg hM2;have hB2:=(hg.block _ (Array.getElem?_eq_some_iff.1 hB).1 (by simp;omega)).trans hB;have hE2:=hE.row hg (Nat.le_refl _);clear hg)
    go_roundw
    case rel=>exact⟨2,by omega,rfl,hE2,hB2,hM2⟩
    case measure=>simp[intOf]
   ·have cS:wr.cell? ⟨w2.heap.size,2,none⟩ = some (.string ⟨#[42]⟩):=by simp[World.cell?,hB]
    go_wp2_with (refine jR (r:=w.heap.size) (l:=jlc 2) (s:=⟨#[42]⟩) rfl _ _ _ (.inl rfl) jZ zA (sg 1 1) rfl rfl rfl hM (by decide +kernel) ?_;intro w3 hg hM2;have hB2:=(hg.block _ (Array.getElem?_eq_some_iff.1 hB).1 (by simp;omega)).trans hB;have hE2:=hE.row hg (Nat.le_refl _);clear hg)
    go_roundw
    case rel=>exact⟨3,by omega,rfl,hE2,hB2,hM2⟩
    case measure=>simp[intOf]
   ·have cS:wr.cell? ⟨w2.heap.size,3,none⟩ = some (.string ⟨#[47]⟩):=by simp[World.cell?,hB]
    go_wp2_with (refine jR (r:=w.heap.size) (l:=jlc 3) (s:=⟨#[47]⟩) rfl _ _ _ (.inl rfl) jZ zA (sg 1 1) rfl rfl rfl hM (by decide +kernel) ?_;intro w3 hg hM2;have hB2:=(hg.block _ (Array.getElem?_eq_some_iff.1 hB).1 (by simp;omega)).trans hB;have hE2:=hE.row hg (Nat.le_refl _);clear hg)
    go_roundw
    case rel=>exact⟨4,by omega,rfl,hE2,hB2,hM2⟩
    case measure=>simp[intOf]
  ·obtain rfl:k=4:=by omega
   clear hk hlt hB
   obtain⟨wo,rfl⟩ : ∃ wo:World,wo=wr:=⟨_,rfl⟩
   go_wp2
   simp only[Int.cast_ofNat_Int]
   have hlt3:=hM.lt
   have hB:=heap_alloc_new wo (.cells #[.string ⟨#[60]⟩,.string ⟨#[60,61]⟩,.string ⟨#[62]⟩,.string ⟨#[62,61]⟩,.string ⟨#[61,61]⟩,.string ⟨#[33,61]⟩] 9)
   replace hM:=hM.ext ((Ext.refl wo).alloc (.cells #[.string ⟨#[60]⟩,.string ⟨#[60,61]⟩,.string ⟨#[62]⟩,.string ⟨#[62,61]⟩,.string ⟨#[61,61]⟩,.string ⟨#[33,61]⟩] 9))
   replace hE:=hE.alloc (.cells #[.string ⟨#[60]⟩,.string ⟨#[60,61]⟩,.string ⟨#[62]⟩,.string ⟨#[62,61]⟩,.string ⟨#[61,61]⟩,.string ⟨#[33,61]⟩] 9)
   have hM0:MapAt (wo.alloc (.cells #[.string ⟨#[60]⟩,.string ⟨#[60,61]⟩,.string ⟨#[62]⟩,.string ⟨#[62,61]⟩,.string ⟨#[61,61]⟩,.string ⟨#[33,61]⟩] 9)) w.heap.size (jc9 0):=hM
   clear hM
   go_loopw [30] (fun iv wr => ∃ k:Nat,k<=6/\iv = .int .i64 k/\Ext w wr/\wr.heap[wo.heap.size]? = some (.cells #[.string ⟨#[60]⟩,.string ⟨#[60,61]⟩,.string ⟨#[62]⟩,.string ⟨#[62,61]⟩,.string ⟨#[61,61]⟩,.string ⟨#[33,61]⟩] 9 (0,0))/\MapAt wr w.heap.size (jc9 k)) (fun iv _=>6-(intOf iv).toNat)
   case atStart=>exact⟨0,by omega,rfl,hE,hB,hM0⟩
   case round =>
    clear hM0 hE hB
    obtain⟨k,hk,rfl,hE,hB,hM⟩ := hrel
    by_cases hlt:k<6
    ·have hk6:k=0 ∨ k=1 ∨ k=2 ∨ k=3 ∨ k=4 ∨ k=5:=by omega
     clear hk hlt
     rcases hk6 with rfl | rfl | rfl | rfl | rfl | rfl
     ·have cS:wr.cell? ⟨wo.heap.size,0,none⟩ = some (.string ⟨#[60]⟩):=by simp[World.cell?,hB]
      go_wp2_with (refine jR (r:=w.heap.size) (l:=jc9 0) (s:=⟨#[60]⟩) rfl _ _ _ (.inl rfl) jZ zA (sg 1 2) rfl rfl rfl hM (by decide +kernel) ?_;intro w3 hg hM2;have hB2:=(hg.block _ (Array.getElem?_eq_some_iff.1 hB).1 (by simp;omega)).trans hB;have hE2:=hE.row hg (Nat.le_refl _);clear hg)
      go_roundw
      case rel=>exact⟨1,by omega,rfl,hE2,hB2,hM2⟩
      case measure=>simp[intOf]
     ·have cS:wr.cell? ⟨wo.heap.size,1,none⟩ = some (.string ⟨#[60,61]⟩):=by simp[World.cell?,hB]
      go_wp2_with (refine jR (r:=w.heap.size) (l:=jc9 1) (s:=⟨#[60,61]⟩) rfl _ _ _ (.inl rfl) jZ zA (sg 1 2) rfl rfl rfl hM (by decide +kernel) ?_;intro w3 hg hM2;have hB2:=(hg.block _ (Array.getElem?_eq_some_iff.1 hB).1 (by simp;omega)).trans hB;have hE2:=hE.row hg (Nat.le_refl _);clear hg)
      go_roundw
      case rel=>exact⟨2,by omega,rfl,hE2,hB2,hM2⟩
      case measure=>simp[intOf]
     ·have cS:wr.cell? ⟨wo.heap.size,2,none⟩ = some (.string ⟨#[62]⟩):=by simp[World.cell?,hB]
      go_wp2_with (refine jR (r:=w.heap.size) (l:=jc9 2) (s:=⟨#[62]⟩) rfl _ _ _ (.inl rfl) jZ zA (sg 1 2) rfl rfl rfl hM (by decide +kernel) ?_;intro w3 hg hM2;have hB2:=(hg.block _ (Array.getElem?_eq_some_iff.1 hB).1 (by simp;omega)).trans hB;have hE2:=hE.row hg (Nat.le_refl _);clear hg)
      go_roundw
      case rel=>exact⟨3,by omega,rfl,hE2,hB2,hM2⟩
      case measure=>simp[intOf]
     ·have cS:wr.cell? ⟨wo.heap.size,3,none⟩ = some (.string ⟨#[62,61]⟩):=by simp[World.cell?,hB]
      go_wp2_with (refine jR (r:=w.heap.size) (l:=jc9 3) (s:=⟨#[62,61]⟩) rfl _ _ _ (.inl rfl) jZ zA (sg 1 2) rfl rfl rfl hM (by decide +kernel) ?_;intro w3 hg hM2;have hB2:=(hg.block _ (Array.getElem?_eq_some_iff.1 hB).1 (by simp;omega)).trans hB;have hE2:=hE.row hg (Nat.le_refl _);clear hg)
      go_roundw
      case rel=>exact⟨4,by omega,rfl,hE2,hB2,hM2⟩
      case measure=>simp[intOf]
     ·have cS:wr.cell? ⟨wo.heap.size,4,none⟩ = some (.string ⟨#[61,61]⟩):=by simp[World.cell?,hB]
      go_wp2_with (refine jR (r:=w.heap.size) (l:=jc9 4) (s:=⟨#[61,61]⟩) rfl _ _ _ (.inl rfl) jZ zA (sg 1 2) rfl rfl rfl hM (by decide +kernel) ?_;intro w3 hg hM2;have hB2:=(hg.block _ (Array.getElem?_eq_some_iff.1 hB).1 (by simp;omega)).trans hB;have hE2:=hE.row hg (Nat.le_refl _);clear hg)
      go_roundw
      case rel=>exact⟨5,by omega,rfl,hE2,hB2,hM2⟩
      case measure=>simp[intOf]
     ·have cS:wr.cell? ⟨wo.heap.size,5,none⟩ = some (.string ⟨#[33,61]⟩):=by simp[World.cell?,hB]
      go_wp2_with (refine jR (r:=w.heap.size) (l:=jc9 5) (s:=⟨#[33,61]⟩) rfl _ _ _ (.inl rfl) jZ zA (sg 1 2) rfl rfl rfl hM (by decide +kernel) ?_;intro w3 hg hM2;have hB2:=(hg.block _ (Array.getElem?_eq_some_iff.1 hB).1 (by simp;omega)).trans hB;have hE2:=hE.row hg (Nat.le_refl _);clear hg)
      go_roundw
      case rel=>exact⟨6,by omega,rfl,hE2,hB2,hM2⟩
      case measure=>simp[intOf]
    ·obtain rfl:k=6:=by omega
     go_wp2
     go_ret
     exact⟨_,rfl,hE,_,rfl,hM⟩
theorem gO (b:Bool) (w:World):Calls Tryz.prog 56 #[.bool b] w (Ret w (jr5 (jnF b))):=by
 cases b
 ·exact jkS w
 ·exact jmX w
def jn1 (b:Bool):List (ByteArray × Int × Int) :=
 if b then [(⟨#[38,38]⟩,2,2),(⟨#[124,124]⟩,2,2),(⟨#[43]⟩,1,1),(⟨#[45]⟩,1,1),(⟨#[42]⟩,1,1),(⟨#[47]⟩,1,1),(⟨#[60]⟩,1,2),(⟨#[60,61]⟩,1,2),(⟨#[62]⟩,1,2),(⟨#[62,61]⟩,1,2),(⟨#[61,61]⟩,1,2),(⟨#[33,61]⟩,1,2)]
 else [(⟨#[45]⟩,1,1),(⟨#[33]⟩,2,2)]
def jeP (b:Bool) (s:ByteArray):Int × Int:=(((jn1 b).find? (fun p=>s == p.1)).map (·.2)).getD (0,0)
theorem jiK (b:Bool):jnF b=(jn1 b).map (fun p=>(p.1,sg p.2.1 p.2.2)):=by cases b <;> rfl
theorem jd0 (b:Bool) (s:ByteArray):(sH (jnF b) s).getD (sg 0 0)=sg (jeP b s).1 (jeP b s).2:=by
 rw[jiK];unfold jeP sH;generalize jn1 b=l
 induction l with
 | nil=>rfl
 | cons p l ih =>
  by_cases h:s == p.1
  ·simp[h]
  ·simp only[List.map_cons,List.find?_cons,h];exact ih
mutual
def vM:Nd->Int
 | .mk k _ s kids =>
  if k=13 then 2 else if k=12 ∨ k=14 ∨ k=15 then 1
  else if k=17 ∨ k=18 then (if xL (jeP (k == 18) s).1 kids then 0 else (jeP (k == 18) s).2)
  else if k=16 then (if xL 1 kids then 0 else 1) else 0
def xL (t:Int):List Nd->Bool
 | []=>false
 | x :: xs=>(vM x != t) || xL t xs
end
theorem jie (t:Int) (l:List Nd):xL t l=l.any (fun x=>vM x != t):=by
 induction l with
 | nil=>simp[xL]
 | cons x xs ih=>simp[xL,ih]
def TypeOfC (t:Nd):Prop := ∀ v w,t.At w.cell? v->Calls Tryz.prog 33 #[v] w (mM w (.int .i64 (vM t)))
theorem TypeOfC.use {t:Nd} (h:TypeOfC t) {v:Value} {w:World} (ht:t.At w.cell? v):Calls Tryz.prog 33 #[v] w (mM w (.int .i64 (vM t))):=h v w ht
theorem jmK (w:World) (a b c d:Value) (T:TypeId):(w.alloc (.cells #[a,b,c,d] T)).heap[w.heap.size]? = some (.cells #[a,b,c,d] T (0,0)):=heap_alloc_new w _
theorem jlv (x:Nd) (ih:TypeOfC x) (v:Value) (p:Addr) (t:Int) (w:World) (hv:x.At w.cell? v) (hc:w.cell? p=some (.int .i64 t)) :
  Calls Tryz.prog 57 #[v,.pointer (some p)] w (mM w (.bool (vM x != t))):=by
 have IH:Hid (TypeOfC x):=ih
 have hA:=hv
 obtain⟨kv,rfl,-⟩ := hv.parts
 have hne:p.block<w.heap.size:=World.block_lt_of_cell? w p hc
 have hA1:Hid (x.At (w.alloc (.cells #[.int .i64 x.k,.int .i64 x.n,.string x.s,kv] 48)).cell? (.agg #[.int .i64 x.k,.int .i64 x.n,.string x.s,kv])):=Nd.At.mono (((Ext.refl w).alloc _).sub) _ _ hA
 obtain⟨c0,c1,c2,c3,-⟩ := rS (jmK w (.int .i64 x.k) (.int .i64 x.n) (.string x.s) kv 48)
 have hcp:=((Ext.refl w).alloc (.cells #[.int .i64 x.k,.int .i64 x.n,.string x.s,kv] 48)).c hc
 obtain⟨ty,hty⟩ : ∃ ty,ty=vM x:=⟨_,rfl⟩
 have HT:Hid (ty=vM x):=hty
 clear ih hA hty hc hv
 go_enter Tryz.func57,Tryz.ntmps57
 go_wp2_with fail
 refine bY (fun w' => w'.cell? ⟨w.heap.size,0,none⟩ = some (.int .i64 x.k)/\w'.cell? ⟨w.heap.size,1,none⟩ = some (.int .i64 x.n)/\w'.cell? ⟨w.heap.size,2,none⟩ = some (.string x.s)/\w'.cell? ⟨w.heap.size,3,none⟩ = some kv/\w'.cell? p=some (.int .i64 t)) [(0,0),(2,0),(1,1),(3,3),(4,3)] (by kernel_rfl) (by kernel_rfl) ?_ (fun hS => ?_)
 ·first | go_keep | exact⟨hx2.c c0,hx2.c c1,hx2.c c2,hx2.c c3,hx2.c hcp⟩
 refine dA rfl hS (by rfl) ?_
 apply Exists.intro
 refine⟨fun w0 hS0 => ?_,?_⟩
 ·(try dsimp only at hS0);go_simp;try with_reducible rfl
 simp only[List.getElem_toArray,List.getElem_cons_zero,List.getElem_cons_succ,Act.put,List.setIfInBounds_toArray,List.set_cons_zero,List.set_cons_succ];refine dA rfl hS (by rfl) ?_
 apply Exists.intro
 refine⟨fun w0 hS0 => ?_,?_⟩
 ·(try dsimp only at hS0);go_simp;try with_reducible rfl
 simp only[List.getElem_toArray,List.getElem_cons_zero,List.getElem_cons_succ,Act.put,List.setIfInBounds_toArray,List.set_cons_zero,List.set_cons_succ];refine dB rfl (fun K hK => ?_);rw[if_pos (by rfl)]
 go_wp2_with (first
  | (go_at_call 33;refine (IH.out.use (Nd.At.mono (((Ext.refl _).drew).sub) _ _ hA1.out)).mono ?_;rintro e w2 ⟨rfl,hx2⟩;rw[<- HT.out]))
 refine fL (by first | go_keep | exact⟨hx2.c c0,hx2.c c1,hx2.c c2,hx2.c c3,hx2.c hcp⟩) (fun hS => ?_);refine nB rfl (by rfl) ?_
 apply Exists.intro
 refine⟨fun w0 => ?_,?_⟩
 ·go_simp;try with_reducible rfl
 simp only[List.getElem_toArray,List.getElem_cons_zero,List.getElem_cons_succ,Act.put,List.setIfInBounds_toArray,List.set_cons_zero,List.set_cons_succ];refine nB rfl (by rfl) ?_
 apply Exists.intro
 refine⟨fun w0 => ?_,?_⟩
 ·go_simp;try with_reducible rfl
 simp only[List.getElem_toArray,List.getElem_cons_zero,List.getElem_cons_succ,Act.put,List.setIfInBounds_toArray,List.set_cons_zero,List.set_cons_succ];refine jeM ?_
 go_wp2
 go_ret
 exact⟨by rw[<- HT.out];rfl,(((Ext.refl w).alloc _).drew).trans hx2⟩
theorem joP (l:List Nd) (sv:Value) (t:Int) (w:World) (hl:NdsAt w.cell? sv l) (ih:∀ x ∈ l,TypeOfC x) :
  Calls Tryz.prog 34 #[sv,.int .i64 t] w (mM w (.bool (!xL t l))):=by
 have x0:Ext w (w.alloc (.cells #[.int .i64 t] 81)):=(Ext.refl w).alloc _
 have hc:(w.alloc (.cells #[.int .i64 t] 81)).cell? ⟨w.heap.size,0,none⟩ = some (.int .i64 t):=jfr w [.int .i64 t] _ 0 _ rfl
 have hasks:Asks (w.alloc (.cells #[.int .i64 t] 81)) 57 #[.pointer (some ⟨w.heap.size,0,none⟩)] l (fun x=>vM x != t) :=
  ⟨fun _ _=>rfl,fun x hx v w' hx' hA=>jlv x (ih x hx) v ⟨w.heap.size,0,none⟩ t w' hA (hx'.c hc)⟩
 have hcall:=Lib.hid (vW l sv _ _ _ _ (hl.mono x0.sub) hasks)
 rw[<- jie] at hcall
 obtain⟨q,hq⟩ : ∃ q,q=xL t l:=⟨_,rfl⟩
 rw[<- hq] at hcall ⊢;clear hq hasks hc ih hl
 go_enter Tryz.func34,Tryz.ntmps34
 go_wp2_with (go_at_call 16;refine hcall.out.mono ?_;rintro e w2 ⟨rfl,hx2⟩)
 go_ret
 exact⟨rfl,x0.trans hx2⟩
theorem jhv (w:World):(zeroValue 114).run Tryz.prog w = .ok (sg 0 0) w:=by kernel_rfl
theorem jrU (w:World) (a b:Value) (T:TypeId):(w.alloc (.cells #[a,b] T)).heap[w.heap.size]? = some (.cells #[a,b] T (0,0)):=heap_alloc_new w _
theorem mU {w:World} {R:Nat} {a b:Value} {T:TypeId} (h:w.heap[R]? = some (.cells #[a,b] T (0,0))) :
  w.cell? ⟨R,0,none⟩ = some a/\w.cell? ⟨R,1,none⟩ = some b/\w.frozen? ⟨R,0,none⟩ = false/\w.frozen? ⟨R,1,none⟩ = false:=by
 simp[World.cell?,World.frozen?,h]
theorem joO {l:List Nd} {sv:Value} {w wk:World} (hl:NdsAt w.cell? sv l) (ih:∀ x ∈ l,TypeOfC x) (t:Int) {q:Bool} (hq:q=xL t l) (hE:Ext w wk) :
  Calls Tryz.prog 34 #[sv,.int .i64 t] wk (mM wk (.bool (!q))):=by
 rw[hq];exact joP l sv t wk (hl.mono hE.sub) ih
theorem jhm (k n:Int) (s:ByteArray) (l:List Nd) (hk:k=12 ∨ k=13 ∨ k=14 ∨ k=15):TypeOfC (.mk k n s l):=by
 intro v w ht
 obtain⟨kv,rfl,-⟩ := ht.parts
 clear ht
 rcases hk with rfl | rfl | rfl | rfl
 all_goals
  go_enter Tryz.func33,Tryz.ntmps33
  go_wp2
  go_ret
  exact⟨rfl,((Ext.refl w).alloc _).alloc _⟩
theorem jeZ (k n:Int) (s:ByteArray) (l:List Nd) (hk:k ≠ 12/\k ≠ 13/\k ≠ 14/\k ≠ 15/\k ≠ 16/\k ≠ 17/\k ≠ 18):TypeOfC (.mk k n s l):=by
 intro v w ht
 obtain⟨kv,rfl,-⟩ := ht.parts
 clear ht;simp only[Nd.k]
 obtain⟨h1,h2,h3,h4,h5,h6,h7⟩ := hk
 have e:vM (.mk k n s l)=0:=by simp[vM,h1,h2,h3,h4,h5,h6,h7]
 rw[e]
 go_enter Tryz.func33,Tryz.ntmps33
 go_wp2
 go_ret
 exact⟨rfl,((Ext.refl w).alloc _).alloc _⟩
theorem jhl (n:Int) (s:ByteArray) (l:List Nd) (ih:∀ x ∈ l,TypeOfC x):TypeOfC (.mk 16 n s l):=by
 intro v w ht
 obtain⟨kv,rfl,-,-,-,hl⟩ := ht.parts
 simp only[Nd.k,Nd.n,Nd.s,Nd.kids] at *
 obtain⟨q,hq⟩ : ∃ q,q=xL 1 l:=⟨_,rfl⟩
 have e:vM (.mk 16 n s l)=if q then 0 else 1:=by simp[vM,hq]
 have hcall:=fun (wk:World) (hE:Ext w wk)=>joO hl ih 1 hq hE
 have HC:=Lib.hid hcall
 rw[e];clear e hq hl ht ih hcall
 have hE:=((Ext.refl w).alloc (.cells #[.int .i64 16,.int .i64 n,.string s,kv] 48)).alloc (.cells #[.int .i64 1,.int .i64 1] 114)
 have hV:=jrU (w.alloc (.cells #[.int .i64 16,.int .i64 n,.string s,kv] 48)) (.int .i64 1) (.int .i64 1) 114
 simp only[World.size_alloc] at hV
 cases q
 all_goals
  go_enter Tryz.func33,Tryz.ntmps33
  go_wp2_with (go_at_call 34;refine (HC.out _ hE).mono ?_;rintro e w2 ⟨rfl,hx2⟩;obtain⟨cV0,cV1,fV0,fV1⟩ := mU (Ext.block hx2 hV))
  go_ret
  exact⟨rfl,hE.trans hx2⟩
theorem jhn (n:Int) (s:ByteArray) (l:List Nd) (ih:∀ x ∈ l,TypeOfC x):TypeOfC (.mk 17 n s l):=by
 intro v w ht
 obtain⟨kv,rfl,-,-,-,hl⟩ := ht.parts
 simp only[Nd.k,Nd.n,Nd.s,Nd.kids] at *
 obtain⟨o1,ho1⟩ : ∃ o1,o1=(jeP false s).1:=⟨_,rfl⟩
 obtain⟨o2,ho2⟩ : ∃ o2,o2=(jeP false s).2:=⟨_,rfl⟩
 obtain⟨q,hq⟩ : ∃ q,q=xL o1 l:=⟨_,rfl⟩
 have e:vM (.mk 17 n s l)=if q then 0 else o2:=by
  simp[vM,hq,ho1,ho2]
 have hlk:(sH (jnF false) s).getD (sg 0 0) = .agg #[.int .i64 o1,.int .i64 o2]:=by rw[jd0,ho1,ho2];rfl
 have HL:=Lib.hid hlk
 have hcall:=fun (wk:World) (hE:Ext w wk)=>joO hl ih o1 hq hE
 have HC:=Lib.hid hcall
 rw[e];clear e hq hl ht ih hcall ho1 ho2 hlk
 have hE:=((Ext.refl w).alloc (.cells #[.int .i64 17,.int .i64 n,.string s,kv] 48)).alloc (.cells #[.int .i64 1,.int .i64 1] 114)
 have hB:=Ext.block ((Ext.refl _).alloc (.cells #[.int .i64 1,.int .i64 1] 114)) (jmK w (.int .i64 17) (.int .i64 n) (.string s) kv 48)
 have hV:=jrU (w.alloc (.cells #[.int .i64 17,.int .i64 n,.string s,kv] 48)) (.int .i64 1) (.int .i64 1) 114
 simp only[World.size_alloc] at hV
 cases q
 all_goals
  obtain⟨c0,c1,c2,c3,-⟩ := rS hB
  go_enter Tryz.func33,Tryz.ntmps33
  go_wp2_with fail
  refine bY (fun w' => w'.cell? ⟨w.heap.size,0,none⟩ = some (.int .i64 17)/\w'.cell? ⟨w.heap.size,2,none⟩ = some (.string s)) [(0,3),(1,0),(2,3),(4,3),(5,0),(3,1),(6,1),(7,2)] (by kernel_rfl) (by kernel_rfl) ?_ (fun hS => ?_)
  ·first | go_keep | exact⟨hx2.c c0,hx2.c c2⟩
  refine nB rfl (by rfl) ?_
  apply Exists.intro
  refine⟨fun w0 => ?_,?_⟩
  ·go_simp;try with_reducible rfl
  simp only[List.getElem_toArray,List.getElem_cons_zero,List.getElem_cons_succ,Act.put,List.setIfInBounds_toArray,List.set_cons_zero,List.set_cons_succ];refine dA rfl hS (by rfl) ?_
  apply Exists.intro
  refine⟨fun w0 hS0 => ?_,?_⟩
  ·(try dsimp only at hS0);go_simp;try with_reducible rfl
  simp only[List.getElem_toArray,List.getElem_cons_zero,List.getElem_cons_succ,Act.put,List.setIfInBounds_toArray,List.set_cons_zero,List.set_cons_succ];refine nB rfl (by rfl) ?_
  apply Exists.intro
  refine⟨fun w0 => ?_,?_⟩
  ·go_simp;try with_reducible rfl
  simp only[List.getElem_toArray,List.getElem_cons_zero,List.getElem_cons_succ,Act.put,List.setIfInBounds_toArray,List.set_cons_zero,List.set_cons_succ];refine nB rfl (by rfl) ?_
  apply Exists.intro
  refine⟨fun w0 => ?_,?_⟩
  ·go_simp;try with_reducible rfl
  simp only[List.getElem_toArray,List.getElem_cons_zero,List.getElem_cons_succ,Act.put,List.setIfInBounds_toArray,List.set_cons_zero,List.set_cons_succ];refine dA rfl hS (by rfl) ?_
  apply Exists.intro
  refine⟨fun w0 hS0 => ?_,?_⟩
  ·(try dsimp only at hS0);go_simp;try with_reducible rfl
  simp only[List.getElem_toArray,List.getElem_cons_zero,List.getElem_cons_succ,Act.put,List.setIfInBounds_toArray,List.set_cons_zero,List.set_cons_succ];refine dB rfl (fun K hK => ?_);rw[if_pos (by rfl)]
  go_wp2_with (first
   | (go_at_call 56;refine (gO _ _).mono ?_;rintro e w2 ⟨v,rfl,hx2,r,rfl,hM⟩;have hV2:=Ext.block hx2 hV;obtain⟨cV0,cV1,fV0,fV1⟩ := mU hV2))
  refine fL (by first | go_keep | exact⟨hx2.c c0,hx2.c c2⟩) (fun hS => ?_);refine dB rfl (fun K hK => ?_);rw[if_pos (by rfl)];refine mK (r:=r) _ _ (by rfl) jZ zA (jhv _) (by rfl) (by rfl) hM ?_;rw[HL.out];refine hK _ _ ?_;refine fL (by first | go_keep | exact⟨hx2.c c0,hx2.c c2⟩) (fun hS => ?_);refine jdt rfl (fun K hK => ?_);rw[if_pos (by rfl)]
  go_wp2_with (first
   | (go_at_call 56;refine (gO _ _).mono ?_;rintro e w2 ⟨v,rfl,hx2,r,rfl,hM⟩;have hV2:=Ext.block hx2 hV;obtain⟨cV0,cV1,fV0,fV1⟩ := mU hV2))
  refine jeM ?_
  have hE3:=((hE.drew.trans hx2).row (xO w2 (w.heap.size+1) 0 (.int .i64 o1)) (by omega)).row (xO _ (w.heap.size+1) 1 (.int .i64 o2)) (by omega)
  have hV3:=eH (eH hV2 0 (.int .i64 o1)) 1 (.int .i64 o2)
  have hKids:=hx2.c c3
  have hKids3:=(xO (w2.setCell ⟨w.heap.size+1,0,none⟩ (.int .i64 o1)) (w.heap.size+1) 1 (.int .i64 o2)).cell ((xO w2 (w.heap.size+1) 0 (.int .i64 o1)).cell hKids (by simp)) (by simp)
  obtain⟨cW0,cW1,fW0,fW1⟩ := mU hV3
  clear hS hV hV2 hx2 hM hKids cV0 cV1 fV0 fV1 c0 c1 c2 c3 hB hE
  go_wp2_with (go_at_call 34;refine (HC.out _ hE3).mono ?_;rintro e w4 ⟨rfl,hx4⟩;have cX1:=hx4.c cW1)
  go_ret
  exact⟨rfl,hE3.trans hx4⟩
theorem jho (n:Int) (s:ByteArray) (l:List Nd) (ih:∀ x ∈ l,TypeOfC x):TypeOfC (.mk 18 n s l):=by
 intro v w ht
 obtain⟨kv,rfl,-,-,-,hl⟩ := ht.parts
 simp only[Nd.k,Nd.n,Nd.s,Nd.kids] at *
 obtain⟨o1,ho1⟩ : ∃ o1,o1=(jeP true s).1:=⟨_,rfl⟩
 obtain⟨o2,ho2⟩ : ∃ o2,o2=(jeP true s).2:=⟨_,rfl⟩
 obtain⟨q,hq⟩ : ∃ q,q=xL o1 l:=⟨_,rfl⟩
 have e:vM (.mk 18 n s l)=if q then 0 else o2:=by
  simp[vM,hq,ho1,ho2]
 have hlk:(sH (jnF true) s).getD (sg 0 0) = .agg #[.int .i64 o1,.int .i64 o2]:=by rw[jd0,ho1,ho2];rfl
 have HL:=Lib.hid hlk
 have hcall:=fun (wk:World) (hE:Ext w wk)=>joO hl ih o1 hq hE
 have HC:=Lib.hid hcall
 rw[e];clear e hq hl ht ih hcall ho1 ho2 hlk
 have hE:=((Ext.refl w).alloc (.cells #[.int .i64 18,.int .i64 n,.string s,kv] 48)).alloc (.cells #[.int .i64 1,.int .i64 1] 114)
 have hB:=Ext.block ((Ext.refl _).alloc (.cells #[.int .i64 1,.int .i64 1] 114)) (jmK w (.int .i64 18) (.int .i64 n) (.string s) kv 48)
 have hV:=jrU (w.alloc (.cells #[.int .i64 18,.int .i64 n,.string s,kv] 48)) (.int .i64 1) (.int .i64 1) 114
 simp only[World.size_alloc] at hV
 cases q
 all_goals
  obtain⟨c0,c1,c2,c3,-⟩ := rS hB
  go_enter Tryz.func33,Tryz.ntmps33
  go_wp2_with fail
  refine bY (fun w' => w'.cell? ⟨w.heap.size,0,none⟩ = some (.int .i64 18)/\w'.cell? ⟨w.heap.size,2,none⟩ = some (.string s)) [(0,3),(1,0),(2,3),(4,3),(5,0),(3,1),(6,1),(7,2)] (by kernel_rfl) (by kernel_rfl) ?_ (fun hS => ?_)
  ·first | go_keep | exact⟨hx2.c c0,hx2.c c2⟩
  refine nB rfl (by rfl) ?_
  apply Exists.intro
  refine⟨fun w0 => ?_,?_⟩
  ·go_simp;try with_reducible rfl
  simp only[List.getElem_toArray,List.getElem_cons_zero,List.getElem_cons_succ,Act.put,List.setIfInBounds_toArray,List.set_cons_zero,List.set_cons_succ];refine dA rfl hS (by rfl) ?_
  apply Exists.intro
  refine⟨fun w0 hS0 => ?_,?_⟩
  ·(try dsimp only at hS0);go_simp;try with_reducible rfl
  simp only[List.getElem_toArray,List.getElem_cons_zero,List.getElem_cons_succ,Act.put,List.setIfInBounds_toArray,List.set_cons_zero,List.set_cons_succ];refine nB rfl (by rfl) ?_
  apply Exists.intro
  refine⟨fun w0 => ?_,?_⟩
  ·go_simp;try with_reducible rfl
  simp only[List.getElem_toArray,List.getElem_cons_zero,List.getElem_cons_succ,Act.put,List.setIfInBounds_toArray,List.set_cons_zero,List.set_cons_succ];refine nB rfl (by rfl) ?_
  apply Exists.intro
  refine⟨fun w0 => ?_,?_⟩
  ·go_simp;try with_reducible rfl
  simp only[List.getElem_toArray,List.getElem_cons_zero,List.getElem_cons_succ,Act.put,List.setIfInBounds_toArray,List.set_cons_zero,List.set_cons_succ];refine dA rfl hS (by rfl) ?_
  apply Exists.intro
  refine⟨fun w0 hS0 => ?_,?_⟩
  ·(try dsimp only at hS0);go_simp;try with_reducible rfl
  simp only[List.getElem_toArray,List.getElem_cons_zero,List.getElem_cons_succ,Act.put,List.setIfInBounds_toArray,List.set_cons_zero,List.set_cons_succ];refine dB rfl (fun K hK => ?_);rw[if_pos (by rfl)]
  go_wp2_with (first
   | (go_at_call 56;refine (gO _ _).mono ?_;rintro e w2 ⟨v,rfl,hx2,r,rfl,hM⟩;have hV2:=Ext.block hx2 hV;obtain⟨cV0,cV1,fV0,fV1⟩ := mU hV2))
  refine fL (by first | go_keep | exact⟨hx2.c c0,hx2.c c2⟩) (fun hS => ?_);refine dB rfl (fun K hK => ?_);rw[if_pos (by rfl)];refine mK (r:=r) _ _ (by rfl) jZ zA (jhv _) (by rfl) (by rfl) hM ?_;rw[HL.out];refine hK _ _ ?_;refine fL (by first | go_keep | exact⟨hx2.c c0,hx2.c c2⟩) (fun hS => ?_);refine jdt rfl (fun K hK => ?_);rw[if_pos (by rfl)]
  go_wp2_with (first
   | (go_at_call 56;refine (gO _ _).mono ?_;rintro e w2 ⟨v,rfl,hx2,r,rfl,hM⟩;have hV2:=Ext.block hx2 hV;obtain⟨cV0,cV1,fV0,fV1⟩ := mU hV2))
  refine jeM ?_
  have hE3:=((hE.drew.trans hx2).row (xO w2 (w.heap.size+1) 0 (.int .i64 o1)) (by omega)).row (xO _ (w.heap.size+1) 1 (.int .i64 o2)) (by omega)
  have hV3:=eH (eH hV2 0 (.int .i64 o1)) 1 (.int .i64 o2)
  have hKids:=hx2.c c3
  have hKids3:=(xO (w2.setCell ⟨w.heap.size+1,0,none⟩ (.int .i64 o1)) (w.heap.size+1) 1 (.int .i64 o2)).cell ((xO w2 (w.heap.size+1) 0 (.int .i64 o1)).cell hKids (by simp)) (by simp)
  obtain⟨cW0,cW1,fW0,fW1⟩ := mU hV3
  clear hS hV hV2 hx2 hM hKids cV0 cV1 fV0 fV1 c0 c1 c2 c3 hB hE
  go_wp2_with (go_at_call 34;refine (HC.out _ hE3).mono ?_;rintro e w4 ⟨rfl,hx4⟩;have cX1:=hx4.c cW1)
  go_ret
  exact⟨rfl,hE3.trans hx4⟩
mutual
theorem jbK:∀ t:Nd,TypeOfC t
 | .mk k n s l=>by
  have ih:=oR l
  by_cases h1:k=12 ∨ k=13 ∨ k=14 ∨ k=15
  ·exact jhm k n s l h1
  ·by_cases h16:k=16
   ·subst h16;exact jhl n s l ih
   ·by_cases h17:k=17
    ·subst h17;exact jhn n s l ih
    ·by_cases h18:k=18
     ·subst h18;exact jho n s l ih
     ·exact jeZ k n s l (by omega)
theorem oR:∀ l:List Nd,∀ x ∈ l,TypeOfC x
 | []=>fun _ h=>by cases h
 | t :: ts =>
  have h1:=jbK t
  have h2:=oR ts
  fun x hx=>(List.mem_cons.1 hx).elim (fun e=>e ▸ h1) (h2 x)
end
def bU (l:List ByteArray) (s:ByteArray):Int:=match l.findIdx? (fun x=>x == s) with | some i=>(i:Int) | none => -1
theorem jn6 {l:List ByteArray} {s:ByteArray} {k:Nat} (hk:k<l.length) (h:∀ j (hj:j<l.length),j<k->(l[j] == s)=false) (hq:(l[k] == s)=true):bU l s=(k:Int):=by
 have:l.findIdx? (fun x=>x == s)=some k:=by
  rw[List.findIdx?_eq_some_iff_getElem];exact⟨hk,hq,fun j hj=>by simp[h j (by omega) hj]⟩
 unfold bU;rw[this]
theorem jkW {l:List ByteArray} {s:ByteArray} (h:∀ j (hj:j<l.length),(l[j] == s)=false):bU l s = -1:=by
 have:l.findIdx? (fun x=>x == s)=none:=by
  rw[List.findIdx?_eq_none_iff];intro x hx
  obtain⟨j,hj,rfl⟩ := List.mem_iff_getElem.1 hx
  simp[h j hj]
 unfold bU;rw[this]
theorem jeD (l:List ByteArray) (s:ByteArray) : -1<=bU l s/\bU l s<l.length+1/\bU l s<=l.length:=by
 unfold bU
 cases hf:l.findIdx? (fun x=>x == s) with
 | none=>simp;omega
 | some i =>
  rw[List.findIdx?_eq_some_iff_getElem] at hf
  obtain⟨hi,_⟩ := hf
  simp;omega
theorem jbn (v:Value) (l:List ByteArray) (s:ByteArray) (w:World) (hl:StrsAt w.cell? v l) :
  Calls Tryz.prog 30 #[v,.string s] w fun e w' => e = .returned (.int .i64 (bU l s))/\w=w':=by
 obtain⟨h1,h2,p,b,off,cap,rfl,hc,hp,hn,hh⟩ := hl
 go_enter Tryz.func30,Tryz.ntmps30
 go_wp2
 go_loop [5,8] (fun _ i => ∃ k:Nat,k<=l.length/\i = .int .i64 k /\ ∀ j (hj:j<l.length),j<k->(l[j] == s)=false) (fun _ i=>l.length-(intOf i).toNat)
 case atStart=>exact⟨0,by omega,rfl,fun j hj h=>absurd h (by omega)⟩
 case round =>
  obtain⟨k,hk,rfl,hno⟩ := hrel
  have HNO:Hid (∀ j (hj:j<l.length),j<k->(l[j] == s)=false):=hno
  clear hno
  by_cases hlt:k<l.length
  ·obtain rfl:p=some ⟨b,off,none⟩ := by
    rcases hp with rfl | hp
    ·simp at hlt
    ·exact hp
   have cx:=hh k hlt
   obtain⟨x,hx⟩ : ∃ x,x=l[k]:=⟨_,rfl⟩
   rw[show l.getD k ByteArray.empty=x from by rw[hx];simp[hlt]] at cx
   have HX:Hid (x=l[k]):=hx
   clear hx hh hp hn h2
   cases hxs:(s.toList == x.toList) with
   | true =>
    have hxs2:(x == s)=true:=by rw[beq_toListBytes,<- hxs,Bool.beq_comm]
    go_wp2
    go_ret
    have:=jn6 (s:=s) hlt HNO.out (by rw[<- HX.out];exact hxs2)
    exact⟨by rw[this];rfl,rfl⟩
   | false =>
    have hxs2:(x == s)=false:=by rw[beq_toListBytes,<- hxs,Bool.beq_comm]
    go_wp2
    go_round
    case rel=>exact⟨k+1,by omega,by go_num,fun j hj h=>by
     by_cases hjk:j=k
     ·subst hjk;rw[<- HX.out];exact hxs2
     ·exact HNO.out j hj (by omega)⟩
    case measure=>simp[intOf];omega
  ·clear hh hp hn h2
   go_wp2
   go_ret
   exact⟨by rw[jkW (fun j hj=>HNO.out j hj (by omega))];rfl,rfl⟩
def v6 (d v:List ByteArray) (s:ByteArray):Int:=if 0<=bU d s then bU d s else if 0<=bU v s then d.length+bU v s else -1
theorem jcK (dv vv ov:Value) (d v:List ByteArray) (s:ByteArray) (w:World) (hd:StrsAt w.cell? dv d) (hv:StrsAt w.cell? vv v) :
  Calls Tryz.prog 15 #[.agg #[dv,vv,ov],.string s] w (mM w (.int .i64 (v6 d v s))):=by
 have x0:Ext w (w.alloc (.cells #[dv,vv,ov] 26)):=(Ext.refl w).alloc _
 have c1:=Lib.hid (jbn dv d s _ (hd.mono x0.sub))
 have c2:=Lib.hid (jbn vv v s _ (hv.mono x0.sub))
 have e:v6 d v s=if 0<=bU d s then bU d s else if 0<=bU v s then d.length+bU v s else -1:=rfl
 have l1:=jeD d s
 have l2:=jeD v s
 have d1:=hd.1
 have d2:=hv.1
 obtain⟨p1,b1,o1,k1,rfl,hk1,-⟩ := hd.2.2
 obtain⟨p2,b2,o2,k2,rfl,hk2,-⟩ := hv.2.2
 obtain⟨i,hi⟩ : ∃ i,i=bU d s:=⟨_,rfl⟩
 obtain⟨j,hj⟩ : ∃ j,j=bU v s:=⟨_,rfl⟩
 rw[<- hi] at c1 e l1;rw[<- hj] at c2 e l2;rw[e];clear hi hj hd hv e
 by_cases h1:0<=i
 ·rw[if_pos h1]
  go_enter Tryz.func15,Tryz.ntmps15
  go_wp2_with (go_at_call 30;refine c1.out.mono ?_;rintro e w2 ⟨rfl,rfl⟩)
  go_ret
  exact⟨rfl,x0⟩
 ·rw[if_neg h1]
  by_cases h2:0<=j
  ·rw[if_pos h2]
   go_enter Tryz.func15,Tryz.ntmps15
   go_wp2_with fail
   refine c1.out.mono ?_;rintro e w2 ⟨rfl,rfl⟩
   go_wp2_with fail
   refine c2.out.mono ?_;rintro e w2 ⟨rfl,rfl⟩
   go_wp2
   go_ret
   exact⟨rfl,x0⟩
  ·rw[if_neg h2]
   go_enter Tryz.func15,Tryz.ntmps15
   go_wp2_with fail
   refine c1.out.mono ?_;rintro e w2 ⟨rfl,rfl⟩
   go_wp2_with fail
   refine c2.out.mono ?_;rintro e w2 ⟨rfl,rfl⟩
   go_wp2
   go_ret
   exact⟨rfl,x0⟩
mutual
def xG:Nd->Bool
 | .mk k _ _ kids=>if k=11 then lT kids else if k=2 ∨ k=3 then joB kids else !xL 1 kids
def lT:List Nd->Bool
 | []=>true
 | x :: xs=>xG x && lT xs
def joB:List Nd->Bool
 | []=>false
 | c :: rest=>(vM c == 2) && lT rest
end
theorem jhq (l:List Nd):lT l = !l.any (fun x => !xG x):=by
 induction l with
 | nil=>simp[lT]
 | cons x xs ih=>simp[lT,ih]
def WellC (t:Nd):Prop := ∀ v w,t.At w.cell? v->Calls Tryz.prog 17 #[v] w (mM w (.bool (xG t)))
theorem WellC.use {t:Nd} (h:WellC t) {v:Value} {w:World} (ht:t.At w.cell? v):Calls Tryz.prog 17 #[v] w (mM w (.bool (xG t))):=h v w ht
theorem jlh (x:Nd) (ih:WellC x) (v:Value) (w:World) (hv:x.At w.cell? v) :
  Calls Tryz.prog 32 #[v] w (mM w (.bool (!xG x))):=by
 have x0:=fun o=>(Ext.refl w).alloc o
 have hc:=fun o=>Lib.hid (ih.use (Nd.At.mono (x0 o).sub _ _ hv))
 obtain⟨kv,rfl,-⟩ := hv.parts
 obtain⟨q,hq⟩ : ∃ q,q=xG x:=⟨_,rfl⟩
 rw[<- hq] at hc ⊢;clear hq ih hv
 go_enter Tryz.func32,Tryz.ntmps32
 go_wp2_with (go_at_call 17;refine (hc _).out.mono ?_;rintro e w2 ⟨rfl,hx2⟩)
 go_ret
 exact⟨rfl,(x0 _).trans hx2⟩
theorem jbR (n:Int) (s:ByteArray) (l:List Nd) (ih:∀ x ∈ l,WellC x):WellC (.mk 11 n s l):=by
 intro v w ht
 obtain⟨kv,rfl,-,-,-,hl⟩ := ht.parts
 simp only[Nd.k,Nd.n,Nd.s,Nd.kids] at *
 have e:xG (.mk 11 n s l) = !l.any (fun x => !xG x):=by simp only[xG,jhq];simp
 have x0:Ext w (w.alloc (.cells #[.int .i64 11,.int .i64 n,.string s,kv] 48)):=(Ext.refl w).alloc _
 have hasks:Asks (w.alloc (.cells #[.int .i64 11,.int .i64 n,.string s,kv] 48)) 32 #[] l (fun x => !xG x) :=
  ⟨fun _ _=>rfl,fun x hx v w' hx' hA=>jlh x (ih x hx) v w' hA⟩
 have hcall:=Lib.hid (vW l kv _ _ _ _ (hl.mono x0.sub) hasks)
 rw[e]
 obtain⟨q,hq⟩ : ∃ q,q=l.any (fun x => !xG x):=⟨_,rfl⟩
 rw[<- hq] at hcall ⊢;clear hq hasks ih hl e ht
 go_enter Tryz.func17,Tryz.ntmps17
 go_wp2_with (go_at_call 16;refine hcall.out.mono ?_;rintro e w2 ⟨rfl,hx2⟩)
 go_ret
 exact⟨rfl,x0.trans hx2⟩
theorem jiU (k n:Int) (s:ByteArray) (l:List Nd) (hk:k ≠ 11/\k ≠ 2/\k ≠ 3):WellC (.mk k n s l):=by
 intro v w ht
 obtain⟨kv,rfl,-,-,-,hl⟩ := ht.parts
 simp only[Nd.k,Nd.n,Nd.s,Nd.kids] at *
 obtain⟨h1,h2,h3⟩ := hk
 have e:xG (.mk k n s l) = !xL 1 l:=by simp[xG,h1,h2,h3]
 have x0:Ext w (w.alloc (.cells #[.int .i64 k,.int .i64 n,.string s,kv] 48)):=(Ext.refl w).alloc _
 have hcall:=Lib.hid (joO hl (oR l) 1 rfl x0)
 rw[e]
 obtain⟨q,hq⟩ : ∃ q,q=xL 1 l:=⟨_,rfl⟩
 rw[<- hq] at hcall ⊢
 have b1:(k == 11)=false:=by simpa using h1
 have b2:(k == 2)=false:=by simpa using h2
 have b3:(k == 3)=false:=by simpa using h3
 clear hq hl e ht h1 h2 h3
 go_enter Tryz.func17,Tryz.ntmps17
 go_wp2_with (go_at_call 34;refine hcall.out.mono ?_;rintro e w2 ⟨rfl,hx2⟩)
 go_ret
 exact⟨rfl,x0.trans hx2⟩
theorem joC (k n:Int) (s:ByteArray) (hk:k=2 ∨ k=3):WellC (.mk k n s []):=by
 intro v w ht
 obtain⟨kv,rfl,-,-,-,hl⟩ := ht.parts
 simp only[Nd.k,Nd.n,Nd.s,Nd.kids] at *
 obtain⟨_,p,b,off,cap,rfl,-⟩ := hl
 have e:xG (.mk k n s [])=false:=by rcases hk with rfl | rfl <;> simp[xG,joB]
 rw[e];clear ht e
 rcases hk with rfl | rfl
 all_goals
  go_enter Tryz.func17,Tryz.ntmps17
  go_wp2
  go_ret
  exact⟨rfl,(Ext.refl w).alloc _⟩
theorem jli (k n:Int) (s:ByteArray) (c:Nd) (l:List Nd) (hk:k=2 ∨ k=3) (ih:∀ x ∈ l,WellC x):WellC (.mk k n s (c :: l)):=by
 intro v w ht
 obtain⟨kv,rfl,-,-,-,hl⟩ := ht.parts
 simp only[Nd.k,Nd.n,Nd.s,Nd.kids] at *
 have e:xG (.mk k n s (c :: l))=((vM c == 2) && xG (.mk 11 0 ⟨#[]⟩ l)):=by rcases hk with rfl | rfl <;> simp[xG,joB]
 obtain⟨hlen,p,b,off,cap,rfl,hcap,hp,hn,hin⟩ := hl
 obtain rfl:p=some ⟨b,off,none⟩ := by
  rcases hp with h | h
  ·cases h
  ·exact h
 have hin2:=hin
 unfold Nd.In at hin2
 obtain⟨⟨v0,v1,v2,v3,d0,d1,d2,d3,hc⟩,hrest⟩ := hin2
 simp only[List.length_cons] at *
 have x0:Ext w (w.alloc (.cells #[.int .i64 k,.int .i64 n,.string s,.slice (some ⟨b,off,none⟩) (l.length+1) cap] 48)):=(Ext.refl w).alloc _
 replace d0:=x0.c d0
 replace d1:=x0.c d1
 replace d2:=x0.c d2
 replace d3:=x0.c d3
 have ht1:=Lib.hid ((jbK c).use (Nd.At.mono x0.sub _ _ hc))
 obtain⟨ty,hty⟩ : ∃ ty,ty=vM c:=⟨_,rfl⟩
 have hB:=Ext.block (Ext.refl _) (jmK w (.int .i64 k) (.int .i64 n) (.string s) (.slice (some ⟨b,off,none⟩) (l.length+1) cap) 48)
 rw[e,<- hty];rw[<- hty] at ht1
 obtain⟨q,hq⟩ : ∃ q,q=xG (.mk 11 0 ⟨#[]⟩ l):=⟨_,rfl⟩
 have hw:=fun (w2:World) (hx2:Ext w w2) (kv2:Value) (hkv:NdsAt w.cell? kv2 l)=>(jbR 0 ⟨#[]⟩ l ih).use (Nd.At.of_parts (t := .mk 11 0 ⟨#[]⟩ l) (by simp[Nd.k]) (by simp[Nd.n]) (Nat.zero_le _) (hkv.mono hx2.sub))
 simp only[Nd.k,Nd.n,Nd.s] at hw;rw[<- hq] at hw ⊢
 have HW:=Lib.hid hw
 clear hq hty e ht ih hw hc hp hn hin
 cases hte:(ty == 2) with
 | false =>
  rcases hk with rfl | rfl
  all_goals
   go_enter Tryz.func17,Tryz.ntmps17
   go_wp2_with (go_at_call 33;refine ht1.out.mono ?_;rintro e w2 ⟨rfl,hx2⟩)
   go_ret
   exact⟨rfl,x0.trans hx2⟩
 | true =>
  by_cases h1:cap=1
  ·obtain rfl:l=[]:=List.eq_nil_of_length_eq_zero (by omega)
   have hkv:NdsAt w.cell? (.slice (some ⟨b,off,none⟩) 0 0) []:=⟨by simp,_,b,off,0,rfl,by simp,.inl rfl,by simp,by unfold Nd.In;trivial⟩
   subst h1;simp only[List.length_nil,Nat.zero_add] at *;clear hrest
   rcases hk with rfl | rfl
   all_goals
    go_enter Tryz.func17,Tryz.ntmps17
    go_wp2_with (first
     | (go_at_call 33;refine ht1.out.mono ?_;rintro e w2 ⟨rfl,hx2⟩;obtain⟨e0,e1,e2,e3,-⟩ := rS (hx2.block hB))
     | (go_at_call 17;(with_reducible refine (HW.out _ (x0.trans hx2) _ hkv).mono ?_);rintro e w3 ⟨rfl,hx3⟩))
    go_ret
    exact⟨rfl,(x0.trans hx2).trans hx3⟩
  ·have hkv:NdsAt w.cell? (.slice (some ⟨b,off+4,none⟩) l.length (cap-1)) l:=⟨by omega,_,b,off+4,cap-1,rfl,by omega,.inr rfl,by simp,hrest⟩
   clear hrest
   rcases hk with rfl | rfl
   all_goals
    go_enter Tryz.func17,Tryz.ntmps17
    go_wp2_with (first
     | (go_at_call 33;refine ht1.out.mono ?_;rintro e w2 ⟨rfl,hx2⟩;obtain⟨e0,e1,e2,e3,-⟩ := rS (hx2.block hB))
     | (go_at_call 17;(with_reducible refine (HW.out _ (x0.trans hx2) _ hkv).mono ?_);rintro e w3 ⟨rfl,hx3⟩))
    go_ret
    exact⟨rfl,(x0.trans hx2).trans hx3⟩
mutual
theorem jhs:∀ t:Nd,WellC t
 | .mk k n s l=>by
  have ih:=jhr l
  by_cases h11:k=11
  ·subst h11;exact jbR n s l ih
  ·by_cases h2:k=2 ∨ k=3
   ·cases l with
    | nil=>exact joC k n s h2
    | cons c rest=>exact jli k n s c rest h2 (fun x hx=>ih x (List.mem_cons_of_mem _ hx))
   ·exact jiU k n s l (by omega)
theorem jhr:∀ l:List Nd,∀ x ∈ l,WellC x
 | []=>fun _ h=>by cases h
 | t :: ts =>
  have h1:=jhs t
  have h2:=jhr ts
  fun x hx=>(List.mem_cons.1 hx).elim (fun e=>e ▸ h1) (h2 x)
end
def HIn (C:Rd) (b:Nat) (off:Nat) (l:List (Int × Nd)):Prop := ∀ i (hi:i<l.length),-9223372036854775808<=l[i].1/\l[i].1<=9223372036854775807 ∧
 ∃ v1 v2 v3 v4,C ⟨b,off+i*5,none⟩ = some (.int .i64 l[i].1)/\C ⟨b,off+i*5+1,none⟩ = some v1/\C ⟨b,off+i*5+2,none⟩ = some v2/\C ⟨b,off+i*5+3,none⟩ = some v3/\C ⟨b,off+i*5+4,none⟩ = some v4/\l[i].2.At C (.agg #[v1,v2,v3,v4])
def jt5 (C:Rd) (v:Value) (l:List (Int × Nd)):Prop :=
 l.length<=1000000000 /\ ∃ p b off cap,v = .slice p l.length cap/\l.length<=cap/\(l=[] ∨ p=some ⟨b,off,none⟩)/\(p=none->cap=0)/\HIn C b off l
structure Un where
 d:List ByteArray
 v:List ByteArray
 on:List (Int × Nd)
def jt9 (C:Rd) (x:Value) (u:Un):Prop := ∃ dv vv ov,x = .agg #[dv,vv,ov]/\StrsAt C dv u.d/\StrsAt C vv u.v/\jt5 C ov u.on
mutual
def jca (ix:ByteArray->Int):Nd->Bool
 | .mk k _ s kids=>((k == 1 || k == 14) && decide (ix s<0)) || jbN ix kids
def jbN (ix:ByteArray->Int):List Nd->Bool
 | []=>false
 | x :: xs=>jca ix x || jbN ix xs
end
theorem jiS (ix:ByteArray->Int) (l:List Nd):jbN ix l=l.any (jca ix):=by
 induction l with
 | nil=>simp[jbN]
 | cons x xs ih=>simp[jbN,ih]
structure Env (w:World) (U V:Nat) (dv vv ov:Value) (d v:List ByteArray):Prop where
 c0:w.cell? ⟨U,0,none⟩ = some dv
 c1:w.cell? ⟨U,1,none⟩ = some vv
 c2:w.cell? ⟨U,2,none⟩ = some ov
 f:w.cell? ⟨V,0,none⟩ = some (.func (.func 14) #[] #[.pointer (some ⟨U,0,none⟩),.pointer (some ⟨V,0,none⟩)])
 d:StrsAt w.cell? dv d
 v:StrsAt w.cell? vv v
theorem Env.ext {w w':World} {U V:Nat} {dv vv ov:Value} {d v:List ByteArray} (h:Env w U V dv vv ov d v) (x:Ext w w'):Env w' U V dv vv ov d v :=
 ⟨x.c h.c0,x.c h.c1,x.c h.c2,x.c h.f,h.d.mono x.sub,h.v.mono x.sub⟩
def jiY (t:Nd):Prop := ∀ (x:Value) (w:World) (U V:Nat) (dv vv ov:Value) (d v:List ByteArray),t.At w.cell? x->Env w U V dv vv ov d v →
  Calls Tryz.prog 14 #[x,.pointer (some ⟨U,0,none⟩),.pointer (some ⟨V,0,none⟩)] w (mM w (.bool (jca (v6 d v) t)))
theorem jko (k n:Int) (s:ByteArray) (l:List Nd) (ih:∀ x ∈ l,jiY x):jiY (.mk k n s l):=by
 intro x w U V dv vv ov d v ht E
 obtain⟨kv,rfl,-,-,-,hl⟩ := ht.parts
 simp only[Nd.k,Nd.n,Nd.s,Nd.kids] at *
 have e:jca (v6 d v) (.mk k n s l)=(((k == 1 || k == 14) && decide (v6 d v s<0)) || l.any (jca (v6 d v))):=by simp only[jca,jiS]
 have x0:Ext w (w.alloc (.cells #[.int .i64 k,.int .i64 n,.string s,kv] 48)):=(Ext.refl w).alloc _
 have E0:=E.ext x0
 have hB:=jmK w (.int .i64 k) (.int .i64 n) (.string s) kv 48
 have hasks:∀ w1,Ext (w.alloc (.cells #[.int .i64 k,.int .i64 n,.string s,kv] 48)) w1->Asks w1 14 #[.pointer (some ⟨U,0,none⟩),.pointer (some ⟨V,0,none⟩)] l (jca (v6 d v)) :=
  fun w1 h1=>⟨fun _ _=>rfl,fun y hy z w' hx' hA=>ih y hy z w' U V dv vv ov d v hA ((E0.ext h1).ext hx')⟩
 have hcall:=fun w1 h1=>vW l kv _ _ w1 _ (hl.mono (x0.trans h1).sub) (hasks w1 h1)
 have hidx:=jcK dv vv ov d v s _ E0.d E0.v
 obtain⟨q,hq⟩ : ∃ q,q=l.any (jca (v6 d v)):=⟨_,rfl⟩
 obtain⟨i,hi⟩ : ∃ i,i=v6 d v s:=⟨_,rfl⟩
 rw[e];rw[<- hq] at hcall ⊢;rw[<- hi] at hidx ⊢
 have HC:=Lib.hid hcall
 have HI:=Lib.hid hidx
 obtain⟨c0,c1,c2,cf,-,-⟩ := E0
 obtain⟨g0,g1,g2,g3,-⟩ := rS hB
 clear hq hi hasks hcall hidx ih hl e ht E
 by_cases hk:k=1 ∨ k=14
 ·by_cases hneg:i<0
  ·rcases hk with rfl | rfl
   all_goals
    go_enter Tryz.func14,Tryz.ntmps14
    go_wp2_with (first
     | (go_at_call 15;(with_reducible refine HI.out.mono ?_);rintro e w2 ⟨rfl,hx2⟩))
    go_ret
    exact⟨by simp[hneg],x0.trans hx2⟩
  ·rcases hk with rfl | rfl
   all_goals
    go_enter Tryz.func14,Tryz.ntmps14
    go_wp2_with (first
     | (go_at_call 15;(with_reducible refine HI.out.mono ?_);rintro e w2 ⟨rfl,hx2⟩;replace cf:=hx2.c cf;replace g3:=hx2.c g3)
     | (go_at_call 16;(with_reducible refine (HC.out _ hx2).mono ?_);rintro e w3 ⟨rfl,hx3⟩))
    go_ret
    exact⟨by simp[hneg],(x0.trans hx2).trans hx3⟩
 ·have b1:(k == 1)=false:=by simp;omega
  have b2:(k == 14)=false:=by simp;omega
  have hx2:=Ext.refl (w.alloc (.cells #[.int .i64 k,.int .i64 n,.string s,kv] 48))
  clear hk
  go_enter Tryz.func14,Tryz.ntmps14
  go_wp2_with (first
   | (go_at_call 16;(with_reducible refine (HC.out _ hx2).mono ?_);rintro e w3 ⟨rfl,hx3⟩))
  go_ret
  exact⟨by simp[b1,b2],x0.trans hx3⟩
mutual
theorem jfv:∀ t:Nd,jiY t
 | .mk k n s l=>jko k n s l (jfu l)
theorem jfu:∀ l:List Nd,∀ x ∈ l,jiY x
 | []=>fun _ h=>by cases h
 | t :: ts =>
  have h1:=jfv t
  have h2:=jfu ts
  fun x hx=>(List.mem_cons.1 hx).elim (fun e=>e ▸ h1) (h2 x)
end
def je2 (u:Un) (t:Nd):Bool := !xG t || jca (v6 u.d u.v) t
def vV (u:Un):Int:=if u.on.any (fun h=>je2 u h.2) then 11 else 0
theorem jaq {u:Un} {k:Nat} (hk:k<u.on.length) (h:je2 u u.on[k].2=true):vV u=11:=by
 unfold vV;rw[if_pos];exact List.any_eq_true.2 ⟨_,List.getElem_mem hk,h⟩
theorem jfs {u:Un} (h:∀ j (hj:j<u.on.length),je2 u u.on[j].2=false):vV u=0:=by
 unfold vV;rw[if_neg];rw[List.any_eq_true];rintro⟨x,hx,hq⟩
 obtain⟨j,hj,rfl⟩ := List.mem_iff_getElem.1 hx
 rw[h j hj] at hq;cases hq
theorem jtp {w:World} {R:Nat} {a:Value} {T:TypeId} (h:w.heap[R]? = some (.cells #[a] T (0,0))):w.cell? ⟨R,0,none⟩ = some a/\w.frozen? ⟨R,0,none⟩ = false:=by
 simp[World.cell?,World.frozen?,h]
theorem jhI {w:World} {R:Nat} {a b c:Value} {T:TypeId} (h:w.heap[R]? = some (.cells #[a,b,c] T (0,0))) :
  w.cell? ⟨R,0,none⟩ = some a/\w.cell? ⟨R,1,none⟩ = some b/\w.cell? ⟨R,2,none⟩ = some c:=by
 simp[World.cell?,h]
theorem jlU {w:World} {R:Nat} {a b c d e:Value} {T:TypeId} (h:w.heap[R]? = some (.cells #[a,b,c,d,e] T (0,0))) :
  w.cell? ⟨R,0,none⟩ = some a/\w.cell? ⟨R,1,none⟩ = some b/\w.cell? ⟨R,2,none⟩ = some c/\w.cell? ⟨R,3,none⟩ = some d/\w.cell? ⟨R,4,none⟩ = some e:=by
 simp[World.cell?,h]
theorem jlu {a b c d a' b' c' d':Value} (h:Value.agg #[a,b,c,d] = .agg #[a',b',c',d']):a=a'/\b=b'/\c=c'/\d=d':=by simpa using h
theorem jkn (u:Un) (x:Value) (w:World) (hv:jt9 w.cell? x u) :
  Calls Tryz.prog 5 #[x] w (mM w (.int .i64 (vV u))):=by
 obtain⟨dv,vv,ov,rfl,hd,hvv,hon⟩ := hv
 have hon2:=hon
 obtain⟨hl,p,b,off,cap,rfl,hcap,hp,hn,hin⟩ := hon2
 have x1:Ext w ((w.alloc (.cells #[dv,vv,.slice p u.on.length cap] 26)).alloc (.cells #[.func (.func 14) #[] #[.pointer (some ⟨w.heap.size,0,none⟩),.pointer (some ⟨w.heap.size+1,0,none⟩)]] 52)) :=
  ((Ext.refl w).alloc _).alloc _
 have hV:((w.alloc (.cells #[dv,vv,.slice p u.on.length cap] 26)).alloc (.cells #[.func (.func 14) #[] #[.pointer (some ⟨w.heap.size,0,none⟩),.pointer (some ⟨w.heap.size+1,0,none⟩)]] 52)).heap[w.heap.size+1]? = some (.cells #[(.func (.func 14) #[] #[.pointer (some ⟨w.heap.size,0,none⟩),.pointer (some ⟨w.heap.size+1,0,none⟩)])] 52 (0,0)):=by
  have:=heap_alloc_new (w.alloc (.cells #[dv,vv,.slice p u.on.length cap] 26)) (.cells #[.func (.func 14) #[] #[.pointer (some ⟨w.heap.size,0,none⟩),.pointer (some ⟨w.heap.size+1,0,none⟩)]] 52)
  simp only[World.size_alloc] at this;exact this
 have hU:=Ext.block ((Ext.refl _).alloc (.cells #[.func (.func 14) #[] #[.pointer (some ⟨w.heap.size,0,none⟩),.pointer (some ⟨w.heap.size+1,0,none⟩)]] 52)) (heap_alloc_new w (.cells #[dv,vv,.slice p u.on.length cap] 26))
 have E:Env _ w.heap.size (w.heap.size+1) dv vv (.slice p u.on.length cap) u.d u.v:=⟨(jhI hU).1,(jhI hU).2.1,(jhI hU).2.2,(jtp hV).1,hd.mono x1.sub,hvv.mono x1.sub⟩
 clear hU hV hd hvv hon
 go_enter Tryz.func5,Tryz.ntmps5
 go_wp2_with fail
 go_loopw [10] (fun iv wr => ∃ k:Nat,k<=u.on.length/\iv = .int .i64 k/\Ext w wr/\Env wr w.heap.size (w.heap.size+1) dv vv (.slice p u.on.length cap) u.d u.v /\ ∀ j (hj:j<u.on.length),j<k->je2 u u.on[j].2=false) (fun iv _=>u.on.length-(intOf iv).toNat)
 case atStart=>exact⟨0,by omega,rfl,x1,E,fun j hj h=>absurd h (by omega)⟩
 case round =>
  clear x1 E
  obtain⟨k,hk,rfl,hx,E,hno⟩ := hrel
  have HNO:Hid (∀ j (hj:j<u.on.length),j<k->je2 u u.on[j].2=false):=hno
  clear hno
  by_cases hlt:k<u.on.length
  ·obtain rfl:p=some ⟨b,off,none⟩ := by
    rcases hp with h | hp
    ·rw[h] at hlt;simp at hlt
    ·exact hp
   obtain⟨-,-,v1,v2,v3,v4,c0,c1,c2,c3,c4,ht⟩ := hin k hlt
   replace c0:=hx.c c0
   replace c1:=hx.c c1
   replace c2:=hx.c c2
   replace c3:=hx.c c3
   replace c4:=hx.c c4
   have ht2:=Nd.At.mono hx.sub _ _ ht
   obtain⟨hn0,hhn⟩ : ∃ z,z=u.on[k].1:=⟨_,rfl⟩
   obtain⟨t,htt⟩ : ∃ t,t=u.on[k].2:=⟨_,rfl⟩
   rw[<- hhn] at c0;rw[<- htt] at ht2
   have HT:Hid (t=u.on[k].2):=htt
   obtain⟨kv,hvv,-,-,-,-,p',b',o',c',hkv,-⟩ := ht2.parts
   subst hkv
   obtain⟨rfl,rfl,rfl,rfl⟩ := jlu hvv
   clear hvv
   have hwell:=fun w1 (h1:Ext wr w1)=>(jhs t).use (Nd.At.mono h1.sub _ _ ht2)
   have hchk:=fun w1 (h1:Ext wr w1)=>jfv t _ w1 _ _ _ _ _ _ _ (Nd.At.mono h1.sub _ _ ht2) (E.ext h1)
   obtain⟨qa,hqa⟩ : ∃ q,q=xG t:=⟨_,rfl⟩
   obtain⟨qb,hqb⟩ : ∃ q,q=jca (v6 u.d u.v) t:=⟨_,rfl⟩
   have hbad:je2 u t=(!qa || qb):=by rw[hqa,hqb];rfl
   rw[<- hqa] at hwell;rw[<- hqb] at hchk
   have HW:=Lib.hid hwell
   have HC:=Lib.hid hchk
   have HB:=Lib.hid hbad
   obtain⟨e0,e1,e2,ef,-,-⟩ := (show Env wr _ _ _ _ _ _ _ from E)
   clear hin hp hn ht ht2 htt hhn hwell hchk hqa hqb hbad
   have hH:=heap_alloc_new wr (.cells #[.int .i64 hn0,.int .i64 t.k,.int .i64 t.n,.string t.s,.slice p' t.kids.length c'] 51)
   cases qa with
   | false =>
    go_wp2_with (first
     | (go_at_call 17;refine (HW.out _ ((Ext.refl wr).alloc _)).mono ?_;rintro e w2 ⟨rfl,hx2⟩))
    go_ret
    refine⟨?_,(hx.alloc _).trans hx2⟩;rw[jaq hlt (by rw[<- HT.out,HB.out];rfl)];rfl
   | true =>
    have E1:=fun w2 (h2:Ext wr w2)=>E.ext h2
    have HE:=Lib.hid E1
    clear E1
    cases qb with
    | true =>
     go_wp2_with (first
      | (go_at_call 17;refine (HW.out _ ((Ext.refl wr).alloc _)).mono ?_;rintro e w2 ⟨rfl,hx2⟩;obtain⟨-,-,-,ef2,-,-⟩ := HE.out _ (((Ext.refl wr).alloc _).trans hx2);obtain⟨g0,g1,g2,g3,g4⟩ := jlU (hx2.block hH))
      | (go_at_call 14;refine (HC.out _ (((Ext.refl wr).alloc _).trans hx2)).mono ?_;rintro e w3 ⟨rfl,hx3⟩))
     go_ret
     refine⟨?_,((hx.alloc _).trans hx2).trans hx3⟩;rw[jaq hlt (by rw[<- HT.out,HB.out];rfl)];rfl
    | false =>
     go_wp2_with (first
      | (go_at_call 17;refine (HW.out _ ((Ext.refl wr).alloc _)).mono ?_;rintro e w2 ⟨rfl,hx2⟩;obtain⟨-,-,-,ef2,-,-⟩ := HE.out _ (((Ext.refl wr).alloc _).trans hx2);obtain⟨g0,g1,g2,g3,g4⟩ := jlU (hx2.block hH))
      | (go_at_call 14;refine (HC.out _ (((Ext.refl wr).alloc _).trans hx2)).mono ?_;rintro e w3 ⟨rfl,hx3⟩))
     go_roundw
     case rel=>exact⟨k+1,by omega,by go_num,((hx.alloc _).trans hx2).trans hx3,HE.out _ ((((Ext.refl wr).alloc _).trans hx2).trans hx3),fun j hj h=>by
      by_cases hjk:j=k
      ·subst hjk;rw[<- HT.out,HB.out];rfl
      ·exact HNO.out j hj (by omega)⟩
     case measure=>simp[intOf];omega
  ·clear hin
   obtain⟨e0,e1,e2,ef,-,-⟩ := E
   go_wp2
   go_ret
   exact⟨by rw[jfs (fun j hj=>HNO.out j hj (by omega))];rfl,hx⟩
end Go.Proofs.YtfbkolllpencnaaGreatDoor
namespace Go.Proofs.YtfbkolllpencnaaGreatDoor.Vm
open Go.RowKit Go.Shelf
def opAll:List ByteArray:=[kZ,pOr,wP,pMinus,zZ,qM,pLt,pLe,pGt,pGe,jn0,pNe]
def arN (k:Int) (s:ByteArray) (m:Nat):Bool :=
 if k=11 then decide (m<=3002)
 else if k=12 ∨ k=13 ∨ k=14 ∨ k=5 ∨ k=6 ∨ k=7 ∨ k=10 then decide (m=0)
 else if k=15 then decide (m=0) && builtL.any fun x=>decide (s=x)
 else if k=16 ∨ k=1 ∨ k=9 then decide (m=1)
 else if k=17 then decide (m=1) && (decide (s=pMinus) || decide (s=pNot))
 else if k=18 then decide (m=2) && opAll.any fun x=>decide (s=x)
 else if k=8 ∨ k=3 then decide (m=2)
 else if k=2 ∨ k=4 then decide (m=3)
 else false
theorem jlB {k:Int} {s:ByteArray} {m:Nat} (h:arN k s m=true):m<=3002:=by
 unfold arN at h
 repeat' split at h
 all_goals (try rw[Bool.and_eq_true] at h);(try simp only[decide_eq_true_eq] at h);(first | omega | (have:=h.1;omega) | cases h)
def isX (f:Nt):Bool:=decide (12<=f.k)
def clN (k:Int) (l:List Nt):Bool :=
 if k=11 then l.all fun f => !isX f
 else if k=2 ∨ k=3 then (l.take 1).all isX && (l.drop 1).all fun f => !isX f
 else l.all isX
mutual
def wfN:Nt->Prop
 | .mk k n s kids=>arN k s kids.length=true/\jf1 kids/\clN k kids=true
def jf1:List Nt->Prop
 | []=>True
 | f :: l=>wfN f/\jf1 l
end
theorem jht:∀ {l:List Nt} {f:Nt},jf1 l->f ∈ l->wfN f
 | x :: r,f,h,hf=>by
  unfold jf1 at h
  rcases List.mem_cons.1 hf with rfl | hf
  ·exact h.1
  ·exact jht h.2 hf
theorem jka:∀ {l:List Nt},(∀ f ∈ l,wfN f)->jf1 l
 | [],_=>by unfold jf1;trivial
 | x :: r,h=>by
  unfold jf1;exact⟨h x List.mem_cons_self,jka fun f hf=>h f (List.mem_cons_of_mem _ hf)⟩
theorem jbS {k n:Int} {s:ByteArray} {kids:List Nt} (h:arN k s kids.length=true) (hc:clN k kids=true) (hk:∀ f ∈ kids,wfN f):wfN (.mk k n s kids):=by
 unfold wfN;exact⟨h,jka hk,hc⟩
def Wc (c:Bool) (f:Nt):Prop:=wfN f/\isX f=c
theorem wx0 {k n:Int} {s:ByteArray} (h:arN k s 0=true):wfN (.mk k n s []):=jbS h (by unfold clN;(repeat' split) <;> rfl) (by simp)
theorem jrr {k:Int} {l:List Nt} (hk:k ≠ 11/\k ≠ 2/\k ≠ 3):clN k l=l.all isX:=by
 unfold clN;rw[if_neg hk.1,if_neg (fun h=>h.elim hk.2.1 hk.2.2)]
theorem wx1 {k n:Int} {s:ByteArray} {f:Nt} (h:arN k s 1=true) (hk:k ≠ 11/\k ≠ 2/\k ≠ 3) (hf:Wc true f):wfN (.mk k n s [f]):=jbS h (by rw[jrr hk];simp[hf.2]) fun x hx=>by rw[List.mem_singleton.1 hx];exact hf.1
theorem jhj {f g h:Nt} (hf:wfN f) (hg:wfN g) (hh:h ∈ [f,g]):wfN h:=by
 simp only[List.mem_cons,List.not_mem_nil,or_false] at hh
 rcases hh with rfl | rfl <;> assumption
theorem jbH {f g h i:Nt} (hf:wfN f) (hg:wfN g) (hh:wfN h) (hi:i ∈ [f,g,h]):wfN i:=by
 simp only[List.mem_cons,List.not_mem_nil,or_false] at hi
 rcases hi with rfl | rfl | rfl <;> assumption
theorem wx2 {k n:Int} {s:ByteArray} {f g:Nt} (h:arN k s 2=true) (hk:k ≠ 11/\k ≠ 2/\k ≠ 3) (hf:Wc true f) (hg:Wc true g):wfN (.mk k n s [f,g]):=jbS h (by rw[jrr hk];simp[hf.2,hg.2]) fun x hx=>jhj hf.1 hg.1 hx
theorem wx3 {k n:Int} {s:ByteArray} {f g c:Nt} (h:arN k s 3=true) (hk:k ≠ 11/\k ≠ 2/\k ≠ 3) (hf:Wc true f) (hg:Wc true g) (hc:Wc true c):wfN (.mk k n s [f,g,c]):=jbS h (by rw[jrr hk];simp[hf.2,hg.2,hc.2]) fun x hx=>jbH hf.1 hg.1 hc.1 hx
theorem wi2 {n:Int} {s:ByteArray} {c b:Nt} (hc:Wc true c) (hb:Wc false b):Wc false (.mk 3 n s [c,b]):=⟨jbS rfl (by unfold clN;simp[hc.2,hb.2]) fun x hx=>jhj hc.1 hb.1 hx,rfl⟩
theorem wi3 {n:Int} {s:ByteArray} {c b o:Nt} (hc:Wc true c) (hb:Wc false b) (ho:Wc false o):Wc false (.mk 2 n s [c,b,o]):=⟨jbS rfl (by unfold clN;simp[hc.2,hb.2,ho.2]) fun x hx=>jbH hc.1 hb.1 ho.1 hx,rfl⟩
theorem wbk {n:Int} {s:ByteArray} {l:List Nt} (hl:l.length<=3002) (h:∀ f ∈ l,Wc false f):Wc false (.mk 11 n s l):=⟨jbS (j8 hl) (by
 unfold clN;rw[if_pos rfl,List.all_eq_true]
 exact fun f hf=>by rw[(h f hf).2];rfl) fun f hf=>(h f hf).1,rfl⟩
mutual
def kH:Nt->Nat
 | .mk _ _ _ kids=>3+yE kids
def yE:List Nt->Nat
 | []=>0
 | f :: l=>kH f+yE l
end
theorem jdA (s:Nt):∀ l:List Nt,yE (l++[s])=yE l+kH s
 | []=>by show kH s+0=0+kH s;omega
 | f :: l=>by show kH f+yE (l++[s])=kH f+yE l+kH s;rw[jdA s l];omega
def WP (c:Bool) (z:Nat) (op:List Tk->Pn):Prop := ∀ ts f r,ts.length<=3002->op ts = .ok f r->Wc c f /\ ∃ a,ts=a++r/\kH f<=z+9*a.length
def WPt (c:Bool) (z:Nat) (op:List Tk->Pn):Prop := ∀ ts f r,ts ≠ []->ts.length<=3002->op ts = .ok f r->Wc c f /\ ∃ a,ts=a++r/\kH f<=z+9*a.length
theorem WP.syn {c:Bool} {z:Nat} : WP c z synE:=fun ts f r _ h=>by cases h
theorem WP.bad {c:Bool} {z:Nat} (x:List Tk->Int) (y:Int):WP c z (fun ts => .bad (x ts) y):=fun ts f r _ h=>by cases h
theorem WP.mono {c:Bool} {z y:Nat} {op:List Tk->Pn} (h:WP c z op) (hz:z<=y):WP c y op:=fun ts f r h1 h2=>by
 obtain⟨a1,a,a2,a3⟩ := h ts f r h1 h2
 exact⟨a1,a,a2,by omega⟩
theorem WP.okT {c:Bool} {z:Nat} {f:Nt} (hf:Wc c f) (hz:kH f<=z:=by first | omega | (simp only[kH,yE,qD];omega)):WP c z (fun r => .ok f r):=fun ts g r _ h=>by cases h;exact⟨hf,[],rfl,by simpa using hz⟩
theorem WP.andThen {c d:Bool} {z:Nat} {op:List Tk->Pn} {k:Nt->List Tk->Pn} (h1:WP c 0 op) (h2:∀ f,Wc c f->WP d (z+kH f) (k f)):WP d z (fun ts=>(op ts).andThen k):=fun ts f r hz h=>by
 cases ho:op ts with
 | bad x y=>simp only[ho] at h;cases h
 | ok g u =>
  simp only[ho] at h
  obtain⟨a1,a,a2,a3⟩ := h1 ts g u hz ho
  have hu:u.length<=3002:=by rw[a2,List.length_append] at hz;omega
  obtain⟨b1,b,b2,b3⟩ := h2 g a1 u f r hu h
  exact⟨b1,a++b,by rw[a2,b2,List.append_assoc],by rw[List.length_append];omega⟩
theorem WP.tail {c:Bool} {z:Nat} {op:List Tk->Pn} (h:WP c (z+9) op):WPt c z (fun ts=>op ts.tail):=fun ts f r hne hz ho=>by
 obtain⟨a1,a,a2,a3⟩ := h _ f r (by rw[List.length_tail];omega) ho
 cases ts with
 | nil=>exact absurd rfl hne
 | cons t ts=>exact⟨a1,t :: a,by simpa using a2,by rw[List.length_cons];omega⟩
theorem WP.itc {d:Bool} {z:Nat} (c:List Tk->Prop) [DecidablePred c] (hc : ¬ c []) {op1 op2:List Tk->Pn} (h1:WPt d z op1) (h2:WP d z op2):WP d z (fun ts=>if c ts then op1 ts else op2 ts):=fun ts f r hz h=>by
 dsimp only at h
 split at h
 ·rename_i hcc
  exact h1 ts f r (fun e=>hc (e ▸ hcc)) hz h
 ·exact h2 ts f r hz h
theorem WP.ite {d:Bool} {z:Nat} (c:List Tk->Prop) [DecidablePred c] {op1 op2:List Tk->Pn} (h1:WP d z op1) (h2:WP d z op2):WP d z (fun ts=>if c ts then op1 ts else op2 ts):=fun ts f r hz h=>by
 dsimp only at h
 split at h
 ·exact h1 ts f r hz h
 ·exact h2 ts f r hz h
theorem gL (s:ByteArray) : ¬ qU s []=true:=by
 unfold qU;rw[show (decide ((hd []).kind=1) || decide ((hd []).kind=3))=false from rfl,Bool.and_false];exact Bool.false_ne_true
theorem jf9 (l:List ByteArray) : ¬ gS l []=true:=fun h=>by
 obtain⟨s,-,h2⟩ := List.any_eq_true.1 h
 exact gL s h2
theorem WP.xpt {c:Bool} {z:Nat} (s:ByteArray) {k:List Tk->Pn} (h:WP c (z+9) k):WP c z (fun ts=>Vm.xpt s ts k):=WP.itc (fun ts=>qU s ts=true) (gL s) h.tail WP.syn
theorem WP.num {c:Bool} {z:Nat} (limit:Int) {k:Int->List Tk->Pn} (h:∀ n,WP c (z+9) (k n)):WP c z (fun ts=>cR limit ts k):=fun ts f r hz ho=>by
 unfold cR at ho
 dsimp only at ho
 split at ho
 ·cases ho
 ·rename_i h2
  split at ho
  ·cases ho
  ·exact (h _).tail ts f r (fun e=>h2 (by rw[e];decide)) hz ho
structure WPa (p:Pa):Prop where
 no:WP true 0 p.no
 un:WP true 0 p.un
 ex:WP true 0 p.ex
 bl:WP false 0 p.bl
def jhx (low:Option Pa):Prop := ∀ p,low=some p->WPa p
theorem WP.nest {low:Option Pa} (hl:jhx low):WP true 0 (eW low):=by
 cases low with
 | none=>exact WP.ite (fun ts=>qU pLp ts=true) (WP.bad _ _) WP.syn
 | some p=>exact WP.itc (fun ts=>qU pLp ts=true) (gL _) (((hl p rfl).ex.andThen fun n hn=>WP.xpt pRp (WP.okT hn)).tail) WP.syn
theorem WP.tok {c:Bool} {z:Nat} {op:Tk->List Tk->Pn} (h:∀ t,WP c (z+9) (op t)):WPt c z (fun ts=>op (hd ts) ts.tail):=fun ts f r hne hz ho=>(h (hd ts)).tail ts f r hne hz ho
theorem jg5:xK []=false:=rfl
theorem WP.prim {low:Option Pa} (hl:jhx low):WP true 0 (yC low):=by
 refine WP.ite (fun ts=>qU pLp ts=true) (WP.nest hl) <|
  WP.itc (fun ts=>qU wDraw ts=true) (gL _) (((WP.nest hl).andThen fun n hn=>WP.okT ⟨wx1 rfl (by decide) hn,rfl⟩).tail) <|
  WP.itc (fun ts=>(hd ts).kind=2) (by decide) (WP.tok (op:=fun t r => .ok (.mk 12 t.n eB []) r) fun t=>WP.okT ⟨wx0 rfl,rfl⟩) <|
  WP.itc (fun ts=>qU rK ts=true) (gL _) (WP.okT ⟨wx0 rfl,rfl⟩).tail <|
  WP.itc (fun ts=>qU eQ ts=true) (gL _) (WP.okT ⟨wx0 rfl,rfl⟩).tail <|
  WP.itc (fun ts=>xK ts=true) (by rw[jg5];exact Bool.false_ne_true) (WP.tok (op:=fun t r => .ok (.mk 14 0 t.text []) r) fun t=>WP.okT ⟨wx0 rfl,rfl⟩) ?_
 intro ts f r hz h
 dsimp only at h
 by_cases hb:jg3 ts=true
 ·rw[if_pos hb] at h
  cases h
  refine⟨⟨wx0 ?_,rfl⟩,?_⟩
  ·unfold jg3 at hb;rw[Bool.and_eq_true] at hb
   show (decide (0=0) && _)=true
   rw[hb.2];rfl
  ·cases ts with
   | nil=>cases hb
   | cons t ts=>exact⟨[t],rfl,by show 3+0<=0+9*1;decide⟩
 ·rw[if_neg hb] at h
  cases h
theorem jlC {s:ByteArray} (h:s=pMinus ∨ s=pNot):arN 17 s 1=true:=by
 show (decide (1=1) && (decide (s=pMinus) || decide (s=pNot)))=true
 rcases h with rfl | rfl <;> simp
theorem WP.pre (s:ByteArray) (hs:s=pMinus ∨ s=pNot) {op:Option (List Tk->Pn)} (h:∀ f,op=some f->WP true 0 f) {op2:List Tk->Pn} (h2:WP true 0 op2):WP true 0 (fun ts=>if qU s ts=true then uG s op ts else op2 ts):=by
 cases op with
 | none=>exact WP.ite (fun ts=>qU s ts=true) (WP.bad _ _) h2
 | some f=>exact WP.itc (fun ts=>qU s ts=true) (gL _) (((h f rfl).andThen fun n hn=>WP.okT ⟨wx1 (jlC hs) (by decide) hn,rfl⟩).tail) h2
theorem WP.una {low:Option Pa} (hl:jhx low):WP true 0 (vP low) :=
 WP.pre pMinus (.inl rfl) (op:=low.map fun p:Pa=>p.un) (fun f hf=>by
  cases low with
  | none=>cases hf
  | some p=>cases hf;exact (hl p rfl).un) (WP.prim hl)
theorem jj6 {signs:List ByteArray} {ts:List Tk} (hs:∀ s ∈ signs,(opAll.any fun x=>decide (s=x))=true) (h:gS signs ts=true):(opAll.any fun x=>decide ((hd ts).text=x))=true:=by
 unfold gS at h;rw[List.any_eq_true] at h
 obtain⟨s,h1,h2⟩ := h
 unfold qU at h2;rw[Bool.and_eq_true,decide_eq_true_eq] at h2;rw[h2.1];exact hs s h1
theorem jad {s:ByteArray} (h:(opAll.any fun x=>decide (s=x))=true):arN 18 s 2=true:=by
 show (decide (2=2) && _)=true
 rw[h];rfl
theorem WP.chn {op:List Tk->Pn} {signs:List ByteArray} (hs:∀ s ∈ signs,(opAll.any fun x=>decide (s=x))=true) (h:WP true 0 op):WP true 0 (kO op signs):=by
 have go:∀ (n:Nat) (l:Nt),Wc true l->WP true (kH l) (x7 op signs n l):=fun n=>by
  induction n with
  | zero=>intro l hl;exact WP.okT hl
  | succ n ih =>
   intro l hl ts f r hz ho;rw[x7] at ho
   by_cases ha:gS signs ts=true
   ·rw[if_pos ha] at ho;exact (h.andThen (k:=fun f r=>x7 op signs n (.mk 18 0 (hd ts).text [l,f]) r) fun g hg=>(ih _ ⟨wx2 (jad (jj6 hs ha)) (by decide) hl hg,rfl⟩).mono (by simp only[kH,yE];omega)).tail ts f r (fun e=>jf9 signs (by rw[<- e];exact ha)) hz ho
   ·rw[if_neg ha] at ho;exact WP.okT hl (Nat.le_refl _) ts f r hz ho
 exact h.andThen (k:=fun f r=>x7 op signs r.length f r) fun f hf ts g r hz ho=>(go _ f hf).mono (by omega) ts g r hz ho
theorem WP.sum {low:Option Pa} (hl:jhx low):WP true 0 (jbA low):=WP.chn (by decide) (WP.chn (by decide) (WP.una hl))
theorem WP.nt {low:Option Pa} (hl:jhx low):WP true 0 (m9 low) :=
 WP.pre pNot (.inr rfl) (op:=low.map fun p:Pa=>p.no) (fun f hf=>by
  cases low with
  | none=>cases hf
  | some p=>cases hf;exact (hl p rfl).no) <| (WP.sum hl).andThen fun l hw=>fun r f r' hz ho=>by
   by_cases ha:gS cmpL r=true
   ·rw[if_pos ha] at ho;exact ((WP.sum hl).andThen (k:=fun m r' => .ok (.mk 18 0 (hd r).text [l,m]) r') fun g hg=>WP.okT ⟨wx2 (jad (jj6 (by decide) ha)) (by decide) hw hg,rfl⟩).tail r f r' (fun e=>jf9 cmpL (by rw[<- e];exact ha)) hz ho
   ·rw[if_neg ha] at ho;exact WP.okT hw (by omega) r f r' hz ho
theorem WP.exp {low:Option Pa} (hl:jhx low):WP true 0 (pH low):=WP.chn (by decide) (WP.chn (by decide) (WP.nt hl))
theorem jmT {c:Bool} {f g:Nt} (hf:Wc c f) (hg:g ∈ [f]):Wc c g:=by rw[List.mem_singleton.1 hg];exact hf
theorem WP.stm {ex bl:List Tk->Pn} (hx:WP true 0 ex) (hb:WP false 0 bl):WP false 0 (iN ex bl):=by
 have semi:∀ (z:Nat) (f:Nt),Wc false f->kH f<=z+9->WP false z (fun r=>Vm.xpt pSemi r fun r => .ok f r):=fun z f hf hz=>WP.xpt pSemi (WP.okT hf hz)
 exact WP.itc (fun ts=>xK ts=true) (by rw[jg5];exact Bool.false_ne_true) (WP.tok (op:=fun t ts=>Vm.xpt pEq ts fun r=>(ex r).andThen fun e r=>Vm.xpt pSemi r fun r => .ok (.mk 1 0 t.text [e]) r) fun t=>WP.xpt pEq (hx.andThen fun e he=>semi _ _ ⟨wx1 rfl (by decide) he,rfl⟩ (by simp only[kH,yE];omega))) <|
  WP.ite (fun ts=>(hd ts).kind ≠ 1) WP.syn <|
  WP.itc (fun ts=>(hd ts).text=wIf) (by decide) ((hx.andThen fun c hc=>hb.andThen fun b hb2=>WP.itc (fun r=>qU wElse r=true) (gL _) ((hb.andThen fun o ho=>WP.okT (wi3 hc hb2 ho)).tail) (WP.okT (wi3 hc hb2 ⟨wx0 rfl,rfl⟩))).tail) <|
  WP.itc (fun ts=>(hd ts).text=wWhile) (by decide) ((hx.andThen fun c hc=>hb.andThen fun b hb2=>WP.okT (wi2 hc hb2)).tail) <|
  WP.itc (fun ts=>(hd ts).text=wSend) (by decide) ((hx.andThen fun t ht=>WP.xpt pComma (WP.num 30 fun n=>WP.xpt pComma (hx.andThen fun a ha=>WP.xpt pComma (hx.andThen fun b hb2=>semi _ _ ⟨wx3 rfl (by decide) ht ha hb2,rfl⟩ (by simp only[kH,yE];omega))))).tail) <|
  WP.itc (fun ts=>(hd ts).text=wTimer) (by decide) ((WP.num 8 fun n=>semi _ _ ⟨wx0 rfl,rfl⟩ (by simp only[kH,yE];omega)).tail) <|
  WP.itc (fun ts=>(hd ts).text=wCancel) (by decide) ((WP.num 8 fun n=>semi _ _ ⟨wx0 rfl,rfl⟩ (by simp only[kH,yE];omega)).tail) <|
  WP.itc (fun ts=>(hd ts).text=wSync) (by decide) ((semi _ _ ⟨wx0 rfl,rfl⟩ (by simp only[kH,yE];omega)).tail) <|
  WP.itc (fun ts=>(hd ts).text=wReply) (by decide) ((hx.andThen fun a ha=>WP.xpt pComma (hx.andThen fun b hb2=>semi _ _ ⟨wx2 rfl (by decide) ha hb2,rfl⟩ (by simp only[kH,yE];omega))).tail) <|
  WP.itc (fun ts=>(hd ts).text=wFail) (by decide) ((hx.andThen fun a ha=>semi _ _ ⟨wx1 rfl (by decide) ha,rfl⟩ (by simp only[kH,yE];omega)).tail) <|
  WP.itc (fun ts=>(hd ts).text=wStop) (by decide) ((semi _ _ ⟨wx0 rfl,rfl⟩ (by simp only[kH,yE];omega)).tail) WP.syn
theorem WP.blk {st:List Tk->Pn} (h:WP false 0 st):WP false 0 (bkF st):=by
 have go:∀ (n:Nat) (acc:List Nt),(∀ f ∈ acc,Wc false f)->acc.length+n<=3002->WP false (9+yE acc) (lV st n acc):=fun n=>by
  induction n with
  | zero=>intro acc ha hz ts f r _ ho;cases ho
  | succ n ih =>
   intro acc ha hz ts f r hz2 ho;rw[lV] at ho
   by_cases hp:qU pRb ts=true
   ·rw[if_pos hp] at ho;cases ho;refine⟨wbk (by omega) ha,?_⟩
    cases ts with
    | nil=>exact absurd hp (gL _)
    | cons t ts=>exact⟨[t],rfl,by show 3+yE acc<=9+yE acc+9*1;omega⟩
   ·rw[if_neg hp] at ho
    exact h.andThen (k:=fun s r=>lV st n (acc++[s]) r) (fun s hs=>(ih (acc++[s]) (fun f hf=>by
     rcases List.mem_append.1 hf with hf | hf
     ·exact ha f hf
     ·exact jmT hs hf) (by rw[List.length_append,List.length_singleton];omega)).mono (by rw[jdA];omega)) ts f r hz2 ho
 exact WP.xpt pLb (k:=fun r=>lV st r.length [] r) fun ts f r hz ho=>go ts.length [] (by simp) (by simpa using hz) ts f r hz ho
theorem WP.bkN:WP false 0 bkN:=WP.ite (fun ts=>qU pLb ts=true) (WP.bad _ _) WP.syn
theorem WPa.pa {low:Option Pa} (hl:jhx low):WPa (paG low) where
 no:=WP.nt hl
 un:=WP.una hl
 ex:=WP.exp hl
 bl:=WP.blk (WP.stm (WP.exp hl) (by
  cases low with
  | none=>exact WP.bkN
  | some p=>exact (hl p rfl).bl))
theorem wpa:∀ n,WPa (pa n)
 | 0=>WPa.pa fun p h=>by cases h
 | n+1=>WPa.pa fun p h=>by cases h;exact wpa n
def uI:List (Int × Nt)->Nat
 | []=>0
 | h :: r=>kH h.2+1+uI r
structure WfU (u:Ut):Prop where
 du:u.du.length+u.vo.length<=16
 on:∀ h ∈ u.on,0<=h.1/\h.1<40/\wfN h.2
 st:∀ h ∈ u.on,isX h.2=false
 nd:u.on.Pairwise fun a b=>a.1 ≠ b.1
 ol:u.on.length<=4000
mutual
def toD:Nt->Nd
 | .mk k n s kids => .mk k n s (jhe kids)
def jhe:List Nt->List Nd
 | []=>[]
 | f :: l=>toD f :: jhe l
end
theorem jhf:∀ l:List Nt,jhe l=l.map toD
 | []=>rfl
 | f :: l=>by rw[jhe,jhf l];rfl
def toU (u:Ut):Un:=⟨u.du,u.vo,u.on.map fun h=>(h.1,toD h.2)⟩
def jlo (C D:Rd):Prop := ∀ b o u,C ⟨b,o,none⟩ = some u->D ⟨b,o,none⟩ = some u
theorem eD {E:Env} {b:Nat} : ∀ {l m:List A} {off:Nat},A.repAt (l++m) E b off ↔ A.repAt l E b off/\A.repAt m E b (off+l.length)
 | [],m,off=>by simp[A.repAt]
 | a :: r,m,off=>by
  simp only[List.cons_append,A.repAt];rw[eD (l:=r)];simp only[List.length_cons,Nat.add_assoc,Nat.add_comm 1]
  constructor
  ·rintro⟨h1,h2,h3⟩;exact⟨⟨h1,h2⟩,h3⟩
  ·rintro⟨⟨h1,h2⟩,h3⟩;exact⟨h1,h2,h3⟩
theorem jjO {E:Env} {n:Int} {u:Value} : (A.v (.int .i64 n)).rep E u ↔ u = .int .i64 n/\(-9223372036854775808<=n/\n<=9223372036854775807):=by
 rw[A.rep_v_iff]
 constructor
 ·rintro⟨h1,h2⟩;exact⟨h1,okV_int.1 h2⟩
 ·rintro⟨h1,h2⟩;exact⟨h1,okV_int.2 h2⟩
theorem rep_vsC {E:Env} {n:ByteArray} {u:Value} : (A.v (.string n)).rep E u ↔ u = .string n/\n.size<=maxLen:=by
 rw[A.rep_v_iff];exact Iff.rfl
mutual
theorem jqI:∀ (t:Nt) {E:Env} {D:Rd} {v:Value},jlo E.C D->wfN t->(A.agg (nt0 t)).rep E v->(toD t).At D v
 | .mk k n s kids,E,D,v,hD,hs,h=>by
  unfold wfN at hs
  have hl:kids.length<=3002:=jlB hs.1
  unfold A.rep nt0 at h
  obtain⟨us,rfl,h⟩ := h
  obtain⟨us⟩ := us
  simp only[A.repC] at h
  obtain⟨_,_,rfl,-,g1,_,_,rfl,-,g2,_,_,rfl,-,g3,_,_,rfl,-,g4,rfl⟩ := h
  unfold intA at g1 g2;unfold jY at g3;rw[jjO] at g1 g2;rw[rep_vsC] at g3
  obtain⟨rfl,g1⟩ := g1
  obtain⟨rfl,g2⟩ := g2
  obtain⟨rfl,g3⟩ := g3
  unfold A.rep at g4
  obtain⟨_,_,p,b,off,cap,rfl,h6,h7,h8,h9⟩ := g4
  unfold toD Nd.At
  have hlen:(jhe kids).length=kids.length:=by rw[jhf,List.length_map]
  rw[hlen];refine⟨g1,g2,g3,by omega,p,b,off,cap,rfl,h6,?_,h8,jqJ kids (E:=E.per) hD hs.2.1 h9⟩
  rcases h7 with h7 | h7
  ·exact .inl (List.eq_nil_of_length_eq_zero (by rw[hlen];exact h7))
  ·exact .inr h7
theorem jqJ:∀ (l:List Nt) {E:Env} {D:Rd} {b off:Nat},jlo E.C D->jf1 l->A.repAt (jii l) E b off->Nd.In D b (jhe l) off
 | [],_,_,_,_,_,_,_=>by unfold jhe Nd.In;trivial
 | t :: ts,E,D,b,off,hD,hs,h=>by
  unfold jf1 at hs;unfold jii at h
  have hl4:(nt0 t).length=4:=by rw[jih];rfl
  rw[eD,hl4] at h
  obtain⟨h1,h2⟩ := h
  unfold jhe Nd.In;refine⟨?_,jqJ ts hD hs.2 h2⟩
  obtain⟨us,k1,k2⟩ := A.repAt_vals h1
  have hl:=A.repC_len k1
  rw[hl4] at hl
  match us,hl,k1,k2 with
  | [v0,v1,v2,v3],_,k1,k2 =>
   refine⟨v0,v1,v2,v3,hD _ _ _ (k2 0 v0 rfl),hD _ _ _ (k2 1 v1 rfl),hD _ _ _ (k2 2 v2 rfl),hD _ _ _ (k2 3 v3 rfl),jqI t (E:=E) hD hs.1 ?_⟩;unfold A.rep;exact⟨_,rfl,k1⟩
end
theorem jbh {α:Type} {E:Env} {b:Nat} (f:α->Value) (hf:∀ x,(f x).oneCell'=true):∀ {l:List α} {off:Nat},A.repAt (l.map fun x => .v (f x)) E b off ↔ ∀ i (hi:i<l.length),E.C ⟨b,off+i,none⟩ = some (f l[i])/\fF (f l[i])
 | [],off=>by simp[A.repAt]
 | x :: l,off=>by
  simp only[List.map_cons,A.repAt];rw[jbh f hf (l:=l)]
  constructor
  ·rintro⟨⟨u,h1,-,h3⟩,h4⟩ i hi;rw[A.rep_v_iff] at h3
   cases i with
   | zero=>rw[Nat.add_zero,h1,h3.1];exact⟨rfl,h3.2⟩
   | succ i =>
    have:=h4 i (by simpa using hi)
    rw[show off+(i+1)=off+1+i by omega];exact this
  ·intro h;refine⟨⟨f x,by have:=(h 0 (by simp)).1;simpa using this,hf x,A.rep_v_iff.2 ⟨rfl,(h 0 (by simp)).2⟩⟩,fun i hi => ?_⟩
   have:=h (i+1) (by simpa using hi)
   rw[show off+1+i=off+(i+1) by omega];exact this
theorem jgN {E:Env} {D:Rd} {v:Value} {l:List ByteArray} (hD:jlo E.C D) (hl:l.length<=1000000000) (h:(A.sl 1 l.length (bA l)).rep E v):StrsAt D v l:=by
 unfold bA jY at h;unfold A.rep at h
 obtain⟨_,_,p,b,off,cap,rfl,h6,h7,h8,h9⟩ := h
 have h9:=(jbh (E:=E.per) Value.string (fun _=>rfl)).1 h9
 refine⟨hl,fun s hs => ?_,p,b,off,cap,rfl,h6,?_,h8,fun i hi => ?_⟩
 ·obtain⟨i,hi,rfl⟩ := List.mem_iff_getElem.1 hs
  exact (h9 i hi).2
 ·rcases h7 with h7 | h7
  ·exact .inl (List.eq_nil_of_length_eq_zero h7)
  ·exact .inr h7
 ·have:=(h9 i hi).1
  simp[List.getD_eq_getElem?_getD,hi]
  exact hD _ _ _ this
theorem jbg {α:Type} {E:Env} {b k:Nat} (f:α->List A) (hf:∀ x,(f x).length=k):∀ {l:List α} {off:Nat},A.repAt (l.flatMap f) E b off ↔ ∀ i (hi:i<l.length),A.repAt (f l[i]) E b (off+i*k)
 | [],off=>by simp[A.repAt]
 | x :: l,off=>by
  rw[List.flatMap_cons,eD,jbg f hf (l:=l),hf]
  constructor
  ·rintro⟨h1,h2⟩ i hi
   cases i with
   | zero=>simpa using h1
   | succ i =>
    have:=h2 i (by simpa using hi)
    rw[show off+(i+1)*k=off+k+i*k by rw[Nat.add_mul];omega];exact this
  ·intro h;refine⟨by have:=h 0 (by simp);rw[Nat.zero_mul,Nat.add_zero] at this;exact this,fun i hi => ?_⟩
   have:=h (i+1) (by simpa using hi)
   rw[show off+k+i*k=off+(i+1)*k by rw[Nat.add_mul];omega];exact this
theorem jnm {E:Env} {D:Rd} {v:Value} {u:Ut} (hD:jlo E.C D) (hs:WfU u) (h:(A.agg (utA u)).rep E v):jt9 D v (toU u):=by
 unfold A.rep utA at h
 obtain⟨us,rfl,h⟩ := h
 obtain⟨us⟩ := us
 simp only[A.repC] at h
 obtain⟨dv,_,rfl,-,g1,vv,_,rfl,-,g2,ov,_,rfl,-,g3,rfl⟩ := h
 refine⟨dv,vv,ov,rfl,jgN (l:=u.du) hD (by have:=hs.du;omega) g1,jgN (l:=u.vo) hD (by have:=hs.du;omega) g2,?_⟩;unfold A.rep at g3
 obtain⟨_,_,p,b,off,cap,rfl,h6,h7,h8,h9⟩ := g3
 have hlen:(toU u).on.length=u.on.length:=List.length_map ..
 unfold jt5;rw[hlen];refine⟨by have:=hs.ol;omega,p,b,off,cap,rfl,h6,?_,h8,fun i hi => ?_⟩
 ·rcases h7 with h7 | h7
  ·exact .inl (List.eq_nil_of_length_eq_zero (by rw[hlen];exact h7))
  ·exact .inr h7
 ·rw[hlen] at hi
  have hon:(toU u).on[i]=(u.on[i].1,toD u.on[i].2):=by simp[toU]
  rw[hon];unfold dP at h9
  have h10:=(jbg (E:=E.per) (k:=5) hnA (fun _=>rfl)).1 h9 i hi
  obtain⟨us,k1,k2⟩ := A.repAt_vals h10
  have hl:=A.repC_len k1
  rw[show (hnA u.on[i]).length=5 from rfl] at hl
  match us,hl,k1,k2 with
  | [v0,v1,v2,v3,v4],_,k1,k2 =>
   unfold hnA intA A.repC at k1
   obtain⟨_,_,e,-,g1,k3⟩ := k1
   cases e
   rw[jjO] at g1
   obtain⟨rfl,g4,g5⟩ := g1
   refine⟨g4,g5,v1,v2,v3,v4,hD _ _ _ (k2 0 _ rfl),hD _ _ _ (k2 1 v1 rfl),hD _ _ _ (k2 2 v2 rfl),hD _ _ _ (k2 3 v3 rfl),hD _ _ _ (k2 4 v4 rfl),jqI u.on[i].2 (E:=E) hD (hs.on _ (List.getElem_mem hi)).2.2 ?_⟩;unfold A.rep;rw[jih];exact⟨_,rfl,A.repC.mono _ E.per_le k3⟩
theorem jgs {w:World} {C:Rd} (h:Sub C (kS w)):jlo C w.cell? := fun b o u hc=>h _ _ hc
def kQ (u:Ut) (s:ByteArray):Int:=v6 u.du u.vo s
theorem jnY (u:Ut) (hu:WfU u):Spec Tryz.prog 5 [] [.agg (utA u)] fun _ r=>r=intA (vV (toU u)):=by
 refine dC (nR Tryz.func5 rfl (by kernel_rfl)) fun w C vals h0 h1 h2 => ?_
 unfold A.repL at h2
 obtain⟨v,us,rfl,h2,h3⟩ := h2
 unfold A.repL at h3;subst h3;refine (jkn (toU u) v w (jnm (jgs h1) hu h2)).mono ?_;rintro e w' ⟨rfl,hx⟩;exact⟨_,rfl,hx,A.rep_v (okV_int.2 (by unfold vV;split <;> decide))⟩
theorem jgE (l:List ByteArray) (s:ByteArray) : -1<=bU l s/\bU l s<=l.length:=by
 have:=jeD l s
 omega
theorem jpi {u:Ut} (hu:WfU u) (s:ByteArray) : -1<=kQ u s/\kQ u s<=100:=by
 have h1:=jgE u.du s
 have h2:=jgE u.vo s
 have h3:=hu.du
 unfold kQ v6
 repeat' split
 all_goals omega
theorem jsQ (u:Ut) (hu:WfU u) (s:ByteArray):Spec Tryz.prog 15 [] [.agg (utA u),jY s] fun _ r=>r=intA (kQ u s):=by
 have hb:=jpi hu s
 refine dC (nR Tryz.func15 rfl (by kernel_rfl)) fun w C vals h0 h1 h2 => ?_
 unfold A.repL at h2
 obtain⟨v,us,rfl,h2,h3⟩ := h2
 unfold A.repL at h3
 obtain⟨v2,us2,rfl,h3,h4⟩ := h3
 unfold A.repL at h4;subst h4
 obtain⟨rfl,-⟩ := rep_vsC.1 h3
 obtain⟨dv,vv,ov,rfl,g1,g2,g3⟩ := jnm (jgs h1) hu h2
 refine (jcK dv vv ov u.du u.vo s w g1 g2).mono ?_;rintro e w' ⟨rfl,hx⟩;exact⟨_,rfl,hx,A.rep_v (by have h:=(okA_int (n:=kQ u s)).2 (by omega);unfold okA at h;exact h)⟩
theorem jg1 (x:Int × Nt):∀ l:List (Int × Nt),(jaR x l).Perm (x :: l)
 | [] => .refl _
 | y :: l=>by
  rw[jaR]
  split
  ·exact .refl _
  ·exact ((jg1 x l).cons y).trans (.swap x y l)
theorem aH:∀ l:List (Int × Nt),(vS l).Perm l
 | [] => .refl _
 | x :: l=>(jg1 x (vS l)).trans ((aH l).cons x)
theorem jnV {l m:List (Int × Nt)} (h:l.Perm m):uI l=uI m:=by
 induction h with
 | nil=>rfl
 | cons x _ ih=>show _+uI _=_+uI _;rw[ih]
 | swap x y l=>show kH y.2+1+(kH x.2+1+uI l)=kH x.2+1+(kH y.2+1+uI l);omega
 | trans _ _ i j=>exact i.trans j
theorem jhb (x:Int × Nt):∀ l:List (Int × Nt),uI (l++[x])=uI l+(kH x.2+1)
 | []=>by show kH x.2+1+0=0+(kH x.2+1);omega
 | f :: l=>by show kH f.2+1+uI (l++[x])=kH f.2+1+uI l+(kH x.2+1);rw[jhb x l];omega
structure WfH (l:List (Int × Nt)):Prop where
 on:∀ h ∈ l,0<=h.1/\h.1<40/\wfN h.2
 st:∀ h ∈ l,isX h.2=false
 nd:l.Pairwise fun a b=>a.1 ≠ b.1
theorem WfH.sort {l:List (Int × Nt)} (h:WfH l):WfH (vS l) where
 on:=fun x hx=>h.on x ((aH l).mem_iff.1 hx)
 st:=fun x hx=>h.st x ((aH l).mem_iff.1 hx)
 nd:=((aH l).pairwise_iff (fun {a b} hab=>fun e=>hab e.symm)).2 h.nd
def TkN (ts:List Tk):Prop := ∀ t ∈ ts,0<=t.n
theorem TkN.suf {a r:List Tk} (h:TkN (a++r)):TkN r:=fun t ht=>h t (List.mem_append_right _ ht)
theorem TkN.tail {ts:List Tk} (h:TkN ts):TkN ts.tail:=fun t ht=>h t (List.mem_of_mem_tail ht)
theorem TkN.hd {ts:List Tk} (h:TkN ts):0<=(Vm.hd ts).n:=by
 cases ts with
 | nil=>exact Int.le_refl 0
 | cons t ts=>exact h t List.mem_cons_self
theorem jtB {ts r:List Tk} {n:Int} (hz:TkN ts) (h:hnF ts = .ok n r):0<=n/\n<40 /\ ∃ a,ts=a++r:=by
 have suf:∀ ts:List Tk,∃ a,ts=a++ts.tail:=fun ts=>by
  cases ts with
  | nil=>exact⟨[],rfl⟩
  | cons t ts=>exact⟨[t],rfl⟩
 have num:∀ (limit off:Int) (q:List Tk),TkN q->p7 limit off q = .ok n r->off<=n/\n<off+limit /\ ∃ a,q=a++r:=fun limit off q hq h=>by
  unfold p7 at h
  split at h
  ·cases h
  ·split at h
   ·cases h
   ·cases h
    have:=hq.hd
    exact⟨by omega,by omega,suf q⟩
 obtain⟨a,ha⟩ := suf ts
 unfold hnF at h
 split at h
 ·cases h;exact⟨by omega,by omega,suf ts⟩
 ·split at h
  ·cases h;exact⟨by omega,by omega,suf ts⟩
  ·split at h
   ·obtain⟨h1,h2,b,h3⟩ := num 8 2 _ hz.tail h
    exact⟨by omega,by omega,a++b,by rw[List.append_assoc,<- h3];exact ha⟩
   ·split at h
    ·obtain⟨h1,h2,b,h3⟩ := num 30 10 _ hz.tail h
     exact⟨by omega,by omega,a++b,by rw[List.append_assoc,<- h3];exact ha⟩
    ·cases h
theorem jqB (du vo:List ByteArray) (hn:du.length+vo.length<=16):∀ (n:Nat) (hs:List (Int × Nt)) (ts:List Tk) (u:Ut),uI hs+10*ts.length<=40000->TkN ts->ts.length<=3002->hs.length+n<=4000->WfH hs->r9 du vo n hs ts = .ok u->WfU u/\uI u.on<=40000
 | 0,hs,ts,u,_,_,_,_,_,h=>by cases h
 | n+1,hs,ts,u,hs0,hz,hl,hb,hw,h=>by
  rw[r9] at h
  split at h
  ·cases h
   exact⟨⟨hn,hw.sort.on,hw.sort.st,hw.sort.nd,by show (vS hs).length<=_;rw[(aH hs).length_eq];omega⟩,by show uI (vS hs)<=_;rw[jnV (aH hs)];omega⟩
  ·split at h
   ·cases h
   ·rename_i hon
    have hne:ts ≠ []:=fun e=>hon (by rw[e];exact Bool.eq_false_iff.2 (gL _))
    cases hh:hnF ts.tail with
    | bad x y=>rw[hh] at h;cases h
    | ok k r =>
     rw[hh] at h
     obtain⟨k0,k1,a,ha⟩ := jtB hz.tail hh
     dsimp only at h
     split at h
     ·cases h
     ·rename_i hdup
      cases hbl:(pa 19).bl r with
      | bad x y=>rw[hbl] at h;cases h
      | ok b r2 =>
       rw[hbl] at h
       have hr:r.length<=3002:=by
        have:=congrArg List.length ha
        rw[List.length_append,List.length_tail] at this;omega
       obtain⟨wb,a2,ha2,hsb⟩ := (wpa 19).bl r b r2 hr hbl
       have hzr:TkN r:=by
        have h1:=hz.tail
        rw[ha] at h1;exact h1.suf
       refine jqB du vo hn n (hs++[(k,b)]) r2 u (by
        have h1:=congrArg List.length ha
        have h2:=congrArg List.length ha2
        have h3:=List.length_pos_iff.2 hne
        rw[List.length_append] at h1 h2;rw[List.length_tail] at h1;rw[jhb]
        show uI hs+(kH b+1)+_<=_
        omega) (by rw[ha2] at hzr;exact hzr.suf) (by
        rw[ha2,List.length_append] at hr;omega) (by rw[List.length_append,List.length_singleton];omega) ?_ h
       refine⟨fun x hx => ?_,fun x hx => ?_,List.pairwise_append.2 ⟨hw.nd,List.pairwise_singleton _ _,fun x hx y hy => ?_⟩⟩
       ·rcases List.mem_append.1 hx with hx | hx
        ·exact hw.on x hx
        ·rw[List.mem_singleton.1 hx];exact⟨k0,k1,wb.1⟩
       ·rcases List.mem_append.1 hx with hx | hx
        ·exact hw.st x hx
        ·rw[List.mem_singleton.1 hx];exact wb.2
       ·rw[List.mem_singleton.1 hy];intro e;refine hdup ?_;rw[List.any_eq_true];exact⟨x,hx,j8 e⟩
theorem jm6:∀ (n:Nat) (names out:List ByteArray) (ts:List Tk) (names' out':List ByteArray) (r:List Tk),names.length<=16->cB n names out ts = .ok names' out' r->names'.length<=16/\names'.length+out.length=names.length+out'.length /\ ∃ a,ts=a++r
 | 0,names,out,ts,names',out',r,_,h=>by cases h
 | n+1,names,out,ts,names',out',r,hl,h=>by
  have suf:∀ ts:List Tk,∃ a,ts=a++ts.tail:=fun ts=>by
   cases ts with
   | nil=>exact⟨[],rfl⟩
   | cons t ts=>exact⟨[t],rfl⟩
  obtain⟨a1,h1⟩ := suf ts
  obtain⟨a2,h2⟩ := suf ts.tail
  obtain⟨a3,h3⟩ := suf ts.tail.tail
  rw[cB] at h
  split at h
  ·cases h
  ·split at h
   ·cases h
   ·split at h
    ·cases h
    ·split at h
     ·obtain⟨g1,g2,b,g3⟩ := jm6 n _ _ _ _ _ _ (by rw[List.length_append,List.length_singleton];omega) h
      rw[List.length_append,List.length_append,List.length_singleton] at g2;exact⟨g1,by omega,a1++(a2++b),by rw[List.append_assoc,List.append_assoc,<- g3,<- h2];exact h1⟩
     ·split at h
      ·cases h
       refine⟨by rw[List.length_append,List.length_singleton];omega,by rw[List.length_append,List.length_append,List.length_singleton];omega,a1++(a2++a3),by rw[List.append_assoc,List.append_assoc,<- h3,<- h2];exact h1⟩
      ·cases h
theorem jm4:∀ (n:Nat) (names du vo:List ByteArray) (ts:List Tk) (u:Ut),TkN ts->ts.length<=3002->names.length<=16->names.length=du.length+vo.length->mW n names du vo ts = .ok u->WfU u/\uI u.on<=40000
 | 0,names,du,vo,ts,u,_,_,_,_,h=>by cases h
 | n+1,names,du,vo,ts,u,hz,hl,hn,he,h=>by
  rw[mW] at h
  split at h
  ·cases hd:cB ts.length names [] ts with
   | bad x y=>rw[hd] at h;cases h
   | ok names' out r =>
    rw[hd] at h
    obtain⟨g1,g2,b,g3⟩ := jm6 _ _ _ _ _ _ _ hn hd
    rw[List.length_nil] at g2;rw[g3] at hz hl;exact jm4 n names' (du++out) vo r u hz.suf (by rw[List.length_append] at hl;omega) g1 (by rw[List.length_append];omega) h
  ·split at h
   ·cases hd:cB ts.length names [] ts with
    | bad x y=>rw[hd] at h;cases h
    | ok names' out r =>
     rw[hd] at h
     obtain⟨g1,g2,b,g3⟩ := jm6 _ _ _ _ _ _ _ hn hd
     rw[List.length_nil] at g2;rw[g3] at hz hl;exact jm4 n names' du (vo++out) r u hz.suf (by rw[List.length_append] at hl;omega) g1 (by rw[List.length_append];omega) h
   ·exact jqB du vo (by omega) _ [] ts u (by show 0+_<=_;omega) hz hl (by simp;omega) ⟨by simp,by simp,.nil⟩ h
theorem jqb {s:ByteArray} {u:Ut} (h:mI s = .ok u):WfU u/\uI u.on<=40000:=by
 unfold mI at h
 split at h
 ·cases h
 ·rename_i hsz
  cases he:(qY s).err with
  | some p=>rw[he] at h;cases h
  | none =>
   rw[he] at h
   have hok:=jpO s (by omega)
   have hlen:(iI s).length<=3002:=by
    have h1:=(nU (s.data.toList.length+1) 0 s.data.toList).1
    rw[gF he,List.length_append,List.length_singleton]
    have h2:(qY s).toks.length<=s.data.toList.length:=h1
    rw[k9] at h2;omega
   refine jm4 _ [] [] [] (iI s) u (fun t ht => ?_) hlen (by simp) rfl h
   rcases hok t ht with h3 | h3
   ·exact h3.2.2.2.1
   ·rw[h3.2.2.2];exact Int.le_refl 0
abbrev Ic:=Int × Int
def icA (i:Ic):List A:=[intA i.1,intA i.2]
@[irreducible] def yH (l:List Ic):List A:=l.flatMap icA
theorem jfV:yH []=[]:=by unfold yH;rfl
theorem jmm (l m:List Ic):yH (l++m)=yH l++yH m:=by unfold yH;rw[List.flatMap_append]
theorem jmo (i:Ic):yH [i]=icA i:=by unfold yH;rw[List.flatMap_cons,List.flatMap_nil,List.append_nil]
theorem jcI (l:List Ic) (a b:Int):yH (l++[(a,b)])=yH l++[intA a,intA b]:=by rw[jmm,jmo];rfl
theorem lB (l:List Ic):yH l=l.flatMap icA:=by unfold yH;rfl
theorem sT (l:List Ic) (i:Nat) (hi:i<l.length):jJ 2 i (yH l)=icA l[i]:=by rw[lB];exact gE icA (fun _=>rfl) l i hi
theorem jmn (l:List Ic):(yH l).length=l.length*2:=by
 rw[lB]
 induction l with
 | nil=>rfl
 | cons a l ih=>rw[List.flatMap_cons,List.length_append,ih,List.length_cons];simp only[icA,List.length_cons,List.length_nil];omega
def noI:Int->List Ic:=fun _=>[]
def brC (c y n:Int->List Ic) (at':Int):List Ic :=
 let l:=c at'
 let f:=at'+l.length+1+(y (at'+l.length+1)).length+1
 l++(16,f) :: (y (at'+l.length+1)++(15,f+(n f).length) :: n f)
def nA:List (Int->List Ic)->Int->List Ic
 | [],_=>[]
 | g :: r,at' => g at'++nA r (at'+(g at').length)
def biF (s:ByteArray):Int:=match builtL.findIdx? (fun x=>decide (x=s)) with
 | some i=>i
 | none => -1
def opC (s:ByteArray):List Ic :=
 if s=wP then [(6,0)] else if s=pMinus then [(7,0)] else if s=zZ then [(8,0)] else if s=qM then [(9,0)]
 else if s=pLt then [(11,0)] else if s=pLe then [(12,0)] else if s=jn0 then [(13,0)] else if s=pGt then [(12,0),(14,0)]
 else if s=pGe then [(11,0),(14,0)] else [(13,0),(14,0)]
def gT (ix:ByteArray->Int) (k n:Int) (s:ByteArray) (g:List (Int->List Ic)) (at':Int):List Ic :=
 if k=12 ∨ k=13 then [(1,n)]
 else if k=14 then [(2,ix s)]
 else if k=15 then [(4,biF s)]
 else if k=2 then brC (g.getD 0 noI) (g.getD 1 noI) (g.getD 2 noI) at'
 else if k=5 then [(18,n)]
 else if k=6 then [(19,n)]
 else if k=7 then [(20,0)]
 else if k=10 then [(23,0)]
 else if k=3 then
  let c:=(g.getD 0 noI) at'
  let b:=(g.getD 1 noI) (at'+c.length+1)
  c++(16,at'+c.length+b.length+2) :: (b++[(15,at')])
 else if k=18/\s=kZ then brC (g.getD 0 noI) (g.getD 1 noI) (fun _=>[(1,0)]) at'
 else if k=18/\s=pOr then brC (g.getD 0 noI) (fun _=>[(1,1)]) (g.getD 1 noI) at'
 else nA g at'++(if k=18 then opC s else if k=16 then [(5,0)] else if k=17 then (if s=pMinus then [(10,0)] else [(14,0)]) else if k=1 then [(3,ix s)] else if k=4 then [(17,n)] else if k=8 then [(21,0)] else if k=9 then [(22,0)] else [])
mutual
def qI (ix:ByteArray->Int):Nt->Int->List Ic
 | .mk k n s kids,at' => gT ix k n s (qJ ix kids) at'
def qJ (ix:ByteArray->Int):List Nt->List (Int->List Ic)
 | []=>[]
 | f :: l=>qI ix f :: qJ ix l
end
theorem dN (ix:ByteArray->Int):∀ l:List Nt,qJ ix l=l.map (qI ix)
 | []=>rfl
 | f :: l=>by rw[qJ,dN ix l];rfl
def aQ (k:Int):Int:=if k=3 ∨ k=5 ∨ k=10 ∨ k=14 ∨ k=16 ∨ k=22 then 1 else if 6<=k/\k<=9 ∨ 11<=k/\k<=13 ∨ k=21 then 2 else if k=17 then 3 else 0
def vR (k:Int):Int:=if k=1 ∨ k=2 ∨ 4<=k/\k<=14 then 1 else 0
def nxI (a:Int) (i:Ic):List Int:=if i.1=23 then [] else if i.1=15 then [i.2] else if i.1=16 then [a+1,i.2] else [a+1]
structure Fs where
 dm:List (Int × Int)
 wk:List Int
 er:Bool
def dF (dm:List (Int × Int)) (k:Int):Option Int:=(dm.find? fun p=>decide (k=p.1)).map (·.2)
def jg9 (n:Nat) (af:Int) (s:Fs) (k:Int):Option Fs :=
 if (n:Int)<=k then none else match dF s.dm k with
 | some d=>some ⟨s.dm,s.wk,s.er || decide (d ≠ af)⟩
 | none=>some ⟨s.dm++[(k,af)],s.wk++[k],s.er⟩
def tP (n:Nat) (af:Int):List Int->Fs->Option Fs
 | [],s=>some s
 | k :: l,s=>match jg9 n af s k with
  | none=>none
  | some s' => tP n af l s'
def afF (code:List Ic) (dm:List (Int × Int)) (a:Int):Int:=(dF dm a).getD 0-aQ (code.getD a.toNat (0,0)).1+vR (code.getD a.toNat (0,0)).1
def je2 (code:List Ic) (dm:List (Int × Int)) (a:Int):Bool:=decide ((dF dm a).getD 0<aQ (code.getD a.toNat (0,0)).1) || decide (16<afF code dm a)
def jnM (code:List Ic) (dm:List (Int × Int)) (wk:List Int) (er:Bool) (a:Int):Option Fs :=
 tP code.length (afF code dm a) (nxI a (code.getD a.toNat (0,0))) ⟨dm,wk,er || je2 code dm a⟩
def jp9 (er:Bool):Int:=if er=true then 13 else 0
def jmh (code:List Ic):Nat->Fs->Int
 | 0,s=>jp9 s.er
 | m+1,s=>match s.wk.getLast? with
  | none=>jp9 s.er
  | some a=>match jnM code s.dm s.wk.dropLast s.er a with
   | none=>12
   | some s' => jmh code m s'
def nS (code:List Ic) (entry:Int):Int:=if entry<0 then 0 else jmh code (code.length+1) ⟨[(entry,0)],[entry],false⟩
def jqm (code:List Ic):Prop := ∀ i ∈ code,i.1=15 ∨ i.1=16->0<=i.2
structure joM (n:Nat) (s:Fs):Prop where
 rng:∀ p ∈ s.dm,0<=p.1/\p.1<n
 nd:(s.dm.map (·.1)).Nodup
 wk:∀ k ∈ s.wk,∃ d,(k,d) ∈ s.dm
 dep:∀ p ∈ s.dm,-(3*(s.dm.length:Int))<=p.2/\p.2<=3*s.dm.length
theorem jrv {dm:List (Int × Int)} {k d:Int} (h:dF dm k=some d):(k,d) ∈ dm:=by
 unfold dF at h
 cases hf:dm.find? (fun p=>decide (k=p.1)) with
 | none=>rw[hf] at h;cases h
 | some p =>
  rw[hf] at h
  cases h
  have h1:=List.find?_some hf
  have h2:=List.mem_of_find?_eq_some hf
  rw[decide_eq_true_eq] at h1;rw[h1];exact h2
theorem joY {dm:List (Int × Int)} {k d:Int} (h:(k,d) ∈ dm):∃ d',dF dm k=some d':=by
 unfold dF
 cases hf:dm.find? (fun p=>decide (k=p.1)) with
 | none=>rw[List.find?_eq_none] at hf;exact absurd (hf _ h) (by simp)
 | some p=>exact⟨_,rfl⟩
theorem jjg {dm:List (Int × Int)} {k:Int} (h:dF dm k=none):∀ p ∈ dm,k ≠ p.1:=by
 unfold dF at h;rw[Option.map_eq_none_iff,List.find?_eq_none] at h
 exact fun p hp=>by simpa using h p hp
theorem p6:∀ (n:Nat) (l:List Int),l.Nodup->(∀ a ∈ l,0<=a/\a<(n:Int))->l.length<=n
 | 0,l,_,h=>by
  cases l with
  | nil=>exact Nat.le_refl _
  | cons a l=>have:=h a List.mem_cons_self;omega
 | n+1,l,hn,h=>by
  have h1:(l.erase (n:Int)).length<=n:=p6 n (l.erase (n:Int)) (hn.erase _) fun a ha=>by
   have h2:=h a (List.mem_of_mem_erase ha)
   have h3:a ≠ n:=(hn.mem_erase_iff.1 ha).1
   omega
  rw[List.length_erase] at h1
  split at h1 <;> omega
theorem jjr {n:Nat} {dm:List (Int × Int)} (h:∀ p ∈ dm,0<=p.1/\p.1<(n:Int)) (hn:(dm.map (·.1)).Nodup):dm.length<=n:=by
 have:=p6 n _ hn fun a ha=>by
  obtain⟨p,hp,rfl⟩ := List.mem_map.1 ha
  exact h p hp
 simpa using this
theorem jjs {n:Nat} {af k:Int} {s s':Fs} (h:joM n s) (hk:0<=k) (ha : -(3*(s.dm.length:Int))-3<=af/\af<=3*s.dm.length+3) (e:jg9 n af s k=some s'):joM n s'/\s'.wk.length+s.dm.length=s.wk.length+s'.dm.length/\s.dm.length<=s'.dm.length:=by
 unfold jg9 at e
 split at e
 ·cases e
 split at e
 ·cases e;exact⟨⟨h.rng,h.nd,h.wk,h.dep⟩,rfl,Nat.le_refl _⟩
 ·rename_i hd
  have hne:=jjg hd
  cases e
  refine⟨⟨fun p hp => ?_,?_,fun j hj => ?_,fun p hp => ?_⟩,by simp only[List.length_append,List.length_singleton];omega,by simp⟩
  ·rcases List.mem_append.1 hp with hp | hp
   ·exact h.rng p hp
   ·rw[List.mem_singleton.1 hp];exact⟨hk,by simp only;omega⟩
  ·rw[List.map_append,List.map_singleton,List.nodup_append];refine⟨h.nd,by simp,fun a ha b hb => ?_⟩
   obtain⟨p,hp,rfl⟩ := List.mem_map.1 ha
   rw[List.mem_singleton.1 hb];exact Ne.symm (hne p hp)
  ·rcases List.mem_append.1 hj with hj | hj
   ·obtain⟨d,hd⟩ := h.wk j hj
    exact⟨d,List.mem_append_left _ hd⟩
   ·rw[List.mem_singleton.1 hj];exact⟨af,List.mem_append_right _ List.mem_cons_self⟩
  ·simp only[List.length_append,List.length_singleton]
   rcases List.mem_append.1 hp with hp | hp
   ·have:=h.dep p hp;omega
   ·rw[List.mem_singleton.1 hp];simp only;omega
theorem jpE (k:Int):0<=aQ k/\aQ k<=3:=by unfold aQ;repeat' split <;> omega
theorem jne (k:Int):0<=vR k/\vR k<=1:=by unfold vR;split <;> omega
theorem jtU {code:List Ic} (hj:jqm code) {a:Int} (ha:0<=a/\a<code.length):∀ k ∈ nxI a (code.getD a.toNat (0,0)),0<=k:=by
 have hm:code.getD a.toNat (0,0) ∈ code:=by
  have h:a.toNat<code.length:=by omega
  rw[List.getD_eq_getElem?_getD,List.getElem?_eq_getElem h];exact List.getElem_mem h
 have hjm:=hj _ hm
 generalize code.getD a.toNat (0,0)=i at *;intro k hk;unfold nxI at hk
 split at hk
 ·cases hk
 ·split at hk
  ·rw[List.mem_singleton.1 hk];exact hjm (.inl (by assumption))
  ·split at hk
   ·rcases List.mem_cons.1 hk with rfl | hk
    ·omega
    ·rw[List.mem_singleton.1 hk];exact hjm (.inr (by assumption))
   ·rw[List.mem_singleton.1 hk];omega
def dmA (dm:List (Int × Int)):List (Int × A):=dm.map fun p=>(p.1,intA p.2)
theorem jfL (dm:List (Int × Int)) (k:Int):wJ (dmA dm) k=(dF dm k).map intA:=by
 unfold wJ dmA dF;rw[List.find?_map]
 cases h:dm.find? ((fun p:Int × A=>decide (k=p.1)) ∘ fun p:Int × Int=>(p.1,intA p.2)) with
 | none =>
  have:dm.find? (fun p:Int × Int=>decide (k=p.1))=none:=h
  rw[this];rfl
 | some p =>
  have:dm.find? (fun p:Int × Int=>decide (k=p.1))=some p:=h
  rw[this];rfl
theorem jm8 (dm:List (Int × Int)) (k d:Int):dmA (dm++[(k,d)])=dmA dm++[(k,intA d)]:=by unfold dmA;rw[List.map_append];rfl
def pgE (e:Nat->Int) (du vo:Int):List A:=[intA (e 0),intA (e 1),intA (e 2),intA (e 3),intA (e 4),intA (e 5),intA (e 6),intA (e 7),intA (e 8),intA (e 9),intA (e 10),intA (e 11),intA (e 12),intA (e 13),intA (e 14),intA (e 15),intA (e 16),intA (e 17),intA (e 18),intA (e 19),intA (e 20),intA (e 21),intA (e 22),intA (e 23),intA (e 24),intA (e 25),intA (e 26),intA (e 27),intA (e 28),intA (e 29),intA (e 30),intA (e 31),intA (e 32),intA (e 33),intA (e 34),intA (e 35),intA (e 36),intA (e 37),intA (e 38),intA (e 39),intA du,intA vo]
def pgL (code:List Ic) (e:Nat->Int) (du vo:Int):List A := .sl 2 code.length (yH code) :: pgE e du vo
def pgA (code:List Ic) (e:Nat->Int) (du vo:Int):A := .agg (pgL code e du vo)
structure Sh where
 po:Int
 pu:Int
 lo:Int
 hi:Int
def shA (s:Sh):A := .agg [intA s.po,intA s.pu,intA s.lo,intA s.hi]
def shL (v l:Int):List (Int × Sh):=[(1,⟨0,1,(-2147483647),2147483647⟩),(2,⟨0,1,0,v⟩),(3,⟨1,0,0,v⟩),(4,⟨0,1,0,8⟩),(5,⟨1,1,0,0⟩),(6,⟨2,1,0,0⟩),(7,⟨2,1,0,0⟩),(8,⟨2,1,0,0⟩),(9,⟨2,1,0,0⟩),(10,⟨1,1,0,0⟩),(11,⟨2,1,0,0⟩),(12,⟨2,1,0,0⟩),(13,⟨2,1,0,0⟩),(14,⟨1,1,0,0⟩),(15,⟨0,0,0,l⟩),(16,⟨1,0,0,l⟩),(17,⟨3,0,0,29⟩),(18,⟨0,0,0,7⟩),(19,⟨0,0,0,7⟩),(20,⟨0,0,0,0⟩),(21,⟨2,0,0,0⟩),(22,⟨1,0,0,0⟩),(23,⟨0,0,0,0⟩)]
def shP (v l:Int):List (Int × A):=(shL v l).map fun p=>(p.1,shA p.2)
def shM (v l:Int):A := .mp (uU (shP v l)) (oY (shP v l))
theorem tZ (code:List Ic) (e:Nat->Int) (du vo:Int) (hd : -100<=du/\du<=100) (hv : -100<=vo/\vo<=100) (hl:code.length<=1000000):Spec Tryz.prog 35 [] [pgA code e du vo] fun _ r=>r=shM (du+vo-1) (code.length-1):=by
 refine gH (jD ju1 jT 0) (fun _ _ h=>h) Tryz.func35 rfl (by kernel_rfl) rfl ?_;intro _;refine wG (jD _ _ _) (by kernel_rfl) ?_;conv=>whnf
 refine wG (jD _ _ _) (by kernel_rfl) ?_;conv=>whnf
 refine⟨jV (by omega),?_⟩;conv=>whnf
 refine⟨jV (by omega),?_⟩;conv=>whnf
 refine⟨jV (by omega),?_⟩;conv=>whnf
 refine wG (jD _ _ _) (by kernel_rfl) ?_;conv=>whnf
 refine jeu 0 ?_;conv=>whnf
 refine kI (jD _ _ _) (by kernel_rfl) ?_;conv=>whnf
 unfold shM uU oY shP shL;rfl
theorem jmf (v l k:Int) (hk:1<=k/\k<=23):∃ lo hi,wJ (shP v l) k=some (.agg [intA (aQ k),intA (vR k),intA lo,intA hi]):=by
 have h:k=1 ∨ k=2 ∨ k=3 ∨ k=4 ∨ k=5 ∨ k=6 ∨ k=7 ∨ k=8 ∨ k=9 ∨ k=10 ∨ k=11 ∨ k=12 ∨ k=13 ∨ k=14 ∨ k=15 ∨ k=16 ∨ k=17 ∨ k=18 ∨ k=19 ∨ k=20 ∨ k=21 ∨ k=22 ∨ k=23:=by omega
 rcases h with rfl | rfl | rfl | rfl | rfl | rfl | rfl | rfl | rfl | rfl | rfl | rfl | rfl | rfl | rfl | rfl | rfl | rfl | rfl | rfl | rfl | rfl | rfl
 all_goals exact⟨_,_,rfl⟩
theorem ji9 (v l k:Int) (hk:1<=k/\k<=23) {K:A->Prop} {n:Prop} (h:∀ lo hi,K (.agg [intA (aQ k),intA (vR k),intA lo,intA hi])):gM false (uU (shP v l)) (oY (shP v l)) (.int .i64 k) K n:=by
 refine kF _ _ ?_
 obtain⟨lo,hi,e⟩ := jmf v l k hk
 rw[e];exact h lo hi
def jlm (i:Ic):Prop:=(1<=i.1/\i.1<=23)/\(i.1=15 ∨ i.1=16->0<=i.2)
def GOk (g:Int->List Ic):Prop := ∀ at':Int,0<=at' -> ∀ i ∈ g at',jlm i
theorem GOk.no:GOk noI:=fun _ _ i hi=>by cases hi
theorem GOk.one {i:Ic} (h:jlm i):GOk fun _=>[i]:=fun _ _ j hj=>by rw[List.mem_singleton.1 hj];exact h
theorem GOk.seq:∀ {l:List (Int->List Ic)},(∀ g ∈ l,GOk g)->GOk (nA l)
 | [],_,_,_,i,hi=>by cases hi
 | g :: r,h,at',ha,i,hi=>by
  unfold nA at hi
  rcases List.mem_append.1 hi with hi | hi
  ·exact h g List.mem_cons_self at' ha i hi
  ·exact GOk.seq (fun x hx=>h x (List.mem_cons_of_mem _ hx)) _ (by omega) i hi
theorem GOk.br {c y n:Int->List Ic} (hc:GOk c) (hy:GOk y) (hn:GOk n):GOk (brC c y n):=fun at' ha i hi=>by
 unfold brC at hi;simp only[List.mem_append,List.mem_cons] at hi
 rcases hi with hi | rfl | hi | rfl | hi
 ·exact hc at' ha i hi
 ·exact⟨by simp,fun _=>by simp only;omega⟩
 ·exact hy _ (by omega) i hi
 ·exact⟨by simp,fun _=>by simp only;omega⟩
 ·exact hn _ (by omega) i hi
theorem GOk.get {l:List (Int->List Ic)} (h:∀ g ∈ l,GOk g) (k:Nat):GOk (l.getD k noI):=by
 rw[List.getD_eq_getElem?_getD]
 cases hk:l[k]? with
 | none=>exact GOk.no
 | some g=>exact h g (List.mem_of_getElem? hk)
theorem js1 (s:ByteArray):∀ i ∈ opC s,jlm i:=by
 unfold opC
 repeat' split
 all_goals (intro i hi;simp only[List.mem_cons,List.not_mem_nil,or_false] at hi)
 all_goals first
  | (rcases hi with rfl | rfl <;> exact⟨by simp,fun h=>by simp at h⟩)
  | (subst hi;exact⟨by simp,fun h=>by simp at h⟩)
theorem GOk.body (ix:ByteArray->Int) (k n:Int) (s:ByteArray) {l:List (Int->List Ic)} (h:∀ g ∈ l,GOk g):GOk (gT ix k n s l):=fun at' ha i hi=>by
 have g0:=GOk.get h 0
 have g1:=GOk.get h 1
 have g2:=GOk.get h 2
 have sq:=GOk.seq h
 have one:∀ {a b:Int},1<=a->a<=23->a ≠ 15->a ≠ 16->i ∈ [((a,b):Ic)]->jlm i:=fun h1 h2 h3 h4 hi=>by
  rw[List.mem_singleton.1 hi];exact⟨⟨h1,h2⟩,fun h=>by rcases h with h | h;exact absurd h h3;exact absurd h h4⟩
 unfold gT at hi
 by_cases c1:k=12 ∨ k=13
 ·rw[if_pos c1] at hi;exact one (by decide) (by decide) (by decide) (by decide) hi
 rw[if_neg c1] at hi
 by_cases c2:k=14
 ·rw[if_pos c2] at hi;exact one (by decide) (by decide) (by decide) (by decide) hi
 rw[if_neg c2] at hi
 by_cases c3:k=15
 ·rw[if_pos c3] at hi;exact one (by decide) (by decide) (by decide) (by decide) hi
 rw[if_neg c3] at hi
 by_cases c4:k=2
 ·rw[if_pos c4] at hi;exact GOk.br g0 g1 g2 at' ha i hi
 rw[if_neg c4] at hi
 by_cases c5:k=5
 ·rw[if_pos c5] at hi;exact one (by decide) (by decide) (by decide) (by decide) hi
 rw[if_neg c5] at hi
 by_cases c6:k=6
 ·rw[if_pos c6] at hi;exact one (by decide) (by decide) (by decide) (by decide) hi
 rw[if_neg c6] at hi
 by_cases c7:k=7
 ·rw[if_pos c7] at hi;exact one (by decide) (by decide) (by decide) (by decide) hi
 rw[if_neg c7] at hi
 by_cases c8:k=10
 ·rw[if_pos c8] at hi;exact one (by decide) (by decide) (by decide) (by decide) hi
 rw[if_neg c8] at hi
 by_cases c9:k=3
 ·rw[if_pos c9] at hi;simp only[List.mem_append,List.mem_cons,List.not_mem_nil,or_false] at hi
  rcases hi with hi | rfl | hi | rfl
  ·exact g0 at' ha i hi
  ·exact⟨by simp,fun _=>by simp only;omega⟩
  ·exact g1 _ (by omega) i hi
  ·exact⟨by simp,fun _=>ha⟩
 rw[if_neg c9] at hi
 by_cases ca:k=18/\s=kZ
 ·rw[if_pos ca] at hi;exact GOk.br g0 g1 (GOk.one ⟨by simp,fun h=>by simp at h⟩) at' ha i hi
 rw[if_neg ca] at hi
 by_cases cb:k=18/\s=pOr
 ·rw[if_pos cb] at hi;exact GOk.br g0 (GOk.one ⟨by simp,fun h=>by simp at h⟩) g1 at' ha i hi
 rw[if_neg cb] at hi
 rcases List.mem_append.1 hi with hi | hi
 ·exact sq at' ha i hi
 by_cases d1:k=18
 ·rw[if_pos d1] at hi;exact js1 s i hi
 rw[if_neg d1] at hi
 by_cases d2:k=16
 ·rw[if_pos d2] at hi;exact one (by decide) (by decide) (by decide) (by decide) hi
 rw[if_neg d2] at hi
 by_cases d3:k=17
 ·rw[if_pos d3] at hi
  by_cases d4:s=pMinus
  ·rw[if_pos d4] at hi;exact one (by decide) (by decide) (by decide) (by decide) hi
  ·rw[if_neg d4] at hi;exact one (by decide) (by decide) (by decide) (by decide) hi
 rw[if_neg d3] at hi
 by_cases d5:k=1
 ·rw[if_pos d5] at hi;exact one (by decide) (by decide) (by decide) (by decide) hi
 rw[if_neg d5] at hi
 by_cases d6:k=4
 ·rw[if_pos d6] at hi;exact one (by decide) (by decide) (by decide) (by decide) hi
 rw[if_neg d6] at hi
 by_cases d7:k=8
 ·rw[if_pos d7] at hi;exact one (by decide) (by decide) (by decide) (by decide) hi
 rw[if_neg d7] at hi
 by_cases d8:k=9
 ·rw[if_pos d8] at hi;exact one (by decide) (by decide) (by decide) (by decide) hi
 rw[if_neg d8] at hi
 cases hi
theorem jfA (ix:ByteArray->Int):∀ f:Nt,GOk (qI ix f)
 | .mk k n s kids=>by
  have h:∀ f ∈ kids,GOk (qI ix f):=fun f hf=>jfA ix f
  rw[show qI ix (.mk k n s kids)=gT ix k n s (qJ ix kids) by funext at';rw[qI]]
  refine GOk.body ix k n s fun g hg => ?_
  rw[dN] at hg
  obtain⟨f,hf,rfl⟩ := List.mem_map.1 hg
  exact h f hf
def hcL (ix:ByteArray->Int):List (Int × Nt)->List Ic->(Nat->Int)->List Ic × (Nat->Int)
 | [],c,e=>(c,e)
 | (h,b) :: r,c,e=>hcL ix r (c++qI ix b c.length++[(23,0)]) (fun j=>if j=h.toNat then (c.length:Int) else e j)
def jcB (code:List Ic) (e:Nat->Int):Nat->Nat->Int
 | _,0=>0
 | j,m+1=>if nS code (e j) ≠ 0 then nS code (e j) else jcB code e (j+1) m
def noE:Nat->Int:=fun _ => -1
def zE:Nat->Int:=fun _=>0
def je7 (u:Ut):List Ic × (Nat->Int):=hcL (kQ u) u.on [] noE
def jfz (u:Ut):Int:=if 400<(je7 u).1.length then 2 else jcB (je7 u).1 (je7 u).2 0 40
def jdI:List A := .v (.slice none 0 0) :: pgE zE 0 0
def jhJ (u:Ut):A:=if jfz u=0 then .tup [pgA (je7 u).1 (je7 u).2 u.du.length u.vo.length,intA 0] else .tup [.agg jdI,intA (jfz u)]
def okI (v l:Int) (i:Ic):Bool:=match (shL v l).find? (fun p=>decide (i.1=p.1)) with
 | none=>false
 | some p=>decide (p.2.lo<=i.2) && decide (i.2<=p.2.hi)
def lW (n:Nat) (x:Int):Bool:=decide (-1<=x) && decide (x<(n:Int))
def o5 (p:Int->Bool) (e:Nat->Int):Nat->Nat->Bool
 | _,0=>true
 | j,m+1=>p (e j) && o5 p e (j+1) m
def jqd (code:List Ic) (e:Nat->Int):Nat->Nat->Int->Int
 | _,0,r=>r
 | j,m+1,r=>if nS code (e j)=12 then 12 else jqd code e (j+1) m (if nS code (e j)=13 then 13 else r)
def jqe (code:List Ic) (e:Nat->Int) (du vo:Int):Int :=
 if 400<code.length then 2
 else if du<0 ∨ vo<0 ∨ 16<du ∨ 16-du<vo then 12
 else if (code.all (okI (du+vo-1) (code.length-1)))=false then 12
 else if o5 (lW code.length) e 0 40=false then 12
 else jqd code e 0 40 0
section
end
def jtR (i:Int):Nt := .mk 12 i eB []
theorem jhX (l:List Int) (a:Int):wO (l++[a])=wO l++[intA a]:=by unfold wO;rw[List.map_append];rfl
theorem jgk {dm:List (Int × Int)} {k:Int} {K:A->Prop} {n:Prop} (hd:dF dm k=none) (h:n):gM false (uU (dmA dm)) (oY (dmA dm)) (.int .i64 k) K n:=by
 refine kF _ _ ?_;rw[jfL,hd];exact h
theorem f9 {dm:List (Int × Int)} {k d:Int} {K:A->Prop} {n:Prop} (hd:dF dm k=some d) (h:K (intA d)):gM false (uU (dmA dm)) (oY (dmA dm)) (.int .i64 k) K n:=by
 refine kF _ _ ?_;rw[jfL,hd];exact h
theorem jpe {dm:List (Int × Int)} {k d:Int} {n:Nat} {K:List A->List A->Nat->Prop} (hd:dF dm k=none) (h:K (mkA (dmA (dm++[(k,d)]))) (oY (dmA (dm++[(k,d)]))) (n+1)):jhW false (.int .i64 k) (.v (.int .i64 d)) (mkA (dmA dm)) (oY (dmA dm)) n K:=by
 rw[jm8] at h;refine jcL (fun p hp => ?_) h;unfold dmA at hp
 obtain⟨q,hq,rfl⟩ := List.mem_map.1 hp
 exact jjg hd q hq
theorem jsF (t:Nat) (dm:List (Int × Int)) (k d:Int):Row.live t 0 (dm.length+1) [.clo 0 (mkA (dmA (dm++[(k,d)]))),.clo 0 (oY (dmA (dm++[(k,d)])))]=Row.live t 0 (dm++[(k,d)]).length [.clo 0 (mkA (dmA (dm++[(k,d)]))),.clo 0 (oY (dmA (dm++[(k,d)])))]:=by rw[List.length_append];rfl
theorem jsH (t:Nat) (wk:List Int) (k:Int):Row.live t 1 (wk.length+1) (wO wk++[intA k])=Row.live t 1 (wk++[k]).length (wO (wk++[k])):=by rw[List.length_append,jhX];rfl
theorem sM {α:Type} (o:Option α):o=none ∨ ∃ a,o=some a:=by cases o with
 | none=>exact .inl rfl
 | some a=>exact .inr ⟨a,rfl⟩
def juS (id:Nat):List Nat:=match Nat.beq id 1000003 with | true=>[1000003] | false=>[]
def flR (dm:List (Int × Int)) (wk:List Int):List Row:=[.live 92 0 dm.length [.clo 0 (mkA (dmA dm)),.clo 0 (oY (dmA dm))],.live 3 1 wk.length (wO wk)]
theorem tK (code:List Ic) (e:Nat->Int) (du vo entry:Int) (hd : -100<=du/\du<=100) (hv : -100<=vo/\vo<=100) (hl:code.length<=1000000) (hj:jqm code) (ho:∀ i ∈ code,1<=i.1/\i.1<=23) (he:entry<code.length):Spec Tryz.prog 21 [] [pgA code e du vo,intA entry] fun _ r=>r=intA (nS code entry):=by
 have hsh:=tZ code e du vo hd hv hl
 obtain⟨R,hR⟩ : ∃ R,nS code entry=R:=⟨_,rfl⟩
 rw[hR];unfold nS at hR;refine eN jH juS 0 Tryz.func21 rfl ?_;intro _;conv=>whnf
 by_cases h0:entry<0
 ·rw[j8 h0];rw[if_pos h0] at hR;conv=>whnf
  rw[<- hR];rfl
 rw[jW h0];rw[if_neg h0] at hR;conv=>whnf
 refine xV [] hsh ?_;rintro r rfl;conv=>whnf
 refine jO [2,5,6,8] ?_;conv=>whnf
 refine qA (fun x:Nat × Fs=>[(7,intA (jp9 x.2.er))]) (fun _=>[pgL code e du vo]) (fun x=>flR x.2.dm x.2.wk)
  (fun x=>joM code.length x.2/\x.2.wk.length+(code.length-x.2.dm.length)+1<=x.1/\x.1<=code.length+1/\jmh code x.1 x.2=R) (fun x=>x.1) (code.length+1,⟨[(entry,0)],[entry],false⟩) ?_ ⟨⟨?_,?_,?_,?_⟩,?_,Nat.le_refl _,hR⟩ ?_
 ·repeat' constructor
  unfold mkA oY dmA;rfl
 ·intro p hp;rw[List.mem_singleton.1 hp];exact⟨by simp only;omega,he⟩
 ·simp
 ·intro k hk;rw[List.mem_singleton.1 hk];exact⟨0,List.mem_singleton.2 rfl⟩
 ·intro p hp;rw[List.mem_singleton.1 hp];simp only[List.length_singleton];omega
 ·simp only[List.length_singleton];omega
 rintro⟨m0,dm,wk,er⟩ ⟨g1,g2,g3,hR⟩
 simp only at g1 g2 g3 hR
 obtain⟨m,rfl⟩ : ∃ m,m0=m+1:=⟨m0-1,by omega⟩
 have hwl:wk.length<=1000000:=by omega
 rcases List.eq_nil_or_concat wk with rfl | ⟨pre,a,hw⟩
 ·conv=>whnf
  rw[jmh] at hR;simp only[List.getLast?_nil] at hR;rw[<- hR];rfl
 rw[List.concat_eq_append] at hw;subst hw;rw[jmh] at hR;simp only[List.getLast?_append,List.getLast?_singleton,Option.some_or,List.dropLast_append_cons,List.dropLast_singleton,List.append_nil] at hR
 have hlen:(pre++[a]).length=pre.length+1:=by simp
 have htk:(wO (pre++[a])).take (pre.length*1)=wO pre:=by unfold wO;rw[List.map_append,Nat.mul_one];exact List.take_left' (by simp)
 have hdr:(wO (pre++[a])).drop ((((pre++[a]).length:Int)-1).toNat*1)=[intA a]:=by
  have e1:(((pre++[a]).length:Int)-1).toNat*1=pre.length:=by omega
  rw[e1];unfold wO;rw[List.map_append];exact List.drop_left' (by simp)
 obtain⟨d,hda⟩ := g1.wk a (List.mem_append_right _ List.mem_cons_self)
 have ha:=g1.rng _ hda
 simp only at ha
 obtain⟨d',hd'⟩ := joY hda
 have hdr':=g1.dep _ (jrv hd')
 simp only at hdr'
 have hdl:=jjr g1.rng g1.nd
 simp only at hdl
 have hpp:=jpE (code.getD a.toNat (0,0)).1
 have hps:=jne (code.getD a.toNat (0,0)).1
 have hnn:=jtU hj ha
 have hst:jnM code dm pre er a=tP code.length (d'-aQ (code.getD a.toNat (0,0)).1+vR (code.getD a.toNat (0,0)).1) (nxI a (code.getD a.toNat (0,0))) ⟨dm,pre,er || (decide (d'<aQ (code.getD a.toNat (0,0)).1) || decide (16<d'-aQ (code.getD a.toNat (0,0)).1+vR (code.getD a.toNat (0,0)).1))⟩ := by
  unfold jnM je2 afF;rw[hd'];rfl
 rw[hst] at hR
 have hil:a.toNat<code.length:=by omega
 have hgi:code.getD a.toNat (0,0)=code[a.toNat]:=by rw[List.getD_eq_getElem?_getD,List.getElem?_eq_getElem hil];rfl
 have hcr:jJ 2 a.toNat (yH code)=icA (code.getD a.toNat (0,0)):=by rw[hgi];exact sT code _ hil
 have hio:1<=(code.getD a.toNat (0,0)).1/\(code.getD a.toNat (0,0)).1<=23:=by rw[hgi];exact ho _ (List.getElem_mem hil)
 generalize code.getD a.toNat (0,0)=i at *
 obtain⟨op,n⟩ := i
 simp only at hpp hps hio hR hnn
 unfold icA at hcr
 simp only at hcr
 conv=>whnf
 rw[j8 (show (0:Int)<((pre++[a]).length:Int) by rw[hlen];omega)];conv=>whnf
 refine⟨show lo .i64<=((pre++[a]).length:Int)-1/\((pre++[a]).length:Int)-1<=hi .i64 from jV (by omega),?_⟩;conv=>whnf
 refine⟨show (0:Int)<=((pre++[a]).length:Int)-1/\((pre++[a]).length:Int)-1<((pre++[a]).length:Nat) from ⟨by omega,by omega⟩,?_⟩;conv=>whnf
 rw[hdr];conv=>whnf
 refine⟨show lo .i64<=((pre++[a]).length:Int)-1/\((pre++[a]).length:Int)-1<=hi .i64 from jV (by omega),?_⟩;conv=>whnf
 refine⟨pre.length,wO pre,⟨show ((pre++[a]).length:Int)-1=(pre.length:Nat) by omega,show pre.length<=(pre++[a]).length by omega,htk.symm⟩,?_⟩;conv=>whnf
 refine⟨ha,?_⟩;conv=>whnf
 (generalize hrq:jJ _ _ (yH code)=rq;obtain rfl:rq=[intA op,intA n]:=hrq.symm.trans (hcr);clear hrq;conv=>whnf)
 conv=>whnf
 refine ji9 _ _ _ hio fun slo shi => ?_
 conv=>whnf
 refine aM _ ?_;conv=>whnf
 refine f9 hd' ?_;conv=>whnf
 refine⟨jV (by omega),?_⟩;conv=>whnf
 refine⟨jV (by omega),?_⟩;conv=>whnf
 refine aM _ ?_;conv=>whnf
 refine f9 hd' ?_;conv=>whnf
 rcases (show d'<aQ op ∨ ¬ d'<aQ op/\16<d'-aQ op+vR op ∨ ¬ d'<aQ op /\ ¬ 16<d'-aQ op+vR op by omega) with hb1 | ⟨hb1,hb2⟩ | ⟨hb1,hb2⟩
 rw[j8 hb1] at hR ⊢;rw[Bool.true_or,Bool.or_true] at hR
 rotate_left
 rw[jW hb1,j8 hb2] at hR;rw[jW hb1];rw[Bool.or_true,Bool.or_true] at hR;conv=>whnf
 rw[j8 hb2]
 rotate_left
 rw[jW hb1] at hR ⊢;conv=>whnf
 rw[jW hb2] at hR ⊢;rw[Bool.or_self,Bool.or_false] at hR
 all_goals
  conv=>whnf
  unfold nxI at hR hnn
  simp only at hR hnn
  by_cases hc1:op=23
  ·rw[j8 hc1];rw[if_pos hc1] at hR hnn;unfold tP at hR
   have hF:=hR
   simp only at hF
   conv=>whnf
   refine jO [2,5,6,7,8,88,89,90] ?_;conv=>whnf
   refine qA (fun _:Unit=>[]) (fun _=>[pgL code e du vo]) (fun _=>flR dm pre) (fun _=>True) (fun _=>0) () ?_ trivial ?_
   ·repeat' constructor
   rintro⟨⟩ -;conv=>whnf
   refine⟨(m,⟨dm,pre,_⟩),jS [0,1] ?_,⟨⟨g1.rng,g1.nd,fun k hk=>g1.wk k (List.mem_append_left _ hk),g1.dep⟩,show pre.length+(code.length-dm.length)+1<=m by omega,show m<=code.length+1 by omega,hF⟩,show m<m+1 by omega⟩;conv=>whnf
   repeat' constructor
  rw[jW hc1];rw[if_neg hc1] at hR hnn;conv=>whnf
  generalize hL:ite (op=15) _ _=L at hR hnn
  rcases (show op=15 ∨ ¬ op=15/\op=16 ∨ ¬ op=15 /\ ¬ op=16 by omega) with hc2 | ⟨hc2,hc3⟩ | ⟨hc2,hc3⟩
  rw[j8 hc2];rw[if_pos hc2] at hL
  have hl1:L.length=1:=by rw[<- hL];rfl
  have hM:[A.v (.int .i64 n)]=L.map intA:=by rw[<- hL];rfl
  conv=>whnf
  rotate_left
  rw[jW hc2];rw[if_neg hc2,if_pos hc3] at hL
  have hl1:L.length=2:=by rw[<- hL];rfl
  have hM:[A.v (.int .i64 (a+1)),A.v (.int .i64 n)]=L.map intA:=by rw[<- hL];rfl
  conv=>whnf
  rw[j8 hc3];conv=>whnf
  refine⟨show lo .i64<=a+1/\a+1<=hi .i64 from jV (by omega),?_⟩;conv=>whnf
  rotate_left
  rw[jW hc2];rw[if_neg hc2,if_neg hc3] at hL
  have hl1:L.length=1:=by rw[<- hL];rfl
  have hM:[A.v (.int .i64 (a+1))]=L.map intA:=by rw[<- hL];rfl
  conv=>whnf
  rw[jW hc3];conv=>whnf
  refine⟨show lo .i64<=a+1/\a+1<=hi .i64 from jV (by omega),?_⟩;conv=>whnf
  all_goals
   generalize hF:tP _ _ L _=F at hR;refine pX [2] ?_;conv=>whnf
   refine jO [2,5,6,8,12,88,89] ?_;conv=>whnf
   refine qA (fun x:Nat × Fs=>[(7,intA (jp9 x.2.er)),(90,.v (.int .i64 x.1))]) (fun _=>[pgL code e du vo]) (fun x=>flR x.2.dm x.2.wk++[.pub 1 L.length (L.map intA)])
    (fun x=>x.1<=L.length/\joM code.length x.2/\x.2.wk.length+dm.length=pre.length+x.2.dm.length/\dm.length<=x.2.dm.length/\tP code.length (d'-aQ op+vR op) (L.drop x.1) x.2=F) (fun x=>L.length-x.1) (0,⟨dm,pre,_⟩) ?_ ⟨Nat.zero_le _,⟨g1.rng,g1.nd,fun k hk=>g1.wk k (List.mem_append_left _ hk),g1.dep⟩,rfl,Nat.le_refl _,hF⟩ ?_
   ·repeat' constructor
    all_goals (rw[<- hL];rfl)
   clear hF;rintro⟨j,dm1,wk1,er1⟩ ⟨f1,f2,f3,f4,hF⟩
   simp only at f1 f2 f3 f4 hF
   have hdl1:=jjr f2.rng f2.nd
   simp only at hdl1
   rcases Nat.lt_or_ge j L.length with hjL | hjL
   ·have hrw:=yX intA L j hjL
    have hk0:=hnn _ (List.getElem_mem hjL)
    rw[List.drop_eq_getElem_cons hjL] at hF;unfold tP at hF;generalize L[j]=k at hrw hk0 hF;conv=>whnf
    rw[j8]
    rotate_left
    ·omega
    conv=>whnf
    refine⟨⟨by omega,by omega⟩,?_⟩;conv=>whnf
    generalize hrq:jJ _ _ _=rq
    obtain rfl:rq=[intA k]:=hrq.symm.trans (by show jJ 1 j _=_;rw[hM];exact hrw)
    clear hrq;conv=>whnf
    by_cases hge:(code.length:Int)<=k
    ·unfold jg9 at hF;rw[if_pos hge] at hF;rw[<- hF] at hR;rw[j8 hge];conv=>whnf
     rw[<- hR];rfl
    rw[jW hge];conv=>whnf
    refine aM _ ?_;conv=>whnf
    rcases sM (dF dm1 k) with hdk | ⟨d2,hdk⟩
    ·have hkf:jg9 code.length (d'-aQ op+vR op) ⟨dm1,wk1,er1⟩ k=some ⟨dm1++[(k,d'-aQ op+vR op)],wk1++[k],er1⟩ := by unfold jg9;rw[if_neg hge];simp only;rw[hdk]
     obtain⟨q1,q2,q3⟩ := jjs f2 hk0 ⟨by simp only;omega,by simp only;omega⟩ hkf
     rw[hkf] at hF
     simp only at hF
     refine jgk hdk ?_;conv=>whnf
     refine jpe hdk ?_;conv=>whnf
     refine⟨⟨show wk1.length+1<=maxLen by unfold maxLen;omega,show (wk1.length+1)*8<=140737488355328 by omega⟩,?_⟩;conv=>whnf
     refine jN j (by omega) ?_;conv=>whnf
     refine⟨(j+1,⟨dm1++[(k,d'-aQ op+vR op)],wk1++[k],er1⟩),jS [0,1,2] ?_,⟨show j+1<=L.length by omega,q1,show _+_=_+_ by simp only at q2 ⊢;omega,show _<=_ by simp only at q3 ⊢;omega,hF⟩,show L.length-(j+1)<L.length-j by omega⟩;conv=>whnf
     repeat' constructor
     ·exact jsF _ _ _ _
     ·exact jsH _ _ _
    ·have hkf:jg9 code.length (d'-aQ op+vR op) ⟨dm1,wk1,er1⟩ k=some ⟨dm1,wk1,er1 || decide (d2 ≠ d'-aQ op+vR op)⟩ := by unfold jg9;rw[if_neg hge];simp only;rw[hdk]
     obtain⟨q1,q2,q3⟩ := jjs f2 hk0 ⟨by simp only;omega,by simp only;omega⟩ hkf
     rw[hkf] at hF
     simp only at hF
     refine f9 hdk ?_;conv=>whnf
     rcases (show d2=d'-aQ op+vR op ∨ d2 ≠ d'-aQ op+vR op by omega) with heq | heq
     ·rw[j8 heq];rw[jW (fun h=>h heq),Bool.or_false] at hF q1;conv=>whnf
      refine jN j (by omega) ?_;conv=>whnf
      refine⟨(j+1,⟨dm1,wk1,er1⟩),jS [0,1,2] ?_,⟨show j+1<=L.length by omega,q1,show _+_=_+_ by simp only at q2 ⊢;omega,show _<=_ by simp only at q3 ⊢;omega,hF⟩,show L.length-(j+1)<L.length-j by omega⟩;conv=>whnf
      repeat' constructor
     ·rw[jW heq];rw[j8 heq,Bool.or_true] at hF q1;conv=>whnf
      refine jN j (by omega) ?_;conv=>whnf
      refine⟨(j+1,⟨dm1,wk1,true⟩),jS [0,1,2] ?_,⟨show j+1<=L.length by omega,q1,show _+_=_+_ by simp only at q2 ⊢;omega,show _<=_ by simp only at q3 ⊢;omega,hF⟩,show L.length-(j+1)<L.length-j by omega⟩;conv=>whnf
      repeat' constructor
   rw[List.drop_eq_nil_of_le hjL] at hF;unfold tP at hF;rw[<- hF] at hR
   simp only at hR
   conv=>whnf
   rw[jW]
   rotate_left
   ·omega
   conv=>whnf
   refine⟨(m,⟨dm1,wk1,er1⟩),jS [0,1] ?_,⟨f2,show wk1.length+(code.length-dm1.length)+1<=m by omega,show m<=code.length+1 by omega,hR⟩,show m<m+1 by omega⟩;conv=>whnf
   repeat' constructor
def enL (e:Nat->Int):List A:=(List.range 40).map fun j=>intA (e j)
theorem jhL (e:Nat->Int) (j:Nat) (hj:j<40):(enL e)[((j:Int)).toNat*1]? = some (intA (e j)):=by
 rw[Int.toNat_natCast,Nat.mul_one];unfold enL;rw[List.getElem?_map,List.getElem?_range hj];rfl
theorem jdl (c:List Ic) (e:Nat->Int) (du vo:Int) (hl:c.length<=1000000):Spec Tryz.prog 10 [] [pgA c e du vo,pgA c e du vo] fun _ r=>r=wY true:=by
 refine eN jtX jT 0 Tryz.func10 rfl ?_;intro _;conv=>whnf
 refine⟨by kernel_rfl,?_⟩;conv=>whnf
 generalize hq:(decide (e 0=e 0) && _)=b
 obtain rfl:b=true:=by rw[<- hq];simp
 clear hq;conv=>whnf
 rw[j8 (rfl:du=du)];conv=>whnf
 rw[j8 (rfl:vo=vo)];conv=>whnf
 rw[j8 (rfl:(c.length:Int)=c.length)];conv=>whnf
 refine jO [2,3] ?_;conv=>whnf
 refine qA (fun j:Nat=>[(5,.v (.int .i64 j))]) (fun _=>[pgL c e du vo,pgL c e du vo]) (fun _=>[]) (fun j=>j<=c.length) (fun j=>c.length-j) 0 ?_ (by omega) ?_
 ·repeat' constructor
 intro j hj;conv=>whnf
 rcases Nat.lt_or_ge j c.length with hlt | hge
 ·have hrow:jJ 2 j (yH c)=icA c[j]:=sT c j hlt
  generalize c[j]=i at hrow
  obtain⟨op,n⟩ := i
  unfold icA at hrow
  simp only at hrow
  rw[j8 (show (j:Int)<(c.length:Int) by omega)];conv=>whnf
  refine⟨show (0:Int)<=(j:Int)/\(j:Int)<(c.length:Nat) from ⟨by omega,by omega⟩,?_⟩;conv=>whnf
  (generalize hrq:jJ _ _ (yH c)=rq;obtain rfl:rq=[intA op,intA n]:=hrq.symm.trans (hrow);clear hrq;conv=>whnf)
  refine⟨show (0:Int)<=(j:Int)/\(j:Int)<(c.length:Nat) from ⟨by omega,by omega⟩,?_⟩;conv=>whnf
  (generalize hrq:jJ _ _ (yH c)=rq;obtain rfl:rq=[intA op,intA n]:=hrq.symm.trans (hrow);clear hrq;conv=>whnf)
  refine⟨by kernel_rfl,?_⟩;conv=>whnf
  generalize hq:(decide (op=op) && _)=b
  obtain rfl:b=true:=by rw[<- hq];simp
  clear hq;conv=>whnf
  refine jN j (by omega) ?_;conv=>whnf
  refine⟨j+1,jS [] ?_,show j+1<=c.length by omega,show c.length-(j+1)<c.length-j by omega⟩;conv=>whnf
  repeat' constructor
 rw[jW (show ¬ (j:Int)<(c.length:Int) by omega)];conv=>whnf
 rfl
def dH (u:Ut):List A:=utA u++[.own 0]
abbrev nJ (f:Nat) (ins:List (List A)) (l:List Ic) (args:List A) (post:List (List A)->List Ic->A->Prop):Prop :=
 fK Tryz.prog f ins 56 2 l.length (yH l) args fun o n cs r => ∃ l',n=l'.length/\cs=yH l'/\post o l' r
theorem vY (u:Ut) (l:List Ic) (op n:Int) (hl:l.length<=1000000):nJ 20 [dH u] l [.box 0 0,intA op,intA n] fun o l' r=>o=[dH u]/\l'=l++[(op,n)]/\r=intA l.length:=by
 refine xN jH jT 1 Tryz.func20 rfl ?_;intro _;conv=>whnf
 refine⟨⟨by unfold maxLen;omega,by omega⟩,?_⟩;conv=>whnf
 refine⟨jV (by omega),?_⟩;conv=>whnf
 refine⟨0,?_⟩;conv=>whnf
 refine⟨l++[(op,n)],by rw[List.length_append];rfl,?_,rfl,rfl,?_⟩
 ·rw[jcI];rfl
 ·show intA (((l.length+1:Nat):Int)-1)=intA l.length
  congr 1;omega
theorem lA (a:Ic) (l:List Ic):yH (a :: l)=icA a++yH l:=by rw[lB,List.flatMap_cons,lB]
theorem jfW:∀ (l:List Ic) (k:Nat) (hk:k<l.length) (v:Int),(yH l).set (k*2+1) (intA v)=yH (l.set k (l[k].1,v))
 | [],k,hk,v=>by simp at hk
 | a :: l,0,hk,v=>by rw[List.set_cons_zero,lA,lA];rfl
 | a :: l,k+1,hk,v=>by
  rw[List.set_cons_succ,lA,lA]
  have h:=jfW l k (by simpa using hk) v
  rw[show (k+1)*2+1=k*2+1+2 by omega]
  show intA a.1 :: intA a.2 :: (yH l).set (k*2+1) (intA v)=_
  rw[h];rfl
theorem jdo:∀ (l:List (Int->List Ic)) (g:Int->List Ic) (at':Int),nA (l++[g]) at'=nA l at'++g (at'+(nA l at').length)
 | [],g,at' => by
  show g at'++[]=[]++g (at'+((0:Nat):Int))
  rw[List.append_nil,List.nil_append,show at'+((0:Nat):Int)=at' by omega]
 | h :: l,g,at' => by
  show h at'++nA (l++[g]) _=(h at'++nA l _)++g _
  rw[jdo l g,List.append_assoc]
  congr 3
  show _=at'+((h at'++nA l _).length:Int)
  rw[List.length_append];omega
def bE (u:Ut) (f:Nt):Prop:=(∀ at':Int,(qI (kQ u) f at').length<=kH f) /\ ∀ l:List Ic,l.length+kH f<=1000000->nJ 19 [dH u] l [.box 0 0,.agg (ntA f)] fun o l' r=>o=[dH u]/\l'=l++qI (kQ u) f l.length/\r = .tup []
theorem jdB:∀ (l:List Nt) (j:Nat) (h:j<l.length),yE (l.take j)+kH l[j]<=yE l
 | [],j,h=>by simp at h
 | f :: l,0,h=>by show 0+kH f<=kH f+yE l;omega
 | f :: l,j+1,h=>by
  have hj:j<l.length:=by simpa using h
  have:=jdB l j hj
  show kH f+yE (l.take j)+kH (l[j]'hj)<=kH f+yE l
  omega
theorem cZ {u:Ut} : ∀ (l:List Nt) (at':Int),(∀ f ∈ l,bE u f)->(nA (qJ (kQ u) l) at').length<=yE l
 | [],at',_=>Nat.zero_le _
 | f :: l,at',h=>by
  show (qI (kQ u) f at'++nA (qJ (kQ u) l) _).length<=kH f+yE l
  rw[List.length_append]
  have h1:=(h f List.mem_cons_self).1 at'
  have h2:=cZ l (at'+(qI (kQ u) f at').length) fun g hg=>h g (List.mem_cons_of_mem _ hg)
  omega
theorem lC (u:Ut) (k n:Int) (s:ByteArray) (kids:List Nt) (hm:kids.length<=3002) (hf:∀ f ∈ kids,bE u f) (l:List Ic) (hl:l.length+yE kids<=1000000):nJ 40 [dH u] l [.box 0 0,.agg (ntA (.mk k n s kids))] fun o l' r=>o=[dH u]/\l'=l++nA (qJ (kQ u) kids) l.length/\r = .tup []:=by
 obtain⟨S,hS⟩ : ∃ S:Nat->List Ic,∀ j,S j=l++nA (qJ (kQ u) (kids.take j)) l.length:=⟨_,fun _=>rfl⟩
 have hS0:S 0=l:=by rw[hS];exact List.append_nil l
 have hSl:l++nA (qJ (kQ u) kids) l.length=S kids.length:=by rw[hS,List.take_length]
 have hSn:∀ j (h:j<kids.length),S (j+1)=S j++qI (kQ u) kids[j] (S j).length:=fun j h=>by
  rw[hS,hS,List.take_succ_eq_append_getElem h,dN,dN,List.map_append]
  show l++nA (_++[qI (kQ u) kids[j]]) _=_
  rw[jdo,List.append_assoc,List.length_append]
  congr 3
 have hSz:∀ j (h:j<kids.length),(S j).length+kH kids[j]<=1000000:=fun j h=>by
  rw[hS,List.length_append]
  have h1:=cZ (kids.take j) l.length fun f hf' => hf f (List.mem_of_mem_take hf')
  have h2:=jdB kids j h
  omega
 rw[hSl,<- hS0];simp only[ntA,Nt.k,Nt.n,Nt.s,Nt.kids];refine xN jH jT 1 Tryz.func40 rfl ?_;intro _;conv=>whnf
 refine jO [0,7,8] ?_;conv=>whnf
 refine qA (fun j:Nat=>[(9,.v (.int .i64 j))]) (fun _=>[dH u,[intA k,intA n,jY s,.sl 4 kids.length (qE kids)]]) (fun j=>[.live 56 2 (S j).length (yH (S j))]) (fun j=>j<=kids.length) (fun j=>kids.length-j) 0 ?_ (Nat.zero_le _) ?_
 ·repeat' constructor
 rintro j hj;conv=>whnf
 by_cases hlt:j<kids.length
 ·rw[j8 (show (j:Int)<(kids.length:Int) by omega)]
  have hrow:=zK kids j hlt
  have hSn:=hSn j hlt
  have hSz:=hSz j hlt
  have hg:=hf _ (List.getElem_mem hlt)
  generalize kids[j]=g at *
  have hx:=hg.2 (S j) hSz
  generalize hcd:qI (kQ u) g (S j).length=y at *;conv=>whnf
  refine⟨by omega,?_⟩;conv=>whnf
  (generalize hrq:jJ _ _ (qE kids)=rq;obtain rfl:rq=ntA g:=hrq.symm.trans (hrow);clear hrq;conv=>whnf)
  refine j7 0 0 1 [] hx ?_;rintro o n' cs' r ⟨s4,rfl,rfl,ho,hs4,rfl⟩;cases ho;conv=>whnf
  refine⟨jV (by omega),?_⟩;conv=>whnf
  refine⟨j+1,jS [1] ?_,hlt,by omega⟩;conv=>whnf
  rw[hs4,show S (j+1)=_ from hSn]
  repeat' constructor
 ·rw[jW (show ¬ (j:Int)<(kids.length:Int) by omega)];conv=>whnf
  obtain rfl:j=kids.length:=by omega
  refine⟨0,?_⟩;conv=>whnf
  exact⟨_,rfl,rfl,rfl,rfl,rfl⟩
theorem jlT (s:ByteArray) (h:(builtL.any fun x=>decide (s=x))=true):Spec Tryz.prog 65 [] [jY s] fun _ r=>r=intA (biF s):=by
 have h:s ∈ builtL:=by
  rw[List.any_eq_true] at h
  obtain⟨x,h1,h2⟩ := h
  rw[decide_eq_true_eq] at h2;rw[h2];exact h1
 unfold builtL at h;simp only[List.mem_cons,List.not_mem_nil,or_false] at h
 rcases h with rfl | rfl | rfl | rfl | rfl | rfl | rfl | rfl | rfl
 all_goals
  refine eN jH jT 0 Tryz.func65 rfl ?_;intro _;conv=>whnf
  rfl
def jqD (ix:ByteArray->Int) (k n:Int) (s:ByteArray):Ic :=
 if k=12 ∨ k=13 then (1,n) else if k=14 then (2,ix s) else if k=15 then (4,biF s) else if k=1 then (3,ix s)
 else if k=4 then (17,n) else if k=5 then (18,n) else if k=6 then (19,n) else if k=16 then (5,0) else if k=7 then (20,0)
 else if k=10 then (23,0) else if k=8 then (21,0) else (22,0)
def cT (id:Nat):Tr:=match Nat.beq id 8 with | true => .q 0 3 (.q 1 3 (.q 2 3 (.q 3 3 (.q 5 3 (.q 6 0 (.alt 4 1 (.alt 7 1 (.alt 8 2 (.nil) (.nil)) (.nil)) (.nil))))))) | false=>match Nat.beq id 12 with | true => .q 0 3 (.q 1 3 (.q 2 3 (.q 3 3 (.q 5 3 (.q 6 0 (.alt 4 1 (.alt 7 1 (.alt 8 2 (.nil) (.nil)) (.nil)) (.nil))))))) | false => .nil
theorem jkE (u:Ut) (hu:WfU u) (k n:Int) (s:ByteArray) (kids:List Nt) (hm:kids.length<=3002) (hf:∀ f ∈ kids,bE u f) (hc:k=12 ∨ k=13 ∨ k=14 ∨ k=15/\(builtL.any fun x=>decide (s=x))=true ∨ k=1 ∨ k=4 ∨ k=5 ∨ k=6 ∨ k=16 ∨ k=7 ∨ k=10 ∨ k=8 ∨ k=9) (l:List Ic) (hl:l.length+yE kids+1<=1000000):nJ 41 [dH u] l [.box 0 0,.agg (ntA (.mk k n s kids))] fun o l' r=>o=[dH u]/\l'=l++nA (qJ (kQ u) kids) l.length++[jqD (kQ u) k n s]/\r = .tup []:=by
 have hk:=lC u k n s kids hm hf l (by omega)
 simp only[ntA,Nt.k,Nt.n,Nt.s,Nt.kids] at hk
 have hz:=cZ (u:=u) kids l.length hf
 have hem:=fun (l:List Ic) (op n:Int) (h:l.length<=1000000)=>vY u l op n h
 have hix:=jsQ u hu s
 generalize nA (qJ (kQ u) kids) l.length=y at *
 have hly:(l++y).length<=999999:=by rw[List.length_append];omega
 generalize l++y=l3 at *
 rcases hc with rfl | rfl | rfl | ⟨rfl,hb⟩ | rfl | rfl | rfl | rfl | rfl | rfl | rfl | rfl | rfl
 ·simp only[ntA,Nt.k,Nt.n,Nt.s,Nt.kids];refine xN cT (fun _=>[0]) 1 Tryz.func41 rfl ?_;intro _;conv=>whnf
  refine j7 0 0 1 [] hk ?_;rintro o n' cs' r ⟨l2,rfl,rfl,ho,hl2,rfl⟩;cases ho;conv=>whnf
  subst hl2;refine j7 0 1 2 [] (hem l2 1 n (by omega)) ?_;rintro o n' cs' r ⟨l4,rfl,rfl,ho,hl4,rfl⟩;cases ho;conv=>whnf
  refine⟨2,?_⟩;conv=>whnf
  exact⟨l4,rfl,rfl,rfl,by rw[hl4];rfl,rfl⟩
 ·simp only[ntA,Nt.k,Nt.n,Nt.s,Nt.kids];refine xN cT (fun _=>[0]) 1 Tryz.func41 rfl ?_;intro _;conv=>whnf
  refine j7 0 0 1 [] hk ?_;rintro o n' cs' r ⟨l2,rfl,rfl,ho,hl2,rfl⟩;cases ho;conv=>whnf
  subst hl2;refine j7 0 1 2 [] (hem l2 1 n (by omega)) ?_;rintro o n' cs' r ⟨l4,rfl,rfl,ho,hl4,rfl⟩;cases ho;conv=>whnf
  refine⟨2,?_⟩;conv=>whnf
  exact⟨l4,rfl,rfl,rfl,by rw[hl4];rfl,rfl⟩
 ·simp only[ntA,Nt.k,Nt.n,Nt.s,Nt.kids];refine xN cT (fun _=>[0]) 1 Tryz.func41 rfl ?_;intro _;conv=>whnf
  refine j7 0 0 1 [] hk ?_;rintro o n' cs' r ⟨l2,rfl,rfl,ho,hl2,rfl⟩;cases ho;conv=>whnf
  subst hl2
  (refine xV [] hix ?_;rintro r rfl;conv=>whnf)
  refine j7 0 1 2 [] (hem l2 2 (kQ u s) (by omega)) ?_;rintro o n' cs' r ⟨l4,rfl,rfl,ho,hl4,rfl⟩;cases ho;conv=>whnf
  refine⟨2,?_⟩;conv=>whnf
  exact⟨l4,rfl,rfl,rfl,by rw[hl4];rfl,rfl⟩
 ·have hbi:=jlT s hb
  simp only[ntA,Nt.k,Nt.n,Nt.s,Nt.kids];refine xN cT (fun _=>[0]) 1 Tryz.func41 rfl ?_;intro _;conv=>whnf
  refine j7 0 0 1 [] hk ?_;rintro o n' cs' r ⟨l2,rfl,rfl,ho,hl2,rfl⟩;cases ho;conv=>whnf
  subst hl2
  (refine xV [] hbi ?_;rintro r rfl;conv=>whnf)
  refine j7 0 1 2 [] (hem l2 4 (biF s) (by omega)) ?_;rintro o n' cs' r ⟨l4,rfl,rfl,ho,hl4,rfl⟩;cases ho;conv=>whnf
  refine⟨2,?_⟩;conv=>whnf
  exact⟨l4,rfl,rfl,rfl,by rw[hl4];rfl,rfl⟩
 ·simp only[ntA,Nt.k,Nt.n,Nt.s,Nt.kids];refine xN cT (fun _=>[0]) 1 Tryz.func41 rfl ?_;intro _;conv=>whnf
  refine j7 0 0 1 [] hk ?_;rintro o n' cs' r ⟨l2,rfl,rfl,ho,hl2,rfl⟩;cases ho;conv=>whnf
  subst hl2
  (refine xV [] hix ?_;rintro r rfl;conv=>whnf)
  refine j7 0 1 2 [] (hem l2 3 (kQ u s) (by omega)) ?_;rintro o n' cs' r ⟨l4,rfl,rfl,ho,hl4,rfl⟩;cases ho;conv=>whnf
  refine⟨2,?_⟩;conv=>whnf
  exact⟨l4,rfl,rfl,rfl,by rw[hl4];rfl,rfl⟩
 ·simp only[ntA,Nt.k,Nt.n,Nt.s,Nt.kids];refine xN cT (fun _=>[0]) 1 Tryz.func41 rfl ?_;intro _;conv=>whnf
  refine j7 0 0 1 [] hk ?_;rintro o n' cs' r ⟨l2,rfl,rfl,ho,hl2,rfl⟩;cases ho;conv=>whnf
  subst hl2;refine j7 0 1 2 [] (hem l2 17 n (by omega)) ?_;rintro o n' cs' r ⟨l4,rfl,rfl,ho,hl4,rfl⟩;cases ho;conv=>whnf
  refine⟨2,?_⟩;conv=>whnf
  exact⟨l4,rfl,rfl,rfl,by rw[hl4];rfl,rfl⟩
 ·simp only[ntA,Nt.k,Nt.n,Nt.s,Nt.kids];refine xN cT (fun _=>[0]) 1 Tryz.func41 rfl ?_;intro _;conv=>whnf
  refine j7 0 0 1 [] hk ?_;rintro o n' cs' r ⟨l2,rfl,rfl,ho,hl2,rfl⟩;cases ho;conv=>whnf
  subst hl2;refine j7 0 1 2 [] (hem l2 18 n (by omega)) ?_;rintro o n' cs' r ⟨l4,rfl,rfl,ho,hl4,rfl⟩;cases ho;conv=>whnf
  refine⟨2,?_⟩;conv=>whnf
  exact⟨l4,rfl,rfl,rfl,by rw[hl4];rfl,rfl⟩
 ·simp only[ntA,Nt.k,Nt.n,Nt.s,Nt.kids];refine xN cT (fun _=>[0]) 1 Tryz.func41 rfl ?_;intro _;conv=>whnf
  refine j7 0 0 1 [] hk ?_;rintro o n' cs' r ⟨l2,rfl,rfl,ho,hl2,rfl⟩;cases ho;conv=>whnf
  subst hl2;refine j7 0 1 2 [] (hem l2 19 n (by omega)) ?_;rintro o n' cs' r ⟨l4,rfl,rfl,ho,hl4,rfl⟩;cases ho;conv=>whnf
  refine⟨2,?_⟩;conv=>whnf
  exact⟨l4,rfl,rfl,rfl,by rw[hl4];rfl,rfl⟩
 ·simp only[ntA,Nt.k,Nt.n,Nt.s,Nt.kids];refine xN cT (fun _=>[0]) 1 Tryz.func41 rfl ?_;intro _;conv=>whnf
  refine j7 0 0 1 [] hk ?_;rintro o n' cs' r ⟨l2,rfl,rfl,ho,hl2,rfl⟩;cases ho;conv=>whnf
  subst hl2;refine j7 0 1 3 [] (hem l2 5 0 (by omega)) ?_;rintro o n' cs' r ⟨l4,rfl,rfl,ho,hl4,rfl⟩;cases ho;conv=>whnf
  refine⟨3,?_⟩;conv=>whnf
  exact⟨l4,rfl,rfl,rfl,by rw[hl4];rfl,rfl⟩
 ·simp only[ntA,Nt.k,Nt.n,Nt.s,Nt.kids];refine xN cT (fun _=>[0]) 1 Tryz.func41 rfl ?_;intro _;conv=>whnf
  refine j7 0 0 1 [] hk ?_;rintro o n' cs' r ⟨l2,rfl,rfl,ho,hl2,rfl⟩;cases ho;conv=>whnf
  subst hl2;refine j7 0 1 3 [] (hem l2 20 0 (by omega)) ?_;rintro o n' cs' r ⟨l4,rfl,rfl,ho,hl4,rfl⟩;cases ho;conv=>whnf
  refine⟨3,?_⟩;conv=>whnf
  exact⟨l4,rfl,rfl,rfl,by rw[hl4];rfl,rfl⟩
 ·simp only[ntA,Nt.k,Nt.n,Nt.s,Nt.kids];refine xN cT (fun _=>[0]) 1 Tryz.func41 rfl ?_;intro _;conv=>whnf
  refine j7 0 0 1 [] hk ?_;rintro o n' cs' r ⟨l2,rfl,rfl,ho,hl2,rfl⟩;cases ho;conv=>whnf
  subst hl2;refine j7 0 1 3 [] (hem l2 23 0 (by omega)) ?_;rintro o n' cs' r ⟨l4,rfl,rfl,ho,hl4,rfl⟩;cases ho;conv=>whnf
  refine⟨3,?_⟩;conv=>whnf
  exact⟨l4,rfl,rfl,rfl,by rw[hl4];rfl,rfl⟩
 ·simp only[ntA,Nt.k,Nt.n,Nt.s,Nt.kids];refine xN cT (fun _=>[0]) 1 Tryz.func41 rfl ?_;intro _;conv=>whnf
  refine j7 0 0 1 [] hk ?_;rintro o n' cs' r ⟨l2,rfl,rfl,ho,hl2,rfl⟩;cases ho;conv=>whnf
  subst hl2;refine j7 0 1 3 [] (hem l2 21 0 (by omega)) ?_;rintro o n' cs' r ⟨l4,rfl,rfl,ho,hl4,rfl⟩;cases ho;conv=>whnf
  refine⟨3,?_⟩;conv=>whnf
  exact⟨l4,rfl,rfl,rfl,by rw[hl4];rfl,rfl⟩
 ·simp only[ntA,Nt.k,Nt.n,Nt.s,Nt.kids];refine xN cT (fun _=>[0]) 1 Tryz.func41 rfl ?_;intro _;conv=>whnf
  refine j7 0 0 1 [] hk ?_;rintro o n' cs' r ⟨l2,rfl,rfl,ho,hl2,rfl⟩;cases ho;conv=>whnf
  subst hl2;refine j7 0 1 3 [] (hem l2 22 0 (by omega)) ?_;rintro o n' cs' r ⟨l4,rfl,rfl,ho,hl4,rfl⟩;cases ho;conv=>whnf
  refine⟨3,?_⟩;conv=>whnf
  exact⟨l4,rfl,rfl,rfl,by rw[hl4];rfl,rfl⟩
section
section
variable {P:Program} {pan:List PanicEntry->S->Prop} {Xr:Nat->Bool} {f:Nat} {args args':List A} {s:S} {K:A->S->Prop} {post:List (List A)->Nat->List A->A->Prop}
theorem jal (X:List Nat) (g m:Nat) (ids:List Nat) (hm:s.rw.length=m) {e k n:Nat} {cs:List A} {ins:List (List A)} (hf:Xr 1000000007=true) (hn:X.Nodup) (hX:∀ i ∈ X,Xr i=true) (hi:∀ i ∈ X,i<s.bx.length) (hg:(jC s.rw ids)[g]? = some (.live e k n cs)) (h1:aR X g (jC s.rw ids) (X.map fun i=>s.bx.getD i [])=some ins) (h2:kC X g (jC s.rw ids) args=some args') (hs:nW args'->fK P f ins e k n cs args' post)
  (hk:∀ outs n' cs' r,post outs n' cs' r->outs.length=X.length->fA X m s.bx X outs fun bx' => zM (backG X m r) fun r' => qB ((jC s.rw ids).set g .gone++[.live e k n' cs']) fun rw' => wD s bx' rw' (K r')):kX P pan Xr f args s K:=by
 subst hm;unfold kX
 right;right;right;right;left
 exact⟨hf,X,ids,g,e,k,n,cs,ins,args',post,_,hn,hX,hi,hg,h1,h2,hs,hk,fun ch bx' h _ _=>h.elim⟩
end
abbrev jhw (f:Nat) (ins:List (List A)) (l:List Ic) (args:List A) (post:List (List A)->List Ic->A->Prop):Prop :=
 jdM Tryz.prog f ins 56 2 l.length (yH l) args fun o n cs r => ∃ l',n=l'.length/\cs=yH l'/\post o l' r
theorem jtt (u:Ut) (l:List Ic) (op n:Int) (hl:l.length<=1000000):jhw 20 [dH u] l [.box 0 0,intA op,intA n] fun o l' r=>o=[dH u]/\l'=l++[(op,n)]/\r=intA l.length:=by
 refine sW (jD jH jT 1) (fun _ _ h=>h) Tryz.func20 rfl (by kernel_rfl) rfl (by kernel_rfl) ?_;intro _;conv=>whnf
 refine⟨⟨by unfold maxLen;omega,by omega⟩,?_⟩;conv=>whnf
 refine⟨jV (by omega),?_⟩;conv=>whnf
 refine⟨0,?_⟩;conv=>whnf
 refine⟨l++[(op,n)],by rw[List.length_append];rfl,?_,rfl,rfl,?_⟩
 ·rw[jcI];rfl
 ·show intA (((l.length+1:Nat):Int)-1)=intA l.length
  congr 1;omega
theorem jtz (u:Ut) (l:List Ic) (k:Nat) (hk:k<l.length) (hl:l.length<=1000000):jhw 64 [dH u] l [.box 0 0,intA k] fun o l' r=>o=[dH u]/\l'=l.set k (l[k].1,l.length)/\r = .tup []:=by
 refine sW (jD ju6 jT 1) (fun _ _ h=>h) Tryz.func64 rfl (by kernel_rfl) rfl (by kernel_rfl) ?_;intro _;conv=>whnf
 refine⟨⟨by omega,by omega⟩,?_⟩;conv=>whnf
 rw[show ((k:Int)).toNat=k from rfl];refine rB (by rw[jmn];omega) ?_;conv=>whnf
 refine⟨0,?_⟩;conv=>whnf
 refine⟨l.set k (l[k].1,l.length),by rw[List.length_set],?_,rfl,rfl,rfl⟩;exact jfW l k hk l.length
theorem jfB (u:Ut) (n:Int) (s:ByteArray) (kids:List Nt) (hm:kids.length<=3002) (hf:∀ f ∈ kids,bE u f) (l:List Ic) (hl:l.length+yE kids+1<=1000000):nJ 36 [dH u] l [.box 0 0,.agg (ntA (.mk 17 n s kids))] fun o l' r=>o=[dH u]/\l'=l++nA (qJ (kQ u) kids) l.length++(if s=pMinus then [(10,0)] else [(14,0)])/\r = .tup []:=by
 have hk:=lC u 17 n s kids hm hf l (by omega)
 simp only[ntA,Nt.k,Nt.n,Nt.s,Nt.kids] at hk
 have hz:=cZ (u:=u) kids l.length hf
 have hem:=fun (l:List Ic) (op n:Int) (h:l.length<=1000000)=>vY u l op n h
 generalize nA (qJ (kQ u) kids) l.length=y at *
 have hly:(l++y).length<=999999:=by rw[List.length_append];omega
 generalize l++y=l3 at *;simp only[ntA,Nt.k,Nt.n,Nt.s,Nt.kids];refine xN jH jT 1 Tryz.func36 rfl ?_;intro _;conv=>whnf
 refine j7 0 0 1 [] hk ?_;rintro o n' cs' r ⟨l2,rfl,rfl,ho,hl2,rfl⟩;cases ho;subst hl2;conv=>whnf
 by_cases hs:s=pMinus
 ·rw[if_pos hs];refine kE (b:=decide (s = ⟨#[45]⟩)) (j8 hs) ?_;conv=>whnf
  refine j7 0 1 2 [] (hem l2 10 0 (by omega)) ?_;rintro o n' cs' r ⟨l4,rfl,rfl,ho,hl4,rfl⟩;cases ho;conv=>whnf
  refine⟨2,?_⟩;conv=>whnf
  exact⟨l4,rfl,rfl,rfl,hl4,rfl⟩
 ·rw[if_neg hs];refine qN (b:=decide (s = ⟨#[45]⟩)) (jW hs) ?_;conv=>whnf
  refine j7 0 1 2 [] (hem l2 14 0 (by omega)) ?_;rintro o n' cs' r ⟨l4,rfl,rfl,ho,hl4,rfl⟩;cases ho;conv=>whnf
  refine⟨2,?_⟩;conv=>whnf
  exact⟨l4,rfl,rfl,rfl,hl4,rfl⟩
theorem jjV {α:Type} : ∀ (a:List α) (x v:α) (b:List α),(a++x :: b).set a.length v=a++v :: b
 | [],x,v,b=>rfl
 | y :: a,x,v,b=>by
  show y :: (a++x :: b).set a.length v=_
  rw[jjV a x v b];rfl
theorem jml (u:Ut) (a b:List Ic) (op x:Int) (hl:(a++(op,x) :: b).length<=1000000):jhw 64 [dH u] (a++(op,x) :: b) [.box 0 0,intA a.length] fun o l' r=>o=[dH u]/\l'=a++(op,((a++(op,x) :: b).length:Int)) :: b/\r = .tup []:=by
 have hk:a.length<(a++(op,x) :: b).length:=by rw[List.length_append,List.length_cons];omega
 have h:=jtz u (a++(op,x) :: b) a.length hk hl
 have e:(a++(op,x) :: b)[a.length]=(op,x):=by simp
 rw[e,jjV] at h;exact h
def joI (u:Ut) (nd:Nt) (f:Nat) (caps:List A) (g:Int->List Ic) (z:Nat):Prop:=(∀ at':Int,(g at').length<=z) /\ ∀ l:List Ic,l.length+z<=1000000->nJ f [dH u,[.box 0 0],ntA nd] l caps fun o l' r=>o=[dH u,[.box 0 0],ntA nd]/\l'=l++g l.length/\r = .tup []
theorem choose_spec (u:Ut) (nd:Nt) (f:Nt) (hf:bE u f) (fy fn zy zn:Nat) (cy cn:List A) (gy gn:Int->List Ic) (hcy:cy=[.box 1 0,.box 2 0] ∨ cy=[.box 1 0]) (hcn:cn=[.box 1 0,.box 2 0] ∨ cn=[.box 1 0]) (hy:joI u nd fy cy gy zy) (hn:joI u nd fn cn gn zn) (l:List Ic) (hl:l.length+kH f+zy+zn+2<=1000000):nJ 59 [dH u,[.box 0 0],ntA nd] l [.box 0 0,.agg (ntA f),.clo fy cy,.clo fn cn] fun o l' r=>o=[dH u,[.box 0 0],ntA nd]/\l'=l++brC (qI (kQ u) f) gy gn l.length/\r = .tup []:=by
 have hz1:=hf.1 l.length
 have hN:=hf.2 l (by omega)
 have hem:=fun (l:List Ic) (op n:Int) (h:l.length<=1000000)=>vY u l op n h
 generalize hC:qI (kQ u) f l.length=C at *
 have e1:(l++C).length=l.length+C.length:=List.length_append
 have h1:=hem (l++C) 16 0 (by omega)
 have e2:(l++C++[(16,0)]).length=l.length+C.length+1:=by rw[List.length_append,e1];rfl
 have hz2:=hy.1 ((l++C++[((16:Int),(0:Int))]).length:Nat)
 have h2:=hy.2 (l++C++[(16,0)]) (by omega)
 generalize hY:gy ((l++C++[((16:Int),(0:Int))]).length:Nat)=Y at *
 have e3:(l++C++[(16,0)]++Y).length=l.length+C.length+1+Y.length:=by rw[List.length_append,e2]
 have h3:=hem (l++C++[(16,0)]++Y) 15 0 (by omega)
 have e4:l++C++[(16,0)]++Y++[(15,0)]=(l++C)++((16:Int),(0:Int)) :: (Y++[(15,0)]):=by simp
 have e5:((l++C)++((16:Int),(0:Int)) :: (Y++[((15:Int),(0:Int))])).length=l.length+C.length+1+Y.length+1:=by rw[<- e4,List.length_append,e3];rfl
 have h4:=jml u (l++C) (Y++[(15,0)]) 16 0 (by omega)
 rw[e5] at h4
 have e6:((l++C)++((16:Int),((l.length+C.length+1+Y.length+1:Nat):Int)) :: (Y++[((15:Int),(0:Int))])).length=l.length+C.length+1+Y.length+1:=by
  rw[List.length_append,List.length_cons,e1,List.length_append];simp;omega
 have hz3:=hn.1 ((l.length+C.length+1+Y.length+1:Nat):Int)
 have h5:=hn.2 ((l++C)++((16:Int),((l.length+C.length+1+Y.length+1:Nat):Int)) :: (Y++[((15:Int),(0:Int))])) (by omega)
 rw[e6] at h5;generalize hN2:gn ((l.length+C.length+1+Y.length+1:Nat):Int)=N at *
 have e7:(l++C)++((16:Int),((l.length+C.length+1+Y.length+1:Nat):Int)) :: (Y++[((15:Int),(0:Int))])++N=((l++C)++((16:Int),((l.length+C.length+1+Y.length+1:Nat):Int)) :: Y)++(15,0) :: N:=by simp
 have e8:((l++C)++((16:Int),((l.length+C.length+1+Y.length+1:Nat):Int)) :: Y).length=l.length+C.length+1+Y.length:=by
  rw[List.length_append,List.length_cons,e1];omega
 have e9:(((l++C)++((16:Int),((l.length+C.length+1+Y.length+1:Nat):Int)) :: Y)++((15:Int),(0:Int)) :: N).length=l.length+C.length+1+Y.length+1+N.length:=by
  rw[List.length_append,List.length_cons,e8];omega
 have h6:=jml u ((l++C)++((16:Int),((l.length+C.length+1+Y.length+1:Nat):Int)) :: Y) N 15 0 (by omega)
 rw[e8,e9] at h6
 have hfin:l++brC (qI (kQ u) f) gy gn l.length=((l++C)++((16:Int),((l.length+C.length+1+Y.length+1:Nat):Int)) :: Y)++((15:Int),((l.length+C.length+1+Y.length+1+N.length:Nat):Int)) :: N:=by
  unfold brC;simp only[hC];rw[e2] at hY
  have k1:(l.length:Int)+(C.length:Int)+1=((l.length+C.length+1:Nat):Int):=by omega
  rw[k1,hY]
  have k2:((l.length+C.length+1:Nat):Int)+(Y.length:Int)+1=((l.length+C.length+1+Y.length+1:Nat):Int):=by omega
  rw[k2,hN2]
  have k3:((l.length+C.length+1+Y.length+1:Nat):Int)+(N.length:Int)=((l.length+C.length+1+Y.length+1+N.length:Nat):Int):=by omega
  rw[k3]
  simp
 rw[e3] at h3;rw[hfin];rw[e4] at h3;rw[e7] at h5
 rcases hcy with rfl | rfl <;> rcases hcn with rfl | rfl
 all_goals
  refine kV (jD jH jT 3) Tryz.func59 rfl (by kernel_rfl) rfl ?_;intro _;conv=>whnf
  refine jE (jD jH jT 3) (dr:=[]) ⟨0,rfl⟩ (.inl rfl) (by kernel_rfl) (fun _ _ h=>h.elim) ?_;conv=>whnf
  refine jE (jD jH jT 3) (dr:=[]) ⟨0,rfl⟩ (.inl rfl) (by kernel_rfl) (fun _ _ h=>h.elim) ?_;conv=>whnf
  refine j7 0 0 1 [] hN ?_;rintro o n' cs' r ⟨l2,rfl,rfl,ho,hl2,rfl⟩;cases ho;subst hl2;conv=>whnf
  refine jE (jD jH jT 3) (dr:=[]) ⟨0,rfl⟩ (.inl rfl) (by kernel_rfl) (fun _ _ h=>h.elim) ?_;conv=>whnf
  refine j7 0 1 2 [] h1 ?_;rintro o n' cs' r ⟨l3,rfl,rfl,ho,hl3,rfl⟩;cases ho;subst hl3;conv=>whnf
  refine jE (jD jH jT 3) (dr:=[]) ⟨0,rfl⟩ (.inl rfl) (by kernel_rfl) (fun _ _ h=>h.elim) ?_;conv=>whnf
  refine jal [0,1,2] 2 3 [] rfl rfl (by decide) (by simp) (by simp) rfl rfl rfl (fun _=>h2) ?_;rintro o n' cs' r ⟨l4,rfl,rfl,ho,hl4,rfl⟩ _;cases ho;subst hl4;conv=>whnf
  refine jE (jD jH jT 3) (dr:=[]) ⟨0,rfl⟩ (.inl rfl) (by kernel_rfl) (fun _ _ h=>h.elim) ?_;conv=>whnf
  refine j7 0 3 4 [] h3 ?_;rintro o n' cs' r ⟨l5,rfl,rfl,ho,hl5,rfl⟩;cases ho;subst hl5;conv=>whnf
  refine xJ ?_;refine zJ (l:=[_,_]) [] (jD jH jT 3) ⟨0,rfl⟩ (fun _ _ h=>h.elim) rfl rfl rfl ?_;conv=>whnf
  refine yB (jD jH jT 3) ⟨1,rfl⟩ (.inl rfl) (by kernel_rfl) (fun _ _ h=>h.elim) ?_;conv=>whnf
  refine j7 0 4 5 [] h4.r ?_;rintro o n' cs' r ⟨l6,rfl,rfl,ho,hl6,rfl⟩;cases ho;subst hl6;conv=>whnf
  refine jal [0,1,2] 5 6 [] rfl rfl (by decide) (by simp) (by simp) rfl rfl rfl (fun _=>h5) ?_;rintro o n' cs' r ⟨l7,rfl,rfl,ho,hl7,rfl⟩ _;cases ho;subst hl7;conv=>whnf
  refine⟨.inl rfl,?_⟩;unfold yI;refine cE 0 6 7 [] rfl rfl rfl rfl rfl h6 ?_;rintro o n' cs' r ⟨l8,rfl,rfl,ho,hl8,rfl⟩;cases ho;conv=>whnf
  refine⟨7,?_⟩;conv=>whnf
  exact⟨l8,rfl,rfl,rfl,hl8,rfl⟩
end
theorem uN (u:Ut) (k n:Int) (s:ByteArray) (kids:List Nt) (i c:Nat) (hi:i<kids.length) (hf:bE u kids[i]) (hc:c=58/\i=1 ∨ c=62/\i=1 ∨ c=63/\i=2):joI u (.mk k n s kids) c [.box 1 0,.box 2 0] (qI (kQ u) kids[i]) (kH kids[i]):=by
 refine⟨hf.1,fun l hl => ?_⟩
 have hN:=hf.2 l hl
 have hrow:=zK kids i hi
 generalize kids[i]=g at *;simp only[ntA,Nt.k,Nt.n,Nt.s,Nt.kids]
 rcases hc with ⟨rfl,rfl⟩ | ⟨rfl,rfl⟩ | ⟨rfl,rfl⟩
 ·refine xN ju3 jT 3 Tryz.func58 rfl ?_;intro _;conv=>whnf
  refine⟨by omega,?_⟩;conv=>whnf
  (generalize hrq:jJ _ _ (qE kids)=rq;obtain rfl:rq=ntA g:=hrq.symm.trans (hrow);clear hrq;conv=>whnf)
  refine j7 0 0 1 [] hN ?_;rintro o n' cs' r ⟨l2,rfl,rfl,ho,hl2,rfl⟩;cases ho;conv=>whnf
  refine⟨1,?_⟩;conv=>whnf
  exact⟨l2,rfl,rfl,rfl,hl2,rfl⟩
 ·refine xN ju4 jT 3 Tryz.func62 rfl ?_;intro _;conv=>whnf
  refine⟨by omega,?_⟩;conv=>whnf
  (generalize hrq:jJ _ _ (qE kids)=rq;obtain rfl:rq=ntA g:=hrq.symm.trans (hrow);clear hrq;conv=>whnf)
  refine j7 0 0 1 [] hN ?_;rintro o n' cs' r ⟨l2,rfl,rfl,ho,hl2,rfl⟩;cases ho;conv=>whnf
  refine⟨1,?_⟩;conv=>whnf
  exact⟨l2,rfl,rfl,rfl,hl2,rfl⟩
 ·refine xN ju5 jT 3 Tryz.func63 rfl ?_;intro _;conv=>whnf
  refine⟨by omega,?_⟩;conv=>whnf
  (generalize hrq:jJ _ _ (qE kids)=rq;obtain rfl:rq=ntA g:=hrq.symm.trans (hrow);clear hrq;conv=>whnf)
  refine j7 0 0 1 [] hN ?_;rintro o n' cs' r ⟨l2,rfl,rfl,ho,hl2,rfl⟩;cases ho;conv=>whnf
  refine⟨1,?_⟩;conv=>whnf
  exact⟨l2,rfl,rfl,rfl,hl2,rfl⟩
theorem jfw (u:Ut) (k n:Int) (s:ByteArray) (kids:List Nt) (c:Nat) (v:Int) (hc:c=60/\v=0 ∨ c=61/\v=1):joI u (.mk k n s kids) c [.box 1 0] (fun _=>[(1,v)]) 1:=by
 refine⟨fun _=>Nat.le_refl _,fun l hl => ?_⟩
 have hN:=vY u l 1 v (by omega)
 simp only[ntA,Nt.k,Nt.n,Nt.s,Nt.kids]
 rcases hc with ⟨rfl,rfl⟩ | ⟨rfl,rfl⟩
 ·refine xN jH jT 3 Tryz.func60 rfl ?_;intro _;conv=>whnf
  refine j7 0 0 1 [] hN ?_;rintro o n' cs' r ⟨l2,rfl,rfl,ho,hl2,rfl⟩;cases ho;conv=>whnf
  refine⟨1,?_⟩;conv=>whnf
  exact⟨l2,rfl,rfl,rfl,hl2,rfl⟩
 ·refine xN jH jT 3 Tryz.func61 rfl ?_;intro _;conv=>whnf
  refine j7 0 0 1 [] hN ?_;rintro o n' cs' r ⟨l2,rfl,rfl,ho,hl2,rfl⟩;cases ho;conv=>whnf
  refine⟨1,?_⟩;conv=>whnf
  exact⟨l2,rfl,rfl,rfl,hl2,rfl⟩
theorem cQ (k n:Int) (s:ByteArray) (kids:List Nt):ntA (.mk k n s kids)=[intA k,intA n,jY s,.sl 4 kids.length (qE kids)]:=rfl
theorem jfk (u:Ut) (n:Int) (s:ByteArray) (kids:List Nt) (h3:kids.length=3) (hf:∀ f ∈ kids,bE u f) (l:List Ic) (hl:l.length+(kids.map kH).sum+2<=1000000):nJ 38 [dH u] l [.box 0 0,.agg (ntA (.mk 2 n s kids))] fun o l' r=>o=[dH u]/\l'=l++brC (qI (kQ u) (kids[0]'(by omega))) (qI (kQ u) (kids[1]'(by omega))) (qI (kQ u) (kids[2]'(by omega))) l.length/\r = .tup []:=by
 have h1:=uN u 2 n s kids 1 62 (by omega) (hf _ (List.getElem_mem _)) (.inr (.inl ⟨rfl,rfl⟩))
 have h2:=uN u 2 n s kids 2 63 (by omega) (hf _ (List.getElem_mem _)) (.inr (.inr ⟨rfl,rfl⟩))
 have hsum:kH (kids[0]'(by omega))+kH (kids[1]'(by omega))+kH (kids[2]'(by omega))<=(kids.map kH).sum:=by
  match kids,h3 with
  | [a,b,c],_=>simp;omega
 have hch:=choose_spec u _ (kids[0]'(by omega)) (hf _ (List.getElem_mem _)) _ _ _ _ _ _ _ _ (.inl rfl) (.inl rfl) h1 h2 l (by omega)
 have hrow:=zK kids 0 (by omega)
 generalize kids[0]'(by omega)=g at *;rw[cQ] at hch ⊢;refine xN ju2 jT 1 Tryz.func38 rfl ?_;intro _;conv=>whnf
 refine⟨by omega,?_⟩;conv=>whnf
 (generalize hrq:jJ _ _ (qE kids)=rq;obtain rfl:rq=ntA g:=hrq.symm.trans (hrow);clear hrq;conv=>whnf)
 refine jal [0,1,2] 0 1 [] rfl rfl (by decide) (by simp) (by simp) rfl rfl rfl (fun _=>hch) ?_;rintro o n' cs' r ⟨l2,rfl,rfl,ho,hl2,rfl⟩ _;cases ho;conv=>whnf
 refine⟨1,?_⟩;conv=>whnf
 exact⟨l2,rfl,rfl,rfl,hl2,rfl⟩
theorem joS (u:Ut) (n:Int) (kids:List Nt) (h3:kids.length=2) (hf:∀ f ∈ kids,bE u f) (l:List Ic) (hl:l.length+(kids.map kH).sum+3<=1000000):nJ 37 [dH u] l [.box 0 0,.agg (ntA (.mk 18 n kZ kids))] fun o l' r=>o=[dH u]/\l'=l++brC (qI (kQ u) (kids[0]'(by omega))) (qI (kQ u) (kids[1]'(by omega))) (fun _=>[(1,0)]) l.length/\r = .tup []:=by
 have h1:=uN u 18 n kZ kids 1 58 (by omega) (hf _ (List.getElem_mem _)) (.inl ⟨rfl,rfl⟩)
 have h2:=jfw u 18 n kZ kids 60 0 (.inl ⟨rfl,rfl⟩)
 have hsum:kH (kids[0]'(by omega))+kH (kids[1]'(by omega))<=(kids.map kH).sum:=by
  match kids,h3 with
  | [a,b],_=>simp
 have hch:=choose_spec u _ (kids[0]'(by omega)) (hf _ (List.getElem_mem _)) _ _ _ _ _ _ _ _ (.inl rfl) (.inr rfl) h1 h2 l (by omega)
 have hrow:=zK kids 0 (by omega)
 generalize kids[0]'(by omega)=g at *;rw[cQ] at hch ⊢;refine xN eZ jT 1 Tryz.func37 rfl ?_;intro _;conv=>whnf
 refine⟨by omega,?_⟩;conv=>whnf
 (generalize hrq:jJ _ _ (qE kids)=rq;obtain rfl:rq=ntA g:=hrq.symm.trans (hrow);clear hrq;conv=>whnf)
 refine jal [0,1,2] 0 1 [] rfl rfl (by decide) (by simp) (by simp) rfl rfl rfl (fun _=>hch) ?_;rintro o n' cs' r ⟨l2,rfl,rfl,ho,hl2,rfl⟩ _;cases ho;conv=>whnf
 refine⟨1,?_⟩;conv=>whnf
 exact⟨l2,rfl,rfl,rfl,hl2,rfl⟩
theorem jri (u:Ut) (n:Int) (kids:List Nt) (h3:kids.length=2) (hf:∀ f ∈ kids,bE u f) (l:List Ic) (hl:l.length+(kids.map kH).sum+3<=1000000):nJ 37 [dH u] l [.box 0 0,.agg (ntA (.mk 18 n pOr kids))] fun o l' r=>o=[dH u]/\l'=l++brC (qI (kQ u) (kids[0]'(by omega))) (fun _=>[(1,1)]) (qI (kQ u) (kids[1]'(by omega))) l.length/\r = .tup []:=by
 have h1:=uN u 18 n pOr kids 1 58 (by omega) (hf _ (List.getElem_mem _)) (.inl ⟨rfl,rfl⟩)
 have h2:=jfw u 18 n pOr kids 61 1 (.inr ⟨rfl,rfl⟩)
 have hsum:kH (kids[0]'(by omega))+kH (kids[1]'(by omega))<=(kids.map kH).sum:=by
  match kids,h3 with
  | [a,b],_=>simp
 have hch:=choose_spec u _ (kids[0]'(by omega)) (hf _ (List.getElem_mem _)) _ _ _ _ _ _ _ _ (.inr rfl) (.inl rfl) h2 h1 l (by omega)
 have hrow:=zK kids 0 (by omega)
 generalize kids[0]'(by omega)=g at *;rw[cQ] at hch ⊢;refine xN eZ jT 1 Tryz.func37 rfl ?_;intro _;conv=>whnf
 refine⟨by omega,?_⟩;conv=>whnf
 (generalize hrq:jJ _ _ (qE kids)=rq;obtain rfl:rq=ntA g:=hrq.symm.trans (hrow);clear hrq;conv=>whnf)
 refine jal [0,1,2] 0 1 [] rfl rfl (by decide) (by simp) (by simp) rfl rfl rfl (fun _=>hch) ?_;rintro o n' cs' r ⟨l2,rfl,rfl,ho,hl2,rfl⟩ _;cases ho;conv=>whnf
 refine⟨1,?_⟩;conv=>whnf
 exact⟨l2,rfl,rfl,rfl,hl2,rfl⟩
def opBin:List ByteArray:=[wP,pMinus,zZ,qM,pLt,pLe,jn0,pGt,pGe,pNe]
theorem jrh (u:Ut) (n:Int) (s:ByteArray) (hs:(opBin.any fun x=>decide (s=x))=true) (kids:List Nt) (hm:kids.length<=3002) (hf:∀ f ∈ kids,bE u f) (l:List Ic) (hl:l.length+yE kids+2<=1000000):nJ 37 [dH u] l [.box 0 0,.agg (ntA (.mk 18 n s kids))] fun o l' r=>o=[dH u]/\l'=l++nA (qJ (kQ u) kids) l.length++opC s/\r = .tup []:=by
 have hs:s ∈ opBin:=by
  rw[List.any_eq_true] at hs
  obtain⟨x,h1,h2⟩ := hs
  rw[decide_eq_true_eq] at h2;rw[h2];exact h1
 have hk:=lC u 18 n s kids hm hf l (by omega)
 have hz:=cZ (u:=u) kids l.length hf
 have hem:=fun (l:List Ic) (op n:Int) (h:l.length<=1000000)=>vY u l op n h
 generalize nA (qJ (kQ u) kids) l.length=y at *
 have hly:(l++y).length<=999998:=by rw[List.length_append];omega
 generalize l++y=l3 at *;rw[cQ] at hk ⊢;unfold opBin at hs;simp only[List.mem_cons,List.not_mem_nil,or_false] at hs
 rcases hs with rfl | rfl | rfl | rfl | rfl | rfl | rfl | rfl | rfl | rfl
 ·refine xN eZ jT 1 Tryz.func37 rfl ?_;intro _;conv=>whnf
  refine j7 0 0 1 [] hk ?_;rintro o n' cs' r ⟨l2,rfl,rfl,ho,hl2,rfl⟩;cases ho;subst hl2;conv=>whnf
  refine j7 0 1 3 [] (hem l2 6 0 (by omega)) ?_;rintro o n' cs' r ⟨l4,rfl,rfl,ho,hl4,rfl⟩;cases ho;conv=>whnf
  refine⟨3,?_⟩;conv=>whnf
  exact⟨l4,rfl,rfl,rfl,hl4,rfl⟩
 ·refine xN eZ jT 1 Tryz.func37 rfl ?_;intro _;conv=>whnf
  refine j7 0 0 1 [] hk ?_;rintro o n' cs' r ⟨l2,rfl,rfl,ho,hl2,rfl⟩;cases ho;subst hl2;conv=>whnf
  refine j7 0 1 3 [] (hem l2 7 0 (by omega)) ?_;rintro o n' cs' r ⟨l4,rfl,rfl,ho,hl4,rfl⟩;cases ho;conv=>whnf
  refine⟨3,?_⟩;conv=>whnf
  exact⟨l4,rfl,rfl,rfl,hl4,rfl⟩
 ·refine xN eZ jT 1 Tryz.func37 rfl ?_;intro _;conv=>whnf
  refine j7 0 0 1 [] hk ?_;rintro o n' cs' r ⟨l2,rfl,rfl,ho,hl2,rfl⟩;cases ho;subst hl2;conv=>whnf
  refine j7 0 1 3 [] (hem l2 8 0 (by omega)) ?_;rintro o n' cs' r ⟨l4,rfl,rfl,ho,hl4,rfl⟩;cases ho;conv=>whnf
  refine⟨3,?_⟩;conv=>whnf
  exact⟨l4,rfl,rfl,rfl,hl4,rfl⟩
 ·refine xN eZ jT 1 Tryz.func37 rfl ?_;intro _;conv=>whnf
  refine j7 0 0 1 [] hk ?_;rintro o n' cs' r ⟨l2,rfl,rfl,ho,hl2,rfl⟩;cases ho;subst hl2;conv=>whnf
  refine j7 0 1 3 [] (hem l2 9 0 (by omega)) ?_;rintro o n' cs' r ⟨l4,rfl,rfl,ho,hl4,rfl⟩;cases ho;conv=>whnf
  refine⟨3,?_⟩;conv=>whnf
  exact⟨l4,rfl,rfl,rfl,hl4,rfl⟩
 ·refine xN eZ jT 1 Tryz.func37 rfl ?_;intro _;conv=>whnf
  refine j7 0 0 1 [] hk ?_;rintro o n' cs' r ⟨l2,rfl,rfl,ho,hl2,rfl⟩;cases ho;subst hl2;conv=>whnf
  refine j7 0 1 3 [] (hem l2 11 0 (by omega)) ?_;rintro o n' cs' r ⟨l4,rfl,rfl,ho,hl4,rfl⟩;cases ho;conv=>whnf
  refine⟨3,?_⟩;conv=>whnf
  exact⟨l4,rfl,rfl,rfl,hl4,rfl⟩
 ·refine xN eZ jT 1 Tryz.func37 rfl ?_;intro _;conv=>whnf
  refine j7 0 0 1 [] hk ?_;rintro o n' cs' r ⟨l2,rfl,rfl,ho,hl2,rfl⟩;cases ho;subst hl2;conv=>whnf
  refine j7 0 1 3 [] (hem l2 12 0 (by omega)) ?_;rintro o n' cs' r ⟨l4,rfl,rfl,ho,hl4,rfl⟩;cases ho;conv=>whnf
  refine⟨3,?_⟩;conv=>whnf
  exact⟨l4,rfl,rfl,rfl,hl4,rfl⟩
 ·refine xN eZ jT 1 Tryz.func37 rfl ?_;intro _;conv=>whnf
  refine j7 0 0 1 [] hk ?_;rintro o n' cs' r ⟨l2,rfl,rfl,ho,hl2,rfl⟩;cases ho;subst hl2;conv=>whnf
  refine j7 0 1 3 [] (hem l2 13 0 (by omega)) ?_;rintro o n' cs' r ⟨l4,rfl,rfl,ho,hl4,rfl⟩;cases ho;conv=>whnf
  refine⟨3,?_⟩;conv=>whnf
  exact⟨l4,rfl,rfl,rfl,hl4,rfl⟩
 ·refine xN eZ jT 1 Tryz.func37 rfl ?_;intro _;conv=>whnf
  refine j7 0 0 1 [] hk ?_;rintro o n' cs' r ⟨l2,rfl,rfl,ho,hl2,rfl⟩;cases ho;subst hl2;conv=>whnf
  refine j7 0 1 3 [] (hem l2 12 0 (by omega)) ?_;rintro o n' cs' r ⟨l4,rfl,rfl,ho,hl4,rfl⟩;cases ho
  have hz4:l4.length<=1000000:=by rw[hl4,List.length_append,List.length_singleton];omega
  conv=>whnf
  refine j7 0 3 4 [] (hem l4 14 0 hz4) ?_;rintro o n' cs' r ⟨l5,rfl,rfl,ho,hl5,rfl⟩;cases ho;conv=>whnf
  refine⟨4,?_⟩;conv=>whnf
  exact⟨l5,rfl,rfl,rfl,by rw[hl5,hl4,List.append_assoc];rfl,rfl⟩
 ·refine xN eZ jT 1 Tryz.func37 rfl ?_;intro _;conv=>whnf
  refine j7 0 0 1 [] hk ?_;rintro o n' cs' r ⟨l2,rfl,rfl,ho,hl2,rfl⟩;cases ho;subst hl2;conv=>whnf
  refine j7 0 1 3 [] (hem l2 11 0 (by omega)) ?_;rintro o n' cs' r ⟨l4,rfl,rfl,ho,hl4,rfl⟩;cases ho
  have hz4:l4.length<=1000000:=by rw[hl4,List.length_append,List.length_singleton];omega
  conv=>whnf
  refine j7 0 3 4 [] (hem l4 14 0 hz4) ?_;rintro o n' cs' r ⟨l5,rfl,rfl,ho,hl5,rfl⟩;cases ho;conv=>whnf
  refine⟨4,?_⟩;conv=>whnf
  exact⟨l5,rfl,rfl,rfl,by rw[hl5,hl4,List.append_assoc];rfl,rfl⟩
 ·refine xN eZ jT 1 Tryz.func37 rfl ?_;intro _;conv=>whnf
  refine j7 0 0 1 [] hk ?_;rintro o n' cs' r ⟨l2,rfl,rfl,ho,hl2,rfl⟩;cases ho;subst hl2;conv=>whnf
  refine j7 0 1 3 [] (hem l2 13 0 (by omega)) ?_;rintro o n' cs' r ⟨l4,rfl,rfl,ho,hl4,rfl⟩;cases ho
  have hz4:l4.length<=1000000:=by rw[hl4,List.length_append,List.length_singleton];omega
  conv=>whnf
  refine j7 0 3 4 [] (hem l4 14 0 hz4) ?_;rintro o n' cs' r ⟨l5,rfl,rfl,ho,hl5,rfl⟩;cases ho;conv=>whnf
  refine⟨4,?_⟩;conv=>whnf
  exact⟨l5,rfl,rfl,rfl,by rw[hl5,hl4,List.append_assoc];rfl,rfl⟩
def whC (c b:Int->List Ic) (at':Int):List Ic:=c at'++(16,at'+(c at').length+(b (at'+(c at').length+1)).length+2) :: (b (at'+(c at').length+1)++[(15,at')])
theorem jkK (u:Ut) (n:Int) (s:ByteArray) (kids:List Nt) (h3:kids.length=2) (hf:∀ f ∈ kids,bE u f) (l:List Ic) (hl:l.length+(kids.map kH).sum+2<=1000000):nJ 39 [dH u] l [.box 0 0,.agg (ntA (.mk 3 n s kids))] fun o l' r=>o=[dH u]/\l'=l++whC (qI (kQ u) (kids[0]'(by omega))) (qI (kQ u) (kids[1]'(by omega))) l.length/\r = .tup []:=by
 have hsum:kH (kids[0]'(by omega))+kH (kids[1]'(by omega))<=(kids.map kH).sum:=by
  match kids,h3 with
  | [a,b],_=>simp
 have hem:=fun (l:List Ic) (op n:Int) (h:l.length<=1000000)=>vY u l op n h
 have ha:=hf (kids[0]'(by omega)) (List.getElem_mem _)
 have hb:=hf (kids[1]'(by omega)) (List.getElem_mem _)
 have hr0:=zK kids 0 (by omega)
 have hr1:=zK kids 1 (by omega)
 generalize kids[0]'(by omega)=a at *;generalize kids[1]'(by omega)=b at *
 have hz1:=ha.1 l.length
 have h0:=ha.2 l (by omega)
 generalize hC:qI (kQ u) a l.length=C at *
 have e1:(l++C).length=l.length+C.length:=List.length_append
 have h1:=hem (l++C) 16 0 (by omega)
 have e2:(l++C++[(16,0)]).length=l.length+C.length+1:=by rw[List.length_append,e1];rfl
 have hz2:=hb.1 ((l++C++[((16:Int),(0:Int))]).length:Nat)
 have h2:=hb.2 (l++C++[(16,0)]) (by omega)
 generalize hB:qI (kQ u) b ((l++C++[((16:Int),(0:Int))]).length:Nat)=B at *
 have e3:(l++C++[(16,0)]++B).length=l.length+C.length+1+B.length:=by rw[List.length_append,e2]
 have h4:=jtt u (l++C++[(16,0)]++B) 15 l.length (by omega)
 have e4:l++C++[(16,0)]++B++[(15,(l.length:Int))]=(l++C)++((16:Int),(0:Int)) :: (B++[(15,(l.length:Int))]):=by simp
 have e5:((l++C)++((16:Int),(0:Int)) :: (B++[((15:Int),(l.length:Int))])).length=l.length+C.length+1+B.length+1:=by rw[<- e4,List.length_append,e3];rfl
 have h5:=jml u (l++C) (B++[(15,(l.length:Int))]) 16 0 (by omega)
 rw[e5] at h5;rw[e4] at h4
 have hfin:l++whC (qI (kQ u) a) (qI (kQ u) b) l.length=(l++C)++((16:Int),((l.length+C.length+1+B.length+1:Nat):Int)) :: (B++[((15:Int),(l.length:Int))]):=by
  unfold whC;simp only[hC];rw[e2] at hB
  have k1:(l.length:Int)+(C.length:Int)+1=((l.length+C.length+1:Nat):Int):=by omega
  rw[k1,hB]
  have k2:(l.length:Int)+(C.length:Int)+(B.length:Int)+2=((l.length+C.length+1+B.length+1:Nat):Int):=by omega
  rw[k2]
  simp
 rw[hfin];rw[cQ];refine kV (jD jH jT 1) Tryz.func39 rfl (by kernel_rfl) rfl ?_;intro _;conv=>whnf
 refine jE (jD jH jT 1) (dr:=[]) ⟨0,rfl⟩ (.inl rfl) (by kernel_rfl) (fun _ _ h=>h.elim) ?_;conv=>whnf
 refine jE (jD jH jT 1) (dr:=[]) ⟨0,rfl⟩ (.inl rfl) (by kernel_rfl) (fun _ _ h=>h.elim) ?_;conv=>whnf
 refine jE (jD jH jT 1) (dr:=[]) ⟨0,rfl⟩ (.inl rfl) (by kernel_rfl) (fun _ _ h=>h.elim) ?_;conv=>whnf
 refine⟨by omega,?_⟩;conv=>whnf
 (generalize hrq:jJ _ _ (qE kids)=rq;obtain rfl:rq=ntA a:=hrq.symm.trans (hr0);clear hrq;conv=>whnf)
 refine j7 0 0 1 [] h0 ?_;rintro o n' cs' r ⟨l2,rfl,rfl,ho,hl2,rfl⟩;cases ho;subst hl2;conv=>whnf
 refine jE (jD jH jT 1) (dr:=[]) ⟨0,rfl⟩ (.inl rfl) (by kernel_rfl) (fun _ _ h=>h.elim) ?_;conv=>whnf
 refine j7 0 1 2 [] h1 ?_;rintro o n' cs' r ⟨l3,rfl,rfl,ho,hl3,rfl⟩;cases ho;subst hl3;conv=>whnf
 refine xJ ?_;refine zJ (l:=[_,_]) [] (jD jH jT 1) ⟨0,rfl⟩ (fun _ _ h=>h.elim) rfl rfl rfl ?_;conv=>whnf
 refine jE (jD jH jT 1) ⟨1,rfl⟩ (.inl rfl) (by kernel_rfl) (fun _ _ h=>h.elim) ?_;conv=>whnf
 refine⟨by omega,?_⟩;conv=>whnf
 (generalize hrq:jJ _ _ (qE kids)=rq;obtain rfl:rq=ntA b:=hrq.symm.trans (hr1);clear hrq;conv=>whnf)
 refine j7 0 2 3 [] h2 ?_;rintro o n' cs' r ⟨l4,rfl,rfl,ho,hl4,rfl⟩;cases ho;subst hl4;conv=>whnf
 refine zJ (l:=[_,_]) [] (jD jH jT 1) ⟨1,rfl⟩ (fun _ _ h=>h.elim) rfl rfl rfl ?_;conv=>whnf
 refine⟨.inl rfl,?_⟩;unfold yI;refine cE 0 3 4 [] rfl rfl rfl rfl rfl h4 ?_;rintro o n' cs' r ⟨l5,rfl,rfl,ho,hl5,rfl⟩;cases ho;subst hl5;conv=>whnf
 refine cE 0 4 5 [] rfl rfl rfl rfl rfl h5 ?_;rintro o n' cs' r ⟨l6,rfl,rfl,ho,hl6,rfl⟩;cases ho;conv=>whnf
 refine⟨5,?_⟩;conv=>whnf
 exact⟨l6,rfl,rfl,rfl,hl6,rfl⟩
theorem jah {c y n:Int->List Ic} {a b d:Nat} (h1:∀ at':Int,(c at').length<=a) (h2:∀ at':Int,(y at').length<=b) (h3:∀ at':Int,(n at').length<=d) (at':Int):(brC c y n at').length<=a+b+d+2:=by
 unfold brC;simp only[List.length_append,List.length_cons]
 have q1:=h1 at'
 have q2:=h2 (at'+(c at').length+1)
 have q3:=h3 (at'+(c at').length+1+(y (at'+(c at').length+1)).length+1)
 omega
theorem jmU (s:ByteArray):(opC s).length<=2:=by
 unfold opC
 repeat' split
 all_goals decide
theorem jhc:∀ l:List Nt,yE l=(l.map kH).sum
 | []=>rfl
 | f :: l=>by rw[List.map_cons,List.sum_cons,<- jhc l];rfl
theorem bG (u:Ut) (k n:Int) (s:ByteArray) (kids:List Nt) (l:List Ic) (r:List Ic) (c:Nat) (hc:k=17/\c=36 ∨ k=18/\c=37 ∨ k=2/\c=38 ∨ k=3/\c=39 ∨ k=11/\c=40 ∨ (k ≠ 17/\k ≠ 18/\k ≠ 2/\k ≠ 3/\k ≠ 11)/\c=41)
  (h:nJ c [dH u] l [.box 0 0,.agg (ntA (.mk k n s kids))] fun o l' q=>o=[dH u]/\l'=l++r/\q = .tup []):nJ 19 [dH u] l [.box 0 0,.agg (ntA (.mk k n s kids))] fun o l' q=>o=[dH u]/\l'=l++r/\q = .tup []:=by
 rw[cQ] at h ⊢
 rcases hc with ⟨rfl,rfl⟩ | ⟨rfl,rfl⟩ | ⟨rfl,rfl⟩ | ⟨rfl,rfl⟩ | ⟨rfl,rfl⟩ | ⟨⟨k1,k2,k3,k4,k5⟩,rfl⟩
 all_goals
  refine xN jH jT 1 Tryz.func19 rfl ?_;intro _;conv=>whnf
 all_goals try
  refine j7 0 0 2 [] h ?_;rintro o n' cs' r ⟨l2,rfl,rfl,ho,hl2,rfl⟩;cases ho;conv=>whnf
  refine⟨2,?_⟩;conv=>whnf
  exact⟨l2,rfl,rfl,rfl,hl2,rfl⟩
 rw[jW k1];conv=>whnf
 rw[jW k2];conv=>whnf
 rw[jW k3];conv=>whnf
 rw[jW k4];conv=>whnf
 rw[jW k5];conv=>whnf
 refine j7 0 0 2 [] h ?_;rintro o n' cs' r ⟨l2,rfl,rfl,ho,hl2,rfl⟩;cases ho;conv=>whnf
 refine⟨2,?_⟩;conv=>whnf
 exact⟨l2,rfl,rfl,rfl,hl2,rfl⟩
theorem joQ {l:List ByteArray} {s:ByteArray} (h:(l.any fun x=>decide (s=x))=true):s ∈ l:=by
 rw[List.any_eq_true] at h
 obtain⟨x,h1,h2⟩ := h
 rw[decide_eq_true_eq] at h2;rw[h2];exact h1
theorem jkR {s:ByteArray} (h:(opAll.any fun x=>decide (s=x))=true) (h1:s ≠ kZ) (h2:s ≠ pOr):(opBin.any fun x=>decide (s=x))=true:=by
 have h:=joQ h
 unfold opAll at h;simp only[List.mem_cons,List.not_mem_nil,or_false] at h
 rcases h with h | h | h | h | h | h | h | h | h | h | h | h
 ·exact absurd h h1
 ·exact absurd h h2
 all_goals (rw[h];decide)
theorem jgt (u:Ut) (hu:WfU u):∀ f:Nt,wfN f->bE u f
 | .mk k n s kids,hw=>by
  unfold wfN at hw
  obtain⟨ha,hwk,-⟩ := hw
  have hm:=jlB ha
  have hk:∀ f ∈ kids,bE u f:=fun f hf=>jgt u hu f (jht hwk hf)
  have hsq:=fun at' => cZ (u:=u) kids at' hk
  have hss:=jhc kids
  unfold bE
  show (∀ at':Int,(gT (kQ u) k n s (qJ (kQ u) kids) at').length<=3+yE kids) /\ ∀ l:List Ic,l.length+(3+yE kids)<=1000000->nJ _ [dH u] l _ fun o l' r=>o=[dH u]/\l'=l++gT (kQ u) k n s (qJ (kQ u) kids) l.length/\r = .tup []
  have lf:∀ (hc:k=12 ∨ k=13 ∨ k=14 ∨ k=15/\(builtL.any fun x=>decide (s=x))=true ∨ k=1 ∨ k=4 ∨ k=5 ∨ k=6 ∨ k=16 ∨ k=7 ∨ k=10 ∨ k=8 ∨ k=9),(∀ at',gT (kQ u) k n s (qJ (kQ u) kids) at'=nA (qJ (kQ u) kids) at'++[jqD (kQ u) k n s])->(∀ at':Int,(gT (kQ u) k n s (qJ (kQ u) kids) at').length<=3+yE kids) /\ ∀ l:List Ic,l.length+(3+yE kids)<=1000000->nJ 19 [dH u] l [.box 0 0,.agg (ntA (.mk k n s kids))] fun o l' r=>o=[dH u]/\l'=l++gT (kQ u) k n s (qJ (kQ u) kids) l.length/\r = .tup []:=fun hc he=>by
   refine⟨fun at' => ?_,fun l hl => ?_⟩
   ·have:=hsq at'
    rw[he,List.length_append,List.length_singleton];omega
   ·have h1:=jkE u hu k n s kids hm hk hc l (by omega)
    rw[List.append_assoc,<- he] at h1;refine bG u k n s kids l _ _ (.inr (.inr (.inr (.inr (.inr ⟨?_,rfl⟩))))) h1;omega
  unfold arN at ha
  by_cases h11:k=11
  ·subst h11
   have he:∀ at',gT (kQ u) 11 n s (qJ (kQ u) kids) at'=nA (qJ (kQ u) kids) at':=fun at' => List.append_nil _
   refine⟨fun at' => by rw[he];have:=hsq at';omega,fun l hl => ?_⟩;rw[he];exact bG u 11 n s kids l _ _ (.inr (.inr (.inr (.inr (.inl ⟨rfl,rfl⟩))))) (lC u 11 n s kids hm hk l (by omega))
  rw[if_neg h11] at ha
  by_cases h0:k=12 ∨ k=13 ∨ k=14 ∨ k=5 ∨ k=6 ∨ k=7 ∨ k=10
  ·rw[if_pos h0,decide_eq_true_eq] at ha
   obtain rfl:=List.eq_nil_of_length_eq_zero ha
   rcases h0 with rfl | rfl | rfl | rfl | rfl | rfl | rfl
   all_goals exact lf (by omega) fun at' => rfl
  rw[if_neg h0] at ha
  by_cases h15:k=15
  ·rw[if_pos h15,Bool.and_eq_true,decide_eq_true_eq] at ha;subst h15
   obtain⟨ha,hb⟩ := ha
   obtain rfl:=List.eq_nil_of_length_eq_zero ha
   exact lf (.inr (.inr (.inr (.inl ⟨rfl,hb⟩)))) fun at' => rfl
  rw[if_neg h15] at ha
  by_cases h1:k=16 ∨ k=1 ∨ k=9
  ·rcases h1 with rfl | rfl | rfl
   all_goals exact lf (by omega) fun at' => rfl
  rw[if_neg h1] at ha
  by_cases h17:k=17
  ·subst h17
   have he:∀ at',gT (kQ u) 17 n s (qJ (kQ u) kids) at'=nA (qJ (kQ u) kids) at'++(if s=pMinus then [(10,0)] else [(14,0)]):=fun at' => rfl
   refine⟨fun at' => ?_,fun l hl => ?_⟩
   ·have:=hsq at'
    rw[he,List.length_append]
    split <;> simp only[List.length_singleton] <;> omega
   ·rw[he];refine bG u 17 n s kids l _ _ (.inl ⟨rfl,rfl⟩) ?_
    have h2:=jfB u n s kids hm hk l (by omega)
    rw[List.append_assoc] at h2;exact h2
  rw[if_neg h17] at ha
  by_cases h18:k=18
  ·rw[if_pos h18,Bool.and_eq_true,decide_eq_true_eq] at ha;subst h18
   obtain⟨ha,hb⟩ := ha
   have k0:=hk (kids[0]'(by omega)) (List.getElem_mem _)
   have k1:=hk (kids[1]'(by omega)) (List.getElem_mem _)
   have hsum:kH (kids[0]'(by omega))+kH (kids[1]'(by omega))<=(kids.map kH).sum:=by
    match kids,ha with
    | [a,b],_=>simp
   have g0:(qJ (kQ u) kids).getD 0 noI=qI (kQ u) (kids[0]'(by omega)):=by
    match kids,ha with
    | [a,b],_=>rfl
   have g1:(qJ (kQ u) kids).getD 1 noI=qI (kQ u) (kids[1]'(by omega)):=by
    match kids,ha with
    | [a,b],_=>rfl
   by_cases hA:s=kZ
   ·subst hA
    have he:∀ at',gT (kQ u) 18 n kZ (qJ (kQ u) kids) at'=brC (qI (kQ u) (kids[0]'(by omega))) (qI (kQ u) (kids[1]'(by omega))) (fun _=>[(1,0)]) at':=fun at' => by
     rw[<- g0,<- g1];rfl
    refine⟨fun at' => ?_,fun l hl => ?_⟩
    ·have:=jah k0.1 k1.1 (fun _=>Nat.le_refl 1) (n:=fun _=>[((1:Int),(0:Int))]) at'
     rw[he];omega
    ·rw[he];exact bG u 18 n kZ kids l _ _ (.inr (.inl ⟨rfl,rfl⟩)) (joS u n kids ha hk l (by omega))
   by_cases hO:s=pOr
   ·subst hO
    have he:∀ at',gT (kQ u) 18 n pOr (qJ (kQ u) kids) at'=brC (qI (kQ u) (kids[0]'(by omega))) (fun _=>[(1,1)]) (qI (kQ u) (kids[1]'(by omega))) at':=fun at' => by
     rw[<- g0,<- g1];rfl
    refine⟨fun at' => ?_,fun l hl => ?_⟩
    ·have:=jah k0.1 (fun _=>Nat.le_refl 1) k1.1 (y:=fun _=>[((1:Int),(1:Int))]) at'
     rw[he];omega
    ·rw[he];exact bG u 18 n pOr kids l _ _ (.inr (.inl ⟨rfl,rfl⟩)) (jri u n kids ha hk l (by omega))
   have he:∀ at',gT (kQ u) 18 n s (qJ (kQ u) kids) at'=nA (qJ (kQ u) kids) at'++opC s:=fun at' => by
    unfold gT;rw[if_neg (by decide),if_neg (by decide),if_neg (by decide),if_neg (by decide),if_neg (by decide),if_neg (by decide),if_neg (by decide),if_neg (by decide),if_neg (by decide),if_neg (fun h=>hA h.2),if_neg (fun h=>hO h.2),if_pos rfl]
   refine⟨fun at' => ?_,fun l hl => ?_⟩
   ·have:=hsq at'
    have:=jmU s
    rw[he,List.length_append];omega
   ·rw[he];refine bG u 18 n s kids l _ _ (.inr (.inl ⟨rfl,rfl⟩)) ?_
    have h2:=jrh u n s (jkR hb hA hO) kids hm hk l (by omega)
    rw[List.append_assoc] at h2;exact h2
  rw[if_neg h18] at ha
  by_cases h8:k=8 ∨ k=3
  ·rw[if_pos h8,decide_eq_true_eq] at ha
   rcases h8 with rfl | rfl
   ·exact lf (by omega) fun at' => rfl
   ·have k0:=hk (kids[0]'(by omega)) (List.getElem_mem _)
    have k1:=hk (kids[1]'(by omega)) (List.getElem_mem _)
    have hsum:kH (kids[0]'(by omega))+kH (kids[1]'(by omega))<=(kids.map kH).sum:=by
     match kids,ha with
     | [a,b],_=>simp
    have he:∀ at',gT (kQ u) 3 n s (qJ (kQ u) kids) at'=whC (qI (kQ u) (kids[0]'(by omega))) (qI (kQ u) (kids[1]'(by omega))) at':=fun at' => by
     match kids,ha with
     | [a,b],_=>rfl
    refine⟨fun at' => ?_,fun l hl => ?_⟩
    ·rw[he];unfold whC
     have q0:=k0.1 at'
     have q1:=k1.1 (at'+(qI (kQ u) (kids[0]'(by omega)) at').length+1)
     simp only[List.length_append,List.length_cons,List.length_nil];omega
    ·rw[he];exact bG u 3 n s kids l _ _ (.inr (.inr (.inr (.inl ⟨rfl,rfl⟩)))) (jkK u n s kids ha hk l (by omega))
  rw[if_neg h8] at ha
  by_cases h2:k=2 ∨ k=4
  ·rw[if_pos h2,decide_eq_true_eq] at ha
   rcases h2 with rfl | rfl
   ·have k0:=hk (kids[0]'(by omega)) (List.getElem_mem _)
    have k1:=hk (kids[1]'(by omega)) (List.getElem_mem _)
    have k2:=hk (kids[2]'(by omega)) (List.getElem_mem _)
    have hsum:kH (kids[0]'(by omega))+kH (kids[1]'(by omega))+kH (kids[2]'(by omega))<=(kids.map kH).sum:=by
     match kids,ha with
     | [a,b,c],_=>simp;omega
    have he:∀ at',gT (kQ u) 2 n s (qJ (kQ u) kids) at'=brC (qI (kQ u) (kids[0]'(by omega))) (qI (kQ u) (kids[1]'(by omega))) (qI (kQ u) (kids[2]'(by omega))) at':=fun at' => by
     match kids,ha with
     | [a,b,c],_=>rfl
    refine⟨fun at' => ?_,fun l hl => ?_⟩
    ·have:=jah k0.1 k1.1 k2.1 at'
     rw[he];omega
    ·rw[he];exact bG u 2 n s kids l _ _ (.inr (.inr (.inl ⟨rfl,rfl⟩))) (jfk u n s kids ha hk l (by omega))
   ·exact lf (by omega) fun at' => rfl
  rw[if_neg h2] at ha
  cases ha
theorem sN (e:Nat->Int) (du vo:Int):pgE e du vo=enL e++[intA du,intA vo]:=rfl
theorem jp1 (e:Nat->Int) (j:Nat) (v:Int):(enL e).set j (intA v)=enL fun i=>if i=j then v else e i:=by
 unfold enL
 apply List.ext_getElem (by simp)
 intro i h1 h2;rw[List.getElem_set,List.getElem_map,List.getElem_map,List.getElem_range]
 by_cases h:j=i
 ·simp only[if_pos h,if_pos h.symm]
 ·simp only[if_neg h,if_neg (fun q:i=j=>h q.symm)]
theorem jpV (c0:A) (e:Nat->Int) (du vo v:Int) (j:Nat) (hj:j<40) {K:List A->Prop} (h:K (c0 :: pgE (fun i=>if i=j then v else e i) du vo)):aZ (c0 :: pgE e du vo) (1+j*1) (intA v) K:=by
 have hl:(enL e).length=40:=by unfold enL;simp
 refine rB ?_ ?_
 ·rw[sN,List.length_cons,List.length_append,hl];omega
 ·rw[show 1+j*1=j+1 by omega,List.set_cons_succ,sN,List.set_append_left _ _ (by rw[hl];exact hj),jp1];exact h
theorem jbs (c0:A) (e e':Nat->Int) (du vo v:Int) (j:Nat) (hj:j<40) (he:∀ i,i<40->(if i=j then v else e i)=e' i) {K:List A->Prop} (h:K (c0 :: pgE e' du vo)):aZ (c0 :: pgE e du vo) (1+j*1) (intA v) K:=by
 refine jpV c0 e du vo v j hj ?_
 have q:pgE (fun i=>if i=j then v else e i) du vo=pgE e' du vo:=by
  rw[sN,sN]
  congr 1
  unfold enL
  exact List.map_congr_left fun i hi=>by simp only[he i (List.mem_range.1 hi)]
 rw[q];exact h
def e1 (j:Nat):Nat->Int:=fun i=>if i<j then -1 else 0
theorem jpD {e e':Nat->Int} (h:∀ i,i<40->e i=e' i) (du vo:Int):pgE e du vo=pgE e' du vo:=by
 rw[sN,sN]
 congr 1
 unfold enL
 exact List.map_congr_left fun i hi=>by rw[h i (List.mem_range.1 hi)]
theorem pF (u:Ut) (hu:WfU u) (hz:uI u.on<=900000):Spec Tryz.prog 7 [] [.agg (utA u)] fun _ r=>r=jhJ u:=by
 have hnode:=jgt u hu
 have hdv:=hu.du
 have hol:=hu.ol
 refine eN juP jT 0 Tryz.func7 rfl ?_;intro _;conv=>whnf
 refine jO [1,2,4] ?_;conv=>whnf
 refine qA (fun j:Nat=>[(19,.v (.int .i64 j))]) (fun j=>[utA u,jdI,.v (.slice none 0 0) :: pgE (e1 j) u.du.length u.vo.length]) (fun _=>[]) (fun j=>j<=40) (fun j=>40-j) 0 ?_ (by omega) ?_
 ·repeat' constructor
 intro j hj;conv=>whnf
 rcases Nat.lt_or_ge j 40 with hlt | hge
 ·rw[j8 (show (j:Int)<40 by omega)];conv=>whnf
  refine⟨show (0:Int)<=(j:Int)/\(j:Int)<((40:Nat):Int) from ⟨by omega,by omega⟩,?_⟩;conv=>whnf
  refine jbs (.v (.slice none 0 0)) (e1 j) (e1 (j+1)) u.du.length u.vo.length (-1) j hlt (fun i hi => ?_) ?_
  ·unfold e1
   by_cases h:i=j
   ·rw[if_pos h,if_pos (by omega)]
   ·rw[if_neg h]
    by_cases h2:i<j
    ·rw[if_pos h2,if_pos (by omega)]
    ·rw[if_neg h2,if_neg (by omega)]
  conv=>whnf
  refine jN j (by omega) ?_;conv=>whnf
  refine⟨j+1,jS [] ?_,show j+1<=40 by omega,show 40-(j+1)<40-j by omega⟩;conv=>whnf
  repeat' constructor
 rw[jW (show ¬ (j:Int)<40 by omega)]
 obtain rfl:j=40:=by omega
 conv=>whnf
 refine vE 56 2 [] [(3,3)] ?_;conv=>whnf
 refine⟨trivial,?_⟩;conv=>whnf
 refine jO [1,2,4,6,30,31] ?_;conv=>whnf
 refine qA (fun x:Nat × List Ic × (Nat->Int)=>[(32,.v (.int .i64 x.1))]) (fun x=>[utA u,jdI,.v (.slice none 0 0) :: pgE x.2.2 u.du.length u.vo.length,dH u]) (fun x=>[.live 56 2 x.2.1.length (yH x.2.1)])
  (fun x=>x.1<=u.on.length/\hcL (kQ u) (u.on.drop x.1) x.2.1 x.2.2=je7 u/\x.2.1.length+uI (u.on.drop x.1)<=900000/\(∀ i ∈ x.2.1,jlm i) /\ ∀ i,x.2.2 i<x.2.1.length) (fun x=>u.on.length-x.1) (0,[],noE) ?_ ⟨Nat.zero_le _,rfl,by simpa using hz,(fun i hi=>by cases hi),fun i=>show (-1:Int)<0 by decide⟩ ?_
 ·repeat' constructor
  show Row.live _ 2 0 []=Row.live _ 2 0 (yH [])
  rw[jfV]
 rintro⟨j,l,e⟩ ⟨g1,g2,g3,g4,g5⟩
 simp only at g1 g2 g3 g4 g5
 conv=>whnf
 rcases Nat.lt_or_ge j u.on.length with hlt | hge
 ·have hrow:jJ 5 j (dP u.on)=hnA u.on[j]:=jdj u.on j hlt
  have hon:=hu.on _ (List.getElem_mem hlt)
  rw[List.drop_eq_getElem_cons hlt] at g2 g3;generalize u.on[j]=hb at hrow hon g2 g3
  obtain⟨h,b⟩ := hb
  obtain⟨o1,o2,o3⟩ := hon
  have hnd:=hnode b o3
  unfold hcL at g2;unfold uI at g3
  simp only at o1 o2 g2 g3
  unfold hnA at hrow
  simp only at hrow
  rw[j8 (show (j:Int)<(u.on.length:Int) by omega)];conv=>whnf
  refine⟨show (0:Int)<=(j:Int)/\(j:Int)<(u.on.length:Nat) from ⟨by omega,by omega⟩,?_⟩;conv=>whnf
  (generalize hrq:jJ _ _ (dP u.on)=rq;obtain rfl:rq=intA h :: ntA b:=hrq.symm.trans (hrow);clear hrq;conv=>whnf)
  refine⟨⟨o1,show h<((40:Nat):Int) by omega⟩,?_⟩;conv=>whnf
  refine jbs (.v (.slice none 0 0)) e (fun i=>if i=h.toNat then (l.length:Int) else e i) u.du.length u.vo.length l.length h.toNat (by omega) (fun i hi=>rfl) ?_;conv=>whnf
  refine j7 3 0 1 [] (hnd.2 l (by omega)) ?_;rintro o n' cs' r ⟨l2,rfl,rfl,ho,hl2,rfl⟩;cases ho
  have hl2:l2=l++qI (kQ u) b l.length:=hl2
  have hsz:(qI (kQ u) b l.length).length<=kH b:=hnd.1 l.length
  have hl2':l2.length<=l.length+kH b:=by rw[hl2,List.length_append];omega
  conv=>whnf
  have hem:=vY u l2 23 0 (by omega)
  refine j7 3 1 2 [] hem ?_;rintro o n' cs' r ⟨l3,rfl,rfl,ho,hl3,rfl⟩;cases ho;conv=>whnf
  refine jN j (by omega) ?_;conv=>whnf
  refine⟨(j+1,l3,fun i=>if i=h.toNat then (l.length:Int) else e i),jS [2] ?_,⟨show j+1<=u.on.length by omega,?_,?_,?_,?_⟩,show u.on.length-(j+1)<u.on.length-j by omega⟩
  ·conv=>whnf
   repeat' constructor
  ·rw[hl3,hl2];exact g2
  ·show l3.length+uI (u.on.drop (j+1))<=900000
   rw[hl3,List.length_append,List.length_singleton];omega
  ·intro i hi
   simp only at hi
   rw[hl3,hl2] at hi
   rcases List.mem_append.1 hi with hi | hi
   ·rcases List.mem_append.1 hi with hi | hi
    ·exact g4 i hi
    ·exact jfA (kQ u) b _ (by omega) i hi
   ·rw[List.mem_singleton.1 hi];exact⟨by simp,fun h=>by simp at h⟩
  ·intro i
   show (if i=h.toNat then (l.length:Int) else e i)<(l3.length:Int)
   have g5i:=g5 i
   have:l3.length=l.length+(qI (kQ u) b l.length).length+1:=by rw[hl3,hl2,List.length_append,List.length_append,List.length_singleton]
   split <;> omega
 rw[jW (show ¬ (j:Int)<(u.on.length:Int) by omega)]
 have hcm:hcL (kQ u) [] l e=je7 u:=by rw[<- g2,List.drop_of_length_le hge]
 have hcl:l.length<=900000:=by omega
 unfold hcL at hcm;conv=>whnf
 unfold jhJ jfz;rw[<- hcm]
 simp only
 by_cases hbig:400<l.length
 ·rw[j8 (show (400:Int)<(l.length:Int) by omega)];conv=>whnf
  rw[if_pos hbig,if_neg (by decide)];rfl
 rw[jW (show ¬ (400:Int)<(l.length:Int) by omega)];rw[if_neg hbig];conv=>whnf
 refine pX [0] ?_;conv=>whnf
 refine jO [2,4,63] ?_;conv=>whnf
 obtain⟨E,hE⟩ : ∃ E,jcB l e 0 40=E:=⟨_,rfl⟩
 rw[hE];refine qA (fun j:Nat=>[(64,.v (.int .i64 j))]) (fun _=>[utA u,jdI,pgL l e u.du.length u.vo.length,utA u++[.sl 2 l.length (yH l)]]) (fun _=>[]) (fun j=>j<=40/\jcB l e j (40-j)=E) (fun j=>40-j) 0 ?_ ⟨Nat.zero_le _,hE⟩ ?_
 ·repeat' constructor
  done
 clear hE hge g1 g2 g3 hcm;clear j;rintro j ⟨hj,hE⟩
 have hE:jcB l e j (40-j)=E:=hE
 conv=>whnf
 rcases Nat.lt_or_ge j 40 with hlt | hge
 ·rw[j8 (show (j:Int)<40 by omega)];rw[show 40-j=(40-(j+1))+1 by omega] at hE;unfold jcB at hE
  have hfo:=tK l e u.du.length u.vo.length (e j) (by omega) (by omega) (by omega) (fun i hi=>(g4 i hi).2) (fun i hi=>(g4 i hi).1) (g5 j)
  conv=>whnf
  refine⟨⟨show (0:Int)<=(j:Int) by omega,show (j:Int)<((40:Nat):Int) by omega⟩,intA (e j),jhL e j hlt,?_⟩;conv=>whnf
  refine xV [] hfo ?_;rintro r rfl;generalize nS l (e j)=f at hE;conv=>whnf
  by_cases h0:f=0
  ·rw[j8 h0];rw[if_neg (fun h=>h h0)] at hE;conv=>whnf
   refine jN j (by omega) ?_;conv=>whnf
   refine⟨j+1,jS [] ?_,⟨show j+1<=40 by omega,hE⟩,show 40-(j+1)<40-j by omega⟩;conv=>whnf
   repeat' constructor
  rw[jW h0];rw[if_pos h0] at hE;conv=>whnf
  rw[<- hE,if_neg h0];rfl
 obtain rfl:j=40:=by omega
 rw[jW (show ¬ ((40:Nat):Int)<40 by omega)]
 obtain rfl:0=E:=hE
 conv=>whnf
 rw[if_pos rfl];rfl
theorem jjB {l:List ByteArray} {s:ByteArray} (h:s ∈ l):(l.any fun x=>decide (s=x))=true:=List.any_eq_true.2 ⟨s,h,j8 rfl⟩
theorem jil {s:ByteArray} (h:s ∈ opL ∨ s ∈ bolL ∨ s ∈ cmpL):(opAll.any fun x=>decide (s=x))=true:=by
 apply jjB
 unfold opAll
 rcases h with h | h | h
 ·unfold opL at h;simp only[List.mem_cons,List.not_mem_nil,or_false] at h ⊢
  rcases h with h | h | h | h <;> simp[h]
 ·unfold bolL at h;simp only[List.mem_cons,List.not_mem_nil,or_false] at h ⊢
  rcases h with h | h <;> simp[h]
 ·unfold cmpL at h;simp only[List.mem_cons,List.not_mem_nil,or_false] at h ⊢
  rcases h with h | h | h | h | h | h <;> simp[h]
theorem sz1 (k n:Int) (s:ByteArray) (f:Nt):kH (.mk k n s [f])=3+kH f:=rfl
theorem sz2 (k n:Int) (s:ByteArray) (f g:Nt):kH (.mk k n s [f,g])=3+(kH f+kH g):=rfl
theorem sz3 (k n:Int) (s:ByteArray) (f g h:Nt):kH (.mk k n s [f,g,h])=3+(kH f+(kH g+kH h)):=rfl
theorem sz0 (k n:Int) (s:ByteArray):kH (.mk k n s [])=3:=rfl
theorem jgF (d:Nat):2 ^ (d+1)=2*2 ^ d:=by rw[Nat.pow_succ,Nat.mul_comm]
theorem rL {d:Nat} {f:Nt} (h:EI d f):Wc true f/\kH f+3<=12*2 ^ d:=by
 have hp:=fun d:Nat=>Nat.one_le_two_pow (n:=d)
 induction h with
 | lit d n h=>exact⟨⟨wx0 rfl,rfl⟩,by rw[sz0];have:=hp d;omega⟩
 | var d s h=>exact⟨⟨wx0 rfl,rfl⟩,by rw[sz0];have:=hp d;omega⟩
 | nam d s h =>
  refine⟨⟨wx0 ?_,rfl⟩,by rw[sz0];have:=hp d;omega⟩
  show (decide (0=0) && _)=true
  rw[jjB h];rfl
 | drw d f h ih=>exact⟨⟨wx1 rfl (by decide) ih.1,rfl⟩,by rw[sz1,jgF];have:=hp d;omega⟩
 | neg d f h ih=>exact⟨⟨wx1 (jlC (.inl rfl)) (by decide) ih.1,rfl⟩,by rw[sz1,jgF];have:=hp d;omega⟩
 | bin d s f g hs h1 h2 i1 i2=>exact⟨⟨wx2 (jad (jil (.inl hs))) (by decide) i1.1 i2.1,rfl⟩,by rw[sz2,jgF];have:=hp d;omega⟩
theorem jqZ {d:Nat} {f:Nt} (h:EB d f):Wc true f/\kH f+3<=24*2 ^ d:=by
 have hp:=fun d:Nat=>Nat.one_le_two_pow (n:=d)
 induction h with
 | lit d n h=>exact⟨⟨wx0 rfl,rfl⟩,by rw[sz0];have:=hp d;omega⟩
 | nt d f h ih=>exact⟨⟨wx1 (jlC (.inr rfl)) (by decide) ih.1,rfl⟩,by rw[sz1,jgF];have:=hp d;omega⟩
 | bin d s f g hs h1 h2 i1 i2=>exact⟨⟨wx2 (jad (jil (.inr (.inl hs)))) (by decide) i1.1 i2.1,rfl⟩,by rw[sz2,jgF];have:=hp d;omega⟩
 | cmp d s f g hs h1 h2 =>
  obtain⟨w1,s1⟩ := rL h1
  obtain⟨w2,s2⟩ := rL h2
  have hle:2 ^ (d-1)<=2 ^ d:=Nat.pow_le_pow_right (by decide) (by omega)
  exact⟨⟨wx2 (jad (jil (.inr (.inr hs)))) (by decide) w1 w2,rfl⟩,by rw[sz2];omega⟩
theorem jk3 (B:Nat):∀ l:List Nt,(∀ f ∈ l,kH f<=B)->yE l<=l.length*B
 | [],_=>Nat.zero_le _
 | f :: l,h=>by
  have h1:=h f List.mem_cons_self
  have h2:=jk3 B l fun g hg=>h g (List.mem_cons_of_mem _ hg)
  show kH f+yE l<=(l.length+1)*B
  rw[Nat.succ_mul];omega
def sB:Nat->Nat
 | 0=>54
 | d+1=>102+4*sB d
theorem tX:∀ d,54<=sB d
 | 0=>Nat.le_refl _
 | d+1=>by unfold sB;omega
theorem jf2 {l:List Nt} {m B:Nat} (hm:l.length<=m) (h3:m<=3000) (h:∀ s ∈ l,Wc false s/\kH s<=B):Wc false (qD l)/\kH (qD l)<=3+m*B:=by
 refine⟨wbk (by omega) fun f hf=>(h f hf).1,?_⟩
 ·have h1:=jk3 B l fun f hf=>(h f hf).2
  have h2:l.length*B<=m*B:=Nat.mul_le_mul_right _ hm
  show 3+yE l<=_
  omega
theorem juA {d:Nat} {f:Nt} (h:ES d f):Wc false f/\kH f<=sB d:=by
 induction h with
 | asg d e s f hs h he =>
  obtain⟨w,z⟩ := rL h
  have hle:2 ^ e<=2 ^ 2:=Nat.pow_le_pow_right (by decide) he
  have:=tX d
  exact⟨⟨wx1 rfl (by decide) w,rfl⟩,by rw[sz1];omega⟩
 | snd d n f g h hn h1 h2 h3 =>
  obtain⟨w1,z1⟩ := rL h1
  obtain⟨w2,z2⟩ := rL h2
  obtain⟨w3,z3⟩ := rL h3
  have:=tX d
  exact⟨⟨wx3 rfl (by decide) w1 w2 w3,rfl⟩,by rw[sz3];omega⟩
 | tim d n hn=>exact⟨⟨wx0 rfl,rfl⟩,by rw[sz0];have:=tX d;omega⟩
 | can d n hn=>exact⟨⟨wx0 rfl,rfl⟩,by rw[sz0];have:=tX d;omega⟩
 | syn d=>exact⟨⟨wx0 rfl,rfl⟩,by rw[sz0];have:=tX d;omega⟩
 | rep d f g h1 h2 =>
  obtain⟨w1,z1⟩ := rL h1
  obtain⟨w2,z2⟩ := rL h2
  have:=tX d
  exact⟨⟨wx2 rfl (by decide) w1 w2,rfl⟩,by rw[sz2];omega⟩
 | fai d f h1 =>
  obtain⟨w1,z1⟩ := rL h1
  have:=tX d
  exact⟨⟨wx1 rfl (by decide) w1,rfl⟩,by rw[sz1];omega⟩
 | stp d=>exact⟨⟨wx0 rfl,rfl⟩,by rw[sz0];have:=tX d;omega⟩
 | whi d c l h1 h2 h3 ih =>
  obtain⟨w1,z1⟩ := jqZ h1
  obtain⟨w2,z2⟩ := jf2 h2 (by decide) ih
  have e:sB (d+1)=102+4*sB d:=rfl
  exact⟨wi2 w1 w2,by rw[sz2,e];omega⟩
 | iff d c l m h1 h2 h3 h4 h5 ih1 ih2 =>
  obtain⟨w1,z1⟩ := jqZ h1
  obtain⟨w2,z2⟩ := jf2 h2 (by decide) ih1
  obtain⟨w3,z3⟩ := jf2 h4 (by decide) ih2
  have e:sB (d+1)=102+4*sB d:=rfl
  exact⟨wi3 w1 w2 w3,by rw[sz3,e];omega⟩
theorem jnU (B:Nat):∀ l:List (Int × Nt),(∀ h ∈ l,kH h.2<=B)->uI l<=l.length*(B+1)
 | [],_=>Nat.zero_le _
 | x :: l,h=>by
  have h1:=h x List.mem_cons_self
  have h2:=jnU B l fun g hg=>h g (List.mem_cons_of_mem _ hg)
  show kH x.2+1+uI l<=(l.length+1)*(B+1)
  rw[Nat.succ_mul];omega
theorem jty {u:Ut} (h:GU u):WfU u/\uI u.on<=900000 /\ ∀ x ∈ u.on,kH x.2<=5000:=by
 obtain⟨h1,h2,h3,h4,h5⟩ := h
 have hb:∀ x ∈ u.on,Wc false x.2/\kH x.2<=5000:=fun x hx=>by
  obtain⟨_,_,k,hk,hl,hs⟩ := h3 x hx
  rw[hk]
  have:=jf2 (B:=sB 2) hl (by decide) fun s hs' => juA (hs s hs')
  exact⟨this.1,by have:=this.2;have e:sB 2=1374:=rfl;omega⟩
 refine⟨⟨by rw[h1,h2];decide,fun x hx=>⟨(h3 x hx).1,(h3 x hx).2.1,(hb x hx).1.1⟩,fun x hx=>(hb x hx).1.2,h4.imp fun h=>by omega,by omega⟩,?_,fun x hx=>(hb x hx).2⟩
 have:=jnU 5000 u.on fun x hx=>(hb x hx).2
 have h6:u.on.length*(5000+1)<=4*(5000+1):=Nat.mul_le_mul_right _ (by omega)
 omega
theorem jgl (v l k:Int) {K:A->Prop} {n:Prop} (h:match (shL v l).find? (fun p=>decide (k=p.1)) with | some p=>K (shA p.2) | none=>n):gM false (uU (shP v l)) (oY (shP v l)) (.int .i64 k) K n:=by
 refine kF _ _ ?_
 have e:wJ (shP v l) k=((shL v l).find? fun p=>decide (k=p.1)).map fun p=>shA p.2:=by
  unfold wJ shP;rw[List.find?_map]
  show ((((shL v l).find? fun p=>decide (k=p.1)).map _).map _)=_
  cases (shL v l).find? fun p=>decide (k=p.1) <;> rfl
 rw[e]
 revert h
 cases (shL v l).find? fun p=>decide (k=p.1) <;> exact id
theorem jrY {v l:Int} {i:Ic} (h:okI v l i=true):(1<=i.1/\i.1<=23)/\(i.1=15 ∨ i.1=16->0<=i.2):=by
 unfold okI at h
 rcases sM ((shL v l).find? fun p=>decide (i.1=p.1)) with hf | ⟨p,hf⟩
 ·rw[hf] at h;cases h
 rw[hf] at h
 have hk:=List.find?_some hf
 have hm:=List.mem_of_find?_eq_some hf
 simp only[decide_eq_true_eq] at hk;simp only[Bool.and_eq_true,decide_eq_true_eq] at h
 obtain⟨a,b⟩ := i
 simp only at hk h ⊢
 subst hk;unfold shL at hm;simp only[List.mem_cons,List.not_mem_nil,or_false] at hm
 rcases hm with rfl | rfl | rfl | rfl | rfl | rfl | rfl | rfl | rfl | rfl | rfl | rfl | rfl | rfl | rfl | rfl | rfl | rfl | rfl | rfl | rfl | rfl | rfl
 all_goals (simp only at h ⊢;omega)
theorem jf8 (p:Int->Bool) (e:Nat->Int):∀ (m j:Nat),o5 p e j m=true -> ∀ i,j<=i->i<j+m->p (e i)=true
 | 0,j,h,i,h1,h2=>by omega
 | m+1,j,h,i,h1,h2=>by
  unfold o5 at h;rw[Bool.and_eq_true] at h
  by_cases q:i=j
  ·rw[q];exact h.1
  ·exact jf8 p e m (j+1) h.2 i (by omega) (by omega)
theorem jhp (code:List Ic) (e:Nat->Int) (du vo:Int) (hl:code.length<=1000000):Spec Tryz.prog 18 [] [pgA code e du vo] fun _ r=>r=intA (jqe code e du vo):=by
 obtain⟨R,hR⟩ : ∃ R,jqe code e du vo=R:=⟨_,rfl⟩
 rw[hR];unfold jqe at hR;refine eN jH jT 0 Tryz.func18 rfl ?_;intro _;conv=>whnf
 by_cases h0:400<code.length
 ·rw[j8 (show (400:Int)<(code.length:Int) by omega)];rw[if_pos h0] at hR;conv=>whnf
  rw[<- hR];rfl
 rw[jW (show ¬ (400:Int)<(code.length:Int) by omega)];rw[if_neg h0] at hR;conv=>whnf
 by_cases h1:du<0
 ·rw[j8 h1];rw[if_pos (.inl h1)] at hR;conv=>whnf
  rw[<- hR];rfl
 rw[jW h1];conv=>whnf
 by_cases h2:vo<0
 ·rw[j8 h2];rw[if_pos (.inr (.inl h2))] at hR;conv=>whnf
  rw[<- hR];rfl
 rw[jW h2];conv=>whnf
 by_cases h3:16<du
 ·rw[j8 h3];rw[if_pos (.inr (.inr (.inl h3)))] at hR;conv=>whnf
  rw[<- hR];rfl
 rw[jW h3];conv=>whnf
 refine⟨jV (by omega),?_⟩;conv=>whnf
 by_cases h4:16-du<vo
 ·rw[j8 h4];rw[if_pos (.inr (.inr (.inr h4)))] at hR;conv=>whnf
  rw[<- hR];rfl
 rw[jW h4];rw[if_neg (by omega)] at hR
 have hsh:=tZ code e du vo (by omega) (by omega) hl
 conv=>whnf
 refine xV [] hsh ?_;rintro r rfl;conv=>whnf
 refine jO [1,3,42,43] ?_;conv=>whnf
 refine qA (fun j:Nat=>[(44,.v (.int .i64 j))]) (fun _=>[pgL code e du vo]) (fun _=>[]) (fun j=>j<=code.length/\(code.take j).all (okI (du+vo-1) (code.length-1))=true) (fun j=>code.length-j) 0 ?_ ⟨Nat.zero_le _,by rw[List.take_zero];rfl⟩ ?_
 ·repeat' constructor
 rintro j ⟨hj,hall⟩;conv=>whnf
 rcases Nat.lt_or_ge j code.length with hlt | hge
 ·have hrow:jJ 2 j (yH code)=icA code[j]:=sT code j hlt
  have htk:(code.take (j+1)).all (okI (du+vo-1) (code.length-1))=okI (du+vo-1) (code.length-1) code[j]:=by
   rw[List.take_succ_eq_append_getElem hlt,List.all_append,hall,Bool.true_and,List.all_cons,List.all_nil,Bool.and_true]
  have hcn:okI (du+vo-1) (code.length-1) code[j]=false->R=12:=fun hb=>by
   have h5:code.all (okI (du+vo-1) (code.length-1))=false:=by
    rw[List.all_eq_false];exact⟨code[j],List.getElem_mem hlt,by rw[hb];simp⟩
   rw[<- hR,if_pos h5]
  unfold okI at htk hcn;generalize code[j]=i at hrow htk hcn
  obtain⟨op,n⟩ := i
  unfold icA at hrow
  simp only at hrow
  rw[j8 (show (j:Int)<(code.length:Int) by omega)];conv=>whnf
  refine⟨show (0:Int)<=(j:Int)/\(j:Int)<(code.length:Nat) from ⟨by omega,by omega⟩,?_⟩;conv=>whnf
  (generalize hrq:jJ _ _ (yH code)=rq;obtain rfl:rq=[intA op,intA n]:=hrq.symm.trans (hrow);clear hrq;conv=>whnf)
  refine jgl _ _ _ ?_
  rcases sM ((shL (du+vo-1) (code.length-1)).find? fun p=>decide (op=p.1)) with hf | ⟨⟨pk,po,pu,plo,rO⟩,hf⟩
  ·rw[hf] at hcn ⊢
   have hcn:=hcn rfl
   conv=>whnf
   rw[hcn];rfl
  rw[hf] at htk hcn ⊢
  simp only at htk hcn
  conv=>whnf
  by_cases hlo:n<plo
  ·rw[j8 hlo]
   have hcn:=hcn (by rw[jW (by omega)];rfl)
   conv=>whnf
   rw[hcn];rfl
  rw[jW hlo];conv=>whnf
  by_cases hhi:rO<n
  ·rw[j8 hhi]
   have hcn:=hcn (by rw[jW (show ¬ n<=rO by omega),Bool.and_false])
   conv=>whnf
   rw[hcn];rfl
  rw[jW hhi];conv=>whnf
  refine jN j (by omega) ?_;conv=>whnf
  refine⟨j+1,jS [] ?_,⟨show j+1<=code.length by omega,htk.trans (by rw[j8 (show plo<=n by omega),j8 (show n<=rO by omega)];rfl)⟩,show code.length-(j+1)<code.length-j by omega⟩;conv=>whnf
  repeat' constructor
 rw[jW (show ¬ (j:Int)<(code.length:Int) by omega)]
 have hall2:code.all (okI (du+vo-1) (code.length-1))=true:=by
  have:=hall
  rw[List.take_of_length_le hge] at this;exact this
 rw[hall2,if_neg (by decide)] at hR
 have hops:=fun i hi=>jrY (List.all_eq_true.1 hall2 i hi)
 clear hall;conv=>whnf
 refine jO [1,73] ?_;conv=>whnf
 refine qA (fun j:Nat=>[(74,.v (.int .i64 j))]) (fun _=>[pgL code e du vo]) (fun _=>[]) (fun j=>j<=40/\o5 (lW code.length) e j (40-j)=o5 (lW code.length) e 0 40) (fun j=>40-j) 0 ?_ ⟨Nat.zero_le _,rfl⟩ ?_
 ·repeat' constructor
 clear hge hj j;rintro j ⟨hj,hall⟩;conv=>whnf
 rcases Nat.lt_or_ge j 40 with hlt | hge
 ·rw[j8 (show (j:Int)<40 by omega)]
  have hst:o5 (lW code.length) e j (40-j)=(lW code.length (e j) && o5 (lW code.length) e (j+1) (40-(j+1))):=by
   rw[show 40-j=(40-(j+1))+1 by omega];rfl
  have hall':o5 (lW code.length) e j (40-j)=o5 (lW code.length) e 0 40:=hall
  conv=>whnf
  refine⟨⟨show (0:Int)<=(j:Int) by omega,show (j:Int)<((40:Nat):Int) by omega⟩,intA (e j),jhL e j hlt,?_⟩;conv=>whnf
  by_cases hlo:e j < -1
  ·rw[j8 hlo];rw[if_pos (by rw[<- hall',hst];unfold lW;rw[jW (show ¬ -1<=e j by omega)];rfl)] at hR;conv=>whnf
   rw[<- hR];rfl
  rw[jW hlo];conv=>whnf
  by_cases hhi:(code.length:Int)<=e j
  ·rw[j8 hhi];rw[if_pos (by rw[<- hall',hst];unfold lW;rw[jW (show ¬ e j<code.length by omega),Bool.and_false];rfl)] at hR;conv=>whnf
   rw[<- hR];rfl
  rw[jW hhi];conv=>whnf
  refine jN j (by omega) ?_;conv=>whnf
  refine⟨j+1,jS [] ?_,⟨show j+1<=40 by omega,?_⟩,show 40-(j+1)<40-j by omega⟩
  ·conv=>whnf
   repeat' constructor
  ·show o5 (lW code.length) e (j+1) (40-(j+1))=_
   rw[<- hall',hst];unfold lW;rw[j8 (show -1<=e j by omega),j8 (show e j<code.length by omega)];rfl
 obtain rfl:j=40:=by omega
 have hall2:o5 (lW code.length) e 0 40=true:=by
  have:o5 (lW code.length) e 40 (40-40)=o5 (lW code.length) e 0 40:=hall
  rw[<- this];rfl
 rw[jW (show ¬ ((40:Nat):Int)<40 by omega)];rw[hall2,if_neg (by decide)] at hR
 have hent:=jf8 _ _ _ _ hall2
 clear hall hge hj;conv=>whnf
 refine jO [1,88] ?_;conv=>whnf
 refine qA (fun x:Nat × Int=>[(10,intA x.2),(89,.v (.int .i64 x.1))]) (fun _=>[pgL code e du vo]) (fun _=>[]) (fun x=>x.1<=40/\jqd code e x.1 (40-x.1) x.2=R) (fun x=>40-x.1) (0,0) ?_ ⟨Nat.zero_le _,hR⟩ ?_
 ·repeat' constructor
 rintro⟨j,q⟩ ⟨hj,hv⟩
 simp only at hj hv
 conv=>whnf
 rcases Nat.lt_or_ge j 40 with hlt | hge
 ·rw[j8 (show (j:Int)<40 by omega)];rw[show 40-j=(40-(j+1))+1 by omega] at hv;unfold jqd at hv
  have hq:=hent j (by omega) (by omega)
  unfold lW at hq;rw[Bool.and_eq_true,decide_eq_true_eq,decide_eq_true_eq] at hq
  have hfo:=tK code e du vo (e j) (by omega) (by omega) hl (fun i hi=>(hops i hi).2) (fun i hi=>(hops i hi).1) hq.2
  conv=>whnf
  refine⟨⟨show (0:Int)<=(j:Int) by omega,show (j:Int)<((40:Nat):Int) by omega⟩,intA (e j),jhL e j hlt,?_⟩;conv=>whnf
  refine xV [] hfo ?_;rintro r rfl;generalize nS code (e j)=f at hv;conv=>whnf
  by_cases h12:f=12
  ·rw[j8 h12];rw[if_pos h12] at hv;conv=>whnf
   rw[<- hv,<- h12];rfl
  rw[jW h12];rw[if_neg h12] at hv;conv=>whnf
  by_cases h13:f=13
  ·rw[j8 h13];rw[if_pos h13] at hv;conv=>whnf
   refine jN j (by omega) ?_;conv=>whnf
   refine⟨(j+1,13),jS [] ?_,⟨show j+1<=40 by omega,hv⟩,show 40-(j+1)<40-j by omega⟩;conv=>whnf
   repeat' constructor
   rw[h13]
  rw[jW h13];rw[if_neg h13] at hv;conv=>whnf
  refine jN j (by omega) ?_;conv=>whnf
  refine⟨(j+1,q),jS [] ?_,⟨show j+1<=40 by omega,hv⟩,show 40-(j+1)<40-j by omega⟩;conv=>whnf
  repeat' constructor
 obtain rfl:j=40:=by omega
 rw[jW (show ¬ ((40:Nat):Int)<40 by omega)];conv=>whnf
 rw[<- hv];rfl
theorem jlM (s:ByteArray) (hs:s.size<=1000000000) (u:Ut) (hp:mI s = .ok u) (hc:vV (toU u)=0):Spec Tryz.prog 8 [] [jY s] fun _ r=>r=jhJ u:=by
 have h1:=jir s hs
 rw[hp] at h1;unfold jn2 at h1
 simp only at h1
 obtain⟨hu,hz⟩ := jqb hp
 have h2:=jnY u hu
 rw[hc] at h2
 have h3:=pF u hu (by omega)
 unfold jhJ at h3 ⊢;refine eN jH jT 0 Tryz.func8 rfl ?_;intro _;conv=>whnf
 (refine xV [] h1 ?_;rintro r rfl;conv=>whnf)
 (refine xV [] h2 ?_;rintro r rfl;conv=>whnf)
 by_cases he:jfz u=0
 ·rw[if_pos he] at h3 ⊢
  (refine xV [] h3 ?_;rintro r rfl;conv=>whnf)
  rfl
 ·rw[if_neg he] at h3 ⊢
  (refine xV [] h3 ?_;rintro r rfl;conv=>whnf)
  rfl
def exS:ByteArray:=⟨#[100,117,114,97,98,108,101,32,120,59,32,111,110,32,115,116,97,114,116,32,123,32,120,32,61,32,49,32,43,32,50,59,32,125]⟩
def exX:ByteArray:=⟨#[120]⟩
def exU:Ut:=⟨[exX],[],[(0,.mk 11 0 eB [.mk 1 0 exX [.mk 18 0 wP [jtR 1,jtR 2]]])]⟩
def exI:List Ic:=[(1,1),(1,2),(6,0),(3,0),(23,0)]
def exE:Nat->Int:=fun j=>if j=0 then 0 else -1
theorem jrA:mI exS = .ok exU:=by kernel_rfl
theorem jp5:vV (toU exU)=0:=by kernel_rfl
theorem jp6:je7 exU=(exI,exE):=by kernel_rfl
theorem jp7:jfz exU=0:=by kernel_rfl
theorem jrB:jqe exI exE 1 0=0:=by kernel_rfl
theorem jmc:Spec Tryz.prog 8 [] [jY exS] fun _ r=>r = .tup [pgA exI exE 1 0,intA 0]:=by
 have h:=jlM exS (by decide) exU jrA jp5
 unfold jhJ at h;rw[jp7,jp6,if_pos rfl] at h;exact h
def e2 (j:Nat):Nat->Int:=fun i=>if 1<=i/\i<j then -1 else 0
theorem ji7:Spec Tryz.prog 6 [] [] fun _ r=>r=wY true:=by
 have h1:=jmc
 have h2:=jdl exI exE 1 0 (by decide)
 have h3:=jhp exI exE 1 0 (by decide)
 rw[jrB] at h3
 have hpe:pgE exE 1 0=pgE (e2 40) 1 0:=jpD (fun i hi=>by
  unfold exE e2
  by_cases h:i=0
  ·rw[if_pos h,if_neg (by omega)]
  ·rw[if_neg h,if_pos (by omega)]) 1 0
 have hpa:pgA exI exE 1 0=pgA exI (e2 40) 1 0:=by unfold pgA pgL;rw[hpe]
 rw[show [pgA exI exE 1 0,pgA exI exE 1 0]=[pgA exI exE 1 0,pgA exI (e2 40) 1 0] by rw[<- hpa]] at h2;clear hpe hpa;refine eN jH jT 0 Tryz.func6 rfl ?_;intro _;conv=>whnf
 (refine xV [] h1 ?_;rintro r rfl;conv=>whnf)
 refine pX [0] ?_;conv=>whnf
 refine jO [1,2,3] ?_;conv=>whnf
 refine qA (fun j:Nat=>[(4,.v (.int .i64 j))]) (fun j=>[pgL exI exE 1 0,pgL exI (e2 j) 1 0]) (fun _=>[]) (fun j=>1<=j/\j<=40) (fun j=>40-j) 1 ?_ ⟨by omega,by omega⟩ ?_
 ·repeat' constructor
  unfold yH;rfl
 rintro j ⟨hj1,hj⟩;conv=>whnf
 rcases Nat.lt_or_ge j 40 with hlt | hge
 ·rw[j8 (show (j:Int)<40 by omega)];conv=>whnf
  refine⟨show (0:Int)<=(j:Int)/\(j:Int)<((40:Nat):Int) from ⟨by omega,by omega⟩,?_⟩;conv=>whnf
  refine jbs (.sl 2 5 (yH exI)) (e2 j) (e2 (j+1)) 1 0 (-1) j hlt (fun i hi => ?_) ?_
  ·unfold e2
   by_cases h:i=j
   ·rw[if_pos h,if_pos (by omega)]
   ·rw[if_neg h]
    by_cases h2:1<=i/\i<j
    ·rw[if_pos h2,if_pos (by omega)]
    ·rw[if_neg h2,if_neg (by omega)]
  conv=>whnf
  refine jN j (by omega) ?_;conv=>whnf
  refine⟨j+1,jS [] ?_,⟨show 1<=j+1 by omega,show j+1<=40 by omega⟩,show 40-(j+1)<40-j by omega⟩;conv=>whnf
  repeat' constructor
 rw[jW (show ¬ (j:Int)<40 by omega)]
 obtain rfl:j=40:=by omega
 conv=>whnf
 (refine xV [] h2 ?_;rintro r rfl;conv=>whnf)
 (refine xV [] h3 ?_;rintro r rfl;conv=>whnf)
 rfl
theorem joH:Wk (.agg jdI) (pgA [] zE 0 0):=by
 unfold jdI pgA pgL;rw[jfV];exact .agg (.cons (.nil 2) (WkL.refl _))
def CmpW (u:Ut) (c:List Ic) (e:Nat->Int) (du vo E:Int):Prop:=c.length<=400/\Wk (jhJ u) (.tup [pgA c e du vo,intA E])
theorem jm1 (u:Ut):∃ (c:List Ic) (e:Nat->Int) (du vo E:Int),CmpW u c e du vo E:=by
 unfold CmpW jhJ
 by_cases h:jfz u=0
 ·rw[if_pos h];refine⟨_,_,_,_,_,?_,.refl _⟩;unfold jfz at h
  by_cases hb:400<(je7 u).1.length
  ·rw[if_pos hb] at h;cases h
  ·omega
 ·rw[if_neg h];exact⟨[],zE,0,0,jfz u,by decide,.tup (.cons joH (WkL.refl _))⟩
theorem CmpW.prog {u:Ut} (hu:WfU u) (hz:uI u.on<=900000) {c:List Ic} {e:Nat->Int} {du vo E:Int} (h:CmpW u c e du vo E):Spec Tryz.prog 7 [] [.agg (utA u)] fun _ r=>r = .tup [pgA c e du vo,intA E] :=
 (pF u hu hz).weaken fun o r hr=>⟨o,_,rfl,WkB.refl o,by rw[hr];exact h.2⟩
theorem printed_spec (l:List Int):Spec Tryz.prog 3 [] [.sl 1 l.length (wO l)] fun _ r=>r=wY true:=by
 obtain⟨u,hu,hpg⟩ := jrG l
 obtain⟨hw,hz,-⟩ := jty hu.1
 have hpp:=jsk hu.1
 have hsz:=hu.size
 have hup:=jqa hu.1 (by omega)
 have hchk:=jnY u hw
 have hlv:=ji7
 obtain⟨c1,e1',d1,v1,E1,w1⟩ := jm1 u
 have p1:=w1.prog hw hz
 have hbl:=jlM (prF u) (by omega) u hup
 have hs1:=jdl c1 e1' d1 v1 (by have:=w1.1;omega)
 have hcv:vV (toU u)=0 ∨ vV (toU u)=11:=by unfold vV;split;exact .inr rfl;exact .inl rfl
 generalize vV (toU u)=K at *;generalize prF u=s at *;refine eN jH jT 0 Tryz.func3 rfl ?_;intro hok;conv=>whnf
 (refine xV [] hpg ?_;rintro r rfl;conv=>whnf)
 (refine xV [] hchk ?_;rintro r rfl;conv=>whnf)
 rcases hcv with rfl | rfl
 ·have hb:Spec Tryz.prog 8 [] [jY s] fun _ r=>r = .tup [pgA c1 e1' d1 v1,intA E1]:=(hbl rfl).weaken fun o r hr=>⟨o,_,rfl,WkB.refl o,by rw[hr];exact w1.2⟩
  clear w1;conv=>whnf
  refine xV [] p1 ?_;rintro r rfl;conv=>whnf
  (refine xV [] hpp ?_;rintro r rfl;conv=>whnf)
  (refine xV [] hb ?_;rintro r rfl;conv=>whnf)
  conv=>whnf
  rw[j8 (rfl:E1=E1)];conv=>whnf
  (refine xV [] hs1 ?_;rintro r rfl;conv=>whnf)
  (refine xV [] hlv ?_;rintro r rfl;conv=>whnf)
  rfl
 ·conv=>whnf
  (refine xV [] hlv ?_;rintro r rfl;conv=>whnf)
  rfl
end Go.Proofs.YtfbkolllpencnaaGreatDoor.Vm
