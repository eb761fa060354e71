/- Part 4 of the proof. -/
import Derived.Test.YtdnnmiemgmgffaaGreatDoorK3
import Derived.RangeFuncNested
import Derived.RangeFuncBox
import Derived.RangeFuncLeaves
import Derived.WalkKit
import Derived.OwnWalkIn
import Derived.TacticsInMore
import Derived.LoopNIn
import Derived.LoopIn
import Derived.Maps.AppendAt
import Derived.Lib.IndexMore
import Derived.Shelf.Lay
import Derived.Shelf.Strings.Search3
import Derived.Ground.NamesProg
import Derived.Shelf.SlIterI.Nil
import Derived.Shelf.SortM.Plain
import Derived.Shelf.SortM.SortNone
set_option maxRecDepth 100000
set_option linter.unusedSimpArgs false
set_option linter.unusedVariables false
set_option linter.unusedSectionVars false
set_option maxHeartbeats 4000000
namespace Go.Proofs.YtdnnmiemgmgffaaGreatDoor.Vm
open Go.RowKit
structure It where
 tok:Tk
 pos:Nat
 err:Int
def jlv(t:Tk):Value:=.agg #[.int .i64 t.kind,.int .i64 t.pos,.string t.text,.int .i64 t.n]
def clP(n:Nat):Nat:=if n<=1000000000 then n else 0
def clE(e:Int):Int:=if 0<=e/\e<=100 then e else 0
theorem jjx(n:Nat):clP n<=1000000000:=by unfold clP;split <;> omega
theorem jjw(e:Int):0<=clE e/\clE e<=100:=by unfold clE;split <;> omega
def jmB(x:It):Array Value := #[jlv x.tok,.agg #[.int .i64 (clP x.pos:Nat),.int .i64 (clE x.err)]]
theorem jhs{l:List UInt8}{e:Int}(h:qE l=.bad e):0<=e/\e<=100:=by
 cases l with
 |nil=>simp[qE] at h;omega
 |cons c r =>
  cases hL:isL c
  ·cases hD:wG c
   ·cases h3:qD pQ (bs ((c::r).take 2))
    ·cases h4:qD tB (bs [c])
     ·simp only[qE,hL,hD,h3,h4] at h;cases h;decide
     ·simp only[qE,hL,hD,h3,h4] at h;cases h
    ·simp only[qE,hL,hD,h3] at h;cases h
   ·simp only[qE,hL,hD] at h;split at h
    ·cases h;decide
    ·cases h
  ·simp only[qE,hL] at h;split at h
   ·cases h;decide
   ·cases h
def itOk(t:Tk):It:=⟨t,t.pos,0⟩
def bY(s:ByteArray)(xs:List It):Prop:=match (qM s).err with
 |none=>xs=(qM s).toks.map itOk
 |some (p,e)=>∃t,xs=(qM s).toks.map itOk++[⟨t,p,e⟩]
def oP(s:ByteArray)(xs:List It):Prop:=∃ys,bY s ys/\xs <+: ys
theorem jc2:∀(l:List UInt8) (n:Int),n<=2147483647->xK n l<=2147483647
 |[],n,h=>h
 |c::r,n,h=>by
  unfold xK;split
  ·omega
  ·exact jc2 r _ (by omega)
def jnU(l:Nat)(s:ByteArray)(L:List A)(p:Nat):List A:=[.v (.func (.yield l) #[] #[]),.pp [.v (.string s)],.pp L,.dead,.v (.int .i64 p)]++List.replicate 108 .dead
theorem jh2(s:ByteArray)(hs:s.size<=1000000000)(n B:Nat)(lb:Array Value)(w0:World)(C:Rd)(hv:ValB B w0)(hsub:Sub C (kQ w0))(hg:Gok C w0)(hno:∀ad u,C ad=some u->¬dP B w0 ad.block)
  (hrep:A.repL [.pp [.v (.string s)],.pp (qK classOf)] ⟨C,[],[]⟩ lb.toList) :
  SeqStopsK Fence.wide n Tryz.prog 106 lb jmB (KpB B) (bY s) (oP s) s.size w0:=by
 intro l J Jx W hW hJ hJx hY h0;have hsl:=zR s
 have keepW:Keeps [] w0 W:=⟨hW.os,hW.tape,hW.output,hW.size,fun b hb _=>hW.block b hb⟩
 have hsubW:Sub C (kQ W):=fun ad u hc=>keepW.cell (hsub ad u hc) (by simp)
 have hgW:Gok C W:=hg.keep keepW (by simp)
 have hvW:ValB B W/\∀b,dP B W b↔dP B w0 b:=by
  refine hv.keeps ⟨hW.os,hW.tape,hW.output,hW.size,fun b hb _=>hW.block b hb⟩
 have hnoW:∀ad u,C ad=some u->¬dP B W ad.block:=fun ad u hc ho=>hno ad u hc ((hvW.2 _).1 ho)
 obtain⟨L,hL⟩:∃L,L=qK classOf:=⟨_,rfl⟩
 rw[<- hL] at hrep;have hc:(Cx.mk Tryz.prog tab jnr (fun _=>[0]) 0 (fun _ _=>False)).okN:=jmj jnr (fun _=>[0]) 0;refine callsIn_of_wp Tryz.func106 rfl trivial ?_
 have hi:=jkV (n:=113) hgW hsubW (args:=[.v (.func (.yield l) #[] #[]),.pp [.v (.string s)],.pp L]) (vals := #[.func (.yield l) #[] #[]]++lb) (by
  simp only[Array.toList_append];refine⟨_,_,rfl,A.rep_v trivial,?_⟩
  simpa using hrep)
 refine jeW hc rfl hi (by kernel_rfl) ?_;conv=>whnf
 intro a W1 hi;refine wpIn_block ?_;refine wpIn_loop (fun a w=>∃(ts:List Tk) (p:Nat) (C:Rd),Inv [] (.of w) C [] ⟨jnU l s L p,[],[]⟩ a w/\ValB B w/\(∀ad u,C ad=some u->¬dP B w ad.block)/\J (ts.map itOk) w/\p<=s.size/\ts.length<=p/\Lx.app ts (bJ p (s.data.toList.drop p))=qM s)
  (fun a _=>s.size-(intOf (a.tmps.getD 4 undef)).toNat) ?_ ?_
 ·obtain⟨hk,hy⟩:=hi.yielded hvW.1 hnoW;obtain⟨C',i1,i2,i3⟩:=hy W1 (KpB.refl B W1);exact⟨[],0,C',i1,i2,i3,wU hJ h0 hk,Nat.zero_le _,Nat.zero_le _,rfl⟩
 rintro a w ⟨ts,p,C,hi,hv,hno,hj,hp,hts,hinv⟩
 have hp4:intOf (a.tmps.getD 4 undef)=p:=by rw[rW hi (i:=4) (v:=.int .i64 p) rfl];rfl
 refine jeW hc rfl hi (by kernel_rfl) ?_;conv=>whnf
 by_cases hlt:p<s.size
 ·refine j9 (by simp;omega) ?_;conv=>whnf
  intro a' w' hi';refine wpIn_block ?_
  obtain⟨c,r,hd⟩:∃c r,s.data.toList.drop p=c::r:=⟨_,_,yC s.data.toList p (by omega)⟩
  have hrl:(c::r).length=s.size-p:=by rw[<- hd,List.length_drop,hsl]
  have hR:s.extract (Int.toNat (p:Int)) (Int.toNat (s.size:Int))=bs (c::r):=by rw[jaH,<- hd];congr 1;apply List.take_of_length_le;rw[List.length_drop];omega
  have hbs:=eH (c::r);refine ja1 hc rfl hi' (by kernel_rfl) ?_;conv=>whnf
  refine⟨by omega,?_⟩;rw[hR];generalize hb:bs (c::r)=b at *;conv=>whnf
  intro a2 w2 hi2
  replace hi2:=(hi2.le (fV rfl) rfl).le (dJ (t':=[.v (.func (.yield l) #[] #[]),.pp [.v (.string s)],.pp L,.dead,.v (.int .i64 p),.pp [.v (.string b)]]++List.replicate 107 .dead) (by repeat' constructor)) rfl
  refine jeW hc rfl hi2 (by kernel_rfl) ?_;conv=>whnf
  intro a3 w3 hi3;refine ja1 hc rfl hi3 (by kernel_rfl) ?_;conv=>whnf
  intro a4 w4 hi4;refine ja1 hc rfl hi4 (by kernel_rfl) ?_;conv=>whnf
  intro a5 w5 hi5
  have hd1:∀k,s.data.toList.drop (p+k)=(c::r).drop k:=fun k=>by rw[<- hd,List.drop_drop]
  have hbL:b.size=s.size-p:=by rw[hbs];exact hrl
  have hrl2:r.length+1=s.size-p:=by simpa using hrl
  have hws:=jlB b (by omega);have hns:=jnk b (by omega);rw[<- hL] at hws hns
  refine wpIn_seq (jgK (q:=fun e s'=>match e with
   |.normal=>∃(tk:Tk) (e:Int),(wC c=false/\aM c=false)/\tk.pos=p/\tk.text.size<=s.size/\(e=0/\(∃len,qE (c::r)=.tok tk.kind len tk.n/\tk.text=bs ((c::r).take len))∨e≠0/\qE (c::r)=.bad e) ∧
     Le 0 s' ⟨[.v (.func (.yield l) #[] #[]),.pp [.v (.string s)],.pp L,.dead,.v (.int .i64 p),.dead,.dead,.pp (cR tk),intA e]++List.replicate 104 .dead,[],[]⟩
   |.exit x=>x=1/\∃p',p<p'/\p'<=s.size/\Lx.app ts (bJ p' (s.data.toList.drop p'))=qM s/\Le 0 s' ⟨jnU l s L p',[],[]⟩
   |.ret=>qM s=⟨ts,none⟩
   |_=>False) hc rfl (by kernel_rfl) hi5 ?_ ?_)
  ·conv=>whnf
   refine⟨⟨by omega,by rw[hbs];simp⟩,?_⟩;rw[show b.data.toList.getD (Int.toNat 0) 0=c from by rw[<- hb,yL];rfl];have hcb:=jfB c;conv=>whnf
   refine⟨⟨by omega,by omega⟩,?_⟩;generalize hq:jD _ (Int.toNat (c.toNat:Int)) L=q
   obtain rfl:q=[.v (.int .u8 (classOf c.toNat))]:=by rw[<- hq,hL];exact jdC classOf c.toNat (by omega)
   conv=>whnf
   rw[jrB]
   cases hsp:aM c with
   |true =>
    have hha:wC c=false:=by
     simp only[aM,wC,Bool.or_eq_true,decide_eq_true_eq,decide_eq_false_iff_not] at hsp ⊢;omega
    conv=>whnf
    refine⟨jH (by omega),?_⟩;conv=>whnf
    refine⟨rfl,p+1,by omega,by omega,?_,(fV rfl).trans (dJ (by repeat' constructor))⟩;rw[hd1 1,<- hinv,hd,jeH hha hsp];rfl
   |false =>
    conv=>whnf
    rw[jmh]
    cases hha:wC c with
    |true =>
     conv=>whnf
     refine kL [] (jeK b (by omega)) ?_;rintro x rfl
     have hno:kO c=true:=by
      simp only[wC,kO,decide_eq_true_eq,Bool.not_eq_true',decide_eq_false_iff_not] at hha ⊢;omega
     have hsp1:jE kO (c::r)=jE kO r+1:=by simp[jE,hno]
     have hle:=xJ kO r;have hlx:=jdc (p:=p) (r:=r) hha
     have hix:xI kO b.data.toList=if jE kO r+1<r.length+1 then((jE kO r+1:Nat):Int) else -1:=by
      unfold xI;rw[<- hb,yL,hsp1];rfl
     generalize xI kO b.data.toList=v at *;conv=>whnf
     by_cases hlt2:jE kO r<r.length
     ·rw[if_pos (by omega)] at hix;refine jW (b:=decide (v<0)) (jG (by omega)) ?_;conv=>whnf
      refine⟨jH (by omega),?_⟩;conv=>whnf
      rw[hix];refine⟨rfl,p+(jE kO r+1),by omega,by omega,?_,(fV rfl).trans (dJ (by repeat' constructor))⟩;rw[hd1 _,<- hinv,hd,hlx,List.drop_succ_cons,Nat.add_comm (jE kO r) 1,<- Nat.add_assoc]
     ·rw[if_neg (by omega)] at hix;refine j9 (b:=decide (v<0)) (jJ (by omega)) ?_;conv=>whnf
      rw[<- hinv,hd,hlx,List.drop_of_length_le (by omega),jb5];simp[Lx.app]
    |false =>
     conv=>whnf
     rw[jtr]
     cases hL1:isL c with
     |true =>
      conv=>whnf
      refine kL [] hws ?_;rintro x rfl
      have hsp1:jE wD (c::r)=jE wD r+1:=by simp[jE,wD,hL1]
      have hle:=xJ wD r
      have htok:qE (c::r)=if 10<jE wD r+1 then .bad 2 else .tok 1 (jE wD r+1) 0:=by simp only[qE,hL1]
      have hw:=aZ (c::r) (jE wD r+1) (by simp;omega)
      have hcut:b.extract (Int.toNat 0) (Int.toNat ((jE wD r+1:Nat):Int))=bs ((c::r).take (jE wD r+1)):=by
       rw[yB b (Int.toNat 0) _ (jE wD r+1) (by simp;omega) (by simp),<- hb,yL];rfl
      rw[<- hb,yL,hsp1,hb];conv=>whnf
      refine⟨⟨by omega,by omega,by omega⟩,?_⟩;rw[hcut];generalize hwd:bs ((c::r).take (jE wD r+1))=wd at *;conv=>whnf
      by_cases hlong:10<jE wD r+1
      ·rw[if_pos hlong] at htok;refine j9 (b:=decide ((10:Int)<(wd.size:Int))) (jJ (by omega)) ?_;conv=>whnf
       exact⟨⟨1,p,wd,0⟩,2,⟨rfl,rfl⟩,rfl,by show wd.size<=s.size;omega,.inr ⟨by decide,htok⟩,(fV rfl).trans (dJ (by repeat' constructor))⟩
      ·rw[if_neg hlong] at htok;refine jW (b:=decide ((10:Int)<(wd.size:Int))) (jG (by omega)) ?_;conv=>whnf
       exact⟨⟨1,p,wd,0⟩,0,⟨rfl,rfl⟩,rfl,by show wd.size<=s.size;omega,.inl ⟨rfl,_,htok,hwd.symm⟩,(fV rfl).trans (dJ (by repeat' constructor))⟩
     |false =>
      conv=>whnf
      rw[jtq]
      cases hD1:wG c with
      |true =>
       conv=>whnf
       refine kL [] hns ?_;rintro x rfl
       have hsp1:jE wG (c::r)=jE wG r+1:=by simp[jE,hD1]
       have hle:=xJ wG r
       have htok:qE (c::r)=if xK 0 (c::r.take (jE wG r))<0 then .bad 6 else .tok 2 (jE wG r+1) (xK 0 (c::r.take (jE wG r))):=by simp only[qE,hL1,hD1]
       have hw:=aZ (c::r) (jE wG r+1) (by simp;omega)
       have hcut:b.extract (Int.toNat 0) (Int.toNat ((jE wG r+1:Nat):Int))=bs ((c::r).take (jE wG r+1)):=by
        rw[yB b (Int.toNat 0) _ (jE wG r+1) (by simp;omega) (by simp),<- hb,yL];rfl
       have hpu:=jpD (bs ((c::r).take (jE wG r+1))) (by rw[hw];omega) (by rw[hw];omega) (by
        intro x hx;rw[yL,<- hsp1] at hx
        exact mT wG _ x hx)
       rw[yL,List.take_succ_cons] at hpu;rw[<- List.take_succ_cons] at hpu;rw[<- hb,yL,hsp1,hb];conv=>whnf
       refine⟨⟨by omega,by omega,by omega⟩,?_⟩;rw[hcut];generalize hwd:bs ((c::r).take (jE wG r+1))=wd at *;conv=>whnf
       refine kL [] hpu ?_;rintro x rfl
       have hvl:xK 0 ((c::r).take (jE wG r+1))=xK 0 (c::r.take (jE wG r)):=by rw[List.take_succ_cons]
       rw[hvl];have hmx:=jc2 (c::r.take (jE wG r)) 0 (by omega);generalize xK 0 (c::r.take (jE wG r))=v at *;by_cases hneg:v<0
       ·rw[if_pos hneg] at htok ⊢;conv=>whnf
        refine⟨jH (by omega),?_⟩;conv=>whnf
        exact⟨⟨2,p,wd,2147483647⟩,6,⟨rfl,rfl⟩,rfl,by show wd.size<=s.size;omega,.inr ⟨by decide,htok⟩,(fV rfl).trans (oG (by repeat' constructor))⟩
       ·rw[if_neg hneg] at htok ⊢;conv=>whnf
        refine⟨jH (by omega),?_⟩;conv=>whnf
        exact⟨⟨2,p,wd,v⟩,0,⟨rfl,rfl⟩,rfl,by show wd.size<=s.size;omega,.inl ⟨rfl,_,htok,hwd.symm⟩,(fV rfl).trans (oG (by repeat' constructor))⟩
      |false =>
       conv=>whnf
       have h1c:(bs [c]).size=1:=by rw[eH];rfl
       have hcut1:b.extract (Int.toNat 0) (Int.toNat 1)=bs [c]:=by
        rw[yB b (Int.toNat 0) _ 1 (by simp;omega) (by simp),<- hb,yL];rfl
       by_cases hone:1<r.length+1
       ·have hcut2:b.extract (Int.toNat 0) (Int.toNat 2)=bs ((c::r).take 2):=by
         rw[yB b (Int.toNat 0) _ 2 (by simp;omega) (by simp),<- hb,yL];rfl
        have h2c:=aZ (c::r) 2 (by simp;omega);rw[show decide ((1:Int)<(b.size:Int))=true from jJ (by omega)];conv=>whnf
        refine⟨⟨by omega,by omega,by omega⟩,?_⟩;rw[hcut2];generalize hwd:bs ((c::r).take 2)=wd at *;conv=>whnf
        refine kL [0] (jcd pQ wd (by decide)) ?_;rintro x rfl
        cases h2:qD pQ wd with
        |true =>
         have htok:qE (c::r)=.tok 3 2 0:=by simp only[qE,hL1,hD1,hwd,h2]
         conv=>whnf
         refine⟨⟨by omega,by omega,by omega⟩,?_⟩;rw[hcut2];conv=>whnf
         exact⟨⟨3,p,wd,0⟩,0,⟨rfl,rfl⟩,rfl,by show wd.size<=s.size;omega,.inl ⟨rfl,_,htok,hwd.symm⟩,(fV rfl).trans (oG (by repeat' constructor))⟩
        |false =>
         rw[<- hwd] at h2;conv=>whnf
         rw[jqz];generalize hwd1:bs [c]=w1 at *
         cases h1:qD tB w1 with
         |true =>
          have htok:qE (c::r)=.tok 3 1 0:=by simp only[qE,hL1,hD1,h2,hwd1,h1]
          conv=>whnf
          refine⟨⟨by omega,by omega,by omega⟩,?_⟩;rw[hcut1];conv=>whnf
          exact⟨⟨3,p,w1,0⟩,0,⟨rfl,rfl⟩,rfl,by show w1.size<=s.size;omega,.inl ⟨rfl,_,htok,hwd1.symm⟩,(fV rfl).trans (oG (by repeat' constructor))⟩
         |false =>
          have htok:qE (c::r)=.bad 10:=by simp only[qE,hL1,hD1,h2,hwd1,h1]
          conv=>whnf
          exact⟨⟨0,p,⟨#[]⟩,0⟩,10,⟨rfl,rfl⟩,rfl,Nat.zero_le _,.inr ⟨by decide,htok⟩,(fV rfl).trans (oG (by repeat' constructor))⟩
       ·have h2:qD pQ (bs ((c::r).take 2))=false:=by
         obtain rfl:r=[]:=List.eq_nil_of_length_eq_zero (by omega)
         have:∀n:Fin 256,qD pQ (bs [UInt8.ofNat n.val])=false:=by decide +kernel
         have h:=this ⟨c.toNat,c.toNat_lt⟩;simpa using h
        rw[show decide ((1:Int)<(b.size:Int))=false from jG (by omega)];conv=>whnf
        rw[jqz];generalize hwd1:bs [c]=w1 at *
        cases h1:qD tB w1 with
        |true =>
         have htok:qE (c::r)=.tok 3 1 0:=by simp only[qE,hL1,hD1,h2,hwd1,h1]
         conv=>whnf
         refine⟨⟨by omega,by omega,by omega⟩,?_⟩;rw[hcut1];conv=>whnf
         exact⟨⟨3,p,w1,0⟩,0,⟨rfl,rfl⟩,rfl,by show w1.size<=s.size;omega,.inl ⟨rfl,_,htok,hwd1.symm⟩,(fV rfl).trans (oG (by repeat' constructor))⟩
        |false =>
         have htok:qE (c::r)=.bad 10:=by simp only[qE,hL1,hD1,h2,hwd1,h1]
         conv=>whnf
         exact⟨⟨0,p,⟨#[]⟩,0⟩,10,⟨rfl,rfl⟩,rfl,Nat.zero_le _,.inr ⟨by decide,htok⟩,(fV rfl).trans (oG (by repeat' constructor))⟩
  ·intro e s' a6 w6 hq hi6
   match e,hq with
   |.exit x,hq =>
    obtain⟨rfl,p',hp1,hp2,hp3,hle⟩:=hq
    replace hi6:=hi6.le hle rfl
    obtain⟨hk,hy⟩:=hi6.yielded hv hno;obtain⟨C',i1,i2,i3⟩:=hy w6 (KpB.refl B w6);refine⟨⟨ts,p',C',i1,i2,i3,wU hJ hj hk,hp2,by omega,hp3⟩,?_⟩;rw[hp4,rW hi6 (i:=4) (v:=.int .i64 p') rfl];simp only[intOf];omega
   |.ret,hq =>
    have hk:Keeps [] w w6:=by obtain⟨E,hp,_,_⟩:=hi6;exact hp.keep
    change bodyPost Tryz.prog _ (fun e W'=>(∃v,e=.returned v)/\((∃xs,bY s xs/\J xs W')∨(∃pre,oP s pre/\Jx pre W'))) .ret a6 w6
    refine bodyPost_ret (results_none rfl _ _ _) (by obtain⟨E,_,_,hd⟩:=hi6;exact hd) ⟨⟨_,rfl⟩,.inl ⟨_,?_,wU hJ hj hk⟩⟩;unfold bY;rw[hq]
   |.normal,hq =>
    obtain⟨tk,e,hcl,htp,htz,hgood,hle⟩:=hq
    replace hi6:=hi6.le hle rfl
    refine wpIn_seq (wpIn_seq (wpIn_region_lit ?_));refine jpU 5 hc hi6 ?_;conv=>whnf
    intro a7 w7 hi7;obtain⟨hk,hy⟩:=hi7.yielded hv hno;have e1:a7.tmps.getD 98 undef=jlv tk:=jnl hi7 (vs:=[.int .i64 tk.kind,.int .i64 tk.pos,.string tk.text,.int .i64 tk.n]) rfl;have e2:a7.tmps.getD 101 undef=.agg #[.int .i64 p,.int .i64 e]:=jnl hi7 (vs:=[.int .i64 p,.int .i64 e]) rfl;have hclP:clP p=p:=if_pos (by omega)
    have hclE:clE e=e:=if_pos (by
     rcases hgood with ⟨h,_⟩|⟨_,h⟩
     ·omega
     ·exact jhs h)
    have hlen:(ts.map itOk).length<s.size:=by rw[List.length_map];omega
    refine jh5 (l:=l) (vals:=jmB ⟨tk,p,e⟩) rfl rfl (rW hi7 (i:=97) (v:=.func (.yield l) #[] #[]) rfl) (by rw[show Array.map a7.eval #[.tmp 98,.tmp 101] = #[a7.eval (.tmp 98),a7.eval (.tmp 101)] from by simp];show #[a7.tmps.getD 98 undef,a7.tmps.getD 101 undef] = #[jlv tk,.agg #[.int .i64 (clP p:Nat),.int .i64 (clE e)]];rw[e1,e2,hclP,hclE]) (hY (ts.map itOk) ⟨tk,p,e⟩ w7 (wU hJ hj hk) hlen) ?_;rintro x w8 (⟨rfl,hj8,hkp⟩|⟨rfl,hjx8⟩)
    ·refine⟨_,rfl,?_⟩;obtain⟨C',i1,i2,i3⟩:=hy w8 hkp;refine jqU (G:=fun a=>wpListIn _ _ _ _ _ _ a _) i1 trivial ?_;conv=>whnf
     intro a8 hi8;refine jf8 5 hc hi8 ?_;conv=>whnf
     intro a9 w9 hi9
     have hd9:a9.defers=[]:=by obtain⟨E,_,_,hd⟩:=hi9;exact hd
     obtain⟨hk9,hy9⟩:=hi9.yielded i2 i3;have hj9:=wU hJ hj8 hk9;rcases hgood with ⟨rfl,len,htok,htx⟩|⟨hne,htok⟩
     ·rw[hd,jb7 hcl.1 hcl.2 htok,jak] at hinv;have hl:=bO htok
      have hsz:tk.text.size=len:=by rw[htx];exact aZ _ _ hl.2
      refine jeq (i:=107) (b:=false) hi9 rfl ?_;rw[if_neg (by simp)];refine wpIn_skip (wpIn_region_lit ?_);refine jf8 6 hc hi9 ?_;conv=>whnf
      refine⟨jH (by omega),?_⟩;conv=>whnf
      intro a10 w10 hi10
      replace hi10:=hi10.le (oG (s':=⟨jnU l s L (p+len),[],[]⟩) (by rw[<- hsz];repeat' constructor)) rfl
      obtain⟨hk10,hy10⟩:=hi10.yielded i2 i3;obtain⟨C2,j1,j2,j3⟩:=hy10 w10 (KpB.refl B w10)
      have htk:(⟨tk.kind,p,bs (List.take len (c::r)),tk.n⟩:Tk)=tk:=by rw[<- htx,<- htp]
      have hit:(⟨tk,p,0⟩:It)=itOk tk:=by unfold itOk;rw[htp]
      rw[hit] at hj8;refine⟨⟨ts++[tk],p+len,C2,j1,j2,j3,?_,by simp at hl;omega,by simp;omega,?_⟩,?_⟩
      ·rw[List.map_append];exact wU hJ hj8 hk10
      ·rw[hd1 len,<- hinv,htk]
      ·rw[hp4,rW hi10 (i:=4) (v:=.int .i64 (p+len:Nat)) rfl];simp only[intOf];omega
     ·refine jeq (i:=107) (b:=true) hi9 (by show A.v (.bool (!decide (e=0)))=_;rw[jG hne];rfl) ?_;rw[if_pos rfl];refine wpIn_ret ?_
      change bodyPost Tryz.prog _ (fun e W'=>(∃v,e=.returned v)/\((∃xs,bY s xs/\J xs W')∨(∃pre,oP s pre/\Jx pre W'))) .ret a9 w9
      refine bodyPost_ret (results_none rfl _ _ _) hd9 ⟨⟨_,rfl⟩,.inl ⟨_,?_,hj9⟩⟩;rw[hd,jb4 hcl.1 hcl.2 htok] at hinv;unfold bY;rw[<- hinv];exact⟨tk,by simp[Lx.app]⟩
    ·refine⟨_,rfl,?_⟩;refine jqU (G:=fun a=>wpListIn _ _ _ _ _ _ a _) hi7 trivial ?_;conv=>whnf
     intro a8 hi8;refine pN hc.ok hi8 ?_;conv=>whnf
     intro a9 hi9;refine jeq (i:=107) (b:=true) hi9 rfl ?_;rw[if_pos rfl];refine wpIn_ret ?_
     change bodyPost Tryz.prog _ (fun e W'=>(∃v,e=.returned v)/\((∃xs,bY s xs/\J xs W')∨(∃pre,oP s pre/\Jx pre W'))) .ret a9 w8
     refine bodyPost_ret (results_none rfl _ _ _) (by obtain⟨E,_,_,hd⟩:=hi9;exact hd) ⟨⟨_,rfl⟩,.inr ⟨_,?_,hjx8⟩⟩;rcases hgood with ⟨rfl,len,htok,htx⟩|⟨hne,htok⟩
     ·rw[hd,jb7 hcl.1 hcl.2 htok,jak] at hinv;generalize bJ (p+len) (List.drop len (c::r))=rest at *
      have htk:(⟨tk.kind,p,bs (List.take len (c::r)),tk.n⟩:Tk)=tk:=by rw[<- htx,<- htp]
      rw[htk] at hinv
      have hit:(⟨tk,p,0⟩:It)=itOk tk:=by unfold itOk;rw[htp]
      rw[hit];unfold oP bY;rw[<- hinv]
      cases hr:rest.err with
      |none=>exact⟨(ts++[tk]++rest.toks).map itOk,by simp[Lx.app,hr],⟨rest.toks.map itOk,by simp⟩⟩
      |some x=>exact⟨(ts++[tk]++rest.toks).map itOk++[⟨tk,x.1,x.2⟩],by simp only[Lx.app,hr];exact⟨tk,by simp⟩,⟨rest.toks.map itOk++[⟨tk,x.1,x.2⟩],by simp⟩⟩
     ·rw[hd,jb4 hcl.1 hcl.2 htok] at hinv;refine⟨_,?_,List.prefix_rfl⟩;unfold bY;rw[<- hinv];exact⟨tk,by simp[Lx.app]⟩
 ·refine jW (by simp;omega) ?_
  obtain rfl:p=s.size:=by omega
  conv=>whnf
  intro a' w' hi';rw[List.drop_of_length_le (by omega),jb5] at hinv;obtain⟨hk,hy⟩:=hi'.yielded hv hno
  change bodyPost Tryz.prog _ (fun e W'=>(∃v,e=.returned v)/\((∃xs,bY s xs/\J xs W')∨(∃pre,oP s pre/\Jx pre W'))) .normal a' w'
  refine bodyPost_end (results_none rfl _ _ _) (by obtain⟨E,_,_,hd⟩:=hi';exact hd) ⟨⟨_,rfl⟩,.inl ⟨_,?_,wU hJ hj hk⟩⟩;unfold bY;rw[<- hinv];simp[Lx.app]
section
def jeL(ops:List Oper):Bool:=ops.all fun o=>match o.op with
 |.defer _=>false
 |_=>true
theorem jnH{n l:Nat}{P:Program}{o:Oper}{a:Act}{w:World}{K:Act->World->Prop}{Q:Exit->Act->World->Prop}(hd:∀c,o.op≠.defer c)(h:o.wp P a w K Q):o.wpIn (Fence.wide.inRound l) n P a w K Q:=by
 refine⟨fun _ _=>trivial,?_⟩;rw[Oper.semAt_eq _ _ _ hd];unfold Oper.wp at h;generalize (execOp a.eval o).run P w=r at *
 match r,h with
 |.ok (.value v) w',h=>exact h
 |.ok .skip w',h=>exact h
 |.ok (.defer d) w',h=>exact h
 |.ok (.enter f args) w',h=>exact⟨fun h'=>by simp[Fence.wide] at h',CallsIn.inRound l (callsIn_wide.2 h)⟩
 |.ok (.row row args) w',h=>exact⟨fun h'=>by simp[Fence.wide] at h',jdZ h⟩
 |.halt (.panic v) w',h=>exact h
theorem jeQ{n l:Nat}{P:Program}{ops:List Oper}{Q:Exit->Act->World->Prop}(hd:jeL ops=true)(hQ:¬LetsOut Q):∀{is:List Nat} {a:Act} {w:World},wpOps P ops.toArray Q is a w->wpOpsIn (Fence.wide.inRound l) n P ops.toArray Q is a w
 |[],a,w,h=>h
 |i::rest,a,w,h=>by
  unfold wpOps at h;unfold wpOpsIn
  cases ho:ops.toArray[i]? with
  |none =>
   rw[ho] at h;exact jeQ hd hQ h
  |some o =>
   rw[ho] at h
   simp only at h ⊢
   have hmem:o∈ops:=by
    have:ops[i]?=some o:=by simpa using ho
    exact List.mem_iff_getElem?.2 ⟨i,this⟩
   have hnd:∀c,o.op≠.defer c:=fun c e=>by
    have:=List.all_eq_true.1 hd o hmem;rw[e] at this;cases this
   split at h
   ·rename_i hw;rw[if_pos hw];rcases h with h|h
    ·refine jnH hnd ?_;exact Oper.wp_mono (fun a' w' h'=>jeQ hd hQ h') h
    ·exact absurd h.2 hQ
   ·rename_i hw;rw[if_neg hw];exact⟨fun _ _=>trivial,jeQ hd hQ h⟩
def jcu(K:Act->World->Prop):Exit->Act->World->Prop
 |.normal,a,w=>K a w
 |_,_,_=>False
section
variable{c:Cx}{w0:W0}{w:World}{C0:Rd}{β0:List Nat}{s:S}{a:Act}
theorem jpA{K:Act->World->Prop}:¬LetsOut (jc9 c [] w0 C0 β0 (jcu K)):=by
 rintro⟨a,w,h⟩;simp[jc9,jcu] at h
theorem jo0{id lp n:Nat}{ops:List Oper}{X:List Nat}{l:Tr}{K:S->Prop}{Kc:Act->World->Prop}(hc:c.okN)(hi:Inv [] w0 C0 β0 s a w)(hX:tS X s.bx.length=true)(hB:pO ops.toArray l=true)(hnd:jeL ops=true)
  (h:jcc c (xrB X) s.bx.length ops l 0 s K) (hk:∀s' a' w',K s'->Inv [] w0 C0 β0 s' a' w'->Kc a' w') {Q:Exit->Act->World->Prop} (hQ:∀a w,Kc a w->Q .normal a w):(Code.region id ops.toArray true).wpIn (Fence.wide.inRound lp) n c.P Q a w:=by
 obtain⟨E,hp,ht,hd⟩:=hi;rw[hp.bl] at h
 have hk0:je3 (xrB X) E w.drew w.drew:=⟨fun _ _ _ _=>rfl,(dB hp).sub⟩
 have hT:pS c.P ops.toArray (jc9 c [] w0 C0 β0 (jcu Kc)) (je3 (xrB X) E w.drew) l a w.drew :=
  vQ rfl (Q:=jcu Kc) hc.ok ⟨0,rfl⟩ (dB hp) ht hd (fun _=>⟨Sub.refl _,fun _ _ h=>h,hk0⟩) (fun _=>rfl) h hk
 simp only[pO,Bool.and_eq_true,decide_eq_true_eq] at hB;have hA:=jfn (md:=.any) hB.1.1 jgJ _ l _ a _ hB.1.2 hB.2 hT
 have:(Code.region id ops.toArray true).wpIn (Fence.wide.inRound lp) n c.P (jc9 c [] w0 C0 β0 (jcu Kc)) a w:=wpIn_region_draw fun t=>by
  simp only[Region.schedule,hc.ok.m,Bool.true_or,if_true];exact jeQ hnd jpA (wpAny_sound ops.toArray.size t _ a _ hA)
 refine wpIn_mono this fun e a' w' h=>?_
 cases e with
 |normal=>exact hQ _ _ h
 |panic ch=>obtain⟨s',h1,_⟩:=h;exact absurd h1 (hc.no ch s')
 |_=>simp[jc9,jcu] at h
theorem jlg{id lp n:Nat}{ops:List Oper}{Q:Exit->Act->World->Prop}(hc:c.okN)(hi:Inv [] w0 C0 β0 s a w)(hfl:Tr.isFlow (c.ord id)=false)(hfl2:Tr.isFlowL (c.ord id)=false)(ho:pO ops.toArray (c.ord id)=true)(hnd:jeL ops=true)
  (h:cW c id ops.toArray true s fun e s'=>e=.normal/\∀a' w',Inv [] w0 C0 β0 s' a' w'->Q .normal a' w'):(Code.region id ops.toArray true).wpIn (Fence.wide.inRound lp) n c.P Q a w:=by
 unfold cW at h
 simp only at h
 split at h
 ·rename_i hx;rw[hfl] at h
  simp only at h
  rw[hfl2] at h
  simp only at h
  split at h
  ·exact jo0 (c:=c.kill) ⟨hc.ok.kill,fun ch s' h=>hc.no ch _ h⟩ hi hx ho hnd h (Kc:=Q .normal) (fun s' a' w' h1 h2=>h1.2 a' w' h2) fun _ _ h=>h
  ·unfold fU at h;obtain⟨φ,h,h'⟩:=h
   exact jo0 (c:=c.kill) ⟨hc.ok.kill,fun ch s' h=>hc.no ch _ h⟩ hi hx ho hnd h (Kc:=Q .normal) (fun s' a' w' h1 h2=>(h' _ h1).2 a' w' h2) fun _ _ h=>h
 ·exact h.elim
theorem jrY{W:World}{β:List Nat}{bx:List (List A)}{t:List A}(h0:Gok C0 W)(h1:Sub C0 (kQ W))(hnd:β.Nodup)(hbC:∀b∈β,∀o sp,C0 ⟨b,o,sp⟩=none)(hbl:bx.length=β.length)(hbx:∀(i b:Nat) (cs:List A),β[i]?=some b->bx[i]?=some cs->boxAt W ⟨C0,β,[]⟩ b cs)
  (ht:A.repL t ⟨C0,β,[]⟩ a.tmps.toList) (hd:a.defers=[]):Inv [] (.of W) C0 β ⟨t,bx,[]⟩ a W :=
 ⟨⟨C0,β,[]⟩,⟨h1,Sub.refl _,fun _ _ hc=>.inl hc,⟨[],by simp,by simp⟩,hnd,hbC,hbl,hbx,rfl,fun g r y hg=>by simp at hg,fun g e k n cs y b hg=>by simp at hg,fun g e k n cs y h' e' k' n' cs' z b _ hg=>by simp at hg,fun g y hg=>by simp at hg,Keeps.refl _ _,jg5 h0⟩,ht,hd⟩
theorem jao(hi:Inv [] w0 C0 β0 s a w){i b:Nat}{x:Value}(hβ:β0[i]?=some b)(hbx:s.bx[i]?=some [.v x]):w.cell? ⟨b,0,none⟩=some x:=by
 obtain⟨E,hp,ht,hd⟩:=hi;obtain⟨β',e1,e2⟩:=hp.bp
 have h1:E.β[i]?=some b:=by
  rw[e1,List.getElem?_append_left (List.getElem?_eq_some_iff.1 hβ).1];exact hβ
 obtain⟨T,arr,q1,q2⟩:=hp.bxs i b _ h1 hbx;have:=tI (vs:=[x]) q2.1
 have e:arr = #[x]:=by
  apply Array.toList_inj.1;rw[this]
 simp[kQ,World.cell?,q1,e]
theorem jej{W:World}{E:Env}{b:Nat}{T:TypeId}{x:Value}(h:Boxed W b T x)(hx:fD x):boxAt W E b [.v x]:=⟨T,#[x],h,.mk' ⟨x,[],rfl,pC hx,A.rep_v hx,rfl⟩⟩
theorem jnb{P:Program}{T:List (Nat×Te)}{t:Nat}{e:Te}{W:World}{ad:Addr}{v:Value}(hT:Tab.ok P T)(h:Tab.get T t=some e)(ha:e.d.agg=false)(hc:W.cell? ad=some v):(loadVar t ad).run P W=.ok v W:=by
 have q1:=hT.agg h W;rw[ha] at q1;simp[loadVar,q1,load,Sem.run,hc,Result.andThen]
theorem jgT{P:Program}{T:List (Nat×Te)}(hT:Tab.ok P T){fn:Func}{a1 a2 a3 t1 t2 t3:Nat}{e1 e2 e3:Te}{tmps:Array Value}{W:World}{d1 d2 d3:Addr}{v1 v2 v3:Value}(hr:fn.results = #[.cell a1 t1,.cell a2 t2,.cell a3 t3])
  (p1:tmps.getD a1 undef=.pointer (some d1)) (p2:tmps.getD a2 undef=.pointer (some d2)) (p3:tmps.getD a3 undef=.pointer (some d3))
  (g1:Tab.get T t1=some e1) (g2:Tab.get T t2=some e2) (g3:Tab.get T t3=some e3) (k1:e1.d.agg=false) (k2:e2.d.agg=false) (k3:e3.d.agg=false)
  (c1:W.cell? d1=some v1) (c2:W.cell? d2=some v2) (c3:W.cell? d3=some v3):(results fn tmps).run P W=.ok (.tuple #[v1,v2,v3]) W:=by
 have he:results fn tmps=(do let vs <- fn.results.mapM (jiU tmps);pure (if h:vs.size=1 then vs[0] else .tuple vs)):=by
  unfold results
  congr 1
 have f:∀{x t d v},tmps.getD x undef=.pointer (some d)->(loadVar t d).run P W=.ok v W->(jiU tmps (.cell x t)).run P W=.ok v W:=fun h1 h2=>by
  simp only[jiU,h1,asAddr];simpa [Result.andThen] using h2
 have r1:=f (t:=t1) p1 (jnb hT g1 k1 c1);have r2:=f (t:=t2) p2 (jnb hT g2 k2 c2);have r3:=f (t:=t3) p3 (jnb hT g3 k3 c3);rw[he,hr];simp[r1,r2,r3,Result.andThen]
end
end
attribute [local go_sem] Oper.semAt_some
theorem aI{F:Fence}{n:Nat}{P:Program}(w:World){ops:Array Oper}{rest:List Oper}{o:Oper}{a:Act}{Q:Exit->Act->World->Prop}
  (hg:o.guard=none) (s x:Operand) (t:TypeId) (hop:o.op=Op.call { callee:=Callee.builtin Builtin.append,args := #[s,x],argTypes := #[t,t] })
  (base:Nat) (e:TypeId) (i:TypeInfo) (z:Value) (size bytes:Nat) (h1:P.underlying t=some (.slice e)) (h2:P.info? e=some i) (h3:i.zero=some z) (h4:i.size=size) (h5:i.bytes=bytes) (h6:z.cells.size=size) (h7:0<size)
  (v:Value) (k:Nat) (xs:List Value) (hs:a.eval s=v) (hown:w.ownsRow base e size v k xs) (ad:Addr) (m c:Nat) (news:List Value) (hx:a.eval x=.slice (some ad) m c) (hn:news.length=m*size)
  (hc:∀j u,news[j]?=some u->w.cell? (ad.add j)=some u) (h1c:∀u∈news,u.oneCell'=true) (b1:k+m<=maxLen) (b2:(k+m)*bytes<=140737488355328) (b3:base<=w.heap.size)
  (hK:∀v' w',w'.ownsRow base e size v' (k+m) (xs++news)->w.grownBy w' v.ownBlock->(v'.ownBlock=v.ownBlock∨v'.ownBlock=some w.heap.size)->wpListIn F n P ops Q rest (a.put o.dst v') w') :
  wpListIn F n P ops Q (o::rest) a w:=by
 refine wpListIn_plain hg fun K hK'=>?_
 obtain⟨v',w',hrun,r1,r2,r3⟩:=lJ (P:=P) w base t o.type e i z size bytes h1 h2 h3 h4 h5 h6 h7 v k xs hown (some ad) m c news hn (fun e=>by cases e) (fun a e=>by cases e;exact hc) h1c b1 b2 b3;unfold Oper.wpIn;refine⟨?_,?_⟩
 ·simp[Oper.about,hop,resolve,Target.leads,Sem.run_pure]
 ·rw[Oper.semAt_plain F _ _ (by rw[hop];intro c hc';cases hc')];simp[execOp,hop,resolve,invoke,builtin,hs,hx,hrun,Result.andThen];exact hK' _ _ (hK v' w' r1 r2 r3)
theorem jaw(W:World)(a b c d:Value)(T:TypeId):∀(j:Nat) (u:Value),[a,b,c,d][j]?=some u->(W.alloc (.cells #[a,b,c,d] T)).cell? ((⟨W.heap.size,0,none⟩:Addr).add j)=some u:=fun j u h=>by
 have e:(⟨W.heap.size,0,none⟩:Addr).add j=⟨W.heap.size,j,none⟩:=by unfold Addr.add;split <;> simp_all
 rw[e];have:=World.alloc_heap_new W (.cells #[a,b,c,d] T);simp only[World.cell?,this];simpa using h
def tkV(t:Tk):List Value:=[.int .i64 t.kind,.int .i64 t.pos,.string t.text,.int .i64 t.n]
def pP(l:List Tk):List Value:=l.flatMap tkV
theorem jpi:(Tryz.prog.info? 131).map (fun i=>(i.zero,i.size,i.bytes))=some (some (.agg #[.int .i64 0,.int .i64 0,.string ⟨#[]⟩,.int .i64 0]),4,40):=by kernel_rfl
theorem jpS(s:ByteArray)(hs:s.size<=1000000000)(m:Nat)(w1:World)(C:Rd)(hg:Gok C w1)(hsub:Sub C (kQ w1)):CallsIn Fence.wide m Tryz.prog 92 #[.string s] w1 fun e w2 =>
  ∃us:Array Value,e=.returned (.func (.func 106) #[] us)/\Keeps [] w1 w2/\A.repL [.pp [.v (.string s)],.pp (qK classOf)] ⟨zA C w1 w2,[],[]⟩ us.toList:=by
 refine callsIn_wide.2 (((jlo s).2 w1 C [] [.string s] hg hsub List.nodup_nil (by simp) rfl (fun i b cs hb=>by simp at hb) ?_).mono ?_)
 ·exact⟨_,_,rfl,A.rep_v (by show s.size<=maxLen;exact jn7 hs),rfl⟩
 ·rintro e w2 ⟨outs,r,v,rfl,rfl,hk,_,_,hv⟩;unfold A.rep at hv;obtain⟨us,rfl,hus⟩:=hv;exact⟨us,rfl,hk,hus⟩
theorem jkY{W w1:World}{n₀ B g n k:Nat}{t e:TypeId}{y:Value}{cap m:Nat}{xs ys:List Value}{tmp:Obj}(c5:Boxed W B t y)(hrow:W.ownsRow n₀ e 4 y k xs)(hgrow:(W.alloc tmp).grownBy w1 y.ownBlock)(hw:(Value.slice (some ⟨g,0,none⟩) m cap).ownBlock=y.ownBlock∨(Value.slice (some ⟨g,0,none⟩) m cap).ownBlock=some (W.alloc tmp).heap.size)
  (hv2:Boxed (w1.setCell ⟨B,0,none⟩ (.slice (some ⟨g,0,none⟩) m cap)) B t (.slice (some ⟨g,0,none⟩) m cap)) (hr2:(w1.setCell ⟨B,0,none⟩ (.slice (some ⟨g,0,none⟩) m cap)).ownsRow n₀ e 4 (.slice (some ⟨g,0,none⟩) m cap) n ys):KpB B W (w1.setCell ⟨B,0,none⟩ (.slice (some ⟨g,0,none⟩) m cap)):=fun hv=>by
 have hsz:W.heap.size<=(w1.setCell ⟨B,0,none⟩ (.slice (some ⟨g,0,none⟩) m cap)).heap.size:=by
  have h1:=hgrow.size;have h2:=(grownBy_setCell' w1 B (.slice (some ⟨g,0,none⟩) m cap)).size;rw[World.size_alloc] at h1;omega
 have hg2:∀b,dP B (w1.setCell ⟨B,0,none⟩ (.slice (some ⟨g,0,none⟩) m cap)) b->b=B∨b=g:=fun b hb=>by
  rcases hb with hb|⟨a,l,c,h1,h2⟩
  ·exact .inl hb
  ·rw[hv2.cell] at h1;cases h1;exact .inr h2.symm
 have hgl:g<(w1.setCell ⟨B,0,none⟩ (.slice (some ⟨g,0,none⟩) m cap)).heap.size:=by
  rcases hr2.2 with ⟨h,_⟩|⟨g2,cap2,cur,h,_,hgb,_⟩
  ·cases h
  ·cases h;exact vL hgb
 have hyg:∀b,y.ownBlock=some b->dP B W b:=fun b hb=>by
  rcases hrow.2 with ⟨rfl,_⟩|⟨g2,cap2,cur,rfl,_,hgb,_⟩
  ·simp[Value.ownBlock] at hb
  ·exact .inr ⟨_,_,_,c5.cell,by simpa [Value.ownBlock] using hb⟩
 refine⟨⟨⟨_,hv2,rfl⟩,fun b hb=>?_⟩,hsz,fun b hb=>?_,fun b o hb ho hn=>?_⟩
 ·rcases hg2 b hb with rfl|rfl
  ·exact hv2.lt
  ·exact hgl
 ·rcases hg2 b hb with rfl|rfl
  ·exact .inl (.inl rfl)
  ·rcases hw with hw|hw
   ·exact .inl (hyg _ (by rw[<- hw];simp[Value.ownBlock]))
   ·have:b=W.heap.size+1:=by simpa [Value.ownBlock] using hw
    exact .inr (by omega)
 ·have h1:(W.alloc tmp).heap[b]?=some o:=(Below.heap_alloc _ _ _ (vL hb)).trans hb;have h2:w1.heap[b]?=some o:=(hgrow.block b (vL h1) fun e=>hn (hyg b e.symm)).trans h1;refine((grownBy_setCell' w1 B _).block b (vL h2) fun e=>hn (.inl ?_)).trans h2;cases e;rfl
def jta(w:World)(pre:List It)(W:World):Prop:=(∀x∈pre,clE x.err=0)/\Boxed W w.heap.size 116 (.slice none 0 0)/\Boxed W (w.heap.size+1) 3 (.int .i64 0)/\Boxed W (w.heap.size+1+1) 27 (.int .i64 0) ∧
 (∃y,Boxed W (w.heap.size+1+1+1) 116 y/\W.ownsRow w.heap.size 131 4 y pre.length (pP (pre.map It.tok)))/\Below w.heap.size w W
def jtb(w:World)(c:Code)(pre:List It)(W:World):Prop:=c=.ret/\∃q x,pre=q++[x]/\clE x.err≠0/\W.cell? ⟨w.heap.size,0,none⟩=some (.slice none 0 0)/\W.cell? ⟨w.heap.size+1,0,none⟩=some (.int .i64 (clP x.pos:Nat))/\W.cell? ⟨w.heap.size+1+1,0,none⟩=some (.int .i64 (clE x.err))/\Below w.heap.size w W
def jsN(s:ByteArray)(us:Array Value)(w:World)(x:It)(b6 b7:Nat):Array Value :=
 #[.string s,undef,.pointer (some ⟨w.heap.size,0,none⟩),.pointer (some ⟨w.heap.size+1,0,none⟩),.pointer (some ⟨w.heap.size+1+1,0,none⟩),.pointer (some ⟨w.heap.size+1+1+1,0,none⟩),.pointer (some ⟨b6,0,none⟩),.pointer (some ⟨b7,0,none⟩),.string s,.func (.func 106) #[] us,
  jlv x.tok,.agg #[.int .i64 (clP x.pos:Nat),.int .i64 (clE x.err)],undef,undef,undef,undef,undef,undef,undef,undef,undef,undef,undef,undef,undef,undef,undef,undef,undef]
def jr9(s:ByteArray)(us:Array Value)(w:World)(x:It)(a':Act)(W:World):Prop:=∃b6 b7,a'={ tmps:=jsN s us w x b6 b7,defers:=[] }/\W.heap[b6]?=some (.cells (tkV x.tok).toArray 131 (0,0))/\W.heap[b7]?=some (.cells #[.int .i64 (clP x.pos:Nat),.int .i64 (clE x.err)] 133 (0,0))
theorem aW{X Y:World}{row:Option Nat}{b B:Nat}{o:Obj}(h:X.heap[b]?=some o)(ho:o.isCells=true)(hg:X.grownBy Y row)(hrow:∀r,row=some r->B<=r/\∃o:Obj,X.heap[r]?=some o/\o.isCells=false):Y.heap[b]?=some o:=by
 refine(hg.block b (vL h) fun e=>?_).trans h;obtain⟨_,o2,h1,h2⟩:=hrow b e.symm;rw[h] at h1;cases h1;rw[ho] at h2;cases h2
theorem joq(s:ByteArray)(us:Array Value)(w:World)(x:It)(a':Act)(B:Nat):OwnFrom B (fun(_:Unit) W=>jr9 s us w x a' W):=by
 rintro _ X Y row ⟨b6,b7,e,h1,h2⟩ hg hrow;exact⟨b6,b7,e,aW h1 rfl hg hrow,aW h2 rfl hg hrow⟩
theorem jbW(w:World)(B:Nat)(hB:w.heap.size<=B):OwnFrom B (jta w):=by
 rintro pre X Y row ⟨e,h1,h2,h3,⟨y,h4,h5⟩,h6⟩ hg hrow;refine⟨e,aW h1 rfl hg hrow,aW h2 rfl hg hrow,aW h3 rfl hg hrow,⟨y,aW h4 rfl hg hrow,h5.kept hg ?_⟩,h6.grown hg h6.size fun k e=>by have:=(hrow k e).1;omega⟩;rcases h5.2 with ⟨rfl,_⟩|⟨g,cap,cur,rfl,_,hgb,_⟩
 ·exact .inl rfl
 ·refine .inr fun e'=>?_
  obtain⟨_,o,ho,hc⟩:=hrow g (by simpa [Value.ownBlock] using e'.symm);rw[hgb] at ho;cases ho;cases hc
theorem oV{X Y:World}{row:Option Nat}{a:Addr}{v:Value}{B:Nat}(h:X.cell? a=some v)(hg:X.grownBy Y row)(hrow:∀r,row=some r->B<=r/\∃o:Obj,X.heap[r]?=some o/\o.isCells=false):Y.cell? a=some v:=cell_kept h hg fun r e=>(hrow r e).2
theorem jos(w:World)(B:Nat)(hB:w.heap.size<=B)(c:Code):OwnFrom B (jtb w c):=by
 rintro pre X Y row ⟨e,q,x,e2,e3,h1,h2,h3,h6⟩ hg hrow;exact⟨e,q,x,e2,e3,oV h1 hg hrow,oV h2 hg hrow,oV h3 hg hrow,h6.grown hg h6.size fun k e=>by have:=(hrow k e).1;omega⟩
theorem gZ:∀(f p:Nat) (l:List UInt8),(vF f p l).toks.length<=l.length/\∀q e,(vF f p l).err=some (q,e)->q<=p+l.length/\e≠0/\0<=e/\e<=100
 |0,p,l=>by simp[vF]
 |f+1,p,[]=>by simp[vF]
 |f+1,p,c::r=>by
  rw[vF];split
  ·obtain⟨h1,h2⟩:=gZ f (p+1+jE kO r) (r.drop (jE kO r));have hle:=xJ kO r;rw[List.length_drop] at h1 h2;refine⟨by simp;omega,fun q e h=>?_⟩;obtain⟨h3,h4⟩:=h2 q e h;exact⟨by simp;omega,h4⟩
  ·split
   ·obtain⟨h1,h2⟩:=gZ f (p+1) r;refine⟨by simp;omega,fun q e h=>?_⟩;obtain⟨h3,h4⟩:=h2 q e h;exact⟨by simp;omega,h4⟩
   ·cases ht:qE (c::r) with
    |bad e =>
     refine⟨by simp,fun q e' h=>?_⟩;cases h;exact⟨by simp,jhr ht,jhs ht⟩
    |tok k len n =>
     have hl:=bO ht;obtain⟨h1,h2⟩:=gZ f (p+len) ((c::r).drop len);rw[List.length_drop] at h1 h2;refine⟨by simp only[Lx.cons,List.length_cons] at hl h1 ⊢;omega,fun q e h=>?_⟩;obtain⟨h3,h4⟩:=h2 q e h;exact⟨by omega,h4⟩
theorem jme{e:Int}(h:0<=e/\e<=100):clE e=e:=if_pos h
theorem jq3{l:List UInt8}{k:Int}{len:Nat}{n:Int}(h:qE l=.tok k len n):(1<=k/\k<=3)/\0<=n/\n<=2147483647:=by
 cases l with
 |nil=>simp[qE] at h
 |cons c r =>
  cases hL:isL c
  ·cases hD:wG c
   ·cases h3:qD pQ (bs ((c::r).take 2))
    ·cases h4:qD tB (bs [c])
     ·simp only[qE,hL,hD,h3,h4] at h;cases h
     ·simp only[qE,hL,hD,h3,h4] at h;cases h;decide
    ·simp only[qE,hL,hD,h3] at h;cases h;decide
   ·simp only[qE,hL,hD] at h;have hm:=jc2 (c::r.take (jE wG r)) 0 (by omega);split at h
    ·cases h
    ·rename_i hv;cases h;exact⟨by decide,by omega,hm⟩
  ·simp only[qE,hL] at h;split at h
   ·cases h
   ·cases h;decide
def jq0(t:Tk):Prop:=(1<=t.kind/\t.kind<=3)/\t.pos<=1000000000/\t.text.size<=1000000000/\0<=t.n/\t.n<=2147483647
theorem mE:∀(f p:Nat) (l:List UInt8),p+l.length<=1000000000->∀t∈(vF f p l).toks,jq0 t
 |0,p,l,_=>by simp[vF]
 |f+1,p,[],_=>by simp[vF]
 |f+1,p,c::r,hp=>by
  rw[vF];simp only[List.length_cons] at hp;split
  ·have hle:=xJ kO r;exact mE f _ _ (by rw[List.length_drop];omega)
  ·split
   ·exact mE f _ _ (by omega)
   ·cases ht:qE (c::r) with
    |bad e=>simp
    |tok k len n =>
     have hl:=bO ht;have hk:=jq3 ht;simp only[List.length_cons] at hl;intro t hm;simp only[Lx.cons,List.mem_cons] at hm;rcases hm with rfl|hm
     ·exact⟨hk.1,by show p<=_;omega,by show(bs ((c::r).take len)).size<=_;rw[eH,List.length_take];simp;omega,hk.2⟩
     ·exact mE f _ _ (by rw[List.length_drop];simp;omega) t hm
theorem joo{E:Env}{t:Tk}(h:jq0 t∨t.kind=0/\t.pos<=1000000000/\t.text.size=0/\t.n=0):A.repC (cR t) E (tkV t):=by
 have h2:(0<=t.kind/\t.kind<=3)/\t.pos<=1000000000/\t.text.size<=1000000000/\0<=t.n/\t.n<=2147483647:=by
  rcases h with ⟨h1,h2,h3,h4⟩|⟨h1,h2,h3,h4⟩
  ·exact⟨by omega,h2,h3,h4⟩
  ·exact⟨by omega,h2,by omega,by omega⟩
 obtain⟨h1,h3,h4,h5⟩:=h2;exact⟨_,_,rfl,rfl,A.rep_v (okV_int.2 (jH (by omega))),_,_,rfl,rfl,A.rep_v (okV_int.2 (jH (by omega))),_,_,rfl,rfl,A.rep_v (jn7 h4),_,_,rfl,rfl,A.rep_v (okV_int.2 (jH (by omega))),rfl⟩
theorem jku{E:Env}:∀{l:List Tk},(∀t∈l,jq0 t)->A.repC (z8 l) E (pP l)
 |[],_=>by simp[z8,pP,A.repC]
 |t::l,h=>by
  have:z8 (t::l)=cR t++z8 l:=rfl;rw[this,show pP (t::l)=tkV t++pP l from rfl];exact A.repC_append (joo (.inl (h t (by simp)))) (jku fun u hu=>h u (by simp[hu]))
theorem jrf{s:ByteArray}{ys:List It}(h:bY s ys)(hp:∀x∈ys,clE x.err=0):(qM s).err=none/\ys=(qM s).toks.map itOk:=by
 unfold bY at h;split at h
 ·rename_i he;exact⟨he,h⟩
 ·rename_i q e he;obtain⟨t,rfl⟩:=h;have h1:=(gZ _ _ _).2 q e he;have h2:=hp ⟨t,q,e⟩ (by simp)
  simp only at h2
  rw[jme h1.2.2] at h2;exact absurd h2 h1.2.1
theorem jo3{s:ByteArray}(hs:s.size<=1000000000){pre:List It}{x:It}(h:oP s (pre++[x]))(hx:clE x.err≠0):(qM s).err=some (x.pos,x.err)/\clP x.pos=x.pos/\clE x.err=x.err:=by
 obtain⟨ys,h1,h2⟩:=h;have hm:x∈ys:=h2.subset (by simp)
 have hit:∀t:Tk,(itOk t).err=0:=fun _=>rfl
 have hz:clE 0=0:=rfl;unfold bY at h1;split at h1
 ·subst h1;obtain⟨t,_,rfl⟩:=List.mem_map.1 hm;exact absurd hz hx
 ·rename_i q e he;obtain⟨t,rfl⟩:=h1;rcases List.mem_append.1 hm with hm|hm
  ·obtain⟨t,_,rfl⟩:=List.mem_map.1 hm;exact absurd hz hx
  ·obtain rfl:x=⟨t,q,e⟩:=by simpa using hm
   have h3:=(gZ _ _ _).2 q e he;have hsl:=zR s;exact⟨he,(show clP q=q from if_pos (by omega)),jme h3.2.2⟩
theorem jjp{p q:Prop}(h:p)(k:q):p/\q:=⟨h,k⟩
def iD(s:ByteArray):List Tk:=match (qM s).err with|some _=>[]|none=>(qM s).toks++[rI s]
theorem gR{s:ByteArray}(h:(qM s).err=none):iD s=(qM s).toks++[rI s]:=by unfold iD;rw[h]
theorem jdD{s:ByteArray}{p:Nat×Int}(h:(qM s).err=some p):iD s=[]:=by unfold iD;rw[h]
def jpO(s:ByteArray):Int×Int:=match (qM s).err with|some (p,e)=>(p,e)|none=>(0,0)
structure jt9(s:ByteArray)(w W':World)(v:Value):Prop where
 ex:∃y,v=.tuple #[y,.int .i64 (jpO s).1,.int .i64 (jpO s).2]/\W'.ownsRow w.heap.size 131 4 y (iD s).length (pP (iD s))
set_option maxRecDepth 100000 in
theorem jlx(s:ByteArray)(hs:s.size<=1000000000)(w:World)(C:Rd)(hg:Gok C w)(hsub:Sub C (kQ w)) :
  CallsIn Fence.wide 5 Tryz.prog 81 #[.string s] w fun e W'=>∃v,e=.returned v/\Below w.heap.size w W'/\(s7 s).rep ⟨zA C w W',[],[]⟩ v/\jt9 s w W' v:=by
 obtain⟨i0,hi,hz0,hz1,hz2⟩:=info_parts jpi;refine callsIn_of_wp_marks Tryz.func81 rfl trivial ?_;simp only[Tryz.ntmps81,List.size_toArray,List.length_cons,List.length_nil,Nat.reduceAdd,Nat.reduceSub,Array.replicate_succ,Array.replicate_zero,List.push_toArray,List.append_toArray,List.nil_append,List.cons_append]
 obtain⟨W0,hW0⟩:∃W0,W0=(((w.alloc (.cells #[.slice none 0 0] 116)).alloc (.cells #[.int .i64 0] 3)).alloc (.cells #[.int .i64 0] 27)).alloc (.cells #[.slice none 0 0] 116):=⟨_,rfl⟩
 have kp0:Keeps [] w W0:=by
  rw[hW0];exact(((Keeps.alloc w _).trans (Keeps.alloc _ _)).trans (Keeps.alloc _ _)).trans (Keeps.alloc _ _)
 have hsub0:Sub C (kQ W0):=fun ad u hc=>kp0.cell (hsub ad u hc) (by simp)
 have hg0:Gok C W0:=hg.keep kp0 (by simp);have hF:Fence.wide.fn 92:=trivial
 gi_wp2_with (gi_at_call 92;rw[<- hW0];refine(jpS s hs _ W0 C hg0 hsub0).mono ?_;rintro e w2 ⟨us,rfl,hk,hus⟩)
 have hsz0:W0.heap.size=w.heap.size+1+1+1+1:=by rw[hW0];simp
 have hB2:Below w.heap.size w w2:=by
  have:Below w.heap.size w W0:=by
   rw[hW0];exact((((Below.refl _ w).alloc (Nat.le_refl _) _).alloc (by simp) _).alloc (by simp;omega) _).alloc (by simp;omega) _
  exact this.trans ((Keeps.ext hk).mono (by omega))
 have bx2:Boxed w2 w.heap.size 116 (.slice none 0 0):=(hk.block _ (by omega) (by simp)).trans (by rw[hW0];exact(((Boxed.new w _ _).alloc _).alloc _).alloc _);have bx3:Boxed w2 (w.heap.size+1) 3 (.int .i64 0):=(hk.block _ (by omega) (by simp)).trans (by rw[hW0];have:=Boxed.new (w.alloc (.cells #[.slice none 0 0] 116)) 3 (.int .i64 0);rw[World.size_alloc] at this;exact(this.alloc _).alloc _);have bx4:Boxed w2 (w.heap.size+1+1) 27 (.int .i64 0):=(hk.block _ (by omega) (by simp)).trans (by rw[hW0];have:=Boxed.new ((w.alloc (.cells #[.slice none 0 0] 116)).alloc (.cells #[.int .i64 0] 3)) 27 (.int .i64 0);rw[World.size_alloc,World.size_alloc] at this;exact this.alloc _);have bx5:Boxed w2 (w.heap.size+1+1+1) 116 (.slice none 0 0):=(hk.block _ (by omega) (by simp)).trans (by rw[hW0];have:=Boxed.new (((w.alloc (.cells #[.slice none 0 0] 116)).alloc (.cells #[.int .i64 0] 3)).alloc (.cells #[.int .i64 0] 27)) 116 (.slice none 0 0);rw[World.size_alloc,World.size_alloc,World.size_alloc] at this;exact this)
 have hown:∀b,dP (w.heap.size+1+1+1) w2 b->b=w.heap.size+1+1+1:=by
  rintro b (e|⟨a,l,c,h1,h2⟩)
  ·exact e
  ·rw[bx5.cell] at h1;cases h1
 have hval:ValB (w.heap.size+1+1+1) w2:=⟨⟨_,bx5,rfl⟩,fun b hb=>by have:=hown b hb;have:=hk.size;omega⟩
 have hplus:Sub C (zA C W0 w2):=fun ad u hc=>by
  unfold zA;rw[if_pos (qI W0 ad (hsub0 ad u hc))];exact hc
 have hseq:=jh2 s hs (5-1) (w.heap.size+1+1+1) us w2 (zA C W0 w2) hval (dR hsub0 (Y:=[]) (fun b hb=>by simp at hb) hk) ((hg0.keep hk (by simp)).mono hplus) (fun ad u hc ho=>by
  have e:=hown _ ho;unfold zA at hc;rw[if_pos (by omega)] at hc;have:=qI w ad (hsub ad u hc)
  omega) hus
 refine wpIn_rangeFunc_ownH rfl (by decide) (gf:=106) (lb:=us) rfl trivial (enters_of Tryz.func106 (by kernel_rfl) rfl) hseq (fun h k=>h.trans k) (fun W l o o' _ h1 h2 h3=>KpB.put W l o o' h1 (jn0 h2 h3)) (Below.refl _ _) (fun _=>rfl)
  (jta w) (jtb w) (jbW w _ hB2.size) (fun c=>jos w _ hB2.size c) ⟨by simp,bx2,bx3,bx4,⟨_,bx5,World.ownsRow_nil _ _ _ _⟩,hB2⟩ (jr9 s us w) (fun x a'=>joq s us w x a' _) ?assign ?body ?done ?stop
 case assign =>
  rintro l pre ⟨tk,xp0,xe0⟩ W K hI hK;simp only[jmB,jlv];simp only[jr9,jsN] at hK;generalize clP xp0=xp at *;generalize clE xe0=xe at *
  gi_wp2
  refine hK _ _ (((KeepsOthers.alloc W _).trans (KeepsOthers.alloc _ _)).from _) (KpB.keeps ((Keeps.alloc W _).trans (Keeps.alloc _ _))) ((jbW w _ (Nat.le_refl _)).alloc _ ((jbW w _ (Nat.le_refl _)).alloc _ hI)) ⟨_,_,rfl,?_,?_⟩
  ·exact(Below.heap_alloc _ _ _ (by simp)).trans (World.alloc_heap_new W _)
  ·have:=World.alloc_heap_new (W.alloc (.cells (tkV tk).toArray 131)) (.cells #[.int .i64 xp,.int .i64 xe] 133);rw[World.size_alloc] at this;exact this
 case body =>
  rintro l pre ⟨tk,xp0,xe0⟩ a' W hBl hrec ⟨hpre,c2,c3,c4,⟨y,c5,hrow⟩,hB⟩ ⟨b6,b7,rfl,hb6,hb7⟩ hlt;have hcy:=c5.cell;simp only[jsN,jlv,tkV] at hb6 hb7 ⊢;have hxpr:=jjx xp0;have hxer:=jjw xe0
  obtain⟨xp,hxp⟩:∃xp,xp=clP xp0:=⟨_,rfl⟩
  obtain⟨xe,hxe0⟩:∃xe,xe=clE xe0:=⟨_,rfl⟩
  rw[<- hxp] at hb7 hxpr ⊢;rw[<- hxe0] at hb7 hxer ⊢
  have d70:W.cell? ⟨b7,0,none⟩=some (.int .i64 xp):=by simp[World.cell?,hb7]
  have d71:W.cell? ⟨b7,1,none⟩=some (.int .i64 xe):=by simp[World.cell?,hb7]
  have d60:W.cell? ⟨b6,0,none⟩=some (.int .i64 tk.kind):=by simp[World.cell?,hb6]
  have d61:W.cell? ⟨b6,1,none⟩=some (.int .i64 tk.pos):=by simp[World.cell?,hb6]
  have d62:W.cell? ⟨b6,2,none⟩=some (.string tk.text):=by simp[World.cell?,hb6]
  have d63:W.cell? ⟨b6,3,none⟩=some (.int .i64 tk.n):=by simp[World.cell?,hb6]
  have hmL:pre.length+1<=maxLen:=by unfold maxLen;omega
  have hrow':=hrow.alloc (.cells #[.int .i64 tk.kind,.int .i64 tk.pos,.string tk.text,.int .i64 tk.n] 131);have hBs:=hB.size;by_cases hxe:xe=0
  ·rw[hxe] at hxe0 hb7 d71 ⊢
   gi_wp2_with (gi_at_builtin;refine aI _ rfl _ _ 116 rfl w.heap.size 131 i0 _ 4 40 Tryz.underlying116 hi hz0 hz1 hz2 rfl (by decide) y pre.length (pP (pre.map It.tok)) rfl hrow' ⟨W.heap.size,0,none⟩ 1 1 (tkV tk) rfl rfl (jaw _ _ _ _ _ _) (by simp[Value.oneCell',tkV]) hmL (by omega) (by simp;omega) ?_;intro v' w1 hown' hgrow hwhere;obtain⟨g',cap',rfl⟩:=ownsRow_succ hown';obtain⟨hv1,hv2,hr2,hk2,hb2⟩:=c5.appended (by decide) hrow hB.size (by omega) hown' hgrow;have hc1:=hv1.cell;have hf1:=hv1.frozen)
   have keep:∀{b T v},Boxed W b T v->T≠131->b≠w.heap.size+1+1+1->Boxed (w1.setCell ⟨w.heap.size+1+1+1,0,none⟩ (.slice (some ⟨g',0,none⟩) (pre.length+1) cap')) b T v:=fun h hT hb =>
    ((h.alloc _).kept hgrow (h.not_row hT hrow)).kept (grownBy_setCell' _ _ _) (fun e=>hb (by cases e;rfl))
   refine⟨hk2.from _,jkY c5 hrow hgrow hwhere hv2 hr2,fun x hx=>?_,keep c2 (by decide) (by omega),keep c3 (by decide) (by omega),keep c4 (by decide) (by omega),⟨_,hv2,?_⟩,hB.trans hb2⟩
   ·rcases List.mem_append.1 hx with hx|hx
    ·exact hpre x hx
    ·obtain rfl:x=⟨tk,xp0,xe0⟩:=by simpa using hx
     exact hxe0.symm
   ·have:pP ((pre++[(⟨tk,xp0,xe0⟩:It)]).map It.tok)=pP (pre.map It.tok)++tkV tk:=by simp[pP]
    rw[this,List.length_append];exact hr2
  ·gi_wp2
   rename_i K1 hK1 hb1 K2 hK2;have hc:(Cx.mk Tryz.prog tab jqP (fun _=>[0,1,2]) 3 (fun _ _=>False)).okN:=jmj jqP (fun _=>[0,1,2]) 3
   obtain⟨C0,hC0⟩:∃C0:Rd,C0=fun ad=>if ad.block=b7 then kQ W ad else C ad:=⟨_,rfl⟩
   have hsubW:Sub C (kQ W):=fun ad u h=>(aP (w:=w) (hB.block _ (qI w ad (hsub ad u h)))).trans (hsub ad u h)
   have hgW:Gok C W:=hg.keep (Keeps.of_ext hB) (by simp)
   have hs0:Sub C0 (kQ W):=fun ad u h=>by
    rw[hC0] at h
    simp only at h
    split at h
    ·exact h
    ·exact hsubW ad u h
   have hC:Sub C C0:=fun ad u h=>by
    rw[hC0]
    simp only
    split
    ·exact hsubW ad u h
    ·exact h
   have hne:∀{b T v},Boxed W b T v->T≠133->b≠b7:=fun h hT e=>by
    rw[e] at h;have:=h.symm.trans hb7;simp only[Option.some.injEq,Obj.cells.injEq] at this;exact hT this.2.1
   have hnone:∀b,b≠b7->w.heap.size<=b->∀o sp,C0 ⟨b,o,sp⟩=none:=fun b hb hw o sp=>by
    rw[hC0];simp only[if_neg hb]
    cases h:C ⟨b,o,sp⟩ with
    |none=>rfl
    |some u =>
     have:b<w.heap.size:=qI w _ (hsub _ u h);omega
   have hpp:(A.pp [.v (.int .i64 xp),.v (.int .i64 xe)]).rep ⟨C0,[w.heap.size,w.heap.size+1,w.heap.size+1+1],[]⟩ (.pointer (some ⟨b7,0,none⟩)):=by
    unfold A.rep;refine⟨b7,0,rfl,⟨.int .i64 xp,?_,rfl,A.rep_v (okV_int.2 (jH (by omega)))⟩,⟨.int .i64 xe,?_,rfl,A.rep_v (okV_int.2 (jH (by omega)))⟩,trivial⟩
    ·rw[hC0];exact(if_pos rfl).trans d70
    ·rw[hC0];exact(if_pos rfl).trans d71
   have hinv:=fun(a:Act) ht hd=>jrY (a:=a) (C0:=C0) (W:=W) (β:=[w.heap.size,w.heap.size+1,w.heap.size+1+1]) (bx:=[[.v (.slice none 0 0)],[.v (.int .i64 0)],[.v (.int .i64 0)]]) (t:=[.dead,.dead,.box 0 0,.box 1 0,.box 2 0,.dead,.dead,.pp [.v (.int .i64 xp),.v (.int .i64 xe)],.dead,.dead,.dead,.dead,.dead,.dead,.dead,.dead,.dead,.dead,.dead,.dead,.dead,.dead,.dead,.dead,.dead,.dead,.dead,.dead,.dead]) (hgW.mono hC) hs0 (by simp;omega) (fun b hb=>by
     simp only[List.mem_cons,List.not_mem_nil,or_false] at hb;rcases hb with rfl|rfl|rfl
     ·exact hnone _ (hne c2 (by decide)) (by omega)
     ·exact hnone _ (hne c3 (by decide)) (by omega)
     ·exact hnone _ (hne c4 (by decide)) (by omega)) rfl (fun i b cs h1 h2=>by
     match i,h1,h2 with
     |0,h1,h2=>cases h1;cases h2;exact jej c2 trivial
     |1,h1,h2=>cases h1;cases h2;exact jej c3 (okV_int.2 (jH (by omega)))
     |2,h1,h2=>cases h1;cases h2;exact jej c4 (okV_int.2 (jH (by omega)))
     |n+3,h1,h2=>simp at h1) ht hd
   refine jlg hc (hinv _ ?_ ?_) rfl rfl (by kernel_rfl) rfl ?_
   ·exact⟨_,_,rfl,A.rep_dead _ _,_,_,rfl,A.rep_dead _ _,_,_,rfl,(by unfold A.rep;exact⟨_,rfl,rfl⟩),_,_,rfl,(by unfold A.rep;exact⟨_,rfl,rfl⟩),_,_,rfl,(by unfold A.rep;exact⟨_,rfl,rfl⟩),_,_,rfl,A.rep_dead _ _,_,_,rfl,A.rep_dead _ _,_,_,rfl,hpp,_,_,rfl,A.rep_dead _ _,_,_,rfl,A.rep_dead _ _,_,_,rfl,A.rep_dead _ _,_,_,rfl,A.rep_dead _ _,_,_,rfl,A.rep_dead _ _,_,_,rfl,A.rep_dead _ _,_,_,rfl,A.rep_dead _ _,_,_,rfl,A.rep_dead _ _,_,_,rfl,A.rep_dead _ _,_,_,rfl,A.rep_dead _ _,_,_,rfl,A.rep_dead _ _,_,_,rfl,A.rep_dead _ _,_,_,rfl,A.rep_dead _ _,_,_,rfl,A.rep_dead _ _,_,_,rfl,A.rep_dead _ _,_,_,rfl,A.rep_dead _ _,_,_,rfl,A.rep_dead _ _,_,_,rfl,A.rep_dead _ _,_,_,rfl,A.rep_dead _ _,_,_,rfl,A.rep_dead _ _,_,_,rfl,A.rep_dead _ _,rfl⟩
   ·rfl
   conv=>whnf
   refine⟨rfl,fun a9 w9 hi9=>hK2 _ _ (wpIn_ret ?_)⟩;have h90:=jao hi9 (i:=0) rfl rfl;have h91:=jao hi9 (i:=1) rfl rfl;have h92:=jao hi9 (i:=2) rfl rfl
   have hk9:Keeps [w.heap.size,w.heap.size+1,w.heap.size+1+1] W w9:=by obtain⟨E,hp,_,_⟩:=hi9;exact hp.keep
   refine⟨⟨hk9.size,fun b o hb h1 h2=>(hk9.block b (vL h1) fun hm=>?_).trans h1⟩,rfl,pre,_,rfl,by rw[<- hxe0];exact hxe,h90,by rw[<- hxp];exact h91,by rw[<- hxe0];exact h92,hB.trans ⟨hk9.os,hk9.tape,hk9.output,hk9.size,fun b hb=>hk9.block b (by omega) fun hm=>?_⟩⟩
   ·have hnc:∀{T v},Boxed W b T v->False:=fun h=>by
     have:=h.symm.trans h1;cases this;cases h2
    simp only[List.mem_cons,List.not_mem_nil,or_false] at hm;rcases hm with rfl|rfl|rfl
    ·exact hnc c2
    ·exact hnc c3
    ·exact hnc c4
   ·simp only[List.mem_cons,List.not_mem_nil,or_false] at hm;omega
 case done =>
  rintro D ys W hD hS ⟨hpre,c2,c3,c4,⟨y,c5,hrow⟩,hB⟩ hK;have hcy:=c5.cell;have hc2:=c2.cell;have hc3:=c3.cell;have hc4:=c4.cell;have hf2:=c2.frozen;have hf3:=c3.frozen;have hf4:=c4.frozen;have hrow':=hrow.alloc (.cells #[.int .i64 0,.int .i64 s.size,.string ⟨#[]⟩,.int .i64 0] 131);have hBs:=hB.size;obtain⟨herr,hys⟩:=jrf hS hpre
  have hyl:ys.length<=s.size:=by
   rw[hys,List.length_map];have:=(gZ (s.data.toList.length+1) 0 s.data.toList).1;have hsl:=zR s;exact Nat.le_trans this (by omega)
  have hmL:ys.length+1<=maxLen:=by unfold maxLen;omega
  clear hcy hc2 hc3 hc4 hf2 hf3 hf4;have hcy:=c5.cell
  gi_wp2_with (gi_at_builtin;refine aI _ rfl _ _ 116 rfl w.heap.size 131 i0 _ 4 40 Tryz.underlying116 hi hz0 hz1 hz2 rfl (by decide) y ys.length (pP (ys.map It.tok)) rfl hrow' ⟨W.heap.size,0,none⟩ 1 1 (tkV (rI s)) rfl rfl (jaw _ _ _ _ _ _) (by simp[Value.oneCell',tkV]) hmL (by omega) (by simp;omega) ?_;intro v' w1 hown' hgrow hwhere;obtain⟨g',cap',rfl⟩:=ownsRow_succ hown';have k2:=(c2.alloc _).kept hgrow (c2.not_row (by decide) hrow);have k3:=(c3.alloc _).kept hgrow (c3.not_row (by decide) hrow);have k4:=(c4.alloc _).kept hgrow (c4.not_row (by decide) hrow);have hc2:=k2.cell;have hc3:=k3.cell;have hc4:=k4.cell;have hf2:=k2.frozen;have hf3:=k3.frozen;have hf4:=k4.frozen)
  have n25:w.heap.size≠w.heap.size+1:=by omega
  have hkD:w1.heap[D]?=some (.deferred (some [])):=by
   refine(hgrow.block D ?_ fun e=>?_).trans ((Below.heap_alloc _ _ _ (vL hK)).trans hK)
   ·have:=vL hK;rw[World.size_alloc];omega
   ·rcases hrow.2 with ⟨rfl,_⟩|⟨g,cap,cur,rfl,_,hgb,_⟩
    ·simp[Value.ownBlock] at e
    ·obtain rfl:D=g:=by simpa [Value.ownBlock] using e
     rw[hK] at hgb;cases hgb
  have hB1:Below w.heap.size W w1:=by
   refine((Below.refl w.heap.size W).alloc hBs _).grown hgrow (by simp;omega) fun j ej=>?_
   rcases hrow.2 with ⟨rfl,_⟩|⟨g,cap,cur,rfl,hb,_,_⟩
   ·simp[Value.ownBlock] at ej
   ·obtain rfl:g=j:=by simpa [Value.ownBlock] using ej
    exact hb
  have e1:w.heap.size≠w.heap.size+1:=by omega
  have e2:w.heap.size≠w.heap.size+1+1:=by omega
  have e3:w.heap.size+1≠w.heap.size+1+1:=by omega
  have hyn:ys.length=(qM s).toks.length:=by rw[hys,List.length_map]
  rw[hyn] at hown';generalize hv':Value.slice (some ⟨g',0,none⟩) ((qM s).toks.length+1) cap'=v' at *;have o1:=hown'.kept (grownBy_setCell' w1 w.heap.size v') (.inr (k2.not_row (by decide) hown').symm);have k3a:=k3.other e1.symm v';have o2:=o1.kept (grownBy_setCell' _ (w.heap.size+1) (.int .i64 0)) (.inr (k3a.not_row (by decide) o1).symm);have k4b:=(k4.other e2.symm v').other e3.symm (.int .i64 0);have o3:=o2.kept (grownBy_setCell' _ (w.heap.size+1+1) (.int .i64 0)) (.inr (k4b.not_row (by decide) o2).symm);have x2:=((k2.set v').other e1 (.int .i64 0)).other e2 (.int .i64 0);have x3:=(k3a.set (.int .i64 0)).other e3 (.int .i64 0);have x4:=k4b.set (.int .i64 0);have hB3:=((hB1.setCell (p:=⟨w.heap.size,0,none⟩) (Nat.le_refl _) v').setCell (p:=⟨w.heap.size+1,0,none⟩) (by simp) (.int .i64 0)).setCell (p:=⟨w.heap.size+1+1,0,none⟩) (by simp;omega) (.int .i64 0)
  have hDl:w.heap.size+1+1+1<D:=by have:=hk.size;omega
  have hD3:=(Below.heap_setCell _ ⟨w.heap.size+1+1,0,none⟩ (.int .i64 0) D (by simp;omega)).trans ((Below.heap_setCell _ ⟨w.heap.size+1,0,none⟩ (.int .i64 0) D (by simp;omega)).trans ((Below.heap_setCell _ ⟨w.heap.size,0,none⟩ v' D (by simp;omega)).trans hkD));generalize ((w1.setCell ⟨w.heap.size,0,none⟩ v').setCell ⟨w.heap.size+1,0,none⟩ (.int .i64 0)).setCell ⟨w.heap.size+1+1,0,none⟩ (.int .i64 0)=W3 at *;refine⟨by simp,.inl ⟨_,_,rfl,run_takeDeferred hD3,?_⟩⟩;have hg3:=grownBy_putObj' W3 D (.deferred none)
  have hr3:∀r,some D=some r->∃o:Obj,W3.heap[r]?=some o/\o.isCells=false:=fun r e=>by cases e;exact⟨_,hD3,rfl⟩
  have y2:=cell_kept x2.cell hg3 hr3;have y3:=cell_kept x3.cell hg3 hr3;have y4:=cell_kept x4.cell hg3 hr3;have o4:=ownsRow_putObj o3 (.deferred none) hD3 rfl;have hB4:=(hB.trans hB3).trans (belowK_b (w:=w) (Nat.le_refl _) W3 D _ (.deferred none) (by omega) hD3 rfl rfl);generalize W3.putObj D (.deferred none)=W4 at *;refine⟨.tuple #[v',.int .i64 0,.int .i64 0],jgT jbQ rfl rfl rfl rfl rfl rfl rfl rfl rfl rfl y2 y3 y4,_,rfl,hB4,?_⟩
  have hxs0:ys.map It.tok=(qM s).toks:=by rw[hys,List.map_map];exact List.map_id'' (fun _=>rfl) _
  refine jjp ?_ ⟨⟨v',by unfold jpO;rw[herr],by rw[gR herr,List.length_append,List.length_singleton];rw[hxs0] at o4;rw[show pP ((qM s).toks++[rI s])=pP (qM s).toks++tkV (rI s) by simp[pP]];exact o4⟩⟩
  have hlx:s7 s=.tup [.sl 4 ((qM s).toks.length+1) (z8 (qM s).toks++cR (rI s)),intA 0,intA 0]:=by unfold s7;rw[herr];simp[z8]
  rw[hlx];unfold A.rep;refine⟨_,rfl,_,_,rfl,?_,_,_,rfl,A.rep_v (okV_int.2 (jH (by omega))),_,_,rfl,A.rep_v (okV_int.2 (jH (by omega))),rfl⟩
  have hxs:ys.map It.tok=(qM s).toks:=by rw[hys,List.map_map];exact List.map_id'' (fun _=>rfl) _
  have hsl:=zR s
  have htl:∀l:List Tk,(z8 l).length=l.length*4:=fun l=>by
   induction l with
   |nil=>rfl
   |cons t l ih=>rw[show z8 (t::l)=cR t++z8 l from rfl,List.length_append,ih,List.length_cons];simp only[cR,List.length_cons,List.length_nil];omega
  rw[hxs] at o4;rcases o4.2 with ⟨h,_⟩|⟨g,cap,cur,hv4,hbg,hgb,hnc,hcm,hcs,htk⟩
  ·rw[<- hv'] at h;cases h
  ·unfold A.rep;refine⟨by rw[List.length_append,htl];simp only[cR,List.length_cons,List.length_nil];omega,by rw[hyn] at hmL;exact hmL,some ⟨g,0,none⟩,g,0,cap,hv4,hnc,.inr rfl,(fun e=>by simp at e),?_⟩
   refine A.repAt_mk (A.repC_append (jku (mE _ _ _ (by omega))) (joo (.inr ⟨rfl,by show s.size<=_;omega,rfl,rfl⟩))) fun j u hj=>?_
   show zA C w W4 ⟨g,0+j,none⟩=some u;rw[jbk hbg,Nat.zero_add];simp only[World.cell?,hgb];have hj2:(pP (qM s).toks++tkV (rI s))[j]?=some u:=hj;rw[<- htk,List.getElem?_take] at hj2;split at hj2
   ·simpa using hj2
   ·cases hj2
 case stop =>
  rintro D c pre W hD hSp ⟨rfl,q,x,rfl,hx,h2,h3,h4,hB⟩ hK;obtain⟨herr,hxp,hxe⟩:=jo3 hs hSp hx
  gi_wp2
  refine⟨by simp,.inl ⟨_,_,rfl,run_takeDeferred hK,?_⟩⟩;have hg3:=grownBy_putObj' W D (.deferred none)
  have hr3:∀r,some D=some r->∃o:Obj,W.heap[r]?=some o/\o.isCells=false:=fun r e=>by cases e;exact⟨_,hK,rfl⟩
  have g2:=cell_kept h2 hg3 hr3;have g3:=cell_kept h3 hg3 hr3;have g4:=cell_kept h4 hg3 hr3;refine⟨.tuple #[.slice none 0 0,.int .i64 (clP x.pos:Nat),.int .i64 (clE x.err)],?_,_,rfl,hB.trans (belowK_b (w:=w) (Nat.le_refl _) W D _ _ (by have:=hB2.size;omega) hK rfl rfl),?_⟩
  ·exact jgT jbQ rfl rfl rfl rfl rfl rfl rfl rfl rfl rfl g2 g3 g4
  ·refine jjp ?_ ⟨⟨.slice none 0 0,by unfold jpO;rw[herr,hxp,hxe],by rw[jdD herr];exact World.ownsRow_nil _ _ _ _⟩⟩
   have hlx:s7 s=.tup [.v (.slice none 0 0),intA x.pos,intA x.err]:=by unfold s7;rw[herr]
   have hr1:=jjx x.pos;have hr2:=jjw x.err;rw[hlx,hxp,hxe];rw[hxp] at hr1;rw[hxe] at hr2;unfold A.rep;exact⟨_,rfl,_,_,rfl,A.rep_v trivial,_,_,rfl,A.rep_v (okV_int.2 (jH (by omega))),_,_,rfl,A.rep_v (okV_int.2 (jH (by omega))),rfl⟩
theorem jht(s:ByteArray)(hs:s.size<=1000000000):Spec Tryz.prog 81 [] [.v (.string s)] fun _ r=>r=s7 s:=by
 refine lO (eJ Tryz.func81 rfl (by kernel_rfl)) fun w C vals hg hsub hv=>?_
 obtain⟨u,us,rfl,h1,h2⟩:=hv;have e1:=(A.rep_v_iff.1 h1).1;obtain rfl:us=[]:=h2;subst e1;refine(callsIn_wide.1 (jlx s hs w C hg hsub)).mono ?_;rintro e w' ⟨v,rfl,hB,hr,_⟩;exact⟨v,rfl,hB,hr⟩
theorem jke(s:ByteArray)(hs:s.size<=1000000000):∀t∈iD s,jq0 t∨t.kind=0/\t.pos<=1000000000/\t.text.size=0/\t.n=0:=fun t ht=>by
 cases he:(qM s).err with
 |some p=>rw[jdD he] at ht;cases ht
 |none =>
  rw[gR he] at ht;rcases List.mem_append.1 ht with h|h
  ·exact .inl (mE _ _ _ (by have:=zR s;omega) t h)
  ·obtain rfl:=List.mem_singleton.1 h;exact .inr ⟨rfl,hs,rfl,rfl⟩
end Go.Proofs.YtdnnmiemgmgffaaGreatDoor.Vm
namespace Go.Proofs.YtdnnmiemgmgffaaGreatDoor.Vm
open Go.RowKit Go.Shelf
inductive Fm where
 |mk (k a b n:Int) (kids:List Fm)
inductive Ps where
 |ok (f:Fm) (r:List Tk)
 |bad (p e:Int)
def tk0:Tk:=⟨0,0,⟨#[]⟩,0⟩
def hd(ts:List Tk):Tk:=ts.headD tk0
def isT(s:ByteArray)(ts:List Tk):Bool:=decide ((hd ts).text=s)&&((!decide ((hd ts).kind=2))&&(!decide ((hd ts).kind=0)))
theorem jq1(l:List Tk):(z8 l).length=l.length*4:=by
 induction l with
 |nil=>rfl
 |cons t l ih=>rw[show z8 (t::l)=cR t++z8 l from rfl,List.length_append,ih,List.length_cons];simp only[cR,List.length_cons,List.length_nil];omega
theorem nZ{ts:List Tk}(h:0<ts.length):jD 4 (Int.toNat 0) (z8 ts)=cR (hd ts):=by
 cases ts with
 |nil=>simp at h
 |cons t r=>exact xU cR (fun _=>rfl) (t::r) 0 (by simp)
theorem jop{ts:List Tk}(h:0<ts.length):((z8 ts).drop 4).take ((ts.length-1)*4)=z8 ts.tail:=by
 cases ts with
 |nil=>simp at h
 |cons t r =>
  show(z8 r).take ((r.length+1-1)*4)=z8 r;refine List.take_of_length_le ?_;rw[jq1];simp
inductive Nt where
 |mk (k n:Int) (s:ByteArray) (kids:List Nt)
def Nt.k:Nt->Int|.mk k _ _ _=>k
def Nt.n:Nt->Int|.mk _ n _ _=>n
def Nt.s:Nt->ByteArray|.mk _ _ s _=>s
def Nt.kids:Nt->List Nt|.mk _ _ _ l=>l
mutual
def nt0:Nt->List A
 |.mk k n s l=>[intA k,intA n,jX s,.sl 4 l.length (jiz l)]
def jiz:List Nt->List A
 |[]=>[]
 |f::l=>nt0 f++jiz l
end
@[irreducible] def qW(l:List Nt):List A:=jiz l
def ntA(f:Nt):List A:=[intA f.k,intA f.n,jX f.s,.sl 4 f.kids.length (qW f.kids)]
theorem jiy(f:Nt):nt0 f=ntA f:=by
 cases f with
 |mk k n s l=>unfold nt0 ntA qW;rfl
theorem kY:qW []=[]:=by unfold qW jiz;rfl
theorem zT(f:Nt)(l:List Nt):qW (f::l)=ntA f++qW l:=by
 unfold qW;rw[<- jiy]
 conv=>lhs;unfold jiz
theorem jnj(l m:List Nt):qW (l++m)=qW l++qW m:=by
 induction l with
 |nil=>rw[List.nil_append,kY,List.nil_append]
 |cons f l ih=>rw[List.cons_append,zT,zT,ih,List.append_assoc]
theorem jl5(l:List Nt):qW l=l.flatMap ntA:=by
 induction l with
 |nil=>rw[kY];rfl
 |cons f l ih=>rw[zT,ih,List.flatMap_cons]
theorem mG(l:List Nt)(f:Nt):qW (l++[f])=qW l++ntA f:=by rw[jnj,zT,kY,List.append_nil]
theorem qT(l:List Nt)(i:Nat)(hi:i<l.length):jD 4 i (qW l)=ntA l[i]:=by rw[jl5];exact xU ntA (fun _=>rfl) l i hi
def pLp:ByteArray:=⟨#[40]⟩
def pRp:ByteArray:=⟨#[41]⟩
def pLb:ByteArray:=⟨#[123]⟩
def pRb:ByteArray:=⟨#[125]⟩
def jO:ByteArray:=⟨#[59]⟩
def jZ:ByteArray:=⟨#[44]⟩
def pEq:ByteArray:=⟨#[61]⟩
def pNot:ByteArray:=⟨#[33]⟩
def pMinus:ByteArray:=⟨#[45]⟩
def dQ:ByteArray:=⟨#[43]⟩
def vZ:ByteArray:=⟨#[42]⟩
def yG:ByteArray:=⟨#[47]⟩
def k9:ByteArray:=⟨#[38,38]⟩
def pOr:ByteArray:=⟨#[124,124]⟩
def pLt:ByteArray:=⟨#[60]⟩
def pLe:ByteArray:=⟨#[60,61]⟩
def pGt:ByteArray:=⟨#[62]⟩
def pGe:ByteArray:=⟨#[62,61]⟩
def jnu:ByteArray:=⟨#[61,61]⟩
def pNe:ByteArray:=⟨#[33,61]⟩
def xL:ByteArray:=⟨#[100,117,114,97,98,108,101]⟩
def vE:ByteArray:=⟨#[118,111,108,97,116,105,108,101]⟩
def wOn:ByteArray:=⟨#[111,110]⟩
def aB:ByteArray:=⟨#[115,116,97,114,116]⟩
def wRequest:ByteArray:=⟨#[114,101,113,117,101,115,116]⟩
def wTimer:ByteArray:=⟨#[116,105,109,101,114]⟩
def wMessage:ByteArray:=⟨#[109,101,115,115,97,103,101]⟩
def wIf:ByteArray:=⟨#[105,102]⟩
def f9:ByteArray:=⟨#[101,108,115,101]⟩
def wWhile:ByteArray:=⟨#[119,104,105,108,101]⟩
def gC:ByteArray:=⟨#[115,101,110,100]⟩
def kN:ByteArray:=⟨#[99,97,110,99,101,108]⟩
def wSync:ByteArray:=⟨#[115,121,110,99]⟩
def yJ:ByteArray:=⟨#[114,101,112,108,121]⟩
def wFail:ByteArray:=⟨#[102,97,105,108]⟩
def wStop:ByteArray:=⟨#[115,116,111,112]⟩
def uP:ByteArray:=⟨#[116,114,117,101]⟩
def lT:ByteArray:=⟨#[102,97,108,115,101]⟩
def uO:ByteArray:=⟨#[100,114,97,119]⟩
def keyL:List ByteArray:=[xL,vE,wOn,aB,wRequest,wTimer,wMessage,wIf,f9,wWhile,gC,kN,wSync,yJ,wFail,wStop,uP,lT,uO]
def builtL:List ByteArray:=[⟨#[115,101,108,102]⟩,⟨#[110,111,100,101,115]⟩,⟨#[110,111,119]⟩,⟨#[102,114,111,109]⟩,⟨#[97]⟩,⟨#[98]⟩,⟨#[105,100]⟩,⟨#[111,112]⟩,⟨#[107,101,121]⟩]
def eB:ByteArray:=⟨#[]⟩
inductive Pn where
 |ok (f:Nt) (r:List Tk)
 |bad (p e:Int)
def q8(s:ByteArray)(ts:List Tk):Bool:=decide ((hd ts).text=s)&&(decide ((hd ts).kind=1)||decide ((hd ts).kind=3))
def bU(l:List ByteArray)(ts:List Tk):Bool:=l.any fun s=>q8 s ts
def wQ(ts:List Tk):Bool:=decide ((hd ts).kind=1) && !(keyL++builtL).any fun s=>decide ((hd ts).text=s)
def jgk(ts:List Tk):Bool:=decide ((hd ts).kind=1)&&builtL.any fun s=>decide ((hd ts).text=s)
def synE(ts:List Tk):Pn:=.bad (hd ts).pos 10
def xpt(s:ByteArray)(ts:List Tk)(k:List Tk->Pn):Pn:=if q8 s ts=true then k ts.tail else synE ts
def Pn.andThen:Pn->(Nt->List Tk->Pn)->Pn
 |.ok f r,k=>k f r
 |.bad x e,_=>.bad x e
structure Pa where
 no:List Tk->Pn
 un:List Tk->Pn
 ex:List Tk->Pn
 bl:List Tk->Pn
def cD(low:Option Pa)(ts:List Tk):Pn :=
 if q8 pLp ts=true then match low with
  |none=>.bad (hd ts).pos 2
  |some p=>(p.ex ts.tail).andThen fun n r=>xpt pRp r fun r'=>.ok n r'
 else synE ts
def dS(low:Option Pa)(ts:List Tk):Pn :=
 if q8 pLp ts=true then cD low ts
 else if q8 uO ts=true then(cD low ts.tail).andThen fun n r=>.ok (.mk 16 0 eB [n]) r
 else if (hd ts).kind=2 then .ok (.mk 12 (hd ts).n eB []) ts.tail
 else if q8 uP ts=true then .ok (.mk 13 1 eB []) ts.tail
 else if q8 lT ts=true then .ok (.mk 13 0 eB []) ts.tail
 else if wQ ts=true then .ok (.mk 14 0 (hd ts).text []) ts.tail
 else if jgk ts=true then .ok (.mk 15 0 (hd ts).text []) ts.tail
 else synE ts
def tE(s:ByteArray)(op:Option (List Tk->Pn))(ts:List Tk):Pn:=match op with
 |none=>.bad (hd ts).pos 2
 |some f=>(f ts.tail).andThen fun n r=>.ok (.mk 17 0 s [n]) r
def aA(low:Option Pa)(ts:List Tk):Pn:=if q8 pMinus ts=true then tE pMinus (low.map (·.un)) ts else dS low ts
def wZ(op:List Tk->Pn)(signs:List ByteArray):Nat->Nt->List Tk->Pn
 |0,l,ts=>.ok l ts
 |n+1,l,ts=>if bU signs ts=true then(op ts.tail).andThen fun f r=>wZ op signs n (.mk 18 0 (hd ts).text [l,f]) r else .ok l ts
def wF(op:List Tk->Pn)(signs:List ByteArray)(ts:List Tk):Pn:=(op ts).andThen fun f r=>wZ op signs r.length f r
def cmpL:List ByteArray:=[pLt,pLe,pGt,pGe,jnu,pNe]
def jbP(low:Option Pa):List Tk->Pn:=wF (wF (aA low) [vZ,yG]) [dQ,pMinus]
def uR(low:Option Pa)(ts:List Tk):Pn:=if q8 pNot ts=true then tE pNot (low.map (·.no)) ts
 else(jbP low ts).andThen fun l r=>if bU cmpL r=true then(jbP low r.tail).andThen fun m r'=>.ok (.mk 18 0 (hd r).text [l,m]) r' else .ok l r
def jfT(low:Option Pa):List Tk->Pn:=wF (wF (uR low) [k9]) [pOr]
def nX(limit:Int)(ts:List Tk)(k:Int->List Tk->Pn):Pn:=if (hd ts).kind≠2 then synE ts else if limit<=(hd ts).n then .bad (hd ts).pos 6 else k (hd ts).n ts.tail
def wO(l:List Nt):Nt:=.mk 11 0 eB l
def stG(ex bl:List Tk->Pn)(ts:List Tk):Pn :=
 if wQ ts=true then xpt pEq ts.tail fun r=>(ex r).andThen fun e r=>xpt jO r fun r=>.ok (.mk 1 0 (hd ts).text [e]) r
 else if (hd ts).kind≠1 then synE ts
 else if (hd ts).text=wIf then(ex ts.tail).andThen fun c r=>(bl r).andThen fun b r=>if q8 f9 r=true then(bl r.tail).andThen fun o r=>.ok (.mk 2 0 eB [c,b,o]) r else .ok (.mk 2 0 eB [c,b,wO []]) r
 else if (hd ts).text=wWhile then(ex ts.tail).andThen fun c r=>(bl r).andThen fun b r=>.ok (.mk 3 0 eB [c,b]) r
 else if (hd ts).text=gC then(ex ts.tail).andThen fun t r=>xpt jZ r fun r=>nX 30 r fun n r=>xpt jZ r fun r=>(ex r).andThen fun a r=>xpt jZ r fun r=>(ex r).andThen fun b r=>xpt jO r fun r=>.ok (.mk 4 n eB [t,a,b]) r
 else if (hd ts).text=wTimer then nX 8 ts.tail fun n r=>xpt jO r fun r=>.ok (.mk 5 n eB []) r
 else if (hd ts).text=kN then nX 8 ts.tail fun n r=>xpt jO r fun r=>.ok (.mk 6 n eB []) r
 else if (hd ts).text=wSync then xpt jO ts.tail fun r=>.ok (.mk 7 0 eB []) r
 else if (hd ts).text=yJ then(ex ts.tail).andThen fun a r=>xpt jZ r fun r=>(ex r).andThen fun b r=>xpt jO r fun r=>.ok (.mk 8 0 eB [a,b]) r
 else if (hd ts).text=wFail then(ex ts.tail).andThen fun a r=>xpt jO r fun r=>.ok (.mk 9 0 eB [a]) r
 else if (hd ts).text=wStop then xpt jO ts.tail fun r=>.ok (.mk 10 0 eB []) r
 else synE ts
def cY(st:List Tk->Pn):Nat->List Nt->List Tk->Pn
 |0,_,ts=>synE ts
 |n+1,acc,ts=>if q8 pRb ts=true then .ok (wO acc) ts.tail else(st ts).andThen fun s r=>cY st n (acc++[s]) r
def bkF(st:List Tk->Pn)(ts:List Tk):Pn:=xpt pLb ts fun r=>cY st r.length [] r
def bkN(ts:List Tk):Pn:=if q8 pLb ts=true then .bad (hd ts).pos 2 else synE ts
def jna:Option Pa->List Tk->Pn
 |none=>bkN
 |some p=>p.bl
def paG(low:Option Pa):Pa:=⟨uR low,aA low,jfT low,bkF (stG (jfT low) (jna low))⟩
def pa:Nat->Pa
 |0=>paG none
 |d+1=>paG (some (pa d))
structure Ut where
 du:List ByteArray
 vo:List ByteArray
 on:List (Int×Nt)
inductive PU where
 |ok (u:Ut)
 |bad (p e:Int)
inductive Pd where
 |ok (names out:List ByteArray) (r:List Tk)
 |bad (p e:Int)
def gG:Nat->List ByteArray->List ByteArray->List Tk->Pd
 |0,_,_,ts=>.bad (hd ts).pos 10
 |n+1,names,out,ts =>
  if wQ ts.tail=false then .bad (hd ts.tail).pos 10
  else if names.any (fun s=>decide (s=(hd ts.tail).text))=true then .bad (hd ts.tail).pos 4
  else if names.length=16 then .bad (hd ts.tail).pos 2
  else if q8 jZ ts.tail.tail=true then gG n (names++[(hd ts.tail).text]) (out++[(hd ts.tail).text]) ts.tail.tail
  else if q8 jO ts.tail.tail=true then .ok (names++[(hd ts.tail).text]) (out++[(hd ts.tail).text]) ts.tail.tail.tail
  else .bad (hd ts.tail.tail).pos 10
def nJ(h:Int×Nt):List (Int×Nt)->List (Int×Nt)
 |[]=>[h]
 |x::l=>if h.1<=x.1 then h::x::l else x::nJ h l
def vS(l:List (Int×Nt)):List (Int×Nt):=l.foldr nJ []
inductive Ph where
 |ok (n:Int) (r:List Tk)
 |bad (p e:Int)
def iB(limit off:Int)(ts:List Tk):Ph:=if (hd ts).kind≠2 then .bad (hd ts).pos 10 else if limit<=(hd ts).n then .bad (hd ts).pos 6 else .ok (off+(hd ts).n) ts.tail
def sH(ts:List Tk):Ph :=
 if q8 aB ts=true then .ok 0 ts.tail
 else if q8 wRequest ts=true then .ok 1 ts.tail
 else if q8 wTimer ts=true then iB 8 2 ts.tail
 else if q8 wMessage ts=true then iB 30 10 ts.tail
 else .bad (hd ts).pos 10
def o5(du vo:List ByteArray):Nat->List (Int×Nt)->List Tk->PU
 |0,_,ts=>.bad (hd ts).pos 10
 |n+1,hs,ts=>if (hd ts).kind=0 then .ok ⟨du,vo,vS hs⟩
  else if q8 wOn ts=false then .bad (hd ts).pos 10
  else match sH ts.tail with
   |.bad x e=>.bad x e
   |.ok k r=>if hs.any (fun h=>decide (h.1=k))=true then .bad (hd ts.tail).pos 4
    else match (pa 19).bl r with
     |.bad x e=>.bad x e
     |.ok b r=>o5 du vo n (hs++[(k,b)]) r
def sP:Nat->List ByteArray->List ByteArray->List ByteArray->List Tk->PU
 |0,_,_,_,ts=>.bad (hd ts).pos 10
 |n+1,names,du,vo,ts =>
  if q8 xL ts=true then match gG ts.length names [] ts with
   |.bad x e=>.bad x e
   |.ok names' out r=>sP n names' (du++out) vo r
  else if q8 vE ts=true then match gG ts.length names [] ts with
   |.bad x e=>.bad x e
   |.ok names' out r=>sP n names' du (vo++out) r
  else o5 du vo (ts.length+1) [] ts
def jnx(ts:List Tk):PU:=sP (ts.length+1) [] [] [] ts
def eA(s:ByteArray):PU:=if 3000<s.size then .bad 3000 2 else match (qM s).err with
 |some (p,e)=>.bad p e
 |none=>jnx (iD s)
def spW:List (List UInt8)->List UInt8
 |[]=>[32]
 |w::l=>32::(w++spW l)
theorem jo4(l:List (List UInt8)):∃z,spW l=32::z:=by cases l <;> exact⟨_,rfl⟩
theorem jgM:∀(t w z:List UInt8),(∀c∈t,c≠32)->(∀c∈w,c≠32)->(t++[32]).isPrefixOf (w++32::z)=decide (t=w)
 |[],[],z,_,_=>by simp[List.isPrefixOf]
 |[],c::w,z,_,h=>by
  have:=h c List.mem_cons_self;rw[jG (by simp)];simp only[List.nil_append,List.cons_append,List.isPrefixOf];rw[beq_eq_false_iff_ne.2 (Ne.symm this)];rfl
 |d::t,[],z,h,_=>by
  have:=h d List.mem_cons_self;rw[jG (by simp)];simp only[List.nil_append,List.cons_append,List.isPrefixOf];rw[beq_eq_false_iff_ne.2 this];rfl
 |d::t,c::w,z,h,k=>by
  have ih:=jgM t w z (fun x hx=>h x (List.mem_cons_of_mem _ hx)) fun x hx=>k x (List.mem_cons_of_mem _ hx)
  simp only[List.cons_append,List.isPrefixOf];rw[ih];by_cases hdc:d=c
  ·subst hdc;rw[beq_self_eq_true,Bool.true_and]
   congr 1
   simp
  ·rw[beq_eq_false_iff_ne.2 hdc,Bool.false_and,jG];intro e;rw[List.cons.injEq] at e;exact hdc e.1
theorem sN(b:UInt8)(l sub:List UInt8)(h:sub.isPrefixOf (b::l)=false):Lib.contains (b::l) sub=Lib.contains l sub:=by
 unfold Lib.contains;rw[Lib.index,h];rw[if_neg (by decide)];have:=Lib.index_ge l sub;by_cases hm:Lib.index l sub = -1
 ·rw[if_pos (by rw[hm];rfl),hm]
 ·rw[if_neg (by rw[beq_iff_eq];exact hm),jJ (by omega),jJ (by omega)]
theorem jcJ:∀(w l u:List UInt8),(∀c∈w,c≠32)->Lib.contains (w++l) (32::u)=Lib.contains l (32::u)
 |[],l,u,_=>rfl
 |c::w,l,u,h=>by
  have:=h c List.mem_cons_self;rw[List.cons_append,sN _ _ _ (by simp only[List.isPrefixOf];rw[beq_eq_false_iff_ne.2 (Ne.symm this)];rfl)]
  exact jcJ w l u fun x hx=>h x (List.mem_cons_of_mem _ hx)
theorem oX(t:List UInt8)(ht:∀c∈t,c≠32):∀(l:List (List UInt8)),(∀w∈l,∀c∈w,c≠32)->Lib.contains (spW l) (32::(t++[32]))=decide (t∈l)
 |[],_=>by
  rw[jG (by simp)];show Lib.contains [32] _=false
  rw[sN _ _ _ (by cases t with
   |nil=>simp[List.isPrefixOf]
   |cons c t=>simp[List.isPrefixOf])]
  unfold Lib.contains;rw[Lib.index];rfl
 |w::l,h=>by
  have ih:=oX t ht l fun x hx=>h x (List.mem_cons_of_mem _ hx)
  obtain⟨z,hz⟩:=jo4 l
  have hp:(32::(t++[32])).isPrefixOf (32::(w++spW l))=decide (t=w):=by
   simp only[List.isPrefixOf];rw[beq_self_eq_true,Bool.true_and,hz];exact jgM t w z ht (h w List.mem_cons_self)
  show Lib.contains (32::(w++spW l)) _=_;by_cases hw:t=w
  ·rw[jJ hw] at hp;unfold Lib.contains;rw[Lib.index,hp];simp only[if_true];rw[jJ (by omega),jJ (by rw[hw];exact List.mem_cons_self)]
  ·rw[jG hw] at hp;rw[sN _ _ _ hp,jcJ w _ _ (h w List.mem_cons_self),ih]
   congr 1
   simp[hw]
def jrU(ts:List Tk):List ByteArray->Int->Int
 |[],_ => -1
 |s::l,i=>if isT s ts=true then i else jrU ts l (i+1)
def tN(t:Tk):Prop:=t.text.size<=1000000000/\jbI (oY t.text).1.data.toList/\(oY t.text).1.size<=1000000000/\0<=t.n/\t.n<=2147483647/\t.pos<=1000000000
def TkW:List Tk->Prop
 |[]=>False
 |t::r=>tN t/\((r=[]/\t.kind=0/\t.text.data.toList=[])∨(t.kind≠0/\TkW r))
theorem TkW.pos{ts:List Tk}(h:TkW ts):0<ts.length:=by
 cases ts with
 |nil=>exact h.elim
 |cons t r=>simp
theorem TkW.good{ts:List Tk}(h:TkW ts):tN (hd ts):=by
 cases ts with
 |nil=>exact h.elim
 |cons t r=>exact h.1
theorem TkW.tail{ts:List Tk}(h:TkW ts)(hk:(hd ts).kind≠0):TkW ts.tail:=by
 cases ts with
 |nil=>exact h.elim
 |cons t r =>
  rcases h.2 with ⟨_,h2,_⟩|⟨_,h2⟩
  ·exact absurd h2 hk
  ·exact h2
def jqA:List ByteArray:=[bs [60],bs [61,61],bs [62]]
def jtR:ByteArray:=⟨#[45]⟩
def jh9(ts:List Tk):Int×List Tk:=if isT jtR ts=true then(-1,ts.tail) else(1,ts)
def juD(ts:List Tk):Ps :=
 if (oY (hd ts).text).2=false then .bad (hd ts).pos 10 else
 match juN (oY (hd ts).text).1.data.toList with
 |none=>.bad (hd ts).pos 10
 |some n=>if 15<n then .bad (hd ts).pos 6 else
  if jrU ts.tail jqA 0<0 then .bad (hd ts.tail).pos 10 else
  if (hd (jh9 ts.tail.tail).2).kind≠2 then .bad (hd (jh9 ts.tail.tail).2).pos 10 else
  .ok (.mk 1 n (jrU ts.tail jqA 0) ((jh9 ts.tail.tail).1*(hd (jh9 ts.tail.tail).2).n) []) (jh9 ts.tail.tail).2.tail
end Go.Proofs.YtdnnmiemgmgffaaGreatDoor.Vm
namespace Go.Proofs.YtdnnmiemgmgffaaGreatDoor.Vm
open Go.RowKit
section
def SpecV(P:Program)(f:Nat)(cs args:List A)(post:List A->A->Prop)(pn:List PanicEntry->Prop):Prop :=
 ∀y:Value,fD y->SpecP P f [cs++[.v y]] args (fun o r=>∃c,o=[c++[.v y]]/\post c r) pn
theorem lS{a:A}(ha:∀t,a≠.adr t):∀c:List A,n9 (c++[a])=n9 c++[a]
 |[]=>by cases a <;> first|rfl|exact absurd rfl (ha _)
 |x::c=>by cases x <;> rfl
theorem repL_snoc{E:Env}{a:A}:∀{c:List A} {us:List Value},A.repL (c++[a]) E us↔∃us1 u,us=us1++[u]/\A.repL c E us1/\a.rep E u
 |[],us=>by
  rw[List.nil_append];constructor
  ·intro h;unfold A.repL at h;obtain⟨u,us',rfl,h1,h2⟩:=h;unfold A.repL at h2;subst h2;exact⟨[],u,rfl,by unfold A.repL;rfl,h1⟩
  ·rintro⟨us1,u,rfl,h1,h2⟩;unfold A.repL at h1;subst h1;unfold A.repL;exact⟨u,[],rfl,h2,by unfold A.repL;rfl⟩
 |x::c,us=>by
  rw[List.cons_append];constructor
  ·intro h;unfold A.repL at h;obtain⟨u,us',rfl,h1,h2⟩:=h;obtain⟨us1,v,rfl,h3,h4⟩:=repL_snoc.1 h2;exact⟨u::us1,v,rfl,by unfold A.repL;exact⟨u,us1,rfl,h1,h3⟩,h4⟩
  ·rintro⟨us1,u,rfl,h1,h2⟩;unfold A.repL at h1;obtain⟨u1,us2,rfl,h3,h4⟩:=h1;unfold A.repL;exact⟨u1,us2++[u],rfl,h3,repL_snoc.2 ⟨us2,u,rfl,h4,h2⟩⟩
theorem jld{nb nr:Nat}{l:List A}(h:wL nb nr l=true):wL nb nr (n9 l)=true:=by
 cases l with
 |nil=>exact h
 |cons a l=>cases a <;> exact h
theorem lW{T b:Nat}{E F:Env}{c:List A}{a a':A}{arr:Array Value}(ha:∀t,a≠.adr t)(ha':∀t,a'≠.adr t)(hc:∀us,A.repL (n9 c) E us->A.repL (n9 c) F us)(hl:∀u,a.rep E u->u.oneCell'=true->a'.rep F u)(h:boxC T b (c++[a]) E arr):boxC T b (c++[a']) F arr:=by
 obtain⟨h1,h2⟩:=h;rw[lS ha] at h1;have hone:=A.repC_one h1;obtain⟨us1,u,he,h3,h4⟩:=repL_snoc.1 (A.repC_L h1);refine⟨?_,fun t r e=>?_⟩
 ·rw[lS ha'];refine A.repC_mk (repL_snoc.2 ⟨us1,u,he,hc _ h3,hl u h4 (hone u (by rw[he];simp))⟩) hone
 ·cases c with
  |nil =>
   rw[List.nil_append,List.cons.injEq] at e;exact absurd e.1 (ha' t)
  |cons x c =>
   rw[List.cons_append,List.cons.injEq] at e;exact h2 t (c++[a]) (by rw[e.1];rfl)
theorem jjE(C:Rd)(β:List Nat)(y:Value):(⟨C,β,[]⟩:Env).le ⟨C,β,[y]⟩:=⟨Sub.refl _,fun _ _ h=>h,fun _ _ h=>by simp at h⟩
theorem jpy{w:World}{e k:Nat}{y:Value}{n:Nat}{xs:List Value}(h:owR w e k y n xs):fD y:=by
 rcases h.kind with ⟨_,_,_,rfl⟩|⟨_,rfl⟩|⟨_,rfl⟩ <;> exact trivial
theorem jim{T b:Nat}{E:Env}{c:List A}{a:A}{arr:Array Value}(ha:∀t,a≠.adr t)(h:boxC T b (c++[a]) E arr):∃us1 u,arr.toList=us1++[u]/\a.rep E u:=by
 have h1:=h.1;rw[lS ha] at h1;obtain⟨us1,u,he,h3,h4⟩:=repL_snoc.1 (A.repC_L h1);exact⟨us1,u,he,h4⟩
section
variable{P:Program}{f:Nat}{cs args:List A}{post:List A->A->Prop}{pn:List PanicEntry->Prop}
theorem SpecV.rp(h:SpecV P f cs args post pn)(hc:wL 1 0 cs=true)(ha:wL 1 0 args=true)(e k n:Nat)(rc:List A) :
  iH P f [cs++[.own 0]] e k n rc args (fun o n' rc' r=>∃c,o=[c++[.own 0]]/\n'=n/\rc'=rc/\post c r) pn:=by
 refine⟨(h (.bool true) trivial).1,fun w C β vals y xs h0 h1 h2 h3 h4 h5 h6 h7 h8 h9=>?_⟩;obtain⟨b,rfl⟩:∃b,β=[b]:=List.length_eq_one_iff.1 h4.symm;have hy:=jpy h6
 have drop:∀l us,wL 1 0 l=true->A.repL l ⟨C,[b],[y]⟩ us->A.repL l ⟨C,[b],[]⟩ us:=fun l us hr hl=>yD l hr hl
 refine((h y hy).2 w C [b] vals h0 h1 h2 h3 rfl (fun i b' c hb hi=>?_) (drop _ _ ha h9)).mono fun e' w' hh=>?_
 ·obtain⟨T,arr,hh,hbc⟩:=h5 i b' (cs++[.own 0]) hb (by cases i with
   |zero=>rfl
   |succ i=>simp at hi)
  have:c=cs++[.v y]:=by cases i with
   |zero=>simpa using hi.symm
   |succ i=>simp at hi
  subst this;refine⟨T,arr,hh,lW (fun t e=>by cases e) (fun t e=>by cases e) (fun us hu=>drop _ _ (jld hc) hu) (fun u hu _=>?_) hbc⟩;unfold A.rep at hu
  have:y=u:=by simpa using hu
  subst this;exact A.rep_v hy
 ·rcases hh with ⟨outs,r,v,rfl,⟨c,rfl,hpost⟩,kp,k2,k3,k4⟩|⟨ch,ns,k1,k2,kp,k4,k5⟩
  ·have le:(⟨zA C w w',[b],[]⟩:Env).le ⟨zA C w w',[b],[y]⟩:=jjE _ _ _;have hsub:=dR h1 h3 kp;refine .inl ⟨[c++[.own 0]],n,rc,r,v,y,xs,zA C w w',rfl,⟨c,rfl,rfl,rfl,hpost⟩,⟨kp.os,kp.tape,kp.output,kp.size,fun q hq hn=>kp.block q hq fun hm=>hn (List.mem_append_left _ hm)⟩,vV h1,hsub,fun ad u hc=>?_,by simp,fun i b' c' hb hi=>?_,h6.same fun q hq=>?_,?_,fun q hq=>⟨fun o sp=>?_,.inr hq⟩,A.rep.mono _ le k4⟩
   ·unfold zA at hc;split at hc
    ·exact .inl hc
    ·exact .inr (.inl (by omega))
   ·obtain⟨T,arr,hh,hbc⟩:=k3 i b' (c++[.v y]) hb (by cases i with
     |zero=>rfl
     |succ i=>simp at hi)
    have:c'=c++[.own 0]:=by cases i with
     |zero=>simpa using hi.symm
     |succ i=>simp at hi
    subst this;refine⟨T,arr,hh,lW (fun t e=>by cases e) (fun t e=>by cases e) (fun us hu=>A.repL.mono _ le hu) (fun u hu _=>?_) hbc⟩;obtain⟨rfl,-⟩:=A.rep_v_iff.1 hu;unfold A.rep;rfl
   ·exact kp.block q (h6.lt hq) (h8 q hq).1
   ·exact A.repC.mono _ (show(⟨C,[],[]⟩:Env).le ⟨zA C w w',[],[]⟩ from ⟨vV h1,fun _ _ h=>h,fun _ _ h=>h⟩) h7
   ·unfold zA;rw[if_pos (show(⟨q,o,sp⟩:Addr).block<w.heap.size from h6.lt hq)];exact(h8 q hq).2 o sp
  ·exact .inr ⟨ch,ns,k1,k2,⟨kp.os,kp.tape,kp.output,kp.size,fun q hq hn=>kp.block q hq fun hm=>hn (List.mem_append_left _ hm)⟩,k4,k5⟩
theorem SpecV.q(h:SpecV P f cs args post pn)(k n:Nat)(l:List A) :
  SpecP P f [cs++[.sl k n l]] args (fun o r=>∃c,o=[c++[.sl k n l]]/\post c r) pn:=by
 refine⟨(h (.bool true) trivial).1,fun w C β vals h0 h1 h2 h3 h4 h5 h6=>?_⟩;obtain⟨b,rfl⟩:∃b,β=[b]:=List.length_eq_one_iff.1 h4.symm;obtain⟨T0,arr0,hb0,hc0⟩:=h5 0 b _ rfl rfl;obtain⟨us1,y,hy1,hy2⟩:=jim (fun t e=>by cases e) hc0
 have hy:fD y:=by
  unfold A.rep at hy2;obtain⟨_,_,p,b',off,cap,rfl,_⟩:=hy2;exact trivial
 refine((h y hy).2 w C [b] vals h0 h1 h2 h3 rfl (fun i b' c hb hi=>?_) h6).mono fun e' w' hh=>?_
 ·have hi0:i=0:=by cases i with
   |zero=>rfl
   |succ i=>simp at hi
  subst hi0
  obtain rfl:b=b':=by simpa using hb
  obtain rfl:cs++[.v y]=c:=by simpa using hi
  have hc0':boxC T0 b (cs++[.sl k n l]) ⟨C,[b],[]⟩ arr0:=hc0;refine⟨T0,arr0,hb0,?_⟩;obtain⟨g1,g2⟩:=hc0';rw[lS (fun t e=>by cases e)] at g1;have hone:=A.repC_one g1;obtain⟨us2,u2,he2,g3,g4⟩:=repL_snoc.1 (A.repC_L g1)
  have hu2:u2=y:=by
   rw[hy1] at he2;have:=List.append_inj_right' he2 rfl;simpa using this.symm
  subst hu2;refine⟨?_,fun t r e=>?_⟩
  ·rw[lS (fun t e=>by cases e)];exact A.repC_mk (repL_snoc.2 ⟨us2,u2,he2,g3,A.rep_v hy⟩) hone
  ·cases cs with
   |nil =>
    rw[List.nil_append,List.cons.injEq] at e;cases e.1
   |cons x c =>
    rw[List.cons_append,List.cons.injEq] at e;exact g2 t (c++[.sl k n l]) (by rw[e.1];rfl)
 ·rcases hh with ⟨outs,r,v,rfl,⟨c,rfl,hpost⟩,kp,k2,k3,k4⟩|hbad
  ·have le:(⟨C,[b],[]⟩:Env).le ⟨zA C w w',[b],[]⟩:=⟨vV h1,fun _ _ h=>h,fun _ _ h=>h⟩
   refine .inl ⟨[c++[.sl k n l]],r,v,rfl,⟨c,rfl,hpost⟩,kp,by simp,fun i b' c' hb hi=>?_,k4⟩
   obtain⟨T,arr,hh,hbc⟩:=k3 i b' (c++[.v y]) hb (by cases i with
    |zero=>rfl
    |succ i=>simp at hi)
   have:c'=c++[.sl k n l]:=by cases i with
    |zero=>simpa using hi.symm
    |succ i=>simp at hi
   subst this;refine⟨T,arr,hh,lW (fun t e=>by cases e) (fun t e=>by cases e) (fun us hu=>hu) (fun u hu _=>?_) hbc⟩;obtain⟨rfl,-⟩:=A.rep_v_iff.1 hu;exact A.rep.mono _ le hy2
  ·exact .inr hbad
end
end
end Go.Proofs.YtdnnmiemgmgffaaGreatDoor.Vm
namespace Go.Proofs.YtdnnmiemgmgffaaGreatDoor.Vm
open Go.RowKit Go.Shelf
def sZ:Go.Shelf.Ren:=⟨fun|143=>140|144=>128|217=>176|219=>166|224=>178|225=>177|266=>185|267=>179|314=>186|n=>n,fun|46=>176|51=>194|146=>218|n=>n,fun|1=>2|n=>n⟩
theorem jeG:Lays.n144 Tryz.prog sZ where
 mixed:=by kernel_rfl
 f143:=Tryz.func140.trans (congrArg some (by kernel_rfl))
 f144:=Tryz.func128.trans (congrArg some (by kernel_rfl))
 f217:=Tryz.func176.trans (congrArg some (by kernel_rfl))
 f219:=Tryz.func166.trans (congrArg some (by kernel_rfl))
 f224:=Tryz.func178.trans (congrArg some (by kernel_rfl))
 f225:=Tryz.func177.trans (congrArg some (by kernel_rfl))
 f266:=Tryz.func185.trans (congrArg some (by kernel_rfl))
 f267:=Tryz.func179.trans (congrArg some (by kernel_rfl))
 f314:=Tryz.func186.trans (congrArg some (by kernel_rfl))
 t3:=Tryz.underlying3
 a3:=Tryz.isAgg3
 z3:=Tryz.sizeOf3
 v3:=Tryz.zeroValue3
 t4:=Tryz.underlying4
 a4:=Tryz.isAgg4
 z4:=Tryz.sizeOf4
 v4:=Tryz.zeroValue4
 t5:=Tryz.underlying5
 a5:=Tryz.isAgg5
 z5:=Tryz.sizeOf5
 v5:=Tryz.zeroValue5
 t9:=Tryz.underlying9
 a9:=Tryz.isAgg9
 z9:=Tryz.sizeOf9
 v9:=Tryz.zeroValue9
 t46:=Tryz.underlying176
 a46:=Tryz.isAgg176
 z46:=Tryz.sizeOf176
 v46:=Tryz.zeroValue176
 t51:=Tryz.underlying194
 a51:=Tryz.isAgg194
 z51:=Tryz.sizeOf194
 v51:=Tryz.zeroValue194
 t146:=Tryz.underlying218
 a146:=Tryz.isAgg218
 z146:=Tryz.sizeOf218
 v146:=Tryz.zeroValue218
 g1:=by kernel_rfl

theorem jbC(s sub:ByteArray)(hs:s.size<=1000000000):Spec Tryz.prog 128 [] [jX s,jX sub] fun _ r=>r=zK (Lib.contains s.data.toList sub.data.toList):=by
 refine lO (eJ Tryz.func128 rfl (by kernel_rfl)) fun w C vals h0 h1 h2=>?_
 obtain rfl:=jf3 (l:=[.string s,.string sub]) h2;have hg:=h0.at (g:=2) (cs:=[.num]) rfl;simp only[A.repAt,A.rep] at hg;obtain⟨⟨u,k1,k2,m,rfl⟩,-⟩:=hg;refine(Any.strings_Contains jeG s sub m w (by omega) (h1 _ _ k1)).mono ?_;rintro e w' ⟨rfl,rfl⟩;exact⟨_,rfl,Ext.refl _,A.rep_v trivial⟩
def gB(l:List ByteArray):List A:=l.map jX
def hZ(nm:List ByteArray)(ts:List Tk):List A:=[.sl 4 ts.length (z8 ts),.sl 1 nm.length (gB nm)]
def qX(p e:Int):List PanicEntry:=[⟨.iface 120 (.agg #[.int .i64 p,.int .i64 e]),false,false⟩]
def bxN(ts:List Tk):List A:=[.sl 4 ts.length (z8 ts)]
theorem lG(ts:List Tk)(h:0<ts.length)(e:Int):SpecV Tryz.prog 117 (bxN ts) [.box 0 0,intA e] (fun _ _=>False) fun ch=>ch=qX (hd ts).pos e:=fun y hy=>by
 have hr:=nZ h;refine vT (wJ jR qB 1 (fun ch _=>(fun ch=>ch=qX (hd ts).pos e) ch)) (fun _ _ h=>h) Tryz.func117 rfl (by kernel_rfl) rfl (by kernel_rfl) ?_;intro _;generalize hd ts=t at *;conv=>whnf
 (refine iA ?_;try with_reducible exact trivial)
 (generalize hrq:jD _ _ (z8 ts)=rq;obtain rfl:rq=cR t:=hrq.symm.trans (hr);clear hrq;conv=>whnf)
 (refine iA ?_;try with_reducible exact trivial)
 rfl
theorem gN(nm:List ByteArray)(ts:List Tk)(h:0<ts.length)(e:Int):SpecP Tryz.prog 117 [hZ nm ts] [.box 0 0,intA e] (fun _ _=>False) fun ch=>ch=qX (hd ts).pos e :=
 ((lG ts h e).q 1 nm.length (gB nm)).mono (fun _ _ ⟨_,_,k⟩=>k) fun _ k=>k
theorem tF(ts:List Tk)(h:0<ts.length):SpecV Tryz.prog 115 (bxN ts) [.box 0 0] (fun c r=>c=bxN ts.tail/\r=.agg (cR (hd ts))) fun _=>False:=fun y hy=>by
 have hr:=nZ h;have htl:=jop h
 have hln:ts.tail.length=ts.length-1:=by simp
 refine vT (wJ jR qB 1 (fun ch _=>(fun _=>False) ch)) (fun _ _ h=>h) Tryz.func115 rfl (by kernel_rfl) rfl (by kernel_rfl) ?_;intro _;generalize hd ts=t at *;conv=>whnf
 (refine iA ?_;try with_reducible exact trivial)
 (generalize hrq:jD _ _ (z8 ts)=rq;obtain rfl:rq=cR t:=hrq.symm.trans (hr);clear hrq;conv=>whnf)
 (refine iA ?_;try with_reducible exact trivial)
 refine⟨bxN ts.tail,?_,rfl,rfl⟩;unfold bxN;rw[show((ts.length:Int).toNat-Int.toNat 1)=ts.length-1 by omega,show Int.toNat 1*4=4 from rfl,htl,hln];rfl
theorem wV(nm:List ByteArray)(ts:List Tk)(h:0<ts.length):Spec Tryz.prog 115 [hZ nm ts] [.box 0 0] fun o r=>o=[hZ nm ts.tail]/\r=.agg (cR (hd ts)) :=
 (((tF ts h).q 1 nm.length (gB nm)).mono (fun _ _ ⟨_,k1,k2,k3⟩=>⟨by rw[k1,k2];rfl,k3⟩) fun _ k=>k).toS
theorem jpE(ts:List Tk)(h:0<ts.length)(s:ByteArray):SpecV Tryz.prog 93 (bxN ts) [.box 0 0,jX s] (fun c r=>c=bxN ts/\r=zK (q8 s ts)) fun _=>False:=fun y hy=>by
 have hr:=nZ h;unfold q8;refine vT (wJ jR qB 1 (fun ch _=>(fun _=>False) ch)) (fun _ _ h=>h) Tryz.func93 rfl (by kernel_rfl) rfl (by kernel_rfl) ?_;intro _;generalize hd ts=t at *;conv=>whnf
 (refine iA ?_;try with_reducible exact trivial)
 (generalize hrq:jD _ _ (z8 ts)=rq;obtain rfl:rq=cR t:=hrq.symm.trans (hr);clear hrq;conv=>whnf)
 by_cases h1:t.text=s
 ·rw[jJ h1];conv=>whnf
  by_cases h2:t.kind=1
  ·rw[jJ h2];conv=>whnf
   exact⟨_,rfl,rfl,rfl⟩
  ·rw[jG h2];conv=>whnf
   exact⟨_,rfl,rfl,rfl⟩
 ·rw[jG h1];conv=>whnf
  exact⟨_,rfl,rfl,rfl⟩
theorem nO(nm:List ByteArray)(ts:List Tk)(h:0<ts.length)(s:ByteArray):Spec Tryz.prog 93 [hZ nm ts] [.box 0 0,jX s] fun o r=>o=[hZ nm ts]/\r=zK (q8 s ts) :=
 (((jpE ts h s).q 1 nm.length (gB nm)).mono (fun _ _ ⟨_,k1,k2,k3⟩=>⟨by rw[k1,k2];rfl,k3⟩) fun _ k=>k).toS
theorem jpB{a b:ByteArray}(h:a.data.toList=b.data.toList):a=b:=ByteArray.ext (Array.toList_inj.1 h)
def jpJ:List (List UInt8):=keyL.map (·.data.toList)++[]::builtL.map (·.data.toList)
theorem jaj(l:List ByteArray)(t:ByteArray):(l.any fun s=>decide (t=s))=decide (t.data.toList∈l.map (·.data.toList)):=by
 induction l with
 |nil=>simp
 |cons s l ih =>
  rw[List.any_cons,ih,List.map_cons];by_cases h:t=s
  ·subst h;rw[jJ rfl,jJ List.mem_cons_self];rfl
  ·rw[jG h,Bool.false_or]
   congr 1
   rw[List.mem_cons,eq_iff_iff];constructor
   ·exact .inr
   ·rintro (e|e)
    ·exact absurd (jpB e) h
    ·exact e
def wOk(t:Tk):Prop:=t.kind=1->t.text.data.toList≠[]/\∀c∈t.text.data.toList,c≠32
theorem jsy:∀w∈jpJ,∀c∈w,c≠32:=by decide +kernel
theorem jrm:∀w∈builtL.map (·.data.toList),∀c∈w,c≠32:=by decide +kernel
theorem jan(t:ByteArray):((⟨#[32]⟩:ByteArray)++t++⟨#[32]⟩).data.toList=32::(t.data.toList++[32]):=by simp
theorem jpK(t:ByteArray)(h:t.data.toList≠[]):decide (t.data.toList∈jpJ)=(keyL++builtL).any fun s=>decide (t=s):=by
 rw[List.any_append,jaj,jaj,<- Bool.decide_or];unfold jpJ
 congr 1
 rw[List.mem_append,List.mem_cons,eq_iff_iff];constructor
 ·rintro (e|e|e)
  ·exact .inl e
  ·exact absurd e h
  ·exact .inr e
 ·rintro (e|e)
  ·exact .inl e
  ·exact .inr (.inr e)
theorem jiN(ts:List Tk)(h:0<ts.length)(hw:wOk (hd ts))(hz:(hd ts).text.size<=1000000000):SpecV Tryz.prog 116 (bxN ts) [.box 0 0] (fun c r=>c=bxN ts/\r=zK (wQ ts)) fun _=>False:=fun y hy=>by
 have hr:=nZ h;unfold wQ;refine vT (wJ jR qB 1 (fun ch _=>(fun _=>False) ch)) (fun _ _ h=>h) Tryz.func116 rfl (by kernel_rfl) rfl (by kernel_rfl) ?_;intro _;unfold wOk at hw;generalize hd ts=t at *;conv=>whnf
 (refine iA ?_;try with_reducible exact trivial)
 (generalize hrq:jD _ _ (z8 ts)=rq;obtain rfl:rq=cR t:=hrq.symm.trans (hr);clear hrq;conv=>whnf)
 by_cases h1:t.kind=1
 ·obtain⟨w1,w2⟩:=hw h1
  have hc:∀K:ByteArray,K.size<=1000000000->K.data.toList=spW jpJ->Spec Tryz.prog 128 [] [jX K,jX ((⟨#[32]⟩:ByteArray)++t.text++⟨#[32]⟩)] fun _ r=>r=zK ((keyL++builtL).any fun s=>decide (t.text=s)):=fun K hK hK2=>by
   have:=jbC K ((⟨#[32]⟩:ByteArray)++t.text++⟨#[32]⟩) hK;rw[jan,hK2,oX _ w2 _ jsy,jpK _ w1] at this;exact this
  have hs1:(⟨#[32]⟩:ByteArray).size=1:=rfl;rw[jJ h1];conv=>whnf
  refine⟨by rw[hs1];unfold maxLen;omega,?_⟩;conv=>whnf
  refine⟨by rw[ByteArray.size_append,hs1];unfold maxLen;omega,?_⟩;conv=>whnf
  (refine jcH [] rfl (fun _=>hc _ (by decide +kernel) (by decide +kernel)) ?_;rintro r rfl;conv=>whnf)
  exact⟨_,rfl,rfl,rfl⟩
 ·rw[jG h1];conv=>whnf
  exact⟨_,rfl,rfl,rfl⟩
theorem fH(nm:List ByteArray)(ts:List Tk)(h:0<ts.length)(hw:wOk (hd ts))(hz:(hd ts).text.size<=1000000000):Spec Tryz.prog 116 [hZ nm ts] [.box 0 0] fun o r=>o=[hZ nm ts]/\r=zK (wQ ts) :=
 (((jiN ts h hw hz).q 1 nm.length (gB nm)).mono (fun _ _ ⟨_,k1,k2,k3⟩=>⟨by rw[k1,k2];rfl,k3⟩) fun _ k=>k).toS
theorem jgN(ts:List Tk)(h:0<ts.length)(s:ByteArray):SpecV Tryz.prog 95 (bxN ts) [.box 0 0,jX s] (fun c r=>q8 s ts=true/\c=bxN ts.tail/\r=.tup []) fun ch=>q8 s ts=false/\ch=qX (hd ts).pos 10:=fun y hy=>by
 refine vT (wJ jR qB 1 (fun ch _=>(fun ch=>q8 s ts=false/\ch=qX (hd ts).pos 10) ch)) (fun _ _ h=>h) Tryz.func95 rfl (by kernel_rfl) rfl (by kernel_rfl) ?_;intro _;conv=>whnf
 refine kR 0 [] (jpE ts h s y hy) (fun ch bx' hp=>hp.elim) ?_;rintro o r ⟨c,ho,rfl,rfl⟩;cases ho;conv=>whnf
 cases hq:q8 s ts with
 |true =>
  conv=>whnf
  refine kR 0 [] (tF ts h y hy) (fun ch bx' hp=>hp.elim) ?_;rintro o r ⟨c,ho,rfl,rfl⟩;cases ho;conv=>whnf
  exact⟨_,rfl,rfl,rfl,rfl⟩
 |false =>
  conv=>whnf
  refine kR 0 [] (lG ts h 10 y hy) (fun ch bx' hp=>⟨rfl,hp⟩) ?_;rintro o r ⟨_,_,⟨⟩⟩
theorem jU(nm:List ByteArray)(ts:List Tk)(h:0<ts.length)(s:ByteArray):SpecP Tryz.prog 95 [hZ nm ts] [.box 0 0,jX s] (fun o r=>q8 s ts=true/\o=[hZ nm ts.tail]/\r=.tup []) fun ch=>q8 s ts=false/\ch=qX (hd ts).pos 10 :=
 ((jgN ts h s).q 1 nm.length (gB nm)).mono (fun _ _ ⟨_,k1,k2,k3,k4⟩=>⟨k2,by rw[k1,k3];rfl,k4⟩) fun _ k=>k
theorem fI(nm:List ByteArray)(ts:List Tk)(h:0<ts.length)(s:ByteArray)(lv:Int):SpecP Tryz.prog 119 [hZ nm ts] [.box 0 0,jX s,intA lv] (fun o r=>(q8 s ts=true/\lv<=20)/\o=[hZ nm ts.tail]/\r=.tup [])
  fun ch=>(q8 s ts=true/\20<lv/\ch=qX (hd ts).pos 2)∨(q8 s ts=false/\ch=qX (hd ts).pos 10):=by
 refine vT (wJ jR qB 1 (fun ch _=>(fun ch=>(q8 s ts=true/\20<lv/\ch=qX (hd ts).pos 2)∨(q8 s ts=false/\ch=qX (hd ts).pos 10)) ch)) (fun _ _ h=>h) Tryz.func119 rfl (by kernel_rfl) rfl (by kernel_rfl) ?_;intro _;conv=>whnf
 refine jT 0 [] (nO nm ts h s) ?_;rintro o r ⟨ho,rfl⟩;cases ho;conv=>whnf
 cases hq:q8 s ts with
 |true =>
  conv=>whnf
  by_cases h1:20<lv
  ·rw[jJ h1];conv=>whnf
   refine kR 0 [] (gN nm ts h 2) (fun ch bx' hp=>.inl ⟨rfl,h1,hp⟩) ?_;rintro o r ⟨⟩
  ·rw[jG h1];conv=>whnf
   refine kR 0 [] (jU nm ts h s) (fun ch bx' hp=>.inr (by rw[hq] at hp;exact hp)) ?_;rintro o r ⟨_,ho,rfl⟩;cases ho;conv=>whnf
   exact⟨⟨rfl,by omega⟩,rfl,rfl⟩
 |false =>
  conv=>whnf
  refine kR 0 [] (jU nm ts h s) (fun ch bx' hp=>.inr (by rw[hq] at hp;exact hp)) ?_;rintro o r ⟨hx,ho,rfl⟩;rw[hq] at hx;cases hx
section
end
structure Pr where
 un:List Tk->Ps
 ch:List Tk->Ps
 fo:List Tk->Ps
def juK:ByteArray:=⟨#[33]⟩
def jtL:ByteArray:=⟨#[110,101,120,116]⟩
def juI:ByteArray:=⟨#[97,108,119,97,121,115]⟩
def kEv:ByteArray:=⟨#[101,118,101,110,116,117,97,108,108,121]⟩
def jqI:ByteArray:=⟨#[116,114,117,101]⟩
def js2:ByteArray:=⟨#[102,97,108,115,101]⟩
def kLp:ByteArray:=⟨#[40]⟩
def kRp:ByteArray:=⟨#[41]⟩
def js3:ByteArray:=⟨#[117,110,116,105,108]⟩
def kOr:ByteArray:=⟨#[124,124]⟩
def juJ:ByteArray:=⟨#[38,38]⟩
def jsP(s:ByteArray):Option Int:=if s=juK then some 2 else if s=jtL then some 5 else if s=juI then some 7 else if s=kEv then some 8 else none
def jrE(b:Bool):Fm:=.mk (if b=true then 3 else 4) 0 0 0 []
def unG(low:Option Pr)(ts:List Tk):Ps :=
 match jsP (hd ts).text with
 |some k=>match low with
  |none=>.bad (hd ts).pos 2
  |some p=>match p.un ts.tail with
   |.ok f r=>.ok (.mk k 0 0 0 [f]) r
   |.bad x e=>.bad x e
 |none=>if (isT jqI ts||isT js2 ts)=true then .ok (jrE (decide ((hd ts).text=jqI))) ts.tail else
  if isT kLp ts=true then match low with
   |none=>.bad (hd ts).pos 2
   |some p=>match p.fo ts.tail with
    |.ok f r=>if isT kRp r=true then .ok f r.tail else .bad (hd r).pos 10
    |.bad x e=>.bad x e
  else juD ts
def chG(un:List Tk->Ps)(low:Option Pr)(ts:List Tk):Ps :=
 match un ts with
 |.bad x e=>.bad x e
 |.ok f r=>if isT js3 r=true then match low with
   |none=>.bad (hd r).pos 2
   |some p=>match p.ch r.tail with
    |.ok g r'=>.ok (.mk 6 0 0 0 [f,g]) r'
    |.bad x e=>.bad x e
  else .ok f r
inductive Lr where
 |ok (l:List Fm) (r:List Tk)
 |bad (p e:Int)
def jtO(op:List Tk->Ps)(sign:ByteArray):Nat->List Fm->List Tk->Lr
 |0,acc,ts=>.ok acc ts
 |n+1,acc,ts=>if isT sign ts=true then match op ts.tail with
   |.ok f r=>jtO op sign n (acc++[f]) r
   |.bad x e=>.bad x e
  else .ok acc ts
def juG(kind:Int):Lr->Ps
 |.bad x e=>.bad x e
 |.ok [f] r=>.ok f r
 |.ok l r=>.ok (.mk kind 0 0 0 l) r
def liF(op:List Tk->Ps)(kind:Int)(sign:ByteArray)(ts:List Tk):Ps :=
 match op ts with
 |.bad x e=>.bad x e
 |.ok f r=>juG kind (jtO op sign r.length [f] r)
def foG(ch:List Tk->Ps):List Tk->Ps:=liF (liF ch 3 juJ) 4 kOr
def prG(low:Option Pr):Pr:=⟨unG low,chG (unG low) low,foG (chG (unG low) low)⟩
def pr:Nat->Pr
 |0=>prG none
 |d+1=>prG (some (pr d))
def TkB(ts:List Tk):Prop:=TkW ts/\ts.length<=1000000
theorem TkB.tail{ts:List Tk}(h:TkB ts)(hk:(hd ts).kind≠0):TkB ts.tail/\ts.tail.length+1=ts.length:=by
 have h1:=h.1.pos;refine⟨⟨h.1.tail hk,?_⟩,?_⟩
 ·have:=h.2;simp;omega
 ·simp;omega
theorem mK(nm:List ByteArray)(ts:List Tk)(h:0<ts.length)(lim:Int):SpecP Tryz.prog 118 [hZ nm ts] [.box 0 0,intA lim] (fun o r=>((hd ts).kind=2/\(hd ts).n<lim)/\o=[hZ nm ts.tail]/\r=intA (hd ts).n)
  fun ch=>((hd ts).kind≠2/\ch=qX (hd ts).pos 10)∨((hd ts).kind=2/\lim<=(hd ts).n/\ch=qX (hd ts).pos 6):=by
 have hr:=nZ h
 have hf:=fun e=>gN nm ts h e
 have hn:=wV nm ts h;refine vT (wJ jR qB 1 (fun ch _=>(fun ch=>((hd ts).kind≠2/\ch=qX (hd ts).pos 10)∨((hd ts).kind=2/\lim<=(hd ts).n/\ch=qX (hd ts).pos 6)) ch)) (fun _ _ h=>h) Tryz.func118 rfl (by kernel_rfl) rfl (by kernel_rfl) ?_;intro _;generalize hd ts=t at *;conv=>whnf
 (refine iA ?_;try with_reducible exact trivial)
 (generalize hrq:jD _ _ (z8 ts)=rq;obtain rfl:rq=cR t:=hrq.symm.trans (hr);clear hrq;conv=>whnf)
 by_cases h1:t.kind=2
 ·rw[jJ h1];conv=>whnf
  by_cases h2:lim<=t.n
  ·rw[jJ h2];conv=>whnf
   refine kR 0 [] (hf 6) (fun ch bx' hp=>.inr ⟨h1,h2,hp⟩) ?_;rintro o r ⟨⟩
  ·rw[jG h2];conv=>whnf
   refine jT 0 [] hn ?_;rintro o r ⟨ho,rfl⟩;cases ho;conv=>whnf
   exact⟨⟨h1,by omega⟩,rfl,rfl⟩
 ·rw[jG h1];conv=>whnf
  refine kR 0 [] (hf 10) (fun ch bx' hp=>.inl ⟨h1,hp⟩) ?_;rintro o r ⟨⟩
def oC(ts:List Tk):List ByteArray->Int->Int
 |[],_ => -1
 |s::l,i=>if q8 s ts=true then i else oC ts l (i+1)
theorem jd1(ts:List Tk):∀(l:List ByteArray) (i:Int),0<=i->(0<=oC ts l i↔bU l ts=true)
 |[],i,_=>by simp[oC,bU]
 |s::l,i,h=>by
  have ih:=jd1 ts l (i+1) (by omega);unfold oC bU;rw[List.any_cons];by_cases hs:q8 s ts=true
  ·rw[if_pos hs,hs];simp[h]
  ·rw[if_neg hs,Bool.not_eq_true] at *;rw[hs,Bool.false_or];exact ih
theorem jlb(nm:List ByteArray)(ts:List Tk)(h:0<ts.length)(l:List ByteArray)(hl:l.length<=1000):Spec Tryz.prog 180 [hZ nm ts] [.sl 1 l.length (yV l),.bm 93 [.box 0 0]] fun o r=>o=[hZ nm ts]/\r=intA (oC ts l 0):=by
 refine eN jR qB 1 Tryz.func180 rfl ?_;intro _;conv=>whnf
 refine jC [0,1,7] ?_;conv=>whnf
 refine jI (fun k:Nat=>[(8,.v (.int .i64 k))]) (fun _=>[hZ nm ts]) (fun _=>[]) (fun k=>k<=l.length/\oC ts (l.drop k) k=oC ts l 0) (fun k=>l.length-k) 0 ?_ ⟨Nat.zero_le _,rfl⟩ ?_
 ·repeat' constructor
 ·rintro k ⟨hk,hinv⟩;conv=>whnf
  by_cases hlt:k<l.length
  ·have hr:=fL l k hlt;rw[List.drop_eq_getElem_cons hlt] at hinv;generalize l[k]=s at *
   (refine iA ?_;try with_reducible exact trivial)
   (generalize hrq:jD _ _ (yV l)=rq;obtain rfl:rq=[jX s]:=hrq.symm.trans (hr);clear hrq;conv=>whnf)
   refine jT 0 [] (nO nm ts h s) ?_;rintro o r ⟨ho,rfl⟩;cases ho;conv=>whnf
   cases hq:q8 s ts with
   |true =>
    (refine iA ?_;try with_reducible exact trivial)
    rw[oC,if_pos hq] at hinv;rw[<- hinv];exact⟨rfl,rfl⟩
   |false =>
    (refine iA ?_;try with_reducible exact trivial)
    rw[oC,if_neg (by rw[hq];simp)] at hinv;refine⟨jH (by omega),?_⟩;conv=>whnf
    refine⟨k+1,zZ ?_,⟨hlt,by push_cast;exact hinv⟩,by omega⟩;repeat' constructor
  ·(refine iA ?_;try with_reducible exact trivial)
   rw[List.drop_of_length_le (by omega)] at hinv;rw[<- hinv];exact⟨rfl,rfl⟩
theorem jbp(nm:List ByteArray)(ts:List Tk)(h:0<ts.length)(l:List ByteArray)(hl:l.length<=1000):Spec Tryz.prog 167 [hZ nm ts] [.sl 1 l.length (yV l),.bm 93 [.box 0 0]] fun o r=>o=[hZ nm ts]/\r=zK (bU l ts):=by
 have hi:=jd1 ts l 0 (by omega);refine eN jR qB 1 Tryz.func167 rfl ?_;intro _;conv=>whnf
 refine jT 0 [] (jlb nm ts h l hl) ?_;rintro o r ⟨ho,rfl⟩;cases ho;generalize oC ts l 0=i at *;conv=>whnf
 refine⟨rfl,?_⟩
 cases hq:bU l ts with
 |true=>rw[jJ (hi.2 hq)];rfl
 |false=>rw[jG (fun e=>by rw[hi.1 e] at hq;cases hq)];rfl
theorem jjU{X:Type}{np:Nat}{t t0:List A}{bx:List (List A)}{rw:List Row}{g:X->List (Nat×A)}{hb:X->List (List A)}{hr:X->List Row}{x:X}(ids sel:List Nat)
  (h:qA (jA rw ids) fun rw'=>aN (fR rw') t fun t'=>jbM rw' bx fun bx'=>jlI sel t' bx' rw' fun s'=>jaU t0 g hb hr x fun s2=>LeS np s' s2):Le np ⟨t,bx,rw⟩ (oB t0 g hb hr x):=by
 rw[qR,qN,mW] at h;exact((jin (np:=np) (s:=⟨t,bx,rw⟩) ids).trans jio).trans (jF sel h)
def TkP(ts:List Tk):Prop:=TkB ts/\∀t∈ts,wOk t
theorem TkP.pos{ts:List Tk}(h:TkP ts):0<ts.length:=h.1.1.pos
theorem TkP.hd{ts:List Tk}(h:TkP ts):wOk (hd ts):=by
 have:=h.pos
 cases ts with
 |nil=>simp at this
 |cons t r=>exact h.2 t List.mem_cons_self
theorem TkP.good{ts:List Tk}(h:TkP ts):tN (Vm.hd ts):=h.1.1.good
theorem TkP.tail{ts:List Tk}(h:TkP ts)(hk:(Vm.hd ts).kind≠0):TkP ts.tail/\ts.tail.length+1=ts.length :=
 ⟨⟨(h.1.tail hk).1,fun t ht=>h.2 t (List.mem_of_mem_tail ht)⟩,(h.1.tail hk).2⟩
theorem yS{s:ByteArray}{ts:List Tk}(h:q8 s ts=true):(hd ts).kind≠0:=by
 unfold q8 at h;simp only[Bool.and_eq_true,Bool.or_eq_true,decide_eq_true_eq] at h
 rcases h.2 with h|h <;> omega
theorem TkP.is{s:ByteArray}{ts:List Tk}(h:TkP ts)(k:q8 s ts=true):TkP ts.tail/\ts.tail.length+1=ts.length:=h.tail (yS k)
theorem eE{l:List ByteArray}{ts:List Tk}(h:bU l ts=true):∃s,q8 s ts=true:=by
 unfold bU at h;obtain⟨s,_,h⟩:=List.any_eq_true.1 h;exact⟨s,h⟩
def qZ(op:List Tk->Pn):Prop:=∀ts f r,TkP ts->op ts=.ok f r->TkP r/\r.length<=ts.length
def pnQ(p:Pn)(ch:List PanicEntry):Prop:=match p with
 |.bad x e=>ch=qX x e
 |_=>False
def poQ(nm:List ByteArray)(p:Pn)(o:List (List A))(r:A):Prop:=match p with
 |.ok f ts=>o=[hZ nm ts]/\r=.agg (ntA f)
 |_=>False
theorem j8{nm:List ByteArray}{p:Pn}{o:List (List A)}{r:A}(h:poQ nm p o r):∃f ts,p=.ok f ts/\o=[hZ nm ts]/\r=.agg (ntA f):=by
 unfold poQ at h;split at h
 ·exact⟨_,_,rfl,h.1,h.2⟩
 ·exact h.elim
theorem zN{p:Pn}{ch:List PanicEntry}(h:pnQ p ch):∃x e,p=.bad x e/\ch=qX x e:=by
 unfold pnQ at h;split at h
 ·exact⟨_,_,rfl,h⟩
 ·exact h.elim
theorem jK{p:Pn}{x e:Int}{ch:List PanicEntry}(h:p=.bad x e)(k:ch=qX x e):pnQ p ch:=by subst h;exact k
def jc7:List A:=[intA 0,intA 0,jX ⟨#[]⟩,.v (.slice none 0 0)]
def zX(nm:List ByteArray)(g:Nat)(lv:Int)(op:List Tk->Pn):Prop:=∀ts,TkP ts->SpecP Tryz.prog g [hZ nm ts] [.box 0 0,intA lv] (poQ nm (op ts)) (pnQ (op ts))
theorem eM(nm:List ByteArray)(op:List Tk->Pn)(signs:List ByteArray)(lv:Int)(g:Nat)(hsg:signs.length<=1000)(hgo:qZ op)(hop:zX nm g lv op)(ts:List Tk)(h:TkP ts) :
  SpecP Tryz.prog 141 [hZ nm ts] [.box 0 0,intA lv,.bm g [.box 0 0],.sl 1 signs.length (yV signs)] (poQ nm (wF op signs ts)) (pnQ (wF op signs ts)):=by
 obtain⟨P,hP⟩:∃P,wF op signs ts=P:=⟨_,rfl⟩
 rw[hP];refine eNP jsn (fun _=>[0]) Tryz.func141 rfl ?_;intro _;unfold wF at hP;have hspec:=hop ts h;conv=>whnf
 refine kR 0 [] hspec (fun ch bx' hp=>?_) ?_
 ·obtain⟨x,e,he,hc⟩:=zN hp;rw[he] at hP;exact jK hP.symm hc
 rintro o r hpo;obtain⟨f,r1,he,ho,rfl⟩:=j8 hpo;cases ho;rw[he] at hP;simp only[Pn.andThen] at hP;obtain⟨h1,l1⟩:=hgo _ _ _ h he;conv=>whnf
 refine jC [0,1,2,3,8,9] ?_;conv=>whnf
 refine jI (fun _:Nat×Nt×List Tk=>[]) (fun x=>[hZ nm x.2.2,jc7,ntA x.2.1]) (fun _=>[]) (fun x=>TkP x.2.2/\x.2.2.length<=x.1/\wZ op signs x.1 x.2.1 x.2.2=P) (fun x=>x.2.2.length) (r1.length,f,r1) ?_ ⟨h1,Nat.le_refl _,hP⟩ ?_
 ·repeat' constructor
 rintro⟨n,left,ts1⟩ ⟨g1,g2,g5⟩
 simp only at g1 g2 g5
 conv=>whnf
 refine jT 0 [] (jbp nm ts1 g1.pos signs hsg) ?_;rintro o r ⟨ho,rfl⟩;cases ho;conv=>whnf
 cases hq:bU signs ts1 with
 |true =>
  obtain⟨s0,hs0⟩:=eE hq;obtain⟨q1,q2⟩:=g1.is hs0
  obtain⟨m,rfl⟩:∃m,n=m+1:=⟨n-1,by have:=g1.pos;omega⟩
  rw[wZ,if_pos hq] at g5;have hnx:=wV nm ts1 g1.pos;generalize ts1.tail=ts2 at *;generalize hd ts1=t at *;conv=>whnf
  refine jT 0 [] hnx ?_;rintro o r ⟨ho,rfl⟩;cases ho;conv=>whnf
  refine kR 0 [] (hop ts2 q1) (fun ch bx' hp=>?_) ?_
  ·obtain⟨x,e,he,hc⟩:=zN hp;rw[he] at g5;exact jK g5.symm hc
  rintro o r hpo;obtain⟨f2,r2,he2,ho,rfl⟩:=j8 hpo;cases ho;rw[he2] at g5;simp only[Pn.andThen] at g5;obtain⟨h2,l2⟩:=hgo _ _ _ q1 he2;refine⟨(m,.mk 18 0 t.text [left,f2],r2),jjU [0] [] ?_,⟨h2,by simp only;omega,g5⟩,by simp only;omega⟩;conv=>whnf
  repeat' constructor
  show A.sl 4 2 _=A.sl 4 2 (qW [left,f2]);rw[zT,zT,kY];rfl
 |false =>
  have hlg:wZ op signs n left ts1=.ok left ts1:=by
   cases n with
   |zero=>rfl
   |succ m=>rw[wZ,if_neg (by rw[hq];simp)]
  rw[hlg] at g5;subst g5;conv=>whnf
  (refine iA ?_;try with_reducible exact trivial)
  exact⟨rfl,rfl⟩
theorem wH(k n:Int)(s:ByteArray)(f:Nt):ntA (.mk k n s [f])=[intA k,intA n,jX s,.sl 4 1 (ntA f)]:=by
 have e1:ntA f=qW [f]:=by rw[zT,kY,List.append_nil]
 rw[e1];rfl
theorem yZ(k n:Int)(s:ByteArray)(f g:Nt):ntA (.mk k n s [f,g])=[intA k,intA n,jX s,.sl 4 2 (ntA f++ntA g)]:=by
 have e1:ntA f++ntA g=qW [f,g]:=by rw[zT,zT,kY,List.append_nil]
 rw[e1];rfl
def LowQ(nm:List ByteArray)(lv:Int)(low:Option Pa):Prop:=0<=lv/\((low=none/\lv=20)∨∃p,low=some p/\lv+1<=20/\qZ p.no/\qZ p.un/\qZ p.ex/\qZ p.bl ∧
 zX nm 168 (lv+1) p.no/\zX nm 192 (lv+1) p.un/\zX nm 129 (lv+1) p.ex/\zX nm 97 (lv+1) p.bl)
def jr6(nm:List ByteArray)(lv:Int)(g:Nat)(op:Option (List Tk->Pn)):Prop:=0<=lv/\((op=none/\lv=20)∨∃f,op=some f/\lv+1<=20/\qZ f/\zX nm g (lv+1) f)
theorem LowQ.no{nm:List ByteArray}{lv:Int}{low:Option Pa}(h:LowQ nm lv low):jr6 nm lv 168 (low.map (·.no)):=by
 obtain⟨h0,⟨rfl,h1⟩|⟨p,rfl,h1,a,b,c,d,e,f,g,i⟩⟩:=h
 ·exact⟨h0,.inl ⟨rfl,h1⟩⟩
 ·exact⟨h0,.inr ⟨_,rfl,h1,a,e⟩⟩
theorem LowQ.un{nm:List ByteArray}{lv:Int}{low:Option Pa}(h:LowQ nm lv low):jr6 nm lv 192 (low.map (·.un)):=by
 obtain⟨h0,⟨rfl,h1⟩|⟨p,rfl,h1,a,b,c,d,e,f,g,i⟩⟩:=h
 ·exact⟨h0,.inl ⟨rfl,h1⟩⟩
 ·exact⟨h0,.inr ⟨_,rfl,h1,b,f⟩⟩
theorem oI(nm:List ByteArray)(s:ByteArray)(lv:Int)(g:Nat)(op:Option (List Tk->Pn))(hlo:jr6 nm lv g op)(ts:List Tk)(h:TkP ts)(hs:q8 s ts=true) :
  SpecP Tryz.prog 181 [hZ nm ts] [.box 0 0,intA lv,jX s,.bm g [.box 0 0]] (poQ nm (tE s op ts)) (pnQ (tE s op ts)):=by
 obtain⟨hlv,hlo⟩:=hlo
 obtain⟨P,hP⟩:∃P,tE s op ts=P:=⟨_,rfl⟩
 rw[hP];have hopen:=fI nm ts h.pos s (lv+1);obtain⟨q1,q2⟩:=h.is hs;unfold tE at hP;rcases hlo with ⟨rfl,rfl⟩|⟨f,rfl,hle,gf,sf⟩
 ·simp only at hP
  refine eNP jR qB Tryz.func181 rfl ?_;intro _;conv=>whnf
  refine⟨jH (by omega),?_⟩;conv=>whnf
  refine kR 0 [] hopen (fun ch bx' hp=>?_) ?_
  ·rcases hp with ⟨_,_,hp⟩|⟨hp,_⟩
   ·exact jK hP.symm hp
   ·rw[hs] at hp;cases hp
  rintro o r ⟨⟨_,hbad⟩,_⟩;omega
 ·simp only at hP
  refine eNP jR qB Tryz.func181 rfl ?_;intro _;conv=>whnf
  refine⟨jH (by omega),?_⟩;conv=>whnf
  refine kR 0 [] hopen (fun ch bx' hp=>?_) ?_
  ·rcases hp with ⟨_,hp,_⟩|⟨hp,_⟩
   ·omega
   ·rw[hs] at hp;cases hp
  rintro o r ⟨_,ho,rfl⟩;cases ho;generalize ts.tail=ts1 at *;conv=>whnf
  refine⟨jH (by omega),?_⟩;conv=>whnf
  refine kR 0 [] (sf ts1 q1) (fun ch bx' hp=>?_) ?_
  ·obtain⟨x,e,he,hc⟩:=zN hp;rw[he] at hP;exact jK hP.symm hc
  rintro o r hpo;obtain⟨k,r1,he,ho,rfl⟩:=j8 hpo;cases ho;rw[he] at hP;simp only[Pn.andThen] at hP;subst hP;conv=>whnf
  exact⟨rfl,by rw[wH];rfl⟩
theorem jgA{nm:List ByteArray}{lv:Int}{low:Option Pa}(hlo:LowQ nm lv low):zX nm 200 lv (cD low):=fun ts h=>by
 obtain⟨hlv,hlo⟩:=hlo
 obtain⟨P,hP⟩:∃P,cD low ts=P:=⟨_,rfl⟩
 rw[hP];have hopen:=fI nm ts h.pos pLp (lv+1);unfold cD at hP;refine eNP jR qB Tryz.func200 rfl ?_;intro _;conv=>whnf
 have hlv2:lv<=20:=by rcases hlo with ⟨_,h⟩|⟨_,_,h,_⟩ <;> omega
 refine⟨jH (by omega),?_⟩;conv=>whnf
 refine kR 0 [] hopen (fun ch bx' hp=>?_) ?_
 ·rcases hp with ⟨h1,h2,hp⟩|⟨h1,hp⟩
  ·rw[if_pos h1] at hP;rcases hlo with ⟨rfl,rfl⟩|⟨p,rfl,hle,_⟩
   ·exact jK hP.symm hp
   ·omega
  ·rw[if_neg (by rw[h1];simp)] at hP;exact jK hP.symm hp
 rintro o r ⟨⟨h1,h2⟩,ho,rfl⟩;cases ho;rw[if_pos h1] at hP;obtain⟨q1,q2⟩:=h.is h1;rcases hlo with ⟨rfl,rfl⟩|⟨p,rfl,hle,_,_,ge,_,_,_,se,_⟩
 ·omega
 simp only at hP
 generalize ts.tail=ts1 at *;conv=>whnf
 refine⟨jH (by omega),?_⟩;conv=>whnf
 refine kR 0 [] (se ts1 q1) (fun ch bx' hp=>?_) ?_
 ·obtain⟨x,e,he,hc⟩:=zN hp;rw[he] at hP;exact jK hP.symm hc
 rintro o r hpo;obtain⟨k,r1,he,ho,rfl⟩:=j8 hpo;cases ho;rw[he] at hP;simp only[Pn.andThen,xpt] at hP;obtain⟨g1,g2⟩:=ge _ _ _ q1 he;conv=>whnf
 refine kR 0 [] (jU nm r1 g1.pos pRp) (fun ch bx' hp=>?_) ?_
 ·rw[if_neg (by rw[hp.1];simp)] at hP;exact jK hP.symm hp.2
 rintro o r ⟨h3,ho,rfl⟩;cases ho;rw[if_pos h3] at hP;subst hP;conv=>whnf
 exact⟨rfl,rfl⟩
def jpG(f:Nt):List A:=[intA f.k,intA f.n,jX f.s,.v (.slice none 0 0)]
theorem qC{f:Nt}(h:f.kids=[]):WkL (jpG f) (ntA f):=by
 unfold jpG ntA;rw[h,kY];exact .cons (.refl _) (.cons (.refl _) (.cons (.refl _) (.cons (.nil 4) .nil)))
def poW(nm:List ByteArray)(p:Pn)(o:List (List A))(r:A):Prop:=match p with
 |.ok f ts=>o=[hZ nm ts]/\∃c,r=.agg c/\WkL c (ntA f)
 |_=>False
theorem qQ:∀l:List A,WkL l l
 |[]=>.nil
 |a::l=>.cons (.refl a) (qQ l)
theorem jiG{nm:List ByteArray}{p:Pn}{o:List (List A)}{r:A}(h:poQ nm p o r):poW nm p o r:=by
 obtain⟨f,ts,rfl,rfl,rfl⟩:=j8 h;exact⟨rfl,_,rfl,qQ _⟩
theorem jkq{nm:List ByteArray}{g:Nat}{ins:List (List A)}{args:List A}{p:Pn}(h:SpecP Tryz.prog g ins args (poW nm p) (pnQ p)):SpecP Tryz.prog g ins args (poQ nm p) (pnQ p) :=
 h.weaken (fun o r k=>by
  unfold poW at k;split at k
  ·rename_i f ts;obtain⟨k1,c,rfl,k2⟩:=k;exact⟨o,.agg (ntA f),⟨k1,rfl⟩,.refl o,.agg k2⟩
  ·exact k.elim) fun ch k=>k
theorem jeZ{nm:List ByteArray}{lv:Int}{low:Option Pa}(hlo:LowQ nm lv low):zX nm 197 lv (dS low):=fun ts h=>by
 have hne:=jgA hlo;refine jkq ?_
 obtain⟨P,hP⟩:∃P,dS low ts=P:=⟨_,rfl⟩
 rw[hP];have hl:=h.pos;have hr:=nZ hl;have hw:=h.hd;have hgd:=h.good
 have his:=fun s=>nO nm ts hl s
 have hnx:=wV nm ts hl;have hnm:=fH nm ts hl hw hgd.1;have hfl:=gN nm ts hl 10;have htl:=h.tail
 have hps:=fun s (hs:q8 s ts=true)=>h.is hs
 unfold wOk at hw;have hz:=hgd.1;clear hgd;have hbi:jgk ts=(decide ((hd ts).kind=1)&&builtL.any fun s=>decide ((hd ts).text=s)):=rfl;unfold dS at hP;refine eNP jR qB Tryz.func197 rfl ?_;intro _;have hsyn:synE ts=.bad (hd ts).pos 10:=rfl;have hn0:=hne ts h;generalize hd ts=t at *;conv=>whnf
 (refine iA ?_;try with_reducible exact trivial)
 (generalize hrq:jD _ _ (z8 ts)=rq;obtain rfl:rq=cR t:=hrq.symm.trans (hr);clear hrq;conv=>whnf)
 refine jT 0 [] (his pLp) ?_;rintro o r ⟨ho,rfl⟩;cases ho;conv=>whnf
 cases hq1:q8 pLp ts with
 |true =>
  rw[if_pos hq1] at hP;conv=>whnf
  rw[hP] at hn0;refine kR 0 [] hn0 (fun ch bx' hp=>hp) ?_;rintro o r hpo;obtain⟨f,r1,rfl,ho,rfl⟩:=j8 hpo;cases ho;conv=>whnf
  exact jiG (p:=.ok f r1) (show _/\_ from ⟨rfl,rfl⟩)
 |false =>
  rw[if_neg (by rw[hq1];simp)] at hP;conv=>whnf
  refine jT 0 [] (his uO) ?_;rintro o r ⟨ho,rfl⟩;cases ho;conv=>whnf
  cases hq2:q8 uO ts with
  |true =>
   rw[if_pos hq2] at hP;obtain⟨q1,q2⟩:=hps _ hq2;generalize ts.tail=ts1 at *;conv=>whnf
   refine jT 0 [] hnx ?_;rintro o r ⟨ho,rfl⟩;cases ho;conv=>whnf
   refine kR 0 [] (hne ts1 q1) (fun ch bx' hp=>?_) ?_
   ·obtain⟨x,e,he,hc⟩:=zN hp;rw[he] at hP;exact jK hP.symm hc
   rintro o r hpo;obtain⟨f,r1,he,ho,rfl⟩:=j8 hpo;cases ho;rw[he] at hP;simp only[Pn.andThen] at hP;subst hP;conv=>whnf
   exact jiG (p:=.ok (.mk 16 0 eB [f]) r1) (show _/\_ from ⟨rfl,by rw[wH];rfl⟩)
  |false =>
   rw[if_neg (by rw[hq2];simp)] at hP;conv=>whnf
   by_cases hk2:t.kind=2
   ·rw[jJ hk2];rw[if_pos hk2] at hP;conv=>whnf
    refine jT 0 [] hnx ?_;rintro o r ⟨ho,rfl⟩;cases ho;subst hP;conv=>whnf
    exact⟨rfl,_,rfl,qC (f:=.mk 12 t.n eB []) rfl⟩
   ·rw[jG hk2];rw[if_neg hk2] at hP;conv=>whnf
    refine jT 0 [] (his uP) ?_;rintro o r ⟨ho,rfl⟩;cases ho;conv=>whnf
    cases hq3:q8 uP ts with
    |true =>
     rw[if_pos hq3] at hP;conv=>whnf
     refine jT 0 [] hnx ?_;rintro o r ⟨ho,rfl⟩;cases ho;subst hP;conv=>whnf
     exact⟨rfl,_,rfl,qC (f:=.mk 13 1 eB []) rfl⟩
    |false =>
     rw[if_neg (by rw[hq3];simp)] at hP;conv=>whnf
     refine jT 0 [] (his lT) ?_;rintro o r ⟨ho,rfl⟩;cases ho;conv=>whnf
     cases hq4:q8 lT ts with
     |true =>
      rw[if_pos hq4] at hP;conv=>whnf
      refine jT 0 [] hnx ?_;rintro o r ⟨ho,rfl⟩;cases ho;subst hP;conv=>whnf
      exact⟨rfl,_,rfl,qC (f:=.mk 13 0 eB []) rfl⟩
     |false =>
      rw[if_neg (by rw[hq4];simp)] at hP;conv=>whnf
      refine jT 0 [] hnm ?_;rintro o r ⟨ho,rfl⟩;cases ho;conv=>whnf
      cases hq5:wQ ts with
      |true =>
       rw[if_pos hq5] at hP;conv=>whnf
       refine jT 0 [] hnx ?_;rintro o r ⟨ho,rfl⟩;cases ho;subst hP;conv=>whnf
       exact⟨rfl,_,rfl,qC (f:=.mk 14 0 t.text []) rfl⟩
      |false =>
       rw[if_neg (by rw[hq5];simp)] at hP;conv=>whnf
       by_cases hk1:t.kind=1
       ·obtain⟨w1,w2⟩:=hw hk1
        have hc:∀K:ByteArray,K.size<=1000000000->K.data.toList=spW (builtL.map (·.data.toList))->Spec Tryz.prog 128 [] [jX K,jX ((⟨#[32]⟩:ByteArray)++t.text++⟨#[32]⟩)] fun _ r=>r=zK (builtL.any fun s=>decide (t.text=s)):=fun K hK hK2=>by
         have:=jbC K ((⟨#[32]⟩:ByteArray)++t.text++⟨#[32]⟩) hK;rw[jan,hK2,oX _ w2 _ jrm,<- jaj] at this;exact this
        have hs1:(⟨#[32]⟩:ByteArray).size=1:=rfl;rw[jJ hk1,Bool.true_and] at hbi;rw[jJ hk1];conv=>whnf
        refine⟨by rw[hs1];unfold maxLen;omega,?_⟩;conv=>whnf
        refine⟨by rw[ByteArray.size_append,hs1];unfold maxLen;omega,?_⟩;conv=>whnf
        (refine jcH [] rfl (fun _=>hc _ (by decide +kernel) (by decide +kernel)) ?_;rintro r rfl;conv=>whnf)
        rw[hbi] at hP
        cases hq6:builtL.any fun s=>decide (t.text=s) with
        |true =>
         rw[hq6,if_pos rfl] at hP;conv=>whnf
         refine jT 0 [] hnx ?_;rintro o r ⟨ho,rfl⟩;cases ho;subst hP;conv=>whnf
         exact⟨rfl,_,rfl,qC (f:=.mk 15 0 t.text []) rfl⟩
        |false =>
         rw[hq6,if_neg (by simp),hsyn] at hP;conv=>whnf
         refine kR 0 [] hfl (fun ch bx' hp=>jK hP.symm hp) ?_;rintro o r ⟨⟩
       ·rw[jG hk1,Bool.false_and] at hbi;rw[hbi,if_neg (by simp),hsyn] at hP;rw[jG hk1];conv=>whnf
        refine kR 0 [] hfl (fun ch bx' hp=>jK hP.symm hp) ?_;rintro o r ⟨⟩
def cT(low:Option Pa):Prop:=∀p,low=some p->qZ p.no/\qZ p.un/\qZ p.ex/\qZ p.bl
theorem j4{p:Pn}{k:Nt->List Tk->Pn}{f:Nt}{r:List Tk}(h:p.andThen k=.ok f r):∃g s,p=.ok g s/\k g s=.ok f r:=by
 cases p with
 |ok g s=>exact⟨g,s,rfl,h⟩
 |bad x e=>cases h
theorem xW{s:ByteArray}{ts:List Tk}{k:List Tk->Pn}{f:Nt}{r:List Tk}(h:xpt s ts k=.ok f r):q8 s ts=true/\k ts.tail=.ok f r:=by
 unfold xpt at h;split at h
 ·rename_i hs;exact⟨hs,h⟩
 ·cases h
theorem jcX{low:Option Pa}(hl:cT low):qZ (cD low):=fun ts f r h e=>by
 unfold cD at e;split at e
 ·rename_i hs;obtain⟨q1,q2⟩:=h.is hs
  cases low with
  |none=>cases e
  |some p =>
   simp only at e
   obtain⟨n,s,e1,e2⟩:=j4 e;obtain⟨g1,g2⟩:=(hl p rfl).2.2.1 _ _ _ q1 e1;obtain⟨e3,e4⟩:=xW e2;obtain⟨g3,g4⟩:=g1.is e3;cases e4;exact⟨g3,by omega⟩
 ·cases e
theorem jg4{s:ByteArray}{op:Option (List Tk->Pn)}(hg:∀f,op=some f->qZ f)(ts:List Tk)(f:Nt)(r:List Tk)(h:TkP ts)(hs:q8 s ts=true)(e:tE s op ts=.ok f r):TkP r/\r.length<=ts.length:=by
 obtain⟨q1,q2⟩:=h.is hs
 cases op with
 |none=>cases e
 |some o =>
  unfold tE at e
  simp only at e
  obtain⟨n,s,e1,e2⟩:=j4 e;obtain⟨g1,g2⟩:=hg o rfl _ _ _ q1 e1;cases e2;exact⟨g1,by omega⟩
theorem jkR{low:Option Pa}(hl:cT low):qZ (dS low):=fun ts f r h e=>by
 unfold dS at e;split at e
 ·exact jcX hl ts f r h e
 split at e
 ·rename_i hs;obtain⟨q1,q2⟩:=h.is hs;obtain⟨n,s,e1,e2⟩:=j4 e;obtain⟨g1,g2⟩:=jcX hl _ _ _ q1 e1;cases e2;exact⟨g1,by omega⟩
 split at e
 ·rename_i hk;obtain⟨q1,q2⟩:=h.tail (by rw[hk];decide);cases e;exact⟨q1,by omega⟩
 split at e
 ·rename_i hs;obtain⟨q1,q2⟩:=h.is hs;cases e;exact⟨q1,by omega⟩
 split at e
 ·rename_i hs;obtain⟨q1,q2⟩:=h.is hs;cases e;exact⟨q1,by omega⟩
 split at e
 ·rename_i hs;unfold wQ at hs;simp only[Bool.and_eq_true,decide_eq_true_eq] at hs;obtain⟨q1,q2⟩:=h.tail (by rw[hs.1];decide);cases e;exact⟨q1,by omega⟩
 split at e
 ·rename_i hs;unfold jgk at hs;simp only[Bool.and_eq_true,decide_eq_true_eq] at hs;obtain⟨q1,q2⟩:=h.tail (by rw[hs.1];decide);cases e;exact⟨q1,by omega⟩
 ·cases e
theorem nH{low:Option Pa}(hl:cT low):qZ (aA low):=fun ts f r h e=>by
 unfold aA at e;split at e
 ·rename_i hs;refine jg4 (fun o ho=>?_) ts f r h hs e;rw[Option.map_eq_some_iff] at ho;obtain⟨p,hp,rfl⟩:=ho;exact(hl p hp).2.1
 ·exact jkR hl ts f r h e
theorem jaT{op:List Tk->Pn}(hg:qZ op)(signs:List ByteArray):∀(n:Nat) (l:Nt) (ts:List Tk) (f:Nt) (r:List Tk),TkP ts->wZ op signs n l ts=.ok f r->TkP r/\r.length<=ts.length
 |0,l,ts,f,r,h,e=>by cases e;exact⟨h,Nat.le_refl _⟩
 |n+1,l,ts,f,r,h,e=>by
  rw[wZ] at e;split at e
  ·rename_i hs;obtain⟨s,hs⟩:=eE hs;obtain⟨q1,q2⟩:=h.is hs;obtain⟨g,s,e1,e2⟩:=j4 e;obtain⟨g1,g2⟩:=hg _ _ _ q1 e1;obtain⟨g3,g4⟩:=jaT hg signs n _ _ _ _ g1 e2;exact⟨g3,by omega⟩
  ·cases e;exact⟨h,Nat.le_refl _⟩
theorem xH{op:List Tk->Pn}(hg:qZ op)(signs:List ByteArray):qZ (wF op signs):=fun ts f r h e=>by
 unfold wF at e;obtain⟨g,s,e1,e2⟩:=j4 e;obtain⟨g1,g2⟩:=hg _ _ _ h e1;obtain⟨g3,g4⟩:=jaT hg signs _ _ _ _ _ g1 e2;exact⟨g3,by omega⟩
theorem iT{low:Option Pa}(hl:cT low):qZ (jbP low):=xH (xH (nH hl) _) _
theorem nG{low:Option Pa}(hl:cT low):qZ (uR low):=fun ts f r h e=>by
 unfold uR at e;split at e
 ·rename_i hs;refine jg4 (fun o ho=>?_) ts f r h hs e;rw[Option.map_eq_some_iff] at ho;obtain⟨p,hp,rfl⟩:=ho;exact(hl p hp).1
 ·obtain⟨g,s,e1,e2⟩:=j4 e;obtain⟨g1,g2⟩:=iT hl _ _ _ h e1;split at e2
  ·rename_i hs;obtain⟨_,hs⟩:=eE hs;obtain⟨q1,q2⟩:=g1.is hs;obtain⟨g',s',e3,e4⟩:=j4 e2;obtain⟨g3,g4⟩:=iT hl _ _ _ q1 e3;cases e4;exact⟨g3,by omega⟩
  ·cases e2;exact⟨g1,g2⟩
theorem nF{low:Option Pa}(hl:cT low):qZ (jfT low):=xH (xH (nG hl) _) _
theorem LowQ.goes{nm:List ByteArray}{lv:Int}{low:Option Pa}(h:LowQ nm lv low):cT low:=fun p hp=>by
 obtain⟨h0,⟨rfl,h1⟩|⟨q,rfl,h1,a,b,c,d,e,f,g,i⟩⟩:=h
 ·cases hp
 ·cases hp;exact⟨a,b,c,d⟩
theorem jbZ{nm:List ByteArray}{lv:Int}{low:Option Pa}(hlo:LowQ nm lv low):zX nm 192 lv (aA low):=fun ts h=>by
 have hpr:=jeZ hlo ts h
 obtain⟨P,hP⟩:∃P,aA low ts=P:=⟨_,rfl⟩
 rw[hP];have his:=nO nm ts h.pos pMinus
 have hpre:=fun hs=>oI nm pMinus lv _ _ hlo.un ts h hs
 unfold aA at hP;refine eNP jR qB Tryz.func192 rfl ?_;intro _;conv=>whnf
 refine jT 0 [] his ?_;rintro o r ⟨ho,rfl⟩;cases ho;conv=>whnf
 cases hq:q8 pMinus ts with
 |true =>
  have hpre:=hpre hq;rw[if_pos hq] at hP;rw[hP] at hpre;conv=>whnf
  refine kR 0 [] hpre (fun ch bx' hp=>hp) ?_;rintro o r hpo;obtain⟨f,r1,rfl,ho,rfl⟩:=j8 hpo;cases ho;conv=>whnf
  exact⟨rfl,rfl⟩
 |false =>
  rw[if_neg (by rw[hq];simp)] at hP;rw[hP] at hpr;conv=>whnf
  refine kR 0 [] hpr (fun ch bx' hp=>hp) ?_;rintro o r hpo;obtain⟨f,r1,rfl,ho,rfl⟩:=j8 hpo;cases ho;conv=>whnf
  exact⟨rfl,rfl⟩
theorem jf0{nm:List ByteArray}{lv:Int}{low:Option Pa}(hlo:LowQ nm lv low):zX nm 187 lv (wF (aA low) [vZ,yG]):=by
 have hop:=jbZ hlo;have hgo:=nH hlo.goes;intro ts h
 obtain⟨P,hP⟩:∃P,wF (aA low) [vZ,yG] ts=P:=⟨_,rfl⟩
 have hch:=eM nm (aA low) [vZ,yG] lv 192 (by decide) hgo hop ts h;show SpecP _ _ _ _ (poQ nm (wF (aA low) [vZ,yG] ts)) (pnQ (wF (aA low) [vZ,yG] ts));rw[hP] at hch ⊢;refine eNP jR qB Tryz.func187 rfl ?_;intro _;conv=>whnf
 refine kR 0 [0] hch (fun ch bx' hp=>hp) ?_;rintro o r hpo;obtain⟨f,r1,rfl,ho,rfl⟩:=j8 hpo;cases ho;conv=>whnf
 exact⟨rfl,rfl⟩
theorem joh{nm:List ByteArray}{lv:Int}{low:Option Pa}(hlo:LowQ nm lv low):zX nm 182 lv (jbP low):=by
 have hop:=jf0 hlo;have hgo:=xH (nH hlo.goes) [vZ,yG];show zX _ _ _ (wF (wF (aA low) [vZ,yG]) [dQ,pMinus]);intro ts h
 obtain⟨P,hP⟩:∃P,wF (wF (aA low) [vZ,yG]) [dQ,pMinus] ts=P:=⟨_,rfl⟩
 have hch:=eM nm (wF (aA low) [vZ,yG]) [dQ,pMinus] lv 187 (by decide) hgo hop ts h;show SpecP _ _ _ _ (poQ nm (wF (wF (aA low) [vZ,yG]) [dQ,pMinus] ts)) (pnQ (wF (wF (aA low) [vZ,yG]) [dQ,pMinus] ts));rw[hP] at hch ⊢;refine eNP jR qB Tryz.func182 rfl ?_;intro _;conv=>whnf
 refine kR 0 [0] hch (fun ch bx' hp=>hp) ?_;rintro o r hpo;obtain⟨f,r1,rfl,ho,rfl⟩:=j8 hpo;cases ho;conv=>whnf
 exact⟨rfl,rfl⟩
theorem jgE{nm:List ByteArray}{lv:Int}{low:Option Pa}(hlo:LowQ nm lv low):zX nm 168 lv (uR low):=fun ts h=>by
 have hsm:=joh hlo;have hgs:=iT hlo.goes
 obtain⟨P,hP⟩:∃P,uR low ts=P:=⟨_,rfl⟩
 rw[hP];have his:=nO nm ts h.pos pNot
 have hpre:=fun hs=>oI nm pNot lv _ _ hlo.no ts h hs
 unfold uR at hP;generalize jbP low=op at *;refine eNP jsr (fun _=>[0]) Tryz.func168 rfl ?_;intro _;conv=>whnf
 refine jT 0 [] his ?_;rintro o r ⟨ho,rfl⟩;cases ho;conv=>whnf
 cases hq:q8 pNot ts with
 |true =>
  have hpre:=hpre hq;rw[if_pos hq] at hP;rw[hP] at hpre;conv=>whnf
  refine kR 0 [] hpre (fun ch bx' hp=>hp) ?_;rintro o r hpo;obtain⟨f,r1,rfl,ho,rfl⟩:=j8 hpo;cases ho;conv=>whnf
  exact⟨rfl,rfl⟩
 |false =>
  rw[if_neg (by rw[hq];simp)] at hP;conv=>whnf
  refine kR 0 [] (hsm ts h) (fun ch bx' hp=>?_) ?_
  ·obtain⟨x,e,he,hc⟩:=zN hp;rw[he] at hP;exact jK hP.symm hc
  rintro o r hpo;obtain⟨f,r1,he,ho,rfl⟩:=j8 hpo;cases ho;rw[he] at hP;simp only[Pn.andThen] at hP;obtain⟨g1,g2⟩:=hgs _ _ _ h he;have hct:=jbp nm r1 g1.pos cmpL (by decide);conv=>whnf
  refine jT 0 [0] hct ?_;rintro o r ⟨ho,rfl⟩;cases ho;conv=>whnf
  cases hc:bU cmpL r1 with
  |true =>
   rw[if_pos hc] at hP;obtain⟨_,hs⟩:=eE hc;obtain⟨q1,q2⟩:=g1.is hs;have hnx:=wV nm r1 g1.pos;generalize r1.tail=r2 at *;generalize hd r1=t at *;conv=>whnf
   refine jT 0 [] hnx ?_;rintro o r ⟨ho,rfl⟩;cases ho;conv=>whnf
   refine kR 0 [] (hsm r2 q1) (fun ch bx' hp=>?_) ?_
   ·obtain⟨x,e,he,hc⟩:=zN hp;rw[he] at hP;exact jK hP.symm hc
   rintro o r hpo;obtain⟨f2,r3,he2,ho,rfl⟩:=j8 hpo;cases ho;rw[he2] at hP;simp only[Pn.andThen] at hP;subst hP;conv=>whnf
   exact⟨rfl,by rw[yZ];rfl⟩
  |false =>
   rw[if_neg (by rw[hc];simp)] at hP;subst hP;conv=>whnf
   exact⟨rfl,rfl⟩
theorem jlS{nm:List ByteArray}{lv:Int}{low:Option Pa}(hlo:LowQ nm lv low):zX nm 142 lv (wF (uR low) [k9]):=by
 have hop:=jgE hlo;have hgo:=nG hlo.goes;intro ts h
 obtain⟨P,hP⟩:∃P,wF (uR low) [k9] ts=P:=⟨_,rfl⟩
 have hch:=eM nm (uR low) [k9] lv 168 (by decide) hgo hop ts h;show SpecP _ _ _ _ (poQ nm (wF (uR low) [k9] ts)) (pnQ (wF (uR low) [k9] ts));rw[hP] at hch ⊢;refine eNP jR qB Tryz.func142 rfl ?_;intro _;conv=>whnf
 refine kR 0 [0] hch (fun ch bx' hp=>hp) ?_;rintro o r hpo;obtain⟨f,r1,rfl,ho,rfl⟩:=j8 hpo;cases ho;conv=>whnf
 exact⟨rfl,rfl⟩
theorem jcR{nm:List ByteArray}{lv:Int}{low:Option Pa}(hlo:LowQ nm lv low):zX nm 129 lv (jfT low):=by
 have hop:=jlS hlo;have hgo:=xH (nG hlo.goes) [k9];show zX _ _ _ (wF (wF (uR low) [k9]) [pOr]);intro ts h
 obtain⟨P,hP⟩:∃P,wF (wF (uR low) [k9]) [pOr] ts=P:=⟨_,rfl⟩
 have hch:=eM nm (wF (uR low) [k9]) [pOr] lv 142 (by decide) hgo hop ts h;show SpecP _ _ _ _ (poQ nm (wF (wF (uR low) [k9]) [pOr] ts)) (pnQ (wF (wF (uR low) [k9]) [pOr] ts));rw[hP] at hch ⊢;refine eNP jR qB Tryz.func129 rfl ?_;intro _;conv=>whnf
 refine kR 0 [0] hch (fun ch bx' hp=>hp) ?_;rintro o r hpo;obtain⟨f,r1,rfl,ho,rfl⟩:=j8 hpo;cases ho;conv=>whnf
 exact⟨rfl,rfl⟩
end Go.Proofs.YtdnnmiemgmgffaaGreatDoor.Vm
namespace Go.Proofs.YtdnnmiemgmgffaaGreatDoor.Vm
open Go.RowKit
section
section
variable{w0:W0}{C0:Rd}{β0:List Nat}{bx:List (List A)}{rw:List Row}{w:World}{E:Env}
theorem Hp.learn(h:Hp w0 C0 β0 bx rw w E){b:Nat}(hf:w0.fr b)(hβ:b∉E.β)(hr:∀(g e k n:Nat) (cs:List A) (y:Value),rw[g]?=some (.live e k n cs)->E.ρ[g]?=some y->blk y≠some b) :
  ∃C',Hp w0 C0 β0 bx rw w ⟨C',E.β,E.ρ⟩/\E.le ⟨C',E.β,E.ρ⟩/\∀ad,ad.block=b->C' ad=kQ w ad:=by
 refine⟨fun ad=>if ad.block=b then kQ w ad else E.C ad,?_⟩
 have hC:Sub E.C (fun ad=>if ad.block=b then kQ w ad else E.C ad):=fun ad u hc=>by
  simp only
  split
  ·exact h.sub ad u hc
  ·exact hc
 have le:E.le ⟨fun ad=>if ad.block=b then kQ w ad else E.C ad,E.β,E.ρ⟩:=⟨hC,fun _ _ h=>h,fun _ _ h=>h⟩
 refine⟨⟨fun ad u hc=>?_,h.base.trans hC,fun ad u hc=>?_,h.bp,h.bnd,fun b' hb' o sp=>?_,h.bl,fun i b cs' h1 h2=>(h.bxs i b cs' h1 h2).mono le,h.rl,fun j r' z h1 h2=>(h.rws j r' z h1 h2).mono le (fun _ _ _ _ _ _ _=>rfl),fun j e' k' n' cs' z b' h1 h2 h3=>?_,h.rd,h.rs,h.keep,h.gk⟩,le,fun ad e=>if_pos e⟩
 ·simp only at hc
  split at hc
  ·exact hc
  ·exact h.sub ad u hc
 ·simp only at hc
  split at hc
  ·rename_i hb2;right;rw[hb2];exact hf
  ·exact h.fresh ad u hc
 ·simp only
  rw[if_neg (fun hb2:b'=b=>hβ (by rw[<- hb2];exact hb'))];exact h.bC b' hb' o sp
 ·obtain⟨q1,q2⟩:=h.rC j e' k' n' cs' z b' h1 h2 h3;refine⟨q1,fun o sp=>?_⟩
  simp only
  rw[if_neg (fun hb2:b'=b=>hr j e' k' n' cs' z h1 h2 (by rw[<- hb2];exact h3))];exact q2 o sp
end
def jfD(n nr:Nat)(x:Value)(a:A):A:=match a with
 |.box i o=>match Nat.beq i n with
  |true=>match o with
   |0=>.pp [.v x]
   |_+1=>.dead
  |false=>match y7 n nr a with
   |true=>a
   |false=>.dead
 |a=>match y7 n nr a with
  |true=>a
  |false=>.dead
theorem jkI{E:Env}{C':Rd}{n nr b:Nat}{x:Value}{a:A}{y:Value}(hb:E.β[n]?=some b)(hC:Sub E.C C')(hx:C' ⟨b,0,none⟩=some x)(h1:x.oneCell'=true)(hv:fD x)(h:a.rep E y):(jfD n nr x a).rep ⟨C',E.β.take n,E.ρ.take nr⟩ y:=by
 have le:(⟨E.C,E.β.take n,E.ρ.take nr⟩:Env).le ⟨C',E.β.take n,E.ρ.take nr⟩:=⟨hC,fun _ _ h=>h,fun _ _ h=>h⟩
 have gen:∀a:A,a.rep E y->(match y7 n nr a with|true=>a|false=>.dead:A).rep ⟨C',E.β.take n,E.ρ.take nr⟩ y:=fun a h=>by
  split
  ·rename_i hr;exact A.rep.mono a le (lH a hr h)
  ·exact A.rep_dead _ _
 cases a with
 |box i o =>
  unfold jfD
  simp only
  split
  ·rename_i hi;have hi:=Nat.eq_of_beq_eq_true hi;subst hi;unfold A.rep at h;obtain⟨b',h2,rfl⟩:=h;rw[hb] at h2;cases h2
   cases o with
   |zero =>
    simp only
    unfold A.rep;refine⟨b,0,rfl,?_⟩;unfold A.repAt;exact⟨⟨x,hx,h1,A.rep_v hv⟩,by unfold A.repAt;trivial⟩
   |succ o=>exact A.rep_dead _ _
  ·exact gen _ h
 |_=>exact gen _ h
theorem jcI{E:Env}{C':Rd}{n nr b:Nat}{x:Value}(hb:E.β[n]?=some b)(hC:Sub E.C C')(hx:C' ⟨b,0,none⟩=some x)(h1:x.oneCell'=true)(hv:fD x):∀{l:List A} {us:List Value},A.repL l E us->A.repL (l.map (jfD n nr x)) ⟨C',E.β.take n,E.ρ.take nr⟩ us
 |[],us,h=>by unfold A.repL at h ⊢;exact h
 |a::r,us,h=>by
  unfold A.repL at h;obtain⟨u,us',rfl,h2,h3⟩:=h;rw[List.map_cons];unfold A.repL;exact⟨u,us',rfl,jkI hb hC hx h1 hv h2,jcI hb hC hx h1 hv h3⟩
theorem jgr:∀l:List A,LeL l l
 |[]=>trivial
 |a::l=>⟨.inr rfl,jgr l⟩
theorem jjT:∀(l m:List (List A)),LeB (l++m) l
 |[],[]=>trivial
 |[],_::_=>trivial
 |a::l,m=>⟨jgr a,jjT l m⟩
theorem jgs:∀l:List Row,LeR l l
 |[]=>trivial
 |a::l=>⟨.inr rfl,jgs l⟩
theorem jpm{np:Nat}{t:List A}{bx:List (List A)}{rw:List Row}{x:Value}(hn:Nat.ble np bx.length=true)(hrf:uI bx.length rw.length bx=true):Le np ⟨t,bx++[[.v x]],rw⟩ ⟨t.map (jfD bx.length rw.length x),bx,rw⟩:=by
 rintro dr w0 C0 β0 a w hdr e ⟨E,hp,hrep,hd⟩;have hn':=Nat.le_of_ble_eq_true hn;rw[<- e] at hn';have hpw:=hp.weaken (bx':=bx) (rw':=rw) hn' (jjT _ _) (jgs _) hrf;have hbl:=hp.bl;simp only[List.length_append,List.length_cons,List.length_nil] at hbl
 have hlt:bx.length<E.β.length:=by omega
 obtain⟨b,hb⟩:∃b,E.β[bx.length]?=some b:=⟨_,List.getElem?_eq_getElem hlt⟩
 obtain⟨T,arr,h1,h2⟩:=hp.bxs bx.length b [.v x] hb (by simp);have h2:=h2.plain (fun t r e=>by cases e);unfold A.repC at h2;obtain⟨u,us',h3,h4,h5,-⟩:=h2;obtain⟨rfl,h6⟩:=A.rep_v_iff.1 h5
 have hsee:kQ w ⟨b,0,none⟩=some u:=by
  refine jbD ?_
  have h0:arr[0]?=some u:=by
   have:=congrArg (·[0]?) h3;simpa using this
  simp[World.cell?,h1,h0]
 have hbm:b∈E.β:=List.mem_of_getElem? hb
 have hfr:w0.fr b:=by
  obtain⟨β',hβ,hβ'⟩:=hp.bp;refine .inl (hβ' b ?_);rw[hβ,List.getElem?_append_right hn'] at hb;exact List.mem_of_getElem? hb
 have hnt:b∉E.β.take bx.length:=fun hm=>by
  obtain⟨i,hi,he⟩:=List.mem_iff_getElem.1 hm;rw[List.length_take] at hi;rw[List.getElem_take] at he
  have h7:E.β[i]?=some b:=by rw[List.getElem?_eq_getElem (by omega),he]
  have:=(List.getElem?_inj (by omega) hp.bnd).1 (h7.trans hb.symm);omega
 obtain⟨C',hp2,le,hC'⟩:=hpw.learn hfr hnt (fun g e k n cs y hg hy hk=>by
  have hy':E.ρ[g]?=some y:=by
   rw[List.getElem?_take] at hy;split at hy
   ·exact hy
   ·cases hy
  exact(hp.rC g e k n cs y b hg hy' hk).1 hbm)
 refine⟨⟨C',E.β.take bx.length,E.ρ.take rw.length⟩,hp2,?_,?_⟩
 ·exact jcI hb le.C (show C' ⟨b,0,none⟩=some u by rw[hC' _ rfl];exact hsee) h4 h6 hrep
 ·exact(mL (by rw[e] at hn';exact hn') hdr hd).mono le
theorem jk7{c:Cx}{x:Code}{t:List A}{bx:List (List A)}{rw:List Row}{v:Value}{q:Exit->S->Prop}(hn:Nat.ble c.np bx.length=true)(hrf:uI bx.length rw.length bx=true)(h:aN (jfD bx.length rw.length v) t fun t'=>Ok c x ⟨t',bx,rw⟩ q):Ok c x ⟨t,bx++[[.v v]],rw⟩ q:=by
 rw[qN] at h;exact jqN (jpm hn hrf) h
end
end Go.Proofs.YtdnnmiemgmgffaaGreatDoor.Vm
namespace Go.Proofs.YtdnnmiemgmgffaaGreatDoor.Vm
open Go.RowKit Go.Shelf
theorem jhf(k:Int):Spec Tryz.prog 143 [] [intA k] fun _ r=>r=.clo 144 [.pp [intA k]]:=by
 refine bM (jQ jR qB 0) (fun _ _ h=>h) Tryz.func143 rfl (by kernel_rfl) rfl ?_;intro _;refine yO (jQ _ _ _) (by kernel_rfl) ?_;conv=>whnf
 refine jk7 (bx:=[]) (v:=.int .i64 k) rfl rfl ?_;conv=>whnf
 refine z6 (jQ _ _ _) (by kernel_rfl) ?_;conv=>whnf
 rfl
theorem jhg(k:Int):Spec Tryz.prog 145 [] [intA k] fun _ r=>r=.clo 146 [.pp [intA k]]:=by
 refine bM (jQ jR qB 0) (fun _ _ h=>h) Tryz.func145 rfl (by kernel_rfl) rfl ?_;intro _;refine yO (jQ _ _ _) (by kernel_rfl) ?_;conv=>whnf
 refine jk7 (bx:=[]) (v:=.int .i64 k) rfl rfl ?_;conv=>whnf
 refine z6 (jQ _ _ _) (by kernel_rfl) ?_;conv=>whnf
 rfl
def stmL:List (ByteArray×A):=[(wIf,.clo 147 []),(wWhile,.clo 148 []),(gC,.clo 149 []),(wTimer,.clo 146 [.pp [intA 5]]),(kN,.clo 146 [.pp [intA 6]]),(wSync,.clo 144 [.pp [intA 7]]),(wStop,.clo 144 [.pp [intA 10]]),(yJ,.clo 150 []),(wFail,.clo 151 [])]
def stmA:A:=.mp (stmL.map fun p=>.string p.1) (stmL.map (·.2))
theorem f0:Spec Tryz.prog 130 [] [] fun _ r=>r=stmA:=by
 refine bM (jQ jR qB 0) (fun _ _ h=>h) Tryz.func130 rfl (by kernel_rfl) rfl ?_;intro _;refine yO (jQ _ _ _) (by kernel_rfl) ?_;conv=>whnf
 refine yO (jQ _ _ _) (by kernel_rfl) ?_;conv=>whnf
 refine yO (jQ _ _ _) (by kernel_rfl) ?_;conv=>whnf
 refine yO (jQ _ _ _) (by kernel_rfl) ?_;conv=>whnf
 have h5:=jhg 5;have h6:=jhg 6;have h7:=jhf 7;have h10:=jhf 10
 (refine kL [] h5 ?_;rintro r rfl;conv=>whnf)
 conv=>whnf
 (refine kL [] h6 ?_;rintro r rfl;conv=>whnf)
 conv=>whnf
 (refine kL [] h7 ?_;rintro r rfl;conv=>whnf)
 conv=>whnf
 (refine kL [] h10 ?_;rintro r rfl;conv=>whnf)
 conv=>whnf
 refine jeP 0 ?_;conv=>whnf
 refine z6 (jQ _ _ _) (by kernel_rfl) ?_;conv=>whnf
 rfl
def jac(nm:List ByteArray)(lv:Int)(g:Nat)(caps:List A)(op:List Tk->Pn):Prop:=∀ts,TkP ts->SpecP Tryz.prog g [hZ nm ts] ([.box 0 0,intA lv]++caps) (poQ nm (op ts)) (pnQ (op ts))
theorem jdR(nm:List ByteArray)(lv k:Int):jac nm lv 144 [.pp [intA k]] fun ts=>xpt jO ts fun r=>.ok (.mk k 0 eB []) r:=fun ts h=>by
 refine jkq ?_
 obtain⟨P,hP⟩:∃P,(xpt jO ts fun r=>.ok (.mk k 0 eB []) r)=P:=⟨_,rfl⟩
 simp only
 rw[hP];unfold xpt at hP;refine eNP jR qB Tryz.func144 rfl ?_;intro _;conv=>whnf
 refine kR 0 [] (jU nm ts h.pos jO) (fun ch bx' hp=>?_) ?_
 ·rw[if_neg (by rw[hp.1];simp)] at hP;exact jK hP.symm hp.2
 rintro o r ⟨hx,ho,rfl⟩;cases ho;rw[if_pos hx] at hP;subst hP;conv=>whnf
 exact⟨rfl,_,rfl,qC (f:=.mk k 0 eB []) rfl⟩
theorem jdS(nm:List ByteArray)(lv k:Int):jac nm lv 146 [.pp [intA k]] fun ts=>nX 8 ts fun n r=>xpt jO r fun r=>.ok (.mk k n eB []) r:=fun ts h=>by
 refine jkq ?_
 obtain⟨P,hP⟩:∃P,(nX 8 ts fun n r=>xpt jO r fun r=>.ok (.mk k n eB []) r)=P:=⟨_,rfl⟩
 simp only
 rw[hP];have hnum:=mK nm ts h.pos 8;unfold nX at hP;have htl:=h.tail;refine eNP jso (fun _=>[0]) Tryz.func146 rfl ?_;intro _;conv=>whnf
 unfold fU;refine⟨_,?_,fun _ h=>h⟩;conv=>whnf
 refine⟨?_,?_⟩
 ·conv=>whnf
  refine kR 0 [] hnum (fun ch bx' hp=>?_) ?_
  ·rcases hp with ⟨h1,h2⟩|⟨h1,h2,h3⟩
   ·rw[if_pos h1] at hP;exact jK hP.symm h2
   ·rw[if_neg (by rw[h1];simp),if_pos h2] at hP;exact jK hP.symm h3
  rintro o r ⟨⟨h1,h2⟩,ho,rfl⟩;cases ho;rw[if_neg (by rw[h1];simp),if_neg (by omega)] at hP;obtain⟨q1,q2⟩:=htl (by rw[h1];decide);generalize ts.tail=ts1 at *;generalize (hd ts).n=n at *;conv=>whnf
  simp only[xpt] at hP;refine kR 0 [] (jU nm ts1 q1.pos jO) (fun ch bx' hp=>?_) ?_
  ·rw[if_neg (by rw[hp.1];simp)] at hP;exact jK hP.symm hp.2
  rintro o r ⟨hx,ho,rfl⟩;cases ho;rw[if_pos hx] at hP;subst hP;conv=>whnf
  exact⟨rfl,_,rfl,qC (f:=.mk k n eB []) rfl⟩
 ·conv=>whnf
  refine kR 0 [] hnum (fun ch bx' hp=>?_) ?_
  ·rcases hp with ⟨h1,h2⟩|⟨h1,h2,h3⟩
   ·rw[if_pos h1] at hP;exact jK hP.symm h2
   ·rw[if_neg (by rw[h1];simp),if_pos h2] at hP;exact jK hP.symm h3
  rintro o r ⟨⟨h1,h2⟩,ho,rfl⟩;cases ho;rw[if_neg (by rw[h1];simp),if_neg (by omega)] at hP;obtain⟨q1,q2⟩:=htl (by rw[h1];decide);generalize ts.tail=ts1 at *;generalize (hd ts).n=n at *;conv=>whnf
  simp only[xpt] at hP;refine kR 0 [] (jU nm ts1 q1.pos jO) (fun ch bx' hp=>?_) ?_
  ·rw[if_neg (by rw[hp.1];simp)] at hP;exact jK hP.symm hp.2
  rintro o r ⟨hx,ho,rfl⟩;cases ho;rw[if_pos hx] at hP;subst hP;conv=>whnf
  exact⟨rfl,_,rfl,qC (f:=.mk k n eB []) rfl⟩
theorem jmJ{nm:List ByteArray}{lv:Int}{ex:List Tk->Pn}(hex:zX nm 129 lv ex)(gex:qZ ex):jac nm lv 151 [] fun ts=>(ex ts).andThen fun a r=>xpt jO r fun r=>.ok (.mk 9 0 eB [a]) r:=fun ts h=>by
 obtain⟨P,hP⟩:∃P,((ex ts).andThen fun a r=>xpt jO r fun r=>.ok (.mk 9 0 eB [a]) r)=P:=⟨_,rfl⟩
 simp only
 rw[hP];refine eNP jR qB Tryz.func151 rfl ?_;intro _;conv=>whnf
 refine kR 0 [] (hex ts h) (fun ch bx' hp=>?_) ?_
 ·obtain⟨x,e,he,hc⟩:=zN hp;rw[he] at hP;exact jK hP.symm hc
 rintro o r hpo;obtain⟨f,r1,he,ho,rfl⟩:=j8 hpo;cases ho;rw[he] at hP;simp only[Pn.andThen,xpt] at hP;obtain⟨g1,l1⟩:=gex _ _ _ h he;conv=>whnf
 refine kR 0 [] (jU nm r1 g1.pos jO) (fun ch bx' hp=>?_) ?_
 ·rw[if_neg (by rw[hp.1];simp)] at hP;exact jK hP.symm hp.2
 rintro o r ⟨hx,ho,rfl⟩;cases ho;rw[if_pos hx] at hP;subst hP;conv=>whnf
 exact⟨rfl,by rw[wH];rfl⟩
theorem jlA{nm:List ByteArray}{lv:Int}{ex bl:List Tk->Pn}(hlv:0<=lv/\lv<=20)(hex:zX nm 129 lv ex)(gex:qZ ex)(hbl:zX nm 97 (lv+1) bl)(gbl:qZ bl):jac nm lv 148 [] fun ts=>(ex ts).andThen fun c r=>(bl r).andThen fun b r=>.ok (.mk 3 0 eB [c,b]) r:=fun ts h=>by
 obtain⟨P,hP⟩:∃P,((ex ts).andThen fun c r=>(bl r).andThen fun b r=>.ok (.mk 3 0 eB [c,b]) r)=P:=⟨_,rfl⟩
 simp only
 rw[hP];refine eNP jR qB Tryz.func148 rfl ?_;intro _;conv=>whnf
 refine kR 0 [] (hex ts h) (fun ch bx' hp=>?_) ?_
 ·obtain⟨x,e,he,hc⟩:=zN hp;rw[he] at hP;exact jK hP.symm hc
 rintro o r hpo;obtain⟨f,r1,he,ho,rfl⟩:=j8 hpo;cases ho;rw[he] at hP;simp only[Pn.andThen,xpt] at hP;obtain⟨g1,l1⟩:=gex _ _ _ h he;conv=>whnf
 refine⟨jH (by omega),?_⟩;conv=>whnf
 refine kR 0 [] (hbl r1 g1) (fun ch bx' hp=>?_) ?_
 ·obtain⟨x,e,he,hc⟩:=zN hp;rw[he] at hP;exact jK hP.symm hc
 rintro o r hpo;obtain⟨f2,r2,he,ho,rfl⟩:=j8 hpo;cases ho;rw[he] at hP;simp only[Pn.andThen,xpt] at hP;obtain⟨g2,l2⟩:=gbl _ _ _ g1 he;subst hP;conv=>whnf
 exact⟨rfl,by rw[yZ];rfl⟩
theorem yY(k n:Int)(s:ByteArray)(f g h:Nt):ntA (.mk k n s [f,g,h])=[intA k,intA n,jX s,.sl 4 3 (ntA f++(ntA g++ntA h))]:=by
 have e1:ntA f++(ntA g++ntA h)=qW [f,g,h]:=by rw[zT,zT,zT,kY,List.append_nil]
 rw[e1];rfl
theorem jlj{nm:List ByteArray}{lv:Int}{ex:List Tk->Pn}(hex:zX nm 129 lv ex)(gex:qZ ex):jac nm lv 150 [] fun ts=>(ex ts).andThen fun a r=>xpt jZ r fun r=>(ex r).andThen fun b r=>xpt jO r fun r=>.ok (.mk 8 0 eB [a,b]) r:=fun ts h=>by
 obtain⟨P,hP⟩:∃P,((ex ts).andThen fun a r=>xpt jZ r fun r=>(ex r).andThen fun b r=>xpt jO r fun r=>.ok (.mk 8 0 eB [a,b]) r)=P:=⟨_,rfl⟩
 simp only
 rw[hP];refine eNP jsq (fun _=>[0]) Tryz.func150 rfl ?_;intro _;conv=>whnf
 refine kR 0 [] (hex ts h) (fun ch bx' hp=>?_) ?_
 ·obtain⟨x,e,he,hc⟩:=zN hp;rw[he] at hP;exact jK hP.symm hc
 rintro o r hpo;obtain⟨f,r1,he,ho,rfl⟩:=j8 hpo;cases ho;rw[he] at hP;simp only[Pn.andThen,xpt] at hP;obtain⟨g1,l1⟩:=gex _ _ _ h he;conv=>whnf
 refine kR 0 [] (jU nm r1 g1.pos jZ) (fun ch bx' hp=>?_) ?_
 ·rw[if_neg (by rw[hp.1];simp)] at hP;exact jK hP.symm hp.2
 rintro o r ⟨hx,ho,rfl⟩;cases ho;rw[if_pos hx] at hP;obtain⟨q2,q3⟩:=g1.is hx;generalize r1.tail=r2 at *;conv=>whnf
 unfold fU;refine⟨_,?_,fun _ h=>h⟩;conv=>whnf
 refine⟨?_,?_⟩
 ·conv=>whnf
  refine kR 0 [] (hex r2 q2) (fun ch bx' hp=>?_) ?_
  ·obtain⟨x,e,he,hc⟩:=zN hp;rw[he] at hP;exact jK hP.symm hc
  rintro o r hpo;obtain⟨f2,r3,he,ho,rfl⟩:=j8 hpo;cases ho;rw[he] at hP;simp only[Pn.andThen,xpt] at hP;obtain⟨g3,l3⟩:=gex _ _ _ q2 he;conv=>whnf
  refine⟨?_,?_⟩
  ·conv=>whnf
   refine kR 0 [] (jU nm r3 g3.pos jO) (fun ch bx' hp=>?_) ?_
   ·rw[if_neg (by rw[hp.1];simp)] at hP;exact jK hP.symm hp.2
   rintro o r ⟨hx,ho,rfl⟩;cases ho;rw[if_pos hx] at hP;subst hP;conv=>whnf
   exact⟨rfl,by rw[yZ];rfl⟩
  ·conv=>whnf
   refine kR 0 [] (jU nm r3 g3.pos jO) (fun ch bx' hp=>?_) ?_
   ·rw[if_neg (by rw[hp.1];simp)] at hP;exact jK hP.symm hp.2
   rintro o r ⟨hx,ho,rfl⟩;cases ho;rw[if_pos hx] at hP;subst hP;conv=>whnf
   exact⟨rfl,by rw[yZ];rfl⟩
 ·conv=>whnf
  refine kR 0 [] (hex r2 q2) (fun ch bx' hp=>?_) ?_
  ·obtain⟨x,e,he,hc⟩:=zN hp;rw[he] at hP;exact jK hP.symm hc
  rintro o r hpo;obtain⟨f2,r3,he,ho,rfl⟩:=j8 hpo;cases ho;rw[he] at hP;simp only[Pn.andThen,xpt] at hP;obtain⟨g3,l3⟩:=gex _ _ _ q2 he;conv=>whnf
  conv=>whnf
  refine kR 0 [] (jU nm r3 g3.pos jO) (fun ch bx' hp=>?_) ?_
  ·rw[if_neg (by rw[hp.1];simp)] at hP;exact jK hP.symm hp.2
  rintro o r ⟨hx,ho,rfl⟩;cases ho;rw[if_pos hx] at hP;subst hP;conv=>whnf
  exact⟨rfl,by rw[yZ];rfl⟩
theorem jhZ{nm:List ByteArray}{lv:Int}{ex bl:List Tk->Pn}(hlv:0<=lv/\lv<=20)(hex:zX nm 129 lv ex)(gex:qZ ex)(hbl:zX nm 97 (lv+1) bl)(gbl:qZ bl):jac nm lv 147 [] fun ts=>(ex ts).andThen fun c r=>(bl r).andThen fun b r=>if q8 f9 r=true then(bl r.tail).andThen fun o r=>.ok (.mk 2 0 eB [c,b,o]) r else .ok (.mk 2 0 eB [c,b,wO []]) r:=fun ts h=>by
 refine jkq ?_
 obtain⟨P,hP⟩:∃P,((ex ts).andThen fun c r=>(bl r).andThen fun b r=>if q8 f9 r=true then(bl r.tail).andThen fun o r=>.ok (.mk 2 0 eB [c,b,o]) r else .ok (.mk 2 0 eB [c,b,wO []]) r)=P:=⟨_,rfl⟩
 simp only
 rw[hP];refine eNP jR qB Tryz.func147 rfl ?_;intro _;conv=>whnf
 refine kR 0 [] (hex ts h) (fun ch bx' hp=>?_) ?_
 ·obtain⟨x,e,he,hc⟩:=zN hp;rw[he] at hP;exact jK hP.symm hc
 rintro o r hpo;obtain⟨f,r1,he,ho,rfl⟩:=j8 hpo;cases ho;rw[he] at hP;simp only[Pn.andThen,xpt] at hP;obtain⟨g1,l1⟩:=gex _ _ _ h he;conv=>whnf
 refine⟨jH (by omega),?_⟩;conv=>whnf
 refine kR 0 [] (hbl r1 g1) (fun ch bx' hp=>?_) ?_
 ·obtain⟨x,e,he,hc⟩:=zN hp;rw[he] at hP;exact jK hP.symm hc
 rintro o r hpo;obtain⟨f2,r2,he,ho,rfl⟩:=j8 hpo;cases ho;rw[he] at hP;simp only[Pn.andThen,xpt] at hP;obtain⟨g2,l2⟩:=gbl _ _ _ g1 he;conv=>whnf
 refine jT 0 [] (nO nm r2 g2.pos f9) ?_;rintro o r ⟨ho,rfl⟩;cases ho;conv=>whnf
 cases hq:q8 f9 r2 with
 |true =>
  rw[if_pos hq] at hP;obtain⟨q2,q3⟩:=g2.is hq;have hnx:=wV nm r2 g2.pos;generalize r2.tail=r3 at *;conv=>whnf
  refine jT 0 [] hnx ?_;rintro o r ⟨ho,rfl⟩;cases ho;conv=>whnf
  refine⟨jH (by omega),?_⟩;conv=>whnf
  refine kR 0 [] (hbl r3 q2) (fun ch bx' hp=>?_) ?_
  ·obtain⟨x,e,he,hc⟩:=zN hp;rw[he] at hP;exact jK hP.symm hc
  rintro o r hpo;obtain⟨f3,r4,he,ho,rfl⟩:=j8 hpo;cases ho;rw[he] at hP;simp only[Pn.andThen,xpt] at hP;obtain⟨g4,l4⟩:=gbl _ _ _ q2 he;subst hP;conv=>whnf
  refine⟨by omega,?_⟩;conv=>whnf
  exact jiG (p:=.ok (.mk 2 0 eB [f,f2,f3]) r4) (show _/\_ from ⟨rfl,by rw[yY];rfl⟩)
 |false =>
  rw[if_neg (by rw[hq];simp)] at hP;subst hP;conv=>whnf
  refine⟨rfl,_,rfl,?_⟩;rw[yY];exact .cons (.refl _) (.cons (.refl _) (.cons (.refl _) (.cons (.sl 4 3 (cs:=ntA f++(ntA f2++jpG (wO []))) (WkL.app (WkL.refl (ntA f)) (WkL.app (WkL.refl (ntA f2)) (qC (f:=wO []) rfl)))) .nil)))
def lL(ex:List Tk->Pn)(n:Int):Nat->List Nt->List Tk->Pn
 |0,l,ts=>xpt jO ts fun r=>.ok (.mk 4 n eB l) r
 |k+1,l,ts=>xpt jZ ts fun r=>(ex r).andThen fun a r=>lL ex n k (l++[a]) r
theorem jnZ{nm:List ByteArray}{lv:Int}{ex:List Tk->Pn}(hex:zX nm 129 lv ex)(gex:qZ ex):jac nm lv 149 [] fun ts=>(ex ts).andThen fun t r=>xpt jZ r fun r=>nX 30 r fun n r=>lL ex n 2 [t] r:=fun ts h=>by
 obtain⟨P,hP⟩:∃P,((ex ts).andThen fun t r=>xpt jZ r fun r=>nX 30 r fun n r=>lL ex n 2 [t] r)=P:=⟨_,rfl⟩
 simp only
 rw[hP];refine eNP jsp (fun _=>[0]) Tryz.func149 rfl ?_;intro _;conv=>whnf
 refine kR 0 [] (hex ts h) (fun ch bx' hp=>?_) ?_
 ·obtain⟨x,e,he,hc⟩:=zN hp;rw[he] at hP;exact jK hP.symm hc
 rintro o r hpo;obtain⟨f,r1,he,ho,rfl⟩:=j8 hpo;cases ho;rw[he] at hP;simp only[Pn.andThen,xpt] at hP;obtain⟨g1,l1⟩:=gex _ _ _ h he;conv=>whnf
 refine kR 0 [] (jU nm r1 g1.pos jZ) (fun ch bx' hp=>?_) ?_
 ·rw[if_neg (by rw[hp.1];simp)] at hP;exact jK hP.symm hp.2
 rintro o r ⟨hx,ho,rfl⟩;cases ho;rw[if_pos hx] at hP;obtain⟨q2,q3⟩:=g1.is hx;generalize r1.tail=r2 at *;simp only[nX] at hP;conv=>whnf
 refine kR 0 [] (mK nm r2 q2.pos 30) (fun ch bx' hp=>?_) ?_
 ·rcases hp with ⟨h1,h2⟩|⟨h1,h2,h3⟩
  ·rw[if_pos h1] at hP;exact jK hP.symm h2
  ·rw[if_neg (by rw[h1];simp),if_pos h2] at hP;exact jK hP.symm h3
 rintro o r ⟨⟨h1,h2⟩,ho,rfl⟩;cases ho;rw[if_neg (by rw[h1];simp),if_neg (by omega)] at hP;obtain⟨q4,q5⟩:=q2.tail (by rw[h1];decide);generalize r2.tail=r3 at *;generalize (hd r2).n=n at *;conv=>whnf
 refine jC [0,1,4,5] ?_;conv=>whnf
 refine jI (fun x:Nat×List Nt×List Tk=>[(16,.v (.int .i64 x.1))]) (fun x=>[hZ nm x.2.2,jc7,[intA 4,intA n,jX ⟨#[]⟩,.own 0]]) (fun x=>[.live 45 4 x.2.1.length (qW x.2.1)]) (fun x=>TkP x.2.2/\x.1<=2/\x.2.1.length<=1+x.1/\lL ex n (2-x.1) x.2.1 x.2.2=P) (fun x=>2-x.1) (0,[f],r3) ?_ ⟨q4,by simp,by simp,hP⟩ ?_
 ·have e1:qW [f]=ntA f:=by rw[zT,kY,List.append_nil]
  repeat' constructor
  show Row.live _ _ _ _=Row.live _ 4 1 (qW [f]);rw[e1];rfl
 rintro⟨j,l,ts1⟩ ⟨g2,g3,g4,g5⟩
 simp only at g2 g3 g4 g5
 conv=>whnf
 by_cases hj:j<2
 ·rw[jJ (show(j:Int)<2 by omega)]
  obtain⟨m,hm⟩:∃m,2-j=m+1:=⟨1-j,by omega⟩
  rw[hm] at g5;simp only[lL,xpt] at g5;have hP:=g5;conv=>whnf
  refine kR 0 [] (jU nm ts1 g2.pos jZ) (fun ch bx' hp=>?_) ?_
  ·rw[if_neg (by rw[hp.1];simp)] at hP;exact jK hP.symm hp.2
  rintro o r ⟨hx,ho,rfl⟩;cases ho;rw[if_pos hx] at hP;obtain⟨q6,q7⟩:=g2.is hx;generalize ts1.tail=ts2 at *;conv=>whnf
  refine kR 0 [] (hex ts2 q6) (fun ch bx' hp=>?_) ?_
  ·obtain⟨x,e,he,hc⟩:=zN hp;rw[he] at hP;exact jK hP.symm hc
  rintro o r hpo;obtain⟨f2,r4,he,ho,rfl⟩:=j8 hpo;cases ho;rw[he] at hP;simp only[Pn.andThen,xpt] at hP;obtain⟨g6,l6⟩:=gex _ _ _ q6 he;conv=>whnf
  refine⟨⟨by simp only;unfold maxLen;omega,by simp only;omega⟩,?_⟩;conv=>whnf
  refine⟨jH (by omega),?_⟩;conv=>whnf
  refine⟨(j+1,l++[f2],r4),jF [0] ?_,⟨g6,hj,by simp only[List.length_append,List.length_cons,List.length_nil];omega,by simp only;rw[show 2-(j+1)=m by omega];exact hP⟩,by simp only;omega⟩;conv=>whnf
  repeat' constructor
  simp only[List.length_append,List.length_cons,List.length_nil];rw[mG];rfl
 ·rw[jG (show ¬(j:Int)<2 by omega)];rw[show 2-j=0 by omega] at g5;simp only[lL,xpt] at g5;have hP:=g5;conv=>whnf
  refine kR 0 [] (jU nm ts1 g2.pos jO) (fun ch bx' hp=>?_) ?_
  ·rw[if_neg (by rw[hp.1];simp)] at hP;exact jK hP.symm hp.2
  rintro o r ⟨hx,ho,rfl⟩;cases ho;rw[if_pos hx] at hP;subst hP;conv=>whnf
  exact⟨rfl,rfl⟩
def stK(ex bl:List Tk->Pn)(w:ByteArray)(ts:List Tk):Pn :=
 if w=wIf then(ex ts).andThen fun c r=>(bl r).andThen fun b r=>if q8 f9 r=true then(bl r.tail).andThen fun o r=>.ok (.mk 2 0 eB [c,b,o]) r else .ok (.mk 2 0 eB [c,b,wO []]) r
 else if w=wWhile then(ex ts).andThen fun c r=>(bl r).andThen fun b r=>.ok (.mk 3 0 eB [c,b]) r
 else if w=gC then(ex ts).andThen fun t r=>xpt jZ r fun r=>nX 30 r fun n r=>lL ex n 2 [t] r
 else if w=wTimer then nX 8 ts fun n r=>xpt jO r fun r=>.ok (.mk 5 n eB []) r
 else if w=kN then nX 8 ts fun n r=>xpt jO r fun r=>.ok (.mk 6 n eB []) r
 else if w=wSync then xpt jO ts fun r=>.ok (.mk 7 0 eB []) r
 else if w=wStop then xpt jO ts fun r=>.ok (.mk 10 0 eB []) r
 else if w=yJ then(ex ts).andThen fun a r=>xpt jZ r fun r=>(ex r).andThen fun b r=>xpt jO r fun r=>.ok (.mk 8 0 eB [a,b]) r
 else(ex ts).andThen fun a r=>xpt jO r fun r=>.ok (.mk 9 0 eB [a]) r
theorem joc{nm:List ByteArray}{lv:Int}{ex bl:List Tk->Pn}(hlv:0<=lv/\lv<=20)(hex:zX nm 129 lv ex)(gex:qZ ex)(hbl:zX nm 97 (lv+1) bl)(gbl:qZ bl)(ts:List Tk)(h:TkP ts)(P:Pn)(hn:wQ ts=false)
  (hP:(if (hd ts).kind≠1 then .bad (hd ts).pos 10 else stK ex bl (hd ts).text ts.tail)=P) (hw:(hd ts).text=wIf∨(hd ts).text=wWhile∨(hd ts).text=gC∨(hd ts).text=wTimer∨(hd ts).text=kN∨(hd ts).text=wSync∨(hd ts).text=wStop∨(hd ts).text=yJ∨(hd ts).text=wFail):SpecP Tryz.prog 120 [hZ nm ts] [.box 0 0,intA lv] (poQ nm P) (pnQ P):=by
 have hl:=h.pos;have hr:=nZ hl;have hnm:=fH nm ts hl h.hd h.good.1;rw[hn] at hnm;have hnx:=wV nm ts hl;have hfl:=gN nm ts hl 10;have htl:=h.tail;have sIf:=jhZ hlv hex gex hbl gbl;have sWhile:=jlA hlv hex gex hbl gbl;have sSend:=jnZ hex gex;have sTimer:=jdS nm lv 5;have sCancel:=jdS nm lv 6;have sSync:=jdR nm lv 7;have sStop:=jdR nm lv 10;have sReply:=jlj hex gex;have sFail:=jmJ hex gex;refine eNP jiC (fun _=>[0]) Tryz.func120 rfl ?_;intro _;generalize hd ts=t at *;conv=>whnf
 (refine iA ?_;try with_reducible exact trivial)
 (generalize hrq:jD _ _ (z8 ts)=rq;obtain rfl:rq=cR t:=hrq.symm.trans (hr);clear hrq;conv=>whnf)
 refine jT 0 [] hnm ?_;rintro o r ⟨ho,rfl⟩;cases ho;conv=>whnf
 refine kL [] f0 ?_;rintro r rfl;conv=>whnf
 unfold stK at hP;by_cases g0:t.text=wIf
 ·rw[show decide (t.text=(wIf,A.clo 147 []).fst)=true from jJ g0];rw[if_pos g0] at hP;conv=>whnf
  by_cases hk:t.kind=1
  ·rw[jJ hk];rw[if_neg (by rw[hk];simp)] at hP;obtain⟨q1,q2⟩:=htl (by rw[hk];decide);have hs:=sIf ts.tail q1
   simp only at hs
   rw[hP] at hs;generalize ts.tail=r1 at *;conv=>whnf
   refine jT 0 [] hnx ?_;rintro o r ⟨ho,rfl⟩;cases ho;conv=>whnf
   refine kR 0 [] hs (fun ch bx' hp=>hp) ?_;rintro o r hpo;obtain⟨f,r2,rfl,ho,rfl⟩:=j8 hpo;cases ho;conv=>whnf
   exact⟨rfl,rfl⟩
  ·rw[jG hk];rw[if_pos hk] at hP;conv=>whnf
   refine kR 0 [] hfl (fun ch bx' hp=>jK hP.symm hp) ?_;rintro o r ⟨⟩
 rw[show decide (t.text=(wIf,A.clo 147 []).fst)=false from jG g0];rw[if_neg g0] at hP;conv=>whnf
 by_cases g1:t.text=wWhile
 ·rw[show decide (t.text=(wWhile,A.clo 148 []).fst)=true from jJ g1];rw[if_pos g1] at hP;conv=>whnf
  by_cases hk:t.kind=1
  ·rw[jJ hk];rw[if_neg (by rw[hk];simp)] at hP;obtain⟨q1,q2⟩:=htl (by rw[hk];decide);have hs:=sWhile ts.tail q1
   simp only at hs
   rw[hP] at hs;generalize ts.tail=r1 at *;conv=>whnf
   refine jT 0 [] hnx ?_;rintro o r ⟨ho,rfl⟩;cases ho;conv=>whnf
   refine kR 0 [] hs (fun ch bx' hp=>hp) ?_;rintro o r hpo;obtain⟨f,r2,rfl,ho,rfl⟩:=j8 hpo;cases ho;conv=>whnf
   exact⟨rfl,rfl⟩
  ·rw[jG hk];rw[if_pos hk] at hP;conv=>whnf
   refine kR 0 [] hfl (fun ch bx' hp=>jK hP.symm hp) ?_;rintro o r ⟨⟩
 rw[show decide (t.text=(wWhile,A.clo 148 []).fst)=false from jG g1];rw[if_neg g1] at hP;conv=>whnf
 by_cases g2:t.text=gC
 ·rw[show decide (t.text=(gC,A.clo 149 []).fst)=true from jJ g2];rw[if_pos g2] at hP;conv=>whnf
  by_cases hk:t.kind=1
  ·rw[jJ hk];rw[if_neg (by rw[hk];simp)] at hP;obtain⟨q1,q2⟩:=htl (by rw[hk];decide);have hs:=sSend ts.tail q1
   simp only at hs
   rw[hP] at hs;generalize ts.tail=r1 at *;conv=>whnf
   refine jT 0 [] hnx ?_;rintro o r ⟨ho,rfl⟩;cases ho;conv=>whnf
   refine kR 0 [] hs (fun ch bx' hp=>hp) ?_;rintro o r hpo;obtain⟨f,r2,rfl,ho,rfl⟩:=j8 hpo;cases ho;conv=>whnf
   exact⟨rfl,rfl⟩
  ·rw[jG hk];rw[if_pos hk] at hP;conv=>whnf
   refine kR 0 [] hfl (fun ch bx' hp=>jK hP.symm hp) ?_;rintro o r ⟨⟩
 rw[show decide (t.text=(gC,A.clo 149 []).fst)=false from jG g2];rw[if_neg g2] at hP;conv=>whnf
 by_cases g3:t.text=wTimer
 ·rw[show decide (t.text=(wTimer,A.clo 146 [.pp [intA 5]]).fst)=true from jJ g3];rw[if_pos g3] at hP;conv=>whnf
  by_cases hk:t.kind=1
  ·rw[jJ hk];rw[if_neg (by rw[hk];simp)] at hP;obtain⟨q1,q2⟩:=htl (by rw[hk];decide);have hs:=sTimer ts.tail q1
   simp only at hs
   rw[hP] at hs;generalize ts.tail=r1 at *;conv=>whnf
   refine jT 0 [] hnx ?_;rintro o r ⟨ho,rfl⟩;cases ho;conv=>whnf
   refine kR 0 [] hs (fun ch bx' hp=>hp) ?_;rintro o r hpo;obtain⟨f,r2,rfl,ho,rfl⟩:=j8 hpo;cases ho;conv=>whnf
   exact⟨rfl,rfl⟩
  ·rw[jG hk];rw[if_pos hk] at hP;conv=>whnf
   refine kR 0 [] hfl (fun ch bx' hp=>jK hP.symm hp) ?_;rintro o r ⟨⟩
 rw[show decide (t.text=(wTimer,A.clo 146 [.pp [intA 5]]).fst)=false from jG g3];rw[if_neg g3] at hP;conv=>whnf
 by_cases g4:t.text=kN
 ·rw[show decide (t.text=(kN,A.clo 146 [.pp [intA 6]]).fst)=true from jJ g4];rw[if_pos g4] at hP;conv=>whnf
  by_cases hk:t.kind=1
  ·rw[jJ hk];rw[if_neg (by rw[hk];simp)] at hP;obtain⟨q1,q2⟩:=htl (by rw[hk];decide);have hs:=sCancel ts.tail q1
   simp only at hs
   rw[hP] at hs;generalize ts.tail=r1 at *;conv=>whnf
   refine jT 0 [] hnx ?_;rintro o r ⟨ho,rfl⟩;cases ho;conv=>whnf
   refine kR 0 [] hs (fun ch bx' hp=>hp) ?_;rintro o r hpo;obtain⟨f,r2,rfl,ho,rfl⟩:=j8 hpo;cases ho;conv=>whnf
   exact⟨rfl,rfl⟩
  ·rw[jG hk];rw[if_pos hk] at hP;conv=>whnf
   refine kR 0 [] hfl (fun ch bx' hp=>jK hP.symm hp) ?_;rintro o r ⟨⟩
 rw[show decide (t.text=(kN,A.clo 146 [.pp [intA 6]]).fst)=false from jG g4];rw[if_neg g4] at hP;conv=>whnf
 by_cases g5:t.text=wSync
 ·rw[show decide (t.text=(wSync,A.clo 144 [.pp [intA 7]]).fst)=true from jJ g5];rw[if_pos g5] at hP;conv=>whnf
  by_cases hk:t.kind=1
  ·rw[jJ hk];rw[if_neg (by rw[hk];simp)] at hP;obtain⟨q1,q2⟩:=htl (by rw[hk];decide);have hs:=sSync ts.tail q1
   simp only at hs
   rw[hP] at hs;generalize ts.tail=r1 at *;conv=>whnf
   refine jT 0 [] hnx ?_;rintro o r ⟨ho,rfl⟩;cases ho;conv=>whnf
   refine kR 0 [] hs (fun ch bx' hp=>hp) ?_;rintro o r hpo;obtain⟨f,r2,rfl,ho,rfl⟩:=j8 hpo;cases ho;conv=>whnf
   exact⟨rfl,rfl⟩
  ·rw[jG hk];rw[if_pos hk] at hP;conv=>whnf
   refine kR 0 [] hfl (fun ch bx' hp=>jK hP.symm hp) ?_;rintro o r ⟨⟩
 rw[show decide (t.text=(wSync,A.clo 144 [.pp [intA 7]]).fst)=false from jG g5];rw[if_neg g5] at hP;conv=>whnf
 by_cases g6:t.text=wStop
 ·rw[show decide (t.text=(wStop,A.clo 144 [.pp [intA 10]]).fst)=true from jJ g6];rw[if_pos g6] at hP;conv=>whnf
  by_cases hk:t.kind=1
  ·rw[jJ hk];rw[if_neg (by rw[hk];simp)] at hP;obtain⟨q1,q2⟩:=htl (by rw[hk];decide);have hs:=sStop ts.tail q1
   simp only at hs
   rw[hP] at hs;generalize ts.tail=r1 at *;conv=>whnf
   refine jT 0 [] hnx ?_;rintro o r ⟨ho,rfl⟩;cases ho;conv=>whnf
   refine kR 0 [] hs (fun ch bx' hp=>hp) ?_;rintro o r hpo;obtain⟨f,r2,rfl,ho,rfl⟩:=j8 hpo;cases ho;conv=>whnf
   exact⟨rfl,rfl⟩
  ·rw[jG hk];rw[if_pos hk] at hP;conv=>whnf
   refine kR 0 [] hfl (fun ch bx' hp=>jK hP.symm hp) ?_;rintro o r ⟨⟩
 rw[show decide (t.text=(wStop,A.clo 144 [.pp [intA 10]]).fst)=false from jG g6];rw[if_neg g6] at hP;conv=>whnf
 by_cases g7:t.text=yJ
 ·rw[show decide (t.text=(yJ,A.clo 150 []).fst)=true from jJ g7];rw[if_pos g7] at hP;conv=>whnf
  by_cases hk:t.kind=1
  ·rw[jJ hk];rw[if_neg (by rw[hk];simp)] at hP;obtain⟨q1,q2⟩:=htl (by rw[hk];decide);have hs:=sReply ts.tail q1
   simp only at hs
   rw[hP] at hs;generalize ts.tail=r1 at *;conv=>whnf
   refine jT 0 [] hnx ?_;rintro o r ⟨ho,rfl⟩;cases ho;conv=>whnf
   refine kR 0 [] hs (fun ch bx' hp=>hp) ?_;rintro o r hpo;obtain⟨f,r2,rfl,ho,rfl⟩:=j8 hpo;cases ho;conv=>whnf
   exact⟨rfl,rfl⟩
  ·rw[jG hk];rw[if_pos hk] at hP;conv=>whnf
   refine kR 0 [] hfl (fun ch bx' hp=>jK hP.symm hp) ?_;rintro o r ⟨⟩
 rw[show decide (t.text=(yJ,A.clo 150 []).fst)=false from jG g7];rw[if_neg g7] at hP;conv=>whnf
 have g8:t.text=wFail:=by
  rcases hw with e|e|e|e|e|e|e|e|e <;> first|exact e|contradiction
 rw[show decide (t.text=(wFail,A.clo 151 []).fst)=true from jJ g8];conv=>whnf
 by_cases hk:t.kind=1
 ·rw[jJ hk];rw[if_neg (by rw[hk];simp)] at hP;obtain⟨q1,q2⟩:=htl (by rw[hk];decide);have hs:=sFail ts.tail q1
  simp only at hs
  rw[hP] at hs;generalize ts.tail=r1 at *;conv=>whnf
  refine jT 0 [] hnx ?_;rintro o r ⟨ho,rfl⟩;cases ho;conv=>whnf
  refine kR 0 [] hs (fun ch bx' hp=>hp) ?_;rintro o r hpo;obtain⟨f,r2,rfl,ho,rfl⟩:=j8 hpo;cases ho;conv=>whnf
  exact⟨rfl,rfl⟩
 ·rw[jG hk];rw[if_pos hk] at hP;conv=>whnf
  refine kR 0 [] hfl (fun ch bx' hp=>jK hP.symm hp) ?_;rintro o r ⟨⟩
theorem job(nm:List ByteArray)(lv:Int)(ts:List Tk)(h:TkP ts)(hn:wQ ts=false)(hw:¬((hd ts).text=wIf∨(hd ts).text=wWhile∨(hd ts).text=gC∨(hd ts).text=wTimer∨(hd ts).text=kN∨(hd ts).text=wSync∨(hd ts).text=wStop∨(hd ts).text=yJ∨(hd ts).text=wFail)):SpecP Tryz.prog 120 [hZ nm ts] [.box 0 0,intA lv] (poQ nm (synE ts)) (pnQ (synE ts)):=by
 obtain⟨P,hP⟩:∃P,Pn.bad (hd ts).pos 10=P:=⟨_,rfl⟩
 unfold synE;rw[hP];have hl:=h.pos;have hr:=nZ hl;have hnm:=fH nm ts hl h.hd h.good.1;rw[hn] at hnm;have hfl:=gN nm ts hl 10;simp only[not_or] at hw;obtain⟨g0,g1,g2,g3,g4,g5,g6,g7,g8⟩:=hw;refine eNP jiC (fun _=>[0]) Tryz.func120 rfl ?_;intro _;generalize hd ts=t at *;conv=>whnf
 (refine iA ?_;try with_reducible exact trivial)
 (generalize hrq:jD _ _ (z8 ts)=rq;obtain rfl:rq=cR t:=hrq.symm.trans (hr);clear hrq;conv=>whnf)
 refine jT 0 [] hnm ?_;rintro o r ⟨ho,rfl⟩;cases ho;conv=>whnf
 refine kL [] f0 ?_;rintro r rfl;conv=>whnf
 rw[show decide (t.text=(wIf,A.clo 147 []).fst)=false from jG g0];conv=>whnf
 rw[show decide (t.text=(wWhile,A.clo 148 []).fst)=false from jG g1];conv=>whnf
 rw[show decide (t.text=(gC,A.clo 149 []).fst)=false from jG g2];conv=>whnf
 rw[show decide (t.text=(wTimer,A.clo 146 [.pp [intA 5]]).fst)=false from jG g3];conv=>whnf
 rw[show decide (t.text=(kN,A.clo 146 [.pp [intA 6]]).fst)=false from jG g4];conv=>whnf
 rw[show decide (t.text=(wSync,A.clo 144 [.pp [intA 7]]).fst)=false from jG g5];conv=>whnf
 rw[show decide (t.text=(wStop,A.clo 144 [.pp [intA 10]]).fst)=false from jG g6];conv=>whnf
 rw[show decide (t.text=(yJ,A.clo 150 []).fst)=false from jG g7];conv=>whnf
 rw[show decide (t.text=(wFail,A.clo 151 []).fst)=false from jG g8];conv=>whnf
 by_cases hk:t.kind=1
 ·rw[jJ hk];conv=>whnf
  refine kR 0 [] hfl (fun ch bx' hp=>jK hP.symm hp) ?_;rintro o r ⟨⟩
 ·rw[jG hk];conv=>whnf
  refine kR 0 [] hfl (fun ch bx' hp=>jK hP.symm hp) ?_;rintro o r ⟨⟩
theorem jj5{nm:List ByteArray}{lv:Int}{ex:List Tk->Pn}(hex:zX nm 129 lv ex)(gex:qZ ex)(ts:List Tk)(h:TkP ts)(hn:wQ ts=true)(P:Pn)(hP:(xpt pEq ts.tail fun r=>(ex r).andThen fun e r=>xpt jO r fun r=>.ok (.mk 1 0 (hd ts).text [e]) r)=P):SpecP Tryz.prog 120 [hZ nm ts] [.box 0 0,intA lv] (poQ nm P) (pnQ P):=by
 have hl:=h.pos;have hr:=nZ hl;have hnm:=fH nm ts hl h.hd h.good.1;rw[hn] at hnm;have hnx:=wV nm ts hl
 have hk1:(hd ts).kind=1:=by
  unfold wQ at hn;simp only[Bool.and_eq_true,decide_eq_true_eq] at hn;exact hn.1
 obtain⟨q1,q2⟩:=h.tail (by rw[hk1];decide);simp only[xpt] at hP;refine eNP jiC (fun _=>[0]) Tryz.func120 rfl ?_;intro _;generalize hd ts=t at *;generalize ts.tail=r1 at *;conv=>whnf
 (refine iA ?_;try with_reducible exact trivial)
 (generalize hrq:jD _ _ (z8 ts)=rq;obtain rfl:rq=cR t:=hrq.symm.trans (hr);clear hrq;conv=>whnf)
 refine jT 0 [] hnm ?_;rintro o r ⟨ho,rfl⟩;cases ho;conv=>whnf
 refine jT 0 [] hnx ?_;rintro o r ⟨ho,rfl⟩;cases ho;conv=>whnf
 refine kR 0 [] (jU nm r1 q1.pos pEq) (fun ch bx' hp=>?_) ?_
 ·rw[if_neg (by rw[hp.1];simp)] at hP;exact jK hP.symm hp.2
 rintro o r ⟨hx,ho,rfl⟩;cases ho;rw[if_pos hx] at hP;obtain⟨q4,q5⟩:=q1.is hx;generalize r1.tail=r2 at *;conv=>whnf
 unfold fU;refine⟨_,?_,fun _ h=>h⟩;conv=>whnf
 refine⟨?_,?_⟩
 ·conv=>whnf
  refine kR 0 [] (hex r2 q4) (fun ch bx' hp=>?_) ?_
  ·obtain⟨x,e,he,hc⟩:=zN hp;rw[he] at hP;exact jK hP.symm hc
  rintro o r hpo;obtain⟨f2,r3,he,ho,rfl⟩:=j8 hpo;cases ho;rw[he] at hP;simp only[Pn.andThen,xpt] at hP;obtain⟨g3,l3⟩:=gex _ _ _ q4 he;conv=>whnf
  refine⟨?_,?_⟩
  ·conv=>whnf
   refine kR 0 [] (jU nm r3 g3.pos jO) (fun ch bx' hp=>?_) ?_
   ·rw[if_neg (by rw[hp.1];simp)] at hP;exact jK hP.symm hp.2
   rintro o r ⟨hx,ho,rfl⟩;cases ho;rw[if_pos hx] at hP;subst hP;conv=>whnf
   exact⟨rfl,by rw[wH];rfl⟩
  ·conv=>whnf
   refine kR 0 [] (jU nm r3 g3.pos jO) (fun ch bx' hp=>?_) ?_
   ·rw[if_neg (by rw[hp.1];simp)] at hP;exact jK hP.symm hp.2
   rintro o r ⟨hx,ho,rfl⟩;cases ho;rw[if_pos hx] at hP;subst hP;conv=>whnf
   exact⟨rfl,by rw[wH];rfl⟩
 ·conv=>whnf
  refine kR 0 [] (hex r2 q4) (fun ch bx' hp=>?_) ?_
  ·obtain⟨x,e,he,hc⟩:=zN hp;rw[he] at hP;exact jK hP.symm hc
  rintro o r hpo;obtain⟨f2,r3,he,ho,rfl⟩:=j8 hpo;cases ho;rw[he] at hP;simp only[Pn.andThen,xpt] at hP;obtain⟨g3,l3⟩:=gex _ _ _ q4 he;conv=>whnf
  conv=>whnf
  refine kR 0 [] (jU nm r3 g3.pos jO) (fun ch bx' hp=>?_) ?_
  ·rw[if_neg (by rw[hp.1];simp)] at hP;exact jK hP.symm hp.2
  rintro o r ⟨hx,ho,rfl⟩;cases ho;rw[if_pos hx] at hP;subst hP;conv=>whnf
  exact⟨rfl,by rw[wH];rfl⟩
theorem jm4{nm:List ByteArray}{lv:Int}{st:List Tk->Pn}(hlv:0<=lv/\lv<=20)(hst:zX nm 120 lv st)(gst:qZ st)(sst:∀ts f r,TkP ts->st ts=.ok f r->r.length<ts.length):zX nm 97 lv (bkF st):=fun ts h=>by
 obtain⟨P,hP⟩:∃P,bkF st ts=P:=⟨_,rfl⟩
 rw[hP];have hopen:=fI nm ts h.pos pLb lv;simp only[bkF,xpt] at hP;have hb0:=h.1.2;refine eNP jqR (fun _=>[0]) Tryz.func97 rfl ?_;intro _;conv=>whnf
 refine kR 0 [] hopen (fun ch bx' hp=>?_) ?_
 ·rcases hp with ⟨h1,h2,hp⟩|⟨h1,hp⟩
  ·omega
  ·rw[if_neg (by rw[h1];simp)] at hP;exact jK hP.symm hp
 rintro o r ⟨⟨h1,h2⟩,ho,rfl⟩;cases ho;rw[if_pos h1] at hP;obtain⟨q1,q2⟩:=h.is h1;generalize ts.tail=r1 at *;conv=>whnf
 refine qU 45 4 [] [(2,3)] ?_;conv=>whnf
 refine⟨trivial,?_⟩;conv=>whnf
 refine jC [0,1,4,5] ?_;conv=>whnf
 refine jI (fun _:Nat×List Nt×List Tk=>[]) (fun x=>[hZ nm x.2.2,jc7,[intA 11,intA 0,jX ⟨#[]⟩,.own 0]]) (fun x=>[.live 45 4 x.2.1.length (qW x.2.1)]) (fun x=>TkP x.2.2/\x.2.2.length<=x.1/\x.2.1.length+x.2.2.length<=1000001/\cY st x.1 x.2.1 x.2.2=P) (fun x=>x.2.2.length) (r1.length,[],r1) ?_ ⟨q1,Nat.le_refl _,by simp only[List.length_nil];omega,hP⟩ ?_
 ·repeat' constructor
  show Row.live _ _ _ _=Row.live _ 4 0 (qW []);rw[kY]
 rintro⟨n,acc,ts1⟩ ⟨g1,g2,g3,g5⟩
 simp only at g1 g2 g3 g5
 obtain⟨m,rfl⟩:∃m,n=m+1:=⟨n-1,by have:=g1.pos;omega⟩
 rw[cY] at g5;conv=>whnf
 refine jT 0 [] (nO nm ts1 g1.pos pRb) ?_;rintro o r ⟨ho,rfl⟩;cases ho;conv=>whnf
 cases hq:q8 pRb ts1 with
 |false =>
  rw[if_neg (by rw[hq];simp)] at g5;have hP:=g5;conv=>whnf
  refine kR 0 [] (hst ts1 g1) (fun ch bx' hp=>?_) ?_
  ·obtain⟨x,e,he,hc⟩:=zN hp;rw[he] at hP;exact jK hP.symm hc
  rintro o r hpo;obtain⟨f2,r2,he,ho,rfl⟩:=j8 hpo;cases ho;rw[he] at hP;simp only[Pn.andThen] at hP;obtain⟨g6,l6⟩:=gst _ _ _ g1 he;have hlt:=sst _ _ _ g1 he;conv=>whnf
  refine⟨⟨by simp only;unfold maxLen;omega,by simp only;omega⟩,?_⟩;conv=>whnf
  refine⟨(m,acc++[f2],r2),jF [0] ?_,⟨g6,by simp only;omega,by simp only[List.length_append,List.length_cons,List.length_nil];omega,hP⟩,by simp only;omega⟩;conv=>whnf
  repeat' constructor
  simp only[List.length_append,List.length_cons,List.length_nil];rw[mG];rfl
 |true =>
  rw[if_pos hq] at g5;have hnx:=wV nm ts1 g1.pos;subst g5;conv=>whnf
  refine jT 0 [] hnx ?_;rintro o r ⟨ho,rfl⟩;cases ho;conv=>whnf
  exact⟨rfl,rfl⟩
theorem jhW(nm:List ByteArray):zX nm 97 21 bkN:=fun ts h=>by
 obtain⟨P,hP⟩:∃P,bkN ts=P:=⟨_,rfl⟩
 rw[hP];have hopen:=fI nm ts h.pos pLb 21;unfold bkN at hP;refine eNP jqR (fun _=>[0]) Tryz.func97 rfl ?_;intro _;conv=>whnf
 refine kR 0 [] hopen (fun ch bx' hp=>?_) ?_
 ·rcases hp with ⟨h1,h2,hp⟩|⟨h1,hp⟩
  ·rw[if_pos h1] at hP;exact jK hP.symm hp
  ·rw[if_neg (by rw[h1];simp)] at hP;exact jK hP.symm hp
 rintro o r ⟨⟨h1,h2⟩,ho,rfl⟩;exact absurd h2 (by decide)
theorem jhi(ex bl:List Tk->Pn)(ts:List Tk)(hn:wQ ts=false)(hw:(hd ts).text=wIf∨(hd ts).text=wWhile∨(hd ts).text=gC∨(hd ts).text=wTimer∨(hd ts).text=kN∨(hd ts).text=wSync∨(hd ts).text=wStop∨(hd ts).text=yJ∨(hd ts).text=wFail) :
  (if (hd ts).kind≠1 then .bad (hd ts).pos 10 else stK ex bl (hd ts).text ts.tail)=stG ex bl ts:=by
 unfold stG stK;rw[if_neg (show ¬wQ ts=true by rw[hn];simp)];by_cases hk:(hd ts).kind≠1
 ·rw[if_pos hk,if_pos hk];rfl
 ·rw[if_neg hk,if_neg hk]
  rcases hw with e|e|e|e|e|e|e|e|e <;> rw[e] <;> rfl
theorem jhh(ex bl:List Tk->Pn)(ts:List Tk)(hn:wQ ts=false)(hw:¬((hd ts).text=wIf∨(hd ts).text=wWhile∨(hd ts).text=gC∨(hd ts).text=wTimer∨(hd ts).text=kN∨(hd ts).text=wSync∨(hd ts).text=wStop∨(hd ts).text=yJ∨(hd ts).text=wFail)):stG ex bl ts=synE ts:=by
 simp only[not_or] at hw;obtain⟨g0,g1,g2,g3,g4,g5,g6,g7,g8⟩:=hw;unfold stG;rw[if_neg (show ¬wQ ts=true by rw[hn];simp),if_neg g0,if_neg g1,if_neg g2,if_neg g3,if_neg g4,if_neg g5,if_neg g7,if_neg g8,if_neg g6]
 split <;> rfl
theorem jbL{nm:List ByteArray}{lv:Int}{ex bl:List Tk->Pn}(hlv:0<=lv/\lv<=20)(hex:zX nm 129 lv ex)(gex:qZ ex)(hbl:zX nm 97 (lv+1) bl)(gbl:qZ bl):zX nm 120 lv (stG ex bl):=fun ts h=>by
 cases hn:wQ ts with
 |true=>exact jj5 hex gex ts h hn _ (by unfold stG;rw[hn,if_pos rfl])
 |false =>
  by_cases hw:(hd ts).text=wIf∨(hd ts).text=wWhile∨(hd ts).text=gC∨(hd ts).text=wTimer∨(hd ts).text=kN∨(hd ts).text=wSync∨(hd ts).text=wStop∨(hd ts).text=yJ∨(hd ts).text=wFail
  ·exact joc hlv hex gex hbl gbl ts h _ hn (jhi ex bl ts hn hw) hw
  ·rw[jhh ex bl ts hn hw];exact job nm lv ts h hn hw
def GoesS(op:List Tk->Pn):Prop:=∀ts f r,TkP ts->op ts=.ok f r->TkP r/\r.length<ts.length
theorem GoesS.goes{op:List Tk->Pn}(h:GoesS op):qZ op:=fun ts f r k e=>⟨(h ts f r k e).1,Nat.le_of_lt (h ts f r k e).2⟩
theorem jeO{lim:Int}{ts:List Tk}{k:Int->List Tk->Pn}{f:Nt}{r:List Tk}(h:nX lim ts k=.ok f r):(hd ts).kind=2/\k (hd ts).n ts.tail=.ok f r:=by
 unfold nX at h;split at h
 ·cases h
 ·split at h
  ·cases h
  ·rename_i h1 h2;exact⟨Decidable.not_not.1 h1,h⟩
theorem yW{ts:List Tk}(h:wQ ts=true):(hd ts).kind=1:=by
 have h2:(decide ((hd ts).kind=1) && !(keyL++builtL).any fun s=>decide ((hd ts).text=s))=true:=h;exact of_decide_eq_true (Bool.and_eq_true_iff.1 h2).1
theorem nW{c:Prop}[Decidable c]{a b x:Pn}(h:(if c then a else b)=x):(c/\a=x)∨(¬c/\b=x):=by
 by_cases hc:c
 ·rw[if_pos hc] at h;exact .inl ⟨hc,h⟩
 ·rw[if_neg hc] at h;exact .inr ⟨hc,h⟩
theorem rL{ex bl:List Tk->Pn}(gex:qZ ex)(gbl:qZ bl):GoesS (stG ex bl):=fun ts f r h e=>by
 unfold stG at e;rcases nW e with ⟨hn,e⟩|⟨hn,e⟩
 ·obtain⟨q1,q2⟩:=h.tail (by rw[yW hn];decide);obtain⟨i,e⟩:=xW e;obtain⟨g1,l1⟩:=q1.is i;obtain⟨_,_,i,e⟩:=j4 e;obtain⟨g2,l2⟩:=gex _ _ _ g1 i;obtain⟨i,e⟩:=xW e;obtain⟨g3,l3⟩:=g2.is i;cases e;exact⟨g3,by omega⟩
 rcases nW e with ⟨hk,e⟩|⟨hk,e⟩
 ·cases e
 obtain⟨q1,q2⟩:=h.tail (by rw[Decidable.not_not.1 hk];decide);rcases nW e with ⟨_,e⟩|⟨_,e⟩
 ·obtain⟨_,_,i,e⟩:=j4 e;obtain⟨g1,l1⟩:=gex _ _ _ q1 i;obtain⟨_,_,i,e⟩:=j4 e;obtain⟨g2,l2⟩:=gbl _ _ _ g1 i;rcases nW e with ⟨hs,e⟩|⟨hs,e⟩
  ·obtain⟨g3,l3⟩:=g2.is hs;obtain⟨_,_,i,e⟩:=j4 e;obtain⟨g4,l4⟩:=gbl _ _ _ g3 i;cases e;exact⟨g4,by omega⟩
  ·cases e;exact⟨g2,by omega⟩
 rcases nW e with ⟨_,e⟩|⟨_,e⟩
 ·obtain⟨_,_,i,e⟩:=j4 e;obtain⟨g1,l1⟩:=gex _ _ _ q1 i;obtain⟨_,_,i,e⟩:=j4 e;obtain⟨g2,l2⟩:=gbl _ _ _ g1 i;cases e;exact⟨g2,by omega⟩
 rcases nW e with ⟨_,e⟩|⟨_,e⟩
 ·obtain⟨_,_,i,e⟩:=j4 e;obtain⟨g1,l1⟩:=gex _ _ _ q1 i;obtain⟨i,e⟩:=xW e;obtain⟨g2,l2⟩:=g1.is i;obtain⟨i,e⟩:=jeO e;obtain⟨g3,l3⟩:=g2.tail (by rw[i];decide);obtain⟨i,e⟩:=xW e;obtain⟨g4,l4⟩:=g3.is i;obtain⟨_,_,i,e⟩:=j4 e;obtain⟨g5,l5⟩:=gex _ _ _ g4 i;obtain⟨i,e⟩:=xW e;obtain⟨g6,l6⟩:=g5.is i;obtain⟨_,_,i,e⟩:=j4 e;obtain⟨g7,l7⟩:=gex _ _ _ g6 i;obtain⟨i,e⟩:=xW e;obtain⟨g8,l8⟩:=g7.is i;cases e;exact⟨g8,by omega⟩
 rcases nW e with ⟨_,e⟩|⟨_,e⟩
 ·obtain⟨i,e⟩:=jeO e;obtain⟨g3,l3⟩:=q1.tail (by rw[i];decide);obtain⟨i,e⟩:=xW e;obtain⟨g4,l4⟩:=g3.is i;cases e;exact⟨g4,by omega⟩
 rcases nW e with ⟨_,e⟩|⟨_,e⟩
 ·obtain⟨i,e⟩:=jeO e;obtain⟨g3,l3⟩:=q1.tail (by rw[i];decide);obtain⟨i,e⟩:=xW e;obtain⟨g4,l4⟩:=g3.is i;cases e;exact⟨g4,by omega⟩
 rcases nW e with ⟨_,e⟩|⟨_,e⟩
 ·obtain⟨i,e⟩:=xW e;obtain⟨g4,l4⟩:=q1.is i;cases e;exact⟨g4,by omega⟩
 rcases nW e with ⟨_,e⟩|⟨_,e⟩
 ·obtain⟨_,_,i,e⟩:=j4 e;obtain⟨g1,l1⟩:=gex _ _ _ q1 i;obtain⟨i,e⟩:=xW e;obtain⟨g2,l2⟩:=g1.is i;obtain⟨_,_,i,e⟩:=j4 e;obtain⟨g3,l3⟩:=gex _ _ _ g2 i;obtain⟨i,e⟩:=xW e;obtain⟨g4,l4⟩:=g3.is i;cases e;exact⟨g4,by omega⟩
 rcases nW e with ⟨_,e⟩|⟨_,e⟩
 ·obtain⟨_,_,i,e⟩:=j4 e;obtain⟨g1,l1⟩:=gex _ _ _ q1 i;obtain⟨i,e⟩:=xW e;obtain⟨g2,l2⟩:=g1.is i;cases e;exact⟨g2,by omega⟩
 rcases nW e with ⟨_,e⟩|⟨_,e⟩
 ·obtain⟨i,e⟩:=xW e;obtain⟨g4,l4⟩:=q1.is i;cases e;exact⟨g4,by omega⟩
 ·cases e
theorem jcW{st:List Tk->Pn}(gst:GoesS st):∀(n:Nat) (acc:List Nt) (ts:List Tk) (f:Nt) (r:List Tk),TkP ts->cY st n acc ts=.ok f r->TkP r/\r.length<=ts.length
 |0,acc,ts,f,r,h,e=>by cases e
 |n+1,acc,ts,f,r,h,e=>by
  rw[cY] at e;split at e
  ·rename_i hs;obtain⟨g1,l1⟩:=h.is hs;cases e;exact⟨g1,by omega⟩
  ·obtain⟨_,_,i,e⟩:=j4 e;obtain⟨g1,l1⟩:=gst _ _ _ h i;obtain⟨g2,l2⟩:=jcW gst n _ _ _ _ g1 e;exact⟨g2,by omega⟩
theorem jjJ{st:List Tk->Pn}(gst:GoesS st):GoesS (bkF st):=fun ts f r h e=>by
 unfold bkF at e;obtain⟨i,e⟩:=xW e;obtain⟨g1,l1⟩:=h.is i;obtain⟨g2,l2⟩:=jcW gst _ _ _ _ _ g1 e;exact⟨g2,by omega⟩
theorem gI{low:Option Pa}(hl:cT low):qZ (jna low):=by
 cases low with
 |none =>
  intro ts f r h e;have e2:(if q8 pLb ts=true then Pn.bad (hd ts).pos 2 else .bad (hd ts).pos 10)=.ok f r:=e
  split at e2 <;> cases e2
 |some p=>exact(hl p rfl).2.2.2
theorem jeD{low:Option Pa}(hl:cT low):cT (some (paG low)):=fun p hp=>by
 cases hp;exact⟨nG hl,nH hl,nF hl,(jjJ (rL (nF hl) (gI hl))).goes⟩
theorem jdg{nm:List ByteArray}{lv:Int}{low:Option Pa}(h:LowQ nm lv low):zX nm 97 (lv+1) (jna low):=by
 obtain⟨h0,⟨rfl,rfl⟩|⟨p,rfl,h1,a,b,c,d,e,f,g,i⟩⟩:=h
 ·exact jhW nm
 ·exact i
theorem jgw{nm:List ByteArray}{lv:Int}{low:Option Pa}(h0:0<=lv)(h1:lv+1<=20)(h:LowQ nm (lv+1) low):LowQ nm lv (some (paG low)):=by
 have hg:=h.goes;obtain⟨a,b,c,d⟩:=jeD hg _ rfl;have hst:=jbL (lv:=lv+1) ⟨by omega,h1⟩ (jcR h) (nF hg) (jdg h) (gI hg);have gst:=rL (nF hg) (gI hg);exact⟨h0,.inr ⟨_,rfl,h1,a,b,c,d,jgE h,jbZ h,jcR h,jm4 ⟨by omega,h1⟩ hst gst.goes fun ts f r k e=>(gst ts f r k e).2⟩⟩
theorem jeT(nm:List ByteArray):∀d:Nat,d<=19->LowQ nm (19-d) (some (pa d))
 |0,_=>jgw (by decide) (by decide) ⟨by decide,.inl ⟨rfl,rfl⟩⟩
 |d+1,h=>by
  have ih:=jeT nm d (by omega);refine jgw (by omega) (by omega) ?_;rw[show(19-((d+1:Nat):Int)+1)=19-(d:Int) by push_cast;omega];exact ih
theorem jfz(nm:List ByteArray):zX nm 97 1 (pa 19).bl:=jdg (jeT nm 19 (by decide))
theorem iL:GoesS (pa 19).bl:=by
 have h:=(jeT [] 18 (by decide)).goes;exact jjJ (rL (nF h) (gI h))
theorem uN(l:List ByteArray)(s:ByteArray)(hl:l.length<=1000000):Spec Tryz.prog 114 [] [.sl 1 l.length (gB l),jX s] fun _ r=>r=zK (qD l s):=by
 have hi:=oK l s hl;refine eN jR qB 0 Tryz.func114 rfl ?_;intro _;conv=>whnf
 refine kL [] hi ?_;rintro r ⟨n,hn,hq,rfl⟩;conv=>whnf
 rw[hq];rfl
def deH(n:Nat)(nm out:List ByteArray)(ts:List Tk):Pd :=
 if q8 jZ ts=true then gG n nm out ts else if q8 jO ts=true then .ok nm out ts.tail else .bad (hd ts).pos 10
theorem uZ(n:Nat)(nm out:List ByteArray)(ts:List Tk):gG (n+1) nm out ts =
  (if wQ ts.tail=false then .bad (hd ts.tail).pos 10
  else if qD nm (hd ts.tail).text=true then .bad (hd ts.tail).pos 4
  else if nm.length=16 then .bad (hd ts.tail).pos 2
  else deH n (nm++[(hd ts.tail).text]) (out++[(hd ts.tail).text]) ts.tail.tail):=rfl
def pdQ(p:Pd)(ch:List PanicEntry):Prop:=match p with
 |.bad x e=>ch=qX x e
 |_=>False
theorem pD{p:Pd}{x e:Int}{ch:List PanicEntry}(h:p=.bad x e)(k:ch=qX x e):pdQ p ch:=by subst h;exact k
def doQ(p:Pd)(o:List (List A))(n:Nat)(cs:List A)(r:A):Prop:=match p with
 |.ok nm out ts=>o=[bxN ts++[.own 0]]/\n=nm.length/\cs=gB nm/\r=.sl 1 out.length (gB out)
 |_=>False
theorem lR(l:List ByteArray)(s:ByteArray):gB (l++[s])=gB l++[jX s]:=by unfold gB;rw[List.map_append];rfl
theorem jcN(nm:List ByteArray)(ts:List Tk)(h:TkP ts)(hk:(hd ts).kind≠0)(hl16:nm.length<=16) :
  iH Tryz.prog 94 [bxN ts++[.own 0]] 9 1 nm.length (gB nm) [.box 0 0] (doQ (gG ts.length nm [] ts)) (pdQ (gG ts.length nm [] ts)):=by
 obtain⟨P,hP⟩:∃P,gG ts.length nm [] ts=P:=⟨_,rfl⟩
 rw[hP];have hb0:=h.1.2;refine qP (wJ jR qB 1 (fun ch _=>(pdQ P) ch)) (fun _ _ h=>h) Tryz.func94 rfl (by kernel_rfl) rfl (by kernel_rfl) ?_;intro _;conv=>whnf
 refine qU 9 1 [3] [] ?_;conv=>whnf
 refine⟨trivial,?_⟩;conv=>whnf
 refine jC [0,3] ?_;conv=>whnf
 refine jI (fun x:Nat×Bool×List ByteArray×List ByteArray×List Tk=>[(4,.v (.bool x.2.1))]) (fun x=>[bxN x.2.2.2.2++[.own 0]]) (fun x=>[.live 9 1 x.2.2.1.length (gB x.2.2.1),.live 9 1 x.2.2.2.1.length (gB x.2.2.2.1)])
  (fun x=>TkP x.2.2.2.2/\x.2.2.2.2.length<=x.1/\x.2.2.1.length<=16/\x.2.2.2.1.length+x.2.2.2.2.length<=1000001/\(x.2.1=true->(hd x.2.2.2.2).kind≠0/\gG x.1 x.2.2.1 x.2.2.2.1 x.2.2.2.2=P)/\(x.2.1=false->deH x.1 x.2.2.1 x.2.2.2.1 x.2.2.2.2=P)) (fun x=>x.2.2.2.2.length) (ts.length,true,nm,[],ts) ?_ ⟨h,Nat.le_refl _,hl16,by simp only[List.length_nil];omega,fun _=>⟨hk,hP⟩,fun e=>by cases e⟩ ?_
 ·repeat' constructor
 rintro⟨n0,b,nm1,out,ts0⟩ ⟨g1,g2,g3,g4,g5,g6⟩
 simp only at g1 g2 g3 g4 g5 g6
 conv=>whnf
 cases b with
 |true =>
  obtain⟨g7,hP⟩:=g5 rfl
  obtain⟨n,rfl⟩:∃n,n0=n+1:=⟨n0-1,by have:=g1.pos;omega⟩
  rw[uZ] at hP;obtain⟨q1,q2⟩:=g1.tail g7;have hnx:=tF ts0 g1.pos;have hp1:=q1.pos;generalize hd ts0=t0 at *;generalize ts0.tail=ts1 at *;conv=>whnf
  refine qJ 0 0 2 [] rfl rfl rfl rfl rfl rfl rfl (fun _=>(hnx).rp rfl rfl _ _ _ _) (fun ch bx' hp=>hp.elim) ?_;rintro o n' cs' r ⟨c,ho,rfl,rfl,rfl,rfl⟩;cases ho;conv=>whnf
  have hnm:=jiN ts1 hp1 q1.hd q1.good.1;refine qJ 0 2 3 [] rfl rfl rfl rfl rfl rfl rfl (fun _=>(hnm).rp rfl rfl _ _ _ _) (fun ch bx' hp=>hp.elim) ?_;rintro o n' cs' r ⟨c,ho,rfl,rfl,rfl,rfl⟩;cases ho;conv=>whnf
  cases hn:wQ ts1 with
  |false =>
   rw[if_pos hn] at hP;conv=>whnf
   refine qJ 0 3 4 [] rfl rfl rfl rfl rfl rfl rfl (fun _=>(lG ts1 hp1 10).rp rfl rfl _ _ _ _) (fun ch bx' hp _ _=>pD hP.symm hp) ?_;rintro o n' cs' r ⟨c,ho,_,_,⟨⟩⟩
  |true =>
   rw[if_neg (by rw[hn];simp)] at hP;have hr1:=nZ hp1;obtain⟨q4,q5⟩:=q1.tail (by rw[yW hn];decide);have hnx2:=tF ts1 hp1;have hz1:=q1.good.1;generalize hts2:ts1.tail=ts2 at *;generalize ht1:hd ts1=t1 at *;have hct:=uN nm1 t1.text (by omega);conv=>whnf
   (refine iA ?_;try with_reducible exact trivial)
   (generalize hrq:jD _ _ (z8 ts1)=rq;obtain rfl:rq=cR t1:=hrq.symm.trans (hr1);clear hrq;conv=>whnf)
   refine jju [3] rfl (fun _=>hct) ?_;rintro r rfl;refine⟨_,rfl,?_⟩;conv=>whnf
   cases hh:qD nm1 t1.text with
   |true =>
    rw[if_pos hh] at hP;rw[<- ht1] at hP;conv=>whnf
    refine qJ 0 3 4 [] rfl rfl rfl rfl rfl rfl rfl (fun _=>(lG ts1 hp1 4).rp rfl rfl _ _ _ _) (fun ch bx' hp _ _=>pD hP.symm hp) ?_;rintro o n' cs' r ⟨c,ho,_,_,⟨⟩⟩
   |false =>
    rw[if_neg (by rw[hh];simp)] at hP;conv=>whnf
    by_cases h16:nm1.length=16
    ·rw[jJ (show(nm1.length:Int)=16 by omega)];rw[if_pos h16] at hP;rw[<- ht1] at hP;conv=>whnf
     refine qJ 0 3 4 [] rfl rfl rfl rfl rfl rfl rfl (fun _=>(lG ts1 hp1 2).rp rfl rfl _ _ _ _) (fun ch bx' hp _ _=>pD hP.symm hp) ?_;rintro o n' cs' r ⟨c,ho,_,_,⟨⟩⟩
    ·rw[jG (show ¬(nm1.length:Int)=16 by omega)];rw[if_neg h16] at hP;conv=>whnf
     refine⟨⟨by simp only;unfold maxLen;omega,by simp only;omega⟩,?_⟩;conv=>whnf
     refine⟨⟨by simp only;unfold maxLen;omega,by simp only;omega⟩,?_⟩;conv=>whnf
     refine qJ 0 3 6 [] rfl rfl rfl rfl rfl rfl rfl (fun _=>(hnx2).rp rfl rfl _ _ _ _) (fun ch bx' hp=>hp.elim) ?_;rintro o n' cs' r ⟨c,ho,rfl,rfl,rfl,rfl⟩;cases ho;conv=>whnf
     refine⟨(n,false,nm1++[t1.text],out++[t1.text],ts2),jF [6,1] ?_,⟨q4,by simp only;omega,by simp only[List.length_append,List.length_cons,List.length_nil];omega,by simp only[List.length_append,List.length_cons,List.length_nil];omega,fun e=>(by cases e),fun _=>hP⟩,by simp only;omega⟩;conv=>whnf
     simp only[List.length_append,List.length_cons,List.length_nil,lR];repeat' constructor
 |false =>
  have hP:=g6 rfl;have hpos:=g1.pos;have hcm:=jpE ts0 hpos jZ;conv=>whnf
  refine qJ 0 0 2 [] rfl rfl rfl rfl rfl rfl rfl (fun _=>(hcm).rp rfl rfl _ _ _ _) (fun ch bx' hp=>hp.elim) ?_;rintro o n' cs' r ⟨c,ho,rfl,rfl,rfl,rfl⟩;cases ho;conv=>whnf
  unfold deH at hP
  cases hq:q8 jZ ts0 with
  |true =>
   rw[if_pos hq] at hP
   obtain⟨n,rfl⟩:∃n,n0=n+1:=⟨n0-1,by omega⟩
   rw[uZ] at hP;obtain⟨q1,q2⟩:=g1.is hq;have hnx:=tF ts0 hpos;have hp1:=q1.pos;generalize hd ts0=t0 at *;generalize ts0.tail=ts1 at *;conv=>whnf
   refine qJ 0 2 3 [] rfl rfl rfl rfl rfl rfl rfl (fun _=>(hnx).rp rfl rfl _ _ _ _) (fun ch bx' hp=>hp.elim) ?_;rintro o n' cs' r ⟨c,ho,rfl,rfl,rfl,rfl⟩;cases ho;conv=>whnf
   have hnm:=jiN ts1 hp1 q1.hd q1.good.1;refine qJ 0 3 4 [] rfl rfl rfl rfl rfl rfl rfl (fun _=>(hnm).rp rfl rfl _ _ _ _) (fun ch bx' hp=>hp.elim) ?_;rintro o n' cs' r ⟨c,ho,rfl,rfl,rfl,rfl⟩;cases ho;conv=>whnf
   cases hn:wQ ts1 with
   |false =>
    rw[if_pos hn] at hP;conv=>whnf
    refine qJ 0 4 5 [] rfl rfl rfl rfl rfl rfl rfl (fun _=>(lG ts1 hp1 10).rp rfl rfl _ _ _ _) (fun ch bx' hp _ _=>pD hP.symm hp) ?_;rintro o n' cs' r ⟨c,ho,_,_,⟨⟩⟩
   |true =>
    rw[if_neg (by rw[hn];simp)] at hP;have hr1:=nZ hp1;obtain⟨q4,q5⟩:=q1.tail (by rw[yW hn];decide);have hnx2:=tF ts1 hp1;have hz1:=q1.good.1;generalize hts2:ts1.tail=ts2 at *;generalize ht1:hd ts1=t1 at *;have hct:=uN nm1 t1.text (by omega);conv=>whnf
    (refine iA ?_;try with_reducible exact trivial)
    (generalize hrq:jD _ _ (z8 ts1)=rq;obtain rfl:rq=cR t1:=hrq.symm.trans (hr1);clear hrq;conv=>whnf)
    refine jju [4] rfl (fun _=>hct) ?_;rintro r rfl;refine⟨_,rfl,?_⟩;conv=>whnf
    cases hh:qD nm1 t1.text with
    |true =>
     rw[if_pos hh] at hP;rw[<- ht1] at hP;conv=>whnf
     refine qJ 0 4 5 [] rfl rfl rfl rfl rfl rfl rfl (fun _=>(lG ts1 hp1 4).rp rfl rfl _ _ _ _) (fun ch bx' hp _ _=>pD hP.symm hp) ?_;rintro o n' cs' r ⟨c,ho,_,_,⟨⟩⟩
    |false =>
     rw[if_neg (by rw[hh];simp)] at hP;conv=>whnf
     by_cases h16:nm1.length=16
     ·rw[jJ (show(nm1.length:Int)=16 by omega)];rw[if_pos h16] at hP;rw[<- ht1] at hP;conv=>whnf
      refine qJ 0 4 5 [] rfl rfl rfl rfl rfl rfl rfl (fun _=>(lG ts1 hp1 2).rp rfl rfl _ _ _ _) (fun ch bx' hp _ _=>pD hP.symm hp) ?_;rintro o n' cs' r ⟨c,ho,_,_,⟨⟩⟩
     ·rw[jG (show ¬(nm1.length:Int)=16 by omega)];rw[if_neg h16] at hP;conv=>whnf
      refine⟨⟨by simp only;unfold maxLen;omega,by simp only;omega⟩,?_⟩;conv=>whnf
      refine⟨⟨by simp only;unfold maxLen;omega,by simp only;omega⟩,?_⟩;conv=>whnf
      refine qJ 0 4 7 [] rfl rfl rfl rfl rfl rfl rfl (fun _=>(hnx2).rp rfl rfl _ _ _ _) (fun ch bx' hp=>hp.elim) ?_;rintro o n' cs' r ⟨c,ho,rfl,rfl,rfl,rfl⟩;cases ho;conv=>whnf
      refine⟨(n,false,nm1++[t1.text],out++[t1.text],ts2),jF [7,1] ?_,⟨q4,by simp only;omega,by simp only[List.length_append,List.length_cons,List.length_nil];omega,by simp only[List.length_append,List.length_cons,List.length_nil];omega,fun e=>(by cases e),fun _=>hP⟩,by simp only;omega⟩;conv=>whnf
      simp only[List.length_append,List.length_cons,List.length_nil,lR];repeat' constructor
  |false =>
   rw[if_neg (by rw[hq];simp)] at hP;conv=>whnf
   refine qJ 0 2 3 [] rfl rfl rfl rfl rfl rfl rfl (fun _=>(jgN ts0 hpos jO).rp rfl rfl _ _ _ _) (fun ch bx' hp _ _=>?_) ?_
   ·rw[if_neg (by rw[hp.1];simp)] at hP;exact pD hP.symm hp.2
   rintro o n' cs' r ⟨c,ho,rfl,rfl,hs,rfl,rfl⟩;cases ho;rw[if_pos hs] at hP;subst hP;conv=>whnf
   refine⟨3,?_⟩;conv=>whnf
   exact⟨rfl,rfl,rfl,rfl⟩
end Go.Proofs.YtdnnmiemgmgffaaGreatDoor.Vm
namespace Go.Proofs.YtdnnmiemgmgffaaGreatDoor.Vm
open Go.RowKit
section
mutual
def jba:A->Bool
 |.mp _ _=>false
 |.sl _ _ cs=>yN cs
 |.pp cs=>yN cs
 |.clo _ l=>yN l
 |.bm _ l=>yN l
 |.agg l=>yN l
 |.tup l=>yN l
 |_=>true
def yN:List A->Bool
 |[]=>true
 |a::r=>jba a&&yN r
end
theorem noMpL_iff:∀{l:List A},yN l=true↔∀a∈l,jba a=true
 |[]=>by unfold yN;simp
 |a::r=>by
  unfold yN;rw[Bool.and_eq_true,noMpL_iff];simp
theorem jl4{l:List A}(h:yN l=true):yN (n9 l)=true:=by
 cases l with
 |nil=>exact h
 |cons a l=>cases a <;> exact h
def jqm(D C:Rd):Prop:=∀b o u,D ⟨b,o,none⟩=some u->C ⟨b,o,none⟩=some u
section
variable{D C:Rd}(hC:jqm D C)
include hC
mutual
theorem rU:∀(a:A) {β:List Nat} {ρ:List Value} {y:Value},jba a=true->a.rep ⟨D,β,ρ⟩ y->a.rep ⟨C,β,ρ⟩ y
 |.dead,_,_,_,_,h=>by unfold A.rep;trivial
 |.v x,_,_,_,_,h=>by unfold A.rep at h ⊢;exact h
 |.sl k n cs,_,_,_,hm,h=>by
  unfold A.rep at h ⊢;obtain⟨h1,h2,p,b,off,cap,h3,h4,h6,h7,h8⟩:=h;exact⟨h1,h2,p,b,off,cap,h3,h4,h6,h7,jeN cs (by unfold jba at hm;exact hm) h8⟩
 |.own g,_,_,_,_,h=>by unfold A.rep at h ⊢;exact h
 |.orow g off,_,_,_,_,h=>by unfold A.rep at h ⊢;exact h
 |.box i off,_,_,_,_,h=>by unfold A.rep at h ⊢;exact h
 |.pp cs,_,_,_,hm,h=>by
  unfold A.rep at h ⊢;obtain⟨b,off,h1,h2⟩:=h;exact⟨b,off,h1,jeN cs (by unfold jba at hm;exact hm) h2⟩
 |.gp _ _,_,_,_,_,h=>by unfold A.rep at h ⊢;exact h
 |.adr _,_,_,_,_,h=>by unfold A.rep at h;exact h.elim
 |.err,_,_,_,_,h=>by unfold A.rep at h ⊢;exact h
 |.num,_,_,_,_,h=>by unfold A.rep at h ⊢;exact h
 |.clo f caps,_,_,_,hm,h=>by
  unfold A.rep at h ⊢;obtain⟨us,h1,h2⟩:=h;exact⟨us,h1,jeM caps (by unfold jba at hm;exact hm) h2⟩
 |.bm f fs,_,_,_,hm,h=>by
  unfold A.rep at h ⊢;obtain⟨us,h1,h2⟩:=h;exact⟨us,h1,jeM fs (by unfold jba at hm;exact hm) h2⟩
 |.mp ks vs,_,_,_,hm,h=>by unfold jba at hm;cases hm
 |.agg l,_,_,_,hm,h=>by
  unfold A.rep at h ⊢;obtain⟨us,h1,h2⟩:=h;exact⟨us,h1,jis l (by unfold jba at hm;exact hm) h2⟩
 |.tup l,_,_,_,hm,h=>by
  unfold A.rep at h ⊢;obtain⟨us,h1,h2⟩:=h;exact⟨us,h1,jeM l (by unfold jba at hm;exact hm) h2⟩
theorem jeN:∀(l:List A) {β:List Nat} {ρ:List Value} {b off:Nat},yN l=true->A.repAt l ⟨D,β,ρ⟩ b off->A.repAt l ⟨C,β,ρ⟩ b off
 |[],_,_,_,_,_,_=>by unfold A.repAt;trivial
 |a::ar,_,_,_,_,hm,h=>by
  unfold yN at hm;rw[Bool.and_eq_true] at hm;unfold A.repAt at h ⊢;obtain⟨⟨u,h1,h2,h3⟩,h4⟩:=h;exact⟨⟨u,hC _ _ _ h1,h2,rU a hm.1 h3⟩,jeN ar hm.2 h4⟩
theorem jeM:∀(l:List A) {β:List Nat} {ρ:List Value} {us:List Value},yN l=true->A.repL l ⟨D,β,ρ⟩ us->A.repL l ⟨C,β,ρ⟩ us
 |[],_,_,_,_,h=>by unfold A.repL at h ⊢;exact h
 |a::ar,_,_,_,hm,h=>by
  unfold yN at hm;rw[Bool.and_eq_true] at hm;unfold A.repL at h ⊢;obtain⟨u,us',h1,h2,h3⟩:=h;exact⟨u,us',h1,rU a hm.1 h2,jeM ar hm.2 h3⟩
theorem jis:∀(l:List A) {β:List Nat} {ρ:List Value} {us:List Value},yN l=true->A.repC l ⟨D,β,ρ⟩ us->A.repC l ⟨C,β,ρ⟩ us
 |[],_,_,_,_,h=>by unfold A.repC at h ⊢;exact h
 |a::ar,_,_,_,hm,h=>by
  unfold yN at hm;rw[Bool.and_eq_true] at hm;unfold A.repC at h ⊢;obtain⟨u,us',h1,h2,h3,h4⟩:=h;exact⟨u,us',h1,h2,rU a hm.1 h3,jis ar hm.2 h4⟩
end
end
def jda:A->A
 |.agg l=>.agg (l.map fun _=>.dead)
 |_=>.dead
theorem jcM{F:Env}:∀{us:List Value},(∀u∈us,u.oneCell'=true)->∀{l:List A},us.length=l.length->A.repC (l.map fun _=>A.dead) F us
 |[],_,[],_=>by simp[A.repC]
 |u::us,h,a::l,hl=>by
  rw[List.map_cons];unfold A.repC;exact⟨u,us,rfl,h u List.mem_cons_self,A.rep_dead _ _,jcM (fun v hv=>h v (List.mem_cons_of_mem _ hv)) (by simpa using hl)⟩
 |[],_,_::_,hl=>by simp at hl
 |_::_,_,[],hl=>by simp at hl
theorem jkW{a:A}{E F:Env}{y:Value}(h:a.rep E y):(jda a).rep F y:=by
 cases a with
 |agg l =>
  unfold A.rep at h;obtain⟨us,h1,h2⟩:=h;unfold jda A.rep;exact⟨us,h1,jcM (A.repC_one h2) (A.repC_len h2)⟩
 |_=>exact A.rep_dead _ _
theorem jdb{E F:Env}:∀{l:List A} {us:List Value},A.repL l E us->A.repL (l.map jda) F us
 |[],us,h=>by unfold A.repL at h;subst h;simp[A.repL]
 |a::r,us,h=>by
  unfold A.repL at h;obtain⟨u,us',rfl,h2,h3⟩:=h;rw[List.map_cons];unfold A.repL;exact⟨u,us',rfl,jkW h2,jdb h3⟩
section
variable{P:Program}{pan:List PanicEntry->S->Prop}{Xr:Nat->Bool}{f:Nat}{s:S}{K:A->S->Prop}{post:List (List A)->A->Prop}
theorem jrp(i g:Nat){e n:Nat}{kA vs c0 c1:List A}{ks:List Value}{pn:List PanicEntry->Prop}(hX:Xr i=true)(hi:s.bx[i]?=some c0)(hg:s.rw[g]?=some (.live e 0 n [.clo 0 kA,.clo 0 vs]))(hkk:oD kA fun l=>l=ks)(h1:zC [i] s.rw c0=some c1)
  (hs:SpecP P f [c1] [.box 0 0,.mp ks (vs.map jda)] post pn) (hno:∀o r,post o r->(∀c∈o,yN c=true)/\jba r=true)
  (hpn:∀ch bx',pn ch->bx'.length=s.bx.length->(∀j,j≠i->bx'[j]?=s.bx[j]?)->pan ch ⟨s.t,bx',s.rw⟩)
  (hk:∀o r,post [o] r->iC [i] s.bx [i] [o] fun bx'=>zV (back [i] r) fun r'=>qA s.rw fun rw'=>kT s bx' rw' (K r')):kB P pan Xr f [.box i 0,.own g] s K:=by
 unfold kB
 right;right;right;right;right
 refine⟨hs.1,fun w0 C0 β0 E w vals hp hargs=>?_⟩;have hil:=(List.getElem?_eq_some_iff.1 hi).1;unfold A.repL at hargs;obtain⟨v0,us0,rfl,hv0,hargs⟩:=hargs;unfold A.repL at hargs;obtain⟨y,us1,rfl,hy,hargs⟩:=hargs;unfold A.repL at hargs;subst hargs
 have hyg:E.ρ[g]?=some y:=by unfold A.rep at hy;exact hy
 obtain⟨r,es,c,us,rfl,hr,hn,hst,h2,hks,hvs⟩:=ja0 hp hg hyg;obtain⟨ks',hke,hka⟩:=sY hkk;subst hke;obtain⟨hkeys,hok⟩:=hka E.per _ hks
 have hseeM:kQ w ⟨r,0,some 0⟩=some (.tuple #[.tuple ks'.toArray,.tuple us.toArray]):=by
  unfold kQ cM;simp only[hr];rw[if_pos hst]
  have q1:es.map (·.key)=ks'.toArray:=by
   apply Array.toList_inj.1;rw[<- hkeys];simp
  have q2:es.map (·.val)=us.toArray:=by
   apply Array.toList_inj.1;rw[<- h2];simp
  rw[q1,q2]
 have hlen:(vs.map jda).length=ks'.length:=by
  rw[List.length_map,<- A.repL_len hvs,<- h2,<- hkeys];simp
 have hno0:∀o,kQ w ⟨r,o,none⟩=none:=fun o=>by
  unfold kQ World.cell?;simp[hr]
 have hcall:=jau (Cl:=fun vals w1 R=>w1=w->vals.toList[1]?=some (.map (some r))->Calls P f vals w R) (fun h k e1 e2=>Calls.mono (k e1 e2) fun e w'=>h e w') (pan:=pan) (pn:=pn) (X:=[i]) (ids:=[]) (ins:=[c1]) (post:=post) (Xr:=Xr) (args:=[.box i 0,.dead]) (args':=[.box 0 0,.dead]) (vs:=[v0,.map (some r)]) (K:=K) hp
  (by
   unfold A.repL;refine⟨_,_,rfl,hv0,?_⟩;unfold A.repL
   exact⟨_,_,rfl,A.rep_dead _ _,by unfold A.repL;rfl⟩)
  (by simp) (by simpa using hX) (by simpa using hil)
  (by
   have:s.bx.getD i []=c0:=by simp[List.getD_eq_getElem?_getD,hi]
   simp only[List.map_cons,List.map_nil,this];show nP [i] s.rw [c0]=_
   simp only[nP,h1])
  (by
   show zC [i] s.rw [.box i 0,.dead]=_
   simp[zC,ren,idx])
  (fun _ w1 C β vals1 g0 g1 g2 g3 g4 g5 g6 hw hv=>?_)
  (fun outs r' hp' hl=>by
   obtain⟨o,rfl⟩:∃o,outs=[o]:=List.length_eq_one_iff.1 (by simpa using hl)
   exact hk o r' hp')
  (fun ch bx' h h1 h2=>hpn ch bx' h h1 fun j hj=>h2 j (by simpa using hj))
 ·exact hcall rfl rfl
 ·subst hw;obtain⟨b,rfl⟩:∃b,β=[b]:=List.length_eq_one_iff.1 g4.symm
  have hbr:b≠r:=fun e=>by
   obtain⟨T,arr,hb,_⟩:=g5 0 b c1 rfl rfl;rw[e,hr] at hb;cases hb
  obtain⟨C1,hC1⟩:∃C1:Rd,C1=fun ad=>if ad.block=r then kQ w1 ad else C ad:=⟨_,rfl⟩
  have sub1:Sub C C1:=fun ad u hc=>by
   rw[hC1]
   simp only
   split
   ·exact g1 ad u hc
   ·exact hc
  have sub2:Sub C1 (kQ w1):=fun ad u hc=>by
   rw[hC1] at hc
   simp only at hc
   split at hc
   ·exact hc
   ·exact g1 ad u hc
  have hβ1:∀b'∈[b],∀o sp,C1 ⟨b',o,sp⟩=none:=fun b' hb' o sp=>by
   have e:b'=b:=by simpa using hb'
   subst e;rw[hC1]
   simp only
   rw[if_neg hbr];exact g3 _ hb' o sp
  have le1:(⟨C,[b],[]⟩:Env).le ⟨C1,[b],[]⟩:=⟨sub1,fun _ _ h=>h,fun _ _ h=>h⟩
  unfold A.repL at g6;obtain⟨p,l1,rfl,hp0,g6⟩:=g6;unfold A.repL at g6;obtain⟨q,l2,rfl,-,g6⟩:=g6;unfold A.repL at g6;subst g6
  obtain rfl:q=.map (some r):=by simpa using hv
  have tr:∀w',jqm (zA C1 w1 w') (zA C w1 w'):=fun w' b' o u hc=>by
   unfold zA at hc ⊢;split
   ·rename_i hlt;rw[if_pos hlt,hC1] at hc
    simp only at hc
    split at hc
    ·rename_i hbr2;subst hbr2;rw[hno0] at hc;cases hc
    ·exact hc
   ·rename_i hlt;rw[if_neg hlt] at hc;exact hc
  refine(hs.2 w1 C1 [b] [p,.map (some r)] (g0.mono sub1) sub2 g2 hβ1 g4 (fun j b' cs hj hcs=>(g5 j b' cs hj hcs).mono le1) ?_).mono fun e' w' hh=>?_
  ·unfold A.repL;refine⟨_,_,rfl,A.rep.mono _ le1 hp0,?_⟩;unfold A.repL;refine⟨_,_,rfl,?_,by unfold A.repL;rfl⟩;unfold A.rep;refine⟨r,us,rfl,?_,hlen,jdb hvs,hok⟩;rw[hC1];simp only[if_true];exact hseeM
  ·rcases hh with ⟨outs,r',v,rfl,hpost,kp,k2,k3,k4⟩|⟨ch,ns,k1,k2,kp,k4,k5⟩
   ·obtain⟨n1,n2⟩:=hno _ _ hpost;refine .inl ⟨outs,r',v,rfl,hpost,kp,k2,fun j b' cs hj hcs=>?_,rU (tr w') r' n2 k4⟩;obtain⟨T,arr,hh,hbc⟩:=k3 j b' cs hj hcs;exact⟨T,arr,hh,jis (tr w') _ (jl4 (n1 cs (List.mem_of_getElem? hcs))) hbc.1,hbc.2⟩
   ·refine .inr ⟨ch,ns,k1,k2,kp,k4,fun j b' n' hj hn'=>?_⟩;obtain⟨T,arr,hh,hbc⟩:=k5 j b' n' hj hn'
    exact⟨T,arr,hh,.mk' (A.repC_mk (aO (jaB hbc.1)) (by
     have:=A.repC_one hbc.1
     exact this))⟩
end
end
end Go.Proofs.YtdnnmiemgmgffaaGreatDoor.Vm
namespace Go.Proofs.YtdnnmiemgmgffaaGreatDoor.Vm
open Go.RowKit Go.Shelf
def haA(h:Int×Nt):Int×A:=(h.1,.agg (intA h.1::ntA h.2))
def vX(l:List (Int×Nt)):List (Int×A):=l.map haA
def t7(hs:List (Int×Nt))(ts:List Tk):Ph:=match sH ts with
 |.bad x e=>.bad x e
 |.ok k r=>if hs.any (fun h=>decide (h.1=k))=true then .bad (hd ts).pos 4 else .ok k r
def phQ(p:Ph)(ch:List PanicEntry):Prop:=match p with
 |.bad x e=>ch=qX x e
 |_=>False
theorem fF{p:Ph}{x e:Int}{ch:List PanicEntry}(h:p=.bad x e)(k:ch=qX x e):phQ p ch:=by subst h;exact k
def hoQ(nm:List ByteArray)(p:Ph)(o:List (List A))(r:A):Prop:=match p with
 |.ok k ts=>o=[hZ nm ts]/\r=intA k
 |_=>False
def haD(h:Int×Nt):Int×A:=(h.1,.agg [.dead,.dead,.dead,.dead,.dead])
def rM(l:List (Int×Nt)):List (Int×A):=l.map haD
theorem jne(l:List (Int×Nt)):u9 (rM l)=u9 (vX l):=by
 unfold u9 rM vX;rw[List.map_map,List.map_map];rfl
theorem jnf(l:List (Int×Nt)):(pX (vX l)).map jda=pX (rM l):=by
 unfold pX rM vX;rw[List.map_map,List.map_map,List.map_map];rfl
theorem l9(g:Int×Nt->Int×A)(hg:∀h,(g h).1=h.1)(hs:List (Int×Nt))(k:Int):(hs.any (fun h=>decide (h.1=k))=true/\∃h∈hs,h.1=k/\wK (hs.map g) k=some (g h).2)∨(hs.any (fun h=>decide (h.1=k))=false/\wK (hs.map g) k=none):=by
 induction hs with
 |nil=>exact .inr ⟨rfl,rfl⟩
 |cons h l ih =>
  by_cases e:h.1=k
  ·left;refine⟨by rw[List.any_cons,jJ e];rfl,h,List.mem_cons_self,e,?_⟩;unfold wK;rw[List.map_cons,List.find?_cons_of_pos (p:=fun p:Int×A=>decide (k=p.1)) (show decide (k=(g h).1)=true from jJ (by rw[hg];exact e.symm))];rfl
  ·have hf:wK ((h::l).map g) k=wK (l.map g) k:=by
    unfold wK;rw[List.map_cons,List.find?_cons_of_neg (p:=fun p:Int×A=>decide (k=p.1)) (show ¬decide (k=(g h).1)=true by rw[jG (fun e2:k=(g h).1=>e (by rw[e2,hg]))];simp)]
   rw[hf,List.any_cons,jG e,Bool.false_or];rcases ih with ⟨h1,x,h2,h3,h4⟩|⟨h1,h2⟩
   ·exact .inl ⟨h1,x,List.mem_cons_of_mem _ h2,h3,h4⟩
   ·exact .inr ⟨h1,h2⟩
theorem jdk{α:Type}(f:α->List A)(hf:∀x,yN (f x)=true)(l:List α):yN (l.flatMap f)=true:=by
 rw[noMpL_iff];intro a ha;obtain⟨x,_,hx⟩:=List.mem_flatMap.1 ha;exact noMpL_iff.1 (hf x) a hx
theorem jni(nm:List ByteArray)(ts:List Tk):yN (hZ nm ts)=true:=by
 have h1:yN (z8 ts)=true:=jdk cR (fun _=>rfl) ts
 have h2:yN (gB nm)=true:=by
  unfold gB;rw[jgz];exact jdk (fun x=>[jX x]) (fun _=>rfl) nm
 refine noMpL_iff.2 fun a ha=>?_
 rcases List.mem_cons.1 ha with rfl|ha
 ·exact h1
 ·rw[List.mem_singleton.1 ha];exact h2
theorem jkT(nm:List ByteArray)(hs:List (Int×Nt))(ts:List Tk)(h:TkP ts) :
  SpecP Tryz.prog 96 [hZ nm ts] [.box 0 0,.mp (u9 (rM hs)) (pX (rM hs))] (hoQ nm (t7 hs ts)) (phQ (t7 hs ts)):=by
 obtain⟨P,hP⟩:∃P,t7 hs ts=P:=⟨_,rfl⟩
 rw[hP];have hpos:=h.pos
 have his:=fun s=>nO nm ts hpos s
 have hnx:=wV nm ts hpos
 have hfl:=fun e=>gN nm ts hpos e
 have hps:=fun s (hs:q8 s ts=true)=>h.is hs
 unfold t7 sH at hP;refine vT (wJ jR qB 1 (fun ch _=>(phQ P) ch)) (fun _ _ h=>h) Tryz.func96 rfl (by kernel_rfl) rfl (by kernel_rfl) ?_;intro _;conv=>whnf
 refine jT 0 [] (his aB) ?_;rintro o r ⟨ho,rfl⟩;cases ho;conv=>whnf
 cases hq1:q8 aB ts with
 |true =>
  rw[if_pos hq1] at hP
  simp only at hP
  obtain⟨q1,q2⟩:=hps _ hq1;conv=>whnf
  refine jT 0 [] hnx ?_;rintro o r ⟨ho,rfl⟩;cases ho;conv=>whnf
  refine kI _ _ ?_;rcases l9 haD (fun _=>rfl) hs (0) with ⟨hany,hx,hm,hek,hf⟩|⟨hany,hf⟩
  ·rw[show wK (rM hs) _=_ from hf];rw[if_pos hany] at hP;conv=>whnf
   refine kR 0 [] (hfl 4) (fun ch bx' hp=>fF hP.symm hp) ?_;rintro o r ⟨⟩
  ·rw[show wK (rM hs) _=_ from hf];rw[if_neg (by rw[hany];simp)] at hP;subst hP;conv=>whnf
   exact⟨rfl,rfl⟩
 |false =>
  rw[if_neg (by rw[hq1];simp)] at hP;conv=>whnf
  refine jT 0 [] (his wRequest) ?_;rintro o r ⟨ho,rfl⟩;cases ho;conv=>whnf
  cases hq2:q8 wRequest ts with
  |true =>
   rw[if_pos hq2] at hP
   simp only at hP
   obtain⟨q1,q2⟩:=hps _ hq2;conv=>whnf
   refine jT 0 [] hnx ?_;rintro o r ⟨ho,rfl⟩;cases ho;conv=>whnf
   refine kI _ _ ?_;rcases l9 haD (fun _=>rfl) hs (1) with ⟨hany,hx,hm,hek,hf⟩|⟨hany,hf⟩
   ·rw[show wK (rM hs) _=_ from hf];rw[if_pos hany] at hP;conv=>whnf
    refine kR 0 [] (hfl 4) (fun ch bx' hp=>fF hP.symm hp) ?_;rintro o r ⟨⟩
   ·rw[show wK (rM hs) _=_ from hf];rw[if_neg (by rw[hany];simp)] at hP;subst hP;conv=>whnf
    exact⟨rfl,rfl⟩
  |false =>
   rw[if_neg (by rw[hq2];simp)] at hP;conv=>whnf
   refine jT 0 [] (his wTimer) ?_;rintro o r ⟨ho,rfl⟩;cases ho;conv=>whnf
   cases hq:q8 wTimer ts with
   |true =>
    rw[if_pos hq] at hP;obtain⟨q1,q2⟩:=hps _ hq;have hnu:=mK nm ts.tail q1.pos 8;have hnp:=q1.good;generalize ts.tail=ts1 at *;conv=>whnf
    refine jT 0 [] hnx ?_;rintro o r ⟨ho,rfl⟩;cases ho;conv=>whnf
    refine kR 0 [] hnu (fun ch bx' hp=>?_) ?_
    ·unfold iB at hP;rcases hp with ⟨h1,h2⟩|⟨h1,h2,h3⟩
     ·rw[if_pos h1] at hP;exact fF hP.symm h2
     ·rw[if_neg (by rw[h1];simp),if_pos h2] at hP;exact fF hP.symm h3
    rintro o r ⟨⟨h1,h2⟩,ho,rfl⟩;cases ho;unfold iB at hP;rw[if_neg (by rw[h1];simp),if_neg (by omega)] at hP
    simp only at hP
    have hn0:0<=(hd ts1).n:=hnp.2.2.2.1;generalize hd ts1=t1 at *;conv=>whnf
    refine⟨jH (by omega),?_⟩;conv=>whnf
    refine kI _ _ ?_;rcases l9 haD (fun _=>rfl) hs (2+t1.n) with ⟨hany,hx,hm,hek,hf⟩|⟨hany,hf⟩
    ·rw[show wK (rM hs) _=_ from hf];rw[if_pos hany] at hP;conv=>whnf
     refine kR 0 [] (hfl 4) (fun ch bx' hp=>fF hP.symm hp) ?_;rintro o r ⟨⟩
    ·rw[show wK (rM hs) _=_ from hf];rw[if_neg (by rw[hany];simp)] at hP;subst hP;conv=>whnf
     exact⟨rfl,rfl⟩
   |false =>
    rw[if_neg (by rw[hq];simp)] at hP;clear hq;conv=>whnf
    refine jT 0 [] (his wMessage) ?_;rintro o r ⟨ho,rfl⟩;cases ho;conv=>whnf
    cases hq:q8 wMessage ts with
    |true =>
     rw[if_pos hq] at hP;obtain⟨q1,q2⟩:=hps _ hq;have hnu:=mK nm ts.tail q1.pos 30;have hnp:=q1.good;generalize ts.tail=ts1 at *;conv=>whnf
     refine jT 0 [] hnx ?_;rintro o r ⟨ho,rfl⟩;cases ho;conv=>whnf
     refine kR 0 [] hnu (fun ch bx' hp=>?_) ?_
     ·unfold iB at hP;rcases hp with ⟨h1,h2⟩|⟨h1,h2,h3⟩
      ·rw[if_pos h1] at hP;exact fF hP.symm h2
      ·rw[if_neg (by rw[h1];simp),if_pos h2] at hP;exact fF hP.symm h3
     rintro o r ⟨⟨h1,h2⟩,ho,rfl⟩;cases ho;unfold iB at hP;rw[if_neg (by rw[h1];simp),if_neg (by omega)] at hP
     simp only at hP
     have hn0:0<=(hd ts1).n:=hnp.2.2.2.1;generalize hd ts1=t1 at *;conv=>whnf
     refine⟨jH (by omega),?_⟩;conv=>whnf
     refine kI _ _ ?_;rcases l9 haD (fun _=>rfl) hs (10+t1.n) with ⟨hany,hx,hm,hek,hf⟩|⟨hany,hf⟩
     ·rw[show wK (rM hs) _=_ from hf];rw[if_pos hany] at hP;conv=>whnf
      refine kR 0 [] (hfl 4) (fun ch bx' hp=>fF hP.symm hp) ?_;rintro o r ⟨⟩
     ·rw[show wK (rM hs) _=_ from hf];rw[if_neg (by rw[hany];simp)] at hP;subst hP;conv=>whnf
      exact⟨rfl,rfl⟩
    |false =>
     rw[if_neg (by rw[hq];simp)] at hP;conv=>whnf
     refine kR 0 [] (hfl 10) (fun ch bx' hp=>fF hP.symm hp) ?_;rintro o r ⟨⟩
end Go.Proofs.YtdnnmiemgmgffaaGreatDoor.Vm
namespace Go.Proofs.YtdnnmiemgmgffaaGreatDoor.Vm
open Go.RowKit
section
section
variable{C D:Rd}{y:Value}{k n:Nat}{cs:List A}
end
theorem jss{w:World}{base e k n:Nat}{y:Value}{xs:List Value}{cs:List A}{D:Rd}(h:w.ownsRow base e k y n xs)(hr:A.repC cs ⟨D,[],[]⟩ xs)(hD:∀b,y.ownBlock=some b->∀o u,w.cell? ⟨b,o,none⟩=some u->D ⟨b,o,none⟩=some u):(A.sl k n cs).rep ⟨D,[],[]⟩ y:=by
 have hlen:cs.length=n*k:=by rw[<- A.repC_len hr,h.1]
 rcases h.2 with ⟨rfl,rfl⟩|⟨b,cap,cur,rfl,hb,hbb,hn,hcm,hcs,htake⟩
 ·unfold A.rep;have hcs:cs=[]:=List.eq_nil_of_length_eq_zero (by simpa using hlen);subst hcs;exact⟨by simp,by simp,none,0,0,0,rfl,Nat.le_refl _,.inl rfl,fun _=>rfl,by simp[A.repAt]⟩
 ·unfold A.rep;refine⟨hlen,Nat.le_trans hn hcm,_,b,0,cap,rfl,hn,.inr rfl,by simp,?_⟩;refine A.repAt_mk (E:=⟨D,[],[]⟩) hr (fun j' u hu=>?_);have:=h.cells (g:=b) rfl j' u hu;rw[je6] at this;exact hD b rfl _ u this
end
end Go.Proofs.YtdnnmiemgmgffaaGreatDoor.Vm
namespace Go.Proofs.YtdnnmiemgmgffaaGreatDoor.Vm
open Go.RowKit Go.Shelf Go.Maps Go.Sort
def bH:Go.Shelf.Ren:=⟨fun|7=>99|10=>123|n=>n,fun|3=>47|23=>134|26=>3|27=>137|28=>138|33=>163|n=>n,fun|n=>n⟩
theorem iZ:SlLaysZI.n7 Tryz.prog bH where
 mixed:=by kernel_rfl
 f7:=⟨ "maps.Keys[map[int]simproof/api.Handler,int,simproof/api.Handler]",of_decide_eq_true (by kernel_rfl),Tryz.func99.trans (congrArg some (by kernel_rfl))⟩
 f10:=⟨ "maps.Keys[map[int]simproof/api.Handler,int,simproof/api.Handler]$1",of_decide_eq_true (by kernel_rfl),Tryz.func123.trans (congrArg some (by kernel_rfl))⟩
 t0:=Tryz.underlying0
 a0:=Tryz.isAgg0
 z0:=Tryz.sizeOf0
 v0:=Tryz.zeroValue0
 t4:=Tryz.underlying4
 a4:=Tryz.isAgg4
 z4:=Tryz.sizeOf4
 v4:=Tryz.zeroValue4
 t23:=Tryz.underlying134
 a23:=Tryz.isAgg134
 z23:=Tryz.sizeOf134
 v23:=Tryz.zeroValue134
 t26:=Tryz.underlying3
 a26:=Tryz.isAgg3
 z26:=Tryz.sizeOf3
 v26:=Tryz.zeroValue3
 t27:=Tryz.underlying137
 a27:=Tryz.isAgg137
 z27:=Tryz.sizeOf137
 v27:=Tryz.zeroValue137
 t28:=Tryz.underlying138
 a28:=Tryz.isAgg138
 z28:=Tryz.sizeOf138
 v28:=Tryz.zeroValue138
 t33:=Tryz.underlying163
 a33:=Tryz.isAgg163
 z33:=Tryz.sizeOf163
 v33:=Tryz.zeroValue163

def bG:Go.Shelf.Ren:=⟨fun|6=>98|8=>121|9=>122|11=>131|12=>132|13=>133|14=>152|15=>153|16=>154|17=>155|18=>156|19=>157|20=>158|21=>159|22=>160|23=>161|24=>162|25=>169|26=>170|27=>171|28=>172|29=>173|30=>174|31=>183|n=>n,fun|24=>22|26=>3|28=>138|33=>163|37=>176|39=>186|40=>187|45=>104|48=>194|50=>154|51=>201|55=>205|57=>214|58=>215|n=>n,fun|n=>n⟩
theorem jb2:SlLaysZI.n6 Tryz.prog bG where
 mixed:=by kernel_rfl
 f6:=⟨ "slices.Sorted[int]",of_decide_eq_true (by kernel_rfl),Tryz.func98.trans (congrArg some (by kernel_rfl))⟩
 f8:=⟨ "slices.Collect[int]",of_decide_eq_true (by kernel_rfl),Tryz.func121.trans (congrArg some (by kernel_rfl))⟩
 f11:=⟨ "slices.AppendSeq[[]int,int]",of_decide_eq_true (by kernel_rfl),Tryz.func131.trans (congrArg some (by kernel_rfl))⟩
 t0:=Tryz.underlying0
 a0:=Tryz.isAgg0
 z0:=Tryz.sizeOf0
 v0:=Tryz.zeroValue0
 t24:=Tryz.underlying22
 a24:=Tryz.isAgg22
 z24:=Tryz.sizeOf22
 v24:=Tryz.zeroValue22
 t26:=Tryz.underlying3
 a26:=Tryz.isAgg3
 z26:=Tryz.sizeOf3
 v26:=Tryz.zeroValue3
 t28:=Tryz.underlying138
 a28:=Tryz.isAgg138
 z28:=Tryz.sizeOf138
 v28:=Tryz.zeroValue138
 i26:=by kernel_rfl

def rQ:Go.Shelf.Ren:=⟨fun|5=>122|7=>132|8=>133|10=>152|11=>153|12=>154|13=>155|14=>156|15=>157|16=>158|17=>159|18=>160|19=>161|20=>162|30=>169|31=>170|32=>171|33=>172|34=>173|35=>174|40=>183|n=>n,fun|23=>22|25=>3|32=>176|35=>186|36=>187|41=>104|44=>194|46=>154|53=>201|57=>205|63=>214|64=>215|n=>n,fun|n=>n⟩
theorem oF:SlLaysM.n5 Tryz.prog rQ where
 mixed:=by kernel_rfl
 f5:=⟨ "slices.Sort[[]int,int]",of_decide_eq_true (by kernel_rfl),Tryz.func122.trans (congrArg some (by kernel_rfl))⟩
 f7:=⟨ "slices.pdqsortOrdered[int]",of_decide_eq_true (by kernel_rfl),Tryz.func132.trans (congrArg some (by kernel_rfl))⟩
 f8:=Tryz.func133.trans (congrArg some (by kernel_rfl))
 f10:=⟨ "slices.insertionSortOrdered[int]",of_decide_eq_true (by kernel_rfl),Tryz.func152.trans (congrArg some (by kernel_rfl))⟩
 f11:=⟨ "slices.heapSortOrdered[int]",of_decide_eq_true (by kernel_rfl),Tryz.func153.trans (congrArg some (by kernel_rfl))⟩
 f12:=⟨ "slices.breakPatternsOrdered[int]",of_decide_eq_true (by kernel_rfl),Tryz.func154.trans (congrArg some (by kernel_rfl))⟩
 f13:=⟨ "slices.choosePivotOrdered[int]",of_decide_eq_true (by kernel_rfl),Tryz.func155.trans (congrArg some (by kernel_rfl))⟩
 f14:=⟨ "slices.reverseRangeOrdered[int]",of_decide_eq_true (by kernel_rfl),Tryz.func156.trans (congrArg some (by kernel_rfl))⟩
 f15:=⟨ "slices.partialInsertionSortOrdered[int]",of_decide_eq_true (by kernel_rfl),Tryz.func157.trans (congrArg some (by kernel_rfl))⟩
 f16:=⟨ "cmp.Less[int]",of_decide_eq_true (by kernel_rfl),Tryz.func158.trans (congrArg some (by kernel_rfl))⟩
 f17:=⟨ "slices.partitionEqualOrdered[int]",of_decide_eq_true (by kernel_rfl),Tryz.func159.trans (congrArg some (by kernel_rfl))⟩
 f18:=⟨ "slices.partitionOrdered[int]",of_decide_eq_true (by kernel_rfl),Tryz.func160.trans (congrArg some (by kernel_rfl))⟩
 f19:=Tryz.func161.trans (congrArg some (by kernel_rfl))
 f20:=Tryz.func162.trans (congrArg some (by kernel_rfl))
 f30:=⟨ "slices.siftDownOrdered[int]",of_decide_eq_true (by kernel_rfl),Tryz.func169.trans (congrArg some (by kernel_rfl))⟩
 f31:=Tryz.func170.trans (congrArg some (by kernel_rfl))
 f32:=Tryz.func171.trans (congrArg some (by kernel_rfl))
 f33:=⟨ "slices.medianAdjacentOrdered[int]",of_decide_eq_true (by kernel_rfl),Tryz.func172.trans (congrArg some (by kernel_rfl))⟩
 f34:=⟨ "slices.medianOrdered[int]",of_decide_eq_true (by kernel_rfl),Tryz.func173.trans (congrArg some (by kernel_rfl))⟩
 f35:=⟨ "cmp.isNaN[int]",of_decide_eq_true (by kernel_rfl),Tryz.func174.trans (congrArg some (by kernel_rfl))⟩
 f40:=⟨ "slices.order2Ordered[int]",of_decide_eq_true (by kernel_rfl),Tryz.func183.trans (congrArg some (by kernel_rfl))⟩
 t0:=Tryz.underlying0
 a0:=Tryz.isAgg0
 z0:=Tryz.sizeOf0
 v0:=Tryz.zeroValue0
 t3:=Tryz.underlying3
 a3:=Tryz.isAgg3
 z3:=Tryz.sizeOf3
 v3:=Tryz.zeroValue3
 t4:=Tryz.underlying4
 a4:=Tryz.isAgg4
 z4:=Tryz.sizeOf4
 v4:=Tryz.zeroValue4
 t5:=Tryz.underlying5
 a5:=Tryz.isAgg5
 z5:=Tryz.sizeOf5
 v5:=Tryz.zeroValue5
 t9:=Tryz.underlying9
 a9:=Tryz.isAgg9
 z9:=Tryz.sizeOf9
 v9:=Tryz.zeroValue9
 t22:=Tryz.underlying22
 a22:=Tryz.isAgg22
 z22:=Tryz.sizeOf22
 v22:=Tryz.zeroValue22
 t23:=Tryz.underlying22
 a23:=Tryz.isAgg22
 z23:=Tryz.sizeOf22
 v23:=Tryz.zeroValue22
 t25:=Tryz.underlying3
 a25:=Tryz.isAgg3
 z25:=Tryz.sizeOf3
 v25:=Tryz.zeroValue3
 t32:=Tryz.underlying176
 a32:=Tryz.isAgg176
 z32:=Tryz.sizeOf176
 v32:=Tryz.zeroValue176
 t35:=Tryz.underlying186
 a35:=Tryz.isAgg186
 z35:=Tryz.sizeOf186
 v35:=Tryz.zeroValue186
 t36:=Tryz.underlying187
 a36:=Tryz.isAgg187
 z36:=Tryz.sizeOf187
 v36:=Tryz.zeroValue187
 t41:=Tryz.underlying104
 a41:=Tryz.isAgg104
 z41:=Tryz.sizeOf104
 v41:=Tryz.zeroValue104
 t44:=Tryz.underlying194
 a44:=Tryz.isAgg194
 z44:=Tryz.sizeOf194
 v44:=Tryz.zeroValue194
 t46:=Tryz.underlying154
 a46:=Tryz.isAgg154
 z46:=Tryz.sizeOf154
 v46:=Tryz.zeroValue154
 t53:=Tryz.underlying201
 a53:=Tryz.isAgg201
 z53:=Tryz.sizeOf201
 v53:=Tryz.zeroValue201
 t57:=Tryz.underlying205
 a57:=Tryz.isAgg205
 z57:=Tryz.sizeOf205
 v57:=Tryz.zeroValue205
 t63:=Tryz.underlying214
 a63:=Tryz.isAgg214
 z63:=Tryz.sizeOf214
 v63:=Tryz.zeroValue214
 t64:=Tryz.underlying215
 a64:=Tryz.isAgg215
 z64:=Tryz.sizeOf215
 v64:=Tryz.zeroValue215

def jk0:Nat:=123
theorem jil(ks:List Value)(vs:List A):jad Tryz.prog 99 [.mp ks vs] fun e k n cs r=>e=134/\k=1/\n=1/\cs=[.mp ks vs]/\r=.clo jk0 [.orow 0 0]:=by
 refine⟨eJ Tryz.func99 rfl (by kernel_rfl),fun w C vals h0 h1 h2=>?_⟩;unfold A.repL at h2;obtain⟨u,us,rfl,h3,h4⟩:=h2;unfold A.repL at h4;subst h4;have h3':=h3;unfold A.rep at h3;obtain⟨r,us,rfl,hC,hlen,hvs,hok⟩:=h3;refine((callsIn_wide (n:=6)).1 (AnyZI.keys_in iZ Fence.wide 6 trivial rfl (some r) w)).mono ?_;rintro e w' ⟨rfl,rfl⟩;have hB:Ext w (w.alloc (.cells #[.map (some r)] 134)):=(Below.refl _ w).alloc (Nat.le_refl _) _;have kp:=Keeps.of_ext hB;refine⟨_,_,_,_,_,_,.slice (some ⟨w.heap.size,0,none⟩) 1 1,[.map (some r)],C,rfl,⟨rfl,rfl,rfl,rfl,rfl⟩,kp,Sub.refl _,fun ad u hc=>?_,fun ad u hc=>.inl hc,fun b hb=>?_,.inl ⟨by decide,?_⟩,?_,?_⟩
 ·refine kp.cell (h1 ad u hc) (fun hm=>by simp at hm)
 ·obtain rfl:w.heap.size=b:=by simpa [blk] using hb
  refine⟨fun o sp=>?_,Nat.le_refl _⟩
  cases hc:C ⟨w.heap.size,o,sp⟩ with
  |none=>rfl
  |some u =>
   have:=qI w _ (h1 _ _ hc);simp at this
 ·refine⟨rfl,.inr ⟨w.heap.size,1,#[.map (some r)],rfl,Nat.zero_le _,World.alloc_heap_new w _,Nat.le_refl _,by unfold maxLen;omega,rfl,rfl⟩⟩
 ·unfold A.repC;exact⟨_,[],rfl,rfl,h3',by unfold A.repC;rfl⟩
 ·unfold A.rep;refine⟨#[.pointer (some ⟨w.heap.size,0,none⟩)],rfl,?_⟩;unfold A.repL;refine⟨_,[],rfl,?_,by unfold A.repL;rfl⟩;unfold A.rep;exact⟨w.heap.size,1,1,rfl,rfl⟩
theorem jsJ(m:Nat):AnyZI.SortsIn Tryz.prog bG Fence.wide m :=
 ⟨fun blk off cap ss W hH hblk hsz=>callsIn_wide.2 (AnyM.slices_Sort_int oF blk off cap ss W hH hblk hsz),
 fun p cap W=>callsIn_wide.2 (AnyM.slices_Sort_int_none oF p cap W)⟩
theorem jl9{w:World}{r c:Nat}{es:Array MapEntry}{l:List (Int×A)}(hr:w.heap[r]?=some (.map es c))(hst:fQ es c)(hk:es.toList.map (·.key)=u9 l)(hok:∀k∈u9 l,fD k)(hnd:(l.map (·.1)).Nodup)(hn:l.length<=1000000) :
  ∃D0:DataW Unit,w.ownsMap Tryz.prog 3 (fun _=>some (.nil,[])) r l.length D0/\(intKeys D0).Perm (l.map (·.1))/\Maps.size D0=l.length:=by
 have hu:Tryz.prog.underlying 3=some (.int .i64):=by kernel_rfl
 have hlen:es.size=l.length:=by
  have:=congrArg List.length hk;unfold u9 at this;simpa using this
 have hkey:∀x∈es.toList,∃a:Int,x.key=.int .i64 a/\(Lit.int .i64 a).wf=true:=fun x hx=>by
  have h1:x.key∈u9 l:=by rw[<- hk];exact List.mem_map.2 ⟨x,hx,rfl⟩
  have h2:=hok _ h1;unfold u9 at h1;obtain⟨p,_,hp⟩:=List.mem_map.1 h1;rw[<- hp] at h2;refine⟨p.1,hp.symm,?_⟩;have:=okV_int.1 h2;simp[Lit.wf];exact this
 have hrd:∀x∈es.toList,∀a:Int,x.key=.int .i64 a->(Lit.int .i64 a).wf=true->WideElems.rd Tryz.prog 3 (fun _=>some ((DataW.nil:DataW Unit),([]:List MemPlace))) x=some (.int .i64 a,.nil):=fun x hx a h1 h2=>by
  unfold WideElems.rd;rw[h1,keyOf_int_mk hu h2];rfl
 have hrg:es.toList.map (fun x=>Go.intOf (WideElems.rg Tryz.prog 3 (fun _=>some ((DataW.nil:DataW Unit),([]:List MemPlace))) x).1)=l.map (·.1):=by
  have h1:es.toList.map (fun x=>Go.intOf (WideElems.rg Tryz.prog 3 (fun _=>some ((DataW.nil:DataW Unit),([]:List MemPlace))) x).1)=(es.toList.map (·.key)).map fun v=>match v with|.int _ a=>a|_=>0:=by
   rw[List.map_map]
   refine List.map_congr_left fun x hx=>?_
   obtain⟨a,e1,e2⟩:=hkey x hx;rw[WideElems.rg_of (hrd x hx a e1 e2)];simp[Go.intOf,e1]
  rw[h1,hk];unfold u9;rw[List.map_map]
  exact List.map_congr_left fun p hp=>rfl
 have hfit:WideElems.Fit Tryz.prog 3 (fun _=>some ((DataW.nil:DataW Unit),([]:List MemPlace))) es c:=by
  refine⟨by rw[hlen];unfold maxLen;omega,⟨?_,?_,?_⟩,fun x hx=>?_⟩
  ·intro x hx;obtain⟨i,hi,e⟩:=List.mem_iff_getElem.1 hx
   have hi':i<es.size:=by simpa using hi
   have h2:=hst.2 i es[i] (Array.getElem?_eq_getElem hi')
   have e':es[i]=x:=by rw[<- e];simp
   rw[<- e',h2,hst.1];exact hi'
  ·have h2:es.toList.map (·.born)=List.range es.size:=by
    apply List.ext_getElem?;intro i;rw[List.getElem?_map,Array.getElem?_toList];by_cases hi:i<es.size
    ·rw[Array.getElem?_eq_getElem hi,List.getElem?_range hi];simp only[Option.map_some];rw[hst.2 i es[i] (Array.getElem?_eq_getElem hi)]
    ·rw[Array.getElem?_eq_none (by omega),List.getElem?_eq_none (by simp;omega)];rfl
   rw[h2];exact List.nodup_range
  ·rw[hk];unfold u9
   have:(l.map fun p:Int×A=>Value.int .i64 p.1)=(l.map (·.1)).map (Value.int .i64):=by rw[List.map_map];rfl
   rw[this];exact List.pairwise_map.2 (hnd.imp fun h e=>h (by cases e;rfl))
  ·obtain⟨a,e1,e2⟩:=hkey x hx;exact⟨_,hrd x hx a e1 e2⟩
 refine⟨_,⟨es,c,hr,hfit,by omega,rfl⟩,?_,?_⟩
 ·show(List.map (fun p:Lit×DataW Unit=>Go.intOf p.1) _).Perm _;refine((WideShapes.sorted_perm _).map _).trans ?_;rw[List.map_map];exact List.Perm.of_eq hrg
 ·show(List.foldr DataW.insert [] _).length=_;rw[(WideShapes.sorted_perm _).length_eq,List.length_map,Array.length_toList,hlen]
theorem jrr{P:Program}{pan:List PanicEntry->S->Prop}{Xr:Nat->Bool}{f:Nat}{args args':List A}{s:S}{K:A->S->Prop}{post:List (List A)->Nat->List A->A->Prop}(g m:Nat)(ids:List Nat)(hm:s.rw.length=m){e k n:Nat}{cs:List A}(hf:Xr 1000000007=true)(hg:(jA s.rw ids)[g]?=some (.live e k n cs))(h2:kE [] g (jA s.rw ids) args=some args')(hs:nN args'->m8 P f [] e k n cs args' post)
  (hk:∀n' cs' r,post [] n' cs' r->fZ [] m s.bx [] [] fun bx'=>zV (backG [] m r) fun r'=>qA ((jA s.rw ids).set g .gone++[.live e k n' cs']) fun rw'=>kT s bx' rw' (K r')):kB P pan Xr f args s K:=by
 subst hm;unfold kB
 right;right;right;right;left
 refine⟨hf,[],ids,g,e,k,n,cs,[],args',post,fun _=>False,by simp,by simp,by simp,hg,rfl,h2,hs,fun outs n' cs' r hp hl=>?_,fun ch bx' h=>h.elim⟩;obtain rfl:outs=[]:=List.eq_nil_of_length_eq_zero (by simpa using hl);exact hk n' cs' r hp
theorem jfc(l:List (Int×A))(hnd:(l.map (·.1)).Nodup)(hn:l.length<=1000000):m8 Tryz.prog 98 [] 134 1 1 [.mp (u9 l) (pX l)] [.clo jk0 [.orow 0 0]] fun o n' cs' r=>r=.sl 1 l.length (((l.map (·.1)).mergeSort leI).map intA):=by
 refine⟨eJ Tryz.func98 rfl (by kernel_rfl),fun w C β vals y xs h0 h1 h2 h3 h4 h5 h6 h7 h8 h9=>?_⟩;obtain rfl:β=[]:=List.eq_nil_of_length_eq_zero (by simpa using h4.symm);unfold A.repL at h9;obtain⟨v,vs',rfl,hv,h9⟩:=h9;unfold A.repL at h9;subst h9;unfold A.rep at hv;obtain⟨us,rfl,hus⟩:=hv;unfold A.repL at hus;obtain⟨p,us',hus,hp,h9⟩:=hus;unfold A.repL at h9;subst h9
 obtain rfl:us = #[p]:=by apply Array.toList_inj.1;simpa using hus
 unfold A.rep at hp;obtain⟨b,n1,cap1,hy,rfl⟩:=hp
 obtain rfl:y=.slice (some ⟨b,0,none⟩) n1 cap1:=by simpa using hy
 have hrow:=h6.row (by decide);unfold A.repC at h7;obtain⟨u,us',rfl,-,hu,h7⟩:=h7;unfold A.repC at h7;subst h7;unfold A.rep at hu;obtain⟨r,us,rfl,hC,hlen,hvs,hok⟩:=hu;obtain⟨es,c,hr,hk1,hk2,hst⟩:=ja6 (h1 _ _ hC);obtain⟨D0,hown,hperm,hsize⟩:=jl9 hr hst hk1 hok hnd hn
 have hcell:w.cell? ⟨b,0,none⟩=some (.map (some r)):=by
  rcases hrow.2 with ⟨h,_⟩|⟨g,cap,cur,h,_,hb,_,_,_,htake⟩
  ·cases h
  ·cases h
   have h0:cur[0]?=some (.map (some r)):=by
    have:=congrArg (·[0]?) htake;simpa using this
   simp[World.cell?,hb,h0]
 have hbl:b<w.heap.size:=h6.lt rfl
 have hseq:SeqGives Fence.wide 2 Tryz.prog jk0 #[.pointer (some ⟨b,0,none⟩)] encZ (fun ss=>ss.Perm (intKeys D0)) (Maps.size D0) w :=
  AnyZI.keys_gives (ρ:=bH) { iZ with } Fence.wide _ trivial rfl (by omega) b r l.length D0 w hbl hcell hown
 have cS:=AnyZI.sorted_in jb2 Fence.wide 5 trivial trivial trivial trivial rfl (by omega) (jsJ _) (enters_of Tryz.func122 (by kernel_rfl) rfl) jk0 #[.pointer (some ⟨b,0,none⟩)] trivial (enters_of Tryz.func123 (by kernel_rfl) rfl) _ _ (by rw[hsize];unfold maxLen;omega) (by rw[hsize];omega) _ hseq;refine(callsIn_wide.1 cS).mono ?_;rintro e w' ⟨v,ss,rfl,hS,hrw,hnil,hB⟩;have hB:Ext w w':=hB;have kp:=Keeps.of_ext hB;have hpm:ss.mergeSort (fun x y=>decide (x<=y))=(l.map (·.1)).mergeSort leI:=mergeSort_of_perm_i (hS.trans hperm)
 have hlen2:ss.length=l.length:=by rw[(hS.trans hperm).length_eq,List.length_map]
 rw[hpm,hlen2] at hrw;refine .inl ⟨[],1,[.mp (u9 l) (pX l)],_,v,_,[.map (some r)],zA C w w',rfl,rfl,⟨kp.os,kp.tape,kp.output,kp.size,fun q hq hn=>kp.block q hq (by simp)⟩,vV h1,dR h1 h3 kp,fun ad u hc=>?_,rfl,fun i b cs hb=>by simp at hb,h6.same fun q hq=>kp.block q (h6.lt hq) (by simp),?_,fun q hq=>⟨fun o sp=>?_,.inr hq⟩,?_⟩
 ·unfold zA at hc;split at hc
  ·exact .inl hc
  ·exact .inr (.inl (by omega))
 ·unfold A.repC;refine⟨_,[],rfl,rfl,?_,by unfold A.repC;rfl⟩;unfold A.rep;exact⟨r,us,rfl,vV h1 _ _ hC,hlen,A.repL.mono _ (show(⟨C,[],[]⟩:Env).per.le (⟨zA C w w',[],[]⟩:Env).per from ⟨vV h1,fun _ _ h=>h,fun _ _ h=>h⟩) hvs,hok⟩
 ·unfold zA;rw[if_pos (show(⟨q,o,sp⟩:Addr).block<w.heap.size from h6.lt hq)];exact(h8 q hq).2 o sp
 ·refine A.rep.mono _ (jjE (zA C w w') [] _) (jss hrw (D:=zA C w w') ?_ fun b' hb o u hc=>?_)
  ·refine A.repC_mk ?_ (fun u hu=>?_)
   ·have:=A.repL_map (E:=⟨zA C w w',[],[]⟩) ((l.map (·.1)).mergeSort leI) intA encZ (fun x hx=>?_)
    ·exact this
    ·refine A.rep_v (okV_int.2 ?_);have hx':x∈l.map (·.1):=(List.mergeSort_perm _ _).mem_iff.1 hx;obtain⟨p,hp,rfl⟩:=List.mem_map.1 hx';exact okV_int.1 (hok _ (by unfold u9;exact List.mem_map.2 ⟨p,hp,rfl⟩))
   ·obtain⟨x,_,rfl⟩:=List.mem_map.1 hu;rfl
  ·unfold zA;have:=(hrw.lt b' hb).1;rw[if_neg (by simp only;omega)];exact jbD hc
theorem aX(h:Int×Nt):∀l:List (Int×Nt),(nJ h l).Perm (h::l)
 |[]=>List.Perm.refl _
 |x::l=>by
  unfold nJ;split
  ·exact List.Perm.refl _
  ·exact((aX h l).cons x).trans (List.Perm.swap h x l)
theorem wX:∀l:List (Int×Nt),(vS l).Perm l
 |[]=>List.Perm.refl _
 |h::l=>(aX h (vS l)).trans ((wX l).cons h)
theorem iV(h:Int×Nt):∀l:List (Int×Nt),l.Pairwise (fun a b=>a.1<=b.1)->(nJ h l).Pairwise fun a b=>a.1<=b.1
 |[],_=>by unfold nJ;simp
 |x::l,hp=>by
  obtain⟨h1,h2⟩:=List.pairwise_cons.1 hp;unfold nJ;split
  ·rename_i hx;refine List.pairwise_cons.2 ⟨fun b hb=>?_,hp⟩;rcases List.mem_cons.1 hb with rfl|hb
   ·exact hx
   ·exact Int.le_trans hx (h1 b hb)
  ·rename_i hx;refine List.pairwise_cons.2 ⟨fun b hb=>?_,iV h l h2⟩;rcases List.mem_cons.1 ((aX h l).mem_iff.1 hb) with rfl|hb
   ·omega
   ·exact h1 b hb
theorem aT:∀l:List (Int×Nt),(vS l).Pairwise fun a b=>a.1<=b.1
 |[]=>List.Pairwise.nil
 |h::l=>iV h _ (aT l)
theorem jj1(l:List (Int×Nt)):((vX l).map (·.1)).mergeSort leI=(vS l).map (·.1):=by
 have e:(vX l).map (·.1)=l.map (·.1):=by unfold vX;rw[List.map_map];rfl
 rw[e]
 have tr:∀a b c:Int,leI a b=true->leI b c=true->leI a c=true:=fun a b c h1 h2=>by simp only[leI,decide_eq_true_eq] at *;exact Int.le_trans h1 h2
 have to:∀a b:Int,(leI a b||leI b a)=true:=fun a b=>by simp only[leI,Bool.or_eq_true,decide_eq_true_eq];exact Int.le_total a b
 refine List.Perm.eq_of_pairwise (le:=fun a b=>leI a b=true) (fun a b _ _ h1 h2=>?_) (List.pairwise_mergeSort tr to _) ?_ ((List.mergeSort_perm _ leI).trans ((wX l).map _).symm)
 ·simp only[leI,decide_eq_true_eq] at h1 h2;exact Int.le_antisymm h1 h2
 ·exact List.pairwise_map.2 ((aT l).imp fun h=>by simpa [leI] using h)
theorem jiu(l:List (Int×Nt)):((vX l).map (·.1)).Nodup↔(l.map (·.1)).Nodup:=by
 have e:(vX l).map (·.1)=l.map (·.1):=by unfold vX;rw[List.map_map];rfl
 rw[e]
theorem jmK{l:List (Int×Nt)}(hnd:(l.map (·.1)).Nodup){h:Int×Nt}(hm:h∈l):wK (vX l) h.1=some (haA h).2:=by
 induction l with
 |nil=>simp at hm
 |cons x l ih =>
  rw[List.map_cons,List.nodup_cons] at hnd;unfold wK vX;rw[List.map_cons];rcases List.mem_cons.1 hm with rfl|hm
  ·rw[List.find?_cons_of_pos (p:=fun p:Int×A=>decide (h.1=p.1)) (show decide (h.1=(haA h).1)=true from jJ rfl)];rfl
  ·have hne:h.1≠x.1:=fun e=>hnd.1 (by rw[<- e];exact List.mem_map.2 ⟨h,hm,rfl⟩)
   rw[List.find?_cons_of_neg (p:=fun p:Int×A=>decide (h.1=p.1)) (show ¬decide (h.1=(haA x).1)=true by rw[jG (show ¬h.1=(haA x).1 from hne)];simp)];exact ih hnd.2 hm
def hnA(h:Int×Nt):List A:=intA h.1::ntA h.2
@[irreducible] def kH(l:List (Int×Nt)):List A:=l.flatMap hnA
theorem nI:kH []=[]:=by unfold kH;rfl
theorem dG(l:List (Int×Nt))(h:Int×Nt):kH (l++[h])=kH l++hnA h:=by
 unfold kH;rw[List.flatMap_append,List.flatMap_cons,List.flatMap_nil,List.append_nil]
theorem jga(l:List (Int×Nt)):(kH l).length=l.length*5:=by
 induction l with
 |nil=>rw[nI];rfl
 |cons h l ih =>
  have:kH (h::l)=hnA h++kH l:=by unfold kH;rw[List.flatMap_cons]
  rw[this,List.length_append,ih,List.length_cons];simp only[hnA,ntA,List.length_cons,List.length_nil];omega
theorem gQ(l:List (Int×Nt))(i:Nat)(hi:i<l.length):jD 5 i (kH l)=hnA l[i]:=by
 unfold kH;exact xU hnA (fun _=>rfl) l i hi
theorem jkS(l:List (Int×Nt))(k:Int)(b:Nt):vX l++[(k,.agg (intA k::ntA b))]=vX (l++[(k,b)]):=by
 unfold vX;rw[List.map_append];rfl
def iE(u:Ut):List A:=[.sl 1 u.du.length (gB u.du),.sl 1 u.vo.length (gB u.vo),.sl 5 u.on.length (kH u.on)]
def puQ(p:PU)(ch:List PanicEntry):Prop:=match p with
 |.bad x e=>ch=qX x e
 |_=>False
theorem pH{p:PU}{x e:Int}{ch:List PanicEntry}(h:p=.bad x e)(k:ch=qX x e):puQ p ch:=by subst h;exact k
def uoQ(p:PU)(r:A):Prop:=match p with
 |.ok u=>r=.agg (iE u)
 |_=>False
end Go.Proofs.YtdnnmiemgmgffaaGreatDoor.Vm
