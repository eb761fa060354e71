/- Part 5 of the proof. -/
import Derived.Test.YtgifglkkmhapiaaGreatDoorK4
import Derived.Shelf.Lay
import Derived.Shelf.Strconv.Itoa3
import Derived.Ground.NamesProg
import Derived.Lib.ItoaLen
import Derived.Lib.AppendIntMem
import Derived.Shelf.Strings.OnBuilder
set_option maxRecDepth 100000
set_option linter.unusedSimpArgs false
set_option linter.unusedVariables false
set_option maxHeartbeats 4000000
namespace Go.Proofs.YtgifglkkmhapiaaGreatDoor.Vm
open Go.RowKit Go.Shelf
def m9:Go.Shelf.Ren:=⟨fun | 129=>93 | 171=>15 | 243=>34 | 246=>52 | 283=>78 | 284=>79 | 285=>80 | 286=>81 | 317=>92 | 318=>94 | 319=>95 | 320=>96 | 337=>126 | 338=>127 | n=>n,fun | 37=>48 | 46=>148 | 51=>151 | 53=>119 | 171=>133 | 173=>136 | 212=>150 | 213=>152 | 232=>182 | 233=>183 | n=>n,fun | 17=>1 | 18=>4 | 19=>5 | n=>n⟩
theorem jaY:LaysM.n171 Tryz.prog m9 where
 mixed:=by kernel_rfl
 f129:=Tryz.func93.trans (congrArg some (by kernel_rfl))
 f171:=Tryz.func15.trans (congrArg some (by kernel_rfl))
 f243:=Tryz.func34.trans (congrArg some (by kernel_rfl))
 f246:=Tryz.func52.trans (congrArg some (by kernel_rfl))
 f283:=Tryz.func78.trans (congrArg some (by kernel_rfl))
 f284:=Tryz.func79.trans (congrArg some (by kernel_rfl))
 f285:=Tryz.func80.trans (congrArg some (by kernel_rfl))
 f286:=Tryz.func81.trans (congrArg some (by kernel_rfl))
 f317:=Tryz.func92.trans (congrArg some (by kernel_rfl))
 f318:=Tryz.func94.trans (congrArg some (by kernel_rfl))
 f319:=Tryz.func95.trans (congrArg some (by kernel_rfl))
 f320:=Tryz.func96.trans (congrArg some (by kernel_rfl))
 f337:=Tryz.func126.trans (congrArg some (by kernel_rfl))
 f338:=Tryz.func127.trans (congrArg some (by kernel_rfl))
 t0:=Tryz.underlying0
 a0:=Tryz.isAgg0
 z0:=Tryz.sizeOf0
 v0:=Tryz.zeroValue0
 t2:=Tryz.underlying2
 a2:=Tryz.isAgg2
 z2:=Tryz.sizeOf2
 v2:=Tryz.zeroValue2
 t3:=Tryz.underlying3
 a3:=Tryz.isAgg3
 z3:=Tryz.sizeOf3
 v3:=Tryz.zeroValue3
 t4:=Tryz.underlying4
 a4:=Tryz.isAgg4
 z4:=Tryz.sizeOf4
 v4:=Tryz.zeroValue4
 t5:=Tryz.underlying5
 a5:=Tryz.isAgg5
 z5:=Tryz.sizeOf5
 v5:=Tryz.zeroValue5
 t9:=Tryz.underlying9
 a9:=Tryz.isAgg9
 z9:=Tryz.sizeOf9
 v9:=Tryz.zeroValue9
 t20:=Tryz.underlying20
 a20:=Tryz.isAgg20
 z20:=Tryz.sizeOf20
 v20:=Tryz.zeroValue20
 t37:=Tryz.underlying48
 a37:=Tryz.isAgg48
 z37:=Tryz.sizeOf48
 v37:=Tryz.zeroValue48
 t46:=Tryz.underlying148
 a46:=Tryz.isAgg148
 z46:=Tryz.sizeOf148
 v46:=Tryz.zeroValue148
 t51:=Tryz.underlying151
 a51:=Tryz.isAgg151
 z51:=Tryz.sizeOf151
 v51:=Tryz.zeroValue151
 t53:=Tryz.underlying119
 a53:=Tryz.isAgg119
 z53:=Tryz.sizeOf119
 v53:=Tryz.zeroValue119
 t171:=Tryz.underlying133
 a171:=Tryz.isAgg133
 z171:=Tryz.sizeOf133
 v171:=Tryz.zeroValue133
 t173:=Tryz.underlying136
 a173:=Tryz.isAgg136
 z173:=Tryz.sizeOf136
 v173:=Tryz.zeroValue136
 t212:=Tryz.underlying150
 a212:=Tryz.isAgg150
 z212:=Tryz.sizeOf150
 v212:=Tryz.zeroValue150
 t213:=Tryz.underlying152
 a213:=Tryz.isAgg152
 z213:=Tryz.sizeOf152
 t232:=Tryz.underlying182
 a232:=Tryz.isAgg182
 z232:=Tryz.sizeOf182
 v232:=Tryz.zeroValue182
 t233:=Tryz.underlying183
 a233:=Tryz.isAgg183
 z233:=Tryz.sizeOf183
 v233:=Tryz.zeroValue183
 g17:=by kernel_rfl
 g18:=by kernel_rfl
 g19:=by kernel_rfl
 i0:=by kernel_rfl
 i2:=by kernel_rfl
 i3:=by kernel_rfl
 i4:=by kernel_rfl
 i5:=by kernel_rfl
 i9:=by kernel_rfl
 i20:=by kernel_rfl
 i37:=by kernel_rfl
 i46:=by kernel_rfl
 i51:=by kernel_rfl
 i53:=by kernel_rfl
 i171:=by kernel_rfl
 i173:=by kernel_rfl
 i212:=by kernel_rfl
 i232:=by kernel_rfl
 i233:=by kernel_rfl
 m17:=by kernel_rfl
 m18:=by kernel_rfl
 m19:=by kernel_rfl

theorem jpV {w:World} {C:Rd} (h:Gok C w) (hs:Sub C (kJ w)):Lib.TabIs Tryz.prog w "internal/strconv.uint64pow10" .u64 Lib.pow10Tab:=by
 have hm:(1,(List.range 20).map fun i=>A.v (.int .u64 ((10 ^ i:Nat):Int))) ∈ globs:=by unfold globs;exact List.mem_cons_self
 obtain⟨cs,T,sp,h1,h2⟩ := h.sz _ hm
 obtain⟨us,k1,k2⟩ := A.repAt_vals (h.cs _ hm).2
 unfold Lib.TabIs World.var?;rw[show Tryz.prog.globalNamed "internal/strconv.uint64pow10" = some 1 by kernel_rfl,Option.bind_some]
 have h1:w.heap[1]? = some (.cells cs T sp):=h1
 rw[h1]
 have hv:us=(Lib.pow10Tab.map fun z=>Value.int .u64 z):=by
  have e:((List.range 20).map fun i=>A.v (.int .u64 ((10 ^ i:Nat):Int)))=(Lib.pow10Tab.map fun z=>Value.int .u64 z).map A.v:=by unfold Lib.pow10Tab;rw[List.map_map,List.map_map];rfl
  have k1:=A.repC_L k1
  rw[e] at k1;exact fS k1
 subst hv
 show some cs=_
 refine congrArg some ?_
 apply Array.ext_getElem?
 intro i
 by_cases hi:i<cs.size
 ·have hi2:i<20:=by rw[h2] at hi;simpa using hi
  obtain⟨u,hu⟩ : ∃ u,(Lib.pow10Tab.map fun z=>Value.int .u64 z)[i]? = some u:=⟨_,List.getElem?_eq_getElem (by simp[Lib.pow10Tab,hi2])⟩
  have:=hs _ _ (k2 i u hu)
  change w.cell? _=_ at this
  have e2:(List.map (fun z=>Value.int IntKind.u64 z) Lib.pow10Tab).toArray[i]? = some u:=by rw[List.getElem?_toArray];exact hu
  refine Eq.trans ?_ e2.symm;rw[<- this]
  simp[World.cell?,h1]
 ·rw[Array.getElem?_eq_none (by omega),List.getElem?_toArray,List.getElem?_eq_none (by rw[h2] at hi;simp[Lib.pow10Tab] at hi ⊢;exact hi)]
theorem jiC (n:Int):Spec Tryz.prog 15 [] [jJ n] fun _ r=>(-9223372036854775808<=n/\n<=9223372036854775807)/\r=j0 (bs (Lib.itoa n)):=by
 refine⟨vN Tryz.func15 rfl (by kernel_rfl),?_⟩;intro w C β vals hg hsub h2 h3 h4 h5 hv
 obtain⟨u,us,rfl,h6,h7⟩ := hv
 have e1:=(A.rep_v_iff.1 h6).1
 have hn:=okV_int.1 (A.rep_v_iff.1 h6).2
 obtain rfl:us=[]:=h7
 subst e1
 have hβ:β=[]:=List.eq_nil_of_length_eq_zero (by simpa using h4.symm)
 subst hβ;refine (Any.strconv_Itoa jaY n hn.1 hn.2 w (jpV hg hsub)).mono ?_;rintro e w' ⟨rfl,k,os,rfl⟩;exact⟨[],j0 (bs (Lib.itoa n)),_,rfl,⟨hn,rfl⟩,Keeps.of_ext (Lib.below_grow _ _ (Nat.le_refl _) k os),rfl,fun i b cs hb=>by simp at hb,A.rep_v (by show (bs (Lib.itoa n)).size<=maxLen;rw[xJ];have:=Lib.itoa_length_le n hn.1 hn.2;unfold maxLen;omega)⟩
theorem jmq:∀ (u:Nat),Lib.decDigits u=qF u:=fun u=>by
 induction u using Nat.strongRecOn with
 | _ u ih =>
  rw[Lib.decDigits];unfold qF
  split
  ·by_cases h0:u=0
   ·subst h0;rfl
   ·rw[if_neg h0,vX h0,show u / 10=0 by omega,aW,List.nil_append,show u % 10=u by omega]
  ·rw[ih (u / 10) (by omega),if_neg (by omega),vX (by omega)];unfold qF;rw[if_neg (by omega)]
theorem nO (n:Int) (hn:0<=n):Spec Tryz.prog 15 [] [jJ n] fun _ r=>r=j0 (bs (qF n.toNat)):=by
 have e:Lib.itoa n=qF n.toNat:=by
  unfold Lib.itoa
  split
  ·omega
  ·exact jmq _
 rw[<- e]
 exact (jiC n).mono fun _ _ h=>h.2
def jjM (b:Bool):ByteArray:=if b=true then ⟨#[116,114,117,101]⟩ else ⟨#[102,97,108,115,101]⟩
theorem jg6 (b:Bool):Spec Tryz.prog 97 [] [wP b] fun _ r=>r=j0 (jjM b):=by
 refine eN jH jY 0 Tryz.func97 rfl ?_;intro _;conv=>whnf
 cases b
 ·conv=>whnf
  rfl
 ·conv=>whnf
  rfl
theorem jiq (b:Bool):Spec Tryz.prog 83 [] [wP b] fun _ r=>r=j0 (jjM b):=by
 have h:=jg6 b
 refine eN jH jY 0 Tryz.func83 rfl ?_;intro _;conv=>whnf
 (refine yI [] h ?_;rintro r rfl;conv=>whnf)
 conv=>whnf
 rfl
def opP (s:ByteArray):Int:=if s=pOr then 1 else if s=yP then 2 else if s=wH then 5 else if s=pMinus then 5 else if s=z7 then 6 else if s=qJ then 6 else 4
theorem jkJ (s:ByteArray):Spec Tryz.prog 82 [] [j0 s] fun _ r=>r=jJ (opP s):=by
 unfold opP;refine eN jH jY 0 Tryz.func82 rfl ?_;intro _;conv=>whnf
 by_cases g1:s=pOr
 ·rw[if_pos g1,qH (p:=s = ⟨_⟩) g1];conv=>whnf
  rfl
 rw[if_neg g1,j8 (p:=s = ⟨_⟩) g1];conv=>whnf
 by_cases g2:s=yP
 ·rw[if_pos g2,qH (p:=s = ⟨_⟩) g2];conv=>whnf
  rfl
 rw[if_neg g2,j8 (p:=s = ⟨_⟩) g2];conv=>whnf
 by_cases g3:s=wH
 ·rw[if_pos g3,qH (p:=s = ⟨_⟩) g3];conv=>whnf
  rfl
 rw[if_neg g3,j8 (p:=s = ⟨_⟩) g3];conv=>whnf
 by_cases g4:s=pMinus
 ·rw[if_pos g4,qH (p:=s = ⟨_⟩) g4];conv=>whnf
  rfl
 rw[if_neg g4,j8 (p:=s = ⟨_⟩) g4];conv=>whnf
 by_cases g5:s=z7
 ·rw[if_pos g5,qH (p:=s = ⟨_⟩) g5];conv=>whnf
  rfl
 rw[if_neg g5,j8 (p:=s = ⟨_⟩) g5];conv=>whnf
 by_cases g6:s=qJ
 ·rw[if_pos g6,qH (p:=s = ⟨_⟩) g6];conv=>whnf
  rfl
 rw[if_neg g6,j8 (p:=s = ⟨_⟩) g6];conv=>whnf
 rfl
theorem jkW (n:Int) (s:ByteArray) (ks:List Nt):jL (Nt.mk 18 n s ks).k (Nt.mk 18 n s ks).s=opP s:=by
 unfold jL opP
 show (if (18:Int)=17 then _ else if (18:Int) ≠ 18 then _ else _)=_
 rw[if_neg (by decide),if_neg (by decide)];rfl
theorem mW (s:ByteArray):jA s eB=s:=by rw[kO,show dF s eB=eB by unfold dF;rw[if_pos (.inr (.inl rfl))];rfl];exact (x9 _).trans (x9 _)
theorem kF (x:ByteArray):jA eB x=x:=by unfold jA;rw[if_pos (show eB = ⟨#[]⟩ from rfl)];exact eA x
theorem oK {x:ByteArray} (h:0<x.size):x ≠ ⟨#[]⟩ := fun e=>by rw[e] at h;exact absurd h (by decide)
theorem wO:∀ (l:List ByteArray),l ≠ []->(∀ x ∈ l,0<x.size)->qM l ≠ ⟨#[]⟩ := fun l hl h=>by
 have e:=List.dropLast_concat_getLast hl
 rw[<- e,oR];exact bB (oK (h _ (List.getLast_mem hl)))
theorem zW (s:ByteArray):∀ (n:Nat) (l:List ByteArray),l.length=n->(∀ x ∈ l,0<x.size)->dH s l=jA s (qM l):=fun n=>by
 induction n with
 | zero=>intro l hl _;rw[List.eq_nil_of_length_eq_zero hl];exact (mW s).symm
 | succ n ih =>
  intro l hl h
  have hne:l ≠ []:=fun e=>by rw[e] at hl;cases hl
  have e:=List.dropLast_concat_getLast hne
  have hd:∀ x ∈ l.dropLast,0<x.size:=fun x hx=>h x (List.dropLast_subset l hx)
  have e2:dH s l=jA (dH s l.dropLast) (l.getLast hne):=by
   conv=>lhs;rw[<- e]
   unfold dH;rw[List.foldl_append];rfl
  rw[e2,ih l.dropLast (by rw[List.length_dropLast];omega) hd]
  conv=>rhs;rw[<- e,oR]
  by_cases h0:l.dropLast=[]
  ·rw[h0]
   show jA (jA s eB) _=jA s (jA eB _)
   rw[mW,kF]
  ·exact qN _ _ _ (wO _ h0 hd)
def PX (m:Nat) (f:Nt):Prop:=SHz false m f/\(∀ lv,0<(zK false f lv).size) /\ ∀ (s:ByteArray) (lv:Int),0<=lv->lv<=9->s.size+m+10<=500000000->p9 54 [[.adr iS,.own 0]] s [.box 0 0,.agg (ntA f),jJ lv] fun o s' r=>o=[[.adr iS,.own 0]]/\s'=jA s (zK false f lv)/\r = .tup []
theorem PX.mono {m m':Nat} {f:Nt} (h:PX m f) (hm:m<=m'):PX m' f:=⟨h.1.mono hm,h.2.1,fun s lv h0 h9 hs=>h.2.2 s lv h0 h9 (by omega)⟩
theorem bN {p lv:Int} {fu:Bool} {b:ByteArray} (h:0<b.size):0<(aK p lv fu b).size:=by
 unfold aK
 repeat' split
 all_goals (try simp only[ByteArray.size_append]);omega
theorem aX (n:Nat):0<(bs (qF n)).size:=by
 show 0<(qF n).length
 unfold qF
 split
 ·decide
 ·rw[vX (by assumption)];simp
theorem vT {p lv:Int} {b:ByteArray} (h : ¬ p<lv):aK p lv false b=b:=by unfold aK;rw[if_neg h,if_neg (by decide)]
theorem yQ {p lv:Int} {fu:Bool} {b:ByteArray} (h:p<lv):aK p lv fu b = ⟨#[40]⟩ ++ b ++ ⟨#[41]⟩ := by unfold aK;rw[if_pos h];rfl
theorem mF (n:UInt8):(⟨#[n]⟩ : ByteArray).size=1:=rfl
theorem jpJ (n:Int) (hn:0<=n/\n<1000000000000):PX 14 (.mk 12 n eB []):=by
 have e:∀ lv,zK false (.mk 12 n eB []) lv=aK 8 lv false (bs (qF n.toNat)):=fun _=>rfl
 have hne:=aX n.toNat
 refine⟨jnj false n hn,fun lv=>by rw[e];exact bN hne,fun s lv h0 h9 hs => ?_⟩
 have hd:=nO n hn.1
 have hsz:(bs (qF n.toNat)).size<=12:=wK _ (by omega)
 rw[e];generalize bs (qF n.toNat)=x at *
 by_cases hlv:8<lv
 ·refine wM (jF jH jY 1) Tryz.func54 rfl (by kernel_rfl) rfl ?_;intro _;conv=>whnf
  refine jE (jF jH jY 1) (dr:=[]) ⟨0,rfl⟩ (.inl rfl) (by kernel_rfl) (fun _ _ h=>h.elim) ?_;conv=>whnf
  refine jE (jF jH jY 1) (dr:=[]) ⟨0,rfl⟩ (.inl rfl) (by kernel_rfl) (fun _ _ h=>h.elim) ?_;conv=>whnf
  refine jE (jF jH jY 1) (dr:=[]) ⟨0,rfl⟩ (.inl rfl) (by kernel_rfl) (fun _ _ h=>h.elim) ?_;conv=>whnf
  refine vR ?_;refine jE (jF jH jY 1) (dr:=[]) ⟨0,rfl⟩ (.inl rfl) (by kernel_rfl) (fun _ _ h=>h.elim) ?_;conv=>whnf
  refine yO (congrArg (fun b=>A.v (.bool b)) (qH hlv)) ?_;refine jE (jF jH jY 1) (dr:=[]) ⟨0,rfl⟩ (.inl rfl) (by kernel_rfl) (fun _ _ h=>h.elim) ?_;conv=>whnf
  refine kB 0 0 2 [1] ((jD s ⟨#[40]⟩ (by decide) (by rw[mF];omega)).r) ?_;rintro o n' cs' r ⟨s1,rfl,rfl,ho,hs1,rfl⟩;cases ho;conv=>whnf
  refine kS (l:=[_,_]) [3] (jF jH jY 1) ⟨0,rfl⟩ (fun _ _ h=>h.elim) rfl rfl rfl ?_;conv=>whnf
  refine wW (jF jH jY 1) ⟨1,rfl⟩ (.inl rfl) (by kernel_rfl) (fun _ _ h=>h.elim) ?_;conv=>whnf
  have hz1:s1.size<=s.size+2:=by
   have:=jB s ⟨#[40]⟩
   rw[mF] at this;rw[hs1];omega
  (refine yI [] hd ?_;rintro r rfl;conv=>whnf)
  refine kB 0 2 5 [4] ((jD s1 x hne (by omega)).r) ?_;rintro o n' cs' r ⟨s',rfl,rfl,ho,hs',rfl⟩;cases ho;conv=>whnf
  have hz':=jB s1 x
  rw[<- hs'] at hz';refine⟨.inl rfl,?_⟩;unfold yF;refine iE 0 5 6 [] rfl rfl rfl rfl rfl (jD s' ⟨#[41]⟩ (by decide) (by rw[mF];omega)) ?_;rintro o n' cs' r ⟨s9,rfl,rfl,ho,hs9,rfl⟩;cases ho;conv=>whnf
  refine⟨6,?_⟩;conv=>whnf
  exact⟨_,rfl,rfl,rfl,by rw[yQ hlv,hs9,hs',hs1,yL],rfl⟩
 ·refine oZ jH jY 1 Tryz.func54 rfl ?_;intro _;conv=>whnf
  rw[j8 hlv];conv=>whnf
  (refine yI [] hd ?_;rintro r rfl;conv=>whnf)
  refine kB 0 0 2 [1] ((jD s x hne (by omega)).r) ?_;rintro o n' cs' r ⟨s',rfl,rfl,ho,hs',rfl⟩;cases ho;conv=>whnf
  refine⟨2,?_⟩;conv=>whnf
  exact⟨_,rfl,rfl,rfl,by rw[vT hlv,hs'],rfl⟩
theorem jl5 (k:Int) (hk:k=14 ∨ k=15) (s0:ByteArray) (hne:0<s0.size) (hsz:s0.size<=12):PX 14 (.mk k 0 s0 []):=by
 have e:∀ lv,zK false (.mk k 0 s0 []) lv=aK 8 lv false s0:=fun lv=>by rcases hk with rfl | rfl <;> rfl
 refine⟨jnk false k hk s0 hsz,fun lv=>by rw[e];exact bN hne,fun s lv h0 h9 hs => ?_⟩;rw[e];clear e
 rcases hk with rfl | rfl
 ·by_cases hlv:8<lv
  ·refine wM (jF jH jY 1) Tryz.func54 rfl (by kernel_rfl) rfl ?_;intro _;conv=>whnf
   refine jE (jF jH jY 1) (dr:=[]) ⟨0,rfl⟩ (.inl rfl) (by kernel_rfl) (fun _ _ h=>h.elim) ?_;conv=>whnf
   refine jE (jF jH jY 1) (dr:=[]) ⟨0,rfl⟩ (.inl rfl) (by kernel_rfl) (fun _ _ h=>h.elim) ?_;conv=>whnf
   refine jE (jF jH jY 1) (dr:=[]) ⟨0,rfl⟩ (.inl rfl) (by kernel_rfl) (fun _ _ h=>h.elim) ?_;conv=>whnf
   refine vR ?_;refine jE (jF jH jY 1) (dr:=[]) ⟨0,rfl⟩ (.inl rfl) (by kernel_rfl) (fun _ _ h=>h.elim) ?_;conv=>whnf
   refine yO (congrArg (fun b=>A.v (.bool b)) (qH hlv)) ?_;refine jE (jF jH jY 1) (dr:=[]) ⟨0,rfl⟩ (.inl rfl) (by kernel_rfl) (fun _ _ h=>h.elim) ?_;conv=>whnf
   refine kB 0 0 2 [1] ((jD s ⟨#[40]⟩ (by decide) (by rw[mF];omega)).r) ?_;rintro o n' cs' r ⟨s1,rfl,rfl,ho,hs1,rfl⟩;cases ho;conv=>whnf
   refine kS (l:=[_,_]) [3] (jF jH jY 1) ⟨0,rfl⟩ (fun _ _ h=>h.elim) rfl rfl rfl ?_;conv=>whnf
   refine wW (jF jH jY 1) ⟨1,rfl⟩ (.inl rfl) (by kernel_rfl) (fun _ _ h=>h.elim) ?_;conv=>whnf
   have hz1:s1.size<=s.size+2:=by
    have:=jB s ⟨#[40]⟩
    rw[mF] at this;rw[hs1];omega
   refine kB 0 2 5 [4] ((jD s1 s0 hne (by omega)).r) ?_;rintro o n' cs' r ⟨s',rfl,rfl,ho,hs',rfl⟩;cases ho;conv=>whnf
   have hz':=jB s1 s0
   rw[<- hs'] at hz';refine⟨.inl rfl,?_⟩;unfold yF;refine iE 0 5 6 [] rfl rfl rfl rfl rfl (jD s' ⟨#[41]⟩ (by decide) (by rw[mF];omega)) ?_;rintro o n' cs' r ⟨s9,rfl,rfl,ho,hs9,rfl⟩;cases ho;conv=>whnf
   refine⟨6,?_⟩;conv=>whnf
   exact⟨_,rfl,rfl,rfl,by rw[yQ hlv,hs9,hs',hs1,yL],rfl⟩
  ·refine oZ jH jY 1 Tryz.func54 rfl ?_;intro _;conv=>whnf
   rw[j8 hlv];conv=>whnf
   refine kB 0 0 2 [1] ((jD s s0 hne (by omega)).r) ?_;rintro o n' cs' r ⟨s',rfl,rfl,ho,hs',rfl⟩;cases ho;conv=>whnf
   refine⟨2,?_⟩;conv=>whnf
   exact⟨_,rfl,rfl,rfl,by rw[vT hlv,hs'],rfl⟩
 ·by_cases hlv:8<lv
  ·refine wM (jF jH jY 1) Tryz.func54 rfl (by kernel_rfl) rfl ?_;intro _;conv=>whnf
   refine jE (jF jH jY 1) (dr:=[]) ⟨0,rfl⟩ (.inl rfl) (by kernel_rfl) (fun _ _ h=>h.elim) ?_;conv=>whnf
   refine jE (jF jH jY 1) (dr:=[]) ⟨0,rfl⟩ (.inl rfl) (by kernel_rfl) (fun _ _ h=>h.elim) ?_;conv=>whnf
   refine jE (jF jH jY 1) (dr:=[]) ⟨0,rfl⟩ (.inl rfl) (by kernel_rfl) (fun _ _ h=>h.elim) ?_;conv=>whnf
   refine vR ?_;refine jE (jF jH jY 1) (dr:=[]) ⟨0,rfl⟩ (.inl rfl) (by kernel_rfl) (fun _ _ h=>h.elim) ?_;conv=>whnf
   refine yO (congrArg (fun b=>A.v (.bool b)) (qH hlv)) ?_;refine jE (jF jH jY 1) (dr:=[]) ⟨0,rfl⟩ (.inl rfl) (by kernel_rfl) (fun _ _ h=>h.elim) ?_;conv=>whnf
   refine kB 0 0 2 [1] ((jD s ⟨#[40]⟩ (by decide) (by rw[mF];omega)).r) ?_;rintro o n' cs' r ⟨s1,rfl,rfl,ho,hs1,rfl⟩;cases ho;conv=>whnf
   refine kS (l:=[_,_]) [3] (jF jH jY 1) ⟨0,rfl⟩ (fun _ _ h=>h.elim) rfl rfl rfl ?_;conv=>whnf
   refine wW (jF jH jY 1) ⟨1,rfl⟩ (.inl rfl) (by kernel_rfl) (fun _ _ h=>h.elim) ?_;conv=>whnf
   have hz1:s1.size<=s.size+2:=by
    have:=jB s ⟨#[40]⟩
    rw[mF] at this;rw[hs1];omega
   refine kB 0 2 5 [4] ((jD s1 s0 hne (by omega)).r) ?_;rintro o n' cs' r ⟨s',rfl,rfl,ho,hs',rfl⟩;cases ho;conv=>whnf
   have hz':=jB s1 s0
   rw[<- hs'] at hz';refine⟨.inl rfl,?_⟩;unfold yF;refine iE 0 5 6 [] rfl rfl rfl rfl rfl (jD s' ⟨#[41]⟩ (by decide) (by rw[mF];omega)) ?_;rintro o n' cs' r ⟨s9,rfl,rfl,ho,hs9,rfl⟩;cases ho;conv=>whnf
   refine⟨6,?_⟩;conv=>whnf
   exact⟨_,rfl,rfl,rfl,by rw[yQ hlv,hs9,hs',hs1,yL],rfl⟩
  ·refine oZ jH jY 1 Tryz.func54 rfl ?_;intro _;conv=>whnf
   rw[j8 hlv];conv=>whnf
   refine kB 0 0 2 [1] ((jD s s0 hne (by omega)).r) ?_;rintro o n' cs' r ⟨s',rfl,rfl,ho,hs',rfl⟩;cases ho;conv=>whnf
   refine⟨2,?_⟩;conv=>whnf
   exact⟨_,rfl,rfl,rfl,by rw[vT hlv,hs'],rfl⟩
theorem jn3 (n:Nat) (hn:n<2):PX 14 (.mk 13 n eB []):=by
 have e:∀ lv,zK false (.mk 13 n eB []) lv=aK 8 lv false (tfB n):=fun _=>rfl
 have e2:tfB n=jjM (decide (n=1)):=by rcases (by omega:n=0 ∨ n=1) with rfl | rfl <;> rfl
 have hne:0<(tfB n).size:=by rcases (by omega:n=0 ∨ n=1) with rfl | rfl <;> decide
 have hsz:(tfB n).size<=12:=by rcases (by omega:n=0 ∨ n=1) with rfl | rfl <;> decide
 refine⟨jls false n hn,fun lv=>by rw[e];exact bN hne,fun s lv h0 h9 hs => ?_⟩
 have hd:=jiq (decide (n=1))
 rw[<- e2] at hd;rw[e];clear e
 rcases (by omega:n=0 ∨ n=1) with rfl | rfl
 ·rw[show decide ((0:Nat)=1)=false from rfl] at hd;clear e2;generalize tfB ((0:Nat):Int)=x at *
  by_cases hlv:8<lv
  ·refine wM (jF jH jY 1) Tryz.func54 rfl (by kernel_rfl) rfl ?_;intro _;conv=>whnf
   refine jE (jF jH jY 1) (dr:=[]) ⟨0,rfl⟩ (.inl rfl) (by kernel_rfl) (fun _ _ h=>h.elim) ?_;conv=>whnf
   refine jE (jF jH jY 1) (dr:=[]) ⟨0,rfl⟩ (.inl rfl) (by kernel_rfl) (fun _ _ h=>h.elim) ?_;conv=>whnf
   refine jE (jF jH jY 1) (dr:=[]) ⟨0,rfl⟩ (.inl rfl) (by kernel_rfl) (fun _ _ h=>h.elim) ?_;conv=>whnf
   refine vR ?_;refine jE (jF jH jY 1) (dr:=[]) ⟨0,rfl⟩ (.inl rfl) (by kernel_rfl) (fun _ _ h=>h.elim) ?_;conv=>whnf
   refine yO (congrArg (fun b=>A.v (.bool b)) (qH hlv)) ?_;refine jE (jF jH jY 1) (dr:=[]) ⟨0,rfl⟩ (.inl rfl) (by kernel_rfl) (fun _ _ h=>h.elim) ?_;conv=>whnf
   refine kB 0 0 2 [1] ((jD s ⟨#[40]⟩ (by decide) (by rw[mF];omega)).r) ?_;rintro o n' cs' r ⟨s1,rfl,rfl,ho,hs1,rfl⟩;cases ho;conv=>whnf
   refine kS (l:=[_,_]) [3] (jF jH jY 1) ⟨0,rfl⟩ (fun _ _ h=>h.elim) rfl rfl rfl ?_;conv=>whnf
   refine wW (jF jH jY 1) ⟨1,rfl⟩ (.inl rfl) (by kernel_rfl) (fun _ _ h=>h.elim) ?_;conv=>whnf
   have hz1:s1.size<=s.size+2:=by
    have:=jB s ⟨#[40]⟩
    rw[mF] at this;rw[hs1];omega
   (refine yI [] hd ?_;rintro r rfl;conv=>whnf)
   refine kB 0 2 5 [4] ((jD s1 x hne (by omega)).r) ?_;rintro o n' cs' r ⟨s',rfl,rfl,ho,hs',rfl⟩;cases ho;conv=>whnf
   have hz':=jB s1 x
   rw[<- hs'] at hz';refine⟨.inl rfl,?_⟩;unfold yF;refine iE 0 5 6 [] rfl rfl rfl rfl rfl (jD s' ⟨#[41]⟩ (by decide) (by rw[mF];omega)) ?_;rintro o n' cs' r ⟨s9,rfl,rfl,ho,hs9,rfl⟩;cases ho;conv=>whnf
   refine⟨6,?_⟩;conv=>whnf
   exact⟨_,rfl,rfl,rfl,by rw[yQ hlv,hs9,hs',hs1,yL],rfl⟩
  ·refine oZ jH jY 1 Tryz.func54 rfl ?_;intro _;conv=>whnf
   rw[j8 hlv];conv=>whnf
   (refine yI [] hd ?_;rintro r rfl;conv=>whnf)
   refine kB 0 0 2 [1] ((jD s x hne (by omega)).r) ?_;rintro o n' cs' r ⟨s',rfl,rfl,ho,hs',rfl⟩;cases ho;conv=>whnf
   refine⟨2,?_⟩;conv=>whnf
   exact⟨_,rfl,rfl,rfl,by rw[vT hlv,hs'],rfl⟩
 ·rw[show decide ((1:Nat)=1)=true from rfl] at hd;clear e2;generalize tfB ((1:Nat):Int)=x at *
  by_cases hlv:8<lv
  ·refine wM (jF jH jY 1) Tryz.func54 rfl (by kernel_rfl) rfl ?_;intro _;conv=>whnf
   refine jE (jF jH jY 1) (dr:=[]) ⟨0,rfl⟩ (.inl rfl) (by kernel_rfl) (fun _ _ h=>h.elim) ?_;conv=>whnf
   refine jE (jF jH jY 1) (dr:=[]) ⟨0,rfl⟩ (.inl rfl) (by kernel_rfl) (fun _ _ h=>h.elim) ?_;conv=>whnf
   refine jE (jF jH jY 1) (dr:=[]) ⟨0,rfl⟩ (.inl rfl) (by kernel_rfl) (fun _ _ h=>h.elim) ?_;conv=>whnf
   refine vR ?_;refine jE (jF jH jY 1) (dr:=[]) ⟨0,rfl⟩ (.inl rfl) (by kernel_rfl) (fun _ _ h=>h.elim) ?_;conv=>whnf
   refine yO (congrArg (fun b=>A.v (.bool b)) (qH hlv)) ?_;refine jE (jF jH jY 1) (dr:=[]) ⟨0,rfl⟩ (.inl rfl) (by kernel_rfl) (fun _ _ h=>h.elim) ?_;conv=>whnf
   refine kB 0 0 2 [1] ((jD s ⟨#[40]⟩ (by decide) (by rw[mF];omega)).r) ?_;rintro o n' cs' r ⟨s1,rfl,rfl,ho,hs1,rfl⟩;cases ho;conv=>whnf
   refine kS (l:=[_,_]) [3] (jF jH jY 1) ⟨0,rfl⟩ (fun _ _ h=>h.elim) rfl rfl rfl ?_;conv=>whnf
   refine wW (jF jH jY 1) ⟨1,rfl⟩ (.inl rfl) (by kernel_rfl) (fun _ _ h=>h.elim) ?_;conv=>whnf
   have hz1:s1.size<=s.size+2:=by
    have:=jB s ⟨#[40]⟩
    rw[mF] at this;rw[hs1];omega
   (refine yI [] hd ?_;rintro r rfl;conv=>whnf)
   refine kB 0 2 5 [4] ((jD s1 x hne (by omega)).r) ?_;rintro o n' cs' r ⟨s',rfl,rfl,ho,hs',rfl⟩;cases ho;conv=>whnf
   have hz':=jB s1 x
   rw[<- hs'] at hz';refine⟨.inl rfl,?_⟩;unfold yF;refine iE 0 5 6 [] rfl rfl rfl rfl rfl (jD s' ⟨#[41]⟩ (by decide) (by rw[mF];omega)) ?_;rintro o n' cs' r ⟨s9,rfl,rfl,ho,hs9,rfl⟩;cases ho;conv=>whnf
   refine⟨6,?_⟩;conv=>whnf
   exact⟨_,rfl,rfl,rfl,by rw[yQ hlv,hs9,hs',hs1,yL],rfl⟩
  ·refine oZ jH jY 1 Tryz.func54 rfl ?_;intro _;conv=>whnf
   rw[j8 hlv];conv=>whnf
   (refine yI [] hd ?_;rintro r rfl;conv=>whnf)
   refine kB 0 0 2 [1] ((jD s x hne (by omega)).r) ?_;rintro o n' cs' r ⟨s',rfl,rfl,ho,hs',rfl⟩;cases ho;conv=>whnf
   refine⟨2,?_⟩;conv=>whnf
   exact⟨_,rfl,rfl,rfl,by rw[vT hlv,hs'],rfl⟩
theorem jpI (m:Nat) (hm:m<=1000000) (f:Nt) (hf:PX m f):PX (m+20) (.mk 16 0 eB [f]):=by
 have e:∀ lv,zK false (.mk 16 0 eB [f]) lv=aK 8 lv false (qM [wDraw,pLp,zK false f 1,pRp]):=fun _=>rfl
 have hy:=hf.2.1 1
 have hyz:=(hf.1 1 (by decide) (by decide)).1
 have hall:∀ x ∈ [wDraw,pLp,zK false f 1,pRp],0<x.size:=by
  intro x hx;simp only[List.mem_cons,List.not_mem_nil,or_false] at hx
  rcases hx with rfl | rfl | rfl | rfl
  ·decide
  ·decide
  ·exact hy
  ·decide
 have hpf:=fun s=>zW s 4 [wDraw,pLp,zK false f 1,pRp] rfl hall
 refine⟨jni false m hm f hf.1,fun lv=>by rw[e];exact bN (z6 (wO _ (by simp) hall)),fun s lv h0 h9 hs => ?_⟩;rw[e];generalize hal:qM [wDraw,pLp,zK false f 1,pRp]=x at *
 have w1:wDraw.size=4:=rfl
 have w2:pLp.size=1:=rfl
 have w3:pRp.size=1:=rfl
 have hr:=joj f
 have hx:=fun s lv h0 h9 hs=>hf.2.2 s lv h0 h9 hs
 generalize hyy:zK false f 1=y at *
 have hx1:=fun s hs=>hx s 1 (by decide) (by decide) hs
 rw[hyy] at hx1
 by_cases hlv:8<lv
 ·refine wM (jF jH jY 1) Tryz.func54 rfl (by kernel_rfl) rfl ?_;intro _;conv=>whnf
  refine jE (jF jH jY 1) (dr:=[]) ⟨0,rfl⟩ (.inl rfl) (by kernel_rfl) (fun _ _ h=>h.elim) ?_;conv=>whnf
  refine jE (jF jH jY 1) (dr:=[]) ⟨0,rfl⟩ (.inl rfl) (by kernel_rfl) (fun _ _ h=>h.elim) ?_;conv=>whnf
  refine jE (jF jH jY 1) (dr:=[]) ⟨0,rfl⟩ (.inl rfl) (by kernel_rfl) (fun _ _ h=>h.elim) ?_;conv=>whnf
  refine vR ?_;refine jE (jF jH jY 1) (dr:=[]) ⟨0,rfl⟩ (.inl rfl) (by kernel_rfl) (fun _ _ h=>h.elim) ?_;conv=>whnf
  refine yO (congrArg (fun b=>A.v (.bool b)) (qH hlv)) ?_;refine jE (jF jH jY 1) (dr:=[]) ⟨0,rfl⟩ (.inl rfl) (by kernel_rfl) (fun _ _ h=>h.elim) ?_;conv=>whnf
  refine kB 0 0 2 [1] ((jD s ⟨#[40]⟩ (by decide) (by rw[mF];omega)).r) ?_;rintro o n' cs' r ⟨s1,rfl,rfl,ho,hs1,rfl⟩;cases ho;conv=>whnf
  refine kS (l:=[_,_]) [3] (jF jH jY 1) ⟨0,rfl⟩ (fun _ _ h=>h.elim) rfl rfl rfl ?_;conv=>whnf
  refine wW (jF jH jY 1) ⟨1,rfl⟩ (.inl rfl) (by kernel_rfl) (fun _ _ h=>h.elim) ?_;conv=>whnf
  have hz1:s1.size<=s.size+2:=by
   have:=jB s ⟨#[40]⟩
   rw[mF] at this;rw[hs1];omega
  refine kB 0 2 5 [4] ((yB s1 wDraw pLp (by decide) (by decide) (by omega)).r) ?_;rintro o n' cs' r ⟨s',rfl,rfl,ho,hs',rfl⟩;cases ho;conv=>whnf
  have hz2:s'.size<=s1.size+7:=by
   have g1:=jB s1 wDraw
   have g2:=jB (jA s1 wDraw) pLp
   rw[<- hs'] at g2;omega
  have hs2:=hs'
  clear hs';generalize s'=s2 at *;refine⟨by simp[Nt.kids],?_⟩;conv=>whnf
  (generalize hrq:jM _ _ (qG (Nt.mk 16 0 eB [f]).kids)=rq;obtain rfl:rq=ntA f:=hrq.symm.trans (hr);clear hrq;conv=>whnf)
  refine kB 0 5 6 [] ((hx1 s2 (by omega))) ?_;rintro o n' cs' r ⟨s',rfl,rfl,ho,hs',rfl⟩;cases ho;conv=>whnf
  have hz3:=jB s2 y
  rw[<- hs'] at hz3
  have hs3:=hs'
  clear hs';generalize s'=s3 at *;refine kB 0 6 8 [7] ((jD s3 pRp (by decide) (by omega)).r) ?_;rintro o n' cs' r ⟨s',rfl,rfl,ho,hs',rfl⟩;cases ho;conv=>whnf
  have hz4:=jB s3 pRp
  rw[<- hs'] at hz4;refine⟨.inl rfl,?_⟩;unfold yF;refine iE 0 8 9 [] rfl rfl rfl rfl rfl (jD s' ⟨#[41]⟩ (by decide) (by rw[mF];omega)) ?_;rintro o n' cs' r ⟨s9,rfl,rfl,ho,hs9,rfl⟩;cases ho;conv=>whnf
  refine⟨9,?_⟩;conv=>whnf
  refine⟨_,rfl,rfl,rfl,?_,rfl⟩
  have:=hpf s1
  rw[yQ hlv,hs9,hs',hs3,hs2,<- yL,<- hs1,<- this];rfl
 ·refine oZ jH jY 1 Tryz.func54 rfl ?_;intro _;conv=>whnf
  rw[j8 hlv];conv=>whnf
  refine kB 0 0 2 [1] ((yB s wDraw pLp (by decide) (by decide) (by omega)).r) ?_;rintro o n' cs' r ⟨s',rfl,rfl,ho,hs',rfl⟩;cases ho;conv=>whnf
  have hz2:s'.size<=s.size+7:=by
   have g1:=jB s wDraw
   have g2:=jB (jA s wDraw) pLp
   rw[<- hs'] at g2;omega
  have hs2:=hs'
  clear hs';generalize s'=s2 at *;refine⟨by simp[Nt.kids],?_⟩;conv=>whnf
  (generalize hrq:jM _ _ (qG (Nt.mk 16 0 eB [f]).kids)=rq;obtain rfl:rq=ntA f:=hrq.symm.trans (hr);clear hrq;conv=>whnf)
  refine kB 0 2 3 [] ((hx1 s2 (by omega))) ?_;rintro o n' cs' r ⟨s',rfl,rfl,ho,hs',rfl⟩;cases ho;conv=>whnf
  have hz3:=jB s2 y
  rw[<- hs'] at hz3
  have hs3:=hs'
  clear hs';generalize s'=s3 at *;refine kB 0 3 5 [4] ((jD s3 pRp (by decide) (by omega)).r) ?_;rintro o n' cs' r ⟨s',rfl,rfl,ho,hs',rfl⟩;cases ho;conv=>whnf
  refine⟨5,?_⟩;conv=>whnf
  refine⟨_,rfl,rfl,rfl,?_,rfl⟩
  have:=hpf s
  rw[vT hlv,hs',hs3,hs2,<- this];rfl
theorem jpK (m:Nat) (hm:m<=1000000) (s0:ByteArray) (hne:0<s0.size) (hs0:s0.size<=2) (f:Nt) (hf:PX m f):PX (m+20) (.mk 17 0 s0 [f]):=by
 have hp9:=fP 17 s0
 have e:∀ lv,zK false (.mk 17 0 s0 [f]) lv=aK (jL 17 s0) lv false (qM [s0,zK false f (jL 17 s0)]):=fun _=>rfl
 have hp:jL 17 s0=if s0=zH then 3 else 7:=by unfold jL;rw[if_pos rfl]
 have hsh:=jnl false m hm s0 hs0 f hf.1
 generalize jL 17 s0=p at *
 have hy:=hf.2.1 p
 have hyz:=(hf.1 p (by omega) (by omega)).1
 have hall:∀ x ∈ [s0,zK false f p],0<x.size:=by
  intro x hx;simp only[List.mem_cons,List.not_mem_nil,or_false] at hx
  rcases hx with rfl | rfl
  ·exact hne
  ·exact hy
 have hpf:=fun s=>zW s 2 [s0,zK false f p] rfl hall
 refine⟨hsh,fun lv=>by rw[e];exact bN (z6 (wO _ (by simp) hall)),fun s lv h0 h9 hs => ?_⟩;rw[e];generalize hal:qM [s0,zK false f p]=x at *
 have hr:=joj f
 have hx1:=fun s hs=>hf.2.2 s p (by omega) (by omega) hs
 generalize hyy:zK false f p=y at *
 by_cases hn:s0=zH
 ·rw[if_pos hn] at hp;subst hp
  by_cases hlv:3<lv
  ·refine wM (jF jH jY 1) Tryz.func54 rfl (by kernel_rfl) rfl ?_;intro _;conv=>whnf
   refine jE (jF jH jY 1) (dr:=[]) ⟨0,rfl⟩ (.inl rfl) (by kernel_rfl) (fun _ _ h=>h.elim) ?_;conv=>whnf
   refine jE (jF jH jY 1) (dr:=[]) ⟨0,rfl⟩ (.inl rfl) (by kernel_rfl) (fun _ _ h=>h.elim) ?_;conv=>whnf
   refine jE (jF jH jY 1) (dr:=[]) ⟨0,rfl⟩ (.inl rfl) (by kernel_rfl) (fun _ _ h=>h.elim) ?_;conv=>whnf
   rw[qH (p:=(Nt.mk 17 0 s0 [f]).s = ⟨_⟩) hn];conv=>whnf
   refine vR ?_;refine jE (jF jH jY 1) (dr:=[]) ⟨0,rfl⟩ (.inl rfl) (by kernel_rfl) (fun _ _ h=>h.elim) ?_;conv=>whnf
   refine yO (congrArg (fun b=>A.v (.bool b)) (qH hlv)) ?_;refine jE (jF jH jY 1) (dr:=[]) ⟨0,rfl⟩ (.inl rfl) (by kernel_rfl) (fun _ _ h=>h.elim) ?_;conv=>whnf
   refine kB 0 0 2 [1] ((jD s ⟨#[40]⟩ (by decide) (by rw[mF];omega)).r) ?_;rintro o n' cs' r ⟨s1,rfl,rfl,ho,hs1,rfl⟩;cases ho;conv=>whnf
   refine kS (l:=[_,_]) [3] (jF jH jY 1) ⟨0,rfl⟩ (fun _ _ h=>h.elim) rfl rfl rfl ?_;conv=>whnf
   refine wW (jF jH jY 1) ⟨1,rfl⟩ (.inl rfl) (by kernel_rfl) (fun _ _ h=>h.elim) ?_;conv=>whnf
   have hz1:s1.size<=s.size+2:=by
    have:=jB s ⟨#[40]⟩
    rw[mF] at this;rw[hs1];omega
   refine kB 0 2 5 [4] ((jD s1 s0 hne (by omega)).r) ?_;rintro o n' cs' r ⟨s',rfl,rfl,ho,hs',rfl⟩;cases ho;conv=>whnf
   have hz2:=jB s1 s0
   rw[<- hs'] at hz2
   have hs2:=hs'
   clear hs';generalize s'=s2 at *;refine⟨by simp[Nt.kids],?_⟩;conv=>whnf
   (generalize hrq:jM _ _ (qG (Nt.mk 17 0 s0 [f]).kids)=rq;obtain rfl:rq=ntA f:=hrq.symm.trans (hr);clear hrq;conv=>whnf)
   refine kB 0 5 6 [] ((hx1 s2 (by omega))) ?_;rintro o n' cs' r ⟨s',rfl,rfl,ho,hs',rfl⟩;cases ho;conv=>whnf
   have hz3:=jB s2 y
   rw[<- hs'] at hz3;refine⟨.inl rfl,?_⟩;unfold yF;refine iE 0 6 7 [] rfl rfl rfl rfl rfl (jD s' ⟨#[41]⟩ (by decide) (by rw[mF];omega)) ?_;rintro o n' cs' r ⟨s9,rfl,rfl,ho,hs9,rfl⟩;cases ho;conv=>whnf
   refine⟨7,?_⟩;conv=>whnf
   refine⟨_,rfl,rfl,rfl,?_,rfl⟩
   have:=hpf s1
   rw[yQ hlv,hs9,hs',hs2,<- yL,<- hs1,<- this];rfl
  ·refine oZ jH jY 1 Tryz.func54 rfl ?_;intro _;conv=>whnf
   rw[qH (p:=(Nt.mk 17 0 s0 [f]).s = ⟨_⟩) hn];conv=>whnf
   rw[j8 hlv];conv=>whnf
   refine kB 0 0 2 [1] ((jD s s0 hne (by omega)).r) ?_;rintro o n' cs' r ⟨s',rfl,rfl,ho,hs',rfl⟩;cases ho;conv=>whnf
   have hz2:=jB s s0
   rw[<- hs'] at hz2
   have hs2:=hs'
   clear hs';generalize s'=s2 at *;refine⟨by simp[Nt.kids],?_⟩;conv=>whnf
   (generalize hrq:jM _ _ (qG (Nt.mk 17 0 s0 [f]).kids)=rq;obtain rfl:rq=ntA f:=hrq.symm.trans (hr);clear hrq;conv=>whnf)
   refine kB 0 2 3 [] ((hx1 s2 (by omega))) ?_;rintro o n' cs' r ⟨s',rfl,rfl,ho,hs',rfl⟩;cases ho;conv=>whnf
   refine⟨3,?_⟩;conv=>whnf
   refine⟨_,rfl,rfl,rfl,?_,rfl⟩
   have:=hpf s
   rw[vT hlv,hs',hs2,<- this];rfl
 ·rw[if_neg hn] at hp;subst hp
  by_cases hlv:7<lv
  ·refine wM (jF jH jY 1) Tryz.func54 rfl (by kernel_rfl) rfl ?_;intro _;conv=>whnf
   refine jE (jF jH jY 1) (dr:=[]) ⟨0,rfl⟩ (.inl rfl) (by kernel_rfl) (fun _ _ h=>h.elim) ?_;conv=>whnf
   refine jE (jF jH jY 1) (dr:=[]) ⟨0,rfl⟩ (.inl rfl) (by kernel_rfl) (fun _ _ h=>h.elim) ?_;conv=>whnf
   refine jE (jF jH jY 1) (dr:=[]) ⟨0,rfl⟩ (.inl rfl) (by kernel_rfl) (fun _ _ h=>h.elim) ?_;conv=>whnf
   rw[j8 (p:=(Nt.mk 17 0 s0 [f]).s = ⟨_⟩) hn];conv=>whnf
   refine vR ?_;refine jE (jF jH jY 1) (dr:=[]) ⟨0,rfl⟩ (.inl rfl) (by kernel_rfl) (fun _ _ h=>h.elim) ?_;conv=>whnf
   refine yO (congrArg (fun b=>A.v (.bool b)) (qH hlv)) ?_;refine jE (jF jH jY 1) (dr:=[]) ⟨0,rfl⟩ (.inl rfl) (by kernel_rfl) (fun _ _ h=>h.elim) ?_;conv=>whnf
   refine kB 0 0 2 [1] ((jD s ⟨#[40]⟩ (by decide) (by rw[mF];omega)).r) ?_;rintro o n' cs' r ⟨s1,rfl,rfl,ho,hs1,rfl⟩;cases ho;conv=>whnf
   refine kS (l:=[_,_]) [3] (jF jH jY 1) ⟨0,rfl⟩ (fun _ _ h=>h.elim) rfl rfl rfl ?_;conv=>whnf
   refine wW (jF jH jY 1) ⟨1,rfl⟩ (.inl rfl) (by kernel_rfl) (fun _ _ h=>h.elim) ?_;conv=>whnf
   have hz1:s1.size<=s.size+2:=by
    have:=jB s ⟨#[40]⟩
    rw[mF] at this;rw[hs1];omega
   refine kB 0 2 5 [4] ((jD s1 s0 hne (by omega)).r) ?_;rintro o n' cs' r ⟨s',rfl,rfl,ho,hs',rfl⟩;cases ho;conv=>whnf
   have hz2:=jB s1 s0
   rw[<- hs'] at hz2
   have hs2:=hs'
   clear hs';generalize s'=s2 at *;refine⟨by simp[Nt.kids],?_⟩;conv=>whnf
   (generalize hrq:jM _ _ (qG (Nt.mk 17 0 s0 [f]).kids)=rq;obtain rfl:rq=ntA f:=hrq.symm.trans (hr);clear hrq;conv=>whnf)
   refine kB 0 5 6 [] ((hx1 s2 (by omega))) ?_;rintro o n' cs' r ⟨s',rfl,rfl,ho,hs',rfl⟩;cases ho;conv=>whnf
   have hz3:=jB s2 y
   rw[<- hs'] at hz3;refine⟨.inl rfl,?_⟩;unfold yF;refine iE 0 6 7 [] rfl rfl rfl rfl rfl (jD s' ⟨#[41]⟩ (by decide) (by rw[mF];omega)) ?_;rintro o n' cs' r ⟨s9,rfl,rfl,ho,hs9,rfl⟩;cases ho;conv=>whnf
   refine⟨7,?_⟩;conv=>whnf
   refine⟨_,rfl,rfl,rfl,?_,rfl⟩
   have:=hpf s1
   rw[yQ hlv,hs9,hs',hs2,<- yL,<- hs1,<- this];rfl
  ·refine oZ jH jY 1 Tryz.func54 rfl ?_;intro _;conv=>whnf
   rw[j8 (p:=(Nt.mk 17 0 s0 [f]).s = ⟨_⟩) hn];conv=>whnf
   rw[j8 hlv];conv=>whnf
   refine kB 0 0 2 [1] ((jD s s0 hne (by omega)).r) ?_;rintro o n' cs' r ⟨s',rfl,rfl,ho,hs',rfl⟩;cases ho;conv=>whnf
   have hz2:=jB s s0
   rw[<- hs'] at hz2
   have hs2:=hs'
   clear hs';generalize s'=s2 at *;refine⟨by simp[Nt.kids],?_⟩;conv=>whnf
   (generalize hrq:jM _ _ (qG (Nt.mk 17 0 s0 [f]).kids)=rq;obtain rfl:rq=ntA f:=hrq.symm.trans (hr);clear hrq;conv=>whnf)
   refine kB 0 2 3 [] ((hx1 s2 (by omega))) ?_;rintro o n' cs' r ⟨s',rfl,rfl,ho,hs',rfl⟩;cases ho;conv=>whnf
   refine⟨3,?_⟩;conv=>whnf
   refine⟨_,rfl,rfl,rfl,?_,rfl⟩
   have:=hpf s
   rw[vT hlv,hs',hs2,<- this];rfl
theorem jpH (m:Nat) (hm:m<=1000000) (s0:ByteArray) (hne:0<s0.size) (hs0:s0.size<=2) (f g:Nt) (hf:PX m f) (hg:PX m g):PX (2*m+20) (.mk 18 0 s0 [f,g]):=by
 have hp9:=fP 18 s0
 have hp8:jL 18 s0<=7:=by
  unfold jL
  repeat' split
  all_goals first | decide | (rename_i h1 h2;exact absurd h2 (by decide)) | contradiction
 have e:∀ lv,zK false (.mk 18 0 s0 [f,g]) lv=aK (jL 18 s0) lv false (qM [zK false f (if jL 18 s0=4 then 5 else jL 18 s0),s0,zK false g (jL 18 s0+1)]):=fun _=>rfl
 have hop:=jkJ s0
 have hpe:opP s0=jL 18 s0:=(jkW 0 s0 []).symm
 rw[hpe] at hop;clear hpe
 have hsh:=jnh false m hm s0 hs0 f g hf.1 hg.1
 generalize jL 18 s0=p at *
 obtain⟨q,hq⟩ : ∃ q:Int,(if p=4 then 5 else p)=q:=⟨_,rfl⟩
 rw[hq] at e
 have hqr:0<=q/\q<=9:=by split at hq <;> omega
 have hyz:=(hf.1 q (by omega) (by omega)).1
 have hyz2:=(hg.1 (p+1) (by omega) (by omega)).1
 have hall:∀ x ∈ [zK false f q,s0,zK false g (p+1)],0<x.size:=by
  intro x hx;simp only[List.mem_cons,List.not_mem_nil,or_false] at hx
  rcases hx with rfl | rfl | rfl
  ·exact hf.2.1 q
  ·exact hne
  ·exact hg.2.1 (p+1)
 have hpf:=fun s=>zW s 3 [zK false f q,s0,zK false g (p+1)] rfl hall
 refine⟨hsh,fun lv=>by rw[e];exact bN (z6 (wO _ (by simp) hall)),fun s lv h0 h9 hs => ?_⟩;rw[e];generalize hal:qM [zK false f q,s0,zK false g (p+1)]=x at *
 have hr:=jlc f g
 have hr2:=jld f g
 have hx1:=fun s hs=>hf.2.2 s q (by omega) (by omega) hs
 have hx2:=fun s hs=>hg.2.2 s (p+1) (by omega) (by omega) hs
 generalize hyy:zK false f q=y at *;generalize hyy2:zK false g (p+1)=y2 at *;clear hsh hall hal e
 by_cases h4:p=4
 ·rw[if_pos h4] at hq;subst hq
  by_cases hlv:p<lv
  ·refine wM (jF jH jY 1) Tryz.func54 rfl (by kernel_rfl) rfl ?_;intro _;conv=>whnf
   refine jE (jF jH jY 1) (dr:=[]) ⟨0,rfl⟩ (.inl rfl) (by kernel_rfl) (fun _ _ h=>h.elim) ?_;conv=>whnf
   refine jE (jF jH jY 1) (dr:=[]) ⟨0,rfl⟩ (.inl rfl) (by kernel_rfl) (fun _ _ h=>h.elim) ?_;conv=>whnf
   refine jE (jF jH jY 1) (dr:=[]) ⟨0,rfl⟩ (.inl rfl) (by kernel_rfl) (fun _ _ h=>h.elim) ?_;conv=>whnf
   (refine yI [] hop ?_;rintro r rfl;conv=>whnf)
   conv=>whnf
   refine vR ?_;refine jE (jF jH jY 1) (dr:=[]) ⟨0,rfl⟩ (.inl rfl) (by kernel_rfl) (fun _ _ h=>h.elim) ?_;conv=>whnf
   refine yO (congrArg (fun b=>A.v (.bool b)) (qH hlv)) ?_;refine jE (jF jH jY 1) (dr:=[]) ⟨0,rfl⟩ (.inl rfl) (by kernel_rfl) (fun _ _ h=>h.elim) ?_;conv=>whnf
   refine kB 0 0 2 [1] ((jD s ⟨#[40]⟩ (by decide) (by rw[mF];omega)).r) ?_;rintro o n' cs' r ⟨s1,rfl,rfl,ho,hs1,rfl⟩;cases ho;conv=>whnf
   refine kS (l:=[_,_]) [3] (jF jH jY 1) ⟨0,rfl⟩ (fun _ _ h=>h.elim) rfl rfl rfl ?_;conv=>whnf
   refine wW (jF jH jY 1) ⟨1,rfl⟩ (.inl rfl) (by kernel_rfl) (fun _ _ h=>h.elim) ?_;conv=>whnf
   have hz1:s1.size<=s.size+2:=by
    have:=jB s ⟨#[40]⟩
    rw[mF] at this;rw[hs1];omega
   rw[qH h4];conv=>whnf
   refine⟨by simp[Nt.kids],?_⟩;conv=>whnf
   (generalize hrq:jM _ _ (qG (Nt.mk 18 0 s0 [f,g]).kids)=rq;obtain rfl:rq=ntA f:=hrq.symm.trans (hr);clear hrq;conv=>whnf)
   refine kB 0 2 4 [] ((hx1 s1 (by omega))) ?_;rintro o n' cs' r ⟨s',rfl,rfl,ho,hs',rfl⟩;cases ho;conv=>whnf
   have hz2:=jB s1 y
   rw[<- hs'] at hz2
   have hs2:=hs'
   clear hs';generalize s'=s2 at *;refine kB 0 4 6 [5] ((jD s2 s0 hne (by omega)).r) ?_;rintro o n' cs' r ⟨s',rfl,rfl,ho,hs',rfl⟩;cases ho;conv=>whnf
   have hz3:=jB s2 s0
   rw[<- hs'] at hz3
   have hs3:=hs'
   clear hs';generalize s'=s3 at *;refine⟨by simp[Nt.kids],?_⟩;conv=>whnf
   (generalize hrq:jM _ _ (qG (Nt.mk 18 0 s0 [f,g]).kids)=rq;obtain rfl:rq=ntA g:=hrq.symm.trans (hr2);clear hrq;conv=>whnf)
   refine⟨jS (by omega),?_⟩;conv=>whnf
   refine kB 0 6 7 [] ((hx2 s3 (by omega))) ?_;rintro o n' cs' r ⟨s',rfl,rfl,ho,hs',rfl⟩;cases ho;conv=>whnf
   have hz4:=jB s3 y2
   rw[<- hs'] at hz4;refine⟨.inl rfl,?_⟩;unfold yF;refine iE 0 7 8 [] rfl rfl rfl rfl rfl (jD s' ⟨#[41]⟩ (by decide) (by rw[mF];omega)) ?_;rintro o n' cs' r ⟨s9,rfl,rfl,ho,hs9,rfl⟩;cases ho;conv=>whnf
   refine⟨8,?_⟩;conv=>whnf
   refine⟨_,rfl,rfl,rfl,?_,rfl⟩
   have:=hpf s1
   rw[yQ hlv,hs9,hs',hs3,hs2,<- yL,<- hs1,<- this];rfl
  ·refine oZ jH jY 1 Tryz.func54 rfl ?_;intro _;conv=>whnf
   (refine yI [] hop ?_;rintro r rfl;conv=>whnf)
   conv=>whnf
   rw[j8 hlv];conv=>whnf
   rw[qH h4];conv=>whnf
   refine⟨by simp[Nt.kids],?_⟩;conv=>whnf
   (generalize hrq:jM _ _ (qG (Nt.mk 18 0 s0 [f,g]).kids)=rq;obtain rfl:rq=ntA f:=hrq.symm.trans (hr);clear hrq;conv=>whnf)
   refine kB 0 0 1 [] ((hx1 s (by omega))) ?_;rintro o n' cs' r ⟨s',rfl,rfl,ho,hs',rfl⟩;cases ho;conv=>whnf
   have hz2:=jB s y
   rw[<- hs'] at hz2
   have hs2:=hs'
   clear hs';generalize s'=s2 at *;refine kB 0 1 3 [2] ((jD s2 s0 hne (by omega)).r) ?_;rintro o n' cs' r ⟨s',rfl,rfl,ho,hs',rfl⟩;cases ho;conv=>whnf
   have hz3:=jB s2 s0
   rw[<- hs'] at hz3
   have hs3:=hs'
   clear hs';generalize s'=s3 at *;refine⟨by simp[Nt.kids],?_⟩;conv=>whnf
   (generalize hrq:jM _ _ (qG (Nt.mk 18 0 s0 [f,g]).kids)=rq;obtain rfl:rq=ntA g:=hrq.symm.trans (hr2);clear hrq;conv=>whnf)
   refine⟨jS (by omega),?_⟩;conv=>whnf
   refine kB 0 3 4 [] ((hx2 s3 (by omega))) ?_;rintro o n' cs' r ⟨s',rfl,rfl,ho,hs',rfl⟩;cases ho;conv=>whnf
   refine⟨4,?_⟩;conv=>whnf
   refine⟨_,rfl,rfl,rfl,?_,rfl⟩
   have:=hpf s
   rw[vT hlv,hs',hs3,hs2,<- this];rfl
 ·rw[if_neg h4] at hq;subst hq
  by_cases hlv:p<lv
  ·refine wM (jF jH jY 1) Tryz.func54 rfl (by kernel_rfl) rfl ?_;intro _;conv=>whnf
   refine jE (jF jH jY 1) (dr:=[]) ⟨0,rfl⟩ (.inl rfl) (by kernel_rfl) (fun _ _ h=>h.elim) ?_;conv=>whnf
   refine jE (jF jH jY 1) (dr:=[]) ⟨0,rfl⟩ (.inl rfl) (by kernel_rfl) (fun _ _ h=>h.elim) ?_;conv=>whnf
   refine jE (jF jH jY 1) (dr:=[]) ⟨0,rfl⟩ (.inl rfl) (by kernel_rfl) (fun _ _ h=>h.elim) ?_;conv=>whnf
   (refine yI [] hop ?_;rintro r rfl;conv=>whnf)
   conv=>whnf
   refine vR ?_;refine jE (jF jH jY 1) (dr:=[]) ⟨0,rfl⟩ (.inl rfl) (by kernel_rfl) (fun _ _ h=>h.elim) ?_;conv=>whnf
   refine yO (congrArg (fun b=>A.v (.bool b)) (qH hlv)) ?_;refine jE (jF jH jY 1) (dr:=[]) ⟨0,rfl⟩ (.inl rfl) (by kernel_rfl) (fun _ _ h=>h.elim) ?_;conv=>whnf
   refine kB 0 0 2 [1] ((jD s ⟨#[40]⟩ (by decide) (by rw[mF];omega)).r) ?_;rintro o n' cs' r ⟨s1,rfl,rfl,ho,hs1,rfl⟩;cases ho;conv=>whnf
   refine kS (l:=[_,_]) [3] (jF jH jY 1) ⟨0,rfl⟩ (fun _ _ h=>h.elim) rfl rfl rfl ?_;conv=>whnf
   refine wW (jF jH jY 1) ⟨1,rfl⟩ (.inl rfl) (by kernel_rfl) (fun _ _ h=>h.elim) ?_;conv=>whnf
   have hz1:s1.size<=s.size+2:=by
    have:=jB s ⟨#[40]⟩
    rw[mF] at this;rw[hs1];omega
   rw[j8 h4];conv=>whnf
   refine⟨by simp[Nt.kids],?_⟩;conv=>whnf
   (generalize hrq:jM _ _ (qG (Nt.mk 18 0 s0 [f,g]).kids)=rq;obtain rfl:rq=ntA f:=hrq.symm.trans (hr);clear hrq;conv=>whnf)
   refine kB 0 2 4 [] ((hx1 s1 (by omega))) ?_;rintro o n' cs' r ⟨s',rfl,rfl,ho,hs',rfl⟩;cases ho;conv=>whnf
   have hz2:=jB s1 y
   rw[<- hs'] at hz2
   have hs2:=hs'
   clear hs';generalize s'=s2 at *;refine kB 0 4 6 [5] ((jD s2 s0 hne (by omega)).r) ?_;rintro o n' cs' r ⟨s',rfl,rfl,ho,hs',rfl⟩;cases ho;conv=>whnf
   have hz3:=jB s2 s0
   rw[<- hs'] at hz3
   have hs3:=hs'
   clear hs';generalize s'=s3 at *;refine⟨by simp[Nt.kids],?_⟩;conv=>whnf
   (generalize hrq:jM _ _ (qG (Nt.mk 18 0 s0 [f,g]).kids)=rq;obtain rfl:rq=ntA g:=hrq.symm.trans (hr2);clear hrq;conv=>whnf)
   refine⟨jS (by omega),?_⟩;conv=>whnf
   refine kB 0 6 7 [] ((hx2 s3 (by omega))) ?_;rintro o n' cs' r ⟨s',rfl,rfl,ho,hs',rfl⟩;cases ho;conv=>whnf
   have hz4:=jB s3 y2
   rw[<- hs'] at hz4;refine⟨.inl rfl,?_⟩;unfold yF;refine iE 0 7 8 [] rfl rfl rfl rfl rfl (jD s' ⟨#[41]⟩ (by decide) (by rw[mF];omega)) ?_;rintro o n' cs' r ⟨s9,rfl,rfl,ho,hs9,rfl⟩;cases ho;conv=>whnf
   refine⟨8,?_⟩;conv=>whnf
   refine⟨_,rfl,rfl,rfl,?_,rfl⟩
   have:=hpf s1
   rw[yQ hlv,hs9,hs',hs3,hs2,<- yL,<- hs1,<- this];rfl
  ·refine oZ jH jY 1 Tryz.func54 rfl ?_;intro _;conv=>whnf
   (refine yI [] hop ?_;rintro r rfl;conv=>whnf)
   conv=>whnf
   rw[j8 hlv];conv=>whnf
   rw[j8 h4];conv=>whnf
   refine⟨by simp[Nt.kids],?_⟩;conv=>whnf
   (generalize hrq:jM _ _ (qG (Nt.mk 18 0 s0 [f,g]).kids)=rq;obtain rfl:rq=ntA f:=hrq.symm.trans (hr);clear hrq;conv=>whnf)
   refine kB 0 0 1 [] ((hx1 s (by omega))) ?_;rintro o n' cs' r ⟨s',rfl,rfl,ho,hs',rfl⟩;cases ho;conv=>whnf
   have hz2:=jB s y
   rw[<- hs'] at hz2
   have hs2:=hs'
   clear hs';generalize s'=s2 at *;refine kB 0 1 3 [2] ((jD s2 s0 hne (by omega)).r) ?_;rintro o n' cs' r ⟨s',rfl,rfl,ho,hs',rfl⟩;cases ho;conv=>whnf
   have hz3:=jB s2 s0
   rw[<- hs'] at hz3
   have hs3:=hs'
   clear hs';generalize s'=s3 at *;refine⟨by simp[Nt.kids],?_⟩;conv=>whnf
   (generalize hrq:jM _ _ (qG (Nt.mk 18 0 s0 [f,g]).kids)=rq;obtain rfl:rq=ntA g:=hrq.symm.trans (hr2);clear hrq;conv=>whnf)
   refine⟨jS (by omega),?_⟩;conv=>whnf
   refine kB 0 3 4 [] ((hx2 s3 (by omega))) ?_;rintro o n' cs' r ⟨s',rfl,rfl,ho,hs',rfl⟩;cases ho;conv=>whnf
   refine⟨4,?_⟩;conv=>whnf
   refine⟨_,rfl,rfl,rfl,?_,rfl⟩
   have:=hpf s
   rw[vT hlv,hs',hs3,hs2,<- this];rfl
theorem jif:∀ s ∈ builtL,0<s.size:=by decide
theorem jjT (l:List ByteArray) (hl:l ≠ []) (h:∀ x ∈ l,0<x.size):cmF l ≠ ⟨#[]⟩ := by
 have e:=List.dropLast_concat_getLast hl
 have hx:=oK (h _ (List.getLast_mem hl))
 generalize l.getLast hl=y at *
 cases hd:l.dropLast with
 | nil =>
  rw[hd] at e;rw[<- e]
  show jA eB y ≠ _
  rw[kF];exact hx
 | cons x m =>
  rw[hd] at e;rw[<- e,mP];exact bB hx
def lsS (s:ByteArray) (l:List ByteArray) (j:Nat):ByteArray:=jA s (cmF (l.take j))
theorem uY (s:ByteArray) (l:List ByteArray):lsS s l 0=s:=by unfold lsS;rw[List.take_zero];exact mW s
theorem jeG (s:ByteArray) (l:List ByteArray) (h:∀ x ∈ l,0<x.size) (j:Nat) (hj:j<l.length):lsS s l (j+1)=jA (if j=0 then lsS s l j else jA (lsS s l j) pComma) l[j]:=by
 by_cases h0:j=0
 ·subst h0;rw[if_pos rfl,uY]
  cases l with
  | nil=>simp at hj
  | cons x m=>show jA s (jA eB x)=_;rw[kF];rfl
 ·rw[if_neg h0]
  have hne:l.take j ≠ []:=by
   intro e
   have:=congrArg List.length e
   rw[List.length_take,List.length_nil] at this;omega
  have hm:∀ x ∈ l.take j,0<x.size:=fun x hx=>h x (List.mem_of_mem_take hx)
  have hc:=jjT _ hne hm
  have e1:cmF (l.take (j+1))=jA (cmF (l.take j)++pComma) l[j]:=by
   rw[List.take_succ_eq_append_getElem hj]
   cases ht:l.take j with
   | nil=>exact absurd ht hne
   | cons x m=>exact mP x m _
  unfold lsS;rw[e1,<- qN s _ _ (mI hc),qN s _ pComma hc,kR _ pComma (by decide)]
theorem jeF (s:ByteArray) (m:Nat) (l:List ByteArray) (hm:∀ x ∈ l,x.size<=m) (hp:∀ x ∈ l,0<x.size):∀ j,j<=l.length->(lsS s l j).size<=s.size+j*(m+3)
 | 0,_=>by rw[uY];omega
 | j+1,h=>by
  have ih:=jeF s m l hm hp j (by omega)
  have hx:=hm _ (List.getElem_mem (show j<l.length by omega))
  rw[jeG s l hp j (by omega),Nat.succ_mul]
  have g1:=jB (lsS s l j) pComma
  have e1:pComma.size=1:=rfl
  have g2:=jB (if j=0 then lsS s l j else jA (lsS s l j) pComma) (l[j]'(by omega))
  by_cases h0:j=0
  ·rw[if_pos h0] at g2 ⊢;omega
  ·rw[if_neg h0] at g2 ⊢;omega
theorem cH (m:Nat) (hm:m<=1000000) (l:List Nt) (hl:l.length<=100) (hf:∀ f ∈ l,PX m f) (s:ByteArray) (hs:s.size<=300000000):p9 53 [[.adr iS,.own 0]] s [.box 0 0,.sl 4 l.length (qG l)] fun o s' r=>o=[[.adr iS,.own 0]]/\s'=jA s (zG false l)/\r = .tup []:=by
 have hpos:∀ x ∈ l.map (fun f=>zK false f 1),0<x.size:=fun x hx=>by
  obtain⟨f,h1,rfl⟩ := List.mem_map.1 hx
  exact (hf f h1).2.1 1
 have hmax:∀ x ∈ l.map (fun f=>zK false f 1),x.size<=m:=fun x hx=>by
  obtain⟨f,h1,rfl⟩ := List.mem_map.1 hx
  exact ((hf f h1).1 1 (by decide) (by decide)).1
 obtain⟨S,hS⟩ : ∃ S:Nat->ByteArray,∀ j,S j=lsS s (l.map fun f=>zK false f 1) j:=⟨_,fun _=>rfl⟩
 have hS0:S 0=s:=by rw[hS];exact uY _ _
 have hSl:jA s (zG false l)=jA (S l.length) pSemi:=by
  rw[hS];unfold lsS zG;rw[show l.length=(l.map fun f=>zK false f 1).length by simp,List.take_length]
  by_cases h0:l=[]
  ·subst h0
   show jA s (eB++pSemi)=jA (jA s eB) pSemi
   rw[mW];rfl
  ·have hc:=jjT (l.map fun f=>zK false f 1) (by simpa using h0) hpos
   rw[qN s _ _ hc,kR _ pSemi (by decide)]
 have hSn:∀ j (h:j<l.length),S (j+1)=jA (if j=0 then S j else jA (S j) pComma) (zK false l[j] 1):=fun j h=>by
  rw[hS,hS,jeG _ _ hpos j (by simpa using h),List.getElem_map]
 have hSz:∀ j,j<=l.length->(S j).size<=s.size+100*1000003:=fun j hj=>by
  rw[hS]
  have:=jeF s m _ hmax hpos j (by simpa using hj)
  have h2:j*(m+3)<=100*1000003:=Nat.mul_le_mul (by omega) (by omega)
  omega
 rw[hSl,<- hS0]
 have hz0:s.size<=300000000:=hs
 refine oZ jH jY 1 Tryz.func53 rfl ?_;intro _;conv=>whnf
 refine jT [0,6,7] ?_;conv=>whnf
 refine zF (fun j:Nat=>[(8,.v (.int .i64 j))]) (fun _=>[[.adr iS,.own 0]]) (fun j=>[.live 5 0 (S j).size [.v (.string (S j))]]) (fun j=>j<=l.length) (fun j=>l.length-j) 0 ?_ (Nat.zero_le _) ?_
 ·repeat' constructor
 rintro j hj;conv=>whnf
 have hz1:=hSz j hj
 by_cases hlt:j<l.length
 ·rw[qH (show (j:Int)<(l.length:Int) by omega)]
  have hrow:=xA l j hlt
  have hSn:=hSn j hlt
  have hg:=hf _ (List.getElem_mem hlt)
  generalize l[j]=g at *
  have hyz:=(hg.1 1 (by decide) (by decide)).1
  have hx:=fun s hs=>hg.2.2 s 1 (by decide) (by decide) hs
  generalize zK false g 1=y at *;conv=>whnf
  refine⟨by omega,?_⟩;conv=>whnf
  (generalize hrq:jM _ _ (qG l)=rq;obtain rfl:rq=ntA g:=hrq.symm.trans (hrow);clear hrq;conv=>whnf)
  by_cases hj0:j=0
  ·subst hj0;rw[if_pos rfl] at hSn;conv=>whnf
   refine kB 0 0 1 [] (hx (S 0) (by omega)) ?_;rintro o n' cs' r ⟨s4,rfl,rfl,ho,hs4,rfl⟩;cases ho;conv=>whnf
   refine⟨jS (by omega),?_⟩;conv=>whnf
   refine⟨0+1,jU [1] ?_,hlt,by omega⟩;conv=>whnf
   rw[hs4,show S (0+1)=_ from hSn]
   repeat' constructor
  ·rw[if_neg hj0] at hSn
   have hz5:=jB (S j) pComma
   have e1:pComma.size=1:=rfl
   conv=>whnf
   rw[qH (show (0:Int)<(j:Int) by omega)];conv=>whnf
   refine kB 0 0 2 [1] ((jD (S j) pComma (by decide) (by omega)).r) ?_;rintro o n' cs' r ⟨s3,rfl,rfl,ho,hs3,rfl⟩;cases ho;conv=>whnf
   refine kB 0 2 3 [] (hx s3 (by rw[hs3];omega)) ?_;rintro o n' cs' r ⟨s4,rfl,rfl,ho,hs4,rfl⟩;cases ho;conv=>whnf
   refine⟨jS (by omega),?_⟩;conv=>whnf
   refine⟨j+1,jU [3] ?_,hlt,by omega⟩;conv=>whnf
   rw[hs4,hs3,show S (j+1)=_ from hSn]
   repeat' constructor
 ·rw[j8 (show ¬ (j:Int)<(l.length:Int) by omega)]
  obtain rfl:j=l.length:=by omega
  have e1:pSemi.size=1:=rfl
  conv=>whnf
  refine kB 0 0 2 [1] ((jD (S l.length) pSemi (by decide) (by omega)).r) ?_;rintro o n' cs' r ⟨s',rfl,rfl,ho,hs',rfl⟩;cases ho;conv=>whnf
  refine⟨2,?_⟩;conv=>whnf
  exact⟨_,rfl,rfl,rfl,hs',rfl⟩
def PT (m:Nat) (f:Nt):Prop:=STz false m f/\0<(aG false f).size /\ ∀ s:ByteArray,s.size+m+100<=250000000->p9 35 [[.adr iS,.own 0]] s [.box 0 0,.agg (ntA f)] fun o s' r=>o=[[.adr iS,.own 0]]/\s'=jA s (aG false f)/\r = .tup []
def PB (m:Nat) (f:Nt):Prop:=BKz false m f/\0<(gO false f).size /\ ∀ s:ByteArray,s.size+m+100<=250000000->p9 16 [[.adr iS,.own 0]] s [.box 0 0,.agg (ntA f)] fun o s' r=>o=[[.adr iS,.own 0]]/\s'=jA s (gO false f)/\r = .tup []
theorem PT.mono {m m':Nat} {f:Nt} (h:PT m f) (hm:m<=m'):PT m' f:=⟨⟨Nat.le_trans h.1.1 hm,h.1.2⟩,h.2.1,fun s hs=>h.2.2 s (by omega)⟩
theorem PB.mono {m m':Nat} {f:Nt} (h:PB m f) (hm:m<=m'):PB m' f:=⟨⟨Nat.le_trans h.1.1 hm,h.1.2⟩,h.2.1,fun s hs=>h.2.2 s (by omega)⟩
theorem jbN (l:List Nt):0<(zG false l).size:=by
 unfold zG;rw[ByteArray.size_append]
 have:pSemi.size=1:=rfl
 omega
theorem jgy (k:Int) (hk:k=1 ∨ k=8 ∨ k=9) (s0:ByteArray) (hs0:s0.size<=12) (hne:k=1->0<s0.size) (m:Nat) (hm:m<=1000000) (l:List Nt) (hl:l.length<=2) (hf:∀ f ∈ l,PX m f):PT (2*m+40) (.mk k 0 s0 l):=by
 have hst:=jnr false k hk s0 hs0 m hm l hl fun f h=>(hf f h).1
 have hlp:=jbN l
 have c1:pEq.size=1:=rfl
 have c2:wReply.size=5:=rfl
 have c3:wFail.size=4:=rfl
 rcases hk with rfl | rfl | rfl
 ·have e:aG false (.mk 1 0 s0 l)=qM [s0,pEq,zG false l]:=rfl
  have hne:=hne rfl
  have hall:∀ x ∈ [s0,pEq,zG false l],0<x.size:=by
   intro x hx;simp only[List.mem_cons,List.not_mem_nil,or_false] at hx
   rcases hx with rfl | rfl | rfl
   ·exact hne
   ·decide
   ·exact hlp
  refine⟨hst,by rw[e];exact z6 (wO _ (by simp) hall),fun s hs => ?_⟩;rw[e];refine oZ jH jY 1 Tryz.func35 rfl ?_;intro _;conv=>whnf
  refine kB 0 0 2 [1] ((yB s s0 pEq hne (by decide) (by omega)).r) ?_;rintro o n' cs' r ⟨s',rfl,rfl,ho,hs',rfl⟩;cases ho;conv=>whnf
  have hz2:s'.size<=s.size+15:=by
   have g1:=jB s s0
   have g2:=jB (jA s s0) pEq
   rw[<- hs'] at g2;omega
  have hs2:=hs'
  clear hs';generalize s'=s2 at *;refine kB 0 2 3 [] ((cH m hm l (by omega) hf s2 (by omega))) ?_;rintro o n' cs' r ⟨s',rfl,rfl,ho,hs',rfl⟩;cases ho;conv=>whnf
  refine⟨3,?_⟩;conv=>whnf
  refine⟨_,rfl,rfl,rfl,?_,rfl⟩;rw[hs',hs2,<- zW s 3 [s0,pEq,zG false l] rfl hall];rfl
 ·have e:aG false (.mk 8 0 s0 l)=qM [wReply,zG false l]:=rfl
  have hall:∀ x ∈ [wReply,zG false l],0<x.size:=by
   intro x hx;simp only[List.mem_cons,List.not_mem_nil,or_false] at hx
   rcases hx with rfl | rfl
   ·decide
   ·exact hlp
  refine⟨hst,by rw[e];exact z6 (wO _ (by simp) hall),fun s hs => ?_⟩;rw[e];refine oZ jH jY 1 Tryz.func35 rfl ?_;intro _;conv=>whnf
  refine kB 0 0 2 [1] ((jD s wReply (by decide) (by omega)).r) ?_;rintro o n' cs' r ⟨s',rfl,rfl,ho,hs',rfl⟩;cases ho;conv=>whnf
  have hz2:=jB s wReply
  rw[<- hs'] at hz2
  have hs2:=hs'
  clear hs';generalize s'=s2 at *;refine kB 0 2 3 [] ((cH m hm l (by omega) hf s2 (by omega))) ?_;rintro o n' cs' r ⟨s',rfl,rfl,ho,hs',rfl⟩;cases ho;conv=>whnf
  refine⟨3,?_⟩;conv=>whnf
  refine⟨_,rfl,rfl,rfl,?_,rfl⟩;rw[hs',hs2,<- zW s 2 [wReply,zG false l] rfl hall];rfl
 ·have e:aG false (.mk 9 0 s0 l)=qM [wFail,zG false l]:=rfl
  have hall:∀ x ∈ [wFail,zG false l],0<x.size:=by
   intro x hx;simp only[List.mem_cons,List.not_mem_nil,or_false] at hx
   rcases hx with rfl | rfl
   ·decide
   ·exact hlp
  refine⟨hst,by rw[e];exact z6 (wO _ (by simp) hall),fun s hs => ?_⟩;rw[e];refine oZ jH jY 1 Tryz.func35 rfl ?_;intro _;conv=>whnf
  refine kB 0 0 2 [1] ((jD s wFail (by decide) (by omega)).r) ?_;rintro o n' cs' r ⟨s',rfl,rfl,ho,hs',rfl⟩;cases ho;conv=>whnf
  have hz2:=jB s wFail
  rw[<- hs'] at hz2
  have hs2:=hs'
  clear hs';generalize s'=s2 at *;refine kB 0 2 3 [] ((cH m hm l (by omega) hf s2 (by omega))) ?_;rintro o n' cs' r ⟨s',rfl,rfl,ho,hs',rfl⟩;cases ho;conv=>whnf
  refine⟨3,?_⟩;conv=>whnf
  refine⟨_,rfl,rfl,rfl,?_,rfl⟩;rw[hs',hs2,<- zW s 2 [wFail,zG false l] rfl hall];rfl
theorem jkZ (k:Int) (hk:k=5 ∨ k=6) (n:Nat) (hn:n<1000):PT 40 (.mk k n eB []):=by
 have hst:=jnq false k hk n hn
 have hdc:=nO n (by omega)
 rw[show ((n:Int)).toNat=n by omega] at hdc
 have hds:=wK n (by omega)
 have hdp:=aX n
 have c1:pSemi.size=1:=rfl
 have c2:wTimer.size=5:=rfl
 have c3:wCancel.size=6:=rfl
 rcases hk with rfl | rfl
 ·have e:aG false (.mk 5 n eB [])=qM [wTimer,bs (qF n),pSemi]:=rfl
  have hall:∀ x ∈ [wTimer,bs (qF n),pSemi],0<x.size:=by
   intro x hx;simp only[List.mem_cons,List.not_mem_nil,or_false] at hx
   rcases hx with rfl | rfl | rfl
   ·decide
   ·exact hdp
   ·decide
  refine⟨hst,by rw[e];exact z6 (wO _ (by simp) hall),fun s hs => ?_⟩;rw[e]
  have hpf:=zW s 3 [wTimer,bs (qF n),pSemi] rfl hall
  generalize bs (qF n)=x at *;refine oZ jH jY 1 Tryz.func35 rfl ?_;intro _;conv=>whnf
  (refine yI [] hdc ?_;rintro r rfl;conv=>whnf)
  refine kB 0 0 2 [1] ((pP s wTimer x pSemi (by decide) hdp (by decide) (by omega)).r) ?_;rintro o n' cs' r ⟨s',rfl,rfl,ho,hs',rfl⟩;cases ho;conv=>whnf
  refine⟨2,?_⟩;conv=>whnf
  refine⟨_,rfl,rfl,rfl,?_,rfl⟩;rw[hs',<- hpf];rfl
 ·have e:aG false (.mk 6 n eB [])=qM [wCancel,bs (qF n),pSemi]:=rfl
  have hall:∀ x ∈ [wCancel,bs (qF n),pSemi],0<x.size:=by
   intro x hx;simp only[List.mem_cons,List.not_mem_nil,or_false] at hx
   rcases hx with rfl | rfl | rfl
   ·decide
   ·exact hdp
   ·decide
  refine⟨hst,by rw[e];exact z6 (wO _ (by simp) hall),fun s hs => ?_⟩;rw[e]
  have hpf:=zW s 3 [wCancel,bs (qF n),pSemi] rfl hall
  generalize bs (qF n)=x at *;refine oZ jH jY 1 Tryz.func35 rfl ?_;intro _;conv=>whnf
  (refine yI [] hdc ?_;rintro r rfl;conv=>whnf)
  refine kB 0 0 2 [1] ((pP s wCancel x pSemi (by decide) hdp (by decide) (by omega)).r) ?_;rintro o n' cs' r ⟨s',rfl,rfl,ho,hs',rfl⟩;cases ho;conv=>whnf
  refine⟨2,?_⟩;conv=>whnf
  refine⟨_,rfl,rfl,rfl,?_,rfl⟩;rw[hs',<- hpf];rfl
theorem jl0 (k:Int) (hk:k=7 ∨ k=10):PT 40 (.mk k 0 eB []):=by
 have hst:=jnu false k hk
 have c1:pSemi.size=1:=rfl
 have c2:(⟨#[115,121,110,99]⟩ : ByteArray).size=4:=rfl
 have c3:(⟨#[115,116,111,112]⟩ : ByteArray).size=4:=rfl
 rcases hk with rfl | rfl
 ·refine⟨hst,show 0<syncB.size by decide,fun s hs => ?_⟩;rw[show aG false (.mk 7 0 eB [])=qM [⟨#[115,121,110,99]⟩,pSemi] by decide]
  have hpf:=zW s 2 [⟨#[115,121,110,99]⟩,pSemi] rfl (by decide)
  refine oZ jH jY 1 Tryz.func35 rfl ?_;intro _;conv=>whnf
  refine kB 0 0 2 [1] ((yB s ⟨#[115,121,110,99]⟩ pSemi (by decide) (by decide) (by omega)).r) ?_;rintro o n' cs' r ⟨s',rfl,rfl,ho,hs',rfl⟩;cases ho;conv=>whnf
  refine⟨2,?_⟩;conv=>whnf
  refine⟨_,rfl,rfl,rfl,?_,rfl⟩;rw[hs'];exact hpf
 ·refine⟨hst,show 0<stopB.size by decide,fun s hs => ?_⟩;rw[show aG false (.mk 10 0 eB [])=qM [⟨#[115,116,111,112]⟩,pSemi] by decide]
  have hpf:=zW s 2 [⟨#[115,116,111,112]⟩,pSemi] rfl (by decide)
  refine oZ jH jY 1 Tryz.func35 rfl ?_;intro _;conv=>whnf
  refine kB 0 0 2 [1] ((yB s ⟨#[115,116,111,112]⟩ pSemi (by decide) (by decide) (by omega)).r) ?_;rintro o n' cs' r ⟨s',rfl,rfl,ho,hs',rfl⟩;cases ho;conv=>whnf
  refine⟨2,?_⟩;conv=>whnf
  refine⟨_,rfl,rfl,rfl,?_,rfl⟩;rw[hs'];exact hpf
theorem jpE (n:Nat) (hn:n<1000) (m:Nat) (hm:m<=1000000) (f g h:Nt) (hf:PX m f) (hg:PX m g) (hh:PX m h):PT (3*m+80) (.mk 4 n eB [f,g,h]):=by
 have hst:=jns false n hn m hm f g h hf.1 hg.1 hh.1
 have hgh:∀ x ∈ [g,h],PX m x:=fun x hx=>by
  simp only[List.mem_cons,List.not_mem_nil,or_false] at hx
  rcases hx with rfl | rfl
  ·exact hg
  ·exact hh
 have hlp:=jbN [g,h]
 have hdc:=nO n (by omega)
 rw[show ((n:Int)).toNat=n by omega] at hdc
 have hds:=wK n (by omega)
 have hdp:=aX n
 have c1:pComma.size=1:=rfl
 have c2:wSend.size=4:=rfl
 have e:aG false (.mk 4 n eB [f,g,h])=qM [wSend,zK false f 1,pComma,bs (qF n),pComma,zG false [g,h]]:=rfl
 have hy:=hf.2.1 1
 have hyz:=(hf.1 1 (by decide) (by decide)).1
 have hall:∀ x ∈ [wSend,zK false f 1,pComma,bs (qF n),pComma,zG false [g,h]],0<x.size:=by
  intro x hx;simp only[List.mem_cons,List.not_mem_nil,or_false] at hx
  rcases hx with rfl | rfl | rfl | rfl | rfl | rfl
  ·decide
  ·exact hy
  ·decide
  ·exact hdp
  ·decide
  ·exact hlp
 refine⟨hst,by rw[e];exact z6 (wO _ (by simp) hall),fun s hs => ?_⟩;rw[e]
 have hpf:=zW s 6 [wSend,zK false f 1,pComma,bs (qF n),pComma,zG false [g,h]] rfl hall
 have hls:=fun s hs=>cH m hm [g,h] (by simp) hgh s hs
 have hx1:=fun s hs=>hf.2.2 s 1 (by decide) (by decide) hs
 rw[<- hpf];clear hpf hall hlp e;generalize zG false [g,h]=x at *;generalize bs (qF n)=d at *;generalize zK false f 1=y at *
 have hr:=(jok f g h).1
 have hdr:((qG [f,g,h]).drop 4).take 8=qG [g,h]:=by
  rw[qQ f [g,h],List.drop_left' (by rfl),List.take_of_length_le (by rw[jkD];simp)]
 rw[<- hdr] at hls;refine oZ jH jY 1 Tryz.func35 rfl ?_;intro _;conv=>whnf
 refine kB 0 0 2 [1] ((jD s wSend (by decide) (by omega)).r) ?_;rintro o n' cs' r ⟨s',rfl,rfl,ho,hs',rfl⟩;cases ho;conv=>whnf
 have hz2:=jB s wSend
 rw[<- hs'] at hz2
 have hs2:=hs'
 clear hs';generalize s'=s2 at *;refine⟨by simp[Nt.kids],?_⟩;conv=>whnf
 (generalize hrq:jM _ _ (qG (Nt.mk 4 n eB [f,g,h]).kids)=rq;obtain rfl:rq=ntA f:=hrq.symm.trans (hr);clear hrq;conv=>whnf)
 refine kB 0 2 3 [] ((hx1 s2 (by omega))) ?_;rintro o n' cs' r ⟨s',rfl,rfl,ho,hs',rfl⟩;cases ho;conv=>whnf
 have hz3:=jB s2 y
 rw[<- hs'] at hz3
 have hs3:=hs'
 clear hs';generalize s'=s3 at *
 (refine yI [] hdc ?_;rintro r rfl;conv=>whnf)
 refine kB 0 3 5 [4] ((pP s3 pComma d pComma (by decide) hdp (by decide) (by omega)).r) ?_;rintro o n' cs' r ⟨s',rfl,rfl,ho,hs',rfl⟩;cases ho;conv=>whnf
 have hz4:s'.size<=s3.size+18:=by
  have g1:=jB s3 pComma
  have g2:=jB (jA s3 pComma) d
  have g3:=jB (jA (jA s3 pComma) d) pComma
  rw[<- hs'] at g3;omega
 have hs4:=hs'
 clear hs';generalize s'=s4 at *;refine⟨by simp[Nt.kids],?_⟩;conv=>whnf
 refine kB 0 5 6 [] ((hls s4 (by omega))) ?_;rintro o n' cs' r ⟨s',rfl,rfl,ho,hs',rfl⟩;cases ho;conv=>whnf
 refine⟨6,?_⟩;conv=>whnf
 refine⟨_,rfl,rfl,rfl,?_,rfl⟩;rw[hs',hs4,hs3,hs2];rfl
theorem jpF (m:Nat) (hm:m<=100000000) (c b:Nt) (hc:PX m c) (hb:PB m b):PT (2*m+40) (.mk 3 0 eB [c,b]):=by
 have hst:=jnt false m hm c b hc.1 hb.1
 have c2:wWhile.size=5:=rfl
 have e:aG false (.mk 3 0 eB [c,b])=qM [wWhile,zK false c 1,gO false b]:=rfl
 have hyz:=(hc.1 1 (by decide) (by decide)).1
 have hall:∀ x ∈ [wWhile,zK false c 1,gO false b],0<x.size:=by
  intro x hx;simp only[List.mem_cons,List.not_mem_nil,or_false] at hx
  rcases hx with rfl | rfl | rfl
  ·decide
  ·exact hc.2.1 1
  ·exact hb.2.1
 refine⟨hst,by rw[e];exact z6 (wO _ (by simp) hall),fun s hs => ?_⟩;rw[e,<- zW s 3 [wWhile,zK false c 1,gO false b] rfl hall]
 have hx1:=fun s hs=>hc.2.2 s 1 (by decide) (by decide) hs
 have hx2:=hb.2.2
 clear hall e;generalize zK false c 1=y at *;generalize gO false b=x at *
 have hr:=jlc c b
 have hr2:=jld c b
 refine oZ jH jY 1 Tryz.func35 rfl ?_;intro _;conv=>whnf
 refine kB 0 0 2 [1] ((jD s wWhile (by decide) (by omega)).r) ?_;rintro o n' cs' r ⟨s',rfl,rfl,ho,hs',rfl⟩;cases ho;conv=>whnf
 have hz2:=jB s wWhile
 rw[<- hs'] at hz2
 have hs2:=hs'
 clear hs';generalize s'=s2 at *;refine⟨by simp[Nt.kids],?_⟩;conv=>whnf
 (generalize hrq:jM _ _ (qG (Nt.mk 3 0 eB [c,b]).kids)=rq;obtain rfl:rq=ntA c:=hrq.symm.trans (hr);clear hrq;conv=>whnf)
 refine kB 0 2 3 [] ((hx1 s2 (by omega))) ?_;rintro o n' cs' r ⟨s',rfl,rfl,ho,hs',rfl⟩;cases ho;conv=>whnf
 have hz3:=jB s2 y
 rw[<- hs'] at hz3
 have hs3:=hs'
 clear hs';generalize s'=s3 at *;refine⟨by simp[Nt.kids],?_⟩;conv=>whnf
 (generalize hrq:jM _ _ (qG (Nt.mk 3 0 eB [c,b]).kids)=rq;obtain rfl:rq=ntA b:=hrq.symm.trans (hr2);clear hrq;conv=>whnf)
 refine kB 0 3 4 [] ((hx2 s3 (by omega))) ?_;rintro o n' cs' r ⟨s',rfl,rfl,ho,hs',rfl⟩;cases ho;conv=>whnf
 refine⟨4,?_⟩;conv=>whnf
 refine⟨_,rfl,rfl,rfl,?_,rfl⟩;rw[hs',hs3,hs2];rfl
theorem jpD (m:Nat) (hm:m<=50000000) (c b d:Nt) (hc:PX m c) (hb:PB m b) (hd:PB m d):PT (3*m+60) (.mk 2 0 eB [c,b,d]):=by
 have hst:=jnp false m hm c b d hc.1 hb.1 hd.1
 have c2:wIf.size=2:=rfl
 have c3:wElse.size=4:=rfl
 have e:aG false (.mk 2 0 eB [c,b,d])=if 0<d.kids.length then qM [qM [wIf,zK false c 1,gO false b],wElse,gO false d] else qM [wIf,zK false c 1,gO false b]:=rfl
 have hyz:=(hc.1 1 (by decide) (by decide)).1
 have hbz:=hb.1.1
 have hdz:=hd.1.1
 have hall:∀ x ∈ [wIf,zK false c 1,gO false b],0<x.size:=by
  intro x hx;simp only[List.mem_cons,List.not_mem_nil,or_false] at hx
  rcases hx with rfl | rfl | rfl
  ·decide
  ·exact hc.2.1 1
  ·exact hb.2.1
 have hv:=z6 (wO [wIf,zK false c 1,gO false b] (by simp) hall)
 have hall2:∀ x ∈ [qM [wIf,zK false c 1,gO false b],wElse,gO false d],0<x.size:=by
  intro x hx;simp only[List.mem_cons,List.not_mem_nil,or_false] at hx
  rcases hx with rfl | rfl | rfl
  ·exact hv
  ·decide
  ·exact hd.2.1
 refine⟨hst,by rw[e];split;exact z6 (wO _ (by simp) hall2);exact hv,fun s hs => ?_⟩
 have hpf:=zW s 3 [wIf,zK false c 1,gO false b] rfl hall
 have hpf2:=zW s 3 [qM [wIf,zK false c 1,gO false b],wElse,gO false d] rfl hall2
 have hx1:=fun s hs=>hc.2.2 s 1 (by decide) (by decide) hs
 have hx2:=hb.2.2
 have hx3:=hd.2.2
 rw[e];clear hall hall2 hv e hst;generalize hvv:qM [wIf,zK false c 1,gO false b]=v at *;clear hvv;generalize zK false c 1=y at *;generalize gO false b=x at *;generalize gO false d=z at *
 obtain⟨hr,hr2,hr3⟩ := jok c b d
 have hpf3:jA (jA (jA s wIf) y) x=jA s v:=hpf
 by_cases hl:0<d.kids.length
 ·rw[if_pos hl];refine oZ jH jY 1 Tryz.func35 rfl ?_;intro _;conv=>whnf
  refine kB 0 0 2 [1] ((jD s wIf (by decide) (by omega)).r) ?_;rintro o n' cs' r ⟨s',rfl,rfl,ho,hs',rfl⟩;cases ho;conv=>whnf
  have hz2:=jB s wIf
  rw[<- hs'] at hz2
  have hs2:=hs'
  clear hs';generalize s'=s2 at *;refine⟨by simp[Nt.kids],?_⟩;conv=>whnf
  (generalize hrq:jM _ _ (qG (Nt.mk 2 0 eB [c,b,d]).kids)=rq;obtain rfl:rq=ntA c:=hrq.symm.trans (hr);clear hrq;conv=>whnf)
  refine kB 0 2 3 [] ((hx1 s2 (by omega))) ?_;rintro o n' cs' r ⟨s',rfl,rfl,ho,hs',rfl⟩;cases ho;conv=>whnf
  have hz3:=jB s2 y
  rw[<- hs'] at hz3
  have hs3:=hs'
  clear hs';generalize s'=s3 at *;refine⟨by simp[Nt.kids],?_⟩;conv=>whnf
  (generalize hrq:jM _ _ (qG (Nt.mk 2 0 eB [c,b,d]).kids)=rq;obtain rfl:rq=ntA b:=hrq.symm.trans (hr2);clear hrq;conv=>whnf)
  refine kB 0 3 4 [] ((hx2 s3 (by omega))) ?_;rintro o n' cs' r ⟨s',rfl,rfl,ho,hs',rfl⟩;cases ho;conv=>whnf
  have hz4:=jB s3 x
  rw[<- hs'] at hz4
  have hs4:=hs'
  clear hs';generalize s'=s4 at *;refine⟨by simp[Nt.kids],?_⟩;conv=>whnf
  (generalize hrq:jM _ _ (qG (Nt.mk 2 0 eB [c,b,d]).kids)=rq;obtain rfl:rq=ntA d:=hrq.symm.trans (hr3);clear hrq;conv=>whnf)
  rw[qH (show 0<(d.kids.length:Int) by omega)];conv=>whnf
  refine kB 0 4 6 [5] ((jD s4 wElse (by decide) (by omega)).r) ?_;rintro o n' cs' r ⟨s',rfl,rfl,ho,hs',rfl⟩;cases ho;conv=>whnf
  have hz5:=jB s4 wElse
  rw[<- hs'] at hz5
  have hs5:=hs'
  clear hs';generalize s'=s5 at *;refine⟨by simp[Nt.kids],?_⟩;conv=>whnf
  (generalize hrq:jM _ _ (qG (Nt.mk 2 0 eB [c,b,d]).kids)=rq;obtain rfl:rq=ntA d:=hrq.symm.trans (hr3);clear hrq;conv=>whnf)
  refine kB 0 6 7 [] ((hx3 s5 (by omega))) ?_;rintro o n' cs' r ⟨s',rfl,rfl,ho,hs',rfl⟩;cases ho;conv=>whnf
  refine⟨7,?_⟩;conv=>whnf
  refine⟨_,rfl,rfl,rfl,?_,rfl⟩;rw[hs',hs5,hs4,hs3,hs2,hpf3,<- hpf2];rfl
 ·rw[if_neg hl];refine oZ jH jY 1 Tryz.func35 rfl ?_;intro _;conv=>whnf
  refine kB 0 0 2 [1] ((jD s wIf (by decide) (by omega)).r) ?_;rintro o n' cs' r ⟨s',rfl,rfl,ho,hs',rfl⟩;cases ho;conv=>whnf
  have hz2:=jB s wIf
  rw[<- hs'] at hz2
  have hs2:=hs'
  clear hs';generalize s'=s2 at *;refine⟨by simp[Nt.kids],?_⟩;conv=>whnf
  (generalize hrq:jM _ _ (qG (Nt.mk 2 0 eB [c,b,d]).kids)=rq;obtain rfl:rq=ntA c:=hrq.symm.trans (hr);clear hrq;conv=>whnf)
  refine kB 0 2 3 [] ((hx1 s2 (by omega))) ?_;rintro o n' cs' r ⟨s',rfl,rfl,ho,hs',rfl⟩;cases ho;conv=>whnf
  have hz3:=jB s2 y
  rw[<- hs'] at hz3
  have hs3:=hs'
  clear hs';generalize s'=s3 at *;refine⟨by simp[Nt.kids],?_⟩;conv=>whnf
  (generalize hrq:jM _ _ (qG (Nt.mk 2 0 eB [c,b,d]).kids)=rq;obtain rfl:rq=ntA b:=hrq.symm.trans (hr2);clear hrq;conv=>whnf)
  refine kB 0 3 4 [] ((hx2 s3 (by omega))) ?_;rintro o n' cs' r ⟨s',rfl,rfl,ho,hs',rfl⟩;cases ho;conv=>whnf
  have hz4:=jB s3 x
  rw[<- hs'] at hz4
  have hs4:=hs'
  clear hs';generalize s'=s4 at *;refine⟨by simp[Nt.kids],?_⟩;conv=>whnf
  (generalize hrq:jM _ _ (qG (Nt.mk 2 0 eB [c,b,d]).kids)=rq;obtain rfl:rq=ntA d:=hrq.symm.trans (hr3);clear hrq;conv=>whnf)
  rw[j8 (show ¬ 0<(d.kids.length:Int) by omega)];conv=>whnf
  refine⟨4,?_⟩;conv=>whnf
  refine⟨_,rfl,rfl,rfl,?_,rfl⟩;rw[hs4,hs3,hs2,hpf3]
theorem sM (m:Nat) (hm:m<=1000000) (l:List Nt) (hl:l.length<=3) (hf:∀ f ∈ l,PT m f):PB (3*m+10) (zD l):=by
 have hbk:=bkz false m hm l hl fun f h=>(hf f h).1
 have c1:pLb.size=1:=rfl
 have c2:pRb.size=1:=rfl
 have e:gO false (zD l)=bkL false l++pRb:=jfP _ _ _ _ _
 refine⟨hbk,by rw[e,ByteArray.size_append];omega,fun s hs => ?_⟩
 have hpos:∀ x ∈ pLb :: l.map (aG false),0<x.size:=fun x hx=>by
  rcases List.mem_cons.1 hx with rfl | hx
  ·decide
  ·obtain⟨f,h1,rfl⟩ := List.mem_map.1 hx
   exact (hf f h1).2.1
 obtain⟨S,hS⟩ : ∃ S:Nat->ByteArray,∀ j,S j=dH s (pLb :: (l.map (aG false)).take j):=⟨_,fun _=>rfl⟩
 have hS0:S 0=jA s pLb:=by rw[hS,List.take_zero];rfl
 have hbL:qM (pLb :: l.map (aG false))=bkL false l:=rfl
 have hSl:jA s (gO false (zD l))=jA (S l.length) pRb:=by
  have hne:=wO (pLb :: l.map (aG false)) (by simp) hpos
  rw[hS,show l.length=(l.map (aG false)).length by simp,List.take_length,zW s _ _ rfl hpos,e,qN s _ _ hne,hbL,kR _ pRb (by decide)]
 have hSn:∀ j (h:j<l.length),S (j+1)=jA (S j) (aG false l[j]):=fun j h=>by
  rw[hS,hS];unfold dH;rw[List.take_succ_eq_append_getElem (by simpa using h),<- List.cons_append,List.foldl_append,List.getElem_map];rfl
 have hSz:∀ j,j<=l.length->(S j).size<=s.size+2+j*(m+1):=fun j=>by
  induction j with
  | zero =>
   intro _
   have:=jB s pLb
   rw[hS0];omega
  | succ j ih =>
   intro hj
   have:=ih (by omega)
   have h1:=(hf _ (List.getElem_mem (show j<l.length by omega))).1.1
   have h2:=jB (S j) (aG false (l[j]'(by omega)))
   rw[hSn j (by omega),Nat.succ_mul];omega
 rw[hSl];unfold zD;rw[show ntA (Nt.mk 11 0 eB l)=[jJ 11,jJ 0,j0 eB,.sl 4 l.length (qG l)] from rfl];refine oZ jH jY 1 Tryz.func16 rfl ?_;intro _;conv=>whnf
 refine kB 0 0 2 [1] ((jD s pLb (by decide) (by omega)).r) ?_;rintro o n' cs' r ⟨s',rfl,rfl,ho,hs',rfl⟩;cases ho;conv=>whnf
 rw[<- hS0] at hs';subst hs';refine oE [2] ?_;conv=>whnf
 refine jT [0,3,10,11] ?_;conv=>whnf
 refine zF (fun j:Nat=>[(12,.v (.int .i64 j))]) (fun _=>[[.adr iS,.own 0],[jJ 11,jJ 0,j0 eB,.sl 4 l.length (qG l)]]) (fun j=>[.live 5 0 (S j).size [.v (.string (S j))]]) (fun j=>j<=l.length) (fun j=>l.length-j) 0 ?_ (Nat.zero_le _) ?_
 ·repeat' constructor
 rintro j hj;conv=>whnf
 have hz1:=hSz j hj
 have hjm:j*(m+1)<=l.length*(m+1):=Nat.mul_le_mul_right _ hj
 have hlm:l.length*(m+1)<=3*(m+1):=Nat.mul_le_mul_right _ hl
 by_cases hlt:j<l.length
 ·rw[qH (show (j:Int)<(l.length:Int) by omega)]
  have hrow:=xA l j hlt
  have hSn:=hSn j hlt
  have hg:=hf _ (List.getElem_mem hlt)
  have hjm2:(j+1)*(m+1)<=3*(m+1):=Nat.mul_le_mul_right _ (by omega)
  rw[Nat.succ_mul] at hjm2;generalize l[j]=g at *
  have hx:=hg.2.2
  generalize aG false g=y at *;conv=>whnf
  refine⟨by omega,?_⟩;conv=>whnf
  (generalize hrq:jM _ _ (qG l)=rq;obtain rfl:rq=ntA g:=hrq.symm.trans (hrow);clear hrq;conv=>whnf)
  refine kB 0 0 1 [] (hx (S j) (by omega)) ?_;rintro o n' cs' r ⟨s4,rfl,rfl,ho,hs4,rfl⟩;cases ho;conv=>whnf
  refine⟨jS (by omega),?_⟩;conv=>whnf
  refine⟨j+1,jU [1] ?_,hlt,by omega⟩;conv=>whnf
  rw[hs4,show S (j+1)=_ from hSn]
  repeat' constructor
 ·rw[j8 (show ¬ (j:Int)<(l.length:Int) by omega)]
  obtain rfl:j=l.length:=by omega
  conv=>whnf
  refine kB 0 0 2 [1] ((jD (S l.length) pRb (by decide) (by omega)).r) ?_;rintro o n' cs' r ⟨s',rfl,rfl,ho,hs',rfl⟩;cases ho;conv=>whnf
  refine⟨2,?_⟩;conv=>whnf
  exact⟨_,rfl,rfl,rfl,hs',rfl⟩
theorem joR:∀ k<10,zE (UInt8.ofNat (48+k))=true:=by decide
theorem jfW:∀ (n:Nat),n ≠ 0 -> ∃ c l,tU n=c :: l/\zE c=true:=fun n=>by
 induction n using Nat.strongRecOn with
 | _ n ih =>
  intro h;rw[vX h]
  by_cases h0:n / 10=0
  ·rw[h0,aW];exact⟨_,_,rfl,joR _ (Nat.mod_lt _ (by decide))⟩
  ·obtain⟨c,l,e,hc⟩ := ih (n / 10) (by omega) h0
   rw[e];exact⟨c,_,rfl,hc⟩
theorem lC (n:Nat):zE (qA (bs (qF n)))=true:=by
 unfold qF
 split
 ·decide
 ·obtain⟨c,l,e,hc⟩ := jfW n (by assumption)
  rw[e];exact hc
theorem mV (w:ByteArray) (hw:w ≠ ⟨#[]⟩) (hl:zE (yZ w)=true) (n:Nat):jA w (bs (qF n))=w ++ ⟨#[32]⟩ ++ bs (qF n):=by
 have h1:=oK (aX n)
 have h2:=lC n
 unfold jA;rw[if_neg hw,if_neg h1,if_neg (by rw[hl];decide),if_neg (by rw[h2];decide)]
def bH:Go.Shelf.Ren:=⟨fun | 156=>14 | 165=>33 | 166=>32 | 169=>17 | 240=>50 | 241=>51 | 276=>76 | 277=>77 | n=>n,fun | 31=>23 | 37=>48 | 70=>47 | 72=>50 | 75=>78 | 76=>80 | 80=>57 | 127=>83 | 164=>130 | n=>n,fun | n=>n⟩
theorem jd0:Lays.n156 Tryz.prog bH where
 mixed:=by kernel_rfl
 f156:=Tryz.func14.trans (congrArg some (by kernel_rfl))
 f165:=Tryz.func33.trans (congrArg some (by kernel_rfl))
 f166:=Tryz.func32.trans (congrArg some (by kernel_rfl))
 f169:=Tryz.func17.trans (congrArg some (by kernel_rfl))
 f240:=Tryz.func50.trans (congrArg some (by kernel_rfl))
 f241:=Tryz.func51.trans (congrArg some (by kernel_rfl))
 f276:=Tryz.func76.trans (congrArg some (by kernel_rfl))
 f277:=Tryz.func77.trans (congrArg some (by kernel_rfl))
 t0:=Tryz.underlying0
 a0:=Tryz.isAgg0
 z0:=Tryz.sizeOf0
 v0:=Tryz.zeroValue0
 t3:=Tryz.underlying3
 a3:=Tryz.isAgg3
 z3:=Tryz.sizeOf3
 v3:=Tryz.zeroValue3
 t4:=Tryz.underlying4
 a4:=Tryz.isAgg4
 z4:=Tryz.sizeOf4
 v4:=Tryz.zeroValue4
 t9:=Tryz.underlying9
 a9:=Tryz.isAgg9
 z9:=Tryz.sizeOf9
 v9:=Tryz.zeroValue9
 t20:=Tryz.underlying20
 a20:=Tryz.isAgg20
 z20:=Tryz.sizeOf20
 v20:=Tryz.zeroValue20
 t31:=Tryz.underlying23
 a31:=Tryz.isAgg23
 z31:=Tryz.sizeOf23
 v31:=Tryz.zeroValue23
 t37:=Tryz.underlying48
 a37:=Tryz.isAgg48
 z37:=Tryz.sizeOf48
 v37:=Tryz.zeroValue48
 t70:=Tryz.underlying47
 a70:=Tryz.isAgg47
 z70:=Tryz.sizeOf47
 v70:=Tryz.zeroValue47
 t72:=Tryz.underlying50
 a72:=Tryz.isAgg50
 z72:=Tryz.sizeOf50
 v72:=Tryz.zeroValue50
 t75:=Tryz.underlying78
 a75:=Tryz.isAgg78
 z75:=Tryz.sizeOf78
 v75:=Tryz.zeroValue78
 t76:=Tryz.underlying80
 a76:=Tryz.isAgg80
 z76:=Tryz.sizeOf80
 v76:=Tryz.zeroValue80
 t127:=Tryz.underlying83
 a127:=Tryz.isAgg83
 z127:=Tryz.sizeOf83
 v127:=Tryz.zeroValue83
 t164:=Tryz.underlying130
 a164:=Tryz.isAgg130
 z164:=Tryz.sizeOf130
 v164:=Tryz.zeroValue130

theorem jaU:Builder.Extra Tryz.prog bH where
 sizeBuilder:=by kernel_rfl
 liesBuilder:=by kernel_rfl
 t5:=by kernel_rfl
 a5:=Tryz.isAgg5
 z5:=Tryz.sizeOf5
 v5:=Tryz.zeroValue5
 infoByte:=by kernel_rfl
 cellsByte:=by kernel_rfl
 sizeByte:=by kernel_rfl
 neB5:=by decide
theorem jiD (l:List (List UInt8)) (c:UInt8) (h1:1<=l.length) (hl:l.length<=1000) (hs:(Lib.join l [c]).length<=1000000000):Spec Tryz.prog 14 [] [.sl 1 l.length (aH (l.map bs)),j0 ⟨#[c]⟩] fun _ r=>r=j0 (bs (Lib.join l [c])):=by
 refine nT (vN Tryz.func14 rfl (by kernel_rfl)) fun w C vals hg hsub hv => ?_
 obtain⟨u,us,rfl,k1,k2⟩ := hv
 obtain rfl:=fS (l:=[.string ⟨#[c]⟩]) k2
 unfold A.rep at k1
 obtain⟨j1,j2,p,b,off,cap,rfl,j3,j4,j5,j6⟩ := k1
 obtain⟨us,m1,m2⟩ := A.repAt_vals j6
 have hus:us=(l.map bs).map Value.string:=by
  have:=A.repC_L m1
  have e:aH (l.map bs)=((l.map bs).map Value.string).map A.v:=by simp[aH,j0,Function.comp_def]
  rw[e] at this;exact fS this
 subst hus
 obtain rfl:p=some ⟨b,off,none⟩ := by
  rcases j4 with h | h
  ·omega
  ·exact h
 have hcells:∀ (j:Nat) x,(l.map bs)[j]? = some x->w.cell? ⟨b,off+j,none⟩ = some (.string x):=fun j x hx=>by
  have:=hsub _ _ (m2 j _ (by rw[List.getElem?_map,hx];rfl))
  change w.cell? _=_ at this
  exact this
 have hb:b<w.heap.size:=by
  have:=hcells 0 (bs l[0]) (by rw[List.getElem?_map,List.getElem?_eq_getElem (by omega)];rfl)
  exact World.block_lt_of_cell? w _ this
 have ej:(l.map bs).map (·.data.toList)=l:=by rw[List.map_map];exact List.map_id'' (fun x=>zZ x) _
 have hlen:(l.map bs).length=l.length:=by simp
 have:=Any.strings_Join jd0 jaU b off cap (l.map bs) ⟨#[c]⟩ w hcells hb (by rw[hlen];omega) (by rw[hlen];exact j3) (by rw[ej];show (Lib.join l [c]).length<=_;omega)
 rw[hlen,ej] at this;refine this.mono ?_;rintro e w' ⟨rfl,hw⟩;exact⟨_,rfl,hw,A.rep_v (by show (bs (Lib.join l [c])).size<=maxLen;rw[xJ];unfold maxLen;omega)⟩
theorem jrm {E:Env} : (A.v (.string ⟨#[]⟩)).rep E (.string ⟨#[]⟩):=A.rep_v (by show (0:Nat)<=maxLen;unfold maxLen;omega)
theorem Hp.nilBufRow {w0:W0} {w:World} {C0:Rd} {β0:List Nat} {bx:List (List A)} {rw:List Row} {E:Env} (h:Hp w0 C0 β0 bx rw w E) (e:Nat):Hp w0 C0 β0 bx (rw++[.live e 0 0 [.v (.string ⟨#[]⟩)]]) w ⟨E.C,E.β,E.ρ++[.slice none 0 0]⟩ /\ E.le ⟨E.C,E.β,E.ρ++[.slice none 0 0]⟩ := by
 have le:E.le ⟨E.C,E.β,E.ρ++[.slice none 0 0]⟩ := ⟨Sub.refl _,fun _ _ h=>h,fun i b hb=>by
  have:=(List.getElem?_eq_some_iff.1 hb).1
  rw[List.getElem?_append_left this];exact hb⟩
 have part:∀ (g:Nat) (r:Row) (y:Value),(rw++[Row.live e 0 0 [.v (.string ⟨#[]⟩)]])[g]? = some r->(E.ρ++[Value.slice none 0 0])[g]? = some y->(rw[g]? = some r/\E.ρ[g]? = some y) ∨ (r = .live e 0 0 [.v (.string ⟨#[]⟩)]/\y = .slice none 0 0/\g=rw.length):=fun g r y h1 h2=>by
  by_cases hg:g<rw.length
  ·rw[List.getElem?_append_left hg] at h1;rw[List.getElem?_append_left (by rw[<- h.rl];exact hg)] at h2;exact .inl ⟨h1,h2⟩
  ·rw[List.getElem?_append_right (by omega)] at h1;rw[List.getElem?_append_right (by rw[<- h.rl];omega)] at h2
   have hi0:g-rw.length=0:=by
    have:=(List.getElem?_eq_some_iff.1 h1).1
    simp at this;omega
   rw[hi0] at h1;rw[<- h.rl,hi0] at h2
   simp at h1 h2
   exact .inr ⟨h1.symm,h2.symm,by omega⟩
 refine⟨⟨h.sub,h.base,h.fresh,h.bp,h.bnd,h.bC,h.bl,fun i b cs h1 h2=>(h.bxs i b cs h1 h2).mono le,by simp[h.rl],fun g r y h1 h2 => ?_,fun g e' k' n cs y b h1 h2 h3 => ?_,fun g e1 k1 n1 cs1 y g' e2 k2 n2 cs2 z b hne h1 h2 h3 h4 h5 => ?_,fun g y h1=>xB h.rs (.inl ⟨_,_,_,rfl⟩) g y h1,h.keep,h.gk⟩,le⟩
 ·rcases part g r y h1 h2 with ⟨h3,h4⟩ | ⟨rfl,rfl,_⟩
  ·exact (h.rws g r y h3 h4).mono le (fun _ _ _ _ _ _ _=>rfl)
  ·exact⟨[.string ⟨#[]⟩],⟨owR.nilBuf _ _,fun b hb=>by simp[blk] at hb⟩,by unfold A.repC;exact⟨_,[],rfl,rfl,jrm,by unfold A.repC;rfl⟩⟩
 ·rcases part g _ y h1 h2 with ⟨h4,h5⟩ | ⟨_,rfl,_⟩
  ·exact h.rC g e' k' n cs y b h4 h5 h3
  ·simp[blk] at h3
 ·rcases part g _ y h1 h2 with ⟨k3,k4⟩ | ⟨_,rfl,_⟩
  ·rcases part g' _ z h3 h4 with ⟨k5,k6⟩ | ⟨_,rfl,_⟩
   ·exact h.rd g e1 k1 n1 cs1 y g' e2 k2 n2 cs2 z b hne k3 k4 k5 k6 h5
   ·simp[blk]
  ·simp[blk] at h5
theorem jmG {np:Nat} {s:S} {t:List A} {bx:List (List A)} (e:Nat) (ht:rY s.rw.length s.t t) (hb:ji9 s.rw.length s.bx bx):Le np s ⟨t,bx,s.rw++[.live e 0 0 [.v (.string ⟨#[]⟩)]]⟩ := by
 rintro dr w0 C0 β0 a w _ _ ⟨E,hp,hrep,hd⟩
 obtain⟨h1,le⟩ := hp.nilBufRow e
 have hg:(E.ρ++[Value.slice none 0 0])[s.rw.length]? = some (.slice none 0 0):=by rw[hp.rl];simp
 refine⟨⟨E.C,E.β,E.ρ++[.slice none 0 0]⟩,?_,dL hg ht (A.repL.mono _ le hrep),hd.mono le⟩
 exact⟨h1.sub,h1.base,h1.fresh,h1.bp,h1.bnd,h1.bC,by rw[sX hb];exact h1.bl,fun i b cs h2 h3=>by
  obtain⟨c0,h4,h5⟩ := sW hb h3
  obtain⟨T',arr,h6,h7⟩ := h1.bxs i b c0 h2 h4
  exact⟨T',arr,h6,h7.rel (rY s.rw.length) h5 (fun l m us e k=>dL hg e k) (fun l m e=>jdF e) fun l t r e=>jb9 e⟩,h1.rl,h1.rws,h1.rC,h1.rd,h1.rs,h1.keep,h1.gk⟩
theorem jpd {c:Cx} {x:Code} {t:List A} {bx:List (List A)} {rw:List Row} {q:Exit->S->Prop} (e:Nat) (ts:List Nat) (cs:List (Nat × Nat))
  (h:gA rw (.live e 0 0 [.v (.string ⟨#[]⟩)]) 0 fun g rw' => jgg g ts t fun t' => jeL g cs bx fun bx' => Ok c x ⟨t',bx',rw'⟩ q):Ok c x ⟨t,bx,rw⟩ q:=by
 rw[zR,Nat.zero_add] at h
 obtain⟨t',h1,h⟩ := d9 h
 obtain⟨bx',h2,h⟩ := pL h
 exact jkG (jmG (s:=⟨t,bx,rw⟩) e h1 h2) h
def dJ:ByteArray:=⟨#[100,44,100,100,49]⟩
def vJ:ByteArray:=⟨#[118,44,119,50]⟩
theorem jka (full:Bool) (l:List (Int × Nt)):∀ (a:ByteArray),0<a.size->0<(r7 full a l).size:=by
 induction l with
 | nil=>exact fun a h=>h
 | cons h l ih=>exact fun a ha=>ih _ (z6 (bA (oK ha)))
section
end
def xO:Int->List UInt8->Int
 | n,[]=>n
 | n,c :: r=>xO (10*n+(c.toNat:Int)-48) r
theorem jcN {c:UInt8} (h:yN c=true):48<=(c.toNat:Int)/\(c.toNat:Int)<=57:=by
 unfold yN at h;simp only[Bool.and_eq_true,decide_eq_true_eq] at h;exact h
theorem pC:∀ (l:List UInt8) (n:Int),0<=n->(∀ c ∈ l,yN c=true)->n<=xO n l
 | [],n,_,_=>Int.le_refl n
 | c :: r,n,h0,h=>by
  have hc:=jcN (h c (by simp))
  have:=pC r (10*n+(c.toNat:Int)-48) (by omega) (fun c hc=>h c (by simp[hc]))
  show n<=xO (10*n+(c.toNat:Int)-48) r
  omega
theorem rX:∀ (l:List UInt8) (n:Int),0<=n->n<=2147483647->(∀ c ∈ l,yN c=true)->gG n l=if 2147483647<xO n l then -1 else xO n l
 | [],n,_,h,_=>by
  show n=if 2147483647<n then -1 else n
  rw[if_neg (by omega)]
 | c :: r,n,h0,h1,h=>by
  have hc:=jcN (h c (by simp))
  have hr:∀ c ∈ r,yN c=true:=fun c hc=>h c (by simp[hc])
  show (if 2147483647<10*n+(c.toNat:Int)-48 then -1 else gG (10*n+(c.toNat:Int)-48) r)=if 2147483647<xO (10*n+(c.toNat:Int)-48) r then -1 else xO (10*n+(c.toNat:Int)-48) r
  have hg:=pC r (10*n+(c.toNat:Int)-48) (by omega) hr
  by_cases hx:2147483647<10*n+(c.toNat:Int)-48
  ·rw[if_pos hx,if_pos (by omega)]
  ·rw[if_neg hx,rX r _ (by omega) (by omega) hr]
theorem uL:∀ (l m:List UInt8) (n:Int),xO n (l++m)=xO (xO n l) m
 | [],m,n=>rfl
 | c :: r,m,n=>uL r m _
theorem jhl (n:Nat):((UInt8.ofNat (48+n % 10)).toNat:Int)=48+n % 10:=by
 rw[UInt8.toNat_ofNat'];omega
theorem je6:∀ (f n:Nat),n<=f -> ∀ c ∈ tU n,yN c=true
 | f,0,_,c,hc=>by rw[aW] at hc;cases hc
 | 0,n+1,h,_,_=>by omega
 | f+1,n+1,h,c,hc=>by
  rw[vX (by omega)] at hc
  rcases List.mem_append.1 hc with hc | hc
  ·exact je6 f ((n+1) / 10) (by omega) c hc
  ·obtain rfl:=List.mem_singleton.1 hc
   unfold yN;rw[jhl];simp only[Bool.and_eq_true,decide_eq_true_eq];omega
theorem je8:∀ (f n:Nat),n<=f->xO 0 (tU n)=n
 | f,0,_=>by rw[aW];rfl
 | 0,n+1,h=>by omega
 | f+1,n+1,h=>by
  rw[vX (by omega),uL,je8 f ((n+1) / 10) (by omega)]
  show 10*(((n+1) / 10:Nat):Int)+((UInt8.ofNat (48+(n+1) % 10)).toNat:Int)-48=_
  rw[jhl];omega
theorem jea (n:Nat):∀ c ∈ qF n,yN c=true:=by
 unfold qF
 split
 ·intro c hc;obtain rfl:=List.mem_singleton.1 hc;decide
 ·exact je6 n n (Nat.le_refl _)
theorem jk1 (n:Nat):xO 0 (qF n)=n:=by
 unfold qF
 split
 ·rename_i h;subst h;rfl
 ·exact je8 n n (Nat.le_refl _)
theorem jmr (n:Nat):qF n ≠ []:=by
 unfold qF
 split
 ·simp
 ·rename_i h;rw[vX h];simp
structure Co where
 kind:Int
 text:List UInt8
 n:Int
def tR (t:Tk):Co:=⟨t.kind,t.text.data.toList,t.n⟩
def rJ:List Co->ByteArray
 | []=>⟨#[]⟩
 | x :: l=>jA (bs x.text) (rJ l)
def aE (x:List UInt8):Bool := !(decide (x=[60]) || decide (x=[62]) || decide (x=[61]) || decide (x=[33]))
def okN (x:List UInt8) (y:UInt8):Prop:=(zE (yZ (bs x))=true->zE y=false)/\(aE x=false->y ≠ 61)
structure LexT (c:Co):Prop where
 ne:c.text ≠ []
 st:∀ y r,c.text=y :: r->yE y=false/\pF y=false
 go:∀ rest,(∀ y r,rest=y :: r->okN c.text y)->j9 (c.text++rest) = .tok c.kind c.text.length c.n
def Fine:Bool->List Co->Prop
 | _,[]=>True
 | b,c :: l=>(b=false->qA (bs c.text) ≠ 61)/\Fine (aE c.text) l
theorem Fine.more {b:Bool} : ∀ {l:List Co},Fine false l->Fine b l
 | [],_=>trivial
 | c :: l,h=>⟨fun _=>h.1 rfl,h.2⟩
theorem Fine.app:∀ {l m:List Co} {b:Bool},Fine b l->Fine false m->Fine b (l++m)
 | [],m,b,_,h=>h.more
 | c :: l,m,b,h,k=>⟨h.1,h.2.app k⟩
def EndS:List Co->Prop
 | []=>False
 | [c]=>aE c.text=true
 | _ :: l=>EndS l
theorem Fine.app2:∀ {l m:List Co} {b:Bool},Fine b l->EndS l->Fine true m->Fine b (l++m)
 | [],m,b,_,h,_=>h.elim
 | [c],m,b,h,e,k=>⟨h.1,by rw[show aE c.text=true from e];exact k⟩
 | c :: d :: l,m,b,h,e,k=>⟨h.1,Fine.app2 (l:=d :: l) h.2 e k⟩
theorem EndS.app:∀ {l m:List Co},EndS m->EndS (l++m)
 | [],m,h=>h
 | [c],m,h=>by
  cases m with
  | nil=>exact h.elim
  | cons d m=>exact h
 | c :: d :: l,m,h=>EndS.app (l:=d :: l) h
theorem jhf {l:List UInt8} (h:l ≠ []):bs l ≠ ⟨#[]⟩ := by
 rw[jjI,zZ];exact h
theorem jg4 {c:Co} {l:List Co} (h:c.text ≠ []):rJ (c :: l) ≠ ⟨#[]⟩ := bA (jhf h)
theorem jbx {c:Co} {l:List Co} (h:c.text ≠ []):qA (rJ (c :: l))=qA (bs c.text):=by
 show qA (jA _ _)=_
 rw[kO,nG];exact dV _ (jhf h)
theorem jhz {c:Co} (h:LexT c) (p:Nat) (rest:List UInt8) (hr:∀ y r,rest=y :: r->okN c.text y):bJ p (c.text++rest)=Lx.cons ⟨c.kind,p,bs c.text,c.n⟩ (bJ (p+c.text.length) rest):=by
 obtain⟨h1,h2,h3⟩ := h
 have h3:=h3 rest hr
 cases hc:c.text with
 | nil=>exact absurd hc h1
 | cons y r =>
  obtain⟨g1,g2⟩ := h2 y r hc
  rw[hc] at h3
  have e:=uV (p:=p) g1 g2 (r:=r++rest) h3
  rw[show y :: r++rest=y :: (r++rest) from rfl,e]
  congr 2
  ·congr 1
   rw[show y :: (r++rest)=(y :: r)++rest from rfl,List.take_left'];rfl
  ·rw[show y :: (r++rest)=(y :: r)++rest from rfl,List.drop_left'];rfl
theorem jhy:∀ (l:List Co) (b:Bool) (p:Nat),(∀ c ∈ l,LexT c)->Fine b l -> ∃ ts,bJ p (rJ l).data.toList = ⟨ts,none⟩ /\ ts.map tR=l
 | [],b,p,_,_=>⟨[],rfl,rfl⟩
 | c :: l,b,p,hl,hf=>by
  have hc:=hl c List.mem_cons_self
  have step:∀ q,∃ ts,bJ q (rJ l).data.toList = ⟨ts,none⟩ /\ ts.map tR=l:=fun q=>jhy l _ q (fun d hd=>hl d (List.mem_cons_of_mem _ hd)) hf.2
  have e:(rJ (c :: l)).data.toList=c.text++((dF (bs c.text) (rJ l)).data.toList++(rJ l).data.toList):=by
   show (jA _ _).data.toList=_
   rw[kO,dO,dO,zZ,List.append_assoc]
  have hg:dF (bs c.text) (rJ l) = ⟨#[]⟩ ∨ (dF (bs c.text) (rJ l) = ⟨#[32]⟩):=by
   unfold dF;split;exact .inl rfl;exact .inr rfl
  have fin:∀ ts:List Tk,ts.map tR=l->(⟨c.kind,p,bs c.text,c.n⟩ :: ts:List Tk).map tR=c :: l:=fun ts h=>by
   rw[List.map_cons,h];rfl
  rcases hg with hg | hg
  ·obtain⟨ts,h1,h2⟩ := step (p+c.text.length)
   refine⟨⟨c.kind,p,bs c.text,c.n⟩ :: ts,?_,fin ts h2⟩;rw[e,hg];rw[show ((⟨#[]⟩ : ByteArray).data.toList++(rJ l).data.toList)=(rJ l).data.toList from rfl];rw[jhz hc p _ fun y r hy => ?_,h1]
   ·rfl
   ·cases l with
    | nil=>cases hy
    | cons d l =>
     have hd:=(hl d (by simp)).ne
     have hfy:qA (rJ (d :: l))=y:=by unfold qA;rw[hy];rfl
     rw[jbx hd] at hfy;refine⟨fun hx => ?_,fun hx => ?_⟩
     ·unfold dF at hg
      split at hg
      ·rename_i hh
       rcases hh with hh | hh | hh | hh
       ·exact absurd hh (jhf hc.ne)
       ·exact absurd hh (jg4 hd)
       ·rw[hx] at hh;cases hh
       ·rw[jbx hd,hfy] at hh;exact hh
      ·exact absurd hg (by decide)
     ·rw[<- hfy];exact hf.2.1 hx
  ·obtain⟨ts,h1,h2⟩ := step (p+c.text.length+1)
   refine⟨⟨c.kind,p,bs c.text,c.n⟩ :: ts,?_,fin ts h2⟩;rw[e,hg];rw[show ((⟨#[32]⟩ : ByteArray).data.toList++(rJ l).data.toList)=32 :: (rJ l).data.toList from rfl];rw[jhz hc p _ fun y r hy => ?_,jhx (by decide) (by decide),h1]
   ·rfl
   ·cases hy
    exact⟨fun _=>by decide,fun _=>by decide⟩
theorem jcS:∀ (l m:List Co),(∀ c ∈ l,c.text ≠ [])->(∀ c ∈ m,c.text ≠ [])->rJ (l++m)=jA (rJ l) (rJ m)
 | [],m,_,_=>by show rJ m=jA ⟨#[]⟩ _;unfold jA;rw[if_pos rfl,eA]
 | [c],m,_,_=>by
  show jA (bs c.text) (rJ m)=jA (jA (bs c.text) ⟨#[]⟩) (rJ m)
  rw[show jA (bs c.text) ⟨#[]⟩ = bs c.text by rw[kO];unfold dF;rw[if_pos (.inr (.inl rfl)),x9,x9]]
 | c :: d :: l,m,h,k=>by
  show jA (bs c.text) (rJ (d :: l++m))=jA (jA (bs c.text) (rJ (d :: l))) (rJ m)
  rw[jcS (d :: l) m (fun x hx=>h x (List.mem_cons_of_mem _ hx)) k,qN _ _ _ (jg4 (h d (by simp)))]
theorem cT {q:UInt8->Bool} : ∀ (r rest:List UInt8),(∀ c ∈ r,q c=true)->(∀ y t,rest=y :: t->q y=false)->jI q (r++rest)=r.length
 | [],[],_,_=>rfl
 | [],y :: t,_,h=>by
  show jI q (y :: t)=0
  unfold jI;rw[h y t rfl]
 | c :: r,rest,h,k=>by
  show jI q (c :: (r++rest))=_
  unfold jI;rw[h c List.mem_cons_self]
  show jI q (r++rest)+1=_
  rw[cT r rest (fun x hx=>h x (List.mem_cons_of_mem _ hx)) k];rfl
theorem jbL {l:List UInt8} (h:l ≠ []):yZ (bs l) ∈ l:=by
 unfold yZ;rw[zZ,xJ]
 have hl:l.length-1<l.length:=by have:=List.length_pos_iff.2 h;omega
 rw[List.getD_eq_getElem?_getD,List.getElem?_eq_getElem hl];exact List.getElem_mem hl
theorem jbF {y:UInt8} (h:zE y=true):yE y=false/\pF y=false:=by
 have:∀ c:Fin 256,zE (UInt8.ofNat c.val)=true->yE (UInt8.ofNat c.val)=false/\pF (UInt8.ofNat c.val)=false:=by decide +kernel
 have h2:=this ⟨y.toNat,y.toNat_lt⟩
 simp only[UInt8.ofNat_toNat] at h2;exact h2 h
theorem jiK (c:UInt8) (r:List UInt8) (h1:isL c=true) (h2:∀ x ∈ c :: r,zE x=true) (h3:r.length+1<=10):LexT ⟨1,c :: r,0⟩ where
 ne:=by simp
 st:=fun y t e=>by cases e;exact jbF (h2 _ List.mem_cons_self)
 go:=fun rest hr=>by
  show j9 (c :: (r++rest)) = .tok 1 (r.length+1) 0
  rw[j9]
  have hs:jI zE (r++rest)=r.length:=cT r rest (fun x hx=>h2 x (List.mem_cons_of_mem _ hx)) fun y t e=>(hr y t e).1 (h2 _ (jbL (by simp)))
  rw[h1]
  simp only
  rw[hs,if_neg (by omega)]
theorem jg7 {c:UInt8} (h:yN c=true):zE c=true/\isL c=false:=by
 refine⟨by unfold zE;rw[h,Bool.or_true],?_⟩
 have:=jcN h
 unfold isL;rw[j8 (by omega)];rfl
theorem jkq (c:UInt8) (r:List UInt8) (h:∀ x ∈ c :: r,yN x=true) (hv:xO 0 (c :: r)<=2147483647):LexT ⟨2,c :: r,xO 0 (c :: r)⟩ where
 ne:=by simp
 st:=fun y t e=>by cases e;exact jbF (jg7 (h _ List.mem_cons_self)).1
 go:=fun rest hr=>by
  show j9 (c :: (r++rest)) = .tok 2 (r.length+1) _
  rw[j9]
  have hs:jI yN (r++rest)=r.length:=cT r rest (fun x hx=>h x (List.mem_cons_of_mem _ hx)) fun y t e=>by
   have:=(hr y t e).1 (jg7 (h _ (jbL (by simp)))).1
   unfold zE at this;simp only[Bool.or_eq_false_iff] at this;exact this.2
  have hc:=jg7 (h c List.mem_cons_self)
  have hvf:=rX (c :: r) 0 (by omega) (by omega) h
  rw[if_neg (by omega)] at hvf
  have hge:=pC (c :: r) 0 (by omega) h
  rw[hc.2,h c List.mem_cons_self]
  simp only
  rw[hs,List.take_left',hvf,if_neg (by omega)];rfl
theorem jm5 {c y:UInt8} (h:kH aP (bs [c,y])=true):y=61 ∨ (c=124/\y=124) ∨ (c=38/\y=38):=by
 unfold kH aP at h;simp only[List.any_cons,List.any_nil,Bool.or_eq_true,decide_eq_true_eq,Bool.or_false] at h
 rcases h with h | h | h | h | h | h <;> (have:=joJ h;simp at this;simp[<- this.1,<- this.2])
def jhN:List UInt8:=[40,41,33,60,62,45,43,42,47,44,59,123,125,61]
theorem jay:∀ c ∈ jhN,yE c=false/\pF c=false/\isL c=false/\yN c=false/\kH r8 (bs [c])=true/\kH aP (bs [c])=false:=by decide
theorem jiI (c:UInt8) (hc:c ∈ jhN):LexT ⟨3,[c],0⟩ where
 ne:=by simp
 st:=fun y t e=>by cases e;exact⟨(jay c hc).1,(jay c hc).2.1⟩
 go:=fun rest hr=>by
  show j9 (c :: rest) = .tok 3 1 0
  obtain⟨_,_,h1,h2,h3,h4⟩ := jay c hc
  have h5:kH aP (bs ((c :: rest).take 2))=false:=by
   cases rest with
   | nil=>exact h4
   | cons y t =>
    show kH aP (bs [c,y])=false
    cases hq:kH aP (bs [c,y]) with
    | false=>rfl
    | true =>
     have hy:=(hr y t rfl).2
     rcases jm5 hq with h | ⟨h,-⟩ | ⟨h,-⟩
     ·subst h
      exfalso
      refine hy ?_ rfl
      have hall:∀ c ∈ jhN,kH aP (bs [c,61])=true->aE [c]=false:=by decide
      exact hall c hc hq
     ·subst h;exact absurd hc (by decide)
     ·subst h;exact absurd hc (by decide)
  rw[j9];rw[h1,h2,h5,h3]
def jm4:List (UInt8 × UInt8):=[(124,124),(38,38),(61,61),(60,61),(62,61),(33,61)]
theorem jaz:∀ q ∈ jm4,yE q.1=false/\pF q.1=false/\isL q.1=false/\yN q.1=false/\kH aP (bs [q.1,q.2])=true:=by decide
theorem jiJ (c d:UInt8) (hc:(c,d) ∈ jm4):LexT ⟨3,[c,d],0⟩ where
 ne:=by simp
 st:=fun y t e=>by cases e;exact⟨(jaz _ hc).1,(jaz _ hc).2.1⟩
 go:=fun rest hr=>by
  show j9 (c :: d :: rest) = .tok 3 2 0
  obtain⟨_,_,h1,h2,h3⟩ := jaz _ hc
  rw[j9];rw[h1,h2]
  simp only
  rw[show (c :: d :: rest).take 2=[c,d] from rfl,h3]
section
def jG (s:ByteArray):Co:=⟨3,s.data.toList,0⟩
def jO (s:ByteArray):Co:=⟨1,s.data.toList,0⟩
def aA (n:Nat):Co:=⟨2,qF n,n⟩
theorem zY (s:ByteArray):bs s.data.toList=s:=bY (zZ _)
theorem jmw (c:Co):rJ [c]=bs c.text:=by
 show jA (bs c.text) ⟨#[]⟩ = _
 exact mW _
theorem LexT.num (n:Nat) (hn:n<=2147483647):LexT (aA n):=by
 have h1:=jea n
 have h2:=jk1 n
 have h3:=jmr n
 unfold aA;generalize qF n=l at *
 cases l with
 | nil=>exact absurd rfl h3
 | cons c r =>
  have:=jkq c r h1 (by rw[h2];omega)
  rw[h2] at this;exact this
structure TN (b:ByteArray) (l:List Co):Prop where
 eq:b=rJ l
 lx:∀ c ∈ l,LexT c
 fi:Fine false l
 en:EndS l
theorem TN.one {c:Co} (h:LexT c) (hs:aE c.text=true) (hf:qA (bs c.text) ≠ 61):TN (bs c.text) [c] where
 eq:=(jmw c).symm
 lx:=fun x hx=>by rw[List.mem_singleton.1 hx];exact h
 fi:=⟨fun _=>hf,trivial⟩
 en:=hs
theorem TN.cat {b1 b2:ByteArray} {l1 l2:List Co} (h1:TN b1 l1) (h2:TN b2 l2):TN (jA b1 b2) (l1++l2) where
 eq:=by rw[h1.eq,h2.eq,jcS _ _ (fun c hc=>(h1.lx c hc).ne) (fun c hc=>(h2.lx c hc).ne)]
 lx:=fun x hx=>by
  rcases List.mem_append.1 hx with hx | hx
  ·exact h1.lx x hx
  ·exact h2.lx x hx
 fi:=h1.fi.app h2.fi
 en:=h2.en.app
theorem TN.pre {b:ByteArray} {l:List Co} {o:Co} (ho:LexT o) (hf:qA (bs o.text) ≠ 61) (h:TN b l):TN (jA (bs o.text) b) (o :: l) where
 eq:=by rw[h.eq];rfl
 lx:=fun x hx=>by
  rcases List.mem_cons.1 hx with rfl | hx
  ·exact ho
  ·exact h.lx x hx
 fi:=⟨fun _=>hf,h.fi.more⟩
 en:=EndS.app (l:=[o]) h.en
theorem TN.mid {b1 b2:ByteArray} {l1 l2:List Co} {o:Co} (h1:TN b1 l1) (ho:LexT o) (h2:TN b2 l2):TN (jA (jA b1 (bs o.text)) b2) (l1++o :: l2) where
 eq:=by
  rw[h1.eq,h2.eq,qN _ _ _ (jhf ho.ne),jcS _ _ (fun c hc=>(h1.lx c hc).ne) (fun c hc=>by
   rcases List.mem_cons.1 hc with rfl | hc
   ·exact ho.ne
   ·exact (h2.lx c hc).ne)]
  rfl
 lx:=fun x hx=>by
  rcases List.mem_append.1 hx with hx | hx
  ·exact h1.lx x hx
  ·rcases List.mem_cons.1 hx with rfl | hx
   ·exact ho
   ·exact h2.lx x hx
 fi:=h1.fi.app2 h1.en ⟨(fun h=>by cases h),h2.fi.more⟩
 en:=EndS.app (EndS.app (l:=[o]) h2.en)
theorem TN.ne {b:ByteArray} {l:List Co} (h:TN b l):b ≠ ⟨#[]⟩ := by
 have he:=h.en
 rw[h.eq]
 cases l with
 | nil=>exact he.elim
 | cons c l=>exact jg4 (h.lx c List.mem_cons_self).ne
theorem lH (s:ByteArray) (c:UInt8) (hs:s.data.toList=[c]) (hc:c ∈ jhN):LexT (jG s):=by
 unfold jG;rw[hs];exact jiI c hc
theorem jbM (s:ByteArray) (c d:UInt8) (hs:s.data.toList=[c,d]) (hc:(c,d) ∈ jm4):LexT (jG s):=by
 unfold jG;rw[hs];exact jiJ c d hc
def jos:List UInt8->Bool
 | []=>false
 | c :: r=>isL c && (c :: r).all zE && decide (r.length+1<=10)
theorem n8 (s:ByteArray) (h:jos s.data.toList=true):LexT (jO s):=by
 unfold jO;generalize s.data.toList=l at *
 cases l with
 | nil=>cases h
 | cons c r =>
  unfold jos at h;simp only[Bool.and_eq_true,decide_eq_true_eq] at h;exact jiK c r h.1.1 (fun x hx=>List.all_eq_true.1 h.1.2 x hx) h.2
def v6 (p lv:Int) (fu:Bool) (l:List Co):List Co:=if p<lv then jG pLp :: l++[jG pRp] else if fu=true then (if p<8 then jG pLp :: l++[jG pRp] else l) else l
theorem jo6:LexT (jG pLp):=lH pLp 40 rfl (by decide)
theorem jo7:LexT (jG pRp):=lH pRp 41 rfl (by decide)
theorem TN.par {b:ByteArray} {l:List Co} (h:TN b l) (p lv:Int) (fu:Bool):TN (aK p lv fu b) (v6 p lv fu l):=by
 have h1:=(h.pre jo6 (by decide)).cat (TN.one jo7 (by decide) (by decide))
 have e:pLp++b++pRp=jA (jA (bs (jG pLp).text) b) (bs (jG pRp).text):=by
  rw[show bs (jG pLp).text=pLp from rfl,show bs (jG pRp).text=pRp from rfl,nJ pLp b (by decide),kR _ pRp (by decide)]
 rw[<- e] at h1;unfold v6 aK
 by_cases hp:p<lv
 ·rw[if_pos hp,if_pos hp];exact h1
 ·rw[if_neg hp,if_neg hp]
  cases fu with
  | false=>exact h
  | true =>
   rw[if_pos rfl,if_pos rfl]
   by_cases hp8:p<8
   ·rw[if_pos hp8,if_pos hp8];exact h1
   ·rw[if_neg hp8,if_neg hp8];exact h
def noT:Int->List Co:=fun _=>[]
def jqw (k n:Int) (s:ByteArray) (g:List (Int->List Co)):List Co :=
 if k=12 then [aA n.toNat]
 else if k=13 then [jO (tfB n)]
 else if k=16 then jO wDraw :: jG pLp :: (g.getD 0 noT) 1++[jG pRp]
 else if k=17 then jG s :: (g.getD 0 noT) (jL k s)
 else if k=18 then (g.getD 0 noT) (if jL k s=4 then 5 else jL k s)++jG s :: (g.getD 1 noT) (jL k s+1)
 else [jO s]
mutual
def zV (fu:Bool):Nt->Int->List Co
 | .mk k n s kids,req=>v6 (jL k s) req fu (jqw k n s (jrt fu kids))
def jrt (fu:Bool):List Nt->List (Int->List Co)
 | []=>[]
 | f :: l=>zV fu f :: jrt fu l
end
variable {fu:Bool}
def TE (fu:Bool) (f:Nt):Prop := ∀ lv,TN (zK fu f lv) (zV fu f lv)
theorem jlL (n:Nat) (hn:n<=2147483647):TE fu (.mk 12 n eB []):=fun lv=>by
 have h:=TN.one (LexT.num n hn) (by
  have h1:=jea n
  show aE (qF n)=true
  unfold aE;rw[j8 (fun e=>by rw[e] at h1;exact absurd (h1 60 (by simp)) (by decide)),j8 (fun e=>by rw[e] at h1;exact absurd (h1 62 (by simp)) (by decide)),j8 (fun e=>by rw[e] at h1;exact absurd (h1 61 (by simp)) (by decide)),j8 (fun e=>by rw[e] at h1;exact absurd (h1 33 (by simp)) (by decide))]
  rfl) (by
  have h2:=lC n
  show qA (bs (qF n)) ≠ 61
  intro e;rw[e] at h2
  exact absurd h2 (by decide))
 exact h.par 8 lv fu
theorem jlM (k:Int) (hk:k=14 ∨ k=15) (s:ByteArray) (hw:LexT (jO s)) (h1:aE s.data.toList=true) (h2:qA s ≠ 61):TE fu (.mk k 0 s []):=fun lv=>by
 have h:=TN.one hw h1 (by rw[show (jO s).text=s.data.toList from rfl,zY];exact h2)
 rw[show (jO s).text=s.data.toList from rfl,zY] at h
 rcases hk with rfl | rfl
 ·exact h.par 8 lv fu
 ·exact h.par 8 lv fu
theorem jnv (n:Nat) (hn:n<2):TE fu (.mk 13 n eB []):=fun lv=>by
 have hw:LexT (jO (tfB n))/\aE (tfB n).data.toList=true/\qA (tfB n) ≠ 61:=by
  rcases (by omega:n=0 ∨ n=1) with rfl | rfl
  ·exact⟨n8 _ (by decide),by decide,by decide⟩
  ·exact⟨n8 _ (by decide),by decide,by decide⟩
 have h:=TN.one hw.1 hw.2.1 (by rw[show (jO (tfB n)).text=(tfB n).data.toList from rfl,zY];exact hw.2.2)
 rw[show (jO (tfB n)).text=(tfB n).data.toList from rfl,zY] at h;exact h.par 8 lv fu
theorem jpX (f:Nt) (hf:TE fu f):TE fu (.mk 16 0 eB [f]):=fun lv=>by
 have hd:LexT (jO wDraw):=n8 _ (by decide)
 have h:=(((hf 1).pre jo6 (by decide)).pre hd (by decide)).cat (TN.one jo7 (by decide) (by decide))
 have e:zK fu (.mk 16 0 eB [f]) lv=aK 8 lv fu (qM [wDraw,pLp,zK fu f 1,pRp]):=rfl
 have e2:qM [wDraw,pLp,zK fu f 1,pRp]=jA (jA (bs (jO wDraw).text) (jA (bs (jG pLp).text) (zK fu f 1))) (bs (jG pRp).text):=by
  show jA (jA (jA (jA eB wDraw) pLp) (zK fu f 1)) pRp=_
  rw[kF,qN wDraw pLp _ (by decide)];rfl
 rw[e,e2];exact h.par 8 lv fu
theorem jlN (s:ByteArray) (hs:LexT (jG s)) (h2:qA s ≠ 61) (f:Nt) (hf:TE fu f):TE fu (.mk 17 0 s [f]):=fun lv=>by
 have h:=(hf (jL 17 s)).pre hs (by rw[show (jG s).text=s.data.toList from rfl,zY];exact h2)
 rw[show (jG s).text=s.data.toList from rfl,zY] at h
 have e:zK fu (.mk 17 0 s [f]) lv=aK (jL 17 s) lv fu (qM [s,zK fu f (jL 17 s)]):=rfl
 have e2:qM [s,zK fu f (jL 17 s)]=jA s (zK fu f (jL 17 s)):=by
  show jA (jA eB s) _=_
  rw[kF]
 rw[e,e2];exact h.par (jL 17 s) lv fu
theorem jpW (s:ByteArray) (hs:LexT (jG s)) (f g:Nt) (hf:TE fu f) (hg:TE fu g):TE fu (.mk 18 0 s [f,g]):=fun lv=>by
 have h:=(hf (if jL 18 s=4 then 5 else jL 18 s)).mid hs (hg (jL 18 s+1))
 rw[show (jG s).text=s.data.toList from rfl,zY] at h
 have e:zK fu (.mk 18 0 s [f,g]) lv=aK (jL 18 s) lv fu (qM [zK fu f (if jL 18 s=4 then 5 else jL 18 s),s,zK fu g (jL 18 s+1)]):=rfl
 have e2:qM [zK fu f (if jL 18 s=4 then 5 else jL 18 s),s,zK fu g (jL 18 s+1)]=jA (jA (zK fu f (if jL 18 s=4 then 5 else jL 18 s)) s) (zK fu g (jL 18 s+1)):=by
  show jA (jA (jA eB _) s) _=_
  rw[kF]
 rw[e,e2];exact h.par (jL 18 s) lv fu
theorem jmI:∀ s ∈ opL,LexT (jG s):=fun s hs=>by
 unfold opL at hs;simp only[List.mem_cons,List.not_mem_nil,or_false] at hs
 rcases hs with rfl | rfl | rfl | rfl
 ·exact lH _ 43 rfl (by decide)
 ·exact lH _ 45 rfl (by decide)
 ·exact lH _ 42 rfl (by decide)
 ·exact lH _ 47 rfl (by decide)
theorem jko:∀ s ∈ jfS,LexT (jG s):=fun s hs=>by
 unfold jfS at hs;simp only[List.mem_cons,List.not_mem_nil,or_false] at hs
 rcases hs with rfl | rfl
 ·exact jbM _ 38 38 rfl (by decide)
 ·exact jbM _ 124 124 rfl (by decide)
theorem jkp:∀ s ∈ cmpL,LexT (jG s):=fun s hs=>by
 unfold cmpL at hs;simp only[List.mem_cons,List.not_mem_nil,or_false] at hs
 rcases hs with rfl | rfl | rfl | rfl | rfl | rfl
 ·exact lH _ 60 rfl (by decide)
 ·exact jbM _ 60 61 rfl (by decide)
 ·exact lH _ 62 rfl (by decide)
 ·exact jbM _ 62 61 rfl (by decide)
 ·exact jbM _ 61 61 rfl (by decide)
 ·exact jbM _ 33 61 rfl (by decide)
theorem jjN:∀ s ∈ builtL,LexT (jO s)/\aE s.data.toList=true/\qA s ≠ 61:=fun s hs=>by
 unfold builtL at hs;simp only[List.mem_cons,List.not_mem_nil,or_false] at hs
 rcases hs with rfl | rfl | rfl | rfl | rfl | rfl | rfl | rfl | rfl <;> exact⟨n8 _ (by decide),by decide,by decide⟩
end
section
variable {fu:Bool}
def cmT:List (List Co)->List Co
 | []=>[]
 | x :: l=>x++l.flatMap fun y=>jG pComma :: y
theorem je4 (x:List Co) (l:List (List Co)) (y:List Co):cmT (x :: l++[y])=cmT (x :: l)++jG pComma :: y:=by
 unfold cmT
 show x++(l++[y]).flatMap _=_
 rw[List.flatMap_append,List.flatMap_cons,List.flatMap_nil,List.append_nil,List.append_assoc]
theorem jhw:LexT (jG pComma):=lH pComma 44 rfl (by decide)
theorem jo8:LexT (jG pSemi):=lH pSemi 59 rfl (by decide)
theorem jqW:LexT (jG pEq):=lH pEq 61 rfl (by decide)
theorem jqX:LexT (jG pLb):=lH pLb 123 rfl (by decide)
theorem jqY:LexT (jG pRb):=lH pRb 125 rfl (by decide)
theorem jom:∀ (n:Nat) (l:List Nt),l.length=n+1->(∀ f ∈ l,TE fu f)->TN (cmF (l.map fun f=>zK fu f 1)) (cmT (l.map fun f=>zV fu f 1))
 | 0,l,hl,h=>by
  obtain⟨f,rfl⟩ := List.length_eq_one_iff.1 hl
  have h1:=h f List.mem_cons_self 1
  show TN (jA eB (zK fu f 1)) (zV fu f 1++[])
  rw[kF,List.append_nil];exact h1
 | n+1,l,hl,h=>by
  have hne:l ≠ []:=fun e=>by rw[e] at hl;cases hl
  have e:=List.dropLast_concat_getLast hne
  have hy:=h _ (List.getLast_mem hne) 1
  have ih:=jom n l.dropLast (by rw[List.length_dropLast];omega) fun f hf=>h f (List.dropLast_subset l hf)
  generalize l.getLast hne=y at *
  have hd:l.dropLast ≠ []:=fun e0=>by rw[e0] at e;rw[<- e] at hl;simp at hl
  generalize l.dropLast=m at *;subst e
  cases m with
  | nil=>exact absurd rfl hd
  | cons x m =>
   rw[List.map_append,List.map_append]
   show TN (cmF ((zK fu x 1 :: m.map fun f=>zK fu f 1)++[zK fu y 1])) (cmT ((zV fu x 1 :: m.map fun f=>zV fu f 1)++[zV fu y 1]))
   rw[mP,je4]
   have h1:=ih.mid jhw hy
   have e1:bs (jG pComma).text=pComma:=rfl
   rw[e1,kR _ pComma (by decide)] at h1;exact h1
def lsT (fu:Bool) (l:List Nt):List Co:=cmT (l.map fun f=>zV fu f 1)++[jG pSemi]
theorem jlT (l:List Nt) (hl:l ≠ []) (h:∀ f ∈ l,TE fu f):TN (zG fu l) (lsT fu l):=by
 have h1:=jom (l.length-1) l (by have:=List.length_pos_iff.2 hl;omega) h
 have h2:=h1.cat (TN.one jo8 (by decide) (by decide))
 rw[show bs (jG pSemi).text=pSemi from rfl,kR _ pSemi (by decide)] at h2;exact h2
def jrQ (fu:Bool) (k n:Int) (s:ByteArray) (kids:List Nt) (bks:List (List Co)):List Co :=
 if k=1 then jO s :: jG pEq :: lsT fu kids
 else if k=3 then jO wWhile :: zV fu (kid kids 0) 1++bks.getD 1 []
 else if k=4 then jO wSend :: zV fu (kid kids 0) 1++jG pComma :: aA n.toNat :: jG pComma :: lsT fu (kids.drop 1)
 else if k=5 then [jO wTimer,aA n.toNat,jG pSemi]
 else if k=6 then [jO wCancel,aA n.toNat,jG pSemi]
 else if k=7 then [jO xY,jG pSemi]
 else if k=10 then [jO xX,jG pSemi]
 else if k=8 then jO wReply :: lsT fu kids
 else if k=9 then jO wFail :: lsT fu kids
 else if 0<(kid kids 2).kids.length then jO wIf :: zV fu (kid kids 0) 1++bks.getD 1 []++jO wElse :: bks.getD 2 [] else jO wIf :: zV fu (kid kids 0) 1++bks.getD 1 []
mutual
def iN (fu:Bool):Nt->List Co
 | .mk k n s kids=>jrQ fu k n s kids (jrs fu kids)
def eZ (fu:Bool):Nt->List Co
 | .mk _ _ _ kids=>jG pLb :: (jnx fu kids).flatten++[jG pRb]
def jnx (fu:Bool):List Nt->List (List Co)
 | []=>[]
 | f :: l=>iN fu f :: jnx fu l
def jrs (fu:Bool):List Nt->List (List Co)
 | []=>[]
 | f :: l=>eZ fu f :: jrs fu l
end
theorem jaG:∀ l:List Nt,jnx fu l=l.map (iN fu)
 | []=>rfl
 | f :: l=>by rw[jnx,jaG l];rfl
def TS (fu:Bool) (f:Nt):Prop:=TN (aG fu f) (iN fu f)
def TB (fu:Bool) (f:Nt):Prop:=TN (gO fu f) (eZ fu f)
theorem jdz (l:List Nt) (h:∀ f ∈ l,TS fu f):TB fu (zD l):=by
 have key:∀ (m:List Nt) (b:ByteArray) (t:List Co),TN b t->(∀ f ∈ m,TS fu f)->TN ((m.map (aG fu)).foldl jA b) (t++(m.map (iN fu)).flatten):=fun m=>by
  induction m with
  | nil=>intro b t h _;rw[List.map_nil,List.map_nil,List.flatten_nil,List.append_nil];exact h
  | cons f m ih =>
   intro b t h1 h2
   have h3:=ih (jA b (aG fu f)) (t++iN fu f) (h1.cat (h2 f List.mem_cons_self)) fun g hg=>h2 g (List.mem_cons_of_mem _ hg)
   rw[List.map_cons,List.map_cons,List.flatten_cons,<- List.append_assoc];exact h3
 have h1:=key l pLb [jG pLb] (TN.one jqX (by decide) (by decide)) h
 have h2:=h1.cat (TN.one jqY (by decide) (by decide))
 unfold TB
 have e:gO fu (zD l)=bkL fu l++pRb:=jfP _ _ _ _ _
 have e2:eZ fu (zD l)=jG pLb :: (l.map (iN fu)).flatten++[jG pRb]:=by
  unfold zD;rw[eZ,jaG]
 rw[e,e2];rw[show bs (jG pRb).text=pRb from rfl,kR _ pRb (by decide)] at h2;exact h2
theorem jq5 (s:ByteArray) (hw:LexT (jO s)/\aE s.data.toList=true/\qA s ≠ 61) (l:List Nt) (hl:l ≠ []) (h:∀ f ∈ l,TE fu f):TS fu (.mk 1 0 s l):=by
 have h0:=TN.one hw.1 hw.2.1 (by rw[show (jO s).text=s.data.toList from rfl,zY];exact hw.2.2)
 rw[show (jO s).text=s.data.toList from rfl,zY] at h0
 have h1:=h0.mid jqW (jlT l hl h)
 have e:aG fu (.mk 1 0 s l)=jA (jA s pEq) (zG fu l):=by
  show jA (jA (jA eB s) pEq) (zG fu l)=_
  rw[kF]
 show TN (aG fu (.mk 1 0 s l)) _
 rw[e];exact h1
theorem jlU (w:ByteArray) (hw:LexT (jO w)) (hf:qA w ≠ 61) (l:List Nt) (hl:l ≠ []) (h:∀ f ∈ l,TE fu f):TN (qM [w,zG fu l]) (jO w :: lsT fu l):=by
 have h1:=(jlT l hl h).pre hw (by rw[show (jO w).text=w.data.toList from rfl,zY];exact hf)
 rw[show (jO w).text=w.data.toList from rfl,zY] at h1
 show TN (jA (jA eB w) (zG fu l)) _
 rw[kF];exact h1
theorem jq8 (l:List Nt) (hl:l ≠ []) (h:∀ f ∈ l,TE fu f):TS fu (.mk 8 0 eB l):=jlU wReply (n8 _ (by decide)) (by decide) l hl h
theorem jq6 (l:List Nt) (hl:l ≠ []) (h:∀ f ∈ l,TE fu f):TS fu (.mk 9 0 eB l):=jlU wFail (n8 _ (by decide)) (by decide) l hl h
end
section
variable {fu:Bool}
theorem jdx (n:Nat) (hn:n<=2147483647):TN (bs (qF n)) [aA n]:=jlL (fu:=false) n hn 0
theorem TN.wrd {b:ByteArray} {l:List Co} (w:ByteArray) (hw:LexT (jO w)) (hf:qA w ≠ 61) (h:TN b l):TN (jA w b) (jO w :: l):=by
 have h1:=h.pre hw (by rw[show (jO w).text=w.data.toList from rfl,zY];exact hf)
 rw[show (jO w).text=w.data.toList from rfl,zY] at h1;exact h1
theorem TN.end {b:ByteArray} {l:List Co} (h:TN b l):TN (jA b pSemi) (l++[jG pSemi]):=h.cat (TN.one jo8 (by decide) (by decide))
theorem fY (w:ByteArray) (hw:LexT (jO w)) (hs:aE w.data.toList=true) (hf:qA w ≠ 61):TN w [jO w]:=by
 have h0:=TN.one hw hs (by rw[show (jO w).text=w.data.toList from rfl,zY];exact hf)
 rw[show (jO w).text=w.data.toList from rfl,zY] at h0;exact h0
theorem jm1 (k:Int) (hk:k=5 ∨ k=6) (n:Nat) (hn:n<1000):TS fu (.mk k n eB []):=by
 have hd:=jdx n (by omega)
 rcases hk with rfl | rfl
 ·have h:=(hd.wrd wTimer (n8 _ (by decide)) (by decide)).end
  have e:aG fu (.mk 5 n eB [])=jA (jA wTimer (bs (qF n))) pSemi:=by
   show jA (jA (jA eB wTimer) (bs (qF n))) pSemi=_
   rw[kF]
  show TN (aG fu (.mk 5 n eB [])) _
  rw[e];exact h
 ·have h:=(hd.wrd wCancel (n8 _ (by decide)) (by decide)).end
  have e:aG fu (.mk 6 n eB [])=jA (jA wCancel (bs (qF n))) pSemi:=by
   show jA (jA (jA eB wCancel) (bs (qF n))) pSemi=_
   rw[kF]
  show TN (aG fu (.mk 6 n eB [])) _
  rw[e];exact h
theorem jm2 (k:Int) (hk:k=7 ∨ k=10):TS fu (.mk k 0 eB []):=by
 rcases hk with rfl | rfl
 ·have h:=(fY xY (n8 _ (by decide)) (by decide) (by decide)).end
  show TN (aG fu (.mk 7 0 eB [])) _
  rw[show aG fu (.mk 7 0 eB [])=jA xY pSemi by (show syncB=_);decide];exact h
 ·have h:=(fY xX (n8 _ (by decide)) (by decide) (by decide)).end
  show TN (aG fu (.mk 10 0 eB [])) _
  rw[show aG fu (.mk 10 0 eB [])=jA xX pSemi by (show stopB=_);decide];exact h
theorem jq9 (n:Nat) (hn:n<1000) (f g h:Nt) (hf:TE fu f) (hg:TE fu g) (hh:TE fu h):TS fu (.mk 4 n eB [f,g,h]):=by
 have hl:=jlT [g,h] (by simp) fun x hx=>by
  simp only[List.mem_cons,List.not_mem_nil,or_false] at hx
  rcases hx with rfl | rfl
  ·exact hg
  ·exact hh
 have h1:=(((hf 1).wrd wSend (n8 _ (by decide)) (by decide)).mid jhw (jdx n (by omega))).mid jhw hl
 have e:aG fu (.mk 4 n eB [f,g,h])=jA (jA (jA (jA (jA wSend (zK fu f 1)) pComma) (bs (qF n))) pComma) (zG fu [g,h]):=by
  show jA (jA (jA (jA (jA (jA eB wSend) (zK fu f 1)) pComma) (bs (qF n))) pComma) (zG fu [g,h])=_
  rw[kF]
 have e2:iN fu (.mk 4 n eB [f,g,h])=(jO wSend :: zV fu f 1++jG pComma :: [aA n])++jG pComma :: lsT fu [g,h]:=by
  show jO wSend :: zV fu f 1++jG pComma :: aA n :: jG pComma :: lsT fu [g,h]=_
  simp
 show TN _ _
 rw[e,e2];exact h1
theorem jqa (c b:Nt) (hc:TE fu c) (hb:TB fu b):TS fu (.mk 3 0 eB [c,b]):=by
 have h1:=((hc 1).wrd wWhile (n8 _ (by decide)) (by decide)).cat hb
 have e:aG fu (.mk 3 0 eB [c,b])=jA (jA wWhile (zK fu c 1)) (gO fu b):=by
  show jA (jA (jA eB wWhile) (zK fu c 1)) (gO fu b)=_
  rw[kF]
 show TN (aG fu (.mk 3 0 eB [c,b])) _
 rw[e];exact h1
theorem jq7 (c b d:Nt) (hc:TE fu c) (hb:TB fu b) (hd:TB fu d):TS fu (.mk 2 0 eB [c,b,d]):=by
 have h1:=((hc 1).wrd wIf (n8 _ (by decide)) (by decide)).cat hb
 have e:aG fu (.mk 2 0 eB [c,b,d])=if 0<d.kids.length then qM [qM [wIf,zK fu c 1,gO fu b],wElse,gO fu d] else qM [wIf,zK fu c 1,gO fu b]:=rfl
 have e3:qM [wIf,zK fu c 1,gO fu b]=jA (jA wIf (zK fu c 1)) (gO fu b):=by
  show jA (jA (jA eB wIf) (zK fu c 1)) (gO fu b)=_
  rw[kF]
 have e2:iN fu (.mk 2 0 eB [c,b,d])=if 0<d.kids.length then jO wIf :: zV fu c 1++eZ fu b++jO wElse :: eZ fu d else jO wIf :: zV fu c 1++eZ fu b:=rfl
 show TN _ _
 rw[e,e2,e3]
 by_cases hl:0<d.kids.length
 ·rw[if_pos hl,if_pos hl]
  have h2:=h1.cat (hd.wrd wElse (n8 _ (by decide)) (by decide))
  show TN (jA (jA (jA eB (jA (jA wIf (zK fu c 1)) (gO fu b))) wElse) (gO fu d)) _
  rw[kF,qN _ _ _ (by decide)];exact h2
 ·rw[if_neg hl,if_neg hl];exact h1
def jcV (n:Int):List Co:=if n=1 then [jO wRequest] else if 10<=n then [jO wMessage,aA (n-10).toNat] else if 2<=n then [jO wTimer,aA (n-2).toNat] else [jO wStart]
theorem jq0 (n:Int) (hn:n<40):TN (hdW n) (jcV n):=by
 unfold hdW jcV
 repeat' split
 ·exact fY _ (n8 _ (by decide)) (by decide) (by decide)
 ·rw[show wMsgS=wMessage ++ ⟨#[32]⟩ by decide,<- mV wMessage (by decide) (by decide)];exact (jdx _ (by omega)).wrd wMessage (n8 _ (by decide)) (by decide)
 ·rw[show wTimS=wTimer ++ ⟨#[32]⟩ by decide,<- mV wTimer (by decide) (by decide)];exact (jdx _ (by omega)).wrd wTimer (n8 _ (by decide)) (by decide)
 ·exact fY _ (n8 _ (by decide)) (by decide) (by decide)
def nL (fu:Bool) (h:Int × Nt):List Co:=jO wOn :: jcV h.1++eZ fu h.2
theorem jru (h:Int × Nt) (hn:h.1<40) (hb:TB fu h.2):TN (hdN fu h) (nL fu h):=by
 have h1:=((jq0 h.1 hn).wrd wOn (n8 _ (by decide)) (by decide)).cat hb
 show TN (jA (jA (jA eB wOn) (hdW h.1)) (gO fu h.2)) _
 rw[kF];exact h1
theorem jq1 (m:List (Int × Nt)) (b:ByteArray) (t:List Co) (h:TN b t) (hm:∀ x ∈ m,TN (hdN fu x) (nL fu x)):TN (r7 fu b m) (t++(m.map (nL fu)).flatten):=by
 induction m generalizing b t with
 | nil=>rw[List.map_nil,List.flatten_nil,List.append_nil];exact h
 | cons f m ih =>
  have q3:=ih (jA b (hdN fu f)) (t++nL fu f) (h.cat (hm f List.mem_cons_self)) fun g hg=>hm g (List.mem_cons_of_mem _ hg)
  rw[List.map_cons,List.flatten_cons,<- List.append_assoc];exact q3
end
def Beg (q:List Co) (ts r:List Tk):Prop := ∃ m,ts=m++r/\m.map tR=q
theorem Beg.nil {ts r:List Tk} (h:Beg [] ts r):ts=r:=by
 obtain⟨m,rfl,h⟩ := h
 rw[List.map_eq_nil_iff] at h;subst h;rfl
theorem Beg.cons {c:Co} {q:List Co} {ts r:List Tk} (h:Beg (c :: q) ts r):tR (hd ts)=c/\Beg q ts.tail r/\ts ≠ []:=by
 obtain⟨m,rfl,h⟩ := h
 cases m with
 | nil=>cases h
 | cons t m =>
  rw[List.map_cons,List.cons.injEq] at h;exact⟨h.1,⟨m,rfl,h.2⟩,by simp⟩
theorem Beg.app {p q:List Co} {ts r:List Tk} (h:Beg (p++q) ts r):∃ s,Beg p ts s/\Beg q s r:=by
 obtain⟨m,rfl,h⟩ := h
 rw[List.map_eq_append_iff] at h
 obtain⟨a,b,rfl,h1,h2⟩ := h
 exact⟨b++r,⟨a,List.append_assoc _ _ _,h1⟩,⟨b,rfl,h2⟩⟩
theorem Beg.len {q:List Co} {ts r:List Tk} (h:Beg q ts r):ts.length=q.length+r.length:=by
 obtain⟨m,rfl,h⟩ := h
 rw[<- h];simp
theorem m5 {ts:List Tk} {c:Co} (h:tR (hd ts)=c):(hd ts).text=bs c.text:=by
 subst h;exact bY (by rw[zZ];rfl)
theorem xM {ts:List Tk} {c:Co} (h:tR (hd ts)=c):(hd ts).kind=c.kind/\(hd ts).n=c.n:=by
 subst h;exact⟨rfl,rfl⟩
theorem jcY {ts:List Tk} {c:Co} (h:tR (hd ts)=c) (s:ByteArray):qS s ts=(decide (bs c.text=s) && (decide (c.kind=1) || decide (c.kind=3))):=by
 unfold qS;rw[m5 h,(xM h).1]
theorem jmC {ts:List Tk} {c:Co} (h:tR (hd ts)=c):yU ts=(decide (c.kind=1) && !(keyL++builtL).any fun s=>decide (bs c.text=s)):=by
 unfold yU;rw[m5 h,(xM h).1]
theorem jmA {ts:List Tk} {c:Co} (h:tR (hd ts)=c):jer ts=(decide (c.kind=1) && builtL.any fun s=>decide (bs c.text=s)):=by
 unfold jer;rw[m5 h,(xM h).1]
def noS (l:List ByteArray) (r:List Tk):Prop:=vV l r=false
def opE (low:Option Pa):Nat->List Tk->Pn
 | 1=>mR low
 | 2=>kG (lK low) [yP]
 | 3=>lK low
 | 4=>lK low
 | 5=>jax low
 | 6=>kG (x6 low) [z7,qJ]
 | 7=>x6 low
 | _=>wI low
def StE:Nat->List Tk->Prop
 | 1,r=>noS [z7,qJ] r/\noS [wH,pMinus] r/\noS cmpL r/\noS [yP] r/\noS [pOr] r
 | 2,r=>noS [z7,qJ] r/\noS [wH,pMinus] r/\noS cmpL r/\noS [yP] r
 | 3,r=>noS [z7,qJ] r/\noS [wH,pMinus] r/\noS cmpL r
 | 4,r=>noS [z7,qJ] r/\noS [wH,pMinus] r/\noS cmpL r
 | 5,r=>noS [z7,qJ] r/\noS [wH,pMinus] r
 | 6,r=>noS [z7,qJ] r
 | _,_=>True
theorem mO {op:List Tk->Pn} {l:List ByteArray} {ts r:List Tk} {f:Nt} (h:op ts = .ok f r) (hs:noS l r):kG op l ts = .ok f r:=by
 unfold kG;rw[h]
 show xK op l r.length f r=_
 cases hl:r.length with
 | zero=>rfl
 | succ n =>
  unfold xK;rw[show vV l r=false from hs];rfl
def PE (low:Option Pa) (lv:Nat) (b:List Co) (f:Nt):Prop := ∀ ts r,Beg b ts r->StE lv r->opE low lv ts = .ok f r
theorem jeT {low:Option Pa} {b:List Co} {f:Nt} (h:PE low 2 b f):PE low 1 b f:=fun ts r hb hs=>mO (h ts r hb ⟨hs.1,hs.2.1,hs.2.2.1,hs.2.2.2.1⟩) hs.2.2.2.2
theorem jbY {low:Option Pa} {b:List Co} {f:Nt} (h:PE low 3 b f):PE low 2 b f:=fun ts r hb hs=>mO (h ts r hb ⟨hs.1,hs.2.1,hs.2.2.1⟩) hs.2.2.2
theorem jkQ {low:Option Pa} {b:List Co} {f:Nt} (h:PE low 6 b f):PE low 5 b f:=fun ts r hb hs=>mO (h ts r hb hs.1) hs.2
theorem jkR {low:Option Pa} {b:List Co} {f:Nt} (h:PE low 7 b f):PE low 6 b f:=fun ts r hb hs=>mO (h ts r hb trivial) hs
def yT (s:ByteArray):List Co->Prop
 | []=>False
 | c :: _=>bs c.text ≠ s
theorem jd7 {s:ByteArray} {b:List Co} {ts r:List Tk} (h:yT s b) (hb:Beg b ts r):qS s ts=false:=by
 cases b with
 | nil=>exact h.elim
 | cons c b =>
  rw[jcY hb.cons.1,j8 (show ¬ bs c.text=s from h)];rfl
theorem joh {low:Option Pa} {b:List Co} {f:Nt} (h:PE low 5 b f) (hn:yT zH b):PE low 4 b f:=fun ts r hb hs=>by
 have h1:jax low ts = .ok f r:=h ts r hb ⟨hs.1,hs.2.1⟩
 show lK low ts=_
 unfold lK;rw[if_neg (by rw[jd7 hn hb];decide),h1]
 show (if vV cmpL r=true then _ else Pn.ok f r)=_
 rw[if_neg (by rw[show vV cmpL r=false from hs.2.2];decide)]
theorem jkP {low:Option Pa} {b:List Co} {f:Nt} (h:PE low 4 b f):PE low 3 b f:=fun ts r hb hs=>h ts r hb hs
theorem jre {low:Option Pa} {b:List Co} {f:Nt} (h:PE low 8 b f) (hn:yT pMinus b):PE low 7 b f:=fun ts r hb hs=>by
 have h1:wI low ts = .ok f r:=h ts r hb trivial
 show x6 low ts=_
 unfold x6;rw[if_neg (by rw[jd7 hn hb];decide)];exact h1
theorem pO {low:Option Pa} {b:List Co} {f:Nt} (h:PE low 8 b f) (h1:yT zH b) (h2:yT pMinus b):∀ lv:Nat,1<=lv->lv<=8->PE low lv b f:=fun lv a c=>by
 have g7:=jre h h2
 have g6:=jkR g7
 have g5:=jkQ g6
 have g4:=joh g5 h1
 have g3:=jkP g4
 have g2:=jbY g3
 have g1:=jeT g2
 rcases (by omega:lv=1 ∨ lv=2 ∨ lv=3 ∨ lv=4 ∨ lv=5 ∨ lv=6 ∨ lv=7 ∨ lv=8) with rfl | rfl | rfl | rfl | rfl | rfl | rfl | rfl <;> assumption
theorem jpq (low:Option Pa) (n:Nat):PE low 8 [aA n] (.mk 12 n eB []):=fun ts r hb hs=>by
 obtain⟨hc,hr,_⟩ := hb.cons
 have hr:=hr.nil
 have hk:=(xM hc).1
 have hn:=(xM hc).2
 have p:∀ s,qS s ts=false:=fun s=>by
  rw[jcY hc]
  show (_ && (decide ((2:Int)=1) || decide ((2:Int)=3)))=false
  rw[Bool.and_eq_false_iff];exact .inr (by decide)
 show wI low ts=_
 unfold wI;rw[if_neg (by rw[p];decide),if_neg (by rw[p];decide),if_pos (show (hd ts).kind=2 from hk),show (hd ts).n=n from hn,hr]
theorem q9 {s:ByteArray} {ts r:List Tk} {b:List Co} (hb:Beg (jO s :: b) ts r):(∀ x,qS x ts=decide (s=x))/\yU ts=(!(keyL++builtL).any fun x=>decide (s=x))/\jer ts=(builtL.any fun x=>decide (s=x))/\(hd ts).text=s/\(hd ts).kind=1/\Beg b ts.tail r:=by
 obtain⟨hc,hr,_⟩ := hb.cons
 have e:bs (jO s).text=s:=zY s
 refine⟨fun x => ?_,?_,?_,?_,(xM hc).1,hr⟩
 ·rw[jcY hc,e,show (decide ((jO s).kind=1) || decide ((jO s).kind=3))=true from rfl,Bool.and_true]
 ·rw[jmC hc,e,show decide ((jO s).kind=1)=true from rfl,Bool.true_and]
 ·rw[jmA hc,e,show decide ((jO s).kind=1)=true from rfl,Bool.true_and]
 ·rw[m5 hc,e]
theorem vM {s:ByteArray} {ts r:List Tk} {b:List Co} (hb:Beg (jG s :: b) ts r):(∀ x,qS x ts=decide (s=x))/\(hd ts).text=s/\(hd ts).kind=3/\Beg b ts.tail r:=by
 obtain⟨hc,hr,_⟩ := hb.cons
 have e:bs (jG s).text=s:=zY s
 refine⟨fun x => ?_,?_,(xM hc).1,hr⟩
 ·rw[jcY hc,e,show (decide ((jG s).kind=1) || decide ((jG s).kind=3))=true from rfl,Bool.and_true]
 ·rw[m5 hc,e]
theorem jie:∀ s ∈ builtL,decide (s=pLp)=false/\decide (s=wDraw)=false/\decide (s=oQ)=false/\decide (s=cZ)=false/\((keyL++builtL).any fun x=>decide (s=x))=true/\(builtL.any fun x=>decide (s=x))=true:=by decide
theorem jpo (low:Option Pa) (s:ByteArray) (h:s ∈ builtL):PE low 8 [jO s] (.mk 15 0 s []):=fun ts r hb hs=>by
 obtain⟨p,q,u,t,k,hr⟩ := q9 hb
 have hr:=hr.nil
 obtain⟨a1,a2,a3,a4,a5,a6⟩ := jie s h
 show wI low ts=_
 unfold wI;rw[p,p,p,p,a1,a2,a3,a4,q,a5,k,u,a6,t,hr];rfl
theorem zQ {s:ByteArray} {ts r:List Tk} {b:List Co} (hb:Beg (jG s :: b) ts r) (l:List ByteArray) (h:(l.any fun x=>decide (s=x))=false):noS l ts:=by
 obtain⟨p,_⟩ := vM hb
 unfold noS vV;rw[show (fun x=>qS x ts)=fun x=>decide (s=x) from funext p];exact h
theorem jhF (p:Pa) (low:Option Pa) (hp:p.ex=mR low) (b:List Co) (f:Nt) (h:PE low 1 b f):∀ ts r,Beg (jG pLp :: b++[jG pRp]) ts r->dB (some p) ts = .ok f r:=fun ts r hb=>by
 have hb:Beg (jG pLp :: (b++[jG pRp])) ts r:=hb
 obtain⟨q,_,_,hr⟩ := vM hb
 obtain⟨u,h1,h2⟩ := hr.app
 have h3:mR low ts.tail = .ok f u:=h ts.tail u h1 ⟨zQ h2 _ (by decide),zQ h2 _ (by decide),zQ h2 _ (by decide),zQ h2 _ (by decide),zQ h2 _ (by decide)⟩
 obtain⟨q2,_,_,hr2⟩ := vM h2
 have hr2:=hr2.nil
 unfold dB;rw[q,if_pos (by decide)]
 show (p.ex ts.tail).andThen _=_
 rw[hp,h3]
 show xpt pRp u _=_
 unfold xpt;rw[q2,if_pos (by decide),hr2]
theorem jpt (p:Pa) (low:Option Pa) (hp:p.ex=mR low) (b:List Co) (f:Nt) (h:PE low 1 b f):PE (some p) 8 (jG pLp :: b++[jG pRp]) f:=fun ts r hb hs=>by
 have h1:=jhF p low hp b f h ts r hb
 obtain⟨q,_⟩ := vM (b:=b++[jG pRp]) hb
 show wI (some p) ts=_
 unfold wI;rw[q,if_pos (by decide)];exact h1
theorem jpp (p:Pa) (low:Option Pa) (hp:p.ex=mR low) (b:List Co) (f:Nt) (h:PE low 1 b f):PE (some p) 8 (jO wDraw :: jG pLp :: b++[jG pRp]) (.mk 16 0 eB [f]):=fun ts r hb hs=>by
 obtain⟨q,_,_,_,k,hr⟩ := q9 (b:=jG pLp :: b++[jG pRp]) hb
 have h1:=jhF p low hp b f h ts.tail r hr
 show wI (some p) ts=_
 unfold wI;rw[q,q,if_neg (by decide),if_pos (by decide),h1];rfl
theorem jmV (low:Option Pa) (n:Nat) (hn:n<2):PE low 8 [jO (tfB n)] (.mk 13 n eB []):=fun ts r hb hs=>by
 rcases (by omega:n=0 ∨ n=1) with rfl | rfl
 ·have hb:Beg [jO cZ] ts r:=hb
  obtain⟨p,_,_,t,k,hr⟩ := q9 hb
  have hr:=hr.nil
  show wI low ts=_
  unfold wI;rw[p,p,p,p,if_neg (by decide),if_neg (by decide),if_neg (by rw[k];decide),if_neg (by decide),if_pos (by decide),hr];rfl
 ·have hb:Beg [jO oQ] ts r:=hb
  obtain⟨p,_,_,t,k,hr⟩ := q9 hb
  have hr:=hr.nil
  show wI low ts=_
  unfold wI;rw[p,p,p,if_neg (by decide),if_neg (by decide),if_neg (by rw[k];decide),if_pos (by decide),hr];rfl
theorem jpr (p:Pa) (low:Option Pa) (hp:p.un=x6 low) (b:List Co) (f:Nt) (h:PE low 7 b f):PE (some p) 7 (jG pMinus :: b) (.mk 17 0 pMinus [f]):=fun ts r hb hs=>by
 obtain⟨q,_,_,hr⟩ := vM hb
 have h1:x6 low ts.tail = .ok f r:=h ts.tail r hr trivial
 show x6 (some p) ts=_
 unfold x6 r9;rw[q,if_pos (by decide)]
 show (p.un ts.tail).andThen _=_
 rw[hp,h1];rfl
theorem jps (p:Pa) (low:Option Pa) (hp:p.no=lK low) (b:List Co) (f:Nt) (h:PE low 3 b f):PE (some p) 3 (jG zH :: b) (.mk 17 0 zH [f]):=fun ts r hb hs=>by
 obtain⟨q,_,_,hr⟩ := vM hb
 have h1:lK low ts.tail = .ok f r:=h ts.tail r hr hs
 show lK (some p) ts=_
 unfold lK r9;rw[q,if_pos (by decide)]
 show (p.no ts.tail).andThen _=_
 rw[hp,h1];rfl
def CH (op:List Tk->Pn) (signs:List ByteArray) (stop:List Tk->Prop) (b:List Co) (f:Nt):Prop := ∀ ts r,Beg b ts r->stop r -> ∃ n,r.length<=n/\kG op signs ts=xK op signs n f r
theorem joN {op:List Tk->Pn} {signs:List ByteArray} {stop:List Tk->Prop} {b:List Co} {f:Nt} (h:∀ ts r,Beg b ts r->stop r->op ts = .ok f r):CH op signs stop b f:=fun ts r hb hs=>⟨r.length,Nat.le_refl _,by unfold kG;rw[h ts r hb hs];rfl⟩
theorem sE {op:List Tk->Pn} {signs:List ByteArray} {stop:List Tk->Prop} {b b2:List Co} {f g:Nt} (o:ByteArray) (hf:CH op signs stop b f) (ho:(signs.any fun x=>decide (o=x))=true) (hst:∀ ts r,Beg (jG o :: b2) ts r->stop ts) (hg:∀ ts r,Beg b2 ts r->stop r->op ts = .ok g r):CH op signs stop (b++jG o :: b2) (.mk 18 0 o [f,g]):=fun ts r hb hs=>by
 obtain⟨u,h1,h2⟩ := hb.app
 obtain⟨n,hn,e⟩ := hf ts u h1 (hst u r h2)
 obtain⟨q,t,_,hr⟩ := vM h2
 have hl:=h2.len
 have hl2:=hr.len
 have ha:vV signs u=true:=by
  unfold vV;rw[show (fun x=>qS x u)=fun x=>decide (o=x) from funext q];exact ho
 obtain⟨m,rfl⟩ : ∃ m,n=m+1:=⟨n-1,by simp at hl;omega⟩
 refine⟨m,by simp at hl;omega,?_⟩;rw[e,xK,if_pos ha,hg _ r hr hs,t];rfl
theorem jcK {op:List Tk->Pn} {signs:List ByteArray} {stop:List Tk->Prop} {b:List Co} {f:Nt} (h:CH op signs stop b f):∀ ts r,Beg b ts r->stop r->noS signs r->kG op signs ts = .ok f r:=fun ts r hb hs hn=>by
 obtain⟨n,_,e⟩ := h ts r hb hs
 rw[e]
 cases n with
 | zero=>rfl
 | succ n=>rw[xK,if_neg (by rw[show vV signs r=false from hn];decide)]
section
def qC:Nat->Option Pa
 | 0=>none
 | d+1=>some (pa d)
theorem eD:∀ d,pa d=paG (qC d)
 | 0=>rfl
 | _+1=>rfl
def CE (low:Option Pa) (lv:Nat) (signs:List ByteArray) (b:List Co) (f:Nt):Prop:=CH (opE low (lv+1)) signs (StE (lv+1)) b f
structure XI (low:Option Pa) (t:Int->List Co) (f:Nt):Prop where
 pe:∀ lv:Nat,1<=lv->lv<=8->PE low lv (t lv) f
 c6:CE low 6 [z7,qJ] (t 6) f
 c5:CE low 5 [wH,pMinus] (t 5) f
 nn:∀ lv:Int,yT zH (t lv)
structure XB (low:Option Pa) (t:Int->List Co) (f:Nt):Prop where
 pe:∀ lv:Nat,1<=lv->lv<=8->PE low lv (t lv) f
 c2:CE low 2 [yP] (t 2) f
 c1:CE low 1 [pOr] (t 1) f
def mulL:List ByteArray:=[z7,qJ]
def addL:List ByteArray:=[wH,pMinus]
theorem jpn {low:Option Pa} {b:List Co} {f:Nt} (h:CE low 6 [z7,qJ] b f):PE low 6 b f:=fun ts r hb hs=>jcK h ts r hb trivial hs
theorem jrd {low:Option Pa} {b:List Co} {f:Nt} (h:CE low 5 [wH,pMinus] b f):PE low 5 b f:=fun ts r hb hs=>jcK h ts r hb hs.1 hs.2
theorem jrc {low:Option Pa} {b:List Co} {f:Nt} (h:CE low 2 [yP] b f):PE low 2 b f:=fun ts r hb hs=>jcK h ts r hb ⟨hs.1,hs.2.1,hs.2.2.1⟩ hs.2.2.2
theorem jrb {low:Option Pa} {b:List Co} {f:Nt} (h:CE low 1 [pOr] b f):PE low 1 b f:=fun ts r hb hs=>jcK h ts r hb ⟨hs.1,hs.2.1,hs.2.2.1,hs.2.2.2.1⟩ hs.2.2.2.2
theorem oU {low:Option Pa} {lv:Nat} {signs:List ByteArray} {b:List Co} {f:Nt} (h:PE low (lv+1) b f):CE low lv signs b f:=joN h
theorem jmW {low:Option Pa} {b:List Co} {f:Nt} (hn:yT zH b) (h:PE low 5 b f):∀ lv:Nat,1<=lv->lv<=5->PE low lv b f:=fun lv a c=>by
 have g4:=joh h hn
 have g3:=jkP g4
 have g2:=jbY g3
 have g1:=jeT g2
 rcases (by omega:lv=1 ∨ lv=2 ∨ lv=3 ∨ lv=4 ∨ lv=5) with rfl | rfl | rfl | rfl | rfl <;> assumption
theorem lN (p lv:Int) (fu:Bool) (l:List Co) (hl:lv<=8):(v6 p lv fu l=l/\lv<=p) ∨ (v6 p lv fu l=jG pLp :: l++[jG pRp]/\p<8):=by
 unfold v6
 by_cases h:p<lv
 ·rw[if_pos h];exact .inr ⟨rfl,by omega⟩
 ·rw[if_neg h]
  cases fu with
  | false=>exact .inl ⟨rfl,by omega⟩
  | true =>
   rw[if_pos rfl]
   by_cases h8:p<8
   ·rw[if_pos h8];exact .inr ⟨rfl,h8⟩
   ·rw[if_neg h8];exact .inl ⟨rfl,by omega⟩
theorem jkS {n:Nat} {b:List Co} {f:Nt} (h:PE (qC n) 1 b f):∀ lv:Nat,1<=lv->lv<=8->PE (qC (n+1)) lv (jG pLp :: b++[jG pRp]) f:=by
 have h1:=jpt (pa n) (qC n) (by rw[eD];rfl) b f h
 exact pO h1 (by show bs (jG pLp).text ≠ zH;decide) (by show bs (jG pLp).text ≠ pMinus;decide)
theorem ja3 {p lv:Int} {fu:Bool} {b:List Co} (h:yT zH b):yT zH (v6 p lv fu b):=by
 have h1:yT zH (jG pLp :: b++[jG pRp]):=by show bs (jG pLp).text ≠ zH;decide
 unfold v6
 split
 ·exact h1
 ·split
  ·split
   ·exact h1
   ·exact h
  ·exact h
theorem ja2 {s:ByteArray} {b c:List Co} (h:yT s b):yT s (b++c):=by
 cases b with
 | nil=>exact h.elim
 | cons x b=>exact h
theorem jgs {lv:Int} {fu:Bool} {b:List Co} (h:lv<=8):v6 8 lv fu b=b:=by
 rcases lN 8 lv fu b h with ⟨e,_⟩ | ⟨_,h⟩
 ·exact e
 ·omega
variable {fu:Bool}
theorem leaf_no {n:Nat} : yT zH [aA n]/\yT pMinus [aA n]:=by
 have h:∀ s:ByteArray,qA s ≠ qA (bs (qF n))->bs (qF n) ≠ s:=fun s h e=>h (by rw[e])
 have hf:=lC n
 constructor
 ·refine h zH ?_;intro e;rw[<- e] at hf;exact absurd hf (by decide)
 ·refine h pMinus ?_;intro e;rw[<- e] at hf;exact absurd hf (by decide)
theorem p7 {s:ByteArray} (h:s ≠ zH/\s ≠ pMinus):yT zH [jO s]/\yT pMinus [jO s]:=by
 have e:bs (jO s).text=s:=zY s
 exact⟨by show bs (jO s).text ≠ _;rw[e];exact h.1,by show bs (jO s).text ≠ _;rw[e];exact h.2⟩
theorem jdQ:∀ s ∈ builtL,s ≠ zH/\s ≠ pMinus:=by decide
theorem jd2 {n:Nat} (h:1<=n):qC n=some (pa (n-1)):=by
 obtain⟨k,rfl⟩ : ∃ k,n=k+1:=⟨n-1,by omega⟩
 rfl
end
section
theorem tD (f:Nt) (r:List Tk) (k:Nt->List Tk->Pn):(Pn.ok f r).andThen k=k f r:=rfl
def stL (n:Nat):List Tk->Pn:=eU (mR (qC n)) (jiL (qC n))
theorem jd1 (n:Nat):jiL (qC (n+1))=bkF (stL n):=by
 show (pa n).bl=_
 rw[eD];rfl
theorem jra (n:Nat):(pa n).bl=bkF (stL n):=jd1 n
theorem vP {low:Option Pa} {f:Nt} {t:List Co} (h:PE low 1 t f) {s:ByteArray} (hs:s=pSemi ∨ s=pComma ∨ s=pLb) {b:List Co} {ts r:List Tk} (hb:Beg (t++jG s :: b) ts r):∃ u,mR low ts = .ok f u/\Beg (jG s :: b) u r:=by
 obtain⟨u,h1,h2⟩ := hb.app
 refine⟨u,h ts u h1 ?_,h2⟩
 rcases hs with rfl | rfl | rfl <;> exact⟨zQ h2 _ (by decide),zQ h2 _ (by decide),zQ h2 _ (by decide),zQ h2 _ (by decide),zQ h2 _ (by decide)⟩
theorem gB {s:ByteArray} {b:List Co} {ts r:List Tk} (hb:Beg (jG s :: b) ts r) (k:List Tk->Pn):xpt s ts k=k ts.tail/\Beg b ts.tail r:=by
 obtain⟨p,_,_,hr⟩ := vM hb
 refine⟨?_,hr⟩;unfold xpt;rw[p,if_pos (qH rfl)]
theorem jiQ {n:Nat} {b:List Co} {ts r:List Tk} (hb:Beg (aA n :: b) ts r) (limit:Int) (hl:(n:Int)<limit) (k:Int->List Tk->Pn):bL limit ts k=k n ts.tail/\Beg b ts.tail r:=by
 obtain⟨hc,hr,_⟩ := hb.cons
 have hk:=(xM hc).1
 have hn:=(xM hc).2
 refine⟨?_,hr⟩;unfold bL;rw[show (hd ts).kind=2 from hk,show (hd ts).n=n from hn,if_neg (by decide),if_neg (by omega)]
variable {fu:Bool}
def PS (n:Nat) (t:List Co) (f:Nt):Prop := ∀ ts r,Beg t ts r->qS wElse r=false->stL n ts = .ok f r
theorem PS.eq {n:Nat} {t t2:List Co} {f:Nt} (h:PS n t f) (e:t2=t):PS n t2 f:=by rw[e];exact h
theorem jkr (f:Nt):lsT fu [f]=zV fu f 1++[jG pSemi]:=by
 show (zV fu f 1++[])++[jG pSemi]=_
 rw[List.append_nil]
theorem jks (f g:Nt):lsT fu [f,g]=zV fu f 1++jG pComma :: (zV fu g 1++[jG pSemi]):=by
 show (zV fu f 1++(jG pComma :: zV fu g 1++[]))++[jG pSemi]=_
 simp
theorem jpy {n m:Nat} (hm:m<30) {f g h:Nt} (hf:PE (qC n) 1 (zV fu f 1) f) (hg:PE (qC n) 1 (zV fu g 1) g) (hh:PE (qC n) 1 (zV fu h 1) h):PS n (iN fu (.mk 4 m eB [f,g,h])) (.mk 4 m eB [f,g,h]):=by
 refine PS.eq (t:=jO wSend :: (zV fu f 1++jG pComma :: aA m :: jG pComma :: (zV fu g 1++jG pComma :: (zV fu h 1++[jG pSemi])))) ?_ (by rw[<- jks];rfl);intro ts r hb he
 obtain⟨p,q,_,t,k,h1⟩ := q9 hb
 show eU _ _ ts=_
 unfold eU;rw[if_neg (by rw[q];decide),if_neg (by rw[k];decide),t]
 obtain⟨u,e2,h2⟩ := vP hf (.inr (.inl rfl)) h1
 rw[if_neg (by decide),if_neg (by decide),if_pos rfl,e2];rw[tD]
 obtain⟨_,h3⟩ := gB h2 fun r => .ok f r
 rw[(gB h2 _).1]
 obtain⟨_,h4⟩ := jiQ h3 30 (by omega) fun _ r => .ok f r
 rw[(jiQ h3 30 (by omega) _).1]
 obtain⟨_,h5⟩ := gB h4 fun r => .ok f r
 rw[(gB h4 _).1]
 obtain⟨u2,e3,h6⟩ := vP hg (.inr (.inl rfl)) h5
 rw[e3];rw[tD]
 obtain⟨_,h7⟩ := gB h6 fun r => .ok f r
 rw[(gB h6 _).1]
 obtain⟨u3,e4,h8⟩ := vP hh (.inl rfl) h7
 rw[e4];rw[tD]
 obtain⟨_,h9⟩ := gB h8 fun r => .ok f r
 rw[(gB h8 _).1,h9.nil]
theorem jpB {n m:Nat} (hm:m<8):PS n (iN fu (.mk 5 m eB [])) (.mk 5 m eB []):=by
 refine PS.eq (t:=[jO wTimer,aA m,jG pSemi]) ?_ rfl;intro ts r hb he
 obtain⟨p,q,_,t,k,h1⟩ := q9 hb
 show eU _ _ ts=_
 unfold eU;rw[if_neg (by rw[q];decide),if_neg (by rw[k];decide),t];rw[if_neg (by decide),if_neg (by decide),if_neg (by decide),if_pos rfl]
 obtain⟨_,h4⟩ := jiQ h1 8 (by omega) fun _ r => .ok (.mk 0 0 eB []) r
 rw[(jiQ h1 8 (by omega) _).1]
 obtain⟨_,h9⟩ := gB h4 fun r => .ok (.mk 0 0 eB []) r
 rw[(gB h4 _).1,h9.nil]
theorem jpu {n m:Nat} (hm:m<8):PS n (iN fu (.mk 6 m eB [])) (.mk 6 m eB []):=by
 refine PS.eq (t:=[jO wCancel,aA m,jG pSemi]) ?_ rfl;intro ts r hb he
 obtain⟨p,q,_,t,k,h1⟩ := q9 hb
 show eU _ _ ts=_
 unfold eU;rw[if_neg (by rw[q];decide),if_neg (by rw[k];decide),t];rw[if_neg (by decide),if_neg (by decide),if_neg (by decide),if_neg (by decide),if_pos rfl]
 obtain⟨_,h4⟩ := jiQ h1 8 (by omega) fun _ r => .ok (.mk 0 0 eB []) r
 rw[(jiQ h1 8 (by omega) _).1]
 obtain⟨_,h9⟩ := gB h4 fun r => .ok (.mk 0 0 eB []) r
 rw[(gB h4 _).1,h9.nil]
theorem jpA {n:Nat} : PS n (iN fu (.mk 7 0 eB [])) (.mk 7 0 eB []):=by
 refine PS.eq (t:=[jO xY,jG pSemi]) ?_ rfl;intro ts r hb he
 obtain⟨p,q,_,t,k,h1⟩ := q9 hb
 show eU _ _ ts=_
 unfold eU;rw[if_neg (by rw[q];decide),if_neg (by rw[k];decide),t];rw[if_neg (by decide),if_neg (by decide),if_neg (by decide),if_neg (by decide),if_neg (by decide),if_pos rfl]
 obtain⟨_,h9⟩ := gB h1 fun r => .ok (.mk 0 0 eB []) r
 rw[(gB h1 _).1,h9.nil]
theorem jpx {n:Nat} {f g:Nt} (hf:PE (qC n) 1 (zV fu f 1) f) (hg:PE (qC n) 1 (zV fu g 1) g):PS n (iN fu (.mk 8 0 eB [f,g])) (.mk 8 0 eB [f,g]):=by
 refine PS.eq (t:=jO wReply :: (zV fu f 1++jG pComma :: (zV fu g 1++[jG pSemi]))) ?_ (by rw[<- jks];rfl);intro ts r hb he
 obtain⟨p,q,_,t,k,h1⟩ := q9 hb
 show eU _ _ ts=_
 unfold eU;rw[if_neg (by rw[q];decide),if_neg (by rw[k];decide),t]
 obtain⟨u2,e3,h6⟩ := vP hf (.inr (.inl rfl)) h1
 rw[if_neg (by decide),if_neg (by decide),if_neg (by decide),if_neg (by decide),if_neg (by decide),if_neg (by decide),if_pos rfl,e3];rw[tD]
 obtain⟨_,h7⟩ := gB h6 fun r => .ok f r
 rw[(gB h6 _).1]
 obtain⟨u3,e4,h8⟩ := vP hg (.inl rfl) h7
 rw[e4];rw[tD]
 obtain⟨_,h9⟩ := gB h8 fun r => .ok f r
 rw[(gB h8 _).1,h9.nil]
theorem jpv {n:Nat} {f:Nt} (hf:PE (qC n) 1 (zV fu f 1) f):PS n (iN fu (.mk 9 0 eB [f])) (.mk 9 0 eB [f]):=by
 refine PS.eq (t:=jO wFail :: (zV fu f 1++[jG pSemi])) ?_ (by rw[<- jkr];rfl);intro ts r hb he
 obtain⟨p,q,_,t,k,h1⟩ := q9 hb
 show eU _ _ ts=_
 unfold eU;rw[if_neg (by rw[q];decide),if_neg (by rw[k];decide),t]
 obtain⟨u3,e4,h8⟩ := vP hf (.inl rfl) h1
 rw[if_neg (by decide),if_neg (by decide),if_neg (by decide),if_neg (by decide),if_neg (by decide),if_neg (by decide),if_neg (by decide),if_pos rfl,e4];rw[tD]
 obtain⟨_,h9⟩ := gB h8 fun r => .ok f r
 rw[(gB h8 _).1,h9.nil]
theorem jpz {n:Nat} : PS n (iN fu (.mk 10 0 eB [])) (.mk 10 0 eB []):=by
 refine PS.eq (t:=[jO xX,jG pSemi]) ?_ rfl;intro ts r hb he
 obtain⟨p,q,_,t,k,h1⟩ := q9 hb
 show eU _ _ ts=_
 unfold eU;rw[if_neg (by rw[q];decide),if_neg (by rw[k];decide),t];rw[if_neg (by decide),if_neg (by decide),if_neg (by decide),if_neg (by decide),if_neg (by decide),if_neg (by decide),if_neg (by decide),if_neg (by decide),if_pos rfl]
 obtain⟨_,h9⟩ := gB h1 fun r => .ok (.mk 0 0 eB []) r
 rw[(gB h1 _).1,h9.nil]
def StS (t:List Co):Prop := ∃ s l,t=jO s :: l/\s ≠ wElse/\s ≠ pRb
theorem jqt {n:Nat} (m:List Nt) (hm:∀ f ∈ m,PS n (iN fu f) f/\StS (iN fu f)):∀ (acc:List Nt) (ts r:List Tk) (k:Nat),Beg ((m.map (iN fu)).flatten++[jG pRb]) ts r->m.length+1<=k->f9 (stL n) k acc ts = .ok (zD (acc++m)) r:=by
 induction m with
 | nil =>
  intro acc ts r k hb hk
  obtain⟨j,rfl⟩ : ∃ j,k=j+1:=⟨k-1,by simp at hk;omega⟩
  have hb:Beg [jG pRb] ts r:=hb
  obtain⟨p,_,_,hr⟩ := vM hb
  rw[f9,if_pos (by rw[p];decide),List.append_nil,hr.nil]
 | cons f m ih =>
  intro acc ts r k hb hk
  obtain⟨j,rfl⟩ : ∃ j,k=j+1:=⟨k-1,by simp at hk;omega⟩
  rw[List.map_cons,List.flatten_cons,List.append_assoc] at hb
  obtain⟨hf,s,l,hs,hs1,hs2⟩ := hm f List.mem_cons_self
  obtain⟨u,h1,h2⟩ := hb.app
  have hel:qS wElse u=false:=by
   cases m with
   | nil =>
    have h2:Beg [jG pRb] u r:=h2
    obtain⟨p,_⟩ := vM h2
    rw[p];decide
   | cons g m =>
    obtain⟨_,s2,l2,hs2,hs3,_⟩ := hm g (by simp)
    rw[List.map_cons,List.flatten_cons,hs2] at h2
    obtain⟨p,_⟩ := q9 (b:=l2++(m.map (iN fu)).flatten++[jG pRb]) (ts:=u) (r:=r) (by simpa using h2)
    rw[p,j8 hs3]
  have h3:=hf ts u h1 hel
  have hrb:qS pRb ts=false:=by
   rw[hs] at h1
   obtain⟨p,_⟩ := q9 h1
   rw[p,j8 hs2]
  rw[f9,if_neg (by rw[hrb];decide),h3]
  show f9 (stL n) j (acc++[f]) u=_
  rw[ih (fun g hg=>hm g (List.mem_cons_of_mem _ hg)) (acc++[f]) u r j h2 (by simp at hk;omega),List.append_assoc];rfl
def PBk (n:Nat) (t:List Co) (f:Nt):Prop := ∀ ts r,Beg t ts r->bkF (stL n) ts = .ok f r
theorem jdd {n:Nat} (m:List Nt) (hm:∀ f ∈ m,PS n (iN fu f) f/\StS (iN fu f)):PBk n (eZ fu (zD m)) (zD m):=fun ts r hb=>by
 have e2:eZ fu (zD m)=jG pLb :: ((m.map (iN fu)).flatten++[jG pRb]):=by
  unfold zD;rw[eZ,jaG];rfl
 rw[e2] at hb
 obtain⟨_,h1⟩ := gB hb fun r => .ok (.mk 0 0 eB []) r
 unfold bkF;rw[(gB hb _).1]
 have hlen:m.length<=(m.map (iN fu)).flatten.length:=by
  have:∀ l:List Nt,(∀ f ∈ l,StS (iN fu f))->l.length<=(l.map (iN fu)).flatten.length:=fun l=>by
   induction l with
   | nil=>intro _;exact Nat.zero_le _
   | cons f l ih =>
    intro h
    have h1:=ih fun g hg=>h g (List.mem_cons_of_mem _ hg)
    obtain⟨s,l2,hs,_⟩ := h f List.mem_cons_self
    rw[List.map_cons,List.flatten_cons,List.length_append,hs,List.length_cons,List.length_cons];omega
  exact this m fun f hf=>(hm f hf).2
 have hl:=h1.len
 rw[List.length_append] at hl;simp only[List.length_cons,List.length_nil] at hl;rw[jqt m hm [] ts.tail r _ h1 (by omega)];rfl
theorem jpC {n:Nat} {c b:Nt} (hc:PE (qC (n+1)) 1 (zV fu c 1) c) (hb:PBk n (eZ fu b) b) (hl:∃ l,eZ fu b=jG pLb :: l):PS (n+1) (iN fu (.mk 3 0 eB [c,b])) (.mk 3 0 eB [c,b]):=by
 refine PS.eq (t:=jO wWhile :: (zV fu c 1++eZ fu b)) ?_ rfl;intro ts r h0 he
 obtain⟨l,hl⟩ := hl
 obtain⟨p,q,_,t,k,h1⟩ := q9 h0
 show eU _ _ ts=_
 unfold eU;rw[if_neg (by rw[q];decide),if_neg (by rw[k];decide),t];rw[hl] at h1
 obtain⟨u,e2,h2⟩ := vP hc (.inr (.inr rfl)) h1
 rw[<- hl] at h2
 have h3:=hb u r h2
 rw[jd1,if_neg (by decide),if_pos rfl,e2]
 show (bkF (stL n) u).andThen _=_
 rw[h3];rfl
theorem jpw {n:Nat} {c b d:Nt} (hc:PE (qC (n+1)) 1 (zV fu c 1) c) (hb:PBk n (eZ fu b) b) (hl:∃ l,eZ fu b=jG pLb :: l) (hd:PBk n (eZ fu d) d) (hd0:d.kids.length=0->d=zD []):PS (n+1) (iN fu (.mk 2 0 eB [c,b,d])) (.mk 2 0 eB [c,b,d]):=by
 have e2:iN fu (.mk 2 0 eB [c,b,d])=if 0<d.kids.length then jO wIf :: zV fu c 1++eZ fu b++jO wElse :: eZ fu d else jO wIf :: zV fu c 1++eZ fu b:=rfl
 obtain⟨l,hl⟩ := hl
 by_cases hz:0<d.kids.length
 ·rw[if_pos hz] at e2;refine PS.eq (t:=jO wIf :: (zV fu c 1++(eZ fu b++jO wElse :: eZ fu d))) ?_ (by rw[e2];simp);intro ts r h0 he
  obtain⟨p,q,_,t,k,h1⟩ := q9 h0
  show eU _ _ ts=_
  unfold eU;rw[if_neg (by rw[q];decide),if_neg (by rw[k];decide),t];rw[hl] at h1
  obtain⟨u,e2,h2⟩ := vP hc (.inr (.inr rfl)) h1
  have h2:Beg ((jG pLb :: l)++jO wElse :: eZ fu d) u r:=h2
  rw[<- hl] at h2
  obtain⟨v,h4,h5⟩ := h2.app
  have h3:=hb u v h4
  obtain⟨p,_,_,_,_,h6⟩ := q9 h5
  have h7:=hd v.tail r h6
  rw[jd1,if_pos rfl,e2]
  show (bkF (stL n) u).andThen _=_
  rw[h3]
  show (if qS wElse v=true then _ else _)=_
  rw[p,if_pos (by decide),h7];rfl
 ·rw[if_neg hz] at e2;refine PS.eq (t:=jO wIf :: (zV fu c 1++eZ fu b)) ?_ (by rw[e2];rfl);intro ts r h0 he
  obtain⟨p,q,_,t,k,h1⟩ := q9 h0
  show eU _ _ ts=_
  unfold eU;rw[if_neg (by rw[q];decide),if_neg (by rw[k];decide),t];rw[hl] at h1
  obtain⟨u,e2,h2⟩ := vP hc (.inr (.inr rfl)) h1
  rw[<- hl] at h2
  have h3:=hb u r h2
  rw[jd1,if_pos rfl,e2]
  show (bkF (stL n) u).andThen _=_
  rw[h3]
  show (if qS wElse r=true then _ else _)=_
  rw[he,if_neg (by decide),hd0 (by omega)]
theorem jlO (m:List Nt):∃ l,eZ fu (zD m)=jG pLb :: l:=by
 unfold zD;rw[eZ];exact⟨_,rfl⟩
end
section
theorem jfi:∀ (l:List (Int × Nt)),l.Pairwise (fun a b=>a.1<b.1)->xT l=l
 | [],_=>rfl
 | x :: l,h=>by
  have h1:=jfi l (List.pairwise_cons.1 h).2
  show uN x (xT l)=_
  rw[h1]
  cases l with
  | nil=>rfl
  | cons y l =>
   have:=(List.pairwise_cons.1 h).1 y List.mem_cons_self
   rw[uN,if_pos (by omega)]
theorem jqI {n:Int} (h0:0<=n) (h1:n<40) {b:List Co} {ts r:List Tk} (hb:Beg (jcV n++b) ts r):∃ u,hnF ts = .ok n u/\Beg b u r:=by
 have num:∀ (m:Nat) (limit off:Int) (q s:List Tk),(m:Int)<limit->Beg (aA m :: b) q s->oH limit off q = .ok (off+m) q.tail/\Beg b q.tail s:=fun m limit off q s hl hq=>by
  obtain⟨hc,hr,_⟩ := hq.cons
  refine⟨?_,hr⟩;unfold oH;rw[show (hd q).kind=2 from (xM hc).1,show (hd q).n=m from (xM hc).2,if_neg (by decide),if_neg (by omega)]
 unfold jcV at hb
 by_cases e1:n=1
 ·subst e1;rw[if_pos rfl] at hb
  obtain⟨p,_,_,_,_,hr⟩ := q9 (b:=b) hb
  refine⟨ts.tail,?_,hr⟩;unfold hnF;rw[p,p,if_neg (by decide),if_pos (by decide)]
 rw[if_neg e1] at hb
 by_cases e10:10<=n
 ·rw[if_pos e10] at hb
  obtain⟨p,_,_,_,_,hr⟩ := q9 (b:=aA (n-10).toNat :: b) hb
  obtain⟨q1,q2⟩ := num (n-10).toNat 30 10 ts.tail r (by omega) hr
  refine⟨_,?_,q2⟩;unfold hnF;rw[p,p,p,p,if_neg (by decide),if_neg (by decide),if_neg (by decide),if_pos (by decide),q1]
  congr 1;omega
 rw[if_neg e10] at hb
 by_cases e2:2<=n
 ·rw[if_pos e2] at hb
  obtain⟨p,_,_,_,_,hr⟩ := q9 (b:=aA (n-2).toNat :: b) hb
  obtain⟨q1,q2⟩ := num (n-2).toNat 8 2 ts.tail r (by omega) hr
  refine⟨_,?_,q2⟩;unfold hnF;rw[p,p,p,if_neg (by decide),if_neg (by decide),if_pos (by decide),q1]
  congr 1;omega
 rw[if_neg e2] at hb
 obtain⟨p,_,_,_,_,hr⟩ := q9 (b:=b) hb
 refine⟨ts.tail,?_,hr⟩;unfold hnF;rw[p,if_pos (by decide)]
 congr 1;omega
variable {fu:Bool}
def HO (fu:Bool) (x:Int × Nt):Prop:=0<=x.1/\x.1<40/\PBk 19 (eZ fu x.2) x.2
theorem joD (l:List (Int × Nt)) (k:Int) (h:∀ x ∈ l,x.1 ≠ k):l.any (fun h=>decide (h.1=k))=false:=by
 rw[List.any_eq_false];intro x hx
 simpa using h x hx
theorem jo3 (du vo:List ByteArray):∀ (l acc:List (Int × Nt)) (ts r:List Tk) (k:Nat),(∀ x ∈ l,HO fu x)->(acc++l).Pairwise (fun a b=>a.1 ≠ b.1)->Beg ((l.map (nL fu)).flatten) ts r->l.length+1<=k->(hd r).kind=0->pA du vo k acc ts = .ok ⟨du,vo,xT (acc++l)⟩
 | [],acc,ts,r,k,_,_,hb,hk,hr=>by
  obtain⟨j,rfl⟩ : ∃ j,k=j+1:=⟨k-1,by simp at hk;omega⟩
  have e:ts=r:=hb.nil
  rw[pA,e,if_pos hr,List.append_nil]
 | x :: l,acc,ts,r,k,hl,hp,hb,hk,hr=>by
  obtain⟨j,rfl⟩ : ∃ j,k=j+1:=⟨k-1,by simp at hk;omega⟩
  obtain⟨h0,h1,hbk⟩ := hl x List.mem_cons_self
  rw[List.map_cons,List.flatten_cons] at hb
  have hb:Beg (jO wOn :: (jcV x.1++(eZ fu x.2++(l.map (nL fu)).flatten))) ts r:=by
   have e:nL fu x++(l.map (nL fu)).flatten=jO wOn :: (jcV x.1++(eZ fu x.2++(l.map (nL fu)).flatten)):=by
    unfold nL
    simp
   rw[<- e];exact hb
  obtain⟨p,_,_,_,q,h2⟩ := q9 hb
  obtain⟨u,h3,h4⟩ := jqI h0 h1 h2
  obtain⟨v,h5,h6⟩ := h4.app
  have h7:=hbk u v h5
  have hne:∀ y ∈ acc,y.1 ≠ x.1:=fun y hy=>(List.pairwise_append.1 hp).2.2 y hy x List.mem_cons_self
  rw[pA,if_neg (by rw[q];decide),if_neg (by rw[p];decide),h3]
  show (if acc.any (fun h=>decide (h.1=x.1))=true then _ else _)=_
  rw[joD acc x.1 hne,if_neg (by decide),jra,h7]
  show pA du vo j (acc++[(x.1,x.2)]) v=_
  have ih:=jo3 du vo l (acc++[x]) v r j (fun y hy=>hl y (List.mem_cons_of_mem _ hy)) (by rw[List.append_assoc];exact hp) h6 (by simp at hk;omega) hr
  rw[show acc++[(x.1,x.2)]=acc++[x] from rfl,ih,List.append_assoc];rfl
theorem jmx (l:List (Int × Nt)):l.length<=((l.map (nL fu)).flatten).length:=by
 induction l with
 | nil=>exact Nat.zero_le _
 | cons x l ih =>
  rw[List.map_cons,List.flatten_cons,List.length_append,List.length_cons]
  have:1<=(nL fu x).length:=by unfold nL;simp
  omega
def jo0 (a:ByteArray):Bool := !(keyL++builtL).any fun x=>decide (a=x)
def jjm (r:List Tk):Prop:=(hd r).kind=0/\qS wDurable r=false/\qS wVolatile r=false
theorem jpb {l:List (Int × Nt)} {ts r:List Tk} (hb:Beg ((l.map (nL fu)).flatten) ts r) (hr:jjm r):qS wDurable ts=false/\qS wVolatile ts=false:=by
 cases l with
 | nil=>have e:ts=r:=hb.nil;rw[e];exact hr.2
 | cons x l =>
  have hb:Beg (jO wOn :: (jcV x.1++(eZ fu x.2++(l.map (nL fu)).flatten))) ts r:=by
   have e:((x :: l).map (nL fu)).flatten=jO wOn :: (jcV x.1++(eZ fu x.2++(l.map (nL fu)).flatten)):=by
    rw[List.map_cons,List.flatten_cons];unfold nL
    simp
   rw[<- e];exact hb
  obtain⟨p,_⟩ := q9 hb
  rw[p,p];decide
theorem jjX {names du vo:List ByteArray} {l:List (Int × Nt)} {ts r:List Tk} {k:Nat} (hb:Beg ((l.map (nL fu)).flatten) ts r) (hr:jjm r) (hl:∀ x ∈ l,HO fu x) (hp:l.Pairwise (fun a b=>a.1 ≠ b.1)):lB (k+1) names du vo ts = .ok ⟨du,vo,xT l⟩ := by
 obtain⟨n1,n2⟩ := jpb hb hr
 have hlen:=hb.len
 have hh:=jmx (fu:=fu) l
 rw[lB,if_neg (by rw[n1];decide),if_neg (by rw[n2];decide),jo3 du vo l [] ts r _ hl hp hb (by omega) hr.1];rfl
theorem TN.row {s:ByteArray} {l:List Co} (h:TN s l):(qW s).err=none/\Beg l (eM s) [dT s]:=by
 obtain⟨ts,h1,h2⟩ := jhy l false 0 h.lx h.fi
 rw[<- h.eq] at h1
 have h3:qW s = ⟨ts,none⟩ := h1
 rw[vK (by rw[h3]),h3];exact⟨rfl,ts,rfl,h2⟩
theorem jnZ (s x:ByteArray):qS x [dT s]=false:=by
 show (decide ((⟨#[]⟩ : ByteArray)=x) && (decide ((0:Int)=1) || decide ((0:Int)=3)))=false
 rw[Bool.and_eq_false_iff];exact .inr rfl
theorem jmt (s:ByteArray):jjm [dT s]:=⟨rfl,jnZ s _,jnZ s _⟩
theorem jm9 {s:ByteArray} (hs:s.size<=3000) (he:(qW s).err=none):rW s=jeY (eM s):=by
 unfold rW;rw[if_neg (by omega),he]
end
section
def vnL:List ByteArray:=[⟨#[118,97]⟩,⟨#[118,98]⟩,⟨#[118,99]⟩,⟨#[118,100]⟩,⟨#[118,101]⟩,⟨#[118,102]⟩,⟨#[118,103]⟩,⟨#[118,104]⟩,⟨#[118,105]⟩,⟨#[118,106]⟩]
def allOps:List ByteArray:=opL++jfS++cmpL
inductive EG:Nat->Nt->Prop
 | int (d n:Nat) (h:n<100):EG d (.mk 12 n eB [])
 | bol (d n:Nat) (h:n<2):EG d (.mk 13 n eB [])
 | var (d:Nat) (s:ByteArray) (h:s ∈ vnL):EG d (.mk 14 0 s [])
 | nam (d:Nat) (s:ByteArray) (h:s ∈ builtL):EG d (.mk 15 0 s [])
 | drw (d:Nat) (f:Nt) (h:EG d f):EG (d+1) (.mk 16 0 eB [f])
 | una (d:Nat) (s:ByteArray) (f:Nt) (hs:s=pMinus ∨ s=zH) (h:EG d f):EG (d+1) (.mk 17 0 s [f])
 | bin (d:Nat) (s:ByteArray) (f g:Nt) (hs:s ∈ allOps) (h1:EG d f) (h2:EG d g):EG (d+1) (.mk 18 0 s [f,g])
theorem EG.up {d:Nat} {f:Nt} (h:EG d f):∀ e,d<=e->EG e f:=by
 induction h with
 | int d n h=>exact fun e _ => .int e n h
 | bol d n h=>exact fun e _ => .bol e n h
 | var d s h=>exact fun e _ => .var e s h
 | nam d s h=>exact fun e _ => .nam e s h
 | drw d f h ih=>intro e he;obtain⟨k,rfl⟩ : ∃ k,e=k+1:=⟨e-1,by omega⟩;exact .drw k f (ih k (by omega))
 | una d s f hs h ih=>intro e he;obtain⟨k,rfl⟩ : ∃ k,e=k+1:=⟨e-1,by omega⟩;exact .una k s f hs (ih k (by omega))
 | bin d s f g hs h1 h2 i1 i2=>intro e he;obtain⟨k,rfl⟩ : ∃ k,e=k+1:=⟨e-1,by omega⟩;exact .bin k s f g hs (i1 k (by omega)) (i2 k (by omega))
theorem cY:∀ s ∈ vnL,s.size<=12/\0<s.size:=by decide
theorem jbh:∀ s ∈ allOps,s.size<=2/\0<s.size:=by decide
theorem jrk {d:Nat} {f:Nt} (h:EG d f):cI d<=1000000->PX (cI d) f:=by
 induction h with
 | int d n h=>exact fun _=>(jpJ n (by omega)).mono (jhg d)
 | bol d n h=>exact fun _=>(jn3 n h).mono (jhg d)
 | var d s h=>exact fun _=>(jl5 14 (.inl rfl) s (cY s h).2 (cY s h).1).mono (jhg d)
 | nam d s h=>exact fun _=>(jl5 15 (.inr rfl) s (jif s h) (jig s h)).mono (jhg d)
 | drw d f h ih=>intro hc;unfold cI at hc ⊢;exact (jpI (cI d) (by omega) f (ih (by omega))).mono (by omega)
 | una d s f hs h ih=>intro hc;unfold cI at hc ⊢;exact (jpK (cI d) (by omega) s (by rcases hs with rfl | rfl <;> decide) (by rcases hs with rfl | rfl <;> decide) f (ih (by omega))).mono (by omega)
 | bin d s f g hs h1 h2 i1 i2=>intro hc;unfold cI at hc ⊢;exact jpH (cI d) (by omega) s (jbh s hs).2 (jbh s hs).1 f g (i1 (by omega)) (i2 (by omega))
theorem ji4:∀ s ∈ vnL,LexT (jO s)/\aE s.data.toList=true/\qA s ≠ 61:=fun s hs=>by
 unfold vnL at hs;simp only[List.mem_cons,List.not_mem_nil,or_false] at hs
 rcases hs with rfl | rfl | rfl | rfl | rfl | rfl | rfl | rfl | rfl | rfl <;> exact⟨n8 _ (by decide),by decide,by decide⟩
theorem jkn:∀ s ∈ allOps,LexT (jG s):=fun s hs=>by
 unfold allOps at hs;rw[List.mem_append,List.mem_append] at hs
 rcases hs with (hs | hs) | hs
 ·exact jmI s hs
 ·exact jko s hs
 ·exact jkp s hs
variable {fu:Bool}
theorem oN {d:Nat} {f:Nt} (h:EG d f):TE fu f:=by
 induction h with
 | int d n h=>exact jlL n (by omega)
 | bol d n h=>exact jnv n h
 | var d s h=>obtain⟨a,b,c⟩ := ji4 s h;exact jlM 14 (.inl rfl) s a b c
 | nam d s h=>obtain⟨a,b,c⟩ := jjN s h;exact jlM 15 (.inr rfl) s a b c
 | drw d f h ih=>exact jpX f ih
 | una d s f hs h ih =>
  rcases hs with rfl | rfl
  ·exact jlN pMinus (lH _ 45 rfl (by decide)) (by decide) f ih
  ·exact jlN zH (lH _ 33 rfl (by decide)) (by decide) f ih
 | bin d s f g hs h1 h2 i1 i2=>exact jpW s (jkn s hs) f g i1 i2
theorem jma:∀ s ∈ vnL,decide (s=pLp)=false/\decide (s=wDraw)=false/\decide (s=oQ)=false/\decide (s=cZ)=false/\((keyL++builtL).any fun x=>decide (s=x))=false:=by decide
theorem jop:∀ s ∈ vnL,s ≠ zH/\s ≠ pMinus:=by decide
theorem jrf (low:Option Pa) (s:ByteArray) (h:s ∈ vnL):PE low 8 [jO s] (.mk 14 0 s []):=fun ts r hb hs=>by
 obtain⟨p,q,_,t,k,hr⟩ := q9 hb
 have hr:=hr.nil
 obtain⟨a1,a2,a3,a4,a5⟩ := jma s h
 show wI low ts=_
 unfold wI;rw[p,p,p,p,a1,a2,a3,a4,q,a5,k,t,hr];rfl
structure XG (low:Option Pa) (t:Int->List Co) (f:Nt):Prop where
 pe:∀ lv:Nat,1<=lv->lv<=8->PE low lv (t lv) f
 c6:CE low 6 [z7,qJ] (t 6) f
 c5:CE low 5 [wH,pMinus] (t 5) f
 c2:CE low 2 [yP] (t 2) f
 c1:CE low 1 [pOr] (t 1) f
 nn:∀ lv:Int,4<=lv->yT zH (t lv)
theorem XG.leaf {low:Option Pa} {t:Int->List Co} {b:List Co} {f:Nt} (ht:∀ lv,lv<=8->t lv=b) (h:PE low 8 b f) (h1:yT zH b) (h2:yT pMinus b) (hnn:∀ lv,yT zH (t lv)):XG low t f where
 pe:=fun lv a c=>by rw[ht lv (by omega)];exact pO h h1 h2 lv a c
 c6:=by rw[ht 6 (by omega)];exact oU (pO h h1 h2 7 (by omega) (by omega))
 c5:=by rw[ht 5 (by omega)];exact oU (pO h h1 h2 6 (by omega) (by omega))
 c2:=by rw[ht 2 (by omega)];exact oU (pO h h1 h2 3 (by omega) (by omega))
 c1:=by rw[ht 1 (by omega)];exact oU (pO h h1 h2 2 (by omega) (by omega))
 nn:=fun lv _=>hnn lv
theorem XG.node {n:Nat} {p:Nat} {fu:Bool} {b:List Co} {f:Nt} (hp:1<=p/\p<=7) (hlow:PE (qC n) 1 b f) (hb:∀ lv:Nat,1<=lv->lv<=p->PE (qC (n+1)) lv b f) (h6:p=6->CE (qC (n+1)) 6 [z7,qJ] b f) (h5:p=5->CE (qC (n+1)) 5 [wH,pMinus] b f) (h2:p=2->CE (qC (n+1)) 2 [yP] b f) (h1:p=1->CE (qC (n+1)) 1 [pOr] b f) (hn:4<=p->yT zH b):XG (qC (n+1)) (fun lv=>v6 p lv fu b) f:=by
 have hq:=jkS hlow
 have hpe:∀ lv:Nat,1<=lv->lv<=8->PE (qC (n+1)) lv (v6 p lv fu b) f:=fun lv a c=>by
  rcases lN p lv fu b (by omega) with ⟨e,h⟩ | ⟨e,h⟩
  ·rw[e];exact hb lv a (by omega)
  ·rw[e];exact hq lv a c
 have ce:∀ (lv:Nat) (signs:List ByteArray),1<=lv->lv<=7->(p=lv->CE (qC (n+1)) lv signs b f)->CE (qC (n+1)) lv signs (v6 p lv fu b) f:=fun lv signs a c hc=>by
  rcases lN p lv fu b (by omega) with ⟨e,h⟩ | ⟨e,h⟩
  ·rw[e]
   by_cases h0:p=lv
   ·exact hc h0
   ·exact oU (hb (lv+1) (by omega) (by omega))
  ·rw[e];exact oU (hq (lv+1) (by omega) (by omega))
 refine⟨hpe,ce 6 _ (by decide) (by decide) h6,ce 5 _ (by decide) (by decide) h5,ce 2 _ (by decide) (by decide) h2,ce 1 _ (by decide) (by decide) h1,fun lv hl => ?_⟩
 have h9:yT zH (jG pLp :: b++[jG pRp]):=by show bs (jG pLp).text ≠ zH;decide
 show yT zH (v6 p lv fu b)
 unfold v6
 by_cases h:(p:Int)<lv
 ·rw[if_pos h];exact h9
 ·rw[if_neg h]
  have hn:=hn (by omega)
  split
  ·split
   ·exact h9
   ·exact hn
  ·exact hn
theorem jh2 (s:ByteArray) (m:Nat) (k:Int) (hk:k=13 ∨ k=14 ∨ k=15) (n:Int) (b:List Co) (hb:zV fu (.mk k n s [])=fun lv=>v6 8 lv fu b) (h:PE (qC m) 8 b (.mk k n s [])) (h1:yT zH b) (h2:yT pMinus b):XG (qC m) (zV fu (.mk k n s [])) (.mk k n s []):=by
 rw[hb]
 exact XG.leaf (b:=b) (fun lv h=>jgs h) h h1 h2 fun lv=>ja3 h1
theorem jqc (n m:Nat):XG (qC m) (zV fu (.mk 12 n eB [])) (.mk 12 n eB []) :=
 XG.leaf (b:=[aA n]) (fun lv h=>jgs h) (jpq _ n) leaf_no.1 leaf_no.2 fun lv=>ja3 leaf_no.1
theorem ja5 {low:Option Pa} {b:List Co} {f:Nt} {p:Nat} (hp:1<=p/\p<=7) (hn:4<=p->yT zH b) (h:PE low p b f):∀ lv:Nat,1<=lv->lv<=p->PE low lv b f:=fun lv a c=>by
 by_cases h4:5<=p
 ·have hn:=hn (by omega)
  have g5:PE low 5 b f/\(6<=p->PE low 6 b f):=by
   rcases (by omega:p=5 ∨ p=6 ∨ p=7) with rfl | rfl | rfl
   ·exact⟨h,by omega⟩
   ·exact⟨jkQ h,fun _=>h⟩
   ·exact⟨jkQ (jkR h),fun _=>jkR h⟩
  by_cases h5:lv<=5
  ·exact jmW hn g5.1 lv a h5
  ·rcases (by omega:lv=6 ∨ lv=7) with rfl | rfl
   ·exact g5.2 (by omega)
   ·obtain rfl:p=7:=by omega
    exact h
 ·have g:(4<=p->PE low 4 b f)/\(3<=p->PE low 3 b f)/\(2<=p->PE low 2 b f)/\PE low 1 b f:=by
   rcases (by omega:p=1 ∨ p=2 ∨ p=3 ∨ p=4) with rfl | rfl | rfl | rfl
   ·exact⟨by omega,by omega,by omega,h⟩
   ·exact⟨by omega,by omega,fun _=>h,jeT h⟩
   ·exact⟨by omega,fun _=>h,fun _=>jbY h,jeT (jbY h)⟩
   ·have g3:=jkP h
    exact⟨fun _=>h,fun _=>g3,fun _=>jbY g3,jeT (jbY g3)⟩
  rcases (by omega:lv=1 ∨ lv=2 ∨ lv=3 ∨ lv=4) with rfl | rfl | rfl | rfl
  ·exact g.2.2.2
  ·exact g.2.2.1 c
  ·exact g.2.1 c
  ·exact g.1 c
theorem jrA {d:Nat} {f:Nt} (h:EG d f):∀ n,2*d<=n->XG (qC n) (zV fu f) f:=by
 induction h with
 | int d n h=>intro m _;exact jqc n m
 | bol d n h =>
  intro m _
  have hs:tfB n ≠ zH/\tfB n ≠ pMinus:=by
   rcases (by omega:n=0 ∨ n=1) with rfl | rfl <;> decide
  exact jh2 eB m 13 (.inl rfl) n [jO (tfB n)] rfl (jmV _ n h) (p7 hs).1 (p7 hs).2
 | var d s h=>intro m _;exact jh2 s m 14 (.inr (.inl rfl)) 0 [jO s] rfl (jrf _ s h) (p7 (jop s h)).1 (p7 (jop s h)).2
 | nam d s h=>intro m _;exact jh2 s m 15 (.inr (.inr rfl)) 0 [jO s] rfl (jpo _ s h) (p7 (jdQ s h)).1 (p7 (jdQ s h)).2
 | drw d f h ih =>
  intro n hn
  have h1:=(ih (n-1) (by omega)).pe 1 (by omega) (by omega)
  have h2:=jpp (pa (n-1)) (qC (n-1)) (by rw[eD];rfl) (zV fu f 1) f h1
  rw[<- jd2 (by omega)] at h2
  have q1:∀ s,s=zH ∨ s=pMinus->yT s (jO wDraw :: jG pLp :: zV fu f 1++[jG pRp]):=fun s hs=>by
   show bs (jO wDraw).text ≠ s
   rcases hs with rfl | rfl <;> decide
  exact XG.leaf (fun lv h=>jgs h) h2 (q1 _ (.inl rfl)) (q1 _ (.inr rfl)) fun lv=>ja3 (q1 _ (.inl rfl))
 | una d s f hs h ih =>
  intro n hn
  obtain⟨m,rfl⟩ : ∃ m,n=m+1:=⟨n-1,by omega⟩
  rcases hs with rfl | rfl
  ·have key:∀ m,2*d+1<=m->PE (qC m) 7 (jG pMinus :: zV fu f 7) (.mk 17 0 pMinus [f]):=fun m hm=>by
    have h2:=jpr (pa (m-1)) (qC (m-1)) (by rw[eD];rfl) (zV fu f 7) f ((ih (m-1) (by omega)).pe 7 (by omega) (by omega))
    rw[<- jd2 (by omega)] at h2;exact h2
   have hno:yT zH (jG pMinus :: zV fu f 7):=by show bs (jG pMinus).text ≠ zH;decide
   have all:=fun m hm=>ja5 (p:=7) (by decide) (fun _=>hno) (key m hm)
   exact XG.node (p:=7) (by omega) (all m (by omega) 1 (by omega) (by omega)) (all (m+1) (by omega)) (by omega) (by omega) (by omega) (by omega) fun _=>hno
  ·have key:∀ m,2*d+1<=m->PE (qC m) 3 (jG zH :: zV fu f 3) (.mk 17 0 zH [f]):=fun m hm=>by
    have h2:=jps (pa (m-1)) (qC (m-1)) (by rw[eD];rfl) (zV fu f 3) f ((ih (m-1) (by omega)).pe 3 (by omega) (by omega))
    rw[<- jd2 (by omega)] at h2;exact h2
   have all:=fun m hm=>ja5 (p:=3) (by decide) (by omega) (key m hm)
   exact XG.node (p:=3) (by omega) (all m (by omega) 1 (by omega) (by omega)) (all (m+1) (by omega)) (by omega) (by omega) (by omega) (by omega) (by omega)
 | bin d s f g hs h1 h2 i1 i2 =>
  intro n hn
  obtain⟨m,rfl⟩ : ∃ m,n=m+1:=⟨n-1,by omega⟩
  unfold allOps at hs;rw[List.mem_append,List.mem_append] at hs
  rcases hs with (hs | hs) | hs
  ·have hop:(jL 18 s=6/\(s=z7 ∨ s=qJ)) ∨ (jL 18 s=5/\(s=wH ∨ s=pMinus)):=by
    unfold opL at hs;simp only[List.mem_cons,List.not_mem_nil,or_false] at hs
    rcases hs with rfl | rfl | rfl | rfl <;> decide
   rcases hop with ⟨hp,ho⟩ | ⟨hp,ho⟩
   ·have e:∀ lv,zV fu (.mk 18 0 s [f,g]) lv=v6 6 lv fu (zV fu f 6++jG s :: zV fu g 7):=fun lv=>by
     show v6 (jL 18 s) lv fu (zV fu f (if jL 18 s=4 then 5 else jL 18 s)++jG s :: zV fu g (jL 18 s+1))=_
     rw[hp];rfl
    have hno:yT zH (zV fu f 6++jG s :: zV fu g 7):=ja2 ((i1 (2*d) (Nat.le_refl _)).nn 6 (by decide))
    have hc:∀ m,2*d<=m->CE (qC m) 6 [z7,qJ] (zV fu f 6++jG s :: zV fu g 7) (.mk 18 0 s [f,g]):=fun m hm =>
     sE s (i1 m hm).c6 (by rcases ho with rfl | rfl <;> decide) (fun _ _ _=>trivial) ((i2 m hm).pe 7 (by omega) (by omega))
    have all:=fun m hm=>ja5 (p:=6) (by decide) (fun _=>hno) (jpn (hc m hm))
    rw[show zV fu (.mk 18 0 s [f,g])=fun lv=>v6 6 lv fu (zV fu f 6++jG s :: zV fu g 7) from funext e]
    exact XG.node (p:=6) (by omega) (all m (by omega) 1 (by omega) (by omega)) (all (m+1) (by omega)) (fun _=>hc (m+1) (by omega)) (by omega) (by omega) (by omega) fun _=>hno
   ·have e:∀ lv,zV fu (.mk 18 0 s [f,g]) lv=v6 5 lv fu (zV fu f 5++jG s :: zV fu g 6):=fun lv=>by
     show v6 (jL 18 s) lv fu (zV fu f (if jL 18 s=4 then 5 else jL 18 s)++jG s :: zV fu g (jL 18 s+1))=_
     rw[hp];rfl
    have hno:yT zH (zV fu f 5++jG s :: zV fu g 6):=ja2 ((i1 (2*d) (Nat.le_refl _)).nn 5 (by decide))
    have hc:∀ m,2*d<=m->CE (qC m) 5 [wH,pMinus] (zV fu f 5++jG s :: zV fu g 6) (.mk 18 0 s [f,g]):=fun m hm =>
     sE s (i1 m hm).c5 (by rcases ho with rfl | rfl <;> decide) (fun ts r hb=>zQ hb _ (by rcases ho with rfl | rfl <;> decide)) ((i2 m hm).pe 6 (by omega) (by omega))
    have all:=fun m hm=>ja5 (p:=5) (by decide) (fun _=>hno) (jrd (hc m hm))
    rw[show zV fu (.mk 18 0 s [f,g])=fun lv=>v6 5 lv fu (zV fu f 5++jG s :: zV fu g 6) from funext e]
    exact XG.node (p:=5) (by omega) (all m (by omega) 1 (by omega) (by omega)) (all (m+1) (by omega)) (by omega) (fun _=>hc (m+1) (by omega)) (by omega) (by omega) fun _=>hno
  ·have hop:s=yP ∨ s=pOr:=by
    unfold jfS at hs
    simpa only [List.mem_cons,List.not_mem_nil,or_false] using hs
   rcases hop with rfl | rfl
   ·have hc:∀ m,2*d<=m->CE (qC m) 2 [yP] (zV fu f 2++jG yP :: zV fu g 3) (.mk 18 0 yP [f,g]):=fun m hm =>
     sE yP (i1 m hm).c2 (by decide) (fun ts r hb=>⟨zQ hb _ (by decide),zQ hb _ (by decide),zQ hb _ (by decide)⟩) ((i2 m hm).pe 3 (by omega) (by omega))
    have all:=fun m hm=>ja5 (p:=2) (by decide) (by omega) (jrc (hc m hm))
    rw[show zV fu (.mk 18 0 yP [f,g])=fun lv=>v6 2 lv fu (zV fu f 2++jG yP :: zV fu g 3) from funext fun lv=>rfl];exact XG.node (p:=2) (by omega) (all m (by omega) 1 (by omega) (by omega)) (all (m+1) (by omega)) (by omega) (by omega) (fun _=>hc (m+1) (by omega)) (by omega) (by omega)
   ·have hc:∀ m,2*d<=m->CE (qC m) 1 [pOr] (zV fu f 1++jG pOr :: zV fu g 2) (.mk 18 0 pOr [f,g]):=fun m hm =>
     sE pOr (i1 m hm).c1 (by decide) (fun ts r hb=>⟨zQ hb _ (by decide),zQ hb _ (by decide),zQ hb _ (by decide),zQ hb _ (by decide)⟩) ((i2 m hm).pe 2 (by omega) (by omega))
    have all:=fun m hm=>ja5 (p:=1) (by decide) (by omega) (jrb (hc m hm))
    rw[show zV fu (.mk 18 0 pOr [f,g])=fun lv=>v6 1 lv fu (zV fu f 1++jG pOr :: zV fu g 2) from funext fun lv=>rfl];exact XG.node (p:=1) (by omega) (all m (by omega) 1 (by omega) (by omega)) (all (m+1) (by omega)) (by omega) (by omega) (by omega) (fun _=>hc (m+1) (by omega)) (by omega)
  ·have hp:jL 18 s=4/\(cmpL.any fun x=>decide (s=x))=true/\(mulL.any fun x=>decide (s=x))=false/\(addL.any fun x=>decide (s=x))=false:=by
    unfold cmpL at hs;simp only[List.mem_cons,List.not_mem_nil,or_false] at hs
    rcases hs with rfl | rfl | rfl | rfl | rfl | rfl <;> decide
   have e:∀ lv,zV fu (.mk 18 0 s [f,g]) lv=v6 4 lv fu (zV fu f 5++jG s :: zV fu g 5):=fun lv=>by
    show v6 (jL 18 s) lv fu (zV fu f (if jL 18 s=4 then 5 else jL 18 s)++jG s :: zV fu g (jL 18 s+1))=_
    rw[hp.1];rfl
   have hno0:=(i1 (2*d) (Nat.le_refl _)).nn 5 (by decide)
   have hno:yT zH (zV fu f 5++jG s :: zV fu g 5):=ja2 hno0
   have key:∀ m,2*d<=m->PE (qC m) 4 (zV fu f 5++jG s :: zV fu g 5) (.mk 18 0 s [f,g]):=fun m hm ts r hb hs=>by
    obtain⟨u,q1,q2⟩ := hb.app
    have hno:=jd7 hno0 q1
    have y1:jax (qC m) ts = .ok f u:=(i1 m hm).pe 5 (by omega) (by omega) ts u q1 ⟨zQ q2 _ hp.2.2.1,zQ q2 _ hp.2.2.2⟩
    obtain⟨p,t,_,hr⟩ := vM q2
    have y2:jax (qC m) u.tail = .ok g r:=(i2 m hm).pe 5 (by omega) (by omega) u.tail r hr ⟨hs.1,hs.2.1⟩
    show lK (qC m) ts=_
    unfold lK;rw[if_neg (by rw[hno];decide),y1]
    show (if vV cmpL u=true then _ else _)=_
    rw[if_pos (by unfold vV;rw[show (fun x=>qS x u)=fun x=>decide (s=x) from funext p];exact hp.2.1),y2,t];rfl
   have all:=fun m hm=>ja5 (p:=4) (by decide) (fun _=>hno) (key m hm)
   rw[show zV fu (.mk 18 0 s [f,g])=fun lv=>v6 4 lv fu (zV fu f 5++jG s :: zV fu g 5) from funext e]
   exact XG.node (p:=4) (by omega) (all m (by omega) 1 (by omega) (by omega)) (all (m+1) (by omega)) (by omega) (by omega) (by omega) (by omega) fun _=>hno
end
section
inductive SG:Nat->Nt->Prop
 | asg (d:Nat) (s:ByteArray) (f:Nt) (hs:s ∈ vnL) (h:EG 3 f):SG d (.mk 1 0 s [f])
 | snd (d n:Nat) (f g h:Nt) (hn:n<30) (h1:EG 3 f) (h2:EG 3 g) (h3:EG 3 h):SG d (.mk 4 n eB [f,g,h])
 | tim (d n:Nat) (hn:n<8):SG d (.mk 5 n eB [])
 | can (d n:Nat) (hn:n<8):SG d (.mk 6 n eB [])
 | syn (d:Nat):SG d (.mk 7 0 eB [])
 | rep (d:Nat) (f g:Nt) (h1:EG 3 f) (h2:EG 3 g):SG d (.mk 8 0 eB [f,g])
 | fai (d:Nat) (f:Nt) (h1:EG 3 f):SG d (.mk 9 0 eB [f])
 | stp (d:Nat):SG d (.mk 10 0 eB [])
 | whi (d:Nat) (c:Nt) (l:List Nt) (h1:EG 3 c) (h2:l.length<=3) (h3:∀ s ∈ l,SG d s):SG (d+1) (.mk 3 0 eB [c,zD l])
 | iff (d:Nat) (c:Nt) (l m:List Nt) (h1:EG 3 c) (h2:l.length<=3) (h3:∀ s ∈ l,SG d s) (h4:m.length<=3) (h5:∀ s ∈ m,SG d s):SG (d+1) (.mk 2 0 eB [c,zD l,zD m])
def KG (b:Nt):Prop := ∃ k,b=zD k/\k.length<=3 /\ ∀ s ∈ k,SG 2 s
theorem jrj {d:Nat} {f:Nt} (h:SG d f):cS d<=1000000->PT (cS d) f:=by
 have hI:∀ {f:Nt},EG 3 f->PX 252 f:=fun {f} h=>jrk h (by decide)
 have one:∀ {f:Nt},PX 252 f -> ∀ x ∈ [f],PX 252 x:=fun {f} h x hx=>by rw[List.mem_singleton.1 hx];exact h
 have two:∀ {f g:Nt},PX 252 f->PX 252 g -> ∀ x ∈ [f,g],PX 252 x:=fun {f g} h k x hx=>by
  rcases List.mem_cons.1 hx with rfl | hx
  ·exact h
  ·rw[List.mem_singleton.1 hx];exact k
 induction h with
 | asg d s f hs h=>exact fun _=>(jgy 1 (.inl rfl) s (cY s hs).1 (fun _=>(cY s hs).2) 252 (by decide) [f] (by simp) (one (hI h))).mono (Nat.le_trans (by decide) (dP d))
 | snd d n f g h hn h1 h2 h3=>exact fun _=>(jpE n (by omega) 252 (by decide) f g h (hI h1) (hI h2) (hI h3)).mono (Nat.le_trans (by decide) (dP d))
 | tim d n hn=>exact fun _=>(jkZ 5 (.inl rfl) n (by omega)).mono (Nat.le_trans (by decide) (dP d))
 | can d n hn=>exact fun _=>(jkZ 6 (.inr rfl) n (by omega)).mono (Nat.le_trans (by decide) (dP d))
 | syn d=>exact fun _=>(jl0 7 (.inl rfl)).mono (Nat.le_trans (by decide) (dP d))
 | rep d f g h1 h2=>exact fun _=>(jgy 8 (.inr (.inl rfl)) eB (by decide) (fun h=>absurd h (by decide)) 252 (by decide) [f,g] (by simp) (two (hI h1) (hI h2))).mono (Nat.le_trans (by decide) (dP d))
 | fai d f h1=>exact fun _=>(jgy 9 (.inr (.inr rfl)) eB (by decide) (fun h=>absurd h (by decide)) 252 (by decide) [f] (by simp) (one (hI h1))).mono (Nat.le_trans (by decide) (dP d))
 | stp d=>exact fun _=>(jl0 10 (.inr rfl)).mono (Nat.le_trans (by decide) (dP d))
 | whi d c l h1 h2 h3 ih =>
  intro hc
  have e:cS (d+1)=700+3*(3*cS d+10):=rfl
  rw[e] at hc ⊢
  have hge:=dP d
  have hb:=sM (cS d) (by omega) l (by omega) (fun s hs=>ih s hs (by omega))
  exact (jpF (3*cS d+10) (by omega) c (zD l) ((hI h1).mono (by omega)) hb).mono (by omega)
 | iff d c l m h1 h2 h3 h4 h5 ih1 ih2 =>
  intro hc
  have e:cS (d+1)=700+3*(3*cS d+10):=rfl
  rw[e] at hc ⊢
  have hge:=dP d
  have hb:=sM (cS d) (by omega) l (by omega) (fun s hs=>ih1 s hs (by omega))
  have hb2:=sM (cS d) (by omega) m (by omega) (fun s hs=>ih2 s hs (by omega))
  exact (jpD (3*cS d+10) (by omega) c (zD l) (zD m) ((hI h1).mono (by omega)) hb hb2).mono (by omega)
theorem jog {b:Nt} (h:KG b):PB 300000 b:=by
 obtain⟨k,rfl,h1,h2⟩ := h
 have e2:cS 2=80200:=rfl
 exact (sM (cS 2) (by omega) k h1 (fun s hs=>jrj (h2 s hs) (by omega))).mono (by omega)
variable {fu:Bool}
theorem jrw {d:Nat} {f:Nt} (h:SG d f):TS fu f:=by
 induction h with
 | asg d s f hs h=>exact jq5 s (ji4 s hs) [f] (by simp) fun x hx=>by rw[List.mem_singleton.1 hx];exact oN h
 | snd d n f g h hn h1 h2 h3=>exact jq9 n (by omega) f g h (oN h1) (oN h2) (oN h3)
 | tim d n hn=>exact jm1 5 (.inl rfl) n (by omega)
 | can d n hn=>exact jm1 6 (.inr rfl) n (by omega)
 | syn d=>exact jm2 7 (.inl rfl)
 | rep d f g h1 h2 =>
  refine jq8 [f,g] (by simp) ?_;intro x hx;simp only[List.mem_cons,List.not_mem_nil,or_false] at hx
  rcases hx with rfl | rfl
  ·exact oN h1
  ·exact oN h2
 | fai d f h1=>exact jq6 [f] (by simp) fun x hx=>by rw[List.mem_singleton.1 hx];exact oN h1
 | stp d=>exact jm2 10 (.inr rfl)
 | whi d c l h1 h2 h3 ih=>exact jqa c (zD l) (oN h1) (jdz l ih)
 | iff d c l m h1 h2 h3 h4 h5 ih1 ih2=>exact jq7 c (zD l) (zD m) (oN h1) (jdz l ih1) (jdz m ih2)
theorem jrr {b:Nt} (h:KG b):TB fu b:=by
 obtain⟨k,rfl,h1,h2⟩ := h
 exact jdz k fun s hs=>jrw (h2 s hs)
theorem jcO {n d:Nat} {f:Nt} (h:EG d f) (hd:2*d<=n):PE (qC n) 1 (zV fu f 1) f:=(jrA h n hd).pe 1 (by omega) (by omega)
theorem jri {n:Nat} {s:ByteArray} (hs:s ∈ vnL) {f:Nt} (hf:PE (qC n) 1 (zV fu f 1) f):PS n (iN fu (.mk 1 0 s [f])) (.mk 1 0 s [f]):=by
 refine PS.eq (t:=jO s :: jG pEq :: (zV fu f 1++[jG pSemi])) ?_ (by rw[<- jkr];rfl);intro ts r hb he
 obtain⟨p,q,_,t,k,h1⟩ := q9 hb
 obtain⟨e1,h2⟩ := gB h1 fun r=>(mR (qC n) r).andThen fun e r=>xpt pSemi r fun r => .ok (.mk 1 0 (hd ts).text [e]) r
 obtain⟨u,e2,h3⟩ := vP hf (.inl rfl) h2
 obtain⟨e3,h4⟩ := gB h3 fun r => .ok (.mk 1 0 (hd ts).text [f]) r
 have h4:=h4.nil
 show eU _ _ ts=_
 unfold eU;rw[if_pos (by rw[q,(jma s hs).2.2.2.2];rfl),e1,e2];rw[tD];rw[e3,h4,t]
theorem jdv {d:Nat} {f:Nt} (h:SG d f):StS (iN fu f):=by
 have kw:∀ (s:ByteArray) (l:List Co),(s ≠ wElse/\s ≠ pRb)->StS (jO s :: l):=fun s l h=>⟨s,l,rfl,h.1,h.2⟩
 have hv:∀ s ∈ vnL,s ≠ wElse/\s ≠ pRb:=by decide
 cases h with
 | asg d s f hs h=>exact kw s _ (hv s hs)
 | snd d n f g h hn h1 h2 h3=>exact kw wSend _ (by decide)
 | tim d n hn=>exact kw wTimer _ (by decide)
 | can d n hn=>exact kw wCancel _ (by decide)
 | syn d=>exact kw xY _ (by decide)
 | rep d f g h1 h2=>exact kw wReply _ (by decide)
 | fai d f h1=>exact kw wFail _ (by decide)
 | stp d=>exact kw xX _ (by decide)
 | whi d c l h1 h2 h3=>exact kw wWhile _ (by decide)
 | iff d c l m h1 h2 h3 h4 h5 =>
  have e2:iN fu (.mk 2 0 eB [c,zD l,zD m])=if 0<(zD m).kids.length then jO wIf :: (zV fu c 1++eZ fu (zD l)++jO wElse :: eZ fu (zD m)) else jO wIf :: (zV fu c 1++eZ fu (zD l)):=rfl
  rw[e2]
  split
  ·exact kw wIf _ (by decide)
  ·exact kw wIf _ (by decide)
theorem jrh {d:Nat} {f:Nt} (h:SG d f):∀ n,d+6<=n->PS n (iN fu f) f:=by
 induction h with
 | asg d s f hs h=>intro n hn;exact jri hs (jcO h (by omega))
 | snd d m f g h hm h1 h2 h3=>intro n hn;exact jpy (by omega) (jcO h1 (by omega)) (jcO h2 (by omega)) (jcO h3 (by omega))
 | tim d m hm=>intro n hn;exact jpB (by omega)
 | can d m hm=>intro n hn;exact jpu (by omega)
 | syn d=>intro n hn;exact jpA
 | rep d f g h1 h2=>intro n hn;exact jpx (jcO h1 (by omega)) (jcO h2 (by omega))
 | fai d f h1=>intro n hn;exact jpv (jcO h1 (by omega))
 | stp d=>intro n hn;exact jpz
 | whi d c l h1 h2 h3 ih =>
  intro n hn
  obtain⟨k,rfl⟩ : ∃ k,n=k+1:=⟨n-1,by omega⟩
  exact jpC (jcO h1 (by omega)) (jdd l fun f hf=>⟨ih f hf k (by omega),jdv (h3 f hf)⟩) (jlO l)
 | iff d c l m h1 h2 h3 h4 h5 ih1 ih2 =>
  intro n hn
  obtain⟨k,rfl⟩ : ∃ k,n=k+1:=⟨n-1,by omega⟩
  refine jpw (jcO h1 (by omega)) (jdd l fun f hf=>⟨ih1 f hf k (by omega),jdv (h3 f hf)⟩) (jlO l) (jdd m fun f hf=>⟨ih2 f hf k (by omega),jdv (h5 f hf)⟩) fun hz => ?_
  have hz:m.length=0:=hz
  rw[List.length_eq_zero_iff.1 hz]
theorem jpm {b:Nt} (h:KG b) (n:Nat) (hn:8<=n):PBk n (eZ fu b) b:=by
 obtain⟨k,rfl,h1,h2⟩ := h
 exact jdd k fun f hf=>⟨jrh (h2 f hf) n (by omega),jdv (h2 f hf)⟩
theorem jry:∀ s ∈ vnL,jo0 s=true:=by decide
def hZ (w:ByteArray) (l:List ByteArray):List Co:=if l=[] then [] else jO w :: (cmT (l.map fun x=>[jO x])++[jG pSemi])
theorem jky:∀ (l:List ByteArray) (a:ByteArray),∃ t,l.foldl (fun a y=>a++pComma++y) a=a++t
 | [],a=>⟨⟨#[]⟩,(x9 a).symm⟩
 | y :: l,a=>by
  obtain⟨t,h⟩ := jky l (a++pComma++y)
  refine⟨pComma++y++t,?_⟩
  show l.foldl _ (a++pComma++y)=_
  rw[h,nG,nG,nG]
theorem u4 {l:List ByteArray} (hl:l ≠ []) (h:∀ x ∈ l,x ∈ vnL):uZ l ≠ ⟨#[]⟩ /\ zE (qA (uZ l))=true:=by
 have h0:∀ s ∈ vnL,s ≠ ⟨#[]⟩ /\ zE (qA s)=true:=by decide
 cases l with
 | nil=>exact absurd rfl hl
 | cons x l =>
  obtain⟨a,b⟩ := h0 x (h x List.mem_cons_self)
  obtain⟨t,e⟩ := jky l (eB++x)
  have e:uZ (x :: l)=x++t:=by
   show l.foldl _ (eB++x)=_
   rw[e,show eB++x=x from eA x]
  rw[e];exact⟨mI a,by rw[dV _ a];exact b⟩
theorem oF {w:ByteArray} (hw:w ≠ ⟨#[]⟩) (hw2:zE (yZ w)=true) {l:List ByteArray} (hl:l ≠ []) (h:∀ x ∈ l,x ∈ vnL):jA (jA w (uZ l)) pSemi=nmF w l:=by
 obtain⟨h1,h2⟩ := u4 hl h
 unfold nmF;rw[if_neg h1,kR _ pSemi (by decide)]
 congr 1
 unfold jA;rw[if_neg hw,if_neg h1,if_neg (by rw[hw2];decide),if_neg (by rw[h2];decide)];rfl
theorem jon:∀ (n:Nat) (l:List ByteArray),l.length=n+1->(∀ x ∈ l,x ∈ vnL)->TN (uZ l) (cmT (l.map fun x=>[jO x]))
 | 0,l,hl,h=>by
  obtain⟨x,rfl⟩ := List.length_eq_one_iff.1 hl
  obtain⟨a,b,c⟩ := ji4 x (h x List.mem_cons_self)
  show TN (eB++x) ([jO x]++[])
  rw[show eB++x=x from eA x];exact fY x a b c
 | n+1,l,hl,h=>by
  have hne:l ≠ []:=fun e=>by rw[e] at hl;cases hl
  have e:=List.dropLast_concat_getLast hne
  obtain⟨a,b,c⟩ := ji4 _ (h _ (List.getLast_mem hne))
  have hy:=fY _ a b c
  have ih:=jon n l.dropLast (by rw[List.length_dropLast];omega) fun f hf=>h f (List.dropLast_subset l hf)
  generalize l.getLast hne=y at *
  have hd:l.dropLast ≠ []:=fun e0=>by rw[e0] at e;rw[<- e] at hl;simp at hl
  generalize l.dropLast=m at *;subst e
  cases m with
  | nil=>exact absurd rfl hd
  | cons x m =>
   rw[List.map_append]
   show TN (uZ ((x :: m)++[y])) (cmT (([jO x] :: m.map fun x=>[jO x])++[[jO y]]))
   rw[jeI,je4]
   have h1:=ih.mid jhw hy
   have e1:bs (jG pComma).text=pComma:=rfl
   rw[e1,kR _ pComma (by decide),nJ _ _ (by rw[lG _ (by decide)];decide)] at h1;exact h1
theorem jlS {w:ByteArray} (hw:LexT (jO w)) (hf:qA w ≠ 61) (h0:w ≠ ⟨#[]⟩) (h1:zE (yZ w)=true) {l:List ByteArray} (hl:l ≠ []) (h:∀ x ∈ l,x ∈ vnL):TN (nmF w l) (hZ w l):=by
 have h2:=((jon (l.length-1) l (by have:=List.length_pos_iff.2 hl;omega) h).wrd w hw hf).end
 rw[oF h0 h1 hl h] at h2;unfold hZ;rw[if_neg hl];exact h2
theorem jhH {w:ByteArray} {l:List ByteArray} (h:nmF w l ≠ ⟨#[]⟩):zE (yZ (nmF w l))=false:=by
 unfold nmF at h ⊢
 split at h
 ·exact absurd rfl h
 ·rw[if_neg (by assumption),lG _ (by decide)];decide
theorem u5 (w:ByteArray):nmF w [] = ⟨#[]⟩ := by unfold nmF;exact if_pos rfl
structure GV (u:Ut):Prop where
 du:∀ x ∈ u.du,x ∈ vnL
 vo:∀ x ∈ u.vo,x ∈ vnL
 nd:(u.du++u.vo).Nodup
 ln:1<=u.du.length+u.vo.length/\u.du.length+u.vo.length<=10
 on:∀ h ∈ u.on,0<=h.1/\h.1<40/\KG h.2
 inc:u.on.Pairwise fun a b=>a.1<b.1
 ol:u.on.length<=4
def jrg (u:Ut):List Co:=hZ wDurable u.du++hZ wVolatile u.vo++(u.on.map (nL false)).flatten
theorem jpZ {u:Ut} (h:GV u):TN (nmF wDurable u.du++nmF wVolatile u.vo) (hZ wDurable u.du++hZ wVolatile u.vo):=by
 have a:=fun hd=>jlS (w:=wDurable) (n8 _ (by decide)) (by decide) (by decide) (by decide) (l:=u.du) hd h.du
 have b:=fun hd=>jlS (w:=wVolatile) (n8 _ (by decide)) (by decide) (by decide) (by decide) (l:=u.vo) hd h.vo
 have hl:=h.ln
 by_cases h1:u.du=[]
 ·have h2:u.vo ≠ []:=fun e=>by rw[h1,e] at hl;simp at hl
  rw[h1,u5,eA];exact b h2
 ·have a:=a h1
  by_cases h2:u.vo=[]
  ·rw[h2,u5,x9]
   show TN _ (_++[])
   rw[List.append_nil];exact a
  ·have c:=a.cat (b h2)
   rw[nJ _ _ (jhH a.ne)] at c;exact c
theorem jq2 {u:Ut} (h:GV u):TN (prF u) (jrg u):=jq1 u.on _ _ (jpZ h) fun x hx=>jru x (h.on x hx).2.1 (jrr (h.on x hx).2.2)
theorem jqD:∀ (l:List ByteArray) (x:ByteArray) (c:Co) (names out:List ByteArray) (n:Nat) (ts r:List Tk) (q:List Co),Beg (c :: jO x :: (l.flatMap (fun y=>[jG pComma,jO y])++jG pSemi :: q)) ts r->(∀ y ∈ x :: l,jo0 y=true)->(names++x :: l).Nodup->names.length+l.length+1<=16->l.length<n -> ∃ u,aJ n names out ts = .ok (names++x :: l) (out++x :: l) u/\Beg q u r:=fun l=>by
 induction l with
 | nil =>
  intro x c names out n ts r q hb hf hn hl hk
  obtain⟨n,rfl⟩ : ∃ k,n=k+1:=⟨n-1,by simp at hk;omega⟩
  obtain⟨_,g1,_⟩ := hb.cons
  obtain⟨_,n1,_,t1,_,g2⟩ := q9 g1
  obtain⟨p,_,_,g3⟩ := vM (b:=q) (s:=pSemi) g2
  have n1:yU ts.tail=true:=by rw[n1];exact hf x List.mem_cons_self
  have hx:names.any (fun s=>decide (s=x))=false:=by
   rw[List.any_eq_false];intro s hs
   have:=(List.nodup_append.1 hn).2.2 s hs x List.mem_cons_self
   simpa using this
  refine⟨_,?_,g3⟩;rw[aJ,if_neg (by rw[n1];decide),t1,if_neg (by rw[hx];decide),if_neg (by simp only[List.length_nil] at hl;omega),p,if_neg (by decide),p,if_pos (by decide)]
 | cons y l ih =>
  intro x c names out n ts r q hb hf hn hl hk
  obtain⟨n,rfl⟩ : ∃ k,n=k+1:=⟨n-1,by simp at hk;omega⟩
  obtain⟨_,g1,_⟩ := hb.cons
  obtain⟨_,n1,_,t1,_,g2⟩ := q9 g1
  have g2:Beg (jG pComma :: jO y :: (l.flatMap (fun y=>[jG pComma,jO y])++jG pSemi :: q)) ts.tail.tail r:=by
   rw[List.flatMap_cons] at g2;exact g2
  obtain⟨p,_,_,_⟩ := vM g2
  have n1:yU ts.tail=true:=by rw[n1];exact hf x List.mem_cons_self
  have hx:names.any (fun s=>decide (s=x))=false:=by
   rw[List.any_eq_false];intro s hs
   have:=(List.nodup_append.1 hn).2.2 s hs x List.mem_cons_self
   simpa using this
  have e:∀ m:List ByteArray,m++x :: y :: l=m++[x]++y :: l:=fun m=>by rw[List.append_assoc];rfl
  simp only[List.length_cons] at hl hk
  obtain⟨u,h1,h2⟩ := ih y (jG pComma) (names++[x]) (out++[x]) n ts.tail.tail r q g2 (fun z hz=>hf z (List.mem_cons_of_mem _ hz)) (by rw[<- e];exact hn) (by rw[List.length_append];simp only[List.length_cons,List.length_nil];omega) (by omega)
  refine⟨u,?_,h2⟩;rw[aJ,if_neg (by rw[n1];decide),t1,if_neg (by rw[hx];decide),if_neg (by omega),p,if_pos (by decide),h1,e,e]
theorem jk8:∀ l:List ByteArray,l.length<=(l.flatMap fun y=>[jG pComma,jO y]).length
 | []=>Nat.zero_le _
 | y :: l=>by
  have ih:=jk8 l
  simp only[List.flatMap_cons,List.length_append,List.length_cons,List.length_nil];omega
theorem jjZ {w:ByteArray} {l:List ByteArray} (hl:l ≠ []) {names:List ByteArray} {q:List Co} {ts r:List Tk} (hb:Beg (hZ w l++q) ts r) (h:∀ x ∈ l,x ∈ vnL) (hn:(names++l).Nodup) (hk:names.length+l.length<=16):(∀ x,qS x ts=decide (w=x)) /\ ∃ u,aJ ts.length names [] ts = .ok (names++l) l u/\Beg q u r:=by
 unfold hZ at hb;rw[if_neg hl] at hb
 cases l with
 | nil=>exact absurd rfl hl
 | cons x l =>
  have hb:Beg (jO w :: jO x :: (l.flatMap (fun y=>[jG pComma,jO y])++jG pSemi :: q)) ts r:=by
   have e:(l.map fun x=>[jO x]).flatMap (fun y=>jG pComma :: y)=l.flatMap fun y=>[jG pComma,jO y]:=by rw[List.flatMap_map]
   have e2:jO w :: (cmT ((x :: l).map fun x=>[jO x])++[jG pSemi])++q=jO w :: jO x :: (l.flatMap (fun y=>[jG pComma,jO y])++jG pSemi :: q):=by
    rw[<- e,List.map_cons];unfold cmT
    simp
   rw[<- e2];exact hb
  obtain⟨p,_⟩ := q9 hb
  have hlen:=hb.len
  have hfl:=jk8 l
  simp only[List.length_cons,List.length_append] at hlen hk
  obtain⟨u,h1,h2⟩ := jqD l x _ names [] ts.length ts r q hb (fun y hy=>jry y (h y hy)) hn (by omega) (by omega)
  exact⟨p,u,h1,h2⟩
theorem GV.ho {u:Ut} (h:GV u):∀ x ∈ u.on,HO false x:=fun x hx=>⟨(h.on x hx).1,(h.on x hx).2.1,jpm (h.on x hx).2.2 19 (by decide)⟩
theorem jkY {vo:List ByteArray} (hv:∀ x ∈ vo,x ∈ vnL) {names du:List ByteArray} (hn:(names++vo).Nodup) (hk:names.length+vo.length<=16) {l:List (Int × Nt)} (hl:∀ x ∈ l,HO false x) (hp:l.Pairwise (fun a b=>a.1 ≠ b.1)) {ts r:List Tk} {k:Nat} (hb:Beg (hZ wVolatile vo++(l.map (nL false)).flatten) ts r) (hr:jjm r):lB (k+2) names du [] ts = .ok ⟨du,vo,xT l⟩ := by
 by_cases h0:vo=[]
 ·subst h0;exact jjX (k:=k+1) (names:=names) (du:=du) (vo:=[]) hb hr hl hp
 ·obtain⟨p,v,e,g⟩ := jjZ h0 hb hv hn hk
  rw[lB,if_neg (by rw[p];decide),if_pos (by rw[p];decide),e];exact jjX (k:=k) (names:=names++vo) (du:=du) (vo:=[]++vo) g hr hl hp
theorem jn1 {u:Ut} (h:GV u) {ts r:List Tk} (hb:Beg (jrg u) ts r) (hr:jjm r):jeY ts = .ok u:=by
 have hho:=h.ho
 have hpw:u.on.Pairwise (fun a b=>a.1 ≠ b.1):=h.inc.imp fun hab=>by omega
 have hsr:=jfi _ h.inc
 have hl:=h.ln
 have hb:Beg (hZ wDurable u.du++(hZ wVolatile u.vo++(u.on.map (nL false)).flatten)) ts r:=by
  rw[<- List.append_assoc];exact hb
 unfold jeY
 have hlen:=hb.len
 by_cases h0:u.du=[]
 ·have hv0:u.vo ≠ []:=fun e=>by rw[h0,e] at hl;simp at hl
  have hnd:=h.nd
  rw[h0] at hb hnd
  have hb:Beg (hZ wVolatile u.vo++(u.on.map (nL false)).flatten) ts r:=hb
  have hpos:1<=ts.length:=by
   have:=hb.len
   have e:1<=(hZ wVolatile u.vo).length:=by unfold hZ;rw[if_neg hv0];simp
   rw[List.length_append] at this;omega
  obtain⟨n,hn⟩ : ∃ n,ts.length+1=n+2:=⟨ts.length-1,by omega⟩
  rw[hn,jkY h.vo (names:=[]) (du:=[]) hnd (by simp only[List.length_nil];omega) hho hpw hb hr,hsr,<- h0]
 ·obtain⟨p,v,e,g⟩ := jjZ (names:=[]) h0 hb h.du (List.nodup_append.1 h.nd).1 (by simp only[List.length_nil];omega)
  have hpos:2<=ts.length:=by
   have e:2<=(hZ wDurable u.du).length:=by unfold hZ;rw[if_neg h0];simp
   rw[List.length_append] at hlen;omega
  obtain⟨n,hn⟩ : ∃ n,ts.length+1=n+2+1:=⟨ts.length-2,by omega⟩
  rw[hn,lB,if_pos (by rw[p];decide),e]
  show lB (n+2) ([]++u.du) ([]++u.du) [] v=_
  rw[jkY h.vo (names:=[]++u.du) (du:=[]++u.du) h.nd (by simp only[List.nil_append];omega) hho hpw g hr,hsr];rfl
theorem jm8 {u:Ut} (h:GV u) (hs:(prF u).size<=3000):rW (prF u) = .ok u:=by
 obtain⟨h1,h2⟩ := (jq2 h).row
 rw[jm9 hs h1];exact jn1 h h2 (jmt _)
end
theorem jhE (l:List ByteArray):uZ l=bs (Lib.join (l.map fun x=>x.data.toList) [44]):=by
 have key:∀ (l:List ByteArray) (a:ByteArray),(l.foldl (fun a y=>a++pComma++y) a).data.toList=a.data.toList++Lib.joinTail [44] (l.map fun x=>x.data.toList):=fun l=>by
  induction l with
  | nil=>intro a;simp[Lib.joinTail]
  | cons y l ih =>
   intro a
   show (l.foldl _ (a++pComma++y)).data.toList=_
   rw[ih,dO,dO,List.map_cons]
   simp[Lib.joinTail,show pComma.data.toList=[44] from rfl]
 refine bY ?_;rw[zZ]
 cases l with
 | nil=>rfl
 | cons x l =>
  rw[List.map_cons,Lib.join_cons]
  show (l.foldl _ (eB++x)).data.toList=_
  rw[key,show eB++x=x from eA x]
theorem jhu (l:List ByteArray) (hl:l ≠ []) (h1:l.length<=10) (hs:∀ x ∈ l,x ∈ vnL):Spec Tryz.prog 14 [] [.sl 1 l.length (x8 l),j0 pComma] fun _ r=>r=j0 (uZ l):=by
 have hz:=d8 l (fun x hx=>Nat.le_trans (cY x (hs x hx)).1 (by decide)) l.length (Nat.le_refl _)
 rw[List.take_length,jhE,xJ] at hz
 have h:=jiD (l.map fun x=>x.data.toList) 44 (by rw[List.length_map];exact List.length_pos_iff.2 hl) (by rw[List.length_map];omega) (by omega)
 rw[List.length_map,List.map_map,<- jhE,show l.map (bs ∘ fun x=>x.data.toList)=l from List.map_id'' (fun x=>zY x) l] at h;exact h
theorem hdv {x:Int × Nt} (h0:0<=x.1) (h1:x.1<40) (h:KG x.2):(hdN false x).size<=400000:=hdz false x ⟨h0,h1⟩ (jog h).1
theorem jn0 {u:Ut} (h:GV u):Spec Tryz.prog 5 [] [.agg (utA u)] fun _ r=>r=j0 (prF u):=by
 obtain⟨du,vo,hs⟩ := u
 have hhd:∀ x ∈ hs,(hdN false x).size<=400000:=fun x hx=>hdv (h.on x hx).1 (h.on x hx).2.1 (h.on x hx).2.2
 have h5:hs.length<=4:=h.ol
 have hln:1<=du.length+vo.length/\du.length+vo.length<=10:=h.ln
 have hdu:∀ x ∈ du,x ∈ vnL:=h.du
 have hvo:∀ x ∈ vo,x ∈ vnL:=h.vo
 have jd:=fun e:du ≠ []=>jhu du e (by omega) hdu
 have jv:=fun e:vo ≠ []=>jhu vo e (by omega) hvo
 have pd:=fun e:du ≠ []=>z6 (u4 e hdu).1
 have pv:=fun e:vo ≠ []=>z6 (u4 e hvo).1
 have zd:=d8 du (fun x hx=>Nat.le_trans (cY x (hdu x hx)).1 (by decide)) du.length (Nat.le_refl _)
 have zv:=d8 vo (fun x hx=>Nat.le_trans (cY x (hvo x hx)).1 (by decide)) vo.length (Nat.le_refl _)
 rw[List.take_length] at zd zv
 have zd:(uZ du).size<=1010:=Nat.le_trans zd (Nat.le_trans (Nat.mul_le_mul_right 101 (show du.length<=10 by omega)) (by decide))
 have zv:(uZ vo).size<=1010:=Nat.le_trans zv (Nat.le_trans (Nat.mul_le_mul_right 101 (show vo.length<=10 by omega)) (by decide))
 obtain⟨T1,hT1⟩ : ∃ T,T=nmF wDurable du:=⟨_,rfl⟩
 obtain⟨T2,hT2⟩ : ∃ T,T=nmF wDurable du++nmF wVolatile vo:=⟨_,rfl⟩
 have e1:du ≠ []->jA (jA (jA ⟨#[]⟩ wDurable) (uZ du)) pSemi=T1:=fun e=>by
  rw[show jA ⟨#[]⟩ wDurable=wDurable from kF wDurable,oF (by decide) (by decide) e hdu,hT1]
 have e1':du=[]->T1 = ⟨#[]⟩ := fun e=>by rw[hT1,e,u5]
 have e2:vo ≠ []->jA (jA (jA T1 wVolatile) (uZ vo)) pSemi=T2:=fun e=>by
  rw[qN T1 _ _ (by decide),qN T1 _ _ (bA (by decide)),oF (by decide) (by decide) e hvo,hT2,<- hT1]
  by_cases h0:T1 = ⟨#[]⟩
  ·rw[h0,eA];exact kF _
  ·rw[nJ _ _ (by rw[hT1] at h0 ⊢;exact jhH h0)]
 have e2':vo=[]->T2=T1:=fun e=>by rw[hT2,e,u5,x9,hT1]
 have z1:T1.size<=2100:=by rw[hT1];exact jeN _ _ (by omega) (fun x hx=>Nat.le_trans (cY x (hdu x hx)).1 (by decide)) (by decide)
 have z2:T2.size<=4200:=by
  have:=jeN wVolatile vo (by omega) (fun x hx=>Nat.le_trans (cY x (hvo x hx)).1 (by decide)) (by decide)
  rw[hT2,ByteArray.size_append,<- hT1];omega
 have e4:0<T2.size:=by
  refine z6 fun e => ?_
  rw[hT2] at e
  by_cases h0:du=[]
  ·have h2:vo ≠ []:=fun k=>by rw[h0,k] at hln;simp at hln
   rw[h0,u5,eA,<- oF (by decide) (by decide) h2 hvo] at e;exact bB (by decide) e
  ·rw[<- oF (by decide) (by decide) h0 hdu] at e;exact mI (bB (by decide)) e
 have epr:prF ⟨du,vo,hs⟩ = r7 false T2 hs:=by rw[hT2];rfl
 have d0:du ≠ [] ↔ 0<du.length:=List.length_pos_iff.symm
 have v0:vo ≠ [] ↔ 0<vo.length:=List.length_pos_iff.symm
 have d0':du.length=0->du=[]:=List.length_eq_zero_iff.1
 have v0':vo.length=0->vo=[]:=List.length_eq_zero_iff.1
 rw[epr]
 have eut:utA ⟨du,vo,hs⟩ = [.sl 1 du.length (x8 du),.sl 1 vo.length (x8 vo),.sl 5 hs.length (nZ hs)]:=rfl
 rw[eut];clear epr eut hT1 hT2;generalize uZ du=dJ at *;generalize uZ vo=vJ at *;generalize du.length=n1 at *;generalize vo.length=n2 at *
 have z0:(⟨#[]⟩ : ByteArray).size=0:=rfl
 have w1:wDurable.size=7:=rfl
 have w2:wVolatile.size=8:=rfl
 have w3:pSemi.size=1:=rfl
 refine nU (jF jH jY 0) (fun _ _ h=>h) Tryz.func5 rfl (by kernel_rfl) rfl ?_;intro _;refine yA (jF _ _ _) (by kernel_rfl) ?_;conv=>whnf
 refine yA (jF _ _ _) (by kernel_rfl) ?_;conv=>whnf
 refine jpd 5 [] [(1,1)] ?_;conv=>whnf
 refine⟨trivial,?_⟩;conv=>whnf
 refine kL (jF _ _ _) (by kernel_rfl) ?_;conv=>whnf
 obtain⟨S,hS0,hS1,hS2⟩ : ∃ S:Nat->ByteArray,S 0 = ⟨#[]⟩ /\ S 1=T1/\S 2=T2:=⟨fun j=>[⟨#[]⟩,T1,T2].getD j ⟨#[]⟩,rfl,rfl,rfl⟩
 have zS0:(S 0).size=0:=by rw[hS0];rfl
 have zS1:(S 1).size<=2100:=by rw[hS1];exact z1
 refine jT [1,3,12,13] ?_;conv=>whnf
 refine zF (fun j:Nat=>[(14,.v (.int .i64 j))]) (fun _=>[[.sl 1 n1 (x8 du),.sl 1 n2 (x8 vo),.sl 5 hs.length (nZ hs)],[.adr iS,.own 0]]) (fun j=>[.live 5 0 (S j).size [.v (.string (S j))],.live 23 1 2 [.sl 1 n1 (x8 du),.sl 1 n2 (x8 vo)]]) (fun j=>j<=2) (fun j=>2-j) 0 ?_ (by decide) ?_
 ·repeat' constructor
  all_goals (rw[hS0];rfl)
 rintro j hj;conv=>whnf
 by_cases hlt:j<2
 ·rw[qH (show (j:Int)<((2:Nat):Int) by omega)]
  rcases (by omega:j=0 ∨ j=1) with rfl | rfl
  ·by_cases hd:0<n1
   ·have jd:=jd (d0.2 hd)
    have pd:=pd (d0.2 hd)
    have e1:=e1 (d0.2 hd)
    conv=>whnf
    refine⟨by decide,?_⟩;conv=>whnf
    rw[qH (show 0<(n1:Int) by omega)];conv=>whnf
    refine⟨by decide,?_⟩;conv=>whnf
    refine kB 1 0 4 [3] ((jD (S 0) wDurable (by decide) (by omega)).r) ?_;rintro o n' cs' r ⟨s',rfl,rfl,ho,hs',rfl⟩;cases ho;conv=>whnf
    have hz2:=jB (S 0) wDurable
    rw[<- hs'] at hz2
    have hs2:=hs'
    clear hs';generalize s'=s2 at *
    (refine yI [] jd ?_;rintro r rfl;conv=>whnf)
    refine kB 1 4 6 [5] ((yB s2 dJ pSemi pd (by decide) (by omega)).r) ?_;rintro o n' cs' r ⟨s',rfl,rfl,ho,hs',rfl⟩;cases ho;conv=>whnf
    refine⟨jS (by omega),?_⟩;conv=>whnf
    refine⟨0+1,jU [6,1] ?_,by decide,by decide⟩;conv=>whnf
    rw[show S (0+1)=_ from hS1,<- e1,<- hS0,<- hs2,<- hs']
    repeat' constructor
   ·have e1':=e1' (d0' (by omega))
    conv=>whnf
    refine⟨by decide,?_⟩;conv=>whnf
    rw[j8 (show ¬ 0<(n1:Int) by omega)];conv=>whnf
    refine⟨jS (by omega),?_⟩;conv=>whnf
    refine⟨0+1,jU [0,1] ?_,by decide,by decide⟩;conv=>whnf
    rw[show S (0+1)=_ from hS1,e1',hS0]
    repeat' constructor
  ·by_cases hd:0<n2
   ·have jv:=jv (v0.2 hd)
    have pv:=pv (v0.2 hd)
    have e2:=e2 (v0.2 hd)
    conv=>whnf
    refine⟨by decide,?_⟩;conv=>whnf
    rw[qH (show 0<(n2:Int) by omega)];conv=>whnf
    refine⟨by decide,?_⟩;conv=>whnf
    refine kB 1 0 4 [3] ((jD (S 1) wVolatile (by decide) (by omega)).r) ?_;rintro o n' cs' r ⟨s',rfl,rfl,ho,hs',rfl⟩;cases ho;conv=>whnf
    have hz2:=jB (S 1) wVolatile
    rw[<- hs'] at hz2
    have hs2:=hs'
    clear hs';generalize s'=s2 at *
    (refine yI [] jv ?_;rintro r rfl;conv=>whnf)
    refine kB 1 4 6 [5] ((yB s2 vJ pSemi pv (by decide) (by omega)).r) ?_;rintro o n' cs' r ⟨s',rfl,rfl,ho,hs',rfl⟩;cases ho;conv=>whnf
    refine⟨jS (by omega),?_⟩;conv=>whnf
    refine⟨1+1,jU [6,1] ?_,by decide,by decide⟩;conv=>whnf
    rw[show S (1+1)=_ from hS2,<- e2,<- hS1,<- hs2,<- hs']
    repeat' constructor
   ·have e2':=e2' (v0' (by omega))
    conv=>whnf
    refine⟨by decide,?_⟩;conv=>whnf
    rw[j8 (show ¬ 0<(n2:Int) by omega)];conv=>whnf
    refine⟨jS (by omega),?_⟩;conv=>whnf
    refine⟨1+1,jU [0,1] ?_,by decide,by decide⟩;conv=>whnf
    rw[show S (1+1)=_ from hS2,e2',hS1]
    repeat' constructor
 rw[j8 (show ¬ (j:Int)<((2:Nat):Int) by omega)]
 obtain rfl:j=2:=by omega
 rw[hS2];conv=>whnf
 obtain⟨V,hV⟩ : ∃ V:Nat->ByteArray,∀ j,V j=r7 false T2 (hs.take j):=⟨_,fun _=>rfl⟩
 have hV0:V 0=T2:=by rw[hV,List.take_zero];rfl
 have hVl:V hs.length=r7 false T2 hs:=by rw[hV,List.take_length]
 have hVn:∀ j (h:j<hs.length),V (j+1)=jA (V j) (hdN false hs[j]):=fun j h=>by rw[hV,hV,List.take_succ_eq_append_getElem h,jiw]
 have hVz:∀ j,(V j).size<=2000000:=fun j=>by
  rw[hV]
  have s1:=jiv false T2 (hs.take j) (fun z hz=>hhd z (List.mem_of_mem_take hz))
  have hm:(hs.take j).length*400001<=4*400001:=Nat.mul_le_mul_right _ (by rw[List.length_take];omega)
  omega
 rw[<- hVl,<- hV0];refine oE [0] ?_;conv=>whnf
 refine jT [3,34,35] ?_;conv=>whnf
 refine zF (fun j:Nat=>[(36,.v (.int .i64 j))]) (fun _=>[[.sl 1 n1 (x8 du),.sl 1 n2 (x8 vo),.sl 5 hs.length (nZ hs)],[.adr iS,.own 0]]) (fun j=>[.live 5 0 (V j).size [.v (.string (V j))]]) (fun j=>j<=hs.length) (fun j=>hs.length-j) 0 ?_ (Nat.zero_le _) ?_
 ·repeat' constructor
 rintro j hj;conv=>whnf
 have hz:=hVz j
 by_cases hlt:j<hs.length
 ·rw[qH (show (j:Int)<(hs.length:Int) by omega)]
  have hr:=jj6 hs j hlt
  have hg:=h.on _ (List.getElem_mem hlt)
  have hVn:=hVn j hlt
  generalize hs[j]=g at *
  obtain⟨n,b⟩ := g
  obtain⟨g1,g2,g3⟩ := hg
  have g1:0<=n:=g1
  have g2:n<40:=g2
  have hb:=jog g3
  have hbk:=hb.2.2
  have hbz:=hb.1.1
  have hbp:=hb.2.1
  have hdn:hdN false (n,b)=qM [wOn,hdW n,gO false b]:=rfl
  have hwp:0<(hdW n).size:=by
   unfold hdW
   have a2:wMsgS.size=8:=rfl
   have a3:wTimS.size=6:=rfl
   repeat' split
   all_goals first | decide | (rw[ByteArray.size_append];omega)
  have hpf:=zW (V j) 3 [wOn,hdW n,gO false b] rfl (by
   intro x hx;simp only[List.mem_cons,List.not_mem_nil,or_false] at hx
   rcases hx with rfl | rfl | rfl
   ·decide
   ·exact hwp
   ·exact hbp)
  rw[hdn,<- hpf] at hVn
  have hVn:V (j+1)=jA (jA (jA (V j) wOn) (hdW n)) (gO false b):=hVn
  clear hpf hdn;generalize gO false b=y at *
  have y1:wOn.size=2:=rfl
  have y2:wStart.size=5:=rfl
  have y3:wRequest.size=7:=rfl
  have y4:wTimer.size=5:=rfl
  have y5:wMessage.size=7:=rfl
  conv=>whnf
  refine⟨by omega,?_⟩;conv=>whnf
  (generalize hrq:jM _ _ (nZ hs)=rq;obtain rfl:rq=hnA (n,b):=hrq.symm.trans (hr);clear hrq;conv=>whnf)
  refine kB 1 0 2 [1] ((jD (V j) wOn (by decide) (by omega)).r) ?_;rintro o n' cs' r ⟨s',rfl,rfl,ho,hs',rfl⟩;cases ho;conv=>whnf
  have hz2:=jB (V j) wOn
  rw[<- hs'] at hz2;rw[<- hs'] at hVn;clear hs';generalize s'=s2 at *
  by_cases n0:n=0
  ·subst n0;rw[show hdW 0=wStart from rfl] at hVn;conv=>whnf
   refine kB 1 2 4 [3] ((jD s2 wStart (by decide) (by omega)).r) ?_;rintro o n' cs' r ⟨s',rfl,rfl,ho,hs',rfl⟩;cases ho;conv=>whnf
   have hz3:=jB s2 wStart
   rw[<- hs'] at hz3;rw[<- hs'] at hVn;clear hs';generalize s'=s3 at *;refine kB 1 4 5 [] (hbk s3 (by omega)) ?_;rintro o n' cs' r ⟨s',rfl,rfl,ho,hs',rfl⟩;cases ho;conv=>whnf
   refine⟨jS (by omega),?_⟩;conv=>whnf
   refine⟨j+1,jU [5] ?_,hlt,by omega⟩;conv=>whnf
   rw[hVn,<- hs']
   repeat' constructor
  rw[j8 n0];conv=>whnf
  by_cases n1:n=1
  ·subst n1;rw[show hdW 1=wRequest from rfl] at hVn;conv=>whnf
   refine kB 1 2 4 [3] ((jD s2 wRequest (by decide) (by omega)).r) ?_;rintro o n' cs' r ⟨s',rfl,rfl,ho,hs',rfl⟩;cases ho;conv=>whnf
   have hz3:=jB s2 wRequest
   rw[<- hs'] at hz3;rw[<- hs'] at hVn;clear hs';generalize s'=s3 at *;refine kB 1 4 5 [] (hbk s3 (by omega)) ?_;rintro o n' cs' r ⟨s',rfl,rfl,ho,hs',rfl⟩;cases ho;conv=>whnf
   refine⟨jS (by omega),?_⟩;conv=>whnf
   refine⟨j+1,jU [5] ?_,hlt,by omega⟩;conv=>whnf
   rw[hVn,<- hs']
   repeat' constructor
  rw[j8 n1];conv=>whnf
  by_cases n9:n<10
  ·rw[show hdW n=wTimS++bs (qF (n-2).toNat) by unfold hdW;rw[if_neg n1,if_neg (by omega),if_pos (by omega)]] at hVn
   have hdc:=nO (n-2) (by omega)
   have d1:=wK (n-2).toNat (by omega)
   have d2:=aX (n-2).toNat
   have d3:wTimS++bs (qF (n-2).toNat)=jA wTimer (bs (qF (n-2).toNat)):=(mV wTimer (by decide) (by decide) _).symm
   rw[d3,<- qN _ _ _ (by decide)] at hVn;clear d3 hwp;generalize bs (qF (n-2).toNat)=d at *;rw[qH n9];conv=>whnf
   refine⟨jS (by omega),?_⟩;conv=>whnf
   (refine yI [] hdc ?_;rintro r rfl;conv=>whnf)
   refine kB 1 2 4 [3] ((yB s2 wTimer d (by decide) d2 (by omega)).r) ?_;rintro o n' cs' r ⟨s',rfl,rfl,ho,hs',rfl⟩;cases ho;conv=>whnf
   have hz3:(jA (jA s2 wTimer) d).size<=s2.size+20:=by
    have q1:=jB s2 wTimer
    have q2:=jB (jA s2 wTimer) d
    omega
   rw[<- hs'] at hz3;rw[<- hs'] at hVn;clear hs';generalize s'=s3 at *;refine kB 1 4 5 [] (hbk s3 (by omega)) ?_;rintro o n' cs' r ⟨s',rfl,rfl,ho,hs',rfl⟩;cases ho;conv=>whnf
   refine⟨jS (by omega),?_⟩;conv=>whnf
   refine⟨j+1,jU [5] ?_,hlt,by omega⟩;conv=>whnf
   rw[hVn,<- hs']
   repeat' constructor
  ·rw[show hdW n=wMsgS++bs (qF (n-10).toNat) by unfold hdW;rw[if_neg n1,if_pos (by omega)]] at hVn
   have hdc:=nO (n-10) (by omega)
   have d1:=wK (n-10).toNat (by omega)
   have d2:=aX (n-10).toNat
   have d3:wMsgS++bs (qF (n-10).toNat)=jA wMessage (bs (qF (n-10).toNat)):=(mV wMessage (by decide) (by decide) _).symm
   rw[d3,<- qN _ _ _ (by decide)] at hVn;clear d3 hwp;generalize bs (qF (n-10).toNat)=d at *;rw[j8 n9];conv=>whnf
   refine⟨jS (by omega),?_⟩;conv=>whnf
   (refine yI [] hdc ?_;rintro r rfl;conv=>whnf)
   refine kB 1 2 4 [3] ((yB s2 wMessage d (by decide) d2 (by omega)).r) ?_;rintro o n' cs' r ⟨s',rfl,rfl,ho,hs',rfl⟩;cases ho;conv=>whnf
   have hz3:(jA (jA s2 wMessage) d).size<=s2.size+22:=by
    have q1:=jB s2 wMessage
    have q2:=jB (jA s2 wMessage) d
    omega
   rw[<- hs'] at hz3;rw[<- hs'] at hVn;clear hs';generalize s'=s3 at *;refine kB 1 4 5 [] (hbk s3 (by omega)) ?_;rintro o n' cs' r ⟨s',rfl,rfl,ho,hs',rfl⟩;cases ho;conv=>whnf
   refine⟨jS (by omega),?_⟩;conv=>whnf
   refine⟨j+1,jU [5] ?_,hlt,by omega⟩;conv=>whnf
   rw[hVn,<- hs']
   repeat' constructor
 ·rw[j8 (show ¬ (j:Int)<(hs.length:Int) by omega)]
  obtain rfl:j=hs.length:=by omega
  have hne:0<(V hs.length).size:=by
   rw[hVl];exact jka false hs T2 e4
  conv=>whnf
  refine kB 1 0 1 [] (mL iS (V hs.length) hne) ?_;rintro o n' cs' r ⟨s5,rfl,rfl,ho,rfl,rfl⟩;cases ho;conv=>whnf
  rfl
theorem gI (l:List Int) (i m:Nat) (hl:l.length<=1000000) (hi:i<=1000000000) (hm:1<=m/\m<=1000):Spec Tryz.prog 10 [bxG l i] [.box 0 0,jJ m] fun o r => ∃ k:Nat,k<m/\o=[bxG l (i+1)]/\r=jJ k:=by
 by_cases h:i<l.length
 ·have hr:=jgH l i h
  generalize l[i]=x at *
  have ha:=rB x 1000000007 (by omega)
  refine eN job jY 1 Tryz.func10 rfl ?_;intro hok;conv=>whnf
  refine⟨jS (by omega),?_⟩;conv=>whnf
  rw[j8 (show ¬ (l.length:Int)<(i:Int)+1 by omega)];conv=>whnf
  refine⟨jS (by omega),?_⟩;rw[show (i:Int)+1-1=i by omega];conv=>whnf
  refine⟨⟨by omega,by omega⟩,?_⟩;conv=>whnf
  (generalize hrq:jM _ _ (bF l)=rq;obtain rfl:rq=[jJ x]:=hrq.symm.trans (hr);clear hrq;conv=>whnf)
  refine yI [] ha ?_;rintro r ⟨hx,rfl⟩
  obtain⟨k,hk⟩ : ∃ k:Nat,gN x 1000000007=(k:Int):=⟨(gN x 1000000007).toNat,by have:=(jdL hx (show (1:Int)<=1000000007 by omega)).1;omega⟩
  rw[hk];conv=>whnf
  (refine uI ?_;try with_reducible exact trivial)
  have e:((k:Int)).tmod (m:Int)=((k % m:Nat):Int):=by rw[Int.tmod_eq_emod_of_nonneg (by omega)];omega
  exact⟨k % m,Nat.mod_lt _ (by omega),rfl,by rw[e];rfl⟩
 ·refine eN job jY 1 Tryz.func10 rfl ?_;intro hok;conv=>whnf
  refine⟨jS (by omega),?_⟩;conv=>whnf
  rw[qH (show (l.length:Int)<(i:Int)+1 by omega)];conv=>whnf
  exact⟨0,by omega,rfl,rfl⟩
theorem sK:∀ n<10,vnL.getD n ⟨#[]⟩ = (⟨#[118]⟩ : ByteArray) ++ ⟨#[UInt8.ofNat (97+(n:Int)).toNat]⟩ := by decide
theorem jeJ (n:Nat) (hn:n<10):(⟨#[118]⟩ : ByteArray) ++ ⟨#[UInt8.ofNat (97+(n:Int)).toNat]⟩ ∈ vnL:=by
 rw[<- sK n hn,List.getD_eq_getElem?_getD,List.getElem?_eq_getElem (show n<vnL.length from hn)];exact List.getElem_mem _
theorem jg5 (n:Nat) (hn:n<10):Spec Tryz.prog 11 [] [jJ n] fun o r=>r=j0 (vnL.getD n ⟨#[]⟩):=by
 rw[sK n hn]
 have ha:Spec Tryz.prog 27 [] [jJ n,jJ 10] fun _ r=>r=jJ n:=(rB n 10 (by omega)).mono fun o r h=>by
  have e:gN n 10=n:=by
   have e2:sZ (n:Int)=n:=by unfold sZ;rw[if_neg (by omega)]
   unfold gN;rw[e2,Int.tmod_eq_emod_of_nonneg (by omega)];omega
  rw[e] at h;exact h.2
 refine eN jH jY 0 Tryz.func11 rfl ?_;intro hok;conv=>whnf
 refine yI [] ha ?_;rintro r rfl;conv=>whnf
 refine⟨jS (by omega),?_⟩;conv=>whnf
 refine⟨⟨by show (-2147483648:Int)<=_;omega,by show _<=(2147483647:Int);omega⟩,?_⟩;conv=>whnf
 refine⟨⟨by omega,by omega⟩,?_⟩;conv=>whnf
 refine⟨by show (2:Nat)<=_;decide,?_⟩;conv=>whnf
 rfl
theorem mX (n:Nat) (hn:n<10):Spec Tryz.prog 11 [] [jJ n] fun o r => ∃ s ∈ vnL,r=j0 s:=(jg5 n hn).mono fun o r h=>⟨_,by rw[sK n hn];exact jeJ n hn,h⟩
theorem jcU (l:List Int) (i:Nat) (L:List ByteArray) (hl:l.length<=1000000) (hi:i<=1000000000) (hm:1<=L.length/\L.length<=1000):Spec Tryz.prog 75 [bxG l i] [.box 0 0,.sl 1 L.length (aH L)] fun o r => ∃ s ∈ L,o=[bxG l (i+1)]/\r=j0 s:=by
 have hp:=gI l i L.length hl hi hm
 refine eN jH jY 1 Tryz.func75 rfl ?_;intro hok;conv=>whnf
 refine qT 0 [] hp ?_;rintro o r ⟨k,hk,ho,rfl⟩;cases ho
 have hr:jM 1 k (aH L)=[j0 L[k]]:=y9 j0 L k hk
 conv=>whnf
 refine⟨⟨by omega,by omega⟩,?_⟩;conv=>whnf
 (generalize hrq:jM _ _ (aH L)=rq;obtain rfl:rq=[j0 L[k]]:=hrq.symm.trans (hr);clear hrq;conv=>whnf)
 exact⟨_,List.getElem_mem hk,rfl,rfl⟩
def bG:Nat->Nat
 | 0=>4
 | d+1=>4+2*bG d
theorem jqs:∀ d,4<=bG d
 | 0=>Nat.le_refl _
 | d+1=>by unfold bG;omega
def jmi (l:List Int) (i c:Nat) (Q:Nt->Prop) (o:List (List A)) (r:A):Prop := ∃ i' t,i<=i'/\i'<=i+c/\Q t/\o=[bxG l i']/\r = .agg (ntA t)
def jqe (l:List Int) (i c:Nat) (Q:Nt->Prop) (o:List (List A)) (r:A):Prop := ∃ i' t,i<=i'/\i'<=i+c/\Q t/\o=[bxG l i'] /\ ∃ m,r = .agg m/\WkL m (ntA t)
theorem gwE {P:Program} {f:Nat} {cs args:List A} {l:List Int} {i c:Nat} {Q:Nt->Prop} (h:Spec P f [cs] args (jqe l i c Q)):Spec P f [cs] args (jmi l i c Q) :=
 Spec.weaken h fun o r ⟨i',t,h1,h2,h3,h4,m,h5,h6⟩=>⟨o,.agg (ntA t),⟨i',t,h1,h2,h3,h4,rfl⟩,.refl _,by rw[h5];exact .agg h6⟩
def jot (l:List Int) (d:Nat):Prop := ∀ (i:Nat) (w z:Int),w=1 ∨ w=2->z.toNat=d -> -5<=z->z<=10->i+bG d<=1000000000->Spec Tryz.prog 49 [bxG l i] [.box 0 0,.v (.int .i64 w),.v (.int .i64 z)] (jmi l i (bG d) (EG d))
def jpa:List ByteArray:=[⟨#[115,101,108,102]⟩,⟨#[110,111,100,101,115]⟩,⟨#[110,111,119]⟩,⟨#[102,114,111,109]⟩,⟨#[97]⟩,⟨#[98]⟩,⟨#[105,100]⟩,⟨#[111,112]⟩,⟨#[107,101,121]⟩]
theorem jiM:∀ s ∈ jpa,s ∈ builtL:=by
 have h:∀ s ∈ jpa,(builtL.any fun x=>decide (s=x))=true:=by decide
 intro s hs
 obtain⟨x,h1,h2⟩ := List.any_eq_true.1 (h s hs)
 rw[of_decide_eq_true h2];exact h1
theorem jr0:∀ s ∈ jfS,s ∈ allOps:=fun s h=>List.mem_append_left _ (List.mem_append_right _ h)
theorem jr1:∀ s ∈ opL,s ∈ allOps:=fun s h=>List.mem_append_left _ (List.mem_append_left _ h)
theorem jr2:∀ s ∈ cmpL,s ∈ allOps:=fun s h=>List.mem_append_right _ h
theorem jo2 (l:List Int) (hl:l.length<=1000000) (d:Nat) (ih:∀ e,d=e+1->jot l e):jot l d:=fun i w z hw hz h1 h2 hi=>by
 have hge:=jqs d
 have hn0:=gI l i 24 hl (by omega) (by decide)
 have hn1:=gI l (i+1) 6 hl (by omega) (by decide)
 have hn2:=gI l (i+1+1) 2 hl (by omega) (by decide)
 have hn10:=gI l (i+1+1) 10 hl (by omega) (by decide)
 have hn100:=gI l (i+1+1) 100 hl (by omega) (by decide)
 have hL9:=jcU l (i+1+1) jpa hl (by omega) (by decide)
 have hL2:=jcU l (i+1+1) jfS hl (by omega) (by decide)
 have hL4:=jcU l (i+1+1) opL hl (by omega) (by decide)
 have hL6:=jcU l (i+1+1) cmpL hl (by omega) (by decide)
 refine gwE ?_
 rcases hw with rfl | rfl
 all_goals
  refine eN jH (fun _=>[0]) 1 Tryz.func49 rfl ?_;intro hok;conv=>whnf
  refine qT 0 [] hn0 ?_;rintro o r ⟨k0,hk0,ho,rfl⟩;cases ho;conv=>whnf
  by_cases h5:k0=5
  all_goals
   first
   | (rw[qH (show (k0:Int)=5 by omega)];(conv=>whnf);refine⟨by decide,?_⟩)
   | rw[j8 (show ¬ (k0:Int)=5 by omega)]
   conv=>whnf
   refine qT 0 [] hn1 ?_;rintro o r ⟨k,hk,ho,rfl⟩;cases ho;conv=>whnf
 ·by_cases hz1:z<1
  ·rw[qH hz1];conv=>whnf
   refine qT 0 [] hn2 ?_;rintro o r ⟨b,hb,ho,rfl⟩;cases ho;conv=>whnf
   exact⟨_,.mk 13 b eB [],by omega,by omega,.bol _ _ hb,rfl,_,rfl,jV (f := .mk 13 b eB []) rfl⟩
  rw[j8 hz1];conv=>whnf
  obtain⟨e,rfl⟩ : ∃ e,d=e+1:=⟨d-1,by omega⟩
  have ihe:=ih e rfl
  have hbe:bG (e+1)=4+2*bG e:=rfl
  by_cases q0:k=0
  ·rw[qH (show (k:Int)=0 by omega)];conv=>whnf
   refine qT 0 [] hn2 ?_;rintro o r ⟨b,hb,ho,rfl⟩;cases ho;conv=>whnf
   exact⟨_,.mk 13 b eB [],by omega,by omega,.bol _ _ hb,rfl,_,rfl,jV (f := .mk 13 b eB []) rfl⟩
  rw[j8 (show ¬ (k:Int)=0 by omega)];conv=>whnf
  by_cases q1:k=1
  ·rw[qH (show (k:Int)=1 by omega)];conv=>whnf
   refine⟨jS (by omega),?_⟩;conv=>whnf
   refine qT 0 [] ((ihe (i+1+1) 2 (z-1) (.inr rfl) (by omega) (by omega) (by omega) (by omega))) ?_;rintro o r ⟨i2,f,g1,g2,hf,ho,rfl⟩;cases ho;conv=>whnf
   exact⟨_,.mk 17 0 zH [f],by omega,by unfold bG;omega,.una _ _ _ (.inr rfl) hf,rfl,_,rfl,by rw[kU];exact qE _⟩
  rw[j8 (show ¬ (k:Int)=1 by omega)];conv=>whnf
  by_cases q2:k=2
  ·rw[qH (show (k:Int)=2 by omega)];conv=>whnf
   refine qT 0 [0] hL2 ?_;rintro o r ⟨s,hs,ho,rfl⟩;cases ho;conv=>whnf
   refine⟨jS (by omega),?_⟩;conv=>whnf
   refine qT 0 [] ((ihe (i+1+1+1) 2 (z-1) (.inr rfl) (by omega) (by omega) (by omega) (by omega))) ?_;rintro o r ⟨i2,f,g1,g2,hf,ho,rfl⟩;cases ho;conv=>whnf
   refine⟨jS (by omega),?_⟩;conv=>whnf
   refine qT 0 [] ((ihe i2 2 (z-1) (.inr rfl) (by omega) (by omega) (by omega) (by omega))) ?_;rintro o r ⟨i3,g,g3,g4,hg,ho,rfl⟩;cases ho;conv=>whnf
   exact⟨_,.mk 18 0 s [f,g],by omega,by unfold bG;omega,.bin _ _ _ _ (jr0 s hs) hf hg,rfl,_,rfl,by rw[wZ];exact qE _⟩
  rw[j8 (show ¬ (k:Int)=2 by omega)];conv=>whnf
  refine qT 0 [0] hL6 ?_;rintro o r ⟨s,hs,ho,rfl⟩;cases ho;conv=>whnf
  refine⟨jS (by omega),?_⟩;conv=>whnf
  refine qT 0 [] ((ihe (i+1+1+1) 1 (z-1) (.inl rfl) (by omega) (by omega) (by omega) (by omega))) ?_;rintro o r ⟨i2,f,g1,g2,hf,ho,rfl⟩;cases ho;conv=>whnf
  refine⟨jS (by omega),?_⟩;conv=>whnf
  refine qT 0 [] ((ihe i2 1 (z-1) (.inl rfl) (by omega) (by omega) (by omega) (by omega))) ?_;rintro o r ⟨i3,g,g3,g4,hg,ho,rfl⟩;cases ho;conv=>whnf
  exact⟨_,.mk 18 0 s [f,g],by omega,by unfold bG;omega,.bin _ _ _ _ (jr2 s hs) hf hg,rfl,_,rfl,by rw[wZ];exact qE _⟩
 ·by_cases hz1:z<1
  ·rw[qH hz1];conv=>whnf
   refine⟨by decide,?_⟩
   rcases (by omega:k=0 ∨ k=1 ∨ k=2 ∨ k=3 ∨ k=4 ∨ k=5) with rfl | rfl | rfl | rfl | rfl | rfl
   all_goals
    conv=>whnf
    first
    | (refine⟨by decide,?_⟩;(conv=>whnf))
    | skip
   ·refine qT 0 [] hn10 ?_;rintro o r ⟨b,hb,ho,rfl⟩;cases ho;conv=>whnf
    refine yI [] (mX b hb) ?_;rintro r ⟨s,hs,rfl⟩;conv=>whnf
    exact⟨_,.mk 14 0 s [],by omega,by omega,.var _ _ hs,rfl,_,rfl,jV (f := .mk 14 0 s []) rfl⟩
   ·refine qT 0 [0] hL9 ?_;rintro o r ⟨s,hs,ho,rfl⟩;cases ho;conv=>whnf
    exact⟨_,.mk 15 0 s [],by omega,by omega,.nam _ _ (jiM s hs),rfl,_,rfl,jV (f := .mk 15 0 s []) rfl⟩
   ·refine qT 0 [] hn100 ?_;rintro o r ⟨b,hb,ho,rfl⟩;cases ho;conv=>whnf
    exact⟨_,.mk 12 b eB [],by omega,by omega,.int _ _ hb,rfl,_,rfl,jV (f := .mk 12 b eB []) rfl⟩
   ·refine qT 0 [] hn10 ?_;rintro o r ⟨b,hb,ho,rfl⟩;cases ho;conv=>whnf
    refine yI [] (mX b hb) ?_;rintro r ⟨s,hs,rfl⟩;conv=>whnf
    exact⟨_,.mk 14 0 s [],by omega,by omega,.var _ _ hs,rfl,_,rfl,jV (f := .mk 14 0 s []) rfl⟩
   ·refine qT 0 [0] hL9 ?_;rintro o r ⟨s,hs,ho,rfl⟩;cases ho;conv=>whnf
    exact⟨_,.mk 15 0 s [],by omega,by omega,.nam _ _ (jiM s hs),rfl,_,rfl,jV (f := .mk 15 0 s []) rfl⟩
   ·refine qT 0 [] hn100 ?_;rintro o r ⟨b,hb,ho,rfl⟩;cases ho;conv=>whnf
    exact⟨_,.mk 12 b eB [],by omega,by omega,.int _ _ hb,rfl,_,rfl,jV (f := .mk 12 b eB []) rfl⟩
  rw[j8 hz1];conv=>whnf
  obtain⟨e,rfl⟩ : ∃ e,d=e+1:=⟨d-1,by omega⟩
  have ihe:=ih e rfl
  have hbe:bG (e+1)=4+2*bG e:=rfl
  by_cases q0:k<2
  ·rw[qH (show (k:Int)<2 by omega)];conv=>whnf
   refine⟨by decide,?_⟩
   rcases (by omega:k=0 ∨ k=1) with rfl | rfl
   all_goals
    conv=>whnf
    first
    | (refine⟨by decide,?_⟩;(conv=>whnf))
    | skip
   ·refine qT 0 [] hn10 ?_;rintro o r ⟨b,hb,ho,rfl⟩;cases ho;conv=>whnf
    refine yI [] (mX b hb) ?_;rintro r ⟨s,hs,rfl⟩;conv=>whnf
    exact⟨_,.mk 14 0 s [],by omega,by omega,.var _ _ hs,rfl,_,rfl,jV (f := .mk 14 0 s []) rfl⟩
   ·refine qT 0 [0] hL9 ?_;rintro o r ⟨s,hs,ho,rfl⟩;cases ho;conv=>whnf
    exact⟨_,.mk 15 0 s [],by omega,by omega,.nam _ _ (jiM s hs),rfl,_,rfl,jV (f := .mk 15 0 s []) rfl⟩
  rw[j8 (show ¬ (k:Int)<2 by omega)];conv=>whnf
  by_cases q1:k=2
  ·rw[qH (show (k:Int)=2 by omega)];conv=>whnf
   refine⟨jS (by omega),?_⟩;conv=>whnf
   refine qT 0 [] ((ihe (i+1+1) 1 (z-1) (.inl rfl) (by omega) (by omega) (by omega) (by omega))) ?_;rintro o r ⟨i2,f,g1,g2,hf,ho,rfl⟩;cases ho;conv=>whnf
   exact⟨_,.mk 17 0 pMinus [f],by omega,by unfold bG;omega,.una _ _ _ (.inl rfl) hf,rfl,_,rfl,by rw[kU];exact qE _⟩
  rw[j8 (show ¬ (k:Int)=2 by omega)];conv=>whnf
  by_cases q2:k=3
  ·rw[qH (show (k:Int)=3 by omega)];conv=>whnf
   refine⟨jS (by omega),?_⟩;conv=>whnf
   refine qT 0 [] ((ihe (i+1+1) 1 (z-1) (.inl rfl) (by omega) (by omega) (by omega) (by omega))) ?_;rintro o r ⟨i2,f,g1,g2,hf,ho,rfl⟩;cases ho;conv=>whnf
   exact⟨_,.mk 16 0 eB [f],by omega,by unfold bG;omega,.drw _ _ hf,rfl,_,rfl,by rw[kU];exact qE _⟩
  rw[j8 (show ¬ (k:Int)=3 by omega)];conv=>whnf
  refine qT 0 [0] hL4 ?_;rintro o r ⟨s,hs,ho,rfl⟩;cases ho;conv=>whnf
  refine⟨jS (by omega),?_⟩;conv=>whnf
  refine qT 0 [] ((ihe (i+1+1+1) 1 (z-1) (.inl rfl) (by omega) (by omega) (by omega) (by omega))) ?_;rintro o r ⟨i2,f,g1,g2,hf,ho,rfl⟩;cases ho;conv=>whnf
  refine⟨jS (by omega),?_⟩;conv=>whnf
  refine qT 0 [] ((ihe i2 1 (z-1) (.inl rfl) (by omega) (by omega) (by omega) (by omega))) ?_;rintro o r ⟨i3,g,g3,g4,hg,ho,rfl⟩;cases ho;conv=>whnf
  exact⟨_,.mk 18 0 s [f,g],by omega,by unfold bG;omega,.bin _ _ _ _ (jr1 s hs) hf hg,rfl,_,rfl,by rw[wZ];exact qE _⟩
 ·by_cases hz1:z<1
  ·rw[qH hz1];conv=>whnf
   refine⟨by decide,?_⟩
   rcases (by omega:k=0 ∨ k=1 ∨ k=2 ∨ k=3 ∨ k=4 ∨ k=5) with rfl | rfl | rfl | rfl | rfl | rfl
   all_goals
    conv=>whnf
    first
    | (refine⟨by decide,?_⟩;(conv=>whnf))
    | skip
   ·refine qT 0 [] hn10 ?_;rintro o r ⟨b,hb,ho,rfl⟩;cases ho;conv=>whnf
    refine yI [] (mX b hb) ?_;rintro r ⟨s,hs,rfl⟩;conv=>whnf
    exact⟨_,.mk 14 0 s [],by omega,by omega,.var _ _ hs,rfl,_,rfl,jV (f := .mk 14 0 s []) rfl⟩
   ·refine qT 0 [0] hL9 ?_;rintro o r ⟨s,hs,ho,rfl⟩;cases ho;conv=>whnf
    exact⟨_,.mk 15 0 s [],by omega,by omega,.nam _ _ (jiM s hs),rfl,_,rfl,jV (f := .mk 15 0 s []) rfl⟩
   ·refine qT 0 [] hn100 ?_;rintro o r ⟨b,hb,ho,rfl⟩;cases ho;conv=>whnf
    exact⟨_,.mk 12 b eB [],by omega,by omega,.int _ _ hb,rfl,_,rfl,jV (f := .mk 12 b eB []) rfl⟩
   ·refine qT 0 [] hn10 ?_;rintro o r ⟨b,hb,ho,rfl⟩;cases ho;conv=>whnf
    refine yI [] (mX b hb) ?_;rintro r ⟨s,hs,rfl⟩;conv=>whnf
    exact⟨_,.mk 14 0 s [],by omega,by omega,.var _ _ hs,rfl,_,rfl,jV (f := .mk 14 0 s []) rfl⟩
   ·refine qT 0 [0] hL9 ?_;rintro o r ⟨s,hs,ho,rfl⟩;cases ho;conv=>whnf
    exact⟨_,.mk 15 0 s [],by omega,by omega,.nam _ _ (jiM s hs),rfl,_,rfl,jV (f := .mk 15 0 s []) rfl⟩
   ·refine qT 0 [] hn100 ?_;rintro o r ⟨b,hb,ho,rfl⟩;cases ho;conv=>whnf
    exact⟨_,.mk 12 b eB [],by omega,by omega,.int _ _ hb,rfl,_,rfl,jV (f := .mk 12 b eB []) rfl⟩
  rw[j8 hz1];conv=>whnf
  obtain⟨e,rfl⟩ : ∃ e,d=e+1:=⟨d-1,by omega⟩
  have ihe:=ih e rfl
  have hbe:bG (e+1)=4+2*bG e:=rfl
  by_cases q0:k<2
  ·rw[qH (show (k:Int)<2 by omega)];conv=>whnf
   refine⟨by decide,?_⟩
   rcases (by omega:k=0 ∨ k=1) with rfl | rfl
   all_goals
    conv=>whnf
    first
    | (refine⟨by decide,?_⟩;(conv=>whnf))
    | skip
   ·refine qT 0 [] hn10 ?_;rintro o r ⟨b,hb,ho,rfl⟩;cases ho;conv=>whnf
    refine yI [] (mX b hb) ?_;rintro r ⟨s,hs,rfl⟩;conv=>whnf
    exact⟨_,.mk 14 0 s [],by omega,by omega,.var _ _ hs,rfl,_,rfl,jV (f := .mk 14 0 s []) rfl⟩
   ·refine qT 0 [0] hL9 ?_;rintro o r ⟨s,hs,ho,rfl⟩;cases ho;conv=>whnf
    exact⟨_,.mk 15 0 s [],by omega,by omega,.nam _ _ (jiM s hs),rfl,_,rfl,jV (f := .mk 15 0 s []) rfl⟩
  rw[j8 (show ¬ (k:Int)<2 by omega)];conv=>whnf
  by_cases q1:k=2
  ·rw[qH (show (k:Int)=2 by omega)];conv=>whnf
   refine⟨jS (by omega),?_⟩;conv=>whnf
   refine qT 0 [] ((ihe (i+1+1) 1 (z-1) (.inl rfl) (by omega) (by omega) (by omega) (by omega))) ?_;rintro o r ⟨i2,f,g1,g2,hf,ho,rfl⟩;cases ho;conv=>whnf
   exact⟨_,.mk 17 0 pMinus [f],by omega,by unfold bG;omega,.una _ _ _ (.inl rfl) hf,rfl,_,rfl,by rw[kU];exact qE _⟩
  rw[j8 (show ¬ (k:Int)=2 by omega)];conv=>whnf
  by_cases q2:k=3
  ·rw[qH (show (k:Int)=3 by omega)];conv=>whnf
   refine⟨jS (by omega),?_⟩;conv=>whnf
   refine qT 0 [] ((ihe (i+1+1) 1 (z-1) (.inl rfl) (by omega) (by omega) (by omega) (by omega))) ?_;rintro o r ⟨i2,f,g1,g2,hf,ho,rfl⟩;cases ho;conv=>whnf
   exact⟨_,.mk 16 0 eB [f],by omega,by unfold bG;omega,.drw _ _ hf,rfl,_,rfl,by rw[kU];exact qE _⟩
  rw[j8 (show ¬ (k:Int)=3 by omega)];conv=>whnf
  refine qT 0 [0] hL4 ?_;rintro o r ⟨s,hs,ho,rfl⟩;cases ho;conv=>whnf
  refine⟨jS (by omega),?_⟩;conv=>whnf
  refine qT 0 [] ((ihe (i+1+1+1) 1 (z-1) (.inl rfl) (by omega) (by omega) (by omega) (by omega))) ?_;rintro o r ⟨i2,f,g1,g2,hf,ho,rfl⟩;cases ho;conv=>whnf
  refine⟨jS (by omega),?_⟩;conv=>whnf
  refine qT 0 [] ((ihe i2 1 (z-1) (.inl rfl) (by omega) (by omega) (by omega) (by omega))) ?_;rintro o r ⟨i3,g,g3,g4,hg,ho,rfl⟩;cases ho;conv=>whnf
  exact⟨_,.mk 18 0 s [f,g],by omega,by unfold bG;omega,.bin _ _ _ _ (jr1 s hs) hf hg,rfl,_,rfl,by rw[wZ];exact qE _⟩
 ·by_cases hz1:z<1
  ·rw[qH hz1];conv=>whnf
   refine qT 0 [] hn2 ?_;rintro o r ⟨b,hb,ho,rfl⟩;cases ho;conv=>whnf
   exact⟨_,.mk 13 b eB [],by omega,by omega,.bol _ _ hb,rfl,_,rfl,jV (f := .mk 13 b eB []) rfl⟩
  rw[j8 hz1];conv=>whnf
  obtain⟨e,rfl⟩ : ∃ e,d=e+1:=⟨d-1,by omega⟩
  have ihe:=ih e rfl
  have hbe:bG (e+1)=4+2*bG e:=rfl
  by_cases q0:k=0
  ·rw[qH (show (k:Int)=0 by omega)];conv=>whnf
   refine qT 0 [] hn2 ?_;rintro o r ⟨b,hb,ho,rfl⟩;cases ho;conv=>whnf
   exact⟨_,.mk 13 b eB [],by omega,by omega,.bol _ _ hb,rfl,_,rfl,jV (f := .mk 13 b eB []) rfl⟩
  rw[j8 (show ¬ (k:Int)=0 by omega)];conv=>whnf
  by_cases q1:k=1
  ·rw[qH (show (k:Int)=1 by omega)];conv=>whnf
   refine⟨jS (by omega),?_⟩;conv=>whnf
   refine qT 0 [] ((ihe (i+1+1) 2 (z-1) (.inr rfl) (by omega) (by omega) (by omega) (by omega))) ?_;rintro o r ⟨i2,f,g1,g2,hf,ho,rfl⟩;cases ho;conv=>whnf
   exact⟨_,.mk 17 0 zH [f],by omega,by unfold bG;omega,.una _ _ _ (.inr rfl) hf,rfl,_,rfl,by rw[kU];exact qE _⟩
  rw[j8 (show ¬ (k:Int)=1 by omega)];conv=>whnf
  by_cases q2:k=2
  ·rw[qH (show (k:Int)=2 by omega)];conv=>whnf
   refine qT 0 [0] hL2 ?_;rintro o r ⟨s,hs,ho,rfl⟩;cases ho;conv=>whnf
   refine⟨jS (by omega),?_⟩;conv=>whnf
   refine qT 0 [] ((ihe (i+1+1+1) 2 (z-1) (.inr rfl) (by omega) (by omega) (by omega) (by omega))) ?_;rintro o r ⟨i2,f,g1,g2,hf,ho,rfl⟩;cases ho;conv=>whnf
   refine⟨jS (by omega),?_⟩;conv=>whnf
   refine qT 0 [] ((ihe i2 2 (z-1) (.inr rfl) (by omega) (by omega) (by omega) (by omega))) ?_;rintro o r ⟨i3,g,g3,g4,hg,ho,rfl⟩;cases ho;conv=>whnf
   exact⟨_,.mk 18 0 s [f,g],by omega,by unfold bG;omega,.bin _ _ _ _ (jr0 s hs) hf hg,rfl,_,rfl,by rw[wZ];exact qE _⟩
  rw[j8 (show ¬ (k:Int)=2 by omega)];conv=>whnf
  refine qT 0 [0] hL6 ?_;rintro o r ⟨s,hs,ho,rfl⟩;cases ho;conv=>whnf
  refine⟨jS (by omega),?_⟩;conv=>whnf
  refine qT 0 [] ((ihe (i+1+1+1) 1 (z-1) (.inl rfl) (by omega) (by omega) (by omega) (by omega))) ?_;rintro o r ⟨i2,f,g1,g2,hf,ho,rfl⟩;cases ho;conv=>whnf
  refine⟨jS (by omega),?_⟩;conv=>whnf
  refine qT 0 [] ((ihe i2 1 (z-1) (.inl rfl) (by omega) (by omega) (by omega) (by omega))) ?_;rintro o r ⟨i3,g,g3,g4,hg,ho,rfl⟩;cases ho;conv=>whnf
  exact⟨_,.mk 18 0 s [f,g],by omega,by unfold bG;omega,.bin _ _ _ _ (jr2 s hs) hf hg,rfl,_,rfl,by rw[wZ];exact qE _⟩
theorem jk9 (l:List Int) (hl:l.length<=1000000):∀ d,jot l d
 | 0=>jo2 l hl 0 fun e h=>by omega
 | d+1=>jo2 l hl (d+1) fun e h=>by
  obtain rfl:d=e:=by omega
  exact jk9 l hl d
def bT:Nat->Nat
 | 0=>100
 | d+1=>100+2*(1+3*bT d)
theorem jnT:∀ d,100<=bT d
 | 0=>Nat.le_refl _
 | d+1=>by unfold bT;omega
def jrB (d:Nat) (t:Nt):Prop := ∃ k,t=zD k/\k.length<=3 /\ ∀ s ∈ k,SG d s
def GnT (l:List Int) (d:Nat):Prop := ∀ (i:Nat) (z:Int),z.toNat=d->0<=z->z<=5->i+bT d<=1000000000->Spec Tryz.prog 28 [bxG l i] [.box 0 0,.v (.int .i64 z)] (jmi l i (bT d) (SG d))
def GnB (l:List Int) (d:Nat):Prop := ∀ (i:Nat) (z:Int),z.toNat=d->0<=z->z<=5->i+(1+3*bT d)<=1000000000->Spec Tryz.prog 12 [bxG l i] [.box 0 0,.v (.int .i64 z)] (jmi l i (1+3*bT d) (jrB d))
theorem joX (l:List Int) (hl:l.length<=1000000) (d:Nat) (ih:∀ e,d=e+1->GnB l e):GnT l d:=fun i z hz h1 h2 hi=>by
 have hge:=jnT d
 have X:=jk9 l hl
 have x3:bG 3=60:=rfl
 have x2:bG 2=28:=rfl
 have x1:bG 1=12:=rfl
 have hn0:=gI l i 13 hl (by omega) (by decide)
 have hn10:=gI l (i+1) 10 hl (by omega) (by decide)
 have hn30:=gI l (i+1) 30 hl (by omega) (by decide)
 have hn8:=gI l (i+1) 8 hl (by omega) (by decide)
 refine gwE ?_;refine eN jH (fun _=>[0]) 1 Tryz.func28 rfl ?_;intro hok;conv=>whnf
 refine qT 0 [] hn0 ?_;rintro o r ⟨k0,hk0,ho,rfl⟩;cases ho;conv=>whnf
 by_cases hA:k0<=2
 ·rcases (by omega:k0=0 ∨ k0=1 ∨ k0=2) with rfl | rfl | rfl
  all_goals
   by_cases hz1:z<1
   all_goals
    first
    | rw[qH hz1]
    | rw[j8 hz1]
    conv=>whnf
   all_goals
    refine qT 0 [] hn10 ?_;rintro o r ⟨b,hb,ho,rfl⟩;cases ho;conv=>whnf
    refine yI [] (mX b hb) ?_;rintro r ⟨s,hs,rfl⟩;conv=>whnf
    refine qT 0 [] ((X 3 (i+1+1) 1 3 (.inl rfl) rfl (by decide) (by decide) (by omega))) ?_;rintro o r ⟨i2,f,g1,g2,hf,ho,rfl⟩;cases ho;conv=>whnf
    exact⟨_,.mk 1 0 s [f],by omega,by omega,.asg _ _ _ hs hf,rfl,_,rfl,by rw[kU];exact qE _⟩
 by_cases hB:k0<=4
 ·rcases (by omega:k0=3 ∨ k0=4) with rfl | rfl
  all_goals
   by_cases hz1:z<1
   all_goals
    first
    | rw[qH hz1]
    | rw[j8 hz1]
    conv=>whnf
   all_goals
    refine qT 0 [] hn30 ?_;rintro o r ⟨b,hb,ho,rfl⟩;cases ho;conv=>whnf
    refine qT 0 [] ((X 2 (i+1+1) 1 2 (.inl rfl) rfl (by decide) (by decide) (by omega))) ?_;rintro o r ⟨i2,f,g1,g2,hf,ho,rfl⟩;cases ho;conv=>whnf
    refine qT 0 [] ((X 2 i2 1 2 (.inl rfl) rfl (by decide) (by decide) (by omega))) ?_;rintro o r ⟨i3,g,g3,g4,hg,ho,rfl⟩;cases ho;conv=>whnf
    refine qT 0 [] ((X 1 i3 1 1 (.inl rfl) rfl (by decide) (by decide) (by omega))) ?_;rintro o r ⟨i4,h,g5,g6,hh,ho,rfl⟩;cases ho;conv=>whnf
    exact⟨_,.mk 4 b eB [f,g,h],by omega,by omega,.snd _ _ _ _ _ hb (hf.up 3 (by decide)) (hg.up 3 (by decide)) (hh.up 3 (by decide)),rfl,_,rfl,by rw[fM];exact qE _⟩
 by_cases hC:k0<=6
 ·rcases (by omega:k0=5 ∨ k0=6) with rfl | rfl
  ·by_cases hz1:z<1
   all_goals
    first
    | rw[qH hz1]
    | rw[j8 hz1]
    conv=>whnf
   all_goals
    refine qT 0 [] ((X 2 (i+1) 1 2 (.inl rfl) rfl (by decide) (by decide) (by omega))) ?_;rintro o r ⟨i2,f,g1,g2,hf,ho,rfl⟩;cases ho;conv=>whnf
    refine qT 0 [] ((X 2 i2 1 2 (.inl rfl) rfl (by decide) (by decide) (by omega))) ?_;rintro o r ⟨i3,g,g3,g4,hg,ho,rfl⟩;cases ho;conv=>whnf
    exact⟨_,.mk 8 0 eB [f,g],by omega,by omega,.rep _ _ _ (hf.up 3 (by decide)) (hg.up 3 (by decide)),rfl,_,rfl,by rw[wZ];exact qE _⟩
  ·by_cases hz1:z<1
   all_goals
    first
    | rw[qH hz1]
    | rw[j8 hz1]
    conv=>whnf
   all_goals
    refine qT 0 [] ((X 2 (i+1) 1 2 (.inl rfl) rfl (by decide) (by decide) (by omega))) ?_;rintro o r ⟨i2,f,g1,g2,hf,ho,rfl⟩;cases ho;conv=>whnf
    exact⟨_,.mk 9 0 eB [f],by omega,by omega,.fai _ _ (hf.up 3 (by decide)),rfl,_,rfl,by rw[kU];exact qE _⟩
 by_cases hD:k0<=10
 ·rcases (by omega:k0=7 ∨ k0=8 ∨ k0=9 ∨ k0=10) with rfl | rfl | rfl | rfl
  ·by_cases hz1:z<1
   all_goals
    first
    | rw[qH hz1]
    | rw[j8 hz1]
    conv=>whnf
   all_goals
    refine qT 0 [] hn8 ?_;rintro o r ⟨b,hb,ho,rfl⟩;cases ho;conv=>whnf
    exact⟨_,.mk 5 b eB [],by omega,by omega,.tim _ _ hb,rfl,_,rfl,jV (f := .mk 5 b eB []) rfl⟩
  ·by_cases hz1:z<1
   all_goals
    first
    | rw[qH hz1]
    | rw[j8 hz1]
    conv=>whnf
   all_goals
    refine qT 0 [] hn8 ?_;rintro o r ⟨b,hb,ho,rfl⟩;cases ho;conv=>whnf
    exact⟨_,.mk 6 b eB [],by omega,by omega,.can _ _ hb,rfl,_,rfl,jV (f := .mk 6 b eB []) rfl⟩
  ·by_cases hz1:z<1
   all_goals
    first
    | rw[qH hz1]
    | rw[j8 hz1]
    conv=>whnf
   all_goals
    exact⟨_,.mk 7 0 eB [],by omega,by omega,.syn _,rfl,_,rfl,jV (f := .mk 7 0 eB []) rfl⟩
  ·by_cases hz1:z<1
   all_goals
    first
    | rw[qH hz1]
    | rw[j8 hz1]
    conv=>whnf
   all_goals
    exact⟨_,.mk 10 0 eB [],by omega,by omega,.stp _,rfl,_,rfl,jV (f := .mk 10 0 eB []) rfl⟩
 rcases (by omega:k0=11 ∨ k0=12) with rfl | rfl
 ·by_cases hz1:z<1
  all_goals
   first
   | rw[qH hz1]
   | rw[j8 hz1]
   conv=>whnf
  ·refine qT 0 [] hn10 ?_;rintro o r ⟨b,hb,ho,rfl⟩;cases ho;conv=>whnf
   refine yI [] (mX b hb) ?_;rintro r ⟨s,hs,rfl⟩;conv=>whnf
   refine qT 0 [] ((X 3 (i+1+1) 1 3 (.inl rfl) rfl (by decide) (by decide) (by omega))) ?_;rintro o r ⟨i2,f,g1,g2,hf,ho,rfl⟩;cases ho;conv=>whnf
   exact⟨_,.mk 1 0 s [f],by omega,by omega,.asg _ _ _ hs hf,rfl,_,rfl,by rw[kU];exact qE _⟩
  obtain⟨e,rfl⟩ : ∃ e,d=e+1:=⟨d-1,by omega⟩
  have ihe:=ih e rfl
  have hbe:bT (e+1)=100+2*(1+3*bT e):=rfl
  refine qT 0 [] ((X 2 (i+1) 2 2 (.inr rfl) rfl (by decide) (by decide) (by omega))) ?_;rintro o r ⟨i2,f,g1,g2,hf,ho,rfl⟩;cases ho;conv=>whnf
  refine⟨jS (by omega),?_⟩;conv=>whnf
  refine qT 0 [] ((ihe i2 (z-1) (by omega) (by omega) (by omega) (by omega))) ?_;rintro o r ⟨i3,_,g3,g4,⟨k,rfl,hk1,hk2⟩,ho,rfl⟩;cases ho;conv=>whnf
  refine⟨jS (by omega),?_⟩;conv=>whnf
  refine qT 0 [] ((ihe i3 (z-1) (by omega) (by omega) (by omega) (by omega))) ?_;rintro o r ⟨i4,_,g5,g6,⟨m,rfl,hm1,hm2⟩,ho,rfl⟩;cases ho;conv=>whnf
  exact⟨_,.mk 2 0 eB [f,zD k,zD m],by omega,by omega,.iff _ _ _ _ (hf.up 3 (by decide)) hk1 hk2 hm1 hm2,rfl,_,rfl,by rw[fM];exact qE _⟩
 ·by_cases hz1:z<1
  all_goals
   first
   | rw[qH hz1]
   | rw[j8 hz1]
   conv=>whnf
  ·refine qT 0 [] hn10 ?_;rintro o r ⟨b,hb,ho,rfl⟩;cases ho;conv=>whnf
   refine yI [] (mX b hb) ?_;rintro r ⟨s,hs,rfl⟩;conv=>whnf
   refine qT 0 [] ((X 3 (i+1+1) 1 3 (.inl rfl) rfl (by decide) (by decide) (by omega))) ?_;rintro o r ⟨i2,f,g1,g2,hf,ho,rfl⟩;cases ho;conv=>whnf
   exact⟨_,.mk 1 0 s [f],by omega,by omega,.asg _ _ _ hs hf,rfl,_,rfl,by rw[kU];exact qE _⟩
  obtain⟨e,rfl⟩ : ∃ e,d=e+1:=⟨d-1,by omega⟩
  have ihe:=ih e rfl
  have hbe:bT (e+1)=100+2*(1+3*bT e):=rfl
  refine qT 0 [] ((X 2 (i+1) 2 2 (.inr rfl) rfl (by decide) (by decide) (by omega))) ?_;rintro o r ⟨i2,f,g1,g2,hf,ho,rfl⟩;cases ho;conv=>whnf
  refine⟨jS (by omega),?_⟩;conv=>whnf
  refine qT 0 [] ((ihe i2 (z-1) (by omega) (by omega) (by omega) (by omega))) ?_;rintro o r ⟨i3,_,g3,g4,⟨k,rfl,hk1,hk2⟩,ho,rfl⟩;cases ho;conv=>whnf
  exact⟨_,.mk 3 0 eB [f,zD k],by omega,by omega,.whi _ _ _ (hf.up 3 (by decide)) hk1 hk2,rfl,_,rfl,by rw[wZ];exact qE _⟩
theorem jqF (l:List Int) (hl:l.length<=1000000) (d:Nat) (hT:GnT l d):GnB l d:=fun i z hz h1 h2 hi=>by
 have hge:=jnT d
 have hn:=gI l i 4 hl (by omega) (by decide)
 refine eN jr5 (fun _=>[0]) 1 Tryz.func12 rfl ?_;intro hok;conv=>whnf
 refine qT 0 [] hn ?_;rintro o r ⟨k,hk,ho,rfl⟩;cases ho;conv=>whnf
 refine wV 43 4 [] [(2,3)] ?_;conv=>whnf
 refine⟨trivial,?_⟩;conv=>whnf
 refine jT [0,1,4,5] ?_;conv=>whnf
 refine zF (fun x:List Nt × Nat × Nat=>[(6,.v (.int .i64 x.2.1))]) (fun x=>[bxG l x.2.2,ji8,[jJ 11,jJ 0,j0 ⟨#[]⟩,.own 0]]) (fun x=>[.live 43 4 x.1.length (qG x.1)]) (fun x=>x.1.length+x.2.1<=3/\(∀ s ∈ x.1,SG d s)/\i<=x.2.2/\x.2.2<=i+1+x.1.length*bT d) (fun x=>x.2.1) ([],k,i+1) ?_ ⟨by simp only[List.length_nil];omega,by simp,by simp only;omega,by simp only[List.length_nil];omega⟩ ?_
 ·repeat' constructor
  show Row.live _ _ _ _=Row.live _ 4 0 (qG [])
  rw[kC]
 rintro⟨acc,rem,j⟩ ⟨q1,q2,q3,q4⟩
 simp only at q1 q2 q3 q4
 have hm:acc.length*bT d<=3*bT d:=Nat.mul_le_mul_right _ (by omega)
 conv=>whnf
 by_cases h0:0<rem
 ·rw[qH (show 0<(rem:Int) by omega)]
  have hm2:(acc.length+1)*bT d<=3*bT d:=Nat.mul_le_mul_right _ (by omega)
  rw[Nat.succ_mul] at hm2;conv=>whnf
  refine qT 0 [] ((hT j z hz h1 h2 (by omega))) ?_;rintro o r ⟨j2,f,g1,g2,hf,ho,rfl⟩;cases ho;conv=>whnf
  refine⟨⟨by simp only;unfold maxLen;omega,by simp only;omega⟩,?_⟩;conv=>whnf
  refine⟨jS (by simp only;omega),?_⟩;rw[show (rem:Int)-1=((rem-1:Nat):Int) by omega];conv=>whnf
  refine⟨(acc++[f],rem-1,j2),jU [0] ?_,⟨by simp only[List.length_append,List.length_cons,List.length_nil];omega,fun s hs => ?_,by simp only;omega,by simp only[List.length_append,List.length_cons,List.length_nil];rw[Nat.succ_mul];omega⟩,by simp only;omega⟩
  ·conv=>whnf
   simp only[List.length_append,List.length_cons,List.length_nil];rw[pM]
   repeat' constructor
  ·rcases List.mem_append.1 hs with hs | hs
   ·exact q2 s hs
   ·rw[List.mem_singleton.1 hs];exact hf
 ·rw[j8 (show ¬ 0<(rem:Int) by omega)];conv=>whnf
  exact⟨j,zD acc,by omega,by omega,⟨acc,rfl,by omega,q2⟩,rfl,rfl⟩
theorem jo1 (l:List Int) (hl:l.length<=1000000):∀ d,GnT l d/\GnB l d
 | 0=>⟨joX l hl 0 fun e h=>by omega,jqF l hl 0 (joX l hl 0 fun e h=>by omega)⟩
 | d+1=>by
  have h1:GnT l (d+1):=joX l hl (d+1) fun e h=>by
   obtain rfl:d=e:=by omega
   exact (jo1 l hl d).2
  exact⟨h1,jqF l hl (d+1) h1⟩
def nP (p:Nat->Bool) (k:Nat):List ByteArray:=((List.range k).filter p).map fun i=>vnL.getD i ⟨#[]⟩
theorem jmZ {p:Nat->Bool} {k:Nat} (h:p k=true):nP p (k+1)=nP p k++[vnL.getD k ⟨#[]⟩]:=by simp[nP,List.range_succ,List.filter_append,h]
theorem jdg {p:Nat->Bool} {k:Nat} (h:p k=false):nP p (k+1)=nP p k:=by simp[nP,List.range_succ,List.filter_append,h]
theorem jdf (p:Nat->Bool) (k:Nat):(nP p k).length<=k:=by
 unfold nP;rw[List.length_map];exact Nat.le_trans (List.length_filter_le _ _) (by simp)
theorem jgM {e:Nat} {p:Nat->Bool} {k:Nat} (h:p k=true):Row.live e 1 ((nP p k).length+1) (x8 (nP p k)++[j0 (vnL.getD k ⟨#[]⟩)])=Row.live e 1 (nP p (k+1)).length (x8 (nP p (k+1))):=by
 rw[jmZ h];simp[x8]
theorem jmb:∀ a<10,∀ b<10,a ≠ b->vnL.getD a ⟨#[]⟩ ≠ vnL.getD b ⟨#[]⟩ := by decide
theorem jgv {p:Nat->Bool} {x:ByteArray} (h:x ∈ nP p 10):∃ i,i<10/\p i=true/\x=vnL.getD i ⟨#[]⟩ := by
 obtain⟨i,h1,rfl⟩ := List.mem_map.1 h
 rw[List.mem_filter,List.mem_range] at h1;exact⟨i,h1.1,h1.2,rfl⟩
theorem jhO {p:Nat->Bool} : ∀ x ∈ nP p 10,x ∈ vnL:=fun x h=>by
 obtain⟨i,h1,h2,rfl⟩ := jgv h
 rw[sK i h1];exact jeJ i h1
theorem jkU (p:Nat->Bool):(nP p 10).Nodup:=by
 unfold nP;refine List.pairwise_map.2 ?_
 have h:((List.range 10).filter p).Pairwise (· < ·):=List.Pairwise.filter _ List.pairwise_lt_range
 refine h.imp_of_mem fun {a b} ha hb hab => ?_
 rw[List.mem_filter,List.mem_range] at ha hb;exact jmb a ha.1 b hb.1 (by omega)
def pD (skip split:Nat) (j:Nat):Bool:=decide (j ≠ skip/\j<split)
def pV (skip split:Nat) (j:Nat):Bool:=decide (j ≠ skip /\ ¬ j<split)
theorem jeV {p q:Nat->Bool} (h:∀ j<10,p j=q j):nP p 10=nP q 10:=by
 unfold nP;rw[List.filter_congr fun x hx=>h x (List.mem_range.1 hx)]
theorem jmY:∀ a<11,∀ b<11,1<=(nP (pD a b) 10).length+(nP (pV a b) 10).length/\(nP (pD a b) 10).length+(nP (pV a b) 10).length<=10:=by
 have h:∀ a<11,∀ b<11,1<=((List.range 10).filter (pD a b)).length+((List.range 10).filter (pV a b)).length/\((List.range 10).filter (pD a b)).length+((List.range 10).filter (pV a b)).length<=10:=by decide +kernel
 intro a ha b hb;unfold nP;rw[List.length_map,List.length_map];exact h a ha b hb
theorem jqH (skip split:Nat) (hs:split<11) {on:List (Int × Nt)} (h1:∀ h ∈ on,0<=h.1/\h.1<40/\KG h.2) (h2:on.Pairwise fun a b=>a.1<b.1) (h3:on.length<=4):GV ⟨nP (pD skip split) 10,nP (pV skip split) 10,on⟩ where
 du:=jhO
 vo:=jhO
 nd:=by
  show (nP (pD skip split) 10++nP (pV skip split) 10).Nodup
  refine List.nodup_append.2 ⟨jkU _,jkU _,fun x hx y hy => ?_⟩
  obtain⟨i,a1,a2,rfl⟩ := jgv hx
  obtain⟨j,b1,b2,rfl⟩ := jgv hy
  refine jmb i a1 j b1 fun e => ?_
  subst e;exact (of_decide_eq_true b2).2 (of_decide_eq_true a2).2
 ln:=by
  have e1:nP (pD skip split) 10=nP (pD (min skip 10) split) 10:=jeV fun j hj=>by unfold pD;congr 1;exact propext ⟨fun h=>⟨by omega,h.2⟩,fun h=>⟨by omega,h.2⟩⟩
  have e2:nP (pV skip split) 10=nP (pV (min skip 10) split) 10:=jeV fun j hj=>by unfold pV;congr 1;exact propext ⟨fun h=>⟨by omega,h.2⟩,fun h=>⟨by omega,h.2⟩⟩
  show 1<=(nP (pD skip split) 10).length+(nP (pV skip split) 10).length/\(nP (pD skip split) 10).length+(nP (pV skip split) 10).length<=10
  rw[e1,e2];exact jmY _ (by omega) _ hs
 on:=h1
 inc:=h2
 ol:=h3
def nmH (a b:Nat):Nat->Int
 | 0=>0
 | 1=>1
 | 2=>2+a
 | 3=>10+b
 | _=>40
theorem jmN {a b:Nat} (ha:a<8) (hb:b<30):∀ h<4,0<=nmH a b h/\nmH a b h<nmH a b (h+1)/\nmH a b h<40:=fun h hh=>by
 rcases (by omega:h=0 ∨ h=1 ∨ h=2 ∨ h=3) with rfl | rfl | rfl | rfl <;> simp only[nmH] <;> omega
theorem jqG (l:List Int):Spec Tryz.prog 4 [] [.sl 1 l.length (bF l)] fun _ r => ∃ u,GV u/\r = .agg (utA u):=by
 have hin:=jrl l 120 (by decide)
 have hll:(l.take 120).length<=1000000:=by rw[List.length_take];omega
 generalize l.take 120=L at *
 have hb:=(jo1 L hll 2).2
 have hbT:bT 2=4314:=rfl
 have hn0:=gI L 0 40 hll (by omega) (by decide)
 have hn1:=gI L (0+1) 11 hll (by omega) (by decide)
 have hn2:=gI L (0+1+1) 8 hll (by omega) (by decide)
 have hn3:=gI L (0+1+1+1) 30 hll (by omega) (by decide)
 refine eN jrO (fun _=>[1]) 0 Tryz.func4 rfl ?_;intro hok;conv=>whnf
 refine yI [] hin ?_;rintro r rfl;conv=>whnf
 refine qT 1 [] hn0 ?_;rintro o r ⟨skip,hskip,ho,rfl⟩;cases ho;conv=>whnf
 refine qT 1 [] hn1 ?_;rintro o r ⟨split,hsplit,ho,rfl⟩;cases ho;conv=>whnf
 refine wV 9 1 [] [(2,0)] ?_;conv=>whnf
 refine⟨trivial,?_⟩;conv=>whnf
 refine wV 9 1 [] [(2,1)] ?_;conv=>whnf
 refine⟨trivial,?_⟩;conv=>whnf
 refine jT [2,3,4,5,6] ?_;conv=>whnf
 obtain⟨p,hp⟩ : ∃ p,p=pD skip split:=⟨_,rfl⟩
 obtain⟨q,hq⟩ : ∃ q,q=pV skip split:=⟨_,rfl⟩
 refine zF (fun k:Nat=>[(7,.v (.int .i64 k))]) (fun _=>[e7,bxG L (0+1+1),[.own 0,.own 1,.v (.slice none 0 0)]]) (fun k=>[.live 9 1 (nP p k).length (x8 (nP p k)),.live 9 1 (nP q k).length (x8 (nP q k))]) (fun k=>k<=10) (fun k=>10-k) 0 ?_ (Nat.zero_le _) ?_
 ·repeat' constructor
 intro k hk;conv=>whnf
 have hpl:=jdf p k
 have hql:=jdf q k
 by_cases hlt:k<10
 ·rw[qH (show (k:Int)<10 by omega)];conv=>whnf
  by_cases hsk:k=skip
  ·rw[qH (show (k:Int)=skip by omega)];conv=>whnf
   refine⟨jS (by omega),?_⟩;conv=>whnf
   refine⟨k+1,jU [0,1] ?_,hlt,by omega⟩;conv=>whnf
   rw[<- jdg (show p k=false by rw[hp];exact j8 fun h=>h.1 hsk),<- jdg (show q k=false by rw[hq];exact j8 fun h=>h.1 hsk)]
   repeat' constructor
  rw[j8 (show ¬ (k:Int)=skip by omega)];conv=>whnf
  have hsn:=jg5 k hlt
  have hm1:(nP p k).length+1<=1000:=by omega
  have hm2:(nP q k).length+1<=1000:=by omega
  by_cases hsp:k<split
  ·have y1:p k=true:=by rw[hp];exact qH ⟨hsk,hsp⟩
   have y2:q k=false:=by rw[hq];exact j8 fun h=>h.2 hsp
   rw[qH (show (k:Int)<split by omega)];conv=>whnf
   (refine yI [] hsn ?_;rintro r rfl;conv=>whnf)
   refine⟨⟨by unfold maxLen;omega,by omega⟩,?_⟩;conv=>whnf
   refine⟨jS (by omega),?_⟩;conv=>whnf
   refine⟨k+1,jU [0,1] ?_,hlt,by omega⟩;conv=>whnf
   rw[<- jdg y2,<- jgM y1]
   repeat' constructor
  ·have y1:p k=false:=by rw[hp];exact j8 fun h=>hsp h.2
   have y2:q k=true:=by rw[hq];exact qH ⟨hsk,hsp⟩
   rw[j8 (show ¬ (k:Int)<split by omega)];conv=>whnf
   (refine yI [] hsn ?_;rintro r rfl;conv=>whnf)
   refine⟨⟨by unfold maxLen;omega,by omega⟩,?_⟩;conv=>whnf
   refine⟨jS (by omega),?_⟩;conv=>whnf
   refine⟨k+1,jU [0,1] ?_,hlt,by omega⟩;conv=>whnf
   rw[<- jdg y1,<- jgM y2]
   repeat' constructor
 rw[j8 (show ¬ (k:Int)<10 by omega)]
 obtain rfl:k=10:=by omega
 conv=>whnf
 refine qT 1 [] hn2 ?_;rintro o r ⟨n2,hn2',ho,rfl⟩;cases ho;conv=>whnf
 refine⟨jS (by omega),?_⟩;conv=>whnf
 refine qT 1 [] hn3 ?_;rintro o r ⟨n3,hn3',ho,rfl⟩;cases ho;conv=>whnf
 refine⟨jS (by omega),?_⟩;conv=>whnf
 refine jeD [2] ?_;conv=>whnf
 refine wV 46 5 [] [(2,2)] ?_;conv=>whnf
 refine⟨trivial,?_⟩;conv=>whnf
 refine jT [2,3,4,8] ?_;conv=>whnf
 obtain⟨dl,hdl⟩ : ∃ x,x=nP p 10:=⟨_,rfl⟩
 obtain⟨vl,hvl⟩ : ∃ x,x=nP q 10:=⟨_,rfl⟩
 rw[<- hdl,<- hvl]
 have hnm:=jmN hn2' hn3'
 refine zF (fun x:Nat × Nat × List (Int × Nt)=>[(9,.v (.int .i64 x.1))]) (fun x=>[e7,bxG L x.2.1,[.own 0,.own 1,.own 3]]) (fun x=>[.live 9 1 dl.length (x8 dl),.live 9 1 vl.length (x8 vl),.gone,.live 46 5 x.2.2.length (nZ x.2.2)]) (fun x=>x.1<=4/\x.2.1<=4+12944*x.1/\x.2.2.length<=x.1/\(∀ h ∈ x.2.2,0<=h.1/\h.1<40/\KG h.2)/\(∀ h ∈ x.2.2,h.1<nmH n2 n3 x.1)/\x.2.2.Pairwise fun a b=>a.1<b.1) (fun x=>4-x.1) (0,0+1+1+1+1,[]) ?_ ⟨by decide,by simp only;omega,Nat.le_refl _,by simp,by simp,.nil⟩ ?_
 ·repeat' constructor
  show Row.live _ _ _ _=Row.live _ 5 0 (nZ [])
  rw[m6]
 rintro⟨h,i,on⟩ ⟨q1,q2,q3,q4,q5,q6⟩
 simp only at q1 q2 q3 q4 q5 q6
 have hn5:=gI L i 3 hll (by omega) (by decide)
 conv=>whnf
 by_cases hlt:h<4
 ·rw[qH (show (h:Int)<4 by omega)];conv=>whnf
  refine qT 1 [] hn5 ?_;rintro o r ⟨k5,hk5,ho,rfl⟩;cases ho;conv=>whnf
  by_cases h52:k5<2
  ·rw[qH (show (k5:Int)<2 by omega)];conv=>whnf
   refine⟨⟨by simp only;omega,by simp only;omega⟩,?_⟩
   have hbk:=hb (i+1) 2 rfl (by decide) (by decide) (by omega)
   have hh:=hnm h hlt
   have hrow:jM 1 h [.v (.int .i64 0),.v (.int .i64 1),.v (.int .i64 (2+n2)),.v (.int .i64 (10+n3))]=[.v (.int .i64 (nmH n2 n3 h))]:=by
    rcases (by omega:h=0 ∨ h=1 ∨ h=2 ∨ h=3) with rfl | rfl | rfl | rfl <;> simp[jM,nmH]
   conv=>whnf
   generalize hrq:jM _ (Int.toNat _) [A.v (.int .i64 0),_,_,_]=rq
   obtain rfl:rq=[.v (.int .i64 (nmH n2 n3 h))]:=hrq.symm.trans hrow
   clear hrq;generalize nmH n2 n3 h=nh at *;conv=>whnf
   refine qT 1 [] hbk ?_;rintro o r ⟨i2,t,g1,g2,hkg,ho,rfl⟩;cases ho;conv=>whnf
   refine⟨⟨by simp only;unfold maxLen;omega,by simp only;omega⟩,?_⟩;conv=>whnf
   refine⟨jS (by simp only;omega),?_⟩;conv=>whnf
   refine⟨(h+1,i2,on++[(nh,t)]),jU [0,1,2,3] ?_,?_,by simp only;omega⟩
   ·conv=>whnf
    repeat' constructor
    rw[List.length_append,pB];rfl
   refine⟨by simp only;omega,by simp only;omega,by simp only[List.length_append,List.length_cons,List.length_nil];omega,fun x hx => ?_,fun x hx => ?_,?_⟩
   ·rcases List.mem_append.1 hx with hx | hx
    ·exact q4 x hx
    ·rw[List.mem_singleton.1 hx];exact⟨hh.1,hh.2.2,hkg⟩
   ·rcases List.mem_append.1 hx with hx | hx
    ·exact Int.lt_trans (q5 x hx) hh.2.1
    ·rw[List.mem_singleton.1 hx];exact hh.2.1
   ·refine List.pairwise_append.2 ⟨q6,List.pairwise_singleton _ _,fun x hx y hy => ?_⟩;rw[List.mem_singleton.1 hy];exact q5 x hx
  ·rw[j8 (show ¬ (k5:Int)<2 by omega)];conv=>whnf
   refine⟨jS (by simp only;omega),?_⟩;conv=>whnf
   refine⟨(h+1,i+1,on),jU [0,1,2,3] ?_,⟨hlt,by simp only;omega,by simp only;omega,q4,fun x hx=>Int.lt_trans (q5 x hx) (hnm h hlt).2.1,q6⟩,by simp only;omega⟩;conv=>whnf
   repeat' constructor
 ·rw[j8 (show ¬ (h:Int)<4 by omega)]
  obtain rfl:h=4:=by omega
  conv=>whnf
  refine⟨⟨dl,vl,on⟩,?_,rfl⟩;rw[hdl,hvl,hp,hq];exact jqH skip split hsplit q4 q6 (by omega)
end Go.Proofs.YtgifglkkmhapiaaGreatDoor.Vm
