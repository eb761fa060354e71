/- Texts 4 of the proof: P4, T4, T5, P5, P6, P7, P8, P9, Pb, P10, P11, P12, P13, P14, P16, P17, P15, P18, P19, P20, VmK, VmA, P21, VmH, P22, P23, P24, Td, P25, VmD, P26, L0, L1, L2, Q1, Q2, Q3, Q4, Q5, Q6, Q7, Q8, Q9, VmB, Q10, Q11, Q12, Q13, E1, E4, E2, E5, Ta, G0, G1. -/
import Derived.Test.YtfbifdccmabdbaaGreatDoorK3
import Derived.Shelf.Lay
import Derived.Shelf.SlIterI.Nil
import Derived.Shelf.SortM.Plain
import Derived.Shelf.SortM.SortNone
import Derived.Recover
namespace Go.Proofs.YtfbifdccmabdbaaGreatDoor.Vm
open Go.RowKit Go.Shelf
set_option linter.unusedSimpArgs false
set_option linter.unusedVariables false
set_option maxRecDepth 100000
theorem jve {a b : ByteArray} (h : a.data.toList = b.data.toList) : a = b := ByteArray.ext (Array.toList_inj.1 h)
def jxZ : List (List UInt8) := keyL.map (·.data.toList) ++ [] :: builtL.map (·.data.toList)
theorem jiO (l : List ByteArray) (t : ByteArray) : (l.any fun s => decide (t = s)) = decide (t.data.toList ∈ l.map (·.data.toList)) := by
 induction l with
 | nil => simp
 | cons s l ih =>
  rw [List.any_cons, ih, List.map_cons]
  by_cases h : t = s
  ·subst h;rw [decide_eq_true rfl, decide_eq_true List.mem_cons_self]; rfl
  ·rw [decide_eq_false h, Bool.false_or]
   congr 1
   rw [List.mem_cons, eq_iff_iff]
   constructor
   ·exact .inr
   ·rintro (e | e)
    ·exact absurd (jve e) h
    ·exact e
def wOk (t : Tk) : Prop := t.kind = 1 -> t.text.data.toList ≠ [] /\ ∀ c ∈ t.text.data.toList, c ≠ 32
theorem jxl : ∀ w ∈ jxZ, ∀ c ∈ w, c ≠ 32 := by decide +kernel
theorem jwk : ∀ w ∈ builtL.map (·.data.toList), ∀ c ∈ w, c ≠ 32 := by decide +kernel
theorem jhQ (t : ByteArray) : ((⟨#[32]⟩ : ByteArray) ++ t ++ ⟨#[32]⟩).data.toList = 32 :: (t.data.toList ++ [32]) := by simp
theorem jvm (t : ByteArray) (h : t.data.toList ≠ []) : decide (t.data.toList ∈ jxZ) = (keyL ++ builtL).any fun s => decide (t = s) := by
 rw [List.any_append, jiO, jiO, <- Bool.decide_or];unfold jxZ
 congr 1
 rw [List.mem_append, List.mem_cons, eq_iff_iff]
 constructor
 ·rintro (e | e | e)
  ·exact .inl e
  ·exact absurd e h
  ·exact .inr e
 ·rintro (e | e)
  ·exact .inl e
  ·exact .inr (.inr e)
theorem jqW (ts : List Tk) (h : 0 < ts.length) (hw : wOk (hd ts)) (hz : (hd ts).text.size <= 1000000000) : SpecV Tryz.prog 159 (bxN ts) [.box 0 0] (fun c r => c = bxN ts /\ r = jcm (jg8 ts)) fun _ => False := fun y hy => by
 have hr := jde h
 unfold jg8;refine jah (jao jb4 xs0 1 (fun ch _ => (fun _ => False) ch)) (fun _ _ h => h) Tryz.func159 rfl (by kernel_rfl) rfl (by kernel_rfl) ?_;intro _;unfold wOk at hw;generalize hd ts = t at *;conv => whnf
 (refine goA ?_; try with_reducible exact trivial)
 (generalize hrq : ja2 _ _ (je6 ts) = rq; obtain rfl : rq = tkL t := hrq.symm.trans (hr); clear hrq; conv => whnf)
 by_cases h1 : t.kind = 1
 ·obtain ⟨w1, w2⟩ := hw h1
  have hc : ∀ K : ByteArray, K.size <= 1000000000 -> K.data.toList = spW jxZ -> Spec Tryz.prog 171 [] [jbn K, jbn ((⟨#[32]⟩ : ByteArray) ++ t.text ++ ⟨#[32]⟩)] fun _ r => r = jcm ((keyL ++ builtL).any fun s => decide (t.text = s)) := fun K hK hK2 => by
   have := jiw K ((⟨#[32]⟩ : ByteArray) ++ t.text ++ ⟨#[32]⟩) hK
   rw [jhQ, hK2, jfu _ w2 _ jxl, jvm _ w1] at this;exact this
  have hs1 : (⟨#[32]⟩ : ByteArray).size = 1 := rfl
  rw [decide_eq_true h1];conv => whnf
  refine ⟨by rw [hs1]; unfold maxLen; omega, ?_⟩;conv => whnf
  refine ⟨by rw [ByteArray.size_append, hs1]; unfold maxLen; omega, ?_⟩;conv => whnf
  (refine jaw [] rfl (fun _ => hc _ (by decide +kernel) (by decide +kernel)) ?_; rintro r rfl; conv => whnf)
  exact ⟨_, rfl, rfl, rfl⟩
 ·rw [decide_eq_false h1];conv => whnf
  exact ⟨_, rfl, rfl, rfl⟩
theorem jdV (nm : List ByteArray) (ts : List Tk) (h : 0 < ts.length) (hw : wOk (hd ts)) (hz : (hd ts).text.size <= 1000000000) : Spec Tryz.prog 159 [bxQ nm ts] [.box 0 0] fun o r => o = [bxQ nm ts] /\ r = jcm (jg8 ts) :=
 (((jqW ts h hw hz).q 1 nm.length (txA nm)).mono (fun _ _ ⟨_, k1, k2, k3⟩ => ⟨by rw [k1, k2]; rfl, k3⟩) fun _ k => k).toS
theorem jo1 (ts : List Tk) (h : 0 < ts.length) (s : ByteArray) : SpecV Tryz.prog 134 (bxN ts) [.box 0 0, jbn s] (fun c r => isP s ts = true /\ c = bxN ts.tail /\ r = .tup []) fun ch => isP s ts = false /\ ch = jaC (hd ts).pos 10 := fun y hy => by
 refine jah (jao jb4 xs0 1 (fun ch _ => (fun ch => isP s ts = false /\ ch = jaC (hd ts).pos 10) ch)) (fun _ _ h => h) Tryz.func134 rfl (by kernel_rfl) rfl (by kernel_rfl) ?_;intro _;conv => whnf
 refine ja3 0 [] rfl rfl rfl rfl (fun _ => jxX ts h s y hy) (fun ch bx' hp => hp.elim) ?_;rintro o r ⟨c, ho, rfl, rfl⟩;cases ho;conv => whnf
 cases hq : isP s ts with
 | true =>
  conv => whnf
  refine ja3 0 [] rfl rfl rfl rfl (fun _ => jip ts h y hy) (fun ch bx' hp => hp.elim) ?_;rintro o r ⟨c, ho, rfl, rfl⟩;cases ho;conv => whnf
  exact ⟨_, rfl, rfl, rfl, rfl⟩
 | false =>
  conv => whnf
  refine ja3 0 [] rfl rfl rfl rfl (fun _ => jg5 ts h 10 y hy) (fun ch bx' hp => ⟨rfl, hp⟩) ?_;rintro o r ⟨_, _, ⟨⟩⟩
theorem jae (nm : List ByteArray) (ts : List Tk) (h : 0 < ts.length) (s : ByteArray) : SpecP Tryz.prog 134 [bxQ nm ts] [.box 0 0, jbn s] (fun o r => isP s ts = true /\ o = [bxQ nm ts.tail] /\ r = .tup []) fun ch => isP s ts = false /\ ch = jaC (hd ts).pos 10 :=
 ((jo1 ts h s).q 1 nm.length (txA nm)).mono (fun _ _ ⟨_, k1, k2, k3, k4⟩ => ⟨k2, by rw [k1, k3]; rfl, k4⟩) fun _ k => k
theorem jdW (nm : List ByteArray) (ts : List Tk) (h : 0 < ts.length) (s : ByteArray) (lv : Int) : SpecP Tryz.prog 162 [bxQ nm ts] [.box 0 0, jbn s, intA lv] (fun o r => (isP s ts = true /\ lv <= 20) /\ o = [bxQ nm ts.tail] /\ r = .tup [])
  fun ch => (isP s ts = true /\ 20 < lv /\ ch = jaC (hd ts).pos 2) ∨ (isP s ts = false /\ ch = jaC (hd ts).pos 10) := by
 refine jah (jao jb4 xs0 1 (fun ch _ => (fun ch => (isP s ts = true /\ 20 < lv /\ ch = jaC (hd ts).pos 2) ∨ (isP s ts = false /\ ch = jaC (hd ts).pos 10)) ch)) (fun _ _ h => h) Tryz.func162 rfl (by kernel_rfl) rfl (by kernel_rfl) ?_;intro _;conv => whnf
 refine ja6 0 [] rfl rfl rfl rfl (fun _ => jct nm ts h s) ?_;rintro o r ⟨ho, rfl⟩;cases ho;conv => whnf
 cases hq : isP s ts with
 | true =>
  conv => whnf
  by_cases h1 : 20 < lv
  ·rw [decide_eq_true h1];conv => whnf
   refine ja3 0 [] rfl rfl rfl rfl (fun _ => jc1 nm ts h 2) (fun ch bx' hp => .inl ⟨rfl, h1, hp⟩) ?_;rintro o r ⟨⟩
  ·rw [decide_eq_false h1];conv => whnf
   refine ja3 0 [] rfl rfl rfl rfl (fun _ => jae nm ts h s) (fun ch bx' hp => .inr (by rw [hq] at hp; exact hp)) ?_;rintro o r ⟨_, ho, rfl⟩;cases ho;conv => whnf
   exact ⟨⟨rfl, by omega⟩, rfl, rfl⟩
 | false =>
  conv => whnf
  refine ja3 0 [] rfl rfl rfl rfl (fun _ => jae nm ts h s) (fun ch bx' hp => .inr (by rw [hq] at hp; exact hp)) ?_;rintro o r ⟨hx, ho, rfl⟩;rw [hq] at hx; cases hx
section
set_option maxRecDepth 100000
end
structure Pr where
 un : List Tk -> Ps
 ch : List Tk -> Ps
 fo : List Tk -> Ps
def jzD : ByteArray := ⟨#[33]⟩
def jyM : ByteArray := ⟨#[110, 101, 120, 116]⟩
def jzB : ByteArray := ⟨#[97, 108, 119, 97, 121, 115]⟩
def kEv : ByteArray := ⟨#[101, 118, 101, 110, 116, 117, 97, 108, 108, 121]⟩
def jwO : ByteArray := ⟨#[116, 114, 117, 101]⟩
def jwN : ByteArray := ⟨#[102, 97, 108, 115, 101]⟩
def kLp : ByteArray := ⟨#[40]⟩
def kRp : ByteArray := ⟨#[41]⟩
def jwP : ByteArray := ⟨#[117, 110, 116, 105, 108]⟩
def kOr : ByteArray := ⟨#[124, 124]⟩
def jzC : ByteArray := ⟨#[38, 38]⟩
def jxy (s : ByteArray) : Option Int := if s = jzD then some 2 else if s = jyM then some 5 else if s = jzB then some 7 else if s = kEv then some 8 else none
def jwt (b : Bool) : Fm := .mk (if b = true then 3 else 4) 0 0 0 []
def unG (low : Option Pr) (ts : List Tk) : Ps :=
 match jxy (hd ts).text with
 | some k => match low with
  | none => .bad (hd ts).pos 2
  | some p => match p.un ts.tail with
   | .ok f r => .ok (.mk k 0 0 0 [f]) r
   | .bad x e => .bad x e
 | none => if (isT jwO ts || isT jwN ts) = true then .ok (jwt (decide ((hd ts).text = jwO))) ts.tail else
  if isT kLp ts = true then match low with
   | none => .bad (hd ts).pos 2
   | some p => match p.fo ts.tail with
    | .ok f r => if isT kRp r = true then .ok f r.tail else .bad (hd r).pos 10
    | .bad x e => .bad x e
  else jzx ts
def chG (un : List Tk -> Ps) (low : Option Pr) (ts : List Tk) : Ps :=
 match un ts with
 | .bad x e => .bad x e
 | .ok f r => if isT jwP r = true then match low with
   | none => .bad (hd r).pos 2
   | some p => match p.ch r.tail with
    | .ok g r' => .ok (.mk 6 0 0 0 [f, g]) r'
    | .bad x e => .bad x e
  else .ok f r
inductive Lr where
 | ok (l : List Fm) (r : List Tk)
 | bad (p e : Int)
def jzk (op : List Tk -> Ps) (sign : ByteArray) : Nat -> List Fm -> List Tk -> Lr
 | 0, acc, ts => .ok acc ts
 | n + 1, acc, ts => if isT sign ts = true then match op ts.tail with
   | .ok f r => jzk op sign n (acc ++ [f]) r
   | .bad x e => .bad x e
  else .ok acc ts
def jzz (kind : Int) : Lr -> Ps
 | .bad x e => .bad x e
 | .ok [f] r => .ok f r
 | .ok l r => .ok (.mk kind 0 0 0 l) r
def liF (op : List Tk -> Ps) (kind : Int) (sign : ByteArray) (ts : List Tk) : Ps :=
 match op ts with
 | .bad x e => .bad x e
 | .ok f r => jzz kind (jzk op sign r.length [f] r)
def foG (ch : List Tk -> Ps) : List Tk -> Ps := liF (liF ch 3 jzC) 4 kOr
def prG (low : Option Pr) : Pr := ⟨unG low, chG (unG low) low, foG (chG (unG low) low)⟩
def pr : Nat -> Pr
 | 0 => prG none
 | d + 1 => prG (some (pr d))
def TkB (ts : List Tk) : Prop := TkW ts /\ ts.length <= 1000000
theorem TkB.tail {ts : List Tk} (h : TkB ts) (hk : (hd ts).kind ≠ 0) : TkB ts.tail /\ ts.tail.length + 1 = ts.length := by
 have h1 := h.1.pos
 refine ⟨⟨h.1.tail hk, ?_⟩, ?_⟩
 ·have := h.2; simp; omega
 ·simp; omega
theorem TkB.is {s : ByteArray} {ts : List Tk} (h : TkB ts) (k : isT s ts = true) : TkB ts.tail /\ ts.tail.length + 1 = ts.length := h.tail (jny k)
theorem jf4 (nm : List ByteArray) (ts : List Tk) (h : 0 < ts.length) (lim : Int) : SpecP Tryz.prog 161 [bxQ nm ts] [.box 0 0, intA lim] (fun o r => ((hd ts).kind = 2 /\ (hd ts).n < lim) /\ o = [bxQ nm ts.tail] /\ r = intA (hd ts).n)
  fun ch => ((hd ts).kind ≠ 2 /\ ch = jaC (hd ts).pos 10) ∨ ((hd ts).kind = 2 /\ lim <= (hd ts).n /\ ch = jaC (hd ts).pos 6) := by
 have hr := jde h
 have hf := fun e => jc1 nm ts h e
 have hn := jb9 nm ts h
 refine jah (jao jb4 xs0 1 (fun ch _ => (fun ch => ((hd ts).kind ≠ 2 /\ ch = jaC (hd ts).pos 10) ∨ ((hd ts).kind = 2 /\ lim <= (hd ts).n /\ ch = jaC (hd ts).pos 6)) ch)) (fun _ _ h => h) Tryz.func161 rfl (by kernel_rfl) rfl (by kernel_rfl) ?_;intro _;generalize hd ts = t at *;conv => whnf
 (refine goA ?_; try with_reducible exact trivial)
 (generalize hrq : ja2 _ _ (je6 ts) = rq; obtain rfl : rq = tkL t := hrq.symm.trans (hr); clear hrq; conv => whnf)
 by_cases h1 : t.kind = 2
 ·rw [decide_eq_true h1];conv => whnf
  by_cases h2 : lim <= t.n
  ·rw [decide_eq_true h2];conv => whnf
   refine ja3 0 [] rfl rfl rfl rfl (fun _ => hf 6) (fun ch bx' hp => .inr ⟨h1, h2, hp⟩) ?_;rintro o r ⟨⟩
  ·rw [decide_eq_false h2];conv => whnf
   refine ja6 0 [] rfl rfl rfl rfl (fun _ => hn) ?_;rintro o r ⟨ho, rfl⟩;cases ho;conv => whnf
   exact ⟨⟨h1, by omega⟩, rfl, rfl⟩
 ·rw [decide_eq_false h1];conv => whnf
  refine ja3 0 [] rfl rfl rfl rfl (fun _ => hf 10) (fun ch bx' hp => .inl ⟨h1, hp⟩) ?_;rintro o r ⟨⟩
def jhB (ts : List Tk) : List ByteArray -> Int -> Int
 | [], _ => -1
 | s :: l, i => if isP s ts = true then i else jhB ts l (i + 1)
theorem jkp (ts : List Tk) : ∀ (l : List ByteArray) (i : Int), 0 <= i -> (0 <= jhB ts l i ↔ jlN l ts = true)
 | [], i, _ => by simp [jhB, jlN]
 | s :: l, i, h => by
  have ih := jkp ts l (i + 1) (by omega)
  unfold jhB jlN;rw [List.any_cons]
  by_cases hs : isP s ts = true
  ·rw [if_pos hs, hs]; simp [h]
  ·rw [if_neg hs, Bool.not_eq_true] at *;rw [hs, Bool.false_or]; exact ih
theorem jqV (nm : List ByteArray) (ts : List Tk) (h : 0 < ts.length) (l : List ByteArray) (hl : l.length <= 1000) : Spec Tryz.prog 223 [bxQ nm ts] [.sl 1 l.length (jhp l), .bm 132 [.box 0 0]] fun o r => o = [bxQ nm ts] /\ r = intA (jhB ts l 0) := by
 refine ja8 (ja4 jb4 xs0 1) (fun _ _ h => h) Tryz.func223 rfl (by kernel_rfl) rfl (by kernel_rfl) ?_;intro _;conv => whnf
 refine ja5 [0, 1, 7] ?_;conv => whnf
 refine jaj (fun k : Nat => [(8, .v (.int .i64 k))]) (fun _ => [bxQ nm ts]) (fun _ => []) (fun k => k <= l.length /\ jhB ts (l.drop k) k = jhB ts l 0) (fun k => l.length - k) 0 ?_ ⟨Nat.zero_le _, rfl⟩ ?_
 ·repeat' constructor
 ·rintro k ⟨hk, hinv⟩;conv => whnf
  by_cases hlt : k < l.length
  ·have hr := jit l k hlt
   rw [List.drop_eq_getElem_cons hlt] at hinv;generalize l[k] = s at *
   (refine goA ?_; try with_reducible exact trivial)
   (generalize hrq : ja2 _ _ (jhp l) = rq; obtain rfl : rq = [jbn s] := hrq.symm.trans (hr); clear hrq; conv => whnf)
   refine ja6 0 [] rfl rfl rfl rfl (fun _ => jct nm ts h s) ?_;rintro o r ⟨ho, rfl⟩;cases ho;conv => whnf
   cases hq : isP s ts with
   | true =>
    (refine goA ?_; try with_reducible exact trivial)
    rw [jhB, if_pos hq] at hinv;rw [<- hinv];exact ⟨rfl, rfl⟩
   | false =>
    (refine goA ?_; try with_reducible exact trivial)
    rw [jhB, if_neg (by rw [hq]; simp)] at hinv;refine ⟨jam (by omega), ?_⟩;conv => whnf
    refine ⟨k + 1, jfz ?_, ⟨hlt, by push_cast; exact hinv⟩, by omega⟩
    repeat' constructor
  ·(refine goA ?_; try with_reducible exact trivial)
   rw [List.drop_of_length_le (by omega)] at hinv;rw [<- hinv];exact ⟨rfl, rfl⟩
theorem jio (nm : List ByteArray) (ts : List Tk) (h : 0 < ts.length) (l : List ByteArray) (hl : l.length <= 1000) : Spec Tryz.prog 210 [bxQ nm ts] [.sl 1 l.length (jhp l), .bm 132 [.box 0 0]] fun o r => o = [bxQ nm ts] /\ r = jcm (jlN l ts) := by
 have hi := jkp ts l 0 (by omega)
 refine ja8 (ja4 jb4 xs0 1) (fun _ _ h => h) Tryz.func210 rfl (by kernel_rfl) rfl (by kernel_rfl) ?_;intro _;conv => whnf
 refine ja6 0 [] rfl rfl rfl rfl (fun _ => jqV nm ts h l hl) ?_;rintro o r ⟨ho, rfl⟩;cases ho;generalize jhB ts l 0 = i at *;conv => whnf
 refine ⟨rfl, ?_⟩
 cases hq : jlN l ts with
 | true => rw [decide_eq_true (hi.2 hq)]; rfl
 | false => rw [decide_eq_false (fun e => by rw [hi.1 e] at hq; cases hq)]; rfl
theorem juT {X : Type} {np : Nat} {t t0 : List A} {bx : List (List A)} {rw : List Row} {g : X -> List (Nat × A)} {hb : X -> List (List A)} {hr : X -> List Row} {x : X} (ids sel : List Nat)
  (h : jax (ja0 rw ids) fun rw' => jgq (jjz rw') t fun t' => jmH rw' bx fun bx' => jw7 sel t' bx' rw' fun s' => jma t0 g hb hr x fun s2 => LeS np s' s2) : Le np ⟨t, bx, rw⟩ (jhA t0 g hb hr x) := by
 rw [jay, jav, jfe] at h;exact ((jql (np := np) (s := ⟨t, bx, rw⟩) ids).trans jqm).trans (ja1 sel h)
def TkP (ts : List Tk) : Prop := TkB ts /\ ∀ t ∈ ts, wOk t
theorem TkP.pos {ts : List Tk} (h : TkP ts) : 0 < ts.length := h.1.1.pos
theorem TkP.hd {ts : List Tk} (h : TkP ts) : wOk (hd ts) := by
 have := h.pos
 cases ts with
 | nil => simp at this
 | cons t r => exact h.2 t List.mem_cons_self
theorem TkP.good {ts : List Tk} (h : TkP ts) : jls (Vm.hd ts) := h.1.1.good
theorem TkP.tail {ts : List Tk} (h : TkP ts) (hk : (Vm.hd ts).kind ≠ 0) : TkP ts.tail /\ ts.tail.length + 1 = ts.length :=
 ⟨⟨(h.1.tail hk).1, fun t ht => h.2 t (List.mem_of_mem_tail ht)⟩, (h.1.tail hk).2⟩
theorem jbS {s : ByteArray} {ts : List Tk} (h : isP s ts = true) : (hd ts).kind ≠ 0 := by
 unfold isP at h;simp only [Bool.and_eq_true, Bool.or_eq_true, decide_eq_true_eq] at h
 rcases h.2 with h | h <;> omega
theorem TkP.is {s : ByteArray} {ts : List Tk} (h : TkP ts) (k : isP s ts = true) : TkP ts.tail /\ ts.tail.length + 1 = ts.length := h.tail (jbS k)
theorem jfp {l : List ByteArray} {ts : List Tk} (h : jlN l ts = true) : ∃ s, isP s ts = true := by
 unfold jlN at h
 obtain ⟨s, _, h⟩ := List.any_eq_true.1 h
 exact ⟨s, h⟩
def jaS (op : List Tk -> Pn) : Prop := ∀ ts f r, TkP ts -> op ts = .ok f r -> TkP r /\ r.length <= ts.length
def pnQ (p : Pn) (ch : List PanicEntry) : Prop := match p with
 | .bad x e => ch = jaC x e
 | _ => False
def poQ (nm : List ByteArray) (p : Pn) (o : List (List A)) (r : A) : Prop := match p with
 | .ok f ts => o = [bxQ nm ts] /\ r = .agg (ntA f)
 | _ => False
theorem jap {nm : List ByteArray} {p : Pn} {o : List (List A)} {r : A} (h : poQ nm p o r) : ∃ f ts, p = .ok f ts /\ o = [bxQ nm ts] /\ r = .agg (ntA f) := by
 unfold poQ at h
 split at h
 ·exact ⟨_, _, rfl, h.1, h.2⟩
 ·exact h.elim
theorem jaJ {p : Pn} {ch : List PanicEntry} (h : pnQ p ch) : ∃ x e, p = .bad x e /\ ch = jaC x e := by
 unfold pnQ at h
 split at h
 ·exact ⟨_, _, rfl, h⟩
 ·exact h.elim
theorem jad {p : Pn} {x e : Int} {ch : List PanicEntry} (h : p = .bad x e) (k : ch = jaC x e) : pnQ p ch := by subst h; exact k
def jtu : List A := [intA 0, intA 0, jbn ⟨#[]⟩, .v (.slice none 0 0)]
def jb8 (nm : List ByteArray) (g : Nat) (lv : Int) (op : List Tk -> Pn) : Prop := ∀ ts, TkP ts -> SpecP Tryz.prog g [bxQ nm ts] [.box 0 0, intA lv] (poQ nm (op ts)) (pnQ (op ts))
set_option maxHeartbeats 1000000 in
theorem jdL (nm : List ByteArray) (op : List Tk -> Pn) (signs : List ByteArray) (lv : Int) (g : Nat) (hsg : signs.length <= 1000) (hgo : jaS op) (hop : jb8 nm g lv op) (ts : List Tk) (h : TkP ts) :
  SpecP Tryz.prog 184 [bxQ nm ts] [.box 0 0, intA lv, .bm g [.box 0 0], .sl 1 signs.length (jhp signs)] (poQ nm (jcZ op signs ts)) (pnQ (jcZ op signs ts)) := by
 obtain ⟨P, hP⟩ : ∃ P, jcZ op signs ts = P := ⟨_, rfl⟩
 rw [hP];refine jah (jao jxc (fun _ => [0]) 1 (fun ch _ => (pnQ P) ch)) (fun _ _ h => h) Tryz.func184 rfl (by kernel_rfl) rfl (by kernel_rfl) ?_;intro _;unfold jcZ at hP
 have hspec := hop ts h
 conv => whnf
 refine ja3 0 [] rfl rfl rfl rfl (fun _ => hspec) (fun ch bx' hp => ?_) ?_
 ·obtain ⟨x, e, he, hc⟩ := jaJ hp
  rw [he] at hP;exact jad hP.symm hc
 rintro o r hpo
 obtain ⟨f, r1, he, ho, rfl⟩ := jap hpo
 cases ho;rw [he] at hP;simp only [Pn.andThen] at hP
 obtain ⟨h1, l1⟩ := hgo _ _ _ h he
 conv => whnf
 refine ja5 [0, 1, 2, 3, 8, 9] ?_;conv => whnf
 refine jaj (fun _ : Nat × Nt × List Tk => []) (fun x => [bxQ nm x.2.2, jtu, ntA x.2.1]) (fun _ => []) (fun x => TkP x.2.2 /\ x.2.2.length <= x.1 /\ jeH op signs x.1 x.2.1 x.2.2 = P) (fun x => x.2.2.length) (r1.length, f, r1) ?_ ⟨h1, Nat.le_refl _, hP⟩ ?_
 ·repeat' constructor
 rintro ⟨n, left, ts1⟩ ⟨g1, g2, g5⟩
 simp only at g1 g2 g5
 conv => whnf
 refine ja6 0 [] rfl rfl rfl rfl (fun _ => jio nm ts1 g1.pos signs hsg) ?_;rintro o r ⟨ho, rfl⟩;cases ho;conv => whnf
 cases hq : jlN signs ts1 with
 | true =>
  obtain ⟨s0, hs0⟩ := jfp hq
  obtain ⟨q1, q2⟩ := g1.is hs0
  obtain ⟨m, rfl⟩ : ∃ m, n = m + 1 := ⟨n - 1, by have := g1.pos; omega⟩
  rw [jeH, if_pos hq] at g5
  have hnx := jb9 nm ts1 g1.pos
  generalize ts1.tail = ts2 at *;generalize hd ts1 = t at *;conv => whnf
  refine ja6 0 [] rfl rfl rfl rfl (fun _ => hnx) ?_;rintro o r ⟨ho, rfl⟩;cases ho;conv => whnf
  refine ja3 0 [] rfl rfl rfl rfl (fun _ => hop ts2 q1) (fun ch bx' hp => ?_) ?_
  ·obtain ⟨x, e, he, hc⟩ := jaJ hp
   rw [he] at g5;exact jad g5.symm hc
  rintro o r hpo
  obtain ⟨f2, r2, he2, ho, rfl⟩ := jap hpo
  cases ho;rw [he2] at g5;simp only [Pn.andThen] at g5
  obtain ⟨h2, l2⟩ := hgo _ _ _ q1 he2
  refine ⟨(m, .mk 18 0 t.text [left, f2], r2), juT [0] [] ?_, ⟨h2, by simp only; omega, g5⟩, by simp only; omega⟩;conv => whnf
  repeat' constructor
  show A.sl 4 2 _ = A.sl 4 2 (jdi [left, f2])
  rw [jaT, jaT, jbq]; rfl
 | false =>
  have hlg : jeH op signs n left ts1 = .ok left ts1 := by
   cases n with
   | zero => rfl
   | succ m => rw [jeH, if_neg (by rw [hq]; simp)]
  rw [hlg] at g5;subst g5;conv => whnf
  (refine goA ?_; try with_reducible exact trivial)
  exact ⟨rfl, rfl⟩
theorem jbP (k n : Int) (s : ByteArray) (f : Nt) : ntA (.mk k n s [f]) = [intA k, intA n, jbn s, .sl 4 1 (ntA f)] := by
 have e1 : ntA f = jdi [f] := by rw [jaT, jbq, List.append_nil]
 rw [e1]; rfl
theorem jcC (k n : Int) (s : ByteArray) (f g : Nt) : ntA (.mk k n s [f, g]) = [intA k, intA n, jbn s, .sl 4 2 (ntA f ++ ntA g)] := by
 have e1 : ntA f ++ ntA g = jdi [f, g] := by rw [jaT, jaT, jbq, List.append_nil]
 rw [e1]; rfl
def LowQ (nm : List ByteArray) (lv : Int) (low : Option Pa) : Prop := 0 <= lv /\ ((low = none /\ lv = 20) ∨ ∃ p, low = some p /\ lv + 1 <= 20 /\ jaS p.no /\ jaS p.un /\ jaS p.ex /\ jaS p.bl ∧
 jb8 nm 211 (lv + 1) p.no /\ jb8 nm 235 (lv + 1) p.un /\ jb8 nm 172 (lv + 1) p.ex /\ jb8 nm 136 (lv + 1) p.bl)
def jy9 (nm : List ByteArray) (lv : Int) (g : Nat) (op : Option (List Tk -> Pn)) : Prop := 0 <= lv /\ ((op = none /\ lv = 20) ∨ ∃ f, op = some f /\ lv + 1 <= 20 /\ jaS f /\ jb8 nm g (lv + 1) f)
theorem LowQ.no {nm : List ByteArray} {lv : Int} {low : Option Pa} (h : LowQ nm lv low) : jy9 nm lv 211 (low.map (·.no)) := by
 obtain ⟨h0, ⟨rfl, h1⟩ | ⟨p, rfl, h1, a, b, c, d, e, f, g, i⟩⟩ := h
 ·exact ⟨h0, .inl ⟨rfl, h1⟩⟩
 ·exact ⟨h0, .inr ⟨_, rfl, h1, a, e⟩⟩
theorem LowQ.un {nm : List ByteArray} {lv : Int} {low : Option Pa} (h : LowQ nm lv low) : jy9 nm lv 235 (low.map (·.un)) := by
 obtain ⟨h0, ⟨rfl, h1⟩ | ⟨p, rfl, h1, a, b, c, d, e, f, g, i⟩⟩ := h
 ·exact ⟨h0, .inl ⟨rfl, h1⟩⟩
 ·exact ⟨h0, .inr ⟨_, rfl, h1, b, f⟩⟩
theorem jf2 (nm : List ByteArray) (s : ByteArray) (lv : Int) (g : Nat) (op : Option (List Tk -> Pn)) (hlo : jy9 nm lv g op) (ts : List Tk) (h : TkP ts) (hs : isP s ts = true) :
  SpecP Tryz.prog 224 [bxQ nm ts] [.box 0 0, intA lv, jbn s, .bm g [.box 0 0]] (poQ nm (jrR s op ts)) (pnQ (jrR s op ts)) := by
 obtain ⟨hlv, hlo⟩ := hlo
 obtain ⟨P, hP⟩ : ∃ P, jrR s op ts = P := ⟨_, rfl⟩
 rw [hP]
 have hopen := jdW nm ts h.pos s (lv + 1)
 obtain ⟨q1, q2⟩ := h.is hs
 unfold jrR at hP
 rcases hlo with ⟨rfl, rfl⟩ | ⟨f, rfl, hle, gf, sf⟩
 ·simp only at hP
  refine jah (jao jb4 xs0 1 (fun ch _ => (pnQ P) ch)) (fun _ _ h => h) Tryz.func224 rfl (by kernel_rfl) rfl (by kernel_rfl) ?_;intro _;conv => whnf
  refine ⟨jam (by omega), ?_⟩;conv => whnf
  refine ja3 0 [] rfl rfl rfl rfl (fun _ => hopen) (fun ch bx' hp => ?_) ?_
  ·rcases hp with ⟨_, _, hp⟩ | ⟨hp, _⟩
   ·exact jad hP.symm hp
   ·rw [hs] at hp; cases hp
  rintro o r ⟨⟨_, hbad⟩, _⟩;omega
 ·simp only at hP
  refine jah (jao jb4 xs0 1 (fun ch _ => (pnQ P) ch)) (fun _ _ h => h) Tryz.func224 rfl (by kernel_rfl) rfl (by kernel_rfl) ?_;intro _;conv => whnf
  refine ⟨jam (by omega), ?_⟩;conv => whnf
  refine ja3 0 [] rfl rfl rfl rfl (fun _ => hopen) (fun ch bx' hp => ?_) ?_
  ·rcases hp with ⟨_, hp, _⟩ | ⟨hp, _⟩
   ·omega
   ·rw [hs] at hp; cases hp
  rintro o r ⟨_, ho, rfl⟩;cases ho;generalize ts.tail = ts1 at *;conv => whnf
  refine ⟨jam (by omega), ?_⟩;conv => whnf
  refine ja3 0 [] rfl rfl rfl rfl (fun _ => sf ts1 q1) (fun ch bx' hp => ?_) ?_
  ·obtain ⟨x, e, he, hc⟩ := jaJ hp
   rw [he] at hP;exact jad hP.symm hc
  rintro o r hpo
  obtain ⟨k, r1, he, ho, rfl⟩ := jap hpo
  cases ho;rw [he] at hP;simp only [Pn.andThen] at hP;subst hP;conv => whnf
  exact ⟨rfl, by rw [jbP]; rfl⟩
theorem jml {nm : List ByteArray} {lv : Int} {low : Option Pa} (hlo : LowQ nm lv low) : jb8 nm 243 lv (jhF low) := fun ts h => by
 obtain ⟨hlv, hlo⟩ := hlo
 obtain ⟨P, hP⟩ : ∃ P, jhF low ts = P := ⟨_, rfl⟩
 rw [hP]
 have hopen := jdW nm ts h.pos pLp (lv + 1)
 unfold jhF at hP;refine jah (jao jb4 xs0 1 (fun ch _ => (pnQ P) ch)) (fun _ _ h => h) Tryz.func243 rfl (by kernel_rfl) rfl (by kernel_rfl) ?_;intro _;conv => whnf
 have hlv2 : lv <= 20 := by rcases hlo with ⟨_, h⟩ | ⟨_, _, h, _⟩ <;> omega
 refine ⟨jam (by omega), ?_⟩;conv => whnf
 refine ja3 0 [] rfl rfl rfl rfl (fun _ => hopen) (fun ch bx' hp => ?_) ?_
 ·rcases hp with ⟨h1, h2, hp⟩ | ⟨h1, hp⟩
  ·rw [if_pos h1] at hP
   rcases hlo with ⟨rfl, rfl⟩ | ⟨p, rfl, hle, _⟩
   ·exact jad hP.symm hp
   ·omega
  ·rw [if_neg (by rw [h1]; simp)] at hP;exact jad hP.symm hp
 rintro o r ⟨⟨h1, h2⟩, ho, rfl⟩;cases ho;rw [if_pos h1] at hP
 obtain ⟨q1, q2⟩ := h.is h1
 rcases hlo with ⟨rfl, rfl⟩ | ⟨p, rfl, hle, _, _, ge, _, _, _, se, _⟩
 ·omega
 simp only at hP
 generalize ts.tail = ts1 at *;conv => whnf
 refine ⟨jam (by omega), ?_⟩;conv => whnf
 refine ja3 0 [] rfl rfl rfl rfl (fun _ => se ts1 q1) (fun ch bx' hp => ?_) ?_
 ·obtain ⟨x, e, he, hc⟩ := jaJ hp
  rw [he] at hP;exact jad hP.symm hc
 rintro o r hpo
 obtain ⟨k, r1, he, ho, rfl⟩ := jap hpo
 cases ho;rw [he] at hP;simp only [Pn.andThen, xpt] at hP
 obtain ⟨g1, g2⟩ := ge _ _ _ q1 he
 conv => whnf
 refine ja3 0 [] rfl rfl rfl rfl (fun _ => jae nm r1 g1.pos pRp) (fun ch bx' hp => ?_) ?_
 ·rw [if_neg (by rw [hp.1]; simp)] at hP;exact jad hP.symm hp.2
 rintro o r ⟨h3, ho, rfl⟩;cases ho;rw [if_pos h3] at hP;subst hP;conv => whnf
 exact ⟨rfl, rfl⟩
def jxY (f : Nt) : List A := [intA f.k, intA f.n, jbn f.s, .v (.slice none 0 0)]
theorem jb1 {f : Nt} (h : f.kids = []) : WkL (jxY f) (ntA f) := by
 unfold jxY ntA;rw [h, jbq];exact .cons (.refl _) (.cons (.refl _) (.cons (.refl _) (.cons (.nil 4) .nil)))
def poW (nm : List ByteArray) (p : Pn) (o : List (List A)) (r : A) : Prop := match p with
 | .ok f ts => o = [bxQ nm ts] /\ ∃ c, r = .agg c /\ WkL c (ntA f)
 | _ => False
theorem jaR : ∀ l : List A, WkL l l
 | [] => .nil
 | a :: l => .cons (.refl a) (jaR l)
theorem jqR {nm : List ByteArray} {p : Pn} {o : List (List A)} {r : A} (h : poQ nm p o r) : poW nm p o r := by
 obtain ⟨f, ts, rfl, rfl, rfl⟩ := jap h
 exact ⟨rfl, _, rfl, jaR _⟩
theorem jt7 {nm : List ByteArray} {g : Nat} {ins : List (List A)} {args : List A} {p : Pn} (h : SpecP Tryz.prog g ins args (poW nm p) (pnQ p)) : SpecP Tryz.prog g ins args (poQ nm p) (pnQ p) :=
 h.weaken (fun o r k => by
  unfold poW at k
  split at k
  ·rename_i f ts
   obtain ⟨k1, c, rfl, k2⟩ := k
   exact ⟨o, .agg (ntA f), ⟨k1, rfl⟩, .refl o, .agg k2⟩
  ·exact k.elim) fun ch k => k
set_option maxHeartbeats 1000000 in
theorem jkS {nm : List ByteArray} {lv : Int} {low : Option Pa} (hlo : LowQ nm lv low) : jb8 nm 240 lv (jjl low) := fun ts h => by
 have hne := jml hlo
 refine jt7 ?_
 obtain ⟨P, hP⟩ : ∃ P, jjl low ts = P := ⟨_, rfl⟩
 rw [hP]
 have hl := h.pos
 have hr := jde hl
 have hw := h.hd
 have hgd := h.good
 have his := fun s => jct nm ts hl s
 have hnx := jb9 nm ts hl
 have hnm := jdV nm ts hl hw hgd.1
 have hfl := jc1 nm ts hl 10
 have htl := h.tail
 have hps := fun s (hs : isP s ts = true) => h.is hs
 unfold wOk at hw
 have hz := hgd.1
 clear hgd
 have hbi : jwK ts = (decide ((hd ts).kind = 1) && builtL.any fun s => decide ((hd ts).text = s)) := rfl
 unfold jjl at hP;refine jah (jao jb4 xs0 1 (fun ch _ => (pnQ P) ch)) (fun _ _ h => h) Tryz.func240 rfl (by kernel_rfl) rfl (by kernel_rfl) ?_;intro _
 have hsyn : synE ts = .bad (hd ts).pos 10 := rfl
 have hn0 := hne ts h
 generalize hd ts = t at *;conv => whnf
 (refine goA ?_; try with_reducible exact trivial)
 (generalize hrq : ja2 _ _ (je6 ts) = rq; obtain rfl : rq = tkL t := hrq.symm.trans (hr); clear hrq; conv => whnf)
 refine ja6 0 [] rfl rfl rfl rfl (fun _ => his pLp) ?_;rintro o r ⟨ho, rfl⟩;cases ho;conv => whnf
 cases hq1 : isP pLp ts with
 | true =>
  rw [if_pos hq1] at hP;conv => whnf
  rw [hP] at hn0;refine ja3 0 [] rfl rfl rfl rfl (fun _ => hn0) (fun ch bx' hp => hp) ?_;rintro o r hpo
  obtain ⟨f, r1, rfl, ho, rfl⟩ := jap hpo
  cases ho;conv => whnf
  exact jqR (p := .ok f r1) (show _ /\ _ from ⟨rfl, rfl⟩)
 | false =>
  rw [if_neg (by rw [hq1]; simp)] at hP;conv => whnf
  refine ja6 0 [] rfl rfl rfl rfl (fun _ => his jrz) ?_;rintro o r ⟨ho, rfl⟩;cases ho;conv => whnf
  cases hq2 : isP jrz ts with
  | true =>
   rw [if_pos hq2] at hP
   obtain ⟨q1, q2⟩ := hps _ hq2
   generalize ts.tail = ts1 at *;conv => whnf
   refine ja6 0 [] rfl rfl rfl rfl (fun _ => hnx) ?_;rintro o r ⟨ho, rfl⟩;cases ho;conv => whnf
   refine ja3 0 [] rfl rfl rfl rfl (fun _ => hne ts1 q1) (fun ch bx' hp => ?_) ?_
   ·obtain ⟨x, e, he, hc⟩ := jaJ hp
    rw [he] at hP;exact jad hP.symm hc
   rintro o r hpo
   obtain ⟨f, r1, he, ho, rfl⟩ := jap hpo
   cases ho;rw [he] at hP;simp only [Pn.andThen] at hP;subst hP;conv => whnf
   exact jqR (p := .ok (.mk 16 0 eB [f]) r1) (show _ /\ _ from ⟨rfl, by rw [jbP]; rfl⟩)
  | false =>
   rw [if_neg (by rw [hq2]; simp)] at hP;conv => whnf
   by_cases hk2 : t.kind = 2
   ·rw [decide_eq_true hk2];rw [if_pos hk2] at hP;conv => whnf
    refine ja6 0 [] rfl rfl rfl rfl (fun _ => hnx) ?_;rintro o r ⟨ho, rfl⟩;cases ho;subst hP;conv => whnf
    exact ⟨rfl, _, rfl, jb1 (f := .mk 12 t.n eB []) rfl⟩
   ·rw [decide_eq_false hk2];rw [if_neg hk2] at hP;conv => whnf
    refine ja6 0 [] rfl rfl rfl rfl (fun _ => his jrB) ?_;rintro o r ⟨ho, rfl⟩;cases ho;conv => whnf
    cases hq3 : isP jrB ts with
    | true =>
     rw [if_pos hq3] at hP;conv => whnf
     refine ja6 0 [] rfl rfl rfl rfl (fun _ => hnx) ?_;rintro o r ⟨ho, rfl⟩;cases ho;subst hP;conv => whnf
     exact ⟨rfl, _, rfl, jb1 (f := .mk 13 1 eB []) rfl⟩
    | false =>
     rw [if_neg (by rw [hq3]; simp)] at hP;conv => whnf
     refine ja6 0 [] rfl rfl rfl rfl (fun _ => his jlz) ?_;rintro o r ⟨ho, rfl⟩;cases ho;conv => whnf
     cases hq4 : isP jlz ts with
     | true =>
      rw [if_pos hq4] at hP;conv => whnf
      refine ja6 0 [] rfl rfl rfl rfl (fun _ => hnx) ?_;rintro o r ⟨ho, rfl⟩;cases ho;subst hP;conv => whnf
      exact ⟨rfl, _, rfl, jb1 (f := .mk 13 0 eB []) rfl⟩
     | false =>
      rw [if_neg (by rw [hq4]; simp)] at hP;conv => whnf
      refine ja6 0 [] rfl rfl rfl rfl (fun _ => hnm) ?_;rintro o r ⟨ho, rfl⟩;cases ho;conv => whnf
      cases hq5 : jg8 ts with
      | true =>
       rw [if_pos hq5] at hP;conv => whnf
       refine ja6 0 [] rfl rfl rfl rfl (fun _ => hnx) ?_;rintro o r ⟨ho, rfl⟩;cases ho;subst hP;conv => whnf
       exact ⟨rfl, _, rfl, jb1 (f := .mk 14 0 t.text []) rfl⟩
      | false =>
       rw [if_neg (by rw [hq5]; simp)] at hP;conv => whnf
       by_cases hk1 : t.kind = 1
       ·obtain ⟨w1, w2⟩ := hw hk1
        have hc : ∀ K : ByteArray, K.size <= 1000000000 -> K.data.toList = spW (builtL.map (·.data.toList)) -> Spec Tryz.prog 171 [] [jbn K, jbn ((⟨#[32]⟩ : ByteArray) ++ t.text ++ ⟨#[32]⟩)] fun _ r => r = jcm (builtL.any fun s => decide (t.text = s)) := fun K hK hK2 => by
         have := jiw K ((⟨#[32]⟩ : ByteArray) ++ t.text ++ ⟨#[32]⟩) hK
         rw [jhQ, hK2, jfu _ w2 _ jwk, <- jiO] at this;exact this
        have hs1 : (⟨#[32]⟩ : ByteArray).size = 1 := rfl
        rw [decide_eq_true hk1, Bool.true_and] at hbi;rw [decide_eq_true hk1];conv => whnf
        refine ⟨by rw [hs1]; unfold maxLen; omega, ?_⟩;conv => whnf
        refine ⟨by rw [ByteArray.size_append, hs1]; unfold maxLen; omega, ?_⟩;conv => whnf
        (refine jaw [] rfl (fun _ => hc _ (by decide +kernel) (by decide +kernel)) ?_; rintro r rfl; conv => whnf)
        rw [hbi] at hP
        cases hq6 : builtL.any fun s => decide (t.text = s) with
        | true =>
         rw [hq6, if_pos rfl] at hP;conv => whnf
         refine ja6 0 [] rfl rfl rfl rfl (fun _ => hnx) ?_;rintro o r ⟨ho, rfl⟩;cases ho;subst hP;conv => whnf
         exact ⟨rfl, _, rfl, jb1 (f := .mk 15 0 t.text []) rfl⟩
        | false =>
         rw [hq6, if_neg (by simp), hsyn] at hP;conv => whnf
         refine ja3 0 [] rfl rfl rfl rfl (fun _ => hfl) (fun ch bx' hp => jad hP.symm hp) ?_;rintro o r ⟨⟩
       ·rw [decide_eq_false hk1, Bool.false_and] at hbi;rw [hbi, if_neg (by simp), hsyn] at hP;rw [decide_eq_false hk1];conv => whnf
        refine ja3 0 [] rfl rfl rfl rfl (fun _ => hfl) (fun ch bx' hp => jad hP.symm hp) ?_;rintro o r ⟨⟩
def jjK (low : Option Pa) : Prop := ∀ p, low = some p -> jaS p.no /\ jaS p.un /\ jaS p.ex /\ jaS p.bl
theorem jak {p : Pn} {k : Nt -> List Tk -> Pn} {f : Nt} {r : List Tk} (h : p.andThen k = .ok f r) : ∃ g s, p = .ok g s /\ k g s = .ok f r := by
 cases p with
 | ok g s => exact ⟨g, s, rfl, h⟩
 | bad x e => cases h
theorem jck {s : ByteArray} {ts : List Tk} {k : List Tk -> Pn} {f : Nt} {r : List Tk} (h : xpt s ts k = .ok f r) : isP s ts = true /\ k ts.tail = .ok f r := by
 unfold xpt at h
 split at h
 ·rename_i hs; exact ⟨hs, h⟩
 ·cases h
theorem jkk {low : Option Pa} (hl : jjK low) : jaS (jhF low) := fun ts f r h e => by
 unfold jhF at e
 split at e
 ·rename_i hs
  obtain ⟨q1, q2⟩ := h.is hs
  cases low with
  | none => cases e
  | some p =>
   simp only at e
   obtain ⟨n, s, e1, e2⟩ := jak e
   obtain ⟨g1, g2⟩ := (hl p rfl).2.2.1 _ _ _ q1 e1
   obtain ⟨e3, e4⟩ := jck e2
   obtain ⟨g3, g4⟩ := g1.is e3
   cases e4
   exact ⟨g3, by omega⟩
 ·cases e
theorem jnp {s : ByteArray} {op : Option (List Tk -> Pn)} (hg : ∀ f, op = some f -> jaS f) (ts : List Tk) (f : Nt) (r : List Tk) (h : TkP ts) (hs : isP s ts = true) (e : jrR s op ts = .ok f r) : TkP r /\ r.length <= ts.length := by
 obtain ⟨q1, q2⟩ := h.is hs
 cases op with
 | none => cases e
 | some o =>
  unfold jrR at e
  simp only at e
  obtain ⟨n, s, e1, e2⟩ := jak e
  obtain ⟨g1, g2⟩ := hg o rfl _ _ _ q1 e1
  cases e2
  exact ⟨g1, by omega⟩
theorem jq8 {low : Option Pa} (hl : jjK low) : jaS (jjl low) := fun ts f r h e => by
 unfold jjl at e
 split at e
 ·exact jkk hl ts f r h e
 split at e
 ·rename_i hs
  obtain ⟨q1, q2⟩ := h.is hs
  obtain ⟨n, s, e1, e2⟩ := jak e
  obtain ⟨g1, g2⟩ := jkk hl _ _ _ q1 e1
  cases e2
  exact ⟨g1, by omega⟩
 split at e
 ·rename_i hk
  obtain ⟨q1, q2⟩ := h.tail (by rw [hk]; decide)
  cases e
  exact ⟨q1, by omega⟩
 split at e
 ·rename_i hs
  obtain ⟨q1, q2⟩ := h.is hs
  cases e
  exact ⟨q1, by omega⟩
 split at e
 ·rename_i hs
  obtain ⟨q1, q2⟩ := h.is hs
  cases e
  exact ⟨q1, by omega⟩
 split at e
 ·rename_i hs
  unfold jg8 at hs;simp only [Bool.and_eq_true, decide_eq_true_eq] at hs
  obtain ⟨q1, q2⟩ := h.tail (by rw [hs.1]; decide)
  cases e
  exact ⟨q1, by omega⟩
 split at e
 ·rename_i hs
  unfold jwK at hs;simp only [Bool.and_eq_true, decide_eq_true_eq] at hs
  obtain ⟨q1, q2⟩ := h.tail (by rw [hs.1]; decide)
  cases e
  exact ⟨q1, by omega⟩
 ·cases e
theorem jdP {low : Option Pa} (hl : jjK low) : jaS (jiA low) := fun ts f r h e => by
 unfold jiA at e
 split at e
 ·rename_i hs
  refine jnp (fun o ho => ?_) ts f r h hs e;rw [Option.map_eq_some_iff] at ho
  obtain ⟨p, hp, rfl⟩ := ho
  exact (hl p hp).2.1
 ·exact jq8 hl ts f r h e
theorem jid {op : List Tk -> Pn} (hg : jaS op) (signs : List ByteArray) : ∀ (n : Nat) (l : Nt) (ts : List Tk) (f : Nt) (r : List Tk), TkP ts -> jeH op signs n l ts = .ok f r -> TkP r /\ r.length <= ts.length
 | 0, l, ts, f, r, h, e => by cases e; exact ⟨h, Nat.le_refl _⟩
 | n + 1, l, ts, f, r, h, e => by
  rw [jeH] at e
  split at e
  ·rename_i hs
   obtain ⟨s, hs⟩ := jfp hs
   obtain ⟨q1, q2⟩ := h.is hs
   obtain ⟨g, s, e1, e2⟩ := jak e
   obtain ⟨g1, g2⟩ := hg _ _ _ q1 e1
   obtain ⟨g3, g4⟩ := jid hg signs n _ _ _ _ g1 e2
   exact ⟨g3, by omega⟩
  ·cases e; exact ⟨h, Nat.le_refl _⟩
theorem jcq {op : List Tk -> Pn} (hg : jaS op) (signs : List ByteArray) : jaS (jcZ op signs) := fun ts f r h e => by
 unfold jcZ at e
 obtain ⟨g, s, e1, e2⟩ := jak e
 obtain ⟨g1, g2⟩ := hg _ _ _ h e1
 obtain ⟨g3, g4⟩ := jid hg signs _ _ _ _ _ g1 e2
 exact ⟨g3, by omega⟩
theorem jgl {low : Option Pa} (hl : jjK low) : jaS (jvA low) := jcq (jcq (jdP hl) _) _
theorem jdO {low : Option Pa} (hl : jjK low) : jaS (ntG low) := fun ts f r h e => by
 unfold ntG at e
 split at e
 ·rename_i hs
  refine jnp (fun o ho => ?_) ts f r h hs e;rw [Option.map_eq_some_iff] at ho
  obtain ⟨p, hp, rfl⟩ := ho
  exact (hl p hp).1
 ·obtain ⟨g, s, e1, e2⟩ := jak e
  obtain ⟨g1, g2⟩ := jgl hl _ _ _ h e1
  split at e2
  ·rename_i hs
   obtain ⟨_, hs⟩ := jfp hs
   obtain ⟨q1, q2⟩ := g1.is hs
   obtain ⟨g', s', e3, e4⟩ := jak e2
   obtain ⟨g3, g4⟩ := jgl hl _ _ _ q1 e3
   cases e4
   exact ⟨g3, by omega⟩
  ·cases e2
   exact ⟨g1, g2⟩
theorem jd1 {low : Option Pa} (hl : jjK low) : jaS (jvV low) := jcq (jcq (jdO hl) _) _
theorem LowQ.goes {nm : List ByteArray} {lv : Int} {low : Option Pa} (h : LowQ nm lv low) : jjK low := fun p hp => by
 obtain ⟨h0, ⟨rfl, h1⟩ | ⟨q, rfl, h1, a, b, c, d, e, f, g, i⟩⟩ := h
 ·cases hp
 ·cases hp; exact ⟨a, b, c, d⟩
theorem jiB {nm : List ByteArray} {lv : Int} {low : Option Pa} (hlo : LowQ nm lv low) : jb8 nm 235 lv (jiA low) := fun ts h => by
 have hpr := jkS hlo ts h
 obtain ⟨P, hP⟩ : ∃ P, jiA low ts = P := ⟨_, rfl⟩
 rw [hP]
 have his := jct nm ts h.pos pMinus
 have hpre := fun hs => jf2 nm pMinus lv _ _ hlo.un ts h hs
 unfold jiA at hP;refine jah (jao jb4 xs0 1 (fun ch _ => (pnQ P) ch)) (fun _ _ h => h) Tryz.func235 rfl (by kernel_rfl) rfl (by kernel_rfl) ?_;intro _;conv => whnf
 refine ja6 0 [] rfl rfl rfl rfl (fun _ => his) ?_;rintro o r ⟨ho, rfl⟩;cases ho;conv => whnf
 cases hq : isP pMinus ts with
 | true =>
  have hpre := hpre hq
  rw [if_pos hq] at hP;rw [hP] at hpre;conv => whnf
  refine ja3 0 [] rfl rfl rfl rfl (fun _ => hpre) (fun ch bx' hp => hp) ?_;rintro o r hpo
  obtain ⟨f, r1, rfl, ho, rfl⟩ := jap hpo
  cases ho;conv => whnf
  exact ⟨rfl, rfl⟩
 | false =>
  rw [if_neg (by rw [hq]; simp)] at hP;rw [hP] at hpr;conv => whnf
  refine ja3 0 [] rfl rfl rfl rfl (fun _ => hpr) (fun ch bx' hp => hp) ?_;rintro o r hpo
  obtain ⟨f, r1, rfl, ho, rfl⟩ := jap hpo
  cases ho;conv => whnf
  exact ⟨rfl, rfl⟩
theorem jkT {nm : List ByteArray} {lv : Int} {low : Option Pa} (hlo : LowQ nm lv low) : jb8 nm 230 lv (jcZ (jiA low) [jdy, jbG]) := by
 have hop := jiB hlo
 have hgo := jdP hlo.goes
 intro ts h
 obtain ⟨P, hP⟩ : ∃ P, jcZ (jiA low) [jdy, jbG] ts = P := ⟨_, rfl⟩
 have hch := jdL nm (jiA low) [jdy, jbG] lv 235 (by decide) hgo hop ts h
 show SpecP _ _ _ _ (poQ nm (jcZ (jiA low) [jdy, jbG] ts)) (pnQ (jcZ (jiA low) [jdy, jbG] ts))
 rw [hP] at hch ⊢;refine jah (jao jb4 xs0 1 (fun ch _ => (pnQ P) ch)) (fun _ _ h => h) Tryz.func230 rfl (by kernel_rfl) rfl (by kernel_rfl) ?_;intro _;conv => whnf
 refine ja3 0 [0] rfl rfl rfl rfl (fun _ => hch) (fun ch bx' hp => hp) ?_;rintro o r hpo
 obtain ⟨f, r1, rfl, ho, rfl⟩ := jap hpo
 cases ho;conv => whnf
 exact ⟨rfl, rfl⟩
theorem jtg {nm : List ByteArray} {lv : Int} {low : Option Pa} (hlo : LowQ nm lv low) : jb8 nm 225 lv (jvA low) := by
 have hop := jkT hlo
 have hgo := jcq (jdP hlo.goes) [jdy, jbG]
 show jb8 _ _ _ (jcZ (jcZ (jiA low) [jdy, jbG]) [jge, pMinus])
 intro ts h
 obtain ⟨P, hP⟩ : ∃ P, jcZ (jcZ (jiA low) [jdy, jbG]) [jge, pMinus] ts = P := ⟨_, rfl⟩
 have hch := jdL nm (jcZ (jiA low) [jdy, jbG]) [jge, pMinus] lv 230 (by decide) hgo hop ts h
 show SpecP _ _ _ _ (poQ nm (jcZ (jcZ (jiA low) [jdy, jbG]) [jge, pMinus] ts)) (pnQ (jcZ (jcZ (jiA low) [jdy, jbG]) [jge, pMinus] ts))
 rw [hP] at hch ⊢;refine jah (jao jb4 xs0 1 (fun ch _ => (pnQ P) ch)) (fun _ _ h => h) Tryz.func225 rfl (by kernel_rfl) rfl (by kernel_rfl) ?_;intro _;conv => whnf
 refine ja3 0 [0] rfl rfl rfl rfl (fun _ => hch) (fun ch bx' hp => hp) ?_;rintro o r hpo
 obtain ⟨f, r1, rfl, ho, rfl⟩ := jap hpo
 cases ho;conv => whnf
 exact ⟨rfl, rfl⟩
set_option maxHeartbeats 1000000 in
theorem jnO {nm : List ByteArray} {lv : Int} {low : Option Pa} (hlo : LowQ nm lv low) : jb8 nm 211 lv (ntG low) := fun ts h => by
 have hsm := jtg hlo
 have hgs := jgl hlo.goes
 obtain ⟨P, hP⟩ : ∃ P, ntG low ts = P := ⟨_, rfl⟩
 rw [hP]
 have his := jct nm ts h.pos pNot
 have hpre := fun hs => jf2 nm pNot lv _ _ hlo.no ts h hs
 unfold ntG at hP;generalize jvA low = op at *;refine jah (jao jxg (fun _ => [0]) 1 (fun ch _ => (pnQ P) ch)) (fun _ _ h => h) Tryz.func211 rfl (by kernel_rfl) rfl (by kernel_rfl) ?_;intro _;conv => whnf
 refine ja6 0 [] rfl rfl rfl rfl (fun _ => his) ?_;rintro o r ⟨ho, rfl⟩;cases ho;conv => whnf
 cases hq : isP pNot ts with
 | true =>
  have hpre := hpre hq
  rw [if_pos hq] at hP;rw [hP] at hpre;conv => whnf
  refine ja3 0 [] rfl rfl rfl rfl (fun _ => hpre) (fun ch bx' hp => hp) ?_;rintro o r hpo
  obtain ⟨f, r1, rfl, ho, rfl⟩ := jap hpo
  cases ho;conv => whnf
  exact ⟨rfl, rfl⟩
 | false =>
  rw [if_neg (by rw [hq]; simp)] at hP;conv => whnf
  refine ja3 0 [] rfl rfl rfl rfl (fun _ => hsm ts h) (fun ch bx' hp => ?_) ?_
  ·obtain ⟨x, e, he, hc⟩ := jaJ hp
   rw [he] at hP;exact jad hP.symm hc
  rintro o r hpo
  obtain ⟨f, r1, he, ho, rfl⟩ := jap hpo
  cases ho;rw [he] at hP;simp only [Pn.andThen] at hP
  obtain ⟨g1, g2⟩ := hgs _ _ _ h he
  have hct := jio nm r1 g1.pos cmpL (by decide)
  conv => whnf
  refine ja6 0 [0] rfl rfl rfl rfl (fun _ => hct) ?_;rintro o r ⟨ho, rfl⟩;cases ho;conv => whnf
  cases hc : jlN cmpL r1 with
  | true =>
   rw [if_pos hc] at hP
   obtain ⟨_, hs⟩ := jfp hc
   obtain ⟨q1, q2⟩ := g1.is hs
   have hnx := jb9 nm r1 g1.pos
   generalize r1.tail = r2 at *;generalize hd r1 = t at *;conv => whnf
   refine ja6 0 [] rfl rfl rfl rfl (fun _ => hnx) ?_;rintro o r ⟨ho, rfl⟩;cases ho;conv => whnf
   refine ja3 0 [] rfl rfl rfl rfl (fun _ => hsm r2 q1) (fun ch bx' hp => ?_) ?_
   ·obtain ⟨x, e, he, hc⟩ := jaJ hp
    rw [he] at hP;exact jad hP.symm hc
   rintro o r hpo
   obtain ⟨f2, r3, he2, ho, rfl⟩ := jap hpo
   cases ho;rw [he2] at hP;simp only [Pn.andThen] at hP;subst hP;conv => whnf
   exact ⟨rfl, by rw [jcC]; rfl⟩
  | false =>
   rw [if_neg (by rw [hc]; simp)] at hP;subst hP;conv => whnf
   exact ⟨rfl, rfl⟩
theorem js5 {nm : List ByteArray} {lv : Int} {low : Option Pa} (hlo : LowQ nm lv low) : jb8 nm 185 lv (jcZ (ntG low) [jg3]) := by
 have hop := jnO hlo
 have hgo := jdO hlo.goes
 intro ts h
 obtain ⟨P, hP⟩ : ∃ P, jcZ (ntG low) [jg3] ts = P := ⟨_, rfl⟩
 have hch := jdL nm (ntG low) [jg3] lv 211 (by decide) hgo hop ts h
 show SpecP _ _ _ _ (poQ nm (jcZ (ntG low) [jg3] ts)) (pnQ (jcZ (ntG low) [jg3] ts))
 rw [hP] at hch ⊢;refine jah (jao jb4 xs0 1 (fun ch _ => (pnQ P) ch)) (fun _ _ h => h) Tryz.func185 rfl (by kernel_rfl) rfl (by kernel_rfl) ?_;intro _;conv => whnf
 refine ja3 0 [0] rfl rfl rfl rfl (fun _ => hch) (fun ch bx' hp => hp) ?_;rintro o r hpo
 obtain ⟨f, r1, rfl, ho, rfl⟩ := jap hpo
 cases ho;conv => whnf
 exact ⟨rfl, rfl⟩
theorem jkd {nm : List ByteArray} {lv : Int} {low : Option Pa} (hlo : LowQ nm lv low) : jb8 nm 172 lv (jvV low) := by
 have hop := js5 hlo
 have hgo := jcq (jdO hlo.goes) [jg3]
 show jb8 _ _ _ (jcZ (jcZ (ntG low) [jg3]) [pOr])
 intro ts h
 obtain ⟨P, hP⟩ : ∃ P, jcZ (jcZ (ntG low) [jg3]) [pOr] ts = P := ⟨_, rfl⟩
 have hch := jdL nm (jcZ (ntG low) [jg3]) [pOr] lv 185 (by decide) hgo hop ts h
 show SpecP _ _ _ _ (poQ nm (jcZ (jcZ (ntG low) [jg3]) [pOr] ts)) (pnQ (jcZ (jcZ (ntG low) [jg3]) [pOr] ts))
 rw [hP] at hch ⊢;refine jah (jao jb4 xs0 1 (fun ch _ => (pnQ P) ch)) (fun _ _ h => h) Tryz.func172 rfl (by kernel_rfl) rfl (by kernel_rfl) ?_;intro _;conv => whnf
 refine ja3 0 [0] rfl rfl rfl rfl (fun _ => hch) (fun ch bx' hp => hp) ?_;rintro o r hpo
 obtain ⟨f, r1, rfl, ho, rfl⟩ := jap hpo
 cases ho;conv => whnf
 exact ⟨rfl, rfl⟩
end Go.Proofs.YtfbifdccmabdbaaGreatDoor.Vm
namespace Go.Proofs.YtfbifdccmabdbaaGreatDoor.Vm
open Go.RowKit
set_option linter.unusedSimpArgs false
set_option linter.unusedVariables false
section
section
variable {w0 : W0} {C0 : Rd} {β0 : List Nat} {bx : List (List A)} {rw : List Row} {w : World} {E : Env}
theorem Hp.learn (h : Hp w0 C0 β0 bx rw w E) {b : Nat} (hf : w0.fr b) (hβ : b ∉ E.β) (hr : ∀ (g e k n : Nat) (cs : List A) (y : Value), rw[g]? = some (.live e k n cs) -> E.ρ[g]? = some y -> blk y ≠ some b) :
  ∃ C', Hp w0 C0 β0 bx rw w ⟨C', E.β, E.ρ⟩ /\ E.le ⟨C', E.β, E.ρ⟩ /\ ∀ ad, ad.block = b -> C' ad = see w ad := by
 refine ⟨fun ad => if ad.block = b then see w ad else E.C ad, ?_⟩
 have hC : Sub E.C (fun ad => if ad.block = b then see w ad else E.C ad) := fun ad u hc => by
  simp only
  split
  ·exact h.sub ad u hc
  ·exact hc
 have le : E.le ⟨fun ad => if ad.block = b then see w ad else E.C ad, E.β, E.ρ⟩ := ⟨hC, fun _ _ h => h, fun _ _ h => h⟩
 refine ⟨⟨fun ad u hc => ?_, h.base.trans hC, fun ad u hc => ?_, h.bp, h.bnd, fun b' hb' o sp => ?_, h.bl, fun i b cs' h1 h2 => (h.bxs i b cs' h1 h2).mono le, h.rl, fun j r' z h1 h2 => (h.rws j r' z h1 h2).mono le (fun _ _ _ _ _ _ _ => rfl), fun j e' k' n' cs' z b' h1 h2 h3 => ?_, h.rd, h.rs, h.keep, h.gk⟩, le, fun ad e => if_pos e⟩
 ·simp only at hc
  split at hc
  ·exact hc
  ·exact h.sub ad u hc
 ·simp only at hc
  split at hc
  ·rename_i hb2
   right
   rw [hb2]; exact hf
  ·exact h.fresh ad u hc
 ·simp only
  rw [if_neg (fun hb2 : b' = b => hβ (by rw [<- hb2]; exact hb'))];exact h.bC b' hb' o sp
 ·obtain ⟨q1, q2⟩ := h.rC j e' k' n' cs' z b' h1 h2 h3
  refine ⟨q1, fun o sp => ?_⟩
  simp only
  rw [if_neg (fun hb2 : b' = b => hr j e' k' n' cs' z h1 h2 (by rw [<- hb2]; exact h3))];exact q2 o sp
end
def jpH (n nr : Nat) (x : Value) (a : A) : A := match a with
 | .box i o => match Nat.beq i n with
  | true => match o with
   | 0 => .pp [.v x]
   | _ + 1 => .dead
  | false => match jdY n nr a with
   | true => a
   | false => .dead
 | a => match jdY n nr a with
  | true => a
  | false => .dead
theorem jpI {E : Env} {C' : Rd} {n nr b : Nat} {x : Value} {a : A} {y : Value} (hb : E.β[n]? = some b) (hC : Sub E.C C') (hx : C' ⟨b, 0, none⟩ = some x) (h1 : x.oneCell' = true) (hv : okV x) (h : a.rep E y) : (jpH n nr x a).rep ⟨C', E.β.take n, E.ρ.take nr⟩ y := by
 have le : (⟨E.C, E.β.take n, E.ρ.take nr⟩ : Env).le ⟨C', E.β.take n, E.ρ.take nr⟩ := ⟨hC, fun _ _ h => h, fun _ _ h => h⟩
 have gen : ∀ a : A, a.rep E y -> (match jdY n nr a with | true => a | false => .dead : A).rep ⟨C', E.β.take n, E.ρ.take nr⟩ y := fun a h => by
  split
  ·rename_i hr
   exact A.rep.mono a le (jf6 a hr h)
  ·exact A.rep_dead _ _
 cases a with
 | box i o =>
  unfold jpH
  simp only
  split
  ·rename_i hi
   have hi := Nat.eq_of_beq_eq_true hi
   subst hi;unfold A.rep at h
   obtain ⟨b', h2, rfl⟩ := h
   rw [hb] at h2
   cases h2
   cases o with
   | zero =>
    simp only
    unfold A.rep;refine ⟨b, 0, rfl, ?_⟩;unfold A.repAt;exact ⟨⟨x, hx, h1, A.rep_v hv⟩, by unfold A.repAt; trivial⟩
   | succ o => exact A.rep_dead _ _
  ·exact gen _ h
 | _ => exact gen _ h
theorem jk0 {E : Env} {C' : Rd} {n nr b : Nat} {x : Value} (hb : E.β[n]? = some b) (hC : Sub E.C C') (hx : C' ⟨b, 0, none⟩ = some x) (h1 : x.oneCell' = true) (hv : okV x) : ∀ {l : List A} {us : List Value}, A.repL l E us -> A.repL (l.map (jpH n nr x)) ⟨C', E.β.take n, E.ρ.take nr⟩ us
 | [], us, h => by unfold A.repL at h ⊢; exact h
 | a :: r, us, h => by
  unfold A.repL at h
  obtain ⟨u, us', rfl, h2, h3⟩ := h
  rw [List.map_cons];unfold A.repL;exact ⟨u, us', rfl, jpI hb hC hx h1 hv h2, jk0 hb hC hx h1 hv h3⟩
theorem jnC : ∀ l : List A, LeL l l
 | [] => trivial
 | a :: l => ⟨.inr rfl, jnC l⟩
theorem jqk : ∀ (l m : List (List A)), LeB (l ++ m) l
 | [], [] => trivial
 | [], _ :: _ => trivial
 | a :: l, m => ⟨jnC a, jqk l m⟩
theorem jnD : ∀ l : List Row, LeR l l
 | [] => trivial
 | a :: l => ⟨.inr rfl, jnD l⟩
theorem juS {np : Nat} {t : List A} {bx : List (List A)} {rw : List Row} {x : Value} (hn : Nat.ble np bx.length = true) (hrf : jkX bx.length rw.length bx = true) : Le np ⟨t, bx ++ [[.v x]], rw⟩ ⟨t.map (jpH bx.length rw.length x), bx, rw⟩ := by
 rintro dr w0 C0 β0 a w hdr e ⟨E, hp, hrep, hd⟩
 have hn' := Nat.le_of_ble_eq_true hn
 rw [<- e] at hn'
 have hpw := hp.weaken (bx' := bx) (rw' := rw) hn' (jqk _ _) (jnD _) hrf
 have hbl := hp.bl
 simp only [List.length_append, List.length_cons, List.length_nil] at hbl
 have hlt : bx.length < E.β.length := by omega
 obtain ⟨b, hb⟩ : ∃ b, E.β[bx.length]? = some b := ⟨_, List.getElem?_eq_getElem hlt⟩
 obtain ⟨T, arr, h1, h2⟩ := hp.bxs bx.length b [.v x] hb (by simp)
 have h2 := h2.plain (fun t r e => by cases e)
 unfold A.repC at h2
 obtain ⟨u, us', h3, h4, h5, -⟩ := h2
 obtain ⟨rfl, h6⟩ := A.rep_v_iff.1 h5
 have hsee : see w ⟨b, 0, none⟩ = some u := by
  refine jjt ?_
  have h0 : arr[0]? = some u := by
   have := congrArg (·[0]?) h3
   simpa using this
  simp [World.cell?, h1, h0]
 have hbm : b ∈ E.β := List.mem_of_getElem? hb
 have hfr : w0.fr b := by
  obtain ⟨β', hβ, hβ'⟩ := hp.bp
  refine .inl (hβ' b ?_);rw [hβ, List.getElem?_append_right hn'] at hb;exact List.mem_of_getElem? hb
 have hnt : b ∉ E.β.take bx.length := fun hm => by
  obtain ⟨i, hi, he⟩ := List.mem_iff_getElem.1 hm
  rw [List.length_take] at hi;rw [List.getElem_take] at he
  have h7 : E.β[i]? = some b := by rw [List.getElem?_eq_getElem (by omega), he]
  have := (List.getElem?_inj (by omega) hp.bnd).1 (h7.trans hb.symm)
  omega
 obtain ⟨C', hp2, le, hC'⟩ := hpw.learn hfr hnt (fun g e k n cs y hg hy hk => by
  have hy' : E.ρ[g]? = some y := by
   rw [List.getElem?_take] at hy
   split at hy
   ·exact hy
   ·cases hy
  exact (hp.rC g e k n cs y b hg hy' hk).1 hbm)
 refine ⟨⟨C', E.β.take bx.length, E.ρ.take rw.length⟩, hp2, ?_, ?_⟩
 ·exact jk0 hb le.C (show C' ⟨b, 0, none⟩ = some u by rw [hC' _ rfl]; exact hsee) h4 h6 hrep
 ·exact (jf5 (by rw [e] at hn'; exact hn') hdr hd).mono le
theorem jqH {c : Cx} {x : Code} {t : List A} {bx : List (List A)} {rw : List Row} {v : Value} {q : Exit -> S -> Prop} (hn : Nat.ble c.np bx.length = true) (hrf : jkX bx.length rw.length bx = true) (h : jgq (jpH bx.length rw.length v) t fun t' => Ok c x ⟨t', bx, rw⟩ q) : Ok c x ⟨t, bx ++ [[.v v]], rw⟩ q := by
 rw [jav] at h;exact jx2 (juS hn hrf) h
end
end Go.Proofs.YtfbifdccmabdbaaGreatDoor.Vm
namespace Go.Proofs.YtfbifdccmabdbaaGreatDoor.Vm
open Go.RowKit Go.Shelf
set_option linter.unusedSimpArgs false
set_option linter.unusedVariables false
set_option maxRecDepth 100000
theorem joe (k : Int) : Spec Tryz.prog 186 [] [intA k] fun _ r => r = .clo 187 [.pp [intA k]] := by
 refine jcT (ja4 jb4 xs0 0) (fun _ _ h => h) Tryz.func186 rfl (by kernel_rfl) rfl ?_;intro _;refine jbr (ja4 _ _ _) (by kernel_rfl) ?_;conv => whnf
 refine jqH (bx := []) (v := .int .i64 k) rfl rfl ?_;conv => whnf
 refine jaW (ja4 _ _ _) (by kernel_rfl) ?_;conv => whnf
 rfl
theorem jof (k : Int) : Spec Tryz.prog 188 [] [intA k] fun _ r => r = .clo 189 [.pp [intA k]] := by
 refine jcT (ja4 jb4 xs0 0) (fun _ _ h => h) Tryz.func188 rfl (by kernel_rfl) rfl ?_;intro _;refine jbr (ja4 _ _ _) (by kernel_rfl) ?_;conv => whnf
 refine jqH (bx := []) (v := .int .i64 k) rfl rfl ?_;conv => whnf
 refine jaW (ja4 _ _ _) (by kernel_rfl) ?_;conv => whnf
 rfl
def stmL : List (ByteArray × A) := [(wIf, .clo 190 []), (jcy, .clo 191 []), (jfj, .clo 192 []), (jbu, .clo 189 [.pp [intA 5]]), (jbt, .clo 189 [.pp [intA 6]]), (jfl, .clo 187 [.pp [intA 7]]), (jfk, .clo 187 [.pp [intA 10]]), (jcx, .clo 193 []), (wFail, .clo 194 [])]
def stmA : A := .mp (stmL.map fun p => .string p.1) (stmL.map (·.2))
theorem jdF : Spec Tryz.prog 173 [] [] fun _ r => r = stmA := by
 refine jcT (ja4 jb4 xs0 0) (fun _ _ h => h) Tryz.func173 rfl (by kernel_rfl) rfl ?_;intro _;refine jbr (ja4 _ _ _) (by kernel_rfl) ?_;conv => whnf
 refine jbr (ja4 _ _ _) (by kernel_rfl) ?_;conv => whnf
 refine jbr (ja4 _ _ _) (by kernel_rfl) ?_;conv => whnf
 refine jbr (ja4 _ _ _) (by kernel_rfl) ?_;conv => whnf
 have h5 := jof 5
 have h6 := jof 6
 have h7 := joe 7
 have h10 := joe 10
 (refine jaw [] rfl (fun _ => h5) ?_; rintro r rfl; conv => whnf)
 conv => whnf
 (refine jaw [] rfl (fun _ => h6) ?_; rintro r rfl; conv => whnf)
 conv => whnf
 (refine jaw [] rfl (fun _ => h7) ?_; rintro r rfl; conv => whnf)
 conv => whnf
 (refine jaw [] rfl (fun _ => h10) ?_; rintro r rfl; conv => whnf)
 conv => whnf
 refine jmq 0 ?_;conv => whnf
 refine jaW (ja4 _ _ _) (by kernel_rfl) ?_;conv => whnf
 rfl
def jlK (nm : List ByteArray) (lv : Int) (g : Nat) (caps : List A) (op : List Tk -> Pn) : Prop := ∀ ts, TkP ts -> SpecP Tryz.prog g [bxQ nm ts] ([.box 0 0, intA lv] ++ caps) (poQ nm (op ts)) (pnQ (op ts))
theorem jli (nm : List ByteArray) (lv k : Int) : jlK nm lv 187 [.pp [intA k]] fun ts => xpt jaO ts fun r => .ok (.mk k 0 eB []) r := fun ts h => by
 refine jt7 ?_
 obtain ⟨P, hP⟩ : ∃ P, (xpt jaO ts fun r => .ok (.mk k 0 eB []) r) = P := ⟨_, rfl⟩
 simp only
 rw [hP];unfold xpt at hP;refine jah (jao jb4 xs0 1 (fun ch _ => (pnQ P) ch)) (fun _ _ h => h) Tryz.func187 rfl (by kernel_rfl) rfl (by kernel_rfl) ?_;intro _;conv => whnf
 refine ja3 0 [] rfl rfl rfl rfl (fun _ => jae nm ts h.pos jaO) (fun ch bx' hp => ?_) ?_
 ·rw [if_neg (by rw [hp.1]; simp)] at hP;exact jad hP.symm hp.2
 rintro o r ⟨hx, ho, rfl⟩;cases ho;rw [if_pos hx] at hP;subst hP;conv => whnf
 exact ⟨rfl, _, rfl, jb1 (f := .mk k 0 eB []) rfl⟩
theorem jlj (nm : List ByteArray) (lv k : Int) : jlK nm lv 189 [.pp [intA k]] fun ts => jjL 8 ts fun n r => xpt jaO r fun r => .ok (.mk k n eB []) r := fun ts h => by
 refine jt7 ?_
 obtain ⟨P, hP⟩ : ∃ P, (jjL 8 ts fun n r => xpt jaO r fun r => .ok (.mk k n eB []) r) = P := ⟨_, rfl⟩
 simp only
 rw [hP]
 have hnum := jf4 nm ts h.pos 8
 unfold jjL at hP
 have htl := h.tail
 refine jah (jao jxd (fun _ => [0]) 1 (fun ch _ => (pnQ P) ch)) (fun _ _ h => h) Tryz.func189 rfl (by kernel_rfl) rfl (by kernel_rfl) ?_;intro _;conv => whnf
 unfold jhx;refine ⟨_, ?_, fun _ h => h⟩;conv => whnf
 refine ⟨?_, ?_⟩
 ·conv => whnf
  refine ja3 0 [] rfl rfl rfl rfl (fun _ => hnum) (fun ch bx' hp => ?_) ?_
  ·rcases hp with ⟨h1, h2⟩ | ⟨h1, h2, h3⟩
   ·rw [if_pos h1] at hP;exact jad hP.symm h2
   ·rw [if_neg (by rw [h1]; simp), if_pos h2] at hP;exact jad hP.symm h3
  rintro o r ⟨⟨h1, h2⟩, ho, rfl⟩;cases ho;rw [if_neg (by rw [h1]; simp), if_neg (by omega)] at hP
  obtain ⟨q1, q2⟩ := htl (by rw [h1]; decide)
  generalize ts.tail = ts1 at *;generalize (hd ts).n = n at *;conv => whnf
  simp only [xpt] at hP;refine ja3 0 [] rfl rfl rfl rfl (fun _ => jae nm ts1 q1.pos jaO) (fun ch bx' hp => ?_) ?_
  ·rw [if_neg (by rw [hp.1]; simp)] at hP;exact jad hP.symm hp.2
  rintro o r ⟨hx, ho, rfl⟩;cases ho;rw [if_pos hx] at hP;subst hP;conv => whnf
  exact ⟨rfl, _, rfl, jb1 (f := .mk k n eB []) rfl⟩
 ·conv => whnf
  refine ja3 0 [] rfl rfl rfl rfl (fun _ => hnum) (fun ch bx' hp => ?_) ?_
  ·rcases hp with ⟨h1, h2⟩ | ⟨h1, h2, h3⟩
   ·rw [if_pos h1] at hP;exact jad hP.symm h2
   ·rw [if_neg (by rw [h1]; simp), if_pos h2] at hP;exact jad hP.symm h3
  rintro o r ⟨⟨h1, h2⟩, ho, rfl⟩;cases ho;rw [if_neg (by rw [h1]; simp), if_neg (by omega)] at hP
  obtain ⟨q1, q2⟩ := htl (by rw [h1]; decide)
  generalize ts.tail = ts1 at *;generalize (hd ts).n = n at *;conv => whnf
  simp only [xpt] at hP;refine ja3 0 [] rfl rfl rfl rfl (fun _ => jae nm ts1 q1.pos jaO) (fun ch bx' hp => ?_) ?_
  ·rw [if_neg (by rw [hp.1]; simp)] at hP;exact jad hP.symm hp.2
  rintro o r ⟨hx, ho, rfl⟩;cases ho;rw [if_pos hx] at hP;subst hP;conv => whnf
  exact ⟨rfl, _, rfl, jb1 (f := .mk k n eB []) rfl⟩
theorem jsk {nm : List ByteArray} {lv : Int} {ex : List Tk -> Pn} (hex : jb8 nm 172 lv ex) (gex : jaS ex) : jlK nm lv 194 [] fun ts => (ex ts).andThen fun a r => xpt jaO r fun r => .ok (.mk 9 0 eB [a]) r := fun ts h => by
 obtain ⟨P, hP⟩ : ∃ P, ((ex ts).andThen fun a r => xpt jaO r fun r => .ok (.mk 9 0 eB [a]) r) = P := ⟨_, rfl⟩
 simp only
 rw [hP];refine jah (jao jb4 xs0 1 (fun ch _ => (pnQ P) ch)) (fun _ _ h => h) Tryz.func194 rfl (by kernel_rfl) rfl (by kernel_rfl) ?_;intro _;conv => whnf
 refine ja3 0 [] rfl rfl rfl rfl (fun _ => hex ts h) (fun ch bx' hp => ?_) ?_
 ·obtain ⟨x, e, he, hc⟩ := jaJ hp
  rw [he] at hP;exact jad hP.symm hc
 rintro o r hpo
 obtain ⟨f, r1, he, ho, rfl⟩ := jap hpo
 cases ho;rw [he] at hP;simp only [Pn.andThen, xpt] at hP
 obtain ⟨g1, l1⟩ := gex _ _ _ h he
 conv => whnf
 refine ja3 0 [] rfl rfl rfl rfl (fun _ => jae nm r1 g1.pos jaO) (fun ch bx' hp => ?_) ?_
 ·rw [if_neg (by rw [hp.1]; simp)] at hP;exact jad hP.symm hp.2
 rintro o r ⟨hx, ho, rfl⟩;cases ho;rw [if_pos hx] at hP;subst hP;conv => whnf
 exact ⟨rfl, by rw [jbP]; rfl⟩
theorem jrF {nm : List ByteArray} {lv : Int} {ex bl : List Tk -> Pn} (hlv : 0 <= lv /\ lv <= 20) (hex : jb8 nm 172 lv ex) (gex : jaS ex) (hbl : jb8 nm 136 (lv + 1) bl) (gbl : jaS bl) : jlK nm lv 191 [] fun ts => (ex ts).andThen fun c r => (bl r).andThen fun b r => .ok (.mk 3 0 eB [c, b]) r := fun ts h => by
 obtain ⟨P, hP⟩ : ∃ P, ((ex ts).andThen fun c r => (bl r).andThen fun b r => .ok (.mk 3 0 eB [c, b]) r) = P := ⟨_, rfl⟩
 simp only
 rw [hP];refine jah (jao jb4 xs0 1 (fun ch _ => (pnQ P) ch)) (fun _ _ h => h) Tryz.func191 rfl (by kernel_rfl) rfl (by kernel_rfl) ?_;intro _;conv => whnf
 refine ja3 0 [] rfl rfl rfl rfl (fun _ => hex ts h) (fun ch bx' hp => ?_) ?_
 ·obtain ⟨x, e, he, hc⟩ := jaJ hp
  rw [he] at hP;exact jad hP.symm hc
 rintro o r hpo
 obtain ⟨f, r1, he, ho, rfl⟩ := jap hpo
 cases ho;rw [he] at hP;simp only [Pn.andThen, xpt] at hP
 obtain ⟨g1, l1⟩ := gex _ _ _ h he
 conv => whnf
 refine ⟨jam (by omega), ?_⟩;conv => whnf
 refine ja3 0 [] rfl rfl rfl rfl (fun _ => hbl r1 g1) (fun ch bx' hp => ?_) ?_
 ·obtain ⟨x, e, he, hc⟩ := jaJ hp
  rw [he] at hP;exact jad hP.symm hc
 rintro o r hpo
 obtain ⟨f2, r2, he, ho, rfl⟩ := jap hpo
 cases ho;rw [he] at hP;simp only [Pn.andThen, xpt] at hP
 obtain ⟨g2, l2⟩ := gbl _ _ _ g1 he
 subst hP;conv => whnf
 exact ⟨rfl, by rw [jcC]; rfl⟩
theorem jdx (k n : Int) (s : ByteArray) (f g h : Nt) : ntA (.mk k n s [f, g, h]) = [intA k, intA n, jbn s, .sl 4 3 (ntA f ++ (ntA g ++ ntA h))] := by
 have e1 : ntA f ++ (ntA g ++ ntA h) = jdi [f, g, h] := by rw [jaT, jaT, jaT, jbq, List.append_nil]
 rw [e1]; rfl
theorem jr6 {nm : List ByteArray} {lv : Int} {ex : List Tk -> Pn} (hex : jb8 nm 172 lv ex) (gex : jaS ex) : jlK nm lv 193 [] fun ts => (ex ts).andThen fun a r => xpt jb2 r fun r => (ex r).andThen fun b r => xpt jaO r fun r => .ok (.mk 8 0 eB [a, b]) r := fun ts h => by
 obtain ⟨P, hP⟩ : ∃ P, ((ex ts).andThen fun a r => xpt jb2 r fun r => (ex r).andThen fun b r => xpt jaO r fun r => .ok (.mk 8 0 eB [a, b]) r) = P := ⟨_, rfl⟩
 simp only
 rw [hP];refine jah (jao jxf (fun _ => [0]) 1 (fun ch _ => (pnQ P) ch)) (fun _ _ h => h) Tryz.func193 rfl (by kernel_rfl) rfl (by kernel_rfl) ?_;intro _;conv => whnf
 refine ja3 0 [] rfl rfl rfl rfl (fun _ => hex ts h) (fun ch bx' hp => ?_) ?_
 ·obtain ⟨x, e, he, hc⟩ := jaJ hp
  rw [he] at hP;exact jad hP.symm hc
 rintro o r hpo
 obtain ⟨f, r1, he, ho, rfl⟩ := jap hpo
 cases ho;rw [he] at hP;simp only [Pn.andThen, xpt] at hP
 obtain ⟨g1, l1⟩ := gex _ _ _ h he
 conv => whnf
 refine ja3 0 [] rfl rfl rfl rfl (fun _ => jae nm r1 g1.pos jb2) (fun ch bx' hp => ?_) ?_
 ·rw [if_neg (by rw [hp.1]; simp)] at hP;exact jad hP.symm hp.2
 rintro o r ⟨hx, ho, rfl⟩;cases ho;rw [if_pos hx] at hP
 obtain ⟨q2, q3⟩ := g1.is hx
 generalize r1.tail = r2 at *;conv => whnf
 unfold jhx;refine ⟨_, ?_, fun _ h => h⟩;conv => whnf
 refine ⟨?_, ?_⟩
 ·conv => whnf
  refine ja3 0 [] rfl rfl rfl rfl (fun _ => hex r2 q2) (fun ch bx' hp => ?_) ?_
  ·obtain ⟨x, e, he, hc⟩ := jaJ hp
   rw [he] at hP;exact jad hP.symm hc
  rintro o r hpo
  obtain ⟨f2, r3, he, ho, rfl⟩ := jap hpo
  cases ho;rw [he] at hP;simp only [Pn.andThen, xpt] at hP
  obtain ⟨g3, l3⟩ := gex _ _ _ q2 he
  conv => whnf
  refine ⟨?_, ?_⟩
  ·conv => whnf
   refine ja3 0 [] rfl rfl rfl rfl (fun _ => jae nm r3 g3.pos jaO) (fun ch bx' hp => ?_) ?_
   ·rw [if_neg (by rw [hp.1]; simp)] at hP;exact jad hP.symm hp.2
   rintro o r ⟨hx, ho, rfl⟩;cases ho;rw [if_pos hx] at hP;subst hP;conv => whnf
   exact ⟨rfl, by rw [jcC]; rfl⟩
  ·conv => whnf
   refine ja3 0 [] rfl rfl rfl rfl (fun _ => jae nm r3 g3.pos jaO) (fun ch bx' hp => ?_) ?_
   ·rw [if_neg (by rw [hp.1]; simp)] at hP;exact jad hP.symm hp.2
   rintro o r ⟨hx, ho, rfl⟩;cases ho;rw [if_pos hx] at hP;subst hP;conv => whnf
   exact ⟨rfl, by rw [jcC]; rfl⟩
 ·conv => whnf
  refine ja3 0 [] rfl rfl rfl rfl (fun _ => hex r2 q2) (fun ch bx' hp => ?_) ?_
  ·obtain ⟨x, e, he, hc⟩ := jaJ hp
   rw [he] at hP;exact jad hP.symm hc
  rintro o r hpo
  obtain ⟨f2, r3, he, ho, rfl⟩ := jap hpo
  cases ho;rw [he] at hP;simp only [Pn.andThen, xpt] at hP
  obtain ⟨g3, l3⟩ := gex _ _ _ q2 he
  conv => whnf
  conv => whnf
  refine ja3 0 [] rfl rfl rfl rfl (fun _ => jae nm r3 g3.pos jaO) (fun ch bx' hp => ?_) ?_
  ·rw [if_neg (by rw [hp.1]; simp)] at hP;exact jad hP.symm hp.2
  rintro o r ⟨hx, ho, rfl⟩;cases ho;rw [if_pos hx] at hP;subst hP;conv => whnf
  exact ⟨rfl, by rw [jcC]; rfl⟩
set_option maxHeartbeats 1000000 in
theorem joz {nm : List ByteArray} {lv : Int} {ex bl : List Tk -> Pn} (hlv : 0 <= lv /\ lv <= 20) (hex : jb8 nm 172 lv ex) (gex : jaS ex) (hbl : jb8 nm 136 (lv + 1) bl) (gbl : jaS bl) : jlK nm lv 190 [] fun ts => (ex ts).andThen fun c r => (bl r).andThen fun b r => if isP jly r = true then (bl r.tail).andThen fun o r => .ok (.mk 2 0 eB [c, b, o]) r else .ok (.mk 2 0 eB [c, b, jeA []]) r := fun ts h => by
 refine jt7 ?_
 obtain ⟨P, hP⟩ : ∃ P, ((ex ts).andThen fun c r => (bl r).andThen fun b r => if isP jly r = true then (bl r.tail).andThen fun o r => .ok (.mk 2 0 eB [c, b, o]) r else .ok (.mk 2 0 eB [c, b, jeA []]) r) = P := ⟨_, rfl⟩
 simp only
 rw [hP];refine jah (jao jb4 xs0 1 (fun ch _ => (pnQ P) ch)) (fun _ _ h => h) Tryz.func190 rfl (by kernel_rfl) rfl (by kernel_rfl) ?_;intro _;conv => whnf
 refine ja3 0 [] rfl rfl rfl rfl (fun _ => hex ts h) (fun ch bx' hp => ?_) ?_
 ·obtain ⟨x, e, he, hc⟩ := jaJ hp
  rw [he] at hP;exact jad hP.symm hc
 rintro o r hpo
 obtain ⟨f, r1, he, ho, rfl⟩ := jap hpo
 cases ho;rw [he] at hP;simp only [Pn.andThen, xpt] at hP
 obtain ⟨g1, l1⟩ := gex _ _ _ h he
 conv => whnf
 refine ⟨jam (by omega), ?_⟩;conv => whnf
 refine ja3 0 [] rfl rfl rfl rfl (fun _ => hbl r1 g1) (fun ch bx' hp => ?_) ?_
 ·obtain ⟨x, e, he, hc⟩ := jaJ hp
  rw [he] at hP;exact jad hP.symm hc
 rintro o r hpo
 obtain ⟨f2, r2, he, ho, rfl⟩ := jap hpo
 cases ho;rw [he] at hP;simp only [Pn.andThen, xpt] at hP
 obtain ⟨g2, l2⟩ := gbl _ _ _ g1 he
 conv => whnf
 refine ja6 0 [] rfl rfl rfl rfl (fun _ => jct nm r2 g2.pos jly) ?_;rintro o r ⟨ho, rfl⟩;cases ho;conv => whnf
 cases hq : isP jly r2 with
 | true =>
  rw [if_pos hq] at hP
  obtain ⟨q2, q3⟩ := g2.is hq
  have hnx := jb9 nm r2 g2.pos
  generalize r2.tail = r3 at *;conv => whnf
  refine ja6 0 [] rfl rfl rfl rfl (fun _ => hnx) ?_;rintro o r ⟨ho, rfl⟩;cases ho;conv => whnf
  refine ⟨jam (by omega), ?_⟩;conv => whnf
  refine ja3 0 [] rfl rfl rfl rfl (fun _ => hbl r3 q2) (fun ch bx' hp => ?_) ?_
  ·obtain ⟨x, e, he, hc⟩ := jaJ hp
   rw [he] at hP;exact jad hP.symm hc
  rintro o r hpo
  obtain ⟨f3, r4, he, ho, rfl⟩ := jap hpo
  cases ho;rw [he] at hP;simp only [Pn.andThen, xpt] at hP
  obtain ⟨g4, l4⟩ := gbl _ _ _ q2 he
  subst hP;conv => whnf
  refine ⟨by omega, ?_⟩;conv => whnf
  exact jqR (p := .ok (.mk 2 0 eB [f, f2, f3]) r4) (show _ /\ _ from ⟨rfl, by rw [jdx]; rfl⟩)
 | false =>
  rw [if_neg (by rw [hq]; simp)] at hP;subst hP;conv => whnf
  refine ⟨rfl, _, rfl, ?_⟩;rw [jdx];exact .cons (.refl _) (.cons (.refl _) (.cons (.refl _) (.cons (.sl 4 3 (cs := ntA f ++ (ntA f2 ++ jxY (jeA []))) (WkL.app (WkL.refl (ntA f)) (WkL.app (WkL.refl (ntA f2)) (jb1 (f := jeA []) rfl)))) .nil)))
def jhh (ex : List Tk -> Pn) (n : Int) : Nat -> List Nt -> List Tk -> Pn
 | 0, l, ts => xpt jaO ts fun r => .ok (.mk 4 n eB l) r
 | k + 1, l, ts => xpt jb2 ts fun r => (ex r).andThen fun a r => jhh ex n k (l ++ [a]) r
set_option maxHeartbeats 1000000 in
theorem jt2 {nm : List ByteArray} {lv : Int} {ex : List Tk -> Pn} (hex : jb8 nm 172 lv ex) (gex : jaS ex) : jlK nm lv 192 [] fun ts => (ex ts).andThen fun t r => xpt jb2 r fun r => jjL 30 r fun n r => jhh ex n 2 [t] r := fun ts h => by
 obtain ⟨P, hP⟩ : ∃ P, ((ex ts).andThen fun t r => xpt jb2 r fun r => jjL 30 r fun n r => jhh ex n 2 [t] r) = P := ⟨_, rfl⟩
 simp only
 rw [hP];refine jah (jao jxe (fun _ => [0]) 1 (fun ch _ => (pnQ P) ch)) (fun _ _ h => h) Tryz.func192 rfl (by kernel_rfl) rfl (by kernel_rfl) ?_;intro _;conv => whnf
 refine ja3 0 [] rfl rfl rfl rfl (fun _ => hex ts h) (fun ch bx' hp => ?_) ?_
 ·obtain ⟨x, e, he, hc⟩ := jaJ hp
  rw [he] at hP;exact jad hP.symm hc
 rintro o r hpo
 obtain ⟨f, r1, he, ho, rfl⟩ := jap hpo
 cases ho;rw [he] at hP;simp only [Pn.andThen, xpt] at hP
 obtain ⟨g1, l1⟩ := gex _ _ _ h he
 conv => whnf
 refine ja3 0 [] rfl rfl rfl rfl (fun _ => jae nm r1 g1.pos jb2) (fun ch bx' hp => ?_) ?_
 ·rw [if_neg (by rw [hp.1]; simp)] at hP;exact jad hP.symm hp.2
 rintro o r ⟨hx, ho, rfl⟩;cases ho;rw [if_pos hx] at hP
 obtain ⟨q2, q3⟩ := g1.is hx
 generalize r1.tail = r2 at *;simp only [jjL] at hP;conv => whnf
 refine ja3 0 [] rfl rfl rfl rfl (fun _ => jf4 nm r2 q2.pos 30) (fun ch bx' hp => ?_) ?_
 ·rcases hp with ⟨h1, h2⟩ | ⟨h1, h2, h3⟩
  ·rw [if_pos h1] at hP;exact jad hP.symm h2
  ·rw [if_neg (by rw [h1]; simp), if_pos h2] at hP;exact jad hP.symm h3
 rintro o r ⟨⟨h1, h2⟩, ho, rfl⟩;cases ho;rw [if_neg (by rw [h1]; simp), if_neg (by omega)] at hP
 obtain ⟨q4, q5⟩ := q2.tail (by rw [h1]; decide)
 generalize r2.tail = r3 at *;generalize (hd r2).n = n at *;conv => whnf
 refine ja5 [0, 1, 4, 5] ?_;conv => whnf
 refine jaj (fun x : Nat × List Nt × List Tk => [(16, .v (.int .i64 x.1))]) (fun x => [bxQ nm x.2.2, jtu, [intA 4, intA n, jbn ⟨#[]⟩, .own 0]]) (fun x => [.live 65 4 x.2.1.length (jdi x.2.1)]) (fun x => TkP x.2.2 /\ x.1 <= 2 /\ x.2.1.length <= 1 + x.1 /\ jhh ex n (2 - x.1) x.2.1 x.2.2 = P) (fun x => 2 - x.1) (0, [f], r3) ?_ ⟨q4, by simp, by simp, hP⟩ ?_
 ·have e1 : jdi [f] = ntA f := by rw [jaT, jbq, List.append_nil]
  repeat' constructor
  show Row.live _ _ _ _ = Row.live _ 4 1 (jdi [f])
  rw [e1]; rfl
 rintro ⟨j, l, ts1⟩ ⟨g2, g3, g4, g5⟩
 simp only at g2 g3 g4 g5
 conv => whnf
 by_cases hj : j < 2
 ·rw [decide_eq_true (show (j : Int) < 2 by omega)]
  obtain ⟨m, hm⟩ : ∃ m, 2 - j = m + 1 := ⟨1 - j, by omega⟩
  rw [hm] at g5;simp only [jhh, xpt] at g5
  have hP := g5
  conv => whnf
  refine ja3 0 [] rfl rfl rfl rfl (fun _ => jae nm ts1 g2.pos jb2) (fun ch bx' hp => ?_) ?_
  ·rw [if_neg (by rw [hp.1]; simp)] at hP;exact jad hP.symm hp.2
  rintro o r ⟨hx, ho, rfl⟩;cases ho;rw [if_pos hx] at hP
  obtain ⟨q6, q7⟩ := g2.is hx
  generalize ts1.tail = ts2 at *;conv => whnf
  refine ja3 0 [] rfl rfl rfl rfl (fun _ => hex ts2 q6) (fun ch bx' hp => ?_) ?_
  ·obtain ⟨x, e, he, hc⟩ := jaJ hp
   rw [he] at hP;exact jad hP.symm hc
  rintro o r hpo
  obtain ⟨f2, r4, he, ho, rfl⟩ := jap hpo
  cases ho;rw [he] at hP;simp only [Pn.andThen, xpt] at hP
  obtain ⟨g6, l6⟩ := gex _ _ _ q6 he
  conv => whnf
  refine ⟨⟨by simp only; unfold maxLen; omega, by simp only; omega⟩, ?_⟩;conv => whnf
  refine ⟨jam (by omega), ?_⟩;conv => whnf
  refine ⟨(j + 1, l ++ [f2], r4), ja1 [0] ?_, ⟨g6, hj, by simp only [List.length_append, List.length_cons, List.length_nil]; omega, by simp only; rw [show 2 - (j + 1) = m by omega]; exact hP⟩, by simp only; omega⟩;conv => whnf
  repeat' constructor
  simp only [List.length_append, List.length_cons, List.length_nil];rw [jh0]; rfl
 ·rw [decide_eq_false (show ¬ (j : Int) < 2 by omega)];rw [show 2 - j = 0 by omega] at g5;simp only [jhh, xpt] at g5
  have hP := g5
  conv => whnf
  refine ja3 0 [] rfl rfl rfl rfl (fun _ => jae nm ts1 g2.pos jaO) (fun ch bx' hp => ?_) ?_
  ·rw [if_neg (by rw [hp.1]; simp)] at hP;exact jad hP.symm hp.2
  rintro o r ⟨hx, ho, rfl⟩;cases ho;rw [if_pos hx] at hP;subst hP;conv => whnf
  exact ⟨rfl, rfl⟩
def stK (ex bl : List Tk -> Pn) (w : ByteArray) (ts : List Tk) : Pn :=
 if w = wIf then (ex ts).andThen fun c r => (bl r).andThen fun b r => if isP jly r = true then (bl r.tail).andThen fun o r => .ok (.mk 2 0 eB [c, b, o]) r else .ok (.mk 2 0 eB [c, b, jeA []]) r
 else if w = jcy then (ex ts).andThen fun c r => (bl r).andThen fun b r => .ok (.mk 3 0 eB [c, b]) r
 else if w = jfj then (ex ts).andThen fun t r => xpt jb2 r fun r => jjL 30 r fun n r => jhh ex n 2 [t] r
 else if w = jbu then jjL 8 ts fun n r => xpt jaO r fun r => .ok (.mk 5 n eB []) r
 else if w = jbt then jjL 8 ts fun n r => xpt jaO r fun r => .ok (.mk 6 n eB []) r
 else if w = jfl then xpt jaO ts fun r => .ok (.mk 7 0 eB []) r
 else if w = jfk then xpt jaO ts fun r => .ok (.mk 10 0 eB []) r
 else if w = jcx then (ex ts).andThen fun a r => xpt jb2 r fun r => (ex r).andThen fun b r => xpt jaO r fun r => .ok (.mk 8 0 eB [a, b]) r
 else (ex ts).andThen fun a r => xpt jaO r fun r => .ok (.mk 9 0 eB [a]) r
set_option maxHeartbeats 2000000 in
theorem jtc {nm : List ByteArray} {lv : Int} {ex bl : List Tk -> Pn} (hlv : 0 <= lv /\ lv <= 20) (hex : jb8 nm 172 lv ex) (gex : jaS ex) (hbl : jb8 nm 136 (lv + 1) bl) (gbl : jaS bl) (ts : List Tk) (h : TkP ts) (P : Pn) (hn : jg8 ts = false)
  (hP : (if (hd ts).kind ≠ 1 then .bad (hd ts).pos 10 else stK ex bl (hd ts).text ts.tail) = P) (hw : (hd ts).text = wIf ∨ (hd ts).text = jcy ∨ (hd ts).text = jfj ∨ (hd ts).text = jbu ∨ (hd ts).text = jbt ∨ (hd ts).text = jfl ∨ (hd ts).text = jfk ∨ (hd ts).text = jcx ∨ (hd ts).text = wFail) : SpecP Tryz.prog 163 [bxQ nm ts] [.box 0 0, intA lv] (poQ nm P) (pnQ P) := by
 have hl := h.pos
 have hr := jde hl
 have hnm := jdV nm ts hl h.hd h.good.1
 rw [hn] at hnm
 have hnx := jb9 nm ts hl
 have hfl := jc1 nm ts hl 10
 have htl := h.tail
 have sIf := joz hlv hex gex hbl gbl
 have sWhile := jrF hlv hex gex hbl gbl
 have sSend := jt2 hex gex
 have sTimer := jlj nm lv 5
 have sCancel := jlj nm lv 6
 have sSync := jli nm lv 7
 have sStop := jli nm lv 10
 have sReply := jr6 hex gex
 have sFail := jsk hex gex
 refine jah (jao jqN (fun _ => [0]) 1 (fun ch _ => (pnQ P) ch)) (fun _ _ h => h) Tryz.func163 rfl (by kernel_rfl) rfl (by kernel_rfl) ?_;intro _;generalize hd ts = t at *;conv => whnf
 (refine goA ?_; try with_reducible exact trivial)
 (generalize hrq : ja2 _ _ (je6 ts) = rq; obtain rfl : rq = tkL t := hrq.symm.trans (hr); clear hrq; conv => whnf)
 refine ja6 0 [] rfl rfl rfl rfl (fun _ => hnm) ?_;rintro o r ⟨ho, rfl⟩;cases ho;conv => whnf
 refine jaw [] rfl (fun _ => jdF) ?_;rintro r rfl;conv => whnf
 unfold stK at hP
 by_cases g0 : t.text = wIf
 ·rw [show decide (t.text = (wIf, A.clo 190 []).fst) = true from decide_eq_true g0];rw [if_pos g0] at hP;conv => whnf
  by_cases hk : t.kind = 1
  ·rw [decide_eq_true hk];rw [if_neg (by rw [hk]; simp)] at hP
   obtain ⟨q1, q2⟩ := htl (by rw [hk]; decide)
   have hs := sIf ts.tail q1
   simp only at hs
   rw [hP] at hs;generalize ts.tail = r1 at *;conv => whnf
   refine ja6 0 [] rfl rfl rfl rfl (fun _ => hnx) ?_;rintro o r ⟨ho, rfl⟩;cases ho;conv => whnf
   refine ja3 0 [] rfl rfl rfl rfl (fun _ => hs) (fun ch bx' hp => hp) ?_;rintro o r hpo
   obtain ⟨f, r2, rfl, ho, rfl⟩ := jap hpo
   cases ho;conv => whnf
   exact ⟨rfl, rfl⟩
  ·rw [decide_eq_false hk];rw [if_pos hk] at hP;conv => whnf
   refine ja3 0 [] rfl rfl rfl rfl (fun _ => hfl) (fun ch bx' hp => jad hP.symm hp) ?_;rintro o r ⟨⟩
 rw [show decide (t.text = (wIf, A.clo 190 []).fst) = false from decide_eq_false g0];rw [if_neg g0] at hP;conv => whnf
 by_cases g1 : t.text = jcy
 ·rw [show decide (t.text = (jcy, A.clo 191 []).fst) = true from decide_eq_true g1];rw [if_pos g1] at hP;conv => whnf
  by_cases hk : t.kind = 1
  ·rw [decide_eq_true hk];rw [if_neg (by rw [hk]; simp)] at hP
   obtain ⟨q1, q2⟩ := htl (by rw [hk]; decide)
   have hs := sWhile ts.tail q1
   simp only at hs
   rw [hP] at hs;generalize ts.tail = r1 at *;conv => whnf
   refine ja6 0 [] rfl rfl rfl rfl (fun _ => hnx) ?_;rintro o r ⟨ho, rfl⟩;cases ho;conv => whnf
   refine ja3 0 [] rfl rfl rfl rfl (fun _ => hs) (fun ch bx' hp => hp) ?_;rintro o r hpo
   obtain ⟨f, r2, rfl, ho, rfl⟩ := jap hpo
   cases ho;conv => whnf
   exact ⟨rfl, rfl⟩
  ·rw [decide_eq_false hk];rw [if_pos hk] at hP;conv => whnf
   refine ja3 0 [] rfl rfl rfl rfl (fun _ => hfl) (fun ch bx' hp => jad hP.symm hp) ?_;rintro o r ⟨⟩
 rw [show decide (t.text = (jcy, A.clo 191 []).fst) = false from decide_eq_false g1];rw [if_neg g1] at hP;conv => whnf
 by_cases g2 : t.text = jfj
 ·rw [show decide (t.text = (jfj, A.clo 192 []).fst) = true from decide_eq_true g2];rw [if_pos g2] at hP;conv => whnf
  by_cases hk : t.kind = 1
  ·rw [decide_eq_true hk];rw [if_neg (by rw [hk]; simp)] at hP
   obtain ⟨q1, q2⟩ := htl (by rw [hk]; decide)
   have hs := sSend ts.tail q1
   simp only at hs
   rw [hP] at hs;generalize ts.tail = r1 at *;conv => whnf
   refine ja6 0 [] rfl rfl rfl rfl (fun _ => hnx) ?_;rintro o r ⟨ho, rfl⟩;cases ho;conv => whnf
   refine ja3 0 [] rfl rfl rfl rfl (fun _ => hs) (fun ch bx' hp => hp) ?_;rintro o r hpo
   obtain ⟨f, r2, rfl, ho, rfl⟩ := jap hpo
   cases ho;conv => whnf
   exact ⟨rfl, rfl⟩
  ·rw [decide_eq_false hk];rw [if_pos hk] at hP;conv => whnf
   refine ja3 0 [] rfl rfl rfl rfl (fun _ => hfl) (fun ch bx' hp => jad hP.symm hp) ?_;rintro o r ⟨⟩
 rw [show decide (t.text = (jfj, A.clo 192 []).fst) = false from decide_eq_false g2];rw [if_neg g2] at hP;conv => whnf
 by_cases g3 : t.text = jbu
 ·rw [show decide (t.text = (jbu, A.clo 189 [.pp [intA 5]]).fst) = true from decide_eq_true g3];rw [if_pos g3] at hP;conv => whnf
  by_cases hk : t.kind = 1
  ·rw [decide_eq_true hk];rw [if_neg (by rw [hk]; simp)] at hP
   obtain ⟨q1, q2⟩ := htl (by rw [hk]; decide)
   have hs := sTimer ts.tail q1
   simp only at hs
   rw [hP] at hs;generalize ts.tail = r1 at *;conv => whnf
   refine ja6 0 [] rfl rfl rfl rfl (fun _ => hnx) ?_;rintro o r ⟨ho, rfl⟩;cases ho;conv => whnf
   refine ja3 0 [] rfl rfl rfl rfl (fun _ => hs) (fun ch bx' hp => hp) ?_;rintro o r hpo
   obtain ⟨f, r2, rfl, ho, rfl⟩ := jap hpo
   cases ho;conv => whnf
   exact ⟨rfl, rfl⟩
  ·rw [decide_eq_false hk];rw [if_pos hk] at hP;conv => whnf
   refine ja3 0 [] rfl rfl rfl rfl (fun _ => hfl) (fun ch bx' hp => jad hP.symm hp) ?_;rintro o r ⟨⟩
 rw [show decide (t.text = (jbu, A.clo 189 [.pp [intA 5]]).fst) = false from decide_eq_false g3];rw [if_neg g3] at hP;conv => whnf
 by_cases g4 : t.text = jbt
 ·rw [show decide (t.text = (jbt, A.clo 189 [.pp [intA 6]]).fst) = true from decide_eq_true g4];rw [if_pos g4] at hP;conv => whnf
  by_cases hk : t.kind = 1
  ·rw [decide_eq_true hk];rw [if_neg (by rw [hk]; simp)] at hP
   obtain ⟨q1, q2⟩ := htl (by rw [hk]; decide)
   have hs := sCancel ts.tail q1
   simp only at hs
   rw [hP] at hs;generalize ts.tail = r1 at *;conv => whnf
   refine ja6 0 [] rfl rfl rfl rfl (fun _ => hnx) ?_;rintro o r ⟨ho, rfl⟩;cases ho;conv => whnf
   refine ja3 0 [] rfl rfl rfl rfl (fun _ => hs) (fun ch bx' hp => hp) ?_;rintro o r hpo
   obtain ⟨f, r2, rfl, ho, rfl⟩ := jap hpo
   cases ho;conv => whnf
   exact ⟨rfl, rfl⟩
  ·rw [decide_eq_false hk];rw [if_pos hk] at hP;conv => whnf
   refine ja3 0 [] rfl rfl rfl rfl (fun _ => hfl) (fun ch bx' hp => jad hP.symm hp) ?_;rintro o r ⟨⟩
 rw [show decide (t.text = (jbt, A.clo 189 [.pp [intA 6]]).fst) = false from decide_eq_false g4];rw [if_neg g4] at hP;conv => whnf
 by_cases g5 : t.text = jfl
 ·rw [show decide (t.text = (jfl, A.clo 187 [.pp [intA 7]]).fst) = true from decide_eq_true g5];rw [if_pos g5] at hP;conv => whnf
  by_cases hk : t.kind = 1
  ·rw [decide_eq_true hk];rw [if_neg (by rw [hk]; simp)] at hP
   obtain ⟨q1, q2⟩ := htl (by rw [hk]; decide)
   have hs := sSync ts.tail q1
   simp only at hs
   rw [hP] at hs;generalize ts.tail = r1 at *;conv => whnf
   refine ja6 0 [] rfl rfl rfl rfl (fun _ => hnx) ?_;rintro o r ⟨ho, rfl⟩;cases ho;conv => whnf
   refine ja3 0 [] rfl rfl rfl rfl (fun _ => hs) (fun ch bx' hp => hp) ?_;rintro o r hpo
   obtain ⟨f, r2, rfl, ho, rfl⟩ := jap hpo
   cases ho;conv => whnf
   exact ⟨rfl, rfl⟩
  ·rw [decide_eq_false hk];rw [if_pos hk] at hP;conv => whnf
   refine ja3 0 [] rfl rfl rfl rfl (fun _ => hfl) (fun ch bx' hp => jad hP.symm hp) ?_;rintro o r ⟨⟩
 rw [show decide (t.text = (jfl, A.clo 187 [.pp [intA 7]]).fst) = false from decide_eq_false g5];rw [if_neg g5] at hP;conv => whnf
 by_cases g6 : t.text = jfk
 ·rw [show decide (t.text = (jfk, A.clo 187 [.pp [intA 10]]).fst) = true from decide_eq_true g6];rw [if_pos g6] at hP;conv => whnf
  by_cases hk : t.kind = 1
  ·rw [decide_eq_true hk];rw [if_neg (by rw [hk]; simp)] at hP
   obtain ⟨q1, q2⟩ := htl (by rw [hk]; decide)
   have hs := sStop ts.tail q1
   simp only at hs
   rw [hP] at hs;generalize ts.tail = r1 at *;conv => whnf
   refine ja6 0 [] rfl rfl rfl rfl (fun _ => hnx) ?_;rintro o r ⟨ho, rfl⟩;cases ho;conv => whnf
   refine ja3 0 [] rfl rfl rfl rfl (fun _ => hs) (fun ch bx' hp => hp) ?_;rintro o r hpo
   obtain ⟨f, r2, rfl, ho, rfl⟩ := jap hpo
   cases ho;conv => whnf
   exact ⟨rfl, rfl⟩
  ·rw [decide_eq_false hk];rw [if_pos hk] at hP;conv => whnf
   refine ja3 0 [] rfl rfl rfl rfl (fun _ => hfl) (fun ch bx' hp => jad hP.symm hp) ?_;rintro o r ⟨⟩
 rw [show decide (t.text = (jfk, A.clo 187 [.pp [intA 10]]).fst) = false from decide_eq_false g6];rw [if_neg g6] at hP;conv => whnf
 by_cases g7 : t.text = jcx
 ·rw [show decide (t.text = (jcx, A.clo 193 []).fst) = true from decide_eq_true g7];rw [if_pos g7] at hP;conv => whnf
  by_cases hk : t.kind = 1
  ·rw [decide_eq_true hk];rw [if_neg (by rw [hk]; simp)] at hP
   obtain ⟨q1, q2⟩ := htl (by rw [hk]; decide)
   have hs := sReply ts.tail q1
   simp only at hs
   rw [hP] at hs;generalize ts.tail = r1 at *;conv => whnf
   refine ja6 0 [] rfl rfl rfl rfl (fun _ => hnx) ?_;rintro o r ⟨ho, rfl⟩;cases ho;conv => whnf
   refine ja3 0 [] rfl rfl rfl rfl (fun _ => hs) (fun ch bx' hp => hp) ?_;rintro o r hpo
   obtain ⟨f, r2, rfl, ho, rfl⟩ := jap hpo
   cases ho;conv => whnf
   exact ⟨rfl, rfl⟩
  ·rw [decide_eq_false hk];rw [if_pos hk] at hP;conv => whnf
   refine ja3 0 [] rfl rfl rfl rfl (fun _ => hfl) (fun ch bx' hp => jad hP.symm hp) ?_;rintro o r ⟨⟩
 rw [show decide (t.text = (jcx, A.clo 193 []).fst) = false from decide_eq_false g7];rw [if_neg g7] at hP;conv => whnf
 have g8 : t.text = wFail := by
  rcases hw with e | e | e | e | e | e | e | e | e <;> first | exact e | contradiction
 rw [show decide (t.text = (wFail, A.clo 194 []).fst) = true from decide_eq_true g8];conv => whnf
 by_cases hk : t.kind = 1
 ·rw [decide_eq_true hk];rw [if_neg (by rw [hk]; simp)] at hP
  obtain ⟨q1, q2⟩ := htl (by rw [hk]; decide)
  have hs := sFail ts.tail q1
  simp only at hs
  rw [hP] at hs;generalize ts.tail = r1 at *;conv => whnf
  refine ja6 0 [] rfl rfl rfl rfl (fun _ => hnx) ?_;rintro o r ⟨ho, rfl⟩;cases ho;conv => whnf
  refine ja3 0 [] rfl rfl rfl rfl (fun _ => hs) (fun ch bx' hp => hp) ?_;rintro o r hpo
  obtain ⟨f, r2, rfl, ho, rfl⟩ := jap hpo
  cases ho;conv => whnf
  exact ⟨rfl, rfl⟩
 ·rw [decide_eq_false hk];rw [if_pos hk] at hP;conv => whnf
  refine ja3 0 [] rfl rfl rfl rfl (fun _ => hfl) (fun ch bx' hp => jad hP.symm hp) ?_;rintro o r ⟨⟩
theorem jtb (nm : List ByteArray) (lv : Int) (ts : List Tk) (h : TkP ts) (hn : jg8 ts = false) (hw : ¬ ((hd ts).text = wIf ∨ (hd ts).text = jcy ∨ (hd ts).text = jfj ∨ (hd ts).text = jbu ∨ (hd ts).text = jbt ∨ (hd ts).text = jfl ∨ (hd ts).text = jfk ∨ (hd ts).text = jcx ∨ (hd ts).text = wFail)) : SpecP Tryz.prog 163 [bxQ nm ts] [.box 0 0, intA lv] (poQ nm (synE ts)) (pnQ (synE ts)) := by
 obtain ⟨P, hP⟩ : ∃ P, Pn.bad (hd ts).pos 10 = P := ⟨_, rfl⟩
 unfold synE;rw [hP]
 have hl := h.pos
 have hr := jde hl
 have hnm := jdV nm ts hl h.hd h.good.1
 rw [hn] at hnm
 have hfl := jc1 nm ts hl 10
 simp only [not_or] at hw
 obtain ⟨g0, g1, g2, g3, g4, g5, g6, g7, g8⟩ := hw
 refine jah (jao jqN (fun _ => [0]) 1 (fun ch _ => (pnQ P) ch)) (fun _ _ h => h) Tryz.func163 rfl (by kernel_rfl) rfl (by kernel_rfl) ?_;intro _;generalize hd ts = t at *;conv => whnf
 (refine goA ?_; try with_reducible exact trivial)
 (generalize hrq : ja2 _ _ (je6 ts) = rq; obtain rfl : rq = tkL t := hrq.symm.trans (hr); clear hrq; conv => whnf)
 refine ja6 0 [] rfl rfl rfl rfl (fun _ => hnm) ?_;rintro o r ⟨ho, rfl⟩;cases ho;conv => whnf
 refine jaw [] rfl (fun _ => jdF) ?_;rintro r rfl;conv => whnf
 rw [show decide (t.text = (wIf, A.clo 190 []).fst) = false from decide_eq_false g0];conv => whnf
 rw [show decide (t.text = (jcy, A.clo 191 []).fst) = false from decide_eq_false g1];conv => whnf
 rw [show decide (t.text = (jfj, A.clo 192 []).fst) = false from decide_eq_false g2];conv => whnf
 rw [show decide (t.text = (jbu, A.clo 189 [.pp [intA 5]]).fst) = false from decide_eq_false g3];conv => whnf
 rw [show decide (t.text = (jbt, A.clo 189 [.pp [intA 6]]).fst) = false from decide_eq_false g4];conv => whnf
 rw [show decide (t.text = (jfl, A.clo 187 [.pp [intA 7]]).fst) = false from decide_eq_false g5];conv => whnf
 rw [show decide (t.text = (jfk, A.clo 187 [.pp [intA 10]]).fst) = false from decide_eq_false g6];conv => whnf
 rw [show decide (t.text = (jcx, A.clo 193 []).fst) = false from decide_eq_false g7];conv => whnf
 rw [show decide (t.text = (wFail, A.clo 194 []).fst) = false from decide_eq_false g8];conv => whnf
 by_cases hk : t.kind = 1
 ·rw [decide_eq_true hk];conv => whnf
  refine ja3 0 [] rfl rfl rfl rfl (fun _ => hfl) (fun ch bx' hp => jad hP.symm hp) ?_;rintro o r ⟨⟩
 ·rw [decide_eq_false hk];conv => whnf
  refine ja3 0 [] rfl rfl rfl rfl (fun _ => hfl) (fun ch bx' hp => jad hP.symm hp) ?_;rintro o r ⟨⟩
theorem jpb {nm : List ByteArray} {lv : Int} {ex : List Tk -> Pn} (hex : jb8 nm 172 lv ex) (gex : jaS ex) (ts : List Tk) (h : TkP ts) (hn : jg8 ts = true) (P : Pn) (hP : (xpt pEq ts.tail fun r => (ex r).andThen fun e r => xpt jaO r fun r => .ok (.mk 1 0 (hd ts).text [e]) r) = P) : SpecP Tryz.prog 163 [bxQ nm ts] [.box 0 0, intA lv] (poQ nm P) (pnQ P) := by
 have hl := h.pos
 have hr := jde hl
 have hnm := jdV nm ts hl h.hd h.good.1
 rw [hn] at hnm
 have hnx := jb9 nm ts hl
 have hk1 : (hd ts).kind = 1 := by
  unfold jg8 at hn;simp only [Bool.and_eq_true, decide_eq_true_eq] at hn;exact hn.1
 obtain ⟨q1, q2⟩ := h.tail (by rw [hk1]; decide)
 simp only [xpt] at hP;refine jah (jao jqN (fun _ => [0]) 1 (fun ch _ => (pnQ P) ch)) (fun _ _ h => h) Tryz.func163 rfl (by kernel_rfl) rfl (by kernel_rfl) ?_;intro _;generalize hd ts = t at *;generalize ts.tail = r1 at *;conv => whnf
 (refine goA ?_; try with_reducible exact trivial)
 (generalize hrq : ja2 _ _ (je6 ts) = rq; obtain rfl : rq = tkL t := hrq.symm.trans (hr); clear hrq; conv => whnf)
 refine ja6 0 [] rfl rfl rfl rfl (fun _ => hnm) ?_;rintro o r ⟨ho, rfl⟩;cases ho;conv => whnf
 refine ja6 0 [] rfl rfl rfl rfl (fun _ => hnx) ?_;rintro o r ⟨ho, rfl⟩;cases ho;conv => whnf
 refine ja3 0 [] rfl rfl rfl rfl (fun _ => jae nm r1 q1.pos pEq) (fun ch bx' hp => ?_) ?_
 ·rw [if_neg (by rw [hp.1]; simp)] at hP;exact jad hP.symm hp.2
 rintro o r ⟨hx, ho, rfl⟩;cases ho;rw [if_pos hx] at hP
 obtain ⟨q4, q5⟩ := q1.is hx
 generalize r1.tail = r2 at *;conv => whnf
 unfold jhx;refine ⟨_, ?_, fun _ h => h⟩;conv => whnf
 refine ⟨?_, ?_⟩
 ·conv => whnf
  refine ja3 0 [] rfl rfl rfl rfl (fun _ => hex r2 q4) (fun ch bx' hp => ?_) ?_
  ·obtain ⟨x, e, he, hc⟩ := jaJ hp
   rw [he] at hP;exact jad hP.symm hc
  rintro o r hpo
  obtain ⟨f2, r3, he, ho, rfl⟩ := jap hpo
  cases ho;rw [he] at hP;simp only [Pn.andThen, xpt] at hP
  obtain ⟨g3, l3⟩ := gex _ _ _ q4 he
  conv => whnf
  refine ⟨?_, ?_⟩
  ·conv => whnf
   refine ja3 0 [] rfl rfl rfl rfl (fun _ => jae nm r3 g3.pos jaO) (fun ch bx' hp => ?_) ?_
   ·rw [if_neg (by rw [hp.1]; simp)] at hP;exact jad hP.symm hp.2
   rintro o r ⟨hx, ho, rfl⟩;cases ho;rw [if_pos hx] at hP;subst hP;conv => whnf
   exact ⟨rfl, by rw [jbP]; rfl⟩
  ·conv => whnf
   refine ja3 0 [] rfl rfl rfl rfl (fun _ => jae nm r3 g3.pos jaO) (fun ch bx' hp => ?_) ?_
   ·rw [if_neg (by rw [hp.1]; simp)] at hP;exact jad hP.symm hp.2
   rintro o r ⟨hx, ho, rfl⟩;cases ho;rw [if_pos hx] at hP;subst hP;conv => whnf
   exact ⟨rfl, by rw [jbP]; rfl⟩
 ·conv => whnf
  refine ja3 0 [] rfl rfl rfl rfl (fun _ => hex r2 q4) (fun ch bx' hp => ?_) ?_
  ·obtain ⟨x, e, he, hc⟩ := jaJ hp
   rw [he] at hP;exact jad hP.symm hc
  rintro o r hpo
  obtain ⟨f2, r3, he, ho, rfl⟩ := jap hpo
  cases ho;rw [he] at hP;simp only [Pn.andThen, xpt] at hP
  obtain ⟨g3, l3⟩ := gex _ _ _ q4 he
  conv => whnf
  conv => whnf
  refine ja3 0 [] rfl rfl rfl rfl (fun _ => jae nm r3 g3.pos jaO) (fun ch bx' hp => ?_) ?_
  ·rw [if_neg (by rw [hp.1]; simp)] at hP;exact jad hP.symm hp.2
  rintro o r ⟨hx, ho, rfl⟩;cases ho;rw [if_pos hx] at hP;subst hP;conv => whnf
  exact ⟨rfl, by rw [jbP]; rfl⟩
set_option maxHeartbeats 1000000 in
theorem jsa {nm : List ByteArray} {lv : Int} {st : List Tk -> Pn} (hlv : 0 <= lv /\ lv <= 20) (hst : jb8 nm 163 lv st) (gst : jaS st) (sst : ∀ ts f r, TkP ts -> st ts = .ok f r -> r.length < ts.length) : jb8 nm 136 lv (bkF st) := fun ts h => by
 obtain ⟨P, hP⟩ : ∃ P, bkF st ts = P := ⟨_, rfl⟩
 rw [hP]
 have hopen := jdW nm ts h.pos pLb lv
 simp only [bkF, xpt] at hP
 have hb0 := h.1.2
 refine jah (jao jtO (fun _ => [0]) 1 (fun ch _ => (pnQ P) ch)) (fun _ _ h => h) Tryz.func136 rfl (by kernel_rfl) rfl (by kernel_rfl) ?_;intro _;conv => whnf
 refine ja3 0 [] rfl rfl rfl rfl (fun _ => hopen) (fun ch bx' hp => ?_) ?_
 ·rcases hp with ⟨h1, h2, hp⟩ | ⟨h1, hp⟩
  ·omega
  ·rw [if_neg (by rw [h1]; simp)] at hP;exact jad hP.symm hp
 rintro o r ⟨⟨h1, h2⟩, ho, rfl⟩;cases ho;rw [if_pos h1] at hP
 obtain ⟨q1, q2⟩ := h.is h1
 generalize ts.tail = r1 at *;conv => whnf
 refine jbT 65 4 [] [(2, 3)] ?_;conv => whnf
 refine ⟨trivial, ?_⟩;conv => whnf
 refine ja5 [0, 1, 4, 5] ?_;conv => whnf
 refine jaj (fun _ : Nat × List Nt × List Tk => []) (fun x => [bxQ nm x.2.2, jtu, [intA 11, intA 0, jbn ⟨#[]⟩, .own 0]]) (fun x => [.live 65 4 x.2.1.length (jdi x.2.1)]) (fun x => TkP x.2.2 /\ x.2.2.length <= x.1 /\ x.2.1.length + x.2.2.length <= 1000001 /\ jph st x.1 x.2.1 x.2.2 = P) (fun x => x.2.2.length) (r1.length, [], r1) ?_ ⟨q1, Nat.le_refl _, by simp only [List.length_nil]; omega, hP⟩ ?_
 ·repeat' constructor
  show Row.live _ _ _ _ = Row.live _ 4 0 (jdi [])
  rw [jbq]
 rintro ⟨n, acc, ts1⟩ ⟨g1, g2, g3, g5⟩
 simp only at g1 g2 g3 g5
 obtain ⟨m, rfl⟩ : ∃ m, n = m + 1 := ⟨n - 1, by have := g1.pos; omega⟩
 rw [jph] at g5;conv => whnf
 refine ja6 0 [] rfl rfl rfl rfl (fun _ => jct nm ts1 g1.pos pRb) ?_;rintro o r ⟨ho, rfl⟩;cases ho;conv => whnf
 cases hq : isP pRb ts1 with
 | false =>
  rw [if_neg (by rw [hq]; simp)] at g5
  have hP := g5
  conv => whnf
  refine ja3 0 [] rfl rfl rfl rfl (fun _ => hst ts1 g1) (fun ch bx' hp => ?_) ?_
  ·obtain ⟨x, e, he, hc⟩ := jaJ hp
   rw [he] at hP;exact jad hP.symm hc
  rintro o r hpo
  obtain ⟨f2, r2, he, ho, rfl⟩ := jap hpo
  cases ho;rw [he] at hP;simp only [Pn.andThen] at hP
  obtain ⟨g6, l6⟩ := gst _ _ _ g1 he
  have hlt := sst _ _ _ g1 he
  conv => whnf
  refine ⟨⟨by simp only; unfold maxLen; omega, by simp only; omega⟩, ?_⟩;conv => whnf
  refine ⟨(m, acc ++ [f2], r2), ja1 [0] ?_, ⟨g6, by simp only; omega, by simp only [List.length_append, List.length_cons, List.length_nil]; omega, hP⟩, by simp only; omega⟩;conv => whnf
  repeat' constructor
  simp only [List.length_append, List.length_cons, List.length_nil];rw [jh0]; rfl
 | true =>
  rw [if_pos hq] at g5
  have hnx := jb9 nm ts1 g1.pos
  subst g5;conv => whnf
  refine ja6 0 [] rfl rfl rfl rfl (fun _ => hnx) ?_;rintro o r ⟨ho, rfl⟩;cases ho;conv => whnf
  exact ⟨rfl, rfl⟩
theorem joy (nm : List ByteArray) : jb8 nm 136 21 bkN := fun ts h => by
 obtain ⟨P, hP⟩ : ∃ P, bkN ts = P := ⟨_, rfl⟩
 rw [hP]
 have hopen := jdW nm ts h.pos pLb 21
 unfold bkN at hP;refine jah (jao jtO (fun _ => [0]) 1 (fun ch _ => (pnQ P) ch)) (fun _ _ h => h) Tryz.func136 rfl (by kernel_rfl) rfl (by kernel_rfl) ?_;intro _;conv => whnf
 refine ja3 0 [] rfl rfl rfl rfl (fun _ => hopen) (fun ch bx' hp => ?_) ?_
 ·rcases hp with ⟨h1, h2, hp⟩ | ⟨h1, hp⟩
  ·rw [if_pos h1] at hP;exact jad hP.symm hp
  ·rw [if_neg (by rw [h1]; simp)] at hP;exact jad hP.symm hp
 rintro o r ⟨⟨h1, h2⟩, ho, rfl⟩;exact absurd h2 (by decide)
theorem jta (ex bl : List Tk -> Pn) (ts : List Tk) (hn : jg8 ts = false) (hw : (hd ts).text = wIf ∨ (hd ts).text = jcy ∨ (hd ts).text = jfj ∨ (hd ts).text = jbu ∨ (hd ts).text = jbt ∨ (hd ts).text = jfl ∨ (hd ts).text = jfk ∨ (hd ts).text = jcx ∨ (hd ts).text = wFail) :
  (if (hd ts).kind ≠ 1 then .bad (hd ts).pos 10 else stK ex bl (hd ts).text ts.tail) = stG ex bl ts := by
 unfold stG stK;rw [if_neg (show ¬ jg8 ts = true by rw [hn]; simp)]
 by_cases hk : (hd ts).kind ≠ 1
 ·rw [if_pos hk, if_pos hk]; rfl
 ·rw [if_neg hk, if_neg hk]
  rcases hw with e | e | e | e | e | e | e | e | e <;> rw [e] <;> rfl
theorem jt9 (ex bl : List Tk -> Pn) (ts : List Tk) (hn : jg8 ts = false) (hw : ¬ ((hd ts).text = wIf ∨ (hd ts).text = jcy ∨ (hd ts).text = jfj ∨ (hd ts).text = jbu ∨ (hd ts).text = jbt ∨ (hd ts).text = jfl ∨ (hd ts).text = jfk ∨ (hd ts).text = jcx ∨ (hd ts).text = wFail)) : stG ex bl ts = synE ts := by
 simp only [not_or] at hw
 obtain ⟨g0, g1, g2, g3, g4, g5, g6, g7, g8⟩ := hw
 unfold stG;rw [if_neg (show ¬ jg8 ts = true by rw [hn]; simp), if_neg g0, if_neg g1, if_neg g2, if_neg g3, if_neg g4, if_neg g5, if_neg g7, if_neg g8, if_neg g6]
 split <;> rfl
theorem jhN {nm : List ByteArray} {lv : Int} {ex bl : List Tk -> Pn} (hlv : 0 <= lv /\ lv <= 20) (hex : jb8 nm 172 lv ex) (gex : jaS ex) (hbl : jb8 nm 136 (lv + 1) bl) (gbl : jaS bl) : jb8 nm 163 lv (stG ex bl) := fun ts h => by
 cases hn : jg8 ts with
 | true => exact jpb hex gex ts h hn _ (by unfold stG; rw [hn, if_pos rfl])
 | false =>
  by_cases hw : (hd ts).text = wIf ∨ (hd ts).text = jcy ∨ (hd ts).text = jfj ∨ (hd ts).text = jbu ∨ (hd ts).text = jbt ∨ (hd ts).text = jfl ∨ (hd ts).text = jfk ∨ (hd ts).text = jcx ∨ (hd ts).text = wFail
  ·exact jtc hlv hex gex hbl gbl ts h _ hn (jta ex bl ts hn hw) hw
  ·rw [jt9 ex bl ts hn hw];exact jtb nm lv ts h hn hw
def GoesS (op : List Tk -> Pn) : Prop := ∀ ts f r, TkP ts -> op ts = .ok f r -> TkP r /\ r.length < ts.length
theorem GoesS.goes {op : List Tk -> Pn} (h : GoesS op) : jaS op := fun ts f r k e => ⟨(h ts f r k e).1, Nat.le_of_lt (h ts f r k e).2⟩
theorem jmp {lim : Int} {ts : List Tk} {k : Int -> List Tk -> Pn} {f : Nt} {r : List Tk} (h : jjL lim ts k = .ok f r) : (hd ts).kind = 2 /\ k (hd ts).n ts.tail = .ok f r := by
 unfold jjL at h
 split at h
 ·cases h
 ·split at h
  ·cases h
  ·rename_i h1 h2
   exact ⟨Decidable.not_not.1 h1, h⟩
theorem jcM {ts : List Tk} (h : jg8 ts = true) : (hd ts).kind = 1 := by
 have h2 : (decide ((hd ts).kind = 1) && !(keyL ++ builtL).any fun s => decide ((hd ts).text = s)) = true := h
 exact of_decide_eq_true (Bool.and_eq_true_iff.1 h2).1
theorem jdc {c : Prop} [Decidable c] {a b x : Pn} (h : (if c then a else b) = x) : (c /\ a = x) ∨ (¬ c /\ b = x) := by
 by_cases hc : c
 ·rw [if_pos hc] at h; exact .inl ⟨hc, h⟩
 ·rw [if_neg hc] at h; exact .inr ⟨hc, h⟩
theorem jj5 {ex bl : List Tk -> Pn} (gex : jaS ex) (gbl : jaS bl) : GoesS (stG ex bl) := fun ts f r h e => by
 unfold stG at e
 rcases jdc e with ⟨hn, e⟩ | ⟨hn, e⟩
 ·obtain ⟨q1, q2⟩ := h.tail (by rw [jcM hn]; decide)
  obtain ⟨i, e⟩ := jck e
  obtain ⟨g1, l1⟩ := q1.is i
  obtain ⟨_, _, i, e⟩ := jak e
  obtain ⟨g2, l2⟩ := gex _ _ _ g1 i
  obtain ⟨i, e⟩ := jck e
  obtain ⟨g3, l3⟩ := g2.is i
  cases e
  exact ⟨g3, by omega⟩
 rcases jdc e with ⟨hk, e⟩ | ⟨hk, e⟩
 ·cases e
 obtain ⟨q1, q2⟩ := h.tail (by rw [Decidable.not_not.1 hk]; decide)
 rcases jdc e with ⟨_, e⟩ | ⟨_, e⟩
 ·obtain ⟨_, _, i, e⟩ := jak e
  obtain ⟨g1, l1⟩ := gex _ _ _ q1 i
  obtain ⟨_, _, i, e⟩ := jak e
  obtain ⟨g2, l2⟩ := gbl _ _ _ g1 i
  rcases jdc e with ⟨hs, e⟩ | ⟨hs, e⟩
  ·obtain ⟨g3, l3⟩ := g2.is hs
   obtain ⟨_, _, i, e⟩ := jak e
   obtain ⟨g4, l4⟩ := gbl _ _ _ g3 i
   cases e
   exact ⟨g4, by omega⟩
  ·cases e
   exact ⟨g2, by omega⟩
 rcases jdc e with ⟨_, e⟩ | ⟨_, e⟩
 ·obtain ⟨_, _, i, e⟩ := jak e
  obtain ⟨g1, l1⟩ := gex _ _ _ q1 i
  obtain ⟨_, _, i, e⟩ := jak e
  obtain ⟨g2, l2⟩ := gbl _ _ _ g1 i
  cases e
  exact ⟨g2, by omega⟩
 rcases jdc e with ⟨_, e⟩ | ⟨_, e⟩
 ·obtain ⟨_, _, i, e⟩ := jak e
  obtain ⟨g1, l1⟩ := gex _ _ _ q1 i
  obtain ⟨i, e⟩ := jck e
  obtain ⟨g2, l2⟩ := g1.is i
  obtain ⟨i, e⟩ := jmp e
  obtain ⟨g3, l3⟩ := g2.tail (by rw [i]; decide)
  obtain ⟨i, e⟩ := jck e
  obtain ⟨g4, l4⟩ := g3.is i
  obtain ⟨_, _, i, e⟩ := jak e
  obtain ⟨g5, l5⟩ := gex _ _ _ g4 i
  obtain ⟨i, e⟩ := jck e
  obtain ⟨g6, l6⟩ := g5.is i
  obtain ⟨_, _, i, e⟩ := jak e
  obtain ⟨g7, l7⟩ := gex _ _ _ g6 i
  obtain ⟨i, e⟩ := jck e
  obtain ⟨g8, l8⟩ := g7.is i
  cases e
  exact ⟨g8, by omega⟩
 rcases jdc e with ⟨_, e⟩ | ⟨_, e⟩
 ·obtain ⟨i, e⟩ := jmp e
  obtain ⟨g3, l3⟩ := q1.tail (by rw [i]; decide)
  obtain ⟨i, e⟩ := jck e
  obtain ⟨g4, l4⟩ := g3.is i
  cases e
  exact ⟨g4, by omega⟩
 rcases jdc e with ⟨_, e⟩ | ⟨_, e⟩
 ·obtain ⟨i, e⟩ := jmp e
  obtain ⟨g3, l3⟩ := q1.tail (by rw [i]; decide)
  obtain ⟨i, e⟩ := jck e
  obtain ⟨g4, l4⟩ := g3.is i
  cases e
  exact ⟨g4, by omega⟩
 rcases jdc e with ⟨_, e⟩ | ⟨_, e⟩
 ·obtain ⟨i, e⟩ := jck e
  obtain ⟨g4, l4⟩ := q1.is i
  cases e
  exact ⟨g4, by omega⟩
 rcases jdc e with ⟨_, e⟩ | ⟨_, e⟩
 ·obtain ⟨_, _, i, e⟩ := jak e
  obtain ⟨g1, l1⟩ := gex _ _ _ q1 i
  obtain ⟨i, e⟩ := jck e
  obtain ⟨g2, l2⟩ := g1.is i
  obtain ⟨_, _, i, e⟩ := jak e
  obtain ⟨g3, l3⟩ := gex _ _ _ g2 i
  obtain ⟨i, e⟩ := jck e
  obtain ⟨g4, l4⟩ := g3.is i
  cases e
  exact ⟨g4, by omega⟩
 rcases jdc e with ⟨_, e⟩ | ⟨_, e⟩
 ·obtain ⟨_, _, i, e⟩ := jak e
  obtain ⟨g1, l1⟩ := gex _ _ _ q1 i
  obtain ⟨i, e⟩ := jck e
  obtain ⟨g2, l2⟩ := g1.is i
  cases e
  exact ⟨g2, by omega⟩
 rcases jdc e with ⟨_, e⟩ | ⟨_, e⟩
 ·obtain ⟨i, e⟩ := jck e
  obtain ⟨g4, l4⟩ := q1.is i
  cases e
  exact ⟨g4, by omega⟩
 ·cases e
theorem jkj {st : List Tk -> Pn} (gst : GoesS st) : ∀ (n : Nat) (acc : List Nt) (ts : List Tk) (f : Nt) (r : List Tk), TkP ts -> jph st n acc ts = .ok f r -> TkP r /\ r.length <= ts.length
 | 0, acc, ts, f, r, h, e => by cases e
 | n + 1, acc, ts, f, r, h, e => by
  rw [jph] at e
  split at e
  ·rename_i hs
   obtain ⟨g1, l1⟩ := h.is hs
   cases e
   exact ⟨g1, by omega⟩
  ·obtain ⟨_, _, i, e⟩ := jak e
   obtain ⟨g1, l1⟩ := gst _ _ _ h i
   obtain ⟨g2, l2⟩ := jkj gst n _ _ _ _ g1 e
   exact ⟨g2, by omega⟩
theorem jq7 {st : List Tk -> Pn} (gst : GoesS st) : GoesS (bkF st) := fun ts f r h e => by
 unfold bkF at e
 obtain ⟨i, e⟩ := jck e
 obtain ⟨g1, l1⟩ := h.is i
 obtain ⟨g2, l2⟩ := jkj gst _ _ _ _ _ g1 e
 exact ⟨g2, by omega⟩
theorem jcJ {low : Option Pa} (hl : jjK low) : jaS (jxU low) := by
 cases low with
 | none =>
  intro ts f r h e
  have e2 : (if isP pLb ts = true then Pn.bad (hd ts).pos 2 else .bad (hd ts).pos 10) = .ok f r := e
  split at e2 <;> cases e2
 | some p => exact (hl p rfl).2.2.2
theorem jm9 {low : Option Pa} (hl : jjK low) : jjK (some (paG low)) := fun p hp => by
 cases hp
 exact ⟨jdO hl, jdP hl, jd1 hl, (jq7 (jj5 (jd1 hl) (jcJ hl))).goes⟩
theorem jkF {nm : List ByteArray} {lv : Int} {low : Option Pa} (h : LowQ nm lv low) : jb8 nm 136 (lv + 1) (jxU low) := by
 obtain ⟨h0, ⟨rfl, rfl⟩ | ⟨p, rfl, h1, a, b, c, d, e, f, g, i⟩⟩ := h
 ·exact joy nm
 ·exact i
theorem jnI {nm : List ByteArray} {lv : Int} {low : Option Pa} (h0 : 0 <= lv) (h1 : lv + 1 <= 20) (h : LowQ nm (lv + 1) low) : LowQ nm lv (some (paG low)) := by
 have hg := h.goes
 obtain ⟨a, b, c, d⟩ := jm9 hg _ rfl
 have hst := jhN (lv := lv + 1) ⟨by omega, h1⟩ (jkd h) (jd1 hg) (jkF h) (jcJ hg)
 have gst := jj5 (jd1 hg) (jcJ hg)
 exact ⟨h0, .inr ⟨_, rfl, h1, a, b, c, d, jnO h, jiB h, jkd h, jsa ⟨by omega, h1⟩ hst gst.goes fun ts f r k e => (gst ts f r k e).2⟩⟩
theorem jqP (nm : List ByteArray) : ∀ d : Nat, d <= 19 -> LowQ nm (19 - d) (some (pa d))
 | 0, _ => jnI (by decide) (by decide) ⟨by decide, .inl ⟨rfl, rfl⟩⟩
 | d + 1, h => by
  have ih := jqP nm d (by omega)
  refine jnI (by omega) (by omega) ?_;rw [show (19 - ((d + 1 : Nat) : Int) + 1) = 19 - (d : Int) by push_cast; omega];exact ih
theorem jlV (nm : List ByteArray) : jb8 nm 136 1 (pa 19).bl := jkF (jqP nm 19 (by decide))
theorem jgD : GoesS (pa 19).bl := by
 have h := (jqP [] 18 (by decide)).goes
 exact jq7 (jj5 (jd1 h) (jcJ h))
theorem jho (l : List ByteArray) (s : ByteArray) (hl : l.length <= 1000000) : Spec Tryz.prog 157 [] [.sl 1 l.length (txA l), jbn s] fun _ r => r = jcm (jdg l s) := by
 have hi := jfd l s hl
 refine ja8 (ja4 jb4 xs0 0) (fun _ _ h => h) Tryz.func157 rfl (by kernel_rfl) rfl (by kernel_rfl) ?_;intro _;conv => whnf
 refine jaw [] rfl (fun _ => hi) ?_;rintro r ⟨n, hn, hq, rfl⟩;conv => whnf
 rw [hq];rfl
def deH (n : Nat) (nm out : List ByteArray) (ts : List Tk) : Pd :=
 if isP jb2 ts = true then jk6 n nm out ts else if isP jaO ts = true then .ok nm out ts.tail else .bad (hd ts).pos 10
theorem jiZ (n : Nat) (nm out : List ByteArray) (ts : List Tk) : jk6 (n + 1) nm out ts =
  (if jg8 ts.tail = false then .bad (hd ts.tail).pos 10
  else if jdg nm (hd ts.tail).text = true then .bad (hd ts.tail).pos 4
  else if nm.length = 16 then .bad (hd ts.tail).pos 2
  else deH n (nm ++ [(hd ts.tail).text]) (out ++ [(hd ts.tail).text]) ts.tail.tail) := rfl
def pdQ (p : Pd) (ch : List PanicEntry) : Prop := match p with
 | .bad x e => ch = jaC x e
 | _ => False
theorem jh4 {p : Pd} {x e : Int} {ch : List PanicEntry} (h : p = .bad x e) (k : ch = jaC x e) : pdQ p ch := by subst h; exact k
def doQ (p : Pd) (o : List (List A)) (n : Nat) (cs : List A) (r : A) : Prop := match p with
 | .ok nm out ts => o = [bxN ts ++ [.own 0]] /\ n = nm.length /\ cs = txA nm /\ r = .sl 1 out.length (txA out)
 | _ => False
theorem jol (l : List ByteArray) (s : ByteArray) : txA (l ++ [s]) = txA l ++ [jbn s] := by unfold txA; rw [List.map_append]; rfl
set_option maxHeartbeats 1000000 in
theorem jka (nm : List ByteArray) (ts : List Tk) (h : TkP ts) (hk : (hd ts).kind ≠ 0) (hl16 : nm.length <= 16) :
  SpecRP Tryz.prog 133 [bxN ts ++ [.own 0]] 9 1 nm.length (txA nm) [.box 0 0] (doQ (jk6 ts.length nm [] ts)) (pdQ (jk6 ts.length nm [] ts)) := by
 obtain ⟨P, hP⟩ : ∃ P, jk6 ts.length nm [] ts = P := ⟨_, rfl⟩
 rw [hP]
 have hb0 := h.1.2
 refine jac (jao jb4 xs0 1 (fun ch _ => (pdQ P) ch)) (fun _ _ h => h) Tryz.func133 rfl (by kernel_rfl) rfl (by kernel_rfl) ?_;intro _;conv => whnf
 refine jbT 9 1 [3] [] ?_;conv => whnf
 refine ⟨trivial, ?_⟩;conv => whnf
 refine ja5 [0, 3] ?_;conv => whnf
 refine jaj (fun x : Nat × Bool × List ByteArray × List ByteArray × List Tk => [(4, .v (.bool x.2.1))]) (fun x => [bxN x.2.2.2.2 ++ [.own 0]]) (fun x => [.live 9 1 x.2.2.1.length (txA x.2.2.1), .live 9 1 x.2.2.2.1.length (txA x.2.2.2.1)])
  (fun x => TkP x.2.2.2.2 /\ x.2.2.2.2.length <= x.1 /\ x.2.2.1.length <= 16 /\ x.2.2.2.1.length + x.2.2.2.2.length <= 1000001 /\ (x.2.1 = true -> (hd x.2.2.2.2).kind ≠ 0 /\ jk6 x.1 x.2.2.1 x.2.2.2.1 x.2.2.2.2 = P) /\ (x.2.1 = false -> deH x.1 x.2.2.1 x.2.2.2.1 x.2.2.2.2 = P)) (fun x => x.2.2.2.2.length) (ts.length, true, nm, [], ts) ?_ ⟨h, Nat.le_refl _, hl16, by simp only [List.length_nil]; omega, fun _ => ⟨hk, hP⟩, fun e => by cases e⟩ ?_
 ·repeat' constructor
 rintro ⟨n0, b, nm1, out, ts0⟩ ⟨g1, g2, g3, g4, g5, g6⟩
 simp only at g1 g2 g3 g4 g5 g6
 conv => whnf
 cases b with
 | true =>
  obtain ⟨g7, hP⟩ := g5 rfl
  obtain ⟨n, rfl⟩ : ∃ n, n0 = n + 1 := ⟨n0 - 1, by have := g1.pos; omega⟩
  rw [jiZ] at hP
  obtain ⟨q1, q2⟩ := g1.tail g7
  have hnx := jip ts0 g1.pos
  have hp1 := q1.pos
  generalize hd ts0 = t0 at *;generalize ts0.tail = ts1 at *;conv => whnf
  refine jaH 0 0 2 [] rfl rfl rfl rfl rfl rfl rfl (fun _ => (hnx).rp rfl rfl _ _ _ _) (fun ch bx' hp => hp.elim) ?_;rintro o n' cs' r ⟨c, ho, rfl, rfl, rfl, rfl⟩;cases ho;conv => whnf
  have hnm := jqW ts1 hp1 q1.hd q1.good.1
  refine jaH 0 2 3 [] rfl rfl rfl rfl rfl rfl rfl (fun _ => (hnm).rp rfl rfl _ _ _ _) (fun ch bx' hp => hp.elim) ?_;rintro o n' cs' r ⟨c, ho, rfl, rfl, rfl, rfl⟩;cases ho;conv => whnf
  cases hn : jg8 ts1 with
  | false =>
   rw [if_pos hn] at hP;conv => whnf
   refine jaH 0 3 4 [] rfl rfl rfl rfl rfl rfl rfl (fun _ => (jg5 ts1 hp1 10).rp rfl rfl _ _ _ _) (fun ch bx' hp _ _ => jh4 hP.symm hp) ?_;rintro o n' cs' r ⟨c, ho, _, _, ⟨⟩⟩
  | true =>
   rw [if_neg (by rw [hn]; simp)] at hP
   have hr1 := jde hp1
   obtain ⟨q4, q5⟩ := q1.tail (by rw [jcM hn]; decide)
   have hnx2 := jip ts1 hp1
   have hz1 := q1.good.1
   generalize hts2 : ts1.tail = ts2 at *;generalize ht1 : hd ts1 = t1 at *
   have hct := jho nm1 t1.text (by omega)
   conv => whnf
   (refine goA ?_; try with_reducible exact trivial)
   (generalize hrq : ja2 _ _ (je6 ts1) = rq; obtain rfl : rq = tkL t1 := hrq.symm.trans (hr1); clear hrq; conv => whnf)
   refine jwm [3] rfl (fun _ => hct) ?_;rintro r rfl;refine ⟨_, rfl, ?_⟩;conv => whnf
   cases hh : jdg nm1 t1.text with
   | true =>
    rw [if_pos hh] at hP;rw [<- ht1] at hP;conv => whnf
    refine jaH 0 3 4 [] rfl rfl rfl rfl rfl rfl rfl (fun _ => (jg5 ts1 hp1 4).rp rfl rfl _ _ _ _) (fun ch bx' hp _ _ => jh4 hP.symm hp) ?_;rintro o n' cs' r ⟨c, ho, _, _, ⟨⟩⟩
   | false =>
    rw [if_neg (by rw [hh]; simp)] at hP;conv => whnf
    by_cases h16 : nm1.length = 16
    ·rw [decide_eq_true (show (nm1.length : Int) = 16 by omega)];rw [if_pos h16] at hP;rw [<- ht1] at hP;conv => whnf
     refine jaH 0 3 4 [] rfl rfl rfl rfl rfl rfl rfl (fun _ => (jg5 ts1 hp1 2).rp rfl rfl _ _ _ _) (fun ch bx' hp _ _ => jh4 hP.symm hp) ?_;rintro o n' cs' r ⟨c, ho, _, _, ⟨⟩⟩
    ·rw [decide_eq_false (show ¬ (nm1.length : Int) = 16 by omega)];rw [if_neg h16] at hP;conv => whnf
     refine ⟨⟨by simp only; unfold maxLen; omega, by simp only; omega⟩, ?_⟩;conv => whnf
     refine ⟨⟨by simp only; unfold maxLen; omega, by simp only; omega⟩, ?_⟩;conv => whnf
     refine jaH 0 3 6 [] rfl rfl rfl rfl rfl rfl rfl (fun _ => (hnx2).rp rfl rfl _ _ _ _) (fun ch bx' hp => hp.elim) ?_;rintro o n' cs' r ⟨c, ho, rfl, rfl, rfl, rfl⟩;cases ho;conv => whnf
     refine ⟨(n, false, nm1 ++ [t1.text], out ++ [t1.text], ts2), ja1 [6, 1] ?_, ⟨q4, by simp only; omega, by simp only [List.length_append, List.length_cons, List.length_nil]; omega, by simp only [List.length_append, List.length_cons, List.length_nil]; omega, fun e => (by cases e), fun _ => hP⟩, by simp only; omega⟩;conv => whnf
     simp only [List.length_append, List.length_cons, List.length_nil, jol]
     repeat' constructor
 | false =>
  have hP := g6 rfl
  have hpos := g1.pos
  have hcm := jxX ts0 hpos jb2
  conv => whnf
  refine jaH 0 0 2 [] rfl rfl rfl rfl rfl rfl rfl (fun _ => (hcm).rp rfl rfl _ _ _ _) (fun ch bx' hp => hp.elim) ?_;rintro o n' cs' r ⟨c, ho, rfl, rfl, rfl, rfl⟩;cases ho;conv => whnf
  unfold deH at hP
  cases hq : isP jb2 ts0 with
  | true =>
   rw [if_pos hq] at hP
   obtain ⟨n, rfl⟩ : ∃ n, n0 = n + 1 := ⟨n0 - 1, by omega⟩
   rw [jiZ] at hP
   obtain ⟨q1, q2⟩ := g1.is hq
   have hnx := jip ts0 hpos
   have hp1 := q1.pos
   generalize hd ts0 = t0 at *;generalize ts0.tail = ts1 at *;conv => whnf
   refine jaH 0 2 3 [] rfl rfl rfl rfl rfl rfl rfl (fun _ => (hnx).rp rfl rfl _ _ _ _) (fun ch bx' hp => hp.elim) ?_;rintro o n' cs' r ⟨c, ho, rfl, rfl, rfl, rfl⟩;cases ho;conv => whnf
   have hnm := jqW ts1 hp1 q1.hd q1.good.1
   refine jaH 0 3 4 [] rfl rfl rfl rfl rfl rfl rfl (fun _ => (hnm).rp rfl rfl _ _ _ _) (fun ch bx' hp => hp.elim) ?_;rintro o n' cs' r ⟨c, ho, rfl, rfl, rfl, rfl⟩;cases ho;conv => whnf
   cases hn : jg8 ts1 with
   | false =>
    rw [if_pos hn] at hP;conv => whnf
    refine jaH 0 4 5 [] rfl rfl rfl rfl rfl rfl rfl (fun _ => (jg5 ts1 hp1 10).rp rfl rfl _ _ _ _) (fun ch bx' hp _ _ => jh4 hP.symm hp) ?_;rintro o n' cs' r ⟨c, ho, _, _, ⟨⟩⟩
   | true =>
    rw [if_neg (by rw [hn]; simp)] at hP
    have hr1 := jde hp1
    obtain ⟨q4, q5⟩ := q1.tail (by rw [jcM hn]; decide)
    have hnx2 := jip ts1 hp1
    have hz1 := q1.good.1
    generalize hts2 : ts1.tail = ts2 at *;generalize ht1 : hd ts1 = t1 at *
    have hct := jho nm1 t1.text (by omega)
    conv => whnf
    (refine goA ?_; try with_reducible exact trivial)
    (generalize hrq : ja2 _ _ (je6 ts1) = rq; obtain rfl : rq = tkL t1 := hrq.symm.trans (hr1); clear hrq; conv => whnf)
    refine jwm [4] rfl (fun _ => hct) ?_;rintro r rfl;refine ⟨_, rfl, ?_⟩;conv => whnf
    cases hh : jdg nm1 t1.text with
    | true =>
     rw [if_pos hh] at hP;rw [<- ht1] at hP;conv => whnf
     refine jaH 0 4 5 [] rfl rfl rfl rfl rfl rfl rfl (fun _ => (jg5 ts1 hp1 4).rp rfl rfl _ _ _ _) (fun ch bx' hp _ _ => jh4 hP.symm hp) ?_;rintro o n' cs' r ⟨c, ho, _, _, ⟨⟩⟩
    | false =>
     rw [if_neg (by rw [hh]; simp)] at hP;conv => whnf
     by_cases h16 : nm1.length = 16
     ·rw [decide_eq_true (show (nm1.length : Int) = 16 by omega)];rw [if_pos h16] at hP;rw [<- ht1] at hP;conv => whnf
      refine jaH 0 4 5 [] rfl rfl rfl rfl rfl rfl rfl (fun _ => (jg5 ts1 hp1 2).rp rfl rfl _ _ _ _) (fun ch bx' hp _ _ => jh4 hP.symm hp) ?_;rintro o n' cs' r ⟨c, ho, _, _, ⟨⟩⟩
     ·rw [decide_eq_false (show ¬ (nm1.length : Int) = 16 by omega)];rw [if_neg h16] at hP;conv => whnf
      refine ⟨⟨by simp only; unfold maxLen; omega, by simp only; omega⟩, ?_⟩;conv => whnf
      refine ⟨⟨by simp only; unfold maxLen; omega, by simp only; omega⟩, ?_⟩;conv => whnf
      refine jaH 0 4 7 [] rfl rfl rfl rfl rfl rfl rfl (fun _ => (hnx2).rp rfl rfl _ _ _ _) (fun ch bx' hp => hp.elim) ?_;rintro o n' cs' r ⟨c, ho, rfl, rfl, rfl, rfl⟩;cases ho;conv => whnf
      refine ⟨(n, false, nm1 ++ [t1.text], out ++ [t1.text], ts2), ja1 [7, 1] ?_, ⟨q4, by simp only; omega, by simp only [List.length_append, List.length_cons, List.length_nil]; omega, by simp only [List.length_append, List.length_cons, List.length_nil]; omega, fun e => (by cases e), fun _ => hP⟩, by simp only; omega⟩;conv => whnf
      simp only [List.length_append, List.length_cons, List.length_nil, jol]
      repeat' constructor
  | false =>
   rw [if_neg (by rw [hq]; simp)] at hP;conv => whnf
   refine jaH 0 2 3 [] rfl rfl rfl rfl rfl rfl rfl (fun _ => (jo1 ts0 hpos jaO).rp rfl rfl _ _ _ _) (fun ch bx' hp _ _ => ?_) ?_
   ·rw [if_neg (by rw [hp.1]; simp)] at hP;exact jh4 hP.symm hp.2
   rintro o n' cs' r ⟨c, ho, rfl, rfl, hs, rfl, rfl⟩;cases ho;rw [if_pos hs] at hP;subst hP;conv => whnf
   refine ⟨3, ?_⟩;conv => whnf
   exact ⟨rfl, rfl, rfl, rfl⟩
end Go.Proofs.YtfbifdccmabdbaaGreatDoor.Vm
namespace Go.Proofs.YtfbifdccmabdbaaGreatDoor.Vm
open Go.RowKit
set_option linter.unusedSimpArgs false
set_option linter.unusedVariables false
set_option linter.unusedSectionVars false
@[irreducible] def mkA (l : List (Int × A)) : List A := l.map fun p => .v (.int .i64 p.1)
@[irreducible] def mkV (l : List (Int × A)) : List Value := l.map fun p => .int .i64 p.1
@[irreducible] def mvA (l : List (Int × A)) : List A := l.map (·.2)
theorem juY : mkA [] = [] := by unfold mkA; rfl
theorem juZ : mvA [] = [] := by unfold mvA; rfl
theorem jab (l : List (Int × A)) {K : List Value -> Prop} (h : K (mkV l)) : jhC (mkA l) K := by
 unfold mkV at h;unfold mkA
 induction l generalizing K with
 | nil => exact h
 | cons p l ih =>
  rw [List.map_cons]
  show jhC (l.map _) fun r => K (.int .i64 p.1 :: r)
  exact ih (K := fun r => K (.int .i64 p.1 :: r)) h
def jbx (l : List (Int × A)) (k : Int) : Option A := (l.find? fun p => decide (k = p.1)).map (·.2)
theorem jaL (l : List (Int × A)) (k : Int) {K : A -> Prop} {n : Prop} (h : match jbx l k with | some a => K a | none => n) : jcB false (mkV l) (mvA l) (.int .i64 k) K n := by
 unfold mkV mvA
 induction l with
 | nil => exact h
 | cons p l ih =>
  rw [List.map_cons, List.map_cons]
  show ifK (decide (k = p.1)) (jbi p.2 K) (jcB false (l.map _) (l.map (·.2)) (.int .i64 k) K n)
  rw [ifK_iff]
  by_cases e : k = p.1
  ·refine ⟨fun _ => ?_, fun e2 => by rw [decide_eq_true e] at e2; cases e2⟩
   have : jbx (p :: l) k = some p.2 := by unfold jbx; rw [List.find?_cons_of_pos (by simpa using e)]; rfl
   rw [this] at h;exact force_iff.2 h
  ·refine ⟨fun e2 => absurd (of_decide_eq_true e2) e, fun _ => ih ?_⟩
   have : jbx (p :: l) k = jbx l k := by unfold jbx; rw [List.find?_cons_of_neg (by simpa using e)]
   rw [<- this]; exact h
theorem jkr {l : List (Int × A)} {k : Int} {x : A} {n : Nat} {K : List A -> List A -> Nat -> Prop} (hk : ∀ p ∈ l, k ≠ p.1) (h : K (mkA (l ++ [(k, x)])) (mvA (l ++ [(k, x)])) (n + 1)) : juL false (.int .i64 k) x (mkA l) (mvA l) n K := by
 unfold mkA mvA at h;unfold mkA mvA
 induction l generalizing K with
 | nil => exact h
 | cons p l ih =>
  rw [List.map_cons, List.map_cons]
  show ifK (decide (k = p.1)) _ (juL false (.int .i64 k) x (l.map _) (l.map (·.2)) n fun ks' vs' n' => K (.v (.int .i64 p.1) :: ks') (p.2 :: vs') n')
  rw [ifK_iff];refine ⟨fun e => absurd (of_decide_eq_true e) (hk p List.mem_cons_self), fun _ => ih (K := fun ks' vs' n' => K (.v (.int .i64 p.1) :: ks') (p.2 :: vs') n') (fun q hq => hk q (List.mem_cons_of_mem _ hq)) h⟩
section
mutual
def jqw : A -> Bool
 | .mp _ _ => false
 | .sl _ _ cs => jbU cs
 | .pp cs => jbU cs
 | .clo _ l => jbU l
 | .bm _ l => jbU l
 | .agg l => jbU l
 | .tup l => jbU l
 | _ => true
def jbU : List A -> Bool
 | [] => true
 | a :: r => jqw a && jbU r
end
theorem noMpL_iff : ∀ {l : List A}, jbU l = true ↔ ∀ a ∈ l, jqw a = true
 | [] => by unfold jbU; simp
 | a :: r => by
  unfold jbU;rw [Bool.and_eq_true, noMpL_iff]; simp
theorem jqx {l : List A} (h : jbU l = true) : jbU (unH l) = true := by
 cases l with
 | nil => exact h
 | cons a l => cases a <;> exact h
def jw1 (D C : Rd) : Prop := ∀ b o u, D ⟨b, o, none⟩ = some u -> C ⟨b, o, none⟩ = some u
section
variable {D C : Rd} (hC : jw1 D C)
include hC
mutual
theorem jgs : ∀ (a : A) {β : List Nat} {ρ : List Value} {y : Value}, jqw a = true -> a.rep ⟨D, β, ρ⟩ y -> a.rep ⟨C, β, ρ⟩ y
 | .dead, _, _, _, _, h => by unfold A.rep; trivial
 | .v x, _, _, _, _, h => by unfold A.rep at h ⊢; exact h
 | .sl k n cs, _, _, _, hm, h => by
  unfold A.rep at h ⊢
  obtain ⟨h1, h2, p, b, off, cap, h3, h4, h6, h7, h8⟩ := h
  exact ⟨h1, h2, p, b, off, cap, h3, h4, h6, h7, jmn cs (by unfold jqw at hm; exact hm) h8⟩
 | .own g, _, _, _, _, h => by unfold A.rep at h ⊢; exact h
 | .orow g off, _, _, _, _, h => by unfold A.rep at h ⊢; exact h
 | .box i off, _, _, _, _, h => by unfold A.rep at h ⊢; exact h
 | .pp cs, _, _, _, hm, h => by
  unfold A.rep at h ⊢
  obtain ⟨b, off, h1, h2⟩ := h
  exact ⟨b, off, h1, jmn cs (by unfold jqw at hm; exact hm) h2⟩
 | .gp _ _, _, _, _, _, h => by unfold A.rep at h ⊢; exact h
 | .adr _, _, _, _, _, h => by unfold A.rep at h; exact h.elim
 | .err, _, _, _, _, h => by unfold A.rep at h ⊢; exact h
 | .num, _, _, _, _, h => by unfold A.rep at h ⊢; exact h
 | .clo f caps, _, _, _, hm, h => by
  unfold A.rep at h ⊢
  obtain ⟨us, h1, h2⟩ := h
  exact ⟨us, h1, jnL caps (by unfold jqw at hm; exact hm) h2⟩
 | .bm f fs, _, _, _, hm, h => by
  unfold A.rep at h ⊢
  obtain ⟨us, h1, h2⟩ := h
  exact ⟨us, h1, jnL fs (by unfold jqw at hm; exact hm) h2⟩
 | .mp ks vs, _, _, _, hm, h => by unfold jqw at hm; cases hm
 | .agg l, _, _, _, hm, h => by
  unfold A.rep at h ⊢
  obtain ⟨us, h1, h2⟩ := h
  exact ⟨us, h1, jqy l (by unfold jqw at hm; exact hm) h2⟩
 | .tup l, _, _, _, hm, h => by
  unfold A.rep at h ⊢
  obtain ⟨us, h1, h2⟩ := h
  exact ⟨us, h1, jnL l (by unfold jqw at hm; exact hm) h2⟩
theorem jmn : ∀ (l : List A) {β : List Nat} {ρ : List Value} {b off : Nat}, jbU l = true -> A.repAt l ⟨D, β, ρ⟩ b off -> A.repAt l ⟨C, β, ρ⟩ b off
 | [], _, _, _, _, _, _ => by unfold A.repAt; trivial
 | a :: ar, _, _, _, _, hm, h => by
  unfold jbU at hm;rw [Bool.and_eq_true] at hm;unfold A.repAt at h ⊢
  obtain ⟨⟨u, h1, h2, h3⟩, h4⟩ := h
  exact ⟨⟨u, hC _ _ _ h1, h2, jgs a hm.1 h3⟩, jmn ar hm.2 h4⟩
theorem jnL : ∀ (l : List A) {β : List Nat} {ρ : List Value} {us : List Value}, jbU l = true -> A.repL l ⟨D, β, ρ⟩ us -> A.repL l ⟨C, β, ρ⟩ us
 | [], _, _, _, _, h => by unfold A.repL at h ⊢; exact h
 | a :: ar, _, _, _, hm, h => by
  unfold jbU at hm;rw [Bool.and_eq_true] at hm;unfold A.repL at h ⊢
  obtain ⟨u, us', h1, h2, h3⟩ := h
  exact ⟨u, us', h1, jgs a hm.1 h2, jnL ar hm.2 h3⟩
theorem jqy : ∀ (l : List A) {β : List Nat} {ρ : List Value} {us : List Value}, jbU l = true -> A.repC l ⟨D, β, ρ⟩ us -> A.repC l ⟨C, β, ρ⟩ us
 | [], _, _, _, _, h => by unfold A.repC at h ⊢; exact h
 | a :: ar, _, _, _, hm, h => by
  unfold jbU at hm;rw [Bool.and_eq_true] at hm;unfold A.repC at h ⊢
  obtain ⟨u, us', h1, h2, h3, h4⟩ := h
  exact ⟨u, us', h1, h2, jgs a hm.1 h3, jqy ar hm.2 h4⟩
end
end
def joK : A -> A
 | .agg l => .agg (l.map fun _ => .dead)
 | _ => .dead
theorem jk8 {F : Env} : ∀ {us : List Value}, (∀ u ∈ us, u.oneCell' = true) -> ∀ {l : List A}, us.length = l.length -> A.repC (l.map fun _ => A.dead) F us
 | [], _, [], _ => by simp [A.repC]
 | u :: us, h, a :: l, hl => by
  rw [List.map_cons];unfold A.repC;exact ⟨u, us, rfl, h u List.mem_cons_self, A.rep_dead _ _, jk8 (fun v hv => h v (List.mem_cons_of_mem _ hv)) (by simpa using hl)⟩
 | [], _, _ :: _, hl => by simp at hl
 | _ :: _, _, [], hl => by simp at hl
theorem jqi {a : A} {E F : Env} {y : Value} (h : a.rep E y) : (joK a).rep F y := by
 cases a with
 | agg l =>
  unfold A.rep at h
  obtain ⟨us, h1, h2⟩ := h
  unfold joK A.rep;exact ⟨us, h1, jk8 (A.repC_one h2) (A.repC_len h2)⟩
 | _ => exact A.rep_dead _ _
theorem jkz {E F : Env} : ∀ {l : List A} {us : List Value}, A.repL l E us -> A.repL (l.map joK) F us
 | [], us, h => by unfold A.repL at h; subst h; simp [A.repL]
 | a :: r, us, h => by
  unfold A.repL at h
  obtain ⟨u, us', rfl, h2, h3⟩ := h
  rw [List.map_cons];unfold A.repL;exact ⟨u, us', rfl, jqi h2, jkz h3⟩
section
variable {P : Program} {pan : List PanicEntry -> S -> Prop} {Xr : Nat -> Bool} {f : Nat} {s : S} {K : A -> S -> Prop} {post : List (List A) -> A -> Prop}
theorem jwn (i g : Nat) {e n : Nat} {kA vs c0 c1 : List A} {ks : List Value} {pn : List PanicEntry -> Prop} (hX : Xr i = true) (hi : s.bx[i]? = some c0) (hg : s.rw[g]? = some (.live e 0 n [.clo 0 kA, .clo 0 vs])) (hkk : jhC kA fun l => l = ks) (h1 : jcb [i] s.rw c0 = some c1)
  (hs : SpecP P f [c1] [.box 0 0, .mp ks (vs.map joK)] post pn) (hno : ∀ o r, post o r -> (∀ c ∈ o, jbU c = true) /\ jqw r = true)
  (hpn : ∀ ch bx', pn ch -> bx'.length = s.bx.length -> (∀ j, j ≠ i -> bx'[j]? = s.bx[j]?) -> pan ch ⟨s.t, bx', s.rw⟩)
  (hk : ∀ o r, post [o] r -> joU [i] s.bx [i] [o] fun bx' => jbi (back [i] r) fun r' => jax s.rw fun rw' => jbv s bx' rw' (K r')) : jbJ P pan Xr f [.box i 0, .own g] s K := by
 unfold jbJ
 right; right; right; right; right
 refine ⟨hs.1, fun w0 C0 β0 E w vals hp hargs => ?_⟩
 have hil := (List.getElem?_eq_some_iff.1 hi).1
 unfold A.repL at hargs
 obtain ⟨v0, us0, rfl, hv0, hargs⟩ := hargs
 unfold A.repL at hargs
 obtain ⟨y, us1, rfl, hy, hargs⟩ := hargs
 unfold A.repL at hargs;subst hargs
 have hyg : E.ρ[g]? = some y := by unfold A.rep at hy; exact hy
 obtain ⟨r, es, c, us, rfl, hr, hn, hst, h2, hks, hvs⟩ := jjh hp hg hyg
 obtain ⟨ks', hke, hka⟩ := jgW hkk
 subst hke
 obtain ⟨hkeys, hok⟩ := hka E.per _ hks
 have hseeM : see w ⟨r, 0, some 0⟩ = some (.tuple #[.tuple ks'.toArray, .tuple us.toArray]) := by
  unfold see jei;simp only [hr];rw [if_pos hst]
  have q1 : es.map (·.key) = ks'.toArray := by
   apply Array.toList_inj.1
   rw [<- hkeys]; simp
  have q2 : es.map (·.val) = us.toArray := by
   apply Array.toList_inj.1
   rw [<- h2]; simp
  rw [q1, q2]
 have hlen : (vs.map joK).length = ks'.length := by
  rw [List.length_map, <- A.repL_len hvs, <- h2, <- hkeys]; simp
 have hno0 : ∀ o, see w ⟨r, o, none⟩ = none := fun o => by
  unfold see World.cell?
  simp [hr]
 have hcall := jiT (Cl := fun vals w1 R => w1 = w -> vals.toList[1]? = some (.map (some r)) -> Calls P f vals w R) (fun h k e1 e2 => Calls.mono (k e1 e2) fun e w' => h e w') (pan := pan) (pn := pn) (X := [i]) (ids := []) (ins := [c1]) (post := post) (Xr := Xr) (args := [.box i 0, .dead]) (args' := [.box 0 0, .dead]) (vs := [v0, .map (some r)]) (K := K) hp
  (by
   unfold A.repL;refine ⟨_, _, rfl, hv0, ?_⟩;unfold A.repL
   exact ⟨_, _, rfl, A.rep_dead _ _, by unfold A.repL; rfl⟩)
  (by simp) (by simpa using hX) (by simpa using hil)
  (by
   have : s.bx.getD i [] = c0 := by simp [List.getD_eq_getElem?_getD, hi]
   simp only [List.map_cons, List.map_nil, this]
   show jeu [i] s.rw [c0] = _
   simp only [jeu, h1])
  (by
   show jcb [i] s.rw [.box i 0, .dead] = _
   simp [jcb, ren, idx])
  (fun _ w1 C β vals1 g0 g1 g2 g3 g4 g5 g6 hw hv => ?_)
  (fun outs r' hp' hl => by
   obtain ⟨o, rfl⟩ : ∃ o, outs = [o] := List.length_eq_one_iff.1 (by simpa using hl)
   exact hk o r' hp')
  (fun ch bx' h h1 h2 => hpn ch bx' h h1 fun j hj => h2 j (by simpa using hj))
 ·exact hcall rfl rfl
 ·subst hw
  obtain ⟨b, rfl⟩ : ∃ b, β = [b] := List.length_eq_one_iff.1 g4.symm
  have hbr : b ≠ r := fun e => by
   obtain ⟨T, arr, hb, _⟩ := g5 0 b c1 rfl rfl
   rw [e, hr] at hb; cases hb
  obtain ⟨C1, hC1⟩ : ∃ C1 : Rd, C1 = fun ad => if ad.block = r then see w1 ad else C ad := ⟨_, rfl⟩
  have sub1 : Sub C C1 := fun ad u hc => by
   rw [hC1]
   simp only
   split
   ·exact g1 ad u hc
   ·exact hc
  have sub2 : Sub C1 (see w1) := fun ad u hc => by
   rw [hC1] at hc
   simp only at hc
   split at hc
   ·exact hc
   ·exact g1 ad u hc
  have hβ1 : ∀ b' ∈ [b], ∀ o sp, C1 ⟨b', o, sp⟩ = none := fun b' hb' o sp => by
   have e : b' = b := by simpa using hb'
   subst e;rw [hC1]
   simp only
   rw [if_neg hbr];exact g3 _ hb' o sp
  have le1 : (⟨C, [b], []⟩ : Env).le ⟨C1, [b], []⟩ := ⟨sub1, fun _ _ h => h, fun _ _ h => h⟩
  unfold A.repL at g6
  obtain ⟨p, l1, rfl, hp0, g6⟩ := g6
  unfold A.repL at g6
  obtain ⟨q, l2, rfl, -, g6⟩ := g6
  unfold A.repL at g6;subst g6
  obtain rfl : q = .map (some r) := by simpa using hv
  have tr : ∀ w', jw1 (jbc C1 w1 w') (jbc C w1 w') := fun w' b' o u hc => by
   unfold jbc at hc ⊢
   split
   ·rename_i hlt
    rw [if_pos hlt, hC1] at hc
    simp only at hc
    split at hc
    ·rename_i hbr2
     subst hbr2;rw [hno0] at hc; cases hc
    ·exact hc
   ·rename_i hlt
    rw [if_neg hlt] at hc;exact hc
  refine (hs.2 w1 C1 [b] [p, .map (some r)] (g0.mono sub1) sub2 g2 hβ1 g4 (fun j b' cs hj hcs => (g5 j b' cs hj hcs).mono le1) ?_).mono fun e' w' hh => ?_
  ·unfold A.repL;refine ⟨_, _, rfl, A.rep.mono _ le1 hp0, ?_⟩;unfold A.repL;refine ⟨_, _, rfl, ?_, by unfold A.repL; rfl⟩;unfold A.rep;refine ⟨r, us, rfl, ?_, hlen, jkz hvs, hok⟩;rw [hC1];simp only [if_true];exact hseeM
  ·rcases hh with ⟨outs, r', v, rfl, hpost, kp, k2, k3, k4⟩ | ⟨ch, ns, k1, k2, kp, k4, k5⟩
   ·obtain ⟨n1, n2⟩ := hno _ _ hpost
    refine .inl ⟨outs, r', v, rfl, hpost, kp, k2, fun j b' cs hj hcs => ?_, jgs (tr w') r' n2 k4⟩
    obtain ⟨T, arr, hh, hbc⟩ := k3 j b' cs hj hcs
    exact ⟨T, arr, hh, jqy (tr w') _ (jqx (n1 cs (List.mem_of_getElem? hcs))) hbc.1, hbc.2⟩
   ·refine .inr ⟨ch, ns, k1, k2, kp, k4, fun j b' n' hj hn' => ?_⟩
    obtain ⟨T, arr, hh, hbc⟩ := k5 j b' n' hj hn'
    exact ⟨T, arr, hh, .mk' (A.repC_mk (jcu (jj0 hbc.1)) (by
     have := A.repC_one hbc.1
     exact this))⟩
end
end
end Go.Proofs.YtfbifdccmabdbaaGreatDoor.Vm
namespace Go.Proofs.YtfbifdccmabdbaaGreatDoor.Vm
open Go.RowKit Go.Shelf
set_option linter.unusedSimpArgs false
set_option linter.unusedVariables false
set_option maxRecDepth 100000
def haA (h : Int × Nt) : Int × A := (h.1, .agg (intA h.1 :: ntA h.2))
def jfo (l : List (Int × Nt)) : List (Int × A) := l.map haA
def heF (hs : List (Int × Nt)) (ts : List Tk) : Ph := match hnF ts with
 | .bad x e => .bad x e
 | .ok k r => if hs.any (fun h => decide (h.1 = k)) = true then .bad (hd ts).pos 4 else .ok k r
def phQ (p : Ph) (ch : List PanicEntry) : Prop := match p with
 | .bad x e => ch = jaC x e
 | _ => False
theorem jf0 {p : Ph} {x e : Int} {ch : List PanicEntry} (h : p = .bad x e) (k : ch = jaC x e) : phQ p ch := by subst h; exact k
def hoQ (nm : List ByteArray) (p : Ph) (o : List (List A)) (r : A) : Prop := match p with
 | .ok k ts => o = [bxQ nm ts] /\ r = intA k
 | _ => False
def haD (h : Int × Nt) : Int × A := (h.1, .agg [.dead, .dead, .dead, .dead, .dead])
def jnq (l : List (Int × Nt)) : List (Int × A) := l.map haD
theorem jsE (l : List (Int × Nt)) : mkV (jnq l) = mkV (jfo l) := by
 unfold mkV jnq jfo;rw [List.map_map, List.map_map]; rfl
theorem jsG (l : List (Int × Nt)) : (mvA (jfo l)).map joK = mvA (jnq l) := by
 unfold mvA jnq jfo;rw [List.map_map, List.map_map, List.map_map]; rfl
theorem jeN (g : Int × Nt -> Int × A) (hg : ∀ h, (g h).1 = h.1) (hs : List (Int × Nt)) (k : Int) : (hs.any (fun h => decide (h.1 = k)) = true /\ ∃ h ∈ hs, h.1 = k /\ jbx (hs.map g) k = some (g h).2) ∨ (hs.any (fun h => decide (h.1 = k)) = false /\ jbx (hs.map g) k = none) := by
 induction hs with
 | nil => exact .inr ⟨rfl, rfl⟩
 | cons h l ih =>
  by_cases e : h.1 = k
  ·left
   refine ⟨by rw [List.any_cons, decide_eq_true e]; rfl, h, List.mem_cons_self, e, ?_⟩;unfold jbx;rw [List.map_cons, List.find?_cons_of_pos (p := fun p : Int × A => decide (k = p.1)) (show decide (k = (g h).1) = true from decide_eq_true (by rw [hg]; exact e.symm))]; rfl
  ·have hf : jbx ((h :: l).map g) k = jbx (l.map g) k := by
    unfold jbx;rw [List.map_cons, List.find?_cons_of_neg (p := fun p : Int × A => decide (k = p.1)) (show ¬ decide (k = (g h).1) = true by rw [decide_eq_false (fun e2 : k = (g h).1 => e (by rw [e2, hg]))]; simp)]
   rw [hf, List.any_cons, decide_eq_false e, Bool.false_or]
   rcases ih with ⟨h1, x, h2, h3, h4⟩ | ⟨h1, h2⟩
   ·exact .inl ⟨h1, x, List.mem_cons_of_mem _ h2, h3, h4⟩
   ·exact .inr ⟨h1, h2⟩
theorem jkI {α : Type} (f : α -> List A) (hf : ∀ x, jbU (f x) = true) (l : List α) : jbU (l.flatMap f) = true := by
 rw [noMpL_iff];intro a ha
 obtain ⟨x, _, hx⟩ := List.mem_flatMap.1 ha
 exact noMpL_iff.1 (hf x) a hx
theorem jsI (nm : List ByteArray) (ts : List Tk) : jbU (bxQ nm ts) = true := by
 have h1 : jbU (je6 ts) = true := jkI tkL (fun _ => rfl) ts
 have h2 : jbU (txA nm) = true := by
  unfold txA;rw [jnJ];exact jkI (fun x => [jbn x]) (fun _ => rfl) nm
 refine noMpL_iff.2 fun a ha => ?_
 rcases List.mem_cons.1 ha with rfl | ha
 ·exact h1
 ·rw [List.mem_singleton.1 ha]; exact h2
set_option maxHeartbeats 1000000 in
theorem jqf (nm : List ByteArray) (hs : List (Int × Nt)) (ts : List Tk) (h : TkP ts) :
  SpecP Tryz.prog 135 [bxQ nm ts] [.box 0 0, .mp (mkV (jnq hs)) (mvA (jnq hs))] (hoQ nm (heF hs ts)) (phQ (heF hs ts)) := by
 obtain ⟨P, hP⟩ : ∃ P, heF hs ts = P := ⟨_, rfl⟩
 rw [hP]
 have hpos := h.pos
 have his := fun s => jct nm ts hpos s
 have hnx := jb9 nm ts hpos
 have hfl := fun e => jc1 nm ts hpos e
 have hps := fun s (hs : isP s ts = true) => h.is hs
 unfold heF hnF at hP;refine jah (jao jb4 xs0 1 (fun ch _ => (phQ P) ch)) (fun _ _ h => h) Tryz.func135 rfl (by kernel_rfl) rfl (by kernel_rfl) ?_;intro _;conv => whnf
 refine ja6 0 [] rfl rfl rfl rfl (fun _ => his jiC) ?_;rintro o r ⟨ho, rfl⟩;cases ho;conv => whnf
 cases hq1 : isP jiC ts with
 | true =>
  rw [if_pos hq1] at hP
  simp only at hP
  obtain ⟨q1, q2⟩ := hps _ hq1
  conv => whnf
  refine ja6 0 [] rfl rfl rfl rfl (fun _ => hnx) ?_;rintro o r ⟨ho, rfl⟩;cases ho;conv => whnf
  refine jaL _ _ ?_
  rcases jeN haD (fun _ => rfl) hs (0) with ⟨hany, hx, hm, hek, hf⟩ | ⟨hany, hf⟩
  ·rw [show jbx (jnq hs) _ = _ from hf];rw [if_pos hany] at hP;conv => whnf
   refine ja3 0 [] rfl rfl rfl rfl (fun _ => hfl 4) (fun ch bx' hp => jf0 hP.symm hp) ?_;rintro o r ⟨⟩
  ·rw [show jbx (jnq hs) _ = _ from hf];rw [if_neg (by rw [hany]; simp)] at hP;subst hP;conv => whnf
   exact ⟨rfl, rfl⟩
 | false =>
  rw [if_neg (by rw [hq1]; simp)] at hP;conv => whnf
  refine ja6 0 [] rfl rfl rfl rfl (fun _ => his je9) ?_;rintro o r ⟨ho, rfl⟩;cases ho;conv => whnf
  cases hq2 : isP je9 ts with
  | true =>
   rw [if_pos hq2] at hP
   simp only at hP
   obtain ⟨q1, q2⟩ := hps _ hq2
   conv => whnf
   refine ja6 0 [] rfl rfl rfl rfl (fun _ => hnx) ?_;rintro o r ⟨ho, rfl⟩;cases ho;conv => whnf
   refine jaL _ _ ?_
   rcases jeN haD (fun _ => rfl) hs (1) with ⟨hany, hx, hm, hek, hf⟩ | ⟨hany, hf⟩
   ·rw [show jbx (jnq hs) _ = _ from hf];rw [if_pos hany] at hP;conv => whnf
    refine ja3 0 [] rfl rfl rfl rfl (fun _ => hfl 4) (fun ch bx' hp => jf0 hP.symm hp) ?_;rintro o r ⟨⟩
   ·rw [show jbx (jnq hs) _ = _ from hf];rw [if_neg (by rw [hany]; simp)] at hP;subst hP;conv => whnf
    exact ⟨rfl, rfl⟩
  | false =>
   rw [if_neg (by rw [hq2]; simp)] at hP;conv => whnf
   refine ja6 0 [] rfl rfl rfl rfl (fun _ => his jbu) ?_;rintro o r ⟨ho, rfl⟩;cases ho;conv => whnf
   cases hq : isP jbu ts with
   | true =>
    rw [if_pos hq] at hP
    obtain ⟨q1, q2⟩ := hps _ hq
    have hnu := jf4 nm ts.tail q1.pos 8
    have hnp := q1.good
    generalize ts.tail = ts1 at *;conv => whnf
    refine ja6 0 [] rfl rfl rfl rfl (fun _ => hnx) ?_;rintro o r ⟨ho, rfl⟩;cases ho;conv => whnf
    refine ja3 0 [] rfl rfl rfl rfl (fun _ => hnu) (fun ch bx' hp => ?_) ?_
    ·unfold jpj at hP
     rcases hp with ⟨h1, h2⟩ | ⟨h1, h2, h3⟩
     ·rw [if_pos h1] at hP;exact jf0 hP.symm h2
     ·rw [if_neg (by rw [h1]; simp), if_pos h2] at hP;exact jf0 hP.symm h3
    rintro o r ⟨⟨h1, h2⟩, ho, rfl⟩;cases ho;unfold jpj at hP;rw [if_neg (by rw [h1]; simp), if_neg (by omega)] at hP
    simp only at hP
    have hn0 : 0 <= (hd ts1).n := hnp.2.2.2.1
    generalize hd ts1 = t1 at *;conv => whnf
    refine ⟨jam (by omega), ?_⟩;conv => whnf
    refine jaL _ _ ?_
    rcases jeN haD (fun _ => rfl) hs (2 + t1.n) with ⟨hany, hx, hm, hek, hf⟩ | ⟨hany, hf⟩
    ·rw [show jbx (jnq hs) _ = _ from hf];rw [if_pos hany] at hP;conv => whnf
     refine ja3 0 [] rfl rfl rfl rfl (fun _ => hfl 4) (fun ch bx' hp => jf0 hP.symm hp) ?_;rintro o r ⟨⟩
    ·rw [show jbx (jnq hs) _ = _ from hf];rw [if_neg (by rw [hany]; simp)] at hP;subst hP;conv => whnf
     exact ⟨rfl, rfl⟩
   | false =>
    rw [if_neg (by rw [hq]; simp)] at hP;clear hq;conv => whnf
    refine ja6 0 [] rfl rfl rfl rfl (fun _ => his je8) ?_;rintro o r ⟨ho, rfl⟩;cases ho;conv => whnf
    cases hq : isP je8 ts with
    | true =>
     rw [if_pos hq] at hP
     obtain ⟨q1, q2⟩ := hps _ hq
     have hnu := jf4 nm ts.tail q1.pos 30
     have hnp := q1.good
     generalize ts.tail = ts1 at *;conv => whnf
     refine ja6 0 [] rfl rfl rfl rfl (fun _ => hnx) ?_;rintro o r ⟨ho, rfl⟩;cases ho;conv => whnf
     refine ja3 0 [] rfl rfl rfl rfl (fun _ => hnu) (fun ch bx' hp => ?_) ?_
     ·unfold jpj at hP
      rcases hp with ⟨h1, h2⟩ | ⟨h1, h2, h3⟩
      ·rw [if_pos h1] at hP;exact jf0 hP.symm h2
      ·rw [if_neg (by rw [h1]; simp), if_pos h2] at hP;exact jf0 hP.symm h3
     rintro o r ⟨⟨h1, h2⟩, ho, rfl⟩;cases ho;unfold jpj at hP;rw [if_neg (by rw [h1]; simp), if_neg (by omega)] at hP
     simp only at hP
     have hn0 : 0 <= (hd ts1).n := hnp.2.2.2.1
     generalize hd ts1 = t1 at *;conv => whnf
     refine ⟨jam (by omega), ?_⟩;conv => whnf
     refine jaL _ _ ?_
     rcases jeN haD (fun _ => rfl) hs (10 + t1.n) with ⟨hany, hx, hm, hek, hf⟩ | ⟨hany, hf⟩
     ·rw [show jbx (jnq hs) _ = _ from hf];rw [if_pos hany] at hP;conv => whnf
      refine ja3 0 [] rfl rfl rfl rfl (fun _ => hfl 4) (fun ch bx' hp => jf0 hP.symm hp) ?_;rintro o r ⟨⟩
     ·rw [show jbx (jnq hs) _ = _ from hf];rw [if_neg (by rw [hany]; simp)] at hP;subst hP;conv => whnf
      exact ⟨rfl, rfl⟩
    | false =>
     rw [if_neg (by rw [hq]; simp)] at hP;conv => whnf
     refine ja3 0 [] rfl rfl rfl rfl (fun _ => hfl 10) (fun ch bx' hp => jf0 hP.symm hp) ?_;rintro o r ⟨⟩
end Go.Proofs.YtfbifdccmabdbaaGreatDoor.Vm
namespace Go.Proofs.YtfbifdccmabdbaaGreatDoor.Vm
open Go.RowKit
set_option linter.unusedSimpArgs false
set_option linter.unusedVariables false
section
mutual
def jjM (k n : Nat) (cs : List A) : A -> A
 | .own _ => .sl k n cs
 | .orow _ _ => .dead
 | .clo f caps => .clo f (jtR k n cs caps)
 | .bm f fs => .bm f (jtR k n cs fs)
 | .mp ks vs => .mp ks vs
 | .agg l => .agg (jtR k n cs l)
 | .tup l => .tup (jtR k n cs l)
 | .box _ _ => .dead
 | .gp g o => .gp g o
 | .adr T => .adr T
 | .err => .err
 | .num => .num
 | .dead => .dead
 | .v x => .v x
 | .sl k n cs => .sl k n cs
 | .pp cs => .pp cs
def jtR (k n : Nat) (cs : List A) : List A -> List A
 | [] => []
 | a :: r => jjM k n cs a :: jtR k n cs r
end
section
variable {C D : Rd} {y : Value} {k n : Nat} {cs : List A}
mutual
theorem jnZ (hs : Sub C D) (hy : (A.sl k n cs).rep ⟨D, [], []⟩ y) : ∀ (a : A) {v : Value}, a.rep ⟨C, [], [y]⟩ v -> (jjM k n cs a).rep ⟨D, [], []⟩ v
 | .dead, v, h => by unfold jjM; exact A.rep_dead _ _
 | .v x, v, h => by unfold jjM; unfold A.rep at h ⊢; exact h
 | .sl k n cs, v, h => by
  unfold jjM
  have h2 : (A.sl k n cs).rep ⟨C, [], []⟩ v := by unfold A.rep at h ⊢; exact h
  exact A.rep.mono _ (E := ⟨C, [], []⟩) (F := ⟨D, [], []⟩) ⟨hs, fun _ _ h => h, fun _ _ h => h⟩ h2
 | .pp cs, v, h => by
  unfold jjM
  have h2 : (A.pp cs).rep ⟨C, [], []⟩ v := by unfold A.rep at h ⊢; exact h
  exact A.rep.mono _ (E := ⟨C, [], []⟩) (F := ⟨D, [], []⟩) ⟨hs, fun _ _ h => h, fun _ _ h => h⟩ h2
 | .own j, v, h => by
  unfold jjM;unfold A.rep at h
  cases j with
  | zero => simp at h; subst h; exact hy
  | succ j => simp at h
 | .orow j o, v, h => by unfold jjM; exact A.rep_dead _ _
 | .box j o, v, h => by unfold jjM; exact A.rep_dead _ _
 | .gp _ _, v, h => by unfold jjM; unfold A.rep at h ⊢; exact h
 | .adr _, v, h => by unfold A.rep at h; exact h.elim
 | .err, v, h => by unfold jjM; unfold A.rep at h ⊢; exact h
 | .num, v, h => by unfold jjM; unfold A.rep at h ⊢; exact h
 | .clo f caps, v, h => by
  unfold jjM; unfold A.rep at h ⊢
  obtain ⟨us, h1, h2⟩ := h
  exact ⟨us, h1, jf3 hs hy caps h2⟩
 | .bm f fs, v, h => by
  unfold jjM; unfold A.rep at h ⊢
  obtain ⟨us, h1, h2⟩ := h
  exact ⟨us, h1, jf3 hs hy fs h2⟩
 | .mp ks vs, v, h => by
  unfold jjM
  have h2 : (A.mp ks vs).rep ⟨C, [], []⟩ v := by unfold A.rep at h ⊢; exact h
  exact A.rep.mono _ (E := ⟨C, [], []⟩) (F := ⟨D, [], []⟩) ⟨hs, fun _ _ h => h, fun _ _ h => h⟩ h2
 | .agg l, v, h => by
  unfold jjM; unfold A.rep at h ⊢
  obtain ⟨us, h1, h2⟩ := h
  exact ⟨us, h1, A.repC_mk (jf3 hs hy l (A.repC_L h2)) (A.repC_one h2)⟩
 | .tup l, v, h => by
  unfold jjM; unfold A.rep at h ⊢
  obtain ⟨us, h1, h2⟩ := h
  exact ⟨us, h1, jf3 hs hy l h2⟩
theorem jf3 (hs : Sub C D) (hy : (A.sl k n cs).rep ⟨D, [], []⟩ y) : ∀ (l : List A) {us : List Value}, A.repL l ⟨C, [], [y]⟩ us -> A.repL (jtR k n cs l) ⟨D, [], []⟩ us
 | [], us, h => by unfold jtR; unfold A.repL at h ⊢; exact h
 | a :: r, us, h => by
  unfold jtR; unfold A.repL at h ⊢
  obtain ⟨u, us', rfl, h1, h2⟩ := h
  exact ⟨u, us', rfl, jnZ hs hy a h1, jf3 hs hy r h2⟩
end
end
theorem jtQ {w : World} {base e k n : Nat} {y : Value} {xs : List Value} {cs : List A} {D : Rd} (h : w.ownsRow base e k y n xs) (hr : A.repC cs ⟨D, [], []⟩ xs) (hD : ∀ b, y.ownBlock = some b -> ∀ o u, w.cell? ⟨b, o, none⟩ = some u -> D ⟨b, o, none⟩ = some u) : (A.sl k n cs).rep ⟨D, [], []⟩ y := by
 have hlen : cs.length = n * k := by rw [<- A.repC_len hr, h.1]
 rcases h.2 with ⟨rfl, rfl⟩ | ⟨b, cap, cur, rfl, hb, hbb, hn, hcm, hcs, htake⟩
 ·unfold A.rep
  have hcs : cs = [] := List.eq_nil_of_length_eq_zero (by simpa using hlen)
  subst hcs;exact ⟨by simp, by simp, none, 0, 0, 0, rfl, Nat.le_refl _, .inl rfl, fun _ => rfl, by simp [A.repAt]⟩
 ·unfold A.rep;refine ⟨hlen, Nat.le_trans hn hcm, _, b, 0, cap, rfl, hn, .inr rfl, by simp, ?_⟩;refine A.repAt_mk (E := ⟨D, [], []⟩) hr (fun j' u hu => ?_)
  have := h.cells (g := b) rfl j' u hu
  rw [jmY] at this;exact hD b rfl _ u this
theorem SpecF.pub {P : Program} {f : Nat} {args : List A} {post : Nat -> Nat -> Nat -> List A -> A -> Prop} (h : SpecF P f args post) (hk0 : ∀ e k n cs r, post e k n cs r -> k ≠ 0) : Spec P f [] args fun _ r => ∃ e k n cs r0, post e k n cs r0 /\ r = jjM k n cs r0 := by
 refine ⟨h.1, fun w C β vals h0 h1 h2 h3 h4 h5 h6 => ?_⟩
 have hβ : β = [] := List.eq_nil_of_length_eq_zero (by simpa using h4.symm)
 subst hβ;refine (h.2 w C vals h0 h1 h6).mono ?_;rintro e w' ⟨et, k, n, cs, r, v, y, xs, C', rfl, hpost, kp, hC, hC', hnew, hnone, hown, hrep, hr⟩
 have hs : Sub C' (jbc C w w') := fun ad u hc => by
  unfold jbc
  split
  ·rename_i hlt
   rcases hnew ad u hc with h7 | h7
   ·exact h7
   ·omega
  ·exact hC' ad u hc
 refine ⟨[], _, v, rfl, ⟨et, k, n, cs, r, hpost, rfl⟩, kp, rfl, fun i b cs hb => by simp at hb, jnZ hs ?_ r hr⟩
 have hown' := hown.row (hk0 _ _ _ _ _ hpost)
 refine jtQ hown' (A.repC.mono cs (E := ⟨C', [], []⟩) (F := ⟨jbc C w w', [], []⟩) ⟨hs, fun _ _ h => h, fun _ _ h => h⟩ hrep) fun b hb o u hc => ?_
 have hlt := (hnone b (jdo hb)).2
 show jbc C w w' ⟨b, o, none⟩ = some u
 unfold jbc;rw [if_neg (by simp only; omega)];exact hc
end
end Go.Proofs.YtfbifdccmabdbaaGreatDoor.Vm
namespace Go.Proofs.YtfbifdccmabdbaaGreatDoor.Vm
open Go.RowKit Go.Shelf Go.Maps Go.Sort
set_option linter.unusedSimpArgs false
set_option linter.unusedVariables false
set_option maxRecDepth 100000
def jcs : Go.Shelf.Ren := ⟨fun | 7 => 138 | 10 => 166 | n => n, fun | 3 => 67 | 23 => 165 | 26 => 3 | 27 => 168 | 28 => 169 | 33 => 195 | n => n, fun | n => n⟩
theorem jeg : SlLaysZI.n7 Tryz.prog jcs where
 mixed := by kernel_rfl
 f7 := ⟨ "maps.Keys[map[int]simproof/api.Handler,int,simproof/api.Handler]", of_decide_eq_true (by kernel_rfl), Tryz.func138.trans (congrArg some (by kernel_rfl))⟩
 f10 := ⟨ "maps.Keys[map[int]simproof/api.Handler,int,simproof/api.Handler]$1", of_decide_eq_true (by kernel_rfl), Tryz.func166.trans (congrArg some (by kernel_rfl))⟩
 t0 := Tryz.underlying0
 a0 := Tryz.isAgg0
 z0 := Tryz.sizeOf0
 v0 := Tryz.zeroValue0
 t4 := Tryz.underlying4
 a4 := Tryz.isAgg4
 z4 := Tryz.sizeOf4
 v4 := Tryz.zeroValue4
 t23 := Tryz.underlying165
 a23 := Tryz.isAgg165
 z23 := Tryz.sizeOf165
 v23 := Tryz.zeroValue165
 t26 := Tryz.underlying3
 a26 := Tryz.isAgg3
 z26 := Tryz.sizeOf3
 v26 := Tryz.zeroValue3
 t27 := Tryz.underlying168
 a27 := Tryz.isAgg168
 z27 := Tryz.sizeOf168
 v27 := Tryz.zeroValue168
 t28 := Tryz.underlying169
 a28 := Tryz.isAgg169
 z28 := Tryz.sizeOf169
 v28 := Tryz.zeroValue169
 t33 := Tryz.underlying195
 a33 := Tryz.isAgg195
 z33 := Tryz.sizeOf195
 v33 := Tryz.zeroValue195

def jcr : Go.Shelf.Ren := ⟨fun | 6 => 137 | 8 => 164 | 9 => 165 | 11 => 174 | 12 => 175 | 13 => 176 | 14 => 195 | 15 => 196 | 16 => 197 | 17 => 198 | 18 => 199 | 19 => 200 | 20 => 201 | 21 => 202 | 22 => 203 | 23 => 204 | 24 => 205 | 25 => 212 | 26 => 213 | 27 => 214 | 28 => 215 | 29 => 216 | 30 => 217 | 31 => 226 | n => n, fun | 24 => 22 | 26 => 3 | 28 => 169 | 33 => 195 | 37 => 205 | 39 => 215 | 40 => 216 | 45 => 124 | 48 => 222 | 50 => 186 | 51 => 229 | 55 => 233 | 57 => 242 | 58 => 243 | n => n, fun | n => n⟩
theorem jhD : SlLaysZI.n6 Tryz.prog jcr where
 mixed := by kernel_rfl
 f6 := ⟨ "slices.Sorted[int]", of_decide_eq_true (by kernel_rfl), Tryz.func137.trans (congrArg some (by kernel_rfl))⟩
 f8 := ⟨ "slices.Collect[int]", of_decide_eq_true (by kernel_rfl), Tryz.func164.trans (congrArg some (by kernel_rfl))⟩
 f11 := ⟨ "slices.AppendSeq[[]int,int]", of_decide_eq_true (by kernel_rfl), Tryz.func174.trans (congrArg some (by kernel_rfl))⟩
 t0 := Tryz.underlying0
 a0 := Tryz.isAgg0
 z0 := Tryz.sizeOf0
 v0 := Tryz.zeroValue0
 t24 := Tryz.underlying22
 a24 := Tryz.isAgg22
 z24 := Tryz.sizeOf22
 v24 := Tryz.zeroValue22
 t26 := Tryz.underlying3
 a26 := Tryz.isAgg3
 z26 := Tryz.sizeOf3
 v26 := Tryz.zeroValue3
 t28 := Tryz.underlying169
 a28 := Tryz.isAgg169
 z28 := Tryz.sizeOf169
 v28 := Tryz.zeroValue169
 i26 := by kernel_rfl

def jfy : Go.Shelf.Ren := ⟨fun | 5 => 165 | 7 => 175 | 8 => 176 | 10 => 195 | 11 => 196 | 12 => 197 | 13 => 198 | 14 => 199 | 15 => 200 | 16 => 201 | 17 => 202 | 18 => 203 | 19 => 204 | 20 => 205 | 30 => 212 | 31 => 213 | 32 => 214 | 33 => 215 | 34 => 216 | 35 => 217 | 40 => 226 | n => n, fun | 23 => 22 | 25 => 3 | 32 => 205 | 35 => 215 | 36 => 216 | 41 => 124 | 44 => 222 | 46 => 186 | 53 => 229 | 57 => 233 | 63 => 242 | 64 => 243 | n => n, fun | n => n⟩
theorem jeU : SlLaysM.n5 Tryz.prog jfy where
 mixed := by kernel_rfl
 f5 := ⟨ "slices.Sort[[]int,int]", of_decide_eq_true (by kernel_rfl), Tryz.func165.trans (congrArg some (by kernel_rfl))⟩
 f7 := ⟨ "slices.pdqsortOrdered[int]", of_decide_eq_true (by kernel_rfl), Tryz.func175.trans (congrArg some (by kernel_rfl))⟩
 f8 := Tryz.func176.trans (congrArg some (by kernel_rfl))
 f10 := ⟨ "slices.insertionSortOrdered[int]", of_decide_eq_true (by kernel_rfl), Tryz.func195.trans (congrArg some (by kernel_rfl))⟩
 f11 := ⟨ "slices.heapSortOrdered[int]", of_decide_eq_true (by kernel_rfl), Tryz.func196.trans (congrArg some (by kernel_rfl))⟩
 f12 := ⟨ "slices.breakPatternsOrdered[int]", of_decide_eq_true (by kernel_rfl), Tryz.func197.trans (congrArg some (by kernel_rfl))⟩
 f13 := ⟨ "slices.choosePivotOrdered[int]", of_decide_eq_true (by kernel_rfl), Tryz.func198.trans (congrArg some (by kernel_rfl))⟩
 f14 := ⟨ "slices.reverseRangeOrdered[int]", of_decide_eq_true (by kernel_rfl), Tryz.func199.trans (congrArg some (by kernel_rfl))⟩
 f15 := ⟨ "slices.partialInsertionSortOrdered[int]", of_decide_eq_true (by kernel_rfl), Tryz.func200.trans (congrArg some (by kernel_rfl))⟩
 f16 := ⟨ "cmp.Less[int]", of_decide_eq_true (by kernel_rfl), Tryz.func201.trans (congrArg some (by kernel_rfl))⟩
 f17 := ⟨ "slices.partitionEqualOrdered[int]", of_decide_eq_true (by kernel_rfl), Tryz.func202.trans (congrArg some (by kernel_rfl))⟩
 f18 := ⟨ "slices.partitionOrdered[int]", of_decide_eq_true (by kernel_rfl), Tryz.func203.trans (congrArg some (by kernel_rfl))⟩
 f19 := Tryz.func204.trans (congrArg some (by kernel_rfl))
 f20 := Tryz.func205.trans (congrArg some (by kernel_rfl))
 f30 := ⟨ "slices.siftDownOrdered[int]", of_decide_eq_true (by kernel_rfl), Tryz.func212.trans (congrArg some (by kernel_rfl))⟩
 f31 := Tryz.func213.trans (congrArg some (by kernel_rfl))
 f32 := Tryz.func214.trans (congrArg some (by kernel_rfl))
 f33 := ⟨ "slices.medianAdjacentOrdered[int]", of_decide_eq_true (by kernel_rfl), Tryz.func215.trans (congrArg some (by kernel_rfl))⟩
 f34 := ⟨ "slices.medianOrdered[int]", of_decide_eq_true (by kernel_rfl), Tryz.func216.trans (congrArg some (by kernel_rfl))⟩
 f35 := ⟨ "cmp.isNaN[int]", of_decide_eq_true (by kernel_rfl), Tryz.func217.trans (congrArg some (by kernel_rfl))⟩
 f40 := ⟨ "slices.order2Ordered[int]", of_decide_eq_true (by kernel_rfl), Tryz.func226.trans (congrArg some (by kernel_rfl))⟩
 t0 := Tryz.underlying0
 a0 := Tryz.isAgg0
 z0 := Tryz.sizeOf0
 v0 := Tryz.zeroValue0
 t3 := Tryz.underlying3
 a3 := Tryz.isAgg3
 z3 := Tryz.sizeOf3
 v3 := Tryz.zeroValue3
 t4 := Tryz.underlying4
 a4 := Tryz.isAgg4
 z4 := Tryz.sizeOf4
 v4 := Tryz.zeroValue4
 t5 := Tryz.underlying5
 a5 := Tryz.isAgg5
 z5 := Tryz.sizeOf5
 v5 := Tryz.zeroValue5
 t9 := Tryz.underlying9
 a9 := Tryz.isAgg9
 z9 := Tryz.sizeOf9
 v9 := Tryz.zeroValue9
 t22 := Tryz.underlying22
 a22 := Tryz.isAgg22
 z22 := Tryz.sizeOf22
 v22 := Tryz.zeroValue22
 t23 := Tryz.underlying22
 a23 := Tryz.isAgg22
 z23 := Tryz.sizeOf22
 v23 := Tryz.zeroValue22
 t25 := Tryz.underlying3
 a25 := Tryz.isAgg3
 z25 := Tryz.sizeOf3
 v25 := Tryz.zeroValue3
 t32 := Tryz.underlying205
 a32 := Tryz.isAgg205
 z32 := Tryz.sizeOf205
 v32 := Tryz.zeroValue205
 t35 := Tryz.underlying215
 a35 := Tryz.isAgg215
 z35 := Tryz.sizeOf215
 v35 := Tryz.zeroValue215
 t36 := Tryz.underlying216
 a36 := Tryz.isAgg216
 z36 := Tryz.sizeOf216
 v36 := Tryz.zeroValue216
 t41 := Tryz.underlying124
 a41 := Tryz.isAgg124
 z41 := Tryz.sizeOf124
 v41 := Tryz.zeroValue124
 t44 := Tryz.underlying222
 a44 := Tryz.isAgg222
 z44 := Tryz.sizeOf222
 v44 := Tryz.zeroValue222
 t46 := Tryz.underlying186
 a46 := Tryz.isAgg186
 z46 := Tryz.sizeOf186
 v46 := Tryz.zeroValue186
 t53 := Tryz.underlying229
 a53 := Tryz.isAgg229
 z53 := Tryz.sizeOf229
 v53 := Tryz.zeroValue229
 t57 := Tryz.underlying233
 a57 := Tryz.isAgg233
 z57 := Tryz.sizeOf233
 v57 := Tryz.zeroValue233
 t63 := Tryz.underlying242
 a63 := Tryz.isAgg242
 z63 := Tryz.sizeOf242
 v63 := Tryz.zeroValue242
 t64 := Tryz.underlying243
 a64 := Tryz.isAgg243
 z64 := Tryz.sizeOf243
 v64 := Tryz.zeroValue243

def jsF : Nat := 166
theorem joJ (ks : List Value) (vs : List A) : SpecF Tryz.prog 138 [.mp ks vs] fun e k n cs r => e = 165 /\ k = 1 /\ n = 1 /\ cs = [.mp ks vs] /\ r = .clo jsF [.orow 0 0] := by
 refine ⟨jem Tryz.func138 rfl (by kernel_rfl), fun w C vals h0 h1 h2 => ?_⟩;unfold A.repL at h2
 obtain ⟨u, us, rfl, h3, h4⟩ := h2
 unfold A.repL at h4;subst h4
 have h3' := h3
 unfold A.rep at h3
 obtain ⟨r, us, rfl, hC, hlen, hvs, hok⟩ := h3
 refine ((callsIn_wide (n := 6)).1 (AnyZI.keys_in jeg Fence.wide 6 trivial rfl (some r) w)).mono ?_;rintro e w' ⟨rfl, rfl⟩
 have hB : Ext w (w.alloc (.cells #[.map (some r)] 165)) := (Below.refl _ w).alloc (Nat.le_refl _) _
 have kp := Keeps.of_ext hB
 refine ⟨_, _, _, _, _, _, .slice (some ⟨w.heap.size, 0, none⟩) 1 1, [.map (some r)], C, rfl, ⟨rfl, rfl, rfl, rfl, rfl⟩, kp, Sub.refl _, fun ad u hc => ?_, fun ad u hc => .inl hc, fun b hb => ?_, .inl ⟨by decide, ?_⟩, ?_, ?_⟩
 ·refine kp.cell (h1 ad u hc) (fun hm => by simp at hm)
 ·obtain rfl : w.heap.size = b := by simpa [blk] using hb
  refine ⟨fun o sp => ?_, Nat.le_refl _⟩
  cases hc : C ⟨w.heap.size, o, sp⟩ with
  | none => rfl
  | some u =>
   have := jan w _ (h1 _ _ hc)
   simp at this
 ·refine ⟨rfl, .inr ⟨w.heap.size, 1, #[.map (some r)], rfl, Nat.zero_le _, World.alloc_heap_new w _, Nat.le_refl _, by unfold maxLen; omega, rfl, rfl⟩⟩
 ·unfold A.repC;exact ⟨_, [], rfl, rfl, h3', by unfold A.repC; rfl⟩
 ·unfold A.rep;refine ⟨#[.pointer (some ⟨w.heap.size, 0, none⟩)], rfl, ?_⟩;unfold A.repL;refine ⟨_, [], rfl, ?_, by unfold A.repL; rfl⟩;unfold A.rep;exact ⟨w.heap.size, 1, 1, rfl, rfl⟩
theorem jxu (m : Nat) : AnyZI.SortsIn Tryz.prog jcr Fence.wide m :=
 ⟨fun blk off cap ss W hH hblk hsz => callsIn_wide.2 (AnyM.slices_Sort_int jeU blk off cap ss W hH hblk hsz),
 fun p cap W => callsIn_wide.2 (AnyM.slices_Sort_int_none jeU p cap W)⟩
theorem jqO {w : World} {r c : Nat} {es : Array MapEntry} {l : List (Int × A)} (hr : w.heap[r]? = some (.map es c)) (hst : jfc es c) (hk : es.toList.map (·.key) = mkV l) (hok : ∀ k ∈ mkV l, okV k) (hnd : (l.map (·.1)).Nodup) (hn : l.length <= 1000000) :
  ∃ D0 : DataW Unit, w.ownsMap Tryz.prog 3 (fun _ => some (.nil, [])) r l.length D0 /\ (intKeys D0).Perm (l.map (·.1)) /\ Maps.size D0 = l.length := by
 have hu : Tryz.prog.underlying 3 = some (.int .i64) := by kernel_rfl
 have hlen : es.size = l.length := by
  have := congrArg List.length hk
  unfold mkV at this
  simpa using this
 have hkey : ∀ x ∈ es.toList, ∃ a : Int, x.key = .int .i64 a /\ (Lit.int .i64 a).wf = true := fun x hx => by
  have h1 : x.key ∈ mkV l := by rw [<- hk]; exact List.mem_map.2 ⟨x, hx, rfl⟩
  have h2 := hok _ h1
  unfold mkV at h1
  obtain ⟨p, _, hp⟩ := List.mem_map.1 h1
  rw [<- hp] at h2;refine ⟨p.1, hp.symm, ?_⟩
  have := okV_int.1 h2
  simp [Lit.wf]
  exact this
 have hrd : ∀ x ∈ es.toList, ∀ a : Int, x.key = .int .i64 a -> (Lit.int .i64 a).wf = true -> WideElems.rd Tryz.prog 3 (fun _ => some ((DataW.nil : DataW Unit), ([] : List MemPlace))) x = some (.int .i64 a, .nil) := fun x hx a h1 h2 => by
  unfold WideElems.rd;rw [h1, keyOf_int_mk hu h2]; rfl
 have hrg : es.toList.map (fun x => Go.intOf (WideElems.rg Tryz.prog 3 (fun _ => some ((DataW.nil : DataW Unit), ([] : List MemPlace))) x).1) = l.map (·.1) := by
  have h1 : es.toList.map (fun x => Go.intOf (WideElems.rg Tryz.prog 3 (fun _ => some ((DataW.nil : DataW Unit), ([] : List MemPlace))) x).1) = (es.toList.map (·.key)).map fun v => match v with | .int _ a => a | _ => 0 := by
   rw [List.map_map]
   refine List.map_congr_left fun x hx => ?_
   obtain ⟨a, e1, e2⟩ := hkey x hx
   rw [WideElems.rg_of (hrd x hx a e1 e2)]
   simp [Go.intOf, e1]
  rw [h1, hk];unfold mkV;rw [List.map_map]
  exact List.map_congr_left fun p hp => rfl
 have hfit : WideElems.Fit Tryz.prog 3 (fun _ => some ((DataW.nil : DataW Unit), ([] : List MemPlace))) es c := by
  refine ⟨by rw [hlen]; unfold maxLen; omega, ⟨?_, ?_, ?_⟩, fun x hx => ?_⟩
  ·intro x hx
   obtain ⟨i, hi, e⟩ := List.mem_iff_getElem.1 hx
   have hi' : i < es.size := by simpa using hi
   have h2 := hst.2 i es[i] (Array.getElem?_eq_getElem hi')
   have e' : es[i] = x := by rw [<- e]; simp
   rw [<- e', h2, hst.1]; exact hi'
  ·have h2 : es.toList.map (·.born) = List.range es.size := by
    apply List.ext_getElem?
    intro i;rw [List.getElem?_map, Array.getElem?_toList]
    by_cases hi : i < es.size
    ·rw [Array.getElem?_eq_getElem hi, List.getElem?_range hi];simp only [Option.map_some];rw [hst.2 i es[i] (Array.getElem?_eq_getElem hi)]
    ·rw [Array.getElem?_eq_none (by omega), List.getElem?_eq_none (by simp; omega)]; rfl
   rw [h2]; exact List.nodup_range
  ·rw [hk];unfold mkV
   have : (l.map fun p : Int × A => Value.int .i64 p.1) = (l.map (·.1)).map (Value.int .i64) := by rw [List.map_map]; rfl
   rw [this];exact List.pairwise_map.2 (hnd.imp fun h e => h (by cases e; rfl))
  ·obtain ⟨a, e1, e2⟩ := hkey x hx
   exact ⟨_, hrd x hx a e1 e2⟩
 refine ⟨_, ⟨es, c, hr, hfit, by omega, rfl⟩, ?_, ?_⟩
 ·show (List.map (fun p : Lit × DataW Unit => Go.intOf p.1) _).Perm _
  refine ((WideShapes.sorted_perm _).map _).trans ?_;rw [List.map_map];exact List.Perm.of_eq hrg
 ·show (List.foldr DataW.insert [] _).length = _
  rw [(WideShapes.sorted_perm _).length_eq, List.length_map, Array.length_toList, hlen]
theorem jwo {P : Program} {pan : List PanicEntry -> S -> Prop} {Xr : Nat -> Bool} {f : Nat} {args args' : List A} {s : S} {K : A -> S -> Prop} {post : List (List A) -> Nat -> List A -> A -> Prop} (g m : Nat) (ids : List Nat) (hm : s.rw.length = m) {e k n : Nat} {cs : List A} (hf : Xr 1000000007 = true) (hg : (ja0 s.rw ids)[g]? = some (.live e k n cs)) (h2 : jbk [] g (ja0 s.rw ids) args = some args') (hs : okL args' -> jlL P f [] e k n cs args' post)
  (hk : ∀ n' cs' r, post [] n' cs' r -> jh3 [] m s.bx [] [] fun bx' => jbi (backG [] m r) fun r' => jax ((ja0 s.rw ids).set g .gone ++ [.live e k n' cs']) fun rw' => jbv s bx' rw' (K r')) : jbJ P pan Xr f args s K := by
 subst hm;unfold jbJ
 right; right; right; right; left
 refine ⟨hf, [], ids, g, e, k, n, cs, [], args', post, fun _ => False, by simp, by simp, by simp, hg, rfl, h2, hs, fun outs n' cs' r hp hl => ?_, fun ch bx' h => h.elim⟩
 obtain rfl : outs = [] := List.eq_nil_of_length_eq_zero (by simpa using hl)
 exact hk n' cs' r hp
theorem jld (l : List (Int × A)) (hnd : (l.map (·.1)).Nodup) (hn : l.length <= 1000000) : jlL Tryz.prog 137 [] 165 1 1 [.mp (mkV l) (mvA l)] [.clo jsF [.orow 0 0]] fun o n' cs' r => r = .sl 1 l.length (((l.map (·.1)).mergeSort leI).map intA) := by
 refine ⟨jem Tryz.func137 rfl (by kernel_rfl), fun w C β vals y xs h0 h1 h2 h3 h4 h5 h6 h7 h8 h9 => ?_⟩
 obtain rfl : β = [] := List.eq_nil_of_length_eq_zero (by simpa using h4.symm)
 unfold A.repL at h9
 obtain ⟨v, vs', rfl, hv, h9⟩ := h9
 unfold A.repL at h9;subst h9;unfold A.rep at hv
 obtain ⟨us, rfl, hus⟩ := hv
 unfold A.repL at hus
 obtain ⟨p, us', hus, hp, h9⟩ := hus
 unfold A.repL at h9;subst h9
 obtain rfl : us = #[p] := by apply Array.toList_inj.1; simpa using hus
 unfold A.rep at hp
 obtain ⟨b, n1, cap1, hy, rfl⟩ := hp
 obtain rfl : y = .slice (some ⟨b, 0, none⟩) n1 cap1 := by simpa using hy
 have hrow := h6.row (by decide)
 unfold A.repC at h7
 obtain ⟨u, us', rfl, -, hu, h7⟩ := h7
 unfold A.repC at h7;subst h7;unfold A.rep at hu
 obtain ⟨r, us, rfl, hC, hlen, hvs, hok⟩ := hu
 obtain ⟨es, c, hr, hk1, hk2, hst⟩ := jju (h1 _ _ hC)
 obtain ⟨D0, hown, hperm, hsize⟩ := jqO hr hst hk1 hok hnd hn
 have hcell : w.cell? ⟨b, 0, none⟩ = some (.map (some r)) := by
  rcases hrow.2 with ⟨h, _⟩ | ⟨g, cap, cur, h, _, hb, _, _, _, htake⟩
  ·cases h
  ·cases h
   have h0 : cur[0]? = some (.map (some r)) := by
    have := congrArg (·[0]?) htake
    simpa using this
   simp [World.cell?, hb, h0]
 have hbl : b < w.heap.size := h6.lt rfl
 have hseq : SeqGives Fence.wide 2 Tryz.prog jsF #[.pointer (some ⟨b, 0, none⟩)] encZ (fun ss => ss.Perm (intKeys D0)) (Maps.size D0) w :=
  AnyZI.keys_gives (ρ := jcs) { jeg with } Fence.wide _ trivial rfl (by omega) b r l.length D0 w hbl hcell hown
 have cS := AnyZI.sorted_in jhD Fence.wide 5 trivial trivial trivial trivial rfl (by omega) (jxu _) (enters_of Tryz.func165 (by kernel_rfl) rfl) jsF #[.pointer (some ⟨b, 0, none⟩)] trivial (enters_of Tryz.func166 (by kernel_rfl) rfl) _ _ (by rw [hsize]; unfold maxLen; omega) (by rw [hsize]; omega) _ hseq
 refine (callsIn_wide.1 cS).mono ?_;rintro e w' ⟨v, ss, rfl, hS, hrw, hnil, hB⟩
 have hB : Ext w w' := hB
 have kp := Keeps.of_ext hB
 have hpm : ss.mergeSort (fun x y => decide (x <= y)) = (l.map (·.1)).mergeSort leI := mergeSort_of_perm_i (hS.trans hperm)
 have hlen2 : ss.length = l.length := by rw [(hS.trans hperm).length_eq, List.length_map]
 rw [hpm, hlen2] at hrw;refine .inl ⟨[], 1, [.mp (mkV l) (mvA l)], _, v, _, [.map (some r)], jbc C w w', rfl, rfl, ⟨kp.os, kp.tape, kp.output, kp.size, fun q hq hn => kp.block q hq (by simp)⟩, jbY h1, jdU h1 h3 kp, fun ad u hc => ?_, rfl, fun i b cs hb => by simp at hb, h6.same fun q hq => kp.block q (h6.lt hq) (by simp), ?_, fun q hq => ⟨fun o sp => ?_, .inr hq⟩, ?_⟩
 ·unfold jbc at hc
  split at hc
  ·exact .inl hc
  ·exact .inr (.inl (by omega))
 ·unfold A.repC;refine ⟨_, [], rfl, rfl, ?_, by unfold A.repC; rfl⟩;unfold A.rep;exact ⟨r, us, rfl, jbY h1 _ _ hC, hlen, A.repL.mono _ (show (⟨C, [], []⟩ : Env).per.le (⟨jbc C w w', [], []⟩ : Env).per from ⟨jbY h1, fun _ _ h => h, fun _ _ h => h⟩) hvs, hok⟩
 ·unfold jbc;rw [if_pos (show (⟨q, o, sp⟩ : Addr).block < w.heap.size from h6.lt hq)];exact (h8 q hq).2 o sp
 ·refine A.rep.mono _ (jpW (jbc C w w') [] _) (jtQ hrw (D := jbc C w w') ?_ fun b' hb o u hc => ?_)
  ·refine A.repC_mk ?_ (fun u hu => ?_)
   ·have := A.repL_map (E := ⟨jbc C w w', [], []⟩) ((l.map (·.1)).mergeSort leI) intA encZ (fun x hx => ?_)
    ·exact this
    ·refine A.rep_v (okV_int.2 ?_)
     have hx' : x ∈ l.map (·.1) := (List.mergeSort_perm _ _).mem_iff.1 hx
     obtain ⟨p, hp, rfl⟩ := List.mem_map.1 hx'
     exact okV_int.1 (hok _ (by unfold mkV; exact List.mem_map.2 ⟨p, hp, rfl⟩))
   ·obtain ⟨x, _, rfl⟩ := List.mem_map.1 hu
    rfl
  ·unfold jbc
   have := (hrw.lt b' hb).1
   rw [if_neg (by simp only; omega)];exact jjt hc
theorem jgU (h : Int × Nt) : ∀ l : List (Int × Nt), (jsx h l).Perm (h :: l)
 | [] => List.Perm.refl _
 | x :: l => by
  unfold jsx
  split
  ·exact List.Perm.refl _
  ·exact ((jgU h l).cons x).trans (List.Perm.swap h x l)
theorem jfP : ∀ l : List (Int × Nt), (jfO l).Perm l
 | [] => List.Perm.refl _
 | h :: l => (jgU h (jfO l)).trans ((jfP l).cons h)
theorem jgV (h : Int × Nt) : ∀ l : List (Int × Nt), l.Pairwise (fun a b => a.1 <= b.1) -> (jsx h l).Pairwise fun a b => a.1 <= b.1
 | [], _ => by unfold jsx; simp
 | x :: l, hp => by
  obtain ⟨h1, h2⟩ := List.pairwise_cons.1 hp
  unfold jsx
  split
  ·rename_i hx
   refine List.pairwise_cons.2 ⟨fun b hb => ?_, hp⟩
   rcases List.mem_cons.1 hb with rfl | hb
   ·exact hx
   ·exact Int.le_trans hx (h1 b hb)
  ·rename_i hx
   refine List.pairwise_cons.2 ⟨fun b hb => ?_, jgV h l h2⟩
   rcases List.mem_cons.1 ((jgU h l).mem_iff.1 hb) with rfl | hb
   ·omega
   ·exact h1 b hb
theorem jg6 : ∀ l : List (Int × Nt), (jfO l).Pairwise fun a b => a.1 <= b.1
 | [] => List.Pairwise.nil
 | h :: l => jgV h _ (jg6 l)
theorem jp9 (l : List (Int × Nt)) : ((jfo l).map (·.1)).mergeSort leI = (jfO l).map (·.1) := by
 have e : (jfo l).map (·.1) = l.map (·.1) := by unfold jfo; rw [List.map_map]; rfl
 rw [e]
 have tr : ∀ a b c : Int, leI a b = true -> leI b c = true -> leI a c = true := fun a b c h1 h2 => by simp only [leI, decide_eq_true_eq] at *; exact Int.le_trans h1 h2
 have to : ∀ a b : Int, (leI a b || leI b a) = true := fun a b => by simp only [leI, Bool.or_eq_true, decide_eq_true_eq]; exact Int.le_total a b
 refine List.Perm.eq_of_pairwise (le := fun a b => leI a b = true) (fun a b _ _ h1 h2 => ?_) (List.pairwise_mergeSort tr to _) ?_ ((List.mergeSort_perm _ leI).trans ((jfP l).map _).symm)
 ·simp only [leI, decide_eq_true_eq] at h1 h2;exact Int.le_antisymm h1 h2
 ·exact List.pairwise_map.2 ((jg6 l).imp fun h => by simpa [leI] using h)
theorem joQ (l : List (Int × Nt)) : ((jfo l).map (·.1)).Nodup ↔ (l.map (·.1)).Nodup := by
 have e : (jfo l).map (·.1) = l.map (·.1) := by unfold jfo; rw [List.map_map]; rfl
 rw [e]
theorem jsl {l : List (Int × Nt)} (hnd : (l.map (·.1)).Nodup) {h : Int × Nt} (hm : h ∈ l) : jbx (jfo l) h.1 = some (haA h).2 := by
 induction l with
 | nil => simp at hm
 | cons x l ih =>
  rw [List.map_cons, List.nodup_cons] at hnd;unfold jbx jfo;rw [List.map_cons]
  rcases List.mem_cons.1 hm with rfl | hm
  ·rw [List.find?_cons_of_pos (p := fun p : Int × A => decide (h.1 = p.1)) (show decide (h.1 = (haA h).1) = true from decide_eq_true rfl)]; rfl
  ·have hne : h.1 ≠ x.1 := fun e => hnd.1 (by rw [<- e]; exact List.mem_map.2 ⟨h, hm, rfl⟩)
   rw [List.find?_cons_of_neg (p := fun p : Int × A => decide (h.1 = p.1)) (show ¬ decide (h.1 = (haA x).1) = true by rw [decide_eq_false (show ¬ h.1 = (haA x).1 from hne)]; simp)];exact ih hnd.2 hm
def hnA (h : Int × Nt) : List A := intA h.1 :: ntA h.2
@[irreducible] def jgT (l : List (Int × Nt)) : List A := l.flatMap hnA
theorem jns : jgT [] = [] := by unfold jgT; rfl
theorem jkl (l : List (Int × Nt)) (h : Int × Nt) : jgT (l ++ [h]) = jgT l ++ hnA h := by
 unfold jgT;rw [List.flatMap_append, List.flatMap_cons, List.flatMap_nil, List.append_nil]
theorem jhe (l : List (Int × Nt)) (i : Nat) (hi : i < l.length) : ja2 5 i (jgT l) = hnA l[i] := by
 unfold jgT; exact jc4 hnA (fun _ => rfl) l i hi
theorem jqa (l : List (Int × Nt)) (k : Int) (b : Nt) : jfo l ++ [(k, .agg (intA k :: ntA b))] = jfo (l ++ [(k, b)]) := by
 unfold jfo;rw [List.map_append]; rfl
def utA (u : Ut) : List A := [.sl 1 u.du.length (txA u.du), .sl 1 u.vo.length (txA u.vo), .sl 5 u.on.length (jgT u.on)]
def puQ (p : PU) (ch : List PanicEntry) : Prop := match p with
 | .bad x e => ch = jaC x e
 | _ => False
theorem jh9 {p : PU} {x e : Int} {ch : List PanicEntry} (h : p = .bad x e) (k : ch = jaC x e) : puQ p ch := by subst h; exact k
def uoQ (p : PU) (r : A) : Prop := match p with
 | .ok u => r = .agg (utA u)
 | _ => False
def jz1 (id : Nat) : Tr := match Nat.beq id 4 || Nat.beq id 5 with
 | true => .q 0 3 (.q 2 3 (.alt 1 2 (.alt 3 2 (.alt 4 2 (.q 5 3 (.alt 6 2 .nil .nil)) .nil) .nil) (.alt 3 2 (.alt 1 2 (.alt 4 2 (.q 5 3 (.alt 6 2 .nil .nil)) .nil) .nil) .nil)))
 | false => .nil
theorem jc7 : ∀ (n : Nat) (nm out : List ByteArray) (ts : List Tk) (nm' out' : List ByteArray) (r : List Tk), TkP ts -> (hd ts).kind ≠ 0 -> nm.length <= 16 -> jk6 n nm out ts = .ok nm' out' r -> TkP r /\ r.length < ts.length /\ nm'.length <= 16 /\ out'.length + r.length <= out.length + ts.length
 | 0, nm, out, ts, nm', out', r, h, hk, h16, e => by cases e
 | n + 1, nm, out, ts, nm', out', r, h, hk, h16, e => by
  rw [jiZ] at e
  obtain ⟨q1, q2⟩ := h.tail hk
  by_cases hn : jg8 ts.tail = false
  ·rw [if_pos hn] at e; cases e
  rw [if_neg hn] at e
  by_cases hh : jdg nm (hd ts.tail).text = true
  ·rw [if_pos hh] at e; cases e
  rw [if_neg hh] at e
  by_cases h6 : nm.length = 16
  ·rw [if_pos h6] at e; cases e
  rw [if_neg h6] at e
  obtain ⟨q3, q4⟩ := q1.tail (by rw [jcM (by simpa using hn)]; decide)
  unfold deH at e
  by_cases hc : isP jb2 ts.tail.tail = true
  ·rw [if_pos hc] at e
   obtain ⟨g1, g2, g3, g4⟩ := jc7 n _ _ _ _ _ _ q3 (jbS hc) (by simp only [List.length_append, List.length_cons, List.length_nil]; omega) e
   refine ⟨g1, by omega, g3, ?_⟩;simp only [List.length_append, List.length_cons, List.length_nil] at g4;omega
  ·rw [if_neg hc] at e
   by_cases hs : isP jaO ts.tail.tail = true
   ·rw [if_pos hs] at e
    cases e
    obtain ⟨g1, g2⟩ := q3.is hs
    refine ⟨g1, by omega, by simp only [List.length_append, List.length_cons, List.length_nil]; omega, by simp only [List.length_append, List.length_cons, List.length_nil]; omega⟩
   ·rw [if_neg hs] at e; cases e
theorem jq9 (du vo : List ByteArray) (n : Nat) (hs : List (Int × Nt)) (ts : List Tk) : jso du vo (n + 1) hs ts = (if (hd ts).kind = 0 then .ok ⟨du, vo, jfO hs⟩
  else if isP wOn ts = false then .bad (hd ts).pos 10
  else match heF hs ts.tail with
   | .bad x e => .bad x e
   | .ok k r => match (pa 19).bl r with
    | .bad x e => .bad x e
    | .ok b r => jso du vo n (hs ++ [(k, b)]) r) := by
 rw [jso];unfold heF
 cases hnF ts.tail with
 | bad x e => rfl
 | ok k r =>
  simp only
  by_cases hd : (hs.any fun h => decide (h.1 = k)) = true
  ·rw [if_pos hd, if_pos hd]
  ·rw [if_neg hd, if_neg hd]; try rfl
theorem jtF {hs : List (Int × Nt)} {ts : List Tk} {k : Int} {r : List Tk} (h : TkP ts) (e : heF hs ts = .ok k r) : (∀ p ∈ hs, k ≠ p.1) /\ TkP r /\ r.length < ts.length := by
 unfold heF at e
 cases hh : hnF ts with
 | bad x e2 => rw [hh] at e; cases e
 | ok k2 r2 =>
  rw [hh] at e
  simp only at e
  by_cases hdp : (hs.any fun h => decide (h.1 = k2)) = true
  ·rw [if_pos hdp] at e; cases e
  rw [if_neg hdp] at e
  cases e
  refine ⟨fun p hp e => hdp (List.any_eq_true.2 ⟨p, hp, decide_eq_true e.symm⟩), ?_⟩
  have num : ∀ (lim off : Int) (t : List Tk), TkP t -> t.length + 1 = ts.length -> jpj lim off t = .ok k r -> TkP r /\ r.length < ts.length := fun lim off t ht hl e => by
   unfold jpj at e
   split at e
   ·cases e
   ·split at e
    ·cases e
    ·rename_i h2 _
     obtain ⟨q1, q2⟩ := ht.tail (by rw [Decidable.not_not.1 h2]; decide)
     cases e
     exact ⟨q1, by omega⟩
  unfold hnF at hh
  by_cases h1 : isP jiC ts = true
  ·rw [if_pos h1] at hh
   obtain ⟨q1, q2⟩ := h.is h1
   cases hh
   exact ⟨q1, by omega⟩
  rw [if_neg h1] at hh
  by_cases h2 : isP je9 ts = true
  ·rw [if_pos h2] at hh
   obtain ⟨q1, q2⟩ := h.is h2
   cases hh
   exact ⟨q1, by omega⟩
  rw [if_neg h2] at hh
  by_cases h3 : isP jbu ts = true
  ·rw [if_pos h3] at hh
   obtain ⟨q1, q2⟩ := h.is h3
   exact num _ _ _ q1 q2 hh
  rw [if_neg h3] at hh
  by_cases h4 : isP je8 ts = true
  ·rw [if_pos h4] at hh
   obtain ⟨q1, q2⟩ := h.is h4
   exact num _ _ _ q1 q2 hh
  rw [if_neg h4] at hh
  cases hh
def jjJ : List A := [.v (.slice none 0 0), .v (.slice none 0 0), .v (.slice none 0 0)]
theorem jjC (l m : List ByteArray) : txA (l ++ m) = txA l ++ txA m := by unfold txA; rw [List.map_append]
set_option maxHeartbeats 1000000 in
theorem jkU (ts : List Tk) (h : TkP ts) : SpecP Tryz.prog 102 [bxN ts ++ [.v (.slice none 0 0)]] [.box 0 0] (fun o r => (∃ nm ts', o = [bxQ nm ts']) /\ uoQ (jxi ts) r) (puQ (jxi ts)) := by
 obtain ⟨P, hP⟩ : ∃ P, jxi ts = P := ⟨_, rfl⟩
 rw [hP]
 have hb0 := h.1.2
 refine jew (jao jz1 (fun _ => [0]) 1 (fun ch _ => puQ P ch)) (fun _ _ h => h) Tryz.func102 rfl (by kernel_rfl) rfl ?_;intro _;conv => whnf
 refine jbr (jao _ _ _ _) (by kernel_rfl) ?_;conv => whnf
 refine jbr (jao _ _ _ _) (by kernel_rfl) ?_;conv => whnf
 refine jbr (jao _ _ _ _) (by kernel_rfl) ?_;conv => whnf
 refine jbT 9 1 [] [(0, 1)] ?_;conv => whnf
 refine ⟨trivial, ?_⟩;conv => whnf
 refine jbT 9 1 [] [(2, 0)] ?_;conv => whnf
 refine ⟨trivial, ?_⟩;conv => whnf
 refine jbT 9 1 [] [(2, 1)] ?_;conv => whnf
 refine ⟨trivial, ?_⟩;conv => whnf
 refine ja5 [0, 2, 3] ?_;conv => whnf
 refine jaj (fun x : Nat × List ByteArray × List ByteArray × List ByteArray × List Tk => []) (fun x => [bxN x.2.2.2.2 ++ [.own 0], jjJ, [.own 1, .own 2, .v (.slice none 0 0)]]) (fun x => [.live 9 1 x.2.1.length (txA x.2.1), .live 9 1 x.2.2.1.length (txA x.2.2.1), .live 9 1 x.2.2.2.1.length (txA x.2.2.2.1)])
  (fun x => TkP x.2.2.2.2 /\ x.2.2.2.2.length + 1 <= x.1 /\ x.2.1.length <= 16 /\ x.2.2.1.length + x.2.2.2.1.length + x.2.2.2.2.length <= 1000001 /\ jsf x.1 x.2.1 x.2.2.1 x.2.2.2.1 x.2.2.2.2 = P) (fun x => x.2.2.2.2.length) (ts.length + 1, [], [], [], ts) ?_ ⟨h, Nat.le_refl _, Nat.zero_le _, by simp only [List.length_nil]; omega, hP⟩ ?_
 ·repeat' constructor
 rintro ⟨n0, nm, du, vo, ts0⟩ ⟨g1, g2, g3, g4, hP⟩
 simp only at g1 g2 g3 g4 hP
 obtain ⟨n, rfl⟩ : ∃ n, n0 = n + 1 := ⟨n0 - 1, by omega⟩
 have hpos := g1.pos
 rw [jsf] at hP
 have his := fun s => jxX ts0 hpos s
 conv => whnf
 refine jaH 0 0 3 [] rfl rfl rfl rfl rfl rfl rfl (fun _ => (his jd9).rp rfl rfl _ _ _ _) (fun ch bx' hp => hp.elim) ?_;rintro o n' cs' r ⟨c, ho, rfl, rfl, rfl, rfl⟩;cases ho;conv => whnf
 cases hq1 : isP jd9 ts0 with
 | true =>
  rw [if_pos hq1] at hP
  have hkd := jbS hq1
  have hde := jka nm ts0 g1 hkd g3
  conv => whnf
  refine jaH 0 3 4 [] rfl rfl rfl rfl rfl rfl rfl (fun _ => (his jd9).rp rfl rfl _ _ _ _) (fun ch bx' hp => hp.elim) ?_;rintro o n' cs' r ⟨c, ho, rfl, rfl, rfl, rfl⟩;cases ho;conv => whnf
  rw [hq1];conv => whnf
  unfold jhx;refine ⟨_, ?_, fun _ h => h⟩;conv => whnf
  refine ⟨?_, ?_⟩
  ·refine jaH 0 4 5 [] rfl rfl rfl rfl rfl rfl rfl (fun _ => hde) (fun ch bx' hp _ _ => ?_) ?_
   ·unfold pdQ at hp
    split at hp
    ·rename_i he
     rw [he] at hP;exact jh9 hP.symm hp
    ·exact hp.elim
   rintro o n' cs' r hdo;unfold doQ at hdo
   split at hdo
   rotate_left
   ·exact hdo.elim
   rename_i nm2 out r1 he
   obtain ⟨ho, rfl, rfl, rfl⟩ := hdo
   rw [he] at hP
   simp only at hP
   obtain ⟨k1, k2, k3, k4⟩ := jc7 _ _ _ _ _ _ _ g1 hkd g3 he
   simp only [List.length_nil] at k4;cases ho;conv => whnf
   refine ⟨⟨by simp only; unfold maxLen; omega, by simp only; omega⟩, ?_⟩;conv => whnf
   refine ⟨(n, nm2, du ++ out, vo, r1), ja1 [5, 1, 2] ?_, ⟨k1, by simp only; omega, k3, by simp only [List.length_append]; omega, hP⟩, by simp only; omega⟩;conv => whnf
   simp only [List.length_append, jjC]
   repeat' constructor
  ·refine jaH 0 4 5 [] rfl rfl rfl rfl rfl rfl rfl (fun _ => hde) (fun ch bx' hp _ _ => ?_) ?_
   ·unfold pdQ at hp
    split at hp
    ·rename_i he
     rw [he] at hP;exact jh9 hP.symm hp
    ·exact hp.elim
   rintro o n' cs' r hdo;unfold doQ at hdo
   split at hdo
   rotate_left
   ·exact hdo.elim
   rename_i nm2 out r1 he
   obtain ⟨ho, rfl, rfl, rfl⟩ := hdo
   rw [he] at hP
   simp only at hP
   obtain ⟨k1, k2, k3, k4⟩ := jc7 _ _ _ _ _ _ _ g1 hkd g3 he
   simp only [List.length_nil] at k4;cases ho;conv => whnf
   refine ⟨⟨by simp only; unfold maxLen; omega, by simp only; omega⟩, ?_⟩;conv => whnf
   refine ⟨(n, nm2, du ++ out, vo, r1), ja1 [5, 1, 2] ?_, ⟨k1, by simp only; omega, k3, by simp only [List.length_append]; omega, hP⟩, by simp only; omega⟩;conv => whnf
   simp only [List.length_append, jjC]
   repeat' constructor
 | false =>
  rw [if_neg (by rw [hq1]; simp)] at hP;conv => whnf
  refine jaH 0 3 4 [] rfl rfl rfl rfl rfl rfl rfl (fun _ => (his jdH).rp rfl rfl _ _ _ _) (fun ch bx' hp => hp.elim) ?_;rintro o n' cs' r ⟨c, ho, rfl, rfl, rfl, rfl⟩;cases ho;conv => whnf
  cases hq2 : isP jdH ts0 with
  | true =>
   rw [if_pos hq2] at hP
   have hkd := jbS hq2
   have hde := jka nm ts0 g1 hkd g3
   conv => whnf
   refine jaH 0 4 5 [] rfl rfl rfl rfl rfl rfl rfl (fun _ => (his jd9).rp rfl rfl _ _ _ _) (fun ch bx' hp => hp.elim) ?_;rintro o n' cs' r ⟨c, ho, rfl, rfl, rfl, rfl⟩;cases ho;conv => whnf
   rw [hq1];conv => whnf
   unfold jhx;refine ⟨_, ?_, fun _ h => h⟩;conv => whnf
   refine ⟨?_, ?_⟩
   ·refine jaH 0 5 6 [] rfl rfl rfl rfl rfl rfl rfl (fun _ => hde) (fun ch bx' hp _ _ => ?_) ?_
    ·unfold pdQ at hp
     split at hp
     ·rename_i he
      rw [he] at hP;exact jh9 hP.symm hp
     ·exact hp.elim
    rintro o n' cs' r hdo;unfold doQ at hdo
    split at hdo
    rotate_left
    ·exact hdo.elim
    rename_i nm2 out r1 he
    obtain ⟨ho, rfl, rfl, rfl⟩ := hdo
    rw [he] at hP
    simp only at hP
    obtain ⟨k1, k2, k3, k4⟩ := jc7 _ _ _ _ _ _ _ g1 hkd g3 he
    simp only [List.length_nil] at k4;cases ho;conv => whnf
    refine ⟨⟨by simp only; unfold maxLen; omega, by simp only; omega⟩, ?_⟩;conv => whnf
    refine ⟨(n, nm2, du, vo ++ out, r1), ja1 [6, 1, 2] ?_, ⟨k1, by simp only; omega, k3, by simp only [List.length_append]; omega, hP⟩, by simp only; omega⟩;conv => whnf
    simp only [List.length_append, jjC]
    repeat' constructor
   ·refine jaH 0 5 6 [] rfl rfl rfl rfl rfl rfl rfl (fun _ => hde) (fun ch bx' hp _ _ => ?_) ?_
    ·unfold pdQ at hp
     split at hp
     ·rename_i he
      rw [he] at hP;exact jh9 hP.symm hp
     ·exact hp.elim
    rintro o n' cs' r hdo;unfold doQ at hdo
    split at hdo
    rotate_left
    ·exact hdo.elim
    rename_i nm2 out r1 he
    obtain ⟨ho, rfl, rfl, rfl⟩ := hdo
    rw [he] at hP
    simp only at hP
    obtain ⟨k1, k2, k3, k4⟩ := jc7 _ _ _ _ _ _ _ g1 hkd g3 he
    simp only [List.length_nil] at k4;cases ho;conv => whnf
    refine ⟨⟨by simp only; unfold maxLen; omega, by simp only; omega⟩, ?_⟩;conv => whnf
    refine ⟨(n, nm2, du, vo ++ out, r1), ja1 [6, 1, 2] ?_, ⟨k1, by simp only; omega, k3, by simp only [List.length_append]; omega, hP⟩, by simp only; omega⟩;conv => whnf
    simp only [List.length_append, jjC]
    repeat' constructor
  | false =>
   rw [if_neg (by rw [hq2]; simp)] at hP
   have g4' : du.length + vo.length <= 1000001 := by omega
   conv => whnf
   refine jbr (jao _ _ _ _) (by kernel_rfl) ?_;conv => whnf
   refine jbr (jao _ _ _ _) (by kernel_rfl) ?_;conv => whnf
   refine jbg [4] ?_;conv => whnf
   refine jnH [1, 2, 5] ?_;conv => whnf
   refine ja5 [0, 2, 3, 4] ?_;conv => whnf
   refine jaj (fun x : Nat × List (Int × Nt) × List Tk => []) (fun x => [bxQ nm x.2.2, jjJ, [.own 0, .own 1, .v (.slice none 0 0)]]) (fun x => [.live 9 1 du.length (txA du), .live 9 1 vo.length (txA vo), .live 165 0 x.2.1.length [.clo 0 (mkA (jfo x.2.1)), .clo 0 (mvA (jfo x.2.1))]])
    (fun x => TkP x.2.2 /\ x.2.2.length + 1 <= x.1 /\ (x.2.1.map (·.1)).Nodup /\ x.2.1.length + x.2.2.length <= 1000000 /\ jso du vo x.1 x.2.1 x.2.2 = P) (fun x => x.2.2.length) (ts0.length + 1, [], ts0) ?_ ⟨g1, Nat.le_refl _, List.nodup_nil, by have := g1.1.2; simp only [List.length_nil]; omega, hP⟩ ?_
   ·repeat' constructor
    show Row.live _ _ _ _ = Row.live _ 0 0 [.clo 0 (mkA (jfo [])), .clo 0 (mvA (jfo []))]
    rw [show jfo [] = [] from rfl, juY, juZ]
   clear hP hq1 hq2 his hpos g2 g1;rintro ⟨n0, hs, ts1⟩ ⟨g1, g2, gnd, g5, hP⟩
   simp only at g1 g2 gnd g5 hP
   obtain ⟨n1, rfl⟩ : ∃ n1, n0 = n1 + 1 := ⟨n0 - 1, by omega⟩
   have hpos := g1.pos
   rw [jq9] at hP
   have hr := jde hpos
   have htl := g1.tail
   have hbl := fun r (q : TkP r) => jlV nm r q
   generalize ht1 : hd ts1 = t1 at *;conv => whnf
   (refine goA ?_; try with_reducible exact trivial)
   (generalize hrq : ja2 _ _ (je6 ts1) = rq; obtain rfl : rq = tkL t1 := hrq.symm.trans (hr); clear hrq; conv => whnf)
   by_cases hk : t1.kind = 0
   ·rw [decide_eq_true hk];rw [if_pos hk] at hP;conv => whnf
    refine jmq 2 ?_;refine jab _ ?_;conv => whnf
    have hlh : (jfo hs).length = hs.length := by unfold jfo; rw [List.length_map]
    have hso := jld (jfo hs) ((joQ hs).2 gnd) (by omega)
    rw [jp9, hlh] at hso
    have hpm := jfP hs
    have hfind := fun h (hm : h ∈ jfO hs) => jsl gnd (hpm.mem_iff.1 hm)
    have hln : hs.length = (jfO hs).length := hpm.length_eq.symm
    rw [hln] at hso;refine jaW (jao _ _ _ _) (by kernel_rfl) ?_;conv => whnf
    refine jyr 3 [] rfl rfl (fun _ => joJ _ _) ?_;rintro e k n r x ⟨rfl, rfl, rfl, rfl, rfl⟩;conv => whnf
    refine jwo 3 4 [] rfl rfl rfl rfl (fun _ => hso) ?_;rintro n' cs' r rfl;generalize jfO hs = L at *;conv => whnf
    refine jbT 67 5 [] [(2, 2)] ?_;conv => whnf
    refine ⟨trivial, ?_⟩;conv => whnf
    refine jnH [0, 1, 5] ?_;conv => whnf
    refine ja5 [2, 3, 4, 50, 51] ?_;conv => whnf
    refine jaj (fun j : Nat => [(52, .v (.int .i64 j))]) (fun _ => [bxQ nm ts1, jjJ, [.own 0, .own 1, .own 2]]) (fun j => [.live 9 1 du.length (txA du), .live 9 1 vo.length (txA vo), .live 67 5 (L.take j).length (jgT (L.take j))])
     (fun j => j <= L.length) (fun j => L.length - j) 0 ?_ (Nat.zero_le _) ?_
    ·repeat' constructor
     show Row.live _ _ _ _ = Row.live _ 5 0 (jgT [])
     rw [jns]
    intro j hj;conv => whnf
    by_cases hlt : j < L.length
    ·have hrow : ja2 1 j ((L.map fun x => x.1).map intA) = [intA L[j].1] := by
      have := jcc intA (L.map fun x => x.1) j (by simpa using hlt)
      rw [this, List.getElem_map]
     have hfj := hfind L[j] (List.getElem_mem hlt)
     have htk : L.take (j + 1) = L.take j ++ [L[j]] := List.take_succ_eq_append_getElem hlt
     have hlj : (L.take j).length = j := by rw [List.length_take]; omega
     generalize L[j] = h at *
     (refine goA ?_; try with_reducible exact trivial)
     (generalize hrq : ja2 _ _ ((L.map fun x => x.1).map intA) = rq; obtain rfl : rq = [intA h.1] := hrq.symm.trans (hrow); clear hrq; conv => whnf)
     refine jaL _ _ ?_;rw [hfj];conv => whnf
     refine ⟨⟨by unfold maxLen; omega, by omega⟩, ?_⟩;conv => whnf
     refine ⟨jam (by omega), ?_⟩;conv => whnf
     refine ⟨j + 1, ja1 [0, 1, 2] ?_, hlt, by omega⟩;conv => whnf
     rw [htk]
     repeat' constructor
     show Row.live _ 5 _ _ = Row.live _ 5 (L.take j ++ [h]).length (jgT (L.take j ++ [h]))
     rw [jkl, List.length_append]; rfl
    ·(refine goA ?_; try with_reducible exact trivial)
     rw [show j = L.length by omega, List.take_length];subst hP;exact ⟨⟨nm, ts1, rfl⟩, rfl⟩
   ·rw [decide_eq_false hk];rw [if_neg hk] at hP
    obtain ⟨q1, q2⟩ := htl hk
    have hx := jae nm ts1 hpos wOn
    rw [ht1] at hx;generalize ts1.tail = ts2 at *
    have hh := jqf nm hs ts2 q1
    rw [jsE, <- jsG] at hh
    have hhok := fun k r => jtF (hs := hs) (k := k) (r := r) q1
    conv => whnf
    refine ja3 0 [] rfl rfl rfl rfl (fun _ => hx) (fun ch bx' hp => ?_) ?_
    ·rw [if_pos hp.1] at hP;exact jh9 hP.symm hp.2
    rintro o r ⟨hon, ho, rfl⟩;cases ho;rw [if_neg (by rw [hon]; simp)] at hP;conv => whnf
    refine jwn 0 2 rfl rfl rfl (jab _ rfl) rfl hh (fun o r hho => ?_) (fun ch bx' hp _ _ => ?_) ?_
    ·unfold hoQ at hho
     split at hho
     ·obtain ⟨rfl, rfl⟩ := hho
      exact ⟨fun c hc => by rw [List.mem_singleton.1 hc]; exact jsI _ _, rfl⟩
     ·exact hho.elim
    ·unfold phQ at hp
     split at hp
     ·rename_i he
      rw [he] at hP;exact jh9 hP.symm hp
     ·exact hp.elim
    rintro o r hho;unfold hoQ at hho
    split at hho
    rotate_left
    ·exact hho.elim
    rename_i k r1 he
    obtain ⟨ho, rfl⟩ := hho
    rw [he] at hP
    simp only at hP
    obtain ⟨hnk, k1, k2⟩ := hhok _ _ he
    have hb := hbl r1 k1
    cases ho;conv => whnf
    refine ja3 0 [] rfl rfl rfl rfl (fun _ => hb) (fun ch bx' hp => ?_) ?_
    ·obtain ⟨x, e, he, hc⟩ := jaJ hp
     rw [he] at hP;exact jh9 hP.symm hc
    rintro o r hpo
    obtain ⟨b, r2, he2, ho, rfl⟩ := jap hpo
    cases ho;rw [he2] at hP
    simp only at hP
    obtain ⟨k3, k4⟩ := jgD _ _ _ k1 he2
    conv => whnf
    refine jkr (fun p hp => ?_) ?_
    ·unfold jfo at hp
     obtain ⟨q, hq, rfl⟩ := List.mem_map.1 hp
     exact hnk q hq
    conv => whnf
    refine ⟨(n1, hs ++ [(k, b)], r2), ja1 [0, 1, 2] ?_, ⟨k3, by simp only; omega, ?_, by simp only [List.length_append, List.length_cons, List.length_nil]; omega, hP⟩, by simp only; omega⟩
    ·conv => whnf
     repeat' constructor
     show Row.live _ 0 (hs.length + 1) [.clo 0 (mkA (jfo hs ++ [(k, .agg (intA k :: ntA b))])), .clo 0 (mvA (jfo hs ++ [(k, .agg (intA k :: ntA b))]))] = Row.live _ 0 (hs ++ [(k, b)]).length [.clo 0 (mkA (jfo (hs ++ [(k, b)]))), .clo 0 (mvA (jfo (hs ++ [(k, b)])))]
     rw [jqa, List.length_append]; rfl
    ·simp only
     rw [List.map_append, List.nodup_append];refine ⟨gnd, by simp, fun a ha c hc e => ?_⟩
     simp at hc
     subst hc
     obtain ⟨q, hq, rfl⟩ := List.mem_map.1 ha
     exact hnk q hq e.symm
end Go.Proofs.YtfbifdccmabdbaaGreatDoor.Vm
namespace Go.Proofs.YtfbifdccmabdbaaGreatDoor.Vm
open Go.RowKit Go.Shelf
set_option linter.unusedSimpArgs false
set_option linter.unusedVariables false
set_option maxRecDepth 100000
theorem jwL {c : UInt8} (h : isD c = true) : c.toNat - 48 <= 9 := by
 simp only [isD, Bool.and_eq_true, decide_eq_true_eq] at h;omega
theorem jjf (n : Nat) : jtK n [] = n := rfl
theorem jkL (n : Nat) (c : UInt8) (r : List UInt8) : jtK n (c :: r) = jtK (10 * n + (c.toNat - 48)) r := by kernel_rfl
theorem jv3 (l : List UInt8) : ∀ (n : Nat), jrP l = true -> jtK n l + 1 <= (n + 1) * 10 ^ l.length := by
 induction l with
 | nil => intro n _; rw [jjf]; simp
 | cons c r ih =>
  intro n h;simp only [jrP, List.all_cons, Bool.and_eq_true] at h
  have := jwL h.1
  have ih := ih (10 * n + (c.toNat - 48)) h.2
  rw [jkL, List.length_cons, Nat.pow_succ];refine Nat.le_trans ih ?_;generalize 10 ^ r.length = p at *;rw [show (n + 1) * (p * 10) = (10 * n + 10) * p by rw [Nat.mul_comm p 10, <- Nat.mul_assoc]; congr 1; omega];exact Nat.mul_le_mul_right _ (by omega)
theorem jmE {l : List UInt8} (h : l.length <= 10) : jlc l := fun k hk hd => by
 have h1 := jv3 _ 0 hd
 have h2 : (l.take k).length <= 10 := by rw [List.length_take]; omega
 have h3 : 10 ^ (l.take k).length <= 10 ^ 10 := Nat.pow_le_pow_right (by decide) h2
 have h4 : (10 : Nat) ^ 10 = 10000000000 := by decide
 omega
theorem jkM : ∀ (l : List UInt8) (n : Nat) (k : Nat), 0 <= jhr n l -> jrP l = true -> n <= 2147483647 -> jtK n (l.take k) <= 2147483647
 | [], n, k, _, _, hn => by rw [List.take_nil, jjf]; exact hn
 | c :: r, n, k, h, hd, hn => by
  simp only [jrP, List.all_cons, Bool.and_eq_true] at hd
  have hc := hd.1
  simp only [isD, Bool.and_eq_true, decide_eq_true_eq] at hc;rw [jhr] at h
  split at h
  ·omega
  ·rename_i hv
   cases k with
   | zero => rw [List.take_zero, jjf]; exact hn
   | succ k =>
    rw [List.take_succ_cons, jkL]
    have e : (((10 * n + (c.toNat - 48) : Nat)) : Int) = 10 * (n : Int) + c.toNat - 48 := by omega
    refine jkM r (10 * n + (c.toNat - 48)) k ?_ hd.2 (by omega);rw [e]; exact h
theorem jjQ : ∀ r : List UInt8, jrP (r.take (jaf isD r)) = true
 | [] => rfl
 | c :: r => by
  rw [jaf]
  cases h : isD c with
  | false => rfl
  | true =>
   simp only [List.take_succ_cons, jrP, List.all_cons, h, Bool.true_and];exact jjQ r
theorem jiY (s : ByteArray) : (jm1 s).1.size <= s.size := by
 cases h : s.data.toList with
 | nil => rw [jse h]; exact Nat.le_refl _
 | cons c r =>
  have hl := jb3 s
  rw [h, List.length_cons] at hl
  by_cases hc : c = 118
  ·subst hc;rw [jwu h, jfr]; omega
  ·rw [jpR h hc]; exact Nat.le_refl _
theorem jgI {s : ByteArray} (h : s.size <= 10) : jlc (jm1 s).1.data.toList := by
 have h1 := jiY s
 have h2 := jb3 (jm1 s).1
 exact jmE (by omega)
theorem jrv {l : List UInt8} {k : Int} {len : Nat} {n : Int} (h : jbf l = .tok k len n) : jlc (jm1 (bs (l.take len))).1.data.toList := by
 have hle := je7 h
 have hsz : (bs (l.take len)).size = len := jdG l len hle.2
 cases l with
 | nil => simp [jbf] at h
 | cons c r =>
  cases hL : isL c
  ·cases hD : isD c
   ·refine jgI ?_
    cases h3 : jdg jpd (bs ((c :: r).take 2))
    ·cases h4 : jdg jqJ (bs [c])
     ·simp only [jbf, hL, hD, h3, h4] at h
      cases h
     ·simp only [jbf, hL, hD, h3, h4] at h
      cases h; omega
    ·simp only [jbf, hL, hD, h3] at h
     cases h; omega
   ·simp only [jbf, hL, hD] at h
    split at h
    ·cases h
    ·rename_i hv
     cases h
     have hc : c ≠ 118 := fun e => by subst e; simp [isD] at hD; 
     have hlist : (bs ((c :: r).take (jaf isD r + 1))).data.toList = c :: r.take (jaf isD r) := by rw [jbL, List.take_succ_cons]
     rw [jpR hlist hc, hlist];intro j hj hd
     have h0 : jrP (c :: r.take (jaf isD r)) = true := by
      simp only [jrP, List.all_cons, hD, Bool.true_and];exact jjQ r
     have := jkM (c :: r.take (jaf isD r)) 0 j (by simpa using hv) h0 (by omega)
     omega
  ·simp only [jbf, hL] at h
   split at h
   ·cases h
   ·cases h
    exact jgI (by omega)
theorem jdS : ∀ (f p : Nat) (l : List UInt8), ∀ t ∈ (jeB f p l).toks, jlc (jm1 t.text).1.data.toList
 | 0, p, l => by simp [jeB]
 | f + 1, p, [] => by simp [jeB]
 | f + 1, p, c :: r => by
  rw [jeB]
  split
  ·exact jdS f _ _
  ·split
   ·exact jdS f _ _
   ·cases ht : jbf (c :: r) with
    | bad e => simp
    | tok k len n =>
     intro t hm;simp only [Lx.cons, List.mem_cons] at hm
     rcases hm with rfl | hm
     ·exact jrv ht
     ·exact jdS f _ _ t hm
theorem ju5 {e : Tk} (he : jls e /\ e.kind = 0 /\ e.text.data.toList = []) : ∀ l : List Tk, (∀ t ∈ l, jls t /\ t.kind ≠ 0) -> TkW (l ++ [e])
 | [], _ => ⟨he.1, .inl ⟨rfl, he.2⟩⟩
 | t :: l, h => ⟨(h t (by simp)).1, .inr ⟨(h t (by simp)).2, ju5 he l fun x hx => h x (by simp [hx])⟩⟩
theorem jvp {s : ByteArray} (hs : s.size <= 3000) (he : (jb0 s).err = none) : TkB (jmx s) := by
 rw [jcR he]
 have hl := jb3 s
 have hlen := (jd4 (s.data.toList.length + 1) 0 s.data.toList).1
 refine ⟨ju5 ⟨⟨?_, ?_, ?_, ?_⟩, rfl, rfl⟩ _ fun t ht => ?_, ?_⟩
 ·show (⟨#[]⟩ : ByteArray).size <= _; decide
 ·exact jgI (by show (⟨#[]⟩ : ByteArray).size <= _; decide)
 ·exact Nat.le_trans (jiY _) (by show (⟨#[]⟩ : ByteArray).size <= _; decide)
 ·exact ⟨by show (0 : Int) <= 0; decide, by show (0 : Int) <= _; decide, by show s.size <= _; omega⟩
 ·have h1 := jfA (s.data.toList.length + 1) 0 s.data.toList (by omega) t ht
  exact ⟨⟨h1.2.2.1, jdS _ _ _ t ht, Nat.le_trans (jiY _) h1.2.2.1, h1.2.2.2.1, h1.2.2.2.2, h1.2.1⟩, by have := h1.1.1; omega⟩
 ·have : (jb0 s).toks.length <= s.data.toList.length := hlen
  simp only [List.length_append, List.length_cons, List.length_nil];omega
def K6 (t : Tk) : Prop := (t.kind = 1 /\ ∃ c r, t.text.data.toList = c :: r /\ isL c = true /\ ∀ x ∈ c :: r, jgm x = true) ∨ (t.kind = 3 /\ ∃ c r, t.text.data.toList = c :: r /\ jgm c = false) ∨ (t.kind = 0 /\ t.text.data.toList = []) ∨ (t.kind = 2 /\ ∃ c r, t.text.data.toList = c :: r /\ isD c = true)
theorem jxx {l : List UInt8} {k : Int} {len : Nat} {n : Int} {p : Nat} (h : jbf l = .tok k len n) : K6 ⟨k, p, bs (l.take len), n⟩ := by
 unfold K6;simp only [jbL]
 cases l with
 | nil => simp [jbf] at h
 | cons c r =>
  cases hL : isL c
  ·cases hD : isD c
   ·have h3 : k = 3 /\ (len = 1 ∨ len = 2) := by
     cases h3 : jdg jpd (bs ((c :: r).take 2))
     ·cases h4 : jdg jqJ (bs [c])
      ·simp only [jbf, hL, hD, h3, h4] at h
       cases h
      ·simp only [jbf, hL, hD, h3, h4] at h
       cases h; exact ⟨rfl, .inl rfl⟩
     ·simp only [jbf, hL, hD, h3] at h
      cases h; exact ⟨rfl, .inr rfl⟩
    right; left
    refine ⟨h3.1, c, r.take (len - 1), ?_, by unfold jgm; rw [hL, hD]; rfl⟩
    rcases h3.2 with e | e <;> rw [e] <;> rfl
   ·simp only [jbf, hL, hD] at h
    split at h
    ·cases h
    ·cases h
     exact .inr (.inr (.inr ⟨rfl, c, r.take (jaf isD r), List.take_succ_cons, hD⟩))
  ·simp only [jbf, hL] at h
   split at h
   ·cases h
   ·cases h
    left
    refine ⟨rfl, c, r.take (jaf jgm r), List.take_succ_cons, hL, fun x hx => ?_⟩
    rcases List.mem_cons.1 hx with rfl | hx
    ·unfold jgm; rw [hL]; rfl
    ·exact jhn jgm r x hx
theorem jjc : ∀ (f p : Nat) (l : List UInt8), ∀ t ∈ (jeB f p l).toks, K6 t
 | 0, p, l => by simp [jeB]
 | f + 1, p, [] => by simp [jeB]
 | f + 1, p, c :: r => by
  rw [jeB]
  split
  ·exact jjc f _ _
  ·split
   ·exact jjc f _ _
   ·cases ht : jbf (c :: r) with
    | bad e => simp
    | tok k len n =>
     intro t hm;simp only [Lx.cons, List.mem_cons] at hm
     rcases hm with rfl | hm
     ·exact jxx ht
     ·exact jjc f _ _ t hm
theorem jxm {s : ByteArray} (he : (jb0 s).err = none) : ∀ t ∈ jmx s, K6 t := fun t ht => by
 rw [jcR he, List.mem_append] at ht
 rcases ht with ht | ht
 ·exact jjc _ _ _ t ht
 ·rw [List.mem_singleton.1 ht];exact .inr (.inr (.inl ⟨rfl, rfl⟩))
theorem joG {c : UInt8} (h : jgm c = true) : c ≠ 32 := fun e => by subst e; revert h; decide
theorem jtH {t : Tk} (h : K6 t) : wOk t := fun hk => by
 rcases h with ⟨_, c, r, h1, _, h3⟩ | ⟨h1, _⟩ | ⟨h1, _⟩ | ⟨h1, _⟩
 ·rw [h1];exact ⟨by simp, fun x hx => joG (h3 x hx)⟩
 ·omega
 ·omega
 ·omega
theorem jvq {s : ByteArray} (hs : s.size <= 3000) (he : (jb0 s).err = none) : TkP (jmx s) := ⟨jvp hs he, fun t ht => jtH (jxm he t ht)⟩
def okE (x e : Int) : Prop := (0 <= x /\ x <= 1000000000) /\ 0 < e /\ e <= 100
def jlE (p : Pn) : Prop := match p with
 | .bad x e => okE x e
 | _ => True
def jhv (op : List Tk -> Pn) : Prop := ∀ ts, TkP ts -> jlE (op ts)
theorem TkP.hp {ts : List Tk} (h : TkP ts) : (Vm.hd ts).pos <= 1000000000 := h.good.2.2.2.2.2
theorem jdD {ts : List Tk} (h : TkP ts) {e : Int} (he : 0 < e /\ e <= 100) : jlE (.bad (hd ts).pos e) := ⟨⟨by omega, by have := h.hp; omega⟩, he⟩
theorem jaz {p : Pn} {k : Nt -> List Tk -> Pn} (h : jlE p) (hk : ∀ f r, p = .ok f r -> jlE (k f r)) : jlE (p.andThen k) := by
 cases p with
 | ok f r => exact hk f r rfl
 | bad x e => exact h
theorem jbl {s : ByteArray} {ts : List Tk} {k : List Tk -> Pn} (h : TkP ts) (hk : TkP ts.tail -> jlE (k ts.tail)) : jlE (xpt s ts k) := by
 unfold xpt
 by_cases hs : isP s ts = true
 ·rw [if_pos hs]; exact hk (h.is hs).1
 ·rw [if_neg hs]; exact jdD h (by decide)
theorem jmz {lim : Int} {ts : List Tk} {k : Int -> List Tk -> Pn} (h : TkP ts) (hk : TkP ts.tail -> jlE (k (hd ts).n ts.tail)) : jlE (jjL lim ts k) := by
 unfold jjL
 by_cases h1 : (hd ts).kind ≠ 2
 ·rw [if_pos h1]; exact jdD h (by decide)
 ·rw [if_neg h1]
  by_cases h2 : lim <= (hd ts).n
  ·rw [if_pos h2]; exact jdD h (by decide)
  ·rw [if_neg h2];exact hk (h.tail (by rw [Decidable.not_not.1 h1]; decide)).1
theorem jfL {ts : List Tk} (h : TkP ts) : jlE (synE ts) := jdD h (by decide)
def jrN (low : Option Pa) : Prop := ∀ p, low = some p -> jhv p.no /\ jhv p.un /\ jhv p.ex /\ jhv p.bl
theorem jo9 {low : Option Pa} (hg : jjK low) (hl : jrN low) : jhv (jhF low) := fun ts h => by
 unfold jhF
 by_cases hs : isP pLp ts = true
 ·rw [if_pos hs]
  cases low with
  | none => exact jdD h (by decide)
  | some p =>
   have q := (h.is hs).1
   exact jaz ((hl p rfl).2.2.1 _ q) fun f r e => jbl ((hg p rfl).2.2.1 _ _ _ q e).1 fun _ => trivial
 ·rw [if_neg hs]; exact jfL h
theorem jaD {c : Prop} [Decidable c] {a b : Pn} (h1 : c -> jlE a) (h2 : ¬ c -> jlE b) : jlE (if c then a else b) := by
 by_cases h : c
 ·rw [if_pos h]; exact h1 h
 ·rw [if_neg h]; exact h2 h
theorem jsY {low : Option Pa} (hg : jjK low) (hl : jrN low) : jhv (jjl low) := fun ts h => by
 unfold jjl
 refine jaD (fun hs => jo9 hg hl ts h) fun _ => ?_
 refine jaD (fun hs => jaz (jo9 hg hl _ (h.is hs).1) fun _ _ _ => trivial) fun _ => ?_
 refine jaD (fun hs => trivial) fun _ => ?_
 refine jaD (fun hs => trivial) fun _ => ?_
 refine jaD (fun hs => trivial) fun _ => ?_
 refine jaD (fun hs => trivial) fun _ => ?_
 exact jaD (fun hs => trivial) fun _ => jfL h
theorem jrf {s : ByteArray} {op : Option (List Tk -> Pn)} (hl : ∀ f, op = some f -> jhv f) {ts : List Tk} (h : TkP ts) (hs : isP s ts = true) : jlE (jrR s op ts) := by
 cases op with
 | none => exact jdD h (by decide)
 | some f => exact jaz (hl f rfl _ (h.is hs).1) fun _ _ _ => trivial
theorem jrh {low : Option Pa} (hg : jjK low) (hl : jrN low) : jhv (jiA low) := fun ts h => by
 unfold jiA
 refine jaD (fun hs => jrf (fun f hf => ?_) h hs) fun _ => jsY hg hl ts h
 obtain ⟨p, hp, rfl⟩ := Option.map_eq_some_iff.1 hf
 exact (hl p hp).2.1
theorem jl4 {op : List Tk -> Pn} (hg : jaS op) (ho : jhv op) (signs : List ByteArray) : ∀ (n : Nat) (l : Nt) (ts : List Tk), TkP ts -> jlE (jeH op signs n l ts)
 | 0, l, ts, h => trivial
 | n + 1, l, ts, h => by
  rw [jeH]
  refine jaD (fun hs => ?_) fun _ => trivial
  obtain ⟨s, hs⟩ := jfp hs
  have q := (h.is hs).1
  exact jaz (ho _ q) fun f r e => jl4 hg ho signs n _ _ (hg _ _ _ q e).1
theorem jjs {op : List Tk -> Pn} (hg : jaS op) (ho : jhv op) (signs : List ByteArray) : jhv (jcZ op signs) := fun ts h => by
 unfold jcZ
 exact jaz (ho _ h) fun f r e => jl4 hg ho signs _ _ _ (hg _ _ _ h e).1
theorem jrg {low : Option Pa} (hg : jjK low) (hl : jrN low) : jhv (jvA low) := jjs (jcq (jdP hg) _) (jjs (jdP hg) (jrh hg hl) _) _
theorem jre {low : Option Pa} (hg : jjK low) (hl : jrN low) : jhv (ntG low) := fun ts h => by
 unfold ntG
 refine jaD (fun hs => jrf (fun f hf => ?_) h hs) fun _ => ?_
 ·obtain ⟨p, hp, rfl⟩ := Option.map_eq_some_iff.1 hf
  exact (hl p hp).1
 ·refine jaz (jrg hg hl _ h) fun l r e => ?_
  have q := (jgl hg _ _ _ h e).1
  refine jaD (fun hs => ?_) fun _ => trivial
  obtain ⟨s, hs⟩ := jfp hs
  exact jaz (jrg hg hl _ (q.is hs).1) fun _ _ _ => trivial
theorem jrd {low : Option Pa} (hg : jjK low) (hl : jrN low) : jhv (jvV low) := jjs (jcq (jdO hg) _) (jjs (jdO hg) (jre hg hl) _) _
theorem jxp {ex bl : List Tk -> Pn} (gex : jaS ex) (gbl : jaS bl) (hex : jhv ex) (hbl : jhv bl) : jhv (stG ex bl) := fun ts h => by
 unfold stG
 refine jaD (fun hn => ?_) fun _ => ?_
 ·have q := (h.tail (by rw [jcM hn]; decide)).1
  exact jbl q fun q => jaz (hex _ q) fun f r e => jbl (gex _ _ _ q e).1 fun _ => trivial
 refine jaD (fun _ => jfL h) fun hk => ?_
 have q := (h.tail (by rw [Decidable.not_not.1 hk]; decide)).1
 refine jaD (fun _ => jaz (hex _ q) fun f r e => jaz (hbl _ (gex _ _ _ q e).1) fun f2 r2 e2 => jaD (fun hs => jaz (hbl _ ((gbl _ _ _ (gex _ _ _ q e).1 e2).1.is hs).1) fun _ _ _ => trivial) fun _ => trivial) fun _ => ?_
 refine jaD (fun _ => jaz (hex _ q) fun f r e => jaz (hbl _ (gex _ _ _ q e).1) fun _ _ _ => trivial) fun _ => ?_
 refine jaD (fun _ => jaz (hex _ q) fun f r e => jbl (gex _ _ _ q e).1 fun q => jmz q fun q => jbl q fun q => jaz (hex _ q) fun f r e => jbl (gex _ _ _ q e).1 fun q => jaz (hex _ q) fun f r e => jbl (gex _ _ _ q e).1 fun _ => trivial) fun _ => ?_
 refine jaD (fun _ => jmz q fun q => jbl q fun _ => trivial) fun _ => ?_
 refine jaD (fun _ => jmz q fun q => jbl q fun _ => trivial) fun _ => ?_
 refine jaD (fun _ => jbl q fun _ => trivial) fun _ => ?_
 refine jaD (fun _ => jaz (hex _ q) fun f r e => jbl (gex _ _ _ q e).1 fun q => jaz (hex _ q) fun f r e => jbl (gex _ _ _ q e).1 fun _ => trivial) fun _ => ?_
 refine jaD (fun _ => jaz (hex _ q) fun f r e => jbl (gex _ _ _ q e).1 fun _ => trivial) fun _ => ?_
 exact jaD (fun _ => jbl q fun _ => trivial) fun _ => jfL h
theorem jo8 {st : List Tk -> Pn} (gst : GoesS st) (hst : jhv st) : ∀ (n : Nat) (acc : List Nt) (ts : List Tk), TkP ts -> jlE (jph st n acc ts)
 | 0, acc, ts, h => jfL h
 | n + 1, acc, ts, h => by
  rw [jph]
  exact jaD (fun _ => trivial) fun _ => jaz (hst _ h) fun f r e => jo8 gst hst n _ _ (gst _ _ _ h e).1
theorem jxn {st : List Tk -> Pn} (gst : GoesS st) (hst : jhv st) : jhv (bkF st) := fun ts h => by
 unfold bkF
 exact jbl h fun q => jo8 gst hst _ _ _ q
theorem jsX {low : Option Pa} (hl : jrN low) : jhv (jxU low) := by
 cases low with
 | none => exact fun ts h => jaD (fun _ => jdD h (by decide)) fun _ => jfL h
 | some p => exact (hl p rfl).2.2.2
theorem jtW {low : Option Pa} (hg : jjK low) (hl : jrN low) : jrN (some (paG low)) := fun p hp => by
 cases hp
 exact ⟨jre hg hl, jrh hg hl, jrd hg hl, jxn (jj5 (jd1 hg) (jcJ hg)) (jxp (jd1 hg) (jcJ hg) (jrd hg hl) (jsX hl))⟩
theorem jnU : ∀ d, jjK (some (pa d)) /\ jrN (some (pa d))
 | 0 => ⟨jm9 (fun _ h => by cases h), jtW (fun _ h => by cases h) (fun _ h => by cases h)⟩
 | d + 1 => ⟨jm9 (jnU d).1, jtW (jnU d).1 (jnU d).2⟩
theorem jvs : jhv (pa 19).bl := ((jnU 19).2 _ rfl).2.2.2
theorem jbQ {ts : List Tk} (h : TkP ts) {e : Int} (he : 0 < e /\ e <= 100) : okE (hd ts).pos e := jdD h he
theorem joa {lim off : Int} {ts : List Tk} (h : TkP ts) {x e : Int} (k : jpj lim off ts = .bad x e) : okE x e := by
 unfold jpj at k
 split at k
 ·cases k; exact jbQ h (by decide)
 ·split at k
  ·cases k; exact jbQ h (by decide)
  ·cases k
theorem jxo {hs : List (Int × Nt)} {ts : List Tk} (h : TkP ts) {x e : Int} (k : heF hs ts = .bad x e) : okE x e := by
 unfold heF at k
 cases hh : hnF ts with
 | bad x2 e2 =>
  rw [hh] at k
  cases k
  unfold hnF at hh
  by_cases h1 : isP jiC ts = true
  ·rw [if_pos h1] at hh; cases hh
  rw [if_neg h1] at hh
  by_cases h2 : isP je9 ts = true
  ·rw [if_pos h2] at hh; cases hh
  rw [if_neg h2] at hh
  by_cases h3 : isP jbu ts = true
  ·rw [if_pos h3] at hh; exact joa (h.is h3).1 hh
  rw [if_neg h3] at hh
  by_cases h4 : isP je8 ts = true
  ·rw [if_pos h4] at hh; exact joa (h.is h4).1 hh
  rw [if_neg h4] at hh
  cases hh
  exact jbQ h (by decide)
 | ok k2 r2 =>
  rw [hh] at k
  simp only at k
  split at k
  ·cases k; exact jbQ h (by decide)
  ·cases k
theorem jtV (du vo : List ByteArray) : ∀ (n : Nat) (hs : List (Int × Nt)) (ts : List Tk) (x e : Int), TkP ts -> jso du vo n hs ts = .bad x e -> okE x e
 | 0, hs, ts, x, e, h, k => by cases k; exact jbQ h (by decide)
 | n + 1, hs, ts, x, e, h, k => by
  rw [jq9] at k
  by_cases hk : (hd ts).kind = 0
  ·rw [if_pos hk] at k; cases k
  rw [if_neg hk] at k
  by_cases ho : isP wOn ts = false
  ·rw [if_pos ho] at k; cases k; exact jbQ h (by decide)
  rw [if_neg ho] at k
  have q := (h.tail hk).1
  cases hh : heF hs ts.tail with
  | bad x2 e2 => rw [hh] at k; cases k; exact jxo q hh
  | ok k2 r =>
   rw [hh] at k
   simp only at k
   obtain ⟨_, q2, _⟩ := jtF q hh
   have hb := jvs _ q2
   cases hbl : (pa 19).bl r with
   | bad x2 e2 => rw [hbl] at k hb; cases k; exact hb
   | ok b r2 =>
    rw [hbl] at k;exact jtV du vo n _ _ _ _ (jgD _ _ _ q2 hbl).1 k
theorem jrc : ∀ (n : Nat) (nm out : List ByteArray) (ts : List Tk) (x e : Int), TkP ts -> (hd ts).kind ≠ 0 -> jk6 n nm out ts = .bad x e -> okE x e
 | 0, nm, out, ts, x, e, h, hk, k => by cases k; exact jbQ h (by decide)
 | n + 1, nm, out, ts, x, e, h, hk, k => by
  rw [jiZ] at k
  have q := (h.tail hk).1
  by_cases hn : jg8 ts.tail = false
  ·rw [if_pos hn] at k; cases k; exact jbQ q (by decide)
  rw [if_neg hn] at k
  by_cases hh : jdg nm (hd ts.tail).text = true
  ·rw [if_pos hh] at k; cases k; exact jbQ q (by decide)
  rw [if_neg hh] at k
  by_cases h6 : nm.length = 16
  ·rw [if_pos h6] at k; cases k; exact jbQ q (by decide)
  rw [if_neg h6] at k
  have q3 := (q.tail (by rw [jcM (by simpa using hn)]; decide)).1
  unfold deH at k
  by_cases hc : isP jb2 ts.tail.tail = true
  ·rw [if_pos hc] at k;exact jrc n _ _ _ _ _ q3 (jbS hc) k
  ·rw [if_neg hc] at k
   by_cases hs : isP jaO ts.tail.tail = true
   ·rw [if_pos hs] at k; cases k
   ·rw [if_neg hs] at k; cases k; exact jbQ q3 (by decide)
theorem jrb : ∀ (n : Nat) (nm du vo : List ByteArray) (ts : List Tk) (x e : Int), TkP ts -> nm.length <= 16 -> jsf n nm du vo ts = .bad x e -> okE x e
 | 0, nm, du, vo, ts, x, e, h, h16, k => by cases k; exact jbQ h (by decide)
 | n + 1, nm, du, vo, ts, x, e, h, h16, k => by
  rw [jsf] at k
  by_cases h1 : isP jd9 ts = true
  ·rw [if_pos h1] at k
   cases hd : jk6 ts.length nm [] ts with
   | bad x2 e2 => rw [hd] at k; cases k; exact jrc _ _ _ _ _ _ h (jbS h1) hd
   | ok nm2 out r =>
    rw [hd] at k
    obtain ⟨k1, k2, k3, k4⟩ := jc7 _ _ _ _ _ _ _ h (jbS h1) h16 hd
    exact jrb n _ _ _ _ _ _ k1 k3 k
  rw [if_neg h1] at k
  by_cases h2 : isP jdH ts = true
  ·rw [if_pos h2] at k
   cases hd : jk6 ts.length nm [] ts with
   | bad x2 e2 => rw [hd] at k; cases k; exact jrc _ _ _ _ _ _ h (jbS h2) hd
   | ok nm2 out r =>
    rw [hd] at k
    obtain ⟨k1, k2, k3, k4⟩ := jc7 _ _ _ _ _ _ _ h (jbS h2) h16 hd
    exact jrb n _ _ _ _ _ _ k1 k3 k
  rw [if_neg h2] at k;exact jtV _ _ _ _ _ _ _ h k
theorem jsQ {ts : List Tk} (h : TkP ts) {x e : Int} (k : jxi ts = .bad x e) : okE x e := jrb _ _ _ _ _ _ _ h (Nat.zero_le _) k
end Go.Proofs.YtfbifdccmabdbaaGreatDoor.Vm
namespace Go.Proofs.YtfbifdccmabdbaaGreatDoor.Vm
open Go.RowKit
set_option linter.unusedSimpArgs false
set_option linter.unusedVariables false
section
def ClD (P : Program) (f : Nat) (u u' : FrameMode) : Array Value -> World -> (Ending -> World -> Prop) -> Prop := fun vs w R => CallsD P f vs u w fun e m w' => m = u' /\ R e w'
theorem ClD.mono {P : Program} {f : Nat} {u u' : FrameMode} {vs : Array Value} {w : World} {R R' : Ending -> World -> Prop} (h : ∀ e w', R e w' -> R' e w') (k : ClD P f u u' vs w R) : ClD P f u u' vs w R' :=
 CallsD.mono k fun e m w' ⟨h1, h2⟩ => ⟨h1, h _ _ h2⟩
@[irreducible] def jxQ (P : Program) (u u' : FrameMode) (f : Nat) (args : List A) (s : S) (K : S -> Prop) : Prop :=
 (∀ vs w, (callFunc f vs).run P w = .ok (.enter f vs) w) ∧
 ∃ (X ids : List Nat) (ins : List (List A)) (args' : List A) (post : List (List A) -> A -> Prop), X.Nodup /\ (∀ i ∈ X, i < s.bx.length) ∧
  jeu X (ja0 s.rw ids) (X.map fun i => s.bx.getD i []) = some ins /\ jcb X (ja0 s.rw ids) args = some args' /\ (okL args' -> jow (ClD P f u u') ins args' post fun _ => False) ∧
  ∀ outs r, post outs r -> outs.length = X.length -> joU X s.bx X outs fun bx' => jbi (back X r) fun _ => jax (ja0 s.rw ids) fun rw' => jbv s bx' rw' K
def jeW (c : Cx) (rv : List ResultVar) (post : List (List A) -> A -> Prop) : List (Nat × List A) -> FrameMode -> S -> Prop
 | [], .returning, s => jvn c rv post s
 | [], _, _ => False
 | (f, args) :: r, u, s => u ≠ .run /\ ∃ u', jxQ c.P u u' f args s fun s' => jeW c rv post r (settle u') s'
section
variable {c : Cx} {w0 : W0} {C0 : Rd} {β0 : List Nat}
theorem jeX {fn : Func} {post : List (List A) -> A -> Prop} {R : Ending -> World -> Prop} {tmps : Array Value} (hfin : ∀ s' w', jvn c fn.results.toList post s' -> Inv [] w0 C0 β0 s' { tmps := tmps, defers := [] } w' -> ∃ v, (results fn tmps).run c.P w' = .ok v w' /\ R (.returned v) w') :
  ∀ (dr : List (Nat × List A)) (ds : List Deferred) (u : FrameMode) (s : S) (E : Env) (w : World), repD dr E ds -> Hp w0 C0 β0 s.bx s.rw w E -> A.repL s.t E tmps.toList -> jeW c fn.results.toList post dr u s -> Leaves c.P fn tmps R ds u w
 | [], ds, u, s, E, w, hd, hp, ht, h => by
  obtain rfl : ds = [] := hd
  cases u with
  | returning => exact hfin s w h ⟨E, hp, ht, rfl⟩
  | run => exact h.elim
  | panicking ch => exact h.elim
 | (f, args) :: r, ds, u, s, E, w, ⟨d, ds', cap, hds, htg, hargs, hrest⟩, hp, ht, h => by
  subst hds
  obtain ⟨hu, u', h⟩ := h
  unfold jxQ at h
  obtain ⟨hcall, X, ids, ins, args', post', hn, hX, hins, hargs', hspec, hk⟩ := h
  have hcx := jiT (pan := fun _ _ => False) (Xr := fun _ => true) (K := fun _ s' => jeW c fn.results.toList post r (settle u') s') (Cl := ClD c.P f u u') ClD.mono hp hargs hn (fun _ _ => rfl) hX hins hargs' hspec (fun outs r hp hl => hk outs r hp hl) (fun ch bx' h _ _ => h.elim)
  obtain ⟨t, da⟩ := d
  simp only at htg hargs hcx
  subst htg;refine leaves_cons (f := f) (args := da ++ cap) hu (by simp [invoke, hcall]) ?_
  have hcx' : CallsD c.P f (da ++ cap) u w fun e m w' => m = u' /\ ((∃ y, e = .returned y /\ Left w0 C0 β0 (fun _ => true) s E w (fun _ s' => jeW c fn.results.toList post r (settle u') s') y w') ∨ ∃ (ch : List PanicEntry) (s' : S) (E' : Env), e = .panicked ch /\ False /\ s'.t = s.t /\ E.le E' /\ Hp w0 C0 β0 s'.bx s'.rw w' E') := hcx
  refine CallsD.mono hcx' ?_;rintro e m w' ⟨rfl, ⟨y, rfl, ⟨⟨r0, s', E', h1, h2, h3, h4, h5, _⟩⟩⟩ | ⟨ch, s', E', _, h, _⟩⟩
  ·exact jeX hfin r ds' _ s' E' w' (hrest.mono h3) h4 (by rw [h2]; exact A.repL.mono _ h3 ht) h1
  ·exact h.elim
@[irreducible] def OkT (P : Program) (np : Nat) (pt : List (Nat × List A) -> List PanicEntry -> S -> Prop) (qt : List (Nat × List A) -> Exit -> S -> Prop) (dr : List (Nat × List A)) (x : Code) (s : S) : Prop :=
 ∀ (w0 : W0) (C0 : Rd) (β0 : List Nat) (a : Act) (w : World) (Q : Exit -> Act -> World -> Prop), β0.length = np -> Inv dr w0 C0 β0 s a w -> (∀ dr' ch s' a' w', pt dr' ch s' -> Inv dr' w0 C0 β0 s' a' w' -> Q (.panic ch) a' w') -> (∀ dr' e s' a' w', qt dr' e s' -> Inv dr' w0 C0 β0 s' a' w' -> Q e a' w') -> x.wp P Q a w
def tQ (P : Program) (np : Nat) (pt : List (Nat × List A) -> List PanicEntry -> S -> Prop) (qt : List (Nat × List A) -> Exit -> S -> Prop) (dr : List (Nat × List A)) (y : Code) (e : Exit) (s : S) : Prop := match e with
 | .normal => OkT P np pt qt dr y s
 | e => qt dr e s
variable {pt : List (Nat × List A) -> List PanicEntry -> S -> Prop} {qt : List (Nat × List A) -> Exit -> S -> Prop} {dr : List (Nat × List A)} {s : S}
theorem jnP {x : Code} (hc : c.ok) (hdr : ∃ n, jbW n dr = true) (hl : jbW c.np dr = true ∨ jbR x = true) (ho : jby c.ord x = true) (hp : ∀ ch s', c.pan ch s' -> pt dr ch s') (h : awp c x s (qt dr)) : OkT c.P c.np pt qt dr x s := by
 unfold OkT
 exact fun w0 C0 β0 a w Q hn hi hx hk => jdb hc hn hdr x hl (fun ch s' a' w' h1 h2 => hx dr ch s' a' w' (hp ch s' h1) h2) ho hi h fun e s' a' w' h1 h2 => hk dr e s' a' w' h1 h2
theorem jaP {x y : Code} (hc : c.ok) (hdr : ∃ n, jbW n dr = true) (hl : jbW c.np dr = true ∨ jbR x = true) (ho : jby c.ord x = true) (hp : ∀ ch s', c.pan ch s' -> pt dr ch s') (h : awp c x s (tQ c.P c.np pt qt dr y)) : OkT c.P c.np pt qt dr (.seq x y) s := by
 unfold OkT;intro w0 C0 β0 a w Q hn hi hx hk;refine wp_seq (jdb hc hn hdr x hl (fun ch s' a' w' h1 h2 => hx dr ch s' a' w' (hp ch s' h1) h2) ho hi h fun e s' a' w' h1 h2 => ?_)
 cases e with
 | normal =>
  have h1 : OkT c.P c.np pt qt dr y s' := h1
  unfold OkT at h1;exact h1 w0 C0 β0 a' w' Q hn h2 hx hk
 | _ => exact hk dr _ _ _ _ h1 h2
def jzf (s : S) (fo : Operand) (xs : List Operand) (K : Nat -> List A -> Prop) : Prop := match ev s fo with
 | .clo f caps => K f (xs.map (ev s) ++ caps)
 | .bm f fs => K f (fs ++ xs.map (ev s))
 | _ => False
theorem jjw {ops l2 : List Oper} {Q : Exit -> Act -> World -> Prop} (hc : c.ok) (hdr : ∃ n, jbW n dr = true) (hx : ∀ ch s' a' w', c.pan ch s' -> Inv dr w0 C0 β0 s' a' w' -> Q (.panic ch) a' w') : ∀ {l : List Oper} {s : S} {a : Act} {w : World} {K : S -> Prop}, Inv dr w0 C0 β0 s a w -> jlR c ops l s K -> (∀ s' a' w', K s' -> Inv dr w0 C0 β0 s' a' w' -> wpList c.P ops.toArray Q l2 a' w') -> wpList c.P ops.toArray Q (l ++ l2) a w
 | [], s, a, w, K, hi, h, hk => hk s a w h hi
 | o :: r, s, a, w, K, hi, h, hk => by
  obtain ⟨E, hp, ht, hd⟩ := hi
  change jex ops o s (ado c (fun _ => true) s o fun s' => jlR c ops r s' K) (jcD s o.dst (.tup []) fun s' => jlR c ops r s' K) at h
  refine wpList_step fun Kc hKc => ?_
  rcases jci ht h with ⟨h1, h2⟩ | ⟨h1, h2⟩
  ·rw [if_pos h1]
   exact jpU hc hdr ⟨E, hp, ht, hd⟩ h2 hx fun s' a' w' h3 h4 => hKc _ _ (jjw hc hdr hx h4 h3 hk)
  ·rw [if_neg (by rw [h1]; simp)]
   obtain ⟨s2, k1, k2, k3, k4, k5⟩ := jaI (a := a) hp ht hd (jb6 _) h2
   exact hKc _ _ (jjw hc hdr hx ⟨E, by rw [k2, k3]; exact hp, k4, k5⟩ k1 hk)
theorem jqE {id : Nat} {l : List Oper} {od : Oper} {fo : Operand} {xs : Array Operand} {ts : Array TypeId} {y : Code} (hc : c.ok) (hdr : ∃ n, jbW n dr = true) (hp : ∀ ch s', c.pan ch s' -> pt dr ch s') (hop : od.op = .defer ⟨.value fo, xs, ts⟩) (hg : od.guard = none) (hd : od.dst = none)
  (h : jlR c (l ++ [od]) l s fun s' => jzf s' fo xs.toList fun f args => OkT c.P c.np pt qt ((f, args) :: dr) y s') : OkT c.P c.np pt qt dr (.seq (.region id (l ++ [od]).toArray false) y) s := by
 unfold OkT;intro w0 C0 β0 a w Q hn hi hx hk;refine wp_seq (wp_region_lit (jjw (l2 := [od]) (Q := Exit.then (y.wp c.P Q) Q) hc hdr (fun ch s' a' w' h1 h2 => hx dr ch s' a' w' (hp ch s' h1) h2) hi h fun s' a' w' h1 h2 => ?_))
 refine wpList_step fun Kc hKc => ?_
 rw [if_pos (by simp [Region.wanted, hg])]
 obtain ⟨E, hpp, ht, hdd⟩ := h2
 unfold jzf at h1
 split at h1
 ·rename_i f caps hev
  have hf := jag ht fo
  rw [hev] at hf;unfold A.rep at hf
  obtain ⟨us, hf, hcaps⟩ := hf
  have hrun : (execOp a'.eval od).run c.P w' = .ok (.defer { target := .fn (.func f) us, args := xs.map a'.eval }) w' := by simp [execOp, hop, resolve, Deferred.ofValue, hf, Result.andThen]
  unfold Oper.wp;rw [hrun, Oper.upon_defer];rw [hd];unfold OkT at h1;refine hKc _ _ (h1 w0 C0 β0 _ w' Q hn ⟨E, hpp, ht, { target := .fn (.func f) us, args := xs.map a'.eval }, a'.defers, us, rfl, rfl, ?_, hdd⟩ hx hk)
  have := A.repL_append (jcp ht xs.toList) hcaps
  simpa using this
 ·rename_i f fs hev
  have hf := jag ht fo
  rw [hev] at hf;unfold A.rep at hf
  obtain ⟨us, hf, hcaps⟩ := hf
  have hrun : (execOp a'.eval od).run c.P w' = .ok (.defer { target := .fn (.func f) #[], args := us ++ xs.map a'.eval }) w' := by simp [execOp, hop, resolve, Deferred.ofValue, hf, Result.andThen]
  unfold Oper.wp;rw [hrun, Oper.upon_defer];rw [hd];unfold OkT at h1;refine hKc _ _ (h1 w0 C0 β0 _ w' Q hn ⟨E, hpp, ht, { target := .fn (.func f) #[], args := us ++ xs.map a'.eval }, a'.defers, #[], rfl, rfl, ?_, hdd⟩ hx hk)
  have := A.repL_append hcaps (jcp ht xs.toList)
  simpa using this
 ·exact h1.elim
theorem jku {n : Nat} {ins : List (List A)} {args : List A} {w : World} {C : Rd} {β : List Nat} {vals : List Value} (h0 : Gok C w) (h1 : Sub C (see w)) (h2 : β.Nodup) (h3 : ∀ b ∈ β, ∀ o sp, C ⟨b, o, sp⟩ = none) (h4 : ins.length = β.length)
  (h5 : ∀ (i b : Nat) (cs : List A), β[i]? = some b -> ins[i]? = some cs -> boxAt w ⟨C, β, []⟩ b cs) (h6 : A.repL args ⟨C, β, []⟩ vals) :
  Inv [] (.of w) C β ⟨args ++ List.replicate (n - args.length) .dead, ins, []⟩ { tmps := vals.toArray ++ Array.replicate (n - vals.toArray.size) undef, defers := [] } w := by
 have hl := A.repL_len h6
 refine ⟨⟨C, β, []⟩, ⟨h1, Sub.refl _, fun _ _ hc => .inl hc, ⟨[], by simp, by simp⟩, h2, h3, h4, h5, rfl, fun g r y hg => by simp at hg, fun g e k n cs y b hg => by simp at hg, fun g e k n cs y h' e' k' n' cs' z b _ hg => by simp at hg, fun g y hg => by simp at hg, Keeps.refl _ _, jvW h0⟩, ?_, rfl⟩
 have : (vals.toArray ++ Array.replicate (n - vals.toArray.size) undef).toList = vals ++ List.replicate (n - args.length) undef := by simp [hl]
 rw [this];exact A.repL_append h6 (jcQ _ _)
theorem jt6 {f : Nat} {fn : Func} {x : Code} {ins : List (List A)} {args : List A} {post : List (List A) -> A -> Prop} (hc : c.ok) (hf : c.P.funcs[f]? = some fn) (hb : fn.body = some x) (hname : (fn.name == "runtime.NumGoroutine") = false)
  (hn : ins.length = c.np) (h : okL args -> jdr args (fn.ntmps - args.length) fun t => OkT c.P c.np (fun dr ch s => jeW c fn.results.toList post dr (.panicking ch) s) (fun dr e s => (e = .normal ∨ e = .ret) /\ jeW c fn.results.toList post dr .returning s) [] x ⟨t, ins, []⟩) : Spec c.P f ins args post := by
 refine ⟨jdJ hf hb hname, fun w C β vals h0 h1 h2 h3 h4 h5 h6 => ?_⟩;refine calls_of_wp_defers hf hb ?_
 have hinit := initK_iff.1 (h (jbj _ h6))
 have hinv := jku (n := fn.ntmps) h0 h1 h2 h3 h4 h5 h6
 unfold OkT at hinit
 have hfin : ∀ (tmps : Array Value) (s' : S) (w' : World), jvn c fn.results.toList post s' -> Inv [] (.of w) C β s' { tmps := tmps, defers := [] } w' -> ∃ v, (results fn tmps).run c.P w' = .ok v w' /\ ∃ outs r v', Ending.returned v = .returned v' /\ post outs r /\ Keeps β w w' /\ outs.length = β.length ∧
   (∀ (i b : Nat) (cs : List A), β[i]? = some b -> outs[i]? = some cs -> boxAt w' ⟨jbc C w w', β, []⟩ b cs) /\ r.rep ⟨jbc C w w', β, []⟩ v' := fun tmps s' w' hr hi =>
  (jq0 (w := w) (C := C) (β := β) (fn := fn) (post := post) hc h1 (by rw [<- h4, hn]) hr hi).2
 refine hinit (.of w) C β _ w _ (by rw [<- h4, hn]) hinv (fun dr ch s' a' w' hl ⟨E, hp, ht, hd⟩ => ?_) (fun dr e s' a' w' hl ⟨E, hp, ht, hd⟩ => ?_)
 ·exact jeX (hfin a'.tmps) dr a'.defers _ s' E w' hd hp ht hl
 ·obtain ⟨he, hl⟩ := hl
  rcases he with rfl | rfl
  ·exact jeX (hfin a'.tmps) dr a'.defers _ s' E w' hd hp ht hl
  ·exact jeX (hfin a'.tmps) dr a'.defers _ s' E w' hd hp ht hl
theorem jjo {c0 : Frame} {cs : List Frame} (h : c0.mode = .returning) : recoverD (c0 :: cs) = none := by
 simp [recoverD, h]
theorem jjn {c0 : Frame} {cs : List Frame} {v : Value} {older : List PanicEntry} (h : c0.mode = .panicking (⟨v, false, false⟩ :: older)) : recoverD (c0 :: cs) = some (v, { c0 with mode := .panicking (⟨v, true, false⟩ :: older) } :: cs) := by
 simp [recoverD, h]
theorem jqX {f id d0 : Nat} {fn : Func} {o0 : Oper} {ts : Array TypeId} {rest : Code} {ins : List (List A)} {args : List A} {post : List (List A) -> A -> Prop} {u u' : FrameMode} {rv : Value} (hc : c.ok) (hq : ∀ ch s, ¬ c.pan ch s) (hf : c.P.funcs[f]? = some fn) (hb : fn.body = some (.seq (.region id #[o0] false) rest))
  (k0 : o0.op = .call ⟨.builtin .recover, #[], ts⟩ /\ o0.guard = none /\ o0.dst = some d0) (hd0 : d0 < fn.ntmps) (hv : okV rv)
  (hu : (u = .returning /\ u' = .returning /\ rv = .nilIface) ∨ ∃ v older, u = .panicking (⟨v, false, false⟩ :: older) /\ u' = .panicking (⟨v, true, false⟩ :: older) /\ rv = v)
  (hn : ins.length = c.np) (h : okL args -> jdr args (fn.ntmps - args.length) fun t => Ok c rest ⟨t.set d0 (.v rv), ins, []⟩ (jww c fn.results.toList post)) : jow (ClD c.P f u u') ins args post fun _ => False := by
 intro w C β vals h0 h1 h2 h3 h4 h5 h6;unfold ClD
 refine callsD_of_wpS hf hb fun c0 cs hu0 => wpS_seq (wpS_region ?_)
 have hinit := initK_iff.1 (h (jbj _ h6))
 have hinv := jku (n := fn.ntmps) h0 h1 h2 h3 h4 h5 h6
 have hnp : β.length = c.np := by rw [<- h4, hn]
 generalize hA : ({ tmps := vals.toArray ++ Array.replicate (fn.ntmps - vals.toArray.size) undef, defers := [] } : Act) = a0 at *
 have hsz : d0 < a0.tmps.size := by rw [<- hA]; simp; omega
 obtain ⟨E, hp, ht, hd⟩ := hinv
 have hi2 : Inv [] (.of w) C β ⟨(args ++ List.replicate (fn.ntmps - args.length) A.dead).set d0 (.v rv), ins, []⟩ (a0.put (some d0) rv) w := by
  refine ⟨E, hp, ?_, hd⟩
  show A.repL _ E (a0.tmps.setIfInBounds d0 rv).toList
  rw [Array.toList_setIfInBounds];exact A.repL_set ht d0 (A.rep_v hv)
 have e0 : (execOp a0.eval o0).run c.P w = .ok .recover w := by
  simp [execOp, k0.1, resolve, invoke, Result.andThen]
  rfl
 have hrange : List.range (#[o0] : Array Oper).size = [0] := rfl
 rw [hrange]
 have g0 : (#[o0] : Array Oper)[0]? = some o0 := rfl
 have w0' : ∀ y, Region.wanted o0 y = true := fun y => by simp [Region.wanted, k0.2.1]
 simp only [wpOpsS, g0, w0', if_true, e0];unfold Ok OkD at hinit
 have fin : ∀ cs', cs' = { c0 with mode := u' } :: cs -> rest.wpS c.P (bodyPostS c.P fn c0 cs fun e m w' => m = u' /\ ((∃ outs r v, e = .returned v /\ post outs r /\ Keeps β w w' /\ outs.length = β.length ∧
   (∀ (i b : Nat) (cs : List A), β[i]? = some b -> outs[i]? = some cs -> boxAt w' ⟨jbc C w w', β, []⟩ b cs) /\ r.rep ⟨jbc C w w', β, []⟩ v) ∨
   ∃ (ch : List PanicEntry) (ns : List Nat), e = .panicked ch /\ False /\ Keeps β w w' /\ ns.length = β.length /\ ∀ (i b n : Nat), β[i]? = some b -> ns[i]? = some n -> boxAt w' ⟨C, β, []⟩ b (List.replicate n .dead))) (a0.put (some d0) rv) cs' w := fun cs' hcs => by
  subst hcs;refine wpS_of_wp ?_
  refine hinit (.of w) C β _ w _ hnp hi2 (fun ch s' _ _ hh _ => absurd hh (hq ch s')) fun e s' a' w' he hi => ?_
  have ff := fun (hr : jvn c fn.results.toList post s') => jq0 (w := w) (C := C) (β := β) (fn := fn) (post := post) hc h1 hnp hr hi
  cases e with
  | normal => obtain ⟨q1, v, q2, q3⟩ := ff he; exact ⟨q1, u', rfl, v, q2, rfl, .inl q3⟩
  | ret => obtain ⟨q1, v, q2, q3⟩ := ff he; exact ⟨q1, u', rfl, v, q2, rfl, .inl q3⟩
  | _ => exact he.elim
 rcases hu with ⟨rfl, rfl, rfl⟩ | ⟨v, older, rfl, rfl, rfl⟩
 ·rw [jjo hu0];simp only [k0.2.2];exact fin _ (by rw [<- hu0])
 ·rw [jjn hu0];simp only [k0.2.2];exact fin _ rfl
end
end
end Go.Proofs.YtfbifdccmabdbaaGreatDoor.Vm
namespace Go.Proofs.YtfbifdccmabdbaaGreatDoor.Vm
open Go.RowKit Go.Shelf
set_option linter.unusedSimpArgs false
set_option linter.unusedVariables false
set_option maxRecDepth 100000
theorem joW (u : Ut) : jow (ClD Tryz.prog 101 .returning .returning) [utA u, [intA 0], [intA 0]] [.box 0 0, .box 1 0, .box 2 0] (fun o r => o = [utA u, [intA 0], [intA 0]] /\ r = .tup []) fun _ => False := by
 refine jqX (ja4 jtN (fun _ => [0, 1, 2]) 3) (fun _ _ h => h) Tryz.func101 rfl (d0 := 6) ⟨rfl, rfl, rfl⟩ (by decide) (rv := .nilIface) trivial (.inl ⟨rfl, rfl, rfl⟩) rfl ?_;intro _;conv => whnf
 refine jaW (ja4 _ _ _) (by kernel_rfl) ?_;conv => whnf
 exact ⟨rfl, rfl⟩
theorem joV (x e : Int) (hx : okE x e) (c0 c1 c2 b1 b2 : A) : jow (ClD Tryz.prog 101 (.panicking (jaC x e)) (.panicking [⟨.iface 142 (.agg #[.int .i64 x, .int .i64 e]), true, false⟩])) [[c0, c1, c2], [b1], [b2]] [.box 0 0, .box 1 0, .box 2 0]
  (fun o r => o = [jjJ, [intA x], [intA e]] /\ r = .tup []) fun _ => False := by
 obtain ⟨hx, he⟩ := hx
 refine jqX (ja4 jtN (fun _ => [0, 1, 2]) 3) (fun _ _ h => h) Tryz.func101 rfl (d0 := 6) ⟨rfl, rfl, rfl⟩ (by decide) (rv := .iface 142 (.agg #[.int .i64 x, .int .i64 e])) trivial (.inr ⟨_, [], rfl, rfl, rfl⟩) rfl ?_;intro _;conv => whnf
 refine jaW (ja4 _ _ _) (by kernel_rfl) ?_;conv => whnf
 refine ⟨?_, ?_⟩
 ·intro u hu
  simp at hu
  rcases hu with rfl | rfl
  ·exact okV_int.2 (jam (by omega))
  ·exact okV_int.2 (jam (by omega))
 conv => whnf
 exact ⟨rfl, rfl⟩
def jvd : PU -> A
 | .ok u => .tup [.agg (utA u), intA 0, intA 0]
 | .bad x e => .tup [.agg jjJ, intA x, intA e]
def jyb (p : PU) (ch : List PanicEntry) (s : S) : Prop := ∃ (x e : Int) (c0 c1 c2 : A) (bx : List (List A)) (a b : A) (t : List A), p = .bad x e /\ okE x e /\ ch = jaC x e /\ s.bx = jjJ :: [intA 0] :: [intA 0] :: bx /\ s.t = a :: b :: .box 0 0 :: .box 1 0 :: .box 2 0 :: t /\ s.rw = []
theorem jyq {l : List (List A)} {a b c d : List A} (h : l.length = 4) (k : ∀ j, j ≠ 3 -> l[j]? = [a, b, c, d][j]?) : ∃ d', l = [a, b, c, d'] := by
 match l, h with
 | [x, y, z, w], _ =>
  have h0 := k 0 (by decide)
  have h1 := k 1 (by decide)
  have h2 := k 2 (by decide)
  simp at h0 h1 h2
  exact ⟨w, by rw [h0, h1, h2]⟩
def jhG (id : Nat) : Tr := match Nat.beq id 5 with
 | true => .q 0 3 (.alt 1 2 (.alt 2 2 (.alt 3 2 (.alt 4 2 (.alt 5 2 .nil .nil) .nil) .nil) (.alt 3 2 (.alt 2 2 (.alt 4 2 (.alt 5 2 .nil .nil) .nil) (.alt 4 2 (.alt 2 2 (.alt 5 2 .nil .nil) .nil) .nil)) .nil)) (.alt 2 2 (.alt 1 2 (.alt 3 2 (.alt 4 2 (.alt 5 2 .nil .nil) .nil) .nil) (.alt 3 2 (.alt 1 2 (.alt 4 2 (.alt 5 2 .nil .nil) .nil) .nil) .nil)) (.alt 3 2 (.alt 1 2 (.alt 2 2 (.alt 4 2 (.alt 5 2 .nil .nil) .nil) (.alt 4 2 (.alt 2 2 (.alt 5 2 .nil .nil) .nil) .nil)) (.alt 2 2 (.alt 1 2 (.alt 4 2 (.alt 5 2 .nil .nil) .nil) .nil) .nil)) .nil)))
 | false => .nil
theorem joZ (s : ByteArray) (hs : s.size <= 1000000000) : Spec Tryz.prog 55 [] [jbn s] fun _ r => r = jvd (jmQ s) := by
 obtain ⟨R, hR⟩ : ∃ R, jmQ s = R := ⟨_, rfl⟩
 rw [hR]
 have htk := jmL s hs
 have hpan : ∀ (ch : List PanicEntry) (s' : S), jyb R ch s' -> jeW ⟨Tryz.prog, tab, jhG, fun _ => [0], 0, fun _ _ => False⟩ Tryz.f55.results.toList (fun _ r => r = jvd R) [(101, [.box 0 0, .box 1 0, .box 2 0])] (.panicking ch) s' := fun ch s' hP => by
  obtain ⟨x, e, c0, c1, c2, bx, a, b, t0, hRe, hran, rfl, hbx, ht, hrw⟩ := hP
  obtain ⟨t, bx', rw'⟩ := s'
  simp only at hbx hrw ht
  subst hbx hrw ht;subst hRe;unfold jeW;refine ⟨(fun h => by cases h), FrameMode.panicking [⟨.iface 142 (.agg #[.int .i64 x, .int .i64 e]), true, false⟩], ?_⟩;unfold jxQ;refine ⟨fun vs w => rfl, [0, 1, 2], [], [jjJ, [intA 0], [intA 0]], [.box 0 0, .box 1 0, .box 2 0], fun o r => o = [jjJ, [intA x], [intA e]] /\ r = .tup [], by decide, ?_, rfl, rfl, fun _ => joV x e hran _ _ _ _ _, ?_⟩
  ·intro i hi;simp only [List.length_cons]
   simp at hi
   omega
  rintro o r ⟨rfl, rfl⟩ _;conv => whnf
  rfl
 refine jt6 (ja4 jhG (fun _ => [0]) 0) Tryz.func55 rfl (by kernel_rfl) rfl ?_;intro _;conv => whnf
 refine jaP (ja4 jhG (fun _ => [0]) 0) (dr := []) ⟨0, rfl⟩ (.inl rfl) (by kernel_rfl) (fun _ _ h => h.elim) ?_;conv => whnf
 refine jaP (ja4 jhG (fun _ => [0]) 0) (dr := []) ⟨0, rfl⟩ (.inl rfl) (by kernel_rfl) (fun _ _ h => h.elim) ?_;conv => whnf
 unfold jmQ at hR
 by_cases hbig : 3000 < s.size
 ·rw [if_pos hbig] at hR;rw [decide_eq_true (by omega)];conv => whnf
  refine ⟨.inr rfl, ?_⟩;conv => whnf
  subst hR;rfl
 rw [if_neg hbig] at hR;rw [decide_eq_false (by omega)];conv => whnf
 refine jaP (ja4 jhG (fun _ => [0]) 0) (dr := []) ⟨0, rfl⟩ (.inl rfl) (by kernel_rfl) (fun _ _ h => h.elim) ?_;conv => whnf
 refine jaw [] rfl (fun _ => htk) ?_;rintro r rfl
 have htb := fun h => jvq (s := s) (by omega) h
 unfold juV
 cases herr : (jb0 s).err with
 | some pe =>
  obtain ⟨p, e⟩ := pe
  rw [herr] at hR
  simp only at hR
  have hne := (jd4 (s.data.toList.length + 1) 0 s.data.toList).2 p e herr
  conv => whnf
  refine jaP (ja4 jhG (fun _ => [0]) 0) (dr := []) ⟨0, rfl⟩ (.inl rfl) (by kernel_rfl) (fun _ _ h => h.elim) ?_;conv => whnf
  rw [decide_eq_false hne.2.1];conv => whnf
  apply juR
  ·repeat' (first | (with_reducible refine And.intro ?_ ?_) | (conv => whnf))
  conv => whnf
  refine ⟨.inr rfl, ?_⟩;conv => whnf
  subst hR;rfl
 | none =>
  rw [herr] at hR
  simp only at hR
  have htb := htb herr
  have hrl := jcR herr
  rw [<- hrl]
  have hln : (jb0 s).toks.length + 1 = (jmx s).length := by rw [hrl]; simp
  rw [hln];generalize jmx s = T at *;conv => whnf
  refine jaP (ja4 jhG (fun _ => [0]) 0) (dr := []) ⟨0, rfl⟩ (.inl rfl) (by kernel_rfl) (fun _ _ h => h.elim) ?_;conv => whnf
  refine jqE (ja4 jhG (fun _ => [0]) 0) ⟨0, rfl⟩ (fun _ _ h => h.elim) (l := [_]) rfl rfl rfl ?_;conv => whnf
  have hpg := jkU T htb
  have hsan := fun x e => jsQ htb (x := x) (e := e)
  rw [hR] at hpg;refine jaP (c := ⟨Tryz.prog, tab, jhG, fun _ => [0], 0, jyb R⟩) (jao _ _ _ _) ⟨3, rfl⟩ (.inr (by kernel_rfl)) (by kernel_rfl) hpan ?_;conv => whnf
  refine jut 3 [] rfl rfl rfl rfl (fun _ => hpg) (fun ch bx' hp hbl hbx => ?_) ?_
  ·unfold puQ at hp
   split at hp
   ·rename_i x e
    obtain ⟨d', rfl⟩ := jyq hbl hbx
    exact ⟨x, e, .dead, .dead, .dead, _, _, _, _, rfl, hsan _ _ hR, hp, rfl, rfl, rfl⟩
   ·exact hp.elim
  rintro o r ⟨⟨nm, ts1, ho⟩, huo⟩;cases ho;unfold uoQ at huo
  split at huo
  rotate_left
  ·exact huo.elim
  rename_i u
  subst huo;conv => whnf
  refine jnP (c := ⟨Tryz.prog, tab, jhG, fun _ => [0], 0, jyb (.ok u)⟩) (jao _ _ _ _) ⟨3, rfl⟩ (.inr (by kernel_rfl)) (by kernel_rfl) hpan ?_;conv => whnf
  refine ⟨.inr rfl, ?_⟩;unfold jeW;refine ⟨(fun h => by cases h), FrameMode.returning, ?_⟩;unfold jxQ;refine ⟨fun vs w => rfl, [0, 1, 2], [], [utA u, [intA 0], [intA 0]], [.box 0 0, .box 1 0, .box 2 0], fun o r => o = [utA u, [intA 0], [intA 0]] /\ r = .tup [], by decide, ?_, rfl, rfl, fun _ => joW u, ?_⟩
  ·intro i hi;simp only [List.length_cons]
   simp at hi
   omega
  rintro o r ⟨rfl, rfl⟩ _;conv => whnf
  rfl
end Go.Proofs.YtfbifdccmabdbaaGreatDoor.Vm
namespace Go.Proofs.YtfbifdccmabdbaaGreatDoor.Vm
open Go.RowKit
set_option linter.unusedSimpArgs false
set_option linter.unusedVariables false
section
set_option maxRecDepth 100000
end
section
set_option maxRecDepth 100000
end
section
set_option maxRecDepth 100000
end
end Go.Proofs.YtfbifdccmabdbaaGreatDoor.Vm
namespace Go.Proofs.YtfbifdccmabdbaaGreatDoor.Vm
open Go.RowKit Go.Shelf
set_option linter.unusedSimpArgs false
set_option linter.unusedVariables false
set_option maxRecDepth 100000
theorem jsq {T : List Tk} {i : Nat} (h : i < T.length) : hd (T.drop i) = T[i] := by
 rw [List.drop_eq_getElem_cons h]; rfl
theorem jpc (T : List Tk) (i : Nat) : (T.drop i).tail = T.drop (i + 1) := by rw [List.tail_drop]
theorem jlt : ∀ {T : List Tk} {i : Nat}, TkW T -> i < T.length -> TkW (T.drop i)
 | [], i, _, h => by simp at h
 | t :: T, 0, h, _ => h
 | t :: T, i + 1, h, hi => by
  rcases h.2 with ⟨rfl, _⟩ | ⟨_, hw⟩
  ·simp at hi
  ·exact jlt (T := T) hw (by simpa using hi)
structure Ks (T : List Tk) : Prop where
 t : ∀ t ∈ T, K6 t
 n : T.length <= 1000000
 w : TkW T
theorem Ks.p {T : List Tk} (h : Ks T) {i : Nat} (hi : i < T.length) : TkP (T.drop i) :=
 ⟨⟨jlt h.w hi, by rw [List.length_drop]; have := h.n; omega⟩, fun t ht => jtH (h.t t (List.mem_of_mem_drop ht))⟩
theorem Ks.hd {T : List Tk} (h : Ks T) {i : Nat} (hi : i < T.length) : K6 (Vm.hd (T.drop i)) := by rw [jsq hi]; exact h.t _ (List.getElem_mem hi)
theorem Ks.next {T : List Tk} (h : Ks T) {i : Nat} (hi : i < T.length) (hk : (Vm.hd (T.drop i)).kind ≠ 0) : i + 1 < T.length := by
 obtain ⟨q1, q2⟩ := (h.p hi).tail hk
 have := q1.pos
 rw [jpc, List.length_drop] at this;omega
structure S6 where
 i : Nat
 a : Int
 e : Int
def bxS (T : List Tk) (s : S6) : List A := [.sl 4 T.length (je6 T), .v (.int .i64 s.i), intA s.a, intA s.e]
def SpecU (f : Nat) (cs args : List A) (post : List A -> A -> Prop) : Prop := ∀ y : Value, okV y -> Spec Tryz.prog f [cs ++ [.v y]] args fun o r => ∃ c, o = [c ++ [.v y]] /\ post c r
theorem SpecU.v {f : Nat} {cs args : List A} {post : List A -> A -> Prop} (h : SpecU f cs args post) : SpecV Tryz.prog f cs args post fun _ => False := fun y hy => (h y hy).toP
theorem SpecU.weaken {f : Nat} {cs args : List A} {post post' : List A -> A -> Prop} (h : SpecU f cs args post') (k : ∀ c r, post' c r -> ∃ c' r', post c' r' /\ c = c' /\ Wk r r') : SpecU f cs args post := fun y hy =>
 Spec.weaken (h y hy) fun o r ⟨c, h1, h2⟩ => by
  obtain ⟨c', r', k1, rfl, k3⟩ := k c r h2
  exact ⟨o, r', ⟨c, h1, k1⟩, .refl _, k3⟩
theorem jiS : Spec Tryz.prog 142 [] [] fun _ r => r = .sl 1 builtL.length (jhp builtL) := by
 refine ja8 (ja4 jb4 xs0 0) (fun _ _ h => h) Tryz.func142 rfl (by kernel_rfl) rfl (by kernel_rfl) ?_;intro _;conv => whnf
 rfl
section
def Dq (T : List Tk) (s s' : S6) (P : Pn) (f : Nt) : Prop := s'.i < T.length /\ (s.e ≠ 0 -> s'.a = s.a /\ s'.e = s.e) /\ (s.e = 0 -> match P with
 | .ok g r => s'.e = 0 /\ s'.a = s.a /\ f = g /\ T.drop s'.i = r
 | .bad x e => e ≠ 0 /\ s'.e = e /\ s'.a = x)
variable {T : List Tk}
def RU (T : List Tk) (s : S6) (op : List Tk -> Pn) (c : List A) (r : A) : Prop := ∃ s' f, Dq T s s' (op (T.drop s.i)) f /\ c = bxS T s' /\ r = .agg (ntA f)
def RW (T : List Tk) (s : S6) (op : List Tk -> Pn) (c : List A) (r : A) : Prop := ∃ s' f l, Dq T s s' (op (T.drop s.i)) f /\ c = bxS T s' /\ r = .agg l /\ WkL l (ntA f)
theorem RU.w {s : S6} {op : List Tk -> Pn} {c : List A} {r : A} (h : RU T s op c r) : RW T s op c r := by
 obtain ⟨s', f, h1, h2, h3⟩ := h
 exact ⟨s', f, _, h1, h2, h3, jaR _⟩
def juf (T : List Tk) (lv prec : Int) (op : List Tk -> Pn) : Prop := ∀ s : S6, s.i < T.length -> SpecU 129 (bxS T s) [.box 0 0, intA lv, intA prec] (RU T s op)
def jyf (T : List Tk) (g : Nat) (lv : Int) (op : List Tk -> Pn) : Prop := ∀ s : S6, s.i < T.length -> SpecU g (bxS T s) [.box 0 0, intA lv] (RU T s op)
end
section
def LowR6 (T : List Tk) (lv : Int) (low : Option Pa) : Prop := 0 <= lv /\ ((low = none /\ lv = 20) ∨ ∃ p, low = some p /\ lv + 1 <= 20 ∧
 juf T (lv + 1) 3 p.no /\ juf T (lv + 1) 7 p.un /\ juf T (lv + 1) 1 p.ex /\ jyf T 49 (lv + 1) p.bl)
theorem LowR6.le {T : List Tk} {lv : Int} {low : Option Pa} (h : LowR6 T lv low) : 0 <= lv /\ lv <= 20 := by
 obtain ⟨h0, ⟨_, rfl⟩ | ⟨_, _, h, _⟩⟩ := h
 ·omega
 ·omega
variable {T : List Tk}
end
section
variable {T : List Tk}
def opsA : List A := [.v (.slice none 0 0), .sl 1 1 [jbn pOr], .sl 1 1 [jbn jg3], .v (.slice none 0 0), .sl 1 6 [jbn pLt, jbn pLe, jbn pGt, jbn pGe, jbn jxh, jbn pNe], .sl 1 2 [jbn jge, jbn pMinus], .sl 1 2 [jbn jdy, jbn jbG]]
end
section
variable {T : List Tk}
end
section
variable {T : List Tk}
end
section
variable {T : List Tk}
end
section
variable {T : List Tk}
theorem jza (f b : Nt) : WkL [intA 2, intA 0, jbn eB, .sl 4 3 (ntA f ++ (ntA b ++ jxY (jeA [])))] [intA 2, intA 0, jbn eB, .sl 4 3 (ntA f ++ (ntA b ++ ntA (jeA [])))] :=
 .cons (.refl _) (.cons (.refl _) (.cons (.refl _) (.cons (.sl 4 3 (WkL.app (WkL.refl (ntA f)) (WkL.app (WkL.refl (ntA b)) (jb1 (f := jeA []) rfl)))) .nil)))
end
section
variable {T : List Tk}
end
end Go.Proofs.YtfbifdccmabdbaaGreatDoor.Vm
namespace Go.Proofs.YtfbifdccmabdbaaGreatDoor.Vm
open Go.RowKit
set_option linter.unusedSimpArgs false
set_option linter.unusedVariables false
section
section
variable {w0 : W0} {C0 : Rd} {β0 : List Nat} {bx : List (List A)} {rw : List Row} {w : World} {E : Env}
end
section
variable {P : Program} {pan : List PanicEntry -> S -> Prop} {Xr : Nat -> Bool} {f : Nat} {s : S} {K : A -> S -> Prop} {post : List A -> A -> Prop}
end
end
end Go.Proofs.YtfbifdccmabdbaaGreatDoor.Vm
namespace Go.Proofs.YtfbifdccmabdbaaGreatDoor.Vm
open Go.RowKit Go.Shelf
set_option linter.unusedSimpArgs false
set_option linter.unusedVariables false
set_option maxRecDepth 100000
section
variable {T : List Tk}
end
section
variable {T : List Tk}
end
section
set_option maxRecDepth 100000
end
section
set_option maxRecDepth 100000
end
section
set_option maxRecDepth 100000
end
section
set_option maxRecDepth 100000
end
section
set_option maxRecDepth 100000
end
section
set_option maxRecDepth 100000
end
end Go.Proofs.YtfbifdccmabdbaaGreatDoor.Vm
namespace Go.Proofs.YtfbifdccmabdbaaGreatDoor.Vm
open Go.RowKit
set_option linter.unusedSimpArgs false
set_option linter.unusedVariables false
set_option maxRecDepth 100000
def jrO (n : Int) : Int := if n < 0 then -(n + 1) else n
def jdm (n m : Int) : Int := (jrO n).tmod m
theorem jmX {n : Int} (hn : -9223372036854775808 <= n /\ n <= 9223372036854775807) : 0 <= jrO n /\ jrO n <= 9223372036854775807 := by unfold jrO; split <;> omega
theorem jgB {n m : Int} (hn : -9223372036854775808 <= n /\ n <= 9223372036854775807) (hm : 1 <= m) : 0 <= jdm n m /\ jdm n m < m := by
 have h := jmX hn
 unfold jdm;rw [Int.tmod_eq_emod_of_nonneg h.1];exact ⟨Int.emod_nonneg _ (by omega), Int.emod_lt_of_pos _ (by omega)⟩
theorem jel (n m : Int) (hm : 1 <= m /\ m <= 9223372036854775807) : Spec Tryz.prog 27 [] [intA n, intA m] fun _ r => (-9223372036854775808 <= n /\ n <= 9223372036854775807) /\ r = intA (jdm n m) := by
 refine ja8 (ja4 jb4 xs0 0) (fun _ _ h => h) Tryz.func27 rfl (by kernel_rfl) rfl (by kernel_rfl) ?_;intro hok
 have hn : -9223372036854775808 <= n /\ n <= 9223372036854775807 := okA_int.1 hok.1
 have hab := jmX hn
 conv => whnf
 by_cases h : n < 0
 ·refine jaV (b := decide (n < 0)) (decide_eq_true h) ?_;conv => whnf
  refine ⟨jam (by omega), ?_⟩;conv => whnf
  refine ⟨jam (by omega), ?_⟩;conv => whnf
  refine ⟨by omega, ?_⟩;conv => whnf
  refine ⟨hn, ?_⟩
  have : 0 - (n + 1) = jrO n := by unfold jrO; rw [if_pos h]; omega
  rw [this]; rfl
 ·refine jat (b := decide (n < 0)) (decide_eq_false h) ?_;conv => whnf
  refine ⟨by omega, ?_⟩;conv => whnf
  refine ⟨hn, ?_⟩
  have : n = jrO n := by unfold jrO; rw [if_neg h]
  show A.v (.int .i64 (n.tmod m)) = intA ((jrO n).tmod m)
  rw [<- this]; rfl
end Go.Proofs.YtfbifdccmabdbaaGreatDoor.Vm
namespace Go.Proofs.YtfbifdccmabdbaaGreatDoor.Vm
open Go.RowKit Go.Shelf
set_option linter.unusedSimpArgs false
set_option linter.unusedVariables false
set_option maxRecDepth 100000
def phA (κ i : Nat) : Nat := if i < 70 then (4 * κ + 12) * i else (4 * κ + 12) * 70
def phi (κ i : Nat) : Nat := if i < 70 then (4 * κ + 12) * i else (4 * κ + 12) * 70 + 6 * κ + 18
theorem jh6 (κ i : Nat) : phA κ i <= phA κ (i + 1) /\ (i < 70 -> phA κ i + (4 * κ + 12) <= phA κ (i + 1)) := by
 unfold phA;generalize 4 * κ + 12 = c
 have e : c * (i + 1) = c * i + c := Nat.mul_succ c i
 by_cases h : i < 70
 ·rw [if_pos h]
  by_cases h2 : i + 1 < 70
  ·rw [if_pos h2]; omega
  ·rw [if_neg h2]
   obtain rfl : i = 69 := by omega
   omega
 ·rw [if_neg h, if_neg (by omega)]; omega
theorem joX (κ i : Nat) : (i < 70 -> phi κ i = phA κ i) /\ (70 <= i -> phi κ i = phA κ i + 6 * κ + 18) := by
 unfold phi phA
 by_cases h : i < 70
 ·rw [if_pos h, if_pos h]; omega
 ·rw [if_neg h, if_neg h]; omega
theorem jcP (κ i : Nat) : phi κ i <= phi κ (i + 1) /\ (i < 70 -> phi κ i + (4 * κ + 12) <= phi κ (i + 1)) := by
 have h1 := joX κ i
 have h2 := joX κ (i + 1)
 have h3 := jh6 κ i
 omega
theorem jer {κ w b i j : Nat} (hij : i <= j) (h : w + phA κ i <= b + phA κ j) : w + phi κ i <= b + phi κ j := by
 have h1 := joX κ i
 have h2 := joX κ j
 omega
theorem jms (κ i : Nat) : phi κ i <= (4 * κ + 12) * 70 + 6 * κ + 18 /\ (67 <= i -> i < 70 -> phi κ i + (4 * κ + 12) <= (4 * κ + 12) * 70) /\ (70 <= i -> phi κ i = (4 * κ + 12) * 70 + 6 * κ + 18) := by
 unfold phi;generalize 4 * κ + 12 = c
 by_cases h : i < 70
 ·rw [if_pos h]
  have e : c * (i + 1) = c * i + c := Nat.mul_succ c i
  have e2 : c * (i + 1) <= c * 70 := Nat.mul_le_mul_left c (by omega)
  omega
 ·rw [if_neg h]; omega
def dgN (n : Int) : Nat := if n < 10 then 1 else if n < 100 then 2 else if n < 1000 then 3 else 10
mutual
def wN (κ : Nat) : Nt -> Nat
 | .mk k n s kids => (if k = 12 then κ + dgN n else if k = 13 then 5 + κ else if k = 14 then κ + s.size else if k = 15 then κ + s.size else if k = 16 then 6 + 3 * κ else s.size + (2 + 3 * κ)) + wNs κ kids
def wNs (κ : Nat) : List Nt -> Nat
 | [] => 0
 | f :: l => wN κ f + wNs κ l
end
theorem jxA (κ : Nat) (n : Int) : wN κ (.mk 12 n eB []) = κ + dgN n := rfl
theorem jvN (κ : Nat) (n : Int) : wN κ (.mk 13 n eB []) = 5 + κ := rfl
theorem jxC (κ : Nat) (s : ByteArray) : wN κ (.mk 14 0 s []) = κ + s.size := rfl
theorem jxB (κ : Nat) (s : ByteArray) : wN κ (.mk 15 0 s []) = κ + s.size := rfl
theorem jxz (κ : Nat) (f : Nt) : wN κ (.mk 16 0 eB [f]) = 6 + 3 * κ + wN κ f := rfl
theorem ju8 (κ : Nat) (s : ByteArray) (f : Nt) : wN κ (.mk 17 0 s [f]) = s.size + (2 + 3 * κ) + wN κ f := by
 rw [wN, wNs, wNs]; simp
theorem jrA (κ : Nat) (s : ByteArray) (f g : Nt) : wN κ (.mk 18 0 s [f, g]) = s.size + (2 + 3 * κ) + (wN κ f + wN κ g) := by
 rw [wN, wNs, wNs, wNs]; simp
def jyN (l : List Nt) (i : Nat) : Nt := l.getD i (.mk 0 0 eB [])
mutual
def wS (κ : Nat) : Nt -> Nat
 | .mk k n s kids => if k = 1 then s.size + 2 + 3 * κ + wNs κ kids else if k = 4 then 9 + 6 * κ + wNs κ kids else if k = 5 then 7 + 3 * κ else if k = 6 then 8 + 3 * κ else if k = 7 then 5 + 2 * κ else if k = 10 then 5 + 2 * κ else if k = 8 then 7 + 3 * κ + wNs κ kids else if k = 9 then 5 + 2 * κ + wNs κ kids else if k = 3 then 5 + κ + wN κ (jyN kids 0) + (wBs κ kids).getD 1 0 else 2 + κ + wN κ (jyN kids 0) + (wBs κ kids).getD 1 0 + (if 0 < (jyN kids 2).kids.length then 4 + κ + (wBs κ kids).getD 2 0 else 0)
def wB (κ : Nat) : Nt -> Nat
 | .mk _ _ _ kids => 2 + 2 * κ + wSs κ kids
def wSs (κ : Nat) : List Nt -> Nat
 | [] => 0
 | f :: l => wS κ f + wSs κ l
def wBs (κ : Nat) : List Nt -> List Nat
 | [] => []
 | f :: l => wB κ f :: wBs κ l
end
theorem jom (κ : Nat) (l : List Nt) : wB κ (jeA l) = 2 + 2 * κ + wSs κ l := by unfold jeA; rw [wB]
theorem ju9 (κ : Nat) (s : ByteArray) (f : Nt) : wS κ (.mk 1 0 s [f]) = s.size + 2 + 3 * κ + wN κ f := rfl
theorem jxH (κ : Nat) (n : Int) (f g h : Nt) : wS κ (.mk 4 n eB [f, g, h]) = 9 + 6 * κ + (wN κ f + (wN κ g + wN κ h)) := rfl
theorem jxK (κ : Nat) (n : Int) : wS κ (.mk 5 n eB []) = 7 + 3 * κ := rfl
theorem jxD (κ : Nat) (n : Int) : wS κ (.mk 6 n eB []) = 8 + 3 * κ := rfl
theorem jxJ (κ : Nat) : wS κ (.mk 7 0 eB []) = 5 + 2 * κ := rfl
theorem jxI (κ : Nat) : wS κ (.mk 10 0 eB []) = 5 + 2 * κ := rfl
theorem jxG (κ : Nat) (f g : Nt) : wS κ (.mk 8 0 eB [f, g]) = 7 + 3 * κ + (wN κ f + wN κ g) := rfl
theorem jxE (κ : Nat) (f : Nt) : wS κ (.mk 9 0 eB [f]) = 5 + 2 * κ + wN κ f := rfl
theorem jxL (κ : Nat) (c b : Nt) : wS κ (.mk 3 0 eB [c, b]) = 5 + κ + wN κ c + wB κ b := rfl
theorem jxF (κ : Nat) (c b d : Nt) : wS κ (.mk 2 0 eB [c, b, d]) = 2 + κ + wN κ c + wB κ b + (if 0 < d.kids.length then 4 + κ + wB κ d else 0) := rfl
theorem jua (κ : Nat) (c : Nt) (l m : List Nt) : wS κ (.mk 2 0 eB [c, jeA l, jeA m]) <= 4 + 3 * κ + wN κ c + wSs κ l + (6 + 3 * κ + wSs κ m) /\ (m.length = 0 -> wS κ (.mk 2 0 eB [c, jeA l, jeA m]) = 4 + 3 * κ + wN κ c + wSs κ l) := by
 rw [jxF, jom, jom];refine ⟨by split <;> omega, fun h => ?_⟩;rw [if_neg (by show ¬ 0 < m.length; omega)];omega
def wHs (κ : Nat) : List (Int × Nt) -> Nat
 | [] => 0
 | x :: l => 11 + 3 * κ + wB κ x.2 + wHs κ l
def pkF (l : List Int) (i : Nat) : Int := if i < l.length then jdm (l.getD i 0) 1000000 else 0
theorem jz4 (l : List Int) (i : Nat) : Spec Tryz.prog 56 [] [.sl 1 l.length (jbE l), intA i, intA 1000000] fun _ r => (0 <= pkF l i /\ pkF l i < 1000000) /\ r = intA (pkF l i) := by
 unfold pkF;refine ja8 (ja4 jb4 xs0 0) (fun _ _ h => h) Tryz.func56 rfl (by kernel_rfl) rfl (by kernel_rfl) ?_;intro hok;conv => whnf
 rw [decide_eq_false (show ¬ (i : Int) < 0 by omega)];conv => whnf
 by_cases hi : i < l.length
 ·have hr := jp5 l i hi
  have e : l.getD i 0 = l[i] := by rw [List.getD_eq_getElem?_getD, List.getElem?_eq_getElem hi]; rfl
  rw [<- e] at hr;rw [if_pos hi, decide_eq_false (show ¬ (l.length : Int) <= i by omega)];generalize l.getD i 0 = x at *
  have ha := jel x 1000000 (by omega)
  conv => whnf
  (refine goA ?_; try with_reducible exact trivial)
  (generalize hrq : ja2 _ _ (jbE l) = rq; obtain rfl : rq = [intA x] := hrq.symm.trans (hr); clear hrq; conv => whnf)
  refine jaw [] rfl (fun _ => ha) ?_;rintro r ⟨hx, rfl⟩;conv => whnf
  exact ⟨jgB hx (by omega), rfl⟩
 ·rw [if_neg hi, decide_eq_true (show (l.length : Int) <= i by omega)];conv => whnf
  exact ⟨by omega, rfl⟩
def bxG (l : List Int) (i : Nat) : List A := [.sl 1 l.length (jbE l), .v (.int .i64 i)]
def pk (l : List Int) (i m : Nat) : Nat := (pkF l i).toNat % m
theorem jd6 (l : List Int) (i : Nat) {m : Nat} (h : 0 < m) : pk l i m < m := Nat.mod_lt _ h
theorem jd2 (l : List Int) (i m : Nat) (hi : i <= 1000000000) (hm : 1 <= m /\ m <= 1000) : Spec Tryz.prog 37 [bxG l i] [.box 0 0, .v (.int .i64 m)] fun o r => o = [bxG l (i + 1)] /\ r = .v (.int .i64 (pk l i m)) := by
 unfold pk;refine ja8 (ja4 jyX xs0 1) (fun _ _ h => h) Tryz.func37 rfl (by kernel_rfl) rfl (by kernel_rfl) ?_;intro hok;conv => whnf
 refine jaw [] rfl (fun _ => jz4 l i) ?_;rintro r ⟨hr, rfl⟩
 obtain ⟨k, hk⟩ : ∃ k : Nat, pkF l i = (k : Int) := ⟨(pkF l i).toNat, by omega⟩
 rw [hk] at hr ⊢;conv => whnf
 (refine goA ?_; try with_reducible exact trivial)
 have e : ((k : Int)).tmod (m : Int) = ((k % m : Nat) : Int) := by rw [Int.tmod_eq_emod_of_nonneg (by omega)]; omega
 exact ⟨rfl, by rw [e]; rfl⟩
theorem jdq {α : Type} (f : α -> A) (l : List α) (i : Nat) (h : i < l.length) : (l.map f).drop (i * 1) = f l[i] :: (l.map f).drop (i + 1) := by
 rw [Nat.mul_one, List.drop_eq_getElem_cons (by simpa using h), List.getElem_map]
theorem jh8 (l : List Int) (i m : Nat) (h : l.length <= 70) : 70 <= i -> pk l i m = 0 := fun hi => by
 unfold pk pkF;rw [if_neg (by omega)];exact Nat.zero_mod m
def varL : List ByteArray := [⟨#[100]⟩, ⟨#[100, 100, 49]⟩, ⟨#[118]⟩, ⟨#[119, 50]⟩]
theorem jyz (l : List Int) (i : Nat) (hi : i <= 1000000000) : ∃ s ∈ varL, (s.size <= 3 /\ (l.length <= 70 -> 70 <= i -> s.size = 1)) /\ Spec Tryz.prog 112 [bxG l i] [.box 0 0] fun o r => o = [bxG l (i + 1)] /\ r = jbn s := by
 have hp := jd2 l i 4 hi (by decide)
 have hlt := jd6 l i (m := 4) (by decide)
 have ho := jh8 l i 4
 generalize pk l i 4 = k at *;refine ⟨varL[k]'hlt, List.getElem_mem _, ?_, ?_⟩
 ·have h4 : ∀ (k : Nat) (h : k < varL.length), (varL[k]'h).size <= 3 /\ (k = 0 -> (varL[k]'h).size = 1) := by decide
  exact ⟨(h4 k hlt).1, fun a b => (h4 k hlt).2 (ho a b)⟩
 have hr := jdq jbn varL k hlt
 generalize varL[k]'hlt = s at *;refine ja8 (ja4 jb4 xs0 1) (fun _ _ h => h) Tryz.func112 rfl (by kernel_rfl) rfl (by kernel_rfl) ?_;intro hok;conv => whnf
 refine ja6 0 [] rfl rfl rfl rfl (fun _ => hp) ?_;rintro o r ⟨ho, rfl⟩;cases ho;conv => whnf
 refine ⟨⟨by omega, by omega⟩, ?_⟩;conv => whnf
 generalize hrq : List.drop (Int.toNat (k : Int) * _) _ = rq
 obtain rfl : rq = _ :: _ := hrq.symm.trans hr
 clear hrq;conv => whnf
 exact ⟨rfl, rfl⟩
def litL : List Int := [0, 1, 2, 3, 7, 100, 2147483647, 30]
def opL : List ByteArray := [jge, pMinus, jdy, jbG]
inductive EI : Nat -> Nt -> Prop
 | lit (d : Nat) (n : Int) (h : n ∈ litL) : EI d (.mk 12 n eB [])
 | var (d : Nat) (s : ByteArray) (h : s ∈ varL) : EI d (.mk 14 0 s [])
 | nam (d : Nat) (s : ByteArray) (h : s ∈ builtL) : EI d (.mk 15 0 s [])
 | drw (d : Nat) (f : Nt) (h : EI d f) : EI (d + 1) (.mk 16 0 eB [f])
 | neg (d : Nat) (f : Nt) (h : EI d f) : EI (d + 1) (.mk 17 0 pMinus [f])
 | bin (d : Nat) (s : ByteArray) (f g : Nt) (hs : s ∈ opL) (h1 : EI d f) (h2 : EI d g) : EI (d + 1) (.mk 18 0 s [f, g])
def bI : Nat -> Nat
 | 0 => 2
 | d + 1 => 2 + 2 * bI d
theorem jwg : ∀ d, 2 <= bI d
 | 0 => Nat.le_refl _
 | d + 1 => by unfold bI; omega
def jy6 (l : List Int) (d : Nat) : Prop := l.length <= 70 -> ∀ (i : Nat) (z : Int), z.toNat = d -> -5 <= z -> z <= 10 -> i + bI d <= 1000000000 -> ∃ f i', EI d f /\ i <= i' /\ i' <= i + bI d /\ (∀ κ, 1 <= κ -> κ <= 7 -> wN κ f + phA κ i <= 1 + κ + phA κ i') /\ Spec Tryz.prog 113 [bxG l i] [.box 0 0, .v (.int .i64 z)] fun o r => o = [bxG l i'] /\ r = .agg (ntA f)
theorem gw {P : Program} {f : Nat} {cs args : List A} {X : List (List A)} {t : Nt} (h : Spec P f [cs] args fun o r => o = X /\ ∃ l, r = .agg l /\ WkL l (ntA t)) : Spec P f [cs] args fun o r => o = X /\ r = .agg (ntA t) :=
 Spec.weaken h fun o r ⟨h1, l, h2, h3⟩ => ⟨o, .agg (ntA t), ⟨h1, rfl⟩, .refl _, by rw [h2]; exact .agg h3⟩
set_option maxHeartbeats 1000000 in
theorem jzi (l : List Int) (d : Nat) (ih : ∀ e, d = e + 1 -> jy6 l e) : jy6 l d := fun hl i z hz h1 h2 hi => by
 have hge := jwg d
 have hp := jd2 l i 12 (by omega) (by decide)
 have hlt := jd6 l i (m := 12) (by decide)
 have ho := jh8 l i 12 hl
 have p0 := fun κ => jh6 κ i
 have p1 := fun κ => jh6 κ (i + 1)
 have pe2 : ∀ κ, phA κ (i + 2) = phA κ (i + 1 + 1) := fun _ => rfl
 generalize pk l i 12 = n0 at *
 obtain ⟨n, hn⟩ : ∃ n, (if z <= 0 then n0 % 6 else n0) = n := ⟨_, rfl⟩
 have hn12 : n < 12 := by split at hn <;> omega
 have hn6 : z <= 0 -> n < 6 := fun h => by rw [if_pos h] at hn; omega
 have hlo : n ≠ 0 -> i < 70 := fun h => by
  by_cases h70 : 70 <= i
  ·have := ho h70
   split at hn <;> omega
  ·omega
 by_cases hA : n <= 1
 ·have hp2 := jd2 l (i + 1) 8 (by omega) (by decide)
  have hlt2 := jd6 l (i + 1) (m := 8) (by decide)
  have ho2 := jh8 l (i + 1) 8 hl
  generalize pk l (i + 1) 8 = k8 at *
  have hlw : ∀ (k : Nat) (h : k < litL.length), dgN (litL[k]'h) <= 10 /\ (k = 0 -> dgN (litL[k]'h) = 1) := by decide
  have hlk := hlw k8 hlt2
  refine ⟨.mk 12 (litL[k8]'hlt2) eB [], i + 2, .lit _ _ (List.getElem_mem _), by omega, by omega, fun κ ka kb => by have p0 := p0 κ; have p1 := p1 κ; have pe2 := pe2 κ; rw [jxA]; omega, ?_⟩;clear hlw hlk
  have hr := jdq intA litL k8 hlt2
  generalize litL[k8]'hlt2 = x at *
  rcases (by omega : n = 0 ∨ n = 1) with rfl | rfl
  all_goals
   refine gw ?_;refine ja8 (ja4 jij (fun _ => [0]) 1) (fun _ _ h => h) Tryz.func113 rfl (by kernel_rfl) rfl (by kernel_rfl) ?_;intro hok;conv => whnf
   refine ja6 0 [] rfl rfl rfl rfl (fun _ => hp) ?_;rintro o r ⟨ho, rfl⟩;cases ho;conv => whnf
   by_cases hz0 : z <= 0
   all_goals
    first
    | (rw [if_pos hz0] at hn; rw [decide_eq_true hz0]; (conv => whnf); refine ⟨by decide, ?_⟩; rw [Int.tmod_eq_emod_of_nonneg (by omega), show (n0 : Int) % 6 = ((n0 % 6 : Nat) : Int) by omega, hn])
    | (rw [if_neg hz0] at hn; rw [decide_eq_false hz0]; (conv => whnf); rw [hn])
    conv => whnf
   all_goals
    refine ja6 0 [] rfl rfl rfl rfl (fun _ => hp2) ?_;rintro o r ⟨ho, rfl⟩;cases ho;conv => whnf
    refine ⟨⟨by omega, by omega⟩, ?_⟩;conv => whnf
    generalize hrq : List.drop (Int.toNat (k8 : Int) * _) _ = rq
    obtain rfl : rq = _ :: _ := hrq.symm.trans hr
    clear hrq;conv => whnf
    exact ⟨rfl, _, rfl, jb1 (f := .mk 12 x eB []) rfl⟩
 by_cases hB : n <= 3
 ·obtain ⟨s, hs1, hs2, hp2⟩ := jyz l (i + 1) (by omega)
  refine ⟨.mk 14 0 s [], i + 2, .var _ _ hs1, by omega, by omega, fun κ ka kb => by have p0 := p0 κ; have p1 := p1 κ; have pe2 := pe2 κ; rw [jxC]; omega, ?_⟩
  rcases (by omega : n = 2 ∨ n = 3) with rfl | rfl
  all_goals
   refine gw ?_;refine ja8 (ja4 jij (fun _ => [0]) 1) (fun _ _ h => h) Tryz.func113 rfl (by kernel_rfl) rfl (by kernel_rfl) ?_;intro hok;conv => whnf
   refine ja6 0 [] rfl rfl rfl rfl (fun _ => hp) ?_;rintro o r ⟨ho, rfl⟩;cases ho;conv => whnf
   by_cases hz0 : z <= 0
   all_goals
    first
    | (rw [if_pos hz0] at hn; rw [decide_eq_true hz0]; (conv => whnf); refine ⟨by decide, ?_⟩; rw [Int.tmod_eq_emod_of_nonneg (by omega), show (n0 : Int) % 6 = ((n0 % 6 : Nat) : Int) by omega, hn])
    | (rw [if_neg hz0] at hn; rw [decide_eq_false hz0]; (conv => whnf); rw [hn])
    conv => whnf
   all_goals
    refine ja6 0 [] rfl rfl rfl rfl (fun _ => hp2) ?_;rintro o r ⟨ho, rfl⟩;cases ho;conv => whnf
    exact ⟨rfl, _, rfl, jb1 (f := .mk 14 0 s []) rfl⟩
 by_cases hC : n <= 5
 ·have hp2 := jd2 l (i + 1) 9 (by omega) (by decide)
  have hlt2 := jd6 l (i + 1) (m := 9) (by decide)
  generalize pk l (i + 1) 9 = k8 at *
  have hlw : ∀ (k : Nat) (h : k < builtL.length), (builtL[k]'h).size <= 5 := by decide
  have hlk := hlw k8 hlt2
  refine ⟨.mk 15 0 (builtL[k8]'hlt2) [], i + 2, .nam _ _ (List.getElem_mem _), by omega, by omega, fun κ ka kb => by have p0 := p0 κ; have p1 := p1 κ; have pe2 := pe2 κ; rw [jxB]; omega, ?_⟩;clear hlw hlk
  have hr : ja2 1 k8 (jhp builtL) = [jbn (builtL[k8]'hlt2)] := jcc jbn builtL k8 hlt2
  have hbu := jiS
  generalize builtL[k8]'hlt2 = s at *
  rcases (by omega : n = 4 ∨ n = 5) with rfl | rfl
  all_goals
   refine gw ?_;refine ja8 (ja4 jij (fun _ => [0]) 1) (fun _ _ h => h) Tryz.func113 rfl (by kernel_rfl) rfl (by kernel_rfl) ?_;intro hok;conv => whnf
   refine ja6 0 [] rfl rfl rfl rfl (fun _ => hp) ?_;rintro o r ⟨ho, rfl⟩;cases ho;conv => whnf
   by_cases hz0 : z <= 0
   all_goals
    first
    | (rw [if_pos hz0] at hn; rw [decide_eq_true hz0]; (conv => whnf); refine ⟨by decide, ?_⟩; rw [Int.tmod_eq_emod_of_nonneg (by omega), show (n0 : Int) % 6 = ((n0 % 6 : Nat) : Int) by omega, hn])
    | (rw [if_neg hz0] at hn; rw [decide_eq_false hz0]; (conv => whnf); rw [hn])
    conv => whnf
   all_goals
    (refine jaw [] rfl (fun _ => hbu) ?_; rintro r rfl; conv => whnf)
    refine ja6 0 [] rfl rfl rfl rfl (fun _ => hp2) ?_;rintro o r ⟨ho, rfl⟩;cases ho;conv => whnf
    refine ⟨⟨by omega, by show (k8 : Int) < 9; omega⟩, ?_⟩;conv => whnf
    (generalize hrq : ja2 _ _ (jhp builtL) = rq; obtain rfl : rq = [jbn s] := hrq.symm.trans (hr); clear hrq; conv => whnf)
    exact ⟨rfl, _, rfl, jb1 (f := .mk 15 0 s []) rfl⟩
 have hzp : 0 < z := by
  by_cases h : 0 < z
  ·exact h
  ·have := hn6 (by omega); omega
 obtain ⟨e, rfl⟩ : ∃ e, d = e + 1 := ⟨d - 1, by omega⟩
 have ihe := ih e rfl
 unfold bI at hi
 by_cases hD : n <= 7
 ·obtain ⟨f, i2, hf, g1, g2, w1, hs⟩ := ihe hl (i + 1) (z - 1) (by omega) (by omega) (by omega) (by omega)
  rcases (by omega : n = 6 ∨ n = 7) with rfl | rfl
  ·refine ⟨.mk 16 0 eB [f], i2, .drw _ _ hf, by omega, by unfold bI; omega, fun κ ka kb => by have p0 := p0 κ; have p1 := p1 κ; have pe2 := pe2 κ; have w1 := w1 κ ka kb; rw [jxz]; omega, ?_⟩;refine gw ?_;refine ja8 (ja4 jij (fun _ => [0]) 1) (fun _ _ h => h) Tryz.func113 rfl (by kernel_rfl) rfl (by kernel_rfl) ?_;intro hok;conv => whnf
   refine ja6 0 [] rfl rfl rfl rfl (fun _ => hp) ?_;rintro o r ⟨ho, rfl⟩;cases ho;conv => whnf
   by_cases hz0 : z <= 0
   all_goals
    first
    | (rw [if_pos hz0] at hn; rw [decide_eq_true hz0]; (conv => whnf); refine ⟨by decide, ?_⟩; rw [Int.tmod_eq_emod_of_nonneg (by omega), show (n0 : Int) % 6 = ((n0 % 6 : Nat) : Int) by omega, hn])
    | (rw [if_neg hz0] at hn; rw [decide_eq_false hz0]; (conv => whnf); rw [hn])
    conv => whnf
   ·exact absurd hz0 (by omega)
   refine ⟨jam (by omega), ?_⟩;conv => whnf
   refine ja6 0 [] rfl rfl rfl rfl (fun _ => hs) ?_;rintro o r ⟨ho, rfl⟩;cases ho;conv => whnf
   exact ⟨rfl, _, rfl, by rw [jbP]; exact jaR _⟩
  ·have hsz : pMinus.size = 1 := rfl
   refine ⟨.mk 17 0 pMinus [f], i2, .neg _ _ hf, by omega, by unfold bI; omega, fun κ ka kb => by have p0 := p0 κ; have p1 := p1 κ; have pe2 := pe2 κ; have w1 := w1 κ ka kb; rw [ju8]; omega, ?_⟩;refine gw ?_;refine ja8 (ja4 jij (fun _ => [0]) 1) (fun _ _ h => h) Tryz.func113 rfl (by kernel_rfl) rfl (by kernel_rfl) ?_;intro hok;conv => whnf
   refine ja6 0 [] rfl rfl rfl rfl (fun _ => hp) ?_;rintro o r ⟨ho, rfl⟩;cases ho;conv => whnf
   by_cases hz0 : z <= 0
   all_goals
    first
    | (rw [if_pos hz0] at hn; rw [decide_eq_true hz0]; (conv => whnf); refine ⟨by decide, ?_⟩; rw [Int.tmod_eq_emod_of_nonneg (by omega), show (n0 : Int) % 6 = ((n0 % 6 : Nat) : Int) by omega, hn])
    | (rw [if_neg hz0] at hn; rw [decide_eq_false hz0]; (conv => whnf); rw [hn])
    conv => whnf
   ·exact absurd hz0 (by omega)
   refine ⟨jam (by omega), ?_⟩;conv => whnf
   refine ja6 0 [] rfl rfl rfl rfl (fun _ => hs) ?_;rintro o r ⟨ho, rfl⟩;cases ho;conv => whnf
   exact ⟨rfl, _, rfl, by rw [jbP]; exact jaR _⟩
 have hp2 := jd2 l (i + 1) 4 (by omega) (by decide)
 have hlt2 := jd6 l (i + 1) (m := 4) (by decide)
 generalize pk l (i + 1) 4 = k8 at *
 obtain ⟨f, i2, hf, g1, g2, w1, hs⟩ := ihe hl (i + 1 + 1) (z - 1) (by omega) (by omega) (by omega) (by omega)
 obtain ⟨g, i3, hg, g3, g4, w2, hs2⟩ := ihe hl i2 (z - 1) (by omega) (by omega) (by omega) (by omega)
 have hlw : ∀ (k : Nat) (h : k < opL.length), (opL[k]'h).size = 1 := by decide
 have hlk := hlw k8 hlt2
 refine ⟨.mk 18 0 (opL[k8]'hlt2) [f, g], i3, .bin _ _ _ _ (List.getElem_mem _) hf hg, by omega, by unfold bI; omega, fun κ ka kb => by have p0 := p0 κ; have p1 := p1 κ; have pe2 := pe2 κ; have w1 := w1 κ ka kb; have w2 := w2 κ ka kb; rw [jrA]; omega, ?_⟩;clear hlw hlk
 have hr := jdq jbn opL k8 hlt2
 generalize opL[k8]'hlt2 = s at *
 rcases (by omega : n = 8 ∨ n = 9 ∨ n = 10 ∨ n = 11) with rfl | rfl | rfl | rfl
 all_goals
  refine gw ?_;refine ja8 (ja4 jij (fun _ => [0]) 1) (fun _ _ h => h) Tryz.func113 rfl (by kernel_rfl) rfl (by kernel_rfl) ?_;intro hok;conv => whnf
  refine ja6 0 [] rfl rfl rfl rfl (fun _ => hp) ?_;rintro o r ⟨ho, rfl⟩;cases ho;conv => whnf
  by_cases hz0 : z <= 0
  all_goals
   first
   | (rw [if_pos hz0] at hn; rw [decide_eq_true hz0]; (conv => whnf); refine ⟨by decide, ?_⟩; rw [Int.tmod_eq_emod_of_nonneg (by omega), show (n0 : Int) % 6 = ((n0 % 6 : Nat) : Int) by omega, hn])
   | (rw [if_neg hz0] at hn; rw [decide_eq_false hz0]; (conv => whnf); rw [hn])
   conv => whnf
  ·exact absurd hz0 (by omega)
  refine ja6 0 [] rfl rfl rfl rfl (fun _ => hp2) ?_;rintro o r ⟨ho, rfl⟩;cases ho;conv => whnf
  refine ⟨⟨by omega, by omega⟩, ?_⟩;conv => whnf
  generalize hrq : List.drop (Int.toNat (k8 : Int) * _) _ = rq
  obtain rfl : rq = _ :: _ := hrq.symm.trans hr
  clear hrq;conv => whnf
  refine ⟨jam (by omega), ?_⟩;conv => whnf
  refine ja6 0 [] rfl rfl rfl rfl (fun _ => hs) ?_;rintro o r ⟨ho, rfl⟩;cases ho;conv => whnf
  refine ⟨jam (by omega), ?_⟩;conv => whnf
  refine ja6 0 [] rfl rfl rfl rfl (fun _ => hs2) ?_;rintro o r ⟨ho, rfl⟩;cases ho;conv => whnf
  exact ⟨rfl, _, rfl, by rw [jcC]; exact jaR _⟩
theorem jgQ (l : List Int) : ∀ d, jy6 l d
 | 0 => jzi l 0 fun e h => by omega
 | d + 1 => jzi l (d + 1) fun e h => by
  obtain rfl : d = e := by omega
  exact jgQ l d
end Go.Proofs.YtfbifdccmabdbaaGreatDoor.Vm
