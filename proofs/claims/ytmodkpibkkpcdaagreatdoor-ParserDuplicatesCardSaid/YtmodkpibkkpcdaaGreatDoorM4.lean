/- Texts 4 of the proof: P4, T4, T5, P5, P6, P7, P8, P9, Pb, P10, P11, P12, P13, P14, P16, P17, P15, P18, P19, P20, VmK, VmA, P21, VmH, P22, P23, P24, Td, P25, VmD, P26, L0, L1, L2, Q1, Q2, Q3, Q4, Q5, Q6, Q7, Q8, Q9, VmB, Q10, Q11, Q12, Q13, E1, E4, E2, E5, Ta, G0, G1. -/
import Derived.Test.YtmodkpibkkpcdaaGreatDoorM3
import Derived.Shelf.Lay
import Derived.Shelf.SlIterI.Nil
import Derived.Shelf.SortM.Plain
import Derived.Shelf.SortM.SortNone
import Derived.Recover
namespace Go.Proofs.YtmodkpibkkpcdaaGreatDoor.Vm
open Go.RowKit Go.Shelf
set_option linter.unusedSimpArgs false
set_option linter.unusedVariables false
set_option maxRecDepth 100000
theorem jwj {a b : ByteArray} (h : a.data.toList = b.data.toList) : a = b := ByteArray.ext (Array.toList_inj.1 h)
def jzt : List (List UInt8) := keyL.map (·.data.toList) ++ [] :: builtL.map (·.data.toList)
theorem jjo (l : List ByteArray) (t : ByteArray) : (l.any fun s => decide (t = s)) = decide (t.data.toList ∈ l.map (·.data.toList)) := by
 induction l with
 | nil => simp
 | cons s l ih =>
  rw [List.any_cons, ih, List.map_cons]
  by_cases h : t = s
  ·subst h;rw [decide_eq_true rfl, decide_eq_true List.mem_cons_self]; rfl
  ·rw [decide_eq_false h, Bool.false_or]
   congr 1
   rw [List.mem_cons, eq_iff_iff]
   constructor
   ·exact .inr
   ·rintro (e | e)
    ·exact absurd (jwj e) h
    ·exact e
def wOk (t : Tk) : Prop := t.kind = 1 -> t.text.data.toList ≠ [] /\ ∀ c ∈ t.text.data.toList, c ≠ 32
theorem jxb : ∀ w ∈ jzt, ∀ c ∈ w, c ≠ 32 := by decide +kernel
theorem jxP : ∀ w ∈ builtL.map (·.data.toList), ∀ c ∈ w, c ≠ 32 := by decide +kernel
theorem jiZ (t : ByteArray) : ((⟨#[32]⟩ : ByteArray) ++ t ++ ⟨#[32]⟩).data.toList = 32 :: (t.data.toList ++ [32]) := by simp
theorem jvv (t : ByteArray) (h : t.data.toList ≠ []) : decide (t.data.toList ∈ jzt) = (keyL ++ builtL).any fun s => decide (t = s) := by
 rw [List.any_append, jjo, jjo, <- Bool.decide_or];unfold jzt
 congr 1
 rw [List.mem_append, List.mem_cons, eq_iff_iff]
 constructor
 ·rintro (e | e | e)
  ·exact .inl e
  ·exact absurd e h
  ·exact .inr e
 ·rintro (e | e)
  ·exact .inl e
  ·exact .inr (.inr e)
theorem jqs (ts : List Tk) (h : 0 < ts.length) (hw : wOk (hd ts)) (hz : (hd ts).text.size <= 1000000000) : SpecV Tryz.prog 106 (bxN ts) [.box 0 0] (fun c r => c = bxN ts /\ r = jbI (jeL ts)) fun _ => False := fun y hy => by
 have hr := jdI h
 unfold jeL;refine jam (jat jal xs0 1 (fun ch _ => (fun _ => False) ch)) (fun _ _ h => h) Tryz.func106 rfl (by kernel_rfl) rfl (by kernel_rfl) ?_;intro _;unfold wOk at hw;generalize hd ts = t at *;conv => whnf
 (refine goA ?_; try with_reducible exact trivial)
 (generalize hrq : jae _ _ (jer ts) = rq; obtain rfl : rq = tkL t := hrq.symm.trans (hr); clear hrq; conv => whnf)
 by_cases h1 : t.kind = 1
 ·obtain ⟨w1, w2⟩ := hw h1
  have hc : ∀ K : ByteArray, K.size <= 1000000000 -> K.data.toList = spW jzt -> Spec Tryz.prog 127 [] [jaS K, jaS ((⟨#[32]⟩ : ByteArray) ++ t.text ++ ⟨#[32]⟩)] fun _ r => r = jbI ((keyL ++ builtL).any fun s => decide (t.text = s)) := fun K hK hK2 => by
   have := jiC K ((⟨#[32]⟩ : ByteArray) ++ t.text ++ ⟨#[32]⟩) hK
   rw [jiZ, hK2, jgf _ w2 _ jxb, jvv _ w1] at this;exact this
  have hs1 : (⟨#[32]⟩ : ByteArray).size = 1 := rfl
  rw [decide_eq_true h1];conv => whnf
  refine ⟨by rw [hs1]; unfold maxLen; omega, ?_⟩;conv => whnf
  refine ⟨by rw [ByteArray.size_append, hs1]; unfold maxLen; omega, ?_⟩;conv => whnf
  (refine ja9 [] rfl (fun _ => hc _ (by decide +kernel) (by decide +kernel)) ?_; rintro r rfl; conv => whnf)
  exact ⟨_, rfl, rfl, rfl⟩
 ·rw [decide_eq_false h1];conv => whnf
  exact ⟨_, rfl, rfl, rfl⟩
theorem jem (nm : List ByteArray) (ts : List Tk) (h : 0 < ts.length) (hw : wOk (hd ts)) (hz : (hd ts).text.size <= 1000000000) : Spec Tryz.prog 106 [bxQ nm ts] [.box 0 0] fun o r => o = [bxQ nm ts] /\ r = jbI (jeL ts) :=
 (((jqs ts h hw hz).q 1 nm.length (txA nm)).mono (fun _ _ ⟨_, k1, k2, k3⟩ => ⟨by rw [k1, k2]; rfl, k3⟩) fun _ k => k).toS
theorem jox (ts : List Tk) (h : 0 < ts.length) (s : ByteArray) : SpecV Tryz.prog 68 (bxN ts) [.box 0 0, jaS s] (fun c r => isP s ts = true /\ c = bxN ts.tail /\ r = .tup []) fun ch => isP s ts = false /\ ch = jaC (hd ts).pos 10 := fun y hy => by
 refine jam (jat jal xs0 1 (fun ch _ => (fun ch => isP s ts = false /\ ch = jaC (hd ts).pos 10) ch)) (fun _ _ h => h) Tryz.func68 rfl (by kernel_rfl) rfl (by kernel_rfl) ?_;intro _;conv => whnf
 refine ja8 0 [] rfl rfl rfl rfl (fun _ => jzv ts h s y hy) (fun ch bx' hp => hp.elim) ?_;rintro o r ⟨c, ho, rfl, rfl⟩;cases ho;conv => whnf
 cases hq : isP s ts with
 | true =>
  conv => whnf
  refine ja8 0 [] rfl rfl rfl rfl (fun _ => jiQ ts h y hy) (fun ch bx' hp => hp.elim) ?_;rintro o r ⟨c, ho, rfl, rfl⟩;cases ho;conv => whnf
  exact ⟨_, rfl, rfl, rfl, rfl⟩
 | false =>
  conv => whnf
  refine ja8 0 [] rfl rfl rfl rfl (fun _ => jgh ts h 10 y hy) (fun ch bx' hp => ⟨rfl, hp⟩) ?_;rintro o r ⟨_, _, ⟨⟩⟩
theorem jah (nm : List ByteArray) (ts : List Tk) (h : 0 < ts.length) (s : ByteArray) : SpecP Tryz.prog 68 [bxQ nm ts] [.box 0 0, jaS s] (fun o r => isP s ts = true /\ o = [bxQ nm ts.tail] /\ r = .tup []) fun ch => isP s ts = false /\ ch = jaC (hd ts).pos 10 :=
 ((jox ts h s).q 1 nm.length (txA nm)).mono (fun _ _ ⟨_, k1, k2, k3, k4⟩ => ⟨k2, by rw [k1, k3]; rfl, k4⟩) fun _ k => k
theorem jec (nm : List ByteArray) (ts : List Tk) (h : 0 < ts.length) (s : ByteArray) (lv : Int) : SpecP Tryz.prog 109 [bxQ nm ts] [.box 0 0, jaS s, jao lv] (fun o r => (isP s ts = true /\ lv <= 20) /\ o = [bxQ nm ts.tail] /\ r = .tup [])
  fun ch => (isP s ts = true /\ 20 < lv /\ ch = jaC (hd ts).pos 2) ∨ (isP s ts = false /\ ch = jaC (hd ts).pos 10) := by
 refine jam (jat jal xs0 1 (fun ch _ => (fun ch => (isP s ts = true /\ 20 < lv /\ ch = jaC (hd ts).pos 2) ∨ (isP s ts = false /\ ch = jaC (hd ts).pos 10)) ch)) (fun _ _ h => h) Tryz.func109 rfl (by kernel_rfl) rfl (by kernel_rfl) ?_;intro _;conv => whnf
 refine jaa 0 [] rfl rfl rfl rfl (fun _ => jcO nm ts h s) ?_;rintro o r ⟨ho, rfl⟩;cases ho;conv => whnf
 cases hq : isP s ts with
 | true =>
  conv => whnf
  by_cases h1 : 20 < lv
  ·rw [decide_eq_true h1];conv => whnf
   refine ja8 0 [] rfl rfl rfl rfl (fun _ => jcq nm ts h 2) (fun ch bx' hp => .inl ⟨rfl, h1, hp⟩) ?_;rintro o r ⟨⟩
  ·rw [decide_eq_false h1];conv => whnf
   refine ja8 0 [] rfl rfl rfl rfl (fun _ => jah nm ts h s) (fun ch bx' hp => .inr (by rw [hq] at hp; exact hp)) ?_;rintro o r ⟨_, ho, rfl⟩;cases ho;conv => whnf
   exact ⟨⟨rfl, by omega⟩, rfl, rfl⟩
 | false =>
  conv => whnf
  refine ja8 0 [] rfl rfl rfl rfl (fun _ => jah nm ts h s) (fun ch bx' hp => .inr (by rw [hq] at hp; exact hp)) ?_;rintro o r ⟨hx, ho, rfl⟩;rw [hq] at hx; cases hx
section
set_option maxRecDepth 100000
end
structure Pr where
 un : List Tk -> Ps
 ch : List Tk -> Ps
 fo : List Tk -> Ps
inductive Lr where
 | ok (l : List Fm) (r : List Tk)
 | bad (p e : Int)
def TkB (ts : List Tk) : Prop := TkW ts /\ ts.length <= 1000000
theorem TkB.tail {ts : List Tk} (h : TkB ts) (hk : (hd ts).kind ≠ 0) : TkB ts.tail /\ ts.tail.length + 1 = ts.length := by
 have h1 := h.1.pos
 refine ⟨⟨h.1.tail hk, ?_⟩, ?_⟩
 ·have := h.2; simp; omega
 ·simp; omega
theorem TkB.is {s : ByteArray} {ts : List Tk} (h : TkB ts) (k : isT s ts = true) : TkB ts.tail /\ ts.tail.length + 1 = ts.length := h.tail (jo9 k)
theorem jf3 (nm : List ByteArray) (ts : List Tk) (h : 0 < ts.length) (lim : Int) : SpecP Tryz.prog 108 [bxQ nm ts] [.box 0 0, jao lim] (fun o r => ((hd ts).kind = 2 /\ (hd ts).n < lim) /\ o = [bxQ nm ts.tail] /\ r = jao (hd ts).n)
  fun ch => ((hd ts).kind ≠ 2 /\ ch = jaC (hd ts).pos 10) ∨ ((hd ts).kind = 2 /\ lim <= (hd ts).n /\ ch = jaC (hd ts).pos 6) := by
 have hr := jdI h
 have hf := fun e => jcq nm ts h e
 have hn := jbm nm ts h
 refine jam (jat jal xs0 1 (fun ch _ => (fun ch => ((hd ts).kind ≠ 2 /\ ch = jaC (hd ts).pos 10) ∨ ((hd ts).kind = 2 /\ lim <= (hd ts).n /\ ch = jaC (hd ts).pos 6)) ch)) (fun _ _ h => h) Tryz.func108 rfl (by kernel_rfl) rfl (by kernel_rfl) ?_;intro _;generalize hd ts = t at *;conv => whnf
 (refine goA ?_; try with_reducible exact trivial)
 (generalize hrq : jae _ _ (jer ts) = rq; obtain rfl : rq = tkL t := hrq.symm.trans (hr); clear hrq; conv => whnf)
 by_cases h1 : t.kind = 2
 ·rw [decide_eq_true h1];conv => whnf
  by_cases h2 : lim <= t.n
  ·rw [decide_eq_true h2];conv => whnf
   refine ja8 0 [] rfl rfl rfl rfl (fun _ => hf 6) (fun ch bx' hp => .inr ⟨h1, h2, hp⟩) ?_;rintro o r ⟨⟩
  ·rw [decide_eq_false h2];conv => whnf
   refine jaa 0 [] rfl rfl rfl rfl (fun _ => hn) ?_;rintro o r ⟨ho, rfl⟩;cases ho;conv => whnf
   exact ⟨⟨h1, by omega⟩, rfl, rfl⟩
 ·rw [decide_eq_false h1];conv => whnf
  refine ja8 0 [] rfl rfl rfl rfl (fun _ => hf 10) (fun ch bx' hp => .inl ⟨h1, hp⟩) ?_;rintro o r ⟨⟩
def jie (ts : List Tk) : List ByteArray -> Int -> Int
 | [], _ => -1
 | s :: l, i => if isP s ts = true then i else jie ts l (i + 1)
theorem jkV (ts : List Tk) : ∀ (l : List ByteArray) (i : Int), 0 <= i -> (0 <= jie ts l i ↔ jfI l ts = true)
 | [], i, _ => by simp [jie, jfI]
 | s :: l, i, h => by
  have ih := jkV ts l (i + 1) (by omega)
  unfold jie jfI;rw [List.any_cons]
  by_cases hs : isP s ts = true
  ·rw [if_pos hs, hs]; simp [h]
  ·rw [if_neg hs, Bool.not_eq_true] at *;rw [hs, Bool.false_or]; exact ih
theorem jrj (nm : List ByteArray) (ts : List Tk) (h : 0 < ts.length) (l : List ByteArray) (hl : l.length <= 1000) : Spec Tryz.prog 197 [bxQ nm ts] [.sl 1 l.length (jdR l), .bm 66 [.box 0 0]] fun o r => o = [bxQ nm ts] /\ r = jao (jie ts l 0) := by
 refine ja5 (ja2 jal xs0 1) (fun _ _ h => h) Tryz.func197 rfl (by kernel_rfl) rfl (by kernel_rfl) ?_;intro _;conv => whnf
 refine jak [0, 1, 7] ?_;conv => whnf
 refine jaJ (fun k : Nat => [(8, .v (.int .i64 k))]) (fun _ => [bxQ nm ts]) (fun _ => []) (fun k => k <= l.length /\ jie ts (l.drop k) k = jie ts l 0) (fun k => l.length - k) 0 ?_ ⟨Nat.zero_le _, rfl⟩ ?_
 ·repeat' constructor
 ·rintro k ⟨hk, hinv⟩;conv => whnf
  by_cases hlt : k < l.length
  ·have hr := jj1 l k hlt
   rw [List.drop_eq_getElem_cons hlt] at hinv;generalize l[k] = s at *
   (refine goA ?_; try with_reducible exact trivial)
   (generalize hrq : jae _ _ (jdR l) = rq; obtain rfl : rq = [jaS s] := hrq.symm.trans (hr); clear hrq; conv => whnf)
   refine jaa 0 [] rfl rfl rfl rfl (fun _ => jcO nm ts h s) ?_;rintro o r ⟨ho, rfl⟩;cases ho;conv => whnf
   cases hq : isP s ts with
   | true =>
    (refine goA ?_; try with_reducible exact trivial)
    rw [jie, if_pos hq] at hinv;rw [<- hinv];exact ⟨rfl, rfl⟩
   | false =>
    (refine goA ?_; try with_reducible exact trivial)
    rw [jie, if_neg (by rw [hq]; simp)] at hinv;refine ⟨jaL (by omega), ?_⟩;conv => whnf
    refine ⟨k + 1, jeO ?_, ⟨hlt, by push_cast; exact hinv⟩, by omega⟩
    repeat' constructor
  ·(refine goA ?_; try with_reducible exact trivial)
   rw [List.drop_of_length_le (by omega)] at hinv;rw [<- hinv];exact ⟨rfl, rfl⟩
theorem jiM (nm : List ByteArray) (ts : List Tk) (h : 0 < ts.length) (l : List ByteArray) (hl : l.length <= 1000) : Spec Tryz.prog 183 [bxQ nm ts] [.sl 1 l.length (jdR l), .bm 66 [.box 0 0]] fun o r => o = [bxQ nm ts] /\ r = jbI (jfI l ts) := by
 have hi := jkV ts l 0 (by omega)
 refine ja5 (ja2 jal xs0 1) (fun _ _ h => h) Tryz.func183 rfl (by kernel_rfl) rfl (by kernel_rfl) ?_;intro _;conv => whnf
 refine jaa 0 [] rfl rfl rfl rfl (fun _ => jrj nm ts h l hl) ?_;rintro o r ⟨ho, rfl⟩;cases ho;generalize jie ts l 0 = i at *;conv => whnf
 refine ⟨rfl, ?_⟩
 cases hq : jfI l ts with
 | true => rw [decide_eq_true (hi.2 hq)]; rfl
 | false => rw [decide_eq_false (fun e => by rw [hi.1 e] at hq; cases hq)]; rfl
theorem jvs {X : Type} {np : Nat} {t t0 : List A} {bx : List (List A)} {rw : List Row} {g : X -> List (Nat × A)} {hb : X -> List (List A)} {hr : X -> List Row} {x : X} (ids sel : List Nat)
  (h : jaF (ja3 rw ids) fun rw' => jgF (jjN rw') t fun t' => jnd rw' bx fun bx' => jyW sel t' bx' rw' fun s' => jmy t0 g hb hr x fun s2 => LeS np s' s2) : Le np ⟨t, bx, rw⟩ (ji7 t0 g hb hr x) := by
 rw [jaz, jax, jfH] at h;exact ((jqC (np := np) (s := ⟨t, bx, rw⟩) ids).trans jrW).trans (jas sel h)
def TkP (ts : List Tk) : Prop := TkB ts /\ ∀ t ∈ ts, wOk t
theorem TkP.pos {ts : List Tk} (h : TkP ts) : 0 < ts.length := h.1.1.pos
theorem TkP.hd {ts : List Tk} (h : TkP ts) : wOk (hd ts) := by
 have := h.pos
 cases ts with
 | nil => simp at this
 | cons t r => exact h.2 t List.mem_cons_self
theorem TkP.good {ts : List Tk} (h : TkP ts) : jlq (Vm.hd ts) := h.1.1.good
theorem TkP.tail {ts : List Tk} (h : TkP ts) (hk : (Vm.hd ts).kind ≠ 0) : TkP ts.tail /\ ts.tail.length + 1 = ts.length :=
 ⟨⟨(h.1.tail hk).1, fun t ht => h.2 t (List.mem_of_mem_tail ht)⟩, (h.1.tail hk).2⟩
theorem jck {s : ByteArray} {ts : List Tk} (h : isP s ts = true) : (hd ts).kind ≠ 0 := by
 unfold isP at h;simp only [Bool.and_eq_true, Bool.or_eq_true, decide_eq_true_eq] at h
 rcases h.2 with h | h <;> omega
theorem TkP.is {s : ByteArray} {ts : List Tk} (h : TkP ts) (k : isP s ts = true) : TkP ts.tail /\ ts.tail.length + 1 = ts.length := h.tail (jck k)
theorem jg8 {l : List ByteArray} {ts : List Tk} (h : jfI l ts = true) : ∃ s, isP s ts = true := by
 unfold jfI at h
 obtain ⟨s, _, h⟩ := List.any_eq_true.1 h
 exact ⟨s, h⟩
def jaX (op : List Tk -> Pn) : Prop := ∀ ts f r, TkP ts -> op ts = .ok f r -> TkP r /\ r.length <= ts.length
def pnQ (p : Pn) (ch : List PanicEntry) : Prop := match p with
 | .bad x e => ch = jaC x e
 | _ => False
def poQ (nm : List ByteArray) (p : Pn) (o : List (List A)) (r : A) : Prop := match p with
 | .ok f ts => o = [bxQ nm ts] /\ r = .agg (ntA f)
 | _ => False
theorem jau {nm : List ByteArray} {p : Pn} {o : List (List A)} {r : A} (h : poQ nm p o r) : ∃ f ts, p = .ok f ts /\ o = [bxQ nm ts] /\ r = .agg (ntA f) := by
 unfold poQ at h
 split at h
 ·exact ⟨_, _, rfl, h.1, h.2⟩
 ·exact h.elim
theorem jaN {p : Pn} {ch : List PanicEntry} (h : pnQ p ch) : ∃ x e, p = .bad x e /\ ch = jaC x e := by
 unfold pnQ at h
 split at h
 ·exact ⟨_, _, rfl, h⟩
 ·exact h.elim
theorem jag {p : Pn} {x e : Int} {ch : List PanicEntry} (h : p = .bad x e) (k : ch = jaC x e) : pnQ p ch := by subst h; exact k
def ju7 : List A := [jao 0, jao 0, jaS ⟨#[]⟩, .v (.slice none 0 0)]
def jbl (nm : List ByteArray) (g : Nat) (lv : Int) (op : List Tk -> Pn) : Prop := ∀ ts, TkP ts -> SpecP Tryz.prog g [bxQ nm ts] [.box 0 0, jao lv] (poQ nm (op ts)) (pnQ (op ts))
set_option maxHeartbeats 1000000 in
theorem jeh (nm : List ByteArray) (op : List Tk -> Pn) (signs : List ByteArray) (lv : Int) (g : Nat) (hsg : signs.length <= 1000) (hgo : jaX op) (hop : jbl nm g lv op) (ts : List Tk) (h : TkP ts) :
  SpecP Tryz.prog 152 [bxQ nm ts] [.box 0 0, jao lv, .bm g [.box 0 0], .sl 1 signs.length (jdR signs)] (poQ nm (jcG op signs ts)) (pnQ (jcG op signs ts)) := by
 obtain ⟨P, hP⟩ : ∃ P, jcG op signs ts = P := ⟨_, rfl⟩
 rw [hP];refine jam (jat jxK (fun _ => [0]) 1 (fun ch _ => (pnQ P) ch)) (fun _ _ h => h) Tryz.func152 rfl (by kernel_rfl) rfl (by kernel_rfl) ?_;intro _;unfold jcG at hP
 have hspec := hop ts h
 conv => whnf
 refine ja8 0 [] rfl rfl rfl rfl (fun _ => hspec) (fun ch bx' hp => ?_) ?_
 ·obtain ⟨x, e, he, hc⟩ := jaN hp
  rw [he] at hP;exact jag hP.symm hc
 rintro o r hpo
 obtain ⟨f, r1, he, ho, rfl⟩ := jau hpo
 cases ho;rw [he] at hP;simp only [Pn.andThen] at hP
 obtain ⟨h1, l1⟩ := hgo _ _ _ h he
 conv => whnf
 refine jak [0, 1, 2, 3, 8, 9] ?_;conv => whnf
 refine jaJ (fun _ : Nat × Nt × List Tk => []) (fun x => [bxQ nm x.2.2, ju7, ntA x.2.1]) (fun _ => []) (fun x => TkP x.2.2 /\ x.2.2.length <= x.1 /\ jcb op signs x.1 x.2.1 x.2.2 = P) (fun x => x.2.2.length) (r1.length, f, r1) ?_ ⟨h1, Nat.le_refl _, hP⟩ ?_
 ·repeat' constructor
 rintro ⟨n, left, ts1⟩ ⟨g1, g2, g5⟩
 simp only at g1 g2 g5
 conv => whnf
 refine jaa 0 [] rfl rfl rfl rfl (fun _ => jiM nm ts1 g1.pos signs hsg) ?_;rintro o r ⟨ho, rfl⟩;cases ho;conv => whnf
 cases hq : jfI signs ts1 with
 | true =>
  obtain ⟨s0, hs0⟩ := jg8 hq
  obtain ⟨q1, q2⟩ := g1.is hs0
  obtain ⟨m, rfl⟩ : ∃ m, n = m + 1 := ⟨n - 1, by have := g1.pos; omega⟩
  rw [jcb, if_pos hq] at g5
  have hnx := jbm nm ts1 g1.pos
  generalize ts1.tail = ts2 at *;generalize hd ts1 = t at *;conv => whnf
  refine jaa 0 [] rfl rfl rfl rfl (fun _ => hnx) ?_;rintro o r ⟨ho, rfl⟩;cases ho;conv => whnf
  refine ja8 0 [] rfl rfl rfl rfl (fun _ => hop ts2 q1) (fun ch bx' hp => ?_) ?_
  ·obtain ⟨x, e, he, hc⟩ := jaN hp
   rw [he] at g5;exact jag g5.symm hc
  rintro o r hpo
  obtain ⟨f2, r2, he2, ho, rfl⟩ := jau hpo
  cases ho;rw [he2] at g5;simp only [Pn.andThen] at g5
  obtain ⟨h2, l2⟩ := hgo _ _ _ q1 he2
  refine ⟨(m, .mk 18 0 t.text [left, f2], r2), jvs [0] [] ?_, ⟨h2, by simp only; omega, g5⟩, by simp only; omega⟩;conv => whnf
  repeat' constructor
  show A.sl 4 2 _ = A.sl 4 2 (jaR [left, f2])
  rw [jaE, jaE, jbw]; rfl
 | false =>
  have hlg : jcb op signs n left ts1 = .ok left ts1 := by
   cases n with
   | zero => rfl
   | succ m => rw [jcb, if_neg (by rw [hq]; simp)]
  rw [hlg] at g5;subst g5;conv => whnf
  (refine goA ?_; try with_reducible exact trivial)
  exact ⟨rfl, rfl⟩
theorem jcd (k n : Int) (s : ByteArray) (f : Nt) : ntA (.mk k n s [f]) = [jao k, jao n, jaS s, .sl 4 1 (ntA f)] := by
 have e1 : ntA f = jaR [f] := by rw [jaE, jbw, List.append_nil]
 rw [e1]; rfl
theorem jd2 (k n : Int) (s : ByteArray) (f g : Nt) : ntA (.mk k n s [f, g]) = [jao k, jao n, jaS s, .sl 4 2 (ntA f ++ ntA g)] := by
 have e1 : ntA f ++ ntA g = jaR [f, g] := by rw [jaE, jaE, jbw, List.append_nil]
 rw [e1]; rfl
def LowQ (nm : List ByteArray) (lv : Int) (low : Option Pa) : Prop := 0 <= lv /\ ((low = none /\ lv = 20) ∨ ∃ p, low = some p /\ lv + 1 <= 20 /\ jaX p.no /\ jaX p.un /\ jaX p.ex /\ jaX p.bl ∧
 jbl nm 184 (lv + 1) p.no /\ jbl nm 204 (lv + 1) p.un /\ jbl nm 128 (lv + 1) p.ex /\ jbl nm 70 (lv + 1) p.bl)
def jzG (nm : List ByteArray) (lv : Int) (g : Nat) (op : Option (List Tk -> Pn)) : Prop := 0 <= lv /\ ((op = none /\ lv = 20) ∨ ∃ f, op = some f /\ lv + 1 <= 20 /\ jaX f /\ jbl nm g (lv + 1) f)
theorem LowQ.no {nm : List ByteArray} {lv : Int} {low : Option Pa} (h : LowQ nm lv low) : jzG nm lv 184 (low.map (·.no)) := by
 obtain ⟨h0, ⟨rfl, h1⟩ | ⟨p, rfl, h1, a, b, c, d, e, f, g, i⟩⟩ := h
 ·exact ⟨h0, .inl ⟨rfl, h1⟩⟩
 ·exact ⟨h0, .inr ⟨_, rfl, h1, a, e⟩⟩
theorem LowQ.un {nm : List ByteArray} {lv : Int} {low : Option Pa} (h : LowQ nm lv low) : jzG nm lv 204 (low.map (·.un)) := by
 obtain ⟨h0, ⟨rfl, h1⟩ | ⟨p, rfl, h1, a, b, c, d, e, f, g, i⟩⟩ := h
 ·exact ⟨h0, .inl ⟨rfl, h1⟩⟩
 ·exact ⟨h0, .inr ⟨_, rfl, h1, b, f⟩⟩
theorem jfb (nm : List ByteArray) (s : ByteArray) (lv : Int) (g : Nat) (op : Option (List Tk -> Pn)) (hlo : jzG nm lv g op) (ts : List Tk) (h : TkP ts) (hs : isP s ts = true) :
  SpecP Tryz.prog 198 [bxQ nm ts] [.box 0 0, jao lv, jaS s, .bm g [.box 0 0]] (poQ nm (jpJ s op ts)) (pnQ (jpJ s op ts)) := by
 obtain ⟨hlv, hlo⟩ := hlo
 obtain ⟨P, hP⟩ : ∃ P, jpJ s op ts = P := ⟨_, rfl⟩
 rw [hP]
 have hopen := jec nm ts h.pos s (lv + 1)
 obtain ⟨q1, q2⟩ := h.is hs
 unfold jpJ at hP
 rcases hlo with ⟨rfl, rfl⟩ | ⟨f, rfl, hle, gf, sf⟩
 ·simp only at hP
  refine jam (jat jal xs0 1 (fun ch _ => (pnQ P) ch)) (fun _ _ h => h) Tryz.func198 rfl (by kernel_rfl) rfl (by kernel_rfl) ?_;intro _;conv => whnf
  refine ⟨jaL (by omega), ?_⟩;conv => whnf
  refine ja8 0 [] rfl rfl rfl rfl (fun _ => hopen) (fun ch bx' hp => ?_) ?_
  ·rcases hp with ⟨_, _, hp⟩ | ⟨hp, _⟩
   ·exact jag hP.symm hp
   ·rw [hs] at hp; cases hp
  rintro o r ⟨⟨_, hbad⟩, _⟩;omega
 ·simp only at hP
  refine jam (jat jal xs0 1 (fun ch _ => (pnQ P) ch)) (fun _ _ h => h) Tryz.func198 rfl (by kernel_rfl) rfl (by kernel_rfl) ?_;intro _;conv => whnf
  refine ⟨jaL (by omega), ?_⟩;conv => whnf
  refine ja8 0 [] rfl rfl rfl rfl (fun _ => hopen) (fun ch bx' hp => ?_) ?_
  ·rcases hp with ⟨_, hp, _⟩ | ⟨hp, _⟩
   ·omega
   ·rw [hs] at hp; cases hp
  rintro o r ⟨_, ho, rfl⟩;cases ho;generalize ts.tail = ts1 at *;conv => whnf
  refine ⟨jaL (by omega), ?_⟩;conv => whnf
  refine ja8 0 [] rfl rfl rfl rfl (fun _ => sf ts1 q1) (fun ch bx' hp => ?_) ?_
  ·obtain ⟨x, e, he, hc⟩ := jaN hp
   rw [he] at hP;exact jag hP.symm hc
  rintro o r hpo
  obtain ⟨k, r1, he, ho, rfl⟩ := jau hpo
  cases ho;rw [he] at hP;simp only [Pn.andThen] at hP;subst hP;conv => whnf
  exact ⟨rfl, by rw [jcd]; rfl⟩
theorem jmS {nm : List ByteArray} {lv : Int} {low : Option Pa} (hlo : LowQ nm lv low) : jbl nm 206 lv (jfZ low) := fun ts h => by
 obtain ⟨hlv, hlo⟩ := hlo
 obtain ⟨P, hP⟩ : ∃ P, jfZ low ts = P := ⟨_, rfl⟩
 rw [hP]
 have hopen := jec nm ts h.pos pLp (lv + 1)
 unfold jfZ at hP;refine jam (jat jal xs0 1 (fun ch _ => (pnQ P) ch)) (fun _ _ h => h) Tryz.func206 rfl (by kernel_rfl) rfl (by kernel_rfl) ?_;intro _;conv => whnf
 have hlv2 : lv <= 20 := by rcases hlo with ⟨_, h⟩ | ⟨_, _, h, _⟩ <;> omega
 refine ⟨jaL (by omega), ?_⟩;conv => whnf
 refine ja8 0 [] rfl rfl rfl rfl (fun _ => hopen) (fun ch bx' hp => ?_) ?_
 ·rcases hp with ⟨h1, h2, hp⟩ | ⟨h1, hp⟩
  ·rw [if_pos h1] at hP
   rcases hlo with ⟨rfl, rfl⟩ | ⟨p, rfl, hle, _⟩
   ·exact jag hP.symm hp
   ·omega
  ·rw [if_neg (by rw [h1]; simp)] at hP;exact jag hP.symm hp
 rintro o r ⟨⟨h1, h2⟩, ho, rfl⟩;cases ho;rw [if_pos h1] at hP
 obtain ⟨q1, q2⟩ := h.is h1
 rcases hlo with ⟨rfl, rfl⟩ | ⟨p, rfl, hle, _, _, ge, _, _, _, se, _⟩
 ·omega
 simp only at hP
 generalize ts.tail = ts1 at *;conv => whnf
 refine ⟨jaL (by omega), ?_⟩;conv => whnf
 refine ja8 0 [] rfl rfl rfl rfl (fun _ => se ts1 q1) (fun ch bx' hp => ?_) ?_
 ·obtain ⟨x, e, he, hc⟩ := jaN hp
  rw [he] at hP;exact jag hP.symm hc
 rintro o r hpo
 obtain ⟨k, r1, he, ho, rfl⟩ := jau hpo
 cases ho;rw [he] at hP;simp only [Pn.andThen, xpt] at hP
 obtain ⟨g1, g2⟩ := ge _ _ _ q1 he
 conv => whnf
 refine ja8 0 [] rfl rfl rfl rfl (fun _ => jah nm r1 g1.pos pRp) (fun ch bx' hp => ?_) ?_
 ·rw [if_neg (by rw [hp.1]; simp)] at hP;exact jag hP.symm hp.2
 rintro o r ⟨h3, ho, rfl⟩;cases ho;rw [if_pos h3] at hP;subst hP;conv => whnf
 exact ⟨rfl, rfl⟩
def jzk (f : Nt) : List A := [jao f.k, jao f.n, jaS f.s, .v (.slice none 0 0)]
theorem jbe {f : Nt} (h : f.kids = []) : WkL (jzk f) (ntA f) := by
 unfold jzk ntA;rw [h, jbw];exact .cons (.refl _) (.cons (.refl _) (.cons (.refl _) (.cons (.nil 4) .nil)))
def poW (nm : List ByteArray) (p : Pn) (o : List (List A)) (r : A) : Prop := match p with
 | .ok f ts => o = [bxQ nm ts] /\ ∃ c, r = .agg c /\ WkL c (ntA f)
 | _ => False
theorem jaU : ∀ l : List A, WkL l l
 | [] => .nil
 | a :: l => .cons (.refl a) (jaU l)
theorem jqK {nm : List ByteArray} {p : Pn} {o : List (List A)} {r : A} (h : poQ nm p o r) : poW nm p o r := by
 obtain ⟨f, ts, rfl, rfl, rfl⟩ := jau h
 exact ⟨rfl, _, rfl, jaU _⟩
theorem jsP {nm : List ByteArray} {g : Nat} {ins : List (List A)} {args : List A} {p : Pn} (h : SpecP Tryz.prog g ins args (poW nm p) (pnQ p)) : SpecP Tryz.prog g ins args (poQ nm p) (pnQ p) :=
 h.weaken (fun o r k => by
  unfold poW at k
  split at k
  ·rename_i f ts
   obtain ⟨k1, c, rfl, k2⟩ := k
   exact ⟨o, .agg (ntA f), ⟨k1, rfl⟩, .refl o, .agg k2⟩
  ·exact k.elim) fun ch k => k
set_option maxHeartbeats 1000000 in
theorem jlG {nm : List ByteArray} {lv : Int} {low : Option Pa} (hlo : LowQ nm lv low) : jbl nm 205 lv (jca low) := fun ts h => by
 have hne := jmS hlo
 refine jsP ?_
 obtain ⟨P, hP⟩ : ∃ P, jca low ts = P := ⟨_, rfl⟩
 rw [hP]
 have hl := h.pos
 have hr := jdI hl
 have hw := h.hd
 have hgd := h.good
 have his := fun s => jcO nm ts hl s
 have hnx := jbm nm ts hl
 have hnm := jem nm ts hl hw hgd.1
 have hfl := jcq nm ts hl 10
 have htl := h.tail
 have hps := fun s (hs : isP s ts = true) => h.is hs
 unfold wOk at hw
 have hz := hgd.1
 clear hgd
 have hbi : jx7 ts = (decide ((hd ts).kind = 1) && builtL.any fun s => decide ((hd ts).text = s)) := rfl
 unfold jca at hP;refine jam (jat jal xs0 1 (fun ch _ => (pnQ P) ch)) (fun _ _ h => h) Tryz.func205 rfl (by kernel_rfl) rfl (by kernel_rfl) ?_;intro _
 have hsyn : synE ts = .bad (hd ts).pos 10 := rfl
 have hn0 := hne ts h
 generalize hd ts = t at *;conv => whnf
 (refine goA ?_; try with_reducible exact trivial)
 (generalize hrq : jae _ _ (jer ts) = rq; obtain rfl : rq = tkL t := hrq.symm.trans (hr); clear hrq; conv => whnf)
 refine jaa 0 [] rfl rfl rfl rfl (fun _ => his pLp) ?_;rintro o r ⟨ho, rfl⟩;cases ho;conv => whnf
 cases hq1 : isP pLp ts with
 | true =>
  rw [if_pos hq1] at hP;conv => whnf
  rw [hP] at hn0;refine ja8 0 [] rfl rfl rfl rfl (fun _ => hn0) (fun ch bx' hp => hp) ?_;rintro o r hpo
  obtain ⟨f, r1, rfl, ho, rfl⟩ := jau hpo
  cases ho;conv => whnf
  exact jqK (p := .ok f r1) (show _ /\ _ from ⟨rfl, rfl⟩)
 | false =>
  rw [if_neg (by rw [hq1]; simp)] at hP;conv => whnf
  refine jaa 0 [] rfl rfl rfl rfl (fun _ => his wDraw) ?_;rintro o r ⟨ho, rfl⟩;cases ho;conv => whnf
  cases hq2 : isP wDraw ts with
  | true =>
   rw [if_pos hq2] at hP
   obtain ⟨q1, q2⟩ := hps _ hq2
   generalize ts.tail = ts1 at *;conv => whnf
   refine jaa 0 [] rfl rfl rfl rfl (fun _ => hnx) ?_;rintro o r ⟨ho, rfl⟩;cases ho;conv => whnf
   refine ja8 0 [] rfl rfl rfl rfl (fun _ => hne ts1 q1) (fun ch bx' hp => ?_) ?_
   ·obtain ⟨x, e, he, hc⟩ := jaN hp
    rw [he] at hP;exact jag hP.symm hc
   rintro o r hpo
   obtain ⟨f, r1, he, ho, rfl⟩ := jau hpo
   cases ho;rw [he] at hP;simp only [Pn.andThen] at hP;subst hP;conv => whnf
   exact jqK (p := .ok (.mk 16 0 eB [f]) r1) (show _ /\ _ from ⟨rfl, by rw [jcd]; rfl⟩)
  | false =>
   rw [if_neg (by rw [hq2]; simp)] at hP;conv => whnf
   by_cases hk2 : t.kind = 2
   ·rw [decide_eq_true hk2];rw [if_pos hk2] at hP;conv => whnf
    refine jaa 0 [] rfl rfl rfl rfl (fun _ => hnx) ?_;rintro o r ⟨ho, rfl⟩;cases ho;subst hP;conv => whnf
    exact ⟨rfl, _, rfl, jbe (f := .mk 12 t.n eB []) rfl⟩
   ·rw [decide_eq_false hk2];rw [if_neg hk2] at hP;conv => whnf
    refine jaa 0 [] rfl rfl rfl rfl (fun _ => his jhu) ?_;rintro o r ⟨ho, rfl⟩;cases ho;conv => whnf
    cases hq3 : isP jhu ts with
    | true =>
     rw [if_pos hq3] at hP;conv => whnf
     refine jaa 0 [] rfl rfl rfl rfl (fun _ => hnx) ?_;rintro o r ⟨ho, rfl⟩;cases ho;subst hP;conv => whnf
     exact ⟨rfl, _, rfl, jbe (f := .mk 13 1 eB []) rfl⟩
    | false =>
     rw [if_neg (by rw [hq3]; simp)] at hP;conv => whnf
     refine jaa 0 [] rfl rfl rfl rfl (fun _ => his jdT) ?_;rintro o r ⟨ho, rfl⟩;cases ho;conv => whnf
     cases hq4 : isP jdT ts with
     | true =>
      rw [if_pos hq4] at hP;conv => whnf
      refine jaa 0 [] rfl rfl rfl rfl (fun _ => hnx) ?_;rintro o r ⟨ho, rfl⟩;cases ho;subst hP;conv => whnf
      exact ⟨rfl, _, rfl, jbe (f := .mk 13 0 eB []) rfl⟩
     | false =>
      rw [if_neg (by rw [hq4]; simp)] at hP;conv => whnf
      refine jaa 0 [] rfl rfl rfl rfl (fun _ => hnm) ?_;rintro o r ⟨ho, rfl⟩;cases ho;conv => whnf
      cases hq5 : jeL ts with
      | true =>
       rw [if_pos hq5] at hP;conv => whnf
       refine jaa 0 [] rfl rfl rfl rfl (fun _ => hnx) ?_;rintro o r ⟨ho, rfl⟩;cases ho;subst hP;conv => whnf
       exact ⟨rfl, _, rfl, jbe (f := .mk 14 0 t.text []) rfl⟩
      | false =>
       rw [if_neg (by rw [hq5]; simp)] at hP;conv => whnf
       by_cases hk1 : t.kind = 1
       ·obtain ⟨w1, w2⟩ := hw hk1
        have hc : ∀ K : ByteArray, K.size <= 1000000000 -> K.data.toList = spW (builtL.map (·.data.toList)) -> Spec Tryz.prog 127 [] [jaS K, jaS ((⟨#[32]⟩ : ByteArray) ++ t.text ++ ⟨#[32]⟩)] fun _ r => r = jbI (builtL.any fun s => decide (t.text = s)) := fun K hK hK2 => by
         have := jiC K ((⟨#[32]⟩ : ByteArray) ++ t.text ++ ⟨#[32]⟩) hK
         rw [jiZ, hK2, jgf _ w2 _ jxP, <- jjo] at this;exact this
        have hs1 : (⟨#[32]⟩ : ByteArray).size = 1 := rfl
        rw [decide_eq_true hk1, Bool.true_and] at hbi;rw [decide_eq_true hk1];conv => whnf
        refine ⟨by rw [hs1]; unfold maxLen; omega, ?_⟩;conv => whnf
        refine ⟨by rw [ByteArray.size_append, hs1]; unfold maxLen; omega, ?_⟩;conv => whnf
        (refine ja9 [] rfl (fun _ => hc _ (by decide +kernel) (by decide +kernel)) ?_; rintro r rfl; conv => whnf)
        rw [hbi] at hP
        cases hq6 : builtL.any fun s => decide (t.text = s) with
        | true =>
         rw [hq6, if_pos rfl] at hP;conv => whnf
         refine jaa 0 [] rfl rfl rfl rfl (fun _ => hnx) ?_;rintro o r ⟨ho, rfl⟩;cases ho;subst hP;conv => whnf
         exact ⟨rfl, _, rfl, jbe (f := .mk 15 0 t.text []) rfl⟩
        | false =>
         rw [hq6, if_neg (by simp), hsyn] at hP;conv => whnf
         refine ja8 0 [] rfl rfl rfl rfl (fun _ => hfl) (fun ch bx' hp => jag hP.symm hp) ?_;rintro o r ⟨⟩
       ·rw [decide_eq_false hk1, Bool.false_and] at hbi;rw [hbi, if_neg (by simp), hsyn] at hP;rw [decide_eq_false hk1];conv => whnf
        refine ja8 0 [] rfl rfl rfl rfl (fun _ => hfl) (fun ch bx' hp => jag hP.symm hp) ?_;rintro o r ⟨⟩
def jkm (low : Option Pa) : Prop := ∀ p, low = some p -> jaX p.no /\ jaX p.un /\ jaX p.ex /\ jaX p.bl
theorem jap {p : Pn} {k : Nt -> List Tk -> Pn} {f : Nt} {r : List Tk} (h : p.andThen k = .ok f r) : ∃ g s, p = .ok g s /\ k g s = .ok f r := by
 cases p with
 | ok g s => exact ⟨g, s, rfl, h⟩
 | bad x e => cases h
theorem jcv {s : ByteArray} {ts : List Tk} {k : List Tk -> Pn} {f : Nt} {r : List Tk} (h : xpt s ts k = .ok f r) : isP s ts = true /\ k ts.tail = .ok f r := by
 unfold xpt at h
 split at h
 ·rename_i hs; exact ⟨hs, h⟩
 ·cases h
theorem jl8 {low : Option Pa} (hl : jkm low) : jaX (jfZ low) := fun ts f r h e => by
 unfold jfZ at e
 split at e
 ·rename_i hs
  obtain ⟨q1, q2⟩ := h.is hs
  cases low with
  | none => cases e
  | some p =>
   simp only at e
   obtain ⟨n, s, e1, e2⟩ := jap e
   obtain ⟨g1, g2⟩ := (hl p rfl).2.2.1 _ _ _ q1 e1
   obtain ⟨e3, e4⟩ := jcv e2
   obtain ⟨g3, g4⟩ := g1.is e3
   cases e4
   exact ⟨g3, by omega⟩
 ·cases e
theorem jnj {s : ByteArray} {op : Option (List Tk -> Pn)} (hg : ∀ f, op = some f -> jaX f) (ts : List Tk) (f : Nt) (r : List Tk) (h : TkP ts) (hs : isP s ts = true) (e : jpJ s op ts = .ok f r) : TkP r /\ r.length <= ts.length := by
 obtain ⟨q1, q2⟩ := h.is hs
 cases op with
 | none => cases e
 | some o =>
  unfold jpJ at e
  simp only at e
  obtain ⟨n, s, e1, e2⟩ := jap e
  obtain ⟨g1, g2⟩ := hg o rfl _ _ _ q1 e1
  cases e2
  exact ⟨g1, by omega⟩
theorem jr5 {low : Option Pa} (hl : jkm low) : jaX (jca low) := fun ts f r h e => by
 unfold jca at e
 split at e
 ·exact jl8 hl ts f r h e
 split at e
 ·rename_i hs
  obtain ⟨q1, q2⟩ := h.is hs
  obtain ⟨n, s, e1, e2⟩ := jap e
  obtain ⟨g1, g2⟩ := jl8 hl _ _ _ q1 e1
  cases e2
  exact ⟨g1, by omega⟩
 split at e
 ·rename_i hk
  obtain ⟨q1, q2⟩ := h.tail (by rw [hk]; decide)
  cases e
  exact ⟨q1, by omega⟩
 split at e
 ·rename_i hs
  obtain ⟨q1, q2⟩ := h.is hs
  cases e
  exact ⟨q1, by omega⟩
 split at e
 ·rename_i hs
  obtain ⟨q1, q2⟩ := h.is hs
  cases e
  exact ⟨q1, by omega⟩
 split at e
 ·rename_i hs
  unfold jeL at hs;simp only [Bool.and_eq_true, decide_eq_true_eq] at hs
  obtain ⟨q1, q2⟩ := h.tail (by rw [hs.1]; decide)
  cases e
  exact ⟨q1, by omega⟩
 split at e
 ·rename_i hs
  unfold jx7 at hs;simp only [Bool.and_eq_true, decide_eq_true_eq] at hs
  obtain ⟨q1, q2⟩ := h.tail (by rw [hs.1]; decide)
  cases e
  exact ⟨q1, by omega⟩
 ·cases e
theorem jel {low : Option Pa} (hl : jkm low) : jaX (jfK low) := fun ts f r h e => by
 unfold jfK at e
 split at e
 ·rename_i hs
  refine jnj (fun o ho => ?_) ts f r h hs e;rw [Option.map_eq_some_iff] at ho
  obtain ⟨p, hp, rfl⟩ := ho
  exact (hl p hp).2.1
 ·exact jr5 hl ts f r h e
theorem jix {op : List Tk -> Pn} (hg : jaX op) (signs : List ByteArray) : ∀ (n : Nat) (l : Nt) (ts : List Tk) (f : Nt) (r : List Tk), TkP ts -> jcb op signs n l ts = .ok f r -> TkP r /\ r.length <= ts.length
 | 0, l, ts, f, r, h, e => by cases e; exact ⟨h, Nat.le_refl _⟩
 | n + 1, l, ts, f, r, h, e => by
  rw [jcb] at e
  split at e
  ·rename_i hs
   obtain ⟨s, hs⟩ := jg8 hs
   obtain ⟨q1, q2⟩ := h.is hs
   obtain ⟨g, s, e1, e2⟩ := jap e
   obtain ⟨g1, g2⟩ := hg _ _ _ q1 e1
   obtain ⟨g3, g4⟩ := jix hg signs n _ _ _ _ g1 e2
   exact ⟨g3, by omega⟩
  ·cases e; exact ⟨h, Nat.le_refl _⟩
theorem jcK {op : List Tk -> Pn} (hg : jaX op) (signs : List ByteArray) : jaX (jcG op signs) := fun ts f r h e => by
 unfold jcG at e
 obtain ⟨g, s, e1, e2⟩ := jap e
 obtain ⟨g1, g2⟩ := hg _ _ _ h e1
 obtain ⟨g3, g4⟩ := jix hg signs _ _ _ _ _ g1 e2
 exact ⟨g3, by omega⟩
theorem jgB {low : Option Pa} (hl : jkm low) : jaX (jp3 low) := jcK (jcK (jel hl) _) _
theorem jen {low : Option Pa} (hl : jkm low) : jaX (ntG low) := fun ts f r h e => by
 unfold ntG at e
 split at e
 ·rename_i hs
  refine jnj (fun o ho => ?_) ts f r h hs e;rw [Option.map_eq_some_iff] at ho
  obtain ⟨p, hp, rfl⟩ := ho
  exact (hl p hp).1
 ·obtain ⟨g, s, e1, e2⟩ := jap e
  obtain ⟨g1, g2⟩ := jgB hl _ _ _ h e1
  split at e2
  ·rename_i hs
   obtain ⟨_, hs⟩ := jg8 hs
   obtain ⟨q1, q2⟩ := g1.is hs
   obtain ⟨g', s', e3, e4⟩ := jap e2
   obtain ⟨g3, g4⟩ := jgB hl _ _ _ q1 e3
   cases e4
   exact ⟨g3, by omega⟩
  ·cases e2
   exact ⟨g1, g2⟩
theorem jdz {low : Option Pa} (hl : jkm low) : jaX (jnU low) := jcK (jcK (jen hl) _) _
theorem LowQ.goes {nm : List ByteArray} {lv : Int} {low : Option Pa} (h : LowQ nm lv low) : jkm low := fun p hp => by
 obtain ⟨h0, ⟨rfl, h1⟩ | ⟨q, rfl, h1, a, b, c, d, e, f, g, i⟩⟩ := h
 ·cases hp
 ·cases hp; exact ⟨a, b, c, d⟩
theorem jj7 {nm : List ByteArray} {lv : Int} {low : Option Pa} (hlo : LowQ nm lv low) : jbl nm 204 lv (jfK low) := fun ts h => by
 have hpr := jlG hlo ts h
 obtain ⟨P, hP⟩ : ∃ P, jfK low ts = P := ⟨_, rfl⟩
 rw [hP]
 have his := jcO nm ts h.pos pMinus
 have hpre := fun hs => jfb nm pMinus lv _ _ hlo.un ts h hs
 unfold jfK at hP;refine jam (jat jal xs0 1 (fun ch _ => (pnQ P) ch)) (fun _ _ h => h) Tryz.func204 rfl (by kernel_rfl) rfl (by kernel_rfl) ?_;intro _;conv => whnf
 refine jaa 0 [] rfl rfl rfl rfl (fun _ => his) ?_;rintro o r ⟨ho, rfl⟩;cases ho;conv => whnf
 cases hq : isP pMinus ts with
 | true =>
  have hpre := hpre hq
  rw [if_pos hq] at hP;rw [hP] at hpre;conv => whnf
  refine ja8 0 [] rfl rfl rfl rfl (fun _ => hpre) (fun ch bx' hp => hp) ?_;rintro o r hpo
  obtain ⟨f, r1, rfl, ho, rfl⟩ := jau hpo
  cases ho;conv => whnf
  exact ⟨rfl, rfl⟩
 | false =>
  rw [if_neg (by rw [hq]; simp)] at hP;rw [hP] at hpr;conv => whnf
  refine ja8 0 [] rfl rfl rfl rfl (fun _ => hpr) (fun ch bx' hp => hp) ?_;rintro o r hpo
  obtain ⟨f, r1, rfl, ho, rfl⟩ := jau hpo
  cases ho;conv => whnf
  exact ⟨rfl, rfl⟩
theorem jm7 {nm : List ByteArray} {lv : Int} {low : Option Pa} (hlo : LowQ nm lv low) : jbl nm 203 lv (jcG (jfK low) [jbG, jaM]) := by
 have hop := jj7 hlo
 have hgo := jel hlo.goes
 intro ts h
 obtain ⟨P, hP⟩ : ∃ P, jcG (jfK low) [jbG, jaM] ts = P := ⟨_, rfl⟩
 have hch := jeh nm (jfK low) [jbG, jaM] lv 204 (by decide) hgo hop ts h
 show SpecP _ _ _ _ (poQ nm (jcG (jfK low) [jbG, jaM] ts)) (pnQ (jcG (jfK low) [jbG, jaM] ts))
 rw [hP] at hch ⊢;refine jam (jat jal xs0 1 (fun ch _ => (pnQ P) ch)) (fun _ _ h => h) Tryz.func203 rfl (by kernel_rfl) rfl (by kernel_rfl) ?_;intro _;conv => whnf
 refine ja8 0 [0] rfl rfl rfl rfl (fun _ => hch) (fun ch bx' hp => hp) ?_;rintro o r hpo
 obtain ⟨f, r1, rfl, ho, rfl⟩ := jau hpo
 cases ho;conv => whnf
 exact ⟨rfl, rfl⟩
theorem jtz {nm : List ByteArray} {lv : Int} {low : Option Pa} (hlo : LowQ nm lv low) : jbl nm 199 lv (jp3 low) := by
 have hop := jm7 hlo
 have hgo := jcK (jel hlo.goes) [jbG, jaM]
 show jbl _ _ _ (jcG (jcG (jfK low) [jbG, jaM]) [jcH, pMinus])
 intro ts h
 obtain ⟨P, hP⟩ : ∃ P, jcG (jcG (jfK low) [jbG, jaM]) [jcH, pMinus] ts = P := ⟨_, rfl⟩
 have hch := jeh nm (jcG (jfK low) [jbG, jaM]) [jcH, pMinus] lv 203 (by decide) hgo hop ts h
 show SpecP _ _ _ _ (poQ nm (jcG (jcG (jfK low) [jbG, jaM]) [jcH, pMinus] ts)) (pnQ (jcG (jcG (jfK low) [jbG, jaM]) [jcH, pMinus] ts))
 rw [hP] at hch ⊢;refine jam (jat jal xs0 1 (fun ch _ => (pnQ P) ch)) (fun _ _ h => h) Tryz.func199 rfl (by kernel_rfl) rfl (by kernel_rfl) ?_;intro _;conv => whnf
 refine ja8 0 [0] rfl rfl rfl rfl (fun _ => hch) (fun ch bx' hp => hp) ?_;rintro o r hpo
 obtain ⟨f, r1, rfl, ho, rfl⟩ := jau hpo
 cases ho;conv => whnf
 exact ⟨rfl, rfl⟩
set_option maxHeartbeats 1000000 in
theorem joR {nm : List ByteArray} {lv : Int} {low : Option Pa} (hlo : LowQ nm lv low) : jbl nm 184 lv (ntG low) := fun ts h => by
 have hsm := jtz hlo
 have hgs := jgB hlo.goes
 obtain ⟨P, hP⟩ : ∃ P, ntG low ts = P := ⟨_, rfl⟩
 rw [hP]
 have his := jcO nm ts h.pos pNot
 have hpre := fun hs => jfb nm pNot lv _ _ hlo.no ts h hs
 unfold ntG at hP;generalize jp3 low = op at *;refine jam (jat jyb (fun _ => [0]) 1 (fun ch _ => (pnQ P) ch)) (fun _ _ h => h) Tryz.func184 rfl (by kernel_rfl) rfl (by kernel_rfl) ?_;intro _;conv => whnf
 refine jaa 0 [] rfl rfl rfl rfl (fun _ => his) ?_;rintro o r ⟨ho, rfl⟩;cases ho;conv => whnf
 cases hq : isP pNot ts with
 | true =>
  have hpre := hpre hq
  rw [if_pos hq] at hP;rw [hP] at hpre;conv => whnf
  refine ja8 0 [] rfl rfl rfl rfl (fun _ => hpre) (fun ch bx' hp => hp) ?_;rintro o r hpo
  obtain ⟨f, r1, rfl, ho, rfl⟩ := jau hpo
  cases ho;conv => whnf
  exact ⟨rfl, rfl⟩
 | false =>
  rw [if_neg (by rw [hq]; simp)] at hP;conv => whnf
  refine ja8 0 [] rfl rfl rfl rfl (fun _ => hsm ts h) (fun ch bx' hp => ?_) ?_
  ·obtain ⟨x, e, he, hc⟩ := jaN hp
   rw [he] at hP;exact jag hP.symm hc
  rintro o r hpo
  obtain ⟨f, r1, he, ho, rfl⟩ := jau hpo
  cases ho;rw [he] at hP;simp only [Pn.andThen] at hP
  obtain ⟨g1, g2⟩ := hgs _ _ _ h he
  have hct := jiM nm r1 g1.pos cmpL (by decide)
  conv => whnf
  refine jaa 0 [0] rfl rfl rfl rfl (fun _ => hct) ?_;rintro o r ⟨ho, rfl⟩;cases ho;conv => whnf
  cases hc : jfI cmpL r1 with
  | true =>
   rw [if_pos hc] at hP
   obtain ⟨_, hs⟩ := jg8 hc
   obtain ⟨q1, q2⟩ := g1.is hs
   have hnx := jbm nm r1 g1.pos
   generalize r1.tail = r2 at *;generalize hd r1 = t at *;conv => whnf
   refine jaa 0 [] rfl rfl rfl rfl (fun _ => hnx) ?_;rintro o r ⟨ho, rfl⟩;cases ho;conv => whnf
   refine ja8 0 [] rfl rfl rfl rfl (fun _ => hsm r2 q1) (fun ch bx' hp => ?_) ?_
   ·obtain ⟨x, e, he, hc⟩ := jaN hp
    rw [he] at hP;exact jag hP.symm hc
   rintro o r hpo
   obtain ⟨f2, r3, he2, ho, rfl⟩ := jau hpo
   cases ho;rw [he2] at hP;simp only [Pn.andThen] at hP;subst hP;conv => whnf
   exact ⟨rfl, by rw [jd2]; rfl⟩
  | false =>
   rw [if_neg (by rw [hc]; simp)] at hP;subst hP;conv => whnf
   exact ⟨rfl, rfl⟩
theorem jtj {nm : List ByteArray} {lv : Int} {low : Option Pa} (hlo : LowQ nm lv low) : jbl nm 153 lv (jcG (ntG low) [jep]) := by
 have hop := joR hlo
 have hgo := jen hlo.goes
 intro ts h
 obtain ⟨P, hP⟩ : ∃ P, jcG (ntG low) [jep] ts = P := ⟨_, rfl⟩
 have hch := jeh nm (ntG low) [jep] lv 184 (by decide) hgo hop ts h
 show SpecP _ _ _ _ (poQ nm (jcG (ntG low) [jep] ts)) (pnQ (jcG (ntG low) [jep] ts))
 rw [hP] at hch ⊢;refine jam (jat jal xs0 1 (fun ch _ => (pnQ P) ch)) (fun _ _ h => h) Tryz.func153 rfl (by kernel_rfl) rfl (by kernel_rfl) ?_;intro _;conv => whnf
 refine ja8 0 [0] rfl rfl rfl rfl (fun _ => hch) (fun ch bx' hp => hp) ?_;rintro o r hpo
 obtain ⟨f, r1, rfl, ho, rfl⟩ := jau hpo
 cases ho;conv => whnf
 exact ⟨rfl, rfl⟩
theorem jly {nm : List ByteArray} {lv : Int} {low : Option Pa} (hlo : LowQ nm lv low) : jbl nm 128 lv (jnU low) := by
 have hop := jtj hlo
 have hgo := jcK (jen hlo.goes) [jep]
 show jbl _ _ _ (jcG (jcG (ntG low) [jep]) [pOr])
 intro ts h
 obtain ⟨P, hP⟩ : ∃ P, jcG (jcG (ntG low) [jep]) [pOr] ts = P := ⟨_, rfl⟩
 have hch := jeh nm (jcG (ntG low) [jep]) [pOr] lv 153 (by decide) hgo hop ts h
 show SpecP _ _ _ _ (poQ nm (jcG (jcG (ntG low) [jep]) [pOr] ts)) (pnQ (jcG (jcG (ntG low) [jep]) [pOr] ts))
 rw [hP] at hch ⊢;refine jam (jat jal xs0 1 (fun ch _ => (pnQ P) ch)) (fun _ _ h => h) Tryz.func128 rfl (by kernel_rfl) rfl (by kernel_rfl) ?_;intro _;conv => whnf
 refine ja8 0 [0] rfl rfl rfl rfl (fun _ => hch) (fun ch bx' hp => hp) ?_;rintro o r hpo
 obtain ⟨f, r1, rfl, ho, rfl⟩ := jau hpo
 cases ho;conv => whnf
 exact ⟨rfl, rfl⟩
end Go.Proofs.YtmodkpibkkpcdaaGreatDoor.Vm
namespace Go.Proofs.YtmodkpibkkpcdaaGreatDoor.Vm
open Go.RowKit
set_option linter.unusedSimpArgs false
set_option linter.unusedVariables false
section
section
variable {w0 : W0} {C0 : Rd} {β0 : List Nat} {bx : List (List A)} {rw : List Row} {w : World} {E : Env}
theorem Hp.learn (h : Hp w0 C0 β0 bx rw w E) {b : Nat} (hf : w0.fr b) (hβ : b ∉ E.β) (hr : ∀ (g e k n : Nat) (cs : List A) (y : Value), rw[g]? = some (.live e k n cs) -> E.ρ[g]? = some y -> blk y ≠ some b) :
  ∃ C', Hp w0 C0 β0 bx rw w ⟨C', E.β, E.ρ⟩ /\ E.le ⟨C', E.β, E.ρ⟩ /\ ∀ ad, ad.block = b -> C' ad = see w ad := by
 refine ⟨fun ad => if ad.block = b then see w ad else E.C ad, ?_⟩
 have hC : Sub E.C (fun ad => if ad.block = b then see w ad else E.C ad) := fun ad u hc => by
  simp only
  split
  ·exact h.sub ad u hc
  ·exact hc
 have le : E.le ⟨fun ad => if ad.block = b then see w ad else E.C ad, E.β, E.ρ⟩ := ⟨hC, fun _ _ h => h, fun _ _ h => h⟩
 refine ⟨⟨fun ad u hc => ?_, h.base.trans hC, fun ad u hc => ?_, h.bp, h.bnd, fun b' hb' o sp => ?_, h.bl, fun i b cs' h1 h2 => (h.bxs i b cs' h1 h2).mono le, h.rl, fun j r' z h1 h2 => (h.rws j r' z h1 h2).mono le (fun _ _ _ _ _ _ _ => rfl), fun j e' k' n' cs' z b' h1 h2 h3 => ?_, h.rd, h.rs, h.keep, h.gk⟩, le, fun ad e => if_pos e⟩
 ·simp only at hc
  split at hc
  ·exact hc
  ·exact h.sub ad u hc
 ·simp only at hc
  split at hc
  ·rename_i hb2
   right
   rw [hb2]; exact hf
  ·exact h.fresh ad u hc
 ·simp only
  rw [if_neg (fun hb2 : b' = b => hβ (by rw [<- hb2]; exact hb'))];exact h.bC b' hb' o sp
 ·obtain ⟨q1, q2⟩ := h.rC j e' k' n' cs' z b' h1 h2 h3
  refine ⟨q1, fun o sp => ?_⟩
  simp only
  rw [if_neg (fun hb2 : b' = b => hr j e' k' n' cs' z h1 h2 (by rw [<- hb2]; exact h3))];exact q2 o sp
end
def jrb (n nr : Nat) (x : Value) (a : A) : A := match a with
 | .box i o => match Nat.beq i n with
  | true => match o with
   | 0 => .pp [.v x]
   | _ + 1 => .dead
  | false => match je7 n nr a with
   | true => a
   | false => .dead
 | a => match je7 n nr a with
  | true => a
  | false => .dead
theorem jrd {E : Env} {C' : Rd} {n nr b : Nat} {x : Value} {a : A} {y : Value} (hb : E.β[n]? = some b) (hC : Sub E.C C') (hx : C' ⟨b, 0, none⟩ = some x) (h1 : x.oneCell' = true) (hv : okV x) (h : a.rep E y) : (jrb n nr x a).rep ⟨C', E.β.take n, E.ρ.take nr⟩ y := by
 have le : (⟨E.C, E.β.take n, E.ρ.take nr⟩ : Env).le ⟨C', E.β.take n, E.ρ.take nr⟩ := ⟨hC, fun _ _ h => h, fun _ _ h => h⟩
 have gen : ∀ a : A, a.rep E y -> (match je7 n nr a with | true => a | false => .dead : A).rep ⟨C', E.β.take n, E.ρ.take nr⟩ y := fun a h => by
  split
  ·rename_i hr
   exact A.rep.mono a le (jf0 a hr h)
  ·exact A.rep_dead _ _
 cases a with
 | box i o =>
  unfold jrb
  simp only
  split
  ·rename_i hi
   have hi := Nat.eq_of_beq_eq_true hi
   subst hi;unfold A.rep at h
   obtain ⟨b', h2, rfl⟩ := h
   rw [hb] at h2
   cases h2
   cases o with
   | zero =>
    simp only
    unfold A.rep;refine ⟨b, 0, rfl, ?_⟩;unfold A.repAt;exact ⟨⟨x, hx, h1, A.rep_v hv⟩, by unfold A.repAt; trivial⟩
   | succ o => exact A.rep_dead _ _
  ·exact gen _ h
 | _ => exact gen _ h
theorem jkR {E : Env} {C' : Rd} {n nr b : Nat} {x : Value} (hb : E.β[n]? = some b) (hC : Sub E.C C') (hx : C' ⟨b, 0, none⟩ = some x) (h1 : x.oneCell' = true) (hv : okV x) : ∀ {l : List A} {us : List Value}, A.repL l E us -> A.repL (l.map (jrb n nr x)) ⟨C', E.β.take n, E.ρ.take nr⟩ us
 | [], us, h => by unfold A.repL at h ⊢; exact h
 | a :: r, us, h => by
  unfold A.repL at h
  obtain ⟨u, us', rfl, h2, h3⟩ := h
  rw [List.map_cons];unfold A.repL;exact ⟨u, us', rfl, jrd hb hC hx h1 hv h2, jkR hb hC hx h1 hv h3⟩
theorem joh : ∀ l : List A, LeL l l
 | [] => trivial
 | a :: l => ⟨.inr rfl, joh l⟩
theorem jrT : ∀ (l m : List (List A)), LeB (l ++ m) l
 | [], [] => trivial
 | [], _ :: _ => trivial
 | a :: l, m => ⟨joh a, jrT l m⟩
theorem jnw : ∀ l : List Row, LeR l l
 | [] => trivial
 | a :: l => ⟨.inr rfl, jnw l⟩
theorem jwD {np : Nat} {t : List A} {bx : List (List A)} {rw : List Row} {x : Value} (hn : Nat.ble np bx.length = true) (hrf : jlF bx.length rw.length bx = true) : Le np ⟨t, bx ++ [[.v x]], rw⟩ ⟨t.map (jrb bx.length rw.length x), bx, rw⟩ := by
 rintro dr w0 C0 β0 a w hdr e ⟨E, hp, hrep, hd⟩
 have hn' := Nat.le_of_ble_eq_true hn
 rw [<- e] at hn'
 have hpw := hp.weaken (bx' := bx) (rw' := rw) hn' (jrT _ _) (jnw _) hrf
 have hbl := hp.bl
 simp only [List.length_append, List.length_cons, List.length_nil] at hbl
 have hlt : bx.length < E.β.length := by omega
 obtain ⟨b, hb⟩ : ∃ b, E.β[bx.length]? = some b := ⟨_, List.getElem?_eq_getElem hlt⟩
 obtain ⟨T, arr, h1, h2⟩ := hp.bxs bx.length b [.v x] hb (by simp)
 have h2 := h2.plain (fun t r e => by cases e)
 unfold A.repC at h2
 obtain ⟨u, us', h3, h4, h5, -⟩ := h2
 obtain ⟨rfl, h6⟩ := A.rep_v_iff.1 h5
 have hsee : see w ⟨b, 0, none⟩ = some u := by
  refine jkk ?_
  have h0 : arr[0]? = some u := by
   have := congrArg (·[0]?) h3
   simpa using this
  simp [World.cell?, h1, h0]
 have hbm : b ∈ E.β := List.mem_of_getElem? hb
 have hfr : w0.fr b := by
  obtain ⟨β', hβ, hβ'⟩ := hp.bp
  refine .inl (hβ' b ?_);rw [hβ, List.getElem?_append_right hn'] at hb;exact List.mem_of_getElem? hb
 have hnt : b ∉ E.β.take bx.length := fun hm => by
  obtain ⟨i, hi, he⟩ := List.mem_iff_getElem.1 hm
  rw [List.length_take] at hi;rw [List.getElem_take] at he
  have h7 : E.β[i]? = some b := by rw [List.getElem?_eq_getElem (by omega), he]
  have := (List.getElem?_inj (by omega) hp.bnd).1 (h7.trans hb.symm)
  omega
 obtain ⟨C', hp2, le, hC'⟩ := hpw.learn hfr hnt (fun g e k n cs y hg hy hk => by
  have hy' : E.ρ[g]? = some y := by
   rw [List.getElem?_take] at hy
   split at hy
   ·exact hy
   ·cases hy
  exact (hp.rC g e k n cs y b hg hy' hk).1 hbm)
 refine ⟨⟨C', E.β.take bx.length, E.ρ.take rw.length⟩, hp2, ?_, ?_⟩
 ·exact jkR hb le.C (show C' ⟨b, 0, none⟩ = some u by rw [hC' _ rfl]; exact hsee) h4 h6 hrep
 ·exact (jff (by rw [e] at hn'; exact hn') hdr hd).mono le
theorem jq1 {c : Cx} {x : Code} {t : List A} {bx : List (List A)} {rw : List Row} {v : Value} {q : Exit -> S -> Prop} (hn : Nat.ble c.np bx.length = true) (hrf : jlF bx.length rw.length bx = true) (h : jgF (jrb bx.length rw.length v) t fun t' => Ok c x ⟨t', bx, rw⟩ q) : Ok c x ⟨t, bx ++ [[.v v]], rw⟩ q := by
 rw [jax] at h;exact jwx (jwD hn hrf) h
end
end Go.Proofs.YtmodkpibkkpcdaaGreatDoor.Vm
namespace Go.Proofs.YtmodkpibkkpcdaaGreatDoor.Vm
open Go.RowKit Go.Shelf
set_option linter.unusedSimpArgs false
set_option linter.unusedVariables false
set_option maxRecDepth 100000
theorem jnV (k : Int) : Spec Tryz.prog 154 [] [jao k] fun _ r => r = .clo 155 [.pp [jao k]] := by
 refine jdd (ja2 jal xs0 0) (fun _ _ h => h) Tryz.func154 rfl (by kernel_rfl) rfl ?_;intro _;refine jbU (ja2 _ _ _) (by kernel_rfl) ?_;conv => whnf
 refine jq1 (bx := []) (v := .int .i64 k) rfl rfl ?_;conv => whnf
 refine jb6 (ja2 _ _ _) (by kernel_rfl) ?_;conv => whnf
 rfl
theorem joe (k : Int) : Spec Tryz.prog 156 [] [jao k] fun _ r => r = .clo 157 [.pp [jao k]] := by
 refine jdd (ja2 jal xs0 0) (fun _ _ h => h) Tryz.func156 rfl (by kernel_rfl) rfl ?_;intro _;refine jbU (ja2 _ _ _) (by kernel_rfl) ?_;conv => whnf
 refine jq1 (bx := []) (v := .int .i64 k) rfl rfl ?_;conv => whnf
 refine jb6 (ja2 _ _ _) (by kernel_rfl) ?_;conv => whnf
 rfl
def stmL : List (ByteArray × A) := [(wIf, .clo 158 []), (wWhile, .clo 159 []), (wSend, .clo 160 []), (wTimer, .clo 157 [.pp [jao 5]]), (wCancel, .clo 157 [.pp [jao 6]]), (wSync, .clo 155 [.pp [jao 7]]), (wStop, .clo 155 [.pp [jao 10]]), (wReply, .clo 161 []), (wFail, .clo 162 [])]
def stmA : A := .mp (stmL.map fun p => .string p.1) (stmL.map (·.2))
theorem je0 : Spec Tryz.prog 129 [] [] fun _ r => r = stmA := by
 refine jdd (ja2 jal xs0 0) (fun _ _ h => h) Tryz.func129 rfl (by kernel_rfl) rfl ?_;intro _;refine jbU (ja2 _ _ _) (by kernel_rfl) ?_;conv => whnf
 refine jbU (ja2 _ _ _) (by kernel_rfl) ?_;conv => whnf
 refine jbU (ja2 _ _ _) (by kernel_rfl) ?_;conv => whnf
 refine jbU (ja2 _ _ _) (by kernel_rfl) ?_;conv => whnf
 have h5 := joe 5
 have h6 := joe 6
 have h7 := jnV 7
 have h10 := jnV 10
 (refine ja9 [] rfl (fun _ => h5) ?_; rintro r rfl; conv => whnf)
 conv => whnf
 (refine ja9 [] rfl (fun _ => h6) ?_; rintro r rfl; conv => whnf)
 conv => whnf
 (refine ja9 [] rfl (fun _ => h7) ?_; rintro r rfl; conv => whnf)
 conv => whnf
 (refine ja9 [] rfl (fun _ => h10) ?_; rintro r rfl; conv => whnf)
 conv => whnf
 refine jqi 0 ?_;conv => whnf
 refine jb6 (ja2 _ _ _) (by kernel_rfl) ?_;conv => whnf
 rfl
def jmo (nm : List ByteArray) (lv : Int) (g : Nat) (caps : List A) (op : List Tk -> Pn) : Prop := ∀ ts, TkP ts -> SpecP Tryz.prog g [bxQ nm ts] ([.box 0 0, jao lv] ++ caps) (poQ nm (op ts)) (pnQ (op ts))
theorem jlE (nm : List ByteArray) (lv k : Int) : jmo nm lv 155 [.pp [jao k]] fun ts => xpt pSemi ts fun r => .ok (.mk k 0 eB []) r := fun ts h => by
 refine jsP ?_
 obtain ⟨P, hP⟩ : ∃ P, (xpt pSemi ts fun r => .ok (.mk k 0 eB []) r) = P := ⟨_, rfl⟩
 simp only
 rw [hP];unfold xpt at hP;refine jam (jat jal xs0 1 (fun ch _ => (pnQ P) ch)) (fun _ _ h => h) Tryz.func155 rfl (by kernel_rfl) rfl (by kernel_rfl) ?_;intro _;conv => whnf
 refine ja8 0 [] rfl rfl rfl rfl (fun _ => jah nm ts h.pos pSemi) (fun ch bx' hp => ?_) ?_
 ·rw [if_neg (by rw [hp.1]; simp)] at hP;exact jag hP.symm hp.2
 rintro o r ⟨hx, ho, rfl⟩;cases ho;rw [if_pos hx] at hP;subst hP;conv => whnf
 exact ⟨rfl, _, rfl, jbe (f := .mk k 0 eB []) rfl⟩
theorem jku (nm : List ByteArray) (lv k : Int) : jmo nm lv 157 [.pp [jao k]] fun ts => jgL 8 ts fun n r => xpt pSemi r fun r => .ok (.mk k n eB []) r := fun ts h => by
 refine jsP ?_
 obtain ⟨P, hP⟩ : ∃ P, (jgL 8 ts fun n r => xpt pSemi r fun r => .ok (.mk k n eB []) r) = P := ⟨_, rfl⟩
 simp only
 rw [hP]
 have hnum := jf3 nm ts h.pos 8
 unfold jgL at hP
 have htl := h.tail
 refine jam (jat jyy (fun _ => [0]) 1 (fun ch _ => (pnQ P) ch)) (fun _ _ h => h) Tryz.func157 rfl (by kernel_rfl) rfl (by kernel_rfl) ?_;intro _;conv => whnf
 unfold jih;refine ⟨_, ?_, fun _ h => h⟩;conv => whnf
 refine ⟨?_, ?_⟩
 ·conv => whnf
  refine ja8 0 [] rfl rfl rfl rfl (fun _ => hnum) (fun ch bx' hp => ?_) ?_
  ·rcases hp with ⟨h1, h2⟩ | ⟨h1, h2, h3⟩
   ·rw [if_pos h1] at hP;exact jag hP.symm h2
   ·rw [if_neg (by rw [h1]; simp), if_pos h2] at hP;exact jag hP.symm h3
  rintro o r ⟨⟨h1, h2⟩, ho, rfl⟩;cases ho;rw [if_neg (by rw [h1]; simp), if_neg (by omega)] at hP
  obtain ⟨q1, q2⟩ := htl (by rw [h1]; decide)
  generalize ts.tail = ts1 at *;generalize (hd ts).n = n at *;conv => whnf
  simp only [xpt] at hP;refine ja8 0 [] rfl rfl rfl rfl (fun _ => jah nm ts1 q1.pos pSemi) (fun ch bx' hp => ?_) ?_
  ·rw [if_neg (by rw [hp.1]; simp)] at hP;exact jag hP.symm hp.2
  rintro o r ⟨hx, ho, rfl⟩;cases ho;rw [if_pos hx] at hP;subst hP;conv => whnf
  exact ⟨rfl, _, rfl, jbe (f := .mk k n eB []) rfl⟩
 ·conv => whnf
  refine ja8 0 [] rfl rfl rfl rfl (fun _ => hnum) (fun ch bx' hp => ?_) ?_
  ·rcases hp with ⟨h1, h2⟩ | ⟨h1, h2, h3⟩
   ·rw [if_pos h1] at hP;exact jag hP.symm h2
   ·rw [if_neg (by rw [h1]; simp), if_pos h2] at hP;exact jag hP.symm h3
  rintro o r ⟨⟨h1, h2⟩, ho, rfl⟩;cases ho;rw [if_neg (by rw [h1]; simp), if_neg (by omega)] at hP
  obtain ⟨q1, q2⟩ := htl (by rw [h1]; decide)
  generalize ts.tail = ts1 at *;generalize (hd ts).n = n at *;conv => whnf
  simp only [xpt] at hP;refine ja8 0 [] rfl rfl rfl rfl (fun _ => jah nm ts1 q1.pos pSemi) (fun ch bx' hp => ?_) ?_
  ·rw [if_neg (by rw [hp.1]; simp)] at hP;exact jag hP.symm hp.2
  rintro o r ⟨hx, ho, rfl⟩;cases ho;rw [if_pos hx] at hP;subst hP;conv => whnf
  exact ⟨rfl, _, rfl, jbe (f := .mk k n eB []) rfl⟩
theorem jtt {nm : List ByteArray} {lv : Int} {ex : List Tk -> Pn} (hex : jbl nm 128 lv ex) (gex : jaX ex) : jmo nm lv 162 [] fun ts => (ex ts).andThen fun a r => xpt pSemi r fun r => .ok (.mk 9 0 eB [a]) r := fun ts h => by
 obtain ⟨P, hP⟩ : ∃ P, ((ex ts).andThen fun a r => xpt pSemi r fun r => .ok (.mk 9 0 eB [a]) r) = P := ⟨_, rfl⟩
 simp only
 rw [hP];refine jam (jat jal xs0 1 (fun ch _ => (pnQ P) ch)) (fun _ _ h => h) Tryz.func162 rfl (by kernel_rfl) rfl (by kernel_rfl) ?_;intro _;conv => whnf
 refine ja8 0 [] rfl rfl rfl rfl (fun _ => hex ts h) (fun ch bx' hp => ?_) ?_
 ·obtain ⟨x, e, he, hc⟩ := jaN hp
  rw [he] at hP;exact jag hP.symm hc
 rintro o r hpo
 obtain ⟨f, r1, he, ho, rfl⟩ := jau hpo
 cases ho;rw [he] at hP;simp only [Pn.andThen, xpt] at hP
 obtain ⟨g1, l1⟩ := gex _ _ _ h he
 conv => whnf
 refine ja8 0 [] rfl rfl rfl rfl (fun _ => jah nm r1 g1.pos pSemi) (fun ch bx' hp => ?_) ?_
 ·rw [if_neg (by rw [hp.1]; simp)] at hP;exact jag hP.symm hp.2
 rintro o r ⟨hx, ho, rfl⟩;cases ho;rw [if_pos hx] at hP;subst hP;conv => whnf
 exact ⟨rfl, by rw [jcd]; rfl⟩
theorem jqH {nm : List ByteArray} {lv : Int} {ex bl : List Tk -> Pn} (hlv : 0 <= lv /\ lv <= 20) (hex : jbl nm 128 lv ex) (gex : jaX ex) (hbl : jbl nm 70 (lv + 1) bl) (gbl : jaX bl) : jmo nm lv 159 [] fun ts => (ex ts).andThen fun c r => (bl r).andThen fun b r => .ok (.mk 3 0 eB [c, b]) r := fun ts h => by
 obtain ⟨P, hP⟩ : ∃ P, ((ex ts).andThen fun c r => (bl r).andThen fun b r => .ok (.mk 3 0 eB [c, b]) r) = P := ⟨_, rfl⟩
 simp only
 rw [hP];refine jam (jat jal xs0 1 (fun ch _ => (pnQ P) ch)) (fun _ _ h => h) Tryz.func159 rfl (by kernel_rfl) rfl (by kernel_rfl) ?_;intro _;conv => whnf
 refine ja8 0 [] rfl rfl rfl rfl (fun _ => hex ts h) (fun ch bx' hp => ?_) ?_
 ·obtain ⟨x, e, he, hc⟩ := jaN hp
  rw [he] at hP;exact jag hP.symm hc
 rintro o r hpo
 obtain ⟨f, r1, he, ho, rfl⟩ := jau hpo
 cases ho;rw [he] at hP;simp only [Pn.andThen, xpt] at hP
 obtain ⟨g1, l1⟩ := gex _ _ _ h he
 conv => whnf
 refine ⟨jaL (by omega), ?_⟩;conv => whnf
 refine ja8 0 [] rfl rfl rfl rfl (fun _ => hbl r1 g1) (fun ch bx' hp => ?_) ?_
 ·obtain ⟨x, e, he, hc⟩ := jaN hp
  rw [he] at hP;exact jag hP.symm hc
 rintro o r hpo
 obtain ⟨f2, r2, he, ho, rfl⟩ := jau hpo
 cases ho;rw [he] at hP;simp only [Pn.andThen, xpt] at hP
 obtain ⟨g2, l2⟩ := gbl _ _ _ g1 he
 subst hP;conv => whnf
 exact ⟨rfl, by rw [jd2]; rfl⟩
theorem jdQ (k n : Int) (s : ByteArray) (f g h : Nt) : ntA (.mk k n s [f, g, h]) = [jao k, jao n, jaS s, .sl 4 3 (ntA f ++ (ntA g ++ ntA h))] := by
 have e1 : ntA f ++ (ntA g ++ ntA h) = jaR [f, g, h] := by rw [jaE, jaE, jaE, jbw, List.append_nil]
 rw [e1]; rfl
theorem jqG {nm : List ByteArray} {lv : Int} {ex : List Tk -> Pn} (hex : jbl nm 128 lv ex) (gex : jaX ex) : jmo nm lv 161 [] fun ts => (ex ts).andThen fun a r => xpt pComma r fun r => (ex r).andThen fun b r => xpt pSemi r fun r => .ok (.mk 8 0 eB [a, b]) r := fun ts h => by
 obtain ⟨P, hP⟩ : ∃ P, ((ex ts).andThen fun a r => xpt pComma r fun r => (ex r).andThen fun b r => xpt pSemi r fun r => .ok (.mk 8 0 eB [a, b]) r) = P := ⟨_, rfl⟩
 simp only
 rw [hP];refine jam (jat jzg (fun _ => [0]) 1 (fun ch _ => (pnQ P) ch)) (fun _ _ h => h) Tryz.func161 rfl (by kernel_rfl) rfl (by kernel_rfl) ?_;intro _;conv => whnf
 refine ja8 0 [] rfl rfl rfl rfl (fun _ => hex ts h) (fun ch bx' hp => ?_) ?_
 ·obtain ⟨x, e, he, hc⟩ := jaN hp
  rw [he] at hP;exact jag hP.symm hc
 rintro o r hpo
 obtain ⟨f, r1, he, ho, rfl⟩ := jau hpo
 cases ho;rw [he] at hP;simp only [Pn.andThen, xpt] at hP
 obtain ⟨g1, l1⟩ := gex _ _ _ h he
 conv => whnf
 refine ja8 0 [] rfl rfl rfl rfl (fun _ => jah nm r1 g1.pos pComma) (fun ch bx' hp => ?_) ?_
 ·rw [if_neg (by rw [hp.1]; simp)] at hP;exact jag hP.symm hp.2
 rintro o r ⟨hx, ho, rfl⟩;cases ho;rw [if_pos hx] at hP
 obtain ⟨q2, q3⟩ := g1.is hx
 generalize r1.tail = r2 at *;conv => whnf
 unfold jih;refine ⟨_, ?_, fun _ h => h⟩;conv => whnf
 refine ⟨?_, ?_⟩
 ·conv => whnf
  refine ja8 0 [] rfl rfl rfl rfl (fun _ => hex r2 q2) (fun ch bx' hp => ?_) ?_
  ·obtain ⟨x, e, he, hc⟩ := jaN hp
   rw [he] at hP;exact jag hP.symm hc
  rintro o r hpo
  obtain ⟨f2, r3, he, ho, rfl⟩ := jau hpo
  cases ho;rw [he] at hP;simp only [Pn.andThen, xpt] at hP
  obtain ⟨g3, l3⟩ := gex _ _ _ q2 he
  conv => whnf
  refine ⟨?_, ?_⟩
  ·conv => whnf
   refine ja8 0 [] rfl rfl rfl rfl (fun _ => jah nm r3 g3.pos pSemi) (fun ch bx' hp => ?_) ?_
   ·rw [if_neg (by rw [hp.1]; simp)] at hP;exact jag hP.symm hp.2
   rintro o r ⟨hx, ho, rfl⟩;cases ho;rw [if_pos hx] at hP;subst hP;conv => whnf
   exact ⟨rfl, by rw [jd2]; rfl⟩
  ·conv => whnf
   refine ja8 0 [] rfl rfl rfl rfl (fun _ => jah nm r3 g3.pos pSemi) (fun ch bx' hp => ?_) ?_
   ·rw [if_neg (by rw [hp.1]; simp)] at hP;exact jag hP.symm hp.2
   rintro o r ⟨hx, ho, rfl⟩;cases ho;rw [if_pos hx] at hP;subst hP;conv => whnf
   exact ⟨rfl, by rw [jd2]; rfl⟩
 ·conv => whnf
  refine ja8 0 [] rfl rfl rfl rfl (fun _ => hex r2 q2) (fun ch bx' hp => ?_) ?_
  ·obtain ⟨x, e, he, hc⟩ := jaN hp
   rw [he] at hP;exact jag hP.symm hc
  rintro o r hpo
  obtain ⟨f2, r3, he, ho, rfl⟩ := jau hpo
  cases ho;rw [he] at hP;simp only [Pn.andThen, xpt] at hP
  obtain ⟨g3, l3⟩ := gex _ _ _ q2 he
  conv => whnf
  conv => whnf
  refine ja8 0 [] rfl rfl rfl rfl (fun _ => jah nm r3 g3.pos pSemi) (fun ch bx' hp => ?_) ?_
  ·rw [if_neg (by rw [hp.1]; simp)] at hP;exact jag hP.symm hp.2
  rintro o r ⟨hx, ho, rfl⟩;cases ho;rw [if_pos hx] at hP;subst hP;conv => whnf
  exact ⟨rfl, by rw [jd2]; rfl⟩
set_option maxHeartbeats 1000000 in
theorem jpD {nm : List ByteArray} {lv : Int} {ex bl : List Tk -> Pn} (hlv : 0 <= lv /\ lv <= 20) (hex : jbl nm 128 lv ex) (gex : jaX ex) (hbl : jbl nm 70 (lv + 1) bl) (gbl : jaX bl) : jmo nm lv 158 [] fun ts => (ex ts).andThen fun c r => (bl r).andThen fun b r => if isP wElse r = true then (bl r.tail).andThen fun o r => .ok (.mk 2 0 eB [c, b, o]) r else .ok (.mk 2 0 eB [c, b, jbc []]) r := fun ts h => by
 refine jsP ?_
 obtain ⟨P, hP⟩ : ∃ P, ((ex ts).andThen fun c r => (bl r).andThen fun b r => if isP wElse r = true then (bl r.tail).andThen fun o r => .ok (.mk 2 0 eB [c, b, o]) r else .ok (.mk 2 0 eB [c, b, jbc []]) r) = P := ⟨_, rfl⟩
 simp only
 rw [hP];refine jam (jat jal xs0 1 (fun ch _ => (pnQ P) ch)) (fun _ _ h => h) Tryz.func158 rfl (by kernel_rfl) rfl (by kernel_rfl) ?_;intro _;conv => whnf
 refine ja8 0 [] rfl rfl rfl rfl (fun _ => hex ts h) (fun ch bx' hp => ?_) ?_
 ·obtain ⟨x, e, he, hc⟩ := jaN hp
  rw [he] at hP;exact jag hP.symm hc
 rintro o r hpo
 obtain ⟨f, r1, he, ho, rfl⟩ := jau hpo
 cases ho;rw [he] at hP;simp only [Pn.andThen, xpt] at hP
 obtain ⟨g1, l1⟩ := gex _ _ _ h he
 conv => whnf
 refine ⟨jaL (by omega), ?_⟩;conv => whnf
 refine ja8 0 [] rfl rfl rfl rfl (fun _ => hbl r1 g1) (fun ch bx' hp => ?_) ?_
 ·obtain ⟨x, e, he, hc⟩ := jaN hp
  rw [he] at hP;exact jag hP.symm hc
 rintro o r hpo
 obtain ⟨f2, r2, he, ho, rfl⟩ := jau hpo
 cases ho;rw [he] at hP;simp only [Pn.andThen, xpt] at hP
 obtain ⟨g2, l2⟩ := gbl _ _ _ g1 he
 conv => whnf
 refine jaa 0 [] rfl rfl rfl rfl (fun _ => jcO nm r2 g2.pos wElse) ?_;rintro o r ⟨ho, rfl⟩;cases ho;conv => whnf
 cases hq : isP wElse r2 with
 | true =>
  rw [if_pos hq] at hP
  obtain ⟨q2, q3⟩ := g2.is hq
  have hnx := jbm nm r2 g2.pos
  generalize r2.tail = r3 at *;conv => whnf
  refine jaa 0 [] rfl rfl rfl rfl (fun _ => hnx) ?_;rintro o r ⟨ho, rfl⟩;cases ho;conv => whnf
  refine ⟨jaL (by omega), ?_⟩;conv => whnf
  refine ja8 0 [] rfl rfl rfl rfl (fun _ => hbl r3 q2) (fun ch bx' hp => ?_) ?_
  ·obtain ⟨x, e, he, hc⟩ := jaN hp
   rw [he] at hP;exact jag hP.symm hc
  rintro o r hpo
  obtain ⟨f3, r4, he, ho, rfl⟩ := jau hpo
  cases ho;rw [he] at hP;simp only [Pn.andThen, xpt] at hP
  obtain ⟨g4, l4⟩ := gbl _ _ _ q2 he
  subst hP;conv => whnf
  refine ⟨by omega, ?_⟩;conv => whnf
  exact jqK (p := .ok (.mk 2 0 eB [f, f2, f3]) r4) (show _ /\ _ from ⟨rfl, by rw [jdQ]; rfl⟩)
 | false =>
  rw [if_neg (by rw [hq]; simp)] at hP;subst hP;conv => whnf
  refine ⟨rfl, _, rfl, ?_⟩;rw [jdQ];exact .cons (.refl _) (.cons (.refl _) (.cons (.refl _) (.cons (.sl 4 3 (cs := ntA f ++ (ntA f2 ++ jzk (jbc []))) (WkL.app (WkL.refl (ntA f)) (WkL.app (WkL.refl (ntA f2)) (jbe (f := jbc []) rfl)))) .nil)))
def jhy (ex : List Tk -> Pn) (n : Int) : Nat -> List Nt -> List Tk -> Pn
 | 0, l, ts => xpt pSemi ts fun r => .ok (.mk 4 n eB l) r
 | k + 1, l, ts => xpt pComma ts fun r => (ex r).andThen fun a r => jhy ex n k (l ++ [a]) r
set_option maxHeartbeats 1000000 in
theorem jtC {nm : List ByteArray} {lv : Int} {ex : List Tk -> Pn} (hex : jbl nm 128 lv ex) (gex : jaX ex) : jmo nm lv 160 [] fun ts => (ex ts).andThen fun t r => xpt pComma r fun r => jgL 30 r fun n r => jhy ex n 2 [t] r := fun ts h => by
 obtain ⟨P, hP⟩ : ∃ P, ((ex ts).andThen fun t r => xpt pComma r fun r => jgL 30 r fun n r => jhy ex n 2 [t] r) = P := ⟨_, rfl⟩
 simp only
 rw [hP];refine jam (jat jyT (fun _ => [0]) 1 (fun ch _ => (pnQ P) ch)) (fun _ _ h => h) Tryz.func160 rfl (by kernel_rfl) rfl (by kernel_rfl) ?_;intro _;conv => whnf
 refine ja8 0 [] rfl rfl rfl rfl (fun _ => hex ts h) (fun ch bx' hp => ?_) ?_
 ·obtain ⟨x, e, he, hc⟩ := jaN hp
  rw [he] at hP;exact jag hP.symm hc
 rintro o r hpo
 obtain ⟨f, r1, he, ho, rfl⟩ := jau hpo
 cases ho;rw [he] at hP;simp only [Pn.andThen, xpt] at hP
 obtain ⟨g1, l1⟩ := gex _ _ _ h he
 conv => whnf
 refine ja8 0 [] rfl rfl rfl rfl (fun _ => jah nm r1 g1.pos pComma) (fun ch bx' hp => ?_) ?_
 ·rw [if_neg (by rw [hp.1]; simp)] at hP;exact jag hP.symm hp.2
 rintro o r ⟨hx, ho, rfl⟩;cases ho;rw [if_pos hx] at hP
 obtain ⟨q2, q3⟩ := g1.is hx
 generalize r1.tail = r2 at *;simp only [jgL] at hP;conv => whnf
 refine ja8 0 [] rfl rfl rfl rfl (fun _ => jf3 nm r2 q2.pos 30) (fun ch bx' hp => ?_) ?_
 ·rcases hp with ⟨h1, h2⟩ | ⟨h1, h2, h3⟩
  ·rw [if_pos h1] at hP;exact jag hP.symm h2
  ·rw [if_neg (by rw [h1]; simp), if_pos h2] at hP;exact jag hP.symm h3
 rintro o r ⟨⟨h1, h2⟩, ho, rfl⟩;cases ho;rw [if_neg (by rw [h1]; simp), if_neg (by omega)] at hP
 obtain ⟨q4, q5⟩ := q2.tail (by rw [h1]; decide)
 generalize r2.tail = r3 at *;generalize (hd r2).n = n at *;conv => whnf
 refine jak [0, 1, 4, 5] ?_;conv => whnf
 refine jaJ (fun x : Nat × List Nt × List Tk => [(16, .v (.int .i64 x.1))]) (fun x => [bxQ nm x.2.2, ju7, [jao 4, jao n, jaS ⟨#[]⟩, .own 0]]) (fun x => [.live 41 4 x.2.1.length (jaR x.2.1)]) (fun x => TkP x.2.2 /\ x.1 <= 2 /\ x.2.1.length <= 1 + x.1 /\ jhy ex n (2 - x.1) x.2.1 x.2.2 = P) (fun x => 2 - x.1) (0, [f], r3) ?_ ⟨q4, by simp, by simp, hP⟩ ?_
 ·have e1 : jaR [f] = ntA f := by rw [jaE, jbw, List.append_nil]
  repeat' constructor
  show Row.live _ _ _ _ = Row.live _ 4 1 (jaR [f])
  rw [e1]; rfl
 rintro ⟨j, l, ts1⟩ ⟨g2, g3, g4, g5⟩
 simp only at g2 g3 g4 g5
 conv => whnf
 by_cases hj : j < 2
 ·rw [decide_eq_true (show (j : Int) < 2 by omega)]
  obtain ⟨m, hm⟩ : ∃ m, 2 - j = m + 1 := ⟨1 - j, by omega⟩
  rw [hm] at g5;simp only [jhy, xpt] at g5
  have hP := g5
  conv => whnf
  refine ja8 0 [] rfl rfl rfl rfl (fun _ => jah nm ts1 g2.pos pComma) (fun ch bx' hp => ?_) ?_
  ·rw [if_neg (by rw [hp.1]; simp)] at hP;exact jag hP.symm hp.2
  rintro o r ⟨hx, ho, rfl⟩;cases ho;rw [if_pos hx] at hP
  obtain ⟨q6, q7⟩ := g2.is hx
  generalize ts1.tail = ts2 at *;conv => whnf
  refine ja8 0 [] rfl rfl rfl rfl (fun _ => hex ts2 q6) (fun ch bx' hp => ?_) ?_
  ·obtain ⟨x, e, he, hc⟩ := jaN hp
   rw [he] at hP;exact jag hP.symm hc
  rintro o r hpo
  obtain ⟨f2, r4, he, ho, rfl⟩ := jau hpo
  cases ho;rw [he] at hP;simp only [Pn.andThen, xpt] at hP
  obtain ⟨g6, l6⟩ := gex _ _ _ q6 he
  conv => whnf
  refine ⟨⟨by simp only; unfold maxLen; omega, by simp only; omega⟩, ?_⟩;conv => whnf
  refine ⟨jaL (by omega), ?_⟩;conv => whnf
  refine ⟨(j + 1, l ++ [f2], r4), jas [0] ?_, ⟨g6, hj, by simp only [List.length_append, List.length_cons, List.length_nil]; omega, by simp only; rw [show 2 - (j + 1) = m by omega]; exact hP⟩, by simp only; omega⟩;conv => whnf
  repeat' constructor
  simp only [List.length_append, List.length_cons, List.length_nil];rw [jhN]; rfl
 ·rw [decide_eq_false (show ¬ (j : Int) < 2 by omega)];rw [show 2 - j = 0 by omega] at g5;simp only [jhy, xpt] at g5
  have hP := g5
  conv => whnf
  refine ja8 0 [] rfl rfl rfl rfl (fun _ => jah nm ts1 g2.pos pSemi) (fun ch bx' hp => ?_) ?_
  ·rw [if_neg (by rw [hp.1]; simp)] at hP;exact jag hP.symm hp.2
  rintro o r ⟨hx, ho, rfl⟩;cases ho;rw [if_pos hx] at hP;subst hP;conv => whnf
  exact ⟨rfl, rfl⟩
def stK (ex bl : List Tk -> Pn) (w : ByteArray) (ts : List Tk) : Pn :=
 if w = wIf then (ex ts).andThen fun c r => (bl r).andThen fun b r => if isP wElse r = true then (bl r.tail).andThen fun o r => .ok (.mk 2 0 eB [c, b, o]) r else .ok (.mk 2 0 eB [c, b, jbc []]) r
 else if w = wWhile then (ex ts).andThen fun c r => (bl r).andThen fun b r => .ok (.mk 3 0 eB [c, b]) r
 else if w = wSend then (ex ts).andThen fun t r => xpt pComma r fun r => jgL 30 r fun n r => jhy ex n 2 [t] r
 else if w = wTimer then jgL 8 ts fun n r => xpt pSemi r fun r => .ok (.mk 5 n eB []) r
 else if w = wCancel then jgL 8 ts fun n r => xpt pSemi r fun r => .ok (.mk 6 n eB []) r
 else if w = wSync then xpt pSemi ts fun r => .ok (.mk 7 0 eB []) r
 else if w = wStop then xpt pSemi ts fun r => .ok (.mk 10 0 eB []) r
 else if w = wReply then (ex ts).andThen fun a r => xpt pComma r fun r => (ex r).andThen fun b r => xpt pSemi r fun r => .ok (.mk 8 0 eB [a, b]) r
 else (ex ts).andThen fun a r => xpt pSemi r fun r => .ok (.mk 9 0 eB [a]) r
set_option maxHeartbeats 2000000 in
theorem jta {nm : List ByteArray} {lv : Int} {ex bl : List Tk -> Pn} (hlv : 0 <= lv /\ lv <= 20) (hex : jbl nm 128 lv ex) (gex : jaX ex) (hbl : jbl nm 70 (lv + 1) bl) (gbl : jaX bl) (ts : List Tk) (h : TkP ts) (P : Pn) (hn : jeL ts = false)
  (hP : (if (hd ts).kind ≠ 1 then .bad (hd ts).pos 10 else stK ex bl (hd ts).text ts.tail) = P) (hw : (hd ts).text = wIf ∨ (hd ts).text = wWhile ∨ (hd ts).text = wSend ∨ (hd ts).text = wTimer ∨ (hd ts).text = wCancel ∨ (hd ts).text = wSync ∨ (hd ts).text = wStop ∨ (hd ts).text = wReply ∨ (hd ts).text = wFail) : SpecP Tryz.prog 110 [bxQ nm ts] [.box 0 0, jao lv] (poQ nm P) (pnQ P) := by
 have hl := h.pos
 have hr := jdI hl
 have hnm := jem nm ts hl h.hd h.good.1
 rw [hn] at hnm
 have hnx := jbm nm ts hl
 have hfl := jcq nm ts hl 10
 have htl := h.tail
 have sIf := jpD hlv hex gex hbl gbl
 have sWhile := jqH hlv hex gex hbl gbl
 have sSend := jtC hex gex
 have sTimer := jku nm lv 5
 have sCancel := jku nm lv 6
 have sSync := jlE nm lv 7
 have sStop := jlE nm lv 10
 have sReply := jqG hex gex
 have sFail := jtt hex gex
 refine jam (jat jrR (fun _ => [0]) 1 (fun ch _ => (pnQ P) ch)) (fun _ _ h => h) Tryz.func110 rfl (by kernel_rfl) rfl (by kernel_rfl) ?_;intro _;generalize hd ts = t at *;conv => whnf
 (refine goA ?_; try with_reducible exact trivial)
 (generalize hrq : jae _ _ (jer ts) = rq; obtain rfl : rq = tkL t := hrq.symm.trans (hr); clear hrq; conv => whnf)
 refine jaa 0 [] rfl rfl rfl rfl (fun _ => hnm) ?_;rintro o r ⟨ho, rfl⟩;cases ho;conv => whnf
 refine ja9 [] rfl (fun _ => je0) ?_;rintro r rfl;conv => whnf
 unfold stK at hP
 by_cases g0 : t.text = wIf
 ·rw [show decide (t.text = (wIf, A.clo 158 []).fst) = true from decide_eq_true g0];rw [if_pos g0] at hP;conv => whnf
  by_cases hk : t.kind = 1
  ·rw [decide_eq_true hk];rw [if_neg (by rw [hk]; simp)] at hP
   obtain ⟨q1, q2⟩ := htl (by rw [hk]; decide)
   have hs := sIf ts.tail q1
   simp only at hs
   rw [hP] at hs;generalize ts.tail = r1 at *;conv => whnf
   refine jaa 0 [] rfl rfl rfl rfl (fun _ => hnx) ?_;rintro o r ⟨ho, rfl⟩;cases ho;conv => whnf
   refine ja8 0 [] rfl rfl rfl rfl (fun _ => hs) (fun ch bx' hp => hp) ?_;rintro o r hpo
   obtain ⟨f, r2, rfl, ho, rfl⟩ := jau hpo
   cases ho;conv => whnf
   exact ⟨rfl, rfl⟩
  ·rw [decide_eq_false hk];rw [if_pos hk] at hP;conv => whnf
   refine ja8 0 [] rfl rfl rfl rfl (fun _ => hfl) (fun ch bx' hp => jag hP.symm hp) ?_;rintro o r ⟨⟩
 rw [show decide (t.text = (wIf, A.clo 158 []).fst) = false from decide_eq_false g0];rw [if_neg g0] at hP;conv => whnf
 by_cases g1 : t.text = wWhile
 ·rw [show decide (t.text = (wWhile, A.clo 159 []).fst) = true from decide_eq_true g1];rw [if_pos g1] at hP;conv => whnf
  by_cases hk : t.kind = 1
  ·rw [decide_eq_true hk];rw [if_neg (by rw [hk]; simp)] at hP
   obtain ⟨q1, q2⟩ := htl (by rw [hk]; decide)
   have hs := sWhile ts.tail q1
   simp only at hs
   rw [hP] at hs;generalize ts.tail = r1 at *;conv => whnf
   refine jaa 0 [] rfl rfl rfl rfl (fun _ => hnx) ?_;rintro o r ⟨ho, rfl⟩;cases ho;conv => whnf
   refine ja8 0 [] rfl rfl rfl rfl (fun _ => hs) (fun ch bx' hp => hp) ?_;rintro o r hpo
   obtain ⟨f, r2, rfl, ho, rfl⟩ := jau hpo
   cases ho;conv => whnf
   exact ⟨rfl, rfl⟩
  ·rw [decide_eq_false hk];rw [if_pos hk] at hP;conv => whnf
   refine ja8 0 [] rfl rfl rfl rfl (fun _ => hfl) (fun ch bx' hp => jag hP.symm hp) ?_;rintro o r ⟨⟩
 rw [show decide (t.text = (wWhile, A.clo 159 []).fst) = false from decide_eq_false g1];rw [if_neg g1] at hP;conv => whnf
 by_cases g2 : t.text = wSend
 ·rw [show decide (t.text = (wSend, A.clo 160 []).fst) = true from decide_eq_true g2];rw [if_pos g2] at hP;conv => whnf
  by_cases hk : t.kind = 1
  ·rw [decide_eq_true hk];rw [if_neg (by rw [hk]; simp)] at hP
   obtain ⟨q1, q2⟩ := htl (by rw [hk]; decide)
   have hs := sSend ts.tail q1
   simp only at hs
   rw [hP] at hs;generalize ts.tail = r1 at *;conv => whnf
   refine jaa 0 [] rfl rfl rfl rfl (fun _ => hnx) ?_;rintro o r ⟨ho, rfl⟩;cases ho;conv => whnf
   refine ja8 0 [] rfl rfl rfl rfl (fun _ => hs) (fun ch bx' hp => hp) ?_;rintro o r hpo
   obtain ⟨f, r2, rfl, ho, rfl⟩ := jau hpo
   cases ho;conv => whnf
   exact ⟨rfl, rfl⟩
  ·rw [decide_eq_false hk];rw [if_pos hk] at hP;conv => whnf
   refine ja8 0 [] rfl rfl rfl rfl (fun _ => hfl) (fun ch bx' hp => jag hP.symm hp) ?_;rintro o r ⟨⟩
 rw [show decide (t.text = (wSend, A.clo 160 []).fst) = false from decide_eq_false g2];rw [if_neg g2] at hP;conv => whnf
 by_cases g3 : t.text = wTimer
 ·rw [show decide (t.text = (wTimer, A.clo 157 [.pp [jao 5]]).fst) = true from decide_eq_true g3];rw [if_pos g3] at hP;conv => whnf
  by_cases hk : t.kind = 1
  ·rw [decide_eq_true hk];rw [if_neg (by rw [hk]; simp)] at hP
   obtain ⟨q1, q2⟩ := htl (by rw [hk]; decide)
   have hs := sTimer ts.tail q1
   simp only at hs
   rw [hP] at hs;generalize ts.tail = r1 at *;conv => whnf
   refine jaa 0 [] rfl rfl rfl rfl (fun _ => hnx) ?_;rintro o r ⟨ho, rfl⟩;cases ho;conv => whnf
   refine ja8 0 [] rfl rfl rfl rfl (fun _ => hs) (fun ch bx' hp => hp) ?_;rintro o r hpo
   obtain ⟨f, r2, rfl, ho, rfl⟩ := jau hpo
   cases ho;conv => whnf
   exact ⟨rfl, rfl⟩
  ·rw [decide_eq_false hk];rw [if_pos hk] at hP;conv => whnf
   refine ja8 0 [] rfl rfl rfl rfl (fun _ => hfl) (fun ch bx' hp => jag hP.symm hp) ?_;rintro o r ⟨⟩
 rw [show decide (t.text = (wTimer, A.clo 157 [.pp [jao 5]]).fst) = false from decide_eq_false g3];rw [if_neg g3] at hP;conv => whnf
 by_cases g4 : t.text = wCancel
 ·rw [show decide (t.text = (wCancel, A.clo 157 [.pp [jao 6]]).fst) = true from decide_eq_true g4];rw [if_pos g4] at hP;conv => whnf
  by_cases hk : t.kind = 1
  ·rw [decide_eq_true hk];rw [if_neg (by rw [hk]; simp)] at hP
   obtain ⟨q1, q2⟩ := htl (by rw [hk]; decide)
   have hs := sCancel ts.tail q1
   simp only at hs
   rw [hP] at hs;generalize ts.tail = r1 at *;conv => whnf
   refine jaa 0 [] rfl rfl rfl rfl (fun _ => hnx) ?_;rintro o r ⟨ho, rfl⟩;cases ho;conv => whnf
   refine ja8 0 [] rfl rfl rfl rfl (fun _ => hs) (fun ch bx' hp => hp) ?_;rintro o r hpo
   obtain ⟨f, r2, rfl, ho, rfl⟩ := jau hpo
   cases ho;conv => whnf
   exact ⟨rfl, rfl⟩
  ·rw [decide_eq_false hk];rw [if_pos hk] at hP;conv => whnf
   refine ja8 0 [] rfl rfl rfl rfl (fun _ => hfl) (fun ch bx' hp => jag hP.symm hp) ?_;rintro o r ⟨⟩
 rw [show decide (t.text = (wCancel, A.clo 157 [.pp [jao 6]]).fst) = false from decide_eq_false g4];rw [if_neg g4] at hP;conv => whnf
 by_cases g5 : t.text = wSync
 ·rw [show decide (t.text = (wSync, A.clo 155 [.pp [jao 7]]).fst) = true from decide_eq_true g5];rw [if_pos g5] at hP;conv => whnf
  by_cases hk : t.kind = 1
  ·rw [decide_eq_true hk];rw [if_neg (by rw [hk]; simp)] at hP
   obtain ⟨q1, q2⟩ := htl (by rw [hk]; decide)
   have hs := sSync ts.tail q1
   simp only at hs
   rw [hP] at hs;generalize ts.tail = r1 at *;conv => whnf
   refine jaa 0 [] rfl rfl rfl rfl (fun _ => hnx) ?_;rintro o r ⟨ho, rfl⟩;cases ho;conv => whnf
   refine ja8 0 [] rfl rfl rfl rfl (fun _ => hs) (fun ch bx' hp => hp) ?_;rintro o r hpo
   obtain ⟨f, r2, rfl, ho, rfl⟩ := jau hpo
   cases ho;conv => whnf
   exact ⟨rfl, rfl⟩
  ·rw [decide_eq_false hk];rw [if_pos hk] at hP;conv => whnf
   refine ja8 0 [] rfl rfl rfl rfl (fun _ => hfl) (fun ch bx' hp => jag hP.symm hp) ?_;rintro o r ⟨⟩
 rw [show decide (t.text = (wSync, A.clo 155 [.pp [jao 7]]).fst) = false from decide_eq_false g5];rw [if_neg g5] at hP;conv => whnf
 by_cases g6 : t.text = wStop
 ·rw [show decide (t.text = (wStop, A.clo 155 [.pp [jao 10]]).fst) = true from decide_eq_true g6];rw [if_pos g6] at hP;conv => whnf
  by_cases hk : t.kind = 1
  ·rw [decide_eq_true hk];rw [if_neg (by rw [hk]; simp)] at hP
   obtain ⟨q1, q2⟩ := htl (by rw [hk]; decide)
   have hs := sStop ts.tail q1
   simp only at hs
   rw [hP] at hs;generalize ts.tail = r1 at *;conv => whnf
   refine jaa 0 [] rfl rfl rfl rfl (fun _ => hnx) ?_;rintro o r ⟨ho, rfl⟩;cases ho;conv => whnf
   refine ja8 0 [] rfl rfl rfl rfl (fun _ => hs) (fun ch bx' hp => hp) ?_;rintro o r hpo
   obtain ⟨f, r2, rfl, ho, rfl⟩ := jau hpo
   cases ho;conv => whnf
   exact ⟨rfl, rfl⟩
  ·rw [decide_eq_false hk];rw [if_pos hk] at hP;conv => whnf
   refine ja8 0 [] rfl rfl rfl rfl (fun _ => hfl) (fun ch bx' hp => jag hP.symm hp) ?_;rintro o r ⟨⟩
 rw [show decide (t.text = (wStop, A.clo 155 [.pp [jao 10]]).fst) = false from decide_eq_false g6];rw [if_neg g6] at hP;conv => whnf
 by_cases g7 : t.text = wReply
 ·rw [show decide (t.text = (wReply, A.clo 161 []).fst) = true from decide_eq_true g7];rw [if_pos g7] at hP;conv => whnf
  by_cases hk : t.kind = 1
  ·rw [decide_eq_true hk];rw [if_neg (by rw [hk]; simp)] at hP
   obtain ⟨q1, q2⟩ := htl (by rw [hk]; decide)
   have hs := sReply ts.tail q1
   simp only at hs
   rw [hP] at hs;generalize ts.tail = r1 at *;conv => whnf
   refine jaa 0 [] rfl rfl rfl rfl (fun _ => hnx) ?_;rintro o r ⟨ho, rfl⟩;cases ho;conv => whnf
   refine ja8 0 [] rfl rfl rfl rfl (fun _ => hs) (fun ch bx' hp => hp) ?_;rintro o r hpo
   obtain ⟨f, r2, rfl, ho, rfl⟩ := jau hpo
   cases ho;conv => whnf
   exact ⟨rfl, rfl⟩
  ·rw [decide_eq_false hk];rw [if_pos hk] at hP;conv => whnf
   refine ja8 0 [] rfl rfl rfl rfl (fun _ => hfl) (fun ch bx' hp => jag hP.symm hp) ?_;rintro o r ⟨⟩
 rw [show decide (t.text = (wReply, A.clo 161 []).fst) = false from decide_eq_false g7];rw [if_neg g7] at hP;conv => whnf
 have g8 : t.text = wFail := by
  rcases hw with e | e | e | e | e | e | e | e | e <;> first | exact e | contradiction
 rw [show decide (t.text = (wFail, A.clo 162 []).fst) = true from decide_eq_true g8];conv => whnf
 by_cases hk : t.kind = 1
 ·rw [decide_eq_true hk];rw [if_neg (by rw [hk]; simp)] at hP
  obtain ⟨q1, q2⟩ := htl (by rw [hk]; decide)
  have hs := sFail ts.tail q1
  simp only at hs
  rw [hP] at hs;generalize ts.tail = r1 at *;conv => whnf
  refine jaa 0 [] rfl rfl rfl rfl (fun _ => hnx) ?_;rintro o r ⟨ho, rfl⟩;cases ho;conv => whnf
  refine ja8 0 [] rfl rfl rfl rfl (fun _ => hs) (fun ch bx' hp => hp) ?_;rintro o r hpo
  obtain ⟨f, r2, rfl, ho, rfl⟩ := jau hpo
  cases ho;conv => whnf
  exact ⟨rfl, rfl⟩
 ·rw [decide_eq_false hk];rw [if_pos hk] at hP;conv => whnf
  refine ja8 0 [] rfl rfl rfl rfl (fun _ => hfl) (fun ch bx' hp => jag hP.symm hp) ?_;rintro o r ⟨⟩
theorem jtx (nm : List ByteArray) (lv : Int) (ts : List Tk) (h : TkP ts) (hn : jeL ts = false) (hw : ¬ ((hd ts).text = wIf ∨ (hd ts).text = wWhile ∨ (hd ts).text = wSend ∨ (hd ts).text = wTimer ∨ (hd ts).text = wCancel ∨ (hd ts).text = wSync ∨ (hd ts).text = wStop ∨ (hd ts).text = wReply ∨ (hd ts).text = wFail)) : SpecP Tryz.prog 110 [bxQ nm ts] [.box 0 0, jao lv] (poQ nm (synE ts)) (pnQ (synE ts)) := by
 obtain ⟨P, hP⟩ : ∃ P, Pn.bad (hd ts).pos 10 = P := ⟨_, rfl⟩
 unfold synE;rw [hP]
 have hl := h.pos
 have hr := jdI hl
 have hnm := jem nm ts hl h.hd h.good.1
 rw [hn] at hnm
 have hfl := jcq nm ts hl 10
 simp only [not_or] at hw
 obtain ⟨g0, g1, g2, g3, g4, g5, g6, g7, g8⟩ := hw
 refine jam (jat jrR (fun _ => [0]) 1 (fun ch _ => (pnQ P) ch)) (fun _ _ h => h) Tryz.func110 rfl (by kernel_rfl) rfl (by kernel_rfl) ?_;intro _;generalize hd ts = t at *;conv => whnf
 (refine goA ?_; try with_reducible exact trivial)
 (generalize hrq : jae _ _ (jer ts) = rq; obtain rfl : rq = tkL t := hrq.symm.trans (hr); clear hrq; conv => whnf)
 refine jaa 0 [] rfl rfl rfl rfl (fun _ => hnm) ?_;rintro o r ⟨ho, rfl⟩;cases ho;conv => whnf
 refine ja9 [] rfl (fun _ => je0) ?_;rintro r rfl;conv => whnf
 rw [show decide (t.text = (wIf, A.clo 158 []).fst) = false from decide_eq_false g0];conv => whnf
 rw [show decide (t.text = (wWhile, A.clo 159 []).fst) = false from decide_eq_false g1];conv => whnf
 rw [show decide (t.text = (wSend, A.clo 160 []).fst) = false from decide_eq_false g2];conv => whnf
 rw [show decide (t.text = (wTimer, A.clo 157 [.pp [jao 5]]).fst) = false from decide_eq_false g3];conv => whnf
 rw [show decide (t.text = (wCancel, A.clo 157 [.pp [jao 6]]).fst) = false from decide_eq_false g4];conv => whnf
 rw [show decide (t.text = (wSync, A.clo 155 [.pp [jao 7]]).fst) = false from decide_eq_false g5];conv => whnf
 rw [show decide (t.text = (wStop, A.clo 155 [.pp [jao 10]]).fst) = false from decide_eq_false g6];conv => whnf
 rw [show decide (t.text = (wReply, A.clo 161 []).fst) = false from decide_eq_false g7];conv => whnf
 rw [show decide (t.text = (wFail, A.clo 162 []).fst) = false from decide_eq_false g8];conv => whnf
 by_cases hk : t.kind = 1
 ·rw [decide_eq_true hk];conv => whnf
  refine ja8 0 [] rfl rfl rfl rfl (fun _ => hfl) (fun ch bx' hp => jag hP.symm hp) ?_;rintro o r ⟨⟩
 ·rw [decide_eq_false hk];conv => whnf
  refine ja8 0 [] rfl rfl rfl rfl (fun _ => hfl) (fun ch bx' hp => jag hP.symm hp) ?_;rintro o r ⟨⟩
theorem jpo {nm : List ByteArray} {lv : Int} {ex : List Tk -> Pn} (hex : jbl nm 128 lv ex) (gex : jaX ex) (ts : List Tk) (h : TkP ts) (hn : jeL ts = true) (P : Pn) (hP : (xpt pEq ts.tail fun r => (ex r).andThen fun e r => xpt pSemi r fun r => .ok (.mk 1 0 (hd ts).text [e]) r) = P) : SpecP Tryz.prog 110 [bxQ nm ts] [.box 0 0, jao lv] (poQ nm P) (pnQ P) := by
 have hl := h.pos
 have hr := jdI hl
 have hnm := jem nm ts hl h.hd h.good.1
 rw [hn] at hnm
 have hnx := jbm nm ts hl
 have hk1 : (hd ts).kind = 1 := by
  unfold jeL at hn;simp only [Bool.and_eq_true, decide_eq_true_eq] at hn;exact hn.1
 obtain ⟨q1, q2⟩ := h.tail (by rw [hk1]; decide)
 simp only [xpt] at hP;refine jam (jat jrR (fun _ => [0]) 1 (fun ch _ => (pnQ P) ch)) (fun _ _ h => h) Tryz.func110 rfl (by kernel_rfl) rfl (by kernel_rfl) ?_;intro _;generalize hd ts = t at *;generalize ts.tail = r1 at *;conv => whnf
 (refine goA ?_; try with_reducible exact trivial)
 (generalize hrq : jae _ _ (jer ts) = rq; obtain rfl : rq = tkL t := hrq.symm.trans (hr); clear hrq; conv => whnf)
 refine jaa 0 [] rfl rfl rfl rfl (fun _ => hnm) ?_;rintro o r ⟨ho, rfl⟩;cases ho;conv => whnf
 refine jaa 0 [] rfl rfl rfl rfl (fun _ => hnx) ?_;rintro o r ⟨ho, rfl⟩;cases ho;conv => whnf
 refine ja8 0 [] rfl rfl rfl rfl (fun _ => jah nm r1 q1.pos pEq) (fun ch bx' hp => ?_) ?_
 ·rw [if_neg (by rw [hp.1]; simp)] at hP;exact jag hP.symm hp.2
 rintro o r ⟨hx, ho, rfl⟩;cases ho;rw [if_pos hx] at hP
 obtain ⟨q4, q5⟩ := q1.is hx
 generalize r1.tail = r2 at *;conv => whnf
 unfold jih;refine ⟨_, ?_, fun _ h => h⟩;conv => whnf
 refine ⟨?_, ?_⟩
 ·conv => whnf
  refine ja8 0 [] rfl rfl rfl rfl (fun _ => hex r2 q4) (fun ch bx' hp => ?_) ?_
  ·obtain ⟨x, e, he, hc⟩ := jaN hp
   rw [he] at hP;exact jag hP.symm hc
  rintro o r hpo
  obtain ⟨f2, r3, he, ho, rfl⟩ := jau hpo
  cases ho;rw [he] at hP;simp only [Pn.andThen, xpt] at hP
  obtain ⟨g3, l3⟩ := gex _ _ _ q4 he
  conv => whnf
  refine ⟨?_, ?_⟩
  ·conv => whnf
   refine ja8 0 [] rfl rfl rfl rfl (fun _ => jah nm r3 g3.pos pSemi) (fun ch bx' hp => ?_) ?_
   ·rw [if_neg (by rw [hp.1]; simp)] at hP;exact jag hP.symm hp.2
   rintro o r ⟨hx, ho, rfl⟩;cases ho;rw [if_pos hx] at hP;subst hP;conv => whnf
   exact ⟨rfl, by rw [jcd]; rfl⟩
  ·conv => whnf
   refine ja8 0 [] rfl rfl rfl rfl (fun _ => jah nm r3 g3.pos pSemi) (fun ch bx' hp => ?_) ?_
   ·rw [if_neg (by rw [hp.1]; simp)] at hP;exact jag hP.symm hp.2
   rintro o r ⟨hx, ho, rfl⟩;cases ho;rw [if_pos hx] at hP;subst hP;conv => whnf
   exact ⟨rfl, by rw [jcd]; rfl⟩
 ·conv => whnf
  refine ja8 0 [] rfl rfl rfl rfl (fun _ => hex r2 q4) (fun ch bx' hp => ?_) ?_
  ·obtain ⟨x, e, he, hc⟩ := jaN hp
   rw [he] at hP;exact jag hP.symm hc
  rintro o r hpo
  obtain ⟨f2, r3, he, ho, rfl⟩ := jau hpo
  cases ho;rw [he] at hP;simp only [Pn.andThen, xpt] at hP
  obtain ⟨g3, l3⟩ := gex _ _ _ q4 he
  conv => whnf
  conv => whnf
  refine ja8 0 [] rfl rfl rfl rfl (fun _ => jah nm r3 g3.pos pSemi) (fun ch bx' hp => ?_) ?_
  ·rw [if_neg (by rw [hp.1]; simp)] at hP;exact jag hP.symm hp.2
  rintro o r ⟨hx, ho, rfl⟩;cases ho;rw [if_pos hx] at hP;subst hP;conv => whnf
  exact ⟨rfl, by rw [jcd]; rfl⟩
set_option maxHeartbeats 1000000 in
theorem jt3 {nm : List ByteArray} {lv : Int} {st : List Tk -> Pn} (hlv : 0 <= lv /\ lv <= 20) (hst : jbl nm 110 lv st) (gst : jaX st) (sst : ∀ ts f r, TkP ts -> st ts = .ok f r -> r.length < ts.length) : jbl nm 70 lv (bkF st) := fun ts h => by
 obtain ⟨P, hP⟩ : ∃ P, bkF st ts = P := ⟨_, rfl⟩
 rw [hP]
 have hopen := jec nm ts h.pos pLb lv
 simp only [bkF, xpt] at hP
 have hb0 := h.1.2
 refine jam (jat jxr (fun _ => [0]) 1 (fun ch _ => (pnQ P) ch)) (fun _ _ h => h) Tryz.func70 rfl (by kernel_rfl) rfl (by kernel_rfl) ?_;intro _;conv => whnf
 refine ja8 0 [] rfl rfl rfl rfl (fun _ => hopen) (fun ch bx' hp => ?_) ?_
 ·rcases hp with ⟨h1, h2, hp⟩ | ⟨h1, hp⟩
  ·omega
  ·rw [if_neg (by rw [h1]; simp)] at hP;exact jag hP.symm hp
 rintro o r ⟨⟨h1, h2⟩, ho, rfl⟩;cases ho;rw [if_pos h1] at hP
 obtain ⟨q1, q2⟩ := h.is h1
 generalize ts.tail = r1 at *;conv => whnf
 refine jcM 41 4 [] [(2, 3)] ?_;conv => whnf
 refine ⟨trivial, ?_⟩;conv => whnf
 refine jak [0, 1, 4, 5] ?_;conv => whnf
 refine jaJ (fun _ : Nat × List Nt × List Tk => []) (fun x => [bxQ nm x.2.2, ju7, [jao 11, jao 0, jaS ⟨#[]⟩, .own 0]]) (fun x => [.live 41 4 x.2.1.length (jaR x.2.1)]) (fun x => TkP x.2.2 /\ x.2.2.length <= x.1 /\ x.2.1.length + x.2.2.length <= 1000001 /\ ji3 st x.1 x.2.1 x.2.2 = P) (fun x => x.2.2.length) (r1.length, [], r1) ?_ ⟨q1, Nat.le_refl _, by simp only [List.length_nil]; omega, hP⟩ ?_
 ·repeat' constructor
  show Row.live _ _ _ _ = Row.live _ 4 0 (jaR [])
  rw [jbw]
 rintro ⟨n, acc, ts1⟩ ⟨g1, g2, g3, g5⟩
 simp only at g1 g2 g3 g5
 obtain ⟨m, rfl⟩ : ∃ m, n = m + 1 := ⟨n - 1, by have := g1.pos; omega⟩
 rw [ji3] at g5;conv => whnf
 refine jaa 0 [] rfl rfl rfl rfl (fun _ => jcO nm ts1 g1.pos pRb) ?_;rintro o r ⟨ho, rfl⟩;cases ho;conv => whnf
 cases hq : isP pRb ts1 with
 | false =>
  rw [if_neg (by rw [hq]; simp)] at g5
  have hP := g5
  conv => whnf
  refine ja8 0 [] rfl rfl rfl rfl (fun _ => hst ts1 g1) (fun ch bx' hp => ?_) ?_
  ·obtain ⟨x, e, he, hc⟩ := jaN hp
   rw [he] at hP;exact jag hP.symm hc
  rintro o r hpo
  obtain ⟨f2, r2, he, ho, rfl⟩ := jau hpo
  cases ho;rw [he] at hP;simp only [Pn.andThen] at hP
  obtain ⟨g6, l6⟩ := gst _ _ _ g1 he
  have hlt := sst _ _ _ g1 he
  conv => whnf
  refine ⟨⟨by simp only; unfold maxLen; omega, by simp only; omega⟩, ?_⟩;conv => whnf
  refine ⟨(m, acc ++ [f2], r2), jas [0] ?_, ⟨g6, by simp only; omega, by simp only [List.length_append, List.length_cons, List.length_nil]; omega, hP⟩, by simp only; omega⟩;conv => whnf
  repeat' constructor
  simp only [List.length_append, List.length_cons, List.length_nil];rw [jhN]; rfl
 | true =>
  rw [if_pos hq] at g5
  have hnx := jbm nm ts1 g1.pos
  subst g5;conv => whnf
  refine jaa 0 [] rfl rfl rfl rfl (fun _ => hnx) ?_;rintro o r ⟨ho, rfl⟩;cases ho;conv => whnf
  exact ⟨rfl, rfl⟩
theorem jpF (nm : List ByteArray) : jbl nm 70 21 bkN := fun ts h => by
 obtain ⟨P, hP⟩ : ∃ P, bkN ts = P := ⟨_, rfl⟩
 rw [hP]
 have hopen := jec nm ts h.pos pLb 21
 unfold bkN at hP;refine jam (jat jxr (fun _ => [0]) 1 (fun ch _ => (pnQ P) ch)) (fun _ _ h => h) Tryz.func70 rfl (by kernel_rfl) rfl (by kernel_rfl) ?_;intro _;conv => whnf
 refine ja8 0 [] rfl rfl rfl rfl (fun _ => hopen) (fun ch bx' hp => ?_) ?_
 ·rcases hp with ⟨h1, h2, hp⟩ | ⟨h1, hp⟩
  ·rw [if_pos h1] at hP;exact jag hP.symm hp
  ·rw [if_neg (by rw [h1]; simp)] at hP;exact jag hP.symm hp
 rintro o r ⟨⟨h1, h2⟩, ho, rfl⟩;exact absurd h2 (by decide)
theorem jsx (ex bl : List Tk -> Pn) (ts : List Tk) (hn : jeL ts = false) (hw : (hd ts).text = wIf ∨ (hd ts).text = wWhile ∨ (hd ts).text = wSend ∨ (hd ts).text = wTimer ∨ (hd ts).text = wCancel ∨ (hd ts).text = wSync ∨ (hd ts).text = wStop ∨ (hd ts).text = wReply ∨ (hd ts).text = wFail) :
  (if (hd ts).kind ≠ 1 then .bad (hd ts).pos 10 else stK ex bl (hd ts).text ts.tail) = stG ex bl ts := by
 unfold stG stK;rw [if_neg (show ¬ jeL ts = true by rw [hn]; simp)]
 by_cases hk : (hd ts).kind ≠ 1
 ·rw [if_pos hk, if_pos hk]; rfl
 ·rw [if_neg hk, if_neg hk]
  rcases hw with e | e | e | e | e | e | e | e | e <;> rw [e] <;> rfl
theorem jty (ex bl : List Tk -> Pn) (ts : List Tk) (hn : jeL ts = false) (hw : ¬ ((hd ts).text = wIf ∨ (hd ts).text = wWhile ∨ (hd ts).text = wSend ∨ (hd ts).text = wTimer ∨ (hd ts).text = wCancel ∨ (hd ts).text = wSync ∨ (hd ts).text = wStop ∨ (hd ts).text = wReply ∨ (hd ts).text = wFail)) : stG ex bl ts = synE ts := by
 simp only [not_or] at hw
 obtain ⟨g0, g1, g2, g3, g4, g5, g6, g7, g8⟩ := hw
 unfold stG;rw [if_neg (show ¬ jeL ts = true by rw [hn]; simp), if_neg g0, if_neg g1, if_neg g2, if_neg g3, if_neg g4, if_neg g5, if_neg g7, if_neg g8, if_neg g6]
 split <;> rfl
theorem jif {nm : List ByteArray} {lv : Int} {ex bl : List Tk -> Pn} (hlv : 0 <= lv /\ lv <= 20) (hex : jbl nm 128 lv ex) (gex : jaX ex) (hbl : jbl nm 70 (lv + 1) bl) (gbl : jaX bl) : jbl nm 110 lv (stG ex bl) := fun ts h => by
 cases hn : jeL ts with
 | true => exact jpo hex gex ts h hn _ (by unfold stG; rw [hn, if_pos rfl])
 | false =>
  by_cases hw : (hd ts).text = wIf ∨ (hd ts).text = wWhile ∨ (hd ts).text = wSend ∨ (hd ts).text = wTimer ∨ (hd ts).text = wCancel ∨ (hd ts).text = wSync ∨ (hd ts).text = wStop ∨ (hd ts).text = wReply ∨ (hd ts).text = wFail
  ·exact jta hlv hex gex hbl gbl ts h _ hn (jsx ex bl ts hn hw) hw
  ·rw [jty ex bl ts hn hw];exact jtx nm lv ts h hn hw
def GoesS (op : List Tk -> Pn) : Prop := ∀ ts f r, TkP ts -> op ts = .ok f r -> TkP r /\ r.length < ts.length
theorem GoesS.goes {op : List Tk -> Pn} (h : GoesS op) : jaX op := fun ts f r k e => ⟨(h ts f r k e).1, Nat.le_of_lt (h ts f r k e).2⟩
theorem jmF {lim : Int} {ts : List Tk} {k : Int -> List Tk -> Pn} {f : Nt} {r : List Tk} (h : jgL lim ts k = .ok f r) : (hd ts).kind = 2 /\ k (hd ts).n ts.tail = .ok f r := by
 unfold jgL at h
 split at h
 ·cases h
 ·split at h
  ·cases h
  ·rename_i h1 h2
   exact ⟨Decidable.not_not.1 h1, h⟩
theorem jdk {ts : List Tk} (h : jeL ts = true) : (hd ts).kind = 1 := by
 have h2 : (decide ((hd ts).kind = 1) && !(keyL ++ builtL).any fun s => decide ((hd ts).text = s)) = true := h
 exact of_decide_eq_true (Bool.and_eq_true_iff.1 h2).1
theorem jdH {c : Prop} [Decidable c] {a b x : Pn} (h : (if c then a else b) = x) : (c /\ a = x) ∨ (¬ c /\ b = x) := by
 by_cases hc : c
 ·rw [if_pos hc] at h; exact .inl ⟨hc, h⟩
 ·rw [if_neg hc] at h; exact .inr ⟨hc, h⟩
theorem jkd {ex bl : List Tk -> Pn} (gex : jaX ex) (gbl : jaX bl) : GoesS (stG ex bl) := fun ts f r h e => by
 unfold stG at e
 rcases jdH e with ⟨hn, e⟩ | ⟨hn, e⟩
 ·obtain ⟨q1, q2⟩ := h.tail (by rw [jdk hn]; decide)
  obtain ⟨i, e⟩ := jcv e
  obtain ⟨g1, l1⟩ := q1.is i
  obtain ⟨_, _, i, e⟩ := jap e
  obtain ⟨g2, l2⟩ := gex _ _ _ g1 i
  obtain ⟨i, e⟩ := jcv e
  obtain ⟨g3, l3⟩ := g2.is i
  cases e
  exact ⟨g3, by omega⟩
 rcases jdH e with ⟨hk, e⟩ | ⟨hk, e⟩
 ·cases e
 obtain ⟨q1, q2⟩ := h.tail (by rw [Decidable.not_not.1 hk]; decide)
 rcases jdH e with ⟨_, e⟩ | ⟨_, e⟩
 ·obtain ⟨_, _, i, e⟩ := jap e
  obtain ⟨g1, l1⟩ := gex _ _ _ q1 i
  obtain ⟨_, _, i, e⟩ := jap e
  obtain ⟨g2, l2⟩ := gbl _ _ _ g1 i
  rcases jdH e with ⟨hs, e⟩ | ⟨hs, e⟩
  ·obtain ⟨g3, l3⟩ := g2.is hs
   obtain ⟨_, _, i, e⟩ := jap e
   obtain ⟨g4, l4⟩ := gbl _ _ _ g3 i
   cases e
   exact ⟨g4, by omega⟩
  ·cases e
   exact ⟨g2, by omega⟩
 rcases jdH e with ⟨_, e⟩ | ⟨_, e⟩
 ·obtain ⟨_, _, i, e⟩ := jap e
  obtain ⟨g1, l1⟩ := gex _ _ _ q1 i
  obtain ⟨_, _, i, e⟩ := jap e
  obtain ⟨g2, l2⟩ := gbl _ _ _ g1 i
  cases e
  exact ⟨g2, by omega⟩
 rcases jdH e with ⟨_, e⟩ | ⟨_, e⟩
 ·obtain ⟨_, _, i, e⟩ := jap e
  obtain ⟨g1, l1⟩ := gex _ _ _ q1 i
  obtain ⟨i, e⟩ := jcv e
  obtain ⟨g2, l2⟩ := g1.is i
  obtain ⟨i, e⟩ := jmF e
  obtain ⟨g3, l3⟩ := g2.tail (by rw [i]; decide)
  obtain ⟨i, e⟩ := jcv e
  obtain ⟨g4, l4⟩ := g3.is i
  obtain ⟨_, _, i, e⟩ := jap e
  obtain ⟨g5, l5⟩ := gex _ _ _ g4 i
  obtain ⟨i, e⟩ := jcv e
  obtain ⟨g6, l6⟩ := g5.is i
  obtain ⟨_, _, i, e⟩ := jap e
  obtain ⟨g7, l7⟩ := gex _ _ _ g6 i
  obtain ⟨i, e⟩ := jcv e
  obtain ⟨g8, l8⟩ := g7.is i
  cases e
  exact ⟨g8, by omega⟩
 rcases jdH e with ⟨_, e⟩ | ⟨_, e⟩
 ·obtain ⟨i, e⟩ := jmF e
  obtain ⟨g3, l3⟩ := q1.tail (by rw [i]; decide)
  obtain ⟨i, e⟩ := jcv e
  obtain ⟨g4, l4⟩ := g3.is i
  cases e
  exact ⟨g4, by omega⟩
 rcases jdH e with ⟨_, e⟩ | ⟨_, e⟩
 ·obtain ⟨i, e⟩ := jmF e
  obtain ⟨g3, l3⟩ := q1.tail (by rw [i]; decide)
  obtain ⟨i, e⟩ := jcv e
  obtain ⟨g4, l4⟩ := g3.is i
  cases e
  exact ⟨g4, by omega⟩
 rcases jdH e with ⟨_, e⟩ | ⟨_, e⟩
 ·obtain ⟨i, e⟩ := jcv e
  obtain ⟨g4, l4⟩ := q1.is i
  cases e
  exact ⟨g4, by omega⟩
 rcases jdH e with ⟨_, e⟩ | ⟨_, e⟩
 ·obtain ⟨_, _, i, e⟩ := jap e
  obtain ⟨g1, l1⟩ := gex _ _ _ q1 i
  obtain ⟨i, e⟩ := jcv e
  obtain ⟨g2, l2⟩ := g1.is i
  obtain ⟨_, _, i, e⟩ := jap e
  obtain ⟨g3, l3⟩ := gex _ _ _ g2 i
  obtain ⟨i, e⟩ := jcv e
  obtain ⟨g4, l4⟩ := g3.is i
  cases e
  exact ⟨g4, by omega⟩
 rcases jdH e with ⟨_, e⟩ | ⟨_, e⟩
 ·obtain ⟨_, _, i, e⟩ := jap e
  obtain ⟨g1, l1⟩ := gex _ _ _ q1 i
  obtain ⟨i, e⟩ := jcv e
  obtain ⟨g2, l2⟩ := g1.is i
  cases e
  exact ⟨g2, by omega⟩
 rcases jdH e with ⟨_, e⟩ | ⟨_, e⟩
 ·obtain ⟨i, e⟩ := jcv e
  obtain ⟨g4, l4⟩ := q1.is i
  cases e
  exact ⟨g4, by omega⟩
 ·cases e
theorem jlt {st : List Tk -> Pn} (gst : GoesS st) : ∀ (n : Nat) (acc : List Nt) (ts : List Tk) (f : Nt) (r : List Tk), TkP ts -> ji3 st n acc ts = .ok f r -> TkP r /\ r.length <= ts.length
 | 0, acc, ts, f, r, h, e => by cases e
 | n + 1, acc, ts, f, r, h, e => by
  rw [ji3] at e
  split at e
  ·rename_i hs
   obtain ⟨g1, l1⟩ := h.is hs
   cases e
   exact ⟨g1, by omega⟩
  ·obtain ⟨_, _, i, e⟩ := jap e
   obtain ⟨g1, l1⟩ := gst _ _ _ h i
   obtain ⟨g2, l2⟩ := jlt gst n _ _ _ _ g1 e
   exact ⟨g2, by omega⟩
theorem jql {st : List Tk -> Pn} (gst : GoesS st) : GoesS (bkF st) := fun ts f r h e => by
 unfold bkF at e
 obtain ⟨i, e⟩ := jcv e
 obtain ⟨g1, l1⟩ := h.is i
 obtain ⟨g2, l2⟩ := jlt gst _ _ _ _ _ g1 e
 exact ⟨g2, by omega⟩
theorem jdn {low : Option Pa} (hl : jkm low) : jaX (jx5 low) := by
 cases low with
 | none =>
  intro ts f r h e
  have e2 : (if isP pLb ts = true then Pn.bad (hd ts).pos 2 else .bad (hd ts).pos 10) = .ok f r := e
  split at e2 <;> cases e2
 | some p => exact (hl p rfl).2.2.2
theorem jng {low : Option Pa} (hl : jkm low) : jkm (some (paG low)) := fun p hp => by
 cases hp
 exact ⟨jen hl, jel hl, jdz hl, (jql (jkd (jdz hl) (jdn hl))).goes⟩
theorem jlv {nm : List ByteArray} {lv : Int} {low : Option Pa} (h : LowQ nm lv low) : jbl nm 70 (lv + 1) (jx5 low) := by
 obtain ⟨h0, ⟨rfl, rfl⟩ | ⟨p, rfl, h1, a, b, c, d, e, f, g, i⟩⟩ := h
 ·exact jpF nm
 ·exact i
theorem jnY {nm : List ByteArray} {lv : Int} {low : Option Pa} (h0 : 0 <= lv) (h1 : lv + 1 <= 20) (h : LowQ nm (lv + 1) low) : LowQ nm lv (some (paG low)) := by
 have hg := h.goes
 obtain ⟨a, b, c, d⟩ := jng hg _ rfl
 have hst := jif (lv := lv + 1) ⟨by omega, h1⟩ (jly h) (jdz hg) (jlv h) (jdn hg)
 have gst := jkd (jdz hg) (jdn hg)
 exact ⟨h0, .inr ⟨_, rfl, h1, a, b, c, d, joR h, jj7 h, jly h, jt3 ⟨by omega, h1⟩ hst gst.goes fun ts f r k e => (gst ts f r k e).2⟩⟩
theorem jpT (nm : List ByteArray) : ∀ d : Nat, d <= 19 -> LowQ nm (19 - d) (some (pa d))
 | 0, _ => jnY (by decide) (by decide) ⟨by decide, .inl ⟨rfl, rfl⟩⟩
 | d + 1, h => by
  have ih := jpT nm d (by omega)
  refine jnY (by omega) (by omega) ?_;rw [show (19 - ((d + 1 : Nat) : Int) + 1) = 19 - (d : Int) by push_cast; omega];exact ih
theorem jn8 (nm : List ByteArray) : jbl nm 70 1 (pa 19).bl := jlv (jpT nm 19 (by decide))
theorem jgY : GoesS (pa 19).bl := by
 have h := (jpT [] 18 (by decide)).goes
 exact jql (jkd (jdz h) (jdn h))
theorem jhX (l : List ByteArray) (s : ByteArray) (hl : l.length <= 1000000) : Spec Tryz.prog 82 [] [.sl 1 l.length (txA l), jaS s] fun _ r => r = jbI (jcF l s) := by
 have hi := jfG l s hl
 refine ja5 (ja2 jal xs0 0) (fun _ _ h => h) Tryz.func82 rfl (by kernel_rfl) rfl (by kernel_rfl) ?_;intro _;conv => whnf
 refine ja9 [] rfl (fun _ => hi) ?_;rintro r ⟨n, hn, hq, rfl⟩;conv => whnf
 rw [hq];rfl
def deH (n : Nat) (nm out : List ByteArray) (ts : List Tk) : Pd :=
 if isP pComma ts = true then jit n nm out ts else if isP pSemi ts = true then .ok nm out ts.tail else .bad (hd ts).pos 10
theorem jjK (n : Nat) (nm out : List ByteArray) (ts : List Tk) : jit (n + 1) nm out ts =
  (if jeL ts.tail = false then .bad (hd ts.tail).pos 10
  else if jcF nm (hd ts.tail).text = true then .bad (hd ts.tail).pos 4
  else if nm.length = 16 then .bad (hd ts.tail).pos 2
  else deH n (nm ++ [(hd ts.tail).text]) (out ++ [(hd ts.tail).text]) ts.tail.tail) := rfl
def pdQ (p : Pd) (ch : List PanicEntry) : Prop := match p with
 | .bad x e => ch = jaC x e
 | _ => False
theorem jh3 {p : Pd} {x e : Int} {ch : List PanicEntry} (h : p = .bad x e) (k : ch = jaC x e) : pdQ p ch := by subst h; exact k
def doQ (p : Pd) (o : List (List A)) (n : Nat) (cs : List A) (r : A) : Prop := match p with
 | .ok nm out ts => o = [bxN ts ++ [.own 0]] /\ n = nm.length /\ cs = txA nm /\ r = .sl 1 out.length (txA out)
 | _ => False
theorem jnQ (l : List ByteArray) (s : ByteArray) : txA (l ++ [s]) = txA l ++ [jaS s] := by unfold txA; rw [List.map_append]; rfl
set_option maxHeartbeats 1000000 in
theorem jkG (nm : List ByteArray) (ts : List Tk) (h : TkP ts) (hk : (hd ts).kind ≠ 0) (hl16 : nm.length <= 16) :
  SpecRP Tryz.prog 67 [bxN ts ++ [.own 0]] 9 1 nm.length (txA nm) [.box 0 0] (doQ (jit ts.length nm [] ts)) (pdQ (jit ts.length nm [] ts)) := by
 obtain ⟨P, hP⟩ : ∃ P, jit ts.length nm [] ts = P := ⟨_, rfl⟩
 rw [hP]
 have hb0 := h.1.2
 refine jan (jat jal xs0 1 (fun ch _ => (pdQ P) ch)) (fun _ _ h => h) Tryz.func67 rfl (by kernel_rfl) rfl (by kernel_rfl) ?_;intro _;conv => whnf
 refine jcM 9 1 [3] [] ?_;conv => whnf
 refine ⟨trivial, ?_⟩;conv => whnf
 refine jak [0, 3] ?_;conv => whnf
 refine jaJ (fun x : Nat × Bool × List ByteArray × List ByteArray × List Tk => [(4, .v (.bool x.2.1))]) (fun x => [bxN x.2.2.2.2 ++ [.own 0]]) (fun x => [.live 9 1 x.2.2.1.length (txA x.2.2.1), .live 9 1 x.2.2.2.1.length (txA x.2.2.2.1)])
  (fun x => TkP x.2.2.2.2 /\ x.2.2.2.2.length <= x.1 /\ x.2.2.1.length <= 16 /\ x.2.2.2.1.length + x.2.2.2.2.length <= 1000001 /\ (x.2.1 = true -> (hd x.2.2.2.2).kind ≠ 0 /\ jit x.1 x.2.2.1 x.2.2.2.1 x.2.2.2.2 = P) /\ (x.2.1 = false -> deH x.1 x.2.2.1 x.2.2.2.1 x.2.2.2.2 = P)) (fun x => x.2.2.2.2.length) (ts.length, true, nm, [], ts) ?_ ⟨h, Nat.le_refl _, hl16, by simp only [List.length_nil]; omega, fun _ => ⟨hk, hP⟩, fun e => by cases e⟩ ?_
 ·repeat' constructor
 rintro ⟨n0, b, nm1, out, ts0⟩ ⟨g1, g2, g3, g4, g5, g6⟩
 simp only at g1 g2 g3 g4 g5 g6
 conv => whnf
 cases b with
 | true =>
  obtain ⟨g7, hP⟩ := g5 rfl
  obtain ⟨n, rfl⟩ : ∃ n, n0 = n + 1 := ⟨n0 - 1, by have := g1.pos; omega⟩
  rw [jjK] at hP
  obtain ⟨q1, q2⟩ := g1.tail g7
  have hnx := jiQ ts0 g1.pos
  have hp1 := q1.pos
  generalize hd ts0 = t0 at *;generalize ts0.tail = ts1 at *;conv => whnf
  refine jaI 0 0 2 [] rfl rfl rfl rfl rfl rfl rfl (fun _ => (hnx).rp rfl rfl _ _ _ _) (fun ch bx' hp => hp.elim) ?_;rintro o n' cs' r ⟨c, ho, rfl, rfl, rfl, rfl⟩;cases ho;conv => whnf
  have hnm := jqs ts1 hp1 q1.hd q1.good.1
  refine jaI 0 2 3 [] rfl rfl rfl rfl rfl rfl rfl (fun _ => (hnm).rp rfl rfl _ _ _ _) (fun ch bx' hp => hp.elim) ?_;rintro o n' cs' r ⟨c, ho, rfl, rfl, rfl, rfl⟩;cases ho;conv => whnf
  cases hn : jeL ts1 with
  | false =>
   rw [if_pos hn] at hP;conv => whnf
   refine jaI 0 3 4 [] rfl rfl rfl rfl rfl rfl rfl (fun _ => (jgh ts1 hp1 10).rp rfl rfl _ _ _ _) (fun ch bx' hp _ _ => jh3 hP.symm hp) ?_;rintro o n' cs' r ⟨c, ho, _, _, ⟨⟩⟩
  | true =>
   rw [if_neg (by rw [hn]; simp)] at hP
   have hr1 := jdI hp1
   obtain ⟨q4, q5⟩ := q1.tail (by rw [jdk hn]; decide)
   have hnx2 := jiQ ts1 hp1
   have hz1 := q1.good.1
   generalize hts2 : ts1.tail = ts2 at *;generalize ht1 : hd ts1 = t1 at *
   have hct := jhX nm1 t1.text (by omega)
   conv => whnf
   (refine goA ?_; try with_reducible exact trivial)
   (generalize hrq : jae _ _ (jer ts1) = rq; obtain rfl : rq = tkL t1 := hrq.symm.trans (hr1); clear hrq; conv => whnf)
   refine jz9 [3] rfl (fun _ => hct) ?_;rintro r rfl;refine ⟨_, rfl, ?_⟩;conv => whnf
   cases hh : jcF nm1 t1.text with
   | true =>
    rw [if_pos hh] at hP;rw [<- ht1] at hP;conv => whnf
    refine jaI 0 3 4 [] rfl rfl rfl rfl rfl rfl rfl (fun _ => (jgh ts1 hp1 4).rp rfl rfl _ _ _ _) (fun ch bx' hp _ _ => jh3 hP.symm hp) ?_;rintro o n' cs' r ⟨c, ho, _, _, ⟨⟩⟩
   | false =>
    rw [if_neg (by rw [hh]; simp)] at hP;conv => whnf
    by_cases h16 : nm1.length = 16
    ·rw [decide_eq_true (show (nm1.length : Int) = 16 by omega)];rw [if_pos h16] at hP;rw [<- ht1] at hP;conv => whnf
     refine jaI 0 3 4 [] rfl rfl rfl rfl rfl rfl rfl (fun _ => (jgh ts1 hp1 2).rp rfl rfl _ _ _ _) (fun ch bx' hp _ _ => jh3 hP.symm hp) ?_;rintro o n' cs' r ⟨c, ho, _, _, ⟨⟩⟩
    ·rw [decide_eq_false (show ¬ (nm1.length : Int) = 16 by omega)];rw [if_neg h16] at hP;conv => whnf
     refine ⟨⟨by simp only; unfold maxLen; omega, by simp only; omega⟩, ?_⟩;conv => whnf
     refine ⟨⟨by simp only; unfold maxLen; omega, by simp only; omega⟩, ?_⟩;conv => whnf
     refine jaI 0 3 6 [] rfl rfl rfl rfl rfl rfl rfl (fun _ => (hnx2).rp rfl rfl _ _ _ _) (fun ch bx' hp => hp.elim) ?_;rintro o n' cs' r ⟨c, ho, rfl, rfl, rfl, rfl⟩;cases ho;conv => whnf
     refine ⟨(n, false, nm1 ++ [t1.text], out ++ [t1.text], ts2), jas [6, 1] ?_, ⟨q4, by simp only; omega, by simp only [List.length_append, List.length_cons, List.length_nil]; omega, by simp only [List.length_append, List.length_cons, List.length_nil]; omega, fun e => (by cases e), fun _ => hP⟩, by simp only; omega⟩;conv => whnf
     simp only [List.length_append, List.length_cons, List.length_nil, jnQ]
     repeat' constructor
 | false =>
  have hP := g6 rfl
  have hpos := g1.pos
  have hcm := jzv ts0 hpos pComma
  conv => whnf
  refine jaI 0 0 2 [] rfl rfl rfl rfl rfl rfl rfl (fun _ => (hcm).rp rfl rfl _ _ _ _) (fun ch bx' hp => hp.elim) ?_;rintro o n' cs' r ⟨c, ho, rfl, rfl, rfl, rfl⟩;cases ho;conv => whnf
  unfold deH at hP
  cases hq : isP pComma ts0 with
  | true =>
   rw [if_pos hq] at hP
   obtain ⟨n, rfl⟩ : ∃ n, n0 = n + 1 := ⟨n0 - 1, by omega⟩
   rw [jjK] at hP
   obtain ⟨q1, q2⟩ := g1.is hq
   have hnx := jiQ ts0 hpos
   have hp1 := q1.pos
   generalize hd ts0 = t0 at *;generalize ts0.tail = ts1 at *;conv => whnf
   refine jaI 0 2 3 [] rfl rfl rfl rfl rfl rfl rfl (fun _ => (hnx).rp rfl rfl _ _ _ _) (fun ch bx' hp => hp.elim) ?_;rintro o n' cs' r ⟨c, ho, rfl, rfl, rfl, rfl⟩;cases ho;conv => whnf
   have hnm := jqs ts1 hp1 q1.hd q1.good.1
   refine jaI 0 3 4 [] rfl rfl rfl rfl rfl rfl rfl (fun _ => (hnm).rp rfl rfl _ _ _ _) (fun ch bx' hp => hp.elim) ?_;rintro o n' cs' r ⟨c, ho, rfl, rfl, rfl, rfl⟩;cases ho;conv => whnf
   cases hn : jeL ts1 with
   | false =>
    rw [if_pos hn] at hP;conv => whnf
    refine jaI 0 4 5 [] rfl rfl rfl rfl rfl rfl rfl (fun _ => (jgh ts1 hp1 10).rp rfl rfl _ _ _ _) (fun ch bx' hp _ _ => jh3 hP.symm hp) ?_;rintro o n' cs' r ⟨c, ho, _, _, ⟨⟩⟩
   | true =>
    rw [if_neg (by rw [hn]; simp)] at hP
    have hr1 := jdI hp1
    obtain ⟨q4, q5⟩ := q1.tail (by rw [jdk hn]; decide)
    have hnx2 := jiQ ts1 hp1
    have hz1 := q1.good.1
    generalize hts2 : ts1.tail = ts2 at *;generalize ht1 : hd ts1 = t1 at *
    have hct := jhX nm1 t1.text (by omega)
    conv => whnf
    (refine goA ?_; try with_reducible exact trivial)
    (generalize hrq : jae _ _ (jer ts1) = rq; obtain rfl : rq = tkL t1 := hrq.symm.trans (hr1); clear hrq; conv => whnf)
    refine jz9 [4] rfl (fun _ => hct) ?_;rintro r rfl;refine ⟨_, rfl, ?_⟩;conv => whnf
    cases hh : jcF nm1 t1.text with
    | true =>
     rw [if_pos hh] at hP;rw [<- ht1] at hP;conv => whnf
     refine jaI 0 4 5 [] rfl rfl rfl rfl rfl rfl rfl (fun _ => (jgh ts1 hp1 4).rp rfl rfl _ _ _ _) (fun ch bx' hp _ _ => jh3 hP.symm hp) ?_;rintro o n' cs' r ⟨c, ho, _, _, ⟨⟩⟩
    | false =>
     rw [if_neg (by rw [hh]; simp)] at hP;conv => whnf
     by_cases h16 : nm1.length = 16
     ·rw [decide_eq_true (show (nm1.length : Int) = 16 by omega)];rw [if_pos h16] at hP;rw [<- ht1] at hP;conv => whnf
      refine jaI 0 4 5 [] rfl rfl rfl rfl rfl rfl rfl (fun _ => (jgh ts1 hp1 2).rp rfl rfl _ _ _ _) (fun ch bx' hp _ _ => jh3 hP.symm hp) ?_;rintro o n' cs' r ⟨c, ho, _, _, ⟨⟩⟩
     ·rw [decide_eq_false (show ¬ (nm1.length : Int) = 16 by omega)];rw [if_neg h16] at hP;conv => whnf
      refine ⟨⟨by simp only; unfold maxLen; omega, by simp only; omega⟩, ?_⟩;conv => whnf
      refine ⟨⟨by simp only; unfold maxLen; omega, by simp only; omega⟩, ?_⟩;conv => whnf
      refine jaI 0 4 7 [] rfl rfl rfl rfl rfl rfl rfl (fun _ => (hnx2).rp rfl rfl _ _ _ _) (fun ch bx' hp => hp.elim) ?_;rintro o n' cs' r ⟨c, ho, rfl, rfl, rfl, rfl⟩;cases ho;conv => whnf
      refine ⟨(n, false, nm1 ++ [t1.text], out ++ [t1.text], ts2), jas [7, 1] ?_, ⟨q4, by simp only; omega, by simp only [List.length_append, List.length_cons, List.length_nil]; omega, by simp only [List.length_append, List.length_cons, List.length_nil]; omega, fun e => (by cases e), fun _ => hP⟩, by simp only; omega⟩;conv => whnf
      simp only [List.length_append, List.length_cons, List.length_nil, jnQ]
      repeat' constructor
  | false =>
   rw [if_neg (by rw [hq]; simp)] at hP;conv => whnf
   refine jaI 0 2 3 [] rfl rfl rfl rfl rfl rfl rfl (fun _ => (jox ts0 hpos pSemi).rp rfl rfl _ _ _ _) (fun ch bx' hp _ _ => ?_) ?_
   ·rw [if_neg (by rw [hp.1]; simp)] at hP;exact jh3 hP.symm hp.2
   rintro o n' cs' r ⟨c, ho, rfl, rfl, hs, rfl, rfl⟩;cases ho;rw [if_pos hs] at hP;subst hP;conv => whnf
   refine ⟨3, ?_⟩;conv => whnf
   exact ⟨rfl, rfl, rfl, rfl⟩
end Go.Proofs.YtmodkpibkkpcdaaGreatDoor.Vm
namespace Go.Proofs.YtmodkpibkkpcdaaGreatDoor.Vm
open Go.RowKit
set_option linter.unusedSimpArgs false
set_option linter.unusedVariables false
set_option linter.unusedSectionVars false
@[irreducible] def mkA (l : List (Int × A)) : List A := l.map fun p => .v (.int .i64 p.1)
@[irreducible] def mkV (l : List (Int × A)) : List Value := l.map fun p => .int .i64 p.1
@[irreducible] def mvA (l : List (Int × A)) : List A := l.map (·.2)
theorem jwP : mkA [] = [] := by unfold mkA; rfl
theorem jwl : mvA [] = [] := by unfold mvA; rfl
theorem jiL (l : List (Int × A)) {K : List Value -> Prop} (h : K (mkV l)) : jib (mkA l) K := by
 unfold mkV at h;unfold mkA
 induction l generalizing K with
 | nil => exact h
 | cons p l ih =>
  rw [List.map_cons]
  show jib (l.map _) fun r => K (.int .i64 p.1 :: r)
  exact ih (K := fun r => K (.int .i64 p.1 :: r)) h
def jcI (l : List (Int × A)) (k : Int) : Option A := (l.find? fun p => decide (k = p.1)).map (·.2)
theorem jc5 (l : List (Int × A)) (k : Int) {K : A -> Prop} {n : Prop} (h : match jcI l k with | some a => K a | none => n) : jg5 false (mkV l) (mvA l) (.int .i64 k) K n := by
 unfold mkV mvA
 induction l with
 | nil => exact h
 | cons p l ih =>
  rw [List.map_cons, List.map_cons]
  show ifK (decide (k = p.1)) (jbM p.2 K) (jg5 false (l.map _) (l.map (·.2)) (.int .i64 k) K n)
  rw [ifK_iff]
  by_cases e : k = p.1
  ·refine ⟨fun _ => ?_, fun e2 => by rw [decide_eq_true e] at e2; cases e2⟩
   have : jcI (p :: l) k = some p.2 := by unfold jcI; rw [List.find?_cons_of_pos (by simpa using e)]; rfl
   rw [this] at h;exact force_iff.2 h
  ·refine ⟨fun e2 => absurd (of_decide_eq_true e2) e, fun _ => ih ?_⟩
   have : jcI (p :: l) k = jcI l k := by unfold jcI; rw [List.find?_cons_of_neg (by simpa using e)]
   rw [<- this]; exact h
theorem jse {l : List (Int × A)} {k : Int} {x : A} {n : Nat} {K : List A -> List A -> Nat -> Prop} (hk : ∀ p ∈ l, k ≠ p.1) (h : K (mkA (l ++ [(k, x)])) (mvA (l ++ [(k, x)])) (n + 1)) : jx2 false (.int .i64 k) x (mkA l) (mvA l) n K := by
 unfold mkA mvA at h;unfold mkA mvA
 induction l generalizing K with
 | nil => exact h
 | cons p l ih =>
  rw [List.map_cons, List.map_cons]
  show ifK (decide (k = p.1)) _ (jx2 false (.int .i64 k) x (l.map _) (l.map (·.2)) n fun ks' vs' n' => K (.v (.int .i64 p.1) :: ks') (p.2 :: vs') n')
  rw [ifK_iff];refine ⟨fun e => absurd (of_decide_eq_true e) (hk p List.mem_cons_self), fun _ => ih (K := fun ks' vs' n' => K (.v (.int .i64 p.1) :: ks') (p.2 :: vs') n') (fun q hq => hk q (List.mem_cons_of_mem _ hq)) h⟩
section
mutual
def jrX : A -> Bool
 | .mp _ _ => false
 | .sl _ _ cs => jcn cs
 | .pp cs => jcn cs
 | .clo _ l => jcn l
 | .bm _ l => jcn l
 | .agg l => jcn l
 | .tup l => jcn l
 | _ => true
def jcn : List A -> Bool
 | [] => true
 | a :: r => jrX a && jcn r
end
theorem noMpL_iff : ∀ {l : List A}, jcn l = true ↔ ∀ a ∈ l, jrX a = true
 | [] => by unfold jcn; simp
 | a :: r => by
  unfold jcn;rw [Bool.and_eq_true, noMpL_iff]; simp
theorem jpO {l : List A} (h : jcn l = true) : jcn (unH l) = true := by
 cases l with
 | nil => exact h
 | cons a l => cases a <;> exact h
def jyp (D C : Rd) : Prop := ∀ b o u, D ⟨b, o, none⟩ = some u -> C ⟨b, o, none⟩ = some u
section
variable {D C : Rd} (hC : jyp D C)
include hC
mutual
theorem jgG : ∀ (a : A) {β : List Nat} {ρ : List Value} {y : Value}, jrX a = true -> a.rep ⟨D, β, ρ⟩ y -> a.rep ⟨C, β, ρ⟩ y
 | .dead, _, _, _, _, h => by unfold A.rep; trivial
 | .v x, _, _, _, _, h => by unfold A.rep at h ⊢; exact h
 | .sl k n cs, _, _, _, hm, h => by
  unfold A.rep at h ⊢
  obtain ⟨h1, h2, p, b, off, cap, h3, h4, h6, h7, h8⟩ := h
  exact ⟨h1, h2, p, b, off, cap, h3, h4, h6, h7, jmm cs (by unfold jrX at hm; exact hm) h8⟩
 | .own g, _, _, _, _, h => by unfold A.rep at h ⊢; exact h
 | .orow g off, _, _, _, _, h => by unfold A.rep at h ⊢; exact h
 | .box i off, _, _, _, _, h => by unfold A.rep at h ⊢; exact h
 | .pp cs, _, _, _, hm, h => by
  unfold A.rep at h ⊢
  obtain ⟨b, off, h1, h2⟩ := h
  exact ⟨b, off, h1, jmm cs (by unfold jrX at hm; exact hm) h2⟩
 | .gp _ _, _, _, _, _, h => by unfold A.rep at h ⊢; exact h
 | .adr _, _, _, _, _, h => by unfold A.rep at h; exact h.elim
 | .err, _, _, _, _, h => by unfold A.rep at h ⊢; exact h
 | .num, _, _, _, _, h => by unfold A.rep at h ⊢; exact h
 | .clo f caps, _, _, _, hm, h => by
  unfold A.rep at h ⊢
  obtain ⟨us, h1, h2⟩ := h
  exact ⟨us, h1, jnZ caps (by unfold jrX at hm; exact hm) h2⟩
 | .bm f fs, _, _, _, hm, h => by
  unfold A.rep at h ⊢
  obtain ⟨us, h1, h2⟩ := h
  exact ⟨us, h1, jnZ fs (by unfold jrX at hm; exact hm) h2⟩
 | .mp ks vs, _, _, _, hm, h => by unfold jrX at hm; cases hm
 | .agg l, _, _, _, hm, h => by
  unfold A.rep at h ⊢
  obtain ⟨us, h1, h2⟩ := h
  exact ⟨us, h1, jrw l (by unfold jrX at hm; exact hm) h2⟩
 | .tup l, _, _, _, hm, h => by
  unfold A.rep at h ⊢
  obtain ⟨us, h1, h2⟩ := h
  exact ⟨us, h1, jnZ l (by unfold jrX at hm; exact hm) h2⟩
theorem jmm : ∀ (l : List A) {β : List Nat} {ρ : List Value} {b off : Nat}, jcn l = true -> A.repAt l ⟨D, β, ρ⟩ b off -> A.repAt l ⟨C, β, ρ⟩ b off
 | [], _, _, _, _, _, _ => by unfold A.repAt; trivial
 | a :: ar, _, _, _, _, hm, h => by
  unfold jcn at hm;rw [Bool.and_eq_true] at hm;unfold A.repAt at h ⊢
  obtain ⟨⟨u, h1, h2, h3⟩, h4⟩ := h
  exact ⟨⟨u, hC _ _ _ h1, h2, jgG a hm.1 h3⟩, jmm ar hm.2 h4⟩
theorem jnZ : ∀ (l : List A) {β : List Nat} {ρ : List Value} {us : List Value}, jcn l = true -> A.repL l ⟨D, β, ρ⟩ us -> A.repL l ⟨C, β, ρ⟩ us
 | [], _, _, _, _, h => by unfold A.repL at h ⊢; exact h
 | a :: ar, _, _, _, hm, h => by
  unfold jcn at hm;rw [Bool.and_eq_true] at hm;unfold A.repL at h ⊢
  obtain ⟨u, us', h1, h2, h3⟩ := h
  exact ⟨u, us', h1, jgG a hm.1 h2, jnZ ar hm.2 h3⟩
theorem jrw : ∀ (l : List A) {β : List Nat} {ρ : List Value} {us : List Value}, jcn l = true -> A.repC l ⟨D, β, ρ⟩ us -> A.repC l ⟨C, β, ρ⟩ us
 | [], _, _, _, _, h => by unfold A.repC at h ⊢; exact h
 | a :: ar, _, _, _, hm, h => by
  unfold jcn at hm;rw [Bool.and_eq_true] at hm;unfold A.repC at h ⊢
  obtain ⟨u, us', h1, h2, h3, h4⟩ := h
  exact ⟨u, us', h1, h2, jgG a hm.1 h3, jrw ar hm.2 h4⟩
end
end
def jpt : A -> A
 | .agg l => .agg (l.map fun _ => .dead)
 | _ => .dead
theorem jlN {F : Env} : ∀ {us : List Value}, (∀ u ∈ us, u.oneCell' = true) -> ∀ {l : List A}, us.length = l.length -> A.repC (l.map fun _ => A.dead) F us
 | [], _, [], _ => by simp [A.repC]
 | u :: us, h, a :: l, hl => by
  rw [List.map_cons];unfold A.repC;exact ⟨u, us, rfl, h u List.mem_cons_self, A.rep_dead _ _, jlN (fun v hv => h v (List.mem_cons_of_mem _ hv)) (by simpa using hl)⟩
 | [], _, _ :: _, hl => by simp at hl
 | _ :: _, _, [], hl => by simp at hl
theorem jqI {a : A} {E F : Env} {y : Value} (h : a.rep E y) : (jpt a).rep F y := by
 cases a with
 | agg l =>
  unfold A.rep at h
  obtain ⟨us, h1, h2⟩ := h
  unfold jpt A.rep;exact ⟨us, h1, jlN (A.repC_one h2) (A.repC_len h2)⟩
 | _ => exact A.rep_dead _ _
theorem jm3 {E F : Env} : ∀ {l : List A} {us : List Value}, A.repL l E us -> A.repL (l.map jpt) F us
 | [], us, h => by unfold A.repL at h; subst h; simp [A.repL]
 | a :: r, us, h => by
  unfold A.repL at h
  obtain ⟨u, us', rfl, h2, h3⟩ := h
  rw [List.map_cons];unfold A.repL;exact ⟨u, us', rfl, jqI h2, jm3 h3⟩
section
variable {P : Program} {pan : List PanicEntry -> S -> Prop} {Xr : Nat -> Bool} {f : Nat} {s : S} {K : A -> S -> Prop} {post : List (List A) -> A -> Prop}
theorem jz1 (i g : Nat) {e n : Nat} {kA vs c0 c1 : List A} {ks : List Value} {pn : List PanicEntry -> Prop} (hX : Xr i = true) (hi : s.bx[i]? = some c0) (hg : s.rw[g]? = some (.live e 0 n [.clo 0 kA, .clo 0 vs])) (hkk : jib kA fun l => l = ks) (h1 : jcC [i] s.rw c0 = some c1)
  (hs : SpecP P f [c1] [.box 0 0, .mp ks (vs.map jpt)] post pn) (hno : ∀ o r, post o r -> (∀ c ∈ o, jcn c = true) /\ jrX r = true)
  (hpn : ∀ ch bx', pn ch -> bx'.length = s.bx.length -> (∀ j, j ≠ i -> bx'[j]? = s.bx[j]?) -> pan ch ⟨s.t, bx', s.rw⟩)
  (hk : ∀ o r, post [o] r -> jpB [i] s.bx [i] [o] fun bx' => jbM (back [i] r) fun r' => jaF s.rw fun rw' => jc7 s bx' rw' (K r')) : jcz P pan Xr f [.box i 0, .own g] s K := by
 unfold jcz
 right; right; right; right; right
 refine ⟨hs.1, fun w0 C0 β0 E w vals hp hargs => ?_⟩
 have hil := (List.getElem?_eq_some_iff.1 hi).1
 unfold A.repL at hargs
 obtain ⟨v0, us0, rfl, hv0, hargs⟩ := hargs
 unfold A.repL at hargs
 obtain ⟨y, us1, rfl, hy, hargs⟩ := hargs
 unfold A.repL at hargs;subst hargs
 have hyg : E.ρ[g]? = some y := by unfold A.rep at hy; exact hy
 obtain ⟨r, es, c, us, rfl, hr, hn, hst, h2, hks, hvs⟩ := jjQ hp hg hyg
 obtain ⟨ks', hke, hka⟩ := jhj hkk
 subst hke
 obtain ⟨hkeys, hok⟩ := hka E.per _ hks
 have hseeM : see w ⟨r, 0, some 0⟩ = some (.tuple #[.tuple ks'.toArray, .tuple us.toArray]) := by
  unfold see jeA;simp only [hr];rw [if_pos hst]
  have q1 : es.map (·.key) = ks'.toArray := by
   apply Array.toList_inj.1
   rw [<- hkeys]; simp
  have q2 : es.map (·.val) = us.toArray := by
   apply Array.toList_inj.1
   rw [<- h2]; simp
  rw [q1, q2]
 have hlen : (vs.map jpt).length = ks'.length := by
  rw [List.length_map, <- A.repL_len hvs, <- h2, <- hkeys]; simp
 have hno0 : ∀ o, see w ⟨r, o, none⟩ = none := fun o => by
  unfold see World.cell?
  simp [hr]
 have hcall := jk5 (Cl := fun vals w1 R => w1 = w -> vals.toList[1]? = some (.map (some r)) -> Calls P f vals w R) (fun h k e1 e2 => Calls.mono (k e1 e2) fun e w' => h e w') (pan := pan) (pn := pn) (X := [i]) (ids := []) (ins := [c1]) (post := post) (Xr := Xr) (args := [.box i 0, .dead]) (args' := [.box 0 0, .dead]) (vs := [v0, .map (some r)]) (K := K) hp
  (by
   unfold A.repL;refine ⟨_, _, rfl, hv0, ?_⟩;unfold A.repL
   exact ⟨_, _, rfl, A.rep_dead _ _, by unfold A.repL; rfl⟩)
  (by simp) (by simpa using hX) (by simpa using hil)
  (by
   have : s.bx.getD i [] = c0 := by simp [List.getD_eq_getElem?_getD, hi]
   simp only [List.map_cons, List.map_nil, this]
   show jeM [i] s.rw [c0] = _
   simp only [jeM, h1])
  (by
   show jcC [i] s.rw [.box i 0, .dead] = _
   simp [jcC, ren, idx])
  (fun _ w1 C β vals1 g0 g1 g2 g3 g4 g5 g6 hw hv => ?_)
  (fun outs r' hp' hl => by
   obtain ⟨o, rfl⟩ : ∃ o, outs = [o] := List.length_eq_one_iff.1 (by simpa using hl)
   exact hk o r' hp')
  (fun ch bx' h h1 h2 => hpn ch bx' h h1 fun j hj => h2 j (by simpa using hj))
 ·exact hcall rfl rfl
 ·subst hw
  obtain ⟨b, rfl⟩ : ∃ b, β = [b] := List.length_eq_one_iff.1 g4.symm
  have hbr : b ≠ r := fun e => by
   obtain ⟨T, arr, hb, _⟩ := g5 0 b c1 rfl rfl
   rw [e, hr] at hb; cases hb
  obtain ⟨C1, hC1⟩ : ∃ C1 : Rd, C1 = fun ad => if ad.block = r then see w1 ad else C ad := ⟨_, rfl⟩
  have sub1 : Sub C C1 := fun ad u hc => by
   rw [hC1]
   simp only
   split
   ·exact g1 ad u hc
   ·exact hc
  have sub2 : Sub C1 (see w1) := fun ad u hc => by
   rw [hC1] at hc
   simp only at hc
   split at hc
   ·exact hc
   ·exact g1 ad u hc
  have hβ1 : ∀ b' ∈ [b], ∀ o sp, C1 ⟨b', o, sp⟩ = none := fun b' hb' o sp => by
   have e : b' = b := by simpa using hb'
   subst e;rw [hC1]
   simp only
   rw [if_neg hbr];exact g3 _ hb' o sp
  have le1 : (⟨C, [b], []⟩ : Env).le ⟨C1, [b], []⟩ := ⟨sub1, fun _ _ h => h, fun _ _ h => h⟩
  unfold A.repL at g6
  obtain ⟨p, l1, rfl, hp0, g6⟩ := g6
  unfold A.repL at g6
  obtain ⟨q, l2, rfl, -, g6⟩ := g6
  unfold A.repL at g6;subst g6
  obtain rfl : q = .map (some r) := by simpa using hv
  have tr : ∀ w', jyp (jbq C1 w1 w') (jbq C w1 w') := fun w' b' o u hc => by
   unfold jbq at hc ⊢
   split
   ·rename_i hlt
    rw [if_pos hlt, hC1] at hc
    simp only at hc
    split at hc
    ·rename_i hbr2
     subst hbr2;rw [hno0] at hc; cases hc
    ·exact hc
   ·rename_i hlt
    rw [if_neg hlt] at hc;exact hc
  refine (hs.2 w1 C1 [b] [p, .map (some r)] (g0.mono sub1) sub2 g2 hβ1 g4 (fun j b' cs hj hcs => (g5 j b' cs hj hcs).mono le1) ?_).mono fun e' w' hh => ?_
  ·unfold A.repL;refine ⟨_, _, rfl, A.rep.mono _ le1 hp0, ?_⟩;unfold A.repL;refine ⟨_, _, rfl, ?_, by unfold A.repL; rfl⟩;unfold A.rep;refine ⟨r, us, rfl, ?_, hlen, jm3 hvs, hok⟩;rw [hC1];simp only [if_true];exact hseeM
  ·rcases hh with ⟨outs, r', v, rfl, hpost, kp, k2, k3, k4⟩ | ⟨ch, ns, k1, k2, kp, k4, k5⟩
   ·obtain ⟨n1, n2⟩ := hno _ _ hpost
    refine .inl ⟨outs, r', v, rfl, hpost, kp, k2, fun j b' cs hj hcs => ?_, jgG (tr w') r' n2 k4⟩
    obtain ⟨T, arr, hh, hbc⟩ := k3 j b' cs hj hcs
    exact ⟨T, arr, hh, jrw (tr w') _ (jpO (n1 cs (List.mem_of_getElem? hcs))) hbc.1, hbc.2⟩
   ·refine .inr ⟨ch, ns, k1, k2, kp, k4, fun j b' n' hj hn' => ?_⟩
    obtain ⟨T, arr, hh, hbc⟩ := k5 j b' n' hj hn'
    exact ⟨T, arr, hh, .mk' (A.repC_mk (jcR (jjF hbc.1)) (by
     have := A.repC_one hbc.1
     exact this))⟩
end
end
end Go.Proofs.YtmodkpibkkpcdaaGreatDoor.Vm
namespace Go.Proofs.YtmodkpibkkpcdaaGreatDoor.Vm
open Go.RowKit Go.Shelf
set_option linter.unusedSimpArgs false
set_option linter.unusedVariables false
set_option maxRecDepth 100000
def haA (h : Int × Nt) : Int × A := (h.1, .agg (jao h.1 :: ntA h.2))
def jfL (l : List (Int × Nt)) : List (Int × A) := l.map haA
def heF (hs : List (Int × Nt)) (ts : List Tk) : Ph := match hnF ts with
 | .bad x e => .bad x e
 | .ok k r => if hs.any (fun h => decide (h.1 = k)) = true then .bad (hd ts).pos 4 else .ok k r
def phQ (p : Ph) (ch : List PanicEntry) : Prop := match p with
 | .bad x e => ch = jaC x e
 | _ => False
theorem jfz {p : Ph} {x e : Int} {ch : List PanicEntry} (h : p = .bad x e) (k : ch = jaC x e) : phQ p ch := by subst h; exact k
def hoQ (nm : List ByteArray) (p : Ph) (o : List (List A)) (r : A) : Prop := match p with
 | .ok k ts => o = [bxQ nm ts] /\ r = jao k
 | _ => False
def haD (h : Int × Nt) : Int × A := (h.1, .agg [.dead, .dead, .dead, .dead, .dead])
def joJ (l : List (Int × Nt)) : List (Int × A) := l.map haD
theorem jtX (l : List (Int × Nt)) : mkV (joJ l) = mkV (jfL l) := by
 unfold mkV joJ jfL;rw [List.map_map, List.map_map]; rfl
theorem jsT (l : List (Int × Nt)) : (mvA (jfL l)).map jpt = mvA (joJ l) := by
 unfold mvA joJ jfL;rw [List.map_map, List.map_map, List.map_map]; rfl
theorem jfp (g : Int × Nt -> Int × A) (hg : ∀ h, (g h).1 = h.1) (hs : List (Int × Nt)) (k : Int) : (hs.any (fun h => decide (h.1 = k)) = true /\ ∃ h ∈ hs, h.1 = k /\ jcI (hs.map g) k = some (g h).2) ∨ (hs.any (fun h => decide (h.1 = k)) = false /\ jcI (hs.map g) k = none) := by
 induction hs with
 | nil => exact .inr ⟨rfl, rfl⟩
 | cons h l ih =>
  by_cases e : h.1 = k
  ·left
   refine ⟨by rw [List.any_cons, decide_eq_true e]; rfl, h, List.mem_cons_self, e, ?_⟩;unfold jcI;rw [List.map_cons, List.find?_cons_of_pos (p := fun p : Int × A => decide (k = p.1)) (show decide (k = (g h).1) = true from decide_eq_true (by rw [hg]; exact e.symm))]; rfl
  ·have hf : jcI ((h :: l).map g) k = jcI (l.map g) k := by
    unfold jcI;rw [List.map_cons, List.find?_cons_of_neg (p := fun p : Int × A => decide (k = p.1)) (show ¬ decide (k = (g h).1) = true by rw [decide_eq_false (fun e2 : k = (g h).1 => e (by rw [e2, hg]))]; simp)]
   rw [hf, List.any_cons, decide_eq_false e, Bool.false_or]
   rcases ih with ⟨h1, x, h2, h3, h4⟩ | ⟨h1, h2⟩
   ·exact .inl ⟨h1, x, List.mem_cons_of_mem _ h2, h3, h4⟩
   ·exact .inr ⟨h1, h2⟩
theorem jlO {α : Type} (f : α -> List A) (hf : ∀ x, jcn (f x) = true) (l : List α) : jcn (l.flatMap f) = true := by
 rw [noMpL_iff];intro a ha
 obtain ⟨x, _, hx⟩ := List.mem_flatMap.1 ha
 exact noMpL_iff.1 (hf x) a hx
theorem jua (nm : List ByteArray) (ts : List Tk) : jcn (bxQ nm ts) = true := by
 have h1 : jcn (jer ts) = true := jlO tkL (fun _ => rfl) ts
 have h2 : jcn (txA nm) = true := by
  unfold txA;rw [jnp];exact jlO (fun x => [jaS x]) (fun _ => rfl) nm
 refine noMpL_iff.2 fun a ha => ?_
 rcases List.mem_cons.1 ha with rfl | ha
 ·exact h1
 ·rw [List.mem_singleton.1 ha]; exact h2
set_option maxHeartbeats 1000000 in
theorem jrh (nm : List ByteArray) (hs : List (Int × Nt)) (ts : List Tk) (h : TkP ts) :
  SpecP Tryz.prog 69 [bxQ nm ts] [.box 0 0, .mp (mkV (joJ hs)) (mvA (joJ hs))] (hoQ nm (heF hs ts)) (phQ (heF hs ts)) := by
 obtain ⟨P, hP⟩ : ∃ P, heF hs ts = P := ⟨_, rfl⟩
 rw [hP]
 have hpos := h.pos
 have his := fun s => jcO nm ts hpos s
 have hnx := jbm nm ts hpos
 have hfl := fun e => jcq nm ts hpos e
 have hps := fun s (hs : isP s ts = true) => h.is hs
 unfold heF hnF at hP;refine jam (jat jal xs0 1 (fun ch _ => (phQ P) ch)) (fun _ _ h => h) Tryz.func69 rfl (by kernel_rfl) rfl (by kernel_rfl) ?_;intro _;conv => whnf
 refine jaa 0 [] rfl rfl rfl rfl (fun _ => his wStart) ?_;rintro o r ⟨ho, rfl⟩;cases ho;conv => whnf
 cases hq1 : isP wStart ts with
 | true =>
  rw [if_pos hq1] at hP
  simp only at hP
  obtain ⟨q1, q2⟩ := hps _ hq1
  conv => whnf
  refine jaa 0 [] rfl rfl rfl rfl (fun _ => hnx) ?_;rintro o r ⟨ho, rfl⟩;cases ho;conv => whnf
  refine jc5 _ _ ?_
  rcases jfp haD (fun _ => rfl) hs (0) with ⟨hany, hx, hm, hek, hf⟩ | ⟨hany, hf⟩
  ·rw [show jcI (joJ hs) _ = _ from hf];rw [if_pos hany] at hP;conv => whnf
   refine ja8 0 [] rfl rfl rfl rfl (fun _ => hfl 4) (fun ch bx' hp => jfz hP.symm hp) ?_;rintro o r ⟨⟩
  ·rw [show jcI (joJ hs) _ = _ from hf];rw [if_neg (by rw [hany]; simp)] at hP;subst hP;conv => whnf
   exact ⟨rfl, rfl⟩
 | false =>
  rw [if_neg (by rw [hq1]; simp)] at hP;conv => whnf
  refine jaa 0 [] rfl rfl rfl rfl (fun _ => his wRequest) ?_;rintro o r ⟨ho, rfl⟩;cases ho;conv => whnf
  cases hq2 : isP wRequest ts with
  | true =>
   rw [if_pos hq2] at hP
   simp only at hP
   obtain ⟨q1, q2⟩ := hps _ hq2
   conv => whnf
   refine jaa 0 [] rfl rfl rfl rfl (fun _ => hnx) ?_;rintro o r ⟨ho, rfl⟩;cases ho;conv => whnf
   refine jc5 _ _ ?_
   rcases jfp haD (fun _ => rfl) hs (1) with ⟨hany, hx, hm, hek, hf⟩ | ⟨hany, hf⟩
   ·rw [show jcI (joJ hs) _ = _ from hf];rw [if_pos hany] at hP;conv => whnf
    refine ja8 0 [] rfl rfl rfl rfl (fun _ => hfl 4) (fun ch bx' hp => jfz hP.symm hp) ?_;rintro o r ⟨⟩
   ·rw [show jcI (joJ hs) _ = _ from hf];rw [if_neg (by rw [hany]; simp)] at hP;subst hP;conv => whnf
    exact ⟨rfl, rfl⟩
  | false =>
   rw [if_neg (by rw [hq2]; simp)] at hP;conv => whnf
   refine jaa 0 [] rfl rfl rfl rfl (fun _ => his wTimer) ?_;rintro o r ⟨ho, rfl⟩;cases ho;conv => whnf
   cases hq : isP wTimer ts with
   | true =>
    rw [if_pos hq] at hP
    obtain ⟨q1, q2⟩ := hps _ hq
    have hnu := jf3 nm ts.tail q1.pos 8
    have hnp := q1.good
    generalize ts.tail = ts1 at *;conv => whnf
    refine jaa 0 [] rfl rfl rfl rfl (fun _ => hnx) ?_;rintro o r ⟨ho, rfl⟩;cases ho;conv => whnf
    refine ja8 0 [] rfl rfl rfl rfl (fun _ => hnu) (fun ch bx' hp => ?_) ?_
    ·unfold jpI at hP
     rcases hp with ⟨h1, h2⟩ | ⟨h1, h2, h3⟩
     ·rw [if_pos h1] at hP;exact jfz hP.symm h2
     ·rw [if_neg (by rw [h1]; simp), if_pos h2] at hP;exact jfz hP.symm h3
    rintro o r ⟨⟨h1, h2⟩, ho, rfl⟩;cases ho;unfold jpI at hP;rw [if_neg (by rw [h1]; simp), if_neg (by omega)] at hP
    simp only at hP
    have hn0 : 0 <= (hd ts1).n := hnp.2.2.2.1
    generalize hd ts1 = t1 at *;conv => whnf
    refine ⟨jaL (by omega), ?_⟩;conv => whnf
    refine jc5 _ _ ?_
    rcases jfp haD (fun _ => rfl) hs (2 + t1.n) with ⟨hany, hx, hm, hek, hf⟩ | ⟨hany, hf⟩
    ·rw [show jcI (joJ hs) _ = _ from hf];rw [if_pos hany] at hP;conv => whnf
     refine ja8 0 [] rfl rfl rfl rfl (fun _ => hfl 4) (fun ch bx' hp => jfz hP.symm hp) ?_;rintro o r ⟨⟩
    ·rw [show jcI (joJ hs) _ = _ from hf];rw [if_neg (by rw [hany]; simp)] at hP;subst hP;conv => whnf
     exact ⟨rfl, rfl⟩
   | false =>
    rw [if_neg (by rw [hq]; simp)] at hP;clear hq;conv => whnf
    refine jaa 0 [] rfl rfl rfl rfl (fun _ => his wMessage) ?_;rintro o r ⟨ho, rfl⟩;cases ho;conv => whnf
    cases hq : isP wMessage ts with
    | true =>
     rw [if_pos hq] at hP
     obtain ⟨q1, q2⟩ := hps _ hq
     have hnu := jf3 nm ts.tail q1.pos 30
     have hnp := q1.good
     generalize ts.tail = ts1 at *;conv => whnf
     refine jaa 0 [] rfl rfl rfl rfl (fun _ => hnx) ?_;rintro o r ⟨ho, rfl⟩;cases ho;conv => whnf
     refine ja8 0 [] rfl rfl rfl rfl (fun _ => hnu) (fun ch bx' hp => ?_) ?_
     ·unfold jpI at hP
      rcases hp with ⟨h1, h2⟩ | ⟨h1, h2, h3⟩
      ·rw [if_pos h1] at hP;exact jfz hP.symm h2
      ·rw [if_neg (by rw [h1]; simp), if_pos h2] at hP;exact jfz hP.symm h3
     rintro o r ⟨⟨h1, h2⟩, ho, rfl⟩;cases ho;unfold jpI at hP;rw [if_neg (by rw [h1]; simp), if_neg (by omega)] at hP
     simp only at hP
     have hn0 : 0 <= (hd ts1).n := hnp.2.2.2.1
     generalize hd ts1 = t1 at *;conv => whnf
     refine ⟨jaL (by omega), ?_⟩;conv => whnf
     refine jc5 _ _ ?_
     rcases jfp haD (fun _ => rfl) hs (10 + t1.n) with ⟨hany, hx, hm, hek, hf⟩ | ⟨hany, hf⟩
     ·rw [show jcI (joJ hs) _ = _ from hf];rw [if_pos hany] at hP;conv => whnf
      refine ja8 0 [] rfl rfl rfl rfl (fun _ => hfl 4) (fun ch bx' hp => jfz hP.symm hp) ?_;rintro o r ⟨⟩
     ·rw [show jcI (joJ hs) _ = _ from hf];rw [if_neg (by rw [hany]; simp)] at hP;subst hP;conv => whnf
      exact ⟨rfl, rfl⟩
    | false =>
     rw [if_neg (by rw [hq]; simp)] at hP;conv => whnf
     refine ja8 0 [] rfl rfl rfl rfl (fun _ => hfl 10) (fun ch bx' hp => jfz hP.symm hp) ?_;rintro o r ⟨⟩
end Go.Proofs.YtmodkpibkkpcdaaGreatDoor.Vm
namespace Go.Proofs.YtmodkpibkkpcdaaGreatDoor.Vm
open Go.RowKit
set_option linter.unusedSimpArgs false
set_option linter.unusedVariables false
section
mutual
def jkn (k n : Nat) (cs : List A) : A -> A
 | .own _ => .sl k n cs
 | .orow _ _ => .dead
 | .clo f caps => .clo f (jug k n cs caps)
 | .bm f fs => .bm f (jug k n cs fs)
 | .mp ks vs => .mp ks vs
 | .agg l => .agg (jug k n cs l)
 | .tup l => .tup (jug k n cs l)
 | .box _ _ => .dead
 | .gp g o => .gp g o
 | .adr T => .adr T
 | .err => .err
 | .num => .num
 | .dead => .dead
 | .v x => .v x
 | .sl k n cs => .sl k n cs
 | .pp cs => .pp cs
def jug (k n : Nat) (cs : List A) : List A -> List A
 | [] => []
 | a :: r => jkn k n cs a :: jug k n cs r
end
section
variable {C D : Rd} {y : Value} {k n : Nat} {cs : List A}
mutual
theorem jnl (hs : Sub C D) (hy : (A.sl k n cs).rep ⟨D, [], []⟩ y) : ∀ (a : A) {v : Value}, a.rep ⟨C, [], [y]⟩ v -> (jkn k n cs a).rep ⟨D, [], []⟩ v
 | .dead, v, h => by unfold jkn; exact A.rep_dead _ _
 | .v x, v, h => by unfold jkn; unfold A.rep at h ⊢; exact h
 | .sl k n cs, v, h => by
  unfold jkn
  have h2 : (A.sl k n cs).rep ⟨C, [], []⟩ v := by unfold A.rep at h ⊢; exact h
  exact A.rep.mono _ (E := ⟨C, [], []⟩) (F := ⟨D, [], []⟩) ⟨hs, fun _ _ h => h, fun _ _ h => h⟩ h2
 | .pp cs, v, h => by
  unfold jkn
  have h2 : (A.pp cs).rep ⟨C, [], []⟩ v := by unfold A.rep at h ⊢; exact h
  exact A.rep.mono _ (E := ⟨C, [], []⟩) (F := ⟨D, [], []⟩) ⟨hs, fun _ _ h => h, fun _ _ h => h⟩ h2
 | .own j, v, h => by
  unfold jkn;unfold A.rep at h
  cases j with
  | zero => simp at h; subst h; exact hy
  | succ j => simp at h
 | .orow j o, v, h => by unfold jkn; exact A.rep_dead _ _
 | .box j o, v, h => by unfold jkn; exact A.rep_dead _ _
 | .gp _ _, v, h => by unfold jkn; unfold A.rep at h ⊢; exact h
 | .adr _, v, h => by unfold A.rep at h; exact h.elim
 | .err, v, h => by unfold jkn; unfold A.rep at h ⊢; exact h
 | .num, v, h => by unfold jkn; unfold A.rep at h ⊢; exact h
 | .clo f caps, v, h => by
  unfold jkn; unfold A.rep at h ⊢
  obtain ⟨us, h1, h2⟩ := h
  exact ⟨us, h1, jf7 hs hy caps h2⟩
 | .bm f fs, v, h => by
  unfold jkn; unfold A.rep at h ⊢
  obtain ⟨us, h1, h2⟩ := h
  exact ⟨us, h1, jf7 hs hy fs h2⟩
 | .mp ks vs, v, h => by
  unfold jkn
  have h2 : (A.mp ks vs).rep ⟨C, [], []⟩ v := by unfold A.rep at h ⊢; exact h
  exact A.rep.mono _ (E := ⟨C, [], []⟩) (F := ⟨D, [], []⟩) ⟨hs, fun _ _ h => h, fun _ _ h => h⟩ h2
 | .agg l, v, h => by
  unfold jkn; unfold A.rep at h ⊢
  obtain ⟨us, h1, h2⟩ := h
  exact ⟨us, h1, A.repC_mk (jf7 hs hy l (A.repC_L h2)) (A.repC_one h2)⟩
 | .tup l, v, h => by
  unfold jkn; unfold A.rep at h ⊢
  obtain ⟨us, h1, h2⟩ := h
  exact ⟨us, h1, jf7 hs hy l h2⟩
theorem jf7 (hs : Sub C D) (hy : (A.sl k n cs).rep ⟨D, [], []⟩ y) : ∀ (l : List A) {us : List Value}, A.repL l ⟨C, [], [y]⟩ us -> A.repL (jug k n cs l) ⟨D, [], []⟩ us
 | [], us, h => by unfold jug; unfold A.repL at h ⊢; exact h
 | a :: r, us, h => by
  unfold jug; unfold A.repL at h ⊢
  obtain ⟨u, us', rfl, h1, h2⟩ := h
  exact ⟨u, us', rfl, jnl hs hy a h1, jf7 hs hy r h2⟩
end
end
theorem jur {w : World} {base e k n : Nat} {y : Value} {xs : List Value} {cs : List A} {D : Rd} (h : w.ownsRow base e k y n xs) (hr : A.repC cs ⟨D, [], []⟩ xs) (hD : ∀ b, y.ownBlock = some b -> ∀ o u, w.cell? ⟨b, o, none⟩ = some u -> D ⟨b, o, none⟩ = some u) : (A.sl k n cs).rep ⟨D, [], []⟩ y := by
 have hlen : cs.length = n * k := by rw [<- A.repC_len hr, h.1]
 rcases h.2 with ⟨rfl, rfl⟩ | ⟨b, cap, cur, rfl, hb, hbb, hn, hcm, hcs, htake⟩
 ·unfold A.rep
  have hcs : cs = [] := List.eq_nil_of_length_eq_zero (by simpa using hlen)
  subst hcs;exact ⟨by simp, by simp, none, 0, 0, 0, rfl, Nat.le_refl _, .inl rfl, fun _ => rfl, by simp [A.repAt]⟩
 ·unfold A.rep;refine ⟨hlen, Nat.le_trans hn hcm, _, b, 0, cap, rfl, hn, .inr rfl, by simp, ?_⟩;refine A.repAt_mk (E := ⟨D, [], []⟩) hr (fun j' u hu => ?_)
  have := h.cells (g := b) rfl j' u hu
  rw [jnr] at this;exact hD b rfl _ u this
theorem SpecF.pub {P : Program} {f : Nat} {args : List A} {post : Nat -> Nat -> Nat -> List A -> A -> Prop} (h : SpecF P f args post) (hk0 : ∀ e k n cs r, post e k n cs r -> k ≠ 0) : Spec P f [] args fun _ r => ∃ e k n cs r0, post e k n cs r0 /\ r = jkn k n cs r0 := by
 refine ⟨h.1, fun w C β vals h0 h1 h2 h3 h4 h5 h6 => ?_⟩
 have hβ : β = [] := List.eq_nil_of_length_eq_zero (by simpa using h4.symm)
 subst hβ;refine (h.2 w C vals h0 h1 h6).mono ?_;rintro e w' ⟨et, k, n, cs, r, v, y, xs, C', rfl, hpost, kp, hC, hC', hnew, hnone, hown, hrep, hr⟩
 have hs : Sub C' (jbq C w w') := fun ad u hc => by
  unfold jbq
  split
  ·rename_i hlt
   rcases hnew ad u hc with h7 | h7
   ·exact h7
   ·omega
  ·exact hC' ad u hc
 refine ⟨[], _, v, rfl, ⟨et, k, n, cs, r, hpost, rfl⟩, kp, rfl, fun i b cs hb => by simp at hb, jnl hs ?_ r hr⟩
 have hown' := hown.row (hk0 _ _ _ _ _ hpost)
 refine jur hown' (A.repC.mono cs (E := ⟨C', [], []⟩) (F := ⟨jbq C w w', [], []⟩) ⟨hs, fun _ _ h => h, fun _ _ h => h⟩ hrep) fun b hb o u hc => ?_
 have hlt := (hnone b (jdO hb)).2
 show jbq C w w' ⟨b, o, none⟩ = some u
 unfold jbq;rw [if_neg (by simp only; omega)];exact hc
end
end Go.Proofs.YtmodkpibkkpcdaaGreatDoor.Vm
namespace Go.Proofs.YtmodkpibkkpcdaaGreatDoor.Vm
open Go.RowKit Go.Shelf Go.Maps Go.Sort
set_option linter.unusedSimpArgs false
set_option linter.unusedVariables false
set_option maxRecDepth 100000
def jcV : Go.Shelf.Ren := ⟨fun | 7 => 72 | 10 => 113 | n => n, fun | 3 => 59 | 23 => 114 | 26 => 3 | 27 => 117 | 28 => 118 | 33 => 148 | n => n, fun | n => n⟩
theorem jey : SlLaysZI.n7 Tryz.prog jcV where
 mixed := by kernel_rfl
 f7 := ⟨ "maps.Keys[map[int]simproof/api.Handler,int,simproof/api.Handler]", of_decide_eq_true (by kernel_rfl), Tryz.func72.trans (congrArg some (by kernel_rfl))⟩
 f10 := ⟨ "maps.Keys[map[int]simproof/api.Handler,int,simproof/api.Handler]$1", of_decide_eq_true (by kernel_rfl), Tryz.func113.trans (congrArg some (by kernel_rfl))⟩
 t0 := Tryz.underlying0
 a0 := Tryz.isAgg0
 z0 := Tryz.sizeOf0
 v0 := Tryz.zeroValue0
 t4 := Tryz.underlying4
 a4 := Tryz.isAgg4
 z4 := Tryz.sizeOf4
 v4 := Tryz.zeroValue4
 t23 := Tryz.underlying114
 a23 := Tryz.isAgg114
 z23 := Tryz.sizeOf114
 v23 := Tryz.zeroValue114
 t26 := Tryz.underlying3
 a26 := Tryz.isAgg3
 z26 := Tryz.sizeOf3
 v26 := Tryz.zeroValue3
 t27 := Tryz.underlying117
 a27 := Tryz.isAgg117
 z27 := Tryz.sizeOf117
 v27 := Tryz.zeroValue117
 t28 := Tryz.underlying118
 a28 := Tryz.isAgg118
 z28 := Tryz.sizeOf118
 v28 := Tryz.zeroValue118
 t33 := Tryz.underlying148
 a33 := Tryz.isAgg148
 z33 := Tryz.sizeOf148
 v33 := Tryz.zeroValue148

def jcT : Go.Shelf.Ren := ⟨fun | 6 => 71 | 8 => 111 | 9 => 112 | 11 => 130 | 12 => 131 | 13 => 132 | 14 => 163 | 15 => 164 | 16 => 165 | 17 => 166 | 18 => 167 | 19 => 168 | 20 => 169 | 21 => 170 | 22 => 171 | 23 => 172 | 24 => 173 | 25 => 185 | 26 => 186 | 27 => 187 | 28 => 188 | 29 => 189 | 30 => 190 | 31 => 200 | n => n, fun | 24 => 22 | 26 => 3 | 28 => 118 | 33 => 148 | 37 => 163 | 39 => 184 | 40 => 185 | 45 => 190 | 48 => 193 | 50 => 128 | 51 => 202 | 55 => 206 | 57 => 214 | 58 => 215 | n => n, fun | n => n⟩
theorem ji9 : SlLaysZI.n6 Tryz.prog jcT where
 mixed := by kernel_rfl
 f6 := ⟨ "slices.Sorted[int]", of_decide_eq_true (by kernel_rfl), Tryz.func71.trans (congrArg some (by kernel_rfl))⟩
 f8 := ⟨ "slices.Collect[int]", of_decide_eq_true (by kernel_rfl), Tryz.func111.trans (congrArg some (by kernel_rfl))⟩
 f11 := ⟨ "slices.AppendSeq[[]int,int]", of_decide_eq_true (by kernel_rfl), Tryz.func130.trans (congrArg some (by kernel_rfl))⟩
 t0 := Tryz.underlying0
 a0 := Tryz.isAgg0
 z0 := Tryz.sizeOf0
 v0 := Tryz.zeroValue0
 t24 := Tryz.underlying22
 a24 := Tryz.isAgg22
 z24 := Tryz.sizeOf22
 v24 := Tryz.zeroValue22
 t26 := Tryz.underlying3
 a26 := Tryz.isAgg3
 z26 := Tryz.sizeOf3
 v26 := Tryz.zeroValue3
 t28 := Tryz.underlying118
 a28 := Tryz.isAgg118
 z28 := Tryz.sizeOf118
 v28 := Tryz.zeroValue118
 i26 := by kernel_rfl

def jfW : Go.Shelf.Ren := ⟨fun | 5 => 112 | 7 => 131 | 8 => 132 | 10 => 163 | 11 => 164 | 12 => 165 | 13 => 166 | 14 => 167 | 15 => 168 | 16 => 169 | 17 => 170 | 18 => 171 | 19 => 172 | 20 => 173 | 30 => 185 | 31 => 186 | 32 => 187 | 33 => 188 | 34 => 189 | 35 => 190 | 40 => 200 | n => n, fun | 23 => 22 | 25 => 3 | 32 => 163 | 35 => 184 | 36 => 185 | 41 => 190 | 44 => 193 | 46 => 128 | 53 => 202 | 57 => 206 | 63 => 214 | 64 => 215 | n => n, fun | n => n⟩
theorem jfA : SlLaysM.n5 Tryz.prog jfW where
 mixed := by kernel_rfl
 f5 := ⟨ "slices.Sort[[]int,int]", of_decide_eq_true (by kernel_rfl), Tryz.func112.trans (congrArg some (by kernel_rfl))⟩
 f7 := ⟨ "slices.pdqsortOrdered[int]", of_decide_eq_true (by kernel_rfl), Tryz.func131.trans (congrArg some (by kernel_rfl))⟩
 f8 := Tryz.func132.trans (congrArg some (by kernel_rfl))
 f10 := ⟨ "slices.insertionSortOrdered[int]", of_decide_eq_true (by kernel_rfl), Tryz.func163.trans (congrArg some (by kernel_rfl))⟩
 f11 := ⟨ "slices.heapSortOrdered[int]", of_decide_eq_true (by kernel_rfl), Tryz.func164.trans (congrArg some (by kernel_rfl))⟩
 f12 := ⟨ "slices.breakPatternsOrdered[int]", of_decide_eq_true (by kernel_rfl), Tryz.func165.trans (congrArg some (by kernel_rfl))⟩
 f13 := ⟨ "slices.choosePivotOrdered[int]", of_decide_eq_true (by kernel_rfl), Tryz.func166.trans (congrArg some (by kernel_rfl))⟩
 f14 := ⟨ "slices.reverseRangeOrdered[int]", of_decide_eq_true (by kernel_rfl), Tryz.func167.trans (congrArg some (by kernel_rfl))⟩
 f15 := ⟨ "slices.partialInsertionSortOrdered[int]", of_decide_eq_true (by kernel_rfl), Tryz.func168.trans (congrArg some (by kernel_rfl))⟩
 f16 := ⟨ "cmp.Less[int]", of_decide_eq_true (by kernel_rfl), Tryz.func169.trans (congrArg some (by kernel_rfl))⟩
 f17 := ⟨ "slices.partitionEqualOrdered[int]", of_decide_eq_true (by kernel_rfl), Tryz.func170.trans (congrArg some (by kernel_rfl))⟩
 f18 := ⟨ "slices.partitionOrdered[int]", of_decide_eq_true (by kernel_rfl), Tryz.func171.trans (congrArg some (by kernel_rfl))⟩
 f19 := Tryz.func172.trans (congrArg some (by kernel_rfl))
 f20 := Tryz.func173.trans (congrArg some (by kernel_rfl))
 f30 := ⟨ "slices.siftDownOrdered[int]", of_decide_eq_true (by kernel_rfl), Tryz.func185.trans (congrArg some (by kernel_rfl))⟩
 f31 := Tryz.func186.trans (congrArg some (by kernel_rfl))
 f32 := Tryz.func187.trans (congrArg some (by kernel_rfl))
 f33 := ⟨ "slices.medianAdjacentOrdered[int]", of_decide_eq_true (by kernel_rfl), Tryz.func188.trans (congrArg some (by kernel_rfl))⟩
 f34 := ⟨ "slices.medianOrdered[int]", of_decide_eq_true (by kernel_rfl), Tryz.func189.trans (congrArg some (by kernel_rfl))⟩
 f35 := ⟨ "cmp.isNaN[int]", of_decide_eq_true (by kernel_rfl), Tryz.func190.trans (congrArg some (by kernel_rfl))⟩
 f40 := ⟨ "slices.order2Ordered[int]", of_decide_eq_true (by kernel_rfl), Tryz.func200.trans (congrArg some (by kernel_rfl))⟩
 t0 := Tryz.underlying0
 a0 := Tryz.isAgg0
 z0 := Tryz.sizeOf0
 v0 := Tryz.zeroValue0
 t3 := Tryz.underlying3
 a3 := Tryz.isAgg3
 z3 := Tryz.sizeOf3
 v3 := Tryz.zeroValue3
 t4 := Tryz.underlying4
 a4 := Tryz.isAgg4
 z4 := Tryz.sizeOf4
 v4 := Tryz.zeroValue4
 t5 := Tryz.underlying5
 a5 := Tryz.isAgg5
 z5 := Tryz.sizeOf5
 v5 := Tryz.zeroValue5
 t9 := Tryz.underlying9
 a9 := Tryz.isAgg9
 z9 := Tryz.sizeOf9
 v9 := Tryz.zeroValue9
 t22 := Tryz.underlying22
 a22 := Tryz.isAgg22
 z22 := Tryz.sizeOf22
 v22 := Tryz.zeroValue22
 t23 := Tryz.underlying22
 a23 := Tryz.isAgg22
 z23 := Tryz.sizeOf22
 v23 := Tryz.zeroValue22
 t25 := Tryz.underlying3
 a25 := Tryz.isAgg3
 z25 := Tryz.sizeOf3
 v25 := Tryz.zeroValue3
 t32 := Tryz.underlying163
 a32 := Tryz.isAgg163
 z32 := Tryz.sizeOf163
 v32 := Tryz.zeroValue163
 t35 := Tryz.underlying184
 a35 := Tryz.isAgg184
 z35 := Tryz.sizeOf184
 v35 := Tryz.zeroValue184
 t36 := Tryz.underlying185
 a36 := Tryz.isAgg185
 z36 := Tryz.sizeOf185
 v36 := Tryz.zeroValue185
 t41 := Tryz.underlying190
 a41 := Tryz.isAgg190
 z41 := Tryz.sizeOf190
 v41 := Tryz.zeroValue190
 t44 := Tryz.underlying193
 a44 := Tryz.isAgg193
 z44 := Tryz.sizeOf193
 v44 := Tryz.zeroValue193
 t46 := Tryz.underlying128
 a46 := Tryz.isAgg128
 z46 := Tryz.sizeOf128
 v46 := Tryz.zeroValue128
 t53 := Tryz.underlying202
 a53 := Tryz.isAgg202
 z53 := Tryz.sizeOf202
 v53 := Tryz.zeroValue202
 t57 := Tryz.underlying206
 a57 := Tryz.isAgg206
 z57 := Tryz.sizeOf206
 v57 := Tryz.zeroValue206
 t63 := Tryz.underlying214
 a63 := Tryz.isAgg214
 z63 := Tryz.sizeOf214
 v63 := Tryz.zeroValue214
 t64 := Tryz.underlying215
 a64 := Tryz.isAgg215
 z64 := Tryz.sizeOf215
 v64 := Tryz.zeroValue215

def jsy : Nat := 113
theorem jpy (ks : List Value) (vs : List A) : SpecF Tryz.prog 72 [.mp ks vs] fun e k n cs r => e = 114 /\ k = 1 /\ n = 1 /\ cs = [.mp ks vs] /\ r = .clo jsy [.orow 0 0] := by
 refine ⟨jeP Tryz.func72 rfl (by kernel_rfl), fun w C vals h0 h1 h2 => ?_⟩;unfold A.repL at h2
 obtain ⟨u, us, rfl, h3, h4⟩ := h2
 unfold A.repL at h4;subst h4
 have h3' := h3
 unfold A.rep at h3
 obtain ⟨r, us, rfl, hC, hlen, hvs, hok⟩ := h3
 refine ((callsIn_wide (n := 6)).1 (AnyZI.keys_in jey Fence.wide 6 trivial rfl (some r) w)).mono ?_;rintro e w' ⟨rfl, rfl⟩
 have hB : Ext w (w.alloc (.cells #[.map (some r)] 114)) := (Below.refl _ w).alloc (Nat.le_refl _) _
 have kp := Keeps.of_ext hB
 refine ⟨_, _, _, _, _, _, .slice (some ⟨w.heap.size, 0, none⟩) 1 1, [.map (some r)], C, rfl, ⟨rfl, rfl, rfl, rfl, rfl⟩, kp, Sub.refl _, fun ad u hc => ?_, fun ad u hc => .inl hc, fun b hb => ?_, .inl ⟨by decide, ?_⟩, ?_, ?_⟩
 ·refine kp.cell (h1 ad u hc) (fun hm => by simp at hm)
 ·obtain rfl : w.heap.size = b := by simpa [blk] using hb
  refine ⟨fun o sp => ?_, Nat.le_refl _⟩
  cases hc : C ⟨w.heap.size, o, sp⟩ with
  | none => rfl
  | some u =>
   have := jar w _ (h1 _ _ hc)
   simp at this
 ·refine ⟨rfl, .inr ⟨w.heap.size, 1, #[.map (some r)], rfl, Nat.zero_le _, World.alloc_heap_new w _, Nat.le_refl _, by unfold maxLen; omega, rfl, rfl⟩⟩
 ·unfold A.repC;exact ⟨_, [], rfl, rfl, h3', by unfold A.repC; rfl⟩
 ·unfold A.rep;refine ⟨#[.pointer (some ⟨w.heap.size, 0, none⟩)], rfl, ?_⟩;unfold A.repL;refine ⟨_, [], rfl, ?_, by unfold A.repL; rfl⟩;unfold A.rep;exact ⟨w.heap.size, 1, 1, rfl, rfl⟩
theorem jyd (m : Nat) : AnyZI.SortsIn Tryz.prog jcT Fence.wide m :=
 ⟨fun blk off cap ss W hH hblk hsz => callsIn_wide.2 (AnyM.slices_Sort_int jfA blk off cap ss W hH hblk hsz),
 fun p cap W => callsIn_wide.2 (AnyM.slices_Sort_int_none jfA p cap W)⟩
theorem jqm {w : World} {r c : Nat} {es : Array MapEntry} {l : List (Int × A)} (hr : w.heap[r]? = some (.map es c)) (hst : jfF es c) (hk : es.toList.map (·.key) = mkV l) (hok : ∀ k ∈ mkV l, okV k) (hnd : (l.map (·.1)).Nodup) (hn : l.length <= 1000000) :
  ∃ D0 : DataW Unit, w.ownsMap Tryz.prog 3 (fun _ => some (.nil, [])) r l.length D0 /\ (intKeys D0).Perm (l.map (·.1)) /\ Maps.size D0 = l.length := by
 have hu : Tryz.prog.underlying 3 = some (.int .i64) := by kernel_rfl
 have hlen : es.size = l.length := by
  have := congrArg List.length hk
  unfold mkV at this
  simpa using this
 have hkey : ∀ x ∈ es.toList, ∃ a : Int, x.key = .int .i64 a /\ (Lit.int .i64 a).wf = true := fun x hx => by
  have h1 : x.key ∈ mkV l := by rw [<- hk]; exact List.mem_map.2 ⟨x, hx, rfl⟩
  have h2 := hok _ h1
  unfold mkV at h1
  obtain ⟨p, _, hp⟩ := List.mem_map.1 h1
  rw [<- hp] at h2;refine ⟨p.1, hp.symm, ?_⟩
  have := okV_int.1 h2
  simp [Lit.wf]
  exact this
 have hrd : ∀ x ∈ es.toList, ∀ a : Int, x.key = .int .i64 a -> (Lit.int .i64 a).wf = true -> WideElems.rd Tryz.prog 3 (fun _ => some ((DataW.nil : DataW Unit), ([] : List MemPlace))) x = some (.int .i64 a, .nil) := fun x hx a h1 h2 => by
  unfold WideElems.rd;rw [h1, keyOf_int_mk hu h2]; rfl
 have hrg : es.toList.map (fun x => Go.intOf (WideElems.rg Tryz.prog 3 (fun _ => some ((DataW.nil : DataW Unit), ([] : List MemPlace))) x).1) = l.map (·.1) := by
  have h1 : es.toList.map (fun x => Go.intOf (WideElems.rg Tryz.prog 3 (fun _ => some ((DataW.nil : DataW Unit), ([] : List MemPlace))) x).1) = (es.toList.map (·.key)).map fun v => match v with | .int _ a => a | _ => 0 := by
   rw [List.map_map]
   refine List.map_congr_left fun x hx => ?_
   obtain ⟨a, e1, e2⟩ := hkey x hx
   rw [WideElems.rg_of (hrd x hx a e1 e2)]
   simp [Go.intOf, e1]
  rw [h1, hk];unfold mkV;rw [List.map_map]
  exact List.map_congr_left fun p hp => rfl
 have hfit : WideElems.Fit Tryz.prog 3 (fun _ => some ((DataW.nil : DataW Unit), ([] : List MemPlace))) es c := by
  refine ⟨by rw [hlen]; unfold maxLen; omega, ⟨?_, ?_, ?_⟩, fun x hx => ?_⟩
  ·intro x hx
   obtain ⟨i, hi, e⟩ := List.mem_iff_getElem.1 hx
   have hi' : i < es.size := by simpa using hi
   have h2 := hst.2 i es[i] (Array.getElem?_eq_getElem hi')
   have e' : es[i] = x := by rw [<- e]; simp
   rw [<- e', h2, hst.1]; exact hi'
  ·have h2 : es.toList.map (·.born) = List.range es.size := by
    apply List.ext_getElem?
    intro i;rw [List.getElem?_map, Array.getElem?_toList]
    by_cases hi : i < es.size
    ·rw [Array.getElem?_eq_getElem hi, List.getElem?_range hi];simp only [Option.map_some];rw [hst.2 i es[i] (Array.getElem?_eq_getElem hi)]
    ·rw [Array.getElem?_eq_none (by omega), List.getElem?_eq_none (by simp; omega)]; rfl
   rw [h2]; exact List.nodup_range
  ·rw [hk];unfold mkV
   have : (l.map fun p : Int × A => Value.int .i64 p.1) = (l.map (·.1)).map (Value.int .i64) := by rw [List.map_map]; rfl
   rw [this];exact List.pairwise_map.2 (hnd.imp fun h e => h (by cases e; rfl))
  ·obtain ⟨a, e1, e2⟩ := hkey x hx
   exact ⟨_, hrd x hx a e1 e2⟩
 refine ⟨_, ⟨es, c, hr, hfit, by omega, rfl⟩, ?_, ?_⟩
 ·show (List.map (fun p : Lit × DataW Unit => Go.intOf p.1) _).Perm _
  refine ((WideShapes.sorted_perm _).map _).trans ?_;rw [List.map_map];exact List.Perm.of_eq hrg
 ·show (List.foldr DataW.insert [] _).length = _
  rw [(WideShapes.sorted_perm _).length_eq, List.length_map, Array.length_toList, hlen]
theorem jxE {P : Program} {pan : List PanicEntry -> S -> Prop} {Xr : Nat -> Bool} {f : Nat} {args args' : List A} {s : S} {K : A -> S -> Prop} {post : List (List A) -> Nat -> List A -> A -> Prop} (g m : Nat) (ids : List Nat) (hm : s.rw.length = m) {e k n : Nat} {cs : List A} (hf : Xr 1000000007 = true) (hg : (ja3 s.rw ids)[g]? = some (.live e k n cs)) (h2 : jbH [] g (ja3 s.rw ids) args = some args') (hs : okL args' -> jmx P f [] e k n cs args' post)
  (hk : ∀ n' cs' r, post [] n' cs' r -> jin [] m s.bx [] [] fun bx' => jbM (backG [] m r) fun r' => jaF ((ja3 s.rw ids).set g .gone ++ [.live e k n' cs']) fun rw' => jc7 s bx' rw' (K r')) : jcz P pan Xr f args s K := by
 subst hm;unfold jcz
 right; right; right; right; left
 refine ⟨hf, [], ids, g, e, k, n, cs, [], args', post, fun _ => False, by simp, by simp, by simp, hg, rfl, h2, hs, fun outs n' cs' r hp hl => ?_, fun ch bx' h => h.elim⟩
 obtain rfl : outs = [] := List.eq_nil_of_length_eq_zero (by simpa using hl)
 exact hk n' cs' r hp
theorem jkr (l : List (Int × A)) (hnd : (l.map (·.1)).Nodup) (hn : l.length <= 1000000) : jmx Tryz.prog 71 [] 114 1 1 [.mp (mkV l) (mvA l)] [.clo jsy [.orow 0 0]] fun o n' cs' r => r = .sl 1 l.length (((l.map (·.1)).mergeSort leI).map jao) := by
 refine ⟨jeP Tryz.func71 rfl (by kernel_rfl), fun w C β vals y xs h0 h1 h2 h3 h4 h5 h6 h7 h8 h9 => ?_⟩
 obtain rfl : β = [] := List.eq_nil_of_length_eq_zero (by simpa using h4.symm)
 unfold A.repL at h9
 obtain ⟨v, vs', rfl, hv, h9⟩ := h9
 unfold A.repL at h9;subst h9;unfold A.rep at hv
 obtain ⟨us, rfl, hus⟩ := hv
 unfold A.repL at hus
 obtain ⟨p, us', hus, hp, h9⟩ := hus
 unfold A.repL at h9;subst h9
 obtain rfl : us = #[p] := by apply Array.toList_inj.1; simpa using hus
 unfold A.rep at hp
 obtain ⟨b, n1, cap1, hy, rfl⟩ := hp
 obtain rfl : y = .slice (some ⟨b, 0, none⟩) n1 cap1 := by simpa using hy
 have hrow := h6.row (by decide)
 unfold A.repC at h7
 obtain ⟨u, us', rfl, -, hu, h7⟩ := h7
 unfold A.repC at h7;subst h7;unfold A.rep at hu
 obtain ⟨r, us, rfl, hC, hlen, hvs, hok⟩ := hu
 obtain ⟨es, c, hr, hk1, hk2, hst⟩ := jjx (h1 _ _ hC)
 obtain ⟨D0, hown, hperm, hsize⟩ := jqm hr hst hk1 hok hnd hn
 have hcell : w.cell? ⟨b, 0, none⟩ = some (.map (some r)) := by
  rcases hrow.2 with ⟨h, _⟩ | ⟨g, cap, cur, h, _, hb, _, _, _, htake⟩
  ·cases h
  ·cases h
   have h0 : cur[0]? = some (.map (some r)) := by
    have := congrArg (·[0]?) htake
    simpa using this
   simp [World.cell?, hb, h0]
 have hbl : b < w.heap.size := h6.lt rfl
 have hseq : SeqGives Fence.wide 2 Tryz.prog jsy #[.pointer (some ⟨b, 0, none⟩)] encZ (fun ss => ss.Perm (intKeys D0)) (Maps.size D0) w :=
  AnyZI.keys_gives (ρ := jcV) { jey with } Fence.wide _ trivial rfl (by omega) b r l.length D0 w hbl hcell hown
 have cS := AnyZI.sorted_in ji9 Fence.wide 5 trivial trivial trivial trivial rfl (by omega) (jyd _) (enters_of Tryz.func112 (by kernel_rfl) rfl) jsy #[.pointer (some ⟨b, 0, none⟩)] trivial (enters_of Tryz.func113 (by kernel_rfl) rfl) _ _ (by rw [hsize]; unfold maxLen; omega) (by rw [hsize]; omega) _ hseq
 refine (callsIn_wide.1 cS).mono ?_;rintro e w' ⟨v, ss, rfl, hS, hrw, hnil, hB⟩
 have hB : Ext w w' := hB
 have kp := Keeps.of_ext hB
 have hpm : ss.mergeSort (fun x y => decide (x <= y)) = (l.map (·.1)).mergeSort leI := mergeSort_of_perm_i (hS.trans hperm)
 have hlen2 : ss.length = l.length := by rw [(hS.trans hperm).length_eq, List.length_map]
 rw [hpm, hlen2] at hrw;refine .inl ⟨[], 1, [.mp (mkV l) (mvA l)], _, v, _, [.map (some r)], jbq C w w', rfl, rfl, ⟨kp.os, kp.tape, kp.output, kp.size, fun q hq hn => kp.block q hq (by simp)⟩, jcm h1, jei h1 h3 kp, fun ad u hc => ?_, rfl, fun i b cs hb => by simp at hb, h6.same fun q hq => kp.block q (h6.lt hq) (by simp), ?_, fun q hq => ⟨fun o sp => ?_, .inr hq⟩, ?_⟩
 ·unfold jbq at hc
  split at hc
  ·exact .inl hc
  ·exact .inr (.inl (by omega))
 ·unfold A.repC;refine ⟨_, [], rfl, rfl, ?_, by unfold A.repC; rfl⟩;unfold A.rep;exact ⟨r, us, rfl, jcm h1 _ _ hC, hlen, A.repL.mono _ (show (⟨C, [], []⟩ : Env).per.le (⟨jbq C w w', [], []⟩ : Env).per from ⟨jcm h1, fun _ _ h => h, fun _ _ h => h⟩) hvs, hok⟩
 ·unfold jbq;rw [if_pos (show (⟨q, o, sp⟩ : Addr).block < w.heap.size from h6.lt hq)];exact (h8 q hq).2 o sp
 ·refine A.rep.mono _ (jr2 (jbq C w w') [] _) (jur hrw (D := jbq C w w') ?_ fun b' hb o u hc => ?_)
  ·refine A.repC_mk ?_ (fun u hu => ?_)
   ·have := A.repL_map (E := ⟨jbq C w w', [], []⟩) ((l.map (·.1)).mergeSort leI) jao encZ (fun x hx => ?_)
    ·exact this
    ·refine A.rep_v (okV_int.2 ?_)
     have hx' : x ∈ l.map (·.1) := (List.mergeSort_perm _ _).mem_iff.1 hx
     obtain ⟨p, hp, rfl⟩ := List.mem_map.1 hx'
     exact okV_int.1 (hok _ (by unfold mkV; exact List.mem_map.2 ⟨p, hp, rfl⟩))
   ·obtain ⟨x, _, rfl⟩ := List.mem_map.1 hu
    rfl
  ·unfold jbq
   have := (hrw.lt b' hb).1
   rw [if_neg (by simp only; omega)];exact jkk hc
theorem jhT (h : Int × Nt) : ∀ l : List (Int × Nt), (jwK h l).Perm (h :: l)
 | [] => List.Perm.refl _
 | x :: l => by
  unfold jwK
  split
  ·exact List.Perm.refl _
  ·exact ((jhT h l).cons x).trans (List.Perm.swap h x l)
theorem jfQ : ∀ l : List (Int × Nt), (jjl l).Perm l
 | [] => List.Perm.refl _
 | h :: l => (jhT h (jjl l)).trans ((jfQ l).cons h)
theorem jhi (h : Int × Nt) : ∀ l : List (Int × Nt), l.Pairwise (fun a b => a.1 <= b.1) -> (jwK h l).Pairwise fun a b => a.1 <= b.1
 | [], _ => by unfold jwK; simp
 | x :: l, hp => by
  obtain ⟨h1, h2⟩ := List.pairwise_cons.1 hp
  unfold jwK
  split
  ·rename_i hx
   refine List.pairwise_cons.2 ⟨fun b hb => ?_, hp⟩
   rcases List.mem_cons.1 hb with rfl | hb
   ·exact hx
   ·exact Int.le_trans hx (h1 b hb)
  ·rename_i hx
   refine List.pairwise_cons.2 ⟨fun b hb => ?_, jhi h l h2⟩
   rcases List.mem_cons.1 ((jhT h l).mem_iff.1 hb) with rfl | hb
   ·omega
   ·exact h1 b hb
theorem jgl : ∀ l : List (Int × Nt), (jjl l).Pairwise fun a b => a.1 <= b.1
 | [] => List.Pairwise.nil
 | h :: l => jhi h _ (jgl l)
theorem joT (l : List (Int × Nt)) : ((jfL l).map (·.1)).mergeSort leI = (jjl l).map (·.1) := by
 have e : (jfL l).map (·.1) = l.map (·.1) := by unfold jfL; rw [List.map_map]; rfl
 rw [e]
 have tr : ∀ a b c : Int, leI a b = true -> leI b c = true -> leI a c = true := fun a b c h1 h2 => by simp only [leI, decide_eq_true_eq] at *; exact Int.le_trans h1 h2
 have to : ∀ a b : Int, (leI a b || leI b a) = true := fun a b => by simp only [leI, Bool.or_eq_true, decide_eq_true_eq]; exact Int.le_total a b
 refine List.Perm.eq_of_pairwise (le := fun a b => leI a b = true) (fun a b _ _ h1 h2 => ?_) (List.pairwise_mergeSort tr to _) ?_ ((List.mergeSort_perm _ leI).trans ((jfQ l).map _).symm)
 ·simp only [leI, decide_eq_true_eq] at h1 h2;exact Int.le_antisymm h1 h2
 ·exact List.pairwise_map.2 ((jgl l).imp fun h => by simpa [leI] using h)
theorem jpE (l : List (Int × Nt)) : ((jfL l).map (·.1)).Nodup ↔ (l.map (·.1)).Nodup := by
 have e : (jfL l).map (·.1) = l.map (·.1) := by unfold jfL; rw [List.map_map]; rfl
 rw [e]
theorem jti {l : List (Int × Nt)} (hnd : (l.map (·.1)).Nodup) {h : Int × Nt} (hm : h ∈ l) : jcI (jfL l) h.1 = some (haA h).2 := by
 induction l with
 | nil => simp at hm
 | cons x l ih =>
  rw [List.map_cons, List.nodup_cons] at hnd;unfold jcI jfL;rw [List.map_cons]
  rcases List.mem_cons.1 hm with rfl | hm
  ·rw [List.find?_cons_of_pos (p := fun p : Int × A => decide (h.1 = p.1)) (show decide (h.1 = (haA h).1) = true from decide_eq_true rfl)]; rfl
  ·have hne : h.1 ≠ x.1 := fun e => hnd.1 (by rw [<- e]; exact List.mem_map.2 ⟨h, hm, rfl⟩)
   rw [List.find?_cons_of_neg (p := fun p : Int × A => decide (h.1 = p.1)) (show ¬ decide (h.1 = (haA x).1) = true by rw [decide_eq_false (show ¬ h.1 = (haA x).1 from hne)]; simp)];exact ih hnd.2 hm
def hnA (h : Int × Nt) : List A := jao h.1 :: ntA h.2
@[irreducible] def jm1 (l : List (Int × Nt)) : List A := l.flatMap hnA
theorem jod : jm1 [] = [] := by unfold jm1; rfl
theorem jkQ (l : List (Int × Nt)) (h : Int × Nt) : jm1 (l ++ [h]) = jm1 l ++ hnA h := by
 unfold jm1;rw [List.flatMap_append, List.flatMap_cons, List.flatMap_nil, List.append_nil]
theorem jld (l : List (Int × Nt)) (i : Nat) (hi : i < l.length) : jae 5 i (jm1 l) = hnA l[i] := by
 unfold jm1; exact jdg hnA (fun _ => rfl) l i hi
theorem jqW (l : List (Int × Nt)) (k : Int) (b : Nt) : jfL l ++ [(k, .agg (jao k :: ntA b))] = jfL (l ++ [(k, b)]) := by
 unfold jfL;rw [List.map_append]; rfl
def utA (u : Ut) : List A := [.sl 1 u.du.length (txA u.du), .sl 1 u.vo.length (txA u.vo), .sl 5 u.on.length (jm1 u.on)]
def puQ (p : PU) (ch : List PanicEntry) : Prop := match p with
 | .bad x e => ch = jaC x e
 | _ => False
theorem ji0 {p : PU} {x e : Int} {ch : List PanicEntry} (h : p = .bad x e) (k : ch = jaC x e) : puQ p ch := by subst h; exact k
def uoQ (p : PU) (r : A) : Prop := match p with
 | .ok u => r = .agg (utA u)
 | _ => False
def jAi (id : Nat) : Tr := match Nat.beq id 4 || Nat.beq id 5 with
 | true => .q 0 3 (.q 2 3 (.alt 1 2 (.alt 3 2 (.alt 4 2 (.q 5 3 (.alt 6 2 .nil .nil)) .nil) .nil) (.alt 3 2 (.alt 1 2 (.alt 4 2 (.q 5 3 (.alt 6 2 .nil .nil)) .nil) .nil) .nil)))
 | false => .nil
theorem jcw : ∀ (n : Nat) (nm out : List ByteArray) (ts : List Tk) (nm' out' : List ByteArray) (r : List Tk), TkP ts -> (hd ts).kind ≠ 0 -> nm.length <= 16 -> jit n nm out ts = .ok nm' out' r -> TkP r /\ r.length < ts.length /\ nm'.length <= 16 /\ out'.length + r.length <= out.length + ts.length
 | 0, nm, out, ts, nm', out', r, h, hk, h16, e => by cases e
 | n + 1, nm, out, ts, nm', out', r, h, hk, h16, e => by
  rw [jjK] at e
  obtain ⟨q1, q2⟩ := h.tail hk
  by_cases hn : jeL ts.tail = false
  ·rw [if_pos hn] at e; cases e
  rw [if_neg hn] at e
  by_cases hh : jcF nm (hd ts.tail).text = true
  ·rw [if_pos hh] at e; cases e
  rw [if_neg hh] at e
  by_cases h6 : nm.length = 16
  ·rw [if_pos h6] at e; cases e
  rw [if_neg h6] at e
  obtain ⟨q3, q4⟩ := q1.tail (by rw [jdk (by simpa using hn)]; decide)
  unfold deH at e
  by_cases hc : isP pComma ts.tail.tail = true
  ·rw [if_pos hc] at e
   obtain ⟨g1, g2, g3, g4⟩ := jcw n _ _ _ _ _ _ q3 (jck hc) (by simp only [List.length_append, List.length_cons, List.length_nil]; omega) e
   refine ⟨g1, by omega, g3, ?_⟩;simp only [List.length_append, List.length_cons, List.length_nil] at g4;omega
  ·rw [if_neg hc] at e
   by_cases hs : isP pSemi ts.tail.tail = true
   ·rw [if_pos hs] at e
    cases e
    obtain ⟨g1, g2⟩ := q3.is hs
    refine ⟨g1, by omega, by simp only [List.length_append, List.length_cons, List.length_nil]; omega, by simp only [List.length_append, List.length_cons, List.length_nil]; omega⟩
   ·rw [if_neg hs] at e; cases e
theorem jso (du vo : List ByteArray) (n : Nat) (hs : List (Int × Nt)) (ts : List Tk) : jp1 du vo (n + 1) hs ts = (if (hd ts).kind = 0 then .ok ⟨du, vo, jjl hs⟩
  else if isP wOn ts = false then .bad (hd ts).pos 10
  else match heF hs ts.tail with
   | .bad x e => .bad x e
   | .ok k r => match (pa 19).bl r with
    | .bad x e => .bad x e
    | .ok b r => jp1 du vo n (hs ++ [(k, b)]) r) := by
 rw [jp1];unfold heF
 cases hnF ts.tail with
 | bad x e => rfl
 | ok k r =>
  simp only
  by_cases hd : (hs.any fun h => decide (h.1 = k)) = true
  ·rw [if_pos hd, if_pos hd]
  ·rw [if_neg hd, if_neg hd]; rfl
theorem juq {hs : List (Int × Nt)} {ts : List Tk} {k : Int} {r : List Tk} (h : TkP ts) (e : heF hs ts = .ok k r) : (∀ p ∈ hs, k ≠ p.1) /\ TkP r /\ r.length < ts.length := by
 unfold heF at e
 cases hh : hnF ts with
 | bad x e2 => rw [hh] at e; cases e
 | ok k2 r2 =>
  rw [hh] at e
  simp only at e
  by_cases hdp : (hs.any fun h => decide (h.1 = k2)) = true
  ·rw [if_pos hdp] at e; cases e
  rw [if_neg hdp] at e
  cases e
  refine ⟨fun p hp e => hdp (List.any_eq_true.2 ⟨p, hp, decide_eq_true e.symm⟩), ?_⟩
  have num : ∀ (lim off : Int) (t : List Tk), TkP t -> t.length + 1 = ts.length -> jpI lim off t = .ok k r -> TkP r /\ r.length < ts.length := fun lim off t ht hl e => by
   unfold jpI at e
   split at e
   ·cases e
   ·split at e
    ·cases e
    ·rename_i h2 _
     obtain ⟨q1, q2⟩ := ht.tail (by rw [Decidable.not_not.1 h2]; decide)
     cases e
     exact ⟨q1, by omega⟩
  unfold hnF at hh
  by_cases h1 : isP wStart ts = true
  ·rw [if_pos h1] at hh
   obtain ⟨q1, q2⟩ := h.is h1
   cases hh
   exact ⟨q1, by omega⟩
  rw [if_neg h1] at hh
  by_cases h2 : isP wRequest ts = true
  ·rw [if_pos h2] at hh
   obtain ⟨q1, q2⟩ := h.is h2
   cases hh
   exact ⟨q1, by omega⟩
  rw [if_neg h2] at hh
  by_cases h3 : isP wTimer ts = true
  ·rw [if_pos h3] at hh
   obtain ⟨q1, q2⟩ := h.is h3
   exact num _ _ _ q1 q2 hh
  rw [if_neg h3] at hh
  by_cases h4 : isP wMessage ts = true
  ·rw [if_pos h4] at hh
   obtain ⟨q1, q2⟩ := h.is h4
   exact num _ _ _ q1 q2 hh
  rw [if_neg h4] at hh
  cases hh
def jhJ : List A := [.v (.slice none 0 0), .v (.slice none 0 0), .v (.slice none 0 0)]
theorem jjI (l m : List ByteArray) : txA (l ++ m) = txA l ++ txA m := by unfold txA; rw [List.map_append]
set_option maxHeartbeats 1000000 in
theorem jlc (ts : List Tk) (h : TkP ts) : SpecP Tryz.prog 47 [bxN ts ++ [.v (.slice none 0 0)]] [.box 0 0] (fun o r => (∃ nm ts', o = [bxQ nm ts']) /\ uoQ (jtw ts) r) (puQ (jtw ts)) := by
 obtain ⟨P, hP⟩ : ∃ P, jtw ts = P := ⟨_, rfl⟩
 rw [hP]
 have hb0 := h.1.2
 refine jeW (jat jAi (fun _ => [0]) 1 (fun ch _ => puQ P ch)) (fun _ _ h => h) Tryz.func47 rfl (by kernel_rfl) rfl ?_;intro _;conv => whnf
 refine jbU (jat _ _ _ _) (by kernel_rfl) ?_;conv => whnf
 refine jbU (jat _ _ _ _) (by kernel_rfl) ?_;conv => whnf
 refine jbU (jat _ _ _ _) (by kernel_rfl) ?_;conv => whnf
 refine jcM 9 1 [] [(0, 1)] ?_;conv => whnf
 refine ⟨trivial, ?_⟩;conv => whnf
 refine jcM 9 1 [] [(2, 0)] ?_;conv => whnf
 refine ⟨trivial, ?_⟩;conv => whnf
 refine jcM 9 1 [] [(2, 1)] ?_;conv => whnf
 refine ⟨trivial, ?_⟩;conv => whnf
 refine jak [0, 2, 3] ?_;conv => whnf
 refine jaJ (fun x : Nat × List ByteArray × List ByteArray × List ByteArray × List Tk => []) (fun x => [bxN x.2.2.2.2 ++ [.own 0], jhJ, [.own 1, .own 2, .v (.slice none 0 0)]]) (fun x => [.live 9 1 x.2.1.length (txA x.2.1), .live 9 1 x.2.2.1.length (txA x.2.2.1), .live 9 1 x.2.2.2.1.length (txA x.2.2.2.1)])
  (fun x => TkP x.2.2.2.2 /\ x.2.2.2.2.length + 1 <= x.1 /\ x.2.1.length <= 16 /\ x.2.2.1.length + x.2.2.2.1.length + x.2.2.2.2.length <= 1000001 /\ jlf x.1 x.2.1 x.2.2.1 x.2.2.2.1 x.2.2.2.2 = P) (fun x => x.2.2.2.2.length) (ts.length + 1, [], [], [], ts) ?_ ⟨h, Nat.le_refl _, Nat.zero_le _, by simp only [List.length_nil]; omega, hP⟩ ?_
 ·repeat' constructor
 rintro ⟨n0, nm, du, vo, ts0⟩ ⟨g1, g2, g3, g4, hP⟩
 simp only at g1 g2 g3 g4 hP
 obtain ⟨n, rfl⟩ : ∃ n, n0 = n + 1 := ⟨n0 - 1, by omega⟩
 have hpos := g1.pos
 rw [jlf] at hP
 have his := fun s => jzv ts0 hpos s
 conv => whnf
 refine jaI 0 0 3 [] rfl rfl rfl rfl rfl rfl rfl (fun _ => (his wDurable).rp rfl rfl _ _ _ _) (fun ch bx' hp => hp.elim) ?_;rintro o n' cs' r ⟨c, ho, rfl, rfl, rfl, rfl⟩;cases ho;conv => whnf
 cases hq1 : isP wDurable ts0 with
 | true =>
  rw [if_pos hq1] at hP
  have hkd := jck hq1
  have hde := jkG nm ts0 g1 hkd g3
  conv => whnf
  refine jaI 0 3 4 [] rfl rfl rfl rfl rfl rfl rfl (fun _ => (his wDurable).rp rfl rfl _ _ _ _) (fun ch bx' hp => hp.elim) ?_;rintro o n' cs' r ⟨c, ho, rfl, rfl, rfl, rfl⟩;cases ho;conv => whnf
  rw [hq1];conv => whnf
  unfold jih;refine ⟨_, ?_, fun _ h => h⟩;conv => whnf
  refine ⟨?_, ?_⟩
  ·refine jaI 0 4 5 [] rfl rfl rfl rfl rfl rfl rfl (fun _ => hde) (fun ch bx' hp _ _ => ?_) ?_
   ·unfold pdQ at hp
    split at hp
    ·rename_i he
     rw [he] at hP;exact ji0 hP.symm hp
    ·exact hp.elim
   rintro o n' cs' r hdo;unfold doQ at hdo
   split at hdo
   rotate_left
   ·exact hdo.elim
   rename_i nm2 out r1 he
   obtain ⟨ho, rfl, rfl, rfl⟩ := hdo
   rw [he] at hP
   simp only at hP
   obtain ⟨k1, k2, k3, k4⟩ := jcw _ _ _ _ _ _ _ g1 hkd g3 he
   simp only [List.length_nil] at k4;cases ho;conv => whnf
   refine ⟨⟨by simp only; unfold maxLen; omega, by simp only; omega⟩, ?_⟩;conv => whnf
   refine ⟨(n, nm2, du ++ out, vo, r1), jas [5, 1, 2] ?_, ⟨k1, by simp only; omega, k3, by simp only [List.length_append]; omega, hP⟩, by simp only; omega⟩;conv => whnf
   simp only [List.length_append, jjI]
   repeat' constructor
  ·refine jaI 0 4 5 [] rfl rfl rfl rfl rfl rfl rfl (fun _ => hde) (fun ch bx' hp _ _ => ?_) ?_
   ·unfold pdQ at hp
    split at hp
    ·rename_i he
     rw [he] at hP;exact ji0 hP.symm hp
    ·exact hp.elim
   rintro o n' cs' r hdo;unfold doQ at hdo
   split at hdo
   rotate_left
   ·exact hdo.elim
   rename_i nm2 out r1 he
   obtain ⟨ho, rfl, rfl, rfl⟩ := hdo
   rw [he] at hP
   simp only at hP
   obtain ⟨k1, k2, k3, k4⟩ := jcw _ _ _ _ _ _ _ g1 hkd g3 he
   simp only [List.length_nil] at k4;cases ho;conv => whnf
   refine ⟨⟨by simp only; unfold maxLen; omega, by simp only; omega⟩, ?_⟩;conv => whnf
   refine ⟨(n, nm2, du ++ out, vo, r1), jas [5, 1, 2] ?_, ⟨k1, by simp only; omega, k3, by simp only [List.length_append]; omega, hP⟩, by simp only; omega⟩;conv => whnf
   simp only [List.length_append, jjI]
   repeat' constructor
 | false =>
  rw [if_neg (by rw [hq1]; simp)] at hP;conv => whnf
  refine jaI 0 3 4 [] rfl rfl rfl rfl rfl rfl rfl (fun _ => (his wVolatile).rp rfl rfl _ _ _ _) (fun ch bx' hp => hp.elim) ?_;rintro o n' cs' r ⟨c, ho, rfl, rfl, rfl, rfl⟩;cases ho;conv => whnf
  cases hq2 : isP wVolatile ts0 with
  | true =>
   rw [if_pos hq2] at hP
   have hkd := jck hq2
   have hde := jkG nm ts0 g1 hkd g3
   conv => whnf
   refine jaI 0 4 5 [] rfl rfl rfl rfl rfl rfl rfl (fun _ => (his wDurable).rp rfl rfl _ _ _ _) (fun ch bx' hp => hp.elim) ?_;rintro o n' cs' r ⟨c, ho, rfl, rfl, rfl, rfl⟩;cases ho;conv => whnf
   rw [hq1];conv => whnf
   unfold jih;refine ⟨_, ?_, fun _ h => h⟩;conv => whnf
   refine ⟨?_, ?_⟩
   ·refine jaI 0 5 6 [] rfl rfl rfl rfl rfl rfl rfl (fun _ => hde) (fun ch bx' hp _ _ => ?_) ?_
    ·unfold pdQ at hp
     split at hp
     ·rename_i he
      rw [he] at hP;exact ji0 hP.symm hp
     ·exact hp.elim
    rintro o n' cs' r hdo;unfold doQ at hdo
    split at hdo
    rotate_left
    ·exact hdo.elim
    rename_i nm2 out r1 he
    obtain ⟨ho, rfl, rfl, rfl⟩ := hdo
    rw [he] at hP
    simp only at hP
    obtain ⟨k1, k2, k3, k4⟩ := jcw _ _ _ _ _ _ _ g1 hkd g3 he
    simp only [List.length_nil] at k4;cases ho;conv => whnf
    refine ⟨⟨by simp only; unfold maxLen; omega, by simp only; omega⟩, ?_⟩;conv => whnf
    refine ⟨(n, nm2, du, vo ++ out, r1), jas [6, 1, 2] ?_, ⟨k1, by simp only; omega, k3, by simp only [List.length_append]; omega, hP⟩, by simp only; omega⟩;conv => whnf
    simp only [List.length_append, jjI]
    repeat' constructor
   ·refine jaI 0 5 6 [] rfl rfl rfl rfl rfl rfl rfl (fun _ => hde) (fun ch bx' hp _ _ => ?_) ?_
    ·unfold pdQ at hp
     split at hp
     ·rename_i he
      rw [he] at hP;exact ji0 hP.symm hp
     ·exact hp.elim
    rintro o n' cs' r hdo;unfold doQ at hdo
    split at hdo
    rotate_left
    ·exact hdo.elim
    rename_i nm2 out r1 he
    obtain ⟨ho, rfl, rfl, rfl⟩ := hdo
    rw [he] at hP
    simp only at hP
    obtain ⟨k1, k2, k3, k4⟩ := jcw _ _ _ _ _ _ _ g1 hkd g3 he
    simp only [List.length_nil] at k4;cases ho;conv => whnf
    refine ⟨⟨by simp only; unfold maxLen; omega, by simp only; omega⟩, ?_⟩;conv => whnf
    refine ⟨(n, nm2, du, vo ++ out, r1), jas [6, 1, 2] ?_, ⟨k1, by simp only; omega, k3, by simp only [List.length_append]; omega, hP⟩, by simp only; omega⟩;conv => whnf
    simp only [List.length_append, jjI]
    repeat' constructor
  | false =>
   rw [if_neg (by rw [hq2]; simp)] at hP
   have g4' : du.length + vo.length <= 1000001 := by omega
   conv => whnf
   refine jbU (jat _ _ _ _) (by kernel_rfl) ?_;conv => whnf
   refine jbU (jat _ _ _ _) (by kernel_rfl) ?_;conv => whnf
   refine jtc [4] ?_;conv => whnf
   refine jgP [1, 2, 5] ?_;conv => whnf
   refine jak [0, 2, 3, 4] ?_;conv => whnf
   refine jaJ (fun x : Nat × List (Int × Nt) × List Tk => []) (fun x => [bxQ nm x.2.2, jhJ, [.own 0, .own 1, .v (.slice none 0 0)]]) (fun x => [.live 9 1 du.length (txA du), .live 9 1 vo.length (txA vo), .live 114 0 x.2.1.length [.clo 0 (mkA (jfL x.2.1)), .clo 0 (mvA (jfL x.2.1))]])
    (fun x => TkP x.2.2 /\ x.2.2.length + 1 <= x.1 /\ (x.2.1.map (·.1)).Nodup /\ x.2.1.length + x.2.2.length <= 1000000 /\ jp1 du vo x.1 x.2.1 x.2.2 = P) (fun x => x.2.2.length) (ts0.length + 1, [], ts0) ?_ ⟨g1, Nat.le_refl _, List.nodup_nil, by have := g1.1.2; simp only [List.length_nil]; omega, hP⟩ ?_
   ·repeat' constructor
    show Row.live _ _ _ _ = Row.live _ 0 0 [.clo 0 (mkA (jfL [])), .clo 0 (mvA (jfL []))]
    rw [show jfL [] = [] from rfl, jwP, jwl]
   clear hP hq1 hq2 his hpos g2 g1;rintro ⟨n0, hs, ts1⟩ ⟨g1, g2, gnd, g5, hP⟩
   simp only at g1 g2 gnd g5 hP
   obtain ⟨n1, rfl⟩ : ∃ n1, n0 = n1 + 1 := ⟨n0 - 1, by omega⟩
   have hpos := g1.pos
   rw [jso] at hP
   have hr := jdI hpos
   have htl := g1.tail
   have hbl := fun r (q : TkP r) => jn8 nm r q
   generalize ht1 : hd ts1 = t1 at *;conv => whnf
   (refine goA ?_; try with_reducible exact trivial)
   (generalize hrq : jae _ _ (jer ts1) = rq; obtain rfl : rq = tkL t1 := hrq.symm.trans (hr); clear hrq; conv => whnf)
   by_cases hk : t1.kind = 0
   ·rw [decide_eq_true hk];rw [if_pos hk] at hP;conv => whnf
    refine jqi 2 ?_;refine jiL _ ?_;conv => whnf
    have hlh : (jfL hs).length = hs.length := by unfold jfL; rw [List.length_map]
    have hso := jkr (jfL hs) ((jpE hs).2 gnd) (by omega)
    rw [joT, hlh] at hso
    have hpm := jfQ hs
    have hfind := fun h (hm : h ∈ jjl hs) => jti gnd (hpm.mem_iff.1 hm)
    have hln : hs.length = (jjl hs).length := hpm.length_eq.symm
    rw [hln] at hso;refine jb6 (jat _ _ _ _) (by kernel_rfl) ?_;conv => whnf
    refine jAa 3 [] rfl rfl (fun _ => jpy _ _) ?_;rintro e k n r x ⟨rfl, rfl, rfl, rfl, rfl⟩;conv => whnf
    refine jxE 3 4 [] rfl rfl rfl rfl (fun _ => hso) ?_;rintro n' cs' r rfl;generalize jjl hs = L at *;conv => whnf
    refine jcM 59 5 [] [(2, 2)] ?_;conv => whnf
    refine ⟨trivial, ?_⟩;conv => whnf
    refine jgP [0, 1, 5] ?_;conv => whnf
    refine jak [2, 3, 4, 50, 51] ?_;conv => whnf
    refine jaJ (fun j : Nat => [(52, .v (.int .i64 j))]) (fun _ => [bxQ nm ts1, jhJ, [.own 0, .own 1, .own 2]]) (fun j => [.live 9 1 du.length (txA du), .live 9 1 vo.length (txA vo), .live 59 5 (L.take j).length (jm1 (L.take j))])
     (fun j => j <= L.length) (fun j => L.length - j) 0 ?_ (Nat.zero_le _) ?_
    ·repeat' constructor
     show Row.live _ _ _ _ = Row.live _ 5 0 (jm1 [])
     rw [jod]
    intro j hj;conv => whnf
    by_cases hlt : j < L.length
    ·have hrow : jae 1 j ((L.map fun x => x.1).map jao) = [jao L[j].1] := by
      have := jbQ jao (L.map fun x => x.1) j (by simpa using hlt)
      rw [this, List.getElem_map]
     have hfj := hfind L[j] (List.getElem_mem hlt)
     have htk : L.take (j + 1) = L.take j ++ [L[j]] := List.take_succ_eq_append_getElem hlt
     have hlj : (L.take j).length = j := by rw [List.length_take]; omega
     generalize L[j] = h at *
     (refine goA ?_; try with_reducible exact trivial)
     (generalize hrq : jae _ _ ((L.map fun x => x.1).map jao) = rq; obtain rfl : rq = [jao h.1] := hrq.symm.trans (hrow); clear hrq; conv => whnf)
     refine jc5 _ _ ?_;rw [hfj];conv => whnf
     refine ⟨⟨by unfold maxLen; omega, by omega⟩, ?_⟩;conv => whnf
     refine ⟨jaL (by omega), ?_⟩;conv => whnf
     refine ⟨j + 1, jas [0, 1, 2] ?_, hlt, by omega⟩;conv => whnf
     rw [htk]
     repeat' constructor
     show Row.live _ 5 _ _ = Row.live _ 5 (L.take j ++ [h]).length (jm1 (L.take j ++ [h]))
     rw [jkQ, List.length_append]; rfl
    ·(refine goA ?_; try with_reducible exact trivial)
     rw [show j = L.length by omega, List.take_length];subst hP;exact ⟨⟨nm, ts1, rfl⟩, rfl⟩
   ·rw [decide_eq_false hk];rw [if_neg hk] at hP
    obtain ⟨q1, q2⟩ := htl hk
    have hx := jah nm ts1 hpos wOn
    rw [ht1] at hx;generalize ts1.tail = ts2 at *
    have hh := jrh nm hs ts2 q1
    rw [jtX, <- jsT] at hh
    have hhok := fun k r => juq (hs := hs) (k := k) (r := r) q1
    conv => whnf
    refine ja8 0 [] rfl rfl rfl rfl (fun _ => hx) (fun ch bx' hp => ?_) ?_
    ·rw [if_pos hp.1] at hP;exact ji0 hP.symm hp.2
    rintro o r ⟨hon, ho, rfl⟩;cases ho;rw [if_neg (by rw [hon]; simp)] at hP;conv => whnf
    refine jz1 0 2 rfl rfl rfl (jiL _ rfl) rfl hh (fun o r hho => ?_) (fun ch bx' hp _ _ => ?_) ?_
    ·unfold hoQ at hho
     split at hho
     ·obtain ⟨rfl, rfl⟩ := hho
      exact ⟨fun c hc => by rw [List.mem_singleton.1 hc]; exact jua _ _, rfl⟩
     ·exact hho.elim
    ·unfold phQ at hp
     split at hp
     ·rename_i he
      rw [he] at hP;exact ji0 hP.symm hp
     ·exact hp.elim
    rintro o r hho;unfold hoQ at hho
    split at hho
    rotate_left
    ·exact hho.elim
    rename_i k r1 he
    obtain ⟨ho, rfl⟩ := hho
    rw [he] at hP
    simp only at hP
    obtain ⟨hnk, k1, k2⟩ := hhok _ _ he
    have hb := hbl r1 k1
    cases ho;conv => whnf
    refine ja8 0 [] rfl rfl rfl rfl (fun _ => hb) (fun ch bx' hp => ?_) ?_
    ·obtain ⟨x, e, he, hc⟩ := jaN hp
     rw [he] at hP;exact ji0 hP.symm hc
    rintro o r hpo
    obtain ⟨b, r2, he2, ho, rfl⟩ := jau hpo
    cases ho;rw [he2] at hP
    simp only at hP
    obtain ⟨k3, k4⟩ := jgY _ _ _ k1 he2
    conv => whnf
    refine jse (fun p hp => ?_) ?_
    ·unfold jfL at hp
     obtain ⟨q, hq, rfl⟩ := List.mem_map.1 hp
     exact hnk q hq
    conv => whnf
    refine ⟨(n1, hs ++ [(k, b)], r2), jas [0, 1, 2] ?_, ⟨k3, by simp only; omega, ?_, by simp only [List.length_append, List.length_cons, List.length_nil]; omega, hP⟩, by simp only; omega⟩
    ·conv => whnf
     repeat' constructor
     show Row.live _ 0 (hs.length + 1) [.clo 0 (mkA (jfL hs ++ [(k, .agg (jao k :: ntA b))])), .clo 0 (mvA (jfL hs ++ [(k, .agg (jao k :: ntA b))]))] = Row.live _ 0 (hs ++ [(k, b)]).length [.clo 0 (mkA (jfL (hs ++ [(k, b)]))), .clo 0 (mvA (jfL (hs ++ [(k, b)])))]
     rw [jqW, List.length_append]; rfl
    ·simp only
     rw [List.map_append, List.nodup_append];refine ⟨gnd, by simp, fun a ha c hc e => ?_⟩
     simp at hc
     subst hc
     obtain ⟨q, hq, rfl⟩ := List.mem_map.1 ha
     exact hnk q hq e.symm
end Go.Proofs.YtmodkpibkkpcdaaGreatDoor.Vm
namespace Go.Proofs.YtmodkpibkkpcdaaGreatDoor.Vm
open Go.RowKit Go.Shelf
set_option linter.unusedSimpArgs false
set_option linter.unusedVariables false
set_option maxRecDepth 100000
theorem jxA {c : UInt8} (h : isD c = true) : c.toNat - 48 <= 9 := by
 simp only [isD, Bool.and_eq_true, decide_eq_true_eq] at h;omega
theorem jkc (n : Nat) : jwL n [] = n := rfl
theorem jlS (n : Nat) (c : UInt8) (r : List UInt8) : jwL n (c :: r) = jwL (10 * n + (c.toNat - 48)) r := by kernel_rfl
theorem jvE (l : List UInt8) : ∀ (n : Nat), jsD l = true -> jwL n l + 1 <= (n + 1) * 10 ^ l.length := by
 induction l with
 | nil => intro n _; rw [jkc]; simp
 | cons c r ih =>
  intro n h;simp only [jsD, List.all_cons, Bool.and_eq_true] at h
  have := jxA h.1
  have ih := ih (10 * n + (c.toNat - 48)) h.2
  rw [jlS, List.length_cons, Nat.pow_succ];refine Nat.le_trans ih ?_;generalize 10 ^ r.length = p at *;rw [show (n + 1) * (p * 10) = (10 * n + 10) * p by rw [Nat.mul_comm p 10, <- Nat.mul_assoc]; congr 1; omega];exact Nat.mul_le_mul_right _ (by omega)
theorem jmr {l : List UInt8} (h : l.length <= 10) : jm8 l := fun k hk hd => by
 have h1 := jvE _ 0 hd
 have h2 : (l.take k).length <= 10 := by rw [List.length_take]; omega
 have h3 : 10 ^ (l.take k).length <= 10 ^ 10 := Nat.pow_le_pow_right (by decide) h2
 have h4 : (10 : Nat) ^ 10 = 10000000000 := by decide
 omega
theorem jlj : ∀ (l : List UInt8) (n : Nat) (k : Nat), 0 <= jgy n l -> jsD l = true -> n <= 2147483647 -> jwL n (l.take k) <= 2147483647
 | [], n, k, _, _, hn => by rw [List.take_nil, jkc]; exact hn
 | c :: r, n, k, h, hd, hn => by
  simp only [jsD, List.all_cons, Bool.and_eq_true] at hd
  have hc := hd.1
  simp only [isD, Bool.and_eq_true, decide_eq_true_eq] at hc;rw [jgy] at h
  split at h
  ·omega
  ·rename_i hv
   cases k with
   | zero => rw [List.take_zero, jkc]; exact hn
   | succ k =>
    rw [List.take_succ_cons, jlS]
    have e : (((10 * n + (c.toNat - 48) : Nat)) : Int) = 10 * (n : Int) + c.toNat - 48 := by omega
    refine jlj r (10 * n + (c.toNat - 48)) k ?_ hd.2 (by omega);rw [e]; exact h
theorem jl6 : ∀ r : List UInt8, jsD (r.take (jaf isD r)) = true
 | [] => rfl
 | c :: r => by
  rw [jaf]
  cases h : isD c with
  | false => rfl
  | true =>
   simp only [List.take_succ_cons, jsD, List.all_cons, h, Bool.true_and];exact jl6 r
theorem jki (s : ByteArray) : (jp4 s).1.size <= s.size := by
 cases h : s.data.toList with
 | nil => rw [jtF h]; exact Nat.le_refl _
 | cons c r =>
  have hl := jbv s
  rw [h, List.length_cons] at hl
  by_cases hc : c = 118
  ·subst hc;rw [jxw h, jbB]; omega
  ·rw [jqz h hc]; exact Nat.le_refl _
theorem jhW {s : ByteArray} (h : s.size <= 10) : jm8 (jp4 s).1.data.toList := by
 have h1 := jki s
 have h2 := jbv (jp4 s).1
 exact jmr (by omega)
theorem jrN {l : List UInt8} {k : Int} {len : Nat} {n : Int} (h : jbh l = .tok k len n) : jm8 (jp4 (bs (l.take len))).1.data.toList := by
 have hle := jeu h
 have hsz : (bs (l.take len)).size = len := je2 l len hle.2
 cases l with
 | nil => simp [jbh] at h
 | cons c r =>
  cases hL : isL c
  ·cases hD : isD c
   ·refine jhW ?_
    cases h3 : jcF jia (bs ((c :: r).take 2))
    ·cases h4 : jcF jpH (bs [c])
     ·simp only [jbh, hL, hD, h3, h4] at h
      cases h
     ·simp only [jbh, hL, hD, h3, h4] at h
      cases h; omega
    ·simp only [jbh, hL, hD, h3] at h
     cases h; omega
   ·simp only [jbh, hL, hD] at h
    split at h
    ·cases h
    ·rename_i hv
     cases h
     have hc : c ≠ 118 := fun e => by subst e; simp [isD] at hD; 
     have hlist : (bs ((c :: r).take (jaf isD r + 1))).data.toList = c :: r.take (jaf isD r) := by rw [jb3, List.take_succ_cons]
     rw [jqz hlist hc, hlist];intro j hj hd
     have h0 : jsD (c :: r.take (jaf isD r)) = true := by
      simp only [jsD, List.all_cons, hD, Bool.true_and];exact jl6 r
     have := jlj (c :: r.take (jaf isD r)) 0 j (by simpa using hv) h0 (by omega)
     omega
  ·simp only [jbh, hL] at h
   split at h
   ·cases h
   ·cases h
    exact jhW (by omega)
theorem jej : ∀ (f p : Nat) (l : List UInt8), ∀ t ∈ (jeZ f p l).toks, jm8 (jp4 t.text).1.data.toList
 | 0, p, l => by simp [jeZ]
 | f + 1, p, [] => by simp [jeZ]
 | f + 1, p, c :: r => by
  rw [jeZ]
  split
  ·exact jej f _ _
  ·split
   ·exact jej f _ _
   ·cases ht : jbh (c :: r) with
    | bad e => simp
    | tok k len n =>
     intro t hm;simp only [Lx.cons, List.mem_cons] at hm
     rcases hm with rfl | hm
     ·exact jrN ht
     ·exact jej f _ _ t hm
theorem juT {e : Tk} (he : jlq e /\ e.kind = 0 /\ e.text.data.toList = []) : ∀ l : List Tk, (∀ t ∈ l, jlq t /\ t.kind ≠ 0) -> TkW (l ++ [e])
 | [], _ => ⟨he.1, .inl ⟨rfl, he.2⟩⟩
 | t :: l, h => ⟨(h t (by simp)).1, .inr ⟨(h t (by simp)).2, juT he l fun x hx => h x (by simp [hx])⟩⟩
theorem jvV {s : ByteArray} (hs : s.size <= 3000) (he : (jb4 s).err = none) : TkB (jko s) := by
 rw [jda he]
 have hl := jbv s
 have hlen := (jdP (s.data.toList.length + 1) 0 s.data.toList).1
 refine ⟨juT ⟨⟨?_, ?_, ?_, ?_⟩, rfl, rfl⟩ _ fun t ht => ?_, ?_⟩
 ·show (⟨#[]⟩ : ByteArray).size <= _; decide
 ·exact jhW (by show (⟨#[]⟩ : ByteArray).size <= _; decide)
 ·exact Nat.le_trans (jki _) (by show (⟨#[]⟩ : ByteArray).size <= _; decide)
 ·exact ⟨by show (0 : Int) <= 0; decide, by show (0 : Int) <= _; decide, by show s.size <= _; omega⟩
 ·have h1 := jh7 (s.data.toList.length + 1) 0 s.data.toList (by omega) t ht
  exact ⟨⟨h1.2.2.1, jej _ _ _ t ht, Nat.le_trans (jki _) h1.2.2.1, h1.2.2.2.1, h1.2.2.2.2, h1.2.1⟩, by have := h1.1.1; omega⟩
 ·have : (jb4 s).toks.length <= s.data.toList.length := hlen
  simp only [List.length_append, List.length_cons, List.length_nil];omega
def K6 (t : Tk) : Prop := (t.kind = 1 /\ ∃ c r, t.text.data.toList = c :: r /\ isL c = true /\ ∀ x ∈ c :: r, jbu x = true) ∨ (t.kind = 3 /\ ∃ c r, t.text.data.toList = c :: r /\ jbu c = false) ∨ (t.kind = 0 /\ t.text.data.toList = []) ∨ (t.kind = 2 /\ ∃ c r, t.text.data.toList = c :: r /\ isD c = true)
theorem jxj {l : List UInt8} {k : Int} {len : Nat} {n : Int} {p : Nat} (h : jbh l = .tok k len n) : K6 ⟨k, p, bs (l.take len), n⟩ := by
 unfold K6;simp only [jb3]
 cases l with
 | nil => simp [jbh] at h
 | cons c r =>
  cases hL : isL c
  ·cases hD : isD c
   ·have h3 : k = 3 /\ (len = 1 ∨ len = 2) := by
     cases h3 : jcF jia (bs ((c :: r).take 2))
     ·cases h4 : jcF jpH (bs [c])
      ·simp only [jbh, hL, hD, h3, h4] at h
       cases h
      ·simp only [jbh, hL, hD, h3, h4] at h
       cases h; exact ⟨rfl, .inl rfl⟩
     ·simp only [jbh, hL, hD, h3] at h
      cases h; exact ⟨rfl, .inr rfl⟩
    right; left
    refine ⟨h3.1, c, r.take (len - 1), ?_, by unfold jbu; rw [hL, hD]; rfl⟩
    rcases h3.2 with e | e <;> rw [e] <;> rfl
   ·simp only [jbh, hL, hD] at h
    split at h
    ·cases h
    ·cases h
     exact .inr (.inr (.inr ⟨rfl, c, r.take (jaf isD r), List.take_succ_cons, hD⟩))
  ·simp only [jbh, hL] at h
   split at h
   ·cases h
   ·cases h
    left
    refine ⟨rfl, c, r.take (jaf jbu r), List.take_succ_cons, hL, fun x hx => ?_⟩
    rcases List.mem_cons.1 hx with rfl | hx
    ·unfold jbu; rw [hL]; rfl
    ·exact jh5 jbu r x hx
theorem jjS : ∀ (f p : Nat) (l : List UInt8), ∀ t ∈ (jeZ f p l).toks, K6 t
 | 0, p, l => by simp [jeZ]
 | f + 1, p, [] => by simp [jeZ]
 | f + 1, p, c :: r => by
  rw [jeZ]
  split
  ·exact jjS f _ _
  ·split
   ·exact jjS f _ _
   ·cases ht : jbh (c :: r) with
    | bad e => simp
    | tok k len n =>
     intro t hm;simp only [Lx.cons, List.mem_cons] at hm
     rcases hm with rfl | hm
     ·exact jxj ht
     ·exact jjS f _ _ t hm
theorem jxz {s : ByteArray} (he : (jb4 s).err = none) : ∀ t ∈ jko s, K6 t := fun t ht => by
 rw [jda he, List.mem_append] at ht
 rcases ht with ht | ht
 ·exact jjS _ _ _ t ht
 ·rw [List.mem_singleton.1 ht];exact .inr (.inr (.inl ⟨rfl, rfl⟩))
theorem jpb {c : UInt8} (h : jbu c = true) : c ≠ 32 := fun e => by subst e; revert h; decide
theorem juR {t : Tk} (h : K6 t) : wOk t := fun hk => by
 rcases h with ⟨_, c, r, h1, _, h3⟩ | ⟨h1, _⟩ | ⟨h1, _⟩ | ⟨h1, _⟩
 ·rw [h1];exact ⟨by simp, fun x hx => jpb (h3 x hx)⟩
 ·omega
 ·omega
 ·omega
theorem jwA {s : ByteArray} (hs : s.size <= 3000) (he : (jb4 s).err = none) : TkP (jko s) := ⟨jvV hs he, fun t ht => juR (jxz he t ht)⟩
def okE (x e : Int) : Prop := (0 <= x /\ x <= 1000000000) /\ 0 < e /\ e <= 100
def jmb (p : Pn) : Prop := match p with
 | .bad x e => okE x e
 | _ => True
def ji5 (op : List Tk -> Pn) : Prop := ∀ ts, TkP ts -> jmb (op ts)
theorem TkP.hp {ts : List Tk} (h : TkP ts) : (Vm.hd ts).pos <= 1000000000 := h.good.2.2.2.2.2
theorem jdN {ts : List Tk} (h : TkP ts) {e : Int} (he : 0 < e /\ e <= 100) : jmb (.bad (hd ts).pos e) := ⟨⟨by omega, by have := h.hp; omega⟩, he⟩
theorem jaA {p : Pn} {k : Nt -> List Tk -> Pn} (h : jmb p) (hk : ∀ f r, p = .ok f r -> jmb (k f r)) : jmb (p.andThen k) := by
 cases p with
 | ok f r => exact hk f r rfl
 | bad x e => exact h
theorem jbA {s : ByteArray} {ts : List Tk} {k : List Tk -> Pn} (h : TkP ts) (hk : TkP ts.tail -> jmb (k ts.tail)) : jmb (xpt s ts k) := by
 unfold xpt
 by_cases hs : isP s ts = true
 ·rw [if_pos hs]; exact hk (h.is hs).1
 ·rw [if_neg hs]; exact jdN h (by decide)
theorem jmj {lim : Int} {ts : List Tk} {k : Int -> List Tk -> Pn} (h : TkP ts) (hk : TkP ts.tail -> jmb (k (hd ts).n ts.tail)) : jmb (jgL lim ts k) := by
 unfold jgL
 by_cases h1 : (hd ts).kind ≠ 2
 ·rw [if_pos h1]; exact jdN h (by decide)
 ·rw [if_neg h1]
  by_cases h2 : lim <= (hd ts).n
  ·rw [if_pos h2]; exact jdN h (by decide)
  ·rw [if_neg h2];exact hk (h.tail (by rw [Decidable.not_not.1 h1]; decide)).1
theorem jg6 {ts : List Tk} (h : TkP ts) : jmb (synE ts) := jdN h (by decide)
def jsr (low : Option Pa) : Prop := ∀ p, low = some p -> ji5 p.no /\ ji5 p.un /\ ji5 p.ex /\ ji5 p.bl
theorem jnB {low : Option Pa} (hg : jkm low) (hl : jsr low) : ji5 (jfZ low) := fun ts h => by
 unfold jfZ
 by_cases hs : isP pLp ts = true
 ·rw [if_pos hs]
  cases low with
  | none => exact jdN h (by decide)
  | some p =>
   have q := (h.is hs).1
   exact jaA ((hl p rfl).2.2.1 _ q) fun f r e => jbA ((hg p rfl).2.2.1 _ _ _ q e).1 fun _ => trivial
 ·rw [if_neg hs]; exact jg6 h
theorem jaD {c : Prop} [Decidable c] {a b : Pn} (h1 : c -> jmb a) (h2 : ¬ c -> jmb b) : jmb (if c then a else b) := by
 by_cases h : c
 ·rw [if_pos h]; exact h1 h
 ·rw [if_neg h]; exact h2 h
theorem jt8 {low : Option Pa} (hg : jkm low) (hl : jsr low) : ji5 (jca low) := fun ts h => by
 unfold jca
 refine jaD (fun hs => jnB hg hl ts h) fun _ => ?_
 refine jaD (fun hs => jaA (jnB hg hl _ (h.is hs).1) fun _ _ _ => trivial) fun _ => ?_
 refine jaD (fun hs => trivial) fun _ => ?_
 refine jaD (fun hs => trivial) fun _ => ?_
 refine jaD (fun hs => trivial) fun _ => ?_
 refine jaD (fun hs => trivial) fun _ => ?_
 exact jaD (fun hs => trivial) fun _ => jg6 h
theorem jpQ {s : ByteArray} {op : Option (List Tk -> Pn)} (hl : ∀ f, op = some f -> ji5 f) {ts : List Tk} (h : TkP ts) (hs : isP s ts = true) : jmb (jpJ s op ts) := by
 cases op with
 | none => exact jdN h (by decide)
 | some f => exact jaA (hl f rfl _ (h.is hs).1) fun _ _ _ => trivial
theorem jqM {low : Option Pa} (hg : jkm low) (hl : jsr low) : ji5 (jfK low) := fun ts h => by
 unfold jfK
 refine jaD (fun hs => jpQ (fun f hf => ?_) h hs) fun _ => jt8 hg hl ts h
 obtain ⟨p, hp, rfl⟩ := Option.map_eq_some_iff.1 hf
 exact (hl p hp).2.1
theorem jlp {op : List Tk -> Pn} (hg : jaX op) (ho : ji5 op) (signs : List ByteArray) : ∀ (n : Nat) (l : Nt) (ts : List Tk), TkP ts -> jmb (jcb op signs n l ts)
 | 0, l, ts, h => trivial
 | n + 1, l, ts, h => by
  rw [jcb]
  refine jaD (fun hs => ?_) fun _ => trivial
  obtain ⟨s, hs⟩ := jg8 hs
  have q := (h.is hs).1
  exact jaA (ho _ q) fun f r e => jlp hg ho signs n _ _ (hg _ _ _ q e).1
theorem jjR {op : List Tk -> Pn} (hg : jaX op) (ho : ji5 op) (signs : List ByteArray) : ji5 (jcG op signs) := fun ts h => by
 unfold jcG
 exact jaA (ho _ h) fun f r e => jlp hg ho signs _ _ _ (hg _ _ _ h e).1
theorem jrz {low : Option Pa} (hg : jkm low) (hl : jsr low) : ji5 (jp3 low) := jjR (jcK (jel hg) _) (jjR (jel hg) (jqM hg hl) _) _
theorem jpV {low : Option Pa} (hg : jkm low) (hl : jsr low) : ji5 (ntG low) := fun ts h => by
 unfold ntG
 refine jaD (fun hs => jpQ (fun f hf => ?_) h hs) fun _ => ?_
 ·obtain ⟨p, hp, rfl⟩ := Option.map_eq_some_iff.1 hf
  exact (hl p hp).1
 ·refine jaA (jrz hg hl _ h) fun l r e => ?_
  have q := (jgB hg _ _ _ h e).1
  refine jaD (fun hs => ?_) fun _ => trivial
  obtain ⟨s, hs⟩ := jg8 hs
  exact jaA (jrz hg hl _ (q.is hs).1) fun _ _ _ => trivial
theorem jrt {low : Option Pa} (hg : jkm low) (hl : jsr low) : ji5 (jnU low) := jjR (jcK (jen hg) _) (jjR (jen hg) (jpV hg hl) _) _
theorem jxc {ex bl : List Tk -> Pn} (gex : jaX ex) (gbl : jaX bl) (hex : ji5 ex) (hbl : ji5 bl) : ji5 (stG ex bl) := fun ts h => by
 unfold stG
 refine jaD (fun hn => ?_) fun _ => ?_
 ·have q := (h.tail (by rw [jdk hn]; decide)).1
  exact jbA q fun q => jaA (hex _ q) fun f r e => jbA (gex _ _ _ q e).1 fun _ => trivial
 refine jaD (fun _ => jg6 h) fun hk => ?_
 have q := (h.tail (by rw [Decidable.not_not.1 hk]; decide)).1
 refine jaD (fun _ => jaA (hex _ q) fun f r e => jaA (hbl _ (gex _ _ _ q e).1) fun f2 r2 e2 => jaD (fun hs => jaA (hbl _ ((gbl _ _ _ (gex _ _ _ q e).1 e2).1.is hs).1) fun _ _ _ => trivial) fun _ => trivial) fun _ => ?_
 refine jaD (fun _ => jaA (hex _ q) fun f r e => jaA (hbl _ (gex _ _ _ q e).1) fun _ _ _ => trivial) fun _ => ?_
 refine jaD (fun _ => jaA (hex _ q) fun f r e => jbA (gex _ _ _ q e).1 fun q => jmj q fun q => jbA q fun q => jaA (hex _ q) fun f r e => jbA (gex _ _ _ q e).1 fun q => jaA (hex _ q) fun f r e => jbA (gex _ _ _ q e).1 fun _ => trivial) fun _ => ?_
 refine jaD (fun _ => jmj q fun q => jbA q fun _ => trivial) fun _ => ?_
 refine jaD (fun _ => jmj q fun q => jbA q fun _ => trivial) fun _ => ?_
 refine jaD (fun _ => jbA q fun _ => trivial) fun _ => ?_
 refine jaD (fun _ => jaA (hex _ q) fun f r e => jbA (gex _ _ _ q e).1 fun q => jaA (hex _ q) fun f r e => jbA (gex _ _ _ q e).1 fun _ => trivial) fun _ => ?_
 refine jaD (fun _ => jaA (hex _ q) fun f r e => jbA (gex _ _ _ q e).1 fun _ => trivial) fun _ => ?_
 exact jaD (fun _ => jbA q fun _ => trivial) fun _ => jg6 h
theorem jnm {st : List Tk -> Pn} (gst : GoesS st) (hst : ji5 st) : ∀ (n : Nat) (acc : List Nt) (ts : List Tk), TkP ts -> jmb (ji3 st n acc ts)
 | 0, acc, ts, h => jg6 h
 | n + 1, acc, ts, h => by
  rw [ji3]
  exact jaD (fun _ => trivial) fun _ => jaA (hst _ h) fun f r e => jnm gst hst n _ _ (gst _ _ _ h e).1
theorem jxf {st : List Tk -> Pn} (gst : GoesS st) (hst : ji5 st) : ji5 (bkF st) := fun ts h => by
 unfold bkF
 exact jbA h fun q => jnm gst hst _ _ _ q
theorem ju0 {low : Option Pa} (hl : jsr low) : ji5 (jx5 low) := by
 cases low with
 | none => exact fun ts h => jaD (fun _ => jdN h (by decide)) fun _ => jg6 h
 | some p => exact (hl p rfl).2.2.2
theorem juM {low : Option Pa} (hg : jkm low) (hl : jsr low) : jsr (some (paG low)) := fun p hp => by
 cases hp
 exact ⟨jpV hg hl, jqM hg hl, jrt hg hl, jxf (jkd (jdz hg) (jdn hg)) (jxc (jdz hg) (jdn hg) (jrt hg hl) (ju0 hl))⟩
theorem jnM : ∀ d, jkm (some (pa d)) /\ jsr (some (pa d))
 | 0 => ⟨jng (fun _ h => by cases h), juM (fun _ h => by cases h) (fun _ h => by cases h)⟩
 | d + 1 => ⟨jng (jnM d).1, juM (jnM d).1 (jnM d).2⟩
theorem jwY : ji5 (pa 19).bl := ((jnM 19).2 _ rfl).2.2.2
theorem jce {ts : List Tk} (h : TkP ts) {e : Int} (he : 0 < e /\ e <= 100) : okE (hd ts).pos e := jdN h he
theorem jnI {lim off : Int} {ts : List Tk} (h : TkP ts) {x e : Int} (k : jpI lim off ts = .bad x e) : okE x e := by
 unfold jpI at k
 split at k
 ·cases k; exact jce h (by decide)
 ·split at k
  ·cases k; exact jce h (by decide)
  ·cases k
theorem jxl {hs : List (Int × Nt)} {ts : List Tk} (h : TkP ts) {x e : Int} (k : heF hs ts = .bad x e) : okE x e := by
 unfold heF at k
 cases hh : hnF ts with
 | bad x2 e2 =>
  rw [hh] at k
  cases k
  unfold hnF at hh
  by_cases h1 : isP wStart ts = true
  ·rw [if_pos h1] at hh; cases hh
  rw [if_neg h1] at hh
  by_cases h2 : isP wRequest ts = true
  ·rw [if_pos h2] at hh; cases hh
  rw [if_neg h2] at hh
  by_cases h3 : isP wTimer ts = true
  ·rw [if_pos h3] at hh; exact jnI (h.is h3).1 hh
  rw [if_neg h3] at hh
  by_cases h4 : isP wMessage ts = true
  ·rw [if_pos h4] at hh; exact jnI (h.is h4).1 hh
  rw [if_neg h4] at hh
  cases hh
  exact jce h (by decide)
 | ok k2 r2 =>
  rw [hh] at k
  simp only at k
  split at k
  ·cases k; exact jce h (by decide)
  ·cases k
theorem juL (du vo : List ByteArray) : ∀ (n : Nat) (hs : List (Int × Nt)) (ts : List Tk) (x e : Int), TkP ts -> jp1 du vo n hs ts = .bad x e -> okE x e
 | 0, hs, ts, x, e, h, k => by cases k; exact jce h (by decide)
 | n + 1, hs, ts, x, e, h, k => by
  rw [jso] at k
  by_cases hk : (hd ts).kind = 0
  ·rw [if_pos hk] at k; cases k
  rw [if_neg hk] at k
  by_cases ho : isP wOn ts = false
  ·rw [if_pos ho] at k; cases k; exact jce h (by decide)
  rw [if_neg ho] at k
  have q := (h.tail hk).1
  cases hh : heF hs ts.tail with
  | bad x2 e2 => rw [hh] at k; cases k; exact jxl q hh
  | ok k2 r =>
   rw [hh] at k
   simp only at k
   obtain ⟨_, q2, _⟩ := juq q hh
   have hb := jwY _ q2
   cases hbl : (pa 19).bl r with
   | bad x2 e2 => rw [hbl] at k hb; cases k; exact hb
   | ok b r2 =>
    rw [hbl] at k;exact juL du vo n _ _ _ _ (jgY _ _ _ q2 hbl).1 k
theorem jqU : ∀ (n : Nat) (nm out : List ByteArray) (ts : List Tk) (x e : Int), TkP ts -> (hd ts).kind ≠ 0 -> jit n nm out ts = .bad x e -> okE x e
 | 0, nm, out, ts, x, e, h, hk, k => by cases k; exact jce h (by decide)
 | n + 1, nm, out, ts, x, e, h, hk, k => by
  rw [jjK] at k
  have q := (h.tail hk).1
  by_cases hn : jeL ts.tail = false
  ·rw [if_pos hn] at k; cases k; exact jce q (by decide)
  rw [if_neg hn] at k
  by_cases hh : jcF nm (hd ts.tail).text = true
  ·rw [if_pos hh] at k; cases k; exact jce q (by decide)
  rw [if_neg hh] at k
  by_cases h6 : nm.length = 16
  ·rw [if_pos h6] at k; cases k; exact jce q (by decide)
  rw [if_neg h6] at k
  have q3 := (q.tail (by rw [jdk (by simpa using hn)]; decide)).1
  unfold deH at k
  by_cases hc : isP pComma ts.tail.tail = true
  ·rw [if_pos hc] at k;exact jqU n _ _ _ _ _ q3 (jck hc) k
  ·rw [if_neg hc] at k
   by_cases hs : isP pSemi ts.tail.tail = true
   ·rw [if_pos hs] at k; cases k
   ·rw [if_neg hs] at k; cases k; exact jce q3 (by decide)
theorem jrH : ∀ (n : Nat) (nm du vo : List ByteArray) (ts : List Tk) (x e : Int), TkP ts -> nm.length <= 16 -> jlf n nm du vo ts = .bad x e -> okE x e
 | 0, nm, du, vo, ts, x, e, h, h16, k => by cases k; exact jce h (by decide)
 | n + 1, nm, du, vo, ts, x, e, h, h16, k => by
  rw [jlf] at k
  by_cases h1 : isP wDurable ts = true
  ·rw [if_pos h1] at k
   cases hd : jit ts.length nm [] ts with
   | bad x2 e2 => rw [hd] at k; cases k; exact jqU _ _ _ _ _ _ h (jck h1) hd
   | ok nm2 out r =>
    rw [hd] at k
    obtain ⟨k1, k2, k3, k4⟩ := jcw _ _ _ _ _ _ _ h (jck h1) h16 hd
    exact jrH n _ _ _ _ _ _ k1 k3 k
  rw [if_neg h1] at k
  by_cases h2 : isP wVolatile ts = true
  ·rw [if_pos h2] at k
   cases hd : jit ts.length nm [] ts with
   | bad x2 e2 => rw [hd] at k; cases k; exact jqU _ _ _ _ _ _ h (jck h2) hd
   | ok nm2 out r =>
    rw [hd] at k
    obtain ⟨k1, k2, k3, k4⟩ := jcw _ _ _ _ _ _ _ h (jck h2) h16 hd
    exact jrH n _ _ _ _ _ _ k1 k3 k
  rw [if_neg h2] at k;exact juL _ _ _ _ _ _ _ h k
theorem jtV {ts : List Tk} (h : TkP ts) {x e : Int} (k : jtw ts = .bad x e) : okE x e := jrH _ _ _ _ _ _ _ h (Nat.zero_le _) k
end Go.Proofs.YtmodkpibkkpcdaaGreatDoor.Vm
namespace Go.Proofs.YtmodkpibkkpcdaaGreatDoor.Vm
open Go.RowKit
set_option linter.unusedSimpArgs false
set_option linter.unusedVariables false
section
def ClD (P : Program) (f : Nat) (u u' : FrameMode) : Array Value -> World -> (Ending -> World -> Prop) -> Prop := fun vs w R => CallsD P f vs u w fun e m w' => m = u' /\ R e w'
theorem ClD.mono {P : Program} {f : Nat} {u u' : FrameMode} {vs : Array Value} {w : World} {R R' : Ending -> World -> Prop} (h : ∀ e w', R e w' -> R' e w') (k : ClD P f u u' vs w R) : ClD P f u u' vs w R' :=
 CallsD.mono k fun e m w' ⟨h1, h2⟩ => ⟨h1, h _ _ h2⟩
@[irreducible] def jzs (P : Program) (u u' : FrameMode) (f : Nat) (args : List A) (s : S) (K : S -> Prop) : Prop :=
 (∀ vs w, (callFunc f vs).run P w = .ok (.enter f vs) w) ∧
 ∃ (X ids : List Nat) (ins : List (List A)) (args' : List A) (post : List (List A) -> A -> Prop), X.Nodup /\ (∀ i ∈ X, i < s.bx.length) ∧
  jeM X (ja3 s.rw ids) (X.map fun i => s.bx.getD i []) = some ins /\ jcC X (ja3 s.rw ids) args = some args' /\ (okL args' -> jpd (ClD P f u u') ins args' post fun _ => False) ∧
  ∀ outs r, post outs r -> outs.length = X.length -> jpB X s.bx X outs fun bx' => jbM (back X r) fun _ => jaF (ja3 s.rw ids) fun rw' => jc7 s bx' rw' K
def jfi (c : Cx) (rv : List ResultVar) (post : List (List A) -> A -> Prop) : List (Nat × List A) -> FrameMode -> S -> Prop
 | [], .returning, s => jvj c rv post s
 | [], _, _ => False
 | (f, args) :: r, u, s => u ≠ .run /\ ∃ u', jzs c.P u u' f args s fun s' => jfi c rv post r (settle u') s'
section
variable {c : Cx} {w0 : W0} {C0 : Rd} {β0 : List Nat}
theorem jf9 {fn : Func} {post : List (List A) -> A -> Prop} {R : Ending -> World -> Prop} {tmps : Array Value} (hfin : ∀ s' w', jvj c fn.results.toList post s' -> Inv [] w0 C0 β0 s' { tmps := tmps, defers := [] } w' -> ∃ v, (results fn tmps).run c.P w' = .ok v w' /\ R (.returned v) w') :
  ∀ (dr : List (Nat × List A)) (ds : List Deferred) (u : FrameMode) (s : S) (E : Env) (w : World), repD dr E ds -> Hp w0 C0 β0 s.bx s.rw w E -> A.repL s.t E tmps.toList -> jfi c fn.results.toList post dr u s -> Leaves c.P fn tmps R ds u w
 | [], ds, u, s, E, w, hd, hp, ht, h => by
  obtain rfl : ds = [] := hd
  cases u with
  | returning => exact hfin s w h ⟨E, hp, ht, rfl⟩
  | run => exact h.elim
  | panicking ch => exact h.elim
 | (f, args) :: r, ds, u, s, E, w, ⟨d, ds', cap, hds, htg, hargs, hrest⟩, hp, ht, h => by
  subst hds
  obtain ⟨hu, u', h⟩ := h
  unfold jzs at h
  obtain ⟨hcall, X, ids, ins, args', post', hn, hX, hins, hargs', hspec, hk⟩ := h
  have hcx := jk5 (pan := fun _ _ => False) (Xr := fun _ => true) (K := fun _ s' => jfi c fn.results.toList post r (settle u') s') (Cl := ClD c.P f u u') ClD.mono hp hargs hn (fun _ _ => rfl) hX hins hargs' hspec (fun outs r hp hl => hk outs r hp hl) (fun ch bx' h _ _ => h.elim)
  obtain ⟨t, da⟩ := d
  simp only at htg hargs hcx
  subst htg;refine leaves_cons (f := f) (args := da ++ cap) hu (by simp [invoke, hcall]) ?_
  have hcx' : CallsD c.P f (da ++ cap) u w fun e m w' => m = u' /\ ((∃ y, e = .returned y /\ Left w0 C0 β0 (fun _ => true) s E w (fun _ s' => jfi c fn.results.toList post r (settle u') s') y w') ∨ ∃ (ch : List PanicEntry) (s' : S) (E' : Env), e = .panicked ch /\ False /\ s'.t = s.t /\ E.le E' /\ Hp w0 C0 β0 s'.bx s'.rw w' E') := hcx
  refine CallsD.mono hcx' ?_;rintro e m w' ⟨rfl, ⟨y, rfl, ⟨⟨r0, s', E', h1, h2, h3, h4, h5, _⟩⟩⟩ | ⟨ch, s', E', _, h, _⟩⟩
  ·exact jf9 hfin r ds' _ s' E' w' (hrest.mono h3) h4 (by rw [h2]; exact A.repL.mono _ h3 ht) h1
  ·exact h.elim
@[irreducible] def OkT (P : Program) (np : Nat) (pt : List (Nat × List A) -> List PanicEntry -> S -> Prop) (qt : List (Nat × List A) -> Exit -> S -> Prop) (dr : List (Nat × List A)) (x : Code) (s : S) : Prop :=
 ∀ (w0 : W0) (C0 : Rd) (β0 : List Nat) (a : Act) (w : World) (Q : Exit -> Act -> World -> Prop), β0.length = np -> Inv dr w0 C0 β0 s a w -> (∀ dr' ch s' a' w', pt dr' ch s' -> Inv dr' w0 C0 β0 s' a' w' -> Q (.panic ch) a' w') -> (∀ dr' e s' a' w', qt dr' e s' -> Inv dr' w0 C0 β0 s' a' w' -> Q e a' w') -> x.wp P Q a w
def tQ (P : Program) (np : Nat) (pt : List (Nat × List A) -> List PanicEntry -> S -> Prop) (qt : List (Nat × List A) -> Exit -> S -> Prop) (dr : List (Nat × List A)) (y : Code) (e : Exit) (s : S) : Prop := match e with
 | .normal => OkT P np pt qt dr y s
 | e => qt dr e s
variable {pt : List (Nat × List A) -> List PanicEntry -> S -> Prop} {qt : List (Nat × List A) -> Exit -> S -> Prop} {dr : List (Nat × List A)} {s : S}
theorem jbP {x : Code} (hc : c.ok) (hdr : ∃ n, jcl n dr = true) (hl : jcl c.np dr = true ∨ jch x = true) (ho : jbT c.ord x = true) (hp : ∀ ch s', c.pan ch s' -> pt dr ch s') (h : awp c x s (qt dr)) : OkT c.P c.np pt qt dr x s := by
 unfold OkT
 exact fun w0 C0 β0 a w Q hn hi hx hk => jdE hc hn hdr x hl (fun ch s' a' w' h1 h2 => hx dr ch s' a' w' (hp ch s' h1) h2) ho hi h fun e s' a' w' h1 h2 => hk dr e s' a' w' h1 h2
theorem ja7 {x y : Code} (hc : c.ok) (hdr : ∃ n, jcl n dr = true) (hl : jcl c.np dr = true ∨ jch x = true) (ho : jbT c.ord x = true) (hp : ∀ ch s', c.pan ch s' -> pt dr ch s') (h : awp c x s (tQ c.P c.np pt qt dr y)) : OkT c.P c.np pt qt dr (.seq x y) s := by
 unfold OkT;intro w0 C0 β0 a w Q hn hi hx hk;refine wp_seq (jdE hc hn hdr x hl (fun ch s' a' w' h1 h2 => hx dr ch s' a' w' (hp ch s' h1) h2) ho hi h fun e s' a' w' h1 h2 => ?_)
 cases e with
 | normal =>
  have h1 : OkT c.P c.np pt qt dr y s' := h1
  unfold OkT at h1;exact h1 w0 C0 β0 a' w' Q hn h2 hx hk
 | _ => exact hk dr _ _ _ _ h1 h2
def jB1 (s : S) (fo : Operand) (xs : List Operand) (K : Nat -> List A -> Prop) : Prop := match ev s fo with
 | .clo f caps => K f (xs.map (ev s) ++ caps)
 | .bm f fs => K f (fs ++ xs.map (ev s))
 | _ => False
theorem jji {ops l2 : List Oper} {Q : Exit -> Act -> World -> Prop} (hc : c.ok) (hdr : ∃ n, jcl n dr = true) (hx : ∀ ch s' a' w', c.pan ch s' -> Inv dr w0 C0 β0 s' a' w' -> Q (.panic ch) a' w') : ∀ {l : List Oper} {s : S} {a : Act} {w : World} {K : S -> Prop}, Inv dr w0 C0 β0 s a w -> jmt c ops l s K -> (∀ s' a' w', K s' -> Inv dr w0 C0 β0 s' a' w' -> wpList c.P ops.toArray Q l2 a' w') -> wpList c.P ops.toArray Q (l ++ l2) a w
 | [], s, a, w, K, hi, h, hk => hk s a w h hi
 | o :: r, s, a, w, K, hi, h, hk => by
  obtain ⟨E, hp, ht, hd⟩ := hi
  change jeX ops o s (ado c (fun _ => true) s o fun s' => jmt c ops r s' K) (jd4 s o.dst (.tup []) fun s' => jmt c ops r s' K) at h
  refine wpList_step fun Kc hKc => ?_
  rcases jcE ht h with ⟨h1, h2⟩ | ⟨h1, h2⟩
  ·rw [if_pos h1]
   exact jqu hc hdr ⟨E, hp, ht, hd⟩ h2 hx fun s' a' w' h3 h4 => hKc _ _ (jji hc hdr hx h4 h3 hk)
  ·rw [if_neg (by rw [h1]; simp)]
   obtain ⟨s2, k1, k2, k3, k4, k5⟩ := jaO (a := a) hp ht hd (jbj _) h2
   exact hKc _ _ (jji hc hdr hx ⟨E, by rw [k2, k3]; exact hp, k4, k5⟩ k1 hk)
theorem jqX {id : Nat} {l : List Oper} {od : Oper} {fo : Operand} {xs : Array Operand} {ts : Array TypeId} {y : Code} (hc : c.ok) (hdr : ∃ n, jcl n dr = true) (hp : ∀ ch s', c.pan ch s' -> pt dr ch s') (hop : od.op = .defer ⟨.value fo, xs, ts⟩) (hg : od.guard = none) (hd : od.dst = none)
  (h : jmt c (l ++ [od]) l s fun s' => jB1 s' fo xs.toList fun f args => OkT c.P c.np pt qt ((f, args) :: dr) y s') : OkT c.P c.np pt qt dr (.seq (.region id (l ++ [od]).toArray false) y) s := by
 unfold OkT;intro w0 C0 β0 a w Q hn hi hx hk;refine wp_seq (wp_region_lit (jji (l2 := [od]) (Q := Exit.then (y.wp c.P Q) Q) hc hdr (fun ch s' a' w' h1 h2 => hx dr ch s' a' w' (hp ch s' h1) h2) hi h fun s' a' w' h1 h2 => ?_))
 refine wpList_step fun Kc hKc => ?_
 rw [if_pos (by simp [Region.wanted, hg])]
 obtain ⟨E, hpp, ht, hdd⟩ := h2
 unfold jB1 at h1
 split at h1
 ·rename_i f caps hev
  have hf := jaj ht fo
  rw [hev] at hf;unfold A.rep at hf
  obtain ⟨us, hf, hcaps⟩ := hf
  have hrun : (execOp a'.eval od).run c.P w' = .ok (.defer { target := .fn (.func f) us, args := xs.map a'.eval }) w' := by simp [execOp, hop, resolve, Deferred.ofValue, hf, Result.andThen]
  unfold Oper.wp;rw [hrun, Oper.upon_defer];rw [hd];unfold OkT at h1;refine hKc _ _ (h1 w0 C0 β0 _ w' Q hn ⟨E, hpp, ht, { target := .fn (.func f) us, args := xs.map a'.eval }, a'.defers, us, rfl, rfl, ?_, hdd⟩ hx hk)
  have := A.repL_append (jcP ht xs.toList) hcaps
  simpa using this
 ·rename_i f fs hev
  have hf := jaj ht fo
  rw [hev] at hf;unfold A.rep at hf
  obtain ⟨us, hf, hcaps⟩ := hf
  have hrun : (execOp a'.eval od).run c.P w' = .ok (.defer { target := .fn (.func f) #[], args := us ++ xs.map a'.eval }) w' := by simp [execOp, hop, resolve, Deferred.ofValue, hf, Result.andThen]
  unfold Oper.wp;rw [hrun, Oper.upon_defer];rw [hd];unfold OkT at h1;refine hKc _ _ (h1 w0 C0 β0 _ w' Q hn ⟨E, hpp, ht, { target := .fn (.func f) #[], args := us ++ xs.map a'.eval }, a'.defers, #[], rfl, rfl, ?_, hdd⟩ hx hk)
  have := A.repL_append hcaps (jcP ht xs.toList)
  simpa using this
 ·exact h1.elim
theorem jkF {n : Nat} {ins : List (List A)} {args : List A} {w : World} {C : Rd} {β : List Nat} {vals : List Value} (h0 : Gok C w) (h1 : Sub C (see w)) (h2 : β.Nodup) (h3 : ∀ b ∈ β, ∀ o sp, C ⟨b, o, sp⟩ = none) (h4 : ins.length = β.length)
  (h5 : ∀ (i b : Nat) (cs : List A), β[i]? = some b -> ins[i]? = some cs -> boxAt w ⟨C, β, []⟩ b cs) (h6 : A.repL args ⟨C, β, []⟩ vals) :
  Inv [] (.of w) C β ⟨args ++ List.replicate (n - args.length) .dead, ins, []⟩ { tmps := vals.toArray ++ Array.replicate (n - vals.toArray.size) undef, defers := [] } w := by
 have hl := A.repL_len h6
 refine ⟨⟨C, β, []⟩, ⟨h1, Sub.refl _, fun _ _ hc => .inl hc, ⟨[], by simp, by simp⟩, h2, h3, h4, h5, rfl, fun g r y hg => by simp at hg, fun g e k n cs y b hg => by simp at hg, fun g e k n cs y h' e' k' n' cs' z b _ hg => by simp at hg, fun g y hg => by simp at hg, Keeps.refl _ _, jxa h0⟩, ?_, rfl⟩
 have : (vals.toArray ++ Array.replicate (n - vals.toArray.size) undef).toList = vals ++ List.replicate (n - args.length) undef := by simp [hl]
 rw [this];exact A.repL_append h6 (jdl _ _)
theorem jtT {f : Nat} {fn : Func} {x : Code} {ins : List (List A)} {args : List A} {post : List (List A) -> A -> Prop} (hc : c.ok) (hf : c.P.funcs[f]? = some fn) (hb : fn.body = some x) (hname : (fn.name == "runtime.NumGoroutine") = false)
  (hn : ins.length = c.np) (h : okL args -> jdU args (fn.ntmps - args.length) fun t => OkT c.P c.np (fun dr ch s => jfi c fn.results.toList post dr (.panicking ch) s) (fun dr e s => (e = .normal ∨ e = .ret) /\ jfi c fn.results.toList post dr .returning s) [] x ⟨t, ins, []⟩) : Spec c.P f ins args post := by
 refine ⟨jdu hf hb hname, fun w C β vals h0 h1 h2 h3 h4 h5 h6 => ?_⟩;refine calls_of_wp_defers hf hb ?_
 have hinit := initK_iff.1 (h (jbz _ h6))
 have hinv := jkF (n := fn.ntmps) h0 h1 h2 h3 h4 h5 h6
 unfold OkT at hinit
 have hfin : ∀ (tmps : Array Value) (s' : S) (w' : World), jvj c fn.results.toList post s' -> Inv [] (.of w) C β s' { tmps := tmps, defers := [] } w' -> ∃ v, (results fn tmps).run c.P w' = .ok v w' /\ ∃ outs r v', Ending.returned v = .returned v' /\ post outs r /\ Keeps β w w' /\ outs.length = β.length ∧
   (∀ (i b : Nat) (cs : List A), β[i]? = some b -> outs[i]? = some cs -> boxAt w' ⟨jbq C w w', β, []⟩ b cs) /\ r.rep ⟨jbq C w w', β, []⟩ v' := fun tmps s' w' hr hi =>
  (jrf (w := w) (C := C) (β := β) (fn := fn) (post := post) hc h1 (by rw [<- h4, hn]) hr hi).2
 refine hinit (.of w) C β _ w _ (by rw [<- h4, hn]) hinv (fun dr ch s' a' w' hl ⟨E, hp, ht, hd⟩ => ?_) (fun dr e s' a' w' hl ⟨E, hp, ht, hd⟩ => ?_)
 ·exact jf9 (hfin a'.tmps) dr a'.defers _ s' E w' hd hp ht hl
 ·obtain ⟨he, hl⟩ := hl
  rcases he with rfl | rfl
  ·exact jf9 (hfin a'.tmps) dr a'.defers _ s' E w' hd hp ht hl
  ·exact jf9 (hfin a'.tmps) dr a'.defers _ s' E w' hd hp ht hl
theorem jjE {c0 : Frame} {cs : List Frame} (h : c0.mode = .returning) : recoverD (c0 :: cs) = none := by
 simp [recoverD, h]
theorem jjA {c0 : Frame} {cs : List Frame} {v : Value} {older : List PanicEntry} (h : c0.mode = .panicking (⟨v, false, false⟩ :: older)) : recoverD (c0 :: cs) = some (v, { c0 with mode := .panicking (⟨v, true, false⟩ :: older) } :: cs) := by
 simp [recoverD, h]
theorem jrI {f id d0 : Nat} {fn : Func} {o0 : Oper} {ts : Array TypeId} {rest : Code} {ins : List (List A)} {args : List A} {post : List (List A) -> A -> Prop} {u u' : FrameMode} {rv : Value} (hc : c.ok) (hq : ∀ ch s, ¬ c.pan ch s) (hf : c.P.funcs[f]? = some fn) (hb : fn.body = some (.seq (.region id #[o0] false) rest))
  (k0 : o0.op = .call ⟨.builtin .recover, #[], ts⟩ /\ o0.guard = none /\ o0.dst = some d0) (hd0 : d0 < fn.ntmps) (hv : okV rv)
  (hu : (u = .returning /\ u' = .returning /\ rv = .nilIface) ∨ ∃ v older, u = .panicking (⟨v, false, false⟩ :: older) /\ u' = .panicking (⟨v, true, false⟩ :: older) /\ rv = v)
  (hn : ins.length = c.np) (h : okL args -> jdU args (fn.ntmps - args.length) fun t => Ok c rest ⟨t.set d0 (.v rv), ins, []⟩ (jyv c fn.results.toList post)) : jpd (ClD c.P f u u') ins args post fun _ => False := by
 intro w C β vals h0 h1 h2 h3 h4 h5 h6;unfold ClD
 refine callsD_of_wpS hf hb fun c0 cs hu0 => wpS_seq (wpS_region ?_)
 have hinit := initK_iff.1 (h (jbz _ h6))
 have hinv := jkF (n := fn.ntmps) h0 h1 h2 h3 h4 h5 h6
 have hnp : β.length = c.np := by rw [<- h4, hn]
 generalize hA : ({ tmps := vals.toArray ++ Array.replicate (fn.ntmps - vals.toArray.size) undef, defers := [] } : Act) = a0 at *
 have hsz : d0 < a0.tmps.size := by rw [<- hA]; simp; omega
 obtain ⟨E, hp, ht, hd⟩ := hinv
 have hi2 : Inv [] (.of w) C β ⟨(args ++ List.replicate (fn.ntmps - args.length) A.dead).set d0 (.v rv), ins, []⟩ (a0.put (some d0) rv) w := by
  refine ⟨E, hp, ?_, hd⟩
  show A.repL _ E (a0.tmps.setIfInBounds d0 rv).toList
  rw [Array.toList_setIfInBounds];exact A.repL_set ht d0 (A.rep_v hv)
 have e0 : (execOp a0.eval o0).run c.P w = .ok .recover w := by
  simp [execOp, k0.1, resolve, invoke, Result.andThen]
  rfl
 have hrange : List.range (#[o0] : Array Oper).size = [0] := rfl
 rw [hrange]
 have g0 : (#[o0] : Array Oper)[0]? = some o0 := rfl
 have w0' : ∀ y, Region.wanted o0 y = true := fun y => by simp [Region.wanted, k0.2.1]
 simp only [wpOpsS, g0, w0', if_true, e0];unfold Ok OkD at hinit
 have fin : ∀ cs', cs' = { c0 with mode := u' } :: cs -> rest.wpS c.P (bodyPostS c.P fn c0 cs fun e m w' => m = u' /\ ((∃ outs r v, e = .returned v /\ post outs r /\ Keeps β w w' /\ outs.length = β.length ∧
   (∀ (i b : Nat) (cs : List A), β[i]? = some b -> outs[i]? = some cs -> boxAt w' ⟨jbq C w w', β, []⟩ b cs) /\ r.rep ⟨jbq C w w', β, []⟩ v) ∨
   ∃ (ch : List PanicEntry) (ns : List Nat), e = .panicked ch /\ False /\ Keeps β w w' /\ ns.length = β.length /\ ∀ (i b n : Nat), β[i]? = some b -> ns[i]? = some n -> boxAt w' ⟨C, β, []⟩ b (List.replicate n .dead))) (a0.put (some d0) rv) cs' w := fun cs' hcs => by
  subst hcs;refine wpS_of_wp ?_
  refine hinit (.of w) C β _ w _ hnp hi2 (fun ch s' _ _ hh _ => absurd hh (hq ch s')) fun e s' a' w' he hi => ?_
  have ff := fun (hr : jvj c fn.results.toList post s') => jrf (w := w) (C := C) (β := β) (fn := fn) (post := post) hc h1 hnp hr hi
  cases e with
  | normal => obtain ⟨q1, v, q2, q3⟩ := ff he; exact ⟨q1, u', rfl, v, q2, rfl, .inl q3⟩
  | ret => obtain ⟨q1, v, q2, q3⟩ := ff he; exact ⟨q1, u', rfl, v, q2, rfl, .inl q3⟩
  | _ => exact he.elim
 rcases hu with ⟨rfl, rfl, rfl⟩ | ⟨v, older, rfl, rfl, rfl⟩
 ·rw [jjE hu0];simp only [k0.2.2];exact fin _ (by rw [<- hu0])
 ·rw [jjA hu0];simp only [k0.2.2];exact fin _ rfl
end
end
end Go.Proofs.YtmodkpibkkpcdaaGreatDoor.Vm
namespace Go.Proofs.YtmodkpibkkpcdaaGreatDoor.Vm
open Go.RowKit Go.Shelf
set_option linter.unusedSimpArgs false
set_option linter.unusedVariables false
set_option maxRecDepth 100000
theorem jpv (u : Ut) : jpd (ClD Tryz.prog 46 .returning .returning) [utA u, [jao 0], [jao 0]] [.box 0 0, .box 1 0, .box 2 0] (fun o r => o = [utA u, [jao 0], [jao 0]] /\ r = .tup []) fun _ => False := by
 refine jrI (ja2 jy6 (fun _ => [0, 1, 2]) 3) (fun _ _ h => h) Tryz.func46 rfl (d0 := 6) ⟨rfl, rfl, rfl⟩ (by decide) (rv := .nilIface) trivial (.inl ⟨rfl, rfl, rfl⟩) rfl ?_;intro _;conv => whnf
 refine jb6 (ja2 _ _ _) (by kernel_rfl) ?_;conv => whnf
 exact ⟨rfl, rfl⟩
theorem jpg (x e : Int) (hx : okE x e) (c0 c1 c2 b1 b2 : A) : jpd (ClD Tryz.prog 46 (.panicking (jaC x e)) (.panicking [⟨.iface 80 (.agg #[.int .i64 x, .int .i64 e]), true, false⟩])) [[c0, c1, c2], [b1], [b2]] [.box 0 0, .box 1 0, .box 2 0]
  (fun o r => o = [jhJ, [jao x], [jao e]] /\ r = .tup []) fun _ => False := by
 obtain ⟨hx, he⟩ := hx
 refine jrI (ja2 jy6 (fun _ => [0, 1, 2]) 3) (fun _ _ h => h) Tryz.func46 rfl (d0 := 6) ⟨rfl, rfl, rfl⟩ (by decide) (rv := .iface 80 (.agg #[.int .i64 x, .int .i64 e])) trivial (.inr ⟨_, [], rfl, rfl, rfl⟩) rfl ?_;intro _;conv => whnf
 refine jb6 (ja2 _ _ _) (by kernel_rfl) ?_;conv => whnf
 refine ⟨?_, ?_⟩
 ·intro u hu
  simp at hu
  rcases hu with rfl | rfl
  ·exact okV_int.2 (jaL (by omega))
  ·exact okV_int.2 (jaL (by omega))
 conv => whnf
 exact ⟨rfl, rfl⟩
def jr9 : PU -> A
 | .ok u => .tup [.agg (utA u), jao 0, jao 0]
 | .bad x e => .tup [.agg jhJ, jao x, jao e]
def jzS (p : PU) (ch : List PanicEntry) (s : S) : Prop := ∃ (x e : Int) (c0 c1 c2 : A) (bx : List (List A)) (a b : A) (t : List A), p = .bad x e /\ okE x e /\ ch = jaC x e /\ s.bx = jhJ :: [jao 0] :: [jao 0] :: bx /\ s.t = a :: b :: .box 0 0 :: .box 1 0 :: .box 2 0 :: t /\ s.rw = []
theorem jAm {l : List (List A)} {a b c d : List A} (h : l.length = 4) (k : ∀ j, j ≠ 3 -> l[j]? = [a, b, c, d][j]?) : ∃ d', l = [a, b, c, d'] := by
 match l, h with
 | [x, y, z, w], _ =>
  have h0 := k 0 (by decide)
  have h1 := k 1 (by decide)
  have h2 := k 2 (by decide)
  simp at h0 h1 h2
  exact ⟨w, by rw [h0, h1, h2]⟩
def jig (id : Nat) : Tr := match Nat.beq id 5 with
 | true => .q 0 3 (.alt 1 2 (.alt 2 2 (.alt 3 2 (.alt 4 2 (.alt 5 2 .nil .nil) .nil) .nil) (.alt 3 2 (.alt 2 2 (.alt 4 2 (.alt 5 2 .nil .nil) .nil) (.alt 4 2 (.alt 2 2 (.alt 5 2 .nil .nil) .nil) .nil)) .nil)) (.alt 2 2 (.alt 1 2 (.alt 3 2 (.alt 4 2 (.alt 5 2 .nil .nil) .nil) .nil) (.alt 3 2 (.alt 1 2 (.alt 4 2 (.alt 5 2 .nil .nil) .nil) .nil) .nil)) (.alt 3 2 (.alt 1 2 (.alt 2 2 (.alt 4 2 (.alt 5 2 .nil .nil) .nil) (.alt 4 2 (.alt 2 2 (.alt 5 2 .nil .nil) .nil) .nil)) (.alt 2 2 (.alt 1 2 (.alt 4 2 (.alt 5 2 .nil .nil) .nil) .nil) .nil)) .nil)))
 | false => .nil
theorem jdq (s : ByteArray) (hs : s.size <= 1000000000) : Spec Tryz.prog 29 [] [jaS s] fun _ r => r = jr9 (jgx s) := by
 obtain ⟨R, hR⟩ : ∃ R, jgx s = R := ⟨_, rfl⟩
 rw [hR]
 have htk := jms s hs
 have hpan : ∀ (ch : List PanicEntry) (s' : S), jzS R ch s' -> jfi ⟨Tryz.prog, tab, jig, fun _ => [0], 0, fun _ _ => False⟩ Tryz.f29.results.toList (fun _ r => r = jr9 R) [(46, [.box 0 0, .box 1 0, .box 2 0])] (.panicking ch) s' := fun ch s' hP => by
  obtain ⟨x, e, c0, c1, c2, bx, a, b, t0, hRe, hran, rfl, hbx, ht, hrw⟩ := hP
  obtain ⟨t, bx', rw'⟩ := s'
  simp only at hbx hrw ht
  subst hbx hrw ht;subst hRe;unfold jfi;refine ⟨(fun h => by cases h), FrameMode.panicking [⟨.iface 80 (.agg #[.int .i64 x, .int .i64 e]), true, false⟩], ?_⟩;unfold jzs;refine ⟨fun vs w => rfl, [0, 1, 2], [], [jhJ, [jao 0], [jao 0]], [.box 0 0, .box 1 0, .box 2 0], fun o r => o = [jhJ, [jao x], [jao e]] /\ r = .tup [], by decide, ?_, rfl, rfl, fun _ => jpg x e hran _ _ _ _ _, ?_⟩
  ·intro i hi;simp only [List.length_cons]
   simp at hi
   omega
  rintro o r ⟨rfl, rfl⟩ _;conv => whnf
  rfl
 refine jtT (ja2 jig (fun _ => [0]) 0) Tryz.func29 rfl (by kernel_rfl) rfl ?_;intro _;conv => whnf
 refine ja7 (ja2 jig (fun _ => [0]) 0) (dr := []) ⟨0, rfl⟩ (.inl rfl) (by kernel_rfl) (fun _ _ h => h.elim) ?_;conv => whnf
 refine ja7 (ja2 jig (fun _ => [0]) 0) (dr := []) ⟨0, rfl⟩ (.inl rfl) (by kernel_rfl) (fun _ _ h => h.elim) ?_;conv => whnf
 unfold jgx at hR
 by_cases hbig : 3000 < s.size
 ·rw [if_pos hbig] at hR;rw [decide_eq_true (by omega)];conv => whnf
  refine ⟨.inr rfl, ?_⟩;conv => whnf
  subst hR;rfl
 rw [if_neg hbig] at hR;rw [decide_eq_false (by omega)];conv => whnf
 refine ja7 (ja2 jig (fun _ => [0]) 0) (dr := []) ⟨0, rfl⟩ (.inl rfl) (by kernel_rfl) (fun _ _ h => h.elim) ?_;conv => whnf
 refine ja9 [] rfl (fun _ => htk) ?_;rintro r rfl
 have htb := fun h => jwA (s := s) (by omega) h
 unfold jwU
 cases herr : (jb4 s).err with
 | some pe =>
  obtain ⟨p, e⟩ := pe
  rw [herr] at hR
  simp only at hR
  have hne := (jdP (s.data.toList.length + 1) 0 s.data.toList).2 p e herr
  conv => whnf
  refine ja7 (ja2 jig (fun _ => [0]) 0) (dr := []) ⟨0, rfl⟩ (.inl rfl) (by kernel_rfl) (fun _ _ h => h.elim) ?_;conv => whnf
  rw [decide_eq_false hne.2.1];conv => whnf
  apply jvw
  ·repeat' (first | (with_reducible refine And.intro ?_ ?_) | (conv => whnf))
  conv => whnf
  refine ⟨.inr rfl, ?_⟩;conv => whnf
  subst hR;rfl
 | none =>
  rw [herr] at hR
  simp only at hR
  have htb := htb herr
  have hrl := jda herr
  rw [<- hrl]
  have hln : (jb4 s).toks.length + 1 = (jko s).length := by rw [hrl]; simp
  rw [hln];generalize jko s = T at *;conv => whnf
  refine ja7 (ja2 jig (fun _ => [0]) 0) (dr := []) ⟨0, rfl⟩ (.inl rfl) (by kernel_rfl) (fun _ _ h => h.elim) ?_;conv => whnf
  refine jqX (ja2 jig (fun _ => [0]) 0) ⟨0, rfl⟩ (fun _ _ h => h.elim) (l := [_]) rfl rfl rfl ?_;conv => whnf
  have hpg := jlc T htb
  have hsan := fun x e => jtV htb (x := x) (e := e)
  rw [hR] at hpg;refine ja7 (c := ⟨Tryz.prog, tab, jig, fun _ => [0], 0, jzS R⟩) (jat _ _ _ _) ⟨3, rfl⟩ (.inr (by kernel_rfl)) (by kernel_rfl) hpan ?_;conv => whnf
  refine jvm 3 [] rfl rfl rfl rfl (fun _ => hpg) (fun ch bx' hp hbl hbx => ?_) ?_
  ·unfold puQ at hp
   split at hp
   ·rename_i x e
    obtain ⟨d', rfl⟩ := jAm hbl hbx
    exact ⟨x, e, .dead, .dead, .dead, _, _, _, _, rfl, hsan _ _ hR, hp, rfl, rfl, rfl⟩
   ·exact hp.elim
  rintro o r ⟨⟨nm, ts1, ho⟩, huo⟩;cases ho;unfold uoQ at huo
  split at huo
  rotate_left
  ·exact huo.elim
  rename_i u
  subst huo;conv => whnf
  refine jbP (c := ⟨Tryz.prog, tab, jig, fun _ => [0], 0, jzS (.ok u)⟩) (jat _ _ _ _) ⟨3, rfl⟩ (.inr (by kernel_rfl)) (by kernel_rfl) hpan ?_;conv => whnf
  refine ⟨.inr rfl, ?_⟩;unfold jfi;refine ⟨(fun h => by cases h), FrameMode.returning, ?_⟩;unfold jzs;refine ⟨fun vs w => rfl, [0, 1, 2], [], [utA u, [jao 0], [jao 0]], [.box 0 0, .box 1 0, .box 2 0], fun o r => o = [utA u, [jao 0], [jao 0]] /\ r = .tup [], by decide, ?_, rfl, rfl, fun _ => jpv u, ?_⟩
  ·intro i hi;simp only [List.length_cons]
   simp at hi
   omega
  rintro o r ⟨rfl, rfl⟩ _;conv => whnf
  rfl
end Go.Proofs.YtmodkpibkkpcdaaGreatDoor.Vm
namespace Go.Proofs.YtmodkpibkkpcdaaGreatDoor.Vm
open Go.RowKit
set_option linter.unusedSimpArgs false
set_option linter.unusedVariables false
section
set_option maxRecDepth 100000
end
section
set_option maxRecDepth 100000
end
section
set_option maxRecDepth 100000
end
end Go.Proofs.YtmodkpibkkpcdaaGreatDoor.Vm
namespace Go.Proofs.YtmodkpibkkpcdaaGreatDoor.Vm
open Go.RowKit Go.Shelf
set_option linter.unusedSimpArgs false
set_option linter.unusedVariables false
set_option maxRecDepth 100000
theorem jtE {T : List Tk} {i : Nat} (h : i < T.length) : hd (T.drop i) = T[i] := by
 rw [List.drop_eq_getElem_cons h]; rfl
theorem jpc (T : List Tk) (i : Nat) : (T.drop i).tail = T.drop (i + 1) := by rw [List.tail_drop]
theorem jkz : ∀ {T : List Tk} {i : Nat}, TkW T -> i < T.length -> TkW (T.drop i)
 | [], i, _, h => by simp at h
 | t :: T, 0, h, _ => h
 | t :: T, i + 1, h, hi => by
  rcases h.2 with ⟨rfl, _⟩ | ⟨_, hw⟩
  ·simp at hi
  ·exact jkz (T := T) hw (by simpa using hi)
structure Ks (T : List Tk) : Prop where
 t : ∀ t ∈ T, K6 t
 n : T.length <= 1000000
 w : TkW T
theorem Ks.p {T : List Tk} (h : Ks T) {i : Nat} (hi : i < T.length) : TkP (T.drop i) :=
 ⟨⟨jkz h.w hi, by rw [List.length_drop]; have := h.n; omega⟩, fun t ht => juR (h.t t (List.mem_of_mem_drop ht))⟩
theorem Ks.hd {T : List Tk} (h : Ks T) {i : Nat} (hi : i < T.length) : K6 (Vm.hd (T.drop i)) := by rw [jtE hi]; exact h.t _ (List.getElem_mem hi)
theorem Ks.next {T : List Tk} (h : Ks T) {i : Nat} (hi : i < T.length) (hk : (Vm.hd (T.drop i)).kind ≠ 0) : i + 1 < T.length := by
 obtain ⟨q1, q2⟩ := (h.p hi).tail hk
 have := q1.pos
 rw [jpc, List.length_drop] at this;omega
structure S6 where
 i : Nat
 a : Int
 e : Int
def bxS (T : List Tk) (s : S6) : List A := [.sl 4 T.length (jer T), .v (.int .i64 s.i), jao s.a, jao s.e]
def SpecU (f : Nat) (cs args : List A) (post : List A -> A -> Prop) : Prop := ∀ y : Value, okV y -> Spec Tryz.prog f [cs ++ [.v y]] args fun o r => ∃ c, o = [c ++ [.v y]] /\ post c r
theorem SpecU.v {f : Nat} {cs args : List A} {post : List A -> A -> Prop} (h : SpecU f cs args post) : SpecV Tryz.prog f cs args post fun _ => False := fun y hy => (h y hy).toP
theorem SpecU.weaken {f : Nat} {cs args : List A} {post post' : List A -> A -> Prop} (h : SpecU f cs args post') (k : ∀ c r, post' c r -> ∃ c' r', post c' r' /\ c = c' /\ Wk r r') : SpecU f cs args post := fun y hy =>
 Spec.weaken (h y hy) fun o r ⟨c, h1, h2⟩ => by
  obtain ⟨c', r', k1, rfl, k3⟩ := k c r h2
  exact ⟨o, r', ⟨c, h1, k1⟩, .refl _, k3⟩
theorem jjj : Spec Tryz.prog 124 [] [] fun _ r => r = .sl 1 builtL.length (jdR builtL) := by
 refine ja5 (ja2 jal xs0 0) (fun _ _ h => h) Tryz.func124 rfl (by kernel_rfl) rfl (by kernel_rfl) ?_;intro _;conv => whnf
 rfl
section
def Dq (T : List Tk) (s s' : S6) (P : Pn) (f : Nt) : Prop := s'.i < T.length /\ (s.e ≠ 0 -> s'.a = s.a /\ s'.e = s.e) /\ (s.e = 0 -> match P with
 | .ok g r => s'.e = 0 /\ s'.a = s.a /\ f = g /\ T.drop s'.i = r
 | .bad x e => e ≠ 0 /\ s'.e = e /\ s'.a = x)
variable {T : List Tk}
def RU (T : List Tk) (s : S6) (op : List Tk -> Pn) (c : List A) (r : A) : Prop := ∃ s' f, Dq T s s' (op (T.drop s.i)) f /\ c = bxS T s' /\ r = .agg (ntA f)
def RW (T : List Tk) (s : S6) (op : List Tk -> Pn) (c : List A) (r : A) : Prop := ∃ s' f l, Dq T s s' (op (T.drop s.i)) f /\ c = bxS T s' /\ r = .agg l /\ WkL l (ntA f)
theorem RU.w {s : S6} {op : List Tk -> Pn} {c : List A} {r : A} (h : RU T s op c r) : RW T s op c r := by
 obtain ⟨s', f, h1, h2, h3⟩ := h
 exact ⟨s', f, _, h1, h2, h3, jaU _⟩
def jwB (T : List Tk) (lv prec : Int) (op : List Tk -> Pn) : Prop := ∀ s : S6, s.i < T.length -> SpecU 126 (bxS T s) [.box 0 0, jao lv, jao prec] (RU T s op)
def jAb (T : List Tk) (g : Nat) (lv : Int) (op : List Tk -> Pn) : Prop := ∀ s : S6, s.i < T.length -> SpecU g (bxS T s) [.box 0 0, jao lv] (RU T s op)
end
section
def LowR6 (T : List Tk) (lv : Int) (low : Option Pa) : Prop := 0 <= lv /\ ((low = none /\ lv = 20) ∨ ∃ p, low = some p /\ lv + 1 <= 20 ∧
 jwB T (lv + 1) 3 p.no /\ jwB T (lv + 1) 7 p.un /\ jwB T (lv + 1) 1 p.ex /\ jAb T 62 (lv + 1) p.bl)
theorem LowR6.le {T : List Tk} {lv : Int} {low : Option Pa} (h : LowR6 T lv low) : 0 <= lv /\ lv <= 20 := by
 obtain ⟨h0, ⟨_, rfl⟩ | ⟨_, _, h, _⟩⟩ := h
 ·omega
 ·omega
variable {T : List Tk}
end
section
variable {T : List Tk}
end
section
variable {T : List Tk}
end
section
variable {T : List Tk}
end
section
variable {T : List Tk}
end
section
variable {T : List Tk}
theorem jzZ (f b : Nt) : WkL [jao 2, jao 0, jaS eB, .sl 4 3 (ntA f ++ (ntA b ++ jzk (jbc [])))] [jao 2, jao 0, jaS eB, .sl 4 3 (ntA f ++ (ntA b ++ ntA (jbc [])))] :=
 .cons (.refl _) (.cons (.refl _) (.cons (.refl _) (.cons (.sl 4 3 (WkL.app (WkL.refl (ntA f)) (WkL.app (WkL.refl (ntA b)) (jbe (f := jbc []) rfl)))) .nil)))
end
section
variable {T : List Tk}
end
end Go.Proofs.YtmodkpibkkpcdaaGreatDoor.Vm
namespace Go.Proofs.YtmodkpibkkpcdaaGreatDoor.Vm
open Go.RowKit
set_option linter.unusedSimpArgs false
set_option linter.unusedVariables false
section
section
variable {w0 : W0} {C0 : Rd} {β0 : List Nat} {bx : List (List A)} {rw : List Row} {w : World} {E : Env}
end
section
variable {P : Program} {pan : List PanicEntry -> S -> Prop} {Xr : Nat -> Bool} {f : Nat} {s : S} {K : A -> S -> Prop} {post : List A -> A -> Prop}
end
end
end Go.Proofs.YtmodkpibkkpcdaaGreatDoor.Vm
namespace Go.Proofs.YtmodkpibkkpcdaaGreatDoor.Vm
open Go.RowKit Go.Shelf
set_option linter.unusedSimpArgs false
set_option linter.unusedVariables false
set_option maxRecDepth 100000
section
variable {T : List Tk}
end
section
variable {T : List Tk}
end
section
set_option maxRecDepth 100000
end
section
set_option maxRecDepth 100000
end
section
set_option maxRecDepth 100000
end
section
set_option maxRecDepth 100000
end
def exA : ByteArray := ⟨#[111, 110, 32, 115, 116, 97, 114, 116, 123, 120, 61, 49, 59, 125]⟩
def exB : ByteArray := ⟨#[100, 117, 114, 97, 98, 108, 101, 32, 120, 44, 120, 59]⟩
def exC : ByteArray := ⟨#[111, 110, 32, 116, 105, 109, 101, 114, 32, 56, 123, 125]⟩
theorem jz0 : ∃ u, jgx exA = .ok u /\ u.on.length = 1 := by
 have h : (match jgx exA with | .ok u => Nat.beq u.on.length 1 | _ => false) = true := by kernel_rfl
 cases hp : jgx exA with
 | ok u => rw [hp] at h; exact ⟨u, rfl, Nat.eq_of_beq_eq_true h⟩
 | bad x e => rw [hp] at h; cases h
theorem juZ {p : PU} {a b : Int} (h : (match p with | .bad x e => decide (x = a) && decide (e = b) | _ => false) = true) : p = .bad a b := by
 cases p with
 | ok u => cases h
 | bad x e =>
  simp only [Bool.and_eq_true, decide_eq_true_eq] at h;rw [h.1, h.2]
theorem jvd : jgx exB = .bad 10 4 := juZ (by kernel_rfl)
theorem jw1 : jgx exC = .bad 9 6 := juZ (by kernel_rfl)
theorem jmI : Spec Tryz.prog 18 [] [] fun _ r => r = jbI true := by
 obtain ⟨u, hu, hl⟩ := jz0
 have h1 := jdq exA (by decide)
 have h2 := jdq exB (by decide)
 have h3 := jdq exC (by decide)
 rw [hu] at h1;rw [jvd] at h2;rw [jw1] at h3;unfold jr9 at h1 h2 h3
 simp only at h1 h2 h3
 refine ja5 (ja2 jal xs0 0) (fun _ _ h => h) Tryz.func18 rfl (by kernel_rfl) rfl (by kernel_rfl) ?_;intro _;conv => whnf
 (refine ja9 [] rfl (fun _ => h1) ?_; rintro r rfl; conv => whnf)
 conv => whnf
 (refine ja9 [] rfl (fun _ => h2) ?_; rintro r rfl; conv => whnf)
 conv => whnf
 (refine ja9 [] rfl (fun _ => h3) ?_; rintro r rfl; conv => whnf)
 conv => whnf
 rw [decide_eq_true (show (u.on.length : Int) = 1 by omega)];conv => whnf
 rfl
section
set_option maxRecDepth 100000
end
end Go.Proofs.YtmodkpibkkpcdaaGreatDoor.Vm
namespace Go.Proofs.YtmodkpibkkpcdaaGreatDoor.Vm
open Go.RowKit
set_option linter.unusedSimpArgs false
set_option linter.unusedVariables false
set_option maxRecDepth 100000
def jtO (n : Int) : Int := if n < 0 then -(n + 1) else n
def jc8 (n m : Int) : Int := (jtO n).tmod m
theorem joG {n : Int} (hn : -9223372036854775808 <= n /\ n <= 9223372036854775807) : 0 <= jtO n /\ jtO n <= 9223372036854775807 := by unfold jtO; split <;> omega
theorem jhD {n m : Int} (hn : -9223372036854775808 <= n /\ n <= 9223372036854775807) (hm : 1 <= m) : 0 <= jc8 n m /\ jc8 n m < m := by
 have h := joG hn
 unfold jc8;rw [Int.tmod_eq_emod_of_nonneg h.1];exact ⟨Int.emod_nonneg _ (by omega), Int.emod_lt_of_pos _ (by omega)⟩
theorem jeI (n m : Int) (hm : 1 <= m /\ m <= 9223372036854775807) : Spec Tryz.prog 20 [] [jao n, jao m] fun _ r => (-9223372036854775808 <= n /\ n <= 9223372036854775807) /\ r = jao (jc8 n m) := by
 refine ja5 (ja2 jal xs0 0) (fun _ _ h => h) Tryz.func20 rfl (by kernel_rfl) rfl (by kernel_rfl) ?_;intro hok
 have hn : -9223372036854775808 <= n /\ n <= 9223372036854775807 := okA_int.1 hok.1
 have hab := joG hn
 conv => whnf
 by_cases h : n < 0
 ·refine jbd (b := decide (n < 0)) (decide_eq_true h) ?_;conv => whnf
  refine ⟨jaL (by omega), ?_⟩;conv => whnf
  refine ⟨jaL (by omega), ?_⟩;conv => whnf
  refine ⟨by omega, ?_⟩;conv => whnf
  refine ⟨hn, ?_⟩
  have : 0 - (n + 1) = jtO n := by unfold jtO; rw [if_pos h]; omega
  rw [this]; rfl
 ·refine jaB (b := decide (n < 0)) (decide_eq_false h) ?_;conv => whnf
  refine ⟨by omega, ?_⟩;conv => whnf
  refine ⟨hn, ?_⟩
  have : n = jtO n := by unfold jtO; rw [if_neg h]
  show A.v (.int .i64 (n.tmod m)) = jao ((jtO n).tmod m)
  rw [<- this]; rfl
end Go.Proofs.YtmodkpibkkpcdaaGreatDoor.Vm
namespace Go.Proofs.YtmodkpibkkpcdaaGreatDoor.Vm
open Go.RowKit Go.Shelf
set_option linter.unusedSimpArgs false
set_option linter.unusedVariables false
set_option maxRecDepth 100000
def phA (κ i : Nat) : Nat := if i < 70 then (4 * κ + 12) * i else (4 * κ + 12) * 70
def phi (κ i : Nat) : Nat := if i < 70 then (4 * κ + 12) * i else (4 * κ + 12) * 70 + 6 * κ + 18
theorem jhq (κ i : Nat) : phA κ i <= phA κ (i + 1) /\ (i < 70 -> phA κ i + (4 * κ + 12) <= phA κ (i + 1)) := by
 unfold phA;generalize 4 * κ + 12 = c
 have e : c * (i + 1) = c * i + c := Nat.mul_succ c i
 by_cases h : i < 70
 ·rw [if_pos h]
  by_cases h2 : i + 1 < 70
  ·rw [if_pos h2]; omega
  ·rw [if_neg h2]
   obtain rfl : i = 69 := by omega
   omega
 ·rw [if_neg h, if_neg (by omega)]; omega
theorem jpn (κ i : Nat) : (i < 70 -> phi κ i = phA κ i) /\ (70 <= i -> phi κ i = phA κ i + 6 * κ + 18) := by
 unfold phi phA
 by_cases h : i < 70
 ·rw [if_pos h, if_pos h]; omega
 ·rw [if_neg h, if_neg h]; omega
theorem jdp (κ i : Nat) : phi κ i <= phi κ (i + 1) /\ (i < 70 -> phi κ i + (4 * κ + 12) <= phi κ (i + 1)) := by
 have h1 := jpn κ i
 have h2 := jpn κ (i + 1)
 have h3 := jhq κ i
 omega
theorem jeR {κ w b i j : Nat} (hij : i <= j) (h : w + phA κ i <= b + phA κ j) : w + phi κ i <= b + phi κ j := by
 have h1 := jpn κ i
 have h2 := jpn κ j
 omega
theorem jmK (κ i : Nat) : phi κ i <= (4 * κ + 12) * 70 + 6 * κ + 18 /\ (67 <= i -> i < 70 -> phi κ i + (4 * κ + 12) <= (4 * κ + 12) * 70) /\ (70 <= i -> phi κ i = (4 * κ + 12) * 70 + 6 * κ + 18) := by
 unfold phi;generalize 4 * κ + 12 = c
 by_cases h : i < 70
 ·rw [if_pos h]
  have e : c * (i + 1) = c * i + c := Nat.mul_succ c i
  have e2 : c * (i + 1) <= c * 70 := Nat.mul_le_mul_left c (by omega)
  omega
 ·rw [if_neg h]; omega
def dgN (n : Int) : Nat := if n < 10 then 1 else if n < 100 then 2 else if n < 1000 then 3 else 10
mutual
def wN (κ : Nat) : Nt -> Nat
 | .mk k n s kids => (if k = 12 then κ + dgN n else if k = 13 then 5 + κ else if k = 14 then κ + s.size else if k = 15 then κ + s.size else if k = 16 then 6 + 3 * κ else s.size + (2 + 3 * κ)) + wNs κ kids
def wNs (κ : Nat) : List Nt -> Nat
 | [] => 0
 | f :: l => wN κ f + wNs κ l
end
theorem juj (κ : Nat) (n : Int) : wN κ (.mk 12 n eB []) = κ + dgN n := rfl
theorem jq7 (κ : Nat) (n : Int) : wN κ (.mk 13 n eB []) = 5 + κ := rfl
theorem jv1 (κ : Nat) (s : ByteArray) : wN κ (.mk 14 0 s []) = κ + s.size := rfl
theorem jus (κ : Nat) (s : ByteArray) : wN κ (.mk 15 0 s []) = κ + s.size := rfl
theorem jue (κ : Nat) (f : Nt) : wN κ (.mk 16 0 eB [f]) = 6 + 3 * κ + wN κ f := rfl
theorem jns (κ : Nat) (s : ByteArray) (f : Nt) : wN κ (.mk 17 0 s [f]) = s.size + (2 + 3 * κ) + wN κ f := by
 rw [wN, wNs, wNs]; simp
theorem jiq (κ : Nat) (s : ByteArray) (f g : Nt) : wN κ (.mk 18 0 s [f, g]) = s.size + (2 + 3 * κ) + (wN κ f + wN κ g) := by
 rw [wN, wNs, wNs, wNs]; simp
def jzV (l : List Nt) (i : Nat) : Nt := l.getD i (.mk 0 0 eB [])
mutual
def wS (κ : Nat) : Nt -> Nat
 | .mk k n s kids => if k = 1 then s.size + 2 + 3 * κ + wNs κ kids else if k = 4 then 9 + 6 * κ + wNs κ kids else if k = 5 then 7 + 3 * κ else if k = 6 then 8 + 3 * κ else if k = 7 then 5 + 2 * κ else if k = 10 then 5 + 2 * κ else if k = 8 then 7 + 3 * κ + wNs κ kids else if k = 9 then 5 + 2 * κ + wNs κ kids else if k = 3 then 5 + κ + wN κ (jzV kids 0) + (wBs κ kids).getD 1 0 else 2 + κ + wN κ (jzV kids 0) + (wBs κ kids).getD 1 0 + (if 0 < (jzV kids 2).kids.length then 4 + κ + (wBs κ kids).getD 2 0 else 0)
def wB (κ : Nat) : Nt -> Nat
 | .mk _ _ _ kids => 2 + 2 * κ + wSs κ kids
def wSs (κ : Nat) : List Nt -> Nat
 | [] => 0
 | f :: l => wS κ f + wSs κ l
def wBs (κ : Nat) : List Nt -> List Nat
 | [] => []
 | f :: l => wB κ f :: wBs κ l
end
theorem jlW (κ : Nat) (l : List Nt) : wB κ (jbc l) = 2 + 2 * κ + wSs κ l := by unfold jbc; rw [wB]
theorem jpR (κ : Nat) (s : ByteArray) (f : Nt) : wS κ (.mk 1 0 s [f]) = s.size + 2 + 3 * κ + wN κ f := rfl
theorem jup (κ : Nat) (n : Int) (f g h : Nt) : wS κ (.mk 4 n eB [f, g, h]) = 9 + 6 * κ + (wN κ f + (wN κ g + wN κ h)) := rfl
theorem juh (κ : Nat) (n : Int) : wS κ (.mk 5 n eB []) = 7 + 3 * κ := rfl
theorem juI (κ : Nat) (n : Int) : wS κ (.mk 6 n eB []) = 8 + 3 * κ := rfl
theorem juN (κ : Nat) : wS κ (.mk 7 0 eB []) = 5 + 2 * κ := rfl
theorem juc (κ : Nat) : wS κ (.mk 10 0 eB []) = 5 + 2 * κ := rfl
theorem juF (κ : Nat) (f g : Nt) : wS κ (.mk 8 0 eB [f, g]) = 7 + 3 * κ + (wN κ f + wN κ g) := rfl
theorem juG (κ : Nat) (f : Nt) : wS κ (.mk 9 0 eB [f]) = 5 + 2 * κ + wN κ f := rfl
theorem juy (κ : Nat) (c b : Nt) : wS κ (.mk 3 0 eB [c, b]) = 5 + κ + wN κ c + wB κ b := rfl
theorem juK (κ : Nat) (c b d : Nt) : wS κ (.mk 2 0 eB [c, b, d]) = 2 + κ + wN κ c + wB κ b + (if 0 < d.kids.length then 4 + κ + wB κ d else 0) := rfl
theorem jv7 (κ : Nat) (c : Nt) (l m : List Nt) : wS κ (.mk 2 0 eB [c, jbc l, jbc m]) <= 4 + 3 * κ + wN κ c + wSs κ l + (6 + 3 * κ + wSs κ m) /\ (m.length = 0 -> wS κ (.mk 2 0 eB [c, jbc l, jbc m]) = 4 + 3 * κ + wN κ c + wSs κ l) := by
 rw [juK, jlW, jlW];refine ⟨by split <;> omega, fun h => ?_⟩;rw [if_neg (by show ¬ 0 < m.length; omega)];omega
def wHs (κ : Nat) : List (Int × Nt) -> Nat
 | [] => 0
 | x :: l => 11 + 3 * κ + wB κ x.2 + wHs κ l
def pkF (l : List Int) (i : Nat) : Int := if i < l.length then jc8 (l.getD i 0) 1000000 else 0
theorem jzD (l : List Int) (i : Nat) : Spec Tryz.prog 45 [] [.sl 1 l.length (jeJ l), jao i, jao 1000000] fun _ r => (0 <= pkF l i /\ pkF l i < 1000000) /\ r = jao (pkF l i) := by
 unfold pkF;refine ja5 (ja2 jal xs0 0) (fun _ _ h => h) Tryz.func45 rfl (by kernel_rfl) rfl (by kernel_rfl) ?_;intro hok;conv => whnf
 rw [decide_eq_false (show ¬ (i : Int) < 0 by omega)];conv => whnf
 by_cases hi : i < l.length
 ·have hr := jpw l i hi
  have e : l.getD i 0 = l[i] := by rw [List.getD_eq_getElem?_getD, List.getElem?_eq_getElem hi]; rfl
  rw [<- e] at hr;rw [if_pos hi, decide_eq_false (show ¬ (l.length : Int) <= i by omega)];generalize l.getD i 0 = x at *
  have ha := jeI x 1000000 (by omega)
  conv => whnf
  (refine goA ?_; try with_reducible exact trivial)
  (generalize hrq : jae _ _ (jeJ l) = rq; obtain rfl : rq = [jao x] := hrq.symm.trans (hr); clear hrq; conv => whnf)
  refine ja9 [] rfl (fun _ => ha) ?_;rintro r ⟨hx, rfl⟩;conv => whnf
  exact ⟨jhD hx (by omega), rfl⟩
 ·rw [if_neg hi, decide_eq_true (show (l.length : Int) <= i by omega)];conv => whnf
  exact ⟨by omega, rfl⟩
def bxG (l : List Int) (i : Nat) : List A := [.sl 1 l.length (jeJ l), .v (.int .i64 i)]
def pk (l : List Int) (i m : Nat) : Nat := (pkF l i).toNat % m
theorem jdx (l : List Int) (i : Nat) {m : Nat} (h : 0 < m) : pk l i m < m := Nat.mod_lt _ h
theorem jdw (l : List Int) (i m : Nat) (hi : i <= 1000000000) (hm : 1 <= m /\ m <= 1000) : Spec Tryz.prog 36 [bxG l i] [.box 0 0, .v (.int .i64 m)] fun o r => o = [bxG l (i + 1)] /\ r = .v (.int .i64 (pk l i m)) := by
 unfold pk;refine ja5 (ja2 jzH xs0 1) (fun _ _ h => h) Tryz.func36 rfl (by kernel_rfl) rfl (by kernel_rfl) ?_;intro hok;conv => whnf
 refine ja9 [] rfl (fun _ => jzD l i) ?_;rintro r ⟨hr, rfl⟩
 obtain ⟨k, hk⟩ : ∃ k : Nat, pkF l i = (k : Int) := ⟨(pkF l i).toNat, by omega⟩
 rw [hk] at hr ⊢;conv => whnf
 (refine goA ?_; try with_reducible exact trivial)
 have e : ((k : Int)).tmod (m : Int) = ((k % m : Nat) : Int) := by rw [Int.tmod_eq_emod_of_nonneg (by omega)]; omega
 exact ⟨rfl, by rw [e]; rfl⟩
theorem jdS {α : Type} (f : α -> A) (l : List α) (i : Nat) (h : i < l.length) : (l.map f).drop (i * 1) = f l[i] :: (l.map f).drop (i + 1) := by
 rw [Nat.mul_one, List.drop_eq_getElem_cons (by simpa using h), List.getElem_map]
theorem jhG (l : List Int) (i m : Nat) (h : l.length <= 70) : 70 <= i -> pk l i m = 0 := fun hi => by
 unfold pk pkF;rw [if_neg (by omega)];exact Nat.zero_mod m
def varL : List ByteArray := [⟨#[100]⟩, ⟨#[100, 100, 49]⟩, ⟨#[118]⟩, ⟨#[119, 50]⟩]
theorem jAz (l : List Int) (i : Nat) (hi : i <= 1000000000) : ∃ s ∈ varL, (s.size <= 3 /\ (l.length <= 70 -> 70 <= i -> s.size = 1)) /\ Spec Tryz.prog 91 [bxG l i] [.box 0 0] fun o r => o = [bxG l (i + 1)] /\ r = jaS s := by
 have hp := jdw l i 4 hi (by decide)
 have hlt := jdx l i (m := 4) (by decide)
 have ho := jhG l i 4
 generalize pk l i 4 = k at *;refine ⟨varL[k]'hlt, List.getElem_mem _, ?_, ?_⟩
 ·have h4 : ∀ (k : Nat) (h : k < varL.length), (varL[k]'h).size <= 3 /\ (k = 0 -> (varL[k]'h).size = 1) := by decide
  exact ⟨(h4 k hlt).1, fun a b => (h4 k hlt).2 (ho a b)⟩
 have hr := jdS jaS varL k hlt
 generalize varL[k]'hlt = s at *;refine ja5 (ja2 jal xs0 1) (fun _ _ h => h) Tryz.func91 rfl (by kernel_rfl) rfl (by kernel_rfl) ?_;intro hok;conv => whnf
 refine jaa 0 [] rfl rfl rfl rfl (fun _ => hp) ?_;rintro o r ⟨ho, rfl⟩;cases ho;conv => whnf
 refine ⟨⟨by omega, by omega⟩, ?_⟩;conv => whnf
 generalize hrq : List.drop (Int.toNat (k : Int) * _) _ = rq
 obtain rfl : rq = _ :: _ := hrq.symm.trans hr
 clear hrq;conv => whnf
 exact ⟨rfl, rfl⟩
def litL : List Int := [0, 1, 2, 3, 7, 100, 2147483647, 30]
def opL : List ByteArray := [jcH, pMinus, jbG, jaM]
inductive EI : Nat -> Nt -> Prop
 | lit (d : Nat) (n : Int) (h : n ∈ litL) : EI d (.mk 12 n eB [])
 | var (d : Nat) (s : ByteArray) (h : s ∈ varL) : EI d (.mk 14 0 s [])
 | nam (d : Nat) (s : ByteArray) (h : s ∈ builtL) : EI d (.mk 15 0 s [])
 | drw (d : Nat) (f : Nt) (h : EI d f) : EI (d + 1) (.mk 16 0 eB [f])
 | neg (d : Nat) (f : Nt) (h : EI d f) : EI (d + 1) (.mk 17 0 pMinus [f])
 | bin (d : Nat) (s : ByteArray) (f g : Nt) (hs : s ∈ opL) (h1 : EI d f) (h2 : EI d g) : EI (d + 1) (.mk 18 0 s [f, g])
def bI : Nat -> Nat
 | 0 => 2
 | d + 1 => 2 + 2 * bI d
theorem jyP : ∀ d, 2 <= bI d
 | 0 => Nat.le_refl _
 | d + 1 => by unfold bI; omega
def jA3 (l : List Int) (d : Nat) : Prop := l.length <= 70 -> ∀ (i : Nat) (z : Int), z.toNat = d -> -5 <= z -> z <= 10 -> i + bI d <= 1000000000 -> ∃ f i', EI d f /\ i <= i' /\ i' <= i + bI d /\ (∀ κ, 1 <= κ -> κ <= 7 -> wN κ f + phA κ i <= 1 + κ + phA κ i') /\ Spec Tryz.prog 92 [bxG l i] [.box 0 0, .v (.int .i64 z)] fun o r => o = [bxG l i'] /\ r = .agg (ntA f)
theorem gw {P : Program} {f : Nat} {cs args : List A} {X : List (List A)} {t : Nt} (h : Spec P f [cs] args fun o r => o = X /\ ∃ l, r = .agg l /\ WkL l (ntA t)) : Spec P f [cs] args fun o r => o = X /\ r = .agg (ntA t) :=
 Spec.weaken h fun o r ⟨h1, l, h2, h3⟩ => ⟨o, .agg (ntA t), ⟨h1, rfl⟩, .refl _, by rw [h2]; exact .agg h3⟩
set_option maxHeartbeats 1000000 in
theorem jAX (l : List Int) (d : Nat) (ih : ∀ e, d = e + 1 -> jA3 l e) : jA3 l d := fun hl i z hz h1 h2 hi => by
 have hge := jyP d
 have hp := jdw l i 12 (by omega) (by decide)
 have hlt := jdx l i (m := 12) (by decide)
 have ho := jhG l i 12 hl
 have p0 := fun κ => jhq κ i
 have p1 := fun κ => jhq κ (i + 1)
 have pe2 : ∀ κ, phA κ (i + 2) = phA κ (i + 1 + 1) := fun _ => rfl
 generalize pk l i 12 = n0 at *
 obtain ⟨n, hn⟩ : ∃ n, (if z <= 0 then n0 % 6 else n0) = n := ⟨_, rfl⟩
 have hn12 : n < 12 := by split at hn <;> omega
 have hn6 : z <= 0 -> n < 6 := fun h => by rw [if_pos h] at hn; omega
 have hlo : n ≠ 0 -> i < 70 := fun h => by
  by_cases h70 : 70 <= i
  ·have := ho h70
   split at hn <;> omega
  ·omega
 by_cases hA : n <= 1
 ·have hp2 := jdw l (i + 1) 8 (by omega) (by decide)
  have hlt2 := jdx l (i + 1) (m := 8) (by decide)
  have ho2 := jhG l (i + 1) 8 hl
  generalize pk l (i + 1) 8 = k8 at *
  have hlw : ∀ (k : Nat) (h : k < litL.length), dgN (litL[k]'h) <= 10 /\ (k = 0 -> dgN (litL[k]'h) = 1) := by decide
  have hlk := hlw k8 hlt2
  refine ⟨.mk 12 (litL[k8]'hlt2) eB [], i + 2, .lit _ _ (List.getElem_mem _), by omega, by omega, fun κ ka kb => by have p0 := p0 κ; have p1 := p1 κ; have pe2 := pe2 κ; rw [juj]; omega, ?_⟩;clear hlw hlk
  have hr := jdS jao litL k8 hlt2
  generalize litL[k8]'hlt2 = x at *
  rcases (by omega : n = 0 ∨ n = 1) with rfl | rfl
  all_goals
   refine gw ?_;refine ja5 (ja2 jpl (fun _ => [0]) 1) (fun _ _ h => h) Tryz.func92 rfl (by kernel_rfl) rfl (by kernel_rfl) ?_;intro hok;conv => whnf
   refine jaa 0 [] rfl rfl rfl rfl (fun _ => hp) ?_;rintro o r ⟨ho, rfl⟩;cases ho;conv => whnf
   by_cases hz0 : z <= 0
   all_goals
    first
    | (rw [if_pos hz0] at hn; rw [decide_eq_true hz0]; (conv => whnf); refine ⟨by decide, ?_⟩; rw [Int.tmod_eq_emod_of_nonneg (by omega), show (n0 : Int) % 6 = ((n0 % 6 : Nat) : Int) by omega, hn])
    | (rw [if_neg hz0] at hn; rw [decide_eq_false hz0]; (conv => whnf); rw [hn])
    conv => whnf
   all_goals
    refine jaa 0 [] rfl rfl rfl rfl (fun _ => hp2) ?_;rintro o r ⟨ho, rfl⟩;cases ho;conv => whnf
    refine ⟨⟨by omega, by omega⟩, ?_⟩;conv => whnf
    generalize hrq : List.drop (Int.toNat (k8 : Int) * _) _ = rq
    obtain rfl : rq = _ :: _ := hrq.symm.trans hr
    clear hrq;conv => whnf
    exact ⟨rfl, _, rfl, jbe (f := .mk 12 x eB []) rfl⟩
 by_cases hB : n <= 3
 ·obtain ⟨s, hs1, hs2, hp2⟩ := jAz l (i + 1) (by omega)
  refine ⟨.mk 14 0 s [], i + 2, .var _ _ hs1, by omega, by omega, fun κ ka kb => by have p0 := p0 κ; have p1 := p1 κ; have pe2 := pe2 κ; rw [jv1]; omega, ?_⟩
  rcases (by omega : n = 2 ∨ n = 3) with rfl | rfl
  all_goals
   refine gw ?_;refine ja5 (ja2 jpl (fun _ => [0]) 1) (fun _ _ h => h) Tryz.func92 rfl (by kernel_rfl) rfl (by kernel_rfl) ?_;intro hok;conv => whnf
   refine jaa 0 [] rfl rfl rfl rfl (fun _ => hp) ?_;rintro o r ⟨ho, rfl⟩;cases ho;conv => whnf
   by_cases hz0 : z <= 0
   all_goals
    first
    | (rw [if_pos hz0] at hn; rw [decide_eq_true hz0]; (conv => whnf); refine ⟨by decide, ?_⟩; rw [Int.tmod_eq_emod_of_nonneg (by omega), show (n0 : Int) % 6 = ((n0 % 6 : Nat) : Int) by omega, hn])
    | (rw [if_neg hz0] at hn; rw [decide_eq_false hz0]; (conv => whnf); rw [hn])
    conv => whnf
   all_goals
    refine jaa 0 [] rfl rfl rfl rfl (fun _ => hp2) ?_;rintro o r ⟨ho, rfl⟩;cases ho;conv => whnf
    exact ⟨rfl, _, rfl, jbe (f := .mk 14 0 s []) rfl⟩
 by_cases hC : n <= 5
 ·have hp2 := jdw l (i + 1) 9 (by omega) (by decide)
  have hlt2 := jdx l (i + 1) (m := 9) (by decide)
  generalize pk l (i + 1) 9 = k8 at *
  have hlw : ∀ (k : Nat) (h : k < builtL.length), (builtL[k]'h).size <= 5 := by decide
  have hlk := hlw k8 hlt2
  refine ⟨.mk 15 0 (builtL[k8]'hlt2) [], i + 2, .nam _ _ (List.getElem_mem _), by omega, by omega, fun κ ka kb => by have p0 := p0 κ; have p1 := p1 κ; have pe2 := pe2 κ; rw [jus]; omega, ?_⟩;clear hlw hlk
  have hr : jae 1 k8 (jdR builtL) = [jaS (builtL[k8]'hlt2)] := jbQ jaS builtL k8 hlt2
  have hbu := jjj
  generalize builtL[k8]'hlt2 = s at *
  rcases (by omega : n = 4 ∨ n = 5) with rfl | rfl
  all_goals
   refine gw ?_;refine ja5 (ja2 jpl (fun _ => [0]) 1) (fun _ _ h => h) Tryz.func92 rfl (by kernel_rfl) rfl (by kernel_rfl) ?_;intro hok;conv => whnf
   refine jaa 0 [] rfl rfl rfl rfl (fun _ => hp) ?_;rintro o r ⟨ho, rfl⟩;cases ho;conv => whnf
   by_cases hz0 : z <= 0
   all_goals
    first
    | (rw [if_pos hz0] at hn; rw [decide_eq_true hz0]; (conv => whnf); refine ⟨by decide, ?_⟩; rw [Int.tmod_eq_emod_of_nonneg (by omega), show (n0 : Int) % 6 = ((n0 % 6 : Nat) : Int) by omega, hn])
    | (rw [if_neg hz0] at hn; rw [decide_eq_false hz0]; (conv => whnf); rw [hn])
    conv => whnf
   all_goals
    (refine ja9 [] rfl (fun _ => hbu) ?_; rintro r rfl; conv => whnf)
    refine jaa 0 [] rfl rfl rfl rfl (fun _ => hp2) ?_;rintro o r ⟨ho, rfl⟩;cases ho;conv => whnf
    refine ⟨⟨by omega, by show (k8 : Int) < 9; omega⟩, ?_⟩;conv => whnf
    (generalize hrq : jae _ _ (jdR builtL) = rq; obtain rfl : rq = [jaS s] := hrq.symm.trans (hr); clear hrq; conv => whnf)
    exact ⟨rfl, _, rfl, jbe (f := .mk 15 0 s []) rfl⟩
 have hzp : 0 < z := by
  by_cases h : 0 < z
  ·exact h
  ·have := hn6 (by omega); omega
 obtain ⟨e, rfl⟩ : ∃ e, d = e + 1 := ⟨d - 1, by omega⟩
 have ihe := ih e rfl
 unfold bI at hi
 by_cases hD : n <= 7
 ·obtain ⟨f, i2, hf, g1, g2, w1, hs⟩ := ihe hl (i + 1) (z - 1) (by omega) (by omega) (by omega) (by omega)
  rcases (by omega : n = 6 ∨ n = 7) with rfl | rfl
  ·refine ⟨.mk 16 0 eB [f], i2, .drw _ _ hf, by omega, by unfold bI; omega, fun κ ka kb => by have p0 := p0 κ; have p1 := p1 κ; have pe2 := pe2 κ; have w1 := w1 κ ka kb; rw [jue]; omega, ?_⟩;refine gw ?_;refine ja5 (ja2 jpl (fun _ => [0]) 1) (fun _ _ h => h) Tryz.func92 rfl (by kernel_rfl) rfl (by kernel_rfl) ?_;intro hok;conv => whnf
   refine jaa 0 [] rfl rfl rfl rfl (fun _ => hp) ?_;rintro o r ⟨ho, rfl⟩;cases ho;conv => whnf
   by_cases hz0 : z <= 0
   all_goals
    first
    | (rw [if_pos hz0] at hn; rw [decide_eq_true hz0]; (conv => whnf); refine ⟨by decide, ?_⟩; rw [Int.tmod_eq_emod_of_nonneg (by omega), show (n0 : Int) % 6 = ((n0 % 6 : Nat) : Int) by omega, hn])
    | (rw [if_neg hz0] at hn; rw [decide_eq_false hz0]; (conv => whnf); rw [hn])
    conv => whnf
   ·exact absurd hz0 (by omega)
   refine ⟨jaL (by omega), ?_⟩;conv => whnf
   refine jaa 0 [] rfl rfl rfl rfl (fun _ => hs) ?_;rintro o r ⟨ho, rfl⟩;cases ho;conv => whnf
   exact ⟨rfl, _, rfl, by rw [jcd]; exact jaU _⟩
  ·have hsz : pMinus.size = 1 := rfl
   refine ⟨.mk 17 0 pMinus [f], i2, .neg _ _ hf, by omega, by unfold bI; omega, fun κ ka kb => by have p0 := p0 κ; have p1 := p1 κ; have pe2 := pe2 κ; have w1 := w1 κ ka kb; rw [jns]; omega, ?_⟩;refine gw ?_;refine ja5 (ja2 jpl (fun _ => [0]) 1) (fun _ _ h => h) Tryz.func92 rfl (by kernel_rfl) rfl (by kernel_rfl) ?_;intro hok;conv => whnf
   refine jaa 0 [] rfl rfl rfl rfl (fun _ => hp) ?_;rintro o r ⟨ho, rfl⟩;cases ho;conv => whnf
   by_cases hz0 : z <= 0
   all_goals
    first
    | (rw [if_pos hz0] at hn; rw [decide_eq_true hz0]; (conv => whnf); refine ⟨by decide, ?_⟩; rw [Int.tmod_eq_emod_of_nonneg (by omega), show (n0 : Int) % 6 = ((n0 % 6 : Nat) : Int) by omega, hn])
    | (rw [if_neg hz0] at hn; rw [decide_eq_false hz0]; (conv => whnf); rw [hn])
    conv => whnf
   ·exact absurd hz0 (by omega)
   refine ⟨jaL (by omega), ?_⟩;conv => whnf
   refine jaa 0 [] rfl rfl rfl rfl (fun _ => hs) ?_;rintro o r ⟨ho, rfl⟩;cases ho;conv => whnf
   exact ⟨rfl, _, rfl, by rw [jcd]; exact jaU _⟩
 have hp2 := jdw l (i + 1) 4 (by omega) (by decide)
 have hlt2 := jdx l (i + 1) (m := 4) (by decide)
 generalize pk l (i + 1) 4 = k8 at *
 obtain ⟨f, i2, hf, g1, g2, w1, hs⟩ := ihe hl (i + 1 + 1) (z - 1) (by omega) (by omega) (by omega) (by omega)
 obtain ⟨g, i3, hg, g3, g4, w2, hs2⟩ := ihe hl i2 (z - 1) (by omega) (by omega) (by omega) (by omega)
 have hlw : ∀ (k : Nat) (h : k < opL.length), (opL[k]'h).size = 1 := by decide
 have hlk := hlw k8 hlt2
 refine ⟨.mk 18 0 (opL[k8]'hlt2) [f, g], i3, .bin _ _ _ _ (List.getElem_mem _) hf hg, by omega, by unfold bI; omega, fun κ ka kb => by have p0 := p0 κ; have p1 := p1 κ; have pe2 := pe2 κ; have w1 := w1 κ ka kb; have w2 := w2 κ ka kb; rw [jiq]; omega, ?_⟩;clear hlw hlk
 have hr := jdS jaS opL k8 hlt2
 generalize opL[k8]'hlt2 = s at *
 rcases (by omega : n = 8 ∨ n = 9 ∨ n = 10 ∨ n = 11) with rfl | rfl | rfl | rfl
 all_goals
  refine gw ?_;refine ja5 (ja2 jpl (fun _ => [0]) 1) (fun _ _ h => h) Tryz.func92 rfl (by kernel_rfl) rfl (by kernel_rfl) ?_;intro hok;conv => whnf
  refine jaa 0 [] rfl rfl rfl rfl (fun _ => hp) ?_;rintro o r ⟨ho, rfl⟩;cases ho;conv => whnf
  by_cases hz0 : z <= 0
  all_goals
   first
   | (rw [if_pos hz0] at hn; rw [decide_eq_true hz0]; (conv => whnf); refine ⟨by decide, ?_⟩; rw [Int.tmod_eq_emod_of_nonneg (by omega), show (n0 : Int) % 6 = ((n0 % 6 : Nat) : Int) by omega, hn])
   | (rw [if_neg hz0] at hn; rw [decide_eq_false hz0]; (conv => whnf); rw [hn])
   conv => whnf
  ·exact absurd hz0 (by omega)
  refine jaa 0 [] rfl rfl rfl rfl (fun _ => hp2) ?_;rintro o r ⟨ho, rfl⟩;cases ho;conv => whnf
  refine ⟨⟨by omega, by omega⟩, ?_⟩;conv => whnf
  generalize hrq : List.drop (Int.toNat (k8 : Int) * _) _ = rq
  obtain rfl : rq = _ :: _ := hrq.symm.trans hr
  clear hrq;conv => whnf
  refine ⟨jaL (by omega), ?_⟩;conv => whnf
  refine jaa 0 [] rfl rfl rfl rfl (fun _ => hs) ?_;rintro o r ⟨ho, rfl⟩;cases ho;conv => whnf
  refine ⟨jaL (by omega), ?_⟩;conv => whnf
  refine jaa 0 [] rfl rfl rfl rfl (fun _ => hs2) ?_;rintro o r ⟨ho, rfl⟩;cases ho;conv => whnf
  exact ⟨rfl, _, rfl, by rw [jd2]; exact jaU _⟩
theorem jhY (l : List Int) : ∀ d, jA3 l d
 | 0 => jAX l 0 fun e h => by omega
 | d + 1 => jAX l (d + 1) fun e h => by
  obtain rfl : d = e := by omega
  exact jhY l d
end Go.Proofs.YtmodkpibkkpcdaaGreatDoor.Vm
