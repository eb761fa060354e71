/- Texts 4 of the proof: T2, T11, T3, T4, T5, T6, T7, T12, T13, T14, T15, T16, T17, T18, T19, T20, T21, T22, T23, Ta, T24, T30, T31, T25, T26, VmH, T27, T32, T33, T8, T9, VmD. -/
import Derived.Test.YtndflafkigldmaaGreatDoorM3
import Derived.Recover
namespace Go.Proofs.YtndflafkigldmaaGreatDoor.Vm
open Go.RowKit Go.Shelf
set_option linter.unusedSimpArgs false
set_option linter.unusedVariables false
set_option maxRecDepth 100000
inductive Fm where
  | mk (k a b n : Int) (kids : List Fm)
def Fm.k : Fm → Int | .mk k _ _ _ _ => k
def Fm.a : Fm → Int | .mk _ a _ _ _ => a
def Fm.b : Fm → Int | .mk _ _ b _ _ => b
def Fm.n : Fm → Int | .mk _ _ _ n _ => n
def Fm.kids : Fm → List Fm | .mk _ _ _ _ l => l
mutual
def fm0 : Fm → List A
  | .mk k a b n l => [intA k, intA a, intA b, intA n, .sl 5 l.length (fms0 l)]
def fms0 : List Fm → List A
  | [] => []
  | f :: l => fm0 f ++ fms0 l
end
@[irreducible] def fmsA (l : List Fm) : List A := fms0 l
def fmA (f : Fm) : List A := [intA f.k, intA f.a, intA f.b, intA f.n, .sl 5 f.kids.length (fmsA f.kids)]
theorem fm0_eq (f : Fm) : fm0 f = fmA f := by
  cases f with
  | mk k a b n l => unfold fm0 fmA fmsA; rfl
theorem fmsA_nil : fmsA [] = [] := by unfold fmsA fms0; rfl
theorem fmsA_cons (f : Fm) (l : List Fm) : fmsA (f :: l) = fmA f ++ fmsA l := by
  unfold fmsA
  rw [← fm0_eq]
  conv => lhs; unfold fms0
theorem fmsA_app (l m : List Fm) : fmsA (l ++ m) = fmsA l ++ fmsA m := by
  induction l with
  | nil => rw [List.nil_append, fmsA_nil, List.nil_append]
  | cons f l ih => rw [List.cons_append, fmsA_cons, fmsA_cons, ih, List.append_assoc]
theorem fmsA_flat (l : List Fm) : fmsA l = l.flatMap fmA := by
  induction l with
  | nil => rw [fmsA_nil]; rfl
  | cons f l ih => rw [fmsA_cons, ih, List.flatMap_cons]
theorem fmsA_snoc (l : List Fm) (f : Fm) : fmsA (l ++ [f]) = fmsA l ++ fmA f := by rw [fmsA_app, fmsA_cons, fmsA_nil, List.append_nil]
theorem rowOf_fms (l : List Fm) (i : Nat) (hi : i < l.length) : rowOf 5 i (fmsA l) = fmA l[i] := by rw [fmsA_flat]; exact rowOf_flat fmA (fun _ => rfl) l i hi
theorem fmsA_len (l : List Fm) : (fmsA l).length = l.length * 5 := by
  induction l with
  | nil => rw [fmsA_nil]; rfl
  | cons f l ih => rw [fmsA_cons, List.length_append, ih, List.length_cons]; simp only [fmA, List.length_cons, List.length_nil]; omega
inductive Ps where
  | ok (f : Fm) (r : List Tk)
  | bad (p e : Int)
def tk0 : Tk := ⟨0, 0, ⟨#[]⟩, 0⟩
def hd (ts : List Tk) : Tk := ts.headD tk0
def isT (s : ByteArray) (ts : List Tk) : Bool := decide ((hd ts).text = s) && ((!decide ((hd ts).kind = 2)) && (!decide ((hd ts).kind = 0)))
def failCh (p e : Int) : List PanicEntry := [⟨.iface 50 (.agg #[.int .i64 p, .int .i64 e]), false, false⟩]
def bxT (ts : List Tk) : List A := [.sl 4 ts.length (tksL ts)]
theorem tks_len (l : List Tk) : (tksL l).length = l.length * 4 := by
  induction l with
  | nil => rfl
  | cons t l ih => rw [show tksL (t :: l) = tkL t ++ tksL l from rfl, List.length_append, ih, List.length_cons]; simp only [tkL, List.length_cons, List.length_nil]; omega
theorem row_hd {ts : List Tk} (h : 0 < ts.length) : rowOf 4 (Int.toNat 0) (tksL ts) = tkL (hd ts) := by
  cases ts with
  | nil => simp at h
  | cons t r => exact rowOf_flat tkL (fun _ => rfl) (t :: r) 0 (by simp)
theorem tks_tail {ts : List Tk} (h : 0 < ts.length) : ((tksL ts).drop 4).take ((ts.length - 1) * 4) = tksL ts.tail := by
  cases ts with
  | nil => simp at h
  | cons t r =>
    show (tksL r).take ((r.length + 1 - 1) * 4) = tksL r
    refine List.take_of_length_le ?_
    rw [tks_len]; simp
theorem fail_spec (ts : List Tk) (h : 0 < ts.length) (e : Int) : SpecP Tryz.prog 17 [bxT ts] [.box 0 0, intA e] (fun _ _ => False) fun ch => ch = failCh (hd ts).pos e := by
  have hr := row_hd h
  refine specP_of (cx_okP ord0 xs0 1 (fun ch _ => (fun ch => ch = failCh (hd ts).pos e) ch)) (fun _ _ h => h) Tryz.func17 rfl (by kernel_rfl) rfl (by kernel_rfl) ?_
  intro _
  generalize hd ts = t at *
  conv => whnf
  (refine goA ?_; try with_reducible exact trivial)
  (generalize hrq : rowOf _ _ (tksL ts) = rq; obtain rfl : rq = tkL t := hrq.symm.trans (hr); clear hrq; conv => whnf)
  (refine goA ?_; try with_reducible exact trivial)
  rfl
theorem next_spec (ts : List Tk) (h : 0 < ts.length) : Spec Tryz.prog 59 [bxT ts] [.box 0 0] fun o r => o = [bxT ts.tail] ∧ r = .agg (tkL (hd ts)) := by
  have hr := row_hd h
  have htl := tks_tail h
  have hln : ts.tail.length = ts.length - 1 := by simp
  refine spec_of (cx_ok ord0 xs0 1) (fun _ _ h => h) Tryz.func59 rfl (by kernel_rfl) rfl (by kernel_rfl) ?_
  intro _
  generalize hd ts = t at *
  conv => whnf
  (refine goA ?_; try with_reducible exact trivial)
  (generalize hrq : rowOf _ _ (tksL ts) = rq; obtain rfl : rq = tkL t := hrq.symm.trans (hr); clear hrq; conv => whnf)
  (refine goA ?_; try with_reducible exact trivial)
  refine ⟨?_, rfl⟩
  unfold bxT
  rw [show ((ts.length : Int).toNat - Int.toNat 1) = ts.length - 1 by omega, show Int.toNat 1 * 4 = 4 from rfl, htl, hln]
theorem is_spec (ts : List Tk) (h : 0 < ts.length) (s : ByteArray) : Spec Tryz.prog 58 [bxT ts] [.box 0 0, strA s] fun o r => o = [bxT ts] ∧ r = boolA (isT s ts) := by
  have hr := row_hd h
  unfold isT
  refine spec_of (cx_ok ord0 xs0 1) (fun _ _ h => h) Tryz.func58 rfl (by kernel_rfl) rfl (by kernel_rfl) ?_
  intro _
  generalize hd ts = t at *
  conv => whnf
  (refine goA ?_; try with_reducible exact trivial)
  (generalize hrq : rowOf _ _ (tksL ts) = rq; obtain rfl : rq = tkL t := hrq.symm.trans (hr); clear hrq; conv => whnf)
  by_cases h1 : t.text = s
  · rw [decide_eq_true h1]
    conv => whnf
    (refine goA ?_; try with_reducible exact trivial)
    (generalize hrq : rowOf _ _ (tksL ts) = rq; obtain rfl : rq = tkL t := hrq.symm.trans (hr); clear hrq; conv => whnf)
    by_cases h2 : t.kind = 2
    · rw [decide_eq_true h2]
      conv => whnf
      exact ⟨rfl, rfl⟩
    · rw [decide_eq_false h2]
      conv => whnf
      (refine goA ?_; try with_reducible exact trivial)
      (generalize hrq : rowOf _ _ (tksL ts) = rq; obtain rfl : rq = tkL t := hrq.symm.trans (hr); clear hrq; conv => whnf)
      exact ⟨rfl, rfl⟩
  · rw [decide_eq_false h1]
    conv => whnf
    exact ⟨rfl, rfl⟩
theorem open_spec (ts : List Tk) (h : 0 < ts.length) (lv : Int) : SpecP Tryz.prog 73 [bxT ts] [.box 0 0, intA lv] (fun o r => lv ≤ 20 ∧ o = [bxT ts.tail] ∧ r = .tup []) fun ch => 20 < lv ∧ ch = failCh (hd ts).pos 2 := by
  refine specP_of (cx_okP ord0 xs0 1 (fun ch _ => (fun ch => 20 < lv ∧ ch = failCh (hd ts).pos 2) ch)) (fun _ _ h => h) Tryz.func73 rfl (by kernel_rfl) rfl (by kernel_rfl) ?_
  intro _
  conv => whnf
  by_cases h1 : 20 < lv
  · (refine goA ?_; try with_reducible exact trivial)
    refine callP1 0 [] rfl rfl rfl rfl (fun _ => fail_spec ts h 2) (fun ch bx' hp => ⟨h1, hp⟩) ?_
    rintro o r ⟨⟩
  · (refine goA ?_; try with_reducible exact trivial)
    refine call1 0 [] rfl rfl rfl rfl (fun _ => next_spec ts h) ?_
    rintro o r ⟨ho, rfl⟩
    cases ho
    conv => whnf
    exact ⟨by omega, rfl, rfl⟩
end Go.Proofs.YtndflafkigldmaaGreatDoor.Vm
namespace Go.Proofs.YtndflafkigldmaaGreatDoor.Vm
open Go.RowKit Go.Shelf
set_option linter.unusedSimpArgs false
set_option linter.unusedVariables false
set_option maxRecDepth 100000
theorem i64w {n : Int} (h : -9223372036854775808 ≤ n ∧ n ≤ 9223372036854775807) : lo .i64 ≤ n ∧ n ≤ hi .i64 := h
mutual
def eqM : Fm → Fm → Bool
  | .mk k a b n l, .mk k' a' b' n' l' => decide (k = k') && (decide (a = a') && (decide (b = b') && (decide (n = n') && eqMs l l')))
def eqMs : List Fm → List Fm → Bool
  | [], [] => true
  | f :: l, g :: m => eqM f g && eqMs l m
  | _, _ => false
end
mutual
theorem eqM_iff : ∀ f g : Fm, eqM f g = true ↔ f = g
  | .mk k a b n l, .mk k' a' b' n' l' => by
    unfold eqM
    simp only [Bool.and_eq_true, decide_eq_true_eq, eqMs_iff l l', Fm.mk.injEq]
theorem eqMs_iff : ∀ l m : List Fm, eqMs l m = true ↔ l = m
  | [], [] => by simp [eqMs]
  | [], _ :: _ => by simp [eqMs]
  | _ :: _, [] => by simp [eqMs]
  | f :: l, g :: m => by
    unfold eqMs
    simp only [Bool.and_eq_true, eqM_iff f g, eqMs_iff l m, List.cons.injEq]
end
theorem eqMs_len : ∀ {l m : List Fm}, l.length ≠ m.length → eqMs l m = false := fun {l m} h => by
  cases he : eqMs l m with
  | false => rfl
  | true => exact absurd (congrArg List.length ((eqMs_iff l m).1 he)) h
theorem eqMs_drop (l m : List Fm) (k : Nat) (hl : k < l.length) (hm : k < m.length) : eqMs (l.drop k) (m.drop k) = (eqM l[k] m[k] && eqMs (l.drop (k + 1)) (m.drop (k + 1))) := by
  rw [List.drop_eq_getElem_cons hl, List.drop_eq_getElem_cons hm]
  conv => lhs; unfold eqMs
def EqSpec (f g : Fm) : Prop := Spec Tryz.prog 74 [] [.agg (fmA f), .agg (fmA g)] fun _ r => r = boolA (eqM f g)
theorem eqFunc_spec (l m : List Fm) (hl : l.length ≤ maxLen) (h : ∀ f ∈ l, ∀ g ∈ m, EqSpec f g) : Spec Tryz.prog 90 [] [.sl 5 l.length (fmsA l), .sl 5 m.length (fmsA m), .clo 74 []] fun _ r => r = boolA (eqMs l m) := by
  unfold maxLen at hl
  refine spec_of (cx_ok ord0 xs0 0) (fun _ _ h => h) Tryz.func90 rfl (by kernel_rfl) rfl (by kernel_rfl) ?_
  intro _
  conv => whnf
  by_cases hlen : (l.length : Int) = m.length
  · rw [decide_eq_true hlen]
    conv => whnf
    refine loop_keep [0, 1, 2, 15, 16] ?_
    conv => whnf
    refine loop_go (fun k : Nat => [(17, .v (.int .i64 k))]) (fun _ => []) (fun _ => []) (fun k => k ≤ l.length ∧ eqMs (l.drop k) (m.drop k) = eqMs l m) (fun k => l.length - k) 0 ?_ ⟨Nat.zero_le _, rfl⟩ ?_
    · repeat' constructor
    · rintro k ⟨hk, hinv⟩
      conv => whnf
      by_cases hlt : k < l.length
      · have hm : k < m.length := by omega
        have hr1 := rowOf_fms l k hlt
        have hr2 := rowOf_fms m k hm
        have hsp := h l[k] (List.getElem_mem hlt) m[k] (List.getElem_mem hm)
        rw [eqMs_drop l m k hlt hm] at hinv
        generalize l[k] = f at *
        generalize m[k] = g at *
        (refine goA ?_; try with_reducible exact trivial)
        (generalize hrq : rowOf _ _ (fmsA l) = rq; obtain rfl : rq = fmA f := hrq.symm.trans (hr1); clear hrq; conv => whnf)
        (refine goA ?_; try with_reducible exact trivial)
        (generalize hrq : rowOf _ _ (fmsA m) = rq; obtain rfl : rq = fmA g := hrq.symm.trans (hr2); clear hrq; conv => whnf)
        (refine call0 [] rfl (fun _ => hsp) ?_; rintro r rfl; conv => whnf)
        cases hq : eqM f g with
        | true =>
          rw [hq, Bool.true_and] at hinv
          (refine goA ?_; try with_reducible exact trivial)
          refine ⟨i64w (by omega), ?_⟩
          conv => whnf
          refine ⟨k + 1, le_head ?_, ⟨hlt, hinv⟩, by omega⟩
          repeat' constructor
        | false =>
          rw [hq, Bool.false_and] at hinv
          (refine goA ?_; try with_reducible exact trivial)
          rw [← hinv]
          rfl
      · (refine goA ?_; try with_reducible exact trivial)
        have e1 : l.drop k = [] := List.drop_of_length_le (by omega)
        have e2 : m.drop k = [] := List.drop_of_length_le (by omega)
        rw [e1, e2] at hinv
        rw [← hinv]
        rfl
  · rw [decide_eq_false hlen]
    conv => whnf
    rw [eqMs_len (by omega)]
    rfl
theorem okSl {k n : Nat} {cs : List A} (h : okA (.sl k n cs)) : n ≤ maxLen := by unfold okA at h; exact h.2.1
theorem ok_fm {f : Fm} (h : okA (.agg (fmA f))) : f.kids.length ≤ maxLen := by
  unfold okA at h
  exact okSl (okL_mem h (show A.sl 5 f.kids.length (fmsA f.kids) ∈ fmA f by simp [fmA]))
theorem equal_spec : ∀ f g : Fm, EqSpec f g
  | .mk k a b n l, .mk k' a' b' n' l' => by
    have hkids : ∀ f ∈ l, ∀ g ∈ l', EqSpec f g := fun f hf g hg => equal_spec f g
    have hfn := fun hl => eqFunc_spec l l' hl hkids
    unfold EqSpec eqM
    refine spec_of (cx_ok ord0 xs0 0) (fun _ _ h => h) Tryz.func74 rfl (by kernel_rfl) rfl (by kernel_rfl) ?_
    intro hok
    have hl := ok_fm (okL_mem hok (List.mem_cons_self ..))
    simp only [Fm.kids] at hl
    replace hfn := hfn hl
    simp only [fmA, Fm.k, Fm.a, Fm.b, Fm.n, Fm.kids]
    generalize eqMs l l' = R at *
    conv => whnf
    by_cases h1 : k = k'
    · rw [decide_eq_true h1]
      conv => whnf
      by_cases h2 : a = a'
      · rw [decide_eq_true h2]
        conv => whnf
        by_cases h3 : b = b'
        · rw [decide_eq_true h3]
          conv => whnf
          by_cases h4 : n = n'
          · rw [decide_eq_true h4]
            conv => whnf
            (refine call0 [] rfl (fun _ => hfn) ?_; rintro r rfl; conv => whnf)
            rfl
          · rw [decide_eq_false h4]
            conv => whnf
            rfl
        · rw [decide_eq_false h3]
          conv => whnf
          rfl
      · rw [decide_eq_false h2]
        conv => whnf
        rfl
    · rw [decide_eq_false h1]
      conv => whnf
      rfl
termination_by f => SizeOf.sizeOf f
decreasing_by
  have := List.sizeOf_lt_of_mem hf
  simp only [Fm.mk.sizeOf_spec]
  omega
end Go.Proofs.YtndflafkigldmaaGreatDoor.Vm
namespace Go.Proofs.YtndflafkigldmaaGreatDoor.Vm
open Go.RowKit Go.Shelf
set_option linter.unusedSimpArgs false
set_option linter.unusedVariables false
set_option maxRecDepth 100000
def idxS (ts : List Tk) : List ByteArray → Int → Int
  | [], _ => -1
  | s :: l, i => if isT s ts = true then i else idxS ts l (i + 1)
theorem idxIs_spec (ts : List Tk) (h : 0 < ts.length) (l : List ByteArray) (hl : l.length ≤ 1000) : Spec Tryz.prog 100 [bxT ts] [.sl 1 l.length (strsA l), .bm 58 [.box 0 0]] fun o r => o = [bxT ts] ∧ r = intA (idxS ts l 0) := by
  refine spec_of (cx_ok ord0 xs0 1) (fun _ _ h => h) Tryz.func100 rfl (by kernel_rfl) rfl (by kernel_rfl) ?_
  intro _
  conv => whnf
  refine loop_keep [0, 1, 7] ?_
  conv => whnf
  refine loop_go (fun k : Nat => [(8, .v (.int .i64 k))]) (fun _ => [bxT ts]) (fun _ => []) (fun k => k ≤ l.length ∧ idxS ts (l.drop k) k = idxS ts l 0) (fun k => l.length - k) 0 ?_ ⟨Nat.zero_le _, rfl⟩ ?_
  · repeat' constructor
  · rintro k ⟨hk, hinv⟩
    conv => whnf
    by_cases hlt : k < l.length
    · have hr := rowOf_strs l k hlt
      rw [List.drop_eq_getElem_cons hlt] at hinv
      generalize l[k] = s at *
      (refine goA ?_; try with_reducible exact trivial)
      (generalize hrq : rowOf _ _ (strsA l) = rq; obtain rfl : rq = [strA s] := hrq.symm.trans (hr); clear hrq; conv => whnf)
      refine call1 0 [] rfl rfl rfl rfl (fun _ => is_spec ts h s) ?_
      rintro o r ⟨ho, rfl⟩
      cases ho
      conv => whnf
      cases hq : isT s ts with
      | true =>
        (refine goA ?_; try with_reducible exact trivial)
        rw [idxS, if_pos hq] at hinv
        rw [← hinv]
        exact ⟨rfl, rfl⟩
      | false =>
        (refine goA ?_; try with_reducible exact trivial)
        rw [idxS, if_neg (by rw [hq]; simp)] at hinv
        refine ⟨i64r (by omega), ?_⟩
        conv => whnf
        refine ⟨k + 1, le_head ?_, ⟨hlt, by push_cast; exact hinv⟩, by omega⟩
        repeat' constructor
    · (refine goA ?_; try with_reducible exact trivial)
      rw [List.drop_of_length_le (by omega)] at hinv
      rw [← hinv]
      exact ⟨rfl, rfl⟩
def tkGood (t : Tk) : Prop := t.text.size ≤ 1000000000 ∧ smallD (cutF t.text).1.data.toList ∧ (cutF t.text).1.size ≤ 1000000000 ∧ 0 ≤ t.n ∧ t.n ≤ 2147483647 ∧ t.pos ≤ 1000000000
def TkW : List Tk → Prop
  | [] => False
  | t :: r => tkGood t ∧ ((r = [] ∧ t.kind = 0 ∧ t.text.data.toList = []) ∨ (t.kind ≠ 0 ∧ TkW r))
theorem TkW.pos {ts : List Tk} (h : TkW ts) : 0 < ts.length := by
  cases ts with
  | nil => exact h.elim
  | cons t r => simp
theorem TkW.good {ts : List Tk} (h : TkW ts) : tkGood (hd ts) := by
  cases ts with
  | nil => exact h.elim
  | cons t r => exact h.1
theorem TkW.tail {ts : List Tk} (h : TkW ts) (hk : (hd ts).kind ≠ 0) : TkW ts.tail := by
  cases ts with
  | nil => exact h.elim
  | cons t r =>
    rcases h.2 with ⟨_, h2, _⟩ | ⟨_, h2⟩
    · exact absurd h2 hk
    · exact h2
theorem TkW.end' {ts : List Tk} (h : TkW ts) (hk : (hd ts).kind = 0) : (hd ts).text.data.toList = [] ∧ ts.tail = [] := by
  cases ts with
  | nil => exact h.elim
  | cons t r =>
    rcases h.2 with ⟨h1, _, h3⟩ | ⟨h1, _⟩
    · exact ⟨h3, h1⟩
    · exact absurd hk h1
theorem isT_kind {s : ByteArray} {ts : List Tk} (h : isT s ts = true) : (hd ts).kind ≠ 0 := by
  unfold isT at h
  simp only [Bool.and_eq_true, Bool.not_eq_true', decide_eq_false_iff_not] at h
  exact h.2.2
theorem TkW.is {s : ByteArray} {ts : List Tk} (h : TkW ts) (k : isT s ts = true) : TkW ts.tail := h.tail (isT_kind k)
def cmpTs : List ByteArray := [bs [60], bs [61, 61], bs [62]]
theorem idxS_rng (ts : List Tk) : ∀ (l : List ByteArray) (i : Int), 0 ≤ i → idxS ts l i = -1 ∨ (0 ≤ idxS ts l i ∧ idxS ts l i < i + l.length ∧ ∃ s, isT s ts = true)
  | [], i, h => .inl rfl
  | s :: l, i, h => by
    rw [idxS]
    split
    · rename_i hs
      exact .inr ⟨h, by simp; omega, s, hs⟩
    · rcases idxS_rng ts l (i + 1) (by omega) with h1 | ⟨h1, h2, h3⟩
      · exact .inl h1
      · exact .inr ⟨h1, by simp; omega, h3⟩
def minus : ByteArray := ⟨#[45]⟩
def signF (ts : List Tk) : Int × List Tk := if isT minus ts = true then (-1, ts.tail) else (1, ts)
def cmpF (ts : List Tk) : Ps :=
  if (cutF (hd ts).text).2 = false then .bad (hd ts).pos 10 else
  match numO (cutF (hd ts).text).1.data.toList with
  | none => .bad (hd ts).pos 10
  | some n => if 15 < n then .bad (hd ts).pos 6 else
    if idxS ts.tail cmpTs 0 < 0 then .bad (hd ts.tail).pos 10 else
    if (hd (signF ts.tail.tail).2).kind ≠ 2 then .bad (hd (signF ts.tail.tail).2).pos 10 else
    .ok (.mk 1 n (idxS ts.tail cmpTs 0) ((signF ts.tail.tail).1 * (hd (signF ts.tail.tail).2).n) []) (signF ts.tail.tail).2.tail
def pnP (p : Ps) (ch : List PanicEntry) : Prop := match p with
  | .bad x e => ch = failCh x e
  | _ => False
def poP (p : Ps) (o : List (List A)) (r : A) : Prop := match p with
  | .ok f ts => o = [bxT ts] ∧ r = .agg (fmA f)
  | _ => False
def raw0 (f : Fm) : List A := [intA f.k, intA f.a, intA f.b, intA f.n, .v (.slice none 0 0)]
def poR (p : Ps) (o : List (List A)) (r : A) : Prop := match p with
  | .ok f ts => o = [bxT ts] ∧ r = .agg (raw0 f) ∧ f.kids = []
  | _ => False
theorem raw0_wk {f : Fm} (h : f.kids = []) : WkL (raw0 f) (fmA f) := by
  unfold raw0 fmA
  rw [h, fmsA_nil]
  exact .cons (.refl _) (.cons (.refl _) (.cons (.refl _) (.cons (.refl _) (.cons (.nil 5) .nil))))
set_option maxHeartbeats 1000000 in
theorem cmp_raw (ts : List Tk) (h : TkW ts) : SpecP Tryz.prog 89 [bxT ts] [.box 0 0] (poR (cmpF ts)) (pnP (cmpF ts)) := by
  have hl := h.pos
  have hr := row_hd h.pos
  have hg := h.good
  obtain ⟨P, hP⟩ : ∃ P, P = cmpF ts := ⟨_, rfl⟩
  rw [← hP]
  refine specP_of (cx_okP ord0 xs0 1 (fun ch _ => (pnP P) ch)) (fun _ _ h => h) Tryz.func89 rfl (by kernel_rfl) rfl (by kernel_rfl) ?_
  intro _
  have hcut := cutPre_spec (hd ts).text hg.1
  have hpu := pu62_spec (cutF (hd ts).text).1 hg.2.2.1 hg.2.1
  unfold cmpF at hP
  have hfail := fun e => fail_spec ts h.pos e
  have hkd := fun (hk : (hd ts).kind = 0) => (h.end' hk).1
  have htl := fun hk => h.tail hk
  have hnx := next_spec ts h.pos
  generalize hd ts = t at *
  conv => whnf
  (refine goA ?_; try with_reducible exact trivial)
  (generalize hrq : rowOf _ _ (tksL ts) = rq; obtain rfl : rq = tkL t := hrq.symm.trans (hr); clear hrq; conv => whnf)
  (refine call0 [] rfl (fun _ => hcut) ?_; rintro r rfl; conv => whnf)
  (refine call0 [] rfl (fun _ => hpu) ?_; rintro r rfl; conv => whnf)
  cases hF : (cutF t.text).2 with
  | false =>
    rw [hF, if_pos rfl] at hP
    cases hO : numO (cutF t.text).1.data.toList with
    | none =>
      conv => whnf
      refine callP1 0 [] rfl rfl rfl rfl (fun _ => hfail 10) (fun ch bx' hp => by rw [hP]; exact hp) ?_
      rintro o r ⟨⟩
    | some n =>
      conv => whnf
      refine callP1 0 [] rfl rfl rfl rfl (fun _ => hfail 10) (fun ch bx' hp => by rw [hP]; exact hp) ?_
      rintro o r ⟨⟩
  | true =>
    rw [hF, if_neg (by simp)] at hP
    cases hO : numO (cutF t.text).1.data.toList with
    | none =>
      rw [hO] at hP
      conv => whnf
      refine callP1 0 [] rfl rfl rfl rfl (fun _ => hfail 10) (fun ch bx' hp => by rw [hP]; exact hp) ?_
      rintro o r ⟨⟩
    | some n =>
      rw [hO] at hP
      simp only at hP
      conv => whnf
      by_cases h15 : 15 < n
      · rw [if_pos h15] at hP
        (refine goA ?_; try with_reducible exact trivial)
        refine callP1 0 [] rfl rfl rfl rfl (fun _ => hfail 6) (fun ch bx' hp => by rw [hP]; exact hp) ?_
        rintro o r ⟨⟩
      · rw [if_neg h15] at hP
        (refine goA ?_; try with_reducible exact trivial)
        have hk0 : t.kind ≠ 0 := fun hk => by
          have := hkd hk
          unfold cutF at hF
          rw [this] at hF
          cases hF
        have h1 := htl hk0
        refine call1 0 [] rfl rfl rfl rfl (fun _ => hnx) ?_
        rintro o r ⟨ho, rfl⟩
        cases ho
        clear hfail hnx htl hkd
        generalize ts.tail = ts1 at *
        conv => whnf
        (refine goA ?_; try with_reducible exact trivial)
        have hix := idxIs_spec ts1 h1.pos cmpTs (by decide)
        have hfail := fun e => fail_spec ts1 h1.pos e
        have hnx := next_spec ts1 h1.pos
        have htl := fun s (hk : isT s ts1 = true) => h1.is hk
        have hrg := idxS_rng ts1 cmpTs 0 (by omega)
        have hcl : (cmpTs.length : Int) = 3 := rfl
        refine call1 0 [0] rfl rfl rfl rfl (fun _ => hix) ?_
        rintro o r ⟨ho, rfl⟩
        cases ho
        generalize idxS ts1 cmpTs 0 = ix at *
        conv => whnf
        by_cases hi0 : ix < 0
        · rw [if_pos hi0] at hP
          (refine goA ?_; try with_reducible exact trivial)
          refine callP1 0 [] rfl rfl rfl rfl (fun _ => hfail 10) (fun ch bx' hp => by rw [hP]; exact hp) ?_
          rintro o r ⟨⟩
        · rw [if_neg hi0] at hP
          (refine goA ?_; try with_reducible exact trivial)
          have h2 : TkW ts1.tail := by
            rcases hrg with h2 | ⟨_, _, s, hs⟩
            · omega
            · exact htl s hs
          refine call1 0 [] rfl rfl rfl rfl (fun _ => hnx) ?_
          rintro o r ⟨ho, rfl⟩
          cases ho
          clear hfail hnx htl hix
          generalize ts1.tail = ts2 at *
          conv => whnf
          refine call1 0 [] rfl rfl rfl rfl (fun _ => is_spec ts2 h2.pos minus) ?_
          rintro o r ⟨ho, rfl⟩
          cases ho
          cases hm : isT minus ts2 with
          | true =>
            have hsg : signF ts2 = (-1, ts2.tail) := if_pos hm
            rw [hsg] at hP
            have h3 := h2.is hm
            conv => whnf
            refine call1 0 [] rfl rfl rfl rfl (fun _ => next_spec ts2 h2.pos) ?_
            rintro o r ⟨ho, rfl⟩
            cases ho
            generalize ts2.tail = ts3 at *
            have hl3 := h3.pos
            have hr3 := row_hd h3.pos
            have hg3 := h3.good
            have htl := fun hk => h3.tail hk
            have hfail := fun e => fail_spec ts3 h3.pos e
            have hnx := next_spec ts3 h3.pos
            simp only at hP
            generalize hd ts3 = t3 at *
            conv => whnf
            (refine goA ?_; try with_reducible exact trivial)
            (generalize hrq : rowOf _ _ (tksL ts3) = rq; obtain rfl : rq = tkL t3 := hrq.symm.trans (hr3); clear hrq; conv => whnf)
            by_cases hk2 : t3.kind = 2
            · rw [if_neg (by simp [hk2])] at hP
              (refine goA ?_; try with_reducible exact trivial)
              refine call1 0 [] rfl rfl rfl rfl (fun _ => hnx) ?_
              rintro o r ⟨ho, rfl⟩
              cases ho
              have hn1 := hg3.2.2.2.1
              have hn2 := hg3.2.2.2.2
              conv => whnf
              (refine goA ?_; try with_reducible exact trivial)
              rw [hP]
              refine ⟨rfl, ?_, rfl⟩

              rfl
            · rw [if_pos hk2] at hP
              (refine goA ?_; try with_reducible exact trivial)
              refine callP1 0 [] rfl rfl rfl rfl (fun _ => hfail 10) (fun ch bx' hp => by rw [hP]; exact hp) ?_
              rintro o r ⟨⟩
          | false =>
            have hsg : signF ts2 = (1, ts2) := if_neg (by rw [hm]; simp)
            rw [hsg] at hP
            have h3 := h2
            generalize ts2 = ts3 at *
            have hl3 := h3.pos
            have hr3 := row_hd h3.pos
            have hg3 := h3.good
            have htl := fun hk => h3.tail hk
            have hfail := fun e => fail_spec ts3 h3.pos e
            have hnx := next_spec ts3 h3.pos
            simp only at hP
            generalize hd ts3 = t3 at *
            conv => whnf
            (refine goA ?_; try with_reducible exact trivial)
            (generalize hrq : rowOf _ _ (tksL ts3) = rq; obtain rfl : rq = tkL t3 := hrq.symm.trans (hr3); clear hrq; conv => whnf)
            by_cases hk2 : t3.kind = 2
            · rw [if_neg (by simp [hk2])] at hP
              (refine goA ?_; try with_reducible exact trivial)
              refine call1 0 [] rfl rfl rfl rfl (fun _ => hnx) ?_
              rintro o r ⟨ho, rfl⟩
              cases ho
              have hn1 := hg3.2.2.2.1
              have hn2 := hg3.2.2.2.2
              conv => whnf
              (refine goA ?_; try with_reducible exact trivial)
              rw [hP]
              refine ⟨rfl, ?_, rfl⟩

              rfl
            · rw [if_pos hk2] at hP
              (refine goA ?_; try with_reducible exact trivial)
              refine callP1 0 [] rfl rfl rfl rfl (fun _ => hfail 10) (fun ch bx' hp => by rw [hP]; exact hp) ?_
              rintro o r ⟨⟩
theorem cmp_spec (ts : List Tk) (h : TkW ts) : SpecP Tryz.prog 89 [bxT ts] [.box 0 0] (poP (cmpF ts)) (pnP (cmpF ts)) :=
  (cmp_raw ts h).weaken (fun o r k => by
    unfold poR at k
    split at k
    · rename_i f ts' he
      obtain ⟨k1, k2, k3⟩ := k
      exact ⟨o, .agg (fmA f), by unfold poP; rw [he]; exact ⟨k1, rfl⟩, .refl o, by rw [k2]; exact .agg (raw0_wk k3)⟩
    · exact k.elim) fun ch k => k
end Go.Proofs.YtndflafkigldmaaGreatDoor.Vm
namespace Go.Proofs.YtndflafkigldmaaGreatDoor.Vm
open Go.RowKit Go.Shelf
set_option linter.unusedSimpArgs false
set_option linter.unusedVariables false
set_option maxRecDepth 100000
def unL : List (ByteArray × Value) := [(⟨#[33]⟩, .int .i64 2), (⟨#[110, 101, 120, 116]⟩, .int .i64 5), (⟨#[97, 108, 119, 97, 121, 115]⟩, .int .i64 7), (⟨#[101, 118, 101, 110, 116, 117, 97, 108, 108, 121]⟩, .int .i64 8)]
def unA : A := .mp (unL.map fun p => .string p.1) (unL.map fun p => .v p.2)
theorem unaries_spec : Spec Tryz.prog 30 [] [] fun _ r => r = unA := by
  refine spec_of_ok (cx_ok ord0 xs0 0) (fun _ _ h => h) Tryz.func30 rfl (by kernel_rfl) rfl ?_
  intro _
  refine ok_step (cx_ok _ _ _) (by kernel_rfl) ?_
  conv => whnf
  refine ok_step (cx_ok _ _ _) (by kernel_rfl) ?_
  conv => whnf
  refine ok_pubM 0 ?_
  conv => whnf
  refine ok_of_awp (cx_ok _ _ _) (by kernel_rfl) ?_
  conv => whnf
  rfl
end Go.Proofs.YtndflafkigldmaaGreatDoor.Vm
namespace Go.Proofs.YtndflafkigldmaaGreatDoor.Vm
open Go.RowKit Go.Shelf
set_option linter.unusedSimpArgs false
set_option linter.unusedVariables false
set_option maxRecDepth 100000
structure Pr where
  un : List Tk → Ps
  ch : List Tk → Ps
  fo : List Tk → Ps
def kNot : ByteArray := ⟨#[33]⟩
def kNext : ByteArray := ⟨#[110, 101, 120, 116]⟩
def kAlw : ByteArray := ⟨#[97, 108, 119, 97, 121, 115]⟩
def kEv : ByteArray := ⟨#[101, 118, 101, 110, 116, 117, 97, 108, 108, 121]⟩
def kTrue : ByteArray := ⟨#[116, 114, 117, 101]⟩
def kFalse : ByteArray := ⟨#[102, 97, 108, 115, 101]⟩
def kLp : ByteArray := ⟨#[40]⟩
def kRp : ByteArray := ⟨#[41]⟩
def kUntil : ByteArray := ⟨#[117, 110, 116, 105, 108]⟩
def kOr : ByteArray := ⟨#[124, 124]⟩
def kAnd : ByteArray := ⟨#[38, 38]⟩
def unKind (s : ByteArray) : Option Int := if s = kNot then some 2 else if s = kNext then some 5 else if s = kAlw then some 7 else if s = kEv then some 8 else none
def constF (b : Bool) : Fm := .mk (if b = true then 3 else 4) 0 0 0 []
def unG (low : Option Pr) (ts : List Tk) : Ps :=
  match unKind (hd ts).text with
  | some k => match low with
    | none => .bad (hd ts).pos 2
    | some p => match p.un ts.tail with
      | .ok f r => .ok (.mk k 0 0 0 [f]) r
      | .bad x e => .bad x e
  | none => if (isT kTrue ts || isT kFalse ts) = true then .ok (constF (decide ((hd ts).text = kTrue))) ts.tail else
    if isT kLp ts = true then match low with
      | none => .bad (hd ts).pos 2
      | some p => match p.fo ts.tail with
        | .ok f r => if isT kRp r = true then .ok f r.tail else .bad (hd r).pos 10
        | .bad x e => .bad x e
    else cmpF ts
def chG (un : List Tk → Ps) (low : Option Pr) (ts : List Tk) : Ps :=
  match un ts with
  | .bad x e => .bad x e
  | .ok f r => if isT kUntil r = true then match low with
      | none => .bad (hd r).pos 2
      | some p => match p.ch r.tail with
        | .ok g r' => .ok (.mk 6 0 0 0 [f, g]) r'
        | .bad x e => .bad x e
    else .ok f r
inductive Lr where
  | ok (l : List Fm) (r : List Tk)
  | bad (p e : Int)
def liGo (op : List Tk → Ps) (sign : ByteArray) : Nat → List Fm → List Tk → Lr
  | 0, acc, ts => .ok acc ts
  | n + 1, acc, ts => if isT sign ts = true then match op ts.tail with
      | .ok f r => liGo op sign n (acc ++ [f]) r
      | .bad x e => .bad x e
    else .ok acc ts
def finL (kind : Int) : Lr → Ps
  | .bad x e => .bad x e
  | .ok [f] r => .ok f r
  | .ok l r => .ok (.mk kind 0 0 0 l) r
def liF (op : List Tk → Ps) (kind : Int) (sign : ByteArray) (ts : List Tk) : Ps :=
  match op ts with
  | .bad x e => .bad x e
  | .ok f r => finL kind (liGo op sign r.length [f] r)
def foG (ch : List Tk → Ps) : List Tk → Ps := liF (liF ch 3 kAnd) 4 kOr
def prG (low : Option Pr) : Pr := ⟨unG low, chG (unG low) low, foG (chG (unG low) low)⟩
def pr : Nat → Pr
  | 0 => prG none
  | d + 1 => prG (some (pr d))
def TkB (ts : List Tk) : Prop := TkW ts ∧ ts.length ≤ 1000000
theorem TkB.tail {ts : List Tk} (h : TkB ts) (hk : (hd ts).kind ≠ 0) : TkB ts.tail ∧ ts.tail.length + 1 = ts.length := by
  have h1 := h.1.pos
  refine ⟨⟨h.1.tail hk, ?_⟩, ?_⟩
  · have := h.2; simp; omega
  · simp; omega
theorem TkB.is {s : ByteArray} {ts : List Tk} (h : TkB ts) (k : isT s ts = true) : TkB ts.tail ∧ ts.tail.length + 1 = ts.length := h.tail (isT_kind k)
def Goes (op : List Tk → Ps) : Prop := ∀ ts f r, TkB ts → op ts = .ok f r → TkB r ∧ r.length ≤ ts.length
theorem un_kind {ts : List Tk} {k : Int} (h : TkB ts) (hk : unKind (hd ts).text = some k) : (hd ts).kind ≠ 0 := fun h0 => by
  have := (h.1.end' h0).1
  have e : (hd ts).text = ⟨#[]⟩ := by
    generalize (hd ts).text = b at *
    cases b with
    | mk d => congr 1; exact Array.toList_eq_nil_iff.1 this
  rw [e] at hk
  have : unKind ⟨#[]⟩ = none := by decide +kernel
  rw [this] at hk; cases hk
theorem cmp_goes : Goes cmpF := fun ts f r h hc => by
  unfold cmpF at hc
  split at hc
  · cases hc
  · rename_i hF
    split at hc
    · cases hc
    · rename_i n hO
      split at hc
      · cases hc
      · split at hc
        · cases hc
        · rename_i hi
          split at hc
          · cases hc
          · rename_i hk
            simp only [Ps.ok.injEq] at hc
            obtain ⟨-, rfl⟩ := hc
            have hk0 : (hd ts).kind ≠ 0 := fun h0 => by
              have := (h.1.end' h0).1
              unfold cutF at hF
              rw [this] at hF
              exact hF rfl
            obtain ⟨h1, l1⟩ := h.tail hk0
            obtain ⟨h2, l2⟩ : TkB ts.tail.tail ∧ ts.tail.tail.length + 1 = ts.tail.length := by
              rcases idxS_rng ts.tail cmpTs 0 (by omega) with h2 | ⟨_, _, s, hs⟩
              · omega
              · exact h1.is hs
            have h3 : TkB (signF ts.tail.tail).2 ∧ (signF ts.tail.tail).2.length ≤ ts.tail.tail.length := by
              unfold signF
              split
              · rename_i hm
                obtain ⟨h3, l3⟩ := h2.is hm
                exact ⟨h3, by simp only; omega⟩
              · exact ⟨h2, Nat.le_refl _⟩
            obtain ⟨h4, l4⟩ := h3.1.tail (show (hd (signF ts.tail.tail).2).kind ≠ 0 from fun e => hk (by rw [e]; decide))
            exact ⟨h4, by omega⟩
def GoesO (low : Option Pr) : Prop := ∀ p, low = some p → Goes p.un ∧ Goes p.ch ∧ Goes p.fo
theorem un_goes {low : Option Pr} (hl : GoesO low) : Goes (unG low) := fun ts f r h hc => by
  unfold unG at hc
  split at hc
  · rename_i k hk
    obtain ⟨h1, l1⟩ := h.tail (un_kind h hk)
    split at hc
    · cases hc
    · rename_i p
      split at hc
      · rename_i f' r' he
        simp only [Ps.ok.injEq] at hc
        obtain ⟨-, rfl⟩ := hc
        obtain ⟨h2, l2⟩ := (hl p rfl).1 _ _ _ h1 he
        exact ⟨h2, by omega⟩
      · cases hc
  · split at hc
    · rename_i ht
      simp only [Ps.ok.injEq] at hc
      obtain ⟨-, rfl⟩ := hc
      have : isT kTrue ts = true ∨ isT kFalse ts = true := by simpa using ht
      obtain ⟨h1, l1⟩ : TkB ts.tail ∧ ts.tail.length + 1 = ts.length := this.elim h.is h.is
      exact ⟨h1, by omega⟩
    · split at hc
      · rename_i hp
        obtain ⟨h1, l1⟩ := h.is hp
        split at hc
        · cases hc
        · rename_i p
          split at hc
          · rename_i f' r' he
            obtain ⟨h2, l2⟩ := (hl p rfl).2.2 _ _ _ h1 he
            split at hc
            · rename_i hq
              simp only [Ps.ok.injEq] at hc
              obtain ⟨-, rfl⟩ := hc
              obtain ⟨h3, l3⟩ := h2.is hq
              exact ⟨h3, by omega⟩
            · cases hc
          · cases hc
      · exact cmp_goes ts f r h hc
theorem ch_goes {un : List Tk → Ps} {low : Option Pr} (hu : Goes un) (hl : GoesO low) : Goes (chG un low) := fun ts f r h hc => by
  unfold chG at hc
  split at hc
  · cases hc
  · rename_i f1 r1 he
    obtain ⟨h1, l1⟩ := hu _ _ _ h he
    split at hc
    · rename_i hq
      obtain ⟨h2, l2⟩ := h1.is hq
      split at hc
      · cases hc
      · rename_i p
        split at hc
        · rename_i g r2 he2
          simp only [Ps.ok.injEq] at hc
          obtain ⟨-, rfl⟩ := hc
          obtain ⟨h3, l3⟩ := (hl p rfl).2.1 _ _ _ h2 he2
          exact ⟨h3, by omega⟩
        · cases hc
    · simp only [Ps.ok.injEq] at hc
      obtain ⟨-, rfl⟩ := hc
      exact ⟨h1, l1⟩
theorem liGo_goes {op : List Tk → Ps} {sign : ByteArray} (ho : Goes op) : ∀ (n : Nat) (acc : List Fm) (ts : List Tk) (l : List Fm) (r : List Tk), TkB ts → liGo op sign n acc ts = .ok l r → TkB r ∧ r.length ≤ ts.length
  | 0, acc, ts, l, r, h, hc => by
    simp only [liGo, Lr.ok.injEq] at hc
    obtain ⟨-, rfl⟩ := hc
    exact ⟨h, Nat.le_refl _⟩
  | n + 1, acc, ts, l, r, h, hc => by
    rw [liGo] at hc
    split at hc
    · rename_i hs
      obtain ⟨h1, l1⟩ := h.is hs
      split at hc
      · rename_i f r1 he
        obtain ⟨h2, l2⟩ := ho _ _ _ h1 he
        obtain ⟨h3, l3⟩ := liGo_goes ho n _ _ _ _ h2 hc
        exact ⟨h3, by omega⟩
      · cases hc
    · simp only [Lr.ok.injEq] at hc
      obtain ⟨-, rfl⟩ := hc
      exact ⟨h, Nat.le_refl _⟩
theorem finL_ok {kind : Int} {x : Lr} {f : Fm} {r : List Tk} (h : finL kind x = .ok f r) : ∃ l, x = .ok l r := by
  unfold finL at h
  split at h
  · cases h
  · simp only [Ps.ok.injEq] at h
    obtain ⟨-, rfl⟩ := h
    exact ⟨_, rfl⟩
  · simp only [Ps.ok.injEq] at h
    obtain ⟨-, rfl⟩ := h
    exact ⟨_, rfl⟩
theorem li_goes {op : List Tk → Ps} {kind : Int} {sign : ByteArray} (ho : Goes op) : Goes (liF op kind sign) := fun ts f r h hc => by
  unfold liF at hc
  split at hc
  · cases hc
  · rename_i f1 r1 he
    obtain ⟨h1, l1⟩ := ho _ _ _ h he
    obtain ⟨l, hx⟩ := finL_ok hc
    obtain ⟨h2, l2⟩ := liGo_goes ho _ _ _ _ _ h1 hx
    exact ⟨h2, by omega⟩
theorem prG_goes {low : Option Pr} (hl : GoesO low) : Goes (prG low).un ∧ Goes (prG low).ch ∧ Goes (prG low).fo :=
  ⟨un_goes hl, ch_goes (un_goes hl) hl, li_goes (li_goes (ch_goes (un_goes hl) hl))⟩
theorem pr_goes : ∀ d, Goes (pr d).un ∧ Goes (pr d).ch ∧ Goes (pr d).fo
  | 0 => prG_goes fun p h => by cases h
  | d + 1 => prG_goes fun p h => by cases h; exact pr_goes d
end Go.Proofs.YtndflafkigldmaaGreatDoor.Vm
namespace Go.Proofs.YtndflafkigldmaaGreatDoor.Vm
open Go.RowKit Go.Shelf
set_option linter.unusedSimpArgs false
set_option linter.unusedVariables false
set_option maxRecDepth 100000
def zero5 : List A := [intA 0, intA 0, intA 0, intA 0, .v (.slice none 0 0)]
theorem poP_ok {p : Ps} {o : List (List A)} {r : A} (h : poP p o r) : ∃ f ts, p = .ok f ts ∧ o = [bxT ts] ∧ r = .agg (fmA f) := by
  unfold poP at h
  split at h
  · exact ⟨_, _, rfl, h.1, h.2⟩
  · exact h.elim
theorem pnP_bad {p : Ps} {ch : List PanicEntry} (h : pnP p ch) : ∃ x e, p = .bad x e ∧ ch = failCh x e := by
  unfold pnP at h
  split at h
  · exact ⟨_, _, rfl, h⟩
  · exact h.elim
theorem pnP_mk {p : Ps} {x e : Int} {ch : List PanicEntry} (h : p = .bad x e) (k : ch = failCh x e) : pnP p ch := by subst h; exact k
set_option maxHeartbeats 1000000 in
theorem list_spec (op : List Tk → Ps) (kind : Int) (sign : ByteArray) (lv : Int) (g : Nat) (hgo : Goes op) (hop : ∀ ts, TkB ts → SpecP Tryz.prog g [bxT ts] [.box 0 0, intA lv] (poP (op ts)) (pnP (op ts))) (ts : List Tk) (h : TkB ts) :
    SpecP Tryz.prog 32 [bxT ts] [.box 0 0, intA lv, intA kind, strA sign, .bm g [.box 0 0]] (poP (liF op kind sign ts)) (pnP (liF op kind sign ts)) := by
  obtain ⟨P, hP⟩ : ∃ P, liF op kind sign ts = P := ⟨_, rfl⟩
  rw [hP]
  refine specP_of (cx_okP ord0 xs0 1 (fun ch _ => (pnP P) ch)) (fun _ _ h => h) Tryz.func32 rfl (by kernel_rfl) rfl (by kernel_rfl) ?_
  intro _
  unfold liF at hP
  have hspec := hop ts h
  have hl0 := h.2
  conv => whnf
  refine callP1 0 [] rfl rfl rfl rfl (fun _ => hspec) (fun ch bx' hp => ?_) ?_
  · obtain ⟨x, e, he, hc⟩ := pnP_bad hp
    rw [he] at hP
    exact pnP_mk hP.symm hc
  rintro o r hpo
  obtain ⟨f, r1, he, ho, rfl⟩ := poP_ok hpo
  cases ho
  rw [he] at hP
  simp only at hP
  obtain ⟨h1, l1⟩ := hgo _ _ _ h he
  conv => whnf
  refine loop_keep [0, 1, 2, 3, 4, 10, 11] ?_
  conv => whnf
  refine loop_goQ (fun _ : Nat × List Fm × List Tk => []) (fun x => [bxT x.2.2, zero5]) (fun x => [.live 25 5 x.2.1.length (fmsA x.2.1)]) (fun x => TkB x.2.2 ∧ x.2.2.length ≤ x.1 ∧ 1 ≤ x.2.1.length ∧ x.2.1.length + x.2.2.length ≤ 1000001 ∧ finL kind (liGo op sign x.1 x.2.1 x.2.2) = P) (fun x => x.2.2.length) (r1.length, [f], r1) ?_ ⟨h1, Nat.le_refl _, by simp, by simp only [List.length_cons, List.length_nil]; omega, hP⟩ ?_
  · unfold headQ
    repeat' constructor
    · show [Row.live _ _ _ _] = [Row.live _ _ _ _]
      rw [fmsA_cons, fmsA_nil]; rfl
  · rintro ⟨n, acc, ts1⟩ ⟨g1, g2, g3, g4, g5⟩
    simp only at g1 g2 g3 g4 g5
    conv => whnf
    refine call1 0 [] rfl rfl rfl rfl (fun _ => is_spec ts1 g1.1.pos sign) ?_
    rintro o r ⟨ho, rfl⟩
    cases ho
    conv => whnf
    cases hq : isT sign ts1 with
    | true =>
      obtain ⟨q1, q2⟩ := g1.is hq
      obtain ⟨m, rfl⟩ : ∃ m, n = m + 1 := ⟨n - 1, by have := g1.1.pos; omega⟩
      rw [liGo, if_pos hq] at g5
      have hnx := next_spec ts1 g1.1.pos
      generalize ts1.tail = ts2 at *
      conv => whnf
      refine call1 0 [] rfl rfl rfl rfl (fun _ => hnx) ?_
      rintro o r ⟨ho, rfl⟩
      cases ho
      conv => whnf
      refine callP1 0 [] rfl rfl rfl rfl (fun _ => hop ts2 q1) (fun ch bx' hp => ?_) ?_
      · obtain ⟨x, e, he, hc⟩ := pnP_bad hp
        rw [he] at g5
        exact pnP_mk g5.symm hc
      rintro o r hpo
      obtain ⟨f2, r2, he2, ho, rfl⟩ := poP_ok hpo
      cases ho
      rw [he2] at g5
      simp only at g5
      obtain ⟨h2, l2⟩ := hgo _ _ _ q1 he2
      conv => whnf
      refine ⟨⟨by simp only; unfold maxLen; omega, by simp only; omega⟩, ?_⟩
      conv => whnf
      refine ⟨(m, acc ++ [f2], r2), le_head ?_, ⟨h2, by simp only; omega, by simp, by simp only [List.length_append, List.length_cons, List.length_nil]; omega, g5⟩, by simp only; omega⟩
      repeat' constructor
      · simp only [List.length_append, List.length_cons, List.length_nil]
        rw [fmsA_snoc]; rfl
    | false =>
      have hlg : liGo op sign n acc ts1 = .ok acc ts1 := by
        cases n with
        | zero => rfl
        | succ m => rw [liGo, if_neg (by rw [hq]; simp)]
      rw [hlg] at g5
      rcases acc with _ | ⟨f1, acc⟩
      · simp at g3
      rcases acc with _ | ⟨f2, acc⟩
      · simp only [finL] at g5
        subst g5
        have e1 : fmsA [f1] = fmA f1 := by rw [fmsA_cons, fmsA_nil, List.append_nil]
        simp only [e1]
        conv => whnf
        (refine goA ?_; try with_reducible exact trivial)
        exact ⟨rfl, rfl⟩
      · simp only [finL] at g5
        subst g5
        have hln : (f1 :: f2 :: acc).length = acc.length + 2 := by simp
        generalize f1 :: f2 :: acc = L at *
        conv => whnf
        (refine goA ?_; try with_reducible exact trivial)
        exact ⟨rfl, rfl⟩
end Go.Proofs.YtndflafkigldmaaGreatDoor.Vm
namespace Go.Proofs.YtndflafkigldmaaGreatDoor.Vm
open Go.RowKit Go.Shelf
set_option linter.unusedSimpArgs false
set_option linter.unusedVariables false
set_option maxRecDepth 100000
def PSpec (g : Nat) (lv : Int) (op : List Tk → Ps) : Prop := ∀ ts, TkB ts → SpecP Tryz.prog g [bxT ts] [.box 0 0, intA lv] (poP (op ts)) (pnP (op ts))
def LowOk (lv : Int) (low : Option Pr) : Prop := 0 ≤ lv ∧ ((low = none ∧ lv = 20) ∨ ∃ p, low = some p ∧ lv + 1 ≤ 20 ∧ Goes p.un ∧ Goes p.ch ∧ Goes p.fo ∧
  PSpec 72 (lv + 1) p.un ∧ PSpec 60 (lv + 1) p.ch ∧ PSpec 16 (lv + 1) p.fo)
theorem fmA_one (k a b n : Int) (f : Fm) : fmA (.mk k a b n [f]) = [intA k, intA a, intA b, intA n, .sl 5 1 (fmA f)] := by
  have e1 : fmA f = fmsA [f] := by rw [fmsA_cons, fmsA_nil, List.append_nil]
  rw [e1]; rfl
theorem fmA_two (k a b n : Int) (f g : Fm) : fmA (.mk k a b n [f, g]) = [intA k, intA a, intA b, intA n, .sl 5 2 (fmA f ++ fmA g)] := by
  have e1 : fmA f ++ fmA g = fmsA [f, g] := by rw [fmsA_cons, fmsA_cons, fmsA_nil, List.append_nil]
  rw [e1]; rfl
theorem const_raw (b : Bool) : Spec Tryz.prog 65 [] [.v (.bool b)] fun _ r => r = .agg (raw0 (constF b)) := by
  refine spec_of (cx_ok ord0 xs0 0) (fun _ _ h => h) Tryz.func65 rfl (by kernel_rfl) rfl (by kernel_rfl) ?_
  intro _
  conv => whnf
  cases b with
  | true =>
    conv => whnf
    rfl
  | false =>
    conv => whnf
    rfl
theorem const_spec (b : Bool) : Spec Tryz.prog 65 [] [.v (.bool b)] fun _ r => r = .agg (fmA (constF b)) :=
  (const_raw b).weaken fun o r k => ⟨o, _, rfl, .refl o, by rw [k]; exact .agg (raw0_wk (by unfold constF; rfl))⟩
set_option maxHeartbeats 2000000 in
theorem unary_spec {lv : Int} {low : Option Pr} (hlo : LowOk lv low) : PSpec 72 lv (unG low) := by
  intro ts h
  obtain ⟨hlv, hlo⟩ := hlo
  obtain ⟨P, hP⟩ : ∃ P, unG low ts = P := ⟨_, rfl⟩
  rw [hP]
  have hl := h.1.pos
  have hr := row_hd hl
  have hopen := fun l => open_spec ts hl l
  have hnx := next_spec ts hl
  have htl : (unKind (hd ts).text).isSome = true → TkB ts.tail ∧ ts.tail.length + 1 = ts.length := fun hk => by
    obtain ⟨k, hk⟩ := Option.isSome_iff_exists.1 hk
    exact h.tail (un_kind h hk)
  refine specP_of (cx_okP ord72 xs0 1 (fun ch _ => (pnP P) ch)) (fun _ _ h => h) Tryz.func72 rfl (by kernel_rfl) rfl (by kernel_rfl) ?_
  intro _
  unfold unG at hP
  generalize hd ts = t at *
  conv => whnf
  (refine goA ?_; try with_reducible exact trivial)
  (generalize hrq : rowOf _ _ (tksL ts) = rq; obtain rfl : rq = tkL t := hrq.symm.trans (hr); clear hrq; conv => whnf)
  (refine call0 [] rfl (fun _ => unaries_spec) ?_; rintro r rfl; conv => whnf)
  by_cases h1 : t.text = kNot
  · have hU : unKind t.text = some 2 := by unfold unKind; rw [if_pos h1]
    rw [hU] at hP
    rw [show decide (t.text = (({ data := #[33] } : ByteArray), Value.int IntKind.i64 2).fst) = true from decide_eq_true h1]
    simp only at hP
    conv => whnf
    (refine goA ?_; try with_reducible exact trivial)
    rcases hlo with ⟨rfl, rfl⟩ | ⟨p, rfl, hle, gu, gc, gf, su, sc, sf⟩
    · simp only at hP
      refine callP1 0 [] rfl rfl rfl rfl (fun _ => hopen _) (fun ch bx' hp => pnP_mk hP.symm hp.2) ?_
      rintro o r ⟨hbad, _⟩
      omega
    · simp only at hP
      refine callP1 0 [] rfl rfl rfl rfl (fun _ => hopen _) (fun ch bx' hp => absurd hp.1 (by omega)) ?_
      rintro o r ⟨_, ho, rfl⟩
      cases ho
      obtain ⟨q1, q2⟩ := htl (by rw [hU]; rfl)
      generalize ts.tail = ts1 at *
      conv => whnf
      (refine goA ?_; try with_reducible exact trivial)
      refine callP1 0 [] rfl rfl rfl rfl (fun _ => su ts1 q1) (fun ch bx' hp => ?_) ?_
      · obtain ⟨x, e, he, hc⟩ := pnP_bad hp
        rw [he] at hP
        exact pnP_mk hP.symm hc
      rintro o r hpo
      obtain ⟨f, r1, he, ho, rfl⟩ := poP_ok hpo
      cases ho
      rw [he] at hP
      simp only at hP
      subst hP
      conv => whnf
      exact ⟨rfl, by rw [fmA_one]; rfl⟩
  rw [show decide (t.text = (({ data := #[33] } : ByteArray), Value.int IntKind.i64 2).fst) = false from decide_eq_false h1]
  conv => whnf
  by_cases h2 : t.text = kNext
  · have hU : unKind t.text = some 5 := by unfold unKind; rw [if_neg h1, if_pos h2]
    rw [hU] at hP
    rw [show decide (t.text = (({ data := #[110, 101, 120, 116] } : ByteArray), Value.int IntKind.i64 5).fst) = true from decide_eq_true h2]
    simp only at hP
    conv => whnf
    (refine goA ?_; try with_reducible exact trivial)
    rcases hlo with ⟨rfl, rfl⟩ | ⟨p, rfl, hle, gu, gc, gf, su, sc, sf⟩
    · simp only at hP
      refine callP1 0 [] rfl rfl rfl rfl (fun _ => hopen _) (fun ch bx' hp => pnP_mk hP.symm hp.2) ?_
      rintro o r ⟨hbad, _⟩
      omega
    · simp only at hP
      refine callP1 0 [] rfl rfl rfl rfl (fun _ => hopen _) (fun ch bx' hp => absurd hp.1 (by omega)) ?_
      rintro o r ⟨_, ho, rfl⟩
      cases ho
      obtain ⟨q1, q2⟩ := htl (by rw [hU]; rfl)
      generalize ts.tail = ts1 at *
      conv => whnf
      (refine goA ?_; try with_reducible exact trivial)
      refine callP1 0 [] rfl rfl rfl rfl (fun _ => su ts1 q1) (fun ch bx' hp => ?_) ?_
      · obtain ⟨x, e, he, hc⟩ := pnP_bad hp
        rw [he] at hP
        exact pnP_mk hP.symm hc
      rintro o r hpo
      obtain ⟨f, r1, he, ho, rfl⟩ := poP_ok hpo
      cases ho
      rw [he] at hP
      simp only at hP
      subst hP
      conv => whnf
      exact ⟨rfl, by rw [fmA_one]; rfl⟩
  rw [show decide (t.text = (({ data := #[110, 101, 120, 116] } : ByteArray), Value.int IntKind.i64 5).fst) = false from decide_eq_false h2]
  conv => whnf
  by_cases h3 : t.text = kAlw
  · have hU : unKind t.text = some 7 := by unfold unKind; rw [if_neg h1, if_neg h2, if_pos h3]
    rw [hU] at hP
    rw [show decide (t.text = (({ data := #[97, 108, 119, 97, 121, 115] } : ByteArray), Value.int IntKind.i64 7).fst) = true from decide_eq_true h3]
    simp only at hP
    conv => whnf
    (refine goA ?_; try with_reducible exact trivial)
    rcases hlo with ⟨rfl, rfl⟩ | ⟨p, rfl, hle, gu, gc, gf, su, sc, sf⟩
    · simp only at hP
      refine callP1 0 [] rfl rfl rfl rfl (fun _ => hopen _) (fun ch bx' hp => pnP_mk hP.symm hp.2) ?_
      rintro o r ⟨hbad, _⟩
      omega
    · simp only at hP
      refine callP1 0 [] rfl rfl rfl rfl (fun _ => hopen _) (fun ch bx' hp => absurd hp.1 (by omega)) ?_
      rintro o r ⟨_, ho, rfl⟩
      cases ho
      obtain ⟨q1, q2⟩ := htl (by rw [hU]; rfl)
      generalize ts.tail = ts1 at *
      conv => whnf
      (refine goA ?_; try with_reducible exact trivial)
      refine callP1 0 [] rfl rfl rfl rfl (fun _ => su ts1 q1) (fun ch bx' hp => ?_) ?_
      · obtain ⟨x, e, he, hc⟩ := pnP_bad hp
        rw [he] at hP
        exact pnP_mk hP.symm hc
      rintro o r hpo
      obtain ⟨f, r1, he, ho, rfl⟩ := poP_ok hpo
      cases ho
      rw [he] at hP
      simp only at hP
      subst hP
      conv => whnf
      exact ⟨rfl, by rw [fmA_one]; rfl⟩
  rw [show decide (t.text = (({ data := #[97, 108, 119, 97, 121, 115] } : ByteArray), Value.int IntKind.i64 7).fst) = false from decide_eq_false h3]
  conv => whnf
  by_cases h4 : t.text = kEv
  · have hU : unKind t.text = some 8 := by unfold unKind; rw [if_neg h1, if_neg h2, if_neg h3, if_pos h4]
    rw [hU] at hP
    rw [show decide (t.text = (({ data := #[101, 118, 101, 110, 116, 117, 97, 108, 108, 121] } : ByteArray), Value.int IntKind.i64 8).fst) = true from decide_eq_true h4]
    simp only at hP
    conv => whnf
    (refine goA ?_; try with_reducible exact trivial)
    rcases hlo with ⟨rfl, rfl⟩ | ⟨p, rfl, hle, gu, gc, gf, su, sc, sf⟩
    · simp only at hP
      refine callP1 0 [] rfl rfl rfl rfl (fun _ => hopen _) (fun ch bx' hp => pnP_mk hP.symm hp.2) ?_
      rintro o r ⟨hbad, _⟩
      omega
    · simp only at hP
      refine callP1 0 [] rfl rfl rfl rfl (fun _ => hopen _) (fun ch bx' hp => absurd hp.1 (by omega)) ?_
      rintro o r ⟨_, ho, rfl⟩
      cases ho
      obtain ⟨q1, q2⟩ := htl (by rw [hU]; rfl)
      generalize ts.tail = ts1 at *
      conv => whnf
      (refine goA ?_; try with_reducible exact trivial)
      refine callP1 0 [] rfl rfl rfl rfl (fun _ => su ts1 q1) (fun ch bx' hp => ?_) ?_
      · obtain ⟨x, e, he, hc⟩ := pnP_bad hp
        rw [he] at hP
        exact pnP_mk hP.symm hc
      rintro o r hpo
      obtain ⟨f, r1, he, ho, rfl⟩ := poP_ok hpo
      cases ho
      rw [he] at hP
      simp only at hP
      subst hP
      conv => whnf
      exact ⟨rfl, by rw [fmA_one]; rfl⟩
  rw [show decide (t.text = (({ data := #[101, 118, 101, 110, 116, 117, 97, 108, 108, 121] } : ByteArray), Value.int IntKind.i64 8).fst) = false from decide_eq_false h4]
  conv => whnf
  have hU : unKind t.text = none := by unfold unKind; rw [if_neg h1, if_neg h2, if_neg h3, if_neg h4]
  rw [hU] at hP
  simp only at hP
  have his := fun s => is_spec ts hl s
  have hti := fun s (hk : isT s ts = true) => h.is hk
  clear htl
  refine call1 0 [] rfl rfl rfl rfl (fun _ => his kTrue) ?_
  rintro o r ⟨ho, rfl⟩
  cases ho
  cases hT : isT kTrue ts with
  | true =>
    rw [hT, Bool.true_or, if_pos rfl] at hP
    conv => whnf
    refine call1 0 [] rfl rfl rfl rfl (fun _ => hnx) ?_
    rintro o r ⟨ho, rfl⟩
    cases ho
    conv => whnf
    (refine call0 [] rfl (fun _ => const_spec _) ?_; rintro r rfl; conv => whnf)
    subst hP
    exact ⟨rfl, rfl⟩
  | false =>
    conv => whnf
    refine call1 0 [] rfl rfl rfl rfl (fun _ => his kFalse) ?_
    rintro o r ⟨ho, rfl⟩
    cases ho
    cases hF : isT kFalse ts with
    | true =>
      rw [hT, hF, Bool.false_or, if_pos rfl] at hP
      conv => whnf
      refine call1 0 [] rfl rfl rfl rfl (fun _ => hnx) ?_
      rintro o r ⟨ho, rfl⟩
      cases ho
      conv => whnf
      (refine call0 [] rfl (fun _ => const_spec _) ?_; rintro r rfl; conv => whnf)
      subst hP
      exact ⟨rfl, rfl⟩
    | false =>
      rw [hT, hF, Bool.false_or, if_neg (by simp)] at hP
      conv => whnf
      refine call1 0 [] rfl rfl rfl rfl (fun _ => his kLp) ?_
      rintro o r ⟨ho, rfl⟩
      cases ho
      cases hL : isT kLp ts with
      | true =>
        rw [hL, if_pos rfl] at hP
        obtain ⟨q1, q2⟩ := hti _ hL
        conv => whnf
        (refine goA ?_; try with_reducible exact trivial)
        rcases hlo with ⟨rfl, rfl⟩ | ⟨p, rfl, hle, gu, gc, gf, su, sc, sf⟩
        · simp only at hP
          refine callP1 0 [] rfl rfl rfl rfl (fun _ => hopen _) (fun ch bx' hp => pnP_mk hP.symm hp.2) ?_
          rintro o r ⟨hbad, _⟩
          omega
        · simp only at hP
          refine callP1 0 [] rfl rfl rfl rfl (fun _ => hopen _) (fun ch bx' hp => absurd hp.1 (by omega)) ?_
          rintro o r ⟨_, ho, rfl⟩
          cases ho
          generalize ts.tail = ts1 at *
          conv => whnf
          (refine goA ?_; try with_reducible exact trivial)
          refine callP1 0 [] rfl rfl rfl rfl (fun _ => sf ts1 q1) (fun ch bx' hp => ?_) ?_
          · obtain ⟨x, e, he, hc⟩ := pnP_bad hp
            rw [he] at hP
            exact pnP_mk hP.symm hc
          rintro o r hpo
          obtain ⟨f, r1, he, ho, rfl⟩ := poP_ok hpo
          cases ho
          rw [he] at hP
          simp only at hP
          obtain ⟨g1, g2⟩ := gf _ _ _ q1 he
          conv => whnf
          refine call1 0 [] rfl rfl rfl rfl (fun _ => is_spec r1 g1.1.pos kRp) ?_
          rintro o r ⟨ho, rfl⟩
          cases ho
          cases hR : isT kRp r1 with
          | true =>
            rw [hR, if_pos rfl] at hP
            have hnx1 := next_spec r1 g1.1.pos
            conv => whnf
            refine call1 0 [] rfl rfl rfl rfl (fun _ => hnx1) ?_
            rintro o r ⟨ho, rfl⟩
            cases ho
            conv => whnf
            subst hP
            exact ⟨rfl, rfl⟩
          | false =>
            rw [hR, if_neg (by simp)] at hP
            conv => whnf
            refine callP1 0 [] rfl rfl rfl rfl (fun _ => fail_spec r1 g1.1.pos 10) (fun ch bx' hp => pnP_mk hP.symm hp) ?_
            rintro o r ⟨⟩
      | false =>
        rw [hL, if_neg (by simp)] at hP
        conv => whnf
        refine callP1 0 [] rfl rfl rfl rfl (fun _ => cmp_spec ts h.1) (fun ch bx' hp => by rw [← hP]; exact hp) ?_
        rintro o r hpo
        obtain ⟨f, r1, he, ho, rfl⟩ := poP_ok hpo
        cases ho
        rw [he] at hP
        subst hP
        conv => whnf
        exact ⟨rfl, rfl⟩
end Go.Proofs.YtndflafkigldmaaGreatDoor.Vm
namespace Go.Proofs.YtndflafkigldmaaGreatDoor.Vm
open Go.RowKit Go.Shelf
set_option linter.unusedSimpArgs false
set_option linter.unusedVariables false
set_option maxRecDepth 100000
def isC (f : Fm) : Bool := (decide (f.k = 3) || decide (f.k = 4)) && decide (f.kids.length = 0)
theorem isC_spec (f : Fm) : Spec Tryz.prog 39 [] [.agg (fmA f)] fun _ r => r = boolA (isC f) := by
  obtain ⟨k, a, b, n, l⟩ := f
  simp only [isC, Fm.k, Fm.kids]
  refine spec_of (cx_ok ord0 xs0 0) (fun _ _ h => h) Tryz.func39 rfl (by kernel_rfl) rfl (by kernel_rfl) ?_
  intro hok
  simp only [fmA, Fm.k, Fm.a, Fm.b, Fm.n, Fm.kids]
  conv => whnf
  have e0 : ∀ m : Nat, decide ((m : Int) = 0) = decide (m = 0) := fun m => by rw [decide_eq_decide]; omega
  by_cases h3 : k = 3
  · rw [decide_eq_true h3]
    conv => whnf
    rw [e0]
    simp [boolA, h3]
  · rw [decide_eq_false h3]
    conv => whnf
    by_cases h4 : k = 4
    · rw [decide_eq_true h4]
      conv => whnf
      rw [e0]
      simp [boolA, h4]
    · rw [decide_eq_false h4]
      conv => whnf
      simp [boolA, h3, h4]
def AskF (c : Nat) (h : Fm) (p : Fm → Bool) : Prop := ∀ g, Spec Tryz.prog c [] [.agg (fmA g), .pp (fmA h)] fun _ r => r = boolA (p g)
theorem ask1 (h : Fm) : AskF 76 h fun g => eqM h g := fun g => by
  have hq := equal_spec h g
  unfold EqSpec at hq
  refine spec_of (cx_ok ord0 xs0 0) (fun _ _ h => h) Tryz.func76 rfl (by kernel_rfl) rfl (by kernel_rfl) ?_
  intro _
  conv => whnf
  (refine call0 [] rfl (fun _ => hq) ?_; rintro r rfl; conv => whnf)
  rfl
theorem ask2 (h : Fm) : AskF 77 h fun g => eqM g h := fun g => by
  have hq := equal_spec g h
  unfold EqSpec at hq
  refine spec_of (cx_ok ord0 xs0 0) (fun _ _ h => h) Tryz.func77 rfl (by kernel_rfl) rfl (by kernel_rfl) ?_
  intro _
  conv => whnf
  (refine call0 [] rfl (fun _ => hq) ?_; rintro r rfl; conv => whnf)
  rfl
def idxP (p : Fm → Bool) : List Fm → Int → Int
  | [], _ => -1
  | f :: l, i => if p f = true then i else idxP p l (i + 1)
theorem idxP_any (p : Fm → Bool) : ∀ (l : List Fm) (i : Int), 0 ≤ i → decide (0 ≤ idxP p l i) = l.any p
  | [], i, _ => rfl
  | f :: l, i, h => by
    rw [idxP, List.any_cons]
    by_cases hp : p f = true
    · rw [if_pos hp, hp, decide_eq_true h]; rfl
    · rw [if_neg hp, idxP_any p l (i + 1) (by omega)]
      simp only [Bool.not_eq_true] at hp
      rw [hp]; rfl
theorem idxF_spec (l : List Fm) (c : Nat) (h : Fm) (p : Fm → Bool) (hp : AskF c h p) : Spec Tryz.prog 91 [] [.sl 5 l.length (fmsA l), .clo c [.pp (fmA h)]] fun _ r => r = intA (idxP p l 0) := by
  refine spec_of (cx_ok ord0 xs0 0) (fun _ _ h => h) Tryz.func91 rfl (by kernel_rfl) rfl (by kernel_rfl) ?_
  intro hok
  have hl := okSl (okL_mem hok (List.mem_cons_self ..))
  unfold maxLen at hl
  conv => whnf
  refine loop_keep [0, 1, 7] ?_
  conv => whnf
  refine loop_go (fun k : Nat => [(8, .v (.int .i64 k))]) (fun _ => []) (fun _ => []) (fun k => k ≤ l.length ∧ idxP p (l.drop k) k = idxP p l 0) (fun k => l.length - k) 0 ?_ ⟨Nat.zero_le _, rfl⟩ ?_
  · repeat' constructor
  · rintro k ⟨hk, hinv⟩
    conv => whnf
    by_cases hlt : k < l.length
    · have hr := rowOf_fms l k hlt
      rw [List.drop_eq_getElem_cons hlt] at hinv
      generalize l[k] = s at *
      (refine goA ?_; try with_reducible exact trivial)
      (generalize hrq : rowOf _ _ (fmsA l) = rq; obtain rfl : rq = fmA s := hrq.symm.trans (hr); clear hrq; conv => whnf)
      (refine call0 [] rfl (fun _ => hp s) ?_; rintro r rfl; conv => whnf)
      cases hq : p s with
      | true =>
        (refine goA ?_; try with_reducible exact trivial)
        rw [idxP, if_pos hq] at hinv
        rw [← hinv]
        rfl
      | false =>
        (refine goA ?_; try with_reducible exact trivial)
        rw [idxP, if_neg (by rw [hq]; simp)] at hinv
        refine ⟨i64w (by omega), ?_⟩
        conv => whnf
        refine ⟨k + 1, le_head ?_, ⟨hlt, by push_cast; exact hinv⟩, by omega⟩
        repeat' constructor
    · (refine goA ?_; try with_reducible exact trivial)
      rw [List.drop_of_length_le (by omega)] at hinv
      rw [← hinv]
      rfl
theorem contF_spec (l : List Fm) (c : Nat) (h : Fm) (p : Fm → Bool) (hp : AskF c h p) : Spec Tryz.prog 75 [] [.sl 5 l.length (fmsA l), .clo c [.pp (fmA h)]] fun _ r => r = boolA (l.any p) := by
  have hi := idxF_spec l c h p hp
  have ha := idxP_any p l 0 (by omega)
  generalize idxP p l 0 = i at *
  refine spec_of (cx_ok ord0 xs0 0) (fun _ _ h => h) Tryz.func75 rfl (by kernel_rfl) rfl (by kernel_rfl) ?_
  intro hok
  conv => whnf
  (refine call0 [] rfl (fun _ => hi) ?_; rintro r rfl; conv => whnf)
  rw [ha]
  rfl
def addF (acc : List Fm) (f : Fm) : List Fm := if acc.any (fun g => eqM f g) = true then acc else acc ++ [f]
def partsF (kind : Int) (f : Fm) : List Fm := if f.k = kind then f.kids else [f]
def flatJ (kind : Int) (l : List Fm) : List Fm := l.flatMap (partsF kind)
def absF (kind : Int) : Fm := constF (decide (kind = 4))
def finJ (kind : Int) (l : List Fm) : Fm := if l.any (fun g => eqM g (absF kind)) = true then absF kind else match l with
  | [f] => f
  | l => .mk kind 0 0 0 l
def joinF (kind : Int) (l : List Fm) : Fm := finJ kind ((flatJ kind l).foldl addF [])
theorem flat_drop (kind : Int) (l : List Fm) (k : Nat) (h : k < l.length) : flatJ kind (l.drop k) = partsF kind l[k] ++ flatJ kind (l.drop (k + 1)) := by
  rw [List.drop_eq_getElem_cons h]
  unfold flatJ
  rw [List.flatMap_cons]
theorem addF_len (acc : List Fm) (f : Fm) : acc.length ≤ (addF acc f).length ∧ (addF acc f).length ≤ acc.length + 1 := by
  unfold addF
  split <;> simp
theorem foldF_len : ∀ (l acc : List Fm), (l.foldl addF acc).length ≤ acc.length + l.length
  | [], acc => by simp
  | f :: l, acc => by
    have := foldF_len l (addF acc f)
    have := (addF_len acc f).2
    simp only [List.foldl_cons, List.length_cons]
    omega
theorem finJ_two (kind : Int) (f1 f2 : Fm) (l : List Fm) : (match f1 :: f2 :: l with | [f] => f | l => Fm.mk kind 0 0 0 l) = .mk kind 0 0 0 (f1 :: f2 :: l) := rfl
set_option maxHeartbeats 1000000 in
theorem join_spec (kind : Int) (kids : List Fm) (hb : (flatJ kind kids).length ≤ 1000000000000) : Spec Tryz.prog 66 [] [intA kind, .sl 5 kids.length (fmsA kids)] fun _ r => r = .agg (fmA (joinF kind kids)) := by
  have hcs := const_spec (decide (kind = 4))
  obtain ⟨L, hL⟩ : ∃ L, (flatJ kind kids).foldl addF [] = L := ⟨_, rfl⟩
  unfold joinF
  rw [hL]
  refine spec_of (cx_ok ord0 xs0 0) (fun _ _ h => h) Tryz.func66 rfl (by kernel_rfl) rfl (by kernel_rfl) ?_
  intro hok
  have hkl := okSl (okL_mem hok (show A.sl 5 kids.length (fmsA kids) ∈ _ from by simp))
  unfold maxLen at hkl
  conv => whnf
  (refine call0 [] rfl (fun _ => hcs) ?_; rintro r rfl; conv => whnf)
  refine loop_row 25 5 [6] [] ?_
  conv => whnf
  refine ⟨trivial, ?_⟩
  conv => whnf
  refine loop_keep [0, 4, 5, 15, 16] ?_
  conv => whnf
  refine loop_goQ (fun x : Nat × List Fm => [(17, .v (.int .i64 x.1)), (6, .own 0)]) (fun _ => [zero5, fmA (absF kind)]) (fun x => [.live 25 5 x.2.length (fmsA x.2)]) (fun x => x.1 ≤ kids.length ∧ (flatJ kind (kids.drop x.1)).foldl addF x.2 = L ∧ x.2.length + (flatJ kind (kids.drop x.1)).length ≤ 1000000000000) (fun x => kids.length - x.1) (0, []) ?_ ⟨Nat.zero_le _, hL, by simpa using hb⟩ ?_
  · unfold headQ
    repeat' constructor
    · show [Row.live _ _ _ _] = [Row.live _ _ _ _]
      rw [fmsA_nil]; rfl
  · rintro ⟨k, acc⟩ ⟨hk, hinv, hbd⟩
    simp only at hk hinv hbd
    conv => whnf
    by_cases hlt : k < kids.length
    · have hr := rowOf_fms kids k hlt
      rw [flat_drop kind kids k hlt, List.foldl_append] at hinv
      rw [flat_drop kind kids k hlt, List.length_append] at hbd
      generalize kids[k] = f at *
      obtain ⟨ps, hps⟩ : ∃ ps, partsF kind f = ps := ⟨_, rfl⟩
      rw [hps] at hinv hbd
      obtain ⟨acc1, ha1⟩ : ∃ acc1, ps.foldl addF acc = acc1 := ⟨_, rfl⟩
      rw [ha1] at hinv
      have hinv0 := hinv
      have hl1 := foldF_len ps acc
      rw [ha1] at hl1
      unfold partsF at hps
      (refine goA ?_; try with_reducible exact trivial)
      (generalize hrq : rowOf _ _ (fmsA kids) = rq; obtain rfl : rq = fmA f := hrq.symm.trans (hr); clear hrq; conv => whnf)
      by_cases hkk : f.k = kind
      · rw [if_pos hkk] at hps
        have hrp : ∀ j (h : j < ps.length), rowOf 5 (Int.toNat j) (fmsA f.kids) = fmA ps[j] := fun j h => by subst hps; exact rowOf_fms f.kids j h
        have hln : f.kids.length = ps.length := by rw [hps]
        (refine goA ?_; try with_reducible exact trivial)
        refine loop_pub [1] ?_
        conv => whnf
        refine loop_keep [0, 4, 5, 6, 8, 9, 15, 16, 17, 29, 30] ?_
        conv => whnf
        refine loop_goQ (fun x : Nat × List Fm => [(31, .v (.int .i64 x.1)), (6, .own 0), (29, .sl 5 f.kids.length (fmsA f.kids))]) (fun _ => [zero5, fmA (absF kind), fmA f]) (fun x => [.live 25 5 x.2.length (fmsA x.2), .pub 5 1 (fmA f)]) (fun x => x.1 ≤ ps.length ∧ ((ps.drop x.1)).foldl addF x.2 = acc1 ∧ x.2.length + (ps.length - x.1) ≤ acc.length + ps.length) (fun x => ps.length - x.1) (0, acc) ?_ ⟨Nat.zero_le _, ha1, by simp⟩ ?_
        · unfold headQ
          repeat' constructor
        · rintro ⟨j, ac⟩ ⟨hj, hinv, hbd2⟩
          simp only at hj hinv hbd2
          conv => whnf
          by_cases hjl : j < ps.length
          · have hrj := hrp j hjl
            rw [List.drop_eq_getElem_cons hjl, List.foldl_cons] at hinv
            generalize ps[j] = g at *
            (refine goA ?_; try with_reducible exact trivial)
            (generalize hrq : rowOf _ _ (fmsA f.kids) = rq; obtain rfl : rq = fmA g := hrq.symm.trans (hrj); clear hrq; conv => whnf)
            refine callL [0] rfl (fun _ => contF_spec ac 76 g _ (ask1 g)) ?_
            rintro r rfl
            refine ⟨_, rfl, ?_⟩
            conv => whnf
            unfold addF at hinv
            cases hq : ac.any (fun x => eqM g x) with
            | true =>
              rw [hq, if_pos rfl] at hinv
              conv => whnf
              refine ⟨i64w (by omega), ?_⟩
              conv => whnf
              refine ⟨(j + 1, ac), le_head ?_, ⟨hjl, hinv, by simp only; omega⟩, by simp only; omega⟩
              repeat' constructor
            | false =>
              rw [hq, if_neg (by simp)] at hinv
              conv => whnf
              refine ⟨⟨by simp only; unfold maxLen; omega, by simp only; omega⟩, ?_⟩
              conv => whnf
              refine ⟨i64w (by omega), ?_⟩
              conv => whnf
              refine ⟨(j + 1, ac ++ [g]), le_head ?_, ⟨hjl, hinv, by simp only [List.length_append, List.length_cons, List.length_nil]; omega⟩, by simp only; omega⟩
              repeat' constructor
              · simp only [List.length_append, List.length_cons, List.length_nil]
                rw [fmsA_snoc]; rfl
          · (refine goA ?_; try with_reducible exact trivial)
            rw [List.drop_of_length_le (by omega)] at hinv
            change ac = acc1 at hinv
            subst hinv
            refine ⟨(k + 1, ac), le_head ?_, ⟨hlt, hinv0, by simp only; omega⟩, by simp only; omega⟩
            repeat' constructor
      · rw [if_neg hkk] at hps
        have hrp : ∀ j (h : j < ps.length), rowOf 5 (Int.toNat j) (fmA f) = fmA ps[j] := fun j h => by
          subst hps
          have := rowOf_fms [f] j h
          rw [fmsA_cons, fmsA_nil, List.append_nil] at this
          exact this
        have hln : 1 = ps.length := by rw [← hps]; rfl
        (refine goA ?_; try with_reducible exact trivial)
        refine loop_pub [1] ?_
        conv => whnf
        refine loop_keep [0, 4, 5, 6, 8, 9, 15, 16, 17, 29, 30] ?_
        conv => whnf
        refine loop_goQ (fun x : Nat × List Fm => [(31, .v (.int .i64 x.1)), (6, .own 0), (29, .sl 5 1 (fmA f))]) (fun _ => [zero5, fmA (absF kind), fmA f]) (fun x => [.live 25 5 x.2.length (fmsA x.2), .pub 5 1 (fmA f)]) (fun x => x.1 ≤ ps.length ∧ ((ps.drop x.1)).foldl addF x.2 = acc1 ∧ x.2.length + (ps.length - x.1) ≤ acc.length + ps.length) (fun x => ps.length - x.1) (0, acc) ?_ ⟨Nat.zero_le _, ha1, by simp⟩ ?_
        · unfold headQ
          repeat' constructor
        · rintro ⟨j, ac⟩ ⟨hj, hinv, hbd2⟩
          simp only at hj hinv hbd2
          conv => whnf
          by_cases hjl : j < ps.length
          · have hrj := hrp j hjl
            rw [List.drop_eq_getElem_cons hjl, List.foldl_cons] at hinv
            generalize ps[j] = g at *
            (refine goA ?_; try with_reducible exact trivial)
            (generalize hrq : rowOf _ _ (fmA f) = rq; obtain rfl : rq = fmA g := hrq.symm.trans (hrj); clear hrq; conv => whnf)
            refine callL [0] rfl (fun _ => contF_spec ac 76 g _ (ask1 g)) ?_
            rintro r rfl
            refine ⟨_, rfl, ?_⟩
            conv => whnf
            unfold addF at hinv
            cases hq : ac.any (fun x => eqM g x) with
            | true =>
              rw [hq, if_pos rfl] at hinv
              conv => whnf
              refine ⟨i64w (by omega), ?_⟩
              conv => whnf
              refine ⟨(j + 1, ac), le_head ?_, ⟨hjl, hinv, by simp only; omega⟩, by simp only; omega⟩
              repeat' constructor
            | false =>
              rw [hq, if_neg (by simp)] at hinv
              conv => whnf
              refine ⟨⟨by simp only; unfold maxLen; omega, by simp only; omega⟩, ?_⟩
              conv => whnf
              refine ⟨i64w (by omega), ?_⟩
              conv => whnf
              refine ⟨(j + 1, ac ++ [g]), le_head ?_, ⟨hjl, hinv, by simp only [List.length_append, List.length_cons, List.length_nil]; omega⟩, by simp only; omega⟩
              repeat' constructor
              · simp only [List.length_append, List.length_cons, List.length_nil]
                rw [fmsA_snoc]; rfl
          · (refine goA ?_; try with_reducible exact trivial)
            rw [List.drop_of_length_le (by omega)] at hinv
            change ac = acc1 at hinv
            subst hinv
            refine ⟨(k + 1, ac), le_head ?_, ⟨hlt, hinv0, by simp only; omega⟩, by simp only; omega⟩
            repeat' constructor
    · rw [List.drop_of_length_le (by omega)] at hinv
      change acc = L at hinv
      subst hinv
      unfold finJ
      (refine goA ?_; try with_reducible exact trivial)
      refine callL [0] rfl (fun _ => contF_spec acc 77 (absF kind) _ (ask2 (absF kind))) ?_
      rintro r rfl
      refine ⟨_, rfl, ?_⟩
      conv => whnf
      cases hq : acc.any (fun x => eqM x (absF kind)) with
      | true =>
        rw [if_pos rfl]
        conv => whnf
        rfl
      | false =>
        rw [if_neg (by simp)]
        conv => whnf
        rcases acc with _ | ⟨f1, acc⟩
        · conv => whnf
          rfl
        rcases acc with _ | ⟨f2, acc⟩
        · have e1 : fmsA [f1] = fmA f1 := by rw [fmsA_cons, fmsA_nil, List.append_nil]
          simp only [e1]
          conv => whnf
          (refine goA ?_; try with_reducible exact trivial)
          rfl
        · have hln : (f1 :: f2 :: acc).length = acc.length + 2 := by simp
          rw [finJ_two]
          generalize f1 :: f2 :: acc = M at *
          conv => whnf
          (refine goA ?_; try with_reducible exact trivial)
          rfl
end Go.Proofs.YtndflafkigldmaaGreatDoor.Vm
namespace Go.Proofs.YtndflafkigldmaaGreatDoor.Vm
open Go.RowKit Go.Shelf
set_option linter.unusedSimpArgs false
set_option linter.unusedVariables false
set_option maxRecDepth 100000
def fz : Fm := .mk 0 0 0 0 []
def g0 (l : List Fm) : Fm := l.getD 0 fz
def g1 (l : List Fm) : Fm := l.getD 1 fz
def buildK (k a b n : Int) (ks : List Fm) : Fm :=
  if k = 3 ∨ k = 4 then joinF k ks
  else if k = 2 then (if isC (g0 ks) = true then constF (decide ((g0 ks).k = 4)) else if (g0 ks).k = 2 then g0 (g0 ks).kids else .mk k a b n ks)
  else if k = 6 then (if (isC (g1 ks) || eqM (g0 ks) (constF false)) = true then g1 ks else .mk k a b n ks)
  else if k = 5 ∨ k = 7 ∨ k = 8 then (if isC (g0 ks) = true then g0 ks else .mk k a b n ks)
  else .mk k a b n ks
def buildF (f : Fm) (ks : List Fm) : Fm := buildK f.k f.a f.b f.n ks
theorem mk_k (k a b n : Int) (l : List Fm) : (Fm.mk k a b n l).k = k := rfl
structure NeedK (k : Int) (ks : List Fm) : Prop where
  j : k = 3 ∨ k = 4 → (flatJ k ks).length ≤ 1000000000000
  n : k = 2 → 1 ≤ ks.length ∧ ((g0 ks).k = 2 → 1 ≤ (g0 ks).kids.length)
  u : k = 6 → 2 ≤ ks.length
  o : k = 5 ∨ k = 7 ∨ k = 8 → 1 ≤ ks.length
theorem row0 {l : List Fm} (h : 1 ≤ l.length) : rowOf 5 (Int.toNat 0) (fmsA l) = fmA (g0 l) := by
  have := rowOf_fms l 0 h
  unfold g0
  rw [List.getD_eq_getElem?_getD, List.getElem?_eq_getElem h]
  exact this
theorem row1 {l : List Fm} (h : 2 ≤ l.length) : rowOf 5 (Int.toNat 1) (fmsA l) = fmA (g1 l) := by
  have := rowOf_fms l 1 h
  unfold g1
  rw [List.getD_eq_getElem?_getD, List.getElem?_eq_getElem h]
  exact this
set_option maxHeartbeats 1000000 in
theorem build_spec (f : Fm) (ks : List Fm) (h : NeedK f.k ks) : Spec Tryz.prog 63 [] [.agg (fmA f), .sl 5 ks.length (fmsA ks)] fun _ r => r = .agg (fmA (buildF f ks)) := by
  have hjoin := fun h => join_spec f.k ks h
  obtain ⟨R, hR⟩ : ∃ R, buildF f ks = R := ⟨_, rfl⟩
  rw [hR]
  obtain ⟨k, a, b, n, l⟩ := f
  change buildK k a b n ks = R at hR
  change (flatJ k ks).length ≤ 1000000000000 → Spec Tryz.prog 66 [] [intA k, .sl 5 ks.length (fmsA ks)] (fun _ r => r = .agg (fmA (joinF k ks))) at hjoin
  change NeedK k ks at h
  unfold buildK at hR
  refine spec_of (cx_ok (fun id => match Nat.beq id 11 with | true => .q 0 7 .nil | false => ord63 id) xs0 0) (fun _ _ h => h) Tryz.func63 rfl (by kernel_rfl) rfl (by kernel_rfl) ?_
  intro hok
  simp only [fmA, Fm.k, Fm.a, Fm.b, Fm.n, Fm.kids]
  conv => whnf
  by_cases h3 : k = 3
  · rw [decide_eq_true h3]
    rw [if_pos (show k = 3 ∨ k = 4 from .inl h3)] at hR
    conv => whnf
    (refine call0 [] rfl (fun _ => hjoin (h.j (.inl h3))) ?_; rintro r rfl; conv => whnf)
    rw [hR]
    rfl
  · rw [decide_eq_false h3]
    conv => whnf
    by_cases h4 : k = 4
    · rw [decide_eq_true h4]
      rw [if_pos (show k = 3 ∨ k = 4 from .inr h4)] at hR
      conv => whnf
      (refine call0 [] rfl (fun _ => hjoin (h.j (.inr h4))) ?_; rintro r rfl; conv => whnf)
      rw [hR]
      rfl
    · rw [decide_eq_false h4]
      rw [if_neg (show ¬ (k = 3 ∨ k = 4) by omega)] at hR
      conv => whnf
      by_cases h2 : k = 2
      · obtain ⟨hn1, hn2⟩ := h.n h2
        have hr0 := row0 hn1
        rw [decide_eq_true h2]
        rw [if_pos h2] at hR
        generalize g0 ks = x at *
        have hisc := isC_spec x
        have hcs := const_spec (decide (x.k = 4))
        conv => whnf
        (refine goA ?_; try with_reducible exact trivial)
        (generalize hrq : rowOf _ _ (fmsA ks) = rq; obtain rfl : rq = fmA x := hrq.symm.trans (hr0); clear hrq; conv => whnf)
        (refine call0 [] rfl (fun _ => hisc) ?_; rintro r rfl; conv => whnf)
        cases hc : isC x with
        | true =>
          rw [if_pos hc] at hR
          conv => whnf
          (refine goA ?_; try with_reducible exact trivial)
          (generalize hrq : rowOf _ _ (fmsA ks) = rq; obtain rfl : rq = fmA x := hrq.symm.trans (hr0); clear hrq; conv => whnf)
          (refine call0 [] rfl (fun _ => hcs) ?_; rintro r rfl; conv => whnf)
          rw [hR]
          rfl
        | false =>
          rw [if_neg (show ¬ isC x = true by rw [hc]; simp)] at hR
          conv => whnf
          (refine goA ?_; try with_reducible exact trivial)
          (generalize hrq : rowOf _ _ (fmsA ks) = rq; obtain rfl : rq = fmA x := hrq.symm.trans (hr0); clear hrq; conv => whnf)
          by_cases hx2 : x.k = 2
          · rw [decide_eq_true hx2]
            rw [if_pos hx2] at hR
            have hr1 := row0 (hn2 hx2)
            generalize g0 x.kids = y at *
            have hn3 := hn2 hx2
            conv => whnf
            (refine goA ?_; try with_reducible exact trivial)
            (generalize hrq : rowOf _ _ (fmsA ks) = rq; obtain rfl : rq = fmA x := hrq.symm.trans (hr0); clear hrq; conv => whnf)
            (refine goA ?_; try with_reducible exact trivial)
            (generalize hrq : rowOf _ _ (fmsA x.kids) = rq; obtain rfl : rq = fmA y := hrq.symm.trans (hr1); clear hrq; conv => whnf)
            rw [hR]
            rfl
          · rw [decide_eq_false hx2]
            rw [if_neg hx2] at hR
            conv => whnf
            rw [← hR]
            rfl
      · rw [decide_eq_false h2]
        rw [if_neg h2] at hR
        conv => whnf
        by_cases h6 : k = 6
        · have hn := h.u h6
          have hr0 := row0 (l := ks) (by omega)
          have hr1 := row1 hn
          rw [decide_eq_true h6]
          rw [if_pos h6] at hR
          generalize g0 ks = x at *
          generalize g1 ks = y at *
          have hisc := isC_spec y
          have hcs := const_spec false
          have heq := equal_spec x (constF false)
          unfold EqSpec at heq
          conv => whnf
          (iterate 1 (apply flow_go; (focus ((conv => whnf); exact ⟨rfl, rfl, rfl⟩)); (conv => whnf)))
          (apply flow_go; (focus ((conv => whnf); refine ⟨by omega, ?_⟩; (generalize hrq : rowOf _ _ (fmsA ks) = rq; obtain rfl : rq = fmA y := hrq.symm.trans (hr1); exact ⟨rfl, rfl, rfl⟩))); (conv => whnf))
          (iterate 1 (apply flow_go; (focus ((conv => whnf); exact ⟨rfl, rfl, rfl⟩)); (conv => whnf)))
          (apply flow_go; (focus ((conv => whnf); refine call0 [] rfl (fun _ => hisc) ?_; rintro r rfl; (conv => whnf); exact ⟨rfl, rfl, rfl⟩)); (conv => whnf))
          cases hc : isC y with
          | true =>
            rw [hc, Bool.true_or, if_pos rfl] at hR
            (iterate 1 (apply flow_go; (focus ((conv => whnf); exact ⟨rfl, rfl, rfl⟩)); (conv => whnf)))
            (iterate 5 (apply flow_go; (focus ((conv => whnf); done)); (conv => whnf)))
            (iterate 1 (apply flow_go; (focus ((conv => whnf); exact ⟨rfl, rfl, rfl⟩)); (conv => whnf)))
            (refine goA ?_; try with_reducible exact trivial)
            (generalize hrq : rowOf _ _ (fmsA ks) = rq; obtain rfl : rq = fmA y := hrq.symm.trans (hr1); clear hrq; conv => whnf)
            rw [← hR]
            rfl
          | false =>
            rw [hc, Bool.false_or] at hR
            (iterate 2 (apply flow_go; (focus ((conv => whnf); exact ⟨rfl, rfl, rfl⟩)); (conv => whnf)))
            (apply flow_go; (focus ((conv => whnf); refine ⟨by omega, ?_⟩; (generalize hrq : rowOf _ _ (fmsA ks) = rq; obtain rfl : rq = fmA x := hrq.symm.trans (hr0); exact ⟨rfl, rfl, rfl⟩))); (conv => whnf))
            (iterate 1 (apply flow_go; (focus ((conv => whnf); exact ⟨rfl, rfl, rfl⟩)); (conv => whnf)))
            (apply flow_go; (focus ((conv => whnf); refine call0 [] rfl (fun _ => hcs) ?_; rintro r rfl; (conv => whnf); exact ⟨rfl, rfl, rfl⟩)); (conv => whnf))
            (apply flow_go; (focus ((conv => whnf); refine call0 [] rfl (fun _ => heq) ?_; rintro r rfl; (conv => whnf); exact ⟨rfl, rfl, rfl⟩)); (conv => whnf))
            cases he : eqM x (constF false) with
            | true =>
              rw [he, if_pos rfl] at hR
              (iterate 1 (apply flow_go; (focus ((conv => whnf); exact ⟨rfl, rfl, rfl⟩)); (conv => whnf)))
              (refine goA ?_; try with_reducible exact trivial)
              (generalize hrq : rowOf _ _ (fmsA ks) = rq; obtain rfl : rq = fmA y := hrq.symm.trans (hr1); clear hrq; conv => whnf)
              rw [← hR]
              rfl
            | false =>
              rw [he, if_neg (by simp)] at hR
              (iterate 1 (apply flow_go; (focus ((conv => whnf); exact ⟨rfl, rfl, rfl⟩)); (conv => whnf)))
              (refine goA ?_; try with_reducible exact trivial)
              rw [← hR]
              rfl
        · rw [decide_eq_false h6]
          rw [if_neg h6] at hR
          conv => whnf
          by_cases h5 : k = 5 ∨ k = 7 ∨ k = 8
          · have hn1 := h.o h5
            have hr0 := row0 hn1
            rw [if_pos h5] at hR
            generalize g0 ks = x at *
            have hisc := isC_spec x
            rcases h5 with h5 | h5 | h5
            · rw [decide_eq_true h5]
              conv => whnf
              (refine goA ?_; try with_reducible exact trivial)
              (generalize hrq : rowOf _ _ (fmsA ks) = rq; obtain rfl : rq = fmA x := hrq.symm.trans (hr0); clear hrq; conv => whnf)
              (refine call0 [] rfl (fun _ => hisc) ?_; rintro r rfl; conv => whnf)
              cases hc : isC x with
              | true =>
                rw [if_pos hc] at hR
                conv => whnf
                (refine goA ?_; try with_reducible exact trivial)
                (generalize hrq : rowOf _ _ (fmsA ks) = rq; obtain rfl : rq = fmA x := hrq.symm.trans (hr0); clear hrq; conv => whnf)
                rw [← hR]
                rfl
              | false =>
                rw [if_neg (show ¬ isC x = true by rw [hc]; simp)] at hR
                conv => whnf
                rw [← hR]
                rfl
            · rw [decide_eq_false (show ¬ k = 5 by omega)]
              conv => whnf
              rw [decide_eq_true h5]
              conv => whnf
              (refine goA ?_; try with_reducible exact trivial)
              (generalize hrq : rowOf _ _ (fmsA ks) = rq; obtain rfl : rq = fmA x := hrq.symm.trans (hr0); clear hrq; conv => whnf)
              (refine call0 [] rfl (fun _ => hisc) ?_; rintro r rfl; conv => whnf)
              cases hc : isC x with
              | true =>
                rw [if_pos hc] at hR
                conv => whnf
                (refine goA ?_; try with_reducible exact trivial)
                (generalize hrq : rowOf _ _ (fmsA ks) = rq; obtain rfl : rq = fmA x := hrq.symm.trans (hr0); clear hrq; conv => whnf)
                rw [← hR]
                rfl
              | false =>
                rw [if_neg (show ¬ isC x = true by rw [hc]; simp)] at hR
                conv => whnf
                rw [← hR]
                rfl
            · rw [decide_eq_false (show ¬ k = 5 by omega)]
              conv => whnf
              rw [decide_eq_false (show ¬ k = 7 by omega)]
              conv => whnf
              rw [decide_eq_true h5]
              conv => whnf
              (refine goA ?_; try with_reducible exact trivial)
              (generalize hrq : rowOf _ _ (fmsA ks) = rq; obtain rfl : rq = fmA x := hrq.symm.trans (hr0); clear hrq; conv => whnf)
              (refine call0 [] rfl (fun _ => hisc) ?_; rintro r rfl; conv => whnf)
              cases hc : isC x with
              | true =>
                rw [if_pos hc] at hR
                conv => whnf
                (refine goA ?_; try with_reducible exact trivial)
                (generalize hrq : rowOf _ _ (fmsA ks) = rq; obtain rfl : rq = fmA x := hrq.symm.trans (hr0); clear hrq; conv => whnf)
                rw [← hR]
                rfl
              | false =>
                rw [if_neg (show ¬ isC x = true by rw [hc]; simp)] at hR
                conv => whnf
                rw [← hR]
                rfl
          · rw [if_neg h5] at hR
            rw [decide_eq_false (show ¬ k = 5 by omega)]
            conv => whnf
            rw [decide_eq_false (show ¬ k = 7 by omega)]
            conv => whnf
            rw [decide_eq_false (show ¬ k = 8 by omega)]
            conv => whnf
            rw [← hR]
            rfl
end Go.Proofs.YtndflafkigldmaaGreatDoor.Vm
namespace Go.Proofs.YtndflafkigldmaaGreatDoor.Vm
open Go.RowKit Go.Shelf
set_option linter.unusedSimpArgs false
set_option linter.unusedVariables false
set_option maxRecDepth 100000
mutual
def simF : Fm → Fm
  | .mk k a b n l => buildK k a b n (simFs l)
def simFs : List Fm → List Fm
  | [] => []
  | f :: l => simF f :: simFs l
end
theorem simFs_map : ∀ l : List Fm, simFs l = l.map simF
  | [] => by unfold simFs; rfl
  | f :: l => by unfold simFs; rw [simFs_map l]; rfl
theorem simF_mk (k a b n : Int) (l : List Fm) : simF (.mk k a b n l) = buildK k a b n (l.map simF) := by
  rw [← simFs_map]
  conv => lhs; unfold simF
mutual
def FitS : Fm → Prop
  | .mk k _ _ _ l => l.length ≤ 1000000000000 ∧ NeedK k (simFs l) ∧ FitSs l
def FitSs : List Fm → Prop
  | [] => True
  | f :: l => FitS f ∧ FitSs l
end
theorem fitSs_mem : ∀ {l : List Fm} {f : Fm}, FitSs l → f ∈ l → FitS f
  | g :: l, f, h, hf => by
    unfold FitSs at h
    rcases List.mem_cons.1 hf with rfl | hf
    · exact h.1
    · exact fitSs_mem h.2 hf
theorem fitSs_mk : ∀ {l : List Fm}, (∀ f ∈ l, FitS f) → FitSs l
  | [], _ => by unfold FitSs; trivial
  | g :: l, h => by unfold FitSs; exact ⟨h g (by simp), fitSs_mk fun f hf => h f (by simp [hf])⟩
theorem fitS_mk {k a b n : Int} {l : List Fm} (h0 : l.length ≤ 1000000000000) (h1 : NeedK k (l.map simF)) (h2 : ∀ f ∈ l, FitS f) : FitS (.mk k a b n l) := by
  unfold FitS
  rw [simFs_map]
  exact ⟨h0, h1, fitSs_mk h2⟩
theorem fitS_of {k a b n : Int} {l : List Fm} (h : FitS (.mk k a b n l)) : l.length ≤ 1000000000000 ∧ NeedK k (l.map simF) ∧ ∀ f ∈ l, FitS f := by
  unfold FitS at h
  rw [simFs_map] at h
  exact ⟨h.1, h.2.1, fun f hf => fitSs_mem h.2.2 hf⟩
theorem take_map {α : Type} (g : α → Fm) (l : List α) (k : Nat) (h : k < l.length) : (l.take (k + 1)).map g = (l.take k).map g ++ [g l[k]] := by
  rw [List.take_add_one, List.getElem?_eq_getElem h, List.map_append]; rfl
set_option maxHeartbeats 1000000 in
theorem simplify_spec : ∀ (f : Fm), FitS f → Spec Tryz.prog 38 [] [.agg (fmA f)] fun _ r => r = .agg (fmA (simF f))
  | .mk k a b n l, hfit => by
    obtain ⟨hl, hneed, hfk⟩ := fitS_of hfit
    have ih : ∀ f ∈ l, Spec Tryz.prog 38 [] [.agg (fmA f)] fun _ r => r = .agg (fmA (simF f)) := fun f hf => simplify_spec f (hfk f hf)
    have hbuild := build_spec (.mk k a b n l) (l.map simF) hneed
    rw [simF_mk]
    change Spec _ _ _ _ (fun _ r => r = .agg (fmA (buildK k a b n (l.map simF)))) at hbuild
    generalize buildK k a b n (l.map simF) = R at *
    refine spec_of (cx_ok ord0 xs0 0) (fun _ _ h => h) Tryz.func38 rfl (by kernel_rfl) rfl (by kernel_rfl) ?_
    intro hok
    simp only [fmA, Fm.k, Fm.a, Fm.b, Fm.n, Fm.kids] at hbuild ⊢
    clear hfit
    conv => whnf
    refine loop_row 25 5 [3] [] ?_
    conv => whnf
    refine ⟨trivial, ?_⟩
    conv => whnf
    refine loop_keep [1, 2, 3, 7, 8] ?_
    conv => whnf
    refine loop_goQ (fun j : Nat => [(9, .v (.int .i64 j)), (3, .own 0)]) (fun _ => [[intA k, intA a, intA b, intA n, .sl 5 l.length (fmsA l)], zero5]) (fun j => [.live 25 5 j (fmsA ((l.take j).map simF))]) (fun j => j ≤ l.length) (fun j => l.length - j) 0 ?_ (Nat.zero_le _) ?_
    · unfold headQ
      repeat' constructor
      · show [Row.live _ _ _ _] = [Row.live _ _ _ _]
        rw [List.take_zero, List.map_nil, fmsA_nil]
    · rintro j hj
      conv => whnf
      by_cases hlt : j < l.length
      · have hr := rowOf_fms l j hlt
        have hih := ih l[j] (List.getElem_mem hlt)
        have htk := take_map simF l j hlt
        generalize l[j] = f at *
        (refine goA ?_; try with_reducible exact trivial)
        (generalize hrq : rowOf _ _ (fmsA l) = rq; obtain rfl : rq = fmA f := hrq.symm.trans (hr); clear hrq; conv => whnf)
        (refine call0 [] rfl (fun _ => hih) ?_; rintro r rfl; conv => whnf)
        refine ⟨⟨by unfold maxLen; omega, by omega⟩, ?_⟩
        conv => whnf
        (refine goA ?_; try with_reducible exact trivial)
        refine ⟨j + 1, le_head ?_, hlt, by omega⟩
        repeat' constructor
        · rw [htk, fmsA_snoc]; rfl
      · obtain rfl : j = l.length := by omega
        rw [List.take_length]
        have hml : (l.map simF).length = l.length := by simp
        rw [hml] at hbuild
        generalize l.map simF = M at *
        (refine goA ?_; try with_reducible exact trivial)
        (refine call0 [0] rfl (fun _ => hbuild) ?_; rintro r rfl; conv => whnf)
        rfl
termination_by f => SizeOf.sizeOf f
decreasing_by
  have := List.sizeOf_lt_of_mem hf
  simp only [Fm.mk.sizeOf_spec]
  omega
end Go.Proofs.YtndflafkigldmaaGreatDoor.Vm
namespace Go.Proofs.YtndflafkigldmaaGreatDoor.Vm
open Go.RowKit Go.Shelf
set_option linter.unusedSimpArgs false
set_option linter.unusedVariables false
set_option maxRecDepth 100000
def atV (v : List Int) (a : Int) : Int := if a < v.length then v.getD a.toNat 0 else 0
def cmpV (b x n : Int) : Bool := if b = 0 then decide (x < n) else if b = 1 then decide (x = n) else decide (n < x)
def proK (v : List Int) (k a b n : Int) (l P : List Fm) : Fm :=
  if k = 1 then constF (cmpV b (atV v a) n)
  else if k = 5 then simF (g0 l)
  else if k = 7 then joinF 3 [g0 P, simF (.mk k a b n l)]
  else if k = 8 then joinF 4 [g0 P, simF (.mk k a b n l)]
  else if k = 6 then joinF 4 [g1 P, joinF 3 [g0 P, simF (.mk k a b n l)]]
  else buildK k a b n P
mutual
def proF (v : List Int) : Fm → Fm
  | .mk k a b n l => proK v k a b n l (proFs v l)
def proFs (v : List Int) : List Fm → List Fm
  | [] => []
  | f :: l => proF v f :: proFs v l
end
theorem proFs_map (v : List Int) : ∀ l : List Fm, proFs v l = l.map (proF v)
  | [] => by unfold proFs; rfl
  | f :: l => by unfold proFs; rw [proFs_map v l]; rfl
theorem proF_mk (v : List Int) (k a b n : Int) (l : List Fm) : proF v (.mk k a b n l) = proK v k a b n l (l.map (proF v)) := by
  rw [← proFs_map]
  conv => lhs; unfold proF
def JB (k : Int) (l : List Fm) : Prop := (flatJ k l).length ≤ 1000000000000
structure NeedP (k a b n : Int) (l P : List Fm) : Prop where
  v : k = 1 → 0 ≤ a ∧ 0 ≤ b ∧ b ≤ 2
  x : k = 5 → 1 ≤ l.length ∧ FitS (g0 l)
  w : k = 7 → 1 ≤ l.length ∧ FitS (.mk k a b n l) ∧ JB 3 [g0 P, simF (.mk k a b n l)]
  e : k = 8 → 1 ≤ l.length ∧ FitS (.mk k a b n l) ∧ JB 4 [g0 P, simF (.mk k a b n l)]
  u : k = 6 → 2 ≤ l.length ∧ FitS (.mk k a b n l) ∧ JB 3 [g0 P, simF (.mk k a b n l)] ∧ JB 4 [g1 P, joinF 3 [g0 P, simF (.mk k a b n l)]]
  o : k ≠ 1 → k ≠ 5 → k ≠ 6 → k ≠ 7 → k ≠ 8 → l.length ≤ 1000000000000 ∧ NeedK k P
mutual
def FitP (v : List Int) : Fm → Prop
  | .mk k a b n l => NeedP k a b n l (proFs v l) ∧ FitPs v l
def FitPs (v : List Int) : List Fm → Prop
  | [] => True
  | f :: l => FitP v f ∧ FitPs v l
end
theorem fitPs_mem {v : List Int} : ∀ {l : List Fm} {f : Fm}, FitPs v l → f ∈ l → FitP v f
  | g :: l, f, h, hf => by
    unfold FitPs at h
    rcases List.mem_cons.1 hf with rfl | hf
    · exact h.1
    · exact fitPs_mem h.2 hf
theorem fitPs_mk {v : List Int} : ∀ {l : List Fm}, (∀ f ∈ l, FitP v f) → FitPs v l
  | [], _ => by unfold FitPs; trivial
  | g :: l, h => by unfold FitPs; exact ⟨h g (by simp), fitPs_mk fun f hf => h f (by simp [hf])⟩
theorem fitP_mk {v : List Int} {k a b n : Int} {l : List Fm} (h1 : NeedP k a b n l (l.map (proF v))) (h2 : ∀ f ∈ l, FitP v f) : FitP v (.mk k a b n l) := by
  unfold FitP
  rw [proFs_map]
  exact ⟨h1, fitPs_mk h2⟩
theorem fitP_of {v : List Int} {k a b n : Int} {l : List Fm} (h : FitP v (.mk k a b n l)) : NeedP k a b n l (l.map (proF v)) ∧ ∀ f ∈ l, FitP v f := by
  unfold FitP at h
  rw [proFs_map] at h
  exact ⟨h.1, fun f hf => fitPs_mem h.2 hf⟩
def PrSpec (v : List Int) (f : Fm) : Prop := Spec Tryz.prog 40 [] [.agg (fmA f), .sl 1 v.length (intsA v)] fun _ r => r = .agg (fmA (proF v f))
def bxV (v : List Int) : List A := [.sl 1 v.length (intsA v)]
theorem pro1_spec (v : List Int) (f : Fm) (i : Nat) (hi : i < f.kids.length) (h : PrSpec v f.kids[i]) : Spec Tryz.prog 64 [fmA f, bxV v] [intA i, .box 0 0, .box 1 0] fun o r => o = [fmA f, bxV v] ∧ r = .agg (fmA (proF v f.kids[i])) := by
  have hr := rowOf_fms f.kids i hi
  unfold PrSpec at h
  generalize f.kids[i] = g at *
  refine spec_of (cx_ok ord64 xs0 2) (fun _ _ h => h) Tryz.func64 rfl (by kernel_rfl) rfl (by kernel_rfl) ?_
  intro _
  conv => whnf
  (refine goA ?_; try with_reducible exact trivial)
  (generalize hrq : rowOf _ _ (fmsA f.kids) = rq; obtain rfl : rq = fmA g := hrq.symm.trans (hr); clear hrq; conv => whnf)
  (refine call0 [] rfl (fun _ => h) ?_; rintro r rfl; conv => whnf)
  exact ⟨rfl, rfl⟩
def ordPr (id : Nat) : Tr := match Nat.beq id 11 with
  | true => .q 0 3 (.alt 1 2 (.alt 2 2 (.alt 3 2 (.alt 4 2 (.alt 5 2 (.alt 6 2 .nil .nil) .nil) .nil) .nil) .nil) (.alt 2 2 (.alt 1 2 (.alt 3 2 (.alt 4 2 (.alt 5 2 (.alt 6 2 .nil .nil) .nil) .nil) .nil) .nil) .nil))
  | false => match Nat.beq id 13 with
    | true => .q 0 3 (.alt 1 2 (.alt 2 2 (.alt 3 2 (.alt 4 2 (.alt 5 2 (.alt 6 2 .nil .nil) .nil) .nil) .nil) .nil) (.alt 2 2 (.alt 1 2 (.alt 3 2 (.alt 4 2 (.alt 5 2 (.alt 6 2 .nil .nil) .nil) .nil) .nil) .nil) .nil))
    | false => match Nat.beq id 15 with
      | true => .q 0 3 (.q 2 3 (.alt 1 2 (.alt 3 2 (.alt 4 2 (.alt 5 2 (.alt 6 2 (.alt 7 2 (.alt 8 2 (.alt 9 2 (.alt 10 2 .nil .nil) .nil) .nil) .nil) .nil) .nil) .nil) (.alt 4 2 (.alt 3 2 (.alt 5 2 (.alt 6 2 (.alt 7 2 (.alt 8 2 (.alt 9 2 (.alt 10 2 .nil .nil) .nil) .nil) .nil) .nil) .nil) .nil) .nil)) (.alt 4 2 (.alt 1 2 (.alt 3 2 (.alt 5 2 (.alt 6 2 (.alt 7 2 (.alt 8 2 (.alt 9 2 (.alt 10 2 .nil .nil) .nil) .nil) .nil) .nil) .nil) .nil) .nil) .nil)))
      | false => .nil
theorem fmA_mk (k a b n : Int) (l : List Fm) : fmA (.mk k a b n l) = [intA k, intA a, intA b, intA n, .sl 5 l.length (fmsA l)] := rfl
theorem g0_map {v : List Int} {l P : List Fm} (hP : l.map (proF v) = P) (h : 0 < l.length) : proF v l[0] = g0 P := by
  subst hP
  unfold g0
  rw [List.getD_eq_getElem?_getD, List.getElem?_map, List.getElem?_eq_getElem h]; rfl
theorem g1_map {v : List Int} {l P : List Fm} (hP : l.map (proF v) = P) (h : 1 < l.length) : proF v l[1] = g1 P := by
  subst hP
  unfold g1
  rw [List.getD_eq_getElem?_getD, List.getElem?_map, List.getElem?_eq_getElem h]; rfl
theorem fmsA_two (x y : Fm) : fmsA [x, y] = fmA x ++ fmA y := by rw [fmsA_cons, fmsA_cons, fmsA_nil, List.append_nil]
theorem cmpV0 (x n : Int) : cmpV 0 x n = decide (x < n) := by simp [cmpV]
theorem cmpV1 (x n : Int) : cmpV 1 x n = decide (x = n) := by simp [cmpV]
theorem cmpV2 (x n : Int) : cmpV 2 x n = decide (n < x) := by simp [cmpV]
theorem row3b (x y z : Bool) (b : Int) (h0 : 0 ≤ b) (h2 : b ≤ 2) : rowOf 1 b.toNat [A.v (.bool x), A.v (.bool y), A.v (.bool z)] = [A.v (.bool (if b = 0 then x else if b = 1 then y else z))] := by
  have : b = 0 ∨ b = 1 ∨ b = 2 := by omega
  rcases this with rfl | rfl | rfl
  · simp [rowOf]
  · simp [rowOf]
  · simp [rowOf]
set_option maxHeartbeats 2000000 in
theorem pro_raw (v : List Int) (k a b n : Int) (l : List Fm) (hneed : NeedP k a b n l (l.map (proF v))) (ih : ∀ (i : Nat) (h : i < l.length), Spec Tryz.prog 64 [fmA (.mk k a b n l), bxV v] [intA i, .box 0 0, .box 1 0] fun o r => o = [fmA (.mk k a b n l), bxV v] ∧ r = .agg (fmA (proF v l[i]))) : PrSpec v (.mk k a b n l) := by
  obtain ⟨R, hR⟩ : ∃ R, proF v (.mk k a b n l) = R := ⟨_, rfl⟩
  unfold PrSpec
  rw [hR]
  rw [proF_mk] at hR
  have hml : (l.map (proF v)).length = l.length := by simp
  obtain ⟨P, hP⟩ : ∃ P, l.map (proF v) = P := ⟨_, rfl⟩
  rw [hP] at hneed hR hml
  unfold proK at hR
  refine spec_of (cx_ok ordPr xs0 0) (fun _ _ h => h) Tryz.func40 rfl (by kernel_rfl) rfl (by kernel_rfl) ?_
  intro hok
  simp only [fmA_mk, bxV] at ih ⊢
  conv => whnf
  by_cases h1 : k = 1
  · obtain ⟨ha0, hb0, hb2⟩ := hneed.v h1
    have hcs := const_spec (cmpV b (atV v a) n)
    rw [if_pos h1] at hR
    rw [decide_eq_true h1]
    conv => whnf
    by_cases hav : a < v.length
    · have hrv := rowOf_ints v a.toNat (by omega)
      have hat : atV v a = v[a.toNat]'(by omega) := by
        unfold atV
        rw [if_pos hav, List.getD_eq_getElem?_getD, List.getElem?_eq_getElem (by omega)]; rfl
      rw [← hat] at hrv
      (refine goA ?_; try with_reducible exact trivial)
      (generalize hrq : rowOf _ _ (intsA v) = rq; obtain rfl : rq = [intA (atV v a)] := hrq.symm.trans (hrv); clear hrq; conv => whnf)
      rcases (show b = 0 ∨ b = 1 ∨ b = 2 by omega) with rfl | rfl | rfl
      · rw [cmpV0] at hcs hR
        (refine goA ?_; try with_reducible exact trivial)
        (refine call0 [] rfl (fun _ => hcs) ?_; rintro r rfl; conv => whnf)
        rw [← hR]
        rfl
      · rw [cmpV1] at hcs hR
        (refine goA ?_; try with_reducible exact trivial)
        (refine call0 [] rfl (fun _ => hcs) ?_; rintro r rfl; conv => whnf)
        rw [← hR]
        rfl
      · rw [cmpV2] at hcs hR
        (refine goA ?_; try with_reducible exact trivial)
        (refine call0 [] rfl (fun _ => hcs) ?_; rintro r rfl; conv => whnf)
        rw [← hR]
        rfl
    · have hat : atV v a = 0 := by unfold atV; rw [if_neg hav]
      (refine goA ?_; try with_reducible exact trivial)
      rw [hat] at hR hcs
      rcases (show b = 0 ∨ b = 1 ∨ b = 2 by omega) with rfl | rfl | rfl
      · rw [cmpV0] at hcs hR
        (refine goA ?_; try with_reducible exact trivial)
        (refine call0 [] rfl (fun _ => hcs) ?_; rintro r rfl; conv => whnf)
        rw [← hR]
        rfl
      · rw [cmpV1] at hcs hR
        (refine goA ?_; try with_reducible exact trivial)
        (refine call0 [] rfl (fun _ => hcs) ?_; rintro r rfl; conv => whnf)
        rw [← hR]
        rfl
      · rw [cmpV2] at hcs hR
        (refine goA ?_; try with_reducible exact trivial)
        (refine call0 [] rfl (fun _ => hcs) ?_; rintro r rfl; conv => whnf)
        rw [← hR]
        rfl
  · rw [if_neg h1] at hR
    rw [decide_eq_false h1]
    conv => whnf
    by_cases h5 : k = 5
    · obtain ⟨hl1, hfs⟩ := hneed.x h5
      have hsp := simplify_spec (g0 l) hfs
      have hr0 := row0 hl1
      rw [if_pos h5] at hR
      rw [decide_eq_true h5]
      generalize g0 l = x at *
      conv => whnf
      (refine goA ?_; try with_reducible exact trivial)
      (generalize hrq : rowOf _ _ (fmsA l) = rq; obtain rfl : rq = fmA x := hrq.symm.trans (hr0); clear hrq; conv => whnf)
      (refine call0 [] rfl (fun _ => hsp) ?_; rintro r rfl; conv => whnf)
      rw [← hR]
      rfl
    · rw [if_neg h5] at hR
      rw [decide_eq_false h5]
      conv => whnf
      by_cases h7 : k = 7
      · obtain ⟨hl1, hfs, hjb⟩ := hneed.w h7
        have hsp := simplify_spec _ hfs
        have hp0 := ih 0 hl1
        rw [g0_map hP hl1] at hp0
        have hj := join_spec 3 _ hjb
        rw [if_pos h7] at hR
        rw [hR, fmsA_two] at hj
        rw [decide_eq_true h7]
        generalize simF (.mk k a b n l) = y at *
        generalize g0 P = x at *
        conv => whnf
        apply join_eq
        · conv => whnf
          refine ⟨?_, ?_⟩
          · conv => whnf
            (refine goA ?_; try with_reducible exact trivial)
            refine call2 0 1 [] rfl ⟨rfl, rfl⟩ rfl rfl rfl rfl rfl (fun _ => hp0) ?_
            rintro o p r ⟨ho, rfl⟩
            cases ho
            conv => whnf
            (refine call0 [] rfl (fun _ => hsp) ?_; rintro r rfl; conv => whnf)
            (refine call0 [0] rfl (fun _ => hj) ?_; rintro r rfl; conv => whnf)
            try rfl
          · conv => whnf
            (refine goA ?_; try with_reducible exact trivial)
            refine call2 0 1 [] rfl ⟨rfl, rfl⟩ rfl rfl rfl rfl rfl (fun _ => hp0) ?_
            rintro o p r ⟨ho, rfl⟩
            cases ho
            conv => whnf
            (refine call0 [] rfl (fun _ => hsp) ?_; rintro r rfl; conv => whnf)
            (refine call0 [0] rfl (fun _ => hj) ?_; rintro r rfl; conv => whnf)
            try rfl
        conv => whnf
        rfl
      · rw [if_neg h7] at hR
        rw [decide_eq_false h7]
        conv => whnf
        by_cases h8 : k = 8
        · obtain ⟨hl1, hfs, hjb⟩ := hneed.e h8
          have hsp := simplify_spec _ hfs
          have hp0 := ih 0 hl1
          rw [g0_map hP hl1] at hp0
          have hj := join_spec 4 _ hjb
          rw [if_pos h8] at hR
          rw [hR, fmsA_two] at hj
          rw [decide_eq_true h8]
          generalize simF (.mk k a b n l) = y at *
          generalize g0 P = x at *
          conv => whnf
          apply join_eq
          · conv => whnf
            refine ⟨?_, ?_⟩
            · conv => whnf
              (refine goA ?_; try with_reducible exact trivial)
              refine call2 0 1 [] rfl ⟨rfl, rfl⟩ rfl rfl rfl rfl rfl (fun _ => hp0) ?_
              rintro o p r ⟨ho, rfl⟩
              cases ho
              conv => whnf
              (refine call0 [] rfl (fun _ => hsp) ?_; rintro r rfl; conv => whnf)
              (refine call0 [0] rfl (fun _ => hj) ?_; rintro r rfl; conv => whnf)
              try rfl
            · conv => whnf
              (refine goA ?_; try with_reducible exact trivial)
              refine call2 0 1 [] rfl ⟨rfl, rfl⟩ rfl rfl rfl rfl rfl (fun _ => hp0) ?_
              rintro o p r ⟨ho, rfl⟩
              cases ho
              conv => whnf
              (refine call0 [] rfl (fun _ => hsp) ?_; rintro r rfl; conv => whnf)
              (refine call0 [0] rfl (fun _ => hj) ?_; rintro r rfl; conv => whnf)
              try rfl
          conv => whnf
          rfl
        · rw [if_neg h8] at hR
          rw [decide_eq_false h8]
          conv => whnf
          by_cases h6 : k = 6
          · obtain ⟨hl2, hfs, hjb, hjc⟩ := hneed.u h6
            have hsp := simplify_spec _ hfs
            have hp0 := ih 0 (by omega)
            rw [g0_map hP (by omega)] at hp0
            have hp1 := ih 1 (by omega)
            rw [g1_map hP (by omega)] at hp1
            have hj := join_spec 3 _ hjb
            have hk := join_spec 4 _ hjc
            rw [if_pos h6] at hR
            rw [fmsA_two] at hj
            rw [hR, fmsA_two] at hk
            rw [decide_eq_true h6]
            generalize simF (.mk k a b n l) = y at *
            generalize g0 P = x at *
            generalize g1 P = x1 at *
            generalize joinF 3 [x, y] = z at *
            conv => whnf
            apply join_eq
            · conv => whnf
              refine ⟨?_, ?_⟩
              · conv => whnf
                (refine goA ?_; try with_reducible exact trivial)
                refine call2 0 1 [] rfl ⟨rfl, rfl⟩ rfl rfl rfl rfl rfl (fun _ => hp1) ?_
                rintro o p r ⟨ho, rfl⟩
                cases ho
                conv => whnf
                refine ⟨?_, ?_⟩
                · conv => whnf
                  (refine goA ?_; try with_reducible exact trivial)
                  refine call2 0 1 [] rfl ⟨rfl, rfl⟩ rfl rfl rfl rfl rfl (fun _ => hp0) ?_
                  rintro o p r ⟨ho, rfl⟩
                  cases ho
                  conv => whnf
                  (refine call0 [] rfl (fun _ => hsp) ?_; rintro r rfl; conv => whnf)
                  (refine call0 [0] rfl (fun _ => hj) ?_; rintro r rfl; conv => whnf)
                  (refine call0 [1] rfl (fun _ => hk) ?_; rintro r rfl; conv => whnf)
                  try rfl
                · conv => whnf
                  (refine goA ?_; try with_reducible exact trivial)
                  refine call2 0 1 [] rfl ⟨rfl, rfl⟩ rfl rfl rfl rfl rfl (fun _ => hp0) ?_
                  rintro o p r ⟨ho, rfl⟩
                  cases ho
                  conv => whnf
                  (refine call0 [] rfl (fun _ => hsp) ?_; rintro r rfl; conv => whnf)
                  (refine call0 [0] rfl (fun _ => hj) ?_; rintro r rfl; conv => whnf)
                  (refine call0 [1] rfl (fun _ => hk) ?_; rintro r rfl; conv => whnf)
                  try rfl
              · conv => whnf
                (refine goA ?_; try with_reducible exact trivial)
                refine call2 0 1 [] rfl ⟨rfl, rfl⟩ rfl rfl rfl rfl rfl (fun _ => hp1) ?_
                rintro o p r ⟨ho, rfl⟩
                cases ho
                conv => whnf
                conv => whnf
                (refine goA ?_; try with_reducible exact trivial)
                refine call2 0 1 [] rfl ⟨rfl, rfl⟩ rfl rfl rfl rfl rfl (fun _ => hp0) ?_
                rintro o p r ⟨ho, rfl⟩
                cases ho
                conv => whnf
                (refine call0 [] rfl (fun _ => hsp) ?_; rintro r rfl; conv => whnf)
                (refine call0 [0] rfl (fun _ => hj) ?_; rintro r rfl; conv => whnf)
                (refine call0 [1] rfl (fun _ => hk) ?_; rintro r rfl; conv => whnf)
                try rfl
            conv => whnf
            rfl
          · rw [if_neg h6] at hR
            rw [decide_eq_false h6]
            conv => whnf
            obtain ⟨hl, hnk⟩ := hneed.o h1 h5 h6 h7 h8
            have hbuild := build_spec (.mk k a b n l) P hnk
            change Spec _ _ _ _ (fun _ r => r = .agg (fmA (buildK k a b n P))) at hbuild
            rw [hR, fmA_mk] at hbuild
            refine loop_row 25 5 [7] [] ?_
            conv => whnf
            refine ⟨trivial, ?_⟩
            conv => whnf
            refine loop_keep [2, 3, 4, 5, 7, 79] ?_
            conv => whnf
            refine loop_goQ (fun j : Nat => [(80, .v (.int .i64 j)), (7, .own 0)]) (fun _ => [[intA k, intA a, intA b, intA n, .sl 5 l.length (fmsA l)], bxV v, zero5]) (fun j => [.live 25 5 j (fmsA ((l.take j).map (proF v)))]) (fun j => j ≤ l.length) (fun j => l.length - j) 0 ?_ (Nat.zero_le _) ?_
            · unfold headQ
              repeat' constructor
              · show [Row.live _ _ _ _] = [Row.live _ _ _ _]
                rw [List.take_zero, List.map_nil, fmsA_nil]
            · rintro j hj
              conv => whnf
              by_cases hlt : j < l.length
              · have hih := ih j hlt
                have htk := take_map (proF v) l j hlt
                generalize proF v l[j] = x at *
                (refine goA ?_; try with_reducible exact trivial)
                refine call2 0 1 [] rfl ⟨rfl, rfl⟩ rfl rfl rfl rfl rfl (fun _ => hih) ?_
                rintro o p r ⟨ho, rfl⟩
                cases ho
                conv => whnf
                refine ⟨⟨by unfold maxLen; omega, by omega⟩, ?_⟩
                conv => whnf
                (refine goA ?_; try with_reducible exact trivial)
                refine ⟨j + 1, le_head ?_, hlt, by omega⟩
                repeat' constructor
                · rw [htk, fmsA_snoc]; rfl
              · obtain rfl : j = l.length := by omega
                rw [List.take_length, hP]
                rw [hml] at hbuild
                (refine goA ?_; try with_reducible exact trivial)
                (refine call0 [0] rfl (fun _ => hbuild) ?_; rintro r rfl; conv => whnf)
                rfl
theorem pro_spec (v : List Int) : ∀ f : Fm, FitP v f → PrSpec v f
  | .mk k a b n l, h => by
    obtain ⟨h1, h2⟩ := fitP_of h
    have ihk : ∀ f ∈ l, PrSpec v f := fun f hf => pro_spec v f (h2 f hf)
    exact pro_raw v k a b n l h1 fun i hi => pro1_spec v (.mk k a b n l) i hi (ihk _ (List.getElem_mem hi))
termination_by f => SizeOf.sizeOf f
decreasing_by
  have := List.sizeOf_lt_of_mem hf
  simp only [Fm.mk.sizeOf_spec]
  omega
end Go.Proofs.YtndflafkigldmaaGreatDoor.Vm
namespace Go.Proofs.YtndflafkigldmaaGreatDoor.Vm
open Go.RowKit Go.Shelf
set_option linter.unusedSimpArgs false
set_option linter.unusedVariables false
set_option maxRecDepth 100000
structure Vd where
  cls : Int
  at' : Option Int
def ordV : Option Int → A
  | none => .v (.slice none 0 0)
  | some x => .sl 1 1 [intA x]
def vdA (v : Vd) : List A := [intA 8, intA v.cls, intA 0, ordV v.at', .v (.slice none 0 0)]
def trA (t : List (List Int)) : List A := t.flatMap fun v => [.sl 1 v.length (intsA v)]
def runF : Fm → Int → List (List Int) → Fm × Int
  | f, i, [] => (f, i)
  | f, i, v :: t => if isC f = true then (f, i) else runF (proF v f) (i + 1) t
def verF (r : Fm × Int) : Vd := if isC r.1 = true then ⟨if r.1.k = 3 then 0 else 13, some r.2⟩ else ⟨14, none⟩
def chkF (f : Fm) (t : List (List Int)) : Vd := verF (runF (simF f) (-1) t)
def zero5v : List A := [intA 0, intA 0, intA 0, .v (.slice none 0 0), .v (.slice none 0 0)]
def FitR : Fm → List (List Int) → Prop
  | f, [] => True
  | f, v :: t => isC f = true ∨ (FitP v f ∧ FitR (proF v f) t)
theorem rowOf_tr (t : List (List Int)) (i : Nat) (h : i < t.length) : rowOf 1 i (trA t) = [A.sl 1 t[i].length (intsA t[i])] := rowOf_flat (k := 1) (fun v : List Int => [A.sl 1 v.length (intsA v)]) (fun _ => rfl) t i h
theorem verF_mk (g : Fm) (i : Int) : verF (g, i) = if isC g = true then ⟨if g.k = 3 then 0 else 13, some i⟩ else ⟨14, none⟩ := rfl
set_option maxHeartbeats 1000000 in
theorem check_spec (f : Fm) (t : List (List Int)) (hs : FitS f) (hr : FitR (simF f) t) (ht : t.length ≤ 1000000000) : Spec Tryz.prog 19 [] [.agg (fmA f), .sl 1 t.length (trA t)] fun _ r => r = .agg (vdA (chkF f t)) := by
  have hsp := simplify_spec f hs
  unfold chkF
  obtain ⟨R, hR⟩ : ∃ R, runF (simF f) (-1) t = R := ⟨_, rfl⟩
  rw [hR]
  generalize simF f = f0 at *
  refine spec_of (cx_ok ord0 xs0 0) (fun _ _ h => h) Tryz.func19 rfl (by kernel_rfl) rfl (by kernel_rfl) ?_
  intro hok
  conv => whnf
  (refine call0 [] rfl (fun _ => hsp) ?_; rintro r rfl; conv => whnf)
  refine loop_keep [1, 2, 4, 5, 12, 13] ?_
  conv => whnf
  refine loop_goQ (fun x : Nat × Fm => [(14, .v (.int .i64 x.1)), (6, .v (.int .i64 ((x.1 : Int) - 1)))]) (fun x => [fmA x.2, zero5v, vdA ⟨14, none⟩]) (fun _ => []) (fun x => x.1 ≤ t.length ∧ runF x.2 ((x.1 : Int) - 1) (t.drop x.1) = R ∧ FitR x.2 (t.drop x.1)) (fun x => t.length - x.1) (0, f0) ?_ ⟨Nat.zero_le _, hR, hr⟩ ?_
  · unfold headQ
    repeat' constructor
  · rintro ⟨j, g⟩ ⟨hj, hinv, hfit⟩
    simp only at hj hinv hfit
    conv => whnf
    have hisc := isC_spec g
    by_cases hlt : j < t.length
    · have hrow := rowOf_tr t j hlt
      rw [List.drop_eq_getElem_cons hlt] at hinv hfit
      generalize t[j] = v at *
      (refine goA ?_; try with_reducible exact trivial)
      (generalize hrq : rowOf _ _ (trA t) = rq; obtain rfl : rq = [.sl 1 v.length (intsA v)] := hrq.symm.trans (hrow); clear hrq; conv => whnf)
      (refine call0 [] rfl (fun _ => hisc) ?_; rintro r rfl; conv => whnf)
      rw [runF] at hinv
      rw [FitR] at hfit
      cases hc : isC g with
      | true =>
        rw [if_pos hc] at hinv
        conv => whnf
        subst hinv
        rw [verF_mk]
        (refine call0 [] rfl (fun _ => hisc) ?_; rintro r rfl; conv => whnf)
        cases hc2 : isC g with
        | true =>
          rw [if_pos rfl]
          conv => whnf
          by_cases h3 : g.k = 3
          · rw [decide_eq_true h3, if_pos h3]
            conv => whnf
            rfl
          · rw [decide_eq_false h3, if_neg h3]
            conv => whnf
            rfl
        | false =>
          rw [if_neg (by simp)]
          conv => whnf
          rfl
      | false =>
        rw [if_neg (by rw [hc]; simp)] at hinv
        obtain ⟨hf1, hf2⟩ := hfit.resolve_left (by rw [hc]; simp)
        have hpro := pro_spec v g hf1
        unfold PrSpec at hpro
        generalize proF v g = g' at *
        conv => whnf
        (refine call0 [] rfl (fun _ => hpro) ?_; rintro r rfl; conv => whnf)
        refine ⟨i64r (by omega), ?_⟩
        conv => whnf
        refine ⟨i64r (by omega), ?_⟩
        conv => whnf
        refine ⟨(j + 1, g'), le_head ?_, ⟨hlt, by rw [show (((j + 1 : Nat) : Int) - 1) = (j : Int) - 1 + 1 by omega]; exact hinv, hf2⟩, by simp only; omega⟩
        repeat' constructor
        show A.v (.int .i64 ((j : Int) - 1 + 1)) = A.v (.int .i64 (((j + 1 : Nat) : Int) - 1))
        rw [show (j : Int) - 1 + 1 = ((j + 1 : Nat) : Int) - 1 by omega]
    · rw [List.drop_of_length_le (by omega), runF] at hinv
      (refine goA ?_; try with_reducible exact trivial)
      subst hinv
      rw [verF_mk]
      (refine call0 [] rfl (fun _ => hisc) ?_; rintro r rfl; conv => whnf)
      cases hc2 : isC g with
      | true =>
        rw [if_pos rfl]
        conv => whnf
        by_cases h3 : g.k = 3
        · rw [decide_eq_true h3, if_pos h3]
          conv => whnf
          rfl
        · rw [decide_eq_false h3, if_neg h3]
          conv => whnf
          rfl
      | false =>
        rw [if_neg (by simp)]
        conv => whnf
        rfl
theorem cvalue_spec (f : Fm) (t : List (List Int)) (hs : FitS f) (hr : FitR (simF f) t) (ht : t.length ≤ 1000000000) : Spec Tryz.prog 21 [] [.agg (fmA f), .sl 1 t.length (trA t)] fun _ r => r = intA (chkF f t).cls := by
  have hc := check_spec f t hs hr ht
  generalize chkF f t = V at *
  refine spec_of (cx_ok ord0 xs0 0) (fun _ _ h => h) Tryz.func21 rfl (by kernel_rfl) rfl (by kernel_rfl) ?_
  intro hok
  conv => whnf
  (refine call0 [] rfl (fun _ => hc) ?_; rintro r rfl; conv => whnf)
  rfl
end Go.Proofs.YtndflafkigldmaaGreatDoor.Vm
namespace Go.Proofs.YtndflafkigldmaaGreatDoor.Vm
open Go.RowKit Go.Shelf
set_option linter.unusedSimpArgs false
set_option linter.unusedVariables false
set_option maxRecDepth 100000
theorem rTrue_spec : Spec Tryz.prog 23 [] [] fun _ r => r = .agg (raw0 (constF true)) := by
  refine spec_of (cx_ok ord0 xs0 0) (fun _ _ h => h) Tryz.func23 rfl (by kernel_rfl) rfl (by kernel_rfl) ?_
  intro _
  conv => whnf
  rfl
theorem rFalse_spec : Spec Tryz.prog 24 [] [] fun _ r => r = .agg (raw0 (constF false)) := by
  refine spec_of (cx_ok ord0 xs0 0) (fun _ _ h => h) Tryz.func24 rfl (by kernel_rfl) rfl (by kernel_rfl) ?_
  intro _
  conv => whnf
  rfl
theorem toFm {P : Program} {f : Nat} {args : List A} {g : Fm} (hg : g.kids = []) (h : Spec P f [] args fun _ r => r = .agg (raw0 g)) : Spec P f [] args fun _ r => r = .agg (fmA g) :=
  h.weaken fun o r k => ⟨o, _, rfl, .refl o, by rw [k]; exact .agg (raw0_wk hg)⟩
theorem rTrue : Spec Tryz.prog 23 [] [] fun _ r => r = .agg (fmA (constF true)) := toFm rfl rTrue_spec
theorem rFalse : Spec Tryz.prog 24 [] [] fun _ r => r = .agg (fmA (constF false)) := toFm rfl rFalse_spec
theorem rBoth (k : Int) (f g : Fm) : Spec Tryz.prog 25 [] [intA k, .agg (fmA f), .agg (fmA g)] fun _ r => r = .agg (fmA (.mk k 0 0 0 [f, g])) := by
  refine spec_of (cx_ok ord0 xs0 0) (fun _ _ h => h) Tryz.func25 rfl (by kernel_rfl) rfl (by kernel_rfl) ?_
  intro _
  rw [fmA_mk, fmsA_two]
  conv => whnf
  rfl
def oppF (k : Int) : Int := if k = 3 then 4 else 3
theorem rConst (f : Fm) : Spec Tryz.prog 62 [] [.agg (fmA f)] fun _ r => r = boolA (isC f) := by
  obtain ⟨k, a, b, n, l⟩ := f
  simp only [isC, Fm.k, Fm.kids]
  refine spec_of (cx_ok ord0 xs0 0) (fun _ _ h => h) Tryz.func62 rfl (by kernel_rfl) rfl (by kernel_rfl) ?_
  intro hok
  simp only [fmA, Fm.k, Fm.a, Fm.b, Fm.n, Fm.kids]
  conv => whnf
  have e0 : ∀ m : Nat, decide ((m : Int) = 0) = decide (m = 0) := fun m => by rw [decide_eq_decide]; omega
  by_cases h3 : k = 3
  · rw [decide_eq_true h3]
    conv => whnf
    rw [e0]
    simp [boolA, h3]
  · rw [decide_eq_false h3]
    conv => whnf
    by_cases h4 : k = 4
    · rw [decide_eq_true h4]
      conv => whnf
      rw [e0]
      simp [boolA, h4]
    · rw [decide_eq_false h4]
      conv => whnf
      simp [boolA, h3, h4]
def fewF (k : Int) (n : Nat) : Bool := if k = 6 then decide (n < 2) else if k = 2 ∨ k = 5 ∨ k = 7 ∨ k = 8 then decide (n < 1) else false
end Go.Proofs.YtndflafkigldmaaGreatDoor.Vm
namespace Go.Proofs.YtndflafkigldmaaGreatDoor.Vm
open Go.RowKit Go.Shelf
set_option linter.unusedSimpArgs false
set_option linter.unusedVariables false
set_option maxRecDepth 100000
def notF (f : Fm) : Fm := if isC f = true then .mk (oppF f.k) 0 0 0 [] else if f.k = 2 ∧ 0 < f.kids.length then g0 f.kids else .mk 2 0 0 0 [f]
theorem rSameInts (l m : List Int) (hl : l.length ≤ 1000000000) : Spec Tryz.prog 20 [] [.sl 1 l.length (intsA l), .sl 1 m.length (intsA m)] fun _ r => r = boolA (decide (l = m)) := by
  refine spec_of (cx_ok ord20 xs0 0) (fun _ _ h => h) Tryz.func20 rfl (by kernel_rfl) rfl (by kernel_rfl) ?_
  intro hok
  conv => whnf
  by_cases hlen : (l.length : Int) = m.length
  · rw [decide_eq_true hlen]
    conv => whnf
    refine loop_keep [0, 1] ?_
    conv => whnf
    refine loop_go (fun k : Nat => [(5, .v (.int .i64 k))]) (fun _ => []) (fun _ => []) (fun k => k ≤ l.length ∧ l.take k = m.take k) (fun k => l.length - k) 0 ?_ ⟨Nat.zero_le _, rfl⟩ ?_
    · repeat' constructor
    · rintro k ⟨hk, hinv⟩
      conv => whnf
      by_cases hlt : k < l.length
      · have hm : k < m.length := by omega
        have hr1 := rowOf_ints l k hlt
        have hr2 := rowOf_ints m k hm
        have e1 : l.take (k + 1) = l.take k ++ [l[k]] := by rw [List.take_add_one, List.getElem?_eq_getElem hlt]; rfl
        have e2 : m.take (k + 1) = m.take k ++ [m[k]] := by rw [List.take_add_one, List.getElem?_eq_getElem hm]; rfl
        have hne : l[k] ≠ m[k] → l ≠ m := fun h e => h (by subst e; rfl)
        generalize l[k] = x at *
        generalize m[k] = y at *
        (refine goA ?_; try with_reducible exact trivial)
        (generalize hrq : rowOf _ _ (intsA l) = rq; obtain rfl : rq = [intA x] := hrq.symm.trans (hr1); clear hrq; conv => whnf)
        (refine goA ?_; try with_reducible exact trivial)
        (generalize hrq : rowOf _ _ (intsA m) = rq; obtain rfl : rq = [intA y] := hrq.symm.trans (hr2); clear hrq; conv => whnf)
        by_cases hxy : x = y
        · rw [decide_eq_true hxy]
          conv => whnf
          (refine goA ?_; try with_reducible exact trivial)
          refine ⟨k + 1, le_head ?_, ⟨hlt, by rw [e1, e2, hinv, hxy]⟩, by omega⟩
          repeat' constructor
        · rw [decide_eq_false hxy]
          conv => whnf
          rw [decide_eq_false (hne hxy)]
          rfl
      · obtain rfl : k = l.length := by omega
        have : l = m := by
          rw [List.take_length, List.take_of_length_le (by omega)] at hinv
          exact hinv
        (refine goA ?_; try with_reducible exact trivial)
        rw [decide_eq_true this]
        rfl
  · rw [decide_eq_false hlen]
    conv => whnf
    rw [decide_eq_false (fun e => hlen (by rw [e]))]
    rfl
end Go.Proofs.YtndflafkigldmaaGreatDoor.Vm
namespace Go.Proofs.YtndflafkigldmaaGreatDoor.Vm
open Go.RowKit Go.Shelf
set_option linter.unusedSimpArgs false
set_option linter.unusedVariables false
set_option maxRecDepth 100000
def REq (f g : Fm) : Prop := Spec Tryz.prog 9 [] [.agg (fmA f), .agg (fmA g)] fun _ r => r = boolA (eqM f g)
theorem rEq_raw (k a b n k' a' b' n' : Int) (l l' : List Fm) (ih : ∀ f ∈ l, ∀ g ∈ l', REq f g) : REq (.mk k a b n l) (.mk k' a' b' n' l') := by
  unfold REq eqM
  refine spec_of (cx_ok ord9 xs0 0) (fun _ _ h => h) Tryz.func9 rfl (by kernel_rfl) rfl (by kernel_rfl) ?_
  intro hok
  have hl := ok_fm (okL_mem hok (List.mem_cons_self ..))
  simp only [Fm.kids] at hl
  unfold maxLen at hl
  rw [fmA_mk, fmA_mk]
  conv => whnf
  by_cases h1 : k = k'
  · rw [decide_eq_true h1]
    conv => whnf
    by_cases h2 : a = a'
    · rw [decide_eq_true h2]
      conv => whnf
      by_cases h3 : b = b'
      · rw [decide_eq_true h3]
        conv => whnf
        by_cases h4 : n = n'
        · rw [decide_eq_true h4]
          conv => whnf
          by_cases hlen : (l.length : Int) = l'.length
          · rw [decide_eq_true hlen]
            conv => whnf
            refine loop_keep [2, 3] ?_
            conv => whnf
            refine loop_go (fun j : Nat => [(5, .v (.int .i64 j))]) (fun _ => [[intA k, intA a, intA b, intA n, .sl 5 l.length (fmsA l)], [intA k', intA a', intA b', intA n', .sl 5 l'.length (fmsA l')]]) (fun _ => []) (fun j => j ≤ l.length ∧ eqMs (l.drop j) (l'.drop j) = eqMs l l') (fun j => l.length - j) 0 ?_ ⟨Nat.zero_le _, rfl⟩ ?_
            · repeat' constructor
            · rintro j ⟨hj, hinv⟩
              conv => whnf
              by_cases hlt : j < l.length
              · have hm : j < l'.length := by omega
                have hr1 := rowOf_fms l j hlt
                have hr2 := rowOf_fms l' j hm
                have hsp := ih l[j] (List.getElem_mem hlt) l'[j] (List.getElem_mem hm)
                unfold REq at hsp
                rw [eqMs_drop l l' j hlt hm] at hinv
                generalize l[j] = f at *
                generalize l'[j] = g at *
                (refine goA ?_; try with_reducible exact trivial)
                (generalize hrq : rowOf _ _ (fmsA l) = rq; obtain rfl : rq = fmA f := hrq.symm.trans (hr1); clear hrq; conv => whnf)
                (refine goA ?_; try with_reducible exact trivial)
                (generalize hrq : rowOf _ _ (fmsA l') = rq; obtain rfl : rq = fmA g := hrq.symm.trans (hr2); clear hrq; conv => whnf)
                (refine call0 [] rfl (fun _ => hsp) ?_; rintro r rfl; conv => whnf)
                cases hq : eqM f g with
                | true =>
                  rw [hq, Bool.true_and] at hinv
                  (refine goA ?_; try with_reducible exact trivial)
                  refine ⟨i64w (by omega), ?_⟩
                  conv => whnf
                  refine ⟨j + 1, le_head ?_, ⟨hlt, hinv⟩, by omega⟩
                  repeat' constructor
                | false =>
                  rw [hq, Bool.false_and] at hinv
                  (refine goA ?_; try with_reducible exact trivial)
                  rw [← hinv]
                  rfl
              · (refine goA ?_; try with_reducible exact trivial)
                have e1 : l.drop j = [] := List.drop_of_length_le (by omega)
                have e2 : l'.drop j = [] := List.drop_of_length_le (by omega)
                rw [e1, e2] at hinv
                rw [← hinv]
                rfl
          · rw [decide_eq_false hlen]
            conv => whnf
            rw [eqMs_len (by omega)]
            rfl
        · rw [decide_eq_false h4]
          conv => whnf
          rfl
      · rw [decide_eq_false h3]
        conv => whnf
        rfl
    · rw [decide_eq_false h2]
      conv => whnf
      rfl
  · rw [decide_eq_false h1]
    conv => whnf
    rfl
theorem rEq : ∀ f g : Fm, REq f g
  | .mk k a b n l, .mk k' a' b' n' l' => by
    have hkids : ∀ f ∈ l, ∀ g ∈ l', REq f g := fun f hf g hg => rEq f g
    exact rEq_raw k a b n k' a' b' n' l l' hkids
termination_by f => SizeOf.sizeOf f
decreasing_by
  have := List.sizeOf_lt_of_mem hf
  simp only [Fm.mk.sizeOf_spec]
  omega
def ordL : Option Int → List Int
  | none => []
  | some x => [x]
theorem ordV_wk : ∀ o : Option Int, Wk (ordV o) (.sl 1 (ordL o).length (intsA (ordL o)))
  | none => .nil 1
  | some x => .refl _
theorem rSameO (o p : Option Int) : Spec Tryz.prog 20 [] [ordV o, ordV p] fun _ r => r = boolA (decide (o = p)) := by
  have h := rSameInts (ordL o) (ordL p) (by cases o <;> simp [ordL])
  have e : decide (ordL o = ordL p) = decide (o = p) := by
    rw [decide_eq_decide]
    cases o <;> cases p <;> simp [ordL]
  rw [e] at h
  exact h.wargs (.cons (ordV_wk o) (.cons (ordV_wk p) .nil)) .nil
def vdAm (c : Int) (o : A) : List A := [intA 8, intA c, intA 0, o, .v (.slice none 0 0)]
end Go.Proofs.YtndflafkigldmaaGreatDoor.Vm
namespace Go.Proofs.YtndflafkigldmaaGreatDoor.Vm
open Go.RowKit Go.Shelf
set_option linter.unusedSimpArgs false
set_option linter.unusedVariables false
set_option maxRecDepth 100000
def oppC (kind : Int) (f : Fm) : Bool := decide (f.k = oppF kind) && decide (f.kids.length = 0)
def addR (out : List Fm) (f : Fm) : List Fm := if out.any (fun g => eqM g f) = true then out else out ++ [f]
def finR (kind : Int) (l : List Fm) : Fm := match l with
  | [f] => f
  | l => .mk kind 0 0 0 l
def rGo (kind : Int) : List Fm → List Fm → Fm
  | [], out => finR kind out
  | f :: r, out => if oppC kind f = true then f else rGo kind r (addR out f)
def rjoinF (kind : Int) (l : List Fm) : Fm := rGo kind (flatJ kind l) []
theorem flat_take (kind : Int) (l : List Fm) (k : Nat) (h : k < l.length) : flatJ kind (l.take (k + 1)) = flatJ kind (l.take k) ++ partsF kind l[k] := by
  rw [List.take_add_one, List.getElem?_eq_getElem h]
  unfold flatJ
  rw [List.flatMap_append]
  simp
theorem flat_le (kind : Int) (l : List Fm) (k : Nat) : (flatJ kind (l.take k)).length ≤ (flatJ kind l).length := by
  have : flatJ kind l = flatJ kind (l.take k) ++ flatJ kind (l.drop k) := by
    unfold flatJ
    rw [← List.flatMap_append, List.take_append_drop]
  rw [this, List.length_append]
  omega
theorem any_take (out : List Fm) (p : Fm → Bool) (m : Nat) (h : m < out.length) : (out.take (m + 1)).any p = ((out.take m).any p || p out[m]) := by
  rw [List.take_add_one, List.getElem?_eq_getElem h, List.any_append]
  simp
theorem fms_drop (l : List Fm) (m : Nat) (h : m < l.length) : List.drop (Int.toNat (m : Int) * 5) (fmsA l) = fmA l[m] ++ fmsA (l.drop (m + 1)) := by
  have e : l = l.take m ++ (l[m] :: l.drop (m + 1)) := by rw [← List.drop_eq_getElem_cons h, List.take_append_drop]
  conv => lhs; rw [e]
  rw [fmsA_app, List.drop_append, fmsA_cons]
  have hl : (fmsA (l.take m)).length = m * 5 := by rw [fmsA_len, List.length_take]; omega
  rw [hl, Int.toNat_natCast, Nat.sub_self, List.drop_zero, List.drop_of_length_le (by omega), List.nil_append]
def ordJn (id : Nat) : Tr := match Nat.beq id 12 with
  | true => .q 0 7 .nil
  | false => match Nat.beq id 18 with
    | true => .q 0 3 (.q 1 3 (.q 2 3 (.q 3 3 (.q 4 3 (.q 6 3 (.q 7 3 (.q 8 3 (.alt 5 2 (.alt 9 2 (.alt 10 2 (.q 11 3 (.q 12 3 .nil)) .nil) .nil) (.alt 9 2 (.alt 5 2 (.alt 10 2 (.q 11 3 (.q 12 3 .nil)) .nil) .nil) .nil)))))))))
    | false => .nil
end Go.Proofs.YtndflafkigldmaaGreatDoor.Vm
namespace Go.Proofs.YtndflafkigldmaaGreatDoor.Vm
open Go.RowKit Go.Shelf
set_option linter.unusedSimpArgs false
set_option linter.unusedVariables false
set_option maxRecDepth 100000
def sK (k a b n : Int) (ks : List Fm) : Fm :=
  if k = 2 then notF (g0 ks)
  else if k = 3 ∨ k = 4 then rjoinF k ks
  else if k = 5 ∨ k = 7 ∨ k = 8 then (if isC (g0 ks) = true then g0 ks else .mk k a b n ks)
  else if k = 6 then (if (isC (g1 ks) || eqM (g0 ks) (constF false)) = true then g1 ks else .mk k a b n ks)
  else .mk k a b n ks
mutual
def sF : Fm → Fm
  | .mk k a b n l => if fewF k l.length = true then .mk k a b n l else sK k a b n (sFs l)
def sFs : List Fm → List Fm
  | [] => []
  | f :: l => sF f :: sFs l
end
theorem sFs_map : ∀ l : List Fm, sFs l = l.map sF
  | [] => by unfold sFs; rfl
  | f :: l => by unfold sFs; rw [sFs_map l]; rfl
theorem sF_mk (k a b n : Int) (l : List Fm) : sF (.mk k a b n l) = if fewF k l.length = true then .mk k a b n l else sK k a b n (l.map sF) := by
  rw [← sFs_map]
  conv => lhs; unfold sF
mutual
def FitT : Fm → Prop
  | .mk k _ _ _ l => l.length ≤ 1000000000000 ∧ (k = 3 ∨ k = 4 → JB k (sFs l)) ∧ FitTs l
def FitTs : List Fm → Prop
  | [] => True
  | f :: l => FitT f ∧ FitTs l
end
theorem fitTs_mem : ∀ {l : List Fm} {f : Fm}, FitTs l → f ∈ l → FitT f
  | g :: l, f, h, hf => by
    unfold FitTs at h
    rcases List.mem_cons.1 hf with rfl | hf
    · exact h.1
    · exact fitTs_mem h.2 hf
theorem fitTs_mk : ∀ {l : List Fm}, (∀ f ∈ l, FitT f) → FitTs l
  | [], _ => by unfold FitTs; trivial
  | g :: l, h => by unfold FitTs; exact ⟨h g (by simp), fitTs_mk fun f hf => h f (by simp [hf])⟩
theorem fitT_mk {k a b n : Int} {l : List Fm} (h0 : l.length ≤ 1000000000000) (h1 : k = 3 ∨ k = 4 → JB k (l.map sF)) (h2 : ∀ f ∈ l, FitT f) : FitT (.mk k a b n l) := by
  unfold FitT
  rw [sFs_map]
  exact ⟨h0, h1, fitTs_mk h2⟩
theorem fitT_of {k a b n : Int} {l : List Fm} (h : FitT (.mk k a b n l)) : l.length ≤ 1000000000000 ∧ (k = 3 ∨ k = 4 → JB k (l.map sF)) ∧ ∀ f ∈ l, FitT f := by
  unfold FitT at h
  rw [sFs_map] at h
  exact ⟨h.1, h.2.1, fun f hf => fitTs_mem h.2.2 hf⟩
theorem le_pubK {np : Nat} {t : List A} {bx : List (List A)} {rw : List Row} {s2 : S} (ids : List Nat)
    (h : forceR (pubRows rw ids) fun rw' => mapK (subA rw') t fun t' => subBK rw' bx fun bx' => Le np ⟨t', bx', rw'⟩ s2) : Le np ⟨t, bx, rw⟩ s2 := by
  rw [forceR_iff, mapK_iff, subBK_iff] at h
  exact ((le_pub (s := ⟨t, bx, rw⟩) ids).trans le_sub).trans h
end Go.Proofs.YtndflafkigldmaaGreatDoor.Vm
namespace Go.Proofs.YtndflafkigldmaaGreatDoor.Vm
open Go.RowKit Go.Shelf
set_option linter.unusedSimpArgs false
set_option linter.unusedVariables false
set_option maxRecDepth 100000
def stK (v : List Int) (k a b n : Int) (l P : List Fm) : Fm :=
  if k = 1 then constF (cmpV b (atV v a) n)
  else if k = 5 then g0 l
  else if k = 7 then .mk 3 0 0 0 [g0 P, .mk k a b n l]
  else if k = 8 then .mk 4 0 0 0 [g0 P, .mk k a b n l]
  else if k = 6 then .mk 4 0 0 0 [g1 P, .mk 3 0 0 0 [g0 P, .mk k a b n l]]
  else .mk k 0 0 0 P
mutual
def stF (v : List Int) : Fm → Fm
  | .mk k a b n l => if fewF k l.length = true then .mk k a b n l else stK v k a b n l (stFs v l)
def stFs (v : List Int) : List Fm → List Fm
  | [] => []
  | f :: l => stF v f :: stFs v l
end
theorem stFs_map (v : List Int) : ∀ l : List Fm, stFs v l = l.map (stF v)
  | [] => by unfold stFs; rfl
  | f :: l => by unfold stFs; rw [stFs_map v l]; rfl
theorem stF_mk (v : List Int) (k a b n : Int) (l : List Fm) : stF v (.mk k a b n l) = if fewF k l.length = true then .mk k a b n l else stK v k a b n l (l.map (stF v)) := by
  rw [← stFs_map]
  conv => lhs; unfold stF
theorem g0_mapS {v : List Int} {l P : List Fm} (hP : l.map (stF v) = P) (h : 0 < l.length) : stF v (g0 l) = g0 P := by
  subst hP
  unfold g0
  rw [List.getD_eq_getElem?_getD, List.getD_eq_getElem?_getD, List.getElem?_map, List.getElem?_eq_getElem h]; rfl
theorem g1_mapS {v : List Int} {l P : List Fm} (hP : l.map (stF v) = P) (h : 1 < l.length) : stF v (g1 l) = g1 P := by
  subst hP
  unfold g1
  rw [List.getD_eq_getElem?_getD, List.getD_eq_getElem?_getD, List.getElem?_map, List.getElem?_eq_getElem h]; rfl
theorem g0_mem {l : List Fm} (h : 0 < l.length) : g0 l ∈ l := by
  unfold g0
  rw [List.getD_eq_getElem?_getD, List.getElem?_eq_getElem h]
  exact List.getElem_mem h
theorem g1_mem {l : List Fm} (h : 1 < l.length) : g1 l ∈ l := by
  unfold g1
  rw [List.getD_eq_getElem?_getD, List.getElem?_eq_getElem h]
  exact List.getElem_mem h
mutual
def FitU : Fm → Prop
  | .mk k a _ _ l => l.length ≤ 1000000000000 ∧ (k = 1 → 0 ≤ a) ∧ FitUs l
def FitUs : List Fm → Prop
  | [] => True
  | f :: l => FitU f ∧ FitUs l
end
theorem fitUs_mem : ∀ {l : List Fm} {f : Fm}, FitUs l → f ∈ l → FitU f
  | g :: l, f, h, hf => by
    unfold FitUs at h
    rcases List.mem_cons.1 hf with rfl | hf
    · exact h.1
    · exact fitUs_mem h.2 hf
theorem fitUs_mk : ∀ {l : List Fm}, (∀ f ∈ l, FitU f) → FitUs l
  | [], _ => by unfold FitUs; trivial
  | g :: l, h => by unfold FitUs; exact ⟨h g (by simp), fitUs_mk fun f hf => h f (by simp [hf])⟩
end Go.Proofs.YtndflafkigldmaaGreatDoor.Vm
namespace Go.Proofs.YtndflafkigldmaaGreatDoor.Vm
open Go.RowKit Go.Shelf
set_option linter.unusedSimpArgs false
set_option linter.unusedVariables false
set_option maxRecDepth 100000
def rrunF : Fm → Int → List (List Int) → Fm × Int
  | f, i, [] => (f, i)
  | f, i, v :: t => if isC f = true then (f, i) else rrunF (sF (stF v f)) (i + 1) t
def verR (r : Fm × Int) : Vd := if isC r.1 = true then ⟨if r.1.k = 4 then 13 else 0, some r.2⟩ else ⟨14, none⟩
theorem verR_mk (g : Fm) (i : Int) : verR (g, i) = if isC g = true then ⟨if g.k = 4 then 13 else 0, some i⟩ else ⟨14, none⟩ := rfl
def rchkF (f : Fm) (t : List (List Int)) : Vd := verR (rrunF (sF f) (-1) t)
def FitQ : Fm → List (List Int) → Prop
  | f, [] => True
  | f, v :: t => isC f = true ∨ (FitU f ∧ FitT (stF v f) ∧ FitQ (sF (stF v f)) t)
end Go.Proofs.YtndflafkigldmaaGreatDoor.Vm
namespace Go.Proofs.YtndflafkigldmaaGreatDoor.Vm
open Go.RowKit
set_option linter.unusedSimpArgs false
set_option linter.unusedVariables false
set_option maxRecDepth 100000
def absI (n : Int) : Int := if n < 0 then -(n + 1) else n
def aroundF (n m : Int) : Int := (absI n).tmod m
theorem absI_rng {n : Int} (hn : -9223372036854775808 ≤ n ∧ n ≤ 9223372036854775807) : 0 ≤ absI n ∧ absI n ≤ 9223372036854775807 := by unfold absI; split <;> omega
theorem aroundF_rng {n m : Int} (hn : -9223372036854775808 ≤ n ∧ n ≤ 9223372036854775807) (hm : 1 ≤ m) : 0 ≤ aroundF n m ∧ aroundF n m < m := by
  have h := absI_rng hn
  unfold aroundF
  rw [Int.tmod_eq_emod_of_nonneg h.1]
  exact ⟨Int.emod_nonneg _ (by omega), Int.emod_lt_of_pos _ (by omega)⟩
theorem around_spec (n m : Int) (hm : 1 ≤ m ∧ m ≤ 9223372036854775807) : Spec Tryz.prog 35 [] [intA n, intA m] fun _ r => (-9223372036854775808 ≤ n ∧ n ≤ 9223372036854775807) ∧ r = intA (aroundF n m) := by
  refine spec_of (cx_ok ord0 xs0 0) (fun _ _ h => h) Tryz.func35 rfl (by kernel_rfl) rfl (by kernel_rfl) ?_
  intro hok
  have hn : -9223372036854775808 ≤ n ∧ n ≤ 9223372036854775807 := okA_int.1 hok.1
  have hab := absI_rng hn
  conv => whnf
  by_cases h : n < 0
  · refine br_true (b := decide (n < 0)) (decide_eq_true h) ?_
    conv => whnf
    refine ⟨i64r (by omega), ?_⟩
    conv => whnf
    refine ⟨i64r (by omega), ?_⟩
    conv => whnf
    refine ⟨by omega, ?_⟩
    conv => whnf
    refine ⟨hn, ?_⟩
    have : 0 - (n + 1) = absI n := by unfold absI; rw [if_pos h]; omega
    rw [this]; rfl
  · refine br_false (b := decide (n < 0)) (decide_eq_false h) ?_
    conv => whnf
    refine ⟨by omega, ?_⟩
    conv => whnf
    refine ⟨hn, ?_⟩
    have : n = absI n := by unfold absI; rw [if_neg h]
    show A.v (.int .i64 (n.tmod m)) = intA ((absI n).tmod m)
    rw [← this]; rfl
end Go.Proofs.YtndflafkigldmaaGreatDoor.Vm
namespace Go.Proofs.YtndflafkigldmaaGreatDoor.Vm
open Go.RowKit Go.Shelf
set_option linter.unusedSimpArgs false
set_option linter.unusedVariables false
set_option maxRecDepth 100000
def pkF (l : List Int) (i : Nat) : Int := if i < l.length then aroundF (l.getD i 0) 1000000 else 0
theorem rPick (l : List Int) (i : Nat) : Spec Tryz.prog 41 [] [.sl 1 l.length (intsA l), intA i, intA 1000000] fun _ r => (0 ≤ pkF l i ∧ pkF l i < 1000000) ∧ r = intA (pkF l i) := by
  unfold pkF
  refine spec_of (cx_ok ord0 xs0 0) (fun _ _ h => h) Tryz.func41 rfl (by kernel_rfl) rfl (by kernel_rfl) ?_
  intro hok
  conv => whnf
  rw [decide_eq_false (show ¬ (i : Int) < 0 by omega)]
  conv => whnf
  by_cases hi : i < l.length
  · have hr := rowOf_ints l i hi
    have e : l.getD i 0 = l[i] := by rw [List.getD_eq_getElem?_getD, List.getElem?_eq_getElem hi]; rfl
    rw [← e] at hr
    rw [if_pos hi, decide_eq_false (show ¬ (l.length : Int) ≤ i by omega)]
    generalize l.getD i 0 = x at *
    have ha := around_spec x 1000000 (by omega)
    conv => whnf
    (refine goA ?_; try with_reducible exact trivial)
    (generalize hrq : rowOf _ _ (intsA l) = rq; obtain rfl : rq = [intA x] := hrq.symm.trans (hr); clear hrq; conv => whnf)
    refine call0 [] rfl (fun _ => ha) ?_
    rintro r ⟨hx, rfl⟩
    conv => whnf
    exact ⟨aroundF_rng hx (by omega), rfl⟩
  · rw [if_neg hi, decide_eq_true (show (l.length : Int) ≤ i by omega)]
    conv => whnf
    exact ⟨by omega, rfl⟩
end Go.Proofs.YtndflafkigldmaaGreatDoor.Vm
namespace Go.Proofs.YtndflafkigldmaaGreatDoor.Vm
open Go.RowKit Go.Shelf
set_option linter.unusedSimpArgs false
set_option linter.unusedVariables false
set_option maxRecDepth 100000
theorem Fm.ind {P : Fm → Prop} (h : ∀ k a b n l, (∀ f ∈ l, P f) → P (.mk k a b n l)) : ∀ f, P f
  | .mk k a b n l => h k a b n l fun f hf => Fm.ind h f
termination_by f => SizeOf.sizeOf f
decreasing_by
  have := List.sizeOf_lt_of_mem hf
  simp only [Fm.mk.sizeOf_spec]
  omega
inductive Wf : Fm → Prop
  | var {a b n : Int} : 0 ≤ a → 0 ≤ b → b ≤ 2 → Wf (.mk 1 a b n [])
  | un {k : Int} {f : Fm} : k = 2 ∨ k = 5 ∨ k = 7 ∨ k = 8 → Wf f → Wf (.mk k 0 0 0 [f])
  | til {f g : Fm} : Wf f → Wf g → Wf (.mk 6 0 0 0 [f, g])
  | jn {k : Int} {l : List Fm} : k = 3 ∨ k = 4 → (∀ f, f ∈ l → Wf f) → Wf (.mk k 0 0 0 l)
theorem wf_const (b : Bool) : Wf (constF b) := by
  unfold constF
  cases b
  · exact .jn (.inr rfl) (by simp)
  · exact .jn (.inl rfl) (by simp)
theorem wf_isC {f : Fm} (h : Wf f) (hc : isC f = true) : f = constF (decide (f.k = 3)) := by
  unfold isC at hc
  cases h with
  | var => simp [Fm.k] at hc
  | un h => simp [Fm.k, Fm.kids] at hc
  | til => simp [Fm.k] at hc
  | jn hk =>
    simp only [Fm.k, Fm.kids, Bool.and_eq_true, decide_eq_true_eq, List.length_eq_zero_iff] at hc
    obtain ⟨_, rfl⟩ := hc
    rcases hk with rfl | rfl <;> rfl
theorem isC_const (b : Bool) : isC (constF b) = true := by cases b <;> rfl
theorem isC_iff {f : Fm} (h : Wf f) : isC f = true ↔ f = constF true ∨ f = constF false := by
  constructor
  · intro hc
    have := wf_isC h hc
    cases hd : decide (f.k = 3) with
    | true => rw [hd] at this; exact .inl this
    | false => rw [hd] at this; exact .inr this
  · rintro (rfl | rfl) <;> rfl
theorem wf_opp {kind : Int} {f : Fm} (hk : kind = 3 ∨ kind = 4) (h : Wf f) (ho : oppC kind f = true) : f = absF kind := by
  unfold oppC oppF at ho
  unfold absF constF
  simp only [Bool.and_eq_true, decide_eq_true_eq, List.length_eq_zero_iff] at ho
  cases h with
  | var => rcases hk with rfl | rfl <;> simp [Fm.k] at ho
  | un h => simp [Fm.kids] at ho
  | til => simp [Fm.kids] at ho
  | jn hk2 =>
    obtain ⟨h1, h2⟩ := ho
    simp only [Fm.k, Fm.kids] at h1 h2
    subst h2
    rcases hk with rfl | rfl
    · simp at h1; subst h1; rfl
    · simp at h1; subst h1; rfl
theorem opp_abs {kind : Int} (hk : kind = 3 ∨ kind = 4) : oppC kind (absF kind) = true := by rcases hk with rfl | rfl <;> rfl
theorem wf_kids {f : Fm} (h : Wf f) : ∀ g ∈ f.kids, Wf g := by
  cases h with
  | var => simp [Fm.kids]
  | un _ h => simp [Fm.kids]; exact h
  | til h1 h2 => simp [Fm.kids]; exact ⟨h1, h2⟩
  | jn _ h => exact h
theorem wf_parts {kind : Int} {f : Fm} (h : Wf f) : ∀ g ∈ partsF kind f, Wf g := by
  unfold partsF
  split
  · exact wf_kids h
  · simpa using h
theorem wf_flat {kind : Int} {l : List Fm} (h : ∀ f ∈ l, Wf f) : ∀ g ∈ flatJ kind l, Wf g := by
  unfold flatJ
  intro g hg
  obtain ⟨f, hf, hg⟩ := List.mem_flatMap.1 hg
  exact wf_parts (h f hf) g hg
theorem eqM_comm (f g : Fm) : eqM f g = eqM g f := by
  have h : eqM f g = true ↔ eqM g f = true := by rw [eqM_iff, eqM_iff]; exact eq_comm
  cases h1 : eqM f g <;> cases h2 : eqM g f <;> simp_all
theorem any_iff {l : List Fm} {f : Fm} : (l.any fun g => eqM g f) = true ↔ f ∈ l := by
  rw [List.any_eq_true]
  constructor
  · rintro ⟨x, hx, he⟩; rw [eqM_iff] at he; exact he ▸ hx
  · intro h; exact ⟨f, h, (eqM_iff f f).2 rfl⟩
theorem add_same (out : List Fm) (f : Fm) : addF out f = addR out f := by
  unfold addF addR
  rw [show (fun g => eqM f g) = fun g => eqM g f from funext fun g => eqM_comm f g]
theorem addR_mem {out : List Fm} {f g : Fm} : g ∈ addR out f ↔ g ∈ out ∨ g = f := by
  unfold addR
  split
  · rename_i h
    rw [any_iff] at h
    constructor
    · exact .inl
    · rintro (h2 | rfl)
      · exact h2
      · exact h
  · simp
theorem fold_mem {l : List Fm} : ∀ {out : List Fm} {g : Fm}, g ∈ l.foldl addF out ↔ g ∈ out ∨ g ∈ l := by
  induction l with
  | nil => simp
  | cons f l ih =>
    intro out g
    rw [List.foldl_cons, ih, add_same, addR_mem, List.mem_cons]
    constructor
    · rintro ((h | h) | h)
      · exact .inl h
      · exact .inr (.inl h)
      · exact .inr (.inr h)
    · rintro (h | h | h)
      · exact .inl (.inl h)
      · exact .inl (.inr h)
      · exact .inr h
theorem rGo_eq {kind : Int} (hk : kind = 3 ∨ kind = 4) : ∀ (flat out : List Fm), (∀ f ∈ flat, Wf f) → absF kind ∉ out → rGo kind flat out = finJ kind (flat.foldl addF out)
  | [], out, _, hn => by
    unfold rGo finJ
    rw [List.foldl_nil, if_neg (by rw [any_iff]; exact hn)]
    rfl
  | f :: flat, out, hw, hn => by
    unfold rGo
    by_cases ho : oppC kind f = true
    · rw [if_pos ho]
      have hf := wf_opp hk (hw f (by simp)) ho
      unfold finJ
      rw [if_pos (by rw [any_iff, fold_mem]; right; rw [hf]; simp)]
      exact hf
    · rw [if_neg ho, rGo_eq hk flat (addR out f) (fun g hg => hw g (by simp [hg])) ?_, List.foldl_cons, add_same]
      intro h
      rcases addR_mem.1 h with h | h
      · exact hn h
      · exact ho (h ▸ opp_abs hk)
theorem join_same {kind : Int} (hk : kind = 3 ∨ kind = 4) {l : List Fm} (hw : ∀ f ∈ l, Wf f) : joinF kind l = rjoinF kind l := by
  unfold joinF rjoinF
  rw [rGo_eq hk _ _ (wf_flat hw) (by simp)]
theorem rGo_pres {Q : Fm → Prop} {kind : Int} (hm : ∀ l : List Fm, (∀ f ∈ l, Q f) → Q (.mk kind 0 0 0 l)) : ∀ (flat out : List Fm), (∀ f ∈ flat, Q f) → (∀ f ∈ out, Q f) → Q (rGo kind flat out)
  | [], out, _, ho => by
    unfold rGo finR
    split
    · exact ho _ (by simp)
    · exact hm _ ho
  | f :: flat, out, hf, ho => by
    unfold rGo
    split
    · exact hf f (by simp)
    · refine rGo_pres hm flat _ (fun g hg => hf g (by simp [hg])) fun g hg => ?_
      rcases addR_mem.1 hg with h | rfl
      · exact ho g h
      · exact hf _ (by simp)
theorem wf_rjoin {kind : Int} (hk : kind = 3 ∨ kind = 4) {l : List Fm} (hw : ∀ f ∈ l, Wf f) : Wf (rjoinF kind l) :=
  rGo_pres (fun l h => .jn hk h) _ _ (wf_flat hw) (by simp)
theorem wf_not {f : Fm} (h : Wf f) : Wf (notF f) := by
  unfold notF oppF
  split
  · split
    · exact wf_const false
    · exact wf_const true
  · split
    · rename_i h2
      cases h with
      | var => simp [Fm.kids] at h2
      | un _ hx => exact hx
      | til hx => exact hx
      | jn hk => rcases hk with rfl | rfl <;> simp [Fm.k] at h2
    · exact .un (.inl rfl) h
theorem sF_var (a b n : Int) : sF (.mk 1 a b n []) = .mk 1 a b n [] := by rw [sF_mk]; simp [fewF, sK]
theorem sF_not (f : Fm) : sF (.mk 2 0 0 0 [f]) = notF (sF f) := by rw [sF_mk]; simp [fewF, sK, g0]
theorem sF_un {k : Int} (h : k = 5 ∨ k = 7 ∨ k = 8) (f : Fm) : sF (.mk k 0 0 0 [f]) = if isC (sF f) = true then sF f else .mk k 0 0 0 [sF f] := by
  rw [sF_mk]
  rcases h with rfl | rfl | rfl <;> simp [fewF, sK, g0]
theorem sF_til (f g : Fm) : sF (.mk 6 0 0 0 [f, g]) = if (isC (sF g) || eqM (sF f) (constF false)) = true then sF g else .mk 6 0 0 0 [sF f, sF g] := by
  rw [sF_mk]
  simp [fewF, sK, g0, g1]
theorem sF_jn {k : Int} (h : k = 3 ∨ k = 4) (l : List Fm) : sF (.mk k 0 0 0 l) = rjoinF k (l.map sF) := by
  rw [sF_mk]
  rcases h with rfl | rfl <;> simp [fewF, sK]
theorem wf_s {f : Fm} (h : Wf f) : Wf (sF f) := by
  induction h with
  | var h1 h2 h3 => rw [sF_var]; exact .var h1 h2 h3
  | un hk h ih =>
    rename_i k f
    by_cases h2 : k = 2
    · subst h2; rw [sF_not]; exact wf_not ih
    · rw [sF_un (by omega)]
      split
      · exact ih
      · exact .un hk ih
  | til h1 h2 ih1 ih2 =>
    rw [sF_til]
    split
    · exact ih2
    · exact .til ih1 ih2
  | jn hk h ih =>
    rw [sF_jn hk]
    refine wf_rjoin hk fun f hf => ?_
    obtain ⟨g, hg, rfl⟩ := List.mem_map.1 hf
    exact ih g hg
theorem build_same {k a b n : Int} {ks : List Fm} (hw : Wf (.mk k a b n ks)) : buildK k a b n ks = sK k a b n ks := by
  cases hw with
  | var => simp [buildK, sK]
  | un hk h =>
    rename_i f
    rcases hk with rfl | rfl | rfl | rfl
    · simp only [buildK, sK, g0, notF, oppF]
      simp only [show ¬ ((2 : Int) = 3 ∨ (2 : Int) = 4) by omega, if_false, if_true, List.getD_cons_zero]
      by_cases hc : isC f = true
      · rw [if_pos hc, if_pos hc]
        rcases (isC_iff h).1 hc with rfl | rfl <;> rfl
      · rw [if_neg hc, if_neg hc]
        by_cases h2 : f.k = 2
        · rw [if_pos h2]
          cases h with
          | var => simp [Fm.k] at h2
          | un hk h => simp [Fm.k, Fm.kids] at h2 ⊢; simp [h2]
          | til => simp [Fm.k] at h2
          | jn hk => simp [Fm.k] at h2; omega
        · rw [if_neg h2, if_neg (by simp [h2])]
    · simp [buildK, sK]
    · simp [buildK, sK]
    · simp [buildK, sK]
  | til => simp [buildK, sK]
  | jn hk h =>
    unfold buildK sK
    rw [if_pos hk, if_neg (by omega), if_pos hk]
    exact join_same hk h
theorem wf_mapS {l : List Fm} (h : ∀ f ∈ l, Wf f) : ∀ f ∈ l.map sF, Wf f := fun f hf => by
  obtain ⟨g, hg, rfl⟩ := List.mem_map.1 hf
  exact wf_s (h g hg)
theorem few_wf {k a b n : Int} {l : List Fm} (hw : Wf (.mk k a b n l)) : fewF k l.length = false := by
  cases hw with
  | var => rfl
  | un hk => rcases hk with rfl | rfl | rfl | rfl <;> rfl
  | til => rfl
  | jn hk => rcases hk with rfl | rfl <;> rfl
theorem wf_map {k a b n : Int} {l : List Fm} {q : Fm → Fm} (hw : Wf (.mk k a b n l)) (hq : ∀ f ∈ l, Wf f → Wf (q f)) : Wf (.mk k a b n (l.map q)) := by
  cases hw with
  | var h1 h2 h3 => exact .var h1 h2 h3
  | un hk h => exact .un hk (hq _ (by simp) h)
  | til h1 h2 => exact .til (hq _ (by simp) h1) (hq _ (by simp) h2)
  | jn hk h =>
    refine .jn hk fun f hf => ?_
    obtain ⟨g, hg, rfl⟩ := List.mem_map.1 hf
    exact hq g hg (h g hg)
theorem sim_same : ∀ f : Fm, Wf f → simF f = sF f := Fm.ind fun k a b n l ih hw => by
  rw [simF_mk, sF_mk, if_neg (by rw [few_wf hw]; simp)]
  have e : l.map simF = l.map sF := List.map_congr_left fun f hf => ih f hf (wf_kids hw f hf)
  rw [e]
  exact build_same (wf_map hw fun f _ h => wf_s h)
theorem st_var (v : List Int) (a b n : Int) : stF v (.mk 1 a b n []) = constF (cmpV b (atV v a) n) := by rw [stF_mk]; simp [fewF, stK]
theorem st_not (v : List Int) (f : Fm) : stF v (.mk 2 0 0 0 [f]) = .mk 2 0 0 0 [stF v f] := by rw [stF_mk]; simp [fewF, stK]
theorem st_next (v : List Int) (f : Fm) : stF v (.mk 5 0 0 0 [f]) = f := by rw [stF_mk]; simp [fewF, stK, g0]
theorem st_alw (v : List Int) (f : Fm) : stF v (.mk 7 0 0 0 [f]) = .mk 3 0 0 0 [stF v f, .mk 7 0 0 0 [f]] := by rw [stF_mk]; simp [fewF, stK, g0]
theorem st_ev (v : List Int) (f : Fm) : stF v (.mk 8 0 0 0 [f]) = .mk 4 0 0 0 [stF v f, .mk 8 0 0 0 [f]] := by rw [stF_mk]; simp [fewF, stK, g0]
theorem st_til (v : List Int) (f g : Fm) : stF v (.mk 6 0 0 0 [f, g]) = .mk 4 0 0 0 [stF v g, .mk 3 0 0 0 [stF v f, .mk 6 0 0 0 [f, g]]] := by rw [stF_mk]; simp [fewF, stK, g0, g1]
theorem st_jn {k : Int} (h : k = 3 ∨ k = 4) (v : List Int) (l : List Fm) : stF v (.mk k 0 0 0 l) = .mk k 0 0 0 (l.map (stF v)) := by
  rw [stF_mk]
  rcases h with rfl | rfl <;> simp [fewF, stK]
theorem wf_two {k : Int} (hk : k = 3 ∨ k = 4) {f g : Fm} (h1 : Wf f) (h2 : Wf g) : Wf (.mk k 0 0 0 [f, g]) := .jn hk fun x hx => by
  simp only [List.mem_cons, List.not_mem_nil, or_false] at hx
  rcases hx with rfl | rfl
  · exact h1
  · exact h2
theorem wf_st (v : List Int) {f : Fm} (h : Wf f) : Wf (stF v f) := by
  induction h with
  | var h1 h2 h3 => rw [st_var]; exact wf_const _
  | un hk h ih =>
    rename_i k f
    rcases hk with rfl | rfl | rfl | rfl
    · rw [st_not]; exact .un (.inl rfl) ih
    · rw [st_next]; exact h
    · rw [st_alw]; exact wf_two (.inl rfl) ih (.un (by simp) h)
    · rw [st_ev]; exact wf_two (.inr rfl) ih (.un (by simp) h)
  | til h1 h2 ih1 ih2 =>
    rw [st_til]
    exact wf_two (.inr rfl) ih2 (wf_two (.inl rfl) ih1 (.til h1 h2))
  | jn hk h ih =>
    rw [st_jn hk]
    refine .jn hk fun f hf => ?_
    obtain ⟨g, hg, rfl⟩ := List.mem_map.1 hf
    exact ih g hg
theorem pro_same (v : List Int) : ∀ f : Fm, Wf f → proF v f = sF (stF v f) := Fm.ind fun k a b n l ih hw => by
  rw [proF_mk]
  have e : l.map (proF v) = l.map (fun f => sF (stF v f)) := List.map_congr_left fun f hf => ih f hf (wf_kids hw f hf)
  rw [e]
  have hsim := sim_same _ hw
  cases hw with
  | var =>
    rw [st_var]
    simp only [proK, if_true]
    generalize cmpV b (atV v a) n = c
    cases c <;> rfl
  | un hk h =>
    rename_i f
    rcases hk with rfl | rfl | rfl | rfl
    · rw [st_not, sF_mk, if_neg (by simp [fewF])]
      simp only [proK, List.map_cons, List.map_nil]
      rw [if_neg (by omega), if_neg (by omega), if_neg (by omega), if_neg (by omega), if_neg (by omega)]
      exact build_same (.un (.inl rfl) (wf_s (wf_st v h)))
    · rw [st_next]
      simp only [proK, g0, List.getD_cons_zero]
      rw [if_neg (by omega), if_pos trivial]
      exact sim_same f h
    · rw [st_alw, sF_jn (.inl rfl)]
      simp only [proK, g0, List.getD_cons_zero, List.map_cons, List.map_nil]
      rw [if_neg (by omega), if_neg (by omega), if_pos trivial, hsim]
      refine join_same (.inl rfl) (wf_kids (wf_two (.inl rfl) (wf_s (wf_st v h)) (wf_s (.un (by simp) h))))
    · rw [st_ev, sF_jn (.inr rfl)]
      simp only [proK, g0, List.getD_cons_zero, List.map_cons, List.map_nil]
      rw [if_neg (by omega), if_neg (by omega), if_neg (by omega), if_pos trivial, hsim]
      refine join_same (.inr rfl) (wf_kids (wf_two (.inr rfl) (wf_s (wf_st v h)) (wf_s (.un (by simp) h))))
  | til h1 h2 =>
    rename_i f g
    rw [st_til, sF_jn (.inr rfl)]
    simp only [proK, g0, g1, List.getD_cons_zero, List.getD_cons_succ, List.map_cons, List.map_nil]
    rw [if_neg (by omega), if_neg (by omega), if_neg (by omega), if_neg (by omega), if_pos trivial, hsim, sF_jn (.inl rfl)]
    simp only [List.map_cons, List.map_nil]
    have w1 := wf_s (.til h1 h2)
    have w2 := wf_s (wf_st v h1)
    have w3 : ∀ x ∈ [sF (stF v f), sF (.mk 6 0 0 0 [f, g])], Wf x := wf_kids (wf_two (.inl rfl) w2 w1)
    rw [join_same (.inl rfl) w3]
    have w4 : ∀ x ∈ [sF (stF v g), rjoinF 3 [sF (stF v f), sF (.mk 6 0 0 0 [f, g])]], Wf x := wf_kids (wf_two (.inr rfl) (wf_s (wf_st v h2)) (wf_rjoin (.inl rfl) w3))
    exact join_same (.inr rfl) w4
  | jn hk h =>
    rw [st_jn hk, sF_jn hk]
    unfold proK
    rw [if_neg (by omega), if_neg (by omega), if_neg (by omega), if_neg (by omega), if_neg (by omega)]
    unfold buildK
    rw [if_pos hk, List.map_map]
    refine join_same hk fun f hf => ?_
    obtain ⟨g, hg, rfl⟩ := List.mem_map.1 hf
    exact wf_s (wf_st v (h g hg))
end Go.Proofs.YtndflafkigldmaaGreatDoor.Vm
namespace Go.Proofs.YtndflafkigldmaaGreatDoor.Vm
open Go.RowKit Go.Shelf
set_option linter.unusedSimpArgs false
set_option linter.unusedVariables false
set_option maxRecDepth 100000
mutual
def nn : Fm → Nat
  | .mk _ _ _ _ l => 1 + nns l
def nns : List Fm → Nat
  | [] => 0
  | f :: l => nn f + nns l
end
mutual
def td : Fm → Nat
  | .mk k _ _ _ l => (if k = 6 ∨ k = 7 ∨ k = 8 then 1 else 0) + tds l
def tds : List Fm → Nat
  | [] => 0
  | f :: l => max (td f) (tds l)
end
theorem nn_mk (k a b n : Int) (l : List Fm) : nn (.mk k a b n l) = 1 + nns l := by
  conv => lhs; unfold nn
theorem nns_nil : nns [] = 0 := by unfold nns; rfl
theorem nns_cons (f : Fm) (l : List Fm) : nns (f :: l) = nn f + nns l := by
  conv => lhs; unfold nns
theorem td_mk (k a b n : Int) (l : List Fm) : td (.mk k a b n l) = (if k = 6 ∨ k = 7 ∨ k = 8 then 1 else 0) + tds l := by
  conv => lhs; unfold td
theorem tds_nil : tds [] = 0 := by unfold tds; rfl
theorem tds_cons (f : Fm) (l : List Fm) : tds (f :: l) = max (td f) (tds l) := by
  conv => lhs; unfold tds
theorem nn_pos (f : Fm) : 1 ≤ nn f := by cases f; rw [nn_mk]; omega
theorem nns_app (l m : List Fm) : nns (l ++ m) = nns l + nns m := by
  induction l with
  | nil => rw [nns_nil]; simp
  | cons f l ih => rw [List.cons_append, nns_cons, nns_cons, ih]; omega
theorem nns_len (l : List Fm) : l.length ≤ nns l := by
  induction l with
  | nil => simp
  | cons f l ih => rw [nns_cons, List.length_cons]; have := nn_pos f; omega
theorem nn_mem {l : List Fm} {f : Fm} (h : f ∈ l) : nn f ≤ nns l := by
  induction l with
  | nil => cases h
  | cons g l ih =>
    rw [nns_cons]
    rcases List.mem_cons.1 h with rfl | h
    · omega
    · have := ih h; omega
theorem td_mem {l : List Fm} {f : Fm} (h : f ∈ l) : td f ≤ tds l := by
  induction l with
  | nil => cases h
  | cons g l ih =>
    rw [tds_cons]
    rcases List.mem_cons.1 h with rfl | h
    · omega
    · have := ih h; omega
theorem tds_le {l : List Fm} {m : Nat} (h : ∀ f ∈ l, td f ≤ m) : tds l ≤ m := by
  induction l with
  | nil => rw [tds_nil]; omega
  | cons g l ih =>
    rw [tds_cons]
    have := h g (by simp)
    have := ih fun f hf => h f (by simp [hf])
    omega
theorem parts_nn (k : Int) (f : Fm) : nns (partsF k f) ≤ nn f := by
  unfold partsF
  split
  · cases f; rw [nn_mk]; simp only [Fm.kids]; omega
  · rw [nns_cons, nns_nil]; omega
theorem flat_nn (k : Int) (l : List Fm) : nns (flatJ k l) ≤ nns l := by
  induction l with
  | nil => unfold flatJ; simp [nns_nil]
  | cons f l ih =>
    rw [show flatJ k (f :: l) = partsF k f ++ flatJ k l from by unfold flatJ; rw [List.flatMap_cons], nns_app, nns_cons]
    have := parts_nn k f
    omega
theorem flat_lenn (k : Int) (l : List Fm) : (flatJ k l).length ≤ nns l := Nat.le_trans (nns_len _) (flat_nn k l)
theorem add_nn (out : List Fm) (f : Fm) : nns (addR out f) ≤ nns out + nn f := by
  unfold addR
  split
  · omega
  · rw [nns_app, nns_cons, nns_nil]; omega
theorem rGo_nn (k : Int) : ∀ flat out : List Fm, nn (rGo k flat out) ≤ 1 + nns flat + nns out
  | [], out => by
    unfold rGo finR
    split
    · rw [nns_cons, nns_nil]; omega
    · rw [nn_mk]; omega
  | f :: flat, out => by
    unfold rGo
    rw [nns_cons]
    split
    · omega
    · have := rGo_nn k flat (addR out f)
      have := add_nn out f
      omega
theorem rjoin_nn (k : Int) (l : List Fm) : nn (rjoinF k l) ≤ 1 + nns l := by
  unfold rjoinF
  have := rGo_nn k (flatJ k l) []
  have := flat_nn k l
  rw [nns_nil] at *
  omega
theorem parts_td (k : Int) (f g : Fm) (h : g ∈ partsF k f) : td g ≤ td f := by
  unfold partsF at h
  split at h
  · cases f; rw [td_mk]; have := td_mem h; simp only [Fm.kids] at this; omega
  · rw [List.mem_singleton.1 h]; omega
theorem rjoin_td {k : Int} (hk : k = 3 ∨ k = 4) {l : List Fm} {m : Nat} (h : ∀ f ∈ l, td f ≤ m) : td (rjoinF k l) ≤ m := by
  unfold rjoinF
  refine rGo_pres (Q := fun f => td f ≤ m) (fun l h => ?_) _ _ (fun f hf => ?_) (by simp)
  · rw [td_mk, if_neg (by omega)]
    have := tds_le h
    omega
  · unfold flatJ at hf
    obtain ⟨g, hg, hf⟩ := List.mem_flatMap.1 hf
    exact Nat.le_trans (parts_td _ _ _ hf) (h g hg)
theorem const_nn (b : Bool) : nn (constF b) = 1 := by unfold constF; rw [nn_mk, nns_nil]
theorem const_td (b : Bool) : td (constF b) = 0 := by unfold constF; rw [td_mk, tds_nil]; cases b <;> simp
theorem not_nn {f : Fm} (h : Wf f) : nn (notF f) ≤ 1 + nn f := by
  unfold notF
  split
  · rw [nn_mk, nns_nil]; omega
  · split
    · rename_i h2
      have : g0 f.kids ∈ f.kids := by
        unfold g0
        rw [List.getD_eq_getElem?_getD, List.getElem?_eq_getElem h2.2]
        exact List.getElem_mem h2.2
      have := nn_mem this
      cases f; rw [nn_mk]; simp only [Fm.kids] at *; omega
    · rw [nn_mk, nns_cons, nns_nil]; omega
theorem not_td {f : Fm} (h : Wf f) : td (notF f) ≤ td f := by
  unfold notF
  split
  · rw [td_mk, tds_nil]; unfold oppF; split <;> simp
  · split
    · rename_i h2
      have : g0 f.kids ∈ f.kids := by
        unfold g0
        rw [List.getD_eq_getElem?_getD, List.getElem?_eq_getElem h2.2]
        exact List.getElem_mem h2.2
      have := td_mem this
      cases f; rw [td_mk]; simp only [Fm.kids] at *; omega
    · rw [td_mk, tds_cons, tds_nil]; simp
theorem nns_map {l : List Fm} {q : Fm → Fm} {c : Nat} (h : ∀ f ∈ l, nn (q f) ≤ c * nn f) : nns (l.map q) ≤ c * nns l := by
  induction l with
  | nil => rw [List.map_nil, nns_nil]; omega
  | cons f l ih =>
    rw [List.map_cons, nns_cons, nns_cons, Nat.mul_add]
    have := h f (by simp)
    have := ih fun g hg => h g (by simp [hg])
    omega
theorem s_size {f : Fm} (h : Wf f) : nn (sF f) ≤ nn f ∧ td (sF f) ≤ td f := by
  induction h with
  | var h1 h2 h3 => rw [sF_var]; exact ⟨Nat.le_refl _, Nat.le_refl _⟩
  | un hk h ih =>
    rename_i k f
    by_cases h2 : k = 2
    · subst h2
      rw [sF_not]
      have := not_nn (wf_s h)
      have := not_td (wf_s h)
      rw [nn_mk, td_mk, nns_cons, nns_nil, tds_cons, tds_nil]
      simp
      omega
    · rw [sF_un (by omega)]
      split
      · rw [nn_mk, td_mk, nns_cons, nns_nil, tds_cons, tds_nil]
        omega
      · rw [nn_mk, td_mk, nns_cons, nns_nil, tds_cons, tds_nil, nn_mk, td_mk, nns_cons, nns_nil, tds_cons, tds_nil]
        omega
  | til h1 h2 ih1 ih2 =>
    rw [sF_til]
    split
    · rw [nn_mk, td_mk, nns_cons, nns_cons, nns_nil, tds_cons, tds_cons, tds_nil]
      omega
    · rw [nn_mk, td_mk, nns_cons, nns_cons, nns_nil, tds_cons, tds_cons, tds_nil, nn_mk, td_mk, nns_cons, nns_cons, nns_nil, tds_cons, tds_cons, tds_nil]
      omega
  | jn hk h ih =>
    rename_i k l
    rw [sF_jn hk]
    constructor
    · have := rjoin_nn k (l.map sF)
      have h2 := nns_map (q := sF) (c := 1) (l := l) fun f hf => by have := (ih f hf).1; omega
      rw [nn_mk]
      omega
    · rw [td_mk]
      refine Nat.le_trans (rjoin_td hk (m := tds l) fun f hf => ?_) (by omega)
      obtain ⟨g, hg, rfl⟩ := List.mem_map.1 hf
      exact Nat.le_trans (ih g hg).2 (td_mem hg)
theorem st_size (v : List Int) {f : Fm} (h : Wf f) : (td f = 0 → nn (stF v f) ≤ nn f) ∧ nn (stF v f) ≤ (2 + td f) * nn f ∧ td (stF v f) ≤ td f := by
  induction h with
  | var h1 h2 h3 => rw [st_var, const_nn, const_td, nn_mk, nns_nil, td_mk, tds_nil]; simp
  | un hk h ih =>
    rename_i k f
    obtain ⟨i1, i2, i3⟩ := ih
    have hp := nn_pos f
    rcases hk with rfl | rfl | rfl | rfl
    · rw [st_not]
      simp only [nn_mk, td_mk, nns_cons, nns_nil, tds_cons, tds_nil]
      simp
      rw [Nat.mul_add]
      omega
    · rw [st_next]
      simp only [nn_mk, td_mk, nns_cons, nns_nil, tds_cons, tds_nil]
      simp
      have := Nat.le_mul_of_pos_left (nn f) (show 0 < 2 + td f by omega)
      rw [Nat.mul_add]
      omega
    all_goals
      first | rw [st_alw] | rw [st_ev]
      simp only [nn_mk, td_mk, nns_cons, nns_nil, tds_cons, tds_nil]
      simp
      rw [show (2 + (1 + td f)) * (1 + nn f) = (2 + td f) * nn f + (2 + td f) + 1 + nn f by rw [show 2 + (1 + td f) = (2 + td f) + 1 by omega, Nat.add_mul, Nat.mul_add]; omega]
      omega
  | til h1 h2 ih1 ih2 =>
    rename_i f g
    obtain ⟨i1, i2, i3⟩ := ih1
    obtain ⟨j1, j2, j3⟩ := ih2
    rw [st_til]
    simp only [nn_mk, td_mk, nns_cons, nns_nil, tds_cons, tds_nil]
    simp
    have e1 := Nat.mul_le_mul_right (nn f) (show 2 + td f ≤ 2 + max (td f) (td g) by omega)
    have e2 := Nat.mul_le_mul_right (nn g) (show 2 + td g ≤ 2 + max (td f) (td g) by omega)
    have m1 := Nat.le_max_left (td f) (td g)
    have m2 := Nat.le_max_right (td f) (td g)
    generalize max (td f) (td g) = m at *
    rw [show (2 + (1 + m)) * (1 + (nn f + nn g)) = (2 + m) * nn f + (2 + m) * nn g + (2 + m) + 1 + (nn f + nn g) by rw [show 2 + (1 + m) = (2 + m) + 1 by omega, Nat.add_mul, Nat.mul_add, Nat.mul_add]; omega]
    omega
  | jn hk h ih =>
    rename_i k l
    rw [st_jn hk]
    simp only [nn_mk, td_mk]
    rw [if_neg (by omega)]
    refine ⟨fun h0 => ?_, ?_, ?_⟩
    · have := nns_map (q := stF v) (c := 1) (l := l) fun f hf => by
        have := (ih f hf).1 (by have := td_mem hf; omega)
        omega
      omega
    · have := nns_map (q := stF v) (c := 2 + tds l) (l := l) fun f hf => by
        refine Nat.le_trans (ih f hf).2.1 (Nat.mul_le_mul_right _ ?_)
        have := td_mem hf
        omega
      rw [Nat.mul_add]
      simp only [Nat.zero_add]
      omega
    · have : tds (l.map (stF v)) ≤ tds l := tds_le fun f hf => by
        obtain ⟨g, hg, rfl⟩ := List.mem_map.1 hf
        exact Nat.le_trans (ih g hg).2.2 (td_mem hg)
      omega
structure Gd (N : Nat) (f : Fm) : Prop where
  w : Wf f
  t : td f ≤ 3
  n : nn f ≤ N
theorem Gd.s {N : Nat} {f : Fm} (h : Gd N f) : Gd N (sF f) := by
  have := s_size h.w
  exact ⟨wf_s h.w, by have := h.t; omega, by have := h.n; omega⟩
theorem Gd.st {N : Nat} {f : Fm} (h : Gd N f) (v : List Int) : Gd (5 * N) (stF v f) := by
  obtain ⟨_, h2, h3⟩ := st_size v h.w
  have := h.t
  have := h.n
  have := Nat.mul_le_mul_right (nn f) (show 2 + td f ≤ 5 by omega)
  exact ⟨wf_st v h.w, by omega, by omega⟩
theorem Gd.pro {N : Nat} {f : Fm} (h : Gd N f) (v : List Int) : Gd (5 * N) (proF v f) := by
  rw [pro_same v f h.w]
  exact (h.st v).s
theorem Gd.mono {N M : Nat} {f : Fm} (h : Gd N f) (hm : N ≤ M) : Gd M f := ⟨h.w, h.t, Nat.le_trans h.n hm⟩
theorem Gd.kid {N : Nat} {k a b n : Int} {l : List Fm} (h : Gd N (.mk k a b n l)) {f : Fm} (hf : f ∈ l) : Gd N f := by
  obtain ⟨w, t, n⟩ := h
  rw [td_mk] at t
  rw [nn_mk] at n
  have := td_mem hf
  have := nn_mem hf
  exact ⟨wf_kids w f hf, by omega, by omega⟩
theorem s_sum {l : List Fm} (h : ∀ f ∈ l, Wf f) : nns (l.map sF) ≤ nns l := by
  have := nns_map (q := sF) (c := 1) (l := l) fun f hf => by have := (s_size (h f hf)).1; omega
  omega
theorem fitT_gd {N : Nat} (hN : N ≤ 1000000000000) : ∀ f : Fm, Gd N f → FitT f := Fm.ind fun k a b n l ih hw => by
  have h2 := hw.n
  rw [nn_mk] at h2
  have := nns_len l
  refine fitT_mk (by omega) (fun _ => ?_) fun f hf => ih f hf (hw.kid hf)
  unfold JB
  have := flat_lenn k (l.map sF)
  have := s_sum (wf_kids hw.w)
  simp only [Fm.kids] at this
  omega
theorem need_wf {k a b n : Int} {l : List Fm} (hw : Wf (.mk k a b n l)) (hn : nns l ≤ 1000000000000) : NeedK k l := by
  refine ⟨fun _ => ?_, fun h => ?_, fun h => ?_, fun h => ?_⟩
  · have := flat_lenn k l
    omega
  · subst h
    cases hw with
    | un _ h =>
      refine ⟨by simp, fun h2 => ?_⟩
      simp only [g0, List.getD_cons_zero] at h2 ⊢
      cases h with
      | var => simp [Fm.k] at h2
      | un => simp [Fm.kids]
      | til => simp [Fm.kids]
      | jn hk => simp [Fm.k] at h2; omega
    | jn hk => omega
  · subst h
    cases hw with
    | un h => omega
    | til => simp
    | jn hk => omega
  · cases hw with
    | var => simp at h
    | un _ _ => simp
    | til => simp at h
    | jn hk => omega
theorem fitS_gd {N : Nat} (hN : N ≤ 1000000000000) : ∀ f : Fm, Gd N f → FitS f := Fm.ind fun k a b n l ih hw => by
  have h2 := hw.n
  rw [nn_mk] at h2
  have := nns_len l
  refine fitS_mk (by omega) ?_ fun f hf => ih f hf (hw.kid hf)
  have e : l.map simF = l.map sF := List.map_congr_left fun f hf => sim_same f (wf_kids hw.w f hf)
  rw [e]
  refine need_wf (wf_map hw.w fun f _ h => wf_s h) ?_
  have := s_sum (wf_kids hw.w)
  simp only [Fm.kids] at this
  omega
theorem fitU_gd {N : Nat} (hN : N ≤ 1000000000000) : ∀ f : Fm, Gd N f → FitU f := Fm.ind fun k a b n l ih hw => by
  have h2 := hw.n
  rw [nn_mk] at h2
  have := nns_len l
  unfold FitU
  refine ⟨by omega, fun h => ?_, fitUs_mk fun f hf => ih f hf (hw.kid hf)⟩
  subst h
  cases hw.w with
  | var h _ _ => exact h
  | un hk => omega
  | jn hk => omega
theorem fitP_gd {N : Nat} (hN : N ≤ 100000000000) (v : List Int) : ∀ f : Fm, Gd N f → FitP v f := Fm.ind fun k a b n l ih hw => by
  have hfs := fitS_gd (by omega) _ hw
  have hs := sim_same _ hw.w
  have hsn := (s_size hw.w).1
  have h2 := hw.n
  have h3 := hw.t
  have hW := hw.w
  have hlen := nns_len l
  have hP : ∀ f ∈ l, Gd (5 * N) (proF v f) := fun f hf => (hw.kid hf).pro v
  have hk := fun f hf => fitS_gd (by omega) f (hw.kid (f := f) hf)
  refine fitP_mk ?_ fun f hf => ih f hf (hw.kid hf)
  rw [nn_mk] at h2
  have hPn : nns (l.map (proF v)) ≤ 5 * nns l := nns_map fun f hf => by
    have h4 : Gd (nn f) f := ⟨(hw.kid hf).w, (hw.kid hf).t, Nat.le_refl _⟩
    exact (h4.pro v).n
  refine ⟨fun h => ?_, fun h => ?_, fun h => ?_, fun h => ?_, fun h => ?_, fun h1 h5 h6 h7 h8 => ⟨by omega, ?_⟩⟩
  · subst h
    cases hW with
    | var q1 q2 q3 => exact ⟨q1, q2, q3⟩
    | un hk => omega
    | jn hk => omega
  · subst h
    cases hW with
    | un _ h => exact ⟨by simp, hk _ (by simp [g0])⟩
    | jn hk => omega
  · subst h
    cases hW with
    | un _ h =>
      refine ⟨by simp, hfs, ?_⟩
      unfold JB
      rw [hs]
      have := flat_lenn 3 [g0 (List.map (proF v) [‹Fm›]), sF (.mk 7 0 0 0 [‹Fm›])]
      simp only [nns_cons, nns_nil, g0, List.map_cons, List.map_nil, List.getD_cons_zero] at this hPn h2 hsn ⊢
      rw [nn_mk, nns_cons, nns_nil] at hsn
      omega
    | jn hk => omega
  · subst h
    cases hW with
    | un _ h =>
      refine ⟨by simp, hfs, ?_⟩
      unfold JB
      rw [hs]
      have := flat_lenn 4 [g0 (List.map (proF v) [‹Fm›]), sF (.mk 8 0 0 0 [‹Fm›])]
      simp only [nns_cons, nns_nil, g0, List.map_cons, List.map_nil, List.getD_cons_zero] at this hPn h2 hsn ⊢
      rw [nn_mk, nns_cons, nns_nil] at hsn
      omega
    | jn hk => omega
  · subst h
    cases hW with
    | un hk => omega
    | til w1 w2 =>
      rename_i f g
      have wj : ∀ x ∈ [proF v f, sF (.mk 6 0 0 0 [f, g])], Wf x := wf_kids (wf_two (.inl rfl) (hP f (by simp)).w (wf_s (.til w1 w2)))
      simp only [g0, g1, List.map_cons, List.map_nil, List.getD_cons_zero, List.getD_cons_succ]
      rw [hs, join_same (.inl rfl) wj]
      have e1 := flat_lenn 3 [proF v f, sF (.mk 6 0 0 0 [f, g])]
      have e2 := flat_lenn 4 [proF v g, rjoinF 3 [proF v f, sF (.mk 6 0 0 0 [f, g])]]
      have e3 := rjoin_nn 3 [proF v f, sF (.mk 6 0 0 0 [f, g])]
      simp only [nns_cons, nns_nil, List.map_cons, List.map_nil] at e1 e2 e3 hPn h2
      rw [nn_mk, nns_cons, nns_cons, nns_nil] at hsn
      refine ⟨by simp, hfs, ?_, ?_⟩
      · unfold JB; omega
      · unfold JB; omega
    | jn hk => omega
  · exact need_wf (wf_map hW fun f hf _ => (hP f hf).w) (by omega)
end Go.Proofs.YtndflafkigldmaaGreatDoor.Vm
namespace Go.Proofs.YtndflafkigldmaaGreatDoor.Vm
open Go.RowKit Go.Shelf
set_option linter.unusedSimpArgs false
set_option linter.unusedVariables false
set_option maxRecDepth 100000
def bxG (l : List Int) (i : Nat) : List A := [.sl 1 l.length (intsA l), .v (.int .i64 i)]
theorem gpick_spec (l : List Int) (i m : Nat) (hm : 1 ≤ m ∧ m ≤ 100) (hi : i ≤ 1000000000) : Spec Tryz.prog 22 [bxG l i] [.box 0 0, .v (.int .i64 m)] fun o r => ∃ n : Nat, n < m ∧ o = [bxG l (i + 1)] ∧ r = .v (.int .i64 n) := by
  refine spec_of (cx_ok ord22 xs0 1) (fun _ _ h => h) Tryz.func22 rfl (by kernel_rfl) rfl (by kernel_rfl) ?_
  intro hok
  conv => whnf
  refine call0 [] rfl (fun _ => rPick l i) ?_
  rintro r ⟨hr, rfl⟩
  obtain ⟨k, hk⟩ : ∃ k : Nat, pkF l i = (k : Int) := ⟨(pkF l i).toNat, by omega⟩
  rw [hk] at hr ⊢
  conv => whnf
  (refine goA ?_; try with_reducible exact trivial)
  have e : ((k : Int)).tmod (m : Int) = ((k % m : Nat) : Int) := by rw [Int.tmod_eq_emod_of_nonneg (by omega)]; omega
  exact ⟨k % m, Nat.mod_lt _ (by omega), rfl, by rw [e]⟩
end Go.Proofs.YtndflafkigldmaaGreatDoor.Vm
namespace Go.Proofs.YtndflafkigldmaaGreatDoor.Vm
open Go.RowKit Go.Shelf
set_option linter.unusedSimpArgs false
set_option linter.unusedVariables false
set_option maxRecDepth 100000
inductive Gf : Nat → Fm → Prop
  | var {d : Nat} {a b n : Int} : 0 ≤ a ∧ a ≤ 15 → 0 ≤ b ∧ b ≤ 2 → -2147483647 ≤ n ∧ n ≤ 2147483647 → Gf d (.mk 1 a b n [])
  | cst {d : Nat} (b : Bool) : Gf d (constF b)
  | un {d : Nat} {k : Int} {f : Fm} : k = 2 ∨ k = 5 ∨ k = 7 ∨ k = 8 → Gf d f → Gf (d + 1) (.mk k 0 0 0 [f])
  | til {d : Nat} {f g : Fm} : Gf d f → Gf d g → Gf (d + 1) (.mk 6 0 0 0 [f, g])
  | jn {d : Nat} {k : Int} {l : List Fm} : k = 3 ∨ k = 4 → 2 ≤ l.length ∧ l.length ≤ 3 → (∀ f, f ∈ l → Gf d f) → Gf (d + 1) (.mk k 0 0 0 l)
theorem gf_ok {d : Nat} {f : Fm} (h : Gf d f) : Wf f ∧ td f ≤ d ∧ nn f ≤ 4 ^ d := by
  induction h with
  | var h1 h2 h3 =>
    rename_i d a b n
    refine ⟨.var h1.1 h2.1 h2.2, ?_, ?_⟩
    · rw [td_mk, tds_nil]; simp
    · rw [nn_mk, nns_nil]; exact Nat.pos_of_ne_zero (by simp)
  | cst b =>
    rename_i d
    rw [const_td, const_nn]
    exact ⟨wf_const b, by omega, Nat.pos_of_ne_zero (by simp)⟩
  | un hk h ih =>
    rename_i d k f
    obtain ⟨i1, i2, i3⟩ := ih
    have hp : 1 ≤ 4 ^ d := Nat.pos_of_ne_zero (by simp)
    rw [td_mk, nn_mk, tds_cons, tds_nil, nns_cons, nns_nil, Nat.pow_succ]
    refine ⟨.un hk i1, ?_, by omega⟩
    split <;> omega
  | til h1 h2 ih1 ih2 =>
    rename_i d f g
    obtain ⟨i1, i2, i3⟩ := ih1
    obtain ⟨j1, j2, j3⟩ := ih2
    have hp : 1 ≤ 4 ^ d := Nat.pos_of_ne_zero (by simp)
    rw [td_mk, nn_mk, tds_cons, tds_cons, tds_nil, nns_cons, nns_cons, nns_nil, Nat.pow_succ]
    refine ⟨.til i1 j1, ?_, by omega⟩
    simp
    omega
  | jn hk hl h ih =>
    rename_i d k l
    have hp : 1 ≤ 4 ^ d := Nat.pos_of_ne_zero (by simp)
    rw [td_mk, nn_mk, if_neg (by omega), Nat.pow_succ]
    refine ⟨.jn hk fun f hf => (ih f hf).1, ?_, ?_⟩
    · have := tds_le fun f hf => (ih f hf).2.1
      omega
    · have : ∀ m : List Fm, (∀ f ∈ m, nn f ≤ 4 ^ d) → nns m ≤ m.length * 4 ^ d := fun m => by
        induction m with
        | nil => intro _; rw [nns_nil]; simp
        | cons f m ih2 =>
          intro hm
          have h1 := hm f (by simp)
          have h2 := ih2 fun g hg => hm g (by simp [hg])
          rw [nns_cons, List.length_cons, Nat.add_mul]
          omega
      have h1 := this l fun f hf => (ih f hf).2.2
      have h2 := Nat.mul_le_mul_right (4 ^ d) hl.2
      omega
def GenSpec (l : List Int) (d : Nat) : Prop := ∀ i, i + 5 * 4 ^ d ≤ 1000000 → Spec Tryz.prog 11 [bxG l i] [.box 0 0, .v (.int .i64 d)] fun o r => ∃ f i', Gf d f ∧ i ≤ i' ∧ i' ≤ i + 5 * 4 ^ d ∧ o = [bxG l i'] ∧ r = .agg (fmA f)
theorem tmod_nat (k : Nat) (m : Nat) (hm : 0 < m) : ((k : Int)).tmod (m : Int) = ((k % m : Nat) : Int) := by
  rw [Int.tmod_eq_emod_of_nonneg (by omega)]; omega
theorem tdiv_nat (k : Nat) (m : Nat) (hm : 0 < m) : ((k : Int)).tdiv (m : Int) = ((k / m : Nat) : Int) := by
  rw [Int.tdiv_eq_ediv_of_nonneg (by omega)]; omega
set_option maxHeartbeats 2000000 in
theorem gen_raw (l : List Int) (d e P Q : Nat) (hdb : d ≤ 1000) (hde : 1 ≤ d → d = e + 1) (hp1 : 1 ≤ d → P = 4 * Q) (hp2 : 1 ≤ Q) (hp3 : 1 ≤ P) (ih : 1 ≤ d → ∀ i, i + 5 * Q ≤ 1000000 → Spec Tryz.prog 11 [bxG l i] [.box 0 0, .v (.int .i64 ((d : Int) - 1))] fun o r => ∃ f i', Gf e f ∧ i ≤ i' ∧ i' ≤ i + 5 * Q ∧ o = [bxG l i'] ∧ r = .agg (fmA f)) (i : Nat) (hi : i + 5 * P ≤ 1000000) :
    Spec Tryz.prog 11 [bxG l i] [.box 0 0, .v (.int .i64 d)] fun o r => ∃ f i', Gf d f ∧ i ≤ i' ∧ i' ≤ i + 5 * P ∧ o = [bxG l i'] ∧ (r = .agg (fmA f) ∨ (f.kids = [] ∧ r = .agg (raw0 f))) := by
  refine spec_of (cx_ok ord11 (fun _ => [0]) 1) (fun _ _ h => h) Tryz.func11 rfl (by kernel_rfl) rfl (by kernel_rfl) ?_
  intro hok
  conv => whnf
  refine call1 0 [] rfl rfl rfl rfl (fun _ => gpick_spec l (i) 12 (by decide) (by omega)) ?_
  rintro o r ⟨n12, hn12, ho, rfl⟩
  cases ho
  conv => whnf
  by_cases hd0 : d = 0
  · have en : ((n12 : Int)).tmod 4 = ((n12 % 4 : Nat) : Int) := tmod_nat n12 4 (by decide)
    have hn4 : n12 % 4 < 4 := Nat.mod_lt _ (by decide)
    (refine goA ?_; try with_reducible exact trivial)
    rw [en]
    generalize n12 % 4 = n at *
    conv => whnf
    by_cases h0 : n = 0
    · (refine goA ?_; try with_reducible exact trivial)
      refine call1 0 [] rfl rfl rfl rfl (fun _ => gpick_spec l (i + 1) 3 (by decide) (by omega)) ?_
      rintro o r ⟨n3, hn3, ho, rfl⟩
      cases ho
      conv => whnf
      refine call1 0 [] rfl rfl rfl rfl (fun _ => gpick_spec l (i + 1 + 1) 3 (by decide) (by omega)) ?_
      rintro o r ⟨b3, hb3, ho, rfl⟩
      cases ho
      conv => whnf
      refine call1 0 [] rfl rfl rfl rfl (fun _ => gpick_spec l (i + 1 + 1 + 1) 4 (by decide) (by omega)) ?_
      rintro o r ⟨n4, hn4, ho, rfl⟩
      cases ho
      conv => whnf
      (refine goA ?_; try with_reducible exact trivial)
      refine ⟨.mk 1 n3 b3 ((n4 : Int) - 1) [], i + 1 + 1 + 1 + 1, .var (by omega) (by omega) (by omega), by omega, by omega, rfl, .inr ⟨rfl, rfl⟩⟩
    by_cases h1 : n = 1
    · (refine goA ?_; try with_reducible exact trivial)
      refine call1 0 [] rfl rfl rfl rfl (fun _ => gpick_spec l (i + 1) 3 (by decide) (by omega)) ?_
      rintro o r ⟨n3, hn3, ho, rfl⟩
      cases ho
      conv => whnf
      refine call1 0 [] rfl rfl rfl rfl (fun _ => gpick_spec l (i + 1 + 1) 3 (by decide) (by omega)) ?_
      rintro o r ⟨b3, hb3, ho, rfl⟩
      cases ho
      conv => whnf
      refine call1 0 [] rfl rfl rfl rfl (fun _ => gpick_spec l (i + 1 + 1 + 1) 4 (by decide) (by omega)) ?_
      rintro o r ⟨n4, hn4, ho, rfl⟩
      cases ho
      conv => whnf
      (refine goA ?_; try with_reducible exact trivial)
      refine ⟨.mk 1 n3 b3 ((n4 : Int) - 1) [], i + 1 + 1 + 1 + 1, .var (by omega) (by omega) (by omega), by omega, by omega, rfl, .inr ⟨rfl, rfl⟩⟩
    by_cases h2 : n = 2
    · (refine goA ?_; try with_reducible exact trivial)
      refine call1 0 [] rfl rfl rfl rfl (fun _ => gpick_spec l (i + 1) 3 (by decide) (by omega)) ?_
      rintro o r ⟨n3, hn3, ho, rfl⟩
      cases ho
      conv => whnf
      refine call1 0 [] rfl rfl rfl rfl (fun _ => gpick_spec l (i + 1 + 1) 3 (by decide) (by omega)) ?_
      rintro o r ⟨b3, hb3, ho, rfl⟩
      cases ho
      conv => whnf
      refine call1 0 [] rfl rfl rfl rfl (fun _ => gpick_spec l (i + 1 + 1 + 1) 4 (by decide) (by omega)) ?_
      rintro o r ⟨n4, hn4, ho, rfl⟩
      cases ho
      conv => whnf
      (refine goA ?_; try with_reducible exact trivial)
      refine ⟨.mk 1 n3 b3 ((n4 : Int) - 1) [], i + 1 + 1 + 1 + 1, .var (by omega) (by omega) (by omega), by omega, by omega, rfl, .inr ⟨rfl, rfl⟩⟩
    have h3 : n = 3 := by omega
    (refine goA ?_; try with_reducible exact trivial)
    refine call1 0 [] rfl rfl rfl rfl (fun _ => gpick_spec l (i + 1) 3 (by decide) (by omega)) ?_
    rintro o r ⟨n3, hn3, ho, rfl⟩
    cases ho
    conv => whnf
    by_cases hz : n3 = 0
    · (refine goA ?_; try with_reducible exact trivial)
      (refine call0 [] rfl (fun _ => rTrue) ?_; rintro r rfl; conv => whnf)
      (refine call0 [] rfl (fun _ => rFalse) ?_; rintro r rfl; conv => whnf)
      refine call1 0 [] rfl rfl rfl rfl (fun _ => gpick_spec l (i + 1 + 1) 2 (by decide) (by omega)) ?_
      rintro o r ⟨n2, hn2, ho, rfl⟩
      cases ho
      conv => whnf
      rcases (show n2 = 0 ∨ n2 = 1 by omega) with rfl | rfl
      · (refine goA ?_; try with_reducible exact trivial)
        exact ⟨constF true, i + 1 + 1 + 1, .cst true, by omega, by omega, rfl, .inl rfl⟩
      · (refine goA ?_; try with_reducible exact trivial)
        exact ⟨constF false, i + 1 + 1 + 1, .cst false, by omega, by omega, rfl, .inl rfl⟩
    · (refine goA ?_; try with_reducible exact trivial)
      refine call1 0 [] rfl rfl rfl rfl (fun _ => gpick_spec l (i + 1 + 1) 16 (by decide) (by omega)) ?_
      rintro o r ⟨n16, hn16, ho, rfl⟩
      cases ho
      conv => whnf
      refine call1 0 [] rfl rfl rfl rfl (fun _ => gpick_spec l (i + 1 + 1 + 1) 3 (by decide) (by omega)) ?_
      rintro o r ⟨b3, hb3, ho, rfl⟩
      cases ho
      conv => whnf
      refine call1 0 [] rfl rfl rfl rfl (fun _ => gpick_spec l (i + 1 + 1 + 1 + 1) 4 (by decide) (by omega)) ?_
      rintro o r ⟨n4, hn4, ho, rfl⟩
      cases ho
      conv => whnf
      rcases (show n4 = 0 ∨ n4 = 1 ∨ n4 = 2 ∨ n4 = 3 by omega) with rfl | rfl | rfl | rfl
      · (refine goA ?_; try with_reducible exact trivial)
        refine ⟨.mk 1 n16 b3 0 [], i + 1 + 1 + 1 + 1 + 1, .var (by omega) (by omega) (by omega), by omega, by omega, rfl, .inr ⟨rfl, rfl⟩⟩
      · (refine goA ?_; try with_reducible exact trivial)
        refine ⟨.mk 1 n16 b3 2147483647 [], i + 1 + 1 + 1 + 1 + 1, .var (by omega) (by omega) (by omega), by omega, by omega, rfl, .inr ⟨rfl, rfl⟩⟩
      · (refine goA ?_; try with_reducible exact trivial)
        refine ⟨.mk 1 n16 b3 (-2147483647) [], i + 1 + 1 + 1 + 1 + 1, .var (by omega) (by omega) (by omega), by omega, by omega, rfl, .inr ⟨rfl, rfl⟩⟩
      · (refine goA ?_; try with_reducible exact trivial)
        refine ⟨.mk 1 n16 b3 10 [], i + 1 + 1 + 1 + 1 + 1, .var (by omega) (by omega) (by omega), by omega, by omega, rfl, .inr ⟨rfl, rfl⟩⟩
  · have hde := hde (by omega)
    have hp1 := hp1 (by omega)
    have ih := ih (by omega)
    (refine goA ?_; try with_reducible exact trivial)
    generalize n12 = n at *
    by_cases h0 : n = 0
    · (refine goA ?_; try with_reducible exact trivial)
      refine call1 0 [] rfl rfl rfl rfl (fun _ => gpick_spec l (i + 1) 3 (by decide) (by omega)) ?_
      rintro o r ⟨n3, hn3, ho, rfl⟩
      cases ho
      conv => whnf
      refine call1 0 [] rfl rfl rfl rfl (fun _ => gpick_spec l (i + 1 + 1) 3 (by decide) (by omega)) ?_
      rintro o r ⟨b3, hb3, ho, rfl⟩
      cases ho
      conv => whnf
      refine call1 0 [] rfl rfl rfl rfl (fun _ => gpick_spec l (i + 1 + 1 + 1) 4 (by decide) (by omega)) ?_
      rintro o r ⟨n4, hn4, ho, rfl⟩
      cases ho
      conv => whnf
      (refine goA ?_; try with_reducible exact trivial)
      refine ⟨.mk 1 n3 b3 ((n4 : Int) - 1) [], i + 1 + 1 + 1 + 1, .var (by omega) (by omega) (by omega), by omega, by omega, rfl, .inr ⟨rfl, rfl⟩⟩
    by_cases h1 : n = 1
    · (refine goA ?_; try with_reducible exact trivial)
      refine call1 0 [] rfl rfl rfl rfl (fun _ => gpick_spec l (i + 1) 3 (by decide) (by omega)) ?_
      rintro o r ⟨n3, hn3, ho, rfl⟩
      cases ho
      conv => whnf
      refine call1 0 [] rfl rfl rfl rfl (fun _ => gpick_spec l (i + 1 + 1) 3 (by decide) (by omega)) ?_
      rintro o r ⟨b3, hb3, ho, rfl⟩
      cases ho
      conv => whnf
      refine call1 0 [] rfl rfl rfl rfl (fun _ => gpick_spec l (i + 1 + 1 + 1) 4 (by decide) (by omega)) ?_
      rintro o r ⟨n4, hn4, ho, rfl⟩
      cases ho
      conv => whnf
      (refine goA ?_; try with_reducible exact trivial)
      refine ⟨.mk 1 n3 b3 ((n4 : Int) - 1) [], i + 1 + 1 + 1 + 1, .var (by omega) (by omega) (by omega), by omega, by omega, rfl, .inr ⟨rfl, rfl⟩⟩
    by_cases h2 : n = 2
    · (refine goA ?_; try with_reducible exact trivial)
      refine call1 0 [] rfl rfl rfl rfl (fun _ => gpick_spec l (i + 1) 3 (by decide) (by omega)) ?_
      rintro o r ⟨n3, hn3, ho, rfl⟩
      cases ho
      conv => whnf
      refine call1 0 [] rfl rfl rfl rfl (fun _ => gpick_spec l (i + 1 + 1) 3 (by decide) (by omega)) ?_
      rintro o r ⟨b3, hb3, ho, rfl⟩
      cases ho
      conv => whnf
      refine call1 0 [] rfl rfl rfl rfl (fun _ => gpick_spec l (i + 1 + 1 + 1) 4 (by decide) (by omega)) ?_
      rintro o r ⟨n4, hn4, ho, rfl⟩
      cases ho
      conv => whnf
      (refine goA ?_; try with_reducible exact trivial)
      refine ⟨.mk 1 n3 b3 ((n4 : Int) - 1) [], i + 1 + 1 + 1 + 1, .var (by omega) (by omega) (by omega), by omega, by omega, rfl, .inr ⟨rfl, rfl⟩⟩
    by_cases h3 : n = 3
    · (refine goA ?_; try with_reducible exact trivial)
      refine call1 0 [] rfl rfl rfl rfl (fun _ => gpick_spec l (i + 1) 3 (by decide) (by omega)) ?_
      rintro o r ⟨n3, hn3, ho, rfl⟩
      cases ho
      conv => whnf
      by_cases hz : n3 = 0
      · (refine goA ?_; try with_reducible exact trivial)
        (refine call0 [] rfl (fun _ => rTrue) ?_; rintro r rfl; conv => whnf)
        (refine call0 [] rfl (fun _ => rFalse) ?_; rintro r rfl; conv => whnf)
        refine call1 0 [] rfl rfl rfl rfl (fun _ => gpick_spec l (i + 1 + 1) 2 (by decide) (by omega)) ?_
        rintro o r ⟨n2, hn2, ho, rfl⟩
        cases ho
        conv => whnf
        rcases (show n2 = 0 ∨ n2 = 1 by omega) with rfl | rfl
        · (refine goA ?_; try with_reducible exact trivial)
          exact ⟨constF true, i + 1 + 1 + 1, .cst true, by omega, by omega, rfl, .inl rfl⟩
        · (refine goA ?_; try with_reducible exact trivial)
          exact ⟨constF false, i + 1 + 1 + 1, .cst false, by omega, by omega, rfl, .inl rfl⟩
      · (refine goA ?_; try with_reducible exact trivial)
        refine call1 0 [] rfl rfl rfl rfl (fun _ => gpick_spec l (i + 1 + 1) 16 (by decide) (by omega)) ?_
        rintro o r ⟨n16, hn16, ho, rfl⟩
        cases ho
        conv => whnf
        refine call1 0 [] rfl rfl rfl rfl (fun _ => gpick_spec l (i + 1 + 1 + 1) 3 (by decide) (by omega)) ?_
        rintro o r ⟨b3, hb3, ho, rfl⟩
        cases ho
        conv => whnf
        refine call1 0 [] rfl rfl rfl rfl (fun _ => gpick_spec l (i + 1 + 1 + 1 + 1) 4 (by decide) (by omega)) ?_
        rintro o r ⟨n4, hn4, ho, rfl⟩
        cases ho
        conv => whnf
        rcases (show n4 = 0 ∨ n4 = 1 ∨ n4 = 2 ∨ n4 = 3 by omega) with rfl | rfl | rfl | rfl
        · (refine goA ?_; try with_reducible exact trivial)
          refine ⟨.mk 1 n16 b3 0 [], i + 1 + 1 + 1 + 1 + 1, .var (by omega) (by omega) (by omega), by omega, by omega, rfl, .inr ⟨rfl, rfl⟩⟩
        · (refine goA ?_; try with_reducible exact trivial)
          refine ⟨.mk 1 n16 b3 2147483647 [], i + 1 + 1 + 1 + 1 + 1, .var (by omega) (by omega) (by omega), by omega, by omega, rfl, .inr ⟨rfl, rfl⟩⟩
        · (refine goA ?_; try with_reducible exact trivial)
          refine ⟨.mk 1 n16 b3 (-2147483647) [], i + 1 + 1 + 1 + 1 + 1, .var (by omega) (by omega) (by omega), by omega, by omega, rfl, .inr ⟨rfl, rfl⟩⟩
        · (refine goA ?_; try with_reducible exact trivial)
          refine ⟨.mk 1 n16 b3 10 [], i + 1 + 1 + 1 + 1 + 1, .var (by omega) (by omega) (by omega), by omega, by omega, rfl, .inr ⟨rfl, rfl⟩⟩
    by_cases h4 : n = 4
    · (refine goA ?_; try with_reducible exact trivial)
      have hd1 := ih
      (refine goA ?_; try with_reducible exact trivial)
      refine call1 0 [] rfl rfl rfl rfl (fun _ => hd1 (i + 1) (by omega)) ?_
      rintro o r ⟨f, i', hf, hi1, hi2, ho, rfl⟩
      cases ho
      conv => whnf
      refine ⟨.mk 2 0 0 0 [f], i', ?_, by omega, by omega, rfl, .inl ?_⟩
      · rw [hde]; exact .un (by omega) hf
      · rw [fmA_mk, fmsA_cons, fmsA_nil, List.append_nil]; rfl
    by_cases h5 : n = 5
    · (refine goA ?_; try with_reducible exact trivial)
      have hd1 := ih
      (refine goA ?_; try with_reducible exact trivial)
      refine call1 0 [] rfl rfl rfl rfl (fun _ => hd1 (i + 1) (by omega)) ?_
      rintro o r ⟨f, i', hf, hi1, hi2, ho, rfl⟩
      cases ho
      conv => whnf
      refine ⟨.mk 5 0 0 0 [f], i', ?_, by omega, by omega, rfl, .inl ?_⟩
      · rw [hde]; exact .un (by omega) hf
      · rw [fmA_mk, fmsA_cons, fmsA_nil, List.append_nil]; rfl
    by_cases h6 : n = 6
    · (refine goA ?_; try with_reducible exact trivial)
      have hd1 := ih
      (refine goA ?_; try with_reducible exact trivial)
      refine call1 0 [] rfl rfl rfl rfl (fun _ => hd1 (i + 1) (by omega)) ?_
      rintro o r ⟨f, i', hf, hi1, hi2, ho, rfl⟩
      cases ho
      conv => whnf
      refine ⟨.mk 7 0 0 0 [f], i', ?_, by omega, by omega, rfl, .inl ?_⟩
      · rw [hde]; exact .un (by omega) hf
      · rw [fmA_mk, fmsA_cons, fmsA_nil, List.append_nil]; rfl
    by_cases h7 : n = 7
    · (refine goA ?_; try with_reducible exact trivial)
      have hd1 := ih
      (refine goA ?_; try with_reducible exact trivial)
      refine call1 0 [] rfl rfl rfl rfl (fun _ => hd1 (i + 1) (by omega)) ?_
      rintro o r ⟨f, i', hf, hi1, hi2, ho, rfl⟩
      cases ho
      conv => whnf
      refine ⟨.mk 7 0 0 0 [f], i', ?_, by omega, by omega, rfl, .inl ?_⟩
      · rw [hde]; exact .un (by omega) hf
      · rw [fmA_mk, fmsA_cons, fmsA_nil, List.append_nil]; rfl
    by_cases h8 : n = 8
    · (refine goA ?_; try with_reducible exact trivial)
      have hd1 := ih
      (refine goA ?_; try with_reducible exact trivial)
      refine call1 0 [] rfl rfl rfl rfl (fun _ => hd1 (i + 1) (by omega)) ?_
      rintro o r ⟨f, i', hf, hi1, hi2, ho, rfl⟩
      cases ho
      conv => whnf
      refine ⟨.mk 8 0 0 0 [f], i', ?_, by omega, by omega, rfl, .inl ?_⟩
      · rw [hde]; exact .un (by omega) hf
      · rw [fmA_mk, fmsA_cons, fmsA_nil, List.append_nil]; rfl
    by_cases h9 : n = 9
    · have hd1 := ih
      (refine goA ?_; try with_reducible exact trivial)
      refine call1 0 [] rfl rfl rfl rfl (fun _ => hd1 (i + 1) (by omega)) ?_
      rintro o r ⟨f, i', hf, hi1, hi2, ho, rfl⟩
      cases ho
      conv => whnf
      (refine goA ?_; try with_reducible exact trivial)
      refine call1 0 [] rfl rfl rfl rfl (fun _ => hd1 i' (by omega)) ?_
      rintro o r ⟨g, i2, hg, hi3, hi4, ho, rfl⟩
      cases ho
      conv => whnf
      (refine call0 [] rfl (fun _ => rBoth 6 f g) ?_; rintro r rfl; conv => whnf)
      refine ⟨.mk 6 0 0 0 [f, g], i2, ?_, by omega, by omega, rfl, .inl rfl⟩
      rw [hde]; exact .til hf hg
    have hd1 := ih
    have en : ((n : Int)).tmod 2 = ((n % 2 : Nat) : Int) := tmod_nat n 2 (by decide)
    (refine goA ?_; try with_reducible exact trivial)
    rw [en]
    rcases (show n % 2 = 0 ∨ n % 2 = 1 by omega) with h10 | h10
    · rw [h10]
      conv => whnf
      (refine goA ?_; try with_reducible exact trivial)
      refine call1 0 [] rfl rfl rfl rfl (fun _ => gpick_spec l (i + 1) 2 (by decide) (by omega)) ?_
      rintro o r ⟨n2, hn2, ho, rfl⟩
      cases ho
      conv => whnf
      (refine goA ?_; try with_reducible exact trivial)
      refine loop_row 25 5 [] [(2, 4)] ?_
      conv => whnf
      refine ⟨trivial, ?_⟩
      conv => whnf
      refine loop_keep [0, 1, 4, 7] ?_
      conv => whnf
      refine loop_goQ (fun x : Nat × List Fm × Nat => [(8, .v (.int .i64 x.1))]) (fun x => [bxG l x.2.2, [intA 0, intA 0, intA 0, intA 0, .v (.slice none 0 0)], [intA 3, intA 0, intA 0, intA 0, .own 1]]) (fun x => [.live 3 1 2 [intA 3, intA 4], .live 25 5 x.2.1.length (fmsA x.2.1)]) (fun x => x.1 + x.2.1.length = 2 + n2 ∧ (∀ f ∈ x.2.1, Gf e f) ∧ i ≤ x.2.2 ∧ x.2.2 ≤ i + 2 + x.2.1.length * (5 * Q)) (fun x => x.1) (2 + n2, [], i + 1 + 1) ?_ ⟨rfl, by simp, by simp only; omega, by simp only [List.length_nil]; omega⟩ ?_
      · unfold headQ
        repeat' constructor
        · show [_, Row.live _ _ _ _] = [_, Row.live _ _ _ _]
          rw [fmsA_nil]; rfl
      · rintro ⟨m, acc, i'⟩ ⟨hm, hacc, hi1, hi2⟩
        simp only at hm hacc hi1 hi2
        conv => whnf
        by_cases hm0 : m = 0
        · (refine goA ?_; try with_reducible exact trivial)
          refine ⟨.mk 3 0 0 0 acc, i', ?_, by omega, ?_, rfl, .inl rfl⟩
          · rw [hde]; exact .jn (by simp) (by omega) hacc
          · have := Nat.mul_le_mul_right (5 * Q) (show acc.length ≤ 3 by omega)
            omega
        · have hmu := Nat.mul_le_mul_right (5 * Q) (show acc.length ≤ 2 by omega)
          have hspec := hd1 i' (by omega)
          (refine goA ?_; try with_reducible exact trivial)
          refine call1 0 [] rfl rfl rfl rfl (fun _ => hspec) ?_
          rintro o r ⟨f, i2, hf, hi3, hi4, ho, rfl⟩
          cases ho
          conv => whnf
          refine ⟨⟨by simp only; unfold maxLen; omega, by simp only; omega⟩, ?_⟩
          conv => whnf
          (refine goA ?_; try with_reducible exact trivial)
          refine ⟨(m - 1, acc ++ [f], i2), le_head ?_, ⟨by simp only [List.length_append, List.length_cons, List.length_nil]; omega, ?_, by simp only; omega, ?_⟩, by simp only; omega⟩
          · repeat' constructor
            · show A.v (.int .i64 ((m : Int) - 1)) = A.v (.int .i64 ((m - 1 : Nat) : Int))
              rw [show ((m - 1 : Nat) : Int) = (m : Int) - 1 by omega]
            · simp only [List.length_append, List.length_cons, List.length_nil]
              rw [fmsA_snoc]; rfl
          · intro g hg
            rcases List.mem_append.1 hg with hg | hg
            · exact hacc g hg
            · rw [List.mem_singleton.1 hg]; exact hf
          · simp only [List.length_append, List.length_cons, List.length_nil]
            rw [Nat.add_mul]
            omega
    · rw [h10]
      conv => whnf
      (refine goA ?_; try with_reducible exact trivial)
      refine call1 0 [] rfl rfl rfl rfl (fun _ => gpick_spec l (i + 1) 2 (by decide) (by omega)) ?_
      rintro o r ⟨n2, hn2, ho, rfl⟩
      cases ho
      conv => whnf
      (refine goA ?_; try with_reducible exact trivial)
      refine loop_row 25 5 [] [(2, 4)] ?_
      conv => whnf
      refine ⟨trivial, ?_⟩
      conv => whnf
      refine loop_keep [0, 1, 4, 7] ?_
      conv => whnf
      refine loop_goQ (fun x : Nat × List Fm × Nat => [(8, .v (.int .i64 x.1))]) (fun x => [bxG l x.2.2, [intA 0, intA 0, intA 0, intA 0, .v (.slice none 0 0)], [intA 4, intA 0, intA 0, intA 0, .own 1]]) (fun x => [.live 3 1 2 [intA 3, intA 4], .live 25 5 x.2.1.length (fmsA x.2.1)]) (fun x => x.1 + x.2.1.length = 2 + n2 ∧ (∀ f ∈ x.2.1, Gf e f) ∧ i ≤ x.2.2 ∧ x.2.2 ≤ i + 2 + x.2.1.length * (5 * Q)) (fun x => x.1) (2 + n2, [], i + 1 + 1) ?_ ⟨rfl, by simp, by simp only; omega, by simp only [List.length_nil]; omega⟩ ?_
      · unfold headQ
        repeat' constructor
        · show [_, Row.live _ _ _ _] = [_, Row.live _ _ _ _]
          rw [fmsA_nil]; rfl
      · rintro ⟨m, acc, i'⟩ ⟨hm, hacc, hi1, hi2⟩
        simp only at hm hacc hi1 hi2
        conv => whnf
        by_cases hm0 : m = 0
        · (refine goA ?_; try with_reducible exact trivial)
          refine ⟨.mk 4 0 0 0 acc, i', ?_, by omega, ?_, rfl, .inl rfl⟩
          · rw [hde]; exact .jn (by simp) (by omega) hacc
          · have := Nat.mul_le_mul_right (5 * Q) (show acc.length ≤ 3 by omega)
            omega
        · have hmu := Nat.mul_le_mul_right (5 * Q) (show acc.length ≤ 2 by omega)
          have hspec := hd1 i' (by omega)
          (refine goA ?_; try with_reducible exact trivial)
          refine call1 0 [] rfl rfl rfl rfl (fun _ => hspec) ?_
          rintro o r ⟨f, i2, hf, hi3, hi4, ho, rfl⟩
          cases ho
          conv => whnf
          refine ⟨⟨by simp only; unfold maxLen; omega, by simp only; omega⟩, ?_⟩
          conv => whnf
          (refine goA ?_; try with_reducible exact trivial)
          refine ⟨(m - 1, acc ++ [f], i2), le_head ?_, ⟨by simp only [List.length_append, List.length_cons, List.length_nil]; omega, ?_, by simp only; omega, ?_⟩, by simp only; omega⟩
          · repeat' constructor
            · show A.v (.int .i64 ((m : Int) - 1)) = A.v (.int .i64 ((m - 1 : Nat) : Int))
              rw [show ((m - 1 : Nat) : Int) = (m : Int) - 1 by omega]
            · simp only [List.length_append, List.length_cons, List.length_nil]
              rw [fmsA_snoc]; rfl
          · intro g hg
            rcases List.mem_append.1 hg with hg | hg
            · exact hacc g hg
            · rw [List.mem_singleton.1 hg]; exact hf
          · simp only [List.length_append, List.length_cons, List.length_nil]
            rw [Nat.add_mul]
            omega
theorem gen_spec (l : List Int) : ∀ d, d ≤ 1000 → GenSpec l d := fun d hd i hi => by
  have h : Spec Tryz.prog 11 [bxG l i] [.box 0 0, .v (.int .i64 d)] fun o r => ∃ f i', Gf d f ∧ i ≤ i' ∧ i' ≤ i + 5 * 4 ^ d ∧ o = [bxG l i'] ∧ (r = .agg (fmA f) ∨ (f.kids = [] ∧ r = .agg (raw0 f))) := by
    match d, hd, hi with
    | 0, hd, hi => exact gen_raw l 0 0 1 1 hd (by omega) (by omega) (by omega) (by omega) (fun h => by omega) i hi
    | d + 1, hd, hi =>
      refine gen_raw l (d + 1) d (4 ^ (d + 1)) (4 ^ d) hd (by omega) (fun _ => by rw [Nat.pow_succ, Nat.mul_comm]) (Nat.pos_of_ne_zero (by simp)) (Nat.pos_of_ne_zero (by simp)) (fun _ i hi => ?_) i hi
      have := gen_spec l d (by omega) i hi
      rwa [show ((d + 1 : Nat) : Int) - 1 = (d : Int) by omega]
  refine h.weaken fun o r k => ?_
  obtain ⟨f, i', h1, h2, h3, rfl, h4⟩ := k
  rcases h4 with rfl | ⟨h4, rfl⟩
  · exact ⟨_, _, ⟨f, i', h1, h2, h3, rfl, rfl⟩, .refl _, .refl _⟩
  · exact ⟨_, _, ⟨f, i', h1, h2, h3, rfl, rfl⟩, .refl _, .agg (raw0_wk h4)⟩
end Go.Proofs.YtndflafkigldmaaGreatDoor.Vm
namespace Go.Proofs.YtndflafkigldmaaGreatDoor.Vm
open Go.RowKit
set_option linter.unusedSimpArgs false
set_option linter.unusedVariables false
mutual
def pubA (k n : Nat) (cs : List A) : A → A
  | .own _ => .sl k n cs
  | .orow _ _ => .dead
  | .clo f caps => .clo f (pubL k n cs caps)
  | .bm f fs => .bm f (pubL k n cs fs)
  | .mp ks vs => .mp ks vs
  | .agg l => .agg (pubL k n cs l)
  | .tup l => .tup (pubL k n cs l)
  | .box _ _ => .dead
  | .gp g o => .gp g o
  | .adr T => .adr T
  | .err => .err
  | .dead => .dead
  | .v x => .v x
  | .sl k n cs => .sl k n cs
  | .pp cs => .pp cs
def pubL (k n : Nat) (cs : List A) : List A → List A
  | [] => []
  | a :: r => pubA k n cs a :: pubL k n cs r
end
section
variable {C D : Rd} {y : Value} {k n : Nat} {cs : List A}
mutual
theorem pubA_rep (hs : Sub C D) (hy : (A.sl k n cs).rep ⟨D, [], []⟩ y) : ∀ (a : A) {v : Value}, a.rep ⟨C, [], [y]⟩ v → (pubA k n cs a).rep ⟨D, [], []⟩ v
  | .dead, v, h => by unfold pubA; exact A.rep_dead _ _
  | .v x, v, h => by unfold pubA; unfold A.rep at h ⊢; exact h
  | .sl k n cs, v, h => by
    unfold pubA
    have h2 : (A.sl k n cs).rep ⟨C, [], []⟩ v := by unfold A.rep at h ⊢; exact h
    exact A.rep.mono _ (E := ⟨C, [], []⟩) (F := ⟨D, [], []⟩) ⟨hs, fun _ _ h => h, fun _ _ h => h⟩ h2
  | .pp cs, v, h => by
    unfold pubA
    have h2 : (A.pp cs).rep ⟨C, [], []⟩ v := by unfold A.rep at h ⊢; exact h
    exact A.rep.mono _ (E := ⟨C, [], []⟩) (F := ⟨D, [], []⟩) ⟨hs, fun _ _ h => h, fun _ _ h => h⟩ h2
  | .own j, v, h => by
    unfold pubA
    unfold A.rep at h
    cases j with
    | zero => simp at h; subst h; exact hy
    | succ j => simp at h
  | .orow j o, v, h => by unfold pubA; exact A.rep_dead _ _
  | .box j o, v, h => by unfold pubA; exact A.rep_dead _ _
  | .gp _ _, v, h => by unfold pubA; unfold A.rep at h ⊢; exact h
  | .adr _, v, h => by unfold A.rep at h; exact h.elim
  | .err, v, h => by unfold pubA; unfold A.rep at h ⊢; exact h
  | .clo f caps, v, h => by
    unfold pubA; unfold A.rep at h ⊢
    obtain ⟨us, h1, h2⟩ := h
    exact ⟨us, h1, pubL_rep hs hy caps h2⟩
  | .bm f fs, v, h => by
    unfold pubA; unfold A.rep at h ⊢
    obtain ⟨us, h1, h2⟩ := h
    exact ⟨us, h1, pubL_rep hs hy fs h2⟩
  | .mp ks vs, v, h => by
    unfold pubA
    have h2 : (A.mp ks vs).rep ⟨C, [], []⟩ v := by unfold A.rep at h ⊢; exact h
    exact A.rep.mono _ (E := ⟨C, [], []⟩) (F := ⟨D, [], []⟩) ⟨hs, fun _ _ h => h, fun _ _ h => h⟩ h2
  | .agg l, v, h => by
    unfold pubA; unfold A.rep at h ⊢
    obtain ⟨us, h1, h2⟩ := h
    exact ⟨us, h1, A.repC_mk (pubL_rep hs hy l (A.repC_L h2)) (A.repC_one h2)⟩
  | .tup l, v, h => by
    unfold pubA; unfold A.rep at h ⊢
    obtain ⟨us, h1, h2⟩ := h
    exact ⟨us, h1, pubL_rep hs hy l h2⟩
theorem pubL_rep (hs : Sub C D) (hy : (A.sl k n cs).rep ⟨D, [], []⟩ y) : ∀ (l : List A) {us : List Value}, A.repL l ⟨C, [], [y]⟩ us → A.repL (pubL k n cs l) ⟨D, [], []⟩ us
  | [], us, h => by unfold pubL; unfold A.repL at h ⊢; exact h
  | a :: r, us, h => by
    unfold pubL; unfold A.repL at h ⊢
    obtain ⟨u, us', rfl, h1, h2⟩ := h
    exact ⟨u, us', rfl, pubA_rep hs hy a h1, pubL_rep hs hy r h2⟩
end
end
theorem own_sl {w : World} {base e k n : Nat} {y : Value} {xs : List Value} {cs : List A} {D : Rd} (h : w.ownsRow base e k y n xs) (hr : A.repC cs ⟨D, [], []⟩ xs) (hD : ∀ b, y.ownBlock = some b → ∀ o u, w.cell? ⟨b, o, none⟩ = some u → D ⟨b, o, none⟩ = some u) : (A.sl k n cs).rep ⟨D, [], []⟩ y := by
  have hlen : cs.length = n * k := by rw [← A.repC_len hr, h.1]
  rcases h.2 with ⟨rfl, rfl⟩ | ⟨b, cap, cur, rfl, hb, hbb, hn, hcm, hcs, htake⟩
  · unfold A.rep
    have hcs : cs = [] := List.eq_nil_of_length_eq_zero (by simpa using hlen)
    subst hcs
    exact ⟨by simp, by simp, none, 0, 0, 0, rfl, Nat.le_refl _, .inl rfl, fun _ => rfl, by simp [A.repAt]⟩
  · unfold A.rep
    refine ⟨hlen, Nat.le_trans hn hcm, _, b, 0, cap, rfl, hn, .inr rfl, by simp, ?_⟩
    refine A.repAt_mk (E := ⟨D, [], []⟩) hr (fun j' u hu => ?_)
    have := h.cells (g := b) rfl j' u hu
    rw [add_at] at this
    exact hD b rfl _ u this
theorem SpecF.pub {P : Program} {f : Nat} {args : List A} {post : Nat → Nat → Nat → List A → A → Prop} (h : SpecF P f args post) (hk0 : ∀ e k n cs r, post e k n cs r → k ≠ 0) : Spec P f [] args fun _ r => ∃ e k n cs r0, post e k n cs r0 ∧ r = pubA k n cs r0 := by
  refine ⟨h.1, fun w C β vals h0 h1 h2 h3 h4 h5 h6 => ?_⟩
  have hβ : β = [] := List.eq_nil_of_length_eq_zero (by simpa using h4.symm)
  subst hβ
  refine (h.2 w C vals h0 h1 h6).mono ?_
  rintro e w' ⟨et, k, n, cs, r, v, y, xs, C', rfl, hpost, kp, hC, hC', hnew, hnone, hown, hrep, hr⟩
  have hs : Sub C' (plus C w w') := fun ad u hc => by
    unfold plus
    split
    · rename_i hlt
      rcases hnew ad u hc with h7 | h7
      · exact h7
      · omega
    · exact hC' ad u hc
  refine ⟨[], _, v, rfl, ⟨et, k, n, cs, r, hpost, rfl⟩, kp, rfl, fun i b cs hb => by simp at hb, pubA_rep hs ?_ r hr⟩
  have hown' := hown.row (hk0 _ _ _ _ _ hpost)
  refine own_sl hown' (A.repC.mono cs (E := ⟨C', [], []⟩) (F := ⟨plus C w w', [], []⟩) ⟨hs, fun _ _ h => h, fun _ _ h => h⟩ hrep) fun b hb o u hc => ?_
  have hlt := (hnone b (blk_own hb)).2
  show plus C w w' ⟨b, o, none⟩ = some u
  unfold plus
  rw [if_neg (by simp only; omega)]
  exact hc
end Go.Proofs.YtndflafkigldmaaGreatDoor.Vm
namespace Go.Proofs.YtndflafkigldmaaGreatDoor.Vm
open Go.RowKit Go.Shelf
set_option linter.unusedSimpArgs false
set_option linter.unusedVariables false
set_option maxRecDepth 100000
theorem rFormula (l : List Int) : Spec Tryz.prog 4 [] [.sl 1 l.length (intsA l)] fun _ r => ∃ f, Gf 3 f ∧ r = .agg (fmA f) := by
  have h := gen_spec l 3 (by omega) 0 (by decide)
  unfold bxG at h
  refine spec_of (cx_ok ord0 xs0 0) (fun _ _ h => h) Tryz.func4 rfl (by kernel_rfl) rfl (by kernel_rfl) ?_
  intro hok
  conv => whnf
  refine call1 1 [] rfl rfl rfl rfl (fun _ => h) ?_
  rintro o r ⟨f, i', hf, _, _, ho, rfl⟩
  cases ho
  conv => whnf
  exact ⟨f, hf, rfl⟩
theorem trA_snoc (T : List (List Int)) (v : List Int) : trA (T ++ [v]) = trA T ++ [.sl 1 v.length (intsA v)] := by simp [trA]
end Go.Proofs.YtndflafkigldmaaGreatDoor.Vm
namespace Go.Proofs.YtndflafkigldmaaGreatDoor.Vm
open Go.RowKit Go.Shelf
set_option linter.unusedSimpArgs false
set_option linter.unusedVariables false
set_option maxRecDepth 100000
def minL : List Int → Int
  | [] => 1
  | x :: l => min x (minL l)
def maxL : List Int → Int
  | [] => -1
  | x :: l => max x (maxL l)
theorem minL_app (l m : List Int) (hm : ∀ x ∈ l, x ≤ 1) : minL (l ++ m) = min (minL l) (minL m) := by
  induction l with
  | nil =>
    simp only [List.nil_append, minL]
    have : minL m ≤ 1 := by
      clear hm
      induction m with
      | nil => simp [minL]
      | cons x m ih => simp only [minL]; omega
    omega
  | cons x l ih =>
    have := ih fun y hy => hm y (by simp [hy])
    simp only [List.cons_append, minL]
    omega
theorem minL_le (l : List Int) : minL l ≤ 1 := by
  induction l with
  | nil => simp [minL]
  | cons x m ih => simp only [minL]; omega
theorem maxL_ge (l : List Int) : -1 ≤ maxL l := by
  induction l with
  | nil => simp [maxL]
  | cons x m ih => simp only [maxL]; omega
theorem minL_ge {l : List Int} (h : ∀ x ∈ l, -1 ≤ x) : -1 ≤ minL l := by
  induction l with
  | nil => simp [minL]
  | cons x m ih => simp only [minL]; have := h x (by simp); have := ih fun y hy => h y (by simp [hy]); omega
theorem maxL_le {l : List Int} (h : ∀ x ∈ l, x ≤ 1) : maxL l ≤ 1 := by
  induction l with
  | nil => simp [maxL]
  | cons x m ih => simp only [maxL]; have := h x (by simp); have := ih fun y hy => h y (by simp [hy]); omega
theorem minL_mem {l : List Int} {x : Int} (h : x ∈ l) : minL l ≤ x := by
  induction l with
  | nil => cases h
  | cons y m ih =>
    simp only [minL]
    rcases List.mem_cons.1 h with rfl | h
    · omega
    · have := ih h; omega
theorem maxL_mem {l : List Int} {x : Int} (h : x ∈ l) : x ≤ maxL l := by
  induction l with
  | nil => cases h
  | cons y m ih =>
    simp only [maxL]
    rcases List.mem_cons.1 h with rfl | h
    · omega
    · have := ih h; omega
theorem minL_glb {l : List Int} {c : Int} (hc : c ≤ 1) (h : ∀ x ∈ l, c ≤ x) : c ≤ minL l := by
  induction l with
  | nil => simpa [minL] using hc
  | cons y m ih => simp only [minL]; have := h y (by simp); have := ih fun x hx => h x (by simp [hx]); omega
theorem maxL_lub {l : List Int} {c : Int} (hc : -1 ≤ c) (h : ∀ x ∈ l, x ≤ c) : maxL l ≤ c := by
  induction l with
  | nil => simpa [maxL] using hc
  | cons y m ih => simp only [maxL]; have := h y (by simp); have := ih fun x hx => h x (by simp [hx]); omega
theorem minL_same {l m : List Int} (h1 : ∀ x ∈ l, minL m ≤ x) (h2 : ∀ x ∈ m, minL l ≤ x) : minL l = minL m := by
  have := minL_glb (minL_le l) h2
  have := minL_glb (minL_le m) h1
  omega
theorem maxL_same {l m : List Int} (h1 : ∀ x ∈ l, x ≤ maxL m) (h2 : ∀ x ∈ m, x ≤ maxL l) : maxL l = maxL m := by
  have := maxL_lub (maxL_ge l) h2
  have := maxL_lub (maxL_ge m) h1
  omega
structure Sem (E : Fm → Int) : Prop where
  lo : ∀ f, Wf f → -1 ≤ E f
  hi : ∀ f, Wf f → E f ≤ 1
  and : ∀ l, (∀ f ∈ l, Wf f) → E (.mk 3 0 0 0 l) = minL (l.map E)
  or : ∀ l, (∀ f ∈ l, Wf f) → E (.mk 4 0 0 0 l) = maxL (l.map E)
  not : ∀ f, Wf f → E (.mk 2 0 0 0 [f]) = - E f
theorem Sem.tt {E : Fm → Int} (h : Sem E) : E (constF true) = 1 := h.and [] (by simp)
theorem Sem.ff {E : Fm → Int} (h : Sem E) : E (constF false) = -1 := h.or [] (by simp)
theorem rGo_and {E : Fm → Int} (h : Sem E) : ∀ flat out : List Fm, (∀ f ∈ flat, Wf f) → (∀ f ∈ out, Wf f) → E (rGo 3 flat out) = min (minL (out.map E)) (minL (flat.map E))
  | [], out, _, ho => by
    unfold rGo finR
    have := minL_le (out.map E)
    split
    · have := h.hi _ (ho _ (List.mem_singleton_self _))
      simp only [List.map_cons, List.map_nil, minL]; omega
    · rw [h.and _ ho, List.map_nil]
      simp only [minL]; omega
  | f :: flat, out, hf, ho => by
    unfold rGo
    have hout : -1 ≤ minL (out.map E) := minL_ge fun x hx => by
      obtain ⟨g, hg, rfl⟩ := List.mem_map.1 hx
      exact h.lo g (ho g hg)
    have hfl : -1 ≤ minL (flat.map E) := minL_ge fun x hx => by
      obtain ⟨g, hg, rfl⟩ := List.mem_map.1 hx
      exact h.lo g (hf g (by simp [hg]))
    split
    · rename_i hop
      have := wf_opp (.inl rfl) (hf f (by simp)) hop
      have e : E f = -1 := by rw [this]; exact h.ff
      simp only [List.map_cons, minL]
      omega
    · rw [rGo_and h flat (addR out f) (fun g hg => hf g (by simp [hg])) (fun g hg => by
        rcases addR_mem.1 hg with hg | rfl
        · exact ho g hg
        · exact hf _ (by simp))]
      have e : minL ((addR out f).map E) = min (minL (out.map E)) (E f) := by
        have : minL ((addR out f).map E) = minL ((f :: out).map E) := by
          refine minL_same (fun x hx => ?_) fun x hx => ?_
          · obtain ⟨g, hg, rfl⟩ := List.mem_map.1 hx
            refine minL_mem (List.mem_map.2 ⟨g, ?_, rfl⟩)
            rcases addR_mem.1 hg with hg | rfl
            · simp [hg]
            · simp
          · obtain ⟨g, hg, rfl⟩ := List.mem_map.1 hx
            refine minL_mem (List.mem_map.2 ⟨g, ?_, rfl⟩)
            rw [addR_mem]
            rcases List.mem_cons.1 hg with rfl | hg
            · exact .inr rfl
            · exact .inl hg
        rw [this]
        simp only [List.map_cons, minL]
        omega
      rw [e]
      simp only [List.map_cons, minL]
      omega
theorem rGo_or {E : Fm → Int} (h : Sem E) : ∀ flat out : List Fm, (∀ f ∈ flat, Wf f) → (∀ f ∈ out, Wf f) → E (rGo 4 flat out) = max (maxL (out.map E)) (maxL (flat.map E))
  | [], out, _, ho => by
    unfold rGo finR
    have := maxL_ge (out.map E)
    split
    · have := h.lo _ (ho _ (List.mem_singleton_self _))
      simp only [List.map_cons, List.map_nil, maxL]; omega
    · rw [h.or _ ho, List.map_nil]
      simp only [maxL]; omega
  | f :: flat, out, hf, ho => by
    unfold rGo
    have hout : maxL (out.map E) ≤ 1 := maxL_le fun x hx => by
      obtain ⟨g, hg, rfl⟩ := List.mem_map.1 hx
      exact h.hi g (ho g hg)
    have hfl : maxL (flat.map E) ≤ 1 := maxL_le fun x hx => by
      obtain ⟨g, hg, rfl⟩ := List.mem_map.1 hx
      exact h.hi g (hf g (by simp [hg]))
    split
    · rename_i hop
      have := wf_opp (.inr rfl) (hf f (by simp)) hop
      have e : E f = 1 := by rw [this]; exact h.tt
      simp only [List.map_cons, maxL]
      omega
    · rw [rGo_or h flat (addR out f) (fun g hg => hf g (by simp [hg])) (fun g hg => by
        rcases addR_mem.1 hg with hg | rfl
        · exact ho g hg
        · exact hf _ (by simp))]
      have e : maxL ((addR out f).map E) = max (maxL (out.map E)) (E f) := by
        have : maxL ((addR out f).map E) = maxL ((f :: out).map E) := by
          refine maxL_same (fun x hx => ?_) fun x hx => ?_
          · obtain ⟨g, hg, rfl⟩ := List.mem_map.1 hx
            refine maxL_mem (List.mem_map.2 ⟨g, ?_, rfl⟩)
            rcases addR_mem.1 hg with hg | rfl
            · simp [hg]
            · simp
          · obtain ⟨g, hg, rfl⟩ := List.mem_map.1 hx
            refine maxL_mem (List.mem_map.2 ⟨g, ?_, rfl⟩)
            rw [addR_mem]
            rcases List.mem_cons.1 hg with rfl | hg
            · exact .inr rfl
            · exact .inl hg
        rw [this]
        simp only [List.map_cons, maxL]
        omega
      rw [e]
      simp only [List.map_cons, maxL]
      omega
theorem wf_and_kids {f : Fm} {k : Int} (hk : k = 3 ∨ k = 4) (h : Wf f) (h3 : f.k = k) : ∃ l, f = .mk k 0 0 0 l ∧ ∀ g ∈ l, Wf g := by
  cases h with
  | var => simp [Fm.k] at h3; omega
  | un hk => simp [Fm.k] at h3; omega
  | til => simp [Fm.k] at h3; omega
  | jn _ h =>
    simp only [Fm.k] at h3
    subst h3
    exact ⟨_, rfl, h⟩
theorem Sem.join3 {E : Fm → Int} (h : Sem E) {l : List Fm} (hw : ∀ f ∈ l, Wf f) : E (rjoinF 3 l) = minL (l.map E) := by
  unfold rjoinF
  rw [rGo_and h _ _ (wf_flat hw) (by simp)]
  have e : minL ((flatJ 3 l).map E) = minL (l.map E) := by
    induction l with
    | nil => rfl
    | cons f l ih =>
      rw [show flatJ 3 (f :: l) = partsF 3 f ++ flatJ 3 l from by unfold flatJ; rw [List.flatMap_cons], List.map_append, minL_app, ih fun g hg => hw g (by simp [hg])]
      · rw [List.map_cons]
        show _ = min (E f) (minL (l.map E))
        congr 1
        unfold partsF
        split
        · rename_i hk
          obtain ⟨m, rfl, hm⟩ := wf_and_kids (.inl rfl) (hw f (by simp)) hk
          rw [h.and m hm]
          rfl
        · have := h.hi f (hw f (by simp))
          simp only [List.map_cons, List.map_nil, minL]
          omega
      · intro x hx
        obtain ⟨g, hg, rfl⟩ := List.mem_map.1 hx
        exact h.hi g (wf_parts (hw f (by simp)) g hg)
  rw [e]
  have := minL_le (l.map E)
  simp only [List.map_nil, minL]
  omega
theorem maxL_app (l m : List Int) (hm : ∀ x ∈ l, -1 ≤ x) : maxL (l ++ m) = max (maxL l) (maxL m) := by
  induction l with
  | nil =>
    have := maxL_ge m
    simp only [List.nil_append, maxL]
    omega
  | cons x l ih =>
    have := ih fun y hy => hm y (by simp [hy])
    simp only [List.cons_append, maxL]
    omega
theorem Sem.join4 {E : Fm → Int} (h : Sem E) {l : List Fm} (hw : ∀ f ∈ l, Wf f) : E (rjoinF 4 l) = maxL (l.map E) := by
  unfold rjoinF
  rw [rGo_or h _ _ (wf_flat hw) (by simp)]
  have e : maxL ((flatJ 4 l).map E) = maxL (l.map E) := by
    induction l with
    | nil => rfl
    | cons f l ih =>
      rw [show flatJ 4 (f :: l) = partsF 4 f ++ flatJ 4 l from by unfold flatJ; rw [List.flatMap_cons], List.map_append, maxL_app, ih fun g hg => hw g (by simp [hg])]
      · rw [List.map_cons]
        show _ = max (E f) (maxL (l.map E))
        congr 1
        unfold partsF
        split
        · rename_i hk
          obtain ⟨m, rfl, hm⟩ := wf_and_kids (.inr rfl) (hw f (by simp)) hk
          rw [h.or m hm]
          rfl
        · have := h.lo f (hw f (by simp))
          simp only [List.map_cons, List.map_nil, maxL]
          omega
      · intro x hx
        obtain ⟨g, hg, rfl⟩ := List.mem_map.1 hx
        exact h.lo g (wf_parts (hw f (by simp)) g hg)
  rw [e]
  have := maxL_ge (l.map E)
  simp only [List.map_nil, maxL]
  omega
theorem Sem.neg {E : Fm → Int} (h : Sem E) {f : Fm} (hw : Wf f) : E (notF f) = - E f := by
  unfold notF
  split
  · rename_i hc
    rcases (isC_iff hw).1 hc with rfl | rfl
    · show E (constF false) = - E (constF true)
      rw [h.ff, h.tt]
    · show E (constF true) = - E (constF false)
      rw [h.ff, h.tt]
      rfl
  · split
    · rename_i h2
      cases hw with
      | var => simp [Fm.kids] at h2
      | un hk hx =>
        simp only [Fm.k] at h2
        rw [h2.1, h.not _ hx]
        simp [Fm.kids, g0]
      | til => simp [Fm.k] at h2
      | jn hk => simp [Fm.k] at h2; omega
    · exact h.not f hw
structure Stp (v : List Int) (E E' : Fm → Int) : Prop where
  var : ∀ a b n, E (.mk 1 a b n []) = if cmpV b (atV v a) n = true then 1 else -1
  nx : ∀ f, E (.mk 5 0 0 0 [f]) = E' f
  alw : ∀ f, E (.mk 7 0 0 0 [f]) = min (E f) (E' (.mk 7 0 0 0 [f]))
  ev : ∀ f, E (.mk 8 0 0 0 [f]) = max (E f) (E' (.mk 8 0 0 0 [f]))
  til : ∀ f g, E (.mk 6 0 0 0 [f, g]) = max (E g) (min (E f) (E' (.mk 6 0 0 0 [f, g])))
theorem Sem.two3 {E : Fm → Int} (h : Sem E) {f g : Fm} (w1 : Wf f) (w2 : Wf g) : E (.mk 3 0 0 0 [f, g]) = min (E f) (E g) := by
  rw [h.and [f, g] (wf_kids (wf_two (.inl rfl) w1 w2))]
  have := h.hi g w2
  simp only [List.map_cons, List.map_nil, minL]
  omega
theorem Sem.two4 {E : Fm → Int} (h : Sem E) {f g : Fm} (w1 : Wf f) (w2 : Wf g) : E (.mk 4 0 0 0 [f, g]) = max (E f) (E g) := by
  rw [h.or [f, g] (wf_kids (wf_two (.inr rfl) w1 w2))]
  have := h.lo g w2
  simp only [List.map_cons, List.map_nil, maxL]
  omega
theorem stp_eq {v : List Int} {E E' : Fm → Int} (h : Sem E) (h' : Sem E') (hs : Stp v E E') {f : Fm} (hw : Wf f) : E' (stF v f) = E f := by
  induction hw with
  | var h1 h2 h3 =>
    rw [st_var, hs.var]
    split
    · rename_i h; rw [h, h'.tt]
    · rename_i h; rw [Bool.not_eq_true] at h; rw [h, h'.ff]
  | un hk hw ih =>
    rename_i k f
    rcases hk with rfl | rfl | rfl | rfl
    · rw [st_not, h'.not _ (wf_st v hw), h.not _ hw, ih]
    · rw [st_next, hs.nx]
    · rw [st_alw, h'.two3 (wf_st v hw) (.un (by simp) hw), hs.alw, ih]
    · rw [st_ev, h'.two4 (wf_st v hw) (.un (by simp) hw), hs.ev, ih]
  | til w1 w2 ih1 ih2 =>
    rw [st_til, h'.two4 (wf_st v w2) (wf_two (.inl rfl) (wf_st v w1) (.til w1 w2)), h'.two3 (wf_st v w1) (.til w1 w2), hs.til, ih1, ih2]
  | jn hk hw ih =>
    rename_i k l
    have hw' : ∀ f ∈ l.map (stF v), Wf f := fun f hf => by
      obtain ⟨g, hg, rfl⟩ := List.mem_map.1 hf
      exact wf_st v (hw g hg)
    have e : (l.map (stF v)).map E' = l.map E := by
      rw [List.map_map]
      exact List.map_congr_left fun f hf => ih f hf
    rw [st_jn hk]
    rcases hk with rfl | rfl
    · rw [h'.and _ hw', h.and _ hw, e]
    · rw [h'.or _ hw', h.or _ hw, e]
inductive Nf : Fm → Prop
  | var {a b n : Int} : 0 ≤ a → 0 ≤ b → b ≤ 2 → Nf (.mk 1 a b n [])
  | not {f : Fm} : Nf f → isC f = false → f.k ≠ 2 → Nf (.mk 2 0 0 0 [f])
  | un {k : Int} {f : Fm} : k = 5 ∨ k = 7 ∨ k = 8 → Nf f → isC f = false → Nf (.mk k 0 0 0 [f])
  | til {f g : Fm} : Nf f → Nf g → isC g = false → f ≠ constF false → Nf (.mk 6 0 0 0 [f, g])
  | jn {k : Int} {l : List Fm} : k = 3 ∨ k = 4 → l.length ≠ 1 → (∀ f, f ∈ l → Nf f) → (∀ f, f ∈ l → f.k ≠ k ∧ isC f = false) → l.Nodup → Nf (.mk k 0 0 0 l)
theorem nf_wf {f : Fm} (h : Nf f) : Wf f := by
  induction h with
  | var h1 h2 h3 => exact .var h1 h2 h3
  | not _ _ _ ih => exact .un (.inl rfl) ih
  | un hk _ _ ih => exact .un (.inr hk) ih
  | til _ _ _ _ ih1 ih2 => exact .til ih1 ih2
  | jn hk _ _ _ _ ih => exact .jn hk ih
theorem nf_const (b : Bool) : Nf (constF b) := by
  unfold constF
  cases b
  · exact .jn (.inr rfl) (by simp) (by simp) (by simp) (by simp)
  · exact .jn (.inl rfl) (by simp) (by simp) (by simp) (by simp)
theorem nf_parts {kind : Int} (hk : kind = 3 ∨ kind = 4) {f : Fm} (h : Nf f) : ∀ g ∈ partsF kind f, Nf g ∧ g.k ≠ kind ∧ (isC g = false ∨ g = absF kind) := by
  unfold partsF
  split
  · rename_i h3
    cases h with
    | var => simp [Fm.kids]
    | not => simp [Fm.k] at h3; omega
    | un hk => simp [Fm.k] at h3; omega
    | til => simp [Fm.k] at h3; omega
    | jn hk h1 h2 h4 h5 =>
      simp only [Fm.k] at h3
      subst h3
      intro g hg
      exact ⟨h2 g hg, (h4 g hg).1, .inl (h4 g hg).2⟩
  · rename_i h3
    intro g hg
    rw [List.mem_singleton.1 hg]
    refine ⟨h, h3, ?_⟩
    cases hc : isC f with
    | false => exact .inl rfl
    | true =>
      right
      rcases (isC_iff (nf_wf h)).1 hc with rfl | rfl
      · rcases hk with rfl | rfl
        · exact absurd rfl h3
        · rfl
      · rcases hk with rfl | rfl
        · rfl
        · exact absurd rfl h3
theorem add_nodup {out : List Fm} (h : out.Nodup) (f : Fm) : (addR out f).Nodup := by
  unfold addR
  split
  · exact h
  · rename_i hn
    rw [any_iff] at hn
    rw [List.nodup_append]
    refine ⟨h, by simp, fun a ha b hb => ?_⟩
    rw [List.mem_singleton.1 hb]
    rintro rfl
    exact hn ha
theorem rGo_nf {kind : Int} (hk : kind = 3 ∨ kind = 4) : ∀ flat out : List Fm, (∀ g ∈ flat, Nf g ∧ g.k ≠ kind ∧ (isC g = false ∨ g = absF kind)) → (∀ g ∈ out, Nf g ∧ g.k ≠ kind ∧ isC g = false) → out.Nodup → Nf (rGo kind flat out)
  | [], out, _, ho, hd => by
    unfold rGo finR
    split
    · exact (ho _ (by simp)).1
    · rename_i hne
      exact .jn hk (fun h1 => by
        obtain ⟨x, rfl⟩ := List.length_eq_one_iff.1 h1
        exact hne x rfl) (fun f hf => (ho f hf).1) (fun f hf => (ho f hf).2) hd
  | f :: flat, out, hf, ho, hd => by
    unfold rGo
    split
    · exact (hf f (by simp)).1
    · rename_i hop
      refine rGo_nf hk flat _ (fun g hg => hf g (by simp [hg])) (fun g hg => ?_) (add_nodup hd f)
      rcases addR_mem.1 hg with hg | rfl
      · exact ho g hg
      · obtain ⟨n1, n2, n3⟩ := hf g (by simp)
        refine ⟨n1, n2, n3.resolve_right fun e => hop (e ▸ opp_abs hk)⟩
theorem nf_join {kind : Int} (hk : kind = 3 ∨ kind = 4) {l : List Fm} (h : ∀ f ∈ l, Nf f) : Nf (rjoinF kind l) := by
  unfold rjoinF
  refine rGo_nf hk _ _ (fun g hg => ?_) (by simp) (by simp)
  unfold flatJ at hg
  obtain ⟨f, hf, hg⟩ := List.mem_flatMap.1 hg
  exact nf_parts hk (h f hf) g hg
theorem nf_not {f : Fm} (h : Nf f) : Nf (notF f) := by
  unfold notF oppF
  split
  · split
    · exact nf_const false
    · exact nf_const true
  · rename_i hc
    rw [Bool.not_eq_true] at hc
    split
    · rename_i h2
      cases h with
      | var => simp [Fm.k] at h2
      | not h => simpa [g0, Fm.kids] using h
      | un hk => simp [Fm.k] at h2; omega
      | til => simp [Fm.k] at h2
      | jn hk => simp [Fm.k] at h2; omega
    · rename_i h2
      refine .not h hc fun hk => h2 ⟨hk, ?_⟩
      cases h with
      | var => simp [Fm.k] at hk
      | not h => simp [Fm.kids]
      | un hk => simp [Fm.kids]
      | til => simp [Fm.kids]
      | jn hk2 => simp [Fm.k] at hk; omega
theorem nf_s {f : Fm} (h : Wf f) : Nf (sF f) := by
  induction h with
  | var h1 h2 h3 => rw [sF_var]; exact .var h1 h2 h3
  | un hk h ih =>
    rename_i k f
    by_cases h2 : k = 2
    · subst h2; rw [sF_not]; exact nf_not ih
    · rw [sF_un (by omega)]
      split
      · exact ih
      · rename_i hc
        rw [Bool.not_eq_true] at hc
        exact .un (by omega) ih hc
  | til h1 h2 ih1 ih2 =>
    rw [sF_til]
    split
    · exact ih2
    · rename_i hc
      rw [Bool.or_eq_true, not_or, Bool.not_eq_true, eqM_iff] at hc
      exact .til ih1 ih2 hc.1 hc.2
  | jn hk h ih =>
    rw [sF_jn hk]
    refine nf_join hk fun f hf => ?_
    obtain ⟨g, hg, rfl⟩ := List.mem_map.1 hf
    exact ih g hg
theorem rGo_id {kind : Int} (hk : kind = 3 ∨ kind = 4) : ∀ flat out : List Fm, (∀ g ∈ flat, Wf g ∧ isC g = false) → (out ++ flat).Nodup → rGo kind flat out = finR kind (out ++ flat)
  | [], out, _, _ => by unfold rGo; rw [List.append_nil]
  | f :: flat, out, hf, hd => by
    unfold rGo
    have ho : ¬ oppC kind f = true := fun ho => by
      have := wf_opp hk (hf f (by simp)).1 ho
      have h2 := (hf f (by simp)).2
      rw [this] at h2
      unfold absF at h2
      rw [isC_const] at h2
      cases h2
    rw [if_neg ho]
    have e : addR out f = out ++ [f] := by
      unfold addR
      rw [if_neg]
      rw [any_iff]
      intro hm
      rw [List.nodup_append] at hd
      exact hd.2.2 f hm f (by simp) rfl
    rw [e, rGo_id hk flat (out ++ [f]) (fun g hg => hf g (by simp [hg])) (by simpa using hd)]
    simp
theorem nf_id {f : Fm} (h : Nf f) : sF f = f := by
  induction h with
  | var => rw [sF_var]
  | not h hc h2 ih =>
    rw [sF_not, ih]
    unfold notF
    rw [if_neg (by rw [hc]; simp), if_neg (fun h => h2 h.1)]
  | un hk h hc ih =>
    rw [sF_un hk, ih, if_neg (by rw [hc]; simp)]
  | til h1 h2 hc hn ih1 ih2 =>
    rw [sF_til, ih1, ih2, if_neg]
    rw [Bool.or_eq_true, not_or, Bool.not_eq_true, eqM_iff]
    exact ⟨hc, hn⟩
  | jn hk h1 h2 h4 h5 ih =>
    rename_i k l
    rw [sF_jn hk]
    have e : l.map sF = l := by
      conv => rhs; rw [← List.map_id l]
      exact List.map_congr_left fun f hf => ih f hf
    rw [e]
    unfold rjoinF
    have e2 : flatJ k l = l := by
      unfold flatJ
      conv => rhs; rw [← List.flatMap_singleton' l]
      rw [List.flatMap_def, List.flatMap_def]
      congr 1
      refine List.map_congr_left fun f hf => ?_
      unfold partsF
      rw [if_neg (h4 f hf).1]
    rw [e2, rGo_id hk l [] (fun g hg => ⟨nf_wf (h2 g hg), (h4 g hg).2⟩) (by simpa using h5), List.nil_append]
    unfold finR
    split
    · exact absurd rfl h1
    · rfl
theorem s_idem {f : Fm} (h : Wf f) : sF (sF f) = sF f := nf_id (nf_s h)
def T3 (g : Fm) : Int := if isC g = true then (if g.k = 3 then 1 else -1) else 0
theorem T3_rng (g : Fm) : -1 ≤ T3 g ∧ T3 g ≤ 1 := by
  unfold T3
  split
  · split <;> omega
  · omega
theorem T3_tt : T3 (constF true) = 1 := rfl
theorem T3_ff : T3 (constF false) = -1 := rfl
theorem T3_non {g : Fm} (h : isC g = false) : T3 g = 0 := by unfold T3; rw [if_neg (by rw [h]; simp)]
theorem T3_go {kind : Int} (hk : kind = 3 ∨ kind = 4) : ∀ flat out : List Fm, (∀ g ∈ flat, Nf g ∧ (isC g = false ∨ g = absF kind)) → (∀ g ∈ out, isC g = false) →
    T3 (rGo kind flat out) = @ite _ (absF kind ∈ flat) (Classical.propDecidable _) (T3 (absF kind)) (@ite _ (out = [] ∧ flat = []) (Classical.propDecidable _) (- T3 (absF kind)) 0)
  | [], out, _, ho => by
    unfold rGo finR
    rw [if_neg (by simp)]
    split
    · rw [T3_non (ho _ (by simp))]; simp
    · by_cases h : out = []
      · subst h
        rw [if_pos ⟨rfl, rfl⟩]
        rcases hk with rfl | rfl <;> rfl
      · rw [if_neg (fun x => h x.1)]
        refine T3_non ?_
        unfold isC
        simp [Fm.kids, h]
  | f :: flat, out, hf, ho => by
    unfold rGo
    split
    · rename_i hop
      have := wf_opp hk (nf_wf (hf f (by simp)).1) hop
      rw [if_pos (by rw [← this]; simp), this]
    · rename_i hop
      have hnf : f ≠ absF kind := fun e => hop (e ▸ opp_abs hk)
      rw [T3_go hk flat (addR out f) (fun g hg => hf g (by simp [hg])) (fun g hg => by
        rcases addR_mem.1 hg with hg | rfl
        · exact ho g hg
        · exact (hf _ (by simp)).2.resolve_right hnf)]
      have h1 : (absF kind ∈ f :: flat) ↔ absF kind ∈ flat := by simp [Ne.symm hnf]
      have h2 : ¬ (addR out f = [] ∧ flat = []) := fun h => by
        have : f ∈ addR out f := addR_mem.2 (.inr rfl)
        rw [h.1] at this
        cases this
      by_cases hm : absF kind ∈ flat
      · rw [if_pos hm, if_pos (h1.2 hm)]
      · rw [if_neg hm, if_neg (fun h => hm (h1.1 h)), if_neg h2, if_neg (by simp)]
theorem T3_min {l : List Fm} (h : ∀ f ∈ l, Nf f) : T3 (rjoinF 3 l) = minL (l.map T3) := by
  unfold rjoinF
  have hfl : ∀ g ∈ flatJ 3 l, Nf g ∧ (isC g = false ∨ g = absF 3) := fun g hg => by
    unfold flatJ at hg
    obtain ⟨f, hf, hg⟩ := List.mem_flatMap.1 hg
    have := nf_parts (.inl rfl) (h f hf) g hg
    exact ⟨this.1, this.2.2⟩
  rw [T3_go (.inl rfl) _ _ hfl (by simp)]
  have hmem : absF 3 ∈ flatJ 3 l ↔ absF 3 ∈ l := by
    unfold flatJ
    rw [List.mem_flatMap]
    constructor
    · rintro ⟨f, hf, hg⟩
      unfold partsF at hg
      split at hg
      · rename_i hk
        obtain ⟨m, rfl, hm⟩ := wf_and_kids (.inl rfl) (nf_wf (h f hf)) hk
        cases h _ hf with
        | jn _ _ _ h4 =>
          have := (h4 _ hg).2
          unfold absF at this
          rw [isC_const] at this
          cases this
        | un hk => omega
      · rw [List.mem_singleton.1 hg]; exact hf
    · intro hm
      exact ⟨_, hm, by unfold partsF absF constF; simp [Fm.k]⟩
  have hnil : flatJ 3 l = [] ↔ ∀ f ∈ l, f = constF true := by
    unfold flatJ
    rw [List.flatMap_eq_nil_iff]
    refine forall_congr' fun f => forall_congr' fun hf => ?_
    unfold partsF
    constructor
    · intro he
      split at he
      · rename_i hk
        obtain ⟨m, rfl, hm⟩ := wf_and_kids (.inl rfl) (nf_wf (h f hf)) hk
        simp only [Fm.kids] at he
        subst he
        rfl
      · cases he
    · rintro rfl
      rfl
  by_cases hm : absF 3 ∈ l
  · rw [if_pos (hmem.2 hm)]
    have h1 : minL (l.map T3) ≤ -1 := minL_mem (List.mem_map.2 ⟨_, hm, rfl⟩)
    have h2 : -1 ≤ minL (l.map T3) := minL_ge fun x hx => by
      obtain ⟨g, hg, rfl⟩ := List.mem_map.1 hx
      exact (T3_rng g).1
    show (-1 : Int) = _
    omega
  · rw [if_neg (fun h => hm (hmem.1 h))]
    have hne : ∀ f ∈ l, 0 ≤ T3 f := fun f hf => by
      unfold T3
      split
      · rename_i hc
        rcases (isC_iff (nf_wf (h f hf))).1 hc with rfl | rfl
        · decide
        · exact absurd hf hm
      · omega
    have h0 : 0 ≤ minL (l.map T3) := minL_glb (by omega) fun x hx => by
      obtain ⟨g, hg, rfl⟩ := List.mem_map.1 hx
      exact hne g hg
    by_cases hn : flatJ 3 l = []
    · rw [if_pos ⟨rfl, hn⟩]
      have := hnil.1 hn
      have : 1 ≤ minL (l.map T3) := minL_glb (by omega) fun x hx => by
        obtain ⟨g, hg, rfl⟩ := List.mem_map.1 hx
        rw [this g hg]
        decide
      have := minL_le (l.map T3)
      show (1 : Int) = _
      omega
    · rw [if_neg (fun h => hn h.2)]
      rw [hnil] at hn
      obtain ⟨f, hf, hfn⟩ : ∃ f ∈ l, f ≠ constF true := by
        refine Classical.byContradiction fun hx => hn fun f hf => Classical.byContradiction fun hy => hx ⟨f, hf, hy⟩
      have : T3 f = 0 := by
        refine T3_non ?_
        cases hc : isC f with
        | false => rfl
        | true =>
          rcases (isC_iff (nf_wf (h f hf))).1 hc with rfl | rfl
          · exact absurd rfl hfn
          · exact absurd hf hm
      have h1 : minL (l.map T3) ≤ 0 := by rw [← this]; exact minL_mem (List.mem_map.2 ⟨_, hf, rfl⟩)
      omega
theorem T3_max {l : List Fm} (h : ∀ f ∈ l, Nf f) : T3 (rjoinF 4 l) = maxL (l.map T3) := by
  unfold rjoinF
  have hfl : ∀ g ∈ flatJ 4 l, Nf g ∧ (isC g = false ∨ g = absF 4) := fun g hg => by
    unfold flatJ at hg
    obtain ⟨f, hf, hg⟩ := List.mem_flatMap.1 hg
    have := nf_parts (.inr rfl) (h f hf) g hg
    exact ⟨this.1, this.2.2⟩
  rw [T3_go (.inr rfl) _ _ hfl (by simp)]
  have hmem : absF 4 ∈ flatJ 4 l ↔ absF 4 ∈ l := by
    unfold flatJ
    rw [List.mem_flatMap]
    constructor
    · rintro ⟨f, hf, hg⟩
      unfold partsF at hg
      split at hg
      · rename_i hk
        obtain ⟨m, rfl, hm⟩ := wf_and_kids (.inr rfl) (nf_wf (h f hf)) hk
        cases h _ hf with
        | jn _ _ _ h4 =>
          have := (h4 _ hg).2
          unfold absF at this
          rw [isC_const] at this
          cases this
        | un hk => omega
      · rw [List.mem_singleton.1 hg]; exact hf
    · intro hm
      exact ⟨_, hm, by unfold partsF absF constF; simp [Fm.k]⟩
  have hnil : flatJ 4 l = [] ↔ ∀ f ∈ l, f = constF false := by
    unfold flatJ
    rw [List.flatMap_eq_nil_iff]
    refine forall_congr' fun f => forall_congr' fun hf => ?_
    unfold partsF
    constructor
    · intro he
      split at he
      · rename_i hk
        obtain ⟨m, rfl, hm⟩ := wf_and_kids (.inr rfl) (nf_wf (h f hf)) hk
        simp only [Fm.kids] at he
        subst he
        rfl
      · cases he
    · rintro rfl
      rfl
  by_cases hm : absF 4 ∈ l
  · rw [if_pos (hmem.2 hm)]
    have h1 : 1 ≤ maxL (l.map T3) := maxL_mem (List.mem_map.2 ⟨_, hm, rfl⟩)
    have h2 : maxL (l.map T3) ≤ 1 := maxL_le fun x hx => by
      obtain ⟨g, hg, rfl⟩ := List.mem_map.1 hx
      exact (T3_rng g).2
    show (1 : Int) = _
    omega
  · rw [if_neg (fun h => hm (hmem.1 h))]
    have hne : ∀ f ∈ l, T3 f ≤ 0 := fun f hf => by
      unfold T3
      split
      · rename_i hc
        rcases (isC_iff (nf_wf (h f hf))).1 hc with rfl | rfl
        · exact absurd hf hm
        · decide
      · omega
    have h0 : maxL (l.map T3) ≤ 0 := maxL_lub (by omega) fun x hx => by
      obtain ⟨g, hg, rfl⟩ := List.mem_map.1 hx
      exact hne g hg
    by_cases hn : flatJ 4 l = []
    · rw [if_pos ⟨rfl, hn⟩]
      have := hnil.1 hn
      have : maxL (l.map T3) ≤ -1 := maxL_lub (by omega) fun x hx => by
        obtain ⟨g, hg, rfl⟩ := List.mem_map.1 hx
        rw [this g hg]
        decide
      have := maxL_ge (l.map T3)
      show (-1 : Int) = _
      omega
    · rw [if_neg (fun h => hn h.2)]
      rw [hnil] at hn
      obtain ⟨f, hf, hfn⟩ : ∃ f ∈ l, f ≠ constF false := by
        refine Classical.byContradiction fun hx => hn fun f hf => Classical.byContradiction fun hy => hx ⟨f, hf, hy⟩
      have : T3 f = 0 := by
        refine T3_non ?_
        cases hc : isC f with
        | false => rfl
        | true =>
          rcases (isC_iff (nf_wf (h f hf))).1 hc with rfl | rfl
          · exact absurd hf hm
          · exact absurd rfl hfn
      have h1 : 0 ≤ maxL (l.map T3) := by rw [← this]; exact maxL_mem (List.mem_map.2 ⟨_, hf, rfl⟩)
      omega
theorem T3_not {f : Fm} (h : Nf f) : T3 (notF f) = - T3 f := by
  unfold notF
  split
  · rename_i hc
    rcases (isC_iff (nf_wf h)).1 hc with rfl | rfl <;> rfl
  · rename_i hc
    rw [Bool.not_eq_true] at hc
    rw [T3_non hc]
    split
    · rename_i h2
      cases h with
      | var => simp [Fm.k] at h2
      | not h hc2 => simpa [g0, Fm.kids] using T3_non hc2
      | un hk => simp [Fm.k] at h2; omega
      | til => simp [Fm.k] at h2
      | jn hk => simp [Fm.k] at h2; omega
    · rfl
def end3 (f : Fm) : Int := T3 (sF f)
theorem sem_end : Sem end3 where
  lo _ _ := (T3_rng _).1
  hi _ _ := (T3_rng _).2
  and l h := by
    unfold end3
    rw [sF_jn (.inl rfl), T3_min fun f hf => by
      obtain ⟨g, hg, rfl⟩ := List.mem_map.1 hf
      exact nf_s (h g hg), List.map_map]
    rfl
  or l h := by
    unfold end3
    rw [sF_jn (.inr rfl), T3_max fun f hf => by
      obtain ⟨g, hg, rfl⟩ := List.mem_map.1 hf
      exact nf_s (h g hg), List.map_map]
    rfl
  not f h := by
    unfold end3
    rw [sF_not, T3_not (nf_s h)]
end Go.Proofs.YtndflafkigldmaaGreatDoor.Vm
namespace Go.Proofs.YtndflafkigldmaaGreatDoor.Vm
open Go.RowKit Go.Shelf
set_option linter.unusedSimpArgs false
set_option linter.unusedVariables false
set_option maxRecDepth 100000
def meC (v : List Int) (nx : Fm → Int) (k a b n : Int) (l : List Fm) (P : List Int) : Int :=
  if k = 1 then (if cmpV b (atV v a) n = true then 1 else -1)
  else if k = 2 then - P.getD 0 0
  else if k = 5 then nx (g0 l)
  else if k = 7 then min (P.getD 0 0) (nx (.mk k a b n l))
  else if k = 8 then max (P.getD 0 0) (nx (.mk k a b n l))
  else if k = 6 then max (P.getD 1 0) (min (P.getD 0 0) (nx (.mk k a b n l)))
  else if k = 3 then minL P
  else maxL P
mutual
def meK (v : List Int) (nx : Fm → Int) : Fm → Int
  | .mk k a b n l => meC v nx k a b n l (meKs v nx l)
def meKs (v : List Int) (nx : Fm → Int) : List Fm → List Int
  | [] => []
  | f :: l => meK v nx f :: meKs v nx l
end
theorem meKs_map (v : List Int) (nx : Fm → Int) : ∀ l : List Fm, meKs v nx l = l.map (meK v nx)
  | [] => by unfold meKs; rfl
  | f :: l => by unfold meKs; rw [meKs_map v nx l]; rfl
theorem meK_mk (v : List Int) (nx : Fm → Int) (k a b n : Int) (l : List Fm) : meK v nx (.mk k a b n l) = meC v nx k a b n l (l.map (meK v nx)) := by
  rw [← meKs_map]
  conv => lhs; unfold meK
def meF : List (List Int) → Fm → Int
  | [] => end3
  | v :: t => meK v (meF t)
theorem stp_me (v : List Int) (nx : Fm → Int) : Stp v (meK v nx) nx where
  var a b n := by rw [meK_mk]; simp [meC]
  nx f := by rw [meK_mk]; simp [meC, g0]
  alw f := by rw [meK_mk]; simp [meC]
  ev f := by rw [meK_mk]; simp [meC]
  til f g := by rw [meK_mk]; simp [meC]
theorem sem_me (v : List Int) {nx : Fm → Int} (h : Sem nx) : Sem (meK v nx) := by
  have hb : ∀ f, Wf f → -1 ≤ meK v nx f ∧ meK v nx f ≤ 1 := fun f hw => by
    induction hw with
    | var =>
      rw [(stp_me v nx).var]
      split <;> omega
    | un hk hw ih =>
      rename_i k f
      rcases hk with rfl | rfl | rfl | rfl
      · rw [meK_mk]; simp [meC]; omega
      · rw [(stp_me v nx).nx]; exact ⟨h.lo f hw, h.hi f hw⟩
      · rw [(stp_me v nx).alw]
        have := h.lo _ (.un (k := 7) (by simp) hw)
        omega
      · rw [(stp_me v nx).ev]
        have := h.hi _ (.un (k := 8) (by simp) hw)
        omega
    | til w1 w2 ih1 ih2 =>
      rw [(stp_me v nx).til]
      have := h.hi _ (.til w1 w2)
      omega
    | jn hk hw ih =>
      rename_i k l
      rw [meK_mk]
      have a1 : ∀ x ∈ l.map (meK v nx), -1 ≤ x ∧ x ≤ 1 := fun x hx => by
        obtain ⟨g, hg, rfl⟩ := List.mem_map.1 hx
        exact ih g hg
      have := minL_ge fun x hx => (a1 x hx).1
      have := maxL_le fun x hx => (a1 x hx).2
      have := minL_le (l.map (meK v nx))
      have := maxL_ge (l.map (meK v nx))
      rcases hk with rfl | rfl
      · simp [meC]; omega
      · simp [meC]; omega
  exact ⟨fun f hw => (hb f hw).1, fun f hw => (hb f hw).2, fun l _ => by rw [meK_mk]; simp [meC], fun l _ => by rw [meK_mk]; simp [meC], fun f _ => by rw [meK_mk]; simp [meC]⟩
theorem sem_meF : ∀ t, Sem (meF t)
  | [] => sem_end
  | v :: t => sem_me v (sem_meF t)
theorem cst_eq {E E' : Fm → Int} (h : Sem E) (h' : Sem E') {f : Fm} (hw : Wf f) (hc : isC f = true) : E f = E' f := by
  rcases (isC_iff hw).1 hc with rfl | rfl
  · rw [h.tt, h'.tt]
  · rw [h.ff, h'.ff]
theorem me_s : ∀ (t : List (List Int)) {f : Fm}, Wf f → meF t (sF f) = meF t f
  | [], f, hw => by
    show end3 (sF f) = end3 f
    unfold end3
    rw [s_idem hw]
  | v :: t, f, hw => by
    have hS := sem_meF (v :: t)
    have hS' := sem_meF t
    have hst : Stp v (meF (v :: t)) (meF t) := stp_me v (meF t)
    induction hw with
    | var => rw [sF_var]
    | un hk hw ih =>
      rename_i k f
      have hws := wf_s hw
      rcases hk with rfl | rfl | rfl | rfl
      · rw [sF_not, hS.neg hws, ih, hS.not f hw]
      · rw [sF_un (by simp), hst.nx, ← me_s t hw]
        split
        · rename_i hc
          exact cst_eq hS hS' hws hc
        · rw [hst.nx]
      · have hn := me_s t (f := .mk 7 0 0 0 [f]) (.un (by simp) hw)
        rw [hst.alw, ← hn, sF_un (by simp), ← ih]
        split
        · rename_i hc
          have := cst_eq hS hS' hws hc
          omega
        · rw [hst.alw]
      · have hn := me_s t (f := .mk 8 0 0 0 [f]) (.un (by simp) hw)
        rw [hst.ev, ← hn, sF_un (by simp), ← ih]
        split
        · rename_i hc
          have := cst_eq hS hS' hws hc
          omega
        · rw [hst.ev]
    | til w1 w2 ih1 ih2 =>
      rename_i f g
      have hn := me_s t (f := .mk 6 0 0 0 [f, g]) (.til w1 w2)
      have hwg := wf_s w2
      rw [hst.til, ← hn, sF_til, ← ih1, ← ih2]
      split
      · rename_i hc
        rw [Bool.or_eq_true, eqM_iff] at hc
        have b1 := hS.lo _ (wf_s w1)
        have b2 := hS.hi _ (wf_s w1)
        have b3 := hS.lo _ hwg
        have b4 := hS'.lo _ hwg
        rcases hc with hc | hc
        · have := cst_eq hS hS' hwg hc
          omega
        · rw [hc, hS.ff]
          omega
      · rw [hst.til]
    | jn hk hw ih =>
      rename_i k l
      have hw' : ∀ f ∈ l.map sF, Wf f := wf_mapS hw
      have e : (l.map sF).map (meF (v :: t)) = l.map (meF (v :: t)) := by
        rw [List.map_map]
        exact List.map_congr_left fun f hf => ih f hf
      rw [sF_jn hk]
      rcases hk with rfl | rfl
      · rw [hS.join3 hw', hS.and _ hw, e]
      · rw [hS.join4 hw', hS.or _ hw, e]
theorem me_st (v : List Int) (t : List (List Int)) {f : Fm} (hw : Wf f) : meF t (stF v f) = meF (v :: t) f :=
  stp_eq (sem_meF (v :: t)) (sem_meF t) (stp_me v (meF t)) hw
theorem me_pro (v : List Int) (t : List (List Int)) {f : Fm} (hw : Wf f) : meF t (proF v f) = meF (v :: t) f := by
  rw [pro_same v f hw, me_s t (wf_st v hw), me_st v t hw]
theorem wf_pro (v : List Int) {f : Fm} (hw : Wf f) : Wf (proF v f) := by rw [pro_same v f hw]; exact wf_s (wf_st v hw)
theorem nf_pro (v : List Int) {f : Fm} (hw : Wf f) : Nf (proF v f) := by rw [pro_same v f hw]; exact nf_s (wf_st v hw)
def cls3 (x : Int) : Int := if x = 1 then 0 else if x = -1 then 13 else 14
theorem run_cls : ∀ (t : List (List Int)) (f : Fm) (i : Int), Nf f → (verF (runF f i t)).cls = cls3 (meF t f)
  | [], f, i, hn => by
    rw [runF, show meF [] f = T3 (sF f) from rfl, nf_id hn]
    unfold verF
    split
    · rename_i hc
      rcases (isC_iff (nf_wf hn)).1 hc with rfl | rfl <;> rfl
    · rename_i hc
      rw [Bool.not_eq_true] at hc
      rw [T3_non hc]
      rfl
  | v :: t, f, i, hn => by
    rw [runF]
    split
    · rename_i hc
      have hm := sem_meF (v :: t)
      rcases (isC_iff (nf_wf hn)).1 hc with rfl | rfl
      · rw [hm.tt]; rfl
      · rw [hm.ff]; rfl
    · rw [run_cls t _ _ (nf_pro v (nf_wf hn)), me_pro v t (nf_wf hn)]
theorem chk_cls (f : Fm) (t : List (List Int)) (hw : Wf f) : (chkF f t).cls = cls3 (meF t f) := by
  unfold chkF
  rw [sim_same f hw, run_cls t _ _ (nf_s hw), me_s t hw]
theorem run_same : ∀ (t : List (List Int)) (f : Fm) (i : Int), Wf f → rrunF f i t = runF f i t
  | [], f, i, _ => rfl
  | v :: t, f, i, hw => by
    rw [rrunF, runF]
    split
    · rfl
    · rw [run_same t _ _ (wf_s (wf_st v hw)), pro_same v f hw]
theorem wf_run : ∀ (t : List (List Int)) (f : Fm) (i : Int), Wf f → Wf (runF f i t).1
  | [], f, i, h => h
  | v :: t, f, i, h => by
    rw [runF]
    split
    · exact h
    · exact wf_run t _ _ (wf_pro v h)
theorem chk_same (f : Fm) (t : List (List Int)) (hw : Wf f) : rchkF f t = chkF f t := by
  unfold rchkF chkF
  rw [sim_same f hw, run_same t _ _ (wf_s hw)]
  have hW := wf_run t (sF f) (-1) (wf_s hw)
  unfold verR verF
  by_cases hc : isC (runF (sF f) (-1) t).1 = true
  · rw [if_pos hc, if_pos hc]
    rcases (isC_iff hW).1 hc with h | h
    · rw [h]; rfl
    · rw [h]; rfl
  · rw [if_neg hc, if_neg hc]
theorem fitR_gd : ∀ (t : List (List Int)) (f : Fm) (N : Nat), Gd N f → N * 5 ^ t.length ≤ 100000000000 → FitR f t
  | [], f, N, _, _ => by unfold FitR; trivial
  | v :: t, f, N, h, hN => by
    unfold FitR
    right
    rw [List.length_cons, Nat.pow_succ] at hN
    have hp : 1 ≤ 5 ^ t.length := Nat.pos_of_ne_zero (by simp)
    have h1 : N * 1 ≤ N * (5 ^ t.length * 5) := Nat.mul_le_mul_left N (by omega)
    refine ⟨fitP_gd (by omega) v f h, fitR_gd t _ (5 * N) (h.pro v) ?_⟩
    rw [show 5 * N * 5 ^ t.length = N * (5 ^ t.length * 5) by rw [Nat.mul_comm 5 N, Nat.mul_assoc, Nat.mul_comm 5]]
    exact hN
theorem fitQ_gd : ∀ (t : List (List Int)) (f : Fm) (N : Nat), Gd N f → N * 5 ^ t.length ≤ 100000000000 → FitQ f t
  | [], f, N, _, _ => by unfold FitQ; trivial
  | v :: t, f, N, h, hN => by
    unfold FitQ
    right
    rw [List.length_cons, Nat.pow_succ] at hN
    have hp : 1 ≤ 5 ^ t.length := Nat.pos_of_ne_zero (by simp)
    have h1 : N * 1 ≤ N * (5 ^ t.length * 5) := Nat.mul_le_mul_left N (by omega)
    refine ⟨fitU_gd (by omega) f h, fitT_gd (N := 5 * N) (by omega) _ (h.st v), fitQ_gd t _ (5 * N) (h.st v).s ?_⟩
    rw [show 5 * N * 5 ^ t.length = N * (5 ^ t.length * 5) by rw [Nat.mul_comm 5 N, Nat.mul_assoc, Nat.mul_comm 5]]
    exact hN
def foldP : Fm → List (List Int) → Fm
  | f, [] => f
  | f, v :: t => foldP (proF v f) t
theorem foldP_app : ∀ (t u : List (List Int)) (f : Fm), foldP f (t ++ u) = foldP (foldP f t) u
  | [], u, f => rfl
  | v :: t, u, f => by rw [List.cons_append, foldP, foldP, foldP_app]
theorem gd_fold : ∀ (t : List (List Int)) (f : Fm) (N : Nat), Gd N f → Gd (N * 5 ^ t.length) (foldP f t)
  | [], f, N, h => by simpa [foldP] using h
  | v :: t, f, N, h => by
    rw [foldP, List.length_cons, Nat.pow_succ]
    have := gd_fold t _ (5 * N) (h.pro v)
    rwa [show 5 * N * 5 ^ t.length = N * (5 ^ t.length * 5) by rw [Nat.mul_comm 5 N, Nat.mul_assoc, Nat.mul_comm 5]] at this
theorem wf_fold : ∀ (t : List (List Int)) {f : Fm}, Wf f → Wf (foldP f t)
  | [], f, h => h
  | v :: t, f, h => wf_fold t (wf_pro v h)
theorem me_fold : ∀ (t u : List (List Int)) {f : Fm}, Wf f → meF u (foldP f t) = meF (t ++ u) f
  | [], u, f, _ => rfl
  | v :: t, u, f, h => by
    rw [foldP, me_fold t u (wf_pro v h), List.cons_append, me_pro v _ h]
theorem split_cls (f : Fm) (t u : List (List Int)) (hw : Wf f) : (chkF (foldP f t) u).cls = (chkF f (t ++ u)).cls := by
  rw [chk_cls _ _ (wf_fold t hw), chk_cls _ _ hw, me_fold t u hw]
theorem run_app : ∀ (t u : List (List Int)) (f : Fm) (i : Int), isC (runF f i t).1 = true → runF f i (t ++ u) = runF f i t
  | [], u, f, i, h => by
    rw [runF] at h
    cases u with
    | nil => rfl
    | cons v u => rw [List.nil_append, runF, runF, if_pos h]
  | v :: t, u, f, i, h => by
    rw [List.cons_append]
    rw [runF] at h ⊢
    conv => rhs; rw [runF]
    split
    · rfl
    · rename_i hc
      rw [if_neg hc] at h
      exact run_app t u _ _ h
theorem run_pos : ∀ (t : List (List Int)) (f : Fm) (i : Int), i ≤ (runF f i t).2 ∧ (runF f i t).2 ≤ i + t.length
  | [], f, i => by rw [runF]; simp
  | v :: t, f, i => by
    rw [runF]
    split
    · simp; omega
    · have := run_pos t (proF v f) (i + 1)
      rw [List.length_cons]
      omega
theorem run_first : ∀ (t : List (List Int)) (f : Fm) (i : Int) (m : Nat), i + m < (runF f i t).2 → isC (runF f i (t.take m)).1 = false
  | [], f, i, m, h => by rw [runF] at h; simp at h; omega
  | v :: t, f, i, 0, h => by
    rw [List.take_zero, runF]
    rw [runF] at h
    split at h
    · simp at h
    · rename_i hc
      rwa [Bool.not_eq_true] at hc
  | v :: t, f, i, m + 1, h => by
    rw [List.take_succ_cons, runF]
    rw [runF] at h
    split at h
    · simp at h; omega
    · rename_i hc
      rw [if_neg hc]
      exact run_first t (proF v f) (i + 1) m (by omega)
structure StableAt (f : Fm) (t : List (List Int)) (k : Nat) : Prop where
  cls : (chkF f (t.take k)).cls = 0 ∨ (chkF f (t.take k)).cls = 13 ∨ ((chkF f (t.take k)).cls = 14 ∧ (chkF f (t.take k)).at' = none)
  all : (chkF f (t.take k)).cls ≠ 14 → chkF f (t.take k) = chkF f t ∧ ∃ x, (chkF f (t.take k)).at' = some x ∧ -1 ≤ x ∧ x < k ∧ (0 ≤ x → (chkF f (t.take x.toNat)).cls = 14)
theorem ver_none {r : Fm × Int} (h : isC r.1 = false) : verF r = ⟨14, none⟩ := by
  unfold verF
  rw [if_neg (by rw [h]; simp)]
theorem stable (f : Fm) (t : List (List Int)) (k : Nat) (hk : k ≤ t.length) (hw : Wf f) : StableAt f t k := by
  have hW := wf_run (t.take k) (sF f) (-1) (wf_s hw)
  have hpos := run_pos (t.take k) (sF f) (-1)
  rw [List.length_take, Nat.min_eq_left hk] at hpos
  have hfirst := run_first (t.take k) (sF f) (-1)
  have happ := run_app (t.take k) (t.drop k) (sF f) (-1)
  rw [List.take_append_drop] at happ
  unfold chkF at *
  cases hc : isC (runF (sF f) (-1) (t.take k)).1 with
  | true =>
    have happ := happ hc
    have hex : verF (runF (sF f) (-1) (t.take k)) = ⟨if (runF (sF f) (-1) (t.take k)).1.k = 3 then 0 else 13, some (runF (sF f) (-1) (t.take k)).2⟩ := by
      conv => lhs; unfold verF
      rw [if_pos hc]
    refine ⟨?_, fun _ => ⟨?_, _, ?_, hpos.1, by omega, fun h0 => ?_⟩⟩
    · unfold chkF
      rw [sim_same f hw, hex]
      simp only
      split <;> simp
    · unfold chkF
      rw [sim_same f hw, happ]
    · unfold chkF
      rw [sim_same f hw, hex]
    · unfold chkF
      rw [sim_same f hw]
      generalize (runF (sF f) (-1) (t.take k)).2 = x at *
      have h1 := hfirst x.toNat (by omega)
      rw [List.take_take, Nat.min_eq_left (by omega)] at h1
      rw [ver_none h1]
  | false =>
    refine ⟨.inr (.inr ?_), fun hn => absurd ?_ hn⟩
    · unfold chkF
      rw [sim_same f hw, ver_none hc]
      exact ⟨rfl, rfl⟩
    · unfold chkF
      rw [sim_same f hw, ver_none hc]
end Go.Proofs.YtndflafkigldmaaGreatDoor.Vm
namespace Go.Proofs.YtndflafkigldmaaGreatDoor.Vm
open Go.RowKit Go.Shelf
set_option linter.unusedSimpArgs false
set_option linter.unusedVariables false
set_option maxRecDepth 100000
set_option maxHeartbeats 1000000 in
theorem chain_spec {lv : Int} {low : Option Pr} (hlo : LowOk lv low) (hgu : Goes (unG low)) : PSpec 60 lv (chG (unG low) low) := by
  intro ts h
  have hun := unary_spec hlo ts h
  obtain ⟨hlv, hlo⟩ := hlo
  obtain ⟨P, hP⟩ : ∃ P, chG (unG low) low ts = P := ⟨_, rfl⟩
  rw [hP]
  refine specP_of (cx_okP ord60 (fun _ => [0]) 1 (fun ch _ => (pnP P) ch)) (fun _ _ h => h) Tryz.func60 rfl (by kernel_rfl) rfl (by kernel_rfl) ?_
  intro _
  unfold chG at hP
  conv => whnf
  refine callP1 0 [] rfl rfl rfl rfl (fun _ => hun) (fun ch bx' hp => ?_) ?_
  · obtain ⟨x, e, he, hc⟩ := pnP_bad hp
    rw [he] at hP
    exact pnP_mk hP.symm hc
  rintro o r hpo
  obtain ⟨f, r1, he, ho, rfl⟩ := poP_ok hpo
  cases ho
  rw [he] at hP
  simp only at hP
  obtain ⟨g1, g2⟩ := hgu _ _ _ h he
  have hti := fun (hk : isT kUntil r1 = true) => g1.is hk
  have hopen := fun l => open_spec r1 g1.1.pos l
  conv => whnf
  refine call1 0 [] rfl rfl rfl rfl (fun _ => is_spec r1 g1.1.pos kUntil) ?_
  rintro o r ⟨ho, rfl⟩
  cases ho
  cases hR : isT kUntil r1 with
  | false =>
    rw [hR, if_neg (by simp)] at hP
    conv => whnf
    subst hP
    exact ⟨rfl, rfl⟩
  | true =>
    rw [hR, if_pos rfl] at hP
    conv => whnf
    (refine goA ?_; try with_reducible exact trivial)
    rcases hlo with ⟨rfl, rfl⟩ | ⟨p, rfl, hle, gu, gc, gf, su, sc, sf⟩
    · simp only at hP
      refine callP1 0 [] rfl rfl rfl rfl (fun _ => hopen _) (fun ch bx' hp => pnP_mk hP.symm hp.2) ?_
      rintro o r ⟨hbad, _⟩
      omega
    · simp only at hP
      refine callP1 0 [] rfl rfl rfl rfl (fun _ => hopen _) (fun ch bx' hp => absurd hp.1 (by omega)) ?_
      rintro o r ⟨_, ho, rfl⟩
      cases ho
      obtain ⟨q1, q2⟩ := hti hR
      generalize r1.tail = ts1 at *
      conv => whnf
      (refine goA ?_; try with_reducible exact trivial)
      refine callP1 0 [] rfl rfl rfl rfl (fun _ => sc ts1 q1) (fun ch bx' hp => ?_) ?_
      · obtain ⟨x, e, he, hc⟩ := pnP_bad hp
        rw [he] at hP
        exact pnP_mk hP.symm hc
      rintro o r hpo
      obtain ⟨f2, r2, he2, ho, rfl⟩ := poP_ok hpo
      cases ho
      rw [he2] at hP
      simp only at hP
      subst hP
      conv => whnf
      exact ⟨rfl, by rw [fmA_two]; rfl⟩
theorem conj_spec {lv : Int} {op : List Tk → Ps} (hgo : Goes op) (hop : PSpec 60 lv op) : PSpec 33 lv (liF op 3 kAnd) := by
  intro ts h
  have hls := list_spec op 3 kAnd lv 60 hgo hop ts h
  generalize liF op 3 kAnd ts = P at *
  refine specP_of (cx_okP ord0 xs0 1 (fun ch _ => (pnP P) ch)) (fun _ _ h => h) Tryz.func33 rfl (by kernel_rfl) rfl (by kernel_rfl) ?_
  intro _
  conv => whnf
  refine callP1 0 [] rfl rfl rfl rfl (fun _ => hls) (fun ch bx' hp => hp) ?_
  rintro o r hpo
  obtain ⟨f, r1, rfl, ho, rfl⟩ := poP_ok hpo
  cases ho
  conv => whnf
  exact ⟨rfl, rfl⟩
theorem form_spec {lv : Int} {op : List Tk → Ps} (hgo : Goes op) (hop : PSpec 60 lv op) : PSpec 16 lv (foG op) := by
  intro ts h
  have hls := list_spec (liF op 3 kAnd) 4 kOr lv 33 (li_goes hgo) (conj_spec hgo hop) ts h
  unfold foG
  generalize liF (liF op 3 kAnd) 4 kOr ts = P at *
  refine specP_of (cx_okP ord0 xs0 1 (fun ch _ => (pnP P) ch)) (fun _ _ h => h) Tryz.func16 rfl (by kernel_rfl) rfl (by kernel_rfl) ?_
  intro _
  conv => whnf
  refine callP1 0 [] rfl rfl rfl rfl (fun _ => hls) (fun ch bx' hp => hp) ?_
  rintro o r hpo
  obtain ⟨f, r1, rfl, ho, rfl⟩ := poP_ok hpo
  cases ho
  conv => whnf
  exact ⟨rfl, rfl⟩
theorem prG_spec {lv : Int} {low : Option Pr} (hlo : LowOk lv low) (hg : GoesO low) : PSpec 72 lv (prG low).un ∧ PSpec 60 lv (prG low).ch ∧ PSpec 16 lv (prG low).fo :=
  ⟨unary_spec hlo, chain_spec hlo (un_goes hg), form_spec (ch_goes (un_goes hg) hg) (chain_spec hlo (un_goes hg))⟩
theorem pr_spec : ∀ d : Nat, d ≤ 20 → PSpec 72 (20 - d : Int) (pr d).un ∧ PSpec 60 (20 - d : Int) (pr d).ch ∧ PSpec 16 (20 - d : Int) (pr d).fo
  | 0, _ => prG_spec ⟨by decide, .inl ⟨rfl, rfl⟩⟩ fun p h => by cases h
  | d + 1, h => by
    have ih := pr_spec d (by omega)
    have hg := pr_goes d
    rw [show ((20 : Int) - (d : Nat)) = (20 - ((d + 1 : Nat) : Int)) + 1 by omega] at ih
    exact prG_spec ⟨by omega, .inr ⟨_, rfl, by omega, hg.1, hg.2.1, hg.2.2, ih.1, ih.2.1, ih.2.2⟩⟩ fun p h => by cases h; exact hg
end Go.Proofs.YtndflafkigldmaaGreatDoor.Vm
namespace Go.Proofs.YtndflafkigldmaaGreatDoor.Vm
open Go.RowKit Go.Shelf
set_option linter.unusedSimpArgs false
set_option linter.unusedVariables false
set_option maxRecDepth 100000
theorem isD_le {c : UInt8} (h : isD c = true) : c.toNat - 48 ≤ 9 := by
  simp only [isD, Bool.and_eq_true, decide_eq_true_eq] at h
  omega
theorem numG_nil (n : Nat) : numG n [] = n := rfl
theorem numG_cons (n : Nat) (c : UInt8) (r : List UInt8) : numG n (c :: r) = numG (10 * n + (c.toNat - 48)) r := by kernel_rfl
theorem numG_le (l : List UInt8) : ∀ (n : Nat), allD l = true → numG n l + 1 ≤ (n + 1) * 10 ^ l.length := by
  induction l with
  | nil => intro n _; rw [numG_nil]; simp
  | cons c r ih =>
    intro n h
    simp only [allD, List.all_cons, Bool.and_eq_true] at h
    have := isD_le h.1
    have ih := ih (10 * n + (c.toNat - 48)) h.2
    rw [numG_cons, List.length_cons, Nat.pow_succ]
    refine Nat.le_trans ih ?_
    generalize 10 ^ r.length = p at *
    rw [show (n + 1) * (p * 10) = (10 * n + 10) * p by rw [Nat.mul_comm p 10, ← Nat.mul_assoc]; congr 1; omega]
    exact Nat.mul_le_mul_right _ (by omega)
theorem small_short {l : List UInt8} (h : l.length ≤ 10) : smallD l := fun k hk hd => by
  have h1 := numG_le _ 0 hd
  have h2 : (l.take k).length ≤ 10 := by rw [List.length_take]; omega
  have h3 : 10 ^ (l.take k).length ≤ 10 ^ 10 := Nat.pow_le_pow_right (by decide) h2
  have h4 : (10 : Nat) ^ 10 = 10000000000 := by decide
  omega
theorem small_nodig {c : UInt8} {r : List UInt8} (h : isD c = false) : smallD (c :: r) := fun k hk hd => by
  cases k with
  | zero => rw [List.take_zero, numG_nil]; decide
  | succ k =>
    simp only [List.take_succ_cons, allD, List.all_cons, h, Bool.false_and] at hd
    cases hd
theorem numG_valF : ∀ (l : List UInt8) (n : Nat) (k : Nat), 0 ≤ valF n l → allD l = true → n ≤ 2147483647 → numG n (l.take k) ≤ 2147483647
  | [], n, k, _, _, hn => by rw [List.take_nil, numG_nil]; exact hn
  | c :: r, n, k, h, hd, hn => by
    simp only [allD, List.all_cons, Bool.and_eq_true] at hd
    have hc := hd.1
    simp only [isD, Bool.and_eq_true, decide_eq_true_eq] at hc
    rw [valF] at h
    split at h
    · omega
    · rename_i hv
      cases k with
      | zero => rw [List.take_zero, numG_nil]; exact hn
      | succ k =>
        rw [List.take_succ_cons, numG_cons]
        have e : (((10 * n + (c.toNat - 48) : Nat)) : Int) = 10 * (n : Int) + c.toNat - 48 := by omega
        refine numG_valF r (10 * n + (c.toNat - 48)) k ?_ hd.2 (by omega)
        rw [e]; exact h
theorem allD_span : ∀ r : List UInt8, allD (r.take (spanN isD r)) = true
  | [] => rfl
  | c :: r => by
    rw [spanN]
    cases h : isD c with
    | false => rfl
    | true =>
      simp only [List.take_succ_cons, allD, List.all_cons, h, Bool.true_and]
      exact allD_span r
theorem isL_D {c : UInt8} (h : isL c = true) : isD c = false := by
  simp only [isL, Bool.and_eq_true, decide_eq_true_eq] at h
  simp only [isD, Bool.and_eq_false_iff, decide_eq_false_iff_not]
  right; omega
theorem cut_size (s : ByteArray) : (cutF s).1.size ≤ s.size := by
  cases h : s.data.toList with
  | nil => rw [cutF_nil h]; exact Nat.le_refl _
  | cons c r =>
    have hl := size_len s
    rw [h, List.length_cons] at hl
    by_cases hc : c = 118
    · subst hc
      rw [cutF_v h, bs_size]; omega
    · rw [cutF_no h hc]; exact Nat.le_refl _
theorem cut_short {s : ByteArray} (h : s.size ≤ 10) : smallD (cutF s).1.data.toList := by
  have h1 := cut_size s
  have h2 := size_len (cutF s).1
  exact small_short (by omega)
theorem tok_small {l : List UInt8} {k : Int} {len : Nat} {n : Int} (h : tokF l = .tok k len n) : smallD (cutF (bs (l.take len))).1.data.toList := by
  have hle := tokF_len h
  have hsz : (bs (l.take len)).size = len := take_size l len hle.2
  cases l with
  | nil => simp [tokF] at h
  | cons c r =>
    cases hL : isL c
    · cases hD : isD c
      · refine cut_short ?_
        cases h3 : hasF twos (bs ((c :: r).take 2))
        · cases h4 : hasF ones (bs [c])
          · simp only [tokF, hL, hD, h3, h4] at h
            cases h
          · simp only [tokF, hL, hD, h3, h4] at h
            cases h; omega
        · simp only [tokF, hL, hD, h3] at h
          cases h; omega
      · simp only [tokF, hL, hD] at h
        split at h
        · cases h
        · rename_i hv
          cases h
          have hc : c ≠ 118 := fun e => by subst e; simp [isD] at hD; 
          have hlist : (bs ((c :: r).take (spanN isD r + 1))).data.toList = c :: r.take (spanN isD r) := by rw [bs_list, List.take_succ_cons]
          rw [cutF_no hlist hc, hlist]
          intro j hj hd
          have h0 : allD (c :: r.take (spanN isD r)) = true := by
            simp only [allD, List.all_cons, hD, Bool.true_and]
            exact allD_span r
          have := numG_valF (c :: r.take (spanN isD r)) 0 j (by simpa using hv) h0 (by omega)
          omega
    · simp only [tokF, hL] at h
      split at h
      · cases h
      · cases h
        exact cut_short (by omega)
theorem lexG_small : ∀ (f p : Nat) (l : List UInt8), ∀ t ∈ (lexG f p l).toks, smallD (cutF t.text).1.data.toList
  | 0, p, l => by simp [lexG]
  | f + 1, p, [] => by simp [lexG]
  | f + 1, p, c :: r => by
    rw [lexG]
    split
    · exact lexG_small f _ _
    · split
      · exact lexG_small f _ _
      · cases ht : tokF (c :: r) with
        | bad e => simp
        | tok k len n =>
          intro t hm
          simp only [Lx.cons, List.mem_cons] at hm
          rcases hm with rfl | hm
          · exact tok_small ht
          · exact lexG_small f _ _ t hm
theorem tkW_mk {e : Tk} (he : tkGood e ∧ e.kind = 0 ∧ e.text.data.toList = []) : ∀ l : List Tk, (∀ t ∈ l, tkGood t ∧ t.kind ≠ 0) → TkW (l ++ [e])
  | [], _ => ⟨he.1, .inl ⟨rfl, he.2⟩⟩
  | t :: l, h => ⟨(h t (by simp)).1, .inr ⟨(h t (by simp)).2, tkW_mk he l fun x hx => h x (by simp [hx])⟩⟩
theorem row_tkB {s : ByteArray} (hs : s.size ≤ 3000) (he : (lexF' s).err = none) : TkB (rowT s) := by
  rw [rowT_none he]
  have hl := size_len s
  have hlen := (lexG_ok (s.data.toList.length + 1) 0 s.data.toList).1
  refine ⟨tkW_mk ⟨⟨?_, ?_, ?_, ?_⟩, rfl, rfl⟩ _ fun t ht => ?_, ?_⟩
  · show (⟨#[]⟩ : ByteArray).size ≤ _; decide
  · exact cut_short (by show (⟨#[]⟩ : ByteArray).size ≤ _; decide)
  · exact Nat.le_trans (cut_size _) (by show (⟨#[]⟩ : ByteArray).size ≤ _; decide)
  · exact ⟨by show (0 : Int) ≤ 0; decide, by show (0 : Int) ≤ _; decide, by show s.size ≤ _; omega⟩
  · have h1 := lexG_tk (s.data.toList.length + 1) 0 s.data.toList (by omega) t ht
    exact ⟨⟨h1.2.2.1, lexG_small _ _ _ t ht, Nat.le_trans (cut_size _) h1.2.2.1, h1.2.2.2.1, h1.2.2.2.2, h1.2.1⟩, by have := h1.1.1; omega⟩
  · have : (lexF' s).toks.length ≤ s.data.toList.length := hlen
    simp only [List.length_append, List.length_cons, List.length_nil]
    omega
def Sane : Ps → Prop
  | .bad x e => (0 ≤ x ∧ x ≤ 1000000000) ∧ 0 < e ∧ e ≤ 100
  | _ => True
def SaneO (op : List Tk → Ps) : Prop := ∀ ts, TkB ts → Sane (op ts)
theorem TkB.pos {ts : List Tk} (h : TkB ts) : (hd ts).pos ≤ 1000000000 := h.1.good.2.2.2.2.2
theorem sane_bad {ts : List Tk} (h : TkB ts) {e : Int} (he : 0 < e ∧ e ≤ 100) : Sane (.bad (hd ts).pos e) := ⟨⟨by omega, by have := h.pos; omega⟩, he⟩
theorem cmp_sane : SaneO cmpF := fun ts h => by
  have hb := fun (t2 : List Tk) (h2 : TkB t2) => sane_bad h2 (e := 10) (by decide)
  unfold cmpF
  split
  · exact hb _ h
  · rename_i hF
    split
    · exact hb _ h
    · split
      · exact sane_bad h (by decide)
      · have hk0 : (hd ts).kind ≠ 0 := fun h0 => by
          have := (h.1.end' h0).1
          unfold cutF at hF
          rw [this] at hF
          exact hF rfl
        obtain ⟨h1, l1⟩ := h.tail hk0
        split
        · exact hb _ h1
        · rename_i hi
          obtain ⟨h2, l2⟩ : TkB ts.tail.tail ∧ ts.tail.tail.length + 1 = ts.tail.length := by
            rcases idxS_rng ts.tail cmpTs 0 (by omega) with h2 | ⟨_, _, s, hs⟩
            · omega
            · exact h1.is hs
          have h3 : TkB (signF ts.tail.tail).2 := by
            unfold signF
            split
            · rename_i hm
              exact (h2.is hm).1
            · exact h2
          split
          · exact hb _ h3
          · trivial
def SanO (low : Option Pr) : Prop := ∀ p, low = some p → SaneO p.un ∧ SaneO p.ch ∧ SaneO p.fo
theorem un_sane {low : Option Pr} (hg : GoesO low) (hl : SanO low) : SaneO (unG low) := fun ts h => by
  unfold unG
  split
  · rename_i k hk
    obtain ⟨h1, l1⟩ := h.tail (un_kind h hk)
    split
    · exact sane_bad h (by decide)
    · rename_i p
      have := (hl p rfl).1 _ h1
      split
      · trivial
      · rename_i x e he
        rw [he] at this; exact this
  · split
    · trivial
    · split
      · rename_i hp
        obtain ⟨h1, l1⟩ := h.is hp
        split
        · exact sane_bad h (by decide)
        · rename_i p
          have := (hl p rfl).2.2 _ h1
          split
          · rename_i f' r' he
            obtain ⟨h2, l2⟩ := (hg p rfl).2.2 _ _ _ h1 he
            split
            · trivial
            · exact sane_bad h2 (by decide)
          · rename_i x e he
            rw [he] at this; exact this
      · exact cmp_sane ts h
theorem ch_sane {un : List Tk → Ps} {low : Option Pr} (hu : Goes un) (hs : SaneO un) (hl : SanO low) : SaneO (chG un low) := fun ts h => by
  unfold chG
  have h0 := hs ts h
  split
  · rename_i x e he
    rw [he] at h0; exact h0
  · rename_i f1 r1 he
    obtain ⟨h1, l1⟩ := hu _ _ _ h he
    split
    · rename_i hq
      obtain ⟨h2, l2⟩ := h1.is hq
      split
      · exact sane_bad h1 (by decide)
      · rename_i p
        have := (hl p rfl).2.1 _ h2
        split
        · trivial
        · rename_i x e he2
          rw [he2] at this; exact this
    · trivial
def SaneL : Lr → Prop
  | .bad x e => (0 ≤ x ∧ x ≤ 1000000000) ∧ 0 < e ∧ e ≤ 100
  | _ => True
theorem liGo_sane {op : List Tk → Ps} {sign : ByteArray} (hg : Goes op) (ho : SaneO op) : ∀ (n : Nat) (acc : List Fm) (ts : List Tk), TkB ts → SaneL (liGo op sign n acc ts)
  | 0, acc, ts, h => by rw [liGo]; trivial
  | n + 1, acc, ts, h => by
    rw [liGo]
    split
    · rename_i hs
      obtain ⟨h1, l1⟩ := h.is hs
      have := ho _ h1
      split
      · rename_i f r1 he
        exact liGo_sane hg ho n _ _ (hg _ _ _ h1 he).1
      · rename_i x e he
        rw [he] at this; exact this
    · trivial
theorem finL_sane {kind : Int} {x : Lr} (h : SaneL x) : Sane (finL kind x) := by
  unfold finL
  split
  · exact h
  · trivial
  · trivial
theorem li_sane {op : List Tk → Ps} {kind : Int} {sign : ByteArray} (hg : Goes op) (ho : SaneO op) : SaneO (liF op kind sign) := fun ts h => by
  unfold liF
  have h0 := ho ts h
  split
  · rename_i x e he
    rw [he] at h0; exact h0
  · rename_i f1 r1 he
    exact finL_sane (liGo_sane hg ho _ _ _ (hg _ _ _ h he).1)
theorem prG_sane {low : Option Pr} (hg : GoesO low) (hl : SanO low) : SaneO (prG low).un ∧ SaneO (prG low).ch ∧ SaneO (prG low).fo :=
  ⟨un_sane hg hl, ch_sane (un_goes hg) (un_sane hg hl) hl, li_sane (li_goes (ch_goes (un_goes hg) hg)) (li_sane (ch_goes (un_goes hg) hg) (ch_sane (un_goes hg) (un_sane hg hl) hl))⟩
theorem pr_sane : ∀ d, SaneO (pr d).un ∧ SaneO (pr d).ch ∧ SaneO (pr d).fo
  | 0 => prG_sane (fun p h => by cases h) (fun p h => by cases h)
  | d + 1 => prG_sane (fun p h => by cases h; exact pr_goes d) (fun p h => by cases h; exact pr_sane d)
end Go.Proofs.YtndflafkigldmaaGreatDoor.Vm
namespace Go.Proofs.YtndflafkigldmaaGreatDoor.Vm
open Go.RowKit
set_option linter.unusedSimpArgs false
set_option linter.unusedVariables false
def ClD (P : Program) (f : Nat) (u u' : FrameMode) : Array Value → World → (Ending → World → Prop) → Prop := fun vs w R => CallsD P f vs u w fun e m w' => m = u' ∧ R e w'
theorem ClD.mono {P : Program} {f : Nat} {u u' : FrameMode} {vs : Array Value} {w : World} {R R' : Ending → World → Prop} (h : ∀ e w', R e w' → R' e w') (k : ClD P f u u' vs w R) : ClD P f u u' vs w R' :=
  CallsD.mono k fun e m w' ⟨h1, h2⟩ => ⟨h1, h _ _ h2⟩
@[irreducible] def DfrW (P : Program) (u u' : FrameMode) (f : Nat) (args : List A) (s : S) (K : S → Prop) : Prop :=
  (∀ vs w, (callFunc f vs).run P w = .ok (.enter f vs) w) ∧
  ∃ (X ids : List Nat) (ins : List (List A)) (args' : List A) (post : List (List A) → A → Prop), X.Nodup ∧ (∀ i ∈ X, i < s.bx.length) ∧
    renLL X (pubRows s.rw ids) (X.map fun i => s.bx.getD i []) = some ins ∧ renL X (pubRows s.rw ids) args = some args' ∧ (okL args' → SpecX (ClD P f u u') ins args' post fun _ => False) ∧
    ∀ outs r, post outs r → outs.length = X.length → outK X s.bx X outs fun bx' => force (back X r) fun _ => forceR (pubRows s.rw ids) fun rw' => withBR s bx' rw' K
def leaveK (c : Cx) (rv : List ResultVar) (post : List (List A) → A → Prop) : List (Nat × List A) → FrameMode → S → Prop
  | [], .returning, s => retK c rv post s
  | [], _, _ => False
  | (f, args) :: r, u, s => u ≠ .run ∧ ∃ u', DfrW c.P u u' f args s fun s' => leaveK c rv post r (settle u') s'
section
variable {c : Cx} {w0 : W0} {C0 : Rd} {β0 : List Nat}
theorem leaves_ok {fn : Func} {post : List (List A) → A → Prop} {R : Ending → World → Prop} {tmps : Array Value} (hfin : ∀ s' w', retK c fn.results.toList post s' → Inv [] w0 C0 β0 s' { tmps := tmps, defers := [] } w' → ∃ v, (results fn tmps).run c.P w' = .ok v w' ∧ R (.returned v) w') :
    ∀ (dr : List (Nat × List A)) (ds : List Deferred) (u : FrameMode) (s : S) (E : Env) (w : World), repD dr E ds → Hp w0 C0 β0 s.bx s.rw w E → A.repL s.t E tmps.toList → leaveK c fn.results.toList post dr u s → Leaves c.P fn tmps R ds u w
  | [], ds, u, s, E, w, hd, hp, ht, h => by
    obtain rfl : ds = [] := hd
    cases u with
    | returning => exact hfin s w h ⟨E, hp, ht, rfl⟩
    | run => exact h.elim
    | panicking ch => exact h.elim
  | (f, args) :: r, ds, u, s, E, w, ⟨d, ds', cap, hds, htg, hargs, hrest⟩, hp, ht, h => by
    subst hds
    obtain ⟨hu, u', h⟩ := h
    unfold DfrW at h
    obtain ⟨hcall, X, ids, ins, args', post', hn, hX, hins, hargs', hspec, hk⟩ := h
    have hcx := call_okX (pan := fun _ _ => False) (Xr := fun _ => true) (K := fun _ s' => leaveK c fn.results.toList post r (settle u') s') (Cl := ClD c.P f u u') ClD.mono hp hargs hn (fun _ _ => rfl) hX hins hargs' hspec (fun outs r hp hl => hk outs r hp hl) (fun ch bx' h _ _ => h.elim)
    obtain ⟨t, da⟩ := d
    simp only at htg hargs hcx
    subst htg
    refine leaves_cons (f := f) (args := da ++ cap) hu (by simp [invoke, hcall]) ?_
    have hcx' : CallsD c.P f (da ++ cap) u w fun e m w' => m = u' ∧ ((∃ y, e = .returned y ∧ Left w0 C0 β0 (fun _ => true) s E w (fun _ s' => leaveK c fn.results.toList post r (settle u') s') y w') ∨ ∃ (ch : List PanicEntry) (s' : S) (E' : Env), e = .panicked ch ∧ False ∧ s'.t = s.t ∧ E.le E' ∧ Hp w0 C0 β0 s'.bx s'.rw w' E') := hcx
    refine CallsD.mono hcx' ?_
    rintro e m w' ⟨rfl, ⟨y, rfl, ⟨⟨r0, s', E', h1, h2, h3, h4, h5, _⟩⟩⟩ | ⟨ch, s', E', _, h, _⟩⟩
    · exact leaves_ok hfin r ds' _ s' E' w' (hrest.mono h3) h4 (by rw [h2]; exact A.repL.mono _ h3 ht) h1
    · exact h.elim
@[irreducible] def OkT (P : Program) (np : Nat) (pt : List (Nat × List A) → List PanicEntry → S → Prop) (qt : List (Nat × List A) → Exit → S → Prop) (dr : List (Nat × List A)) (x : Code) (s : S) : Prop :=
  ∀ (w0 : W0) (C0 : Rd) (β0 : List Nat) (a : Act) (w : World) (Q : Exit → Act → World → Prop), β0.length = np → Inv dr w0 C0 β0 s a w → (∀ dr' ch s' a' w', pt dr' ch s' → Inv dr' w0 C0 β0 s' a' w' → Q (.panic ch) a' w') → (∀ dr' e s' a' w', qt dr' e s' → Inv dr' w0 C0 β0 s' a' w' → Q e a' w') → x.wp P Q a w
def tQ (P : Program) (np : Nat) (pt : List (Nat × List A) → List PanicEntry → S → Prop) (qt : List (Nat × List A) → Exit → S → Prop) (dr : List (Nat × List A)) (y : Code) (e : Exit) (s : S) : Prop := match e with
  | .normal => OkT P np pt qt dr y s
  | e => qt dr e s
variable {pt : List (Nat × List A) → List PanicEntry → S → Prop} {qt : List (Nat × List A) → Exit → S → Prop} {dr : List (Nat × List A)} {s : S}
theorem okT_last {x : Code} (hc : c.ok) (hdr : ∃ n, refsD n dr = true) (hl : refsD c.np dr = true ∨ noLoop x = true) (ho : ordOk c.ord x = true) (hp : ∀ ch s', c.pan ch s' → pt dr ch s') (h : awp c x s (qt dr)) : OkT c.P c.np pt qt dr x s := by
  unfold OkT
  exact fun w0 C0 β0 a w Q hn hi hx hk => awp_ok hc hn hdr x hl (fun ch s' a' w' h1 h2 => hx dr ch s' a' w' (hp ch s' h1) h2) ho hi h fun e s' a' w' h1 h2 => hk dr e s' a' w' h1 h2
theorem okT_step {x y : Code} (hc : c.ok) (hdr : ∃ n, refsD n dr = true) (hl : refsD c.np dr = true ∨ noLoop x = true) (ho : ordOk c.ord x = true) (hp : ∀ ch s', c.pan ch s' → pt dr ch s') (h : awp c x s (tQ c.P c.np pt qt dr y)) : OkT c.P c.np pt qt dr (.seq x y) s := by
  unfold OkT
  intro w0 C0 β0 a w Q hn hi hx hk
  refine wp_seq (awp_ok hc hn hdr x hl (fun ch s' a' w' h1 h2 => hx dr ch s' a' w' (hp ch s' h1) h2) ho hi h fun e s' a' w' h1 h2 => ?_)
  cases e with
  | normal =>
    have h1 : OkT c.P c.np pt qt dr y s' := h1
    unfold OkT at h1
    exact h1 w0 C0 β0 a' w' Q hn h2 hx hk
  | _ => exact hk dr _ _ _ _ h1 h2
def dfrK (s : S) (fo : Operand) (xs : List Operand) (K : Nat → List A → Prop) : Prop := match ev s fo with
  | .clo f caps => K f (xs.map (ev s) ++ caps)
  | .bm f fs => K f (fs ++ xs.map (ev s))
  | _ => False
theorem seq_ok2 {ops l2 : List Oper} {Q : Exit → Act → World → Prop} (hc : c.ok) (hdr : ∃ n, refsD n dr = true) (hx : ∀ ch s' a' w', c.pan ch s' → Inv dr w0 C0 β0 s' a' w' → Q (.panic ch) a' w') : ∀ {l : List Oper} {s : S} {a : Act} {w : World} {K : S → Prop}, Inv dr w0 C0 β0 s a w → aseq c ops l s K → (∀ s' a' w', K s' → Inv dr w0 C0 β0 s' a' w' → wpList c.P ops.toArray Q l2 a' w') → wpList c.P ops.toArray Q (l ++ l2) a w
  | [], s, a, w, K, hi, h, hk => hk s a w h hi
  | o :: r, s, a, w, K, hi, h, hk => by
    obtain ⟨E, hp, ht, hd⟩ := hi
    change wantK ops o s (ado c (fun _ => true) s o fun s' => aseq c ops r s' K) (putK s o.dst (.tup []) fun s' => aseq c ops r s' K) at h
    refine wpList_step fun Kc hKc => ?_
    rcases want_ok ht h with ⟨h1, h2⟩ | ⟨h1, h2⟩
    · rw [if_pos h1]
      exact do_ok hc hdr ⟨E, hp, ht, hd⟩ h2 hx fun s' a' w' h3 h4 => hKc _ _ (seq_ok2 hc hdr hx h4 h3 hk)
    · rw [if_neg (by rw [h1]; simp)]
      obtain ⟨s2, k1, k2, k3, k4, k5⟩ := put_ok (a := a) hp ht hd (rep_undef _) h2
      exact hKc _ _ (seq_ok2 hc hdr hx ⟨E, by rw [k2, k3]; exact hp, k4, k5⟩ k1 hk)
theorem okT_defer {id : Nat} {l : List Oper} {od : Oper} {fo : Operand} {xs : Array Operand} {ts : Array TypeId} {y : Code} (hc : c.ok) (hdr : ∃ n, refsD n dr = true) (hp : ∀ ch s', c.pan ch s' → pt dr ch s') (hop : od.op = .defer ⟨.value fo, xs, ts⟩) (hg : od.guard = none) (hd : od.dst = none)
    (h : aseq c (l ++ [od]) l s fun s' => dfrK s' fo xs.toList fun f args => OkT c.P c.np pt qt ((f, args) :: dr) y s') : OkT c.P c.np pt qt dr (.seq (.region id (l ++ [od]).toArray false) y) s := by
  unfold OkT
  intro w0 C0 β0 a w Q hn hi hx hk
  refine wp_seq (wp_region_lit (seq_ok2 (l2 := [od]) (Q := Exit.then (y.wp c.P Q) Q) hc hdr (fun ch s' a' w' h1 h2 => hx dr ch s' a' w' (hp ch s' h1) h2) hi h fun s' a' w' h1 h2 => ?_))
  refine wpList_step fun Kc hKc => ?_
  rw [if_pos (by simp [Region.wanted, hg])]
  obtain ⟨E, hpp, ht, hdd⟩ := h2
  unfold dfrK at h1
  split at h1
  · rename_i f caps hev
    have hf := ev_rep ht fo
    rw [hev] at hf
    unfold A.rep at hf
    obtain ⟨us, hf, hcaps⟩ := hf
    have hrun : (execOp a'.eval od).run c.P w' = .ok (.defer { target := .fn (.func f) us, args := xs.map a'.eval }) w' := by simp [execOp, hop, resolve, Deferred.ofValue, hf, Result.andThen]
    unfold Oper.wp
    rw [hrun, Oper.upon_defer]
    rw [hd]
    unfold OkT at h1
    refine hKc _ _ (h1 w0 C0 β0 _ w' Q hn ⟨E, hpp, ht, { target := .fn (.func f) us, args := xs.map a'.eval }, a'.defers, us, rfl, rfl, ?_, hdd⟩ hx hk)
    have := A.repL_append (caps_rep ht xs.toList) hcaps
    simpa using this
  · rename_i f fs hev
    have hf := ev_rep ht fo
    rw [hev] at hf
    unfold A.rep at hf
    obtain ⟨us, hf, hcaps⟩ := hf
    have hrun : (execOp a'.eval od).run c.P w' = .ok (.defer { target := .fn (.func f) #[], args := us ++ xs.map a'.eval }) w' := by simp [execOp, hop, resolve, Deferred.ofValue, hf, Result.andThen]
    unfold Oper.wp
    rw [hrun, Oper.upon_defer]
    rw [hd]
    unfold OkT at h1
    refine hKc _ _ (h1 w0 C0 β0 _ w' Q hn ⟨E, hpp, ht, { target := .fn (.func f) #[], args := us ++ xs.map a'.eval }, a'.defers, #[], rfl, rfl, ?_, hdd⟩ hx hk)
    have := A.repL_append hcaps (caps_rep ht xs.toList)
    simpa using this
  · exact h1.elim
theorem inv_begin {n : Nat} {ins : List (List A)} {args : List A} {w : World} {C : Rd} {β : List Nat} {vals : List Value} (h0 : Gok C w) (h1 : Sub C (see w)) (h2 : β.Nodup) (h3 : ∀ b ∈ β, ∀ o sp, C ⟨b, o, sp⟩ = none) (h4 : ins.length = β.length)
    (h5 : ∀ (i b : Nat) (cs : List A), β[i]? = some b → ins[i]? = some cs → boxAt w ⟨C, β, []⟩ b cs) (h6 : A.repL args ⟨C, β, []⟩ vals) :
    Inv [] (.of w) C β ⟨args ++ List.replicate (n - args.length) .dead, ins, []⟩ { tmps := vals.toArray ++ Array.replicate (n - vals.toArray.size) undef, defers := [] } w := by
  have hl := A.repL_len h6
  refine ⟨⟨C, β, []⟩, ⟨h1, Sub.refl _, fun _ _ hc => .inl hc, ⟨[], by simp, by simp⟩, h2, h3, h4, h5, rfl, fun g r y hg => by simp at hg, fun g e k n cs y b hg => by simp at hg, fun g e k n cs y h' e' k' n' cs' z b _ hg => by simp at hg, fun g y hg => by simp at hg, Keeps.refl _ _, gok0 h0⟩, ?_, rfl⟩
  have : (vals.toArray ++ Array.replicate (n - vals.toArray.size) undef).toList = vals ++ List.replicate (n - args.length) undef := by simp [hl]
  rw [this]
  exact A.repL_append h6 (rep_deads _ _)
theorem specT_of {f : Nat} {fn : Func} {x : Code} {ins : List (List A)} {args : List A} {post : List (List A) → A → Prop} (hc : c.ok) (hf : c.P.funcs[f]? = some fn) (hb : fn.body = some x) (hname : (fn.name == "runtime.NumGoroutine") = false)
    (hn : ins.length = c.np) (h : okL args → initK args (fn.ntmps - args.length) fun t => OkT c.P c.np (fun dr ch s => leaveK c fn.results.toList post dr (.panicking ch) s) (fun dr e s => (e = .normal ∨ e = .ret) ∧ leaveK c fn.results.toList post dr .returning s) [] x ⟨t, ins, []⟩) : Spec c.P f ins args post := by
  refine ⟨callable hf hb hname, fun w C β vals h0 h1 h2 h3 h4 h5 h6 => ?_⟩
  refine calls_of_wp_defers hf hb ?_
  have hinit := initK_iff.1 (h (okL_rep _ h6))
  have hinv := inv_begin (n := fn.ntmps) h0 h1 h2 h3 h4 h5 h6
  unfold OkT at hinit
  have hfin : ∀ (tmps : Array Value) (s' : S) (w' : World), retK c fn.results.toList post s' → Inv [] (.of w) C β s' { tmps := tmps, defers := [] } w' → ∃ v, (results fn tmps).run c.P w' = .ok v w' ∧ ∃ outs r v', Ending.returned v = .returned v' ∧ post outs r ∧ Keeps β w w' ∧ outs.length = β.length ∧
      (∀ (i b : Nat) (cs : List A), β[i]? = some b → outs[i]? = some cs → boxAt w' ⟨plus C w w', β, []⟩ b cs) ∧ r.rep ⟨plus C w w', β, []⟩ v' := fun tmps s' w' hr hi =>
    (fin_ok (w := w) (C := C) (β := β) (fn := fn) (post := post) hc h1 (by rw [← h4, hn]) hr hi).2
  refine hinit (.of w) C β _ w _ (by rw [← h4, hn]) hinv (fun dr ch s' a' w' hl ⟨E, hp, ht, hd⟩ => ?_) (fun dr e s' a' w' hl ⟨E, hp, ht, hd⟩ => ?_)
  · exact leaves_ok (hfin a'.tmps) dr a'.defers _ s' E w' hd hp ht hl
  · obtain ⟨he, hl⟩ := hl
    rcases he with rfl | rfl
    · exact leaves_ok (hfin a'.tmps) dr a'.defers _ s' E w' hd hp ht hl
    · exact leaves_ok (hfin a'.tmps) dr a'.defers _ s' E w' hd hp ht hl
theorem rec_returning {c0 : Frame} {cs : List Frame} (h : c0.mode = .returning) : recoverD (c0 :: cs) = none := by
  simp [recoverD, h]
theorem rec_panicking {c0 : Frame} {cs : List Frame} {v : Value} {older : List PanicEntry} (h : c0.mode = .panicking (⟨v, false, false⟩ :: older)) : recoverD (c0 :: cs) = some (v, { c0 with mode := .panicking (⟨v, true, false⟩ :: older) } :: cs) := by
  simp [recoverD, h]
theorem recX_of {f id d0 d1 : Nat} {fn : Func} {o0 o1 : Oper} {ts : Array TypeId} {rest : Code} {ins : List (List A)} {args : List A} {post : List (List A) → A → Prop} {u u' : FrameMode} {rv : Value} (hc : c.ok) (hq : ∀ ch s, ¬ c.pan ch s) (hf : c.P.funcs[f]? = some fn) (hb : fn.body = some (.seq (.region id #[o0, o1] false) rest))
    (k0 : o0.op = .call ⟨.builtin .recover, #[], ts⟩ ∧ o0.guard = none ∧ o0.dst = some d0) (k1 : o1.op = .assign (.tmp d0) ∧ o1.guard = none ∧ o1.dst = some d1) (hd0 : d0 < fn.ntmps) (hv : okV rv)
    (hu : (u = .returning ∧ u' = .returning ∧ rv = .nilIface) ∨ ∃ v older, u = .panicking (⟨v, false, false⟩ :: older) ∧ u' = .panicking (⟨v, true, false⟩ :: older) ∧ rv = v)
    (hn : ins.length = c.np) (h : okL args → initK args (fn.ntmps - args.length) fun t => Ok c rest ⟨(t.set d0 (.v rv)).set d1 (.v rv), ins, []⟩ (endK c fn.results.toList post)) : SpecX (ClD c.P f u u') ins args post fun _ => False := by
  intro w C β vals h0 h1 h2 h3 h4 h5 h6
  unfold ClD
  refine callsD_of_wpS hf hb fun c0 cs hu0 => wpS_seq (wpS_region ?_)
  have hinit := initK_iff.1 (h (okL_rep _ h6))
  have hinv := inv_begin (n := fn.ntmps) h0 h1 h2 h3 h4 h5 h6
  have hnp : β.length = c.np := by rw [← h4, hn]
  generalize hA : ({ tmps := vals.toArray ++ Array.replicate (fn.ntmps - vals.toArray.size) undef, defers := [] } : Act) = a0 at *
  have hsz : d0 < a0.tmps.size := by rw [← hA]; simp; omega
  obtain ⟨E, hp, ht, hd⟩ := hinv
  have hi2 : Inv [] (.of w) C β ⟨((args ++ List.replicate (fn.ntmps - args.length) A.dead).set d0 (.v rv)).set d1 (.v rv), ins, []⟩ ((a0.put (some d0) rv).put (some d1) rv) w := by
    refine ⟨E, hp, ?_, hd⟩
    show A.repL _ E ((a0.tmps.setIfInBounds d0 rv).setIfInBounds d1 rv).toList
    rw [Array.toList_setIfInBounds, Array.toList_setIfInBounds]
    exact A.repL_set (A.repL_set ht d0 (A.rep_v hv)) d1 (A.rep_v hv)
  have e0 : (execOp a0.eval o0).run c.P w = .ok .recover w := by
    simp [execOp, k0.1, resolve, invoke, Result.andThen]
    rfl
  have ha0 : (a0.put (some d0) rv).tmps.getD d0 undef = rv := by
    show (a0.tmps.setIfInBounds d0 rv).getD d0 undef = rv
    simp [Array.getD_eq_getD_getElem?, hsz]
  have e1 : (execOp (a0.put (some d0) rv).eval o1).run c.P w = .ok (.value rv) w := by
    have : (a0.put (some d0) rv).eval (.tmp d0) = rv := ha0
    simp [execOp, k1.1, this]
  have hrange : List.range (#[o0, o1] : Array Oper).size = [0, 1] := rfl
  rw [hrange]
  have g0 : (#[o0, o1] : Array Oper)[0]? = some o0 := rfl
  have g1 : (#[o0, o1] : Array Oper)[1]? = some o1 := rfl
  have w0' : ∀ y, Region.wanted o0 y = true := fun y => by simp [Region.wanted, k0.2.1]
  have w1' : ∀ y, Region.wanted o1 y = true := fun y => by simp [Region.wanted, k1.2.1]
  simp only [wpOpsS, g0, g1, w0', w1', if_true, e0]
  unfold Ok OkD at hinit
  have fin : ∀ cs', cs' = { c0 with mode := u' } :: cs → rest.wpS c.P (bodyPostS c.P fn c0 cs fun e m w' => m = u' ∧ ((∃ outs r v, e = .returned v ∧ post outs r ∧ Keeps β w w' ∧ outs.length = β.length ∧
      (∀ (i b : Nat) (cs : List A), β[i]? = some b → outs[i]? = some cs → boxAt w' ⟨plus C w w', β, []⟩ b cs) ∧ r.rep ⟨plus C w w', β, []⟩ v) ∨
      ∃ (ch : List PanicEntry) (ns : List Nat), e = .panicked ch ∧ False ∧ Keeps β w w' ∧ ns.length = β.length ∧ ∀ (i b n : Nat), β[i]? = some b → ns[i]? = some n → boxAt w' ⟨C, β, []⟩ b (List.replicate n .dead))) ((a0.put (some d0) rv).put (some d1) rv) cs' w := fun cs' hcs => by
    subst hcs
    refine wpS_of_wp ?_
    refine hinit (.of w) C β _ w _ hnp hi2 (fun ch s' _ _ hh _ => absurd hh (hq ch s')) fun e s' a' w' he hi => ?_
    have ff := fun (hr : retK c fn.results.toList post s') => fin_ok (w := w) (C := C) (β := β) (fn := fn) (post := post) hc h1 hnp hr hi
    cases e with
    | normal => obtain ⟨q1, v, q2, q3⟩ := ff he; exact ⟨q1, u', rfl, v, q2, rfl, .inl q3⟩
    | ret => obtain ⟨q1, v, q2, q3⟩ := ff he; exact ⟨q1, u', rfl, v, q2, rfl, .inl q3⟩
    | _ => exact he.elim
  rcases hu with ⟨rfl, rfl, rfl⟩ | ⟨v, older, rfl, rfl, rfl⟩
  · rw [rec_returning hu0]
    simp only [k0.2.2, e1, Oper.upon_value, k1.2.2]
    exact fin _ (by rw [← hu0])
  · rw [rec_panicking hu0]
    simp only [k0.2.2, e1, Oper.upon_value, k1.2.2]
    exact fin _ rfl
end
end Go.Proofs.YtndflafkigldmaaGreatDoor.Vm
