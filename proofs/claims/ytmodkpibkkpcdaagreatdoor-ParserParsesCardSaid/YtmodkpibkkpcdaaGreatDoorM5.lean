/- Texts 5 of the proof: Q1, Q2, Q3, Q4, Q5, Q6, Q7, Q8, Q9, VmB, Q10, Q11, Q12, Q13, E1, E4, E2, E5, Ta, G1, G2, G3, G4, G5, E3, S1. -/
import Derived.Test.YtmodkpibkkpcdaaGreatDoorM4
namespace Go.Proofs.YtmodkpibkkpcdaaGreatDoor.Vm
open Go.RowKit Go.Shelf
set_option linter.unusedSimpArgs false
set_option linter.unusedVariables false
set_option maxRecDepth 100000
theorem hd_drop6 {T : List Tk} {i : Nat} (h : i < T.length) : hd (T.drop i) = T[i] := by
 rw [List.drop_eq_getElem_cons h]; rfl
theorem tail_drop6 (T : List Tk) (i : Nat) : (T.drop i).tail = T.drop (i + 1) := by rw [List.tail_drop]
theorem tkW_drop6 : ∀ {T : List Tk} {i : Nat}, TkW T → i < T.length → TkW (T.drop i)
 | [], i, _, h => by simp at h
 | t :: T, 0, h, _ => h
 | t :: T, i + 1, h, hi => by
  rcases h.2 with ⟨rfl, _⟩ | ⟨_, hw⟩
  ·simp at hi
  ·exact tkW_drop6 (T := T) hw (by simpa using hi)
structure Ks (T : List Tk) : Prop where
 t : ∀ t ∈ T, K6 t
 n : T.length ≤ 1000000
 w : TkW T
theorem Ks.p {T : List Tk} (h : Ks T) {i : Nat} (hi : i < T.length) : TkP (T.drop i) :=
 ⟨⟨tkW_drop6 h.w hi, by rw [List.length_drop]; have := h.n; omega⟩, fun t ht => k6_wOk (h.t t (List.mem_of_mem_drop ht))⟩
theorem Ks.hd {T : List Tk} (h : Ks T) {i : Nat} (hi : i < T.length) : K6 (Vm.hd (T.drop i)) := by rw [hd_drop6 hi]; exact h.t _ (List.getElem_mem hi)
theorem Ks.next {T : List Tk} (h : Ks T) {i : Nat} (hi : i < T.length) (hk : (Vm.hd (T.drop i)).kind ≠ 0) : i + 1 < T.length := by
 obtain ⟨q1, q2⟩ := (h.p hi).tail hk
 have := q1.pos
 rw [tail_drop6, List.length_drop] at this
 omega
theorem rowOf_tks6 (T : List Tk) (i : Nat) (h : i < T.length) : rowOf 4 i (tksL T) = tkL (hd (T.drop i)) := by
 rw [hd_drop6 h]; exact rowOf_flat tkL (fun _ => rfl) T i h
structure S6 where
 i : Nat
 a : Int
 e : Int
def bxS (T : List Tk) (s : S6) : List A := [.sl 4 T.length (tksL T), .v (.int .i64 s.i), intA s.a, intA s.e]
def tk6 (T : List Tk) (s : S6) : Tk := hd (T.drop s.i)
def SpecU (f : Nat) (cs args : List A) (post : List A → A → Prop) : Prop := ∀ y : Value, okV y → Spec Tryz.prog f [cs ++ [.v y]] args fun o r => ∃ c, o = [c ++ [.v y]] ∧ post c r
theorem SpecU.v {f : Nat} {cs args : List A} {post : List A → A → Prop} (h : SpecU f cs args post) : SpecV Tryz.prog f cs args post fun _ => False := fun y hy => (h y hy).toP
theorem SpecU.weaken {f : Nat} {cs args : List A} {post post' : List A → A → Prop} (h : SpecU f cs args post') (k : ∀ c r, post' c r → ∃ c' r', post c' r' ∧ c = c' ∧ Wk r r') : SpecU f cs args post := fun y hy =>
 Spec.weaken (h y hy) fun o r ⟨c, h1, h2⟩ => by
  obtain ⟨c', r', k1, rfl, k3⟩ := k c r h2
  exact ⟨o, r', ⟨c, h1, k1⟩, .refl _, k3⟩
theorem has6_spec (l : List ByteArray) (s : ByteArray) (hl : l.length ≤ 1000000) : Spec Tryz.prog 97 [] [.sl 1 l.length (strsA l), .v (.string s)] fun _ r => r = boolA (hasF l s) := by
 refine spec_of (cx_ok ord0 xs0 0) (fun _ _ h => h) Tryz.func97 rfl (by kernel_rfl) rfl (by kernel_rfl) ?_
 intro _
 conv => whnf
 refine loop_keep [0, 1, 4] ?_
 conv => whnf
 refine loop_go (fun k : Nat => [(5, .v (.int .i64 k))]) (fun _ => []) (fun _ => []) (fun k => k ≤ l.length ∧ hasF (l.take k) s = false) (fun k => l.length - k) 0 ?_ ⟨Nat.zero_le _, by simp [hasF]⟩ ?_
 ·repeat' constructor
 ·rintro k ⟨hk, hn⟩
  conv => whnf
  by_cases hlt : k < l.length
  ·have hrow := rowOf_strs l k hlt
   have htk := hasF_take l s k hlt
   have hin : decide (l[k] = s) = true → hasF l s = true := fun hq => List.any_eq_true.2 ⟨l[k], List.getElem_mem hlt, hq⟩
   generalize l[k] = x at *
   (refine goA ?_; try with_reducible exact trivial)
   (generalize hrq : rowOf _ _ (strsA l) = rq; obtain rfl : rq = [strA x] := hrq.symm.trans (hrow); clear hrq; conv => whnf)
   cases hq : decide (x = s)
   ·conv => whnf
    refine ⟨i64r (by omega), ?_⟩
    conv => whnf
    refine ⟨k + 1, le_head ?_, ⟨hlt, by rw [htk, hn, hq]; rfl⟩, by omega⟩
    repeat' constructor
   ·conv => whnf
    rw [hin hq]; rfl
  ·obtain rfl : k = l.length := by omega
   rw [List.take_length] at hn
   (refine goA ?_; try with_reducible exact trivial)
   rw [hn]; rfl
theorem builtins_spec : Spec Tryz.prog 124 [] [] fun _ r => r = .sl 1 builtL.length (strsA builtL) := by
 refine spec_of (cx_ok ord0 xs0 0) (fun _ _ h => h) Tryz.func124 rfl (by kernel_rfl) rfl (by kernel_rfl) ?_
 intro _
 conv => whnf
 rfl
theorem any_sym (l : List ByteArray) (t : ByteArray) : (l.any fun s => decide (t = s)) = hasF l t := by
 unfold hasF
 congr 1
 funext s
 by_cases h : t = s
 ·rw [decide_eq_true h, decide_eq_true h.symm]
 ·rw [decide_eq_false h, decide_eq_false (fun e => h e.symm)]
theorem reserved_spec (s : ByteArray) : Spec Tryz.prog 125 [] [.v (.string s)] fun _ r => r = boolA ((keyL ++ builtL).any fun x => decide (s = x)) := by
 have h1 := has6_spec builtL s (by decide)
 have h2 := has6_spec keyL s (by decide)
 have e : ((keyL ++ builtL).any fun x => decide (s = x)) = (hasF builtL s || hasF keyL s) := by
  rw [any_sym]
  unfold hasF
  rw [List.any_append, Bool.or_comm]
 rw [e]
 refine spec_of (cx_ok ord0 xs0 0) (fun _ _ h => h) Tryz.func125 rfl (by kernel_rfl) rfl (by kernel_rfl) ?_
 intro _
 conv => whnf
 (refine call0 [] rfl (fun _ => builtins_spec) ?_; rintro r rfl; conv => whnf)
 (refine call0 [] rfl (fun _ => h1) ?_; rintro r rfl; conv => whnf)
 cases hasF builtL s
 ·conv => whnf
  refine call0 [0] rfl (fun _ => h2) ?_
  rintro r rfl
  conv => whnf
  rfl
 ·conv => whnf
  rfl
theorem rnextU {T : List Tk} {s : S6} (hi : s.i < T.length) : SpecU 58 (bxS T s) [.box 0 0] fun c r => c = bxS T s ∧ r = strA (tk6 T s).text := fun y hy => by
 have hr := rowOf_tks6 T s.i hi
 unfold tk6
 refine spec_of (cx_ok ord58 xs0 1) (fun _ _ h => h) Tryz.func58 rfl (by kernel_rfl) rfl (by kernel_rfl) ?_
 intro _
 generalize hd (T.drop s.i) = t at *
 conv => whnf
 (refine goA ?_; try with_reducible exact trivial)
 (generalize hrq : rowOf _ _ (tksL T) = rq; obtain rfl : rq = tkL t := hrq.symm.trans (hr); clear hrq; conv => whnf)
 exact ⟨_, rfl, rfl, rfl⟩
def ordNa (id : Nat) : Tr := match Nat.beq id 1 with | true => .q 0 3 (.q 1 3 (.q 2 3 (.q 3 0 (.q 4 3 (.q 5 3 (.q 6 3 (.q 7 0 (.q 8 3 (.q 9 3 (.q 10 0 (.q 11 3 (.q 12 3 (.q 13 3 (.q 14 3 (.q 15 3 (.q 16 0 (.q 17 3 (.q 18 3 (.q 19 3 (.q 20 0 (.q 21 3 (.q 22 3 (.q 23 0 (.alt 24 1 (.q 25 3 (.q 26 3 (.q 27 3 (.nil)))) (.nil))))))))))))))))))))))))) | false => .nil
theorem rnameU {T : List Tk} {s : S6} (hi : s.i < T.length) : SpecU 95 (bxS T s) [.box 0 0] fun c r => c = bxS T s ∧ r = boolA (isNm (T.drop s.i)) := fun y hy => by
 have hr := rowOf_tks6 T s.i hi
 unfold isNm
 generalize hd (T.drop s.i) = t at *
 have hrs := reserved_spec t.text
 generalize ((keyL ++ builtL).any fun x => decide (t.text = x)) = q at *
 refine spec_of (cx_ok ordNa xs0 1) (fun _ _ h => h) Tryz.func95 rfl (by kernel_rfl) rfl (by kernel_rfl) ?_
 intro _
 conv => whnf
 (refine goA ?_; try with_reducible exact trivial)
 (generalize hrq : rowOf _ _ (tksL T) = rq; obtain rfl : rq = tkL t := hrq.symm.trans (hr); clear hrq; conv => whnf)
 by_cases hk : t.kind = 1
 ·rw [decide_eq_true hk]
  conv => whnf
  (refine goA ?_; try with_reducible exact trivial)
  (generalize hrq : rowOf _ _ (tksL T) = rq; obtain rfl : rq = tkL t := hrq.symm.trans (hr); clear hrq; conv => whnf)
  refine call0 [] rfl (fun _ => hrs) ?_
  rintro r rfl
  conv => whnf
  exact ⟨_, rfl, rfl, rfl⟩
 ·rw [decide_eq_false hk]
  conv => whnf
  exact ⟨_, rfl, rfl, rfl⟩
def stF (T : List Tk) (s : S6) (x : Int) (k : Nat) : S6 := if s.e = 0 then ⟨s.i, (hd (T.drop k)).pos, x⟩ else s
theorem rfailU {T : List Tk} {s : S6} (k : Nat) (hk : k < T.length) (x : Int) : SpecU 96 (bxS T s) [.box 0 0, intA x, .v (.int .i64 k)] fun c r => c = bxS T (stF T s x k) ∧ r = .tup [] := fun y hy => by
 have hr := rowOf_tks6 T k hk
 unfold stF
 generalize hd (T.drop k) = t at *
 refine spec_of (cx_ok ord0 xs0 1) (fun _ _ h => h) Tryz.func96 rfl (by kernel_rfl) rfl (by kernel_rfl) ?_
 intro _
 conv => whnf
 by_cases h0 : s.e = 0
 ·rw [decide_eq_true h0, if_pos h0]
  conv => whnf
  (refine goA ?_; try with_reducible exact trivial)
  (generalize hrq : rowOf _ _ (tksL T) = rq; obtain rfl : rq = tkL t := hrq.symm.trans (hr); clear hrq; conv => whnf)
  exact ⟨_, rfl, rfl, rfl⟩
 ·rw [decide_eq_false h0, if_neg h0]
  conv => whnf
  exact ⟨_, rfl, rfl, rfl⟩
def stT (T : List Tk) (s : S6) : S6 := if s.i + 1 < T.length then ⟨s.i + 1, s.a, s.e⟩ else s
theorem rtakeU {T : List Tk} (hT : Ks T) {s : S6} (hi : s.i < T.length) : SpecU 94 (bxS T s) [.box 0 0] fun c r => c = bxS T (stT T s) ∧ r = .tup [] := fun y hy => by
 have hn := hT.n
 unfold stT
 refine spec_of (cx_ok ord94 xs0 1) (fun _ _ h => h) Tryz.func94 rfl (by kernel_rfl) rfl (by kernel_rfl) ?_
 intro _
 conv => whnf
 by_cases h : s.i + 1 < T.length
 ·rw [if_pos h]
  (refine goA ?_; try with_reducible exact trivial)
  exact ⟨_, rfl, rfl, rfl⟩
 ·rw [if_neg h]
  (refine goA ?_; try with_reducible exact trivial)
  exact ⟨_, rfl, rfl, rfl⟩
def stX (T : List Tk) (s : S6) (w : ByteArray) : S6 := if s.e = 0 then (if (tk6 T s).text = w then stT T s else ⟨s.i, (tk6 T s).pos, 10⟩) else s
theorem rexpectU {T : List Tk} (hT : Ks T) {s : S6} (hi : s.i < T.length) (w : ByteArray) : SpecU 60 (bxS T s) [.box 0 0, strA w] fun c r => c = bxS T (stX T s w) ∧ r = .tup [] := fun y hy => by
 have hnx := rnextU hi y hy
 have hfl := rfailU s.i hi 10 (s := s) y hy
 have htk := rtakeU hT hi y hy
 unfold stX
 refine spec_of (cx_ok ord0 xs0 1) (fun _ _ h => h) Tryz.func60 rfl (by kernel_rfl) rfl (by kernel_rfl) ?_
 intro _
 conv => whnf
 by_cases h0 : s.e = 0
 ·rw [decide_eq_true h0, if_pos h0]
  conv => whnf
  refine call1 0 [] rfl rfl rfl rfl (fun _ => hnx) ?_
  rintro o r ⟨c, ho, rfl, rfl⟩
  cases ho
  by_cases hw : (tk6 T s).text = w
  ·rw [if_pos hw]
   conv => whnf
   rw [decide_eq_true hw]
   conv => whnf
   rw [decide_eq_true h0]
   conv => whnf
   refine call1 0 [] rfl rfl rfl rfl (fun _ => htk) ?_
   rintro o r ⟨c, ho, rfl, rfl⟩
   cases ho
   conv => whnf
   exact ⟨_, rfl, rfl, rfl⟩
  ·rw [if_neg hw]
   unfold stF at hfl
   rw [if_pos h0] at hfl
   conv => whnf
   rw [decide_eq_false hw]
   conv => whnf
   refine call1 0 [] rfl rfl rfl rfl (fun _ => hfl) ?_
   rintro o r ⟨c, ho, rfl, rfl⟩
   cases ho
   conv => whnf
   exact ⟨_, rfl, rfl, rfl⟩
 ·rw [decide_eq_false h0, if_neg h0]
  conv => whnf
  rw [decide_eq_false h0]
  conv => whnf
  exact ⟨_, rfl, rfl, rfl⟩
def stO (T : List Tk) (s : S6) (w : ByteArray) (lv : Int) : S6 := if s.e = 0 ∧ (tk6 T s).text = w ∧ 20 < lv then ⟨s.i, (tk6 T s).pos, 2⟩ else stX T s w
theorem ropenU {T : List Tk} (hT : Ks T) {s : S6} (hi : s.i < T.length) (w : ByteArray) (lv : Int) : SpecU 99 (bxS T s) [.box 0 0, strA w, intA lv] fun c r => c = bxS T (stO T s w lv) ∧ r = .tup [] := fun y hy => by
 have hnx := rnextU hi y hy
 have hfl := rfailU s.i hi 2 (s := s) y hy
 have hxp := rexpectU hT hi w y hy
 have hxq : s.e = 0 → Spec Tryz.prog 60 [bxS T ⟨s.i, (tk6 T s).pos, 2⟩ ++ [.v y]] [.box 0 0, strA w] fun o r => ∃ c, o = [c ++ [.v y]] ∧ c = bxS T ⟨s.i, (tk6 T s).pos, 2⟩ ∧ r = .tup [] := fun h0 => by
  have := rexpectU hT (s := ⟨s.i, (tk6 T s).pos, 2⟩) hi w y hy
  rw [show stX T ⟨s.i, (tk6 T s).pos, 2⟩ w = ⟨s.i, (tk6 T s).pos, 2⟩ from if_neg (show ¬ (2 : Int) = 0 by decide)] at this
  exact this
 unfold stO
 refine spec_of (cx_ok ord0 xs0 1) (fun _ _ h => h) Tryz.func99 rfl (by kernel_rfl) rfl (by kernel_rfl) ?_
 intro _
 conv => whnf
 by_cases h0 : s.e = 0
 ·rw [decide_eq_true h0]
  conv => whnf
  refine call1 0 [] rfl rfl rfl rfl (fun _ => hnx) ?_
  rintro o r ⟨c, ho, rfl, rfl⟩
  cases ho
  by_cases hw : (tk6 T s).text = w
  ·conv => whnf
   rw [decide_eq_true hw]
   conv => whnf
   by_cases hl : 20 < lv
   ·rw [if_pos ⟨h0, hw, hl⟩]
    unfold stF at hfl
    rw [if_pos h0] at hfl
    rw [decide_eq_true hl]
    conv => whnf
    refine call1 0 [] rfl rfl rfl rfl (fun _ => hfl) ?_
    rintro o r ⟨c, ho, rfl, rfl⟩
    cases ho
    conv => whnf
    refine call1 0 [] rfl rfl rfl rfl (fun _ => hxq h0) ?_
    rintro o r ⟨c, ho, rfl, rfl⟩
    cases ho
    conv => whnf
    exact ⟨_, rfl, rfl, rfl⟩
   ·rw [if_neg (fun h => hl h.2.2)]
    rw [decide_eq_false hl]
    conv => whnf
    refine call1 0 [] rfl rfl rfl rfl (fun _ => hxp) ?_
    rintro o r ⟨c, ho, rfl, rfl⟩
    cases ho
    conv => whnf
    exact ⟨_, rfl, rfl, rfl⟩
  ·rw [if_neg (fun h => hw h.2.1)]
   conv => whnf
   rw [decide_eq_false hw]
   conv => whnf
   refine call1 0 [] rfl rfl rfl rfl (fun _ => hxp) ?_
   rintro o r ⟨c, ho, rfl, rfl⟩
   cases ho
   conv => whnf
   exact ⟨_, rfl, rfl, rfl⟩
 ·rw [decide_eq_false h0, if_neg (fun h => h0 h.1)]
  conv => whnf
  refine call1 0 [] rfl rfl rfl rfl (fun _ => hxp) ?_
  rintro o r ⟨c, ho, rfl, rfl⟩
  cases ho
  conv => whnf
  exact ⟨_, rfl, rfl, rfl⟩
def stN (T : List Tk) (s : S6) (m : Int) : S6 := if s.e = 0 then (if (tk6 T s).kind ≠ 2 then ⟨s.i, (tk6 T s).pos, 10⟩ else if m < (tk6 T s).n then ⟨s.i, (tk6 T s).pos, 6⟩ else stT T s) else s
def vaN (T : List Tk) (s : S6) (m : Int) : Int := if s.e = 0 ∧ (tk6 T s).kind = 2 ∧ (tk6 T s).n ≤ m then (tk6 T s).n else 0
theorem rnumU {T : List Tk} (hT : Ks T) {s : S6} (hi : s.i < T.length) (m : Int) : SpecU 98 (bxS T s) [.box 0 0, intA m] fun c r => c = bxS T (stN T s m) ∧ r = intA (vaN T s m) := fun y hy => by
 have hr := rowOf_tks6 T s.i hi
 have hf1 := rfailU s.i hi 10 (s := s) y hy
 have hf2 := rfailU s.i hi 6 (s := s) y hy
 have htk := rtakeU hT hi y hy
 have hgd := (hT.p hi).good
 unfold stF at hf1 hf2
 unfold stN vaN
 change rowOf 4 s.i (tksL T) = tkL (tk6 T s) at hr
 change tkGood (tk6 T s) at hgd
 change Spec _ _ _ _ (fun o r => ∃ c, o = [c ++ [.v y]] ∧ c = bxS T (if s.e = 0 then ⟨s.i, (tk6 T s).pos, 10⟩ else s) ∧ r = .tup []) at hf1
 change Spec _ _ _ _ (fun o r => ∃ c, o = [c ++ [.v y]] ∧ c = bxS T (if s.e = 0 then ⟨s.i, (tk6 T s).pos, 6⟩ else s) ∧ r = .tup []) at hf2
 generalize tk6 T s = t at *
 refine spec_of (cx_ok ord98 xs0 1) (fun _ _ h => h) Tryz.func98 rfl (by kernel_rfl) rfl (by kernel_rfl) ?_
 intro _
 conv => whnf
 (refine goA ?_; try with_reducible exact trivial)
 (generalize hrq : rowOf _ _ (tksL T) = rq; obtain rfl : rq = tkL t := hrq.symm.trans (hr); clear hrq; conv => whnf)
 by_cases hk : t.kind = 2
 ·rw [decide_eq_true hk]
  conv => whnf
  by_cases hm : m < t.n
  ·rw [decide_eq_true hm]
   conv => whnf
   refine call1 0 [] rfl rfl rfl rfl (fun _ => hf2) ?_
   rintro o r ⟨c, ho, rfl, rfl⟩
   cases ho
   by_cases h0 : s.e = 0
   ·rw [if_pos h0, if_pos h0, if_neg (by rw [hk]; simp), if_pos hm, if_neg (fun h => by omega)]
    conv => whnf
    exact ⟨_, rfl, rfl, rfl⟩
   ·rw [if_neg h0, if_neg h0, if_neg (fun h => h0 h.1)]
    conv => whnf
    rw [decide_eq_false h0]
    conv => whnf
    exact ⟨_, rfl, rfl, rfl⟩
  ·rw [decide_eq_false hm]
   conv => whnf
   by_cases h0 : s.e = 0
   ·rw [decide_eq_true h0, if_pos h0, if_neg (by rw [hk]; simp), if_neg hm, if_pos ⟨h0, hk, by omega⟩]
    conv => whnf
    refine call1 0 [] rfl rfl rfl rfl (fun _ => htk) ?_
    rintro o r ⟨c, ho, rfl, rfl⟩
    cases ho
    conv => whnf
    exact ⟨_, rfl, rfl, rfl⟩
   ·rw [decide_eq_false h0, if_neg h0, if_neg (fun h => h0 h.1)]
    conv => whnf
    exact ⟨_, rfl, rfl, rfl⟩
 ·rw [decide_eq_false hk]
  conv => whnf
  refine call1 0 [] rfl rfl rfl rfl (fun _ => hf1) ?_
  rintro o r ⟨c, ho, rfl, rfl⟩
  cases ho
  by_cases h0 : s.e = 0
  ·rw [if_pos h0, if_pos h0, if_pos hk, if_neg (fun h => hk h.2.1)]
   conv => whnf
   exact ⟨_, rfl, rfl, rfl⟩
  ·rw [if_neg h0, if_neg h0, if_neg (fun h => h0 h.1)]
   conv => whnf
   rw [decide_eq_false h0]
   conv => whnf
   exact ⟨_, rfl, rfl, rfl⟩
end Go.Proofs.YtmodkpibkkpcdaaGreatDoor.Vm
namespace Go.Proofs.YtmodkpibkkpcdaaGreatDoor.Vm
open Go.RowKit Go.Shelf
set_option linter.unusedSimpArgs false
set_option linter.unusedVariables false
set_option maxRecDepth 100000
def Ws6 (s : ByteArray) : Prop := ∃ c r, s.data.toList = c :: r ∧ isD c = false
theorem ws6 {c : UInt8} {r : List UInt8} (h : isD c = false) : Ws6 ⟨(c :: r).toArray⟩ := ⟨c, r, rfl, h⟩
theorem isP_eq {s : ByteArray} {ts : List Tk} (hs : Ws6 s) (ht : K6 (hd ts)) : isP s ts = decide ((hd ts).text = s) := by
 obtain ⟨c, r, hs, hc⟩ := hs
 unfold isP
 by_cases h : (hd ts).text = s
 ·rw [decide_eq_true h]
  rcases ht with ⟨h1, _⟩ | ⟨h1, _⟩ | ⟨_, h1⟩ | ⟨_, d, r', h2, h3⟩
  ·rw [decide_eq_true h1]; rfl
  ·rw [decide_eq_true h1]; simp
  ·rw [h, hs] at h1; exact absurd h1 (by simp)
  ·rw [h, hs] at h2
   cases h2
   rw [hc] at h3; cases h3
 ·rw [decide_eq_false h]; rfl
theorem isP_tk {T : List Tk} (hT : Ks T) {s : S6} (hi : s.i < T.length) {w : ByteArray} (hw : Ws6 w) : isP w (T.drop s.i) = decide ((tk6 T s).text = w) := isP_eq hw (hT.hd hi)
theorem anyT_tk {T : List Tk} (hT : Ks T) {s : S6} (hi : s.i < T.length) : ∀ {l : List ByteArray}, (∀ w ∈ l, Ws6 w) → anyT l (T.drop s.i) = hasF l (tk6 T s).text
 | [], _ => rfl
 | w :: l, h => by
  unfold anyT hasF
  rw [List.any_cons, List.any_cons, isP_tk hT hi (h w List.mem_cons_self)]
  have ih := anyT_tk hT hi (l := l) fun x hx => h x (List.mem_cons_of_mem _ hx)
  unfold anyT hasF at ih
  rw [ih]
  congr 1
  by_cases e : (tk6 T s).text = w
  ·rw [decide_eq_true e, decide_eq_true e.symm]
  ·rw [decide_eq_false e, decide_eq_false (fun h => e h.symm)]
def Dq (T : List Tk) (s s' : S6) (P : Pn) (f : Nt) : Prop := s'.i < T.length ∧ (s.e ≠ 0 → s'.a = s.a ∧ s'.e = s.e) ∧ (s.e = 0 → match P with
 | .ok g r => s'.e = 0 ∧ s'.a = s.a ∧ f = g ∧ T.drop s'.i = r
 | .bad x e => e ≠ 0 ∧ s'.e = e ∧ s'.a = x)
variable {T : List Tk}
theorem dq_then {s s1 s2 : S6} {P1 : Pn} {K : Nt → List Tk → Pn} {f1 f2 : Nt} (h1 : Dq T s s1 P1 f1) (h2 : Dq T s1 s2 (K f1 (T.drop s1.i)) f2) : Dq T s s2 (P1.andThen K) f2 := by
 obtain ⟨a1, a2, a3⟩ := h1
 obtain ⟨b1, b2, b3⟩ := h2
 refine ⟨b1, fun h => ?_, fun h => ?_⟩
 ·obtain ⟨q1, q2⟩ := a2 h
  obtain ⟨q3, q4⟩ := b2 (by rw [q2]; exact h)
  exact ⟨q3.trans q1, q4.trans q2⟩
 ·have a3 := a3 h
  cases P1 with
  | ok g r =>
   obtain ⟨q1, q2, rfl, rfl⟩ := a3
   have b3 := b3 q1
   show match K f1 (T.drop s1.i) with | .ok g r => _ | .bad x e => _
   cases hK : K f1 (T.drop s1.i) with
   | ok g2 r2 =>
    rw [hK] at b3
    exact ⟨b3.1, b3.2.1.trans q2, b3.2.2.1, b3.2.2.2⟩
   | bad x e => rw [hK] at b3; exact b3
  | bad x e =>
   obtain ⟨q1, q2, q3⟩ := a3
   obtain ⟨q4, q5⟩ := b2 (by rw [q2]; exact q1)
   exact ⟨q1, q5.trans q2, q4.trans q3⟩
theorem dq_ret {s : S6} (hi : s.i < T.length) (f : Nt) : Dq T s s (.ok f (T.drop s.i)) f := ⟨hi, fun _ => ⟨rfl, rfl⟩, fun h => ⟨h, rfl, rfl, rfl⟩⟩
theorem dq_any {s s' : S6} (hi : s'.i < T.length) (h : s.e ≠ 0) (ha : s'.a = s.a) (he : s'.e = s.e) (P : Pn) (f : Nt) : Dq T s s' P f := ⟨hi, fun _ => ⟨ha, he⟩, fun h0 => absurd h0 h⟩
theorem dq_bad {s s' : S6} (hi : s'.i < T.length) (h : s.e = 0) {x e : Int} (he : e ≠ 0) (h1 : s'.e = e) (h2 : s'.a = x) (f : Nt) : Dq T s s' (.bad x e) f := ⟨hi, fun h0 => absurd h h0, fun _ => ⟨he, h1, h2⟩⟩
theorem dq_pre {s s1 s2 : S6} {P P1 : Pn} {f : Nt} (h2 : Dq T s1 s2 P1 f) (hn : s.e ≠ 0 → s1 = s) (ho : s.e = 0 → (s1.e = 0 ∧ s1.a = s.a ∧ P = P1) ∨ (s1.e ≠ 0 ∧ P = .bad s1.a s1.e)) : Dq T s s2 P f := by
 obtain ⟨b1, b2, b3⟩ := h2
 refine ⟨b1, fun h => ?_, fun h => ?_⟩
 ·have := hn h
  subst this
  exact b2 h
 ·rcases ho h with ⟨q1, q2, rfl⟩ | ⟨q1, rfl⟩
  ·have b3 := b3 q1
   cases P with
   | ok g r => exact ⟨b3.1, b3.2.1.trans q2, b3.2.2.1, b3.2.2.2⟩
   | bad x e => exact b3
  ·obtain ⟨q4, q5⟩ := b2 q1
   exact ⟨q1, q5, q4⟩
theorem stT_next (hT : Ks T) {s : S6} (hi : s.i < T.length) (hk : (tk6 T s).kind ≠ 0) : stT T s = ⟨s.i + 1, s.a, s.e⟩ := by
 unfold stT
 rw [if_pos (hT.next hi hk)]
theorem stT_i {s : S6} (hi : s.i < T.length) : (stT T s).i < T.length := by
 unfold stT
 split
 ·assumption
 ·exact hi
theorem stT_e (s : S6) : (stT T s).e = s.e ∧ (stT T s).a = s.a := by
 unfold stT
 split <;> exact ⟨rfl, rfl⟩
theorem stX_i {s : S6} (hi : s.i < T.length) (w : ByteArray) : (stX T s w).i < T.length := by
 unfold stX
 split
 ·split
  ·exact stT_i hi
  ·exact hi
 ·exact hi
theorem stO_i {s : S6} (hi : s.i < T.length) (w : ByteArray) (lv : Int) : (stO T s w lv).i < T.length := by
 unfold stO
 split
 ·exact hi
 ·exact stX_i hi w
theorem stN_i {s : S6} (hi : s.i < T.length) (m : Int) : (stN T s m).i < T.length := by
 unfold stN
 split
 ·split
  ·exact hi
  ·split
   ·exact hi
   ·exact stT_i hi
 ·exact hi
theorem text_kind (hT : Ks T) {s : S6} (hi : s.i < T.length) {w : ByteArray} (hw : Ws6 w) (h : (tk6 T s).text = w) : (tk6 T s).kind ≠ 0 :=
 isP_kind (ts := T.drop s.i) (s := w) (by rw [isP_tk hT hi hw, h]; simp)
theorem drop_next (hT : Ks T) {s : S6} (hi : s.i < T.length) (hk : (tk6 T s).kind ≠ 0) : T.drop (stT T s).i = (T.drop s.i).tail := by
 rw [stT_next hT hi hk, tail_drop6]
theorem dq_xpt (hT : Ks T) {s s2 : S6} (hi : s.i < T.length) {w : ByteArray} (hw : Ws6 w) {K : List Tk → Pn} {f : Nt} (h2 : Dq T (stX T s w) s2 (K (T.drop (stX T s w).i)) f) : Dq T s s2 (xpt w (T.drop s.i) K) f := by
 refine dq_pre h2 (fun h => by unfold stX; rw [if_neg h]) fun h => ?_
 unfold xpt
 rw [isP_tk hT hi hw]
 unfold stX
 rw [if_pos h]
 by_cases e : (tk6 T s).text = w
 ·left
  rw [if_pos e, if_pos (decide_eq_true e), drop_next hT hi (text_kind hT hi hw e)]
  exact ⟨by rw [(stT_e s).1]; exact h, (stT_e s).2, rfl⟩
 ·right
  rw [if_neg e, if_neg (by rw [decide_eq_false e]; simp)]
  exact ⟨show (10 : Int) ≠ 0 by decide, rfl⟩
theorem dq_num (hT : Ks T) {s s2 : S6} (hi : s.i < T.length) {m : Int} {K : Int → List Tk → Pn} {f : Nt} (h2 : Dq T (stN T s m) s2 (K (vaN T s m) (T.drop (stN T s m).i)) f) : Dq T s s2 (numP (m + 1) (T.drop s.i) K) f := by
 refine dq_pre h2 (fun h => by unfold stN; rw [if_neg h]) fun h => ?_
 have hX : numP (m + 1) (T.drop s.i) K = (if (tk6 T s).kind ≠ 2 then Pn.bad (tk6 T s).pos 10 else if m + 1 ≤ (tk6 T s).n then .bad (tk6 T s).pos 6 else K (tk6 T s).n (T.drop s.i).tail) := rfl
 rw [hX]
 by_cases hk : (tk6 T s).kind = 2
 ·have hk' : ¬ (tk6 T s).kind ≠ 2 := fun h => h hk
  by_cases hm : m < (tk6 T s).n
  ·right
   have e1 : stN T s m = ⟨s.i, (tk6 T s).pos, 6⟩ := by unfold stN; rw [if_pos h, if_neg hk', if_pos hm]
   rw [e1, if_neg hk', if_pos (by omega)]
   exact ⟨show (6 : Int) ≠ 0 by decide, rfl⟩
  ·left
   have e1 : stN T s m = stT T s := by unfold stN; rw [if_pos h, if_neg hk', if_neg hm]
   have e2 : vaN T s m = (tk6 T s).n := by unfold vaN; rw [if_pos ⟨h, hk, by omega⟩]
   rw [e1, e2, if_neg hk', if_neg (by omega), drop_next hT hi (by rw [hk]; decide)]
   exact ⟨by rw [(stT_e s).1]; exact h, (stT_e s).2, rfl⟩
 ·right
  have e1 : stN T s m = ⟨s.i, (tk6 T s).pos, 10⟩ := by unfold stN; rw [if_pos h, if_pos hk]
  rw [e1, if_pos hk]
  exact ⟨show (10 : Int) ≠ 0 by decide, rfl⟩
def RU (T : List Tk) (s : S6) (op : List Tk → Pn) (c : List A) (r : A) : Prop := ∃ s' f, Dq T s s' (op (T.drop s.i)) f ∧ c = bxS T s' ∧ r = .agg (ntA f)
def RW (T : List Tk) (s : S6) (op : List Tk → Pn) (c : List A) (r : A) : Prop := ∃ s' f l, Dq T s s' (op (T.drop s.i)) f ∧ c = bxS T s' ∧ r = .agg l ∧ WkL l (ntA f)
theorem rw_of {g : Nat} {cs args : List A} {s : S6} {op : List Tk → Pn} (h : SpecU g cs args (RW T s op)) : SpecU g cs args (RU T s op) :=
 h.weaken fun c r ⟨s', f, l, h1, h2, h3, h4⟩ => ⟨c, .agg (ntA f), ⟨s', f, h1, h2, rfl⟩, rfl, by rw [h3]; exact .agg h4⟩
theorem RU.w {s : S6} {op : List Tk → Pn} {c : List A} {r : A} (h : RU T s op c r) : RW T s op c r := by
 obtain ⟨s', f, h1, h2, h3⟩ := h
 exact ⟨s', f, _, h1, h2, h3, wkL_refl _⟩
def XSpec (T : List Tk) (lv prec : Int) (op : List Tk → Pn) : Prop := ∀ s : S6, s.i < T.length → SpecU 126 (bxS T s) [.box 0 0, intA lv, intA prec] (RU T s op)
def USpec (T : List Tk) (g : Nat) (lv : Int) (op : List Tk → Pn) : Prop := ∀ s : S6, s.i < T.length → SpecU g (bxS T s) [.box 0 0, intA lv] (RU T s op)
theorem xerr {lv prec : Int} {s : S6} (hi : s.i < T.length) (he : s.e ≠ 0) (op : List Tk → Pn) : SpecU 126 (bxS T s) [.box 0 0, intA lv, intA prec] (RU T s op) := rw_of fun y hy => by
 refine spec_of (cx_ok ord0 xs0 1) (fun _ _ h => h) Tryz.func126 rfl (by kernel_rfl) rfl (by kernel_rfl) ?_
 intro _
 conv => whnf
 rw [decide_eq_false he]
 conv => whnf
 exact ⟨_, rfl, s, .mk 0 0 eB [], _, dq_any hi he rfl rfl _ _, rfl, rfl, rawN_wk (f := .mk 0 0 eB []) rfl⟩
end Go.Proofs.YtmodkpibkkpcdaaGreatDoor.Vm
namespace Go.Proofs.YtmodkpibkkpcdaaGreatDoor.Vm
open Go.RowKit Go.Shelf
set_option linter.unusedSimpArgs false
set_option linter.unusedVariables false
set_option maxRecDepth 100000
def opx (sel : Pa → List Tk → Pn) : Option Pa → List Tk → Pn
 | none => fun _ => .bad 0 1
 | some p => sel p
def LowR6 (T : List Tk) (lv : Int) (low : Option Pa) : Prop := 0 ≤ lv ∧ ((low = none ∧ lv = 20) ∨ ∃ p, low = some p ∧ lv + 1 ≤ 20 ∧
 XSpec T (lv + 1) 3 p.no ∧ XSpec T (lv + 1) 7 p.un ∧ XSpec T (lv + 1) 1 p.ex ∧ USpec T 62 (lv + 1) p.bl)
theorem LowR6.le {T : List Tk} {lv : Int} {low : Option Pa} (h : LowR6 T lv low) : 0 ≤ lv ∧ lv ≤ 20 := by
 obtain ⟨h0, ⟨_, rfl⟩ | ⟨_, _, h, _⟩⟩ := h
 ·omega
 ·omega
variable {T : List Tk}
theorem stO_le {s : S6} {w : ByteArray} {lv : Int} (h : lv ≤ 20) : stO T s w lv = stX T s w := by
 unfold stO
 rw [if_neg (fun k => by omega)]
theorem stO_deep (s : S6) (w : ByteArray) : (stO T s w 21).e ≠ 0 := by
 unfold stO
 by_cases h : s.e = 0 ∧ (tk6 T s).text = w ∧ (20 : Int) < 21
 ·rw [if_pos h]; exact show (2 : Int) ≠ 0 by decide
 ·rw [if_neg h]
  unfold stX
  by_cases h0 : s.e = 0
  ·rw [if_pos h0, if_neg (fun e => h ⟨h0, e, by decide⟩)]
   exact show (10 : Int) ≠ 0 by decide
  ·rw [if_neg h0]; exact h0
theorem low_x {lv prec : Int} {low : Option Pa} {sel : Pa → List Tk → Pn} (hlo : LowR6 T lv low) (hsel : ∀ p, low = some p → XSpec T (lv + 1) prec (sel p)) (s : S6) (hi : s.i < T.length) (w : ByteArray) :
  SpecU 126 (bxS T (stO T s w (lv + 1))) [.box 0 0, intA (lv + 1), intA prec] (RU T (stO T s w (lv + 1)) (opx sel low)) := by
 obtain ⟨h0, ⟨rfl, rfl⟩ | ⟨p, rfl, hle, _⟩⟩ := hlo
 ·exact xerr (stO_i hi w _) (stO_deep s w) _
 ·exact hsel p rfl _ (stO_i hi w _)
theorem stX_err {s : S6} (h : s.e ≠ 0) (w : ByteArray) : stX T s w = s := by unfold stX; rw [if_neg h]
theorem deep_dq (hT : Ks T) {s s2 s3 : S6} (hi : s.i < T.length) {w : ByteArray} (hw : Ws6 w) {P : Pn} {f : Nt} (h2 : Dq T (stO T s w 21) s2 P f) (hs : s3.i < T.length ∧ (s2.e ≠ 0 → s3.a = s2.a ∧ s3.e = s2.e)) (g : Nt) :
  Dq T s s3 (if isP w (T.drop s.i) = true then .bad (hd (T.drop s.i)).pos 2 else synE (T.drop s.i)) g := by
 have hd := stO_deep (T := T) s w
 obtain ⟨q1, q2⟩ := h2.2.1 hd
 obtain ⟨q3, q4⟩ := hs.2 (by rw [q2]; exact hd)
 refine ⟨hs.1, fun h => ?_, fun h => ?_⟩
 ·have : stO T s w 21 = s := by
   unfold stO
   rw [if_neg (fun k => h k.1), stX_err h]
  rw [this] at q1 q2
  exact ⟨q3.trans q1, q4.trans q2⟩
 ·rw [isP_tk hT hi hw]
  by_cases e : (tk6 T s).text = w
  ·rw [if_pos (decide_eq_true e)]
   have : stO T s w 21 = ⟨s.i, (tk6 T s).pos, 2⟩ := by unfold stO; rw [if_pos ⟨h, e, by decide⟩]
   rw [this] at q1 q2
   exact ⟨by decide, q4.trans q2, q3.trans q1⟩
  ·rw [if_neg (by rw [decide_eq_false e]; simp)]
   have : stO T s w 21 = ⟨s.i, (tk6 T s).pos, 10⟩ := by
    unfold stO stX
    rw [if_neg (fun k => e k.2.1), if_pos h, if_neg e]
   rw [this] at q1 q2
   exact ⟨by decide, q4.trans q2, q3.trans q1⟩
theorem nest_dq (hT : Ks T) {lv : Int} {low : Option Pa} (hlo : LowR6 T lv low) {s s2 : S6} (hi : s.i < T.length) {f : Nt} (h2 : Dq T (stO T s pLp (lv + 1)) s2 (opx (·.ex) low (T.drop (stO T s pLp (lv + 1)).i)) f) :
  Dq T s (stX T s2 pRp) (nestG low (T.drop s.i)) f := by
 have hi2 := h2.1
 obtain ⟨h0, ⟨rfl, rfl⟩ | ⟨p, rfl, hle, _⟩⟩ := hlo
 ·exact deep_dq hT hi (ws6 (by decide)) h2 ⟨stX_i hi2 _, fun h => by rw [stX_err h]; exact ⟨rfl, rfl⟩⟩ f
 ·rw [stO_le (by omega)] at h2
  exact dq_xpt hT hi (ws6 (by decide)) (K := fun r => (p.ex r).andThen fun n r => xpt pRp r fun r' => .ok n r') (dq_then h2 (dq_xpt hT hi2 (ws6 (by decide)) (dq_ret (stX_i hi2 _) f)))
theorem pre_dq (hT : Ks T) {lv : Int} {low : Option Pa} (hlo : LowR6 T lv low) {sel : Pa → List Tk → Pn} {s s2 : S6} (hi : s.i < T.length) {w : ByteArray} (hw : Ws6 w) (htx : s.e = 0 → (tk6 T s).text = w) {f : Nt} (h2 : Dq T (stO T s w (lv + 1)) s2 (opx sel low (T.drop (stO T s w (lv + 1)).i)) f) :
  Dq T s s2 (preG w (low.map sel) (T.drop s.i)) (.mk 17 0 w [f]) := by
 by_cases he : s.e = 0
 ·have hp : isP w (T.drop s.i) = true := by rw [isP_tk hT hi hw]; exact decide_eq_true (htx he)
  obtain ⟨h0, ⟨rfl, rfl⟩ | ⟨p, rfl, hle, _⟩⟩ := hlo
  ·have := deep_dq hT hi hw h2 ⟨h2.1, fun _ => ⟨rfl, rfl⟩⟩ (.mk 17 0 w [f])
   rw [if_pos hp] at this
   exact this
  ·rw [stO_le (by omega)] at h2
   have := dq_xpt hT hi hw (K := fun r => (sel p r).andThen fun n r => .ok (.mk 17 0 w [n]) r) (dq_then h2 (dq_ret h2.1 (.mk 17 0 w [f])))
   unfold xpt at this
   rw [if_pos hp] at this
   exact this
 ·have hs : stO T s w (lv + 1) = s := by
   unfold stO
   rw [if_neg (fun k => he k.1), stX_err he]
  rw [hs] at h2
  obtain ⟨q1, q2⟩ := h2.2.1 he
  exact dq_any h2.1 he q1 q2 _ _
theorem rnested {lv : Int} {low : Option Pa} (hT : Ks T) (hlo : LowR6 T lv low) : USpec T 181 lv (nestG low) := fun s hi y hy => by
 have hle := hlo.le
 have hop := ropenU hT hi pLp (lv + 1) y hy
 have hx := low_x hlo (sel := (·.ex)) (prec := 1) (fun p hp => by
  obtain ⟨_, ⟨h, _⟩ | ⟨q, hq, _, _, _, h, _⟩⟩ := hlo
  ·rw [h] at hp; cases hp
  ·rw [hq] at hp; cases hp; exact h) s hi pLp y hy
 have hdq := fun s2 f => nest_dq hT hlo (s := s) (s2 := s2) (f := f) hi
 have hi1 := stO_i hi pLp (lv + 1)
 generalize stO T s pLp (lv + 1) = s1 at *
 refine spec_of (cx_ok ord0 xs0 1) (fun _ _ h => h) Tryz.func181 rfl (by kernel_rfl) rfl (by kernel_rfl) ?_
 intro _
 conv => whnf
 refine ⟨i64r (by omega), ?_⟩
 conv => whnf
 refine call1 0 [] rfl rfl rfl rfl (fun _ => hop) ?_
 rintro o r ⟨c, ho, rfl, rfl⟩
 cases ho
 conv => whnf
 refine ⟨i64r (by omega), ?_⟩
 conv => whnf
 refine call1 0 [] rfl rfl rfl rfl (fun _ => hx) ?_
 rintro o r ⟨c, ho, s2, f, hq, rfl, rfl⟩
 cases ho
 have hxp := rexpectU hT hq.1 pRp y hy
 conv => whnf
 refine call1 0 [] rfl rfl rfl rfl (fun _ => hxp) ?_
 rintro o r ⟨c, ho, rfl, rfl⟩
 cases ho
 conv => whnf
 exact ⟨_, rfl, _, f, hdq _ _ hq, rfl, rfl⟩
theorem runary {lv prec : Int} {low : Option Pa} (hT : Ks T) (hlo : LowR6 T lv low) {sel : Pa → List Tk → Pn} (hsel : ∀ p, low = some p → XSpec T (lv + 1) prec (sel p)) {w : ByteArray} (hw : Ws6 w) (s : S6) (hi : s.i < T.length) (htx : s.e = 0 → (tk6 T s).text = w) :
  SpecU 148 (bxS T s) [.box 0 0, strA w, intA lv, intA prec] (RU T s (preG w (low.map sel))) := fun y hy => by
 have hle := hlo.le
 have hop := ropenU hT hi w (lv + 1) y hy
 have hx := low_x hlo hsel s hi w y hy
 have hdq := fun s2 f => pre_dq hT hlo (sel := sel) (s := s) (s2 := s2) (f := f) hi hw htx
 have hi1 := stO_i hi w (lv + 1)
 generalize stO T s w (lv + 1) = s1 at *
 refine spec_of (cx_ok ord0 xs0 1) (fun _ _ h => h) Tryz.func148 rfl (by kernel_rfl) rfl (by kernel_rfl) ?_
 intro _
 conv => whnf
 refine ⟨i64r (by omega), ?_⟩
 conv => whnf
 refine call1 0 [] rfl rfl rfl rfl (fun _ => hop) ?_
 rintro o r ⟨c, ho, rfl, rfl⟩
 cases ho
 conv => whnf
 refine ⟨i64r (by omega), ?_⟩
 conv => whnf
 refine call1 0 [] rfl rfl rfl rfl (fun _ => hx) ?_
 rintro o r ⟨c, ho, s2, f, hq, rfl, rfl⟩
 cases ho
 conv => whnf
 exact ⟨_, rfl, _, .mk 17 0 w [f], hdq _ _ hq, rfl, by rw [ntA_one]; rfl⟩
end Go.Proofs.YtmodkpibkkpcdaaGreatDoor.Vm
namespace Go.Proofs.YtmodkpibkkpcdaaGreatDoor.Vm
open Go.RowKit Go.Shelf
set_option linter.unusedSimpArgs false
set_option linter.unusedVariables false
set_option maxRecDepth 100000
variable {T : List Tk}
theorem dq_take (hT : Ks T) {s s2 : S6} (hi : s.i < T.length) (h0 : s.e = 0) (hk : (tk6 T s).kind ≠ 0) {P : List Tk → Pn} {f : Nt} (h2 : Dq T (stT T s) s2 (P (T.drop (stT T s).i)) f) : Dq T s s2 (P (T.drop s.i).tail) f :=
 dq_pre h2 (fun h => absurd h0 h) fun _ => .inl ⟨by rw [(stT_e s).1]; exact h0, (stT_e s).2, by rw [drop_next hT hi hk]⟩
theorem dq_leaf (hT : Ks T) {s : S6} (hi : s.i < T.length) (h0 : s.e = 0) (hk : (tk6 T s).kind ≠ 0) (f : Nt) : Dq T s (stT T s) (.ok f (T.drop s.i).tail) f :=
 dq_take hT hi h0 hk (P := fun r => .ok f r) (dq_ret (stT_i hi) f)
def binF (k : Nat) (op : List Tk → Pn) (signs : List ByteArray) (ts : List Tk) : Pn := (op ts).andThen fun f r => chnGo op signs (if k = 4 then 1 else r.length) f r
def opsA : List A := [.v (.slice none 0 0), .sl 1 1 [strA pOr], .sl 1 1 [strA pAnd], .v (.slice none 0 0), .sl 1 6 [strA pLt, strA pLe, strA pGt, strA pGe, strA pEqq, strA pNe], .sl 1 2 [strA pPlus, strA pMinus], .sl 1 2 [strA pStar, strA pSlash]]
def BSpec (T : List Tk) (lv : Int) (k : Nat) (op : List Tk → Pn) : Prop := ∀ s : S6, s.i < T.length → SpecU 149 (bxS T s) [.box 0 0, intA lv, .v (.int .i64 k)] (RU T s op)
theorem chn_stop {op : List Tk → Pn} {signs : List ByteArray} {n : Nat} {l : Nt} {ts : List Tk} (h : anyT signs ts = false) : chnGo op signs n l ts = .ok l ts := by
 cases n with
 | zero => rfl
 | succ m => rw [chnGo, if_neg (by rw [h]; simp)]
def ordBi (id : Nat) : Tr := match Nat.beq id 3 with
 | true => .q 0 3 (.q 1 3 (.q 2 3 (.q 3 0 (.q 4 3 (.q 5 3 (.q 6 3 (.q 7 3 (.q 8 3 (.q 10 3 (.alt 9 2 (.alt 11 2 (.alt 12 2 (.q 13 3 .nil) .nil) .nil) (.alt 11 2 (.alt 9 2 (.alt 12 2 (.q 13 3 .nil) .nil) .nil) .nil)))))))))))
 | false => .nil
set_option maxHeartbeats 1000000 in
theorem rbinary {lv : Int} (hT : Ks T) (k : Nat) (hk6 : k ≤ 6) {signs : List ByteArray} {op : List Tk → Pn} (hlen : signs.length ≤ 10) (hrow : rowOf 1 k opsA = [.sl 1 signs.length (strsA signs)]) (hsg : ∀ w ∈ signs, Ws6 w) (hx : XSpec T lv (k + 1) op) (hgo : GoesP op) : BSpec T lv k (binF k op signs) := fun s0 hi0 y hy => by
 obtain ⟨P, hP⟩ : ∃ P, binF k op signs (T.drop s0.i) = P := ⟨_, rfl⟩
 unfold RU
 rw [hP]
 unfold binF at hP
 have hx0 := hx s0 hi0 y hy
 obtain ⟨oA, hoA⟩ : ∃ oA, opsA = oA := ⟨_, rfl⟩
 rw [hoA] at hrow
 unfold opsA at hoA
 have hol : oA.length = 7 := by rw [← hoA]; rfl
 refine spec_of (cx_ok ordBi xs0 1) (fun _ _ h => h) Tryz.func149 rfl (by kernel_rfl) rfl (by kernel_rfl) ?_
 intro _
 conv => whnf
 refine ⟨i64r (by omega), ?_⟩
 conv => whnf
 refine call1 0 [] rfl rfl rfl rfl (fun _ => hx0) ?_
 rintro o r ⟨c, ho, s1, f1, hq1, rfl, rfl⟩
 cases ho
 conv => whnf
 refine loop_pub [5] ?_
 conv => whnf
 refine loop_keep [0, 1, 2, 6, 8] ?_
 conv => whnf
 refine loop_go (fun _ : Nat × Nt × S6 => [(7, .sl 1 7 oA)]) (fun x => [bxS T x.2.2 ++ [.v y], zero4, ntA x.2.1]) (fun _ => []) (fun x => x.2.2.i < T.length ∧ (k = 4 → x.1 = 1) ∧ (k ≠ 4 → x.2.2.e = 0 → (T.drop x.2.2.i).length ≤ x.1) ∧ ∀ s' f', Dq T x.2.2 s' (chnGo op signs x.1 x.2.1 (T.drop x.2.2.i)) f' → Dq T s0 s' P f') (fun x => if x.2.2.e = 0 then T.length - x.2.2.i + 1 else 0) (if k = 4 then 1 else (T.drop s1.i).length, f1, s1) ?_ ⟨hq1.1, fun h => if_pos h, fun h _ => by simp only; rw [if_neg h]; exact Nat.le_refl _, fun s' f' h => by rw [← hP]; exact dq_then hq1 h⟩ ?_
 ·rw [← hoA]
  repeat' constructor
 rintro ⟨n, left, s⟩ ⟨hi, hn4, hn, hinv⟩
 simp only at hi hn4 hn hinv
 have hnx := rnextU hi y hy
 have htk := rtakeU hT hi y hy
 have hhs := has6_spec signs (tk6 T s).text (by omega)
 have hat := anyT_tk hT hi hsg
 conv => whnf
 by_cases h0 : s.e = 0
 ·apply join_eq
  ·conv => whnf
   rw [decide_eq_true h0]
   conv => whnf
   refine ⟨by omega, ?_⟩
   conv => whnf
   refine ⟨?_, ?_⟩
   ·conv => whnf
    (generalize hrq : rowOf _ _ (oA) = rq; obtain rfl : rq = [.sl 1 signs.length (strsA signs)] := hrq.symm.trans (hrow); clear hrq; conv => whnf)
    refine call1 0 [] rfl rfl rfl rfl (fun _ => hnx) ?_
    rintro o r ⟨c, ho, rfl, rfl⟩
    cases ho
    conv => whnf
    (refine call0 [] rfl (fun _ => hhs) ?_; rintro r rfl; conv => whnf)
   ·conv => whnf
    refine call1 0 [] rfl rfl rfl rfl (fun _ => hnx) ?_
    rintro o r ⟨c, ho, rfl, rfl⟩
    cases ho
    conv => whnf
    (generalize hrq : rowOf _ _ (oA) = rq; obtain rfl : rq = [.sl 1 signs.length (strsA signs)] := hrq.symm.trans (hrow); clear hrq; conv => whnf)
    (refine call0 [] rfl (fun _ => hhs) ?_; rintro r rfl; conv => whnf)
  conv => whnf
  cases hq : hasF signs (tk6 T s).text with
  | true =>
   rw [hq] at hat
   obtain ⟨n1, rfl⟩ : ∃ n1, n = n1 + 1 := by
    by_cases h4 : k = 4
    ·exact ⟨0, hn4 h4⟩
    ·have := hn h4 h0
     rw [List.length_drop] at this
     exact ⟨n - 1, by omega⟩
   have hkd : (tk6 T s).kind ≠ 0 := by
    obtain ⟨w, hw⟩ := anyT_is hat
    exact isP_kind hw
   have hst := stT_next hT hi hkd
   have hin := hT.next hi hkd
   rw [chnGo, if_pos hat] at hinv
   have hx1 := hx (stT T s) (stT_i hi) y hy
   have hdt : T.drop (stT T s).i = (T.drop s.i).tail := drop_next hT hi hkd
   have hgo1 := fun f r (e : op (T.drop (stT T s).i) = .ok f r) => hgo _ _ _ (hT.p (stT_i hi)) e
   conv => whnf
   refine call1 0 [] rfl rfl rfl rfl (fun _ => hnx) ?_
   rintro o r ⟨c, ho, rfl, rfl⟩
   cases ho
   conv => whnf
   refine call1 0 [] rfl rfl rfl rfl (fun _ => htk) ?_
   rintro o r ⟨c, ho, rfl, rfl⟩
   cases ho
   conv => whnf
   refine ⟨i64r (by omega), ?_⟩
   conv => whnf
   refine call1 0 [] rfl rfl rfl rfl (fun _ => hx1) ?_
   rintro o r ⟨c, ho, s2, f2, hq2, rfl, rfl⟩
   cases ho
   have hstep : ∀ s' f', Dq T s2 s' (chnGo op signs n1 (.mk 18 0 (tk6 T s).text [left, f2]) (T.drop s2.i)) f' → Dq T s0 s' P f' := fun s' f' h => by
    refine hinv s' f' (dq_take hT hi h0 hkd (P := fun r => (op r).andThen fun f r => chnGo op signs n1 (.mk 18 0 (hd (T.drop s.i)).text [left, f]) r) (dq_then hq2 h))
   conv => whnf
   by_cases h4 : k = 4
   ·rw [decide_eq_true (show (k : Int) = 4 by omega)]
    have hn1 : n1 = 0 := by have := hn4 h4; omega
    subst hn1
    conv => whnf
    refine ⟨_, rfl, s2, .mk 18 0 (tk6 T s).text [left, f2], hstep _ _ (dq_ret hq2.1 _), rfl, by rw [ntA_two]; rfl⟩
   ·rw [decide_eq_false (show ¬ (k : Int) = 4 by omega)]
    conv => whnf
    have hlt : s2.e = 0 → (T.drop s2.i).length + 1 ≤ (T.drop s.i).length := fun e2 => by
     have h5 := hq2.2.2 (by rw [(stT_e s).1]; exact h0)
     cases hop : op (T.drop (stT T s).i) with
     | ok g r =>
      rw [hop] at h5
      have h6 := (hgo1 g r hop).2
      rw [h5.2.2.2]
      rw [hdt, List.length_tail, List.length_drop] at h6
      rw [List.length_drop]
      omega
     | bad x e =>
      rw [hop] at h5
      exact absurd (h5.2.1.symm.trans e2) h5.1
    refine ⟨(n1, .mk 18 0 (tk6 T s).text [left, f2], s2), le_pubH [0] [] ?_, ⟨hq2.1, fun h => absurd h h4, fun _ e2 => ?_, hstep⟩, ?_⟩
    ·conv => whnf
     repeat' constructor
     show A.sl 4 2 _ = A.sl 4 2 (ntsA [left, f2])
     rw [ntsA_cons, ntsA_cons, ntsA_nil]; rfl
    ·have h5 := hn h4 h0
     have h6 := hlt e2
     simp only
     omega
    ·simp only
     rw [if_pos h0]
     by_cases e2 : s2.e = 0
     ·have h6 := hlt e2
      rw [List.length_drop, List.length_drop] at h6
      rw [if_pos e2]
      omega
     ·rw [if_neg e2]; omega
  | false =>
   rw [hq] at hat
   conv => whnf
   exact ⟨_, rfl, s, left, hinv _ _ (by rw [chn_stop hat]; exact dq_ret hi _), rfl, rfl⟩
 ·apply join_eq
  ·conv => whnf
   rw [decide_eq_false h0]
   conv => whnf
   refine ⟨?_, ?_⟩ <;> (conv => whnf)
  conv => whnf
  exact ⟨_, rfl, s, left, hinv _ _ (dq_any hi h0 rfl rfl _ _), rfl, rfl⟩
end Go.Proofs.YtmodkpibkkpcdaaGreatDoor.Vm
namespace Go.Proofs.YtmodkpibkkpcdaaGreatDoor.Vm
open Go.RowKit Go.Shelf
set_option linter.unusedSimpArgs false
set_option linter.unusedVariables false
set_option maxRecDepth 100000
variable {T : List Tk}
theorem built_L : ∀ w ∈ builtL, ∃ c r, w.data.toList = c :: r ∧ isL c = true := by
 intro w hw
 simp only [builtL, List.mem_cons, List.not_mem_nil, or_false] at hw
 rcases hw with rfl | rfl | rfl | rfl | rfl | rfl | rfl | rfl | rfl <;> exact ⟨_, _, rfl, by decide⟩
theorem has_built {t : Tk} (h : K6 t) (hb : hasF builtL t.text = true) : t.kind = 1 := by
 obtain ⟨w, hw, e⟩ := List.any_eq_true.1 hb
 have e := of_decide_eq_true e
 obtain ⟨c, r, h1, h2⟩ := built_L w hw
 rw [e] at h1
 rcases h with ⟨hk, _⟩ | ⟨_, d, r', h3, h4⟩ | ⟨_, h3⟩ | ⟨_, d, r', h3, h4⟩
 ·exact hk
 ·rw [h1] at h3
  cases h3
  unfold isLD at h4
  rw [h2] at h4; cases h4
 ·rw [h1] at h3; cases h3
 ·rw [h1] at h3
  cases h3
  rw [isL_D h2] at h4; cases h4
theorem isBi_eq {ts : List Tk} (h : K6 (hd ts)) : isBi ts = hasF builtL (hd ts).text := by
 unfold isBi
 rw [any_sym]
 cases hb : hasF builtL (hd ts).text
 ·rw [Bool.and_false]
 ·rw [has_built h hb]; rfl
theorem isNm_built {ts : List Tk} (h : hasF builtL (hd ts).text = true) : isNm ts = false := by
 have h2 : (keyL ++ builtL).any (fun s => decide ((hd ts).text = s)) = true := by
  rw [List.any_append, any_sym builtL, h, Bool.or_true]
 have : isNm ts = (decide ((hd ts).kind = 1) && !(keyL ++ builtL).any fun s => decide ((hd ts).text = s)) := rfl
 rw [this, h2, Bool.not_true, Bool.and_false]
set_option maxHeartbeats 1000000 in
theorem rprimary {lv : Int} {low : Option Pa} (hT : Ks T) (hlo : LowR6 T lv low) (s : S6) (hi : s.i < T.length) (h0 : s.e = 0) : SpecU 150 (bxS T s) [.box 0 0, intA lv] (RU T s (primG low)) := rw_of fun y hy => by
 obtain ⟨P, hP⟩ : ∃ P, primG low (T.drop s.i) = P := ⟨_, rfl⟩
 unfold RW
 rw [hP]
 have hr := rowOf_tks6 T s.i hi
 have hne := rnested hT hlo
 have hk6 := hT.hd hi
 have hnm := rnameU hi y hy
 have hfl := rfailU s.i hi 10 (s := s) y hy
 have hbi := isBi_eq hk6
 have hnb := isNm_built (ts := T.drop s.i)
 have htk := fun (w : ByteArray) (hw : Ws6 w) (h : (tk6 T s).text = w) => text_kind hT hi hw h
 have hkk := fun (f : Nt) (h : (tk6 T s).kind ≠ 0) => dq_leaf hT hi h0 h f
 have hnk := fun h => isNm_kind (ts := T.drop s.i) h
 have hhs := has6_spec builtL (tk6 T s).text (by decide)
 have hsy : synE (T.drop s.i) = .bad (tk6 T s).pos 10 := rfl
 unfold stF at hfl
 rw [if_pos h0] at hfl
 unfold primG at hP
 rw [isP_tk hT hi (w := pLp) (ws6 (by decide)), isP_tk hT hi (w := wDraw) (ws6 (by decide)), isP_tk hT hi (w := wTrue) (ws6 (by decide)), isP_tk hT hi (w := wFalse) (ws6 (by decide)), hbi, hsy] at hP
 change rowOf 4 s.i (tksL T) = tkL (tk6 T s) at hr
 obtain ⟨t, ht⟩ : ∃ t, tk6 T s = t := ⟨_, rfl⟩
 have hht : hd (T.drop s.i) = t := ht
 have hta := rtakeU hT hi y hy
 rw [ht] at hr hP hkk hhs
 simp only [ht] at htk
 rw [hht] at hP hnb hnk hfl
 refine spec_of (cx_ok ord150 xs0 1) (fun _ _ h => h) Tryz.func150 rfl (by kernel_rfl) rfl (by kernel_rfl) ?_
 intro _
 conv => whnf
 (refine goA ?_; try with_reducible exact trivial)
 (generalize hrq : rowOf _ _ (tksL T) = rq; obtain rfl : rq = tkL t := hrq.symm.trans (hr); clear hrq; conv => whnf)
 conv => whnf
 by_cases h1 : t.text = pLp
 ·rw [decide_eq_true (p := t.text = ⟨_⟩) h1]
  rw [if_pos (decide_eq_true h1)] at hP
  have hn := hne s hi y hy
  unfold RU at hn
  rw [hP] at hn
  conv => whnf
  refine call1 0 [] rfl rfl rfl rfl (fun _ => hn) ?_
  rintro o r ⟨c, ho, s2, f, hq, rfl, rfl⟩
  cases ho
  conv => whnf
  exact ⟨_, rfl, s2, f, _, hq, rfl, rfl, wkL_refl _⟩
 rw [decide_eq_false (p := t.text = ⟨_⟩) h1]
 rw [if_neg (by rw [decide_eq_false h1]; simp)] at hP
 conv => whnf
 by_cases h2 : t.text = wDraw
 ·rw [decide_eq_true (p := t.text = ⟨_⟩) h2]
  rw [if_pos (decide_eq_true h2)] at hP
  have hkd := htk _ (ws6 (by decide)) h2
  have hn := hne (stT T s) (stT_i hi) y hy
  conv => whnf
  refine call1 0 [] rfl rfl rfl rfl (fun _ => hta) ?_
  rintro o r ⟨c, ho, rfl, rfl⟩
  cases ho
  conv => whnf
  refine call1 0 [] rfl rfl rfl rfl (fun _ => hn) ?_
  rintro o r ⟨c, ho, s2, f, hq, rfl, rfl⟩
  cases ho
  conv => whnf
  refine ⟨_, rfl, s2, .mk 16 0 eB [f], _, ?_, rfl, rfl, ?_⟩
  ·rw [← hP]
   exact dq_take hT hi h0 (by rw [ht]; exact hkd) (P := fun r => (nestG low r).andThen fun n r => .ok (.mk 16 0 eB [n]) r) (dq_then hq (dq_ret hq.1 _))
  ·rw [ntA_one]; exact wkL_refl _
 rw [decide_eq_false (p := t.text = ⟨_⟩) h2]
 rw [if_neg (by rw [decide_eq_false h2]; simp)] at hP
 conv => whnf
 by_cases h3 : t.kind = 2
 ·rw [decide_eq_true h3]
  rw [if_pos h3] at hP
  conv => whnf
  refine call1 0 [] rfl rfl rfl rfl (fun _ => hta) ?_
  rintro o r ⟨c, ho, rfl, rfl⟩
  cases ho
  subst hP
  conv => whnf
  exact ⟨_, rfl, _, (.mk 12 t.n eB []), _, hkk _ (by rw [h3]; decide), rfl, rfl, rawN_wk (f := (.mk 12 t.n eB [])) rfl⟩
 rw [decide_eq_false h3]
 rw [if_neg h3] at hP
 conv => whnf
 by_cases h4 : t.text = wTrue
 ·rw [decide_eq_true (p := t.text = ⟨_⟩) h4]
  rw [if_pos (decide_eq_true h4)] at hP
  conv => whnf
  refine call1 0 [] rfl rfl rfl rfl (fun _ => hta) ?_
  rintro o r ⟨c, ho, rfl, rfl⟩
  cases ho
  subst hP
  conv => whnf
  exact ⟨_, rfl, _, (.mk 13 1 eB []), _, hkk _ (htk _ (ws6 (by decide)) h4), rfl, rfl, rawN_wk (f := (.mk 13 1 eB [])) rfl⟩
 rw [decide_eq_false (p := t.text = ⟨_⟩) h4]
 rw [if_neg (by rw [decide_eq_false h4]; simp)] at hP
 conv => whnf
 by_cases h5 : t.text = wFalse
 ·rw [decide_eq_true (p := t.text = ⟨_⟩) h5]
  rw [if_pos (decide_eq_true h5)] at hP
  conv => whnf
  refine call1 0 [] rfl rfl rfl rfl (fun _ => hta) ?_
  rintro o r ⟨c, ho, rfl, rfl⟩
  cases ho
  subst hP
  conv => whnf
  exact ⟨_, rfl, _, (.mk 13 0 eB []), _, hkk _ (htk _ (ws6 (by decide)) h5), rfl, rfl, rawN_wk (f := (.mk 13 0 eB [])) rfl⟩
 rw [decide_eq_false (p := t.text = ⟨_⟩) h5]
 rw [if_neg (by rw [decide_eq_false h5]; simp)] at hP
 conv => whnf
 (refine call0 [] rfl (fun _ => builtins_spec) ?_; rintro r rfl; conv => whnf)
 (refine call0 [] rfl (fun _ => hhs) ?_; rintro r rfl; conv => whnf)
 cases hb : hasF builtL t.text with
 | true =>
  rw [hnb hb, if_neg (by simp), if_pos hb] at hP
  conv => whnf
  refine call1 0 [] rfl rfl rfl rfl (fun _ => hta) ?_
  rintro o r ⟨c, ho, rfl, rfl⟩
  cases ho
  subst hP
  conv => whnf
  exact ⟨_, rfl, _, (.mk 15 0 t.text []), _, hkk _ (by rw [← hht]; rw [has_built hk6 (by rw [hht]; exact hb)]; decide), rfl, rfl, rawN_wk (f := (.mk 15 0 t.text [])) rfl⟩
 | false =>
  rw [hb] at hP
  conv => whnf
  refine call1 0 [] rfl rfl rfl rfl (fun _ => hnm) ?_
  rintro o r ⟨c, ho, rfl, rfl⟩
  cases ho
  conv => whnf
  cases hn : isNm (T.drop s.i) with
  | true =>
   rw [if_pos hn] at hP
   conv => whnf
   refine call1 0 [] rfl rfl rfl rfl (fun _ => hta) ?_
   rintro o r ⟨c, ho, rfl, rfl⟩
   cases ho
   subst hP
   conv => whnf
   exact ⟨_, rfl, _, (.mk 14 0 t.text []), _, hkk _ (by rw [hnk hn]; decide), rfl, rfl, rawN_wk (f := (.mk 14 0 t.text [])) rfl⟩
  | false =>
   rw [if_neg (by rw [hn]; simp), if_neg (by simp)] at hP
   conv => whnf
   refine call1 0 [] rfl rfl rfl rfl (fun _ => hfl) ?_
   rintro o r ⟨c, ho, rfl, rfl⟩
   cases ho
   subst hP
   conv => whnf
   exact ⟨_, rfl, _, .mk 0 0 eB [], _, dq_bad (s' := ⟨s.i, t.pos, 10⟩) hi h0 (show (10 : Int) ≠ 0 by decide) rfl rfl _, rfl, rfl, rawN_wk (f := .mk 0 0 eB []) rfl⟩
end Go.Proofs.YtmodkpibkkpcdaaGreatDoor.Vm
namespace Go.Proofs.YtmodkpibkkpcdaaGreatDoor.Vm
open Go.RowKit Go.Shelf
set_option linter.unusedSimpArgs false
set_option linter.unusedVariables false
set_option maxRecDepth 100000
variable {T : List Tk}
theorem rexpr_bin {lv : Int} {op : List Tk → Pn} (k : Nat) (h3 : k ≠ 3) (h7 : k ≠ 7) (hb : BSpec T lv k op) : XSpec T lv k op := fun s hi y hy => by
 by_cases h0 : s.e = 0
 rotate_left
 ·exact xerr hi h0 _ y hy
 have hnx := rnextU hi y hy
 have hbn := hb s hi y hy
 have q3 : decide ((k : Int) = 3) = false := decide_eq_false (by omega)
 have q7 : decide ((k : Int) = 7) = false := decide_eq_false (by omega)
 refine spec_of (cx_ok ord0 xs0 1) (fun _ _ h => h) Tryz.func126 rfl (by kernel_rfl) rfl (by kernel_rfl) ?_
 intro _
 conv => whnf
 rw [decide_eq_true h0]
 conv => whnf
 refine call1 0 [] rfl rfl rfl rfl (fun _ => hnx) ?_
 rintro o r ⟨c, ho, rfl, rfl⟩
 cases ho
 conv => whnf
 rw [q3]
 conv => whnf
 rw [q3]
 conv => whnf
 rw [q7]
 conv => whnf
 rw [q7]
 conv => whnf
 refine call1 0 [] rfl rfl rfl rfl (fun _ => hbn) ?_
 rintro o r ⟨c, ho, s2, f, hq, rfl, rfl⟩
 cases ho
 conv => whnf
 exact ⟨_, rfl, s2, f, hq, rfl, rfl⟩
theorem rexpr3 {lv : Int} {low : Option Pa} (hT : Ks T) (hlo : LowR6 T lv low) (hb : BSpec T lv 4 (binF 4 (sumG low) cmpL)) : XSpec T lv 3 (ntG low) := fun s hi y hy => by
 by_cases h0 : s.e = 0
 rotate_left
 ·exact xerr hi h0 _ y hy
 have hnx := rnextU hi y hy
 have hbn := hb s hi y hy
 have hun := fun h => runary hT hlo (sel := (·.no)) (prec := 3) (fun p hp => by
  obtain ⟨_, ⟨h, _⟩ | ⟨q, hq, _, h, _⟩⟩ := hlo
  ·rw [h] at hp; cases hp
  ·rw [hq] at hp; cases hp; exact h) (w := pNot) (ws6 (by decide)) s hi h y hy
 obtain ⟨P, hP⟩ : ∃ P, ntG low (T.drop s.i) = P := ⟨_, rfl⟩
 unfold RU
 rw [hP]
 unfold ntG at hP
 rw [isP_tk hT hi (w := pNot) (ws6 (by decide))] at hP
 unfold RU at hbn hun
 refine spec_of (cx_ok ord0 xs0 1) (fun _ _ h => h) Tryz.func126 rfl (by kernel_rfl) rfl (by kernel_rfl) ?_
 intro _
 conv => whnf
 rw [decide_eq_true h0]
 conv => whnf
 refine call1 0 [] rfl rfl rfl rfl (fun _ => hnx) ?_
 rintro o r ⟨c, ho, rfl, rfl⟩
 cases ho
 conv => whnf
 by_cases h1 : (tk6 T s).text = pNot
 ·rw [decide_eq_true (p := (tk6 T s).text = ⟨_⟩) h1]
  rw [if_pos (decide_eq_true h1)] at hP
  have hun := hun fun _ => h1
  rw [hP] at hun
  rw [h1]
  conv => whnf
  refine call1 0 [] rfl rfl rfl rfl (fun _ => hun) ?_
  rintro o r ⟨c, ho, s2, f, hq, rfl, rfl⟩
  cases ho
  conv => whnf
  exact ⟨_, rfl, s2, f, hq, rfl, rfl⟩
 ·rw [decide_eq_false (p := (tk6 T s).text = ⟨_⟩) h1]
  rw [if_neg (by rw [decide_eq_false h1]; simp)] at hP
  have hP2 : binF 4 (sumG low) cmpL (T.drop s.i) = P := hP
  rw [hP2] at hbn
  conv => whnf
  refine call1 0 [] rfl rfl rfl rfl (fun _ => hbn) ?_
  rintro o r ⟨c, ho, s2, f, hq, rfl, rfl⟩
  cases ho
  conv => whnf
  exact ⟨_, rfl, s2, f, hq, rfl, rfl⟩
theorem rexpr7 {lv : Int} {low : Option Pa} (hT : Ks T) (hlo : LowR6 T lv low) : XSpec T lv 7 (unaG low) := fun s hi y hy => by
 by_cases h0 : s.e = 0
 rotate_left
 ·exact xerr hi h0 _ y hy
 have hnx := rnextU hi y hy
 have hpr := rprimary hT hlo s hi h0 y hy
 have hun := fun h => runary hT hlo (sel := (·.un)) (prec := 7) (fun p hp => by
  obtain ⟨_, ⟨h, _⟩ | ⟨q, hq, _, _, h, _⟩⟩ := hlo
  ·rw [h] at hp; cases hp
  ·rw [hq] at hp; cases hp; exact h) (w := pMinus) (ws6 (by decide)) s hi h y hy
 obtain ⟨P, hP⟩ : ∃ P, unaG low (T.drop s.i) = P := ⟨_, rfl⟩
 unfold RU
 rw [hP]
 unfold unaG at hP
 rw [isP_tk hT hi (w := pMinus) (ws6 (by decide))] at hP
 unfold RU at hpr hun
 refine spec_of (cx_ok ord0 xs0 1) (fun _ _ h => h) Tryz.func126 rfl (by kernel_rfl) rfl (by kernel_rfl) ?_
 intro _
 conv => whnf
 rw [decide_eq_true h0]
 conv => whnf
 refine call1 0 [] rfl rfl rfl rfl (fun _ => hnx) ?_
 rintro o r ⟨c, ho, rfl, rfl⟩
 cases ho
 conv => whnf
 by_cases h1 : (tk6 T s).text = pMinus
 ·rw [decide_eq_true (p := (tk6 T s).text = ⟨_⟩) h1]
  rw [if_pos (decide_eq_true h1)] at hP
  have hun := hun fun _ => h1
  rw [hP] at hun
  rw [h1]
  conv => whnf
  refine call1 0 [] rfl rfl rfl rfl (fun _ => hun) ?_
  rintro o r ⟨c, ho, s2, f, hq, rfl, rfl⟩
  cases ho
  conv => whnf
  exact ⟨_, rfl, s2, f, hq, rfl, rfl⟩
 ·rw [decide_eq_false (p := (tk6 T s).text = ⟨_⟩) h1]
  rw [if_neg (by rw [decide_eq_false h1]; simp)] at hP
  rw [hP] at hpr
  conv => whnf
  refine call1 0 [] rfl rfl rfl rfl (fun _ => hpr) ?_
  rintro o r ⟨c, ho, s2, f, hq, rfl, rfl⟩
  cases ho
  conv => whnf
  exact ⟨_, rfl, s2, f, hq, rfl, rfl⟩
theorem cmp_ws : ∀ w ∈ cmpL, Ws6 w := by
 intro w hw
 simp only [cmpL, List.mem_cons, List.not_mem_nil, or_false] at hw
 rcases hw with rfl | rfl | rfl | rfl | rfl | rfl <;> exact ws6 (by decide)
theorem ws_two {a b : ByteArray} (ha : Ws6 a) (hb : Ws6 b) : ∀ w ∈ [a, b], Ws6 w := by
 intro w hw
 simp only [List.mem_cons, List.not_mem_nil, or_false] at hw
 rcases hw with rfl | rfl
 ·exact ha
 ·exact hb
theorem ws_one {a : ByteArray} (ha : Ws6 a) : ∀ w ∈ [a], Ws6 w := by
 intro w hw
 rw [List.mem_singleton.1 hw]; exact ha
theorem binF_chn {k : Nat} (hk : k ≠ 4) (op : List Tk → Pn) (signs : List ByteArray) : binF k op signs = chnF op signs := by
 funext ts
 unfold binF chnF
 congr 1
 funext f r
 rw [if_neg hk]
theorem rlevel {lv : Int} {low : Option Pa} (hT : Ks T) (hg : LowG low) (hlo : LowR6 T lv low) : XSpec T lv 7 (unaG low) ∧ XSpec T lv 3 (ntG low) ∧ XSpec T lv 1 (expG low) := by
 have x7 := rexpr7 hT hlo
 have b6 := rbinary hT 6 (by decide) (signs := [pStar, pSlash]) (by decide) (by simp [rowOf, opsA, strsA]) (ws_two (ws6 (by decide)) (ws6 (by decide))) x7 (goes_una hg)
 rw [binF_chn (by decide)] at b6
 have x6 := rexpr_bin 6 (by decide) (by decide) b6
 have b5 := rbinary hT 5 (by decide) (signs := [pPlus, pMinus]) (by decide) (by simp [rowOf, opsA, strsA]) (ws_two (ws6 (by decide)) (ws6 (by decide))) x6 (goes_chn (goes_una hg) _)
 rw [binF_chn (by decide)] at b5
 have x5 : XSpec T lv 5 (sumG low) := rexpr_bin 5 (by decide) (by decide) b5
 have b4 := rbinary hT 4 (by decide) (signs := cmpL) (by decide) (by simp [rowOf, opsA, strsA, cmpL]) cmp_ws x5 (goes_sum hg)
 have x3 := rexpr3 hT hlo b4
 have b2 := rbinary hT 2 (by decide) (signs := [pAnd]) (by decide) (by simp [rowOf, opsA, strsA]) (ws_one (ws6 (by decide))) x3 (goes_not hg)
 rw [binF_chn (by decide)] at b2
 have x2 := rexpr_bin 2 (by decide) (by decide) b2
 have b1 := rbinary hT 1 (by decide) (signs := [pOr]) (by decide) (by simp [rowOf, opsA, strsA]) (ws_one (ws6 (by decide))) x2 (goes_chn (goes_not hg) _)
 rw [binF_chn (by decide)] at b1
 exact ⟨x7, x3, rexpr_bin 1 (by decide) (by decide) b1⟩
end Go.Proofs.YtmodkpibkkpcdaaGreatDoor.Vm
namespace Go.Proofs.YtmodkpibkkpcdaaGreatDoor.Vm
open Go.RowKit Go.Shelf
set_option linter.unusedSimpArgs false
set_option linter.unusedVariables false
set_option maxRecDepth 100000
variable {T : List Tk}
def stmW : List ByteArray := [wIf, wWhile, wSend, wTimer, wCancel, wSync, wReply, wFail, wStop]
theorem stmW_L : ∀ w ∈ stmW, ∃ c r, w.data.toList = c :: r ∧ isL c = true := by
 intro w hw
 simp only [stmW, List.mem_cons, List.not_mem_nil, or_false] at hw
 rcases hw with rfl | rfl | rfl | rfl | rfl | rfl | rfl | rfl | rfl <;> exact ⟨_, _, rfl, by decide⟩
theorem word_kind {t : Tk} (h : K6 t) {w : ByteArray} (hw : ∃ c r, w.data.toList = c :: r ∧ isL c = true) (e : t.text = w) : t.kind = 1 := by
 obtain ⟨c, r, h1, h2⟩ := hw
 rw [← e] at h1
 rcases h with ⟨hk, _⟩ | ⟨_, d, r', h3, h4⟩ | ⟨_, h3⟩ | ⟨_, d, r', h3, h4⟩
 ·exact hk
 ·rw [h1] at h3
  cases h3
  unfold isLD at h4
  rw [h2] at h4; cases h4
 ·rw [h1] at h3; cases h3
 ·rw [h1] at h3
  cases h3
  rw [isL_D h2] at h4; cases h4
theorem stG_no (ex bl : List Tk → Pn) (ts : List Tk) (hn : isNm ts = false) (hw : hasF stmW (hd ts).text = false) : stG ex bl ts = synE ts := by
 refine stG_none ex bl ts hn fun h => ?_
 have : hasF stmW (hd ts).text = true := by
  unfold hasF stmW
  rw [List.any_eq_true]
  rcases h with e | e | e | e | e | e | e | e | e <;> exact ⟨_, by simp, decide_eq_true e.symm⟩
 rw [hw] at this; cases this
set_option maxHeartbeats 1000000 in
theorem rst_name {lv : Int} {ex : List Tk → Pn} (hT : Ks T) (hx : XSpec T lv 1 ex) (s : S6) (hi : s.i < T.length) (h0 : s.e = 0) (hn : isNm (T.drop s.i) = true) :
  SpecU 100 (bxS T s) [.box 0 0, intA lv] (RU T s fun ts => xpt pEq ts.tail fun r => (ex r).andThen fun e r => xpt pSemi r fun r => .ok (.mk 1 0 (hd ts).text [e]) r) := fun y hy => by
 have hnx := rnextU hi y hy
 have hnm := rnameU hi y hy
 have hta := rtakeU hT hi y hy
 rw [hn] at hnm
 have hk : (tk6 T s).kind ≠ 0 := by
  have := isNm_kind hn
  change (tk6 T s).kind = 1 at this
  rw [this]; decide
 have hi1 := stT_i hi
 have hxe := fun s2 (h2 : s2.i < T.length) => hx s2 h2 y hy
 obtain ⟨t, ht⟩ : ∃ t, (tk6 T s).text = t := ⟨_, rfl⟩
 rw [ht] at hnx
 refine spec_of (cx_ok ord100 (fun _ => [0]) 1) (fun _ _ h => h) Tryz.func100 rfl (by kernel_rfl) rfl (by kernel_rfl) ?_
 intro _
 conv => whnf
 refine call1 0 [] rfl rfl rfl rfl (fun _ => hnx) ?_
 rintro o r ⟨c, ho, rfl, rfl⟩
 cases ho
 conv => whnf
 refine call1 0 [] rfl rfl rfl rfl (fun _ => hnm) ?_
 rintro o r ⟨c, ho, rfl, rfl⟩
 cases ho
 conv => whnf
 refine call1 0 [] rfl rfl rfl rfl (fun _ => hta) ?_
 rintro o r ⟨c, ho, rfl, rfl⟩
 cases ho
 conv => whnf
 refine call1 0 [] rfl rfl rfl rfl (fun _ => rexpectU hT hi1 pEq y hy) ?_
 rintro o r ⟨c, ho, rfl, rfl⟩
 cases ho
 conv => whnf
 have hi2 := stX_i hi1 pEq
 refine call1 0 [] rfl rfl rfl rfl (fun _ => hxe _ hi2) ?_
 rintro o r ⟨c, ho, s3, f, hq, rfl, rfl⟩
 cases ho
 conv => whnf
 refine call1 0 [] rfl rfl rfl rfl (fun _ => rexpectU hT hq.1 pSemi y hy) ?_
 rintro o r ⟨c, ho, rfl, rfl⟩
 cases ho
 conv => whnf
 have hi4 := stX_i hq.1 pSemi
 refine ⟨_, rfl, stX T s3 pSemi, .mk 1 0 t [f], ?_, rfl, by rw [ntA_one]; rfl⟩
 exact dq_take hT hi h0 hk (P := fun ts => xpt pEq ts fun r => (ex r).andThen fun e r => xpt pSemi r fun r => .ok (.mk 1 0 t [e]) r) (dq_xpt hT hi1 (ws6 (by decide)) (dq_then hq (dq_xpt hT hq.1 (ws6 (by decide)) (dq_ret hi4 _)))) |> fun h => by
  have e : (hd (T.drop s.i)).text = t := ht
  simp only [e]
  exact h
theorem rst_none {lv : Int} (hT : Ks T) (s : S6) (hi : s.i < T.length) (h0 : s.e = 0) (hn : isNm (T.drop s.i) = false) (hw : hasF stmW (tk6 T s).text = false) :
  SpecU 100 (bxS T s) [.box 0 0, intA lv] (RU T s synE) := rw_of fun y hy => by
 have hnx := rnextU hi y hy
 have hnm := rnameU hi y hy
 have hfl := rfailU s.i hi 10 (s := s) y hy
 have hhs := has6_spec stmW (tk6 T s).text (by decide)
 rw [hn] at hnm
 rw [hw] at hhs
 unfold stF at hfl
 rw [if_pos h0] at hfl
 refine spec_of (cx_ok ord100 (fun _ => [0]) 1) (fun _ _ h => h) Tryz.func100 rfl (by kernel_rfl) rfl (by kernel_rfl) ?_
 intro _
 conv => whnf
 refine call1 0 [] rfl rfl rfl rfl (fun _ => hnx) ?_
 rintro o r ⟨c, ho, rfl, rfl⟩
 cases ho
 conv => whnf
 refine call1 0 [] rfl rfl rfl rfl (fun _ => hnm) ?_
 rintro o r ⟨c, ho, rfl, rfl⟩
 cases ho
 conv => whnf
 (refine call0 [0] rfl (fun _ => hhs) ?_; rintro r rfl; conv => whnf)
 conv => whnf
 refine call1 0 [] rfl rfl rfl rfl (fun _ => hfl) ?_
 rintro o r ⟨c, ho, rfl, rfl⟩
 cases ho
 conv => whnf
 exact ⟨_, rfl, _, .mk 0 0 eB [], _, dq_bad (s' := ⟨s.i, (hd (T.drop s.i)).pos, 10⟩) hi h0 (show (10 : Int) ≠ 0 by decide) rfl rfl _, rfl, rfl, rawN_wk (f := .mk 0 0 eB []) rfl⟩
end Go.Proofs.YtmodkpibkkpcdaaGreatDoor.Vm
namespace Go.Proofs.YtmodkpibkkpcdaaGreatDoor.Vm
open Go.RowKit Go.Shelf
set_option linter.unusedSimpArgs false
set_option linter.unusedVariables false
set_option maxRecDepth 100000
variable {T : List Tk}
theorem dq_up (hT : Ks T) {s s2 : S6} (hi : s.i < T.length) (h0 : s.e = 0) {P : Pn} {f : Nt} (h2 : Dq T (stT T s) s2 P f) : Dq T s s2 P f :=
 dq_pre h2 (fun h => absurd h0 h) fun _ => .inl ⟨by rw [(stT_e s).1]; exact h0, (stT_e s).2, rfl⟩
theorem dq_num30 (hT : Ks T) {s s2 : S6} (hi : s.i < T.length) {K : Int → List Tk → Pn} {f : Nt} (h2 : Dq T (stN T s 29) s2 (K (vaN T s 29) (T.drop (stN T s 29).i)) f) : Dq T s s2 (numP 30 (T.drop s.i) K) f := dq_num hT hi (m := 29) h2
theorem dq_num8 (hT : Ks T) {s s2 : S6} (hi : s.i < T.length) {K : Int → List Tk → Pn} {f : Nt} (h2 : Dq T (stN T s 7) s2 (K (vaN T s 7) (T.drop (stN T s 7).i)) f) : Dq T s s2 (numP 8 (T.drop s.i) K) f := dq_num hT hi (m := 7) h2
theorem wk_if (f b : Nt) : WkL [intA 2, intA 0, strA eB, .sl 4 3 (ntA f ++ (ntA b ++ rawN (blkN [])))] [intA 2, intA 0, strA eB, .sl 4 3 (ntA f ++ (ntA b ++ ntA (blkN [])))] :=
 .cons (.refl _) (.cons (.refl _) (.cons (.refl _) (.cons (.sl 4 3 (WkL.app (WkL.refl (ntA f)) (WkL.app (WkL.refl (ntA b)) (rawN_wk (f := blkN []) rfl)))) .nil)))
set_option maxHeartbeats 4000000 in
theorem rst_word {lv : Int} {ex bl : List Tk → Pn} (hlv : 0 ≤ lv ∧ lv ≤ 20) (hT : Ks T) (hx : XSpec T lv 1 ex) (hb : USpec T 62 (lv + 1) bl) (s : S6) (hi : s.i < T.length) (h0 : s.e = 0) (hn : isNm (T.drop s.i) = false) (hw : hasF stmW (tk6 T s).text = true) :
  SpecU 100 (bxS T s) [.box 0 0, intA lv] (RU T s fun ts => stK ex bl (hd ts).text ts.tail) := rw_of fun y hy => by
 have hnx := rnextU hi y hy
 have hnm := rnameU hi y hy
 have hta := rtakeU hT hi y hy
 rw [hn] at hnm
 have hhs := has6_spec stmW (tk6 T s).text (by decide)
 rw [hw] at hhs
 have hk : (tk6 T s).kind ≠ 0 := by
  obtain ⟨w, hw1, hw2⟩ := List.any_eq_true.1 hw
  have hk1 : (tk6 T s).kind = 1 := word_kind (hT.hd hi) (stmW_L w hw1) (of_decide_eq_true hw2).symm
  rw [hk1]; decide
 have hi1 := stT_i hi
 have hxe := fun s2 (h2 : s2.i < T.length) => hx s2 h2 y hy
 have hbe := fun s2 (h2 : s2.i < T.length) => hb s2 h2 y hy
 obtain ⟨P, hP⟩ : ∃ P, stK ex bl (tk6 T s).text (T.drop s.i).tail = P := ⟨_, rfl⟩
 change Spec _ _ _ _ fun o r => ∃ c, o = [c ++ [.v y]] ∧ ∃ s' f l, Dq T s s' (stK ex bl (tk6 T s).text (T.drop s.i).tail) f ∧ c = bxS T s' ∧ r = .agg l ∧ WkL l (ntA f)
 rw [hP]
 unfold stK at hP
 rw [← drop_next hT hi hk] at hP
 have hup := fun s2 f (h2 : Dq T (stT T s) s2 P f) => dq_up hT hi h0 h2
 generalize (tk6 T s).text = t at *
 refine spec_of (cx_ok ord100 (fun _ => [0]) 1) (fun _ _ h => h) Tryz.func100 rfl (by kernel_rfl) rfl (by kernel_rfl) ?_
 intro _
 conv => whnf
 refine call1 0 [] rfl rfl rfl rfl (fun _ => hnx) ?_
 rintro o r ⟨c, ho, rfl, rfl⟩
 cases ho
 conv => whnf
 refine call1 0 [] rfl rfl rfl rfl (fun _ => hnm) ?_
 rintro o r ⟨c, ho, rfl, rfl⟩
 cases ho
 conv => whnf
 (refine call0 [0] rfl (fun _ => hhs) ?_; rintro r rfl; conv => whnf)
 conv => whnf
 refine call1 0 [] rfl rfl rfl rfl (fun _ => hta) ?_
 rintro o r ⟨c, ho, rfl, rfl⟩
 cases ho
 conv => whnf
 by_cases g0 : t = wIf
 ·rw [decide_eq_true (p := t = ⟨_⟩) g0]
  conv => whnf
  rw [if_pos g0] at hP
  refine call1 0 [] rfl rfl rfl rfl (fun _ => hxe _ hi1) ?_
  rintro o r ⟨c, ho, s2, f, hq2, rfl, rfl⟩
  cases ho
  conv => whnf
  refine ⟨i64r (by omega), ?_⟩
  conv => whnf
  refine call1 0 [] rfl rfl rfl rfl (fun _ => hbe _ hq2.1) ?_
  rintro o r ⟨c, ho, s3, b, hq3, rfl, rfl⟩
  cases ho
  conv => whnf
  have g1 : ¬ t = wWhile := fun e => by rw [g0] at e; exact absurd e (by decide)
  rw [decide_eq_false (p := t = ⟨_⟩) g1]
  conv => whnf
  by_cases e3 : s3.e = 0
  ·rw [decide_eq_true e3]
   conv => whnf
   refine call1 0 [] rfl rfl rfl rfl (fun _ => rnextU hq3.1 y hy) ?_
   rintro o r ⟨c, ho, rfl, rfl⟩
   cases ho
   conv => whnf
   by_cases we : (tk6 T s3).text = wElse
   ·rw [decide_eq_true (p := (tk6 T s3).text = ⟨_⟩) we]
    have hk3 := text_kind hT hq3.1 (ws6 (by decide)) we
    conv => whnf
    refine call1 0 [] rfl rfl rfl rfl (fun _ => rtakeU hT hq3.1 y hy) ?_
    rintro o r ⟨c, ho, rfl, rfl⟩
    cases ho
    conv => whnf
    refine ⟨i64r (by omega), ?_⟩
    conv => whnf
    refine call1 0 [] rfl rfl rfl rfl (fun _ => hbe _ (stT_i hq3.1)) ?_
    rintro o r ⟨c, ho, s4, d, hq4, rfl, rfl⟩
    cases ho
    conv => whnf
    refine ⟨⟨by unfold maxLen; omega, by omega⟩, ?_⟩
    conv => whnf
    exact ⟨_, rfl, s4, (.mk 2 0 eB [f, b, d]), _, hup _ _ (by rw [← hP]; exact dq_then hq2 (dq_then hq3 (by rw [isP_tk hT hq3.1 (w := wElse) (ws6 (by decide)), if_pos (decide_eq_true we)]; exact dq_take hT hq3.1 e3 hk3 (P := fun r => (bl r).andThen fun o r => .ok (.mk 2 0 eB [f, b, o]) r) (dq_then hq4 (dq_ret hq4.1 _))))), rfl, rfl, by rw [ntA_three]; exact wkL_refl _⟩
   ·rw [decide_eq_false (p := (tk6 T s3).text = ⟨_⟩) we]
    conv => whnf
    refine ⟨⟨by unfold maxLen; omega, by omega⟩, ?_⟩
    conv => whnf
    exact ⟨_, rfl, s3, (.mk 2 0 eB [f, b, blkN []]), _, hup _ _ (by rw [← hP]; exact dq_then hq2 (dq_then hq3 (by rw [isP_tk hT hq3.1 (w := wElse) (ws6 (by decide)), if_neg (by rw [decide_eq_false we]; simp)]; exact dq_ret hq3.1 _))), rfl, rfl, by rw [ntA_three]; exact wk_if f b⟩
  ·rw [decide_eq_false e3]
   conv => whnf
   refine ⟨⟨by unfold maxLen; omega, by omega⟩, ?_⟩
   conv => whnf
   exact ⟨_, rfl, s3, (.mk 2 0 eB [f, b, blkN []]), _, hup _ _ (by rw [← hP]; exact dq_then hq2 (dq_then hq3 (dq_any hq3.1 e3 rfl rfl _ _))), rfl, rfl, by rw [ntA_three]; exact wk_if f b⟩
 rw [decide_eq_false (p := t = ⟨_⟩) g0]
 conv => whnf
 rw [if_neg g0] at hP
 by_cases g1 : t = wWhile
 ·rw [decide_eq_true (p := t = ⟨_⟩) g1]
  conv => whnf
  rw [if_pos g1] at hP
  refine call1 0 [] rfl rfl rfl rfl (fun _ => hxe _ hi1) ?_
  rintro o r ⟨c, ho, s2, f, hq2, rfl, rfl⟩
  cases ho
  conv => whnf
  refine ⟨i64r (by omega), ?_⟩
  conv => whnf
  refine call1 0 [] rfl rfl rfl rfl (fun _ => hbe _ hq2.1) ?_
  rintro o r ⟨c, ho, s3, b, hq3, rfl, rfl⟩
  cases ho
  conv => whnf
  rw [decide_eq_true (p := t = ⟨_⟩) g1]
  conv => whnf
  exact ⟨_, rfl, s3, (.mk 3 0 eB [f, b]), _, hup _ _ (by rw [← hP]; exact dq_then hq2 (dq_then hq3 (dq_ret hq3.1 _))), rfl, rfl, by rw [ntA_two]; exact wkL_refl _⟩
 rw [decide_eq_false (p := t = ⟨_⟩) g1]
 conv => whnf
 rw [if_neg g1] at hP
 by_cases g2 : t = wSend
 ·rw [decide_eq_true (p := t = ⟨_⟩) g2]
  conv => whnf
  rw [if_pos g2] at hP
  simp only [sendGo] at hP
  refine call1 0 [] rfl rfl rfl rfl (fun _ => hxe _ hi1) ?_
  rintro o r ⟨c, ho, s2, f, hq2, rfl, rfl⟩
  cases ho
  conv => whnf
  refine call1 0 [] rfl rfl rfl rfl (fun _ => rexpectU hT hq2.1 pComma y hy) ?_
  rintro o r ⟨c, ho, rfl, rfl⟩
  cases ho
  conv => whnf
  have hi3 := stX_i hq2.1 pComma
  obtain ⟨s3, hs3⟩ : ∃ s3, stX T s2 pComma = s3 := ⟨_, rfl⟩
  rw [hs3] at hi3
  rw [hs3]
  refine call1 0 [] rfl rfl rfl rfl (fun _ => rnumU hT hi3 29 y hy) ?_
  rintro o r ⟨c, ho, rfl, rfl⟩
  cases ho
  conv => whnf
  refine call1 0 [] rfl rfl rfl rfl (fun _ => rexpectU hT (stN_i hi3 29) pComma y hy) ?_
  rintro o r ⟨c, ho, rfl, rfl⟩
  cases ho
  conv => whnf
  have hi4 := stX_i (stN_i hi3 29) pComma
  refine call1 0 [] rfl rfl rfl rfl (fun _ => hxe _ hi4) ?_
  rintro o r ⟨c, ho, s5, d, hq5, rfl, rfl⟩
  cases ho
  conv => whnf
  refine call1 0 [] rfl rfl rfl rfl (fun _ => rexpectU hT hq5.1 pComma y hy) ?_
  rintro o r ⟨c, ho, rfl, rfl⟩
  cases ho
  conv => whnf
  refine call1 0 [] rfl rfl rfl rfl (fun _ => hxe _ (stX_i hq5.1 pComma)) ?_
  rintro o r ⟨c, ho, s6, g, hq6, rfl, rfl⟩
  cases ho
  conv => whnf
  refine call1 0 [] rfl rfl rfl rfl (fun _ => rexpectU hT hq6.1 pSemi y hy) ?_
  rintro o r ⟨c, ho, rfl, rfl⟩
  cases ho
  conv => whnf
  have hf := stX_i hq6.1 pSemi
  have hup' := fun f2 (h2 : Dq T (stX T s2 pComma) (stX T s6 pSemi) (numP 30 (T.drop (stX T s2 pComma).i) fun n r => xpt pComma r fun r => (ex r).andThen fun a r => xpt pComma r fun r => (ex r).andThen fun a2 r => xpt pSemi r fun r => .ok (.mk 4 n eB ([f] ++ [a] ++ [a2])) r) f2) => hup _ f2 (by rw [← hP]; exact dq_then hq2 (dq_xpt hT hq2.1 (ws6 (by decide)) h2))
  rw [hs3] at hup'
  refine ⟨_, rfl, _, .mk 4 (vaN T s3 29) eB [f, d, g], _, hup' _ (dq_num30 hT hi3 (dq_xpt hT (stN_i hi3 29) (ws6 (by decide)) (dq_then hq5 (dq_xpt hT hq5.1 (ws6 (by decide)) (dq_then hq6 (dq_xpt hT hq6.1 (ws6 (by decide)) (dq_ret hf _))))))), rfl, rfl, ?_⟩
  rw [ntA_three]
  exact wkL_refl _
 rw [decide_eq_false (p := t = ⟨_⟩) g2]
 conv => whnf
 rw [if_neg g2] at hP
 by_cases g3 : t = wTimer
 ·rw [decide_eq_true (p := t = ⟨_⟩) g3]
  conv => whnf
  rw [if_pos g3] at hP
  refine call1 0 [] rfl rfl rfl rfl (fun _ => rnumU hT hi1 7 y hy) ?_
  rintro o r ⟨c, ho, rfl, rfl⟩
  cases ho
  conv => whnf
  refine call1 0 [] rfl rfl rfl rfl (fun _ => rexpectU hT (stN_i hi1 7) pSemi y hy) ?_
  rintro o r ⟨c, ho, rfl, rfl⟩
  cases ho
  conv => whnf
  exact ⟨_, rfl, stX T (stN T (stT T s) 7) pSemi, (.mk 5 (vaN T (stT T s) 7) eB []), _, hup _ _ (by rw [← hP]; exact dq_num8 hT hi1 (dq_xpt hT (stN_i hi1 7) (ws6 (by decide)) (dq_ret (stX_i (stN_i hi1 7) _) _))), rfl, rfl, rawN_wk (f := .mk 5 (vaN T (stT T s) 7) eB []) rfl⟩
 rw [decide_eq_false (p := t = ⟨_⟩) g3]
 conv => whnf
 rw [if_neg g3] at hP
 by_cases g4 : t = wCancel
 ·rw [decide_eq_true (p := t = ⟨_⟩) g4]
  conv => whnf
  rw [if_pos g4] at hP
  refine call1 0 [] rfl rfl rfl rfl (fun _ => rnumU hT hi1 7 y hy) ?_
  rintro o r ⟨c, ho, rfl, rfl⟩
  cases ho
  conv => whnf
  refine call1 0 [] rfl rfl rfl rfl (fun _ => rexpectU hT (stN_i hi1 7) pSemi y hy) ?_
  rintro o r ⟨c, ho, rfl, rfl⟩
  cases ho
  conv => whnf
  exact ⟨_, rfl, stX T (stN T (stT T s) 7) pSemi, (.mk 6 (vaN T (stT T s) 7) eB []), _, hup _ _ (by rw [← hP]; exact dq_num8 hT hi1 (dq_xpt hT (stN_i hi1 7) (ws6 (by decide)) (dq_ret (stX_i (stN_i hi1 7) _) _))), rfl, rfl, rawN_wk (f := .mk 6 (vaN T (stT T s) 7) eB []) rfl⟩
 rw [decide_eq_false (p := t = ⟨_⟩) g4]
 conv => whnf
 rw [if_neg g4] at hP
 by_cases g7 : t = wReply
 ·rw [decide_eq_true (p := t = ⟨_⟩) g7]
  conv => whnf
  have n5 : ¬ t = wSync := fun e => by rw [g7] at e; exact absurd e (by decide)
  have n6 : ¬ t = wStop := fun e => by rw [g7] at e; exact absurd e (by decide)
  rw [if_neg n5] at hP
  rw [if_neg n6] at hP
  rw [if_pos g7] at hP
  refine call1 0 [] rfl rfl rfl rfl (fun _ => hxe _ hi1) ?_
  rintro o r ⟨c, ho, s2, f, hq2, rfl, rfl⟩
  cases ho
  conv => whnf
  refine call1 0 [] rfl rfl rfl rfl (fun _ => rexpectU hT hq2.1 pComma y hy) ?_
  rintro o r ⟨c, ho, rfl, rfl⟩
  cases ho
  conv => whnf
  have hi3 := stX_i hq2.1 pComma
  refine call1 0 [] rfl rfl rfl rfl (fun _ => hxe _ hi3) ?_
  rintro o r ⟨c, ho, s4, d, hq4, rfl, rfl⟩
  cases ho
  conv => whnf
  refine call1 0 [] rfl rfl rfl rfl (fun _ => rexpectU hT hq4.1 pSemi y hy) ?_
  rintro o r ⟨c, ho, rfl, rfl⟩
  cases ho
  conv => whnf
  exact ⟨_, rfl, stX T s4 pSemi, (.mk 8 0 eB [f, d]), _, hup _ _ (by rw [← hP]; exact dq_then hq2 (dq_xpt hT hq2.1 (ws6 (by decide)) (dq_then hq4 (dq_xpt hT hq4.1 (ws6 (by decide)) (dq_ret (stX_i hq4.1 _) _))))), rfl, rfl, by rw [ntA_two]; exact wkL_refl _⟩
 rw [decide_eq_false (p := t = ⟨_⟩) g7]
 conv => whnf
 by_cases g8 : t = wFail
 ·rw [decide_eq_true (p := t = ⟨_⟩) g8]
  conv => whnf
  have n5 : ¬ t = wSync := fun e => by rw [g8] at e; exact absurd e (by decide)
  have n6 : ¬ t = wStop := fun e => by rw [g8] at e; exact absurd e (by decide)
  rw [if_neg n5] at hP
  rw [if_neg n6] at hP
  rw [if_neg g7] at hP
  refine call1 0 [] rfl rfl rfl rfl (fun _ => hxe _ hi1) ?_
  rintro o r ⟨c, ho, s2, f, hq2, rfl, rfl⟩
  cases ho
  conv => whnf
  refine call1 0 [] rfl rfl rfl rfl (fun _ => rexpectU hT hq2.1 pSemi y hy) ?_
  rintro o r ⟨c, ho, rfl, rfl⟩
  cases ho
  conv => whnf
  exact ⟨_, rfl, stX T s2 pSemi, (.mk 9 0 eB [f]), _, hup _ _ (by rw [← hP]; exact dq_then hq2 (dq_xpt hT hq2.1 (ws6 (by decide)) (dq_ret (stX_i hq2.1 _) _))), rfl, rfl, by rw [ntA_one]; exact wkL_refl _⟩
 rw [decide_eq_false (p := t = ⟨_⟩) g8]
 conv => whnf
 by_cases g5 : t = wSync
 ·rw [decide_eq_true (p := t = ⟨_⟩) g5]
  conv => whnf
  rw [if_pos g5] at hP
  refine call1 0 [] rfl rfl rfl rfl (fun _ => rexpectU hT hi1 pSemi y hy) ?_
  rintro o r ⟨c, ho, rfl, rfl⟩
  cases ho
  conv => whnf
  exact ⟨_, rfl, stX T (stT T s) pSemi, (.mk 7 0 eB []), _, hup _ _ (by rw [← hP]; exact dq_xpt hT hi1 (ws6 (by decide)) (dq_ret (stX_i hi1 _) _)), rfl, rfl, rawN_wk (f := .mk 7 0 eB []) rfl⟩
 rw [decide_eq_false (p := t = ⟨_⟩) g5]
 conv => whnf
 rw [if_neg g5] at hP
 have g6 : t = wStop := by
  obtain ⟨w, hw1, hw2⟩ := List.any_eq_true.1 hw
  have hw2 := (of_decide_eq_true hw2).symm
  simp only [stmW, List.mem_cons, List.not_mem_nil, or_false] at hw1
  rcases hw1 with e | e | e | e | e | e | e | e | e <;> rw [e] at hw2 <;> first | exact hw2 | contradiction
 rw [if_pos g6] at hP
 refine call1 0 [] rfl rfl rfl rfl (fun _ => rexpectU hT hi1 pSemi y hy) ?_
 rintro o r ⟨c, ho, rfl, rfl⟩
 cases ho
 conv => whnf
 exact ⟨_, rfl, stX T (stT T s) pSemi, (.mk 10 0 eB []), _, hup _ _ (by rw [← hP]; exact dq_xpt hT hi1 (ws6 (by decide)) (dq_ret (stX_i hi1 _) _)), rfl, rfl, rawN_wk (f := .mk 10 0 eB []) rfl⟩
end Go.Proofs.YtmodkpibkkpcdaaGreatDoor.Vm
namespace Go.Proofs.YtmodkpibkkpcdaaGreatDoor.Vm
open Go.RowKit Go.Shelf
set_option linter.unusedSimpArgs false
set_option linter.unusedVariables false
set_option maxRecDepth 100000
variable {T : List Tk}
theorem stmW_or {t : ByteArray} (h : hasF stmW t = true) : t = wIf ∨ t = wWhile ∨ t = wSend ∨ t = wTimer ∨ t = wCancel ∨ t = wSync ∨ t = wStop ∨ t = wReply ∨ t = wFail := by
 obtain ⟨w, hw1, hw2⟩ := List.any_eq_true.1 h
 have hw2 := (of_decide_eq_true hw2).symm
 simp only [stmW, List.mem_cons, List.not_mem_nil, or_false] at hw1
 rcases hw1 with e | e | e | e | e | e | e | e | e <;> rw [e] at hw2 <;> simp only [hw2, true_or, or_true]
theorem rstatement {lv : Int} {ex bl : List Tk → Pn} (hlv : 0 ≤ lv ∧ lv ≤ 20) (hT : Ks T) (hx : XSpec T lv 1 ex) (hb : USpec T 62 (lv + 1) bl) (s : S6) (hi : s.i < T.length) (h0 : s.e = 0) :
  SpecU 100 (bxS T s) [.box 0 0, intA lv] (RU T s (stG ex bl)) := by
 cases hn : isNm (T.drop s.i) with
 | true =>
  have e : stG ex bl (T.drop s.i) = (fun ts => xpt pEq ts.tail fun r => (ex r).andThen fun e r => xpt pSemi r fun r => .ok (.mk 1 0 (hd ts).text [e]) r) (T.drop s.i) := by
   unfold stG; rw [if_pos hn]
  have := rst_name hT hx s hi h0 hn
  unfold RU at this ⊢
  rw [e]
  exact this
 | false =>
  cases hw : hasF stmW (tk6 T s).text with
  | true =>
   have hk : (tk6 T s).kind = 1 := by
    obtain ⟨w, hw1, hw2⟩ := List.any_eq_true.1 hw
    exact word_kind (hT.hd hi) (stmW_L w hw1) (of_decide_eq_true hw2).symm
   have e := stG_word ex bl (T.drop s.i) hn (stmW_or hw)
   rw [if_neg (show ¬ (hd (T.drop s.i)).kind ≠ 1 from fun h => h hk)] at e
   have := rst_word hlv hT hx hb s hi h0 hn hw
   unfold RU at this ⊢
   rw [← e]
   exact this
  | false =>
   have e := stG_no ex bl (T.drop s.i) hn hw
   have := rst_none (lv := lv) hT s hi h0 hn hw
   unfold RU at this ⊢
   rw [e]
   exact this
set_option maxHeartbeats 1000000 in
theorem rblock_of {lv : Int} (hlv : 0 ≤ lv ∧ lv ≤ 20) (hT : Ks T) {st : List Tk → Pn} (hst : ∀ s : S6, s.i < T.length → s.e = 0 → SpecU 100 (bxS T s) [.box 0 0, intA lv] (RU T s st)) (gst : GoesS st) : USpec T 62 lv (bkF st) := fun s0 hi0 y hy => by
 obtain ⟨P, hP⟩ : ∃ P, bkF st (T.drop s0.i) = P := ⟨_, rfl⟩
 unfold RU
 rw [hP]
 have hop := ropenU hT hi0 pLb lv y hy
 have hst := fun s h1 h2 => hst s h1 h2 y hy
 have hn0 := hT.n
 rw [stO_le hlv.2] at hop
 unfold bkF at hP
 have hi1 := stX_i hi0 pLb
 have hup := fun s2 f (h : Dq T (stX T s0 pLb) s2 (bkGo st (T.drop (stX T s0 pLb).i).length [] (T.drop (stX T s0 pLb).i)) f) => dq_xpt (w := pLb) (K := fun r => bkGo st r.length [] r) hT hi0 (ws6 (by decide)) h
 rw [hP] at hup
 clear hP
 generalize stX T s0 pLb = s1 at *
 refine spec_of (cx_ok ord62 (fun _ => [0]) 1) (fun _ _ h => h) Tryz.func62 rfl (by kernel_rfl) rfl (by kernel_rfl) ?_
 intro _
 conv => whnf
 refine call1 0 [] rfl rfl rfl rfl (fun _ => hop) ?_
 rintro o r ⟨c, ho, rfl, rfl⟩
 cases ho
 conv => whnf
 refine loop_row 41 4 [] [(2, 3)] ?_
 conv => whnf
 refine ⟨trivial, ?_⟩
 conv => whnf
 refine loop_keep [0, 1, 4, 5] ?_
 conv => whnf
 refine loop_go (fun _ : Nat × List Nt × S6 => []) (fun x => [bxS T x.2.2 ++ [.v y], zero4, [intA 11, intA 0, strA ⟨#[]⟩, .own 0]]) (fun x => [.live 41 4 x.2.1.length (ntsA x.2.1)]) (fun x => x.2.2.i < T.length ∧ (x.2.2.e = 0 → (T.drop x.2.2.i).length ≤ x.1 ∧ x.2.1.length + (T.drop x.2.2.i).length ≤ 1000001) ∧ ∀ s' f', Dq T x.2.2 s' (bkGo st x.1 x.2.1 (T.drop x.2.2.i)) f' → Dq T s0 s' P f') (fun x => if x.2.2.e = 0 then T.length - x.2.2.i + 1 else 0) ((T.drop s1.i).length, [], s1) ?_ ⟨hi1, fun _ => ⟨Nat.le_refl _, by simp only [List.length_nil, List.length_drop]; omega⟩, hup⟩ ?_
 ·repeat' constructor
  show Row.live _ _ _ _ = Row.live _ 4 0 (ntsA [])
  rw [ntsA_nil]
 rintro ⟨n, acc, s⟩ ⟨hi, hn, hinv⟩
 simp only at hi hn hinv
 have hnx := rnextU hi y hy
 have htk := rtakeU hT hi y hy
 have hxp := rexpectU hT hi pRb y hy
 conv => whnf
 by_cases h0 : s.e = 0
 ·rw [decide_eq_true h0]
  conv => whnf
  refine call1 0 [] rfl rfl rfl rfl (fun _ => hnx) ?_
  rintro o r ⟨c, ho, rfl, rfl⟩
  cases ho
  conv => whnf
  obtain ⟨hn1, hn2⟩ := hn h0
  have hln : (T.drop s.i).length = T.length - s.i := List.length_drop
  obtain ⟨m, rfl⟩ : ∃ m, n = m + 1 := ⟨n - 1, by omega⟩
  rw [bkGo] at hinv
  have hip := isP_tk hT hi (w := pRb) (ws6 (by decide))
  by_cases h1 : (tk6 T s).text = pRb
  ·rw [decide_eq_true (p := (tk6 T s).text = ⟨_⟩) h1]
   rw [if_pos (by rw [hip]; exact decide_eq_true h1)] at hinv
   conv => whnf
   refine call1 0 [] rfl rfl rfl rfl (fun _ => hxp) ?_
   rintro o r ⟨c, ho, rfl, rfl⟩
   cases ho
   conv => whnf
   have hd : Dq T s (stX T s pRb) (xpt pRb (T.drop s.i) fun r => .ok (blkN acc) r) (blkN acc) := dq_xpt hT hi (ws6 (by decide)) (dq_ret (stX_i hi _) _)
   unfold xpt at hd
   rw [if_pos (by rw [hip]; exact decide_eq_true h1)] at hd
   exact ⟨_, rfl, _, blkN acc, hinv _ _ hd, rfl, rfl⟩
  ·rw [decide_eq_false (p := (tk6 T s).text = ⟨_⟩) h1]
   rw [if_neg (by rw [hip, decide_eq_false h1]; simp)] at hinv
   have hs := hst s hi h0
   conv => whnf
   refine call1 0 [] rfl rfl rfl rfl (fun _ => hs) ?_
   rintro o r ⟨c, ho, s2, f2, hq2, rfl, rfl⟩
   cases ho
   have hlt : s2.e = 0 → (T.drop s2.i).length + 1 ≤ (T.drop s.i).length := fun e2 => by
    have h5 := hq2.2.2 h0
    cases hop : st (T.drop s.i) with
    | ok g r =>
     rw [hop] at h5
     have h6 := (gst _ _ _ (hT.p hi) hop).2
     rw [h5.2.2.2]
     omega
    | bad x e =>
     rw [hop] at h5
     exact absurd (h5.2.1.symm.trans e2) h5.1
   conv => whnf
   refine ⟨⟨by simp only; unfold maxLen; omega, by simp only; omega⟩, ?_⟩
   conv => whnf
   refine ⟨(m, acc ++ [f2], s2), le_selH [0] ?_, ⟨hq2.1, fun e2 => ?_, fun s' f' h => hinv s' f' (dq_then hq2 h)⟩, ?_⟩
   ·conv => whnf
    repeat' constructor
    simp only [List.length_append, List.length_cons, List.length_nil]
    rw [ntsA_snoc]; rfl
   ·have := hlt e2
    simp only [List.length_append, List.length_cons, List.length_nil]
    omega
   ·simp only
    rw [if_pos h0]
    by_cases e2 : s2.e = 0
    ·have h6 := hlt e2
     rw [List.length_drop, List.length_drop] at h6
     rw [if_pos e2]
     omega
    ·rw [if_neg e2]; omega
 ·rw [decide_eq_false h0]
  conv => whnf
  refine call1 0 [] rfl rfl rfl rfl (fun _ => hxp) ?_
  rintro o r ⟨c, ho, rfl, rfl⟩
  cases ho
  conv => whnf
  rw [stX_err h0]
  exact ⟨_, rfl, s, blkN acc, hinv _ _ (dq_any hi h0 rfl rfl _ _), rfl, rfl⟩
theorem rblock_deep (hT : Ks T) : USpec T 62 21 bkN := fun s0 hi0 y hy => by
 have hop := ropenU hT hi0 pLb 21 y hy
 have he := stO_deep (T := T) s0 pLb
 have hi1 := stO_i hi0 pLb 21
 have hup := fun f => deep_dq (w := pLb) hT hi0 (ws6 (by decide)) (s2 := stO T s0 pLb 21) (s3 := stO T s0 pLb 21) (dq_any hi1 he rfl rfl (.bad 0 1) (blkN [])) ⟨hi1, fun _ => ⟨rfl, rfl⟩⟩ f
 change ∀ f, Dq T s0 (stO T s0 pLb 21) (bkN (T.drop s0.i)) f at hup
 generalize stO T s0 pLb 21 = s at *
 have hxp := rexpectU hT hi1 pRb y hy
 refine spec_of (cx_ok ord62 (fun _ => [0]) 1) (fun _ _ h => h) Tryz.func62 rfl (by kernel_rfl) rfl (by kernel_rfl) ?_
 intro _
 conv => whnf
 refine call1 0 [] rfl rfl rfl rfl (fun _ => hop) ?_
 rintro o r ⟨c, ho, rfl, rfl⟩
 cases ho
 conv => whnf
 refine loop_row 41 4 [] [(2, 3)] ?_
 conv => whnf
 refine ⟨trivial, ?_⟩
 conv => whnf
 refine loop_keep [0, 1, 4, 5] ?_
 conv => whnf
 refine loop_go (fun _ : Unit => []) (fun _ => [bxS T s ++ [.v y], zero4, [intA 11, intA 0, strA ⟨#[]⟩, .own 0]]) (fun _ => [.live 41 4 0 (ntsA [])]) (fun _ => True) (fun _ => 0) () ?_ trivial ?_
 ·repeat' constructor
  show Row.live _ _ _ _ = Row.live _ 4 0 (ntsA [])
  rw [ntsA_nil]
 rintro _ _
 conv => whnf
 rw [decide_eq_false he]
 conv => whnf
 refine call1 0 [] rfl rfl rfl rfl (fun _ => hxp) ?_
 rintro o r ⟨c, ho, rfl, rfl⟩
 cases ho
 conv => whnf
 rw [stX_err he]
 exact ⟨_, rfl, s, blkN [], hup _, rfl, rfl⟩
theorem rlowB {lv : Int} {low : Option Pa} (hT : Ks T) (h : LowR6 T lv low) : USpec T 62 (lv + 1) (lowB low) := by
 obtain ⟨h0, ⟨rfl, rfl⟩ | ⟨p, rfl, h1, a, b, c, d⟩⟩ := h
 ·exact rblock_deep hT
 ·exact d
theorem rlow_step {lv : Int} {low : Option Pa} (hT : Ks T) (h0 : 0 ≤ lv) (h1 : lv + 1 ≤ 20) (hg : LowG low) (h : LowR6 T (lv + 1) low) : LowR6 T lv (some (paG low)) := by
 obtain ⟨x7, x3, x1⟩ := rlevel hT hg h
 have hst := fun s => rstatement (lv := lv + 1) ⟨by omega, h1⟩ hT x1 (rlowB hT h) s
 exact ⟨h0, .inr ⟨_, rfl, h1, x3, x7, x1, rblock_of ⟨by omega, h1⟩ hT hst (goes_st (goes_exp hg) (goes_lowB hg))⟩⟩
theorem rpa_low (hT : Ks T) : ∀ d : Nat, d ≤ 19 → LowR6 T (19 - d) (some (pa d))
 | 0, _ => rlow_step hT (by decide) (by decide) (fun p h => by cases h) ⟨by decide, .inl ⟨rfl, rfl⟩⟩
 | d + 1, h => by
  have ih := rpa_low hT d (by omega)
  refine rlow_step hT (by omega) (by omega) (pa_low [] d (by omega)).goes ?_
  rw [show (19 - ((d + 1 : Nat) : Int) + 1) = 19 - (d : Int) by push_cast; omega]
  exact ih
theorem rblock1 (hT : Ks T) : USpec T 62 1 (pa 19).bl := rlowB hT (rpa_low hT 19 (by decide))
end Go.Proofs.YtmodkpibkkpcdaaGreatDoor.Vm
namespace Go.Proofs.YtmodkpibkkpcdaaGreatDoor.Vm
open Go.RowKit
set_option linter.unusedSimpArgs false
set_option linter.unusedVariables false
theorem renL_snoc {X : List Nat} {rw : List Row} {a a' : A} (ha : ren X rw a = some a') : ∀ {l l' : List A}, renL X rw l = some l' → renL X rw (l ++ [a]) = some (l' ++ [a'])
 | [], l', h => by
  unfold renL at h
  cases h
  simp only [List.nil_append, renL, ha]
 | x :: l, l', h => by
  unfold renL at h
  rw [List.cons_append]
  unfold renL
  split at h
  ·rename_i y hy
   split at h
   ·rename_i r hr
    cases h
    rw [renL_snoc ha hr]
    rfl
   ·cases h
  ·cases h
theorem backL_snoc (X : List Nat) (l : List A) (a : A) : backL X (l ++ [a]) = backL X l ++ [back X a] := by
 rw [backL_map, backL_map, List.map_append]; rfl
section
variable {w0 : W0} {C0 : Rd} {β0 : List Nat} {bx : List (List A)} {rw : List Row} {w : World} {E : Env}
theorem Hp.last {i : Nat} {c : List A} {a a' : A} (h : Hp w0 C0 β0 bx rw w E) (hi : bx[i]? = some (c ++ [a])) (ha : ∀ t, a ≠ .adr t) (ha' : ∀ t, a' ≠ .adr t) (hl : ∀ u, a.rep E u → a'.rep E u) : Hp w0 C0 β0 (bx.set i (c ++ [a'])) rw w E := by
 refine ⟨h.sub, h.base, h.fresh, h.bp, h.bnd, h.bC, by rw [List.length_set]; exact h.bl, fun j b cs h1 h2 => ?_, h.rl, h.rws, h.rC, h.rd, h.rs, h.keep, h.gk⟩
 by_cases e : i = j
 ·subst e
  rw [List.getElem?_set_self (List.getElem?_eq_some_iff.1 hi).1] at h2
  cases h2
  obtain ⟨T, arr, q1, q2⟩ := h.bxs i b _ h1 hi
  exact ⟨T, arr, q1, boxC_last ha ha' (fun us hu => hu) (fun u hu _ => hl u hu) q2⟩
 ·rw [List.getElem?_set_ne e] at h2
  exact h.bxs j b cs h1 h2
end
section
variable {P : Program} {pan : List PanicEntry → S → Prop} {Xr : Nat → Bool} {f : Nat} {s : S} {K : A → S → Prop} {post : List A → A → Prop}
theorem callV1 (i g : Nat) {cA c1 args args' : List A} {pn : List PanicEntry → Prop} (hX : Xr i = true) (hi : s.bx[i]? = some (cA ++ [.own g])) (hgl : g < s.rw.length) (h1 : renL [i] s.rw cA = some c1) (h2 : renL [i] s.rw args = some args')
  (hs : SpecV P f c1 args' post pn)
  (hpn : ∀ ch bx', pn ch → bx'.length = s.bx.length → (∀ j, j ≠ i → bx'[j]? = s.bx[j]?) → pan ch ⟨s.t, bx', s.rw⟩)
  (hk : ∀ c r, post c r → outK [i] s.bx [i] [c ++ [.own g]] fun bx' => force (back [i] r) fun r' => forceR s.rw fun rw' => withBR s bx' rw' (K r')) : CallW P pan Xr f args s K := by
 unfold CallW
 right; right; right; right; right
 have hil := (List.getElem?_eq_some_iff.1 hi).1
 have key : ∀ (w0 : W0) (C0 : Rd) (β0 : List Nat) (E : Env) (w : World) (vals : List Value), Hp w0 C0 β0 s.bx s.rw w E → A.repL args E vals →
   ((∀ vs w, (callFunc f vs).run P w = .ok (.enter f vs) w) ∧ Calls P f vals.toArray w (fun e w' => (∃ y, e = .returned y ∧ Left w0 C0 β0 Xr s E w K y w') ∨ ∃ ch s' E', e = .panicked ch ∧ pan ch s' ∧ s'.t = s.t ∧ E.le E' ∧ Hp w0 C0 β0 s'.bx s'.rw w' E')) := fun w0 C0 β0 E w vals hp hargs => by
  have hgr : g < E.ρ.length := by rw [← hp.rl]; exact hgl
  obtain ⟨y, hyg⟩ : ∃ y, E.ρ[g]? = some y := ⟨_, List.getElem?_eq_getElem hgr⟩
  have hy : okV y := by
   rcases hp.rs g y hyg with ⟨_, _, _, rfl⟩ | ⟨_, rfl⟩ | ⟨_, rfl⟩ <;> exact trivial
  have hp2 := hp.last (a' := .v y) hi (fun t e => by cases e) (fun t e => by cases e) (fun u hu => by
   unfold A.rep at hu
   have : y = u := by rw [hyg] at hu; exact Option.some.inj hu
   subst this
   exact A.rep_v hy)
  have hc := call_okP (s := ⟨s.t, s.bx.set i (cA ++ [.v y]), s.rw⟩) (pan := pan) (pn := pn) (X := [i]) (ids := []) (ins := [c1 ++ [.v y]]) (post := fun o r => ∃ c, o = [c ++ [.v y]] ∧ post c r) (Xr := Xr) (args := args) (args' := args') (vs := vals)
   (K := fun r s' => ∃ c bx', s' = ⟨s.t, bx'.set i (c ++ [.v y]), s.rw⟩ ∧ bx'[i]? = some (c ++ [.own g]) ∧ K r ⟨s.t, bx', s.rw⟩) hp2 hargs
   (by simp) (by simpa using hX) (by simpa using hil)
   (by
    have : (s.bx.set i (cA ++ [.v y])).getD i [] = cA ++ [.v y] := by simp [List.getD_eq_getElem?_getD, hil]
    simp only [List.map_cons, List.map_nil, this]
    show renLL [i] s.rw [cA ++ [.v y]] = _
    simp only [renLL, renL_snoc (a := .v y) (a' := .v y) (by unfold ren; rfl) h1])
   h2 (fun _ => hs y hy)
   (fun outs r ⟨c, ho, hpost⟩ _ => by
    subst ho
    obtain ⟨_, bx', q1, q2, q3, q4⟩ := outK_iff (by simp) (hk c r hpost)
    rw [force_iff, forceR_iff, withBR_iff] at q1
    have q5 := q4 0 i _ rfl rfl
    rw [backL_snoc] at q5
    unfold outK
    rw [mapK_iff]
    refine setK_mk (by simpa using hil) ?_
    unfold outK
    simp only
    rw [force_iff, forceR_iff, withBR_iff, ← backL_map, backL_snoc]
    refine ⟨backL [i] c, bx', ?_, by rw [q5]; simp [back], q1⟩
    simp only [List.set_set, S.mk.injEq, true_and, and_true]
    refine ⟨?_, rfl⟩
    apply List.ext_getElem?
    intro j
    by_cases e : i = j
    ·subst e
     rw [List.getElem?_set_self hil, List.getElem?_set_self (by rw [q2]; exact hil)]
     simp [back]
    ·rw [List.getElem?_set_ne e, List.getElem?_set_ne e, q3 j (by simpa using fun h => e h.symm)])
   (fun ch bx' h k1 k2 => hpn ch bx' h (by simpa using k1) fun j hj => by
    rw [k2 j (by simpa using hj), List.getElem?_set_ne (fun e => hj e.symm)])
  refine ⟨hc.1, hc.2.mono fun e w' hh => ?_⟩
  rcases hh with ⟨y2, rfl, ⟨⟨r, s', E', ⟨c, bx', rfl, hb, hK⟩, k1, k2, k3, k4, k5, k6⟩⟩⟩ | hh
  ·refine .inl ⟨y2, rfl, ⟨⟨r, ⟨s.t, bx', s.rw⟩, E', hK, rfl, k2, ?_, k4, k5, k6⟩⟩⟩
   have hbl := (List.getElem?_eq_some_iff.1 hb).1
   have hp3 := k3.last (i := i) (c := c) (a := .v y) (a' := .own g) (List.getElem?_set_self hbl) (fun t e => by cases e) (fun t e => by cases e) (fun u hu => by
    obtain ⟨rfl, -⟩ := A.rep_v_iff.1 hu
    unfold A.rep
    exact k2.ρ _ _ hyg)
   have e : (bx'.set i (c ++ [.v y])).set i (c ++ [.own g]) = bx' := by
    rw [List.set_set]
    apply List.ext_getElem?
    intro j
    by_cases e : i = j
    ·subst e
     rw [List.getElem?_set_self hbl, hb]
    ·rw [List.getElem?_set_ne e]
   rw [e] at hp3
   exact hp3
  ·exact .inr hh
 refine ⟨?_, fun w0 C0 β0 E w vals hp hargs => (key w0 C0 β0 E w vals hp hargs).2⟩
 exact (hs (.bool true) trivial).1
end
end Go.Proofs.YtmodkpibkkpcdaaGreatDoor.Vm
namespace Go.Proofs.YtmodkpibkkpcdaaGreatDoor.Vm
open Go.RowKit Go.Shelf
set_option linter.unusedSimpArgs false
set_option linter.unusedVariables false
set_option maxRecDepth 100000
variable {T : List Tk}
def ordDe (id : Nat) : Tr := match Nat.beq id 6 with
 | true => .q 0 3 (.q 1 3 (.q 2 3 (.q 4 3 (.alt 3 2 (.alt 5 2 (.alt 6 2 .nil .nil) .nil) (.alt 5 2 (.alt 3 2 (.alt 6 2 .nil .nil) .nil) .nil)))))
 | false => match Nat.beq id 12 with
  | true => .q 0 3 (.q 1 3 (.q 2 3 (.q 3 3 (.q 5 3 (.alt 4 2 (.alt 6 2 (.alt 7 2 (.alt 8 2 (.q 9 3 (.q 10 3 (.alt 11 2 .nil .nil))) .nil) .nil) .nil) (.alt 6 2 (.alt 4 2 (.alt 7 2 (.alt 8 2 (.q 9 3 (.q 10 3 (.alt 11 2 .nil .nil))) .nil) .nil) (.alt 7 2 (.alt 4 2 (.alt 8 2 (.q 9 3 (.q 10 3 (.alt 11 2 .nil .nil))) .nil) .nil) .nil)) .nil))))))
  | false => .nil
def deB (n : Nat) (nm out : List ByteArray) (us : List Tk) : Pd :=
 if isNm us = false then .bad (hd us).pos 10
 else if hasF nm (hd us).text = true then .bad (hd us).pos 4
 else if nm.length = 16 then .bad (hd us).pos 2
 else deH n (nm ++ [(hd us).text]) (out ++ [(hd us).text]) us.tail
theorem deB_eq (n : Nat) (nm out : List ByteArray) (ts : List Tk) : deGo (n + 1) nm out ts = deB n nm out ts.tail := rfl
def Dd (T : List Tk) (s' : S6) (P : Pd) (nm out : List ByteArray) : Prop := s'.i < T.length ∧ match P with
 | .ok n o r => s'.e = 0 ∧ nm = n ∧ out = o ∧ T.drop s'.i = r
 | .bad x e => e ≠ 0 ∧ s'.e = e ∧ s'.a = x
set_option maxHeartbeats 1000000 in
theorem rdecl (hT : Ks T) (nm0 : List ByteArray) (s0 : S6) (hi0 : s0.i < T.length) (h0 : s0.e = 0) (hk0 : (tk6 T s0).kind ≠ 0) (hl16 : nm0.length ≤ 16) :
  SpecRP Tryz.prog 59 [bxS T s0 ++ [.own 0]] 9 1 nm0.length (txA nm0) [.box 0 0]
   (fun o n cs r => ∃ s' nm out, o = [bxS T s' ++ [.own 0]] ∧ n = nm.length ∧ cs = txA nm ∧ r = .sl 1 out.length (txA out) ∧ nm.length ≤ 16 ∧ nm0.length + out.length ≤ nm.length ∧ Dd T s' (deGo (T.drop s0.i).length nm0 [] (T.drop s0.i)) nm out) (fun _ => False) := by
 obtain ⟨P, hP⟩ : ∃ P, deGo (T.drop s0.i).length nm0 [] (T.drop s0.i) = P := ⟨_, rfl⟩
 rw [hP]
 have hn0 := hT.n
 have hln0 : (T.drop s0.i).length = T.length - s0.i := List.length_drop
 have htk0 := rtakeU hT hi0
 have hi1 := stT_i hi0
 have hdn := drop_next hT hi0 hk0
 have hse := (stT_e (T := T) s0).1
 have hst := stT_next hT hi0 hk0
 obtain ⟨n0, hn0'⟩ : ∃ n0, (T.drop s0.i).length = n0 + 1 := ⟨(T.drop s0.i).length - 1, by omega⟩
 rw [hn0', deB_eq, ← hdn] at hP
 have hl1 : (T.drop (stT T s0).i).length ≤ n0 := by rw [hst, List.length_drop]; simp only; omega
 rw [h0] at hse
 generalize stT T s0 = s1 at *
 refine specR_of (cx_okP ordDe (fun _ => [0]) 1 (fun ch _ => False)) (fun _ _ h => h) Tryz.func59 rfl (by kernel_rfl) rfl (by kernel_rfl) ?_
 intro _
 conv => whnf
 refine callV1 0 0 (cA := bxS T (s0)) rfl rfl (Nat.zero_lt_succ _) rfl rfl (htk0).v (fun _ _ h => h.elim) ?_
 rintro c r ⟨rfl, rfl⟩
 conv => whnf
 refine loop_row 9 1 [3] [] ?_
 conv => whnf
 refine ⟨trivial, ?_⟩
 conv => whnf
 refine loop_keep [0, 3] ?_
 conv => whnf
 refine loop_go (fun x : Nat × List ByteArray × List ByteArray × S6 => []) (fun x => [bxS T x.2.2.2 ++ [.own 0]]) (fun x => [.live 9 1 x.2.1.length (txA x.2.1), .live 9 1 x.2.2.1.length (txA x.2.2.1)])
  (fun x => x.2.2.2.i < T.length ∧ x.2.2.2.e = 0 ∧ (T.drop x.2.2.2.i).length ≤ x.1 ∧ x.2.1.length ≤ 16 ∧ nm0.length + x.2.2.1.length ≤ x.2.1.length ∧ deB x.1 x.2.1 x.2.2.1 (T.drop x.2.2.2.i) = P) (fun x => T.length - x.2.2.2.i) (n0, nm0, [], s1) ?_ ⟨hi1, hse, hl1, hl16, Nat.le_refl _, hP⟩ ?_
 ·repeat' constructor
 clear hP hse hl1 hi1 hn0' hdn
 rintro ⟨n, nm, out, s⟩ ⟨hi, he, g3, g4, g5, hP⟩
 simp only at hi he g3 g4 g5 hP
 have hnx := rnextU hi
 have hnm := rnameU hi
 have htk := rtakeU hT hi
 have hfl : ∀ x : Int, SpecU 96 (bxS T s) [.box 0 0, intA x, .v (.int .i64 s.i)] fun c r => c = bxS T ⟨s.i, (tk6 T s).pos, x⟩ ∧ r = .tup [] := fun x => by
  have := rfailU s.i hi x (s := s)
  unfold stF at this
  rw [if_pos he] at this
  exact this
 have hxe : ∀ x : Int, x ≠ 0 → SpecU 60 (bxS T ⟨s.i, (tk6 T s).pos, x⟩) [.box 0 0, strA pSemi] fun c r => c = bxS T ⟨s.i, (tk6 T s).pos, x⟩ ∧ r = .tup [] := fun x h => by
  have := rexpectU hT (s := ⟨s.i, (tk6 T s).pos, x⟩) hi pSemi
  rw [stX_err h] at this
  exact this
 conv => whnf
 rw [decide_eq_true he]
 conv => whnf
 refine callV1 0 0 (cA := bxS T (s)) rfl rfl (Nat.zero_lt_succ _) rfl rfl (hnm).v (fun _ _ h => h.elim) ?_
 rintro c r ⟨rfl, rfl⟩
 conv => whnf
 cases hn : isNm (T.drop s.i) with
 | false =>
  unfold deB at hP
  rw [if_pos hn] at hP
  conv => whnf
  refine callV1 0 0 (cA := bxS T (s)) rfl rfl (Nat.zero_lt_succ _) rfl rfl (hfl 10).v (fun _ _ h => h.elim) ?_
  rintro c r ⟨rfl, rfl⟩
  conv => whnf
  refine callV1 0 0 (cA := bxS T (⟨s.i, (tk6 T s).pos, 10⟩)) rfl rfl (Nat.zero_lt_succ _) rfl rfl (hxe 10 (by decide)).v (fun _ _ h => h.elim) ?_
  rintro c r ⟨rfl, rfl⟩
  conv => whnf
  subst hP
  refine ⟨0, ?_⟩
  conv => whnf
  exact ⟨⟨s.i, (tk6 T s).pos, 10⟩, nm, out, rfl, rfl, rfl, rfl, g4, g5, hi, show (10 : Int) ≠ 0 by decide, rfl, rfl⟩
 | true =>
  have hk : (tk6 T s).kind ≠ 0 := by
   have := isNm_kind hn
   change (tk6 T s).kind = 1 at this
   rw [this]; decide
  have hdn := drop_next hT hi hk
  have hi1 := stT_i hi
  have he1 := (stT_e (T := T) s).1
  have hst := stT_next hT hi hk
  rw [he] at he1
  unfold deB at hP
  rw [if_neg (by rw [hn]; simp)] at hP
  conv => whnf
  have hct := has6_spec nm (tk6 T s).text (by omega)
  apply join_eq
  ·conv => whnf
   refine ⟨?_, ?_⟩
   ·conv => whnf
    refine callV1 0 0 (cA := bxS T (s)) rfl rfl (Nat.zero_lt_succ _) rfl rfl (hnx).v (fun _ _ h => h.elim) ?_
    rintro c r ⟨rfl, rfl⟩
    conv => whnf
    refine callL [0] rfl (fun _ => hct) ?_
    rintro r rfl
    refine ⟨_, rfl, ?_⟩
    conv => whnf
   ·conv => whnf
    refine callV1 0 0 (cA := bxS T (s)) rfl rfl (Nat.zero_lt_succ _) rfl rfl (hnx).v (fun _ _ h => h.elim) ?_
    rintro c r ⟨rfl, rfl⟩
    conv => whnf
    refine callL [0] rfl (fun _ => hct) ?_
    rintro r rfl
    refine ⟨_, rfl, ?_⟩
    conv => whnf
  conv => whnf
  cases hh : hasF nm (tk6 T s).text with
  | true =>
   change hasF nm (hd (T.drop s.i)).text = true at hh
   rw [if_pos hh] at hP
   conv => whnf
   refine callV1 0 0 (cA := bxS T (s)) rfl rfl (Nat.zero_lt_succ _) rfl rfl (hfl 4).v (fun _ _ h => h.elim) ?_
   rintro c r ⟨rfl, rfl⟩
   conv => whnf
   refine callV1 0 0 (cA := bxS T (⟨s.i, (tk6 T s).pos, 4⟩)) rfl rfl (Nat.zero_lt_succ _) rfl rfl (hxe 4 (by decide)).v (fun _ _ h => h.elim) ?_
   rintro c r ⟨rfl, rfl⟩
   conv => whnf
   subst hP
   refine ⟨0, ?_⟩
   conv => whnf
   exact ⟨⟨s.i, (tk6 T s).pos, 4⟩, nm, out, rfl, rfl, rfl, rfl, g4, g5, hi, show (4 : Int) ≠ 0 by decide, rfl, rfl⟩
  | false =>
   change hasF nm (hd (T.drop s.i)).text = false at hh
   rw [if_neg (by rw [hh]; simp)] at hP
   conv => whnf
   by_cases h16 : nm.length = 16
   ·rw [if_pos h16] at hP
    rw [decide_eq_true (show 16 ≤ (nm.length : Int) by omega)]
    conv => whnf
    refine callV1 0 0 (cA := bxS T (s)) rfl rfl (Nat.zero_lt_succ _) rfl rfl (hfl 2).v (fun _ _ h => h.elim) ?_
    rintro c r ⟨rfl, rfl⟩
    conv => whnf
    refine callV1 0 0 (cA := bxS T (⟨s.i, (tk6 T s).pos, 2⟩)) rfl rfl (Nat.zero_lt_succ _) rfl rfl (hxe 2 (by decide)).v (fun _ _ h => h.elim) ?_
    rintro c r ⟨rfl, rfl⟩
    conv => whnf
    subst hP
    refine ⟨0, ?_⟩
    conv => whnf
    exact ⟨⟨s.i, (tk6 T s).pos, 2⟩, nm, out, rfl, rfl, rfl, rfl, g4, g5, hi, show (2 : Int) ≠ 0 by decide, rfl, rfl⟩
   ·rw [if_neg h16] at hP
    rw [decide_eq_false (show ¬ 16 ≤ (nm.length : Int) by omega)]
    conv => whnf
    rw [decide_eq_true he]
    conv => whnf
    refine callV1 0 0 (cA := bxS T (s)) rfl rfl (Nat.zero_lt_succ _) rfl rfl (hnx).v (fun _ _ h => h.elim) ?_
    rintro c r ⟨rfl, rfl⟩
    conv => whnf
    refine ⟨⟨by simp only; unfold maxLen; omega, by simp only; omega⟩, ?_⟩
    conv => whnf
    apply join_eq
    ·conv => whnf
     refine ⟨?_, ?_⟩
     ·conv => whnf
      refine callV1 0 0 (cA := bxS T (s)) rfl rfl (Nat.zero_lt_succ _) rfl rfl (hnx).v (fun _ _ h => h.elim) ?_
      rintro c r ⟨rfl, rfl⟩
      conv => whnf
      refine ⟨⟨by simp only; unfold maxLen; omega, by simp only; omega⟩, ?_⟩
      conv => whnf
      try rfl
     ·conv => whnf
      refine callV1 0 0 (cA := bxS T (s)) rfl rfl (Nat.zero_lt_succ _) rfl rfl (hnx).v (fun _ _ h => h.elim) ?_
      rintro c r ⟨rfl, rfl⟩
      conv => whnf
      refine ⟨?_, ?_⟩
      ·conv => whnf
       refine ⟨⟨by simp only; unfold maxLen; omega, by simp only; omega⟩, ?_⟩
       conv => whnf
       try rfl
      ·conv => whnf
       refine ⟨⟨by simp only; unfold maxLen; omega, by simp only; omega⟩, ?_⟩
       conv => whnf
       try rfl
    conv => whnf
    refine callV1 0 0 (cA := bxS T (s)) rfl rfl (Nat.zero_lt_succ _) rfl rfl (htk).v (fun _ _ h => h.elim) ?_
    rintro c r ⟨rfl, rfl⟩
    conv => whnf
    rw [← hdn] at hP
    have hln1 : (T.drop (stT T s).i).length + 1 = (T.drop s.i).length := by
     have : s.i + 1 < T.length := by
      rw [hst] at hi1
      exact hi1
     rw [hst, List.length_drop, List.length_drop]
     simp only
     omega
    have hl2 : nm.length + 1 ≤ 16 := by omega
    have htt : (hd (T.drop s.i)).text = (tk6 T s).text := rfl
    rw [htt] at hP
    clear hfl hxe hct hnx hnm htk
    generalize htx : (tk6 T s).text = tx at *
    generalize hs1 : stT T s = s2 at *
    have hnx := rnextU hi1
    have htk := rtakeU hT hi1
    have hxp := rexpectU hT hi1 pSemi
    refine callV1 0 0 (cA := bxS T (s2)) rfl rfl (Nat.zero_lt_succ _) rfl rfl (hnx).v (fun _ _ h => h.elim) ?_
    rintro c r ⟨rfl, rfl⟩
    conv => whnf
    unfold deH at hP
    rw [isP_tk hT hi1 (w := pComma) (ws6 (by decide)), isP_tk hT hi1 (w := pSemi) (ws6 (by decide))] at hP
    by_cases hc : (tk6 T s2).text = pComma
    ·rw [decide_eq_true (p := (tk6 T s2).text = ⟨_⟩) hc]
     rw [if_pos (decide_eq_true hc)] at hP
     have hk2 := text_kind hT hi1 (w := pComma) (ws6 (by decide)) hc
     have hdn2 := drop_next hT hi1 hk2
     have he2 := (stT_e (T := T) s2).1
     have hi2 := stT_i hi1
     have hst2 := stT_next hT hi1 hk2
     obtain ⟨m, rfl⟩ : ∃ m, n = m + 1 := ⟨n - 1, by rw [List.length_drop] at hln1; omega⟩
     rw [deB_eq, ← hdn2] at hP
     have hln2 : (T.drop (stT T s2).i).length + 1 = (T.drop s2.i).length := by
      rw [hst2] at hi2
      rw [hst2, List.length_drop, List.length_drop]
      simp only at hi2 ⊢
      omega
     rw [he1] at he2
     generalize stT T s2 = s3 at *
     conv => whnf
     refine callV1 0 0 (cA := bxS T (s2)) rfl rfl (Nat.zero_lt_succ _) rfl rfl (htk).v (fun _ _ h => h.elim) ?_
     rintro c r ⟨rfl, rfl⟩
     conv => whnf
     refine ⟨(m, nm ++ [tx], out ++ [tx], s3), le_selH [0, 1] ?_, ⟨hi2, he2, by simp only; omega, by simp only [List.length_append, List.length_cons, List.length_nil]; omega, by simp only [List.length_append, List.length_cons, List.length_nil]; omega, hP⟩, by simp only [List.length_drop] at hln1 hln2 ⊢; omega⟩
     conv => whnf
     simp only [List.length_append, List.length_cons, List.length_nil, txA_snoc]
     repeat' constructor
    ·rw [decide_eq_false (p := (tk6 T s2).text = ⟨_⟩) hc]
     rw [if_neg (by rw [decide_eq_false hc]; simp)] at hP
     conv => whnf
     refine callV1 0 0 (cA := bxS T (s2)) rfl rfl (Nat.zero_lt_succ _) rfl rfl (hxp).v (fun _ _ h => h.elim) ?_
     rintro c r ⟨rfl, rfl⟩
     conv => whnf
     refine ⟨0, ?_⟩
     conv => whnf
     refine ⟨stX T s2 pSemi, nm ++ [tx], out ++ [tx], rfl, by rw [List.length_append]; rfl, by rw [txA_snoc]; rfl, by rw [List.length_append, txA_snoc]; rfl, by simp only [List.length_append, List.length_cons, List.length_nil]; omega, by simp only [List.length_append, List.length_cons, List.length_nil]; omega, stX_i hi1 _, ?_⟩
     subst hP
     by_cases hs : (tk6 T s2).text = pSemi
     ·rw [if_pos (decide_eq_true hs)]
      have e1 : stX T s2 pSemi = stT T s2 := by unfold stX; rw [if_pos he1, if_pos hs]
      rw [e1]
      exact ⟨by rw [(stT_e s2).1]; exact he1, rfl, rfl, drop_next hT hi1 (text_kind hT hi1 (ws6 (by decide)) hs)⟩
     ·rw [if_neg (by rw [decide_eq_false hs]; simp)]
      have e1 : stX T s2 pSemi = ⟨s2.i, (tk6 T s2).pos, 10⟩ := by unfold stX; rw [if_pos he1, if_neg hs]
      rw [e1]
      exact ⟨show (10 : Int) ≠ 0 by decide, rfl, rfl⟩
end Go.Proofs.YtmodkpibkkpcdaaGreatDoor.Vm
namespace Go.Proofs.YtmodkpibkkpcdaaGreatDoor.Vm
open Go.RowKit Go.Shelf
set_option linter.unusedSimpArgs false
set_option linter.unusedVariables false
set_option maxRecDepth 100000
variable {T : List Tk}
def hndW : List ByteArray := [wStart, wRequest, wTimer, wMessage]
def Dh (T : List Tk) (s' : S6) (P : Ph) (k : Int) : Prop := s'.i < T.length ∧ match P with
 | .ok n r => s'.e = 0 ∧ k = n ∧ T.drop s'.i = r
 | .bad x e => e ≠ 0 ∧ s'.e = e ∧ s'.a = x
def stD (T : List Tk) (s : S6) (p : Int) (b : Bool) : S6 := if s.e = 0 ∧ b = true then ⟨s.i, p, 4⟩ else s
theorem dh_dup {hs : List (Int × Nt)} {us : List Tk} {s : S6} {k : Int} (h : Dh T s (hnF us) k) : Dh T (stD T s (hd us).pos (hs.any fun h => decide (h.1 = k))) (heF hs us) k := by
 obtain ⟨hi, h⟩ := h
 unfold heF stD
 cases hP : hnF us with
 | ok n r =>
  rw [hP] at h
  obtain ⟨h1, rfl, h2⟩ := h
  simp only
  by_cases hd : (hs.any fun h => decide (h.1 = k)) = true
  ·rw [if_pos hd, if_pos ⟨h1, hd⟩]
   exact ⟨hi, show (4 : Int) ≠ 0 by decide, rfl, rfl⟩
  ·rw [if_neg hd, if_neg (fun h => hd h.2)]
   exact ⟨hi, h1, rfl, h2⟩
 | bad x e =>
  rw [hP] at h
  obtain ⟨h1, h2, h3⟩ := h
  rw [if_neg (fun h => h1 (h2.symm.trans h.1))]
  exact ⟨hi, h1, h2, h3⟩
theorem dh_num (hT : Ks T) {s : S6} (hi : s.i < T.length) (h0 : s.e = 0) (m off : Int) : Dh T (stN T s m) (numH (m + 1) off (T.drop s.i)) (off + vaN T s m) := by
 refine ⟨stN_i hi m, ?_⟩
 unfold numH
 have e0 : hd (T.drop s.i) = tk6 T s := rfl
 rw [e0]
 by_cases hk : (tk6 T s).kind = 2
 ·have hk' : ¬ (tk6 T s).kind ≠ 2 := fun h => h hk
  rw [if_neg hk']
  by_cases hm : m < (tk6 T s).n
  ·have e1 : stN T s m = ⟨s.i, (tk6 T s).pos, 6⟩ := by unfold stN; rw [if_pos h0, if_neg hk', if_pos hm]
   rw [e1, if_pos (by omega)]
   exact ⟨show (6 : Int) ≠ 0 by decide, rfl, rfl⟩
  ·have e1 : stN T s m = stT T s := by unfold stN; rw [if_pos h0, if_neg hk', if_neg hm]
   have e2 : vaN T s m = (tk6 T s).n := by unfold vaN; rw [if_pos ⟨h0, hk, by omega⟩]
   rw [e1, e2, if_neg (by omega)]
   exact ⟨by rw [(stT_e s).1]; exact h0, rfl, drop_next hT hi (by rw [hk]; decide)⟩
 ·have e1 : stN T s m = ⟨s.i, (tk6 T s).pos, 10⟩ := by unfold stN; rw [if_pos h0, if_pos hk]
  rw [e1, if_pos hk]
  exact ⟨show (10 : Int) ≠ 0 by decide, rfl, rfl⟩
theorem vaN_le (hT : Ks T) {s : S6} (hi : s.i < T.length) {m : Int} (hm : 0 ≤ m) : 0 ≤ vaN T s m ∧ vaN T s m ≤ m := by
 unfold vaN
 have := (hT.p hi).good.2.2.2.1
 change 0 ≤ (tk6 T s).n at this
 split
 ·omega
 ·omega
theorem stD_step {T : List Tk} {s : S6} {k0 : Nat} {b c : Bool} : (if c = true then stF T (stD T s (hd (T.drop k0)).pos b) 4 k0 else stD T s (hd (T.drop k0)).pos b) = stD T s (hd (T.drop k0)).pos (b || c) := by
 unfold stF stD
 by_cases h0 : s.e = 0
 ·cases b <;> cases c <;> simp [h0]
 ·cases b <;> cases c <;> simp [h0]
theorem any_step (p : Int × Nt → Bool) (l : List (Int × Nt)) (j : Nat) (h : j < l.length) : (l.take (j + 1)).any p = ((l.take j).any p || p l[j]) := by
 rw [List.take_succ_eq_append_getElem h, List.any_append, List.any_cons, List.any_nil, Bool.or_false]
theorem hnF_no (hT : Ks T) {s : S6} (hi : s.i < T.length) (h : hasF hndW (tk6 T s).text = false) : hnF (T.drop s.i) = .bad (hd (T.drop s.i)).pos 10 := by
 have hn : ∀ w ∈ hndW, Ws6 w → ¬ isP w (T.drop s.i) = true := fun w hw h6 e => by
  rw [isP_tk hT hi h6] at e
  have e2 : hasF hndW (tk6 T s).text = true := List.any_eq_true.2 ⟨w, hw, decide_eq_true (of_decide_eq_true e).symm⟩
  rw [h] at e2; cases e2
 unfold hnF
 rw [if_neg (hn wStart (by simp [hndW]) (ws6 (by decide))), if_neg (hn wRequest (by simp [hndW]) (ws6 (by decide))), if_neg (hn wTimer (by simp [hndW]) (ws6 (by decide))), if_neg (hn wMessage (by simp [hndW]) (ws6 (by decide)))]
set_option maxHeartbeats 1000000 in
theorem rhandler (hT : Ks T) (hs : List (Int × Nt)) (hlen : hs.length ≤ 1000000) (s0 : S6) (hi0 : s0.i < T.length) (h0 : s0.e = 0) :
  SpecU 61 (bxS T s0) [.box 0 0, .sl 5 hs.length (hnsA hs)] fun c r => ∃ s' k, c = bxS T s' ∧ r = intA k ∧ 0 ≤ k ∧ k ≤ 100 ∧ Dh T s' (heF hs (T.drop s0.i)) k := fun y hy => by
 have hnx := rnextU hi0 y hy
 have hta := rtakeU hT hi0 y hy
 have hhs := has6_spec hndW (tk6 T s0).text (by decide)
 obtain ⟨P, hP⟩ : ∃ P, heF hs (T.drop s0.i) = P := ⟨_, rfl⟩
 rw [hP]
 unfold heF at hP
 have hfl := rfailU s0.i hi0 10 (s := s0) y hy
 obtain ⟨t, ht⟩ : ∃ t, (tk6 T s0).text = t := ⟨_, rfl⟩
 rw [ht] at hnx hhs
 refine spec_of (cx_ok ord0 (fun _ => [0]) 1) (fun _ _ h => h) Tryz.func61 rfl (by kernel_rfl) rfl (by kernel_rfl) ?_
 intro _
 conv => whnf
 refine call1 0 [] rfl rfl rfl rfl (fun _ => hnx) ?_
 rintro o r ⟨c, ho, rfl, rfl⟩
 cases ho
 conv => whnf
 (refine call0 [0] rfl (fun _ => hhs) ?_; rintro r rfl; conv => whnf)
 conv => whnf
 cases hw : hasF hndW t with
 | false =>
  unfold stF at hfl
  rw [if_pos h0] at hfl
  conv => whnf
  refine call1 0 [] rfl rfl rfl rfl (fun _ => hfl) ?_
  rintro o r ⟨c, ho, rfl, rfl⟩
  cases ho
  conv => whnf
  refine ⟨_, rfl, ⟨s0.i, (hd (T.drop s0.i)).pos, 10⟩, 0, rfl, rfl, by omega, by omega, hi0, ?_⟩
  rw [hnF_no hT hi0 (by rw [ht]; exact hw)] at hP
  subst hP
  exact ⟨show (10 : Int) ≠ 0 by decide, rfl, rfl⟩
 | true =>
  have hkd : (tk6 T s0).kind ≠ 0 := by
   obtain ⟨w, hw1, hw2⟩ := List.any_eq_true.1 hw
   have hw2 := (of_decide_eq_true hw2).symm
   refine text_kind hT hi0 (w := w) ?_ (ht.trans hw2)
   simp only [hndW, List.mem_cons, List.not_mem_nil, or_false] at hw1
   rcases hw1 with e | e | e | e <;> rw [e] <;> exact ws6 (by decide)
  conv => whnf
  refine call1 0 [] rfl rfl rfl rfl (fun _ => hta) ?_
  rintro o r ⟨c, ho, rfl, rfl⟩
  cases ho
  conv => whnf
  by_cases g1 : t = wStart
  ·have n1 : ¬ t = wRequest := fun e => by rw [g1] at e; exact absurd e (by decide)
   have n2 : ¬ t = wTimer := fun e => by rw [g1] at e; exact absurd e (by decide)
   have n3 : ¬ t = wMessage := fun e => by rw [g1] at e; exact absurd e (by decide)
   rw [decide_eq_false (p := t = ⟨_⟩) n1]
   conv => whnf
   rw [decide_eq_false (p := t = ⟨_⟩) n2]
   conv => whnf
   rw [decide_eq_false (p := t = ⟨_⟩) n3]
   conv => whnf
   have hs1 : Dh T (stT T s0) (hnF (T.drop s0.i)) 0 := by
    unfold hnF
    rw [isP_tk hT hi0 (w := wStart) (ws6 (by decide)), if_pos (decide_eq_true (ht.trans g1))]
    exact ⟨stT_i hi0, by rw [(stT_e s0).1]; exact h0, rfl, drop_next hT hi0 hkd⟩
   refine loop_sel [] ?_
   conv => whnf
   refine loop_keep [0, 1, 5, 7] ?_
   conv => whnf
   have hdh := dh_dup (hs := hs) hs1
   unfold heF at hdh
   rw [hP] at hdh
   refine loop_go (fun x : Nat × S6 => [(8, .v (.int .i64 x.1))]) (fun x => [bxS T x.2 ++ [.v y]]) (fun _ => []) (fun x => x.1 ≤ hs.length ∧ x.2 = stD T (stT T s0) (hd (T.drop s0.i)).pos ((hs.take x.1).any fun h => decide (h.1 = 0))) (fun x => hs.length - x.1) (0, stT T s0) ?_ ⟨Nat.zero_le _, by unfold stD; rw [if_neg (fun h => by simp at h)]⟩ ?_
   ·repeat' constructor
   rintro ⟨j, s2⟩ ⟨hj, hs2⟩
   simp only at hj hs2
   conv => whnf
   by_cases hlt : j < hs.length
   ·rw [decide_eq_true (show (j : Int) < hs.length by omega)]
    have hrow := rowOf_hns hs j hlt
    have hst := stD_step (T := T) (s := stT T s0) (k0 := s0.i) (b := (hs.take j).any fun h => decide (h.1 = 0)) (c := decide (hs[j].1 = 0))
    rw [← any_step (fun h => decide (h.1 = 0)) hs j hlt, ← hs2] at hst
    generalize hs[j] = h at *
    have hf4 := rfailU s0.i hi0 4 (s := s2) y hy
    conv => whnf
    refine ⟨by omega, ?_⟩
    conv => whnf
    (generalize hrq : rowOf _ _ (hnsA hs) = rq; obtain rfl : rq = hnA h := hrq.symm.trans (hrow); clear hrq; conv => whnf)
    by_cases hk : h.1 = 0
    ·rw [decide_eq_true (show _ = _ from hk)]
     rw [if_pos (decide_eq_true hk)] at hst
     conv => whnf
     refine call1 0 [] rfl rfl rfl rfl (fun _ => hf4) ?_
     rintro o r ⟨c, ho, rfl, rfl⟩
     cases ho
     conv => whnf
     refine ⟨i64r (by omega), ?_⟩
     conv => whnf
     refine ⟨(j + 1, stF T s2 4 s0.i), le_selH [] ?_, ⟨hlt, hst⟩, by simp only; omega⟩
     conv => whnf
     repeat' constructor
    ·rw [decide_eq_false (show ¬ _ = _ from hk)]
     rw [if_neg (by rw [decide_eq_false hk]; simp)] at hst
     conv => whnf
     refine ⟨i64r (by omega), ?_⟩
     conv => whnf
     refine ⟨(j + 1, s2), le_selH [] ?_, ⟨hlt, hst⟩, by simp only; omega⟩
     conv => whnf
     repeat' constructor
   ·rw [decide_eq_false (show ¬ (j : Int) < hs.length by omega)]
    rw [show j = hs.length by omega, List.take_length] at hs2
    rw [← hs2] at hdh
    conv => whnf
    exact ⟨_, rfl, s2, 0, rfl, rfl, by omega, by omega, hdh⟩
  have h1 : ¬ isP wStart (T.drop s0.i) = true := by rw [isP_tk hT hi0 (w := wStart) (ws6 (by decide)), ht, decide_eq_false g1]; simp
  by_cases g2 : t = wRequest
  ·have n2 : ¬ t = wTimer := fun e => by rw [g2] at e; exact absurd e (by decide)
   have n3 : ¬ t = wMessage := fun e => by rw [g2] at e; exact absurd e (by decide)
   rw [decide_eq_true (p := t = ⟨_⟩) g2]
   conv => whnf
   rw [decide_eq_false (p := t = ⟨_⟩) n2]
   conv => whnf
   rw [decide_eq_false (p := t = ⟨_⟩) n3]
   conv => whnf
   have hs1 : Dh T (stT T s0) (hnF (T.drop s0.i)) 1 := by
    unfold hnF
    rw [if_neg h1, isP_tk hT hi0 (w := wRequest) (ws6 (by decide)), if_pos (decide_eq_true (ht.trans g2))]
    exact ⟨stT_i hi0, by rw [(stT_e s0).1]; exact h0, rfl, drop_next hT hi0 hkd⟩
   refine loop_sel [] ?_
   conv => whnf
   refine loop_keep [0, 1, 5, 7] ?_
   conv => whnf
   have hdh := dh_dup (hs := hs) hs1
   unfold heF at hdh
   rw [hP] at hdh
   refine loop_go (fun x : Nat × S6 => [(8, .v (.int .i64 x.1))]) (fun x => [bxS T x.2 ++ [.v y]]) (fun _ => []) (fun x => x.1 ≤ hs.length ∧ x.2 = stD T (stT T s0) (hd (T.drop s0.i)).pos ((hs.take x.1).any fun h => decide (h.1 = 1))) (fun x => hs.length - x.1) (0, stT T s0) ?_ ⟨Nat.zero_le _, by unfold stD; rw [if_neg (fun h => by simp at h)]⟩ ?_
   ·repeat' constructor
   rintro ⟨j, s2⟩ ⟨hj, hs2⟩
   simp only at hj hs2
   conv => whnf
   by_cases hlt : j < hs.length
   ·rw [decide_eq_true (show (j : Int) < hs.length by omega)]
    have hrow := rowOf_hns hs j hlt
    have hst := stD_step (T := T) (s := stT T s0) (k0 := s0.i) (b := (hs.take j).any fun h => decide (h.1 = 1)) (c := decide (hs[j].1 = 1))
    rw [← any_step (fun h => decide (h.1 = 1)) hs j hlt, ← hs2] at hst
    generalize hs[j] = h at *
    have hf4 := rfailU s0.i hi0 4 (s := s2) y hy
    conv => whnf
    refine ⟨by omega, ?_⟩
    conv => whnf
    (generalize hrq : rowOf _ _ (hnsA hs) = rq; obtain rfl : rq = hnA h := hrq.symm.trans (hrow); clear hrq; conv => whnf)
    by_cases hk : h.1 = 1
    ·rw [decide_eq_true (show _ = _ from hk)]
     rw [if_pos (decide_eq_true hk)] at hst
     conv => whnf
     refine call1 0 [] rfl rfl rfl rfl (fun _ => hf4) ?_
     rintro o r ⟨c, ho, rfl, rfl⟩
     cases ho
     conv => whnf
     refine ⟨i64r (by omega), ?_⟩
     conv => whnf
     refine ⟨(j + 1, stF T s2 4 s0.i), le_selH [] ?_, ⟨hlt, hst⟩, by simp only; omega⟩
     conv => whnf
     repeat' constructor
    ·rw [decide_eq_false (show ¬ _ = _ from hk)]
     rw [if_neg (by rw [decide_eq_false hk]; simp)] at hst
     conv => whnf
     refine ⟨i64r (by omega), ?_⟩
     conv => whnf
     refine ⟨(j + 1, s2), le_selH [] ?_, ⟨hlt, hst⟩, by simp only; omega⟩
     conv => whnf
     repeat' constructor
   ·rw [decide_eq_false (show ¬ (j : Int) < hs.length by omega)]
    rw [show j = hs.length by omega, List.take_length] at hs2
    rw [← hs2] at hdh
    conv => whnf
    exact ⟨_, rfl, s2, 1, rfl, rfl, by omega, by omega, hdh⟩
  rw [decide_eq_false (p := t = ⟨_⟩) g2]
  conv => whnf
  have h2 : ¬ isP wRequest (T.drop s0.i) = true := by rw [isP_tk hT hi0 (w := wRequest) (ws6 (by decide)), ht, decide_eq_false g2]; simp
  have hi1 := stT_i hi0
  by_cases g3 : t = wTimer
  ·have n3 : ¬ t = wMessage := fun e => by rw [g3] at e; exact absurd e (by decide)
   have hnx2 : hnF (T.drop s0.i) = numH 8 2 (T.drop s0.i).tail := by
    unfold hnF
    rw [if_neg h1, if_neg h2, isP_tk hT hi0 (w := wTimer) (ws6 (by decide)), if_pos (decide_eq_true (ht.trans g3))]
   rw [decide_eq_true (p := t = ⟨_⟩) g3]
   conv => whnf
   refine call1 0 [] rfl rfl rfl rfl (fun _ => rnumU hT hi1 7 y hy) ?_
   rintro o r ⟨c, ho, rfl, rfl⟩
   cases ho
   conv => whnf
   refine ⟨i64r (by have := vaN_le hT hi1 (m := 7) (by decide); omega), ?_⟩
   conv => whnf
   have hvb := vaN_le hT hi1 (m := 7) (by decide)
   have hs1 : Dh T (stN T (stT T s0) 7) (hnF (T.drop s0.i)) (2 + vaN T (stT T s0) 7) := by
    have hd := dh_num hT hi1 (by rw [(stT_e s0).1]; exact h0) 7 2
    rw [drop_next hT hi0 hkd] at hd
    rw [hnx2]
    exact hd
   generalize vaN T (stT T s0) 7 = v at *
   rw [decide_eq_false (p := t = ⟨_⟩) n3]
   conv => whnf
   refine loop_sel [] ?_
   conv => whnf
   refine loop_keep [0, 1, 5, 7] ?_
   conv => whnf
   have hdh := dh_dup (hs := hs) hs1
   unfold heF at hdh
   rw [hP] at hdh
   refine loop_go (fun x : Nat × S6 => [(8, .v (.int .i64 x.1))]) (fun x => [bxS T x.2 ++ [.v y]]) (fun _ => []) (fun x => x.1 ≤ hs.length ∧ x.2 = stD T (stN T (stT T s0) 7) (hd (T.drop s0.i)).pos ((hs.take x.1).any fun h => decide (h.1 = (2 + v)))) (fun x => hs.length - x.1) (0, stN T (stT T s0) 7) ?_ ⟨Nat.zero_le _, by unfold stD; rw [if_neg (fun h => by simp at h)]⟩ ?_
   ·repeat' constructor
   rintro ⟨j, s2⟩ ⟨hj, hs2⟩
   simp only at hj hs2
   conv => whnf
   by_cases hlt : j < hs.length
   ·rw [decide_eq_true (show (j : Int) < hs.length by omega)]
    have hrow := rowOf_hns hs j hlt
    have hst := stD_step (T := T) (s := stN T (stT T s0) 7) (k0 := s0.i) (b := (hs.take j).any fun h => decide (h.1 = (2 + v))) (c := decide (hs[j].1 = (2 + v)))
    rw [← any_step (fun h => decide (h.1 = (2 + v))) hs j hlt, ← hs2] at hst
    generalize hs[j] = h at *
    have hf4 := rfailU s0.i hi0 4 (s := s2) y hy
    conv => whnf
    refine ⟨by omega, ?_⟩
    conv => whnf
    (generalize hrq : rowOf _ _ (hnsA hs) = rq; obtain rfl : rq = hnA h := hrq.symm.trans (hrow); clear hrq; conv => whnf)
    by_cases hk : h.1 = (2 + v)
    ·rw [decide_eq_true (show _ = _ from hk)]
     rw [if_pos (decide_eq_true hk)] at hst
     conv => whnf
     refine call1 0 [] rfl rfl rfl rfl (fun _ => hf4) ?_
     rintro o r ⟨c, ho, rfl, rfl⟩
     cases ho
     conv => whnf
     refine ⟨i64r (by omega), ?_⟩
     conv => whnf
     refine ⟨(j + 1, stF T s2 4 s0.i), le_selH [] ?_, ⟨hlt, hst⟩, by simp only; omega⟩
     conv => whnf
     repeat' constructor
    ·rw [decide_eq_false (show ¬ _ = _ from hk)]
     rw [if_neg (by rw [decide_eq_false hk]; simp)] at hst
     conv => whnf
     refine ⟨i64r (by omega), ?_⟩
     conv => whnf
     refine ⟨(j + 1, s2), le_selH [] ?_, ⟨hlt, hst⟩, by simp only; omega⟩
     conv => whnf
     repeat' constructor
   ·rw [decide_eq_false (show ¬ (j : Int) < hs.length by omega)]
    rw [show j = hs.length by omega, List.take_length] at hs2
    rw [← hs2] at hdh
    conv => whnf
    exact ⟨_, rfl, s2, (2 + v), rfl, rfl, by omega, by omega, hdh⟩
  rw [decide_eq_false (p := t = ⟨_⟩) g3]
  conv => whnf
  have h3 : ¬ isP wTimer (T.drop s0.i) = true := by rw [isP_tk hT hi0 (w := wTimer) (ws6 (by decide)), ht, decide_eq_false g3]; simp
  clear g3
  have g3 : t = wMessage := by
   obtain ⟨w, hw1, hw2⟩ := List.any_eq_true.1 hw
   have hw2 := (of_decide_eq_true hw2).symm
   simp only [hndW, List.mem_cons, List.not_mem_nil, or_false] at hw1
   rcases hw1 with e | e | e | e <;> rw [e] at hw2 <;> first | exact hw2 | contradiction | skip
   exact absurd (by rw [isP_tk hT hi0 (w := wTimer) (ws6 (by decide)), ht]; exact decide_eq_true hw2) h3
  have hnx2 : hnF (T.drop s0.i) = numH 30 10 (T.drop s0.i).tail := by
   unfold hnF
   rw [if_neg h1, if_neg h2, if_neg h3, isP_tk hT hi0 (w := wMessage) (ws6 (by decide)), if_pos (decide_eq_true (ht.trans g3))]
  rw [decide_eq_true (p := t = ⟨_⟩) g3]
  conv => whnf
  refine call1 0 [] rfl rfl rfl rfl (fun _ => rnumU hT hi1 29 y hy) ?_
  rintro o r ⟨c, ho, rfl, rfl⟩
  cases ho
  conv => whnf
  refine ⟨i64r (by have := vaN_le hT hi1 (m := 29) (by decide); omega), ?_⟩
  conv => whnf
  have hvb := vaN_le hT hi1 (m := 29) (by decide)
  have hs1 : Dh T (stN T (stT T s0) 29) (hnF (T.drop s0.i)) (10 + vaN T (stT T s0) 29) := by
   have hd := dh_num hT hi1 (by rw [(stT_e s0).1]; exact h0) 29 10
   rw [drop_next hT hi0 hkd] at hd
   rw [hnx2]
   exact hd
  generalize vaN T (stT T s0) 29 = v at *
  refine loop_sel [] ?_
  conv => whnf
  refine loop_keep [0, 1, 5, 7] ?_
  conv => whnf
  have hdh := dh_dup (hs := hs) hs1
  unfold heF at hdh
  rw [hP] at hdh
  refine loop_go (fun x : Nat × S6 => [(8, .v (.int .i64 x.1))]) (fun x => [bxS T x.2 ++ [.v y]]) (fun _ => []) (fun x => x.1 ≤ hs.length ∧ x.2 = stD T (stN T (stT T s0) 29) (hd (T.drop s0.i)).pos ((hs.take x.1).any fun h => decide (h.1 = (10 + v)))) (fun x => hs.length - x.1) (0, stN T (stT T s0) 29) ?_ ⟨Nat.zero_le _, by unfold stD; rw [if_neg (fun h => by simp at h)]⟩ ?_
  ·repeat' constructor
  rintro ⟨j, s2⟩ ⟨hj, hs2⟩
  simp only at hj hs2
  conv => whnf
  by_cases hlt : j < hs.length
  ·rw [decide_eq_true (show (j : Int) < hs.length by omega)]
   have hrow := rowOf_hns hs j hlt
   have hst := stD_step (T := T) (s := stN T (stT T s0) 29) (k0 := s0.i) (b := (hs.take j).any fun h => decide (h.1 = (10 + v))) (c := decide (hs[j].1 = (10 + v)))
   rw [← any_step (fun h => decide (h.1 = (10 + v))) hs j hlt, ← hs2] at hst
   generalize hs[j] = h at *
   have hf4 := rfailU s0.i hi0 4 (s := s2) y hy
   conv => whnf
   refine ⟨by omega, ?_⟩
   conv => whnf
   (generalize hrq : rowOf _ _ (hnsA hs) = rq; obtain rfl : rq = hnA h := hrq.symm.trans (hrow); clear hrq; conv => whnf)
   by_cases hk : h.1 = (10 + v)
   ·rw [decide_eq_true (show _ = _ from hk)]
    rw [if_pos (decide_eq_true hk)] at hst
    conv => whnf
    refine call1 0 [] rfl rfl rfl rfl (fun _ => hf4) ?_
    rintro o r ⟨c, ho, rfl, rfl⟩
    cases ho
    conv => whnf
    refine ⟨i64r (by omega), ?_⟩
    conv => whnf
    refine ⟨(j + 1, stF T s2 4 s0.i), le_selH [] ?_, ⟨hlt, hst⟩, by simp only; omega⟩
    conv => whnf
    repeat' constructor
   ·rw [decide_eq_false (show ¬ _ = _ from hk)]
    rw [if_neg (by rw [decide_eq_false hk]; simp)] at hst
    conv => whnf
    refine ⟨i64r (by omega), ?_⟩
    conv => whnf
    refine ⟨(j + 1, s2), le_selH [] ?_, ⟨hlt, hst⟩, by simp only; omega⟩
    conv => whnf
    repeat' constructor
  ·rw [decide_eq_false (show ¬ (j : Int) < hs.length by omega)]
   rw [show j = hs.length by omega, List.take_length] at hs2
   rw [← hs2] at hdh
   conv => whnf
   exact ⟨_, rfl, s2, (10 + v), rfl, rfl, by omega, by omega, hdh⟩
end Go.Proofs.YtmodkpibkkpcdaaGreatDoor.Vm
namespace Go.Proofs.YtmodkpibkkpcdaaGreatDoor.Vm
open Go.RowKit Go.Shelf
set_option linter.unusedSimpArgs false
set_option linter.unusedVariables false
set_option maxRecDepth 100000
theorem insH_at (h : Int × Nt) (l : List (Int × Nt)) (j : Nat) (hj : j < l.length) (hlt : l[j].1 < h.1) (e : insH h l = l.take j ++ insH h (l.drop j)) : insH h l = l.take (j + 1) ++ insH h (l.drop (j + 1)) := by
 rw [e, List.drop_eq_getElem_cons hj, List.take_succ_eq_append_getElem hj, List.append_assoc]
 congr 1
 rw [insH, if_neg (by omega)]
 rfl
theorem insH_end (h : Int × Nt) (l : List (Int × Nt)) (j : Nat) (hs : ∀ hj : j < l.length, ¬ l[j].1 < h.1) (e : insH h l = l.take j ++ insH h (l.drop j)) : insH h l = l.take j ++ [h] ++ l.drop j := by
 rw [e, List.append_assoc]
 congr 1
 by_cases hj : j < l.length
 ·rw [List.drop_eq_getElem_cons hj, insH, if_pos (by have := hs hj; omega)]
  rfl
 ·rw [List.drop_of_length_le (by omega)]
  rfl
theorem hnsA_app (l m : List (Int × Nt)) : hnsA (l ++ m) = hnsA l ++ hnsA m := by unfold hnsA; rw [List.flatMap_append]
theorem hnsA_drop (l : List (Int × Nt)) (j : Nat) : ((hnsA l).drop (j * 5)).take ((l.drop j).length * 5) = hnsA (l.drop j) := by
 have e : hnsA l = hnsA (l.take j) ++ hnsA (l.drop j) := by rw [← hnsA_app, List.take_append_drop]
 by_cases hj : j ≤ l.length
 ·rw [e, List.drop_left' (by rw [hnsA_len, List.length_take]; omega), List.take_of_length_le (by rw [hnsA_len]; exact Nat.le_refl _)]
 ·rw [List.drop_of_length_le (show l.length ≤ j by omega), List.length_nil, Nat.zero_mul, List.take_zero, hnsA_nil]
set_option maxHeartbeats 1000000 in
theorem rput (l : List (Int × Nt)) (h : Int × Nt) (hlen : l.length ≤ 1000000) : Spec Tryz.prog 63 [] [.sl 5 l.length (hnsA l), .agg (hnA h)] fun _ r => r = .sl 5 (insH h l).length (hnsA (insH h l)) := by
 refine spec_of (cx_ok ord63 xs0 0) (fun _ _ h => h) Tryz.func63 rfl (by kernel_rfl) rfl (by kernel_rfl) ?_
 intro _
 conv => whnf
 refine loop_row 59 5 [5] [] ?_
 conv => whnf
 refine ⟨trivial, ?_⟩
 conv => whnf
 refine loop_keep [0, 3, 5] ?_
 conv => whnf
 refine loop_go (fun j : Nat => [(6, .v (.int .i64 j))]) (fun j => [hnA h]) (fun j => [.live 59 5 (l.take j).length (hnsA (l.take j))]) (fun j => j ≤ l.length ∧ insH h l = l.take j ++ insH h (l.drop j)) (fun j => l.length - j) 0 ?_ ⟨Nat.zero_le _, rfl⟩ ?_
 ·repeat' constructor
  show Row.live _ _ _ _ = Row.live _ 5 0 (hnsA [])
  rw [hnsA_nil]
 rintro j ⟨hj, hin⟩
 conv => whnf
 by_cases hlt : j < l.length
 ·rw [decide_eq_true (show (j : Int) < l.length by omega)]
  have hrow := rowOf_hns l j hlt
  have hnext := insH_at h l j hlt
  have hstop := fun (k : ¬ l[j].1 < h.1) => insH_end h l j (fun _ => k) hin
  have htk : l.take (j + 1) = l.take j ++ [l[j]] := List.take_succ_eq_append_getElem hlt
  generalize l[j] = g at *
  conv => whnf
  refine ⟨by omega, ?_⟩
  conv => whnf
  (generalize hrq : rowOf _ _ (hnsA l) = rq; obtain rfl : rq = hnA g := hrq.symm.trans (hrow); clear hrq; conv => whnf)
  by_cases hg : g.1 < h.1
  ·rw [decide_eq_true (show _ < _ from hg)]
   conv => whnf
   refine ⟨by omega, ?_⟩
   conv => whnf
   (generalize hrq : rowOf _ _ (hnsA l) = rq; obtain rfl : rq = hnA g := hrq.symm.trans (hrow); clear hrq; conv => whnf)
   refine ⟨⟨by rw [List.length_take]; unfold maxLen; omega, by rw [List.length_take]; omega⟩, ?_⟩
   conv => whnf
   refine ⟨i64r (by omega), ?_⟩
   conv => whnf
   refine ⟨j + 1, le_selH [0] ?_, ⟨hlt, hnext hg hin⟩, by omega⟩
   conv => whnf
   rw [htk]
   repeat' constructor
   show Row.live _ 5 _ _ = Row.live _ 5 (l.take j ++ [g]).length (hnsA (l.take j ++ [g]))
   rw [hnsA_snoc, List.length_append]; rfl
  ·rw [decide_eq_false (show ¬ _ < _ from hg)]
   conv => whnf
   refine ⟨⟨by rw [List.length_take]; unfold maxLen; omega, by rw [List.length_take]; omega⟩, ?_⟩
   conv => whnf
   refine ⟨by omega, ?_⟩
   conv => whnf
   refine ⟨⟨by rw [List.length_take]; unfold maxLen; omega, by rw [List.length_take]; omega⟩, ?_⟩
   conv => whnf
   have hres := hstop hg
   have e0 : (((l.length : Int).toNat - (j : Int).toNat) : Nat) = (l.drop j).length := by rw [List.length_drop]; omega
   rw [e0, show (j : Int).toNat = j by omega, hnsA_drop, hres]
   show A.sl 5 _ (hnsA (l.take j) ++ hnA h ++ _) = _
   rw [hnsA_app, hnsA_snoc, List.length_append, List.length_append]; rfl
 ·rw [decide_eq_false (show ¬ (j : Int) < l.length by omega)]
  have hstop := insH_end h l j (fun k => absurd k hlt) hin
  conv => whnf
  refine ⟨⟨by rw [List.length_take]; unfold maxLen; omega, by rw [List.length_take]; omega⟩, ?_⟩
  conv => whnf
  refine ⟨by omega, ?_⟩
  conv => whnf
  refine ⟨⟨by rw [List.length_take]; unfold maxLen; omega, by rw [List.length_take]; omega⟩, ?_⟩
  conv => whnf
  have hres := hstop
  have e0 : (((l.length : Int).toNat - (j : Int).toNat) : Nat) = (l.drop j).length := by rw [List.length_drop]; omega
  rw [e0, show (j : Int).toNat = j by omega, hnsA_drop, hres]
  show A.sl 5 _ (hnsA (l.take j) ++ hnA h ++ _) = _
  rw [hnsA_app, hnsA_snoc, List.length_append, List.length_append]; rfl
end Go.Proofs.YtmodkpibkkpcdaaGreatDoor.Vm
namespace Go.Proofs.YtmodkpibkkpcdaaGreatDoor.Vm
open Go.RowKit Go.Shelf
set_option linter.unusedSimpArgs false
set_option linter.unusedVariables false
set_option maxRecDepth 100000
theorem key_inj : ∀ {l : List (Int × Nt)}, (l.map (·.1)).Nodup → ∀ a ∈ l, ∀ b ∈ l, a.1 = b.1 → a = b
 | x :: l, h, a, ha, b, hb, e => by
  rw [List.map_cons, List.nodup_cons] at h
  rcases List.mem_cons.1 ha with rfl | ha'
  ·rcases List.mem_cons.1 hb with rfl | hb'
   ·rfl
   ·exact absurd (List.mem_map.2 ⟨b, hb', e.symm⟩) h.1
  ·rcases List.mem_cons.1 hb with rfl | hb'
   ·exact absurd (List.mem_map.2 ⟨a, ha', e⟩) h.1
   ·exact key_inj h.2 a ha' b hb' e
theorem sortH_snoc {hs : List (Int × Nt)} {h : Int × Nt} (hn : ((hs ++ [h]).map (·.1)).Nodup) : insH h (sortH hs) = sortH (hs ++ [h]) := by
 have p1 : (insH h (sortH hs)).Perm (hs ++ [h]) := (insH_perm h _).trans (((sortH_perm hs).cons h).trans (List.perm_append_comm (l₁ := [h]) (l₂ := hs)))
 have p2 := sortH_perm (hs ++ [h])
 refine List.Perm.eq_of_pairwise (le := fun a b => a.1 ≤ b.1) (fun a b ha hb h1 h2 => ?_) (insH_sorted h _ (sortH_sorted hs)) (sortH_sorted _) (p1.trans p2.symm)
 exact key_inj hn a (p1.mem_iff.1 ha) b (p2.mem_iff.1 hb) (Int.le_antisymm h1 h2)
theorem heF_perm {l m : List (Int × Nt)} (h : l.Perm m) (ts : List Tk) : heF l ts = heF m ts := by
 unfold heF
 cases hnF ts with
 | bad x e => rfl
 | ok k r =>
  simp only
  have : (l.any fun h => decide (h.1 = k)) = (m.any fun h => decide (h.1 = k)) := by
   rw [Bool.eq_iff_iff, List.any_eq_true, List.any_eq_true]
   exact ⟨fun ⟨x, h1, h2⟩ => ⟨x, h.mem_iff.1 h1, h2⟩, fun ⟨x, h1, h2⟩ => ⟨x, h.mem_iff.2 h1, h2⟩⟩
  rw [this]
def xsRp (id : Nat) : List Nat := match Nat.beq id 19 with
 | true => [0]
 | false => match Nat.beq id 12 with
  | true => []
  | false => [1]
def ordRp (id : Nat) : Tr := match Nat.beq id 10 || Nat.beq id 11 with
 | true => .q 0 3 (.q 2 3 (.alt 1 2 (.alt 3 2 (.alt 4 2 (.q 5 3 (.alt 6 2 .nil .nil)) .nil) .nil) (.alt 3 2 (.alt 1 2 (.alt 4 2 (.q 5 3 (.alt 6 2 .nil .nil)) .nil) .nil) .nil)))
 | false => ord38 id
theorem ha_next {T : List Tk} (hT : Ks T) {du vo : List ByteArray} {m : Nat} {hs : List (Int × Nt)} {s3 s4 s5 : S6} (hi : s3.i < T.length) {k : Int} {b : Nt} {R : PU} (hdh : Dh T s4 (heF hs (T.drop s3.i)) k) (hq : Dq T s4 s5 ((pa 19).bl (T.drop s4.i)) b)
  (hP : (match heF hs (T.drop s3.i) with
   | .bad x e => .bad x e
   | .ok k r => match (pa 19).bl r with
    | .bad x e => .bad x e
    | .ok b r => haGo du vo m (hs ++ [(k, b)]) r) = R) :
  (s5.e = 0 → (T.drop s5.i).length + 1 ≤ (T.drop s3.i).length ∧ (∀ p ∈ hs, k ≠ p.1) ∧ haGo du vo m (hs ++ [(k, b)]) (T.drop s5.i) = R) ∧ (s5.e ≠ 0 → R = .bad s5.a s5.e) := by
 obtain ⟨h1, h2⟩ := hdh
 obtain ⟨h3, h4, h5⟩ := hq
 cases hh : heF hs (T.drop s3.i) with
 | bad x e =>
  rw [hh] at h2 hP
  obtain ⟨q1, q2, q3⟩ := h2
  obtain ⟨q4, q5⟩ := h4 (by rw [q2]; exact q1)
  refine ⟨fun h => absurd (q2.symm.trans (q5.symm.trans h)) q1, fun _ => ?_⟩
  rw [q4, q5, q2, q3]
  exact hP.symm
 | ok k2 r =>
  rw [hh] at h2 hP
  obtain ⟨q1, rfl, rfl⟩ := h2
  obtain ⟨y1, y2, y3⟩ := heF_ok (hT.p hi) hh
  have h5 := h5 q1
  simp only at hP
  cases hb : (pa 19).bl (T.drop s4.i) with
  | bad x e =>
   rw [hb] at h5 hP
   obtain ⟨q4, q5, q6⟩ := h5
   refine ⟨fun h => absurd (q5.symm.trans h) q4, fun _ => ?_⟩
   rw [q5, q6]
   exact hP.symm
  | ok b2 r2 =>
   rw [hb] at h5 hP
   obtain ⟨q4, q5, rfl, rfl⟩ := h5
   obtain ⟨y4, y5⟩ := block1_goes _ _ _ y2 hb
   exact ⟨fun _ => ⟨by omega, y1, hP⟩, fun h => absurd q4 h⟩
theorem dd_next {T : List Tk} (hT : Ks T) {s1 s2 : S6} (hi : s1.i < T.length) (hk : (tk6 T s1).kind ≠ 0) {nm nm2 out : List ByteArray} (g1 : nm.length ≤ 16) {F : List ByteArray → List ByteArray → List Tk → PU} {R : PU}
  (k : match deGo (T.drop s1.i).length nm [] (T.drop s1.i) with
   | .ok n o r => s2.e = 0 ∧ nm2 = n ∧ out = o ∧ T.drop s2.i = r
   | .bad x e => e ≠ 0 ∧ s2.e = e ∧ s2.a = x)
  (hP : (match deGo (T.drop s1.i).length nm [] (T.drop s1.i) with
   | .bad x e => .bad x e
   | .ok n o r => F n o r) = R) :
  (s2.e = 0 → (T.drop s2.i).length + 1 ≤ (T.drop s1.i).length ∧ F nm2 out (T.drop s2.i) = R) ∧ (s2.e ≠ 0 → R = .bad s2.a s2.e) := by
 cases hd : deGo (T.drop s1.i).length nm [] (T.drop s1.i) with
 | ok n o r =>
  rw [hd] at k hP
  obtain ⟨q1, rfl, rfl, rfl⟩ := k
  exact ⟨fun _ => ⟨(deGo_goes _ _ _ _ _ _ _ (hT.p hi) hk g1 hd).2.1, hP⟩, fun h => absurd q1 h⟩
 | bad x e =>
  rw [hd] at k hP
  obtain ⟨q1, q2, q3⟩ := k
  refine ⟨fun h => absurd (q2.symm.trans h) q1, fun _ => ?_⟩
  rw [q2, q3]; exact hP.symm
set_option maxHeartbeats 4000000 in
theorem rparse_raw (s : ByteArray) (hs : s.size ≤ 1000000000) : Spec Tryz.prog 38 [] [strA s] fun _ r => r = parU0 (uparF s) := by
 obtain ⟨R, hR⟩ : ∃ R, uparF s = R := ⟨_, rfl⟩
 rw [hR]
 have htk := rtokens_spec s hs
 refine spec_of (cx_ok ordRp xsRp 0) (fun _ _ h => h) Tryz.func38 rfl (by kernel_rfl) rfl (by kernel_rfl) ?_
 intro _
 conv => whnf
 unfold uparF at hR
 by_cases hbig : 3000 < s.size
 ·rw [if_pos hbig] at hR
  rw [decide_eq_true (by omega)]
  conv => whnf
  subst hR
  rfl
 rw [if_neg hbig] at hR
 rw [decide_eq_false (by omega)]
 conv => whnf
 refine call0 [] rfl (fun _ => htk) ?_
 rintro r rfl
 have htb := fun h => row_tkP (s := s) (by omega) h
 have hk6 := fun h => row_k6 (s := s) h
 unfold lexR
 cases herr : (lexF' s).err with
 | some pe =>
  obtain ⟨p, e⟩ := pe
  rw [herr] at hR
  simp only at hR
  have hne := (lexG_ok (s.data.toList.length + 1) 0 s.data.toList).2 p e herr
  conv => whnf
  rw [decide_eq_false hne.2.1]
  conv => whnf
  subst hR
  rfl
 | none =>
  rw [herr] at hR
  simp only at hR
  have htb := htb herr
  have hk6 := hk6 herr
  have hrl := rowT_none herr
  rw [← hrl]
  have hln : (lexF' s).toks.length + 1 = (rowT s).length := by rw [hrl]; simp
  rw [hln]
  generalize rowT s = T at *
  have hT : Ks T := ⟨hk6, htb.1.2, htb.1.1⟩
  conv => whnf
  refine loop_row 9 1 [] [(1, 4)] ?_
  conv => whnf
  refine ⟨trivial, ?_⟩
  conv => whnf
  refine loop_row 9 1 [] [(2, 0)] ?_
  conv => whnf
  refine ⟨trivial, ?_⟩
  conv => whnf
  refine loop_row 9 1 [] [(2, 1)] ?_
  conv => whnf
  refine ⟨trivial, ?_⟩
  conv => whnf
  refine loop_keep [2, 8, 9] ?_
  conv => whnf
  refine loop_go (fun x : Nat × List ByteArray × List ByteArray × List ByteArray × S6 => []) (fun x => [zero3, bxS T x.2.2.2.2 ++ [.own 0], [.own 1, .own 2, .v (.slice none 0 0)]]) (fun x => [.live 9 1 x.2.1.length (txA x.2.1), .live 9 1 x.2.2.1.length (txA x.2.2.1), .live 9 1 x.2.2.2.1.length (txA x.2.2.2.1)])
   (fun x => x.2.2.2.2.i < T.length ∧ x.2.1.length ≤ 16 ∧ x.2.2.1.length + x.2.2.2.1.length ≤ x.2.1.length ∧ (x.2.2.2.2.e = 0 → (T.drop x.2.2.2.2.i).length + 1 ≤ x.1 ∧ dcGo x.1 x.2.1 x.2.2.1 x.2.2.2.1 (T.drop x.2.2.2.2.i) = R) ∧ (x.2.2.2.2.e ≠ 0 → R = .bad x.2.2.2.2.a x.2.2.2.2.e)) (fun x => if x.2.2.2.2.e = 0 then (T.drop x.2.2.2.2.i).length + 1 else 0) (T.length + 1, [], [], [], ⟨0, 0, 0⟩) ?_ ⟨htb.pos, Nat.zero_le _, Nat.le_refl _, fun _ => ⟨Nat.le_refl _, hR⟩, fun h => absurd rfl h⟩ ?_
  ·repeat' constructor
  clear hR htk hrl hln herr hbig
  rintro ⟨n, nm, du, vo, s1⟩ ⟨hi, g1, g2, g3, g4⟩
  simp only at hi g1 g2 g3 g4
  have hnx := rnextU hi
  conv => whnf
  by_cases h0 : s1.e = 0
  ·rw [decide_eq_true h0]
   obtain ⟨hn, hP⟩ := g3 h0
   obtain ⟨m, rfl⟩ : ∃ m, n = m + 1 := ⟨n - 1, by omega⟩
   rw [dcGo, isP_tk hT hi (w := wDurable) (ws6 (by decide)), isP_tk hT hi (w := wVolatile) (ws6 (by decide))] at hP
   have hde := fun k => rdecl hT nm s1 hi h0 k g1
   conv => whnf
   refine callV1 1 0 (cA := bxS T (s1)) rfl rfl (Nat.zero_lt_succ _) rfl rfl (hnx).v (fun _ _ h => h.elim) ?_
   rintro c r ⟨rfl, rfl⟩
   conv => whnf
   by_cases q1 : (tk6 T s1).text = wDurable
   ·rw [decide_eq_true (p := (tk6 T s1).text = ⟨_⟩) q1]
    rw [if_pos (decide_eq_true q1)] at hP
    have hkd := text_kind hT hi (w := wDurable) (ws6 (by decide)) q1
    have hde := hde hkd
    conv => whnf
    refine callV1 1 0 (cA := bxS T (s1)) rfl rfl (Nat.zero_lt_succ _) rfl rfl (hnx).v (fun _ _ h => h.elim) ?_
    rintro c r ⟨rfl, rfl⟩
    conv => whnf
    rw [decide_eq_true (p := (tk6 T s1).text = ⟨_⟩) q1]
    conv => whnf
    unfold JoinW
    refine ⟨_, ?_, fun _ h => h⟩
    conv => whnf
    refine ⟨?_, ?_⟩
    ·conv => whnf
     refine callRP1 1 0 3 [] rfl rfl rfl rfl rfl rfl rfl (fun _ => hde) (fun ch bx' hp _ _ => hp.elim) ?_
     rintro o n' cs' r ⟨s2, nm2, out, ho, rfl, rfl, rfl, k1, k2, k3, k4⟩
     cases ho
     conv => whnf
     obtain ⟨z1, z2⟩ := dd_next hT hi hkd g1 k4 hP
     refine ⟨⟨by simp only; unfold maxLen; omega, by simp only; omega⟩, ?_⟩
     conv => whnf
     refine ⟨(m, nm2, du ++ out, vo, s2), le_selH [3, 1, 2] ?_, ⟨k3, k1, by simp only [List.length_append]; omega, fun e => ⟨by simp only; have := (z1 e).1; omega, (z1 e).2⟩, z2⟩, ?_⟩
     ·conv => whnf
      simp only [List.length_append, txA_app]
      repeat' constructor
     ·simp only
      rw [if_pos h0]
      by_cases e2 : s2.e = 0
      ·rw [if_pos e2]; have := (z1 e2).1; omega
      ·rw [if_neg e2]; omega
    ·conv => whnf
     refine callRP1 1 0 3 [] rfl rfl rfl rfl rfl rfl rfl (fun _ => hde) (fun ch bx' hp _ _ => hp.elim) ?_
     rintro o n' cs' r ⟨s2, nm2, out, ho, rfl, rfl, rfl, k1, k2, k3, k4⟩
     cases ho
     conv => whnf
     obtain ⟨z1, z2⟩ := dd_next hT hi hkd g1 k4 hP
     refine ⟨⟨by simp only; unfold maxLen; omega, by simp only; omega⟩, ?_⟩
     conv => whnf
     refine ⟨(m, nm2, du ++ out, vo, s2), le_selH [3, 1, 2] ?_, ⟨k3, k1, by simp only [List.length_append]; omega, fun e => ⟨by simp only; have := (z1 e).1; omega, (z1 e).2⟩, z2⟩, ?_⟩
     ·conv => whnf
      simp only [List.length_append, txA_app]
      repeat' constructor
     ·simp only
      rw [if_pos h0]
      by_cases e2 : s2.e = 0
      ·rw [if_pos e2]; have := (z1 e2).1; omega
      ·rw [if_neg e2]; omega
   ·rw [decide_eq_false (p := (tk6 T s1).text = ⟨_⟩) q1]
    rw [if_neg (by rw [decide_eq_false q1]; simp)] at hP
    conv => whnf
    refine callV1 1 0 (cA := bxS T (s1)) rfl rfl (Nat.zero_lt_succ _) rfl rfl (hnx).v (fun _ _ h => h.elim) ?_
    rintro c r ⟨rfl, rfl⟩
    conv => whnf
    by_cases q2 : (tk6 T s1).text = wVolatile
    ·rw [decide_eq_true (p := (tk6 T s1).text = ⟨_⟩) q2]
     rw [if_pos (decide_eq_true q2)] at hP
     have hkd := text_kind hT hi (w := wVolatile) (ws6 (by decide)) q2
     have hde := hde hkd
     conv => whnf
     refine callV1 1 0 (cA := bxS T (s1)) rfl rfl (Nat.zero_lt_succ _) rfl rfl (hnx).v (fun _ _ h => h.elim) ?_
     rintro c r ⟨rfl, rfl⟩
     conv => whnf
     rw [decide_eq_false (p := (tk6 T s1).text = ⟨_⟩) q1]
     conv => whnf
     unfold JoinW
     refine ⟨_, ?_, fun _ h => h⟩
     conv => whnf
     refine ⟨?_, ?_⟩
     ·conv => whnf
      refine callRP1 1 0 3 [] rfl rfl rfl rfl rfl rfl rfl (fun _ => hde) (fun ch bx' hp _ _ => hp.elim) ?_
      rintro o n' cs' r ⟨s2, nm2, out, ho, rfl, rfl, rfl, k1, k2, k3, k4⟩
      cases ho
      conv => whnf
      obtain ⟨z1, z2⟩ := dd_next hT hi hkd g1 k4 hP
      refine ⟨⟨by simp only; unfold maxLen; omega, by simp only; omega⟩, ?_⟩
      conv => whnf
      refine ⟨(m, nm2, du, vo ++ out, s2), le_selH [3, 1, 2] ?_, ⟨k3, k1, by simp only [List.length_append]; omega, fun e => ⟨by simp only; have := (z1 e).1; omega, (z1 e).2⟩, z2⟩, ?_⟩
      ·conv => whnf
       simp only [List.length_append, txA_app]
       repeat' constructor
      ·simp only
       rw [if_pos h0]
       by_cases e2 : s2.e = 0
       ·rw [if_pos e2]; have := (z1 e2).1; omega
       ·rw [if_neg e2]; omega
     ·conv => whnf
      refine callRP1 1 0 3 [] rfl rfl rfl rfl rfl rfl rfl (fun _ => hde) (fun ch bx' hp _ _ => hp.elim) ?_
      rintro o n' cs' r ⟨s2, nm2, out, ho, rfl, rfl, rfl, k1, k2, k3, k4⟩
      cases ho
      conv => whnf
      obtain ⟨z1, z2⟩ := dd_next hT hi hkd g1 k4 hP
      refine ⟨⟨by simp only; unfold maxLen; omega, by simp only; omega⟩, ?_⟩
      conv => whnf
      refine ⟨(m, nm2, du, vo ++ out, s2), le_selH [3, 1, 2] ?_, ⟨k3, k1, by simp only [List.length_append]; omega, fun e => ⟨by simp only; have := (z1 e).1; omega, (z1 e).2⟩, z2⟩, ?_⟩
      ·conv => whnf
       simp only [List.length_append, txA_app]
       repeat' constructor
      ·simp only
       rw [if_pos h0]
       by_cases e2 : s2.e = 0
       ·rw [if_pos e2]; have := (z1 e2).1; omega
       ·rw [if_neg e2]; omega
    ·rw [decide_eq_false (p := (tk6 T s1).text = ⟨_⟩) q2]
     rw [if_neg (by rw [decide_eq_false q2]; simp)] at hP
     conv => whnf
     clear g3
     refine loop_row 59 5 [] [(2, 2)] ?_
     conv => whnf
     refine ⟨trivial, ?_⟩
     conv => whnf
     refine loop_pub [3] ?_
     conv => whnf
     refine loop_sel [0, 1, 2] ?_
     conv => whnf
     refine loop_keep [2, 8, 9] ?_
     conv => whnf
     refine loop_go (fun x : Nat × List (Int × Nt) × List (Int × Nt) × S6 => []) (fun x => [zero3, bxS T x.2.2.2 ++ [.own 0], [.own 1, .own 2, .sl 5 x.2.2.1.length (hnsA x.2.2.1)]]) (fun x => [.live 9 1 nm.length (txA nm), .live 9 1 du.length (txA du), .live 9 1 vo.length (txA vo)])
      (fun x => x.2.2.2.i < T.length ∧ x.2.2.1.length ≤ 1000000 ∧ (x.2.2.2.e = 0 → (T.drop x.2.2.2.i).length + 1 ≤ x.1 ∧ (x.2.1.map (·.1)).Nodup ∧ x.2.2.1 = sortH x.2.1 ∧ x.2.1.length + (T.drop x.2.2.2.i).length ≤ 1000000 ∧ haGo du vo x.1 x.2.1 (T.drop x.2.2.2.i) = R) ∧ (x.2.2.2.e ≠ 0 → R = .bad x.2.2.2.a x.2.2.2.e)) (fun x => if x.2.2.2.e = 0 then (T.drop x.2.2.2.i).length + 1 else 0) ((T.drop s1.i).length + 1, [], [], s1) ?_ ⟨hi, Nat.zero_le _, fun _ => ⟨Nat.le_refl _, List.nodup_nil, rfl, by simp only [List.length_nil, List.length_drop]; have := hT.n; omega, hP⟩, g4⟩ ?_
     ·repeat' constructor
      show A.sl _ _ _ = A.sl 5 0 (hnsA [])
      rw [hnsA_nil]
     clear g4
     rintro ⟨n, hs, L, s2⟩ ⟨hi, g3, g4, g5⟩
     simp only at hi g3 g4 g5
     conv => whnf
     by_cases h0 : s2.e = 0
     ·rw [decide_eq_true h0]
      obtain ⟨hn, gnd, gL, g6, hP⟩ := g4 h0
      obtain ⟨m, rfl⟩ : ∃ m, n = m + 1 := ⟨n - 1, by omega⟩
      rw [haGo_eq] at hP
      have hrow := rowOf_tks6 T s2.i hi
      have htx0 : hd (T.drop s2.i) = tk6 T s2 := rfl
      rw [htx0] at hP hrow
      conv => whnf
      (refine goA ?_; try with_reducible exact trivial)
      (generalize hrq : rowOf _ _ (tksL T) = rq; obtain rfl : rq = tkL (tk6 T s2) := hrq.symm.trans (hrow); clear hrq; conv => whnf)
      by_cases hk : (tk6 T s2).kind = 0
      ·rw [decide_eq_true hk]
       rw [if_pos hk] at hP
       conv => whnf
       rw [decide_eq_true h0]
       conv => whnf
       subst hP
       rw [gL]
       rfl
      ·rw [decide_eq_false hk]
       rw [if_neg hk, isP_tk hT hi (w := wOn) (ws6 (by decide))] at hP
       have hx := rexpectU hT hi wOn
       by_cases hon : (tk6 T s2).text = wOn
       ·rw [if_neg (by rw [decide_eq_true hon]; simp), ← drop_next hT hi hk] at hP
        have e1 : stX T s2 wOn = stT T s2 := by unfold stX; rw [if_pos h0, if_pos hon]
        rw [e1] at hx
        have hi3 := stT_i hi
        have he3 : (stT T s2).e = 0 := by rw [(stT_e s2).1]; exact h0
        have hl3 : (T.drop (stT T s2).i).length + 1 = (T.drop s2.i).length := by
         have e2 := stT_next hT hi hk
         rw [e2] at hi3
         rw [e2, List.length_drop, List.length_drop]
         simp only at hi3 ⊢
         omega
        clear e1
        generalize stT T s2 = s3 at *
        have hha := rhandler hT L g3 s3 hi3 he3
        rw [heF_perm (show L.Perm hs by rw [gL]; exact sortH_perm hs)] at hha
        conv => whnf
        refine callV1 1 0 (cA := bxS T (s2)) rfl rfl (Nat.zero_lt_succ _) rfl rfl (hx).v (fun _ _ h => h.elim) ?_
        rintro c r ⟨rfl, rfl⟩
        conv => whnf
        rw [decide_eq_true he3]
        conv => whnf
        refine callV1 1 0 (cA := bxS T s3) rfl rfl (Nat.zero_lt_succ _) rfl rfl hha.v (fun _ _ h => h.elim) ?_
        rintro c r ⟨s4, k, rfl, rfl, hk0, hk1, hdh⟩
        conv => whnf
        refine callV1 1 0 (cA := bxS T s4) rfl rfl (Nat.zero_lt_succ _) rfl rfl (rblock1 hT s4 hdh.1).v (fun _ _ h => h.elim) ?_
        rintro c r ⟨s5, b, hq, rfl, rfl⟩
        conv => whnf
        refine call0 [] rfl (fun _ => rput L (k, b) g3) ?_
        rintro r rfl
        conv => whnf
        obtain ⟨z1, z2⟩ := ha_next hT hi3 hdh hq hP
        refine ⟨(m, hs ++ [(k, b)], insH (k, b) L, s5), le_selH [0, 1, 2] ?_, ⟨hq.1, ?_, fun e => ?_, z2⟩, ?_⟩
        ·conv => whnf
         repeat' constructor
        ·simp only
         rw [(insH_perm (k, b) L).length_eq, gL, List.length_cons, (sortH_perm hs).length_eq]
         have : 0 < (T.drop s2.i).length := by rw [List.length_drop]; omega
         omega
        ·obtain ⟨y1, y2, y3⟩ := z1 e
         have hnd : ((hs ++ [(k, b)]).map (·.1)).Nodup := by
          rw [List.map_append, List.nodup_append]
          refine ⟨gnd, by simp, fun a ha c hc e => ?_⟩
          simp at hc
          subst hc
          obtain ⟨q, hq, rfl⟩ := List.mem_map.1 ha
          exact y2 q hq e.symm
         refine ⟨by simp only; omega, hnd, by simp only; rw [gL]; exact sortH_snoc hnd, by simp only [List.length_append, List.length_cons, List.length_nil]; omega, y3⟩
        ·simp only
         rw [if_pos h0]
         by_cases e2 : s5.e = 0
         ·rw [if_pos e2]; have := (z1 e2).1; omega
         ·rw [if_neg e2]; omega
       ·rw [if_pos (decide_eq_false hon)] at hP
        have e1 : stX T s2 wOn = ⟨s2.i, (tk6 T s2).pos, 10⟩ := by unfold stX; rw [if_pos h0, if_neg hon]
        rw [e1] at hx
        conv => whnf
        refine callV1 1 0 (cA := bxS T (s2)) rfl rfl (Nat.zero_lt_succ _) rfl rfl (hx).v (fun _ _ h => h.elim) ?_
        rintro c r ⟨rfl, rfl⟩
        conv => whnf
        subst hP
        rfl
     ·rw [decide_eq_false h0]
      conv => whnf
      rw [decide_eq_false h0]
      conv => whnf
      rw [g5 h0]
      rfl
  ·rw [decide_eq_false h0]
   conv => whnf
   clear g3
   refine loop_row 59 5 [] [(2, 2)] ?_
   conv => whnf
   refine ⟨trivial, ?_⟩
   conv => whnf
   refine loop_pub [3] ?_
   conv => whnf
   refine loop_sel [0, 1, 2] ?_
   conv => whnf
   refine loop_keep [2, 8, 9] ?_
   conv => whnf
   refine loop_go (fun x : Nat × List (Int × Nt) × List (Int × Nt) × S6 => []) (fun x => [zero3, bxS T x.2.2.2 ++ [.own 0], [.own 1, .own 2, .sl 5 x.2.2.1.length (hnsA x.2.2.1)]]) (fun x => [.live 9 1 nm.length (txA nm), .live 9 1 du.length (txA du), .live 9 1 vo.length (txA vo)])
    (fun x => x.2.2.2.i < T.length ∧ x.2.2.1.length ≤ 1000000 ∧ (x.2.2.2.e = 0 → (T.drop x.2.2.2.i).length + 1 ≤ x.1 ∧ (x.2.1.map (·.1)).Nodup ∧ x.2.2.1 = sortH x.2.1 ∧ x.2.1.length + (T.drop x.2.2.2.i).length ≤ 1000000 ∧ haGo du vo x.1 x.2.1 (T.drop x.2.2.2.i) = R) ∧ (x.2.2.2.e ≠ 0 → R = .bad x.2.2.2.a x.2.2.2.e)) (fun x => if x.2.2.2.e = 0 then (T.drop x.2.2.2.i).length + 1 else 0) (0, [], [], s1) ?_ ⟨hi, Nat.zero_le _, fun e => absurd e h0, g4⟩ ?_
   ·repeat' constructor
    show A.sl _ _ _ = A.sl 5 0 (hnsA [])
    rw [hnsA_nil]
   clear g4
   rintro ⟨n, hs, L, s2⟩ ⟨hi, g3, g4, g5⟩
   simp only at hi g3 g4 g5
   conv => whnf
   by_cases h0 : s2.e = 0
   ·rw [decide_eq_true h0]
    obtain ⟨hn, gnd, gL, g6, hP⟩ := g4 h0
    obtain ⟨m, rfl⟩ : ∃ m, n = m + 1 := ⟨n - 1, by omega⟩
    rw [haGo_eq] at hP
    have hrow := rowOf_tks6 T s2.i hi
    have htx0 : hd (T.drop s2.i) = tk6 T s2 := rfl
    rw [htx0] at hP hrow
    conv => whnf
    (refine goA ?_; try with_reducible exact trivial)
    (generalize hrq : rowOf _ _ (tksL T) = rq; obtain rfl : rq = tkL (tk6 T s2) := hrq.symm.trans (hrow); clear hrq; conv => whnf)
    by_cases hk : (tk6 T s2).kind = 0
    ·rw [decide_eq_true hk]
     rw [if_pos hk] at hP
     conv => whnf
     rw [decide_eq_true h0]
     conv => whnf
     subst hP
     rw [gL]
     rfl
    ·rw [decide_eq_false hk]
     rw [if_neg hk, isP_tk hT hi (w := wOn) (ws6 (by decide))] at hP
     have hx := rexpectU hT hi wOn
     by_cases hon : (tk6 T s2).text = wOn
     ·rw [if_neg (by rw [decide_eq_true hon]; simp), ← drop_next hT hi hk] at hP
      have e1 : stX T s2 wOn = stT T s2 := by unfold stX; rw [if_pos h0, if_pos hon]
      rw [e1] at hx
      have hi3 := stT_i hi
      have he3 : (stT T s2).e = 0 := by rw [(stT_e s2).1]; exact h0
      have hl3 : (T.drop (stT T s2).i).length + 1 = (T.drop s2.i).length := by
       have e2 := stT_next hT hi hk
       rw [e2] at hi3
       rw [e2, List.length_drop, List.length_drop]
       simp only at hi3 ⊢
       omega
      clear e1
      generalize stT T s2 = s3 at *
      have hha := rhandler hT L g3 s3 hi3 he3
      rw [heF_perm (show L.Perm hs by rw [gL]; exact sortH_perm hs)] at hha
      conv => whnf
      refine callV1 1 0 (cA := bxS T (s2)) rfl rfl (Nat.zero_lt_succ _) rfl rfl (hx).v (fun _ _ h => h.elim) ?_
      rintro c r ⟨rfl, rfl⟩
      conv => whnf
      rw [decide_eq_true he3]
      conv => whnf
      refine callV1 1 0 (cA := bxS T s3) rfl rfl (Nat.zero_lt_succ _) rfl rfl hha.v (fun _ _ h => h.elim) ?_
      rintro c r ⟨s4, k, rfl, rfl, hk0, hk1, hdh⟩
      conv => whnf
      refine callV1 1 0 (cA := bxS T s4) rfl rfl (Nat.zero_lt_succ _) rfl rfl (rblock1 hT s4 hdh.1).v (fun _ _ h => h.elim) ?_
      rintro c r ⟨s5, b, hq, rfl, rfl⟩
      conv => whnf
      refine call0 [] rfl (fun _ => rput L (k, b) g3) ?_
      rintro r rfl
      conv => whnf
      obtain ⟨z1, z2⟩ := ha_next hT hi3 hdh hq hP
      refine ⟨(m, hs ++ [(k, b)], insH (k, b) L, s5), le_selH [0, 1, 2] ?_, ⟨hq.1, ?_, fun e => ?_, z2⟩, ?_⟩
      ·conv => whnf
       repeat' constructor
      ·simp only
       rw [(insH_perm (k, b) L).length_eq, gL, List.length_cons, (sortH_perm hs).length_eq]
       have : 0 < (T.drop s2.i).length := by rw [List.length_drop]; omega
       omega
      ·obtain ⟨y1, y2, y3⟩ := z1 e
       have hnd : ((hs ++ [(k, b)]).map (·.1)).Nodup := by
        rw [List.map_append, List.nodup_append]
        refine ⟨gnd, by simp, fun a ha c hc e => ?_⟩
        simp at hc
        subst hc
        obtain ⟨q, hq, rfl⟩ := List.mem_map.1 ha
        exact y2 q hq e.symm
       refine ⟨by simp only; omega, hnd, by simp only; rw [gL]; exact sortH_snoc hnd, by simp only [List.length_append, List.length_cons, List.length_nil]; omega, y3⟩
      ·simp only
       rw [if_pos h0]
       by_cases e2 : s5.e = 0
       ·rw [if_pos e2]; have := (z1 e2).1; omega
       ·rw [if_neg e2]; omega
     ·rw [if_pos (decide_eq_false hon)] at hP
      have e1 : stX T s2 wOn = ⟨s2.i, (tk6 T s2).pos, 10⟩ := by unfold stX; rw [if_pos h0, if_neg hon]
      rw [e1] at hx
      conv => whnf
      refine callV1 1 0 (cA := bxS T (s2)) rfl rfl (Nat.zero_lt_succ _) rfl rfl (hx).v (fun _ _ h => h.elim) ?_
      rintro c r ⟨rfl, rfl⟩
      conv => whnf
      subst hP
      rfl
   ·rw [decide_eq_false h0]
    conv => whnf
    rw [decide_eq_false h0]
    conv => whnf
    rw [g5 h0]
    rfl
end Go.Proofs.YtmodkpibkkpcdaaGreatDoor.Vm
namespace Go.Proofs.YtmodkpibkkpcdaaGreatDoor.Vm
open Go.RowKit Go.Shelf
set_option linter.unusedSimpArgs false
set_option linter.unusedVariables false
set_option maxRecDepth 100000
mutual
def eqN : Nt → Nt → Bool
 | .mk k n s l, .mk k' n' s' l' => decide (k = k') && (decide (n = n') && (decide (s = s') && eqNs l l'))
def eqNs : List Nt → List Nt → Bool
 | [], [] => true
 | f :: l, g :: m => eqN f g && eqNs l m
 | _, _ => false
end
mutual
theorem eqN_iff : ∀ f g : Nt, eqN f g = true ↔ f = g
 | .mk k n s l, .mk k' n' s' l' => by
  unfold eqN
  simp only [Bool.and_eq_true, decide_eq_true_eq, eqNs_iff l l', Nt.mk.injEq]
theorem eqNs_iff : ∀ l m : List Nt, eqNs l m = true ↔ l = m
 | [], [] => by simp [eqNs]
 | [], _ :: _ => by simp [eqNs]
 | _ :: _, [] => by simp [eqNs]
 | f :: l, g :: m => by
  unfold eqNs
  simp only [Bool.and_eq_true, eqN_iff f g, eqNs_iff l m, List.cons.injEq]
end
theorem eqNs_len : ∀ {l m : List Nt}, l.length ≠ m.length → eqNs l m = false := fun {l m} h => by
 cases he : eqNs l m with
 | false => rfl
 | true => exact absurd (congrArg List.length ((eqNs_iff l m).1 he)) h
theorem eqNs_drop (l m : List Nt) (k : Nat) (hl : k < l.length) (hm : k < m.length) : eqNs (l.drop k) (m.drop k) = (eqN l[k] m[k] && eqNs (l.drop (k + 1)) (m.drop (k + 1))) := by
 rw [List.drop_eq_getElem_cons hl, List.drop_eq_getElem_cons hm]
 conv => lhs; unfold eqNs
def eqHs : List (Int × Nt) → List (Int × Nt) → Bool
 | [], [] => true
 | f :: l, g :: m => (decide (f.1 = g.1) && eqN f.2 g.2) && eqHs l m
 | _, _ => false
theorem eqHs_iff : ∀ l m : List (Int × Nt), eqHs l m = true ↔ l = m
 | [], [] => by simp [eqHs]
 | [], _ :: _ => by simp [eqHs]
 | _ :: _, [] => by simp [eqHs]
 | f :: l, g :: m => by
  unfold eqHs
  simp only [Bool.and_eq_true, decide_eq_true_eq, eqN_iff, eqHs_iff l m, List.cons.injEq, Prod.ext_iff]
theorem eqHs_len : ∀ {l m : List (Int × Nt)}, l.length ≠ m.length → eqHs l m = false := fun {l m} h => by
 cases he : eqHs l m with
 | false => rfl
 | true => exact absurd (congrArg List.length ((eqHs_iff l m).1 he)) h
theorem eqHs_drop (l m : List (Int × Nt)) (k : Nat) (hl : k < l.length) (hm : k < m.length) : eqHs (l.drop k) (m.drop k) = ((decide (l[k].1 = m[k].1) && eqN l[k].2 m[k].2) && eqHs (l.drop (k + 1)) (m.drop (k + 1))) := by
 rw [List.drop_eq_getElem_cons hl, List.drop_eq_getElem_cons hm]
 conv => lhs; unfold eqHs
def eqU (u v : Ut) : Bool := decide (u.du = v.du) && (decide (u.vo = v.vo) && eqHs u.on v.on)
theorem eqU_iff (u v : Ut) : eqU u v = true ↔ u = v := by
 unfold eqU
 cases u; cases v
 simp only [Bool.and_eq_true, decide_eq_true_eq, eqHs_iff, Ut.mk.injEq]
theorem okSl6 {k n : Nat} {cs : List A} (h : okA (.sl k n cs)) : n ≤ maxLen := by unfold okA at h; exact h.2.1
theorem ok_nt {f : Nt} (h : okA (.agg (ntA f))) : f.kids.length ≤ maxLen := by
 unfold okA at h
 exact okSl6 (okL_mem h (show A.sl 4 f.kids.length (ntsA f.kids) ∈ ntA f by simp [ntA]))
def REqN (f g : Nt) : Prop := Spec Tryz.prog 25 [] [.agg (ntA f), .agg (ntA g)] fun _ r => r = boolA (eqN f g)
theorem requal_raw (k n k' n' : Int) (s s' : ByteArray) (l l' : List Nt) (ih : ∀ f ∈ l, ∀ g ∈ l', REqN f g) : REqN (.mk k n s l) (.mk k' n' s' l') := by
 unfold REqN eqN
 refine spec_of (cx_ok ord25 xs0 0) (fun _ _ h => h) Tryz.func25 rfl (by kernel_rfl) rfl (by kernel_rfl) ?_
 intro hok
 have hl := ok_nt (okL_mem hok (List.mem_cons_self ..))
 simp only [Nt.kids] at hl
 unfold maxLen at hl
 simp only [ntA, Nt.k, Nt.n, Nt.s, Nt.kids]
 conv => whnf
 by_cases h1 : k = k'
 ·rw [decide_eq_true h1]
  conv => whnf
  by_cases h2 : n = n'
  ·rw [decide_eq_true h2]
   conv => whnf
   by_cases h3 : s = s'
   ·rw [decide_eq_true h3]
    conv => whnf
    by_cases hlen : (l.length : Int) = l'.length
    ·rw [decide_eq_true hlen]
     conv => whnf
     refine loop_keep [2, 3] ?_
     conv => whnf
     refine loop_go (fun j : Nat => [(5, .v (.int .i64 j))]) (fun _ => [[intA k, intA n, strA s, .sl 4 l.length (ntsA l)], [intA k', intA n', strA s', .sl 4 l'.length (ntsA l')]]) (fun _ => []) (fun j => j ≤ l.length ∧ eqNs (l.drop j) (l'.drop j) = eqNs l l') (fun j => l.length - j) 0 ?_ ⟨Nat.zero_le _, rfl⟩ ?_
     ·repeat' constructor
     ·rintro j ⟨hj, hinv⟩
      unfold REqN at ih
      conv => whnf
      by_cases hlt : j < l.length
      ·have hm : j < l'.length := by omega
       have hr1 := rowOf_nts l j hlt
       have hr2 := rowOf_nts l' j hm
       have hsp := ih l[j] (List.getElem_mem hlt) l'[j] (List.getElem_mem hm)
       rw [eqNs_drop l l' j hlt hm] at hinv
       generalize l[j] = f at *
       generalize l'[j] = g at *
       (refine goA ?_; try with_reducible exact trivial)
       (generalize hrq : rowOf _ _ (ntsA l) = rq; obtain rfl : rq = ntA f := hrq.symm.trans (hr1); clear hrq; conv => whnf)
       (refine goA ?_; try with_reducible exact trivial)
       (generalize hrq : rowOf _ _ (ntsA l') = rq; obtain rfl : rq = ntA g := hrq.symm.trans (hr2); clear hrq; conv => whnf)
       (refine call0 [] rfl (fun _ => hsp) ?_; rintro r rfl; conv => whnf)
       cases hq : eqN f g with
       | true =>
        rw [hq, Bool.true_and] at hinv
        (refine goA ?_; try with_reducible exact trivial)
        refine ⟨i64r (by omega), ?_⟩
        conv => whnf
        refine ⟨j + 1, le_head ?_, ⟨hlt, hinv⟩, by omega⟩
        repeat' constructor
       | false =>
        rw [hq, Bool.false_and] at hinv
        (refine goA ?_; try with_reducible exact trivial)
        rw [← hinv]
        rfl
      ·(refine goA ?_; try with_reducible exact trivial)
       have e1 : l.drop j = [] := List.drop_of_length_le (by omega)
       have e2 : l'.drop j = [] := List.drop_of_length_le (by omega)
       rw [e1, e2] at hinv
       rw [← hinv]
       rfl
    ·rw [decide_eq_false hlen]
     conv => whnf
     rw [eqNs_len (by omega)]
     rfl
   ·rw [decide_eq_false h3]
    conv => whnf
    rfl
  ·rw [decide_eq_false h2]
   conv => whnf
   rfl
 ·rw [decide_eq_false h1]
  conv => whnf
  rfl
theorem requal : ∀ f g : Nt, REqN f g
 | .mk k n s l, .mk k' n' s' l' => by
  have hkids : ∀ f ∈ l, ∀ g ∈ l', REqN f g := fun f hf g hg => requal f g
  exact requal_raw k n k' n' s s' l l' hkids
termination_by f => SizeOf.sizeOf f
decreasing_by
 have := List.sizeOf_lt_of_mem hf
 simp only [Nt.mk.sizeOf_spec]
 omega
theorem rtexts (l m : List ByteArray) (hl : l.length ≤ maxLen) : Spec Tryz.prog 44 [] [.sl 1 l.length (txA l), .sl 1 m.length (txA m)] fun _ r => r = boolA (decide (l = m)) := by
 unfold maxLen at hl
 refine spec_of (cx_ok ord44 xs0 0) (fun _ _ h => h) Tryz.func44 rfl (by kernel_rfl) rfl (by kernel_rfl) ?_
 intro hok
 conv => whnf
 by_cases hlen : (l.length : Int) = m.length
 ·rw [decide_eq_true hlen]
  conv => whnf
  refine loop_keep [0, 1] ?_
  conv => whnf
  refine loop_go (fun k : Nat => [(5, .v (.int .i64 k))]) (fun _ => []) (fun _ => []) (fun k => k ≤ l.length ∧ l.take k = m.take k) (fun k => l.length - k) 0 ?_ ⟨Nat.zero_le _, rfl⟩ ?_
  ·repeat' constructor
  ·rintro k ⟨hk, hinv⟩
   conv => whnf
   by_cases hlt : k < l.length
   ·have hm : k < m.length := by omega
    have hr1 : rowOf 1 k (txA l) = [strA l[k]] := rowOf_map strA l k hlt
    have hr2 : rowOf 1 k (txA m) = [strA m[k]] := rowOf_map strA m k hm
    have e1 : l.take (k + 1) = l.take k ++ [l[k]] := by rw [List.take_add_one, List.getElem?_eq_getElem hlt]; rfl
    have e2 : m.take (k + 1) = m.take k ++ [m[k]] := by rw [List.take_add_one, List.getElem?_eq_getElem hm]; rfl
    have hne : l[k] ≠ m[k] → l ≠ m := fun h e => h (by subst e; rfl)
    generalize l[k] = x at *
    generalize m[k] = y at *
    (refine goA ?_; try with_reducible exact trivial)
    (generalize hrq : rowOf _ _ (txA l) = rq; obtain rfl : rq = [strA x] := hrq.symm.trans (hr1); clear hrq; conv => whnf)
    (refine goA ?_; try with_reducible exact trivial)
    (generalize hrq : rowOf _ _ (txA m) = rq; obtain rfl : rq = [strA y] := hrq.symm.trans (hr2); clear hrq; conv => whnf)
    by_cases hxy : x = y
    ·rw [decide_eq_true hxy]
     conv => whnf
     (refine goA ?_; try with_reducible exact trivial)
     refine ⟨k + 1, le_head ?_, ⟨hlt, by rw [e1, e2, hinv, hxy]⟩, by omega⟩
     repeat' constructor
    ·rw [decide_eq_false hxy]
     conv => whnf
     rw [decide_eq_false (hne hxy)]
     rfl
   ·obtain rfl : k = l.length := by omega
    have : l = m := by
     rw [List.take_length, List.take_of_length_le (by omega)] at hinv
     exact hinv
    (refine goA ?_; try with_reducible exact trivial)
    rw [decide_eq_true this]
    rfl
 ·rw [decide_eq_false hlen]
  conv => whnf
  rw [decide_eq_false (fun e => hlen (by rw [e]))]
  rfl
theorem ok_ut {u : Ut} (h : okA (.agg (utA u))) : u.du.length ≤ maxLen ∧ u.vo.length ≤ maxLen ∧ u.on.length ≤ maxLen := by
 unfold okA at h
 exact ⟨okSl6 (okL_mem h (show A.sl 1 u.du.length (txA u.du) ∈ utA u by simp [utA])), okSl6 (okL_mem h (show A.sl 1 u.vo.length (txA u.vo) ∈ utA u by simp [utA])), okSl6 (okL_mem h (show A.sl 5 u.on.length (hnsA u.on) ∈ utA u by simp [utA]))⟩
def ordSm (id : Nat) : Tr := match Nat.beq id 6 with | true => .q 0 3 (.q 1 0 (.q 2 3 (.q 3 3 (.q 4 3 (.q 5 0 (.q 6 3 (.q 7 0 (.q 8 3 (.q 9 3 (.q 10 3 (.q 11 0 (.q 12 3 (.q 13 3 (.q 14 3 (.q 15 0 (.q 16 3 (.q 17 3 (.q 18 3 (.q 19 0 (.q 20 3 (.q 21 0 (.q 22 3 (.q 23 3 (.q 24 3 (.q 25 0 (.alt 26 1 (.q 27 3 (.q 28 3 (.nil))) (.nil))))))))))))))))))))))))))) | false => .nil
theorem rsame (u v : Ut) : Spec Tryz.prog 27 [] [.agg (utA u), .agg (utA v)] fun _ r => r = boolA (eqU u v) := by
 unfold eqU
 obtain ⟨du, vo, on⟩ := u
 obtain ⟨dv, wo, om⟩ := v
 simp only
 refine spec_of (cx_ok ordSm xs0 0) (fun _ _ h => h) Tryz.func27 rfl (by kernel_rfl) rfl (by kernel_rfl) ?_
 intro hok
 obtain ⟨hd1, hd2, hd3⟩ := ok_ut (okL_mem hok (List.mem_cons_self ..))
 simp only at hd1 hd2 hd3
 have t1 := rtexts du dv hd1
 have t2 := rtexts vo wo hd2
 unfold maxLen at hd3
 simp only [utA]
 conv => whnf
 (refine call0 [] rfl (fun _ => t1) ?_; rintro r rfl; conv => whnf)
 by_cases h1 : du = dv
 ·rw [decide_eq_true h1]
  conv => whnf
  (refine call0 [] rfl (fun _ => t2) ?_; rintro r rfl; conv => whnf)
  by_cases h2 : vo = wo
  ·rw [decide_eq_true h2]
   conv => whnf
   by_cases hlen : (on.length : Int) = om.length
   ·rw [decide_eq_true hlen]
    conv => whnf
    refine loop_keep [2, 3] ?_
    conv => whnf
    refine loop_go (fun j : Nat => [(5, .v (.int .i64 j))]) (fun _ => [utA ⟨du, vo, on⟩, utA ⟨dv, wo, om⟩]) (fun _ => []) (fun j => j ≤ on.length ∧ eqHs (on.drop j) (om.drop j) = eqHs on om) (fun j => on.length - j) 0 ?_ ⟨Nat.zero_le _, rfl⟩ ?_
    ·repeat' constructor
    ·rintro j ⟨hj, hinv⟩
     conv => whnf
     by_cases hlt : j < on.length
     ·have hm : j < om.length := by omega
      have hr1 := rowOf_hns on j hlt
      have hr2 := rowOf_hns om j hm
      rw [eqHs_drop on om j hlt hm] at hinv
      generalize on[j] = f at *
      generalize om[j] = g at *
      have hsp := requal f.2 g.2
      unfold REqN at hsp
      (refine goA ?_; try with_reducible exact trivial)
      (generalize hrq : rowOf _ _ (hnsA on) = rq; obtain rfl : rq = hnA f := hrq.symm.trans (hr1); clear hrq; conv => whnf)
      (refine goA ?_; try with_reducible exact trivial)
      (generalize hrq : rowOf _ _ (hnsA om) = rq; obtain rfl : rq = hnA g := hrq.symm.trans (hr2); clear hrq; conv => whnf)
      by_cases h4 : f.1 = g.1
      ·rw [decide_eq_true h4]
       rw [decide_eq_true h4, Bool.true_and] at hinv
       refine ⟨by simp only; omega, ?_⟩
       conv => whnf
       (generalize hrq : rowOf _ _ (hnsA on) = rq; obtain rfl : rq = hnA f := hrq.symm.trans (hr1); clear hrq; conv => whnf)
       refine ⟨by simp only; omega, ?_⟩
       conv => whnf
       (generalize hrq : rowOf _ _ (hnsA om) = rq; obtain rfl : rq = hnA g := hrq.symm.trans (hr2); clear hrq; conv => whnf)
       (refine call0 [] rfl (fun _ => hsp) ?_; rintro r rfl; conv => whnf)
       cases hq : eqN f.2 g.2 with
       | true =>
        rw [hq, Bool.true_and] at hinv
        (refine goA ?_; try with_reducible exact trivial)
        refine ⟨i64r (by omega), ?_⟩
        conv => whnf
        refine ⟨j + 1, le_head ?_, ⟨hlt, hinv⟩, by omega⟩
        repeat' constructor
       | false =>
        rw [hq, Bool.false_and] at hinv
        (refine goA ?_; try with_reducible exact trivial)
        rw [← hinv]
        rfl
      ·rw [decide_eq_false h4]
       rw [decide_eq_false h4, Bool.false_and, Bool.false_and] at hinv
       conv => whnf
       rw [← hinv]
       rfl
     ·(refine goA ?_; try with_reducible exact trivial)
      have e1 : on.drop j = [] := List.drop_of_length_le (by omega)
      have e2 : om.drop j = [] := List.drop_of_length_le (by omega)
      rw [e1, e2] at hinv
      rw [← hinv]
      rfl
   ·rw [decide_eq_false hlen]
    conv => whnf
    rw [eqHs_len (by omega)]
    rfl
  ·rw [decide_eq_false h2]
   conv => whnf
   rfl
 ·rw [decide_eq_false h1]
  conv => whnf
  rfl
end Go.Proofs.YtmodkpibkkpcdaaGreatDoor.Vm
namespace Go.Proofs.YtmodkpibkkpcdaaGreatDoor.Vm
open Go.RowKit Go.Shelf
set_option linter.unusedSimpArgs false
set_option linter.unusedVariables false
set_option maxRecDepth 100000
end Go.Proofs.YtmodkpibkkpcdaaGreatDoor.Vm
namespace Go.Proofs.YtmodkpibkkpcdaaGreatDoor.Vm
open Go.RowKit Go.Shelf
set_option linter.unusedSimpArgs false
set_option linter.unusedVariables false
set_option maxRecDepth 100000
theorem zero3_wk : Wk (A.agg zero3) (.agg (utA ⟨[], [], []⟩)) := by
 refine .agg (.cons (.nil 1) (.cons (.nil 1) (.cons ?_ .nil)))
 show Wk _ (A.sl 5 0 (hnsA []))
 rw [hnsA_nil]
 exact .nil 5
theorem same_spec (s : ByteArray) (hs : s.size ≤ 1000000000) : Spec Tryz.prog 14 [] [strA s] fun _ r => r = boolA true := by
 have h1 := pparse_raw s hs
 have h2 := rparse_raw s hs
 cases hp : uparF s with
 | ok u =>
  rw [hp] at h1 h2
  unfold parU0 at h1 h2
  simp only at h1 h2
  have hq := rsame u u
  rw [(eqU_iff _ _).2 rfl] at hq
  refine spec_of (cx_ok ord0 xs0 0) (fun _ _ h => h) Tryz.func14 rfl (by kernel_rfl) rfl (by kernel_rfl) ?_
  intro _
  conv => whnf
  (refine call0 [] rfl (fun _ => h1) ?_; rintro r rfl; conv => whnf)
  (refine call0 [] rfl (fun _ => h2) ?_; rintro r rfl; conv => whnf)
  (refine call0 [] rfl (fun _ => hq) ?_; rintro r rfl; conv => whnf)
  rfl
 | bad x e =>
  rw [hp] at h1 h2
  unfold parU0 at h1 h2
  simp only at h1 h2
  have hq := rsame ⟨[], [], []⟩ ⟨[], [], []⟩
  rw [(eqU_iff _ _).2 rfl] at hq
  have hq2 : Spec Tryz.prog 27 [] [.agg zero3, .agg zero3] fun _ r => r = boolA true := hq.wargs (.cons zero3_wk (.cons zero3_wk .nil)) .nil
  refine spec_of (cx_ok ord0 xs0 0) (fun _ _ h => h) Tryz.func14 rfl (by kernel_rfl) rfl (by kernel_rfl) ?_
  intro _
  conv => whnf
  (refine call0 [] rfl (fun _ => h1) ?_; rintro r rfl; conv => whnf)
  (refine call0 [] rfl (fun _ => h2) ?_; rintro r rfl; conv => whnf)
  rw [decide_eq_true (rfl : e = e)]
  conv => whnf
  rw [decide_eq_true (rfl : x = x)]
  conv => whnf
  (refine call0 [] rfl (fun _ => hq2) ?_; rintro r rfl; conv => whnf)
  rfl
def exA : ByteArray := ⟨#[111, 110, 32, 115, 116, 97, 114, 116, 123, 120, 61, 49, 59, 125]⟩
def exB : ByteArray := ⟨#[100, 117, 114, 97, 98, 108, 101, 32, 120, 44, 120, 59]⟩
def exC : ByteArray := ⟨#[111, 110, 32, 116, 105, 109, 101, 114, 32, 56, 123, 125]⟩
theorem exA_ok : ∃ u, uparF exA = .ok u ∧ u.on.length = 1 := by
 have h : (match uparF exA with | .ok u => Nat.beq u.on.length 1 | _ => false) = true := by kernel_rfl
 cases hp : uparF exA with
 | ok u => rw [hp] at h; exact ⟨u, rfl, Nat.eq_of_beq_eq_true h⟩
 | bad x e => rw [hp] at h; cases h
theorem bad_of {p : PU} {a b : Int} (h : (match p with | .bad x e => decide (x = a) && decide (e = b) | _ => false) = true) : p = .bad a b := by
 cases p with
 | ok u => cases h
 | bad x e =>
  simp only [Bool.and_eq_true, decide_eq_true_eq] at h
  rw [h.1, h.2]
theorem exB_bad : uparF exB = .bad 10 4 := bad_of (by kernel_rfl)
theorem exC_bad : uparF exC = .bad 9 6 := bad_of (by kernel_rfl)
theorem plives_spec : Spec Tryz.prog 18 [] [] fun _ r => r = boolA true := by
 obtain ⟨u, hu, hl⟩ := exA_ok
 have h1 := pparse_raw exA (by decide)
 have h2 := pparse_raw exB (by decide)
 have h3 := pparse_raw exC (by decide)
 rw [hu] at h1
 rw [exB_bad] at h2
 rw [exC_bad] at h3
 unfold parU0 at h1 h2 h3
 simp only at h1 h2 h3
 refine spec_of (cx_ok ord0 xs0 0) (fun _ _ h => h) Tryz.func18 rfl (by kernel_rfl) rfl (by kernel_rfl) ?_
 intro _
 conv => whnf
 (refine call0 [] rfl (fun _ => h1) ?_; rintro r rfl; conv => whnf)
 conv => whnf
 (refine call0 [] rfl (fun _ => h2) ?_; rintro r rfl; conv => whnf)
 conv => whnf
 (refine call0 [] rfl (fun _ => h3) ?_; rintro r rfl; conv => whnf)
 conv => whnf
 rw [decide_eq_true (show (u.on.length : Int) = 1 by omega)]
 conv => whnf
 rfl
end Go.Proofs.YtmodkpibkkpcdaaGreatDoor.Vm
namespace Go.Proofs.YtmodkpibkkpcdaaGreatDoor.Vm
open Go.RowKit Go.Shelf
set_option linter.unusedSimpArgs false
set_option linter.unusedVariables false
set_option maxRecDepth 100000
end Go.Proofs.YtmodkpibkkpcdaaGreatDoor.Vm
namespace Go.Proofs.YtmodkpibkkpcdaaGreatDoor.Vm
open Go.RowKit
set_option linter.unusedSimpArgs false
set_option linter.unusedVariables false
set_option maxRecDepth 100000
def absI (n : Int) : Int := if n < 0 then -(n + 1) else n
def aroundF (n m : Int) : Int := (absI n).tmod m
theorem absI_rng {n : Int} (hn : -9223372036854775808 ≤ n ∧ n ≤ 9223372036854775807) : 0 ≤ absI n ∧ absI n ≤ 9223372036854775807 := by unfold absI; split <;> omega
theorem aroundF_rng {n m : Int} (hn : -9223372036854775808 ≤ n ∧ n ≤ 9223372036854775807) (hm : 1 ≤ m) : 0 ≤ aroundF n m ∧ aroundF n m < m := by
 have h := absI_rng hn
 unfold aroundF
 rw [Int.tmod_eq_emod_of_nonneg h.1]
 exact ⟨Int.emod_nonneg _ (by omega), Int.emod_lt_of_pos _ (by omega)⟩
theorem around_spec (n m : Int) (hm : 1 ≤ m ∧ m ≤ 9223372036854775807) : Spec Tryz.prog 20 [] [intA n, intA m] fun _ r => (-9223372036854775808 ≤ n ∧ n ≤ 9223372036854775807) ∧ r = intA (aroundF n m) := by
 refine spec_of (cx_ok ord0 xs0 0) (fun _ _ h => h) Tryz.func20 rfl (by kernel_rfl) rfl (by kernel_rfl) ?_
 intro hok
 have hn : -9223372036854775808 ≤ n ∧ n ≤ 9223372036854775807 := okA_int.1 hok.1
 have hab := absI_rng hn
 conv => whnf
 by_cases h : n < 0
 ·refine br_true (b := decide (n < 0)) (decide_eq_true h) ?_
  conv => whnf
  refine ⟨i64r (by omega), ?_⟩
  conv => whnf
  refine ⟨i64r (by omega), ?_⟩
  conv => whnf
  refine ⟨by omega, ?_⟩
  conv => whnf
  refine ⟨hn, ?_⟩
  have : 0 - (n + 1) = absI n := by unfold absI; rw [if_pos h]; omega
  rw [this]; rfl
 ·refine br_false (b := decide (n < 0)) (decide_eq_false h) ?_
  conv => whnf
  refine ⟨by omega, ?_⟩
  conv => whnf
  refine ⟨hn, ?_⟩
  have : n = absI n := by unfold absI; rw [if_neg h]
  show A.v (.int .i64 (n.tmod m)) = intA ((absI n).tmod m)
  rw [← this]; rfl
end Go.Proofs.YtmodkpibkkpcdaaGreatDoor.Vm
namespace Go.Proofs.YtmodkpibkkpcdaaGreatDoor.Vm
open Go.RowKit Go.Shelf
set_option linter.unusedSimpArgs false
set_option linter.unusedVariables false
set_option maxRecDepth 100000
def pkF (l : List Int) (i : Nat) : Int := if i < l.length then aroundF (l.getD i 0) 1000000 else 0
theorem rPick (l : List Int) (i : Nat) : Spec Tryz.prog 45 [] [.sl 1 l.length (intsA l), intA i, intA 1000000] fun _ r => (0 ≤ pkF l i ∧ pkF l i < 1000000) ∧ r = intA (pkF l i) := by
 unfold pkF
 refine spec_of (cx_ok ord0 xs0 0) (fun _ _ h => h) Tryz.func45 rfl (by kernel_rfl) rfl (by kernel_rfl) ?_
 intro hok
 conv => whnf
 rw [decide_eq_false (show ¬ (i : Int) < 0 by omega)]
 conv => whnf
 by_cases hi : i < l.length
 ·have hr := rowOf_ints l i hi
  have e : l.getD i 0 = l[i] := by rw [List.getD_eq_getElem?_getD, List.getElem?_eq_getElem hi]; rfl
  rw [← e] at hr
  rw [if_pos hi, decide_eq_false (show ¬ (l.length : Int) ≤ i by omega)]
  generalize l.getD i 0 = x at *
  have ha := around_spec x 1000000 (by omega)
  conv => whnf
  (refine goA ?_; try with_reducible exact trivial)
  (generalize hrq : rowOf _ _ (intsA l) = rq; obtain rfl : rq = [intA x] := hrq.symm.trans (hr); clear hrq; conv => whnf)
  refine call0 [] rfl (fun _ => ha) ?_
  rintro r ⟨hx, rfl⟩
  conv => whnf
  exact ⟨aroundF_rng hx (by omega), rfl⟩
 ·rw [if_neg hi, decide_eq_true (show (l.length : Int) ≤ i by omega)]
  conv => whnf
  exact ⟨by omega, rfl⟩
def bxG (l : List Int) (i : Nat) : List A := [.sl 1 l.length (intsA l), .v (.int .i64 i)]
def pk (l : List Int) (i m : Nat) : Nat := (pkF l i).toNat % m
theorem pk_lt (l : List Int) (i : Nat) {m : Nat} (h : 0 < m) : pk l i m < m := Nat.mod_lt _ h
theorem gpick (l : List Int) (i m : Nat) (hi : i ≤ 1000000000) (hm : 1 ≤ m ∧ m ≤ 1000) : Spec Tryz.prog 36 [bxG l i] [.box 0 0, .v (.int .i64 m)] fun o r => o = [bxG l (i + 1)] ∧ r = .v (.int .i64 (pk l i m)) := by
 unfold pk
 refine spec_of (cx_ok ord36 xs0 1) (fun _ _ h => h) Tryz.func36 rfl (by kernel_rfl) rfl (by kernel_rfl) ?_
 intro hok
 conv => whnf
 refine call0 [] rfl (fun _ => rPick l i) ?_
 rintro r ⟨hr, rfl⟩
 obtain ⟨k, hk⟩ : ∃ k : Nat, pkF l i = (k : Int) := ⟨(pkF l i).toNat, by omega⟩
 rw [hk] at hr ⊢
 conv => whnf
 (refine goA ?_; try with_reducible exact trivial)
 have e : ((k : Int)).tmod (m : Int) = ((k % m : Nat) : Int) := by rw [Int.tmod_eq_emod_of_nonneg (by omega)]; omega
 exact ⟨rfl, by rw [e]; rfl⟩
theorem drop_cell {α : Type} (f : α → A) (l : List α) (i : Nat) (h : i < l.length) : (l.map f).drop (i * 1) = f l[i] :: (l.map f).drop (i + 1) := by
 rw [Nat.mul_one, List.drop_eq_getElem_cons (by simpa using h), List.getElem_map]
def varL : List ByteArray := [⟨#[100]⟩, ⟨#[100, 100, 49]⟩, ⟨#[118]⟩, ⟨#[119, 50]⟩]
theorem gvar (l : List Int) (i : Nat) (hi : i ≤ 1000000000) : ∃ s ∈ varL, Spec Tryz.prog 91 [bxG l i] [.box 0 0] fun o r => o = [bxG l (i + 1)] ∧ r = strA s := by
 have hp := gpick l i 4 hi (by decide)
 have hlt := pk_lt l i (m := 4) (by decide)
 generalize pk l i 4 = k at *
 refine ⟨varL[k]'hlt, List.getElem_mem _, ?_⟩
 have hr := drop_cell strA varL k hlt
 generalize varL[k]'hlt = s at *
 refine spec_of (cx_ok ord0 xs0 1) (fun _ _ h => h) Tryz.func91 rfl (by kernel_rfl) rfl (by kernel_rfl) ?_
 intro hok
 conv => whnf
 refine call1 0 [] rfl rfl rfl rfl (fun _ => hp) ?_
 rintro o r ⟨ho, rfl⟩
 cases ho
 conv => whnf
 refine ⟨⟨by omega, by omega⟩, ?_⟩
 conv => whnf
 generalize hrq : List.drop (Int.toNat (k : Int) * _) _ = rq
 obtain rfl : rq = _ :: _ := hrq.symm.trans hr
 clear hrq
 conv => whnf
 exact ⟨rfl, rfl⟩
def litL : List Int := [0, 1, 2, 3, 7, 100, 2147483647, 30]
def opL : List ByteArray := [pPlus, pMinus, pStar, pSlash]
inductive EI : Nat → Nt → Prop
 | lit (d : Nat) (n : Int) (h : n ∈ litL) : EI d (.mk 12 n eB [])
 | var (d : Nat) (s : ByteArray) (h : s ∈ varL) : EI d (.mk 14 0 s [])
 | nam (d : Nat) (s : ByteArray) (h : s ∈ builtL) : EI d (.mk 15 0 s [])
 | drw (d : Nat) (f : Nt) (h : EI d f) : EI (d + 1) (.mk 16 0 eB [f])
 | neg (d : Nat) (f : Nt) (h : EI d f) : EI (d + 1) (.mk 17 0 pMinus [f])
 | bin (d : Nat) (s : ByteArray) (f g : Nt) (hs : s ∈ opL) (h1 : EI d f) (h2 : EI d g) : EI (d + 1) (.mk 18 0 s [f, g])
def bI : Nat → Nat
 | 0 => 2
 | d + 1 => 2 + 2 * bI d
theorem bI_ge : ∀ d, 2 ≤ bI d
 | 0 => Nat.le_refl _
 | d + 1 => by unfold bI; omega
def GenI (l : List Int) (d : Nat) : Prop := ∀ (i : Nat) (z : Int), z.toNat = d → -5 ≤ z → z ≤ 10 → i + bI d ≤ 1000000000 → ∃ f i', EI d f ∧ i ≤ i' ∧ i' ≤ i + bI d ∧ Spec Tryz.prog 92 [bxG l i] [.box 0 0, .v (.int .i64 z)] fun o r => o = [bxG l i'] ∧ r = .agg (ntA f)
theorem gw {P : Program} {f : Nat} {cs args : List A} {X : List (List A)} {t : Nt} (h : Spec P f [cs] args fun o r => o = X ∧ ∃ l, r = .agg l ∧ WkL l (ntA t)) : Spec P f [cs] args fun o r => o = X ∧ r = .agg (ntA t) :=
 Spec.weaken h fun o r ⟨h1, l, h2, h3⟩ => ⟨o, .agg (ntA t), ⟨h1, rfl⟩, .refl _, by rw [h2]; exact .agg h3⟩
set_option maxHeartbeats 1000000 in
theorem gint (l : List Int) (d : Nat) (ih : ∀ e, d = e + 1 → GenI l e) : GenI l d := fun i z hz h1 h2 hi => by
 have hge := bI_ge d
 have hp := gpick l i 12 (by omega) (by decide)
 have hlt := pk_lt l i (m := 12) (by decide)
 generalize pk l i 12 = n0 at *
 obtain ⟨n, hn⟩ : ∃ n, (if z ≤ 0 then n0 % 6 else n0) = n := ⟨_, rfl⟩
 have hn12 : n < 12 := by split at hn <;> omega
 have hn6 : z ≤ 0 → n < 6 := fun h => by rw [if_pos h] at hn; omega
 by_cases hA : n ≤ 1
 ·have hp2 := gpick l (i + 1) 8 (by omega) (by decide)
  have hlt2 := pk_lt l (i + 1) (m := 8) (by decide)
  generalize pk l (i + 1) 8 = k8 at *
  refine ⟨.mk 12 (litL[k8]'hlt2) eB [], i + 2, .lit _ _ (List.getElem_mem _), by omega, by omega, ?_⟩
  have hr := drop_cell intA litL k8 hlt2
  generalize litL[k8]'hlt2 = x at *
  rcases (by omega : n = 0 ∨ n = 1) with rfl | rfl
  ·refine gw ?_
   refine spec_of (cx_ok ord92 (fun _ => [0]) 1) (fun _ _ h => h) Tryz.func92 rfl (by kernel_rfl) rfl (by kernel_rfl) ?_
   intro hok
   conv => whnf
   refine call1 0 [] rfl rfl rfl rfl (fun _ => hp) ?_
   rintro o r ⟨ho, rfl⟩
   cases ho
   conv => whnf
   by_cases hz0 : z ≤ 0
   all_goals
    first
    | (rw [if_pos hz0] at hn; rw [decide_eq_true hz0]; (conv => whnf); refine ⟨by decide, ?_⟩; rw [show ((n0 : Int)).tmod 6 = 0 by rw [Int.tmod_eq_emod_of_nonneg (by omega)]; omega])
    | (rw [if_neg hz0] at hn; rw [decide_eq_false hz0]; (conv => whnf); rw [show (n0 : Int) = 0 by omega])
    conv => whnf
   all_goals
    refine call1 0 [] rfl rfl rfl rfl (fun _ => hp2) ?_
    rintro o r ⟨ho, rfl⟩
    cases ho
    conv => whnf
    refine ⟨⟨by omega, by omega⟩, ?_⟩
    conv => whnf
    generalize hrq : List.drop (Int.toNat (k8 : Int) * _) _ = rq
    obtain rfl : rq = _ :: _ := hrq.symm.trans hr
    clear hrq
    conv => whnf
    exact ⟨rfl, _, rfl, rawN_wk (f := .mk 12 x eB []) rfl⟩
  ·refine gw ?_
   refine spec_of (cx_ok ord92 (fun _ => [0]) 1) (fun _ _ h => h) Tryz.func92 rfl (by kernel_rfl) rfl (by kernel_rfl) ?_
   intro hok
   conv => whnf
   refine call1 0 [] rfl rfl rfl rfl (fun _ => hp) ?_
   rintro o r ⟨ho, rfl⟩
   cases ho
   conv => whnf
   by_cases hz0 : z ≤ 0
   all_goals
    first
    | (rw [if_pos hz0] at hn; rw [decide_eq_true hz0]; (conv => whnf); refine ⟨by decide, ?_⟩; rw [show ((n0 : Int)).tmod 6 = 1 by rw [Int.tmod_eq_emod_of_nonneg (by omega)]; omega])
    | (rw [if_neg hz0] at hn; rw [decide_eq_false hz0]; (conv => whnf); rw [show (n0 : Int) = 1 by omega])
    conv => whnf
   all_goals
    refine call1 0 [] rfl rfl rfl rfl (fun _ => hp2) ?_
    rintro o r ⟨ho, rfl⟩
    cases ho
    conv => whnf
    refine ⟨⟨by omega, by omega⟩, ?_⟩
    conv => whnf
    generalize hrq : List.drop (Int.toNat (k8 : Int) * _) _ = rq
    obtain rfl : rq = _ :: _ := hrq.symm.trans hr
    clear hrq
    conv => whnf
    exact ⟨rfl, _, rfl, rawN_wk (f := .mk 12 x eB []) rfl⟩
 by_cases hB : n ≤ 3
 ·obtain ⟨s, hs1, hp2⟩ := gvar l (i + 1) (by omega)
  refine ⟨.mk 14 0 s [], i + 2, .var _ _ hs1, by omega, by omega, ?_⟩
  rcases (by omega : n = 2 ∨ n = 3) with rfl | rfl
  ·refine gw ?_
   refine spec_of (cx_ok ord92 (fun _ => [0]) 1) (fun _ _ h => h) Tryz.func92 rfl (by kernel_rfl) rfl (by kernel_rfl) ?_
   intro hok
   conv => whnf
   refine call1 0 [] rfl rfl rfl rfl (fun _ => hp) ?_
   rintro o r ⟨ho, rfl⟩
   cases ho
   conv => whnf
   by_cases hz0 : z ≤ 0
   all_goals
    first
    | (rw [if_pos hz0] at hn; rw [decide_eq_true hz0]; (conv => whnf); refine ⟨by decide, ?_⟩; rw [show ((n0 : Int)).tmod 6 = 2 by rw [Int.tmod_eq_emod_of_nonneg (by omega)]; omega])
    | (rw [if_neg hz0] at hn; rw [decide_eq_false hz0]; (conv => whnf); rw [show (n0 : Int) = 2 by omega])
    conv => whnf
   all_goals
    refine call1 0 [] rfl rfl rfl rfl (fun _ => hp2) ?_
    rintro o r ⟨ho, rfl⟩
    cases ho
    conv => whnf
    exact ⟨rfl, _, rfl, rawN_wk (f := .mk 14 0 s []) rfl⟩
  ·refine gw ?_
   refine spec_of (cx_ok ord92 (fun _ => [0]) 1) (fun _ _ h => h) Tryz.func92 rfl (by kernel_rfl) rfl (by kernel_rfl) ?_
   intro hok
   conv => whnf
   refine call1 0 [] rfl rfl rfl rfl (fun _ => hp) ?_
   rintro o r ⟨ho, rfl⟩
   cases ho
   conv => whnf
   by_cases hz0 : z ≤ 0
   all_goals
    first
    | (rw [if_pos hz0] at hn; rw [decide_eq_true hz0]; (conv => whnf); refine ⟨by decide, ?_⟩; rw [show ((n0 : Int)).tmod 6 = 3 by rw [Int.tmod_eq_emod_of_nonneg (by omega)]; omega])
    | (rw [if_neg hz0] at hn; rw [decide_eq_false hz0]; (conv => whnf); rw [show (n0 : Int) = 3 by omega])
    conv => whnf
   all_goals
    refine call1 0 [] rfl rfl rfl rfl (fun _ => hp2) ?_
    rintro o r ⟨ho, rfl⟩
    cases ho
    conv => whnf
    exact ⟨rfl, _, rfl, rawN_wk (f := .mk 14 0 s []) rfl⟩
 by_cases hC : n ≤ 5
 ·have hp2 := gpick l (i + 1) 9 (by omega) (by decide)
  have hlt2 := pk_lt l (i + 1) (m := 9) (by decide)
  generalize pk l (i + 1) 9 = k8 at *
  refine ⟨.mk 15 0 (builtL[k8]'hlt2) [], i + 2, .nam _ _ (List.getElem_mem _), by omega, by omega, ?_⟩
  have hr : rowOf 1 k8 (strsA builtL) = [strA (builtL[k8]'hlt2)] := rowOf_map strA builtL k8 hlt2
  have hbu := builtins_spec
  generalize builtL[k8]'hlt2 = s at *
  rcases (by omega : n = 4 ∨ n = 5) with rfl | rfl
  ·refine gw ?_
   refine spec_of (cx_ok ord92 (fun _ => [0]) 1) (fun _ _ h => h) Tryz.func92 rfl (by kernel_rfl) rfl (by kernel_rfl) ?_
   intro hok
   conv => whnf
   refine call1 0 [] rfl rfl rfl rfl (fun _ => hp) ?_
   rintro o r ⟨ho, rfl⟩
   cases ho
   conv => whnf
   by_cases hz0 : z ≤ 0
   all_goals
    first
    | (rw [if_pos hz0] at hn; rw [decide_eq_true hz0]; (conv => whnf); refine ⟨by decide, ?_⟩; rw [show ((n0 : Int)).tmod 6 = 4 by rw [Int.tmod_eq_emod_of_nonneg (by omega)]; omega])
    | (rw [if_neg hz0] at hn; rw [decide_eq_false hz0]; (conv => whnf); rw [show (n0 : Int) = 4 by omega])
    conv => whnf
   all_goals
    (refine call0 [] rfl (fun _ => hbu) ?_; rintro r rfl; conv => whnf)
    refine call1 0 [] rfl rfl rfl rfl (fun _ => hp2) ?_
    rintro o r ⟨ho, rfl⟩
    cases ho
    conv => whnf
    refine ⟨⟨by omega, by show (k8 : Int) < 9; omega⟩, ?_⟩
    conv => whnf
    (generalize hrq : rowOf _ _ (strsA builtL) = rq; obtain rfl : rq = [strA s] := hrq.symm.trans (hr); clear hrq; conv => whnf)
    exact ⟨rfl, _, rfl, rawN_wk (f := .mk 15 0 s []) rfl⟩
  ·refine gw ?_
   refine spec_of (cx_ok ord92 (fun _ => [0]) 1) (fun _ _ h => h) Tryz.func92 rfl (by kernel_rfl) rfl (by kernel_rfl) ?_
   intro hok
   conv => whnf
   refine call1 0 [] rfl rfl rfl rfl (fun _ => hp) ?_
   rintro o r ⟨ho, rfl⟩
   cases ho
   conv => whnf
   by_cases hz0 : z ≤ 0
   all_goals
    first
    | (rw [if_pos hz0] at hn; rw [decide_eq_true hz0]; (conv => whnf); refine ⟨by decide, ?_⟩; rw [show ((n0 : Int)).tmod 6 = 5 by rw [Int.tmod_eq_emod_of_nonneg (by omega)]; omega])
    | (rw [if_neg hz0] at hn; rw [decide_eq_false hz0]; (conv => whnf); rw [show (n0 : Int) = 5 by omega])
    conv => whnf
   all_goals
    (refine call0 [] rfl (fun _ => hbu) ?_; rintro r rfl; conv => whnf)
    refine call1 0 [] rfl rfl rfl rfl (fun _ => hp2) ?_
    rintro o r ⟨ho, rfl⟩
    cases ho
    conv => whnf
    refine ⟨⟨by omega, by show (k8 : Int) < 9; omega⟩, ?_⟩
    conv => whnf
    (generalize hrq : rowOf _ _ (strsA builtL) = rq; obtain rfl : rq = [strA s] := hrq.symm.trans (hr); clear hrq; conv => whnf)
    exact ⟨rfl, _, rfl, rawN_wk (f := .mk 15 0 s []) rfl⟩
 have hzp : 0 < z := by
  by_cases h : 0 < z
  ·exact h
  ·have := hn6 (by omega); omega
 obtain ⟨e, rfl⟩ : ∃ e, d = e + 1 := ⟨d - 1, by omega⟩
 have ihe := ih e rfl
 unfold bI at hi
 by_cases hD : n ≤ 7
 ·obtain ⟨f, i2, hf, g1, g2, hs⟩ := ihe (i + 1) (z - 1) (by omega) (by omega) (by omega) (by omega)
  rcases (by omega : n = 6 ∨ n = 7) with rfl | rfl
  ·refine ⟨.mk 16 0 eB [f], i2, .drw _ _ hf, by omega, by unfold bI; omega, ?_⟩
   refine gw ?_
   refine spec_of (cx_ok ord92 (fun _ => [0]) 1) (fun _ _ h => h) Tryz.func92 rfl (by kernel_rfl) rfl (by kernel_rfl) ?_
   intro hok
   conv => whnf
   refine call1 0 [] rfl rfl rfl rfl (fun _ => hp) ?_
   rintro o r ⟨ho, rfl⟩
   cases ho
   conv => whnf
   by_cases hz0 : z ≤ 0
   all_goals
    first
    | (rw [if_pos hz0] at hn; rw [decide_eq_true hz0]; (conv => whnf); refine ⟨by decide, ?_⟩; rw [show ((n0 : Int)).tmod 6 = 6 by rw [Int.tmod_eq_emod_of_nonneg (by omega)]; omega])
    | (rw [if_neg hz0] at hn; rw [decide_eq_false hz0]; (conv => whnf); rw [show (n0 : Int) = 6 by omega])
    conv => whnf
   ·exact absurd hz0 (by omega)
   refine ⟨i64r (by omega), ?_⟩
   conv => whnf
   refine call1 0 [] rfl rfl rfl rfl (fun _ => hs) ?_
   rintro o r ⟨ho, rfl⟩
   cases ho
   conv => whnf
   exact ⟨rfl, _, rfl, by rw [ntA_one]; exact wkL_refl _⟩
  ·refine ⟨.mk 17 0 pMinus [f], i2, .neg _ _ hf, by omega, by unfold bI; omega, ?_⟩
   refine gw ?_
   refine spec_of (cx_ok ord92 (fun _ => [0]) 1) (fun _ _ h => h) Tryz.func92 rfl (by kernel_rfl) rfl (by kernel_rfl) ?_
   intro hok
   conv => whnf
   refine call1 0 [] rfl rfl rfl rfl (fun _ => hp) ?_
   rintro o r ⟨ho, rfl⟩
   cases ho
   conv => whnf
   by_cases hz0 : z ≤ 0
   all_goals
    first
    | (rw [if_pos hz0] at hn; rw [decide_eq_true hz0]; (conv => whnf); refine ⟨by decide, ?_⟩; rw [show ((n0 : Int)).tmod 6 = 7 by rw [Int.tmod_eq_emod_of_nonneg (by omega)]; omega])
    | (rw [if_neg hz0] at hn; rw [decide_eq_false hz0]; (conv => whnf); rw [show (n0 : Int) = 7 by omega])
    conv => whnf
   ·exact absurd hz0 (by omega)
   refine ⟨i64r (by omega), ?_⟩
   conv => whnf
   refine call1 0 [] rfl rfl rfl rfl (fun _ => hs) ?_
   rintro o r ⟨ho, rfl⟩
   cases ho
   conv => whnf
   exact ⟨rfl, _, rfl, by rw [ntA_one]; exact wkL_refl _⟩
 have hp2 := gpick l (i + 1) 4 (by omega) (by decide)
 have hlt2 := pk_lt l (i + 1) (m := 4) (by decide)
 generalize pk l (i + 1) 4 = k8 at *
 obtain ⟨f, i2, hf, g1, g2, hs⟩ := ihe (i + 1 + 1) (z - 1) (by omega) (by omega) (by omega) (by omega)
 obtain ⟨g, i3, hg, g3, g4, hs2⟩ := ihe i2 (z - 1) (by omega) (by omega) (by omega) (by omega)
 refine ⟨.mk 18 0 (opL[k8]'hlt2) [f, g], i3, .bin _ _ _ _ (List.getElem_mem _) hf hg, by omega, by unfold bI; omega, ?_⟩
 have hr := drop_cell strA opL k8 hlt2
 generalize opL[k8]'hlt2 = s at *
 rcases (by omega : n = 8 ∨ n = 9 ∨ n = 10 ∨ n = 11) with rfl | rfl | rfl | rfl
 ·refine gw ?_
  refine spec_of (cx_ok ord92 (fun _ => [0]) 1) (fun _ _ h => h) Tryz.func92 rfl (by kernel_rfl) rfl (by kernel_rfl) ?_
  intro hok
  conv => whnf
  refine call1 0 [] rfl rfl rfl rfl (fun _ => hp) ?_
  rintro o r ⟨ho, rfl⟩
  cases ho
  conv => whnf
  by_cases hz0 : z ≤ 0
  all_goals
   first
   | (rw [if_pos hz0] at hn; rw [decide_eq_true hz0]; (conv => whnf); refine ⟨by decide, ?_⟩; rw [show ((n0 : Int)).tmod 6 = 8 by rw [Int.tmod_eq_emod_of_nonneg (by omega)]; omega])
   | (rw [if_neg hz0] at hn; rw [decide_eq_false hz0]; (conv => whnf); rw [show (n0 : Int) = 8 by omega])
   conv => whnf
  ·exact absurd hz0 (by omega)
  refine call1 0 [] rfl rfl rfl rfl (fun _ => hp2) ?_
  rintro o r ⟨ho, rfl⟩
  cases ho
  conv => whnf
  refine ⟨⟨by omega, by omega⟩, ?_⟩
  conv => whnf
  generalize hrq : List.drop (Int.toNat (k8 : Int) * _) _ = rq
  obtain rfl : rq = _ :: _ := hrq.symm.trans hr
  clear hrq
  conv => whnf
  refine ⟨i64r (by omega), ?_⟩
  conv => whnf
  refine call1 0 [] rfl rfl rfl rfl (fun _ => hs) ?_
  rintro o r ⟨ho, rfl⟩
  cases ho
  conv => whnf
  refine ⟨i64r (by omega), ?_⟩
  conv => whnf
  refine call1 0 [] rfl rfl rfl rfl (fun _ => hs2) ?_
  rintro o r ⟨ho, rfl⟩
  cases ho
  conv => whnf
  exact ⟨rfl, _, rfl, by rw [ntA_two]; exact wkL_refl _⟩
 ·refine gw ?_
  refine spec_of (cx_ok ord92 (fun _ => [0]) 1) (fun _ _ h => h) Tryz.func92 rfl (by kernel_rfl) rfl (by kernel_rfl) ?_
  intro hok
  conv => whnf
  refine call1 0 [] rfl rfl rfl rfl (fun _ => hp) ?_
  rintro o r ⟨ho, rfl⟩
  cases ho
  conv => whnf
  by_cases hz0 : z ≤ 0
  all_goals
   first
   | (rw [if_pos hz0] at hn; rw [decide_eq_true hz0]; (conv => whnf); refine ⟨by decide, ?_⟩; rw [show ((n0 : Int)).tmod 6 = 9 by rw [Int.tmod_eq_emod_of_nonneg (by omega)]; omega])
   | (rw [if_neg hz0] at hn; rw [decide_eq_false hz0]; (conv => whnf); rw [show (n0 : Int) = 9 by omega])
   conv => whnf
  ·exact absurd hz0 (by omega)
  refine call1 0 [] rfl rfl rfl rfl (fun _ => hp2) ?_
  rintro o r ⟨ho, rfl⟩
  cases ho
  conv => whnf
  refine ⟨⟨by omega, by omega⟩, ?_⟩
  conv => whnf
  generalize hrq : List.drop (Int.toNat (k8 : Int) * _) _ = rq
  obtain rfl : rq = _ :: _ := hrq.symm.trans hr
  clear hrq
  conv => whnf
  refine ⟨i64r (by omega), ?_⟩
  conv => whnf
  refine call1 0 [] rfl rfl rfl rfl (fun _ => hs) ?_
  rintro o r ⟨ho, rfl⟩
  cases ho
  conv => whnf
  refine ⟨i64r (by omega), ?_⟩
  conv => whnf
  refine call1 0 [] rfl rfl rfl rfl (fun _ => hs2) ?_
  rintro o r ⟨ho, rfl⟩
  cases ho
  conv => whnf
  exact ⟨rfl, _, rfl, by rw [ntA_two]; exact wkL_refl _⟩
 ·refine gw ?_
  refine spec_of (cx_ok ord92 (fun _ => [0]) 1) (fun _ _ h => h) Tryz.func92 rfl (by kernel_rfl) rfl (by kernel_rfl) ?_
  intro hok
  conv => whnf
  refine call1 0 [] rfl rfl rfl rfl (fun _ => hp) ?_
  rintro o r ⟨ho, rfl⟩
  cases ho
  conv => whnf
  by_cases hz0 : z ≤ 0
  all_goals
   first
   | (rw [if_pos hz0] at hn; rw [decide_eq_true hz0]; (conv => whnf); refine ⟨by decide, ?_⟩; rw [show ((n0 : Int)).tmod 6 = 10 by rw [Int.tmod_eq_emod_of_nonneg (by omega)]; omega])
   | (rw [if_neg hz0] at hn; rw [decide_eq_false hz0]; (conv => whnf); rw [show (n0 : Int) = 10 by omega])
   conv => whnf
  ·exact absurd hz0 (by omega)
  refine call1 0 [] rfl rfl rfl rfl (fun _ => hp2) ?_
  rintro o r ⟨ho, rfl⟩
  cases ho
  conv => whnf
  refine ⟨⟨by omega, by omega⟩, ?_⟩
  conv => whnf
  generalize hrq : List.drop (Int.toNat (k8 : Int) * _) _ = rq
  obtain rfl : rq = _ :: _ := hrq.symm.trans hr
  clear hrq
  conv => whnf
  refine ⟨i64r (by omega), ?_⟩
  conv => whnf
  refine call1 0 [] rfl rfl rfl rfl (fun _ => hs) ?_
  rintro o r ⟨ho, rfl⟩
  cases ho
  conv => whnf
  refine ⟨i64r (by omega), ?_⟩
  conv => whnf
  refine call1 0 [] rfl rfl rfl rfl (fun _ => hs2) ?_
  rintro o r ⟨ho, rfl⟩
  cases ho
  conv => whnf
  exact ⟨rfl, _, rfl, by rw [ntA_two]; exact wkL_refl _⟩
 ·refine gw ?_
  refine spec_of (cx_ok ord92 (fun _ => [0]) 1) (fun _ _ h => h) Tryz.func92 rfl (by kernel_rfl) rfl (by kernel_rfl) ?_
  intro hok
  conv => whnf
  refine call1 0 [] rfl rfl rfl rfl (fun _ => hp) ?_
  rintro o r ⟨ho, rfl⟩
  cases ho
  conv => whnf
  by_cases hz0 : z ≤ 0
  all_goals
   first
   | (rw [if_pos hz0] at hn; rw [decide_eq_true hz0]; (conv => whnf); refine ⟨by decide, ?_⟩; rw [show ((n0 : Int)).tmod 6 = 11 by rw [Int.tmod_eq_emod_of_nonneg (by omega)]; omega])
   | (rw [if_neg hz0] at hn; rw [decide_eq_false hz0]; (conv => whnf); rw [show (n0 : Int) = 11 by omega])
   conv => whnf
  ·exact absurd hz0 (by omega)
  refine call1 0 [] rfl rfl rfl rfl (fun _ => hp2) ?_
  rintro o r ⟨ho, rfl⟩
  cases ho
  conv => whnf
  refine ⟨⟨by omega, by omega⟩, ?_⟩
  conv => whnf
  generalize hrq : List.drop (Int.toNat (k8 : Int) * _) _ = rq
  obtain rfl : rq = _ :: _ := hrq.symm.trans hr
  clear hrq
  conv => whnf
  refine ⟨i64r (by omega), ?_⟩
  conv => whnf
  refine call1 0 [] rfl rfl rfl rfl (fun _ => hs) ?_
  rintro o r ⟨ho, rfl⟩
  cases ho
  conv => whnf
  refine ⟨i64r (by omega), ?_⟩
  conv => whnf
  refine call1 0 [] rfl rfl rfl rfl (fun _ => hs2) ?_
  rintro o r ⟨ho, rfl⟩
  cases ho
  conv => whnf
  exact ⟨rfl, _, rfl, by rw [ntA_two]; exact wkL_refl _⟩
theorem gints (l : List Int) : ∀ d, GenI l d
 | 0 => gint l 0 fun e h => by omega
 | d + 1 => gint l (d + 1) fun e h => by
  obtain rfl : d = e := by omega
  exact gints l d
end Go.Proofs.YtmodkpibkkpcdaaGreatDoor.Vm
namespace Go.Proofs.YtmodkpibkkpcdaaGreatDoor.Vm
open Go.RowKit Go.Shelf
set_option linter.unusedSimpArgs false
set_option linter.unusedVariables false
set_option maxRecDepth 100000
def bolL : List ByteArray := [pAnd, pOr]
inductive EB : Nat → Nt → Prop
 | lit (d n : Nat) (h : n < 2) : EB d (.mk 13 n eB [])
 | nt (d : Nat) (f : Nt) (h : EB d f) : EB (d + 1) (.mk 17 0 pNot [f])
 | bin (d : Nat) (s : ByteArray) (f g : Nt) (hs : s ∈ bolL) (h1 : EB d f) (h2 : EB d g) : EB (d + 1) (.mk 18 0 s [f, g])
 | cmp (d : Nat) (s : ByteArray) (f g : Nt) (hs : s ∈ cmpL) (h1 : EI (d - 1) f) (h2 : EI (d - 1) g) : EB d (.mk 18 0 s [f, g])
def bB : Nat → Nat
 | 0 => 6
 | d + 1 => 2 + 2 * bB d + 2 * bI d
theorem bB_ge : ∀ d, 2 + 2 * bI (d - 1) ≤ bB d
 | 0 => by decide
 | d + 1 => by unfold bB; rw [Nat.add_sub_cancel]; omega
def GenB (l : List Int) (d : Nat) : Prop := ∀ (i : Nat) (z : Int), z.toNat = d → -3 ≤ z → z ≤ 10 → i + bB d ≤ 1000000000 → ∃ f i', EB d f ∧ i ≤ i' ∧ i' ≤ i + bB d ∧ Spec Tryz.prog 93 [bxG l i] [.box 0 0, .v (.int .i64 z)] fun o r => o = [bxG l i'] ∧ r = .agg (ntA f)
set_option maxHeartbeats 1000000 in
theorem gbool (l : List Int) (d : Nat) (ih : ∀ e, d = e + 1 → GenB l e) : GenB l d := fun i z hz h1 h2 hi => by
 have hge := bB_ge d
 have hge2 := bI_ge (d - 1)
 have hp := gpick l i 8 (by omega) (by decide)
 have hlt := pk_lt l i (m := 8) (by decide)
 generalize pk l i 8 = n0 at *
 obtain ⟨n, hn⟩ : ∃ n, (if z ≤ 0 then n0 % 4 else n0) = n := ⟨_, rfl⟩
 have hn12 : n < 8 := by split at hn <;> omega
 have hn6 : z ≤ 0 → n < 4 := fun h => by rw [if_pos h] at hn; omega
 by_cases hA : n = 0
 ·have hp2 := gpick l (i + 1) 2 (by omega) (by decide)
  have hlt2 := pk_lt l (i + 1) (m := 2) (by decide)
  generalize pk l (i + 1) 2 = k8 at *
  refine ⟨.mk 13 k8 eB [], i + 2, .lit _ _ hlt2, by omega, by omega, ?_⟩
  subst hA
  refine gw ?_
  refine spec_of (cx_ok ord93 (fun _ => [0]) 1) (fun _ _ h => h) Tryz.func93 rfl (by kernel_rfl) rfl (by kernel_rfl) ?_
  intro hok
  conv => whnf
  refine call1 0 [] rfl rfl rfl rfl (fun _ => hp) ?_
  rintro o r ⟨ho, rfl⟩
  cases ho
  conv => whnf
  by_cases hz0 : z ≤ 0
  all_goals
   first
   | (rw [if_pos hz0] at hn; rw [decide_eq_true hz0]; (conv => whnf); refine ⟨by decide, ?_⟩; rw [show ((n0 : Int)).tmod 4 = 0 by rw [Int.tmod_eq_emod_of_nonneg (by omega)]; omega])
   | (rw [if_neg hz0] at hn; rw [decide_eq_false hz0]; (conv => whnf); rw [show (n0 : Int) = 0 by omega])
   conv => whnf
  all_goals
   refine call1 0 [] rfl rfl rfl rfl (fun _ => hp2) ?_
   rintro o r ⟨ho, rfl⟩
   cases ho
   conv => whnf
   exact ⟨rfl, _, rfl, rawN_wk (f := .mk 13 k8 eB []) rfl⟩
 by_cases hB : n ≤ 4
 ·have hp2 := gpick l (i + 1) 6 (by omega) (by decide)
  have hlt2 := pk_lt l (i + 1) (m := 6) (by decide)
  generalize pk l (i + 1) 6 = k8 at *
  obtain ⟨f, i2, hf, g1, g2, hs⟩ := gints l (d - 1) (i + 1 + 1) (z - 1) (by omega) (by omega) (by omega) (by omega)
  obtain ⟨g, i3, hg, g3, g4, hs2⟩ := gints l (d - 1) i2 (z - 1) (by omega) (by omega) (by omega) (by omega)
  refine ⟨.mk 18 0 (cmpL[k8]'hlt2) [f, g], i3, .cmp _ _ _ _ (List.getElem_mem _) hf hg, by omega, by omega, ?_⟩
  have hr := drop_cell strA cmpL k8 hlt2
  generalize cmpL[k8]'hlt2 = s at *
  rcases (by omega : n = 1 ∨ n = 2 ∨ n = 3 ∨ n = 4) with rfl | rfl | rfl | rfl
  ·refine gw ?_
   refine spec_of (cx_ok ord93 (fun _ => [0]) 1) (fun _ _ h => h) Tryz.func93 rfl (by kernel_rfl) rfl (by kernel_rfl) ?_
   intro hok
   conv => whnf
   refine call1 0 [] rfl rfl rfl rfl (fun _ => hp) ?_
   rintro o r ⟨ho, rfl⟩
   cases ho
   conv => whnf
   by_cases hz0 : z ≤ 0
   all_goals
    first
    | (rw [if_pos hz0] at hn; rw [decide_eq_true hz0]; (conv => whnf); refine ⟨by decide, ?_⟩; rw [show ((n0 : Int)).tmod 4 = 1 by rw [Int.tmod_eq_emod_of_nonneg (by omega)]; omega])
    | (rw [if_neg hz0] at hn; rw [decide_eq_false hz0]; (conv => whnf); rw [show (n0 : Int) = 1 by omega])
    conv => whnf
   all_goals
    refine call1 0 [] rfl rfl rfl rfl (fun _ => hp2) ?_
    rintro o r ⟨ho, rfl⟩
    cases ho
    conv => whnf
    refine ⟨⟨by omega, by omega⟩, ?_⟩
    conv => whnf
    generalize hrq : List.drop (Int.toNat (k8 : Int) * _) _ = rq
    obtain rfl : rq = _ :: _ := hrq.symm.trans hr
    clear hrq
    conv => whnf
    refine ⟨i64r (by omega), ?_⟩
    conv => whnf
    refine call1 0 [] rfl rfl rfl rfl (fun _ => hs) ?_
    rintro o r ⟨ho, rfl⟩
    cases ho
    conv => whnf
    refine ⟨i64r (by omega), ?_⟩
    conv => whnf
    refine call1 0 [] rfl rfl rfl rfl (fun _ => hs2) ?_
    rintro o r ⟨ho, rfl⟩
    cases ho
    conv => whnf
    exact ⟨rfl, _, rfl, by rw [ntA_two]; exact wkL_refl _⟩
  ·refine gw ?_
   refine spec_of (cx_ok ord93 (fun _ => [0]) 1) (fun _ _ h => h) Tryz.func93 rfl (by kernel_rfl) rfl (by kernel_rfl) ?_
   intro hok
   conv => whnf
   refine call1 0 [] rfl rfl rfl rfl (fun _ => hp) ?_
   rintro o r ⟨ho, rfl⟩
   cases ho
   conv => whnf
   by_cases hz0 : z ≤ 0
   all_goals
    first
    | (rw [if_pos hz0] at hn; rw [decide_eq_true hz0]; (conv => whnf); refine ⟨by decide, ?_⟩; rw [show ((n0 : Int)).tmod 4 = 2 by rw [Int.tmod_eq_emod_of_nonneg (by omega)]; omega])
    | (rw [if_neg hz0] at hn; rw [decide_eq_false hz0]; (conv => whnf); rw [show (n0 : Int) = 2 by omega])
    conv => whnf
   all_goals
    refine call1 0 [] rfl rfl rfl rfl (fun _ => hp2) ?_
    rintro o r ⟨ho, rfl⟩
    cases ho
    conv => whnf
    refine ⟨⟨by omega, by omega⟩, ?_⟩
    conv => whnf
    generalize hrq : List.drop (Int.toNat (k8 : Int) * _) _ = rq
    obtain rfl : rq = _ :: _ := hrq.symm.trans hr
    clear hrq
    conv => whnf
    refine ⟨i64r (by omega), ?_⟩
    conv => whnf
    refine call1 0 [] rfl rfl rfl rfl (fun _ => hs) ?_
    rintro o r ⟨ho, rfl⟩
    cases ho
    conv => whnf
    refine ⟨i64r (by omega), ?_⟩
    conv => whnf
    refine call1 0 [] rfl rfl rfl rfl (fun _ => hs2) ?_
    rintro o r ⟨ho, rfl⟩
    cases ho
    conv => whnf
    exact ⟨rfl, _, rfl, by rw [ntA_two]; exact wkL_refl _⟩
  ·refine gw ?_
   refine spec_of (cx_ok ord93 (fun _ => [0]) 1) (fun _ _ h => h) Tryz.func93 rfl (by kernel_rfl) rfl (by kernel_rfl) ?_
   intro hok
   conv => whnf
   refine call1 0 [] rfl rfl rfl rfl (fun _ => hp) ?_
   rintro o r ⟨ho, rfl⟩
   cases ho
   conv => whnf
   by_cases hz0 : z ≤ 0
   all_goals
    first
    | (rw [if_pos hz0] at hn; rw [decide_eq_true hz0]; (conv => whnf); refine ⟨by decide, ?_⟩; rw [show ((n0 : Int)).tmod 4 = 3 by rw [Int.tmod_eq_emod_of_nonneg (by omega)]; omega])
    | (rw [if_neg hz0] at hn; rw [decide_eq_false hz0]; (conv => whnf); rw [show (n0 : Int) = 3 by omega])
    conv => whnf
   all_goals
    refine call1 0 [] rfl rfl rfl rfl (fun _ => hp2) ?_
    rintro o r ⟨ho, rfl⟩
    cases ho
    conv => whnf
    refine ⟨⟨by omega, by omega⟩, ?_⟩
    conv => whnf
    generalize hrq : List.drop (Int.toNat (k8 : Int) * _) _ = rq
    obtain rfl : rq = _ :: _ := hrq.symm.trans hr
    clear hrq
    conv => whnf
    refine ⟨i64r (by omega), ?_⟩
    conv => whnf
    refine call1 0 [] rfl rfl rfl rfl (fun _ => hs) ?_
    rintro o r ⟨ho, rfl⟩
    cases ho
    conv => whnf
    refine ⟨i64r (by omega), ?_⟩
    conv => whnf
    refine call1 0 [] rfl rfl rfl rfl (fun _ => hs2) ?_
    rintro o r ⟨ho, rfl⟩
    cases ho
    conv => whnf
    exact ⟨rfl, _, rfl, by rw [ntA_two]; exact wkL_refl _⟩
  ·refine gw ?_
   refine spec_of (cx_ok ord93 (fun _ => [0]) 1) (fun _ _ h => h) Tryz.func93 rfl (by kernel_rfl) rfl (by kernel_rfl) ?_
   intro hok
   conv => whnf
   refine call1 0 [] rfl rfl rfl rfl (fun _ => hp) ?_
   rintro o r ⟨ho, rfl⟩
   cases ho
   conv => whnf
   by_cases hz0 : z ≤ 0
   all_goals
    first
    | (rw [if_pos hz0] at hn; rw [decide_eq_true hz0]; (conv => whnf); refine ⟨by decide, ?_⟩; rw [show ((n0 : Int)).tmod 4 = 4 by rw [Int.tmod_eq_emod_of_nonneg (by omega)]; omega])
    | (rw [if_neg hz0] at hn; rw [decide_eq_false hz0]; (conv => whnf); rw [show (n0 : Int) = 4 by omega])
    conv => whnf
   ·exact absurd hz0 (by omega)
   refine call1 0 [] rfl rfl rfl rfl (fun _ => hp2) ?_
   rintro o r ⟨ho, rfl⟩
   cases ho
   conv => whnf
   refine ⟨⟨by omega, by omega⟩, ?_⟩
   conv => whnf
   generalize hrq : List.drop (Int.toNat (k8 : Int) * _) _ = rq
   obtain rfl : rq = _ :: _ := hrq.symm.trans hr
   clear hrq
   conv => whnf
   refine ⟨i64r (by omega), ?_⟩
   conv => whnf
   refine call1 0 [] rfl rfl rfl rfl (fun _ => hs) ?_
   rintro o r ⟨ho, rfl⟩
   cases ho
   conv => whnf
   refine ⟨i64r (by omega), ?_⟩
   conv => whnf
   refine call1 0 [] rfl rfl rfl rfl (fun _ => hs2) ?_
   rintro o r ⟨ho, rfl⟩
   cases ho
   conv => whnf
   exact ⟨rfl, _, rfl, by rw [ntA_two]; exact wkL_refl _⟩
 have hzp : 0 < z := by
  by_cases h : 0 < z
  ·exact h
  ·have := hn6 (by omega); omega
 obtain ⟨e, rfl⟩ : ∃ e, d = e + 1 := ⟨d - 1, by omega⟩
 have ihe := ih e rfl
 unfold bB at hi
 by_cases hD : n = 5
 ·obtain ⟨f, i2, hf, g1, g2, hs⟩ := ihe (i + 1) (z - 1) (by omega) (by omega) (by omega) (by omega)
  subst hD
  refine ⟨.mk 17 0 pNot [f], i2, .nt _ _ hf, by omega, by unfold bB; omega, ?_⟩
  refine gw ?_
  refine spec_of (cx_ok ord93 (fun _ => [0]) 1) (fun _ _ h => h) Tryz.func93 rfl (by kernel_rfl) rfl (by kernel_rfl) ?_
  intro hok
  conv => whnf
  refine call1 0 [] rfl rfl rfl rfl (fun _ => hp) ?_
  rintro o r ⟨ho, rfl⟩
  cases ho
  conv => whnf
  by_cases hz0 : z ≤ 0
  all_goals
   first
   | (rw [if_pos hz0] at hn; rw [decide_eq_true hz0]; (conv => whnf); refine ⟨by decide, ?_⟩; rw [show ((n0 : Int)).tmod 4 = 5 by rw [Int.tmod_eq_emod_of_nonneg (by omega)]; omega])
   | (rw [if_neg hz0] at hn; rw [decide_eq_false hz0]; (conv => whnf); rw [show (n0 : Int) = 5 by omega])
   conv => whnf
  ·exact absurd hz0 (by omega)
  refine ⟨i64r (by omega), ?_⟩
  conv => whnf
  refine call1 0 [] rfl rfl rfl rfl (fun _ => hs) ?_
  rintro o r ⟨ho, rfl⟩
  cases ho
  conv => whnf
  exact ⟨rfl, _, rfl, by rw [ntA_one]; exact wkL_refl _⟩
 have hp2 := gpick l (i + 1) 2 (by omega) (by decide)
 have hlt2 := pk_lt l (i + 1) (m := 2) (by decide)
 generalize pk l (i + 1) 2 = k8 at *
 obtain ⟨f, i2, hf, g1, g2, hs⟩ := ihe (i + 1 + 1) (z - 1) (by omega) (by omega) (by omega) (by omega)
 obtain ⟨g, i3, hg, g3, g4, hs2⟩ := ihe i2 (z - 1) (by omega) (by omega) (by omega) (by omega)
 refine ⟨.mk 18 0 (bolL[k8]'hlt2) [f, g], i3, .bin _ _ _ _ (List.getElem_mem _) hf hg, by omega, by unfold bB; omega, ?_⟩
 have hr := drop_cell strA bolL k8 hlt2
 generalize bolL[k8]'hlt2 = s at *
 rcases (by omega : n = 6 ∨ n = 7) with rfl | rfl
 ·refine gw ?_
  refine spec_of (cx_ok ord93 (fun _ => [0]) 1) (fun _ _ h => h) Tryz.func93 rfl (by kernel_rfl) rfl (by kernel_rfl) ?_
  intro hok
  conv => whnf
  refine call1 0 [] rfl rfl rfl rfl (fun _ => hp) ?_
  rintro o r ⟨ho, rfl⟩
  cases ho
  conv => whnf
  by_cases hz0 : z ≤ 0
  all_goals
   first
   | (rw [if_pos hz0] at hn; rw [decide_eq_true hz0]; (conv => whnf); refine ⟨by decide, ?_⟩; rw [show ((n0 : Int)).tmod 4 = 6 by rw [Int.tmod_eq_emod_of_nonneg (by omega)]; omega])
   | (rw [if_neg hz0] at hn; rw [decide_eq_false hz0]; (conv => whnf); rw [show (n0 : Int) = 6 by omega])
   conv => whnf
  ·exact absurd hz0 (by omega)
  refine call1 0 [] rfl rfl rfl rfl (fun _ => hp2) ?_
  rintro o r ⟨ho, rfl⟩
  cases ho
  conv => whnf
  refine ⟨⟨by omega, by omega⟩, ?_⟩
  conv => whnf
  generalize hrq : List.drop (Int.toNat (k8 : Int) * _) _ = rq
  obtain rfl : rq = _ :: _ := hrq.symm.trans hr
  clear hrq
  conv => whnf
  refine ⟨i64r (by omega), ?_⟩
  conv => whnf
  refine call1 0 [] rfl rfl rfl rfl (fun _ => hs) ?_
  rintro o r ⟨ho, rfl⟩
  cases ho
  conv => whnf
  refine ⟨i64r (by omega), ?_⟩
  conv => whnf
  refine call1 0 [] rfl rfl rfl rfl (fun _ => hs2) ?_
  rintro o r ⟨ho, rfl⟩
  cases ho
  conv => whnf
  exact ⟨rfl, _, rfl, by rw [ntA_two]; exact wkL_refl _⟩
 ·refine gw ?_
  refine spec_of (cx_ok ord93 (fun _ => [0]) 1) (fun _ _ h => h) Tryz.func93 rfl (by kernel_rfl) rfl (by kernel_rfl) ?_
  intro hok
  conv => whnf
  refine call1 0 [] rfl rfl rfl rfl (fun _ => hp) ?_
  rintro o r ⟨ho, rfl⟩
  cases ho
  conv => whnf
  by_cases hz0 : z ≤ 0
  all_goals
   first
   | (rw [if_pos hz0] at hn; rw [decide_eq_true hz0]; (conv => whnf); refine ⟨by decide, ?_⟩; rw [show ((n0 : Int)).tmod 4 = 7 by rw [Int.tmod_eq_emod_of_nonneg (by omega)]; omega])
   | (rw [if_neg hz0] at hn; rw [decide_eq_false hz0]; (conv => whnf); rw [show (n0 : Int) = 7 by omega])
   conv => whnf
  ·exact absurd hz0 (by omega)
  refine call1 0 [] rfl rfl rfl rfl (fun _ => hp2) ?_
  rintro o r ⟨ho, rfl⟩
  cases ho
  conv => whnf
  refine ⟨⟨by omega, by omega⟩, ?_⟩
  conv => whnf
  generalize hrq : List.drop (Int.toNat (k8 : Int) * _) _ = rq
  obtain rfl : rq = _ :: _ := hrq.symm.trans hr
  clear hrq
  conv => whnf
  refine ⟨i64r (by omega), ?_⟩
  conv => whnf
  refine call1 0 [] rfl rfl rfl rfl (fun _ => hs) ?_
  rintro o r ⟨ho, rfl⟩
  cases ho
  conv => whnf
  refine ⟨i64r (by omega), ?_⟩
  conv => whnf
  refine call1 0 [] rfl rfl rfl rfl (fun _ => hs2) ?_
  rintro o r ⟨ho, rfl⟩
  cases ho
  conv => whnf
  exact ⟨rfl, _, rfl, by rw [ntA_two]; exact wkL_refl _⟩
theorem gbools (l : List Int) : ∀ d, GenB l d
 | 0 => gbool l 0 fun e h => by omega
 | d + 1 => gbool l (d + 1) fun e h => by
  obtain rfl : d = e := by omega
  exact gbools l d
end Go.Proofs.YtmodkpibkkpcdaaGreatDoor.Vm
namespace Go.Proofs.YtmodkpibkkpcdaaGreatDoor.Vm
open Go.RowKit Go.Shelf
set_option linter.unusedSimpArgs false
set_option linter.unusedVariables false
set_option maxRecDepth 100000
inductive ES : Nat → Nt → Prop
 | asg (d e : Nat) (s : ByteArray) (f : Nt) (hs : s ∈ varL) (h : EI e f) (he : e ≤ 2) : ES d (.mk 1 0 s [f])
 | snd (d n : Nat) (f g h : Nt) (hn : n < 4) (h1 : EI 0 f) (h2 : EI 1 g) (h3 : EI 1 h) : ES d (.mk 4 n eB [f, g, h])
 | tim (d n : Nat) (hn : n < 3) : ES d (.mk 5 n eB [])
 | can (d n : Nat) (hn : n < 3) : ES d (.mk 6 n eB [])
 | syn (d : Nat) : ES d (.mk 7 0 eB [])
 | rep (d : Nat) (f g : Nt) (h1 : EI 0 f) (h2 : EI 1 g) : ES d (.mk 8 0 eB [f, g])
 | fai (d : Nat) (f : Nt) (h1 : EI 1 f) : ES d (.mk 9 0 eB [f])
 | stp (d : Nat) : ES d (.mk 10 0 eB [])
 | whi (d : Nat) (c : Nt) (l : List Nt) (h1 : EB 1 c) (h2 : l.length ≤ 2) (h3 : ∀ s ∈ l, ES d s) : ES (d + 1) (.mk 3 0 eB [c, blkN l])
 | iff (d : Nat) (c : Nt) (l m : List Nt) (h1 : EB 2 c) (h2 : l.length ≤ 2) (h3 : ∀ s ∈ l, ES d s) (h4 : m.length ≤ 2) (h5 : ∀ s ∈ m, ES d s) : ES (d + 1) (.mk 2 0 eB [c, blkN l, blkN m])
def bS : Nat → Nat
 | 0 => 60
 | d + 1 => 62 + 4 * bS d
theorem bS_ge : ∀ d, 60 ≤ bS d
 | 0 => Nat.le_refl _
 | d + 1 => by unfold bS; omega
def GenS (l : List Int) (d : Nat) : Prop := ∀ (i : Nat) (z : Int), z.toNat = d → 0 ≤ z → z ≤ 5 → i + bS d ≤ 1000000000 → ∃ f i', ES d f ∧ i ≤ i' ∧ i' ≤ i + bS d ∧ Spec Tryz.prog 57 [bxG l i] [.box 0 0, .v (.int .i64 z)] fun o r => o = [bxG l i'] ∧ r = .agg (ntA f)
def GenK (l : List Int) (d : Nat) : Prop := ∀ (i m : Nat) (z : Int), z.toNat = d → 0 ≤ z → z ≤ 5 → m ≤ 3 → i + (1 + m * bS d) ≤ 1000000000 → ∃ k i', k.length ≤ m ∧ (∀ s ∈ k, ES d s) ∧ i ≤ i' ∧ i' ≤ i + (1 + m * bS d) ∧ Spec Tryz.prog 37 [bxG l i] [.box 0 0, .v (.int .i64 z), .v (.int .i64 m)] fun o r => o = [bxG l i'] ∧ r = .agg (ntA (blkN k))
set_option maxHeartbeats 2000000 in
theorem gstm (l : List Int) (d : Nat) (ih : ∀ e, d = e + 1 → GenK l e) : GenS l d := fun i z hz h1 h2 hi => by
 have hge := bS_ge d
 have b0 : bI 0 = 2 := rfl
 have b1 : bI 1 = 6 := rfl
 have b2 : bI 2 = 14 := rfl
 have c1 : bB 1 = 18 := rfl
 have c2 : bB 2 = 50 := rfl
 have hp := gpick l i 14 (by omega) (by decide)
 have hlt := pk_lt l i (m := 14) (by decide)
 generalize pk l i 14 = n0 at *
 obtain ⟨n, hn⟩ : ∃ n, (if z ≤ 0 then n0 % 11 else n0) = n := ⟨_, rfl⟩
 have hn12 : n < 14 := by split at hn <;> omega
 have hn6 : z ≤ 0 → n < 11 := fun h => by rw [if_pos h] at hn; omega
 by_cases hA : n ≤ 2
 ·obtain ⟨s, hs1, hp2⟩ := gvar l (i + 1) (by omega)
  obtain ⟨f, i2, hf, g1, g2, hs⟩ := gints l 2 (i + 1 + 1) 2 (by omega) (by omega) (by omega) (by omega)
  refine ⟨.mk 1 0 s [f], i2, .asg _ _ _ _ hs1 hf (Nat.le_refl _), by omega, by omega, ?_⟩
  rcases (by omega : n = 0 ∨ n = 1 ∨ n = 2) with rfl | rfl | rfl
  ·refine gw ?_
   refine spec_of (cx_ok ord57 (fun _ => [0]) 1) (fun _ _ h => h) Tryz.func57 rfl (by kernel_rfl) rfl (by kernel_rfl) ?_
   intro hok
   conv => whnf
   refine call1 0 [] rfl rfl rfl rfl (fun _ => hp) ?_
   rintro o r ⟨ho, rfl⟩
   cases ho
   conv => whnf
   by_cases hz0 : z ≤ 0
   all_goals
    first
    | (rw [if_pos hz0] at hn; rw [decide_eq_true hz0]; (conv => whnf); refine ⟨by decide, ?_⟩; rw [show ((n0 : Int)).tmod 11 = 0 by rw [Int.tmod_eq_emod_of_nonneg (by omega)]; omega])
    | (rw [if_neg hz0] at hn; rw [decide_eq_false hz0]; (conv => whnf); rw [show (n0 : Int) = 0 by omega])
    conv => whnf
   all_goals
    refine call1 0 [] rfl rfl rfl rfl (fun _ => hp2) ?_
    rintro o r ⟨ho, rfl⟩
    cases ho
    conv => whnf
    refine call1 0 [] rfl rfl rfl rfl (fun _ => hs) ?_
    rintro o r ⟨ho, rfl⟩
    cases ho
    conv => whnf
    exact ⟨rfl, _, rfl, by rw [ntA_one]; exact wkL_refl _⟩
  ·refine gw ?_
   refine spec_of (cx_ok ord57 (fun _ => [0]) 1) (fun _ _ h => h) Tryz.func57 rfl (by kernel_rfl) rfl (by kernel_rfl) ?_
   intro hok
   conv => whnf
   refine call1 0 [] rfl rfl rfl rfl (fun _ => hp) ?_
   rintro o r ⟨ho, rfl⟩
   cases ho
   conv => whnf
   by_cases hz0 : z ≤ 0
   all_goals
    first
    | (rw [if_pos hz0] at hn; rw [decide_eq_true hz0]; (conv => whnf); refine ⟨by decide, ?_⟩; rw [show ((n0 : Int)).tmod 11 = 1 by rw [Int.tmod_eq_emod_of_nonneg (by omega)]; omega])
    | (rw [if_neg hz0] at hn; rw [decide_eq_false hz0]; (conv => whnf); rw [show (n0 : Int) = 1 by omega])
    conv => whnf
   all_goals
    refine call1 0 [] rfl rfl rfl rfl (fun _ => hp2) ?_
    rintro o r ⟨ho, rfl⟩
    cases ho
    conv => whnf
    refine call1 0 [] rfl rfl rfl rfl (fun _ => hs) ?_
    rintro o r ⟨ho, rfl⟩
    cases ho
    conv => whnf
    exact ⟨rfl, _, rfl, by rw [ntA_one]; exact wkL_refl _⟩
  ·refine gw ?_
   refine spec_of (cx_ok ord57 (fun _ => [0]) 1) (fun _ _ h => h) Tryz.func57 rfl (by kernel_rfl) rfl (by kernel_rfl) ?_
   intro hok
   conv => whnf
   refine call1 0 [] rfl rfl rfl rfl (fun _ => hp) ?_
   rintro o r ⟨ho, rfl⟩
   cases ho
   conv => whnf
   by_cases hz0 : z ≤ 0
   all_goals
    first
    | (rw [if_pos hz0] at hn; rw [decide_eq_true hz0]; (conv => whnf); refine ⟨by decide, ?_⟩; rw [show ((n0 : Int)).tmod 11 = 2 by rw [Int.tmod_eq_emod_of_nonneg (by omega)]; omega])
    | (rw [if_neg hz0] at hn; rw [decide_eq_false hz0]; (conv => whnf); rw [show (n0 : Int) = 2 by omega])
    conv => whnf
   all_goals
    refine call1 0 [] rfl rfl rfl rfl (fun _ => hp2) ?_
    rintro o r ⟨ho, rfl⟩
    cases ho
    conv => whnf
    refine call1 0 [] rfl rfl rfl rfl (fun _ => hs) ?_
    rintro o r ⟨ho, rfl⟩
    cases ho
    conv => whnf
    exact ⟨rfl, _, rfl, by rw [ntA_one]; exact wkL_refl _⟩
 by_cases hB : n ≤ 4
 ·obtain ⟨f, i2, hf, g1, g2, hs1⟩ := gints l 0 (i + 1) 0 (by omega) (by omega) (by omega) (by omega)
  have hp2 := gpick l i2 4 (by omega) (by decide)
  have hlt2 := pk_lt l i2 (m := 4) (by decide)
  generalize pk l i2 4 = k8 at *
  obtain ⟨g, i3, hg, g3, g4, hs2⟩ := gints l 1 (i2 + 1) 1 (by omega) (by omega) (by omega) (by omega)
  obtain ⟨h, i4, hh, g5, g6, hs3⟩ := gints l 1 i3 1 (by omega) (by omega) (by omega) (by omega)
  refine ⟨.mk 4 k8 eB [f, g, h], i4, .snd _ _ _ _ _ hlt2 hf hg hh, by omega, by omega, ?_⟩
  rcases (by omega : n = 3 ∨ n = 4) with rfl | rfl
  ·refine gw ?_
   refine spec_of (cx_ok ord57 (fun _ => [0]) 1) (fun _ _ h => h) Tryz.func57 rfl (by kernel_rfl) rfl (by kernel_rfl) ?_
   intro hok
   conv => whnf
   refine call1 0 [] rfl rfl rfl rfl (fun _ => hp) ?_
   rintro o r ⟨ho, rfl⟩
   cases ho
   conv => whnf
   by_cases hz0 : z ≤ 0
   all_goals
    first
    | (rw [if_pos hz0] at hn; rw [decide_eq_true hz0]; (conv => whnf); refine ⟨by decide, ?_⟩; rw [show ((n0 : Int)).tmod 11 = 3 by rw [Int.tmod_eq_emod_of_nonneg (by omega)]; omega])
    | (rw [if_neg hz0] at hn; rw [decide_eq_false hz0]; (conv => whnf); rw [show (n0 : Int) = 3 by omega])
    conv => whnf
   all_goals
    refine call1 0 [] rfl rfl rfl rfl (fun _ => hs1) ?_
    rintro o r ⟨ho, rfl⟩
    cases ho
    conv => whnf
    refine call1 0 [] rfl rfl rfl rfl (fun _ => hp2) ?_
    rintro o r ⟨ho, rfl⟩
    cases ho
    conv => whnf
    refine call1 0 [] rfl rfl rfl rfl (fun _ => hs2) ?_
    rintro o r ⟨ho, rfl⟩
    cases ho
    conv => whnf
    refine call1 0 [] rfl rfl rfl rfl (fun _ => hs3) ?_
    rintro o r ⟨ho, rfl⟩
    cases ho
    conv => whnf
    exact ⟨rfl, _, rfl, by rw [ntA_three]; exact wkL_refl _⟩
  ·refine gw ?_
   refine spec_of (cx_ok ord57 (fun _ => [0]) 1) (fun _ _ h => h) Tryz.func57 rfl (by kernel_rfl) rfl (by kernel_rfl) ?_
   intro hok
   conv => whnf
   refine call1 0 [] rfl rfl rfl rfl (fun _ => hp) ?_
   rintro o r ⟨ho, rfl⟩
   cases ho
   conv => whnf
   by_cases hz0 : z ≤ 0
   all_goals
    first
    | (rw [if_pos hz0] at hn; rw [decide_eq_true hz0]; (conv => whnf); refine ⟨by decide, ?_⟩; rw [show ((n0 : Int)).tmod 11 = 4 by rw [Int.tmod_eq_emod_of_nonneg (by omega)]; omega])
    | (rw [if_neg hz0] at hn; rw [decide_eq_false hz0]; (conv => whnf); rw [show (n0 : Int) = 4 by omega])
    conv => whnf
   all_goals
    refine call1 0 [] rfl rfl rfl rfl (fun _ => hs1) ?_
    rintro o r ⟨ho, rfl⟩
    cases ho
    conv => whnf
    refine call1 0 [] rfl rfl rfl rfl (fun _ => hp2) ?_
    rintro o r ⟨ho, rfl⟩
    cases ho
    conv => whnf
    refine call1 0 [] rfl rfl rfl rfl (fun _ => hs2) ?_
    rintro o r ⟨ho, rfl⟩
    cases ho
    conv => whnf
    refine call1 0 [] rfl rfl rfl rfl (fun _ => hs3) ?_
    rintro o r ⟨ho, rfl⟩
    cases ho
    conv => whnf
    exact ⟨rfl, _, rfl, by rw [ntA_three]; exact wkL_refl _⟩
 by_cases hC : n ≤ 6
 ·have hp2 := gpick l (i + 1) 3 (by omega) (by decide)
  have hlt2 := pk_lt l (i + 1) (m := 3) (by decide)
  generalize pk l (i + 1) 3 = k8 at *
  rcases (by omega : n = 5 ∨ n = 6) with rfl | rfl
  ·refine ⟨.mk 5 k8 eB [], i + 2, .tim _ _ hlt2, by omega, by omega, ?_⟩
   refine gw ?_
   refine spec_of (cx_ok ord57 (fun _ => [0]) 1) (fun _ _ h => h) Tryz.func57 rfl (by kernel_rfl) rfl (by kernel_rfl) ?_
   intro hok
   conv => whnf
   refine call1 0 [] rfl rfl rfl rfl (fun _ => hp) ?_
   rintro o r ⟨ho, rfl⟩
   cases ho
   conv => whnf
   by_cases hz0 : z ≤ 0
   all_goals
    first
    | (rw [if_pos hz0] at hn; rw [decide_eq_true hz0]; (conv => whnf); refine ⟨by decide, ?_⟩; rw [show ((n0 : Int)).tmod 11 = 5 by rw [Int.tmod_eq_emod_of_nonneg (by omega)]; omega])
    | (rw [if_neg hz0] at hn; rw [decide_eq_false hz0]; (conv => whnf); rw [show (n0 : Int) = 5 by omega])
    conv => whnf
   all_goals
    refine call1 0 [] rfl rfl rfl rfl (fun _ => hp2) ?_
    rintro o r ⟨ho, rfl⟩
    cases ho
    conv => whnf
    exact ⟨rfl, _, rfl, rawN_wk (f := .mk 5 k8 eB []) rfl⟩
  ·refine ⟨.mk 6 k8 eB [], i + 2, .can _ _ hlt2, by omega, by omega, ?_⟩
   refine gw ?_
   refine spec_of (cx_ok ord57 (fun _ => [0]) 1) (fun _ _ h => h) Tryz.func57 rfl (by kernel_rfl) rfl (by kernel_rfl) ?_
   intro hok
   conv => whnf
   refine call1 0 [] rfl rfl rfl rfl (fun _ => hp) ?_
   rintro o r ⟨ho, rfl⟩
   cases ho
   conv => whnf
   by_cases hz0 : z ≤ 0
   all_goals
    first
    | (rw [if_pos hz0] at hn; rw [decide_eq_true hz0]; (conv => whnf); refine ⟨by decide, ?_⟩; rw [show ((n0 : Int)).tmod 11 = 6 by rw [Int.tmod_eq_emod_of_nonneg (by omega)]; omega])
    | (rw [if_neg hz0] at hn; rw [decide_eq_false hz0]; (conv => whnf); rw [show (n0 : Int) = 6 by omega])
    conv => whnf
   all_goals
    refine call1 0 [] rfl rfl rfl rfl (fun _ => hp2) ?_
    rintro o r ⟨ho, rfl⟩
    cases ho
    conv => whnf
    exact ⟨rfl, _, rfl, rawN_wk (f := .mk 6 k8 eB []) rfl⟩
 by_cases hD : n = 7
 ·subst hD
  refine ⟨.mk 7 0 eB [], i + 1, .syn _, by omega, by omega, ?_⟩
  refine gw ?_
  refine spec_of (cx_ok ord57 (fun _ => [0]) 1) (fun _ _ h => h) Tryz.func57 rfl (by kernel_rfl) rfl (by kernel_rfl) ?_
  intro hok
  conv => whnf
  refine call1 0 [] rfl rfl rfl rfl (fun _ => hp) ?_
  rintro o r ⟨ho, rfl⟩
  cases ho
  conv => whnf
  by_cases hz0 : z ≤ 0
  all_goals
   first
   | (rw [if_pos hz0] at hn; rw [decide_eq_true hz0]; (conv => whnf); refine ⟨by decide, ?_⟩; rw [show ((n0 : Int)).tmod 11 = 7 by rw [Int.tmod_eq_emod_of_nonneg (by omega)]; omega])
   | (rw [if_neg hz0] at hn; rw [decide_eq_false hz0]; (conv => whnf); rw [show (n0 : Int) = 7 by omega])
   conv => whnf
  all_goals
   exact ⟨rfl, _, rfl, rawN_wk (f := .mk 7 0 eB []) rfl⟩
 by_cases hE : n = 8
 ·subst hE
  obtain ⟨f, i2, hf, g1, g2, hs1⟩ := gints l 0 (i + 1) 0 (by omega) (by omega) (by omega) (by omega)
  obtain ⟨g, i3, hg, g3, g4, hs2⟩ := gints l 1 i2 1 (by omega) (by omega) (by omega) (by omega)
  refine ⟨.mk 8 0 eB [f, g], i3, .rep _ _ _ hf hg, by omega, by omega, ?_⟩
  refine gw ?_
  refine spec_of (cx_ok ord57 (fun _ => [0]) 1) (fun _ _ h => h) Tryz.func57 rfl (by kernel_rfl) rfl (by kernel_rfl) ?_
  intro hok
  conv => whnf
  refine call1 0 [] rfl rfl rfl rfl (fun _ => hp) ?_
  rintro o r ⟨ho, rfl⟩
  cases ho
  conv => whnf
  by_cases hz0 : z ≤ 0
  all_goals
   first
   | (rw [if_pos hz0] at hn; rw [decide_eq_true hz0]; (conv => whnf); refine ⟨by decide, ?_⟩; rw [show ((n0 : Int)).tmod 11 = 8 by rw [Int.tmod_eq_emod_of_nonneg (by omega)]; omega])
   | (rw [if_neg hz0] at hn; rw [decide_eq_false hz0]; (conv => whnf); rw [show (n0 : Int) = 8 by omega])
   conv => whnf
  all_goals
   refine call1 0 [] rfl rfl rfl rfl (fun _ => hs1) ?_
   rintro o r ⟨ho, rfl⟩
   cases ho
   conv => whnf
   refine call1 0 [] rfl rfl rfl rfl (fun _ => hs2) ?_
   rintro o r ⟨ho, rfl⟩
   cases ho
   conv => whnf
   exact ⟨rfl, _, rfl, by rw [ntA_two]; exact wkL_refl _⟩
 by_cases hF : n = 9
 ·subst hF
  obtain ⟨f, i2, hf, g1, g2, hs1⟩ := gints l 1 (i + 1) 1 (by omega) (by omega) (by omega) (by omega)
  refine ⟨.mk 9 0 eB [f], i2, .fai _ _ hf, by omega, by omega, ?_⟩
  refine gw ?_
  refine spec_of (cx_ok ord57 (fun _ => [0]) 1) (fun _ _ h => h) Tryz.func57 rfl (by kernel_rfl) rfl (by kernel_rfl) ?_
  intro hok
  conv => whnf
  refine call1 0 [] rfl rfl rfl rfl (fun _ => hp) ?_
  rintro o r ⟨ho, rfl⟩
  cases ho
  conv => whnf
  by_cases hz0 : z ≤ 0
  all_goals
   first
   | (rw [if_pos hz0] at hn; rw [decide_eq_true hz0]; (conv => whnf); refine ⟨by decide, ?_⟩; rw [show ((n0 : Int)).tmod 11 = 9 by rw [Int.tmod_eq_emod_of_nonneg (by omega)]; omega])
   | (rw [if_neg hz0] at hn; rw [decide_eq_false hz0]; (conv => whnf); rw [show (n0 : Int) = 9 by omega])
   conv => whnf
  all_goals
   refine call1 0 [] rfl rfl rfl rfl (fun _ => hs1) ?_
   rintro o r ⟨ho, rfl⟩
   cases ho
   conv => whnf
   exact ⟨rfl, _, rfl, by rw [ntA_one]; exact wkL_refl _⟩
 by_cases hG : n = 10
 ·subst hG
  have hp2 := gpick l (i + 1) 3 (by omega) (by decide)
  have hlt2 := pk_lt l (i + 1) (m := 3) (by decide)
  generalize pk l (i + 1) 3 = k8 at *
  by_cases hk : 0 < k8
  ·obtain ⟨s, hs1, hp3⟩ := gvar l (i + 1 + 1) (by omega)
   obtain ⟨f, i2, hf, g1, g2, hs⟩ := gints l 1 (i + 1 + 1 + 1) 1 (by omega) (by omega) (by omega) (by omega)
   refine ⟨.mk 1 0 s [f], i2, .asg _ _ _ _ hs1 hf (by decide), by omega, by omega, ?_⟩
   refine gw ?_
   refine spec_of (cx_ok ord57 (fun _ => [0]) 1) (fun _ _ h => h) Tryz.func57 rfl (by kernel_rfl) rfl (by kernel_rfl) ?_
   intro hok
   conv => whnf
   refine call1 0 [] rfl rfl rfl rfl (fun _ => hp) ?_
   rintro o r ⟨ho, rfl⟩
   cases ho
   conv => whnf
   by_cases hz0 : z ≤ 0
   all_goals
    first
    | (rw [if_pos hz0] at hn; rw [decide_eq_true hz0]; (conv => whnf); refine ⟨by decide, ?_⟩; rw [show ((n0 : Int)).tmod 11 = 10 by rw [Int.tmod_eq_emod_of_nonneg (by omega)]; omega])
    | (rw [if_neg hz0] at hn; rw [decide_eq_false hz0]; (conv => whnf); rw [show (n0 : Int) = 10 by omega])
    conv => whnf
   all_goals
    refine call1 0 [] rfl rfl rfl rfl (fun _ => hp2) ?_
    rintro o r ⟨ho, rfl⟩
    cases ho
    conv => whnf
    rw [decide_eq_true (show 0 < (k8 : Int) by omega)]
    conv => whnf
    refine call1 0 [] rfl rfl rfl rfl (fun _ => hp3) ?_
    rintro o r ⟨ho, rfl⟩
    cases ho
    conv => whnf
    refine call1 0 [] rfl rfl rfl rfl (fun _ => hs) ?_
    rintro o r ⟨ho, rfl⟩
    cases ho
    conv => whnf
    exact ⟨rfl, _, rfl, by rw [ntA_one]; exact wkL_refl _⟩
  ·refine ⟨.mk 10 0 eB [], i + 2, .stp _, by omega, by omega, ?_⟩
   refine gw ?_
   refine spec_of (cx_ok ord57 (fun _ => [0]) 1) (fun _ _ h => h) Tryz.func57 rfl (by kernel_rfl) rfl (by kernel_rfl) ?_
   intro hok
   conv => whnf
   refine call1 0 [] rfl rfl rfl rfl (fun _ => hp) ?_
   rintro o r ⟨ho, rfl⟩
   cases ho
   conv => whnf
   by_cases hz0 : z ≤ 0
   all_goals
    first
    | (rw [if_pos hz0] at hn; rw [decide_eq_true hz0]; (conv => whnf); refine ⟨by decide, ?_⟩; rw [show ((n0 : Int)).tmod 11 = 10 by rw [Int.tmod_eq_emod_of_nonneg (by omega)]; omega])
    | (rw [if_neg hz0] at hn; rw [decide_eq_false hz0]; (conv => whnf); rw [show (n0 : Int) = 10 by omega])
    conv => whnf
   all_goals
    refine call1 0 [] rfl rfl rfl rfl (fun _ => hp2) ?_
    rintro o r ⟨ho, rfl⟩
    cases ho
    conv => whnf
    rw [decide_eq_false (show ¬ 0 < (k8 : Int) by omega)]
    conv => whnf
    exact ⟨rfl, _, rfl, rawN_wk (f := .mk 10 0 eB []) rfl⟩
 have hzp : 0 < z := by
  by_cases h : 0 < z
  ·exact h
  ·have := hn6 (by omega); omega
 obtain ⟨e, rfl⟩ : ∃ e, d = e + 1 := ⟨d - 1, by omega⟩
 have ihe := ih e rfl
 unfold bS at hi
 by_cases hH : n = 11
 ·subst hH
  obtain ⟨f, i2, hf, g1, g2, hs1⟩ := gbools l 1 (i + 1) 1 (by omega) (by omega) (by omega) (by omega)
  obtain ⟨k, i3, q1, q2, g3, g4, hs2⟩ := ihe i2 2 (z - 1) (by omega) (by omega) (by omega) (by omega) (by omega)
  refine ⟨.mk 3 0 eB [f, blkN k], i3, .whi _ _ _ hf q1 q2, by omega, by unfold bS; omega, ?_⟩
  refine gw ?_
  refine spec_of (cx_ok ord57 (fun _ => [0]) 1) (fun _ _ h => h) Tryz.func57 rfl (by kernel_rfl) rfl (by kernel_rfl) ?_
  intro hok
  conv => whnf
  refine call1 0 [] rfl rfl rfl rfl (fun _ => hp) ?_
  rintro o r ⟨ho, rfl⟩
  cases ho
  conv => whnf
  by_cases hz0 : z ≤ 0
  all_goals
   first
   | (rw [if_pos hz0] at hn; rw [decide_eq_true hz0]; (conv => whnf); refine ⟨by decide, ?_⟩; rw [show ((n0 : Int)).tmod 11 = 11 by rw [Int.tmod_eq_emod_of_nonneg (by omega)]; omega])
   | (rw [if_neg hz0] at hn; rw [decide_eq_false hz0]; (conv => whnf); rw [show (n0 : Int) = 11 by omega])
   conv => whnf
  ·exact absurd hz0 (by omega)
  refine call1 0 [] rfl rfl rfl rfl (fun _ => hs1) ?_
  rintro o r ⟨ho, rfl⟩
  cases ho
  conv => whnf
  refine ⟨i64r (by omega), ?_⟩
  conv => whnf
  refine call1 0 [] rfl rfl rfl rfl (fun _ => hs2) ?_
  rintro o r ⟨ho, rfl⟩
  cases ho
  conv => whnf
  exact ⟨rfl, _, rfl, by rw [ntA_two]; exact wkL_refl _⟩
 obtain ⟨f, i2, hf, g1, g2, hs1⟩ := gbools l 2 (i + 1) 2 (by omega) (by omega) (by omega) (by omega)
 obtain ⟨k, i3, q1, q2, g3, g4, hs2⟩ := ihe i2 2 (z - 1) (by omega) (by omega) (by omega) (by omega) (by omega)
 have hp2 := gpick l i3 2 (by omega) (by decide)
 have hlt2 := pk_lt l i3 (m := 2) (by decide)
 generalize pk l i3 2 = k8 at *
 by_cases hk : k8 = 1
 ·obtain ⟨m, i4, q3, q4, g5, g6, hs3⟩ := ihe (i3 + 1) 2 (z - 1) (by omega) (by omega) (by omega) (by omega) (by omega)
  refine ⟨.mk 2 0 eB [f, blkN k, blkN m], i4, .iff _ _ _ _ hf q1 q2 q3 q4, by omega, by unfold bS; omega, ?_⟩
  rcases (by omega : n = 12 ∨ n = 13) with rfl | rfl
  ·refine gw ?_
   refine spec_of (cx_ok ord57 (fun _ => [0]) 1) (fun _ _ h => h) Tryz.func57 rfl (by kernel_rfl) rfl (by kernel_rfl) ?_
   intro hok
   conv => whnf
   refine call1 0 [] rfl rfl rfl rfl (fun _ => hp) ?_
   rintro o r ⟨ho, rfl⟩
   cases ho
   conv => whnf
   by_cases hz0 : z ≤ 0
   all_goals
    first
    | (rw [if_pos hz0] at hn; rw [decide_eq_true hz0]; (conv => whnf); refine ⟨by decide, ?_⟩; rw [show ((n0 : Int)).tmod 11 = 12 by rw [Int.tmod_eq_emod_of_nonneg (by omega)]; omega])
    | (rw [if_neg hz0] at hn; rw [decide_eq_false hz0]; (conv => whnf); rw [show (n0 : Int) = 12 by omega])
    conv => whnf
   ·exact absurd hz0 (by omega)
   refine call1 0 [] rfl rfl rfl rfl (fun _ => hs1) ?_
   rintro o r ⟨ho, rfl⟩
   cases ho
   conv => whnf
   refine ⟨i64r (by omega), ?_⟩
   conv => whnf
   refine call1 0 [] rfl rfl rfl rfl (fun _ => hs2) ?_
   rintro o r ⟨ho, rfl⟩
   cases ho
   conv => whnf
   refine call1 0 [] rfl rfl rfl rfl (fun _ => hp2) ?_
   rintro o r ⟨ho, rfl⟩
   cases ho
   conv => whnf
   rw [decide_eq_true (show (k8 : Int) = 1 by omega)]
   conv => whnf
   refine ⟨i64r (by omega), ?_⟩
   conv => whnf
   refine call1 0 [] rfl rfl rfl rfl (fun _ => hs3) ?_
   rintro o r ⟨ho, rfl⟩
   cases ho
   conv => whnf
   exact ⟨rfl, _, rfl, by rw [ntA_three]; exact wkL_refl _⟩
  ·refine gw ?_
   refine spec_of (cx_ok ord57 (fun _ => [0]) 1) (fun _ _ h => h) Tryz.func57 rfl (by kernel_rfl) rfl (by kernel_rfl) ?_
   intro hok
   conv => whnf
   refine call1 0 [] rfl rfl rfl rfl (fun _ => hp) ?_
   rintro o r ⟨ho, rfl⟩
   cases ho
   conv => whnf
   by_cases hz0 : z ≤ 0
   all_goals
    first
    | (rw [if_pos hz0] at hn; rw [decide_eq_true hz0]; (conv => whnf); refine ⟨by decide, ?_⟩; rw [show ((n0 : Int)).tmod 11 = 13 by rw [Int.tmod_eq_emod_of_nonneg (by omega)]; omega])
    | (rw [if_neg hz0] at hn; rw [decide_eq_false hz0]; (conv => whnf); rw [show (n0 : Int) = 13 by omega])
    conv => whnf
   ·exact absurd hz0 (by omega)
   refine call1 0 [] rfl rfl rfl rfl (fun _ => hs1) ?_
   rintro o r ⟨ho, rfl⟩
   cases ho
   conv => whnf
   refine ⟨i64r (by omega), ?_⟩
   conv => whnf
   refine call1 0 [] rfl rfl rfl rfl (fun _ => hs2) ?_
   rintro o r ⟨ho, rfl⟩
   cases ho
   conv => whnf
   refine call1 0 [] rfl rfl rfl rfl (fun _ => hp2) ?_
   rintro o r ⟨ho, rfl⟩
   cases ho
   conv => whnf
   rw [decide_eq_true (show (k8 : Int) = 1 by omega)]
   conv => whnf
   refine ⟨i64r (by omega), ?_⟩
   conv => whnf
   refine call1 0 [] rfl rfl rfl rfl (fun _ => hs3) ?_
   rintro o r ⟨ho, rfl⟩
   cases ho
   conv => whnf
   exact ⟨rfl, _, rfl, by rw [ntA_three]; exact wkL_refl _⟩
 ·refine ⟨.mk 2 0 eB [f, blkN k, blkN []], i3 + 1, .iff _ _ _ _ hf q1 q2 (by decide) (by simp), by omega, by unfold bS; omega, ?_⟩
  rcases (by omega : n = 12 ∨ n = 13) with rfl | rfl
  ·refine gw ?_
   refine spec_of (cx_ok ord57 (fun _ => [0]) 1) (fun _ _ h => h) Tryz.func57 rfl (by kernel_rfl) rfl (by kernel_rfl) ?_
   intro hok
   conv => whnf
   refine call1 0 [] rfl rfl rfl rfl (fun _ => hp) ?_
   rintro o r ⟨ho, rfl⟩
   cases ho
   conv => whnf
   by_cases hz0 : z ≤ 0
   all_goals
    first
    | (rw [if_pos hz0] at hn; rw [decide_eq_true hz0]; (conv => whnf); refine ⟨by decide, ?_⟩; rw [show ((n0 : Int)).tmod 11 = 12 by rw [Int.tmod_eq_emod_of_nonneg (by omega)]; omega])
    | (rw [if_neg hz0] at hn; rw [decide_eq_false hz0]; (conv => whnf); rw [show (n0 : Int) = 12 by omega])
    conv => whnf
   ·exact absurd hz0 (by omega)
   refine call1 0 [] rfl rfl rfl rfl (fun _ => hs1) ?_
   rintro o r ⟨ho, rfl⟩
   cases ho
   conv => whnf
   refine ⟨i64r (by omega), ?_⟩
   conv => whnf
   refine call1 0 [] rfl rfl rfl rfl (fun _ => hs2) ?_
   rintro o r ⟨ho, rfl⟩
   cases ho
   conv => whnf
   refine call1 0 [] rfl rfl rfl rfl (fun _ => hp2) ?_
   rintro o r ⟨ho, rfl⟩
   cases ho
   conv => whnf
   rw [decide_eq_false (show ¬ (k8 : Int) = 1 by omega)]
   conv => whnf
   exact ⟨rfl, _, rfl, by rw [ntA_three]; exact wk_if f (blkN k)⟩
  ·refine gw ?_
   refine spec_of (cx_ok ord57 (fun _ => [0]) 1) (fun _ _ h => h) Tryz.func57 rfl (by kernel_rfl) rfl (by kernel_rfl) ?_
   intro hok
   conv => whnf
   refine call1 0 [] rfl rfl rfl rfl (fun _ => hp) ?_
   rintro o r ⟨ho, rfl⟩
   cases ho
   conv => whnf
   by_cases hz0 : z ≤ 0
   all_goals
    first
    | (rw [if_pos hz0] at hn; rw [decide_eq_true hz0]; (conv => whnf); refine ⟨by decide, ?_⟩; rw [show ((n0 : Int)).tmod 11 = 13 by rw [Int.tmod_eq_emod_of_nonneg (by omega)]; omega])
    | (rw [if_neg hz0] at hn; rw [decide_eq_false hz0]; (conv => whnf); rw [show (n0 : Int) = 13 by omega])
    conv => whnf
   ·exact absurd hz0 (by omega)
   refine call1 0 [] rfl rfl rfl rfl (fun _ => hs1) ?_
   rintro o r ⟨ho, rfl⟩
   cases ho
   conv => whnf
   refine ⟨i64r (by omega), ?_⟩
   conv => whnf
   refine call1 0 [] rfl rfl rfl rfl (fun _ => hs2) ?_
   rintro o r ⟨ho, rfl⟩
   cases ho
   conv => whnf
   refine call1 0 [] rfl rfl rfl rfl (fun _ => hp2) ?_
   rintro o r ⟨ho, rfl⟩
   cases ho
   conv => whnf
   rw [decide_eq_false (show ¬ (k8 : Int) = 1 by omega)]
   conv => whnf
   exact ⟨rfl, _, rfl, by rw [ntA_three]; exact wk_if f (blkN k)⟩
end Go.Proofs.YtmodkpibkkpcdaaGreatDoor.Vm
namespace Go.Proofs.YtmodkpibkkpcdaaGreatDoor.Vm
open Go.RowKit Go.Shelf
set_option linter.unusedSimpArgs false
set_option linter.unusedVariables false
set_option maxRecDepth 100000
inductive Chn (l : List Int) (z : Int) : Nat → List Nt → Nat → Prop
 | nil (i : Nat) : Chn l z i [] i
 | cons (i i1 i2 : Nat) (f : Nt) (ss : List Nt) (h : Spec Tryz.prog 57 [bxG l i] [.box 0 0, .v (.int .i64 z)] fun o r => o = [bxG l i1] ∧ r = .agg (ntA f)) (k : Chn l z i1 ss i2) : Chn l z i (f :: ss) i2
theorem chn_ex {l : List Int} {d : Nat} (hS : GenS l d) {z : Int} (hz : z.toNat = d) (h1 : 0 ≤ z) (h2 : z ≤ 5) : ∀ (k i : Nat), i + k * bS d ≤ 1000000000 → ∃ ss i', ss.length = k ∧ (∀ s ∈ ss, ES d s) ∧ i ≤ i' ∧ i' ≤ i + k * bS d ∧ Chn l z i ss i'
 | 0, i, _ => ⟨[], i, rfl, by simp, Nat.le_refl _, by omega, .nil i⟩
 | k + 1, i, hb => by
  rw [Nat.succ_mul] at hb
  obtain ⟨f, i1, hf, g1, g2, hs⟩ := hS i z hz h1 h2 (by omega)
  obtain ⟨ss, i2, e1, e2, g3, g4, hc⟩ := chn_ex hS hz h1 h2 k i1 (by omega)
  refine ⟨f :: ss, i2, by rw [List.length_cons, e1], fun s hs => ?_, by omega, by rw [Nat.succ_mul]; omega, .cons _ _ _ _ _ hs hc⟩
  rcases List.mem_cons.1 hs with rfl | hs
  ·exact hf
  ·exact e2 s hs
set_option maxHeartbeats 1000000 in
theorem gblk (l : List Int) (d : Nat) (hS : GenS l d) : GenK l d := fun i m z hz h1 h2 hm hi => by
 have hp := gpick l i (m + 1) (by omega) (by omega)
 have hlt := pk_lt l i (m := m + 1) (by omega)
 generalize pk l i (m + 1) = k at *
 have hkm : k * bS d ≤ m * bS d := Nat.mul_le_mul_right _ (by omega)
 obtain ⟨ss, i2, e1, e2, g3, g4, hc⟩ := chn_ex hS hz h1 h2 k (i + 1) (by omega)
 refine ⟨ss, i2, by omega, e2, by omega, by omega, ?_⟩
 refine spec_of (cx_ok ord37 (fun _ => [0]) 1) (fun _ _ h => h) Tryz.func37 rfl (by kernel_rfl) rfl (by kernel_rfl) ?_
 intro hok
 conv => whnf
 refine ⟨i64r (by omega), ?_⟩
 conv => whnf
 refine call1 0 [] rfl rfl rfl rfl (fun _ => hp) ?_
 rintro o r ⟨ho, rfl⟩
 cases ho
 conv => whnf
 refine loop_row 41 4 [] [(2, 3)] ?_
 conv => whnf
 refine ⟨trivial, ?_⟩
 conv => whnf
 refine loop_keep [0, 1, 6, 7] ?_
 conv => whnf
 refine loop_go (fun x : List Nt × List Nt × Nat => [(8, .v (.int .i64 x.2.1.length))]) (fun x => [bxG l x.2.2, zero4, [intA 11, intA 0, strA ⟨#[]⟩, .own 0]]) (fun x => [.live 41 4 x.1.length (ntsA x.1)]) (fun x => x.1 ++ x.2.1 = ss ∧ Chn l z x.2.2 x.2.1 i2) (fun x => x.2.1.length) ([], ss, i + 1) ?_ ⟨rfl, hc⟩ ?_
 ·rw [← e1]
  repeat' constructor
  show Row.live _ _ _ _ = Row.live _ 4 0 (ntsA [])
  rw [ntsA_nil]
 rintro ⟨acc, rem, j⟩ ⟨hacc, hch⟩
 simp only at hacc hch
 conv => whnf
 cases hch with
 | nil =>
  rw [List.append_nil] at hacc
  conv => whnf
  rw [← hacc]
  exact ⟨rfl, rfl⟩
 | cons _ i1 _ f rem hs hch =>
  have hln : acc.length + (rem.length + 1) = ss.length := by rw [← hacc, List.length_append, List.length_cons]
  rw [show ((f :: rem).length : Int) = (rem.length : Int) + 1 by simp]
  rw [decide_eq_true (show 0 < (rem.length : Int) + 1 by omega)]
  conv => whnf
  refine call1 0 [] rfl rfl rfl rfl (fun _ => hs) ?_
  rintro o r ⟨ho, rfl⟩
  cases ho
  conv => whnf
  refine ⟨⟨by simp only; unfold maxLen; omega, by simp only; omega⟩, ?_⟩
  conv => whnf
  refine ⟨i64r (by omega), ?_⟩
  rw [show (rem.length : Int) + 1 - 1 = rem.length by omega]
  conv => whnf
  refine ⟨(acc ++ [f], rem, i1), le_selH [0] ?_, ⟨by simp only; rw [List.append_assoc]; exact hacc, hch⟩, by simp only [List.length_cons]; omega⟩
  conv => whnf
  simp only [List.length_append, List.length_cons, List.length_nil]
  rw [ntsA_snoc]
  repeat' constructor
end Go.Proofs.YtmodkpibkkpcdaaGreatDoor.Vm
namespace Go.Proofs.YtmodkpibkkpcdaaGreatDoor.Vm
open Go.RowKit Go.Shelf
set_option linter.unusedSimpArgs false
set_option linter.unusedVariables false
set_option maxRecDepth 100000
theorem rInts (l : List Int) (most : Nat) (hm : most ≤ 1000) : Spec Tryz.prog 35 [] [.sl 1 l.length (intsA l), .v (.int .i64 most)] fun _ r => r = .sl 1 (l.take most).length (intsA (l.take most)) := by
 refine spec_of (cx_ok ord0 xs0 0) (fun _ _ h => h) Tryz.func35 rfl (by kernel_rfl) rfl (by kernel_rfl) ?_
 intro hok
 have e1 : (min (l.length : Int) (most : Int)).toNat - Int.toNat 0 = (l.take most).length := by rw [List.length_take]; omega
 have e2 : List.take ((l.take most).length * 1) (List.drop (Int.toNat 0 * 1) (intsA l)) = intsA (l.take most) := by
  rw [Nat.mul_one, List.length_take]
  simp only [intsA, Int.toNat_zero, Nat.zero_mul, List.drop_zero]
  rw [← List.map_take]
  congr 1
  rcases Nat.le_total most l.length with h | h
  ·rw [Nat.min_eq_left h]
  ·rw [Nat.min_eq_right h, List.take_of_length_le h, List.take_of_length_le (Nat.le_refl _)]
 have e3 : (l.take most).length ≤ most := by rw [List.length_take]; omega
 conv => whnf
 (refine goA ?_; try with_reducible exact trivial)
 rw [e1, e2]
 generalize l.take most = L at *
 refine ⟨⟨by unfold maxLen; omega, by omega⟩, ?_⟩
 conv => whnf
 rfl
theorem gall (l : List Int) : ∀ d, GenS l d ∧ GenK l d
 | 0 => ⟨gstm l 0 fun e h => by omega, gblk l 0 (gstm l 0 fun e h => by omega)⟩
 | d + 1 => by
  have h1 : GenS l (d + 1) := gstm l (d + 1) fun e h => by
   obtain rfl : d = e := by omega
   exact (gall l d).2
  exact ⟨h1, gblk l (d + 1) h1⟩
def hnG (l : List Int) (j i : Nat) : Int := match j with
 | 0 => 0
 | 1 => 1
 | 2 => 2 + pk l (i + 1) 8
 | _ => 10 + pk l (i + 1 + 1) 30
inductive PCh (l : List Int) : Nat → Nat → List (Int × Nt) → Prop
 | nil (i : Nat) : PCh l 4 i []
 | skip (j i : Nat) (hs : List (Int × Nt)) (hj : j < 4) (hi : i ≤ 900000000) (hp : pk l i 5 = 0) (k : PCh l (j + 1) (i + 1) hs) : PCh l j i hs
 | take (j i i2 : Nat) (b : Nt) (hs : List (Int × Nt)) (hj : j < 4) (hi : i ≤ 900000000) (hp : 0 < pk l i 5) (h : Spec Tryz.prog 37 [bxG l (i + 1 + 1 + 1)] [.box 0 0, .v (.int .i64 2), .v (.int .i64 3)] fun o r => o = [bxG l i2] ∧ r = .agg (ntA b)) (k : PCh l (j + 1) i2 hs) : PCh l j i ((hnG l j i, b) :: hs)
def EK (b : Nt) : Prop := ∃ k, b = blkN k ∧ k.length ≤ 3 ∧ ∀ s ∈ k, ES 2 s
def loG : Nat → Int
 | 0 => 0
 | 1 => 1
 | 2 => 2
 | 3 => 10
 | _ => 40
def EHs (j : Nat) (hs : List (Int × Nt)) : Prop := (∀ h ∈ hs, loG j ≤ h.1 ∧ h.1 < 40 ∧ EK h.2) ∧ hs.Pairwise (fun a b => a.1 < b.1) ∧ hs.length + j ≤ 4
theorem pch_ex (l : List Int) : ∀ (k j i : Nat), j + k = 4 → i + k * 5000 ≤ 800000000 → ∃ hs, EHs j hs ∧ PCh l j i hs
 | 0, j, i, hj, hb => by
  obtain rfl : j = 4 := by omega
  exact ⟨[], ⟨by simp, .nil, by decide⟩, .nil i⟩
 | k + 1, j, i, hj, hb => by
  rw [Nat.succ_mul] at hb
  have hjs : j = 0 ∨ j = 1 ∨ j = 2 ∨ j = 3 := by omega
  have hlo : loG j ≤ loG (j + 1) := by rcases hjs with rfl | rfl | rfl | rfl <;> decide
  by_cases hp : pk l i 5 = 0
  ·obtain ⟨hs, ⟨e1, e2, e3⟩, hc⟩ := pch_ex l k (j + 1) (i + 1) (by omega) (by omega)
   exact ⟨hs, ⟨fun h hh => ⟨by have := (e1 h hh).1; omega, (e1 h hh).2⟩, e2, by omega⟩, .skip _ _ _ (by omega) (by omega) hp hc⟩
  ·have hS : bS 2 = 1270 := rfl
   obtain ⟨b, i2, q1, q2, g1, g2, hs⟩ := (gall l 2).2 (i + 1 + 1 + 1) 3 2 rfl (by decide) (by decide) (by decide) (by omega)
   obtain ⟨hs2, ⟨e1, e2, e3⟩, hc⟩ := pch_ex l k (j + 1) i2 (by omega) (by omega)
   have hn : loG j ≤ hnG l j i ∧ hnG l j i < loG (j + 1) := by
    have p8 := pk_lt l (i + 1) (m := 8) (by decide)
    have p30 := pk_lt l (i + 1 + 1) (m := 30) (by decide)
    rcases hjs with rfl | rfl | rfl | rfl <;> simp only [loG, hnG] <;> omega
   have hl4 : loG (j + 1) ≤ 40 := by rcases hjs with rfl | rfl | rfl | rfl <;> decide
   refine ⟨_, ⟨fun h hh => ?_, List.pairwise_cons.2 ⟨fun b hb => ?_, e2⟩, by rw [List.length_cons]; omega⟩, .take j i i2 (blkN b) hs2 (by omega) (by omega) (by omega) hs hc⟩
   ·rcases List.mem_cons.1 hh with rfl | hh
    ·exact ⟨hn.1, by simp only; omega, b, rfl, q1, q2⟩
    ·exact ⟨by have := (e1 h hh).1; omega, (e1 h hh).2⟩
   ·have := (e1 b hb).1
    simp only; omega
def duL : List ByteArray := [⟨#[100]⟩, ⟨#[100, 100, 49]⟩]
def voL : List ByteArray := [⟨#[118]⟩, ⟨#[119, 50]⟩]
def GU (u : Ut) : Prop := u.du = duL ∧ u.vo = voL ∧ EHs 0 u.on
set_option maxHeartbeats 1000000 in
theorem gprog (l : List Int) : ∃ u, GU u ∧ Spec Tryz.prog 13 [] [.sl 1 l.length (intsA l)] fun _ r => r = .agg (utA u) := by
 have hin := rInts l 70 (by decide)
 obtain ⟨hs, hE, hc⟩ := pch_ex (l.take 70) 4 0 0 rfl (by decide)
 refine ⟨⟨duL, voL, hs⟩, ⟨rfl, rfl, hE⟩, ?_⟩
 have hlen := hE.2.2
 generalize l.take 70 = L at *
 refine spec_of (cx_ok ord13 (fun _ => [1]) 0) (fun _ _ h => h) Tryz.func13 rfl (by kernel_rfl) rfl (by kernel_rfl) ?_
 intro hok
 conv => whnf
 refine call0 [] rfl (fun _ => hin) ?_
 rintro r rfl
 conv => whnf
 refine loop_row 59 5 [] [(2, 2)] ?_
 conv => whnf
 refine ⟨trivial, ?_⟩
 conv => whnf
 refine loop_keep [2, 3, 4] ?_
 conv => whnf
 refine loop_go (fun x : Nat × Nat × List (Int × Nt) × List (Int × Nt) => [(5, .v (.int .i64 x.1))]) (fun x => [zero3, bxG L x.2.1, [.own 0, .own 1, .own 2]]) (fun x => [.live 9 1 2 (txA duL), .live 9 1 2 (txA voL), .live 59 5 x.2.2.1.length (hnsA x.2.2.1)]) (fun x => x.2.2.1 ++ x.2.2.2 = hs ∧ PCh L x.1 x.2.1 x.2.2.2) (fun x => 4 - x.1) (0, 0, [], hs) ?_ ⟨rfl, hc⟩ ?_
 ·repeat' constructor
  show Row.live _ _ _ _ = Row.live _ 5 0 (hnsA [])
  rw [hnsA_nil]
 rintro ⟨j, i, acc, rem⟩ ⟨hacc, hch⟩
 simp only at hacc hch
 have hal : acc.length ≤ 4 := by
  have := congrArg List.length hacc
  rw [List.length_append] at this
  omega
 clear hin hc
 conv => whnf
 cases hch with
 | nil =>
  conv => whnf
  rw [List.append_nil] at hacc
  rw [← hacc]
  rfl
 | skip _ _ _ hj hi hp hch =>
  have hpk := gpick L i 5 (by omega) (by decide)
  rw [hp] at hpk
  rw [decide_eq_true (show (j : Int) < 4 by omega)]
  conv => whnf
  refine call1 1 [] rfl rfl rfl rfl (fun _ => hpk) ?_
  rintro o r ⟨ho, rfl⟩
  cases ho
  conv => whnf
  refine ⟨i64r (by omega), ?_⟩
  conv => whnf
  refine ⟨(j + 1, i + 1, acc, rem), le_selH [0, 1, 2] ?_, ⟨hacc, hch⟩, by simp only; omega⟩
  conv => whnf
  repeat' constructor
 | take _ _ i2 b rem hj hi hp hs hch =>
  have hpk := gpick L i 5 (by omega) (by decide)
  have hp8 := gpick L (i + 1) 8 (by omega) (by decide)
  have hp30 := gpick L (i + 1 + 1) 30 (by omega) (by decide)
  have l8 := pk_lt L (i + 1) (m := 8) (by decide)
  have l30 := pk_lt L (i + 1 + 1) (m := 30) (by decide)
  obtain ⟨nn, hnn⟩ : ∃ nn, hnG L j i = nn := ⟨_, rfl⟩
  rw [hnn] at hacc
  unfold hnG at hnn
  generalize pk L i 5 = k5 at *
  generalize pk L (i + 1) 8 = k8 at *
  generalize pk L (i + 1 + 1) 30 = k30 at *
  rw [decide_eq_true (show (j : Int) < 4 by omega)]
  conv => whnf
  refine call1 1 [] rfl rfl rfl rfl (fun _ => hpk) ?_
  rintro o r ⟨ho, rfl⟩
  cases ho
  conv => whnf
  rw [decide_eq_true (show 0 < (k5 : Int) by omega)]
  conv => whnf
  refine call1 1 [] rfl rfl rfl rfl (fun _ => hp8) ?_
  rintro o r ⟨ho, rfl⟩
  cases ho
  conv => whnf
  refine ⟨i64r (by omega), ?_⟩
  conv => whnf
  refine call1 1 [] rfl rfl rfl rfl (fun _ => hp30) ?_
  rintro o r ⟨ho, rfl⟩
  cases ho
  conv => whnf
  refine ⟨i64r (by omega), ?_⟩
  conv => whnf
  refine ⟨⟨by omega, by omega⟩, ?_⟩
  rcases (by omega : j = 0 ∨ j = 1 ∨ j = 2 ∨ j = 3) with rfl | rfl | rfl | rfl
  all_goals
   simp only at hnn
   conv => whnf
   refine call1 1 [] rfl rfl rfl rfl (fun _ => hs) ?_
   rintro o r ⟨ho, rfl⟩
   cases ho
   conv => whnf
   refine ⟨⟨by simp only; unfold maxLen; omega, by simp only; omega⟩, ?_⟩
   conv => whnf
   refine ⟨i64r (by simp only; omega), ?_⟩
   conv => whnf
   subst hnn
   refine ⟨(_, i2, acc ++ [(_, b)], rem), le_selH [0, 1, 2] ?_, ⟨by simp only; rw [List.append_assoc]; exact hacc, hch⟩, by simp only; omega⟩
   conv => whnf
   repeat' constructor
   rw [List.length_append, hnsA_snoc]
   rfl
end Go.Proofs.YtmodkpibkkpcdaaGreatDoor.Vm
namespace Go.Proofs.YtmodkpibkkpcdaaGreatDoor.Vm
open Go.RowKit Go.Shelf
set_option linter.unusedSimpArgs false
set_option linter.unusedVariables false
set_option maxRecDepth 100000
def decD (n : Nat) : List UInt8 := if h : n = 0 then [] else decD (n / 10) ++ [UInt8.ofNat (48 + n % 10)]
decreasing_by omega
theorem decD_zero : decD 0 = [] := by unfold decD; simp
theorem decD_pos {n : Nat} (h : n ≠ 0) : decD n = decD (n / 10) ++ [UInt8.ofNat (48 + n % 10)] := by
 rw [decD]; simp [h]
def decS (n : Nat) : List UInt8 := if n = 0 then [48] else decD n
theorem decD_len : ∀ (k n : Nat), n < 10 ^ k → (decD n).length ≤ k
 | k, 0, _ => by rw [decD_zero]; simp
 | 0, n + 1, h => by simp at h
 | k + 1, n + 1, h => by
  rw [decD_pos (by omega), List.length_append]
  have := decD_len k ((n + 1) / 10) (by rw [Nat.pow_succ] at h; omega)
  simp only [List.length_cons, List.length_nil]; omega
def digB : ByteArray := ⟨#[48, 49, 50, 51, 52, 53, 54, 55, 56, 57]⟩
theorem dig_cut (k : Nat) (i j : Nat) (hi : i = k % 10) (hj : j = k % 10 + 1) : digB.extract i j = bs [UInt8.ofNat (48 + k % 10)] := by
 subst hi; subst hj
 have h : ∀ d, d < 10 → digB.extract d (d + 1) = bs [UInt8.ofNat (48 + d)] := by decide +kernel
 exact h _ (Nat.mod_lt _ (by omega))
theorem bs_app (a b : List UInt8) : bs a ++ bs b = bs (a ++ b) := by
 apply ByteArray.ext
 apply Array.toList_inj.1
 simp [bs]
theorem decimal_spec (n : Nat) (hn : n < 1000000000000) : Spec Tryz.prog 21 [] [.v (.int .i64 n)] fun _ r => r = strA (bs (decS n)) := by
 have hlen := decD_len 12 n hn
 refine spec_of (cx_ok ord0 xs0 0) (fun _ _ h => h) Tryz.func21 rfl (by kernel_rfl) rfl (by kernel_rfl) ?_
 intro hok
 conv => whnf
 by_cases h0 : n = 0
 ·subst h0
  (refine goA ?_; try with_reducible exact trivial)
  rfl
 ·(refine goA ?_; try with_reducible exact trivial)
  refine loop_keep [0, 3] ?_
  conv => whnf
  refine loop_go (fun x : Nat × List UInt8 => [(4, .v (.string (bs x.2))), (5, .v (.int .i64 x.1))]) (fun _ => []) (fun _ => []) (fun x => x.1 ≤ n ∧ decD x.1 ++ x.2 = decD n ∧ x.2.length ≤ 12) (fun x => x.1) (n, []) ?_ ⟨Nat.le_refl _, by simp, by simp⟩ ?_
  ·repeat' constructor
  ·rintro ⟨k, l⟩ ⟨hk, hd, hl⟩
   simp only at hk hd hl
   have hll : (decD k).length + l.length ≤ 12 := by
    have := congrArg List.length hd
    rw [List.length_append] at this; omega
   conv => whnf
   by_cases hk0 : k = 0
   ·subst hk0
    rw [decD_zero, List.nil_append] at hd
    (refine goA ?_; try with_reducible exact trivial)
    have : decS n = l := by unfold decS; rw [if_neg h0, hd]
    rw [this]; rfl
   ·have hm : (((k, l).1 : Nat) : Int).tmod 10 = ((k % 10 : Nat) : Int) := by
     show ((k : Int)).tmod 10 = _
     rw [Int.tmod_eq_emod_of_nonneg (by omega)]; omega
    have hq : (((k, l).1 : Nat) : Int).tdiv 10 = ((k / 10 : Nat) : Int) := by
     show ((k : Int)).tdiv 10 = _
     rw [Int.tdiv_eq_ediv_of_nonneg (by omega)]; omega
    (refine goA ?_; try with_reducible exact trivial)
    rw [hm]
    conv => whnf
    (refine goA ?_; try with_reducible exact trivial)
    refine ⟨⟨by omega, by omega, by show _ ≤ (10 : Int); omega⟩, ?_⟩
    rw [show (⟨#[48, 49, 50, 51, 52, 53, 54, 55, 56, 57]⟩ : ByteArray).extract (Int.toNat ((k % 10 : Nat) : Int)) (Int.toNat (((k % 10 : Nat) : Int) + 1)) = bs [UInt8.ofNat (48 + k % 10)] from dig_cut k _ _ (by omega) (by omega)]
    conv => whnf
    refine ⟨by rw [bs_size, bs_size]; show 1 + l.length ≤ maxLen; unfold maxLen; omega, ?_⟩
    rw [show bs [UInt8.ofNat (48 + k % 10)] ++ bs ((k, l).2) = bs (UInt8.ofNat (48 + k % 10) :: l) from bs_app _ _]
    conv => whnf
    (refine goA ?_; try with_reducible exact trivial)
    rw [hq]
    have hd2 : decD (k / 10) ++ UInt8.ofNat (48 + k % 10) :: l = decD n := by
     rw [← hd, decD_pos hk0]; simp
    repeat ((with_reducible refine And.intro ?_ ?_); (focus (first | omega | (with_reducible refine i64r ?_; (first | omega | (simp only [List.length_append, List.length_cons, List.length_nil, List.length_map, ByteArray.size_append]; omega) | (dsimp only; omega))) | (with_reducible refine max_le ?_; (first | omega | (simp only [List.length_append, List.length_cons, List.length_nil, List.length_map, ByteArray.size_append]; omega) | (dsimp only; omega))) | ((fail_if_success (with_reducible refine max_le ?_)); decide) | (simp only [List.length_append, List.length_cons, List.length_nil, List.length_map, ByteArray.size_append]; omega) | (dsimp only; omega) | ((with_reducible refine i64r ?_); dsimp only; omega))); (conv => whnf))
    refine ⟨(k / 10, UInt8.ofNat (48 + k % 10) :: l), le_head ?_, ⟨by show k / 10 ≤ n; omega, hd2, ?_⟩, by show k / 10 < k; omega⟩
    ·repeat' constructor
    ·have := congrArg List.length hd2
     rw [List.length_append] at this
     show (UInt8.ofNat (48 + k % 10) :: l).length ≤ 12
     omega
theorem decS_size (n : Nat) (hn : n < 1000000000000) : (bs (decS n)).size ≤ 12 := by
 rw [bs_size]
 unfold decS
 split
 ·decide
 ·exact decD_len 12 n hn
theorem szD (l : Array UInt8) : (⟨l⟩ : ByteArray).size = l.size := rfl
end Go.Proofs.YtmodkpibkkpcdaaGreatDoor.Vm
namespace Go.Proofs.YtmodkpibkkpcdaaGreatDoor.Vm
open Go.RowKit Go.Shelf
set_option linter.unusedSimpArgs false
set_option linter.unusedVariables false
set_option maxRecDepth 100000
theorem letter6_spec (c : UInt8) : Spec Tryz.prog 56 [] [.v (.int .u8 (c.toNat : Int))] fun _ r => r = boolA (isLD c) := by
 have hm : 0 ≤ (c.toNat : Int) ∧ (c.toNat : Int) ≤ 255 := by have := c.toNat_lt; omega
 unfold isLD isL isD
 generalize (c.toNat : Int) = n at *
 refine spec_of (cx_ok ord0 xs0 0) (fun _ _ h => h) Tryz.func56 rfl (by kernel_rfl) rfl (by kernel_rfl) ?_
 intro _
 conv => whnf
 by_cases h1 : 97 ≤ n
 ·rw [decide_eq_true h1]
  conv => whnf
  by_cases h2 : n ≤ 122
  ·rw [decide_eq_true h2]
   conv => whnf
   rfl
  ·rw [decide_eq_false h2]
   conv => whnf
   rw [decide_eq_true (show 48 ≤ n by omega)]
   conv => whnf
   rw [decide_eq_false (show ¬ n ≤ 57 by omega)]
   conv => whnf
   rfl
 ·rw [decide_eq_false h1]
  conv => whnf
  by_cases h3 : 48 ≤ n
  ·rw [decide_eq_true h3]
   conv => whnf
   rcases Decidable.em (n ≤ 57) with h4 | h4
   ·rw [decide_eq_true h4]
    conv => whnf
    rfl
   ·rw [decide_eq_false h4]
    conv => whnf
    rfl
  ·rw [decide_eq_false h3]
   conv => whnf
   rfl
def lastB (a : ByteArray) : UInt8 := a.data.toList.getD (a.size - 1) 0
def firstB (a : ByteArray) : UInt8 := a.data.toList.getD 0 0
def glueF (a b : ByteArray) : ByteArray := if a = ⟨#[]⟩ then a ++ b else if b = ⟨#[]⟩ then a ++ b else if isLD (lastB a) = false then a ++ b else if isLD (firstB b) = false then a ++ b else a ++ ⟨#[32]⟩ ++ b
theorem size_ne {a : ByteArray} (h : a ≠ ⟨#[]⟩) : 0 < a.size := by
 refine Nat.pos_of_ne_zero fun h0 => h ?_
 apply ByteArray.ext
 exact Array.eq_empty_of_size_eq_zero h0
theorem glue_spec (a b : ByteArray) (ha : a.size ≤ 500000000) (hb : b.size ≤ 400000000) : Spec Tryz.prog 34 [] [strA a, strA b] fun _ r => r = strA (glueF a b) := by
 have h1 := letter6_spec (lastB a)
 have h2 := letter6_spec (firstB b)
 unfold glueF
 refine spec_of (cx_ok ord0 xs0 0) (fun _ _ h => h) Tryz.func34 rfl (by kernel_rfl) rfl (by kernel_rfl) ?_
 intro _
 conv => whnf
 by_cases ea : a = ⟨#[]⟩
 ·rw [decide_eq_true ea, if_pos ea]
  conv => whnf
  refine ⟨by show a.size + b.size ≤ maxLen; unfold maxLen; omega, ?_⟩
  conv => whnf
  rfl
 ·rw [decide_eq_false ea, if_neg ea]
  conv => whnf
  by_cases eb : b = ⟨#[]⟩
  ·rw [decide_eq_true eb, if_pos eb]
   conv => whnf
   refine ⟨by show a.size + b.size ≤ maxLen; unfold maxLen; omega, ?_⟩
   conv => whnf
   rfl
  ·rw [decide_eq_false eb, if_neg eb]
   have sa := size_ne ea
   have sb := size_ne eb
   conv => whnf
   refine ⟨i64r (by omega), ?_⟩
   conv => whnf
   refine ⟨⟨by omega, by omega⟩, ?_⟩
   rw [show a.data.toList.getD (Int.toNat ((a.size : Int) - 1)) 0 = lastB a from by unfold lastB; congr 1; omega]
   generalize isLD (lastB a) = p at *
   (refine call0 [] rfl (fun _ => h1) ?_; rintro r rfl; conv => whnf)
   cases p
   ·rw [if_pos rfl]
    conv => whnf
    refine ⟨by show a.size + b.size ≤ maxLen; unfold maxLen; omega, ?_⟩
    conv => whnf
    rfl
   ·rw [if_neg (by decide)]
    conv => whnf
    refine ⟨⟨by omega, by omega⟩, ?_⟩
    rw [show b.data.toList.getD (Int.toNat 0) 0 = firstB b from rfl]
    generalize isLD (firstB b) = q at *
    (refine call0 [] rfl (fun _ => h2) ?_; rintro r rfl; conv => whnf)
    cases q
    ·rw [if_pos rfl]
     conv => whnf
     refine ⟨by show a.size + b.size ≤ maxLen; unfold maxLen; omega, ?_⟩
     conv => whnf
     rfl
    ·rw [if_neg (by decide)]
     conv => whnf
     refine ⟨by show a.size + 1 ≤ maxLen; unfold maxLen; omega, ?_⟩
     conv => whnf
     refine ⟨by rw [ByteArray.size_append]; show a.size + 1 + b.size ≤ maxLen; unfold maxLen; omega, ?_⟩
     conv => whnf
     rfl
theorem glue_size (a b : ByteArray) : (glueF a b).size ≤ a.size + b.size + 1 := by
 have h : (⟨#[32]⟩ : ByteArray).size = 1 := rfl
 unfold glueF
 repeat' split
 all_goals (simp only [ByteArray.size_append]; omega)
def tsz (l : List ByteArray) : Nat := (l.map fun x => x.size + 1).sum
def allF (l : List ByteArray) : ByteArray := l.foldl glueF ⟨#[]⟩
theorem tsz_cons (x : ByteArray) (l : List ByteArray) : tsz (x :: l) = (x.size + 1) + tsz l := by unfold tsz; simp
theorem tsz_snoc (l : List ByteArray) (x : ByteArray) : tsz (l ++ [x]) = tsz l + (x.size + 1) := by unfold tsz; simp
theorem allF_snoc (l : List ByteArray) (x : ByteArray) : allF (l ++ [x]) = glueF (allF l) x := by unfold allF; rw [List.foldl_append]; rfl
theorem tsz_take (l : List ByteArray) (j : Nat) : tsz (l.take j) ≤ tsz l := by
 have : tsz l = tsz (l.take j) + tsz (l.drop j) := by
  unfold tsz
  rw [← List.sum_append, ← List.map_append, List.take_append_drop]
 omega
theorem tsz_mem {l : List ByteArray} {x : ByteArray} (h : x ∈ l) : x.size + 1 ≤ tsz l := by
 induction l with
 | nil => cases h
 | cons y l ih =>
  rw [tsz_cons]
  rcases List.mem_cons.1 h with rfl | h
  ·omega
  ·have := ih h; omega
theorem tsz_len (l : List ByteArray) : l.length ≤ tsz l := by
 induction l with
 | nil => exact Nat.zero_le _
 | cons x l ih => rw [tsz_cons, List.length_cons]; omega
theorem allF_take (l : List ByteArray) : ∀ j, j ≤ l.length → (allF (l.take j)).size ≤ tsz (l.take j)
 | 0, _ => by rw [List.take_zero]; exact Nat.zero_le _
 | j + 1, h => by
  have ih := allF_take l j (by omega)
  rw [List.take_succ_eq_append_getElem (by omega), allF_snoc, tsz_snoc]
  have := glue_size (allF (l.take j)) (l[j]'(by omega))
  omega
theorem allF_size (l : List ByteArray) : (allF l).size ≤ tsz l := by
 have := allF_take l l.length (Nat.le_refl _)
 rwa [List.take_length] at this
theorem all_spec (l : List ByteArray) (h : tsz l ≤ 300000000) : Spec Tryz.prog 54 [] [.sl 1 l.length (strsA l)] fun _ r => r = strA (allF l) := by
 have hln := tsz_len l
 refine spec_of (cx_ok ord0 xs0 0) (fun _ _ h => h) Tryz.func54 rfl (by kernel_rfl) rfl (by kernel_rfl) ?_
 intro _
 conv => whnf
 refine loop_keep [0] ?_
 conv => whnf
 refine loop_go (fun j : Nat => [(3, strA (allF (l.take j))), (4, .v (.int .i64 j))]) (fun _ => []) (fun _ => []) (fun j => j ≤ l.length) (fun j => l.length - j) 0 ?_ (Nat.zero_le _) ?_
 ·repeat' constructor
 intro j hj
 conv => whnf
 by_cases hlt : j < l.length
 ·rw [decide_eq_true (show (j : Int) < l.length by omega)]
  have hr : rowOf 1 j (strsA l) = [strA l[j]] := rowOf_map strA l j hlt
  have h1 := allF_take l j hj
  have h2 := tsz_take l j
  have h3 := tsz_mem (List.getElem_mem hlt)
  have hg := glue_spec (allF (l.take j)) l[j] (by omega) (by omega)
  have e : allF (l.take (j + 1)) = glueF (allF (l.take j)) l[j] := by rw [List.take_succ_eq_append_getElem hlt, allF_snoc]
  generalize l[j] = x at *
  conv => whnf
  refine ⟨by omega, ?_⟩
  conv => whnf
  (generalize hrq : rowOf _ _ (strsA l) = rq; obtain rfl : rq = [strA x] := hrq.symm.trans (hr); clear hrq; conv => whnf)
  (refine call0 [] rfl (fun _ => hg) ?_; rintro r rfl; conv => whnf)
  refine ⟨i64r (by omega), ?_⟩
  conv => whnf
  refine ⟨j + 1, le_selH [] ?_, hlt, by omega⟩
  conv => whnf
  rw [e]
  repeat' constructor
 ·rw [decide_eq_false (show ¬ (j : Int) < l.length by omega)]
  conv => whnf
  rw [List.take_of_length_le (by omega)]
  rfl
def prec6 (k : Int) (s : ByteArray) : Int := if k = 17 then (if s = pNot then 3 else 7) else if k ≠ 18 then 8 else if s = pOr then 1 else if s = pAnd then 2 else if s = pPlus then 5 else if s = pMinus then 5 else if s = pStar then 6 else if s = pSlash then 6 else 4
theorem prec6_rng (k : Int) (s : ByteArray) : 1 ≤ prec6 k s ∧ prec6 k s ≤ 8 := by
 unfold prec6
 repeat' split
 all_goals decide
theorem prec_spec (f : Nt) : Spec Tryz.prog 147 [] [.agg (ntA f)] fun _ r => r = intA (prec6 f.k f.s) := by
 unfold prec6
 refine spec_of (cx_ok ord0 xs0 0) (fun _ _ h => h) Tryz.func147 rfl (by kernel_rfl) rfl (by kernel_rfl) ?_
 intro _
 conv => whnf
 by_cases h17 : f.k = 17
 ·rw [if_pos h17, decide_eq_true h17]
  conv => whnf
  by_cases hn : f.s = pNot
  ·rw [if_pos hn, decide_eq_true (p := f.s = ⟨_⟩) hn]
   conv => whnf
   rfl
  ·rw [if_neg hn, decide_eq_false (p := f.s = ⟨_⟩) hn]
   conv => whnf
   rfl
 rw [if_neg h17, decide_eq_false h17]
 conv => whnf
 by_cases h18 : f.k = 18
 ·rw [if_neg (show ¬ f.k ≠ 18 from fun h => h h18), decide_eq_true h18]
  conv => whnf
  by_cases g1 : f.s = pOr
  ·rw [if_pos g1, decide_eq_true (p := f.s = ⟨_⟩) g1]
   conv => whnf
   rfl
  rw [if_neg g1, decide_eq_false (p := f.s = ⟨_⟩) g1]
  conv => whnf
  by_cases g2 : f.s = pAnd
  ·rw [if_pos g2, decide_eq_true (p := f.s = ⟨_⟩) g2]
   conv => whnf
   rfl
  rw [if_neg g2, decide_eq_false (p := f.s = ⟨_⟩) g2]
  conv => whnf
  by_cases g3 : f.s = pPlus
  ·rw [if_pos g3, decide_eq_true (p := f.s = ⟨_⟩) g3]
   conv => whnf
   rfl
  rw [if_neg g3, decide_eq_false (p := f.s = ⟨_⟩) g3]
  conv => whnf
  by_cases g4 : f.s = pMinus
  ·rw [if_pos g4, decide_eq_true (p := f.s = ⟨_⟩) g4]
   conv => whnf
   rfl
  rw [if_neg g4, decide_eq_false (p := f.s = ⟨_⟩) g4]
  conv => whnf
  by_cases g5 : f.s = pStar
  ·rw [if_pos g5, decide_eq_true (p := f.s = ⟨_⟩) g5]
   conv => whnf
   rfl
  rw [if_neg g5, decide_eq_false (p := f.s = ⟨_⟩) g5]
  conv => whnf
  by_cases g6 : f.s = pSlash
  ·rw [if_pos g6, decide_eq_true (p := f.s = ⟨_⟩) g6]
   conv => whnf
   rfl
  rw [if_neg g6, decide_eq_false (p := f.s = ⟨_⟩) g6]
  conv => whnf
  rfl
 ·rw [if_pos h18, decide_eq_false h18]
  conv => whnf
  rfl
end Go.Proofs.YtmodkpibkkpcdaaGreatDoor.Vm
