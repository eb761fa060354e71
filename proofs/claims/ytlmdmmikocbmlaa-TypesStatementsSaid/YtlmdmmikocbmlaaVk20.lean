/- Single: a program of one statement. TypesStatements: its plain law and its walk. -/
import Derived.Test.YtlmdmmikocbmlaaVk19
namespace Go.Proofs.Ytlmdmmikocbmlaa.Vm
open Go.RowKit
set_option linter.unusedSimpArgs false
set_option linter.unusedVariables false
set_option maxRecDepth 100000
theorem repL_one {a b : A} {E : Env} {us : List Value} (h : ∀ y, a.rep E y → b.rep E y) (k : A.repL [a] E us) : A.repL [b] E us := by
  unfold A.repL at k ⊢
  obtain ⟨u, us', rfl, k1, k2⟩ := k
  exact ⟨u, us', rfl, h _ k1, k2⟩
theorem namesF_row (e k : Nat) : Row.live e 1 ((namesF k).length + 1) (strsA (namesF k) ++ [.v (.string (nameF (k : Int)))]) = Row.live e 1 (namesF (k + 1)).length (strsA (namesF (k + 1))) := by
  rw [namesF_succ]; simp [strsA]
/-- As Single makes it: no durable variables at all. -/
def singleL (t : Nd) : List A := [.v (.slice none 0 0), .sl 1 (namesF 10).length (strsA (namesF 10)), .sl 5 1 [.v (.int .i64 0), .v (.int .i64 11), .v (.int .i64 0), .v (.string ⟨#[]⟩), .sl 4 1 (ndL t)]]
theorem single_rep {E : Env} {y : Value} {t : Nd} (h : (A.agg (singleL t)).rep E y) : (A.agg (unL' (singleU t))).rep E y := by
  unfold A.rep at h ⊢
  obtain ⟨us, h1, h2⟩ := h
  refine ⟨us, h1, ?_⟩
  unfold singleL at h2
  simp only [A.repC] at h2
  obtain ⟨u0, _, h0, k0, g0, u1, _, rfl, k1, g1, u2, _, rfl, k2, g2, rfl⟩ := h2
  unfold unL'
  simp only [A.repC]
  refine ⟨u0, _, h0, k0, nil_sl g0, u1, _, rfl, k1, g1, u2, _, rfl, k2, ?_, rfl⟩
  simpa [singleU, hsL, ndL, ndsL] using g2
theorem single_spec (t : Nd) : Spec Try.prog 19 [] [.agg (ndL t)] fun _ r => r = .agg (singleL t) := by
  obtain ⟨k, n, s, kids⟩ := t
  unfold ndL
  refine spec_of (cx_ok ord19 xs0 0) Try.func19 rfl (by kernel_rfl) rfl (by kernel_rfl) ?_
  intro _
  conv => whnf
  refine loop_row 9 1 [] [(2, 1)] ?_
  conv => whnf
  refine ⟨trivial, ?_⟩
  conv => whnf
  refine loop_keep [1, 2, 3] ?_
  conv => whnf
  refine loop_go (fun j : Nat => [(4, .v (.int .i64 j))]) (fun _ => [[.v (.int .i64 k), .v (.int .i64 n), .v (.string s), .sl 4 kids.length (ndsL kids)], [.v (.slice none 0 0), .v (.slice none 0 0), .v (.slice none 0 0)], [.v (.slice none 0 0), .own 0, .v (.slice none 0 0)]])
    (fun j => [.live 9 1 (namesF j).length (strsA (namesF j))]) (fun j => j ≤ 10) (fun j => 10 - j) 0 ?_ (Nat.zero_le _) ?_
  · repeat' constructor
  · intro j hj
    have hl := namesF_length j
    conv => whnf
    by_cases hlt : j < 10
    · refine br_true (by simp; omega) ?_
      have hsn := name_spec (j : Int) (by omega)
      rw [around10 hlt] at hsn
      conv => whnf
      refine call0 [] rfl (fun _ => hsn) ?_
      rintro r rfl
      conv => whnf
      refine ⟨⟨by unfold maxLen; omega, by omega⟩, ?_⟩
      conv => whnf
      refine ⟨i64r (by omega), ?_⟩
      conv => whnf
      refine ⟨j + 1, le_head ?_, hlt, by omega⟩
      repeat' constructor
      exact namesF_row _ j
    · refine br_false (by simp; omega) ?_
      obtain rfl : j = 10 := by omega
      conv => whnf
      rfl
theorem check_single (t : Nd) (hs : smallN t) : Spec Try.prog 16 [] [.agg (singleL t)] fun _ r => r = intA (checkF (singleU t)) :=
  spec_args (fun E us h => repL_one (fun y hy => single_rep hy) h) (check_spec _ ⟨by simp [singleU], by simp [singleU, namesF_length], by simp [singleU], fun h hh => by
    obtain rfl := List.mem_singleton.1 hh
    unfold smallN smallNs smallNs
    exact ⟨by simp, hs, trivial⟩⟩)
def emptyB : Nd := .mk 11 0 ⟨#[]⟩ []
def vaF : ByteArray := ⟨#[118, 97]⟩
/-- The statements that are tried, and the expression at their end. -/
def stmts (a b : Nd) (n : Int) : List Nd := [.mk 2 0 ⟨#[]⟩ [a, emptyB, emptyB], .mk 3 0 ⟨#[]⟩ [a, emptyB], .mk 1 0 vaF [a], .mk 9 0 ⟨#[]⟩ [a], .mk 8 0 ⟨#[]⟩ [a, b], .mk 4 n ⟨#[]⟩ [a, b, a], .mk 16 0 ⟨#[]⟩ [a]]
def wants (x y : Bool) (z : Bool) : List Bool := [z, z, x, x, x && y, x && y]
theorem und_genE {ix : ByteArray → Int} (hn : ∀ j : Int, 0 ≤ j → j < 10 → 0 ≤ ix (nameF j)) {d : Nat} {t : Nd} (h : GenE d t) : undF ix t = false := by
  have mk : ∀ {k n : Int} {s : ByteArray} {l : List Nd}, (k = 1 ∨ k = 14 → 0 ≤ ix s) → (∀ x ∈ l, undF ix x = false) → undF ix (.mk k n s l) = false := fun {k n s l} h1 h => by
    unfold undF
    rw [Bool.or_eq_false_iff]
    constructor
    · by_cases hk : k = 1 ∨ k = 14
      · have := h1 hk
        rw [Bool.and_eq_false_iff]
        right
        simpa using this
      · have : (k == 1 || k == 14) = false := by
          rw [Bool.or_eq_false_iff]
          exact ⟨by simpa using fun e => hk (.inl e), by simpa using fun e => hk (.inr e)⟩
        rw [this]; rfl
    · rw [undAll_any, List.any_eq_false]
      intro x hx
      rw [h x hx]; simp
  induction h with
  | int d n => exact mk (fun e => by omega) (fun x hx => by cases hx)
  | bool d n => exact mk (fun e => by omega) (fun x hx => by cases hx)
  | var d j h0 h1 => exact mk (fun _ => hn j h0 h1) (fun x hx => by cases hx)
  | name d s => exact mk (fun e => by omega) (fun x hx => by cases hx)
  | draw d t _ ih => exact mk (fun e => by omega) (fun x hx => by obtain rfl := List.mem_singleton.1 hx; exact ih)
  | un d s t _ _ ih => exact mk (fun e => by omega) (fun x hx => by obtain rfl := List.mem_singleton.1 hx; exact ih)
  | bin d s t u _ _ _ ih1 ih2 =>
    refine mk (fun e => by omega) (fun x hx => ?_)
    simp only [List.mem_cons, List.not_mem_nil, or_false] at hx
    rcases hx with rfl | rfl
    · exact ih1
    · exact ih2
theorem name_in (j : Int) (h0 : 0 ≤ j) (h1 : j < 10) : 0 ≤ indexF [] (namesF 10) (nameF j) := by
  rcases Int.lt_or_le (indexF [] (namesF 10) (nameF j)) 0 with h | h
  · rw [indexF_neg] at h
    refine absurd ?_ h.2
    unfold namesF
    rw [List.mem_map]
    exact ⟨j.toNat, List.mem_range.2 (by omega), by rw [Int.toNat_of_nonneg h0]⟩
  · exact h
theorem va_in : 0 ≤ indexF [] (namesF 10) vaF := by
  have : vaF = nameF 0 := by decide +kernel
  rw [this]
  exact name_in 0 (by omega) (by omega)
theorem statements_law {d : Nat} {a b : Nd} (ha : GenE d a) (hb : GenE d b) (n : Int) (i : Nat) (hi : i < 6) :
    decide (checkF (singleU ((stmts a b n)[i]'(by simp [stmts]; omega))) = 0) = (wants (decide (typeF a = 1)) (decide (typeF b = 1)) (decide (typeF a = 2)))[i]'(by simp [wants]; omega) := by
  have ua := und_genE name_in ha
  have ub := und_genE name_in hb
  have hva := va_in
  have key : ∀ t : Nd, undF (indexF [] (namesF 10)) t = false → decide (checkF (singleU t) = 0) = wellF t := fun t ht => by
    have : badF (singleU t) (.mk 11 0 ⟨#[]⟩ [t]) = !wellF t := by
      unfold badF singleU
      simp [wellF, wellAll, undF, undAll, ht]
    unfold checkF
    have h2 : (singleU t).on.any (fun h => badF (singleU t) h.2) = !wellF t := by
      show List.any [((0 : Int), Nd.mk 11 0 ⟨#[]⟩ [t])] _ = _
      rw [List.any_cons, List.any_nil, Bool.or_false]
      exact this
    rw [h2]
    cases wellF t <;> simp
  have und : ∀ (k n : Int) (s : ByteArray) (l : List Nd), (k = 1 → 0 ≤ indexF [] (namesF 10) s) → k ≠ 14 → (∀ x ∈ l, undF (indexF [] (namesF 10)) x = false) → undF (indexF [] (namesF 10)) (.mk k n s l) = false := fun k n s l h1 h2 h3 => by
    unfold undF
    rw [Bool.or_eq_false_iff]
    constructor
    · by_cases hk : k = 1
      · have := h1 hk
        rw [Bool.and_eq_false_iff]
        right
        simpa using this
      · have : (k == 1 || k == 14) = false := by
          rw [Bool.or_eq_false_iff]
          exact ⟨by simpa using hk, by simpa using h2⟩
        rw [this]; rfl
    · rw [undAll_any, List.any_eq_false]
      intro x hx
      rw [h3 x hx]; simp
  have ue : undF (indexF [] (namesF 10)) emptyB = false := und 11 0 _ [] (by omega) (by omega) (by simp)
  have we : wellF emptyB = true := by simp [emptyB, wellF, wellAll]
  match i, hi with
  | 0, _ =>
    show decide (checkF (singleU (.mk 2 0 ⟨#[]⟩ [a, emptyB, emptyB])) = 0) = decide (typeF a = 2)
    rw [key _ (und 2 0 _ _ (by omega) (by omega) (by simp [ua, ue]))]
    by_cases h3 : typeF a = 2 <;> simp [wellF, wellC, wellAll, we, h3]
  | 1, _ =>
    show decide (checkF (singleU (.mk 3 0 ⟨#[]⟩ [a, emptyB])) = 0) = decide (typeF a = 2)
    rw [key _ (und 3 0 _ _ (by omega) (by omega) (by simp [ua, ue]))]
    by_cases h3 : typeF a = 2 <;> simp [wellF, wellC, wellAll, we, h3]
  | 2, _ =>
    show decide (checkF (singleU (.mk 1 0 vaF [a])) = 0) = decide (typeF a = 1)
    rw [key _ (und 1 0 _ _ (fun _ => hva) (by omega) (by simp [ua]))]
    by_cases h1 : typeF a = 1 <;> by_cases h2 : typeF b = 1 <;> simp [wellF, notAll, h1, h2]
  | 3, _ =>
    show decide (checkF (singleU (.mk 9 0 ⟨#[]⟩ [a])) = 0) = decide (typeF a = 1)
    rw [key _ (und 9 0 _ _ (by omega) (by omega) (by simp [ua]))]
    by_cases h1 : typeF a = 1 <;> by_cases h2 : typeF b = 1 <;> simp [wellF, notAll, h1, h2]
  | 4, _ =>
    show decide (checkF (singleU (.mk 8 0 ⟨#[]⟩ [a, b])) = 0) = (decide (typeF a = 1) && decide (typeF b = 1))
    rw [key _ (und 8 0 _ _ (by omega) (by omega) (by simp [ua, ub]))]
    by_cases h1 : typeF a = 1 <;> by_cases h2 : typeF b = 1 <;> simp [wellF, notAll, h1, h2]
  | 5, _ =>
    show decide (checkF (singleU (.mk 4 n ⟨#[]⟩ [a, b, a])) = 0) = (decide (typeF a = 1) && decide (typeF b = 1))
    rw [key _ (und 4 n _ _ (by omega) (by omega) (by simp [ua, ub]))]
    by_cases h1 : typeF a = 1 <;> by_cases h2 : typeF b = 1 <;> simp [wellF, notAll, h1, h2]
theorem rowOf_bools (l : List Bool) (i : Nat) (hi : i < l.length) : rowOf 1 i (l.map boolA) = [.v (.bool l[i])] := rowOf_map _ l i hi
theorem draw_law (a : Nd) : typeF (.mk 16 0 ⟨#[]⟩ [a]) = if typeF a = 1 then 1 else 0 := by
  simp [typeF, notAll]
/-! ### What reads as one thing reads as another -/
def ImpL : List A → List A → Prop
  | [], [] => True
  | a :: l, b :: m => (∀ E y, a.rep E y → b.rep E y) ∧ ImpL l m
  | _, _ => False
theorem ImpL.len : ∀ {l m : List A}, ImpL l m → l.length = m.length
  | [], [], _ => rfl
  | a :: l, b :: m, h => by simp [ImpL.len h.2]
  | [], _ :: _, h => h.elim
  | _ :: _, [], h => h.elim
theorem ImpL.at : ∀ {l m : List A} {E : Env} {b off : Nat}, ImpL l m → A.repAt l E b off → A.repAt m E b off
  | [], [], _, _, _, _, h => h
  | a :: l, b :: m, _, _, _, h, k => by
    unfold A.repAt at k ⊢
    obtain ⟨⟨u, k1, k2, k3⟩, k4⟩ := k
    exact ⟨⟨u, k1, k2, h.1 _ _ k3⟩, ImpL.at h.2 k4⟩
  | [], _ :: _, _, _, _, h, _ => h.elim
  | _ :: _, [], _, _, _, h, _ => h.elim
theorem ImpL.C : ∀ {l m : List A} {E : Env} {us : List Value}, ImpL l m → A.repC l E us → A.repC m E us
  | [], [], _, _, _, h => h
  | a :: l, b :: m, _, _, h, k => by
    unfold A.repC at k ⊢
    obtain ⟨u, us', k1, k2, k3, k4⟩ := k
    exact ⟨u, us', k1, k2, h.1 _ _ k3, ImpL.C h.2 k4⟩
  | [], _ :: _, _, _, h, _ => h.elim
  | _ :: _, [], _, _, h, _ => h.elim
theorem imp_sl {k n : Nat} {l m : List A} (h : ImpL l m) (E : Env) (y : Value) (hr : (A.sl k n l).rep E y) : (A.sl k n m).rep E y := by
  unfold A.rep at hr ⊢
  obtain ⟨h1, h2, p, b, off, cap, h3, h4, h5, h6, h7⟩ := hr
  exact ⟨by rw [← h.len]; exact h1, h2, p, b, off, cap, h3, h4, h5, h6, h.at h7⟩
theorem imp_agg {l m : List A} (h : ImpL l m) (E : Env) (y : Value) (hr : (A.agg l).rep E y) : (A.agg m).rep E y := by
  unfold A.rep at hr ⊢
  obtain ⟨us, h1, h2⟩ := hr
  exact ⟨us, h1, h.C h2⟩
def nilB : List A := [.v (.int .i64 11), .v (.int .i64 0), .v (.string ⟨#[]⟩), .v (.slice none 0 0)]
/-- The statements as they lie in memory: the kids of an empty block are nil. -/
def rowsA (t y : List A) (n : Int) : List A :=
  [.v (.int .i64 2), .v (.int .i64 0), .v (.string ⟨#[]⟩), .sl 4 3 (t ++ nilB ++ nilB), .v (.int .i64 3), .v (.int .i64 0), .v (.string ⟨#[]⟩), .sl 4 2 (t ++ nilB),
   .v (.int .i64 1), .v (.int .i64 0), .v (.string vaF), .sl 4 1 t, .v (.int .i64 9), .v (.int .i64 0), .v (.string ⟨#[]⟩), .sl 4 1 t,
   .v (.int .i64 8), .v (.int .i64 0), .v (.string ⟨#[]⟩), .sl 4 2 (t ++ y), .v (.int .i64 4), .v (.int .i64 n), .v (.string ⟨#[]⟩), .sl 4 3 (t ++ y ++ t),
   .v (.int .i64 16), .v (.int .i64 0), .v (.string ⟨#[]⟩), .sl 4 1 t]
theorem ImpL.append : ∀ {a b c d : List A}, ImpL a b → ImpL c d → ImpL (a ++ c) (b ++ d)
  | [], [], _, _, _, k => k
  | _ :: _, _ :: _, _, _, h, k => ⟨h.1, ImpL.append h.2 k⟩
  | [], _ :: _, _, _, h, _ => h.elim
  | _ :: _, [], _, _, h, _ => h.elim
theorem ImpL.refl : ∀ l : List A, ImpL l l
  | [] => trivial
  | _ :: l => ⟨fun _ _ h => h, ImpL.refl l⟩
theorem nilB_imp : ImpL nilB (ndL emptyB) := by
  unfold emptyB ndL nilB
  exact ⟨fun _ _ h => h, fun _ _ h => h, fun _ _ h => h, fun _ _ h => nil_sl h, trivial⟩
theorem rows_at (t y : Nd) (n : Int) (i : Nat) (hi : i < (stmts t y n).length) : ∃ (k q : Int) (s : ByteArray) (j : Nat) (cs : List A), rowOf 4 i (rowsA (ndL t) (ndL y) n) = [.v (.int .i64 k), .v (.int .i64 q), .v (.string s), .sl 4 j cs] ∧ ∀ E v, (A.agg [.v (.int .i64 k), .v (.int .i64 q), .v (.string s), .sl 4 j cs]).rep E v → (A.agg (ndL (stmts t y n)[i])).rep E v := by
  have mk : ∀ {k m : Int} {s : ByteArray} {l : List Nd} {cs : List A} {j : Nat}, j = l.length → ImpL cs (ndsL l) → ∀ E v, (A.agg [.v (.int .i64 k), .v (.int .i64 m), .v (.string s), .sl 4 j cs]).rep E v → (A.agg (ndL (.mk k m s l))).rep E v := fun {k m s l cs j} hj h => by
    subst hj
    unfold ndL
    exact imp_agg ⟨fun _ _ h => h, fun _ _ h => h, fun _ _ h => h, imp_sl h, trivial⟩
  have one : ImpL (ndL t) (ndsL [t]) := by simp only [ndsL, List.append_nil]; exact ImpL.refl _
  have two : ImpL (ndL t ++ ndL y) (ndsL [t, y]) := by simp only [ndsL, List.append_nil]; exact ImpL.refl _
  have three : ImpL (ndL t ++ ndL y ++ ndL t) (ndsL [t, y, t]) := by simp only [ndsL, List.append_nil, List.append_assoc]; exact ImpL.refl _
  have w2 : ImpL (ndL t ++ nilB) (ndsL [t, emptyB]) := by simp only [ndsL, List.append_nil]; exact (ImpL.refl _).append nilB_imp
  have w3 : ImpL (ndL t ++ nilB ++ nilB) (ndsL [t, emptyB, emptyB]) := by simp only [ndsL, List.append_nil, List.append_assoc]; exact (ImpL.refl _).append (nilB_imp.append nilB_imp)
  unfold rowsA
  match i, hi with
  | 0, _ => exact ⟨_, _, _, _, _, by unfold rowOf; rfl, mk rfl w3⟩
  | 1, _ => exact ⟨_, _, _, _, _, by unfold rowOf; rfl, mk rfl w2⟩
  | 2, _ => exact ⟨_, _, _, _, _, by unfold rowOf; rfl, mk rfl one⟩
  | 3, _ => exact ⟨_, _, _, _, _, by unfold rowOf; rfl, mk rfl one⟩
  | 4, _ => exact ⟨_, _, _, _, _, by unfold rowOf; rfl, mk rfl two⟩
  | 5, _ => exact ⟨_, _, _, _, _, by unfold rowOf; rfl, mk rfl three⟩
  | 6, _ => exact ⟨_, _, _, _, _, by unfold rowOf; rfl, mk rfl one⟩
set_option maxHeartbeats 4000000 in
theorem statements_spec (l m : List Int) (kind : Int) : Spec Try.prog 5 [] [.sl 1 l.length (intsA l), .sl 1 m.length (intsA m), .v (.int .i64 kind)] fun _ r => r = boolA true := by
  refine spec_of (cx_ok ord5 xs0 0) Try.func5 rfl (by kernel_rfl) rfl (by kernel_rfl) ?_
  intro hok
  have hwb : -9223372036854775808 ≤ kind ∧ kind ≤ 9223372036854775807 := okA_int.1 (okL_mem hok (by simp))
  conv => whnf
  refine call0 [] rfl (fun _ => expr_law_spec l) ?_
  rintro r ⟨t, ht, rfl⟩
  have hgt := genE_good ht
  have hst := good_small t hgt.1
  have htt := typeOf_spec t hst
  have htd := typeOf_spec (.mk 16 0 ⟨#[]⟩ [t]) (by unfold smallN smallNs smallNs; exact ⟨by simp, hst, trivial⟩)
  rw [draw_law] at htd
  simp only [ndL_eq] at htt
  rw [ndL_eq]
  conv => whnf
  refine call0 [] rfl (fun _ => expr_law_spec m) ?_
  rintro r ⟨y, hy, rfl⟩
  rw [ndL_eq]
  conv => whnf
  have hgy := genE_good hy
  have hsy := good_small y hgy.1
  have hty := typeOf_spec y hsy
  simp only [ndL_eq] at hty
  refine call0 [] rfl (fun _ => htt) ?_
  rintro r rfl
  conv => whnf
  refine call0 [] rfl (fun _ => hty) ?_
  rintro r rfl
  conv => whnf
  repeat (apply flow_go; (· (conv => whnf); exact ⟨rfl, rfl, rfl⟩); (conv => whnf))
  have har := aroundF_rng kind 30 (by omega)
  have hsp := around_spec kind 30 hwb (by omega)
  generalize aroundF kind 30 = n at *
  apply flow_go
  · conv => whnf
    refine call0 [] rfl (fun _ => hsp) ?_
    rintro r rfl
    conv => whnf
    exact ⟨rfl, rfl, rfl⟩
  conv => whnf
  repeat (apply flow_go; (· (conv => whnf); exact ⟨rfl, rfl, rfl⟩); (conv => whnf))
  have hlaw := fun i hi => statements_law ht hy n i hi
  have hss : ∀ s ∈ stmts t y n, smallN s := by
    intro s hs
    have he : smallN emptyB := by unfold emptyB smallN smallNs; exact ⟨by simp, trivial⟩
    simp only [stmts, List.mem_cons, List.not_mem_nil, or_false] at hs
    rcases hs with rfl | rfl | rfl | rfl | rfl | rfl | rfl <;> unfold smallN <;> refine ⟨by simp, ?_⟩ <;> simp only [smallNs, hst, hsy, he, and_self]
  have hsls := fun s hs => check_single s (hss s hs)
  cases hx : decide (typeF t = 1)
  · conv => whnf
    refine loop_pub [0] ?_
    conv => whnf
    refine loop_keep [6, 9] ?_
    conv => whnf
    refine loop_go (fun i : Nat => [(12, .sl 4 7 (rowsA [.v (.int .i64 t.k), .v (.int .i64 t.n), .v (.string t.s), .sl 4 t.kids.length (ndsL t.kids)] [.v (.int .i64 y.k), .v (.int .i64 y.n), .v (.string y.s), .sl 4 y.kids.length (ndsL y.kids)] n)), (14, .sl 1 6 ((wants (decide (typeF t = 1)) (decide (typeF y = 1)) (decide (typeF t = 2))).map boolA)), (15, .v (.int .i64 i))])
      (fun _ => []) (fun _ => []) (fun i => i ≤ 6) (fun i => 6 - i) 0 ?_ (Nat.zero_le _) ?_
    · repeat' constructor
      simp [wants, boolA, hx]
    · intro i hi
      conv => whnf
      by_cases hlt : i < 6
      · refine br_true (by simp; omega) ?_
        conv => whnf
        refine ⟨⟨by omega, by omega⟩, ?_⟩
        conv => whnf
        obtain ⟨k1, k2, k3, k4, k5, hrow, himp⟩ := rows_at t y n i (by simp [stmts]; omega)
        rw [ndL_eq t, ndL_eq y] at hrow
        rw [show rowOf 4 (Int.toNat (i : Int)) _ = _ from hrow]
        conv => whnf
        refine ⟨⟨by omega, by omega⟩, ?_⟩
        conv => whnf
        rw [show rowOf 1 (Int.toNat (i : Int)) (List.map boolA _) = _ from rowOf_bools _ i (by simp [wants]; omega)]
        conv => whnf
        refine call0 [] rfl (fun _ => spec_args (fun E us h => repL_one (fun y hy => himp E y hy) h) (single_spec _)) ?_
        rintro r rfl
        have hck := hsls _ (List.getElem_mem (l := stmts t y n) (n := i) (by simp [stmts]; omega))
        have hl := hlaw i hlt
        generalize hs : (stmts t y n)[i]'(by simp [stmts]; omega) = sti at *
        unfold singleL at hck ⊢
        conv => whnf
        refine call0 [] rfl (fun _ => hck) ?_
        rintro r rfl
        conv => whnf
        rw [hl]
        conv => whnf
        refine br_false (by simp) ?_
        conv => whnf
        refine ⟨i64r (by omega), ?_⟩
        conv => whnf
        refine ⟨i + 1, le_head ?_, hlt, by omega⟩
        repeat' constructor
      · refine br_false (by simp; omega) ?_
        obtain ⟨k1, k2, k3, k4, k5, hrow, himp⟩ := rows_at t y n 6 (by simp [stmts])
        rw [ndL_eq t, ndL_eq y] at hrow
        generalize rowsA _ _ n = R at hrow ⊢
        conv => whnf
        refine ⟨⟨by omega, by omega⟩, ?_⟩
        generalize hq : rowOf _ (Int.toNat 6) R = q
        rw [show q = _ from hq.symm.trans hrow]
        conv => whnf
        refine call0 [] rfl (fun _ => spec_args (fun E us h => repL_one (fun y hy => himp E y hy) h) htd) ?_
        rintro r rfl
        conv => whnf
        rw [show (decide ((if typeF t = 1 then (1 : Int) else 0) = 1) == decide (typeF t = 1)) = true by by_cases h : typeF t = 1 <;> simp [h]]
        conv => whnf
        refine call0 [] rfl (fun _ => lives_spec) ?_
        rintro r rfl
        conv => whnf
        rfl
  · conv => whnf
    refine loop_pub [0] ?_
    conv => whnf
    refine loop_keep [6, 9] ?_
    conv => whnf
    refine loop_go (fun i : Nat => [(12, .sl 4 7 (rowsA [.v (.int .i64 t.k), .v (.int .i64 t.n), .v (.string t.s), .sl 4 t.kids.length (ndsL t.kids)] [.v (.int .i64 y.k), .v (.int .i64 y.n), .v (.string y.s), .sl 4 y.kids.length (ndsL y.kids)] n)), (14, .sl 1 6 ((wants (decide (typeF t = 1)) (decide (typeF y = 1)) (decide (typeF t = 2))).map boolA)), (15, .v (.int .i64 i))])
      (fun _ => []) (fun _ => []) (fun i => i ≤ 6) (fun i => 6 - i) 0 ?_ (Nat.zero_le _) ?_
    · repeat' constructor
      simp [wants, boolA, hx]
    · intro i hi
      conv => whnf
      by_cases hlt : i < 6
      · refine br_true (by simp; omega) ?_
        conv => whnf
        refine ⟨⟨by omega, by omega⟩, ?_⟩
        conv => whnf
        obtain ⟨k1, k2, k3, k4, k5, hrow, himp⟩ := rows_at t y n i (by simp [stmts]; omega)
        rw [ndL_eq t, ndL_eq y] at hrow
        rw [show rowOf 4 (Int.toNat (i : Int)) _ = _ from hrow]
        conv => whnf
        refine ⟨⟨by omega, by omega⟩, ?_⟩
        conv => whnf
        rw [show rowOf 1 (Int.toNat (i : Int)) (List.map boolA _) = _ from rowOf_bools _ i (by simp [wants]; omega)]
        conv => whnf
        refine call0 [] rfl (fun _ => spec_args (fun E us h => repL_one (fun y hy => himp E y hy) h) (single_spec _)) ?_
        rintro r rfl
        have hck := hsls _ (List.getElem_mem (l := stmts t y n) (n := i) (by simp [stmts]; omega))
        have hl := hlaw i hlt
        generalize hs : (stmts t y n)[i]'(by simp [stmts]; omega) = sti at *
        unfold singleL at hck ⊢
        conv => whnf
        refine call0 [] rfl (fun _ => hck) ?_
        rintro r rfl
        conv => whnf
        rw [hl]
        conv => whnf
        refine br_false (by simp) ?_
        conv => whnf
        refine ⟨i64r (by omega), ?_⟩
        conv => whnf
        refine ⟨i + 1, le_head ?_, hlt, by omega⟩
        repeat' constructor
      · refine br_false (by simp; omega) ?_
        obtain ⟨k1, k2, k3, k4, k5, hrow, himp⟩ := rows_at t y n 6 (by simp [stmts])
        rw [ndL_eq t, ndL_eq y] at hrow
        generalize rowsA _ _ n = R at hrow ⊢
        conv => whnf
        refine ⟨⟨by omega, by omega⟩, ?_⟩
        generalize hq : rowOf _ (Int.toNat 6) R = q
        rw [show q = _ from hq.symm.trans hrow]
        conv => whnf
        refine call0 [] rfl (fun _ => spec_args (fun E us h => repL_one (fun y hy => himp E y hy) h) htd) ?_
        rintro r rfl
        conv => whnf
        rw [show (decide ((if typeF t = 1 then (1 : Int) else 0) = 1) == decide (typeF t = 1)) = true by by_cases h : typeF t = 1 <;> simp [h]]
        conv => whnf
        refine call0 [] rfl (fun _ => lives_spec) ?_
        rintro r rfl
        conv => whnf
        rfl
end Go.Proofs.Ytlmdmmikocbmlaa.Vm
