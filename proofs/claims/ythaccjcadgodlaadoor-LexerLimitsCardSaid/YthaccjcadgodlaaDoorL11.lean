/- Laws of the plain lexer: what its tokens are, how it goes through joined texts. No program is named here. -/
import Derived.Test.YthaccjcadgodlaaDoorL2
namespace Go.Proofs.YthaccjcadgodlaaDoor.Vm
open Go.RowKit
set_option linter.unusedSimpArgs false
set_option linter.unusedVariables false
set_option maxRecDepth 100000
/-- The tokens of some bytes, one by one. -/
def Good : Nat → List UInt8 → List Tk → Prop
  | _, l, [] => skipN false l = l.length
  | p, l, t :: ts => t.pos = p + skipN false l ∧ ∃ len, 1 ≤ len ∧ skipN false l + len ≤ l.length ∧ t.text = bs ((l.drop (skipN false l)).take len) ∧ tokF (l.drop (skipN false l)) = .tok t.kind len t.n ∧ Good (p + skipN false l + len) (l.drop (skipN false l + len)) ts
theorem good_of : ∀ (n : Nat) (l : List UInt8) (p : Nat) (ts : List Tk), l.length ≤ n → lexL p l = ⟨ts, none⟩ → Good p l ts
  | 0, l, p, ts, hn, h => by
    have : l = [] := List.eq_nil_of_length_eq_zero (by omega)
    subst this
    rw [lexL_nil] at h
    cases h
    rfl
  | n + 1, l, p, ts, hn, h => by
    have hc := skip_clean false l
    have hle := skipN_le false l
    rw [lexL_skip] at h
    cases hd : l.drop (skipN false l) with
    | nil =>
      rw [hd, lexL_nil] at h
      cases h
      have := congrArg List.length hd
      simp only [List.length_drop, List.length_nil] at this
      show skipN false l = l.length
      omega
    | cons c r =>
      rw [hd] at h hc
      obtain ⟨h1, h2⟩ := hc
      cases ht : tokF (c :: r) with
      | bad e => rw [lexL_bad h1 h2 ht] at h; cases h
      | tok k len m =>
        have hl := tokF_len ht
        rw [lexL_tok h1 h2 ht] at h
        obtain ⟨ts', ht'⟩ : ∃ ts', lexL (p + skipN false l + len) ((c :: r).drop len) = ⟨ts', none⟩ := by
          cases hx : lexL (p + skipN false l + len) ((c :: r).drop len) with
          | mk a b =>
            rw [hx] at h
            cases b with
            | none => exact ⟨a, rfl⟩
            | some q => simp [Lx.cons] at h
        rw [ht'] at h
        simp only [Lx.cons, Lx.mk.injEq] at h
        obtain ⟨rfl, -⟩ := h
        have hlen := congrArg List.length hd
        rw [List.length_drop] at hlen
        refine ⟨rfl, len, hl.1, by omega, by rw [hd], by rw [hd]; exact ht, ?_⟩
        have e : l.drop (skipN false l + len) = (c :: r).drop len := by rw [← hd, List.drop_drop]
        rw [e]
        exact good_of n _ _ _ (by simp only [List.length_drop]; omega) ht'
theorem good_F {s : ByteArray} (h : (lexF' s).err = none) : Good 0 s.data.toList (lexF' s).toks := good_of _ _ _ _ (Nat.le_refl _) (by
  show lexF' s = _
  cases hx : lexF' s with
  | mk a b => rw [hx] at h; cases h; rfl)
/-- What is white alone has no tokens. -/
theorem skip_take : ∀ (b : Bool) (l : List UInt8), skipN b (l.take (skipN b l)) = skipN b l
  | b, [] => by cases b <;> simp [skipN]
  | true, c :: r => by
    cases hn : noNl c with
    | true =>
      have : skipN true (c :: r) = skipN true r + 1 := by simp [skipN, hn]
      rw [this, List.take_succ_cons]
      simp only [skipN, hn, skip_take true r]
    | false =>
      have : skipN true (c :: r) = skipN false r + 1 := by simp [skipN, hn]
      rw [this, List.take_succ_cons]
      simp only [skipN, hn, skip_take false r]
  | false, c :: r => by
    cases hh : isHash c with
    | true =>
      have : skipN false (c :: r) = skipN true r + 1 := by simp [skipN, hh]
      rw [this, List.take_succ_cons]
      simp only [skipN, hh, skip_take true r]
    | false =>
      cases hs : isSp c with
      | true =>
        have : skipN false (c :: r) = skipN false r + 1 := by simp [skipN, hh, hs]
        rw [this, List.take_succ_cons]
        simp only [skipN, hh, hs, skip_take false r]
      | false =>
        have : skipN false (c :: r) = 0 := by simp [skipN, hh, hs]
        rw [this]; simp [skipN]
theorem lexL_white {p : Nat} {l : List UInt8} (h : skipN false l = l.length) : lexL p l = ⟨[], none⟩ := by
  rw [lexL_skip, h, List.drop_length]
  rfl
theorem gap_white (p : Nat) (l : List UInt8) : lexL p (l.take (skipN false l)) = ⟨[], none⟩ :=
  lexL_white (by rw [skip_take, List.length_take, Nat.min_eq_left (skipN_le false l)])
theorem span_next : ∀ (p : UInt8 → Bool) (l : List UInt8) (c : UInt8), l[spanN p l]? = some c → p c = false
  | p, [], c, h => by simp [spanN] at h
  | p, x :: r, c, h => by
    cases hx : p x with
    | true =>
      have : spanN p (x :: r) = spanN p r + 1 := by simp [spanN, hx]
      rw [this] at h
      exact span_next p r c (by simpa using h)
    | false =>
      have : spanN p (x :: r) = 0 := by simp [spanN, hx]
      rw [this] at h
      simp at h
      rw [← h]; exact hx
theorem tok_next {l : List UInt8} {k n : Int} {len : Nat} {d : UInt8} (h : tokF l = .tok k len n) (hd : l[len]? = some d) : (k = 1 → isLD d = false) ∧ (k = 2 → isD d = false) := by
  cases l with
  | nil => simp [tokF] at h
  | cons c r =>
    cases hL : isL c
    · cases hD : isD c
      · cases h3 : hasF twos (bs ((c :: r).take 2))
        · cases h4 : hasF ones (bs [c])
          · simp only [tokF, hL, hD, h3, h4] at h
            cases h
          · simp only [tokF, hL, hD, h3, h4] at h
            cases h
            exact ⟨fun h => absurd h (by decide), fun h => absurd h (by decide)⟩
        · simp only [tokF, hL, hD, h3] at h
          cases h
          exact ⟨fun h => absurd h (by decide), fun h => absurd h (by decide)⟩
      · simp only [tokF, hL, hD] at h
        split at h
        · cases h
        · cases h
          refine ⟨fun h => absurd h (by decide), fun _ => span_next isD r d ?_⟩
          simpa using hd
    · simp only [tokF, hL] at h
      split at h
      · cases h
      · cases h
        refine ⟨fun _ => span_next isLD r d ?_, fun h => absurd h (by decide)⟩
        simpa using hd
/-! ### Joined texts -/
def Lx.shift (d : Nat) (x : Lx) : Lx := ⟨x.toks.map fun t => ⟨t.kind, t.pos + d, t.text, t.n⟩, x.err.map fun q => (q.1 + d, q.2)⟩
theorem lexL_shift : ∀ (n : Nat) (l : List UInt8) (p d : Nat), l.length ≤ n → lexL (p + d) l = (lexL p l).shift d
  | n, [], p, d, hn => by simp [lexL_nil, Lx.shift]
  | 0, c :: r, p, d, hn => by simp at hn
  | n + 1, c :: r, p, d, hn => by
    simp only [List.length_cons] at hn
    cases hh : isHash c with
    | true =>
      rw [lexL_hash hh, lexL_hash hh, show p + d + 1 + spanN noNl r = p + 1 + spanN noNl r + d by omega]
      exact lexL_shift n _ _ _ (by simp only [List.length_drop]; omega)
    | false =>
      cases hs : isSp c with
      | true =>
        rw [lexL_sp hh hs, lexL_sp hh hs, show p + d + 1 = p + 1 + d by omega]
        exact lexL_shift n _ _ _ (by omega)
      | false =>
        cases ht : tokF (c :: r) with
        | bad e => rw [lexL_bad hh hs ht, lexL_bad hh hs ht]; simp [Lx.shift]
        | tok k len m =>
          have hl := tokF_len ht
          rw [lexL_tok hh hs ht, lexL_tok hh hs ht, show p + d + len = p + len + d by omega, lexL_shift n _ (p + len) d (by simp only [List.length_drop, List.length_cons]; omega)]
          simp [Lx.shift, Lx.cons]
theorem spn_stop {q : UInt8 → Bool} {x : UInt8} (hx : q x = false) : ∀ (r m : List UInt8), spanN q (r ++ x :: m) = spanN q r
  | [], m => by simp [spanN, hx]
  | c :: r, m => by
    simp only [List.cons_append, spanN, spn_stop hx r m]
/-- A byte that ends every token: no letter, no digit, and no second byte of a symbol. -/
def stops (x : UInt8) : Bool := !isLD x && twos.all fun t => !decide (t.data.toList[1]? = some x)
theorem stops_two {x c : UInt8} (h : stops x = true) : hasF twos (bs [c, x]) = false := by
  unfold stops at h
  simp only [Bool.and_eq_true, List.all_eq_true] at h
  unfold hasF
  rw [List.any_eq_false]
  intro t ht he
  have he := of_decide_eq_true he
  have := h.2 t ht
  rw [he] at this
  simp [bs] at this
theorem one_two (c : UInt8) : hasF twos (bs [c]) = false := by
  unfold hasF
  rw [List.any_eq_false]
  intro x hx he
  have he := of_decide_eq_true he
  have hs : x.size = 1 := by rw [he, bs_size]; rfl
  have : ∀ x ∈ twos, x.size = 2 := by decide
  have := this x hx
  omega
theorem tokF_stop {x : UInt8} (hx : stops x = true) (c : UInt8) (r m : List UInt8) : tokF (c :: r ++ x :: m) = tokF (c :: r) := by
  have hx' := hx
  unfold stops at hx'
  simp only [Bool.and_eq_true, Bool.not_eq_true'] at hx'
  have hLD := hx'.1
  have hD : isD x = false := by
    unfold isLD at hLD
    simp only [Bool.or_eq_false_iff] at hLD
    exact hLD.2
  have e2 : hasF twos (bs ((c :: r ++ x :: m).take 2)) = hasF twos (bs ((c :: r).take 2)) := by
    cases r with
    | nil =>
      show hasF twos (bs [c, x]) = hasF twos (bs [c])
      rw [stops_two hx, one_two]
    | cons d r => rfl
  show tokF (c :: (r ++ x :: m)) = _
  have e2 : hasF twos (bs ((c :: (r ++ x :: m)).take 2)) = hasF twos (bs ((c :: r).take 2)) := e2
  have et : (r ++ x :: m).take (spanN isD r) = r.take (spanN isD r) := List.take_append_of_le_length (spanN_le isD r)
  simp only [tokF, spn_stop hLD, spn_stop hD, et, e2]
theorem lexL_join : ∀ (n : Nat) (a b : List UInt8) (p : Nat), a.length ≤ n → lexL p (a ++ 10 :: b) = match (lexL p a).err with
    | some _ => lexL p a
    | none => Lx.app (lexL p a).toks (lexL (p + a.length + 1) b)
  | n, [], b, p, hn => by
    rw [lexL_nil, List.nil_append, lexL_sp (by decide) (by decide)]
    simp [Lx.app]
  | 0, c :: r, b, p, hn => by simp at hn
  | n + 1, c :: r, b, p, hn => by
    simp only [List.length_cons] at hn
    have hnl : noNl 10 = false := by decide
    cases hh : isHash c with
    | true =>
      have hle := spanN_le noNl r
      rw [List.cons_append, lexL_hash hh, lexL_hash hh, spn_stop hnl, List.drop_append_of_le_length hle, lexL_join n _ b _ (by simp only [List.length_drop]; omega)]
      have : p + 1 + spanN noNl r + (r.drop (spanN noNl r)).length + 1 = p + (c :: r).length + 1 := by simp only [List.length_drop, List.length_cons]; omega
      rw [this]
    | false =>
      cases hs : isSp c with
      | true =>
        rw [List.cons_append, lexL_sp hh hs, lexL_sp hh hs, lexL_join n r b _ (by omega)]
        rw [show p + 1 + r.length + 1 = p + (c :: r).length + 1 by simp only [List.length_cons]; omega]
      | false =>
        have hst := tokF_stop (x := 10) (by decide) c r b
        cases ht : tokF (c :: r) with
        | bad e =>
          rw [List.cons_append, lexL_bad hh hs (by rw [← List.cons_append, hst]; exact ht), lexL_bad hh hs ht]
        | tok k len m =>
          have hl := tokF_len ht
          rw [List.cons_append, lexL_tok hh hs (by rw [← List.cons_append, hst]; exact ht), lexL_tok hh hs ht]
          have e1 : (c :: (r ++ 10 :: b)).take len = (c :: r).take len := by rw [← List.cons_append, List.take_append_of_le_length hl.2]
          have e2 : (c :: (r ++ 10 :: b)).drop len = (c :: r).drop len ++ 10 :: b := by rw [← List.cons_append, List.drop_append_of_le_length hl.2]
          rw [e1, e2, lexL_join n _ b _ (by simp only [List.length_drop, List.length_cons]; omega)]
          have : p + len + ((c :: r).drop len).length + 1 = p + (c :: r).length + 1 := by have := hl.2; simp only [List.length_drop]; omega
          rw [this]
          cases hx : lexL (p + len) ((c :: r).drop len) with
          | mk ts er =>
            cases er with
            | none => simp [Lx.cons, Lx.app]
            | some q => simp [Lx.cons]
end Go.Proofs.YthaccjcadgodlaaDoor.Vm
