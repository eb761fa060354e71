/- The plain lexer's steps; the reference's Tokens. -/
import Derived.Test.YthaccjcadgodlaaDoorL1
namespace Go.Proofs.YthaccjcadgodlaaDoor.Vm
open Go.RowKit
set_option linter.unusedSimpArgs false
set_option linter.unusedVariables false
set_option maxRecDepth 100000
theorem tokF_len : ∀ {l : List UInt8} {k : Int} {len : Nat} {n : Int}, tokF l = .tok k len n → 1 ≤ len ∧ len ≤ l.length
  | [], _, _, _, h => by simp [tokF] at h
  | c :: r, k, len, n, h => by
    have h1 := spanN_le isLD r
    have h2 := spanN_le isD r
    cases hL : isL c
    · cases hD : isD c
      · cases h3 : hasF twos (bs ((c :: r).take 2))
        · cases h4 : hasF ones (bs [c])
          · simp only [tokF, hL, hD, h3, h4] at h
            cases h
          · simp only [tokF, hL, hD, h3, h4] at h
            cases h
            simp
        · simp only [tokF, hL, hD, h3] at h
          cases h
          cases r with
          | nil =>
            exfalso
            have : hasF twos (bs [c]) = false := by
              unfold hasF
              rw [List.any_eq_false]
              intro x hx he
              have he := of_decide_eq_true he
              have hs : x.size = 1 := by rw [he, bs_size]; rfl
              have : ∀ x ∈ twos, x.size = 2 := by decide
              have := this x hx
              omega
            rw [show (c :: ([] : List UInt8)).take 2 = [c] from rfl, this] at h3
            cases h3
          | cons d r => simp
      · simp only [tokF, hL, hD] at h
        split at h
        · cases h
        · cases h; simp; omega
    · simp only [tokF, hL] at h
      split at h
      · cases h
      · cases h; simp; omega
theorem tokF_bad {l : List UInt8} {e : Int} (h : tokF l = .bad e) : e ≠ 0 := by
  cases l with
  | nil => simp [tokF] at h; omega
  | cons c r =>
    cases hL : isL c
    · cases hD : isD c
      · cases h3 : hasF twos (bs ((c :: r).take 2))
        · cases h4 : hasF ones (bs [c])
          · simp only [tokF, hL, hD, h3, h4] at h
            cases h; decide
          · simp only [tokF, hL, hD, h3, h4] at h
            cases h
        · simp only [tokF, hL, hD, h3] at h
          cases h
      · simp only [tokF, hL, hD] at h
        split at h
        · cases h; decide
        · cases h
    · simp only [tokF, hL] at h
      split at h
      · cases h; decide
      · cases h
theorem lex_fuel : ∀ (f f' p : Nat) (l : List UInt8), l.length < f → l.length < f' → lexG f p l = lexG f' p l
  | 0, _, _, _, h, _ => by omega
  | _ + 1, 0, _, _, _, h => by omega
  | f + 1, f' + 1, p, [], _, _ => rfl
  | f + 1, f' + 1, p, c :: r, h, h' => by
    simp only [List.length_cons] at h h'
    have key : ∀ (q k : Nat) (l : List UInt8), l.length ≤ r.length → lexG f q l = lexG f' q l := fun q k l hl => lex_fuel f f' q l (by omega) (by omega)
    unfold lexG
    split
    · exact key _ 0 _ (by simp)
    · split
      · exact key _ 0 _ (Nat.le_refl _)
      · split
        · rfl
        · rename_i k len n ht
          have := tokF_len ht
          rw [key _ 0 _ (by simp; omega)]
def lexL (p : Nat) (l : List UInt8) : Lx := lexG (l.length + 1) p l
theorem lexL_nil (p : Nat) : lexL p [] = ⟨[], none⟩ := rfl
theorem lexL_hash {p : Nat} {c : UInt8} {r : List UInt8} (h : isHash c = true) : lexL p (c :: r) = lexL (p + 1 + spanN noNl r) (r.drop (spanN noNl r)) := by
  unfold lexL
  rw [lexG, h]
  exact lex_fuel _ _ _ _ (by simp; omega) (by simp)
theorem lexL_sp {p : Nat} {c : UInt8} {r : List UInt8} (h : isHash c = false) (h2 : isSp c = true) : lexL p (c :: r) = lexL (p + 1) r := by
  unfold lexL
  rw [lexG, h, h2]
  exact lex_fuel _ _ _ _ (by simp) (by simp)
theorem lexL_bad {p : Nat} {c : UInt8} {r : List UInt8} {e : Int} (h : isHash c = false) (h2 : isSp c = false) (ht : tokF (c :: r) = .bad e) : lexL p (c :: r) = ⟨[], some (p, e)⟩ := by
  unfold lexL
  rw [lexG, h, h2, ht]
theorem lexL_tok {p : Nat} {c : UInt8} {r : List UInt8} {k : Int} {len : Nat} {n : Int} (h : isHash c = false) (h2 : isSp c = false) (ht : tokF (c :: r) = .tok k len n) :
    lexL p (c :: r) = Lx.cons ⟨k, p, bs ((c :: r).take len), n⟩ (lexL (p + len) ((c :: r).drop len)) := by
  have hl := tokF_len ht
  unfold lexL
  rw [lexG, h, h2, ht]
  simp only
  rw [lex_fuel _ (((c :: r).drop len).length + 1) _ _ (by simp at hl ⊢; omega) (by simp)]
theorem nl_sp {c : UInt8} (h : noNl c = false) : isHash c = false ∧ isSp c = true := by
  have : (c.toNat : Int) = 10 := by simpa [noNl] using h
  simp [isHash, isSp, this]
theorem lexL_skips : ∀ (l : List UInt8) (p : Nat), lexL p l = lexL (p + skipN false l) (l.drop (skipN false l)) ∧ lexL (p + spanN noNl l) (l.drop (spanN noNl l)) = lexL (p + skipN true l) (l.drop (skipN true l))
  | [], p => by simp [skipN, spanN]
  | c :: r, p => by
    obtain ⟨h1, h2⟩ := lexL_skips r (p + 1)
    have e : ∀ n, p + (n + 1) = p + 1 + n := fun n => by omega
    constructor
    · cases hh : isHash c with
      | true =>
        have : skipN false (c :: r) = skipN true r + 1 := by simp [skipN, hh]
        rw [this, lexL_hash hh, h2, List.drop_succ_cons, e (skipN true r)]
      | false =>
        cases hs : isSp c with
        | true =>
          have : skipN false (c :: r) = skipN false r + 1 := by simp [skipN, hh, hs]
          rw [this, lexL_sp hh hs, h1, List.drop_succ_cons, e (skipN false r)]
        | false =>
          have : skipN false (c :: r) = 0 := by simp [skipN, hh, hs]
          rw [this]; rfl
    · cases hn : noNl c with
      | true =>
        have a : spanN noNl (c :: r) = spanN noNl r + 1 := by simp [spanN, hn]
        have b : skipN true (c :: r) = skipN true r + 1 := by simp [skipN, hn]
        rw [a, b, List.drop_succ_cons, List.drop_succ_cons, e (spanN noNl r), e (skipN true r)]
        exact h2
      | false =>
        obtain ⟨hh, hs⟩ := nl_sp hn
        have a : spanN noNl (c :: r) = 0 := by simp [spanN, hn]
        have b : skipN true (c :: r) = skipN false r + 1 := by simp [skipN, hn]
        rw [a, b, List.drop_zero, Nat.add_zero, lexL_sp hh hs, h1, List.drop_succ_cons, e (skipN false r)]
theorem lexL_skip (p : Nat) (l : List UInt8) : lexL p l = lexL (p + skipN false l) (l.drop (skipN false l)) := (lexL_skips l p).1
/-- Nothing, or a byte that is no white space. -/
def clean : List UInt8 → Prop
  | [] => True
  | c :: _ => isHash c = false ∧ isSp c = false
theorem skip_clean : ∀ (b : Bool) (l : List UInt8), clean (l.drop (skipN b l))
  | b, [] => by cases b <;> simp [skipN, clean]
  | true, c :: r => by
    unfold skipN
    split
    · rw [List.drop_succ_cons]; exact skip_clean true r
    · rw [List.drop_succ_cons]; exact skip_clean false r
  | false, c :: r => by
    cases hh : isHash c with
    | true =>
      have : skipN false (c :: r) = skipN true r + 1 := by simp [skipN, hh]
      rw [this, List.drop_succ_cons]; exact skip_clean true r
    | false =>
      cases hs : isSp c with
      | true =>
        have : skipN false (c :: r) = skipN false r + 1 := by simp [skipN, hh, hs]
        rw [this, List.drop_succ_cons]; exact skip_clean false r
      | false =>
        have : skipN false (c :: r) = 0 := by simp [skipN, hh, hs]
        rw [this]
        exact ⟨hh, hs⟩
def lexF' (s : ByteArray) : Lx := lexL 0 s.data.toList
def Lx.app (ts : List Tk) (x : Lx) : Lx := ⟨ts ++ x.toks, x.err⟩
theorem app_cons (ts : List Tk) (t : Tk) (x : Lx) : Lx.app ts (Lx.cons t x) = Lx.app (ts ++ [t]) x := by simp [Lx.app, Lx.cons]
/-- What both Tokens hand back. -/
def lexR (s : ByteArray) : A := match (lexF' s).err with
  | some (p, e) => .tup [.v (.slice none 0 0), intA p, intA e]
  | none => .tup [.sl 4 ((lexF' s).toks.length + 1) (tksL ((lexF' s).toks ++ [endTk s])), intA 0, intA 0]
theorem lexR_err {s : ByteArray} {ts : List Tk} {p : Nat} {e : Int} (h : lexF' s = ⟨ts, some (p, e)⟩) : lexR s = .tup [.v (.slice none 0 0), intA p, intA e] := by unfold lexR; rw [h]
theorem lexR_ok {s : ByteArray} {ts : List Tk} (h : lexF' s = ⟨ts, none⟩) : lexR s = .tup [.sl 4 (ts.length + 1) (tksL ts ++ tkL (endTk s)), intA 0, intA 0] := by
  unfold lexR
  rw [h]
  simp [tksL]
theorem tksL_snoc (ts : List Tk) (t : Tk) : tksL (ts ++ [t]) = tksL ts ++ tkL t := by simp [tksL]
theorem take_size (l : List UInt8) (len : Nat) (h : len ≤ l.length) : (bs (l.take len)).size = len := by rw [bs_size, List.length_take]; omega
theorem rtokens_spec (s : ByteArray) (hs : s.size ≤ 1000000000) : Spec Tryd.prog 18 [] [.v (.string s)] fun _ r => r = lexR s := by
  have hsl := size_len s
  refine spec_of (cx_ok ord0 xs0 0) Tryd.func18 rfl (by kernel_rfl) rfl (by kernel_rfl) ?_
  intro _
  conv => whnf
  refine call0 [] rfl (fun _ => skip_spec s 0 hs (Nat.zero_le _)) ?_
  rintro r rfl
  have hk0 := skipN_le false s.data.toList
  rw [List.drop_zero, Nat.zero_add]
  conv => whnf
  refine loop_row 49 4 [5] [] ?_
  conv => whnf
  refine ⟨trivial, ?_⟩
  conv => whnf
  refine loop_keep [0, 5] ?_
  conv => whnf
  refine loop_go (fun x : Nat × List Tk => [(6, .v (.int .i64 x.1))]) (fun _ => []) (fun x => [.live 49 4 x.2.length (tksL x.2)]) (fun x => x.1 ≤ s.size ∧ x.2.length ≤ x.1 ∧ clean (s.data.toList.drop x.1) ∧ Lx.app x.2 (lexL x.1 (s.data.toList.drop x.1)) = lexF' s) (fun x => s.size - x.1)
    (skipN false s.data.toList, []) ?_ ⟨by simp only; omega, by simp, by have := skip_clean false s.data.toList; simpa using this, by
      have := lexL_skip 0 s.data.toList
      rw [Nat.zero_add] at this
      simp only [Lx.app, List.nil_append, lexF']
      rw [this]⟩ ?_
  · repeat' constructor
  · rintro ⟨p, ts⟩ ⟨hp, hts, hcl, hinv⟩
    simp only at hp hts hcl hinv
    conv => whnf
    by_cases hlt : p < s.size
    · refine br_true (by simp; omega) ?_
      conv => whnf
      refine call0 [] rfl (fun _ => token_spec s p hs hlt) ?_
      rintro r rfl
      have hd := drop_cons s.data.toList p (by omega)
      generalize s.data.toList[p]'(by omega) = c at *
      generalize s.data.toList.drop (p + 1) = r at *
      rw [hd] at hcl hinv
      cases ht : tokF (c :: r) with
      | bad e =>
        rw [tokR_bad (e := e) (by rw [hd]; exact ht)]
        rw [lexL_bad hcl.1 hcl.2 ht] at hinv
        have hne := tokF_bad ht
        conv => whnf
        refine br_true (by simpa using hne) ?_
        conv => whnf
        rw [lexR_err (ts := ts ++ []) (p := p) (e := e) hinv.symm]; rfl
      | tok k len n =>
        have hl := tokF_len ht
        have hrl : (c :: r).length = s.size - p := by rw [← hd, List.length_drop, hsl]
        have htx := take_size (c :: r) len hl.2
        rw [tokR_tok (k := p) (kd := k) (len := len) (n := n) (by rw [hd]; exact ht), hd]
        rw [lexL_tok hcl.1 hcl.2 ht, app_cons] at hinv
        conv => whnf
        refine ⟨⟨by unfold maxLen; simp only; omega, by simp only; omega⟩, ?_⟩
        conv => whnf
        rw [htx]
        refine ⟨i64r (by omega), ?_⟩
        conv => whnf
        refine call0 [] rfl (fun _ => skip_spec s (p + len) hs (by omega)) ?_
        rintro x rfl
        have hk2 := skipN_le false (s.data.toList.drop (p + len))
        rw [List.length_drop, hsl] at hk2
        have hcl2 := skip_clean false (s.data.toList.drop (p + len))
        have hsk := lexL_skip (p + len) (s.data.toList.drop (p + len))
        rw [List.drop_drop] at hcl2 hsk
        have hdl : (c :: r).drop len = s.data.toList.drop (p + len) := by rw [← hd, List.drop_drop]
        rw [hdl, hsk] at hinv
        generalize skipN false (s.data.toList.drop (p + len)) = q at *
        conv => whnf
        refine ⟨(p + len + q, ts ++ [⟨k, p, bs ((c :: r).take len), n⟩]), le_head ?_, ⟨by simp only; omega, by simp; omega, hcl2, hinv⟩, by simp only; omega⟩
        repeat' constructor
        · simp only [List.length_append, List.length_cons, List.length_nil, tksL_snoc]; rfl
    · refine br_false (by simp; omega) ?_
      obtain rfl : p = s.size := by omega
      rw [List.drop_of_length_le (by omega), lexL_nil] at hinv
      conv => whnf
      refine ⟨⟨by unfold maxLen; simp only; omega, by simp only; omega⟩, ?_⟩
      conv => whnf
      have hl : lexF' s = ⟨ts, none⟩ := by rw [← hinv]; simp [Lx.app]
      rw [lexR_ok hl]; rfl
end Go.Proofs.YthaccjcadgodlaaDoor.Vm
