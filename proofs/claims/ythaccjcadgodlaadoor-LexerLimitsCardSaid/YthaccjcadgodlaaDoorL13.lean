/- More laws of the plain lexer: tokens alone, tokens with white space between them, numbers. No program is named here. -/
import Derived.Test.YthaccjcadgodlaaDoorL11
import Derived.Test.YthaccjcadgodlaaDoorL8
namespace Go.Proofs.YthaccjcadgodlaaDoor.Vm
open Go.RowKit
set_option linter.unusedSimpArgs false
set_option linter.unusedVariables false
set_option maxRecDepth 100000
theorem lexR_bad {s : ByteArray} {p : Nat} {e : Int} (h : (lexF' s).err = some (p, e)) : lexR s = .tup [.v (.slice none 0 0), intA p, intA e] := by unfold lexR; rw [h]
theorem bad_rng {s : ByteArray} {p : Nat} {e : Int} (h : (lexF' s).err = some (p, e)) : p ≤ s.size ∧ e ≠ 0 ∧ 0 ≤ e ∧ e ≤ 100 := by
  have hx := (lexG_ok (s.data.toList.length + 1) 0 s.data.toList).2 p e h
  have hsl := size_len s
  exact ⟨by omega, hx.2⟩
theorem spn_take : ∀ (q : UInt8 → Bool) (r : List UInt8), spanN q (r.take (spanN q r)) = spanN q r
  | q, [] => by simp [spanN]
  | q, c :: r => by
    cases hc : q c with
    | true =>
      have : spanN q (c :: r) = spanN q r + 1 := by simp [spanN, hc]
      rw [this, List.take_succ_cons]
      simp only [spanN, hc, spn_take q r]
    | false =>
      have : spanN q (c :: r) = 0 := by simp [spanN, hc]
      rw [this]; rfl
/-- A token's own text is that token. -/
theorem tokF_take {l : List UInt8} {k n : Int} {len : Nat} (h : tokF l = .tok k len n) : tokF (l.take len) = .tok k len n := by
  cases l with
  | nil => simp [tokF] at h
  | cons c r =>
    cases hL : isL c
    · cases hD : isD c
      · cases h3 : hasF twos (bs ((c :: r).take 2))
        · cases h4 : hasF ones (bs [c])
          · simp only [tokF, hL, hD, h3, h4] at h
            cases h
          · simp only [tokF, hL, hD, h3, h4] at h
            cases h
            show tokF [c] = _
            have : hasF twos (bs ([c].take 2)) = false := one_two c
            simp only [tokF, hL, hD, this, h4]
        · simp only [tokF, hL, hD, h3] at h
          cases h
          cases r with
          | nil => rw [show (c :: ([] : List UInt8)).take 2 = [c] from rfl, one_two] at h3; cases h3
          | cons d r =>
            show tokF [c, d] = _
            have : hasF twos (bs ([c, d].take 2)) = true := h3
            simp only [tokF, hL, hD, this]
      · simp only [tokF, hL, hD] at h
        split at h
        · cases h
        · rename_i hv
          cases h
          rw [List.take_succ_cons]
          simp only [tokF, hL, hD, spn_take, List.take_take, Nat.min_self, hv, if_false]
    · simp only [tokF, hL] at h
      split at h
      · cases h
      · rename_i hv
        cases h
        rw [List.take_succ_cons]
        simp only [tokF, hL, spn_take, hv, if_false]
/-- A token that stands alone: no white space at its beginning, and its text is it. -/
def Alone (t : Tk) : Prop := ∃ c r, t.text = bs (c :: r) ∧ isHash c = false ∧ isSp c = false ∧ tokF (c :: r) = .tok t.kind (c :: r).length t.n
theorem good_alone : ∀ (ts : List Tk) (p : Nat) (l : List UInt8), Good p l ts → ∀ t ∈ ts, Alone t
  | [], _, _, _, t, ht => by cases ht
  | t0 :: ts, p, l, h, t, ht => by
    obtain ⟨h1, len, h2, h3, h4, h5, h6⟩ := h
    rcases List.mem_cons.1 ht with rfl | ht
    · have hc := skip_clean false l
      cases hd : l.drop (skipN false l) with
      | nil => rw [hd] at h5; simp [tokF] at h5
      | cons c r =>
        rw [hd] at h4 h5 hc
        obtain ⟨len, rfl⟩ : ∃ m, len = m + 1 := ⟨len - 1, by omega⟩
        have hl := tokF_len h5
        have e := tokF_take h5
        rw [List.take_succ_cons] at h4 e
        refine ⟨c, r.take len, h4, hc.1, hc.2, ?_⟩
        rw [e]
        congr 1
        simp only [List.length_cons, List.length_take] at hl ⊢
        omega
    · exact good_alone ts _ _ h6 t ht
theorem lex_alone {t : Tk} (h : Alone t) {x : UInt8} (hx : stops x = true) (p : Nat) (m : List UInt8) : lexL p (t.text.data.toList ++ x :: m) = Lx.cons ⟨t.kind, p, t.text, t.n⟩ (lexL (p + t.text.size) (x :: m)) := by
  obtain ⟨c, r, e, h1, h2, h3⟩ := h
  have e1 : t.text.data.toList = c :: r := by rw [e]; rfl
  have e2 : t.text.size = (c :: r).length := by rw [e]; rfl
  have h4 := tokF_stop hx c r m
  rw [h3] at h4
  rw [e1, List.cons_append, lexL_tok h1 h2 (by rw [← List.cons_append]; exact h4), ← List.cons_append, List.take_left, List.drop_left, e2, ← e]
def wseps : List (List UInt8) := [[32], [10], [9, 32], [35, 120, 61, 49, 10], [32, 35, 10, 35, 10]]
theorem sep_white {q : List UInt8} (hq : q ∈ wseps) (p : Nat) (m : List UInt8) : lexL p (q ++ m) = lexL (p + q.length) m := by
  unfold wseps at hq
  simp only [List.mem_cons, List.not_mem_nil, or_false] at hq
  have nl : ∀ p, lexL p (10 :: m) = lexL (p + 1) m := fun p => lexL_sp (by decide) (by decide)
  rcases hq with rfl | rfl | rfl | rfl | rfl
  · exact lexL_sp (by decide) (by decide)
  · exact nl p
  · show lexL p (9 :: 32 :: m) = _
    rw [lexL_sp (by decide) (by decide), lexL_sp (by decide) (by decide)]; rfl
  · show lexL p (35 :: 120 :: 61 :: 49 :: 10 :: m) = _
    rw [lexL_hash (by decide)]
    have e : spanN noNl (120 :: 61 :: 49 :: 10 :: m) = 3 := by rfl
    rw [e]
    exact nl _
  · show lexL p (32 :: 35 :: 10 :: 35 :: 10 :: m) = _
    rw [lexL_sp (by decide) (by decide), lexL_hash (by decide)]
    have e : spanN noNl (10 :: 35 :: 10 :: m) = 0 := by rfl
    rw [e]
    show lexL (p + 1 + 1 + 0) (10 :: 35 :: 10 :: m) = _
    rw [lexL_sp (by decide) (by decide), lexL_hash (by decide)]
    have e : spanN noNl (10 :: m) = 0 := by rfl
    rw [e]
    exact nl _
theorem sep_stops {q : List UInt8} (hq : q ∈ wseps) : ∃ x r, q = x :: r ∧ stops x = true := by
  unfold wseps at hq
  simp only [List.mem_cons, List.not_mem_nil, or_false] at hq
  rcases hq with rfl | rfl | rfl | rfl | rfl <;> exact ⟨_, _, rfl, by decide⟩
/-- Texts, each with white space ahead of it. -/
def spread : List (List UInt8) → List ByteArray → List UInt8
  | q :: qs, t :: ts => q ++ t.data.toList ++ spread qs ts
  | _, _ => []
theorem spread_snoc : ∀ (qs : List (List UInt8)) (ts : List ByteArray) (q : List UInt8) (t : ByteArray), qs.length = ts.length → spread (qs ++ [q]) (ts ++ [t]) = spread qs ts ++ q ++ t.data.toList
  | [], [], q, t, _ => by simp [spread]
  | a :: qs, b :: ts, q, t, h => by
    have := spread_snoc qs ts q t (by simpa using h)
    simp [spread, this]
  | [], _ :: _, _, _, h => by simp at h
  | _ :: _, [], _, _, h => by simp at h
/-- What is compared of tokens. -/
def Alike3 (t u : Tk) : Prop := u.kind = t.kind ∧ u.text = t.text ∧ u.n = t.n
theorem lex_spread : ∀ (ts : List Tk) (qs : List (List UInt8)) (q : List UInt8) (p : Nat), (∀ t ∈ ts, Alone t) → (∀ q ∈ qs, q ∈ wseps) → q ∈ wseps → qs.length = ts.length →
    ∃ us, lexL p (spread (qs ++ [q]) (ts.map (·.text) ++ [⟨#[]⟩])) = ⟨us, none⟩ ∧ us.length = ts.length ∧ ∀ i (h : i < ts.length) (h' : i < us.length), Alike3 ts[i] us[i]
  | [], [], q, p, _, _, hq, _ => by
    refine ⟨[], ?_, rfl, fun i h => by simp at h⟩
    show lexL p (q ++ [] ++ []) = _
    rw [List.append_nil, sep_white hq]; rfl
  | t :: ts, q0 :: qs, q, p, ht, hqs, hq, hl => by
    have hq0 := hqs q0 (by simp)
    obtain ⟨us, h1, h2, h3⟩ := lex_spread ts qs q (p + q0.length + t.text.size) (fun t h => ht t (by simp [h])) (fun q h => hqs q (by simp [h])) hq (by simpa using hl)
    obtain ⟨x, m, hxm, hx⟩ : ∃ x m, spread (qs ++ [q]) (ts.map (·.text) ++ [⟨#[]⟩]) = x :: m ∧ stops x = true := by
      cases qs with
      | nil =>
        cases ts with
        | nil =>
          obtain ⟨x, r, rfl, hx⟩ := sep_stops hq
          exact ⟨x, _, rfl, hx⟩
        | cons => simp at hl
      | cons q1 qs =>
        cases ts with
        | nil => simp at hl
        | cons t1 ts =>
          obtain ⟨x, r, rfl, hx⟩ := sep_stops (hqs q1 (by simp))
          exact ⟨x, _, rfl, hx⟩
    refine ⟨⟨t.kind, p + q0.length, t.text, t.n⟩ :: us, ?_, by simp [h2], fun i h h' => ?_⟩
    · show lexL p (q0 ++ t.text.data.toList ++ spread (qs ++ [q]) (ts.map (·.text) ++ [⟨#[]⟩])) = _
      rw [List.append_assoc, sep_white hq0]
      rw [hxm] at h1 ⊢
      rw [lex_alone (ht t (by simp)) hx, h1]
      rfl
    · cases i with
      | zero => exact ⟨rfl, rfl, rfl⟩
      | succ i => simpa using h3 i (by simpa using h) (by simpa using h')
  | [], _ :: _, _, _, _, _, _, h => by simp at h
  | _ :: _, [], _, _, _, _, _, h => by simp at h
/-! ### Offsets -/
structure Step (s : ByteArray) (ts : List Tk) (k E : Nat) (t : Tk) : Prop where
  le : E ≤ t.pos
  end' : t.pos + t.text.size ≤ s.size
  last : (t.text = ⟨#[]⟩) ↔ k = ts.length
  text : s.extract t.pos (t.pos + t.text.size) = t.text
  gap : lexF' (s.extract E t.pos) = ⟨[], none⟩
  next : k < ts.length → Good (t.pos + t.text.size) (s.data.toList.drop (t.pos + t.text.size)) (ts.drop (k + 1))
  word : t.kind = 1 → ∀ d, s.data.toList[t.pos + t.text.size]? = some d → isLD d = false
  num : t.kind = 2 → ∀ d, s.data.toList[t.pos + t.text.size]? = some d → isD d = false
theorem ext_list (s : ByteArray) (i j : Nat) : (s.extract i j).data.toList = (s.data.toList.drop i).take (j - i) := by
  rw [ByteArray.data_extract, Array.toList_extract, List.extract_eq_take_drop]
theorem ba_ext {a b : ByteArray} (h : a.data.toList = b.data.toList) : a = b := ByteArray.ext (Array.toList_inj.1 h)
theorem step_of {s : ByteArray} {ts : List Tk} {k E : Nat} (hk : k ≤ ts.length) (hE : E ≤ s.size) (h : Good E (s.data.toList.drop E) (ts.drop k)) : Step s ts k E ((ts ++ [endTk s]).getD k (endTk s)) := by
  have hsl := size_len s
  have hdl : (s.data.toList.drop E).length = s.size - E := by rw [List.length_drop, hsl]
  have hsk := skipN_le false (s.data.toList.drop E)
  have gap : ∀ q, q = E + skipN false (s.data.toList.drop E) → lexF' (s.extract E q) = ⟨[], none⟩ := fun q hq => by
    unfold lexF'
    rw [ext_list, hq, show E + skipN false (s.data.toList.drop E) - E = skipN false (s.data.toList.drop E) by omega]
    exact gap_white 0 _
  rcases Nat.lt_or_ge k ts.length with hlt | hge
  · have e1 : (ts ++ [endTk s]).getD k (endTk s) = ts[k] := by
      rw [List.getD_eq_getElem?_getD, List.getElem?_append_left hlt, List.getElem?_eq_getElem hlt]; rfl
    have e2 : ts.drop k = ts[k] :: ts.drop (k + 1) := List.drop_eq_getElem_cons hlt
    rw [e2] at h
    rw [e1]
    generalize ts[k] = t at *
    obtain ⟨h1, len, h2, h3, h4, h5, h6⟩ := h
    have hts : t.text.size = len := by
      rw [h4, bs_size, List.length_take, List.length_drop]; omega
    have hx : ∀ d, s.data.toList[t.pos + t.text.size]? = some d → ((s.data.toList.drop E).drop (skipN false (s.data.toList.drop E)))[len]? = some d := fun d hd => by
      rw [List.drop_drop, List.getElem?_drop, ← hd, h1, hts]
    refine ⟨by omega, by omega, ⟨fun e => ?_, fun e => by omega⟩, ?_, gap _ h1, fun _ => ?_, fun hk d hd => ?_, fun hk d hd => ?_⟩
    · have := congrArg ByteArray.size e
      rw [hts] at this
      have h0 : (⟨#[]⟩ : ByteArray).size = 0 := rfl
      omega
    · apply ba_ext
      rw [ext_list, h4, show t.pos + (bs (((s.data.toList.drop E).drop (skipN false (s.data.toList.drop E))).take len)).size - t.pos = len by rw [← h4, hts]; omega, List.drop_drop, ← h1]
      rfl
    · rw [hts, h1]
      rw [List.drop_drop] at h6
      rw [show E + skipN false (s.data.toList.drop E) + len = E + (skipN false (s.data.toList.drop E) + len) by omega] at h6 ⊢
      exact h6
    · exact (tok_next h5 (hx d hd)).1 hk
    · exact (tok_next h5 (hx d hd)).2 hk
  · obtain rfl : k = ts.length := by omega
    have e1 : (ts ++ [endTk s]).getD ts.length (endTk s) = endTk s := by simp
    rw [e1]
    rw [List.drop_length] at h
    have h : skipN false (s.data.toList.drop E) = (s.data.toList.drop E).length := h
    have e0 : (endTk s).text.size = 0 := rfl
    have ep : (endTk s).pos = s.size := rfl
    have none : ∀ d, s.data.toList[(endTk s).pos + (endTk s).text.size]? = some d → False := fun d hd => by
      have := (List.getElem?_eq_some_iff.1 hd).1
      omega
    refine ⟨by omega, by omega, ⟨fun _ => rfl, fun _ => rfl⟩, ?_, gap _ (by omega), fun h => by omega, fun _ d hd => (none d hd).elim, fun _ d hd => (none d hd).elim⟩
    apply ba_ext
    rw [ext_list, e0]
    simp [endTk]
/-! ### Numbers -/
def horner : Int → List UInt8 → Int
  | n, [] => n
  | n, c :: r => horner (10 * n + (c.toNat : Int) - 48) r
theorem dig_rng {c : UInt8} (h : isD c = true) : 48 ≤ (c.toNat : Int) ∧ (c.toNat : Int) ≤ 57 := by
  unfold isD at h
  simp only [Bool.and_eq_true, decide_eq_true_eq] at h
  exact h
theorem horner_ge : ∀ (l : List UInt8) (n : Int), 0 ≤ n → (∀ c ∈ l, isD c = true) → n ≤ horner n l
  | [], n, _, _ => Int.le_refl n
  | c :: r, n, h0, h => by
    have hc := dig_rng (h c (by simp))
    have := horner_ge r (10 * n + (c.toNat : Int) - 48) (by omega) (fun c hc => h c (by simp [hc]))
    show n ≤ horner (10 * n + (c.toNat : Int) - 48) r
    omega
theorem valF_horner : ∀ (l : List UInt8) (n : Int), 0 ≤ n → n ≤ 2147483647 → (∀ c ∈ l, isD c = true) → valF n l = if 2147483647 < horner n l then -1 else horner n l
  | [], n, _, h, _ => by
    show n = if 2147483647 < n then -1 else n
    rw [if_neg (by omega)]
  | c :: r, n, h0, h1, h => by
    have hc := dig_rng (h c (by simp))
    have hr : ∀ c ∈ r, isD c = true := fun c hc => h c (by simp [hc])
    show (if 2147483647 < 10 * n + (c.toNat : Int) - 48 then -1 else valF (10 * n + (c.toNat : Int) - 48) r) = if 2147483647 < horner (10 * n + (c.toNat : Int) - 48) r then -1 else horner (10 * n + (c.toNat : Int) - 48) r
    have hg := horner_ge r (10 * n + (c.toNat : Int) - 48) (by omega) hr
    by_cases hx : 2147483647 < 10 * n + (c.toNat : Int) - 48
    · rw [if_pos hx, if_pos (by omega)]
    · rw [if_neg hx, valF_horner r _ (by omega) (by omega) hr]
theorem horner_app : ∀ (l m : List UInt8) (n : Int), horner n (l ++ m) = horner (horner n l) m
  | [], m, n => rfl
  | c :: r, m, n => horner_app r m _
/-- The digits of a number that is not 0. -/
def decD (n : Nat) : List UInt8 := if h : n = 0 then [] else decD (n / 10) ++ [UInt8.ofNat (48 + n % 10)]
decreasing_by omega
theorem decD_zero : decD 0 = [] := by unfold decD; simp
theorem decD_pos {n : Nat} (h : n ≠ 0) : decD n = decD (n / 10) ++ [UInt8.ofNat (48 + n % 10)] := by
  rw [decD]; simp [h]
theorem dig_nat (n : Nat) : ((UInt8.ofNat (48 + n % 10)).toNat : Int) = 48 + n % 10 := by
  rw [UInt8.toNat_ofNat']; omega
theorem decD_isD : ∀ (f n : Nat), n ≤ f → ∀ c ∈ decD n, isD c = true
  | f, 0, _, c, hc => by rw [decD_zero] at hc; cases hc
  | 0, n + 1, h, _, _ => by omega
  | f + 1, n + 1, h, c, hc => by
    rw [decD_pos (by omega)] at hc
    rcases List.mem_append.1 hc with hc | hc
    · exact decD_isD f ((n + 1) / 10) (by omega) c hc
    · obtain rfl := List.mem_singleton.1 hc
      unfold isD
      rw [dig_nat]
      simp only [Bool.and_eq_true, decide_eq_true_eq]
      omega
theorem decD_val : ∀ (f n : Nat), n ≤ f → horner 0 (decD n) = n
  | f, 0, _ => by rw [decD_zero]; rfl
  | 0, n + 1, h => by omega
  | f + 1, n + 1, h => by
    rw [decD_pos (by omega), horner_app, decD_val f ((n + 1) / 10) (by omega)]
    show 10 * (((n + 1) / 10 : Nat) : Int) + ((UInt8.ofNat (48 + (n + 1) % 10)).toNat : Int) - 48 = _
    rw [dig_nat]; omega
def decS (n : Nat) : List UInt8 := if n = 0 then [48] else decD n
theorem decS_isD (n : Nat) : ∀ c ∈ decS n, isD c = true := by
  unfold decS
  split
  · intro c hc; obtain rfl := List.mem_singleton.1 hc; decide
  · exact decD_isD n n (Nat.le_refl _)
theorem decS_val (n : Nat) : horner 0 (decS n) = n := by
  unfold decS
  split
  · rename_i h; subst h; rfl
  · exact decD_val n n (Nat.le_refl _)
theorem decS_ne (n : Nat) : decS n ≠ [] := by
  unfold decS
  split
  · simp
  · rename_i h; rw [decD_pos h]; simp
theorem decD_len : ∀ (k n : Nat), n < 10 ^ k → (decD n).length ≤ k
  | k, 0, _ => by rw [decD_zero]; simp
  | 0, n + 1, h => by simp at h
  | k + 1, n + 1, h => by
    rw [decD_pos (by omega), List.length_append]
    have := decD_len k ((n + 1) / 10) (by rw [Nat.pow_succ] at h; omega)
    simp only [List.length_cons, List.length_nil]; omega
theorem span_all {q : UInt8 → Bool} : ∀ (r : List UInt8), (∀ c ∈ r, q c = true) → spanN q r = r.length
  | [], _ => rfl
  | c :: r, h => by
    have hc := h c (by simp)
    have := span_all r (fun c hc => h c (by simp [hc]))
    simp [spanN, hc, this]
theorem D_not_L {c : UInt8} (h : isD c = true) : isL c = false := by
  have := dig_rng h
  unfold isL
  rw [decide_eq_false (by omega)]; rfl
/-- Digits alone. -/
theorem tok_digits {l : List UInt8} (hne : l ≠ []) (h : ∀ c ∈ l, isD c = true) : tokF l = if 2147483647 < horner 0 l then .bad 6 else .tok 2 l.length (horner 0 l) := by
  cases l with
  | nil => exact absurd rfl hne
  | cons c r =>
    have hr : ∀ c ∈ r, isD c = true := fun c hc => h c (by simp [hc])
    have hc := h c (by simp)
    have h0 := horner_ge (c :: r) 0 (by omega) h
    simp only [tokF, D_not_L hc, hc, span_all r hr, List.take_length]
    rw [valF_horner (c :: r) 0 (by omega) (by omega) h]
    by_cases hx : 2147483647 < horner 0 (c :: r)
    · rw [if_pos hx, if_pos (by omega), if_pos hx]
    · rw [if_neg hx, if_neg (by omega), if_neg hx]; rfl
theorem tok_word {c : UInt8} {r : List UInt8} (hc : isL c = true) (h : ∀ c ∈ r, isLD c = true) : tokF (c :: r) = if 10 < (c :: r).length then .bad 2 else .tok 1 (c :: r).length 0 := by
  simp only [tokF, hc, span_all r h, List.length_cons]
theorem tok_single {c : UInt8} (h1 : isL c = false) (h2 : isD c = false) (h3 : hasF ones (bs [c]) = true) (h4 : (twos.all fun t => !decide (t.data.toList[0]? = some c)) = true) (r : List UInt8) : tokF (c :: r) = .tok 3 1 0 := by
  have : hasF twos (bs ((c :: r).take 2)) = false := by
    rw [List.all_eq_true] at h4
    unfold hasF
    rw [List.any_eq_false]
    intro t ht he
    have he := of_decide_eq_true he
    have := h4 t ht
    rw [he] at this
    simp [bs] at this
  simp only [tokF, h1, h2, h3, this]
end Go.Proofs.YthaccjcadgodlaaDoor.Vm
