/- The plain law of events and questions: what is printed and what is read. -/
import Derived.Test.YtinjgckpmblffaaDoorN6
namespace Go.Proofs.YtinjgckpmblffaaDoor.Vm
open Go.RowKit Go.Shelf
set_option linter.unusedSimpArgs false
set_option linter.unusedVariables false
set_option maxRecDepth 100000
def wordE (k : Int) : List UInt8 := (eWords.getD k.toNat ⟨#[]⟩).data.toList
def wordQ (k : Int) : List UInt8 := (qWords.getD k.toNat ⟨#[]⟩).data.toList
def mDots (m : Ms) : List Int := [m.c.node, m.c.handler, m.c.count, m.index, m.copy]
def restE (e : Ev) : List UInt8 := if e.kind = 3 ∨ e.kind = 5 ∨ e.kind = 6 then 32 :: dots (mDots e.msg) else if e.kind = 7 then [] else 32 :: Lib.itoa e.arg
def rawE (e : Ev) : List UInt8 := wordE e.kind ++ 32 :: (Lib.itoa e.node ++ restE e)
def numOk (n : Int) : Prop := 0 ≤ n ∧ n ≤ 2147483647
def causeOk (c : Cs) (h : Int) : Prop := (0 ≤ c.node ∧ c.node < 12) ∧ (0 ≤ c.handler ∧ c.handler < h) ∧ numOk c.count
def msgOk (m : Ms) : Prop := causeOk m.c 40 ∧ numOk m.index ∧ numOk m.copy
def wellE (e : Ev) : Prop := (0 ≤ e.node ∧ e.node ≤ 11) ∧ (((e.kind = 1 ∨ e.kind = 2 ∨ e.kind = 4) ∧ numOk e.arg ∧ e.msg = m0) ∨ ((e.kind = 3 ∨ e.kind = 5 ∨ e.kind = 6) ∧ e.arg = 0 ∧ msgOk e.msg) ∨ (e.kind = 7 ∧ e.arg = 0 ∧ e.msg = m0))
theorem words_ok : ∀ i : Nat, i < 8 → 0 < i → kUp eWords (bs (eWords.getD i ⟨#[]⟩).data.toList) 8 = i ∧ (32 : UInt8) ∉ (eWords.getD i ⟨#[]⟩).data.toList := by decide +kernel
theorem qwords_ok : ∀ i : Nat, i < 4 → 0 < i → kUp qWords (bs (qWords.getD i ⟨#[]⟩).data.toList) 4 = i ∧ (32 : UInt8) ∉ (qWords.getD i ⟨#[]⟩).data.toList ∧ kUp eWords (bs (qWords.getD i ⟨#[]⟩).data.toList) 8 = 0 := by decide +kernel
theorem wordE_ok {k : Int} (h1 : 1 ≤ k) (h7 : k ≤ 7) : kUp eWords (bs (wordE k)) 8 = k ∧ (32 : UInt8) ∉ wordE k := by
  have := words_ok k.toNat (by omega) (by omega)
  unfold wordE
  rw [show ((k.toNat : Nat) : Int) = k by omega] at this
  exact this
theorem wordQ_ok {k : Int} (h1 : 1 ≤ k) (h7 : k ≤ 3) : kUp qWords (bs (wordQ k)) 4 = k ∧ (32 : UInt8) ∉ wordQ k ∧ kUp eWords (bs (wordQ k)) 8 = 0 := by
  have := qwords_ok k.toNat (by omega) (by omega)
  unfold wordQ
  rw [show ((k.toNat : Nat) : Int) = k by omega] at this
  exact this
theorem within_iff (c : Cs) (n : Int) : withinF c n = true ↔ (0 ≤ c.node ∧ c.node < 12) ∧ (0 ≤ c.handler ∧ c.handler < n) := by
  unfold withinF
  simp only [Bool.and_eq_true, decide_eq_true_eq]
  omega
theorem msgP_dots (k n : Int) (m : Ms) : (msgOk m → msgP k n (dotP (dots (mDots m)) 5) = some ⟨k, n, 0, m⟩) ∧ (¬ msgOk m → msgP k n (dotP (dots (mDots m)) 5) = none) := by
  rw [dotP_dots (by simp [mDots])]
  by_cases h : (mDots m).length = 5 ∧ ∀ n ∈ mDots m, 0 ≤ n ∧ n ≤ 2147483647
  · rw [if_pos h, msgP_some]
    have hn : numOk m.c.node ∧ numOk m.c.handler ∧ numOk m.c.count ∧ numOk m.index ∧ numOk m.copy := ⟨h.2 _ (by simp [mDots]), h.2 _ (by simp [mDots]), h.2 _ (by simp [mDots]), h.2 _ (by simp [mDots]), h.2 _ (by simp [mDots])⟩
    show (_ → (match withinF m.c 40 with | true => some (⟨k, n, 0, m⟩ : Ev) | false => none) = _) ∧ (_ → (match withinF m.c 40 with | true => some (⟨k, n, 0, m⟩ : Ev) | false => none) = _)
    have hw := within_iff m.c 40
    cases hb : withinF m.c 40 with
    | true =>
      have := hw.1 hb
      exact ⟨fun _ => rfl, fun hno => absurd ⟨⟨this.1, this.2, hn.2.2.1⟩, hn.2.2.2⟩ hno⟩
    | false =>
      refine ⟨fun hy => ?_, fun _ => rfl⟩
      have := hw.2 ⟨hy.1.1, hy.1.2.1⟩
      rw [hb] at this; cases this
  · rw [if_neg h]
    refine ⟨fun hy => absurd ⟨rfl, fun x hx => ?_⟩ h, fun _ => rfl⟩
    obtain ⟨⟨h1, h2, h3⟩, h4, h5⟩ := hy
    simp only [mDots, List.mem_cons, List.not_mem_nil, or_false] at hx
    unfold numOk at *
    rcases hx with rfl | rfl | rfl | rfl | rfl <;> omega
theorem split_raw {e : Ev} (h1 : 1 ≤ e.kind) (h7 : e.kind ≤ 7) : splitC 32 (rawE e) = if e.kind = 3 ∨ e.kind = 5 ∨ e.kind = 6 then [wordE e.kind, Lib.itoa e.node, dots (mDots e.msg)] else if e.kind = 7 then [wordE e.kind, Lib.itoa e.node] else [wordE e.kind, Lib.itoa e.node, Lib.itoa e.arg] := by
  obtain ⟨_, hw⟩ := wordE_ok h1 h7
  unfold rawE restE
  rw [splitC_app 32 _ _ hw]
  split
  · rw [splitC_app 32 _ _ (itoa_32 _), splitC_no 32 _ (dots_32 _)]
  · split
    · rw [List.append_nil, splitC_no 32 _ (itoa_32 _)]
    · rw [splitC_app 32 _ _ (itoa_32 _), splitC_no 32 _ (itoa_32 _)]
theorem parse_raw {e : Ev} (h1 : 1 ≤ e.kind) (h7 : e.kind ≤ 7) : parseE (rawE e) = some e ↔ wellE e := by
  have hk := (wordE_ok h1 h7).1
  have hs := split_raw h1 h7
  unfold parseE
  by_cases hM : e.kind = 3 ∨ e.kind = 5 ∨ e.kind = 6
  · rw [if_pos hM] at hs
    rw [hs]
    show wordsE (kUp eWords (bs (wordE e.kind)) 8) [wordE e.kind, Lib.itoa e.node, dots (mDots e.msg)] = some e ↔ _
    rw [hk]
    unfold wordsE
    rw [if_neg (by rw [if_neg (by omega)]; simp; omega)]
    show tailP e.kind [wordE e.kind, Lib.itoa e.node, dots (mDots e.msg)] (dotP (Lib.itoa e.node) 1) = _ ↔ _
    rw [dotP_itoa]
    by_cases hn : 0 ≤ e.node ∧ e.node ≤ 2147483647
    · rw [if_pos hn, tailP_some]
      show (if 12 ≤ e.node then none else _) = _ ↔ _
      by_cases h12 : 12 ≤ e.node
      · rw [if_pos h12]
        exact ⟨fun h => (by cases h), fun h => by have := h.1; omega⟩
      · rw [if_neg h12, if_pos hM]
        show msgP e.kind e.node (dotP (dots (mDots e.msg)) 5) = _ ↔ _
        obtain ⟨p1, p2⟩ := msgP_dots e.kind e.node e.msg
        by_cases hm : msgOk e.msg
        · rw [p1 hm]
          constructor
          · intro h
            have h := Option.some.inj h
            have ha : (0 : Int) = e.arg := congrArg Ev.arg h
            exact ⟨by omega, .inr (.inl ⟨hM, ha.symm, hm⟩)⟩
          · intro h
            have ha : e.arg = 0 := by
              rcases h.2 with h | h | h
              · omega
              · exact h.2.1
              · omega
            obtain ⟨k, n, a, m⟩ := e
            simp only at ha ⊢
            rw [ha]
        · rw [p2 hm]
          refine ⟨fun h => (by cases h), fun h => ?_⟩
          rcases h.2 with h | h | h
          · omega
          · exact absurd h.2.2 hm
          · omega
    · rw [if_neg hn]
      exact ⟨fun h => (by cases h), fun h => absurd ⟨h.1.1, by have := h.1.2; omega⟩ hn⟩
  · rw [if_neg hM] at hs
    by_cases hc : e.kind = 7
    · rw [if_pos hc] at hs
      rw [hs]
      show wordsE (kUp eWords (bs (wordE e.kind)) 8) [wordE e.kind, Lib.itoa e.node] = some e ↔ _
      rw [hk]
      unfold wordsE
      rw [if_neg (by rw [if_pos hc]; simp; omega)]
      show tailP e.kind [wordE e.kind, Lib.itoa e.node] (dotP (Lib.itoa e.node) 1) = _ ↔ _
      rw [dotP_itoa]
      by_cases hn : 0 ≤ e.node ∧ e.node ≤ 2147483647
      · rw [if_pos hn, tailP_some]
        show (if 12 ≤ e.node then none else _) = _ ↔ _
        by_cases h12 : 12 ≤ e.node
        · rw [if_pos h12]
          exact ⟨fun h => (by cases h), fun h => by have := h.1; omega⟩
        · rw [if_neg h12, if_neg hM, if_pos hc]
          show some (⟨e.kind, e.node, 0, m0⟩ : Ev) = some e ↔ _
          constructor
          · intro h
            have h := Option.some.inj h
            have ha : (0 : Int) = e.arg := congrArg Ev.arg h
            have hm : m0 = e.msg := congrArg Ev.msg h
            exact ⟨by omega, .inr (.inr ⟨hc, ha.symm, hm.symm⟩)⟩
          · intro h
            have ha : e.arg = 0 ∧ e.msg = m0 := by
              rcases h.2 with h | h | h
              · omega
              · omega
              · exact h.2
            obtain ⟨k, n, a, m⟩ := e
            simp only at ha ⊢
            rw [ha.1, ha.2]
      · rw [if_neg hn]
        exact ⟨fun h => (by cases h), fun h => absurd ⟨h.1.1, by have := h.1.2; omega⟩ hn⟩
    · rw [if_neg hc] at hs
      rw [hs]
      show wordsE (kUp eWords (bs (wordE e.kind)) 8) [wordE e.kind, Lib.itoa e.node, Lib.itoa e.arg] = some e ↔ _
      rw [hk]
      unfold wordsE
      rw [if_neg (by rw [if_neg (by omega)]; simp; omega)]
      show tailP e.kind [wordE e.kind, Lib.itoa e.node, Lib.itoa e.arg] (dotP (Lib.itoa e.node) 1) = _ ↔ _
      rw [dotP_itoa]
      by_cases hn : 0 ≤ e.node ∧ e.node ≤ 2147483647
      · rw [if_pos hn, tailP_some]
        show (if 12 ≤ e.node then none else _) = _ ↔ _
        by_cases h12 : 12 ≤ e.node
        · rw [if_pos h12]
          exact ⟨fun h => (by cases h), fun h => by have := h.1; omega⟩
        · rw [if_neg h12, if_neg hM, if_neg hc]
          show argP e.kind e.node (dotP (Lib.itoa e.arg) 1) = some e ↔ _
          rw [dotP_itoa]
          by_cases hg : 0 ≤ e.arg ∧ e.arg ≤ 2147483647
          · rw [if_pos hg]
            show some (⟨e.kind, e.node, e.arg, m0⟩ : Ev) = some e ↔ _
            constructor
            · intro h
              have h := Option.some.inj h
              have hm : m0 = e.msg := congrArg Ev.msg h
              exact ⟨by omega, .inl ⟨by omega, hg, hm.symm⟩⟩
            · intro h
              have ha : e.msg = m0 := by
                rcases h.2 with h | h | h
                · exact h.2.2
                · omega
                · omega
              obtain ⟨k, n, a, m⟩ := e
              simp only at ha ⊢
              rw [ha]
          · rw [if_neg hg]
            refine ⟨fun h => (by cases h), fun h => ?_⟩
            rcases h.2 with h | h | h
            · exact absurd h.2.1 hg
            · omega
            · omega
      · rw [if_neg hn]
        exact ⟨fun h => (by cases h), fun h => absurd ⟨h.1.1, by have := h.1.2; omega⟩ hn⟩
end Go.Proofs.YtinjgckpmblffaaDoor.Vm
