/- The plain law, further: what is read is what was printed; questions. -/
import Derived.Test.YtinjgckpmblffaaDoorN7
namespace Go.Proofs.YtinjgckpmblffaaDoor.Vm
open Go.RowKit Go.Shelf
set_option linter.unusedSimpArgs false
set_option linter.unusedVariables false
set_option maxRecDepth 100000
theorem word_of {x : List UInt8} {k : Int} (h : kUp eWords (bs x) 8 = k) (hk : k ≠ 0) : (1 ≤ k ∧ k ≤ 7) ∧ x = wordE k := by
  obtain ⟨i, h1, h2, rfl, h4⟩ := kUp_some h hk
  refine ⟨by omega, ?_⟩
  unfold wordE
  rw [show ((i : Int)).toNat = i by omega, ← h4, bs_list]
theorem wordq_of {x : List UInt8} {k : Int} (h : kUp qWords (bs x) 4 = k) (hk : k ≠ 0) : (1 ≤ k ∧ k ≤ 3) ∧ x = wordQ k := by
  obtain ⟨i, h1, h2, rfl, h4⟩ := kUp_some h hk
  refine ⟨by omega, ?_⟩
  unfold wordQ
  rw [show ((i : Int)).toNat = i by omega, ← h4, bs_list]
theorem one_dots {s : List UInt8} {l : List Int} (h : dotP s 1 = some l) : s = Lib.itoa (l.getD 0 0) ∧ numOk (l.getD 0 0) := by
  obtain ⟨h1, h2, h3⟩ := dotP_some h
  obtain ⟨n, rfl⟩ := List.length_eq_one_iff.1 h2
  exact ⟨by rw [h1, dots_one]; rfl, h3 n (by simp)⟩
theorem list3 {W : List (List UInt8)} (h : W.length = 3) : W = [W.getD 0 [], W.getD 1 [], W.getD 2 []] := by
  match W, h with
  | [a, b, c], _ => rfl
theorem list2 {W : List (List UInt8)} (h : W.length = 2) : W = [W.getD 0 [], W.getD 1 []] := by
  match W, h with
  | [a, b], _ => rfl
theorem five_dots {s : List UInt8} {l : List Int} (h : dotP s 5 = some l) : s = dots (mDots ⟨⟨l.getD 0 0, l.getD 1 0, l.getD 2 0⟩, l.getD 3 0, l.getD 4 0⟩) ∧ numOk (l.getD 2 0) ∧ numOk (l.getD 3 0) ∧ numOk (l.getD 4 0) := by
  obtain ⟨h1, h2, h3⟩ := dotP_some h
  match l, h2 with
  | [a, b, c, d, e], _ => exact ⟨h1, h3 c (by simp), h3 d (by simp), h3 e (by simp)⟩
theorem three_dots {s : List UInt8} {l : List Int} (h : dotP s 3 = some l) : s = dots [l.getD 0 0, l.getD 1 0, l.getD 2 0] ∧ numOk (l.getD 2 0) := by
  obtain ⟨h1, h2, h3⟩ := dotP_some h
  match l, h2 with
  | [a, b, c], _ => exact ⟨h1, h3 c (by simp)⟩
theorem parse_back {s : List UInt8} {e : Ev} (h : parseE s = some e) : wellE e ∧ rawE e = s := by
  unfold parseE at h
  have hj := join_split 32 s
  generalize splitC 32 s = W at *
  generalize hk : kUp eWords (bs (W.getD 0 [])) 8 = k at *
  unfold wordsE at h
  by_cases hw : k = 0 ∨ ¬ (W.length : Int) = (if k = 7 then 2 else 3)
  · rw [if_pos hw] at h; cases h
  rw [if_neg hw] at h
  have hk0 : k ≠ 0 := fun h => hw (.inl h)
  have hl : (W.length : Int) = if k = 7 then 2 else 3 := Classical.byContradiction fun h => hw (.inr h)
  obtain ⟨hkr, hx⟩ := word_of hk hk0
  cases hd : dotP (W.getD 1 []) 1 with
  | none => rw [hd] at h; cases h
  | some l =>
    rw [hd, tailP_some] at h
    obtain ⟨e1, o1⟩ := one_dots hd
    generalize l.getD 0 0 = n at *
    unfold numOk at o1
    by_cases h12 : 12 ≤ n
    · rw [if_pos h12] at h; cases h
    rw [if_neg h12] at h
    by_cases hM : k = 3 ∨ k = 5 ∨ k = 6
    · rw [if_pos hM] at h
      rw [if_neg (by omega)] at hl
      have hW := list3 (W := W) (by omega)
      cases hd5 : dotP (W.getD 2 []) 5 with
      | none => rw [hd5] at h; cases h
      | some m =>
        rw [hd5, msgP_some] at h
        obtain ⟨e2, o2, o3, o4⟩ := five_dots hd5
        cases hwi : withinF ⟨m.getD 0 0, m.getD 1 0, m.getD 2 0⟩ 40 with
        | true =>
          rw [hwi] at h
          cases h
          have hw2 := (within_iff _ _).1 hwi
          refine ⟨⟨by simp only; omega, .inr (.inl ⟨hM, rfl, ⟨hw2.1, hw2.2, o2⟩, o3, o4⟩)⟩, ?_⟩
          unfold rawE restE
          simp only
          rw [if_pos hM, ← e2, ← e1, ← hx, ← hj]
          rw [hW]; rfl
        | false => rw [hwi] at h; cases h
    · rw [if_neg hM] at h
      by_cases h7 : k = 7
      · rw [if_pos h7] at h
        cases h
        rw [if_pos h7] at hl
        have hW := list2 (W := W) (by omega)
        refine ⟨⟨by simp only; omega, .inr (.inr ⟨h7, rfl, rfl⟩)⟩, ?_⟩
        unfold rawE restE
        simp only
        rw [if_neg hM, if_pos h7, ← e1, ← hx, ← hj, List.append_nil]
        rw [hW]; rfl
      · rw [if_neg h7] at h
        rw [if_neg h7] at hl
        have hW := list3 (W := W) (by omega)
        cases hd2 : dotP (W.getD 2 []) 1 with
        | none => rw [hd2] at h; cases h
        | some m =>
          rw [hd2] at h
          obtain ⟨e2, o2⟩ := one_dots hd2
          cases h
          refine ⟨⟨by simp only; omega, .inl ⟨by simp only; omega, o2, rfl⟩⟩, ?_⟩
          unfold rawE restE
          simp only
          rw [if_neg hM, if_neg h7, ← e2, ← e1, ← hx, ← hj]
          rw [hW]; rfl
/-! ### Questions -/
def cDots (c : Cs) : List Int := [c.node, c.handler, c.count]
def rawQ (q : Qs) : List UInt8 := wordQ q.kind ++ 32 :: (dots (cDots q.c) ++ 32 :: Lib.itoa q.index)
def wellQ (q : Qs) : Prop := (1 ≤ q.kind ∧ q.kind ≤ 3) ∧ causeOk q.c 41 ∧ numOk q.index
theorem split_rawQ {q : Qs} (h1 : 1 ≤ q.kind) (h3 : q.kind ≤ 3) : splitC 32 (rawQ q) = [wordQ q.kind, dots (cDots q.c), Lib.itoa q.index] := by
  obtain ⟨_, hw, _⟩ := wordQ_ok h1 h3
  unfold rawQ
  rw [splitC_app 32 _ _ hw, splitC_app 32 _ _ (dots_32 _), splitC_no 32 _ (itoa_32 _)]
theorem parse_rawQ {q : Qs} (h1 : 1 ≤ q.kind) (h3 : q.kind ≤ 3) : parseQ (rawQ q) = some q ↔ wellQ q := by
  have hk := (wordQ_ok h1 h3).1
  unfold parseQ
  rw [split_rawQ h1 h3]
  show wordsQ (kUp qWords (bs (wordQ q.kind)) 4) [wordQ q.kind, dots (cDots q.c), Lib.itoa q.index] = some q ↔ _
  rw [hk]
  unfold wordsQ
  rw [if_neg (by simp; omega)]
  show tailQ q.kind (dotP (dots (cDots q.c)) 3) (dotP (Lib.itoa q.index) 1) = _ ↔ _
  rw [dotP_itoa, dotP_dots (by simp [cDots])]
  by_cases h : (cDots q.c).length = 3 ∧ ∀ n ∈ cDots q.c, 0 ≤ n ∧ n ≤ 2147483647
  · rw [if_pos h]
    have hc : numOk q.c.node ∧ numOk q.c.handler ∧ numOk q.c.count := ⟨h.2 _ (by simp [cDots]), h.2 _ (by simp [cDots]), h.2 _ (by simp [cDots])⟩
    by_cases hi : 0 ≤ q.index ∧ q.index ≤ 2147483647
    · rw [if_pos hi, tailQ_some]
      show (match withinF q.c 41 with | true => some q | false => none) = some q ↔ _
      have hw := within_iff q.c 41
      cases hb : withinF q.c 41 with
      | true =>
        have := hw.1 hb
        exact ⟨fun _ => ⟨⟨h1, h3⟩, ⟨this.1, this.2, hc.2.2⟩, hi⟩, fun _ => rfl⟩
      | false =>
        refine ⟨fun h => (by cases h), fun hy => ?_⟩
        have := hw.2 ⟨hy.2.1.1, hy.2.1.2.1⟩
        rw [hb] at this; cases this
    · rw [if_neg hi]
      exact ⟨fun h => (by cases h), fun hy => absurd hy.2.2 hi⟩
  · rw [if_neg h]
    refine ⟨fun h => (by cases h), fun hy => absurd ⟨rfl, fun x hx => ?_⟩ h⟩
    obtain ⟨_, ⟨g1, g2, g3⟩, g4⟩ := hy
    simp only [cDots, List.mem_cons, List.not_mem_nil, or_false] at hx
    unfold numOk at *
    rcases hx with rfl | rfl | rfl <;> omega
theorem parse_backQ {s : List UInt8} {q : Qs} (h : parseQ s = some q) : wellQ q ∧ rawQ q = s := by
  unfold parseQ at h
  have hj := join_split 32 s
  generalize splitC 32 s = W at *
  generalize hk : kUp qWords (bs (W.getD 0 [])) 4 = k at *
  unfold wordsQ at h
  by_cases hw : k = 0 ∨ ¬ (W.length : Int) = 3
  · rw [if_pos hw] at h; cases h
  rw [if_neg hw] at h
  have hk0 : k ≠ 0 := fun h => hw (.inl h)
  have hl : (W.length : Int) = 3 := Classical.byContradiction fun h => hw (.inr h)
  obtain ⟨hkr, hx⟩ := wordq_of hk hk0
  have hW := list3 (W := W) (by omega)
  cases hd3 : dotP (W.getD 1 []) 3 with
  | none => rw [hd3] at h; cases h
  | some m =>
    cases hd1 : dotP (W.getD 2 []) 1 with
    | none => rw [hd3, hd1] at h; cases h
    | some l =>
      rw [hd3, hd1, tailQ_some] at h
      obtain ⟨e2, o2⟩ := three_dots hd3
      obtain ⟨e1, o1⟩ := one_dots hd1
      cases hwi : withinF ⟨m.getD 0 0, m.getD 1 0, m.getD 2 0⟩ 41 with
      | true =>
        rw [hwi] at h
        cases h
        have hw2 := (within_iff _ _).1 hwi
        refine ⟨⟨by simp only; omega, ⟨hw2.1, hw2.2, o2⟩, o1⟩, ?_⟩
        unfold rawQ cDots
        simp only
        rw [← e2, ← e1, ← hx, ← hj]
        rw [hW]; rfl
      | false => rw [hwi] at h; cases h
/-- A question's text is no event's. -/
theorem parseE_rawQ {q : Qs} (h1 : 1 ≤ q.kind) (h3 : q.kind ≤ 3) : parseE (rawQ q) = none := by
  unfold parseE
  rw [split_rawQ h1 h3]
  show wordsE (kUp eWords (bs (wordQ q.kind)) 8) _ = none
  rw [(wordQ_ok h1 h3).2.2]
  unfold wordsE
  rw [if_pos (.inl rfl)]
/-- What the program's Event hands back. -/
def evEq (a b : Ev) : Bool := decide (a.kind = b.kind) && (decide (a.node = b.node) && (decide (a.arg = b.arg) && (decide (a.msg.c.node = b.msg.c.node) && (decide (a.msg.c.handler = b.msg.c.handler) && (decide (a.msg.c.count = b.msg.c.count) && (decide (a.msg.index = b.msg.index) && (decide (a.msg.copy = b.msg.copy) && true)))))))
def qsEq (a b : Qs) : Bool := decide (a.c.node = b.c.node) && (decide (a.c.handler = b.c.handler) && (decide (a.c.count = b.c.count) && (decide (a.kind = b.kind) && (decide (a.index = b.index) && true))))
theorem evEq_iff (a b : Ev) : evEq a b = true ↔ a = b := by
  unfold evEq
  simp only [Bool.and_eq_true, decide_eq_true_eq, and_true]
  constructor
  · rintro ⟨h1, h2, h3, h4, h5, h6, h7, h8⟩
    obtain ⟨k, n, g, ⟨⟨x, y, z⟩, i, c⟩⟩ := a
    obtain ⟨k', n', g', ⟨⟨x', y', z'⟩, i', c'⟩⟩ := b
    simp only at *
    subst h1 h2 h3 h4 h5 h6 h7 h8
    rfl
  · rintro rfl
    simp
theorem qsEq_iff (a b : Qs) : qsEq a b = true ↔ a = b := by
  unfold qsEq
  simp only [Bool.and_eq_true, decide_eq_true_eq, and_true]
  constructor
  · rintro ⟨h1, h2, h3, h4, h5⟩
    obtain ⟨⟨x, y, z⟩, k, i⟩ := a
    obtain ⟨⟨x', y', z'⟩, k', i'⟩ := b
    simp only at *
    subst h1 h2 h3 h4 h5
    rfl
  · rintro rfl
    simp
end Go.Proofs.YtinjgckpmblffaaDoor.Vm
