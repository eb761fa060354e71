/- The source of numbers, in a box; the generated program. -/
import Derived.Test.YtlmdmmikocbmlaaVk4
namespace Go.Proofs.Ytlmdmmikocbmlaa.Vm
open Go.RowKit
set_option linter.unusedSimpArgs false
set_option linter.unusedVariables false
set_option maxRecDepth 100000
/-- The box of a source. -/
def srcC (l : List Int) (i : Nat) : List A := [.sl 1 l.length (intsA l), .v (.int .i64 i)]
theorem ints_rep {E : Env} {v : Value} {l : List Int} (h : IntsAt E.C v l) : (A.sl 1 l.length (intsA l)).rep E v := by
  obtain ⟨h1, h2, p, b, off, cap, rfl, hc, hp, hn, hh⟩ := h
  unfold A.rep
  refine ⟨by simp [intsA], le_max h1, p, b, off, cap, rfl, hc, ?_, hn, ?_⟩
  · rcases hp with rfl | hp
    · exact .inl rfl
    · exact .inr hp
  · refine (repAt_map (E := E.per) (Value.int .i64) (fun _ => rfl)).2 fun i hi => ⟨?_, okV_int.2 (h2 _ (List.getElem_mem hi))⟩
    have := hh i hi
    simp [List.getD_eq_getElem?_getD, hi] at this
    exact this
theorem rep_ints {E : Env} {v : Value} {l : List Int} (h : (A.sl 1 l.length (intsA l)).rep E v) : l.length ≤ maxLen ∧ (∀ n ∈ l, -9223372036854775808 ≤ n ∧ n ≤ 9223372036854775807) ∧ ∃ p b off cap, v = .slice p l.length cap ∧ l.length ≤ cap ∧ (l = [] ∨ p = some ⟨b, off, none⟩) ∧ (p = none → cap = 0) ∧
    ∀ i, i < l.length → E.C ⟨b, off + i, none⟩ = some (.int .i64 (l.getD i 0)) := by
  unfold A.rep at h
  obtain ⟨_, h5, p, b, off, cap, rfl, h6, h7, h8, h9⟩ := h
  have h9 := (repAt_map (E := E.per) (Value.int .i64) (fun _ => rfl)).1 h9
  refine ⟨h5, fun s hs => ?_, p, b, off, cap, rfl, h6, ?_, h8, fun i hi => ?_⟩
  · obtain ⟨i, hi, rfl⟩ := List.mem_iff_getElem.1 hs
    exact okV_int.1 (h9 i hi).2
  · rcases h7 with h7 | h7
    · exact .inl (List.eq_nil_of_length_eq_zero h7)
    · exact .inr h7
  · have := (h9 i hi).1
    simp [List.getD_eq_getElem?_getD, hi]
    exact this
theorem src_of {w : World} {C : Rd} {b : Nat} {l : List Int} {i : Nat} (h1 : Sub C w.cell?) (h2 : ∀ o sp, C ⟨b, o, sp⟩ = none) (hl : l.length ≤ 1000000000) (h : boxAt w ⟨C, [b], []⟩ b (srcC l i)) :
    ∃ L : LD, L.l = l ∧ Src L w b i ∧ L.l.length ≤ L.cap ∧ (L.p = none → L.cap = 0) ∧ ∀ j, j < L.l.length → C ⟨L.d, L.off + j, none⟩ = some (.int .i64 (L.l.getD j 0)) := by
  obtain ⟨T, ⟨arr⟩, hb, hr⟩ := h
  unfold srcC at hr
  simp only [A.repC] at hr
  obtain ⟨v, _, rfl, -, g1, _, _, rfl, -, g2, rfl⟩ := hr
  obtain ⟨g3, g4, p, d, off, cap, rfl, g5, g6, g7, g8⟩ := rep_ints g1
  obtain ⟨rfl, g9⟩ := rep_vi.1 g2
  cases l with
  | nil => exact ⟨⟨p, b + 1, 0, cap, [], T⟩, rfl, ⟨hb, by simp, by simp, by simp, .inl rfl, fun j hj => absurd hj (by simp)⟩, g5, g7, fun j hj => absurd hj (by simp)⟩
  | cons x r =>
    refine ⟨⟨p, d, off, cap, x :: r, T⟩, rfl, ⟨hb, fun e => ?_, hl, g4, g6, fun j hj => h1 _ _ (g8 j hj)⟩, g5, g7, g8⟩
    have := g8 0 (by simp)
    simp only at e this
    rw [e, h2] at this
    cases this
theorem src_back {w w' : World} {C : Rd} {b : Nat} {L : LD} {i : Nat} (h1 : Sub C w.cell?) (hs : Src L w' b i) (hcap : L.l.length ≤ L.cap) (hnil : L.p = none → L.cap = 0)
    (hC : ∀ j, j < L.l.length → C ⟨L.d, L.off + j, none⟩ = some (.int .i64 (L.l.getD j 0))) (hi : i ≤ 1000000000) :
    boxAt w' ⟨plus C w w', [b], []⟩ b (srcC L.l i) := by
  refine ⟨L.T, _, hs.blk, ?_⟩
  unfold srcC
  simp only [A.repC]
  refine ⟨_, _, rfl, rfl, ints_rep ⟨hs.len, hs.wf, L.p, L.d, L.off, L.cap, rfl, hcap, hs.p, hnil, fun j hj => ?_⟩, _, _, rfl, rfl, rep_vi.2 ⟨rfl, by omega⟩, rfl⟩
  show plus C w w' _ = _
  unfold plus
  rw [if_pos (World.block_lt_of_cell? w _ (h1 _ _ (hC j hj)))]
  exact hC j hj
theorem spec_src {f : Nat} {fn : Func} {x : Code} {l : List Int} {i c : Nat} {args : List A} {vs : List Value} {post : A → Prop} {Φ : Nat → Value → World → Prop} (hf : Try.prog.funcs[f]? = some fn) (hb : fn.body = some x) (hname : (fn.name == "runtime.NumGoroutine") = false)
    (hl : l.length ≤ 1000000000) (hi : i + c ≤ 1000000000)
    (hargs : ∀ E us, A.repL args E us → us = vs) (hΦ : ∀ N w' (E : Env) v, Φ N v w' → Sub (fromC N w') E.C → ∃ r, post r ∧ r.rep E v)
    (h : ∀ (L : LD) (b : Nat) (w : World), L.l = l → Src L w b i → Calls Try.prog f (.pointer (some ⟨b, 0, none⟩) :: vs).toArray w (SRet L w b i c (Φ w.heap.size))) :
    Spec Try.prog f [srcC l i] (.box 0 0 :: args) fun outs r => ∃ i', outs = [srcC l i'] ∧ i ≤ i' ∧ i' ≤ i + c ∧ post r := by
  refine ⟨call_of hf hb hname, fun w C β vals h1 h2 h3 h4 h5 h6 => ?_⟩
  obtain ⟨b, rfl⟩ : ∃ b, β = [b] := List.length_eq_one_iff.1 (by simpa using h4.symm)
  unfold A.repL at h6
  obtain ⟨v, us, rfl, g1, g2⟩ := h6
  unfold A.rep at g1
  obtain ⟨b', g3, rfl⟩ := g1
  obtain rfl : b = b' := by simpa using g3
  obtain rfl := hargs _ _ g2
  obtain ⟨L, hL, hs, hcap, hnil, hC⟩ := src_of h1 (h3 b (by simp)) hl (h5 0 b _ rfl rfl)
  refine (h L b w hL hs).mono ?_
  rintro e w' ⟨v, i', rfl, k1, k2, k3, k4, k5⟩
  obtain ⟨r, q1, q2⟩ := hΦ _ w' ⟨plus C w w', [b], []⟩ v k5 fun ad u hc => by
    rw [fromC_some] at hc
    show plus C w w' ad = some u
    unfold plus
    rw [if_neg (by omega)]
    exact hc.2
  refine ⟨[srcC l i'], r, v, rfl, ⟨i', rfl, k3, k4, q1⟩, ⟨k1.os, k1.tape, k1.output, k1.size, fun k hk hn => k1.block k hk (by simpa using hn)⟩, rfl, ?_, q2⟩
  intro j b2 cs hj hcs
  match j, hj, hcs with
  | 0, hj, hcs =>
    obtain rfl : b = b2 := by simpa using hj
    obtain rfl : srcC l i' = cs := by simpa using hcs
    subst hL
    exact src_back h1 k2 hcap hnil hC (by omega)
  | j + 1, hj, hcs => simp at hj
theorem next_spec (l : List Int) (i : Nat) (m : Int) (hl : l.length ≤ 1000000000) (hi : i < 1000000000) (hm : 1 ≤ m ∧ m ≤ 1000000000) :
    Spec Try.prog 31 [srcC l i] [.box 0 0, intA m] fun outs r => ∃ i', outs = [srcC l i'] ∧ i ≤ i' ∧ i' ≤ i + 1 ∧ ∃ x : Int, r = intA x ∧ 0 ≤ x ∧ x < m := by
  refine (spec_src (c := 1) (post := fun r => ∃ x : Int, r = intA x ∧ 0 ≤ x ∧ x < m) (Φ := fun _ => RngV m) (vs := [.int .i64 m]) Try.func31 rfl (by kernel_rfl) hl (by omega) (fun E us h => ?_) (fun N w' E v h _ => ?_) (fun L b w hL hs => next_any L b i m w hs (by omega) hm.1 hm.2))
  · unfold A.repL at h
    obtain ⟨v, us, rfl, h2, h3⟩ := h
    unfold A.repL at h3
    subst h3
    rw [(rep_vi.1 h2).1]
  · obtain ⟨x, rfl, h1, h2⟩ := h
    exact ⟨_, ⟨x, rfl, h1, h2⟩, rep_vi.2 ⟨rfl, by omega⟩⟩
theorem block0 : BlockC 0 := block_of 0 (by decide) stmt_zero
theorem block1 : BlockC 1 := block_of 1 (by decide) (stmt_succ 0 (by omega) (by decide) block0)
theorem block2 : BlockC 2 := block_of 2 (by decide) (stmt_succ 1 (by omega) (by decide) block1)
theorem block_spec (l : List Int) (i : Nat) (hl : l.length ≤ 1000000000) (hi : i ≤ 1000000) :
    Spec Try.prog 36 [srcC l i] [.box 0 0, intA 2] fun outs r => ∃ i', outs = [srcC l i'] ∧ i ≤ i' ∧ i' ≤ i + 10741 ∧ ∃ t, r = .agg (ndL t) ∧ GenB 2 t := by
  refine (spec_src (c := 10741) (post := fun r => ∃ t, r = .agg (ndL t) ∧ GenB 2 t) (Φ := fun N v w' => ∃ t, GenB 2 t ∧ t.At (fromC N w') v) (vs := [.int .i64 2]) Try.func36 rfl (by kernel_rfl) hl (by omega) (fun E us h => ?_) (fun N w' E v h hsub => ?_) (fun L b w hL hs => block2 L b i w hs (by show i + (1 + 3 * costS 2) ≤ _; simp [costS]; omega)))
  · unfold A.repL at h
    obtain ⟨v, us, rfl, h2, h3⟩ := h
    unfold A.repL at h3
    subst h3
    rw [(rep_vi.1 h2).1]
  · obtain ⟨t, h1, h2⟩ := h
    exact ⟨_, ⟨t, rfl, h1⟩, at_rep t (E := E) (Nd.At.mono hsub _ _ h2)⟩
theorem ints_spec (l : List Int) (m : Nat) (hm : m ≤ 1000000000) : Spec Try.prog 29 [] [.sl 1 l.length (intsA l), intA m] fun _ r => ∃ l', l'.length ≤ m ∧ r = .sl 1 l'.length (intsA l') := by
  refine ⟨call_of Try.func29 rfl (by kernel_rfl), fun w C β vals h1 h2 h3 h4 h5 h6 => ?_⟩
  have hβ : β = [] := List.eq_nil_of_length_eq_zero (by simpa using h4.symm)
  subst hβ
  unfold A.repL at h6
  obtain ⟨v, us, rfl, g1, g2⟩ := h6
  unfold A.repL at g2
  obtain ⟨v2, us2, rfl, g2, g3⟩ := g2
  unfold A.repL at g3
  subst g3
  obtain ⟨rfl, -⟩ := rep_vi.1 g2
  obtain ⟨k1, k2, k3⟩ := rep_ints g1
  have hin : IntsIn w.cell? v l := IntsIn.mono (C := C) ⟨Nat.le_trans k1 (by decide), k2, k3⟩ h1
  refine (ints_any v l m hm w hin).mono ?_
  rintro e w' ⟨v', l', rfl, x, q1, q2⟩
  refine ⟨[], _, v', rfl, ⟨l', q2, rfl⟩, Keeps.of_ext x, rfl, fun i b cs hb => by simp at hb, ints_rep (q1.mono fun ad u hc => ?_)⟩
  rw [fromC_some] at hc
  show plus C w w' ad = some u
  unfold plus
  rw [if_neg (by omega)]
  exact hc.2
end Go.Proofs.Ytlmdmmikocbmlaa.Vm
