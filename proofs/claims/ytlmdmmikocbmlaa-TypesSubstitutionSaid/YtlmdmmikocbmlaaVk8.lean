/- Plain laws of generated programs: both checks agree; what is small. -/
import Derived.Test.YtlmdmmikocbmlaaVk6
import Derived.Test.YtlmdmmikocbmlaaVk7
import Derived.Test.YtlmdmmikocbmlaaLaw3
namespace Go.Proofs.Ytlmdmmikocbmlaa.Vm
open Go.RowKit
set_option linter.unusedSimpArgs false
set_option linter.unusedVariables false
/-! ### The kinds of expressions -/
theorem genE_k {d : Nat} {t : Nd} (h : GenE d t) : 12 ≤ t.k ∧ t.k ≤ 18 ∧ t.kids.length ≤ 2 := by
  cases h <;> simp [Nd.k, Nd.kids]
theorem genE_good {d : Nat} {t : Nd} (h : GenE d t) : goodN t ∧ cntN t + 1 ≤ 2 ^ (d + 1) := by
  have e3 : ∀ d : Nat, 2 ^ (d + 1) = 2 * 2 ^ d := fun d => by rw [Nat.pow_succ]; omega
  induction h with
  | int d => exact ⟨by unfold goodN goodNs; simp, by simp only [cntN, cntNs]; have := Nat.one_le_two_pow (n := d); have := e3 d; omega⟩
  | bool d => exact ⟨by unfold goodN goodNs; simp, by simp only [cntN, cntNs]; have := Nat.one_le_two_pow (n := d); have := e3 d; omega⟩
  | var d => exact ⟨by unfold goodN goodNs; simp, by simp only [cntN, cntNs]; have := Nat.one_le_two_pow (n := d); have := e3 d; omega⟩
  | name d => exact ⟨by unfold goodN goodNs; simp, by simp only [cntN, cntNs]; have := Nat.one_le_two_pow (n := d); have := e3 d; omega⟩
  | draw d t _ ih =>
    refine ⟨?_, ?_⟩
    · unfold goodN goodNs goodNs; simp; exact ih.1
    · have h1 := ih.2
      have h2 := Nat.one_le_two_pow (n := d)
      have h3 := e3 d
      have h4 := e3 (d + 1)
      simp only [cntN, cntNs]; omega
  | un d s t _ _ ih =>
    refine ⟨?_, ?_⟩
    · unfold goodN goodNs goodNs; simp; exact ih.1
    · have h1 := ih.2
      have h2 := Nat.one_le_two_pow (n := d)
      have h3 := e3 d
      have h4 := e3 (d + 1)
      simp only [cntN, cntNs]; omega
  | bin d s t u _ _ _ ih1 ih2 =>
    refine ⟨?_, ?_⟩
    · unfold goodN goodNs goodNs goodNs; simp; exact ⟨ih1.1, ih2.1⟩
    · have h1 := ih1.2
      have h2 := ih2.2
      have h4 := e3 (d + 1)
      simp only [cntN, cntNs]; omega
theorem costS_ge : ∀ d, 80 ≤ costS d
  | 0 => Nat.le_refl _
  | d + 1 => by have := costS_ge d; unfold costS; omega
theorem cntNs_le {c : Nat} : ∀ {l : List Nd}, (∀ x ∈ l, cntN x ≤ c) → cntNs l ≤ l.length * c
  | [], _ => by simp [cntNs]
  | x :: l, h => by
    have h1 := h x (by simp)
    have h2 := cntNs_le (fun y hy => h y (List.mem_cons_of_mem _ hy) : ∀ y ∈ l, cntN y ≤ c)
    simp only [cntNs, List.length_cons, Nat.add_mul]; omega
theorem wellAll_eq {l : List Nd} (h : ∀ x ∈ l, wellF x = rwellF x) : wellAll l = rwellAll l := by
  induction l with
  | nil => rfl
  | cons x r ih =>
    unfold wellAll rwellAll
    rw [h x (by simp), ih fun y hy => h y (List.mem_cons_of_mem _ hy)]
theorem notAll_eq {l : List Nd} (h : ∀ x ∈ l, typeF x = rtypeF x) : notAll 1 l = rnotAll 1 l := by
  induction l with
  | nil => rfl
  | cons x r ih =>
    unfold notAll rnotAll
    rw [h x (by simp), ih fun y hy => h y (List.mem_cons_of_mem _ hy)]
/-- What is known of a generated statement. -/
structure StG (c : Nat) (t : Nd) : Prop where
  good : goodN t
  cnt : cntN t ≤ c
  well : wellF t = rwellF t
theorem exprs_st {c : Nat} {k n : Int} {s : ByteArray} {l : List Nd} (hk : k ≠ 11 ∧ k ≠ 2 ∧ k ≠ 3) (h : ∀ x ∈ l, ∃ d, d ≤ 3 ∧ GenE d x) (hl : l.length ≤ 3) (hc : 50 ≤ c) : StG c (.mk k n s l) := by
  obtain ⟨h1, h2, h3⟩ := hk
  have hb : ∀ x ∈ l, cntN x ≤ 16 := fun x hx => by
    obtain ⟨d, hd, hx⟩ := h x hx
    have := (genE_good hx).2
    have h4 : 2 ^ (d + 1) ≤ 2 ^ 4 := Nat.pow_le_pow_right (by omega) (by omega)
    omega
  have hcn := cntNs_le hb
  refine ⟨?_, ?_, ?_⟩
  · unfold goodN
    exact ⟨by omega, fun e => by omega, goodNs_of fun x hx => by obtain ⟨d, _, hx⟩ := h x hx; exact (genE_good hx).1⟩
  · unfold cntN
    have : l.length * 16 ≤ 48 := by omega
    omega
  · unfold wellF rwellF
    rw [if_neg h1, if_neg (by omega), if_neg h1, if_neg (by omega), notAll_eq fun x hx => by obtain ⟨d, _, hx⟩ := h x hx; exact gen_type hx]
theorem block_st {c c' : Nat} {n : Int} {s : ByteArray} {l : List Nd} (hl : l.length ≤ 3) (h : ∀ x ∈ l, StG c x) (hc : 1 + 3 * c ≤ c') : StG c' (.mk 11 n s l) := by
  have hcn := cntNs_le fun x hx => (h x hx).cnt
  have hm := Nat.mul_le_mul_right c hl
  refine ⟨?_, ?_, ?_⟩
  · unfold goodN
    exact ⟨by omega, fun e => by omega, goodNs_of fun x hx => (h x hx).good⟩
  · unfold cntN; omega
  · unfold wellF rwellF
    rw [if_pos rfl, if_pos rfl, wellAll_eq fun x hx => (h x hx).well]
theorem cond_st {c c' : Nat} {k n : Int} {s : ByteArray} {x : Nd} {l : List Nd} (hk : k = 2 ∨ k = 3) (hx : GenE 2 x) (hl : l.length ≤ 2) (h : ∀ y ∈ l, StG c y) (hc : 20 + 2 * c ≤ c') : StG c' (.mk k n s (x :: l)) := by
  have hcn := cntNs_le fun x hx => (h x hx).cnt
  have hm := Nat.mul_le_mul_right c hl
  have hg := genE_good hx
  have hg2 : cntN x + 1 ≤ 8 := hg.2
  refine ⟨?_, ?_, ?_⟩
  · unfold goodN
    refine ⟨by simp; omega, fun e => by simp, goodNs_of fun y hy => ?_⟩
    rcases List.mem_cons.1 hy with rfl | hy
    · exact hg.1
    · exact (h y hy).good
  · simp only [cntN, cntNs]; omega
  · unfold wellF rwellF
    rw [if_neg (by omega), if_pos hk, if_neg (by omega), if_pos hk]
    unfold wellC rwellC
    rw [gen_type hx, wellAll_eq fun x hx => (h x hx).well, Bool.and_comm]
theorem genS_st {d : Nat} {t : Nd} (h : GenS d t) : StG (costS d) t := by
  induction h with
  | assign d j e _ _ he => exact exprs_st (by omega) (fun x hx => ⟨3, by omega, by obtain rfl := List.mem_singleton.1 hx; exact he⟩) (by simp) (by have := costS_ge d; omega)
  | cond d c l m hc hl hm _ _ ih1 ih2 =>
    refine cond_st (c := 1 + 3 * costS d) (.inl rfl) hc (by simp) (fun y hy => ?_) (by have := costS_ge d; rw [costS]; omega)
    simp only [List.mem_cons, List.not_mem_nil, or_false] at hy
    rcases hy with rfl | rfl
    · exact block_st hl ih1 (Nat.le_refl _)
    · exact block_st hm ih2 (Nat.le_refl _)
  | whil d c l hc hl _ ih =>
    refine cond_st (c := 1 + 3 * costS d) (.inr rfl) hc (by simp) (fun y hy => ?_) (by have := costS_ge d; rw [costS]; omega)
    obtain rfl := List.mem_singleton.1 hy
    exact block_st hl ih (Nat.le_refl _)
  | send d n a b c _ _ ha hb hc =>
    refine exprs_st (by omega) (fun x hx => ?_) (by simp) (by have := costS_ge d; omega)
    simp only [List.mem_cons, List.not_mem_nil, or_false] at hx
    rcases hx with rfl | rfl | rfl
    · exact ⟨2, by omega, ha⟩
    · exact ⟨2, by omega, hb⟩
    · exact ⟨1, by omega, hc⟩
  | timer d n => exact exprs_st (by omega) (fun x hx => by cases hx) (by simp) (by have := costS_ge d; omega)
  | cancel d n => exact exprs_st (by omega) (fun x hx => by cases hx) (by simp) (by have := costS_ge d; omega)
  | sync d => exact exprs_st (by omega) (fun x hx => by cases hx) (by simp) (by have := costS_ge d; omega)
  | stop d => exact exprs_st (by omega) (fun x hx => by cases hx) (by simp) (by have := costS_ge d; omega)
  | reply d a b ha hb =>
    refine exprs_st (by omega) (fun x hx => ?_) (by simp) (by have := costS_ge d; omega)
    simp only [List.mem_cons, List.not_mem_nil, or_false] at hx
    rcases hx with rfl | rfl
    · exact ⟨2, by omega, ha⟩
    · exact ⟨2, by omega, hb⟩
  | fail d a ha => exact exprs_st (by omega) (fun x hx => ⟨2, by omega, by obtain rfl := List.mem_singleton.1 hx; exact ha⟩) (by simp) (by have := costS_ge d; omega)
theorem genB_st {t : Nd} (h : GenB 2 t) : StG 20000 t := by
  obtain ⟨l, rfl, hl, hx⟩ := h
  exact block_st (c := costS 2) hl (fun x h => genS_st (hx x h)) (by decide)
/-! ### What occurs -/
mutual
theorem und_names (p : ByteArray → Bool) (ix : ByteArray → Int) (hp : ∀ s, p s = decide (ix s < 0)) : ∀ (t : Nd) (l : List ByteArray), (nmF t l).any p = (l.any p || undF ix t)
  | .mk k n s kids, l => by
    unfold nmF undF
    rw [und_namess p ix hp kids]
    have hin : inF l s = true → p s = true → l.any p = true := fun h1 h2 => by
      unfold inF at h1
      obtain ⟨x, hx, hxs⟩ := List.any_eq_true.1 h1
      rw [bbeq] at hxs
      obtain rfl : x = s := by simpa using hxs
      exact List.any_eq_true.2 ⟨x, hx, h2⟩
    rw [← hp s]
    by_cases hk : k = 1 ∨ k = 14
    · have e1 : (k == 1 || k == 14) = true := by rcases hk with rfl | rfl <;> rfl
      rw [e1, Bool.true_and]
      cases hi : inF l s
      · rw [if_pos ⟨hk, rfl⟩, List.any_append]
        simp [Bool.or_assoc]
      · rw [if_neg (by simp)]
        cases hps : p s
        · simp
        · rw [hin hi hps]; simp
    · have e1 : (k == 1 || k == 14) = false := by
        rw [Bool.or_eq_false_iff]
        exact ⟨by simpa using fun e => hk (.inl e), by simpa using fun e => hk (.inr e)⟩
      rw [e1, if_neg (fun h => hk h.1), Bool.false_and, Bool.false_or]
theorem und_namess (p : ByteArray → Bool) (ix : ByteArray → Int) (hp : ∀ s, p s = decide (ix s < 0)) : ∀ (ts : List Nd) (l : List ByteArray), (nmFs ts l).any p = (l.any p || undAll ix ts)
  | [], l => by simp [nmFs, undAll]
  | t :: ts, l => by
    unfold nmFs undAll
    rw [und_namess p ix hp ts, und_names p ix hp t, Bool.or_assoc]
end
theorem check_law {u : Un} (h : UnitG u) : checkF u = rcheckF u := by
  have hb : ∀ x ∈ u.on, badF u x.2 = rbadF u x.2 := fun x hx => by
    unfold badF rbadF
    rw [(genB_st (h.on x hx)).well, und_names (fun s => decide (indexF u.d u.v s < 0)) (indexF u.d u.v) (fun _ => rfl)]
    simp
  unfold checkF rcheckF
  have : u.on.any (fun h => badF u h.2) = u.on.any (fun h => rbadF u h.2) := by
    generalize u.on = l at hb
    induction l with
    | nil => rfl
    | cons x r ih =>
      simp only [List.any_cons]
      rw [hb x (by simp), ih fun y hy => hb y (List.mem_cons_of_mem _ hy)]
  rw [this]
theorem unitG_small {u : Un} (h : UnitG u) : smallU u := by
  obtain ⟨sk, sp, h1, h2⟩ := h.vars
  refine ⟨?_, ?_, by have := h.len; omega, fun x hx => good_small _ (genB_st (h.on x hx)).good⟩
  · rw [h1]; exact Nat.le_trans (pickF_len _ _) (by omega)
  · rw [h2]; exact Nat.le_trans (pickF_len _ _) (by omega)
theorem unitG_good {u : Un} (h : UnitG u) : ∀ x ∈ u.on, goodN x.2 ∧ cntN x.2 ≤ 1000000 := fun x hx => by
  have := genB_st (h.on x hx)
  exact ⟨this.good, Nat.le_trans this.cnt (by omega)⟩
end Go.Proofs.Ytlmdmmikocbmlaa.Vm
