/- TypesDeclared: its plain law. -/
import Derived.Test.YtlmdmmikocbmlaaVk11
namespace Go.Proofs.Ytlmdmmikocbmlaa.Vm
open Go.RowKit
set_option linter.unusedSimpArgs false
set_option linter.unusedVariables false
set_option maxRecDepth 100000
theorem posF_neg {l : List ByteArray} {s : ByteArray} : posF l s < 0 ↔ s ∉ l := by
  constructor
  · intro h hm
    unfold posF at h
    split at h
    · omega
    · rename_i hf
      rw [List.findIdx?_eq_none_iff] at hf
      have := hf s hm
      rw [bbeq] at this
      simp at this
  · intro h
    rw [posF_miss fun j hj => by
      rw [bbeq]
      simp only [decide_eq_false_iff_not]
      exact fun e => h (e ▸ List.getElem_mem hj)]
    omega
theorem indexF_neg {d v : List ByteArray} {s : ByteArray} : indexF d v s < 0 ↔ s ∉ d ∧ s ∉ v := by
  have h1 := posF_neg (l := d) (s := s)
  have h2 := posF_neg (l := v) (s := s)
  rw [← h1, ← h2]
  unfold indexF
  split
  · omega
  · split <;> omega
theorem neg_if {c : Prop} [Decidable c] : ((if c then (-1 : Int) else 0) < 0) ↔ c := by
  by_cases h : c
  · rw [if_pos h]; exact ⟨fun _ => h, fun _ => by omega⟩
  · rw [if_neg h]; exact ⟨fun h => by omega, fun h' => absurd h' h⟩
/-- A name occurs in a tree. -/
def occF (name : ByteArray) (t : Nd) : Bool := undF (fun s => if s = name then -1 else 0) t
mutual
/-- Names that are missing here or there. -/
theorem und_or (ix ix' : ByteArray → Int) (name : ByteArray) (h : ∀ s, ix' s < 0 ↔ ix s < 0 ∨ s = name) : ∀ t : Nd, undF ix' t = (undF ix t || occF name t)
  | .mk k n s kids => by
    unfold occF undF
    rw [und_ors ix ix' name h kids]
    have e : decide (ix' s < 0) = (decide (ix s < 0) || decide ((if s = name then (-1 : Int) else 0) < 0)) := by
      rw [decide_eq_decide.2 (h s), decide_eq_decide.2 (neg_if (c := s = name)), Bool.decide_or]
    rw [e]
    cases (k == 1 || k == 14) <;> cases decide (ix s < 0) <;> cases decide ((if s = name then (-1 : Int) else 0) < 0) <;> cases undAll ix kids <;> cases undAll (fun s => if s = name then -1 else 0) kids <;> rfl
theorem und_ors (ix ix' : ByteArray → Int) (name : ByteArray) (h : ∀ s, ix' s < 0 ↔ ix s < 0 ∨ s = name) : ∀ l : List Nd, undAll ix' l = (undAll ix l || undAll (fun s => if s = name then -1 else 0) l)
  | [] => rfl
  | t :: ts => by
    unfold undAll
    rw [und_or ix ix' name h t, und_ors ix ix' name h ts]
    unfold occF
    cases undF ix t <;> cases undF (fun s => if s = name then -1 else 0) t <;> cases undAll ix ts <;> cases undAll (fun s => if s = name then -1 else 0) ts <;> rfl
end
theorem occ_mk {name : ByteArray} {k n : Int} {s : ByteArray} {l : List Nd} (h1 : k = 1 ∨ k = 14 → s ≠ name) (h : ∀ x ∈ l, occF name x = false) : occF name (.mk k n s l) = false := by
  unfold occF undF
  rw [Bool.or_eq_false_iff]
  constructor
  · by_cases hk : k = 1 ∨ k = 14
    · simp [h1 hk]
    · have : (k == 1 || k == 14) = false := by
        rw [Bool.or_eq_false_iff]
        exact ⟨by simpa using fun e => hk (.inl e), by simpa using fun e => hk (.inr e)⟩
      rw [this]; rfl
  · rw [undAll_any, List.any_eq_false]
    intro x hx
    have := h x hx
    unfold occF at this
    rw [this]; simp
theorem occ_genE {name : ByteArray} (hn : ∀ j : Int, 0 ≤ j → j < 10 → nameF j ≠ name) {d : Nat} {t : Nd} (h : GenE d t) : occF name t = false := by
  induction h with
  | int d n => exact occ_mk (fun e => by omega) (fun x hx => by cases hx)
  | bool d n => exact occ_mk (fun e => by omega) (fun x hx => by cases hx)
  | var d j h0 h1 => exact occ_mk (fun _ => hn j h0 h1) (fun x hx => by cases hx)
  | name d s => exact occ_mk (fun e => by omega) (fun x hx => by cases hx)
  | draw d t _ ih => exact occ_mk (fun e => by omega) (fun x hx => by obtain rfl := List.mem_singleton.1 hx; exact ih)
  | un d s t _ _ ih => exact occ_mk (fun e => by omega) (fun x hx => by obtain rfl := List.mem_singleton.1 hx; exact ih)
  | bin d s t u _ _ _ ih1 ih2 =>
    refine occ_mk (fun e => by omega) (fun x hx => ?_)
    simp only [List.mem_cons, List.not_mem_nil, or_false] at hx
    rcases hx with rfl | rfl
    · exact ih1
    · exact ih2
theorem occ_genS {name : ByteArray} (hn : ∀ j : Int, 0 ≤ j → j < 10 → nameF j ≠ name) {d : Nat} {t : Nd} (h : GenS d t) : occF name t = false := by
  induction h with
  | assign d j e h0 h1 he => exact occ_mk (fun _ => hn j h0 h1) (fun x hx => by obtain rfl := List.mem_singleton.1 hx; exact occ_genE hn he)
  | cond d c l m hc hl hm _ _ ih1 ih2 =>
    refine occ_mk (fun e => by omega) (fun x hx => ?_)
    simp only [List.mem_cons, List.not_mem_nil, or_false] at hx
    rcases hx with rfl | rfl | rfl
    · exact occ_genE hn hc
    · exact occ_mk (fun e => by omega) ih1
    · exact occ_mk (fun e => by omega) ih2
  | whil d c l hc hl _ ih =>
    refine occ_mk (fun e => by omega) (fun x hx => ?_)
    simp only [List.mem_cons, List.not_mem_nil, or_false] at hx
    rcases hx with rfl | rfl
    · exact occ_genE hn hc
    · exact occ_mk (fun e => by omega) ih
  | send d n a b c _ _ ha hb hc =>
    refine occ_mk (fun e => by omega) (fun x hx => ?_)
    simp only [List.mem_cons, List.not_mem_nil, or_false] at hx
    rcases hx with rfl | rfl | rfl
    · exact occ_genE hn ha
    · exact occ_genE hn hb
    · exact occ_genE hn hc
  | timer d n => exact occ_mk (fun e => by omega) (fun x hx => by cases hx)
  | cancel d n => exact occ_mk (fun e => by omega) (fun x hx => by cases hx)
  | sync d => exact occ_mk (fun e => by omega) (fun x hx => by cases hx)
  | stop d => exact occ_mk (fun e => by omega) (fun x hx => by cases hx)
  | reply d a b ha hb =>
    refine occ_mk (fun e => by omega) (fun x hx => ?_)
    simp only [List.mem_cons, List.not_mem_nil, or_false] at hx
    rcases hx with rfl | rfl
    · exact occ_genE hn ha
    · exact occ_genE hn hb
  | fail d a ha => exact occ_mk (fun e => by omega) (fun x hx => by obtain rfl := List.mem_singleton.1 hx; exact occ_genE hn ha)
theorem occ_genB {name : ByteArray} (hn : ∀ j : Int, 0 ≤ j → j < 10 → nameF j ≠ name) {t : Nd} (h : GenB 2 t) : occF name t = false := by
  obtain ⟨l, rfl, hl, hx⟩ := h
  exact occ_mk (fun e => by omega) (fun x h => occ_genS hn (hx x h))
/-- Two checks that part at one name. -/
theorem checkF_or {d v d' v' : List ByteArray} {on : List (Int × Nd)} {name : ByteArray} (h : ∀ s, indexF d' v' s < 0 ↔ indexF d v s < 0 ∨ s = name) :
    checkF ⟨d', v', on⟩ = if on.any (fun x => occF name x.2) then 11 else checkF ⟨d, v, on⟩ := by
  have e : ∀ x : Int × Nd, badF ⟨d', v', on⟩ x.2 = (badF ⟨d, v, on⟩ x.2 || occF name x.2) := fun x => by
    unfold badF
    rw [und_or (indexF d v) (indexF d' v') name h, Bool.or_assoc]
  unfold checkF
  simp only
  have e2 : on.any (fun h => badF ⟨d', v', on⟩ h.2) = (on.any (fun h => badF ⟨d, v, on⟩ h.2) || on.any fun x => occF name x.2) := by
    have : ∀ l : List (Int × Nd), l.any (fun h => badF ⟨d', v', on⟩ h.2) = (l.any (fun h => badF ⟨d, v, on⟩ h.2) || l.any fun x => occF name x.2) := fun l => by
      induction l with
      | nil => rfl
      | cons x r ih =>
        simp only [List.any_cons]
        rw [e x, ih]
        cases badF ⟨d, v, on⟩ x.2 <;> cases occF name x.2 <;> cases r.any (fun h => badF ⟨d, v, on⟩ h.2) <;> cases r.any (fun x => occF name x.2) <;> rfl
    exact this on
  rw [e2]
  cases on.any (fun h => badF ⟨d, v, on⟩ h.2) <;> cases on.any (fun x => occF name x.2) <;> rfl
def zz : ByteArray := ⟨#[122, 122]⟩
theorem zz_no (j : Int) (h0 : 0 ≤ j) (h1 : j < 10) : nameF j ≠ zz := by
  have := ten j h0 h1
  intro e
  have h2 : (nameF j).data[0]? = some 118 := by
    rcases this with rfl | rfl | rfl | rfl | rfl | rfl | rfl | rfl | rfl | rfl <;> decide +kernel
  rw [e] at h2
  revert h2
  decide +kernel
theorem more_law {d v : List ByteArray} {on : List (Int × Nd)} (hu : UnitG ⟨d, v, on⟩) : checkF ⟨zz :: d, v, on⟩ = checkF ⟨d, v, on⟩ := by
  have h : ∀ s, indexF d v s < 0 ∨ s = zz ↔ indexF (zz :: d) v s < 0 ∨ s = zz := fun s => by
    rw [indexF_neg, indexF_neg]
    simp only [List.mem_cons, not_or]
    by_cases hs : s = zz
    · simp [hs]
    · simp [hs]
  have hno : ∀ x ∈ on, occF zz x.2 = false := fun x hx => occ_genB zz_no (hu.on x hx)
  have key : ∀ x ∈ on, badF ⟨zz :: d, v, on⟩ x.2 = badF ⟨d, v, on⟩ x.2 := fun x hx => by
    unfold badF
    have e1 := und_or (indexF d v) (fun s => if indexF d v s < 0 ∨ s = zz then -1 else 0) zz (fun s => neg_if) x.2
    have e2 := und_or (indexF (zz :: d) v) (fun s => if indexF d v s < 0 ∨ s = zz then -1 else 0) zz (fun s => neg_if.trans (h s)) x.2
    rw [hno x hx, Bool.or_false] at e1 e2
    show (!wellF x.2 || undF (indexF (zz :: d) v) x.2) = (!wellF x.2 || undF (indexF d v) x.2)
    rw [← e1, ← e2]
  unfold checkF
  simp only
  have gen : ∀ l : List (Int × Nd), (∀ x ∈ l, badF ⟨zz :: d, v, on⟩ x.2 = badF ⟨d, v, on⟩ x.2) → l.any (fun h => badF ⟨zz :: d, v, on⟩ h.2) = l.any (fun h => badF ⟨d, v, on⟩ h.2) := fun l => by
    intro hl
    induction l with
    | nil => rfl
    | cons x r ih =>
      simp only [List.any_cons]
      rw [hl x (by simp), ih fun y hy => hl y (List.mem_cons_of_mem _ hy)]
  rw [gen on key]
theorem fewer_law {d v : List ByteArray} {on : List (Int × Nd)} {name : ByteArray} : checkF ⟨d.filter (fun x => x ≠ name), v.filter (fun x => x ≠ name), on⟩ = if on.any (fun x => occF name x.2) then 11 else checkF ⟨d, v, on⟩ := by
  refine checkF_or fun s => ?_
  rw [indexF_neg, indexF_neg]
  simp only [List.mem_filter, decide_eq_true_eq, ne_eq, decide_not, Bool.not_eq_true', decide_eq_false_iff_not]
  by_cases hs : s = name
  · simp [hs]
  · simp [hs]
/-- What was collected tells what occurs. -/
def usedF : List (Int × Nd) → List ByteArray → List ByteArray
  | [], l => l
  | x :: r, l => usedF r (nmF x.2 l)
theorem used_occ (name : ByteArray) : ∀ (on : List (Int × Nd)) (l : List ByteArray), (usedF on l).any (fun s => decide (s = name)) = (l.any (fun s => decide (s = name)) || on.any fun x => occF name x.2)
  | [], l => by simp [usedF]
  | x :: r, l => by
    unfold usedF
    rw [used_occ name r, und_names (fun s => decide (s = name)) (fun s => if s = name then -1 else 0) (fun s => decide_eq_decide.2 neg_if.symm) x.2 l, List.any_cons, Bool.or_assoc]
    rfl
end Go.Proofs.Ytlmdmmikocbmlaa.Vm
