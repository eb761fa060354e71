/- Renamed, and the plain law of TypesRenaming. -/
import Derived.Test.YtlmdmmikocbmlaaVk12
namespace Go.Proofs.Ytlmdmmikocbmlaa.Vm
open Go.RowKit
set_option linter.unusedSimpArgs false
set_option linter.unusedVariables false
set_option maxRecDepth 100000
mutual
/-- A tree with other names. -/
def renF (x : ByteArray) : Nd → Nd
  | .mk k n s kids => .mk k n (if k = 1 ∨ k = 14 then s ++ x else s) (renFs x kids)
def renFs (x : ByteArray) : List Nd → List Nd
  | [] => []
  | t :: ts => renF x t :: renFs x ts
end
theorem renFs_map (x : ByteArray) (l : List Nd) : renFs x l = l.map (renF x) := by
  induction l with
  | nil => rfl
  | cons t ts ih => simp [renFs, ih]
mutual
/-- No name in it is long. -/
def shortN : Nd → Prop
  | .mk _ _ s kids => s.size ≤ 1000 ∧ shortNs kids
def shortNs : List Nd → Prop
  | [] => True
  | t :: ts => shortN t ∧ shortNs ts
end
theorem shortNs_mem : ∀ {l : List Nd} {t : Nd}, shortNs l → t ∈ l → shortN t
  | x :: r, t, h, ht => by
    unfold shortNs at h
    rcases List.mem_cons.1 ht with rfl | ht
    · exact h.1
    · exact shortNs_mem h.2 ht
theorem shortNs_of : ∀ {l : List Nd}, (∀ t ∈ l, shortN t) → shortNs l
  | [], _ => by unfold shortNs; trivial
  | x :: r, h => by unfold shortNs; exact ⟨h x (by simp), shortNs_of fun t ht => h t (by simp [ht])⟩
/-! ### Types and names do not see it -/
mutual
theorem typeF_ren (x : ByteArray) : ∀ t : Nd, typeF (renF x t) = typeF t
  | .mk k n s kids => by
    have h := fun ty => notAll_ren x ty kids
    unfold renF typeF
    by_cases hk : k = 1 ∨ k = 14
    · rw [if_pos hk]
      have h17 : ¬ (k = 17 ∨ k = 18) := by omega
      simp only [if_neg h17, h]
    · rw [if_neg hk]
      simp only [h]
theorem notAll_ren (x : ByteArray) (ty : Int) : ∀ l : List Nd, notAll ty (renFs x l) = notAll ty l
  | [] => rfl
  | t :: ts => by
    unfold renFs notAll
    rw [typeF_ren x t, notAll_ren x ty ts]
end
mutual
theorem wellF_ren (x : ByteArray) : ∀ t : Nd, wellF (renF x t) = wellF t
  | .mk k n s kids => by
    unfold renF wellF
    rw [wellAll_ren x kids, wellC_ren x kids, notAll_ren x 1 kids]
theorem wellAll_ren (x : ByteArray) : ∀ l : List Nd, wellAll (renFs x l) = wellAll l
  | [] => rfl
  | t :: ts => by
    unfold renFs wellAll
    rw [wellF_ren x t, wellAll_ren x ts]
theorem wellC_ren (x : ByteArray) : ∀ l : List Nd, wellC (renFs x l) = wellC l
  | [] => rfl
  | t :: ts => by
    unfold renFs wellC
    rw [typeF_ren x t, wellAll_ren x ts]
end
mutual
theorem und_ren (x : ByteArray) (ix ix' : ByteArray → Int) (h : ∀ s, ix' (s ++ x) < 0 ↔ ix s < 0) : ∀ t : Nd, undF ix' (renF x t) = undF ix t
  | .mk k n s kids => by
    unfold renF undF
    rw [und_rens x ix ix' h kids]
    by_cases hk : k = 1 ∨ k = 14
    · rw [if_pos hk, decide_eq_decide.2 (h s)]
    · have : (k == 1 || k == 14) = false := by
        rw [Bool.or_eq_false_iff]
        exact ⟨by simpa using fun e => hk (.inl e), by simpa using fun e => hk (.inr e)⟩
      rw [this]; rfl
theorem und_rens (x : ByteArray) (ix ix' : ByteArray → Int) (h : ∀ s, ix' (s ++ x) < 0 ↔ ix s < 0) : ∀ l : List Nd, undAll ix' (renFs x l) = undAll ix l
  | [] => rfl
  | t :: ts => by
    unfold renFs undAll
    rw [und_ren x ix ix' h t, und_rens x ix ix' h ts]
end
mutual
theorem und_congr (ix ix' : ByteArray → Int) (h : ∀ s, ix' s < 0 ↔ ix s < 0) : ∀ t : Nd, undF ix' t = undF ix t
  | .mk k n s kids => by
    unfold undF
    rw [und_congrs ix ix' h kids, decide_eq_decide.2 (h s)]
theorem und_congrs (ix ix' : ByteArray → Int) (h : ∀ s, ix' s < 0 ↔ ix s < 0) : ∀ l : List Nd, undAll ix' l = undAll ix l
  | [] => rfl
  | t :: ts => by
    unfold undAll
    rw [und_congr ix ix' h t, und_congrs ix ix' h ts]
end
theorem any_map {l : List (Int × Nd)} {f : Int × Nd → Int × Nd} {p q : Int × Nd → Bool} (h : ∀ x ∈ l, p (f x) = q x) : (l.map f).any p = l.any q := by
  induction l with
  | nil => rfl
  | cons x r ih =>
    simp only [List.map_cons, List.any_cons]
    rw [h x (by simp), ih fun y hy => h y (List.mem_cons_of_mem _ hy)]
theorem append_inj {a b x : ByteArray} (h : a ++ x = b ++ x) : a = b := by
  have h1 := congrArg ByteArray.data h
  simp only [ByteArray.data_append] at h1
  have h2 := congrArg Array.toList h1
  simp only [Array.toList_append] at h2
  have h3 := List.append_cancel_right h2
  cases a; cases b
  congr 1
  exact Array.toList_inj.1 h3
theorem mem_ren {l : List ByteArray} {s x : ByteArray} : s ++ x ∈ l.map (· ++ x) ↔ s ∈ l := by
  rw [List.mem_map]
  constructor
  · rintro ⟨a, ha, e⟩
    rw [append_inj e] at ha; exact ha
  · intro h
    exact ⟨s, h, rfl⟩
theorem ren_law (x : ByteArray) (d v : List ByteArray) (on : List (Int × Nd)) : checkF ⟨d.map (· ++ x), v.map (· ++ x), on.map fun h => (h.1, renF x h.2)⟩ = checkF ⟨d, v, on⟩ := by
  unfold checkF
  simp only
  rw [any_map (q := fun h => badF ⟨d, v, on⟩ h.2) fun h _ => ?_]
  unfold badF
  rw [wellF_ren, und_ren x (indexF d v) (indexF (d.map (· ++ x)) (v.map (· ++ x))) fun s => ?_]
  rw [indexF_neg, indexF_neg, mem_ren, mem_ren]
theorem swap_law (d v : List ByteArray) (on : List (Int × Nd)) : checkF ⟨v, d, on⟩ = checkF ⟨d, v, on⟩ := by
  have h := any_map (l := on) (f := id) (p := fun h => badF ⟨v, d, on⟩ h.2) (q := fun h => badF ⟨d, v, on⟩ h.2) fun x _ => by
    unfold badF
    rw [und_congr (indexF d v) (indexF v d) fun s => ?_]
    · rfl
    · rw [indexF_neg, indexF_neg]; exact And.comm
  rw [List.map_id] at h
  unfold checkF
  simp only
  rw [h]
theorem posF_ren (x : ByteArray) (l : List ByteArray) (s : ByteArray) : posF (l.map (· ++ x)) (s ++ x) = posF l s := by
  unfold posF
  have : (l.map (· ++ x)).findIdx? (fun y => y == s ++ x) = l.findIdx? (fun y => y == s) := by
    rw [List.findIdx?_map]
    congr 1
    funext y
    simp only [Function.comp]
    rw [bbeq, bbeq]
    exact decide_eq_decide.2 ⟨append_inj, fun e => by rw [e]⟩
  rw [this]
theorem index_ren (x : ByteArray) (d v : List ByteArray) (s : ByteArray) : indexF (d.map (· ++ x)) (v.map (· ++ x)) (s ++ x) = indexF d v s := by
  unfold indexF
  rw [posF_ren, posF_ren, List.length_map]
/-! ### Its size -/
theorem short_genE {d : Nat} {t : Nd} (h : GenE d t) : shortN t := by
  induction h with
  | int d n => unfold shortN shortNs; exact ⟨by show (0 : Nat) ≤ 1000; omega, trivial⟩
  | bool d n => unfold shortN shortNs; exact ⟨by show (0 : Nat) ≤ 1000; omega, trivial⟩
  | var d j h0 h1 => unfold shortN shortNs; exact ⟨Nat.le_trans (nameF_size j h0 h1) (by omega), trivial⟩
  | name d s hs =>
    unfold shortN shortNs
    have : names9.all (fun s => decide (s.size ≤ 1000)) = true := by decide +kernel
    exact ⟨by simpa using List.all_eq_true.1 this s hs, trivial⟩
  | draw d t _ ih => unfold shortN; exact ⟨by show (0 : Nat) ≤ 1000; omega, shortNs_of fun x hx => by obtain rfl := List.mem_singleton.1 hx; exact ih⟩
  | un d s t hs _ ih =>
    unfold shortN
    have : [⟨#[45]⟩, (⟨#[33]⟩ : ByteArray)].all (fun s => decide (s.size ≤ 1000)) = true := by decide +kernel
    exact ⟨by simpa using List.all_eq_true.1 this s hs, shortNs_of fun x hx => by obtain rfl := List.mem_singleton.1 hx; exact ih⟩
  | bin d s t u hs _ _ ih1 ih2 =>
    unfold shortN
    have : (ops2 ++ ops6 ++ ops4).all (fun s => decide (s.size ≤ 1000)) = true := by decide +kernel
    refine ⟨by simpa using List.all_eq_true.1 this s hs, shortNs_of fun x hx => ?_⟩
    simp only [List.mem_cons, List.not_mem_nil, or_false] at hx
    rcases hx with rfl | rfl
    · exact ih1
    · exact ih2
theorem short_mk {k n : Int} {s : ByteArray} {l : List Nd} (hs : s.size ≤ 1000) (h : ∀ x ∈ l, shortN x) : shortN (.mk k n s l) := by
  unfold shortN; exact ⟨hs, shortNs_of h⟩
theorem size0 : (⟨#[]⟩ : ByteArray).size ≤ 1000 := by show (0 : Nat) ≤ 1000; omega
theorem short_genS {d : Nat} {t : Nd} (h : GenS d t) : shortN t := by
  induction h with
  | assign d j e h0 h1 he => exact short_mk (Nat.le_trans (nameF_size j h0 h1) (by omega)) (fun x hx => by obtain rfl := List.mem_singleton.1 hx; exact short_genE he)
  | cond d c l m hc hl hm _ _ ih1 ih2 =>
    refine short_mk size0 (fun x hx => ?_)
    simp only [List.mem_cons, List.not_mem_nil, or_false] at hx
    rcases hx with rfl | rfl | rfl
    · exact short_genE hc
    · exact short_mk size0 ih1
    · exact short_mk size0 ih2
  | whil d c l hc hl _ ih =>
    refine short_mk size0 (fun x hx => ?_)
    simp only [List.mem_cons, List.not_mem_nil, or_false] at hx
    rcases hx with rfl | rfl
    · exact short_genE hc
    · exact short_mk size0 ih
  | send d n a b c _ _ ha hb hc =>
    refine short_mk size0 (fun x hx => ?_)
    simp only [List.mem_cons, List.not_mem_nil, or_false] at hx
    rcases hx with rfl | rfl | rfl
    · exact short_genE ha
    · exact short_genE hb
    · exact short_genE hc
  | timer d n => exact short_mk size0 (fun x hx => by cases hx)
  | cancel d n => exact short_mk size0 (fun x hx => by cases hx)
  | sync d => exact short_mk size0 (fun x hx => by cases hx)
  | stop d => exact short_mk size0 (fun x hx => by cases hx)
  | reply d a b ha hb =>
    refine short_mk size0 (fun x hx => ?_)
    simp only [List.mem_cons, List.not_mem_nil, or_false] at hx
    rcases hx with rfl | rfl
    · exact short_genE ha
    · exact short_genE hb
  | fail d a ha => exact short_mk size0 (fun x hx => by obtain rfl := List.mem_singleton.1 hx; exact short_genE ha)
theorem short_genB {t : Nd} (h : GenB 2 t) : shortN t := by
  obtain ⟨l, rfl, hl, hx⟩ := h
  exact short_mk size0 (fun x h => short_genS (hx x h))
end Go.Proofs.Ytlmdmmikocbmlaa.Vm
