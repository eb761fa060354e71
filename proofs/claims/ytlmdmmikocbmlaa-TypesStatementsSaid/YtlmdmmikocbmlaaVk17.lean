/- Replace: what it computes, its walk. -/
import Derived.Test.YtlmdmmikocbmlaaVk12
namespace Go.Proofs.Ytlmdmmikocbmlaa.Vm
open Go.RowKit
set_option linter.unusedSimpArgs false
set_option linter.unusedVariables false
set_option maxRecDepth 100000
mutual
/-- The tree in which one part is replaced, and how many parts are of the type. -/
def repF (typ : Int) (y : Nd) : Nd → Int → Nd × Int
  | .mk k n s kids, p =>
    if rtypeF (.mk k n s kids) = typ then
      (if p = 0 then (y, 1) else (.mk k n s (repFs typ y kids p 1).1, (repFs typ y kids p 1).2))
    else (.mk k n s (repFs typ y kids p 0).1, (repFs typ y kids p 0).2)
def repFs (typ : Int) (y : Nd) : List Nd → Int → Int → List Nd × Int
  | [], _, c => ([], c)
  | t :: ts, p, c => ((repF typ y t (p - c)).1 :: (repFs typ y ts p (c + (repF typ y t (p - c)).2)).1, (repFs typ y ts p (c + (repF typ y t (p - c)).2)).2)
end
theorem repFs_snoc (typ : Int) (y t : Nd) (p : Int) : ∀ (l : List Nd) (c : Int), repFs typ y (l ++ [t]) p c = ((repFs typ y l p c).1 ++ [(repF typ y t (p - (repFs typ y l p c).2)).1], (repFs typ y l p c).2 + (repF typ y t (p - (repFs typ y l p c).2)).2)
  | [], c => by simp [repFs]
  | x :: r, c => by
    simp only [List.cons_append, repFs]
    rw [repFs_snoc typ y t p r]
theorem repFs_take (typ : Int) (y : Nd) (p c : Int) (l : List Nd) (i : Nat) (hi : i < l.length) : repFs typ y (l.take (i + 1)) p c = ((repFs typ y (l.take i) p c).1 ++ [(repF typ y l[i] (p - (repFs typ y (l.take i) p c).2)).1], (repFs typ y (l.take i) p c).2 + (repF typ y l[i] (p - (repFs typ y (l.take i) p c).2)).2) := by
  rw [List.take_succ_eq_append_getElem hi, repFs_snoc]
theorem repFs_len (typ : Int) (y : Nd) (p : Int) : ∀ (l : List Nd) (c : Int), (repFs typ y l p c).1.length = l.length
  | [], c => by simp [repFs]
  | x :: r, c => by simp only [repFs, List.length_cons]; rw [repFs_len typ y p r]
mutual
theorem repF_cnt (typ : Int) (y : Nd) : ∀ (t : Nd) (p : Int), 0 ≤ (repF typ y t p).2 ∧ (repF typ y t p).2 ≤ cntN t
  | .mk k n s kids, p => by
    have h0 := repFs_cnt typ y kids p 0
    have h1 := repFs_cnt typ y kids p 1
    unfold repF cntN
    split
    · split
      · simp only; omega
      · simp only; omega
    · simp only; omega
theorem repFs_cnt (typ : Int) (y : Nd) : ∀ (l : List Nd) (p c : Int), c ≤ (repFs typ y l p c).2 ∧ (repFs typ y l p c).2 ≤ c + cntNs l
  | [], p, c => by simp [repFs, cntNs]
  | t :: ts, p, c => by
    have h1 := repF_cnt typ y t (p - c)
    have h2 := repFs_cnt typ y ts p (c + (repF typ y t (p - c)).2)
    unfold repFs cntNs
    simp only
    omega
end
theorem cntNs_take' (l : List Nd) (i : Nat) : cntNs (l.take i) ≤ cntNs l := by
  induction l generalizing i with
  | nil => simp
  | cons x r ih =>
    cases i with
    | zero => simp [cntNs]
    | succ i => simp only [List.take_succ_cons, cntNs]; have := ih i; omega
mutual
theorem repF_small (typ : Int) (y : Nd) (hy : smallN y) : ∀ (t : Nd) (p : Int), smallN t → smallN (repF typ y t p).1
  | .mk k n s kids, p, h => by
    unfold smallN at h
    have h0 := repFs_small typ y hy kids p 0 h.2
    have h1 := repFs_small typ y hy kids p 1 h.2
    unfold repF
    split
    · split
      · exact hy
      · simp only; unfold smallN; exact ⟨by rw [repFs_len]; exact h.1, h1⟩
    · simp only; unfold smallN; exact ⟨by rw [repFs_len]; exact h.1, h0⟩
theorem repFs_small (typ : Int) (y : Nd) (hy : smallN y) : ∀ (l : List Nd) (p c : Int), smallNs l → smallNs (repFs typ y l p c).1
  | [], p, c, h => by unfold repFs smallNs; trivial
  | t :: ts, p, c, h => by
    unfold smallNs at h
    unfold repFs smallNs
    exact ⟨repF_small typ y hy t _ h.1, repFs_small typ y hy ts _ _ h.2⟩
end
theorem typeF_kids {k n : Int} {s : ByteArray} {l l' : List Nd} (h : ∀ ty, notAll ty l = notAll ty l') : typeF (.mk k n s l) = typeF (.mk k n s l') := by
  unfold typeF
  simp only [h]
/-- The type of the whole does not change. -/
theorem rep_type {typ : Int} {y : Nd} (hy : typeF y = typ) {d : Nat} {t : Nd} (h : GenE d t) : ∀ p, typeF (repF typ y t p).1 = typeF t := by
  have shape : ∀ (k n : Int) (s : ByteArray) (kids : List Nd) (p : Int), typeF (.mk k n s kids) = rtypeF (.mk k n s kids) → (∀ c, typeF (.mk k n s (repFs typ y kids p c).1) = typeF (.mk k n s kids)) → typeF (repF typ y (.mk k n s kids) p).1 = typeF (.mk k n s kids) := fun k n s kids p h1 h2 => by
    unfold repF
    split
    · rename_i ht
      split
      · rw [hy, h1, ht]
      · exact h2 1
    · exact h2 0
  induction h with
  | int d n h0 h1 => exact fun p => shape _ _ _ _ p (gen_type (GenE.int d n h0 h1)) (fun c => rfl)
  | bool d n h0 h1 => exact fun p => shape _ _ _ _ p (gen_type (GenE.bool d n h0 h1)) (fun c => rfl)
  | var d j h0 h1 => exact fun p => shape _ _ _ _ p (gen_type (GenE.var d j h0 h1)) (fun c => rfl)
  | name d s hs => exact fun p => shape _ _ _ _ p (gen_type (GenE.name d s hs)) (fun c => rfl)
  | draw d t ht ih => exact fun p => shape _ _ _ _ p (gen_type (GenE.draw d t ht)) (fun c => typeF_kids fun ty => by simp only [repFs, notAll, ih])
  | un d s t hs ht ih => exact fun p => shape _ _ _ _ p (gen_type (GenE.un d s t hs ht)) (fun c => typeF_kids fun ty => by simp only [repFs, notAll, ih])
  | bin d s t u hs ht hu ih1 ih2 => exact fun p => shape _ _ _ _ p (gen_type (GenE.bin d s t u hs ht hu)) (fun c => typeF_kids fun ty => by simp only [repFs, notAll, ih1, ih2])
end Go.Proofs.Ytlmdmmikocbmlaa.Vm
