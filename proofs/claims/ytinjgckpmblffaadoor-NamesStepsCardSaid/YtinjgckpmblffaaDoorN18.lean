/- Orders: the plain law. No walk here. -/
import Derived.Test.YtinjgckpmblffaaDoorN17
namespace Go.Proofs.YtinjgckpmblffaaDoor.Vm
open Go.RowKit Go.Shelf
set_option linter.unusedSimpArgs false
set_option linter.unusedVariables false
set_option maxRecDepth 100000
theorem cmpL_cons (x y : Int) (a b : List Int) : cmpL (x :: a) (y :: b) = if x < y then -1 else if y < x then 1 else cmpL a b := by
  show (if cmpI x y = 0 then cmpL a b else cmpI x y) = _
  unfold cmpI
  by_cases h1 : x < y
  · rw [if_pos h1, if_neg (by omega), if_pos h1]
  · rw [if_neg h1, if_neg h1]
    by_cases h2 : y < x
    · rw [if_pos h2, if_neg (by omega), if_pos h2]
    · rw [if_neg h2, if_pos rfl, if_neg h2]
theorem cmpL_neg : ∀ (a b : List Int), cmpL b a = - cmpL a b
  | [], [] => by simp [cmpL]
  | [], _ :: _ => by simp [cmpL]
  | _ :: _, [] => by simp [cmpL]
  | x :: a, y :: b => by
    have ih := cmpL_neg a b
    rw [cmpL_cons, cmpL_cons]
    by_cases h1 : x < y
    · rw [if_neg (by omega), if_pos h1, if_pos h1]; rfl
    · by_cases h2 : y < x
      · rw [if_pos h2, if_neg h1, if_pos h2]
      · rw [if_neg h2, if_neg h1, if_neg h1, if_neg h2, ih]
theorem cmpL_self : ∀ (a : List Int), cmpL a a = 0
  | [] => by simp [cmpL]
  | x :: a => by rw [cmpL_cons, if_neg (by omega), if_neg (by omega), cmpL_self a]
theorem cmpL_zero : ∀ {a b : List Int}, cmpL a b = 0 → a = b
  | [], [], _ => rfl
  | [], _ :: _, h => by simp [cmpL] at h
  | _ :: _, [], h => by simp [cmpL] at h
  | x :: a, y :: b, h => by
    rw [cmpL_cons] at h
    by_cases h1 : x < y
    · rw [if_pos h1] at h; cases h
    · rw [if_neg h1] at h
      by_cases h2 : y < x
      · rw [if_pos h2] at h; cases h
      · rw [if_neg h2] at h
        rw [cmpL_zero h, show x = y by omega]
theorem cmpL_trans : ∀ {a b c : List Int}, cmpL a b ≤ 0 → cmpL b c ≤ 0 → cmpL a c ≤ 0 ∧ (cmpL a b < 0 ∨ cmpL b c < 0 → cmpL a c < 0)
  | [], b, [], h, k => by
    cases b with
    | nil => simp [cmpL]
    | cons y b => simp [cmpL] at k
  | [], b, z :: c, h, k => by simp [cmpL]
  | x :: a, [], c, h, k => by simp [cmpL] at h
  | x :: a, y :: b, [], h, k => by simp [cmpL] at k
  | x :: a, y :: b, z :: c, h, k => by
    rw [cmpL_cons] at h k ⊢
    rw [cmpL_cons x y, cmpL_cons y z]
    by_cases h1 : x < y
    · rw [if_pos h1]
      by_cases k1 : y < z
      · rw [if_pos k1, if_pos (by omega : x < z)]
        exact ⟨by omega, fun _ => by omega⟩
      · rw [if_neg k1] at k ⊢
        by_cases k2 : z < y
        · rw [if_pos k2] at k; omega
        · rw [if_pos (by omega : x < z)]
          exact ⟨by omega, fun _ => by omega⟩
    · rw [if_neg h1] at h ⊢
      by_cases h2 : y < x
      · rw [if_pos h2] at h; omega
      · rw [if_neg h2] at h ⊢
        by_cases k1 : y < z
        · rw [if_pos k1, if_pos (by omega : x < z)]
          exact ⟨by omega, fun _ => by omega⟩
        · rw [if_neg k1] at k ⊢
          by_cases k2 : z < y
          · rw [if_pos k2] at k; omega
          · rw [if_neg k2] at k ⊢
            rw [if_neg (by omega : ¬ x < z), if_neg (by omega : ¬ z < x)]
            exact cmpL_trans h k
theorem cmpL_app : ∀ {a a' : List Int} (b b' : List Int), a.length = a'.length → cmpL (a ++ b) (a' ++ b') = if cmpL a a' = 0 then cmpL b b' else cmpL a a'
  | [], [], b, b', _ => by simp [cmpL]
  | [], _ :: _, b, b', h => by simp at h
  | _ :: _, [], b, b', h => by simp at h
  | x :: a, y :: a', b, b', h => by
    have ih := cmpL_app (a := a) (a' := a') b b' (by simpa using h)
    rw [List.cons_append, List.cons_append, cmpL_cons, cmpL_cons, ih]
    by_cases h1 : x < y
    · rw [if_pos h1, if_pos h1, if_neg (by omega)]
    · rw [if_neg h1, if_neg h1]
      by_cases h2 : y < x
      · rw [if_pos h2, if_pos h2, if_neg (by omega)]
      · rw [if_neg h2, if_neg h2]
theorem eKey_inj {a b : Ev} (h : eKey a = eKey b) : a = b := by
  obtain ⟨k, n, g, ⟨⟨x, y, z⟩, i, c⟩⟩ := a
  obtain ⟨k', n', g', ⟨⟨x', y', z'⟩, i', c'⟩⟩ := b
  simp only [eKey, mKey, List.cons.injEq] at h
  obtain ⟨h1, h2, h3, h4, h5, h6, h7, h8, _⟩ := h
  subst h1 h2 h3 h4 h5 h6 h7 h8
  rfl
def aKey (a : Ak) : List Int := qKey a.q ++ [a.n]
def sKey (e : Ev) (l : List Ak) : List Int := eKey e ++ l.flatMap aKey
def cmpA (a b : Ak) : Int := orF [cmpL (qKey a.q) (qKey b.q), cmpI a.n b.n]
theorem cmpA_eq (a b : Ak) : cmpA a b = cmpL (aKey a) (aKey b) := by
  unfold cmpA aKey
  rw [cmpL_app _ _ (by simp [qKey])]
  simp only [orF]
  have e : cmpL [a.n] [b.n] = cmpI a.n b.n := by
    simp only [cmpL]
    split
    · rename_i h; rw [h]
    · rfl
  rw [e]
  split
  · split
    · rename_i h; rw [h]
    · rfl
  · rfl
def listsA : List Ak → List Ak → Int
  | [], [] => 0
  | [], _ :: _ => -1
  | _ :: _, [] => 1
  | a :: l, b :: m => if cmpA a b = 0 then listsA l m else cmpA a b
theorem listsA_eq : ∀ (l m : List Ak), listsA l m = cmpL (l.flatMap aKey) (m.flatMap aKey)
  | [], [] => rfl
  | [], b :: m => rfl
  | a :: l, [] => rfl
  | a :: l, b :: m => by
    have ih := listsA_eq l m
    simp only [listsA, List.flatMap_cons]
    rw [cmpL_app _ _ (by simp [aKey, qKey]), ← cmpA_eq, ih]
theorem steps_eq (e f : Ev) (l m : List Ak) : (if cmpL (eKey e) (eKey f) = 0 then listsA l m else cmpL (eKey e) (eKey f)) = cmpL (sKey e l) (sKey f m) := by
  unfold sKey
  rw [cmpL_app _ _ (by simp [eKey, mKey]), listsA_eq]
end Go.Proofs.YtinjgckpmblffaaDoor.Vm
