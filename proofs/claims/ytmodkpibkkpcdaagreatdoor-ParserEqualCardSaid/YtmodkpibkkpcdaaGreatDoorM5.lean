/- Texts 5 of the proof: Ta, G1, G2, G3, G4, G5, E6. -/
import Derived.Test.YtmodkpibkkpcdaaGreatDoorM4
namespace Go.Proofs.YtmodkpibkkpcdaaGreatDoor.Vm
open Go.RowKit
set_option linter.unusedSimpArgs false
set_option linter.unusedVariables false
set_option maxRecDepth 100000
def absI (n : Int) : Int := if n < 0 then -(n + 1) else n
def aroundF (n m : Int) : Int := (absI n).tmod m
theorem absI_rng {n : Int} (hn : -9223372036854775808 ≤ n ∧ n ≤ 9223372036854775807) : 0 ≤ absI n ∧ absI n ≤ 9223372036854775807 := by unfold absI; split <;> omega
theorem aroundF_rng {n m : Int} (hn : -9223372036854775808 ≤ n ∧ n ≤ 9223372036854775807) (hm : 1 ≤ m) : 0 ≤ aroundF n m ∧ aroundF n m < m := by
 have h := absI_rng hn
 unfold aroundF
 rw [Int.tmod_eq_emod_of_nonneg h.1]
 exact ⟨Int.emod_nonneg _ (by omega), Int.emod_lt_of_pos _ (by omega)⟩
theorem around_spec (n m : Int) (hm : 1 ≤ m ∧ m ≤ 9223372036854775807) : Spec Tryz.prog 20 [] [intA n, intA m] fun _ r => (-9223372036854775808 ≤ n ∧ n ≤ 9223372036854775807) ∧ r = intA (aroundF n m) := by
 refine spec_of (cx_ok ord0 xs0 0) (fun _ _ h => h) Tryz.func20 rfl (by kernel_rfl) rfl (by kernel_rfl) ?_
 intro hok
 have hn : -9223372036854775808 ≤ n ∧ n ≤ 9223372036854775807 := okA_int.1 hok.1
 have hab := absI_rng hn
 conv => whnf
 by_cases h : n < 0
 ·refine br_true (b := decide (n < 0)) (decide_eq_true h) ?_
  conv => whnf
  refine ⟨i64r (by omega), ?_⟩
  conv => whnf
  refine ⟨i64r (by omega), ?_⟩
  conv => whnf
  refine ⟨by omega, ?_⟩
  conv => whnf
  refine ⟨hn, ?_⟩
  have : 0 - (n + 1) = absI n := by unfold absI; rw [if_pos h]; omega
  rw [this]; rfl
 ·refine br_false (b := decide (n < 0)) (decide_eq_false h) ?_
  conv => whnf
  refine ⟨by omega, ?_⟩
  conv => whnf
  refine ⟨hn, ?_⟩
  have : n = absI n := by unfold absI; rw [if_neg h]
  show A.v (.int .i64 (n.tmod m)) = intA ((absI n).tmod m)
  rw [← this]; rfl
end Go.Proofs.YtmodkpibkkpcdaaGreatDoor.Vm
namespace Go.Proofs.YtmodkpibkkpcdaaGreatDoor.Vm
open Go.RowKit Go.Shelf
set_option linter.unusedSimpArgs false
set_option linter.unusedVariables false
set_option maxRecDepth 100000
def pkF (l : List Int) (i : Nat) : Int := if i < l.length then aroundF (l.getD i 0) 1000000 else 0
theorem rPick (l : List Int) (i : Nat) : Spec Tryz.prog 45 [] [.sl 1 l.length (intsA l), intA i, intA 1000000] fun _ r => (0 ≤ pkF l i ∧ pkF l i < 1000000) ∧ r = intA (pkF l i) := by
 unfold pkF
 refine spec_of (cx_ok ord0 xs0 0) (fun _ _ h => h) Tryz.func45 rfl (by kernel_rfl) rfl (by kernel_rfl) ?_
 intro hok
 conv => whnf
 rw [decide_eq_false (show ¬ (i : Int) < 0 by omega)]
 conv => whnf
 by_cases hi : i < l.length
 ·have hr := rowOf_ints l i hi
  have e : l.getD i 0 = l[i] := by rw [List.getD_eq_getElem?_getD, List.getElem?_eq_getElem hi]; rfl
  rw [← e] at hr
  rw [if_pos hi, decide_eq_false (show ¬ (l.length : Int) ≤ i by omega)]
  generalize l.getD i 0 = x at *
  have ha := around_spec x 1000000 (by omega)
  conv => whnf
  (refine goA ?_; try with_reducible exact trivial)
  (generalize hrq : rowOf _ _ (intsA l) = rq; obtain rfl : rq = [intA x] := hrq.symm.trans (hr); clear hrq; conv => whnf)
  refine call0 [] rfl (fun _ => ha) ?_
  rintro r ⟨hx, rfl⟩
  conv => whnf
  exact ⟨aroundF_rng hx (by omega), rfl⟩
 ·rw [if_neg hi, decide_eq_true (show (l.length : Int) ≤ i by omega)]
  conv => whnf
  exact ⟨by omega, rfl⟩
def bxG (l : List Int) (i : Nat) : List A := [.sl 1 l.length (intsA l), .v (.int .i64 i)]
def pk (l : List Int) (i m : Nat) : Nat := (pkF l i).toNat % m
theorem pk_lt (l : List Int) (i : Nat) {m : Nat} (h : 0 < m) : pk l i m < m := Nat.mod_lt _ h
theorem gpick (l : List Int) (i m : Nat) (hi : i ≤ 1000000000) (hm : 1 ≤ m ∧ m ≤ 1000) : Spec Tryz.prog 36 [bxG l i] [.box 0 0, .v (.int .i64 m)] fun o r => o = [bxG l (i + 1)] ∧ r = .v (.int .i64 (pk l i m)) := by
 unfold pk
 refine spec_of (cx_ok ord36 xs0 1) (fun _ _ h => h) Tryz.func36 rfl (by kernel_rfl) rfl (by kernel_rfl) ?_
 intro hok
 conv => whnf
 refine call0 [] rfl (fun _ => rPick l i) ?_
 rintro r ⟨hr, rfl⟩
 obtain ⟨k, hk⟩ : ∃ k : Nat, pkF l i = (k : Int) := ⟨(pkF l i).toNat, by omega⟩
 rw [hk] at hr ⊢
 conv => whnf
 (refine goA ?_; try with_reducible exact trivial)
 have e : ((k : Int)).tmod (m : Int) = ((k % m : Nat) : Int) := by rw [Int.tmod_eq_emod_of_nonneg (by omega)]; omega
 exact ⟨rfl, by rw [e]; rfl⟩
theorem drop_cell {α : Type} (f : α → A) (l : List α) (i : Nat) (h : i < l.length) : (l.map f).drop (i * 1) = f l[i] :: (l.map f).drop (i + 1) := by
 rw [Nat.mul_one, List.drop_eq_getElem_cons (by simpa using h), List.getElem_map]
def varL : List ByteArray := [⟨#[100]⟩, ⟨#[100, 100, 49]⟩, ⟨#[118]⟩, ⟨#[119, 50]⟩]
theorem gvar (l : List Int) (i : Nat) (hi : i ≤ 1000000000) : ∃ s ∈ varL, Spec Tryz.prog 91 [bxG l i] [.box 0 0] fun o r => o = [bxG l (i + 1)] ∧ r = strA s := by
 have hp := gpick l i 4 hi (by decide)
 have hlt := pk_lt l i (m := 4) (by decide)
 generalize pk l i 4 = k at *
 refine ⟨varL[k]'hlt, List.getElem_mem _, ?_⟩
 have hr := drop_cell strA varL k hlt
 generalize varL[k]'hlt = s at *
 refine spec_of (cx_ok ord0 xs0 1) (fun _ _ h => h) Tryz.func91 rfl (by kernel_rfl) rfl (by kernel_rfl) ?_
 intro hok
 conv => whnf
 refine call1 0 [] rfl rfl rfl rfl (fun _ => hp) ?_
 rintro o r ⟨ho, rfl⟩
 cases ho
 conv => whnf
 refine ⟨⟨by omega, by omega⟩, ?_⟩
 conv => whnf
 generalize hrq : List.drop (Int.toNat (k : Int) * _) _ = rq
 obtain rfl : rq = _ :: _ := hrq.symm.trans hr
 clear hrq
 conv => whnf
 exact ⟨rfl, rfl⟩
def litL : List Int := [0, 1, 2, 3, 7, 100, 2147483647, 30]
def opL : List ByteArray := [pPlus, pMinus, pStar, pSlash]
inductive EI : Nat → Nt → Prop
 | lit (d : Nat) (n : Int) (h : n ∈ litL) : EI d (.mk 12 n eB [])
 | var (d : Nat) (s : ByteArray) (h : s ∈ varL) : EI d (.mk 14 0 s [])
 | nam (d : Nat) (s : ByteArray) (h : s ∈ builtL) : EI d (.mk 15 0 s [])
 | drw (d : Nat) (f : Nt) (h : EI d f) : EI (d + 1) (.mk 16 0 eB [f])
 | neg (d : Nat) (f : Nt) (h : EI d f) : EI (d + 1) (.mk 17 0 pMinus [f])
 | bin (d : Nat) (s : ByteArray) (f g : Nt) (hs : s ∈ opL) (h1 : EI d f) (h2 : EI d g) : EI (d + 1) (.mk 18 0 s [f, g])
def bI : Nat → Nat
 | 0 => 2
 | d + 1 => 2 + 2 * bI d
theorem bI_ge : ∀ d, 2 ≤ bI d
 | 0 => Nat.le_refl _
 | d + 1 => by unfold bI; omega
def GenI (l : List Int) (d : Nat) : Prop := ∀ (i : Nat) (z : Int), z.toNat = d → -5 ≤ z → z ≤ 10 → i + bI d ≤ 1000000000 → ∃ f i', EI d f ∧ i ≤ i' ∧ i' ≤ i + bI d ∧ Spec Tryz.prog 92 [bxG l i] [.box 0 0, .v (.int .i64 z)] fun o r => o = [bxG l i'] ∧ r = .agg (ntA f)
theorem gw {P : Program} {f : Nat} {cs args : List A} {X : List (List A)} {t : Nt} (h : Spec P f [cs] args fun o r => o = X ∧ ∃ l, r = .agg l ∧ WkL l (ntA t)) : Spec P f [cs] args fun o r => o = X ∧ r = .agg (ntA t) :=
 Spec.weaken h fun o r ⟨h1, l, h2, h3⟩ => ⟨o, .agg (ntA t), ⟨h1, rfl⟩, .refl _, by rw [h2]; exact .agg h3⟩
set_option maxHeartbeats 1000000 in
theorem gint (l : List Int) (d : Nat) (ih : ∀ e, d = e + 1 → GenI l e) : GenI l d := fun i z hz h1 h2 hi => by
 have hge := bI_ge d
 have hp := gpick l i 12 (by omega) (by decide)
 have hlt := pk_lt l i (m := 12) (by decide)
 generalize pk l i 12 = n0 at *
 obtain ⟨n, hn⟩ : ∃ n, (if z ≤ 0 then n0 % 6 else n0) = n := ⟨_, rfl⟩
 have hn12 : n < 12 := by split at hn <;> omega
 have hn6 : z ≤ 0 → n < 6 := fun h => by rw [if_pos h] at hn; omega
 by_cases hA : n ≤ 1
 ·have hp2 := gpick l (i + 1) 8 (by omega) (by decide)
  have hlt2 := pk_lt l (i + 1) (m := 8) (by decide)
  generalize pk l (i + 1) 8 = k8 at *
  refine ⟨.mk 12 (litL[k8]'hlt2) eB [], i + 2, .lit _ _ (List.getElem_mem _), by omega, by omega, ?_⟩
  have hr := drop_cell intA litL k8 hlt2
  generalize litL[k8]'hlt2 = x at *
  rcases (by omega : n = 0 ∨ n = 1) with rfl | rfl
  ·refine gw ?_
   refine spec_of (cx_ok ord92 (fun _ => [0]) 1) (fun _ _ h => h) Tryz.func92 rfl (by kernel_rfl) rfl (by kernel_rfl) ?_
   intro hok
   conv => whnf
   refine call1 0 [] rfl rfl rfl rfl (fun _ => hp) ?_
   rintro o r ⟨ho, rfl⟩
   cases ho
   conv => whnf
   by_cases hz0 : z ≤ 0
   all_goals
    first
    | (rw [if_pos hz0] at hn; rw [decide_eq_true hz0]; (conv => whnf); refine ⟨by decide, ?_⟩; rw [show ((n0 : Int)).tmod 6 = 0 by rw [Int.tmod_eq_emod_of_nonneg (by omega)]; omega])
    | (rw [if_neg hz0] at hn; rw [decide_eq_false hz0]; (conv => whnf); rw [show (n0 : Int) = 0 by omega])
    conv => whnf
   all_goals
    refine call1 0 [] rfl rfl rfl rfl (fun _ => hp2) ?_
    rintro o r ⟨ho, rfl⟩
    cases ho
    conv => whnf
    refine ⟨⟨by omega, by omega⟩, ?_⟩
    conv => whnf
    generalize hrq : List.drop (Int.toNat (k8 : Int) * _) _ = rq
    obtain rfl : rq = _ :: _ := hrq.symm.trans hr
    clear hrq
    conv => whnf
    exact ⟨rfl, _, rfl, rawN_wk (f := .mk 12 x eB []) rfl⟩
  ·refine gw ?_
   refine spec_of (cx_ok ord92 (fun _ => [0]) 1) (fun _ _ h => h) Tryz.func92 rfl (by kernel_rfl) rfl (by kernel_rfl) ?_
   intro hok
   conv => whnf
   refine call1 0 [] rfl rfl rfl rfl (fun _ => hp) ?_
   rintro o r ⟨ho, rfl⟩
   cases ho
   conv => whnf
   by_cases hz0 : z ≤ 0
   all_goals
    first
    | (rw [if_pos hz0] at hn; rw [decide_eq_true hz0]; (conv => whnf); refine ⟨by decide, ?_⟩; rw [show ((n0 : Int)).tmod 6 = 1 by rw [Int.tmod_eq_emod_of_nonneg (by omega)]; omega])
    | (rw [if_neg hz0] at hn; rw [decide_eq_false hz0]; (conv => whnf); rw [show (n0 : Int) = 1 by omega])
    conv => whnf
   all_goals
    refine call1 0 [] rfl rfl rfl rfl (fun _ => hp2) ?_
    rintro o r ⟨ho, rfl⟩
    cases ho
    conv => whnf
    refine ⟨⟨by omega, by omega⟩, ?_⟩
    conv => whnf
    generalize hrq : List.drop (Int.toNat (k8 : Int) * _) _ = rq
    obtain rfl : rq = _ :: _ := hrq.symm.trans hr
    clear hrq
    conv => whnf
    exact ⟨rfl, _, rfl, rawN_wk (f := .mk 12 x eB []) rfl⟩
 by_cases hB : n ≤ 3
 ·obtain ⟨s, hs1, hp2⟩ := gvar l (i + 1) (by omega)
  refine ⟨.mk 14 0 s [], i + 2, .var _ _ hs1, by omega, by omega, ?_⟩
  rcases (by omega : n = 2 ∨ n = 3) with rfl | rfl
  ·refine gw ?_
   refine spec_of (cx_ok ord92 (fun _ => [0]) 1) (fun _ _ h => h) Tryz.func92 rfl (by kernel_rfl) rfl (by kernel_rfl) ?_
   intro hok
   conv => whnf
   refine call1 0 [] rfl rfl rfl rfl (fun _ => hp) ?_
   rintro o r ⟨ho, rfl⟩
   cases ho
   conv => whnf
   by_cases hz0 : z ≤ 0
   all_goals
    first
    | (rw [if_pos hz0] at hn; rw [decide_eq_true hz0]; (conv => whnf); refine ⟨by decide, ?_⟩; rw [show ((n0 : Int)).tmod 6 = 2 by rw [Int.tmod_eq_emod_of_nonneg (by omega)]; omega])
    | (rw [if_neg hz0] at hn; rw [decide_eq_false hz0]; (conv => whnf); rw [show (n0 : Int) = 2 by omega])
    conv => whnf
   all_goals
    refine call1 0 [] rfl rfl rfl rfl (fun _ => hp2) ?_
    rintro o r ⟨ho, rfl⟩
    cases ho
    conv => whnf
    exact ⟨rfl, _, rfl, rawN_wk (f := .mk 14 0 s []) rfl⟩
  ·refine gw ?_
   refine spec_of (cx_ok ord92 (fun _ => [0]) 1) (fun _ _ h => h) Tryz.func92 rfl (by kernel_rfl) rfl (by kernel_rfl) ?_
   intro hok
   conv => whnf
   refine call1 0 [] rfl rfl rfl rfl (fun _ => hp) ?_
   rintro o r ⟨ho, rfl⟩
   cases ho
   conv => whnf
   by_cases hz0 : z ≤ 0
   all_goals
    first
    | (rw [if_pos hz0] at hn; rw [decide_eq_true hz0]; (conv => whnf); refine ⟨by decide, ?_⟩; rw [show ((n0 : Int)).tmod 6 = 3 by rw [Int.tmod_eq_emod_of_nonneg (by omega)]; omega])
    | (rw [if_neg hz0] at hn; rw [decide_eq_false hz0]; (conv => whnf); rw [show (n0 : Int) = 3 by omega])
    conv => whnf
   all_goals
    refine call1 0 [] rfl rfl rfl rfl (fun _ => hp2) ?_
    rintro o r ⟨ho, rfl⟩
    cases ho
    conv => whnf
    exact ⟨rfl, _, rfl, rawN_wk (f := .mk 14 0 s []) rfl⟩
 by_cases hC : n ≤ 5
 ·have hp2 := gpick l (i + 1) 9 (by omega) (by decide)
  have hlt2 := pk_lt l (i + 1) (m := 9) (by decide)
  generalize pk l (i + 1) 9 = k8 at *
  refine ⟨.mk 15 0 (builtL[k8]'hlt2) [], i + 2, .nam _ _ (List.getElem_mem _), by omega, by omega, ?_⟩
  have hr : rowOf 1 k8 (strsA builtL) = [strA (builtL[k8]'hlt2)] := rowOf_map strA builtL k8 hlt2
  have hbu := builtins_spec
  generalize builtL[k8]'hlt2 = s at *
  rcases (by omega : n = 4 ∨ n = 5) with rfl | rfl
  ·refine gw ?_
   refine spec_of (cx_ok ord92 (fun _ => [0]) 1) (fun _ _ h => h) Tryz.func92 rfl (by kernel_rfl) rfl (by kernel_rfl) ?_
   intro hok
   conv => whnf
   refine call1 0 [] rfl rfl rfl rfl (fun _ => hp) ?_
   rintro o r ⟨ho, rfl⟩
   cases ho
   conv => whnf
   by_cases hz0 : z ≤ 0
   all_goals
    first
    | (rw [if_pos hz0] at hn; rw [decide_eq_true hz0]; (conv => whnf); refine ⟨by decide, ?_⟩; rw [show ((n0 : Int)).tmod 6 = 4 by rw [Int.tmod_eq_emod_of_nonneg (by omega)]; omega])
    | (rw [if_neg hz0] at hn; rw [decide_eq_false hz0]; (conv => whnf); rw [show (n0 : Int) = 4 by omega])
    conv => whnf
   all_goals
    (refine call0 [] rfl (fun _ => hbu) ?_; rintro r rfl; conv => whnf)
    refine call1 0 [] rfl rfl rfl rfl (fun _ => hp2) ?_
    rintro o r ⟨ho, rfl⟩
    cases ho
    conv => whnf
    refine ⟨⟨by omega, by show (k8 : Int) < 9; omega⟩, ?_⟩
    conv => whnf
    (generalize hrq : rowOf _ _ (strsA builtL) = rq; obtain rfl : rq = [strA s] := hrq.symm.trans (hr); clear hrq; conv => whnf)
    exact ⟨rfl, _, rfl, rawN_wk (f := .mk 15 0 s []) rfl⟩
  ·refine gw ?_
   refine spec_of (cx_ok ord92 (fun _ => [0]) 1) (fun _ _ h => h) Tryz.func92 rfl (by kernel_rfl) rfl (by kernel_rfl) ?_
   intro hok
   conv => whnf
   refine call1 0 [] rfl rfl rfl rfl (fun _ => hp) ?_
   rintro o r ⟨ho, rfl⟩
   cases ho
   conv => whnf
   by_cases hz0 : z ≤ 0
   all_goals
    first
    | (rw [if_pos hz0] at hn; rw [decide_eq_true hz0]; (conv => whnf); refine ⟨by decide, ?_⟩; rw [show ((n0 : Int)).tmod 6 = 5 by rw [Int.tmod_eq_emod_of_nonneg (by omega)]; omega])
    | (rw [if_neg hz0] at hn; rw [decide_eq_false hz0]; (conv => whnf); rw [show (n0 : Int) = 5 by omega])
    conv => whnf
   all_goals
    (refine call0 [] rfl (fun _ => hbu) ?_; rintro r rfl; conv => whnf)
    refine call1 0 [] rfl rfl rfl rfl (fun _ => hp2) ?_
    rintro o r ⟨ho, rfl⟩
    cases ho
    conv => whnf
    refine ⟨⟨by omega, by show (k8 : Int) < 9; omega⟩, ?_⟩
    conv => whnf
    (generalize hrq : rowOf _ _ (strsA builtL) = rq; obtain rfl : rq = [strA s] := hrq.symm.trans (hr); clear hrq; conv => whnf)
    exact ⟨rfl, _, rfl, rawN_wk (f := .mk 15 0 s []) rfl⟩
 have hzp : 0 < z := by
  by_cases h : 0 < z
  ·exact h
  ·have := hn6 (by omega); omega
 obtain ⟨e, rfl⟩ : ∃ e, d = e + 1 := ⟨d - 1, by omega⟩
 have ihe := ih e rfl
 unfold bI at hi
 by_cases hD : n ≤ 7
 ·obtain ⟨f, i2, hf, g1, g2, hs⟩ := ihe (i + 1) (z - 1) (by omega) (by omega) (by omega) (by omega)
  rcases (by omega : n = 6 ∨ n = 7) with rfl | rfl
  ·refine ⟨.mk 16 0 eB [f], i2, .drw _ _ hf, by omega, by unfold bI; omega, ?_⟩
   refine gw ?_
   refine spec_of (cx_ok ord92 (fun _ => [0]) 1) (fun _ _ h => h) Tryz.func92 rfl (by kernel_rfl) rfl (by kernel_rfl) ?_
   intro hok
   conv => whnf
   refine call1 0 [] rfl rfl rfl rfl (fun _ => hp) ?_
   rintro o r ⟨ho, rfl⟩
   cases ho
   conv => whnf
   by_cases hz0 : z ≤ 0
   all_goals
    first
    | (rw [if_pos hz0] at hn; rw [decide_eq_true hz0]; (conv => whnf); refine ⟨by decide, ?_⟩; rw [show ((n0 : Int)).tmod 6 = 6 by rw [Int.tmod_eq_emod_of_nonneg (by omega)]; omega])
    | (rw [if_neg hz0] at hn; rw [decide_eq_false hz0]; (conv => whnf); rw [show (n0 : Int) = 6 by omega])
    conv => whnf
   ·exact absurd hz0 (by omega)
   refine ⟨i64r (by omega), ?_⟩
   conv => whnf
   refine call1 0 [] rfl rfl rfl rfl (fun _ => hs) ?_
   rintro o r ⟨ho, rfl⟩
   cases ho
   conv => whnf
   exact ⟨rfl, _, rfl, by rw [ntA_one]; exact wkL_refl _⟩
  ·refine ⟨.mk 17 0 pMinus [f], i2, .neg _ _ hf, by omega, by unfold bI; omega, ?_⟩
   refine gw ?_
   refine spec_of (cx_ok ord92 (fun _ => [0]) 1) (fun _ _ h => h) Tryz.func92 rfl (by kernel_rfl) rfl (by kernel_rfl) ?_
   intro hok
   conv => whnf
   refine call1 0 [] rfl rfl rfl rfl (fun _ => hp) ?_
   rintro o r ⟨ho, rfl⟩
   cases ho
   conv => whnf
   by_cases hz0 : z ≤ 0
   all_goals
    first
    | (rw [if_pos hz0] at hn; rw [decide_eq_true hz0]; (conv => whnf); refine ⟨by decide, ?_⟩; rw [show ((n0 : Int)).tmod 6 = 7 by rw [Int.tmod_eq_emod_of_nonneg (by omega)]; omega])
    | (rw [if_neg hz0] at hn; rw [decide_eq_false hz0]; (conv => whnf); rw [show (n0 : Int) = 7 by omega])
    conv => whnf
   ·exact absurd hz0 (by omega)
   refine ⟨i64r (by omega), ?_⟩
   conv => whnf
   refine call1 0 [] rfl rfl rfl rfl (fun _ => hs) ?_
   rintro o r ⟨ho, rfl⟩
   cases ho
   conv => whnf
   exact ⟨rfl, _, rfl, by rw [ntA_one]; exact wkL_refl _⟩
 have hp2 := gpick l (i + 1) 4 (by omega) (by decide)
 have hlt2 := pk_lt l (i + 1) (m := 4) (by decide)
 generalize pk l (i + 1) 4 = k8 at *
 obtain ⟨f, i2, hf, g1, g2, hs⟩ := ihe (i + 1 + 1) (z - 1) (by omega) (by omega) (by omega) (by omega)
 obtain ⟨g, i3, hg, g3, g4, hs2⟩ := ihe i2 (z - 1) (by omega) (by omega) (by omega) (by omega)
 refine ⟨.mk 18 0 (opL[k8]'hlt2) [f, g], i3, .bin _ _ _ _ (List.getElem_mem _) hf hg, by omega, by unfold bI; omega, ?_⟩
 have hr := drop_cell strA opL k8 hlt2
 generalize opL[k8]'hlt2 = s at *
 rcases (by omega : n = 8 ∨ n = 9 ∨ n = 10 ∨ n = 11) with rfl | rfl | rfl | rfl
 ·refine gw ?_
  refine spec_of (cx_ok ord92 (fun _ => [0]) 1) (fun _ _ h => h) Tryz.func92 rfl (by kernel_rfl) rfl (by kernel_rfl) ?_
  intro hok
  conv => whnf
  refine call1 0 [] rfl rfl rfl rfl (fun _ => hp) ?_
  rintro o r ⟨ho, rfl⟩
  cases ho
  conv => whnf
  by_cases hz0 : z ≤ 0
  all_goals
   first
   | (rw [if_pos hz0] at hn; rw [decide_eq_true hz0]; (conv => whnf); refine ⟨by decide, ?_⟩; rw [show ((n0 : Int)).tmod 6 = 8 by rw [Int.tmod_eq_emod_of_nonneg (by omega)]; omega])
   | (rw [if_neg hz0] at hn; rw [decide_eq_false hz0]; (conv => whnf); rw [show (n0 : Int) = 8 by omega])
   conv => whnf
  ·exact absurd hz0 (by omega)
  refine call1 0 [] rfl rfl rfl rfl (fun _ => hp2) ?_
  rintro o r ⟨ho, rfl⟩
  cases ho
  conv => whnf
  refine ⟨⟨by omega, by omega⟩, ?_⟩
  conv => whnf
  generalize hrq : List.drop (Int.toNat (k8 : Int) * _) _ = rq
  obtain rfl : rq = _ :: _ := hrq.symm.trans hr
  clear hrq
  conv => whnf
  refine ⟨i64r (by omega), ?_⟩
  conv => whnf
  refine call1 0 [] rfl rfl rfl rfl (fun _ => hs) ?_
  rintro o r ⟨ho, rfl⟩
  cases ho
  conv => whnf
  refine ⟨i64r (by omega), ?_⟩
  conv => whnf
  refine call1 0 [] rfl rfl rfl rfl (fun _ => hs2) ?_
  rintro o r ⟨ho, rfl⟩
  cases ho
  conv => whnf
  exact ⟨rfl, _, rfl, by rw [ntA_two]; exact wkL_refl _⟩
 ·refine gw ?_
  refine spec_of (cx_ok ord92 (fun _ => [0]) 1) (fun _ _ h => h) Tryz.func92 rfl (by kernel_rfl) rfl (by kernel_rfl) ?_
  intro hok
  conv => whnf
  refine call1 0 [] rfl rfl rfl rfl (fun _ => hp) ?_
  rintro o r ⟨ho, rfl⟩
  cases ho
  conv => whnf
  by_cases hz0 : z ≤ 0
  all_goals
   first
   | (rw [if_pos hz0] at hn; rw [decide_eq_true hz0]; (conv => whnf); refine ⟨by decide, ?_⟩; rw [show ((n0 : Int)).tmod 6 = 9 by rw [Int.tmod_eq_emod_of_nonneg (by omega)]; omega])
   | (rw [if_neg hz0] at hn; rw [decide_eq_false hz0]; (conv => whnf); rw [show (n0 : Int) = 9 by omega])
   conv => whnf
  ·exact absurd hz0 (by omega)
  refine call1 0 [] rfl rfl rfl rfl (fun _ => hp2) ?_
  rintro o r ⟨ho, rfl⟩
  cases ho
  conv => whnf
  refine ⟨⟨by omega, by omega⟩, ?_⟩
  conv => whnf
  generalize hrq : List.drop (Int.toNat (k8 : Int) * _) _ = rq
  obtain rfl : rq = _ :: _ := hrq.symm.trans hr
  clear hrq
  conv => whnf
  refine ⟨i64r (by omega), ?_⟩
  conv => whnf
  refine call1 0 [] rfl rfl rfl rfl (fun _ => hs) ?_
  rintro o r ⟨ho, rfl⟩
  cases ho
  conv => whnf
  refine ⟨i64r (by omega), ?_⟩
  conv => whnf
  refine call1 0 [] rfl rfl rfl rfl (fun _ => hs2) ?_
  rintro o r ⟨ho, rfl⟩
  cases ho
  conv => whnf
  exact ⟨rfl, _, rfl, by rw [ntA_two]; exact wkL_refl _⟩
 ·refine gw ?_
  refine spec_of (cx_ok ord92 (fun _ => [0]) 1) (fun _ _ h => h) Tryz.func92 rfl (by kernel_rfl) rfl (by kernel_rfl) ?_
  intro hok
  conv => whnf
  refine call1 0 [] rfl rfl rfl rfl (fun _ => hp) ?_
  rintro o r ⟨ho, rfl⟩
  cases ho
  conv => whnf
  by_cases hz0 : z ≤ 0
  all_goals
   first
   | (rw [if_pos hz0] at hn; rw [decide_eq_true hz0]; (conv => whnf); refine ⟨by decide, ?_⟩; rw [show ((n0 : Int)).tmod 6 = 10 by rw [Int.tmod_eq_emod_of_nonneg (by omega)]; omega])
   | (rw [if_neg hz0] at hn; rw [decide_eq_false hz0]; (conv => whnf); rw [show (n0 : Int) = 10 by omega])
   conv => whnf
  ·exact absurd hz0 (by omega)
  refine call1 0 [] rfl rfl rfl rfl (fun _ => hp2) ?_
  rintro o r ⟨ho, rfl⟩
  cases ho
  conv => whnf
  refine ⟨⟨by omega, by omega⟩, ?_⟩
  conv => whnf
  generalize hrq : List.drop (Int.toNat (k8 : Int) * _) _ = rq
  obtain rfl : rq = _ :: _ := hrq.symm.trans hr
  clear hrq
  conv => whnf
  refine ⟨i64r (by omega), ?_⟩
  conv => whnf
  refine call1 0 [] rfl rfl rfl rfl (fun _ => hs) ?_
  rintro o r ⟨ho, rfl⟩
  cases ho
  conv => whnf
  refine ⟨i64r (by omega), ?_⟩
  conv => whnf
  refine call1 0 [] rfl rfl rfl rfl (fun _ => hs2) ?_
  rintro o r ⟨ho, rfl⟩
  cases ho
  conv => whnf
  exact ⟨rfl, _, rfl, by rw [ntA_two]; exact wkL_refl _⟩
 ·refine gw ?_
  refine spec_of (cx_ok ord92 (fun _ => [0]) 1) (fun _ _ h => h) Tryz.func92 rfl (by kernel_rfl) rfl (by kernel_rfl) ?_
  intro hok
  conv => whnf
  refine call1 0 [] rfl rfl rfl rfl (fun _ => hp) ?_
  rintro o r ⟨ho, rfl⟩
  cases ho
  conv => whnf
  by_cases hz0 : z ≤ 0
  all_goals
   first
   | (rw [if_pos hz0] at hn; rw [decide_eq_true hz0]; (conv => whnf); refine ⟨by decide, ?_⟩; rw [show ((n0 : Int)).tmod 6 = 11 by rw [Int.tmod_eq_emod_of_nonneg (by omega)]; omega])
   | (rw [if_neg hz0] at hn; rw [decide_eq_false hz0]; (conv => whnf); rw [show (n0 : Int) = 11 by omega])
   conv => whnf
  ·exact absurd hz0 (by omega)
  refine call1 0 [] rfl rfl rfl rfl (fun _ => hp2) ?_
  rintro o r ⟨ho, rfl⟩
  cases ho
  conv => whnf
  refine ⟨⟨by omega, by omega⟩, ?_⟩
  conv => whnf
  generalize hrq : List.drop (Int.toNat (k8 : Int) * _) _ = rq
  obtain rfl : rq = _ :: _ := hrq.symm.trans hr
  clear hrq
  conv => whnf
  refine ⟨i64r (by omega), ?_⟩
  conv => whnf
  refine call1 0 [] rfl rfl rfl rfl (fun _ => hs) ?_
  rintro o r ⟨ho, rfl⟩
  cases ho
  conv => whnf
  refine ⟨i64r (by omega), ?_⟩
  conv => whnf
  refine call1 0 [] rfl rfl rfl rfl (fun _ => hs2) ?_
  rintro o r ⟨ho, rfl⟩
  cases ho
  conv => whnf
  exact ⟨rfl, _, rfl, by rw [ntA_two]; exact wkL_refl _⟩
theorem gints (l : List Int) : ∀ d, GenI l d
 | 0 => gint l 0 fun e h => by omega
 | d + 1 => gint l (d + 1) fun e h => by
  obtain rfl : d = e := by omega
  exact gints l d
end Go.Proofs.YtmodkpibkkpcdaaGreatDoor.Vm
namespace Go.Proofs.YtmodkpibkkpcdaaGreatDoor.Vm
open Go.RowKit Go.Shelf
set_option linter.unusedSimpArgs false
set_option linter.unusedVariables false
set_option maxRecDepth 100000
def bolL : List ByteArray := [pAnd, pOr]
inductive EB : Nat → Nt → Prop
 | lit (d n : Nat) (h : n < 2) : EB d (.mk 13 n eB [])
 | nt (d : Nat) (f : Nt) (h : EB d f) : EB (d + 1) (.mk 17 0 pNot [f])
 | bin (d : Nat) (s : ByteArray) (f g : Nt) (hs : s ∈ bolL) (h1 : EB d f) (h2 : EB d g) : EB (d + 1) (.mk 18 0 s [f, g])
 | cmp (d : Nat) (s : ByteArray) (f g : Nt) (hs : s ∈ cmpL) (h1 : EI (d - 1) f) (h2 : EI (d - 1) g) : EB d (.mk 18 0 s [f, g])
def bB : Nat → Nat
 | 0 => 6
 | d + 1 => 2 + 2 * bB d + 2 * bI d
theorem bB_ge : ∀ d, 2 + 2 * bI (d - 1) ≤ bB d
 | 0 => by decide
 | d + 1 => by unfold bB; rw [Nat.add_sub_cancel]; omega
def GenB (l : List Int) (d : Nat) : Prop := ∀ (i : Nat) (z : Int), z.toNat = d → -3 ≤ z → z ≤ 10 → i + bB d ≤ 1000000000 → ∃ f i', EB d f ∧ i ≤ i' ∧ i' ≤ i + bB d ∧ Spec Tryz.prog 93 [bxG l i] [.box 0 0, .v (.int .i64 z)] fun o r => o = [bxG l i'] ∧ r = .agg (ntA f)
set_option maxHeartbeats 1000000 in
theorem gbool (l : List Int) (d : Nat) (ih : ∀ e, d = e + 1 → GenB l e) : GenB l d := fun i z hz h1 h2 hi => by
 have hge := bB_ge d
 have hge2 := bI_ge (d - 1)
 have hp := gpick l i 8 (by omega) (by decide)
 have hlt := pk_lt l i (m := 8) (by decide)
 generalize pk l i 8 = n0 at *
 obtain ⟨n, hn⟩ : ∃ n, (if z ≤ 0 then n0 % 4 else n0) = n := ⟨_, rfl⟩
 have hn12 : n < 8 := by split at hn <;> omega
 have hn6 : z ≤ 0 → n < 4 := fun h => by rw [if_pos h] at hn; omega
 by_cases hA : n = 0
 ·have hp2 := gpick l (i + 1) 2 (by omega) (by decide)
  have hlt2 := pk_lt l (i + 1) (m := 2) (by decide)
  generalize pk l (i + 1) 2 = k8 at *
  refine ⟨.mk 13 k8 eB [], i + 2, .lit _ _ hlt2, by omega, by omega, ?_⟩
  subst hA
  refine gw ?_
  refine spec_of (cx_ok ord93 (fun _ => [0]) 1) (fun _ _ h => h) Tryz.func93 rfl (by kernel_rfl) rfl (by kernel_rfl) ?_
  intro hok
  conv => whnf
  refine call1 0 [] rfl rfl rfl rfl (fun _ => hp) ?_
  rintro o r ⟨ho, rfl⟩
  cases ho
  conv => whnf
  by_cases hz0 : z ≤ 0
  all_goals
   first
   | (rw [if_pos hz0] at hn; rw [decide_eq_true hz0]; (conv => whnf); refine ⟨by decide, ?_⟩; rw [show ((n0 : Int)).tmod 4 = 0 by rw [Int.tmod_eq_emod_of_nonneg (by omega)]; omega])
   | (rw [if_neg hz0] at hn; rw [decide_eq_false hz0]; (conv => whnf); rw [show (n0 : Int) = 0 by omega])
   conv => whnf
  all_goals
   refine call1 0 [] rfl rfl rfl rfl (fun _ => hp2) ?_
   rintro o r ⟨ho, rfl⟩
   cases ho
   conv => whnf
   exact ⟨rfl, _, rfl, rawN_wk (f := .mk 13 k8 eB []) rfl⟩
 by_cases hB : n ≤ 4
 ·have hp2 := gpick l (i + 1) 6 (by omega) (by decide)
  have hlt2 := pk_lt l (i + 1) (m := 6) (by decide)
  generalize pk l (i + 1) 6 = k8 at *
  obtain ⟨f, i2, hf, g1, g2, hs⟩ := gints l (d - 1) (i + 1 + 1) (z - 1) (by omega) (by omega) (by omega) (by omega)
  obtain ⟨g, i3, hg, g3, g4, hs2⟩ := gints l (d - 1) i2 (z - 1) (by omega) (by omega) (by omega) (by omega)
  refine ⟨.mk 18 0 (cmpL[k8]'hlt2) [f, g], i3, .cmp _ _ _ _ (List.getElem_mem _) hf hg, by omega, by omega, ?_⟩
  have hr := drop_cell strA cmpL k8 hlt2
  generalize cmpL[k8]'hlt2 = s at *
  rcases (by omega : n = 1 ∨ n = 2 ∨ n = 3 ∨ n = 4) with rfl | rfl | rfl | rfl
  ·refine gw ?_
   refine spec_of (cx_ok ord93 (fun _ => [0]) 1) (fun _ _ h => h) Tryz.func93 rfl (by kernel_rfl) rfl (by kernel_rfl) ?_
   intro hok
   conv => whnf
   refine call1 0 [] rfl rfl rfl rfl (fun _ => hp) ?_
   rintro o r ⟨ho, rfl⟩
   cases ho
   conv => whnf
   by_cases hz0 : z ≤ 0
   all_goals
    first
    | (rw [if_pos hz0] at hn; rw [decide_eq_true hz0]; (conv => whnf); refine ⟨by decide, ?_⟩; rw [show ((n0 : Int)).tmod 4 = 1 by rw [Int.tmod_eq_emod_of_nonneg (by omega)]; omega])
    | (rw [if_neg hz0] at hn; rw [decide_eq_false hz0]; (conv => whnf); rw [show (n0 : Int) = 1 by omega])
    conv => whnf
   all_goals
    refine call1 0 [] rfl rfl rfl rfl (fun _ => hp2) ?_
    rintro o r ⟨ho, rfl⟩
    cases ho
    conv => whnf
    refine ⟨⟨by omega, by omega⟩, ?_⟩
    conv => whnf
    generalize hrq : List.drop (Int.toNat (k8 : Int) * _) _ = rq
    obtain rfl : rq = _ :: _ := hrq.symm.trans hr
    clear hrq
    conv => whnf
    refine ⟨i64r (by omega), ?_⟩
    conv => whnf
    refine call1 0 [] rfl rfl rfl rfl (fun _ => hs) ?_
    rintro o r ⟨ho, rfl⟩
    cases ho
    conv => whnf
    refine ⟨i64r (by omega), ?_⟩
    conv => whnf
    refine call1 0 [] rfl rfl rfl rfl (fun _ => hs2) ?_
    rintro o r ⟨ho, rfl⟩
    cases ho
    conv => whnf
    exact ⟨rfl, _, rfl, by rw [ntA_two]; exact wkL_refl _⟩
  ·refine gw ?_
   refine spec_of (cx_ok ord93 (fun _ => [0]) 1) (fun _ _ h => h) Tryz.func93 rfl (by kernel_rfl) rfl (by kernel_rfl) ?_
   intro hok
   conv => whnf
   refine call1 0 [] rfl rfl rfl rfl (fun _ => hp) ?_
   rintro o r ⟨ho, rfl⟩
   cases ho
   conv => whnf
   by_cases hz0 : z ≤ 0
   all_goals
    first
    | (rw [if_pos hz0] at hn; rw [decide_eq_true hz0]; (conv => whnf); refine ⟨by decide, ?_⟩; rw [show ((n0 : Int)).tmod 4 = 2 by rw [Int.tmod_eq_emod_of_nonneg (by omega)]; omega])
    | (rw [if_neg hz0] at hn; rw [decide_eq_false hz0]; (conv => whnf); rw [show (n0 : Int) = 2 by omega])
    conv => whnf
   all_goals
    refine call1 0 [] rfl rfl rfl rfl (fun _ => hp2) ?_
    rintro o r ⟨ho, rfl⟩
    cases ho
    conv => whnf
    refine ⟨⟨by omega, by omega⟩, ?_⟩
    conv => whnf
    generalize hrq : List.drop (Int.toNat (k8 : Int) * _) _ = rq
    obtain rfl : rq = _ :: _ := hrq.symm.trans hr
    clear hrq
    conv => whnf
    refine ⟨i64r (by omega), ?_⟩
    conv => whnf
    refine call1 0 [] rfl rfl rfl rfl (fun _ => hs) ?_
    rintro o r ⟨ho, rfl⟩
    cases ho
    conv => whnf
    refine ⟨i64r (by omega), ?_⟩
    conv => whnf
    refine call1 0 [] rfl rfl rfl rfl (fun _ => hs2) ?_
    rintro o r ⟨ho, rfl⟩
    cases ho
    conv => whnf
    exact ⟨rfl, _, rfl, by rw [ntA_two]; exact wkL_refl _⟩
  ·refine gw ?_
   refine spec_of (cx_ok ord93 (fun _ => [0]) 1) (fun _ _ h => h) Tryz.func93 rfl (by kernel_rfl) rfl (by kernel_rfl) ?_
   intro hok
   conv => whnf
   refine call1 0 [] rfl rfl rfl rfl (fun _ => hp) ?_
   rintro o r ⟨ho, rfl⟩
   cases ho
   conv => whnf
   by_cases hz0 : z ≤ 0
   all_goals
    first
    | (rw [if_pos hz0] at hn; rw [decide_eq_true hz0]; (conv => whnf); refine ⟨by decide, ?_⟩; rw [show ((n0 : Int)).tmod 4 = 3 by rw [Int.tmod_eq_emod_of_nonneg (by omega)]; omega])
    | (rw [if_neg hz0] at hn; rw [decide_eq_false hz0]; (conv => whnf); rw [show (n0 : Int) = 3 by omega])
    conv => whnf
   all_goals
    refine call1 0 [] rfl rfl rfl rfl (fun _ => hp2) ?_
    rintro o r ⟨ho, rfl⟩
    cases ho
    conv => whnf
    refine ⟨⟨by omega, by omega⟩, ?_⟩
    conv => whnf
    generalize hrq : List.drop (Int.toNat (k8 : Int) * _) _ = rq
    obtain rfl : rq = _ :: _ := hrq.symm.trans hr
    clear hrq
    conv => whnf
    refine ⟨i64r (by omega), ?_⟩
    conv => whnf
    refine call1 0 [] rfl rfl rfl rfl (fun _ => hs) ?_
    rintro o r ⟨ho, rfl⟩
    cases ho
    conv => whnf
    refine ⟨i64r (by omega), ?_⟩
    conv => whnf
    refine call1 0 [] rfl rfl rfl rfl (fun _ => hs2) ?_
    rintro o r ⟨ho, rfl⟩
    cases ho
    conv => whnf
    exact ⟨rfl, _, rfl, by rw [ntA_two]; exact wkL_refl _⟩
  ·refine gw ?_
   refine spec_of (cx_ok ord93 (fun _ => [0]) 1) (fun _ _ h => h) Tryz.func93 rfl (by kernel_rfl) rfl (by kernel_rfl) ?_
   intro hok
   conv => whnf
   refine call1 0 [] rfl rfl rfl rfl (fun _ => hp) ?_
   rintro o r ⟨ho, rfl⟩
   cases ho
   conv => whnf
   by_cases hz0 : z ≤ 0
   all_goals
    first
    | (rw [if_pos hz0] at hn; rw [decide_eq_true hz0]; (conv => whnf); refine ⟨by decide, ?_⟩; rw [show ((n0 : Int)).tmod 4 = 4 by rw [Int.tmod_eq_emod_of_nonneg (by omega)]; omega])
    | (rw [if_neg hz0] at hn; rw [decide_eq_false hz0]; (conv => whnf); rw [show (n0 : Int) = 4 by omega])
    conv => whnf
   ·exact absurd hz0 (by omega)
   refine call1 0 [] rfl rfl rfl rfl (fun _ => hp2) ?_
   rintro o r ⟨ho, rfl⟩
   cases ho
   conv => whnf
   refine ⟨⟨by omega, by omega⟩, ?_⟩
   conv => whnf
   generalize hrq : List.drop (Int.toNat (k8 : Int) * _) _ = rq
   obtain rfl : rq = _ :: _ := hrq.symm.trans hr
   clear hrq
   conv => whnf
   refine ⟨i64r (by omega), ?_⟩
   conv => whnf
   refine call1 0 [] rfl rfl rfl rfl (fun _ => hs) ?_
   rintro o r ⟨ho, rfl⟩
   cases ho
   conv => whnf
   refine ⟨i64r (by omega), ?_⟩
   conv => whnf
   refine call1 0 [] rfl rfl rfl rfl (fun _ => hs2) ?_
   rintro o r ⟨ho, rfl⟩
   cases ho
   conv => whnf
   exact ⟨rfl, _, rfl, by rw [ntA_two]; exact wkL_refl _⟩
 have hzp : 0 < z := by
  by_cases h : 0 < z
  ·exact h
  ·have := hn6 (by omega); omega
 obtain ⟨e, rfl⟩ : ∃ e, d = e + 1 := ⟨d - 1, by omega⟩
 have ihe := ih e rfl
 unfold bB at hi
 by_cases hD : n = 5
 ·obtain ⟨f, i2, hf, g1, g2, hs⟩ := ihe (i + 1) (z - 1) (by omega) (by omega) (by omega) (by omega)
  subst hD
  refine ⟨.mk 17 0 pNot [f], i2, .nt _ _ hf, by omega, by unfold bB; omega, ?_⟩
  refine gw ?_
  refine spec_of (cx_ok ord93 (fun _ => [0]) 1) (fun _ _ h => h) Tryz.func93 rfl (by kernel_rfl) rfl (by kernel_rfl) ?_
  intro hok
  conv => whnf
  refine call1 0 [] rfl rfl rfl rfl (fun _ => hp) ?_
  rintro o r ⟨ho, rfl⟩
  cases ho
  conv => whnf
  by_cases hz0 : z ≤ 0
  all_goals
   first
   | (rw [if_pos hz0] at hn; rw [decide_eq_true hz0]; (conv => whnf); refine ⟨by decide, ?_⟩; rw [show ((n0 : Int)).tmod 4 = 5 by rw [Int.tmod_eq_emod_of_nonneg (by omega)]; omega])
   | (rw [if_neg hz0] at hn; rw [decide_eq_false hz0]; (conv => whnf); rw [show (n0 : Int) = 5 by omega])
   conv => whnf
  ·exact absurd hz0 (by omega)
  refine ⟨i64r (by omega), ?_⟩
  conv => whnf
  refine call1 0 [] rfl rfl rfl rfl (fun _ => hs) ?_
  rintro o r ⟨ho, rfl⟩
  cases ho
  conv => whnf
  exact ⟨rfl, _, rfl, by rw [ntA_one]; exact wkL_refl _⟩
 have hp2 := gpick l (i + 1) 2 (by omega) (by decide)
 have hlt2 := pk_lt l (i + 1) (m := 2) (by decide)
 generalize pk l (i + 1) 2 = k8 at *
 obtain ⟨f, i2, hf, g1, g2, hs⟩ := ihe (i + 1 + 1) (z - 1) (by omega) (by omega) (by omega) (by omega)
 obtain ⟨g, i3, hg, g3, g4, hs2⟩ := ihe i2 (z - 1) (by omega) (by omega) (by omega) (by omega)
 refine ⟨.mk 18 0 (bolL[k8]'hlt2) [f, g], i3, .bin _ _ _ _ (List.getElem_mem _) hf hg, by omega, by unfold bB; omega, ?_⟩
 have hr := drop_cell strA bolL k8 hlt2
 generalize bolL[k8]'hlt2 = s at *
 rcases (by omega : n = 6 ∨ n = 7) with rfl | rfl
 ·refine gw ?_
  refine spec_of (cx_ok ord93 (fun _ => [0]) 1) (fun _ _ h => h) Tryz.func93 rfl (by kernel_rfl) rfl (by kernel_rfl) ?_
  intro hok
  conv => whnf
  refine call1 0 [] rfl rfl rfl rfl (fun _ => hp) ?_
  rintro o r ⟨ho, rfl⟩
  cases ho
  conv => whnf
  by_cases hz0 : z ≤ 0
  all_goals
   first
   | (rw [if_pos hz0] at hn; rw [decide_eq_true hz0]; (conv => whnf); refine ⟨by decide, ?_⟩; rw [show ((n0 : Int)).tmod 4 = 6 by rw [Int.tmod_eq_emod_of_nonneg (by omega)]; omega])
   | (rw [if_neg hz0] at hn; rw [decide_eq_false hz0]; (conv => whnf); rw [show (n0 : Int) = 6 by omega])
   conv => whnf
  ·exact absurd hz0 (by omega)
  refine call1 0 [] rfl rfl rfl rfl (fun _ => hp2) ?_
  rintro o r ⟨ho, rfl⟩
  cases ho
  conv => whnf
  refine ⟨⟨by omega, by omega⟩, ?_⟩
  conv => whnf
  generalize hrq : List.drop (Int.toNat (k8 : Int) * _) _ = rq
  obtain rfl : rq = _ :: _ := hrq.symm.trans hr
  clear hrq
  conv => whnf
  refine ⟨i64r (by omega), ?_⟩
  conv => whnf
  refine call1 0 [] rfl rfl rfl rfl (fun _ => hs) ?_
  rintro o r ⟨ho, rfl⟩
  cases ho
  conv => whnf
  refine ⟨i64r (by omega), ?_⟩
  conv => whnf
  refine call1 0 [] rfl rfl rfl rfl (fun _ => hs2) ?_
  rintro o r ⟨ho, rfl⟩
  cases ho
  conv => whnf
  exact ⟨rfl, _, rfl, by rw [ntA_two]; exact wkL_refl _⟩
 ·refine gw ?_
  refine spec_of (cx_ok ord93 (fun _ => [0]) 1) (fun _ _ h => h) Tryz.func93 rfl (by kernel_rfl) rfl (by kernel_rfl) ?_
  intro hok
  conv => whnf
  refine call1 0 [] rfl rfl rfl rfl (fun _ => hp) ?_
  rintro o r ⟨ho, rfl⟩
  cases ho
  conv => whnf
  by_cases hz0 : z ≤ 0
  all_goals
   first
   | (rw [if_pos hz0] at hn; rw [decide_eq_true hz0]; (conv => whnf); refine ⟨by decide, ?_⟩; rw [show ((n0 : Int)).tmod 4 = 7 by rw [Int.tmod_eq_emod_of_nonneg (by omega)]; omega])
   | (rw [if_neg hz0] at hn; rw [decide_eq_false hz0]; (conv => whnf); rw [show (n0 : Int) = 7 by omega])
   conv => whnf
  ·exact absurd hz0 (by omega)
  refine call1 0 [] rfl rfl rfl rfl (fun _ => hp2) ?_
  rintro o r ⟨ho, rfl⟩
  cases ho
  conv => whnf
  refine ⟨⟨by omega, by omega⟩, ?_⟩
  conv => whnf
  generalize hrq : List.drop (Int.toNat (k8 : Int) * _) _ = rq
  obtain rfl : rq = _ :: _ := hrq.symm.trans hr
  clear hrq
  conv => whnf
  refine ⟨i64r (by omega), ?_⟩
  conv => whnf
  refine call1 0 [] rfl rfl rfl rfl (fun _ => hs) ?_
  rintro o r ⟨ho, rfl⟩
  cases ho
  conv => whnf
  refine ⟨i64r (by omega), ?_⟩
  conv => whnf
  refine call1 0 [] rfl rfl rfl rfl (fun _ => hs2) ?_
  rintro o r ⟨ho, rfl⟩
  cases ho
  conv => whnf
  exact ⟨rfl, _, rfl, by rw [ntA_two]; exact wkL_refl _⟩
theorem gbools (l : List Int) : ∀ d, GenB l d
 | 0 => gbool l 0 fun e h => by omega
 | d + 1 => gbool l (d + 1) fun e h => by
  obtain rfl : d = e := by omega
  exact gbools l d
end Go.Proofs.YtmodkpibkkpcdaaGreatDoor.Vm
namespace Go.Proofs.YtmodkpibkkpcdaaGreatDoor.Vm
open Go.RowKit Go.Shelf
set_option linter.unusedSimpArgs false
set_option linter.unusedVariables false
set_option maxRecDepth 100000
inductive ES : Nat → Nt → Prop
 | asg (d e : Nat) (s : ByteArray) (f : Nt) (hs : s ∈ varL) (h : EI e f) (he : e ≤ 2) : ES d (.mk 1 0 s [f])
 | snd (d n : Nat) (f g h : Nt) (hn : n < 4) (h1 : EI 0 f) (h2 : EI 1 g) (h3 : EI 1 h) : ES d (.mk 4 n eB [f, g, h])
 | tim (d n : Nat) (hn : n < 3) : ES d (.mk 5 n eB [])
 | can (d n : Nat) (hn : n < 3) : ES d (.mk 6 n eB [])
 | syn (d : Nat) : ES d (.mk 7 0 eB [])
 | rep (d : Nat) (f g : Nt) (h1 : EI 0 f) (h2 : EI 1 g) : ES d (.mk 8 0 eB [f, g])
 | fai (d : Nat) (f : Nt) (h1 : EI 1 f) : ES d (.mk 9 0 eB [f])
 | stp (d : Nat) : ES d (.mk 10 0 eB [])
 | whi (d : Nat) (c : Nt) (l : List Nt) (h1 : EB 1 c) (h2 : l.length ≤ 2) (h3 : ∀ s ∈ l, ES d s) : ES (d + 1) (.mk 3 0 eB [c, blkN l])
 | iff (d : Nat) (c : Nt) (l m : List Nt) (h1 : EB 2 c) (h2 : l.length ≤ 2) (h3 : ∀ s ∈ l, ES d s) (h4 : m.length ≤ 2) (h5 : ∀ s ∈ m, ES d s) : ES (d + 1) (.mk 2 0 eB [c, blkN l, blkN m])
def bS : Nat → Nat
 | 0 => 60
 | d + 1 => 62 + 4 * bS d
theorem bS_ge : ∀ d, 60 ≤ bS d
 | 0 => Nat.le_refl _
 | d + 1 => by unfold bS; omega
def GenS (l : List Int) (d : Nat) : Prop := ∀ (i : Nat) (z : Int), z.toNat = d → 0 ≤ z → z ≤ 5 → i + bS d ≤ 1000000000 → ∃ f i', ES d f ∧ i ≤ i' ∧ i' ≤ i + bS d ∧ Spec Tryz.prog 57 [bxG l i] [.box 0 0, .v (.int .i64 z)] fun o r => o = [bxG l i'] ∧ r = .agg (ntA f)
def GenK (l : List Int) (d : Nat) : Prop := ∀ (i m : Nat) (z : Int), z.toNat = d → 0 ≤ z → z ≤ 5 → m ≤ 3 → i + (1 + m * bS d) ≤ 1000000000 → ∃ k i', k.length ≤ m ∧ (∀ s ∈ k, ES d s) ∧ i ≤ i' ∧ i' ≤ i + (1 + m * bS d) ∧ Spec Tryz.prog 37 [bxG l i] [.box 0 0, .v (.int .i64 z), .v (.int .i64 m)] fun o r => o = [bxG l i'] ∧ r = .agg (ntA (blkN k))
set_option maxHeartbeats 2000000 in
theorem gstm (l : List Int) (d : Nat) (ih : ∀ e, d = e + 1 → GenK l e) : GenS l d := fun i z hz h1 h2 hi => by
 have hge := bS_ge d
 have b0 : bI 0 = 2 := rfl
 have b1 : bI 1 = 6 := rfl
 have b2 : bI 2 = 14 := rfl
 have c1 : bB 1 = 18 := rfl
 have c2 : bB 2 = 50 := rfl
 have hp := gpick l i 14 (by omega) (by decide)
 have hlt := pk_lt l i (m := 14) (by decide)
 generalize pk l i 14 = n0 at *
 obtain ⟨n, hn⟩ : ∃ n, (if z ≤ 0 then n0 % 11 else n0) = n := ⟨_, rfl⟩
 have hn12 : n < 14 := by split at hn <;> omega
 have hn6 : z ≤ 0 → n < 11 := fun h => by rw [if_pos h] at hn; omega
 by_cases hA : n ≤ 2
 ·obtain ⟨s, hs1, hp2⟩ := gvar l (i + 1) (by omega)
  obtain ⟨f, i2, hf, g1, g2, hs⟩ := gints l 2 (i + 1 + 1) 2 (by omega) (by omega) (by omega) (by omega)
  refine ⟨.mk 1 0 s [f], i2, .asg _ _ _ _ hs1 hf (Nat.le_refl _), by omega, by omega, ?_⟩
  rcases (by omega : n = 0 ∨ n = 1 ∨ n = 2) with rfl | rfl | rfl
  ·refine gw ?_
   refine spec_of (cx_ok ord57 (fun _ => [0]) 1) (fun _ _ h => h) Tryz.func57 rfl (by kernel_rfl) rfl (by kernel_rfl) ?_
   intro hok
   conv => whnf
   refine call1 0 [] rfl rfl rfl rfl (fun _ => hp) ?_
   rintro o r ⟨ho, rfl⟩
   cases ho
   conv => whnf
   by_cases hz0 : z ≤ 0
   all_goals
    first
    | (rw [if_pos hz0] at hn; rw [decide_eq_true hz0]; (conv => whnf); refine ⟨by decide, ?_⟩; rw [show ((n0 : Int)).tmod 11 = 0 by rw [Int.tmod_eq_emod_of_nonneg (by omega)]; omega])
    | (rw [if_neg hz0] at hn; rw [decide_eq_false hz0]; (conv => whnf); rw [show (n0 : Int) = 0 by omega])
    conv => whnf
   all_goals
    refine call1 0 [] rfl rfl rfl rfl (fun _ => hp2) ?_
    rintro o r ⟨ho, rfl⟩
    cases ho
    conv => whnf
    refine call1 0 [] rfl rfl rfl rfl (fun _ => hs) ?_
    rintro o r ⟨ho, rfl⟩
    cases ho
    conv => whnf
    exact ⟨rfl, _, rfl, by rw [ntA_one]; exact wkL_refl _⟩
  ·refine gw ?_
   refine spec_of (cx_ok ord57 (fun _ => [0]) 1) (fun _ _ h => h) Tryz.func57 rfl (by kernel_rfl) rfl (by kernel_rfl) ?_
   intro hok
   conv => whnf
   refine call1 0 [] rfl rfl rfl rfl (fun _ => hp) ?_
   rintro o r ⟨ho, rfl⟩
   cases ho
   conv => whnf
   by_cases hz0 : z ≤ 0
   all_goals
    first
    | (rw [if_pos hz0] at hn; rw [decide_eq_true hz0]; (conv => whnf); refine ⟨by decide, ?_⟩; rw [show ((n0 : Int)).tmod 11 = 1 by rw [Int.tmod_eq_emod_of_nonneg (by omega)]; omega])
    | (rw [if_neg hz0] at hn; rw [decide_eq_false hz0]; (conv => whnf); rw [show (n0 : Int) = 1 by omega])
    conv => whnf
   all_goals
    refine call1 0 [] rfl rfl rfl rfl (fun _ => hp2) ?_
    rintro o r ⟨ho, rfl⟩
    cases ho
    conv => whnf
    refine call1 0 [] rfl rfl rfl rfl (fun _ => hs) ?_
    rintro o r ⟨ho, rfl⟩
    cases ho
    conv => whnf
    exact ⟨rfl, _, rfl, by rw [ntA_one]; exact wkL_refl _⟩
  ·refine gw ?_
   refine spec_of (cx_ok ord57 (fun _ => [0]) 1) (fun _ _ h => h) Tryz.func57 rfl (by kernel_rfl) rfl (by kernel_rfl) ?_
   intro hok
   conv => whnf
   refine call1 0 [] rfl rfl rfl rfl (fun _ => hp) ?_
   rintro o r ⟨ho, rfl⟩
   cases ho
   conv => whnf
   by_cases hz0 : z ≤ 0
   all_goals
    first
    | (rw [if_pos hz0] at hn; rw [decide_eq_true hz0]; (conv => whnf); refine ⟨by decide, ?_⟩; rw [show ((n0 : Int)).tmod 11 = 2 by rw [Int.tmod_eq_emod_of_nonneg (by omega)]; omega])
    | (rw [if_neg hz0] at hn; rw [decide_eq_false hz0]; (conv => whnf); rw [show (n0 : Int) = 2 by omega])
    conv => whnf
   all_goals
    refine call1 0 [] rfl rfl rfl rfl (fun _ => hp2) ?_
    rintro o r ⟨ho, rfl⟩
    cases ho
    conv => whnf
    refine call1 0 [] rfl rfl rfl rfl (fun _ => hs) ?_
    rintro o r ⟨ho, rfl⟩
    cases ho
    conv => whnf
    exact ⟨rfl, _, rfl, by rw [ntA_one]; exact wkL_refl _⟩
 by_cases hB : n ≤ 4
 ·obtain ⟨f, i2, hf, g1, g2, hs1⟩ := gints l 0 (i + 1) 0 (by omega) (by omega) (by omega) (by omega)
  have hp2 := gpick l i2 4 (by omega) (by decide)
  have hlt2 := pk_lt l i2 (m := 4) (by decide)
  generalize pk l i2 4 = k8 at *
  obtain ⟨g, i3, hg, g3, g4, hs2⟩ := gints l 1 (i2 + 1) 1 (by omega) (by omega) (by omega) (by omega)
  obtain ⟨h, i4, hh, g5, g6, hs3⟩ := gints l 1 i3 1 (by omega) (by omega) (by omega) (by omega)
  refine ⟨.mk 4 k8 eB [f, g, h], i4, .snd _ _ _ _ _ hlt2 hf hg hh, by omega, by omega, ?_⟩
  rcases (by omega : n = 3 ∨ n = 4) with rfl | rfl
  ·refine gw ?_
   refine spec_of (cx_ok ord57 (fun _ => [0]) 1) (fun _ _ h => h) Tryz.func57 rfl (by kernel_rfl) rfl (by kernel_rfl) ?_
   intro hok
   conv => whnf
   refine call1 0 [] rfl rfl rfl rfl (fun _ => hp) ?_
   rintro o r ⟨ho, rfl⟩
   cases ho
   conv => whnf
   by_cases hz0 : z ≤ 0
   all_goals
    first
    | (rw [if_pos hz0] at hn; rw [decide_eq_true hz0]; (conv => whnf); refine ⟨by decide, ?_⟩; rw [show ((n0 : Int)).tmod 11 = 3 by rw [Int.tmod_eq_emod_of_nonneg (by omega)]; omega])
    | (rw [if_neg hz0] at hn; rw [decide_eq_false hz0]; (conv => whnf); rw [show (n0 : Int) = 3 by omega])
    conv => whnf
   all_goals
    refine call1 0 [] rfl rfl rfl rfl (fun _ => hs1) ?_
    rintro o r ⟨ho, rfl⟩
    cases ho
    conv => whnf
    refine call1 0 [] rfl rfl rfl rfl (fun _ => hp2) ?_
    rintro o r ⟨ho, rfl⟩
    cases ho
    conv => whnf
    refine call1 0 [] rfl rfl rfl rfl (fun _ => hs2) ?_
    rintro o r ⟨ho, rfl⟩
    cases ho
    conv => whnf
    refine call1 0 [] rfl rfl rfl rfl (fun _ => hs3) ?_
    rintro o r ⟨ho, rfl⟩
    cases ho
    conv => whnf
    exact ⟨rfl, _, rfl, by rw [ntA_three]; exact wkL_refl _⟩
  ·refine gw ?_
   refine spec_of (cx_ok ord57 (fun _ => [0]) 1) (fun _ _ h => h) Tryz.func57 rfl (by kernel_rfl) rfl (by kernel_rfl) ?_
   intro hok
   conv => whnf
   refine call1 0 [] rfl rfl rfl rfl (fun _ => hp) ?_
   rintro o r ⟨ho, rfl⟩
   cases ho
   conv => whnf
   by_cases hz0 : z ≤ 0
   all_goals
    first
    | (rw [if_pos hz0] at hn; rw [decide_eq_true hz0]; (conv => whnf); refine ⟨by decide, ?_⟩; rw [show ((n0 : Int)).tmod 11 = 4 by rw [Int.tmod_eq_emod_of_nonneg (by omega)]; omega])
    | (rw [if_neg hz0] at hn; rw [decide_eq_false hz0]; (conv => whnf); rw [show (n0 : Int) = 4 by omega])
    conv => whnf
   all_goals
    refine call1 0 [] rfl rfl rfl rfl (fun _ => hs1) ?_
    rintro o r ⟨ho, rfl⟩
    cases ho
    conv => whnf
    refine call1 0 [] rfl rfl rfl rfl (fun _ => hp2) ?_
    rintro o r ⟨ho, rfl⟩
    cases ho
    conv => whnf
    refine call1 0 [] rfl rfl rfl rfl (fun _ => hs2) ?_
    rintro o r ⟨ho, rfl⟩
    cases ho
    conv => whnf
    refine call1 0 [] rfl rfl rfl rfl (fun _ => hs3) ?_
    rintro o r ⟨ho, rfl⟩
    cases ho
    conv => whnf
    exact ⟨rfl, _, rfl, by rw [ntA_three]; exact wkL_refl _⟩
 by_cases hC : n ≤ 6
 ·have hp2 := gpick l (i + 1) 3 (by omega) (by decide)
  have hlt2 := pk_lt l (i + 1) (m := 3) (by decide)
  generalize pk l (i + 1) 3 = k8 at *
  rcases (by omega : n = 5 ∨ n = 6) with rfl | rfl
  ·refine ⟨.mk 5 k8 eB [], i + 2, .tim _ _ hlt2, by omega, by omega, ?_⟩
   refine gw ?_
   refine spec_of (cx_ok ord57 (fun _ => [0]) 1) (fun _ _ h => h) Tryz.func57 rfl (by kernel_rfl) rfl (by kernel_rfl) ?_
   intro hok
   conv => whnf
   refine call1 0 [] rfl rfl rfl rfl (fun _ => hp) ?_
   rintro o r ⟨ho, rfl⟩
   cases ho
   conv => whnf
   by_cases hz0 : z ≤ 0
   all_goals
    first
    | (rw [if_pos hz0] at hn; rw [decide_eq_true hz0]; (conv => whnf); refine ⟨by decide, ?_⟩; rw [show ((n0 : Int)).tmod 11 = 5 by rw [Int.tmod_eq_emod_of_nonneg (by omega)]; omega])
    | (rw [if_neg hz0] at hn; rw [decide_eq_false hz0]; (conv => whnf); rw [show (n0 : Int) = 5 by omega])
    conv => whnf
   all_goals
    refine call1 0 [] rfl rfl rfl rfl (fun _ => hp2) ?_
    rintro o r ⟨ho, rfl⟩
    cases ho
    conv => whnf
    exact ⟨rfl, _, rfl, rawN_wk (f := .mk 5 k8 eB []) rfl⟩
  ·refine ⟨.mk 6 k8 eB [], i + 2, .can _ _ hlt2, by omega, by omega, ?_⟩
   refine gw ?_
   refine spec_of (cx_ok ord57 (fun _ => [0]) 1) (fun _ _ h => h) Tryz.func57 rfl (by kernel_rfl) rfl (by kernel_rfl) ?_
   intro hok
   conv => whnf
   refine call1 0 [] rfl rfl rfl rfl (fun _ => hp) ?_
   rintro o r ⟨ho, rfl⟩
   cases ho
   conv => whnf
   by_cases hz0 : z ≤ 0
   all_goals
    first
    | (rw [if_pos hz0] at hn; rw [decide_eq_true hz0]; (conv => whnf); refine ⟨by decide, ?_⟩; rw [show ((n0 : Int)).tmod 11 = 6 by rw [Int.tmod_eq_emod_of_nonneg (by omega)]; omega])
    | (rw [if_neg hz0] at hn; rw [decide_eq_false hz0]; (conv => whnf); rw [show (n0 : Int) = 6 by omega])
    conv => whnf
   all_goals
    refine call1 0 [] rfl rfl rfl rfl (fun _ => hp2) ?_
    rintro o r ⟨ho, rfl⟩
    cases ho
    conv => whnf
    exact ⟨rfl, _, rfl, rawN_wk (f := .mk 6 k8 eB []) rfl⟩
 by_cases hD : n = 7
 ·subst hD
  refine ⟨.mk 7 0 eB [], i + 1, .syn _, by omega, by omega, ?_⟩
  refine gw ?_
  refine spec_of (cx_ok ord57 (fun _ => [0]) 1) (fun _ _ h => h) Tryz.func57 rfl (by kernel_rfl) rfl (by kernel_rfl) ?_
  intro hok
  conv => whnf
  refine call1 0 [] rfl rfl rfl rfl (fun _ => hp) ?_
  rintro o r ⟨ho, rfl⟩
  cases ho
  conv => whnf
  by_cases hz0 : z ≤ 0
  all_goals
   first
   | (rw [if_pos hz0] at hn; rw [decide_eq_true hz0]; (conv => whnf); refine ⟨by decide, ?_⟩; rw [show ((n0 : Int)).tmod 11 = 7 by rw [Int.tmod_eq_emod_of_nonneg (by omega)]; omega])
   | (rw [if_neg hz0] at hn; rw [decide_eq_false hz0]; (conv => whnf); rw [show (n0 : Int) = 7 by omega])
   conv => whnf
  all_goals
   exact ⟨rfl, _, rfl, rawN_wk (f := .mk 7 0 eB []) rfl⟩
 by_cases hE : n = 8
 ·subst hE
  obtain ⟨f, i2, hf, g1, g2, hs1⟩ := gints l 0 (i + 1) 0 (by omega) (by omega) (by omega) (by omega)
  obtain ⟨g, i3, hg, g3, g4, hs2⟩ := gints l 1 i2 1 (by omega) (by omega) (by omega) (by omega)
  refine ⟨.mk 8 0 eB [f, g], i3, .rep _ _ _ hf hg, by omega, by omega, ?_⟩
  refine gw ?_
  refine spec_of (cx_ok ord57 (fun _ => [0]) 1) (fun _ _ h => h) Tryz.func57 rfl (by kernel_rfl) rfl (by kernel_rfl) ?_
  intro hok
  conv => whnf
  refine call1 0 [] rfl rfl rfl rfl (fun _ => hp) ?_
  rintro o r ⟨ho, rfl⟩
  cases ho
  conv => whnf
  by_cases hz0 : z ≤ 0
  all_goals
   first
   | (rw [if_pos hz0] at hn; rw [decide_eq_true hz0]; (conv => whnf); refine ⟨by decide, ?_⟩; rw [show ((n0 : Int)).tmod 11 = 8 by rw [Int.tmod_eq_emod_of_nonneg (by omega)]; omega])
   | (rw [if_neg hz0] at hn; rw [decide_eq_false hz0]; (conv => whnf); rw [show (n0 : Int) = 8 by omega])
   conv => whnf
  all_goals
   refine call1 0 [] rfl rfl rfl rfl (fun _ => hs1) ?_
   rintro o r ⟨ho, rfl⟩
   cases ho
   conv => whnf
   refine call1 0 [] rfl rfl rfl rfl (fun _ => hs2) ?_
   rintro o r ⟨ho, rfl⟩
   cases ho
   conv => whnf
   exact ⟨rfl, _, rfl, by rw [ntA_two]; exact wkL_refl _⟩
 by_cases hF : n = 9
 ·subst hF
  obtain ⟨f, i2, hf, g1, g2, hs1⟩ := gints l 1 (i + 1) 1 (by omega) (by omega) (by omega) (by omega)
  refine ⟨.mk 9 0 eB [f], i2, .fai _ _ hf, by omega, by omega, ?_⟩
  refine gw ?_
  refine spec_of (cx_ok ord57 (fun _ => [0]) 1) (fun _ _ h => h) Tryz.func57 rfl (by kernel_rfl) rfl (by kernel_rfl) ?_
  intro hok
  conv => whnf
  refine call1 0 [] rfl rfl rfl rfl (fun _ => hp) ?_
  rintro o r ⟨ho, rfl⟩
  cases ho
  conv => whnf
  by_cases hz0 : z ≤ 0
  all_goals
   first
   | (rw [if_pos hz0] at hn; rw [decide_eq_true hz0]; (conv => whnf); refine ⟨by decide, ?_⟩; rw [show ((n0 : Int)).tmod 11 = 9 by rw [Int.tmod_eq_emod_of_nonneg (by omega)]; omega])
   | (rw [if_neg hz0] at hn; rw [decide_eq_false hz0]; (conv => whnf); rw [show (n0 : Int) = 9 by omega])
   conv => whnf
  all_goals
   refine call1 0 [] rfl rfl rfl rfl (fun _ => hs1) ?_
   rintro o r ⟨ho, rfl⟩
   cases ho
   conv => whnf
   exact ⟨rfl, _, rfl, by rw [ntA_one]; exact wkL_refl _⟩
 by_cases hG : n = 10
 ·subst hG
  have hp2 := gpick l (i + 1) 3 (by omega) (by decide)
  have hlt2 := pk_lt l (i + 1) (m := 3) (by decide)
  generalize pk l (i + 1) 3 = k8 at *
  by_cases hk : 0 < k8
  ·obtain ⟨s, hs1, hp3⟩ := gvar l (i + 1 + 1) (by omega)
   obtain ⟨f, i2, hf, g1, g2, hs⟩ := gints l 1 (i + 1 + 1 + 1) 1 (by omega) (by omega) (by omega) (by omega)
   refine ⟨.mk 1 0 s [f], i2, .asg _ _ _ _ hs1 hf (by decide), by omega, by omega, ?_⟩
   refine gw ?_
   refine spec_of (cx_ok ord57 (fun _ => [0]) 1) (fun _ _ h => h) Tryz.func57 rfl (by kernel_rfl) rfl (by kernel_rfl) ?_
   intro hok
   conv => whnf
   refine call1 0 [] rfl rfl rfl rfl (fun _ => hp) ?_
   rintro o r ⟨ho, rfl⟩
   cases ho
   conv => whnf
   by_cases hz0 : z ≤ 0
   all_goals
    first
    | (rw [if_pos hz0] at hn; rw [decide_eq_true hz0]; (conv => whnf); refine ⟨by decide, ?_⟩; rw [show ((n0 : Int)).tmod 11 = 10 by rw [Int.tmod_eq_emod_of_nonneg (by omega)]; omega])
    | (rw [if_neg hz0] at hn; rw [decide_eq_false hz0]; (conv => whnf); rw [show (n0 : Int) = 10 by omega])
    conv => whnf
   all_goals
    refine call1 0 [] rfl rfl rfl rfl (fun _ => hp2) ?_
    rintro o r ⟨ho, rfl⟩
    cases ho
    conv => whnf
    rw [decide_eq_true (show 0 < (k8 : Int) by omega)]
    conv => whnf
    refine call1 0 [] rfl rfl rfl rfl (fun _ => hp3) ?_
    rintro o r ⟨ho, rfl⟩
    cases ho
    conv => whnf
    refine call1 0 [] rfl rfl rfl rfl (fun _ => hs) ?_
    rintro o r ⟨ho, rfl⟩
    cases ho
    conv => whnf
    exact ⟨rfl, _, rfl, by rw [ntA_one]; exact wkL_refl _⟩
  ·refine ⟨.mk 10 0 eB [], i + 2, .stp _, by omega, by omega, ?_⟩
   refine gw ?_
   refine spec_of (cx_ok ord57 (fun _ => [0]) 1) (fun _ _ h => h) Tryz.func57 rfl (by kernel_rfl) rfl (by kernel_rfl) ?_
   intro hok
   conv => whnf
   refine call1 0 [] rfl rfl rfl rfl (fun _ => hp) ?_
   rintro o r ⟨ho, rfl⟩
   cases ho
   conv => whnf
   by_cases hz0 : z ≤ 0
   all_goals
    first
    | (rw [if_pos hz0] at hn; rw [decide_eq_true hz0]; (conv => whnf); refine ⟨by decide, ?_⟩; rw [show ((n0 : Int)).tmod 11 = 10 by rw [Int.tmod_eq_emod_of_nonneg (by omega)]; omega])
    | (rw [if_neg hz0] at hn; rw [decide_eq_false hz0]; (conv => whnf); rw [show (n0 : Int) = 10 by omega])
    conv => whnf
   all_goals
    refine call1 0 [] rfl rfl rfl rfl (fun _ => hp2) ?_
    rintro o r ⟨ho, rfl⟩
    cases ho
    conv => whnf
    rw [decide_eq_false (show ¬ 0 < (k8 : Int) by omega)]
    conv => whnf
    exact ⟨rfl, _, rfl, rawN_wk (f := .mk 10 0 eB []) rfl⟩
 have hzp : 0 < z := by
  by_cases h : 0 < z
  ·exact h
  ·have := hn6 (by omega); omega
 obtain ⟨e, rfl⟩ : ∃ e, d = e + 1 := ⟨d - 1, by omega⟩
 have ihe := ih e rfl
 unfold bS at hi
 by_cases hH : n = 11
 ·subst hH
  obtain ⟨f, i2, hf, g1, g2, hs1⟩ := gbools l 1 (i + 1) 1 (by omega) (by omega) (by omega) (by omega)
  obtain ⟨k, i3, q1, q2, g3, g4, hs2⟩ := ihe i2 2 (z - 1) (by omega) (by omega) (by omega) (by omega) (by omega)
  refine ⟨.mk 3 0 eB [f, blkN k], i3, .whi _ _ _ hf q1 q2, by omega, by unfold bS; omega, ?_⟩
  refine gw ?_
  refine spec_of (cx_ok ord57 (fun _ => [0]) 1) (fun _ _ h => h) Tryz.func57 rfl (by kernel_rfl) rfl (by kernel_rfl) ?_
  intro hok
  conv => whnf
  refine call1 0 [] rfl rfl rfl rfl (fun _ => hp) ?_
  rintro o r ⟨ho, rfl⟩
  cases ho
  conv => whnf
  by_cases hz0 : z ≤ 0
  all_goals
   first
   | (rw [if_pos hz0] at hn; rw [decide_eq_true hz0]; (conv => whnf); refine ⟨by decide, ?_⟩; rw [show ((n0 : Int)).tmod 11 = 11 by rw [Int.tmod_eq_emod_of_nonneg (by omega)]; omega])
   | (rw [if_neg hz0] at hn; rw [decide_eq_false hz0]; (conv => whnf); rw [show (n0 : Int) = 11 by omega])
   conv => whnf
  ·exact absurd hz0 (by omega)
  refine call1 0 [] rfl rfl rfl rfl (fun _ => hs1) ?_
  rintro o r ⟨ho, rfl⟩
  cases ho
  conv => whnf
  refine ⟨i64r (by omega), ?_⟩
  conv => whnf
  refine call1 0 [] rfl rfl rfl rfl (fun _ => hs2) ?_
  rintro o r ⟨ho, rfl⟩
  cases ho
  conv => whnf
  exact ⟨rfl, _, rfl, by rw [ntA_two]; exact wkL_refl _⟩
 obtain ⟨f, i2, hf, g1, g2, hs1⟩ := gbools l 2 (i + 1) 2 (by omega) (by omega) (by omega) (by omega)
 obtain ⟨k, i3, q1, q2, g3, g4, hs2⟩ := ihe i2 2 (z - 1) (by omega) (by omega) (by omega) (by omega) (by omega)
 have hp2 := gpick l i3 2 (by omega) (by decide)
 have hlt2 := pk_lt l i3 (m := 2) (by decide)
 generalize pk l i3 2 = k8 at *
 by_cases hk : k8 = 1
 ·obtain ⟨m, i4, q3, q4, g5, g6, hs3⟩ := ihe (i3 + 1) 2 (z - 1) (by omega) (by omega) (by omega) (by omega) (by omega)
  refine ⟨.mk 2 0 eB [f, blkN k, blkN m], i4, .iff _ _ _ _ hf q1 q2 q3 q4, by omega, by unfold bS; omega, ?_⟩
  rcases (by omega : n = 12 ∨ n = 13) with rfl | rfl
  ·refine gw ?_
   refine spec_of (cx_ok ord57 (fun _ => [0]) 1) (fun _ _ h => h) Tryz.func57 rfl (by kernel_rfl) rfl (by kernel_rfl) ?_
   intro hok
   conv => whnf
   refine call1 0 [] rfl rfl rfl rfl (fun _ => hp) ?_
   rintro o r ⟨ho, rfl⟩
   cases ho
   conv => whnf
   by_cases hz0 : z ≤ 0
   all_goals
    first
    | (rw [if_pos hz0] at hn; rw [decide_eq_true hz0]; (conv => whnf); refine ⟨by decide, ?_⟩; rw [show ((n0 : Int)).tmod 11 = 12 by rw [Int.tmod_eq_emod_of_nonneg (by omega)]; omega])
    | (rw [if_neg hz0] at hn; rw [decide_eq_false hz0]; (conv => whnf); rw [show (n0 : Int) = 12 by omega])
    conv => whnf
   ·exact absurd hz0 (by omega)
   refine call1 0 [] rfl rfl rfl rfl (fun _ => hs1) ?_
   rintro o r ⟨ho, rfl⟩
   cases ho
   conv => whnf
   refine ⟨i64r (by omega), ?_⟩
   conv => whnf
   refine call1 0 [] rfl rfl rfl rfl (fun _ => hs2) ?_
   rintro o r ⟨ho, rfl⟩
   cases ho
   conv => whnf
   refine call1 0 [] rfl rfl rfl rfl (fun _ => hp2) ?_
   rintro o r ⟨ho, rfl⟩
   cases ho
   conv => whnf
   rw [decide_eq_true (show (k8 : Int) = 1 by omega)]
   conv => whnf
   refine ⟨i64r (by omega), ?_⟩
   conv => whnf
   refine call1 0 [] rfl rfl rfl rfl (fun _ => hs3) ?_
   rintro o r ⟨ho, rfl⟩
   cases ho
   conv => whnf
   exact ⟨rfl, _, rfl, by rw [ntA_three]; exact wkL_refl _⟩
  ·refine gw ?_
   refine spec_of (cx_ok ord57 (fun _ => [0]) 1) (fun _ _ h => h) Tryz.func57 rfl (by kernel_rfl) rfl (by kernel_rfl) ?_
   intro hok
   conv => whnf
   refine call1 0 [] rfl rfl rfl rfl (fun _ => hp) ?_
   rintro o r ⟨ho, rfl⟩
   cases ho
   conv => whnf
   by_cases hz0 : z ≤ 0
   all_goals
    first
    | (rw [if_pos hz0] at hn; rw [decide_eq_true hz0]; (conv => whnf); refine ⟨by decide, ?_⟩; rw [show ((n0 : Int)).tmod 11 = 13 by rw [Int.tmod_eq_emod_of_nonneg (by omega)]; omega])
    | (rw [if_neg hz0] at hn; rw [decide_eq_false hz0]; (conv => whnf); rw [show (n0 : Int) = 13 by omega])
    conv => whnf
   ·exact absurd hz0 (by omega)
   refine call1 0 [] rfl rfl rfl rfl (fun _ => hs1) ?_
   rintro o r ⟨ho, rfl⟩
   cases ho
   conv => whnf
   refine ⟨i64r (by omega), ?_⟩
   conv => whnf
   refine call1 0 [] rfl rfl rfl rfl (fun _ => hs2) ?_
   rintro o r ⟨ho, rfl⟩
   cases ho
   conv => whnf
   refine call1 0 [] rfl rfl rfl rfl (fun _ => hp2) ?_
   rintro o r ⟨ho, rfl⟩
   cases ho
   conv => whnf
   rw [decide_eq_true (show (k8 : Int) = 1 by omega)]
   conv => whnf
   refine ⟨i64r (by omega), ?_⟩
   conv => whnf
   refine call1 0 [] rfl rfl rfl rfl (fun _ => hs3) ?_
   rintro o r ⟨ho, rfl⟩
   cases ho
   conv => whnf
   exact ⟨rfl, _, rfl, by rw [ntA_three]; exact wkL_refl _⟩
 ·refine ⟨.mk 2 0 eB [f, blkN k, blkN []], i3 + 1, .iff _ _ _ _ hf q1 q2 (by decide) (by simp), by omega, by unfold bS; omega, ?_⟩
  rcases (by omega : n = 12 ∨ n = 13) with rfl | rfl
  ·refine gw ?_
   refine spec_of (cx_ok ord57 (fun _ => [0]) 1) (fun _ _ h => h) Tryz.func57 rfl (by kernel_rfl) rfl (by kernel_rfl) ?_
   intro hok
   conv => whnf
   refine call1 0 [] rfl rfl rfl rfl (fun _ => hp) ?_
   rintro o r ⟨ho, rfl⟩
   cases ho
   conv => whnf
   by_cases hz0 : z ≤ 0
   all_goals
    first
    | (rw [if_pos hz0] at hn; rw [decide_eq_true hz0]; (conv => whnf); refine ⟨by decide, ?_⟩; rw [show ((n0 : Int)).tmod 11 = 12 by rw [Int.tmod_eq_emod_of_nonneg (by omega)]; omega])
    | (rw [if_neg hz0] at hn; rw [decide_eq_false hz0]; (conv => whnf); rw [show (n0 : Int) = 12 by omega])
    conv => whnf
   ·exact absurd hz0 (by omega)
   refine call1 0 [] rfl rfl rfl rfl (fun _ => hs1) ?_
   rintro o r ⟨ho, rfl⟩
   cases ho
   conv => whnf
   refine ⟨i64r (by omega), ?_⟩
   conv => whnf
   refine call1 0 [] rfl rfl rfl rfl (fun _ => hs2) ?_
   rintro o r ⟨ho, rfl⟩
   cases ho
   conv => whnf
   refine call1 0 [] rfl rfl rfl rfl (fun _ => hp2) ?_
   rintro o r ⟨ho, rfl⟩
   cases ho
   conv => whnf
   rw [decide_eq_false (show ¬ (k8 : Int) = 1 by omega)]
   conv => whnf
   exact ⟨rfl, _, rfl, by rw [ntA_three]; exact wk_if f (blkN k)⟩
  ·refine gw ?_
   refine spec_of (cx_ok ord57 (fun _ => [0]) 1) (fun _ _ h => h) Tryz.func57 rfl (by kernel_rfl) rfl (by kernel_rfl) ?_
   intro hok
   conv => whnf
   refine call1 0 [] rfl rfl rfl rfl (fun _ => hp) ?_
   rintro o r ⟨ho, rfl⟩
   cases ho
   conv => whnf
   by_cases hz0 : z ≤ 0
   all_goals
    first
    | (rw [if_pos hz0] at hn; rw [decide_eq_true hz0]; (conv => whnf); refine ⟨by decide, ?_⟩; rw [show ((n0 : Int)).tmod 11 = 13 by rw [Int.tmod_eq_emod_of_nonneg (by omega)]; omega])
    | (rw [if_neg hz0] at hn; rw [decide_eq_false hz0]; (conv => whnf); rw [show (n0 : Int) = 13 by omega])
    conv => whnf
   ·exact absurd hz0 (by omega)
   refine call1 0 [] rfl rfl rfl rfl (fun _ => hs1) ?_
   rintro o r ⟨ho, rfl⟩
   cases ho
   conv => whnf
   refine ⟨i64r (by omega), ?_⟩
   conv => whnf
   refine call1 0 [] rfl rfl rfl rfl (fun _ => hs2) ?_
   rintro o r ⟨ho, rfl⟩
   cases ho
   conv => whnf
   refine call1 0 [] rfl rfl rfl rfl (fun _ => hp2) ?_
   rintro o r ⟨ho, rfl⟩
   cases ho
   conv => whnf
   rw [decide_eq_false (show ¬ (k8 : Int) = 1 by omega)]
   conv => whnf
   exact ⟨rfl, _, rfl, by rw [ntA_three]; exact wk_if f (blkN k)⟩
end Go.Proofs.YtmodkpibkkpcdaaGreatDoor.Vm
namespace Go.Proofs.YtmodkpibkkpcdaaGreatDoor.Vm
open Go.RowKit Go.Shelf
set_option linter.unusedSimpArgs false
set_option linter.unusedVariables false
set_option maxRecDepth 100000
inductive Chn (l : List Int) (z : Int) : Nat → List Nt → Nat → Prop
 | nil (i : Nat) : Chn l z i [] i
 | cons (i i1 i2 : Nat) (f : Nt) (ss : List Nt) (h : Spec Tryz.prog 57 [bxG l i] [.box 0 0, .v (.int .i64 z)] fun o r => o = [bxG l i1] ∧ r = .agg (ntA f)) (k : Chn l z i1 ss i2) : Chn l z i (f :: ss) i2
theorem chn_ex {l : List Int} {d : Nat} (hS : GenS l d) {z : Int} (hz : z.toNat = d) (h1 : 0 ≤ z) (h2 : z ≤ 5) : ∀ (k i : Nat), i + k * bS d ≤ 1000000000 → ∃ ss i', ss.length = k ∧ (∀ s ∈ ss, ES d s) ∧ i ≤ i' ∧ i' ≤ i + k * bS d ∧ Chn l z i ss i'
 | 0, i, _ => ⟨[], i, rfl, by simp, Nat.le_refl _, by omega, .nil i⟩
 | k + 1, i, hb => by
  rw [Nat.succ_mul] at hb
  obtain ⟨f, i1, hf, g1, g2, hs⟩ := hS i z hz h1 h2 (by omega)
  obtain ⟨ss, i2, e1, e2, g3, g4, hc⟩ := chn_ex hS hz h1 h2 k i1 (by omega)
  refine ⟨f :: ss, i2, by rw [List.length_cons, e1], fun s hs => ?_, by omega, by rw [Nat.succ_mul]; omega, .cons _ _ _ _ _ hs hc⟩
  rcases List.mem_cons.1 hs with rfl | hs
  ·exact hf
  ·exact e2 s hs
set_option maxHeartbeats 1000000 in
theorem gblk (l : List Int) (d : Nat) (hS : GenS l d) : GenK l d := fun i m z hz h1 h2 hm hi => by
 have hp := gpick l i (m + 1) (by omega) (by omega)
 have hlt := pk_lt l i (m := m + 1) (by omega)
 generalize pk l i (m + 1) = k at *
 have hkm : k * bS d ≤ m * bS d := Nat.mul_le_mul_right _ (by omega)
 obtain ⟨ss, i2, e1, e2, g3, g4, hc⟩ := chn_ex hS hz h1 h2 k (i + 1) (by omega)
 refine ⟨ss, i2, by omega, e2, by omega, by omega, ?_⟩
 refine spec_of (cx_ok ord37 (fun _ => [0]) 1) (fun _ _ h => h) Tryz.func37 rfl (by kernel_rfl) rfl (by kernel_rfl) ?_
 intro hok
 conv => whnf
 refine ⟨i64r (by omega), ?_⟩
 conv => whnf
 refine call1 0 [] rfl rfl rfl rfl (fun _ => hp) ?_
 rintro o r ⟨ho, rfl⟩
 cases ho
 conv => whnf
 refine loop_row 41 4 [] [(2, 3)] ?_
 conv => whnf
 refine ⟨trivial, ?_⟩
 conv => whnf
 refine loop_keep [0, 1, 6, 7] ?_
 conv => whnf
 refine loop_go (fun x : List Nt × List Nt × Nat => [(8, .v (.int .i64 x.2.1.length))]) (fun x => [bxG l x.2.2, zero4, [intA 11, intA 0, strA ⟨#[]⟩, .own 0]]) (fun x => [.live 41 4 x.1.length (ntsA x.1)]) (fun x => x.1 ++ x.2.1 = ss ∧ Chn l z x.2.2 x.2.1 i2) (fun x => x.2.1.length) ([], ss, i + 1) ?_ ⟨rfl, hc⟩ ?_
 ·rw [← e1]
  repeat' constructor
  show Row.live _ _ _ _ = Row.live _ 4 0 (ntsA [])
  rw [ntsA_nil]
 rintro ⟨acc, rem, j⟩ ⟨hacc, hch⟩
 simp only at hacc hch
 conv => whnf
 cases hch with
 | nil =>
  rw [List.append_nil] at hacc
  conv => whnf
  rw [← hacc]
  exact ⟨rfl, rfl⟩
 | cons _ i1 _ f rem hs hch =>
  have hln : acc.length + (rem.length + 1) = ss.length := by rw [← hacc, List.length_append, List.length_cons]
  rw [show ((f :: rem).length : Int) = (rem.length : Int) + 1 by simp]
  rw [decide_eq_true (show 0 < (rem.length : Int) + 1 by omega)]
  conv => whnf
  refine call1 0 [] rfl rfl rfl rfl (fun _ => hs) ?_
  rintro o r ⟨ho, rfl⟩
  cases ho
  conv => whnf
  refine ⟨⟨by simp only; unfold maxLen; omega, by simp only; omega⟩, ?_⟩
  conv => whnf
  refine ⟨i64r (by omega), ?_⟩
  rw [show (rem.length : Int) + 1 - 1 = rem.length by omega]
  conv => whnf
  refine ⟨(acc ++ [f], rem, i1), le_selH [0] ?_, ⟨by simp only; rw [List.append_assoc]; exact hacc, hch⟩, by simp only [List.length_cons]; omega⟩
  conv => whnf
  simp only [List.length_append, List.length_cons, List.length_nil]
  rw [ntsA_snoc]
  repeat' constructor
end Go.Proofs.YtmodkpibkkpcdaaGreatDoor.Vm
namespace Go.Proofs.YtmodkpibkkpcdaaGreatDoor.Vm
open Go.RowKit Go.Shelf
set_option linter.unusedSimpArgs false
set_option linter.unusedVariables false
set_option maxRecDepth 100000
theorem rInts (l : List Int) (most : Nat) (hm : most ≤ 1000) : Spec Tryz.prog 35 [] [.sl 1 l.length (intsA l), .v (.int .i64 most)] fun _ r => r = .sl 1 (l.take most).length (intsA (l.take most)) := by
 refine spec_of (cx_ok ord0 xs0 0) (fun _ _ h => h) Tryz.func35 rfl (by kernel_rfl) rfl (by kernel_rfl) ?_
 intro hok
 have e1 : (min (l.length : Int) (most : Int)).toNat - Int.toNat 0 = (l.take most).length := by rw [List.length_take]; omega
 have e2 : List.take ((l.take most).length * 1) (List.drop (Int.toNat 0 * 1) (intsA l)) = intsA (l.take most) := by
  rw [Nat.mul_one, List.length_take]
  simp only [intsA, Int.toNat_zero, Nat.zero_mul, List.drop_zero]
  rw [← List.map_take]
  congr 1
  rcases Nat.le_total most l.length with h | h
  ·rw [Nat.min_eq_left h]
  ·rw [Nat.min_eq_right h, List.take_of_length_le h, List.take_of_length_le (Nat.le_refl _)]
 have e3 : (l.take most).length ≤ most := by rw [List.length_take]; omega
 conv => whnf
 (refine goA ?_; try with_reducible exact trivial)
 rw [e1, e2]
 generalize l.take most = L at *
 refine ⟨⟨by unfold maxLen; omega, by omega⟩, ?_⟩
 conv => whnf
 rfl
theorem gall (l : List Int) : ∀ d, GenS l d ∧ GenK l d
 | 0 => ⟨gstm l 0 fun e h => by omega, gblk l 0 (gstm l 0 fun e h => by omega)⟩
 | d + 1 => by
  have h1 : GenS l (d + 1) := gstm l (d + 1) fun e h => by
   obtain rfl : d = e := by omega
   exact (gall l d).2
  exact ⟨h1, gblk l (d + 1) h1⟩
def hnG (l : List Int) (j i : Nat) : Int := match j with
 | 0 => 0
 | 1 => 1
 | 2 => 2 + pk l (i + 1) 8
 | _ => 10 + pk l (i + 1 + 1) 30
inductive PCh (l : List Int) : Nat → Nat → List (Int × Nt) → Prop
 | nil (i : Nat) : PCh l 4 i []
 | skip (j i : Nat) (hs : List (Int × Nt)) (hj : j < 4) (hi : i ≤ 900000000) (hp : pk l i 5 = 0) (k : PCh l (j + 1) (i + 1) hs) : PCh l j i hs
 | take (j i i2 : Nat) (b : Nt) (hs : List (Int × Nt)) (hj : j < 4) (hi : i ≤ 900000000) (hp : 0 < pk l i 5) (h : Spec Tryz.prog 37 [bxG l (i + 1 + 1 + 1)] [.box 0 0, .v (.int .i64 2), .v (.int .i64 3)] fun o r => o = [bxG l i2] ∧ r = .agg (ntA b)) (k : PCh l (j + 1) i2 hs) : PCh l j i ((hnG l j i, b) :: hs)
def EK (b : Nt) : Prop := ∃ k, b = blkN k ∧ k.length ≤ 3 ∧ ∀ s ∈ k, ES 2 s
def loG : Nat → Int
 | 0 => 0
 | 1 => 1
 | 2 => 2
 | 3 => 10
 | _ => 40
def EHs (j : Nat) (hs : List (Int × Nt)) : Prop := (∀ h ∈ hs, loG j ≤ h.1 ∧ h.1 < 40 ∧ EK h.2) ∧ hs.Pairwise (fun a b => a.1 < b.1) ∧ hs.length + j ≤ 4
theorem pch_ex (l : List Int) : ∀ (k j i : Nat), j + k = 4 → i + k * 5000 ≤ 800000000 → ∃ hs, EHs j hs ∧ PCh l j i hs
 | 0, j, i, hj, hb => by
  obtain rfl : j = 4 := by omega
  exact ⟨[], ⟨by simp, .nil, by decide⟩, .nil i⟩
 | k + 1, j, i, hj, hb => by
  rw [Nat.succ_mul] at hb
  have hjs : j = 0 ∨ j = 1 ∨ j = 2 ∨ j = 3 := by omega
  have hlo : loG j ≤ loG (j + 1) := by rcases hjs with rfl | rfl | rfl | rfl <;> decide
  by_cases hp : pk l i 5 = 0
  ·obtain ⟨hs, ⟨e1, e2, e3⟩, hc⟩ := pch_ex l k (j + 1) (i + 1) (by omega) (by omega)
   exact ⟨hs, ⟨fun h hh => ⟨by have := (e1 h hh).1; omega, (e1 h hh).2⟩, e2, by omega⟩, .skip _ _ _ (by omega) (by omega) hp hc⟩
  ·have hS : bS 2 = 1270 := rfl
   obtain ⟨b, i2, q1, q2, g1, g2, hs⟩ := (gall l 2).2 (i + 1 + 1 + 1) 3 2 rfl (by decide) (by decide) (by decide) (by omega)
   obtain ⟨hs2, ⟨e1, e2, e3⟩, hc⟩ := pch_ex l k (j + 1) i2 (by omega) (by omega)
   have hn : loG j ≤ hnG l j i ∧ hnG l j i < loG (j + 1) := by
    have p8 := pk_lt l (i + 1) (m := 8) (by decide)
    have p30 := pk_lt l (i + 1 + 1) (m := 30) (by decide)
    rcases hjs with rfl | rfl | rfl | rfl <;> simp only [loG, hnG] <;> omega
   have hl4 : loG (j + 1) ≤ 40 := by rcases hjs with rfl | rfl | rfl | rfl <;> decide
   refine ⟨_, ⟨fun h hh => ?_, List.pairwise_cons.2 ⟨fun b hb => ?_, e2⟩, by rw [List.length_cons]; omega⟩, .take j i i2 (blkN b) hs2 (by omega) (by omega) (by omega) hs hc⟩
   ·rcases List.mem_cons.1 hh with rfl | hh
    ·exact ⟨hn.1, by simp only; omega, b, rfl, q1, q2⟩
    ·exact ⟨by have := (e1 h hh).1; omega, (e1 h hh).2⟩
   ·have := (e1 b hb).1
    simp only; omega
def duL : List ByteArray := [⟨#[100]⟩, ⟨#[100, 100, 49]⟩]
def voL : List ByteArray := [⟨#[118]⟩, ⟨#[119, 50]⟩]
def GU (u : Ut) : Prop := u.du = duL ∧ u.vo = voL ∧ EHs 0 u.on
set_option maxHeartbeats 1000000 in
theorem gprog (l : List Int) : ∃ u, GU u ∧ Spec Tryz.prog 13 [] [.sl 1 l.length (intsA l)] fun _ r => r = .agg (utA u) := by
 have hin := rInts l 70 (by decide)
 obtain ⟨hs, hE, hc⟩ := pch_ex (l.take 70) 4 0 0 rfl (by decide)
 refine ⟨⟨duL, voL, hs⟩, ⟨rfl, rfl, hE⟩, ?_⟩
 have hlen := hE.2.2
 generalize l.take 70 = L at *
 refine spec_of (cx_ok ord13 (fun _ => [1]) 0) (fun _ _ h => h) Tryz.func13 rfl (by kernel_rfl) rfl (by kernel_rfl) ?_
 intro hok
 conv => whnf
 refine call0 [] rfl (fun _ => hin) ?_
 rintro r rfl
 conv => whnf
 refine loop_row 59 5 [] [(2, 2)] ?_
 conv => whnf
 refine ⟨trivial, ?_⟩
 conv => whnf
 refine loop_keep [2, 3, 4] ?_
 conv => whnf
 refine loop_go (fun x : Nat × Nat × List (Int × Nt) × List (Int × Nt) => [(5, .v (.int .i64 x.1))]) (fun x => [zero3, bxG L x.2.1, [.own 0, .own 1, .own 2]]) (fun x => [.live 9 1 2 (txA duL), .live 9 1 2 (txA voL), .live 59 5 x.2.2.1.length (hnsA x.2.2.1)]) (fun x => x.2.2.1 ++ x.2.2.2 = hs ∧ PCh L x.1 x.2.1 x.2.2.2) (fun x => 4 - x.1) (0, 0, [], hs) ?_ ⟨rfl, hc⟩ ?_
 ·repeat' constructor
  show Row.live _ _ _ _ = Row.live _ 5 0 (hnsA [])
  rw [hnsA_nil]
 rintro ⟨j, i, acc, rem⟩ ⟨hacc, hch⟩
 simp only at hacc hch
 have hal : acc.length ≤ 4 := by
  have := congrArg List.length hacc
  rw [List.length_append] at this
  omega
 clear hin hc
 conv => whnf
 cases hch with
 | nil =>
  conv => whnf
  rw [List.append_nil] at hacc
  rw [← hacc]
  rfl
 | skip _ _ _ hj hi hp hch =>
  have hpk := gpick L i 5 (by omega) (by decide)
  rw [hp] at hpk
  rw [decide_eq_true (show (j : Int) < 4 by omega)]
  conv => whnf
  refine call1 1 [] rfl rfl rfl rfl (fun _ => hpk) ?_
  rintro o r ⟨ho, rfl⟩
  cases ho
  conv => whnf
  refine ⟨i64r (by omega), ?_⟩
  conv => whnf
  refine ⟨(j + 1, i + 1, acc, rem), le_selH [0, 1, 2] ?_, ⟨hacc, hch⟩, by simp only; omega⟩
  conv => whnf
  repeat' constructor
 | take _ _ i2 b rem hj hi hp hs hch =>
  have hpk := gpick L i 5 (by omega) (by decide)
  have hp8 := gpick L (i + 1) 8 (by omega) (by decide)
  have hp30 := gpick L (i + 1 + 1) 30 (by omega) (by decide)
  have l8 := pk_lt L (i + 1) (m := 8) (by decide)
  have l30 := pk_lt L (i + 1 + 1) (m := 30) (by decide)
  obtain ⟨nn, hnn⟩ : ∃ nn, hnG L j i = nn := ⟨_, rfl⟩
  rw [hnn] at hacc
  unfold hnG at hnn
  generalize pk L i 5 = k5 at *
  generalize pk L (i + 1) 8 = k8 at *
  generalize pk L (i + 1 + 1) 30 = k30 at *
  rw [decide_eq_true (show (j : Int) < 4 by omega)]
  conv => whnf
  refine call1 1 [] rfl rfl rfl rfl (fun _ => hpk) ?_
  rintro o r ⟨ho, rfl⟩
  cases ho
  conv => whnf
  rw [decide_eq_true (show 0 < (k5 : Int) by omega)]
  conv => whnf
  refine call1 1 [] rfl rfl rfl rfl (fun _ => hp8) ?_
  rintro o r ⟨ho, rfl⟩
  cases ho
  conv => whnf
  refine ⟨i64r (by omega), ?_⟩
  conv => whnf
  refine call1 1 [] rfl rfl rfl rfl (fun _ => hp30) ?_
  rintro o r ⟨ho, rfl⟩
  cases ho
  conv => whnf
  refine ⟨i64r (by omega), ?_⟩
  conv => whnf
  refine ⟨⟨by omega, by omega⟩, ?_⟩
  rcases (by omega : j = 0 ∨ j = 1 ∨ j = 2 ∨ j = 3) with rfl | rfl | rfl | rfl
  all_goals
   simp only at hnn
   conv => whnf
   refine call1 1 [] rfl rfl rfl rfl (fun _ => hs) ?_
   rintro o r ⟨ho, rfl⟩
   cases ho
   conv => whnf
   refine ⟨⟨by simp only; unfold maxLen; omega, by simp only; omega⟩, ?_⟩
   conv => whnf
   refine ⟨i64r (by simp only; omega), ?_⟩
   conv => whnf
   subst hnn
   refine ⟨(_, i2, acc ++ [(_, b)], rem), le_selH [0, 1, 2] ?_, ⟨by simp only; rw [List.append_assoc]; exact hacc, hch⟩, by simp only; omega⟩
   conv => whnf
   repeat' constructor
   rw [List.length_append, hnsA_snoc]
   rfl
end Go.Proofs.YtmodkpibkkpcdaaGreatDoor.Vm
namespace Go.Proofs.YtmodkpibkkpcdaaGreatDoor.Vm
open Go.RowKit Go.Shelf
set_option linter.unusedSimpArgs false
set_option linter.unusedVariables false
set_option maxRecDepth 100000
def newB : ByteArray := ⟨#[110, 101, 119]⟩
def ordEq (id : Nat) : Tr := match Nat.beq id 7 with | true => .q 0 0 (.q 1 0 (.q 3 0 (.q 4 0 (.alt 2 1 (.alt 5 1 (.q 6 3 (.q 7 3 (.q 8 0 (.q 9 0 (.alt 10 1 (.q 11 3 (.q 12 3 (.q 13 3 (.q 14 0 (.q 15 0 (.q 17 0 (.q 18 0 (.alt 16 1 (.alt 19 1 (.q 20 3 (.q 21 3 (.nil))) (.nil)) (.nil))))))))) (.nil)))))) (.nil)) (.nil))))) | false => match Nat.beq id 9 with | true => .q 0 0 (.q 1 3 (.alt 2 1 (.alt 3 1 (.q 4 3 (.q 5 0 (.q 6 0 (.alt 7 1 (.q 8 3 (.q 9 3 (.q 10 3 (.alt 11 1 (.q 12 3 (.q 13 3 (.nil))) (.nil))))) (.nil))))) (.nil)) (.nil))) | false => .nil
theorem equal_law_spec (f g : Nt) (l m : List Int) : Spec Tryz.prog 6 [] [.agg (ntA f), .agg (ntA g), .sl 1 l.length (intsA l), .sl 1 m.length (intsA m)] fun _ r => r = boolA true := by
 obtain ⟨u, hu, hpu⟩ := gprog l
 obtain ⟨v, hv, hpv⟩ := gprog m
 have c1 := rcut 4 (by decide) f
 have c2 := rcut 4 (by decide) g
 generalize cutN 4 f = x at *
 generalize cutN 4 g = y at *
 have e1 := pequal x y
 have e2 := requal x y
 have e3 := pequal x x
 have s1 := psame u v
 have s2 := rsame u v
 have s3 := psame u u
 have s4 := psame u ⟨[newB] ++ u.du, u.vo, u.on⟩
 have e4 : eqU u ⟨[newB] ++ u.du, u.vo, u.on⟩ = false := by
  cases h : eqU u ⟨[newB] ++ u.du, u.vo, u.on⟩ with
  | false => rfl
  | true =>
   have := congrArg (fun u => u.du.length) ((eqU_iff _ _).1 h)
   simp at this
 rw [e4] at s4
 rw [show utA ⟨[newB] ++ u.du, u.vo, u.on⟩ = [.sl 1 (1 + u.du.length) ([strA newB] ++ txA u.du), .sl 1 u.vo.length (txA u.vo), .sl 5 u.on.length (hnsA u.on)] by
  unfold utA
  simp only
  rw [txA_app, List.length_append]
  rfl] at s4
 rw [(eqU_iff _ _).2 rfl] at s3
 unfold PEqN at e1 e3
 unfold REqN at e2
 rw [(eqN_iff _ _).2 rfl] at e3
 generalize eqN x y = q at *
 generalize eqU u v = p at *
 have hlv := plives_spec
 have hdl : u.du.length = 2 := by rw [hu.1]; rfl
 refine spec_of (cx_ok ordEq xs0 0) (fun _ _ h => h) Tryz.func6 rfl (by kernel_rfl) rfl (by kernel_rfl) ?_
 intro hok
 conv => whnf
 (refine call0 [] rfl (fun _ => c1) ?_; rintro r rfl; conv => whnf)
 (refine call0 [] rfl (fun _ => c2) ?_; rintro r rfl; conv => whnf)
 (refine call0 [] rfl (fun _ => hpu) ?_; rintro r rfl; conv => whnf)
 (refine call0 [] rfl (fun _ => hpv) ?_; rintro r rfl; conv => whnf)
 refine ⟨⟨by unfold maxLen; omega, by omega⟩, ?_⟩
 conv => whnf
 (refine call0 [] rfl (fun _ => e1) ?_; rintro r rfl; conv => whnf)
 (refine call0 [] rfl (fun _ => e2) ?_; rintro r rfl; conv => whnf)
 rw [show (!(q == q)) = false by cases q <;> rfl]
 conv => whnf
 (refine call0 [] rfl (fun _ => e3) ?_; rintro r rfl; conv => whnf)
 (refine call0 [] rfl (fun _ => s1) ?_; rintro r rfl; conv => whnf)
 (refine call0 [] rfl (fun _ => s2) ?_; rintro r rfl; conv => whnf)
 rw [show (!(p == p)) = false by cases p <;> rfl]
 conv => whnf
 (refine call0 [] rfl (fun _ => hpu) ?_; rintro r rfl; conv => whnf)
 (refine call0 [] rfl (fun _ => s3) ?_; rintro r rfl; conv => whnf)
 (refine call0 [0] rfl (fun _ => s4) ?_; rintro r rfl; conv => whnf)
 (refine call0 [] rfl (fun _ => hlv) ?_; rintro r rfl; conv => whnf)
 rfl
end Go.Proofs.YtmodkpibkkpcdaaGreatDoor.Vm
