/- Texts 5 of the proof: G2, G3, G4, G5, Fn0, Map, Fn1, Fn2, Fn5, Fn6, Fn7, C0, C1, C2, C3, C12, C11, C14, C15, C16, C13, C17, C4, C5, C6. -/
import Derived.Test.YtfbifdccmabdbaaGreatDoorK4
import Derived.Lib.Hide
import Derived.Carry
import Derived.Laws.EntriesVeiled
namespace Go.Proofs.YtfbifdccmabdbaaGreatDoor.Vm
open Go.RowKit Go.Shelf
set_option linter.unusedSimpArgs false
set_option linter.unusedVariables false
set_option maxRecDepth 100000
def bolL : List ByteArray := [jg3, pOr]
inductive EB : Nat -> Nt -> Prop
 | lit (d n : Nat) (h : n < 2) : EB d (.mk 13 n eB [])
 | nt (d : Nat) (f : Nt) (h : EB d f) : EB (d + 1) (.mk 17 0 pNot [f])
 | bin (d : Nat) (s : ByteArray) (f g : Nt) (hs : s ∈ bolL) (h1 : EB d f) (h2 : EB d g) : EB (d + 1) (.mk 18 0 s [f, g])
 | cmp (d : Nat) (s : ByteArray) (f g : Nt) (hs : s ∈ cmpL) (h1 : EI (d - 1) f) (h2 : EI (d - 1) g) : EB d (.mk 18 0 s [f, g])
def bB : Nat -> Nat
 | 0 => 6
 | d + 1 => 2 + 2 * bB d + 2 * bI d
theorem jyo : ∀ d, 2 + 2 * bI (d - 1) <= bB d
 | 0 => by decide
 | d + 1 => by unfold bB; rw [Nat.add_sub_cancel]; omega
def jy5 (l : List Int) (d : Nat) : Prop := l.length <= 70 -> ∀ (i : Nat) (z : Int), z.toNat = d -> -3 <= z -> z <= 10 -> i + bB d <= 1000000000 -> ∃ f i', EB d f /\ i <= i' /\ i' <= i + bB d /\ (∀ κ, 1 <= κ -> κ <= 7 -> wN κ f + phA κ i <= 5 + κ + phA κ i') /\ Spec Tryz.prog 114 [bxG l i] [.box 0 0, .v (.int .i64 z)] fun o r => o = [bxG l i'] /\ r = .agg (ntA f)
set_option maxHeartbeats 1000000 in
theorem jwE (l : List Int) (d : Nat) (ih : ∀ e, d = e + 1 -> jy5 l e) : jy5 l d := fun hl i z hz h1 h2 hi => by
 have hge := jyo d
 have hge2 := jwg (d - 1)
 have hp := jd2 l i 8 (by omega) (by decide)
 have hlt := jd6 l i (m := 8) (by decide)
 have ho := jh8 l i 8 hl
 have p0 := fun κ => jh6 κ i
 have p1 := fun κ => jh6 κ (i + 1)
 have pe2 : ∀ κ, phA κ (i + 2) = phA κ (i + 1 + 1) := fun _ => rfl
 generalize pk l i 8 = n0 at *
 obtain ⟨n, hn⟩ : ∃ n, (if z <= 0 then n0 % 4 else n0) = n := ⟨_, rfl⟩
 have hn12 : n < 8 := by split at hn <;> omega
 have hn6 : z <= 0 -> n < 4 := fun h => by rw [if_pos h] at hn; omega
 have hlo : n ≠ 0 -> i < 70 := fun h => by
  by_cases h70 : 70 <= i
  ·have := ho h70
   split at hn <;> omega
  ·omega
 by_cases hA : n = 0
 ·have hp2 := jd2 l (i + 1) 2 (by omega) (by decide)
  have hlt2 := jd6 l (i + 1) (m := 2) (by decide)
  generalize pk l (i + 1) 2 = k8 at *;refine ⟨.mk 13 k8 eB [], i + 2, .lit _ _ hlt2, by omega, by omega, fun κ ka kb => by have p0 := p0 κ; have p1 := p1 κ; have pe2 := pe2 κ; rw [jvN]; omega, ?_⟩;subst hA;refine gw ?_;refine ja8 (ja4 jnR (fun _ => [0]) 1) (fun _ _ h => h) Tryz.func114 rfl (by kernel_rfl) rfl (by kernel_rfl) ?_;intro hok;conv => whnf
  refine ja6 0 [] rfl rfl rfl rfl (fun _ => hp) ?_;rintro o r ⟨ho, rfl⟩;cases ho;conv => whnf
  by_cases hz0 : z <= 0
  all_goals
   first
   | (rw [if_pos hz0] at hn; rw [decide_eq_true hz0]; (conv => whnf); refine ⟨by decide, ?_⟩; rw [Int.tmod_eq_emod_of_nonneg (by omega), show (n0 : Int) % 4 = ((n0 % 4 : Nat) : Int) by omega, hn])
   | (rw [if_neg hz0] at hn; rw [decide_eq_false hz0]; (conv => whnf); rw [hn])
   conv => whnf
  all_goals
   refine ja6 0 [] rfl rfl rfl rfl (fun _ => hp2) ?_;rintro o r ⟨ho, rfl⟩;cases ho;conv => whnf
   exact ⟨rfl, _, rfl, jb1 (f := .mk 13 k8 eB []) rfl⟩
 by_cases hB : n <= 4
 ·have hp2 := jd2 l (i + 1) 6 (by omega) (by decide)
  have hlt2 := jd6 l (i + 1) (m := 6) (by decide)
  generalize pk l (i + 1) 6 = k8 at *
  obtain ⟨f, i2, hf, g1, g2, w1, hs⟩ := jgQ l (d - 1) hl (i + 1 + 1) (z - 1) (by omega) (by omega) (by omega) (by omega)
  obtain ⟨g, i3, hg, g3, g4, w2, hs2⟩ := jgQ l (d - 1) hl i2 (z - 1) (by omega) (by omega) (by omega) (by omega)
  have hlw : ∀ (k : Nat) (h : k < cmpL.length), (cmpL[k]'h).size <= 2 := by decide
  have hlk := hlw k8 hlt2
  refine ⟨.mk 18 0 (cmpL[k8]'hlt2) [f, g], i3, .cmp _ _ _ _ (List.getElem_mem _) hf hg, by omega, by omega, fun κ ka kb => by have p0 := p0 κ; have p1 := p1 κ; have pe2 := pe2 κ; have w1 := w1 κ ka kb; have w2 := w2 κ ka kb; rw [jrA]; omega, ?_⟩;clear hlw hlk
  have hr := jdq jbn cmpL k8 hlt2
  generalize cmpL[k8]'hlt2 = s at *
  rcases (by omega : n = 1 ∨ n = 2 ∨ n = 3 ∨ n = 4) with rfl | rfl | rfl | rfl
  all_goals
   refine gw ?_;refine ja8 (ja4 jnR (fun _ => [0]) 1) (fun _ _ h => h) Tryz.func114 rfl (by kernel_rfl) rfl (by kernel_rfl) ?_;intro hok;conv => whnf
   refine ja6 0 [] rfl rfl rfl rfl (fun _ => hp) ?_;rintro o r ⟨ho, rfl⟩;cases ho;conv => whnf
   by_cases hz0 : z <= 0
   all_goals
    first
    | (rw [if_pos hz0] at hn; rw [decide_eq_true hz0]; (conv => whnf); refine ⟨by decide, ?_⟩; rw [Int.tmod_eq_emod_of_nonneg (by omega), show (n0 : Int) % 4 = ((n0 % 4 : Nat) : Int) by omega, hn])
    | (rw [if_neg hz0] at hn; rw [decide_eq_false hz0]; (conv => whnf); rw [hn])
    conv => whnf
   all_goals
    refine ja6 0 [] rfl rfl rfl rfl (fun _ => hp2) ?_;rintro o r ⟨ho, rfl⟩;cases ho;conv => whnf
    refine ⟨⟨by omega, by omega⟩, ?_⟩;conv => whnf
    generalize hrq : List.drop (Int.toNat (k8 : Int) * _) _ = rq
    obtain rfl : rq = _ :: _ := hrq.symm.trans hr
    clear hrq;conv => whnf
    refine ⟨jam (by omega), ?_⟩;conv => whnf
    refine ja6 0 [] rfl rfl rfl rfl (fun _ => hs) ?_;rintro o r ⟨ho, rfl⟩;cases ho;conv => whnf
    refine ⟨jam (by omega), ?_⟩;conv => whnf
    refine ja6 0 [] rfl rfl rfl rfl (fun _ => hs2) ?_;rintro o r ⟨ho, rfl⟩;cases ho;conv => whnf
    exact ⟨rfl, _, rfl, by rw [jcC]; exact jaR _⟩
 have hzp : 0 < z := by
  by_cases h : 0 < z
  ·exact h
  ·have := hn6 (by omega); omega
 obtain ⟨e, rfl⟩ : ∃ e, d = e + 1 := ⟨d - 1, by omega⟩
 have ihe := ih e rfl
 unfold bB at hi
 by_cases hD : n = 5
 ·obtain ⟨f, i2, hf, g1, g2, w1, hs⟩ := ihe hl (i + 1) (z - 1) (by omega) (by omega) (by omega) (by omega)
  subst hD
  have hsz : pNot.size = 1 := rfl
  refine ⟨.mk 17 0 pNot [f], i2, .nt _ _ hf, by omega, by unfold bB; omega, fun κ ka kb => by have p0 := p0 κ; have p1 := p1 κ; have pe2 := pe2 κ; have w1 := w1 κ ka kb; rw [ju8]; omega, ?_⟩;refine gw ?_;refine ja8 (ja4 jnR (fun _ => [0]) 1) (fun _ _ h => h) Tryz.func114 rfl (by kernel_rfl) rfl (by kernel_rfl) ?_;intro hok;conv => whnf
  refine ja6 0 [] rfl rfl rfl rfl (fun _ => hp) ?_;rintro o r ⟨ho, rfl⟩;cases ho;conv => whnf
  by_cases hz0 : z <= 0
  all_goals
   first
   | (rw [if_pos hz0] at hn; rw [decide_eq_true hz0]; (conv => whnf); refine ⟨by decide, ?_⟩; rw [Int.tmod_eq_emod_of_nonneg (by omega), show (n0 : Int) % 4 = ((n0 % 4 : Nat) : Int) by omega, hn])
   | (rw [if_neg hz0] at hn; rw [decide_eq_false hz0]; (conv => whnf); rw [hn])
   conv => whnf
  ·exact absurd hz0 (by omega)
  refine ⟨jam (by omega), ?_⟩;conv => whnf
  refine ja6 0 [] rfl rfl rfl rfl (fun _ => hs) ?_;rintro o r ⟨ho, rfl⟩;cases ho;conv => whnf
  exact ⟨rfl, _, rfl, by rw [jbP]; exact jaR _⟩
 have hp2 := jd2 l (i + 1) 2 (by omega) (by decide)
 have hlt2 := jd6 l (i + 1) (m := 2) (by decide)
 generalize pk l (i + 1) 2 = k8 at *
 obtain ⟨f, i2, hf, g1, g2, w1, hs⟩ := ihe hl (i + 1 + 1) (z - 1) (by omega) (by omega) (by omega) (by omega)
 obtain ⟨g, i3, hg, g3, g4, w2, hs2⟩ := ihe hl i2 (z - 1) (by omega) (by omega) (by omega) (by omega)
 have hlw : ∀ (k : Nat) (h : k < bolL.length), (bolL[k]'h).size = 2 := by decide
 have hlk := hlw k8 hlt2
 refine ⟨.mk 18 0 (bolL[k8]'hlt2) [f, g], i3, .bin _ _ _ _ (List.getElem_mem _) hf hg, by omega, by unfold bB; omega, fun κ ka kb => by have p0 := p0 κ; have p1 := p1 κ; have pe2 := pe2 κ; have w1 := w1 κ ka kb; have w2 := w2 κ ka kb; rw [jrA]; omega, ?_⟩;clear hlw hlk
 have hr := jdq jbn bolL k8 hlt2
 generalize bolL[k8]'hlt2 = s at *
 rcases (by omega : n = 6 ∨ n = 7) with rfl | rfl
 all_goals
  refine gw ?_;refine ja8 (ja4 jnR (fun _ => [0]) 1) (fun _ _ h => h) Tryz.func114 rfl (by kernel_rfl) rfl (by kernel_rfl) ?_;intro hok;conv => whnf
  refine ja6 0 [] rfl rfl rfl rfl (fun _ => hp) ?_;rintro o r ⟨ho, rfl⟩;cases ho;conv => whnf
  by_cases hz0 : z <= 0
  all_goals
   first
   | (rw [if_pos hz0] at hn; rw [decide_eq_true hz0]; (conv => whnf); refine ⟨by decide, ?_⟩; rw [Int.tmod_eq_emod_of_nonneg (by omega), show (n0 : Int) % 4 = ((n0 % 4 : Nat) : Int) by omega, hn])
   | (rw [if_neg hz0] at hn; rw [decide_eq_false hz0]; (conv => whnf); rw [hn])
   conv => whnf
  ·exact absurd hz0 (by omega)
  refine ja6 0 [] rfl rfl rfl rfl (fun _ => hp2) ?_;rintro o r ⟨ho, rfl⟩;cases ho;conv => whnf
  refine ⟨⟨by omega, by omega⟩, ?_⟩;conv => whnf
  generalize hrq : List.drop (Int.toNat (k8 : Int) * _) _ = rq
  obtain rfl : rq = _ :: _ := hrq.symm.trans hr
  clear hrq;conv => whnf
  refine ⟨jam (by omega), ?_⟩;conv => whnf
  refine ja6 0 [] rfl rfl rfl rfl (fun _ => hs) ?_;rintro o r ⟨ho, rfl⟩;cases ho;conv => whnf
  refine ⟨jam (by omega), ?_⟩;conv => whnf
  refine ja6 0 [] rfl rfl rfl rfl (fun _ => hs2) ?_;rintro o r ⟨ho, rfl⟩;cases ho;conv => whnf
  exact ⟨rfl, _, rfl, by rw [jcC]; exact jaR _⟩
theorem jq5 (l : List Int) : ∀ d, jy5 l d
 | 0 => jwE l 0 fun e h => by omega
 | d + 1 => jwE l (d + 1) fun e h => by
  obtain rfl : d = e := by omega
  exact jq5 l d
inductive ES : Nat -> Nt -> Prop
 | asg (d e : Nat) (s : ByteArray) (f : Nt) (hs : s ∈ varL) (h : EI e f) (he : e <= 2) : ES d (.mk 1 0 s [f])
 | snd (d n : Nat) (f g h : Nt) (hn : n < 4) (h1 : EI 0 f) (h2 : EI 1 g) (h3 : EI 1 h) : ES d (.mk 4 n eB [f, g, h])
 | tim (d n : Nat) (hn : n < 3) : ES d (.mk 5 n eB [])
 | can (d n : Nat) (hn : n < 3) : ES d (.mk 6 n eB [])
 | syn (d : Nat) : ES d (.mk 7 0 eB [])
 | rep (d : Nat) (f g : Nt) (h1 : EI 0 f) (h2 : EI 1 g) : ES d (.mk 8 0 eB [f, g])
 | fai (d : Nat) (f : Nt) (h1 : EI 1 f) : ES d (.mk 9 0 eB [f])
 | stp (d : Nat) : ES d (.mk 10 0 eB [])
 | whi (d : Nat) (c : Nt) (l : List Nt) (h1 : EB 1 c) (h2 : l.length <= 2) (h3 : ∀ s ∈ l, ES d s) : ES (d + 1) (.mk 3 0 eB [c, jeA l])
 | iff (d : Nat) (c : Nt) (l m : List Nt) (h1 : EB 2 c) (h2 : l.length <= 2) (h3 : ∀ s ∈ l, ES d s) (h4 : m.length <= 2) (h5 : ∀ s ∈ m, ES d s) : ES (d + 1) (.mk 2 0 eB [c, jeA l, jeA m])
theorem jxV (c : Nat) {n : Nat} (h : n <= 2) : (n = 0 /\ c * n = 0) ∨ (n = 1 /\ c * n = c) ∨ (n = 2 /\ c * n = 2 * c) := by
 rcases (by omega : n = 0 ∨ n = 1 ∨ n = 2) with rfl | rfl | rfl <;> omega
def bS : Nat -> Nat
 | 0 => 60
 | d + 1 => 62 + 4 * bS d
theorem jyp : ∀ d, 60 <= bS d
 | 0 => Nat.le_refl _
 | d + 1 => by unfold bS; omega
def jw2 (l : List Int) (d : Nat) : Prop := l.length <= 70 -> ∀ (i : Nat) (z : Int), z.toNat = d -> 0 <= z -> z <= 5 -> i + bS d <= 1000000000 -> ∃ f i', ES d f /\ i <= i' /\ i' <= i + bS d /\ (∀ κ, 1 <= κ -> κ <= 7 -> wS κ f + phi κ i <= 4 + 4 * κ + phi κ i') /\ Spec Tryz.prog 75 [bxG l i] [.box 0 0, .v (.int .i64 z)] fun o r => o = [bxG l i'] /\ r = .agg (ntA f)
def jy7 (l : List Int) (d : Nat) : Prop := l.length <= 70 -> ∀ (i m : Nat) (z : Int), z.toNat = d -> 0 <= z -> z <= 5 -> m <= 3 -> i + (1 + m * bS d) <= 1000000000 -> ∃ k i', k.length <= m /\ (∀ s ∈ k, ES d s) /\ i <= i' /\ i' <= i + (1 + m * bS d) /\ ((∀ κ, 1 <= κ -> κ <= 7 -> wSs κ k + phi κ (i + 1) <= (4 + 4 * κ) * k.length + phi κ i') /\ (70 <= i -> k.length = 0)) /\ Spec Tryz.prog 38 [bxG l i] [.box 0 0, .v (.int .i64 z), .v (.int .i64 m)] fun o r => o = [bxG l i'] /\ r = .agg (ntA (jeA k))
set_option maxHeartbeats 2000000 in
theorem jyx (l : List Int) (d : Nat) (ih : ∀ e, d = e + 1 -> jy7 l e) : jw2 l d := fun hl i z hz h1 h2 hi => by
 have hge := jyp d
 have b0 : bI 0 = 2 := rfl
 have b1 : bI 1 = 6 := rfl
 have b2 : bI 2 = 14 := rfl
 have c1 : bB 1 = 18 := rfl
 have c2 : bB 2 = 50 := rfl
 have hp := jd2 l i 14 (by omega) (by decide)
 have hlt := jd6 l i (m := 14) (by decide)
 have ho := jh8 l i 14 hl
 have p0 := fun κ => jcP κ i
 have p1 := fun κ => jcP κ (i + 1)
 have pe2 : ∀ κ, phi κ (i + 2) = phi κ (i + 1 + 1) := fun _ => rfl
 have p2 := fun κ => jcP κ (i + 1 + 1)
 generalize pk l i 14 = n0 at *
 obtain ⟨n, hn⟩ : ∃ n, (if z <= 0 then n0 % 11 else n0) = n := ⟨_, rfl⟩
 have hn12 : n < 14 := by split at hn <;> omega
 have hn6 : z <= 0 -> n < 11 := fun h => by rw [if_pos h] at hn; omega
 have hlo : n ≠ 0 -> i < 70 := fun h => by
  by_cases h70 : 70 <= i
  ·have := ho h70
   split at hn <;> omega
  ·omega
 by_cases hA : n <= 2
 ·obtain ⟨s, hs1, ⟨hz3, hz1⟩, hp2⟩ := jyz l (i + 1) (by omega)
  have hz1 := hz1 hl
  obtain ⟨f, i2, hf, g1, g2, w1, hs⟩ := jgQ l 2 hl (i + 1 + 1) 2 (by omega) (by omega) (by omega) (by omega)
  have w1 := fun κ ka kb => jer (by omega) (w1 κ ka kb)
  refine ⟨.mk 1 0 s [f], i2, .asg _ _ _ _ hs1 hf (Nat.le_refl _), by omega, by omega, fun κ ka kb => by have p0 := p0 κ; have p1 := p1 κ; have pe2 := pe2 κ; have p2 := p2 κ; have w1 := w1 κ ka kb; rw [ju9]; omega, ?_⟩
  rcases (by omega : n = 0 ∨ n = 1 ∨ n = 2) with rfl | rfl | rfl
  all_goals
   refine gw ?_;refine ja8 (ja4 jgc (fun _ => [0]) 1) (fun _ _ h => h) Tryz.func75 rfl (by kernel_rfl) rfl (by kernel_rfl) ?_;intro hok;conv => whnf
   refine ja6 0 [] rfl rfl rfl rfl (fun _ => hp) ?_;rintro o r ⟨ho, rfl⟩;cases ho;conv => whnf
   by_cases hz0 : z <= 0
   all_goals
    first
    | (rw [if_pos hz0] at hn; rw [decide_eq_true hz0]; (conv => whnf); refine ⟨by decide, ?_⟩; rw [Int.tmod_eq_emod_of_nonneg (by omega), show (n0 : Int) % 11 = ((n0 % 11 : Nat) : Int) by omega, hn])
    | (rw [if_neg hz0] at hn; rw [decide_eq_false hz0]; (conv => whnf); rw [hn])
    conv => whnf
   all_goals
    refine ja6 0 [] rfl rfl rfl rfl (fun _ => hp2) ?_;rintro o r ⟨ho, rfl⟩;cases ho;conv => whnf
    refine ja6 0 [] rfl rfl rfl rfl (fun _ => hs) ?_;rintro o r ⟨ho, rfl⟩;cases ho;conv => whnf
    exact ⟨rfl, _, rfl, by rw [jbP]; exact jaR _⟩
 by_cases hB : n <= 4
 ·obtain ⟨f, i2, hf, g1, g2, w1, hs1⟩ := jgQ l 0 hl (i + 1) 0 (by omega) (by omega) (by omega) (by omega)
  have hp2 := jd2 l i2 4 (by omega) (by decide)
  have hlt2 := jd6 l i2 (m := 4) (by decide)
  generalize pk l i2 4 = k8 at *
  have p3 := fun κ => jh6 κ i2
  have q0 := fun κ => jh6 κ i
  have qi := fun κ => joX κ i
  obtain ⟨g, i3, hg, g3, g4, w2, hs2⟩ := jgQ l 1 hl (i2 + 1) 1 (by omega) (by omega) (by omega) (by omega)
  obtain ⟨h, i4, hh, g5, g6, w3, hs3⟩ := jgQ l 1 hl i3 1 (by omega) (by omega) (by omega) (by omega)
  refine ⟨.mk 4 k8 eB [f, g, h], i4, .snd _ _ _ _ _ hlt2 hf hg hh, by omega, by omega, fun κ ka kb => by have qj := joX κ i4; have p3 := p3 κ; have q0 := q0 κ; have qi := qi κ; have w1 := w1 κ ka kb; have w2 := w2 κ ka kb; have w3 := w3 κ ka kb; rw [jxH]; omega, ?_⟩
  rcases (by omega : n = 3 ∨ n = 4) with rfl | rfl
  all_goals
   refine gw ?_;refine ja8 (ja4 jgc (fun _ => [0]) 1) (fun _ _ h => h) Tryz.func75 rfl (by kernel_rfl) rfl (by kernel_rfl) ?_;intro hok;conv => whnf
   refine ja6 0 [] rfl rfl rfl rfl (fun _ => hp) ?_;rintro o r ⟨ho, rfl⟩;cases ho;conv => whnf
   by_cases hz0 : z <= 0
   all_goals
    first
    | (rw [if_pos hz0] at hn; rw [decide_eq_true hz0]; (conv => whnf); refine ⟨by decide, ?_⟩; rw [Int.tmod_eq_emod_of_nonneg (by omega), show (n0 : Int) % 11 = ((n0 % 11 : Nat) : Int) by omega, hn])
    | (rw [if_neg hz0] at hn; rw [decide_eq_false hz0]; (conv => whnf); rw [hn])
    conv => whnf
   all_goals
    refine ja6 0 [] rfl rfl rfl rfl (fun _ => hs1) ?_;rintro o r ⟨ho, rfl⟩;cases ho;conv => whnf
    refine ja6 0 [] rfl rfl rfl rfl (fun _ => hp2) ?_;rintro o r ⟨ho, rfl⟩;cases ho;conv => whnf
    refine ja6 0 [] rfl rfl rfl rfl (fun _ => hs2) ?_;rintro o r ⟨ho, rfl⟩;cases ho;conv => whnf
    refine ja6 0 [] rfl rfl rfl rfl (fun _ => hs3) ?_;rintro o r ⟨ho, rfl⟩;cases ho;conv => whnf
    exact ⟨rfl, _, rfl, by rw [jdx]; exact jaR _⟩
 by_cases hC : n <= 6
 ·have hp2 := jd2 l (i + 1) 3 (by omega) (by decide)
  have hlt2 := jd6 l (i + 1) (m := 3) (by decide)
  generalize pk l (i + 1) 3 = k8 at *
  rcases (by omega : n = 5 ∨ n = 6) with rfl | rfl
  ·refine ⟨.mk 5 k8 eB [], i + 2, .tim _ _ hlt2, by omega, by omega, fun κ ka kb => by have p0 := p0 κ; have p1 := p1 κ; have pe2 := pe2 κ; have p2 := p2 κ; rw [jxK]; omega, ?_⟩;refine gw ?_;refine ja8 (ja4 jgc (fun _ => [0]) 1) (fun _ _ h => h) Tryz.func75 rfl (by kernel_rfl) rfl (by kernel_rfl) ?_;intro hok;conv => whnf
   refine ja6 0 [] rfl rfl rfl rfl (fun _ => hp) ?_;rintro o r ⟨ho, rfl⟩;cases ho;conv => whnf
   by_cases hz0 : z <= 0
   all_goals
    first
    | (rw [if_pos hz0] at hn; rw [decide_eq_true hz0]; (conv => whnf); refine ⟨by decide, ?_⟩; rw [Int.tmod_eq_emod_of_nonneg (by omega), show (n0 : Int) % 11 = ((n0 % 11 : Nat) : Int) by omega, hn])
    | (rw [if_neg hz0] at hn; rw [decide_eq_false hz0]; (conv => whnf); rw [hn])
    conv => whnf
   all_goals
    refine ja6 0 [] rfl rfl rfl rfl (fun _ => hp2) ?_;rintro o r ⟨ho, rfl⟩;cases ho;conv => whnf
    exact ⟨rfl, _, rfl, jb1 (f := .mk 5 k8 eB []) rfl⟩
  ·refine ⟨.mk 6 k8 eB [], i + 2, .can _ _ hlt2, by omega, by omega, fun κ ka kb => by have p0 := p0 κ; have p1 := p1 κ; have pe2 := pe2 κ; have p2 := p2 κ; rw [jxD]; omega, ?_⟩;refine gw ?_;refine ja8 (ja4 jgc (fun _ => [0]) 1) (fun _ _ h => h) Tryz.func75 rfl (by kernel_rfl) rfl (by kernel_rfl) ?_;intro hok;conv => whnf
   refine ja6 0 [] rfl rfl rfl rfl (fun _ => hp) ?_;rintro o r ⟨ho, rfl⟩;cases ho;conv => whnf
   by_cases hz0 : z <= 0
   all_goals
    first
    | (rw [if_pos hz0] at hn; rw [decide_eq_true hz0]; (conv => whnf); refine ⟨by decide, ?_⟩; rw [Int.tmod_eq_emod_of_nonneg (by omega), show (n0 : Int) % 11 = ((n0 % 11 : Nat) : Int) by omega, hn])
    | (rw [if_neg hz0] at hn; rw [decide_eq_false hz0]; (conv => whnf); rw [hn])
    conv => whnf
   all_goals
    refine ja6 0 [] rfl rfl rfl rfl (fun _ => hp2) ?_;rintro o r ⟨ho, rfl⟩;cases ho;conv => whnf
    exact ⟨rfl, _, rfl, jb1 (f := .mk 6 k8 eB []) rfl⟩
 by_cases hD : n = 7
 ·subst hD;refine ⟨.mk 7 0 eB [], i + 1, .syn _, by omega, by omega, fun κ ka kb => by have p0 := p0 κ; have p1 := p1 κ; have pe2 := pe2 κ; have p2 := p2 κ; rw [jxJ]; omega, ?_⟩;refine gw ?_;refine ja8 (ja4 jgc (fun _ => [0]) 1) (fun _ _ h => h) Tryz.func75 rfl (by kernel_rfl) rfl (by kernel_rfl) ?_;intro hok;conv => whnf
  refine ja6 0 [] rfl rfl rfl rfl (fun _ => hp) ?_;rintro o r ⟨ho, rfl⟩;cases ho;conv => whnf
  by_cases hz0 : z <= 0
  all_goals
   first
   | (rw [if_pos hz0] at hn; rw [decide_eq_true hz0]; (conv => whnf); refine ⟨by decide, ?_⟩; rw [Int.tmod_eq_emod_of_nonneg (by omega), show (n0 : Int) % 11 = ((n0 % 11 : Nat) : Int) by omega, hn])
   | (rw [if_neg hz0] at hn; rw [decide_eq_false hz0]; (conv => whnf); rw [hn])
   conv => whnf
  all_goals
   exact ⟨rfl, _, rfl, jb1 (f := .mk 7 0 eB []) rfl⟩
 by_cases hE : n = 8
 ·subst hE
  obtain ⟨f, i2, hf, g1, g2, w1, hs1⟩ := jgQ l 0 hl (i + 1) 0 (by omega) (by omega) (by omega) (by omega)
  have w1 := fun κ ka kb => jer (by omega) (w1 κ ka kb)
  obtain ⟨g, i3, hg, g3, g4, w2, hs2⟩ := jgQ l 1 hl i2 1 (by omega) (by omega) (by omega) (by omega)
  have w2 := fun κ ka kb => jer (by omega) (w2 κ ka kb)
  refine ⟨.mk 8 0 eB [f, g], i3, .rep _ _ _ hf hg, by omega, by omega, fun κ ka kb => by have p0 := p0 κ; have p1 := p1 κ; have pe2 := pe2 κ; have p2 := p2 κ; have w1 := w1 κ ka kb; have w2 := w2 κ ka kb; rw [jxG]; omega, ?_⟩;refine gw ?_;refine ja8 (ja4 jgc (fun _ => [0]) 1) (fun _ _ h => h) Tryz.func75 rfl (by kernel_rfl) rfl (by kernel_rfl) ?_;intro hok;conv => whnf
  refine ja6 0 [] rfl rfl rfl rfl (fun _ => hp) ?_;rintro o r ⟨ho, rfl⟩;cases ho;conv => whnf
  by_cases hz0 : z <= 0
  all_goals
   first
   | (rw [if_pos hz0] at hn; rw [decide_eq_true hz0]; (conv => whnf); refine ⟨by decide, ?_⟩; rw [Int.tmod_eq_emod_of_nonneg (by omega), show (n0 : Int) % 11 = ((n0 % 11 : Nat) : Int) by omega, hn])
   | (rw [if_neg hz0] at hn; rw [decide_eq_false hz0]; (conv => whnf); rw [hn])
   conv => whnf
  all_goals
   refine ja6 0 [] rfl rfl rfl rfl (fun _ => hs1) ?_;rintro o r ⟨ho, rfl⟩;cases ho;conv => whnf
   refine ja6 0 [] rfl rfl rfl rfl (fun _ => hs2) ?_;rintro o r ⟨ho, rfl⟩;cases ho;conv => whnf
   exact ⟨rfl, _, rfl, by rw [jcC]; exact jaR _⟩
 by_cases hF : n = 9
 ·subst hF
  obtain ⟨f, i2, hf, g1, g2, w1, hs1⟩ := jgQ l 1 hl (i + 1) 1 (by omega) (by omega) (by omega) (by omega)
  have w1 := fun κ ka kb => jer (by omega) (w1 κ ka kb)
  refine ⟨.mk 9 0 eB [f], i2, .fai _ _ hf, by omega, by omega, fun κ ka kb => by have p0 := p0 κ; have p1 := p1 κ; have pe2 := pe2 κ; have p2 := p2 κ; have w1 := w1 κ ka kb; rw [jxE]; omega, ?_⟩;refine gw ?_;refine ja8 (ja4 jgc (fun _ => [0]) 1) (fun _ _ h => h) Tryz.func75 rfl (by kernel_rfl) rfl (by kernel_rfl) ?_;intro hok;conv => whnf
  refine ja6 0 [] rfl rfl rfl rfl (fun _ => hp) ?_;rintro o r ⟨ho, rfl⟩;cases ho;conv => whnf
  by_cases hz0 : z <= 0
  all_goals
   first
   | (rw [if_pos hz0] at hn; rw [decide_eq_true hz0]; (conv => whnf); refine ⟨by decide, ?_⟩; rw [Int.tmod_eq_emod_of_nonneg (by omega), show (n0 : Int) % 11 = ((n0 % 11 : Nat) : Int) by omega, hn])
   | (rw [if_neg hz0] at hn; rw [decide_eq_false hz0]; (conv => whnf); rw [hn])
   conv => whnf
  all_goals
   refine ja6 0 [] rfl rfl rfl rfl (fun _ => hs1) ?_;rintro o r ⟨ho, rfl⟩;cases ho;conv => whnf
   exact ⟨rfl, _, rfl, by rw [jbP]; exact jaR _⟩
 by_cases hG : n = 10
 ·subst hG
  have hp2 := jd2 l (i + 1) 3 (by omega) (by decide)
  have hlt2 := jd6 l (i + 1) (m := 3) (by decide)
  generalize pk l (i + 1) 3 = k8 at *
  by_cases hk : 0 < k8
  ·obtain ⟨s, hs1, ⟨hz3, _⟩, hp3⟩ := jyz l (i + 1 + 1) (by omega)
   obtain ⟨f, i2, hf, g1, g2, w1, hs⟩ := jgQ l 1 hl (i + 1 + 1 + 1) 1 (by omega) (by omega) (by omega) (by omega)
   have w1 := fun κ ka kb => jer (by omega) (w1 κ ka kb)
   refine ⟨.mk 1 0 s [f], i2, .asg _ _ _ _ hs1 hf (by decide), by omega, by omega, fun κ ka kb => by have p0 := p0 κ; have p1 := p1 κ; have pe2 := pe2 κ; have p2 := p2 κ; have w1 := w1 κ ka kb; rw [ju9]; omega, ?_⟩;refine gw ?_;refine ja8 (ja4 jgc (fun _ => [0]) 1) (fun _ _ h => h) Tryz.func75 rfl (by kernel_rfl) rfl (by kernel_rfl) ?_;intro hok;conv => whnf
   refine ja6 0 [] rfl rfl rfl rfl (fun _ => hp) ?_;rintro o r ⟨ho, rfl⟩;cases ho;conv => whnf
   by_cases hz0 : z <= 0
   all_goals
    first
    | (rw [if_pos hz0] at hn; rw [decide_eq_true hz0]; (conv => whnf); refine ⟨by decide, ?_⟩; rw [Int.tmod_eq_emod_of_nonneg (by omega), show (n0 : Int) % 11 = ((n0 % 11 : Nat) : Int) by omega, hn])
    | (rw [if_neg hz0] at hn; rw [decide_eq_false hz0]; (conv => whnf); rw [hn])
    conv => whnf
   all_goals
    refine ja6 0 [] rfl rfl rfl rfl (fun _ => hp2) ?_;rintro o r ⟨ho, rfl⟩;cases ho;conv => whnf
    rw [decide_eq_true (show 0 < (k8 : Int) by omega)];conv => whnf
    refine ja6 0 [] rfl rfl rfl rfl (fun _ => hp3) ?_;rintro o r ⟨ho, rfl⟩;cases ho;conv => whnf
    refine ja6 0 [] rfl rfl rfl rfl (fun _ => hs) ?_;rintro o r ⟨ho, rfl⟩;cases ho;conv => whnf
    exact ⟨rfl, _, rfl, by rw [jbP]; exact jaR _⟩
  ·refine ⟨.mk 10 0 eB [], i + 2, .stp _, by omega, by omega, fun κ ka kb => by have p0 := p0 κ; have p1 := p1 κ; have pe2 := pe2 κ; have p2 := p2 κ; rw [jxI]; omega, ?_⟩;refine gw ?_;refine ja8 (ja4 jgc (fun _ => [0]) 1) (fun _ _ h => h) Tryz.func75 rfl (by kernel_rfl) rfl (by kernel_rfl) ?_;intro hok;conv => whnf
   refine ja6 0 [] rfl rfl rfl rfl (fun _ => hp) ?_;rintro o r ⟨ho, rfl⟩;cases ho;conv => whnf
   by_cases hz0 : z <= 0
   all_goals
    first
    | (rw [if_pos hz0] at hn; rw [decide_eq_true hz0]; (conv => whnf); refine ⟨by decide, ?_⟩; rw [Int.tmod_eq_emod_of_nonneg (by omega), show (n0 : Int) % 11 = ((n0 % 11 : Nat) : Int) by omega, hn])
    | (rw [if_neg hz0] at hn; rw [decide_eq_false hz0]; (conv => whnf); rw [hn])
    conv => whnf
   all_goals
    refine ja6 0 [] rfl rfl rfl rfl (fun _ => hp2) ?_;rintro o r ⟨ho, rfl⟩;cases ho;conv => whnf
    rw [decide_eq_false (show ¬ 0 < (k8 : Int) by omega)];conv => whnf
    exact ⟨rfl, _, rfl, jb1 (f := .mk 10 0 eB []) rfl⟩
 have hzp : 0 < z := by
  by_cases h : 0 < z
  ·exact h
  ·have := hn6 (by omega); omega
 obtain ⟨e, rfl⟩ : ∃ e, d = e + 1 := ⟨d - 1, by omega⟩
 have ihe := ih e rfl
 unfold bS at hi
 by_cases hH : n = 11
 ·subst hH
  obtain ⟨f, i2, hf, g1, g2, w1, hs1⟩ := jq5 l 1 hl (i + 1) 1 (by omega) (by omega) (by omega) (by omega)
  have w1 := fun κ ka kb => jer (by omega) (w1 κ ka kb)
  have p3 := fun κ => jcP κ i2
  obtain ⟨k, i3, q1, q2, g3, g4, ⟨w2, w3⟩, hs2⟩ := ihe hl i2 2 (z - 1) (by omega) (by omega) (by omega) (by omega) (by omega)
  refine ⟨.mk 3 0 eB [f, jeA k], i3, .whi _ _ _ hf q1 q2, by omega, by unfold bS; omega, fun κ ka kb => by have p0 := p0 κ; have p1 := p1 κ; have pe2 := pe2 κ; have p2 := p2 κ; have w1 := w1 κ ka kb; have w2 := w2 κ ka kb; have p3 := p3 κ; have hm2 := jxV (4 + 4 * κ) q1; rw [jxL, jom]; omega, ?_⟩;refine gw ?_;refine ja8 (ja4 jgc (fun _ => [0]) 1) (fun _ _ h => h) Tryz.func75 rfl (by kernel_rfl) rfl (by kernel_rfl) ?_;intro hok;conv => whnf
  refine ja6 0 [] rfl rfl rfl rfl (fun _ => hp) ?_;rintro o r ⟨ho, rfl⟩;cases ho;conv => whnf
  by_cases hz0 : z <= 0
  all_goals
   first
   | (rw [if_pos hz0] at hn; rw [decide_eq_true hz0]; (conv => whnf); refine ⟨by decide, ?_⟩; rw [Int.tmod_eq_emod_of_nonneg (by omega), show (n0 : Int) % 11 = ((n0 % 11 : Nat) : Int) by omega, hn])
   | (rw [if_neg hz0] at hn; rw [decide_eq_false hz0]; (conv => whnf); rw [hn])
   conv => whnf
  ·exact absurd hz0 (by omega)
  refine ja6 0 [] rfl rfl rfl rfl (fun _ => hs1) ?_;rintro o r ⟨ho, rfl⟩;cases ho;conv => whnf
  refine ⟨jam (by omega), ?_⟩;conv => whnf
  refine ja6 0 [] rfl rfl rfl rfl (fun _ => hs2) ?_;rintro o r ⟨ho, rfl⟩;cases ho;conv => whnf
  exact ⟨rfl, _, rfl, by rw [jcC]; exact jaR _⟩
 obtain ⟨f, i2, hf, g1, g2, w1, hs1⟩ := jq5 l 2 hl (i + 1) 2 (by omega) (by omega) (by omega) (by omega)
 have w1 := fun κ ka kb => jer (by omega) (w1 κ ka kb)
 have p3 := fun κ => jcP κ i2
 obtain ⟨k, i3, q1, q2, g3, g4, ⟨w2, w3⟩, hs2⟩ := ihe hl i2 2 (z - 1) (by omega) (by omega) (by omega) (by omega) (by omega)
 have hp2 := jd2 l i3 2 (by omega) (by decide)
 have hlt2 := jd6 l i3 (m := 2) (by decide)
 generalize pk l i3 2 = k8 at *
 by_cases hk : k8 = 1
 ·have p4 := fun κ => jcP κ i3
  have p5 := fun κ => jcP κ (i3 + 1)
  obtain ⟨m, i4, q3, q4, g5, g6, ⟨w4, w5⟩, hs3⟩ := ihe hl (i3 + 1) 2 (z - 1) (by omega) (by omega) (by omega) (by omega) (by omega)
  refine ⟨.mk 2 0 eB [f, jeA k, jeA m], i4, .iff _ _ _ _ hf q1 q2 q3 q4, by omega, by unfold bS; omega, fun κ ka kb => by have p0 := p0 κ; have p1 := p1 κ; have pe2 := pe2 κ; have p2 := p2 κ; have p3 := p3 κ; have p4 := p4 κ; have p5 := p5 κ; have w1 := w1 κ ka kb; have w2 := w2 κ ka kb; have w4 := w4 κ ka kb; have hif := jua κ f k m; have hm2 := jxV (4 + 4 * κ) q1; have hm3 := jxV (4 + 4 * κ) q3; omega, ?_⟩
  rcases (by omega : n = 12 ∨ n = 13) with rfl | rfl
  all_goals
   refine gw ?_;refine ja8 (ja4 jgc (fun _ => [0]) 1) (fun _ _ h => h) Tryz.func75 rfl (by kernel_rfl) rfl (by kernel_rfl) ?_;intro hok;conv => whnf
   refine ja6 0 [] rfl rfl rfl rfl (fun _ => hp) ?_;rintro o r ⟨ho, rfl⟩;cases ho;conv => whnf
   by_cases hz0 : z <= 0
   all_goals
    first
    | (rw [if_pos hz0] at hn; rw [decide_eq_true hz0]; (conv => whnf); refine ⟨by decide, ?_⟩; rw [Int.tmod_eq_emod_of_nonneg (by omega), show (n0 : Int) % 11 = ((n0 % 11 : Nat) : Int) by omega, hn])
    | (rw [if_neg hz0] at hn; rw [decide_eq_false hz0]; (conv => whnf); rw [hn])
    conv => whnf
   ·exact absurd hz0 (by omega)
   refine ja6 0 [] rfl rfl rfl rfl (fun _ => hs1) ?_;rintro o r ⟨ho, rfl⟩;cases ho;conv => whnf
   refine ⟨jam (by omega), ?_⟩;conv => whnf
   refine ja6 0 [] rfl rfl rfl rfl (fun _ => hs2) ?_;rintro o r ⟨ho, rfl⟩;cases ho;conv => whnf
   refine ja6 0 [] rfl rfl rfl rfl (fun _ => hp2) ?_;rintro o r ⟨ho, rfl⟩;cases ho;conv => whnf
   rw [decide_eq_true (show (k8 : Int) = 1 by omega)];conv => whnf
   refine ⟨jam (by omega), ?_⟩;conv => whnf
   refine ja6 0 [] rfl rfl rfl rfl (fun _ => hs3) ?_;rintro o r ⟨ho, rfl⟩;cases ho;conv => whnf
   exact ⟨rfl, _, rfl, by rw [jdx]; exact jaR _⟩
 ·have p4 := fun κ => jcP κ i3
  refine ⟨.mk 2 0 eB [f, jeA k, jeA []], i3 + 1, .iff _ _ _ _ hf q1 q2 (by decide) (by simp), by omega, by unfold bS; omega, fun κ ka kb => by have p0 := p0 κ; have p1 := p1 κ; have pe2 := pe2 κ; have p2 := p2 κ; have p3 := p3 κ; have p4 := p4 κ; have w1 := w1 κ ka kb; have w2 := w2 κ ka kb; have hif := (jua κ f k []).2 rfl; have hm2 := jxV (4 + 4 * κ) q1; omega, ?_⟩
  rcases (by omega : n = 12 ∨ n = 13) with rfl | rfl
  all_goals
   refine gw ?_;refine ja8 (ja4 jgc (fun _ => [0]) 1) (fun _ _ h => h) Tryz.func75 rfl (by kernel_rfl) rfl (by kernel_rfl) ?_;intro hok;conv => whnf
   refine ja6 0 [] rfl rfl rfl rfl (fun _ => hp) ?_;rintro o r ⟨ho, rfl⟩;cases ho;conv => whnf
   by_cases hz0 : z <= 0
   all_goals
    first
    | (rw [if_pos hz0] at hn; rw [decide_eq_true hz0]; (conv => whnf); refine ⟨by decide, ?_⟩; rw [Int.tmod_eq_emod_of_nonneg (by omega), show (n0 : Int) % 11 = ((n0 % 11 : Nat) : Int) by omega, hn])
    | (rw [if_neg hz0] at hn; rw [decide_eq_false hz0]; (conv => whnf); rw [hn])
    conv => whnf
   ·exact absurd hz0 (by omega)
   refine ja6 0 [] rfl rfl rfl rfl (fun _ => hs1) ?_;rintro o r ⟨ho, rfl⟩;cases ho;conv => whnf
   refine ⟨jam (by omega), ?_⟩;conv => whnf
   refine ja6 0 [] rfl rfl rfl rfl (fun _ => hs2) ?_;rintro o r ⟨ho, rfl⟩;cases ho;conv => whnf
   refine ja6 0 [] rfl rfl rfl rfl (fun _ => hp2) ?_;rintro o r ⟨ho, rfl⟩;cases ho;conv => whnf
   rw [decide_eq_false (show ¬ (k8 : Int) = 1 by omega)];conv => whnf
   exact ⟨rfl, _, rfl, by rw [jdx]; exact jza f (jeA k)⟩
inductive Chn (l : List Int) (z : Int) : Nat -> List Nt -> Nat -> Prop
 | nil (i : Nat) : Chn l z i [] i
 | cons (i i1 i2 : Nat) (f : Nt) (ss : List Nt) (h : Spec Tryz.prog 75 [bxG l i] [.box 0 0, .v (.int .i64 z)] fun o r => o = [bxG l i1] /\ r = .agg (ntA f)) (k : Chn l z i1 ss i2) : Chn l z i (f :: ss) i2
theorem jtA {l : List Int} {d : Nat} (hS : jw2 l d) (hl : l.length <= 70) {z : Int} (hz : z.toNat = d) (h1 : 0 <= z) (h2 : z <= 5) : ∀ (k i : Nat), i + k * bS d <= 1000000000 -> ∃ ss i', ss.length = k /\ (∀ s ∈ ss, ES d s) /\ i <= i' /\ i' <= i + k * bS d /\ (∀ κ, 1 <= κ -> κ <= 7 -> wSs κ ss + phi κ i <= (4 + 4 * κ) * k + phi κ i') /\ Chn l z i ss i'
 | 0, i, _ => ⟨[], i, rfl, by simp, Nat.le_refl _, by omega, fun κ ka kb => by show 0 + phi κ i <= _; omega, .nil i⟩
 | k + 1, i, hb => by
  rw [Nat.succ_mul] at hb
  obtain ⟨f, i1, hf, g1, g2, w1, hs⟩ := hS hl i z hz h1 h2 (by omega)
  obtain ⟨ss, i2, e1, e2, g3, g4, w2, hc⟩ := jtA hS hl hz h1 h2 k i1 (by omega)
  refine ⟨f :: ss, i2, by rw [List.length_cons, e1], fun s hs => ?_, by omega, by rw [Nat.succ_mul]; omega, fun κ ka kb => by have w1 := w1 κ ka kb; have w2 := w2 κ ka kb; rw [wSs, Nat.mul_succ]; omega, .cons _ _ _ _ _ hs hc⟩
  rcases List.mem_cons.1 hs with rfl | hs
  ·exact hf
  ·exact e2 s hs
set_option maxHeartbeats 1000000 in
theorem jzh (l : List Int) (d : Nat) (hS : jw2 l d) : jy7 l d := fun hl i m z hz h1 h2 hm hi => by
 have hp := jd2 l i (m + 1) (by omega) (by omega)
 have hlt := jd6 l i (m := m + 1) (by omega)
 have ho := jh8 l i (m + 1) hl
 generalize pk l i (m + 1) = k at *
 have hkm : k * bS d <= m * bS d := Nat.mul_le_mul_right _ (by omega)
 obtain ⟨ss, i2, e1, e2, g3, g4, w2, hc⟩ := jtA hS hl hz h1 h2 k (i + 1) (by omega)
 refine ⟨ss, i2, by omega, e2, by omega, by omega, ⟨fun κ ka kb => by rw [e1]; exact w2 κ ka kb, by omega⟩, ?_⟩;refine ja8 (ja4 jyY (fun _ => [0]) 1) (fun _ _ h => h) Tryz.func38 rfl (by kernel_rfl) rfl (by kernel_rfl) ?_;intro hok;conv => whnf
 refine ⟨jam (by omega), ?_⟩;conv => whnf
 refine ja6 0 [] rfl rfl rfl rfl (fun _ => hp) ?_;rintro o r ⟨ho, rfl⟩;cases ho;conv => whnf
 refine jbT 65 4 [] [(2, 3)] ?_;conv => whnf
 refine ⟨trivial, ?_⟩;conv => whnf
 refine ja5 [0, 1, 6, 7] ?_;conv => whnf
 refine jaj (fun x : List Nt × List Nt × Nat => [(8, .v (.int .i64 x.2.1.length))]) (fun x => [bxG l x.2.2, jtu, [intA 11, intA 0, jbn ⟨#[]⟩, .own 0]]) (fun x => [.live 65 4 x.1.length (jdi x.1)]) (fun x => x.1 ++ x.2.1 = ss /\ Chn l z x.2.2 x.2.1 i2) (fun x => x.2.1.length) ([], ss, i + 1) ?_ ⟨rfl, hc⟩ ?_
 ·rw [<- e1]
  repeat' constructor
  show Row.live _ _ _ _ = Row.live _ 4 0 (jdi [])
  rw [jbq]
 rintro ⟨acc, rem, j⟩ ⟨hacc, hch⟩
 simp only at hacc hch
 conv => whnf
 cases hch with
 | nil =>
  rw [List.append_nil] at hacc;conv => whnf
  rw [<- hacc];exact ⟨rfl, rfl⟩
 | cons _ i1 _ f rem hs hch =>
  have hln : acc.length + (rem.length + 1) = ss.length := by rw [<- hacc, List.length_append, List.length_cons]
  rw [show ((f :: rem).length : Int) = (rem.length : Int) + 1 by simp];rw [decide_eq_true (show 0 < (rem.length : Int) + 1 by omega)];conv => whnf
  refine ja6 0 [] rfl rfl rfl rfl (fun _ => hs) ?_;rintro o r ⟨ho, rfl⟩;cases ho;conv => whnf
  refine ⟨⟨by simp only; unfold maxLen; omega, by simp only; omega⟩, ?_⟩;conv => whnf
  refine ⟨jam (by omega), ?_⟩;rw [show (rem.length : Int) + 1 - 1 = rem.length by omega];conv => whnf
  refine ⟨(acc ++ [f], rem, i1), ja1 [0] ?_, ⟨by simp only; rw [List.append_assoc]; exact hacc, hch⟩, by simp only [List.length_cons]; omega⟩;conv => whnf
  simp only [List.length_append, List.length_cons, List.length_nil];rw [jh0]
  repeat' constructor
theorem jz3 (l : List Int) (most : Nat) (hm : most <= 1000) : Spec Tryz.prog 36 [] [.sl 1 l.length (jbE l), .v (.int .i64 most)] fun _ r => r = .sl 1 (l.take most).length (jbE (l.take most)) := by
 refine ja8 (ja4 jb4 xs0 0) (fun _ _ h => h) Tryz.func36 rfl (by kernel_rfl) rfl (by kernel_rfl) ?_;intro hok
 have e1 : (min (l.length : Int) (most : Int)).toNat - Int.toNat 0 = (l.take most).length := by rw [List.length_take]; omega
 have e2 : List.take ((l.take most).length * 1) (List.drop (Int.toNat 0 * 1) (jbE l)) = jbE (l.take most) := by
  rw [Nat.mul_one, List.length_take];simp only [jbE, Int.toNat_zero, Nat.zero_mul, List.drop_zero];rw [<- List.map_take]
  congr 1
  rcases Nat.le_total most l.length with h | h
  ·rw [Nat.min_eq_left h]
  ·rw [Nat.min_eq_right h, List.take_of_length_le h, List.take_of_length_le (Nat.le_refl _)]
 have e3 : (l.take most).length <= most := by rw [List.length_take]; omega
 conv => whnf
 (refine goA ?_; try with_reducible exact trivial)
 rw [e1, e2];generalize l.take most = L at *;refine ⟨⟨by unfold maxLen; omega, by omega⟩, ?_⟩;conv => whnf
 rfl
theorem jzg (l : List Int) : ∀ d, jw2 l d /\ jy7 l d
 | 0 => ⟨jyx l 0 fun e h => by omega, jzh l 0 (jyx l 0 fun e h => by omega)⟩
 | d + 1 => by
  have h1 : jw2 l (d + 1) := jyx l (d + 1) fun e h => by
   obtain rfl : d = e := by omega
   exact (jzg l d).2
  exact ⟨h1, jzh l (d + 1) h1⟩
def hnG (l : List Int) (j i : Nat) : Int := match j with
 | 0 => 0
 | 1 => 1
 | 2 => 2 + pk l (i + 1) 8
 | _ => 10 + pk l (i + 1 + 1) 30
inductive PCh (l : List Int) : Nat -> Nat -> List (Int × Nt) -> Prop
 | nil (i : Nat) : PCh l 4 i []
 | skip (j i : Nat) (hs : List (Int × Nt)) (hj : j < 4) (hi : i <= 900000000) (hp : pk l i 5 = 0) (k : PCh l (j + 1) (i + 1) hs) : PCh l j i hs
 | take (j i i2 : Nat) (b : Nt) (hs : List (Int × Nt)) (hj : j < 4) (hi : i <= 900000000) (hp : 0 < pk l i 5) (h : Spec Tryz.prog 38 [bxG l (i + 1 + 1 + 1)] [.box 0 0, .v (.int .i64 2), .v (.int .i64 3)] fun o r => o = [bxG l i2] /\ r = .agg (ntA b)) (k : PCh l (j + 1) i2 hs) : PCh l j i ((hnG l j i, b) :: hs)
def EK (b : Nt) : Prop := ∃ k, b = jeA k /\ k.length <= 3 /\ ∀ s ∈ k, ES 2 s
def loG : Nat -> Int
 | 0 => 0
 | 1 => 1
 | 2 => 2
 | 3 => 10
 | _ => 40
def EHs (j : Nat) (hs : List (Int × Nt)) : Prop := (∀ h ∈ hs, loG j <= h.1 /\ h.1 < 40 /\ EK h.2) /\ hs.Pairwise (fun a b => a.1 < b.1) /\ hs.length + j <= 4
theorem jzF (c : Nat) {n : Nat} (h : n <= 3) : (n = 0 /\ c * n = 0) ∨ (n ≠ 0 /\ c * n <= 3 * c) := by
 rcases (by omega : n = 0 ∨ n = 1 ∨ n = 2 ∨ n = 3) with rfl | rfl | rfl | rfl <;> omega
theorem jqQ (l : List Int) (hl : l.length <= 70) : ∀ (k j i : Nat), j + k = 4 -> i + k * 5000 <= 800000000 -> ∃ hs, EHs j hs /\ (∀ κ, 1 <= κ -> κ <= 7 -> wHs κ hs + phi κ i <= (4 * κ + 12) * 70 + 6 * κ + 18) /\ PCh l j i hs
 | 0, j, i, hj, hb => by
  obtain rfl : j = 4 := by omega
  exact ⟨[], ⟨by simp, .nil, by decide⟩, fun κ ka kb => by have := (jms κ i).1; show 0 + phi κ i <= _; omega, .nil i⟩
 | k + 1, j, i, hj, hb => by
  rw [Nat.succ_mul] at hb
  have hjs : j = 0 ∨ j = 1 ∨ j = 2 ∨ j = 3 := by omega
  have hlo : loG j <= loG (j + 1) := by rcases hjs with rfl | rfl | rfl | rfl <;> decide
  by_cases hp : pk l i 5 = 0
  ·obtain ⟨hs, ⟨e1, e2, e3⟩, w1, hc⟩ := jqQ l hl k (j + 1) (i + 1) (by omega) (by omega)
   exact ⟨hs, ⟨fun h hh => ⟨by have := (e1 h hh).1; omega, (e1 h hh).2⟩, e2, by omega⟩, fun κ ka kb => by have := (jcP κ i).1; have w1 := w1 κ ka kb; omega, .skip _ _ _ (by omega) (by omega) hp hc⟩
  ·have hS : bS 2 = 1270 := rfl
   have ho := jh8 l i 5 hl
   obtain ⟨b, i2, q1, q2, g1, g2, ⟨w2, w3⟩, hs⟩ := (jzg l 2).2 hl (i + 1 + 1 + 1) 3 2 rfl (by decide) (by decide) (by decide) (by omega)
   obtain ⟨hs2, ⟨e1, e2, e3⟩, w1, hc⟩ := jqQ l hl k (j + 1) i2 (by omega) (by omega)
   have hn : loG j <= hnG l j i /\ hnG l j i < loG (j + 1) := by
    have p8 := jd6 l (i + 1) (m := 8) (by decide)
    have p30 := jd6 l (i + 1 + 1) (m := 30) (by decide)
    rcases hjs with rfl | rfl | rfl | rfl <;> simp only [loG, hnG] <;> omega
   have hl4 : loG (j + 1) <= 40 := by rcases hjs with rfl | rfl | rfl | rfl <;> decide
   refine ⟨_, ⟨fun h hh => ?_, List.pairwise_cons.2 ⟨fun b hb => ?_, e2⟩, by rw [List.length_cons]; omega⟩, fun κ ka kb => by have p0 := jcP κ i; have p1 := jcP κ (i + 1); have p2 := jcP κ (i + 1 + 1); have p3 := jcP κ (i + 1 + 1 + 1); have p4 := jms κ i; have p5 := jms κ (i + 1 + 1 + 1 + 1); have w1 := w1 κ ka kb; have w2 := w2 κ ka kb; have hm := jzF (4 + 4 * κ) q1; rw [wHs, jom]; omega, .take j i i2 (jeA b) hs2 (by omega) (by omega) (by omega) hs hc⟩
   ·rcases List.mem_cons.1 hh with rfl | hh
    ·exact ⟨hn.1, by simp only; omega, b, rfl, q1, q2⟩
    ·exact ⟨by have := (e1 h hh).1; omega, (e1 h hh).2⟩
   ·have := (e1 b hb).1
    simp only; omega
def duL : List ByteArray := [⟨#[100]⟩, ⟨#[100, 100, 49]⟩]
def voL : List ByteArray := [⟨#[118]⟩, ⟨#[119, 50]⟩]
def GU (u : Ut) : Prop := u.du = duL /\ u.vo = voL /\ EHs 0 u.on
def GW (u : Ut) : Prop := GU u /\ ∀ κ, 1 <= κ -> κ <= 7 -> wHs κ u.on <= (4 * κ + 12) * 70 + 6 * κ + 18
set_option maxHeartbeats 1000000 in
theorem jwF (l : List Int) : ∃ u, GW u /\ Spec Tryz.prog 11 [] [.sl 1 l.length (jbE l)] fun _ r => r = .agg (utA u) := by
 have hin := jz3 l 70 (by decide)
 obtain ⟨hs, hE, hW, hc⟩ := jqQ (l.take 70) (by rw [List.length_take]; omega) 4 0 0 rfl (by decide)
 refine ⟨⟨duL, voL, hs⟩, ⟨⟨rfl, rfl, hE⟩, fun κ ka kb => by have := hW κ ka kb; show wHs κ hs <= _; omega⟩, ?_⟩;clear hW
 have hlen := hE.2.2
 generalize l.take 70 = L at *;refine ja8 (ja4 jyU (fun _ => [1]) 0) (fun _ _ h => h) Tryz.func11 rfl (by kernel_rfl) rfl (by kernel_rfl) ?_;intro hok;conv => whnf
 refine jaw [] rfl (fun _ => hin) ?_;rintro r rfl;conv => whnf
 refine jbT 67 5 [] [(2, 2)] ?_;conv => whnf
 refine ⟨trivial, ?_⟩;conv => whnf
 refine ja5 [2, 3, 4] ?_;conv => whnf
 refine jaj (fun x : Nat × Nat × List (Int × Nt) × List (Int × Nt) => [(5, .v (.int .i64 x.1))]) (fun x => [jjJ, bxG L x.2.1, [.own 0, .own 1, .own 2]]) (fun x => [.live 9 1 2 (txA duL), .live 9 1 2 (txA voL), .live 67 5 x.2.2.1.length (jgT x.2.2.1)]) (fun x => x.2.2.1 ++ x.2.2.2 = hs /\ PCh L x.1 x.2.1 x.2.2.2) (fun x => 4 - x.1) (0, 0, [], hs) ?_ ⟨rfl, hc⟩ ?_
 ·repeat' constructor
  show Row.live _ _ _ _ = Row.live _ 5 0 (jgT [])
  rw [jns]
 rintro ⟨j, i, acc, rem⟩ ⟨hacc, hch⟩
 simp only at hacc hch
 have hal : acc.length <= 4 := by
  have := congrArg List.length hacc
  rw [List.length_append] at this;omega
 clear hin hc;conv => whnf
 cases hch with
 | nil =>
  conv => whnf
  rw [List.append_nil] at hacc;rw [<- hacc];rfl
 | skip _ _ _ hj hi hp hch =>
  have hpk := jd2 L i 5 (by omega) (by decide)
  rw [hp] at hpk;rw [decide_eq_true (show (j : Int) < 4 by omega)];conv => whnf
  refine ja6 1 [] rfl rfl rfl rfl (fun _ => hpk) ?_;rintro o r ⟨ho, rfl⟩;cases ho;conv => whnf
  refine ⟨jam (by omega), ?_⟩;conv => whnf
  refine ⟨(j + 1, i + 1, acc, rem), ja1 [0, 1, 2] ?_, ⟨hacc, hch⟩, by simp only; omega⟩;conv => whnf
  repeat' constructor
 | take _ _ i2 b rem hj hi hp hs hch =>
  have hpk := jd2 L i 5 (by omega) (by decide)
  have hp8 := jd2 L (i + 1) 8 (by omega) (by decide)
  have hp30 := jd2 L (i + 1 + 1) 30 (by omega) (by decide)
  have l8 := jd6 L (i + 1) (m := 8) (by decide)
  have l30 := jd6 L (i + 1 + 1) (m := 30) (by decide)
  obtain ⟨nn, hnn⟩ : ∃ nn, hnG L j i = nn := ⟨_, rfl⟩
  rw [hnn] at hacc;unfold hnG at hnn;generalize pk L i 5 = k5 at *;generalize pk L (i + 1) 8 = k8 at *;generalize pk L (i + 1 + 1) 30 = k30 at *;rw [decide_eq_true (show (j : Int) < 4 by omega)];conv => whnf
  refine ja6 1 [] rfl rfl rfl rfl (fun _ => hpk) ?_;rintro o r ⟨ho, rfl⟩;cases ho;conv => whnf
  rw [decide_eq_true (show 0 < (k5 : Int) by omega)];conv => whnf
  refine ja6 1 [] rfl rfl rfl rfl (fun _ => hp8) ?_;rintro o r ⟨ho, rfl⟩;cases ho;conv => whnf
  refine ⟨jam (by omega), ?_⟩;conv => whnf
  refine ja6 1 [] rfl rfl rfl rfl (fun _ => hp30) ?_;rintro o r ⟨ho, rfl⟩;cases ho;conv => whnf
  refine ⟨jam (by omega), ?_⟩;conv => whnf
  refine ⟨⟨by omega, by omega⟩, ?_⟩
  rcases (by omega : j = 0 ∨ j = 1 ∨ j = 2 ∨ j = 3) with rfl | rfl | rfl | rfl
  all_goals
   simp only at hnn
   conv => whnf
   refine ja6 1 [] rfl rfl rfl rfl (fun _ => hs) ?_;rintro o r ⟨ho, rfl⟩;cases ho;conv => whnf
   refine ⟨⟨by simp only; unfold maxLen; omega, by simp only; omega⟩, ?_⟩;conv => whnf
   refine ⟨jam (by simp only; omega), ?_⟩;conv => whnf
   subst hnn;refine ⟨(_, i2, acc ++ [(_, b)], rem), ja1 [0, 1, 2] ?_, ⟨by simp only; rw [List.append_assoc]; exact hacc, hch⟩, by simp only; omega⟩;conv => whnf
   repeat' constructor
   rw [List.length_append, jkl];rfl
end Go.Proofs.YtfbifdccmabdbaaGreatDoor.Vm
namespace Go.Proofs.YtfbifdccmabdbaaGreatDoor
open Go.RowKit
set_option linter.unusedSimpArgs false
set_option linter.unusedVariables false
set_option maxRecDepth 100000
def Asks (w : World) (c : FuncId) (cap : Array Value) (l : List Nd) (q : Nd -> Bool) : Prop :=
 (∀ args w', (callFunc c args).run Tryz.prog w' = .ok (.enter c args) w') ∧
 ∀ t ∈ l, ∀ v w', Ext w w' -> t.At w'.cell? v -> Calls Tryz.prog c (#[v] ++ cap) w' (RetV w' (.bool (q t)))
theorem Asks.use {w : World} {c : FuncId} {cap : Array Value} {l : List Nd} {q : Nd -> Bool} (h : Asks w c cap l q) (k : Nat) (hk : k < l.length) {v : Value} {w' : World} (hx : Ext w w') (ht : l[k].At w'.cell? v) :
  Calls Tryz.prog c (#[v] ++ cap) w' (RetV w' (.bool (q l[k]))) := h.2 _ (List.getElem_mem hk) v w' hx ht
theorem Asks.ext {w w1 : World} {c : FuncId} {cap : Array Value} {l : List Nd} {q : Nd -> Bool} (h : Asks w c cap l q) (x : Ext w w1) : Asks w1 c cap l q :=
 ⟨h.1, fun t ht v w' hx hA => h.2 t ht v w' (x.trans hx) hA⟩
def jef (q : Nd -> Bool) (l : List Nd) : Int := match l.findIdx? q with | some i => (i : Int) | none => -1
theorem jsv {q : Nd -> Bool} {l : List Nd} {k : Nat} (hk : k < l.length) (h : ∀ j (hj : j < k), q (l[j]'(by omega)) = false) (hq : q l[k] = true) : jef q l = (k : Int) := by
 have : l.findIdx? q = some k := by
  rw [List.findIdx?_eq_some_iff_getElem];exact ⟨hk, hq, fun j hj => by simp [h j hj]⟩
 unfold jef; rw [this]
theorem jqg {q : Nd -> Bool} {l : List Nd} (h : ∀ j (hj : j < l.length), q l[j] = false) : jef q l = -1 := by
 have : l.findIdx? q = none := by
  rw [List.findIdx?_eq_none_iff];intro x hx
  obtain ⟨j, hj, rfl⟩ := List.mem_iff_getElem.1 hx
  simp [h j hj]
 unfold jef; rw [this]
theorem jmc (q : Nd -> Bool) (l : List Nd) : decide (0 <= jef q l) = l.any q := by
 cases h : l.any q with
 | true =>
  unfold jef
  cases hf : l.findIdx? q with
  | some i => simp
  | none =>
   rw [List.findIdx?_eq_none_iff] at hf
   obtain ⟨x, hx, hq⟩ := List.any_eq_true.1 h
   rw [hf x hx] at hq; cases hq
 | false =>
  unfold jef
  cases hf : l.findIdx? q with
  | none => simp
  | some i =>
   rw [List.findIdx?_eq_some_iff_getElem] at hf
   obtain ⟨hi, hq, _⟩ := hf
   rw [List.any_eq_false] at h;exact absurd hq (h _ (List.getElem_mem hi))
theorem juJ (q : Nd -> Bool) (l : List Nd) : -1 <= jef q l /\ jef q l <= l.length := by
 unfold jef
 cases hf : l.findIdx? q with
 | none => simp
 | some i =>
  rw [List.findIdx?_eq_some_iff_getElem] at hf
  obtain ⟨hi, _⟩ := hf
  simp; omega
set_option maxHeartbeats 400000 in
theorem jj8 (l : List Nd) (sv : Value) (c : FuncId) (cap : Array Value) (w : World) (q : Nd -> Bool) (hl : NdsAt w.cell? sv l) (hf : Asks w c cap l q) :
  Calls Tryz.prog 104 #[sv, .func (.func c) #[] cap] w (RetV w (.int .i64 (jef q l))) := by
 obtain ⟨hl1, p, b, off, cp, rfl, hc, hp, hn, hin⟩ := hl
 have hcf := hf.1
 go_enter Tryz.func104, Tryz.ntmps104
 go_wp2
 go_loopw [5, 8] (fun _ i wr => ∃ k : Nat, k <= l.length /\ i = .int .i64 k /\ Ext w wr /\ ∀ j (hj : j < l.length), j < k -> q l[j] = false) (fun _ i _ => l.length - (intOf i).toNat)
 case atStart => exact ⟨0, by omega, rfl, Ext.refl _, fun j hj h => absurd h (by omega)⟩
 case round =>
  obtain ⟨k, hk, rfl, hx, hno⟩ := hrel
  have HNO : Hid (∀ j (hj : j < l.length), j < k -> q l[j] = false) := hno
  clear hno
  by_cases hlt : k < l.length
  ·obtain rfl : p = some ⟨b, off, none⟩ := by
    rcases hp with rfl | hp
    ·simp at hlt
    ·exact hp
   obtain ⟨v0, v1, v2, v3, c0, c1, c2, c3, ht⟩ := Nd.In.get l off hin k hlt
   replace c0 := hx.c c0
   replace c1 := hx.c c1
   replace c2 := hx.c c2
   replace c3 := hx.c c3
   have ht2 := Nd.At.mono hx.sub _ _ ht
   have hcall := Lib.hid (hf.use k hlt hx ht2)
   clear hin hp hn ht ht2
   obtain ⟨qk, hqk⟩ : ∃ qk, qk = q l[k] := ⟨_, rfl⟩
   have HQ : Hid (qk = q l[k]) := hqk
   rw [<- hqk] at hcall;clear hqk
   cases qk with
   | true =>
    go_wp2_with (refine hcall.out.mono ?_; rintro e w2 ⟨rfl, hx2⟩)
    go_ret
    have := jsv hlt (fun j hj => HNO.out j (by omega) hj) HQ.out.symm
    exact ⟨by rw [this]; rfl, hx.trans hx2⟩
   | false =>
    go_wp2_with (refine hcall.out.mono ?_; rintro e w2 ⟨rfl, hx2⟩)
    go_roundw
    case rel => exact ⟨k + 1, by omega, by go_num, hx.trans hx2, fun j hj h => by
     by_cases hjk : j = k
     ·subst hjk; exact HQ.out.symm
     ·exact HNO.out j hj (by omega)⟩
    case measure => simp [intOf]; omega
  ·have hkl : k = l.length := by omega
   go_wp2
   go_ret
   exact ⟨by rw [jqg (fun j hj => HNO.out j hj (by omega))]; rfl, hx⟩
set_option maxHeartbeats 400000 in
theorem jbM (l : List Nd) (sv : Value) (c : FuncId) (cap : Array Value) (w : World) (q : Nd -> Bool) (hl : NdsAt w.cell? sv l) (hf : Asks w c cap l q) :
  Calls Tryz.prog 63 #[sv, .func (.func c) #[] cap] w (RetV w (.bool (l.any q))) := by
 have h0 := jmc q l
 have h1 := juJ q l
 obtain ⟨n, hn⟩ : ∃ n, n = jef q l := ⟨_, rfl⟩
 have hcall := Lib.hid (jj8 l sv c cap w q hl hf)
 rw [<- hn] at hcall h0 h1
 obtain ⟨h2, h3⟩ := h1
 have H0 := Lib.hid h0
 clear h0 hn
 go_enter Tryz.func63, Tryz.ntmps63
 go_wp2_with (go_at_call 104; refine hcall.out.mono ?_; rintro e w2 ⟨rfl, hx2⟩)
 go_ret
 exact ⟨by rw [<- H0.out]; rfl, hx2⟩
section
def MapAt (w : World) (r : Nat) (l : List (ByteArray × Value)) : Prop :=
 ∃ es c, w.heap[r]? = some (.map es c) /\ es.toList.map (fun e => (e.key, e.val)) = l.map (fun p => (Value.string p.1, p.2))
def joN (l : List (ByteArray × Value)) (s : ByteArray) : Option Value := (l.find? (fun p => s == p.1)).map (·.2)
theorem jen (s : ByteArray) : ∀ (es : List MapEntry) (l : List (ByteArray × Value)) (i : Nat), es.map (fun e => (e.key, e.val)) = l.map (fun p => (Value.string p.1, p.2)) →
  ∃ r, Instr.findNow .string (.string s) es i = some r /\ r.map (·.2) = joN l s
 | [], [], i, _ => ⟨none, by simp [Instr.findNow], by simp [joN]⟩
 | [], _ :: _, _, h => by simp at h
 | _ :: _, [], _, h => by simp at h
 | e :: es, p :: l, i, h => by
  simp only [List.map_cons, List.cons.injEq, Prod.mk.injEq] at h
  obtain ⟨⟨h1, h2⟩, h3⟩ := h
  by_cases hs : s == p.1
  ·exact ⟨some (i, e.val), by simp [Instr.findNow, Instr.sameNow, h1, hs], by simp [joN, hs, h2]⟩
  ·obtain ⟨r, hr, hr2⟩ := jen s es l (i + 1) h3
   refine ⟨r, by simp [Instr.findNow, Instr.sameNow, h1, hs, hr], ?_⟩;rw [hr2]; simp [joN, hs]
section
variable {P : Program} {w : World} {T K E : TypeId} {r : Nat} {l : List (ByteArray × Value)} {s : ByteArray}
theorem jfK {es : Array MapEntry} {c : Nat} (h : w.heap[r]? = some (.map es c)) : (getObj r).run P w = .ok (.map es c) w := by
 simp [getObj, Sem.run, h]
theorem jtU (hK : P.underlying K = some .string) (b : Bool) (n : Nat) : (Instr.checkKey b (n + 1) K (.string s)).run P w = .ok () w := by
 simp [Instr.checkKey, run_underlying hK]
theorem jhK (hT : P.underlying T = some (.map K E)) (hK : P.underlying K = some .string) {z : Value} (hz : (zeroValue E).run P w = .ok z w) (h : MapAt w r l) :
  (Instr.lookup T (.map (some r)) (.string s) false).run P w = .ok ((joN l s).getD z) w := by
 obtain ⟨es, c, hr, hes⟩ := h
 obtain ⟨x, hx, hx2⟩ := jen s es.toList l 0 hes
 have hc : ∀ b, (Instr.checkKey b 10000 K (.string s)).run P w = .ok () w := fun b => jtU hK b 9999
 have hf : (Instr.findKey K (.string s) es.toList).run P w = .ok x w := by simp [Instr.findKey, run_underlying hK, hx]
 rw [<- hx2]
 cases x with
 | none => simp [Instr.lookup, run_underlying hT, jfK hr, hc, hf, hz, Result.andThen]
 | some y => obtain ⟨j, y⟩ := y; simp [Instr.lookup, run_underlying hT, jfK hr, hc, hf, Result.andThen]
theorem jhL (hT : P.underlying T = some (.map K E)) (hK : P.underlying K = some .string) (v : Value) (h : MapAt w r l) (hn : joN l s = none) :
  ∃ w', (Instr.mapUpdate T (.map (some r)) (.string s) v).run P w = .ok () w' /\ w.grownBy w' (some r) /\ MapAt w' r (l ++ [(s, v)]) := by
 obtain ⟨es, c, hr, hes⟩ := h
 obtain ⟨x, hx, hx2⟩ := jen s es.toList l 0 hes
 rw [hn] at hx2
 have hx0 : x = none := by cases x <;> simp_all
 subst hx0
 have hc : ∀ b, (Instr.checkKey b 10000 K (.string s)).run P w = .ok () w := fun b => jtU hK b 9999
 have hf : (Instr.findKey K (.string s) es.toList).run P w = .ok none w := by simp [Instr.findKey, run_underlying hK, hx]
 have hlt : r < w.heap.size := (Array.getElem?_eq_some_iff.1 hr).1
 refine ⟨{ w with heap := w.heap.setIfInBounds r (.map (es.push { key := .string s, val := v, born := c }) (c + 1)) }, ?_, ⟨rfl, rfl, rfl, by simp, fun k hk hne => ?_⟩, es.push { key := .string s, val := v, born := c }, c + 1, by simp [hlt], ?_⟩
 ·simp [Instr.mapUpdate, run_underlying hT, jfK hr, hc, hf, Result.andThen, setObj, Sem.run, hr]
 ·have : r ≠ k := fun e => hne (by rw [e])
  simp [Array.getElem?_setIfInBounds_ne this]
 ·simp [hes]
theorem MapAt.kept {w' : World} {row : Option Nat} (h : MapAt w r l) (g : w.grownBy w' row) (hne : some r ≠ row) : MapAt w' r l := by
 obtain ⟨es, c, hr, hes⟩ := h
 exact ⟨es, c, (g.block r (Array.getElem?_eq_some_iff.1 hr).1 hne).trans hr, hes⟩
theorem MapAt.ext {w' : World} (h : MapAt w r l) (x : Ext w w') : MapAt w' r l := by
 obtain ⟨es, c, hr, hes⟩ := h
 exact ⟨es, c, x.block hr, hes⟩
theorem MapAt.lt (h : MapAt w r l) : r < w.heap.size := by
 obtain ⟨es, c, hr, hes⟩ := h
 exact (Array.getElem?_eq_some_iff.1 hr).1
theorem MapAt.made (w : World) : MapAt (w.alloc (.map #[] 0)) w.heap.size [] := ⟨#[], 0, heap_alloc_new w _, by simp⟩
variable {o : Oper} {a : Act} {Kc : Act -> World -> Prop} {Q : Exit -> Act -> World -> Prop}
theorem jjI (m k x : Operand) (ho : o.op = .mapUpdate T m k x ∨ o.op = .insert T m k x) (hT : P.underlying T = some (.map K E)) (hK : P.underlying K = some .string) (v : Value)
  (hm : a.eval m = .map (some r)) (hk : a.eval k = .string s) (hx : a.eval x = v) (h : MapAt w r l) (hn : joN l s = none)
  (hc : ∀ w', w.grownBy w' (some r) -> MapAt w' r (l ++ [(s, v)]) -> Kc (a.put o.dst undef) w') : o.wp P a w Kc Q := by
 obtain ⟨w', hrun, hg, hM⟩ := jhL (P := P) hT hK v h hn
 unfold Oper.wp
 rcases ho with ho | ho
 ·simp [execOp, ho, hm, hk, hx, hrun, Result.andThen]
  exact hc w' hg hM
 ·simp [execOp, ho, hm, hk, hx, hrun, Result.andThen]
  exact hc w' hg hM
theorem jfn (m k : Operand) (ho : o.op = .lookup T m k false) (hT : P.underlying T = some (.map K E)) (hK : P.underlying K = some .string) {z : Value} (hz : (zeroValue E).run P w = .ok z w)
  (hm : a.eval m = .map (some r)) (hk : a.eval k = .string s) (h : MapAt w r l) (hc : Kc (a.put o.dst ((joN l s).getD z)) w) : o.wp P a w Kc Q := by
 have hrun := jhK (P := P) (s := s) hT hK hz h
 unfold Oper.wp
 simp [execOp, ho, hm, hk, hrun, Result.andThen]
 exact hc
variable {ops : Array Oper} {rest : List Oper}
theorem jaa (hgd : o.guard = none) (m k x : Operand) (ho : o.op = .mapUpdate T m k x ∨ o.op = .insert T m k x) (hT : P.underlying T = some (.map K E)) (hK : P.underlying K = some .string) (v : Value)
  (hm : a.eval m = .map (some r)) (hk : a.eval k = .string s) (hx : a.eval x = v) (h : MapAt w r l) (hn : joN l s = none)
  (hc : ∀ w', w.grownBy w' (some r) -> MapAt w' r (l ++ [(s, v)]) -> wpList P ops Q rest (a.put o.dst undef) w') : wpList P ops Q (o :: rest) a w :=
 wpList_plain hgd fun _ hK' => jjI m k x ho hT hK v hm hk hx h hn fun w' g M => hK' _ _ (hc w' g M)
end
end
def sg (a b : Int) : Value := .agg #[.int .i64 a, .int .i64 b]
def jzq : List (ByteArray × Value) := [(⟨#[45]⟩, sg 1 1), (⟨#[33]⟩, sg 2 2)]
def jzJ : List (ByteArray × Value) := [(⟨#[38, 38]⟩, sg 2 2), (⟨#[124, 124]⟩, sg 2 2)]


def jvZ (k : Nat) : List (ByteArray × Value) := jzJ ++ (opsA.take k).map (fun s => (s, sg 1 1))
def jrS (k : Nat) : List (ByteArray × Value) := jvZ 4 ++ (opsC.take k).map (fun s => (s, sg 1 2))
def jxt (b : Bool) : List (ByteArray × Value) := if b then jrS 6 else jzq
def jya (l : List (ByteArray × Value)) (v : Value) (w : World) : Prop := ∃ r, v = .map (some r) /\ MapAt w r l
theorem jai : Tryz.prog.underlying 173 = some (.map 9 172) := by kernel_rfl
theorem jaE : Tryz.prog.underlying 9 = some .string := by kernel_rfl
theorem Ext.row {a b c : World} {r : Nat} (h : Ext a b) (g : b.grownBy c (some r)) (hr : a.heap.size <= r) : Ext a c := Below.grown h g (Below.size h) (by intro k hk; cases hk; exact hr)
set_option maxHeartbeats 400000 in
theorem jqM (w : World) : Calls Tryz.prog 139 #[.bool false] w (Ret w (jya jzq)) := by
 have hmm := @run_makeMap Tryz.prog
 have hM := MapAt.made w
 have hE : Ext w (w.alloc (.map #[] 0)) := (Ext.refl w).alloc _
 go_enter Tryz.func139, Tryz.ntmps139
 go_wp2_with (first
  | (refine jaa (r := w.heap.size) (l := []) (s := ⟨#[45]⟩) rfl _ _ _ (.inr rfl) jai jaE (sg 1 1) rfl rfl rfl hM (by decide +kernel) ?_; intro w2 hg hM2; replace hM := hM2; clear hM2; replace hE := hE.row hg (Nat.le_refl _); clear hg)
  | (refine jaa (r := w.heap.size) (l := [(⟨#[45]⟩, sg 1 1)]) (s := ⟨#[33]⟩) rfl _ _ _ (.inr rfl) jai jaE (sg 2 2) rfl rfl rfl hM (by decide +kernel) ?_; intro w2 hg hM2; replace hM := hM2; clear hM2; replace hE := hE.row hg (Nat.le_refl _); clear hg))
 go_ret
 exact ⟨_, rfl, hE, _, rfl, hM⟩
set_option maxHeartbeats 1000000 in
theorem jsN (w : World) : Calls Tryz.prog 139 #[.bool true] w (Ret w (jya (jrS 6))) := by
 have hmm := @run_makeMap Tryz.prog
 have hM := MapAt.made w
 have hE : Ext w (w.alloc (.map #[] 0)) := (Ext.refl w).alloc _
 go_enter Tryz.func139, Tryz.ntmps139
 go_wp2_with (first
  | (refine jaa (r := w.heap.size) (l := []) (s := ⟨#[38, 38]⟩) rfl _ _ _ (.inr rfl) jai jaE (sg 2 2) rfl rfl rfl hM (by decide +kernel) ?_; intro w2 hg hM2; replace hM := hM2; clear hM2; replace hE := hE.row hg (Nat.le_refl _); clear hg)
  | (refine jaa (r := w.heap.size) (l := [(⟨#[38, 38]⟩, sg 2 2)]) (s := ⟨#[124, 124]⟩) rfl _ _ _ (.inr rfl) jai jaE (sg 2 2) rfl rfl rfl hM (by decide +kernel) ?_; intro w2 hg hM2; replace hM := hM2; clear hM2; replace hE := hE.row hg (Nat.le_refl _); clear hg))
 have hlt2 := hM.lt
 have hB := heap_alloc_new w2 (.cells #[.string ⟨#[43]⟩, .string ⟨#[45]⟩, .string ⟨#[42]⟩, .string ⟨#[47]⟩] 9)
 replace hM := hM.ext ((Ext.refl w2).alloc (.cells #[.string ⟨#[43]⟩, .string ⟨#[45]⟩, .string ⟨#[42]⟩, .string ⟨#[47]⟩] 9))
 replace hE := hE.alloc (.cells #[.string ⟨#[43]⟩, .string ⟨#[45]⟩, .string ⟨#[42]⟩, .string ⟨#[47]⟩] 9)
 go_loopw [20] (fun iv wr => ∃ k : Nat, k <= 4 /\ iv = .int .i64 k /\ Ext w wr /\ wr.heap[w2.heap.size]? = some (.cells #[.string ⟨#[43]⟩, .string ⟨#[45]⟩, .string ⟨#[42]⟩, .string ⟨#[47]⟩] 9 (0, 0)) /\ MapAt wr w.heap.size (jvZ k)) (fun iv _ => 4 - (intOf iv).toNat)
 case atStart => exact ⟨0, by omega, rfl, hE, hB, hM⟩
 case round =>
  clear hM hE hB
  obtain ⟨k, hk, rfl, hE, hB, hM⟩ := hrel
  by_cases hlt : k < 4
  ·have hk4 : k = 0 ∨ k = 1 ∨ k = 2 ∨ k = 3 := by omega
   clear hk hlt
   rcases hk4 with rfl | rfl | rfl | rfl
   ·have cS : wr.cell? ⟨w2.heap.size, 0, none⟩ = some (.string ⟨#[43]⟩) := by simp [World.cell?, hB]
    go_wp2_with (refine jaa (r := w.heap.size) (l := jvZ 0) (s := ⟨#[43]⟩) rfl _ _ _ (.inl rfl) jai jaE (sg 1 1) rfl rfl rfl hM (by decide +kernel) ?_; intro w3 hg hM2; have hB2 := (hg.block _ (Array.getElem?_eq_some_iff.1 hB).1 (by simp; omega)).trans hB; have hE2 := hE.row hg (Nat.le_refl _); clear hg)
    go_roundw
    case rel => exact ⟨1, by omega, rfl, hE2, hB2, hM2⟩
    case measure => simp [intOf]
   ·have cS : wr.cell? ⟨w2.heap.size, 1, none⟩ = some (.string ⟨#[45]⟩) := by simp [World.cell?, hB]
    go_wp2_with (refine jaa (r := w.heap.size) (l := jvZ 1) (s := ⟨#[45]⟩) rfl _ _ _ (.inl rfl) jai jaE (sg 1 1) rfl rfl rfl hM (by decide +kernel) ?_; intro w3 hg hM2; have hB2 := (hg.block _ (Array.getElem?_eq_some_iff.1 hB).1 (by simp; omega)).trans hB; have hE2 := hE.row hg (Nat.le_refl _); clear hg)
    go_roundw
    case rel => exact ⟨2, by omega, rfl, hE2, hB2, hM2⟩
    case measure => simp [intOf]
   ·have cS : wr.cell? ⟨w2.heap.size, 2, none⟩ = some (.string ⟨#[42]⟩) := by simp [World.cell?, hB]
    go_wp2_with (refine jaa (r := w.heap.size) (l := jvZ 2) (s := ⟨#[42]⟩) rfl _ _ _ (.inl rfl) jai jaE (sg 1 1) rfl rfl rfl hM (by decide +kernel) ?_; intro w3 hg hM2; have hB2 := (hg.block _ (Array.getElem?_eq_some_iff.1 hB).1 (by simp; omega)).trans hB; have hE2 := hE.row hg (Nat.le_refl _); clear hg)
    go_roundw
    case rel => exact ⟨3, by omega, rfl, hE2, hB2, hM2⟩
    case measure => simp [intOf]
   ·have cS : wr.cell? ⟨w2.heap.size, 3, none⟩ = some (.string ⟨#[47]⟩) := by simp [World.cell?, hB]
    go_wp2_with (refine jaa (r := w.heap.size) (l := jvZ 3) (s := ⟨#[47]⟩) rfl _ _ _ (.inl rfl) jai jaE (sg 1 1) rfl rfl rfl hM (by decide +kernel) ?_; intro w3 hg hM2; have hB2 := (hg.block _ (Array.getElem?_eq_some_iff.1 hB).1 (by simp; omega)).trans hB; have hE2 := hE.row hg (Nat.le_refl _); clear hg)
    go_roundw
    case rel => exact ⟨4, by omega, rfl, hE2, hB2, hM2⟩
    case measure => simp [intOf]
  ·obtain rfl : k = 4 := by omega
   clear hk hlt hB
   obtain ⟨wo, rfl⟩ : ∃ wo : World, wo = wr := ⟨_, rfl⟩
   go_wp2
   simp only [Int.cast_ofNat_Int]
   have hlt3 := hM.lt
   have hB := heap_alloc_new wo (.cells #[.string ⟨#[60]⟩, .string ⟨#[60, 61]⟩, .string ⟨#[62]⟩, .string ⟨#[62, 61]⟩, .string ⟨#[61, 61]⟩, .string ⟨#[33, 61]⟩] 9)
   replace hM := hM.ext ((Ext.refl wo).alloc (.cells #[.string ⟨#[60]⟩, .string ⟨#[60, 61]⟩, .string ⟨#[62]⟩, .string ⟨#[62, 61]⟩, .string ⟨#[61, 61]⟩, .string ⟨#[33, 61]⟩] 9))
   replace hE := hE.alloc (.cells #[.string ⟨#[60]⟩, .string ⟨#[60, 61]⟩, .string ⟨#[62]⟩, .string ⟨#[62, 61]⟩, .string ⟨#[61, 61]⟩, .string ⟨#[33, 61]⟩] 9)
   have hM0 : MapAt (wo.alloc (.cells #[.string ⟨#[60]⟩, .string ⟨#[60, 61]⟩, .string ⟨#[62]⟩, .string ⟨#[62, 61]⟩, .string ⟨#[61, 61]⟩, .string ⟨#[33, 61]⟩] 9)) w.heap.size (jrS 0) := hM
   clear hM
   go_loopw [30] (fun iv wr => ∃ k : Nat, k <= 6 /\ iv = .int .i64 k /\ Ext w wr /\ wr.heap[wo.heap.size]? = some (.cells #[.string ⟨#[60]⟩, .string ⟨#[60, 61]⟩, .string ⟨#[62]⟩, .string ⟨#[62, 61]⟩, .string ⟨#[61, 61]⟩, .string ⟨#[33, 61]⟩] 9 (0, 0)) /\ MapAt wr w.heap.size (jrS k)) (fun iv _ => 6 - (intOf iv).toNat)
   case atStart => exact ⟨0, by omega, rfl, hE, hB, hM0⟩
   case round =>
    clear hM0 hE hB
    obtain ⟨k, hk, rfl, hE, hB, hM⟩ := hrel
    by_cases hlt : k < 6
    ·have hk6 : k = 0 ∨ k = 1 ∨ k = 2 ∨ k = 3 ∨ k = 4 ∨ k = 5 := by omega
     clear hk hlt
     rcases hk6 with rfl | rfl | rfl | rfl | rfl | rfl
     ·have cS : wr.cell? ⟨wo.heap.size, 0, none⟩ = some (.string ⟨#[60]⟩) := by simp [World.cell?, hB]
      go_wp2_with (refine jaa (r := w.heap.size) (l := jrS 0) (s := ⟨#[60]⟩) rfl _ _ _ (.inl rfl) jai jaE (sg 1 2) rfl rfl rfl hM (by decide +kernel) ?_; intro w3 hg hM2; have hB2 := (hg.block _ (Array.getElem?_eq_some_iff.1 hB).1 (by simp; omega)).trans hB; have hE2 := hE.row hg (Nat.le_refl _); clear hg)
      go_roundw
      case rel => exact ⟨1, by omega, rfl, hE2, hB2, hM2⟩
      case measure => simp [intOf]
     ·have cS : wr.cell? ⟨wo.heap.size, 1, none⟩ = some (.string ⟨#[60, 61]⟩) := by simp [World.cell?, hB]
      go_wp2_with (refine jaa (r := w.heap.size) (l := jrS 1) (s := ⟨#[60, 61]⟩) rfl _ _ _ (.inl rfl) jai jaE (sg 1 2) rfl rfl rfl hM (by decide +kernel) ?_; intro w3 hg hM2; have hB2 := (hg.block _ (Array.getElem?_eq_some_iff.1 hB).1 (by simp; omega)).trans hB; have hE2 := hE.row hg (Nat.le_refl _); clear hg)
      go_roundw
      case rel => exact ⟨2, by omega, rfl, hE2, hB2, hM2⟩
      case measure => simp [intOf]
     ·have cS : wr.cell? ⟨wo.heap.size, 2, none⟩ = some (.string ⟨#[62]⟩) := by simp [World.cell?, hB]
      go_wp2_with (refine jaa (r := w.heap.size) (l := jrS 2) (s := ⟨#[62]⟩) rfl _ _ _ (.inl rfl) jai jaE (sg 1 2) rfl rfl rfl hM (by decide +kernel) ?_; intro w3 hg hM2; have hB2 := (hg.block _ (Array.getElem?_eq_some_iff.1 hB).1 (by simp; omega)).trans hB; have hE2 := hE.row hg (Nat.le_refl _); clear hg)
      go_roundw
      case rel => exact ⟨3, by omega, rfl, hE2, hB2, hM2⟩
      case measure => simp [intOf]
     ·have cS : wr.cell? ⟨wo.heap.size, 3, none⟩ = some (.string ⟨#[62, 61]⟩) := by simp [World.cell?, hB]
      go_wp2_with (refine jaa (r := w.heap.size) (l := jrS 3) (s := ⟨#[62, 61]⟩) rfl _ _ _ (.inl rfl) jai jaE (sg 1 2) rfl rfl rfl hM (by decide +kernel) ?_; intro w3 hg hM2; have hB2 := (hg.block _ (Array.getElem?_eq_some_iff.1 hB).1 (by simp; omega)).trans hB; have hE2 := hE.row hg (Nat.le_refl _); clear hg)
      go_roundw
      case rel => exact ⟨4, by omega, rfl, hE2, hB2, hM2⟩
      case measure => simp [intOf]
     ·have cS : wr.cell? ⟨wo.heap.size, 4, none⟩ = some (.string ⟨#[61, 61]⟩) := by simp [World.cell?, hB]
      go_wp2_with (refine jaa (r := w.heap.size) (l := jrS 4) (s := ⟨#[61, 61]⟩) rfl _ _ _ (.inl rfl) jai jaE (sg 1 2) rfl rfl rfl hM (by decide +kernel) ?_; intro w3 hg hM2; have hB2 := (hg.block _ (Array.getElem?_eq_some_iff.1 hB).1 (by simp; omega)).trans hB; have hE2 := hE.row hg (Nat.le_refl _); clear hg)
      go_roundw
      case rel => exact ⟨5, by omega, rfl, hE2, hB2, hM2⟩
      case measure => simp [intOf]
     ·have cS : wr.cell? ⟨wo.heap.size, 5, none⟩ = some (.string ⟨#[33, 61]⟩) := by simp [World.cell?, hB]
      go_wp2_with (refine jaa (r := w.heap.size) (l := jrS 5) (s := ⟨#[33, 61]⟩) rfl _ _ _ (.inl rfl) jai jaE (sg 1 2) rfl rfl rfl hM (by decide +kernel) ?_; intro w3 hg hM2; have hB2 := (hg.block _ (Array.getElem?_eq_some_iff.1 hB).1 (by simp; omega)).trans hB; have hE2 := hE.row hg (Nat.le_refl _); clear hg)
      go_roundw
      case rel => exact ⟨6, by omega, rfl, hE2, hB2, hM2⟩
      case measure => simp [intOf]
    ·obtain rfl : k = 6 := by omega
     go_wp2
     go_ret
     exact ⟨_, rfl, hE, _, rfl, hM⟩
theorem jbV (b : Bool) (w : World) : Calls Tryz.prog 139 #[.bool b] w (Ret w (jya (jxt b))) := by
 cases b
 ·exact jqM w
 ·exact jsN w
def jvb (b : Bool) : List (ByteArray × Int × Int) :=
 if b then [(⟨#[38, 38]⟩, 2, 2), (⟨#[124, 124]⟩, 2, 2), (⟨#[43]⟩, 1, 1), (⟨#[45]⟩, 1, 1), (⟨#[42]⟩, 1, 1), (⟨#[47]⟩, 1, 1), (⟨#[60]⟩, 1, 2), (⟨#[60, 61]⟩, 1, 2), (⟨#[62]⟩, 1, 2), (⟨#[62, 61]⟩, 1, 2), (⟨#[61, 61]⟩, 1, 2), (⟨#[33, 61]⟩, 1, 2)]
 else [(⟨#[45]⟩, 1, 1), (⟨#[33]⟩, 2, 2)]
def jt3 (b : Bool) (s : ByteArray) : Int × Int := (((jvb b).find? (fun p => s == p.1)).map (·.2)).getD (0, 0)
theorem jp8 (b : Bool) : jxt b = (jvb b).map (fun p => (p.1, sg p.2.1 p.2.2)) := by cases b <;> rfl
theorem jkE (b : Bool) (s : ByteArray) : (joN (jxt b) s).getD (sg 0 0) = sg (jt3 b s).1 (jt3 b s).2 := by
 rw [jp8];unfold jt3 joN;generalize jvb b = l
 induction l with
 | nil => rfl
 | cons p l ih =>
  by_cases h : s == p.1
  ·simp [h]
  ·simp only [List.map_cons, List.find?_cons, h];exact ih
mutual
def jd8 : Nd -> Int
 | .mk k _ s kids =>
  if k = 13 then 2 else if k = 12 ∨ k = 14 ∨ k = 15 then 1
  else if k = 17 ∨ k = 18 then (if jca (jt3 (k == 18) s).1 kids then 0 else (jt3 (k == 18) s).2)
  else if k = 16 then (if jca 1 kids then 0 else 1) else 0
def jca (t : Int) : List Nd -> Bool
 | [] => false
 | x :: xs => (jd8 x != t) || jca t xs
end
theorem joR (t : Int) (l : List Nd) : jca t l = l.any (fun x => jd8 x != t) := by
 induction l with
 | nil => simp [jca]
 | cons x xs ih => simp [jca, ih]
def TypeOfC (t : Nd) : Prop := ∀ v w, t.At w.cell? v -> Calls Tryz.prog 106 #[v] w (RetV w (.int .i64 (jd8 t)))
theorem TypeOfC.use {t : Nd} (h : TypeOfC t) {v : Value} {w : World} (ht : t.At w.cell? v) : Calls Tryz.prog 106 #[v] w (RetV w (.int .i64 (jd8 t))) := h v w ht
theorem jwW (w : World) (a b c d : Value) (T : TypeId) : (w.alloc (.cells #[a, b, c, d] T)).heap[w.heap.size]? = some (.cells #[a, b, c, d] T (0, 0)) := heap_alloc_new w _
set_option maxHeartbeats 1000000 in
theorem js2 (x : Nd) (ih : TypeOfC x) (v : Value) (p : Addr) (t : Int) (w : World) (hv : x.At w.cell? v) (hc : w.cell? p = some (.int .i64 t)) :
  Calls Tryz.prog 140 #[v, .pointer (some p)] w (RetV w (.bool (jd8 x != t))) := by
 have IH : Hid (TypeOfC x) := ih
 have hA := hv
 obtain ⟨kv, rfl, -⟩ := hv.parts
 have hne : p.block < w.heap.size := World.block_lt_of_cell? w p hc
 have hA1 : Hid (x.At (w.alloc (.cells #[.int .i64 x.k, .int .i64 x.n, .string x.s, kv] 65)).cell? (.agg #[.int .i64 x.k, .int .i64 x.n, .string x.s, kv])) := Nd.At.mono (((Ext.refl w).alloc _).sub) _ _ hA
 obtain ⟨c0, c1, c2, c3, -⟩ := jhT (jwW w (.int .i64 x.k) (.int .i64 x.n) (.string x.s) kv 65)
 have hcp := ((Ext.refl w).alloc (.cells #[.int .i64 x.k, .int .i64 x.n, .string x.s, kv] 65)).c hc
 obtain ⟨ty, hty⟩ : ∃ ty, ty = jd8 x := ⟨_, rfl⟩
 have HT : Hid (ty = jd8 x) := hty
 clear ih hA hty hc hv
 go_enter Tryz.func140, Tryz.ntmps140
 go_wp2_with fail
 refine jda (fun w' => w'.cell? ⟨w.heap.size, 0, none⟩ = some (.int .i64 x.k) /\ w'.cell? ⟨w.heap.size, 1, none⟩ = some (.int .i64 x.n) /\ w'.cell? ⟨w.heap.size, 2, none⟩ = some (.string x.s) /\ w'.cell? ⟨w.heap.size, 3, none⟩ = some kv /\ w'.cell? p = some (.int .i64 t)) [(0, 0), (2, 0), (1, 1), (3, 3), (4, 3)] (by kernel_rfl) (by kernel_rfl) ?_ (fun hS => ?_)
 ·first | go_keep | exact ⟨hx2.c c0, hx2.c c1, hx2.c c2, hx2.c c3, hx2.c hcp⟩
 refine je2 rfl hS (by rfl) ?_
 apply Exists.intro
 refine ⟨fun w0 hS0 => ?_, ?_⟩
 ·(try dsimp only at hS0); go_simp; try with_reducible rfl
 simp only [List.getElem_toArray, List.getElem_cons_zero, List.getElem_cons_succ, Act.put, List.setIfInBounds_toArray, List.set_cons_zero, List.set_cons_succ];refine je2 rfl hS (by rfl) ?_
 apply Exists.intro
 refine ⟨fun w0 hS0 => ?_, ?_⟩
 ·(try dsimp only at hS0); go_simp; try with_reducible rfl
 simp only [List.getElem_toArray, List.getElem_cons_zero, List.getElem_cons_succ, Act.put, List.setIfInBounds_toArray, List.set_cons_zero, List.set_cons_succ];refine jdE rfl (fun K hK => ?_);rw [if_pos (by rfl)]
 go_wp2_with (first
  | (go_at_call 106; refine (IH.out.use (Nd.At.mono (((Ext.refl _).drew).sub) _ _ hA1.out)).mono ?_; rintro e w2 ⟨rfl, hx2⟩; rw [<- HT.out]))
 refine jeG (by first | go_keep | exact ⟨hx2.c c0, hx2.c c1, hx2.c c2, hx2.c c3, hx2.c hcp⟩) (fun hS => ?_);refine jcw rfl (by rfl) ?_
 apply Exists.intro
 refine ⟨fun w0 => ?_, ?_⟩
 ·go_simp; try with_reducible rfl
 simp only [List.getElem_toArray, List.getElem_cons_zero, List.getElem_cons_succ, Act.put, List.setIfInBounds_toArray, List.set_cons_zero, List.set_cons_succ];refine jcw rfl (by rfl) ?_
 apply Exists.intro
 refine ⟨fun w0 => ?_, ?_⟩
 ·go_simp; try with_reducible rfl
 simp only [List.getElem_toArray, List.getElem_cons_zero, List.getElem_cons_succ, Act.put, List.setIfInBounds_toArray, List.set_cons_zero, List.set_cons_succ];refine jmD ?_
 go_wp2
 go_ret
 exact ⟨by rw [<- HT.out]; rfl, (((Ext.refl w).alloc _).drew).trans hx2⟩
set_option maxHeartbeats 400000 in
theorem juh (l : List Nd) (sv : Value) (t : Int) (w : World) (hl : NdsAt w.cell? sv l) (ih : ∀ x ∈ l, TypeOfC x) :
  Calls Tryz.prog 107 #[sv, .int .i64 t] w (RetV w (.bool (!jca t l))) := by
 have x0 : Ext w (w.alloc (.cells #[.int .i64 t] 148)) := (Ext.refl w).alloc _
 have hc : (w.alloc (.cells #[.int .i64 t] 148)).cell? ⟨w.heap.size, 0, none⟩ = some (.int .i64 t) := jnc w [.int .i64 t] _ 0 _ rfl
 have hasks : Asks (w.alloc (.cells #[.int .i64 t] 148)) 140 #[.pointer (some ⟨w.heap.size, 0, none⟩)] l (fun x => jd8 x != t) :=
  ⟨fun _ _ => rfl, fun x hx v w' hx' hA => js2 x (ih x hx) v ⟨w.heap.size, 0, none⟩ t w' hA (hx'.c hc)⟩
 have hcall := Lib.hid (jbM l sv _ _ _ _ (hl.mono x0.sub) hasks)
 rw [<- joR] at hcall
 obtain ⟨q, hq⟩ : ∃ q, q = jca t l := ⟨_, rfl⟩
 rw [<- hq] at hcall ⊢;clear hq hasks hc ih hl
 go_enter Tryz.func107, Tryz.ntmps107
 go_wp2_with (go_at_call 63; refine hcall.out.mono ?_; rintro e w2 ⟨rfl, hx2⟩)
 go_ret
 exact ⟨rfl, x0.trans hx2⟩
theorem jor (w : World) : (zeroValue 172).run Tryz.prog w = .ok (sg 0 0) w := by kernel_rfl
theorem jyS (w : World) (a b : Value) (T : TypeId) : (w.alloc (.cells #[a, b] T)).heap[w.heap.size]? = some (.cells #[a, b] T (0, 0)) := heap_alloc_new w _
theorem jgG {w : World} {R : Nat} {a b : Value} {T : TypeId} (h : w.heap[R]? = some (.cells #[a, b] T (0, 0))) :
  w.cell? ⟨R, 0, none⟩ = some a /\ w.cell? ⟨R, 1, none⟩ = some b /\ w.frozen? ⟨R, 0, none⟩ = false /\ w.frozen? ⟨R, 1, none⟩ = false := by
 simp [World.cell?, World.frozen?, h]
theorem jxR {l : List Nd} {sv : Value} {w wk : World} (hl : NdsAt w.cell? sv l) (ih : ∀ x ∈ l, TypeOfC x) (t : Int) {q : Bool} (hq : q = jca t l) (hE : Ext w wk) :
  Calls Tryz.prog 107 #[sv, .int .i64 t] wk (RetV wk (.bool (!q))) := by
 rw [hq]; exact juh l sv t wk (hl.mono hE.sub) ih
theorem jmN (k n : Int) (s : ByteArray) (l : List Nd) (hk : k = 12 ∨ k = 13 ∨ k = 14 ∨ k = 15) : TypeOfC (.mk k n s l) := by
 intro v w ht
 obtain ⟨kv, rfl, -⟩ := ht.parts
 clear ht
 rcases hk with rfl | rfl | rfl | rfl
 all_goals
  go_enter Tryz.func106, Tryz.ntmps106
  go_wp2
  go_ret
  exact ⟨rfl, ((Ext.refl w).alloc _).alloc _⟩
theorem jlv (k n : Int) (s : ByteArray) (l : List Nd) (hk : k ≠ 12 /\ k ≠ 13 /\ k ≠ 14 /\ k ≠ 15 /\ k ≠ 16 /\ k ≠ 17 /\ k ≠ 18) : TypeOfC (.mk k n s l) := by
 intro v w ht
 obtain ⟨kv, rfl, -⟩ := ht.parts
 clear ht;simp only [Nd.k]
 obtain ⟨h1, h2, h3, h4, h5, h6, h7⟩ := hk
 have e : jd8 (.mk k n s l) = 0 := by simp [jd8, h1, h2, h3, h4, h5, h6, h7]
 rw [e]
 go_enter Tryz.func106, Tryz.ntmps106
 go_wp2
 go_ret
 exact ⟨rfl, ((Ext.refl w).alloc _).alloc _⟩
set_option maxHeartbeats 400000 in
theorem jmM (n : Int) (s : ByteArray) (l : List Nd) (ih : ∀ x ∈ l, TypeOfC x) : TypeOfC (.mk 16 n s l) := by
 intro v w ht
 obtain ⟨kv, rfl, -, -, -, hl⟩ := ht.parts
 simp only [Nd.k, Nd.n, Nd.s, Nd.kids] at *
 obtain ⟨q, hq⟩ : ∃ q, q = jca 1 l := ⟨_, rfl⟩
 have e : jd8 (.mk 16 n s l) = if q then 0 else 1 := by simp [jd8, hq]
 have hcall := fun (wk : World) (hE : Ext w wk) => jxR hl ih 1 hq hE
 have HC := Lib.hid hcall
 rw [e];clear e hq hl ht ih hcall
 have hE := ((Ext.refl w).alloc (.cells #[.int .i64 16, .int .i64 n, .string s, kv] 65)).alloc (.cells #[.int .i64 1, .int .i64 1] 172)
 have hV := jyS (w.alloc (.cells #[.int .i64 16, .int .i64 n, .string s, kv] 65)) (.int .i64 1) (.int .i64 1) 172
 simp only [World.size_alloc] at hV
 cases q
 all_goals
  go_enter Tryz.func106, Tryz.ntmps106
  go_wp2_with (go_at_call 107; refine (HC.out _ hE).mono ?_; rintro e w2 ⟨rfl, hx2⟩; obtain ⟨cV0, cV1, fV0, fV1⟩ := jgG (Ext.block hx2 hV))
  go_ret
  exact ⟨rfl, hE.trans hx2⟩
set_option maxHeartbeats 2000000 in
theorem jmO (n : Int) (s : ByteArray) (l : List Nd) (ih : ∀ x ∈ l, TypeOfC x) : TypeOfC (.mk 17 n s l) := by
 intro v w ht
 obtain ⟨kv, rfl, -, -, -, hl⟩ := ht.parts
 simp only [Nd.k, Nd.n, Nd.s, Nd.kids] at *
 obtain ⟨o1, ho1⟩ : ∃ o1, o1 = (jt3 false s).1 := ⟨_, rfl⟩
 obtain ⟨o2, ho2⟩ : ∃ o2, o2 = (jt3 false s).2 := ⟨_, rfl⟩
 obtain ⟨q, hq⟩ : ∃ q, q = jca o1 l := ⟨_, rfl⟩
 have e : jd8 (.mk 17 n s l) = if q then 0 else o2 := by
  simp [jd8, hq, ho1, ho2]
 have hlk : (joN (jxt false) s).getD (sg 0 0) = .agg #[.int .i64 o1, .int .i64 o2] := by rw [jkE, ho1, ho2]; rfl
 have HL := Lib.hid hlk
 have hcall := fun (wk : World) (hE : Ext w wk) => jxR hl ih o1 hq hE
 have HC := Lib.hid hcall
 rw [e];clear e hq hl ht ih hcall ho1 ho2 hlk
 have hE := ((Ext.refl w).alloc (.cells #[.int .i64 17, .int .i64 n, .string s, kv] 65)).alloc (.cells #[.int .i64 1, .int .i64 1] 172)
 have hB := Ext.block ((Ext.refl _).alloc (.cells #[.int .i64 1, .int .i64 1] 172)) (jwW w (.int .i64 17) (.int .i64 n) (.string s) kv 65)
 have hV := jyS (w.alloc (.cells #[.int .i64 17, .int .i64 n, .string s, kv] 65)) (.int .i64 1) (.int .i64 1) 172
 simp only [World.size_alloc] at hV
 cases q
 all_goals
  obtain ⟨c0, c1, c2, c3, -⟩ := jhT hB
  go_enter Tryz.func106, Tryz.ntmps106
  go_wp2_with fail
  refine jda (fun w' => w'.cell? ⟨w.heap.size, 0, none⟩ = some (.int .i64 17) /\ w'.cell? ⟨w.heap.size, 2, none⟩ = some (.string s)) [(0, 3), (1, 0), (2, 3), (4, 3), (5, 0), (3, 1), (6, 1), (7, 2)] (by kernel_rfl) (by kernel_rfl) ?_ (fun hS => ?_)
  ·first | go_keep | exact ⟨hx2.c c0, hx2.c c2⟩
  refine jcw rfl (by rfl) ?_
  apply Exists.intro
  refine ⟨fun w0 => ?_, ?_⟩
  ·go_simp; try with_reducible rfl
  simp only [List.getElem_toArray, List.getElem_cons_zero, List.getElem_cons_succ, Act.put, List.setIfInBounds_toArray, List.set_cons_zero, List.set_cons_succ];refine je2 rfl hS (by rfl) ?_
  apply Exists.intro
  refine ⟨fun w0 hS0 => ?_, ?_⟩
  ·(try dsimp only at hS0); go_simp; try with_reducible rfl
  simp only [List.getElem_toArray, List.getElem_cons_zero, List.getElem_cons_succ, Act.put, List.setIfInBounds_toArray, List.set_cons_zero, List.set_cons_succ];refine jcw rfl (by rfl) ?_
  apply Exists.intro
  refine ⟨fun w0 => ?_, ?_⟩
  ·go_simp; try with_reducible rfl
  simp only [List.getElem_toArray, List.getElem_cons_zero, List.getElem_cons_succ, Act.put, List.setIfInBounds_toArray, List.set_cons_zero, List.set_cons_succ];refine jcw rfl (by rfl) ?_
  apply Exists.intro
  refine ⟨fun w0 => ?_, ?_⟩
  ·go_simp; try with_reducible rfl
  simp only [List.getElem_toArray, List.getElem_cons_zero, List.getElem_cons_succ, Act.put, List.setIfInBounds_toArray, List.set_cons_zero, List.set_cons_succ];refine je2 rfl hS (by rfl) ?_
  apply Exists.intro
  refine ⟨fun w0 hS0 => ?_, ?_⟩
  ·(try dsimp only at hS0); go_simp; try with_reducible rfl
  simp only [List.getElem_toArray, List.getElem_cons_zero, List.getElem_cons_succ, Act.put, List.setIfInBounds_toArray, List.set_cons_zero, List.set_cons_succ];refine jdE rfl (fun K hK => ?_);rw [if_pos (by rfl)]
  go_wp2_with (first
   | (go_at_call 139; refine (jbV _ _).mono ?_; rintro e w2 ⟨v, rfl, hx2, r, rfl, hM⟩; have hV2 := Ext.block hx2 hV; obtain ⟨cV0, cV1, fV0, fV1⟩ := jgG hV2))
  refine jeG (by first | go_keep | exact ⟨hx2.c c0, hx2.c c2⟩) (fun hS => ?_);refine jdE rfl (fun K hK => ?_);rw [if_pos (by rfl)];refine jfn (r := r) _ _ (by rfl) jai jaE (jor _) (by rfl) (by rfl) hM ?_;rw [HL.out];refine hK _ _ ?_;refine jeG (by first | go_keep | exact ⟨hx2.c c0, hx2.c c2⟩) (fun hS => ?_);refine jlb rfl (fun K hK => ?_);rw [if_pos (by rfl)]
  go_wp2_with (first
   | (go_at_call 139; refine (jbV _ _).mono ?_; rintro e w2 ⟨v, rfl, hx2, r, rfl, hM⟩; have hV2 := Ext.block hx2 hV; obtain ⟨cV0, cV1, fV0, fV1⟩ := jgG hV2))
  refine jmD ?_
  have hE3 := ((hE.drew.trans hx2).row (jbD w2 (w.heap.size + 1) 0 (.int .i64 o1)) (by omega)).row (jbD _ (w.heap.size + 1) 1 (.int .i64 o2)) (by omega)
  have hV3 := jfN (jfN hV2 0 (.int .i64 o1)) 1 (.int .i64 o2)
  have hKids := hx2.c c3
  have hKids3 := (jbD (w2.setCell ⟨w.heap.size + 1, 0, none⟩ (.int .i64 o1)) (w.heap.size + 1) 1 (.int .i64 o2)).cell ((jbD w2 (w.heap.size + 1) 0 (.int .i64 o1)).cell hKids (by simp)) (by simp)
  obtain ⟨cW0, cW1, fW0, fW1⟩ := jgG hV3
  clear hS hV hV2 hx2 hM hKids cV0 cV1 fV0 fV1 c0 c1 c2 c3 hB hE
  go_wp2_with (go_at_call 107; refine (HC.out _ hE3).mono ?_; rintro e w4 ⟨rfl, hx4⟩; have cX1 := hx4.c cW1)
  go_ret
  exact ⟨rfl, hE3.trans hx4⟩
set_option maxHeartbeats 2000000 in
theorem jmP (n : Int) (s : ByteArray) (l : List Nd) (ih : ∀ x ∈ l, TypeOfC x) : TypeOfC (.mk 18 n s l) := by
 intro v w ht
 obtain ⟨kv, rfl, -, -, -, hl⟩ := ht.parts
 simp only [Nd.k, Nd.n, Nd.s, Nd.kids] at *
 obtain ⟨o1, ho1⟩ : ∃ o1, o1 = (jt3 true s).1 := ⟨_, rfl⟩
 obtain ⟨o2, ho2⟩ : ∃ o2, o2 = (jt3 true s).2 := ⟨_, rfl⟩
 obtain ⟨q, hq⟩ : ∃ q, q = jca o1 l := ⟨_, rfl⟩
 have e : jd8 (.mk 18 n s l) = if q then 0 else o2 := by
  simp [jd8, hq, ho1, ho2]
 have hlk : (joN (jxt true) s).getD (sg 0 0) = .agg #[.int .i64 o1, .int .i64 o2] := by rw [jkE, ho1, ho2]; rfl
 have HL := Lib.hid hlk
 have hcall := fun (wk : World) (hE : Ext w wk) => jxR hl ih o1 hq hE
 have HC := Lib.hid hcall
 rw [e];clear e hq hl ht ih hcall ho1 ho2 hlk
 have hE := ((Ext.refl w).alloc (.cells #[.int .i64 18, .int .i64 n, .string s, kv] 65)).alloc (.cells #[.int .i64 1, .int .i64 1] 172)
 have hB := Ext.block ((Ext.refl _).alloc (.cells #[.int .i64 1, .int .i64 1] 172)) (jwW w (.int .i64 18) (.int .i64 n) (.string s) kv 65)
 have hV := jyS (w.alloc (.cells #[.int .i64 18, .int .i64 n, .string s, kv] 65)) (.int .i64 1) (.int .i64 1) 172
 simp only [World.size_alloc] at hV
 cases q
 all_goals
  obtain ⟨c0, c1, c2, c3, -⟩ := jhT hB
  go_enter Tryz.func106, Tryz.ntmps106
  go_wp2_with fail
  refine jda (fun w' => w'.cell? ⟨w.heap.size, 0, none⟩ = some (.int .i64 18) /\ w'.cell? ⟨w.heap.size, 2, none⟩ = some (.string s)) [(0, 3), (1, 0), (2, 3), (4, 3), (5, 0), (3, 1), (6, 1), (7, 2)] (by kernel_rfl) (by kernel_rfl) ?_ (fun hS => ?_)
  ·first | go_keep | exact ⟨hx2.c c0, hx2.c c2⟩
  refine jcw rfl (by rfl) ?_
  apply Exists.intro
  refine ⟨fun w0 => ?_, ?_⟩
  ·go_simp; try with_reducible rfl
  simp only [List.getElem_toArray, List.getElem_cons_zero, List.getElem_cons_succ, Act.put, List.setIfInBounds_toArray, List.set_cons_zero, List.set_cons_succ];refine je2 rfl hS (by rfl) ?_
  apply Exists.intro
  refine ⟨fun w0 hS0 => ?_, ?_⟩
  ·(try dsimp only at hS0); go_simp; try with_reducible rfl
  simp only [List.getElem_toArray, List.getElem_cons_zero, List.getElem_cons_succ, Act.put, List.setIfInBounds_toArray, List.set_cons_zero, List.set_cons_succ];refine jcw rfl (by rfl) ?_
  apply Exists.intro
  refine ⟨fun w0 => ?_, ?_⟩
  ·go_simp; try with_reducible rfl
  simp only [List.getElem_toArray, List.getElem_cons_zero, List.getElem_cons_succ, Act.put, List.setIfInBounds_toArray, List.set_cons_zero, List.set_cons_succ];refine jcw rfl (by rfl) ?_
  apply Exists.intro
  refine ⟨fun w0 => ?_, ?_⟩
  ·go_simp; try with_reducible rfl
  simp only [List.getElem_toArray, List.getElem_cons_zero, List.getElem_cons_succ, Act.put, List.setIfInBounds_toArray, List.set_cons_zero, List.set_cons_succ];refine je2 rfl hS (by rfl) ?_
  apply Exists.intro
  refine ⟨fun w0 hS0 => ?_, ?_⟩
  ·(try dsimp only at hS0); go_simp; try with_reducible rfl
  simp only [List.getElem_toArray, List.getElem_cons_zero, List.getElem_cons_succ, Act.put, List.setIfInBounds_toArray, List.set_cons_zero, List.set_cons_succ];refine jdE rfl (fun K hK => ?_);rw [if_pos (by rfl)]
  go_wp2_with (first
   | (go_at_call 139; refine (jbV _ _).mono ?_; rintro e w2 ⟨v, rfl, hx2, r, rfl, hM⟩; have hV2 := Ext.block hx2 hV; obtain ⟨cV0, cV1, fV0, fV1⟩ := jgG hV2))
  refine jeG (by first | go_keep | exact ⟨hx2.c c0, hx2.c c2⟩) (fun hS => ?_);refine jdE rfl (fun K hK => ?_);rw [if_pos (by rfl)];refine jfn (r := r) _ _ (by rfl) jai jaE (jor _) (by rfl) (by rfl) hM ?_;rw [HL.out];refine hK _ _ ?_;refine jeG (by first | go_keep | exact ⟨hx2.c c0, hx2.c c2⟩) (fun hS => ?_);refine jlb rfl (fun K hK => ?_);rw [if_pos (by rfl)]
  go_wp2_with (first
   | (go_at_call 139; refine (jbV _ _).mono ?_; rintro e w2 ⟨v, rfl, hx2, r, rfl, hM⟩; have hV2 := Ext.block hx2 hV; obtain ⟨cV0, cV1, fV0, fV1⟩ := jgG hV2))
  refine jmD ?_
  have hE3 := ((hE.drew.trans hx2).row (jbD w2 (w.heap.size + 1) 0 (.int .i64 o1)) (by omega)).row (jbD _ (w.heap.size + 1) 1 (.int .i64 o2)) (by omega)
  have hV3 := jfN (jfN hV2 0 (.int .i64 o1)) 1 (.int .i64 o2)
  have hKids := hx2.c c3
  have hKids3 := (jbD (w2.setCell ⟨w.heap.size + 1, 0, none⟩ (.int .i64 o1)) (w.heap.size + 1) 1 (.int .i64 o2)).cell ((jbD w2 (w.heap.size + 1) 0 (.int .i64 o1)).cell hKids (by simp)) (by simp)
  obtain ⟨cW0, cW1, fW0, fW1⟩ := jgG hV3
  clear hS hV hV2 hx2 hM hKids cV0 cV1 fV0 fV1 c0 c1 c2 c3 hB hE
  go_wp2_with (go_at_call 107; refine (HC.out _ hE3).mono ?_; rintro e w4 ⟨rfl, hx4⟩; have cX1 := hx4.c cW1)
  go_ret
  exact ⟨rfl, hE3.trans hx4⟩
mutual
theorem jiz : ∀ t : Nd, TypeOfC t
 | .mk k n s l => by
  have ih := jfR l
  by_cases h1 : k = 12 ∨ k = 13 ∨ k = 14 ∨ k = 15
  ·exact jmN k n s l h1
  ·by_cases h16 : k = 16
   ·subst h16; exact jmM n s l ih
   ·by_cases h17 : k = 17
    ·subst h17; exact jmO n s l ih
    ·by_cases h18 : k = 18
     ·subst h18; exact jmP n s l ih
     ·exact jlv k n s l (by omega)
theorem jfR : ∀ l : List Nd, ∀ x ∈ l, TypeOfC x
 | [] => fun _ h => by cases h
 | t :: ts =>
  have h1 := jiz t
  have h2 := jfR ts
  fun x hx => (List.mem_cons.1 hx).elim (fun e => e ▸ h1) (h2 x)
end
def jhH (l : List ByteArray) (s : ByteArray) : Int := match l.findIdx? (fun x => x == s) with | some i => (i : Int) | none => -1
theorem jsP {l : List ByteArray} {s : ByteArray} {k : Nat} (hk : k < l.length) (h : ∀ j (hj : j < l.length), j < k -> (l[j] == s) = false) (hq : (l[k] == s) = true) : jhH l s = (k : Int) := by
 have : l.findIdx? (fun x => x == s) = some k := by
  rw [List.findIdx?_eq_some_iff_getElem];exact ⟨hk, hq, fun j hj => by simp [h j (by omega) hj]⟩
 unfold jhH; rw [this]
theorem jqT {l : List ByteArray} {s : ByteArray} (h : ∀ j (hj : j < l.length), (l[j] == s) = false) : jhH l s = -1 := by
 have : l.findIdx? (fun x => x == s) = none := by
  rw [List.findIdx?_eq_none_iff];intro x hx
  obtain ⟨j, hj, rfl⟩ := List.mem_iff_getElem.1 hx
  simp [h j hj]
 unfold jhH; rw [this]
theorem jmu (l : List ByteArray) (s : ByteArray) : -1 <= jhH l s /\ jhH l s < l.length + 1 /\ jhH l s <= l.length := by
 unfold jhH
 cases hf : l.findIdx? (fun x => x == s) with
 | none => simp; omega
 | some i =>
  rw [List.findIdx?_eq_some_iff_getElem] at hf
  obtain ⟨hi, _⟩ := hf
  simp; omega
set_option maxHeartbeats 400000 in
theorem jiv (v : Value) (l : List ByteArray) (s : ByteArray) (w : World) (hl : StrsAt w.cell? v l) :
  Calls Tryz.prog 103 #[v, .string s] w fun e w' => e = .returned (.int .i64 (jhH l s)) /\ w = w' := by
 obtain ⟨h1, h2, p, b, off, cap, rfl, hc, hp, hn, hh⟩ := hl
 go_enter Tryz.func103, Tryz.ntmps103
 go_wp2
 go_loop [5, 8] (fun _ i => ∃ k : Nat, k <= l.length /\ i = .int .i64 k /\ ∀ j (hj : j < l.length), j < k -> (l[j] == s) = false) (fun _ i => l.length - (intOf i).toNat)
 case atStart => exact ⟨0, by omega, rfl, fun j hj h => absurd h (by omega)⟩
 case round =>
  obtain ⟨k, hk, rfl, hno⟩ := hrel
  have HNO : Hid (∀ j (hj : j < l.length), j < k -> (l[j] == s) = false) := hno
  clear hno
  by_cases hlt : k < l.length
  ·obtain rfl : p = some ⟨b, off, none⟩ := by
    rcases hp with rfl | hp
    ·simp at hlt
    ·exact hp
   have cx := hh k hlt
   obtain ⟨x, hx⟩ : ∃ x, x = l[k] := ⟨_, rfl⟩
   rw [show l.getD k ByteArray.empty = x from by rw [hx]; simp [hlt]] at cx
   have HX : Hid (x = l[k]) := hx
   clear hx hh hp hn h2
   cases hxs : (s.toList == x.toList) with
   | true =>
    have hxs2 : (x == s) = true := by rw [beq_toListBytes, <- hxs, Bool.beq_comm]
    go_wp2
    go_ret
    have := jsP (s := s) hlt HNO.out (by rw [<- HX.out]; exact hxs2)
    exact ⟨by rw [this]; rfl, rfl⟩
   | false =>
    have hxs2 : (x == s) = false := by rw [beq_toListBytes, <- hxs, Bool.beq_comm]
    go_wp2
    go_round
    case rel => exact ⟨k + 1, by omega, by go_num, fun j hj h => by
     by_cases hjk : j = k
     ·subst hjk; rw [<- HX.out]; exact hxs2
     ·exact HNO.out j hj (by omega)⟩
    case measure => simp [intOf]; omega
  ·clear hh hp hn h2
   go_wp2
   go_ret
   exact ⟨by rw [jqT (fun j hj => HNO.out j hj (by omega))]; rfl, rfl⟩
def jcL (d v : List ByteArray) (s : ByteArray) : Int := if 0 <= jhH d s then jhH d s else if 0 <= jhH v s then d.length + jhH v s else -1
set_option maxHeartbeats 1000000 in
theorem jkq (dv vv ov : Value) (d v : List ByteArray) (s : ByteArray) (w : World) (hd : StrsAt w.cell? dv d) (hv : StrsAt w.cell? vv v) :
  Calls Tryz.prog 62 #[.agg #[dv, vv, ov], .string s] w (RetV w (.int .i64 (jcL d v s))) := by
 have x0 : Ext w (w.alloc (.cells #[dv, vv, ov] 26)) := (Ext.refl w).alloc _
 have c1 := Lib.hid (jiv dv d s _ (hd.mono x0.sub))
 have c2 := Lib.hid (jiv vv v s _ (hv.mono x0.sub))
 have e : jcL d v s = if 0 <= jhH d s then jhH d s else if 0 <= jhH v s then d.length + jhH v s else -1 := rfl
 have l1 := jmu d s
 have l2 := jmu v s
 have d1 := hd.1
 have d2 := hv.1
 obtain ⟨p1, b1, o1, k1, rfl, hk1, -⟩ := hd.2.2
 obtain ⟨p2, b2, o2, k2, rfl, hk2, -⟩ := hv.2.2
 obtain ⟨i, hi⟩ : ∃ i, i = jhH d s := ⟨_, rfl⟩
 obtain ⟨j, hj⟩ : ∃ j, j = jhH v s := ⟨_, rfl⟩
 rw [<- hi] at c1 e l1;rw [<- hj] at c2 e l2;rw [e];clear hi hj hd hv e
 by_cases h1 : 0 <= i
 ·rw [if_pos h1]
  go_enter Tryz.func62, Tryz.ntmps62
  go_wp2_with (go_at_call 103; refine c1.out.mono ?_; rintro e w2 ⟨rfl, rfl⟩)
  go_ret
  exact ⟨rfl, x0⟩
 ·rw [if_neg h1]
  by_cases h2 : 0 <= j
  ·rw [if_pos h2]
   go_enter Tryz.func62, Tryz.ntmps62
   go_wp2_with fail
   refine c1.out.mono ?_;rintro e w2 ⟨rfl, rfl⟩
   go_wp2_with fail
   refine c2.out.mono ?_;rintro e w2 ⟨rfl, rfl⟩
   go_wp2
   go_ret
   exact ⟨rfl, x0⟩
  ·rw [if_neg h2]
   go_enter Tryz.func62, Tryz.ntmps62
   go_wp2_with fail
   refine c1.out.mono ?_;rintro e w2 ⟨rfl, rfl⟩
   go_wp2_with fail
   refine c2.out.mono ?_;rintro e w2 ⟨rfl, rfl⟩
   go_wp2
   go_ret
   exact ⟨rfl, x0⟩
mutual
def jcE : Nd -> Bool
 | .mk k _ _ kids => if k = 11 then jfS kids else if k = 2 ∨ k = 3 then jvO kids else !jca 1 kids
def jfS : List Nd -> Bool
 | [] => true
 | x :: xs => jcE x && jfS xs
def jvO : List Nd -> Bool
 | [] => false
 | c :: rest => (jd8 c == 2) && jfS rest
end
theorem jmS (l : List Nd) : jfS l = !l.any (fun x => !jcE x) := by
 induction l with
 | nil => simp [jfS]
 | cons x xs ih => simp [jfS, ih]
def WellC (t : Nd) : Prop := ∀ v w, t.At w.cell? v -> Calls Tryz.prog 64 #[v] w (RetV w (.bool (jcE t)))
theorem WellC.use {t : Nd} (h : WellC t) {v : Value} {w : World} (ht : t.At w.cell? v) : Calls Tryz.prog 64 #[v] w (RetV w (.bool (jcE t))) := h v w ht
set_option maxHeartbeats 400000 in
theorem jrC (x : Nd) (ih : WellC x) (v : Value) (w : World) (hv : x.At w.cell? v) :
  Calls Tryz.prog 105 #[v] w (RetV w (.bool (!jcE x))) := by
 have x0 := fun o => (Ext.refl w).alloc o
 have hc := fun o => Lib.hid (ih.use (Nd.At.mono (x0 o).sub _ _ hv))
 obtain ⟨kv, rfl, -⟩ := hv.parts
 obtain ⟨q, hq⟩ : ∃ q, q = jcE x := ⟨_, rfl⟩
 rw [<- hq] at hc ⊢;clear hq ih hv
 go_enter Tryz.func105, Tryz.ntmps105
 go_wp2_with (go_at_call 64; refine (hc _).out.mono ?_; rintro e w2 ⟨rfl, hx2⟩)
 go_ret
 exact ⟨rfl, (x0 _).trans hx2⟩
set_option maxHeartbeats 1000000 in
theorem jiD (n : Int) (s : ByteArray) (l : List Nd) (ih : ∀ x ∈ l, WellC x) : WellC (.mk 11 n s l) := by
 intro v w ht
 obtain ⟨kv, rfl, -, -, -, hl⟩ := ht.parts
 simp only [Nd.k, Nd.n, Nd.s, Nd.kids] at *
 have e : jcE (.mk 11 n s l) = !l.any (fun x => !jcE x) := by simp only [jcE, jmS]; simp
 have x0 : Ext w (w.alloc (.cells #[.int .i64 11, .int .i64 n, .string s, kv] 65)) := (Ext.refl w).alloc _
 have hasks : Asks (w.alloc (.cells #[.int .i64 11, .int .i64 n, .string s, kv] 65)) 105 #[] l (fun x => !jcE x) :=
  ⟨fun _ _ => rfl, fun x hx v w' hx' hA => jrC x (ih x hx) v w' hA⟩
 have hcall := Lib.hid (jbM l kv _ _ _ _ (hl.mono x0.sub) hasks)
 rw [e]
 obtain ⟨q, hq⟩ : ∃ q, q = l.any (fun x => !jcE x) := ⟨_, rfl⟩
 rw [<- hq] at hcall ⊢;clear hq hasks ih hl e ht
 go_enter Tryz.func64, Tryz.ntmps64
 go_wp2_with (go_at_call 63; refine hcall.out.mono ?_; rintro e w2 ⟨rfl, hx2⟩)
 go_ret
 exact ⟨rfl, x0.trans hx2⟩
set_option maxHeartbeats 1000000 in
theorem jpf (k n : Int) (s : ByteArray) (l : List Nd) (hk : k ≠ 11 /\ k ≠ 2 /\ k ≠ 3) : WellC (.mk k n s l) := by
 intro v w ht
 obtain ⟨kv, rfl, -, -, -, hl⟩ := ht.parts
 simp only [Nd.k, Nd.n, Nd.s, Nd.kids] at *
 obtain ⟨h1, h2, h3⟩ := hk
 have e : jcE (.mk k n s l) = !jca 1 l := by simp [jcE, h1, h2, h3]
 have x0 : Ext w (w.alloc (.cells #[.int .i64 k, .int .i64 n, .string s, kv] 65)) := (Ext.refl w).alloc _
 have hcall := Lib.hid (jxR hl (jfR l) 1 rfl x0)
 rw [e]
 obtain ⟨q, hq⟩ : ∃ q, q = jca 1 l := ⟨_, rfl⟩
 rw [<- hq] at hcall ⊢
 have b1 : (k == 11) = false := by simpa using h1
 have b2 : (k == 2) = false := by simpa using h2
 have b3 : (k == 3) = false := by simpa using h3
 clear hq hl e ht h1 h2 h3
 go_enter Tryz.func64, Tryz.ntmps64
 go_wp2_with (go_at_call 107; refine hcall.out.mono ?_; rintro e w2 ⟨rfl, hx2⟩)
 go_ret
 exact ⟨rfl, x0.trans hx2⟩
set_option maxHeartbeats 1000000 in
theorem jtq (k n : Int) (s : ByteArray) (hk : k = 2 ∨ k = 3) : WellC (.mk k n s []) := by
 intro v w ht
 obtain ⟨kv, rfl, -, -, -, hl⟩ := ht.parts
 simp only [Nd.k, Nd.n, Nd.s, Nd.kids] at *
 obtain ⟨_, p, b, off, cap, rfl, -⟩ := hl
 have e : jcE (.mk k n s []) = false := by rcases hk with rfl | rfl <;> simp [jcE, jvO]
 rw [e];clear ht e
 rcases hk with rfl | rfl
 all_goals
  go_enter Tryz.func64, Tryz.ntmps64
  go_wp2
  go_ret
  exact ⟨rfl, (Ext.refl w).alloc _⟩
set_option maxHeartbeats 1000000 in
theorem jrD (k n : Int) (s : ByteArray) (c : Nd) (l : List Nd) (hk : k = 2 ∨ k = 3) (ih : ∀ x ∈ l, WellC x) : WellC (.mk k n s (c :: l)) := by
 intro v w ht
 obtain ⟨kv, rfl, -, -, -, hl⟩ := ht.parts
 simp only [Nd.k, Nd.n, Nd.s, Nd.kids] at *
 have e : jcE (.mk k n s (c :: l)) = ((jd8 c == 2) && jcE (.mk 11 0 ⟨#[]⟩ l)) := by rcases hk with rfl | rfl <;> simp [jcE, jvO]
 obtain ⟨hlen, p, b, off, cap, rfl, hcap, hp, hn, hin⟩ := hl
 obtain rfl : p = some ⟨b, off, none⟩ := by
  rcases hp with h | h
  ·cases h
  ·exact h
 have hin2 := hin
 unfold Nd.In at hin2
 obtain ⟨⟨v0, v1, v2, v3, d0, d1, d2, d3, hc⟩, hrest⟩ := hin2
 simp only [List.length_cons] at *
 have x0 : Ext w (w.alloc (.cells #[.int .i64 k, .int .i64 n, .string s, .slice (some ⟨b, off, none⟩) (l.length + 1) cap] 65)) := (Ext.refl w).alloc _
 replace d0 := x0.c d0
 replace d1 := x0.c d1
 replace d2 := x0.c d2
 replace d3 := x0.c d3
 have ht1 := Lib.hid ((jiz c).use (Nd.At.mono x0.sub _ _ hc))
 obtain ⟨ty, hty⟩ : ∃ ty, ty = jd8 c := ⟨_, rfl⟩
 have hB := Ext.block (Ext.refl _) (jwW w (.int .i64 k) (.int .i64 n) (.string s) (.slice (some ⟨b, off, none⟩) (l.length + 1) cap) 65)
 rw [e, <- hty];rw [<- hty] at ht1
 obtain ⟨q, hq⟩ : ∃ q, q = jcE (.mk 11 0 ⟨#[]⟩ l) := ⟨_, rfl⟩
 have hw := fun (w2 : World) (hx2 : Ext w w2) (kv2 : Value) (hkv : NdsAt w.cell? kv2 l) => (jiD 0 ⟨#[]⟩ l ih).use (Nd.At.of_parts (t := .mk 11 0 ⟨#[]⟩ l) (by simp [Nd.k]) (by simp [Nd.n]) (Nat.zero_le _) (hkv.mono hx2.sub))
 simp only [Nd.k, Nd.n, Nd.s] at hw;rw [<- hq] at hw ⊢
 have HW := Lib.hid hw
 clear hq hty e ht ih hw hc hp hn hin
 cases hte : (ty == 2) with
 | false =>
  rcases hk with rfl | rfl
  all_goals
   go_enter Tryz.func64, Tryz.ntmps64
   go_wp2_with (go_at_call 106; refine ht1.out.mono ?_; rintro e w2 ⟨rfl, hx2⟩)
   go_ret
   exact ⟨rfl, x0.trans hx2⟩
 | true =>
  by_cases h1 : cap = 1
  ·obtain rfl : l = [] := List.eq_nil_of_length_eq_zero (by omega)
   have hkv : NdsAt w.cell? (.slice (some ⟨b, off, none⟩) 0 0) [] := ⟨by simp, _, b, off, 0, rfl, by simp, .inl rfl, by simp, by unfold Nd.In; trivial⟩
   subst h1;simp only [List.length_nil, Nat.zero_add] at *;clear hrest
   rcases hk with rfl | rfl
   all_goals
    go_enter Tryz.func64, Tryz.ntmps64
    go_wp2_with (first
     | (go_at_call 106; refine ht1.out.mono ?_; rintro e w2 ⟨rfl, hx2⟩; obtain ⟨e0, e1, e2, e3, -⟩ := jhT (hx2.block hB))
     | (go_at_call 64; (with_reducible refine (HW.out _ (x0.trans hx2) _ hkv).mono ?_); rintro e w3 ⟨rfl, hx3⟩))
    go_ret
    exact ⟨rfl, (x0.trans hx2).trans hx3⟩
  ·have hkv : NdsAt w.cell? (.slice (some ⟨b, off + 4, none⟩) l.length (cap - 1)) l := ⟨by omega, _, b, off + 4, cap - 1, rfl, by omega, .inr rfl, by simp, hrest⟩
   clear hrest
   rcases hk with rfl | rfl
   all_goals
    go_enter Tryz.func64, Tryz.ntmps64
    go_wp2_with (first
     | (go_at_call 106; refine ht1.out.mono ?_; rintro e w2 ⟨rfl, hx2⟩; obtain ⟨e0, e1, e2, e3, -⟩ := jhT (hx2.block hB))
     | (go_at_call 64; (with_reducible refine (HW.out _ (x0.trans hx2) _ hkv).mono ?_); rintro e w3 ⟨rfl, hx3⟩))
    go_ret
    exact ⟨rfl, (x0.trans hx2).trans hx3⟩
mutual
theorem joo : ∀ t : Nd, WellC t
 | .mk k n s l => by
  have ih := jon l
  by_cases h11 : k = 11
  ·subst h11; exact jiD n s l ih
  ·by_cases h2 : k = 2 ∨ k = 3
   ·cases l with
    | nil => exact jtq k n s h2
    | cons c rest => exact jrD k n s c rest h2 (fun x hx => ih x (List.mem_cons_of_mem _ hx))
   ·exact jpf k n s l (by omega)
theorem jon : ∀ l : List Nd, ∀ x ∈ l, WellC x
 | [] => fun _ h => by cases h
 | t :: ts =>
  have h1 := joo t
  have h2 := jon ts
  fun x hx => (List.mem_cons.1 hx).elim (fun e => e ▸ h1) (h2 x)
end
def HIn (C : Rd) (b : Nat) (off : Nat) (l : List (Int × Nd)) : Prop := ∀ i (hi : i < l.length), -9223372036854775808 <= l[i].1 /\ l[i].1 <= 9223372036854775807 ∧
 ∃ v1 v2 v3 v4, C ⟨b, off + i * 5, none⟩ = some (.int .i64 l[i].1) /\ C ⟨b, off + i * 5 + 1, none⟩ = some v1 /\ C ⟨b, off + i * 5 + 2, none⟩ = some v2 /\ C ⟨b, off + i * 5 + 3, none⟩ = some v3 /\ C ⟨b, off + i * 5 + 4, none⟩ = some v4 /\ l[i].2.At C (.agg #[v1, v2, v3, v4])
def HsAt (C : Rd) (v : Value) (l : List (Int × Nd)) : Prop :=
 l.length <= 1000000000 /\ ∃ p b off cap, v = .slice p l.length cap /\ l.length <= cap /\ (l = [] ∨ p = some ⟨b, off, none⟩) /\ (p = none -> cap = 0) /\ HIn C b off l
theorem HsAt.mono {C D : Rd} {v : Value} {l : List (Int × Nd)} (h : HsAt C v l) (x : Sub C D) : HsAt D v l := by
 obtain ⟨h1, p, b, off, cap, hv, hc, hp, hn, hh⟩ := h
 refine ⟨h1, p, b, off, cap, hv, hc, hp, hn, fun i hi => ?_⟩
 obtain ⟨g1, g2, v1, v2, v3, v4, c0, c1, c2, c3, c4, ha⟩ := hh i hi
 exact ⟨g1, g2, v1, v2, v3, v4, x _ _ c0, x _ _ c1, x _ _ c2, x _ _ c3, x _ _ c4, Nd.At.mono x _ _ ha⟩
structure Un where
 d : List ByteArray
 v : List ByteArray
 on : List (Int × Nd)
def UnAt (C : Rd) (x : Value) (u : Un) : Prop := ∃ dv vv ov, x = .agg #[dv, vv, ov] /\ StrsAt C dv u.d /\ StrsAt C vv u.v /\ HsAt C ov u.on
theorem UnAt.mono {C D : Rd} {x : Value} {u : Un} (h : UnAt C x u) (s : Sub C D) : UnAt D x u := by
 obtain ⟨dv, vv, ov, e, h1, h2, h3⟩ := h
 exact ⟨dv, vv, ov, e, h1.mono s, h2.mono s, h3.mono s⟩
mutual
def jrT (ix : ByteArray -> Int) : Nd -> Bool
 | .mk k _ s kids => ((k == 1 || k == 14) && decide (ix s < 0)) || jlw ix kids
def jlw (ix : ByteArray -> Int) : List Nd -> Bool
 | [] => false
 | x :: xs => jrT ix x || jlw ix xs
end
theorem jpe (ix : ByteArray -> Int) (l : List Nd) : jlw ix l = l.any (jrT ix) := by
 induction l with
 | nil => simp [jlw]
 | cons x xs ih => simp [jlw, ih]
structure Env (w : World) (U V : Nat) (dv vv ov : Value) (d v : List ByteArray) : Prop where
 c0 : w.cell? ⟨U, 0, none⟩ = some dv
 c1 : w.cell? ⟨U, 1, none⟩ = some vv
 c2 : w.cell? ⟨U, 2, none⟩ = some ov
 f : w.cell? ⟨V, 0, none⟩ = some (.func (.func 61) #[] #[.pointer (some ⟨U, 0, none⟩), .pointer (some ⟨V, 0, none⟩)])
 d : StrsAt w.cell? dv d
 v : StrsAt w.cell? vv v
theorem Env.ext {w w' : World} {U V : Nat} {dv vv ov : Value} {d v : List ByteArray} (h : Env w U V dv vv ov d v) (x : Ext w w') : Env w' U V dv vv ov d v :=
 ⟨x.c h.c0, x.c h.c1, x.c h.c2, x.c h.f, h.d.mono x.sub, h.v.mono x.sub⟩
def jrU (t : Nd) : Prop := ∀ (x : Value) (w : World) (U V : Nat) (dv vv ov : Value) (d v : List ByteArray), t.At w.cell? x -> Env w U V dv vv ov d v →
  Calls Tryz.prog 61 #[x, .pointer (some ⟨U, 0, none⟩), .pointer (some ⟨V, 0, none⟩)] w (RetV w (.bool (jrT (jcL d v) t)))
set_option maxHeartbeats 1000000 in
theorem jpM (k n : Int) (s : ByteArray) (l : List Nd) (ih : ∀ x ∈ l, jrU x) : jrU (.mk k n s l) := by
 intro x w U V dv vv ov d v ht E
 obtain ⟨kv, rfl, -, -, -, hl⟩ := ht.parts
 simp only [Nd.k, Nd.n, Nd.s, Nd.kids] at *
 have e : jrT (jcL d v) (.mk k n s l) = (((k == 1 || k == 14) && decide (jcL d v s < 0)) || l.any (jrT (jcL d v))) := by simp only [jrT, jpe]
 have x0 : Ext w (w.alloc (.cells #[.int .i64 k, .int .i64 n, .string s, kv] 65)) := (Ext.refl w).alloc _
 have E0 := E.ext x0
 have hB := jwW w (.int .i64 k) (.int .i64 n) (.string s) kv 65
 have hasks : ∀ w1, Ext (w.alloc (.cells #[.int .i64 k, .int .i64 n, .string s, kv] 65)) w1 -> Asks w1 61 #[.pointer (some ⟨U, 0, none⟩), .pointer (some ⟨V, 0, none⟩)] l (jrT (jcL d v)) :=
  fun w1 h1 => ⟨fun _ _ => rfl, fun y hy z w' hx' hA => ih y hy z w' U V dv vv ov d v hA ((E0.ext h1).ext hx')⟩
 have hcall := fun w1 h1 => jbM l kv _ _ w1 _ (hl.mono (x0.trans h1).sub) (hasks w1 h1)
 have hidx := jkq dv vv ov d v s _ E0.d E0.v
 obtain ⟨q, hq⟩ : ∃ q, q = l.any (jrT (jcL d v)) := ⟨_, rfl⟩
 obtain ⟨i, hi⟩ : ∃ i, i = jcL d v s := ⟨_, rfl⟩
 rw [e];rw [<- hq] at hcall ⊢;rw [<- hi] at hidx ⊢
 have HC := Lib.hid hcall
 have HI := Lib.hid hidx
 obtain ⟨c0, c1, c2, cf, -, -⟩ := E0
 obtain ⟨g0, g1, g2, g3, -⟩ := jhT hB
 clear hq hi hasks hcall hidx ih hl e ht E
 by_cases hk : k = 1 ∨ k = 14
 ·by_cases hneg : i < 0
  ·rcases hk with rfl | rfl
   all_goals
    go_enter Tryz.func61, Tryz.ntmps61
    go_wp2_with (first
     | (go_at_call 62; (with_reducible refine HI.out.mono ?_); rintro e w2 ⟨rfl, hx2⟩))
    go_ret
    exact ⟨by simp [hneg], x0.trans hx2⟩
  ·rcases hk with rfl | rfl
   all_goals
    go_enter Tryz.func61, Tryz.ntmps61
    go_wp2_with (first
     | (go_at_call 62; (with_reducible refine HI.out.mono ?_); rintro e w2 ⟨rfl, hx2⟩; replace cf := hx2.c cf; replace g3 := hx2.c g3)
     | (go_at_call 63; (with_reducible refine (HC.out _ hx2).mono ?_); rintro e w3 ⟨rfl, hx3⟩))
    go_ret
    exact ⟨by simp [hneg], (x0.trans hx2).trans hx3⟩
 ·have b1 : (k == 1) = false := by simp; omega
  have b2 : (k == 14) = false := by simp; omega
  have hx2 := Ext.refl (w.alloc (.cells #[.int .i64 k, .int .i64 n, .string s, kv] 65))
  clear hk
  go_enter Tryz.func61, Tryz.ntmps61
  go_wp2_with (first
   | (go_at_call 63; (with_reducible refine (HC.out _ hx2).mono ?_); rintro e w3 ⟨rfl, hx3⟩))
  go_ret
  exact ⟨by simp [b1, b2], x0.trans hx3⟩
mutual
theorem jnf : ∀ t : Nd, jrU t
 | .mk k n s l => jpM k n s l (jne l)
theorem jne : ∀ l : List Nd, ∀ x ∈ l, jrU x
 | [] => fun _ h => by cases h
 | t :: ts =>
  have h1 := jnf t
  have h2 := jne ts
  fun x hx => (List.mem_cons.1 hx).elim (fun e => e ▸ h1) (h2 x)
end
def jpg (u : Un) (t : Nd) : Bool := !jcE t || jrT (jcL u.d u.v) t
def jee (u : Un) : Int := if u.on.any (fun h => jpg u h.2) then 11 else 0
theorem jhV {u : Un} {k : Nat} (hk : k < u.on.length) (h : jpg u u.on[k].2 = true) : jee u = 11 := by
 unfold jee;rw [if_pos];exact List.any_eq_true.2 ⟨_, List.getElem_mem hk, h⟩
theorem jlY {u : Un} (h : ∀ j (hj : j < u.on.length), jpg u u.on[j].2 = false) : jee u = 0 := by
 unfold jee;rw [if_neg];rw [List.any_eq_true];rintro ⟨x, hx, hq⟩
 obtain ⟨j, hj, rfl⟩ := List.mem_iff_getElem.1 hx
 rw [h j hj] at hq; cases hq
theorem jys {w : World} {R : Nat} {a : Value} {T : TypeId} (h : w.heap[R]? = some (.cells #[a] T (0, 0))) : w.cell? ⟨R, 0, none⟩ = some a /\ w.frozen? ⟨R, 0, none⟩ = false := by
 simp [World.cell?, World.frozen?, h]
theorem jpJ {w : World} {R : Nat} {a b c : Value} {T : TypeId} (h : w.heap[R]? = some (.cells #[a, b, c] T (0, 0))) :
  w.cell? ⟨R, 0, none⟩ = some a /\ w.cell? ⟨R, 1, none⟩ = some b /\ w.cell? ⟨R, 2, none⟩ = some c := by
 simp [World.cell?, h]
theorem jtz {w : World} {R : Nat} {a b c d e : Value} {T : TypeId} (h : w.heap[R]? = some (.cells #[a, b, c, d, e] T (0, 0))) :
  w.cell? ⟨R, 0, none⟩ = some a /\ w.cell? ⟨R, 1, none⟩ = some b /\ w.cell? ⟨R, 2, none⟩ = some c /\ w.cell? ⟨R, 3, none⟩ = some d /\ w.cell? ⟨R, 4, none⟩ = some e := by
 simp [World.cell?, h]
theorem js1 {a b c d a' b' c' d' : Value} (h : Value.agg #[a, b, c, d] = .agg #[a', b', c', d']) : a = a' /\ b = b' /\ c = c' /\ d = d' := by simpa using h
set_option maxHeartbeats 2000000 in
theorem jpL (u : Un) (x : Value) (w : World) (hv : UnAt w.cell? x u) :
  Calls Tryz.prog 28 #[x] w (RetV w (.int .i64 (jee u))) := by
 obtain ⟨dv, vv, ov, rfl, hd, hvv, hon⟩ := hv
 have hon2 := hon
 obtain ⟨hl, p, b, off, cap, rfl, hcap, hp, hn, hin⟩ := hon2
 have x1 : Ext w ((w.alloc (.cells #[dv, vv, .slice p u.on.length cap] 26)).alloc (.cells #[.func (.func 61) #[] #[.pointer (some ⟨w.heap.size, 0, none⟩), .pointer (some ⟨w.heap.size + 1, 0, none⟩)]] 113)) :=
  ((Ext.refl w).alloc _).alloc _
 have hV : ((w.alloc (.cells #[dv, vv, .slice p u.on.length cap] 26)).alloc (.cells #[.func (.func 61) #[] #[.pointer (some ⟨w.heap.size, 0, none⟩), .pointer (some ⟨w.heap.size + 1, 0, none⟩)]] 113)).heap[w.heap.size + 1]? = some (.cells #[(.func (.func 61) #[] #[.pointer (some ⟨w.heap.size, 0, none⟩), .pointer (some ⟨w.heap.size + 1, 0, none⟩)])] 113 (0, 0)) := by
  have := heap_alloc_new (w.alloc (.cells #[dv, vv, .slice p u.on.length cap] 26)) (.cells #[.func (.func 61) #[] #[.pointer (some ⟨w.heap.size, 0, none⟩), .pointer (some ⟨w.heap.size + 1, 0, none⟩)]] 113)
  simp only [World.size_alloc] at this;exact this
 have hU := Ext.block ((Ext.refl _).alloc (.cells #[.func (.func 61) #[] #[.pointer (some ⟨w.heap.size, 0, none⟩), .pointer (some ⟨w.heap.size + 1, 0, none⟩)]] 113)) (heap_alloc_new w (.cells #[dv, vv, .slice p u.on.length cap] 26))
 have E : Env _ w.heap.size (w.heap.size + 1) dv vv (.slice p u.on.length cap) u.d u.v := ⟨(jpJ hU).1, (jpJ hU).2.1, (jpJ hU).2.2, (jys hV).1, hd.mono x1.sub, hvv.mono x1.sub⟩
 clear hU hV hd hvv hon
 go_enter Tryz.func28, Tryz.ntmps28
 go_wp2_with fail
 go_loopw [10] (fun iv wr => ∃ k : Nat, k <= u.on.length /\ iv = .int .i64 k /\ Ext w wr /\ Env wr w.heap.size (w.heap.size + 1) dv vv (.slice p u.on.length cap) u.d u.v /\ ∀ j (hj : j < u.on.length), j < k -> jpg u u.on[j].2 = false) (fun iv _ => u.on.length - (intOf iv).toNat)
 case atStart => exact ⟨0, by omega, rfl, x1, E, fun j hj h => absurd h (by omega)⟩
 case round =>
  clear x1 E
  obtain ⟨k, hk, rfl, hx, E, hno⟩ := hrel
  have HNO : Hid (∀ j (hj : j < u.on.length), j < k -> jpg u u.on[j].2 = false) := hno
  clear hno
  by_cases hlt : k < u.on.length
  ·obtain rfl : p = some ⟨b, off, none⟩ := by
    rcases hp with h | hp
    ·rw [h] at hlt; simp at hlt
    ·exact hp
   obtain ⟨-, -, v1, v2, v3, v4, c0, c1, c2, c3, c4, ht⟩ := hin k hlt
   replace c0 := hx.c c0
   replace c1 := hx.c c1
   replace c2 := hx.c c2
   replace c3 := hx.c c3
   replace c4 := hx.c c4
   have ht2 := Nd.At.mono hx.sub _ _ ht
   obtain ⟨hn0, hhn⟩ : ∃ z, z = u.on[k].1 := ⟨_, rfl⟩
   obtain ⟨t, htt⟩ : ∃ t, t = u.on[k].2 := ⟨_, rfl⟩
   rw [<- hhn] at c0;rw [<- htt] at ht2
   have HT : Hid (t = u.on[k].2) := htt
   obtain ⟨kv, hvv, -, -, -, -, p', b', o', c', hkv, -⟩ := ht2.parts
   subst hkv
   obtain ⟨rfl, rfl, rfl, rfl⟩ := js1 hvv
   clear hvv
   have hwell := fun w1 (h1 : Ext wr w1) => (joo t).use (Nd.At.mono h1.sub _ _ ht2)
   have hchk := fun w1 (h1 : Ext wr w1) => jnf t _ w1 _ _ _ _ _ _ _ (Nd.At.mono h1.sub _ _ ht2) (E.ext h1)
   obtain ⟨qa, hqa⟩ : ∃ q, q = jcE t := ⟨_, rfl⟩
   obtain ⟨qb, hqb⟩ : ∃ q, q = jrT (jcL u.d u.v) t := ⟨_, rfl⟩
   have hbad : jpg u t = (!qa || qb) := by rw [hqa, hqb]; rfl
   rw [<- hqa] at hwell;rw [<- hqb] at hchk
   have HW := Lib.hid hwell
   have HC := Lib.hid hchk
   have HB := Lib.hid hbad
   obtain ⟨e0, e1, e2, ef, -, -⟩ := (show Env wr _ _ _ _ _ _ _ from E)
   clear hin hp hn ht ht2 htt hhn hwell hchk hqa hqb hbad
   have hH := heap_alloc_new wr (.cells #[.int .i64 hn0, .int .i64 t.k, .int .i64 t.n, .string t.s, .slice p' t.kids.length c'] 67)
   cases qa with
   | false =>
    go_wp2_with (first
     | (go_at_call 64; refine (HW.out _ ((Ext.refl wr).alloc _)).mono ?_; rintro e w2 ⟨rfl, hx2⟩))
    go_ret
    refine ⟨?_, (hx.alloc _).trans hx2⟩;rw [jhV hlt (by rw [<- HT.out, HB.out]; rfl)];rfl
   | true =>
    have E1 := fun w2 (h2 : Ext wr w2) => E.ext h2
    have HE := Lib.hid E1
    clear E1
    cases qb with
    | true =>
     go_wp2_with (first
      | (go_at_call 64; refine (HW.out _ ((Ext.refl wr).alloc _)).mono ?_; rintro e w2 ⟨rfl, hx2⟩; obtain ⟨-, -, -, ef2, -, -⟩ := HE.out _ (((Ext.refl wr).alloc _).trans hx2); obtain ⟨g0, g1, g2, g3, g4⟩ := jtz (hx2.block hH))
      | (go_at_call 61; refine (HC.out _ (((Ext.refl wr).alloc _).trans hx2)).mono ?_; rintro e w3 ⟨rfl, hx3⟩))
     go_ret
     refine ⟨?_, ((hx.alloc _).trans hx2).trans hx3⟩;rw [jhV hlt (by rw [<- HT.out, HB.out]; rfl)];rfl
    | false =>
     go_wp2_with (first
      | (go_at_call 64; refine (HW.out _ ((Ext.refl wr).alloc _)).mono ?_; rintro e w2 ⟨rfl, hx2⟩; obtain ⟨-, -, -, ef2, -, -⟩ := HE.out _ (((Ext.refl wr).alloc _).trans hx2); obtain ⟨g0, g1, g2, g3, g4⟩ := jtz (hx2.block hH))
      | (go_at_call 61; refine (HC.out _ (((Ext.refl wr).alloc _).trans hx2)).mono ?_; rintro e w3 ⟨rfl, hx3⟩))
     go_roundw
     case rel => exact ⟨k + 1, by omega, by go_num, ((hx.alloc _).trans hx2).trans hx3, HE.out _ ((((Ext.refl wr).alloc _).trans hx2).trans hx3), fun j hj h => by
      by_cases hjk : j = k
      ·subst hjk; rw [<- HT.out, HB.out]; rfl
      ·exact HNO.out j hj (by omega)⟩
     case measure => simp [intOf]; omega
  ·clear hin
   obtain ⟨e0, e1, e2, ef, -, -⟩ := E
   go_wp2
   go_ret
   exact ⟨by rw [jlY (fun j hj => HNO.out j hj (by omega))]; rfl, hx⟩
end Go.Proofs.YtfbifdccmabdbaaGreatDoor
namespace Go.Proofs.YtfbifdccmabdbaaGreatDoor.Vm
open Go.RowKit Go.Shelf
set_option linter.unusedSimpArgs false
set_option linter.unusedVariables false
set_option maxRecDepth 100000
def opAll : List ByteArray := [jg3, pOr, jge, pMinus, jdy, jbG, pLt, pLe, pGt, pGe, jxh, pNe]
def arN (k : Int) (s : ByteArray) (m : Nat) : Bool :=
 if k = 11 then decide (m <= 3002)
 else if k = 12 ∨ k = 13 ∨ k = 14 ∨ k = 5 ∨ k = 6 ∨ k = 7 ∨ k = 10 then decide (m = 0)
 else if k = 15 then decide (m = 0) && builtL.any fun x => decide (s = x)
 else if k = 16 ∨ k = 1 ∨ k = 9 then decide (m = 1)
 else if k = 17 then decide (m = 1)
 else if k = 18 then decide (m = 2) && opAll.any fun x => decide (s = x)
 else if k = 8 ∨ k = 3 then decide (m = 2)
 else if k = 2 ∨ k = 4 then decide (m = 3)
 else false
theorem jty {k : Int} {s : ByteArray} {m : Nat} (h : arN k s m = true) : m <= 3002 := by
 unfold arN at h
 repeat' split at h
 all_goals (try rw [Bool.and_eq_true] at h); (try simp only [decide_eq_true_eq] at h); (first | omega | (have := h.1; omega) | cases h)
mutual
def wfN : Nt -> Prop
 | .mk k n s kids => arN k s kids.length = true /\ jtr kids
def jtr : List Nt -> Prop
 | [] => True
 | f :: l => wfN f /\ jtr l
end
theorem jop : ∀ {l : List Nt} {f : Nt}, jtr l -> f ∈ l -> wfN f
 | x :: r, f, h, hf => by
  unfold jtr at h
  rcases List.mem_cons.1 hf with rfl | hf
  ·exact h.1
  ·exact jop h.2 hf
theorem jrE : ∀ {l : List Nt}, (∀ f ∈ l, wfN f) -> jtr l
 | [], _ => by unfold jtr; trivial
 | x :: r, h => by
  unfold jtr;exact ⟨h x List.mem_cons_self, jrE fun f hf => h f (List.mem_cons_of_mem _ hf)⟩
theorem jbA {k n : Int} {s : ByteArray} {kids : List Nt} (h : arN k s kids.length = true) (hk : ∀ f ∈ kids, wfN f) : wfN (.mk k n s kids) := by
 unfold wfN;exact ⟨h, jrE hk⟩
def WP (op : List Tk -> Pn) : Prop := ∀ ts f r, ts.length <= 3002 -> op ts = .ok f r -> wfN f /\ ∃ a, ts = a ++ r
def WK (k : Nt -> List Tk -> Pn) : Prop := ∀ f, wfN f -> WP (k f)
theorem WP.syn : WP synE := fun ts f r _ h => by cases h
theorem WP.bad (x : List Tk -> Int) (y : Int) : WP (fun ts => .bad (x ts) y) := fun ts f r _ h => by cases h
theorem WP.okT {f : Nt} (hf : wfN f) : WP (fun r => .ok f r) := fun ts g r _ h => by cases h; exact ⟨hf, [], rfl⟩
theorem WP.andThen {op : List Tk -> Pn} {k : Nt -> List Tk -> Pn} (h1 : WP op) (h2 : WK k) : WP (fun ts => (op ts).andThen k) := fun ts f r hz h => by
 cases ho : op ts with
 | bad x y => simp only [ho] at h; cases h
 | ok g u =>
  simp only [ho] at h
  obtain ⟨a1, a, a2⟩ := h1 ts g u hz ho
  have hu : u.length <= 3002 := by rw [a2, List.length_append] at hz; omega
  obtain ⟨b1, b, b2⟩ := h2 g a1 u f r hu h
  exact ⟨b1, a ++ b, by rw [a2, b2, List.append_assoc]⟩
theorem WP.tail {op : List Tk -> Pn} (h : WP op) : WP (fun ts => op ts.tail) := fun ts f r hz ho => by
 obtain ⟨a1, a, a2⟩ := h _ f r (by rw [List.length_tail]; omega) ho
 cases ts with
 | nil => exact ⟨a1, [], (List.append_eq_nil_iff.1 a2.symm).2.symm⟩
 | cons t ts => exact ⟨a1, t :: a, by simpa using a2⟩
theorem WP.ite (c : List Tk -> Prop) [DecidablePred c] {op1 op2 : List Tk -> Pn} (h1 : WP op1) (h2 : WP op2) : WP (fun ts => if c ts then op1 ts else op2 ts) := fun ts f r hz h => by
 dsimp only at h
 split at h
 ·exact h1 ts f r hz h
 ·exact h2 ts f r hz h
theorem WP.xpt (s : ByteArray) {k : List Tk -> Pn} (h : WP k) : WP (fun ts => Vm.xpt s ts k) := WP.ite (fun ts => isP s ts = true) h.tail WP.syn
theorem WP.num (limit : Int) {k : Int -> List Tk -> Pn} (h : ∀ n, WP (k n)) : WP (fun ts => jjL limit ts k) := fun ts f r hz ho => by
 unfold jjL at ho
 dsimp only at ho
 split at ho
 ·cases ho
 ·split at ho
  ·cases ho
  ·exact (h _).tail ts f r hz ho
structure WPa (p : Pa) : Prop where
 no : WP p.no
 un : WP p.un
 ex : WP p.ex
 bl : WP p.bl
def jue (low : Option Pa) : Prop := ∀ p, low = some p -> WPa p
theorem WP.nest {low : Option Pa} (hl : jue low) : WP (jhF low) := by
 cases low with
 | none => exact WP.ite (fun ts => isP pLp ts = true) (WP.bad _ _) WP.syn
 | some p => exact WP.ite (fun ts => isP pLp ts = true) (((hl p rfl).ex.andThen fun n hn => WP.xpt pRp (WP.okT hn)).tail) WP.syn
theorem WP.tok {op : Tk -> List Tk -> Pn} (h : ∀ t, WP (op t)) : WP (fun ts => op (hd ts) ts.tail) := fun ts f r hz ho => (h (hd ts)).tail ts f r hz ho
theorem WP.prim {low : Option Pa} (hl : jue low) : WP (jjl low) := by
 have lf : ∀ (k n : Int) (s : ByteArray), arN k s 0 = true -> wfN (.mk k n s []) := fun k n s h => jbA h (by simp)
 refine WP.ite (fun ts => isP pLp ts = true) (WP.nest hl) <|
  WP.ite (fun ts => isP jrz ts = true) (((WP.nest hl).andThen fun n hn => WP.okT (jbA rfl fun f hf => by rw [List.mem_singleton.1 hf]; exact hn)).tail) <|
  WP.ite (fun ts => (hd ts).kind = 2) (WP.tok (op := fun t r => .ok (.mk 12 t.n eB []) r) fun t => WP.okT (lf _ _ _ rfl)) <|
  WP.ite (fun ts => isP jrB ts = true) (WP.okT (lf 13 1 eB rfl)).tail <|
  WP.ite (fun ts => isP jlz ts = true) (WP.okT (lf 13 0 eB rfl)).tail <|
  WP.ite (fun ts => jg8 ts = true) (WP.tok (op := fun t r => .ok (.mk 14 0 t.text []) r) fun t => WP.okT (lf _ _ _ rfl)) ?_
 intro ts f r hz h
 dsimp only at h
 by_cases hb : jwK ts = true
 ·rw [if_pos hb] at h
  cases h
  refine ⟨lf 15 0 _ ?_, ?_⟩
  ·unfold jwK at hb;rw [Bool.and_eq_true] at hb
   show (decide (0 = 0) && _) = true
   rw [hb.2]; rfl
  ·cases ts with
   | nil => exact ⟨[], rfl⟩
   | cons t ts => exact ⟨[t], rfl⟩
 ·rw [if_neg hb] at h
  cases h
theorem WP.pre (s : ByteArray) {op : Option (List Tk -> Pn)} (h : ∀ f, op = some f -> WP f) {op2 : List Tk -> Pn} (h2 : WP op2) : WP (fun ts => if isP s ts = true then jrR s op ts else op2 ts) := by
 cases op with
 | none => exact WP.ite (fun ts => isP s ts = true) (WP.bad _ _) h2
 | some f => exact WP.ite (fun ts => isP s ts = true) (((h f rfl).andThen fun n hn => WP.okT (jbA rfl fun f hf => by rw [List.mem_singleton.1 hf]; exact hn)).tail) h2
theorem WP.una {low : Option Pa} (hl : jue low) : WP (jiA low) :=
 WP.pre pMinus (op := low.map fun p : Pa => p.un) (fun f hf => by
  cases low with
  | none => cases hf
  | some p => cases hf; exact (hl p rfl).un) (WP.prim hl)
theorem jgv {f g h : Nt} (hf : wfN f) (hg : wfN g) (hh : h ∈ [f, g]) : wfN h := by
 simp only [List.mem_cons, List.not_mem_nil, or_false] at hh
 rcases hh with rfl | rfl <;> assumption
theorem jpv {signs : List ByteArray} {ts : List Tk} (hs : ∀ s ∈ signs, (opAll.any fun x => decide (s = x)) = true) (h : jlN signs ts = true) : (opAll.any fun x => decide ((hd ts).text = x)) = true := by
 unfold jlN at h;rw [List.any_eq_true] at h
 obtain ⟨s, h1, h2⟩ := h
 unfold isP at h2;rw [Bool.and_eq_true, decide_eq_true_eq] at h2;rw [h2.1];exact hs s h1
theorem jtx {s : ByteArray} (h : (opAll.any fun x => decide (s = x)) = true) : arN 18 s 2 = true := by
 show (decide (2 = 2) && _) = true
 rw [h]; rfl
theorem WP.chn {op : List Tk -> Pn} {signs : List ByteArray} (hs : ∀ s ∈ signs, (opAll.any fun x => decide (s = x)) = true) (h : WP op) : WP (jcZ op signs) := by
 have go : ∀ (n : Nat) (l : Nt), wfN l -> WP (jeH op signs n l) := fun n => by
  induction n with
  | zero => intro l hl; exact WP.okT hl
  | succ n ih =>
   intro l hl ts f r hz ho;rw [jeH] at ho
   by_cases ha : jlN signs ts = true
   ·rw [if_pos ha] at ho;exact (h.andThen (k := fun f r => jeH op signs n (.mk 18 0 (hd ts).text [l, f]) r) fun g hg => ih _ (jbA (jtx (jpv hs ha)) fun f hf => jgv hl hg hf)).tail ts f r hz ho
   ·rw [if_neg ha] at ho;exact WP.okT hl ts f r hz ho
 exact h.andThen (k := fun f r => jeH op signs r.length f r) fun f hf ts g r hz ho => go _ f hf ts g r hz ho
theorem WP.sum {low : Option Pa} (hl : jue low) : WP (jvA low) := WP.chn (by decide) (WP.chn (by decide) (WP.una hl))
theorem WP.nt {low : Option Pa} (hl : jue low) : WP (ntG low) :=
 WP.pre pNot (op := low.map fun p : Pa => p.no) (fun f hf => by
  cases low with
  | none => cases hf
  | some p => cases hf; exact (hl p rfl).no) <| (WP.sum hl).andThen fun l hw => fun r f r' hz ho => by
   by_cases ha : jlN cmpL r = true
   ·rw [if_pos ha] at ho;exact ((WP.sum hl).andThen (k := fun m r' => .ok (.mk 18 0 (hd r).text [l, m]) r') fun g hg => WP.okT (jbA (jtx (jpv (by decide) ha)) fun f hf => jgv hw hg hf)).tail r f r' hz ho
   ·rw [if_neg ha] at ho;exact WP.okT hw r f r' hz ho
theorem WP.exp {low : Option Pa} (hl : jue low) : WP (jvV low) := WP.chn (by decide) (WP.chn (by decide) (WP.nt hl))
theorem jjg {f g : Nt} (hf : wfN f) (hg : g ∈ [f]) : wfN g := by rw [List.mem_singleton.1 hg]; exact hf
theorem jfQ {f g h i : Nt} (hf : wfN f) (hg : wfN g) (hh : wfN h) (hi : i ∈ [f, g, h]) : wfN i := by
 simp only [List.mem_cons, List.not_mem_nil, or_false] at hi
 rcases hi with rfl | rfl | rfl <;> assumption
theorem WP.stm {ex bl : List Tk -> Pn} (hx : WP ex) (hb : WP bl) : WP (stG ex bl) := by
 have semi : ∀ f : Nt, wfN f -> WP (fun r => Vm.xpt jaO r fun r => .ok f r) := fun f hf => WP.xpt jaO (WP.okT hf)
 have lf : ∀ (k n : Int), arN k eB 0 = true -> wfN (.mk k n eB []) := fun k n h => jbA h (by simp)
 exact WP.ite (fun ts => jg8 ts = true) (WP.tok (op := fun t ts => Vm.xpt pEq ts fun r => (ex r).andThen fun e r => Vm.xpt jaO r fun r => .ok (.mk 1 0 t.text [e]) r) fun t => WP.xpt pEq (hx.andThen fun e he => semi _ (jbA rfl fun f hf => jjg he hf))) <|
  WP.ite (fun ts => (hd ts).kind ≠ 1) WP.syn <|
  WP.ite (fun ts => (hd ts).text = wIf) ((hx.andThen fun c hc => hb.andThen fun b hb2 => WP.ite (fun r => isP jly r = true) ((hb.andThen fun o ho => WP.okT (jbA rfl fun f hf => jfQ hc hb2 ho hf)).tail) (WP.okT (jbA rfl fun f hf => jfQ hc hb2 (jbA rfl (by simp)) hf))).tail) <|
  WP.ite (fun ts => (hd ts).text = jcy) ((hx.andThen fun c hc => hb.andThen fun b hb2 => WP.okT (jbA rfl fun f hf => jgv hc hb2 hf)).tail) <|
  WP.ite (fun ts => (hd ts).text = jfj) ((hx.andThen fun t ht => WP.xpt jb2 (WP.num 30 fun n => WP.xpt jb2 (hx.andThen fun a ha => WP.xpt jb2 (hx.andThen fun b hb2 => semi _ (jbA rfl fun f hf => jfQ ht ha hb2 hf))))).tail) <|
  WP.ite (fun ts => (hd ts).text = jbu) ((WP.num 8 fun n => semi _ (lf 5 n rfl)).tail) <|
  WP.ite (fun ts => (hd ts).text = jbt) ((WP.num 8 fun n => semi _ (lf 6 n rfl)).tail) <|
  WP.ite (fun ts => (hd ts).text = jfl) ((semi _ (lf 7 0 rfl)).tail) <|
  WP.ite (fun ts => (hd ts).text = jcx) ((hx.andThen fun a ha => WP.xpt jb2 (hx.andThen fun b hb2 => semi _ (jbA rfl fun f hf => jgv ha hb2 hf))).tail) <|
  WP.ite (fun ts => (hd ts).text = wFail) ((hx.andThen fun a ha => semi _ (jbA rfl fun f hf => jjg ha hf)).tail) <|
  WP.ite (fun ts => (hd ts).text = jfk) ((semi _ (lf 10 0 rfl)).tail) WP.syn
theorem WP.blk {st : List Tk -> Pn} (h : WP st) : WP (bkF st) := by
 have go : ∀ (n : Nat) (acc : List Nt), (∀ f ∈ acc, wfN f) -> acc.length + n <= 3002 -> WP (jph st n acc) := fun n => by
  induction n with
  | zero => intro acc ha hz ts f r _ ho; cases ho
  | succ n ih =>
   intro acc ha hz ts f r hz2 ho;rw [jph] at ho
   by_cases hp : isP pRb ts = true
   ·rw [if_pos hp] at ho;cases ho;refine ⟨jbA (decide_eq_true (by omega)) ha, ?_⟩
    cases ts with
    | nil => exact ⟨[], rfl⟩
    | cons t ts => exact ⟨[t], rfl⟩
   ·rw [if_neg hp] at ho
    exact h.andThen (k := fun s r => jph st n (acc ++ [s]) r) (fun s hs => ih (acc ++ [s]) (fun f hf => by
     rcases List.mem_append.1 hf with hf | hf
     ·exact ha f hf
     ·exact jjg hs hf) (by rw [List.length_append, List.length_singleton]; omega)) ts f r hz2 ho
 exact WP.xpt pLb (k := fun r => jph st r.length [] r) fun ts f r hz ho => go ts.length [] (by simp) (by simpa using hz) ts f r hz ho
theorem WP.bkN : WP bkN := WP.ite (fun ts => isP pLb ts = true) (WP.bad _ _) WP.syn
theorem WPa.pa {low : Option Pa} (hl : jue low) : WPa (paG low) where
 no := WP.nt hl
 un := WP.una hl
 ex := WP.exp hl
 bl := WP.blk (WP.stm (WP.exp hl) (by
  cases low with
  | none => exact WP.bkN
  | some p => exact (hl p rfl).bl))
theorem wpa : ∀ n, WPa (pa n)
 | 0 => WPa.pa fun p h => by cases h
 | n + 1 => WPa.pa fun p h => by cases h; exact wpa n
structure WfU (u : Ut) : Prop where
 du : u.du.length + u.vo.length <= 16
 on : ∀ h ∈ u.on, 0 <= h.1 /\ h.1 < 40 /\ wfN h.2
 nd : u.on.Pairwise fun a b => a.1 ≠ b.1
 ol : u.on.length <= 4000
mutual
def toD : Nt -> Nd
 | .mk k n s kids => .mk k n s (ju7 kids)
def ju7 : List Nt -> List Nd
 | [] => []
 | f :: l => toD f :: ju7 l
end
theorem joj : ∀ l : List Nt, ju7 l = l.map toD
 | [] => rfl
 | f :: l => by rw [ju7, joj l]; rfl
def toU (u : Ut) : Un := ⟨u.du, u.vo, u.on.map fun h => (h.1, toD h.2)⟩
def jw4 (C D : Rd) : Prop := ∀ b o u, C ⟨b, o, none⟩ = some u -> D ⟨b, o, none⟩ = some u
theorem jdA {E : Env} {b : Nat} : ∀ {l m : List A} {off : Nat}, A.repAt (l ++ m) E b off ↔ A.repAt l E b off /\ A.repAt m E b (off + l.length)
 | [], m, off => by simp [A.repAt]
 | a :: r, m, off => by
  simp only [List.cons_append, A.repAt];rw [jdA (l := r)];simp only [List.length_cons, Nat.add_assoc, Nat.add_comm 1]
  constructor
  ·rintro ⟨h1, h2, h3⟩; exact ⟨⟨h1, h2⟩, h3⟩
  ·rintro ⟨⟨h1, h2⟩, h3⟩; exact ⟨h1, h2, h3⟩
theorem jr5 {E : Env} {n : Int} {u : Value} : (A.v (.int .i64 n)).rep E u ↔ u = .int .i64 n /\ (-9223372036854775808 <= n /\ n <= 9223372036854775807) := by
 rw [A.rep_v_iff]
 constructor
 ·rintro ⟨h1, h2⟩; exact ⟨h1, okV_int.1 h2⟩
 ·rintro ⟨h1, h2⟩; exact ⟨h1, okV_int.2 h2⟩
theorem rep_vsC {E : Env} {n : ByteArray} {u : Value} : (A.v (.string n)).rep E u ↔ u = .string n /\ n.size <= maxLen := by
 rw [A.rep_v_iff]; exact Iff.rfl
mutual
theorem jwY : ∀ (t : Nt) {E : Env} {D : Rd} {v : Value}, jw4 E.C D -> wfN t -> (A.agg (nt0 t)).rep E v -> (toD t).At D v
 | .mk k n s kids, E, D, v, hD, hs, h => by
  unfold wfN at hs
  have hl : kids.length <= 3002 := jty hs.1
  unfold A.rep nt0 at h
  obtain ⟨us, rfl, h⟩ := h
  obtain ⟨us⟩ := us
  simp only [A.repC] at h
  obtain ⟨_, _, rfl, -, g1, _, _, rfl, -, g2, _, _, rfl, -, g3, _, _, rfl, -, g4, rfl⟩ := h
  unfold intA at g1 g2;unfold jbn at g3;rw [jr5] at g1 g2;rw [rep_vsC] at g3
  obtain ⟨rfl, g1⟩ := g1
  obtain ⟨rfl, g2⟩ := g2
  obtain ⟨rfl, g3⟩ := g3
  unfold A.rep at g4
  obtain ⟨_, _, p, b, off, cap, rfl, h6, h7, h8, h9⟩ := g4
  unfold toD Nd.At
  have hlen : (ju7 kids).length = kids.length := by rw [joj, List.length_map]
  rw [hlen];refine ⟨g1, g2, g3, by omega, p, b, off, cap, rfl, h6, ?_, h8, jwZ kids (E := E.per) hD hs.2 h9⟩
  rcases h7 with h7 | h7
  ·exact .inl (List.eq_nil_of_length_eq_zero (by rw [hlen]; exact h7))
  ·exact .inr h7
theorem jwZ : ∀ (l : List Nt) {E : Env} {D : Rd} {b off : Nat}, jw4 E.C D -> jtr l -> A.repAt (jv2 l) E b off -> Nd.In D b (ju7 l) off
 | [], _, _, _, _, _, _, _ => by unfold ju7 Nd.In; trivial
 | t :: ts, E, D, b, off, hD, hs, h => by
  unfold jtr at hs;unfold jv2 at h
  have hl4 : (nt0 t).length = 4 := by rw [jqA]; rfl
  rw [jdA, hl4] at h
  obtain ⟨h1, h2⟩ := h
  unfold ju7 Nd.In;refine ⟨?_, jwZ ts hD hs.2 h2⟩
  obtain ⟨us, k1, k2⟩ := A.repAt_vals h1
  have hl := A.repC_len k1
  rw [hl4] at hl
  match us, hl, k1, k2 with
  | [v0, v1, v2, v3], _, k1, k2 =>
   refine ⟨v0, v1, v2, v3, hD _ _ _ (k2 0 v0 rfl), hD _ _ _ (k2 1 v1 rfl), hD _ _ _ (k2 2 v2 rfl), hD _ _ _ (k2 3 v3 rfl), jwY t (E := E) hD hs.1 ?_⟩;unfold A.rep;exact ⟨_, rfl, k1⟩
end
theorem jis {α : Type} {E : Env} {b : Nat} (f : α -> Value) (hf : ∀ x, (f x).oneCell' = true) : ∀ {l : List α} {off : Nat}, A.repAt (l.map fun x => .v (f x)) E b off ↔ ∀ i (hi : i < l.length), E.C ⟨b, off + i, none⟩ = some (f l[i]) /\ okV (f l[i])
 | [], off => by simp [A.repAt]
 | x :: l, off => by
  simp only [List.map_cons, A.repAt];rw [jis f hf (l := l)]
  constructor
  ·rintro ⟨⟨u, h1, -, h3⟩, h4⟩ i hi;rw [A.rep_v_iff] at h3
   cases i with
   | zero => rw [Nat.add_zero, h1, h3.1]; exact ⟨rfl, h3.2⟩
   | succ i =>
    have := h4 i (by simpa using hi)
    rw [show off + (i + 1) = off + 1 + i by omega]; exact this
  ·intro h;refine ⟨⟨f x, by have := (h 0 (by simp)).1; simpa using this, hf x, A.rep_v_iff.2 ⟨rfl, (h 0 (by simp)).2⟩⟩, fun i hi => ?_⟩
   have := h (i + 1) (by simpa using hi)
   rw [show off + 1 + i = off + (i + 1) by omega]; exact this
theorem jo5 {E : Env} {D : Rd} {v : Value} {l : List ByteArray} (hD : jw4 E.C D) (hl : l.length <= 1000000000) (h : (A.sl 1 l.length (txA l)).rep E v) : StrsAt D v l := by
 unfold txA jbn at h;unfold A.rep at h
 obtain ⟨_, _, p, b, off, cap, rfl, h6, h7, h8, h9⟩ := h
 have h9 := (jis (E := E.per) Value.string (fun _ => rfl)).1 h9
 refine ⟨hl, fun s hs => ?_, p, b, off, cap, rfl, h6, ?_, h8, fun i hi => ?_⟩
 ·obtain ⟨i, hi, rfl⟩ := List.mem_iff_getElem.1 hs
  exact (h9 i hi).2
 ·rcases h7 with h7 | h7
  ·exact .inl (List.eq_nil_of_length_eq_zero h7)
  ·exact .inr h7
 ·have := (h9 i hi).1
  simp [List.getD_eq_getElem?_getD, hi]
  exact hD _ _ _ this
theorem jir {α : Type} {E : Env} {b k : Nat} (f : α -> List A) (hf : ∀ x, (f x).length = k) : ∀ {l : List α} {off : Nat}, A.repAt (l.flatMap f) E b off ↔ ∀ i (hi : i < l.length), A.repAt (f l[i]) E b (off + i * k)
 | [], off => by simp [A.repAt]
 | x :: l, off => by
  rw [List.flatMap_cons, jdA, jir f hf (l := l), hf]
  constructor
  ·rintro ⟨h1, h2⟩ i hi
   cases i with
   | zero => simpa using h1
   | succ i =>
    have := h2 i (by simpa using hi)
    rw [show off + (i + 1) * k = off + k + i * k by rw [Nat.add_mul]; omega]; exact this
  ·intro h;refine ⟨by have := h 0 (by simp); rw [Nat.zero_mul, Nat.add_zero] at this; exact this, fun i hi => ?_⟩
   have := h (i + 1) (by simpa using hi)
   rw [show off + k + i * k = off + (i + 1) * k by rw [Nat.add_mul]; omega]; exact this
theorem jtS {E : Env} {D : Rd} {v : Value} {u : Ut} (hD : jw4 E.C D) (hs : WfU u) (h : (A.agg (utA u)).rep E v) : UnAt D v (toU u) := by
 unfold A.rep utA at h
 obtain ⟨us, rfl, h⟩ := h
 obtain ⟨us⟩ := us
 simp only [A.repC] at h
 obtain ⟨dv, _, rfl, -, g1, vv, _, rfl, -, g2, ov, _, rfl, -, g3, rfl⟩ := h
 refine ⟨dv, vv, ov, rfl, jo5 (l := u.du) hD (by have := hs.du; omega) g1, jo5 (l := u.vo) hD (by have := hs.du; omega) g2, ?_⟩;unfold A.rep at g3
 obtain ⟨_, _, p, b, off, cap, rfl, h6, h7, h8, h9⟩ := g3
 have hlen : (toU u).on.length = u.on.length := List.length_map ..
 unfold HsAt;rw [hlen];refine ⟨by have := hs.ol; omega, p, b, off, cap, rfl, h6, ?_, h8, fun i hi => ?_⟩
 ·rcases h7 with h7 | h7
  ·exact .inl (List.eq_nil_of_length_eq_zero (by rw [hlen]; exact h7))
  ·exact .inr h7
 ·rw [hlen] at hi
  have hon : (toU u).on[i] = (u.on[i].1, toD u.on[i].2) := by simp [toU]
  rw [hon];unfold jgT at h9
  have h10 := (jir (E := E.per) (k := 5) hnA (fun _ => rfl)).1 h9 i hi
  obtain ⟨us, k1, k2⟩ := A.repAt_vals h10
  have hl := A.repC_len k1
  rw [show (hnA u.on[i]).length = 5 from rfl] at hl
  match us, hl, k1, k2 with
  | [v0, v1, v2, v3, v4], _, k1, k2 =>
   unfold hnA intA A.repC at k1
   obtain ⟨_, _, e, -, g1, k3⟩ := k1
   cases e
   rw [jr5] at g1
   obtain ⟨rfl, g4, g5⟩ := g1
   refine ⟨g4, g5, v1, v2, v3, v4, hD _ _ _ (k2 0 _ rfl), hD _ _ _ (k2 1 v1 rfl), hD _ _ _ (k2 2 v2 rfl), hD _ _ _ (k2 3 v3 rfl), hD _ _ _ (k2 4 v4 rfl), jwY u.on[i].2 (E := E) hD (hs.on _ (List.getElem_mem hi)).2.2 ?_⟩;unfold A.rep;rw [jqA];exact ⟨_, rfl, A.repC.mono _ E.per_le k3⟩
theorem jnM {w : World} {C : Rd} (h : Sub C (see w)) : jw4 C w.cell? := fun b o u hc => h _ _ hc
def ixU (u : Ut) (s : ByteArray) : Int := jcL u.du u.vo s
theorem ju4 (u : Ut) (hu : WfU u) : Spec Tryz.prog 28 [] [.agg (utA u)] fun _ r => r = intA (jee (toU u)) := by
 refine jfb (jem Tryz.func28 rfl (by kernel_rfl)) fun w C vals h0 h1 h2 => ?_
 unfold A.repL at h2
 obtain ⟨v, us, rfl, h2, h3⟩ := h2
 unfold A.repL at h3;subst h3;refine (jpL (toU u) v w (jtS (jnM h1) hu h2)).mono ?_;rintro e w' ⟨rfl, hx⟩;exact ⟨_, rfl, hx, A.rep_v (okV_int.2 (by unfold jee; split <;> decide))⟩
theorem jnX (l : List ByteArray) (s : ByteArray) : -1 <= jhH l s /\ jhH l s <= l.length := by
 have := jmu l s
 omega
theorem juQ {u : Ut} (hu : WfU u) (s : ByteArray) : -1 <= ixU u s /\ ixU u s <= 100 := by
 have h1 := jnX u.du s
 have h2 := jnX u.vo s
 have h3 := hu.du
 unfold ixU jcL
 repeat' split
 all_goals omega
theorem jxw (u : Ut) (hu : WfU u) (s : ByteArray) : Spec Tryz.prog 62 [] [.agg (utA u), jbn s] fun _ r => r = intA (ixU u s) := by
 have hb := juQ hu s
 refine jfb (jem Tryz.func62 rfl (by kernel_rfl)) fun w C vals h0 h1 h2 => ?_
 unfold A.repL at h2
 obtain ⟨v, us, rfl, h2, h3⟩ := h2
 unfold A.repL at h3
 obtain ⟨v2, us2, rfl, h3, h4⟩ := h3
 unfold A.repL at h4;subst h4
 obtain ⟨rfl, -⟩ := rep_vsC.1 h3
 obtain ⟨dv, vv, ov, rfl, g1, g2, g3⟩ := jtS (jnM h1) hu h2
 refine (jkq dv vv ov u.du u.vo s w g1 g2).mono ?_;rintro e w' ⟨rfl, hx⟩;exact ⟨_, rfl, hx, A.rep_v (by have h := (okA_int (n := ixU u s)).2 (by omega); unfold okA at h; exact h)⟩
theorem jnw (x : Int × Nt) : ∀ l : List (Int × Nt), (jsx x l).Perm (x :: l)
 | [] => .refl _
 | y :: l => by
  rw [jsx]
  split
  ·exact .refl _
  ·exact ((jnw x l).cons y).trans (.swap x y l)
theorem jfa : ∀ l : List (Int × Nt), (jfO l).Perm l
 | [] => .refl _
 | x :: l => (jnw x (jfO l)).trans ((jfa l).cons x)
structure WfH (l : List (Int × Nt)) : Prop where
 on : ∀ h ∈ l, 0 <= h.1 /\ h.1 < 40 /\ wfN h.2
 nd : l.Pairwise fun a b => a.1 ≠ b.1
theorem WfH.sort {l : List (Int × Nt)} (h : WfH l) : WfH (jfO l) where
 on := fun x hx => h.on x ((jfa l).mem_iff.1 hx)
 nd := ((jfa l).pairwise_iff (fun {a b} hab => fun e => hab e.symm)).2 h.nd
def TkN (ts : List Tk) : Prop := ∀ t ∈ ts, 0 <= t.n
theorem TkN.suf {a r : List Tk} (h : TkN (a ++ r)) : TkN r := fun t ht => h t (List.mem_append_right _ ht)
theorem TkN.tail {ts : List Tk} (h : TkN ts) : TkN ts.tail := fun t ht => h t (List.mem_of_mem_tail ht)
theorem TkN.hd {ts : List Tk} (h : TkN ts) : 0 <= (Vm.hd ts).n := by
 cases ts with
 | nil => exact Int.le_refl 0
 | cons t ts => exact h t List.mem_cons_self
theorem jyB {ts r : List Tk} {n : Int} (hz : TkN ts) (h : hnF ts = .ok n r) : 0 <= n /\ n < 40 /\ ∃ a, ts = a ++ r := by
 have suf : ∀ ts : List Tk, ∃ a, ts = a ++ ts.tail := fun ts => by
  cases ts with
  | nil => exact ⟨[], rfl⟩
  | cons t ts => exact ⟨[t], rfl⟩
 have num : ∀ (limit off : Int) (q : List Tk), TkN q -> jpj limit off q = .ok n r -> off <= n /\ n < off + limit /\ ∃ a, q = a ++ r := fun limit off q hq h => by
  unfold jpj at h
  split at h
  ·cases h
  ·split at h
   ·cases h
   ·cases h
    have := hq.hd
    exact ⟨by omega, by omega, suf q⟩
 obtain ⟨a, ha⟩ := suf ts
 unfold hnF at h
 split at h
 ·cases h; exact ⟨by omega, by omega, suf ts⟩
 ·split at h
  ·cases h; exact ⟨by omega, by omega, suf ts⟩
  ·split at h
   ·obtain ⟨h1, h2, b, h3⟩ := num 8 2 _ hz.tail h
    exact ⟨by omega, by omega, a ++ b, by rw [List.append_assoc, <- h3]; exact ha⟩
   ·split at h
    ·obtain ⟨h1, h2, b, h3⟩ := num 30 10 _ hz.tail h
     exact ⟨by omega, by omega, a ++ b, by rw [List.append_assoc, <- h3]; exact ha⟩
    ·cases h
theorem jwG (du vo : List ByteArray) (hn : du.length + vo.length <= 16) : ∀ (n : Nat) (hs : List (Int × Nt)) (ts : List Tk) (u : Ut), TkN ts -> ts.length <= 3002 -> hs.length + n <= 4000 -> WfH hs -> jso du vo n hs ts = .ok u -> WfU u
 | 0, hs, ts, u, _, _, _, _, h => by cases h
 | n + 1, hs, ts, u, hz, hl, hb, hw, h => by
  rw [jso] at h
  split at h
  ·cases h
   exact ⟨hn, hw.sort.on, hw.sort.nd, by show (jfO hs).length <= _; rw [(jfa hs).length_eq]; omega⟩
  ·split at h
   ·cases h
   ·cases hh : hnF ts.tail with
    | bad x y => rw [hh] at h; cases h
    | ok k r =>
     rw [hh] at h
     obtain ⟨k0, k1, a, ha⟩ := jyB hz.tail hh
     dsimp only at h
     split at h
     ·cases h
     ·rename_i hdup
      cases hbl : (pa 19).bl r with
      | bad x y => rw [hbl] at h; cases h
      | ok b r2 =>
       rw [hbl] at h
       have hr : r.length <= 3002 := by
        have := congrArg List.length ha
        rw [List.length_append, List.length_tail] at this;omega
       obtain ⟨wb, a2, ha2⟩ := (wpa 19).bl r b r2 hr hbl
       have hzr : TkN r := by
        have h1 := hz.tail
        rw [ha] at h1;exact h1.suf
       refine jwG du vo hn n (hs ++ [(k, b)]) r2 u (by rw [ha2] at hzr; exact hzr.suf) (by
        rw [ha2, List.length_append] at hr; omega) (by rw [List.length_append, List.length_singleton]; omega) ?_ h
       refine ⟨fun x hx => ?_, List.pairwise_append.2 ⟨hw.nd, List.pairwise_singleton _ _, fun x hx y hy => ?_⟩⟩
       ·rcases List.mem_append.1 hx with hx | hx
        ·exact hw.on x hx
        ·rw [List.mem_singleton.1 hx]; exact ⟨k0, k1, wb⟩
       ·rw [List.mem_singleton.1 hy];intro e;refine hdup ?_;rw [List.any_eq_true];exact ⟨x, hx, decide_eq_true e⟩
theorem jux : ∀ (n : Nat) (names out : List ByteArray) (ts : List Tk) (names' out' : List ByteArray) (r : List Tk), names.length <= 16 -> jk6 n names out ts = .ok names' out' r -> names'.length <= 16 /\ names'.length + out.length = names.length + out'.length /\ ∃ a, ts = a ++ r
 | 0, names, out, ts, names', out', r, _, h => by cases h
 | n + 1, names, out, ts, names', out', r, hl, h => by
  have suf : ∀ ts : List Tk, ∃ a, ts = a ++ ts.tail := fun ts => by
   cases ts with
   | nil => exact ⟨[], rfl⟩
   | cons t ts => exact ⟨[t], rfl⟩
  obtain ⟨a1, h1⟩ := suf ts
  obtain ⟨a2, h2⟩ := suf ts.tail
  obtain ⟨a3, h3⟩ := suf ts.tail.tail
  rw [jk6] at h
  split at h
  ·cases h
  ·split at h
   ·cases h
   ·split at h
    ·cases h
    ·split at h
     ·obtain ⟨g1, g2, b, g3⟩ := jux n _ _ _ _ _ _ (by rw [List.length_append, List.length_singleton]; omega) h
      rw [List.length_append, List.length_append, List.length_singleton] at g2;exact ⟨g1, by omega, a1 ++ (a2 ++ b), by rw [List.append_assoc, List.append_assoc, <- g3, <- h2]; exact h1⟩
     ·split at h
      ·cases h
       refine ⟨by rw [List.length_append, List.length_singleton]; omega, by rw [List.length_append, List.length_append, List.length_singleton]; omega, a1 ++ (a2 ++ a3), by rw [List.append_assoc, List.append_assoc, <- h3, <- h2]; exact h1⟩
      ·cases h
theorem juw : ∀ (n : Nat) (names du vo : List ByteArray) (ts : List Tk) (u : Ut), TkN ts -> ts.length <= 3002 -> names.length <= 16 -> names.length = du.length + vo.length -> jsf n names du vo ts = .ok u -> WfU u
 | 0, names, du, vo, ts, u, _, _, _, _, h => by cases h
 | n + 1, names, du, vo, ts, u, hz, hl, hn, he, h => by
  rw [jsf] at h
  split at h
  ·cases hd : jk6 ts.length names [] ts with
   | bad x y => rw [hd] at h; cases h
   | ok names' out r =>
    rw [hd] at h
    obtain ⟨g1, g2, b, g3⟩ := jux _ _ _ _ _ _ _ hn hd
    rw [List.length_nil] at g2;rw [g3] at hz hl;exact juw n names' (du ++ out) vo r u hz.suf (by rw [List.length_append] at hl; omega) g1 (by rw [List.length_append]; omega) h
  ·split at h
   ·cases hd : jk6 ts.length names [] ts with
    | bad x y => rw [hd] at h; cases h
    | ok names' out r =>
     rw [hd] at h
     obtain ⟨g1, g2, b, g3⟩ := jux _ _ _ _ _ _ _ hn hd
     rw [List.length_nil] at g2;rw [g3] at hz hl;exact juw n names' du (vo ++ out) r u hz.suf (by rw [List.length_append] at hl; omega) g1 (by rw [List.length_append]; omega) h
   ·exact jwG du vo (by omega) _ [] ts u hz hl (by simp; omega) ⟨by simp, .nil⟩ h
theorem jvL {s : ByteArray} {u : Ut} (h : jmQ s = .ok u) : WfU u := by
 unfold jmQ at h
 split at h
 ·cases h
 ·rename_i hsz
  cases he : (jb0 s).err with
  | some p => rw [he] at h; cases h
  | none =>
   rw [he] at h
   have hok := jvo s (by omega)
   have hlen : (jmx s).length <= 3002 := by
    have h1 := (jd4 (s.data.toList.length + 1) 0 s.data.toList).1
    rw [jcR he, List.length_append, List.length_singleton]
    have h2 : (jb0 s).toks.length <= s.data.toList.length := h1
    rw [jb3] at h2;omega
   refine juw _ [] [] [] (jmx s) u (fun t ht => ?_) hlen (by simp) rfl h
   rcases hok t ht with h3 | h3
   ·exact h3.2.2.2.1
   ·rw [h3.2.2.2]; exact Int.le_refl 0
abbrev Ic := Int × Int
def icA (i : Ic) : List A := [intA i.1, intA i.2]
@[irreducible] def jcn (l : List Ic) : List A := l.flatMap icA
theorem jst : jcn [] = [] := by unfold jcn; rfl
theorem jsr (l m : List Ic) : jcn (l ++ m) = jcn l ++ jcn m := by unfold jcn; rw [List.flatMap_append]
theorem jsu (i : Ic) : jcn [i] = icA i := by unfold jcn; rw [List.flatMap_cons, List.flatMap_nil, List.append_nil]
theorem jkm (l : List Ic) (a b : Int) : jcn (l ++ [(a, b)]) = jcn l ++ [intA a, intA b] := by rw [jsr, jsu]; rfl
theorem jeP (l : List Ic) : jcn l = l.flatMap icA := by unfold jcn; rfl
theorem jdC (l : List Ic) (i : Nat) (hi : i < l.length) : ja2 2 i (jcn l) = icA l[i] := by rw [jeP]; exact jc4 icA (fun _ => rfl) l i hi
theorem jss (l : List Ic) : (jcn l).length = l.length * 2 := by
 rw [jeP]
 induction l with
 | nil => rfl
 | cons a l ih => rw [List.flatMap_cons, List.length_append, ih, List.length_cons]; simp only [icA, List.length_cons, List.length_nil]; omega
def noI : Int -> List Ic := fun _ => []
def brC (c y n : Int -> List Ic) (at' : Int) : List Ic :=
 let l := c at'
 let f := at' + l.length + 1 + (y (at' + l.length + 1)).length + 1
 l ++ (16, f) :: (y (at' + l.length + 1) ++ (15, f + (n f).length) :: n f)
def jej : List (Int -> List Ic) -> Int -> List Ic
 | [], _ => []
 | g :: r, at' => g at' ++ jej r (at' + (g at').length)
def biF (s : ByteArray) : Int := match builtL.findIdx? (fun x => decide (x = s)) with
 | some i => i
 | none => -1
def opC (s : ByteArray) : List Ic :=
 if s = jge then [(6, 0)] else if s = pMinus then [(7, 0)] else if s = jdy then [(8, 0)] else if s = jbG then [(9, 0)]
 else if s = pLt then [(11, 0)] else if s = pLe then [(12, 0)] else if s = jxh then [(13, 0)] else if s = pGt then [(12, 0), (14, 0)]
 else if s = pGe then [(11, 0), (14, 0)] else [(13, 0), (14, 0)]
def jc6 (ix : ByteArray -> Int) (k n : Int) (s : ByteArray) (g : List (Int -> List Ic)) (at' : Int) : List Ic :=
 if k = 12 ∨ k = 13 then [(1, n)]
 else if k = 14 then [(2, ix s)]
 else if k = 15 then [(4, biF s)]
 else if k = 2 then brC (g.getD 0 noI) (g.getD 1 noI) (g.getD 2 noI) at'
 else if k = 5 then [(18, n)]
 else if k = 6 then [(19, n)]
 else if k = 7 then [(20, 0)]
 else if k = 10 then [(23, 0)]
 else if k = 3 then
  let c := (g.getD 0 noI) at'
  let b := (g.getD 1 noI) (at' + c.length + 1)
  c ++ (16, at' + c.length + b.length + 2) :: (b ++ [(15, at')])
 else if k = 18 /\ s = jg3 then brC (g.getD 0 noI) (g.getD 1 noI) (fun _ => [(1, 0)]) at'
 else if k = 18 /\ s = pOr then brC (g.getD 0 noI) (fun _ => [(1, 1)]) (g.getD 1 noI) at'
 else jej g at' ++ (if k = 18 then opC s else if k = 16 then [(5, 0)] else if k = 17 then (if s = pMinus then [(10, 0)] else [(14, 0)]) else if k = 1 then [(3, ix s)] else if k = 4 then [(17, n)] else if k = 8 then [(21, 0)] else if k = 9 then [(22, 0)] else [])
mutual
def jal (ix : ByteArray -> Int) : Nt -> Int -> List Ic
 | .mk k n s kids, at' => jc6 ix k n s (jas ix kids) at'
def jas (ix : ByteArray -> Int) : List Nt -> List (Int -> List Ic)
 | [] => []
 | f :: l => jal ix f :: jas ix l
end
theorem jc0 (ix : ByteArray -> Int) : ∀ l : List Nt, jas ix l = l.map (jal ix)
 | [] => rfl
 | f :: l => by rw [jas, jc0 ix l]; rfl
def jaq (k : Int) : Int := if k = 3 ∨ k = 5 ∨ k = 10 ∨ k = 14 ∨ k = 16 ∨ k = 22 then 1 else if 6 <= k /\ k <= 9 ∨ 11 <= k /\ k <= 13 ∨ k = 21 then 2 else if k = 17 then 3 else 0
def ja7 (k : Int) : Int := if k = 1 ∨ k = 2 ∨ 4 <= k /\ k <= 14 then 1 else 0
def nxI (a : Int) (i : Ic) : List Int := if i.1 = 23 then [] else if i.1 = 15 then [i.2] else if i.1 = 16 then [a + 1, i.2] else [a + 1]
structure Fs where
 dm : List (Int × Int)
 wk : List Int
 er : Bool
def dF (dm : List (Int × Int)) (k : Int) : Option Int := (dm.find? fun p => decide (k = p.1)).map (·.2)
def jbd (n : Nat) (af : Int) (s : Fs) (k : Int) : Option Fs :=
 if (n : Int) <= k then none else match dF s.dm k with
 | some d => some ⟨s.dm, s.wk, s.er || decide (d ≠ af)⟩
 | none => some ⟨s.dm ++ [(k, af)], s.wk ++ [k], s.er⟩
def jau (n : Nat) (af : Int) : List Int -> Fs -> Option Fs
 | [], s => some s
 | k :: l, s => match jbd n af s k with
  | none => none
  | some s' => jau n af l s'
def afF (code : List Ic) (dm : List (Int × Int)) (a : Int) : Int := (dF dm a).getD 0 - jaq (code.getD a.toNat (0, 0)).1 + ja7 (code.getD a.toNat (0, 0)).1
def jpg (code : List Ic) (dm : List (Int × Int)) (a : Int) : Bool := decide ((dF dm a).getD 0 < jaq (code.getD a.toNat (0, 0)).1) || decide (16 < afF code dm a)
def jlk (code : List Ic) (dm : List (Int × Int)) (wk : List Int) (er : Bool) (a : Int) : Option Fs :=
 jau code.length (afF code dm a) (nxI a (code.getD a.toNat (0, 0))) ⟨dm, wk, er || jpg code dm a⟩
def jpi (er : Bool) : Int := if er = true then 13 else 0
def juG (code : List Ic) : Nat -> Fs -> Int
 | 0, s => jpi s.er
 | m + 1, s => match s.wk.getLast? with
  | none => jpi s.er
  | some a => match jlk code s.dm s.wk.dropLast s.er a with
   | none => 12
   | some s' => juG code m s'
def jbb (code : List Ic) (entry : Int) : Int := if entry < 0 then 0 else juG code (code.length + 1) ⟨[(entry, 0)], [entry], false⟩
def jiH (code : List Ic) : Prop := ∀ i ∈ code, i.1 = 15 ∨ i.1 = 16 -> 0 <= i.2
structure jiG (n : Nat) (s : Fs) : Prop where
 rng : ∀ p ∈ s.dm, 0 <= p.1 /\ p.1 < n
 nd : (s.dm.map (·.1)).Nodup
 wk : ∀ k ∈ s.wk, ∃ d, (k, d) ∈ s.dm
 dep : ∀ p ∈ s.dm, -(3 * (s.dm.length : Int)) <= p.2 /\ p.2 <= 3 * s.dm.length
theorem jk5 {dm : List (Int × Int)} {k d : Int} (h : dF dm k = some d) : (k, d) ∈ dm := by
 unfold dF at h
 cases hf : dm.find? (fun p => decide (k = p.1)) with
 | none => rw [hf] at h; cases h
 | some p =>
  rw [hf] at h
  cases h
  have h1 := List.find?_some hf
  have h2 := List.mem_of_find?_eq_some hf
  rw [decide_eq_true_eq] at h1;rw [h1]; exact h2
theorem jm2 {dm : List (Int × Int)} {k d : Int} (h : (k, d) ∈ dm) : ∃ d', dF dm k = some d' := by
 unfold dF
 cases hf : dm.find? (fun p => decide (k = p.1)) with
 | none => rw [List.find?_eq_none] at hf; exact absurd (hf _ h) (by simp)
 | some p => exact ⟨_, rfl⟩
theorem jpS {dm : List (Int × Int)} {k : Int} (h : dF dm k = none) : ∀ p ∈ dm, k ≠ p.1 := by
 unfold dF at h;rw [Option.map_eq_none_iff, List.find?_eq_none] at h
 exact fun p hp => by simpa using h p hp
theorem jg2 : ∀ (n : Nat) (l : List Int), l.Nodup -> (∀ a ∈ l, 0 <= a /\ a < (n : Int)) -> l.length <= n
 | 0, l, _, h => by
  cases l with
  | nil => exact Nat.le_refl _
  | cons a l => have := h a List.mem_cons_self; omega
 | n + 1, l, hn, h => by
  have h1 : (l.erase (n : Int)).length <= n := jg2 n (l.erase (n : Int)) (hn.erase _) fun a ha => by
   have h2 := h a (List.mem_of_mem_erase ha)
   have h3 : a ≠ n := (hn.mem_erase_iff.1 ha).1
   omega
  rw [List.length_erase] at h1
  split at h1 <;> omega
theorem jaF {n : Nat} {dm : List (Int × Int)} (h : ∀ p ∈ dm, 0 <= p.1 /\ p.1 < (n : Int)) (hn : (dm.map (·.1)).Nodup) : dm.length <= n := by
 have := jg2 n _ hn fun a ha => by
  obtain ⟨p, hp, rfl⟩ := List.mem_map.1 ha
  exact h p hp
 simpa using this
theorem jaA {n : Nat} {af k : Int} {s s' : Fs} (h : jiG n s) (hk : 0 <= k) (ha : -(3 * (s.dm.length : Int)) - 3 <= af /\ af <= 3 * s.dm.length + 3) (e : jbd n af s k = some s') : jiG n s' /\ s'.wk.length + s.dm.length = s.wk.length + s'.dm.length /\ s.dm.length <= s'.dm.length := by
 unfold jbd at e
 split at e
 ·cases e
 split at e
 ·cases e; exact ⟨⟨h.rng, h.nd, h.wk, h.dep⟩, rfl, Nat.le_refl _⟩
 ·rename_i hd
  have hne := jpS hd
  cases e
  refine ⟨⟨fun p hp => ?_, ?_, fun j hj => ?_, fun p hp => ?_⟩, by simp only [List.length_append, List.length_singleton]; omega, by simp⟩
  ·rcases List.mem_append.1 hp with hp | hp
   ·exact h.rng p hp
   ·rw [List.mem_singleton.1 hp]; exact ⟨hk, by simp only; omega⟩
  ·rw [List.map_append, List.map_singleton, List.nodup_append];refine ⟨h.nd, by simp, fun a ha b hb => ?_⟩
   obtain ⟨p, hp, rfl⟩ := List.mem_map.1 ha
   rw [List.mem_singleton.1 hb];exact Ne.symm (hne p hp)
  ·rcases List.mem_append.1 hj with hj | hj
   ·obtain ⟨d, hd⟩ := h.wk j hj
    exact ⟨d, List.mem_append_left _ hd⟩
   ·rw [List.mem_singleton.1 hj]; exact ⟨af, List.mem_append_right _ List.mem_cons_self⟩
  ·simp only [List.length_append, List.length_singleton]
   rcases List.mem_append.1 hp with hp | hp
   ·have := h.dep p hp; omega
   ·rw [List.mem_singleton.1 hp]; simp only; omega
theorem jnB {n : Nat} {af : Int} : ∀ (l : List Int) {s s' : Fs} (B : Nat), jiG n s -> B <= s.dm.length -> (∀ k ∈ l, 0 <= k) -> (-(3 * (B : Int)) - 3 <= af /\ af <= 3 * B + 3) -> jau n af l s = some s' -> jiG n s' /\ s'.wk.length + s.dm.length = s.wk.length + s'.dm.length /\ s.dm.length <= s'.dm.length
 | [], s, s', B, h, hB, hk, ha, e => by
  unfold jau at e
  cases e
  exact ⟨h, rfl, Nat.le_refl _⟩
 | k :: l, s, s', B, h, hB, hk, ha, e => by
  unfold jau at e
  split at e
  ·cases e
  ·rename_i s1 e1
   obtain ⟨h1, h2, h3⟩ := jaA h (hk k List.mem_cons_self) ⟨by omega, by omega⟩ e1
   obtain ⟨h4, h5, h6⟩ := jnB l B h1 (by omega) (fun j hj => hk j (List.mem_cons_of_mem _ hj)) ha e
   exact ⟨h4, by omega, by omega⟩
theorem jqS (k : Int) : 0 <= jaq k /\ jaq k <= 3 := by unfold jaq; repeat' split <;> omega
theorem jo0 (k : Int) : 0 <= ja7 k /\ ja7 k <= 1 := by unfold ja7; split <;> omega
theorem jsS (k : Int) : -3 <= ja7 k - jaq k /\ ja7 k - jaq k <= 1 := by
 have := jqS k
 have := jo0 k
 omega
theorem jv4 {code : List Ic} (hj : jiH code) {a : Int} (ha : 0 <= a /\ a < code.length) : ∀ k ∈ nxI a (code.getD a.toNat (0, 0)), 0 <= k := by
 have hm : code.getD a.toNat (0, 0) ∈ code := by
  have h : a.toNat < code.length := by omega
  rw [List.getD_eq_getElem?_getD, List.getElem?_eq_getElem h];exact List.getElem_mem h
 have hjm := hj _ hm
 generalize code.getD a.toNat (0, 0) = i at *;intro k hk;unfold nxI at hk
 split at hk
 ·cases hk
 ·split at hk
  ·rw [List.mem_singleton.1 hk]; exact hjm (.inl (by assumption))
  ·split at hk
   ·rcases List.mem_cons.1 hk with rfl | hk
    ·omega
    ·rw [List.mem_singleton.1 hk]; exact hjm (.inr (by assumption))
   ·rw [List.mem_singleton.1 hk]; omega
theorem jwa {n : Nat} {code : List Ic} {s : Fs} (h : jiG n s) {a : Int} : -(3 * (s.dm.length : Int)) - 3 <= afF code s.dm a /\ afF code s.dm a <= 3 * s.dm.length + 3 := by
 have hp := jsS (code.getD a.toNat (0, 0)).1
 unfold afF
 cases hd : dF s.dm a with
 | none => simp only [Option.getD_none]; omega
 | some d =>
  have := h.dep _ (jk5 hd)
  simp only [Option.getD_some];omega
theorem jrs {code : List Ic} (hj : jiH code) {dm : List (Int × Int)} {pre : List Int} {a : Int} {er : Bool} {s' : Fs} (h : jiG code.length ⟨dm, pre ++ [a], er⟩) (e : jlk code dm pre er a = some s') : jiG code.length s' /\ s'.wk.length + (code.length - s'.dm.length) + 1 = (pre ++ [a]).length + (code.length - dm.length) /\ dm.length <= s'.dm.length := by
 have h0 : jiG code.length ⟨dm, pre, er || jpg code dm a⟩ := ⟨h.rng, h.nd, fun k hk => h.wk k (List.mem_append_left _ hk), h.dep⟩
 obtain ⟨d, hd⟩ := h.wk a (List.mem_append_right _ List.mem_cons_self)
 have hr := h.rng _ hd
 obtain ⟨h1, h2, h3⟩ := jnB _ dm.length h0 (Nat.le_refl _) (jv4 hj hr) (jwa h) e
 have hl := jaF h1.rng h1.nd
 have hl0 := jaF h.rng h.nd
 simp only [List.length_append, List.length_singleton] at h2 h3 hl0 ⊢;exact ⟨h1, by omega, h3⟩
def dmA (dm : List (Int × Int)) : List (Int × A) := dm.map fun p => (p.1, intA p.2)
theorem jnm (dm : List (Int × Int)) (k : Int) : jbx (dmA dm) k = (dF dm k).map intA := by
 unfold jbx dmA dF;rw [List.find?_map]
 cases h : dm.find? ((fun p : Int × A => decide (k = p.1)) ∘ fun p : Int × Int => (p.1, intA p.2)) with
 | none =>
  have : dm.find? (fun p : Int × Int => decide (k = p.1)) = none := h
  rw [this]; rfl
 | some p =>
  have : dm.find? (fun p : Int × Int => decide (k = p.1)) = some p := h
  rw [this]; rfl
theorem jsg (dm : List (Int × Int)) (k d : Int) : dmA (dm ++ [(k, d)]) = dmA dm ++ [(k, intA d)] := by unfold dmA; rw [List.map_append]; rfl
def pgE (e : Nat -> Int) (du vo : Int) : List A := [intA (e 0), intA (e 1), intA (e 2), intA (e 3), intA (e 4), intA (e 5), intA (e 6), intA (e 7), intA (e 8), intA (e 9), intA (e 10), intA (e 11), intA (e 12), intA (e 13), intA (e 14), intA (e 15), intA (e 16), intA (e 17), intA (e 18), intA (e 19), intA (e 20), intA (e 21), intA (e 22), intA (e 23), intA (e 24), intA (e 25), intA (e 26), intA (e 27), intA (e 28), intA (e 29), intA (e 30), intA (e 31), intA (e 32), intA (e 33), intA (e 34), intA (e 35), intA (e 36), intA (e 37), intA (e 38), intA (e 39), intA du, intA vo]
def pgL (code : List Ic) (e : Nat -> Int) (du vo : Int) : List A := .sl 2 code.length (jcn code) :: pgE e du vo
def pgA (code : List Ic) (e : Nat -> Int) (du vo : Int) : A := .agg (pgL code e du vo)
structure Sh where
 po : Int
 pu : Int
 lo : Int
 hi : Int
def shA (s : Sh) : A := .agg [intA s.po, intA s.pu, intA s.lo, intA s.hi]
def shL (v l : Int) : List (Int × Sh) := [(1, ⟨0, 1, (-2147483647), 2147483647⟩), (2, ⟨0, 1, 0, v⟩), (3, ⟨1, 0, 0, v⟩), (4, ⟨0, 1, 0, 8⟩), (5, ⟨1, 1, 0, 0⟩), (6, ⟨2, 1, 0, 0⟩), (7, ⟨2, 1, 0, 0⟩), (8, ⟨2, 1, 0, 0⟩), (9, ⟨2, 1, 0, 0⟩), (10, ⟨1, 1, 0, 0⟩), (11, ⟨2, 1, 0, 0⟩), (12, ⟨2, 1, 0, 0⟩), (13, ⟨2, 1, 0, 0⟩), (14, ⟨1, 1, 0, 0⟩), (15, ⟨0, 0, 0, l⟩), (16, ⟨1, 0, 0, l⟩), (17, ⟨3, 0, 0, 29⟩), (18, ⟨0, 0, 0, 7⟩), (19, ⟨0, 0, 0, 7⟩), (20, ⟨0, 0, 0, 0⟩), (21, ⟨2, 0, 0, 0⟩), (22, ⟨1, 0, 0, 0⟩), (23, ⟨0, 0, 0, 0⟩)]
def shP (v l : Int) : List (Int × A) := (shL v l).map fun p => (p.1, shA p.2)
def shM (v l : Int) : A := .mp (mkV (shP v l)) (mvA (shP v l))
set_option maxHeartbeats 2000000 in
theorem jhl (code : List Ic) (e : Nat -> Int) (du vo : Int) (hd : -100 <= du /\ du <= 100) (hv : -100 <= vo /\ vo <= 100) (hl : code.length <= 1000000) : Spec Tryz.prog 57 [] [pgA code e du vo] fun _ r => r = shM (du + vo - 1) (code.length - 1) := by
 refine jcT (ja4 jyZ xs0 0) (fun _ _ h => h) Tryz.func57 rfl (by kernel_rfl) rfl ?_;intro _;refine jbr (ja4 _ _ _) (by kernel_rfl) ?_;conv => whnf
 refine jbr (ja4 _ _ _) (by kernel_rfl) ?_;conv => whnf
 refine ⟨jam (by omega), ?_⟩;conv => whnf
 refine ⟨jam (by omega), ?_⟩;conv => whnf
 refine ⟨jam (by omega), ?_⟩;conv => whnf
 refine jbr (ja4 _ _ _) (by kernel_rfl) ?_;conv => whnf
 refine jmq 0 ?_;conv => whnf
 refine jaW (ja4 _ _ _) (by kernel_rfl) ?_;conv => whnf
 unfold shM mkV mvA shP shL;rfl
theorem jsm (v l k : Int) (hk : 1 <= k /\ k <= 23) : ∃ lo hi, jbx (shP v l) k = some (.agg [intA (jaq k), intA (ja7 k), intA lo, intA hi]) := by
 have h : k = 1 ∨ k = 2 ∨ k = 3 ∨ k = 4 ∨ k = 5 ∨ k = 6 ∨ k = 7 ∨ k = 8 ∨ k = 9 ∨ k = 10 ∨ k = 11 ∨ k = 12 ∨ k = 13 ∨ k = 14 ∨ k = 15 ∨ k = 16 ∨ k = 17 ∨ k = 18 ∨ k = 19 ∨ k = 20 ∨ k = 21 ∨ k = 22 ∨ k = 23 := by omega
 rcases h with rfl | rfl | rfl | rfl | rfl | rfl | rfl | rfl | rfl | rfl | rfl | rfl | rfl | rfl | rfl | rfl | rfl | rfl | rfl | rfl | rfl | rfl | rfl
 all_goals exact ⟨_, _, rfl⟩
theorem joP (v l k : Int) (hk : 1 <= k /\ k <= 23) {K : A -> Prop} {n : Prop} (h : ∀ lo hi, K (.agg [intA (jaq k), intA (ja7 k), intA lo, intA hi])) : jcB false (mkV (shP v l)) (mvA (shP v l)) (.int .i64 k) K n := by
 refine jaL _ _ ?_
 obtain ⟨lo, hi, e⟩ := jsm v l k hk
 rw [e];exact h lo hi
def jrV (i : Ic) : Prop := (1 <= i.1 /\ i.1 <= 23) /\ (i.1 = 15 ∨ i.1 = 16 -> 0 <= i.2)
def GOk (g : Int -> List Ic) : Prop := ∀ at' : Int, 0 <= at' -> ∀ i ∈ g at', jrV i
theorem GOk.no : GOk noI := fun _ _ i hi => by cases hi
theorem GOk.one {i : Ic} (h : jrV i) : GOk fun _ => [i] := fun _ _ j hj => by rw [List.mem_singleton.1 hj]; exact h
theorem GOk.seq : ∀ {l : List (Int -> List Ic)}, (∀ g ∈ l, GOk g) -> GOk (jej l)
 | [], _, _, _, i, hi => by cases hi
 | g :: r, h, at', ha, i, hi => by
  unfold jej at hi
  rcases List.mem_append.1 hi with hi | hi
  ·exact h g List.mem_cons_self at' ha i hi
  ·exact GOk.seq (fun x hx => h x (List.mem_cons_of_mem _ hx)) _ (by omega) i hi
theorem GOk.br {c y n : Int -> List Ic} (hc : GOk c) (hy : GOk y) (hn : GOk n) : GOk (brC c y n) := fun at' ha i hi => by
 unfold brC at hi;simp only [List.mem_append, List.mem_cons] at hi
 rcases hi with hi | rfl | hi | rfl | hi
 ·exact hc at' ha i hi
 ·exact ⟨by simp, fun _ => by simp only; omega⟩
 ·exact hy _ (by omega) i hi
 ·exact ⟨by simp, fun _ => by simp only; omega⟩
 ·exact hn _ (by omega) i hi
theorem GOk.get {l : List (Int -> List Ic)} (h : ∀ g ∈ l, GOk g) (k : Nat) : GOk (l.getD k noI) := by
 rw [List.getD_eq_getElem?_getD]
 cases hk : l[k]? with
 | none => exact GOk.no
 | some g => exact h g (List.mem_of_getElem? hk)
theorem jx5 (s : ByteArray) : ∀ i ∈ opC s, jrV i := by
 unfold opC
 repeat' split
 all_goals (intro i hi; simp only [List.mem_cons, List.not_mem_nil, or_false] at hi)
 all_goals first
  | (rcases hi with rfl | rfl <;> exact ⟨by simp, fun h => by simp at h⟩)
  | (subst hi; exact ⟨by simp, fun h => by simp at h⟩)
theorem GOk.body (ix : ByteArray -> Int) (k n : Int) (s : ByteArray) {l : List (Int -> List Ic)} (h : ∀ g ∈ l, GOk g) : GOk (jc6 ix k n s l) := fun at' ha i hi => by
 have g0 := GOk.get h 0
 have g1 := GOk.get h 1
 have g2 := GOk.get h 2
 have sq := GOk.seq h
 have one : ∀ {a b : Int}, 1 <= a -> a <= 23 -> a ≠ 15 -> a ≠ 16 -> i ∈ [((a, b) : Ic)] -> jrV i := fun h1 h2 h3 h4 hi => by
  rw [List.mem_singleton.1 hi];exact ⟨⟨h1, h2⟩, fun h => by rcases h with h | h; exact absurd h h3; exact absurd h h4⟩
 unfold jc6 at hi
 by_cases c1 : k = 12 ∨ k = 13
 ·rw [if_pos c1] at hi;exact one (by decide) (by decide) (by decide) (by decide) hi
 rw [if_neg c1] at hi
 by_cases c2 : k = 14
 ·rw [if_pos c2] at hi;exact one (by decide) (by decide) (by decide) (by decide) hi
 rw [if_neg c2] at hi
 by_cases c3 : k = 15
 ·rw [if_pos c3] at hi;exact one (by decide) (by decide) (by decide) (by decide) hi
 rw [if_neg c3] at hi
 by_cases c4 : k = 2
 ·rw [if_pos c4] at hi;exact GOk.br g0 g1 g2 at' ha i hi
 rw [if_neg c4] at hi
 by_cases c5 : k = 5
 ·rw [if_pos c5] at hi;exact one (by decide) (by decide) (by decide) (by decide) hi
 rw [if_neg c5] at hi
 by_cases c6 : k = 6
 ·rw [if_pos c6] at hi;exact one (by decide) (by decide) (by decide) (by decide) hi
 rw [if_neg c6] at hi
 by_cases c7 : k = 7
 ·rw [if_pos c7] at hi;exact one (by decide) (by decide) (by decide) (by decide) hi
 rw [if_neg c7] at hi
 by_cases c8 : k = 10
 ·rw [if_pos c8] at hi;exact one (by decide) (by decide) (by decide) (by decide) hi
 rw [if_neg c8] at hi
 by_cases c9 : k = 3
 ·rw [if_pos c9] at hi;simp only [List.mem_append, List.mem_cons, List.not_mem_nil, or_false] at hi
  rcases hi with hi | rfl | hi | rfl
  ·exact g0 at' ha i hi
  ·exact ⟨by simp, fun _ => by simp only; omega⟩
  ·exact g1 _ (by omega) i hi
  ·exact ⟨by simp, fun _ => ha⟩
 rw [if_neg c9] at hi
 by_cases ca : k = 18 /\ s = jg3
 ·rw [if_pos ca] at hi;exact GOk.br g0 g1 (GOk.one ⟨by simp, fun h => by simp at h⟩) at' ha i hi
 rw [if_neg ca] at hi
 by_cases cb : k = 18 /\ s = pOr
 ·rw [if_pos cb] at hi;exact GOk.br g0 (GOk.one ⟨by simp, fun h => by simp at h⟩) g1 at' ha i hi
 rw [if_neg cb] at hi
 rcases List.mem_append.1 hi with hi | hi
 ·exact sq at' ha i hi
 by_cases d1 : k = 18
 ·rw [if_pos d1] at hi;exact jx5 s i hi
 rw [if_neg d1] at hi
 by_cases d2 : k = 16
 ·rw [if_pos d2] at hi;exact one (by decide) (by decide) (by decide) (by decide) hi
 rw [if_neg d2] at hi
 by_cases d3 : k = 17
 ·rw [if_pos d3] at hi
  by_cases d4 : s = pMinus
  ·rw [if_pos d4] at hi;exact one (by decide) (by decide) (by decide) (by decide) hi
  ·rw [if_neg d4] at hi;exact one (by decide) (by decide) (by decide) (by decide) hi
 rw [if_neg d3] at hi
 by_cases d5 : k = 1
 ·rw [if_pos d5] at hi;exact one (by decide) (by decide) (by decide) (by decide) hi
 rw [if_neg d5] at hi
 by_cases d6 : k = 4
 ·rw [if_pos d6] at hi;exact one (by decide) (by decide) (by decide) (by decide) hi
 rw [if_neg d6] at hi
 by_cases d7 : k = 8
 ·rw [if_pos d7] at hi;exact one (by decide) (by decide) (by decide) (by decide) hi
 rw [if_neg d7] at hi
 by_cases d8 : k = 9
 ·rw [if_pos d8] at hi;exact one (by decide) (by decide) (by decide) (by decide) hi
 rw [if_neg d8] at hi
 cases hi
theorem jiW (ix : ByteArray -> Int) : ∀ f : Nt, GOk (jal ix f)
 | .mk k n s kids => by
  have h : ∀ f ∈ kids, GOk (jal ix f) := fun f hf => jiW ix f
  rw [show jal ix (.mk k n s kids) = jc6 ix k n s (jas ix kids) by funext at'; rw [jal]]
  refine GOk.body ix k n s fun g hg => ?_
  rw [jc0] at hg
  obtain ⟨f, hf, rfl⟩ := List.mem_map.1 hg
  exact h f hf
def hcL (ix : ByteArray -> Int) : List (Int × Nt) -> List Ic -> (Nat -> Int) -> List Ic × (Nat -> Int)
 | [], c, e => (c, e)
 | (h, b) :: r, c, e => hcL ix r (c ++ jal ix b c.length ++ [(23, 0)]) (fun j => if j = h.toNat then (c.length : Int) else e j)
theorem jqd (ix : ByteArray -> Int) : ∀ (l : List (Int × Nt)) (c : List Ic) (e : Nat -> Int), (∀ i ∈ c, jrV i) -> ∀ i ∈ (hcL ix l c e).1, jrV i
 | [], c, e, hc => hc
 | (h, b) :: r, c, e, hc => by
  unfold hcL
  refine jqd ix r _ _ fun i hi => ?_
  rcases List.mem_append.1 hi with hi | hi
  ·rcases List.mem_append.1 hi with hi | hi
   ·exact hc i hi
   ·exact jiW ix b _ (by omega) i hi
  ·rw [List.mem_singleton.1 hi];exact ⟨by simp, fun h => by simp at h⟩
def jhz (code : List Ic) (e : Nat -> Int) : Nat -> Nat -> Int
 | _, 0 => 0
 | j, m + 1 => if jbb code (e j) ≠ 0 then jbb code (e j) else jhz code e (j + 1) m
def noE : Nat -> Int := fun _ => -1
def zE : Nat -> Int := fun _ => 0
def jhY (u : Ut) : List Ic × (Nat -> Int) := hcL (ixU u) u.on [] noE
def jpQ (u : Ut) : Int := if 400 < (jhY u).1.length then 2 else jhz (jhY u).1 (jhY u).2 0 40
def jtv : List A := .v (.slice none 0 0) :: pgE zE 0 0
def juu (u : Ut) : A := if jpQ u = 0 then .tup [pgA (jhY u).1 (jhY u).2 u.du.length u.vo.length, intA 0] else .tup [.agg jtv, intA (jpQ u)]
def okI (v l : Int) (i : Ic) : Bool := match (shL v l).find? (fun p => decide (i.1 = p.1)) with
 | none => false
 | some p => decide (p.2.lo <= i.2) && decide (i.2 <= p.2.hi)
def jlG (n : Nat) (x : Int) : Bool := decide (-1 <= x) && decide (x < (n : Int))
def jmZ (p : Int -> Bool) (e : Nat -> Int) : Nat -> Nat -> Bool
 | _, 0 => true
 | j, m + 1 => p (e j) && jmZ p e (j + 1) m
def jy3 (code : List Ic) (e : Nat -> Int) : Nat -> Nat -> Int -> Int
 | _, 0, r => r
 | j, m + 1, r => if jbb code (e j) = 12 then 12 else jy3 code e (j + 1) m (if jbb code (e j) = 13 then 13 else r)
def jy4 (code : List Ic) (e : Nat -> Int) (du vo : Int) : Int :=
 if 400 < code.length then 2
 else if du < 0 ∨ vo < 0 ∨ 16 < du ∨ 16 - du < vo then 12
 else if (code.all (okI (du + vo - 1) (code.length - 1))) = false then 12
 else if jmZ (jlG code.length) e 0 40 = false then 12
 else jy3 code e 0 40 0
section
set_option maxRecDepth 100000
end
def jzl (i : Int) : Nt := .mk 12 i eB []
theorem joF (l : List Int) (a : Int) : jbE (l ++ [a]) = jbE l ++ [intA a] := by unfold jbE; rw [List.map_append]; rfl
theorem jaB {dm : List (Int × Int)} {k : Int} {K : A -> Prop} {n : Prop} (hd : dF dm k = none) (h : n) : jcB false (mkV (dmA dm)) (mvA (dmA dm)) (.int .i64 k) K n := by
 refine jaL _ _ ?_;rw [jnm, hd];exact h
theorem jar {dm : List (Int × Int)} {k d : Int} {K : A -> Prop} {n : Prop} (hd : dF dm k = some d) (h : K (intA d)) : jcB false (mkV (dmA dm)) (mvA (dmA dm)) (.int .i64 k) K n := by
 refine jaL _ _ ?_;rw [jnm, hd];exact h
theorem jbO {dm : List (Int × Int)} {k d : Int} {n : Nat} {K : List A -> List A -> Nat -> Prop} (hd : dF dm k = none) (h : K (mkA (dmA (dm ++ [(k, d)]))) (mvA (dmA (dm ++ [(k, d)]))) (n + 1)) : juL false (.int .i64 k) (.v (.int .i64 d)) (mkA (dmA dm)) (mvA (dmA dm)) n K := by
 rw [jsg] at h;refine jkr (fun p hp => ?_) h;unfold dmA at hp
 obtain ⟨q, hq, rfl⟩ := List.mem_map.1 hp
 exact jpS hd q hq
theorem jdd (t : Nat) (dm : List (Int × Int)) (k d : Int) : Row.live t 0 (dm.length + 1) [.clo 0 (mkA (dmA (dm ++ [(k, d)]))), .clo 0 (mvA (dmA (dm ++ [(k, d)])))] = Row.live t 0 (dm ++ [(k, d)]).length [.clo 0 (mkA (dmA (dm ++ [(k, d)]))), .clo 0 (mvA (dmA (dm ++ [(k, d)])))] := by rw [List.length_append]; rfl
theorem jdf (t : Nat) (wk : List Int) (k : Int) : Row.live t 1 (wk.length + 1) (jbE wk ++ [intA k]) = Row.live t 1 (wk ++ [k]).length (jbE (wk ++ [k])) := by rw [List.length_append, joF]; rfl
theorem jaM {α : Type} (o : Option α) : o = none ∨ ∃ a, o = some a := by cases o with
 | none => exact .inl rfl
 | some a => exact .inr ⟨a, rfl⟩
def jzK (id : Nat) : List Nat := match Nat.beq id 1000003 with | true => [1000003] | false => []
def flR (dm : List (Int × Int)) (wk : List Int) : List Row := [.live 123 0 dm.length [.clo 0 (mkA (dmA dm)), .clo 0 (mvA (dmA dm))], .live 3 1 wk.length (jbE wk)]
set_option maxHeartbeats 4000000 in
theorem jgN (code : List Ic) (e : Nat -> Int) (du vo entry : Int) (hd : -100 <= du /\ du <= 100) (hv : -100 <= vo /\ vo <= 100) (hl : code.length <= 1000000) (hj : jiH code) (ho : ∀ i ∈ code, 1 <= i.1 /\ i.1 <= 23) (he : entry < code.length) : Spec Tryz.prog 41 [] [pgA code e du vo, intA entry] fun _ r => r = intA (jbb code entry) := by
 have hsh := jhl code e du vo hd hv hl
 obtain ⟨R, hR⟩ : ∃ R, jbb code entry = R := ⟨_, rfl⟩
 rw [hR];unfold jbb at hR;refine ja8 (ja4 jb4 jzK 0) (fun _ _ h => h) Tryz.func41 rfl (by kernel_rfl) rfl (by kernel_rfl) ?_;intro _;conv => whnf
 by_cases h0 : entry < 0
 ·rw [decide_eq_true h0];rw [if_pos h0] at hR;conv => whnf
  rw [<- hR]; rfl
 rw [decide_eq_false h0];rw [if_neg h0] at hR;conv => whnf
 refine jaw [] rfl (fun _ => hsh) ?_;rintro r rfl;conv => whnf
 refine ja5 [2, 5, 6, 8] ?_;conv => whnf
 refine jaj (fun x : Nat × Fs => [(7, intA (jpi x.2.er))]) (fun _ => [pgL code e du vo]) (fun x => flR x.2.dm x.2.wk)
  (fun x => jiG code.length x.2 /\ x.2.wk.length + (code.length - x.2.dm.length) + 1 <= x.1 /\ x.1 <= code.length + 1 /\ juG code x.1 x.2 = R) (fun x => x.1) (code.length + 1, ⟨[(entry, 0)], [entry], false⟩) ?_ ⟨⟨?_, ?_, ?_, ?_⟩, ?_, Nat.le_refl _, hR⟩ ?_
 ·repeat' constructor
  unfold mkA mvA dmA;rfl
 ·intro p hp;rw [List.mem_singleton.1 hp]; exact ⟨by simp only; omega, he⟩
 ·simp
 ·intro k hk;rw [List.mem_singleton.1 hk]; exact ⟨0, List.mem_singleton.2 rfl⟩
 ·intro p hp;rw [List.mem_singleton.1 hp]; simp only [List.length_singleton]; omega
 ·simp only [List.length_singleton]; omega
 rintro ⟨m0, dm, wk, er⟩ ⟨g1, g2, g3, hR⟩
 simp only at g1 g2 g3 hR
 obtain ⟨m, rfl⟩ : ∃ m, m0 = m + 1 := ⟨m0 - 1, by omega⟩
 have hwl : wk.length <= 1000000 := by omega
 rcases List.eq_nil_or_concat wk with rfl | ⟨pre, a, hw⟩
 ·conv => whnf
  rw [juG] at hR;simp only [List.getLast?_nil] at hR;rw [<- hR]; rfl
 rw [List.concat_eq_append] at hw;subst hw;rw [juG] at hR;simp only [List.getLast?_append, List.getLast?_singleton, Option.some_or, List.dropLast_append_cons, List.dropLast_singleton, List.append_nil] at hR
 have hlen : (pre ++ [a]).length = pre.length + 1 := by simp
 have htk : (jbE (pre ++ [a])).take (pre.length * 1) = jbE pre := by unfold jbE; rw [List.map_append, Nat.mul_one]; exact List.take_left' (by simp)
 have hdr : (jbE (pre ++ [a])).drop ((((pre ++ [a]).length : Int) - 1).toNat * 1) = [intA a] := by
  have e1 : (((pre ++ [a]).length : Int) - 1).toNat * 1 = pre.length := by omega
  rw [e1];unfold jbE;rw [List.map_append];exact List.drop_left' (by simp)
 obtain ⟨d, hda⟩ := g1.wk a (List.mem_append_right _ List.mem_cons_self)
 have ha := g1.rng _ hda
 simp only at ha
 obtain ⟨d', hd'⟩ := jm2 hda
 have hdr' := g1.dep _ (jk5 hd')
 simp only at hdr'
 have hdl := jaF g1.rng g1.nd
 simp only at hdl
 have hpp := jqS (code.getD a.toNat (0, 0)).1
 have hps := jo0 (code.getD a.toNat (0, 0)).1
 have hnn := jv4 hj ha
 have hst : jlk code dm pre er a = jau code.length (d' - jaq (code.getD a.toNat (0, 0)).1 + ja7 (code.getD a.toNat (0, 0)).1) (nxI a (code.getD a.toNat (0, 0))) ⟨dm, pre, er || (decide (d' < jaq (code.getD a.toNat (0, 0)).1) || decide (16 < d' - jaq (code.getD a.toNat (0, 0)).1 + ja7 (code.getD a.toNat (0, 0)).1))⟩ := by
  unfold jlk jpg afF;rw [hd']; rfl
 rw [hst] at hR
 have hil : a.toNat < code.length := by omega
 have hgi : code.getD a.toNat (0, 0) = code[a.toNat] := by rw [List.getD_eq_getElem?_getD, List.getElem?_eq_getElem hil]; rfl
 have hcr : ja2 2 a.toNat (jcn code) = icA (code.getD a.toNat (0, 0)) := by rw [hgi]; exact jdC code _ hil
 have hio : 1 <= (code.getD a.toNat (0, 0)).1 /\ (code.getD a.toNat (0, 0)).1 <= 23 := by rw [hgi]; exact ho _ (List.getElem_mem hil)
 generalize code.getD a.toNat (0, 0) = i at *
 obtain ⟨op, n⟩ := i
 simp only at hpp hps hio hR hnn
 unfold icA at hcr
 simp only at hcr
 conv => whnf
 rw [decide_eq_true (show (0 : Int) < ((pre ++ [a]).length : Int) by rw [hlen]; omega)];conv => whnf
 refine ⟨show lo .i64 <= ((pre ++ [a]).length : Int) - 1 /\ ((pre ++ [a]).length : Int) - 1 <= hi .i64 from jam (by omega), ?_⟩;conv => whnf
 refine ⟨show (0 : Int) <= ((pre ++ [a]).length : Int) - 1 /\ ((pre ++ [a]).length : Int) - 1 < ((pre ++ [a]).length : Nat) from ⟨by omega, by omega⟩, ?_⟩;conv => whnf
 rw [hdr];conv => whnf
 refine ⟨show lo .i64 <= ((pre ++ [a]).length : Int) - 1 /\ ((pre ++ [a]).length : Int) - 1 <= hi .i64 from jam (by omega), ?_⟩;conv => whnf
 refine ⟨pre.length, jbE pre, ⟨show ((pre ++ [a]).length : Int) - 1 = (pre.length : Nat) by omega, show pre.length <= (pre ++ [a]).length by omega, htk.symm⟩, ?_⟩;conv => whnf
 refine ⟨ha, ?_⟩;conv => whnf
 (generalize hrq : ja2 _ _ (jcn code) = rq; obtain rfl : rq = [intA op, intA n] := hrq.symm.trans (hcr); clear hrq; conv => whnf)
 conv => whnf
 refine joP _ _ _ hio fun slo shi => ?_
 conv => whnf
 refine jab _ ?_;conv => whnf
 refine jar hd' ?_;conv => whnf
 refine ⟨jam (by omega), ?_⟩;conv => whnf
 refine ⟨jam (by omega), ?_⟩;conv => whnf
 refine jab _ ?_;conv => whnf
 refine jar hd' ?_;conv => whnf
 by_cases hb1 : d' < jaq op
 ·rw [decide_eq_true hb1] at hR ⊢;rw [Bool.true_or, Bool.or_true] at hR;conv => whnf
  unfold nxI at hR hnn
  simp only at hR hnn
  by_cases hc1 : op = 23
  ·rw [decide_eq_true hc1];rw [if_pos hc1] at hR hnn;unfold jau at hR
   have hF := hR
   simp only at hF
   conv => whnf
   refine ja5 [2, 5, 6, 7, 8, 88, 89, 90] ?_;conv => whnf
   refine jaj (fun _ : Unit => []) (fun _ => [pgL code e du vo]) (fun _ => flR dm pre) (fun _ => True) (fun _ => 0) () ?_ trivial ?_
   ·repeat' constructor
   rintro ⟨⟩ -;conv => whnf
   refine ⟨(m, ⟨dm, pre, true⟩), ja1 [0, 1] ?_, ⟨⟨g1.rng, g1.nd, fun k hk => g1.wk k (List.mem_append_left _ hk), g1.dep⟩, show pre.length + (code.length - dm.length) + 1 <= m by omega, show m <= code.length + 1 by omega, hF⟩, show m < m + 1 by omega⟩;conv => whnf
   repeat' constructor
  rw [decide_eq_false hc1];rw [if_neg hc1] at hR hnn;conv => whnf
  by_cases hc2 : op = 15
  ·rw [decide_eq_true hc2];rw [if_pos hc2] at hR hnn;conv => whnf
   obtain ⟨F, hF⟩ : ∃ F, jau code.length (d' - jaq op + ja7 op) [n] ⟨dm, pre, true⟩ = F := ⟨_, rfl⟩
   rw [hF] at hR;refine jbg [2] ?_;conv => whnf
   refine ja5 [2, 5, 6, 8, 12, 88, 89] ?_;conv => whnf
   refine jaj (fun x : Nat × Fs => [(7, intA (jpi x.2.er)), (90, .v (.int .i64 x.1))]) (fun _ => [pgL code e du vo]) (fun x => flR x.2.dm x.2.wk ++ [.pub 1 1 ([n].map intA)])
    (fun x => x.1 <= 1 /\ jiG code.length x.2 /\ x.2.wk.length + dm.length = pre.length + x.2.dm.length /\ dm.length <= x.2.dm.length /\ jau code.length (d' - jaq op + ja7 op) ([n].drop x.1) x.2 = F) (fun x => 1 - x.1) (0, ⟨dm, pre, true⟩) ?_ ⟨Nat.zero_le _, ⟨g1.rng, g1.nd, fun k hk => g1.wk k (List.mem_append_left _ hk), g1.dep⟩, rfl, Nat.le_refl _, hF⟩ ?_
   ·repeat' constructor
   clear hF;rintro ⟨j, dm1, wk1, er1⟩ ⟨f1, f2, f3, f4, hF⟩
   simp only at f1 f2 f3 f4 hF
   rcases (show j = 0 ∨ j = 1 by omega) with hj0 | hj0
   ·have hdr : [n].drop j = (n) :: [n].drop (j + 1) := by rw [hj0]; rfl
    rw [hdr] at hF;unfold jau at hF
    have hk0 : 0 <= n := hnn _ (by simp)
    have hdl1 := jaF f2.rng f2.nd
    simp only at hdl1
    by_cases hge : (code.length : Int) <= n
    ·unfold jbd at hF;rw [if_pos hge] at hF;rw [<- hF] at hR;conv => whnf
     rw [decide_eq_true (show (j : Int) < ((1 : Nat) : Int) by omega)];conv => whnf
     refine ⟨show (0 : Int) <= (j : Int) /\ (j : Int) < ((1 : Nat) : Int) from ⟨by omega, by omega⟩, ?_⟩;conv => whnf
     (generalize hrq : ja2 _ _ ([A.v (.int .i64 n)]) = rq; obtain rfl : rq = [intA (n)] := hrq.symm.trans ((by rw [hj0]; unfold ja2; rfl)); clear hrq; conv => whnf)
     rw [decide_eq_true hge];conv => whnf
     rw [<- hR]; rfl
    rcases jaM (dF dm1 (n)) with hdk | ⟨d2, hdk⟩
    ·have hkf : jbd code.length (d' - jaq op + ja7 op) ⟨dm1, wk1, er1⟩ (n) = some ⟨dm1 ++ [(n, d' - jaq op + ja7 op)], wk1 ++ [n], er1⟩ := by unfold jbd; rw [if_neg hge]; simp only; rw [hdk]
     obtain ⟨q1, q2, q3⟩ := jaA f2 hk0 ⟨by simp only; omega, by simp only; omega⟩ hkf
     rw [hkf] at hF
     simp only at hF
     conv => whnf
     rw [decide_eq_true (show (j : Int) < ((1 : Nat) : Int) by omega)];conv => whnf
     refine ⟨show (0 : Int) <= (j : Int) /\ (j : Int) < ((1 : Nat) : Int) from ⟨by omega, by omega⟩, ?_⟩;conv => whnf
     (generalize hrq : ja2 _ _ ([A.v (.int .i64 n)]) = rq; obtain rfl : rq = [intA (n)] := hrq.symm.trans ((by rw [hj0]; unfold ja2; rfl)); clear hrq; conv => whnf)
     rw [decide_eq_false hge];conv => whnf
     refine jab _ ?_;conv => whnf
     refine jaB hdk ?_;conv => whnf
     refine jbO hdk ?_;conv => whnf
     refine ⟨⟨show wk1.length + 1 <= maxLen by unfold maxLen; omega, show (wk1.length + 1) * 8 <= 140737488355328 by omega⟩, ?_⟩;conv => whnf
     refine ⟨show lo .i64 <= (j : Int) + 1 /\ (j : Int) + 1 <= hi .i64 from jam (by omega), ?_⟩;conv => whnf
     refine ⟨(j + 1, ⟨dm1 ++ [(n, d' - jaq op + ja7 op)], wk1 ++ [n], er1⟩), ja1 [0, 1, 2] ?_, ⟨show j + 1 <= 1 by omega, q1, show _ + _ = _ + _ by simp only at q2 ⊢; omega, show _ <= _ by simp only at q3 ⊢; omega, hF⟩, show 1 - (j + 1) < 1 - j by omega⟩;conv => whnf
     repeat' constructor
     ·exact jdd _ _ _ _
     ·exact jdf _ _ _
    ·have hkf : jbd code.length (d' - jaq op + ja7 op) ⟨dm1, wk1, er1⟩ (n) = some ⟨dm1, wk1, er1 || decide (d2 ≠ d' - jaq op + ja7 op)⟩ := by unfold jbd; rw [if_neg hge]; simp only; rw [hdk]
     obtain ⟨q1, q2, q3⟩ := jaA f2 hk0 ⟨by simp only; omega, by simp only; omega⟩ hkf
     rw [hkf] at hF
     simp only at hF
     conv => whnf
     rw [decide_eq_true (show (j : Int) < ((1 : Nat) : Int) by omega)];conv => whnf
     refine ⟨show (0 : Int) <= (j : Int) /\ (j : Int) < ((1 : Nat) : Int) from ⟨by omega, by omega⟩, ?_⟩;conv => whnf
     (generalize hrq : ja2 _ _ ([A.v (.int .i64 n)]) = rq; obtain rfl : rq = [intA (n)] := hrq.symm.trans ((by rw [hj0]; unfold ja2; rfl)); clear hrq; conv => whnf)
     rw [decide_eq_false hge];conv => whnf
     refine jab _ ?_;conv => whnf
     refine jar hdk ?_;conv => whnf
     rcases (show d2 = d' - jaq op + ja7 op ∨ d2 ≠ d' - jaq op + ja7 op by omega) with heq | heq
     ·rw [decide_eq_true heq];rw [decide_eq_false (fun h => h heq), Bool.or_false] at hF q1;conv => whnf
      refine ⟨show lo .i64 <= (j : Int) + 1 /\ (j : Int) + 1 <= hi .i64 from jam (by omega), ?_⟩;conv => whnf
      refine ⟨(j + 1, ⟨dm1, wk1, er1⟩), ja1 [0, 1, 2] ?_, ⟨show j + 1 <= 1 by omega, q1, show _ + _ = _ + _ by simp only at q2 ⊢; omega, show _ <= _ by simp only at q3 ⊢; omega, hF⟩, show 1 - (j + 1) < 1 - j by omega⟩;conv => whnf
      repeat' constructor
     ·rw [decide_eq_false heq];rw [decide_eq_true heq, Bool.or_true] at hF q1;conv => whnf
      refine ⟨show lo .i64 <= (j : Int) + 1 /\ (j : Int) + 1 <= hi .i64 from jam (by omega), ?_⟩;conv => whnf
      refine ⟨(j + 1, ⟨dm1, wk1, true⟩), ja1 [0, 1, 2] ?_, ⟨show j + 1 <= 1 by omega, q1, show _ + _ = _ + _ by simp only at q2 ⊢; omega, show _ <= _ by simp only at q3 ⊢; omega, hF⟩, show 1 - (j + 1) < 1 - j by omega⟩;conv => whnf
      repeat' constructor
   ·rw [show [n].drop j = [] by rw [hj0]; rfl] at hF;unfold jau at hF;rw [<- hF] at hR
    have hdl1 := jaF f2.rng f2.nd
    simp only at hdl1 hR
    conv => whnf
    rw [decide_eq_false (show ¬ (j : Int) < ((1 : Nat) : Int) by omega)];conv => whnf
    refine ⟨(m, ⟨dm1, wk1, er1⟩), ja1 [0, 1] ?_, ⟨f2, show wk1.length + (code.length - dm1.length) + 1 <= m by omega, show m <= code.length + 1 by omega, hR⟩, show m < m + 1 by omega⟩;conv => whnf
    repeat' constructor
  rw [decide_eq_false hc2];rw [if_neg hc2] at hR hnn;conv => whnf
  by_cases hc3 : op = 16
  ·rw [decide_eq_true hc3];rw [if_pos hc3] at hR hnn;conv => whnf
   refine ⟨show lo .i64 <= a + 1 /\ a + 1 <= hi .i64 from jam (by omega), ?_⟩;conv => whnf
   obtain ⟨F, hF⟩ : ∃ F, jau code.length (d' - jaq op + ja7 op) [a + 1, n] ⟨dm, pre, true⟩ = F := ⟨_, rfl⟩
   rw [hF] at hR;refine jbg [2] ?_;conv => whnf
   refine ja5 [2, 5, 6, 8, 12, 88, 89] ?_;conv => whnf
   refine jaj (fun x : Nat × Fs => [(7, intA (jpi x.2.er)), (90, .v (.int .i64 x.1))]) (fun _ => [pgL code e du vo]) (fun x => flR x.2.dm x.2.wk ++ [.pub 1 2 ([a + 1, n].map intA)])
    (fun x => x.1 <= 2 /\ jiG code.length x.2 /\ x.2.wk.length + dm.length = pre.length + x.2.dm.length /\ dm.length <= x.2.dm.length /\ jau code.length (d' - jaq op + ja7 op) ([a + 1, n].drop x.1) x.2 = F) (fun x => 2 - x.1) (0, ⟨dm, pre, true⟩) ?_ ⟨Nat.zero_le _, ⟨g1.rng, g1.nd, fun k hk => g1.wk k (List.mem_append_left _ hk), g1.dep⟩, rfl, Nat.le_refl _, hF⟩ ?_
   ·repeat' constructor
   clear hF;rintro ⟨j, dm1, wk1, er1⟩ ⟨f1, f2, f3, f4, hF⟩
   simp only at f1 f2 f3 f4 hF
   rcases (show j = 0 ∨ j = 1 ∨ j = 2 by omega) with hj0 | hj0 | hj0
   ·have hdr : [a + 1, n].drop j = (a + 1) :: [a + 1, n].drop (j + 1) := by rw [hj0]; rfl
    rw [hdr] at hF;unfold jau at hF
    have hk0 : 0 <= a + 1 := hnn _ (by simp)
    have hdl1 := jaF f2.rng f2.nd
    simp only at hdl1
    by_cases hge : (code.length : Int) <= a + 1
    ·unfold jbd at hF;rw [if_pos hge] at hF;rw [<- hF] at hR;conv => whnf
     rw [decide_eq_true (show (j : Int) < ((2 : Nat) : Int) by omega)];conv => whnf
     refine ⟨show (0 : Int) <= (j : Int) /\ (j : Int) < ((2 : Nat) : Int) from ⟨by omega, by omega⟩, ?_⟩;conv => whnf
     (generalize hrq : ja2 _ _ ([A.v (.int .i64 (a + 1)), A.v (.int .i64 n)]) = rq; obtain rfl : rq = [intA (a + 1)] := hrq.symm.trans ((by rw [hj0]; unfold ja2; rfl)); clear hrq; conv => whnf)
     rw [decide_eq_true hge];conv => whnf
     rw [<- hR]; rfl
    rcases jaM (dF dm1 (a + 1)) with hdk | ⟨d2, hdk⟩
    ·have hkf : jbd code.length (d' - jaq op + ja7 op) ⟨dm1, wk1, er1⟩ (a + 1) = some ⟨dm1 ++ [(a + 1, d' - jaq op + ja7 op)], wk1 ++ [a + 1], er1⟩ := by unfold jbd; rw [if_neg hge]; simp only; rw [hdk]
     obtain ⟨q1, q2, q3⟩ := jaA f2 hk0 ⟨by simp only; omega, by simp only; omega⟩ hkf
     rw [hkf] at hF
     simp only at hF
     conv => whnf
     rw [decide_eq_true (show (j : Int) < ((2 : Nat) : Int) by omega)];conv => whnf
     refine ⟨show (0 : Int) <= (j : Int) /\ (j : Int) < ((2 : Nat) : Int) from ⟨by omega, by omega⟩, ?_⟩;conv => whnf
     (generalize hrq : ja2 _ _ ([A.v (.int .i64 (a + 1)), A.v (.int .i64 n)]) = rq; obtain rfl : rq = [intA (a + 1)] := hrq.symm.trans ((by rw [hj0]; unfold ja2; rfl)); clear hrq; conv => whnf)
     rw [decide_eq_false hge];conv => whnf
     refine jab _ ?_;conv => whnf
     refine jaB hdk ?_;conv => whnf
     refine jbO hdk ?_;conv => whnf
     refine ⟨⟨show wk1.length + 1 <= maxLen by unfold maxLen; omega, show (wk1.length + 1) * 8 <= 140737488355328 by omega⟩, ?_⟩;conv => whnf
     refine ⟨show lo .i64 <= (j : Int) + 1 /\ (j : Int) + 1 <= hi .i64 from jam (by omega), ?_⟩;conv => whnf
     refine ⟨(j + 1, ⟨dm1 ++ [(a + 1, d' - jaq op + ja7 op)], wk1 ++ [a + 1], er1⟩), ja1 [0, 1, 2] ?_, ⟨show j + 1 <= 2 by omega, q1, show _ + _ = _ + _ by simp only at q2 ⊢; omega, show _ <= _ by simp only at q3 ⊢; omega, hF⟩, show 2 - (j + 1) < 2 - j by omega⟩;conv => whnf
     repeat' constructor
     ·exact jdd _ _ _ _
     ·exact jdf _ _ _
    ·have hkf : jbd code.length (d' - jaq op + ja7 op) ⟨dm1, wk1, er1⟩ (a + 1) = some ⟨dm1, wk1, er1 || decide (d2 ≠ d' - jaq op + ja7 op)⟩ := by unfold jbd; rw [if_neg hge]; simp only; rw [hdk]
     obtain ⟨q1, q2, q3⟩ := jaA f2 hk0 ⟨by simp only; omega, by simp only; omega⟩ hkf
     rw [hkf] at hF
     simp only at hF
     conv => whnf
     rw [decide_eq_true (show (j : Int) < ((2 : Nat) : Int) by omega)];conv => whnf
     refine ⟨show (0 : Int) <= (j : Int) /\ (j : Int) < ((2 : Nat) : Int) from ⟨by omega, by omega⟩, ?_⟩;conv => whnf
     (generalize hrq : ja2 _ _ ([A.v (.int .i64 (a + 1)), A.v (.int .i64 n)]) = rq; obtain rfl : rq = [intA (a + 1)] := hrq.symm.trans ((by rw [hj0]; unfold ja2; rfl)); clear hrq; conv => whnf)
     rw [decide_eq_false hge];conv => whnf
     refine jab _ ?_;conv => whnf
     refine jar hdk ?_;conv => whnf
     rcases (show d2 = d' - jaq op + ja7 op ∨ d2 ≠ d' - jaq op + ja7 op by omega) with heq | heq
     ·rw [decide_eq_true heq];rw [decide_eq_false (fun h => h heq), Bool.or_false] at hF q1;conv => whnf
      refine ⟨show lo .i64 <= (j : Int) + 1 /\ (j : Int) + 1 <= hi .i64 from jam (by omega), ?_⟩;conv => whnf
      refine ⟨(j + 1, ⟨dm1, wk1, er1⟩), ja1 [0, 1, 2] ?_, ⟨show j + 1 <= 2 by omega, q1, show _ + _ = _ + _ by simp only at q2 ⊢; omega, show _ <= _ by simp only at q3 ⊢; omega, hF⟩, show 2 - (j + 1) < 2 - j by omega⟩;conv => whnf
      repeat' constructor
     ·rw [decide_eq_false heq];rw [decide_eq_true heq, Bool.or_true] at hF q1;conv => whnf
      refine ⟨show lo .i64 <= (j : Int) + 1 /\ (j : Int) + 1 <= hi .i64 from jam (by omega), ?_⟩;conv => whnf
      refine ⟨(j + 1, ⟨dm1, wk1, true⟩), ja1 [0, 1, 2] ?_, ⟨show j + 1 <= 2 by omega, q1, show _ + _ = _ + _ by simp only at q2 ⊢; omega, show _ <= _ by simp only at q3 ⊢; omega, hF⟩, show 2 - (j + 1) < 2 - j by omega⟩;conv => whnf
      repeat' constructor
   ·have hdr : [a + 1, n].drop j = (n) :: [a + 1, n].drop (j + 1) := by rw [hj0]; rfl
    rw [hdr] at hF;unfold jau at hF
    have hk0 : 0 <= n := hnn _ (by simp)
    have hdl1 := jaF f2.rng f2.nd
    simp only at hdl1
    by_cases hge : (code.length : Int) <= n
    ·unfold jbd at hF;rw [if_pos hge] at hF;rw [<- hF] at hR;conv => whnf
     rw [decide_eq_true (show (j : Int) < ((2 : Nat) : Int) by omega)];conv => whnf
     refine ⟨show (0 : Int) <= (j : Int) /\ (j : Int) < ((2 : Nat) : Int) from ⟨by omega, by omega⟩, ?_⟩;conv => whnf
     (generalize hrq : ja2 _ _ ([A.v (.int .i64 (a + 1)), A.v (.int .i64 n)]) = rq; obtain rfl : rq = [intA (n)] := hrq.symm.trans ((by rw [hj0]; unfold ja2; rfl)); clear hrq; conv => whnf)
     rw [decide_eq_true hge];conv => whnf
     rw [<- hR]; rfl
    rcases jaM (dF dm1 (n)) with hdk | ⟨d2, hdk⟩
    ·have hkf : jbd code.length (d' - jaq op + ja7 op) ⟨dm1, wk1, er1⟩ (n) = some ⟨dm1 ++ [(n, d' - jaq op + ja7 op)], wk1 ++ [n], er1⟩ := by unfold jbd; rw [if_neg hge]; simp only; rw [hdk]
     obtain ⟨q1, q2, q3⟩ := jaA f2 hk0 ⟨by simp only; omega, by simp only; omega⟩ hkf
     rw [hkf] at hF
     simp only at hF
     conv => whnf
     rw [decide_eq_true (show (j : Int) < ((2 : Nat) : Int) by omega)];conv => whnf
     refine ⟨show (0 : Int) <= (j : Int) /\ (j : Int) < ((2 : Nat) : Int) from ⟨by omega, by omega⟩, ?_⟩;conv => whnf
     (generalize hrq : ja2 _ _ ([A.v (.int .i64 (a + 1)), A.v (.int .i64 n)]) = rq; obtain rfl : rq = [intA (n)] := hrq.symm.trans ((by rw [hj0]; unfold ja2; rfl)); clear hrq; conv => whnf)
     rw [decide_eq_false hge];conv => whnf
     refine jab _ ?_;conv => whnf
     refine jaB hdk ?_;conv => whnf
     refine jbO hdk ?_;conv => whnf
     refine ⟨⟨show wk1.length + 1 <= maxLen by unfold maxLen; omega, show (wk1.length + 1) * 8 <= 140737488355328 by omega⟩, ?_⟩;conv => whnf
     refine ⟨show lo .i64 <= (j : Int) + 1 /\ (j : Int) + 1 <= hi .i64 from jam (by omega), ?_⟩;conv => whnf
     refine ⟨(j + 1, ⟨dm1 ++ [(n, d' - jaq op + ja7 op)], wk1 ++ [n], er1⟩), ja1 [0, 1, 2] ?_, ⟨show j + 1 <= 2 by omega, q1, show _ + _ = _ + _ by simp only at q2 ⊢; omega, show _ <= _ by simp only at q3 ⊢; omega, hF⟩, show 2 - (j + 1) < 2 - j by omega⟩;conv => whnf
     repeat' constructor
     ·exact jdd _ _ _ _
     ·exact jdf _ _ _
    ·have hkf : jbd code.length (d' - jaq op + ja7 op) ⟨dm1, wk1, er1⟩ (n) = some ⟨dm1, wk1, er1 || decide (d2 ≠ d' - jaq op + ja7 op)⟩ := by unfold jbd; rw [if_neg hge]; simp only; rw [hdk]
     obtain ⟨q1, q2, q3⟩ := jaA f2 hk0 ⟨by simp only; omega, by simp only; omega⟩ hkf
     rw [hkf] at hF
     simp only at hF
     conv => whnf
     rw [decide_eq_true (show (j : Int) < ((2 : Nat) : Int) by omega)];conv => whnf
     refine ⟨show (0 : Int) <= (j : Int) /\ (j : Int) < ((2 : Nat) : Int) from ⟨by omega, by omega⟩, ?_⟩;conv => whnf
     (generalize hrq : ja2 _ _ ([A.v (.int .i64 (a + 1)), A.v (.int .i64 n)]) = rq; obtain rfl : rq = [intA (n)] := hrq.symm.trans ((by rw [hj0]; unfold ja2; rfl)); clear hrq; conv => whnf)
     rw [decide_eq_false hge];conv => whnf
     refine jab _ ?_;conv => whnf
     refine jar hdk ?_;conv => whnf
     rcases (show d2 = d' - jaq op + ja7 op ∨ d2 ≠ d' - jaq op + ja7 op by omega) with heq | heq
     ·rw [decide_eq_true heq];rw [decide_eq_false (fun h => h heq), Bool.or_false] at hF q1;conv => whnf
      refine ⟨show lo .i64 <= (j : Int) + 1 /\ (j : Int) + 1 <= hi .i64 from jam (by omega), ?_⟩;conv => whnf
      refine ⟨(j + 1, ⟨dm1, wk1, er1⟩), ja1 [0, 1, 2] ?_, ⟨show j + 1 <= 2 by omega, q1, show _ + _ = _ + _ by simp only at q2 ⊢; omega, show _ <= _ by simp only at q3 ⊢; omega, hF⟩, show 2 - (j + 1) < 2 - j by omega⟩;conv => whnf
      repeat' constructor
     ·rw [decide_eq_false heq];rw [decide_eq_true heq, Bool.or_true] at hF q1;conv => whnf
      refine ⟨show lo .i64 <= (j : Int) + 1 /\ (j : Int) + 1 <= hi .i64 from jam (by omega), ?_⟩;conv => whnf
      refine ⟨(j + 1, ⟨dm1, wk1, true⟩), ja1 [0, 1, 2] ?_, ⟨show j + 1 <= 2 by omega, q1, show _ + _ = _ + _ by simp only at q2 ⊢; omega, show _ <= _ by simp only at q3 ⊢; omega, hF⟩, show 2 - (j + 1) < 2 - j by omega⟩;conv => whnf
      repeat' constructor
   ·rw [show [a + 1, n].drop j = [] by rw [hj0]; rfl] at hF;unfold jau at hF;rw [<- hF] at hR
    have hdl1 := jaF f2.rng f2.nd
    simp only at hdl1 hR
    conv => whnf
    rw [decide_eq_false (show ¬ (j : Int) < ((2 : Nat) : Int) by omega)];conv => whnf
    refine ⟨(m, ⟨dm1, wk1, er1⟩), ja1 [0, 1] ?_, ⟨f2, show wk1.length + (code.length - dm1.length) + 1 <= m by omega, show m <= code.length + 1 by omega, hR⟩, show m < m + 1 by omega⟩;conv => whnf
    repeat' constructor
  rw [decide_eq_false hc3];rw [if_neg hc3] at hR hnn;conv => whnf
  refine ⟨show lo .i64 <= a + 1 /\ a + 1 <= hi .i64 from jam (by omega), ?_⟩;conv => whnf
  obtain ⟨F, hF⟩ : ∃ F, jau code.length (d' - jaq op + ja7 op) [a + 1] ⟨dm, pre, true⟩ = F := ⟨_, rfl⟩
  rw [hF] at hR;refine jbg [2] ?_;conv => whnf
  refine ja5 [2, 5, 6, 8, 12, 88, 89] ?_;conv => whnf
  refine jaj (fun x : Nat × Fs => [(7, intA (jpi x.2.er)), (90, .v (.int .i64 x.1))]) (fun _ => [pgL code e du vo]) (fun x => flR x.2.dm x.2.wk ++ [.pub 1 1 ([a + 1].map intA)])
   (fun x => x.1 <= 1 /\ jiG code.length x.2 /\ x.2.wk.length + dm.length = pre.length + x.2.dm.length /\ dm.length <= x.2.dm.length /\ jau code.length (d' - jaq op + ja7 op) ([a + 1].drop x.1) x.2 = F) (fun x => 1 - x.1) (0, ⟨dm, pre, true⟩) ?_ ⟨Nat.zero_le _, ⟨g1.rng, g1.nd, fun k hk => g1.wk k (List.mem_append_left _ hk), g1.dep⟩, rfl, Nat.le_refl _, hF⟩ ?_
  ·repeat' constructor
  clear hF;rintro ⟨j, dm1, wk1, er1⟩ ⟨f1, f2, f3, f4, hF⟩
  simp only at f1 f2 f3 f4 hF
  rcases (show j = 0 ∨ j = 1 by omega) with hj0 | hj0
  ·have hdr : [a + 1].drop j = (a + 1) :: [a + 1].drop (j + 1) := by rw [hj0]; rfl
   rw [hdr] at hF;unfold jau at hF
   have hk0 : 0 <= a + 1 := hnn _ (by simp)
   have hdl1 := jaF f2.rng f2.nd
   simp only at hdl1
   by_cases hge : (code.length : Int) <= a + 1
   ·unfold jbd at hF;rw [if_pos hge] at hF;rw [<- hF] at hR;conv => whnf
    rw [decide_eq_true (show (j : Int) < ((1 : Nat) : Int) by omega)];conv => whnf
    refine ⟨show (0 : Int) <= (j : Int) /\ (j : Int) < ((1 : Nat) : Int) from ⟨by omega, by omega⟩, ?_⟩;conv => whnf
    (generalize hrq : ja2 _ _ ([A.v (.int .i64 (a + 1))]) = rq; obtain rfl : rq = [intA (a + 1)] := hrq.symm.trans ((by rw [hj0]; unfold ja2; rfl)); clear hrq; conv => whnf)
    rw [decide_eq_true hge];conv => whnf
    rw [<- hR]; rfl
   rcases jaM (dF dm1 (a + 1)) with hdk | ⟨d2, hdk⟩
   ·have hkf : jbd code.length (d' - jaq op + ja7 op) ⟨dm1, wk1, er1⟩ (a + 1) = some ⟨dm1 ++ [(a + 1, d' - jaq op + ja7 op)], wk1 ++ [a + 1], er1⟩ := by unfold jbd; rw [if_neg hge]; simp only; rw [hdk]
    obtain ⟨q1, q2, q3⟩ := jaA f2 hk0 ⟨by simp only; omega, by simp only; omega⟩ hkf
    rw [hkf] at hF
    simp only at hF
    conv => whnf
    rw [decide_eq_true (show (j : Int) < ((1 : Nat) : Int) by omega)];conv => whnf
    refine ⟨show (0 : Int) <= (j : Int) /\ (j : Int) < ((1 : Nat) : Int) from ⟨by omega, by omega⟩, ?_⟩;conv => whnf
    (generalize hrq : ja2 _ _ ([A.v (.int .i64 (a + 1))]) = rq; obtain rfl : rq = [intA (a + 1)] := hrq.symm.trans ((by rw [hj0]; unfold ja2; rfl)); clear hrq; conv => whnf)
    rw [decide_eq_false hge];conv => whnf
    refine jab _ ?_;conv => whnf
    refine jaB hdk ?_;conv => whnf
    refine jbO hdk ?_;conv => whnf
    refine ⟨⟨show wk1.length + 1 <= maxLen by unfold maxLen; omega, show (wk1.length + 1) * 8 <= 140737488355328 by omega⟩, ?_⟩;conv => whnf
    refine ⟨show lo .i64 <= (j : Int) + 1 /\ (j : Int) + 1 <= hi .i64 from jam (by omega), ?_⟩;conv => whnf
    refine ⟨(j + 1, ⟨dm1 ++ [(a + 1, d' - jaq op + ja7 op)], wk1 ++ [a + 1], er1⟩), ja1 [0, 1, 2] ?_, ⟨show j + 1 <= 1 by omega, q1, show _ + _ = _ + _ by simp only at q2 ⊢; omega, show _ <= _ by simp only at q3 ⊢; omega, hF⟩, show 1 - (j + 1) < 1 - j by omega⟩;conv => whnf
    repeat' constructor
    ·exact jdd _ _ _ _
    ·exact jdf _ _ _
   ·have hkf : jbd code.length (d' - jaq op + ja7 op) ⟨dm1, wk1, er1⟩ (a + 1) = some ⟨dm1, wk1, er1 || decide (d2 ≠ d' - jaq op + ja7 op)⟩ := by unfold jbd; rw [if_neg hge]; simp only; rw [hdk]
    obtain ⟨q1, q2, q3⟩ := jaA f2 hk0 ⟨by simp only; omega, by simp only; omega⟩ hkf
    rw [hkf] at hF
    simp only at hF
    conv => whnf
    rw [decide_eq_true (show (j : Int) < ((1 : Nat) : Int) by omega)];conv => whnf
    refine ⟨show (0 : Int) <= (j : Int) /\ (j : Int) < ((1 : Nat) : Int) from ⟨by omega, by omega⟩, ?_⟩;conv => whnf
    (generalize hrq : ja2 _ _ ([A.v (.int .i64 (a + 1))]) = rq; obtain rfl : rq = [intA (a + 1)] := hrq.symm.trans ((by rw [hj0]; unfold ja2; rfl)); clear hrq; conv => whnf)
    rw [decide_eq_false hge];conv => whnf
    refine jab _ ?_;conv => whnf
    refine jar hdk ?_;conv => whnf
    rcases (show d2 = d' - jaq op + ja7 op ∨ d2 ≠ d' - jaq op + ja7 op by omega) with heq | heq
    ·rw [decide_eq_true heq];rw [decide_eq_false (fun h => h heq), Bool.or_false] at hF q1;conv => whnf
     refine ⟨show lo .i64 <= (j : Int) + 1 /\ (j : Int) + 1 <= hi .i64 from jam (by omega), ?_⟩;conv => whnf
     refine ⟨(j + 1, ⟨dm1, wk1, er1⟩), ja1 [0, 1, 2] ?_, ⟨show j + 1 <= 1 by omega, q1, show _ + _ = _ + _ by simp only at q2 ⊢; omega, show _ <= _ by simp only at q3 ⊢; omega, hF⟩, show 1 - (j + 1) < 1 - j by omega⟩;conv => whnf
     repeat' constructor
    ·rw [decide_eq_false heq];rw [decide_eq_true heq, Bool.or_true] at hF q1;conv => whnf
     refine ⟨show lo .i64 <= (j : Int) + 1 /\ (j : Int) + 1 <= hi .i64 from jam (by omega), ?_⟩;conv => whnf
     refine ⟨(j + 1, ⟨dm1, wk1, true⟩), ja1 [0, 1, 2] ?_, ⟨show j + 1 <= 1 by omega, q1, show _ + _ = _ + _ by simp only at q2 ⊢; omega, show _ <= _ by simp only at q3 ⊢; omega, hF⟩, show 1 - (j + 1) < 1 - j by omega⟩;conv => whnf
     repeat' constructor
  ·rw [show [a + 1].drop j = [] by rw [hj0]; rfl] at hF;unfold jau at hF;rw [<- hF] at hR
   have hdl1 := jaF f2.rng f2.nd
   simp only at hdl1 hR
   conv => whnf
   rw [decide_eq_false (show ¬ (j : Int) < ((1 : Nat) : Int) by omega)];conv => whnf
   refine ⟨(m, ⟨dm1, wk1, er1⟩), ja1 [0, 1] ?_, ⟨f2, show wk1.length + (code.length - dm1.length) + 1 <= m by omega, show m <= code.length + 1 by omega, hR⟩, show m < m + 1 by omega⟩;conv => whnf
   repeat' constructor
 rw [decide_eq_false hb1] at hR ⊢;conv => whnf
 by_cases hb2 : 16 < d' - jaq op + ja7 op
 ·rw [decide_eq_true hb2] at hR ⊢;rw [Bool.or_true, Bool.or_true] at hR;conv => whnf
  unfold nxI at hR hnn
  simp only at hR hnn
  by_cases hc1 : op = 23
  ·rw [decide_eq_true hc1];rw [if_pos hc1] at hR hnn;unfold jau at hR
   have hF := hR
   simp only at hF
   conv => whnf
   refine ja5 [2, 5, 6, 7, 8, 88, 89, 90] ?_;conv => whnf
   refine jaj (fun _ : Unit => []) (fun _ => [pgL code e du vo]) (fun _ => flR dm pre) (fun _ => True) (fun _ => 0) () ?_ trivial ?_
   ·repeat' constructor
   rintro ⟨⟩ -;conv => whnf
   refine ⟨(m, ⟨dm, pre, true⟩), ja1 [0, 1] ?_, ⟨⟨g1.rng, g1.nd, fun k hk => g1.wk k (List.mem_append_left _ hk), g1.dep⟩, show pre.length + (code.length - dm.length) + 1 <= m by omega, show m <= code.length + 1 by omega, hF⟩, show m < m + 1 by omega⟩;conv => whnf
   repeat' constructor
  rw [decide_eq_false hc1];rw [if_neg hc1] at hR hnn;conv => whnf
  by_cases hc2 : op = 15
  ·rw [decide_eq_true hc2];rw [if_pos hc2] at hR hnn;conv => whnf
   obtain ⟨F, hF⟩ : ∃ F, jau code.length (d' - jaq op + ja7 op) [n] ⟨dm, pre, true⟩ = F := ⟨_, rfl⟩
   rw [hF] at hR;refine jbg [2] ?_;conv => whnf
   refine ja5 [2, 5, 6, 8, 12, 88, 89] ?_;conv => whnf
   refine jaj (fun x : Nat × Fs => [(7, intA (jpi x.2.er)), (90, .v (.int .i64 x.1))]) (fun _ => [pgL code e du vo]) (fun x => flR x.2.dm x.2.wk ++ [.pub 1 1 ([n].map intA)])
    (fun x => x.1 <= 1 /\ jiG code.length x.2 /\ x.2.wk.length + dm.length = pre.length + x.2.dm.length /\ dm.length <= x.2.dm.length /\ jau code.length (d' - jaq op + ja7 op) ([n].drop x.1) x.2 = F) (fun x => 1 - x.1) (0, ⟨dm, pre, true⟩) ?_ ⟨Nat.zero_le _, ⟨g1.rng, g1.nd, fun k hk => g1.wk k (List.mem_append_left _ hk), g1.dep⟩, rfl, Nat.le_refl _, hF⟩ ?_
   ·repeat' constructor
   clear hF;rintro ⟨j, dm1, wk1, er1⟩ ⟨f1, f2, f3, f4, hF⟩
   simp only at f1 f2 f3 f4 hF
   rcases (show j = 0 ∨ j = 1 by omega) with hj0 | hj0
   ·have hdr : [n].drop j = (n) :: [n].drop (j + 1) := by rw [hj0]; rfl
    rw [hdr] at hF;unfold jau at hF
    have hk0 : 0 <= n := hnn _ (by simp)
    have hdl1 := jaF f2.rng f2.nd
    simp only at hdl1
    by_cases hge : (code.length : Int) <= n
    ·unfold jbd at hF;rw [if_pos hge] at hF;rw [<- hF] at hR;conv => whnf
     rw [decide_eq_true (show (j : Int) < ((1 : Nat) : Int) by omega)];conv => whnf
     refine ⟨show (0 : Int) <= (j : Int) /\ (j : Int) < ((1 : Nat) : Int) from ⟨by omega, by omega⟩, ?_⟩;conv => whnf
     (generalize hrq : ja2 _ _ ([A.v (.int .i64 n)]) = rq; obtain rfl : rq = [intA (n)] := hrq.symm.trans ((by rw [hj0]; unfold ja2; rfl)); clear hrq; conv => whnf)
     rw [decide_eq_true hge];conv => whnf
     rw [<- hR]; rfl
    rcases jaM (dF dm1 (n)) with hdk | ⟨d2, hdk⟩
    ·have hkf : jbd code.length (d' - jaq op + ja7 op) ⟨dm1, wk1, er1⟩ (n) = some ⟨dm1 ++ [(n, d' - jaq op + ja7 op)], wk1 ++ [n], er1⟩ := by unfold jbd; rw [if_neg hge]; simp only; rw [hdk]
     obtain ⟨q1, q2, q3⟩ := jaA f2 hk0 ⟨by simp only; omega, by simp only; omega⟩ hkf
     rw [hkf] at hF
     simp only at hF
     conv => whnf
     rw [decide_eq_true (show (j : Int) < ((1 : Nat) : Int) by omega)];conv => whnf
     refine ⟨show (0 : Int) <= (j : Int) /\ (j : Int) < ((1 : Nat) : Int) from ⟨by omega, by omega⟩, ?_⟩;conv => whnf
     (generalize hrq : ja2 _ _ ([A.v (.int .i64 n)]) = rq; obtain rfl : rq = [intA (n)] := hrq.symm.trans ((by rw [hj0]; unfold ja2; rfl)); clear hrq; conv => whnf)
     rw [decide_eq_false hge];conv => whnf
     refine jab _ ?_;conv => whnf
     refine jaB hdk ?_;conv => whnf
     refine jbO hdk ?_;conv => whnf
     refine ⟨⟨show wk1.length + 1 <= maxLen by unfold maxLen; omega, show (wk1.length + 1) * 8 <= 140737488355328 by omega⟩, ?_⟩;conv => whnf
     refine ⟨show lo .i64 <= (j : Int) + 1 /\ (j : Int) + 1 <= hi .i64 from jam (by omega), ?_⟩;conv => whnf
     refine ⟨(j + 1, ⟨dm1 ++ [(n, d' - jaq op + ja7 op)], wk1 ++ [n], er1⟩), ja1 [0, 1, 2] ?_, ⟨show j + 1 <= 1 by omega, q1, show _ + _ = _ + _ by simp only at q2 ⊢; omega, show _ <= _ by simp only at q3 ⊢; omega, hF⟩, show 1 - (j + 1) < 1 - j by omega⟩;conv => whnf
     repeat' constructor
     ·exact jdd _ _ _ _
     ·exact jdf _ _ _
    ·have hkf : jbd code.length (d' - jaq op + ja7 op) ⟨dm1, wk1, er1⟩ (n) = some ⟨dm1, wk1, er1 || decide (d2 ≠ d' - jaq op + ja7 op)⟩ := by unfold jbd; rw [if_neg hge]; simp only; rw [hdk]
     obtain ⟨q1, q2, q3⟩ := jaA f2 hk0 ⟨by simp only; omega, by simp only; omega⟩ hkf
     rw [hkf] at hF
     simp only at hF
     conv => whnf
     rw [decide_eq_true (show (j : Int) < ((1 : Nat) : Int) by omega)];conv => whnf
     refine ⟨show (0 : Int) <= (j : Int) /\ (j : Int) < ((1 : Nat) : Int) from ⟨by omega, by omega⟩, ?_⟩;conv => whnf
     (generalize hrq : ja2 _ _ ([A.v (.int .i64 n)]) = rq; obtain rfl : rq = [intA (n)] := hrq.symm.trans ((by rw [hj0]; unfold ja2; rfl)); clear hrq; conv => whnf)
     rw [decide_eq_false hge];conv => whnf
     refine jab _ ?_;conv => whnf
     refine jar hdk ?_;conv => whnf
     rcases (show d2 = d' - jaq op + ja7 op ∨ d2 ≠ d' - jaq op + ja7 op by omega) with heq | heq
     ·rw [decide_eq_true heq];rw [decide_eq_false (fun h => h heq), Bool.or_false] at hF q1;conv => whnf
      refine ⟨show lo .i64 <= (j : Int) + 1 /\ (j : Int) + 1 <= hi .i64 from jam (by omega), ?_⟩;conv => whnf
      refine ⟨(j + 1, ⟨dm1, wk1, er1⟩), ja1 [0, 1, 2] ?_, ⟨show j + 1 <= 1 by omega, q1, show _ + _ = _ + _ by simp only at q2 ⊢; omega, show _ <= _ by simp only at q3 ⊢; omega, hF⟩, show 1 - (j + 1) < 1 - j by omega⟩;conv => whnf
      repeat' constructor
     ·rw [decide_eq_false heq];rw [decide_eq_true heq, Bool.or_true] at hF q1;conv => whnf
      refine ⟨show lo .i64 <= (j : Int) + 1 /\ (j : Int) + 1 <= hi .i64 from jam (by omega), ?_⟩;conv => whnf
      refine ⟨(j + 1, ⟨dm1, wk1, true⟩), ja1 [0, 1, 2] ?_, ⟨show j + 1 <= 1 by omega, q1, show _ + _ = _ + _ by simp only at q2 ⊢; omega, show _ <= _ by simp only at q3 ⊢; omega, hF⟩, show 1 - (j + 1) < 1 - j by omega⟩;conv => whnf
      repeat' constructor
   ·rw [show [n].drop j = [] by rw [hj0]; rfl] at hF;unfold jau at hF;rw [<- hF] at hR
    have hdl1 := jaF f2.rng f2.nd
    simp only at hdl1 hR
    conv => whnf
    rw [decide_eq_false (show ¬ (j : Int) < ((1 : Nat) : Int) by omega)];conv => whnf
    refine ⟨(m, ⟨dm1, wk1, er1⟩), ja1 [0, 1] ?_, ⟨f2, show wk1.length + (code.length - dm1.length) + 1 <= m by omega, show m <= code.length + 1 by omega, hR⟩, show m < m + 1 by omega⟩;conv => whnf
    repeat' constructor
  rw [decide_eq_false hc2];rw [if_neg hc2] at hR hnn;conv => whnf
  by_cases hc3 : op = 16
  ·rw [decide_eq_true hc3];rw [if_pos hc3] at hR hnn;conv => whnf
   refine ⟨show lo .i64 <= a + 1 /\ a + 1 <= hi .i64 from jam (by omega), ?_⟩;conv => whnf
   obtain ⟨F, hF⟩ : ∃ F, jau code.length (d' - jaq op + ja7 op) [a + 1, n] ⟨dm, pre, true⟩ = F := ⟨_, rfl⟩
   rw [hF] at hR;refine jbg [2] ?_;conv => whnf
   refine ja5 [2, 5, 6, 8, 12, 88, 89] ?_;conv => whnf
   refine jaj (fun x : Nat × Fs => [(7, intA (jpi x.2.er)), (90, .v (.int .i64 x.1))]) (fun _ => [pgL code e du vo]) (fun x => flR x.2.dm x.2.wk ++ [.pub 1 2 ([a + 1, n].map intA)])
    (fun x => x.1 <= 2 /\ jiG code.length x.2 /\ x.2.wk.length + dm.length = pre.length + x.2.dm.length /\ dm.length <= x.2.dm.length /\ jau code.length (d' - jaq op + ja7 op) ([a + 1, n].drop x.1) x.2 = F) (fun x => 2 - x.1) (0, ⟨dm, pre, true⟩) ?_ ⟨Nat.zero_le _, ⟨g1.rng, g1.nd, fun k hk => g1.wk k (List.mem_append_left _ hk), g1.dep⟩, rfl, Nat.le_refl _, hF⟩ ?_
   ·repeat' constructor
   clear hF;rintro ⟨j, dm1, wk1, er1⟩ ⟨f1, f2, f3, f4, hF⟩
   simp only at f1 f2 f3 f4 hF
   rcases (show j = 0 ∨ j = 1 ∨ j = 2 by omega) with hj0 | hj0 | hj0
   ·have hdr : [a + 1, n].drop j = (a + 1) :: [a + 1, n].drop (j + 1) := by rw [hj0]; rfl
    rw [hdr] at hF;unfold jau at hF
    have hk0 : 0 <= a + 1 := hnn _ (by simp)
    have hdl1 := jaF f2.rng f2.nd
    simp only at hdl1
    by_cases hge : (code.length : Int) <= a + 1
    ·unfold jbd at hF;rw [if_pos hge] at hF;rw [<- hF] at hR;conv => whnf
     rw [decide_eq_true (show (j : Int) < ((2 : Nat) : Int) by omega)];conv => whnf
     refine ⟨show (0 : Int) <= (j : Int) /\ (j : Int) < ((2 : Nat) : Int) from ⟨by omega, by omega⟩, ?_⟩;conv => whnf
     (generalize hrq : ja2 _ _ ([A.v (.int .i64 (a + 1)), A.v (.int .i64 n)]) = rq; obtain rfl : rq = [intA (a + 1)] := hrq.symm.trans ((by rw [hj0]; unfold ja2; rfl)); clear hrq; conv => whnf)
     rw [decide_eq_true hge];conv => whnf
     rw [<- hR]; rfl
    rcases jaM (dF dm1 (a + 1)) with hdk | ⟨d2, hdk⟩
    ·have hkf : jbd code.length (d' - jaq op + ja7 op) ⟨dm1, wk1, er1⟩ (a + 1) = some ⟨dm1 ++ [(a + 1, d' - jaq op + ja7 op)], wk1 ++ [a + 1], er1⟩ := by unfold jbd; rw [if_neg hge]; simp only; rw [hdk]
     obtain ⟨q1, q2, q3⟩ := jaA f2 hk0 ⟨by simp only; omega, by simp only; omega⟩ hkf
     rw [hkf] at hF
     simp only at hF
     conv => whnf
     rw [decide_eq_true (show (j : Int) < ((2 : Nat) : Int) by omega)];conv => whnf
     refine ⟨show (0 : Int) <= (j : Int) /\ (j : Int) < ((2 : Nat) : Int) from ⟨by omega, by omega⟩, ?_⟩;conv => whnf
     (generalize hrq : ja2 _ _ ([A.v (.int .i64 (a + 1)), A.v (.int .i64 n)]) = rq; obtain rfl : rq = [intA (a + 1)] := hrq.symm.trans ((by rw [hj0]; unfold ja2; rfl)); clear hrq; conv => whnf)
     rw [decide_eq_false hge];conv => whnf
     refine jab _ ?_;conv => whnf
     refine jaB hdk ?_;conv => whnf
     refine jbO hdk ?_;conv => whnf
     refine ⟨⟨show wk1.length + 1 <= maxLen by unfold maxLen; omega, show (wk1.length + 1) * 8 <= 140737488355328 by omega⟩, ?_⟩;conv => whnf
     refine ⟨show lo .i64 <= (j : Int) + 1 /\ (j : Int) + 1 <= hi .i64 from jam (by omega), ?_⟩;conv => whnf
     refine ⟨(j + 1, ⟨dm1 ++ [(a + 1, d' - jaq op + ja7 op)], wk1 ++ [a + 1], er1⟩), ja1 [0, 1, 2] ?_, ⟨show j + 1 <= 2 by omega, q1, show _ + _ = _ + _ by simp only at q2 ⊢; omega, show _ <= _ by simp only at q3 ⊢; omega, hF⟩, show 2 - (j + 1) < 2 - j by omega⟩;conv => whnf
     repeat' constructor
     ·exact jdd _ _ _ _
     ·exact jdf _ _ _
    ·have hkf : jbd code.length (d' - jaq op + ja7 op) ⟨dm1, wk1, er1⟩ (a + 1) = some ⟨dm1, wk1, er1 || decide (d2 ≠ d' - jaq op + ja7 op)⟩ := by unfold jbd; rw [if_neg hge]; simp only; rw [hdk]
     obtain ⟨q1, q2, q3⟩ := jaA f2 hk0 ⟨by simp only; omega, by simp only; omega⟩ hkf
     rw [hkf] at hF
     simp only at hF
     conv => whnf
     rw [decide_eq_true (show (j : Int) < ((2 : Nat) : Int) by omega)];conv => whnf
     refine ⟨show (0 : Int) <= (j : Int) /\ (j : Int) < ((2 : Nat) : Int) from ⟨by omega, by omega⟩, ?_⟩;conv => whnf
     (generalize hrq : ja2 _ _ ([A.v (.int .i64 (a + 1)), A.v (.int .i64 n)]) = rq; obtain rfl : rq = [intA (a + 1)] := hrq.symm.trans ((by rw [hj0]; unfold ja2; rfl)); clear hrq; conv => whnf)
     rw [decide_eq_false hge];conv => whnf
     refine jab _ ?_;conv => whnf
     refine jar hdk ?_;conv => whnf
     rcases (show d2 = d' - jaq op + ja7 op ∨ d2 ≠ d' - jaq op + ja7 op by omega) with heq | heq
     ·rw [decide_eq_true heq];rw [decide_eq_false (fun h => h heq), Bool.or_false] at hF q1;conv => whnf
      refine ⟨show lo .i64 <= (j : Int) + 1 /\ (j : Int) + 1 <= hi .i64 from jam (by omega), ?_⟩;conv => whnf
      refine ⟨(j + 1, ⟨dm1, wk1, er1⟩), ja1 [0, 1, 2] ?_, ⟨show j + 1 <= 2 by omega, q1, show _ + _ = _ + _ by simp only at q2 ⊢; omega, show _ <= _ by simp only at q3 ⊢; omega, hF⟩, show 2 - (j + 1) < 2 - j by omega⟩;conv => whnf
      repeat' constructor
     ·rw [decide_eq_false heq];rw [decide_eq_true heq, Bool.or_true] at hF q1;conv => whnf
      refine ⟨show lo .i64 <= (j : Int) + 1 /\ (j : Int) + 1 <= hi .i64 from jam (by omega), ?_⟩;conv => whnf
      refine ⟨(j + 1, ⟨dm1, wk1, true⟩), ja1 [0, 1, 2] ?_, ⟨show j + 1 <= 2 by omega, q1, show _ + _ = _ + _ by simp only at q2 ⊢; omega, show _ <= _ by simp only at q3 ⊢; omega, hF⟩, show 2 - (j + 1) < 2 - j by omega⟩;conv => whnf
      repeat' constructor
   ·have hdr : [a + 1, n].drop j = (n) :: [a + 1, n].drop (j + 1) := by rw [hj0]; rfl
    rw [hdr] at hF;unfold jau at hF
    have hk0 : 0 <= n := hnn _ (by simp)
    have hdl1 := jaF f2.rng f2.nd
    simp only at hdl1
    by_cases hge : (code.length : Int) <= n
    ·unfold jbd at hF;rw [if_pos hge] at hF;rw [<- hF] at hR;conv => whnf
     rw [decide_eq_true (show (j : Int) < ((2 : Nat) : Int) by omega)];conv => whnf
     refine ⟨show (0 : Int) <= (j : Int) /\ (j : Int) < ((2 : Nat) : Int) from ⟨by omega, by omega⟩, ?_⟩;conv => whnf
     (generalize hrq : ja2 _ _ ([A.v (.int .i64 (a + 1)), A.v (.int .i64 n)]) = rq; obtain rfl : rq = [intA (n)] := hrq.symm.trans ((by rw [hj0]; unfold ja2; rfl)); clear hrq; conv => whnf)
     rw [decide_eq_true hge];conv => whnf
     rw [<- hR]; rfl
    rcases jaM (dF dm1 (n)) with hdk | ⟨d2, hdk⟩
    ·have hkf : jbd code.length (d' - jaq op + ja7 op) ⟨dm1, wk1, er1⟩ (n) = some ⟨dm1 ++ [(n, d' - jaq op + ja7 op)], wk1 ++ [n], er1⟩ := by unfold jbd; rw [if_neg hge]; simp only; rw [hdk]
     obtain ⟨q1, q2, q3⟩ := jaA f2 hk0 ⟨by simp only; omega, by simp only; omega⟩ hkf
     rw [hkf] at hF
     simp only at hF
     conv => whnf
     rw [decide_eq_true (show (j : Int) < ((2 : Nat) : Int) by omega)];conv => whnf
     refine ⟨show (0 : Int) <= (j : Int) /\ (j : Int) < ((2 : Nat) : Int) from ⟨by omega, by omega⟩, ?_⟩;conv => whnf
     (generalize hrq : ja2 _ _ ([A.v (.int .i64 (a + 1)), A.v (.int .i64 n)]) = rq; obtain rfl : rq = [intA (n)] := hrq.symm.trans ((by rw [hj0]; unfold ja2; rfl)); clear hrq; conv => whnf)
     rw [decide_eq_false hge];conv => whnf
     refine jab _ ?_;conv => whnf
     refine jaB hdk ?_;conv => whnf
     refine jbO hdk ?_;conv => whnf
     refine ⟨⟨show wk1.length + 1 <= maxLen by unfold maxLen; omega, show (wk1.length + 1) * 8 <= 140737488355328 by omega⟩, ?_⟩;conv => whnf
     refine ⟨show lo .i64 <= (j : Int) + 1 /\ (j : Int) + 1 <= hi .i64 from jam (by omega), ?_⟩;conv => whnf
     refine ⟨(j + 1, ⟨dm1 ++ [(n, d' - jaq op + ja7 op)], wk1 ++ [n], er1⟩), ja1 [0, 1, 2] ?_, ⟨show j + 1 <= 2 by omega, q1, show _ + _ = _ + _ by simp only at q2 ⊢; omega, show _ <= _ by simp only at q3 ⊢; omega, hF⟩, show 2 - (j + 1) < 2 - j by omega⟩;conv => whnf
     repeat' constructor
     ·exact jdd _ _ _ _
     ·exact jdf _ _ _
    ·have hkf : jbd code.length (d' - jaq op + ja7 op) ⟨dm1, wk1, er1⟩ (n) = some ⟨dm1, wk1, er1 || decide (d2 ≠ d' - jaq op + ja7 op)⟩ := by unfold jbd; rw [if_neg hge]; simp only; rw [hdk]
     obtain ⟨q1, q2, q3⟩ := jaA f2 hk0 ⟨by simp only; omega, by simp only; omega⟩ hkf
     rw [hkf] at hF
     simp only at hF
     conv => whnf
     rw [decide_eq_true (show (j : Int) < ((2 : Nat) : Int) by omega)];conv => whnf
     refine ⟨show (0 : Int) <= (j : Int) /\ (j : Int) < ((2 : Nat) : Int) from ⟨by omega, by omega⟩, ?_⟩;conv => whnf
     (generalize hrq : ja2 _ _ ([A.v (.int .i64 (a + 1)), A.v (.int .i64 n)]) = rq; obtain rfl : rq = [intA (n)] := hrq.symm.trans ((by rw [hj0]; unfold ja2; rfl)); clear hrq; conv => whnf)
     rw [decide_eq_false hge];conv => whnf
     refine jab _ ?_;conv => whnf
     refine jar hdk ?_;conv => whnf
     rcases (show d2 = d' - jaq op + ja7 op ∨ d2 ≠ d' - jaq op + ja7 op by omega) with heq | heq
     ·rw [decide_eq_true heq];rw [decide_eq_false (fun h => h heq), Bool.or_false] at hF q1;conv => whnf
      refine ⟨show lo .i64 <= (j : Int) + 1 /\ (j : Int) + 1 <= hi .i64 from jam (by omega), ?_⟩;conv => whnf
      refine ⟨(j + 1, ⟨dm1, wk1, er1⟩), ja1 [0, 1, 2] ?_, ⟨show j + 1 <= 2 by omega, q1, show _ + _ = _ + _ by simp only at q2 ⊢; omega, show _ <= _ by simp only at q3 ⊢; omega, hF⟩, show 2 - (j + 1) < 2 - j by omega⟩;conv => whnf
      repeat' constructor
     ·rw [decide_eq_false heq];rw [decide_eq_true heq, Bool.or_true] at hF q1;conv => whnf
      refine ⟨show lo .i64 <= (j : Int) + 1 /\ (j : Int) + 1 <= hi .i64 from jam (by omega), ?_⟩;conv => whnf
      refine ⟨(j + 1, ⟨dm1, wk1, true⟩), ja1 [0, 1, 2] ?_, ⟨show j + 1 <= 2 by omega, q1, show _ + _ = _ + _ by simp only at q2 ⊢; omega, show _ <= _ by simp only at q3 ⊢; omega, hF⟩, show 2 - (j + 1) < 2 - j by omega⟩;conv => whnf
      repeat' constructor
   ·rw [show [a + 1, n].drop j = [] by rw [hj0]; rfl] at hF;unfold jau at hF;rw [<- hF] at hR
    have hdl1 := jaF f2.rng f2.nd
    simp only at hdl1 hR
    conv => whnf
    rw [decide_eq_false (show ¬ (j : Int) < ((2 : Nat) : Int) by omega)];conv => whnf
    refine ⟨(m, ⟨dm1, wk1, er1⟩), ja1 [0, 1] ?_, ⟨f2, show wk1.length + (code.length - dm1.length) + 1 <= m by omega, show m <= code.length + 1 by omega, hR⟩, show m < m + 1 by omega⟩;conv => whnf
    repeat' constructor
  rw [decide_eq_false hc3];rw [if_neg hc3] at hR hnn;conv => whnf
  refine ⟨show lo .i64 <= a + 1 /\ a + 1 <= hi .i64 from jam (by omega), ?_⟩;conv => whnf
  obtain ⟨F, hF⟩ : ∃ F, jau code.length (d' - jaq op + ja7 op) [a + 1] ⟨dm, pre, true⟩ = F := ⟨_, rfl⟩
  rw [hF] at hR;refine jbg [2] ?_;conv => whnf
  refine ja5 [2, 5, 6, 8, 12, 88, 89] ?_;conv => whnf
  refine jaj (fun x : Nat × Fs => [(7, intA (jpi x.2.er)), (90, .v (.int .i64 x.1))]) (fun _ => [pgL code e du vo]) (fun x => flR x.2.dm x.2.wk ++ [.pub 1 1 ([a + 1].map intA)])
   (fun x => x.1 <= 1 /\ jiG code.length x.2 /\ x.2.wk.length + dm.length = pre.length + x.2.dm.length /\ dm.length <= x.2.dm.length /\ jau code.length (d' - jaq op + ja7 op) ([a + 1].drop x.1) x.2 = F) (fun x => 1 - x.1) (0, ⟨dm, pre, true⟩) ?_ ⟨Nat.zero_le _, ⟨g1.rng, g1.nd, fun k hk => g1.wk k (List.mem_append_left _ hk), g1.dep⟩, rfl, Nat.le_refl _, hF⟩ ?_
  ·repeat' constructor
  clear hF;rintro ⟨j, dm1, wk1, er1⟩ ⟨f1, f2, f3, f4, hF⟩
  simp only at f1 f2 f3 f4 hF
  rcases (show j = 0 ∨ j = 1 by omega) with hj0 | hj0
  ·have hdr : [a + 1].drop j = (a + 1) :: [a + 1].drop (j + 1) := by rw [hj0]; rfl
   rw [hdr] at hF;unfold jau at hF
   have hk0 : 0 <= a + 1 := hnn _ (by simp)
   have hdl1 := jaF f2.rng f2.nd
   simp only at hdl1
   by_cases hge : (code.length : Int) <= a + 1
   ·unfold jbd at hF;rw [if_pos hge] at hF;rw [<- hF] at hR;conv => whnf
    rw [decide_eq_true (show (j : Int) < ((1 : Nat) : Int) by omega)];conv => whnf
    refine ⟨show (0 : Int) <= (j : Int) /\ (j : Int) < ((1 : Nat) : Int) from ⟨by omega, by omega⟩, ?_⟩;conv => whnf
    (generalize hrq : ja2 _ _ ([A.v (.int .i64 (a + 1))]) = rq; obtain rfl : rq = [intA (a + 1)] := hrq.symm.trans ((by rw [hj0]; unfold ja2; rfl)); clear hrq; conv => whnf)
    rw [decide_eq_true hge];conv => whnf
    rw [<- hR]; rfl
   rcases jaM (dF dm1 (a + 1)) with hdk | ⟨d2, hdk⟩
   ·have hkf : jbd code.length (d' - jaq op + ja7 op) ⟨dm1, wk1, er1⟩ (a + 1) = some ⟨dm1 ++ [(a + 1, d' - jaq op + ja7 op)], wk1 ++ [a + 1], er1⟩ := by unfold jbd; rw [if_neg hge]; simp only; rw [hdk]
    obtain ⟨q1, q2, q3⟩ := jaA f2 hk0 ⟨by simp only; omega, by simp only; omega⟩ hkf
    rw [hkf] at hF
    simp only at hF
    conv => whnf
    rw [decide_eq_true (show (j : Int) < ((1 : Nat) : Int) by omega)];conv => whnf
    refine ⟨show (0 : Int) <= (j : Int) /\ (j : Int) < ((1 : Nat) : Int) from ⟨by omega, by omega⟩, ?_⟩;conv => whnf
    (generalize hrq : ja2 _ _ ([A.v (.int .i64 (a + 1))]) = rq; obtain rfl : rq = [intA (a + 1)] := hrq.symm.trans ((by rw [hj0]; unfold ja2; rfl)); clear hrq; conv => whnf)
    rw [decide_eq_false hge];conv => whnf
    refine jab _ ?_;conv => whnf
    refine jaB hdk ?_;conv => whnf
    refine jbO hdk ?_;conv => whnf
    refine ⟨⟨show wk1.length + 1 <= maxLen by unfold maxLen; omega, show (wk1.length + 1) * 8 <= 140737488355328 by omega⟩, ?_⟩;conv => whnf
    refine ⟨show lo .i64 <= (j : Int) + 1 /\ (j : Int) + 1 <= hi .i64 from jam (by omega), ?_⟩;conv => whnf
    refine ⟨(j + 1, ⟨dm1 ++ [(a + 1, d' - jaq op + ja7 op)], wk1 ++ [a + 1], er1⟩), ja1 [0, 1, 2] ?_, ⟨show j + 1 <= 1 by omega, q1, show _ + _ = _ + _ by simp only at q2 ⊢; omega, show _ <= _ by simp only at q3 ⊢; omega, hF⟩, show 1 - (j + 1) < 1 - j by omega⟩;conv => whnf
    repeat' constructor
    ·exact jdd _ _ _ _
    ·exact jdf _ _ _
   ·have hkf : jbd code.length (d' - jaq op + ja7 op) ⟨dm1, wk1, er1⟩ (a + 1) = some ⟨dm1, wk1, er1 || decide (d2 ≠ d' - jaq op + ja7 op)⟩ := by unfold jbd; rw [if_neg hge]; simp only; rw [hdk]
    obtain ⟨q1, q2, q3⟩ := jaA f2 hk0 ⟨by simp only; omega, by simp only; omega⟩ hkf
    rw [hkf] at hF
    simp only at hF
    conv => whnf
    rw [decide_eq_true (show (j : Int) < ((1 : Nat) : Int) by omega)];conv => whnf
    refine ⟨show (0 : Int) <= (j : Int) /\ (j : Int) < ((1 : Nat) : Int) from ⟨by omega, by omega⟩, ?_⟩;conv => whnf
    (generalize hrq : ja2 _ _ ([A.v (.int .i64 (a + 1))]) = rq; obtain rfl : rq = [intA (a + 1)] := hrq.symm.trans ((by rw [hj0]; unfold ja2; rfl)); clear hrq; conv => whnf)
    rw [decide_eq_false hge];conv => whnf
    refine jab _ ?_;conv => whnf
    refine jar hdk ?_;conv => whnf
    rcases (show d2 = d' - jaq op + ja7 op ∨ d2 ≠ d' - jaq op + ja7 op by omega) with heq | heq
    ·rw [decide_eq_true heq];rw [decide_eq_false (fun h => h heq), Bool.or_false] at hF q1;conv => whnf
     refine ⟨show lo .i64 <= (j : Int) + 1 /\ (j : Int) + 1 <= hi .i64 from jam (by omega), ?_⟩;conv => whnf
     refine ⟨(j + 1, ⟨dm1, wk1, er1⟩), ja1 [0, 1, 2] ?_, ⟨show j + 1 <= 1 by omega, q1, show _ + _ = _ + _ by simp only at q2 ⊢; omega, show _ <= _ by simp only at q3 ⊢; omega, hF⟩, show 1 - (j + 1) < 1 - j by omega⟩;conv => whnf
     repeat' constructor
    ·rw [decide_eq_false heq];rw [decide_eq_true heq, Bool.or_true] at hF q1;conv => whnf
     refine ⟨show lo .i64 <= (j : Int) + 1 /\ (j : Int) + 1 <= hi .i64 from jam (by omega), ?_⟩;conv => whnf
     refine ⟨(j + 1, ⟨dm1, wk1, true⟩), ja1 [0, 1, 2] ?_, ⟨show j + 1 <= 1 by omega, q1, show _ + _ = _ + _ by simp only at q2 ⊢; omega, show _ <= _ by simp only at q3 ⊢; omega, hF⟩, show 1 - (j + 1) < 1 - j by omega⟩;conv => whnf
     repeat' constructor
  ·rw [show [a + 1].drop j = [] by rw [hj0]; rfl] at hF;unfold jau at hF;rw [<- hF] at hR
   have hdl1 := jaF f2.rng f2.nd
   simp only at hdl1 hR
   conv => whnf
   rw [decide_eq_false (show ¬ (j : Int) < ((1 : Nat) : Int) by omega)];conv => whnf
   refine ⟨(m, ⟨dm1, wk1, er1⟩), ja1 [0, 1] ?_, ⟨f2, show wk1.length + (code.length - dm1.length) + 1 <= m by omega, show m <= code.length + 1 by omega, hR⟩, show m < m + 1 by omega⟩;conv => whnf
   repeat' constructor
 rw [decide_eq_false hb2] at hR ⊢;rw [Bool.or_self, Bool.or_false] at hR;conv => whnf
 unfold nxI at hR hnn
 simp only at hR hnn
 by_cases hc1 : op = 23
 ·rw [decide_eq_true hc1];rw [if_pos hc1] at hR hnn;unfold jau at hR
  have hF := hR
  simp only at hF
  conv => whnf
  refine ja5 [2, 5, 6, 7, 8, 88, 89, 90] ?_;conv => whnf
  refine jaj (fun _ : Unit => []) (fun _ => [pgL code e du vo]) (fun _ => flR dm pre) (fun _ => True) (fun _ => 0) () ?_ trivial ?_
  ·repeat' constructor
  rintro ⟨⟩ -;conv => whnf
  refine ⟨(m, ⟨dm, pre, er⟩), ja1 [0, 1] ?_, ⟨⟨g1.rng, g1.nd, fun k hk => g1.wk k (List.mem_append_left _ hk), g1.dep⟩, show pre.length + (code.length - dm.length) + 1 <= m by omega, show m <= code.length + 1 by omega, hF⟩, show m < m + 1 by omega⟩;conv => whnf
  repeat' constructor
 rw [decide_eq_false hc1];rw [if_neg hc1] at hR hnn;conv => whnf
 by_cases hc2 : op = 15
 ·rw [decide_eq_true hc2];rw [if_pos hc2] at hR hnn;conv => whnf
  obtain ⟨F, hF⟩ : ∃ F, jau code.length (d' - jaq op + ja7 op) [n] ⟨dm, pre, er⟩ = F := ⟨_, rfl⟩
  rw [hF] at hR;refine jbg [2] ?_;conv => whnf
  refine ja5 [2, 5, 6, 8, 12, 88, 89] ?_;conv => whnf
  refine jaj (fun x : Nat × Fs => [(7, intA (jpi x.2.er)), (90, .v (.int .i64 x.1))]) (fun _ => [pgL code e du vo]) (fun x => flR x.2.dm x.2.wk ++ [.pub 1 1 ([n].map intA)])
   (fun x => x.1 <= 1 /\ jiG code.length x.2 /\ x.2.wk.length + dm.length = pre.length + x.2.dm.length /\ dm.length <= x.2.dm.length /\ jau code.length (d' - jaq op + ja7 op) ([n].drop x.1) x.2 = F) (fun x => 1 - x.1) (0, ⟨dm, pre, er⟩) ?_ ⟨Nat.zero_le _, ⟨g1.rng, g1.nd, fun k hk => g1.wk k (List.mem_append_left _ hk), g1.dep⟩, rfl, Nat.le_refl _, hF⟩ ?_
  ·repeat' constructor
  clear hF;rintro ⟨j, dm1, wk1, er1⟩ ⟨f1, f2, f3, f4, hF⟩
  simp only at f1 f2 f3 f4 hF
  rcases (show j = 0 ∨ j = 1 by omega) with hj0 | hj0
  ·have hdr : [n].drop j = (n) :: [n].drop (j + 1) := by rw [hj0]; rfl
   rw [hdr] at hF;unfold jau at hF
   have hk0 : 0 <= n := hnn _ (by simp)
   have hdl1 := jaF f2.rng f2.nd
   simp only at hdl1
   by_cases hge : (code.length : Int) <= n
   ·unfold jbd at hF;rw [if_pos hge] at hF;rw [<- hF] at hR;conv => whnf
    rw [decide_eq_true (show (j : Int) < ((1 : Nat) : Int) by omega)];conv => whnf
    refine ⟨show (0 : Int) <= (j : Int) /\ (j : Int) < ((1 : Nat) : Int) from ⟨by omega, by omega⟩, ?_⟩;conv => whnf
    (generalize hrq : ja2 _ _ ([A.v (.int .i64 n)]) = rq; obtain rfl : rq = [intA (n)] := hrq.symm.trans ((by rw [hj0]; unfold ja2; rfl)); clear hrq; conv => whnf)
    rw [decide_eq_true hge];conv => whnf
    rw [<- hR]; rfl
   rcases jaM (dF dm1 (n)) with hdk | ⟨d2, hdk⟩
   ·have hkf : jbd code.length (d' - jaq op + ja7 op) ⟨dm1, wk1, er1⟩ (n) = some ⟨dm1 ++ [(n, d' - jaq op + ja7 op)], wk1 ++ [n], er1⟩ := by unfold jbd; rw [if_neg hge]; simp only; rw [hdk]
    obtain ⟨q1, q2, q3⟩ := jaA f2 hk0 ⟨by simp only; omega, by simp only; omega⟩ hkf
    rw [hkf] at hF
    simp only at hF
    conv => whnf
    rw [decide_eq_true (show (j : Int) < ((1 : Nat) : Int) by omega)];conv => whnf
    refine ⟨show (0 : Int) <= (j : Int) /\ (j : Int) < ((1 : Nat) : Int) from ⟨by omega, by omega⟩, ?_⟩;conv => whnf
    (generalize hrq : ja2 _ _ ([A.v (.int .i64 n)]) = rq; obtain rfl : rq = [intA (n)] := hrq.symm.trans ((by rw [hj0]; unfold ja2; rfl)); clear hrq; conv => whnf)
    rw [decide_eq_false hge];conv => whnf
    refine jab _ ?_;conv => whnf
    refine jaB hdk ?_;conv => whnf
    refine jbO hdk ?_;conv => whnf
    refine ⟨⟨show wk1.length + 1 <= maxLen by unfold maxLen; omega, show (wk1.length + 1) * 8 <= 140737488355328 by omega⟩, ?_⟩;conv => whnf
    refine ⟨show lo .i64 <= (j : Int) + 1 /\ (j : Int) + 1 <= hi .i64 from jam (by omega), ?_⟩;conv => whnf
    refine ⟨(j + 1, ⟨dm1 ++ [(n, d' - jaq op + ja7 op)], wk1 ++ [n], er1⟩), ja1 [0, 1, 2] ?_, ⟨show j + 1 <= 1 by omega, q1, show _ + _ = _ + _ by simp only at q2 ⊢; omega, show _ <= _ by simp only at q3 ⊢; omega, hF⟩, show 1 - (j + 1) < 1 - j by omega⟩;conv => whnf
    repeat' constructor
    ·exact jdd _ _ _ _
    ·exact jdf _ _ _
   ·have hkf : jbd code.length (d' - jaq op + ja7 op) ⟨dm1, wk1, er1⟩ (n) = some ⟨dm1, wk1, er1 || decide (d2 ≠ d' - jaq op + ja7 op)⟩ := by unfold jbd; rw [if_neg hge]; simp only; rw [hdk]
    obtain ⟨q1, q2, q3⟩ := jaA f2 hk0 ⟨by simp only; omega, by simp only; omega⟩ hkf
    rw [hkf] at hF
    simp only at hF
    conv => whnf
    rw [decide_eq_true (show (j : Int) < ((1 : Nat) : Int) by omega)];conv => whnf
    refine ⟨show (0 : Int) <= (j : Int) /\ (j : Int) < ((1 : Nat) : Int) from ⟨by omega, by omega⟩, ?_⟩;conv => whnf
    (generalize hrq : ja2 _ _ ([A.v (.int .i64 n)]) = rq; obtain rfl : rq = [intA (n)] := hrq.symm.trans ((by rw [hj0]; unfold ja2; rfl)); clear hrq; conv => whnf)
    rw [decide_eq_false hge];conv => whnf
    refine jab _ ?_;conv => whnf
    refine jar hdk ?_;conv => whnf
    rcases (show d2 = d' - jaq op + ja7 op ∨ d2 ≠ d' - jaq op + ja7 op by omega) with heq | heq
    ·rw [decide_eq_true heq];rw [decide_eq_false (fun h => h heq), Bool.or_false] at hF q1;conv => whnf
     refine ⟨show lo .i64 <= (j : Int) + 1 /\ (j : Int) + 1 <= hi .i64 from jam (by omega), ?_⟩;conv => whnf
     refine ⟨(j + 1, ⟨dm1, wk1, er1⟩), ja1 [0, 1, 2] ?_, ⟨show j + 1 <= 1 by omega, q1, show _ + _ = _ + _ by simp only at q2 ⊢; omega, show _ <= _ by simp only at q3 ⊢; omega, hF⟩, show 1 - (j + 1) < 1 - j by omega⟩;conv => whnf
     repeat' constructor
    ·rw [decide_eq_false heq];rw [decide_eq_true heq, Bool.or_true] at hF q1;conv => whnf
     refine ⟨show lo .i64 <= (j : Int) + 1 /\ (j : Int) + 1 <= hi .i64 from jam (by omega), ?_⟩;conv => whnf
     refine ⟨(j + 1, ⟨dm1, wk1, true⟩), ja1 [0, 1, 2] ?_, ⟨show j + 1 <= 1 by omega, q1, show _ + _ = _ + _ by simp only at q2 ⊢; omega, show _ <= _ by simp only at q3 ⊢; omega, hF⟩, show 1 - (j + 1) < 1 - j by omega⟩;conv => whnf
     repeat' constructor
  ·rw [show [n].drop j = [] by rw [hj0]; rfl] at hF;unfold jau at hF;rw [<- hF] at hR
   have hdl1 := jaF f2.rng f2.nd
   simp only at hdl1 hR
   conv => whnf
   rw [decide_eq_false (show ¬ (j : Int) < ((1 : Nat) : Int) by omega)];conv => whnf
   refine ⟨(m, ⟨dm1, wk1, er1⟩), ja1 [0, 1] ?_, ⟨f2, show wk1.length + (code.length - dm1.length) + 1 <= m by omega, show m <= code.length + 1 by omega, hR⟩, show m < m + 1 by omega⟩;conv => whnf
   repeat' constructor
 rw [decide_eq_false hc2];rw [if_neg hc2] at hR hnn;conv => whnf
 by_cases hc3 : op = 16
 ·rw [decide_eq_true hc3];rw [if_pos hc3] at hR hnn;conv => whnf
  refine ⟨show lo .i64 <= a + 1 /\ a + 1 <= hi .i64 from jam (by omega), ?_⟩;conv => whnf
  obtain ⟨F, hF⟩ : ∃ F, jau code.length (d' - jaq op + ja7 op) [a + 1, n] ⟨dm, pre, er⟩ = F := ⟨_, rfl⟩
  rw [hF] at hR;refine jbg [2] ?_;conv => whnf
  refine ja5 [2, 5, 6, 8, 12, 88, 89] ?_;conv => whnf
  refine jaj (fun x : Nat × Fs => [(7, intA (jpi x.2.er)), (90, .v (.int .i64 x.1))]) (fun _ => [pgL code e du vo]) (fun x => flR x.2.dm x.2.wk ++ [.pub 1 2 ([a + 1, n].map intA)])
   (fun x => x.1 <= 2 /\ jiG code.length x.2 /\ x.2.wk.length + dm.length = pre.length + x.2.dm.length /\ dm.length <= x.2.dm.length /\ jau code.length (d' - jaq op + ja7 op) ([a + 1, n].drop x.1) x.2 = F) (fun x => 2 - x.1) (0, ⟨dm, pre, er⟩) ?_ ⟨Nat.zero_le _, ⟨g1.rng, g1.nd, fun k hk => g1.wk k (List.mem_append_left _ hk), g1.dep⟩, rfl, Nat.le_refl _, hF⟩ ?_
  ·repeat' constructor
  clear hF;rintro ⟨j, dm1, wk1, er1⟩ ⟨f1, f2, f3, f4, hF⟩
  simp only at f1 f2 f3 f4 hF
  rcases (show j = 0 ∨ j = 1 ∨ j = 2 by omega) with hj0 | hj0 | hj0
  ·have hdr : [a + 1, n].drop j = (a + 1) :: [a + 1, n].drop (j + 1) := by rw [hj0]; rfl
   rw [hdr] at hF;unfold jau at hF
   have hk0 : 0 <= a + 1 := hnn _ (by simp)
   have hdl1 := jaF f2.rng f2.nd
   simp only at hdl1
   by_cases hge : (code.length : Int) <= a + 1
   ·unfold jbd at hF;rw [if_pos hge] at hF;rw [<- hF] at hR;conv => whnf
    rw [decide_eq_true (show (j : Int) < ((2 : Nat) : Int) by omega)];conv => whnf
    refine ⟨show (0 : Int) <= (j : Int) /\ (j : Int) < ((2 : Nat) : Int) from ⟨by omega, by omega⟩, ?_⟩;conv => whnf
    (generalize hrq : ja2 _ _ ([A.v (.int .i64 (a + 1)), A.v (.int .i64 n)]) = rq; obtain rfl : rq = [intA (a + 1)] := hrq.symm.trans ((by rw [hj0]; unfold ja2; rfl)); clear hrq; conv => whnf)
    rw [decide_eq_true hge];conv => whnf
    rw [<- hR]; rfl
   rcases jaM (dF dm1 (a + 1)) with hdk | ⟨d2, hdk⟩
   ·have hkf : jbd code.length (d' - jaq op + ja7 op) ⟨dm1, wk1, er1⟩ (a + 1) = some ⟨dm1 ++ [(a + 1, d' - jaq op + ja7 op)], wk1 ++ [a + 1], er1⟩ := by unfold jbd; rw [if_neg hge]; simp only; rw [hdk]
    obtain ⟨q1, q2, q3⟩ := jaA f2 hk0 ⟨by simp only; omega, by simp only; omega⟩ hkf
    rw [hkf] at hF
    simp only at hF
    conv => whnf
    rw [decide_eq_true (show (j : Int) < ((2 : Nat) : Int) by omega)];conv => whnf
    refine ⟨show (0 : Int) <= (j : Int) /\ (j : Int) < ((2 : Nat) : Int) from ⟨by omega, by omega⟩, ?_⟩;conv => whnf
    (generalize hrq : ja2 _ _ ([A.v (.int .i64 (a + 1)), A.v (.int .i64 n)]) = rq; obtain rfl : rq = [intA (a + 1)] := hrq.symm.trans ((by rw [hj0]; unfold ja2; rfl)); clear hrq; conv => whnf)
    rw [decide_eq_false hge];conv => whnf
    refine jab _ ?_;conv => whnf
    refine jaB hdk ?_;conv => whnf
    refine jbO hdk ?_;conv => whnf
    refine ⟨⟨show wk1.length + 1 <= maxLen by unfold maxLen; omega, show (wk1.length + 1) * 8 <= 140737488355328 by omega⟩, ?_⟩;conv => whnf
    refine ⟨show lo .i64 <= (j : Int) + 1 /\ (j : Int) + 1 <= hi .i64 from jam (by omega), ?_⟩;conv => whnf
    refine ⟨(j + 1, ⟨dm1 ++ [(a + 1, d' - jaq op + ja7 op)], wk1 ++ [a + 1], er1⟩), ja1 [0, 1, 2] ?_, ⟨show j + 1 <= 2 by omega, q1, show _ + _ = _ + _ by simp only at q2 ⊢; omega, show _ <= _ by simp only at q3 ⊢; omega, hF⟩, show 2 - (j + 1) < 2 - j by omega⟩;conv => whnf
    repeat' constructor
    ·exact jdd _ _ _ _
    ·exact jdf _ _ _
   ·have hkf : jbd code.length (d' - jaq op + ja7 op) ⟨dm1, wk1, er1⟩ (a + 1) = some ⟨dm1, wk1, er1 || decide (d2 ≠ d' - jaq op + ja7 op)⟩ := by unfold jbd; rw [if_neg hge]; simp only; rw [hdk]
    obtain ⟨q1, q2, q3⟩ := jaA f2 hk0 ⟨by simp only; omega, by simp only; omega⟩ hkf
    rw [hkf] at hF
    simp only at hF
    conv => whnf
    rw [decide_eq_true (show (j : Int) < ((2 : Nat) : Int) by omega)];conv => whnf
    refine ⟨show (0 : Int) <= (j : Int) /\ (j : Int) < ((2 : Nat) : Int) from ⟨by omega, by omega⟩, ?_⟩;conv => whnf
    (generalize hrq : ja2 _ _ ([A.v (.int .i64 (a + 1)), A.v (.int .i64 n)]) = rq; obtain rfl : rq = [intA (a + 1)] := hrq.symm.trans ((by rw [hj0]; unfold ja2; rfl)); clear hrq; conv => whnf)
    rw [decide_eq_false hge];conv => whnf
    refine jab _ ?_;conv => whnf
    refine jar hdk ?_;conv => whnf
    rcases (show d2 = d' - jaq op + ja7 op ∨ d2 ≠ d' - jaq op + ja7 op by omega) with heq | heq
    ·rw [decide_eq_true heq];rw [decide_eq_false (fun h => h heq), Bool.or_false] at hF q1;conv => whnf
     refine ⟨show lo .i64 <= (j : Int) + 1 /\ (j : Int) + 1 <= hi .i64 from jam (by omega), ?_⟩;conv => whnf
     refine ⟨(j + 1, ⟨dm1, wk1, er1⟩), ja1 [0, 1, 2] ?_, ⟨show j + 1 <= 2 by omega, q1, show _ + _ = _ + _ by simp only at q2 ⊢; omega, show _ <= _ by simp only at q3 ⊢; omega, hF⟩, show 2 - (j + 1) < 2 - j by omega⟩;conv => whnf
     repeat' constructor
    ·rw [decide_eq_false heq];rw [decide_eq_true heq, Bool.or_true] at hF q1;conv => whnf
     refine ⟨show lo .i64 <= (j : Int) + 1 /\ (j : Int) + 1 <= hi .i64 from jam (by omega), ?_⟩;conv => whnf
     refine ⟨(j + 1, ⟨dm1, wk1, true⟩), ja1 [0, 1, 2] ?_, ⟨show j + 1 <= 2 by omega, q1, show _ + _ = _ + _ by simp only at q2 ⊢; omega, show _ <= _ by simp only at q3 ⊢; omega, hF⟩, show 2 - (j + 1) < 2 - j by omega⟩;conv => whnf
     repeat' constructor
  ·have hdr : [a + 1, n].drop j = (n) :: [a + 1, n].drop (j + 1) := by rw [hj0]; rfl
   rw [hdr] at hF;unfold jau at hF
   have hk0 : 0 <= n := hnn _ (by simp)
   have hdl1 := jaF f2.rng f2.nd
   simp only at hdl1
   by_cases hge : (code.length : Int) <= n
   ·unfold jbd at hF;rw [if_pos hge] at hF;rw [<- hF] at hR;conv => whnf
    rw [decide_eq_true (show (j : Int) < ((2 : Nat) : Int) by omega)];conv => whnf
    refine ⟨show (0 : Int) <= (j : Int) /\ (j : Int) < ((2 : Nat) : Int) from ⟨by omega, by omega⟩, ?_⟩;conv => whnf
    (generalize hrq : ja2 _ _ ([A.v (.int .i64 (a + 1)), A.v (.int .i64 n)]) = rq; obtain rfl : rq = [intA (n)] := hrq.symm.trans ((by rw [hj0]; unfold ja2; rfl)); clear hrq; conv => whnf)
    rw [decide_eq_true hge];conv => whnf
    rw [<- hR]; rfl
   rcases jaM (dF dm1 (n)) with hdk | ⟨d2, hdk⟩
   ·have hkf : jbd code.length (d' - jaq op + ja7 op) ⟨dm1, wk1, er1⟩ (n) = some ⟨dm1 ++ [(n, d' - jaq op + ja7 op)], wk1 ++ [n], er1⟩ := by unfold jbd; rw [if_neg hge]; simp only; rw [hdk]
    obtain ⟨q1, q2, q3⟩ := jaA f2 hk0 ⟨by simp only; omega, by simp only; omega⟩ hkf
    rw [hkf] at hF
    simp only at hF
    conv => whnf
    rw [decide_eq_true (show (j : Int) < ((2 : Nat) : Int) by omega)];conv => whnf
    refine ⟨show (0 : Int) <= (j : Int) /\ (j : Int) < ((2 : Nat) : Int) from ⟨by omega, by omega⟩, ?_⟩;conv => whnf
    (generalize hrq : ja2 _ _ ([A.v (.int .i64 (a + 1)), A.v (.int .i64 n)]) = rq; obtain rfl : rq = [intA (n)] := hrq.symm.trans ((by rw [hj0]; unfold ja2; rfl)); clear hrq; conv => whnf)
    rw [decide_eq_false hge];conv => whnf
    refine jab _ ?_;conv => whnf
    refine jaB hdk ?_;conv => whnf
    refine jbO hdk ?_;conv => whnf
    refine ⟨⟨show wk1.length + 1 <= maxLen by unfold maxLen; omega, show (wk1.length + 1) * 8 <= 140737488355328 by omega⟩, ?_⟩;conv => whnf
    refine ⟨show lo .i64 <= (j : Int) + 1 /\ (j : Int) + 1 <= hi .i64 from jam (by omega), ?_⟩;conv => whnf
    refine ⟨(j + 1, ⟨dm1 ++ [(n, d' - jaq op + ja7 op)], wk1 ++ [n], er1⟩), ja1 [0, 1, 2] ?_, ⟨show j + 1 <= 2 by omega, q1, show _ + _ = _ + _ by simp only at q2 ⊢; omega, show _ <= _ by simp only at q3 ⊢; omega, hF⟩, show 2 - (j + 1) < 2 - j by omega⟩;conv => whnf
    repeat' constructor
    ·exact jdd _ _ _ _
    ·exact jdf _ _ _
   ·have hkf : jbd code.length (d' - jaq op + ja7 op) ⟨dm1, wk1, er1⟩ (n) = some ⟨dm1, wk1, er1 || decide (d2 ≠ d' - jaq op + ja7 op)⟩ := by unfold jbd; rw [if_neg hge]; simp only; rw [hdk]
    obtain ⟨q1, q2, q3⟩ := jaA f2 hk0 ⟨by simp only; omega, by simp only; omega⟩ hkf
    rw [hkf] at hF
    simp only at hF
    conv => whnf
    rw [decide_eq_true (show (j : Int) < ((2 : Nat) : Int) by omega)];conv => whnf
    refine ⟨show (0 : Int) <= (j : Int) /\ (j : Int) < ((2 : Nat) : Int) from ⟨by omega, by omega⟩, ?_⟩;conv => whnf
    (generalize hrq : ja2 _ _ ([A.v (.int .i64 (a + 1)), A.v (.int .i64 n)]) = rq; obtain rfl : rq = [intA (n)] := hrq.symm.trans ((by rw [hj0]; unfold ja2; rfl)); clear hrq; conv => whnf)
    rw [decide_eq_false hge];conv => whnf
    refine jab _ ?_;conv => whnf
    refine jar hdk ?_;conv => whnf
    rcases (show d2 = d' - jaq op + ja7 op ∨ d2 ≠ d' - jaq op + ja7 op by omega) with heq | heq
    ·rw [decide_eq_true heq];rw [decide_eq_false (fun h => h heq), Bool.or_false] at hF q1;conv => whnf
     refine ⟨show lo .i64 <= (j : Int) + 1 /\ (j : Int) + 1 <= hi .i64 from jam (by omega), ?_⟩;conv => whnf
     refine ⟨(j + 1, ⟨dm1, wk1, er1⟩), ja1 [0, 1, 2] ?_, ⟨show j + 1 <= 2 by omega, q1, show _ + _ = _ + _ by simp only at q2 ⊢; omega, show _ <= _ by simp only at q3 ⊢; omega, hF⟩, show 2 - (j + 1) < 2 - j by omega⟩;conv => whnf
     repeat' constructor
    ·rw [decide_eq_false heq];rw [decide_eq_true heq, Bool.or_true] at hF q1;conv => whnf
     refine ⟨show lo .i64 <= (j : Int) + 1 /\ (j : Int) + 1 <= hi .i64 from jam (by omega), ?_⟩;conv => whnf
     refine ⟨(j + 1, ⟨dm1, wk1, true⟩), ja1 [0, 1, 2] ?_, ⟨show j + 1 <= 2 by omega, q1, show _ + _ = _ + _ by simp only at q2 ⊢; omega, show _ <= _ by simp only at q3 ⊢; omega, hF⟩, show 2 - (j + 1) < 2 - j by omega⟩;conv => whnf
     repeat' constructor
  ·rw [show [a + 1, n].drop j = [] by rw [hj0]; rfl] at hF;unfold jau at hF;rw [<- hF] at hR
   have hdl1 := jaF f2.rng f2.nd
   simp only at hdl1 hR
   conv => whnf
   rw [decide_eq_false (show ¬ (j : Int) < ((2 : Nat) : Int) by omega)];conv => whnf
   refine ⟨(m, ⟨dm1, wk1, er1⟩), ja1 [0, 1] ?_, ⟨f2, show wk1.length + (code.length - dm1.length) + 1 <= m by omega, show m <= code.length + 1 by omega, hR⟩, show m < m + 1 by omega⟩;conv => whnf
   repeat' constructor
 rw [decide_eq_false hc3];rw [if_neg hc3] at hR hnn;conv => whnf
 refine ⟨show lo .i64 <= a + 1 /\ a + 1 <= hi .i64 from jam (by omega), ?_⟩;conv => whnf
 obtain ⟨F, hF⟩ : ∃ F, jau code.length (d' - jaq op + ja7 op) [a + 1] ⟨dm, pre, er⟩ = F := ⟨_, rfl⟩
 rw [hF] at hR;refine jbg [2] ?_;conv => whnf
 refine ja5 [2, 5, 6, 8, 12, 88, 89] ?_;conv => whnf
 refine jaj (fun x : Nat × Fs => [(7, intA (jpi x.2.er)), (90, .v (.int .i64 x.1))]) (fun _ => [pgL code e du vo]) (fun x => flR x.2.dm x.2.wk ++ [.pub 1 1 ([a + 1].map intA)])
  (fun x => x.1 <= 1 /\ jiG code.length x.2 /\ x.2.wk.length + dm.length = pre.length + x.2.dm.length /\ dm.length <= x.2.dm.length /\ jau code.length (d' - jaq op + ja7 op) ([a + 1].drop x.1) x.2 = F) (fun x => 1 - x.1) (0, ⟨dm, pre, er⟩) ?_ ⟨Nat.zero_le _, ⟨g1.rng, g1.nd, fun k hk => g1.wk k (List.mem_append_left _ hk), g1.dep⟩, rfl, Nat.le_refl _, hF⟩ ?_
 ·repeat' constructor
 clear hF;rintro ⟨j, dm1, wk1, er1⟩ ⟨f1, f2, f3, f4, hF⟩
 simp only at f1 f2 f3 f4 hF
 rcases (show j = 0 ∨ j = 1 by omega) with hj0 | hj0
 ·have hdr : [a + 1].drop j = (a + 1) :: [a + 1].drop (j + 1) := by rw [hj0]; rfl
  rw [hdr] at hF;unfold jau at hF
  have hk0 : 0 <= a + 1 := hnn _ (by simp)
  have hdl1 := jaF f2.rng f2.nd
  simp only at hdl1
  by_cases hge : (code.length : Int) <= a + 1
  ·unfold jbd at hF;rw [if_pos hge] at hF;rw [<- hF] at hR;conv => whnf
   rw [decide_eq_true (show (j : Int) < ((1 : Nat) : Int) by omega)];conv => whnf
   refine ⟨show (0 : Int) <= (j : Int) /\ (j : Int) < ((1 : Nat) : Int) from ⟨by omega, by omega⟩, ?_⟩;conv => whnf
   (generalize hrq : ja2 _ _ ([A.v (.int .i64 (a + 1))]) = rq; obtain rfl : rq = [intA (a + 1)] := hrq.symm.trans ((by rw [hj0]; unfold ja2; rfl)); clear hrq; conv => whnf)
   rw [decide_eq_true hge];conv => whnf
   rw [<- hR]; rfl
  rcases jaM (dF dm1 (a + 1)) with hdk | ⟨d2, hdk⟩
  ·have hkf : jbd code.length (d' - jaq op + ja7 op) ⟨dm1, wk1, er1⟩ (a + 1) = some ⟨dm1 ++ [(a + 1, d' - jaq op + ja7 op)], wk1 ++ [a + 1], er1⟩ := by unfold jbd; rw [if_neg hge]; simp only; rw [hdk]
   obtain ⟨q1, q2, q3⟩ := jaA f2 hk0 ⟨by simp only; omega, by simp only; omega⟩ hkf
   rw [hkf] at hF
   simp only at hF
   conv => whnf
   rw [decide_eq_true (show (j : Int) < ((1 : Nat) : Int) by omega)];conv => whnf
   refine ⟨show (0 : Int) <= (j : Int) /\ (j : Int) < ((1 : Nat) : Int) from ⟨by omega, by omega⟩, ?_⟩;conv => whnf
   (generalize hrq : ja2 _ _ ([A.v (.int .i64 (a + 1))]) = rq; obtain rfl : rq = [intA (a + 1)] := hrq.symm.trans ((by rw [hj0]; unfold ja2; rfl)); clear hrq; conv => whnf)
   rw [decide_eq_false hge];conv => whnf
   refine jab _ ?_;conv => whnf
   refine jaB hdk ?_;conv => whnf
   refine jbO hdk ?_;conv => whnf
   refine ⟨⟨show wk1.length + 1 <= maxLen by unfold maxLen; omega, show (wk1.length + 1) * 8 <= 140737488355328 by omega⟩, ?_⟩;conv => whnf
   refine ⟨show lo .i64 <= (j : Int) + 1 /\ (j : Int) + 1 <= hi .i64 from jam (by omega), ?_⟩;conv => whnf
   refine ⟨(j + 1, ⟨dm1 ++ [(a + 1, d' - jaq op + ja7 op)], wk1 ++ [a + 1], er1⟩), ja1 [0, 1, 2] ?_, ⟨show j + 1 <= 1 by omega, q1, show _ + _ = _ + _ by simp only at q2 ⊢; omega, show _ <= _ by simp only at q3 ⊢; omega, hF⟩, show 1 - (j + 1) < 1 - j by omega⟩;conv => whnf
   repeat' constructor
   ·exact jdd _ _ _ _
   ·exact jdf _ _ _
  ·have hkf : jbd code.length (d' - jaq op + ja7 op) ⟨dm1, wk1, er1⟩ (a + 1) = some ⟨dm1, wk1, er1 || decide (d2 ≠ d' - jaq op + ja7 op)⟩ := by unfold jbd; rw [if_neg hge]; simp only; rw [hdk]
   obtain ⟨q1, q2, q3⟩ := jaA f2 hk0 ⟨by simp only; omega, by simp only; omega⟩ hkf
   rw [hkf] at hF
   simp only at hF
   conv => whnf
   rw [decide_eq_true (show (j : Int) < ((1 : Nat) : Int) by omega)];conv => whnf
   refine ⟨show (0 : Int) <= (j : Int) /\ (j : Int) < ((1 : Nat) : Int) from ⟨by omega, by omega⟩, ?_⟩;conv => whnf
   (generalize hrq : ja2 _ _ ([A.v (.int .i64 (a + 1))]) = rq; obtain rfl : rq = [intA (a + 1)] := hrq.symm.trans ((by rw [hj0]; unfold ja2; rfl)); clear hrq; conv => whnf)
   rw [decide_eq_false hge];conv => whnf
   refine jab _ ?_;conv => whnf
   refine jar hdk ?_;conv => whnf
   rcases (show d2 = d' - jaq op + ja7 op ∨ d2 ≠ d' - jaq op + ja7 op by omega) with heq | heq
   ·rw [decide_eq_true heq];rw [decide_eq_false (fun h => h heq), Bool.or_false] at hF q1;conv => whnf
    refine ⟨show lo .i64 <= (j : Int) + 1 /\ (j : Int) + 1 <= hi .i64 from jam (by omega), ?_⟩;conv => whnf
    refine ⟨(j + 1, ⟨dm1, wk1, er1⟩), ja1 [0, 1, 2] ?_, ⟨show j + 1 <= 1 by omega, q1, show _ + _ = _ + _ by simp only at q2 ⊢; omega, show _ <= _ by simp only at q3 ⊢; omega, hF⟩, show 1 - (j + 1) < 1 - j by omega⟩;conv => whnf
    repeat' constructor
   ·rw [decide_eq_false heq];rw [decide_eq_true heq, Bool.or_true] at hF q1;conv => whnf
    refine ⟨show lo .i64 <= (j : Int) + 1 /\ (j : Int) + 1 <= hi .i64 from jam (by omega), ?_⟩;conv => whnf
    refine ⟨(j + 1, ⟨dm1, wk1, true⟩), ja1 [0, 1, 2] ?_, ⟨show j + 1 <= 1 by omega, q1, show _ + _ = _ + _ by simp only at q2 ⊢; omega, show _ <= _ by simp only at q3 ⊢; omega, hF⟩, show 1 - (j + 1) < 1 - j by omega⟩;conv => whnf
    repeat' constructor
 ·rw [show [a + 1].drop j = [] by rw [hj0]; rfl] at hF;unfold jau at hF;rw [<- hF] at hR
  have hdl1 := jaF f2.rng f2.nd
  simp only at hdl1 hR
  conv => whnf
  rw [decide_eq_false (show ¬ (j : Int) < ((1 : Nat) : Int) by omega)];conv => whnf
  refine ⟨(m, ⟨dm1, wk1, er1⟩), ja1 [0, 1] ?_, ⟨f2, show wk1.length + (code.length - dm1.length) + 1 <= m by omega, show m <= code.length + 1 by omega, hR⟩, show m < m + 1 by omega⟩;conv => whnf
  repeat' constructor
def enL (e : Nat -> Int) : List A := (List.range 40).map fun j => intA (e j)
theorem jnk (e : Nat -> Int) (j : Nat) (hj : j < 40) : (enL e)[((j : Int)).toNat * 1]? = some (intA (e j)) := by
 rw [Int.toNat_natCast, Nat.mul_one];unfold enL;rw [List.getElem?_map, List.getElem?_range hj];rfl
theorem jra (c : List Ic) (e : Nat -> Int) (du vo : Int) (hl : c.length <= 1000000) : Spec Tryz.prog 16 [] [pgA c e du vo, pgA c e du vo] fun _ r => r = jcm true := by
 refine ja8 (ja4 jyW xs0 0) (fun _ _ h => h) Tryz.func16 rfl (by kernel_rfl) rfl (by kernel_rfl) ?_;intro _;conv => whnf
 refine ⟨by kernel_rfl, ?_⟩;conv => whnf
 generalize hq : (decide (e 0 = e 0) && _) = b
 obtain rfl : b = true := by rw [<- hq]; simp
 clear hq;conv => whnf
 rw [decide_eq_true (rfl : du = du)];conv => whnf
 rw [decide_eq_true (rfl : vo = vo)];conv => whnf
 rw [decide_eq_true (rfl : (c.length : Int) = c.length)];conv => whnf
 refine ja5 [2, 3] ?_;conv => whnf
 refine jaj (fun j : Nat => [(5, .v (.int .i64 j))]) (fun _ => [pgL c e du vo, pgL c e du vo]) (fun _ => []) (fun j => j <= c.length) (fun j => c.length - j) 0 ?_ (by omega) ?_
 ·repeat' constructor
 intro j hj;conv => whnf
 rcases Nat.lt_or_ge j c.length with hlt | hge
 ·have hrow : ja2 2 j (jcn c) = icA c[j] := jdC c j hlt
  generalize c[j] = i at hrow
  obtain ⟨op, n⟩ := i
  unfold icA at hrow
  simp only at hrow
  rw [decide_eq_true (show (j : Int) < (c.length : Int) by omega)];conv => whnf
  refine ⟨show (0 : Int) <= (j : Int) /\ (j : Int) < (c.length : Nat) from ⟨by omega, by omega⟩, ?_⟩;conv => whnf
  (generalize hrq : ja2 _ _ (jcn c) = rq; obtain rfl : rq = [intA op, intA n] := hrq.symm.trans (hrow); clear hrq; conv => whnf)
  refine ⟨show (0 : Int) <= (j : Int) /\ (j : Int) < (c.length : Nat) from ⟨by omega, by omega⟩, ?_⟩;conv => whnf
  (generalize hrq : ja2 _ _ (jcn c) = rq; obtain rfl : rq = [intA op, intA n] := hrq.symm.trans (hrow); clear hrq; conv => whnf)
  refine ⟨by kernel_rfl, ?_⟩;conv => whnf
  generalize hq : (decide (op = op) && _) = b
  obtain rfl : b = true := by rw [<- hq]; simp
  clear hq;conv => whnf
  refine ⟨show lo .i64 <= (j : Int) + 1 /\ (j : Int) + 1 <= hi .i64 from jam (by omega), ?_⟩;conv => whnf
  refine ⟨j + 1, ja1 [] ?_, show j + 1 <= c.length by omega, show c.length - (j + 1) < c.length - j by omega⟩;conv => whnf
  repeat' constructor
 rw [decide_eq_false (show ¬ (j : Int) < (c.length : Int) by omega)];conv => whnf
 rfl
def cbx (u : Ut) : List A := utA u ++ [.own 0]
abbrev jeb (f : Nat) (ins : List (List A)) (l : List Ic) (args : List A) (post : List (List A) -> List Ic -> A -> Prop) : Prop :=
 jlL Tryz.prog f ins 52 2 l.length (jcn l) args fun o n cs r => ∃ l', n = l'.length /\ cs = jcn l' /\ post o l' r
theorem jc8 (u : Ut) (l : List Ic) (op n : Int) (hl : l.length <= 1000000) : jeb 40 [cbx u] l [.box 0 0, intA op, intA n] fun o l' r => o = [cbx u] /\ l' = l ++ [(op, n)] /\ r = intA l.length := by
 refine jac (ja4 jb4 xs0 1) (fun _ _ h => h) Tryz.func40 rfl (by kernel_rfl) rfl (by kernel_rfl) ?_;intro _;conv => whnf
 refine ⟨⟨by unfold maxLen; omega, by omega⟩, ?_⟩;conv => whnf
 refine ⟨jam (by omega), ?_⟩;conv => whnf
 refine ⟨0, ?_⟩;conv => whnf
 refine ⟨l ++ [(op, n)], by rw [List.length_append]; rfl, ?_, rfl, rfl, ?_⟩
 ·rw [jkm]; rfl
 ·show intA (((l.length + 1 : Nat) : Int) - 1) = intA l.length
  congr 1; omega
theorem jeO (a : Ic) (l : List Ic) : jcn (a :: l) = icA a ++ jcn l := by rw [jeP, List.flatMap_cons, jeP]
theorem jnt : ∀ (l : List Ic) (k : Nat) (hk : k < l.length) (v : Int), (jcn l).set (k * 2 + 1) (intA v) = jcn (l.set k (l[k].1, v))
 | [], k, hk, v => by simp at hk
 | a :: l, 0, hk, v => by rw [List.set_cons_zero, jeO, jeO]; rfl
 | a :: l, k + 1, hk, v => by
  rw [List.set_cons_succ, jeO, jeO]
  have h := jnt l k (by simpa using hk) v
  rw [show (k + 1) * 2 + 1 = k * 2 + 1 + 2 by omega]
  show intA a.1 :: intA a.2 :: (jcn l).set (k * 2 + 1) (intA v) = _
  rw [h];rfl
mutual
def szN : Nt -> Nat
 | .mk _ _ _ kids => 3 + jhO kids
def jhO : List Nt -> Nat
 | [] => 0
 | f :: l => szN f + jhO l
end
theorem jl6 : ∀ (l : List (Int -> List Ic)) (g : Int -> List Ic) (at' : Int), jej (l ++ [g]) at' = jej l at' ++ g (at' + (jej l at').length)
 | [], g, at' => by
  show g at' ++ [] = [] ++ g (at' + ((0 : Nat) : Int))
  rw [List.append_nil, List.nil_append, show at' + ((0 : Nat) : Int) = at' by omega]
 | h :: l, g, at' => by
  show h at' ++ jej (l ++ [g]) _ = (h at' ++ jej l _) ++ g _
  rw [jl6 l g, List.append_assoc]
  congr 3
  show _ = at' + ((h at' ++ jej l _).length : Int)
  rw [List.length_append];omega
def jeE (u : Ut) (f : Nt) : Prop := (∀ at' : Int, (jal (ixU u) f at').length <= szN f) /\ ∀ l : List Ic, l.length + szN f <= 1000000 -> jeb 39 [cbx u] l [.box 0 0, .agg (ntA f)] fun o l' r => o = [cbx u] /\ l' = l ++ jal (ixU u) f l.length /\ r = .tup []
theorem jlp : ∀ (l : List Nt) (j : Nat) (h : j < l.length), jhO (l.take j) + szN l[j] <= jhO l
 | [], j, h => by simp at h
 | f :: l, 0, h => by show 0 + szN f <= szN f + jhO l; omega
 | f :: l, j + 1, h => by
  have hj : j < l.length := by simpa using h
  have := jlp l j hj
  show szN f + jhO (l.take j) + szN (l[j]'hj) <= szN f + jhO l
  omega
theorem je1 {u : Ut} : ∀ (l : List Nt) (at' : Int), (∀ f ∈ l, jeE u f) -> (jej (jas (ixU u) l) at').length <= jhO l
 | [], at', _ => Nat.zero_le _
 | f :: l, at', h => by
  show (jal (ixU u) f at' ++ jej (jas (ixU u) l) _).length <= szN f + jhO l
  rw [List.length_append]
  have h1 := (h f List.mem_cons_self).1 at'
  have h2 := je1 l (at' + (jal (ixU u) f at').length) fun g hg => h g (List.mem_cons_of_mem _ hg)
  omega
theorem jeR (u : Ut) (k n : Int) (s : ByteArray) (kids : List Nt) (hm : kids.length <= 3002) (hf : ∀ f ∈ kids, jeE u f) (l : List Ic) (hl : l.length + jhO kids <= 1000000) : jeb 80 [cbx u] l [.box 0 0, .agg (ntA (.mk k n s kids))] fun o l' r => o = [cbx u] /\ l' = l ++ jej (jas (ixU u) kids) l.length /\ r = .tup [] := by
 obtain ⟨S, hS⟩ : ∃ S : Nat -> List Ic, ∀ j, S j = l ++ jej (jas (ixU u) (kids.take j)) l.length := ⟨_, fun _ => rfl⟩
 have hS0 : S 0 = l := by rw [hS]; exact List.append_nil l
 have hSl : l ++ jej (jas (ixU u) kids) l.length = S kids.length := by rw [hS, List.take_length]
 have hSn : ∀ j (h : j < kids.length), S (j + 1) = S j ++ jal (ixU u) kids[j] (S j).length := fun j h => by
  rw [hS, hS, List.take_succ_eq_append_getElem h, jc0, jc0, List.map_append]
  show l ++ jej (_ ++ [jal (ixU u) kids[j]]) _ = _
  rw [jl6, List.append_assoc, List.length_append]
  congr 3
 have hSz : ∀ j (h : j < kids.length), (S j).length + szN kids[j] <= 1000000 := fun j h => by
  rw [hS, List.length_append]
  have h1 := je1 (kids.take j) l.length fun f hf' => hf f (List.mem_of_mem_take hf')
  have h2 := jlp kids j h
  omega
 rw [hSl, <- hS0];simp only [ntA, Nt.k, Nt.n, Nt.s, Nt.kids];refine jac (ja4 jb4 xs0 1) (fun _ _ h => h) Tryz.func80 rfl (by kernel_rfl) rfl (by kernel_rfl) ?_;intro _;conv => whnf
 refine ja5 [0, 7, 8] ?_;conv => whnf
 refine jaj (fun j : Nat => [(9, .v (.int .i64 j))]) (fun _ => [cbx u, [intA k, intA n, jbn s, .sl 4 kids.length (jdi kids)]]) (fun j => [.live 52 2 (S j).length (jcn (S j))]) (fun j => j <= kids.length) (fun j => kids.length - j) 0 ?_ (Nat.zero_le _) ?_
 ·repeat' constructor
 rintro j hj;conv => whnf
 by_cases hlt : j < kids.length
 ·rw [decide_eq_true (show (j : Int) < (kids.length : Int) by omega)]
  have hrow := jcd kids j hlt
  have hSn := hSn j hlt
  have hSz := hSz j hlt
  have hg := hf _ (List.getElem_mem hlt)
  generalize kids[j] = g at *
  have hx := hg.2 (S j) hSz
  generalize hcd : jal (ixU u) g (S j).length = y at *;conv => whnf
  refine ⟨by omega, ?_⟩;conv => whnf
  (generalize hrq : ja2 _ _ (jdi kids) = rq; obtain rfl : rq = ntA g := hrq.symm.trans (hrow); clear hrq; conv => whnf)
  refine ja9 0 0 1 [] rfl rfl rfl rfl rfl rfl rfl (fun _ => hx) ?_;rintro o n' cs' r ⟨s4, rfl, rfl, ho, hs4, rfl⟩;cases ho;conv => whnf
  refine ⟨jam (by omega), ?_⟩;conv => whnf
  refine ⟨j + 1, ja1 [1] ?_, hlt, by omega⟩;conv => whnf
  rw [hs4, show S (j + 1) = _ from hSn]
  repeat' constructor
 ·rw [decide_eq_false (show ¬ (j : Int) < (kids.length : Int) by omega)];conv => whnf
  obtain rfl : j = kids.length := by omega
  refine ⟨0, ?_⟩;conv => whnf
  exact ⟨_, rfl, rfl, rfl, rfl, rfl⟩
theorem jsc (s : ByteArray) (h : (builtL.any fun x => decide (s = x)) = true) : Spec Tryz.prog 122 [] [jbn s] fun _ r => r = intA (biF s) := by
 have h : s ∈ builtL := by
  rw [List.any_eq_true] at h
  obtain ⟨x, h1, h2⟩ := h
  rw [decide_eq_true_eq] at h2;rw [h2]; exact h1
 unfold builtL at h;simp only [List.mem_cons, List.not_mem_nil, or_false] at h
 rcases h with rfl | rfl | rfl | rfl | rfl | rfl | rfl | rfl | rfl
 all_goals
  refine ja8 (ja4 jb4 xs0 0) (fun _ _ h => h) Tryz.func122 rfl (by kernel_rfl) rfl (by kernel_rfl) ?_;intro _;conv => whnf
  rfl
def jwU (ix : ByteArray -> Int) (k n : Int) (s : ByteArray) : Ic :=
 if k = 12 ∨ k = 13 then (1, n) else if k = 14 then (2, ix s) else if k = 15 then (4, biF s) else if k = 1 then (3, ix s)
 else if k = 4 then (17, n) else if k = 5 then (18, n) else if k = 6 then (19, n) else if k = 16 then (5, 0) else if k = 7 then (20, 0)
 else if k = 10 then (23, 0) else if k = 8 then (21, 0) else (22, 0)
def jfF (id : Nat) : Tr := match Nat.beq id 8 with | true => .q 0 3 (.q 1 3 (.q 2 3 (.q 3 3 (.q 5 3 (.q 6 0 (.alt 4 1 (.alt 7 1 (.alt 8 2 (.nil) (.nil)) (.nil)) (.nil))))))) | false => match Nat.beq id 12 with | true => .q 0 3 (.q 1 3 (.q 2 3 (.q 3 3 (.q 5 3 (.q 6 0 (.alt 4 1 (.alt 7 1 (.alt 8 2 (.nil) (.nil)) (.nil)) (.nil))))))) | false => .nil
theorem jqn (u : Ut) (hu : WfU u) (k n : Int) (s : ByteArray) (kids : List Nt) (hm : kids.length <= 3002) (hf : ∀ f ∈ kids, jeE u f) (hc : k = 12 ∨ k = 13 ∨ k = 14 ∨ k = 15 /\ (builtL.any fun x => decide (s = x)) = true ∨ k = 1 ∨ k = 4 ∨ k = 5 ∨ k = 6 ∨ k = 16 ∨ k = 7 ∨ k = 10 ∨ k = 8 ∨ k = 9) (l : List Ic) (hl : l.length + jhO kids + 1 <= 1000000) : jeb 81 [cbx u] l [.box 0 0, .agg (ntA (.mk k n s kids))] fun o l' r => o = [cbx u] /\ l' = l ++ jej (jas (ixU u) kids) l.length ++ [jwU (ixU u) k n s] /\ r = .tup [] := by
 have hk := jeR u k n s kids hm hf l (by omega)
 simp only [ntA, Nt.k, Nt.n, Nt.s, Nt.kids] at hk
 have hz := je1 (u := u) kids l.length hf
 have hem := fun (l : List Ic) (op n : Int) (h : l.length <= 1000000) => jc8 u l op n h
 have hix := jxw u hu s
 generalize jej (jas (ixU u) kids) l.length = y at *
 have hly : (l ++ y).length <= 999999 := by rw [List.length_append]; omega
 generalize l ++ y = l3 at *
 rcases hc with rfl | rfl | rfl | ⟨rfl, hb⟩ | rfl | rfl | rfl | rfl | rfl | rfl | rfl | rfl | rfl
 ·simp only [ntA, Nt.k, Nt.n, Nt.s, Nt.kids];refine jac (ja4 jfF (fun _ => [0]) 1) (fun _ _ h => h) Tryz.func81 rfl (by kernel_rfl) rfl (by kernel_rfl) ?_;intro _;conv => whnf
  refine ja9 0 0 1 [] rfl rfl rfl rfl rfl rfl rfl (fun _ => hk) ?_;rintro o n' cs' r ⟨l2, rfl, rfl, ho, hl2, rfl⟩;cases ho;conv => whnf
  subst hl2;refine ja9 0 1 2 [] rfl rfl rfl rfl rfl rfl rfl (fun _ => hem l2 1 n (by omega)) ?_;rintro o n' cs' r ⟨l4, rfl, rfl, ho, hl4, rfl⟩;cases ho;conv => whnf
  refine ⟨2, ?_⟩;conv => whnf
  exact ⟨l4, rfl, rfl, rfl, by rw [hl4]; rfl, rfl⟩
 ·simp only [ntA, Nt.k, Nt.n, Nt.s, Nt.kids];refine jac (ja4 jfF (fun _ => [0]) 1) (fun _ _ h => h) Tryz.func81 rfl (by kernel_rfl) rfl (by kernel_rfl) ?_;intro _;conv => whnf
  refine ja9 0 0 1 [] rfl rfl rfl rfl rfl rfl rfl (fun _ => hk) ?_;rintro o n' cs' r ⟨l2, rfl, rfl, ho, hl2, rfl⟩;cases ho;conv => whnf
  subst hl2;refine ja9 0 1 2 [] rfl rfl rfl rfl rfl rfl rfl (fun _ => hem l2 1 n (by omega)) ?_;rintro o n' cs' r ⟨l4, rfl, rfl, ho, hl4, rfl⟩;cases ho;conv => whnf
  refine ⟨2, ?_⟩;conv => whnf
  exact ⟨l4, rfl, rfl, rfl, by rw [hl4]; rfl, rfl⟩
 ·simp only [ntA, Nt.k, Nt.n, Nt.s, Nt.kids];refine jac (ja4 jfF (fun _ => [0]) 1) (fun _ _ h => h) Tryz.func81 rfl (by kernel_rfl) rfl (by kernel_rfl) ?_;intro _;conv => whnf
  refine ja9 0 0 1 [] rfl rfl rfl rfl rfl rfl rfl (fun _ => hk) ?_;rintro o n' cs' r ⟨l2, rfl, rfl, ho, hl2, rfl⟩;cases ho;conv => whnf
  subst hl2
  (refine jaw [] rfl (fun _ => hix) ?_; rintro r rfl; conv => whnf)
  refine ja9 0 1 2 [] rfl rfl rfl rfl rfl rfl rfl (fun _ => hem l2 2 (ixU u s) (by omega)) ?_;rintro o n' cs' r ⟨l4, rfl, rfl, ho, hl4, rfl⟩;cases ho;conv => whnf
  refine ⟨2, ?_⟩;conv => whnf
  exact ⟨l4, rfl, rfl, rfl, by rw [hl4]; rfl, rfl⟩
 ·have hbi := jsc s hb
  simp only [ntA, Nt.k, Nt.n, Nt.s, Nt.kids];refine jac (ja4 jfF (fun _ => [0]) 1) (fun _ _ h => h) Tryz.func81 rfl (by kernel_rfl) rfl (by kernel_rfl) ?_;intro _;conv => whnf
  refine ja9 0 0 1 [] rfl rfl rfl rfl rfl rfl rfl (fun _ => hk) ?_;rintro o n' cs' r ⟨l2, rfl, rfl, ho, hl2, rfl⟩;cases ho;conv => whnf
  subst hl2
  (refine jaw [] rfl (fun _ => hbi) ?_; rintro r rfl; conv => whnf)
  refine ja9 0 1 2 [] rfl rfl rfl rfl rfl rfl rfl (fun _ => hem l2 4 (biF s) (by omega)) ?_;rintro o n' cs' r ⟨l4, rfl, rfl, ho, hl4, rfl⟩;cases ho;conv => whnf
  refine ⟨2, ?_⟩;conv => whnf
  exact ⟨l4, rfl, rfl, rfl, by rw [hl4]; rfl, rfl⟩
 ·simp only [ntA, Nt.k, Nt.n, Nt.s, Nt.kids];refine jac (ja4 jfF (fun _ => [0]) 1) (fun _ _ h => h) Tryz.func81 rfl (by kernel_rfl) rfl (by kernel_rfl) ?_;intro _;conv => whnf
  refine ja9 0 0 1 [] rfl rfl rfl rfl rfl rfl rfl (fun _ => hk) ?_;rintro o n' cs' r ⟨l2, rfl, rfl, ho, hl2, rfl⟩;cases ho;conv => whnf
  subst hl2
  (refine jaw [] rfl (fun _ => hix) ?_; rintro r rfl; conv => whnf)
  refine ja9 0 1 2 [] rfl rfl rfl rfl rfl rfl rfl (fun _ => hem l2 3 (ixU u s) (by omega)) ?_;rintro o n' cs' r ⟨l4, rfl, rfl, ho, hl4, rfl⟩;cases ho;conv => whnf
  refine ⟨2, ?_⟩;conv => whnf
  exact ⟨l4, rfl, rfl, rfl, by rw [hl4]; rfl, rfl⟩
 ·simp only [ntA, Nt.k, Nt.n, Nt.s, Nt.kids];refine jac (ja4 jfF (fun _ => [0]) 1) (fun _ _ h => h) Tryz.func81 rfl (by kernel_rfl) rfl (by kernel_rfl) ?_;intro _;conv => whnf
  refine ja9 0 0 1 [] rfl rfl rfl rfl rfl rfl rfl (fun _ => hk) ?_;rintro o n' cs' r ⟨l2, rfl, rfl, ho, hl2, rfl⟩;cases ho;conv => whnf
  subst hl2;refine ja9 0 1 2 [] rfl rfl rfl rfl rfl rfl rfl (fun _ => hem l2 17 n (by omega)) ?_;rintro o n' cs' r ⟨l4, rfl, rfl, ho, hl4, rfl⟩;cases ho;conv => whnf
  refine ⟨2, ?_⟩;conv => whnf
  exact ⟨l4, rfl, rfl, rfl, by rw [hl4]; rfl, rfl⟩
 ·simp only [ntA, Nt.k, Nt.n, Nt.s, Nt.kids];refine jac (ja4 jfF (fun _ => [0]) 1) (fun _ _ h => h) Tryz.func81 rfl (by kernel_rfl) rfl (by kernel_rfl) ?_;intro _;conv => whnf
  refine ja9 0 0 1 [] rfl rfl rfl rfl rfl rfl rfl (fun _ => hk) ?_;rintro o n' cs' r ⟨l2, rfl, rfl, ho, hl2, rfl⟩;cases ho;conv => whnf
  subst hl2;refine ja9 0 1 2 [] rfl rfl rfl rfl rfl rfl rfl (fun _ => hem l2 18 n (by omega)) ?_;rintro o n' cs' r ⟨l4, rfl, rfl, ho, hl4, rfl⟩;cases ho;conv => whnf
  refine ⟨2, ?_⟩;conv => whnf
  exact ⟨l4, rfl, rfl, rfl, by rw [hl4]; rfl, rfl⟩
 ·simp only [ntA, Nt.k, Nt.n, Nt.s, Nt.kids];refine jac (ja4 jfF (fun _ => [0]) 1) (fun _ _ h => h) Tryz.func81 rfl (by kernel_rfl) rfl (by kernel_rfl) ?_;intro _;conv => whnf
  refine ja9 0 0 1 [] rfl rfl rfl rfl rfl rfl rfl (fun _ => hk) ?_;rintro o n' cs' r ⟨l2, rfl, rfl, ho, hl2, rfl⟩;cases ho;conv => whnf
  subst hl2;refine ja9 0 1 2 [] rfl rfl rfl rfl rfl rfl rfl (fun _ => hem l2 19 n (by omega)) ?_;rintro o n' cs' r ⟨l4, rfl, rfl, ho, hl4, rfl⟩;cases ho;conv => whnf
  refine ⟨2, ?_⟩;conv => whnf
  exact ⟨l4, rfl, rfl, rfl, by rw [hl4]; rfl, rfl⟩
 ·simp only [ntA, Nt.k, Nt.n, Nt.s, Nt.kids];refine jac (ja4 jfF (fun _ => [0]) 1) (fun _ _ h => h) Tryz.func81 rfl (by kernel_rfl) rfl (by kernel_rfl) ?_;intro _;conv => whnf
  refine ja9 0 0 1 [] rfl rfl rfl rfl rfl rfl rfl (fun _ => hk) ?_;rintro o n' cs' r ⟨l2, rfl, rfl, ho, hl2, rfl⟩;cases ho;conv => whnf
  subst hl2;refine ja9 0 1 3 [] rfl rfl rfl rfl rfl rfl rfl (fun _ => hem l2 5 0 (by omega)) ?_;rintro o n' cs' r ⟨l4, rfl, rfl, ho, hl4, rfl⟩;cases ho;conv => whnf
  refine ⟨3, ?_⟩;conv => whnf
  exact ⟨l4, rfl, rfl, rfl, by rw [hl4]; rfl, rfl⟩
 ·simp only [ntA, Nt.k, Nt.n, Nt.s, Nt.kids];refine jac (ja4 jfF (fun _ => [0]) 1) (fun _ _ h => h) Tryz.func81 rfl (by kernel_rfl) rfl (by kernel_rfl) ?_;intro _;conv => whnf
  refine ja9 0 0 1 [] rfl rfl rfl rfl rfl rfl rfl (fun _ => hk) ?_;rintro o n' cs' r ⟨l2, rfl, rfl, ho, hl2, rfl⟩;cases ho;conv => whnf
  subst hl2;refine ja9 0 1 3 [] rfl rfl rfl rfl rfl rfl rfl (fun _ => hem l2 20 0 (by omega)) ?_;rintro o n' cs' r ⟨l4, rfl, rfl, ho, hl4, rfl⟩;cases ho;conv => whnf
  refine ⟨3, ?_⟩;conv => whnf
  exact ⟨l4, rfl, rfl, rfl, by rw [hl4]; rfl, rfl⟩
 ·simp only [ntA, Nt.k, Nt.n, Nt.s, Nt.kids];refine jac (ja4 jfF (fun _ => [0]) 1) (fun _ _ h => h) Tryz.func81 rfl (by kernel_rfl) rfl (by kernel_rfl) ?_;intro _;conv => whnf
  refine ja9 0 0 1 [] rfl rfl rfl rfl rfl rfl rfl (fun _ => hk) ?_;rintro o n' cs' r ⟨l2, rfl, rfl, ho, hl2, rfl⟩;cases ho;conv => whnf
  subst hl2;refine ja9 0 1 3 [] rfl rfl rfl rfl rfl rfl rfl (fun _ => hem l2 23 0 (by omega)) ?_;rintro o n' cs' r ⟨l4, rfl, rfl, ho, hl4, rfl⟩;cases ho;conv => whnf
  refine ⟨3, ?_⟩;conv => whnf
  exact ⟨l4, rfl, rfl, rfl, by rw [hl4]; rfl, rfl⟩
 ·simp only [ntA, Nt.k, Nt.n, Nt.s, Nt.kids];refine jac (ja4 jfF (fun _ => [0]) 1) (fun _ _ h => h) Tryz.func81 rfl (by kernel_rfl) rfl (by kernel_rfl) ?_;intro _;conv => whnf
  refine ja9 0 0 1 [] rfl rfl rfl rfl rfl rfl rfl (fun _ => hk) ?_;rintro o n' cs' r ⟨l2, rfl, rfl, ho, hl2, rfl⟩;cases ho;conv => whnf
  subst hl2;refine ja9 0 1 3 [] rfl rfl rfl rfl rfl rfl rfl (fun _ => hem l2 21 0 (by omega)) ?_;rintro o n' cs' r ⟨l4, rfl, rfl, ho, hl4, rfl⟩;cases ho;conv => whnf
  refine ⟨3, ?_⟩;conv => whnf
  exact ⟨l4, rfl, rfl, rfl, by rw [hl4]; rfl, rfl⟩
 ·simp only [ntA, Nt.k, Nt.n, Nt.s, Nt.kids];refine jac (ja4 jfF (fun _ => [0]) 1) (fun _ _ h => h) Tryz.func81 rfl (by kernel_rfl) rfl (by kernel_rfl) ?_;intro _;conv => whnf
  refine ja9 0 0 1 [] rfl rfl rfl rfl rfl rfl rfl (fun _ => hk) ?_;rintro o n' cs' r ⟨l2, rfl, rfl, ho, hl2, rfl⟩;cases ho;conv => whnf
  subst hl2;refine ja9 0 1 3 [] rfl rfl rfl rfl rfl rfl rfl (fun _ => hem l2 22 0 (by omega)) ?_;rintro o n' cs' r ⟨l4, rfl, rfl, ho, hl4, rfl⟩;cases ho;conv => whnf
  refine ⟨3, ?_⟩;conv => whnf
  exact ⟨l4, rfl, rfl, rfl, by rw [hl4]; rfl, rfl⟩
end Go.Proofs.YtfbifdccmabdbaaGreatDoor.Vm
