/- Texts 5 of the proof: G2, G3, G4, G5, E3, S1, S2, S3, S4, S5, S6, S7, S8, U0, VmX, U1, U2, U3, U4, U5, U6, U7, U8, U9, U10, U11, U12. -/
import Derived.Test.YtmodkpibkkpcdaaGreatDoorM4
import Derived.Shelf.Lay
import Derived.Shelf.Strconv.Itoa3
import Derived.Ground.NamesProg
import Derived.Lib.ItoaLen
import Derived.Lib.AppendIntMem
import Derived.Shelf.Strings.OnBuilder
namespace Go.Proofs.YtmodkpibkkpcdaaGreatDoor.Vm
open Go.RowKit Go.Shelf
set_option linter.unusedSimpArgs false
set_option linter.unusedVariables false
set_option maxRecDepth 100000
def bolL : List ByteArray := [jec, pOr]
inductive EB : Nat -> Nt -> Prop
 | lit (d n : Nat) (h : n < 2) : EB d (.mk 13 n eB [])
 | nt (d : Nat) (f : Nt) (h : EB d f) : EB (d + 1) (.mk 17 0 pNot [f])
 | bin (d : Nat) (s : ByteArray) (f g : Nt) (hs : s ∈ bolL) (h1 : EB d f) (h2 : EB d g) : EB (d + 1) (.mk 18 0 s [f, g])
 | cmp (d : Nat) (s : ByteArray) (f g : Nt) (hs : s ∈ cmpL) (h1 : EI (d - 1) f) (h2 : EI (d - 1) g) : EB d (.mk 18 0 s [f, g])
def bB : Nat -> Nat
 | 0 => 6
 | d + 1 => 2 + 2 * bB d + 2 * bI d
theorem jzy : ∀ d, 2 + 2 * bI (d - 1) <= bB d
 | 0 => by decide
 | d + 1 => by unfold bB; rw [Nat.add_sub_cancel]; omega
def jAs (l : List Int) (d : Nat) : Prop := l.length <= 70 -> ∀ (i : Nat) (z : Int), z.toNat = d -> -3 <= z -> z <= 10 -> i + bB d <= 1000000000 -> ∃ f i', EB d f /\ i <= i' /\ i' <= i + bB d /\ (∀ κ, 1 <= κ -> κ <= 7 -> wN κ f + phA κ i <= 5 + κ + phA κ i') /\ Spec Tryz.prog 93 [bxG l i] [.box 0 0, .v (.int .i64 z)] fun o r => o = [bxG l i'] /\ r = .agg (ntA f)
set_option maxHeartbeats 1000000 in
theorem jxh (l : List Int) (d : Nat) (ih : ∀ e, d = e + 1 -> jAs l e) : jAs l d := fun hl i z hz h1 h2 hi => by
 have hge := jzy d
 have hge2 := jxq (d - 1)
 have hp := jdu l i 8 (by omega) (by decide)
 have hlt := jdE l i (m := 8) (by decide)
 have ho := jhp l i 8 hl
 have p0 := fun κ => jgZ κ i
 have p1 := fun κ => jgZ κ (i + 1)
 have pe2 : ∀ κ, phA κ (i + 2) = phA κ (i + 1 + 1) := fun _ => rfl
 generalize pk l i 8 = n0 at *
 obtain ⟨n, hn⟩ : ∃ n, (if z <= 0 then n0 % 4 else n0) = n := ⟨_, rfl⟩
 have hn12 : n < 8 := by split at hn <;> omega
 have hn6 : z <= 0 -> n < 4 := fun h => by rw [if_pos h] at hn; omega
 have hlo : n ≠ 0 -> i < 70 := fun h => by
  by_cases h70 : 70 <= i
  ·have := ho h70
   split at hn <;> omega
  ·omega
 by_cases hA : n = 0
 ·have hp2 := jdu l (i + 1) 2 (by omega) (by decide)
  have hlt2 := jdE l (i + 1) (m := 2) (by decide)
  generalize pk l (i + 1) 2 = k8 at *;refine ⟨.mk 13 k8 eB [], i + 2, .lit _ _ hlt2, by omega, by omega, fun κ ka kb => by have p0 := p0 κ; have p1 := p1 κ; have pe2 := pe2 κ; rw [jqz]; omega, ?_⟩;subst hA;refine gw ?_;refine ja5 (ja2 jtN (fun _ => [0]) 1) (fun _ _ h => h) Tryz.func93 rfl (by kernel_rfl) rfl (by kernel_rfl) ?_;intro hok;conv => whnf
  refine jaa 0 [] rfl rfl rfl rfl (fun _ => hp) ?_;rintro o r ⟨ho, rfl⟩;cases ho;conv => whnf
  by_cases hz0 : z <= 0
  all_goals
   first
   | (rw [if_pos hz0] at hn; rw [decide_eq_true hz0]; (conv => whnf); refine ⟨by decide, ?_⟩; rw [Int.tmod_eq_emod_of_nonneg (by omega), show (n0 : Int) % 4 = ((n0 % 4 : Nat) : Int) by omega, hn])
   | (rw [if_neg hz0] at hn; rw [decide_eq_false hz0]; (conv => whnf); rw [hn])
   conv => whnf
  all_goals
   refine jaa 0 [] rfl rfl rfl rfl (fun _ => hp2) ?_;rintro o r ⟨ho, rfl⟩;cases ho;conv => whnf
   exact ⟨rfl, _, rfl, jbf (f := .mk 13 k8 eB []) rfl⟩
 by_cases hB : n <= 4
 ·have hp2 := jdu l (i + 1) 6 (by omega) (by decide)
  have hlt2 := jdE l (i + 1) (m := 6) (by decide)
  generalize pk l (i + 1) 6 = k8 at *
  obtain ⟨f, i2, hf, g1, g2, w1, hs⟩ := jhS l (d - 1) hl (i + 1 + 1) (z - 1) (by omega) (by omega) (by omega) (by omega)
  obtain ⟨g, i3, hg, g3, g4, w2, hs2⟩ := jhS l (d - 1) hl i2 (z - 1) (by omega) (by omega) (by omega) (by omega)
  have hlw : ∀ (k : Nat) (h : k < cmpL.length), (cmpL[k]'h).size <= 2 := by decide
  have hlk := hlw k8 hlt2
  refine ⟨.mk 18 0 (cmpL[k8]'hlt2) [f, g], i3, .cmp _ _ _ _ (List.getElem_mem _) hf hg, by omega, by omega, fun κ ka kb => by have p0 := p0 κ; have p1 := p1 κ; have pe2 := pe2 κ; have w1 := w1 κ ka kb; have w2 := w2 κ ka kb; rw [jiZ]; omega, ?_⟩;clear hlw hlk
  have hr := jdX jaT cmpL k8 hlt2
  generalize cmpL[k8]'hlt2 = s at *
  rcases (by omega : n = 1 ∨ n = 2 ∨ n = 3 ∨ n = 4) with rfl | rfl | rfl | rfl
  all_goals
   refine gw ?_;refine ja5 (ja2 jtN (fun _ => [0]) 1) (fun _ _ h => h) Tryz.func93 rfl (by kernel_rfl) rfl (by kernel_rfl) ?_;intro hok;conv => whnf
   refine jaa 0 [] rfl rfl rfl rfl (fun _ => hp) ?_;rintro o r ⟨ho, rfl⟩;cases ho;conv => whnf
   by_cases hz0 : z <= 0
   all_goals
    first
    | (rw [if_pos hz0] at hn; rw [decide_eq_true hz0]; (conv => whnf); refine ⟨by decide, ?_⟩; rw [Int.tmod_eq_emod_of_nonneg (by omega), show (n0 : Int) % 4 = ((n0 % 4 : Nat) : Int) by omega, hn])
    | (rw [if_neg hz0] at hn; rw [decide_eq_false hz0]; (conv => whnf); rw [hn])
    conv => whnf
   all_goals
    refine jaa 0 [] rfl rfl rfl rfl (fun _ => hp2) ?_;rintro o r ⟨ho, rfl⟩;cases ho;conv => whnf
    refine ⟨⟨by omega, by omega⟩, ?_⟩;conv => whnf
    generalize hrq : List.drop (Int.toNat (k8 : Int) * _) _ = rq
    obtain rfl : rq = _ :: _ := hrq.symm.trans hr
    clear hrq;conv => whnf
    refine ⟨jaI (by omega), ?_⟩;conv => whnf
    refine jaa 0 [] rfl rfl rfl rfl (fun _ => hs) ?_;rintro o r ⟨ho, rfl⟩;cases ho;conv => whnf
    refine ⟨jaI (by omega), ?_⟩;conv => whnf
    refine jaa 0 [] rfl rfl rfl rfl (fun _ => hs2) ?_;rintro o r ⟨ho, rfl⟩;cases ho;conv => whnf
    exact ⟨rfl, _, rfl, by rw [jd2]; exact jaV _⟩
 have hzp : 0 < z := by
  by_cases h : 0 < z
  ·exact h
  ·have := hn6 (by omega); omega
 obtain ⟨e, rfl⟩ : ∃ e, d = e + 1 := ⟨d - 1, by omega⟩
 have ihe := ih e rfl
 unfold bB at hi
 by_cases hD : n = 5
 ·obtain ⟨f, i2, hf, g1, g2, w1, hs⟩ := ihe hl (i + 1) (z - 1) (by omega) (by omega) (by omega) (by omega)
  subst hD
  have hsz : pNot.size = 1 := rfl
  refine ⟨.mk 17 0 pNot [f], i2, .nt _ _ hf, by omega, by unfold bB; omega, fun κ ka kb => by have p0 := p0 κ; have p1 := p1 κ; have pe2 := pe2 κ; have w1 := w1 κ ka kb; rw [joI]; omega, ?_⟩;refine gw ?_;refine ja5 (ja2 jtN (fun _ => [0]) 1) (fun _ _ h => h) Tryz.func93 rfl (by kernel_rfl) rfl (by kernel_rfl) ?_;intro hok;conv => whnf
  refine jaa 0 [] rfl rfl rfl rfl (fun _ => hp) ?_;rintro o r ⟨ho, rfl⟩;cases ho;conv => whnf
  by_cases hz0 : z <= 0
  all_goals
   first
   | (rw [if_pos hz0] at hn; rw [decide_eq_true hz0]; (conv => whnf); refine ⟨by decide, ?_⟩; rw [Int.tmod_eq_emod_of_nonneg (by omega), show (n0 : Int) % 4 = ((n0 % 4 : Nat) : Int) by omega, hn])
   | (rw [if_neg hz0] at hn; rw [decide_eq_false hz0]; (conv => whnf); rw [hn])
   conv => whnf
  ·exact absurd hz0 (by omega)
  refine ⟨jaI (by omega), ?_⟩;conv => whnf
  refine jaa 0 [] rfl rfl rfl rfl (fun _ => hs) ?_;rintro o r ⟨ho, rfl⟩;cases ho;conv => whnf
  exact ⟨rfl, _, rfl, by rw [jcb]; exact jaV _⟩
 have hp2 := jdu l (i + 1) 2 (by omega) (by decide)
 have hlt2 := jdE l (i + 1) (m := 2) (by decide)
 generalize pk l (i + 1) 2 = k8 at *
 obtain ⟨f, i2, hf, g1, g2, w1, hs⟩ := ihe hl (i + 1 + 1) (z - 1) (by omega) (by omega) (by omega) (by omega)
 obtain ⟨g, i3, hg, g3, g4, w2, hs2⟩ := ihe hl i2 (z - 1) (by omega) (by omega) (by omega) (by omega)
 have hlw : ∀ (k : Nat) (h : k < bolL.length), (bolL[k]'h).size = 2 := by decide
 have hlk := hlw k8 hlt2
 refine ⟨.mk 18 0 (bolL[k8]'hlt2) [f, g], i3, .bin _ _ _ _ (List.getElem_mem _) hf hg, by omega, by unfold bB; omega, fun κ ka kb => by have p0 := p0 κ; have p1 := p1 κ; have pe2 := pe2 κ; have w1 := w1 κ ka kb; have w2 := w2 κ ka kb; rw [jiZ]; omega, ?_⟩;clear hlw hlk
 have hr := jdX jaT bolL k8 hlt2
 generalize bolL[k8]'hlt2 = s at *
 rcases (by omega : n = 6 ∨ n = 7) with rfl | rfl
 all_goals
  refine gw ?_;refine ja5 (ja2 jtN (fun _ => [0]) 1) (fun _ _ h => h) Tryz.func93 rfl (by kernel_rfl) rfl (by kernel_rfl) ?_;intro hok;conv => whnf
  refine jaa 0 [] rfl rfl rfl rfl (fun _ => hp) ?_;rintro o r ⟨ho, rfl⟩;cases ho;conv => whnf
  by_cases hz0 : z <= 0
  all_goals
   first
   | (rw [if_pos hz0] at hn; rw [decide_eq_true hz0]; (conv => whnf); refine ⟨by decide, ?_⟩; rw [Int.tmod_eq_emod_of_nonneg (by omega), show (n0 : Int) % 4 = ((n0 % 4 : Nat) : Int) by omega, hn])
   | (rw [if_neg hz0] at hn; rw [decide_eq_false hz0]; (conv => whnf); rw [hn])
   conv => whnf
  ·exact absurd hz0 (by omega)
  refine jaa 0 [] rfl rfl rfl rfl (fun _ => hp2) ?_;rintro o r ⟨ho, rfl⟩;cases ho;conv => whnf
  refine ⟨⟨by omega, by omega⟩, ?_⟩;conv => whnf
  generalize hrq : List.drop (Int.toNat (k8 : Int) * _) _ = rq
  obtain rfl : rq = _ :: _ := hrq.symm.trans hr
  clear hrq;conv => whnf
  refine ⟨jaI (by omega), ?_⟩;conv => whnf
  refine jaa 0 [] rfl rfl rfl rfl (fun _ => hs) ?_;rintro o r ⟨ho, rfl⟩;cases ho;conv => whnf
  refine ⟨jaI (by omega), ?_⟩;conv => whnf
  refine jaa 0 [] rfl rfl rfl rfl (fun _ => hs2) ?_;rintro o r ⟨ho, rfl⟩;cases ho;conv => whnf
  exact ⟨rfl, _, rfl, by rw [jd2]; exact jaV _⟩
theorem jpQ (l : List Int) : ∀ d, jAs l d
 | 0 => jxh l 0 fun e h => by omega
 | d + 1 => jxh l (d + 1) fun e h => by
  obtain rfl : d = e := by omega
  exact jpQ l d
inductive ES : Nat -> Nt -> Prop
 | asg (d e : Nat) (s : ByteArray) (f : Nt) (hs : s ∈ varL) (h : EI e f) (he : e <= 2) : ES d (.mk 1 0 s [f])
 | snd (d n : Nat) (f g h : Nt) (hn : n < 4) (h1 : EI 0 f) (h2 : EI 1 g) (h3 : EI 1 h) : ES d (.mk 4 n eB [f, g, h])
 | tim (d n : Nat) (hn : n < 3) : ES d (.mk 5 n eB [])
 | can (d n : Nat) (hn : n < 3) : ES d (.mk 6 n eB [])
 | syn (d : Nat) : ES d (.mk 7 0 eB [])
 | rep (d : Nat) (f g : Nt) (h1 : EI 0 f) (h2 : EI 1 g) : ES d (.mk 8 0 eB [f, g])
 | fai (d : Nat) (f : Nt) (h1 : EI 1 f) : ES d (.mk 9 0 eB [f])
 | stp (d : Nat) : ES d (.mk 10 0 eB [])
 | whi (d : Nat) (c : Nt) (l : List Nt) (h1 : EB 1 c) (h2 : l.length <= 2) (h3 : ∀ s ∈ l, ES d s) : ES (d + 1) (.mk 3 0 eB [c, jba l])
 | iff (d : Nat) (c : Nt) (l m : List Nt) (h1 : EB 2 c) (h2 : l.length <= 2) (h3 : ∀ s ∈ l, ES d s) (h4 : m.length <= 2) (h5 : ∀ s ∈ m, ES d s) : ES (d + 1) (.mk 2 0 eB [c, jba l, jba m])
theorem jzn (c : Nat) {n : Nat} (h : n <= 2) : (n = 0 /\ c * n = 0) ∨ (n = 1 /\ c * n = c) ∨ (n = 2 /\ c * n = 2 * c) := by
 rcases (by omega : n = 0 ∨ n = 1 ∨ n = 2) with rfl | rfl | rfl <;> omega
def bS : Nat -> Nat
 | 0 => 60
 | d + 1 => 62 + 4 * bS d
theorem jAw : ∀ d, 60 <= bS d
 | 0 => Nat.le_refl _
 | d + 1 => by unfold bS; omega
def jzg (l : List Int) (d : Nat) : Prop := l.length <= 70 -> ∀ (i : Nat) (z : Int), z.toNat = d -> 0 <= z -> z <= 5 -> i + bS d <= 1000000000 -> ∃ f i', ES d f /\ i <= i' /\ i' <= i + bS d /\ (∀ κ, 1 <= κ -> κ <= 7 -> wS κ f + phi κ i <= 4 + 4 * κ + phi κ i') /\ Spec Tryz.prog 57 [bxG l i] [.box 0 0, .v (.int .i64 z)] fun o r => o = [bxG l i'] /\ r = .agg (ntA f)
def jzH (l : List Int) (d : Nat) : Prop := l.length <= 70 -> ∀ (i m : Nat) (z : Int), z.toNat = d -> 0 <= z -> z <= 5 -> m <= 3 -> i + (1 + m * bS d) <= 1000000000 -> ∃ k i', k.length <= m /\ (∀ s ∈ k, ES d s) /\ i <= i' /\ i' <= i + (1 + m * bS d) /\ ((∀ κ, 1 <= κ -> κ <= 7 -> wSs κ k + phi κ (i + 1) <= (4 + 4 * κ) * k.length + phi κ i') /\ (70 <= i -> k.length = 0)) /\ Spec Tryz.prog 37 [bxG l i] [.box 0 0, .v (.int .i64 z), .v (.int .i64 m)] fun o r => o = [bxG l i'] /\ r = .agg (ntA (jba k))
set_option maxHeartbeats 2000000 in
theorem jzN (l : List Int) (d : Nat) (ih : ∀ e, d = e + 1 -> jzH l e) : jzg l d := fun hl i z hz h1 h2 hi => by
 have hge := jAw d
 have b0 : bI 0 = 2 := rfl
 have b1 : bI 1 = 6 := rfl
 have b2 : bI 2 = 14 := rfl
 have c1 : bB 1 = 18 := rfl
 have c2 : bB 2 = 50 := rfl
 have hp := jdu l i 14 (by omega) (by decide)
 have hlt := jdE l i (m := 14) (by decide)
 have ho := jhp l i 14 hl
 have p0 := fun κ => jde κ i
 have p1 := fun κ => jde κ (i + 1)
 have pe2 : ∀ κ, phi κ (i + 2) = phi κ (i + 1 + 1) := fun _ => rfl
 have p2 := fun κ => jde κ (i + 1 + 1)
 generalize pk l i 14 = n0 at *
 obtain ⟨n, hn⟩ : ∃ n, (if z <= 0 then n0 % 11 else n0) = n := ⟨_, rfl⟩
 have hn12 : n < 14 := by split at hn <;> omega
 have hn6 : z <= 0 -> n < 11 := fun h => by rw [if_pos h] at hn; omega
 have hlo : n ≠ 0 -> i < 70 := fun h => by
  by_cases h70 : 70 <= i
  ·have := ho h70
   split at hn <;> omega
  ·omega
 by_cases hA : n <= 2
 ·obtain ⟨s, hs1, ⟨hz3, hz1⟩, hp2⟩ := jzP l (i + 1) (by omega)
  have hz1 := hz1 hl
  obtain ⟨f, i2, hf, g1, g2, w1, hs⟩ := jhS l 2 hl (i + 1 + 1) 2 (by omega) (by omega) (by omega) (by omega)
  have w1 := fun κ ka kb => jeH (by omega) (w1 κ ka kb)
  refine ⟨.mk 1 0 s [f], i2, .asg _ _ _ _ hs1 hf (Nat.le_refl _), by omega, by omega, fun κ ka kb => by have p0 := p0 κ; have p1 := p1 κ; have pe2 := pe2 κ; have p2 := p2 κ; have w1 := w1 κ ka kb; rw [jrr]; omega, ?_⟩
  rcases (by omega : n = 0 ∨ n = 1 ∨ n = 2) with rfl | rfl | rfl
  all_goals
   refine gw ?_;refine ja5 (ja2 jgx (fun _ => [0]) 1) (fun _ _ h => h) Tryz.func57 rfl (by kernel_rfl) rfl (by kernel_rfl) ?_;intro hok;conv => whnf
   refine jaa 0 [] rfl rfl rfl rfl (fun _ => hp) ?_;rintro o r ⟨ho, rfl⟩;cases ho;conv => whnf
   by_cases hz0 : z <= 0
   all_goals
    first
    | (rw [if_pos hz0] at hn; rw [decide_eq_true hz0]; (conv => whnf); refine ⟨by decide, ?_⟩; rw [Int.tmod_eq_emod_of_nonneg (by omega), show (n0 : Int) % 11 = ((n0 % 11 : Nat) : Int) by omega, hn])
    | (rw [if_neg hz0] at hn; rw [decide_eq_false hz0]; (conv => whnf); rw [hn])
    conv => whnf
   all_goals
    refine jaa 0 [] rfl rfl rfl rfl (fun _ => hp2) ?_;rintro o r ⟨ho, rfl⟩;cases ho;conv => whnf
    refine jaa 0 [] rfl rfl rfl rfl (fun _ => hs) ?_;rintro o r ⟨ho, rfl⟩;cases ho;conv => whnf
    exact ⟨rfl, _, rfl, by rw [jcb]; exact jaV _⟩
 by_cases hB : n <= 4
 ·obtain ⟨f, i2, hf, g1, g2, w1, hs1⟩ := jhS l 0 hl (i + 1) 0 (by omega) (by omega) (by omega) (by omega)
  have hp2 := jdu l i2 4 (by omega) (by decide)
  have hlt2 := jdE l i2 (m := 4) (by decide)
  generalize pk l i2 4 = k8 at *
  have p3 := fun κ => jgZ κ i2
  have q0 := fun κ => jgZ κ i
  have qi := fun κ => jpl κ i
  obtain ⟨g, i3, hg, g3, g4, w2, hs2⟩ := jhS l 1 hl (i2 + 1) 1 (by omega) (by omega) (by omega) (by omega)
  obtain ⟨h, i4, hh, g5, g6, w3, hs3⟩ := jhS l 1 hl i3 1 (by omega) (by omega) (by omega) (by omega)
  refine ⟨.mk 4 k8 eB [f, g, h], i4, .snd _ _ _ _ _ hlt2 hf hg hh, by omega, by omega, fun κ ka kb => by have qj := jpl κ i4; have p3 := p3 κ; have q0 := q0 κ; have qi := qi κ; have w1 := w1 κ ka kb; have w2 := w2 κ ka kb; have w3 := w3 κ ka kb; rw [juE]; omega, ?_⟩
  rcases (by omega : n = 3 ∨ n = 4) with rfl | rfl
  all_goals
   refine gw ?_;refine ja5 (ja2 jgx (fun _ => [0]) 1) (fun _ _ h => h) Tryz.func57 rfl (by kernel_rfl) rfl (by kernel_rfl) ?_;intro hok;conv => whnf
   refine jaa 0 [] rfl rfl rfl rfl (fun _ => hp) ?_;rintro o r ⟨ho, rfl⟩;cases ho;conv => whnf
   by_cases hz0 : z <= 0
   all_goals
    first
    | (rw [if_pos hz0] at hn; rw [decide_eq_true hz0]; (conv => whnf); refine ⟨by decide, ?_⟩; rw [Int.tmod_eq_emod_of_nonneg (by omega), show (n0 : Int) % 11 = ((n0 % 11 : Nat) : Int) by omega, hn])
    | (rw [if_neg hz0] at hn; rw [decide_eq_false hz0]; (conv => whnf); rw [hn])
    conv => whnf
   all_goals
    refine jaa 0 [] rfl rfl rfl rfl (fun _ => hs1) ?_;rintro o r ⟨ho, rfl⟩;cases ho;conv => whnf
    refine jaa 0 [] rfl rfl rfl rfl (fun _ => hp2) ?_;rintro o r ⟨ho, rfl⟩;cases ho;conv => whnf
    refine jaa 0 [] rfl rfl rfl rfl (fun _ => hs2) ?_;rintro o r ⟨ho, rfl⟩;cases ho;conv => whnf
    refine jaa 0 [] rfl rfl rfl rfl (fun _ => hs3) ?_;rintro o r ⟨ho, rfl⟩;cases ho;conv => whnf
    exact ⟨rfl, _, rfl, by rw [jdU]; exact jaV _⟩
 by_cases hC : n <= 6
 ·have hp2 := jdu l (i + 1) 3 (by omega) (by decide)
  have hlt2 := jdE l (i + 1) (m := 3) (by decide)
  generalize pk l (i + 1) 3 = k8 at *
  rcases (by omega : n = 5 ∨ n = 6) with rfl | rfl
  ·refine ⟨.mk 5 k8 eB [], i + 2, .tim _ _ hlt2, by omega, by omega, fun κ ka kb => by have p0 := p0 κ; have p1 := p1 κ; have pe2 := pe2 κ; have p2 := p2 κ; rw [juz]; omega, ?_⟩;refine gw ?_;refine ja5 (ja2 jgx (fun _ => [0]) 1) (fun _ _ h => h) Tryz.func57 rfl (by kernel_rfl) rfl (by kernel_rfl) ?_;intro hok;conv => whnf
   refine jaa 0 [] rfl rfl rfl rfl (fun _ => hp) ?_;rintro o r ⟨ho, rfl⟩;cases ho;conv => whnf
   by_cases hz0 : z <= 0
   all_goals
    first
    | (rw [if_pos hz0] at hn; rw [decide_eq_true hz0]; (conv => whnf); refine ⟨by decide, ?_⟩; rw [Int.tmod_eq_emod_of_nonneg (by omega), show (n0 : Int) % 11 = ((n0 % 11 : Nat) : Int) by omega, hn])
    | (rw [if_neg hz0] at hn; rw [decide_eq_false hz0]; (conv => whnf); rw [hn])
    conv => whnf
   all_goals
    refine jaa 0 [] rfl rfl rfl rfl (fun _ => hp2) ?_;rintro o r ⟨ho, rfl⟩;cases ho;conv => whnf
    exact ⟨rfl, _, rfl, jbf (f := .mk 5 k8 eB []) rfl⟩
  ·refine ⟨.mk 6 k8 eB [], i + 2, .can _ _ hlt2, by omega, by omega, fun κ ka kb => by have p0 := p0 κ; have p1 := p1 κ; have pe2 := pe2 κ; have p2 := p2 κ; rw [jvd]; omega, ?_⟩;refine gw ?_;refine ja5 (ja2 jgx (fun _ => [0]) 1) (fun _ _ h => h) Tryz.func57 rfl (by kernel_rfl) rfl (by kernel_rfl) ?_;intro hok;conv => whnf
   refine jaa 0 [] rfl rfl rfl rfl (fun _ => hp) ?_;rintro o r ⟨ho, rfl⟩;cases ho;conv => whnf
   by_cases hz0 : z <= 0
   all_goals
    first
    | (rw [if_pos hz0] at hn; rw [decide_eq_true hz0]; (conv => whnf); refine ⟨by decide, ?_⟩; rw [Int.tmod_eq_emod_of_nonneg (by omega), show (n0 : Int) % 11 = ((n0 % 11 : Nat) : Int) by omega, hn])
    | (rw [if_neg hz0] at hn; rw [decide_eq_false hz0]; (conv => whnf); rw [hn])
    conv => whnf
   all_goals
    refine jaa 0 [] rfl rfl rfl rfl (fun _ => hp2) ?_;rintro o r ⟨ho, rfl⟩;cases ho;conv => whnf
    exact ⟨rfl, _, rfl, jbf (f := .mk 6 k8 eB []) rfl⟩
 by_cases hD : n = 7
 ·subst hD;refine ⟨.mk 7 0 eB [], i + 1, .syn _, by omega, by omega, fun κ ka kb => by have p0 := p0 κ; have p1 := p1 κ; have pe2 := pe2 κ; have p2 := p2 κ; rw [juh]; omega, ?_⟩;refine gw ?_;refine ja5 (ja2 jgx (fun _ => [0]) 1) (fun _ _ h => h) Tryz.func57 rfl (by kernel_rfl) rfl (by kernel_rfl) ?_;intro hok;conv => whnf
  refine jaa 0 [] rfl rfl rfl rfl (fun _ => hp) ?_;rintro o r ⟨ho, rfl⟩;cases ho;conv => whnf
  by_cases hz0 : z <= 0
  all_goals
   first
   | (rw [if_pos hz0] at hn; rw [decide_eq_true hz0]; (conv => whnf); refine ⟨by decide, ?_⟩; rw [Int.tmod_eq_emod_of_nonneg (by omega), show (n0 : Int) % 11 = ((n0 % 11 : Nat) : Int) by omega, hn])
   | (rw [if_neg hz0] at hn; rw [decide_eq_false hz0]; (conv => whnf); rw [hn])
   conv => whnf
  all_goals
   exact ⟨rfl, _, rfl, jbf (f := .mk 7 0 eB []) rfl⟩
 by_cases hE : n = 8
 ·subst hE
  obtain ⟨f, i2, hf, g1, g2, w1, hs1⟩ := jhS l 0 hl (i + 1) 0 (by omega) (by omega) (by omega) (by omega)
  have w1 := fun κ ka kb => jeH (by omega) (w1 κ ka kb)
  obtain ⟨g, i3, hg, g3, g4, w2, hs2⟩ := jhS l 1 hl i2 1 (by omega) (by omega) (by omega) (by omega)
  have w2 := fun κ ka kb => jeH (by omega) (w2 κ ka kb)
  refine ⟨.mk 8 0 eB [f, g], i3, .rep _ _ _ hf hg, by omega, by omega, fun κ ka kb => by have p0 := p0 κ; have p1 := p1 κ; have pe2 := pe2 κ; have p2 := p2 κ; have w1 := w1 κ ka kb; have w2 := w2 κ ka kb; rw [jva]; omega, ?_⟩;refine gw ?_;refine ja5 (ja2 jgx (fun _ => [0]) 1) (fun _ _ h => h) Tryz.func57 rfl (by kernel_rfl) rfl (by kernel_rfl) ?_;intro hok;conv => whnf
  refine jaa 0 [] rfl rfl rfl rfl (fun _ => hp) ?_;rintro o r ⟨ho, rfl⟩;cases ho;conv => whnf
  by_cases hz0 : z <= 0
  all_goals
   first
   | (rw [if_pos hz0] at hn; rw [decide_eq_true hz0]; (conv => whnf); refine ⟨by decide, ?_⟩; rw [Int.tmod_eq_emod_of_nonneg (by omega), show (n0 : Int) % 11 = ((n0 % 11 : Nat) : Int) by omega, hn])
   | (rw [if_neg hz0] at hn; rw [decide_eq_false hz0]; (conv => whnf); rw [hn])
   conv => whnf
  all_goals
   refine jaa 0 [] rfl rfl rfl rfl (fun _ => hs1) ?_;rintro o r ⟨ho, rfl⟩;cases ho;conv => whnf
   refine jaa 0 [] rfl rfl rfl rfl (fun _ => hs2) ?_;rintro o r ⟨ho, rfl⟩;cases ho;conv => whnf
   exact ⟨rfl, _, rfl, by rw [jd2]; exact jaV _⟩
 by_cases hF : n = 9
 ·subst hF
  obtain ⟨f, i2, hf, g1, g2, w1, hs1⟩ := jhS l 1 hl (i + 1) 1 (by omega) (by omega) (by omega) (by omega)
  have w1 := fun κ ka kb => jeH (by omega) (w1 κ ka kb)
  refine ⟨.mk 9 0 eB [f], i2, .fai _ _ hf, by omega, by omega, fun κ ka kb => by have p0 := p0 κ; have p1 := p1 κ; have pe2 := pe2 κ; have p2 := p2 κ; have w1 := w1 κ ka kb; rw [juV]; omega, ?_⟩;refine gw ?_;refine ja5 (ja2 jgx (fun _ => [0]) 1) (fun _ _ h => h) Tryz.func57 rfl (by kernel_rfl) rfl (by kernel_rfl) ?_;intro hok;conv => whnf
  refine jaa 0 [] rfl rfl rfl rfl (fun _ => hp) ?_;rintro o r ⟨ho, rfl⟩;cases ho;conv => whnf
  by_cases hz0 : z <= 0
  all_goals
   first
   | (rw [if_pos hz0] at hn; rw [decide_eq_true hz0]; (conv => whnf); refine ⟨by decide, ?_⟩; rw [Int.tmod_eq_emod_of_nonneg (by omega), show (n0 : Int) % 11 = ((n0 % 11 : Nat) : Int) by omega, hn])
   | (rw [if_neg hz0] at hn; rw [decide_eq_false hz0]; (conv => whnf); rw [hn])
   conv => whnf
  all_goals
   refine jaa 0 [] rfl rfl rfl rfl (fun _ => hs1) ?_;rintro o r ⟨ho, rfl⟩;cases ho;conv => whnf
   exact ⟨rfl, _, rfl, by rw [jcb]; exact jaV _⟩
 by_cases hG : n = 10
 ·subst hG
  have hp2 := jdu l (i + 1) 3 (by omega) (by decide)
  have hlt2 := jdE l (i + 1) (m := 3) (by decide)
  generalize pk l (i + 1) 3 = k8 at *
  by_cases hk : 0 < k8
  ·obtain ⟨s, hs1, ⟨hz3, _⟩, hp3⟩ := jzP l (i + 1 + 1) (by omega)
   obtain ⟨f, i2, hf, g1, g2, w1, hs⟩ := jhS l 1 hl (i + 1 + 1 + 1) 1 (by omega) (by omega) (by omega) (by omega)
   have w1 := fun κ ka kb => jeH (by omega) (w1 κ ka kb)
   refine ⟨.mk 1 0 s [f], i2, .asg _ _ _ _ hs1 hf (by decide), by omega, by omega, fun κ ka kb => by have p0 := p0 κ; have p1 := p1 κ; have pe2 := pe2 κ; have p2 := p2 κ; have w1 := w1 κ ka kb; rw [jrr]; omega, ?_⟩;refine gw ?_;refine ja5 (ja2 jgx (fun _ => [0]) 1) (fun _ _ h => h) Tryz.func57 rfl (by kernel_rfl) rfl (by kernel_rfl) ?_;intro hok;conv => whnf
   refine jaa 0 [] rfl rfl rfl rfl (fun _ => hp) ?_;rintro o r ⟨ho, rfl⟩;cases ho;conv => whnf
   by_cases hz0 : z <= 0
   all_goals
    first
    | (rw [if_pos hz0] at hn; rw [decide_eq_true hz0]; (conv => whnf); refine ⟨by decide, ?_⟩; rw [Int.tmod_eq_emod_of_nonneg (by omega), show (n0 : Int) % 11 = ((n0 % 11 : Nat) : Int) by omega, hn])
    | (rw [if_neg hz0] at hn; rw [decide_eq_false hz0]; (conv => whnf); rw [hn])
    conv => whnf
   all_goals
    refine jaa 0 [] rfl rfl rfl rfl (fun _ => hp2) ?_;rintro o r ⟨ho, rfl⟩;cases ho;conv => whnf
    rw [decide_eq_true (show 0 < (k8 : Int) by omega)];conv => whnf
    refine jaa 0 [] rfl rfl rfl rfl (fun _ => hp3) ?_;rintro o r ⟨ho, rfl⟩;cases ho;conv => whnf
    refine jaa 0 [] rfl rfl rfl rfl (fun _ => hs) ?_;rintro o r ⟨ho, rfl⟩;cases ho;conv => whnf
    exact ⟨rfl, _, rfl, by rw [jcb]; exact jaV _⟩
  ·refine ⟨.mk 10 0 eB [], i + 2, .stp _, by omega, by omega, fun κ ka kb => by have p0 := p0 κ; have p1 := p1 κ; have pe2 := pe2 κ; have p2 := p2 κ; rw [jue]; omega, ?_⟩;refine gw ?_;refine ja5 (ja2 jgx (fun _ => [0]) 1) (fun _ _ h => h) Tryz.func57 rfl (by kernel_rfl) rfl (by kernel_rfl) ?_;intro hok;conv => whnf
   refine jaa 0 [] rfl rfl rfl rfl (fun _ => hp) ?_;rintro o r ⟨ho, rfl⟩;cases ho;conv => whnf
   by_cases hz0 : z <= 0
   all_goals
    first
    | (rw [if_pos hz0] at hn; rw [decide_eq_true hz0]; (conv => whnf); refine ⟨by decide, ?_⟩; rw [Int.tmod_eq_emod_of_nonneg (by omega), show (n0 : Int) % 11 = ((n0 % 11 : Nat) : Int) by omega, hn])
    | (rw [if_neg hz0] at hn; rw [decide_eq_false hz0]; (conv => whnf); rw [hn])
    conv => whnf
   all_goals
    refine jaa 0 [] rfl rfl rfl rfl (fun _ => hp2) ?_;rintro o r ⟨ho, rfl⟩;cases ho;conv => whnf
    rw [decide_eq_false (show ¬ 0 < (k8 : Int) by omega)];conv => whnf
    exact ⟨rfl, _, rfl, jbf (f := .mk 10 0 eB []) rfl⟩
 have hzp : 0 < z := by
  by_cases h : 0 < z
  ·exact h
  ·have := hn6 (by omega); omega
 obtain ⟨e, rfl⟩ : ∃ e, d = e + 1 := ⟨d - 1, by omega⟩
 have ihe := ih e rfl
 unfold bS at hi
 by_cases hH : n = 11
 ·subst hH
  obtain ⟨f, i2, hf, g1, g2, w1, hs1⟩ := jpQ l 1 hl (i + 1) 1 (by omega) (by omega) (by omega) (by omega)
  have w1 := fun κ ka kb => jeH (by omega) (w1 κ ka kb)
  have p3 := fun κ => jde κ i2
  obtain ⟨k, i3, q1, q2, g3, g4, ⟨w2, w3⟩, hs2⟩ := ihe hl i2 2 (z - 1) (by omega) (by omega) (by omega) (by omega) (by omega)
  refine ⟨.mk 3 0 eB [f, jba k], i3, .whi _ _ _ hf q1 q2, by omega, by unfold bS; omega, fun κ ka kb => by have p0 := p0 κ; have p1 := p1 κ; have pe2 := pe2 κ; have p2 := p2 κ; have w1 := w1 κ ka kb; have w2 := w2 κ ka kb; have p3 := p3 κ; have hm2 := jzn (4 + 4 * κ) q1; rw [jum, jm3]; omega, ?_⟩;refine gw ?_;refine ja5 (ja2 jgx (fun _ => [0]) 1) (fun _ _ h => h) Tryz.func57 rfl (by kernel_rfl) rfl (by kernel_rfl) ?_;intro hok;conv => whnf
  refine jaa 0 [] rfl rfl rfl rfl (fun _ => hp) ?_;rintro o r ⟨ho, rfl⟩;cases ho;conv => whnf
  by_cases hz0 : z <= 0
  all_goals
   first
   | (rw [if_pos hz0] at hn; rw [decide_eq_true hz0]; (conv => whnf); refine ⟨by decide, ?_⟩; rw [Int.tmod_eq_emod_of_nonneg (by omega), show (n0 : Int) % 11 = ((n0 % 11 : Nat) : Int) by omega, hn])
   | (rw [if_neg hz0] at hn; rw [decide_eq_false hz0]; (conv => whnf); rw [hn])
   conv => whnf
  ·exact absurd hz0 (by omega)
  refine jaa 0 [] rfl rfl rfl rfl (fun _ => hs1) ?_;rintro o r ⟨ho, rfl⟩;cases ho;conv => whnf
  refine ⟨jaI (by omega), ?_⟩;conv => whnf
  refine jaa 0 [] rfl rfl rfl rfl (fun _ => hs2) ?_;rintro o r ⟨ho, rfl⟩;cases ho;conv => whnf
  exact ⟨rfl, _, rfl, by rw [jd2]; exact jaV _⟩
 obtain ⟨f, i2, hf, g1, g2, w1, hs1⟩ := jpQ l 2 hl (i + 1) 2 (by omega) (by omega) (by omega) (by omega)
 have w1 := fun κ ka kb => jeH (by omega) (w1 κ ka kb)
 have p3 := fun κ => jde κ i2
 obtain ⟨k, i3, q1, q2, g3, g4, ⟨w2, w3⟩, hs2⟩ := ihe hl i2 2 (z - 1) (by omega) (by omega) (by omega) (by omega) (by omega)
 have hp2 := jdu l i3 2 (by omega) (by decide)
 have hlt2 := jdE l i3 (m := 2) (by decide)
 generalize pk l i3 2 = k8 at *
 by_cases hk : k8 = 1
 ·have p4 := fun κ => jde κ i3
  have p5 := fun κ => jde κ (i3 + 1)
  obtain ⟨m, i4, q3, q4, g5, g6, ⟨w4, w5⟩, hs3⟩ := ihe hl (i3 + 1) 2 (z - 1) (by omega) (by omega) (by omega) (by omega) (by omega)
  refine ⟨.mk 2 0 eB [f, jba k, jba m], i4, .iff _ _ _ _ hf q1 q2 q3 q4, by omega, by unfold bS; omega, fun κ ka kb => by have p0 := p0 κ; have p1 := p1 κ; have pe2 := pe2 κ; have p2 := p2 κ; have p3 := p3 κ; have p4 := p4 κ; have p5 := p5 κ; have w1 := w1 κ ka kb; have w2 := w2 κ ka kb; have w4 := w4 κ ka kb; have hif := juT κ f k m; have hm2 := jzn (4 + 4 * κ) q1; have hm3 := jzn (4 + 4 * κ) q3; omega, ?_⟩
  rcases (by omega : n = 12 ∨ n = 13) with rfl | rfl
  all_goals
   refine gw ?_;refine ja5 (ja2 jgx (fun _ => [0]) 1) (fun _ _ h => h) Tryz.func57 rfl (by kernel_rfl) rfl (by kernel_rfl) ?_;intro hok;conv => whnf
   refine jaa 0 [] rfl rfl rfl rfl (fun _ => hp) ?_;rintro o r ⟨ho, rfl⟩;cases ho;conv => whnf
   by_cases hz0 : z <= 0
   all_goals
    first
    | (rw [if_pos hz0] at hn; rw [decide_eq_true hz0]; (conv => whnf); refine ⟨by decide, ?_⟩; rw [Int.tmod_eq_emod_of_nonneg (by omega), show (n0 : Int) % 11 = ((n0 % 11 : Nat) : Int) by omega, hn])
    | (rw [if_neg hz0] at hn; rw [decide_eq_false hz0]; (conv => whnf); rw [hn])
    conv => whnf
   ·exact absurd hz0 (by omega)
   refine jaa 0 [] rfl rfl rfl rfl (fun _ => hs1) ?_;rintro o r ⟨ho, rfl⟩;cases ho;conv => whnf
   refine ⟨jaI (by omega), ?_⟩;conv => whnf
   refine jaa 0 [] rfl rfl rfl rfl (fun _ => hs2) ?_;rintro o r ⟨ho, rfl⟩;cases ho;conv => whnf
   refine jaa 0 [] rfl rfl rfl rfl (fun _ => hp2) ?_;rintro o r ⟨ho, rfl⟩;cases ho;conv => whnf
   rw [decide_eq_true (show (k8 : Int) = 1 by omega)];conv => whnf
   refine ⟨jaI (by omega), ?_⟩;conv => whnf
   refine jaa 0 [] rfl rfl rfl rfl (fun _ => hs3) ?_;rintro o r ⟨ho, rfl⟩;cases ho;conv => whnf
   exact ⟨rfl, _, rfl, by rw [jdU]; exact jaV _⟩
 ·have p4 := fun κ => jde κ i3
  refine ⟨.mk 2 0 eB [f, jba k, jba []], i3 + 1, .iff _ _ _ _ hf q1 q2 (by decide) (by simp), by omega, by unfold bS; omega, fun κ ka kb => by have p0 := p0 κ; have p1 := p1 κ; have pe2 := pe2 κ; have p2 := p2 κ; have p3 := p3 κ; have p4 := p4 κ; have w1 := w1 κ ka kb; have w2 := w2 κ ka kb; have hif := (juT κ f k []).2 rfl; have hm2 := jzn (4 + 4 * κ) q1; omega, ?_⟩
  rcases (by omega : n = 12 ∨ n = 13) with rfl | rfl
  all_goals
   refine gw ?_;refine ja5 (ja2 jgx (fun _ => [0]) 1) (fun _ _ h => h) Tryz.func57 rfl (by kernel_rfl) rfl (by kernel_rfl) ?_;intro hok;conv => whnf
   refine jaa 0 [] rfl rfl rfl rfl (fun _ => hp) ?_;rintro o r ⟨ho, rfl⟩;cases ho;conv => whnf
   by_cases hz0 : z <= 0
   all_goals
    first
    | (rw [if_pos hz0] at hn; rw [decide_eq_true hz0]; (conv => whnf); refine ⟨by decide, ?_⟩; rw [Int.tmod_eq_emod_of_nonneg (by omega), show (n0 : Int) % 11 = ((n0 % 11 : Nat) : Int) by omega, hn])
    | (rw [if_neg hz0] at hn; rw [decide_eq_false hz0]; (conv => whnf); rw [hn])
    conv => whnf
   ·exact absurd hz0 (by omega)
   refine jaa 0 [] rfl rfl rfl rfl (fun _ => hs1) ?_;rintro o r ⟨ho, rfl⟩;cases ho;conv => whnf
   refine ⟨jaI (by omega), ?_⟩;conv => whnf
   refine jaa 0 [] rfl rfl rfl rfl (fun _ => hs2) ?_;rintro o r ⟨ho, rfl⟩;cases ho;conv => whnf
   refine jaa 0 [] rfl rfl rfl rfl (fun _ => hp2) ?_;rintro o r ⟨ho, rfl⟩;cases ho;conv => whnf
   rw [decide_eq_false (show ¬ (k8 : Int) = 1 by omega)];conv => whnf
   exact ⟨rfl, _, rfl, by rw [jdU]; exact jA0 f (jba k)⟩
inductive Chn (l : List Int) (z : Int) : Nat -> List Nt -> Nat -> Prop
 | nil (i : Nat) : Chn l z i [] i
 | cons (i i1 i2 : Nat) (f : Nt) (ss : List Nt) (h : Spec Tryz.prog 57 [bxG l i] [.box 0 0, .v (.int .i64 z)] fun o r => o = [bxG l i1] /\ r = .agg (ntA f)) (k : Chn l z i1 ss i2) : Chn l z i (f :: ss) i2
theorem juk {l : List Int} {d : Nat} (hS : jzg l d) (hl : l.length <= 70) {z : Int} (hz : z.toNat = d) (h1 : 0 <= z) (h2 : z <= 5) : ∀ (k i : Nat), i + k * bS d <= 1000000000 -> ∃ ss i', ss.length = k /\ (∀ s ∈ ss, ES d s) /\ i <= i' /\ i' <= i + k * bS d /\ (∀ κ, 1 <= κ -> κ <= 7 -> wSs κ ss + phi κ i <= (4 + 4 * κ) * k + phi κ i') /\ Chn l z i ss i'
 | 0, i, _ => ⟨[], i, rfl, by simp, Nat.le_refl _, by omega, fun κ ka kb => by show 0 + phi κ i <= _; omega, .nil i⟩
 | k + 1, i, hb => by
  rw [Nat.succ_mul] at hb
  obtain ⟨f, i1, hf, g1, g2, w1, hs⟩ := hS hl i z hz h1 h2 (by omega)
  obtain ⟨ss, i2, e1, e2, g3, g4, w2, hc⟩ := juk hS hl hz h1 h2 k i1 (by omega)
  refine ⟨f :: ss, i2, by rw [List.length_cons, e1], fun s hs => ?_, by omega, by rw [Nat.succ_mul]; omega, fun κ ka kb => by have w1 := w1 κ ka kb; have w2 := w2 κ ka kb; rw [wSs, Nat.mul_succ]; omega, .cons _ _ _ _ _ hs hc⟩
  rcases List.mem_cons.1 hs with rfl | hs
  ·exact hf
  ·exact e2 s hs
set_option maxHeartbeats 1000000 in
theorem jAZ (l : List Int) (d : Nat) (hS : jzg l d) : jzH l d := fun hl i m z hz h1 h2 hm hi => by
 have hp := jdu l i (m + 1) (by omega) (by omega)
 have hlt := jdE l i (m := m + 1) (by omega)
 have ho := jhp l i (m + 1) hl
 generalize pk l i (m + 1) = k at *
 have hkm : k * bS d <= m * bS d := Nat.mul_le_mul_right _ (by omega)
 obtain ⟨ss, i2, e1, e2, g3, g4, w2, hc⟩ := juk hS hl hz h1 h2 k (i + 1) (by omega)
 refine ⟨ss, i2, by omega, e2, by omega, by omega, ⟨fun κ ka kb => by rw [e1]; exact w2 κ ka kb, by omega⟩, ?_⟩;refine ja5 (ja2 jAi (fun _ => [0]) 1) (fun _ _ h => h) Tryz.func37 rfl (by kernel_rfl) rfl (by kernel_rfl) ?_;intro hok;conv => whnf
 refine ⟨jaI (by omega), ?_⟩;conv => whnf
 refine jaa 0 [] rfl rfl rfl rfl (fun _ => hp) ?_;rintro o r ⟨ho, rfl⟩;cases ho;conv => whnf
 refine jcT 41 4 [] [(2, 3)] ?_;conv => whnf
 refine ⟨trivial, ?_⟩;conv => whnf
 refine jaj [0, 1, 6, 7] ?_;conv => whnf
 refine jaL (fun x : List Nt × List Nt × Nat => [(8, .v (.int .i64 x.2.1.length))]) (fun x => [bxG l x.2.2, jtD, [jao 11, jao 0, jaT ⟨#[]⟩, .own 0]]) (fun x => [.live 41 4 x.1.length (jaS x.1)]) (fun x => x.1 ++ x.2.1 = ss /\ Chn l z x.2.2 x.2.1 i2) (fun x => x.2.1.length) ([], ss, i + 1) ?_ ⟨rfl, hc⟩ ?_
 ·rw [<- e1]
  repeat' constructor
  show Row.live _ _ _ _ = Row.live _ 4 0 (jaS [])
  rw [jbv]
 rintro ⟨acc, rem, j⟩ ⟨hacc, hch⟩
 simp only at hacc hch
 conv => whnf
 cases hch with
 | nil =>
  rw [List.append_nil] at hacc;conv => whnf
  rw [<- hacc];exact ⟨rfl, rfl⟩
 | cons _ i1 _ f rem hs hch =>
  have hln : acc.length + (rem.length + 1) = ss.length := by rw [<- hacc, List.length_append, List.length_cons]
  rw [show ((f :: rem).length : Int) = (rem.length : Int) + 1 by simp];rw [decide_eq_true (show 0 < (rem.length : Int) + 1 by omega)];conv => whnf
  refine jaa 0 [] rfl rfl rfl rfl (fun _ => hs) ?_;rintro o r ⟨ho, rfl⟩;cases ho;conv => whnf
  refine ⟨⟨by simp only; unfold maxLen; omega, by simp only; omega⟩, ?_⟩;conv => whnf
  refine ⟨jaI (by omega), ?_⟩;rw [show (rem.length : Int) + 1 - 1 = rem.length by omega];conv => whnf
  refine ⟨(acc ++ [f], rem, i1), jas [0] ?_, ⟨by simp only; rw [List.append_assoc]; exact hacc, hch⟩, by simp only [List.length_cons]; omega⟩;conv => whnf
  simp only [List.length_append, List.length_cons, List.length_nil];rw [jhR]
  repeat' constructor
theorem jAd (l : List Int) (most : Nat) (hm : most <= 1000) : Spec Tryz.prog 35 [] [.sl 1 l.length (jfs l), .v (.int .i64 most)] fun _ r => r = .sl 1 (l.take most).length (jfs (l.take most)) := by
 refine ja5 (ja2 jak xs0 0) (fun _ _ h => h) Tryz.func35 rfl (by kernel_rfl) rfl (by kernel_rfl) ?_;intro hok
 have e1 : (min (l.length : Int) (most : Int)).toNat - Int.toNat 0 = (l.take most).length := by rw [List.length_take]; omega
 have e2 : List.take ((l.take most).length * 1) (List.drop (Int.toNat 0 * 1) (jfs l)) = jfs (l.take most) := by
  rw [Nat.mul_one, List.length_take];simp only [jfs, Int.toNat_zero, Nat.zero_mul, List.drop_zero];rw [<- List.map_take]
  congr 1
  rcases Nat.le_total most l.length with h | h
  ·rw [Nat.min_eq_left h]
  ·rw [Nat.min_eq_right h, List.take_of_length_le h, List.take_of_length_le (Nat.le_refl _)]
 have e3 : (l.take most).length <= most := by rw [List.length_take]; omega
 conv => whnf
 (refine goA ?_; try with_reducible exact trivial)
 rw [e1, e2];generalize l.take most = L at *;refine ⟨⟨by unfold maxLen; omega, by omega⟩, ?_⟩;conv => whnf
 rfl
theorem jB2 (l : List Int) : ∀ d, jzg l d /\ jzH l d
 | 0 => ⟨jzN l 0 fun e h => by omega, jAZ l 0 (jzN l 0 fun e h => by omega)⟩
 | d + 1 => by
  have h1 : jzg l (d + 1) := jzN l (d + 1) fun e h => by
   obtain rfl : d = e := by omega
   exact (jB2 l d).2
  exact ⟨h1, jAZ l (d + 1) h1⟩
def hnG (l : List Int) (j i : Nat) : Int := match j with
 | 0 => 0
 | 1 => 1
 | 2 => 2 + pk l (i + 1) 8
 | _ => 10 + pk l (i + 1 + 1) 30
inductive PCh (l : List Int) : Nat -> Nat -> List (Int × Nt) -> Prop
 | nil (i : Nat) : PCh l 4 i []
 | skip (j i : Nat) (hs : List (Int × Nt)) (hj : j < 4) (hi : i <= 900000000) (hp : pk l i 5 = 0) (k : PCh l (j + 1) (i + 1) hs) : PCh l j i hs
 | take (j i i2 : Nat) (b : Nt) (hs : List (Int × Nt)) (hj : j < 4) (hi : i <= 900000000) (hp : 0 < pk l i 5) (h : Spec Tryz.prog 37 [bxG l (i + 1 + 1 + 1)] [.box 0 0, .v (.int .i64 2), .v (.int .i64 3)] fun o r => o = [bxG l i2] /\ r = .agg (ntA b)) (k : PCh l (j + 1) i2 hs) : PCh l j i ((hnG l j i, b) :: hs)
def EK (b : Nt) : Prop := ∃ k, b = jba k /\ k.length <= 3 /\ ∀ s ∈ k, ES 2 s
def loG : Nat -> Int
 | 0 => 0
 | 1 => 1
 | 2 => 2
 | 3 => 10
 | _ => 40
def EHs (j : Nat) (hs : List (Int × Nt)) : Prop := (∀ h ∈ hs, loG j <= h.1 /\ h.1 < 40 /\ EK h.2) /\ hs.Pairwise (fun a b => a.1 < b.1) /\ hs.length + j <= 4
theorem jBf (c : Nat) {n : Nat} (h : n <= 3) : (n = 0 /\ c * n = 0) ∨ (n ≠ 0 /\ c * n <= 3 * c) := by
 rcases (by omega : n = 0 ∨ n = 1 ∨ n = 2 ∨ n = 3) with rfl | rfl | rfl | rfl <;> omega
theorem jry (l : List Int) (hl : l.length <= 70) : ∀ (k j i : Nat), j + k = 4 -> i + k * 5000 <= 800000000 -> ∃ hs, EHs j hs /\ (∀ κ, 1 <= κ -> κ <= 7 -> wHs κ hs + phi κ i <= (4 * κ + 12) * 70 + 6 * κ + 18) /\ PCh l j i hs
 | 0, j, i, hj, hb => by
  obtain rfl : j = 4 := by omega
  exact ⟨[], ⟨by simp, .nil, by decide⟩, fun κ ka kb => by have := (jne κ i).1; show 0 + phi κ i <= _; omega, .nil i⟩
 | k + 1, j, i, hj, hb => by
  rw [Nat.succ_mul] at hb
  have hjs : j = 0 ∨ j = 1 ∨ j = 2 ∨ j = 3 := by omega
  have hlo : loG j <= loG (j + 1) := by rcases hjs with rfl | rfl | rfl | rfl <;> decide
  by_cases hp : pk l i 5 = 0
  ·obtain ⟨hs, ⟨e1, e2, e3⟩, w1, hc⟩ := jry l hl k (j + 1) (i + 1) (by omega) (by omega)
   exact ⟨hs, ⟨fun h hh => ⟨by have := (e1 h hh).1; omega, (e1 h hh).2⟩, e2, by omega⟩, fun κ ka kb => by have := (jde κ i).1; have w1 := w1 κ ka kb; omega, .skip _ _ _ (by omega) (by omega) hp hc⟩
  ·have hS : bS 2 = 1270 := rfl
   have ho := jhp l i 5 hl
   obtain ⟨b, i2, q1, q2, g1, g2, ⟨w2, w3⟩, hs⟩ := (jB2 l 2).2 hl (i + 1 + 1 + 1) 3 2 rfl (by decide) (by decide) (by decide) (by omega)
   obtain ⟨hs2, ⟨e1, e2, e3⟩, w1, hc⟩ := jry l hl k (j + 1) i2 (by omega) (by omega)
   have hn : loG j <= hnG l j i /\ hnG l j i < loG (j + 1) := by
    have p8 := jdE l (i + 1) (m := 8) (by decide)
    have p30 := jdE l (i + 1 + 1) (m := 30) (by decide)
    rcases hjs with rfl | rfl | rfl | rfl <;> simp only [loG, hnG] <;> omega
   have hl4 : loG (j + 1) <= 40 := by rcases hjs with rfl | rfl | rfl | rfl <;> decide
   refine ⟨_, ⟨fun h hh => ?_, List.pairwise_cons.2 ⟨fun b hb => ?_, e2⟩, by rw [List.length_cons]; omega⟩, fun κ ka kb => by have p0 := jde κ i; have p1 := jde κ (i + 1); have p2 := jde κ (i + 1 + 1); have p3 := jde κ (i + 1 + 1 + 1); have p4 := jne κ i; have p5 := jne κ (i + 1 + 1 + 1 + 1); have w1 := w1 κ ka kb; have w2 := w2 κ ka kb; have hm := jBf (4 + 4 * κ) q1; rw [wHs, jm3]; omega, .take j i i2 (jba b) hs2 (by omega) (by omega) (by omega) hs hc⟩
   ·rcases List.mem_cons.1 hh with rfl | hh
    ·exact ⟨hn.1, by simp only; omega, b, rfl, q1, q2⟩
    ·exact ⟨by have := (e1 h hh).1; omega, (e1 h hh).2⟩
   ·have := (e1 b hb).1
    simp only; omega
def duL : List ByteArray := [⟨#[100]⟩, ⟨#[100, 100, 49]⟩]
def voL : List ByteArray := [⟨#[118]⟩, ⟨#[119, 50]⟩]
def GU (u : Ut) : Prop := u.du = duL /\ u.vo = voL /\ EHs 0 u.on
def GW (u : Ut) : Prop := GU u /\ ∀ κ, 1 <= κ -> κ <= 7 -> wHs κ u.on <= (4 * κ + 12) * 70 + 6 * κ + 18
set_option maxHeartbeats 1000000 in
theorem jxi (l : List Int) : ∃ u, GW u /\ Spec Tryz.prog 13 [] [.sl 1 l.length (jfs l)] fun _ r => r = .agg (utA u) := by
 have hin := jAd l 70 (by decide)
 obtain ⟨hs, hE, hW, hc⟩ := jry (l.take 70) (by rw [List.length_take]; omega) 4 0 0 rfl (by decide)
 refine ⟨⟨duL, voL, hs⟩, ⟨⟨rfl, rfl, hE⟩, fun κ ka kb => by have := hW κ ka kb; show wHs κ hs <= _; omega⟩, ?_⟩;clear hW
 have hlen := hE.2.2
 generalize l.take 70 = L at *;refine ja5 (ja2 jzV (fun _ => [1]) 0) (fun _ _ h => h) Tryz.func13 rfl (by kernel_rfl) rfl (by kernel_rfl) ?_;intro hok;conv => whnf
 refine ja9 [] rfl (fun _ => hin) ?_;rintro r rfl;conv => whnf
 refine jcT 59 5 [] [(2, 2)] ?_;conv => whnf
 refine ⟨trivial, ?_⟩;conv => whnf
 refine jaj [2, 3, 4] ?_;conv => whnf
 refine jaL (fun x : Nat × Nat × List (Int × Nt) × List (Int × Nt) => [(5, .v (.int .i64 x.1))]) (fun x => [jiq, bxG L x.2.1, [.own 0, .own 1, .own 2]]) (fun x => [.live 9 1 2 (txA duL), .live 9 1 2 (txA voL), .live 59 5 x.2.2.1.length (jkr x.2.2.1)]) (fun x => x.2.2.1 ++ x.2.2.2 = hs /\ PCh L x.1 x.2.1 x.2.2.2) (fun x => 4 - x.1) (0, 0, [], hs) ?_ ⟨rfl, hc⟩ ?_
 ·repeat' constructor
  show Row.live _ _ _ _ = Row.live _ 5 0 (jkr [])
  rw [jnn]
 rintro ⟨j, i, acc, rem⟩ ⟨hacc, hch⟩
 simp only at hacc hch
 have hal : acc.length <= 4 := by
  have := congrArg List.length hacc
  rw [List.length_append] at this;omega
 clear hin hc;conv => whnf
 cases hch with
 | nil =>
  conv => whnf
  rw [List.append_nil] at hacc;rw [<- hacc];rfl
 | skip _ _ _ hj hi hp hch =>
  have hpk := jdu L i 5 (by omega) (by decide)
  rw [hp] at hpk;rw [decide_eq_true (show (j : Int) < 4 by omega)];conv => whnf
  refine jaa 1 [] rfl rfl rfl rfl (fun _ => hpk) ?_;rintro o r ⟨ho, rfl⟩;cases ho;conv => whnf
  refine ⟨jaI (by omega), ?_⟩;conv => whnf
  refine ⟨(j + 1, i + 1, acc, rem), jas [0, 1, 2] ?_, ⟨hacc, hch⟩, by simp only; omega⟩;conv => whnf
  repeat' constructor
 | take _ _ i2 b rem hj hi hp hs hch =>
  have hpk := jdu L i 5 (by omega) (by decide)
  have hp8 := jdu L (i + 1) 8 (by omega) (by decide)
  have hp30 := jdu L (i + 1 + 1) 30 (by omega) (by decide)
  have l8 := jdE L (i + 1) (m := 8) (by decide)
  have l30 := jdE L (i + 1 + 1) (m := 30) (by decide)
  obtain ⟨nn, hnn⟩ : ∃ nn, hnG L j i = nn := ⟨_, rfl⟩
  rw [hnn] at hacc;unfold hnG at hnn;generalize pk L i 5 = k5 at *;generalize pk L (i + 1) 8 = k8 at *;generalize pk L (i + 1 + 1) 30 = k30 at *;rw [decide_eq_true (show (j : Int) < 4 by omega)];conv => whnf
  refine jaa 1 [] rfl rfl rfl rfl (fun _ => hpk) ?_;rintro o r ⟨ho, rfl⟩;cases ho;conv => whnf
  rw [decide_eq_true (show 0 < (k5 : Int) by omega)];conv => whnf
  refine jaa 1 [] rfl rfl rfl rfl (fun _ => hp8) ?_;rintro o r ⟨ho, rfl⟩;cases ho;conv => whnf
  refine ⟨jaI (by omega), ?_⟩;conv => whnf
  refine jaa 1 [] rfl rfl rfl rfl (fun _ => hp30) ?_;rintro o r ⟨ho, rfl⟩;cases ho;conv => whnf
  refine ⟨jaI (by omega), ?_⟩;conv => whnf
  refine ⟨⟨by omega, by omega⟩, ?_⟩
  rcases (by omega : j = 0 ∨ j = 1 ∨ j = 2 ∨ j = 3) with rfl | rfl | rfl | rfl
  all_goals
   simp only at hnn
   conv => whnf
   refine jaa 1 [] rfl rfl rfl rfl (fun _ => hs) ?_;rintro o r ⟨ho, rfl⟩;cases ho;conv => whnf
   refine ⟨⟨by simp only; unfold maxLen; omega, by simp only; omega⟩, ?_⟩;conv => whnf
   refine ⟨jaI (by simp only; omega), ?_⟩;conv => whnf
   subst hnn;refine ⟨(_, i2, acc ++ [(_, b)], rem), jas [0, 1, 2] ?_, ⟨by simp only; rw [List.append_assoc]; exact hacc, hch⟩, by simp only; omega⟩;conv => whnf
   repeat' constructor
   rw [List.length_append, jkN];rfl
def jmb (n : Nat) : List UInt8 := if h : n = 0 then [] else jmb (n / 10) ++ [UInt8.ofNat (48 + n % 10)]
decreasing_by omega
theorem jdd : jmb 0 = [] := by unfold jmb; simp
theorem jcl {n : Nat} (h : n ≠ 0) : jmb n = jmb (n / 10) ++ [UInt8.ofNat (48 + n % 10)] := by
 rw [jmb]; simp [h]
def jb3 (n : Nat) : List UInt8 := if n = 0 then [48] else jmb n
theorem jjw : ∀ (k n : Nat), n < 10 ^ k -> (jmb n).length <= k
 | k, 0, _ => by rw [jdd]; simp
 | 0, n + 1, h => by simp at h
 | k + 1, n + 1, h => by
  rw [jcl (by omega), List.length_append]
  have := jjw k ((n + 1) / 10) (by rw [Nat.pow_succ] at h; omega)
  simp only [List.length_cons, List.length_nil]; omega
def digB : ByteArray := ⟨#[48, 49, 50, 51, 52, 53, 54, 55, 56, 57]⟩
theorem jw7 (k : Nat) (i j : Nat) (hi : i = k % 10) (hj : j = k % 10 + 1) : digB.extract i j = bs [UInt8.ofNat (48 + k % 10)] := by
 subst hi; subst hj
 have h : ∀ d, d < 10 -> digB.extract d (d + 1) = bs [UInt8.ofNat (48 + d)] := by decide +kernel
 exact h _ (Nat.mod_lt _ (by omega))
theorem jyh (a b : List UInt8) : bs a ++ bs b = bs (a ++ b) := by
 apply ByteArray.ext
 apply Array.toList_inj.1
 simp [bs]
theorem jc2 (n : Nat) (hn : n < 1000000000000) : Spec Tryz.prog 21 [] [.v (.int .i64 n)] fun _ r => r = jaT (bs (jb3 n)) := by
 have hlen := jjw 12 n hn
 refine ja5 (ja2 jak xs0 0) (fun _ _ h => h) Tryz.func21 rfl (by kernel_rfl) rfl (by kernel_rfl) ?_;intro hok;conv => whnf
 by_cases h0 : n = 0
 ·subst h0
  (refine goA ?_; try with_reducible exact trivial)
  rfl
 ·(refine goA ?_; try with_reducible exact trivial)
  refine jaj [0, 3] ?_;conv => whnf
  refine jaL (fun x : Nat × List UInt8 => [(4, .v (.string (bs x.2))), (5, .v (.int .i64 x.1))]) (fun _ => []) (fun _ => []) (fun x => x.1 <= n /\ jmb x.1 ++ x.2 = jmb n /\ x.2.length <= 12) (fun x => x.1) (n, []) ?_ ⟨Nat.le_refl _, by simp, by simp⟩ ?_
  ·repeat' constructor
  ·rintro ⟨k, l⟩ ⟨hk, hd, hl⟩
   simp only at hk hd hl
   have hll : (jmb k).length + l.length <= 12 := by
    have := congrArg List.length hd
    rw [List.length_append] at this; omega
   conv => whnf
   by_cases hk0 : k = 0
   ·subst hk0;rw [jdd, List.nil_append] at hd
    (refine goA ?_; try with_reducible exact trivial)
    have : jb3 n = l := by unfold jb3; rw [if_neg h0, hd]
    rw [this]; rfl
   ·have hm : (((k, l).1 : Nat) : Int).tmod 10 = ((k % 10 : Nat) : Int) := by
     show ((k : Int)).tmod 10 = _
     rw [Int.tmod_eq_emod_of_nonneg (by omega)]; omega
    have hq : (((k, l).1 : Nat) : Int).tdiv 10 = ((k / 10 : Nat) : Int) := by
     show ((k : Int)).tdiv 10 = _
     rw [Int.tdiv_eq_ediv_of_nonneg (by omega)]; omega
    (refine goA ?_; try with_reducible exact trivial)
    rw [hm];conv => whnf
    (refine goA ?_; try with_reducible exact trivial)
    refine ⟨⟨by omega, by omega, by show _ <= (10 : Int); omega⟩, ?_⟩;rw [show (⟨#[48, 49, 50, 51, 52, 53, 54, 55, 56, 57]⟩ : ByteArray).extract (Int.toNat ((k % 10 : Nat) : Int)) (Int.toNat (((k % 10 : Nat) : Int) + 1)) = bs [UInt8.ofNat (48 + k % 10)] from jw7 k _ _ (by omega) (by omega)];conv => whnf
    refine ⟨by rw [jbz, jbz]; show 1 + l.length <= maxLen; unfold maxLen; omega, ?_⟩;rw [show bs [UInt8.ofNat (48 + k % 10)] ++ bs ((k, l).2) = bs (UInt8.ofNat (48 + k % 10) :: l) from jyh _ _];conv => whnf
    (refine goA ?_; try with_reducible exact trivial)
    rw [hq]
    have hd2 : jmb (k / 10) ++ UInt8.ofNat (48 + k % 10) :: l = jmb n := by
     rw [<- hd, jcl hk0]; simp
    repeat ((with_reducible refine And.intro ?_ ?_); (focus (first | omega | (with_reducible refine jaI ?_; (first | omega | (simp only [List.length_append, List.length_cons, List.length_nil, List.length_map, ByteArray.size_append]; omega) | (dsimp only; omega))) | (with_reducible refine jox ?_; (first | omega | (simp only [List.length_append, List.length_cons, List.length_nil, List.length_map, ByteArray.size_append]; omega) | (dsimp only; omega))) | ((fail_if_success (with_reducible refine jox ?_)); decide) | (simp only [List.length_append, List.length_cons, List.length_nil, List.length_map, ByteArray.size_append]; omega) | (dsimp only; omega) | ((with_reducible refine jaI ?_); dsimp only; omega))); (conv => whnf))
    refine ⟨(k / 10, UInt8.ofNat (48 + k % 10) :: l), jeN ?_, ⟨by show k / 10 <= n; omega, hd2, ?_⟩, by show k / 10 < k; omega⟩
    ·repeat' constructor
    ·have := congrArg List.length hd2
     rw [List.length_append] at this
     show (UInt8.ofNat (48 + k % 10) :: l).length <= 12
     omega
theorem jb5 (n : Nat) (hn : n < 1000000000000) : (bs (jb3 n)).size <= 12 := by
 rw [jbz];unfold jb3
 split
 ·decide
 ·exact jjw 12 n hn
theorem szD (l : Array UInt8) : (⟨l⟩ : ByteArray).size = l.size := rfl
theorem jgq (c : UInt8) : Spec Tryz.prog 56 [] [.v (.int .u8 (c.toNat : Int))] fun _ r => r = jbE (jbP c) := by
 have hm : 0 <= (c.toNat : Int) /\ (c.toNat : Int) <= 255 := by have := c.toNat_lt; omega
 unfold jbP isL isD;generalize (c.toNat : Int) = n at *;refine ja5 (ja2 jak xs0 0) (fun _ _ h => h) Tryz.func56 rfl (by kernel_rfl) rfl (by kernel_rfl) ?_;intro _;conv => whnf
 by_cases h1 : 97 <= n
 ·rw [decide_eq_true h1];conv => whnf
  by_cases h2 : n <= 122
  ·rw [decide_eq_true h2];conv => whnf
   rfl
  ·rw [decide_eq_false h2];conv => whnf
   rw [decide_eq_true (show 48 <= n by omega)];conv => whnf
   rw [decide_eq_false (show ¬ n <= 57 by omega)];conv => whnf
   rfl
 ·rw [decide_eq_false h1];conv => whnf
  by_cases h3 : 48 <= n
  ·rw [decide_eq_true h3];conv => whnf
   rcases Decidable.em (n <= 57) with h4 | h4
   ·rw [decide_eq_true h4];conv => whnf
    rfl
   ·rw [decide_eq_false h4];conv => whnf
    rfl
  ·rw [decide_eq_false h3];conv => whnf
   rfl
def jbQ (a : ByteArray) : UInt8 := a.data.toList.getD (a.size - 1) 0
def jaq (a : ByteArray) : UInt8 := a.data.toList.getD 0 0
def ja1 (a b : ByteArray) : ByteArray := if a = ⟨#[]⟩ then a ++ b else if b = ⟨#[]⟩ then a ++ b else if jbP (jbQ a) = false then a ++ b else if jbP (jaq b) = false then a ++ b else a ++ ⟨#[32]⟩ ++ b
theorem jbc {a : ByteArray} (h : a ≠ ⟨#[]⟩) : 0 < a.size := by
 refine Nat.pos_of_ne_zero fun h0 => h ?_
 apply ByteArray.ext
 exact Array.eq_empty_of_size_eq_zero h0
theorem jf6 (a b : ByteArray) (ha : a.size <= 500000000) (hb : b.size <= 400000000) : Spec Tryz.prog 34 [] [jaT a, jaT b] fun _ r => r = jaT (ja1 a b) := by
 have h1 := jgq (jbQ a)
 have h2 := jgq (jaq b)
 unfold ja1;refine ja5 (ja2 jak xs0 0) (fun _ _ h => h) Tryz.func34 rfl (by kernel_rfl) rfl (by kernel_rfl) ?_;intro _;conv => whnf
 by_cases ea : a = ⟨#[]⟩
 ·rw [decide_eq_true ea, if_pos ea];conv => whnf
  refine ⟨by show a.size + b.size <= maxLen; unfold maxLen; omega, ?_⟩;conv => whnf
  rfl
 ·rw [decide_eq_false ea, if_neg ea];conv => whnf
  by_cases eb : b = ⟨#[]⟩
  ·rw [decide_eq_true eb, if_pos eb];conv => whnf
   refine ⟨by show a.size + b.size <= maxLen; unfold maxLen; omega, ?_⟩;conv => whnf
   rfl
  ·rw [decide_eq_false eb, if_neg eb]
   have sa := jbc ea
   have sb := jbc eb
   conv => whnf
   refine ⟨jaI (by omega), ?_⟩;conv => whnf
   refine ⟨⟨by omega, by omega⟩, ?_⟩;rw [show a.data.toList.getD (Int.toNat ((a.size : Int) - 1)) 0 = jbQ a from by unfold jbQ; congr 1; omega];generalize jbP (jbQ a) = p at *
   (refine ja9 [] rfl (fun _ => h1) ?_; rintro r rfl; conv => whnf)
   cases p
   ·rw [if_pos rfl];conv => whnf
    refine ⟨by show a.size + b.size <= maxLen; unfold maxLen; omega, ?_⟩;conv => whnf
    rfl
   ·rw [if_neg (by decide)];conv => whnf
    refine ⟨⟨by omega, by omega⟩, ?_⟩;rw [show b.data.toList.getD (Int.toNat 0) 0 = jaq b from rfl];generalize jbP (jaq b) = q at *
    (refine ja9 [] rfl (fun _ => h2) ?_; rintro r rfl; conv => whnf)
    cases q
    ·rw [if_pos rfl];conv => whnf
     refine ⟨by show a.size + b.size <= maxLen; unfold maxLen; omega, ?_⟩;conv => whnf
     rfl
    ·rw [if_neg (by decide)];conv => whnf
     refine ⟨by show a.size + 1 <= maxLen; unfold maxLen; omega, ?_⟩;conv => whnf
     refine ⟨by rw [ByteArray.size_append]; show a.size + 1 + b.size <= maxLen; unfold maxLen; omega, ?_⟩;conv => whnf
     rfl
theorem ja0 (a b : ByteArray) : (ja1 a b).size <= a.size + b.size + 1 := by
 have h : (⟨#[32]⟩ : ByteArray).size = 1 := rfl
 unfold ja1
 repeat' split
 all_goals (simp only [ByteArray.size_append]; omega)
def tsz (l : List ByteArray) : Nat := (l.map fun x => x.size + 1).sum
def jb4 (l : List ByteArray) : ByteArray := l.foldl ja1 ⟨#[]⟩
theorem jaw (x : ByteArray) (l : List ByteArray) : tsz (x :: l) = (x.size + 1) + tsz l := by unfold tsz; simp
theorem jk2 (l : List ByteArray) (x : ByteArray) : tsz (l ++ [x]) = tsz l + (x.size + 1) := by unfold tsz; simp
theorem jf3 (l : List ByteArray) (x : ByteArray) : jb4 (l ++ [x]) = ja1 (jb4 l) x := by unfold jb4; rw [List.foldl_append]; rfl
theorem ju5 (l : List ByteArray) (j : Nat) : tsz (l.take j) <= tsz l := by
 have : tsz l = tsz (l.take j) + tsz (l.drop j) := by
  unfold tsz;rw [<- List.sum_append, <- List.map_append, List.take_append_drop]
 omega
theorem jvV {l : List ByteArray} {x : ByteArray} (h : x ∈ l) : x.size + 1 <= tsz l := by
 induction l with
 | nil => cases h
 | cons y l ih =>
  rw [jaw]
  rcases List.mem_cons.1 h with rfl | h
  ·omega
  ·have := ih h; omega
theorem jwR (l : List ByteArray) : l.length <= tsz l := by
 induction l with
 | nil => exact Nat.zero_le _
 | cons x l ih => rw [jaw, List.length_cons]; omega
theorem jhg (l : List ByteArray) : ∀ j, j <= l.length -> (jb4 (l.take j)).size <= tsz (l.take j)
 | 0, _ => by rw [List.take_zero]; exact Nat.zero_le _
 | j + 1, h => by
  have ih := jhg l j (by omega)
  rw [List.take_succ_eq_append_getElem (by omega), jf3, jk2]
  have := ja0 (jb4 (l.take j)) (l[j]'(by omega))
  omega
theorem jb2 (l : List ByteArray) : (jb4 l).size <= tsz l := by
 have := jhg l l.length (Nat.le_refl _)
 rwa [List.take_length] at this
theorem jbn (l : List ByteArray) (h : tsz l <= 300000000) : Spec Tryz.prog 54 [] [.sl 1 l.length (jdM l)] fun _ r => r = jaT (jb4 l) := by
 have hln := jwR l
 refine ja5 (ja2 jak xs0 0) (fun _ _ h => h) Tryz.func54 rfl (by kernel_rfl) rfl (by kernel_rfl) ?_;intro _;conv => whnf
 refine jaj [0] ?_;conv => whnf
 refine jaL (fun j : Nat => [(3, jaT (jb4 (l.take j))), (4, .v (.int .i64 j))]) (fun _ => []) (fun _ => []) (fun j => j <= l.length) (fun j => l.length - j) 0 ?_ (Nat.zero_le _) ?_
 ·repeat' constructor
 intro j hj;conv => whnf
 by_cases hlt : j < l.length
 ·rw [decide_eq_true (show (j : Int) < l.length by omega)]
  have hr : jac 1 j (jdM l) = [jaT l[j]] := jbI jaT l j hlt
  have h1 := jhg l j hj
  have h2 := ju5 l j
  have h3 := jvV (List.getElem_mem hlt)
  have hg := jf6 (jb4 (l.take j)) l[j] (by omega) (by omega)
  have e : jb4 (l.take (j + 1)) = ja1 (jb4 (l.take j)) l[j] := by rw [List.take_succ_eq_append_getElem hlt, jf3]
  generalize l[j] = x at *;conv => whnf
  refine ⟨by omega, ?_⟩;conv => whnf
  (generalize hrq : jac _ _ (jdM l) = rq; obtain rfl : rq = [jaT x] := hrq.symm.trans (hr); clear hrq; conv => whnf)
  (refine ja9 [] rfl (fun _ => hg) ?_; rintro r rfl; conv => whnf)
  refine ⟨jaI (by omega), ?_⟩;conv => whnf
  refine ⟨j + 1, jas [] ?_, hlt, by omega⟩;conv => whnf
  rw [e]
  repeat' constructor
 ·rw [decide_eq_false (show ¬ (j : Int) < l.length by omega)];conv => whnf
  rw [List.take_of_length_le (by omega)];rfl
def jab (k : Int) (s : ByteArray) : Int := if k = 17 then (if s = pNot then 3 else 7) else if k ≠ 18 then 8 else if s = pOr then 1 else if s = jec then 2 else if s = jcJ then 5 else if s = pMinus then 5 else if s = jbG then 6 else if s = jaM then 6 else 4
theorem jf7 (k : Int) (s : ByteArray) : 1 <= jab k s /\ jab k s <= 8 := by
 unfold jab
 repeat' split
 all_goals decide
theorem jdn (f : Nt) : Spec Tryz.prog 147 [] [.agg (ntA f)] fun _ r => r = jao (jab f.k f.s) := by
 unfold jab;refine ja5 (ja2 jak xs0 0) (fun _ _ h => h) Tryz.func147 rfl (by kernel_rfl) rfl (by kernel_rfl) ?_;intro _;conv => whnf
 by_cases h17 : f.k = 17
 ·rw [if_pos h17, decide_eq_true h17];conv => whnf
  by_cases hn : f.s = pNot
  ·rw [if_pos hn, decide_eq_true (p := f.s = ⟨_⟩) hn];conv => whnf
   rfl
  ·rw [if_neg hn, decide_eq_false (p := f.s = ⟨_⟩) hn];conv => whnf
   rfl
 rw [if_neg h17, decide_eq_false h17];conv => whnf
 by_cases h18 : f.k = 18
 ·rw [if_neg (show ¬ f.k ≠ 18 from fun h => h h18), decide_eq_true h18];conv => whnf
  by_cases g1 : f.s = pOr
  ·rw [if_pos g1, decide_eq_true (p := f.s = ⟨_⟩) g1];conv => whnf
   rfl
  rw [if_neg g1, decide_eq_false (p := f.s = ⟨_⟩) g1];conv => whnf
  by_cases g2 : f.s = jec
  ·rw [if_pos g2, decide_eq_true (p := f.s = ⟨_⟩) g2];conv => whnf
   rfl
  rw [if_neg g2, decide_eq_false (p := f.s = ⟨_⟩) g2];conv => whnf
  by_cases g3 : f.s = jcJ
  ·rw [if_pos g3, decide_eq_true (p := f.s = ⟨_⟩) g3];conv => whnf
   rfl
  rw [if_neg g3, decide_eq_false (p := f.s = ⟨_⟩) g3];conv => whnf
  by_cases g4 : f.s = pMinus
  ·rw [if_pos g4, decide_eq_true (p := f.s = ⟨_⟩) g4];conv => whnf
   rfl
  rw [if_neg g4, decide_eq_false (p := f.s = ⟨_⟩) g4];conv => whnf
  by_cases g5 : f.s = jbG
  ·rw [if_pos g5, decide_eq_true (p := f.s = ⟨_⟩) g5];conv => whnf
   rfl
  rw [if_neg g5, decide_eq_false (p := f.s = ⟨_⟩) g5];conv => whnf
  by_cases g6 : f.s = jaM
  ·rw [if_pos g6, decide_eq_true (p := f.s = ⟨_⟩) g6];conv => whnf
   rfl
  rw [if_neg g6, decide_eq_false (p := f.s = ⟨_⟩) g6];conv => whnf
  rfl
 ·rw [if_pos h18, decide_eq_false h18];conv => whnf
  rfl
def jeF (p req : Int) (full : Bool) (b : ByteArray) : ByteArray := if p < req then pLp ++ b ++ pRp else if full = true then (if p < 8 then pLp ++ b ++ pRp else b) else b
def noG : Int -> ByteArray := fun _ => eB
def tfB (n : Int) : ByteArray := [jdO, jh7].getD (jdz n 2).toNat eB
def jzZ (k n : Int) (s : ByteArray) (g : List (Int -> ByteArray)) : ByteArray :=
 if k = 12 then bs (jb3 n.toNat)
 else if k = 13 then tfB n
 else if k = 16 then jb4 [wDraw, pLp, (g.getD 0 noG) 1, pRp]
 else if k = 17 then jb4 [s, (g.getD 0 noG) (jab k s)]
 else if k = 18 then jb4 [(g.getD 0 noG) (if jab k s = 4 then 5 else jab k s), s, (g.getD 1 noG) (jab k s + 1)]
 else s
mutual
def shN (full : Bool) : Nt -> Int -> ByteArray
 | .mk k n s kids, req => jeF (jab k s) req full (jzZ k n s (shL full kids))
def shL (full : Bool) : List Nt -> List (Int -> ByteArray)
 | [] => []
 | f :: l => shN full f :: shL full l
end
theorem jdq (p req : Int) (full : Bool) (b : ByteArray) : (jeF p req full b).size <= b.size + 2 := by
 unfold jeF
 have h1 : pLp.size = 1 := rfl
 have h2 : pRp.size = 1 := rfl
 repeat' split
 all_goals (try simp only [ByteArray.size_append]); omega
def SH (full : Bool) (m : Nat) (f : Nt) : Prop := ∀ req : Int, 0 <= req -> req <= 9 -> (shN full f req).size <= m /\ Spec Tryz.prog 123 [] [.agg (ntA f), jao req, jbE full] fun _ r => r = jaT (shN full f req)
theorem jtb (f : Nt) : jac 4 0 (jaS [f]) = ntA f := jbs [f] 0 (by simp)
theorem jnm (f g : Nt) : jac 4 0 (jaS [f, g]) = ntA f := jbs [f, g] 0 (by simp)
theorem joR (f g : Nt) : jac 4 1 (jaS [f, g]) = ntA g := jbs [f, g] 1 (by simp)
def jmX (id : Nat) : Tr := match Nat.beq id 11 with | true => .q 0 3 (.q 1 0 (.q 2 3 (.q 3 0 (.q 4 3 (.q 5 0 (.q 6 3 (.q 7 3 (.alt 8 1 (.alt 9 1 (.alt 10 1 (.q 11 3 (.nil)) (.nil)) (.nil)) (.nil))))))))) | false => match Nat.beq id 16 with | true => .q 0 3 (.q 1 0 (.q 2 3 (.q 3 0 (.q 4 3 (.q 5 3 (.q 7 3 (.q 8 0 (.q 9 3 (.q 10 0 (.q 11 3 (.q 12 0 (.q 13 3 (.q 14 3 (.q 15 3 (.alt 6 1 (.alt 16 1 (.alt 17 1 (.alt 18 1 (.q 19 3 (.nil)) (.nil)) (.nil)) (.nil)) (.nil)))))))))))))))) | false => .nil
theorem jua (full : Bool) (n : Int) (hn : 0 <= n /\ n < 1000000000000) : SH full 14 (.mk 12 n eB []) := fun req h1 h2 => by
 have hsz : (bs (jb3 n.toNat)).size <= 12 := jb5 _ (by omega)
 have e : shN full (.mk 12 n eB []) req = jeF 8 req full (bs (jb3 n.toNat)) := rfl
 rw [e];refine ⟨by have := jdq 8 req full (bs (jb3 n.toNat)); omega, ?_⟩
 have hpr := jdn (.mk 12 n eB [])
 have hdc := jc2 n.toNat (by omega)
 rw [show ((n.toNat : Nat) : Int) = n by omega] at hdc;rw [show jab (Nt.mk 12 n eB []).k (Nt.mk 12 n eB []).s = 8 from rfl] at hpr;generalize bs (jb3 n.toNat) = x at *
 obtain ⟨p, hp⟩ : ∃ p : Int, p = 8 := ⟨_, rfl⟩
 rw [<- hp] at hpr ⊢;unfold jeF;refine ja5 (ja2 jmX xs0 0) (fun _ _ h => h) Tryz.func123 rfl (by kernel_rfl) rfl (by kernel_rfl) ?_;intro hok;conv => whnf
 (refine ja9 [] rfl (fun _ => hpr) ?_; rintro r rfl; conv => whnf)
 (refine ja9 [] rfl (fun _ => hdc) ?_; rintro r rfl; conv => whnf)
 by_cases hlt : p < req
 ·rw [if_pos hlt, decide_eq_true hlt];conv => whnf
  refine ⟨by (try simp only [ByteArray.size_append, Nt.s, szD, List.size_toArray, List.length_cons, List.length_nil]); unfold maxLen; omega, ?_⟩;conv => whnf
  refine ⟨by (try simp only [ByteArray.size_append, Nt.s, szD, List.size_toArray, List.length_cons, List.length_nil]); unfold maxLen; omega, ?_⟩;conv => whnf
  rfl
 ·rw [if_neg hlt, decide_eq_false hlt]
  cases full with
  | false =>
   conv => whnf
   rfl
  | true =>
   rw [if_pos rfl];conv => whnf
   by_cases h8 : p < 8
   ·rw [if_pos h8, decide_eq_true h8];conv => whnf
    refine ⟨by (try simp only [ByteArray.size_append, Nt.s, szD, List.size_toArray, List.length_cons, List.length_nil]); unfold maxLen; omega, ?_⟩;conv => whnf
    refine ⟨by (try simp only [ByteArray.size_append, Nt.s, szD, List.size_toArray, List.length_cons, List.length_nil]); unfold maxLen; omega, ?_⟩;conv => whnf
    rfl
   ·rw [if_neg h8, decide_eq_false h8];conv => whnf
    rfl
theorem jrk (full : Bool) (k : Int) (hk : k = 14 ∨ k = 15) (s : ByteArray) (hs : s.size <= 12) : SH full 14 (.mk k 0 s []) := fun req h1 h2 => by
 have e : shN full (.mk k 0 s []) req = jeF 8 req full s := by rcases hk with rfl | rfl <;> rfl
 rw [e];refine ⟨by have := jdq 8 req full s; omega, ?_⟩
 have hpr := jdn (.mk k 0 s [])
 rw [show jab (Nt.mk k 0 s []).k (Nt.mk k 0 s []).s = 8 by rcases hk with rfl | rfl <;> rfl] at hpr
 obtain ⟨p, hp⟩ : ∃ p : Int, p = 8 := ⟨_, rfl⟩
 rw [<- hp] at hpr ⊢;unfold jeF
 rcases hk with rfl | rfl
 ·refine ja5 (ja2 jmX xs0 0) (fun _ _ h => h) Tryz.func123 rfl (by kernel_rfl) rfl (by kernel_rfl) ?_;intro hok;conv => whnf
  (refine ja9 [] rfl (fun _ => hpr) ?_; rintro r rfl; conv => whnf)
  by_cases hlt : p < req
  ·rw [if_pos hlt, decide_eq_true hlt];conv => whnf
   refine ⟨by (try simp only [ByteArray.size_append, Nt.s, szD, List.size_toArray, List.length_cons, List.length_nil]); unfold maxLen; omega, ?_⟩;conv => whnf
   refine ⟨by (try simp only [ByteArray.size_append, Nt.s, szD, List.size_toArray, List.length_cons, List.length_nil]); unfold maxLen; omega, ?_⟩;conv => whnf
   rfl
  ·rw [if_neg hlt, decide_eq_false hlt]
   cases full with
   | false =>
    conv => whnf
    rfl
   | true =>
    rw [if_pos rfl];conv => whnf
    by_cases h8 : p < 8
    ·rw [if_pos h8, decide_eq_true h8];conv => whnf
     refine ⟨by (try simp only [ByteArray.size_append, Nt.s, szD, List.size_toArray, List.length_cons, List.length_nil]); unfold maxLen; omega, ?_⟩;conv => whnf
     refine ⟨by (try simp only [ByteArray.size_append, Nt.s, szD, List.size_toArray, List.length_cons, List.length_nil]); unfold maxLen; omega, ?_⟩;conv => whnf
     rfl
    ·rw [if_neg h8, decide_eq_false h8];conv => whnf
     rfl
 ·refine ja5 (ja2 jmX xs0 0) (fun _ _ h => h) Tryz.func123 rfl (by kernel_rfl) rfl (by kernel_rfl) ?_;intro hok;conv => whnf
  (refine ja9 [] rfl (fun _ => hpr) ?_; rintro r rfl; conv => whnf)
  by_cases hlt : p < req
  ·rw [if_pos hlt, decide_eq_true hlt];conv => whnf
   refine ⟨by (try simp only [ByteArray.size_append, Nt.s, szD, List.size_toArray, List.length_cons, List.length_nil]); unfold maxLen; omega, ?_⟩;conv => whnf
   refine ⟨by (try simp only [ByteArray.size_append, Nt.s, szD, List.size_toArray, List.length_cons, List.length_nil]); unfold maxLen; omega, ?_⟩;conv => whnf
   rfl
  ·rw [if_neg hlt, decide_eq_false hlt]
   cases full with
   | false =>
    conv => whnf
    rfl
   | true =>
    rw [if_pos rfl];conv => whnf
    by_cases h8 : p < 8
    ·rw [if_pos h8, decide_eq_true h8];conv => whnf
     refine ⟨by (try simp only [ByteArray.size_append, Nt.s, szD, List.size_toArray, List.length_cons, List.length_nil]); unfold maxLen; omega, ?_⟩;conv => whnf
     refine ⟨by (try simp only [ByteArray.size_append, Nt.s, szD, List.size_toArray, List.length_cons, List.length_nil]); unfold maxLen; omega, ?_⟩;conv => whnf
     rfl
    ·rw [if_neg h8, decide_eq_false h8];conv => whnf
     rfl
theorem jrB (full : Bool) (n : Nat) (hn : n < 2) : SH full 14 (.mk 13 n eB []) := fun req h1 h2 => by
 have e : shN full (.mk 13 n eB []) req = jeF 8 req full (tfB n) := rfl
 rw [e]
 have har := jeW n 2 (by decide)
 have hz : jdz n 2 = n := by rcases (by omega : n = 0 ∨ n = 1) with rfl | rfl <;> rfl
 have hsz : (tfB n).size <= 12 := by rcases (by omega : n = 0 ∨ n = 1) with rfl | rfl <;> decide
 refine ⟨by have := jdq 8 req full (tfB n); omega, ?_⟩
 have hpr := jdn (.mk 13 n eB [])
 rw [show jab (Nt.mk 13 n eB []).k (Nt.mk 13 n eB []).s = 8 from rfl] at hpr
 have hr : List.drop (n * 1) ([jdO, jh7].map jaT) = jaT (tfB n) :: List.drop (n + 1) ([jdO, jh7].map jaT) := by
  rcases (by omega : n = 0 ∨ n = 1) with rfl | rfl <;> rfl
 rw [hz] at har;generalize tfB n = x at *
 obtain ⟨p, hp⟩ : ∃ p : Int, p = 8 := ⟨_, rfl⟩
 rw [<- hp] at hpr ⊢;unfold jeF;refine ja5 (ja2 jmX xs0 0) (fun _ _ h => h) Tryz.func123 rfl (by kernel_rfl) rfl (by kernel_rfl) ?_;intro hok;conv => whnf
 (refine ja9 [] rfl (fun _ => hpr) ?_; rintro r rfl; conv => whnf)
 refine ja9 [] rfl (fun _ => har) ?_;rintro r ⟨_, rfl⟩;conv => whnf
 refine ⟨⟨by omega, by omega⟩, ?_⟩;conv => whnf
 generalize hrq : List.drop (Int.toNat (n : Int) * _) _ = rq
 obtain rfl : rq = _ :: _ := hrq.symm.trans hr
 clear hrq;conv => whnf
 by_cases hlt : p < req
 ·rw [if_pos hlt, decide_eq_true hlt];conv => whnf
  refine ⟨by (try simp only [ByteArray.size_append, Nt.s, szD, List.size_toArray, List.length_cons, List.length_nil]); unfold maxLen; omega, ?_⟩;conv => whnf
  refine ⟨by (try simp only [ByteArray.size_append, Nt.s, szD, List.size_toArray, List.length_cons, List.length_nil]); unfold maxLen; omega, ?_⟩;conv => whnf
  rfl
 ·rw [if_neg hlt, decide_eq_false hlt]
  cases full with
  | false =>
   conv => whnf
   rfl
  | true =>
   rw [if_pos rfl];conv => whnf
   by_cases h8 : p < 8
   ·rw [if_pos h8, decide_eq_true h8];conv => whnf
    refine ⟨by (try simp only [ByteArray.size_append, Nt.s, szD, List.size_toArray, List.length_cons, List.length_nil]); unfold maxLen; omega, ?_⟩;conv => whnf
    refine ⟨by (try simp only [ByteArray.size_append, Nt.s, szD, List.size_toArray, List.length_cons, List.length_nil]); unfold maxLen; omega, ?_⟩;conv => whnf
    rfl
   ·rw [if_neg h8, decide_eq_false h8];conv => whnf
    rfl
theorem juD (full : Bool) (m : Nat) (hm : m <= 1000000) (f : Nt) (hf : SH full m f) : SH full (m + 20) (.mk 16 0 eB [f]) := fun req h1 h2 => by
 obtain ⟨hs1, hsp⟩ := hf 1 (by decide) (by decide)
 have e : shN full (.mk 16 0 eB [f]) req = jeF 8 req full (jb4 [wDraw, pLp, shN full f 1, pRp]) := rfl
 rw [e]
 have hpr := jdn (.mk 16 0 eB [f])
 rw [show jab (Nt.mk 16 0 eB [f]).k (Nt.mk 16 0 eB [f]).s = 8 from rfl] at hpr
 have ht : tsz [wDraw, pLp, shN full f 1, pRp] <= m + 10 := by
  rw [jaw, jaw, jaw, jaw]
  have a1 : wDraw.size = 4 := rfl
  have a2 : pLp.size = 1 := rfl
  have a3 : pRp.size = 1 := rfl
  have a4 : tsz [] = 0 := rfl
  omega
 have hal := jbn [wDraw, pLp, shN full f 1, pRp] (by omega)
 have hsz := jb2 [wDraw, pLp, shN full f 1, pRp]
 generalize jb4 [wDraw, pLp, shN full f 1, pRp] = x at *;refine ⟨by have := jdq 8 req full x; omega, ?_⟩;generalize shN full f 1 = y at *
 have hr := jtb f
 obtain ⟨p, hp⟩ : ∃ p : Int, p = 8 := ⟨_, rfl⟩
 rw [<- hp] at hpr ⊢;unfold jeF;refine ja5 (ja2 jmX xs0 0) (fun _ _ h => h) Tryz.func123 rfl (by kernel_rfl) rfl (by kernel_rfl) ?_;intro hok;conv => whnf
 (refine ja9 [] rfl (fun _ => hpr) ?_; rintro r rfl; conv => whnf)
 refine ⟨by simp [Nt.kids], ?_⟩;conv => whnf
 (generalize hrq : jac _ _ (jaS (Nt.mk 16 0 eB [f]).kids) = rq; obtain rfl : rq = ntA f := hrq.symm.trans (hr); clear hrq; conv => whnf)
 (refine ja9 [] rfl (fun _ => hsp) ?_; rintro r rfl; conv => whnf)
 (refine ja9 [0] rfl (fun _ => hal) ?_; rintro r rfl; conv => whnf)
 by_cases hlt : p < req
 ·rw [if_pos hlt, decide_eq_true hlt];conv => whnf
  refine ⟨by (try simp only [ByteArray.size_append, Nt.s, szD, List.size_toArray, List.length_cons, List.length_nil]); unfold maxLen; omega, ?_⟩;conv => whnf
  refine ⟨by (try simp only [ByteArray.size_append, Nt.s, szD, List.size_toArray, List.length_cons, List.length_nil]); unfold maxLen; omega, ?_⟩;conv => whnf
  rfl
 ·rw [if_neg hlt, decide_eq_false hlt]
  cases full with
  | false =>
   conv => whnf
   rfl
  | true =>
   rw [if_pos rfl];conv => whnf
   by_cases h8 : p < 8
   ·rw [if_pos h8, decide_eq_true h8];conv => whnf
    refine ⟨by (try simp only [ByteArray.size_append, Nt.s, szD, List.size_toArray, List.length_cons, List.length_nil]); unfold maxLen; omega, ?_⟩;conv => whnf
    refine ⟨by (try simp only [ByteArray.size_append, Nt.s, szD, List.size_toArray, List.length_cons, List.length_nil]); unfold maxLen; omega, ?_⟩;conv => whnf
    rfl
   ·rw [if_neg h8, decide_eq_false h8];conv => whnf
    rfl
theorem jrd (full : Bool) (m : Nat) (hm : m <= 1000000) (s : ByteArray) (hs : s.size <= 2) (f : Nt) (hf : SH full m f) : SH full (m + 20) (.mk 17 0 s [f]) := fun req h1 h2 => by
 have hp9 := jf7 17 s
 have e : shN full (.mk 17 0 s [f]) req = jeF (jab 17 s) req full (jb4 [s, shN full f (jab 17 s)]) := rfl
 rw [e]
 have hpr := jdn (.mk 17 0 s [f])
 rw [show jab (Nt.mk 17 0 s [f]).k (Nt.mk 17 0 s [f]).s = jab 17 s from rfl] at hpr;generalize jab 17 s = p at *
 obtain ⟨hs1, hsp⟩ := hf p (by omega) (by omega)
 have ht : tsz [s, shN full f p] <= m + 4 := by
  rw [jaw, jaw]
  have a4 : tsz [] = 0 := rfl
  omega
 have hal := jbn [s, shN full f p] (by omega)
 have hsz := jb2 [s, shN full f p]
 generalize jb4 [s, shN full f p] = x at *;refine ⟨by have := jdq p req full x; omega, ?_⟩;generalize shN full f p = y at *
 have hr := jtb f
 unfold jeF;refine ja5 (ja2 jmX xs0 0) (fun _ _ h => h) Tryz.func123 rfl (by kernel_rfl) rfl (by kernel_rfl) ?_;intro hok;conv => whnf
 (refine ja9 [] rfl (fun _ => hpr) ?_; rintro r rfl; conv => whnf)
 refine ⟨by simp [Nt.kids], ?_⟩;conv => whnf
 (generalize hrq : jac _ _ (jaS (Nt.mk 17 0 s [f]).kids) = rq; obtain rfl : rq = ntA f := hrq.symm.trans (hr); clear hrq; conv => whnf)
 (refine ja9 [] rfl (fun _ => hsp) ?_; rintro r rfl; conv => whnf)
 (refine ja9 [0] rfl (fun _ => hal) ?_; rintro r rfl; conv => whnf)
 by_cases hlt : p < req
 ·rw [if_pos hlt, decide_eq_true hlt];conv => whnf
  refine ⟨by (try simp only [ByteArray.size_append, Nt.s, szD, List.size_toArray, List.length_cons, List.length_nil]); unfold maxLen; omega, ?_⟩;conv => whnf
  refine ⟨by (try simp only [ByteArray.size_append, Nt.s, szD, List.size_toArray, List.length_cons, List.length_nil]); unfold maxLen; omega, ?_⟩;conv => whnf
  rfl
 ·rw [if_neg hlt, decide_eq_false hlt]
  cases full with
  | false =>
   conv => whnf
   rfl
  | true =>
   rw [if_pos rfl];conv => whnf
   by_cases h8 : p < 8
   ·rw [if_pos h8, decide_eq_true h8];conv => whnf
    refine ⟨by (try simp only [ByteArray.size_append, Nt.s, szD, List.size_toArray, List.length_cons, List.length_nil]); unfold maxLen; omega, ?_⟩;conv => whnf
    refine ⟨by (try simp only [ByteArray.size_append, Nt.s, szD, List.size_toArray, List.length_cons, List.length_nil]); unfold maxLen; omega, ?_⟩;conv => whnf
    rfl
   ·rw [if_neg h8, decide_eq_false h8];conv => whnf
    rfl
theorem joq (full : Bool) (m : Nat) (hm : m <= 1000000) (s : ByteArray) (hs : s.size <= 2) (f g : Nt) (hf : SH full m f) (hg : SH full m g) : SH full (2 * m + 20) (.mk 18 0 s [f, g]) := fun req h1 h2 => by
 have hp9 := jf7 18 s
 have hp8 : jab 18 s <= 7 := by
  unfold jab
  repeat' split
  all_goals first | decide | (rename_i h1 h2; exact absurd h2 (by decide)) | contradiction
 have e : shN full (.mk 18 0 s [f, g]) req = jeF (jab 18 s) req full (jb4 [shN full f (if jab 18 s = 4 then 5 else jab 18 s), s, shN full g (jab 18 s + 1)]) := rfl
 rw [e]
 have hpr := jdn (.mk 18 0 s [f, g])
 rw [show jab (Nt.mk 18 0 s [f, g]).k (Nt.mk 18 0 s [f, g]).s = jab 18 s from rfl] at hpr;generalize jab 18 s = p at *
 obtain ⟨q, hq⟩ : ∃ q : Int, (if p = 4 then 5 else p) = q := ⟨_, rfl⟩
 rw [hq]
 have hqr : 0 <= q /\ q <= 9 := by split at hq <;> omega
 obtain ⟨hs1, hsp⟩ := hf q (by omega) (by omega)
 obtain ⟨hs2, hsp2⟩ := hg (p + 1) (by omega) (by omega)
 have ht : tsz [shN full f q, s, shN full g (p + 1)] <= 2 * m + 5 := by
  rw [jaw, jaw, jaw]
  have a4 : tsz [] = 0 := rfl
  omega
 have hal := jbn [shN full f q, s, shN full g (p + 1)] (by omega)
 have hsz := jb2 [shN full f q, s, shN full g (p + 1)]
 generalize jb4 [shN full f q, s, shN full g (p + 1)] = x at *;refine ⟨by have := jdq p req full x; omega, ?_⟩;generalize shN full f q = y at *;generalize shN full g (p + 1) = y2 at *
 have hr := jnm f g
 have hr2 := joR f g
 unfold jeF;refine ja5 (ja2 jmX xs0 0) (fun _ _ h => h) Tryz.func123 rfl (by kernel_rfl) rfl (by kernel_rfl) ?_;intro hok;conv => whnf
 (refine ja9 [] rfl (fun _ => hpr) ?_; rintro r rfl; conv => whnf)
 by_cases h4 : p = 4
 ·rw [if_pos h4] at hq;subst hq;rw [decide_eq_true h4];conv => whnf
  refine ⟨by simp [Nt.kids], ?_⟩;conv => whnf
  (generalize hrq : jac _ _ (jaS (Nt.mk 18 0 s [f, g]).kids) = rq; obtain rfl : rq = ntA f := hrq.symm.trans (hr); clear hrq; conv => whnf)
  refine ⟨by simp [Nt.kids], ?_⟩;conv => whnf
  (generalize hrq : jac _ _ (jaS (Nt.mk 18 0 s [f, g]).kids) = rq; obtain rfl : rq = ntA g := hrq.symm.trans (hr2); clear hrq; conv => whnf)
  refine ⟨jaI (by omega), ?_⟩;conv => whnf
  (refine ja9 [] rfl (fun _ => hsp) ?_; rintro r rfl; conv => whnf)
  (refine ja9 [] rfl (fun _ => hsp2) ?_; rintro r rfl; conv => whnf)
  (refine ja9 [0] rfl (fun _ => hal) ?_; rintro r rfl; conv => whnf)
  by_cases hlt : p < req
  ·rw [if_pos hlt, decide_eq_true hlt];conv => whnf
   refine ⟨by (try simp only [ByteArray.size_append, Nt.s, szD, List.size_toArray, List.length_cons, List.length_nil]); unfold maxLen; omega, ?_⟩;conv => whnf
   refine ⟨by (try simp only [ByteArray.size_append, Nt.s, szD, List.size_toArray, List.length_cons, List.length_nil]); unfold maxLen; omega, ?_⟩;conv => whnf
   rfl
  ·rw [if_neg hlt, decide_eq_false hlt]
   cases full with
   | false =>
    conv => whnf
    rfl
   | true =>
    rw [if_pos rfl];conv => whnf
    by_cases h8 : p < 8
    ·rw [if_pos h8, decide_eq_true h8];conv => whnf
     refine ⟨by (try simp only [ByteArray.size_append, Nt.s, szD, List.size_toArray, List.length_cons, List.length_nil]); unfold maxLen; omega, ?_⟩;conv => whnf
     refine ⟨by (try simp only [ByteArray.size_append, Nt.s, szD, List.size_toArray, List.length_cons, List.length_nil]); unfold maxLen; omega, ?_⟩;conv => whnf
     rfl
    ·rw [if_neg h8, decide_eq_false h8];conv => whnf
     rfl
 ·rw [if_neg h4] at hq;subst hq;rw [decide_eq_false h4];conv => whnf
  refine ⟨by simp [Nt.kids], ?_⟩;conv => whnf
  (generalize hrq : jac _ _ (jaS (Nt.mk 18 0 s [f, g]).kids) = rq; obtain rfl : rq = ntA f := hrq.symm.trans (hr); clear hrq; conv => whnf)
  refine ⟨by simp [Nt.kids], ?_⟩;conv => whnf
  (generalize hrq : jac _ _ (jaS (Nt.mk 18 0 s [f, g]).kids) = rq; obtain rfl : rq = ntA g := hrq.symm.trans (hr2); clear hrq; conv => whnf)
  refine ⟨jaI (by omega), ?_⟩;conv => whnf
  (refine ja9 [] rfl (fun _ => hsp) ?_; rintro r rfl; conv => whnf)
  (refine ja9 [] rfl (fun _ => hsp2) ?_; rintro r rfl; conv => whnf)
  (refine ja9 [0] rfl (fun _ => hal) ?_; rintro r rfl; conv => whnf)
  by_cases hlt : p < req
  ·rw [if_pos hlt, decide_eq_true hlt];conv => whnf
   refine ⟨by (try simp only [ByteArray.size_append, Nt.s, szD, List.size_toArray, List.length_cons, List.length_nil]); unfold maxLen; omega, ?_⟩;conv => whnf
   refine ⟨by (try simp only [ByteArray.size_append, Nt.s, szD, List.size_toArray, List.length_cons, List.length_nil]); unfold maxLen; omega, ?_⟩;conv => whnf
   rfl
  ·rw [if_neg hlt, decide_eq_false hlt]
   cases full with
   | false =>
    conv => whnf
    rfl
   | true =>
    rw [if_pos rfl];conv => whnf
    by_cases h8 : p < 8
    ·rw [if_pos h8, decide_eq_true h8];conv => whnf
     refine ⟨by (try simp only [ByteArray.size_append, Nt.s, szD, List.size_toArray, List.length_cons, List.length_nil]); unfold maxLen; omega, ?_⟩;conv => whnf
     refine ⟨by (try simp only [ByteArray.size_append, Nt.s, szD, List.size_toArray, List.length_cons, List.length_nil]); unfold maxLen; omega, ?_⟩;conv => whnf
     rfl
    ·rw [if_neg h8, decide_eq_false h8];conv => whnf
     rfl
def cI : Nat -> Nat
 | 0 => 14
 | d + 1 => 2 * cI d + 20
theorem SH.mono {full : Bool} {m m' : Nat} {f : Nt} (h : SH full m f) (hm : m <= m') : SH full m' f := fun req h1 h2 => ⟨Nat.le_trans (h req h1 h2).1 hm, (h req h1 h2).2⟩
theorem jkV : ∀ d, 14 <= cI d
 | 0 => Nat.le_refl _
 | d + 1 => by unfold cI; omega
theorem jjf : ∀ s ∈ varL, s.size <= 12 := by decide
theorem jkF : ∀ s ∈ builtL, s.size <= 12 := by decide
theorem jrg : ∀ n ∈ litL, 0 <= n /\ n < 1000000000000 := by decide
theorem juf : ∀ s ∈ opL, s.size <= 2 := by decide
theorem jrM : ∀ s ∈ bolL, s.size <= 2 := by decide
theorem jr0 : ∀ s ∈ cmpL, s.size <= 2 := by decide
theorem jrD (full : Bool) {d : Nat} {f : Nt} (h : EI d f) : cI d <= 1000000 -> SH full (cI d) f := by
 induction h with
 | lit d n h => exact fun _ => (jua full n (jrg n h)).mono (jkV d)
 | var d s h => exact fun _ => (jrk full 14 (.inl rfl) s (jjf s h)).mono (jkV d)
 | nam d s h => exact fun _ => (jrk full 15 (.inr rfl) s (jkF s h)).mono (jkV d)
 | drw d f h ih => intro hc; unfold cI at hc ⊢; exact (juD full (cI d) (by omega) f (ih (by omega))).mono (by omega)
 | neg d f h ih => intro hc; unfold cI at hc ⊢; exact (jrd full (cI d) (by omega) pMinus (by decide) f (ih (by omega))).mono (by omega)
 | bin d s f g hs h1 h2 i1 i2 => intro hc; unfold cI at hc ⊢; exact joq full (cI d) (by omega) s (juf s hs) f g (i1 (by omega)) (i2 (by omega))
theorem jyM (full : Bool) {d : Nat} {f : Nt} (h : EB d f) : cI (d + 1) <= 1000000 -> SH full (cI (d + 1)) f := by
 induction h with
 | lit d n h => exact fun _ => (jrB full n h).mono (jkV (d + 1))
 | nt d f h ih => intro hc; have e : cI (d + 1 + 1) = 2 * cI (d + 1) + 20 := rfl; rw [e] at hc ⊢; exact (jrd full (cI (d + 1)) (by omega) pNot (by decide) f (ih (by omega))).mono (by omega)
 | bin d s f g hs h1 h2 i1 i2 => intro hc; have e : cI (d + 1 + 1) = 2 * cI (d + 1) + 20 := rfl; rw [e] at hc ⊢; exact joq full (cI (d + 1)) (by omega) s (jrM s hs) f g (i1 (by omega)) (i2 (by omega))
 | cmp d s f g hs h1 h2 =>
  intro hc
  have hm : cI (d - 1) <= cI d := by
   cases d with
   | zero => exact Nat.le_refl _
   | succ d => rw [Nat.add_sub_cancel]; have e : cI (d + 1) = 2 * cI d + 20 := rfl; omega
  have e : cI (d + 1) = 2 * cI d + 20 := rfl
  rw [e] at hc ⊢;exact joq full (cI d) (by omega) s (jr0 s hs) f g ((jrD full h1 (by omega)).mono hm) ((jrD full h2 (by omega)).mono hm)
def cmF (l : List ByteArray) : ByteArray := match l with
 | [] => eB
 | x :: l => l.foldl (fun a y => ja1 (a ++ pComma) y) (ja1 eB x)
theorem jfD (x : ByteArray) (l : List ByteArray) (y : ByteArray) : cmF (x :: l ++ [y]) = ja1 (cmF (x :: l) ++ pComma) y := by
 unfold cmF
 show (l ++ [y]).foldl _ _ = _
 rw [List.foldl_append]; rfl
theorem jt4 : ∀ (l : List ByteArray), (cmF l).size <= tsz l + l.length := fun l => by
 induction h : l.length generalizing l with
 | zero => rw [List.eq_nil_of_length_eq_zero h]; exact Nat.zero_le _
 | succ n ih =>
  obtain ⟨m, y, rfl⟩ : ∃ m y, l = m ++ [y] := by
   have hne : l ≠ [] := fun e => by rw [e] at h; cases h
   exact ⟨l.dropLast, l.getLast hne, (List.dropLast_concat_getLast hne).symm⟩
  have hm : m.length = n := by simpa using h
  have := ih m hm
  rw [jk2]
  cases m with
  | nil =>
   show (ja1 eB y).size <= _
   have := ja0 eB y
   have e0 : eB.size = 0 := rfl
   omega
  | cons x m =>
   rw [jfD]
   have g := ja0 (cmF (x :: m) ++ pComma) y
   have e1 : pComma.size = 1 := rfl
   rw [ByteArray.size_append] at g;omega
def jb1 (full : Bool) (l : List Nt) : ByteArray := cmF (l.map fun f => shN full f 1) ++ pSemi
theorem jlW (full : Bool) (m : Nat) (hm : m <= 1000000) (l : List Nt) (hl : l.length <= 100) (hf : ∀ f ∈ l, SH full m f) : (jb1 full l).size <= l.length * (m + 2) + 1 /\ Spec Tryz.prog 122 [] [.sl 4 l.length (jaS l), jbE full] fun _ r => r = jaT (jb1 full l) := by
 have hts : ∀ j, j <= l.length -> (cmF ((l.take j).map fun f => shN full f 1)).size <= j * (m + 2) := fun j hj => by
  have h1 := jt4 ((l.take j).map fun f => shN full f 1)
  have h2 : tsz ((l.take j).map fun f => shN full f 1) <= j * (m + 1) := by
   clear h1
   induction j with
   | zero => rw [List.take_zero]; exact Nat.zero_le _
   | succ j ih =>
    have := ih (by omega)
    rw [List.take_succ_eq_append_getElem (by omega), List.map_append, List.map_cons, List.map_nil, jk2, Nat.succ_mul]
    have := (hf (l[j]'(by omega)) (List.getElem_mem _) 1 (by decide) (by decide)).1
    omega
  rw [List.length_map, List.length_take, Nat.min_eq_left hj] at h1
  have e : j * (m + 2) = j * (m + 1) + j := by rw [show m + 2 = (m + 1) + 1 by omega, Nat.mul_add, Nat.mul_one]
  omega
 have hbig : l.length * (m + 2) <= 100 * 1000002 := Nat.mul_le_mul hl (by omega)
 have e1 : pSemi.size = 1 := rfl
 have e2 : pComma.size = 1 := rfl
 refine ⟨?_, ?_⟩
 ·unfold jb1;rw [ByteArray.size_append]
  have := hts l.length (Nat.le_refl _)
  rw [List.take_length] at this;omega
 unfold jb1;refine ja5 (ja2 jak xs0 0) (fun _ _ h => h) Tryz.func122 rfl (by kernel_rfl) rfl (by kernel_rfl) ?_;intro _;conv => whnf
 refine jaj [0, 1] ?_;conv => whnf
 refine jaL (fun j : Nat => [(5, jaT (cmF ((l.take j).map fun f => shN full f 1))), (6, .v (.int .i64 j))]) (fun _ => []) (fun _ => []) (fun j => j <= l.length) (fun j => l.length - j) 0 ?_ (Nat.zero_le _) ?_
 ·repeat' constructor
 intro j hj
 have hsz := hts j hj
 have hjm : j * (m + 2) <= l.length * (m + 2) := Nat.mul_le_mul_right _ hj
 conv => whnf
 by_cases hlt : j < l.length
 ·rw [decide_eq_true (show (j : Int) < l.length by omega)]
  have hr := jbs l j hlt
  obtain ⟨hs1, hsp⟩ := hf l[j] (List.getElem_mem hlt) 1 (by decide) (by decide)
  have htk : l.take (j + 1) = l.take j ++ [l[j]] := List.take_succ_eq_append_getElem hlt
  generalize l[j] = f at *;conv => whnf
  by_cases h0 : 0 < j
  ·rw [decide_eq_true (show 0 < (j : Int) by omega)]
   have e : cmF ((l.take (j + 1)).map fun f => shN full f 1) = ja1 (cmF ((l.take j).map fun f => shN full f 1) ++ pComma) (shN full f 1) := by
    rw [htk, List.map_append]
    cases hq : l.take j with
    | nil =>
     have := congrArg List.length hq
     rw [List.length_take, List.length_nil] at this;omega
    | cons a b => exact jfD _ _ _
   generalize cmF ((l.take j).map fun f => shN full f 1) = a at *;generalize shN full f 1 = b at *
   have hg := jf6 (a ++ pComma) b (by rw [ByteArray.size_append]; omega) (by omega)
   conv => whnf
   refine ⟨by show a.size + pComma.size <= maxLen; unfold maxLen; omega, ?_⟩;conv => whnf
   refine ⟨by omega, ?_⟩;conv => whnf
   (generalize hrq : jac _ _ (jaS l) = rq; obtain rfl : rq = ntA f := hrq.symm.trans (hr); clear hrq; conv => whnf)
   (refine ja9 [] rfl (fun _ => hsp) ?_; rintro r rfl; conv => whnf)
   (refine ja9 [] rfl (fun _ => hg) ?_; rintro r rfl; conv => whnf)
   refine ⟨jaI (by omega), ?_⟩;conv => whnf
   refine ⟨j + 1, jas [] ?_, hlt, by omega⟩;conv => whnf
   rw [e]
   repeat' constructor
  ·rw [decide_eq_false (show ¬ 0 < (j : Int) by omega)]
   obtain rfl : j = 0 := by omega
   have e : cmF ((l.take (0 + 1)).map fun f => shN full f 1) = ja1 (cmF ((l.take 0).map fun f => shN full f 1)) (shN full f 1) := by
    rw [htk]; rfl
   have hg := jf6 (cmF ((l.take 0).map fun f => shN full f 1)) (shN full f 1) (by omega) (by omega)
   generalize cmF ((l.take 0).map fun f => shN full f 1) = a at *;generalize shN full f 1 = b at *;conv => whnf
   refine ⟨by omega, ?_⟩;conv => whnf
   (generalize hrq : jac _ _ (jaS l) = rq; obtain rfl : rq = ntA f := hrq.symm.trans (hr); clear hrq; conv => whnf)
   (refine ja9 [] rfl (fun _ => hsp) ?_; rintro r rfl; conv => whnf)
   (refine ja9 [] rfl (fun _ => hg) ?_; rintro r rfl; conv => whnf)
   refine ⟨jaI (by omega), ?_⟩;conv => whnf
   refine ⟨0 + 1, jas [] ?_, hlt, by omega⟩;conv => whnf
   rw [e]
   repeat' constructor
 ·rw [decide_eq_false (show ¬ (j : Int) < l.length by omega)];rw [show j = l.length by omega, List.take_length] at hsz ⊢;conv => whnf
  refine ⟨by show (cmF _).size + pSemi.size <= maxLen; unfold maxLen; omega, ?_⟩;conv => whnf
  rfl
def jht (id : Nat) : Tr := match Nat.beq id 3 with | true => .q 0 3 (.q 1 0 (.q 2 3 (.q 3 0 (.q 4 3 (.alt 5 1 (.alt 6 1 (.alt 7 1 (.q 8 3 (.nil)) (.nil)) (.nil)) (.nil)))))) | false => match Nat.beq id 5 with | true => .q 0 3 (.q 1 0 (.q 2 3 (.q 3 0 (.q 4 3 (.q 6 3 (.q 7 0 (.q 8 3 (.q 9 0 (.q 10 3 (.alt 5 1 (.alt 11 1 (.alt 12 1 (.alt 13 1 (.q 14 3 (.nil)) (.nil)) (.nil)) (.nil)) (.nil))))))))))) | false => match Nat.beq id 7 with | true => .q 0 3 (.q 1 0 (.q 2 3 (.q 3 0 (.q 4 3 (.q 6 3 (.q 7 0 (.q 9 3 (.q 10 0 (.q 11 3 (.q 12 3 (.alt 5 1 (.alt 8 1 (.alt 13 1 (.alt 14 1 (.alt 15 1 (.q 16 3 (.nil)) (.nil)) (.nil)) (.nil)) (.nil)) (.nil)))))))))))) | false => match Nat.beq id 20 with | true => .q 0 3 (.q 1 0 (.q 2 3 (.q 3 0 (.q 4 3 (.q 6 3 (.q 7 0 (.q 8 3 (.q 9 0 (.q 10 3 (.alt 5 1 (.alt 11 1 (.alt 12 1 (.alt 13 1 (.q 14 3 (.nil)) (.nil)) (.nil)) (.nil)) (.nil))))))))))) | false => .nil
def syncB : ByteArray := ⟨#[115, 121, 110, 99, 59]⟩
def stopB : ByteArray := ⟨#[115, 116, 111, 112, 59]⟩
def kid (l : List Nt) (i : Nat) : Nt := l.getD i (.mk 0 0 eB [])
def stB (full : Bool) (k n : Int) (s : ByteArray) (kids : List Nt) (bks : List ByteArray) : ByteArray :=
 if k = 1 then jb4 [s, pEq, jb1 full kids]
 else if k = 3 then jb4 [wWhile, shN full (kid kids 0) 1, bks.getD 1 eB]
 else if k = 4 then jb4 [wSend, shN full (kid kids 0) 1, pComma, bs (jb3 n.toNat), pComma, jb1 full (kids.drop 1)]
 else if k = 5 then jb4 [wTimer, bs (jb3 n.toNat), pSemi]
 else if k = 6 then jb4 [wCancel, bs (jb3 n.toNat), pSemi]
 else if k = 7 then syncB
 else if k = 10 then stopB
 else if k = 8 then jb4 [wReply, jb1 full kids]
 else if k = 9 then jb4 [wFail, jb1 full kids]
 else if 0 < (kid kids 2).kids.length then jb4 [jb4 [wIf, shN full (kid kids 0) 1, bks.getD 1 eB], wElse, bks.getD 2 eB] else jb4 [wIf, shN full (kid kids 0) 1, bks.getD 1 eB]
mutual
def stP (full : Bool) : Nt -> ByteArray
 | .mk k n s kids => stB full k n s kids (jB6 full kids)
def bkP (full : Bool) : Nt -> ByteArray
 | .mk _ _ _ kids => (jzh full kids).foldl ja1 pLb ++ pRb
def jzh (full : Bool) : List Nt -> List ByteArray
 | [] => []
 | f :: l => stP full f :: jzh full l
def jB6 (full : Bool) : List Nt -> List ByteArray
 | [] => []
 | f :: l => bkP full f :: jB6 full l
end
def ST (full : Bool) (m : Nat) (f : Nt) : Prop := (stP full f).size <= m /\ Spec Tryz.prog 90 [] [.agg (ntA f), jbE full] fun _ r => r = jaT (stP full f)
def BK (full : Bool) (m : Nat) (f : Nt) : Prop := (bkP full f).size <= m /\ Spec Tryz.prog 55 [] [.agg (ntA f), jbE full] fun _ r => r = jaT (bkP full f)
theorem jtH (f g h : Nt) : jac 4 0 (jaS [f, g, h]) = ntA f /\ jac 4 1 (jaS [f, g, h]) = ntA g /\ jac 4 2 (jaS [f, g, h]) = ntA h := ⟨jbs [f, g, h] 0 (by simp), jbs [f, g, h] 1 (by simp), jbs [f, g, h] 2 (by simp)⟩
theorem jon (full : Bool) (k : Int) (hk : k = 1 ∨ k = 8 ∨ k = 9) (s : ByteArray) (hs : s.size <= 12) (m : Nat) (hm : m <= 1000000) (l : List Nt) (hl : l.length <= 2) (hf : ∀ f ∈ l, SH full m f) : ST full (2 * m + 40) (.mk k 0 s l) := by
 obtain ⟨hz, hsp⟩ := jlW full m hm l (by omega) hf
 have hlm : l.length * (m + 2) <= 2 * (m + 2) := Nat.mul_le_mul_right _ hl
 have c1 : pEq.size = 1 := rfl
 have c2 : wReply.size = 5 := rfl
 have c3 : wFail.size = 4 := rfl
 rcases hk with rfl | rfl | rfl
 ·have e : stP full (.mk 1 0 s l) = jb4 [s, pEq, jb1 full l] := rfl
  unfold ST;rw [e];generalize jb1 full l = x at *
  have ht : tsz [s, pEq, x] <= 2 * m + 40 := by
   simp only [jaw]
   have a0 : tsz [] = 0 := rfl
   omega
  have hal := jbn [s, pEq, x] (by omega)
  have hsz := jb2 [s, pEq, x]
  refine ⟨by omega, ?_⟩;refine ja5 (ja2 jht xs0 0) (fun _ _ h => h) Tryz.func90 rfl (by kernel_rfl) rfl (by kernel_rfl) ?_;intro hok;conv => whnf
  (refine ja9 [] rfl (fun _ => hsp) ?_; rintro r rfl; conv => whnf)
  (refine ja9 [0] rfl (fun _ => hal) ?_; rintro r rfl; conv => whnf)
  rfl
 ·have e : stP full (.mk 8 0 s l) = jb4 [wReply, jb1 full l] := rfl
  unfold ST;rw [e];generalize jb1 full l = x at *
  have ht : tsz [wReply, x] <= 2 * m + 40 := by
   simp only [jaw]
   have a0 : tsz [] = 0 := rfl
   omega
  have hal := jbn [wReply, x] (by omega)
  have hsz := jb2 [wReply, x]
  refine ⟨by omega, ?_⟩;refine ja5 (ja2 jht xs0 0) (fun _ _ h => h) Tryz.func90 rfl (by kernel_rfl) rfl (by kernel_rfl) ?_;intro hok;conv => whnf
  (refine ja9 [] rfl (fun _ => hsp) ?_; rintro r rfl; conv => whnf)
  (refine ja9 [0] rfl (fun _ => hal) ?_; rintro r rfl; conv => whnf)
  rfl
 ·have e : stP full (.mk 9 0 s l) = jb4 [wFail, jb1 full l] := rfl
  unfold ST;rw [e];generalize jb1 full l = x at *
  have ht : tsz [wFail, x] <= 2 * m + 40 := by
   simp only [jaw]
   have a0 : tsz [] = 0 := rfl
   omega
  have hal := jbn [wFail, x] (by omega)
  have hsz := jb2 [wFail, x]
  refine ⟨by omega, ?_⟩;refine ja5 (ja2 jht xs0 0) (fun _ _ h => h) Tryz.func90 rfl (by kernel_rfl) rfl (by kernel_rfl) ?_;intro hok;conv => whnf
  (refine ja9 [] rfl (fun _ => hsp) ?_; rintro r rfl; conv => whnf)
  (refine ja9 [0] rfl (fun _ => hal) ?_; rintro r rfl; conv => whnf)
  rfl
theorem jqV (full : Bool) (k : Int) (hk : k = 5 ∨ k = 6) (n : Nat) (hn : n < 1000) : ST full 40 (.mk k n eB []) := by
 have hdc := jc2 n (by omega)
 have hds := jb5 n (by omega)
 have c1 : pSemi.size = 1 := rfl
 have c2 : wTimer.size = 5 := rfl
 have c3 : wCancel.size = 6 := rfl
 rcases hk with rfl | rfl
 ·have e : stP full (.mk 5 n eB []) = jb4 [wTimer, bs (jb3 n), pSemi] := rfl
  unfold ST;rw [e];generalize bs (jb3 n) = x at *
  have ht : tsz [wTimer, x, pSemi] <= 40 := by
   simp only [jaw]
   have a0 : tsz [] = 0 := rfl
   omega
  have hal := jbn [wTimer, x, pSemi] (by omega)
  have hsz := jb2 [wTimer, x, pSemi]
  refine ⟨by omega, ?_⟩;refine ja5 (ja2 jht xs0 0) (fun _ _ h => h) Tryz.func90 rfl (by kernel_rfl) rfl (by kernel_rfl) ?_;intro hok;conv => whnf
  (refine ja9 [] rfl (fun _ => hdc) ?_; rintro r rfl; conv => whnf)
  (refine ja9 [0] rfl (fun _ => hal) ?_; rintro r rfl; conv => whnf)
  rfl
 ·have e : stP full (.mk 6 n eB []) = jb4 [wCancel, bs (jb3 n), pSemi] := rfl
  unfold ST;rw [e];generalize bs (jb3 n) = x at *
  have ht : tsz [wCancel, x, pSemi] <= 40 := by
   simp only [jaw]
   have a0 : tsz [] = 0 := rfl
   omega
  have hal := jbn [wCancel, x, pSemi] (by omega)
  have hsz := jb2 [wCancel, x, pSemi]
  refine ⟨by omega, ?_⟩;refine ja5 (ja2 jht xs0 0) (fun _ _ h => h) Tryz.func90 rfl (by kernel_rfl) rfl (by kernel_rfl) ?_;intro hok;conv => whnf
  (refine ja9 [] rfl (fun _ => hdc) ?_; rintro r rfl; conv => whnf)
  (refine ja9 [0] rfl (fun _ => hal) ?_; rintro r rfl; conv => whnf)
  rfl
theorem jq5 (full : Bool) (k : Int) (hk : k = 7 ∨ k = 10) : ST full 40 (.mk k 0 eB []) := by
 rcases hk with rfl | rfl
 ·refine ⟨show syncB.size <= 40 by decide, ?_⟩;refine ja5 (ja2 jht xs0 0) (fun _ _ h => h) Tryz.func90 rfl (by kernel_rfl) rfl (by kernel_rfl) ?_;intro hok;conv => whnf
  rfl
 ·refine ⟨show stopB.size <= 40 by decide, ?_⟩;refine ja5 (ja2 jht xs0 0) (fun _ _ h => h) Tryz.func90 rfl (by kernel_rfl) rfl (by kernel_rfl) ?_;intro hok;conv => whnf
  rfl
theorem juZ (full : Bool) (n : Nat) (hn : n < 1000) (m : Nat) (hm : m <= 1000000) (f g h : Nt) (hf : SH full m f) (hg : SH full m g) (hh : SH full m h) : ST full (3 * m + 80) (.mk 4 n eB [f, g, h]) := by
 obtain ⟨hz, hsp2⟩ := jlW full m hm [g, h] (by simp) (fun x hx => by
  simp only [List.mem_cons, List.not_mem_nil, or_false] at hx
  rcases hx with rfl | rfl
  ·exact hg
  ·exact hh)
 obtain ⟨hs1, hsp⟩ := hf 1 (by decide) (by decide)
 have hdc := jc2 n (by omega)
 have hds := jb5 n (by omega)
 have c1 : pComma.size = 1 := rfl
 have c2 : wSend.size = 4 := rfl
 have c3 : [g, h].length = 2 := rfl
 have e : stP full (.mk 4 n eB [f, g, h]) = jb4 [wSend, shN full f 1, pComma, bs (jb3 n), pComma, jb1 full [g, h]] := rfl
 unfold ST;rw [e];generalize jb1 full [g, h] = x at *;generalize bs (jb3 n) = d at *;generalize shN full f 1 = y at *;rw [c3] at hz
 have ht : tsz [wSend, y, pComma, d, pComma, x] <= 3 * m + 80 := by
  simp only [jaw]
  have a0 : tsz [] = 0 := rfl
  omega
 have hal := jbn [wSend, y, pComma, d, pComma, x] (by omega)
 have hsz := jb2 [wSend, y, pComma, d, pComma, x]
 refine ⟨by omega, ?_⟩
 have hr := (jtH f g h).1
 have hdr : ((jaS [f, g, h]).drop 4).take 8 = jaS [g, h] := by
  rw [jaF f [g, h], List.drop_left' (by rfl), List.take_of_length_le (by rw [joj]; simp)]
 refine ja5 (ja2 jht xs0 0) (fun _ _ h => h) Tryz.func90 rfl (by kernel_rfl) rfl (by kernel_rfl) ?_;intro hok;conv => whnf
 refine ⟨by simp [Nt.kids], ?_⟩;conv => whnf
 (generalize hrq : jac _ _ (jaS (Nt.mk 4 n eB [f, g, h]).kids) = rq; obtain rfl : rq = ntA f := hrq.symm.trans (hr); clear hrq; conv => whnf)
 refine ⟨by simp [Nt.kids], ?_⟩;conv => whnf
 (refine ja9 [] rfl (fun _ => hsp) ?_; rintro r rfl; conv => whnf)
 (refine ja9 [] rfl (fun _ => hdc) ?_; rintro r rfl; conv => whnf)
 rw [<- hdr] at hsp2
 (refine ja9 [] rfl (fun _ => hsp2) ?_; rintro r rfl; conv => whnf)
 (refine ja9 [0] rfl (fun _ => hal) ?_; rintro r rfl; conv => whnf)
 rfl
theorem juu (full : Bool) (m : Nat) (hm : m <= 100000000) (c b : Nt) (hc : SH full m c) (hb : BK full m b) : ST full (2 * m + 40) (.mk 3 0 eB [c, b]) := by
 obtain ⟨hs1, hsp⟩ := hc 1 (by decide) (by decide)
 obtain ⟨hs2, hsp2⟩ := hb
 have c2 : wWhile.size = 5 := rfl
 have e : stP full (.mk 3 0 eB [c, b]) = jb4 [wWhile, shN full c 1, bkP full b] := rfl
 unfold ST;rw [e];generalize shN full c 1 = y at *;generalize bkP full b = x at *
 have ht : tsz [wWhile, y, x] <= 2 * m + 40 := by
  simp only [jaw]
  have a0 : tsz [] = 0 := rfl
  omega
 have hal := jbn [wWhile, y, x] (by omega)
 have hsz := jb2 [wWhile, y, x]
 refine ⟨by omega, ?_⟩
 have hr := jnm c b
 have hr2 := joR c b
 refine ja5 (ja2 jht xs0 0) (fun _ _ h => h) Tryz.func90 rfl (by kernel_rfl) rfl (by kernel_rfl) ?_;intro hok;conv => whnf
 refine ⟨by simp [Nt.kids], ?_⟩;conv => whnf
 (generalize hrq : jac _ _ (jaS (Nt.mk 3 0 eB [c, b]).kids) = rq; obtain rfl : rq = ntA c := hrq.symm.trans (hr); clear hrq; conv => whnf)
 refine ⟨by simp [Nt.kids], ?_⟩;conv => whnf
 (generalize hrq : jac _ _ (jaS (Nt.mk 3 0 eB [c, b]).kids) = rq; obtain rfl : rq = ntA b := hrq.symm.trans (hr2); clear hrq; conv => whnf)
 (refine ja9 [] rfl (fun _ => hsp) ?_; rintro r rfl; conv => whnf)
 (refine ja9 [] rfl (fun _ => hsp2) ?_; rintro r rfl; conv => whnf)
 (refine ja9 [0] rfl (fun _ => hal) ?_; rintro r rfl; conv => whnf)
 rfl
theorem jux (full : Bool) (m : Nat) (hm : m <= 50000000) (c b d : Nt) (hc : SH full m c) (hb : BK full m b) (hd : BK full m d) : ST full (3 * m + 60) (.mk 2 0 eB [c, b, d]) := by
 obtain ⟨hs1, hsp⟩ := hc 1 (by decide) (by decide)
 obtain ⟨hs2, hsp2⟩ := hb
 obtain ⟨hs3, hsp3⟩ := hd
 have c2 : wIf.size = 2 := rfl
 have c3 : wElse.size = 4 := rfl
 have e : stP full (.mk 2 0 eB [c, b, d]) = if 0 < d.kids.length then jb4 [jb4 [wIf, shN full c 1, bkP full b], wElse, bkP full d] else jb4 [wIf, shN full c 1, bkP full b] := rfl
 unfold ST;rw [e];generalize shN full c 1 = y at *;generalize bkP full b = x at *;generalize bkP full d = z at *
 have ht : tsz [wIf, y, x] <= 2 * m + 10 := by
  simp only [jaw]
  have a0 : tsz [] = 0 := rfl
  omega
 have hal := jbn [wIf, y, x] (by omega)
 have hsz := jb2 [wIf, y, x]
 generalize jb4 [wIf, y, x] = v at *
 have ht2 : tsz [v, wElse, z] <= 3 * m + 30 := by
  simp only [jaw]
  have a0 : tsz [] = 0 := rfl
  omega
 have hal2 := jbn [v, wElse, z] (by omega)
 have hsz2 := jb2 [v, wElse, z]
 refine ⟨by split <;> omega, ?_⟩
 obtain ⟨hr, hr2, hr3⟩ := jtH c b d
 by_cases hl : 0 < d.kids.length
 ·rw [if_pos hl];refine ja5 (ja2 jht xs0 0) (fun _ _ h => h) Tryz.func90 rfl (by kernel_rfl) rfl (by kernel_rfl) ?_;intro hok;conv => whnf
  refine ⟨by simp [Nt.kids], ?_⟩;conv => whnf
  (generalize hrq : jac _ _ (jaS (Nt.mk 2 0 eB [c, b, d]).kids) = rq; obtain rfl : rq = ntA c := hrq.symm.trans (hr); clear hrq; conv => whnf)
  refine ⟨by simp [Nt.kids], ?_⟩;conv => whnf
  (generalize hrq : jac _ _ (jaS (Nt.mk 2 0 eB [c, b, d]).kids) = rq; obtain rfl : rq = ntA b := hrq.symm.trans (hr2); clear hrq; conv => whnf)
  (refine ja9 [] rfl (fun _ => hsp) ?_; rintro r rfl; conv => whnf)
  (refine ja9 [] rfl (fun _ => hsp2) ?_; rintro r rfl; conv => whnf)
  (refine ja9 [0] rfl (fun _ => hal) ?_; rintro r rfl; conv => whnf)
  refine ⟨by simp [Nt.kids], ?_⟩;conv => whnf
  (generalize hrq : jac _ _ (jaS (Nt.mk 2 0 eB [c, b, d]).kids) = rq; obtain rfl : rq = ntA d := hrq.symm.trans (hr3); clear hrq; conv => whnf)
  rw [decide_eq_true (show 0 < (d.kids.length : Int) by omega)];conv => whnf
  refine ⟨by simp [Nt.kids], ?_⟩;conv => whnf
  (generalize hrq : jac _ _ (jaS (Nt.mk 2 0 eB [c, b, d]).kids) = rq; obtain rfl : rq = ntA d := hrq.symm.trans (hr3); clear hrq; conv => whnf)
  (refine ja9 [] rfl (fun _ => hsp3) ?_; rintro r rfl; conv => whnf)
  (refine ja9 [1] rfl (fun _ => hal2) ?_; rintro r rfl; conv => whnf)
  rfl
 ·rw [if_neg hl];refine ja5 (ja2 jht xs0 0) (fun _ _ h => h) Tryz.func90 rfl (by kernel_rfl) rfl (by kernel_rfl) ?_;intro hok;conv => whnf
  refine ⟨by simp [Nt.kids], ?_⟩;conv => whnf
  (generalize hrq : jac _ _ (jaS (Nt.mk 2 0 eB [c, b, d]).kids) = rq; obtain rfl : rq = ntA c := hrq.symm.trans (hr); clear hrq; conv => whnf)
  refine ⟨by simp [Nt.kids], ?_⟩;conv => whnf
  (generalize hrq : jac _ _ (jaS (Nt.mk 2 0 eB [c, b, d]).kids) = rq; obtain rfl : rq = ntA b := hrq.symm.trans (hr2); clear hrq; conv => whnf)
  (refine ja9 [] rfl (fun _ => hsp) ?_; rintro r rfl; conv => whnf)
  (refine ja9 [] rfl (fun _ => hsp2) ?_; rintro r rfl; conv => whnf)
  (refine ja9 [0] rfl (fun _ => hal) ?_; rintro r rfl; conv => whnf)
  refine ⟨by simp [Nt.kids], ?_⟩;conv => whnf
  (generalize hrq : jac _ _ (jaS (Nt.mk 2 0 eB [c, b, d]).kids) = rq; obtain rfl : rq = ntA d := hrq.symm.trans (hr3); clear hrq; conv => whnf)
  rw [decide_eq_false (show ¬ 0 < (d.kids.length : Int) by omega)];conv => whnf
  rfl
theorem jny (full : Bool) : ∀ l : List Nt, jzh full l = l.map (stP full)
 | [] => rfl
 | f :: l => by rw [jzh, jny full l]; rfl
def bkL (full : Bool) (l : List Nt) : ByteArray := (l.map (stP full)).foldl ja1 pLb
theorem jnw (full : Bool) (l : List Nt) (f : Nt) : bkL full (l ++ [f]) = ja1 (bkL full l) (stP full f) := by
 unfold bkL;rw [List.map_append, List.foldl_append]; rfl
theorem jrO (full : Bool) (k n : Int) (s : ByteArray) (l : List Nt) : bkP full (.mk k n s l) = bkL full l ++ pRb := by
 rw [bkP, jny]; rfl
set_option maxHeartbeats 1000000 in
theorem jhO (full : Bool) (m : Nat) (hm : m <= 1000000) (l : List Nt) (hl : l.length <= 3) (hf : ∀ f ∈ l, ST full m f) : BK full (3 * m + 10) (jba l) := by
 have hsz : ∀ j, j <= l.length -> (bkL full (l.take j)).size <= j * (m + 1) + 1 := fun j hj => by
  induction j with
  | zero =>
   have : pLb.size = 1 := rfl
   rw [List.take_zero]
   show pLb.size <= _
   omega
  | succ j ih =>
   have := ih (by omega)
   rw [List.take_succ_eq_append_getElem (by omega), jnw, Nat.succ_mul]
   have h1 := (hf (l[j]'(by omega)) (List.getElem_mem _)).1
   have h2 := ja0 (bkL full (l.take j)) (stP full (l[j]'(by omega)))
   omega
 have e1 : pRb.size = 1 := rfl
 have hlm : l.length * (m + 1) <= 3 * (m + 1) := Nat.mul_le_mul_right _ hl
 unfold BK jba;rw [jrO];refine ⟨?_, ?_⟩
 ·rw [ByteArray.size_append]
  have := hsz l.length (Nat.le_refl _)
  rw [List.take_length] at this;omega
 refine ja5 (ja2 jak xs0 0) (fun _ _ h => h) Tryz.func55 rfl (by kernel_rfl) rfl (by kernel_rfl) ?_;intro _;conv => whnf
 refine jaj [1, 2] ?_;conv => whnf
 refine jaL (fun j : Nat => [(5, jaT (bkL full (l.take j))), (6, .v (.int .i64 j))]) (fun _ => [[jao 11, jao 0, jaT eB, .sl 4 l.length (jaS l)]]) (fun _ => []) (fun j => j <= l.length) (fun j => l.length - j) 0 ?_ (Nat.zero_le _) ?_
 ·repeat' constructor
 intro j hj
 have hs := hsz j hj
 have hjm : j * (m + 1) <= l.length * (m + 1) := Nat.mul_le_mul_right _ hj
 conv => whnf
 by_cases hlt : j < l.length
 ·rw [decide_eq_true (show (j : Int) < l.length by omega)]
  have hr := jbs l j hlt
  obtain ⟨hs1, hsp⟩ := hf l[j] (List.getElem_mem hlt)
  have e : bkL full (l.take (j + 1)) = ja1 (bkL full (l.take j)) (stP full l[j]) := by rw [List.take_succ_eq_append_getElem hlt, jnw]
  generalize l[j] = f at *
  have hg := jf6 (bkL full (l.take j)) (stP full f) (by omega) (by omega)
  conv => whnf
  refine ⟨by omega, ?_⟩;conv => whnf
  (generalize hrq : jac _ _ (jaS l) = rq; obtain rfl : rq = ntA f := hrq.symm.trans (hr); clear hrq; conv => whnf)
  (refine ja9 [] rfl (fun _ => hsp) ?_; rintro r rfl; conv => whnf)
  (refine ja9 [] rfl (fun _ => hg) ?_; rintro r rfl; conv => whnf)
  refine ⟨jaI (by omega), ?_⟩;conv => whnf
  refine ⟨j + 1, jas [] ?_, hlt, by omega⟩;conv => whnf
  rw [e]
  repeat' constructor
 ·rw [decide_eq_false (show ¬ (j : Int) < l.length by omega)];rw [show j = l.length by omega, List.take_length] at hs ⊢;conv => whnf
  refine ⟨by show (bkL full l).size + pRb.size <= maxLen; unfold maxLen; omega, ?_⟩;conv => whnf
  rfl
def cS : Nat -> Nat
 | 0 => 900
 | d + 1 => 700 + 3 * (3 * cS d + 10)
theorem ST.mono {full : Bool} {m m' : Nat} {f : Nt} (h : ST full m f) (hm : m <= m') : ST full m' f := ⟨Nat.le_trans h.1 hm, h.2⟩
theorem BK.mono {full : Bool} {m m' : Nat} {f : Nt} (h : BK full m f) (hm : m <= m') : BK full m' f := ⟨Nat.le_trans h.1 hm, h.2⟩
theorem jcW : ∀ d, 900 <= cS d
 | 0 => Nat.le_refl _
 | d + 1 => by have := jcW d; unfold cS; omega
theorem jAo (full : Bool) {d : Nat} {f : Nt} (h : ES d f) : cS d <= 1000000 -> ST full (cS d) f := by
 have i0 : cI 0 = 14 := rfl
 have i1 : cI 1 = 48 := rfl
 have i2 : cI 2 = 116 := rfl
 have i3 : cI 3 = 252 := rfl
 have hI : ∀ {e : Nat} {f : Nt}, EI e f -> e <= 2 -> SH full 252 f := fun {e f} h he => by
  rcases (by omega : e = 0 ∨ e = 1 ∨ e = 2) with rfl | rfl | rfl
  ·exact (jrD full h (by decide)).mono (by decide)
  ·exact (jrD full h (by decide)).mono (by decide)
  ·exact (jrD full h (by decide)).mono (by decide)
 have hB : ∀ {e : Nat} {f : Nt}, EB e f -> e = 1 ∨ e = 2 -> SH full 252 f := fun {e f} h he => by
  rcases he with rfl | rfl
  ·exact (jyM full h (by decide)).mono (by decide)
  ·exact (jyM full h (by decide)).mono (by decide)
 have one : ∀ {f : Nt}, SH full 252 f -> ∀ x ∈ [f], SH full 252 x := fun {f} h x hx => by rw [List.mem_singleton.1 hx]; exact h
 have two : ∀ {f g : Nt}, SH full 252 f -> SH full 252 g -> ∀ x ∈ [f, g], SH full 252 x := fun {f g} h k x hx => by
  rcases List.mem_cons.1 hx with rfl | hx
  ·exact h
  ·rw [List.mem_singleton.1 hx]; exact k
 induction h with
 | asg d e s f hs h he => exact fun _ => (jon full 1 (.inl rfl) s (jjf s hs) 252 (by decide) [f] (by simp) (one (hI h he))).mono (Nat.le_trans (by decide) (jcW d))
 | snd d n f g h hn h1 h2 h3 => exact fun _ => (juZ full n (by omega) 252 (by decide) f g h (hI h1 (by decide)) (hI h2 (by decide)) (hI h3 (by decide))).mono (Nat.le_trans (by decide) (jcW d))
 | tim d n hn => exact fun _ => (jqV full 5 (.inl rfl) n (by omega)).mono (Nat.le_trans (by decide) (jcW d))
 | can d n hn => exact fun _ => (jqV full 6 (.inr rfl) n (by omega)).mono (Nat.le_trans (by decide) (jcW d))
 | syn d => exact fun _ => (jq5 full 7 (.inl rfl)).mono (Nat.le_trans (by decide) (jcW d))
 | rep d f g h1 h2 => exact fun _ => (jon full 8 (.inr (.inl rfl)) eB (by decide) 252 (by decide) [f, g] (by simp) (two (hI h1 (by decide)) (hI h2 (by decide)))).mono (Nat.le_trans (by decide) (jcW d))
 | fai d f h1 => exact fun _ => (jon full 9 (.inr (.inr rfl)) eB (by decide) 252 (by decide) [f] (by simp) (one (hI h1 (by decide)))).mono (Nat.le_trans (by decide) (jcW d))
 | stp d => exact fun _ => (jq5 full 10 (.inr rfl)).mono (Nat.le_trans (by decide) (jcW d))
 | whi d c l h1 h2 h3 ih =>
  intro hc
  have e : cS (d + 1) = 700 + 3 * (3 * cS d + 10) := rfl
  rw [e] at hc ⊢
  have hge := jcW d
  have hb := jhO full (cS d) (by omega) l (by omega) (fun s hs => ih s hs (by omega))
  exact (juu full (3 * cS d + 10) (by omega) c (jba l) ((hB h1 (.inl rfl)).mono (by omega)) hb).mono (by omega)
 | iff d c l m h1 h2 h3 h4 h5 ih1 ih2 =>
  intro hc
  have e : cS (d + 1) = 700 + 3 * (3 * cS d + 10) := rfl
  rw [e] at hc ⊢
  have hge := jcW d
  have hb := jhO full (cS d) (by omega) l (by omega) (fun s hs => ih1 s hs (by omega))
  have hb2 := jhO full (cS d) (by omega) m (by omega) (fun s hs => ih2 s hs (by omega))
  exact (jux full (3 * cS d + 10) (by omega) c (jba l) (jba m) ((hB h1 (.inr rfl)).mono (by omega)) hb hb2).mono (by omega)
theorem jAI (full : Bool) {b : Nt} (h : EK b) : BK full 300000 b := by
 obtain ⟨k, rfl, h1, h2⟩ := h
 have e2 : cS 2 = 80200 := rfl
 exact (jhO full (cS 2) (by omega) k h1 (fun s hs => jAo full (h2 s hs) (by omega))).mono (by omega)
def wMsgS : ByteArray := ⟨#[109, 101, 115, 115, 97, 103, 101, 32]⟩
def wTimS : ByteArray := ⟨#[116, 105, 109, 101, 114, 32]⟩
def hdW (n : Int) : ByteArray := if n = 1 then wRequest else if 10 <= n then wMsgS ++ bs (jb3 (n - 10).toNat) else if 2 <= n then wTimS ++ bs (jb3 (n - 2).toNat) else wStart
def hdN (full : Bool) (h : Int × Nt) : ByteArray := jb4 [wOn, hdW h.1, bkP full h.2]
def HN (full : Bool) (h : Int × Nt) : Prop := (hdN full h).size <= 400000 /\ Spec Tryz.prog 32 [] [.agg (hnA h), jbE full] fun _ r => r = jaT (hdN full h)
theorem jwr (full : Bool) (h : Int × Nt) (hn : 0 <= h.1 /\ h.1 < 40) (hb : BK full 300000 h.2) : HN full h := by
 obtain ⟨hs1, hsp⟩ := hb
 have hw : (hdW h.1).size <= 20 := by
  unfold hdW
  have a1 : wRequest.size = 7 := rfl
  have a2 : wMsgS.size = 8 := rfl
  have a3 : wTimS.size = 6 := rfl
  have a4 : wStart.size = 5 := rfl
  have d1 := jb5 (h.1 - 10).toNat (by omega)
  have d2 := jb5 (h.1 - 2).toNat (by omega)
  repeat' split
  all_goals (try simp only [ByteArray.size_append]); omega
 have ht : tsz [wOn, hdW h.1, bkP full h.2] <= 350000 := by
  simp only [jaw]
  have a0 : tsz [] = 0 := rfl
  have a1 : wOn.size = 2 := rfl
  omega
 have hal := jbn [wOn, hdW h.1, bkP full h.2] (by omega)
 have hsz := jb2 [wOn, hdW h.1, bkP full h.2]
 unfold HN hdN;refine ⟨by omega, ?_⟩;generalize bkP full h.2 = x at *
 obtain ⟨R, hR⟩ : ∃ R, hdW h.1 = R := ⟨_, rfl⟩
 rw [hR] at hal hsz ht hw ⊢;unfold hdW at hR
 have b2 : wMsgS.size = 8 := rfl
 have b3 : wTimS.size = 6 := rfl
 refine ja5 (ja2 jak xs0 0) (fun _ _ h => h) Tryz.func32 rfl (by kernel_rfl) rfl (by kernel_rfl) ?_;intro _;conv => whnf
 by_cases h1 : h.1 = 1
 ·rw [if_pos h1] at hR;subst hR;rw [decide_eq_true h1];conv => whnf
  (refine ja9 [] rfl (fun _ => hsp) ?_; rintro r rfl; conv => whnf)
  (refine ja9 [0] rfl (fun _ => hal) ?_; rintro r rfl; conv => whnf)
  rfl
 rw [if_neg h1] at hR;rw [decide_eq_false h1];conv => whnf
 by_cases h10 : 10 <= h.1
 ·rw [if_pos h10] at hR
  have hdc := jc2 (h.1 - 10).toNat (by omega)
  have d1 := jb5 (h.1 - 10).toNat (by omega)
  rw [show (((h.1 - 10).toNat : Nat) : Int) = h.1 - 10 by omega] at hdc;generalize bs (jb3 (h.1 - 10).toNat) = d at *;subst hR;rw [decide_eq_true h10];conv => whnf
  refine ⟨jaI (by omega), ?_⟩;conv => whnf
  (refine ja9 [] rfl (fun _ => hdc) ?_; rintro r rfl; conv => whnf)
  refine ⟨by show wMsgS.size + d.size <= maxLen; unfold maxLen; omega, ?_⟩;conv => whnf
  (refine ja9 [] rfl (fun _ => hsp) ?_; rintro r rfl; conv => whnf)
  (refine ja9 [0] rfl (fun _ => hal) ?_; rintro r rfl; conv => whnf)
  rfl
 rw [if_neg h10] at hR;rw [decide_eq_false h10];conv => whnf
 by_cases h2 : 2 <= h.1
 ·rw [if_pos h2] at hR
  have hdc := jc2 (h.1 - 2).toNat (by omega)
  have d1 := jb5 (h.1 - 2).toNat (by omega)
  rw [show (((h.1 - 2).toNat : Nat) : Int) = h.1 - 2 by omega] at hdc;generalize bs (jb3 (h.1 - 2).toNat) = d at *;subst hR;rw [decide_eq_true h2];conv => whnf
  refine ⟨jaI (by omega), ?_⟩;conv => whnf
  (refine ja9 [] rfl (fun _ => hdc) ?_; rintro r rfl; conv => whnf)
  refine ⟨by show wTimS.size + d.size <= maxLen; unfold maxLen; omega, ?_⟩;conv => whnf
  (refine ja9 [] rfl (fun _ => hsp) ?_; rintro r rfl; conv => whnf)
  (refine ja9 [0] rfl (fun _ => hal) ?_; rintro r rfl; conv => whnf)
  rfl
 rw [if_neg h2] at hR;subst hR;rw [decide_eq_false h2];conv => whnf
 (refine ja9 [] rfl (fun _ => hsp) ?_; rintro r rfl; conv => whnf)
 (refine ja9 [0] rfl (fun _ => hal) ?_; rintro r rfl; conv => whnf)
 rfl
def naF (l : List ByteArray) : ByteArray := match l with
 | [] => eB
 | x :: l => l.foldl (fun a y => a ++ pComma ++ y) (eB ++ x)
theorem ju0 (x : ByteArray) (l : List ByteArray) (y : ByteArray) : naF (x :: l ++ [y]) = naF (x :: l) ++ pComma ++ y := by
 unfold naF
 show (l ++ [y]).foldl _ _ = _
 rw [List.foldl_append]; rfl
theorem jtF (l : List ByteArray) (j : Nat) (h : j < l.length) : naF (l.take (j + 1)) = (if 0 < j then naF (l.take j) ++ pComma else naF (l.take j)) ++ l[j] := by
 rw [List.take_succ_eq_append_getElem h]
 by_cases h0 : 0 < j
 ·rw [if_pos h0]
  cases hq : l.take j with
  | nil =>
   have := congrArg List.length hq
   rw [List.length_take, List.length_nil] at this;omega
  | cons a b => exact ju0 _ _ _
 ·rw [if_neg h0]
  obtain rfl : j = 0 := by omega
  rfl
theorem jo1 (l : List ByteArray) (hs : ∀ x ∈ l, x.size <= 100) : ∀ j, j <= l.length -> (naF (l.take j)).size <= j * 101
 | 0, _ => by rw [List.take_zero]; exact Nat.zero_le _
 | j + 1, h => by
  have ih := jo1 l hs j (by omega)
  have := hs _ (List.getElem_mem (show j < l.length by omega))
  have e1 : pComma.size = 1 := rfl
  rw [jtF l j (by omega), ByteArray.size_append]
  split
  ·rw [ByteArray.size_append]; omega
  ·omega
def spB : ByteArray := ⟨#[32]⟩
def nmF (w : ByteArray) (l : List ByteArray) : ByteArray := if naF l = ⟨#[]⟩ then ⟨#[]⟩ else w ++ spB ++ naF l ++ pSemi
theorem jof (w : ByteArray) (l : List ByteArray) (hl : l.length <= 20) (hs : ∀ x ∈ l, x.size <= 100) (hw : w.size <= 20) : (nmF w l).size <= 2100 := by
 have h := jo1 l hs l.length (Nat.le_refl _)
 rw [List.take_length] at h
 have a1 : spB.size = 1 := rfl
 have a2 : pSemi.size = 1 := rfl
 unfold nmF
 split
 ·exact (by decide : (⟨#[]⟩ : ByteArray).size <= 2100)
 ·simp only [ByteArray.size_append]; omega
def joZ (full : Bool) (a : ByteArray) (l : List (Int × Nt)) : ByteArray := l.foldl (fun a h => ja1 a (hdN full h)) a
theorem jsj (full : Bool) (a : ByteArray) (l : List (Int × Nt)) (h : Int × Nt) : joZ full a (l ++ [h]) = ja1 (joZ full a l) (hdN full h) := by
 unfold joZ; rw [List.foldl_append]; rfl
theorem jhW (full : Bool) (a : ByteArray) (l : List (Int × Nt)) (hl : ∀ h ∈ l, (hdN full h).size <= 400000) : (joZ full a l).size <= a.size + l.length * 400001 := by
 induction l generalizing a with
 | nil => exact Nat.le_add_right _ _
 | cons h l ih =>
  have h1 := ih (ja1 a (hdN full h)) (fun x hx => hl x (List.mem_cons_of_mem _ hx))
  have h2 := ja0 a (hdN full h)
  have h3 := hl h List.mem_cons_self
  have e : joZ full a (h :: l) = joZ full (ja1 a (hdN full h)) l := rfl
  rw [e, List.length_cons, Nat.succ_mul];omega
def prF (u : Ut) : ByteArray := joZ false (nmF wDurable u.du ++ nmF wVolatile u.vo) u.on
def loF (u : Ut) : ByteArray := joZ true (nmF wVolatile u.vo ++ nmF wDurable u.du) u.on.reverse
structure PU6 (u : Ut) : Prop where
 du : u.du.length <= 20 /\ ∀ x ∈ u.du, x.size <= 100
 vo : u.vo.length <= 20 /\ ∀ x ∈ u.vo, x.size <= 100
 on : u.on.length <= 4
 hd : ∀ full, ∀ h ∈ u.on, HN full h
theorem GU.pu {u : Ut} (h : GU u) : PU6 u := by
 obtain ⟨h1, h2, h3, h4, h5⟩ := h
 refine ⟨by rw [h1]; decide, by rw [h2]; decide, by omega, fun full x hx => ?_⟩
 obtain ⟨g1, g2, g3⟩ := h3 x hx
 exact jwr full x ⟨g1, g2⟩ (jAI full g3)
theorem jtJ {u : Ut} (h : PU6 u) : (prF u).size <= 2000000 /\ (loF u).size <= 2000000 := by
 have n1 := jof wDurable u.du h.du.1 h.du.2 (by decide)
 have n2 := jof wVolatile u.vo h.vo.1 h.vo.2 (by decide)
 have ho := h.on
 have hm : u.on.length * 400001 <= 4 * 400001 := Nat.mul_le_mul_right _ ho
 have s1 := jhW false (nmF wDurable u.du ++ nmF wVolatile u.vo) u.on (fun x hx => (h.hd false x hx).1)
 have s2 := jhW true (nmF wVolatile u.vo ++ nmF wDurable u.du) u.on.reverse (fun x hx => (h.hd true x (List.mem_reverse.1 hx)).1)
 rw [ByteArray.size_append] at s1 s2;rw [List.length_reverse] at s2;unfold prF loF;omega
section
set_option maxRecDepth 100000
end
def jda (a b : ByteArray) : ByteArray := if a = ⟨#[]⟩ ∨ b = ⟨#[]⟩ ∨ jbP (jbQ a) = false ∨ jbP (jaq b) = false then ⟨#[]⟩ else ⟨#[32]⟩
theorem jeP {a b : ByteArray} (h : a.data.toList = b.data.toList) : a = b := ByteArray.ext (Array.toList_inj.1 h)
theorem jfy (a b : ByteArray) : (a ++ b).data.toList = a.data.toList ++ b.data.toList := by simp
theorem jeD (a : ByteArray) : a ++ ⟨#[]⟩ = a := jeP (by simp)
theorem jug (a : ByteArray) : ⟨#[]⟩ ++ a = a := jeP (by simp)
theorem jwT {a : ByteArray} : a ≠ ⟨#[]⟩ ↔ a.data.toList ≠ [] := by
 constructor
 ·intro h e; exact h (jeP e)
 ·rintro h rfl; exact h rfl
theorem jfh (a b c : ByteArray) : a ++ b ++ c = a ++ (b ++ c) := jeP (by simp)
theorem jaB (a b : ByteArray) : ja1 a b = a ++ jda a b ++ b := by
 unfold ja1 jda
 split
 ·rename_i h; rw [if_pos (.inl h), jeD]
 split
 ·rename_i h; rw [if_pos (.inr (.inl h)), jeD]
 split
 ·rename_i h; rw [if_pos (.inr (.inr (.inl h))), jeD]
 split
 ·rename_i h; rw [if_pos (.inr (.inr (.inr h))), jeD]
 ·rename_i h1 h2 h3 h4
  rw [if_neg (by rintro (h | h | h | h) <;> contradiction)]
theorem jsP {a b : ByteArray} (h : b ≠ ⟨#[]⟩) : a ++ b ≠ ⟨#[]⟩ := by
 rw [jwT] at h ⊢;rw [jfy];intro e;exact h (List.append_eq_nil_iff.1 e).2
theorem jog {a b : ByteArray} (h : a ≠ ⟨#[]⟩) : a ++ b ≠ ⟨#[]⟩ := by
 rw [jwT] at h ⊢;rw [jfy];intro e;exact h (List.append_eq_nil_iff.1 e).1
theorem jkd (a : ByteArray) : a.size = a.data.toList.length := by rw [Array.length_toList]; rfl
theorem jiS (a : ByteArray) {b : ByteArray} (h : b ≠ ⟨#[]⟩) : jbQ (a ++ b) = jbQ b := by
 have hb := jbc h
 unfold jbQ;rw [jkd] at hb;rw [jkd, jkd, jfy, List.getD_eq_getElem?_getD, List.getD_eq_getElem?_getD, List.length_append, List.getElem?_append_right (by omega)]
 congr 2
 omega
theorem jhZ {a : ByteArray} (b : ByteArray) (h : a ≠ ⟨#[]⟩) : jaq (a ++ b) = jaq a := by
 have ha := jbc h
 unfold jaq;rw [jkd] at ha;rw [jfy, List.getD_eq_getElem?_getD, List.getD_eq_getElem?_getD, List.getElem?_append_left ha]
theorem jhP {a b : ByteArray} (h : b ≠ ⟨#[]⟩) : ja1 a b ≠ ⟨#[]⟩ := by rw [jaB]; exact jsP h
theorem jft {a b : ByteArray} (h : a ≠ ⟨#[]⟩) : ja1 a b ≠ ⟨#[]⟩ := by rw [jaB, jfh]; exact jog h
theorem jaJ (a b c : ByteArray) (hb : b ≠ ⟨#[]⟩) : ja1 (ja1 a b) c = ja1 a (ja1 b c) := by
 have e1 : jda (ja1 a b) c = jda b c := by
  have h1 : jbQ (ja1 a b) = jbQ b := by rw [jaB]; exact jiS _ hb
  unfold jda;rw [h1];simp only [jhP (a := a) hb, hb, false_or]
 have e2 : jda a (ja1 b c) = jda a b := by
  have h1 : jaq (ja1 b c) = jaq b := by rw [jaB, jfh]; exact jhZ _ hb
  unfold jda;rw [h1];simp only [jft (b := c) hb, hb, false_or]
 rw [jaB (ja1 a b) c, e1, jaB a (ja1 b c), e2, jaB a b, jaB b c];simp only [jfh]
theorem jbC (a b : ByteArray) (h : jbP (jaq b) = false) : ja1 a b = a ++ b := by
 rw [jaB];unfold jda;rw [if_pos (.inr (.inr (.inr h))), jeD]
theorem jiQ (a b : ByteArray) (h : jbP (jbQ a) = false) : ja1 a b = a ++ b := by
 rw [jaB];unfold jda;rw [if_pos (.inr (.inr (.inl h))), jeD]
theorem jbZ (s b : ByteArray) : ja1 (ja1 (ja1 s ⟨#[40]⟩) b) ⟨#[41]⟩ = ja1 s (⟨#[40]⟩ ++ b ++ ⟨#[41]⟩) := by
 rw [jaJ s _ b (by decide), jaJ s _ _ (jft (by decide)), jiQ ⟨#[40]⟩ b (by decide), jbC _ ⟨#[41]⟩ (by decide)]
end Go.Proofs.YtmodkpibkkpcdaaGreatDoor.Vm
namespace Go.Proofs.YtmodkpibkkpcdaaGreatDoor.Vm
open Go.RowKit
set_option linter.unusedSimpArgs false
set_option linter.unusedVariables false
section
structure jpU (P : Program) (f : Nat) (ins : List (List A)) (e k n : Nat) (cs args : List A) (post : List (List A) -> Nat -> List A -> A -> Prop) : Prop where
 r : jmg P f ins e k n cs args post
 d : ∀ u, jo8 (ClD P f u u) ins e k n cs args post fun _ => False
section
variable {c : Cx} {s : S}
theorem jsn {f : Nat} {fn : Func} {x : Code} {ins : List (List A)} {e k n : Nat} {cs args : List A} {post : List (List A) -> Nat -> List A -> A -> Prop} (hc : c.ok) (hq : ∀ ch s, ¬ c.pan ch s) (hf : c.P.funcs[f]? = some fn) (hb : fn.body = some x) (hname : (fn.name == "runtime.NumGoroutine") = false)
  (hn : ins.length = c.np) (hord : jbT c.ord x = true) (h : okL args -> je0 args (fn.ntmps - args.length) fun t => awp c x ⟨t, ins, [.live e k n cs]⟩ (jAO c e k fn.results.toList post)) : jpU c.P f ins e k n cs args post := by
 refine ⟨jam hc (fun ch s h => hq ch s h) hf hb hname hn hord h, fun u w C β vals y xs h0 h1 h2 h3 h4 h5 h6 h7 h8 h9 => ?_⟩;unfold ClD
 refine CallsD.mono (callsD_of_wp hf hb (R := fun e' w' => (∃ (outs : List (List A)) (n' : Nat) (cs' : List A) (r : A) (v y' : Value) (xs' : List Value) (C' : Rd), e' = .returned v /\ post outs n' cs' r /\ Keeps (β ++ (blk y).toList) w w' /\ Sub C C' /\ Sub C' (see w') /\ (∀ ad u, C' ad = some u -> C ad = some u ∨ w.heap.size <= ad.block ∨ blk y = some ad.block) /\ outs.length = β.length ∧
   (∀ (i b : Nat) (cs : List A), β[i]? = some b -> outs[i]? = some cs -> boxAt w' ⟨C', β, [y']⟩ b cs) /\ owR w' e k y' n' xs' /\ A.repC cs' ⟨C', [], []⟩ xs' /\ (∀ b, blk y' = some b -> (∀ o sp, C' ⟨b, o, sp⟩ = none) /\ (w.heap.size <= b ∨ blk y = some b)) /\ r.rep ⟨C', β, [y']⟩ v) ∨
   ∃ (ch : List PanicEntry) (ns : List Nat), e' = .panicked ch /\ False /\ Keeps (β ++ (blk y).toList) w w' /\ ns.length = β.length /\ ∀ (i b n : Nat), β[i]? = some b -> ns[i]? = some n -> boxAt w' ⟨C, β, []⟩ b (List.replicate n .dead)) ?_) fun e m w' hh => hh
 have hinit := initK_iff.1 (h (jbx _ h9))
 have hinit := jb7 hc hord hinit
 have hinv := jfT (nt := fn.ntmps) h0 h1 h2 h3 h4 h5 h6 h7 h8 h9
 unfold Ok OkD at hinit;refine hinit ⟨w, (blk y).toList⟩ C β _ w _ (by rw [<- h4, hn]) hinv (fun ch s' a' w' hpan hi => absurd hpan (hq ch s')) ?_
 have fin : ∀ (s' : S) (a' : Act) (w' : World), (∃ g, jv2 c e k g fn.results.toList post s') -> Inv [] ⟨w, (blk y).toList⟩ C β s' a' w' -> _ := fun s' a' w' ⟨g, hr⟩ hi => jmU (w := w) (C := C) (β := β) (s' := s') (a' := a') (w' := w') (fn := fn) (post := post) (y := y) hc (by rw [<- h4, hn]) hr hi
 intro e1 s' a' w' hq hi
 cases e1 with
 | normal => obtain ⟨k1, v, k2, k3⟩ := fin s' a' w' hq hi; exact ⟨k1, v, k2, .inl k3⟩
 | ret => obtain ⟨k1, v, k2, k3⟩ := fin s' a' w' hq hi; exact ⟨k1, v, k2, .inl k3⟩
 | _ => exact hq.elim
@[irreducible] def jzj (P : Program) (f : Nat) (args : List A) (s : S) (K : S -> Prop) : Prop :=
 (∀ vs w, (callFunc f vs).run P w = .ok (.enter f vs) w) ∧
 ∃ (X ids : List Nat) (g e k n : Nat) (cs : List A) (ins : List (List A)) (args' : List A) (post : List (List A) -> Nat -> List A -> A -> Prop), X.Nodup /\ (∀ i ∈ X, i < s.bx.length) /\ (ja3 s.rw ids)[g]? = some (.live e k n cs) ∧
  jeG X g (ja3 s.rw ids) (X.map fun i => s.bx.getD i []) = some ins /\ jbF X g (ja3 s.rw ids) args = some args' /\ (okL args' -> jo8 (ClD P f .returning .returning) ins e k n cs args' post fun _ => False) ∧
  ∀ outs n' cs' r, post outs n' cs' r -> outs.length = X.length -> jie X s.rw.length s.bx X outs fun bx' => jbO (backG X s.rw.length r) fun r' => jaG ((ja3 s.rw ids).set g .gone ++ [.live e k n' cs']) fun rw' => jc4 s bx' rw' K
def jcg (c : Cx) (e k : Nat) (rv : List ResultVar) (post : List (List A) -> Nat -> List A -> A -> Prop) : List (Nat × List A) -> S -> Prop
 | [], s => ∃ g, jv2 c e k g rv post s
 | (f, args) :: r, s => jzj c.P f args s fun s' => jcg c e k rv post r s'
theorem jj7 {w0 : W0} {C0 : Rd} {β0 : List Nat} {e k : Nat} {fn : Func} {post : List (List A) -> Nat -> List A -> A -> Prop} {R : Ending -> World -> Prop} {tmps : Array Value} (hfin : ∀ s' w', (∃ g, jv2 c e k g fn.results.toList post s') -> Inv [] w0 C0 β0 s' { tmps := tmps, defers := [] } w' -> ∃ v, (results fn tmps).run c.P w' = .ok v w' /\ R (.returned v) w') :
  ∀ (dr : List (Nat × List A)) (ds : List Deferred) (s : S) (E : Env) (w : World), repD dr E ds -> Hp w0 C0 β0 s.bx s.rw w E -> A.repL s.t E tmps.toList -> jcg c e k fn.results.toList post dr s -> Leaves c.P fn tmps R ds .returning w
 | [], ds, s, E, w, hd, hp, ht, h => by
  obtain rfl : ds = [] := hd
  exact hfin s w h ⟨E, hp, ht, rfl⟩
 | (f, args) :: r, ds, s, E, w, ⟨d, ds', cap, hds, htg, hargs, hrest⟩, hp, ht, h => by
  subst hds;unfold jcg jzj at h
  obtain ⟨hcall, X, ids, g, e0, k0, n0, cs0, ins, args', post', hn, hX, hg, hins, hargs', hspec, hk⟩ := h
  obtain ⟨-, hcx⟩ := joz (pan := fun _ _ => False) (Xr := fun _ => true) (K := fun _ s' => jcg c e k fn.results.toList post r s') (Cl := ClD c.P f .returning .returning) ClD.mono hp hargs rfl hn (fun _ _ => rfl) hX hg hins hargs' hspec (fun outs n' cs' r hp hl => hk outs n' cs' r hp hl) (fun ch bx' h _ _ => h.elim)
  obtain ⟨t, da⟩ := d
  simp only at htg hargs hcx
  subst htg;refine leaves_cons (f := f) (args := da ++ cap) (by simp) (by simp [invoke, hcall]) ?_
  have hcx' : CallsD c.P f (da ++ cap) .returning w fun e' m w' => m = .returning /\ ((∃ y, e' = .returned y /\ Left w0 C0 β0 (fun _ => true) s E w (fun _ s' => jcg c e k fn.results.toList post r s') y w') ∨ ∃ (ch : List PanicEntry) (s' : S) (E' : Env), e' = .panicked ch /\ False /\ s'.t = s.t /\ E.le E' /\ Hp w0 C0 β0 s'.bx s'.rw w' E') := hcx
  refine CallsD.mono hcx' ?_;rintro e' m w' ⟨rfl, ⟨y, rfl, ⟨⟨r0, s', E', h1, h2, h3, h4, h5, _⟩⟩⟩ | ⟨ch, s', E', _, h, _⟩⟩
  ·exact jj7 hfin r ds' s' E' w' (hrest.mono h3) h4 (by rw [h2]; exact A.repL.mono _ h3 ht) h1
  ·exact h.elim
theorem jbu {f : Nat} {fn : Func} {x : Code} {ins : List (List A)} {e k n : Nat} {cs args : List A} {post : List (List A) -> Nat -> List A -> A -> Prop} (hc : c.ok) (hf : c.P.funcs[f]? = some fn) (hb : fn.body = some x) (hname : (fn.name == "runtime.NumGoroutine") = false)
  (hn : ins.length = c.np) (h : okL args -> je0 args (fn.ntmps - args.length) fun t => OkT c.P c.np (fun _ _ _ => False) (fun dr ex s => (ex = .normal ∨ ex = .ret) /\ jcg c e k fn.results.toList post dr s) [] x ⟨t, ins, [.live e k n cs]⟩) : jmg c.P f ins e k n cs args post := by
 refine ⟨jdB hf hb hname, fun w C β vals y xs h0 h1 h2 h3 h4 h5 h6 h7 h8 h9 => ?_⟩;refine calls_of_wp_defers hf hb ?_
 have hinit := initK_iff.1 (h (jbx _ h9))
 have hinv := jfT (nt := fn.ntmps) h0 h1 h2 h3 h4 h5 h6 h7 h8 h9
 unfold OkT at hinit;refine hinit ⟨w, (blk y).toList⟩ C β _ w _ (by rw [<- h4, hn]) hinv (fun dr ch s' a' w' hl _ => hl.elim) (fun dr ex s' a' w' hl ⟨E, hp, ht, hd⟩ => ?_)
 have key := jj7 (c := c) (e := e) (k := k) (fn := fn) (post := post) (tmps := a'.tmps) (R := fun e' w' => (∃ (outs : List (List A)) (n' : Nat) (cs' : List A) (r : A) (v y' : Value) (xs' : List Value) (C' : Rd), e' = .returned v /\ post outs n' cs' r /\ Keeps (β ++ (blk y).toList) w w' /\ Sub C C' /\ Sub C' (see w') /\ (∀ ad u, C' ad = some u -> C ad = some u ∨ w.heap.size <= ad.block ∨ blk y = some ad.block) /\ outs.length = β.length ∧
   (∀ (i b : Nat) (cs : List A), β[i]? = some b -> outs[i]? = some cs -> boxAt w' ⟨C', β, [y']⟩ b cs) /\ owR w' e k y' n' xs' /\ A.repC cs' ⟨C', [], []⟩ xs' /\ (∀ b, blk y' = some b -> (∀ o sp, C' ⟨b, o, sp⟩ = none) /\ (w.heap.size <= b ∨ blk y = some b)) /\ r.rep ⟨C', β, [y']⟩ v) ∨
   ∃ (ch : List PanicEntry) (ns : List Nat), e' = .panicked ch /\ False /\ Keeps (β ++ (blk y).toList) w w' /\ ns.length = β.length /\ ∀ (i b n : Nat), β[i]? = some b -> ns[i]? = some n -> boxAt w' ⟨C, β, []⟩ b (List.replicate n .dead))
  (fun s2 w2 ⟨g, hr⟩ hi => by
   obtain ⟨-, v, q1, q2⟩ := jmU (w := w) (C := C) (β := β) (fn := fn) (post := post) (y := y) hc (by rw [<- h4, hn]) hr hi
   exact ⟨v, q1, .inl q2⟩) dr a'.defers s' E w' hd hp ht hl.2
 rcases hl.1 with rfl | rfl
 ·exact key
 ·exact key
end
section
variable {c : Cx} {P : Program} {np : Nat} {pt : List (Nat × List A) -> List PanicEntry -> S -> Prop} {qt : List (Nat × List A) -> Exit -> S -> Prop} {dr : List (Nat × List A)} {s : S}
theorem jcZ {x y : Code} (h : OkT P np pt (fun dr' e s' => tQ P np pt qt dr' y e s') dr x s) : OkT P np pt qt dr (.seq x y) s := by
 unfold OkT at h ⊢;intro w0 C0 β0 a w Q hn hi hx hk;refine wp_seq (h w0 C0 β0 a w _ hn hi (fun dr' ch s' a' w' h1 h2 => hx dr' ch s' a' w' h1 h2) fun dr' e s' a' w' h1 h2 => ?_)
 cases e with
 | normal =>
  have h1 : OkT P np pt qt dr' y s' := h1
  unfold OkT at h1;exact h1 w0 C0 β0 a' w' Q hn h2 hx hk
 | _ => exact hk dr' _ _ _ _ h1 h2
theorem jbW {b : Operand} {x y : Code} (hb : ev s b = .v (.bool true)) (h : OkT P np pt qt dr x s) : OkT P np pt qt dr (.cond b x y) s := by
 unfold OkT at h ⊢;rintro w0 C0 β0 a w Q hn ⟨E, hp, ht, hd⟩ hx hk
 have hv := (jd3 ht hb).1
 exact wp_cond_split hv (fun _ => h w0 C0 β0 a w Q hn ⟨E, hp, ht, hd⟩ hx hk) (fun e => by cases e)
def jyY (s : S) (ids : List Nat) (fo : Operand) (xs : List Operand) (K : Nat -> List A -> S -> Prop) : Prop :=
 match s with
 | ⟨t, bx, rw⟩ => jaG (ja3 rw ids) fun rw' => jgK (jjN rw') t fun t' => jmF rw' bx fun bx' => match ev ⟨t', bx', rw'⟩ fo with
  | .clo f caps => jgK (ev ⟨t', bx', rw'⟩) xs fun l => K f (l ++ caps) ⟨t', bx', rw'⟩
  | _ => False
theorem jbb {id : Nat} {l : List Oper} {od : Oper} {fo : Operand} {xs : Array Operand} {ts : Array TypeId} (ids : List Nat) (hc : c.ok) (hdr : ∃ n, jch n dr = true) (hp : ∀ ch s', c.pan ch s' -> pt dr ch s') (hop : od.op = .defer ⟨.value fo, xs, ts⟩) (hg : od.guard = none) (hd : od.dst = none)
  (h : jmw c (l ++ [od]) l s fun s' => jyY s' ids fo xs.toList fun f args s'' => qt ((f, args) :: dr) .normal s'') : OkT c.P c.np pt qt dr (.region id (l ++ [od]).toArray false) s := by
 unfold OkT;intro w0 C0 β0 a w Q hn hi hx hk;refine wp_region_lit (jka (l2 := [od]) (Q := Q) hc hdr (fun ch s' a' w' h1 h2 => hx dr ch s' a' w' (hp ch s' h1) h2) hi h fun s' a' w' h1 h2 => ?_)
 refine wpList_step fun Kc hKc => ?_
 rw [if_pos (by simp [Region.wanted, hg])]
 obtain ⟨t, bx, rw'⟩ := s'
 unfold jyY at h1
 simp only at h1
 rw [jay, jax, jfg] at h1
 have hle : Le (β0.length) ⟨t, bx, rw'⟩ _ := (jqb (np := β0.length) (s := ⟨t, bx, rw'⟩) ids).trans jrG
 -- publishing keeps what is deferred
 obtain ⟨E, hpp, ht, hdd⟩ := h2
 obtain ⟨C', hp1, le1⟩ := hpp.pubs ids
 have ht1 := jfi (E := ⟨C', E.β, E.ρ⟩) hp1 (A.repL.mono _ le1 ht)
 have hd1 := hdd.mono le1
 have hp2 : Hp w0 C0 β0 (bx.map fun c => c.map (jjN (ja3 rw' ids))) (ja3 rw' ids) w' ⟨C', E.β, E.ρ⟩ := by
  refine ⟨hp1.sub, hp1.base, hp1.fresh, hp1.bp, hp1.bnd, hp1.bC, by simpa using hp1.bl, fun i b cs h1 h2 => ?_, hp1.rl, hp1.rws, hp1.rC, hp1.rd, hp1.rs, hp1.keep, hp1.gk⟩;rw [List.getElem?_map, Option.map_eq_some_iff] at h2
  obtain ⟨c0, h2, rfl⟩ := h2
  obtain ⟨T', arr, h3, h4⟩ := hp1.bxs i b c0 h1 h2
  exact ⟨T', arr, h3, h4.map (jjN (ja3 rw' ids)) (fun l us k => jfi (E := ⟨C', E.β, E.ρ⟩) hp1 k) rfl (fun t => rfl) fun a t e => by
   unfold jjN at e
   split at e
   ·split at e <;> cases e
   ·exact e⟩
 split at h1
 ·rename_i f caps hev
  rw [jax] at h1
  have hf := jai (s := ⟨t.map (jjN (ja3 rw' ids)), bx.map fun c => c.map (jjN (ja3 rw' ids)), ja3 rw' ids⟩) ht1 fo
  rw [hev] at hf;unfold A.rep at hf
  obtain ⟨us, hf, hcaps⟩ := hf
  have hrun : (execOp a'.eval od).run c.P w' = .ok (.defer { target := .fn (.func f) us, args := xs.map a'.eval }) w' := by simp [execOp, hop, resolve, Deferred.ofValue, hf, Result.andThen]
  unfold Oper.wp;rw [hrun, Oper.upon_defer];rw [hd];refine hKc _ _ (hk _ _ _ _ _ h1 ⟨⟨C', E.β, E.ρ⟩, hp2, ht1, { target := .fn (.func f) us, args := xs.map a'.eval }, a'.defers, us, rfl, rfl, ?_, hd1⟩)
  have := A.repL_append (jcL (s := ⟨t.map (jjN (ja3 rw' ids)), bx.map fun c => c.map (jjN (ja3 rw' ids)), ja3 rw' ids⟩) ht1 xs.toList) hcaps
  simpa using this
 ·exact h1.elim
end
theorem jio {P : Program} {f : Nat} {args args' : List A} {s : S} {K : S -> Prop} {post : List (List A) -> Nat -> List A -> A -> Prop} (i g m : Nat) (ids : List Nat) (hm : s.rw.length = m) {e k n : Nat} {cs c0 c1 : List A} (hi : s.bx[i]? = some c0) (hg : (ja3 s.rw ids)[g]? = some (.live e k n cs)) (h1 : jbF [i] g (ja3 s.rw ids) c0 = some c1) (h2 : jbF [i] g (ja3 s.rw ids) args = some args') (hs : jpU P f [c1] e k n cs args' post)
  (hk : ∀ o n' cs' r, post [o] n' cs' r -> jie [i] m s.bx [i] [o] fun bx' => jbO (backG [i] m r) fun r' => jaG ((ja3 s.rw ids).set g .gone ++ [.live e k n' cs']) fun rw' => jc4 s bx' rw' K) : jzj P f args s K := by
 subst hm;unfold jzj
 have hil := (List.getElem?_eq_some_iff.1 hi).1
 refine ⟨hs.r.1, [i], ids, g, e, k, n, cs, [c1], args', post, by simp, by simpa using hil, hg, ?_, h2, fun _ => hs.d .returning, fun outs n' cs' r hp hl => ?_⟩
 ·have : s.bx.getD i [] = c0 := by simp [List.getD_eq_getElem?_getD, hi]
  simp only [List.map_cons, List.map_nil, this, jeG, h1]
 ·obtain ⟨o, rfl⟩ : ∃ o, outs = [o] := List.length_eq_one_iff.1 (by simpa using hl)
  exact hk o n' cs' r hp
end
end Go.Proofs.YtmodkpibkkpcdaaGreatDoor.Vm
namespace Go.Proofs.YtmodkpibkkpcdaaGreatDoor.Vm
open Go.RowKit Go.Shelf
set_option linter.unusedSimpArgs false
set_option linter.unusedVariables false
set_option maxRecDepth 100000
theorem jl6 (c : UInt8) : Spec Tryz.prog 84 [] [.v (.int .u8 (c.toNat : Int))] fun _ r => r = jbE (jbP c) := by
 have hm : 0 <= (c.toNat : Int) /\ (c.toNat : Int) <= 255 := by have := c.toNat_lt; omega
 unfold jbP isL isD;generalize (c.toNat : Int) = n at *;refine ja5 (ja2 jak xs0 0) (fun _ _ h => h) Tryz.func84 rfl (by kernel_rfl) rfl (by kernel_rfl) ?_;intro _;conv => whnf
 by_cases h1 : 97 <= n
 ·rw [decide_eq_true h1];conv => whnf
  by_cases h2 : n <= 122
  ·rw [decide_eq_true h2];conv => whnf
   rfl
  ·rw [decide_eq_false h2];conv => whnf
   rw [decide_eq_true (show 48 <= n by omega)];conv => whnf
   rw [decide_eq_false (show ¬ n <= 57 by omega)];conv => whnf
   rfl
 ·rw [decide_eq_false h1];conv => whnf
  by_cases h3 : 48 <= n
  ·rw [decide_eq_true h3];conv => whnf
   rcases Decidable.em (n <= 57) with h4 | h4
   ·rw [decide_eq_true h4];conv => whnf
    rfl
   ·rw [decide_eq_false h4];conv => whnf
    rfl
  ·rw [decide_eq_false h3];conv => whnf
   rfl
def PrT : Nat := 94
theorem jhi : liesAt Tryz.prog Tryz.prog.depth PrT (2 / Tryz.prog.cellsOf PrT) 0 92 1 = true := by kernel_rfl
abbrev jo9 (f : Nat) (ins : List (List A)) (s : ByteArray) (args : List A) (post : List (List A) -> ByteArray -> A -> Prop) : Prop :=
 jpU Tryz.prog f ins 5 0 s.size [.v (.string s)] args fun o n cs r => ∃ s', n = s'.size /\ cs = [.v (.string s')] /\ post o s' r
def jkp (s : ByteArray) (l : List ByteArray) : ByteArray := l.foldl ja1 s
theorem jru (s : ByteArray) (l : List ByteArray) (j : Nat) (h : j < l.length) : jkp s (l.take (j + 1)) = ja1 (jkp s (l.take j)) l[j] := by
 unfold jkp;rw [List.take_succ_eq_append_getElem h, List.foldl_append]; rfl
set_option maxHeartbeats 1000000 in
theorem jjD (s : ByteArray) (l : List ByteArray) (hll : l.length <= 1000000) (hne : ∀ x ∈ l, 0 < x.size) (hz : ∀ j, (jkp s (l.take j)).size <= 1000000000) : jo9 49 [[.adr PrT, .own 0]] s [.box 0 0, .sl 1 l.length (txA l)] fun o s' r => o = [[.adr PrT, .own 0]] /\ s' = jkp s l /\ r = .tup [] := by
 obtain ⟨S, hS⟩ : ∃ S : Nat -> ByteArray, ∀ j, S j = jkp s (l.take j) := ⟨_, fun _ => rfl⟩
 have hS0 : S 0 = s := by rw [hS]; rfl
 have hSl : S l.length = jkp s l := by rw [hS, List.take_length]
 have hSz : ∀ j, (S j).size <= 1000000000 := fun j => by rw [hS]; exact hz j
 rw [<- hSl, <- hS0];refine jsn (ja2 jak xs0 1) (fun _ _ h => h) Tryz.func49 rfl (by kernel_rfl) rfl (by kernel_rfl) ?_;intro _;conv => whnf
 refine jaj [0, 1, 7, 8] ?_;conv => whnf
 refine jaL (fun j : Nat => [(9, .v (.int .i64 j))]) (fun _ => [[.adr PrT, .own 0]]) (fun j => [.live 5 0 (S j).size [.v (.string (S j))]]) (fun j => j <= l.length) (fun j => l.length - j) 0 ?_ (Nat.zero_le _) ?_
 ·repeat' constructor
 rintro j hj;conv => whnf
 by_cases hlt : j < l.length
 ·rw [decide_eq_true (show (j : Int) < (l.length : Int) by omega)]
  have hrow : jac 1 j (txA l) = [jaT l[j]] := jbI jaT l j hlt
  have hx := hne l[j] (List.getElem_mem hlt)
  have hSn : S (j + 1) = ja1 (S j) l[j] := by rw [hS, hS]; exact jru s l j hlt
  have hz1 := hSz j
  have hz2 := hSz (j + 1)
  rw [hSn] at hz2;generalize l[j] = x at *;conv => whnf
  refine ⟨by omega, ?_⟩;conv => whnf
  (generalize hrq : jac _ _ (txA l) = rq; obtain rfl : rq = [jaT x] := hrq.symm.trans (hrow); clear hrq; conv => whnf)
  refine ja6 0 0 1 [] rfl rfl rfl rfl rfl rfl rfl (fun _ => jqJ PrT (S j)) ?_;rintro o n' cs' r ⟨s', rfl, rfl, ho, rfl, rfl⟩;cases ho;conv => whnf
  by_cases e0 : S j = ⟨#[]⟩
  ·have hg : ja1 (S j) x = S j ++ x := by unfold ja1; rw [if_pos e0]
   have hs0 : (S j).size = 0 := by rw [e0]; rfl
   rw [decide_eq_false (show ¬ (0 : Int) < ((S j).size : Int) by omega)];rw [hg, ByteArray.size_append] at hz2;rw [hg] at hSn;conv => whnf
   refine ja6 0 1 2 [] rfl rfl rfl rfl rfl rfl rfl (fun _ => jcU PrT jhi _ x (by omega)) ?_;rintro o n' cs' r ⟨s', rfl, rfl, ho, hs', rfl⟩;cases ho;conv => whnf
   refine ⟨jaI (by omega), ?_⟩;conv => whnf
   refine ⟨j + 1, jas [2] ?_, hlt, by omega⟩;conv => whnf
   subst hs';rw [show S (j + 1) = _ from hSn]
   repeat' constructor
  ·have hs0 := jbc e0
   have h1 := jl6 (jbQ (S j))
   have h2 := jl6 (jaq x)
   rw [decide_eq_true (show (0 : Int) < ((S j).size : Int) by omega)]
   have hgl : ja1 (S j) x = if jbP (jbQ (S j)) = false then S j ++ x else if jbP (jaq x) = false then S j ++ x else S j ++ ⟨#[32]⟩ ++ x := by
    unfold ja1;rw [if_neg e0, if_neg (fun e => by rw [e] at hx; exact absurd hx (by decide))]
   conv => whnf
   refine ja6 0 1 2 [] rfl rfl rfl rfl rfl rfl rfl (fun _ => jgm PrT (S j) hs0) ?_;rintro o n' cs' r ⟨s', rfl, rfl, ho, rfl, rfl⟩;cases ho;conv => whnf
   refine ⟨jaI (by omega), ?_⟩;conv => whnf
   refine ⟨⟨by omega, by omega⟩, ?_⟩;rw [show (S j).data.toList.getD (Int.toNat (((S j).size : Int) - 1)) 0 = jbQ (S j) from by unfold jbQ; congr 1; omega];generalize jbP (jbQ (S j)) = p at *
   (refine ja9 [] rfl (fun _ => h1) ?_; rintro r rfl; conv => whnf)
   cases p
   ·rw [if_pos rfl] at hgl;rw [hgl, ByteArray.size_append] at hz2;rw [hgl] at hSn;conv => whnf
    refine ja6 0 2 3 [] rfl rfl rfl rfl rfl rfl rfl (fun _ => jcU PrT jhi _ x (by omega)) ?_;rintro o n' cs' r ⟨s', rfl, rfl, ho, hs', rfl⟩;cases ho;conv => whnf
    refine ⟨jaI (by omega), ?_⟩;conv => whnf
    refine ⟨j + 1, jas [3] ?_, hlt, by omega⟩;conv => whnf
    subst hs';rw [show S (j + 1) = _ from hSn]
    repeat' constructor
   ·rw [if_neg (by decide)] at hgl;conv => whnf
    refine ⟨⟨by omega, by omega⟩, ?_⟩;rw [show x.data.toList.getD (Int.toNat 0) 0 = jaq x from rfl];generalize jbP (jaq x) = q at *
    (refine ja9 [] rfl (fun _ => h2) ?_; rintro r rfl; conv => whnf)
    cases q
    ·rw [if_pos rfl] at hgl;rw [hgl, ByteArray.size_append] at hz2;rw [hgl] at hSn;conv => whnf
     refine ja6 0 2 3 [] rfl rfl rfl rfl rfl rfl rfl (fun _ => jcU PrT jhi _ x (by omega)) ?_;rintro o n' cs' r ⟨s', rfl, rfl, ho, hs', rfl⟩;cases ho;conv => whnf
     refine ⟨jaI (by omega), ?_⟩;conv => whnf
     refine ⟨j + 1, jas [3] ?_, hlt, by omega⟩;conv => whnf
     subst hs';rw [show S (j + 1) = _ from hSn]
     repeat' constructor
    ·rw [if_neg (by decide)] at hgl;rw [hgl, ByteArray.size_append, ByteArray.size_append] at hz2
     have hsp : (⟨#[32]⟩ : ByteArray).size = 1 := rfl
     rw [hsp] at hz2;rw [hgl] at hSn;conv => whnf
     refine ja6 0 2 3 [] rfl rfl rfl rfl rfl rfl rfl (fun _ => jlq PrT jhi (S j) 32 (by omega) (by omega)) ?_;rintro o n' cs' r ⟨s', rfl, rfl, ho, hs', rfl⟩
     obtain rfl : s' = S j ++ ⟨#[32]⟩ := hs'
     cases ho;conv => whnf
     refine ja6 0 3 4 [] rfl rfl rfl rfl rfl rfl rfl (fun _ => jcU PrT jhi _ x (by rw [ByteArray.size_append, hsp]; omega)) ?_;rintro o n' cs' r ⟨s', rfl, rfl, ho, hs', rfl⟩;cases ho;conv => whnf
     refine ⟨jaI (by omega), ?_⟩;conv => whnf
     refine ⟨j + 1, jas [4] ?_, hlt, by omega⟩;conv => whnf
     subst hs';rw [show S (j + 1) = _ from hSn]
     repeat' constructor
 ·rw [decide_eq_false (show ¬ (j : Int) < (l.length : Int) by omega)]
  obtain rfl : j = l.length := by omega
  conv => whnf
  refine ⟨0, ?_⟩;conv => whnf
  exact ⟨_, rfl, rfl, rfl, rfl, rfl⟩
theorem jtn (s x : ByteArray) : jkp s [x] = ja1 s x := rfl
theorem jt6 (s x y : ByteArray) : jkp s [x, y] = ja1 (ja1 s x) y := rfl
theorem ja4 (s x : ByteArray) (hx : 0 < x.size) (hz : s.size + x.size + 1 <= 1000000000) : jo9 49 [[.adr PrT, .own 0]] s [.box 0 0, .sl 1 1 [jaT x]] fun o s' r => o = [[.adr PrT, .own 0]] /\ s' = ja1 s x /\ r = .tup [] := by
 refine jjD s [x] (by simp) (by simpa using hx) fun j => ?_
 have := ja0 s x
 match j with
 | 0 => show s.size <= _; omega
 | j + 1 => show (jkp s ([x].take (j + 1))).size <= _; rw [show [x].take (j + 1) = [x] by simp, jtn]; omega
theorem jbN (s x y : ByteArray) (hx : 0 < x.size) (hy : 0 < y.size) (hz : s.size + x.size + y.size + 2 <= 1000000000) : jo9 49 [[.adr PrT, .own 0]] s [.box 0 0, .sl 1 2 [jaT x, jaT y]] fun o s' r => o = [[.adr PrT, .own 0]] /\ s' = ja1 (ja1 s x) y /\ r = .tup [] := by
 refine jjD s [x, y] (by simp) (by simpa using ⟨hx, hy⟩) fun j => ?_
 have h1 := ja0 s x
 have h2 := ja0 (ja1 s x) y
 match j with
 | 0 => show s.size <= _; omega
 | 1 => show (ja1 s x).size <= _; omega
 | j + 2 => show (jkp s ([x, y].take (j + 2))).size <= _; rw [show [x, y].take (j + 2) = [x, y] by simp, jt6]; omega
theorem jhY (s x y z : ByteArray) (hx : 0 < x.size) (hy : 0 < y.size) (hw : 0 < z.size) (hz : s.size + x.size + y.size + z.size + 3 <= 1000000000) : jo9 49 [[.adr PrT, .own 0]] s [.box 0 0, .sl 1 3 [jaT x, jaT y, jaT z]] fun o s' r => o = [[.adr PrT, .own 0]] /\ s' = ja1 (ja1 (ja1 s x) y) z /\ r = .tup [] := by
 refine jjD s [x, y, z] (by simp) (by simpa using ⟨hx, hy, hw⟩) fun j => ?_
 have h1 := ja0 s x
 have h2 := ja0 (ja1 s x) y
 have h3 := ja0 (ja1 (ja1 s x) y) z
 match j with
 | 0 => show s.size <= _; omega
 | 1 => show (ja1 s x).size <= _; omega
 | 2 => show (ja1 (ja1 s x) y).size <= _; omega
 | j + 3 => show (jkp s ([x, y, z].take (j + 3))).size <= _; rw [show [x, y, z].take (j + 3) = [x, y, z] by simp]; show (ja1 (ja1 (ja1 s x) y) z).size <= _; omega
def jfV : Go.Shelf.Ren := ⟨fun | 129 => 173 | 171 => 51 | 243 => 88 | 246 => 119 | 283 => 141 | 284 => 142 | 285 => 143 | 286 => 144 | 317 => 176 | 318 => 177 | 319 => 178 | 320 => 179 | 337 => 191 | 338 => 192 | n => n, fun | 37 => 69 | 46 => 163 | 51 => 193 | 53 => 128 | 171 => 172 | 173 => 175 | 212 => 199 | 213 => 200 | 232 => 217 | 233 => 218 | n => n, fun | 17 => 3 | 18 => 4 | 19 => 5 | n => n⟩
theorem jkj : LaysM.n171 Tryz.prog jfV where
 mixed := by kernel_rfl
 f129 := Tryz.func173.trans (congrArg some (by kernel_rfl))
 f171 := Tryz.func51.trans (congrArg some (by kernel_rfl))
 f243 := Tryz.func88.trans (congrArg some (by kernel_rfl))
 f246 := Tryz.func119.trans (congrArg some (by kernel_rfl))
 f283 := Tryz.func141.trans (congrArg some (by kernel_rfl))
 f284 := Tryz.func142.trans (congrArg some (by kernel_rfl))
 f285 := Tryz.func143.trans (congrArg some (by kernel_rfl))
 f286 := Tryz.func144.trans (congrArg some (by kernel_rfl))
 f317 := Tryz.func176.trans (congrArg some (by kernel_rfl))
 f318 := Tryz.func177.trans (congrArg some (by kernel_rfl))
 f319 := Tryz.func178.trans (congrArg some (by kernel_rfl))
 f320 := Tryz.func179.trans (congrArg some (by kernel_rfl))
 f337 := Tryz.func191.trans (congrArg some (by kernel_rfl))
 f338 := Tryz.func192.trans (congrArg some (by kernel_rfl))
 t0 := Tryz.underlying0
 a0 := Tryz.isAgg0
 z0 := Tryz.sizeOf0
 v0 := Tryz.zeroValue0
 t2 := Tryz.underlying2
 a2 := Tryz.isAgg2
 z2 := Tryz.sizeOf2
 v2 := Tryz.zeroValue2
 t3 := Tryz.underlying3
 a3 := Tryz.isAgg3
 z3 := Tryz.sizeOf3
 v3 := Tryz.zeroValue3
 t4 := Tryz.underlying4
 a4 := Tryz.isAgg4
 z4 := Tryz.sizeOf4
 v4 := Tryz.zeroValue4
 t5 := Tryz.underlying5
 a5 := Tryz.isAgg5
 z5 := Tryz.sizeOf5
 v5 := Tryz.zeroValue5
 t9 := Tryz.underlying9
 a9 := Tryz.isAgg9
 z9 := Tryz.sizeOf9
 v9 := Tryz.zeroValue9
 t20 := Tryz.underlying20
 a20 := Tryz.isAgg20
 z20 := Tryz.sizeOf20
 v20 := Tryz.zeroValue20
 t37 := Tryz.underlying69
 a37 := Tryz.isAgg69
 z37 := Tryz.sizeOf69
 v37 := Tryz.zeroValue69
 t46 := Tryz.underlying163
 a46 := Tryz.isAgg163
 z46 := Tryz.sizeOf163
 v46 := Tryz.zeroValue163
 t51 := Tryz.underlying193
 a51 := Tryz.isAgg193
 z51 := Tryz.sizeOf193
 v51 := Tryz.zeroValue193
 t53 := Tryz.underlying128
 a53 := Tryz.isAgg128
 z53 := Tryz.sizeOf128
 v53 := Tryz.zeroValue128
 t171 := Tryz.underlying172
 a171 := Tryz.isAgg172
 z171 := Tryz.sizeOf172
 v171 := Tryz.zeroValue172
 t173 := Tryz.underlying175
 a173 := Tryz.isAgg175
 z173 := Tryz.sizeOf175
 v173 := Tryz.zeroValue175
 t212 := Tryz.underlying199
 a212 := Tryz.isAgg199
 z212 := Tryz.sizeOf199
 v212 := Tryz.zeroValue199
 t213 := Tryz.underlying200
 a213 := Tryz.isAgg200
 z213 := Tryz.sizeOf200
 t232 := Tryz.underlying217
 a232 := Tryz.isAgg217
 z232 := Tryz.sizeOf217
 v232 := Tryz.zeroValue217
 t233 := Tryz.underlying218
 a233 := Tryz.isAgg218
 z233 := Tryz.sizeOf218
 v233 := Tryz.zeroValue218
 g17 := by kernel_rfl
 g18 := by kernel_rfl
 g19 := by kernel_rfl
 i0 := by kernel_rfl
 i2 := by kernel_rfl
 i3 := by kernel_rfl
 i4 := by kernel_rfl
 i5 := by kernel_rfl
 i9 := by kernel_rfl
 i20 := by kernel_rfl
 i37 := by kernel_rfl
 i46 := by kernel_rfl
 i51 := by kernel_rfl
 i53 := by kernel_rfl
 i171 := by kernel_rfl
 i173 := by kernel_rfl
 i212 := by kernel_rfl
 i232 := by kernel_rfl
 i233 := by kernel_rfl
 m17 := by kernel_rfl
 m18 := by kernel_rfl
 m19 := by kernel_rfl

theorem jxX {w : World} {C : Rd} (h : Gok C w) (hs : Sub C (see w)) : Lib.TabIs Tryz.prog w "internal/strconv.uint64pow10" .u64 Lib.pow10Tab := by
 have hm : (3, (List.range 20).map fun i => A.v (.int .u64 ((10 ^ i : Nat) : Int))) ∈ globs := by unfold globs; exact List.mem_cons_self
 obtain ⟨cs, T, sp, h1, h2⟩ := h.sz _ hm
 obtain ⟨us, k1, k2⟩ := A.repAt_vals (h.cs _ hm).2
 unfold Lib.TabIs World.var?;rw [show Tryz.prog.globalNamed "internal/strconv.uint64pow10" = some 3 by kernel_rfl, Option.bind_some]
 have h1 : w.heap[3]? = some (.cells cs T sp) := h1
 rw [h1]
 have hv : us = (Lib.pow10Tab.map fun z => Value.int .u64 z) := by
  have e : ((List.range 20).map fun i => A.v (.int .u64 ((10 ^ i : Nat) : Int))) = (Lib.pow10Tab.map fun z => Value.int .u64 z).map A.v := by unfold Lib.pow10Tab; rw [List.map_map, List.map_map]; rfl
  have k1 := A.repC_L k1
  rw [e] at k1;exact jg1 k1
 subst hv
 show some cs = _
 refine congrArg some ?_
 apply Array.ext_getElem?
 intro i
 by_cases hi : i < cs.size
 ·have hi2 : i < 20 := by rw [h2] at hi; simpa using hi
  obtain ⟨u, hu⟩ : ∃ u, (Lib.pow10Tab.map fun z => Value.int .u64 z)[i]? = some u := ⟨_, List.getElem?_eq_getElem (by simp [Lib.pow10Tab, hi2])⟩
  have := hs _ _ (k2 i u hu)
  change w.cell? _ = _ at this
  have e2 : (List.map (fun z => Value.int IntKind.u64 z) Lib.pow10Tab).toArray[i]? = some u := by rw [List.getElem?_toArray]; exact hu
  refine Eq.trans ?_ e2.symm;rw [<- this]
  simp [World.cell?, h1]
 ·rw [Array.getElem?_eq_none (by omega), List.getElem?_toArray, List.getElem?_eq_none (by rw [h2] at hi; simp [Lib.pow10Tab] at hi ⊢; exact hi)]
theorem jse (n : Int) : Spec Tryz.prog 51 [] [jao n] fun _ r => (-9223372036854775808 <= n /\ n <= 9223372036854775807) /\ r = jaT (bs (Lib.itoa n)) := by
 refine ⟨jeS Tryz.func51 rfl (by kernel_rfl), ?_⟩;intro w C β vals hg hsub h2 h3 h4 h5 hv
 obtain ⟨u, us, rfl, h6, h7⟩ := hv
 have e1 := (A.rep_v_iff.1 h6).1
 have hn := okV_int.1 (A.rep_v_iff.1 h6).2
 obtain rfl : us = [] := h7
 subst e1
 have hβ : β = [] := List.eq_nil_of_length_eq_zero (by simpa using h4.symm)
 subst hβ;refine (Any.strconv_Itoa jkj n hn.1 hn.2 w (jxX hg hsub)).mono ?_;rintro e w' ⟨rfl, k, os, rfl⟩;exact ⟨[], jaT (bs (Lib.itoa n)), _, rfl, ⟨hn, rfl⟩, Keeps.of_ext (Lib.below_grow _ _ (Nat.le_refl _) k os), rfl, fun i b cs hb => by simp at hb, A.rep_v (by show (bs (Lib.itoa n)).size <= maxLen; rw [jbz]; have := Lib.itoa_length_le n hn.1 hn.2; unfold maxLen; omega)⟩
theorem jw8 : ∀ (u : Nat), Lib.decDigits u = jb3 u := fun u => by
 induction u using Nat.strongRecOn with
 | _ u ih =>
  rw [Lib.decDigits];unfold jb3
  split
  ·by_cases h0 : u = 0
   ·subst h0; rfl
   ·rw [if_neg h0, jcl h0, show u / 10 = 0 by omega, jdd, List.nil_append, show u % 10 = u by omega]
  ·rw [ih (u / 10) (by omega), if_neg (by omega), jcl (by omega)];unfold jb3;rw [if_neg (by omega)]
theorem jdc (n : Int) (hn : 0 <= n) : Spec Tryz.prog 51 [] [jao n] fun _ r => r = jaT (bs (jb3 n.toNat)) := by
 have e : Lib.itoa n = jb3 n.toNat := by
  unfold Lib.itoa
  split
  ·omega
  ·exact jw8 _
 rw [<- e]
 exact (jse n).mono fun _ _ h => h.2
def jvT (b : Bool) : ByteArray := if b = true then ⟨#[116, 114, 117, 101]⟩ else ⟨#[102, 97, 108, 115, 101]⟩
theorem jpr (b : Bool) : Spec Tryz.prog 180 [] [jbE b] fun _ r => r = jaT (jvT b) := by
 refine ja5 (ja2 jak xs0 0) (fun _ _ h => h) Tryz.func180 rfl (by kernel_rfl) rfl (by kernel_rfl) ?_;intro _;conv => whnf
 cases b
 ·conv => whnf
  rfl
 ·conv => whnf
  rfl
theorem jrw (b : Bool) : Spec Tryz.prog 146 [] [jbE b] fun _ r => r = jaT (jvT b) := by
 have h := jpr b
 refine ja5 (ja2 jak xs0 0) (fun _ _ h => h) Tryz.func146 rfl (by kernel_rfl) rfl (by kernel_rfl) ?_;intro _;conv => whnf
 (refine ja9 [] rfl (fun _ => h) ?_; rintro r rfl; conv => whnf)
 conv => whnf
 rfl
def opP (s : ByteArray) : Int := if s = pOr then 1 else if s = jec then 2 else if s = jcJ then 5 else if s = pMinus then 5 else if s = jbG then 6 else if s = jaM then 6 else 4
theorem jst (s : ByteArray) : Spec Tryz.prog 145 [] [jaT s] fun _ r => r = jao (opP s) := by
 unfold opP;refine ja5 (ja2 jak xs0 0) (fun _ _ h => h) Tryz.func145 rfl (by kernel_rfl) rfl (by kernel_rfl) ?_;intro _;conv => whnf
 by_cases g1 : s = pOr
 ·rw [if_pos g1, decide_eq_true (p := s = ⟨_⟩) g1];conv => whnf
  rfl
 rw [if_neg g1, decide_eq_false (p := s = ⟨_⟩) g1];conv => whnf
 by_cases g2 : s = jec
 ·rw [if_pos g2, decide_eq_true (p := s = ⟨_⟩) g2];conv => whnf
  rfl
 rw [if_neg g2, decide_eq_false (p := s = ⟨_⟩) g2];conv => whnf
 by_cases g3 : s = jcJ
 ·rw [if_pos g3, decide_eq_true (p := s = ⟨_⟩) g3];conv => whnf
  rfl
 rw [if_neg g3, decide_eq_false (p := s = ⟨_⟩) g3];conv => whnf
 by_cases g4 : s = pMinus
 ·rw [if_pos g4, decide_eq_true (p := s = ⟨_⟩) g4];conv => whnf
  rfl
 rw [if_neg g4, decide_eq_false (p := s = ⟨_⟩) g4];conv => whnf
 by_cases g5 : s = jbG
 ·rw [if_pos g5, decide_eq_true (p := s = ⟨_⟩) g5];conv => whnf
  rfl
 rw [if_neg g5, decide_eq_false (p := s = ⟨_⟩) g5];conv => whnf
 by_cases g6 : s = jaM
 ·rw [if_pos g6, decide_eq_true (p := s = ⟨_⟩) g6];conv => whnf
  rfl
 rw [if_neg g6, decide_eq_false (p := s = ⟨_⟩) g6];conv => whnf
 rfl
theorem jt2 (n : Int) (s : ByteArray) (ks : List Nt) : jab (Nt.mk 18 n s ks).k (Nt.mk 18 n s ks).s = opP s := by
 unfold jab opP
 show (if (18 : Int) = 17 then _ else if (18 : Int) ≠ 18 then _ else _) = _
 rw [if_neg (by decide), if_neg (by decide)];rfl
theorem jhH (s : ByteArray) : ja1 s eB = s := by rw [jaB, show jda s eB = eB by unfold jda; rw [if_pos (.inr (.inl rfl))]; rfl]; exact (jeD _).trans (jeD _)
theorem jbq (x : ByteArray) : ja1 eB x = x := by unfold ja1; rw [if_pos (show eB = ⟨#[]⟩ from rfl)]; exact jug x
theorem jgG {x : ByteArray} (h : 0 < x.size) : x ≠ ⟨#[]⟩ := fun e => by rw [e] at h; exact absurd h (by decide)
theorem jbL : ∀ (l : List ByteArray), l ≠ [] -> (∀ x ∈ l, 0 < x.size) -> jb4 l ≠ ⟨#[]⟩ := fun l hl h => by
 have e := List.dropLast_concat_getLast hl
 rw [<- e, jf3];exact jhP (jgG (h _ (List.getLast_mem hl)))
theorem jaW (s : ByteArray) : ∀ (n : Nat) (l : List ByteArray), l.length = n -> (∀ x ∈ l, 0 < x.size) -> jkp s l = ja1 s (jb4 l) := fun n => by
 induction n with
 | zero => intro l hl _; rw [List.eq_nil_of_length_eq_zero hl]; exact (jhH s).symm
 | succ n ih =>
  intro l hl h
  have hne : l ≠ [] := fun e => by rw [e] at hl; cases hl
  have e := List.dropLast_concat_getLast hne
  have hd : ∀ x ∈ l.dropLast, 0 < x.size := fun x hx => h x (List.dropLast_subset l hx)
  have e2 : jkp s l = ja1 (jkp s l.dropLast) (l.getLast hne) := by
   conv => lhs; rw [<- e]
   unfold jkp; rw [List.foldl_append]; rfl
  rw [e2, ih l.dropLast (by rw [List.length_dropLast]; omega) hd]
  conv => rhs; rw [<- e, jf3]
  by_cases h0 : l.dropLast = []
  ·rw [h0]
   show ja1 (ja1 s eB) _ = ja1 s (ja1 eB _)
   rw [jhH, jbq]
  ·exact jaJ _ _ _ (jbL _ h0 hd)
def PX (m : Nat) (f : Nt) : Prop := SH false m f /\ (∀ lv, 0 < (shN false f lv).size) /\ ∀ (s : ByteArray) (lv : Int), 0 <= lv -> lv <= 9 -> s.size + m + 10 <= 500000000 -> jln 121 [[.adr PrT, .own 0]] s [.box 0 0, .agg (ntA f), jao lv] fun o s' r => o = [[.adr PrT, .own 0]] /\ s' = ja1 s (shN false f lv) /\ r = .tup []
theorem PX.mono {m m' : Nat} {f : Nt} (h : PX m f) (hm : m <= m') : PX m' f := ⟨h.1.mono hm, h.2.1, fun s lv h0 h9 hs => h.2.2 s lv h0 h9 (by omega)⟩
theorem jet {p lv : Int} {fu : Bool} {b : ByteArray} (h : 0 < b.size) : 0 < (jeF p lv fu b).size := by
 unfold jeF
 repeat' split
 all_goals (try simp only [ByteArray.size_append]); omega
theorem jei (n : Nat) : 0 < (bs (jb3 n)).size := by
 show 0 < (jb3 n).length
 unfold jb3
 split
 ·decide
 ·rw [jcl (by assumption)]; simp
theorem jd1 {p lv : Int} {b : ByteArray} (h : ¬ p < lv) : jeF p lv false b = b := by unfold jeF; rw [if_neg h, if_neg (by decide)]
theorem jbX {p lv : Int} {fu : Bool} {b : ByteArray} (h : p < lv) : jeF p lv fu b = ⟨#[40]⟩ ++ b ++ ⟨#[41]⟩ := by unfold jeF; rw [if_pos h]; rfl
theorem z1c (n : UInt8) : (⟨#[n]⟩ : ByteArray).size = 1 := rfl
theorem jz3 (n : Int) (hn : 0 <= n /\ n < 1000000000000) : PX 14 (.mk 12 n eB []) := by
 have e : ∀ lv, shN false (.mk 12 n eB []) lv = jeF 8 lv false (bs (jb3 n.toNat)) := fun _ => rfl
 have hne := jei n.toNat
 refine ⟨jua false n hn, fun lv => by rw [e]; exact jet hne, fun s lv h0 h9 hs => ?_⟩
 have hd := jdc n hn.1
 have hsz : (bs (jb3 n.toNat)).size <= 12 := jb5 _ (by omega)
 rw [e];generalize bs (jb3 n.toNat) = x at *
 by_cases hlv : 8 < lv
 ·refine jbu (ja2 jak xs0 1) Tryz.func121 rfl (by kernel_rfl) rfl ?_;intro _;conv => whnf
  refine ja7 (ja2 jak xs0 1) (dr := []) ⟨0, rfl⟩ (.inl rfl) (by kernel_rfl) (fun _ _ h => h.elim) ?_;conv => whnf
  refine ja7 (ja2 jak xs0 1) (dr := []) ⟨0, rfl⟩ (.inl rfl) (by kernel_rfl) (fun _ _ h => h.elim) ?_;conv => whnf
  refine ja7 (ja2 jak xs0 1) (dr := []) ⟨0, rfl⟩ (.inl rfl) (by kernel_rfl) (fun _ _ h => h.elim) ?_;conv => whnf
  refine jcZ ?_;refine ja7 (ja2 jak xs0 1) (dr := []) ⟨0, rfl⟩ (.inl rfl) (by kernel_rfl) (fun _ _ h => h.elim) ?_;conv => whnf
  refine jbW (congrArg (fun b => A.v (.bool b)) (decide_eq_true hlv)) ?_;refine ja7 (ja2 jak xs0 1) (dr := []) ⟨0, rfl⟩ (.inl rfl) (by kernel_rfl) (fun _ _ h => h.elim) ?_;conv => whnf
  refine ja6 0 0 2 [1] rfl rfl rfl rfl rfl rfl rfl (fun _ => (ja4 s ⟨#[40]⟩ (by decide) (by rw [z1c]; omega)).r) ?_;rintro o n' cs' r ⟨s1, rfl, rfl, ho, hs1, rfl⟩;cases ho;conv => whnf
  refine jbb (l := [_, _]) [3] (ja2 jak xs0 1) ⟨0, rfl⟩ (fun _ _ h => h.elim) rfl rfl rfl ?_;conv => whnf
  refine jbK (ja2 jak xs0 1) ⟨1, rfl⟩ (.inl rfl) (by kernel_rfl) (fun _ _ h => h.elim) ?_;conv => whnf
  have hz1 : s1.size <= s.size + 2 := by
   have := ja0 s ⟨#[40]⟩
   rw [z1c] at this;rw [hs1]; omega
  (refine ja9 [] rfl (fun _ => hd) ?_; rintro r rfl; conv => whnf)
  refine ja6 0 2 5 [4] rfl rfl rfl rfl rfl rfl rfl (fun _ => (ja4 s1 x hne (by omega)).r) ?_;rintro o n' cs' r ⟨s', rfl, rfl, ho, hs', rfl⟩;cases ho;conv => whnf
  have hz' := ja0 s1 x
  rw [<- hs'] at hz';refine ⟨.inl rfl, ?_⟩;unfold jcg;refine jio 0 5 6 [] rfl rfl rfl rfl rfl (ja4 s' ⟨#[41]⟩ (by decide) (by rw [z1c]; omega)) ?_;rintro o n' cs' r ⟨s9, rfl, rfl, ho, hs9, rfl⟩;cases ho;conv => whnf
  refine ⟨6, ?_⟩;conv => whnf
  exact ⟨_, rfl, rfl, rfl, by rw [jbX hlv, hs9, hs', hs1, jbZ], rfl⟩
 ·refine jam (ja2 jak xs0 1) (fun _ _ h => h) Tryz.func121 rfl (by kernel_rfl) rfl (by kernel_rfl) ?_;intro _;conv => whnf
  rw [decide_eq_false hlv];conv => whnf
  (refine ja9 [] rfl (fun _ => hd) ?_; rintro r rfl; conv => whnf)
  refine ja6 0 0 2 [1] rfl rfl rfl rfl rfl rfl rfl (fun _ => (ja4 s x hne (by omega)).r) ?_;rintro o n' cs' r ⟨s', rfl, rfl, ho, hs', rfl⟩;cases ho;conv => whnf
  refine ⟨2, ?_⟩;conv => whnf
  exact ⟨_, rfl, rfl, rfl, by rw [jd1 hlv, hs'], rfl⟩
theorem jv4 (k : Int) (hk : k = 14 ∨ k = 15) (s0 : ByteArray) (hne : 0 < s0.size) (hsz : s0.size <= 12) : PX 14 (.mk k 0 s0 []) := by
 have e : ∀ lv, shN false (.mk k 0 s0 []) lv = jeF 8 lv false s0 := fun lv => by rcases hk with rfl | rfl <;> rfl
 refine ⟨jrk false k hk s0 hsz, fun lv => by rw [e]; exact jet hne, fun s lv h0 h9 hs => ?_⟩;rw [e];clear e
 rcases hk with rfl | rfl
 ·by_cases hlv : 8 < lv
  ·refine jbu (ja2 jak xs0 1) Tryz.func121 rfl (by kernel_rfl) rfl ?_;intro _;conv => whnf
   refine ja7 (ja2 jak xs0 1) (dr := []) ⟨0, rfl⟩ (.inl rfl) (by kernel_rfl) (fun _ _ h => h.elim) ?_;conv => whnf
   refine ja7 (ja2 jak xs0 1) (dr := []) ⟨0, rfl⟩ (.inl rfl) (by kernel_rfl) (fun _ _ h => h.elim) ?_;conv => whnf
   refine ja7 (ja2 jak xs0 1) (dr := []) ⟨0, rfl⟩ (.inl rfl) (by kernel_rfl) (fun _ _ h => h.elim) ?_;conv => whnf
   refine jcZ ?_;refine ja7 (ja2 jak xs0 1) (dr := []) ⟨0, rfl⟩ (.inl rfl) (by kernel_rfl) (fun _ _ h => h.elim) ?_;conv => whnf
   refine jbW (congrArg (fun b => A.v (.bool b)) (decide_eq_true hlv)) ?_;refine ja7 (ja2 jak xs0 1) (dr := []) ⟨0, rfl⟩ (.inl rfl) (by kernel_rfl) (fun _ _ h => h.elim) ?_;conv => whnf
   refine ja6 0 0 2 [1] rfl rfl rfl rfl rfl rfl rfl (fun _ => (ja4 s ⟨#[40]⟩ (by decide) (by rw [z1c]; omega)).r) ?_;rintro o n' cs' r ⟨s1, rfl, rfl, ho, hs1, rfl⟩;cases ho;conv => whnf
   refine jbb (l := [_, _]) [3] (ja2 jak xs0 1) ⟨0, rfl⟩ (fun _ _ h => h.elim) rfl rfl rfl ?_;conv => whnf
   refine jbK (ja2 jak xs0 1) ⟨1, rfl⟩ (.inl rfl) (by kernel_rfl) (fun _ _ h => h.elim) ?_;conv => whnf
   have hz1 : s1.size <= s.size + 2 := by
    have := ja0 s ⟨#[40]⟩
    rw [z1c] at this;rw [hs1]; omega
   refine ja6 0 2 5 [4] rfl rfl rfl rfl rfl rfl rfl (fun _ => (ja4 s1 s0 hne (by omega)).r) ?_;rintro o n' cs' r ⟨s', rfl, rfl, ho, hs', rfl⟩;cases ho;conv => whnf
   have hz' := ja0 s1 s0
   rw [<- hs'] at hz';refine ⟨.inl rfl, ?_⟩;unfold jcg;refine jio 0 5 6 [] rfl rfl rfl rfl rfl (ja4 s' ⟨#[41]⟩ (by decide) (by rw [z1c]; omega)) ?_;rintro o n' cs' r ⟨s9, rfl, rfl, ho, hs9, rfl⟩;cases ho;conv => whnf
   refine ⟨6, ?_⟩;conv => whnf
   exact ⟨_, rfl, rfl, rfl, by rw [jbX hlv, hs9, hs', hs1, jbZ], rfl⟩
  ·refine jam (ja2 jak xs0 1) (fun _ _ h => h) Tryz.func121 rfl (by kernel_rfl) rfl (by kernel_rfl) ?_;intro _;conv => whnf
   rw [decide_eq_false hlv];conv => whnf
   refine ja6 0 0 2 [1] rfl rfl rfl rfl rfl rfl rfl (fun _ => (ja4 s s0 hne (by omega)).r) ?_;rintro o n' cs' r ⟨s', rfl, rfl, ho, hs', rfl⟩;cases ho;conv => whnf
   refine ⟨2, ?_⟩;conv => whnf
   exact ⟨_, rfl, rfl, rfl, by rw [jd1 hlv, hs'], rfl⟩
 ·by_cases hlv : 8 < lv
  ·refine jbu (ja2 jak xs0 1) Tryz.func121 rfl (by kernel_rfl) rfl ?_;intro _;conv => whnf
   refine ja7 (ja2 jak xs0 1) (dr := []) ⟨0, rfl⟩ (.inl rfl) (by kernel_rfl) (fun _ _ h => h.elim) ?_;conv => whnf
   refine ja7 (ja2 jak xs0 1) (dr := []) ⟨0, rfl⟩ (.inl rfl) (by kernel_rfl) (fun _ _ h => h.elim) ?_;conv => whnf
   refine ja7 (ja2 jak xs0 1) (dr := []) ⟨0, rfl⟩ (.inl rfl) (by kernel_rfl) (fun _ _ h => h.elim) ?_;conv => whnf
   refine jcZ ?_;refine ja7 (ja2 jak xs0 1) (dr := []) ⟨0, rfl⟩ (.inl rfl) (by kernel_rfl) (fun _ _ h => h.elim) ?_;conv => whnf
   refine jbW (congrArg (fun b => A.v (.bool b)) (decide_eq_true hlv)) ?_;refine ja7 (ja2 jak xs0 1) (dr := []) ⟨0, rfl⟩ (.inl rfl) (by kernel_rfl) (fun _ _ h => h.elim) ?_;conv => whnf
   refine ja6 0 0 2 [1] rfl rfl rfl rfl rfl rfl rfl (fun _ => (ja4 s ⟨#[40]⟩ (by decide) (by rw [z1c]; omega)).r) ?_;rintro o n' cs' r ⟨s1, rfl, rfl, ho, hs1, rfl⟩;cases ho;conv => whnf
   refine jbb (l := [_, _]) [3] (ja2 jak xs0 1) ⟨0, rfl⟩ (fun _ _ h => h.elim) rfl rfl rfl ?_;conv => whnf
   refine jbK (ja2 jak xs0 1) ⟨1, rfl⟩ (.inl rfl) (by kernel_rfl) (fun _ _ h => h.elim) ?_;conv => whnf
   have hz1 : s1.size <= s.size + 2 := by
    have := ja0 s ⟨#[40]⟩
    rw [z1c] at this;rw [hs1]; omega
   refine ja6 0 2 5 [4] rfl rfl rfl rfl rfl rfl rfl (fun _ => (ja4 s1 s0 hne (by omega)).r) ?_;rintro o n' cs' r ⟨s', rfl, rfl, ho, hs', rfl⟩;cases ho;conv => whnf
   have hz' := ja0 s1 s0
   rw [<- hs'] at hz';refine ⟨.inl rfl, ?_⟩;unfold jcg;refine jio 0 5 6 [] rfl rfl rfl rfl rfl (ja4 s' ⟨#[41]⟩ (by decide) (by rw [z1c]; omega)) ?_;rintro o n' cs' r ⟨s9, rfl, rfl, ho, hs9, rfl⟩;cases ho;conv => whnf
   refine ⟨6, ?_⟩;conv => whnf
   exact ⟨_, rfl, rfl, rfl, by rw [jbX hlv, hs9, hs', hs1, jbZ], rfl⟩
  ·refine jam (ja2 jak xs0 1) (fun _ _ h => h) Tryz.func121 rfl (by kernel_rfl) rfl (by kernel_rfl) ?_;intro _;conv => whnf
   rw [decide_eq_false hlv];conv => whnf
   refine ja6 0 0 2 [1] rfl rfl rfl rfl rfl rfl rfl (fun _ => (ja4 s s0 hne (by omega)).r) ?_;rintro o n' cs' r ⟨s', rfl, rfl, ho, hs', rfl⟩;cases ho;conv => whnf
   refine ⟨2, ?_⟩;conv => whnf
   exact ⟨_, rfl, rfl, rfl, by rw [jd1 hlv, hs'], rfl⟩
theorem jwZ (n : Nat) (hn : n < 2) : PX 14 (.mk 13 n eB []) := by
 have e : ∀ lv, shN false (.mk 13 n eB []) lv = jeF 8 lv false (tfB n) := fun _ => rfl
 have e2 : tfB n = jvT (decide (n = 1)) := by rcases (by omega : n = 0 ∨ n = 1) with rfl | rfl <;> rfl
 have hne : 0 < (tfB n).size := by rcases (by omega : n = 0 ∨ n = 1) with rfl | rfl <;> decide
 have hsz : (tfB n).size <= 12 := by rcases (by omega : n = 0 ∨ n = 1) with rfl | rfl <;> decide
 refine ⟨jrB false n hn, fun lv => by rw [e]; exact jet hne, fun s lv h0 h9 hs => ?_⟩
 have hd := jrw (decide (n = 1))
 rw [<- e2] at hd;rw [e];clear e
 rcases (by omega : n = 0 ∨ n = 1) with rfl | rfl
 ·rw [show decide ((0 : Nat) = 1) = false from rfl] at hd;clear e2;generalize tfB ((0 : Nat) : Int) = x at *
  by_cases hlv : 8 < lv
  ·refine jbu (ja2 jak xs0 1) Tryz.func121 rfl (by kernel_rfl) rfl ?_;intro _;conv => whnf
   refine ja7 (ja2 jak xs0 1) (dr := []) ⟨0, rfl⟩ (.inl rfl) (by kernel_rfl) (fun _ _ h => h.elim) ?_;conv => whnf
   refine ja7 (ja2 jak xs0 1) (dr := []) ⟨0, rfl⟩ (.inl rfl) (by kernel_rfl) (fun _ _ h => h.elim) ?_;conv => whnf
   refine ja7 (ja2 jak xs0 1) (dr := []) ⟨0, rfl⟩ (.inl rfl) (by kernel_rfl) (fun _ _ h => h.elim) ?_;conv => whnf
   refine jcZ ?_;refine ja7 (ja2 jak xs0 1) (dr := []) ⟨0, rfl⟩ (.inl rfl) (by kernel_rfl) (fun _ _ h => h.elim) ?_;conv => whnf
   refine jbW (congrArg (fun b => A.v (.bool b)) (decide_eq_true hlv)) ?_;refine ja7 (ja2 jak xs0 1) (dr := []) ⟨0, rfl⟩ (.inl rfl) (by kernel_rfl) (fun _ _ h => h.elim) ?_;conv => whnf
   refine ja6 0 0 2 [1] rfl rfl rfl rfl rfl rfl rfl (fun _ => (ja4 s ⟨#[40]⟩ (by decide) (by rw [z1c]; omega)).r) ?_;rintro o n' cs' r ⟨s1, rfl, rfl, ho, hs1, rfl⟩;cases ho;conv => whnf
   refine jbb (l := [_, _]) [3] (ja2 jak xs0 1) ⟨0, rfl⟩ (fun _ _ h => h.elim) rfl rfl rfl ?_;conv => whnf
   refine jbK (ja2 jak xs0 1) ⟨1, rfl⟩ (.inl rfl) (by kernel_rfl) (fun _ _ h => h.elim) ?_;conv => whnf
   have hz1 : s1.size <= s.size + 2 := by
    have := ja0 s ⟨#[40]⟩
    rw [z1c] at this;rw [hs1]; omega
   (refine ja9 [] rfl (fun _ => hd) ?_; rintro r rfl; conv => whnf)
   refine ja6 0 2 5 [4] rfl rfl rfl rfl rfl rfl rfl (fun _ => (ja4 s1 x hne (by omega)).r) ?_;rintro o n' cs' r ⟨s', rfl, rfl, ho, hs', rfl⟩;cases ho;conv => whnf
   have hz' := ja0 s1 x
   rw [<- hs'] at hz';refine ⟨.inl rfl, ?_⟩;unfold jcg;refine jio 0 5 6 [] rfl rfl rfl rfl rfl (ja4 s' ⟨#[41]⟩ (by decide) (by rw [z1c]; omega)) ?_;rintro o n' cs' r ⟨s9, rfl, rfl, ho, hs9, rfl⟩;cases ho;conv => whnf
   refine ⟨6, ?_⟩;conv => whnf
   exact ⟨_, rfl, rfl, rfl, by rw [jbX hlv, hs9, hs', hs1, jbZ], rfl⟩
  ·refine jam (ja2 jak xs0 1) (fun _ _ h => h) Tryz.func121 rfl (by kernel_rfl) rfl (by kernel_rfl) ?_;intro _;conv => whnf
   rw [decide_eq_false hlv];conv => whnf
   (refine ja9 [] rfl (fun _ => hd) ?_; rintro r rfl; conv => whnf)
   refine ja6 0 0 2 [1] rfl rfl rfl rfl rfl rfl rfl (fun _ => (ja4 s x hne (by omega)).r) ?_;rintro o n' cs' r ⟨s', rfl, rfl, ho, hs', rfl⟩;cases ho;conv => whnf
   refine ⟨2, ?_⟩;conv => whnf
   exact ⟨_, rfl, rfl, rfl, by rw [jd1 hlv, hs'], rfl⟩
 ·rw [show decide ((1 : Nat) = 1) = true from rfl] at hd;clear e2;generalize tfB ((1 : Nat) : Int) = x at *
  by_cases hlv : 8 < lv
  ·refine jbu (ja2 jak xs0 1) Tryz.func121 rfl (by kernel_rfl) rfl ?_;intro _;conv => whnf
   refine ja7 (ja2 jak xs0 1) (dr := []) ⟨0, rfl⟩ (.inl rfl) (by kernel_rfl) (fun _ _ h => h.elim) ?_;conv => whnf
   refine ja7 (ja2 jak xs0 1) (dr := []) ⟨0, rfl⟩ (.inl rfl) (by kernel_rfl) (fun _ _ h => h.elim) ?_;conv => whnf
   refine ja7 (ja2 jak xs0 1) (dr := []) ⟨0, rfl⟩ (.inl rfl) (by kernel_rfl) (fun _ _ h => h.elim) ?_;conv => whnf
   refine jcZ ?_;refine ja7 (ja2 jak xs0 1) (dr := []) ⟨0, rfl⟩ (.inl rfl) (by kernel_rfl) (fun _ _ h => h.elim) ?_;conv => whnf
   refine jbW (congrArg (fun b => A.v (.bool b)) (decide_eq_true hlv)) ?_;refine ja7 (ja2 jak xs0 1) (dr := []) ⟨0, rfl⟩ (.inl rfl) (by kernel_rfl) (fun _ _ h => h.elim) ?_;conv => whnf
   refine ja6 0 0 2 [1] rfl rfl rfl rfl rfl rfl rfl (fun _ => (ja4 s ⟨#[40]⟩ (by decide) (by rw [z1c]; omega)).r) ?_;rintro o n' cs' r ⟨s1, rfl, rfl, ho, hs1, rfl⟩;cases ho;conv => whnf
   refine jbb (l := [_, _]) [3] (ja2 jak xs0 1) ⟨0, rfl⟩ (fun _ _ h => h.elim) rfl rfl rfl ?_;conv => whnf
   refine jbK (ja2 jak xs0 1) ⟨1, rfl⟩ (.inl rfl) (by kernel_rfl) (fun _ _ h => h.elim) ?_;conv => whnf
   have hz1 : s1.size <= s.size + 2 := by
    have := ja0 s ⟨#[40]⟩
    rw [z1c] at this;rw [hs1]; omega
   (refine ja9 [] rfl (fun _ => hd) ?_; rintro r rfl; conv => whnf)
   refine ja6 0 2 5 [4] rfl rfl rfl rfl rfl rfl rfl (fun _ => (ja4 s1 x hne (by omega)).r) ?_;rintro o n' cs' r ⟨s', rfl, rfl, ho, hs', rfl⟩;cases ho;conv => whnf
   have hz' := ja0 s1 x
   rw [<- hs'] at hz';refine ⟨.inl rfl, ?_⟩;unfold jcg;refine jio 0 5 6 [] rfl rfl rfl rfl rfl (ja4 s' ⟨#[41]⟩ (by decide) (by rw [z1c]; omega)) ?_;rintro o n' cs' r ⟨s9, rfl, rfl, ho, hs9, rfl⟩;cases ho;conv => whnf
   refine ⟨6, ?_⟩;conv => whnf
   exact ⟨_, rfl, rfl, rfl, by rw [jbX hlv, hs9, hs', hs1, jbZ], rfl⟩
  ·refine jam (ja2 jak xs0 1) (fun _ _ h => h) Tryz.func121 rfl (by kernel_rfl) rfl (by kernel_rfl) ?_;intro _;conv => whnf
   rw [decide_eq_false hlv];conv => whnf
   (refine ja9 [] rfl (fun _ => hd) ?_; rintro r rfl; conv => whnf)
   refine ja6 0 0 2 [1] rfl rfl rfl rfl rfl rfl rfl (fun _ => (ja4 s x hne (by omega)).r) ?_;rintro o n' cs' r ⟨s', rfl, rfl, ho, hs', rfl⟩;cases ho;conv => whnf
   refine ⟨2, ?_⟩;conv => whnf
   exact ⟨_, rfl, rfl, rfl, by rw [jd1 hlv, hs'], rfl⟩
theorem jy5 (m : Nat) (hm : m <= 1000000) (f : Nt) (hf : PX m f) : PX (m + 20) (.mk 16 0 eB [f]) := by
 have e : ∀ lv, shN false (.mk 16 0 eB [f]) lv = jeF 8 lv false (jb4 [wDraw, pLp, shN false f 1, pRp]) := fun _ => rfl
 have hy := hf.2.1 1
 have hyz := (hf.1 1 (by decide) (by decide)).1
 have hall : ∀ x ∈ [wDraw, pLp, shN false f 1, pRp], 0 < x.size := by
  intro x hx;simp only [List.mem_cons, List.not_mem_nil, or_false] at hx
  rcases hx with rfl | rfl | rfl | rfl
  ·decide
  ·decide
  ·exact hy
  ·decide
 have hpf := fun s => jaW s 4 [wDraw, pLp, shN false f 1, pRp] rfl hall
 refine ⟨juD false m hm f hf.1, fun lv => by rw [e]; exact jet (jbc (jbL _ (by simp) hall)), fun s lv h0 h9 hs => ?_⟩;rw [e];generalize hal : jb4 [wDraw, pLp, shN false f 1, pRp] = x at *
 have w1 : wDraw.size = 4 := rfl
 have w2 : pLp.size = 1 := rfl
 have w3 : pRp.size = 1 := rfl
 have hr := jtb f
 have hx := fun s lv h0 h9 hs => hf.2.2 s lv h0 h9 hs
 generalize hyy : shN false f 1 = y at *
 have hx1 := fun s hs => hx s 1 (by decide) (by decide) hs
 rw [hyy] at hx1
 by_cases hlv : 8 < lv
 ·refine jbu (ja2 jak xs0 1) Tryz.func121 rfl (by kernel_rfl) rfl ?_;intro _;conv => whnf
  refine ja7 (ja2 jak xs0 1) (dr := []) ⟨0, rfl⟩ (.inl rfl) (by kernel_rfl) (fun _ _ h => h.elim) ?_;conv => whnf
  refine ja7 (ja2 jak xs0 1) (dr := []) ⟨0, rfl⟩ (.inl rfl) (by kernel_rfl) (fun _ _ h => h.elim) ?_;conv => whnf
  refine ja7 (ja2 jak xs0 1) (dr := []) ⟨0, rfl⟩ (.inl rfl) (by kernel_rfl) (fun _ _ h => h.elim) ?_;conv => whnf
  refine jcZ ?_;refine ja7 (ja2 jak xs0 1) (dr := []) ⟨0, rfl⟩ (.inl rfl) (by kernel_rfl) (fun _ _ h => h.elim) ?_;conv => whnf
  refine jbW (congrArg (fun b => A.v (.bool b)) (decide_eq_true hlv)) ?_;refine ja7 (ja2 jak xs0 1) (dr := []) ⟨0, rfl⟩ (.inl rfl) (by kernel_rfl) (fun _ _ h => h.elim) ?_;conv => whnf
  refine ja6 0 0 2 [1] rfl rfl rfl rfl rfl rfl rfl (fun _ => (ja4 s ⟨#[40]⟩ (by decide) (by rw [z1c]; omega)).r) ?_;rintro o n' cs' r ⟨s1, rfl, rfl, ho, hs1, rfl⟩;cases ho;conv => whnf
  refine jbb (l := [_, _]) [3] (ja2 jak xs0 1) ⟨0, rfl⟩ (fun _ _ h => h.elim) rfl rfl rfl ?_;conv => whnf
  refine jbK (ja2 jak xs0 1) ⟨1, rfl⟩ (.inl rfl) (by kernel_rfl) (fun _ _ h => h.elim) ?_;conv => whnf
  have hz1 : s1.size <= s.size + 2 := by
   have := ja0 s ⟨#[40]⟩
   rw [z1c] at this;rw [hs1]; omega
  refine ja6 0 2 5 [4] rfl rfl rfl rfl rfl rfl rfl (fun _ => (jbN s1 wDraw pLp (by decide) (by decide) (by omega)).r) ?_;rintro o n' cs' r ⟨s', rfl, rfl, ho, hs', rfl⟩;cases ho;conv => whnf
  have hz2 : s'.size <= s1.size + 7 := by
   have g1 := ja0 s1 wDraw
   have g2 := ja0 (ja1 s1 wDraw) pLp
   rw [<- hs'] at g2;omega
  have hs2 := hs'
  clear hs';generalize s' = s2 at *;refine ⟨by simp [Nt.kids], ?_⟩;conv => whnf
  (generalize hrq : jac _ _ (jaS (Nt.mk 16 0 eB [f]).kids) = rq; obtain rfl : rq = ntA f := hrq.symm.trans (hr); clear hrq; conv => whnf)
  refine ja6 0 5 6 [] rfl rfl rfl rfl rfl rfl rfl (fun _ => (hx1 s2 (by omega))) ?_;rintro o n' cs' r ⟨s', rfl, rfl, ho, hs', rfl⟩;cases ho;conv => whnf
  have hz3 := ja0 s2 y
  rw [<- hs'] at hz3
  have hs3 := hs'
  clear hs';generalize s' = s3 at *;refine ja6 0 6 8 [7] rfl rfl rfl rfl rfl rfl rfl (fun _ => (ja4 s3 pRp (by decide) (by omega)).r) ?_;rintro o n' cs' r ⟨s', rfl, rfl, ho, hs', rfl⟩;cases ho;conv => whnf
  have hz4 := ja0 s3 pRp
  rw [<- hs'] at hz4;refine ⟨.inl rfl, ?_⟩;unfold jcg;refine jio 0 8 9 [] rfl rfl rfl rfl rfl (ja4 s' ⟨#[41]⟩ (by decide) (by rw [z1c]; omega)) ?_;rintro o n' cs' r ⟨s9, rfl, rfl, ho, hs9, rfl⟩;cases ho;conv => whnf
  refine ⟨9, ?_⟩;conv => whnf
  refine ⟨_, rfl, rfl, rfl, ?_, rfl⟩
  have := hpf s1
  rw [jbX hlv, hs9, hs', hs3, hs2, <- jbZ, <- hs1, <- this];rfl
 ·refine jam (ja2 jak xs0 1) (fun _ _ h => h) Tryz.func121 rfl (by kernel_rfl) rfl (by kernel_rfl) ?_;intro _;conv => whnf
  rw [decide_eq_false hlv];conv => whnf
  refine ja6 0 0 2 [1] rfl rfl rfl rfl rfl rfl rfl (fun _ => (jbN s wDraw pLp (by decide) (by decide) (by omega)).r) ?_;rintro o n' cs' r ⟨s', rfl, rfl, ho, hs', rfl⟩;cases ho;conv => whnf
  have hz2 : s'.size <= s.size + 7 := by
   have g1 := ja0 s wDraw
   have g2 := ja0 (ja1 s wDraw) pLp
   rw [<- hs'] at g2;omega
  have hs2 := hs'
  clear hs';generalize s' = s2 at *;refine ⟨by simp [Nt.kids], ?_⟩;conv => whnf
  (generalize hrq : jac _ _ (jaS (Nt.mk 16 0 eB [f]).kids) = rq; obtain rfl : rq = ntA f := hrq.symm.trans (hr); clear hrq; conv => whnf)
  refine ja6 0 2 3 [] rfl rfl rfl rfl rfl rfl rfl (fun _ => (hx1 s2 (by omega))) ?_;rintro o n' cs' r ⟨s', rfl, rfl, ho, hs', rfl⟩;cases ho;conv => whnf
  have hz3 := ja0 s2 y
  rw [<- hs'] at hz3
  have hs3 := hs'
  clear hs';generalize s' = s3 at *;refine ja6 0 3 5 [4] rfl rfl rfl rfl rfl rfl rfl (fun _ => (ja4 s3 pRp (by decide) (by omega)).r) ?_;rintro o n' cs' r ⟨s', rfl, rfl, ho, hs', rfl⟩;cases ho;conv => whnf
  refine ⟨5, ?_⟩;conv => whnf
  refine ⟨_, rfl, rfl, rfl, ?_, rfl⟩
  have := hpf s
  rw [jd1 hlv, hs', hs3, hs2, <- this];rfl
theorem jut (m : Nat) (hm : m <= 1000000) (s0 : ByteArray) (hne : 0 < s0.size) (hs0 : s0.size <= 2) (f : Nt) (hf : PX m f) : PX (m + 20) (.mk 17 0 s0 [f]) := by
 have hp9 := jf7 17 s0
 have e : ∀ lv, shN false (.mk 17 0 s0 [f]) lv = jeF (jab 17 s0) lv false (jb4 [s0, shN false f (jab 17 s0)]) := fun _ => rfl
 have hp : jab 17 s0 = if s0 = pNot then 3 else 7 := by unfold jab; rw [if_pos rfl]
 have hsh := jrd false m hm s0 hs0 f hf.1
 generalize jab 17 s0 = p at *
 have hy := hf.2.1 p
 have hyz := (hf.1 p (by omega) (by omega)).1
 have hall : ∀ x ∈ [s0, shN false f p], 0 < x.size := by
  intro x hx;simp only [List.mem_cons, List.not_mem_nil, or_false] at hx
  rcases hx with rfl | rfl
  ·exact hne
  ·exact hy
 have hpf := fun s => jaW s 2 [s0, shN false f p] rfl hall
 refine ⟨hsh, fun lv => by rw [e]; exact jet (jbc (jbL _ (by simp) hall)), fun s lv h0 h9 hs => ?_⟩;rw [e];generalize hal : jb4 [s0, shN false f p] = x at *
 have hr := jtb f
 have hx1 := fun s hs => hf.2.2 s p (by omega) (by omega) hs
 generalize hyy : shN false f p = y at *
 by_cases hn : s0 = pNot
 ·rw [if_pos hn] at hp;subst hp
  by_cases hlv : 3 < lv
  ·refine jbu (ja2 jak xs0 1) Tryz.func121 rfl (by kernel_rfl) rfl ?_;intro _;conv => whnf
   refine ja7 (ja2 jak xs0 1) (dr := []) ⟨0, rfl⟩ (.inl rfl) (by kernel_rfl) (fun _ _ h => h.elim) ?_;conv => whnf
   refine ja7 (ja2 jak xs0 1) (dr := []) ⟨0, rfl⟩ (.inl rfl) (by kernel_rfl) (fun _ _ h => h.elim) ?_;conv => whnf
   refine ja7 (ja2 jak xs0 1) (dr := []) ⟨0, rfl⟩ (.inl rfl) (by kernel_rfl) (fun _ _ h => h.elim) ?_;conv => whnf
   rw [decide_eq_true (p := (Nt.mk 17 0 s0 [f]).s = ⟨_⟩) hn];conv => whnf
   refine jcZ ?_;refine ja7 (ja2 jak xs0 1) (dr := []) ⟨0, rfl⟩ (.inl rfl) (by kernel_rfl) (fun _ _ h => h.elim) ?_;conv => whnf
   refine jbW (congrArg (fun b => A.v (.bool b)) (decide_eq_true hlv)) ?_;refine ja7 (ja2 jak xs0 1) (dr := []) ⟨0, rfl⟩ (.inl rfl) (by kernel_rfl) (fun _ _ h => h.elim) ?_;conv => whnf
   refine ja6 0 0 2 [1] rfl rfl rfl rfl rfl rfl rfl (fun _ => (ja4 s ⟨#[40]⟩ (by decide) (by rw [z1c]; omega)).r) ?_;rintro o n' cs' r ⟨s1, rfl, rfl, ho, hs1, rfl⟩;cases ho;conv => whnf
   refine jbb (l := [_, _]) [3] (ja2 jak xs0 1) ⟨0, rfl⟩ (fun _ _ h => h.elim) rfl rfl rfl ?_;conv => whnf
   refine jbK (ja2 jak xs0 1) ⟨1, rfl⟩ (.inl rfl) (by kernel_rfl) (fun _ _ h => h.elim) ?_;conv => whnf
   have hz1 : s1.size <= s.size + 2 := by
    have := ja0 s ⟨#[40]⟩
    rw [z1c] at this;rw [hs1]; omega
   refine ja6 0 2 5 [4] rfl rfl rfl rfl rfl rfl rfl (fun _ => (ja4 s1 s0 hne (by omega)).r) ?_;rintro o n' cs' r ⟨s', rfl, rfl, ho, hs', rfl⟩;cases ho;conv => whnf
   have hz2 := ja0 s1 s0
   rw [<- hs'] at hz2
   have hs2 := hs'
   clear hs';generalize s' = s2 at *;refine ⟨by simp [Nt.kids], ?_⟩;conv => whnf
   (generalize hrq : jac _ _ (jaS (Nt.mk 17 0 s0 [f]).kids) = rq; obtain rfl : rq = ntA f := hrq.symm.trans (hr); clear hrq; conv => whnf)
   refine ja6 0 5 6 [] rfl rfl rfl rfl rfl rfl rfl (fun _ => (hx1 s2 (by omega))) ?_;rintro o n' cs' r ⟨s', rfl, rfl, ho, hs', rfl⟩;cases ho;conv => whnf
   have hz3 := ja0 s2 y
   rw [<- hs'] at hz3;refine ⟨.inl rfl, ?_⟩;unfold jcg;refine jio 0 6 7 [] rfl rfl rfl rfl rfl (ja4 s' ⟨#[41]⟩ (by decide) (by rw [z1c]; omega)) ?_;rintro o n' cs' r ⟨s9, rfl, rfl, ho, hs9, rfl⟩;cases ho;conv => whnf
   refine ⟨7, ?_⟩;conv => whnf
   refine ⟨_, rfl, rfl, rfl, ?_, rfl⟩
   have := hpf s1
   rw [jbX hlv, hs9, hs', hs2, <- jbZ, <- hs1, <- this];rfl
  ·refine jam (ja2 jak xs0 1) (fun _ _ h => h) Tryz.func121 rfl (by kernel_rfl) rfl (by kernel_rfl) ?_;intro _;conv => whnf
   rw [decide_eq_true (p := (Nt.mk 17 0 s0 [f]).s = ⟨_⟩) hn];conv => whnf
   rw [decide_eq_false hlv];conv => whnf
   refine ja6 0 0 2 [1] rfl rfl rfl rfl rfl rfl rfl (fun _ => (ja4 s s0 hne (by omega)).r) ?_;rintro o n' cs' r ⟨s', rfl, rfl, ho, hs', rfl⟩;cases ho;conv => whnf
   have hz2 := ja0 s s0
   rw [<- hs'] at hz2
   have hs2 := hs'
   clear hs';generalize s' = s2 at *;refine ⟨by simp [Nt.kids], ?_⟩;conv => whnf
   (generalize hrq : jac _ _ (jaS (Nt.mk 17 0 s0 [f]).kids) = rq; obtain rfl : rq = ntA f := hrq.symm.trans (hr); clear hrq; conv => whnf)
   refine ja6 0 2 3 [] rfl rfl rfl rfl rfl rfl rfl (fun _ => (hx1 s2 (by omega))) ?_;rintro o n' cs' r ⟨s', rfl, rfl, ho, hs', rfl⟩;cases ho;conv => whnf
   refine ⟨3, ?_⟩;conv => whnf
   refine ⟨_, rfl, rfl, rfl, ?_, rfl⟩
   have := hpf s
   rw [jd1 hlv, hs', hs2, <- this];rfl
 ·rw [if_neg hn] at hp;subst hp
  by_cases hlv : 7 < lv
  ·refine jbu (ja2 jak xs0 1) Tryz.func121 rfl (by kernel_rfl) rfl ?_;intro _;conv => whnf
   refine ja7 (ja2 jak xs0 1) (dr := []) ⟨0, rfl⟩ (.inl rfl) (by kernel_rfl) (fun _ _ h => h.elim) ?_;conv => whnf
   refine ja7 (ja2 jak xs0 1) (dr := []) ⟨0, rfl⟩ (.inl rfl) (by kernel_rfl) (fun _ _ h => h.elim) ?_;conv => whnf
   refine ja7 (ja2 jak xs0 1) (dr := []) ⟨0, rfl⟩ (.inl rfl) (by kernel_rfl) (fun _ _ h => h.elim) ?_;conv => whnf
   rw [decide_eq_false (p := (Nt.mk 17 0 s0 [f]).s = ⟨_⟩) hn];conv => whnf
   refine jcZ ?_;refine ja7 (ja2 jak xs0 1) (dr := []) ⟨0, rfl⟩ (.inl rfl) (by kernel_rfl) (fun _ _ h => h.elim) ?_;conv => whnf
   refine jbW (congrArg (fun b => A.v (.bool b)) (decide_eq_true hlv)) ?_;refine ja7 (ja2 jak xs0 1) (dr := []) ⟨0, rfl⟩ (.inl rfl) (by kernel_rfl) (fun _ _ h => h.elim) ?_;conv => whnf
   refine ja6 0 0 2 [1] rfl rfl rfl rfl rfl rfl rfl (fun _ => (ja4 s ⟨#[40]⟩ (by decide) (by rw [z1c]; omega)).r) ?_;rintro o n' cs' r ⟨s1, rfl, rfl, ho, hs1, rfl⟩;cases ho;conv => whnf
   refine jbb (l := [_, _]) [3] (ja2 jak xs0 1) ⟨0, rfl⟩ (fun _ _ h => h.elim) rfl rfl rfl ?_;conv => whnf
   refine jbK (ja2 jak xs0 1) ⟨1, rfl⟩ (.inl rfl) (by kernel_rfl) (fun _ _ h => h.elim) ?_;conv => whnf
   have hz1 : s1.size <= s.size + 2 := by
    have := ja0 s ⟨#[40]⟩
    rw [z1c] at this;rw [hs1]; omega
   refine ja6 0 2 5 [4] rfl rfl rfl rfl rfl rfl rfl (fun _ => (ja4 s1 s0 hne (by omega)).r) ?_;rintro o n' cs' r ⟨s', rfl, rfl, ho, hs', rfl⟩;cases ho;conv => whnf
   have hz2 := ja0 s1 s0
   rw [<- hs'] at hz2
   have hs2 := hs'
   clear hs';generalize s' = s2 at *;refine ⟨by simp [Nt.kids], ?_⟩;conv => whnf
   (generalize hrq : jac _ _ (jaS (Nt.mk 17 0 s0 [f]).kids) = rq; obtain rfl : rq = ntA f := hrq.symm.trans (hr); clear hrq; conv => whnf)
   refine ja6 0 5 6 [] rfl rfl rfl rfl rfl rfl rfl (fun _ => (hx1 s2 (by omega))) ?_;rintro o n' cs' r ⟨s', rfl, rfl, ho, hs', rfl⟩;cases ho;conv => whnf
   have hz3 := ja0 s2 y
   rw [<- hs'] at hz3;refine ⟨.inl rfl, ?_⟩;unfold jcg;refine jio 0 6 7 [] rfl rfl rfl rfl rfl (ja4 s' ⟨#[41]⟩ (by decide) (by rw [z1c]; omega)) ?_;rintro o n' cs' r ⟨s9, rfl, rfl, ho, hs9, rfl⟩;cases ho;conv => whnf
   refine ⟨7, ?_⟩;conv => whnf
   refine ⟨_, rfl, rfl, rfl, ?_, rfl⟩
   have := hpf s1
   rw [jbX hlv, hs9, hs', hs2, <- jbZ, <- hs1, <- this];rfl
  ·refine jam (ja2 jak xs0 1) (fun _ _ h => h) Tryz.func121 rfl (by kernel_rfl) rfl (by kernel_rfl) ?_;intro _;conv => whnf
   rw [decide_eq_false (p := (Nt.mk 17 0 s0 [f]).s = ⟨_⟩) hn];conv => whnf
   rw [decide_eq_false hlv];conv => whnf
   refine ja6 0 0 2 [1] rfl rfl rfl rfl rfl rfl rfl (fun _ => (ja4 s s0 hne (by omega)).r) ?_;rintro o n' cs' r ⟨s', rfl, rfl, ho, hs', rfl⟩;cases ho;conv => whnf
   have hz2 := ja0 s s0
   rw [<- hs'] at hz2
   have hs2 := hs'
   clear hs';generalize s' = s2 at *;refine ⟨by simp [Nt.kids], ?_⟩;conv => whnf
   (generalize hrq : jac _ _ (jaS (Nt.mk 17 0 s0 [f]).kids) = rq; obtain rfl : rq = ntA f := hrq.symm.trans (hr); clear hrq; conv => whnf)
   refine ja6 0 2 3 [] rfl rfl rfl rfl rfl rfl rfl (fun _ => (hx1 s2 (by omega))) ?_;rintro o n' cs' r ⟨s', rfl, rfl, ho, hs', rfl⟩;cases ho;conv => whnf
   refine ⟨3, ?_⟩;conv => whnf
   refine ⟨_, rfl, rfl, rfl, ?_, rfl⟩
   have := hpf s
   rw [jd1 hlv, hs', hs2, <- this];rfl
theorem js7 (m : Nat) (hm : m <= 1000000) (s0 : ByteArray) (hne : 0 < s0.size) (hs0 : s0.size <= 2) (f g : Nt) (hf : PX m f) (hg : PX m g) : PX (2 * m + 20) (.mk 18 0 s0 [f, g]) := by
 have hp9 := jf7 18 s0
 have hp8 : jab 18 s0 <= 7 := by
  unfold jab
  repeat' split
  all_goals first | decide | (rename_i h1 h2; exact absurd h2 (by decide)) | contradiction
 have e : ∀ lv, shN false (.mk 18 0 s0 [f, g]) lv = jeF (jab 18 s0) lv false (jb4 [shN false f (if jab 18 s0 = 4 then 5 else jab 18 s0), s0, shN false g (jab 18 s0 + 1)]) := fun _ => rfl
 have hop := jst s0
 have hpe : opP s0 = jab 18 s0 := (jt2 0 s0 []).symm
 rw [hpe] at hop;clear hpe
 have hsh := joq false m hm s0 hs0 f g hf.1 hg.1
 generalize jab 18 s0 = p at *
 obtain ⟨q, hq⟩ : ∃ q : Int, (if p = 4 then 5 else p) = q := ⟨_, rfl⟩
 rw [hq] at e
 have hqr : 0 <= q /\ q <= 9 := by split at hq <;> omega
 have hyz := (hf.1 q (by omega) (by omega)).1
 have hyz2 := (hg.1 (p + 1) (by omega) (by omega)).1
 have hall : ∀ x ∈ [shN false f q, s0, shN false g (p + 1)], 0 < x.size := by
  intro x hx;simp only [List.mem_cons, List.not_mem_nil, or_false] at hx
  rcases hx with rfl | rfl | rfl
  ·exact hf.2.1 q
  ·exact hne
  ·exact hg.2.1 (p + 1)
 have hpf := fun s => jaW s 3 [shN false f q, s0, shN false g (p + 1)] rfl hall
 refine ⟨hsh, fun lv => by rw [e]; exact jet (jbc (jbL _ (by simp) hall)), fun s lv h0 h9 hs => ?_⟩;rw [e];generalize hal : jb4 [shN false f q, s0, shN false g (p + 1)] = x at *
 have hr := jnm f g
 have hr2 := joR f g
 have hx1 := fun s hs => hf.2.2 s q (by omega) (by omega) hs
 have hx2 := fun s hs => hg.2.2 s (p + 1) (by omega) (by omega) hs
 generalize hyy : shN false f q = y at *;generalize hyy2 : shN false g (p + 1) = y2 at *;clear hsh hall hal e
 by_cases h4 : p = 4
 ·rw [if_pos h4] at hq;subst hq
  by_cases hlv : p < lv
  ·refine jbu (ja2 jak xs0 1) Tryz.func121 rfl (by kernel_rfl) rfl ?_;intro _;conv => whnf
   refine ja7 (ja2 jak xs0 1) (dr := []) ⟨0, rfl⟩ (.inl rfl) (by kernel_rfl) (fun _ _ h => h.elim) ?_;conv => whnf
   refine ja7 (ja2 jak xs0 1) (dr := []) ⟨0, rfl⟩ (.inl rfl) (by kernel_rfl) (fun _ _ h => h.elim) ?_;conv => whnf
   refine ja7 (ja2 jak xs0 1) (dr := []) ⟨0, rfl⟩ (.inl rfl) (by kernel_rfl) (fun _ _ h => h.elim) ?_;conv => whnf
   (refine ja9 [] rfl (fun _ => hop) ?_; rintro r rfl; conv => whnf)
   conv => whnf
   refine jcZ ?_;refine ja7 (ja2 jak xs0 1) (dr := []) ⟨0, rfl⟩ (.inl rfl) (by kernel_rfl) (fun _ _ h => h.elim) ?_;conv => whnf
   refine jbW (congrArg (fun b => A.v (.bool b)) (decide_eq_true hlv)) ?_;refine ja7 (ja2 jak xs0 1) (dr := []) ⟨0, rfl⟩ (.inl rfl) (by kernel_rfl) (fun _ _ h => h.elim) ?_;conv => whnf
   refine ja6 0 0 2 [1] rfl rfl rfl rfl rfl rfl rfl (fun _ => (ja4 s ⟨#[40]⟩ (by decide) (by rw [z1c]; omega)).r) ?_;rintro o n' cs' r ⟨s1, rfl, rfl, ho, hs1, rfl⟩;cases ho;conv => whnf
   refine jbb (l := [_, _]) [3] (ja2 jak xs0 1) ⟨0, rfl⟩ (fun _ _ h => h.elim) rfl rfl rfl ?_;conv => whnf
   refine jbK (ja2 jak xs0 1) ⟨1, rfl⟩ (.inl rfl) (by kernel_rfl) (fun _ _ h => h.elim) ?_;conv => whnf
   have hz1 : s1.size <= s.size + 2 := by
    have := ja0 s ⟨#[40]⟩
    rw [z1c] at this;rw [hs1]; omega
   rw [decide_eq_true h4];conv => whnf
   refine ⟨by simp [Nt.kids], ?_⟩;conv => whnf
   (generalize hrq : jac _ _ (jaS (Nt.mk 18 0 s0 [f, g]).kids) = rq; obtain rfl : rq = ntA f := hrq.symm.trans (hr); clear hrq; conv => whnf)
   refine ja6 0 2 4 [] rfl rfl rfl rfl rfl rfl rfl (fun _ => (hx1 s1 (by omega))) ?_;rintro o n' cs' r ⟨s', rfl, rfl, ho, hs', rfl⟩;cases ho;conv => whnf
   have hz2 := ja0 s1 y
   rw [<- hs'] at hz2
   have hs2 := hs'
   clear hs';generalize s' = s2 at *;refine ja6 0 4 6 [5] rfl rfl rfl rfl rfl rfl rfl (fun _ => (ja4 s2 s0 hne (by omega)).r) ?_;rintro o n' cs' r ⟨s', rfl, rfl, ho, hs', rfl⟩;cases ho;conv => whnf
   have hz3 := ja0 s2 s0
   rw [<- hs'] at hz3
   have hs3 := hs'
   clear hs';generalize s' = s3 at *;refine ⟨by simp [Nt.kids], ?_⟩;conv => whnf
   (generalize hrq : jac _ _ (jaS (Nt.mk 18 0 s0 [f, g]).kids) = rq; obtain rfl : rq = ntA g := hrq.symm.trans (hr2); clear hrq; conv => whnf)
   refine ⟨jaI (by omega), ?_⟩;conv => whnf
   refine ja6 0 6 7 [] rfl rfl rfl rfl rfl rfl rfl (fun _ => (hx2 s3 (by omega))) ?_;rintro o n' cs' r ⟨s', rfl, rfl, ho, hs', rfl⟩;cases ho;conv => whnf
   have hz4 := ja0 s3 y2
   rw [<- hs'] at hz4;refine ⟨.inl rfl, ?_⟩;unfold jcg;refine jio 0 7 8 [] rfl rfl rfl rfl rfl (ja4 s' ⟨#[41]⟩ (by decide) (by rw [z1c]; omega)) ?_;rintro o n' cs' r ⟨s9, rfl, rfl, ho, hs9, rfl⟩;cases ho;conv => whnf
   refine ⟨8, ?_⟩;conv => whnf
   refine ⟨_, rfl, rfl, rfl, ?_, rfl⟩
   have := hpf s1
   rw [jbX hlv, hs9, hs', hs3, hs2, <- jbZ, <- hs1, <- this];rfl
  ·refine jam (ja2 jak xs0 1) (fun _ _ h => h) Tryz.func121 rfl (by kernel_rfl) rfl (by kernel_rfl) ?_;intro _;conv => whnf
   (refine ja9 [] rfl (fun _ => hop) ?_; rintro r rfl; conv => whnf)
   conv => whnf
   rw [decide_eq_false hlv];conv => whnf
   rw [decide_eq_true h4];conv => whnf
   refine ⟨by simp [Nt.kids], ?_⟩;conv => whnf
   (generalize hrq : jac _ _ (jaS (Nt.mk 18 0 s0 [f, g]).kids) = rq; obtain rfl : rq = ntA f := hrq.symm.trans (hr); clear hrq; conv => whnf)
   refine ja6 0 0 1 [] rfl rfl rfl rfl rfl rfl rfl (fun _ => (hx1 s (by omega))) ?_;rintro o n' cs' r ⟨s', rfl, rfl, ho, hs', rfl⟩;cases ho;conv => whnf
   have hz2 := ja0 s y
   rw [<- hs'] at hz2
   have hs2 := hs'
   clear hs';generalize s' = s2 at *;refine ja6 0 1 3 [2] rfl rfl rfl rfl rfl rfl rfl (fun _ => (ja4 s2 s0 hne (by omega)).r) ?_;rintro o n' cs' r ⟨s', rfl, rfl, ho, hs', rfl⟩;cases ho;conv => whnf
   have hz3 := ja0 s2 s0
   rw [<- hs'] at hz3
   have hs3 := hs'
   clear hs';generalize s' = s3 at *;refine ⟨by simp [Nt.kids], ?_⟩;conv => whnf
   (generalize hrq : jac _ _ (jaS (Nt.mk 18 0 s0 [f, g]).kids) = rq; obtain rfl : rq = ntA g := hrq.symm.trans (hr2); clear hrq; conv => whnf)
   refine ⟨jaI (by omega), ?_⟩;conv => whnf
   refine ja6 0 3 4 [] rfl rfl rfl rfl rfl rfl rfl (fun _ => (hx2 s3 (by omega))) ?_;rintro o n' cs' r ⟨s', rfl, rfl, ho, hs', rfl⟩;cases ho;conv => whnf
   refine ⟨4, ?_⟩;conv => whnf
   refine ⟨_, rfl, rfl, rfl, ?_, rfl⟩
   have := hpf s
   rw [jd1 hlv, hs', hs3, hs2, <- this];rfl
 ·rw [if_neg h4] at hq;subst hq
  by_cases hlv : p < lv
  ·refine jbu (ja2 jak xs0 1) Tryz.func121 rfl (by kernel_rfl) rfl ?_;intro _;conv => whnf
   refine ja7 (ja2 jak xs0 1) (dr := []) ⟨0, rfl⟩ (.inl rfl) (by kernel_rfl) (fun _ _ h => h.elim) ?_;conv => whnf
   refine ja7 (ja2 jak xs0 1) (dr := []) ⟨0, rfl⟩ (.inl rfl) (by kernel_rfl) (fun _ _ h => h.elim) ?_;conv => whnf
   refine ja7 (ja2 jak xs0 1) (dr := []) ⟨0, rfl⟩ (.inl rfl) (by kernel_rfl) (fun _ _ h => h.elim) ?_;conv => whnf
   (refine ja9 [] rfl (fun _ => hop) ?_; rintro r rfl; conv => whnf)
   conv => whnf
   refine jcZ ?_;refine ja7 (ja2 jak xs0 1) (dr := []) ⟨0, rfl⟩ (.inl rfl) (by kernel_rfl) (fun _ _ h => h.elim) ?_;conv => whnf
   refine jbW (congrArg (fun b => A.v (.bool b)) (decide_eq_true hlv)) ?_;refine ja7 (ja2 jak xs0 1) (dr := []) ⟨0, rfl⟩ (.inl rfl) (by kernel_rfl) (fun _ _ h => h.elim) ?_;conv => whnf
   refine ja6 0 0 2 [1] rfl rfl rfl rfl rfl rfl rfl (fun _ => (ja4 s ⟨#[40]⟩ (by decide) (by rw [z1c]; omega)).r) ?_;rintro o n' cs' r ⟨s1, rfl, rfl, ho, hs1, rfl⟩;cases ho;conv => whnf
   refine jbb (l := [_, _]) [3] (ja2 jak xs0 1) ⟨0, rfl⟩ (fun _ _ h => h.elim) rfl rfl rfl ?_;conv => whnf
   refine jbK (ja2 jak xs0 1) ⟨1, rfl⟩ (.inl rfl) (by kernel_rfl) (fun _ _ h => h.elim) ?_;conv => whnf
   have hz1 : s1.size <= s.size + 2 := by
    have := ja0 s ⟨#[40]⟩
    rw [z1c] at this;rw [hs1]; omega
   rw [decide_eq_false h4];conv => whnf
   refine ⟨by simp [Nt.kids], ?_⟩;conv => whnf
   (generalize hrq : jac _ _ (jaS (Nt.mk 18 0 s0 [f, g]).kids) = rq; obtain rfl : rq = ntA f := hrq.symm.trans (hr); clear hrq; conv => whnf)
   refine ja6 0 2 4 [] rfl rfl rfl rfl rfl rfl rfl (fun _ => (hx1 s1 (by omega))) ?_;rintro o n' cs' r ⟨s', rfl, rfl, ho, hs', rfl⟩;cases ho;conv => whnf
   have hz2 := ja0 s1 y
   rw [<- hs'] at hz2
   have hs2 := hs'
   clear hs';generalize s' = s2 at *;refine ja6 0 4 6 [5] rfl rfl rfl rfl rfl rfl rfl (fun _ => (ja4 s2 s0 hne (by omega)).r) ?_;rintro o n' cs' r ⟨s', rfl, rfl, ho, hs', rfl⟩;cases ho;conv => whnf
   have hz3 := ja0 s2 s0
   rw [<- hs'] at hz3
   have hs3 := hs'
   clear hs';generalize s' = s3 at *;refine ⟨by simp [Nt.kids], ?_⟩;conv => whnf
   (generalize hrq : jac _ _ (jaS (Nt.mk 18 0 s0 [f, g]).kids) = rq; obtain rfl : rq = ntA g := hrq.symm.trans (hr2); clear hrq; conv => whnf)
   refine ⟨jaI (by omega), ?_⟩;conv => whnf
   refine ja6 0 6 7 [] rfl rfl rfl rfl rfl rfl rfl (fun _ => (hx2 s3 (by omega))) ?_;rintro o n' cs' r ⟨s', rfl, rfl, ho, hs', rfl⟩;cases ho;conv => whnf
   have hz4 := ja0 s3 y2
   rw [<- hs'] at hz4;refine ⟨.inl rfl, ?_⟩;unfold jcg;refine jio 0 7 8 [] rfl rfl rfl rfl rfl (ja4 s' ⟨#[41]⟩ (by decide) (by rw [z1c]; omega)) ?_;rintro o n' cs' r ⟨s9, rfl, rfl, ho, hs9, rfl⟩;cases ho;conv => whnf
   refine ⟨8, ?_⟩;conv => whnf
   refine ⟨_, rfl, rfl, rfl, ?_, rfl⟩
   have := hpf s1
   rw [jbX hlv, hs9, hs', hs3, hs2, <- jbZ, <- hs1, <- this];rfl
  ·refine jam (ja2 jak xs0 1) (fun _ _ h => h) Tryz.func121 rfl (by kernel_rfl) rfl (by kernel_rfl) ?_;intro _;conv => whnf
   (refine ja9 [] rfl (fun _ => hop) ?_; rintro r rfl; conv => whnf)
   conv => whnf
   rw [decide_eq_false hlv];conv => whnf
   rw [decide_eq_false h4];conv => whnf
   refine ⟨by simp [Nt.kids], ?_⟩;conv => whnf
   (generalize hrq : jac _ _ (jaS (Nt.mk 18 0 s0 [f, g]).kids) = rq; obtain rfl : rq = ntA f := hrq.symm.trans (hr); clear hrq; conv => whnf)
   refine ja6 0 0 1 [] rfl rfl rfl rfl rfl rfl rfl (fun _ => (hx1 s (by omega))) ?_;rintro o n' cs' r ⟨s', rfl, rfl, ho, hs', rfl⟩;cases ho;conv => whnf
   have hz2 := ja0 s y
   rw [<- hs'] at hz2
   have hs2 := hs'
   clear hs';generalize s' = s2 at *;refine ja6 0 1 3 [2] rfl rfl rfl rfl rfl rfl rfl (fun _ => (ja4 s2 s0 hne (by omega)).r) ?_;rintro o n' cs' r ⟨s', rfl, rfl, ho, hs', rfl⟩;cases ho;conv => whnf
   have hz3 := ja0 s2 s0
   rw [<- hs'] at hz3
   have hs3 := hs'
   clear hs';generalize s' = s3 at *;refine ⟨by simp [Nt.kids], ?_⟩;conv => whnf
   (generalize hrq : jac _ _ (jaS (Nt.mk 18 0 s0 [f, g]).kids) = rq; obtain rfl : rq = ntA g := hrq.symm.trans (hr2); clear hrq; conv => whnf)
   refine ⟨jaI (by omega), ?_⟩;conv => whnf
   refine ja6 0 3 4 [] rfl rfl rfl rfl rfl rfl rfl (fun _ => (hx2 s3 (by omega))) ?_;rintro o n' cs' r ⟨s', rfl, rfl, ho, hs', rfl⟩;cases ho;conv => whnf
   refine ⟨4, ?_⟩;conv => whnf
   refine ⟨_, rfl, rfl, rfl, ?_, rfl⟩
   have := hpf s
   rw [jd1 hlv, hs', hs3, hs2, <- this];rfl
theorem jqY : ∀ s ∈ varL, 0 < s.size := by decide
theorem jr5 : ∀ s ∈ builtL, 0 < s.size := by decide
theorem jz4 : ∀ s ∈ opL, 0 < s.size := by decide
theorem jw0 : ∀ s ∈ bolL, 0 < s.size := by decide
theorem jvC : ∀ s ∈ cmpL, 0 < s.size := by decide
theorem jsc {d : Nat} {f : Nt} (h : EI d f) : cI d <= 1000000 -> PX (cI d) f := by
 induction h with
 | lit d n h => exact fun _ => (jz3 n (jrg n h)).mono (jkV d)
 | var d s h => exact fun _ => (jv4 14 (.inl rfl) s (jqY s h) (jjf s h)).mono (jkV d)
 | nam d s h => exact fun _ => (jv4 15 (.inr rfl) s (jr5 s h) (jkF s h)).mono (jkV d)
 | drw d f h ih => intro hc; unfold cI at hc ⊢; exact (jy5 (cI d) (by omega) f (ih (by omega))).mono (by omega)
 | neg d f h ih => intro hc; unfold cI at hc ⊢; exact (jut (cI d) (by omega) pMinus (by decide) (by decide) f (ih (by omega))).mono (by omega)
 | bin d s f g hs h1 h2 i1 i2 => intro hc; unfold cI at hc ⊢; exact js7 (cI d) (by omega) s (jz4 s hs) (juf s hs) f g (i1 (by omega)) (i2 (by omega))
theorem jyx {d : Nat} {f : Nt} (h : EB d f) : cI (d + 1) <= 1000000 -> PX (cI (d + 1)) f := by
 induction h with
 | lit d n h => exact fun _ => (jwZ n h).mono (jkV (d + 1))
 | nt d f h ih => intro hc; have e : cI (d + 1 + 1) = 2 * cI (d + 1) + 20 := rfl; rw [e] at hc ⊢; exact (jut (cI (d + 1)) (by omega) pNot (by decide) (by decide) f (ih (by omega))).mono (by omega)
 | bin d s f g hs h1 h2 i1 i2 => intro hc; have e : cI (d + 1 + 1) = 2 * cI (d + 1) + 20 := rfl; rw [e] at hc ⊢; exact js7 (cI (d + 1)) (by omega) s (jw0 s hs) (jrM s hs) f g (i1 (by omega)) (i2 (by omega))
 | cmp d s f g hs h1 h2 =>
  intro hc
  have hm : cI (d - 1) <= cI d := by
   cases d with
   | zero => exact Nat.le_refl _
   | succ d => rw [Nat.add_sub_cancel]; have e : cI (d + 1) = 2 * cI d + 20 := rfl; omega
  have e : cI (d + 1) = 2 * cI d + 20 := rfl
  rw [e] at hc ⊢;exact js7 (cI d) (by omega) s (jvC s hs) (jr0 s hs) f g ((jsc h1 (by omega)).mono hm) ((jsc h2 (by omega)).mono hm)
theorem jv9 (l : List ByteArray) (hl : l ≠ []) (h : ∀ x ∈ l, 0 < x.size) : cmF l ≠ ⟨#[]⟩ := by
 have e := List.dropLast_concat_getLast hl
 have hx := jgG (h _ (List.getLast_mem hl))
 generalize l.getLast hl = y at *
 cases hd : l.dropLast with
 | nil =>
  rw [hd] at e;rw [<- e]
  show ja1 eB y ≠ _
  rw [jbq]; exact hx
 | cons x m =>
  rw [hd] at e;rw [<- e, jfD];exact jhP hx
def lsS (s : ByteArray) (l : List ByteArray) (j : Nat) : ByteArray := ja1 s (cmF (l.take j))
theorem jji (s : ByteArray) (l : List ByteArray) : lsS s l 0 = s := by unfold lsS; rw [List.take_zero]; exact jhH s
theorem jo3 (s : ByteArray) (l : List ByteArray) (h : ∀ x ∈ l, 0 < x.size) (j : Nat) (hj : j < l.length) : lsS s l (j + 1) = ja1 (if j = 0 then lsS s l j else ja1 (lsS s l j) pComma) l[j] := by
 by_cases h0 : j = 0
 ·subst h0;rw [if_pos rfl, jji]
  cases l with
  | nil => simp at hj
  | cons x m => show ja1 s (ja1 eB x) = _; rw [jbq]; rfl
 ·rw [if_neg h0]
  have hne : l.take j ≠ [] := by
   intro e
   have := congrArg List.length e
   rw [List.length_take, List.length_nil] at this; omega
  have hm : ∀ x ∈ l.take j, 0 < x.size := fun x hx => h x (List.mem_of_mem_take hx)
  have hc := jv9 _ hne hm
  have e1 : cmF (l.take (j + 1)) = ja1 (cmF (l.take j) ++ pComma) l[j] := by
   rw [List.take_succ_eq_append_getElem hj]
   cases ht : l.take j with
   | nil => exact absurd ht hne
   | cons x m => exact jfD x m _
  unfold lsS;rw [e1, <- jaJ s _ _ (jog hc), jaJ s _ pComma hc, jbC _ pComma (by decide)]
theorem jnF (s : ByteArray) (m : Nat) (l : List ByteArray) (hm : ∀ x ∈ l, x.size <= m) (hp : ∀ x ∈ l, 0 < x.size) : ∀ j, j <= l.length -> (lsS s l j).size <= s.size + j * (m + 3)
 | 0, _ => by rw [jji]; omega
 | j + 1, h => by
  have ih := jnF s m l hm hp j (by omega)
  have hx := hm _ (List.getElem_mem (show j < l.length by omega))
  rw [jo3 s l hp j (by omega), Nat.succ_mul]
  have g1 := ja0 (lsS s l j) pComma
  have e1 : pComma.size = 1 := rfl
  have g2 := ja0 (if j = 0 then lsS s l j else ja1 (lsS s l j) pComma) (l[j]'(by omega))
  by_cases h0 : j = 0
  ·rw [if_pos h0] at g2 ⊢; omega
  ·rw [if_neg h0] at g2 ⊢; omega
theorem jel (m : Nat) (hm : m <= 1000000) (l : List Nt) (hl : l.length <= 100) (hf : ∀ f ∈ l, PX m f) (s : ByteArray) (hs : s.size <= 300000000) : jln 120 [[.adr PrT, .own 0]] s [.box 0 0, .sl 4 l.length (jaS l)] fun o s' r => o = [[.adr PrT, .own 0]] /\ s' = ja1 s (jb1 false l) /\ r = .tup [] := by
 have hpos : ∀ x ∈ l.map (fun f => shN false f 1), 0 < x.size := fun x hx => by
  obtain ⟨f, h1, rfl⟩ := List.mem_map.1 hx
  exact (hf f h1).2.1 1
 have hmax : ∀ x ∈ l.map (fun f => shN false f 1), x.size <= m := fun x hx => by
  obtain ⟨f, h1, rfl⟩ := List.mem_map.1 hx
  exact ((hf f h1).1 1 (by decide) (by decide)).1
 obtain ⟨S, hS⟩ : ∃ S : Nat -> ByteArray, ∀ j, S j = lsS s (l.map fun f => shN false f 1) j := ⟨_, fun _ => rfl⟩
 have hS0 : S 0 = s := by rw [hS]; exact jji _ _
 have hSl : ja1 s (jb1 false l) = ja1 (S l.length) pSemi := by
  rw [hS];unfold lsS jb1;rw [show l.length = (l.map fun f => shN false f 1).length by simp, List.take_length]
  by_cases h0 : l = []
  ·subst h0
   show ja1 s (eB ++ pSemi) = ja1 (ja1 s eB) pSemi
   rw [jhH]; rfl
  ·have hc := jv9 (l.map fun f => shN false f 1) (by simpa using h0) hpos
   rw [jaJ s _ _ hc, jbC _ pSemi (by decide)]
 have hSn : ∀ j (h : j < l.length), S (j + 1) = ja1 (if j = 0 then S j else ja1 (S j) pComma) (shN false l[j] 1) := fun j h => by
  rw [hS, hS, jo3 _ _ hpos j (by simpa using h), List.getElem_map]
 have hSz : ∀ j, j <= l.length -> (S j).size <= s.size + 100 * 1000003 := fun j hj => by
  rw [hS]
  have := jnF s m _ hmax hpos j (by simpa using hj)
  have h2 : j * (m + 3) <= 100 * 1000003 := Nat.mul_le_mul (by omega) (by omega)
  omega
 rw [hSl, <- hS0]
 have hz0 : s.size <= 300000000 := hs
 refine jam (ja2 jak xs0 1) (fun _ _ h => h) Tryz.func120 rfl (by kernel_rfl) rfl (by kernel_rfl) ?_;intro _;conv => whnf
 refine jaj [0, 6, 7] ?_;conv => whnf
 refine jaL (fun j : Nat => [(8, .v (.int .i64 j))]) (fun _ => [[.adr PrT, .own 0]]) (fun j => [.live 5 0 (S j).size [.v (.string (S j))]]) (fun j => j <= l.length) (fun j => l.length - j) 0 ?_ (Nat.zero_le _) ?_
 ·repeat' constructor
 rintro j hj;conv => whnf
 have hz1 := hSz j hj
 by_cases hlt : j < l.length
 ·rw [decide_eq_true (show (j : Int) < (l.length : Int) by omega)]
  have hrow := jbs l j hlt
  have hSn := hSn j hlt
  have hg := hf _ (List.getElem_mem hlt)
  generalize l[j] = g at *
  have hyz := (hg.1 1 (by decide) (by decide)).1
  have hx := fun s hs => hg.2.2 s 1 (by decide) (by decide) hs
  generalize shN false g 1 = y at *;conv => whnf
  refine ⟨by omega, ?_⟩;conv => whnf
  (generalize hrq : jac _ _ (jaS l) = rq; obtain rfl : rq = ntA g := hrq.symm.trans (hrow); clear hrq; conv => whnf)
  by_cases hj0 : j = 0
  ·subst hj0;rw [if_pos rfl] at hSn;conv => whnf
   refine ja6 0 0 1 [] rfl rfl rfl rfl rfl rfl rfl (fun _ => hx (S 0) (by omega)) ?_;rintro o n' cs' r ⟨s4, rfl, rfl, ho, hs4, rfl⟩;cases ho;conv => whnf
   refine ⟨jaI (by omega), ?_⟩;conv => whnf
   refine ⟨0 + 1, jas [1] ?_, hlt, by omega⟩;conv => whnf
   rw [hs4, show S (0 + 1) = _ from hSn]
   repeat' constructor
  ·rw [if_neg hj0] at hSn
   have hz5 := ja0 (S j) pComma
   have e1 : pComma.size = 1 := rfl
   conv => whnf
   rw [decide_eq_true (show (0 : Int) < (j : Int) by omega)];conv => whnf
   refine ja6 0 0 2 [1] rfl rfl rfl rfl rfl rfl rfl (fun _ => (ja4 (S j) pComma (by decide) (by omega)).r) ?_;rintro o n' cs' r ⟨s3, rfl, rfl, ho, hs3, rfl⟩;cases ho;conv => whnf
   refine ja6 0 2 3 [] rfl rfl rfl rfl rfl rfl rfl (fun _ => hx s3 (by rw [hs3]; omega)) ?_;rintro o n' cs' r ⟨s4, rfl, rfl, ho, hs4, rfl⟩;cases ho;conv => whnf
   refine ⟨jaI (by omega), ?_⟩;conv => whnf
   refine ⟨j + 1, jas [3] ?_, hlt, by omega⟩;conv => whnf
   rw [hs4, hs3, show S (j + 1) = _ from hSn]
   repeat' constructor
 ·rw [decide_eq_false (show ¬ (j : Int) < (l.length : Int) by omega)]
  obtain rfl : j = l.length := by omega
  have e1 : pSemi.size = 1 := rfl
  conv => whnf
  refine ja6 0 0 2 [1] rfl rfl rfl rfl rfl rfl rfl (fun _ => (ja4 (S l.length) pSemi (by decide) (by omega)).r) ?_;rintro o n' cs' r ⟨s', rfl, rfl, ho, hs', rfl⟩;cases ho;conv => whnf
  refine ⟨2, ?_⟩;conv => whnf
  exact ⟨_, rfl, rfl, rfl, hs', rfl⟩
def PT (m : Nat) (f : Nt) : Prop := ST false m f /\ 0 < (stP false f).size /\ ∀ s : ByteArray, s.size + m + 100 <= 250000000 -> jln 89 [[.adr PrT, .own 0]] s [.box 0 0, .agg (ntA f)] fun o s' r => o = [[.adr PrT, .own 0]] /\ s' = ja1 s (stP false f) /\ r = .tup []
def PB (m : Nat) (f : Nt) : Prop := BK false m f /\ 0 < (bkP false f).size /\ ∀ s : ByteArray, s.size + m + 100 <= 250000000 -> jln 52 [[.adr PrT, .own 0]] s [.box 0 0, .agg (ntA f)] fun o s' r => o = [[.adr PrT, .own 0]] /\ s' = ja1 s (bkP false f) /\ r = .tup []
theorem PT.mono {m m' : Nat} {f : Nt} (h : PT m f) (hm : m <= m') : PT m' f := ⟨⟨Nat.le_trans h.1.1 hm, h.1.2⟩, h.2.1, fun s hs => h.2.2 s (by omega)⟩
theorem PB.mono {m m' : Nat} {f : Nt} (h : PB m f) (hm : m <= m') : PB m' f := ⟨⟨Nat.le_trans h.1.1 hm, h.1.2⟩, h.2.1, fun s hs => h.2.2 s (by omega)⟩
theorem jlP (l : List Nt) : 0 < (jb1 false l).size := by
 unfold jb1;rw [ByteArray.size_append]
 have : pSemi.size = 1 := rfl
 omega
theorem jrF (k : Int) (hk : k = 1 ∨ k = 8 ∨ k = 9) (s0 : ByteArray) (hs0 : s0.size <= 12) (hne : k = 1 -> 0 < s0.size) (m : Nat) (hm : m <= 1000000) (l : List Nt) (hl : l.length <= 2) (hf : ∀ f ∈ l, PX m f) : PT (2 * m + 40) (.mk k 0 s0 l) := by
 have hst := jon false k hk s0 hs0 m hm l hl fun f h => (hf f h).1
 have hlp := jlP l
 have c1 : pEq.size = 1 := rfl
 have c2 : wReply.size = 5 := rfl
 have c3 : wFail.size = 4 := rfl
 rcases hk with rfl | rfl | rfl
 ·have e : stP false (.mk 1 0 s0 l) = jb4 [s0, pEq, jb1 false l] := rfl
  have hne := hne rfl
  have hall : ∀ x ∈ [s0, pEq, jb1 false l], 0 < x.size := by
   intro x hx;simp only [List.mem_cons, List.not_mem_nil, or_false] at hx
   rcases hx with rfl | rfl | rfl
   ·exact hne
   ·decide
   ·exact hlp
  refine ⟨hst, by rw [e]; exact jbc (jbL _ (by simp) hall), fun s hs => ?_⟩;rw [e];refine jam (ja2 jak xs0 1) (fun _ _ h => h) Tryz.func89 rfl (by kernel_rfl) rfl (by kernel_rfl) ?_;intro _;conv => whnf
  refine ja6 0 0 2 [1] rfl rfl rfl rfl rfl rfl rfl (fun _ => (jbN s s0 pEq hne (by decide) (by omega)).r) ?_;rintro o n' cs' r ⟨s', rfl, rfl, ho, hs', rfl⟩;cases ho;conv => whnf
  have hz2 : s'.size <= s.size + 15 := by
   have g1 := ja0 s s0
   have g2 := ja0 (ja1 s s0) pEq
   rw [<- hs'] at g2;omega
  have hs2 := hs'
  clear hs';generalize s' = s2 at *;refine ja6 0 2 3 [] rfl rfl rfl rfl rfl rfl rfl (fun _ => (jel m hm l (by omega) hf s2 (by omega))) ?_;rintro o n' cs' r ⟨s', rfl, rfl, ho, hs', rfl⟩;cases ho;conv => whnf
  refine ⟨3, ?_⟩;conv => whnf
  refine ⟨_, rfl, rfl, rfl, ?_, rfl⟩;rw [hs', hs2, <- jaW s 3 [s0, pEq, jb1 false l] rfl hall];rfl
 ·have e : stP false (.mk 8 0 s0 l) = jb4 [wReply, jb1 false l] := rfl
  have hall : ∀ x ∈ [wReply, jb1 false l], 0 < x.size := by
   intro x hx;simp only [List.mem_cons, List.not_mem_nil, or_false] at hx
   rcases hx with rfl | rfl
   ·decide
   ·exact hlp
  refine ⟨hst, by rw [e]; exact jbc (jbL _ (by simp) hall), fun s hs => ?_⟩;rw [e];refine jam (ja2 jak xs0 1) (fun _ _ h => h) Tryz.func89 rfl (by kernel_rfl) rfl (by kernel_rfl) ?_;intro _;conv => whnf
  refine ja6 0 0 2 [1] rfl rfl rfl rfl rfl rfl rfl (fun _ => (ja4 s wReply (by decide) (by omega)).r) ?_;rintro o n' cs' r ⟨s', rfl, rfl, ho, hs', rfl⟩;cases ho;conv => whnf
  have hz2 := ja0 s wReply
  rw [<- hs'] at hz2
  have hs2 := hs'
  clear hs';generalize s' = s2 at *;refine ja6 0 2 3 [] rfl rfl rfl rfl rfl rfl rfl (fun _ => (jel m hm l (by omega) hf s2 (by omega))) ?_;rintro o n' cs' r ⟨s', rfl, rfl, ho, hs', rfl⟩;cases ho;conv => whnf
  refine ⟨3, ?_⟩;conv => whnf
  refine ⟨_, rfl, rfl, rfl, ?_, rfl⟩;rw [hs', hs2, <- jaW s 2 [wReply, jb1 false l] rfl hall];rfl
 ·have e : stP false (.mk 9 0 s0 l) = jb4 [wFail, jb1 false l] := rfl
  have hall : ∀ x ∈ [wFail, jb1 false l], 0 < x.size := by
   intro x hx;simp only [List.mem_cons, List.not_mem_nil, or_false] at hx
   rcases hx with rfl | rfl
   ·decide
   ·exact hlp
  refine ⟨hst, by rw [e]; exact jbc (jbL _ (by simp) hall), fun s hs => ?_⟩;rw [e];refine jam (ja2 jak xs0 1) (fun _ _ h => h) Tryz.func89 rfl (by kernel_rfl) rfl (by kernel_rfl) ?_;intro _;conv => whnf
  refine ja6 0 0 2 [1] rfl rfl rfl rfl rfl rfl rfl (fun _ => (ja4 s wFail (by decide) (by omega)).r) ?_;rintro o n' cs' r ⟨s', rfl, rfl, ho, hs', rfl⟩;cases ho;conv => whnf
  have hz2 := ja0 s wFail
  rw [<- hs'] at hz2
  have hs2 := hs'
  clear hs';generalize s' = s2 at *;refine ja6 0 2 3 [] rfl rfl rfl rfl rfl rfl rfl (fun _ => (jel m hm l (by omega) hf s2 (by omega))) ?_;rintro o n' cs' r ⟨s', rfl, rfl, ho, hs', rfl⟩;cases ho;conv => whnf
  refine ⟨3, ?_⟩;conv => whnf
  refine ⟨_, rfl, rfl, rfl, ?_, rfl⟩;rw [hs', hs2, <- jaW s 2 [wFail, jb1 false l] rfl hall];rfl
theorem juM (k : Int) (hk : k = 5 ∨ k = 6) (n : Nat) (hn : n < 1000) : PT 40 (.mk k n eB []) := by
 have hst := jqV false k hk n hn
 have hdc := jdc n (by omega)
 rw [show ((n : Int)).toNat = n by omega] at hdc
 have hds := jb5 n (by omega)
 have hdp := jei n
 have c1 : pSemi.size = 1 := rfl
 have c2 : wTimer.size = 5 := rfl
 have c3 : wCancel.size = 6 := rfl
 rcases hk with rfl | rfl
 ·have e : stP false (.mk 5 n eB []) = jb4 [wTimer, bs (jb3 n), pSemi] := rfl
  have hall : ∀ x ∈ [wTimer, bs (jb3 n), pSemi], 0 < x.size := by
   intro x hx;simp only [List.mem_cons, List.not_mem_nil, or_false] at hx
   rcases hx with rfl | rfl | rfl
   ·decide
   ·exact hdp
   ·decide
  refine ⟨hst, by rw [e]; exact jbc (jbL _ (by simp) hall), fun s hs => ?_⟩;rw [e]
  have hpf := jaW s 3 [wTimer, bs (jb3 n), pSemi] rfl hall
  generalize bs (jb3 n) = x at *;refine jam (ja2 jak xs0 1) (fun _ _ h => h) Tryz.func89 rfl (by kernel_rfl) rfl (by kernel_rfl) ?_;intro _;conv => whnf
  (refine ja9 [] rfl (fun _ => hdc) ?_; rintro r rfl; conv => whnf)
  refine ja6 0 0 2 [1] rfl rfl rfl rfl rfl rfl rfl (fun _ => (jhY s wTimer x pSemi (by decide) hdp (by decide) (by omega)).r) ?_;rintro o n' cs' r ⟨s', rfl, rfl, ho, hs', rfl⟩;cases ho;conv => whnf
  refine ⟨2, ?_⟩;conv => whnf
  refine ⟨_, rfl, rfl, rfl, ?_, rfl⟩;rw [hs', <- hpf];rfl
 ·have e : stP false (.mk 6 n eB []) = jb4 [wCancel, bs (jb3 n), pSemi] := rfl
  have hall : ∀ x ∈ [wCancel, bs (jb3 n), pSemi], 0 < x.size := by
   intro x hx;simp only [List.mem_cons, List.not_mem_nil, or_false] at hx
   rcases hx with rfl | rfl | rfl
   ·decide
   ·exact hdp
   ·decide
  refine ⟨hst, by rw [e]; exact jbc (jbL _ (by simp) hall), fun s hs => ?_⟩;rw [e]
  have hpf := jaW s 3 [wCancel, bs (jb3 n), pSemi] rfl hall
  generalize bs (jb3 n) = x at *;refine jam (ja2 jak xs0 1) (fun _ _ h => h) Tryz.func89 rfl (by kernel_rfl) rfl (by kernel_rfl) ?_;intro _;conv => whnf
  (refine ja9 [] rfl (fun _ => hdc) ?_; rintro r rfl; conv => whnf)
  refine ja6 0 0 2 [1] rfl rfl rfl rfl rfl rfl rfl (fun _ => (jhY s wCancel x pSemi (by decide) hdp (by decide) (by omega)).r) ?_;rintro o n' cs' r ⟨s', rfl, rfl, ho, hs', rfl⟩;cases ho;conv => whnf
  refine ⟨2, ?_⟩;conv => whnf
  refine ⟨_, rfl, rfl, rfl, ?_, rfl⟩;rw [hs', <- hpf];rfl
theorem jui (k : Int) (hk : k = 7 ∨ k = 10) : PT 40 (.mk k 0 eB []) := by
 have hst := jq5 false k hk
 have c1 : pSemi.size = 1 := rfl
 have c2 : (⟨#[115, 121, 110, 99]⟩ : ByteArray).size = 4 := rfl
 have c3 : (⟨#[115, 116, 111, 112]⟩ : ByteArray).size = 4 := rfl
 rcases hk with rfl | rfl
 ·refine ⟨hst, show 0 < syncB.size by decide, fun s hs => ?_⟩;rw [show stP false (.mk 7 0 eB []) = jb4 [⟨#[115, 121, 110, 99]⟩, pSemi] by decide]
  have hpf := jaW s 2 [⟨#[115, 121, 110, 99]⟩, pSemi] rfl (by decide)
  refine jam (ja2 jak xs0 1) (fun _ _ h => h) Tryz.func89 rfl (by kernel_rfl) rfl (by kernel_rfl) ?_;intro _;conv => whnf
  refine ja6 0 0 2 [1] rfl rfl rfl rfl rfl rfl rfl (fun _ => (jbN s ⟨#[115, 121, 110, 99]⟩ pSemi (by decide) (by decide) (by omega)).r) ?_;rintro o n' cs' r ⟨s', rfl, rfl, ho, hs', rfl⟩;cases ho;conv => whnf
  refine ⟨2, ?_⟩;conv => whnf
  refine ⟨_, rfl, rfl, rfl, ?_, rfl⟩;rw [hs'];exact hpf
 ·refine ⟨hst, show 0 < stopB.size by decide, fun s hs => ?_⟩;rw [show stP false (.mk 10 0 eB []) = jb4 [⟨#[115, 116, 111, 112]⟩, pSemi] by decide]
  have hpf := jaW s 2 [⟨#[115, 116, 111, 112]⟩, pSemi] rfl (by decide)
  refine jam (ja2 jak xs0 1) (fun _ _ h => h) Tryz.func89 rfl (by kernel_rfl) rfl (by kernel_rfl) ?_;intro _;conv => whnf
  refine ja6 0 0 2 [1] rfl rfl rfl rfl rfl rfl rfl (fun _ => (jbN s ⟨#[115, 116, 111, 112]⟩ pSemi (by decide) (by decide) (by omega)).r) ?_;rintro o n' cs' r ⟨s', rfl, rfl, ho, hs', rfl⟩;cases ho;conv => whnf
  refine ⟨2, ?_⟩;conv => whnf
  refine ⟨_, rfl, rfl, rfl, ?_, rfl⟩;rw [hs'];exact hpf
theorem jyu (n : Nat) (hn : n < 1000) (m : Nat) (hm : m <= 1000000) (f g h : Nt) (hf : PX m f) (hg : PX m g) (hh : PX m h) : PT (3 * m + 80) (.mk 4 n eB [f, g, h]) := by
 have hst := juZ false n hn m hm f g h hf.1 hg.1 hh.1
 have hgh : ∀ x ∈ [g, h], PX m x := fun x hx => by
  simp only [List.mem_cons, List.not_mem_nil, or_false] at hx
  rcases hx with rfl | rfl
  ·exact hg
  ·exact hh
 have hlp := jlP [g, h]
 have hdc := jdc n (by omega)
 rw [show ((n : Int)).toNat = n by omega] at hdc
 have hds := jb5 n (by omega)
 have hdp := jei n
 have c1 : pComma.size = 1 := rfl
 have c2 : wSend.size = 4 := rfl
 have e : stP false (.mk 4 n eB [f, g, h]) = jb4 [wSend, shN false f 1, pComma, bs (jb3 n), pComma, jb1 false [g, h]] := rfl
 have hy := hf.2.1 1
 have hyz := (hf.1 1 (by decide) (by decide)).1
 have hall : ∀ x ∈ [wSend, shN false f 1, pComma, bs (jb3 n), pComma, jb1 false [g, h]], 0 < x.size := by
  intro x hx;simp only [List.mem_cons, List.not_mem_nil, or_false] at hx
  rcases hx with rfl | rfl | rfl | rfl | rfl | rfl
  ·decide
  ·exact hy
  ·decide
  ·exact hdp
  ·decide
  ·exact hlp
 refine ⟨hst, by rw [e]; exact jbc (jbL _ (by simp) hall), fun s hs => ?_⟩;rw [e]
 have hpf := jaW s 6 [wSend, shN false f 1, pComma, bs (jb3 n), pComma, jb1 false [g, h]] rfl hall
 have hls := fun s hs => jel m hm [g, h] (by simp) hgh s hs
 have hx1 := fun s hs => hf.2.2 s 1 (by decide) (by decide) hs
 rw [<- hpf];clear hpf hall hlp e;generalize jb1 false [g, h] = x at *;generalize bs (jb3 n) = d at *;generalize shN false f 1 = y at *
 have hr := (jtH f g h).1
 have hdr : ((jaS [f, g, h]).drop 4).take 8 = jaS [g, h] := by
  rw [jaF f [g, h], List.drop_left' (by rfl), List.take_of_length_le (by rw [joj]; simp)]
 rw [<- hdr] at hls;refine jam (ja2 jak xs0 1) (fun _ _ h => h) Tryz.func89 rfl (by kernel_rfl) rfl (by kernel_rfl) ?_;intro _;conv => whnf
 refine ja6 0 0 2 [1] rfl rfl rfl rfl rfl rfl rfl (fun _ => (ja4 s wSend (by decide) (by omega)).r) ?_;rintro o n' cs' r ⟨s', rfl, rfl, ho, hs', rfl⟩;cases ho;conv => whnf
 have hz2 := ja0 s wSend
 rw [<- hs'] at hz2
 have hs2 := hs'
 clear hs';generalize s' = s2 at *;refine ⟨by simp [Nt.kids], ?_⟩;conv => whnf
 (generalize hrq : jac _ _ (jaS (Nt.mk 4 n eB [f, g, h]).kids) = rq; obtain rfl : rq = ntA f := hrq.symm.trans (hr); clear hrq; conv => whnf)
 refine ja6 0 2 3 [] rfl rfl rfl rfl rfl rfl rfl (fun _ => (hx1 s2 (by omega))) ?_;rintro o n' cs' r ⟨s', rfl, rfl, ho, hs', rfl⟩;cases ho;conv => whnf
 have hz3 := ja0 s2 y
 rw [<- hs'] at hz3
 have hs3 := hs'
 clear hs';generalize s' = s3 at *
 (refine ja9 [] rfl (fun _ => hdc) ?_; rintro r rfl; conv => whnf)
 refine ja6 0 3 5 [4] rfl rfl rfl rfl rfl rfl rfl (fun _ => (jhY s3 pComma d pComma (by decide) hdp (by decide) (by omega)).r) ?_;rintro o n' cs' r ⟨s', rfl, rfl, ho, hs', rfl⟩;cases ho;conv => whnf
 have hz4 : s'.size <= s3.size + 18 := by
  have g1 := ja0 s3 pComma
  have g2 := ja0 (ja1 s3 pComma) d
  have g3 := ja0 (ja1 (ja1 s3 pComma) d) pComma
  rw [<- hs'] at g3;omega
 have hs4 := hs'
 clear hs';generalize s' = s4 at *;refine ⟨by simp [Nt.kids], ?_⟩;conv => whnf
 refine ja6 0 5 6 [] rfl rfl rfl rfl rfl rfl rfl (fun _ => (hls s4 (by omega))) ?_;rintro o n' cs' r ⟨s', rfl, rfl, ho, hs', rfl⟩;cases ho;conv => whnf
 refine ⟨6, ?_⟩;conv => whnf
 refine ⟨_, rfl, rfl, rfl, ?_, rfl⟩;rw [hs', hs4, hs3, hs2];rfl
theorem jxl (m : Nat) (hm : m <= 100000000) (c b : Nt) (hc : PX m c) (hb : PB m b) : PT (2 * m + 40) (.mk 3 0 eB [c, b]) := by
 have hst := juu false m hm c b hc.1 hb.1
 have c2 : wWhile.size = 5 := rfl
 have e : stP false (.mk 3 0 eB [c, b]) = jb4 [wWhile, shN false c 1, bkP false b] := rfl
 have hyz := (hc.1 1 (by decide) (by decide)).1
 have hall : ∀ x ∈ [wWhile, shN false c 1, bkP false b], 0 < x.size := by
  intro x hx;simp only [List.mem_cons, List.not_mem_nil, or_false] at hx
  rcases hx with rfl | rfl | rfl
  ·decide
  ·exact hc.2.1 1
  ·exact hb.2.1
 refine ⟨hst, by rw [e]; exact jbc (jbL _ (by simp) hall), fun s hs => ?_⟩;rw [e, <- jaW s 3 [wWhile, shN false c 1, bkP false b] rfl hall]
 have hx1 := fun s hs => hc.2.2 s 1 (by decide) (by decide) hs
 have hx2 := hb.2.2
 clear hall e;generalize shN false c 1 = y at *;generalize bkP false b = x at *
 have hr := jnm c b
 have hr2 := joR c b
 refine jam (ja2 jak xs0 1) (fun _ _ h => h) Tryz.func89 rfl (by kernel_rfl) rfl (by kernel_rfl) ?_;intro _;conv => whnf
 refine ja6 0 0 2 [1] rfl rfl rfl rfl rfl rfl rfl (fun _ => (ja4 s wWhile (by decide) (by omega)).r) ?_;rintro o n' cs' r ⟨s', rfl, rfl, ho, hs', rfl⟩;cases ho;conv => whnf
 have hz2 := ja0 s wWhile
 rw [<- hs'] at hz2
 have hs2 := hs'
 clear hs';generalize s' = s2 at *;refine ⟨by simp [Nt.kids], ?_⟩;conv => whnf
 (generalize hrq : jac _ _ (jaS (Nt.mk 3 0 eB [c, b]).kids) = rq; obtain rfl : rq = ntA c := hrq.symm.trans (hr); clear hrq; conv => whnf)
 refine ja6 0 2 3 [] rfl rfl rfl rfl rfl rfl rfl (fun _ => (hx1 s2 (by omega))) ?_;rintro o n' cs' r ⟨s', rfl, rfl, ho, hs', rfl⟩;cases ho;conv => whnf
 have hz3 := ja0 s2 y
 rw [<- hs'] at hz3
 have hs3 := hs'
 clear hs';generalize s' = s3 at *;refine ⟨by simp [Nt.kids], ?_⟩;conv => whnf
 (generalize hrq : jac _ _ (jaS (Nt.mk 3 0 eB [c, b]).kids) = rq; obtain rfl : rq = ntA b := hrq.symm.trans (hr2); clear hrq; conv => whnf)
 refine ja6 0 3 4 [] rfl rfl rfl rfl rfl rfl rfl (fun _ => (hx2 s3 (by omega))) ?_;rintro o n' cs' r ⟨s', rfl, rfl, ho, hs', rfl⟩;cases ho;conv => whnf
 refine ⟨4, ?_⟩;conv => whnf
 refine ⟨_, rfl, rfl, rfl, ?_, rfl⟩;rw [hs', hs3, hs2];rfl
theorem jz9 (m : Nat) (hm : m <= 50000000) (c b d : Nt) (hc : PX m c) (hb : PB m b) (hd : PB m d) : PT (3 * m + 60) (.mk 2 0 eB [c, b, d]) := by
 have hst := jux false m hm c b d hc.1 hb.1 hd.1
 have c2 : wIf.size = 2 := rfl
 have c3 : wElse.size = 4 := rfl
 have e : stP false (.mk 2 0 eB [c, b, d]) = if 0 < d.kids.length then jb4 [jb4 [wIf, shN false c 1, bkP false b], wElse, bkP false d] else jb4 [wIf, shN false c 1, bkP false b] := rfl
 have hyz := (hc.1 1 (by decide) (by decide)).1
 have hbz := hb.1.1
 have hdz := hd.1.1
 have hall : ∀ x ∈ [wIf, shN false c 1, bkP false b], 0 < x.size := by
  intro x hx;simp only [List.mem_cons, List.not_mem_nil, or_false] at hx
  rcases hx with rfl | rfl | rfl
  ·decide
  ·exact hc.2.1 1
  ·exact hb.2.1
 have hv := jbc (jbL [wIf, shN false c 1, bkP false b] (by simp) hall)
 have hall2 : ∀ x ∈ [jb4 [wIf, shN false c 1, bkP false b], wElse, bkP false d], 0 < x.size := by
  intro x hx;simp only [List.mem_cons, List.not_mem_nil, or_false] at hx
  rcases hx with rfl | rfl | rfl
  ·exact hv
  ·decide
  ·exact hd.2.1
 refine ⟨hst, by rw [e]; split; exact jbc (jbL _ (by simp) hall2); exact hv, fun s hs => ?_⟩
 have hpf := jaW s 3 [wIf, shN false c 1, bkP false b] rfl hall
 have hpf2 := jaW s 3 [jb4 [wIf, shN false c 1, bkP false b], wElse, bkP false d] rfl hall2
 have hx1 := fun s hs => hc.2.2 s 1 (by decide) (by decide) hs
 have hx2 := hb.2.2
 have hx3 := hd.2.2
 rw [e];clear hall hall2 hv e hst;generalize hvv : jb4 [wIf, shN false c 1, bkP false b] = v at *;clear hvv;generalize shN false c 1 = y at *;generalize bkP false b = x at *;generalize bkP false d = z at *
 obtain ⟨hr, hr2, hr3⟩ := jtH c b d
 have hpf3 : ja1 (ja1 (ja1 s wIf) y) x = ja1 s v := hpf
 by_cases hl : 0 < d.kids.length
 ·rw [if_pos hl];refine jam (ja2 jak xs0 1) (fun _ _ h => h) Tryz.func89 rfl (by kernel_rfl) rfl (by kernel_rfl) ?_;intro _;conv => whnf
  refine ja6 0 0 2 [1] rfl rfl rfl rfl rfl rfl rfl (fun _ => (ja4 s wIf (by decide) (by omega)).r) ?_;rintro o n' cs' r ⟨s', rfl, rfl, ho, hs', rfl⟩;cases ho;conv => whnf
  have hz2 := ja0 s wIf
  rw [<- hs'] at hz2
  have hs2 := hs'
  clear hs';generalize s' = s2 at *;refine ⟨by simp [Nt.kids], ?_⟩;conv => whnf
  (generalize hrq : jac _ _ (jaS (Nt.mk 2 0 eB [c, b, d]).kids) = rq; obtain rfl : rq = ntA c := hrq.symm.trans (hr); clear hrq; conv => whnf)
  refine ja6 0 2 3 [] rfl rfl rfl rfl rfl rfl rfl (fun _ => (hx1 s2 (by omega))) ?_;rintro o n' cs' r ⟨s', rfl, rfl, ho, hs', rfl⟩;cases ho;conv => whnf
  have hz3 := ja0 s2 y
  rw [<- hs'] at hz3
  have hs3 := hs'
  clear hs';generalize s' = s3 at *;refine ⟨by simp [Nt.kids], ?_⟩;conv => whnf
  (generalize hrq : jac _ _ (jaS (Nt.mk 2 0 eB [c, b, d]).kids) = rq; obtain rfl : rq = ntA b := hrq.symm.trans (hr2); clear hrq; conv => whnf)
  refine ja6 0 3 4 [] rfl rfl rfl rfl rfl rfl rfl (fun _ => (hx2 s3 (by omega))) ?_;rintro o n' cs' r ⟨s', rfl, rfl, ho, hs', rfl⟩;cases ho;conv => whnf
  have hz4 := ja0 s3 x
  rw [<- hs'] at hz4
  have hs4 := hs'
  clear hs';generalize s' = s4 at *;refine ⟨by simp [Nt.kids], ?_⟩;conv => whnf
  (generalize hrq : jac _ _ (jaS (Nt.mk 2 0 eB [c, b, d]).kids) = rq; obtain rfl : rq = ntA d := hrq.symm.trans (hr3); clear hrq; conv => whnf)
  rw [decide_eq_true (show 0 < (d.kids.length : Int) by omega)];conv => whnf
  refine ja6 0 4 6 [5] rfl rfl rfl rfl rfl rfl rfl (fun _ => (ja4 s4 wElse (by decide) (by omega)).r) ?_;rintro o n' cs' r ⟨s', rfl, rfl, ho, hs', rfl⟩;cases ho;conv => whnf
  have hz5 := ja0 s4 wElse
  rw [<- hs'] at hz5
  have hs5 := hs'
  clear hs';generalize s' = s5 at *;refine ⟨by simp [Nt.kids], ?_⟩;conv => whnf
  (generalize hrq : jac _ _ (jaS (Nt.mk 2 0 eB [c, b, d]).kids) = rq; obtain rfl : rq = ntA d := hrq.symm.trans (hr3); clear hrq; conv => whnf)
  refine ja6 0 6 7 [] rfl rfl rfl rfl rfl rfl rfl (fun _ => (hx3 s5 (by omega))) ?_;rintro o n' cs' r ⟨s', rfl, rfl, ho, hs', rfl⟩;cases ho;conv => whnf
  refine ⟨7, ?_⟩;conv => whnf
  refine ⟨_, rfl, rfl, rfl, ?_, rfl⟩;rw [hs', hs5, hs4, hs3, hs2, hpf3, <- hpf2];rfl
 ·rw [if_neg hl];refine jam (ja2 jak xs0 1) (fun _ _ h => h) Tryz.func89 rfl (by kernel_rfl) rfl (by kernel_rfl) ?_;intro _;conv => whnf
  refine ja6 0 0 2 [1] rfl rfl rfl rfl rfl rfl rfl (fun _ => (ja4 s wIf (by decide) (by omega)).r) ?_;rintro o n' cs' r ⟨s', rfl, rfl, ho, hs', rfl⟩;cases ho;conv => whnf
  have hz2 := ja0 s wIf
  rw [<- hs'] at hz2
  have hs2 := hs'
  clear hs';generalize s' = s2 at *;refine ⟨by simp [Nt.kids], ?_⟩;conv => whnf
  (generalize hrq : jac _ _ (jaS (Nt.mk 2 0 eB [c, b, d]).kids) = rq; obtain rfl : rq = ntA c := hrq.symm.trans (hr); clear hrq; conv => whnf)
  refine ja6 0 2 3 [] rfl rfl rfl rfl rfl rfl rfl (fun _ => (hx1 s2 (by omega))) ?_;rintro o n' cs' r ⟨s', rfl, rfl, ho, hs', rfl⟩;cases ho;conv => whnf
  have hz3 := ja0 s2 y
  rw [<- hs'] at hz3
  have hs3 := hs'
  clear hs';generalize s' = s3 at *;refine ⟨by simp [Nt.kids], ?_⟩;conv => whnf
  (generalize hrq : jac _ _ (jaS (Nt.mk 2 0 eB [c, b, d]).kids) = rq; obtain rfl : rq = ntA b := hrq.symm.trans (hr2); clear hrq; conv => whnf)
  refine ja6 0 3 4 [] rfl rfl rfl rfl rfl rfl rfl (fun _ => (hx2 s3 (by omega))) ?_;rintro o n' cs' r ⟨s', rfl, rfl, ho, hs', rfl⟩;cases ho;conv => whnf
  have hz4 := ja0 s3 x
  rw [<- hs'] at hz4
  have hs4 := hs'
  clear hs';generalize s' = s4 at *;refine ⟨by simp [Nt.kids], ?_⟩;conv => whnf
  (generalize hrq : jac _ _ (jaS (Nt.mk 2 0 eB [c, b, d]).kids) = rq; obtain rfl : rq = ntA d := hrq.symm.trans (hr3); clear hrq; conv => whnf)
  rw [decide_eq_false (show ¬ 0 < (d.kids.length : Int) by omega)];conv => whnf
  refine ⟨4, ?_⟩;conv => whnf
  refine ⟨_, rfl, rfl, rfl, ?_, rfl⟩;rw [hs4, hs3, hs2, hpf3]
theorem jjg (m : Nat) (hm : m <= 1000000) (l : List Nt) (hl : l.length <= 3) (hf : ∀ f ∈ l, PT m f) : PB (3 * m + 10) (jba l) := by
 have hbk := jhO false m hm l hl fun f h => (hf f h).1
 have c1 : pLb.size = 1 := rfl
 have c2 : pRb.size = 1 := rfl
 have e : bkP false (jba l) = bkL false l ++ pRb := jrO _ _ _ _ _
 refine ⟨hbk, by rw [e, ByteArray.size_append]; omega, fun s hs => ?_⟩
 have hpos : ∀ x ∈ pLb :: l.map (stP false), 0 < x.size := fun x hx => by
  rcases List.mem_cons.1 hx with rfl | hx
  ·decide
  ·obtain ⟨f, h1, rfl⟩ := List.mem_map.1 hx
   exact (hf f h1).2.1
 obtain ⟨S, hS⟩ : ∃ S : Nat -> ByteArray, ∀ j, S j = jkp s (pLb :: (l.map (stP false)).take j) := ⟨_, fun _ => rfl⟩
 have hS0 : S 0 = ja1 s pLb := by rw [hS, List.take_zero]; rfl
 have hbL : jb4 (pLb :: l.map (stP false)) = bkL false l := rfl
 have hSl : ja1 s (bkP false (jba l)) = ja1 (S l.length) pRb := by
  have hne := jbL (pLb :: l.map (stP false)) (by simp) hpos
  rw [hS, show l.length = (l.map (stP false)).length by simp, List.take_length, jaW s _ _ rfl hpos, e, jaJ s _ _ hne, hbL, jbC _ pRb (by decide)]
 have hSn : ∀ j (h : j < l.length), S (j + 1) = ja1 (S j) (stP false l[j]) := fun j h => by
  rw [hS, hS];unfold jkp;rw [List.take_succ_eq_append_getElem (by simpa using h), <- List.cons_append, List.foldl_append, List.getElem_map];rfl
 have hSz : ∀ j, j <= l.length -> (S j).size <= s.size + 2 + j * (m + 1) := fun j => by
  induction j with
  | zero =>
   intro _
   have := ja0 s pLb
   rw [hS0]; omega
  | succ j ih =>
   intro hj
   have := ih (by omega)
   have h1 := (hf _ (List.getElem_mem (show j < l.length by omega))).1.1
   have h2 := ja0 (S j) (stP false (l[j]'(by omega)))
   rw [hSn j (by omega), Nat.succ_mul];omega
 rw [hSl];unfold jba;rw [show ntA (Nt.mk 11 0 eB l) = [jao 11, jao 0, jaT eB, .sl 4 l.length (jaS l)] from rfl];refine jam (ja2 jak xs0 1) (fun _ _ h => h) Tryz.func52 rfl (by kernel_rfl) rfl (by kernel_rfl) ?_;intro _;conv => whnf
 refine ja6 0 0 2 [1] rfl rfl rfl rfl rfl rfl rfl (fun _ => (ja4 s pLb (by decide) (by omega)).r) ?_;rintro o n' cs' r ⟨s', rfl, rfl, ho, hs', rfl⟩;cases ho;conv => whnf
 rw [<- hS0] at hs';subst hs';refine jgJ [2] ?_;conv => whnf
 refine jaj [0, 3, 10, 11] ?_;conv => whnf
 refine jaL (fun j : Nat => [(12, .v (.int .i64 j))]) (fun _ => [[.adr PrT, .own 0], [jao 11, jao 0, jaT eB, .sl 4 l.length (jaS l)]]) (fun j => [.live 5 0 (S j).size [.v (.string (S j))]]) (fun j => j <= l.length) (fun j => l.length - j) 0 ?_ (Nat.zero_le _) ?_
 ·repeat' constructor
 rintro j hj;conv => whnf
 have hz1 := hSz j hj
 have hjm : j * (m + 1) <= l.length * (m + 1) := Nat.mul_le_mul_right _ hj
 have hlm : l.length * (m + 1) <= 3 * (m + 1) := Nat.mul_le_mul_right _ hl
 by_cases hlt : j < l.length
 ·rw [decide_eq_true (show (j : Int) < (l.length : Int) by omega)]
  have hrow := jbs l j hlt
  have hSn := hSn j hlt
  have hg := hf _ (List.getElem_mem hlt)
  have hjm2 : (j + 1) * (m + 1) <= 3 * (m + 1) := Nat.mul_le_mul_right _ (by omega)
  rw [Nat.succ_mul] at hjm2;generalize l[j] = g at *
  have hx := hg.2.2
  generalize stP false g = y at *;conv => whnf
  refine ⟨by omega, ?_⟩;conv => whnf
  (generalize hrq : jac _ _ (jaS l) = rq; obtain rfl : rq = ntA g := hrq.symm.trans (hrow); clear hrq; conv => whnf)
  refine ja6 0 0 1 [] rfl rfl rfl rfl rfl rfl rfl (fun _ => hx (S j) (by omega)) ?_;rintro o n' cs' r ⟨s4, rfl, rfl, ho, hs4, rfl⟩;cases ho;conv => whnf
  refine ⟨jaI (by omega), ?_⟩;conv => whnf
  refine ⟨j + 1, jas [1] ?_, hlt, by omega⟩;conv => whnf
  rw [hs4, show S (j + 1) = _ from hSn]
  repeat' constructor
 ·rw [decide_eq_false (show ¬ (j : Int) < (l.length : Int) by omega)]
  obtain rfl : j = l.length := by omega
  conv => whnf
  refine ja6 0 0 2 [1] rfl rfl rfl rfl rfl rfl rfl (fun _ => (ja4 (S l.length) pRb (by decide) (by omega)).r) ?_;rintro o n' cs' r ⟨s', rfl, rfl, ho, hs', rfl⟩;cases ho;conv => whnf
  refine ⟨2, ?_⟩;conv => whnf
  exact ⟨_, rfl, rfl, rfl, hs', rfl⟩
theorem jzU {d : Nat} {f : Nt} (h : ES d f) : cS d <= 1000000 -> PT (cS d) f := by
 have i0 : cI 0 = 14 := rfl
 have i1 : cI 1 = 48 := rfl
 have i2 : cI 2 = 116 := rfl
 have i3 : cI 3 = 252 := rfl
 have hI : ∀ {e : Nat} {f : Nt}, EI e f -> e <= 2 -> PX 252 f := fun {e f} h he => by
  rcases (by omega : e = 0 ∨ e = 1 ∨ e = 2) with rfl | rfl | rfl
  ·exact (jsc h (by decide)).mono (by decide)
  ·exact (jsc h (by decide)).mono (by decide)
  ·exact (jsc h (by decide)).mono (by decide)
 have hB : ∀ {e : Nat} {f : Nt}, EB e f -> e = 1 ∨ e = 2 -> PX 252 f := fun {e f} h he => by
  rcases he with rfl | rfl
  ·exact (jyx h (by decide)).mono (by decide)
  ·exact (jyx h (by decide)).mono (by decide)
 have one : ∀ {f : Nt}, PX 252 f -> ∀ x ∈ [f], PX 252 x := fun {f} h x hx => by rw [List.mem_singleton.1 hx]; exact h
 have two : ∀ {f g : Nt}, PX 252 f -> PX 252 g -> ∀ x ∈ [f, g], PX 252 x := fun {f g} h k x hx => by
  rcases List.mem_cons.1 hx with rfl | hx
  ·exact h
  ·rw [List.mem_singleton.1 hx]; exact k
 induction h with
 | asg d e s f hs h he => exact fun _ => (jrF 1 (.inl rfl) s (jjf s hs) (fun _ => jqY s hs) 252 (by decide) [f] (by simp) (one (hI h he))).mono (Nat.le_trans (by decide) (jcW d))
 | snd d n f g h hn h1 h2 h3 => exact fun _ => (jyu n (by omega) 252 (by decide) f g h (hI h1 (by decide)) (hI h2 (by decide)) (hI h3 (by decide))).mono (Nat.le_trans (by decide) (jcW d))
 | tim d n hn => exact fun _ => (juM 5 (.inl rfl) n (by omega)).mono (Nat.le_trans (by decide) (jcW d))
 | can d n hn => exact fun _ => (juM 6 (.inr rfl) n (by omega)).mono (Nat.le_trans (by decide) (jcW d))
 | syn d => exact fun _ => (jui 7 (.inl rfl)).mono (Nat.le_trans (by decide) (jcW d))
 | rep d f g h1 h2 => exact fun _ => (jrF 8 (.inr (.inl rfl)) eB (by decide) (fun h => absurd h (by decide)) 252 (by decide) [f, g] (by simp) (two (hI h1 (by decide)) (hI h2 (by decide)))).mono (Nat.le_trans (by decide) (jcW d))
 | fai d f h1 => exact fun _ => (jrF 9 (.inr (.inr rfl)) eB (by decide) (fun h => absurd h (by decide)) 252 (by decide) [f] (by simp) (one (hI h1 (by decide)))).mono (Nat.le_trans (by decide) (jcW d))
 | stp d => exact fun _ => (jui 10 (.inr rfl)).mono (Nat.le_trans (by decide) (jcW d))
 | whi d c l h1 h2 h3 ih =>
  intro hc
  have e : cS (d + 1) = 700 + 3 * (3 * cS d + 10) := rfl
  rw [e] at hc ⊢
  have hge := jcW d
  have hb := jjg (cS d) (by omega) l (by omega) (fun s hs => ih s hs (by omega))
  exact (jxl (3 * cS d + 10) (by omega) c (jba l) ((hB h1 (.inl rfl)).mono (by omega)) hb).mono (by omega)
 | iff d c l m h1 h2 h3 h4 h5 ih1 ih2 =>
  intro hc
  have e : cS (d + 1) = 700 + 3 * (3 * cS d + 10) := rfl
  rw [e] at hc ⊢
  have hge := jcW d
  have hb := jjg (cS d) (by omega) l (by omega) (fun s hs => ih1 s hs (by omega))
  have hb2 := jjg (cS d) (by omega) m (by omega) (fun s hs => ih2 s hs (by omega))
  exact (jz9 (3 * cS d + 10) (by omega) c (jba l) (jba m) ((hB h1 (.inr rfl)).mono (by omega)) hb hb2).mono (by omega)
theorem jA8 {b : Nt} (h : EK b) : PB 300000 b := by
 obtain ⟨k, rfl, h1, h2⟩ := h
 have e2 : cS 2 = 80200 := rfl
 exact (jjg (cS 2) (by omega) k h1 (fun s hs => jzU (h2 s hs) (by omega))).mono (by omega)
theorem jyP : ∀ k < 10, jbP (UInt8.ofNat (48 + k)) = true := by decide
theorem jpv : ∀ (n : Nat), n ≠ 0 -> ∃ c l, jmb n = c :: l /\ jbP c = true := fun n => by
 induction n using Nat.strongRecOn with
 | _ n ih =>
  intro h;rw [jcl h]
  by_cases h0 : n / 10 = 0
  ·rw [h0, jdd];exact ⟨_, _, rfl, jyP _ (Nat.mod_lt _ (by decide))⟩
  ·obtain ⟨c, l, e, hc⟩ := ih (n / 10) (by omega) h0
   rw [e];exact ⟨c, _, rfl, hc⟩
theorem jg3 (n : Nat) : jbP (jaq (bs (jb3 n))) = true := by
 unfold jb3
 split
 ·decide
 ·obtain ⟨c, l, e, hc⟩ := jpv n (by assumption)
  rw [e];exact hc
theorem jgD (w : ByteArray) (hw : w ≠ ⟨#[]⟩) (hl : jbP (jbQ w) = true) (n : Nat) : ja1 w (bs (jb3 n)) = w ++ ⟨#[32]⟩ ++ bs (jb3 n) := by
 have h1 := jgG (jei n)
 have h2 := jg3 n
 unfold ja1;rw [if_neg hw, if_neg h1, if_neg (by rw [hl]; decide), if_neg (by rw [h2]; decide)]
def jdJ : Go.Shelf.Ren := ⟨fun | 156 => 50 | 165 => 87 | 166 => 86 | 169 => 53 | 240 => 117 | 241 => 118 | 276 => 139 | 277 => 140 | n => n, fun | 31 => 24 | 37 => 69 | 70 => 90 | 72 => 92 | 75 => 130 | 76 => 137 | 80 => 99 | 127 => 140 | 164 => 169 | n => n, fun | n => n⟩
theorem jlC : Lays.n156 Tryz.prog jdJ where
 mixed := by kernel_rfl
 f156 := Tryz.func50.trans (congrArg some (by kernel_rfl))
 f165 := Tryz.func87.trans (congrArg some (by kernel_rfl))
 f166 := Tryz.func86.trans (congrArg some (by kernel_rfl))
 f169 := Tryz.func53.trans (congrArg some (by kernel_rfl))
 f240 := Tryz.func117.trans (congrArg some (by kernel_rfl))
 f241 := Tryz.func118.trans (congrArg some (by kernel_rfl))
 f276 := Tryz.func139.trans (congrArg some (by kernel_rfl))
 f277 := Tryz.func140.trans (congrArg some (by kernel_rfl))
 t0 := Tryz.underlying0
 a0 := Tryz.isAgg0
 z0 := Tryz.sizeOf0
 v0 := Tryz.zeroValue0
 t3 := Tryz.underlying3
 a3 := Tryz.isAgg3
 z3 := Tryz.sizeOf3
 v3 := Tryz.zeroValue3
 t4 := Tryz.underlying4
 a4 := Tryz.isAgg4
 z4 := Tryz.sizeOf4
 v4 := Tryz.zeroValue4
 t9 := Tryz.underlying9
 a9 := Tryz.isAgg9
 z9 := Tryz.sizeOf9
 v9 := Tryz.zeroValue9
 t20 := Tryz.underlying20
 a20 := Tryz.isAgg20
 z20 := Tryz.sizeOf20
 v20 := Tryz.zeroValue20
 t31 := Tryz.underlying24
 a31 := Tryz.isAgg24
 z31 := Tryz.sizeOf24
 v31 := Tryz.zeroValue24
 t37 := Tryz.underlying69
 a37 := Tryz.isAgg69
 z37 := Tryz.sizeOf69
 v37 := Tryz.zeroValue69
 t70 := Tryz.underlying90
 a70 := Tryz.isAgg90
 z70 := Tryz.sizeOf90
 v70 := Tryz.zeroValue90
 t72 := Tryz.underlying92
 a72 := Tryz.isAgg92
 z72 := Tryz.sizeOf92
 v72 := Tryz.zeroValue92
 t75 := Tryz.underlying130
 a75 := Tryz.isAgg130
 z75 := Tryz.sizeOf130
 v75 := Tryz.zeroValue130
 t76 := Tryz.underlying137
 a76 := Tryz.isAgg137
 z76 := Tryz.sizeOf137
 v76 := Tryz.zeroValue137
 t127 := Tryz.underlying140
 a127 := Tryz.isAgg140
 z127 := Tryz.sizeOf140
 v127 := Tryz.zeroValue140
 t164 := Tryz.underlying169
 a164 := Tryz.isAgg169
 z164 := Tryz.sizeOf169
 v164 := Tryz.zeroValue169

theorem jjX : Builder.Extra Tryz.prog jdJ where
 sizeBuilder := by kernel_rfl
 liesBuilder := by kernel_rfl
 t5 := by kernel_rfl
 a5 := Tryz.isAgg5
 z5 := Tryz.sizeOf5
 v5 := Tryz.zeroValue5
 infoByte := by kernel_rfl
 cellsByte := by kernel_rfl
 sizeByte := by kernel_rfl
 neB5 := by decide
theorem jkP (l : List (List UInt8)) (c : UInt8) (h1 : 1 <= l.length) (hl : l.length <= 1000) (hs : (Lib.join l [c]).length <= 1000000000) : Spec Tryz.prog 50 [] [.sl 1 l.length (jdM (l.map bs)), jaT ⟨#[c]⟩] fun _ r => r = jaT (bs (Lib.join l [c])) := by
 refine jgM (jeS Tryz.func50 rfl (by kernel_rfl)) fun w C vals hg hsub hv => ?_
 obtain ⟨u, us, rfl, k1, k2⟩ := hv
 obtain rfl := jg1 (l := [.string ⟨#[c]⟩]) k2
 unfold A.rep at k1
 obtain ⟨j1, j2, p, b, off, cap, rfl, j3, j4, j5, j6⟩ := k1
 obtain ⟨us, m1, m2⟩ := A.repAt_vals j6
 have hus : us = (l.map bs).map Value.string := by
  have := A.repC_L m1
  have e : jdM (l.map bs) = ((l.map bs).map Value.string).map A.v := by simp [jdM, jaT, Function.comp_def]
  rw [e] at this;exact jg1 this
 subst hus
 obtain rfl : p = some ⟨b, off, none⟩ := by
  rcases j4 with h | h
  ·omega
  ·exact h
 have hcells : ∀ (j : Nat) x, (l.map bs)[j]? = some x -> w.cell? ⟨b, off + j, none⟩ = some (.string x) := fun j x hx => by
  have := hsub _ _ (m2 j _ (by rw [List.getElem?_map, hx]; rfl))
  change w.cell? _ = _ at this
  exact this
 have hb : b < w.heap.size := by
  have := hcells 0 (bs l[0]) (by rw [List.getElem?_map, List.getElem?_eq_getElem (by omega)]; rfl)
  exact World.block_lt_of_cell? w _ this
 have ej : (l.map bs).map (·.data.toList) = l := by rw [List.map_map]; exact List.map_id'' (fun x => jaY x) _
 have hlen : (l.map bs).length = l.length := by simp
 have := Any.strings_Join jlC jjX b off cap (l.map bs) ⟨#[c]⟩ w hcells hb (by rw [hlen]; omega) (by rw [hlen]; exact j3) (by rw [ej]; show (Lib.join l [c]).length <= _; omega)
 rw [hlen, ej] at this;refine this.mono ?_;rintro e w' ⟨rfl, hw⟩;exact ⟨_, rfl, hw, A.rep_v (by show (bs (Lib.join l [c])).size <= maxLen; rw [jbz]; unfold maxLen; omega)⟩
theorem jAP {E : Env} : (A.v (.string ⟨#[]⟩)).rep E (.string ⟨#[]⟩) := A.rep_v (by show (0 : Nat) <= maxLen; unfold maxLen; omega)
theorem Hp.nilBufRow {w0 : W0} {w : World} {C0 : Rd} {β0 : List Nat} {bx : List (List A)} {rw : List Row} {E : Env} (h : Hp w0 C0 β0 bx rw w E) (e : Nat) : Hp w0 C0 β0 bx (rw ++ [.live e 0 0 [.v (.string ⟨#[]⟩)]]) w ⟨E.C, E.β, E.ρ ++ [.slice none 0 0]⟩ /\ E.le ⟨E.C, E.β, E.ρ ++ [.slice none 0 0]⟩ := by
 have le : E.le ⟨E.C, E.β, E.ρ ++ [.slice none 0 0]⟩ := ⟨Sub.refl _, fun _ _ h => h, fun i b hb => by
  have := (List.getElem?_eq_some_iff.1 hb).1
  rw [List.getElem?_append_left this]; exact hb⟩
 have part : ∀ (g : Nat) (r : Row) (y : Value), (rw ++ [Row.live e 0 0 [.v (.string ⟨#[]⟩)]])[g]? = some r -> (E.ρ ++ [Value.slice none 0 0])[g]? = some y -> (rw[g]? = some r /\ E.ρ[g]? = some y) ∨ (r = .live e 0 0 [.v (.string ⟨#[]⟩)] /\ y = .slice none 0 0 /\ g = rw.length) := fun g r y h1 h2 => by
  by_cases hg : g < rw.length
  ·rw [List.getElem?_append_left hg] at h1;rw [List.getElem?_append_left (by rw [<- h.rl]; exact hg)] at h2;exact .inl ⟨h1, h2⟩
  ·rw [List.getElem?_append_right (by omega)] at h1;rw [List.getElem?_append_right (by rw [<- h.rl]; omega)] at h2
   have hi0 : g - rw.length = 0 := by
    have := (List.getElem?_eq_some_iff.1 h1).1
    simp at this; omega
   rw [hi0] at h1;rw [<- h.rl, hi0] at h2
   simp at h1 h2
   exact .inr ⟨h1.symm, h2.symm, by omega⟩
 refine ⟨⟨h.sub, h.base, h.fresh, h.bp, h.bnd, h.bC, h.bl, fun i b cs h1 h2 => (h.bxs i b cs h1 h2).mono le, by simp [h.rl], fun g r y h1 h2 => ?_, fun g e' k' n cs y b h1 h2 h3 => ?_, fun g e1 k1 n1 cs1 y g' e2 k2 n2 cs2 z b hne h1 h2 h3 h4 h5 => ?_, fun g y h1 => jbV h.rs (.inl ⟨_, _, _, rfl⟩) g y h1, h.keep, h.gk⟩, le⟩
 ·rcases part g r y h1 h2 with ⟨h3, h4⟩ | ⟨rfl, rfl, _⟩
  ·exact (h.rws g r y h3 h4).mono le (fun _ _ _ _ _ _ _ => rfl)
  ·exact ⟨[.string ⟨#[]⟩], ⟨owR.nilBuf _ _, fun b hb => by simp [blk] at hb⟩, by unfold A.repC; exact ⟨_, [], rfl, rfl, jAP, by unfold A.repC; rfl⟩⟩
 ·rcases part g _ y h1 h2 with ⟨h4, h5⟩ | ⟨_, rfl, _⟩
  ·exact h.rC g e' k' n cs y b h4 h5 h3
  ·simp [blk] at h3
 ·rcases part g _ y h1 h2 with ⟨k3, k4⟩ | ⟨_, rfl, _⟩
  ·rcases part g' _ z h3 h4 with ⟨k5, k6⟩ | ⟨_, rfl, _⟩
   ·exact h.rd g e1 k1 n1 cs1 y g' e2 k2 n2 cs2 z b hne k3 k4 k5 k6 h5
   ·simp [blk]
  ·simp [blk] at h5
theorem jwm {np : Nat} {s : S} {t : List A} {bx : List (List A)} (e : Nat) (ht : jpI s.rw.length s.t t) (hb : jx9 s.rw.length s.bx bx) : Le np s ⟨t, bx, s.rw ++ [.live e 0 0 [.v (.string ⟨#[]⟩)]]⟩ := by
 rintro dr w0 C0 β0 a w _ _ ⟨E, hp, hrep, hd⟩
 obtain ⟨h1, le⟩ := hp.nilBufRow e
 have hg : (E.ρ ++ [Value.slice none 0 0])[s.rw.length]? = some (.slice none 0 0) := by rw [hp.rl]; simp
 refine ⟨⟨E.C, E.β, E.ρ ++ [.slice none 0 0]⟩, ?_, jfB hg ht (A.repL.mono _ le hrep), hd.mono le⟩
 exact ⟨h1.sub, h1.base, h1.fresh, h1.bp, h1.bnd, h1.bC, by rw [jjP hb]; exact h1.bl, fun i b cs h2 h3 => by
  obtain ⟨c0, h4, h5⟩ := jjv hb h3
  obtain ⟨T', arr, h6, h7⟩ := h1.bxs i b c0 h2 h4
  exact ⟨T', arr, h6, h7.rel (jpI s.rw.length) h5 (fun l m us e k => jfB hg e k) (fun l m e => joD e) fun l t r e => jlZ e⟩, h1.rl, h1.rws, h1.rC, h1.rd, h1.rs, h1.keep, h1.gk⟩
theorem jyH {c : Cx} {x : Code} {t : List A} {bx : List (List A)} {rw : List Row} {q : Exit -> S -> Prop} (e : Nat) (ts : List Nat) (cs : List (Nat × Nat))
  (h : jdV rw (.live e 0 0 [.v (.string ⟨#[]⟩)]) 0 fun g rw' => jvt g ts t fun t' => js1 g cs bx fun bx' => Ok c x ⟨t', bx', rw'⟩ q) : Ok c x ⟨t, bx, rw⟩ q := by
 rw [jaQ, Nat.zero_add] at h
 obtain ⟨t', h1, h⟩ := jfj h
 obtain ⟨bx', h2, h⟩ := jgY h
 exact jvY (jwm (s := ⟨t, bx, rw⟩) e h1 h2) h
def dJ : ByteArray := ⟨#[100, 44, 100, 100, 49]⟩
def vJ : ByteArray := ⟨#[118, 44, 119, 50]⟩
theorem jws : Spec Tryz.prog 50 [] [.sl 1 2 (txA duL), jaT pComma] fun _ r => r = jaT dJ := jkP [[100], [100, 100, 49]] 44 (by decide) (by decide) (by decide)
theorem jvO : Spec Tryz.prog 50 [] [.sl 1 2 (txA voL), jaT pComma] fun _ r => r = jaT vJ := jkP [[118], [119, 50]] 44 (by decide) (by decide) (by decide)
def pT1 : ByteArray := nmF wDurable duL
def pT2 : ByteArray := nmF wDurable duL ++ nmF wVolatile voL
theorem jxx : ja1 (ja1 (ja1 ⟨#[]⟩ wDurable) dJ) pSemi = pT1 := by decide
theorem jxM : ja1 (ja1 (ja1 pT1 wVolatile) vJ) pSemi = pT2 := by decide
theorem jAr : pT1.size <= 100 /\ pT2.size <= 100 := by decide
theorem jt5 (full : Bool) (l : List (Int × Nt)) : ∀ (a : ByteArray), 0 < a.size -> 0 < (joZ full a l).size := by
 induction l with
 | nil => exact fun a h => h
 | cons h l ih => exact fun a ha => ih _ (jbc (jft (jgG ha)))
theorem jy9 {u : Ut} (h : GU u) : Spec Tryz.prog 31 [] [.agg (utA u)] fun _ r => r = jaT (prF u) := by
 have hpu := h.pu
 have hsz := (jtJ hpu).1
 obtain ⟨h1, h2, h3, h4, h5⟩ := h
 obtain ⟨du, vo, hs⟩ := u
 simp only at h1 h2 h3 h4 h5
 subst h1;subst h2
 have jd := jws
 have jv := jvO
 have e1 := jxx
 have e2 := jxM
 have e3 := jAr
 have e4 : 0 < pT2.size := by decide
 have z0 : (⟨#[]⟩ : ByteArray).size = 0 := rfl
 have z1 : wDurable.size = 7 := rfl
 have z2 : wVolatile.size = 8 := rfl
 have z3 : pSemi.size = 1 := rfl
 have z4 : dJ.size = 5 := rfl
 have z5 : vJ.size = 4 := rfl
 have z6 : 0 < dJ.size := by decide
 have z7 : 0 < vJ.size := by decide
 have epr : prF ⟨duL, voL, hs⟩ = joZ false pT2 hs := rfl
 rw [epr] at hsz ⊢;refine jdi (ja2 jak xs0 0) (fun _ _ h => h) Tryz.func31 rfl (by kernel_rfl) rfl ?_;intro _;refine jbU (ja2 _ _ _) (by kernel_rfl) ?_;conv => whnf
 refine jbU (ja2 _ _ _) (by kernel_rfl) ?_;conv => whnf
 refine jyH 5 [] [(1, 1)] ?_;conv => whnf
 refine ⟨trivial, ?_⟩;conv => whnf
 refine jb7 (ja2 _ _ _) (by kernel_rfl) ?_;conv => whnf
 generalize pT1 = T1 at *;generalize pT2 = T2 at *
 obtain ⟨S, hS0, hS1, hS2⟩ : ∃ S : Nat -> ByteArray, S 0 = ⟨#[]⟩ /\ S 1 = T1 /\ S 2 = T2 := ⟨fun j => [⟨#[]⟩, T1, T2].getD j ⟨#[]⟩, rfl, rfl, rfl⟩
 have zS0 : (S 0).size = 0 := by rw [hS0]; rfl
 have zS1 : (S 1).size <= 100 := by rw [hS1]; exact e3.1
 refine jaj [1, 3, 12, 13] ?_;conv => whnf
 refine jaL (fun j : Nat => [(14, .v (.int .i64 j))]) (fun _ => [[.sl 1 2 (txA duL), .sl 1 2 (txA voL), .sl 5 hs.length (jkr hs)], [.adr PrT, .own 0]]) (fun j => [.live 5 0 (S j).size [.v (.string (S j))], .live 24 1 2 [.sl 1 2 (txA duL), .sl 1 2 (txA voL)]]) (fun j => j <= 2) (fun j => 2 - j) 0 ?_ (by decide) ?_
 ·repeat' constructor
  all_goals (rw [hS0]; rfl)
 rintro j hj;conv => whnf
 by_cases hlt : j < 2
 ·rw [decide_eq_true (show (j : Int) < ((2 : Nat) : Int) by omega)]
  rcases (by omega : j = 0 ∨ j = 1) with rfl | rfl
  ·conv => whnf
   refine ⟨by decide, ?_⟩;conv => whnf
   refine ⟨by decide, ?_⟩;conv => whnf
   refine ja6 1 0 4 [3] rfl rfl rfl rfl rfl rfl rfl (fun _ => (ja4 (S 0) wDurable (by decide) (by omega)).r) ?_;rintro o n' cs' r ⟨s', rfl, rfl, ho, hs', rfl⟩;cases ho;conv => whnf
   have hz2 := ja0 (S 0) wDurable
   rw [<- hs'] at hz2
   have hs2 := hs'
   clear hs';generalize s' = s2 at *
   (refine ja9 [] rfl (fun _ => jd) ?_; rintro r rfl; conv => whnf)
   refine ja6 1 4 6 [5] rfl rfl rfl rfl rfl rfl rfl (fun _ => (jbN s2 dJ pSemi (by decide) (by decide) (by omega)).r) ?_;rintro o n' cs' r ⟨s', rfl, rfl, ho, hs', rfl⟩;cases ho;conv => whnf
   refine ⟨jaI (by omega), ?_⟩;conv => whnf
   refine ⟨0 + 1, jas [6, 1] ?_, by decide, by decide⟩;conv => whnf
   rw [show S (0 + 1) = _ from hS1, <- e1, <- hS0, <- hs2, <- hs']
   repeat' constructor
  ·conv => whnf
   refine ⟨by decide, ?_⟩;conv => whnf
   refine ⟨by decide, ?_⟩;conv => whnf
   refine ja6 1 0 4 [3] rfl rfl rfl rfl rfl rfl rfl (fun _ => (ja4 (S 1) wVolatile (by decide) (by omega)).r) ?_;rintro o n' cs' r ⟨s', rfl, rfl, ho, hs', rfl⟩;cases ho;conv => whnf
   have hz2 := ja0 (S 1) wVolatile
   rw [<- hs'] at hz2
   have hs2 := hs'
   clear hs';generalize s' = s2 at *
   (refine ja9 [] rfl (fun _ => jv) ?_; rintro r rfl; conv => whnf)
   refine ja6 1 4 6 [5] rfl rfl rfl rfl rfl rfl rfl (fun _ => (jbN s2 vJ pSemi (by decide) (by decide) (by omega)).r) ?_;rintro o n' cs' r ⟨s', rfl, rfl, ho, hs', rfl⟩;cases ho;conv => whnf
   refine ⟨jaI (by omega), ?_⟩;conv => whnf
   refine ⟨1 + 1, jas [6, 1] ?_, by decide, by decide⟩;conv => whnf
   rw [show S (1 + 1) = _ from hS2, <- e2, <- hS1, <- hs2, <- hs']
   repeat' constructor
 rw [decide_eq_false (show ¬ (j : Int) < ((2 : Nat) : Int) by omega)]
 obtain rfl : j = 2 := by omega
 rw [hS2];conv => whnf
 obtain ⟨V, hV⟩ : ∃ V : Nat -> ByteArray, ∀ j, V j = joZ false T2 (hs.take j) := ⟨_, fun _ => rfl⟩
 have hV0 : V 0 = T2 := by rw [hV, List.take_zero]; rfl
 have hVl : V hs.length = joZ false T2 hs := by rw [hV, List.take_length]
 have hVn : ∀ j (h : j < hs.length), V (j + 1) = ja1 (V j) (hdN false hs[j]) := fun j h => by rw [hV, hV, List.take_succ_eq_append_getElem h, jsj]
 have hVz : ∀ j, (V j).size <= 2000000 := fun j => by
  rw [hV]
  have s1 := jhW false T2 (hs.take j) (fun z hz => (hpu.hd false z (List.mem_of_mem_take hz)).1)
  have hm : (hs.take j).length * 400001 <= 4 * 400001 := Nat.mul_le_mul_right _ (by rw [List.length_take]; omega)
  omega
 rw [<- hVl, <- hV0];refine jgJ [0] ?_;conv => whnf
 refine jaj [3, 34, 35] ?_;conv => whnf
 refine jaL (fun j : Nat => [(36, .v (.int .i64 j))]) (fun _ => [[.sl 1 2 (txA duL), .sl 1 2 (txA voL), .sl 5 hs.length (jkr hs)], [.adr PrT, .own 0]]) (fun j => [.live 5 0 (V j).size [.v (.string (V j))]]) (fun j => j <= hs.length) (fun j => hs.length - j) 0 ?_ (Nat.zero_le _) ?_
 ·repeat' constructor
 rintro j hj;conv => whnf
 have hz := hVz j
 by_cases hlt : j < hs.length
 ·rw [decide_eq_true (show (j : Int) < (hs.length : Int) by omega)]
  have hr := jlU hs j hlt
  have hg := h3 _ (List.getElem_mem hlt)
  have hVn := hVn j hlt
  generalize hs[j] = g at *
  obtain ⟨n, b⟩ := g
  obtain ⟨g1, g2, g3⟩ := hg
  have g1 : 0 <= n := g1
  have g2 : n < 40 := g2
  have hb := jA8 g3
  have hbk := hb.2.2
  have hbz := hb.1.1
  have hbp := hb.2.1
  have hdn : hdN false (n, b) = jb4 [wOn, hdW n, bkP false b] := rfl
  have hwp : 0 < (hdW n).size := by
   unfold hdW
   have a2 : wMsgS.size = 8 := rfl
   have a3 : wTimS.size = 6 := rfl
   repeat' split
   all_goals first | decide | (rw [ByteArray.size_append]; omega)
  have hpf := jaW (V j) 3 [wOn, hdW n, bkP false b] rfl (by
   intro x hx;simp only [List.mem_cons, List.not_mem_nil, or_false] at hx
   rcases hx with rfl | rfl | rfl
   ·decide
   ·exact hwp
   ·exact hbp)
  rw [hdn, <- hpf] at hVn
  have hVn : V (j + 1) = ja1 (ja1 (ja1 (V j) wOn) (hdW n)) (bkP false b) := hVn
  clear hpf hdn;generalize bkP false b = y at *
  have y1 : wOn.size = 2 := rfl
  have y2 : wStart.size = 5 := rfl
  have y3 : wRequest.size = 7 := rfl
  have y4 : wTimer.size = 5 := rfl
  have y5 : wMessage.size = 7 := rfl
  conv => whnf
  refine ⟨by omega, ?_⟩;conv => whnf
  (generalize hrq : jac _ _ (jkr hs) = rq; obtain rfl : rq = hnA (n, b) := hrq.symm.trans (hr); clear hrq; conv => whnf)
  refine ja6 1 0 2 [1] rfl rfl rfl rfl rfl rfl rfl (fun _ => (ja4 (V j) wOn (by decide) (by omega)).r) ?_;rintro o n' cs' r ⟨s', rfl, rfl, ho, hs', rfl⟩;cases ho;conv => whnf
  have hz2 := ja0 (V j) wOn
  rw [<- hs'] at hz2;rw [<- hs'] at hVn;clear hs';generalize s' = s2 at *
  by_cases n0 : n = 0
  ·subst n0;rw [show hdW 0 = wStart from rfl] at hVn;conv => whnf
   refine ja6 1 2 4 [3] rfl rfl rfl rfl rfl rfl rfl (fun _ => (ja4 s2 wStart (by decide) (by omega)).r) ?_;rintro o n' cs' r ⟨s', rfl, rfl, ho, hs', rfl⟩;cases ho;conv => whnf
   have hz3 := ja0 s2 wStart
   rw [<- hs'] at hz3;rw [<- hs'] at hVn;clear hs';generalize s' = s3 at *;refine ja6 1 4 5 [] rfl rfl rfl rfl rfl rfl rfl (fun _ => hbk s3 (by omega)) ?_;rintro o n' cs' r ⟨s', rfl, rfl, ho, hs', rfl⟩;cases ho;conv => whnf
   refine ⟨jaI (by omega), ?_⟩;conv => whnf
   refine ⟨j + 1, jas [5] ?_, hlt, by omega⟩;conv => whnf
   rw [hVn, <- hs']
   repeat' constructor
  rw [decide_eq_false n0];conv => whnf
  by_cases n1 : n = 1
  ·subst n1;rw [show hdW 1 = wRequest from rfl] at hVn;conv => whnf
   refine ja6 1 2 4 [3] rfl rfl rfl rfl rfl rfl rfl (fun _ => (ja4 s2 wRequest (by decide) (by omega)).r) ?_;rintro o n' cs' r ⟨s', rfl, rfl, ho, hs', rfl⟩;cases ho;conv => whnf
   have hz3 := ja0 s2 wRequest
   rw [<- hs'] at hz3;rw [<- hs'] at hVn;clear hs';generalize s' = s3 at *;refine ja6 1 4 5 [] rfl rfl rfl rfl rfl rfl rfl (fun _ => hbk s3 (by omega)) ?_;rintro o n' cs' r ⟨s', rfl, rfl, ho, hs', rfl⟩;cases ho;conv => whnf
   refine ⟨jaI (by omega), ?_⟩;conv => whnf
   refine ⟨j + 1, jas [5] ?_, hlt, by omega⟩;conv => whnf
   rw [hVn, <- hs']
   repeat' constructor
  rw [decide_eq_false n1];conv => whnf
  by_cases n9 : n < 10
  ·rw [show hdW n = wTimS ++ bs (jb3 (n - 2).toNat) by unfold hdW; rw [if_neg n1, if_neg (by omega), if_pos (by omega)]] at hVn
   have hdc := jdc (n - 2) (by omega)
   have d1 := jb5 (n - 2).toNat (by omega)
   have d2 := jei (n - 2).toNat
   have d3 : wTimS ++ bs (jb3 (n - 2).toNat) = ja1 wTimer (bs (jb3 (n - 2).toNat)) := (jgD wTimer (by decide) (by decide) _).symm
   rw [d3, <- jaJ _ _ _ (by decide)] at hVn;clear d3 hwp;generalize bs (jb3 (n - 2).toNat) = d at *;rw [decide_eq_true n9];conv => whnf
   refine ⟨jaI (by omega), ?_⟩;conv => whnf
   (refine ja9 [] rfl (fun _ => hdc) ?_; rintro r rfl; conv => whnf)
   refine ja6 1 2 4 [3] rfl rfl rfl rfl rfl rfl rfl (fun _ => (jbN s2 wTimer d (by decide) d2 (by omega)).r) ?_;rintro o n' cs' r ⟨s', rfl, rfl, ho, hs', rfl⟩;cases ho;conv => whnf
   have hz3 : (ja1 (ja1 s2 wTimer) d).size <= s2.size + 20 := by
    have q1 := ja0 s2 wTimer
    have q2 := ja0 (ja1 s2 wTimer) d
    omega
   rw [<- hs'] at hz3;rw [<- hs'] at hVn;clear hs';generalize s' = s3 at *;refine ja6 1 4 5 [] rfl rfl rfl rfl rfl rfl rfl (fun _ => hbk s3 (by omega)) ?_;rintro o n' cs' r ⟨s', rfl, rfl, ho, hs', rfl⟩;cases ho;conv => whnf
   refine ⟨jaI (by omega), ?_⟩;conv => whnf
   refine ⟨j + 1, jas [5] ?_, hlt, by omega⟩;conv => whnf
   rw [hVn, <- hs']
   repeat' constructor
  ·rw [show hdW n = wMsgS ++ bs (jb3 (n - 10).toNat) by unfold hdW; rw [if_neg n1, if_pos (by omega)]] at hVn
   have hdc := jdc (n - 10) (by omega)
   have d1 := jb5 (n - 10).toNat (by omega)
   have d2 := jei (n - 10).toNat
   have d3 : wMsgS ++ bs (jb3 (n - 10).toNat) = ja1 wMessage (bs (jb3 (n - 10).toNat)) := (jgD wMessage (by decide) (by decide) _).symm
   rw [d3, <- jaJ _ _ _ (by decide)] at hVn;clear d3 hwp;generalize bs (jb3 (n - 10).toNat) = d at *;rw [decide_eq_false n9];conv => whnf
   refine ⟨jaI (by omega), ?_⟩;conv => whnf
   (refine ja9 [] rfl (fun _ => hdc) ?_; rintro r rfl; conv => whnf)
   refine ja6 1 2 4 [3] rfl rfl rfl rfl rfl rfl rfl (fun _ => (jbN s2 wMessage d (by decide) d2 (by omega)).r) ?_;rintro o n' cs' r ⟨s', rfl, rfl, ho, hs', rfl⟩;cases ho;conv => whnf
   have hz3 : (ja1 (ja1 s2 wMessage) d).size <= s2.size + 22 := by
    have q1 := ja0 s2 wMessage
    have q2 := ja0 (ja1 s2 wMessage) d
    omega
   rw [<- hs'] at hz3;rw [<- hs'] at hVn;clear hs';generalize s' = s3 at *;refine ja6 1 4 5 [] rfl rfl rfl rfl rfl rfl rfl (fun _ => hbk s3 (by omega)) ?_;rintro o n' cs' r ⟨s', rfl, rfl, ho, hs', rfl⟩;cases ho;conv => whnf
   refine ⟨jaI (by omega), ?_⟩;conv => whnf
   refine ⟨j + 1, jas [5] ?_, hlt, by omega⟩;conv => whnf
   rw [hVn, <- hs']
   repeat' constructor
 ·rw [decide_eq_false (show ¬ (j : Int) < (hs.length : Int) by omega)]
  obtain rfl : j = hs.length := by omega
  have hne : 0 < (V hs.length).size := by
   rw [hVl];exact jt5 false hs T2 e4
  conv => whnf
  refine ja6 1 0 1 [] rfl rfl rfl rfl rfl rfl rfl (fun _ => jgm PrT (V hs.length) hne) ?_;rintro o n' cs' r ⟨s5, rfl, rfl, ho, rfl, rfl⟩;cases ho;conv => whnf
  rfl
section
set_option maxRecDepth 100000
end
end Go.Proofs.YtmodkpibkkpcdaaGreatDoor.Vm
