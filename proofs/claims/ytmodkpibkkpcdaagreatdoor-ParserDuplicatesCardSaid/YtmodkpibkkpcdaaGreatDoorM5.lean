/- Texts 5 of the proof: G2, G3, G4, G5, E3, S1, S2, S3, S4, S5, S6, S7, S8, U0, VmX, U1, U2, U3, U4, U5, U6, U7, U8, U9, U10, U11, U12. -/
import Derived.Test.YtmodkpibkkpcdaaGreatDoorM4
import Derived.Shelf.Lay
import Derived.Shelf.Strconv.Itoa3
import Derived.Ground.NamesProg
import Derived.Lib.ItoaLen
import Derived.Lib.AppendIntMem
import Derived.Shelf.Strings.OnBuilder
namespace Go.Proofs.YtmodkpibkkpcdaaGreatDoor.Vm
open Go.RowKit Go.Shelf
set_option linter.unusedSimpArgs false
set_option linter.unusedVariables false
set_option maxRecDepth 100000
def bolL : List ByteArray := [jep, pOr]
inductive EB : Nat -> Nt -> Prop
 | lit (d n : Nat) (h : n < 2) : EB d (.mk 13 n eB [])
 | nt (d : Nat) (f : Nt) (h : EB d f) : EB (d + 1) (.mk 17 0 pNot [f])
 | bin (d : Nat) (s : ByteArray) (f g : Nt) (hs : s ∈ bolL) (h1 : EB d f) (h2 : EB d g) : EB (d + 1) (.mk 18 0 s [f, g])
 | cmp (d : Nat) (s : ByteArray) (f g : Nt) (hs : s ∈ cmpL) (h1 : EI (d - 1) f) (h2 : EI (d - 1) g) : EB d (.mk 18 0 s [f, g])
def bB : Nat -> Nat
 | 0 => 6
 | d + 1 => 2 + 2 * bB d + 2 * bI d
theorem jAv : ∀ d, 2 + 2 * bI (d - 1) <= bB d
 | 0 => by decide
 | d + 1 => by unfold bB; rw [Nat.add_sub_cancel]; omega
def jAp (l : List Int) (d : Nat) : Prop := l.length <= 70 -> ∀ (i : Nat) (z : Int), z.toNat = d -> -3 <= z -> z <= 10 -> i + bB d <= 1000000000 -> ∃ f i', EB d f /\ i <= i' /\ i' <= i + bB d /\ (∀ κ, 1 <= κ -> κ <= 7 -> wN κ f + phA κ i <= 5 + κ + phA κ i') /\ Spec Tryz.prog 93 [bxG l i] [.box 0 0, .v (.int .i64 z)] fun o r => o = [bxG l i'] /\ r = .agg (ntA f)
set_option maxHeartbeats 1000000 in
theorem jym (l : List Int) (d : Nat) (ih : ∀ e, d = e + 1 -> jAp l e) : jAp l d := fun hl i z hz h1 h2 hi => by
 have hge := jAv d
 have hge2 := jyP (d - 1)
 have hp := jdw l i 8 (by omega) (by decide)
 have hlt := jdx l i (m := 8) (by decide)
 have ho := jhG l i 8 hl
 have p0 := fun κ => jhq κ i
 have p1 := fun κ => jhq κ (i + 1)
 have pe2 : ∀ κ, phA κ (i + 2) = phA κ (i + 1 + 1) := fun _ => rfl
 generalize pk l i 8 = n0 at *
 obtain ⟨n, hn⟩ : ∃ n, (if z <= 0 then n0 % 4 else n0) = n := ⟨_, rfl⟩
 have hn12 : n < 8 := by split at hn <;> omega
 have hn6 : z <= 0 -> n < 4 := fun h => by rw [if_pos h] at hn; omega
 have hlo : n ≠ 0 -> i < 70 := fun h => by
  by_cases h70 : 70 <= i
  ·have := ho h70
   split at hn <;> omega
  ·omega
 by_cases hA : n = 0
 ·have hp2 := jdw l (i + 1) 2 (by omega) (by decide)
  have hlt2 := jdx l (i + 1) (m := 2) (by decide)
  generalize pk l (i + 1) 2 = k8 at *;refine ⟨.mk 13 k8 eB [], i + 2, .lit _ _ hlt2, by omega, by omega, fun κ ka kb => by have p0 := p0 κ; have p1 := p1 κ; have pe2 := pe2 κ; rw [jq7]; omega, ?_⟩;subst hA;refine gw ?_;refine ja5 (ja2 jsF (fun _ => [0]) 1) (fun _ _ h => h) Tryz.func93 rfl (by kernel_rfl) rfl (by kernel_rfl) ?_;intro hok;conv => whnf
  refine jaa 0 [] rfl rfl rfl rfl (fun _ => hp) ?_;rintro o r ⟨ho, rfl⟩;cases ho;conv => whnf
  by_cases hz0 : z <= 0
  all_goals
   first
   | (rw [if_pos hz0] at hn; rw [decide_eq_true hz0]; (conv => whnf); refine ⟨by decide, ?_⟩; rw [Int.tmod_eq_emod_of_nonneg (by omega), show (n0 : Int) % 4 = ((n0 % 4 : Nat) : Int) by omega, hn])
   | (rw [if_neg hz0] at hn; rw [decide_eq_false hz0]; (conv => whnf); rw [hn])
   conv => whnf
  all_goals
   refine jaa 0 [] rfl rfl rfl rfl (fun _ => hp2) ?_;rintro o r ⟨ho, rfl⟩;cases ho;conv => whnf
   exact ⟨rfl, _, rfl, jbe (f := .mk 13 k8 eB []) rfl⟩
 by_cases hB : n <= 4
 ·have hp2 := jdw l (i + 1) 6 (by omega) (by decide)
  have hlt2 := jdx l (i + 1) (m := 6) (by decide)
  generalize pk l (i + 1) 6 = k8 at *
  obtain ⟨f, i2, hf, g1, g2, w1, hs⟩ := jhY l (d - 1) hl (i + 1 + 1) (z - 1) (by omega) (by omega) (by omega) (by omega)
  obtain ⟨g, i3, hg, g3, g4, w2, hs2⟩ := jhY l (d - 1) hl i2 (z - 1) (by omega) (by omega) (by omega) (by omega)
  have hlw : ∀ (k : Nat) (h : k < cmpL.length), (cmpL[k]'h).size <= 2 := by decide
  have hlk := hlw k8 hlt2
  refine ⟨.mk 18 0 (cmpL[k8]'hlt2) [f, g], i3, .cmp _ _ _ _ (List.getElem_mem _) hf hg, by omega, by omega, fun κ ka kb => by have p0 := p0 κ; have p1 := p1 κ; have pe2 := pe2 κ; have w1 := w1 κ ka kb; have w2 := w2 κ ka kb; rw [jiq]; omega, ?_⟩;clear hlw hlk
  have hr := jdS jaS cmpL k8 hlt2
  generalize cmpL[k8]'hlt2 = s at *
  rcases (by omega : n = 1 ∨ n = 2 ∨ n = 3 ∨ n = 4) with rfl | rfl | rfl | rfl
  all_goals
   refine gw ?_;refine ja5 (ja2 jsF (fun _ => [0]) 1) (fun _ _ h => h) Tryz.func93 rfl (by kernel_rfl) rfl (by kernel_rfl) ?_;intro hok;conv => whnf
   refine jaa 0 [] rfl rfl rfl rfl (fun _ => hp) ?_;rintro o r ⟨ho, rfl⟩;cases ho;conv => whnf
   by_cases hz0 : z <= 0
   all_goals
    first
    | (rw [if_pos hz0] at hn; rw [decide_eq_true hz0]; (conv => whnf); refine ⟨by decide, ?_⟩; rw [Int.tmod_eq_emod_of_nonneg (by omega), show (n0 : Int) % 4 = ((n0 % 4 : Nat) : Int) by omega, hn])
    | (rw [if_neg hz0] at hn; rw [decide_eq_false hz0]; (conv => whnf); rw [hn])
    conv => whnf
   all_goals
    refine jaa 0 [] rfl rfl rfl rfl (fun _ => hp2) ?_;rintro o r ⟨ho, rfl⟩;cases ho;conv => whnf
    refine ⟨⟨by omega, by omega⟩, ?_⟩;conv => whnf
    generalize hrq : List.drop (Int.toNat (k8 : Int) * _) _ = rq
    obtain rfl : rq = _ :: _ := hrq.symm.trans hr
    clear hrq;conv => whnf
    refine ⟨jaL (by omega), ?_⟩;conv => whnf
    refine jaa 0 [] rfl rfl rfl rfl (fun _ => hs) ?_;rintro o r ⟨ho, rfl⟩;cases ho;conv => whnf
    refine ⟨jaL (by omega), ?_⟩;conv => whnf
    refine jaa 0 [] rfl rfl rfl rfl (fun _ => hs2) ?_;rintro o r ⟨ho, rfl⟩;cases ho;conv => whnf
    exact ⟨rfl, _, rfl, by rw [jd2]; exact jaU _⟩
 have hzp : 0 < z := by
  by_cases h : 0 < z
  ·exact h
  ·have := hn6 (by omega); omega
 obtain ⟨e, rfl⟩ : ∃ e, d = e + 1 := ⟨d - 1, by omega⟩
 have ihe := ih e rfl
 unfold bB at hi
 by_cases hD : n = 5
 ·obtain ⟨f, i2, hf, g1, g2, w1, hs⟩ := ihe hl (i + 1) (z - 1) (by omega) (by omega) (by omega) (by omega)
  subst hD
  have hsz : pNot.size = 1 := rfl
  refine ⟨.mk 17 0 pNot [f], i2, .nt _ _ hf, by omega, by unfold bB; omega, fun κ ka kb => by have p0 := p0 κ; have p1 := p1 κ; have pe2 := pe2 κ; have w1 := w1 κ ka kb; rw [jns]; omega, ?_⟩;refine gw ?_;refine ja5 (ja2 jsF (fun _ => [0]) 1) (fun _ _ h => h) Tryz.func93 rfl (by kernel_rfl) rfl (by kernel_rfl) ?_;intro hok;conv => whnf
  refine jaa 0 [] rfl rfl rfl rfl (fun _ => hp) ?_;rintro o r ⟨ho, rfl⟩;cases ho;conv => whnf
  by_cases hz0 : z <= 0
  all_goals
   first
   | (rw [if_pos hz0] at hn; rw [decide_eq_true hz0]; (conv => whnf); refine ⟨by decide, ?_⟩; rw [Int.tmod_eq_emod_of_nonneg (by omega), show (n0 : Int) % 4 = ((n0 % 4 : Nat) : Int) by omega, hn])
   | (rw [if_neg hz0] at hn; rw [decide_eq_false hz0]; (conv => whnf); rw [hn])
   conv => whnf
  ·exact absurd hz0 (by omega)
  refine ⟨jaL (by omega), ?_⟩;conv => whnf
  refine jaa 0 [] rfl rfl rfl rfl (fun _ => hs) ?_;rintro o r ⟨ho, rfl⟩;cases ho;conv => whnf
  exact ⟨rfl, _, rfl, by rw [jcd]; exact jaU _⟩
 have hp2 := jdw l (i + 1) 2 (by omega) (by decide)
 have hlt2 := jdx l (i + 1) (m := 2) (by decide)
 generalize pk l (i + 1) 2 = k8 at *
 obtain ⟨f, i2, hf, g1, g2, w1, hs⟩ := ihe hl (i + 1 + 1) (z - 1) (by omega) (by omega) (by omega) (by omega)
 obtain ⟨g, i3, hg, g3, g4, w2, hs2⟩ := ihe hl i2 (z - 1) (by omega) (by omega) (by omega) (by omega)
 have hlw : ∀ (k : Nat) (h : k < bolL.length), (bolL[k]'h).size = 2 := by decide
 have hlk := hlw k8 hlt2
 refine ⟨.mk 18 0 (bolL[k8]'hlt2) [f, g], i3, .bin _ _ _ _ (List.getElem_mem _) hf hg, by omega, by unfold bB; omega, fun κ ka kb => by have p0 := p0 κ; have p1 := p1 κ; have pe2 := pe2 κ; have w1 := w1 κ ka kb; have w2 := w2 κ ka kb; rw [jiq]; omega, ?_⟩;clear hlw hlk
 have hr := jdS jaS bolL k8 hlt2
 generalize bolL[k8]'hlt2 = s at *
 rcases (by omega : n = 6 ∨ n = 7) with rfl | rfl
 all_goals
  refine gw ?_;refine ja5 (ja2 jsF (fun _ => [0]) 1) (fun _ _ h => h) Tryz.func93 rfl (by kernel_rfl) rfl (by kernel_rfl) ?_;intro hok;conv => whnf
  refine jaa 0 [] rfl rfl rfl rfl (fun _ => hp) ?_;rintro o r ⟨ho, rfl⟩;cases ho;conv => whnf
  by_cases hz0 : z <= 0
  all_goals
   first
   | (rw [if_pos hz0] at hn; rw [decide_eq_true hz0]; (conv => whnf); refine ⟨by decide, ?_⟩; rw [Int.tmod_eq_emod_of_nonneg (by omega), show (n0 : Int) % 4 = ((n0 % 4 : Nat) : Int) by omega, hn])
   | (rw [if_neg hz0] at hn; rw [decide_eq_false hz0]; (conv => whnf); rw [hn])
   conv => whnf
  ·exact absurd hz0 (by omega)
  refine jaa 0 [] rfl rfl rfl rfl (fun _ => hp2) ?_;rintro o r ⟨ho, rfl⟩;cases ho;conv => whnf
  refine ⟨⟨by omega, by omega⟩, ?_⟩;conv => whnf
  generalize hrq : List.drop (Int.toNat (k8 : Int) * _) _ = rq
  obtain rfl : rq = _ :: _ := hrq.symm.trans hr
  clear hrq;conv => whnf
  refine ⟨jaL (by omega), ?_⟩;conv => whnf
  refine jaa 0 [] rfl rfl rfl rfl (fun _ => hs) ?_;rintro o r ⟨ho, rfl⟩;cases ho;conv => whnf
  refine ⟨jaL (by omega), ?_⟩;conv => whnf
  refine jaa 0 [] rfl rfl rfl rfl (fun _ => hs2) ?_;rintro o r ⟨ho, rfl⟩;cases ho;conv => whnf
  exact ⟨rfl, _, rfl, by rw [jd2]; exact jaU _⟩
theorem jpW (l : List Int) : ∀ d, jAp l d
 | 0 => jym l 0 fun e h => by omega
 | d + 1 => jym l (d + 1) fun e h => by
  obtain rfl : d = e := by omega
  exact jpW l d
inductive ES : Nat -> Nt -> Prop
 | asg (d e : Nat) (s : ByteArray) (f : Nt) (hs : s ∈ varL) (h : EI e f) (he : e <= 2) : ES d (.mk 1 0 s [f])
 | snd (d n : Nat) (f g h : Nt) (hn : n < 4) (h1 : EI 0 f) (h2 : EI 1 g) (h3 : EI 1 h) : ES d (.mk 4 n eB [f, g, h])
 | tim (d n : Nat) (hn : n < 3) : ES d (.mk 5 n eB [])
 | can (d n : Nat) (hn : n < 3) : ES d (.mk 6 n eB [])
 | syn (d : Nat) : ES d (.mk 7 0 eB [])
 | rep (d : Nat) (f g : Nt) (h1 : EI 0 f) (h2 : EI 1 g) : ES d (.mk 8 0 eB [f, g])
 | fai (d : Nat) (f : Nt) (h1 : EI 1 f) : ES d (.mk 9 0 eB [f])
 | stp (d : Nat) : ES d (.mk 10 0 eB [])
 | whi (d : Nat) (c : Nt) (l : List Nt) (h1 : EB 1 c) (h2 : l.length <= 2) (h3 : ∀ s ∈ l, ES d s) : ES (d + 1) (.mk 3 0 eB [c, jbc l])
 | iff (d : Nat) (c : Nt) (l m : List Nt) (h1 : EB 2 c) (h2 : l.length <= 2) (h3 : ∀ s ∈ l, ES d s) (h4 : m.length <= 2) (h5 : ∀ s ∈ m, ES d s) : ES (d + 1) (.mk 2 0 eB [c, jbc l, jbc m])
theorem jzn (c : Nat) {n : Nat} (h : n <= 2) : (n = 0 /\ c * n = 0) ∨ (n = 1 /\ c * n = c) ∨ (n = 2 /\ c * n = 2 * c) := by
 rcases (by omega : n = 0 ∨ n = 1 ∨ n = 2) with rfl | rfl | rfl <;> omega
def bS : Nat -> Nat
 | 0 => 60
 | d + 1 => 62 + 4 * bS d
theorem jAM : ∀ d, 60 <= bS d
 | 0 => Nat.le_refl _
 | d + 1 => by unfold bS; omega
def jyl (l : List Int) (d : Nat) : Prop := l.length <= 70 -> ∀ (i : Nat) (z : Int), z.toNat = d -> 0 <= z -> z <= 5 -> i + bS d <= 1000000000 -> ∃ f i', ES d f /\ i <= i' /\ i' <= i + bS d /\ (∀ κ, 1 <= κ -> κ <= 7 -> wS κ f + phi κ i <= 4 + 4 * κ + phi κ i') /\ Spec Tryz.prog 57 [bxG l i] [.box 0 0, .v (.int .i64 z)] fun o r => o = [bxG l i'] /\ r = .agg (ntA f)
def jAw (l : List Int) (d : Nat) : Prop := l.length <= 70 -> ∀ (i m : Nat) (z : Int), z.toNat = d -> 0 <= z -> z <= 5 -> m <= 3 -> i + (1 + m * bS d) <= 1000000000 -> ∃ k i', k.length <= m /\ (∀ s ∈ k, ES d s) /\ i <= i' /\ i' <= i + (1 + m * bS d) /\ ((∀ κ, 1 <= κ -> κ <= 7 -> wSs κ k + phi κ (i + 1) <= (4 + 4 * κ) * k.length + phi κ i') /\ (70 <= i -> k.length = 0)) /\ Spec Tryz.prog 37 [bxG l i] [.box 0 0, .v (.int .i64 z), .v (.int .i64 m)] fun o r => o = [bxG l i'] /\ r = .agg (ntA (jbc k))
set_option maxHeartbeats 2000000 in
theorem jA2 (l : List Int) (d : Nat) (ih : ∀ e, d = e + 1 -> jAw l e) : jyl l d := fun hl i z hz h1 h2 hi => by
 have hge := jAM d
 have b0 : bI 0 = 2 := rfl
 have b1 : bI 1 = 6 := rfl
 have b2 : bI 2 = 14 := rfl
 have c1 : bB 1 = 18 := rfl
 have c2 : bB 2 = 50 := rfl
 have hp := jdw l i 14 (by omega) (by decide)
 have hlt := jdx l i (m := 14) (by decide)
 have ho := jhG l i 14 hl
 have p0 := fun κ => jdp κ i
 have p1 := fun κ => jdp κ (i + 1)
 have pe2 : ∀ κ, phi κ (i + 2) = phi κ (i + 1 + 1) := fun _ => rfl
 have p2 := fun κ => jdp κ (i + 1 + 1)
 generalize pk l i 14 = n0 at *
 obtain ⟨n, hn⟩ : ∃ n, (if z <= 0 then n0 % 11 else n0) = n := ⟨_, rfl⟩
 have hn12 : n < 14 := by split at hn <;> omega
 have hn6 : z <= 0 -> n < 11 := fun h => by rw [if_pos h] at hn; omega
 have hlo : n ≠ 0 -> i < 70 := fun h => by
  by_cases h70 : 70 <= i
  ·have := ho h70
   split at hn <;> omega
  ·omega
 by_cases hA : n <= 2
 ·obtain ⟨s, hs1, ⟨hz3, hz1⟩, hp2⟩ := jAz l (i + 1) (by omega)
  have hz1 := hz1 hl
  obtain ⟨f, i2, hf, g1, g2, w1, hs⟩ := jhY l 2 hl (i + 1 + 1) 2 (by omega) (by omega) (by omega) (by omega)
  have w1 := fun κ ka kb => jeR (by omega) (w1 κ ka kb)
  refine ⟨.mk 1 0 s [f], i2, .asg _ _ _ _ hs1 hf (Nat.le_refl _), by omega, by omega, fun κ ka kb => by have p0 := p0 κ; have p1 := p1 κ; have pe2 := pe2 κ; have p2 := p2 κ; have w1 := w1 κ ka kb; rw [jpR]; omega, ?_⟩
  rcases (by omega : n = 0 ∨ n = 1 ∨ n = 2) with rfl | rfl | rfl
  all_goals
   refine gw ?_;refine ja5 (ja2 jgz (fun _ => [0]) 1) (fun _ _ h => h) Tryz.func57 rfl (by kernel_rfl) rfl (by kernel_rfl) ?_;intro hok;conv => whnf
   refine jaa 0 [] rfl rfl rfl rfl (fun _ => hp) ?_;rintro o r ⟨ho, rfl⟩;cases ho;conv => whnf
   by_cases hz0 : z <= 0
   all_goals
    first
    | (rw [if_pos hz0] at hn; rw [decide_eq_true hz0]; (conv => whnf); refine ⟨by decide, ?_⟩; rw [Int.tmod_eq_emod_of_nonneg (by omega), show (n0 : Int) % 11 = ((n0 % 11 : Nat) : Int) by omega, hn])
    | (rw [if_neg hz0] at hn; rw [decide_eq_false hz0]; (conv => whnf); rw [hn])
    conv => whnf
   all_goals
    refine jaa 0 [] rfl rfl rfl rfl (fun _ => hp2) ?_;rintro o r ⟨ho, rfl⟩;cases ho;conv => whnf
    refine jaa 0 [] rfl rfl rfl rfl (fun _ => hs) ?_;rintro o r ⟨ho, rfl⟩;cases ho;conv => whnf
    exact ⟨rfl, _, rfl, by rw [jcd]; exact jaU _⟩
 by_cases hB : n <= 4
 ·obtain ⟨f, i2, hf, g1, g2, w1, hs1⟩ := jhY l 0 hl (i + 1) 0 (by omega) (by omega) (by omega) (by omega)
  have hp2 := jdw l i2 4 (by omega) (by decide)
  have hlt2 := jdx l i2 (m := 4) (by decide)
  generalize pk l i2 4 = k8 at *
  have p3 := fun κ => jhq κ i2
  have q0 := fun κ => jhq κ i
  have qi := fun κ => jpn κ i
  obtain ⟨g, i3, hg, g3, g4, w2, hs2⟩ := jhY l 1 hl (i2 + 1) 1 (by omega) (by omega) (by omega) (by omega)
  obtain ⟨h, i4, hh, g5, g6, w3, hs3⟩ := jhY l 1 hl i3 1 (by omega) (by omega) (by omega) (by omega)
  refine ⟨.mk 4 k8 eB [f, g, h], i4, .snd _ _ _ _ _ hlt2 hf hg hh, by omega, by omega, fun κ ka kb => by have qj := jpn κ i4; have p3 := p3 κ; have q0 := q0 κ; have qi := qi κ; have w1 := w1 κ ka kb; have w2 := w2 κ ka kb; have w3 := w3 κ ka kb; rw [jup]; omega, ?_⟩
  rcases (by omega : n = 3 ∨ n = 4) with rfl | rfl
  all_goals
   refine gw ?_;refine ja5 (ja2 jgz (fun _ => [0]) 1) (fun _ _ h => h) Tryz.func57 rfl (by kernel_rfl) rfl (by kernel_rfl) ?_;intro hok;conv => whnf
   refine jaa 0 [] rfl rfl rfl rfl (fun _ => hp) ?_;rintro o r ⟨ho, rfl⟩;cases ho;conv => whnf
   by_cases hz0 : z <= 0
   all_goals
    first
    | (rw [if_pos hz0] at hn; rw [decide_eq_true hz0]; (conv => whnf); refine ⟨by decide, ?_⟩; rw [Int.tmod_eq_emod_of_nonneg (by omega), show (n0 : Int) % 11 = ((n0 % 11 : Nat) : Int) by omega, hn])
    | (rw [if_neg hz0] at hn; rw [decide_eq_false hz0]; (conv => whnf); rw [hn])
    conv => whnf
   all_goals
    refine jaa 0 [] rfl rfl rfl rfl (fun _ => hs1) ?_;rintro o r ⟨ho, rfl⟩;cases ho;conv => whnf
    refine jaa 0 [] rfl rfl rfl rfl (fun _ => hp2) ?_;rintro o r ⟨ho, rfl⟩;cases ho;conv => whnf
    refine jaa 0 [] rfl rfl rfl rfl (fun _ => hs2) ?_;rintro o r ⟨ho, rfl⟩;cases ho;conv => whnf
    refine jaa 0 [] rfl rfl rfl rfl (fun _ => hs3) ?_;rintro o r ⟨ho, rfl⟩;cases ho;conv => whnf
    exact ⟨rfl, _, rfl, by rw [jdQ]; exact jaU _⟩
 by_cases hC : n <= 6
 ·have hp2 := jdw l (i + 1) 3 (by omega) (by decide)
  have hlt2 := jdx l (i + 1) (m := 3) (by decide)
  generalize pk l (i + 1) 3 = k8 at *
  rcases (by omega : n = 5 ∨ n = 6) with rfl | rfl
  ·refine ⟨.mk 5 k8 eB [], i + 2, .tim _ _ hlt2, by omega, by omega, fun κ ka kb => by have p0 := p0 κ; have p1 := p1 κ; have pe2 := pe2 κ; have p2 := p2 κ; rw [juh]; omega, ?_⟩;refine gw ?_;refine ja5 (ja2 jgz (fun _ => [0]) 1) (fun _ _ h => h) Tryz.func57 rfl (by kernel_rfl) rfl (by kernel_rfl) ?_;intro hok;conv => whnf
   refine jaa 0 [] rfl rfl rfl rfl (fun _ => hp) ?_;rintro o r ⟨ho, rfl⟩;cases ho;conv => whnf
   by_cases hz0 : z <= 0
   all_goals
    first
    | (rw [if_pos hz0] at hn; rw [decide_eq_true hz0]; (conv => whnf); refine ⟨by decide, ?_⟩; rw [Int.tmod_eq_emod_of_nonneg (by omega), show (n0 : Int) % 11 = ((n0 % 11 : Nat) : Int) by omega, hn])
    | (rw [if_neg hz0] at hn; rw [decide_eq_false hz0]; (conv => whnf); rw [hn])
    conv => whnf
   all_goals
    refine jaa 0 [] rfl rfl rfl rfl (fun _ => hp2) ?_;rintro o r ⟨ho, rfl⟩;cases ho;conv => whnf
    exact ⟨rfl, _, rfl, jbe (f := .mk 5 k8 eB []) rfl⟩
  ·refine ⟨.mk 6 k8 eB [], i + 2, .can _ _ hlt2, by omega, by omega, fun κ ka kb => by have p0 := p0 κ; have p1 := p1 κ; have pe2 := pe2 κ; have p2 := p2 κ; rw [juI]; omega, ?_⟩;refine gw ?_;refine ja5 (ja2 jgz (fun _ => [0]) 1) (fun _ _ h => h) Tryz.func57 rfl (by kernel_rfl) rfl (by kernel_rfl) ?_;intro hok;conv => whnf
   refine jaa 0 [] rfl rfl rfl rfl (fun _ => hp) ?_;rintro o r ⟨ho, rfl⟩;cases ho;conv => whnf
   by_cases hz0 : z <= 0
   all_goals
    first
    | (rw [if_pos hz0] at hn; rw [decide_eq_true hz0]; (conv => whnf); refine ⟨by decide, ?_⟩; rw [Int.tmod_eq_emod_of_nonneg (by omega), show (n0 : Int) % 11 = ((n0 % 11 : Nat) : Int) by omega, hn])
    | (rw [if_neg hz0] at hn; rw [decide_eq_false hz0]; (conv => whnf); rw [hn])
    conv => whnf
   all_goals
    refine jaa 0 [] rfl rfl rfl rfl (fun _ => hp2) ?_;rintro o r ⟨ho, rfl⟩;cases ho;conv => whnf
    exact ⟨rfl, _, rfl, jbe (f := .mk 6 k8 eB []) rfl⟩
 by_cases hD : n = 7
 ·subst hD;refine ⟨.mk 7 0 eB [], i + 1, .syn _, by omega, by omega, fun κ ka kb => by have p0 := p0 κ; have p1 := p1 κ; have pe2 := pe2 κ; have p2 := p2 κ; rw [juN]; omega, ?_⟩;refine gw ?_;refine ja5 (ja2 jgz (fun _ => [0]) 1) (fun _ _ h => h) Tryz.func57 rfl (by kernel_rfl) rfl (by kernel_rfl) ?_;intro hok;conv => whnf
  refine jaa 0 [] rfl rfl rfl rfl (fun _ => hp) ?_;rintro o r ⟨ho, rfl⟩;cases ho;conv => whnf
  by_cases hz0 : z <= 0
  all_goals
   first
   | (rw [if_pos hz0] at hn; rw [decide_eq_true hz0]; (conv => whnf); refine ⟨by decide, ?_⟩; rw [Int.tmod_eq_emod_of_nonneg (by omega), show (n0 : Int) % 11 = ((n0 % 11 : Nat) : Int) by omega, hn])
   | (rw [if_neg hz0] at hn; rw [decide_eq_false hz0]; (conv => whnf); rw [hn])
   conv => whnf
  all_goals
   exact ⟨rfl, _, rfl, jbe (f := .mk 7 0 eB []) rfl⟩
 by_cases hE : n = 8
 ·subst hE
  obtain ⟨f, i2, hf, g1, g2, w1, hs1⟩ := jhY l 0 hl (i + 1) 0 (by omega) (by omega) (by omega) (by omega)
  have w1 := fun κ ka kb => jeR (by omega) (w1 κ ka kb)
  obtain ⟨g, i3, hg, g3, g4, w2, hs2⟩ := jhY l 1 hl i2 1 (by omega) (by omega) (by omega) (by omega)
  have w2 := fun κ ka kb => jeR (by omega) (w2 κ ka kb)
  refine ⟨.mk 8 0 eB [f, g], i3, .rep _ _ _ hf hg, by omega, by omega, fun κ ka kb => by have p0 := p0 κ; have p1 := p1 κ; have pe2 := pe2 κ; have p2 := p2 κ; have w1 := w1 κ ka kb; have w2 := w2 κ ka kb; rw [juF]; omega, ?_⟩;refine gw ?_;refine ja5 (ja2 jgz (fun _ => [0]) 1) (fun _ _ h => h) Tryz.func57 rfl (by kernel_rfl) rfl (by kernel_rfl) ?_;intro hok;conv => whnf
  refine jaa 0 [] rfl rfl rfl rfl (fun _ => hp) ?_;rintro o r ⟨ho, rfl⟩;cases ho;conv => whnf
  by_cases hz0 : z <= 0
  all_goals
   first
   | (rw [if_pos hz0] at hn; rw [decide_eq_true hz0]; (conv => whnf); refine ⟨by decide, ?_⟩; rw [Int.tmod_eq_emod_of_nonneg (by omega), show (n0 : Int) % 11 = ((n0 % 11 : Nat) : Int) by omega, hn])
   | (rw [if_neg hz0] at hn; rw [decide_eq_false hz0]; (conv => whnf); rw [hn])
   conv => whnf
  all_goals
   refine jaa 0 [] rfl rfl rfl rfl (fun _ => hs1) ?_;rintro o r ⟨ho, rfl⟩;cases ho;conv => whnf
   refine jaa 0 [] rfl rfl rfl rfl (fun _ => hs2) ?_;rintro o r ⟨ho, rfl⟩;cases ho;conv => whnf
   exact ⟨rfl, _, rfl, by rw [jd2]; exact jaU _⟩
 by_cases hF : n = 9
 ·subst hF
  obtain ⟨f, i2, hf, g1, g2, w1, hs1⟩ := jhY l 1 hl (i + 1) 1 (by omega) (by omega) (by omega) (by omega)
  have w1 := fun κ ka kb => jeR (by omega) (w1 κ ka kb)
  refine ⟨.mk 9 0 eB [f], i2, .fai _ _ hf, by omega, by omega, fun κ ka kb => by have p0 := p0 κ; have p1 := p1 κ; have pe2 := pe2 κ; have p2 := p2 κ; have w1 := w1 κ ka kb; rw [juG]; omega, ?_⟩;refine gw ?_;refine ja5 (ja2 jgz (fun _ => [0]) 1) (fun _ _ h => h) Tryz.func57 rfl (by kernel_rfl) rfl (by kernel_rfl) ?_;intro hok;conv => whnf
  refine jaa 0 [] rfl rfl rfl rfl (fun _ => hp) ?_;rintro o r ⟨ho, rfl⟩;cases ho;conv => whnf
  by_cases hz0 : z <= 0
  all_goals
   first
   | (rw [if_pos hz0] at hn; rw [decide_eq_true hz0]; (conv => whnf); refine ⟨by decide, ?_⟩; rw [Int.tmod_eq_emod_of_nonneg (by omega), show (n0 : Int) % 11 = ((n0 % 11 : Nat) : Int) by omega, hn])
   | (rw [if_neg hz0] at hn; rw [decide_eq_false hz0]; (conv => whnf); rw [hn])
   conv => whnf
  all_goals
   refine jaa 0 [] rfl rfl rfl rfl (fun _ => hs1) ?_;rintro o r ⟨ho, rfl⟩;cases ho;conv => whnf
   exact ⟨rfl, _, rfl, by rw [jcd]; exact jaU _⟩
 by_cases hG : n = 10
 ·subst hG
  have hp2 := jdw l (i + 1) 3 (by omega) (by decide)
  have hlt2 := jdx l (i + 1) (m := 3) (by decide)
  generalize pk l (i + 1) 3 = k8 at *
  by_cases hk : 0 < k8
  ·obtain ⟨s, hs1, ⟨hz3, _⟩, hp3⟩ := jAz l (i + 1 + 1) (by omega)
   obtain ⟨f, i2, hf, g1, g2, w1, hs⟩ := jhY l 1 hl (i + 1 + 1 + 1) 1 (by omega) (by omega) (by omega) (by omega)
   have w1 := fun κ ka kb => jeR (by omega) (w1 κ ka kb)
   refine ⟨.mk 1 0 s [f], i2, .asg _ _ _ _ hs1 hf (by decide), by omega, by omega, fun κ ka kb => by have p0 := p0 κ; have p1 := p1 κ; have pe2 := pe2 κ; have p2 := p2 κ; have w1 := w1 κ ka kb; rw [jpR]; omega, ?_⟩;refine gw ?_;refine ja5 (ja2 jgz (fun _ => [0]) 1) (fun _ _ h => h) Tryz.func57 rfl (by kernel_rfl) rfl (by kernel_rfl) ?_;intro hok;conv => whnf
   refine jaa 0 [] rfl rfl rfl rfl (fun _ => hp) ?_;rintro o r ⟨ho, rfl⟩;cases ho;conv => whnf
   by_cases hz0 : z <= 0
   all_goals
    first
    | (rw [if_pos hz0] at hn; rw [decide_eq_true hz0]; (conv => whnf); refine ⟨by decide, ?_⟩; rw [Int.tmod_eq_emod_of_nonneg (by omega), show (n0 : Int) % 11 = ((n0 % 11 : Nat) : Int) by omega, hn])
    | (rw [if_neg hz0] at hn; rw [decide_eq_false hz0]; (conv => whnf); rw [hn])
    conv => whnf
   all_goals
    refine jaa 0 [] rfl rfl rfl rfl (fun _ => hp2) ?_;rintro o r ⟨ho, rfl⟩;cases ho;conv => whnf
    rw [decide_eq_true (show 0 < (k8 : Int) by omega)];conv => whnf
    refine jaa 0 [] rfl rfl rfl rfl (fun _ => hp3) ?_;rintro o r ⟨ho, rfl⟩;cases ho;conv => whnf
    refine jaa 0 [] rfl rfl rfl rfl (fun _ => hs) ?_;rintro o r ⟨ho, rfl⟩;cases ho;conv => whnf
    exact ⟨rfl, _, rfl, by rw [jcd]; exact jaU _⟩
  ·refine ⟨.mk 10 0 eB [], i + 2, .stp _, by omega, by omega, fun κ ka kb => by have p0 := p0 κ; have p1 := p1 κ; have pe2 := pe2 κ; have p2 := p2 κ; rw [juc]; omega, ?_⟩;refine gw ?_;refine ja5 (ja2 jgz (fun _ => [0]) 1) (fun _ _ h => h) Tryz.func57 rfl (by kernel_rfl) rfl (by kernel_rfl) ?_;intro hok;conv => whnf
   refine jaa 0 [] rfl rfl rfl rfl (fun _ => hp) ?_;rintro o r ⟨ho, rfl⟩;cases ho;conv => whnf
   by_cases hz0 : z <= 0
   all_goals
    first
    | (rw [if_pos hz0] at hn; rw [decide_eq_true hz0]; (conv => whnf); refine ⟨by decide, ?_⟩; rw [Int.tmod_eq_emod_of_nonneg (by omega), show (n0 : Int) % 11 = ((n0 % 11 : Nat) : Int) by omega, hn])
    | (rw [if_neg hz0] at hn; rw [decide_eq_false hz0]; (conv => whnf); rw [hn])
    conv => whnf
   all_goals
    refine jaa 0 [] rfl rfl rfl rfl (fun _ => hp2) ?_;rintro o r ⟨ho, rfl⟩;cases ho;conv => whnf
    rw [decide_eq_false (show ¬ 0 < (k8 : Int) by omega)];conv => whnf
    exact ⟨rfl, _, rfl, jbe (f := .mk 10 0 eB []) rfl⟩
 have hzp : 0 < z := by
  by_cases h : 0 < z
  ·exact h
  ·have := hn6 (by omega); omega
 obtain ⟨e, rfl⟩ : ∃ e, d = e + 1 := ⟨d - 1, by omega⟩
 have ihe := ih e rfl
 unfold bS at hi
 by_cases hH : n = 11
 ·subst hH
  obtain ⟨f, i2, hf, g1, g2, w1, hs1⟩ := jpW l 1 hl (i + 1) 1 (by omega) (by omega) (by omega) (by omega)
  have w1 := fun κ ka kb => jeR (by omega) (w1 κ ka kb)
  have p3 := fun κ => jdp κ i2
  obtain ⟨k, i3, q1, q2, g3, g4, ⟨w2, w3⟩, hs2⟩ := ihe hl i2 2 (z - 1) (by omega) (by omega) (by omega) (by omega) (by omega)
  refine ⟨.mk 3 0 eB [f, jbc k], i3, .whi _ _ _ hf q1 q2, by omega, by unfold bS; omega, fun κ ka kb => by have p0 := p0 κ; have p1 := p1 κ; have pe2 := pe2 κ; have p2 := p2 κ; have w1 := w1 κ ka kb; have w2 := w2 κ ka kb; have p3 := p3 κ; have hm2 := jzn (4 + 4 * κ) q1; rw [juy, jlW]; omega, ?_⟩;refine gw ?_;refine ja5 (ja2 jgz (fun _ => [0]) 1) (fun _ _ h => h) Tryz.func57 rfl (by kernel_rfl) rfl (by kernel_rfl) ?_;intro hok;conv => whnf
  refine jaa 0 [] rfl rfl rfl rfl (fun _ => hp) ?_;rintro o r ⟨ho, rfl⟩;cases ho;conv => whnf
  by_cases hz0 : z <= 0
  all_goals
   first
   | (rw [if_pos hz0] at hn; rw [decide_eq_true hz0]; (conv => whnf); refine ⟨by decide, ?_⟩; rw [Int.tmod_eq_emod_of_nonneg (by omega), show (n0 : Int) % 11 = ((n0 % 11 : Nat) : Int) by omega, hn])
   | (rw [if_neg hz0] at hn; rw [decide_eq_false hz0]; (conv => whnf); rw [hn])
   conv => whnf
  ·exact absurd hz0 (by omega)
  refine jaa 0 [] rfl rfl rfl rfl (fun _ => hs1) ?_;rintro o r ⟨ho, rfl⟩;cases ho;conv => whnf
  refine ⟨jaL (by omega), ?_⟩;conv => whnf
  refine jaa 0 [] rfl rfl rfl rfl (fun _ => hs2) ?_;rintro o r ⟨ho, rfl⟩;cases ho;conv => whnf
  exact ⟨rfl, _, rfl, by rw [jd2]; exact jaU _⟩
 obtain ⟨f, i2, hf, g1, g2, w1, hs1⟩ := jpW l 2 hl (i + 1) 2 (by omega) (by omega) (by omega) (by omega)
 have w1 := fun κ ka kb => jeR (by omega) (w1 κ ka kb)
 have p3 := fun κ => jdp κ i2
 obtain ⟨k, i3, q1, q2, g3, g4, ⟨w2, w3⟩, hs2⟩ := ihe hl i2 2 (z - 1) (by omega) (by omega) (by omega) (by omega) (by omega)
 have hp2 := jdw l i3 2 (by omega) (by decide)
 have hlt2 := jdx l i3 (m := 2) (by decide)
 generalize pk l i3 2 = k8 at *
 by_cases hk : k8 = 1
 ·have p4 := fun κ => jdp κ i3
  have p5 := fun κ => jdp κ (i3 + 1)
  obtain ⟨m, i4, q3, q4, g5, g6, ⟨w4, w5⟩, hs3⟩ := ihe hl (i3 + 1) 2 (z - 1) (by omega) (by omega) (by omega) (by omega) (by omega)
  refine ⟨.mk 2 0 eB [f, jbc k, jbc m], i4, .iff _ _ _ _ hf q1 q2 q3 q4, by omega, by unfold bS; omega, fun κ ka kb => by have p0 := p0 κ; have p1 := p1 κ; have pe2 := pe2 κ; have p2 := p2 κ; have p3 := p3 κ; have p4 := p4 κ; have p5 := p5 κ; have w1 := w1 κ ka kb; have w2 := w2 κ ka kb; have w4 := w4 κ ka kb; have hif := jv7 κ f k m; have hm2 := jzn (4 + 4 * κ) q1; have hm3 := jzn (4 + 4 * κ) q3; omega, ?_⟩
  rcases (by omega : n = 12 ∨ n = 13) with rfl | rfl
  all_goals
   refine gw ?_;refine ja5 (ja2 jgz (fun _ => [0]) 1) (fun _ _ h => h) Tryz.func57 rfl (by kernel_rfl) rfl (by kernel_rfl) ?_;intro hok;conv => whnf
   refine jaa 0 [] rfl rfl rfl rfl (fun _ => hp) ?_;rintro o r ⟨ho, rfl⟩;cases ho;conv => whnf
   by_cases hz0 : z <= 0
   all_goals
    first
    | (rw [if_pos hz0] at hn; rw [decide_eq_true hz0]; (conv => whnf); refine ⟨by decide, ?_⟩; rw [Int.tmod_eq_emod_of_nonneg (by omega), show (n0 : Int) % 11 = ((n0 % 11 : Nat) : Int) by omega, hn])
    | (rw [if_neg hz0] at hn; rw [decide_eq_false hz0]; (conv => whnf); rw [hn])
    conv => whnf
   ·exact absurd hz0 (by omega)
   refine jaa 0 [] rfl rfl rfl rfl (fun _ => hs1) ?_;rintro o r ⟨ho, rfl⟩;cases ho;conv => whnf
   refine ⟨jaL (by omega), ?_⟩;conv => whnf
   refine jaa 0 [] rfl rfl rfl rfl (fun _ => hs2) ?_;rintro o r ⟨ho, rfl⟩;cases ho;conv => whnf
   refine jaa 0 [] rfl rfl rfl rfl (fun _ => hp2) ?_;rintro o r ⟨ho, rfl⟩;cases ho;conv => whnf
   rw [decide_eq_true (show (k8 : Int) = 1 by omega)];conv => whnf
   refine ⟨jaL (by omega), ?_⟩;conv => whnf
   refine jaa 0 [] rfl rfl rfl rfl (fun _ => hs3) ?_;rintro o r ⟨ho, rfl⟩;cases ho;conv => whnf
   exact ⟨rfl, _, rfl, by rw [jdQ]; exact jaU _⟩
 ·have p4 := fun κ => jdp κ i3
  refine ⟨.mk 2 0 eB [f, jbc k, jbc []], i3 + 1, .iff _ _ _ _ hf q1 q2 (by decide) (by simp), by omega, by unfold bS; omega, fun κ ka kb => by have p0 := p0 κ; have p1 := p1 κ; have pe2 := pe2 κ; have p2 := p2 κ; have p3 := p3 κ; have p4 := p4 κ; have w1 := w1 κ ka kb; have w2 := w2 κ ka kb; have hif := (jv7 κ f k []).2 rfl; have hm2 := jzn (4 + 4 * κ) q1; omega, ?_⟩
  rcases (by omega : n = 12 ∨ n = 13) with rfl | rfl
  all_goals
   refine gw ?_;refine ja5 (ja2 jgz (fun _ => [0]) 1) (fun _ _ h => h) Tryz.func57 rfl (by kernel_rfl) rfl (by kernel_rfl) ?_;intro hok;conv => whnf
   refine jaa 0 [] rfl rfl rfl rfl (fun _ => hp) ?_;rintro o r ⟨ho, rfl⟩;cases ho;conv => whnf
   by_cases hz0 : z <= 0
   all_goals
    first
    | (rw [if_pos hz0] at hn; rw [decide_eq_true hz0]; (conv => whnf); refine ⟨by decide, ?_⟩; rw [Int.tmod_eq_emod_of_nonneg (by omega), show (n0 : Int) % 11 = ((n0 % 11 : Nat) : Int) by omega, hn])
    | (rw [if_neg hz0] at hn; rw [decide_eq_false hz0]; (conv => whnf); rw [hn])
    conv => whnf
   ·exact absurd hz0 (by omega)
   refine jaa 0 [] rfl rfl rfl rfl (fun _ => hs1) ?_;rintro o r ⟨ho, rfl⟩;cases ho;conv => whnf
   refine ⟨jaL (by omega), ?_⟩;conv => whnf
   refine jaa 0 [] rfl rfl rfl rfl (fun _ => hs2) ?_;rintro o r ⟨ho, rfl⟩;cases ho;conv => whnf
   refine jaa 0 [] rfl rfl rfl rfl (fun _ => hp2) ?_;rintro o r ⟨ho, rfl⟩;cases ho;conv => whnf
   rw [decide_eq_false (show ¬ (k8 : Int) = 1 by omega)];conv => whnf
   exact ⟨rfl, _, rfl, by rw [jdQ]; exact jzZ f (jbc k)⟩
inductive Chn (l : List Int) (z : Int) : Nat -> List Nt -> Nat -> Prop
 | nil (i : Nat) : Chn l z i [] i
 | cons (i i1 i2 : Nat) (f : Nt) (ss : List Nt) (h : Spec Tryz.prog 57 [bxG l i] [.box 0 0, .v (.int .i64 z)] fun o r => o = [bxG l i1] /\ r = .agg (ntA f)) (k : Chn l z i1 ss i2) : Chn l z i (f :: ss) i2
theorem jv2 {l : List Int} {d : Nat} (hS : jyl l d) (hl : l.length <= 70) {z : Int} (hz : z.toNat = d) (h1 : 0 <= z) (h2 : z <= 5) : ∀ (k i : Nat), i + k * bS d <= 1000000000 -> ∃ ss i', ss.length = k /\ (∀ s ∈ ss, ES d s) /\ i <= i' /\ i' <= i + k * bS d /\ (∀ κ, 1 <= κ -> κ <= 7 -> wSs κ ss + phi κ i <= (4 + 4 * κ) * k + phi κ i') /\ Chn l z i ss i'
 | 0, i, _ => ⟨[], i, rfl, by simp, Nat.le_refl _, by omega, fun κ ka kb => by show 0 + phi κ i <= _; omega, .nil i⟩
 | k + 1, i, hb => by
  rw [Nat.succ_mul] at hb
  obtain ⟨f, i1, hf, g1, g2, w1, hs⟩ := hS hl i z hz h1 h2 (by omega)
  obtain ⟨ss, i2, e1, e2, g3, g4, w2, hc⟩ := jv2 hS hl hz h1 h2 k i1 (by omega)
  refine ⟨f :: ss, i2, by rw [List.length_cons, e1], fun s hs => ?_, by omega, by rw [Nat.succ_mul]; omega, fun κ ka kb => by have w1 := w1 κ ka kb; have w2 := w2 κ ka kb; rw [wSs, Nat.mul_succ]; omega, .cons _ _ _ _ _ hs hc⟩
  rcases List.mem_cons.1 hs with rfl | hs
  ·exact hf
  ·exact e2 s hs
set_option maxHeartbeats 1000000 in
theorem jAR (l : List Int) (d : Nat) (hS : jyl l d) : jAw l d := fun hl i m z hz h1 h2 hm hi => by
 have hp := jdw l i (m + 1) (by omega) (by omega)
 have hlt := jdx l i (m := m + 1) (by omega)
 have ho := jhG l i (m + 1) hl
 generalize pk l i (m + 1) = k at *
 have hkm : k * bS d <= m * bS d := Nat.mul_le_mul_right _ (by omega)
 obtain ⟨ss, i2, e1, e2, g3, g4, w2, hc⟩ := jv2 hS hl hz h1 h2 k (i + 1) (by omega)
 refine ⟨ss, i2, by omega, e2, by omega, by omega, ⟨fun κ ka kb => by rw [e1]; exact w2 κ ka kb, by omega⟩, ?_⟩;refine ja5 (ja2 jAo (fun _ => [0]) 1) (fun _ _ h => h) Tryz.func37 rfl (by kernel_rfl) rfl (by kernel_rfl) ?_;intro hok;conv => whnf
 refine ⟨jaL (by omega), ?_⟩;conv => whnf
 refine jaa 0 [] rfl rfl rfl rfl (fun _ => hp) ?_;rintro o r ⟨ho, rfl⟩;cases ho;conv => whnf
 refine jcM 41 4 [] [(2, 3)] ?_;conv => whnf
 refine ⟨trivial, ?_⟩;conv => whnf
 refine jak [0, 1, 6, 7] ?_;conv => whnf
 refine jaJ (fun x : List Nt × List Nt × Nat => [(8, .v (.int .i64 x.2.1.length))]) (fun x => [bxG l x.2.2, ju7, [jao 11, jao 0, jaS ⟨#[]⟩, .own 0]]) (fun x => [.live 41 4 x.1.length (jaR x.1)]) (fun x => x.1 ++ x.2.1 = ss /\ Chn l z x.2.2 x.2.1 i2) (fun x => x.2.1.length) ([], ss, i + 1) ?_ ⟨rfl, hc⟩ ?_
 ·rw [<- e1]
  repeat' constructor
  show Row.live _ _ _ _ = Row.live _ 4 0 (jaR [])
  rw [jbw]
 rintro ⟨acc, rem, j⟩ ⟨hacc, hch⟩
 simp only at hacc hch
 conv => whnf
 cases hch with
 | nil =>
  rw [List.append_nil] at hacc;conv => whnf
  rw [<- hacc];exact ⟨rfl, rfl⟩
 | cons _ i1 _ f rem hs hch =>
  have hln : acc.length + (rem.length + 1) = ss.length := by rw [<- hacc, List.length_append, List.length_cons]
  rw [show ((f :: rem).length : Int) = (rem.length : Int) + 1 by simp];rw [decide_eq_true (show 0 < (rem.length : Int) + 1 by omega)];conv => whnf
  refine jaa 0 [] rfl rfl rfl rfl (fun _ => hs) ?_;rintro o r ⟨ho, rfl⟩;cases ho;conv => whnf
  refine ⟨⟨by simp only; unfold maxLen; omega, by simp only; omega⟩, ?_⟩;conv => whnf
  refine ⟨jaL (by omega), ?_⟩;rw [show (rem.length : Int) + 1 - 1 = rem.length by omega];conv => whnf
  refine ⟨(acc ++ [f], rem, i1), jas [0] ?_, ⟨by simp only; rw [List.append_assoc]; exact hacc, hch⟩, by simp only [List.length_cons]; omega⟩;conv => whnf
  simp only [List.length_append, List.length_cons, List.length_nil];rw [jhN]
  repeat' constructor
theorem jzW (l : List Int) (most : Nat) (hm : most <= 1000) : Spec Tryz.prog 35 [] [.sl 1 l.length (jeJ l), .v (.int .i64 most)] fun _ r => r = .sl 1 (l.take most).length (jeJ (l.take most)) := by
 refine ja5 (ja2 jal xs0 0) (fun _ _ h => h) Tryz.func35 rfl (by kernel_rfl) rfl (by kernel_rfl) ?_;intro hok
 have e1 : (min (l.length : Int) (most : Int)).toNat - Int.toNat 0 = (l.take most).length := by rw [List.length_take]; omega
 have e2 : List.take ((l.take most).length * 1) (List.drop (Int.toNat 0 * 1) (jeJ l)) = jeJ (l.take most) := by
  rw [Nat.mul_one, List.length_take];simp only [jeJ, Int.toNat_zero, Nat.zero_mul, List.drop_zero];rw [<- List.map_take]
  congr 1
  rcases Nat.le_total most l.length with h | h
  ·rw [Nat.min_eq_left h]
  ·rw [Nat.min_eq_right h, List.take_of_length_le h, List.take_of_length_le (Nat.le_refl _)]
 have e3 : (l.take most).length <= most := by rw [List.length_take]; omega
 conv => whnf
 (refine goA ?_; try with_reducible exact trivial)
 rw [e1, e2];generalize l.take most = L at *;refine ⟨⟨by unfold maxLen; omega, by omega⟩, ?_⟩;conv => whnf
 rfl
theorem jAV (l : List Int) : ∀ d, jyl l d /\ jAw l d
 | 0 => ⟨jA2 l 0 fun e h => by omega, jAR l 0 (jA2 l 0 fun e h => by omega)⟩
 | d + 1 => by
  have h1 : jyl l (d + 1) := jA2 l (d + 1) fun e h => by
   obtain rfl : d = e := by omega
   exact (jAV l d).2
  exact ⟨h1, jAR l (d + 1) h1⟩
def hnG (l : List Int) (j i : Nat) : Int := match j with
 | 0 => 0
 | 1 => 1
 | 2 => 2 + pk l (i + 1) 8
 | _ => 10 + pk l (i + 1 + 1) 30
inductive PCh (l : List Int) : Nat -> Nat -> List (Int × Nt) -> Prop
 | nil (i : Nat) : PCh l 4 i []
 | skip (j i : Nat) (hs : List (Int × Nt)) (hj : j < 4) (hi : i <= 900000000) (hp : pk l i 5 = 0) (k : PCh l (j + 1) (i + 1) hs) : PCh l j i hs
 | take (j i i2 : Nat) (b : Nt) (hs : List (Int × Nt)) (hj : j < 4) (hi : i <= 900000000) (hp : 0 < pk l i 5) (h : Spec Tryz.prog 37 [bxG l (i + 1 + 1 + 1)] [.box 0 0, .v (.int .i64 2), .v (.int .i64 3)] fun o r => o = [bxG l i2] /\ r = .agg (ntA b)) (k : PCh l (j + 1) i2 hs) : PCh l j i ((hnG l j i, b) :: hs)
def EK (b : Nt) : Prop := ∃ k, b = jbc k /\ k.length <= 3 /\ ∀ s ∈ k, ES 2 s
def loG : Nat -> Int
 | 0 => 0
 | 1 => 1
 | 2 => 2
 | 3 => 10
 | _ => 40
def EHs (j : Nat) (hs : List (Int × Nt)) : Prop := (∀ h ∈ hs, loG j <= h.1 /\ h.1 < 40 /\ EK h.2) /\ hs.Pairwise (fun a b => a.1 < b.1) /\ hs.length + j <= 4
theorem jBa (c : Nat) {n : Nat} (h : n <= 3) : (n = 0 /\ c * n = 0) ∨ (n ≠ 0 /\ c * n <= 3 * c) := by
 rcases (by omega : n = 0 ∨ n = 1 ∨ n = 2 ∨ n = 3) with rfl | rfl | rfl | rfl <;> omega
theorem jqn (l : List Int) (hl : l.length <= 70) : ∀ (k j i : Nat), j + k = 4 -> i + k * 5000 <= 800000000 -> ∃ hs, EHs j hs /\ (∀ κ, 1 <= κ -> κ <= 7 -> wHs κ hs + phi κ i <= (4 * κ + 12) * 70 + 6 * κ + 18) /\ PCh l j i hs
 | 0, j, i, hj, hb => by
  obtain rfl : j = 4 := by omega
  exact ⟨[], ⟨by simp, .nil, by decide⟩, fun κ ka kb => by have := (jmK κ i).1; show 0 + phi κ i <= _; omega, .nil i⟩
 | k + 1, j, i, hj, hb => by
  rw [Nat.succ_mul] at hb
  have hjs : j = 0 ∨ j = 1 ∨ j = 2 ∨ j = 3 := by omega
  have hlo : loG j <= loG (j + 1) := by rcases hjs with rfl | rfl | rfl | rfl <;> decide
  by_cases hp : pk l i 5 = 0
  ·obtain ⟨hs, ⟨e1, e2, e3⟩, w1, hc⟩ := jqn l hl k (j + 1) (i + 1) (by omega) (by omega)
   exact ⟨hs, ⟨fun h hh => ⟨by have := (e1 h hh).1; omega, (e1 h hh).2⟩, e2, by omega⟩, fun κ ka kb => by have := (jdp κ i).1; have w1 := w1 κ ka kb; omega, .skip _ _ _ (by omega) (by omega) hp hc⟩
  ·have hS : bS 2 = 1270 := rfl
   have ho := jhG l i 5 hl
   obtain ⟨b, i2, q1, q2, g1, g2, ⟨w2, w3⟩, hs⟩ := (jAV l 2).2 hl (i + 1 + 1 + 1) 3 2 rfl (by decide) (by decide) (by decide) (by omega)
   obtain ⟨hs2, ⟨e1, e2, e3⟩, w1, hc⟩ := jqn l hl k (j + 1) i2 (by omega) (by omega)
   have hn : loG j <= hnG l j i /\ hnG l j i < loG (j + 1) := by
    have p8 := jdx l (i + 1) (m := 8) (by decide)
    have p30 := jdx l (i + 1 + 1) (m := 30) (by decide)
    rcases hjs with rfl | rfl | rfl | rfl <;> simp only [loG, hnG] <;> omega
   have hl4 : loG (j + 1) <= 40 := by rcases hjs with rfl | rfl | rfl | rfl <;> decide
   refine ⟨_, ⟨fun h hh => ?_, List.pairwise_cons.2 ⟨fun b hb => ?_, e2⟩, by rw [List.length_cons]; omega⟩, fun κ ka kb => by have p0 := jdp κ i; have p1 := jdp κ (i + 1); have p2 := jdp κ (i + 1 + 1); have p3 := jdp κ (i + 1 + 1 + 1); have p4 := jmK κ i; have p5 := jmK κ (i + 1 + 1 + 1 + 1); have w1 := w1 κ ka kb; have w2 := w2 κ ka kb; have hm := jBa (4 + 4 * κ) q1; rw [wHs, jlW]; omega, .take j i i2 (jbc b) hs2 (by omega) (by omega) (by omega) hs hc⟩
   ·rcases List.mem_cons.1 hh with rfl | hh
    ·exact ⟨hn.1, by simp only; omega, b, rfl, q1, q2⟩
    ·exact ⟨by have := (e1 h hh).1; omega, (e1 h hh).2⟩
   ·have := (e1 b hb).1
    simp only; omega
def duL : List ByteArray := [⟨#[100]⟩, ⟨#[100, 100, 49]⟩]
def voL : List ByteArray := [⟨#[118]⟩, ⟨#[119, 50]⟩]
def GU (u : Ut) : Prop := u.du = duL /\ u.vo = voL /\ EHs 0 u.on
def GW (u : Ut) : Prop := GU u /\ ∀ κ, 1 <= κ -> κ <= 7 -> wHs κ u.on <= (4 * κ + 12) * 70 + 6 * κ + 18
set_option maxHeartbeats 1000000 in
theorem jxx (l : List Int) : ∃ u, GW u /\ Spec Tryz.prog 13 [] [.sl 1 l.length (jeJ l)] fun _ r => r = .agg (utA u) := by
 have hin := jzW l 70 (by decide)
 obtain ⟨hs, hE, hW, hc⟩ := jqn (l.take 70) (by rw [List.length_take]; omega) 4 0 0 rfl (by decide)
 refine ⟨⟨duL, voL, hs⟩, ⟨⟨rfl, rfl, hE⟩, fun κ ka kb => by have := hW κ ka kb; show wHs κ hs <= _; omega⟩, ?_⟩;clear hW
 have hlen := hE.2.2
 generalize l.take 70 = L at *;refine ja5 (ja2 jzB (fun _ => [1]) 0) (fun _ _ h => h) Tryz.func13 rfl (by kernel_rfl) rfl (by kernel_rfl) ?_;intro hok;conv => whnf
 refine ja9 [] rfl (fun _ => hin) ?_;rintro r rfl;conv => whnf
 refine jcM 59 5 [] [(2, 2)] ?_;conv => whnf
 refine ⟨trivial, ?_⟩;conv => whnf
 refine jak [2, 3, 4] ?_;conv => whnf
 refine jaJ (fun x : Nat × Nat × List (Int × Nt) × List (Int × Nt) => [(5, .v (.int .i64 x.1))]) (fun x => [jhJ, bxG L x.2.1, [.own 0, .own 1, .own 2]]) (fun x => [.live 9 1 2 (txA duL), .live 9 1 2 (txA voL), .live 59 5 x.2.2.1.length (jm1 x.2.2.1)]) (fun x => x.2.2.1 ++ x.2.2.2 = hs /\ PCh L x.1 x.2.1 x.2.2.2) (fun x => 4 - x.1) (0, 0, [], hs) ?_ ⟨rfl, hc⟩ ?_
 ·repeat' constructor
  show Row.live _ _ _ _ = Row.live _ 5 0 (jm1 [])
  rw [jod]
 rintro ⟨j, i, acc, rem⟩ ⟨hacc, hch⟩
 simp only at hacc hch
 have hal : acc.length <= 4 := by
  have := congrArg List.length hacc
  rw [List.length_append] at this;omega
 clear hin hc;conv => whnf
 cases hch with
 | nil =>
  conv => whnf
  rw [List.append_nil] at hacc;rw [<- hacc];rfl
 | skip _ _ _ hj hi hp hch =>
  have hpk := jdw L i 5 (by omega) (by decide)
  rw [hp] at hpk;rw [decide_eq_true (show (j : Int) < 4 by omega)];conv => whnf
  refine jaa 1 [] rfl rfl rfl rfl (fun _ => hpk) ?_;rintro o r ⟨ho, rfl⟩;cases ho;conv => whnf
  refine ⟨jaL (by omega), ?_⟩;conv => whnf
  refine ⟨(j + 1, i + 1, acc, rem), jas [0, 1, 2] ?_, ⟨hacc, hch⟩, by simp only; omega⟩;conv => whnf
  repeat' constructor
 | take _ _ i2 b rem hj hi hp hs hch =>
  have hpk := jdw L i 5 (by omega) (by decide)
  have hp8 := jdw L (i + 1) 8 (by omega) (by decide)
  have hp30 := jdw L (i + 1 + 1) 30 (by omega) (by decide)
  have l8 := jdx L (i + 1) (m := 8) (by decide)
  have l30 := jdx L (i + 1 + 1) (m := 30) (by decide)
  obtain ⟨nn, hnn⟩ : ∃ nn, hnG L j i = nn := ⟨_, rfl⟩
  rw [hnn] at hacc;unfold hnG at hnn;generalize pk L i 5 = k5 at *;generalize pk L (i + 1) 8 = k8 at *;generalize pk L (i + 1 + 1) 30 = k30 at *;rw [decide_eq_true (show (j : Int) < 4 by omega)];conv => whnf
  refine jaa 1 [] rfl rfl rfl rfl (fun _ => hpk) ?_;rintro o r ⟨ho, rfl⟩;cases ho;conv => whnf
  rw [decide_eq_true (show 0 < (k5 : Int) by omega)];conv => whnf
  refine jaa 1 [] rfl rfl rfl rfl (fun _ => hp8) ?_;rintro o r ⟨ho, rfl⟩;cases ho;conv => whnf
  refine ⟨jaL (by omega), ?_⟩;conv => whnf
  refine jaa 1 [] rfl rfl rfl rfl (fun _ => hp30) ?_;rintro o r ⟨ho, rfl⟩;cases ho;conv => whnf
  refine ⟨jaL (by omega), ?_⟩;conv => whnf
  refine ⟨⟨by omega, by omega⟩, ?_⟩
  rcases (by omega : j = 0 ∨ j = 1 ∨ j = 2 ∨ j = 3) with rfl | rfl | rfl | rfl
  all_goals
   simp only at hnn
   conv => whnf
   refine jaa 1 [] rfl rfl rfl rfl (fun _ => hs) ?_;rintro o r ⟨ho, rfl⟩;cases ho;conv => whnf
   refine ⟨⟨by simp only; unfold maxLen; omega, by simp only; omega⟩, ?_⟩;conv => whnf
   refine ⟨jaL (by simp only; omega), ?_⟩;conv => whnf
   subst hnn;refine ⟨(_, i2, acc ++ [(_, b)], rem), jas [0, 1, 2] ?_, ⟨by simp only; rw [List.append_assoc]; exact hacc, hch⟩, by simp only; omega⟩;conv => whnf
   repeat' constructor
   rw [List.length_append, jkQ];rfl
def jmd (n : Nat) : List UInt8 := if h : n = 0 then [] else jmd (n / 10) ++ [UInt8.ofNat (48 + n % 10)]
decreasing_by omega
theorem jdb : jmd 0 = [] := by unfold jmd; simp
theorem jcj {n : Nat} (h : n ≠ 0) : jmd n = jmd (n / 10) ++ [UInt8.ofNat (48 + n % 10)] := by
 rw [jmd]; simp [h]
def jb1 (n : Nat) : List UInt8 := if n = 0 then [48] else jmd n
theorem jk0 : ∀ (k n : Nat), n < 10 ^ k -> (jmd n).length <= k
 | k, 0, _ => by rw [jdb]; simp
 | 0, n + 1, h => by simp at h
 | k + 1, n + 1, h => by
  rw [jcj (by omega), List.length_append]
  have := jk0 k ((n + 1) / 10) (by rw [Nat.pow_succ] at h; omega)
  simp only [List.length_cons, List.length_nil]; omega
def digB : ByteArray := ⟨#[48, 49, 50, 51, 52, 53, 54, 55, 56, 57]⟩
theorem jvO (k : Nat) (i j : Nat) (hi : i = k % 10) (hj : j = k % 10 + 1) : digB.extract i j = bs [UInt8.ofNat (48 + k % 10)] := by
 subst hi; subst hj
 have h : ∀ d, d < 10 -> digB.extract d (d + 1) = bs [UInt8.ofNat (48 + d)] := by decide +kernel
 exact h _ (Nat.mod_lt _ (by omega))
theorem jyh (a b : List UInt8) : bs a ++ bs b = bs (a ++ b) := by
 apply ByteArray.ext
 apply Array.toList_inj.1
 simp [bs]
theorem jc3 (n : Nat) (hn : n < 1000000000000) : Spec Tryz.prog 21 [] [.v (.int .i64 n)] fun _ r => r = jaS (bs (jb1 n)) := by
 have hlen := jk0 12 n hn
 refine ja5 (ja2 jal xs0 0) (fun _ _ h => h) Tryz.func21 rfl (by kernel_rfl) rfl (by kernel_rfl) ?_;intro hok;conv => whnf
 by_cases h0 : n = 0
 ·subst h0
  (refine goA ?_; try with_reducible exact trivial)
  rfl
 ·(refine goA ?_; try with_reducible exact trivial)
  refine jak [0, 3] ?_;conv => whnf
  refine jaJ (fun x : Nat × List UInt8 => [(4, .v (.string (bs x.2))), (5, .v (.int .i64 x.1))]) (fun _ => []) (fun _ => []) (fun x => x.1 <= n /\ jmd x.1 ++ x.2 = jmd n /\ x.2.length <= 12) (fun x => x.1) (n, []) ?_ ⟨Nat.le_refl _, by simp, by simp⟩ ?_
  ·repeat' constructor
  ·rintro ⟨k, l⟩ ⟨hk, hd, hl⟩
   simp only at hk hd hl
   have hll : (jmd k).length + l.length <= 12 := by
    have := congrArg List.length hd
    rw [List.length_append] at this; omega
   conv => whnf
   by_cases hk0 : k = 0
   ·subst hk0;rw [jdb, List.nil_append] at hd
    (refine goA ?_; try with_reducible exact trivial)
    have : jb1 n = l := by unfold jb1; rw [if_neg h0, hd]
    rw [this]; rfl
   ·have hm : (((k, l).1 : Nat) : Int).tmod 10 = ((k % 10 : Nat) : Int) := by
     show ((k : Int)).tmod 10 = _
     rw [Int.tmod_eq_emod_of_nonneg (by omega)]; omega
    have hq : (((k, l).1 : Nat) : Int).tdiv 10 = ((k / 10 : Nat) : Int) := by
     show ((k : Int)).tdiv 10 = _
     rw [Int.tdiv_eq_ediv_of_nonneg (by omega)]; omega
    (refine goA ?_; try with_reducible exact trivial)
    rw [hm];conv => whnf
    (refine goA ?_; try with_reducible exact trivial)
    refine ⟨⟨by omega, by omega, by show _ <= (10 : Int); omega⟩, ?_⟩;rw [show (⟨#[48, 49, 50, 51, 52, 53, 54, 55, 56, 57]⟩ : ByteArray).extract (Int.toNat ((k % 10 : Nat) : Int)) (Int.toNat (((k % 10 : Nat) : Int) + 1)) = bs [UInt8.ofNat (48 + k % 10)] from jvO k _ _ (by omega) (by omega)];conv => whnf
    refine ⟨by rw [jbB, jbB]; show 1 + l.length <= maxLen; unfold maxLen; omega, ?_⟩;rw [show bs [UInt8.ofNat (48 + k % 10)] ++ bs ((k, l).2) = bs (UInt8.ofNat (48 + k % 10) :: l) from jyh _ _];conv => whnf
    (refine goA ?_; try with_reducible exact trivial)
    rw [hq]
    have hd2 : jmd (k / 10) ++ UInt8.ofNat (48 + k % 10) :: l = jmd n := by
     rw [<- hd, jcj hk0]; simp
    repeat ((with_reducible refine And.intro ?_ ?_); (focus (first | omega | (with_reducible refine jaL ?_; (first | omega | (simp only [List.length_append, List.length_cons, List.length_nil, List.length_map, ByteArray.size_append]; omega) | (dsimp only; omega))) | (with_reducible refine joC ?_; (first | omega | (simp only [List.length_append, List.length_cons, List.length_nil, List.length_map, ByteArray.size_append]; omega) | (dsimp only; omega))) | ((fail_if_success (with_reducible refine joC ?_)); decide) | (simp only [List.length_append, List.length_cons, List.length_nil, List.length_map, ByteArray.size_append]; omega) | (dsimp only; omega) | ((with_reducible refine jaL ?_); dsimp only; omega))); (conv => whnf))
    refine ⟨(k / 10, UInt8.ofNat (48 + k % 10) :: l), jeO ?_, ⟨by show k / 10 <= n; omega, hd2, ?_⟩, by show k / 10 < k; omega⟩
    ·repeat' constructor
    ·have := congrArg List.length hd2
     rw [List.length_append] at this
     show (UInt8.ofNat (48 + k % 10) :: l).length <= 12
     omega
theorem jb8 (n : Nat) (hn : n < 1000000000000) : (bs (jb1 n)).size <= 12 := by
 rw [jbB];unfold jb1
 split
 ·decide
 ·exact jk0 12 n hn
theorem szD (l : Array UInt8) : (⟨l⟩ : ByteArray).size = l.size := rfl
theorem jgi (c : UInt8) : Spec Tryz.prog 56 [] [.v (.int .u8 (c.toNat : Int))] fun _ r => r = jbI (jbu c) := by
 have hm : 0 <= (c.toNat : Int) /\ (c.toNat : Int) <= 255 := by have := c.toNat_lt; omega
 unfold jbu isL isD;generalize (c.toNat : Int) = n at *;refine ja5 (ja2 jal xs0 0) (fun _ _ h => h) Tryz.func56 rfl (by kernel_rfl) rfl (by kernel_rfl) ?_;intro _;conv => whnf
 by_cases h1 : 97 <= n
 ·rw [decide_eq_true h1];conv => whnf
  by_cases h2 : n <= 122
  ·rw [decide_eq_true h2];conv => whnf
   rfl
  ·rw [decide_eq_false h2];conv => whnf
   rw [decide_eq_true (show 48 <= n by omega)];conv => whnf
   rw [decide_eq_false (show ¬ n <= 57 by omega)];conv => whnf
   rfl
 ·rw [decide_eq_false h1];conv => whnf
  by_cases h3 : 48 <= n
  ·rw [decide_eq_true h3];conv => whnf
   rcases Decidable.em (n <= 57) with h4 | h4
   ·rw [decide_eq_true h4];conv => whnf
    rfl
   ·rw [decide_eq_false h4];conv => whnf
    rfl
  ·rw [decide_eq_false h3];conv => whnf
   rfl
def jby (a : ByteArray) : UInt8 := a.data.toList.getD (a.size - 1) 0
def jaq (a : ByteArray) : UInt8 := a.data.toList.getD 0 0
def ja1 (a b : ByteArray) : ByteArray := if a = ⟨#[]⟩ then a ++ b else if b = ⟨#[]⟩ then a ++ b else if jbu (jby a) = false then a ++ b else if jbu (jaq b) = false then a ++ b else a ++ ⟨#[32]⟩ ++ b
theorem jbf {a : ByteArray} (h : a ≠ ⟨#[]⟩) : 0 < a.size := by
 refine Nat.pos_of_ne_zero fun h0 => h ?_
 apply ByteArray.ext
 exact Array.eq_empty_of_size_eq_zero h0
theorem jfC (a b : ByteArray) (ha : a.size <= 500000000) (hb : b.size <= 400000000) : Spec Tryz.prog 34 [] [jaS a, jaS b] fun _ r => r = jaS (ja1 a b) := by
 have h1 := jgi (jby a)
 have h2 := jgi (jaq b)
 unfold ja1;refine ja5 (ja2 jal xs0 0) (fun _ _ h => h) Tryz.func34 rfl (by kernel_rfl) rfl (by kernel_rfl) ?_;intro _;conv => whnf
 by_cases ea : a = ⟨#[]⟩
 ·rw [decide_eq_true ea, if_pos ea];conv => whnf
  refine ⟨by show a.size + b.size <= maxLen; unfold maxLen; omega, ?_⟩;conv => whnf
  rfl
 ·rw [decide_eq_false ea, if_neg ea];conv => whnf
  by_cases eb : b = ⟨#[]⟩
  ·rw [decide_eq_true eb, if_pos eb];conv => whnf
   refine ⟨by show a.size + b.size <= maxLen; unfold maxLen; omega, ?_⟩;conv => whnf
   rfl
  ·rw [decide_eq_false eb, if_neg eb]
   have sa := jbf ea
   have sb := jbf eb
   conv => whnf
   refine ⟨jaL (by omega), ?_⟩;conv => whnf
   refine ⟨⟨by omega, by omega⟩, ?_⟩;rw [show a.data.toList.getD (Int.toNat ((a.size : Int) - 1)) 0 = jby a from by unfold jby; congr 1; omega];generalize jbu (jby a) = p at *
   (refine ja9 [] rfl (fun _ => h1) ?_; rintro r rfl; conv => whnf)
   cases p
   ·rw [if_pos rfl];conv => whnf
    refine ⟨by show a.size + b.size <= maxLen; unfold maxLen; omega, ?_⟩;conv => whnf
    rfl
   ·rw [if_neg (by decide)];conv => whnf
    refine ⟨⟨by omega, by omega⟩, ?_⟩;rw [show b.data.toList.getD (Int.toNat 0) 0 = jaq b from rfl];generalize jbu (jaq b) = q at *
    (refine ja9 [] rfl (fun _ => h2) ?_; rintro r rfl; conv => whnf)
    cases q
    ·rw [if_pos rfl];conv => whnf
     refine ⟨by show a.size + b.size <= maxLen; unfold maxLen; omega, ?_⟩;conv => whnf
     rfl
    ·rw [if_neg (by decide)];conv => whnf
     refine ⟨by show a.size + 1 <= maxLen; unfold maxLen; omega, ?_⟩;conv => whnf
     refine ⟨by rw [ByteArray.size_append]; show a.size + 1 + b.size <= maxLen; unfold maxLen; omega, ?_⟩;conv => whnf
     rfl
theorem ja0 (a b : ByteArray) : (ja1 a b).size <= a.size + b.size + 1 := by
 have h : (⟨#[32]⟩ : ByteArray).size = 1 := rfl
 unfold ja1
 repeat' split
 all_goals (simp only [ByteArray.size_append]; omega)
def tsz (l : List ByteArray) : Nat := (l.map fun x => x.size + 1).sum
def jb5 (l : List ByteArray) : ByteArray := l.foldl ja1 ⟨#[]⟩
theorem jay (x : ByteArray) (l : List ByteArray) : tsz (x :: l) = (x.size + 1) + tsz l := by unfold tsz; simp
theorem jk6 (l : List ByteArray) (x : ByteArray) : tsz (l ++ [x]) = tsz l + (x.size + 1) := by unfold tsz; simp
theorem jf2 (l : List ByteArray) (x : ByteArray) : jb5 (l ++ [x]) = ja1 (jb5 l) x := by unfold jb5; rw [List.foldl_append]; rfl
theorem jtd (l : List ByteArray) (j : Nat) : tsz (l.take j) <= tsz l := by
 have : tsz l = tsz (l.take j) + tsz (l.drop j) := by
  unfold tsz;rw [<- List.sum_append, <- List.map_append, List.take_append_drop]
 omega
theorem jvY {l : List ByteArray} {x : ByteArray} (h : x ∈ l) : x.size + 1 <= tsz l := by
 induction l with
 | nil => cases h
 | cons y l ih =>
  rw [jay]
  rcases List.mem_cons.1 h with rfl | h
  ·omega
  ·have := ih h; omega
theorem jws (l : List ByteArray) : l.length <= tsz l := by
 induction l with
 | nil => exact Nat.zero_le _
 | cons x l ih => rw [jay, List.length_cons]; omega
theorem jh9 (l : List ByteArray) : ∀ j, j <= l.length -> (jb5 (l.take j)).size <= tsz (l.take j)
 | 0, _ => by rw [List.take_zero]; exact Nat.zero_le _
 | j + 1, h => by
  have ih := jh9 l j (by omega)
  rw [List.take_succ_eq_append_getElem (by omega), jf2, jk6]
  have := ja0 (jb5 (l.take j)) (l[j]'(by omega))
  omega
theorem jaZ (l : List ByteArray) : (jb5 l).size <= tsz l := by
 have := jh9 l l.length (Nat.le_refl _)
 rwa [List.take_length] at this
theorem jbn (l : List ByteArray) (h : tsz l <= 300000000) : Spec Tryz.prog 54 [] [.sl 1 l.length (jdR l)] fun _ r => r = jaS (jb5 l) := by
 have hln := jws l
 refine ja5 (ja2 jal xs0 0) (fun _ _ h => h) Tryz.func54 rfl (by kernel_rfl) rfl (by kernel_rfl) ?_;intro _;conv => whnf
 refine jak [0] ?_;conv => whnf
 refine jaJ (fun j : Nat => [(3, jaS (jb5 (l.take j))), (4, .v (.int .i64 j))]) (fun _ => []) (fun _ => []) (fun j => j <= l.length) (fun j => l.length - j) 0 ?_ (Nat.zero_le _) ?_
 ·repeat' constructor
 intro j hj;conv => whnf
 by_cases hlt : j < l.length
 ·rw [decide_eq_true (show (j : Int) < l.length by omega)]
  have hr : jae 1 j (jdR l) = [jaS l[j]] := jbQ jaS l j hlt
  have h1 := jh9 l j hj
  have h2 := jtd l j
  have h3 := jvY (List.getElem_mem hlt)
  have hg := jfC (jb5 (l.take j)) l[j] (by omega) (by omega)
  have e : jb5 (l.take (j + 1)) = ja1 (jb5 (l.take j)) l[j] := by rw [List.take_succ_eq_append_getElem hlt, jf2]
  generalize l[j] = x at *;conv => whnf
  refine ⟨by omega, ?_⟩;conv => whnf
  (generalize hrq : jae _ _ (jdR l) = rq; obtain rfl : rq = [jaS x] := hrq.symm.trans (hr); clear hrq; conv => whnf)
  (refine ja9 [] rfl (fun _ => hg) ?_; rintro r rfl; conv => whnf)
  refine ⟨jaL (by omega), ?_⟩;conv => whnf
  refine ⟨j + 1, jas [] ?_, hlt, by omega⟩;conv => whnf
  rw [e]
  repeat' constructor
 ·rw [decide_eq_false (show ¬ (j : Int) < l.length by omega)];conv => whnf
  rw [List.take_of_length_le (by omega)];rfl
def jab (k : Int) (s : ByteArray) : Int := if k = 17 then (if s = pNot then 3 else 7) else if k ≠ 18 then 8 else if s = pOr then 1 else if s = jep then 2 else if s = jcH then 5 else if s = pMinus then 5 else if s = jbG then 6 else if s = jaM then 6 else 4
theorem jfs (k : Int) (s : ByteArray) : 1 <= jab k s /\ jab k s <= 8 := by
 unfold jab
 repeat' split
 all_goals decide
theorem jdj (f : Nt) : Spec Tryz.prog 147 [] [.agg (ntA f)] fun _ r => r = jao (jab f.k f.s) := by
 unfold jab;refine ja5 (ja2 jal xs0 0) (fun _ _ h => h) Tryz.func147 rfl (by kernel_rfl) rfl (by kernel_rfl) ?_;intro _;conv => whnf
 by_cases h17 : f.k = 17
 ·rw [if_pos h17, decide_eq_true h17];conv => whnf
  by_cases hn : f.s = pNot
  ·rw [if_pos hn, decide_eq_true (p := f.s = ⟨_⟩) hn];conv => whnf
   rfl
  ·rw [if_neg hn, decide_eq_false (p := f.s = ⟨_⟩) hn];conv => whnf
   rfl
 rw [if_neg h17, decide_eq_false h17];conv => whnf
 by_cases h18 : f.k = 18
 ·rw [if_neg (show ¬ f.k ≠ 18 from fun h => h h18), decide_eq_true h18];conv => whnf
  by_cases g1 : f.s = pOr
  ·rw [if_pos g1, decide_eq_true (p := f.s = ⟨_⟩) g1];conv => whnf
   rfl
  rw [if_neg g1, decide_eq_false (p := f.s = ⟨_⟩) g1];conv => whnf
  by_cases g2 : f.s = jep
  ·rw [if_pos g2, decide_eq_true (p := f.s = ⟨_⟩) g2];conv => whnf
   rfl
  rw [if_neg g2, decide_eq_false (p := f.s = ⟨_⟩) g2];conv => whnf
  by_cases g3 : f.s = jcH
  ·rw [if_pos g3, decide_eq_true (p := f.s = ⟨_⟩) g3];conv => whnf
   rfl
  rw [if_neg g3, decide_eq_false (p := f.s = ⟨_⟩) g3];conv => whnf
  by_cases g4 : f.s = pMinus
  ·rw [if_pos g4, decide_eq_true (p := f.s = ⟨_⟩) g4];conv => whnf
   rfl
  rw [if_neg g4, decide_eq_false (p := f.s = ⟨_⟩) g4];conv => whnf
  by_cases g5 : f.s = jbG
  ·rw [if_pos g5, decide_eq_true (p := f.s = ⟨_⟩) g5];conv => whnf
   rfl
  rw [if_neg g5, decide_eq_false (p := f.s = ⟨_⟩) g5];conv => whnf
  by_cases g6 : f.s = jaM
  ·rw [if_pos g6, decide_eq_true (p := f.s = ⟨_⟩) g6];conv => whnf
   rfl
  rw [if_neg g6, decide_eq_false (p := f.s = ⟨_⟩) g6];conv => whnf
  rfl
 ·rw [if_pos h18, decide_eq_false h18];conv => whnf
  rfl
def jeD (p req : Int) (full : Bool) (b : ByteArray) : ByteArray := if p < req then pLp ++ b ++ pRp else if full = true then (if p < 8 then pLp ++ b ++ pRp else b) else b
def noG : Int -> ByteArray := fun _ => eB
def tfB (n : Int) : ByteArray := [jdT, jhu].getD (jc8 n 2).toNat eB
def jzT (k n : Int) (s : ByteArray) (g : List (Int -> ByteArray)) : ByteArray :=
 if k = 12 then bs (jb1 n.toNat)
 else if k = 13 then tfB n
 else if k = 16 then jb5 [wDraw, pLp, (g.getD 0 noG) 1, pRp]
 else if k = 17 then jb5 [s, (g.getD 0 noG) (jab k s)]
 else if k = 18 then jb5 [(g.getD 0 noG) (if jab k s = 4 then 5 else jab k s), s, (g.getD 1 noG) (jab k s + 1)]
 else s
mutual
def shN (full : Bool) : Nt -> Int -> ByteArray
 | .mk k n s kids, req => jeD (jab k s) req full (jzT k n s (shL full kids))
def shL (full : Bool) : List Nt -> List (Int -> ByteArray)
 | [] => []
 | f :: l => shN full f :: shL full l
end
theorem jdc (p req : Int) (full : Bool) (b : ByteArray) : (jeD p req full b).size <= b.size + 2 := by
 unfold jeD
 have h1 : pLp.size = 1 := rfl
 have h2 : pRp.size = 1 := rfl
 repeat' split
 all_goals (try simp only [ByteArray.size_append]); omega
def SH (full : Bool) (m : Nat) (f : Nt) : Prop := ∀ req : Int, 0 <= req -> req <= 9 -> (shN full f req).size <= m /\ Spec Tryz.prog 123 [] [.agg (ntA f), jao req, jbI full] fun _ r => r = jaS (shN full f req)
theorem jtf (f : Nt) : jae 4 0 (jaR [f]) = ntA f := jbr [f] 0 (by simp)
theorem jnH (f g : Nt) : jae 4 0 (jaR [f, g]) = ntA f := jbr [f, g] 0 (by simp)
theorem jnq (f g : Nt) : jae 4 1 (jaR [f, g]) = ntA g := jbr [f, g] 1 (by simp)
def jn3 (id : Nat) : Tr := match Nat.beq id 11 with | true => .q 0 3 (.q 1 0 (.q 2 3 (.q 3 0 (.q 4 3 (.q 5 0 (.q 6 3 (.q 7 3 (.alt 8 1 (.alt 9 1 (.alt 10 1 (.q 11 3 (.nil)) (.nil)) (.nil)) (.nil))))))))) | false => match Nat.beq id 16 with | true => .q 0 3 (.q 1 0 (.q 2 3 (.q 3 0 (.q 4 3 (.q 5 3 (.q 7 3 (.q 8 0 (.q 9 3 (.q 10 0 (.q 11 3 (.q 12 0 (.q 13 3 (.q 14 3 (.q 15 3 (.alt 6 1 (.alt 16 1 (.alt 17 1 (.alt 18 1 (.q 19 3 (.nil)) (.nil)) (.nil)) (.nil)) (.nil)))))))))))))))) | false => .nil
theorem juw (full : Bool) (n : Int) (hn : 0 <= n /\ n < 1000000000000) : SH full 14 (.mk 12 n eB []) := fun req h1 h2 => by
 have hsz : (bs (jb1 n.toNat)).size <= 12 := jb8 _ (by omega)
 have e : shN full (.mk 12 n eB []) req = jeD 8 req full (bs (jb1 n.toNat)) := rfl
 rw [e];refine ⟨by have := jdc 8 req full (bs (jb1 n.toNat)); omega, ?_⟩
 have hpr := jdj (.mk 12 n eB [])
 have hdc := jc3 n.toNat (by omega)
 rw [show ((n.toNat : Nat) : Int) = n by omega] at hdc;rw [show jab (Nt.mk 12 n eB []).k (Nt.mk 12 n eB []).s = 8 from rfl] at hpr;generalize bs (jb1 n.toNat) = x at *
 obtain ⟨p, hp⟩ : ∃ p : Int, p = 8 := ⟨_, rfl⟩
 rw [<- hp] at hpr ⊢;unfold jeD;refine ja5 (ja2 jn3 xs0 0) (fun _ _ h => h) Tryz.func123 rfl (by kernel_rfl) rfl (by kernel_rfl) ?_;intro hok;conv => whnf
 (refine ja9 [] rfl (fun _ => hpr) ?_; rintro r rfl; conv => whnf)
 (refine ja9 [] rfl (fun _ => hdc) ?_; rintro r rfl; conv => whnf)
 by_cases hlt : p < req
 ·rw [if_pos hlt, decide_eq_true hlt];conv => whnf
  refine ⟨by (try simp only [ByteArray.size_append, Nt.s, szD, List.size_toArray, List.length_cons, List.length_nil]); unfold maxLen; omega, ?_⟩;conv => whnf
  refine ⟨by (try simp only [ByteArray.size_append, Nt.s, szD, List.size_toArray, List.length_cons, List.length_nil]); unfold maxLen; omega, ?_⟩;conv => whnf
  rfl
 ·rw [if_neg hlt, decide_eq_false hlt]
  cases full with
  | false =>
   conv => whnf
   rfl
  | true =>
   rw [if_pos rfl];conv => whnf
   by_cases h8 : p < 8
   ·rw [if_pos h8, decide_eq_true h8];conv => whnf
    refine ⟨by (try simp only [ByteArray.size_append, Nt.s, szD, List.size_toArray, List.length_cons, List.length_nil]); unfold maxLen; omega, ?_⟩;conv => whnf
    refine ⟨by (try simp only [ByteArray.size_append, Nt.s, szD, List.size_toArray, List.length_cons, List.length_nil]); unfold maxLen; omega, ?_⟩;conv => whnf
    rfl
   ·rw [if_neg h8, decide_eq_false h8];conv => whnf
    rfl
theorem jqw (full : Bool) (k : Int) (hk : k = 14 ∨ k = 15) (s : ByteArray) (hs : s.size <= 12) : SH full 14 (.mk k 0 s []) := fun req h1 h2 => by
 have e : shN full (.mk k 0 s []) req = jeD 8 req full s := by rcases hk with rfl | rfl <;> rfl
 rw [e];refine ⟨by have := jdc 8 req full s; omega, ?_⟩
 have hpr := jdj (.mk k 0 s [])
 rw [show jab (Nt.mk k 0 s []).k (Nt.mk k 0 s []).s = 8 by rcases hk with rfl | rfl <;> rfl] at hpr
 obtain ⟨p, hp⟩ : ∃ p : Int, p = 8 := ⟨_, rfl⟩
 rw [<- hp] at hpr ⊢;unfold jeD
 rcases hk with rfl | rfl
 ·refine ja5 (ja2 jn3 xs0 0) (fun _ _ h => h) Tryz.func123 rfl (by kernel_rfl) rfl (by kernel_rfl) ?_;intro hok;conv => whnf
  (refine ja9 [] rfl (fun _ => hpr) ?_; rintro r rfl; conv => whnf)
  by_cases hlt : p < req
  ·rw [if_pos hlt, decide_eq_true hlt];conv => whnf
   refine ⟨by (try simp only [ByteArray.size_append, Nt.s, szD, List.size_toArray, List.length_cons, List.length_nil]); unfold maxLen; omega, ?_⟩;conv => whnf
   refine ⟨by (try simp only [ByteArray.size_append, Nt.s, szD, List.size_toArray, List.length_cons, List.length_nil]); unfold maxLen; omega, ?_⟩;conv => whnf
   rfl
  ·rw [if_neg hlt, decide_eq_false hlt]
   cases full with
   | false =>
    conv => whnf
    rfl
   | true =>
    rw [if_pos rfl];conv => whnf
    by_cases h8 : p < 8
    ·rw [if_pos h8, decide_eq_true h8];conv => whnf
     refine ⟨by (try simp only [ByteArray.size_append, Nt.s, szD, List.size_toArray, List.length_cons, List.length_nil]); unfold maxLen; omega, ?_⟩;conv => whnf
     refine ⟨by (try simp only [ByteArray.size_append, Nt.s, szD, List.size_toArray, List.length_cons, List.length_nil]); unfold maxLen; omega, ?_⟩;conv => whnf
     rfl
    ·rw [if_neg h8, decide_eq_false h8];conv => whnf
     rfl
 ·refine ja5 (ja2 jn3 xs0 0) (fun _ _ h => h) Tryz.func123 rfl (by kernel_rfl) rfl (by kernel_rfl) ?_;intro hok;conv => whnf
  (refine ja9 [] rfl (fun _ => hpr) ?_; rintro r rfl; conv => whnf)
  by_cases hlt : p < req
  ·rw [if_pos hlt, decide_eq_true hlt];conv => whnf
   refine ⟨by (try simp only [ByteArray.size_append, Nt.s, szD, List.size_toArray, List.length_cons, List.length_nil]); unfold maxLen; omega, ?_⟩;conv => whnf
   refine ⟨by (try simp only [ByteArray.size_append, Nt.s, szD, List.size_toArray, List.length_cons, List.length_nil]); unfold maxLen; omega, ?_⟩;conv => whnf
   rfl
  ·rw [if_neg hlt, decide_eq_false hlt]
   cases full with
   | false =>
    conv => whnf
    rfl
   | true =>
    rw [if_pos rfl];conv => whnf
    by_cases h8 : p < 8
    ·rw [if_pos h8, decide_eq_true h8];conv => whnf
     refine ⟨by (try simp only [ByteArray.size_append, Nt.s, szD, List.size_toArray, List.length_cons, List.length_nil]); unfold maxLen; omega, ?_⟩;conv => whnf
     refine ⟨by (try simp only [ByteArray.size_append, Nt.s, szD, List.size_toArray, List.length_cons, List.length_nil]); unfold maxLen; omega, ?_⟩;conv => whnf
     rfl
    ·rw [if_neg h8, decide_eq_false h8];conv => whnf
     rfl
theorem jrr (full : Bool) (n : Nat) (hn : n < 2) : SH full 14 (.mk 13 n eB []) := fun req h1 h2 => by
 have e : shN full (.mk 13 n eB []) req = jeD 8 req full (tfB n) := rfl
 rw [e]
 have har := jeI n 2 (by decide)
 have hz : jc8 n 2 = n := by rcases (by omega : n = 0 ∨ n = 1) with rfl | rfl <;> rfl
 have hsz : (tfB n).size <= 12 := by rcases (by omega : n = 0 ∨ n = 1) with rfl | rfl <;> decide
 refine ⟨by have := jdc 8 req full (tfB n); omega, ?_⟩
 have hpr := jdj (.mk 13 n eB [])
 rw [show jab (Nt.mk 13 n eB []).k (Nt.mk 13 n eB []).s = 8 from rfl] at hpr
 have hr : List.drop (n * 1) ([jdT, jhu].map jaS) = jaS (tfB n) :: List.drop (n + 1) ([jdT, jhu].map jaS) := by
  rcases (by omega : n = 0 ∨ n = 1) with rfl | rfl <;> rfl
 rw [hz] at har;generalize tfB n = x at *
 obtain ⟨p, hp⟩ : ∃ p : Int, p = 8 := ⟨_, rfl⟩
 rw [<- hp] at hpr ⊢;unfold jeD;refine ja5 (ja2 jn3 xs0 0) (fun _ _ h => h) Tryz.func123 rfl (by kernel_rfl) rfl (by kernel_rfl) ?_;intro hok;conv => whnf
 (refine ja9 [] rfl (fun _ => hpr) ?_; rintro r rfl; conv => whnf)
 refine ja9 [] rfl (fun _ => har) ?_;rintro r ⟨_, rfl⟩;conv => whnf
 refine ⟨⟨by omega, by omega⟩, ?_⟩;conv => whnf
 generalize hrq : List.drop (Int.toNat (n : Int) * _) _ = rq
 obtain rfl : rq = _ :: _ := hrq.symm.trans hr
 clear hrq;conv => whnf
 by_cases hlt : p < req
 ·rw [if_pos hlt, decide_eq_true hlt];conv => whnf
  refine ⟨by (try simp only [ByteArray.size_append, Nt.s, szD, List.size_toArray, List.length_cons, List.length_nil]); unfold maxLen; omega, ?_⟩;conv => whnf
  refine ⟨by (try simp only [ByteArray.size_append, Nt.s, szD, List.size_toArray, List.length_cons, List.length_nil]); unfold maxLen; omega, ?_⟩;conv => whnf
  rfl
 ·rw [if_neg hlt, decide_eq_false hlt]
  cases full with
  | false =>
   conv => whnf
   rfl
  | true =>
   rw [if_pos rfl];conv => whnf
   by_cases h8 : p < 8
   ·rw [if_pos h8, decide_eq_true h8];conv => whnf
    refine ⟨by (try simp only [ByteArray.size_append, Nt.s, szD, List.size_toArray, List.length_cons, List.length_nil]); unfold maxLen; omega, ?_⟩;conv => whnf
    refine ⟨by (try simp only [ByteArray.size_append, Nt.s, szD, List.size_toArray, List.length_cons, List.length_nil]); unfold maxLen; omega, ?_⟩;conv => whnf
    rfl
   ·rw [if_neg h8, decide_eq_false h8];conv => whnf
    rfl
theorem juf (full : Bool) (m : Nat) (hm : m <= 1000000) (f : Nt) (hf : SH full m f) : SH full (m + 20) (.mk 16 0 eB [f]) := fun req h1 h2 => by
 obtain ⟨hs1, hsp⟩ := hf 1 (by decide) (by decide)
 have e : shN full (.mk 16 0 eB [f]) req = jeD 8 req full (jb5 [wDraw, pLp, shN full f 1, pRp]) := rfl
 rw [e]
 have hpr := jdj (.mk 16 0 eB [f])
 rw [show jab (Nt.mk 16 0 eB [f]).k (Nt.mk 16 0 eB [f]).s = 8 from rfl] at hpr
 have ht : tsz [wDraw, pLp, shN full f 1, pRp] <= m + 10 := by
  rw [jay, jay, jay, jay]
  have a1 : wDraw.size = 4 := rfl
  have a2 : pLp.size = 1 := rfl
  have a3 : pRp.size = 1 := rfl
  have a4 : tsz [] = 0 := rfl
  omega
 have hal := jbn [wDraw, pLp, shN full f 1, pRp] (by omega)
 have hsz := jaZ [wDraw, pLp, shN full f 1, pRp]
 generalize jb5 [wDraw, pLp, shN full f 1, pRp] = x at *;refine ⟨by have := jdc 8 req full x; omega, ?_⟩;generalize shN full f 1 = y at *
 have hr := jtf f
 obtain ⟨p, hp⟩ : ∃ p : Int, p = 8 := ⟨_, rfl⟩
 rw [<- hp] at hpr ⊢;unfold jeD;refine ja5 (ja2 jn3 xs0 0) (fun _ _ h => h) Tryz.func123 rfl (by kernel_rfl) rfl (by kernel_rfl) ?_;intro hok;conv => whnf
 (refine ja9 [] rfl (fun _ => hpr) ?_; rintro r rfl; conv => whnf)
 refine ⟨by simp [Nt.kids], ?_⟩;conv => whnf
 (generalize hrq : jae _ _ (jaR (Nt.mk 16 0 eB [f]).kids) = rq; obtain rfl : rq = ntA f := hrq.symm.trans (hr); clear hrq; conv => whnf)
 (refine ja9 [] rfl (fun _ => hsp) ?_; rintro r rfl; conv => whnf)
 (refine ja9 [0] rfl (fun _ => hal) ?_; rintro r rfl; conv => whnf)
 by_cases hlt : p < req
 ·rw [if_pos hlt, decide_eq_true hlt];conv => whnf
  refine ⟨by (try simp only [ByteArray.size_append, Nt.s, szD, List.size_toArray, List.length_cons, List.length_nil]); unfold maxLen; omega, ?_⟩;conv => whnf
  refine ⟨by (try simp only [ByteArray.size_append, Nt.s, szD, List.size_toArray, List.length_cons, List.length_nil]); unfold maxLen; omega, ?_⟩;conv => whnf
  rfl
 ·rw [if_neg hlt, decide_eq_false hlt]
  cases full with
  | false =>
   conv => whnf
   rfl
  | true =>
   rw [if_pos rfl];conv => whnf
   by_cases h8 : p < 8
   ·rw [if_pos h8, decide_eq_true h8];conv => whnf
    refine ⟨by (try simp only [ByteArray.size_append, Nt.s, szD, List.size_toArray, List.length_cons, List.length_nil]); unfold maxLen; omega, ?_⟩;conv => whnf
    refine ⟨by (try simp only [ByteArray.size_append, Nt.s, szD, List.size_toArray, List.length_cons, List.length_nil]); unfold maxLen; omega, ?_⟩;conv => whnf
    rfl
   ·rw [if_neg h8, decide_eq_false h8];conv => whnf
    rfl
theorem jrZ (full : Bool) (m : Nat) (hm : m <= 1000000) (s : ByteArray) (hs : s.size <= 2) (f : Nt) (hf : SH full m f) : SH full (m + 20) (.mk 17 0 s [f]) := fun req h1 h2 => by
 have hp9 := jfs 17 s
 have e : shN full (.mk 17 0 s [f]) req = jeD (jab 17 s) req full (jb5 [s, shN full f (jab 17 s)]) := rfl
 rw [e]
 have hpr := jdj (.mk 17 0 s [f])
 rw [show jab (Nt.mk 17 0 s [f]).k (Nt.mk 17 0 s [f]).s = jab 17 s from rfl] at hpr;generalize jab 17 s = p at *
 obtain ⟨hs1, hsp⟩ := hf p (by omega) (by omega)
 have ht : tsz [s, shN full f p] <= m + 4 := by
  rw [jay, jay]
  have a4 : tsz [] = 0 := rfl
  omega
 have hal := jbn [s, shN full f p] (by omega)
 have hsz := jaZ [s, shN full f p]
 generalize jb5 [s, shN full f p] = x at *;refine ⟨by have := jdc p req full x; omega, ?_⟩;generalize shN full f p = y at *
 have hr := jtf f
 unfold jeD;refine ja5 (ja2 jn3 xs0 0) (fun _ _ h => h) Tryz.func123 rfl (by kernel_rfl) rfl (by kernel_rfl) ?_;intro hok;conv => whnf
 (refine ja9 [] rfl (fun _ => hpr) ?_; rintro r rfl; conv => whnf)
 refine ⟨by simp [Nt.kids], ?_⟩;conv => whnf
 (generalize hrq : jae _ _ (jaR (Nt.mk 17 0 s [f]).kids) = rq; obtain rfl : rq = ntA f := hrq.symm.trans (hr); clear hrq; conv => whnf)
 (refine ja9 [] rfl (fun _ => hsp) ?_; rintro r rfl; conv => whnf)
 (refine ja9 [0] rfl (fun _ => hal) ?_; rintro r rfl; conv => whnf)
 by_cases hlt : p < req
 ·rw [if_pos hlt, decide_eq_true hlt];conv => whnf
  refine ⟨by (try simp only [ByteArray.size_append, Nt.s, szD, List.size_toArray, List.length_cons, List.length_nil]); unfold maxLen; omega, ?_⟩;conv => whnf
  refine ⟨by (try simp only [ByteArray.size_append, Nt.s, szD, List.size_toArray, List.length_cons, List.length_nil]); unfold maxLen; omega, ?_⟩;conv => whnf
  rfl
 ·rw [if_neg hlt, decide_eq_false hlt]
  cases full with
  | false =>
   conv => whnf
   rfl
  | true =>
   rw [if_pos rfl];conv => whnf
   by_cases h8 : p < 8
   ·rw [if_pos h8, decide_eq_true h8];conv => whnf
    refine ⟨by (try simp only [ByteArray.size_append, Nt.s, szD, List.size_toArray, List.length_cons, List.length_nil]); unfold maxLen; omega, ?_⟩;conv => whnf
    refine ⟨by (try simp only [ByteArray.size_append, Nt.s, szD, List.size_toArray, List.length_cons, List.length_nil]); unfold maxLen; omega, ?_⟩;conv => whnf
    rfl
   ·rw [if_neg h8, decide_eq_false h8];conv => whnf
    rfl
theorem jnR (full : Bool) (m : Nat) (hm : m <= 1000000) (s : ByteArray) (hs : s.size <= 2) (f g : Nt) (hf : SH full m f) (hg : SH full m g) : SH full (2 * m + 20) (.mk 18 0 s [f, g]) := fun req h1 h2 => by
 have hp9 := jfs 18 s
 have hp8 : jab 18 s <= 7 := by
  unfold jab
  repeat' split
  all_goals first | decide | (rename_i h1 h2; exact absurd h2 (by decide)) | contradiction
 have e : shN full (.mk 18 0 s [f, g]) req = jeD (jab 18 s) req full (jb5 [shN full f (if jab 18 s = 4 then 5 else jab 18 s), s, shN full g (jab 18 s + 1)]) := rfl
 rw [e]
 have hpr := jdj (.mk 18 0 s [f, g])
 rw [show jab (Nt.mk 18 0 s [f, g]).k (Nt.mk 18 0 s [f, g]).s = jab 18 s from rfl] at hpr;generalize jab 18 s = p at *
 obtain ⟨q, hq⟩ : ∃ q : Int, (if p = 4 then 5 else p) = q := ⟨_, rfl⟩
 rw [hq]
 have hqr : 0 <= q /\ q <= 9 := by split at hq <;> omega
 obtain ⟨hs1, hsp⟩ := hf q (by omega) (by omega)
 obtain ⟨hs2, hsp2⟩ := hg (p + 1) (by omega) (by omega)
 have ht : tsz [shN full f q, s, shN full g (p + 1)] <= 2 * m + 5 := by
  rw [jay, jay, jay]
  have a4 : tsz [] = 0 := rfl
  omega
 have hal := jbn [shN full f q, s, shN full g (p + 1)] (by omega)
 have hsz := jaZ [shN full f q, s, shN full g (p + 1)]
 generalize jb5 [shN full f q, s, shN full g (p + 1)] = x at *;refine ⟨by have := jdc p req full x; omega, ?_⟩;generalize shN full f q = y at *;generalize shN full g (p + 1) = y2 at *
 have hr := jnH f g
 have hr2 := jnq f g
 unfold jeD;refine ja5 (ja2 jn3 xs0 0) (fun _ _ h => h) Tryz.func123 rfl (by kernel_rfl) rfl (by kernel_rfl) ?_;intro hok;conv => whnf
 (refine ja9 [] rfl (fun _ => hpr) ?_; rintro r rfl; conv => whnf)
 by_cases h4 : p = 4
 ·rw [if_pos h4] at hq;subst hq;rw [decide_eq_true h4];conv => whnf
  refine ⟨by simp [Nt.kids], ?_⟩;conv => whnf
  (generalize hrq : jae _ _ (jaR (Nt.mk 18 0 s [f, g]).kids) = rq; obtain rfl : rq = ntA f := hrq.symm.trans (hr); clear hrq; conv => whnf)
  refine ⟨by simp [Nt.kids], ?_⟩;conv => whnf
  (generalize hrq : jae _ _ (jaR (Nt.mk 18 0 s [f, g]).kids) = rq; obtain rfl : rq = ntA g := hrq.symm.trans (hr2); clear hrq; conv => whnf)
  refine ⟨jaL (by omega), ?_⟩;conv => whnf
  (refine ja9 [] rfl (fun _ => hsp) ?_; rintro r rfl; conv => whnf)
  (refine ja9 [] rfl (fun _ => hsp2) ?_; rintro r rfl; conv => whnf)
  (refine ja9 [0] rfl (fun _ => hal) ?_; rintro r rfl; conv => whnf)
  by_cases hlt : p < req
  ·rw [if_pos hlt, decide_eq_true hlt];conv => whnf
   refine ⟨by (try simp only [ByteArray.size_append, Nt.s, szD, List.size_toArray, List.length_cons, List.length_nil]); unfold maxLen; omega, ?_⟩;conv => whnf
   refine ⟨by (try simp only [ByteArray.size_append, Nt.s, szD, List.size_toArray, List.length_cons, List.length_nil]); unfold maxLen; omega, ?_⟩;conv => whnf
   rfl
  ·rw [if_neg hlt, decide_eq_false hlt]
   cases full with
   | false =>
    conv => whnf
    rfl
   | true =>
    rw [if_pos rfl];conv => whnf
    by_cases h8 : p < 8
    ·rw [if_pos h8, decide_eq_true h8];conv => whnf
     refine ⟨by (try simp only [ByteArray.size_append, Nt.s, szD, List.size_toArray, List.length_cons, List.length_nil]); unfold maxLen; omega, ?_⟩;conv => whnf
     refine ⟨by (try simp only [ByteArray.size_append, Nt.s, szD, List.size_toArray, List.length_cons, List.length_nil]); unfold maxLen; omega, ?_⟩;conv => whnf
     rfl
    ·rw [if_neg h8, decide_eq_false h8];conv => whnf
     rfl
 ·rw [if_neg h4] at hq;subst hq;rw [decide_eq_false h4];conv => whnf
  refine ⟨by simp [Nt.kids], ?_⟩;conv => whnf
  (generalize hrq : jae _ _ (jaR (Nt.mk 18 0 s [f, g]).kids) = rq; obtain rfl : rq = ntA f := hrq.symm.trans (hr); clear hrq; conv => whnf)
  refine ⟨by simp [Nt.kids], ?_⟩;conv => whnf
  (generalize hrq : jae _ _ (jaR (Nt.mk 18 0 s [f, g]).kids) = rq; obtain rfl : rq = ntA g := hrq.symm.trans (hr2); clear hrq; conv => whnf)
  refine ⟨jaL (by omega), ?_⟩;conv => whnf
  (refine ja9 [] rfl (fun _ => hsp) ?_; rintro r rfl; conv => whnf)
  (refine ja9 [] rfl (fun _ => hsp2) ?_; rintro r rfl; conv => whnf)
  (refine ja9 [0] rfl (fun _ => hal) ?_; rintro r rfl; conv => whnf)
  by_cases hlt : p < req
  ·rw [if_pos hlt, decide_eq_true hlt];conv => whnf
   refine ⟨by (try simp only [ByteArray.size_append, Nt.s, szD, List.size_toArray, List.length_cons, List.length_nil]); unfold maxLen; omega, ?_⟩;conv => whnf
   refine ⟨by (try simp only [ByteArray.size_append, Nt.s, szD, List.size_toArray, List.length_cons, List.length_nil]); unfold maxLen; omega, ?_⟩;conv => whnf
   rfl
  ·rw [if_neg hlt, decide_eq_false hlt]
   cases full with
   | false =>
    conv => whnf
    rfl
   | true =>
    rw [if_pos rfl];conv => whnf
    by_cases h8 : p < 8
    ·rw [if_pos h8, decide_eq_true h8];conv => whnf
     refine ⟨by (try simp only [ByteArray.size_append, Nt.s, szD, List.size_toArray, List.length_cons, List.length_nil]); unfold maxLen; omega, ?_⟩;conv => whnf
     refine ⟨by (try simp only [ByteArray.size_append, Nt.s, szD, List.size_toArray, List.length_cons, List.length_nil]); unfold maxLen; omega, ?_⟩;conv => whnf
     rfl
    ·rw [if_neg h8, decide_eq_false h8];conv => whnf
     rfl
def cI : Nat -> Nat
 | 0 => 14
 | d + 1 => 2 * cI d + 20
theorem SH.mono {full : Bool} {m m' : Nat} {f : Nt} (h : SH full m f) (hm : m <= m') : SH full m' f := fun req h1 h2 => ⟨Nat.le_trans (h req h1 h2).1 hm, (h req h1 h2).2⟩
theorem jm4 : ∀ d, 14 <= cI d
 | 0 => Nat.le_refl _
 | d + 1 => by unfold cI; omega
theorem jjt : ∀ s ∈ varL, s.size <= 12 := by decide
theorem jlY : ∀ s ∈ builtL, s.size <= 12 := by decide
theorem jru : ∀ n ∈ litL, 0 <= n /\ n < 1000000000000 := by decide
theorem jun : ∀ s ∈ opL, s.size <= 2 := by decide
theorem jr1 : ∀ s ∈ bolL, s.size <= 2 := by decide
theorem jr6 : ∀ s ∈ cmpL, s.size <= 2 := by decide
theorem jqx (full : Bool) {d : Nat} {f : Nt} (h : EI d f) : cI d <= 1000000 -> SH full (cI d) f := by
 induction h with
 | lit d n h => exact fun _ => (juw full n (jru n h)).mono (jm4 d)
 | var d s h => exact fun _ => (jqw full 14 (.inl rfl) s (jjt s h)).mono (jm4 d)
 | nam d s h => exact fun _ => (jqw full 15 (.inr rfl) s (jlY s h)).mono (jm4 d)
 | drw d f h ih => intro hc; unfold cI at hc ⊢; exact (juf full (cI d) (by omega) f (ih (by omega))).mono (by omega)
 | neg d f h ih => intro hc; unfold cI at hc ⊢; exact (jrZ full (cI d) (by omega) pMinus (by decide) f (ih (by omega))).mono (by omega)
 | bin d s f g hs h1 h2 i1 i2 => intro hc; unfold cI at hc ⊢; exact jnR full (cI d) (by omega) s (jun s hs) f g (i1 (by omega)) (i2 (by omega))
theorem jxg (full : Bool) {d : Nat} {f : Nt} (h : EB d f) : cI (d + 1) <= 1000000 -> SH full (cI (d + 1)) f := by
 induction h with
 | lit d n h => exact fun _ => (jrr full n h).mono (jm4 (d + 1))
 | nt d f h ih => intro hc; have e : cI (d + 1 + 1) = 2 * cI (d + 1) + 20 := rfl; rw [e] at hc ⊢; exact (jrZ full (cI (d + 1)) (by omega) pNot (by decide) f (ih (by omega))).mono (by omega)
 | bin d s f g hs h1 h2 i1 i2 => intro hc; have e : cI (d + 1 + 1) = 2 * cI (d + 1) + 20 := rfl; rw [e] at hc ⊢; exact jnR full (cI (d + 1)) (by omega) s (jr1 s hs) f g (i1 (by omega)) (i2 (by omega))
 | cmp d s f g hs h1 h2 =>
  intro hc
  have hm : cI (d - 1) <= cI d := by
   cases d with
   | zero => exact Nat.le_refl _
   | succ d => rw [Nat.add_sub_cancel]; have e : cI (d + 1) = 2 * cI d + 20 := rfl; omega
  have e : cI (d + 1) = 2 * cI d + 20 := rfl
  rw [e] at hc ⊢;exact jnR full (cI d) (by omega) s (jr6 s hs) f g ((jqx full h1 (by omega)).mono hm) ((jqx full h2 (by omega)).mono hm)
def cmF (l : List ByteArray) : ByteArray := match l with
 | [] => eB
 | x :: l => l.foldl (fun a y => ja1 (a ++ pComma) y) (ja1 eB x)
theorem jfc (x : ByteArray) (l : List ByteArray) (y : ByteArray) : cmF (x :: l ++ [y]) = ja1 (cmF (x :: l) ++ pComma) y := by
 unfold cmF
 show (l ++ [y]).foldl _ _ = _
 rw [List.foldl_append]; rfl
theorem jtB : ∀ (l : List ByteArray), (cmF l).size <= tsz l + l.length := fun l => by
 induction h : l.length generalizing l with
 | zero => rw [List.eq_nil_of_length_eq_zero h]; exact Nat.zero_le _
 | succ n ih =>
  obtain ⟨m, y, rfl⟩ : ∃ m y, l = m ++ [y] := by
   have hne : l ≠ [] := fun e => by rw [e] at h; cases h
   exact ⟨l.dropLast, l.getLast hne, (List.dropLast_concat_getLast hne).symm⟩
  have hm : m.length = n := by simpa using h
  have := ih m hm
  rw [jk6]
  cases m with
  | nil =>
   show (ja1 eB y).size <= _
   have := ja0 eB y
   have e0 : eB.size = 0 := rfl
   omega
  | cons x m =>
   rw [jfc]
   have g := ja0 (cmF (x :: m) ++ pComma) y
   have e1 : pComma.size = 1 := rfl
   rw [ByteArray.size_append] at g;omega
def jb0 (full : Bool) (l : List Nt) : ByteArray := cmF (l.map fun f => shN full f 1) ++ pSemi
theorem jlI (full : Bool) (m : Nat) (hm : m <= 1000000) (l : List Nt) (hl : l.length <= 100) (hf : ∀ f ∈ l, SH full m f) : (jb0 full l).size <= l.length * (m + 2) + 1 /\ Spec Tryz.prog 122 [] [.sl 4 l.length (jaR l), jbI full] fun _ r => r = jaS (jb0 full l) := by
 have hts : ∀ j, j <= l.length -> (cmF ((l.take j).map fun f => shN full f 1)).size <= j * (m + 2) := fun j hj => by
  have h1 := jtB ((l.take j).map fun f => shN full f 1)
  have h2 : tsz ((l.take j).map fun f => shN full f 1) <= j * (m + 1) := by
   clear h1
   induction j with
   | zero => rw [List.take_zero]; exact Nat.zero_le _
   | succ j ih =>
    have := ih (by omega)
    rw [List.take_succ_eq_append_getElem (by omega), List.map_append, List.map_cons, List.map_nil, jk6, Nat.succ_mul]
    have := (hf (l[j]'(by omega)) (List.getElem_mem _) 1 (by decide) (by decide)).1
    omega
  rw [List.length_map, List.length_take, Nat.min_eq_left hj] at h1
  have e : j * (m + 2) = j * (m + 1) + j := by rw [show m + 2 = (m + 1) + 1 by omega, Nat.mul_add, Nat.mul_one]
  omega
 have hbig : l.length * (m + 2) <= 100 * 1000002 := Nat.mul_le_mul hl (by omega)
 have e1 : pSemi.size = 1 := rfl
 have e2 : pComma.size = 1 := rfl
 refine ⟨?_, ?_⟩
 ·unfold jb0;rw [ByteArray.size_append]
  have := hts l.length (Nat.le_refl _)
  rw [List.take_length] at this;omega
 unfold jb0;refine ja5 (ja2 jal xs0 0) (fun _ _ h => h) Tryz.func122 rfl (by kernel_rfl) rfl (by kernel_rfl) ?_;intro _;conv => whnf
 refine jak [0, 1] ?_;conv => whnf
 refine jaJ (fun j : Nat => [(5, jaS (cmF ((l.take j).map fun f => shN full f 1))), (6, .v (.int .i64 j))]) (fun _ => []) (fun _ => []) (fun j => j <= l.length) (fun j => l.length - j) 0 ?_ (Nat.zero_le _) ?_
 ·repeat' constructor
 intro j hj
 have hsz := hts j hj
 have hjm : j * (m + 2) <= l.length * (m + 2) := Nat.mul_le_mul_right _ hj
 conv => whnf
 by_cases hlt : j < l.length
 ·rw [decide_eq_true (show (j : Int) < l.length by omega)]
  have hr := jbr l j hlt
  obtain ⟨hs1, hsp⟩ := hf l[j] (List.getElem_mem hlt) 1 (by decide) (by decide)
  have htk : l.take (j + 1) = l.take j ++ [l[j]] := List.take_succ_eq_append_getElem hlt
  generalize l[j] = f at *;conv => whnf
  by_cases h0 : 0 < j
  ·rw [decide_eq_true (show 0 < (j : Int) by omega)]
   have e : cmF ((l.take (j + 1)).map fun f => shN full f 1) = ja1 (cmF ((l.take j).map fun f => shN full f 1) ++ pComma) (shN full f 1) := by
    rw [htk, List.map_append]
    cases hq : l.take j with
    | nil =>
     have := congrArg List.length hq
     rw [List.length_take, List.length_nil] at this;omega
    | cons a b => exact jfc _ _ _
   generalize cmF ((l.take j).map fun f => shN full f 1) = a at *;generalize shN full f 1 = b at *
   have hg := jfC (a ++ pComma) b (by rw [ByteArray.size_append]; omega) (by omega)
   conv => whnf
   refine ⟨by show a.size + pComma.size <= maxLen; unfold maxLen; omega, ?_⟩;conv => whnf
   refine ⟨by omega, ?_⟩;conv => whnf
   (generalize hrq : jae _ _ (jaR l) = rq; obtain rfl : rq = ntA f := hrq.symm.trans (hr); clear hrq; conv => whnf)
   (refine ja9 [] rfl (fun _ => hsp) ?_; rintro r rfl; conv => whnf)
   (refine ja9 [] rfl (fun _ => hg) ?_; rintro r rfl; conv => whnf)
   refine ⟨jaL (by omega), ?_⟩;conv => whnf
   refine ⟨j + 1, jas [] ?_, hlt, by omega⟩;conv => whnf
   rw [e]
   repeat' constructor
  ·rw [decide_eq_false (show ¬ 0 < (j : Int) by omega)]
   obtain rfl : j = 0 := by omega
   have e : cmF ((l.take (0 + 1)).map fun f => shN full f 1) = ja1 (cmF ((l.take 0).map fun f => shN full f 1)) (shN full f 1) := by
    rw [htk]; rfl
   have hg := jfC (cmF ((l.take 0).map fun f => shN full f 1)) (shN full f 1) (by omega) (by omega)
   generalize cmF ((l.take 0).map fun f => shN full f 1) = a at *;generalize shN full f 1 = b at *;conv => whnf
   refine ⟨by omega, ?_⟩;conv => whnf
   (generalize hrq : jae _ _ (jaR l) = rq; obtain rfl : rq = ntA f := hrq.symm.trans (hr); clear hrq; conv => whnf)
   (refine ja9 [] rfl (fun _ => hsp) ?_; rintro r rfl; conv => whnf)
   (refine ja9 [] rfl (fun _ => hg) ?_; rintro r rfl; conv => whnf)
   refine ⟨jaL (by omega), ?_⟩;conv => whnf
   refine ⟨0 + 1, jas [] ?_, hlt, by omega⟩;conv => whnf
   rw [e]
   repeat' constructor
 ·rw [decide_eq_false (show ¬ (j : Int) < l.length by omega)];rw [show j = l.length by omega, List.take_length] at hsz ⊢;conv => whnf
  refine ⟨by show (cmF _).size + pSemi.size <= maxLen; unfold maxLen; omega, ?_⟩;conv => whnf
  rfl
def jh2 (id : Nat) : Tr := match Nat.beq id 3 with | true => .q 0 3 (.q 1 0 (.q 2 3 (.q 3 0 (.q 4 3 (.alt 5 1 (.alt 6 1 (.alt 7 1 (.q 8 3 (.nil)) (.nil)) (.nil)) (.nil)))))) | false => match Nat.beq id 5 with | true => .q 0 3 (.q 1 0 (.q 2 3 (.q 3 0 (.q 4 3 (.q 6 3 (.q 7 0 (.q 8 3 (.q 9 0 (.q 10 3 (.alt 5 1 (.alt 11 1 (.alt 12 1 (.alt 13 1 (.q 14 3 (.nil)) (.nil)) (.nil)) (.nil)) (.nil))))))))))) | false => match Nat.beq id 7 with | true => .q 0 3 (.q 1 0 (.q 2 3 (.q 3 0 (.q 4 3 (.q 6 3 (.q 7 0 (.q 9 3 (.q 10 0 (.q 11 3 (.q 12 3 (.alt 5 1 (.alt 8 1 (.alt 13 1 (.alt 14 1 (.alt 15 1 (.q 16 3 (.nil)) (.nil)) (.nil)) (.nil)) (.nil)) (.nil)))))))))))) | false => match Nat.beq id 20 with | true => .q 0 3 (.q 1 0 (.q 2 3 (.q 3 0 (.q 4 3 (.q 6 3 (.q 7 0 (.q 8 3 (.q 9 0 (.q 10 3 (.alt 5 1 (.alt 11 1 (.alt 12 1 (.alt 13 1 (.q 14 3 (.nil)) (.nil)) (.nil)) (.nil)) (.nil))))))))))) | false => .nil
def syncB : ByteArray := ⟨#[115, 121, 110, 99, 59]⟩
def stopB : ByteArray := ⟨#[115, 116, 111, 112, 59]⟩
def kid (l : List Nt) (i : Nat) : Nt := l.getD i (.mk 0 0 eB [])
def stB (full : Bool) (k n : Int) (s : ByteArray) (kids : List Nt) (bks : List ByteArray) : ByteArray :=
 if k = 1 then jb5 [s, pEq, jb0 full kids]
 else if k = 3 then jb5 [wWhile, shN full (kid kids 0) 1, bks.getD 1 eB]
 else if k = 4 then jb5 [wSend, shN full (kid kids 0) 1, pComma, bs (jb1 n.toNat), pComma, jb0 full (kids.drop 1)]
 else if k = 5 then jb5 [wTimer, bs (jb1 n.toNat), pSemi]
 else if k = 6 then jb5 [wCancel, bs (jb1 n.toNat), pSemi]
 else if k = 7 then syncB
 else if k = 10 then stopB
 else if k = 8 then jb5 [wReply, jb0 full kids]
 else if k = 9 then jb5 [wFail, jb0 full kids]
 else if 0 < (kid kids 2).kids.length then jb5 [jb5 [wIf, shN full (kid kids 0) 1, bks.getD 1 eB], wElse, bks.getD 2 eB] else jb5 [wIf, shN full (kid kids 0) 1, bks.getD 1 eB]
mutual
def stP (full : Bool) : Nt -> ByteArray
 | .mk k n s kids => stB full k n s kids (jB4 full kids)
def bkP (full : Bool) : Nt -> ByteArray
 | .mk _ _ _ kids => (jzp full kids).foldl ja1 pLb ++ pRb
def jzp (full : Bool) : List Nt -> List ByteArray
 | [] => []
 | f :: l => stP full f :: jzp full l
def jB4 (full : Bool) : List Nt -> List ByteArray
 | [] => []
 | f :: l => bkP full f :: jB4 full l
end
def ST (full : Bool) (m : Nat) (f : Nt) : Prop := (stP full f).size <= m /\ Spec Tryz.prog 90 [] [.agg (ntA f), jbI full] fun _ r => r = jaS (stP full f)
def BK (full : Bool) (m : Nat) (f : Nt) : Prop := (bkP full f).size <= m /\ Spec Tryz.prog 55 [] [.agg (ntA f), jbI full] fun _ r => r = jaS (bkP full f)
theorem jsv (f g h : Nt) : jae 4 0 (jaR [f, g, h]) = ntA f /\ jae 4 1 (jaR [f, g, h]) = ntA g /\ jae 4 2 (jaR [f, g, h]) = ntA h := ⟨jbr [f, g, h] 0 (by simp), jbr [f, g, h] 1 (by simp), jbr [f, g, h] 2 (by simp)⟩
theorem joi (full : Bool) (k : Int) (hk : k = 1 ∨ k = 8 ∨ k = 9) (s : ByteArray) (hs : s.size <= 12) (m : Nat) (hm : m <= 1000000) (l : List Nt) (hl : l.length <= 2) (hf : ∀ f ∈ l, SH full m f) : ST full (2 * m + 40) (.mk k 0 s l) := by
 obtain ⟨hz, hsp⟩ := jlI full m hm l (by omega) hf
 have hlm : l.length * (m + 2) <= 2 * (m + 2) := Nat.mul_le_mul_right _ hl
 have c1 : pEq.size = 1 := rfl
 have c2 : wReply.size = 5 := rfl
 have c3 : wFail.size = 4 := rfl
 rcases hk with rfl | rfl | rfl
 ·have e : stP full (.mk 1 0 s l) = jb5 [s, pEq, jb0 full l] := rfl
  unfold ST;rw [e];generalize jb0 full l = x at *
  have ht : tsz [s, pEq, x] <= 2 * m + 40 := by
   simp only [jay]
   have a0 : tsz [] = 0 := rfl
   omega
  have hal := jbn [s, pEq, x] (by omega)
  have hsz := jaZ [s, pEq, x]
  refine ⟨by omega, ?_⟩;refine ja5 (ja2 jh2 xs0 0) (fun _ _ h => h) Tryz.func90 rfl (by kernel_rfl) rfl (by kernel_rfl) ?_;intro hok;conv => whnf
  (refine ja9 [] rfl (fun _ => hsp) ?_; rintro r rfl; conv => whnf)
  (refine ja9 [0] rfl (fun _ => hal) ?_; rintro r rfl; conv => whnf)
  rfl
 ·have e : stP full (.mk 8 0 s l) = jb5 [wReply, jb0 full l] := rfl
  unfold ST;rw [e];generalize jb0 full l = x at *
  have ht : tsz [wReply, x] <= 2 * m + 40 := by
   simp only [jay]
   have a0 : tsz [] = 0 := rfl
   omega
  have hal := jbn [wReply, x] (by omega)
  have hsz := jaZ [wReply, x]
  refine ⟨by omega, ?_⟩;refine ja5 (ja2 jh2 xs0 0) (fun _ _ h => h) Tryz.func90 rfl (by kernel_rfl) rfl (by kernel_rfl) ?_;intro hok;conv => whnf
  (refine ja9 [] rfl (fun _ => hsp) ?_; rintro r rfl; conv => whnf)
  (refine ja9 [0] rfl (fun _ => hal) ?_; rintro r rfl; conv => whnf)
  rfl
 ·have e : stP full (.mk 9 0 s l) = jb5 [wFail, jb0 full l] := rfl
  unfold ST;rw [e];generalize jb0 full l = x at *
  have ht : tsz [wFail, x] <= 2 * m + 40 := by
   simp only [jay]
   have a0 : tsz [] = 0 := rfl
   omega
  have hal := jbn [wFail, x] (by omega)
  have hsz := jaZ [wFail, x]
  refine ⟨by omega, ?_⟩;refine ja5 (ja2 jh2 xs0 0) (fun _ _ h => h) Tryz.func90 rfl (by kernel_rfl) rfl (by kernel_rfl) ?_;intro hok;conv => whnf
  (refine ja9 [] rfl (fun _ => hsp) ?_; rintro r rfl; conv => whnf)
  (refine ja9 [0] rfl (fun _ => hal) ?_; rintro r rfl; conv => whnf)
  rfl
theorem jqa (full : Bool) (k : Int) (hk : k = 5 ∨ k = 6) (n : Nat) (hn : n < 1000) : ST full 40 (.mk k n eB []) := by
 have hdc := jc3 n (by omega)
 have hds := jb8 n (by omega)
 have c1 : pSemi.size = 1 := rfl
 have c2 : wTimer.size = 5 := rfl
 have c3 : wCancel.size = 6 := rfl
 rcases hk with rfl | rfl
 ·have e : stP full (.mk 5 n eB []) = jb5 [wTimer, bs (jb1 n), pSemi] := rfl
  unfold ST;rw [e];generalize bs (jb1 n) = x at *
  have ht : tsz [wTimer, x, pSemi] <= 40 := by
   simp only [jay]
   have a0 : tsz [] = 0 := rfl
   omega
  have hal := jbn [wTimer, x, pSemi] (by omega)
  have hsz := jaZ [wTimer, x, pSemi]
  refine ⟨by omega, ?_⟩;refine ja5 (ja2 jh2 xs0 0) (fun _ _ h => h) Tryz.func90 rfl (by kernel_rfl) rfl (by kernel_rfl) ?_;intro hok;conv => whnf
  (refine ja9 [] rfl (fun _ => hdc) ?_; rintro r rfl; conv => whnf)
  (refine ja9 [0] rfl (fun _ => hal) ?_; rintro r rfl; conv => whnf)
  rfl
 ·have e : stP full (.mk 6 n eB []) = jb5 [wCancel, bs (jb1 n), pSemi] := rfl
  unfold ST;rw [e];generalize bs (jb1 n) = x at *
  have ht : tsz [wCancel, x, pSemi] <= 40 := by
   simp only [jay]
   have a0 : tsz [] = 0 := rfl
   omega
  have hal := jbn [wCancel, x, pSemi] (by omega)
  have hsz := jaZ [wCancel, x, pSemi]
  refine ⟨by omega, ?_⟩;refine ja5 (ja2 jh2 xs0 0) (fun _ _ h => h) Tryz.func90 rfl (by kernel_rfl) rfl (by kernel_rfl) ?_;intro hok;conv => whnf
  (refine ja9 [] rfl (fun _ => hdc) ?_; rintro r rfl; conv => whnf)
  (refine ja9 [0] rfl (fun _ => hal) ?_; rintro r rfl; conv => whnf)
  rfl
theorem jqJ (full : Bool) (k : Int) (hk : k = 7 ∨ k = 10) : ST full 40 (.mk k 0 eB []) := by
 rcases hk with rfl | rfl
 ·refine ⟨show syncB.size <= 40 by decide, ?_⟩;refine ja5 (ja2 jh2 xs0 0) (fun _ _ h => h) Tryz.func90 rfl (by kernel_rfl) rfl (by kernel_rfl) ?_;intro hok;conv => whnf
  rfl
 ·refine ⟨show stopB.size <= 40 by decide, ?_⟩;refine ja5 (ja2 jh2 xs0 0) (fun _ _ h => h) Tryz.func90 rfl (by kernel_rfl) rfl (by kernel_rfl) ?_;intro hok;conv => whnf
  rfl
theorem juv (full : Bool) (n : Nat) (hn : n < 1000) (m : Nat) (hm : m <= 1000000) (f g h : Nt) (hf : SH full m f) (hg : SH full m g) (hh : SH full m h) : ST full (3 * m + 80) (.mk 4 n eB [f, g, h]) := by
 obtain ⟨hz, hsp2⟩ := jlI full m hm [g, h] (by simp) (fun x hx => by
  simp only [List.mem_cons, List.not_mem_nil, or_false] at hx
  rcases hx with rfl | rfl
  ·exact hg
  ·exact hh)
 obtain ⟨hs1, hsp⟩ := hf 1 (by decide) (by decide)
 have hdc := jc3 n (by omega)
 have hds := jb8 n (by omega)
 have c1 : pComma.size = 1 := rfl
 have c2 : wSend.size = 4 := rfl
 have c3 : [g, h].length = 2 := rfl
 have e : stP full (.mk 4 n eB [f, g, h]) = jb5 [wSend, shN full f 1, pComma, bs (jb1 n), pComma, jb0 full [g, h]] := rfl
 unfold ST;rw [e];generalize jb0 full [g, h] = x at *;generalize bs (jb1 n) = d at *;generalize shN full f 1 = y at *;rw [c3] at hz
 have ht : tsz [wSend, y, pComma, d, pComma, x] <= 3 * m + 80 := by
  simp only [jay]
  have a0 : tsz [] = 0 := rfl
  omega
 have hal := jbn [wSend, y, pComma, d, pComma, x] (by omega)
 have hsz := jaZ [wSend, y, pComma, d, pComma, x]
 refine ⟨by omega, ?_⟩
 have hr := (jsv f g h).1
 have hdr : ((jaR [f, g, h]).drop 4).take 8 = jaR [g, h] := by
  rw [jaE f [g, h], List.drop_left' (by rfl), List.take_of_length_le (by rw [jnS]; simp)]
 refine ja5 (ja2 jh2 xs0 0) (fun _ _ h => h) Tryz.func90 rfl (by kernel_rfl) rfl (by kernel_rfl) ?_;intro hok;conv => whnf
 refine ⟨by simp [Nt.kids], ?_⟩;conv => whnf
 (generalize hrq : jae _ _ (jaR (Nt.mk 4 n eB [f, g, h]).kids) = rq; obtain rfl : rq = ntA f := hrq.symm.trans (hr); clear hrq; conv => whnf)
 refine ⟨by simp [Nt.kids], ?_⟩;conv => whnf
 (refine ja9 [] rfl (fun _ => hsp) ?_; rintro r rfl; conv => whnf)
 (refine ja9 [] rfl (fun _ => hdc) ?_; rintro r rfl; conv => whnf)
 rw [<- hdr] at hsp2
 (refine ja9 [] rfl (fun _ => hsp2) ?_; rintro r rfl; conv => whnf)
 (refine ja9 [0] rfl (fun _ => hal) ?_; rintro r rfl; conv => whnf)
 rfl
theorem juQ (full : Bool) (m : Nat) (hm : m <= 100000000) (c b : Nt) (hc : SH full m c) (hb : BK full m b) : ST full (2 * m + 40) (.mk 3 0 eB [c, b]) := by
 obtain ⟨hs1, hsp⟩ := hc 1 (by decide) (by decide)
 obtain ⟨hs2, hsp2⟩ := hb
 have c2 : wWhile.size = 5 := rfl
 have e : stP full (.mk 3 0 eB [c, b]) = jb5 [wWhile, shN full c 1, bkP full b] := rfl
 unfold ST;rw [e];generalize shN full c 1 = y at *;generalize bkP full b = x at *
 have ht : tsz [wWhile, y, x] <= 2 * m + 40 := by
  simp only [jay]
  have a0 : tsz [] = 0 := rfl
  omega
 have hal := jbn [wWhile, y, x] (by omega)
 have hsz := jaZ [wWhile, y, x]
 refine ⟨by omega, ?_⟩
 have hr := jnH c b
 have hr2 := jnq c b
 refine ja5 (ja2 jh2 xs0 0) (fun _ _ h => h) Tryz.func90 rfl (by kernel_rfl) rfl (by kernel_rfl) ?_;intro hok;conv => whnf
 refine ⟨by simp [Nt.kids], ?_⟩;conv => whnf
 (generalize hrq : jae _ _ (jaR (Nt.mk 3 0 eB [c, b]).kids) = rq; obtain rfl : rq = ntA c := hrq.symm.trans (hr); clear hrq; conv => whnf)
 refine ⟨by simp [Nt.kids], ?_⟩;conv => whnf
 (generalize hrq : jae _ _ (jaR (Nt.mk 3 0 eB [c, b]).kids) = rq; obtain rfl : rq = ntA b := hrq.symm.trans (hr2); clear hrq; conv => whnf)
 (refine ja9 [] rfl (fun _ => hsp) ?_; rintro r rfl; conv => whnf)
 (refine ja9 [] rfl (fun _ => hsp2) ?_; rintro r rfl; conv => whnf)
 (refine ja9 [0] rfl (fun _ => hal) ?_; rintro r rfl; conv => whnf)
 rfl
theorem juo (full : Bool) (m : Nat) (hm : m <= 50000000) (c b d : Nt) (hc : SH full m c) (hb : BK full m b) (hd : BK full m d) : ST full (3 * m + 60) (.mk 2 0 eB [c, b, d]) := by
 obtain ⟨hs1, hsp⟩ := hc 1 (by decide) (by decide)
 obtain ⟨hs2, hsp2⟩ := hb
 obtain ⟨hs3, hsp3⟩ := hd
 have c2 : wIf.size = 2 := rfl
 have c3 : wElse.size = 4 := rfl
 have e : stP full (.mk 2 0 eB [c, b, d]) = if 0 < d.kids.length then jb5 [jb5 [wIf, shN full c 1, bkP full b], wElse, bkP full d] else jb5 [wIf, shN full c 1, bkP full b] := rfl
 unfold ST;rw [e];generalize shN full c 1 = y at *;generalize bkP full b = x at *;generalize bkP full d = z at *
 have ht : tsz [wIf, y, x] <= 2 * m + 10 := by
  simp only [jay]
  have a0 : tsz [] = 0 := rfl
  omega
 have hal := jbn [wIf, y, x] (by omega)
 have hsz := jaZ [wIf, y, x]
 generalize jb5 [wIf, y, x] = v at *
 have ht2 : tsz [v, wElse, z] <= 3 * m + 30 := by
  simp only [jay]
  have a0 : tsz [] = 0 := rfl
  omega
 have hal2 := jbn [v, wElse, z] (by omega)
 have hsz2 := jaZ [v, wElse, z]
 refine ⟨by split <;> omega, ?_⟩
 obtain ⟨hr, hr2, hr3⟩ := jsv c b d
 by_cases hl : 0 < d.kids.length
 ·rw [if_pos hl];refine ja5 (ja2 jh2 xs0 0) (fun _ _ h => h) Tryz.func90 rfl (by kernel_rfl) rfl (by kernel_rfl) ?_;intro hok;conv => whnf
  refine ⟨by simp [Nt.kids], ?_⟩;conv => whnf
  (generalize hrq : jae _ _ (jaR (Nt.mk 2 0 eB [c, b, d]).kids) = rq; obtain rfl : rq = ntA c := hrq.symm.trans (hr); clear hrq; conv => whnf)
  refine ⟨by simp [Nt.kids], ?_⟩;conv => whnf
  (generalize hrq : jae _ _ (jaR (Nt.mk 2 0 eB [c, b, d]).kids) = rq; obtain rfl : rq = ntA b := hrq.symm.trans (hr2); clear hrq; conv => whnf)
  (refine ja9 [] rfl (fun _ => hsp) ?_; rintro r rfl; conv => whnf)
  (refine ja9 [] rfl (fun _ => hsp2) ?_; rintro r rfl; conv => whnf)
  (refine ja9 [0] rfl (fun _ => hal) ?_; rintro r rfl; conv => whnf)
  refine ⟨by simp [Nt.kids], ?_⟩;conv => whnf
  (generalize hrq : jae _ _ (jaR (Nt.mk 2 0 eB [c, b, d]).kids) = rq; obtain rfl : rq = ntA d := hrq.symm.trans (hr3); clear hrq; conv => whnf)
  rw [decide_eq_true (show 0 < (d.kids.length : Int) by omega)];conv => whnf
  refine ⟨by simp [Nt.kids], ?_⟩;conv => whnf
  (generalize hrq : jae _ _ (jaR (Nt.mk 2 0 eB [c, b, d]).kids) = rq; obtain rfl : rq = ntA d := hrq.symm.trans (hr3); clear hrq; conv => whnf)
  (refine ja9 [] rfl (fun _ => hsp3) ?_; rintro r rfl; conv => whnf)
  (refine ja9 [1] rfl (fun _ => hal2) ?_; rintro r rfl; conv => whnf)
  rfl
 ·rw [if_neg hl];refine ja5 (ja2 jh2 xs0 0) (fun _ _ h => h) Tryz.func90 rfl (by kernel_rfl) rfl (by kernel_rfl) ?_;intro hok;conv => whnf
  refine ⟨by simp [Nt.kids], ?_⟩;conv => whnf
  (generalize hrq : jae _ _ (jaR (Nt.mk 2 0 eB [c, b, d]).kids) = rq; obtain rfl : rq = ntA c := hrq.symm.trans (hr); clear hrq; conv => whnf)
  refine ⟨by simp [Nt.kids], ?_⟩;conv => whnf
  (generalize hrq : jae _ _ (jaR (Nt.mk 2 0 eB [c, b, d]).kids) = rq; obtain rfl : rq = ntA b := hrq.symm.trans (hr2); clear hrq; conv => whnf)
  (refine ja9 [] rfl (fun _ => hsp) ?_; rintro r rfl; conv => whnf)
  (refine ja9 [] rfl (fun _ => hsp2) ?_; rintro r rfl; conv => whnf)
  (refine ja9 [0] rfl (fun _ => hal) ?_; rintro r rfl; conv => whnf)
  refine ⟨by simp [Nt.kids], ?_⟩;conv => whnf
  (generalize hrq : jae _ _ (jaR (Nt.mk 2 0 eB [c, b, d]).kids) = rq; obtain rfl : rq = ntA d := hrq.symm.trans (hr3); clear hrq; conv => whnf)
  rw [decide_eq_false (show ¬ 0 < (d.kids.length : Int) by omega)];conv => whnf
  rfl
theorem joF (full : Bool) : ∀ l : List Nt, jzp full l = l.map (stP full)
 | [] => rfl
 | f :: l => by rw [jzp, joF full l]; rfl
def bkL (full : Bool) (l : List Nt) : ByteArray := (l.map (stP full)).foldl ja1 pLb
theorem jnE (full : Bool) (l : List Nt) (f : Nt) : bkL full (l ++ [f]) = ja1 (bkL full l) (stP full f) := by
 unfold bkL;rw [List.map_append, List.foldl_append]; rfl
theorem jsh (full : Bool) (k n : Int) (s : ByteArray) (l : List Nt) : bkP full (.mk k n s l) = bkL full l ++ pRb := by
 rw [bkP, joF]; rfl
set_option maxHeartbeats 1000000 in
theorem jh4 (full : Bool) (m : Nat) (hm : m <= 1000000) (l : List Nt) (hl : l.length <= 3) (hf : ∀ f ∈ l, ST full m f) : BK full (3 * m + 10) (jbc l) := by
 have hsz : ∀ j, j <= l.length -> (bkL full (l.take j)).size <= j * (m + 1) + 1 := fun j hj => by
  induction j with
  | zero =>
   have : pLb.size = 1 := rfl
   rw [List.take_zero]
   show pLb.size <= _
   omega
  | succ j ih =>
   have := ih (by omega)
   rw [List.take_succ_eq_append_getElem (by omega), jnE, Nat.succ_mul]
   have h1 := (hf (l[j]'(by omega)) (List.getElem_mem _)).1
   have h2 := ja0 (bkL full (l.take j)) (stP full (l[j]'(by omega)))
   omega
 have e1 : pRb.size = 1 := rfl
 have hlm : l.length * (m + 1) <= 3 * (m + 1) := Nat.mul_le_mul_right _ hl
 unfold BK jbc;rw [jsh];refine ⟨?_, ?_⟩
 ·rw [ByteArray.size_append]
  have := hsz l.length (Nat.le_refl _)
  rw [List.take_length] at this;omega
 refine ja5 (ja2 jal xs0 0) (fun _ _ h => h) Tryz.func55 rfl (by kernel_rfl) rfl (by kernel_rfl) ?_;intro _;conv => whnf
 refine jak [1, 2] ?_;conv => whnf
 refine jaJ (fun j : Nat => [(5, jaS (bkL full (l.take j))), (6, .v (.int .i64 j))]) (fun _ => [[jao 11, jao 0, jaS eB, .sl 4 l.length (jaR l)]]) (fun _ => []) (fun j => j <= l.length) (fun j => l.length - j) 0 ?_ (Nat.zero_le _) ?_
 ·repeat' constructor
 intro j hj
 have hs := hsz j hj
 have hjm : j * (m + 1) <= l.length * (m + 1) := Nat.mul_le_mul_right _ hj
 conv => whnf
 by_cases hlt : j < l.length
 ·rw [decide_eq_true (show (j : Int) < l.length by omega)]
  have hr := jbr l j hlt
  obtain ⟨hs1, hsp⟩ := hf l[j] (List.getElem_mem hlt)
  have e : bkL full (l.take (j + 1)) = ja1 (bkL full (l.take j)) (stP full l[j]) := by rw [List.take_succ_eq_append_getElem hlt, jnE]
  generalize l[j] = f at *
  have hg := jfC (bkL full (l.take j)) (stP full f) (by omega) (by omega)
  conv => whnf
  refine ⟨by omega, ?_⟩;conv => whnf
  (generalize hrq : jae _ _ (jaR l) = rq; obtain rfl : rq = ntA f := hrq.symm.trans (hr); clear hrq; conv => whnf)
  (refine ja9 [] rfl (fun _ => hsp) ?_; rintro r rfl; conv => whnf)
  (refine ja9 [] rfl (fun _ => hg) ?_; rintro r rfl; conv => whnf)
  refine ⟨jaL (by omega), ?_⟩;conv => whnf
  refine ⟨j + 1, jas [] ?_, hlt, by omega⟩;conv => whnf
  rw [e]
  repeat' constructor
 ·rw [decide_eq_false (show ¬ (j : Int) < l.length by omega)];rw [show j = l.length by omega, List.take_length] at hs ⊢;conv => whnf
  refine ⟨by show (bkL full l).size + pRb.size <= maxLen; unfold maxLen; omega, ?_⟩;conv => whnf
  rfl
def cS : Nat -> Nat
 | 0 => 900
 | d + 1 => 700 + 3 * (3 * cS d + 10)
theorem ST.mono {full : Bool} {m m' : Nat} {f : Nt} (h : ST full m f) (hm : m <= m') : ST full m' f := ⟨Nat.le_trans h.1 hm, h.2⟩
theorem BK.mono {full : Bool} {m m' : Nat} {f : Nt} (h : BK full m f) (hm : m <= m') : BK full m' f := ⟨Nat.le_trans h.1 hm, h.2⟩
theorem jcX : ∀ d, 900 <= cS d
 | 0 => Nat.le_refl _
 | d + 1 => by have := jcX d; unfold cS; omega
theorem jA8 (full : Bool) {d : Nat} {f : Nt} (h : ES d f) : cS d <= 1000000 -> ST full (cS d) f := by
 have i0 : cI 0 = 14 := rfl
 have i1 : cI 1 = 48 := rfl
 have i2 : cI 2 = 116 := rfl
 have i3 : cI 3 = 252 := rfl
 have hI : ∀ {e : Nat} {f : Nt}, EI e f -> e <= 2 -> SH full 252 f := fun {e f} h he => by
  rcases (by omega : e = 0 ∨ e = 1 ∨ e = 2) with rfl | rfl | rfl
  ·exact (jqx full h (by decide)).mono (by decide)
  ·exact (jqx full h (by decide)).mono (by decide)
  ·exact (jqx full h (by decide)).mono (by decide)
 have hB : ∀ {e : Nat} {f : Nt}, EB e f -> e = 1 ∨ e = 2 -> SH full 252 f := fun {e f} h he => by
  rcases he with rfl | rfl
  ·exact (jxg full h (by decide)).mono (by decide)
  ·exact (jxg full h (by decide)).mono (by decide)
 have one : ∀ {f : Nt}, SH full 252 f -> ∀ x ∈ [f], SH full 252 x := fun {f} h x hx => by rw [List.mem_singleton.1 hx]; exact h
 have two : ∀ {f g : Nt}, SH full 252 f -> SH full 252 g -> ∀ x ∈ [f, g], SH full 252 x := fun {f g} h k x hx => by
  rcases List.mem_cons.1 hx with rfl | hx
  ·exact h
  ·rw [List.mem_singleton.1 hx]; exact k
 induction h with
 | asg d e s f hs h he => exact fun _ => (joi full 1 (.inl rfl) s (jjt s hs) 252 (by decide) [f] (by simp) (one (hI h he))).mono (Nat.le_trans (by decide) (jcX d))
 | snd d n f g h hn h1 h2 h3 => exact fun _ => (juv full n (by omega) 252 (by decide) f g h (hI h1 (by decide)) (hI h2 (by decide)) (hI h3 (by decide))).mono (Nat.le_trans (by decide) (jcX d))
 | tim d n hn => exact fun _ => (jqa full 5 (.inl rfl) n (by omega)).mono (Nat.le_trans (by decide) (jcX d))
 | can d n hn => exact fun _ => (jqa full 6 (.inr rfl) n (by omega)).mono (Nat.le_trans (by decide) (jcX d))
 | syn d => exact fun _ => (jqJ full 7 (.inl rfl)).mono (Nat.le_trans (by decide) (jcX d))
 | rep d f g h1 h2 => exact fun _ => (joi full 8 (.inr (.inl rfl)) eB (by decide) 252 (by decide) [f, g] (by simp) (two (hI h1 (by decide)) (hI h2 (by decide)))).mono (Nat.le_trans (by decide) (jcX d))
 | fai d f h1 => exact fun _ => (joi full 9 (.inr (.inr rfl)) eB (by decide) 252 (by decide) [f] (by simp) (one (hI h1 (by decide)))).mono (Nat.le_trans (by decide) (jcX d))
 | stp d => exact fun _ => (jqJ full 10 (.inr rfl)).mono (Nat.le_trans (by decide) (jcX d))
 | whi d c l h1 h2 h3 ih =>
  intro hc
  have e : cS (d + 1) = 700 + 3 * (3 * cS d + 10) := rfl
  rw [e] at hc ⊢
  have hge := jcX d
  have hb := jh4 full (cS d) (by omega) l (by omega) (fun s hs => ih s hs (by omega))
  exact (juQ full (3 * cS d + 10) (by omega) c (jbc l) ((hB h1 (.inl rfl)).mono (by omega)) hb).mono (by omega)
 | iff d c l m h1 h2 h3 h4 h5 ih1 ih2 =>
  intro hc
  have e : cS (d + 1) = 700 + 3 * (3 * cS d + 10) := rfl
  rw [e] at hc ⊢
  have hge := jcX d
  have hb := jh4 full (cS d) (by omega) l (by omega) (fun s hs => ih1 s hs (by omega))
  have hb2 := jh4 full (cS d) (by omega) m (by omega) (fun s hs => ih2 s hs (by omega))
  exact (juo full (3 * cS d + 10) (by omega) c (jbc l) (jbc m) ((hB h1 (.inr rfl)).mono (by omega)) hb hb2).mono (by omega)
theorem jAg (full : Bool) {b : Nt} (h : EK b) : BK full 300000 b := by
 obtain ⟨k, rfl, h1, h2⟩ := h
 have e2 : cS 2 = 80200 := rfl
 exact (jh4 full (cS 2) (by omega) k h1 (fun s hs => jA8 full (h2 s hs) (by omega))).mono (by omega)
def wMsgS : ByteArray := ⟨#[109, 101, 115, 115, 97, 103, 101, 32]⟩
def wTimS : ByteArray := ⟨#[116, 105, 109, 101, 114, 32]⟩
def hdW (n : Int) : ByteArray := if n = 1 then wRequest else if 10 <= n then wMsgS ++ bs (jb1 (n - 10).toNat) else if 2 <= n then wTimS ++ bs (jb1 (n - 2).toNat) else wStart
def hdN (full : Bool) (h : Int × Nt) : ByteArray := jb5 [wOn, hdW h.1, bkP full h.2]
def HN (full : Bool) (h : Int × Nt) : Prop := (hdN full h).size <= 400000 /\ Spec Tryz.prog 32 [] [.agg (hnA h), jbI full] fun _ r => r = jaS (hdN full h)
theorem jw7 (full : Bool) (h : Int × Nt) (hn : 0 <= h.1 /\ h.1 < 40) (hb : BK full 300000 h.2) : HN full h := by
 obtain ⟨hs1, hsp⟩ := hb
 have hw : (hdW h.1).size <= 20 := by
  unfold hdW
  have a1 : wRequest.size = 7 := rfl
  have a2 : wMsgS.size = 8 := rfl
  have a3 : wTimS.size = 6 := rfl
  have a4 : wStart.size = 5 := rfl
  have d1 := jb8 (h.1 - 10).toNat (by omega)
  have d2 := jb8 (h.1 - 2).toNat (by omega)
  repeat' split
  all_goals (try simp only [ByteArray.size_append]); omega
 have ht : tsz [wOn, hdW h.1, bkP full h.2] <= 350000 := by
  simp only [jay]
  have a0 : tsz [] = 0 := rfl
  have a1 : wOn.size = 2 := rfl
  omega
 have hal := jbn [wOn, hdW h.1, bkP full h.2] (by omega)
 have hsz := jaZ [wOn, hdW h.1, bkP full h.2]
 unfold HN hdN;refine ⟨by omega, ?_⟩;generalize bkP full h.2 = x at *
 obtain ⟨R, hR⟩ : ∃ R, hdW h.1 = R := ⟨_, rfl⟩
 rw [hR] at hal hsz ht hw ⊢;unfold hdW at hR
 have b2 : wMsgS.size = 8 := rfl
 have b3 : wTimS.size = 6 := rfl
 refine ja5 (ja2 jal xs0 0) (fun _ _ h => h) Tryz.func32 rfl (by kernel_rfl) rfl (by kernel_rfl) ?_;intro _;conv => whnf
 by_cases h1 : h.1 = 1
 ·rw [if_pos h1] at hR;subst hR;rw [decide_eq_true h1];conv => whnf
  (refine ja9 [] rfl (fun _ => hsp) ?_; rintro r rfl; conv => whnf)
  (refine ja9 [0] rfl (fun _ => hal) ?_; rintro r rfl; conv => whnf)
  rfl
 rw [if_neg h1] at hR;rw [decide_eq_false h1];conv => whnf
 by_cases h10 : 10 <= h.1
 ·rw [if_pos h10] at hR
  have hdc := jc3 (h.1 - 10).toNat (by omega)
  have d1 := jb8 (h.1 - 10).toNat (by omega)
  rw [show (((h.1 - 10).toNat : Nat) : Int) = h.1 - 10 by omega] at hdc;generalize bs (jb1 (h.1 - 10).toNat) = d at *;subst hR;rw [decide_eq_true h10];conv => whnf
  refine ⟨jaL (by omega), ?_⟩;conv => whnf
  (refine ja9 [] rfl (fun _ => hdc) ?_; rintro r rfl; conv => whnf)
  refine ⟨by show wMsgS.size + d.size <= maxLen; unfold maxLen; omega, ?_⟩;conv => whnf
  (refine ja9 [] rfl (fun _ => hsp) ?_; rintro r rfl; conv => whnf)
  (refine ja9 [0] rfl (fun _ => hal) ?_; rintro r rfl; conv => whnf)
  rfl
 rw [if_neg h10] at hR;rw [decide_eq_false h10];conv => whnf
 by_cases h2 : 2 <= h.1
 ·rw [if_pos h2] at hR
  have hdc := jc3 (h.1 - 2).toNat (by omega)
  have d1 := jb8 (h.1 - 2).toNat (by omega)
  rw [show (((h.1 - 2).toNat : Nat) : Int) = h.1 - 2 by omega] at hdc;generalize bs (jb1 (h.1 - 2).toNat) = d at *;subst hR;rw [decide_eq_true h2];conv => whnf
  refine ⟨jaL (by omega), ?_⟩;conv => whnf
  (refine ja9 [] rfl (fun _ => hdc) ?_; rintro r rfl; conv => whnf)
  refine ⟨by show wTimS.size + d.size <= maxLen; unfold maxLen; omega, ?_⟩;conv => whnf
  (refine ja9 [] rfl (fun _ => hsp) ?_; rintro r rfl; conv => whnf)
  (refine ja9 [0] rfl (fun _ => hal) ?_; rintro r rfl; conv => whnf)
  rfl
 rw [if_neg h2] at hR;subst hR;rw [decide_eq_false h2];conv => whnf
 (refine ja9 [] rfl (fun _ => hsp) ?_; rintro r rfl; conv => whnf)
 (refine ja9 [0] rfl (fun _ => hal) ?_; rintro r rfl; conv => whnf)
 rfl
def naF (l : List ByteArray) : ByteArray := match l with
 | [] => eB
 | x :: l => l.foldl (fun a y => a ++ pComma ++ y) (eB ++ x)
theorem jts (x : ByteArray) (l : List ByteArray) (y : ByteArray) : naF (x :: l ++ [y]) = naF (x :: l) ++ pComma ++ y := by
 unfold naF
 show (l ++ [y]).foldl _ _ = _
 rw [List.foldl_append]; rfl
theorem jtI (l : List ByteArray) (j : Nat) (h : j < l.length) : naF (l.take (j + 1)) = (if 0 < j then naF (l.take j) ++ pComma else naF (l.take j)) ++ l[j] := by
 rw [List.take_succ_eq_append_getElem h]
 by_cases h0 : 0 < j
 ·rw [if_pos h0]
  cases hq : l.take j with
  | nil =>
   have := congrArg List.length hq
   rw [List.length_take, List.length_nil] at this;omega
  | cons a b => exact jts _ _ _
 ·rw [if_neg h0]
  obtain rfl : j = 0 := by omega
  rfl
theorem jom (l : List ByteArray) (hs : ∀ x ∈ l, x.size <= 100) : ∀ j, j <= l.length -> (naF (l.take j)).size <= j * 101
 | 0, _ => by rw [List.take_zero]; exact Nat.zero_le _
 | j + 1, h => by
  have ih := jom l hs j (by omega)
  have := hs _ (List.getElem_mem (show j < l.length by omega))
  have e1 : pComma.size = 1 := rfl
  rw [jtI l j (by omega), ByteArray.size_append]
  split
  ·rw [ByteArray.size_append]; omega
  ·omega
def spB : ByteArray := ⟨#[32]⟩
def nmF (w : ByteArray) (l : List ByteArray) : ByteArray := if naF l = ⟨#[]⟩ then ⟨#[]⟩ else w ++ spB ++ naF l ++ pSemi
theorem job (w : ByteArray) (l : List ByteArray) (hl : l.length <= 20) (hs : ∀ x ∈ l, x.size <= 100) (hw : w.size <= 20) : (nmF w l).size <= 2100 := by
 have h := jom l hs l.length (Nat.le_refl _)
 rw [List.take_length] at h
 have a1 : spB.size = 1 := rfl
 have a2 : pSemi.size = 1 := rfl
 unfold nmF
 split
 ·exact (by decide : (⟨#[]⟩ : ByteArray).size <= 2100)
 ·simp only [ByteArray.size_append]; omega
def jpe (full : Bool) (a : ByteArray) (l : List (Int × Nt)) : ByteArray := l.foldl (fun a h => ja1 a (hdN full h)) a
theorem jrn (full : Bool) (a : ByteArray) (l : List (Int × Nt)) (h : Int × Nt) : jpe full a (l ++ [h]) = ja1 (jpe full a l) (hdN full h) := by
 unfold jpe; rw [List.foldl_append]; rfl
theorem jgZ (full : Bool) (a : ByteArray) (l : List (Int × Nt)) (hl : ∀ h ∈ l, (hdN full h).size <= 400000) : (jpe full a l).size <= a.size + l.length * 400001 := by
 induction l generalizing a with
 | nil => exact Nat.le_add_right _ _
 | cons h l ih =>
  have h1 := ih (ja1 a (hdN full h)) (fun x hx => hl x (List.mem_cons_of_mem _ hx))
  have h2 := ja0 a (hdN full h)
  have h3 := hl h List.mem_cons_self
  have e : jpe full a (h :: l) = jpe full (ja1 a (hdN full h)) l := rfl
  rw [e, List.length_cons, Nat.succ_mul];omega
def prF (u : Ut) : ByteArray := jpe false (nmF wDurable u.du ++ nmF wVolatile u.vo) u.on
def loF (u : Ut) : ByteArray := jpe true (nmF wVolatile u.vo ++ nmF wDurable u.du) u.on.reverse
structure PU6 (u : Ut) : Prop where
 du : u.du.length <= 20 /\ ∀ x ∈ u.du, x.size <= 100
 vo : u.vo.length <= 20 /\ ∀ x ∈ u.vo, x.size <= 100
 on : u.on.length <= 4
 hd : ∀ full, ∀ h ∈ u.on, HN full h
theorem GU.pu {u : Ut} (h : GU u) : PU6 u := by
 obtain ⟨h1, h2, h3, h4, h5⟩ := h
 refine ⟨by rw [h1]; decide, by rw [h2]; decide, by omega, fun full x hx => ?_⟩
 obtain ⟨g1, g2, g3⟩ := h3 x hx
 exact jw7 full x ⟨g1, g2⟩ (jAg full g3)
theorem jsJ {u : Ut} (h : PU6 u) : (prF u).size <= 2000000 /\ (loF u).size <= 2000000 := by
 have n1 := job wDurable u.du h.du.1 h.du.2 (by decide)
 have n2 := job wVolatile u.vo h.vo.1 h.vo.2 (by decide)
 have ho := h.on
 have hm : u.on.length * 400001 <= 4 * 400001 := Nat.mul_le_mul_right _ ho
 have s1 := jgZ false (nmF wDurable u.du ++ nmF wVolatile u.vo) u.on (fun x hx => (h.hd false x hx).1)
 have s2 := jgZ true (nmF wVolatile u.vo ++ nmF wDurable u.du) u.on.reverse (fun x hx => (h.hd true x (List.mem_reverse.1 hx)).1)
 rw [ByteArray.size_append] at s1 s2;rw [List.length_reverse] at s2;unfold prF loF;omega
section
set_option maxRecDepth 100000
end
def jcs (a b : ByteArray) : ByteArray := if a = ⟨#[]⟩ ∨ b = ⟨#[]⟩ ∨ jbu (jby a) = false ∨ jbu (jaq b) = false then ⟨#[]⟩ else ⟨#[32]⟩
theorem jfS {a b : ByteArray} (h : a.data.toList = b.data.toList) : a = b := ByteArray.ext (Array.toList_inj.1 h)
theorem jgp (a b : ByteArray) : (a ++ b).data.toList = a.data.toList ++ b.data.toList := by simp
theorem jeC (a : ByteArray) : a ++ ⟨#[]⟩ = a := jfS (by simp)
theorem juu (a : ByteArray) : ⟨#[]⟩ ++ a = a := jfS (by simp)
theorem jwW {a : ByteArray} : a ≠ ⟨#[]⟩ ↔ a.data.toList ≠ [] := by
 constructor
 ·intro h e; exact h (jfS e)
 ·rintro h rfl; exact h rfl
theorem jgT (a b c : ByteArray) : a ++ b ++ c = a ++ (b ++ c) := jfS (by simp)
theorem jaK (a b : ByteArray) : ja1 a b = a ++ jcs a b ++ b := by
 unfold ja1 jcs
 split
 ·rename_i h; rw [if_pos (.inl h), jeC]
 split
 ·rename_i h; rw [if_pos (.inr (.inl h)), jeC]
 split
 ·rename_i h; rw [if_pos (.inr (.inr (.inl h))), jeC]
 split
 ·rename_i h; rw [if_pos (.inr (.inr (.inr h))), jeC]
 ·rename_i h1 h2 h3 h4
  rw [if_neg (by rintro (h | h | h | h) <;> contradiction)]
theorem jtr {a b : ByteArray} (h : b ≠ ⟨#[]⟩) : a ++ b ≠ ⟨#[]⟩ := by
 rw [jwW] at h ⊢;rw [jgp];intro e;exact h (List.append_eq_nil_iff.1 e).2
theorem jnt {a b : ByteArray} (h : a ≠ ⟨#[]⟩) : a ++ b ≠ ⟨#[]⟩ := by
 rw [jwW] at h ⊢;rw [jgp];intro e;exact h (List.append_eq_nil_iff.1 e).1
theorem jjU (a : ByteArray) : a.size = a.data.toList.length := by rw [Array.length_toList]; rfl
theorem jfM (a : ByteArray) {b : ByteArray} (h : b ≠ ⟨#[]⟩) : jby (a ++ b) = jby b := by
 have hb := jbf h
 unfold jby;rw [jjU] at hb;rw [jjU, jjU, jgp, List.getD_eq_getElem?_getD, List.getD_eq_getElem?_getD, List.length_append, List.getElem?_append_right (by omega)]
 congr 2
 omega
theorem jhz {a : ByteArray} (b : ByteArray) (h : a ≠ ⟨#[]⟩) : jaq (a ++ b) = jaq a := by
 have ha := jbf h
 unfold jaq;rw [jjU] at ha;rw [jgp, List.getD_eq_getElem?_getD, List.getD_eq_getElem?_getD, List.getElem?_append_left ha]
theorem jhO {a b : ByteArray} (h : b ≠ ⟨#[]⟩) : ja1 a b ≠ ⟨#[]⟩ := by rw [jaK]; exact jtr h
theorem jf6 {a b : ByteArray} (h : a ≠ ⟨#[]⟩) : ja1 a b ≠ ⟨#[]⟩ := by rw [jaK, jgT]; exact jnt h
theorem jaH (a b c : ByteArray) (hb : b ≠ ⟨#[]⟩) : ja1 (ja1 a b) c = ja1 a (ja1 b c) := by
 have e1 : jcs (ja1 a b) c = jcs b c := by
  have h1 : jby (ja1 a b) = jby b := by rw [jaK]; exact jfM _ hb
  unfold jcs;rw [h1];simp only [jhO (a := a) hb, hb, false_or]
 have e2 : jcs a (ja1 b c) = jcs a b := by
  have h1 : jaq (ja1 b c) = jaq b := by rw [jaK, jgT]; exact jhz _ hb
  unfold jcs;rw [h1];simp only [jf6 (b := c) hb, hb, false_or]
 rw [jaK (ja1 a b) c, e1, jaK a (ja1 b c), e2, jaK a b, jaK b c];simp only [jgT]
theorem jbD (a b : ByteArray) (h : jbu (jaq b) = false) : ja1 a b = a ++ b := by
 rw [jaK];unfold jcs;rw [if_pos (.inr (.inr (.inr h))), jeC]
theorem jed (a b : ByteArray) (h : jbu (jby a) = false) : ja1 a b = a ++ b := by
 rw [jaK];unfold jcs;rw [if_pos (.inr (.inr (.inl h))), jeC]
theorem jbZ (s b : ByteArray) : ja1 (ja1 (ja1 s ⟨#[40]⟩) b) ⟨#[41]⟩ = ja1 s (⟨#[40]⟩ ++ b ++ ⟨#[41]⟩) := by
 rw [jaH s _ b (by decide), jaH s _ _ (jf6 (by decide)), jed ⟨#[40]⟩ b (by decide), jbD _ ⟨#[41]⟩ (by decide)]
end Go.Proofs.YtmodkpibkkpcdaaGreatDoor.Vm
namespace Go.Proofs.YtmodkpibkkpcdaaGreatDoor.Vm
open Go.RowKit
set_option linter.unusedSimpArgs false
set_option linter.unusedVariables false
section
structure jsp (P : Program) (f : Nat) (ins : List (List A)) (e k n : Nat) (cs args : List A) (post : List (List A) -> Nat -> List A -> A -> Prop) : Prop where
 r : jmx P f ins e k n cs args post
 d : ∀ u, jny (ClD P f u u) ins e k n cs args post fun _ => False
section
variable {c : Cx} {s : S}
theorem js4 {f : Nat} {fn : Func} {x : Code} {ins : List (List A)} {e k n : Nat} {cs args : List A} {post : List (List A) -> Nat -> List A -> A -> Prop} (hc : c.ok) (hq : ∀ ch s, ¬ c.pan ch s) (hf : c.P.funcs[f]? = some fn) (hb : fn.body = some x) (hname : (fn.name == "runtime.NumGoroutine") = false)
  (hn : ins.length = c.np) (hord : jbT c.ord x = true) (h : okL args -> jdU args (fn.ntmps - args.length) fun t => awp c x ⟨t, ins, [.live e k n cs]⟩ (jzw c e k fn.results.toList post)) : jsp c.P f ins e k n cs args post := by
 refine ⟨jan hc (fun ch s h => hq ch s h) hf hb hname hn hord h, fun u w C β vals y xs h0 h1 h2 h3 h4 h5 h6 h7 h8 h9 => ?_⟩;unfold ClD
 refine CallsD.mono (callsD_of_wp hf hb (R := fun e' w' => (∃ (outs : List (List A)) (n' : Nat) (cs' : List A) (r : A) (v y' : Value) (xs' : List Value) (C' : Rd), e' = .returned v /\ post outs n' cs' r /\ Keeps (β ++ (blk y).toList) w w' /\ Sub C C' /\ Sub C' (see w') /\ (∀ ad u, C' ad = some u -> C ad = some u ∨ w.heap.size <= ad.block ∨ blk y = some ad.block) /\ outs.length = β.length ∧
   (∀ (i b : Nat) (cs : List A), β[i]? = some b -> outs[i]? = some cs -> boxAt w' ⟨C', β, [y']⟩ b cs) /\ owR w' e k y' n' xs' /\ A.repC cs' ⟨C', [], []⟩ xs' /\ (∀ b, blk y' = some b -> (∀ o sp, C' ⟨b, o, sp⟩ = none) /\ (w.heap.size <= b ∨ blk y = some b)) /\ r.rep ⟨C', β, [y']⟩ v) ∨
   ∃ (ch : List PanicEntry) (ns : List Nat), e' = .panicked ch /\ False /\ Keeps (β ++ (blk y).toList) w w' /\ ns.length = β.length /\ ∀ (i b n : Nat), β[i]? = some b -> ns[i]? = some n -> boxAt w' ⟨C, β, []⟩ b (List.replicate n .dead)) ?_) fun e m w' hh => hh
 have hinit := initK_iff.1 (h (jbz _ h9))
 have hinit := jb6 hc hord hinit
 have hinv := jgc (nt := fn.ntmps) h0 h1 h2 h3 h4 h5 h6 h7 h8 h9
 unfold Ok OkD at hinit;refine hinit ⟨w, (blk y).toList⟩ C β _ w _ (by rw [<- h4, hn]) hinv (fun ch s' a' w' hpan hi => absurd hpan (hq ch s')) ?_
 have fin : ∀ (s' : S) (a' : Act) (w' : World), (∃ g, jui c e k g fn.results.toList post s') -> Inv [] ⟨w, (blk y).toList⟩ C β s' a' w' -> _ := fun s' a' w' ⟨g, hr⟩ hi => jn6 (w := w) (C := C) (β := β) (s' := s') (a' := a') (w' := w') (fn := fn) (post := post) (y := y) hc (by rw [<- h4, hn]) hr hi
 intro e1 s' a' w' hq hi
 cases e1 with
 | normal => obtain ⟨k1, v, k2, k3⟩ := fin s' a' w' hq hi; exact ⟨k1, v, k2, .inl k3⟩
 | ret => obtain ⟨k1, v, k2, k3⟩ := fin s' a' w' hq hi; exact ⟨k1, v, k2, .inl k3⟩
 | _ => exact hq.elim
@[irreducible] def jzj (P : Program) (f : Nat) (args : List A) (s : S) (K : S -> Prop) : Prop :=
 (∀ vs w, (callFunc f vs).run P w = .ok (.enter f vs) w) ∧
 ∃ (X ids : List Nat) (g e k n : Nat) (cs : List A) (ins : List (List A)) (args' : List A) (post : List (List A) -> Nat -> List A -> A -> Prop), X.Nodup /\ (∀ i ∈ X, i < s.bx.length) /\ (ja3 s.rw ids)[g]? = some (.live e k n cs) ∧
  jez X g (ja3 s.rw ids) (X.map fun i => s.bx.getD i []) = some ins /\ jbH X g (ja3 s.rw ids) args = some args' /\ (okL args' -> jny (ClD P f .returning .returning) ins e k n cs args' post fun _ => False) ∧
  ∀ outs n' cs' r, post outs n' cs' r -> outs.length = X.length -> jin X s.rw.length s.bx X outs fun bx' => jbM (backG X s.rw.length r) fun r' => jaF ((ja3 s.rw ids).set g .gone ++ [.live e k n' cs']) fun rw' => jc7 s bx' rw' K
def jcg (c : Cx) (e k : Nat) (rv : List ResultVar) (post : List (List A) -> Nat -> List A -> A -> Prop) : List (Nat × List A) -> S -> Prop
 | [], s => ∃ g, jui c e k g rv post s
 | (f, args) :: r, s => jzj c.P f args s fun s' => jcg c e k rv post r s'
theorem jiG {w0 : W0} {C0 : Rd} {β0 : List Nat} {e k : Nat} {fn : Func} {post : List (List A) -> Nat -> List A -> A -> Prop} {R : Ending -> World -> Prop} {tmps : Array Value} (hfin : ∀ s' w', (∃ g, jui c e k g fn.results.toList post s') -> Inv [] w0 C0 β0 s' { tmps := tmps, defers := [] } w' -> ∃ v, (results fn tmps).run c.P w' = .ok v w' /\ R (.returned v) w') :
  ∀ (dr : List (Nat × List A)) (ds : List Deferred) (s : S) (E : Env) (w : World), repD dr E ds -> Hp w0 C0 β0 s.bx s.rw w E -> A.repL s.t E tmps.toList -> jcg c e k fn.results.toList post dr s -> Leaves c.P fn tmps R ds .returning w
 | [], ds, s, E, w, hd, hp, ht, h => by
  obtain rfl : ds = [] := hd
  exact hfin s w h ⟨E, hp, ht, rfl⟩
 | (f, args) :: r, ds, s, E, w, ⟨d, ds', cap, hds, htg, hargs, hrest⟩, hp, ht, h => by
  subst hds;unfold jcg jzj at h
  obtain ⟨hcall, X, ids, g, e0, k0, n0, cs0, ins, args', post', hn, hX, hg, hins, hargs', hspec, hk⟩ := h
  obtain ⟨-, hcx⟩ := jog (pan := fun _ _ => False) (Xr := fun _ => true) (K := fun _ s' => jcg c e k fn.results.toList post r s') (Cl := ClD c.P f .returning .returning) ClD.mono hp hargs rfl hn (fun _ _ => rfl) hX hg hins hargs' hspec (fun outs n' cs' r hp hl => hk outs n' cs' r hp hl) (fun ch bx' h _ _ => h.elim)
  obtain ⟨t, da⟩ := d
  simp only at htg hargs hcx
  subst htg;refine leaves_cons (f := f) (args := da ++ cap) (by simp) (by simp [invoke, hcall]) ?_
  have hcx' : CallsD c.P f (da ++ cap) .returning w fun e' m w' => m = .returning /\ ((∃ y, e' = .returned y /\ Left w0 C0 β0 (fun _ => true) s E w (fun _ s' => jcg c e k fn.results.toList post r s') y w') ∨ ∃ (ch : List PanicEntry) (s' : S) (E' : Env), e' = .panicked ch /\ False /\ s'.t = s.t /\ E.le E' /\ Hp w0 C0 β0 s'.bx s'.rw w' E') := hcx
  refine CallsD.mono hcx' ?_;rintro e' m w' ⟨rfl, ⟨y, rfl, ⟨⟨r0, s', E', h1, h2, h3, h4, h5, _⟩⟩⟩ | ⟨ch, s', E', _, h, _⟩⟩
  ·exact jiG hfin r ds' s' E' w' (hrest.mono h3) h4 (by rw [h2]; exact A.repL.mono _ h3 ht) h1
  ·exact h.elim
theorem jbs {f : Nat} {fn : Func} {x : Code} {ins : List (List A)} {e k n : Nat} {cs args : List A} {post : List (List A) -> Nat -> List A -> A -> Prop} (hc : c.ok) (hf : c.P.funcs[f]? = some fn) (hb : fn.body = some x) (hname : (fn.name == "runtime.NumGoroutine") = false)
  (hn : ins.length = c.np) (h : okL args -> jdU args (fn.ntmps - args.length) fun t => OkT c.P c.np (fun _ _ _ => False) (fun dr ex s => (ex = .normal ∨ ex = .ret) /\ jcg c e k fn.results.toList post dr s) [] x ⟨t, ins, [.live e k n cs]⟩) : jmx c.P f ins e k n cs args post := by
 refine ⟨jdu hf hb hname, fun w C β vals y xs h0 h1 h2 h3 h4 h5 h6 h7 h8 h9 => ?_⟩;refine calls_of_wp_defers hf hb ?_
 have hinit := initK_iff.1 (h (jbz _ h9))
 have hinv := jgc (nt := fn.ntmps) h0 h1 h2 h3 h4 h5 h6 h7 h8 h9
 unfold OkT at hinit;refine hinit ⟨w, (blk y).toList⟩ C β _ w _ (by rw [<- h4, hn]) hinv (fun dr ch s' a' w' hl _ => hl.elim) (fun dr ex s' a' w' hl ⟨E, hp, ht, hd⟩ => ?_)
 have key := jiG (c := c) (e := e) (k := k) (fn := fn) (post := post) (tmps := a'.tmps) (R := fun e' w' => (∃ (outs : List (List A)) (n' : Nat) (cs' : List A) (r : A) (v y' : Value) (xs' : List Value) (C' : Rd), e' = .returned v /\ post outs n' cs' r /\ Keeps (β ++ (blk y).toList) w w' /\ Sub C C' /\ Sub C' (see w') /\ (∀ ad u, C' ad = some u -> C ad = some u ∨ w.heap.size <= ad.block ∨ blk y = some ad.block) /\ outs.length = β.length ∧
   (∀ (i b : Nat) (cs : List A), β[i]? = some b -> outs[i]? = some cs -> boxAt w' ⟨C', β, [y']⟩ b cs) /\ owR w' e k y' n' xs' /\ A.repC cs' ⟨C', [], []⟩ xs' /\ (∀ b, blk y' = some b -> (∀ o sp, C' ⟨b, o, sp⟩ = none) /\ (w.heap.size <= b ∨ blk y = some b)) /\ r.rep ⟨C', β, [y']⟩ v) ∨
   ∃ (ch : List PanicEntry) (ns : List Nat), e' = .panicked ch /\ False /\ Keeps (β ++ (blk y).toList) w w' /\ ns.length = β.length /\ ∀ (i b n : Nat), β[i]? = some b -> ns[i]? = some n -> boxAt w' ⟨C, β, []⟩ b (List.replicate n .dead))
  (fun s2 w2 ⟨g, hr⟩ hi => by
   obtain ⟨-, v, q1, q2⟩ := jn6 (w := w) (C := C) (β := β) (fn := fn) (post := post) (y := y) hc (by rw [<- h4, hn]) hr hi
   exact ⟨v, q1, .inl q2⟩) dr a'.defers s' E w' hd hp ht hl.2
 rcases hl.1 with rfl | rfl
 ·exact key
 ·exact key
end
section
variable {c : Cx} {P : Program} {np : Nat} {pt : List (Nat × List A) -> List PanicEntry -> S -> Prop} {qt : List (Nat × List A) -> Exit -> S -> Prop} {dr : List (Nat × List A)} {s : S}
theorem jcZ {x y : Code} (h : OkT P np pt (fun dr' e s' => tQ P np pt qt dr' y e s') dr x s) : OkT P np pt qt dr (.seq x y) s := by
 unfold OkT at h ⊢;intro w0 C0 β0 a w Q hn hi hx hk;refine wp_seq (h w0 C0 β0 a w _ hn hi (fun dr' ch s' a' w' h1 h2 => hx dr' ch s' a' w' h1 h2) fun dr' e s' a' w' h1 h2 => ?_)
 cases e with
 | normal =>
  have h1 : OkT P np pt qt dr' y s' := h1
  unfold OkT at h1;exact h1 w0 C0 β0 a' w' Q hn h2 hx hk
 | _ => exact hk dr' _ _ _ _ h1 h2
theorem jbY {b : Operand} {x y : Code} (hb : ev s b = .v (.bool true)) (h : OkT P np pt qt dr x s) : OkT P np pt qt dr (.cond b x y) s := by
 unfold OkT at h ⊢;rintro w0 C0 β0 a w Q hn ⟨E, hp, ht, hd⟩ hx hk
 have hv := (jd3 ht hb).1
 exact wp_cond_split hv (fun _ => h w0 C0 β0 a w Q hn ⟨E, hp, ht, hd⟩ hx hk) (fun e => by cases e)
def jzc (s : S) (ids : List Nat) (fo : Operand) (xs : List Operand) (K : Nat -> List A -> S -> Prop) : Prop :=
 match s with
 | ⟨t, bx, rw⟩ => jaF (ja3 rw ids) fun rw' => jgF (jjN rw') t fun t' => jnd rw' bx fun bx' => match ev ⟨t', bx', rw'⟩ fo with
  | .clo f caps => jgF (ev ⟨t', bx', rw'⟩) xs fun l => K f (l ++ caps) ⟨t', bx', rw'⟩
  | _ => False
theorem jbb {id : Nat} {l : List Oper} {od : Oper} {fo : Operand} {xs : Array Operand} {ts : Array TypeId} (ids : List Nat) (hc : c.ok) (hdr : ∃ n, jcl n dr = true) (hp : ∀ ch s', c.pan ch s' -> pt dr ch s') (hop : od.op = .defer ⟨.value fo, xs, ts⟩) (hg : od.guard = none) (hd : od.dst = none)
  (h : jmt c (l ++ [od]) l s fun s' => jzc s' ids fo xs.toList fun f args s'' => qt ((f, args) :: dr) .normal s'') : OkT c.P c.np pt qt dr (.region id (l ++ [od]).toArray false) s := by
 unfold OkT;intro w0 C0 β0 a w Q hn hi hx hk;refine wp_region_lit (jji (l2 := [od]) (Q := Q) hc hdr (fun ch s' a' w' h1 h2 => hx dr ch s' a' w' (hp ch s' h1) h2) hi h fun s' a' w' h1 h2 => ?_)
 refine wpList_step fun Kc hKc => ?_
 rw [if_pos (by simp [Region.wanted, hg])]
 obtain ⟨t, bx, rw'⟩ := s'
 unfold jzc at h1
 simp only at h1
 rw [jaz, jax, jfH] at h1
 have hle : Le (β0.length) ⟨t, bx, rw'⟩ _ := (jqC (np := β0.length) (s := ⟨t, bx, rw'⟩) ids).trans jrW
 -- publishing keeps what is deferred
 obtain ⟨E, hpp, ht, hdd⟩ := h2
 obtain ⟨C', hp1, le1⟩ := hpp.pubs ids
 have ht1 := jfo (E := ⟨C', E.β, E.ρ⟩) hp1 (A.repL.mono _ le1 ht)
 have hd1 := hdd.mono le1
 have hp2 : Hp w0 C0 β0 (bx.map fun c => c.map (jjN (ja3 rw' ids))) (ja3 rw' ids) w' ⟨C', E.β, E.ρ⟩ := by
  refine ⟨hp1.sub, hp1.base, hp1.fresh, hp1.bp, hp1.bnd, hp1.bC, by simpa using hp1.bl, fun i b cs h1 h2 => ?_, hp1.rl, hp1.rws, hp1.rC, hp1.rd, hp1.rs, hp1.keep, hp1.gk⟩;rw [List.getElem?_map, Option.map_eq_some_iff] at h2
  obtain ⟨c0, h2, rfl⟩ := h2
  obtain ⟨T', arr, h3, h4⟩ := hp1.bxs i b c0 h1 h2
  exact ⟨T', arr, h3, h4.map (jjN (ja3 rw' ids)) (fun l us k => jfo (E := ⟨C', E.β, E.ρ⟩) hp1 k) rfl (fun t => rfl) fun a t e => by
   unfold jjN at e
   split at e
   ·split at e <;> cases e
   ·exact e⟩
 split at h1
 ·rename_i f caps hev
  rw [jax] at h1
  have hf := jaj (s := ⟨t.map (jjN (ja3 rw' ids)), bx.map fun c => c.map (jjN (ja3 rw' ids)), ja3 rw' ids⟩) ht1 fo
  rw [hev] at hf;unfold A.rep at hf
  obtain ⟨us, hf, hcaps⟩ := hf
  have hrun : (execOp a'.eval od).run c.P w' = .ok (.defer { target := .fn (.func f) us, args := xs.map a'.eval }) w' := by simp [execOp, hop, resolve, Deferred.ofValue, hf, Result.andThen]
  unfold Oper.wp;rw [hrun, Oper.upon_defer];rw [hd];refine hKc _ _ (hk _ _ _ _ _ h1 ⟨⟨C', E.β, E.ρ⟩, hp2, ht1, { target := .fn (.func f) us, args := xs.map a'.eval }, a'.defers, us, rfl, rfl, ?_, hd1⟩)
  have := A.repL_append (jcP (s := ⟨t.map (jjN (ja3 rw' ids)), bx.map fun c => c.map (jjN (ja3 rw' ids)), ja3 rw' ids⟩) ht1 xs.toList) hcaps
  simpa using this
 ·exact h1.elim
end
theorem jil {P : Program} {f : Nat} {args args' : List A} {s : S} {K : S -> Prop} {post : List (List A) -> Nat -> List A -> A -> Prop} (i g m : Nat) (ids : List Nat) (hm : s.rw.length = m) {e k n : Nat} {cs c0 c1 : List A} (hi : s.bx[i]? = some c0) (hg : (ja3 s.rw ids)[g]? = some (.live e k n cs)) (h1 : jbH [i] g (ja3 s.rw ids) c0 = some c1) (h2 : jbH [i] g (ja3 s.rw ids) args = some args') (hs : jsp P f [c1] e k n cs args' post)
  (hk : ∀ o n' cs' r, post [o] n' cs' r -> jin [i] m s.bx [i] [o] fun bx' => jbM (backG [i] m r) fun r' => jaF ((ja3 s.rw ids).set g .gone ++ [.live e k n' cs']) fun rw' => jc7 s bx' rw' K) : jzj P f args s K := by
 subst hm;unfold jzj
 have hil := (List.getElem?_eq_some_iff.1 hi).1
 refine ⟨hs.r.1, [i], ids, g, e, k, n, cs, [c1], args', post, by simp, by simpa using hil, hg, ?_, h2, fun _ => hs.d .returning, fun outs n' cs' r hp hl => ?_⟩
 ·have : s.bx.getD i [] = c0 := by simp [List.getD_eq_getElem?_getD, hi]
  simp only [List.map_cons, List.map_nil, this, jez, h1]
 ·obtain ⟨o, rfl⟩ : ∃ o, outs = [o] := List.length_eq_one_iff.1 (by simpa using hl)
  exact hk o n' cs' r hp
end
end Go.Proofs.YtmodkpibkkpcdaaGreatDoor.Vm
namespace Go.Proofs.YtmodkpibkkpcdaaGreatDoor.Vm
open Go.RowKit Go.Shelf
set_option linter.unusedSimpArgs false
set_option linter.unusedVariables false
set_option maxRecDepth 100000
theorem jl4 (c : UInt8) : Spec Tryz.prog 84 [] [.v (.int .u8 (c.toNat : Int))] fun _ r => r = jbI (jbu c) := by
 have hm : 0 <= (c.toNat : Int) /\ (c.toNat : Int) <= 255 := by have := c.toNat_lt; omega
 unfold jbu isL isD;generalize (c.toNat : Int) = n at *;refine ja5 (ja2 jal xs0 0) (fun _ _ h => h) Tryz.func84 rfl (by kernel_rfl) rfl (by kernel_rfl) ?_;intro _;conv => whnf
 by_cases h1 : 97 <= n
 ·rw [decide_eq_true h1];conv => whnf
  by_cases h2 : n <= 122
  ·rw [decide_eq_true h2];conv => whnf
   rfl
  ·rw [decide_eq_false h2];conv => whnf
   rw [decide_eq_true (show 48 <= n by omega)];conv => whnf
   rw [decide_eq_false (show ¬ n <= 57 by omega)];conv => whnf
   rfl
 ·rw [decide_eq_false h1];conv => whnf
  by_cases h3 : 48 <= n
  ·rw [decide_eq_true h3];conv => whnf
   rcases Decidable.em (n <= 57) with h4 | h4
   ·rw [decide_eq_true h4];conv => whnf
    rfl
   ·rw [decide_eq_false h4];conv => whnf
    rfl
  ·rw [decide_eq_false h3];conv => whnf
   rfl
def PrT : Nat := 94
theorem jhB : liesAt Tryz.prog Tryz.prog.depth PrT (2 / Tryz.prog.cellsOf PrT) 0 92 1 = true := by kernel_rfl
abbrev joS (f : Nat) (ins : List (List A)) (s : ByteArray) (args : List A) (post : List (List A) -> ByteArray -> A -> Prop) : Prop :=
 jsp Tryz.prog f ins 5 0 s.size [.v (.string s)] args fun o n cs r => ∃ s', n = s'.size /\ cs = [.v (.string s')] /\ post o s' r
def jkp (s : ByteArray) (l : List ByteArray) : ByteArray := l.foldl ja1 s
theorem jpK (s : ByteArray) (l : List ByteArray) (j : Nat) (h : j < l.length) : jkp s (l.take (j + 1)) = ja1 (jkp s (l.take j)) l[j] := by
 unfold jkp;rw [List.take_succ_eq_append_getElem h, List.foldl_append]; rfl
set_option maxHeartbeats 1000000 in
theorem jjy (s : ByteArray) (l : List ByteArray) (hll : l.length <= 1000000) (hne : ∀ x ∈ l, 0 < x.size) (hz : ∀ j, (jkp s (l.take j)).size <= 1000000000) : joS 49 [[.adr PrT, .own 0]] s [.box 0 0, .sl 1 l.length (txA l)] fun o s' r => o = [[.adr PrT, .own 0]] /\ s' = jkp s l /\ r = .tup [] := by
 obtain ⟨S, hS⟩ : ∃ S : Nat -> ByteArray, ∀ j, S j = jkp s (l.take j) := ⟨_, fun _ => rfl⟩
 have hS0 : S 0 = s := by rw [hS]; rfl
 have hSl : S l.length = jkp s l := by rw [hS, List.take_length]
 have hSz : ∀ j, (S j).size <= 1000000000 := fun j => by rw [hS]; exact hz j
 rw [<- hSl, <- hS0];refine js4 (ja2 jal xs0 1) (fun _ _ h => h) Tryz.func49 rfl (by kernel_rfl) rfl (by kernel_rfl) ?_;intro _;conv => whnf
 refine jak [0, 1, 7, 8] ?_;conv => whnf
 refine jaJ (fun j : Nat => [(9, .v (.int .i64 j))]) (fun _ => [[.adr PrT, .own 0]]) (fun j => [.live 5 0 (S j).size [.v (.string (S j))]]) (fun j => j <= l.length) (fun j => l.length - j) 0 ?_ (Nat.zero_le _) ?_
 ·repeat' constructor
 rintro j hj;conv => whnf
 by_cases hlt : j < l.length
 ·rw [decide_eq_true (show (j : Int) < (l.length : Int) by omega)]
  have hrow : jae 1 j (txA l) = [jaS l[j]] := jbQ jaS l j hlt
  have hx := hne l[j] (List.getElem_mem hlt)
  have hSn : S (j + 1) = ja1 (S j) l[j] := by rw [hS, hS]; exact jpK s l j hlt
  have hz1 := hSz j
  have hz2 := hSz (j + 1)
  rw [hSn] at hz2;generalize l[j] = x at *;conv => whnf
  refine ⟨by omega, ?_⟩;conv => whnf
  (generalize hrq : jae _ _ (txA l) = rq; obtain rfl : rq = [jaS x] := hrq.symm.trans (hrow); clear hrq; conv => whnf)
  refine ja6 0 0 1 [] rfl rfl rfl rfl rfl rfl rfl (fun _ => jpP PrT (S j)) ?_;rintro o n' cs' r ⟨s', rfl, rfl, ho, rfl, rfl⟩;cases ho;conv => whnf
  by_cases e0 : S j = ⟨#[]⟩
  ·have hg : ja1 (S j) x = S j ++ x := by unfold ja1; rw [if_pos e0]
   have hs0 : (S j).size = 0 := by rw [e0]; rfl
   rw [decide_eq_false (show ¬ (0 : Int) < ((S j).size : Int) by omega)];rw [hg, ByteArray.size_append] at hz2;rw [hg] at hSn;conv => whnf
   refine ja6 0 1 2 [] rfl rfl rfl rfl rfl rfl rfl (fun _ => jcQ PrT jhB _ x (by omega)) ?_;rintro o n' cs' r ⟨s', rfl, rfl, ho, hs', rfl⟩;cases ho;conv => whnf
   refine ⟨jaL (by omega), ?_⟩;conv => whnf
   refine ⟨j + 1, jas [2] ?_, hlt, by omega⟩;conv => whnf
   subst hs';rw [show S (j + 1) = _ from hSn]
   repeat' constructor
  ·have hs0 := jbf e0
   have h1 := jl4 (jby (S j))
   have h2 := jl4 (jaq x)
   rw [decide_eq_true (show (0 : Int) < ((S j).size : Int) by omega)]
   have hgl : ja1 (S j) x = if jbu (jby (S j)) = false then S j ++ x else if jbu (jaq x) = false then S j ++ x else S j ++ ⟨#[32]⟩ ++ x := by
    unfold ja1;rw [if_neg e0, if_neg (fun e => by rw [e] at hx; exact absurd hx (by decide))]
   conv => whnf
   refine ja6 0 1 2 [] rfl rfl rfl rfl rfl rfl rfl (fun _ => jgk PrT (S j) hs0) ?_;rintro o n' cs' r ⟨s', rfl, rfl, ho, rfl, rfl⟩;cases ho;conv => whnf
   refine ⟨jaL (by omega), ?_⟩;conv => whnf
   refine ⟨⟨by omega, by omega⟩, ?_⟩;rw [show (S j).data.toList.getD (Int.toNat (((S j).size : Int) - 1)) 0 = jby (S j) from by unfold jby; congr 1; omega];generalize jbu (jby (S j)) = p at *
   (refine ja9 [] rfl (fun _ => h1) ?_; rintro r rfl; conv => whnf)
   cases p
   ·rw [if_pos rfl] at hgl;rw [hgl, ByteArray.size_append] at hz2;rw [hgl] at hSn;conv => whnf
    refine ja6 0 2 3 [] rfl rfl rfl rfl rfl rfl rfl (fun _ => jcQ PrT jhB _ x (by omega)) ?_;rintro o n' cs' r ⟨s', rfl, rfl, ho, hs', rfl⟩;cases ho;conv => whnf
    refine ⟨jaL (by omega), ?_⟩;conv => whnf
    refine ⟨j + 1, jas [3] ?_, hlt, by omega⟩;conv => whnf
    subst hs';rw [show S (j + 1) = _ from hSn]
    repeat' constructor
   ·rw [if_neg (by decide)] at hgl;conv => whnf
    refine ⟨⟨by omega, by omega⟩, ?_⟩;rw [show x.data.toList.getD (Int.toNat 0) 0 = jaq x from rfl];generalize jbu (jaq x) = q at *
    (refine ja9 [] rfl (fun _ => h2) ?_; rintro r rfl; conv => whnf)
    cases q
    ·rw [if_pos rfl] at hgl;rw [hgl, ByteArray.size_append] at hz2;rw [hgl] at hSn;conv => whnf
     refine ja6 0 2 3 [] rfl rfl rfl rfl rfl rfl rfl (fun _ => jcQ PrT jhB _ x (by omega)) ?_;rintro o n' cs' r ⟨s', rfl, rfl, ho, hs', rfl⟩;cases ho;conv => whnf
     refine ⟨jaL (by omega), ?_⟩;conv => whnf
     refine ⟨j + 1, jas [3] ?_, hlt, by omega⟩;conv => whnf
     subst hs';rw [show S (j + 1) = _ from hSn]
     repeat' constructor
    ·rw [if_neg (by decide)] at hgl;rw [hgl, ByteArray.size_append, ByteArray.size_append] at hz2
     have hsp : (⟨#[32]⟩ : ByteArray).size = 1 := rfl
     rw [hsp] at hz2;rw [hgl] at hSn;conv => whnf
     refine ja6 0 2 3 [] rfl rfl rfl rfl rfl rfl rfl (fun _ => jkH PrT jhB (S j) 32 (by omega) (by omega)) ?_;rintro o n' cs' r ⟨s', rfl, rfl, ho, hs', rfl⟩
     obtain rfl : s' = S j ++ ⟨#[32]⟩ := hs'
     cases ho;conv => whnf
     refine ja6 0 3 4 [] rfl rfl rfl rfl rfl rfl rfl (fun _ => jcQ PrT jhB _ x (by rw [ByteArray.size_append, hsp]; omega)) ?_;rintro o n' cs' r ⟨s', rfl, rfl, ho, hs', rfl⟩;cases ho;conv => whnf
     refine ⟨jaL (by omega), ?_⟩;conv => whnf
     refine ⟨j + 1, jas [4] ?_, hlt, by omega⟩;conv => whnf
     subst hs';rw [show S (j + 1) = _ from hSn]
     repeat' constructor
 ·rw [decide_eq_false (show ¬ (j : Int) < (l.length : Int) by omega)]
  obtain rfl : j = l.length := by omega
  conv => whnf
  refine ⟨0, ?_⟩;conv => whnf
  exact ⟨_, rfl, rfl, rfl, rfl, rfl⟩
theorem jtb (s x : ByteArray) : jkp s [x] = ja1 s x := rfl
theorem ju8 (s x y : ByteArray) : jkp s [x, y] = ja1 (ja1 s x) y := rfl
theorem ja4 (s x : ByteArray) (hx : 0 < x.size) (hz : s.size + x.size + 1 <= 1000000000) : joS 49 [[.adr PrT, .own 0]] s [.box 0 0, .sl 1 1 [jaS x]] fun o s' r => o = [[.adr PrT, .own 0]] /\ s' = ja1 s x /\ r = .tup [] := by
 refine jjy s [x] (by simp) (by simpa using hx) fun j => ?_
 have := ja0 s x
 match j with
 | 0 => show s.size <= _; omega
 | j + 1 => show (jkp s ([x].take (j + 1))).size <= _; rw [show [x].take (j + 1) = [x] by simp, jtb]; omega
theorem jbJ (s x y : ByteArray) (hx : 0 < x.size) (hy : 0 < y.size) (hz : s.size + x.size + y.size + 2 <= 1000000000) : joS 49 [[.adr PrT, .own 0]] s [.box 0 0, .sl 1 2 [jaS x, jaS y]] fun o s' r => o = [[.adr PrT, .own 0]] /\ s' = ja1 (ja1 s x) y /\ r = .tup [] := by
 refine jjy s [x, y] (by simp) (by simpa using ⟨hx, hy⟩) fun j => ?_
 have h1 := ja0 s x
 have h2 := ja0 (ja1 s x) y
 match j with
 | 0 => show s.size <= _; omega
 | 1 => show (ja1 s x).size <= _; omega
 | j + 2 => show (jkp s ([x, y].take (j + 2))).size <= _; rw [show [x, y].take (j + 2) = [x, y] by simp, ju8]; omega
theorem jhI (s x y z : ByteArray) (hx : 0 < x.size) (hy : 0 < y.size) (hw : 0 < z.size) (hz : s.size + x.size + y.size + z.size + 3 <= 1000000000) : joS 49 [[.adr PrT, .own 0]] s [.box 0 0, .sl 1 3 [jaS x, jaS y, jaS z]] fun o s' r => o = [[.adr PrT, .own 0]] /\ s' = ja1 (ja1 (ja1 s x) y) z /\ r = .tup [] := by
 refine jjy s [x, y, z] (by simp) (by simpa using ⟨hx, hy, hw⟩) fun j => ?_
 have h1 := ja0 s x
 have h2 := ja0 (ja1 s x) y
 have h3 := ja0 (ja1 (ja1 s x) y) z
 match j with
 | 0 => show s.size <= _; omega
 | 1 => show (ja1 s x).size <= _; omega
 | 2 => show (ja1 (ja1 s x) y).size <= _; omega
 | j + 3 => show (jkp s ([x, y, z].take (j + 3))).size <= _; rw [show [x, y, z].take (j + 3) = [x, y, z] by simp]; show (ja1 (ja1 (ja1 s x) y) z).size <= _; omega
def jfT : Go.Shelf.Ren := ⟨fun | 129 => 173 | 171 => 51 | 243 => 88 | 246 => 119 | 283 => 141 | 284 => 142 | 285 => 143 | 286 => 144 | 317 => 176 | 318 => 177 | 319 => 178 | 320 => 179 | 337 => 191 | 338 => 192 | n => n, fun | 37 => 69 | 46 => 163 | 51 => 193 | 53 => 128 | 171 => 172 | 173 => 175 | 212 => 199 | 213 => 200 | 232 => 217 | 233 => 218 | n => n, fun | 17 => 3 | 18 => 4 | 19 => 5 | n => n⟩
theorem jjL : LaysM.n171 Tryz.prog jfT where
 mixed := by kernel_rfl
 f129 := Tryz.func173.trans (congrArg some (by kernel_rfl))
 f171 := Tryz.func51.trans (congrArg some (by kernel_rfl))
 f243 := Tryz.func88.trans (congrArg some (by kernel_rfl))
 f246 := Tryz.func119.trans (congrArg some (by kernel_rfl))
 f283 := Tryz.func141.trans (congrArg some (by kernel_rfl))
 f284 := Tryz.func142.trans (congrArg some (by kernel_rfl))
 f285 := Tryz.func143.trans (congrArg some (by kernel_rfl))
 f286 := Tryz.func144.trans (congrArg some (by kernel_rfl))
 f317 := Tryz.func176.trans (congrArg some (by kernel_rfl))
 f318 := Tryz.func177.trans (congrArg some (by kernel_rfl))
 f319 := Tryz.func178.trans (congrArg some (by kernel_rfl))
 f320 := Tryz.func179.trans (congrArg some (by kernel_rfl))
 f337 := Tryz.func191.trans (congrArg some (by kernel_rfl))
 f338 := Tryz.func192.trans (congrArg some (by kernel_rfl))
 t0 := Tryz.underlying0
 a0 := Tryz.isAgg0
 z0 := Tryz.sizeOf0
 v0 := Tryz.zeroValue0
 t2 := Tryz.underlying2
 a2 := Tryz.isAgg2
 z2 := Tryz.sizeOf2
 v2 := Tryz.zeroValue2
 t3 := Tryz.underlying3
 a3 := Tryz.isAgg3
 z3 := Tryz.sizeOf3
 v3 := Tryz.zeroValue3
 t4 := Tryz.underlying4
 a4 := Tryz.isAgg4
 z4 := Tryz.sizeOf4
 v4 := Tryz.zeroValue4
 t5 := Tryz.underlying5
 a5 := Tryz.isAgg5
 z5 := Tryz.sizeOf5
 v5 := Tryz.zeroValue5
 t9 := Tryz.underlying9
 a9 := Tryz.isAgg9
 z9 := Tryz.sizeOf9
 v9 := Tryz.zeroValue9
 t20 := Tryz.underlying20
 a20 := Tryz.isAgg20
 z20 := Tryz.sizeOf20
 v20 := Tryz.zeroValue20
 t37 := Tryz.underlying69
 a37 := Tryz.isAgg69
 z37 := Tryz.sizeOf69
 v37 := Tryz.zeroValue69
 t46 := Tryz.underlying163
 a46 := Tryz.isAgg163
 z46 := Tryz.sizeOf163
 v46 := Tryz.zeroValue163
 t51 := Tryz.underlying193
 a51 := Tryz.isAgg193
 z51 := Tryz.sizeOf193
 v51 := Tryz.zeroValue193
 t53 := Tryz.underlying128
 a53 := Tryz.isAgg128
 z53 := Tryz.sizeOf128
 v53 := Tryz.zeroValue128
 t171 := Tryz.underlying172
 a171 := Tryz.isAgg172
 z171 := Tryz.sizeOf172
 v171 := Tryz.zeroValue172
 t173 := Tryz.underlying175
 a173 := Tryz.isAgg175
 z173 := Tryz.sizeOf175
 v173 := Tryz.zeroValue175
 t212 := Tryz.underlying199
 a212 := Tryz.isAgg199
 z212 := Tryz.sizeOf199
 v212 := Tryz.zeroValue199
 t213 := Tryz.underlying200
 a213 := Tryz.isAgg200
 z213 := Tryz.sizeOf200
 t232 := Tryz.underlying217
 a232 := Tryz.isAgg217
 z232 := Tryz.sizeOf217
 v232 := Tryz.zeroValue217
 t233 := Tryz.underlying218
 a233 := Tryz.isAgg218
 z233 := Tryz.sizeOf218
 v233 := Tryz.zeroValue218
 g17 := by kernel_rfl
 g18 := by kernel_rfl
 g19 := by kernel_rfl
 i0 := by kernel_rfl
 i2 := by kernel_rfl
 i3 := by kernel_rfl
 i4 := by kernel_rfl
 i5 := by kernel_rfl
 i9 := by kernel_rfl
 i20 := by kernel_rfl
 i37 := by kernel_rfl
 i46 := by kernel_rfl
 i51 := by kernel_rfl
 i53 := by kernel_rfl
 i171 := by kernel_rfl
 i173 := by kernel_rfl
 i212 := by kernel_rfl
 i232 := by kernel_rfl
 i233 := by kernel_rfl
 m17 := by kernel_rfl
 m18 := by kernel_rfl
 m19 := by kernel_rfl

theorem jz2 {w : World} {C : Rd} (h : Gok C w) (hs : Sub C (see w)) : Lib.TabIs Tryz.prog w "internal/strconv.uint64pow10" .u64 Lib.pow10Tab := by
 have hm : (3, (List.range 20).map fun i => A.v (.int .u64 ((10 ^ i : Nat) : Int))) ∈ globs := by unfold globs; exact List.mem_cons_self
 obtain ⟨cs, T, sp, h1, h2⟩ := h.sz _ hm
 obtain ⟨us, k1, k2⟩ := A.repAt_vals (h.cs _ hm).2
 unfold Lib.TabIs World.var?;rw [show Tryz.prog.globalNamed "internal/strconv.uint64pow10" = some 3 by kernel_rfl, Option.bind_some]
 have h1 : w.heap[3]? = some (.cells cs T sp) := h1
 rw [h1]
 have hv : us = (Lib.pow10Tab.map fun z => Value.int .u64 z) := by
  have e : ((List.range 20).map fun i => A.v (.int .u64 ((10 ^ i : Nat) : Int))) = (Lib.pow10Tab.map fun z => Value.int .u64 z).map A.v := by unfold Lib.pow10Tab; rw [List.map_map, List.map_map]; rfl
  have k1 := A.repC_L k1
  rw [e] at k1;exact jg2 k1
 subst hv
 show some cs = _
 refine congrArg some ?_
 apply Array.ext_getElem?
 intro i
 by_cases hi : i < cs.size
 ·have hi2 : i < 20 := by rw [h2] at hi; simpa using hi
  obtain ⟨u, hu⟩ : ∃ u, (Lib.pow10Tab.map fun z => Value.int .u64 z)[i]? = some u := ⟨_, List.getElem?_eq_getElem (by simp [Lib.pow10Tab, hi2])⟩
  have := hs _ _ (k2 i u hu)
  change w.cell? _ = _ at this
  have e2 : (List.map (fun z => Value.int IntKind.u64 z) Lib.pow10Tab).toArray[i]? = some u := by rw [List.getElem?_toArray]; exact hu
  refine Eq.trans ?_ e2.symm;rw [<- this]
  simp [World.cell?, h1]
 ·rw [Array.getElem?_eq_none (by omega), List.getElem?_toArray, List.getElem?_eq_none (by rw [h2] at hi; simp [Lib.pow10Tab] at hi ⊢; exact hi)]
theorem jri (n : Int) : Spec Tryz.prog 51 [] [jao n] fun _ r => (-9223372036854775808 <= n /\ n <= 9223372036854775807) /\ r = jaS (bs (Lib.itoa n)) := by
 refine ⟨jeP Tryz.func51 rfl (by kernel_rfl), ?_⟩;intro w C β vals hg hsub h2 h3 h4 h5 hv
 obtain ⟨u, us, rfl, h6, h7⟩ := hv
 have e1 := (A.rep_v_iff.1 h6).1
 have hn := okV_int.1 (A.rep_v_iff.1 h6).2
 obtain rfl : us = [] := h7
 subst e1
 have hβ : β = [] := List.eq_nil_of_length_eq_zero (by simpa using h4.symm)
 subst hβ;refine (Any.strconv_Itoa jjL n hn.1 hn.2 w (jz2 hg hsub)).mono ?_;rintro e w' ⟨rfl, k, os, rfl⟩;exact ⟨[], jaS (bs (Lib.itoa n)), _, rfl, ⟨hn, rfl⟩, Keeps.of_ext (Lib.below_grow _ _ (Nat.le_refl _) k os), rfl, fun i b cs hb => by simp at hb, A.rep_v (by show (bs (Lib.itoa n)).size <= maxLen; rw [jbB]; have := Lib.itoa_length_le n hn.1 hn.2; unfold maxLen; omega)⟩
theorem jvi : ∀ (u : Nat), Lib.decDigits u = jb1 u := fun u => by
 induction u using Nat.strongRecOn with
 | _ u ih =>
  rw [Lib.decDigits];unfold jb1
  split
  ·by_cases h0 : u = 0
   ·subst h0; rfl
   ·rw [if_neg h0, jcj h0, show u / 10 = 0 by omega, jdb, List.nil_append, show u % 10 = u by omega]
  ·rw [ih (u / 10) (by omega), if_neg (by omega), jcj (by omega)];unfold jb1;rw [if_neg (by omega)]
theorem jdf (n : Int) (hn : 0 <= n) : Spec Tryz.prog 51 [] [jao n] fun _ r => r = jaS (bs (jb1 n.toNat)) := by
 have e : Lib.itoa n = jb1 n.toNat := by
  unfold Lib.itoa
  split
  ·omega
  ·exact jvi _
 rw [<- e]
 exact (jri n).mono fun _ _ h => h.2
def jwy (b : Bool) : ByteArray := if b = true then ⟨#[116, 114, 117, 101]⟩ else ⟨#[102, 97, 108, 115, 101]⟩
theorem joV (b : Bool) : Spec Tryz.prog 180 [] [jbI b] fun _ r => r = jaS (jwy b) := by
 refine ja5 (ja2 jal xs0 0) (fun _ _ h => h) Tryz.func180 rfl (by kernel_rfl) rfl (by kernel_rfl) ?_;intro _;conv => whnf
 cases b
 ·conv => whnf
  rfl
 ·conv => whnf
  rfl
theorem jqQ (b : Bool) : Spec Tryz.prog 146 [] [jbI b] fun _ r => r = jaS (jwy b) := by
 have h := joV b
 refine ja5 (ja2 jal xs0 0) (fun _ _ h => h) Tryz.func146 rfl (by kernel_rfl) rfl (by kernel_rfl) ?_;intro _;conv => whnf
 (refine ja9 [] rfl (fun _ => h) ?_; rintro r rfl; conv => whnf)
 conv => whnf
 rfl
def opP (s : ByteArray) : Int := if s = pOr then 1 else if s = jep then 2 else if s = jcH then 5 else if s = pMinus then 5 else if s = jbG then 6 else if s = jaM then 6 else 4
theorem jsN (s : ByteArray) : Spec Tryz.prog 145 [] [jaS s] fun _ r => r = jao (opP s) := by
 unfold opP;refine ja5 (ja2 jal xs0 0) (fun _ _ h => h) Tryz.func145 rfl (by kernel_rfl) rfl (by kernel_rfl) ?_;intro _;conv => whnf
 by_cases g1 : s = pOr
 ·rw [if_pos g1, decide_eq_true (p := s = ⟨_⟩) g1];conv => whnf
  rfl
 rw [if_neg g1, decide_eq_false (p := s = ⟨_⟩) g1];conv => whnf
 by_cases g2 : s = jep
 ·rw [if_pos g2, decide_eq_true (p := s = ⟨_⟩) g2];conv => whnf
  rfl
 rw [if_neg g2, decide_eq_false (p := s = ⟨_⟩) g2];conv => whnf
 by_cases g3 : s = jcH
 ·rw [if_pos g3, decide_eq_true (p := s = ⟨_⟩) g3];conv => whnf
  rfl
 rw [if_neg g3, decide_eq_false (p := s = ⟨_⟩) g3];conv => whnf
 by_cases g4 : s = pMinus
 ·rw [if_pos g4, decide_eq_true (p := s = ⟨_⟩) g4];conv => whnf
  rfl
 rw [if_neg g4, decide_eq_false (p := s = ⟨_⟩) g4];conv => whnf
 by_cases g5 : s = jbG
 ·rw [if_pos g5, decide_eq_true (p := s = ⟨_⟩) g5];conv => whnf
  rfl
 rw [if_neg g5, decide_eq_false (p := s = ⟨_⟩) g5];conv => whnf
 by_cases g6 : s = jaM
 ·rw [if_pos g6, decide_eq_true (p := s = ⟨_⟩) g6];conv => whnf
  rfl
 rw [if_neg g6, decide_eq_false (p := s = ⟨_⟩) g6];conv => whnf
 rfl
theorem jte (n : Int) (s : ByteArray) (ks : List Nt) : jab (Nt.mk 18 n s ks).k (Nt.mk 18 n s ks).s = opP s := by
 unfold jab opP
 show (if (18 : Int) = 17 then _ else if (18 : Int) ≠ 18 then _ else _) = _
 rw [if_neg (by decide), if_neg (by decide)];rfl
theorem jhe (s : ByteArray) : ja1 s eB = s := by rw [jaK, show jcs s eB = eB by unfold jcs; rw [if_pos (.inr (.inl rfl))]; rfl]; exact (jeC _).trans (jeC _)
theorem jbp (x : ByteArray) : ja1 eB x = x := by unfold ja1; rw [if_pos (show eB = ⟨#[]⟩ from rfl)]; exact juu x
theorem jgI {x : ByteArray} (h : 0 < x.size) : x ≠ ⟨#[]⟩ := fun e => by rw [e] at h; exact absurd h (by decide)
theorem jbK : ∀ (l : List ByteArray), l ≠ [] -> (∀ x ∈ l, 0 < x.size) -> jb5 l ≠ ⟨#[]⟩ := fun l hl h => by
 have e := List.dropLast_concat_getLast hl
 rw [<- e, jf2];exact jhO (jgI (h _ (List.getLast_mem hl)))
theorem jaT (s : ByteArray) : ∀ (n : Nat) (l : List ByteArray), l.length = n -> (∀ x ∈ l, 0 < x.size) -> jkp s l = ja1 s (jb5 l) := fun n => by
 induction n with
 | zero => intro l hl _; rw [List.eq_nil_of_length_eq_zero hl]; exact (jhe s).symm
 | succ n ih =>
  intro l hl h
  have hne : l ≠ [] := fun e => by rw [e] at hl; cases hl
  have e := List.dropLast_concat_getLast hne
  have hd : ∀ x ∈ l.dropLast, 0 < x.size := fun x hx => h x (List.dropLast_subset l hx)
  have e2 : jkp s l = ja1 (jkp s l.dropLast) (l.getLast hne) := by
   conv => lhs; rw [<- e]
   unfold jkp; rw [List.foldl_append]; rfl
  rw [e2, ih l.dropLast (by rw [List.length_dropLast]; omega) hd]
  conv => rhs; rw [<- e, jf2]
  by_cases h0 : l.dropLast = []
  ·rw [h0]
   show ja1 (ja1 s eB) _ = ja1 s (ja1 eB _)
   rw [jhe, jbp]
  ·exact jaH _ _ _ (jbK _ h0 hd)
def PX (m : Nat) (f : Nt) : Prop := SH false m f /\ (∀ lv, 0 < (shN false f lv).size) /\ ∀ (s : ByteArray) (lv : Int), 0 <= lv -> lv <= 9 -> s.size + m + 10 <= 500000000 -> jll 121 [[.adr PrT, .own 0]] s [.box 0 0, .agg (ntA f), jao lv] fun o s' r => o = [[.adr PrT, .own 0]] /\ s' = ja1 s (shN false f lv) /\ r = .tup []
theorem PX.mono {m m' : Nat} {f : Nt} (h : PX m f) (hm : m <= m') : PX m' f := ⟨h.1.mono hm, h.2.1, fun s lv h0 h9 hs => h.2.2 s lv h0 h9 (by omega)⟩
theorem jes {p lv : Int} {fu : Bool} {b : ByteArray} (h : 0 < b.size) : 0 < (jeD p lv fu b).size := by
 unfold jeD
 repeat' split
 all_goals (try simp only [ByteArray.size_append]); omega
theorem jeb (n : Nat) : 0 < (bs (jb1 n)).size := by
 show 0 < (jb1 n).length
 unfold jb1
 split
 ·decide
 ·rw [jcj (by assumption)]; simp
theorem jcY {p lv : Int} {b : ByteArray} (h : ¬ p < lv) : jeD p lv false b = b := by unfold jeD; rw [if_neg h, if_neg (by decide)]
theorem jbX {p lv : Int} {fu : Bool} {b : ByteArray} (h : p < lv) : jeD p lv fu b = ⟨#[40]⟩ ++ b ++ ⟨#[41]⟩ := by unfold jeD; rw [if_pos h]; rfl
theorem z1c (n : UInt8) : (⟨#[n]⟩ : ByteArray).size = 1 := rfl
theorem jxX (n : Int) (hn : 0 <= n /\ n < 1000000000000) : PX 14 (.mk 12 n eB []) := by
 have e : ∀ lv, shN false (.mk 12 n eB []) lv = jeD 8 lv false (bs (jb1 n.toNat)) := fun _ => rfl
 have hne := jeb n.toNat
 refine ⟨juw false n hn, fun lv => by rw [e]; exact jes hne, fun s lv h0 h9 hs => ?_⟩
 have hd := jdf n hn.1
 have hsz : (bs (jb1 n.toNat)).size <= 12 := jb8 _ (by omega)
 rw [e];generalize bs (jb1 n.toNat) = x at *
 by_cases hlv : 8 < lv
 ·refine jbs (ja2 jal xs0 1) Tryz.func121 rfl (by kernel_rfl) rfl ?_;intro _;conv => whnf
  refine ja7 (ja2 jal xs0 1) (dr := []) ⟨0, rfl⟩ (.inl rfl) (by kernel_rfl) (fun _ _ h => h.elim) ?_;conv => whnf
  refine ja7 (ja2 jal xs0 1) (dr := []) ⟨0, rfl⟩ (.inl rfl) (by kernel_rfl) (fun _ _ h => h.elim) ?_;conv => whnf
  refine ja7 (ja2 jal xs0 1) (dr := []) ⟨0, rfl⟩ (.inl rfl) (by kernel_rfl) (fun _ _ h => h.elim) ?_;conv => whnf
  refine jcZ ?_;refine ja7 (ja2 jal xs0 1) (dr := []) ⟨0, rfl⟩ (.inl rfl) (by kernel_rfl) (fun _ _ h => h.elim) ?_;conv => whnf
  refine jbY (congrArg (fun b => A.v (.bool b)) (decide_eq_true hlv)) ?_;refine ja7 (ja2 jal xs0 1) (dr := []) ⟨0, rfl⟩ (.inl rfl) (by kernel_rfl) (fun _ _ h => h.elim) ?_;conv => whnf
  refine ja6 0 0 2 [1] rfl rfl rfl rfl rfl rfl rfl (fun _ => (ja4 s ⟨#[40]⟩ (by decide) (by rw [z1c]; omega)).r) ?_;rintro o n' cs' r ⟨s1, rfl, rfl, ho, hs1, rfl⟩;cases ho;conv => whnf
  refine jbb (l := [_, _]) [3] (ja2 jal xs0 1) ⟨0, rfl⟩ (fun _ _ h => h.elim) rfl rfl rfl ?_;conv => whnf
  refine jbP (ja2 jal xs0 1) ⟨1, rfl⟩ (.inl rfl) (by kernel_rfl) (fun _ _ h => h.elim) ?_;conv => whnf
  have hz1 : s1.size <= s.size + 2 := by
   have := ja0 s ⟨#[40]⟩
   rw [z1c] at this;rw [hs1]; omega
  (refine ja9 [] rfl (fun _ => hd) ?_; rintro r rfl; conv => whnf)
  refine ja6 0 2 5 [4] rfl rfl rfl rfl rfl rfl rfl (fun _ => (ja4 s1 x hne (by omega)).r) ?_;rintro o n' cs' r ⟨s', rfl, rfl, ho, hs', rfl⟩;cases ho;conv => whnf
  have hz' := ja0 s1 x
  rw [<- hs'] at hz';refine ⟨.inl rfl, ?_⟩;unfold jcg;refine jil 0 5 6 [] rfl rfl rfl rfl rfl (ja4 s' ⟨#[41]⟩ (by decide) (by rw [z1c]; omega)) ?_;rintro o n' cs' r ⟨s9, rfl, rfl, ho, hs9, rfl⟩;cases ho;conv => whnf
  refine ⟨6, ?_⟩;conv => whnf
  exact ⟨_, rfl, rfl, rfl, by rw [jbX hlv, hs9, hs', hs1, jbZ], rfl⟩
 ·refine jan (ja2 jal xs0 1) (fun _ _ h => h) Tryz.func121 rfl (by kernel_rfl) rfl (by kernel_rfl) ?_;intro _;conv => whnf
  rw [decide_eq_false hlv];conv => whnf
  (refine ja9 [] rfl (fun _ => hd) ?_; rintro r rfl; conv => whnf)
  refine ja6 0 0 2 [1] rfl rfl rfl rfl rfl rfl rfl (fun _ => (ja4 s x hne (by omega)).r) ?_;rintro o n' cs' r ⟨s', rfl, rfl, ho, hs', rfl⟩;cases ho;conv => whnf
  refine ⟨2, ?_⟩;conv => whnf
  exact ⟨_, rfl, rfl, rfl, by rw [jcY hlv, hs'], rfl⟩
theorem juX (k : Int) (hk : k = 14 ∨ k = 15) (s0 : ByteArray) (hne : 0 < s0.size) (hsz : s0.size <= 12) : PX 14 (.mk k 0 s0 []) := by
 have e : ∀ lv, shN false (.mk k 0 s0 []) lv = jeD 8 lv false s0 := fun lv => by rcases hk with rfl | rfl <;> rfl
 refine ⟨jqw false k hk s0 hsz, fun lv => by rw [e]; exact jes hne, fun s lv h0 h9 hs => ?_⟩;rw [e];clear e
 rcases hk with rfl | rfl
 ·by_cases hlv : 8 < lv
  ·refine jbs (ja2 jal xs0 1) Tryz.func121 rfl (by kernel_rfl) rfl ?_;intro _;conv => whnf
   refine ja7 (ja2 jal xs0 1) (dr := []) ⟨0, rfl⟩ (.inl rfl) (by kernel_rfl) (fun _ _ h => h.elim) ?_;conv => whnf
   refine ja7 (ja2 jal xs0 1) (dr := []) ⟨0, rfl⟩ (.inl rfl) (by kernel_rfl) (fun _ _ h => h.elim) ?_;conv => whnf
   refine ja7 (ja2 jal xs0 1) (dr := []) ⟨0, rfl⟩ (.inl rfl) (by kernel_rfl) (fun _ _ h => h.elim) ?_;conv => whnf
   refine jcZ ?_;refine ja7 (ja2 jal xs0 1) (dr := []) ⟨0, rfl⟩ (.inl rfl) (by kernel_rfl) (fun _ _ h => h.elim) ?_;conv => whnf
   refine jbY (congrArg (fun b => A.v (.bool b)) (decide_eq_true hlv)) ?_;refine ja7 (ja2 jal xs0 1) (dr := []) ⟨0, rfl⟩ (.inl rfl) (by kernel_rfl) (fun _ _ h => h.elim) ?_;conv => whnf
   refine ja6 0 0 2 [1] rfl rfl rfl rfl rfl rfl rfl (fun _ => (ja4 s ⟨#[40]⟩ (by decide) (by rw [z1c]; omega)).r) ?_;rintro o n' cs' r ⟨s1, rfl, rfl, ho, hs1, rfl⟩;cases ho;conv => whnf
   refine jbb (l := [_, _]) [3] (ja2 jal xs0 1) ⟨0, rfl⟩ (fun _ _ h => h.elim) rfl rfl rfl ?_;conv => whnf
   refine jbP (ja2 jal xs0 1) ⟨1, rfl⟩ (.inl rfl) (by kernel_rfl) (fun _ _ h => h.elim) ?_;conv => whnf
   have hz1 : s1.size <= s.size + 2 := by
    have := ja0 s ⟨#[40]⟩
    rw [z1c] at this;rw [hs1]; omega
   refine ja6 0 2 5 [4] rfl rfl rfl rfl rfl rfl rfl (fun _ => (ja4 s1 s0 hne (by omega)).r) ?_;rintro o n' cs' r ⟨s', rfl, rfl, ho, hs', rfl⟩;cases ho;conv => whnf
   have hz' := ja0 s1 s0
   rw [<- hs'] at hz';refine ⟨.inl rfl, ?_⟩;unfold jcg;refine jil 0 5 6 [] rfl rfl rfl rfl rfl (ja4 s' ⟨#[41]⟩ (by decide) (by rw [z1c]; omega)) ?_;rintro o n' cs' r ⟨s9, rfl, rfl, ho, hs9, rfl⟩;cases ho;conv => whnf
   refine ⟨6, ?_⟩;conv => whnf
   exact ⟨_, rfl, rfl, rfl, by rw [jbX hlv, hs9, hs', hs1, jbZ], rfl⟩
  ·refine jan (ja2 jal xs0 1) (fun _ _ h => h) Tryz.func121 rfl (by kernel_rfl) rfl (by kernel_rfl) ?_;intro _;conv => whnf
   rw [decide_eq_false hlv];conv => whnf
   refine ja6 0 0 2 [1] rfl rfl rfl rfl rfl rfl rfl (fun _ => (ja4 s s0 hne (by omega)).r) ?_;rintro o n' cs' r ⟨s', rfl, rfl, ho, hs', rfl⟩;cases ho;conv => whnf
   refine ⟨2, ?_⟩;conv => whnf
   exact ⟨_, rfl, rfl, rfl, by rw [jcY hlv, hs'], rfl⟩
 ·by_cases hlv : 8 < lv
  ·refine jbs (ja2 jal xs0 1) Tryz.func121 rfl (by kernel_rfl) rfl ?_;intro _;conv => whnf
   refine ja7 (ja2 jal xs0 1) (dr := []) ⟨0, rfl⟩ (.inl rfl) (by kernel_rfl) (fun _ _ h => h.elim) ?_;conv => whnf
   refine ja7 (ja2 jal xs0 1) (dr := []) ⟨0, rfl⟩ (.inl rfl) (by kernel_rfl) (fun _ _ h => h.elim) ?_;conv => whnf
   refine ja7 (ja2 jal xs0 1) (dr := []) ⟨0, rfl⟩ (.inl rfl) (by kernel_rfl) (fun _ _ h => h.elim) ?_;conv => whnf
   refine jcZ ?_;refine ja7 (ja2 jal xs0 1) (dr := []) ⟨0, rfl⟩ (.inl rfl) (by kernel_rfl) (fun _ _ h => h.elim) ?_;conv => whnf
   refine jbY (congrArg (fun b => A.v (.bool b)) (decide_eq_true hlv)) ?_;refine ja7 (ja2 jal xs0 1) (dr := []) ⟨0, rfl⟩ (.inl rfl) (by kernel_rfl) (fun _ _ h => h.elim) ?_;conv => whnf
   refine ja6 0 0 2 [1] rfl rfl rfl rfl rfl rfl rfl (fun _ => (ja4 s ⟨#[40]⟩ (by decide) (by rw [z1c]; omega)).r) ?_;rintro o n' cs' r ⟨s1, rfl, rfl, ho, hs1, rfl⟩;cases ho;conv => whnf
   refine jbb (l := [_, _]) [3] (ja2 jal xs0 1) ⟨0, rfl⟩ (fun _ _ h => h.elim) rfl rfl rfl ?_;conv => whnf
   refine jbP (ja2 jal xs0 1) ⟨1, rfl⟩ (.inl rfl) (by kernel_rfl) (fun _ _ h => h.elim) ?_;conv => whnf
   have hz1 : s1.size <= s.size + 2 := by
    have := ja0 s ⟨#[40]⟩
    rw [z1c] at this;rw [hs1]; omega
   refine ja6 0 2 5 [4] rfl rfl rfl rfl rfl rfl rfl (fun _ => (ja4 s1 s0 hne (by omega)).r) ?_;rintro o n' cs' r ⟨s', rfl, rfl, ho, hs', rfl⟩;cases ho;conv => whnf
   have hz' := ja0 s1 s0
   rw [<- hs'] at hz';refine ⟨.inl rfl, ?_⟩;unfold jcg;refine jil 0 5 6 [] rfl rfl rfl rfl rfl (ja4 s' ⟨#[41]⟩ (by decide) (by rw [z1c]; omega)) ?_;rintro o n' cs' r ⟨s9, rfl, rfl, ho, hs9, rfl⟩;cases ho;conv => whnf
   refine ⟨6, ?_⟩;conv => whnf
   exact ⟨_, rfl, rfl, rfl, by rw [jbX hlv, hs9, hs', hs1, jbZ], rfl⟩
  ·refine jan (ja2 jal xs0 1) (fun _ _ h => h) Tryz.func121 rfl (by kernel_rfl) rfl (by kernel_rfl) ?_;intro _;conv => whnf
   rw [decide_eq_false hlv];conv => whnf
   refine ja6 0 0 2 [1] rfl rfl rfl rfl rfl rfl rfl (fun _ => (ja4 s s0 hne (by omega)).r) ?_;rintro o n' cs' r ⟨s', rfl, rfl, ho, hs', rfl⟩;cases ho;conv => whnf
   refine ⟨2, ?_⟩;conv => whnf
   exact ⟨_, rfl, rfl, rfl, by rw [jcY hlv, hs'], rfl⟩
theorem jvo (n : Nat) (hn : n < 2) : PX 14 (.mk 13 n eB []) := by
 have e : ∀ lv, shN false (.mk 13 n eB []) lv = jeD 8 lv false (tfB n) := fun _ => rfl
 have e2 : tfB n = jwy (decide (n = 1)) := by rcases (by omega : n = 0 ∨ n = 1) with rfl | rfl <;> rfl
 have hne : 0 < (tfB n).size := by rcases (by omega : n = 0 ∨ n = 1) with rfl | rfl <;> decide
 have hsz : (tfB n).size <= 12 := by rcases (by omega : n = 0 ∨ n = 1) with rfl | rfl <;> decide
 refine ⟨jrr false n hn, fun lv => by rw [e]; exact jes hne, fun s lv h0 h9 hs => ?_⟩
 have hd := jqQ (decide (n = 1))
 rw [<- e2] at hd;rw [e];clear e
 rcases (by omega : n = 0 ∨ n = 1) with rfl | rfl
 ·rw [show decide ((0 : Nat) = 1) = false from rfl] at hd;clear e2;generalize tfB ((0 : Nat) : Int) = x at *
  by_cases hlv : 8 < lv
  ·refine jbs (ja2 jal xs0 1) Tryz.func121 rfl (by kernel_rfl) rfl ?_;intro _;conv => whnf
   refine ja7 (ja2 jal xs0 1) (dr := []) ⟨0, rfl⟩ (.inl rfl) (by kernel_rfl) (fun _ _ h => h.elim) ?_;conv => whnf
   refine ja7 (ja2 jal xs0 1) (dr := []) ⟨0, rfl⟩ (.inl rfl) (by kernel_rfl) (fun _ _ h => h.elim) ?_;conv => whnf
   refine ja7 (ja2 jal xs0 1) (dr := []) ⟨0, rfl⟩ (.inl rfl) (by kernel_rfl) (fun _ _ h => h.elim) ?_;conv => whnf
   refine jcZ ?_;refine ja7 (ja2 jal xs0 1) (dr := []) ⟨0, rfl⟩ (.inl rfl) (by kernel_rfl) (fun _ _ h => h.elim) ?_;conv => whnf
   refine jbY (congrArg (fun b => A.v (.bool b)) (decide_eq_true hlv)) ?_;refine ja7 (ja2 jal xs0 1) (dr := []) ⟨0, rfl⟩ (.inl rfl) (by kernel_rfl) (fun _ _ h => h.elim) ?_;conv => whnf
   refine ja6 0 0 2 [1] rfl rfl rfl rfl rfl rfl rfl (fun _ => (ja4 s ⟨#[40]⟩ (by decide) (by rw [z1c]; omega)).r) ?_;rintro o n' cs' r ⟨s1, rfl, rfl, ho, hs1, rfl⟩;cases ho;conv => whnf
   refine jbb (l := [_, _]) [3] (ja2 jal xs0 1) ⟨0, rfl⟩ (fun _ _ h => h.elim) rfl rfl rfl ?_;conv => whnf
   refine jbP (ja2 jal xs0 1) ⟨1, rfl⟩ (.inl rfl) (by kernel_rfl) (fun _ _ h => h.elim) ?_;conv => whnf
   have hz1 : s1.size <= s.size + 2 := by
    have := ja0 s ⟨#[40]⟩
    rw [z1c] at this;rw [hs1]; omega
   (refine ja9 [] rfl (fun _ => hd) ?_; rintro r rfl; conv => whnf)
   refine ja6 0 2 5 [4] rfl rfl rfl rfl rfl rfl rfl (fun _ => (ja4 s1 x hne (by omega)).r) ?_;rintro o n' cs' r ⟨s', rfl, rfl, ho, hs', rfl⟩;cases ho;conv => whnf
   have hz' := ja0 s1 x
   rw [<- hs'] at hz';refine ⟨.inl rfl, ?_⟩;unfold jcg;refine jil 0 5 6 [] rfl rfl rfl rfl rfl (ja4 s' ⟨#[41]⟩ (by decide) (by rw [z1c]; omega)) ?_;rintro o n' cs' r ⟨s9, rfl, rfl, ho, hs9, rfl⟩;cases ho;conv => whnf
   refine ⟨6, ?_⟩;conv => whnf
   exact ⟨_, rfl, rfl, rfl, by rw [jbX hlv, hs9, hs', hs1, jbZ], rfl⟩
  ·refine jan (ja2 jal xs0 1) (fun _ _ h => h) Tryz.func121 rfl (by kernel_rfl) rfl (by kernel_rfl) ?_;intro _;conv => whnf
   rw [decide_eq_false hlv];conv => whnf
   (refine ja9 [] rfl (fun _ => hd) ?_; rintro r rfl; conv => whnf)
   refine ja6 0 0 2 [1] rfl rfl rfl rfl rfl rfl rfl (fun _ => (ja4 s x hne (by omega)).r) ?_;rintro o n' cs' r ⟨s', rfl, rfl, ho, hs', rfl⟩;cases ho;conv => whnf
   refine ⟨2, ?_⟩;conv => whnf
   exact ⟨_, rfl, rfl, rfl, by rw [jcY hlv, hs'], rfl⟩
 ·rw [show decide ((1 : Nat) = 1) = true from rfl] at hd;clear e2;generalize tfB ((1 : Nat) : Int) = x at *
  by_cases hlv : 8 < lv
  ·refine jbs (ja2 jal xs0 1) Tryz.func121 rfl (by kernel_rfl) rfl ?_;intro _;conv => whnf
   refine ja7 (ja2 jal xs0 1) (dr := []) ⟨0, rfl⟩ (.inl rfl) (by kernel_rfl) (fun _ _ h => h.elim) ?_;conv => whnf
   refine ja7 (ja2 jal xs0 1) (dr := []) ⟨0, rfl⟩ (.inl rfl) (by kernel_rfl) (fun _ _ h => h.elim) ?_;conv => whnf
   refine ja7 (ja2 jal xs0 1) (dr := []) ⟨0, rfl⟩ (.inl rfl) (by kernel_rfl) (fun _ _ h => h.elim) ?_;conv => whnf
   refine jcZ ?_;refine ja7 (ja2 jal xs0 1) (dr := []) ⟨0, rfl⟩ (.inl rfl) (by kernel_rfl) (fun _ _ h => h.elim) ?_;conv => whnf
   refine jbY (congrArg (fun b => A.v (.bool b)) (decide_eq_true hlv)) ?_;refine ja7 (ja2 jal xs0 1) (dr := []) ⟨0, rfl⟩ (.inl rfl) (by kernel_rfl) (fun _ _ h => h.elim) ?_;conv => whnf
   refine ja6 0 0 2 [1] rfl rfl rfl rfl rfl rfl rfl (fun _ => (ja4 s ⟨#[40]⟩ (by decide) (by rw [z1c]; omega)).r) ?_;rintro o n' cs' r ⟨s1, rfl, rfl, ho, hs1, rfl⟩;cases ho;conv => whnf
   refine jbb (l := [_, _]) [3] (ja2 jal xs0 1) ⟨0, rfl⟩ (fun _ _ h => h.elim) rfl rfl rfl ?_;conv => whnf
   refine jbP (ja2 jal xs0 1) ⟨1, rfl⟩ (.inl rfl) (by kernel_rfl) (fun _ _ h => h.elim) ?_;conv => whnf
   have hz1 : s1.size <= s.size + 2 := by
    have := ja0 s ⟨#[40]⟩
    rw [z1c] at this;rw [hs1]; omega
   (refine ja9 [] rfl (fun _ => hd) ?_; rintro r rfl; conv => whnf)
   refine ja6 0 2 5 [4] rfl rfl rfl rfl rfl rfl rfl (fun _ => (ja4 s1 x hne (by omega)).r) ?_;rintro o n' cs' r ⟨s', rfl, rfl, ho, hs', rfl⟩;cases ho;conv => whnf
   have hz' := ja0 s1 x
   rw [<- hs'] at hz';refine ⟨.inl rfl, ?_⟩;unfold jcg;refine jil 0 5 6 [] rfl rfl rfl rfl rfl (ja4 s' ⟨#[41]⟩ (by decide) (by rw [z1c]; omega)) ?_;rintro o n' cs' r ⟨s9, rfl, rfl, ho, hs9, rfl⟩;cases ho;conv => whnf
   refine ⟨6, ?_⟩;conv => whnf
   exact ⟨_, rfl, rfl, rfl, by rw [jbX hlv, hs9, hs', hs1, jbZ], rfl⟩
  ·refine jan (ja2 jal xs0 1) (fun _ _ h => h) Tryz.func121 rfl (by kernel_rfl) rfl (by kernel_rfl) ?_;intro _;conv => whnf
   rw [decide_eq_false hlv];conv => whnf
   (refine ja9 [] rfl (fun _ => hd) ?_; rintro r rfl; conv => whnf)
   refine ja6 0 0 2 [1] rfl rfl rfl rfl rfl rfl rfl (fun _ => (ja4 s x hne (by omega)).r) ?_;rintro o n' cs' r ⟨s', rfl, rfl, ho, hs', rfl⟩;cases ho;conv => whnf
   refine ⟨2, ?_⟩;conv => whnf
   exact ⟨_, rfl, rfl, rfl, by rw [jcY hlv, hs'], rfl⟩
theorem jyR (m : Nat) (hm : m <= 1000000) (f : Nt) (hf : PX m f) : PX (m + 20) (.mk 16 0 eB [f]) := by
 have e : ∀ lv, shN false (.mk 16 0 eB [f]) lv = jeD 8 lv false (jb5 [wDraw, pLp, shN false f 1, pRp]) := fun _ => rfl
 have hy := hf.2.1 1
 have hyz := (hf.1 1 (by decide) (by decide)).1
 have hall : ∀ x ∈ [wDraw, pLp, shN false f 1, pRp], 0 < x.size := by
  intro x hx;simp only [List.mem_cons, List.not_mem_nil, or_false] at hx
  rcases hx with rfl | rfl | rfl | rfl
  ·decide
  ·decide
  ·exact hy
  ·decide
 have hpf := fun s => jaT s 4 [wDraw, pLp, shN false f 1, pRp] rfl hall
 refine ⟨juf false m hm f hf.1, fun lv => by rw [e]; exact jes (jbf (jbK _ (by simp) hall)), fun s lv h0 h9 hs => ?_⟩;rw [e];generalize hal : jb5 [wDraw, pLp, shN false f 1, pRp] = x at *
 have w1 : wDraw.size = 4 := rfl
 have w2 : pLp.size = 1 := rfl
 have w3 : pRp.size = 1 := rfl
 have hr := jtf f
 have hx := fun s lv h0 h9 hs => hf.2.2 s lv h0 h9 hs
 generalize hyy : shN false f 1 = y at *
 have hx1 := fun s hs => hx s 1 (by decide) (by decide) hs
 rw [hyy] at hx1
 by_cases hlv : 8 < lv
 ·refine jbs (ja2 jal xs0 1) Tryz.func121 rfl (by kernel_rfl) rfl ?_;intro _;conv => whnf
  refine ja7 (ja2 jal xs0 1) (dr := []) ⟨0, rfl⟩ (.inl rfl) (by kernel_rfl) (fun _ _ h => h.elim) ?_;conv => whnf
  refine ja7 (ja2 jal xs0 1) (dr := []) ⟨0, rfl⟩ (.inl rfl) (by kernel_rfl) (fun _ _ h => h.elim) ?_;conv => whnf
  refine ja7 (ja2 jal xs0 1) (dr := []) ⟨0, rfl⟩ (.inl rfl) (by kernel_rfl) (fun _ _ h => h.elim) ?_;conv => whnf
  refine jcZ ?_;refine ja7 (ja2 jal xs0 1) (dr := []) ⟨0, rfl⟩ (.inl rfl) (by kernel_rfl) (fun _ _ h => h.elim) ?_;conv => whnf
  refine jbY (congrArg (fun b => A.v (.bool b)) (decide_eq_true hlv)) ?_;refine ja7 (ja2 jal xs0 1) (dr := []) ⟨0, rfl⟩ (.inl rfl) (by kernel_rfl) (fun _ _ h => h.elim) ?_;conv => whnf
  refine ja6 0 0 2 [1] rfl rfl rfl rfl rfl rfl rfl (fun _ => (ja4 s ⟨#[40]⟩ (by decide) (by rw [z1c]; omega)).r) ?_;rintro o n' cs' r ⟨s1, rfl, rfl, ho, hs1, rfl⟩;cases ho;conv => whnf
  refine jbb (l := [_, _]) [3] (ja2 jal xs0 1) ⟨0, rfl⟩ (fun _ _ h => h.elim) rfl rfl rfl ?_;conv => whnf
  refine jbP (ja2 jal xs0 1) ⟨1, rfl⟩ (.inl rfl) (by kernel_rfl) (fun _ _ h => h.elim) ?_;conv => whnf
  have hz1 : s1.size <= s.size + 2 := by
   have := ja0 s ⟨#[40]⟩
   rw [z1c] at this;rw [hs1]; omega
  refine ja6 0 2 5 [4] rfl rfl rfl rfl rfl rfl rfl (fun _ => (jbJ s1 wDraw pLp (by decide) (by decide) (by omega)).r) ?_;rintro o n' cs' r ⟨s', rfl, rfl, ho, hs', rfl⟩;cases ho;conv => whnf
  have hz2 : s'.size <= s1.size + 7 := by
   have g1 := ja0 s1 wDraw
   have g2 := ja0 (ja1 s1 wDraw) pLp
   rw [<- hs'] at g2;omega
  have hs2 := hs'
  clear hs';generalize s' = s2 at *;refine ⟨by simp [Nt.kids], ?_⟩;conv => whnf
  (generalize hrq : jae _ _ (jaR (Nt.mk 16 0 eB [f]).kids) = rq; obtain rfl : rq = ntA f := hrq.symm.trans (hr); clear hrq; conv => whnf)
  refine ja6 0 5 6 [] rfl rfl rfl rfl rfl rfl rfl (fun _ => (hx1 s2 (by omega))) ?_;rintro o n' cs' r ⟨s', rfl, rfl, ho, hs', rfl⟩;cases ho;conv => whnf
  have hz3 := ja0 s2 y
  rw [<- hs'] at hz3
  have hs3 := hs'
  clear hs';generalize s' = s3 at *;refine ja6 0 6 8 [7] rfl rfl rfl rfl rfl rfl rfl (fun _ => (ja4 s3 pRp (by decide) (by omega)).r) ?_;rintro o n' cs' r ⟨s', rfl, rfl, ho, hs', rfl⟩;cases ho;conv => whnf
  have hz4 := ja0 s3 pRp
  rw [<- hs'] at hz4;refine ⟨.inl rfl, ?_⟩;unfold jcg;refine jil 0 8 9 [] rfl rfl rfl rfl rfl (ja4 s' ⟨#[41]⟩ (by decide) (by rw [z1c]; omega)) ?_;rintro o n' cs' r ⟨s9, rfl, rfl, ho, hs9, rfl⟩;cases ho;conv => whnf
  refine ⟨9, ?_⟩;conv => whnf
  refine ⟨_, rfl, rfl, rfl, ?_, rfl⟩
  have := hpf s1
  rw [jbX hlv, hs9, hs', hs3, hs2, <- jbZ, <- hs1, <- this];rfl
 ·refine jan (ja2 jal xs0 1) (fun _ _ h => h) Tryz.func121 rfl (by kernel_rfl) rfl (by kernel_rfl) ?_;intro _;conv => whnf
  rw [decide_eq_false hlv];conv => whnf
  refine ja6 0 0 2 [1] rfl rfl rfl rfl rfl rfl rfl (fun _ => (jbJ s wDraw pLp (by decide) (by decide) (by omega)).r) ?_;rintro o n' cs' r ⟨s', rfl, rfl, ho, hs', rfl⟩;cases ho;conv => whnf
  have hz2 : s'.size <= s.size + 7 := by
   have g1 := ja0 s wDraw
   have g2 := ja0 (ja1 s wDraw) pLp
   rw [<- hs'] at g2;omega
  have hs2 := hs'
  clear hs';generalize s' = s2 at *;refine ⟨by simp [Nt.kids], ?_⟩;conv => whnf
  (generalize hrq : jae _ _ (jaR (Nt.mk 16 0 eB [f]).kids) = rq; obtain rfl : rq = ntA f := hrq.symm.trans (hr); clear hrq; conv => whnf)
  refine ja6 0 2 3 [] rfl rfl rfl rfl rfl rfl rfl (fun _ => (hx1 s2 (by omega))) ?_;rintro o n' cs' r ⟨s', rfl, rfl, ho, hs', rfl⟩;cases ho;conv => whnf
  have hz3 := ja0 s2 y
  rw [<- hs'] at hz3
  have hs3 := hs'
  clear hs';generalize s' = s3 at *;refine ja6 0 3 5 [4] rfl rfl rfl rfl rfl rfl rfl (fun _ => (ja4 s3 pRp (by decide) (by omega)).r) ?_;rintro o n' cs' r ⟨s', rfl, rfl, ho, hs', rfl⟩;cases ho;conv => whnf
  refine ⟨5, ?_⟩;conv => whnf
  refine ⟨_, rfl, rfl, rfl, ?_, rfl⟩
  have := hpf s
  rw [jcY hlv, hs', hs3, hs2, <- this];rfl
theorem jv6 (m : Nat) (hm : m <= 1000000) (s0 : ByteArray) (hne : 0 < s0.size) (hs0 : s0.size <= 2) (f : Nt) (hf : PX m f) : PX (m + 20) (.mk 17 0 s0 [f]) := by
 have hp9 := jfs 17 s0
 have e : ∀ lv, shN false (.mk 17 0 s0 [f]) lv = jeD (jab 17 s0) lv false (jb5 [s0, shN false f (jab 17 s0)]) := fun _ => rfl
 have hp : jab 17 s0 = if s0 = pNot then 3 else 7 := by unfold jab; rw [if_pos rfl]
 have hsh := jrZ false m hm s0 hs0 f hf.1
 generalize jab 17 s0 = p at *
 have hy := hf.2.1 p
 have hyz := (hf.1 p (by omega) (by omega)).1
 have hall : ∀ x ∈ [s0, shN false f p], 0 < x.size := by
  intro x hx;simp only [List.mem_cons, List.not_mem_nil, or_false] at hx
  rcases hx with rfl | rfl
  ·exact hne
  ·exact hy
 have hpf := fun s => jaT s 2 [s0, shN false f p] rfl hall
 refine ⟨hsh, fun lv => by rw [e]; exact jes (jbf (jbK _ (by simp) hall)), fun s lv h0 h9 hs => ?_⟩;rw [e];generalize hal : jb5 [s0, shN false f p] = x at *
 have hr := jtf f
 have hx1 := fun s hs => hf.2.2 s p (by omega) (by omega) hs
 generalize hyy : shN false f p = y at *
 by_cases hn : s0 = pNot
 ·rw [if_pos hn] at hp;subst hp
  by_cases hlv : 3 < lv
  ·refine jbs (ja2 jal xs0 1) Tryz.func121 rfl (by kernel_rfl) rfl ?_;intro _;conv => whnf
   refine ja7 (ja2 jal xs0 1) (dr := []) ⟨0, rfl⟩ (.inl rfl) (by kernel_rfl) (fun _ _ h => h.elim) ?_;conv => whnf
   refine ja7 (ja2 jal xs0 1) (dr := []) ⟨0, rfl⟩ (.inl rfl) (by kernel_rfl) (fun _ _ h => h.elim) ?_;conv => whnf
   refine ja7 (ja2 jal xs0 1) (dr := []) ⟨0, rfl⟩ (.inl rfl) (by kernel_rfl) (fun _ _ h => h.elim) ?_;conv => whnf
   rw [decide_eq_true (p := (Nt.mk 17 0 s0 [f]).s = ⟨_⟩) hn];conv => whnf
   refine jcZ ?_;refine ja7 (ja2 jal xs0 1) (dr := []) ⟨0, rfl⟩ (.inl rfl) (by kernel_rfl) (fun _ _ h => h.elim) ?_;conv => whnf
   refine jbY (congrArg (fun b => A.v (.bool b)) (decide_eq_true hlv)) ?_;refine ja7 (ja2 jal xs0 1) (dr := []) ⟨0, rfl⟩ (.inl rfl) (by kernel_rfl) (fun _ _ h => h.elim) ?_;conv => whnf
   refine ja6 0 0 2 [1] rfl rfl rfl rfl rfl rfl rfl (fun _ => (ja4 s ⟨#[40]⟩ (by decide) (by rw [z1c]; omega)).r) ?_;rintro o n' cs' r ⟨s1, rfl, rfl, ho, hs1, rfl⟩;cases ho;conv => whnf
   refine jbb (l := [_, _]) [3] (ja2 jal xs0 1) ⟨0, rfl⟩ (fun _ _ h => h.elim) rfl rfl rfl ?_;conv => whnf
   refine jbP (ja2 jal xs0 1) ⟨1, rfl⟩ (.inl rfl) (by kernel_rfl) (fun _ _ h => h.elim) ?_;conv => whnf
   have hz1 : s1.size <= s.size + 2 := by
    have := ja0 s ⟨#[40]⟩
    rw [z1c] at this;rw [hs1]; omega
   refine ja6 0 2 5 [4] rfl rfl rfl rfl rfl rfl rfl (fun _ => (ja4 s1 s0 hne (by omega)).r) ?_;rintro o n' cs' r ⟨s', rfl, rfl, ho, hs', rfl⟩;cases ho;conv => whnf
   have hz2 := ja0 s1 s0
   rw [<- hs'] at hz2
   have hs2 := hs'
   clear hs';generalize s' = s2 at *;refine ⟨by simp [Nt.kids], ?_⟩;conv => whnf
   (generalize hrq : jae _ _ (jaR (Nt.mk 17 0 s0 [f]).kids) = rq; obtain rfl : rq = ntA f := hrq.symm.trans (hr); clear hrq; conv => whnf)
   refine ja6 0 5 6 [] rfl rfl rfl rfl rfl rfl rfl (fun _ => (hx1 s2 (by omega))) ?_;rintro o n' cs' r ⟨s', rfl, rfl, ho, hs', rfl⟩;cases ho;conv => whnf
   have hz3 := ja0 s2 y
   rw [<- hs'] at hz3;refine ⟨.inl rfl, ?_⟩;unfold jcg;refine jil 0 6 7 [] rfl rfl rfl rfl rfl (ja4 s' ⟨#[41]⟩ (by decide) (by rw [z1c]; omega)) ?_;rintro o n' cs' r ⟨s9, rfl, rfl, ho, hs9, rfl⟩;cases ho;conv => whnf
   refine ⟨7, ?_⟩;conv => whnf
   refine ⟨_, rfl, rfl, rfl, ?_, rfl⟩
   have := hpf s1
   rw [jbX hlv, hs9, hs', hs2, <- jbZ, <- hs1, <- this];rfl
  ·refine jan (ja2 jal xs0 1) (fun _ _ h => h) Tryz.func121 rfl (by kernel_rfl) rfl (by kernel_rfl) ?_;intro _;conv => whnf
   rw [decide_eq_true (p := (Nt.mk 17 0 s0 [f]).s = ⟨_⟩) hn];conv => whnf
   rw [decide_eq_false hlv];conv => whnf
   refine ja6 0 0 2 [1] rfl rfl rfl rfl rfl rfl rfl (fun _ => (ja4 s s0 hne (by omega)).r) ?_;rintro o n' cs' r ⟨s', rfl, rfl, ho, hs', rfl⟩;cases ho;conv => whnf
   have hz2 := ja0 s s0
   rw [<- hs'] at hz2
   have hs2 := hs'
   clear hs';generalize s' = s2 at *;refine ⟨by simp [Nt.kids], ?_⟩;conv => whnf
   (generalize hrq : jae _ _ (jaR (Nt.mk 17 0 s0 [f]).kids) = rq; obtain rfl : rq = ntA f := hrq.symm.trans (hr); clear hrq; conv => whnf)
   refine ja6 0 2 3 [] rfl rfl rfl rfl rfl rfl rfl (fun _ => (hx1 s2 (by omega))) ?_;rintro o n' cs' r ⟨s', rfl, rfl, ho, hs', rfl⟩;cases ho;conv => whnf
   refine ⟨3, ?_⟩;conv => whnf
   refine ⟨_, rfl, rfl, rfl, ?_, rfl⟩
   have := hpf s
   rw [jcY hlv, hs', hs2, <- this];rfl
 ·rw [if_neg hn] at hp;subst hp
  by_cases hlv : 7 < lv
  ·refine jbs (ja2 jal xs0 1) Tryz.func121 rfl (by kernel_rfl) rfl ?_;intro _;conv => whnf
   refine ja7 (ja2 jal xs0 1) (dr := []) ⟨0, rfl⟩ (.inl rfl) (by kernel_rfl) (fun _ _ h => h.elim) ?_;conv => whnf
   refine ja7 (ja2 jal xs0 1) (dr := []) ⟨0, rfl⟩ (.inl rfl) (by kernel_rfl) (fun _ _ h => h.elim) ?_;conv => whnf
   refine ja7 (ja2 jal xs0 1) (dr := []) ⟨0, rfl⟩ (.inl rfl) (by kernel_rfl) (fun _ _ h => h.elim) ?_;conv => whnf
   rw [decide_eq_false (p := (Nt.mk 17 0 s0 [f]).s = ⟨_⟩) hn];conv => whnf
   refine jcZ ?_;refine ja7 (ja2 jal xs0 1) (dr := []) ⟨0, rfl⟩ (.inl rfl) (by kernel_rfl) (fun _ _ h => h.elim) ?_;conv => whnf
   refine jbY (congrArg (fun b => A.v (.bool b)) (decide_eq_true hlv)) ?_;refine ja7 (ja2 jal xs0 1) (dr := []) ⟨0, rfl⟩ (.inl rfl) (by kernel_rfl) (fun _ _ h => h.elim) ?_;conv => whnf
   refine ja6 0 0 2 [1] rfl rfl rfl rfl rfl rfl rfl (fun _ => (ja4 s ⟨#[40]⟩ (by decide) (by rw [z1c]; omega)).r) ?_;rintro o n' cs' r ⟨s1, rfl, rfl, ho, hs1, rfl⟩;cases ho;conv => whnf
   refine jbb (l := [_, _]) [3] (ja2 jal xs0 1) ⟨0, rfl⟩ (fun _ _ h => h.elim) rfl rfl rfl ?_;conv => whnf
   refine jbP (ja2 jal xs0 1) ⟨1, rfl⟩ (.inl rfl) (by kernel_rfl) (fun _ _ h => h.elim) ?_;conv => whnf
   have hz1 : s1.size <= s.size + 2 := by
    have := ja0 s ⟨#[40]⟩
    rw [z1c] at this;rw [hs1]; omega
   refine ja6 0 2 5 [4] rfl rfl rfl rfl rfl rfl rfl (fun _ => (ja4 s1 s0 hne (by omega)).r) ?_;rintro o n' cs' r ⟨s', rfl, rfl, ho, hs', rfl⟩;cases ho;conv => whnf
   have hz2 := ja0 s1 s0
   rw [<- hs'] at hz2
   have hs2 := hs'
   clear hs';generalize s' = s2 at *;refine ⟨by simp [Nt.kids], ?_⟩;conv => whnf
   (generalize hrq : jae _ _ (jaR (Nt.mk 17 0 s0 [f]).kids) = rq; obtain rfl : rq = ntA f := hrq.symm.trans (hr); clear hrq; conv => whnf)
   refine ja6 0 5 6 [] rfl rfl rfl rfl rfl rfl rfl (fun _ => (hx1 s2 (by omega))) ?_;rintro o n' cs' r ⟨s', rfl, rfl, ho, hs', rfl⟩;cases ho;conv => whnf
   have hz3 := ja0 s2 y
   rw [<- hs'] at hz3;refine ⟨.inl rfl, ?_⟩;unfold jcg;refine jil 0 6 7 [] rfl rfl rfl rfl rfl (ja4 s' ⟨#[41]⟩ (by decide) (by rw [z1c]; omega)) ?_;rintro o n' cs' r ⟨s9, rfl, rfl, ho, hs9, rfl⟩;cases ho;conv => whnf
   refine ⟨7, ?_⟩;conv => whnf
   refine ⟨_, rfl, rfl, rfl, ?_, rfl⟩
   have := hpf s1
   rw [jbX hlv, hs9, hs', hs2, <- jbZ, <- hs1, <- this];rfl
  ·refine jan (ja2 jal xs0 1) (fun _ _ h => h) Tryz.func121 rfl (by kernel_rfl) rfl (by kernel_rfl) ?_;intro _;conv => whnf
   rw [decide_eq_false (p := (Nt.mk 17 0 s0 [f]).s = ⟨_⟩) hn];conv => whnf
   rw [decide_eq_false hlv];conv => whnf
   refine ja6 0 0 2 [1] rfl rfl rfl rfl rfl rfl rfl (fun _ => (ja4 s s0 hne (by omega)).r) ?_;rintro o n' cs' r ⟨s', rfl, rfl, ho, hs', rfl⟩;cases ho;conv => whnf
   have hz2 := ja0 s s0
   rw [<- hs'] at hz2
   have hs2 := hs'
   clear hs';generalize s' = s2 at *;refine ⟨by simp [Nt.kids], ?_⟩;conv => whnf
   (generalize hrq : jae _ _ (jaR (Nt.mk 17 0 s0 [f]).kids) = rq; obtain rfl : rq = ntA f := hrq.symm.trans (hr); clear hrq; conv => whnf)
   refine ja6 0 2 3 [] rfl rfl rfl rfl rfl rfl rfl (fun _ => (hx1 s2 (by omega))) ?_;rintro o n' cs' r ⟨s', rfl, rfl, ho, hs', rfl⟩;cases ho;conv => whnf
   refine ⟨3, ?_⟩;conv => whnf
   refine ⟨_, rfl, rfl, rfl, ?_, rfl⟩
   have := hpf s
   rw [jcY hlv, hs', hs2, <- this];rfl
theorem jrG (m : Nat) (hm : m <= 1000000) (s0 : ByteArray) (hne : 0 < s0.size) (hs0 : s0.size <= 2) (f g : Nt) (hf : PX m f) (hg : PX m g) : PX (2 * m + 20) (.mk 18 0 s0 [f, g]) := by
 have hp9 := jfs 18 s0
 have hp8 : jab 18 s0 <= 7 := by
  unfold jab
  repeat' split
  all_goals first | decide | (rename_i h1 h2; exact absurd h2 (by decide)) | contradiction
 have e : ∀ lv, shN false (.mk 18 0 s0 [f, g]) lv = jeD (jab 18 s0) lv false (jb5 [shN false f (if jab 18 s0 = 4 then 5 else jab 18 s0), s0, shN false g (jab 18 s0 + 1)]) := fun _ => rfl
 have hop := jsN s0
 have hpe : opP s0 = jab 18 s0 := (jte 0 s0 []).symm
 rw [hpe] at hop;clear hpe
 have hsh := jnR false m hm s0 hs0 f g hf.1 hg.1
 generalize jab 18 s0 = p at *
 obtain ⟨q, hq⟩ : ∃ q : Int, (if p = 4 then 5 else p) = q := ⟨_, rfl⟩
 rw [hq] at e
 have hqr : 0 <= q /\ q <= 9 := by split at hq <;> omega
 have hyz := (hf.1 q (by omega) (by omega)).1
 have hyz2 := (hg.1 (p + 1) (by omega) (by omega)).1
 have hall : ∀ x ∈ [shN false f q, s0, shN false g (p + 1)], 0 < x.size := by
  intro x hx;simp only [List.mem_cons, List.not_mem_nil, or_false] at hx
  rcases hx with rfl | rfl | rfl
  ·exact hf.2.1 q
  ·exact hne
  ·exact hg.2.1 (p + 1)
 have hpf := fun s => jaT s 3 [shN false f q, s0, shN false g (p + 1)] rfl hall
 refine ⟨hsh, fun lv => by rw [e]; exact jes (jbf (jbK _ (by simp) hall)), fun s lv h0 h9 hs => ?_⟩;rw [e];generalize hal : jb5 [shN false f q, s0, shN false g (p + 1)] = x at *
 have hr := jnH f g
 have hr2 := jnq f g
 have hx1 := fun s hs => hf.2.2 s q (by omega) (by omega) hs
 have hx2 := fun s hs => hg.2.2 s (p + 1) (by omega) (by omega) hs
 generalize hyy : shN false f q = y at *;generalize hyy2 : shN false g (p + 1) = y2 at *;clear hsh hall hal e
 by_cases h4 : p = 4
 ·rw [if_pos h4] at hq;subst hq
  by_cases hlv : p < lv
  ·refine jbs (ja2 jal xs0 1) Tryz.func121 rfl (by kernel_rfl) rfl ?_;intro _;conv => whnf
   refine ja7 (ja2 jal xs0 1) (dr := []) ⟨0, rfl⟩ (.inl rfl) (by kernel_rfl) (fun _ _ h => h.elim) ?_;conv => whnf
   refine ja7 (ja2 jal xs0 1) (dr := []) ⟨0, rfl⟩ (.inl rfl) (by kernel_rfl) (fun _ _ h => h.elim) ?_;conv => whnf
   refine ja7 (ja2 jal xs0 1) (dr := []) ⟨0, rfl⟩ (.inl rfl) (by kernel_rfl) (fun _ _ h => h.elim) ?_;conv => whnf
   (refine ja9 [] rfl (fun _ => hop) ?_; rintro r rfl; conv => whnf)
   conv => whnf
   refine jcZ ?_;refine ja7 (ja2 jal xs0 1) (dr := []) ⟨0, rfl⟩ (.inl rfl) (by kernel_rfl) (fun _ _ h => h.elim) ?_;conv => whnf
   refine jbY (congrArg (fun b => A.v (.bool b)) (decide_eq_true hlv)) ?_;refine ja7 (ja2 jal xs0 1) (dr := []) ⟨0, rfl⟩ (.inl rfl) (by kernel_rfl) (fun _ _ h => h.elim) ?_;conv => whnf
   refine ja6 0 0 2 [1] rfl rfl rfl rfl rfl rfl rfl (fun _ => (ja4 s ⟨#[40]⟩ (by decide) (by rw [z1c]; omega)).r) ?_;rintro o n' cs' r ⟨s1, rfl, rfl, ho, hs1, rfl⟩;cases ho;conv => whnf
   refine jbb (l := [_, _]) [3] (ja2 jal xs0 1) ⟨0, rfl⟩ (fun _ _ h => h.elim) rfl rfl rfl ?_;conv => whnf
   refine jbP (ja2 jal xs0 1) ⟨1, rfl⟩ (.inl rfl) (by kernel_rfl) (fun _ _ h => h.elim) ?_;conv => whnf
   have hz1 : s1.size <= s.size + 2 := by
    have := ja0 s ⟨#[40]⟩
    rw [z1c] at this;rw [hs1]; omega
   rw [decide_eq_true h4];conv => whnf
   refine ⟨by simp [Nt.kids], ?_⟩;conv => whnf
   (generalize hrq : jae _ _ (jaR (Nt.mk 18 0 s0 [f, g]).kids) = rq; obtain rfl : rq = ntA f := hrq.symm.trans (hr); clear hrq; conv => whnf)
   refine ja6 0 2 4 [] rfl rfl rfl rfl rfl rfl rfl (fun _ => (hx1 s1 (by omega))) ?_;rintro o n' cs' r ⟨s', rfl, rfl, ho, hs', rfl⟩;cases ho;conv => whnf
   have hz2 := ja0 s1 y
   rw [<- hs'] at hz2
   have hs2 := hs'
   clear hs';generalize s' = s2 at *;refine ja6 0 4 6 [5] rfl rfl rfl rfl rfl rfl rfl (fun _ => (ja4 s2 s0 hne (by omega)).r) ?_;rintro o n' cs' r ⟨s', rfl, rfl, ho, hs', rfl⟩;cases ho;conv => whnf
   have hz3 := ja0 s2 s0
   rw [<- hs'] at hz3
   have hs3 := hs'
   clear hs';generalize s' = s3 at *;refine ⟨by simp [Nt.kids], ?_⟩;conv => whnf
   (generalize hrq : jae _ _ (jaR (Nt.mk 18 0 s0 [f, g]).kids) = rq; obtain rfl : rq = ntA g := hrq.symm.trans (hr2); clear hrq; conv => whnf)
   refine ⟨jaL (by omega), ?_⟩;conv => whnf
   refine ja6 0 6 7 [] rfl rfl rfl rfl rfl rfl rfl (fun _ => (hx2 s3 (by omega))) ?_;rintro o n' cs' r ⟨s', rfl, rfl, ho, hs', rfl⟩;cases ho;conv => whnf
   have hz4 := ja0 s3 y2
   rw [<- hs'] at hz4;refine ⟨.inl rfl, ?_⟩;unfold jcg;refine jil 0 7 8 [] rfl rfl rfl rfl rfl (ja4 s' ⟨#[41]⟩ (by decide) (by rw [z1c]; omega)) ?_;rintro o n' cs' r ⟨s9, rfl, rfl, ho, hs9, rfl⟩;cases ho;conv => whnf
   refine ⟨8, ?_⟩;conv => whnf
   refine ⟨_, rfl, rfl, rfl, ?_, rfl⟩
   have := hpf s1
   rw [jbX hlv, hs9, hs', hs3, hs2, <- jbZ, <- hs1, <- this];rfl
  ·refine jan (ja2 jal xs0 1) (fun _ _ h => h) Tryz.func121 rfl (by kernel_rfl) rfl (by kernel_rfl) ?_;intro _;conv => whnf
   (refine ja9 [] rfl (fun _ => hop) ?_; rintro r rfl; conv => whnf)
   conv => whnf
   rw [decide_eq_false hlv];conv => whnf
   rw [decide_eq_true h4];conv => whnf
   refine ⟨by simp [Nt.kids], ?_⟩;conv => whnf
   (generalize hrq : jae _ _ (jaR (Nt.mk 18 0 s0 [f, g]).kids) = rq; obtain rfl : rq = ntA f := hrq.symm.trans (hr); clear hrq; conv => whnf)
   refine ja6 0 0 1 [] rfl rfl rfl rfl rfl rfl rfl (fun _ => (hx1 s (by omega))) ?_;rintro o n' cs' r ⟨s', rfl, rfl, ho, hs', rfl⟩;cases ho;conv => whnf
   have hz2 := ja0 s y
   rw [<- hs'] at hz2
   have hs2 := hs'
   clear hs';generalize s' = s2 at *;refine ja6 0 1 3 [2] rfl rfl rfl rfl rfl rfl rfl (fun _ => (ja4 s2 s0 hne (by omega)).r) ?_;rintro o n' cs' r ⟨s', rfl, rfl, ho, hs', rfl⟩;cases ho;conv => whnf
   have hz3 := ja0 s2 s0
   rw [<- hs'] at hz3
   have hs3 := hs'
   clear hs';generalize s' = s3 at *;refine ⟨by simp [Nt.kids], ?_⟩;conv => whnf
   (generalize hrq : jae _ _ (jaR (Nt.mk 18 0 s0 [f, g]).kids) = rq; obtain rfl : rq = ntA g := hrq.symm.trans (hr2); clear hrq; conv => whnf)
   refine ⟨jaL (by omega), ?_⟩;conv => whnf
   refine ja6 0 3 4 [] rfl rfl rfl rfl rfl rfl rfl (fun _ => (hx2 s3 (by omega))) ?_;rintro o n' cs' r ⟨s', rfl, rfl, ho, hs', rfl⟩;cases ho;conv => whnf
   refine ⟨4, ?_⟩;conv => whnf
   refine ⟨_, rfl, rfl, rfl, ?_, rfl⟩
   have := hpf s
   rw [jcY hlv, hs', hs3, hs2, <- this];rfl
 ·rw [if_neg h4] at hq;subst hq
  by_cases hlv : p < lv
  ·refine jbs (ja2 jal xs0 1) Tryz.func121 rfl (by kernel_rfl) rfl ?_;intro _;conv => whnf
   refine ja7 (ja2 jal xs0 1) (dr := []) ⟨0, rfl⟩ (.inl rfl) (by kernel_rfl) (fun _ _ h => h.elim) ?_;conv => whnf
   refine ja7 (ja2 jal xs0 1) (dr := []) ⟨0, rfl⟩ (.inl rfl) (by kernel_rfl) (fun _ _ h => h.elim) ?_;conv => whnf
   refine ja7 (ja2 jal xs0 1) (dr := []) ⟨0, rfl⟩ (.inl rfl) (by kernel_rfl) (fun _ _ h => h.elim) ?_;conv => whnf
   (refine ja9 [] rfl (fun _ => hop) ?_; rintro r rfl; conv => whnf)
   conv => whnf
   refine jcZ ?_;refine ja7 (ja2 jal xs0 1) (dr := []) ⟨0, rfl⟩ (.inl rfl) (by kernel_rfl) (fun _ _ h => h.elim) ?_;conv => whnf
   refine jbY (congrArg (fun b => A.v (.bool b)) (decide_eq_true hlv)) ?_;refine ja7 (ja2 jal xs0 1) (dr := []) ⟨0, rfl⟩ (.inl rfl) (by kernel_rfl) (fun _ _ h => h.elim) ?_;conv => whnf
   refine ja6 0 0 2 [1] rfl rfl rfl rfl rfl rfl rfl (fun _ => (ja4 s ⟨#[40]⟩ (by decide) (by rw [z1c]; omega)).r) ?_;rintro o n' cs' r ⟨s1, rfl, rfl, ho, hs1, rfl⟩;cases ho;conv => whnf
   refine jbb (l := [_, _]) [3] (ja2 jal xs0 1) ⟨0, rfl⟩ (fun _ _ h => h.elim) rfl rfl rfl ?_;conv => whnf
   refine jbP (ja2 jal xs0 1) ⟨1, rfl⟩ (.inl rfl) (by kernel_rfl) (fun _ _ h => h.elim) ?_;conv => whnf
   have hz1 : s1.size <= s.size + 2 := by
    have := ja0 s ⟨#[40]⟩
    rw [z1c] at this;rw [hs1]; omega
   rw [decide_eq_false h4];conv => whnf
   refine ⟨by simp [Nt.kids], ?_⟩;conv => whnf
   (generalize hrq : jae _ _ (jaR (Nt.mk 18 0 s0 [f, g]).kids) = rq; obtain rfl : rq = ntA f := hrq.symm.trans (hr); clear hrq; conv => whnf)
   refine ja6 0 2 4 [] rfl rfl rfl rfl rfl rfl rfl (fun _ => (hx1 s1 (by omega))) ?_;rintro o n' cs' r ⟨s', rfl, rfl, ho, hs', rfl⟩;cases ho;conv => whnf
   have hz2 := ja0 s1 y
   rw [<- hs'] at hz2
   have hs2 := hs'
   clear hs';generalize s' = s2 at *;refine ja6 0 4 6 [5] rfl rfl rfl rfl rfl rfl rfl (fun _ => (ja4 s2 s0 hne (by omega)).r) ?_;rintro o n' cs' r ⟨s', rfl, rfl, ho, hs', rfl⟩;cases ho;conv => whnf
   have hz3 := ja0 s2 s0
   rw [<- hs'] at hz3
   have hs3 := hs'
   clear hs';generalize s' = s3 at *;refine ⟨by simp [Nt.kids], ?_⟩;conv => whnf
   (generalize hrq : jae _ _ (jaR (Nt.mk 18 0 s0 [f, g]).kids) = rq; obtain rfl : rq = ntA g := hrq.symm.trans (hr2); clear hrq; conv => whnf)
   refine ⟨jaL (by omega), ?_⟩;conv => whnf
   refine ja6 0 6 7 [] rfl rfl rfl rfl rfl rfl rfl (fun _ => (hx2 s3 (by omega))) ?_;rintro o n' cs' r ⟨s', rfl, rfl, ho, hs', rfl⟩;cases ho;conv => whnf
   have hz4 := ja0 s3 y2
   rw [<- hs'] at hz4;refine ⟨.inl rfl, ?_⟩;unfold jcg;refine jil 0 7 8 [] rfl rfl rfl rfl rfl (ja4 s' ⟨#[41]⟩ (by decide) (by rw [z1c]; omega)) ?_;rintro o n' cs' r ⟨s9, rfl, rfl, ho, hs9, rfl⟩;cases ho;conv => whnf
   refine ⟨8, ?_⟩;conv => whnf
   refine ⟨_, rfl, rfl, rfl, ?_, rfl⟩
   have := hpf s1
   rw [jbX hlv, hs9, hs', hs3, hs2, <- jbZ, <- hs1, <- this];rfl
  ·refine jan (ja2 jal xs0 1) (fun _ _ h => h) Tryz.func121 rfl (by kernel_rfl) rfl (by kernel_rfl) ?_;intro _;conv => whnf
   (refine ja9 [] rfl (fun _ => hop) ?_; rintro r rfl; conv => whnf)
   conv => whnf
   rw [decide_eq_false hlv];conv => whnf
   rw [decide_eq_false h4];conv => whnf
   refine ⟨by simp [Nt.kids], ?_⟩;conv => whnf
   (generalize hrq : jae _ _ (jaR (Nt.mk 18 0 s0 [f, g]).kids) = rq; obtain rfl : rq = ntA f := hrq.symm.trans (hr); clear hrq; conv => whnf)
   refine ja6 0 0 1 [] rfl rfl rfl rfl rfl rfl rfl (fun _ => (hx1 s (by omega))) ?_;rintro o n' cs' r ⟨s', rfl, rfl, ho, hs', rfl⟩;cases ho;conv => whnf
   have hz2 := ja0 s y
   rw [<- hs'] at hz2
   have hs2 := hs'
   clear hs';generalize s' = s2 at *;refine ja6 0 1 3 [2] rfl rfl rfl rfl rfl rfl rfl (fun _ => (ja4 s2 s0 hne (by omega)).r) ?_;rintro o n' cs' r ⟨s', rfl, rfl, ho, hs', rfl⟩;cases ho;conv => whnf
   have hz3 := ja0 s2 s0
   rw [<- hs'] at hz3
   have hs3 := hs'
   clear hs';generalize s' = s3 at *;refine ⟨by simp [Nt.kids], ?_⟩;conv => whnf
   (generalize hrq : jae _ _ (jaR (Nt.mk 18 0 s0 [f, g]).kids) = rq; obtain rfl : rq = ntA g := hrq.symm.trans (hr2); clear hrq; conv => whnf)
   refine ⟨jaL (by omega), ?_⟩;conv => whnf
   refine ja6 0 3 4 [] rfl rfl rfl rfl rfl rfl rfl (fun _ => (hx2 s3 (by omega))) ?_;rintro o n' cs' r ⟨s', rfl, rfl, ho, hs', rfl⟩;cases ho;conv => whnf
   refine ⟨4, ?_⟩;conv => whnf
   refine ⟨_, rfl, rfl, rfl, ?_, rfl⟩
   have := hpf s
   rw [jcY hlv, hs', hs3, hs2, <- this];rfl
theorem jsg : ∀ s ∈ varL, 0 < s.size := by decide
theorem jrU : ∀ s ∈ builtL, 0 < s.size := by decide
theorem jyr : ∀ s ∈ opL, 0 < s.size := by decide
theorem jwG : ∀ s ∈ bolL, 0 < s.size := by decide
theorem jvC : ∀ s ∈ cmpL, 0 < s.size := by decide
theorem jqL {d : Nat} {f : Nt} (h : EI d f) : cI d <= 1000000 -> PX (cI d) f := by
 induction h with
 | lit d n h => exact fun _ => (jxX n (jru n h)).mono (jm4 d)
 | var d s h => exact fun _ => (juX 14 (.inl rfl) s (jsg s h) (jjt s h)).mono (jm4 d)
 | nam d s h => exact fun _ => (juX 15 (.inr rfl) s (jrU s h) (jlY s h)).mono (jm4 d)
 | drw d f h ih => intro hc; unfold cI at hc ⊢; exact (jyR (cI d) (by omega) f (ih (by omega))).mono (by omega)
 | neg d f h ih => intro hc; unfold cI at hc ⊢; exact (jv6 (cI d) (by omega) pMinus (by decide) (by decide) f (ih (by omega))).mono (by omega)
 | bin d s f g hs h1 h2 i1 i2 => intro hc; unfold cI at hc ⊢; exact jrG (cI d) (by omega) s (jyr s hs) (jun s hs) f g (i1 (by omega)) (i2 (by omega))
theorem jy2 {d : Nat} {f : Nt} (h : EB d f) : cI (d + 1) <= 1000000 -> PX (cI (d + 1)) f := by
 induction h with
 | lit d n h => exact fun _ => (jvo n h).mono (jm4 (d + 1))
 | nt d f h ih => intro hc; have e : cI (d + 1 + 1) = 2 * cI (d + 1) + 20 := rfl; rw [e] at hc ⊢; exact (jv6 (cI (d + 1)) (by omega) pNot (by decide) (by decide) f (ih (by omega))).mono (by omega)
 | bin d s f g hs h1 h2 i1 i2 => intro hc; have e : cI (d + 1 + 1) = 2 * cI (d + 1) + 20 := rfl; rw [e] at hc ⊢; exact jrG (cI (d + 1)) (by omega) s (jwG s hs) (jr1 s hs) f g (i1 (by omega)) (i2 (by omega))
 | cmp d s f g hs h1 h2 =>
  intro hc
  have hm : cI (d - 1) <= cI d := by
   cases d with
   | zero => exact Nat.le_refl _
   | succ d => rw [Nat.add_sub_cancel]; have e : cI (d + 1) = 2 * cI d + 20 := rfl; omega
  have e : cI (d + 1) = 2 * cI d + 20 := rfl
  rw [e] at hc ⊢;exact jrG (cI d) (by omega) s (jvC s hs) (jr6 s hs) f g ((jqL h1 (by omega)).mono hm) ((jqL h2 (by omega)).mono hm)
theorem juP (l : List ByteArray) (hl : l ≠ []) (h : ∀ x ∈ l, 0 < x.size) : cmF l ≠ ⟨#[]⟩ := by
 have e := List.dropLast_concat_getLast hl
 have hx := jgI (h _ (List.getLast_mem hl))
 generalize l.getLast hl = y at *
 cases hd : l.dropLast with
 | nil =>
  rw [hd] at e;rw [<- e]
  show ja1 eB y ≠ _
  rw [jbp]; exact hx
 | cons x m =>
  rw [hd] at e;rw [<- e, jfc];exact jhO hx
def lsS (s : ByteArray) (l : List ByteArray) (j : Nat) : ByteArray := ja1 s (cmF (l.take j))
theorem jje (s : ByteArray) (l : List ByteArray) : lsS s l 0 = s := by unfold lsS; rw [List.take_zero]; exact jhe s
theorem jnG (s : ByteArray) (l : List ByteArray) (h : ∀ x ∈ l, 0 < x.size) (j : Nat) (hj : j < l.length) : lsS s l (j + 1) = ja1 (if j = 0 then lsS s l j else ja1 (lsS s l j) pComma) l[j] := by
 by_cases h0 : j = 0
 ·subst h0;rw [if_pos rfl, jje]
  cases l with
  | nil => simp at hj
  | cons x m => show ja1 s (ja1 eB x) = _; rw [jbp]; rfl
 ·rw [if_neg h0]
  have hne : l.take j ≠ [] := by
   intro e
   have := congrArg List.length e
   rw [List.length_take, List.length_nil] at this; omega
  have hm : ∀ x ∈ l.take j, 0 < x.size := fun x hx => h x (List.mem_of_mem_take hx)
  have hc := juP _ hne hm
  have e1 : cmF (l.take (j + 1)) = ja1 (cmF (l.take j) ++ pComma) l[j] := by
   rw [List.take_succ_eq_append_getElem hj]
   cases ht : l.take j with
   | nil => exact absurd ht hne
   | cons x m => exact jfc x m _
  unfold lsS;rw [e1, <- jaH s _ _ (jnt hc), jaH s _ pComma hc, jbD _ pComma (by decide)]
theorem joq (s : ByteArray) (m : Nat) (l : List ByteArray) (hm : ∀ x ∈ l, x.size <= m) (hp : ∀ x ∈ l, 0 < x.size) : ∀ j, j <= l.length -> (lsS s l j).size <= s.size + j * (m + 3)
 | 0, _ => by rw [jje]; omega
 | j + 1, h => by
  have ih := joq s m l hm hp j (by omega)
  have hx := hm _ (List.getElem_mem (show j < l.length by omega))
  rw [jnG s l hp j (by omega), Nat.succ_mul]
  have g1 := ja0 (lsS s l j) pComma
  have e1 : pComma.size = 1 := rfl
  have g2 := ja0 (if j = 0 then lsS s l j else ja1 (lsS s l j) pComma) (l[j]'(by omega))
  by_cases h0 : j = 0
  ·rw [if_pos h0] at g2 ⊢; omega
  ·rw [if_neg h0] at g2 ⊢; omega
theorem jee (m : Nat) (hm : m <= 1000000) (l : List Nt) (hl : l.length <= 100) (hf : ∀ f ∈ l, PX m f) (s : ByteArray) (hs : s.size <= 300000000) : jll 120 [[.adr PrT, .own 0]] s [.box 0 0, .sl 4 l.length (jaR l)] fun o s' r => o = [[.adr PrT, .own 0]] /\ s' = ja1 s (jb0 false l) /\ r = .tup [] := by
 have hpos : ∀ x ∈ l.map (fun f => shN false f 1), 0 < x.size := fun x hx => by
  obtain ⟨f, h1, rfl⟩ := List.mem_map.1 hx
  exact (hf f h1).2.1 1
 have hmax : ∀ x ∈ l.map (fun f => shN false f 1), x.size <= m := fun x hx => by
  obtain ⟨f, h1, rfl⟩ := List.mem_map.1 hx
  exact ((hf f h1).1 1 (by decide) (by decide)).1
 obtain ⟨S, hS⟩ : ∃ S : Nat -> ByteArray, ∀ j, S j = lsS s (l.map fun f => shN false f 1) j := ⟨_, fun _ => rfl⟩
 have hS0 : S 0 = s := by rw [hS]; exact jje _ _
 have hSl : ja1 s (jb0 false l) = ja1 (S l.length) pSemi := by
  rw [hS];unfold lsS jb0;rw [show l.length = (l.map fun f => shN false f 1).length by simp, List.take_length]
  by_cases h0 : l = []
  ·subst h0
   show ja1 s (eB ++ pSemi) = ja1 (ja1 s eB) pSemi
   rw [jhe]; rfl
  ·have hc := juP (l.map fun f => shN false f 1) (by simpa using h0) hpos
   rw [jaH s _ _ hc, jbD _ pSemi (by decide)]
 have hSn : ∀ j (h : j < l.length), S (j + 1) = ja1 (if j = 0 then S j else ja1 (S j) pComma) (shN false l[j] 1) := fun j h => by
  rw [hS, hS, jnG _ _ hpos j (by simpa using h), List.getElem_map]
 have hSz : ∀ j, j <= l.length -> (S j).size <= s.size + 100 * 1000003 := fun j hj => by
  rw [hS]
  have := joq s m _ hmax hpos j (by simpa using hj)
  have h2 : j * (m + 3) <= 100 * 1000003 := Nat.mul_le_mul (by omega) (by omega)
  omega
 rw [hSl, <- hS0]
 have hz0 : s.size <= 300000000 := hs
 refine jan (ja2 jal xs0 1) (fun _ _ h => h) Tryz.func120 rfl (by kernel_rfl) rfl (by kernel_rfl) ?_;intro _;conv => whnf
 refine jak [0, 6, 7] ?_;conv => whnf
 refine jaJ (fun j : Nat => [(8, .v (.int .i64 j))]) (fun _ => [[.adr PrT, .own 0]]) (fun j => [.live 5 0 (S j).size [.v (.string (S j))]]) (fun j => j <= l.length) (fun j => l.length - j) 0 ?_ (Nat.zero_le _) ?_
 ·repeat' constructor
 rintro j hj;conv => whnf
 have hz1 := hSz j hj
 by_cases hlt : j < l.length
 ·rw [decide_eq_true (show (j : Int) < (l.length : Int) by omega)]
  have hrow := jbr l j hlt
  have hSn := hSn j hlt
  have hg := hf _ (List.getElem_mem hlt)
  generalize l[j] = g at *
  have hyz := (hg.1 1 (by decide) (by decide)).1
  have hx := fun s hs => hg.2.2 s 1 (by decide) (by decide) hs
  generalize shN false g 1 = y at *;conv => whnf
  refine ⟨by omega, ?_⟩;conv => whnf
  (generalize hrq : jae _ _ (jaR l) = rq; obtain rfl : rq = ntA g := hrq.symm.trans (hrow); clear hrq; conv => whnf)
  by_cases hj0 : j = 0
  ·subst hj0;rw [if_pos rfl] at hSn;conv => whnf
   refine ja6 0 0 1 [] rfl rfl rfl rfl rfl rfl rfl (fun _ => hx (S 0) (by omega)) ?_;rintro o n' cs' r ⟨s4, rfl, rfl, ho, hs4, rfl⟩;cases ho;conv => whnf
   refine ⟨jaL (by omega), ?_⟩;conv => whnf
   refine ⟨0 + 1, jas [1] ?_, hlt, by omega⟩;conv => whnf
   rw [hs4, show S (0 + 1) = _ from hSn]
   repeat' constructor
  ·rw [if_neg hj0] at hSn
   have hz5 := ja0 (S j) pComma
   have e1 : pComma.size = 1 := rfl
   conv => whnf
   rw [decide_eq_true (show (0 : Int) < (j : Int) by omega)];conv => whnf
   refine ja6 0 0 2 [1] rfl rfl rfl rfl rfl rfl rfl (fun _ => (ja4 (S j) pComma (by decide) (by omega)).r) ?_;rintro o n' cs' r ⟨s3, rfl, rfl, ho, hs3, rfl⟩;cases ho;conv => whnf
   refine ja6 0 2 3 [] rfl rfl rfl rfl rfl rfl rfl (fun _ => hx s3 (by rw [hs3]; omega)) ?_;rintro o n' cs' r ⟨s4, rfl, rfl, ho, hs4, rfl⟩;cases ho;conv => whnf
   refine ⟨jaL (by omega), ?_⟩;conv => whnf
   refine ⟨j + 1, jas [3] ?_, hlt, by omega⟩;conv => whnf
   rw [hs4, hs3, show S (j + 1) = _ from hSn]
   repeat' constructor
 ·rw [decide_eq_false (show ¬ (j : Int) < (l.length : Int) by omega)]
  obtain rfl : j = l.length := by omega
  have e1 : pSemi.size = 1 := rfl
  conv => whnf
  refine ja6 0 0 2 [1] rfl rfl rfl rfl rfl rfl rfl (fun _ => (ja4 (S l.length) pSemi (by decide) (by omega)).r) ?_;rintro o n' cs' r ⟨s', rfl, rfl, ho, hs', rfl⟩;cases ho;conv => whnf
  refine ⟨2, ?_⟩;conv => whnf
  exact ⟨_, rfl, rfl, rfl, hs', rfl⟩
def PT (m : Nat) (f : Nt) : Prop := ST false m f /\ 0 < (stP false f).size /\ ∀ s : ByteArray, s.size + m + 100 <= 250000000 -> jll 89 [[.adr PrT, .own 0]] s [.box 0 0, .agg (ntA f)] fun o s' r => o = [[.adr PrT, .own 0]] /\ s' = ja1 s (stP false f) /\ r = .tup []
def PB (m : Nat) (f : Nt) : Prop := BK false m f /\ 0 < (bkP false f).size /\ ∀ s : ByteArray, s.size + m + 100 <= 250000000 -> jll 52 [[.adr PrT, .own 0]] s [.box 0 0, .agg (ntA f)] fun o s' r => o = [[.adr PrT, .own 0]] /\ s' = ja1 s (bkP false f) /\ r = .tup []
theorem PT.mono {m m' : Nat} {f : Nt} (h : PT m f) (hm : m <= m') : PT m' f := ⟨⟨Nat.le_trans h.1.1 hm, h.1.2⟩, h.2.1, fun s hs => h.2.2 s (by omega)⟩
theorem PB.mono {m m' : Nat} {f : Nt} (h : PB m f) (hm : m <= m') : PB m' f := ⟨⟨Nat.le_trans h.1.1 hm, h.1.2⟩, h.2.1, fun s hs => h.2.2 s (by omega)⟩
theorem jkU (l : List Nt) : 0 < (jb0 false l).size := by
 unfold jb0;rw [ByteArray.size_append]
 have : pSemi.size = 1 := rfl
 omega
theorem jqr (k : Int) (hk : k = 1 ∨ k = 8 ∨ k = 9) (s0 : ByteArray) (hs0 : s0.size <= 12) (hne : k = 1 -> 0 < s0.size) (m : Nat) (hm : m <= 1000000) (l : List Nt) (hl : l.length <= 2) (hf : ∀ f ∈ l, PX m f) : PT (2 * m + 40) (.mk k 0 s0 l) := by
 have hst := joi false k hk s0 hs0 m hm l hl fun f h => (hf f h).1
 have hlp := jkU l
 have c1 : pEq.size = 1 := rfl
 have c2 : wReply.size = 5 := rfl
 have c3 : wFail.size = 4 := rfl
 rcases hk with rfl | rfl | rfl
 ·have e : stP false (.mk 1 0 s0 l) = jb5 [s0, pEq, jb0 false l] := rfl
  have hne := hne rfl
  have hall : ∀ x ∈ [s0, pEq, jb0 false l], 0 < x.size := by
   intro x hx;simp only [List.mem_cons, List.not_mem_nil, or_false] at hx
   rcases hx with rfl | rfl | rfl
   ·exact hne
   ·decide
   ·exact hlp
  refine ⟨hst, by rw [e]; exact jbf (jbK _ (by simp) hall), fun s hs => ?_⟩;rw [e];refine jan (ja2 jal xs0 1) (fun _ _ h => h) Tryz.func89 rfl (by kernel_rfl) rfl (by kernel_rfl) ?_;intro _;conv => whnf
  refine ja6 0 0 2 [1] rfl rfl rfl rfl rfl rfl rfl (fun _ => (jbJ s s0 pEq hne (by decide) (by omega)).r) ?_;rintro o n' cs' r ⟨s', rfl, rfl, ho, hs', rfl⟩;cases ho;conv => whnf
  have hz2 : s'.size <= s.size + 15 := by
   have g1 := ja0 s s0
   have g2 := ja0 (ja1 s s0) pEq
   rw [<- hs'] at g2;omega
  have hs2 := hs'
  clear hs';generalize s' = s2 at *;refine ja6 0 2 3 [] rfl rfl rfl rfl rfl rfl rfl (fun _ => (jee m hm l (by omega) hf s2 (by omega))) ?_;rintro o n' cs' r ⟨s', rfl, rfl, ho, hs', rfl⟩;cases ho;conv => whnf
  refine ⟨3, ?_⟩;conv => whnf
  refine ⟨_, rfl, rfl, rfl, ?_, rfl⟩;rw [hs', hs2, <- jaT s 3 [s0, pEq, jb0 false l] rfl hall];rfl
 ·have e : stP false (.mk 8 0 s0 l) = jb5 [wReply, jb0 false l] := rfl
  have hall : ∀ x ∈ [wReply, jb0 false l], 0 < x.size := by
   intro x hx;simp only [List.mem_cons, List.not_mem_nil, or_false] at hx
   rcases hx with rfl | rfl
   ·decide
   ·exact hlp
  refine ⟨hst, by rw [e]; exact jbf (jbK _ (by simp) hall), fun s hs => ?_⟩;rw [e];refine jan (ja2 jal xs0 1) (fun _ _ h => h) Tryz.func89 rfl (by kernel_rfl) rfl (by kernel_rfl) ?_;intro _;conv => whnf
  refine ja6 0 0 2 [1] rfl rfl rfl rfl rfl rfl rfl (fun _ => (ja4 s wReply (by decide) (by omega)).r) ?_;rintro o n' cs' r ⟨s', rfl, rfl, ho, hs', rfl⟩;cases ho;conv => whnf
  have hz2 := ja0 s wReply
  rw [<- hs'] at hz2
  have hs2 := hs'
  clear hs';generalize s' = s2 at *;refine ja6 0 2 3 [] rfl rfl rfl rfl rfl rfl rfl (fun _ => (jee m hm l (by omega) hf s2 (by omega))) ?_;rintro o n' cs' r ⟨s', rfl, rfl, ho, hs', rfl⟩;cases ho;conv => whnf
  refine ⟨3, ?_⟩;conv => whnf
  refine ⟨_, rfl, rfl, rfl, ?_, rfl⟩;rw [hs', hs2, <- jaT s 2 [wReply, jb0 false l] rfl hall];rfl
 ·have e : stP false (.mk 9 0 s0 l) = jb5 [wFail, jb0 false l] := rfl
  have hall : ∀ x ∈ [wFail, jb0 false l], 0 < x.size := by
   intro x hx;simp only [List.mem_cons, List.not_mem_nil, or_false] at hx
   rcases hx with rfl | rfl
   ·decide
   ·exact hlp
  refine ⟨hst, by rw [e]; exact jbf (jbK _ (by simp) hall), fun s hs => ?_⟩;rw [e];refine jan (ja2 jal xs0 1) (fun _ _ h => h) Tryz.func89 rfl (by kernel_rfl) rfl (by kernel_rfl) ?_;intro _;conv => whnf
  refine ja6 0 0 2 [1] rfl rfl rfl rfl rfl rfl rfl (fun _ => (ja4 s wFail (by decide) (by omega)).r) ?_;rintro o n' cs' r ⟨s', rfl, rfl, ho, hs', rfl⟩;cases ho;conv => whnf
  have hz2 := ja0 s wFail
  rw [<- hs'] at hz2
  have hs2 := hs'
  clear hs';generalize s' = s2 at *;refine ja6 0 2 3 [] rfl rfl rfl rfl rfl rfl rfl (fun _ => (jee m hm l (by omega) hf s2 (by omega))) ?_;rintro o n' cs' r ⟨s', rfl, rfl, ho, hs', rfl⟩;cases ho;conv => whnf
  refine ⟨3, ?_⟩;conv => whnf
  refine ⟨_, rfl, rfl, rfl, ?_, rfl⟩;rw [hs', hs2, <- jaT s 2 [wFail, jb0 false l] rfl hall];rfl
theorem jv0 (k : Int) (hk : k = 5 ∨ k = 6) (n : Nat) (hn : n < 1000) : PT 40 (.mk k n eB []) := by
 have hst := jqa false k hk n hn
 have hdc := jdf n (by omega)
 rw [show ((n : Int)).toNat = n by omega] at hdc
 have hds := jb8 n (by omega)
 have hdp := jeb n
 have c1 : pSemi.size = 1 := rfl
 have c2 : wTimer.size = 5 := rfl
 have c3 : wCancel.size = 6 := rfl
 rcases hk with rfl | rfl
 ·have e : stP false (.mk 5 n eB []) = jb5 [wTimer, bs (jb1 n), pSemi] := rfl
  have hall : ∀ x ∈ [wTimer, bs (jb1 n), pSemi], 0 < x.size := by
   intro x hx;simp only [List.mem_cons, List.not_mem_nil, or_false] at hx
   rcases hx with rfl | rfl | rfl
   ·decide
   ·exact hdp
   ·decide
  refine ⟨hst, by rw [e]; exact jbf (jbK _ (by simp) hall), fun s hs => ?_⟩;rw [e]
  have hpf := jaT s 3 [wTimer, bs (jb1 n), pSemi] rfl hall
  generalize bs (jb1 n) = x at *;refine jan (ja2 jal xs0 1) (fun _ _ h => h) Tryz.func89 rfl (by kernel_rfl) rfl (by kernel_rfl) ?_;intro _;conv => whnf
  (refine ja9 [] rfl (fun _ => hdc) ?_; rintro r rfl; conv => whnf)
  refine ja6 0 0 2 [1] rfl rfl rfl rfl rfl rfl rfl (fun _ => (jhI s wTimer x pSemi (by decide) hdp (by decide) (by omega)).r) ?_;rintro o n' cs' r ⟨s', rfl, rfl, ho, hs', rfl⟩;cases ho;conv => whnf
  refine ⟨2, ?_⟩;conv => whnf
  refine ⟨_, rfl, rfl, rfl, ?_, rfl⟩;rw [hs', <- hpf];rfl
 ·have e : stP false (.mk 6 n eB []) = jb5 [wCancel, bs (jb1 n), pSemi] := rfl
  have hall : ∀ x ∈ [wCancel, bs (jb1 n), pSemi], 0 < x.size := by
   intro x hx;simp only [List.mem_cons, List.not_mem_nil, or_false] at hx
   rcases hx with rfl | rfl | rfl
   ·decide
   ·exact hdp
   ·decide
  refine ⟨hst, by rw [e]; exact jbf (jbK _ (by simp) hall), fun s hs => ?_⟩;rw [e]
  have hpf := jaT s 3 [wCancel, bs (jb1 n), pSemi] rfl hall
  generalize bs (jb1 n) = x at *;refine jan (ja2 jal xs0 1) (fun _ _ h => h) Tryz.func89 rfl (by kernel_rfl) rfl (by kernel_rfl) ?_;intro _;conv => whnf
  (refine ja9 [] rfl (fun _ => hdc) ?_; rintro r rfl; conv => whnf)
  refine ja6 0 0 2 [1] rfl rfl rfl rfl rfl rfl rfl (fun _ => (jhI s wCancel x pSemi (by decide) hdp (by decide) (by omega)).r) ?_;rintro o n' cs' r ⟨s', rfl, rfl, ho, hs', rfl⟩;cases ho;conv => whnf
  refine ⟨2, ?_⟩;conv => whnf
  refine ⟨_, rfl, rfl, rfl, ?_, rfl⟩;rw [hs', <- hpf];rfl
theorem jvb (k : Int) (hk : k = 7 ∨ k = 10) : PT 40 (.mk k 0 eB []) := by
 have hst := jqJ false k hk
 have c1 : pSemi.size = 1 := rfl
 have c2 : (⟨#[115, 121, 110, 99]⟩ : ByteArray).size = 4 := rfl
 have c3 : (⟨#[115, 116, 111, 112]⟩ : ByteArray).size = 4 := rfl
 rcases hk with rfl | rfl
 ·refine ⟨hst, show 0 < syncB.size by decide, fun s hs => ?_⟩;rw [show stP false (.mk 7 0 eB []) = jb5 [⟨#[115, 121, 110, 99]⟩, pSemi] by decide]
  have hpf := jaT s 2 [⟨#[115, 121, 110, 99]⟩, pSemi] rfl (by decide)
  refine jan (ja2 jal xs0 1) (fun _ _ h => h) Tryz.func89 rfl (by kernel_rfl) rfl (by kernel_rfl) ?_;intro _;conv => whnf
  refine ja6 0 0 2 [1] rfl rfl rfl rfl rfl rfl rfl (fun _ => (jbJ s ⟨#[115, 121, 110, 99]⟩ pSemi (by decide) (by decide) (by omega)).r) ?_;rintro o n' cs' r ⟨s', rfl, rfl, ho, hs', rfl⟩;cases ho;conv => whnf
  refine ⟨2, ?_⟩;conv => whnf
  refine ⟨_, rfl, rfl, rfl, ?_, rfl⟩;rw [hs'];exact hpf
 ·refine ⟨hst, show 0 < stopB.size by decide, fun s hs => ?_⟩;rw [show stP false (.mk 10 0 eB []) = jb5 [⟨#[115, 116, 111, 112]⟩, pSemi] by decide]
  have hpf := jaT s 2 [⟨#[115, 116, 111, 112]⟩, pSemi] rfl (by decide)
  refine jan (ja2 jal xs0 1) (fun _ _ h => h) Tryz.func89 rfl (by kernel_rfl) rfl (by kernel_rfl) ?_;intro _;conv => whnf
  refine ja6 0 0 2 [1] rfl rfl rfl rfl rfl rfl rfl (fun _ => (jbJ s ⟨#[115, 116, 111, 112]⟩ pSemi (by decide) (by decide) (by omega)).r) ?_;rintro o n' cs' r ⟨s', rfl, rfl, ho, hs', rfl⟩;cases ho;conv => whnf
  refine ⟨2, ?_⟩;conv => whnf
  refine ⟨_, rfl, rfl, rfl, ?_, rfl⟩;rw [hs'];exact hpf
theorem jyD (n : Nat) (hn : n < 1000) (m : Nat) (hm : m <= 1000000) (f g h : Nt) (hf : PX m f) (hg : PX m g) (hh : PX m h) : PT (3 * m + 80) (.mk 4 n eB [f, g, h]) := by
 have hst := juv false n hn m hm f g h hf.1 hg.1 hh.1
 have hgh : ∀ x ∈ [g, h], PX m x := fun x hx => by
  simp only [List.mem_cons, List.not_mem_nil, or_false] at hx
  rcases hx with rfl | rfl
  ·exact hg
  ·exact hh
 have hlp := jkU [g, h]
 have hdc := jdf n (by omega)
 rw [show ((n : Int)).toNat = n by omega] at hdc
 have hds := jb8 n (by omega)
 have hdp := jeb n
 have c1 : pComma.size = 1 := rfl
 have c2 : wSend.size = 4 := rfl
 have e : stP false (.mk 4 n eB [f, g, h]) = jb5 [wSend, shN false f 1, pComma, bs (jb1 n), pComma, jb0 false [g, h]] := rfl
 have hy := hf.2.1 1
 have hyz := (hf.1 1 (by decide) (by decide)).1
 have hall : ∀ x ∈ [wSend, shN false f 1, pComma, bs (jb1 n), pComma, jb0 false [g, h]], 0 < x.size := by
  intro x hx;simp only [List.mem_cons, List.not_mem_nil, or_false] at hx
  rcases hx with rfl | rfl | rfl | rfl | rfl | rfl
  ·decide
  ·exact hy
  ·decide
  ·exact hdp
  ·decide
  ·exact hlp
 refine ⟨hst, by rw [e]; exact jbf (jbK _ (by simp) hall), fun s hs => ?_⟩;rw [e]
 have hpf := jaT s 6 [wSend, shN false f 1, pComma, bs (jb1 n), pComma, jb0 false [g, h]] rfl hall
 have hls := fun s hs => jee m hm [g, h] (by simp) hgh s hs
 have hx1 := fun s hs => hf.2.2 s 1 (by decide) (by decide) hs
 rw [<- hpf];clear hpf hall hlp e;generalize jb0 false [g, h] = x at *;generalize bs (jb1 n) = d at *;generalize shN false f 1 = y at *
 have hr := (jsv f g h).1
 have hdr : ((jaR [f, g, h]).drop 4).take 8 = jaR [g, h] := by
  rw [jaE f [g, h], List.drop_left' (by rfl), List.take_of_length_le (by rw [jnS]; simp)]
 rw [<- hdr] at hls;refine jan (ja2 jal xs0 1) (fun _ _ h => h) Tryz.func89 rfl (by kernel_rfl) rfl (by kernel_rfl) ?_;intro _;conv => whnf
 refine ja6 0 0 2 [1] rfl rfl rfl rfl rfl rfl rfl (fun _ => (ja4 s wSend (by decide) (by omega)).r) ?_;rintro o n' cs' r ⟨s', rfl, rfl, ho, hs', rfl⟩;cases ho;conv => whnf
 have hz2 := ja0 s wSend
 rw [<- hs'] at hz2
 have hs2 := hs'
 clear hs';generalize s' = s2 at *;refine ⟨by simp [Nt.kids], ?_⟩;conv => whnf
 (generalize hrq : jae _ _ (jaR (Nt.mk 4 n eB [f, g, h]).kids) = rq; obtain rfl : rq = ntA f := hrq.symm.trans (hr); clear hrq; conv => whnf)
 refine ja6 0 2 3 [] rfl rfl rfl rfl rfl rfl rfl (fun _ => (hx1 s2 (by omega))) ?_;rintro o n' cs' r ⟨s', rfl, rfl, ho, hs', rfl⟩;cases ho;conv => whnf
 have hz3 := ja0 s2 y
 rw [<- hs'] at hz3
 have hs3 := hs'
 clear hs';generalize s' = s3 at *
 (refine ja9 [] rfl (fun _ => hdc) ?_; rintro r rfl; conv => whnf)
 refine ja6 0 3 5 [4] rfl rfl rfl rfl rfl rfl rfl (fun _ => (jhI s3 pComma d pComma (by decide) hdp (by decide) (by omega)).r) ?_;rintro o n' cs' r ⟨s', rfl, rfl, ho, hs', rfl⟩;cases ho;conv => whnf
 have hz4 : s'.size <= s3.size + 18 := by
  have g1 := ja0 s3 pComma
  have g2 := ja0 (ja1 s3 pComma) d
  have g3 := ja0 (ja1 (ja1 s3 pComma) d) pComma
  rw [<- hs'] at g3;omega
 have hs4 := hs'
 clear hs';generalize s' = s4 at *;refine ⟨by simp [Nt.kids], ?_⟩;conv => whnf
 refine ja6 0 5 6 [] rfl rfl rfl rfl rfl rfl rfl (fun _ => (hls s4 (by omega))) ?_;rintro o n' cs' r ⟨s', rfl, rfl, ho, hs', rfl⟩;cases ho;conv => whnf
 refine ⟨6, ?_⟩;conv => whnf
 refine ⟨_, rfl, rfl, rfl, ?_, rfl⟩;rw [hs', hs4, hs3, hs2];rfl
theorem jzf (m : Nat) (hm : m <= 100000000) (c b : Nt) (hc : PX m c) (hb : PB m b) : PT (2 * m + 40) (.mk 3 0 eB [c, b]) := by
 have hst := juQ false m hm c b hc.1 hb.1
 have c2 : wWhile.size = 5 := rfl
 have e : stP false (.mk 3 0 eB [c, b]) = jb5 [wWhile, shN false c 1, bkP false b] := rfl
 have hyz := (hc.1 1 (by decide) (by decide)).1
 have hall : ∀ x ∈ [wWhile, shN false c 1, bkP false b], 0 < x.size := by
  intro x hx;simp only [List.mem_cons, List.not_mem_nil, or_false] at hx
  rcases hx with rfl | rfl | rfl
  ·decide
  ·exact hc.2.1 1
  ·exact hb.2.1
 refine ⟨hst, by rw [e]; exact jbf (jbK _ (by simp) hall), fun s hs => ?_⟩;rw [e, <- jaT s 3 [wWhile, shN false c 1, bkP false b] rfl hall]
 have hx1 := fun s hs => hc.2.2 s 1 (by decide) (by decide) hs
 have hx2 := hb.2.2
 clear hall e;generalize shN false c 1 = y at *;generalize bkP false b = x at *
 have hr := jnH c b
 have hr2 := jnq c b
 refine jan (ja2 jal xs0 1) (fun _ _ h => h) Tryz.func89 rfl (by kernel_rfl) rfl (by kernel_rfl) ?_;intro _;conv => whnf
 refine ja6 0 0 2 [1] rfl rfl rfl rfl rfl rfl rfl (fun _ => (ja4 s wWhile (by decide) (by omega)).r) ?_;rintro o n' cs' r ⟨s', rfl, rfl, ho, hs', rfl⟩;cases ho;conv => whnf
 have hz2 := ja0 s wWhile
 rw [<- hs'] at hz2
 have hs2 := hs'
 clear hs';generalize s' = s2 at *;refine ⟨by simp [Nt.kids], ?_⟩;conv => whnf
 (generalize hrq : jae _ _ (jaR (Nt.mk 3 0 eB [c, b]).kids) = rq; obtain rfl : rq = ntA c := hrq.symm.trans (hr); clear hrq; conv => whnf)
 refine ja6 0 2 3 [] rfl rfl rfl rfl rfl rfl rfl (fun _ => (hx1 s2 (by omega))) ?_;rintro o n' cs' r ⟨s', rfl, rfl, ho, hs', rfl⟩;cases ho;conv => whnf
 have hz3 := ja0 s2 y
 rw [<- hs'] at hz3
 have hs3 := hs'
 clear hs';generalize s' = s3 at *;refine ⟨by simp [Nt.kids], ?_⟩;conv => whnf
 (generalize hrq : jae _ _ (jaR (Nt.mk 3 0 eB [c, b]).kids) = rq; obtain rfl : rq = ntA b := hrq.symm.trans (hr2); clear hrq; conv => whnf)
 refine ja6 0 3 4 [] rfl rfl rfl rfl rfl rfl rfl (fun _ => (hx2 s3 (by omega))) ?_;rintro o n' cs' r ⟨s', rfl, rfl, ho, hs', rfl⟩;cases ho;conv => whnf
 refine ⟨4, ?_⟩;conv => whnf
 refine ⟨_, rfl, rfl, rfl, ?_, rfl⟩;rw [hs', hs3, hs2];rfl
theorem jxs (m : Nat) (hm : m <= 50000000) (c b d : Nt) (hc : PX m c) (hb : PB m b) (hd : PB m d) : PT (3 * m + 60) (.mk 2 0 eB [c, b, d]) := by
 have hst := juo false m hm c b d hc.1 hb.1 hd.1
 have c2 : wIf.size = 2 := rfl
 have c3 : wElse.size = 4 := rfl
 have e : stP false (.mk 2 0 eB [c, b, d]) = if 0 < d.kids.length then jb5 [jb5 [wIf, shN false c 1, bkP false b], wElse, bkP false d] else jb5 [wIf, shN false c 1, bkP false b] := rfl
 have hyz := (hc.1 1 (by decide) (by decide)).1
 have hbz := hb.1.1
 have hdz := hd.1.1
 have hall : ∀ x ∈ [wIf, shN false c 1, bkP false b], 0 < x.size := by
  intro x hx;simp only [List.mem_cons, List.not_mem_nil, or_false] at hx
  rcases hx with rfl | rfl | rfl
  ·decide
  ·exact hc.2.1 1
  ·exact hb.2.1
 have hv := jbf (jbK [wIf, shN false c 1, bkP false b] (by simp) hall)
 have hall2 : ∀ x ∈ [jb5 [wIf, shN false c 1, bkP false b], wElse, bkP false d], 0 < x.size := by
  intro x hx;simp only [List.mem_cons, List.not_mem_nil, or_false] at hx
  rcases hx with rfl | rfl | rfl
  ·exact hv
  ·decide
  ·exact hd.2.1
 refine ⟨hst, by rw [e]; split; exact jbf (jbK _ (by simp) hall2); exact hv, fun s hs => ?_⟩
 have hpf := jaT s 3 [wIf, shN false c 1, bkP false b] rfl hall
 have hpf2 := jaT s 3 [jb5 [wIf, shN false c 1, bkP false b], wElse, bkP false d] rfl hall2
 have hx1 := fun s hs => hc.2.2 s 1 (by decide) (by decide) hs
 have hx2 := hb.2.2
 have hx3 := hd.2.2
 rw [e];clear hall hall2 hv e hst;generalize hvv : jb5 [wIf, shN false c 1, bkP false b] = v at *;clear hvv;generalize shN false c 1 = y at *;generalize bkP false b = x at *;generalize bkP false d = z at *
 obtain ⟨hr, hr2, hr3⟩ := jsv c b d
 have hpf3 : ja1 (ja1 (ja1 s wIf) y) x = ja1 s v := hpf
 by_cases hl : 0 < d.kids.length
 ·rw [if_pos hl];refine jan (ja2 jal xs0 1) (fun _ _ h => h) Tryz.func89 rfl (by kernel_rfl) rfl (by kernel_rfl) ?_;intro _;conv => whnf
  refine ja6 0 0 2 [1] rfl rfl rfl rfl rfl rfl rfl (fun _ => (ja4 s wIf (by decide) (by omega)).r) ?_;rintro o n' cs' r ⟨s', rfl, rfl, ho, hs', rfl⟩;cases ho;conv => whnf
  have hz2 := ja0 s wIf
  rw [<- hs'] at hz2
  have hs2 := hs'
  clear hs';generalize s' = s2 at *;refine ⟨by simp [Nt.kids], ?_⟩;conv => whnf
  (generalize hrq : jae _ _ (jaR (Nt.mk 2 0 eB [c, b, d]).kids) = rq; obtain rfl : rq = ntA c := hrq.symm.trans (hr); clear hrq; conv => whnf)
  refine ja6 0 2 3 [] rfl rfl rfl rfl rfl rfl rfl (fun _ => (hx1 s2 (by omega))) ?_;rintro o n' cs' r ⟨s', rfl, rfl, ho, hs', rfl⟩;cases ho;conv => whnf
  have hz3 := ja0 s2 y
  rw [<- hs'] at hz3
  have hs3 := hs'
  clear hs';generalize s' = s3 at *;refine ⟨by simp [Nt.kids], ?_⟩;conv => whnf
  (generalize hrq : jae _ _ (jaR (Nt.mk 2 0 eB [c, b, d]).kids) = rq; obtain rfl : rq = ntA b := hrq.symm.trans (hr2); clear hrq; conv => whnf)
  refine ja6 0 3 4 [] rfl rfl rfl rfl rfl rfl rfl (fun _ => (hx2 s3 (by omega))) ?_;rintro o n' cs' r ⟨s', rfl, rfl, ho, hs', rfl⟩;cases ho;conv => whnf
  have hz4 := ja0 s3 x
  rw [<- hs'] at hz4
  have hs4 := hs'
  clear hs';generalize s' = s4 at *;refine ⟨by simp [Nt.kids], ?_⟩;conv => whnf
  (generalize hrq : jae _ _ (jaR (Nt.mk 2 0 eB [c, b, d]).kids) = rq; obtain rfl : rq = ntA d := hrq.symm.trans (hr3); clear hrq; conv => whnf)
  rw [decide_eq_true (show 0 < (d.kids.length : Int) by omega)];conv => whnf
  refine ja6 0 4 6 [5] rfl rfl rfl rfl rfl rfl rfl (fun _ => (ja4 s4 wElse (by decide) (by omega)).r) ?_;rintro o n' cs' r ⟨s', rfl, rfl, ho, hs', rfl⟩;cases ho;conv => whnf
  have hz5 := ja0 s4 wElse
  rw [<- hs'] at hz5
  have hs5 := hs'
  clear hs';generalize s' = s5 at *;refine ⟨by simp [Nt.kids], ?_⟩;conv => whnf
  (generalize hrq : jae _ _ (jaR (Nt.mk 2 0 eB [c, b, d]).kids) = rq; obtain rfl : rq = ntA d := hrq.symm.trans (hr3); clear hrq; conv => whnf)
  refine ja6 0 6 7 [] rfl rfl rfl rfl rfl rfl rfl (fun _ => (hx3 s5 (by omega))) ?_;rintro o n' cs' r ⟨s', rfl, rfl, ho, hs', rfl⟩;cases ho;conv => whnf
  refine ⟨7, ?_⟩;conv => whnf
  refine ⟨_, rfl, rfl, rfl, ?_, rfl⟩;rw [hs', hs5, hs4, hs3, hs2, hpf3, <- hpf2];rfl
 ·rw [if_neg hl];refine jan (ja2 jal xs0 1) (fun _ _ h => h) Tryz.func89 rfl (by kernel_rfl) rfl (by kernel_rfl) ?_;intro _;conv => whnf
  refine ja6 0 0 2 [1] rfl rfl rfl rfl rfl rfl rfl (fun _ => (ja4 s wIf (by decide) (by omega)).r) ?_;rintro o n' cs' r ⟨s', rfl, rfl, ho, hs', rfl⟩;cases ho;conv => whnf
  have hz2 := ja0 s wIf
  rw [<- hs'] at hz2
  have hs2 := hs'
  clear hs';generalize s' = s2 at *;refine ⟨by simp [Nt.kids], ?_⟩;conv => whnf
  (generalize hrq : jae _ _ (jaR (Nt.mk 2 0 eB [c, b, d]).kids) = rq; obtain rfl : rq = ntA c := hrq.symm.trans (hr); clear hrq; conv => whnf)
  refine ja6 0 2 3 [] rfl rfl rfl rfl rfl rfl rfl (fun _ => (hx1 s2 (by omega))) ?_;rintro o n' cs' r ⟨s', rfl, rfl, ho, hs', rfl⟩;cases ho;conv => whnf
  have hz3 := ja0 s2 y
  rw [<- hs'] at hz3
  have hs3 := hs'
  clear hs';generalize s' = s3 at *;refine ⟨by simp [Nt.kids], ?_⟩;conv => whnf
  (generalize hrq : jae _ _ (jaR (Nt.mk 2 0 eB [c, b, d]).kids) = rq; obtain rfl : rq = ntA b := hrq.symm.trans (hr2); clear hrq; conv => whnf)
  refine ja6 0 3 4 [] rfl rfl rfl rfl rfl rfl rfl (fun _ => (hx2 s3 (by omega))) ?_;rintro o n' cs' r ⟨s', rfl, rfl, ho, hs', rfl⟩;cases ho;conv => whnf
  have hz4 := ja0 s3 x
  rw [<- hs'] at hz4
  have hs4 := hs'
  clear hs';generalize s' = s4 at *;refine ⟨by simp [Nt.kids], ?_⟩;conv => whnf
  (generalize hrq : jae _ _ (jaR (Nt.mk 2 0 eB [c, b, d]).kids) = rq; obtain rfl : rq = ntA d := hrq.symm.trans (hr3); clear hrq; conv => whnf)
  rw [decide_eq_false (show ¬ 0 < (d.kids.length : Int) by omega)];conv => whnf
  refine ⟨4, ?_⟩;conv => whnf
  refine ⟨_, rfl, rfl, rfl, ?_, rfl⟩;rw [hs4, hs3, hs2, hpf3]
theorem jjO (m : Nat) (hm : m <= 1000000) (l : List Nt) (hl : l.length <= 3) (hf : ∀ f ∈ l, PT m f) : PB (3 * m + 10) (jbc l) := by
 have hbk := jh4 false m hm l hl fun f h => (hf f h).1
 have c1 : pLb.size = 1 := rfl
 have c2 : pRb.size = 1 := rfl
 have e : bkP false (jbc l) = bkL false l ++ pRb := jsh _ _ _ _ _
 refine ⟨hbk, by rw [e, ByteArray.size_append]; omega, fun s hs => ?_⟩
 have hpos : ∀ x ∈ pLb :: l.map (stP false), 0 < x.size := fun x hx => by
  rcases List.mem_cons.1 hx with rfl | hx
  ·decide
  ·obtain ⟨f, h1, rfl⟩ := List.mem_map.1 hx
   exact (hf f h1).2.1
 obtain ⟨S, hS⟩ : ∃ S : Nat -> ByteArray, ∀ j, S j = jkp s (pLb :: (l.map (stP false)).take j) := ⟨_, fun _ => rfl⟩
 have hS0 : S 0 = ja1 s pLb := by rw [hS, List.take_zero]; rfl
 have hbL : jb5 (pLb :: l.map (stP false)) = bkL false l := rfl
 have hSl : ja1 s (bkP false (jbc l)) = ja1 (S l.length) pRb := by
  have hne := jbK (pLb :: l.map (stP false)) (by simp) hpos
  rw [hS, show l.length = (l.map (stP false)).length by simp, List.take_length, jaT s _ _ rfl hpos, e, jaH s _ _ hne, hbL, jbD _ pRb (by decide)]
 have hSn : ∀ j (h : j < l.length), S (j + 1) = ja1 (S j) (stP false l[j]) := fun j h => by
  rw [hS, hS];unfold jkp;rw [List.take_succ_eq_append_getElem (by simpa using h), <- List.cons_append, List.foldl_append, List.getElem_map];rfl
 have hSz : ∀ j, j <= l.length -> (S j).size <= s.size + 2 + j * (m + 1) := fun j => by
  induction j with
  | zero =>
   intro _
   have := ja0 s pLb
   rw [hS0]; omega
  | succ j ih =>
   intro hj
   have := ih (by omega)
   have h1 := (hf _ (List.getElem_mem (show j < l.length by omega))).1.1
   have h2 := ja0 (S j) (stP false (l[j]'(by omega)))
   rw [hSn j (by omega), Nat.succ_mul];omega
 rw [hSl];unfold jbc;rw [show ntA (Nt.mk 11 0 eB l) = [jao 11, jao 0, jaS eB, .sl 4 l.length (jaR l)] from rfl];refine jan (ja2 jal xs0 1) (fun _ _ h => h) Tryz.func52 rfl (by kernel_rfl) rfl (by kernel_rfl) ?_;intro _;conv => whnf
 refine ja6 0 0 2 [1] rfl rfl rfl rfl rfl rfl rfl (fun _ => (ja4 s pLb (by decide) (by omega)).r) ?_;rintro o n' cs' r ⟨s', rfl, rfl, ho, hs', rfl⟩;cases ho;conv => whnf
 rw [<- hS0] at hs';subst hs';refine jgP [2] ?_;conv => whnf
 refine jak [0, 3, 10, 11] ?_;conv => whnf
 refine jaJ (fun j : Nat => [(12, .v (.int .i64 j))]) (fun _ => [[.adr PrT, .own 0], [jao 11, jao 0, jaS eB, .sl 4 l.length (jaR l)]]) (fun j => [.live 5 0 (S j).size [.v (.string (S j))]]) (fun j => j <= l.length) (fun j => l.length - j) 0 ?_ (Nat.zero_le _) ?_
 ·repeat' constructor
 rintro j hj;conv => whnf
 have hz1 := hSz j hj
 have hjm : j * (m + 1) <= l.length * (m + 1) := Nat.mul_le_mul_right _ hj
 have hlm : l.length * (m + 1) <= 3 * (m + 1) := Nat.mul_le_mul_right _ hl
 by_cases hlt : j < l.length
 ·rw [decide_eq_true (show (j : Int) < (l.length : Int) by omega)]
  have hrow := jbr l j hlt
  have hSn := hSn j hlt
  have hg := hf _ (List.getElem_mem hlt)
  have hjm2 : (j + 1) * (m + 1) <= 3 * (m + 1) := Nat.mul_le_mul_right _ (by omega)
  rw [Nat.succ_mul] at hjm2;generalize l[j] = g at *
  have hx := hg.2.2
  generalize stP false g = y at *;conv => whnf
  refine ⟨by omega, ?_⟩;conv => whnf
  (generalize hrq : jae _ _ (jaR l) = rq; obtain rfl : rq = ntA g := hrq.symm.trans (hrow); clear hrq; conv => whnf)
  refine ja6 0 0 1 [] rfl rfl rfl rfl rfl rfl rfl (fun _ => hx (S j) (by omega)) ?_;rintro o n' cs' r ⟨s4, rfl, rfl, ho, hs4, rfl⟩;cases ho;conv => whnf
  refine ⟨jaL (by omega), ?_⟩;conv => whnf
  refine ⟨j + 1, jas [1] ?_, hlt, by omega⟩;conv => whnf
  rw [hs4, show S (j + 1) = _ from hSn]
  repeat' constructor
 ·rw [decide_eq_false (show ¬ (j : Int) < (l.length : Int) by omega)]
  obtain rfl : j = l.length := by omega
  conv => whnf
  refine ja6 0 0 2 [1] rfl rfl rfl rfl rfl rfl rfl (fun _ => (ja4 (S l.length) pRb (by decide) (by omega)).r) ?_;rintro o n' cs' r ⟨s', rfl, rfl, ho, hs', rfl⟩;cases ho;conv => whnf
  refine ⟨2, ?_⟩;conv => whnf
  exact ⟨_, rfl, rfl, rfl, hs', rfl⟩
theorem jzz {d : Nat} {f : Nt} (h : ES d f) : cS d <= 1000000 -> PT (cS d) f := by
 have i0 : cI 0 = 14 := rfl
 have i1 : cI 1 = 48 := rfl
 have i2 : cI 2 = 116 := rfl
 have i3 : cI 3 = 252 := rfl
 have hI : ∀ {e : Nat} {f : Nt}, EI e f -> e <= 2 -> PX 252 f := fun {e f} h he => by
  rcases (by omega : e = 0 ∨ e = 1 ∨ e = 2) with rfl | rfl | rfl
  ·exact (jqL h (by decide)).mono (by decide)
  ·exact (jqL h (by decide)).mono (by decide)
  ·exact (jqL h (by decide)).mono (by decide)
 have hB : ∀ {e : Nat} {f : Nt}, EB e f -> e = 1 ∨ e = 2 -> PX 252 f := fun {e f} h he => by
  rcases he with rfl | rfl
  ·exact (jy2 h (by decide)).mono (by decide)
  ·exact (jy2 h (by decide)).mono (by decide)
 have one : ∀ {f : Nt}, PX 252 f -> ∀ x ∈ [f], PX 252 x := fun {f} h x hx => by rw [List.mem_singleton.1 hx]; exact h
 have two : ∀ {f g : Nt}, PX 252 f -> PX 252 g -> ∀ x ∈ [f, g], PX 252 x := fun {f g} h k x hx => by
  rcases List.mem_cons.1 hx with rfl | hx
  ·exact h
  ·rw [List.mem_singleton.1 hx]; exact k
 induction h with
 | asg d e s f hs h he => exact fun _ => (jqr 1 (.inl rfl) s (jjt s hs) (fun _ => jsg s hs) 252 (by decide) [f] (by simp) (one (hI h he))).mono (Nat.le_trans (by decide) (jcX d))
 | snd d n f g h hn h1 h2 h3 => exact fun _ => (jyD n (by omega) 252 (by decide) f g h (hI h1 (by decide)) (hI h2 (by decide)) (hI h3 (by decide))).mono (Nat.le_trans (by decide) (jcX d))
 | tim d n hn => exact fun _ => (jv0 5 (.inl rfl) n (by omega)).mono (Nat.le_trans (by decide) (jcX d))
 | can d n hn => exact fun _ => (jv0 6 (.inr rfl) n (by omega)).mono (Nat.le_trans (by decide) (jcX d))
 | syn d => exact fun _ => (jvb 7 (.inl rfl)).mono (Nat.le_trans (by decide) (jcX d))
 | rep d f g h1 h2 => exact fun _ => (jqr 8 (.inr (.inl rfl)) eB (by decide) (fun h => absurd h (by decide)) 252 (by decide) [f, g] (by simp) (two (hI h1 (by decide)) (hI h2 (by decide)))).mono (Nat.le_trans (by decide) (jcX d))
 | fai d f h1 => exact fun _ => (jqr 9 (.inr (.inr rfl)) eB (by decide) (fun h => absurd h (by decide)) 252 (by decide) [f] (by simp) (one (hI h1 (by decide)))).mono (Nat.le_trans (by decide) (jcX d))
 | stp d => exact fun _ => (jvb 10 (.inr rfl)).mono (Nat.le_trans (by decide) (jcX d))
 | whi d c l h1 h2 h3 ih =>
  intro hc
  have e : cS (d + 1) = 700 + 3 * (3 * cS d + 10) := rfl
  rw [e] at hc ⊢
  have hge := jcX d
  have hb := jjO (cS d) (by omega) l (by omega) (fun s hs => ih s hs (by omega))
  exact (jzf (3 * cS d + 10) (by omega) c (jbc l) ((hB h1 (.inl rfl)).mono (by omega)) hb).mono (by omega)
 | iff d c l m h1 h2 h3 h4 h5 ih1 ih2 =>
  intro hc
  have e : cS (d + 1) = 700 + 3 * (3 * cS d + 10) := rfl
  rw [e] at hc ⊢
  have hge := jcX d
  have hb := jjO (cS d) (by omega) l (by omega) (fun s hs => ih1 s hs (by omega))
  have hb2 := jjO (cS d) (by omega) m (by omega) (fun s hs => ih2 s hs (by omega))
  exact (jxs (3 * cS d + 10) (by omega) c (jbc l) (jbc m) ((hB h1 (.inr rfl)).mono (by omega)) hb hb2).mono (by omega)
theorem jzK {b : Nt} (h : EK b) : PB 300000 b := by
 obtain ⟨k, rfl, h1, h2⟩ := h
 have e2 : cS 2 = 80200 := rfl
 exact (jjO (cS 2) (by omega) k h1 (fun s hs => jzz (h2 s hs) (by omega))).mono (by omega)
theorem jyY : ∀ k < 10, jbu (UInt8.ofNat (48 + k)) = true := by decide
theorem jp6 : ∀ (n : Nat), n ≠ 0 -> ∃ c l, jmd n = c :: l /\ jbu c = true := fun n => by
 induction n using Nat.strongRecOn with
 | _ n ih =>
  intro h;rw [jcj h]
  by_cases h0 : n / 10 = 0
  ·rw [h0, jdb];exact ⟨_, _, rfl, jyY _ (Nat.mod_lt _ (by decide))⟩
  ·obtain ⟨c, l, e, hc⟩ := ih (n / 10) (by omega) h0
   rw [e];exact ⟨c, _, rfl, hc⟩
theorem jg4 (n : Nat) : jbu (jaq (bs (jb1 n))) = true := by
 unfold jb1
 split
 ·decide
 ·obtain ⟨c, l, e, hc⟩ := jp6 n (by assumption)
  rw [e];exact hc
theorem jgW (w : ByteArray) (hw : w ≠ ⟨#[]⟩) (hl : jbu (jby w) = true) (n : Nat) : ja1 w (bs (jb1 n)) = w ++ ⟨#[32]⟩ ++ bs (jb1 n) := by
 have h1 := jgI (jeb n)
 have h2 := jg4 n
 unfold ja1;rw [if_neg hw, if_neg h1, if_neg (by rw [hl]; decide), if_neg (by rw [h2]; decide)]
def jdG : Go.Shelf.Ren := ⟨fun | 156 => 50 | 165 => 87 | 166 => 86 | 169 => 53 | 240 => 117 | 241 => 118 | 276 => 139 | 277 => 140 | n => n, fun | 31 => 24 | 37 => 69 | 70 => 90 | 72 => 92 | 75 => 130 | 76 => 137 | 80 => 99 | 127 => 140 | 164 => 169 | n => n, fun | n => n⟩
theorem jl9 : Lays.n156 Tryz.prog jdG where
 mixed := by kernel_rfl
 f156 := Tryz.func50.trans (congrArg some (by kernel_rfl))
 f165 := Tryz.func87.trans (congrArg some (by kernel_rfl))
 f166 := Tryz.func86.trans (congrArg some (by kernel_rfl))
 f169 := Tryz.func53.trans (congrArg some (by kernel_rfl))
 f240 := Tryz.func117.trans (congrArg some (by kernel_rfl))
 f241 := Tryz.func118.trans (congrArg some (by kernel_rfl))
 f276 := Tryz.func139.trans (congrArg some (by kernel_rfl))
 f277 := Tryz.func140.trans (congrArg some (by kernel_rfl))
 t0 := Tryz.underlying0
 a0 := Tryz.isAgg0
 z0 := Tryz.sizeOf0
 v0 := Tryz.zeroValue0
 t3 := Tryz.underlying3
 a3 := Tryz.isAgg3
 z3 := Tryz.sizeOf3
 v3 := Tryz.zeroValue3
 t4 := Tryz.underlying4
 a4 := Tryz.isAgg4
 z4 := Tryz.sizeOf4
 v4 := Tryz.zeroValue4
 t9 := Tryz.underlying9
 a9 := Tryz.isAgg9
 z9 := Tryz.sizeOf9
 v9 := Tryz.zeroValue9
 t20 := Tryz.underlying20
 a20 := Tryz.isAgg20
 z20 := Tryz.sizeOf20
 v20 := Tryz.zeroValue20
 t31 := Tryz.underlying24
 a31 := Tryz.isAgg24
 z31 := Tryz.sizeOf24
 v31 := Tryz.zeroValue24
 t37 := Tryz.underlying69
 a37 := Tryz.isAgg69
 z37 := Tryz.sizeOf69
 v37 := Tryz.zeroValue69
 t70 := Tryz.underlying90
 a70 := Tryz.isAgg90
 z70 := Tryz.sizeOf90
 v70 := Tryz.zeroValue90
 t72 := Tryz.underlying92
 a72 := Tryz.isAgg92
 z72 := Tryz.sizeOf92
 v72 := Tryz.zeroValue92
 t75 := Tryz.underlying130
 a75 := Tryz.isAgg130
 z75 := Tryz.sizeOf130
 v75 := Tryz.zeroValue130
 t76 := Tryz.underlying137
 a76 := Tryz.isAgg137
 z76 := Tryz.sizeOf137
 v76 := Tryz.zeroValue137
 t127 := Tryz.underlying140
 a127 := Tryz.isAgg140
 z127 := Tryz.sizeOf140
 v127 := Tryz.zeroValue140
 t164 := Tryz.underlying169
 a164 := Tryz.isAgg169
 z164 := Tryz.sizeOf169
 v164 := Tryz.zeroValue169

theorem jjD : Builder.Extra Tryz.prog jdG where
 sizeBuilder := by kernel_rfl
 liesBuilder := by kernel_rfl
 t5 := by kernel_rfl
 a5 := Tryz.isAgg5
 z5 := Tryz.sizeOf5
 v5 := Tryz.zeroValue5
 infoByte := by kernel_rfl
 cellsByte := by kernel_rfl
 sizeByte := by kernel_rfl
 neB5 := by decide
theorem jlD (l : List (List UInt8)) (c : UInt8) (h1 : 1 <= l.length) (hl : l.length <= 1000) (hs : (Lib.join l [c]).length <= 1000000000) : Spec Tryz.prog 50 [] [.sl 1 l.length (jdR (l.map bs)), jaS ⟨#[c]⟩] fun _ r => r = jaS (bs (Lib.join l [c])) := by
 refine jgU (jeP Tryz.func50 rfl (by kernel_rfl)) fun w C vals hg hsub hv => ?_
 obtain ⟨u, us, rfl, k1, k2⟩ := hv
 obtain rfl := jg2 (l := [.string ⟨#[c]⟩]) k2
 unfold A.rep at k1
 obtain ⟨j1, j2, p, b, off, cap, rfl, j3, j4, j5, j6⟩ := k1
 obtain ⟨us, m1, m2⟩ := A.repAt_vals j6
 have hus : us = (l.map bs).map Value.string := by
  have := A.repC_L m1
  have e : jdR (l.map bs) = ((l.map bs).map Value.string).map A.v := by simp [jdR, jaS, Function.comp_def]
  rw [e] at this;exact jg2 this
 subst hus
 obtain rfl : p = some ⟨b, off, none⟩ := by
  rcases j4 with h | h
  ·omega
  ·exact h
 have hcells : ∀ (j : Nat) x, (l.map bs)[j]? = some x -> w.cell? ⟨b, off + j, none⟩ = some (.string x) := fun j x hx => by
  have := hsub _ _ (m2 j _ (by rw [List.getElem?_map, hx]; rfl))
  change w.cell? _ = _ at this
  exact this
 have hb : b < w.heap.size := by
  have := hcells 0 (bs l[0]) (by rw [List.getElem?_map, List.getElem?_eq_getElem (by omega)]; rfl)
  exact World.block_lt_of_cell? w _ this
 have ej : (l.map bs).map (·.data.toList) = l := by rw [List.map_map]; exact List.map_id'' (fun x => jb3 x) _
 have hlen : (l.map bs).length = l.length := by simp
 have := Any.strings_Join jl9 jjD b off cap (l.map bs) ⟨#[c]⟩ w hcells hb (by rw [hlen]; omega) (by rw [hlen]; exact j3) (by rw [ej]; show (Lib.join l [c]).length <= _; omega)
 rw [hlen, ej] at this;refine this.mono ?_;rintro e w' ⟨rfl, hw⟩;exact ⟨_, rfl, hw, A.rep_v (by show (bs (Lib.join l [c])).size <= maxLen; rw [jbB]; unfold maxLen; omega)⟩
theorem jzR {E : Env} : (A.v (.string ⟨#[]⟩)).rep E (.string ⟨#[]⟩) := A.rep_v (by show (0 : Nat) <= maxLen; unfold maxLen; omega)
theorem Hp.nilBufRow {w0 : W0} {w : World} {C0 : Rd} {β0 : List Nat} {bx : List (List A)} {rw : List Row} {E : Env} (h : Hp w0 C0 β0 bx rw w E) (e : Nat) : Hp w0 C0 β0 bx (rw ++ [.live e 0 0 [.v (.string ⟨#[]⟩)]]) w ⟨E.C, E.β, E.ρ ++ [.slice none 0 0]⟩ /\ E.le ⟨E.C, E.β, E.ρ ++ [.slice none 0 0]⟩ := by
 have le : E.le ⟨E.C, E.β, E.ρ ++ [.slice none 0 0]⟩ := ⟨Sub.refl _, fun _ _ h => h, fun i b hb => by
  have := (List.getElem?_eq_some_iff.1 hb).1
  rw [List.getElem?_append_left this]; exact hb⟩
 have part : ∀ (g : Nat) (r : Row) (y : Value), (rw ++ [Row.live e 0 0 [.v (.string ⟨#[]⟩)]])[g]? = some r -> (E.ρ ++ [Value.slice none 0 0])[g]? = some y -> (rw[g]? = some r /\ E.ρ[g]? = some y) ∨ (r = .live e 0 0 [.v (.string ⟨#[]⟩)] /\ y = .slice none 0 0 /\ g = rw.length) := fun g r y h1 h2 => by
  by_cases hg : g < rw.length
  ·rw [List.getElem?_append_left hg] at h1;rw [List.getElem?_append_left (by rw [<- h.rl]; exact hg)] at h2;exact .inl ⟨h1, h2⟩
  ·rw [List.getElem?_append_right (by omega)] at h1;rw [List.getElem?_append_right (by rw [<- h.rl]; omega)] at h2
   have hi0 : g - rw.length = 0 := by
    have := (List.getElem?_eq_some_iff.1 h1).1
    simp at this; omega
   rw [hi0] at h1;rw [<- h.rl, hi0] at h2
   simp at h1 h2
   exact .inr ⟨h1.symm, h2.symm, by omega⟩
 refine ⟨⟨h.sub, h.base, h.fresh, h.bp, h.bnd, h.bC, h.bl, fun i b cs h1 h2 => (h.bxs i b cs h1 h2).mono le, by simp [h.rl], fun g r y h1 h2 => ?_, fun g e' k' n cs y b h1 h2 h3 => ?_, fun g e1 k1 n1 cs1 y g' e2 k2 n2 cs2 z b hne h1 h2 h3 h4 h5 => ?_, fun g y h1 => jbV h.rs (.inl ⟨_, _, _, rfl⟩) g y h1, h.keep, h.gk⟩, le⟩
 ·rcases part g r y h1 h2 with ⟨h3, h4⟩ | ⟨rfl, rfl, _⟩
  ·exact (h.rws g r y h3 h4).mono le (fun _ _ _ _ _ _ _ => rfl)
  ·exact ⟨[.string ⟨#[]⟩], ⟨owR.nilBuf _ _, fun b hb => by simp [blk] at hb⟩, by unfold A.repC; exact ⟨_, [], rfl, rfl, jzR, by unfold A.repC; rfl⟩⟩
 ·rcases part g _ y h1 h2 with ⟨h4, h5⟩ | ⟨_, rfl, _⟩
  ·exact h.rC g e' k' n cs y b h4 h5 h3
  ·simp [blk] at h3
 ·rcases part g _ y h1 h2 with ⟨k3, k4⟩ | ⟨_, rfl, _⟩
  ·rcases part g' _ z h3 h4 with ⟨k5, k6⟩ | ⟨_, rfl, _⟩
   ·exact h.rd g e1 k1 n1 cs1 y g' e2 k2 n2 cs2 z b hne k3 k4 k5 k6 h5
   ·simp [blk]
  ·simp [blk] at h5
theorem jvZ {np : Nat} {s : S} {t : List A} {bx : List (List A)} (e : Nat) (ht : jpG s.rw.length s.t t) (hb : jx3 s.rw.length s.bx bx) : Le np s ⟨t, bx, s.rw ++ [.live e 0 0 [.v (.string ⟨#[]⟩)]]⟩ := by
 rintro dr w0 C0 β0 a w _ _ ⟨E, hp, hrep, hd⟩
 obtain ⟨h1, le⟩ := hp.nilBufRow e
 have hg : (E.ρ ++ [Value.slice none 0 0])[s.rw.length]? = some (.slice none 0 0) := by rw [hp.rl]; simp
 refine ⟨⟨E.C, E.β, E.ρ ++ [.slice none 0 0]⟩, ?_, jfj hg ht (A.repL.mono _ le hrep), hd.mono le⟩
 exact ⟨h1.sub, h1.base, h1.fresh, h1.bp, h1.bnd, h1.bC, by rw [jjH hb]; exact h1.bl, fun i b cs h2 h3 => by
  obtain ⟨c0, h4, h5⟩ := jkl hb h3
  obtain ⟨T', arr, h6, h7⟩ := h1.bxs i b c0 h2 h4
  exact ⟨T', arr, h6, h7.rel (jpG s.rw.length) h5 (fun l m us e k => jfj hg e k) (fun l m e => jo1 e) fun l t r e => jlU e⟩, h1.rl, h1.rws, h1.rC, h1.rd, h1.rs, h1.keep, h1.gk⟩
theorem jyq {c : Cx} {x : Code} {t : List A} {bx : List (List A)} {rw : List Row} {q : Exit -> S -> Prop} (e : Nat) (ts : List Nat) (cs : List (Nat × Nat))
  (h : je3 rw (.live e 0 0 [.v (.string ⟨#[]⟩)]) 0 fun g rw' => jvF g ts t fun t' => jq8 g cs bx fun bx' => Ok c x ⟨t', bx', rw'⟩ q) : Ok c x ⟨t, bx, rw⟩ q := by
 rw [jaP, Nat.zero_add] at h
 obtain ⟨t', h1, h⟩ := jf4 h
 obtain ⟨bx', h2, h⟩ := jhx h
 exact jwx (jvZ (s := ⟨t, bx, rw⟩) e h1 h2) h
def dJ : ByteArray := ⟨#[100, 44, 100, 100, 49]⟩
def vJ : ByteArray := ⟨#[118, 44, 119, 50]⟩
theorem jvx : Spec Tryz.prog 50 [] [.sl 1 2 (txA duL), jaS pComma] fun _ r => r = jaS dJ := jlD [[100], [100, 100, 49]] 44 (by decide) (by decide) (by decide)
theorem jwc : Spec Tryz.prog 50 [] [.sl 1 2 (txA voL), jaS pComma] fun _ r => r = jaS vJ := jlD [[118], [119, 50]] 44 (by decide) (by decide) (by decide)
def pT1 : ByteArray := nmF wDurable duL
def pT2 : ByteArray := nmF wDurable duL ++ nmF wVolatile voL
theorem jxY : ja1 (ja1 (ja1 ⟨#[]⟩ wDurable) dJ) pSemi = pT1 := by decide
theorem jys : ja1 (ja1 (ja1 pT1 wVolatile) vJ) pSemi = pT2 := by decide
theorem jzA : pT1.size <= 100 /\ pT2.size <= 100 := by decide
theorem jtN (full : Bool) (l : List (Int × Nt)) : ∀ (a : ByteArray), 0 < a.size -> 0 < (jpe full a l).size := by
 induction l with
 | nil => exact fun a h => h
 | cons h l ih => exact fun a ha => ih _ (jbf (jf6 (jgI ha)))
theorem jyt {u : Ut} (h : GU u) : Spec Tryz.prog 31 [] [.agg (utA u)] fun _ r => r = jaS (prF u) := by
 have hpu := h.pu
 have hsz := (jsJ hpu).1
 obtain ⟨h1, h2, h3, h4, h5⟩ := h
 obtain ⟨du, vo, hs⟩ := u
 simp only at h1 h2 h3 h4 h5
 subst h1;subst h2
 have jd := jvx
 have jv := jwc
 have e1 := jxY
 have e2 := jys
 have e3 := jzA
 have e4 : 0 < pT2.size := by decide
 have z0 : (⟨#[]⟩ : ByteArray).size = 0 := rfl
 have z1 : wDurable.size = 7 := rfl
 have z2 : wVolatile.size = 8 := rfl
 have z3 : pSemi.size = 1 := rfl
 have z4 : dJ.size = 5 := rfl
 have z5 : vJ.size = 4 := rfl
 have z6 : 0 < dJ.size := by decide
 have z7 : 0 < vJ.size := by decide
 have epr : prF ⟨duL, voL, hs⟩ = jpe false pT2 hs := rfl
 rw [epr] at hsz ⊢;refine jdd (ja2 jal xs0 0) (fun _ _ h => h) Tryz.func31 rfl (by kernel_rfl) rfl ?_;intro _;refine jbU (ja2 _ _ _) (by kernel_rfl) ?_;conv => whnf
 refine jbU (ja2 _ _ _) (by kernel_rfl) ?_;conv => whnf
 refine jyq 5 [] [(1, 1)] ?_;conv => whnf
 refine ⟨trivial, ?_⟩;conv => whnf
 refine jb6 (ja2 _ _ _) (by kernel_rfl) ?_;conv => whnf
 generalize pT1 = T1 at *;generalize pT2 = T2 at *
 obtain ⟨S, hS0, hS1, hS2⟩ : ∃ S : Nat -> ByteArray, S 0 = ⟨#[]⟩ /\ S 1 = T1 /\ S 2 = T2 := ⟨fun j => [⟨#[]⟩, T1, T2].getD j ⟨#[]⟩, rfl, rfl, rfl⟩
 have zS0 : (S 0).size = 0 := by rw [hS0]; rfl
 have zS1 : (S 1).size <= 100 := by rw [hS1]; exact e3.1
 refine jak [1, 3, 12, 13] ?_;conv => whnf
 refine jaJ (fun j : Nat => [(14, .v (.int .i64 j))]) (fun _ => [[.sl 1 2 (txA duL), .sl 1 2 (txA voL), .sl 5 hs.length (jm1 hs)], [.adr PrT, .own 0]]) (fun j => [.live 5 0 (S j).size [.v (.string (S j))], .live 24 1 2 [.sl 1 2 (txA duL), .sl 1 2 (txA voL)]]) (fun j => j <= 2) (fun j => 2 - j) 0 ?_ (by decide) ?_
 ·repeat' constructor
  all_goals (rw [hS0]; rfl)
 rintro j hj;conv => whnf
 by_cases hlt : j < 2
 ·rw [decide_eq_true (show (j : Int) < ((2 : Nat) : Int) by omega)]
  rcases (by omega : j = 0 ∨ j = 1) with rfl | rfl
  ·conv => whnf
   refine ⟨by decide, ?_⟩;conv => whnf
   refine ⟨by decide, ?_⟩;conv => whnf
   refine ja6 1 0 4 [3] rfl rfl rfl rfl rfl rfl rfl (fun _ => (ja4 (S 0) wDurable (by decide) (by omega)).r) ?_;rintro o n' cs' r ⟨s', rfl, rfl, ho, hs', rfl⟩;cases ho;conv => whnf
   have hz2 := ja0 (S 0) wDurable
   rw [<- hs'] at hz2
   have hs2 := hs'
   clear hs';generalize s' = s2 at *
   (refine ja9 [] rfl (fun _ => jd) ?_; rintro r rfl; conv => whnf)
   refine ja6 1 4 6 [5] rfl rfl rfl rfl rfl rfl rfl (fun _ => (jbJ s2 dJ pSemi (by decide) (by decide) (by omega)).r) ?_;rintro o n' cs' r ⟨s', rfl, rfl, ho, hs', rfl⟩;cases ho;conv => whnf
   refine ⟨jaL (by omega), ?_⟩;conv => whnf
   refine ⟨0 + 1, jas [6, 1] ?_, by decide, by decide⟩;conv => whnf
   rw [show S (0 + 1) = _ from hS1, <- e1, <- hS0, <- hs2, <- hs']
   repeat' constructor
  ·conv => whnf
   refine ⟨by decide, ?_⟩;conv => whnf
   refine ⟨by decide, ?_⟩;conv => whnf
   refine ja6 1 0 4 [3] rfl rfl rfl rfl rfl rfl rfl (fun _ => (ja4 (S 1) wVolatile (by decide) (by omega)).r) ?_;rintro o n' cs' r ⟨s', rfl, rfl, ho, hs', rfl⟩;cases ho;conv => whnf
   have hz2 := ja0 (S 1) wVolatile
   rw [<- hs'] at hz2
   have hs2 := hs'
   clear hs';generalize s' = s2 at *
   (refine ja9 [] rfl (fun _ => jv) ?_; rintro r rfl; conv => whnf)
   refine ja6 1 4 6 [5] rfl rfl rfl rfl rfl rfl rfl (fun _ => (jbJ s2 vJ pSemi (by decide) (by decide) (by omega)).r) ?_;rintro o n' cs' r ⟨s', rfl, rfl, ho, hs', rfl⟩;cases ho;conv => whnf
   refine ⟨jaL (by omega), ?_⟩;conv => whnf
   refine ⟨1 + 1, jas [6, 1] ?_, by decide, by decide⟩;conv => whnf
   rw [show S (1 + 1) = _ from hS2, <- e2, <- hS1, <- hs2, <- hs']
   repeat' constructor
 rw [decide_eq_false (show ¬ (j : Int) < ((2 : Nat) : Int) by omega)]
 obtain rfl : j = 2 := by omega
 rw [hS2];conv => whnf
 obtain ⟨V, hV⟩ : ∃ V : Nat -> ByteArray, ∀ j, V j = jpe false T2 (hs.take j) := ⟨_, fun _ => rfl⟩
 have hV0 : V 0 = T2 := by rw [hV, List.take_zero]; rfl
 have hVl : V hs.length = jpe false T2 hs := by rw [hV, List.take_length]
 have hVn : ∀ j (h : j < hs.length), V (j + 1) = ja1 (V j) (hdN false hs[j]) := fun j h => by rw [hV, hV, List.take_succ_eq_append_getElem h, jrn]
 have hVz : ∀ j, (V j).size <= 2000000 := fun j => by
  rw [hV]
  have s1 := jgZ false T2 (hs.take j) (fun z hz => (hpu.hd false z (List.mem_of_mem_take hz)).1)
  have hm : (hs.take j).length * 400001 <= 4 * 400001 := Nat.mul_le_mul_right _ (by rw [List.length_take]; omega)
  omega
 rw [<- hVl, <- hV0];refine jgP [0] ?_;conv => whnf
 refine jak [3, 34, 35] ?_;conv => whnf
 refine jaJ (fun j : Nat => [(36, .v (.int .i64 j))]) (fun _ => [[.sl 1 2 (txA duL), .sl 1 2 (txA voL), .sl 5 hs.length (jm1 hs)], [.adr PrT, .own 0]]) (fun j => [.live 5 0 (V j).size [.v (.string (V j))]]) (fun j => j <= hs.length) (fun j => hs.length - j) 0 ?_ (Nat.zero_le _) ?_
 ·repeat' constructor
 rintro j hj;conv => whnf
 have hz := hVz j
 by_cases hlt : j < hs.length
 ·rw [decide_eq_true (show (j : Int) < (hs.length : Int) by omega)]
  have hr := jld hs j hlt
  have hg := h3 _ (List.getElem_mem hlt)
  have hVn := hVn j hlt
  generalize hs[j] = g at *
  obtain ⟨n, b⟩ := g
  obtain ⟨g1, g2, g3⟩ := hg
  have g1 : 0 <= n := g1
  have g2 : n < 40 := g2
  have hb := jzK g3
  have hbk := hb.2.2
  have hbz := hb.1.1
  have hbp := hb.2.1
  have hdn : hdN false (n, b) = jb5 [wOn, hdW n, bkP false b] := rfl
  have hwp : 0 < (hdW n).size := by
   unfold hdW
   have a2 : wMsgS.size = 8 := rfl
   have a3 : wTimS.size = 6 := rfl
   repeat' split
   all_goals first | decide | (rw [ByteArray.size_append]; omega)
  have hpf := jaT (V j) 3 [wOn, hdW n, bkP false b] rfl (by
   intro x hx;simp only [List.mem_cons, List.not_mem_nil, or_false] at hx
   rcases hx with rfl | rfl | rfl
   ·decide
   ·exact hwp
   ·exact hbp)
  rw [hdn, <- hpf] at hVn
  have hVn : V (j + 1) = ja1 (ja1 (ja1 (V j) wOn) (hdW n)) (bkP false b) := hVn
  clear hpf hdn;generalize bkP false b = y at *
  have y1 : wOn.size = 2 := rfl
  have y2 : wStart.size = 5 := rfl
  have y3 : wRequest.size = 7 := rfl
  have y4 : wTimer.size = 5 := rfl
  have y5 : wMessage.size = 7 := rfl
  conv => whnf
  refine ⟨by omega, ?_⟩;conv => whnf
  (generalize hrq : jae _ _ (jm1 hs) = rq; obtain rfl : rq = hnA (n, b) := hrq.symm.trans (hr); clear hrq; conv => whnf)
  refine ja6 1 0 2 [1] rfl rfl rfl rfl rfl rfl rfl (fun _ => (ja4 (V j) wOn (by decide) (by omega)).r) ?_;rintro o n' cs' r ⟨s', rfl, rfl, ho, hs', rfl⟩;cases ho;conv => whnf
  have hz2 := ja0 (V j) wOn
  rw [<- hs'] at hz2;rw [<- hs'] at hVn;clear hs';generalize s' = s2 at *
  by_cases n0 : n = 0
  ·subst n0;rw [show hdW 0 = wStart from rfl] at hVn;conv => whnf
   refine ja6 1 2 4 [3] rfl rfl rfl rfl rfl rfl rfl (fun _ => (ja4 s2 wStart (by decide) (by omega)).r) ?_;rintro o n' cs' r ⟨s', rfl, rfl, ho, hs', rfl⟩;cases ho;conv => whnf
   have hz3 := ja0 s2 wStart
   rw [<- hs'] at hz3;rw [<- hs'] at hVn;clear hs';generalize s' = s3 at *;refine ja6 1 4 5 [] rfl rfl rfl rfl rfl rfl rfl (fun _ => hbk s3 (by omega)) ?_;rintro o n' cs' r ⟨s', rfl, rfl, ho, hs', rfl⟩;cases ho;conv => whnf
   refine ⟨jaL (by omega), ?_⟩;conv => whnf
   refine ⟨j + 1, jas [5] ?_, hlt, by omega⟩;conv => whnf
   rw [hVn, <- hs']
   repeat' constructor
  rw [decide_eq_false n0];conv => whnf
  by_cases n1 : n = 1
  ·subst n1;rw [show hdW 1 = wRequest from rfl] at hVn;conv => whnf
   refine ja6 1 2 4 [3] rfl rfl rfl rfl rfl rfl rfl (fun _ => (ja4 s2 wRequest (by decide) (by omega)).r) ?_;rintro o n' cs' r ⟨s', rfl, rfl, ho, hs', rfl⟩;cases ho;conv => whnf
   have hz3 := ja0 s2 wRequest
   rw [<- hs'] at hz3;rw [<- hs'] at hVn;clear hs';generalize s' = s3 at *;refine ja6 1 4 5 [] rfl rfl rfl rfl rfl rfl rfl (fun _ => hbk s3 (by omega)) ?_;rintro o n' cs' r ⟨s', rfl, rfl, ho, hs', rfl⟩;cases ho;conv => whnf
   refine ⟨jaL (by omega), ?_⟩;conv => whnf
   refine ⟨j + 1, jas [5] ?_, hlt, by omega⟩;conv => whnf
   rw [hVn, <- hs']
   repeat' constructor
  rw [decide_eq_false n1];conv => whnf
  by_cases n9 : n < 10
  ·rw [show hdW n = wTimS ++ bs (jb1 (n - 2).toNat) by unfold hdW; rw [if_neg n1, if_neg (by omega), if_pos (by omega)]] at hVn
   have hdc := jdf (n - 2) (by omega)
   have d1 := jb8 (n - 2).toNat (by omega)
   have d2 := jeb (n - 2).toNat
   have d3 : wTimS ++ bs (jb1 (n - 2).toNat) = ja1 wTimer (bs (jb1 (n - 2).toNat)) := (jgW wTimer (by decide) (by decide) _).symm
   rw [d3, <- jaH _ _ _ (by decide)] at hVn;clear d3 hwp;generalize bs (jb1 (n - 2).toNat) = d at *;rw [decide_eq_true n9];conv => whnf
   refine ⟨jaL (by omega), ?_⟩;conv => whnf
   (refine ja9 [] rfl (fun _ => hdc) ?_; rintro r rfl; conv => whnf)
   refine ja6 1 2 4 [3] rfl rfl rfl rfl rfl rfl rfl (fun _ => (jbJ s2 wTimer d (by decide) d2 (by omega)).r) ?_;rintro o n' cs' r ⟨s', rfl, rfl, ho, hs', rfl⟩;cases ho;conv => whnf
   have hz3 : (ja1 (ja1 s2 wTimer) d).size <= s2.size + 20 := by
    have q1 := ja0 s2 wTimer
    have q2 := ja0 (ja1 s2 wTimer) d
    omega
   rw [<- hs'] at hz3;rw [<- hs'] at hVn;clear hs';generalize s' = s3 at *;refine ja6 1 4 5 [] rfl rfl rfl rfl rfl rfl rfl (fun _ => hbk s3 (by omega)) ?_;rintro o n' cs' r ⟨s', rfl, rfl, ho, hs', rfl⟩;cases ho;conv => whnf
   refine ⟨jaL (by omega), ?_⟩;conv => whnf
   refine ⟨j + 1, jas [5] ?_, hlt, by omega⟩;conv => whnf
   rw [hVn, <- hs']
   repeat' constructor
  ·rw [show hdW n = wMsgS ++ bs (jb1 (n - 10).toNat) by unfold hdW; rw [if_neg n1, if_pos (by omega)]] at hVn
   have hdc := jdf (n - 10) (by omega)
   have d1 := jb8 (n - 10).toNat (by omega)
   have d2 := jeb (n - 10).toNat
   have d3 : wMsgS ++ bs (jb1 (n - 10).toNat) = ja1 wMessage (bs (jb1 (n - 10).toNat)) := (jgW wMessage (by decide) (by decide) _).symm
   rw [d3, <- jaH _ _ _ (by decide)] at hVn;clear d3 hwp;generalize bs (jb1 (n - 10).toNat) = d at *;rw [decide_eq_false n9];conv => whnf
   refine ⟨jaL (by omega), ?_⟩;conv => whnf
   (refine ja9 [] rfl (fun _ => hdc) ?_; rintro r rfl; conv => whnf)
   refine ja6 1 2 4 [3] rfl rfl rfl rfl rfl rfl rfl (fun _ => (jbJ s2 wMessage d (by decide) d2 (by omega)).r) ?_;rintro o n' cs' r ⟨s', rfl, rfl, ho, hs', rfl⟩;cases ho;conv => whnf
   have hz3 : (ja1 (ja1 s2 wMessage) d).size <= s2.size + 22 := by
    have q1 := ja0 s2 wMessage
    have q2 := ja0 (ja1 s2 wMessage) d
    omega
   rw [<- hs'] at hz3;rw [<- hs'] at hVn;clear hs';generalize s' = s3 at *;refine ja6 1 4 5 [] rfl rfl rfl rfl rfl rfl rfl (fun _ => hbk s3 (by omega)) ?_;rintro o n' cs' r ⟨s', rfl, rfl, ho, hs', rfl⟩;cases ho;conv => whnf
   refine ⟨jaL (by omega), ?_⟩;conv => whnf
   refine ⟨j + 1, jas [5] ?_, hlt, by omega⟩;conv => whnf
   rw [hVn, <- hs']
   repeat' constructor
 ·rw [decide_eq_false (show ¬ (j : Int) < (hs.length : Int) by omega)]
  obtain rfl : j = hs.length := by omega
  have hne : 0 < (V hs.length).size := by
   rw [hVl];exact jtN false hs T2 e4
  conv => whnf
  refine ja6 1 0 1 [] rfl rfl rfl rfl rfl rfl rfl (fun _ => jgk PrT (V hs.length) hne) ?_;rintro o n' cs' r ⟨s5, rfl, rfl, ho, rfl, rfl⟩;cases ho;conv => whnf
  rfl
section
set_option maxRecDepth 100000
end
end Go.Proofs.YtmodkpibkkpcdaaGreatDoor.Vm
