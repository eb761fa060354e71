/- Texts 5 of the proof: E4, E2, E5, Ta, G0, G1, G2, G3, G4, G5, E3, S1, S2, S3, S4, S5, S6, S7, S8, U0, VmX, U1, U2, U3, U4, U5, U6, U7, U8, U9, U10, U11, U12, U13, U14, U15, U16, U17, U18, U19, U20, U21, U22. -/
import Derived.Test.YtmodkpibkkpcdaaGreatDoorM4
import Derived.Shelf.Lay
import Derived.Shelf.Strconv.Itoa3
import Derived.Ground.NamesProg
import Derived.Lib.ItoaLen
import Derived.Lib.AppendIntMem
import Derived.Shelf.Strings.OnBuilder
namespace Go.Proofs.YtmodkpibkkpcdaaGreatDoor.Vm
open Go.RowKit Go.Shelf
set_option linter.unusedSimpArgs false
set_option linter.unusedVariables false
set_option maxRecDepth 100000
def PEqN (f g : Nt) : Prop := Spec Tryz.prog 24 [] [.agg (ntA f), .agg (ntA g)] fun _ r => r = boolA (eqN f g)
theorem eqfn_spec (l m : List Nt) (hl : l.length ≤ maxLen) (h : ∀ f ∈ l, ∀ g ∈ m, PEqN f g) : Spec Tryz.prog 40 [] [.sl 4 l.length (ntsA l), .sl 4 m.length (ntsA m), .clo 24 []] fun _ r => r = boolA (eqNs l m) := by
 unfold maxLen at hl
 unfold PEqN at h
 refine spec_of (cx_ok ord0 xs0 0) (fun _ _ h => h) Tryz.func40 rfl (by kernel_rfl) rfl (by kernel_rfl) ?_
 intro _
 conv => whnf
 by_cases hlen : (l.length : Int) = m.length
 ·rw [decide_eq_true hlen]
  conv => whnf
  refine loop_keep [0, 1, 2, 15, 16] ?_
  conv => whnf
  refine loop_go (fun k : Nat => [(17, .v (.int .i64 k))]) (fun _ => []) (fun _ => []) (fun k => k ≤ l.length ∧ eqNs (l.drop k) (m.drop k) = eqNs l m) (fun k => l.length - k) 0 ?_ ⟨Nat.zero_le _, rfl⟩ ?_
  ·repeat' constructor
  ·rintro k ⟨hk, hinv⟩
   conv => whnf
   by_cases hlt : k < l.length
   ·have hm : k < m.length := by omega
    have hr1 := rowOf_nts l k hlt
    have hr2 := rowOf_nts m k hm
    have hsp := h l[k] (List.getElem_mem hlt) m[k] (List.getElem_mem hm)
    rw [eqNs_drop l m k hlt hm] at hinv
    generalize l[k] = f at *
    generalize m[k] = g at *
    (refine goA ?_; try with_reducible exact trivial)
    (generalize hrq : rowOf _ _ (ntsA l) = rq; obtain rfl : rq = ntA f := hrq.symm.trans (hr1); clear hrq; conv => whnf)
    (refine goA ?_; try with_reducible exact trivial)
    (generalize hrq : rowOf _ _ (ntsA m) = rq; obtain rfl : rq = ntA g := hrq.symm.trans (hr2); clear hrq; conv => whnf)
    (refine call0 [] rfl (fun _ => hsp) ?_; rintro r rfl; conv => whnf)
    cases hq : eqN f g with
    | true =>
     rw [hq, Bool.true_and] at hinv
     (refine goA ?_; try with_reducible exact trivial)
     refine ⟨i64r (by omega), ?_⟩
     conv => whnf
     refine ⟨k + 1, le_head ?_, ⟨hlt, hinv⟩, by omega⟩
     repeat' constructor
    | false =>
     rw [hq, Bool.false_and] at hinv
     (refine goA ?_; try with_reducible exact trivial)
     rw [← hinv]
     rfl
   ·(refine goA ?_; try with_reducible exact trivial)
    have e1 : l.drop k = [] := List.drop_of_length_le (by omega)
    have e2 : m.drop k = [] := List.drop_of_length_le (by omega)
    rw [e1, e2] at hinv
    rw [← hinv]
    rfl
 ·rw [decide_eq_false hlen]
  conv => whnf
  rw [eqNs_len (by omega)]
  rfl
theorem pequal : ∀ f g : Nt, PEqN f g
 | .mk k n s l, .mk k' n' s' l' => by
  have hkids : ∀ f ∈ l, ∀ g ∈ l', PEqN f g := fun f hf g hg => pequal f g
  have hfn := fun hl => eqfn_spec l l' hl hkids
  unfold PEqN eqN
  refine spec_of (cx_ok ord0 xs0 0) (fun _ _ h => h) Tryz.func24 rfl (by kernel_rfl) rfl (by kernel_rfl) ?_
  intro hok
  have hl := ok_nt (okL_mem hok (List.mem_cons_self ..))
  simp only [Nt.kids] at hl
  replace hfn := hfn hl
  simp only [ntA, Nt.k, Nt.n, Nt.s, Nt.kids]
  generalize eqNs l l' = R at *
  conv => whnf
  by_cases h1 : k = k'
  ·rw [decide_eq_true h1]
   conv => whnf
   by_cases h2 : n = n'
   ·rw [decide_eq_true h2]
    conv => whnf
    by_cases h3 : s = s'
    ·rw [decide_eq_true h3]
     conv => whnf
     (refine call0 [] rfl (fun _ => hfn) ?_; rintro r rfl; conv => whnf)
     rfl
    ·rw [decide_eq_false h3]
     conv => whnf
     rfl
   ·rw [decide_eq_false h2]
    conv => whnf
    rfl
  ·rw [decide_eq_false h1]
   conv => whnf
   rfl
termination_by f => SizeOf.sizeOf f
decreasing_by
 have := List.sizeOf_lt_of_mem hf
 simp only [Nt.mk.sizeOf_spec]
 omega
theorem ptexts (l m : List ByteArray) (hl : l.length ≤ maxLen) : Spec Tryz.prog 41 [] [.sl 1 l.length (txA l), .sl 1 m.length (txA m)] fun _ r => r = boolA (decide (l = m)) := by
 unfold maxLen at hl
 refine spec_of (cx_ok ord41 xs0 0) (fun _ _ h => h) Tryz.func41 rfl (by kernel_rfl) rfl (by kernel_rfl) ?_
 intro hok
 conv => whnf
 by_cases hlen : (l.length : Int) = m.length
 ·rw [decide_eq_true hlen]
  conv => whnf
  refine loop_keep [0, 1, 11, 12] ?_
  conv => whnf
  refine loop_go (fun k : Nat => [(13, .v (.int .i64 k))]) (fun _ => []) (fun _ => []) (fun k => k ≤ l.length ∧ l.take k = m.take k) (fun k => l.length - k) 0 ?_ ⟨Nat.zero_le _, rfl⟩ ?_
  ·repeat' constructor
  ·rintro k ⟨hk, hinv⟩
   conv => whnf
   by_cases hlt : k < l.length
   ·have hm : k < m.length := by omega
    have hr1 : rowOf 1 k (txA l) = [strA l[k]] := rowOf_map strA l k hlt
    have hr2 : rowOf 1 k (txA m) = [strA m[k]] := rowOf_map strA m k hm
    have e1 : l.take (k + 1) = l.take k ++ [l[k]] := by rw [List.take_add_one, List.getElem?_eq_getElem hlt]; rfl
    have e2 : m.take (k + 1) = m.take k ++ [m[k]] := by rw [List.take_add_one, List.getElem?_eq_getElem hm]; rfl
    have hne : l[k] ≠ m[k] → l ≠ m := fun h e => h (by subst e; rfl)
    generalize l[k] = x at *
    generalize m[k] = y at *
    (refine goA ?_; try with_reducible exact trivial)
    (generalize hrq : rowOf _ _ (txA l) = rq; obtain rfl : rq = [strA x] := hrq.symm.trans (hr1); clear hrq; conv => whnf)
    (refine goA ?_; try with_reducible exact trivial)
    (generalize hrq : rowOf _ _ (txA m) = rq; obtain rfl : rq = [strA y] := hrq.symm.trans (hr2); clear hrq; conv => whnf)
    by_cases hxy : x = y
    ·rw [decide_eq_true hxy]
     conv => whnf
     (refine goA ?_; try with_reducible exact trivial)
     refine ⟨k + 1, le_head ?_, ⟨hlt, by rw [e1, e2, hinv, hxy]⟩, by omega⟩
     repeat' constructor
    ·rw [decide_eq_false hxy]
     conv => whnf
     rw [decide_eq_false (hne hxy)]
     rfl
   ·obtain rfl : k = l.length := by omega
    have : l = m := by
     rw [List.take_length, List.take_of_length_le (by omega)] at hinv
     exact hinv
    (refine goA ?_; try with_reducible exact trivial)
    rw [decide_eq_true this]
    rfl
 ·rw [decide_eq_false hlen]
  conv => whnf
  rw [decide_eq_false (fun e => hlen (by rw [e]))]
  rfl
theorem phand (f g : Int × Nt) : Spec Tryz.prog 43 [] [.agg (hnA f), .agg (hnA g)] fun _ r => r = boolA (decide (f.1 = g.1) && eqN f.2 g.2) := by
 have hq := pequal f.2 g.2
 unfold PEqN at hq
 refine spec_of (cx_ok ord0 xs0 0) (fun _ _ h => h) Tryz.func43 rfl (by kernel_rfl) rfl (by kernel_rfl) ?_
 intro _
 conv => whnf
 by_cases h : f.1 = g.1
 ·rw [decide_eq_true h]
  conv => whnf
  (refine call0 [] rfl (fun _ => hq) ?_; rintro r rfl; conv => whnf)
  rfl
 ·rw [decide_eq_false h]
  conv => whnf
  rfl
theorem eqhn_spec (l m : List (Int × Nt)) (hl : l.length ≤ maxLen) : Spec Tryz.prog 42 [] [.sl 5 l.length (hnsA l), .sl 5 m.length (hnsA m), .clo 43 []] fun _ r => r = boolA (eqHs l m) := by
 unfold maxLen at hl
 refine spec_of (cx_ok ord0 xs0 0) (fun _ _ h => h) Tryz.func42 rfl (by kernel_rfl) rfl (by kernel_rfl) ?_
 intro _
 conv => whnf
 by_cases hlen : (l.length : Int) = m.length
 ·rw [decide_eq_true hlen]
  conv => whnf
  refine loop_keep [0, 1, 2, 15, 16] ?_
  conv => whnf
  refine loop_go (fun k : Nat => [(17, .v (.int .i64 k))]) (fun _ => []) (fun _ => []) (fun k => k ≤ l.length ∧ eqHs (l.drop k) (m.drop k) = eqHs l m) (fun k => l.length - k) 0 ?_ ⟨Nat.zero_le _, rfl⟩ ?_
  ·repeat' constructor
  ·rintro k ⟨hk, hinv⟩
   conv => whnf
   by_cases hlt : k < l.length
   ·have hm : k < m.length := by omega
    have hr1 := rowOf_hns l k hlt
    have hr2 := rowOf_hns m k hm
    rw [eqHs_drop l m k hlt hm] at hinv
    generalize l[k] = f at *
    generalize m[k] = g at *
    have hsp := phand f g
    (refine goA ?_; try with_reducible exact trivial)
    (generalize hrq : rowOf _ _ (hnsA l) = rq; obtain rfl : rq = hnA f := hrq.symm.trans (hr1); clear hrq; conv => whnf)
    (refine goA ?_; try with_reducible exact trivial)
    (generalize hrq : rowOf _ _ (hnsA m) = rq; obtain rfl : rq = hnA g := hrq.symm.trans (hr2); clear hrq; conv => whnf)
    (refine call0 [] rfl (fun _ => hsp) ?_; rintro r rfl; conv => whnf)
    cases hq : (decide (f.1 = g.1) && eqN f.2 g.2) with
    | true =>
     rw [hq, Bool.true_and] at hinv
     (refine goA ?_; try with_reducible exact trivial)
     refine ⟨i64r (by omega), ?_⟩
     conv => whnf
     refine ⟨k + 1, le_head ?_, ⟨hlt, hinv⟩, by omega⟩
     repeat' constructor
    | false =>
     rw [hq, Bool.false_and] at hinv
     (refine goA ?_; try with_reducible exact trivial)
     rw [← hinv]
     rfl
   ·(refine goA ?_; try with_reducible exact trivial)
    have e1 : l.drop k = [] := List.drop_of_length_le (by omega)
    have e2 : m.drop k = [] := List.drop_of_length_le (by omega)
    rw [e1, e2] at hinv
    rw [← hinv]
    rfl
 ·rw [decide_eq_false hlen]
  conv => whnf
  rw [eqHs_len (by omega)]
  rfl
theorem psame (u v : Ut) : Spec Tryz.prog 26 [] [.agg (utA u), .agg (utA v)] fun _ r => r = boolA (eqU u v) := by
 unfold eqU
 obtain ⟨du, vo, on⟩ := u
 obtain ⟨dv, wo, om⟩ := v
 simp only
 refine spec_of (cx_ok ord0 xs0 0) (fun _ _ h => h) Tryz.func26 rfl (by kernel_rfl) rfl (by kernel_rfl) ?_
 intro hok
 obtain ⟨hd1, hd2, hd3⟩ := ok_ut (okL_mem hok (List.mem_cons_self ..))
 simp only at hd1 hd2 hd3
 have t1 := ptexts du dv hd1
 have t2 := ptexts vo wo hd2
 have t3 := eqhn_spec on om hd3
 simp only [utA]
 conv => whnf
 (refine call0 [] rfl (fun _ => t1) ?_; rintro r rfl; conv => whnf)
 by_cases h1 : du = dv
 ·rw [decide_eq_true h1]
  conv => whnf
  (refine call0 [] rfl (fun _ => t2) ?_; rintro r rfl; conv => whnf)
  by_cases h2 : vo = wo
  ·rw [decide_eq_true h2]
   conv => whnf
   (refine call0 [] rfl (fun _ => t3) ?_; rintro r rfl; conv => whnf)
   rfl
  ·rw [decide_eq_false h2]
   conv => whnf
   rfl
 ·rw [decide_eq_false h1]
  conv => whnf
  rfl
end Go.Proofs.YtmodkpibkkpcdaaGreatDoor.Vm
namespace Go.Proofs.YtmodkpibkkpcdaaGreatDoor.Vm
open Go.RowKit Go.Shelf
set_option linter.unusedSimpArgs false
set_option linter.unusedVariables false
set_option maxRecDepth 100000
def exA : ByteArray := ⟨#[111, 110, 32, 115, 116, 97, 114, 116, 123, 120, 61, 49, 59, 125]⟩
def exB : ByteArray := ⟨#[100, 117, 114, 97, 98, 108, 101, 32, 120, 44, 120, 59]⟩
def exC : ByteArray := ⟨#[111, 110, 32, 116, 105, 109, 101, 114, 32, 56, 123, 125]⟩
theorem exA_ok : ∃ u, uparF exA = .ok u ∧ u.on.length = 1 := by
 have h : (match uparF exA with | .ok u => Nat.beq u.on.length 1 | _ => false) = true := by kernel_rfl
 cases hp : uparF exA with
 | ok u => rw [hp] at h; exact ⟨u, rfl, Nat.eq_of_beq_eq_true h⟩
 | bad x e => rw [hp] at h; cases h
theorem bad_of {p : PU} {a b : Int} (h : (match p with | .bad x e => decide (x = a) && decide (e = b) | _ => false) = true) : p = .bad a b := by
 cases p with
 | ok u => cases h
 | bad x e =>
  simp only [Bool.and_eq_true, decide_eq_true_eq] at h
  rw [h.1, h.2]
theorem exB_bad : uparF exB = .bad 10 4 := bad_of (by kernel_rfl)
theorem exC_bad : uparF exC = .bad 9 6 := bad_of (by kernel_rfl)
theorem plives_spec : Spec Tryz.prog 18 [] [] fun _ r => r = boolA true := by
 obtain ⟨u, hu, hl⟩ := exA_ok
 have h1 := pparse_raw exA (by decide)
 have h2 := pparse_raw exB (by decide)
 have h3 := pparse_raw exC (by decide)
 rw [hu] at h1
 rw [exB_bad] at h2
 rw [exC_bad] at h3
 unfold parU0 at h1 h2 h3
 simp only at h1 h2 h3
 refine spec_of (cx_ok ord0 xs0 0) (fun _ _ h => h) Tryz.func18 rfl (by kernel_rfl) rfl (by kernel_rfl) ?_
 intro _
 conv => whnf
 (refine call0 [] rfl (fun _ => h1) ?_; rintro r rfl; conv => whnf)
 conv => whnf
 (refine call0 [] rfl (fun _ => h2) ?_; rintro r rfl; conv => whnf)
 conv => whnf
 (refine call0 [] rfl (fun _ => h3) ?_; rintro r rfl; conv => whnf)
 conv => whnf
 rw [decide_eq_true (show (u.on.length : Int) = 1 by omega)]
 conv => whnf
 rfl
end Go.Proofs.YtmodkpibkkpcdaaGreatDoor.Vm
namespace Go.Proofs.YtmodkpibkkpcdaaGreatDoor.Vm
open Go.RowKit Go.Shelf
set_option linter.unusedSimpArgs false
set_option linter.unusedVariables false
set_option maxRecDepth 100000
end Go.Proofs.YtmodkpibkkpcdaaGreatDoor.Vm
namespace Go.Proofs.YtmodkpibkkpcdaaGreatDoor.Vm
open Go.RowKit
set_option linter.unusedSimpArgs false
set_option linter.unusedVariables false
set_option maxRecDepth 100000
def absI (n : Int) : Int := if n < 0 then -(n + 1) else n
def aroundF (n m : Int) : Int := (absI n).tmod m
theorem absI_rng {n : Int} (hn : -9223372036854775808 ≤ n ∧ n ≤ 9223372036854775807) : 0 ≤ absI n ∧ absI n ≤ 9223372036854775807 := by unfold absI; split <;> omega
theorem aroundF_rng {n m : Int} (hn : -9223372036854775808 ≤ n ∧ n ≤ 9223372036854775807) (hm : 1 ≤ m) : 0 ≤ aroundF n m ∧ aroundF n m < m := by
 have h := absI_rng hn
 unfold aroundF
 rw [Int.tmod_eq_emod_of_nonneg h.1]
 exact ⟨Int.emod_nonneg _ (by omega), Int.emod_lt_of_pos _ (by omega)⟩
theorem around_spec (n m : Int) (hm : 1 ≤ m ∧ m ≤ 9223372036854775807) : Spec Tryz.prog 20 [] [intA n, intA m] fun _ r => (-9223372036854775808 ≤ n ∧ n ≤ 9223372036854775807) ∧ r = intA (aroundF n m) := by
 refine spec_of (cx_ok ord0 xs0 0) (fun _ _ h => h) Tryz.func20 rfl (by kernel_rfl) rfl (by kernel_rfl) ?_
 intro hok
 have hn : -9223372036854775808 ≤ n ∧ n ≤ 9223372036854775807 := okA_int.1 hok.1
 have hab := absI_rng hn
 conv => whnf
 by_cases h : n < 0
 ·refine br_true (b := decide (n < 0)) (decide_eq_true h) ?_
  conv => whnf
  refine ⟨i64r (by omega), ?_⟩
  conv => whnf
  refine ⟨i64r (by omega), ?_⟩
  conv => whnf
  refine ⟨by omega, ?_⟩
  conv => whnf
  refine ⟨hn, ?_⟩
  have : 0 - (n + 1) = absI n := by unfold absI; rw [if_pos h]; omega
  rw [this]; rfl
 ·refine br_false (b := decide (n < 0)) (decide_eq_false h) ?_
  conv => whnf
  refine ⟨by omega, ?_⟩
  conv => whnf
  refine ⟨hn, ?_⟩
  have : n = absI n := by unfold absI; rw [if_neg h]
  show A.v (.int .i64 (n.tmod m)) = intA ((absI n).tmod m)
  rw [← this]; rfl
end Go.Proofs.YtmodkpibkkpcdaaGreatDoor.Vm
namespace Go.Proofs.YtmodkpibkkpcdaaGreatDoor.Vm
open Go.RowKit Go.Shelf
set_option linter.unusedSimpArgs false
set_option linter.unusedVariables false
set_option maxRecDepth 100000
def phA (κ i : Nat) : Nat := if i < 70 then (4 * κ + 12) * i else (4 * κ + 12) * 70
def phi (κ i : Nat) : Nat := if i < 70 then (4 * κ + 12) * i else (4 * κ + 12) * 70 + 6 * κ + 18
theorem phA_up (κ i : Nat) : phA κ i ≤ phA κ (i + 1) ∧ (i < 70 → phA κ i + (4 * κ + 12) ≤ phA κ (i + 1)) := by
 unfold phA
 generalize 4 * κ + 12 = c
 have e : c * (i + 1) = c * i + c := Nat.mul_succ c i
 by_cases h : i < 70
 ·rw [if_pos h]
  by_cases h2 : i + 1 < 70
  ·rw [if_pos h2]; omega
  ·rw [if_neg h2]
   obtain rfl : i = 69 := by omega
   omega
 ·rw [if_neg h, if_neg (by omega)]; omega
theorem phi_A (κ i : Nat) : (i < 70 → phi κ i = phA κ i) ∧ (70 ≤ i → phi κ i = phA κ i + 6 * κ + 18) := by
 unfold phi phA
 by_cases h : i < 70
 ·rw [if_pos h, if_pos h]; omega
 ·rw [if_neg h, if_neg h]; omega
theorem phi_up (κ i : Nat) : phi κ i ≤ phi κ (i + 1) ∧ (i < 70 → phi κ i + (4 * κ + 12) ≤ phi κ (i + 1)) := by
 have h1 := phi_A κ i
 have h2 := phi_A κ (i + 1)
 have h3 := phA_up κ i
 omega
theorem phA_phi {κ w b i j : Nat} (hij : i ≤ j) (h : w + phA κ i ≤ b + phA κ j) : w + phi κ i ≤ b + phi κ j := by
 have h1 := phi_A κ i
 have h2 := phi_A κ j
 omega
theorem phi_end (κ i : Nat) : phi κ i ≤ (4 * κ + 12) * 70 + 6 * κ + 18 ∧ (67 ≤ i → i < 70 → phi κ i + (4 * κ + 12) ≤ (4 * κ + 12) * 70) ∧ (70 ≤ i → phi κ i = (4 * κ + 12) * 70 + 6 * κ + 18) := by
 unfold phi
 generalize 4 * κ + 12 = c
 by_cases h : i < 70
 ·rw [if_pos h]
  have e : c * (i + 1) = c * i + c := Nat.mul_succ c i
  have e2 : c * (i + 1) ≤ c * 70 := Nat.mul_le_mul_left c (by omega)
  omega
 ·rw [if_neg h]; omega
def dgN (n : Int) : Nat := if n < 10 then 1 else if n < 100 then 2 else if n < 1000 then 3 else 10
mutual
def wN (κ : Nat) : Nt → Nat
 | .mk k n s kids => (if k = 12 then κ + dgN n else if k = 13 then 5 + κ else if k = 14 then κ + s.size else if k = 15 then κ + s.size else if k = 16 then 6 + 3 * κ else s.size + (2 + 3 * κ)) + wNs κ kids
def wNs (κ : Nat) : List Nt → Nat
 | [] => 0
 | f :: l => wN κ f + wNs κ l
end
theorem wN_int (κ : Nat) (n : Int) : wN κ (.mk 12 n eB []) = κ + dgN n := rfl
theorem wN_bool (κ : Nat) (n : Int) : wN κ (.mk 13 n eB []) = 5 + κ := rfl
theorem wN_var (κ : Nat) (s : ByteArray) : wN κ (.mk 14 0 s []) = κ + s.size := rfl
theorem wN_nam (κ : Nat) (s : ByteArray) : wN κ (.mk 15 0 s []) = κ + s.size := rfl
theorem wN_drw (κ : Nat) (f : Nt) : wN κ (.mk 16 0 eB [f]) = 6 + 3 * κ + wN κ f := rfl
theorem wN_una (κ : Nat) (s : ByteArray) (f : Nt) : wN κ (.mk 17 0 s [f]) = s.size + (2 + 3 * κ) + wN κ f := by
 rw [wN, wNs, wNs]; simp
theorem wN_bin (κ : Nat) (s : ByteArray) (f g : Nt) : wN κ (.mk 18 0 s [f, g]) = s.size + (2 + 3 * κ) + (wN κ f + wN κ g) := by
 rw [wN, wNs, wNs, wNs]; simp
def kidW (l : List Nt) (i : Nat) : Nt := l.getD i (.mk 0 0 eB [])
mutual
def wS (κ : Nat) : Nt → Nat
 | .mk k n s kids => if k = 1 then s.size + 2 + 3 * κ + wNs κ kids else if k = 4 then 9 + 6 * κ + wNs κ kids else if k = 5 then 7 + 3 * κ else if k = 6 then 8 + 3 * κ else if k = 7 then 5 + 2 * κ else if k = 10 then 5 + 2 * κ else if k = 8 then 7 + 3 * κ + wNs κ kids else if k = 9 then 5 + 2 * κ + wNs κ kids else if k = 3 then 5 + κ + wN κ (kidW kids 0) + (wBs κ kids).getD 1 0 else 2 + κ + wN κ (kidW kids 0) + (wBs κ kids).getD 1 0 + (if 0 < (kidW kids 2).kids.length then 4 + κ + (wBs κ kids).getD 2 0 else 0)
def wB (κ : Nat) : Nt → Nat
 | .mk _ _ _ kids => 2 + 2 * κ + wSs κ kids
def wSs (κ : Nat) : List Nt → Nat
 | [] => 0
 | f :: l => wS κ f + wSs κ l
def wBs (κ : Nat) : List Nt → List Nat
 | [] => []
 | f :: l => wB κ f :: wBs κ l
end
theorem wB_blk (κ : Nat) (l : List Nt) : wB κ (blkN l) = 2 + 2 * κ + wSs κ l := by unfold blkN; rw [wB]
theorem wS_asg (κ : Nat) (s : ByteArray) (f : Nt) : wS κ (.mk 1 0 s [f]) = s.size + 2 + 3 * κ + wN κ f := rfl
theorem wS_snd (κ : Nat) (n : Int) (f g h : Nt) : wS κ (.mk 4 n eB [f, g, h]) = 9 + 6 * κ + (wN κ f + (wN κ g + wN κ h)) := rfl
theorem wS_tim (κ : Nat) (n : Int) : wS κ (.mk 5 n eB []) = 7 + 3 * κ := rfl
theorem wS_can (κ : Nat) (n : Int) : wS κ (.mk 6 n eB []) = 8 + 3 * κ := rfl
theorem wS_syn (κ : Nat) : wS κ (.mk 7 0 eB []) = 5 + 2 * κ := rfl
theorem wS_stp (κ : Nat) : wS κ (.mk 10 0 eB []) = 5 + 2 * κ := rfl
theorem wS_rep (κ : Nat) (f g : Nt) : wS κ (.mk 8 0 eB [f, g]) = 7 + 3 * κ + (wN κ f + wN κ g) := rfl
theorem wS_fai (κ : Nat) (f : Nt) : wS κ (.mk 9 0 eB [f]) = 5 + 2 * κ + wN κ f := rfl
theorem wS_whi (κ : Nat) (c b : Nt) : wS κ (.mk 3 0 eB [c, b]) = 5 + κ + wN κ c + wB κ b := rfl
theorem wS_iff (κ : Nat) (c b d : Nt) : wS κ (.mk 2 0 eB [c, b, d]) = 2 + κ + wN κ c + wB κ b + (if 0 < d.kids.length then 4 + κ + wB κ d else 0) := rfl
theorem wS_if2 (κ : Nat) (c : Nt) (l m : List Nt) : wS κ (.mk 2 0 eB [c, blkN l, blkN m]) ≤ 4 + 3 * κ + wN κ c + wSs κ l + (6 + 3 * κ + wSs κ m) ∧ (m.length = 0 → wS κ (.mk 2 0 eB [c, blkN l, blkN m]) = 4 + 3 * κ + wN κ c + wSs κ l) := by
 rw [wS_iff, wB_blk, wB_blk]
 refine ⟨by split <;> omega, fun h => ?_⟩
 rw [if_neg (by show ¬ 0 < m.length; omega)]
 omega
def wHs (κ : Nat) : List (Int × Nt) → Nat
 | [] => 0
 | x :: l => 11 + 3 * κ + wB κ x.2 + wHs κ l
end Go.Proofs.YtmodkpibkkpcdaaGreatDoor.Vm
namespace Go.Proofs.YtmodkpibkkpcdaaGreatDoor.Vm
open Go.RowKit Go.Shelf
set_option linter.unusedSimpArgs false
set_option linter.unusedVariables false
set_option maxRecDepth 100000
def pkF (l : List Int) (i : Nat) : Int := if i < l.length then aroundF (l.getD i 0) 1000000 else 0
theorem rPick (l : List Int) (i : Nat) : Spec Tryz.prog 45 [] [.sl 1 l.length (intsA l), intA i, intA 1000000] fun _ r => (0 ≤ pkF l i ∧ pkF l i < 1000000) ∧ r = intA (pkF l i) := by
 unfold pkF
 refine spec_of (cx_ok ord0 xs0 0) (fun _ _ h => h) Tryz.func45 rfl (by kernel_rfl) rfl (by kernel_rfl) ?_
 intro hok
 conv => whnf
 rw [decide_eq_false (show ¬ (i : Int) < 0 by omega)]
 conv => whnf
 by_cases hi : i < l.length
 ·have hr := rowOf_ints l i hi
  have e : l.getD i 0 = l[i] := by rw [List.getD_eq_getElem?_getD, List.getElem?_eq_getElem hi]; rfl
  rw [← e] at hr
  rw [if_pos hi, decide_eq_false (show ¬ (l.length : Int) ≤ i by omega)]
  generalize l.getD i 0 = x at *
  have ha := around_spec x 1000000 (by omega)
  conv => whnf
  (refine goA ?_; try with_reducible exact trivial)
  (generalize hrq : rowOf _ _ (intsA l) = rq; obtain rfl : rq = [intA x] := hrq.symm.trans (hr); clear hrq; conv => whnf)
  refine call0 [] rfl (fun _ => ha) ?_
  rintro r ⟨hx, rfl⟩
  conv => whnf
  exact ⟨aroundF_rng hx (by omega), rfl⟩
 ·rw [if_neg hi, decide_eq_true (show (l.length : Int) ≤ i by omega)]
  conv => whnf
  exact ⟨by omega, rfl⟩
def bxG (l : List Int) (i : Nat) : List A := [.sl 1 l.length (intsA l), .v (.int .i64 i)]
def pk (l : List Int) (i m : Nat) : Nat := (pkF l i).toNat % m
theorem pk_lt (l : List Int) (i : Nat) {m : Nat} (h : 0 < m) : pk l i m < m := Nat.mod_lt _ h
theorem gpick (l : List Int) (i m : Nat) (hi : i ≤ 1000000000) (hm : 1 ≤ m ∧ m ≤ 1000) : Spec Tryz.prog 36 [bxG l i] [.box 0 0, .v (.int .i64 m)] fun o r => o = [bxG l (i + 1)] ∧ r = .v (.int .i64 (pk l i m)) := by
 unfold pk
 refine spec_of (cx_ok ord36 xs0 1) (fun _ _ h => h) Tryz.func36 rfl (by kernel_rfl) rfl (by kernel_rfl) ?_
 intro hok
 conv => whnf
 refine call0 [] rfl (fun _ => rPick l i) ?_
 rintro r ⟨hr, rfl⟩
 obtain ⟨k, hk⟩ : ∃ k : Nat, pkF l i = (k : Int) := ⟨(pkF l i).toNat, by omega⟩
 rw [hk] at hr ⊢
 conv => whnf
 (refine goA ?_; try with_reducible exact trivial)
 have e : ((k : Int)).tmod (m : Int) = ((k % m : Nat) : Int) := by rw [Int.tmod_eq_emod_of_nonneg (by omega)]; omega
 exact ⟨rfl, by rw [e]; rfl⟩
theorem drop_cell {α : Type} (f : α → A) (l : List α) (i : Nat) (h : i < l.length) : (l.map f).drop (i * 1) = f l[i] :: (l.map f).drop (i + 1) := by
 rw [Nat.mul_one, List.drop_eq_getElem_cons (by simpa using h), List.getElem_map]
theorem pk_out (l : List Int) (i m : Nat) (h : l.length ≤ 70) : 70 ≤ i → pk l i m = 0 := fun hi => by
 unfold pk pkF
 rw [if_neg (by omega)]
 exact Nat.zero_mod m
def varL : List ByteArray := [⟨#[100]⟩, ⟨#[100, 100, 49]⟩, ⟨#[118]⟩, ⟨#[119, 50]⟩]
theorem gvar (l : List Int) (i : Nat) (hi : i ≤ 1000000000) : ∃ s ∈ varL, (s.size ≤ 3 ∧ (l.length ≤ 70 → 70 ≤ i → s.size = 1)) ∧ Spec Tryz.prog 91 [bxG l i] [.box 0 0] fun o r => o = [bxG l (i + 1)] ∧ r = strA s := by
 have hp := gpick l i 4 hi (by decide)
 have hlt := pk_lt l i (m := 4) (by decide)
 have ho := pk_out l i 4
 generalize pk l i 4 = k at *
 refine ⟨varL[k]'hlt, List.getElem_mem _, ?_, ?_⟩
 ·have h4 : ∀ (k : Nat) (h : k < varL.length), (varL[k]'h).size ≤ 3 ∧ (k = 0 → (varL[k]'h).size = 1) := by decide
  exact ⟨(h4 k hlt).1, fun a b => (h4 k hlt).2 (ho a b)⟩
 have hr := drop_cell strA varL k hlt
 generalize varL[k]'hlt = s at *
 refine spec_of (cx_ok ord0 xs0 1) (fun _ _ h => h) Tryz.func91 rfl (by kernel_rfl) rfl (by kernel_rfl) ?_
 intro hok
 conv => whnf
 refine call1 0 [] rfl rfl rfl rfl (fun _ => hp) ?_
 rintro o r ⟨ho, rfl⟩
 cases ho
 conv => whnf
 refine ⟨⟨by omega, by omega⟩, ?_⟩
 conv => whnf
 generalize hrq : List.drop (Int.toNat (k : Int) * _) _ = rq
 obtain rfl : rq = _ :: _ := hrq.symm.trans hr
 clear hrq
 conv => whnf
 exact ⟨rfl, rfl⟩
def litL : List Int := [0, 1, 2, 3, 7, 100, 2147483647, 30]
def opL : List ByteArray := [pPlus, pMinus, pStar, pSlash]
inductive EI : Nat → Nt → Prop
 | lit (d : Nat) (n : Int) (h : n ∈ litL) : EI d (.mk 12 n eB [])
 | var (d : Nat) (s : ByteArray) (h : s ∈ varL) : EI d (.mk 14 0 s [])
 | nam (d : Nat) (s : ByteArray) (h : s ∈ builtL) : EI d (.mk 15 0 s [])
 | drw (d : Nat) (f : Nt) (h : EI d f) : EI (d + 1) (.mk 16 0 eB [f])
 | neg (d : Nat) (f : Nt) (h : EI d f) : EI (d + 1) (.mk 17 0 pMinus [f])
 | bin (d : Nat) (s : ByteArray) (f g : Nt) (hs : s ∈ opL) (h1 : EI d f) (h2 : EI d g) : EI (d + 1) (.mk 18 0 s [f, g])
def bI : Nat → Nat
 | 0 => 2
 | d + 1 => 2 + 2 * bI d
theorem bI_ge : ∀ d, 2 ≤ bI d
 | 0 => Nat.le_refl _
 | d + 1 => by unfold bI; omega
def GenI (l : List Int) (d : Nat) : Prop := l.length ≤ 70 → ∀ (i : Nat) (z : Int), z.toNat = d → -5 ≤ z → z ≤ 10 → i + bI d ≤ 1000000000 → ∃ f i', EI d f ∧ i ≤ i' ∧ i' ≤ i + bI d ∧ (∀ κ, 1 ≤ κ → κ ≤ 7 → wN κ f + phA κ i ≤ 1 + κ + phA κ i') ∧ Spec Tryz.prog 92 [bxG l i] [.box 0 0, .v (.int .i64 z)] fun o r => o = [bxG l i'] ∧ r = .agg (ntA f)
theorem gw {P : Program} {f : Nat} {cs args : List A} {X : List (List A)} {t : Nt} (h : Spec P f [cs] args fun o r => o = X ∧ ∃ l, r = .agg l ∧ WkL l (ntA t)) : Spec P f [cs] args fun o r => o = X ∧ r = .agg (ntA t) :=
 Spec.weaken h fun o r ⟨h1, l, h2, h3⟩ => ⟨o, .agg (ntA t), ⟨h1, rfl⟩, .refl _, by rw [h2]; exact .agg h3⟩
set_option maxHeartbeats 1000000 in
theorem gint (l : List Int) (d : Nat) (ih : ∀ e, d = e + 1 → GenI l e) : GenI l d := fun hl i z hz h1 h2 hi => by
 have hge := bI_ge d
 have hp := gpick l i 12 (by omega) (by decide)
 have hlt := pk_lt l i (m := 12) (by decide)
 have ho := pk_out l i 12 hl
 have p0 := fun κ => phA_up κ i
 have p1 := fun κ => phA_up κ (i + 1)
 have pe2 : ∀ κ, phA κ (i + 2) = phA κ (i + 1 + 1) := fun _ => rfl
 generalize pk l i 12 = n0 at *
 obtain ⟨n, hn⟩ : ∃ n, (if z ≤ 0 then n0 % 6 else n0) = n := ⟨_, rfl⟩
 have hn12 : n < 12 := by split at hn <;> omega
 have hn6 : z ≤ 0 → n < 6 := fun h => by rw [if_pos h] at hn; omega
 have hlo : n ≠ 0 → i < 70 := fun h => by
  by_cases h70 : 70 ≤ i
  ·have := ho h70
   split at hn <;> omega
  ·omega
 by_cases hA : n ≤ 1
 ·have hp2 := gpick l (i + 1) 8 (by omega) (by decide)
  have hlt2 := pk_lt l (i + 1) (m := 8) (by decide)
  have ho2 := pk_out l (i + 1) 8 hl
  generalize pk l (i + 1) 8 = k8 at *
  have hlw : ∀ (k : Nat) (h : k < litL.length), dgN (litL[k]'h) ≤ 10 ∧ (k = 0 → dgN (litL[k]'h) = 1) := by decide
  have hlk := hlw k8 hlt2
  refine ⟨.mk 12 (litL[k8]'hlt2) eB [], i + 2, .lit _ _ (List.getElem_mem _), by omega, by omega, fun κ ka kb => by have p0 := p0 κ; have p1 := p1 κ; have pe2 := pe2 κ; rw [wN_int]; omega, ?_⟩
  clear hlw hlk
  have hr := drop_cell intA litL k8 hlt2
  generalize litL[k8]'hlt2 = x at *
  rcases (by omega : n = 0 ∨ n = 1) with rfl | rfl
  ·refine gw ?_
   refine spec_of (cx_ok ord92 (fun _ => [0]) 1) (fun _ _ h => h) Tryz.func92 rfl (by kernel_rfl) rfl (by kernel_rfl) ?_
   intro hok
   conv => whnf
   refine call1 0 [] rfl rfl rfl rfl (fun _ => hp) ?_
   rintro o r ⟨ho, rfl⟩
   cases ho
   conv => whnf
   by_cases hz0 : z ≤ 0
   all_goals
    first
    | (rw [if_pos hz0] at hn; rw [decide_eq_true hz0]; (conv => whnf); refine ⟨by decide, ?_⟩; rw [show ((n0 : Int)).tmod 6 = 0 by rw [Int.tmod_eq_emod_of_nonneg (by omega)]; omega])
    | (rw [if_neg hz0] at hn; rw [decide_eq_false hz0]; (conv => whnf); rw [show (n0 : Int) = 0 by omega])
    conv => whnf
   all_goals
    refine call1 0 [] rfl rfl rfl rfl (fun _ => hp2) ?_
    rintro o r ⟨ho, rfl⟩
    cases ho
    conv => whnf
    refine ⟨⟨by omega, by omega⟩, ?_⟩
    conv => whnf
    generalize hrq : List.drop (Int.toNat (k8 : Int) * _) _ = rq
    obtain rfl : rq = _ :: _ := hrq.symm.trans hr
    clear hrq
    conv => whnf
    exact ⟨rfl, _, rfl, rawN_wk (f := .mk 12 x eB []) rfl⟩
  ·refine gw ?_
   refine spec_of (cx_ok ord92 (fun _ => [0]) 1) (fun _ _ h => h) Tryz.func92 rfl (by kernel_rfl) rfl (by kernel_rfl) ?_
   intro hok
   conv => whnf
   refine call1 0 [] rfl rfl rfl rfl (fun _ => hp) ?_
   rintro o r ⟨ho, rfl⟩
   cases ho
   conv => whnf
   by_cases hz0 : z ≤ 0
   all_goals
    first
    | (rw [if_pos hz0] at hn; rw [decide_eq_true hz0]; (conv => whnf); refine ⟨by decide, ?_⟩; rw [show ((n0 : Int)).tmod 6 = 1 by rw [Int.tmod_eq_emod_of_nonneg (by omega)]; omega])
    | (rw [if_neg hz0] at hn; rw [decide_eq_false hz0]; (conv => whnf); rw [show (n0 : Int) = 1 by omega])
    conv => whnf
   all_goals
    refine call1 0 [] rfl rfl rfl rfl (fun _ => hp2) ?_
    rintro o r ⟨ho, rfl⟩
    cases ho
    conv => whnf
    refine ⟨⟨by omega, by omega⟩, ?_⟩
    conv => whnf
    generalize hrq : List.drop (Int.toNat (k8 : Int) * _) _ = rq
    obtain rfl : rq = _ :: _ := hrq.symm.trans hr
    clear hrq
    conv => whnf
    exact ⟨rfl, _, rfl, rawN_wk (f := .mk 12 x eB []) rfl⟩
 by_cases hB : n ≤ 3
 ·obtain ⟨s, hs1, hs2, hp2⟩ := gvar l (i + 1) (by omega)
  refine ⟨.mk 14 0 s [], i + 2, .var _ _ hs1, by omega, by omega, fun κ ka kb => by have p0 := p0 κ; have p1 := p1 κ; have pe2 := pe2 κ; rw [wN_var]; omega, ?_⟩
  rcases (by omega : n = 2 ∨ n = 3) with rfl | rfl
  ·refine gw ?_
   refine spec_of (cx_ok ord92 (fun _ => [0]) 1) (fun _ _ h => h) Tryz.func92 rfl (by kernel_rfl) rfl (by kernel_rfl) ?_
   intro hok
   conv => whnf
   refine call1 0 [] rfl rfl rfl rfl (fun _ => hp) ?_
   rintro o r ⟨ho, rfl⟩
   cases ho
   conv => whnf
   by_cases hz0 : z ≤ 0
   all_goals
    first
    | (rw [if_pos hz0] at hn; rw [decide_eq_true hz0]; (conv => whnf); refine ⟨by decide, ?_⟩; rw [show ((n0 : Int)).tmod 6 = 2 by rw [Int.tmod_eq_emod_of_nonneg (by omega)]; omega])
    | (rw [if_neg hz0] at hn; rw [decide_eq_false hz0]; (conv => whnf); rw [show (n0 : Int) = 2 by omega])
    conv => whnf
   all_goals
    refine call1 0 [] rfl rfl rfl rfl (fun _ => hp2) ?_
    rintro o r ⟨ho, rfl⟩
    cases ho
    conv => whnf
    exact ⟨rfl, _, rfl, rawN_wk (f := .mk 14 0 s []) rfl⟩
  ·refine gw ?_
   refine spec_of (cx_ok ord92 (fun _ => [0]) 1) (fun _ _ h => h) Tryz.func92 rfl (by kernel_rfl) rfl (by kernel_rfl) ?_
   intro hok
   conv => whnf
   refine call1 0 [] rfl rfl rfl rfl (fun _ => hp) ?_
   rintro o r ⟨ho, rfl⟩
   cases ho
   conv => whnf
   by_cases hz0 : z ≤ 0
   all_goals
    first
    | (rw [if_pos hz0] at hn; rw [decide_eq_true hz0]; (conv => whnf); refine ⟨by decide, ?_⟩; rw [show ((n0 : Int)).tmod 6 = 3 by rw [Int.tmod_eq_emod_of_nonneg (by omega)]; omega])
    | (rw [if_neg hz0] at hn; rw [decide_eq_false hz0]; (conv => whnf); rw [show (n0 : Int) = 3 by omega])
    conv => whnf
   all_goals
    refine call1 0 [] rfl rfl rfl rfl (fun _ => hp2) ?_
    rintro o r ⟨ho, rfl⟩
    cases ho
    conv => whnf
    exact ⟨rfl, _, rfl, rawN_wk (f := .mk 14 0 s []) rfl⟩
 by_cases hC : n ≤ 5
 ·have hp2 := gpick l (i + 1) 9 (by omega) (by decide)
  have hlt2 := pk_lt l (i + 1) (m := 9) (by decide)
  generalize pk l (i + 1) 9 = k8 at *
  have hlw : ∀ (k : Nat) (h : k < builtL.length), (builtL[k]'h).size ≤ 5 := by decide
  have hlk := hlw k8 hlt2
  refine ⟨.mk 15 0 (builtL[k8]'hlt2) [], i + 2, .nam _ _ (List.getElem_mem _), by omega, by omega, fun κ ka kb => by have p0 := p0 κ; have p1 := p1 κ; have pe2 := pe2 κ; rw [wN_nam]; omega, ?_⟩
  clear hlw hlk
  have hr : rowOf 1 k8 (strsA builtL) = [strA (builtL[k8]'hlt2)] := rowOf_map strA builtL k8 hlt2
  have hbu := builtins_spec
  generalize builtL[k8]'hlt2 = s at *
  rcases (by omega : n = 4 ∨ n = 5) with rfl | rfl
  ·refine gw ?_
   refine spec_of (cx_ok ord92 (fun _ => [0]) 1) (fun _ _ h => h) Tryz.func92 rfl (by kernel_rfl) rfl (by kernel_rfl) ?_
   intro hok
   conv => whnf
   refine call1 0 [] rfl rfl rfl rfl (fun _ => hp) ?_
   rintro o r ⟨ho, rfl⟩
   cases ho
   conv => whnf
   by_cases hz0 : z ≤ 0
   all_goals
    first
    | (rw [if_pos hz0] at hn; rw [decide_eq_true hz0]; (conv => whnf); refine ⟨by decide, ?_⟩; rw [show ((n0 : Int)).tmod 6 = 4 by rw [Int.tmod_eq_emod_of_nonneg (by omega)]; omega])
    | (rw [if_neg hz0] at hn; rw [decide_eq_false hz0]; (conv => whnf); rw [show (n0 : Int) = 4 by omega])
    conv => whnf
   all_goals
    (refine call0 [] rfl (fun _ => hbu) ?_; rintro r rfl; conv => whnf)
    refine call1 0 [] rfl rfl rfl rfl (fun _ => hp2) ?_
    rintro o r ⟨ho, rfl⟩
    cases ho
    conv => whnf
    refine ⟨⟨by omega, by show (k8 : Int) < 9; omega⟩, ?_⟩
    conv => whnf
    (generalize hrq : rowOf _ _ (strsA builtL) = rq; obtain rfl : rq = [strA s] := hrq.symm.trans (hr); clear hrq; conv => whnf)
    exact ⟨rfl, _, rfl, rawN_wk (f := .mk 15 0 s []) rfl⟩
  ·refine gw ?_
   refine spec_of (cx_ok ord92 (fun _ => [0]) 1) (fun _ _ h => h) Tryz.func92 rfl (by kernel_rfl) rfl (by kernel_rfl) ?_
   intro hok
   conv => whnf
   refine call1 0 [] rfl rfl rfl rfl (fun _ => hp) ?_
   rintro o r ⟨ho, rfl⟩
   cases ho
   conv => whnf
   by_cases hz0 : z ≤ 0
   all_goals
    first
    | (rw [if_pos hz0] at hn; rw [decide_eq_true hz0]; (conv => whnf); refine ⟨by decide, ?_⟩; rw [show ((n0 : Int)).tmod 6 = 5 by rw [Int.tmod_eq_emod_of_nonneg (by omega)]; omega])
    | (rw [if_neg hz0] at hn; rw [decide_eq_false hz0]; (conv => whnf); rw [show (n0 : Int) = 5 by omega])
    conv => whnf
   all_goals
    (refine call0 [] rfl (fun _ => hbu) ?_; rintro r rfl; conv => whnf)
    refine call1 0 [] rfl rfl rfl rfl (fun _ => hp2) ?_
    rintro o r ⟨ho, rfl⟩
    cases ho
    conv => whnf
    refine ⟨⟨by omega, by show (k8 : Int) < 9; omega⟩, ?_⟩
    conv => whnf
    (generalize hrq : rowOf _ _ (strsA builtL) = rq; obtain rfl : rq = [strA s] := hrq.symm.trans (hr); clear hrq; conv => whnf)
    exact ⟨rfl, _, rfl, rawN_wk (f := .mk 15 0 s []) rfl⟩
 have hzp : 0 < z := by
  by_cases h : 0 < z
  ·exact h
  ·have := hn6 (by omega); omega
 obtain ⟨e, rfl⟩ : ∃ e, d = e + 1 := ⟨d - 1, by omega⟩
 have ihe := ih e rfl
 unfold bI at hi
 by_cases hD : n ≤ 7
 ·obtain ⟨f, i2, hf, g1, g2, w1, hs⟩ := ihe hl (i + 1) (z - 1) (by omega) (by omega) (by omega) (by omega)
  rcases (by omega : n = 6 ∨ n = 7) with rfl | rfl
  ·refine ⟨.mk 16 0 eB [f], i2, .drw _ _ hf, by omega, by unfold bI; omega, fun κ ka kb => by have p0 := p0 κ; have p1 := p1 κ; have pe2 := pe2 κ; have w1 := w1 κ ka kb; rw [wN_drw]; omega, ?_⟩
   refine gw ?_
   refine spec_of (cx_ok ord92 (fun _ => [0]) 1) (fun _ _ h => h) Tryz.func92 rfl (by kernel_rfl) rfl (by kernel_rfl) ?_
   intro hok
   conv => whnf
   refine call1 0 [] rfl rfl rfl rfl (fun _ => hp) ?_
   rintro o r ⟨ho, rfl⟩
   cases ho
   conv => whnf
   by_cases hz0 : z ≤ 0
   all_goals
    first
    | (rw [if_pos hz0] at hn; rw [decide_eq_true hz0]; (conv => whnf); refine ⟨by decide, ?_⟩; rw [show ((n0 : Int)).tmod 6 = 6 by rw [Int.tmod_eq_emod_of_nonneg (by omega)]; omega])
    | (rw [if_neg hz0] at hn; rw [decide_eq_false hz0]; (conv => whnf); rw [show (n0 : Int) = 6 by omega])
    conv => whnf
   ·exact absurd hz0 (by omega)
   refine ⟨i64r (by omega), ?_⟩
   conv => whnf
   refine call1 0 [] rfl rfl rfl rfl (fun _ => hs) ?_
   rintro o r ⟨ho, rfl⟩
   cases ho
   conv => whnf
   exact ⟨rfl, _, rfl, by rw [ntA_one]; exact wkL_refl _⟩
  ·have hsz : pMinus.size = 1 := rfl
   refine ⟨.mk 17 0 pMinus [f], i2, .neg _ _ hf, by omega, by unfold bI; omega, fun κ ka kb => by have p0 := p0 κ; have p1 := p1 κ; have pe2 := pe2 κ; have w1 := w1 κ ka kb; rw [wN_una]; omega, ?_⟩
   refine gw ?_
   refine spec_of (cx_ok ord92 (fun _ => [0]) 1) (fun _ _ h => h) Tryz.func92 rfl (by kernel_rfl) rfl (by kernel_rfl) ?_
   intro hok
   conv => whnf
   refine call1 0 [] rfl rfl rfl rfl (fun _ => hp) ?_
   rintro o r ⟨ho, rfl⟩
   cases ho
   conv => whnf
   by_cases hz0 : z ≤ 0
   all_goals
    first
    | (rw [if_pos hz0] at hn; rw [decide_eq_true hz0]; (conv => whnf); refine ⟨by decide, ?_⟩; rw [show ((n0 : Int)).tmod 6 = 7 by rw [Int.tmod_eq_emod_of_nonneg (by omega)]; omega])
    | (rw [if_neg hz0] at hn; rw [decide_eq_false hz0]; (conv => whnf); rw [show (n0 : Int) = 7 by omega])
    conv => whnf
   ·exact absurd hz0 (by omega)
   refine ⟨i64r (by omega), ?_⟩
   conv => whnf
   refine call1 0 [] rfl rfl rfl rfl (fun _ => hs) ?_
   rintro o r ⟨ho, rfl⟩
   cases ho
   conv => whnf
   exact ⟨rfl, _, rfl, by rw [ntA_one]; exact wkL_refl _⟩
 have hp2 := gpick l (i + 1) 4 (by omega) (by decide)
 have hlt2 := pk_lt l (i + 1) (m := 4) (by decide)
 generalize pk l (i + 1) 4 = k8 at *
 obtain ⟨f, i2, hf, g1, g2, w1, hs⟩ := ihe hl (i + 1 + 1) (z - 1) (by omega) (by omega) (by omega) (by omega)
 obtain ⟨g, i3, hg, g3, g4, w2, hs2⟩ := ihe hl i2 (z - 1) (by omega) (by omega) (by omega) (by omega)
 have hlw : ∀ (k : Nat) (h : k < opL.length), (opL[k]'h).size = 1 := by decide
 have hlk := hlw k8 hlt2
 refine ⟨.mk 18 0 (opL[k8]'hlt2) [f, g], i3, .bin _ _ _ _ (List.getElem_mem _) hf hg, by omega, by unfold bI; omega, fun κ ka kb => by have p0 := p0 κ; have p1 := p1 κ; have pe2 := pe2 κ; have w1 := w1 κ ka kb; have w2 := w2 κ ka kb; rw [wN_bin]; omega, ?_⟩
 clear hlw hlk
 have hr := drop_cell strA opL k8 hlt2
 generalize opL[k8]'hlt2 = s at *
 rcases (by omega : n = 8 ∨ n = 9 ∨ n = 10 ∨ n = 11) with rfl | rfl | rfl | rfl
 ·refine gw ?_
  refine spec_of (cx_ok ord92 (fun _ => [0]) 1) (fun _ _ h => h) Tryz.func92 rfl (by kernel_rfl) rfl (by kernel_rfl) ?_
  intro hok
  conv => whnf
  refine call1 0 [] rfl rfl rfl rfl (fun _ => hp) ?_
  rintro o r ⟨ho, rfl⟩
  cases ho
  conv => whnf
  by_cases hz0 : z ≤ 0
  all_goals
   first
   | (rw [if_pos hz0] at hn; rw [decide_eq_true hz0]; (conv => whnf); refine ⟨by decide, ?_⟩; rw [show ((n0 : Int)).tmod 6 = 8 by rw [Int.tmod_eq_emod_of_nonneg (by omega)]; omega])
   | (rw [if_neg hz0] at hn; rw [decide_eq_false hz0]; (conv => whnf); rw [show (n0 : Int) = 8 by omega])
   conv => whnf
  ·exact absurd hz0 (by omega)
  refine call1 0 [] rfl rfl rfl rfl (fun _ => hp2) ?_
  rintro o r ⟨ho, rfl⟩
  cases ho
  conv => whnf
  refine ⟨⟨by omega, by omega⟩, ?_⟩
  conv => whnf
  generalize hrq : List.drop (Int.toNat (k8 : Int) * _) _ = rq
  obtain rfl : rq = _ :: _ := hrq.symm.trans hr
  clear hrq
  conv => whnf
  refine ⟨i64r (by omega), ?_⟩
  conv => whnf
  refine call1 0 [] rfl rfl rfl rfl (fun _ => hs) ?_
  rintro o r ⟨ho, rfl⟩
  cases ho
  conv => whnf
  refine ⟨i64r (by omega), ?_⟩
  conv => whnf
  refine call1 0 [] rfl rfl rfl rfl (fun _ => hs2) ?_
  rintro o r ⟨ho, rfl⟩
  cases ho
  conv => whnf
  exact ⟨rfl, _, rfl, by rw [ntA_two]; exact wkL_refl _⟩
 ·refine gw ?_
  refine spec_of (cx_ok ord92 (fun _ => [0]) 1) (fun _ _ h => h) Tryz.func92 rfl (by kernel_rfl) rfl (by kernel_rfl) ?_
  intro hok
  conv => whnf
  refine call1 0 [] rfl rfl rfl rfl (fun _ => hp) ?_
  rintro o r ⟨ho, rfl⟩
  cases ho
  conv => whnf
  by_cases hz0 : z ≤ 0
  all_goals
   first
   | (rw [if_pos hz0] at hn; rw [decide_eq_true hz0]; (conv => whnf); refine ⟨by decide, ?_⟩; rw [show ((n0 : Int)).tmod 6 = 9 by rw [Int.tmod_eq_emod_of_nonneg (by omega)]; omega])
   | (rw [if_neg hz0] at hn; rw [decide_eq_false hz0]; (conv => whnf); rw [show (n0 : Int) = 9 by omega])
   conv => whnf
  ·exact absurd hz0 (by omega)
  refine call1 0 [] rfl rfl rfl rfl (fun _ => hp2) ?_
  rintro o r ⟨ho, rfl⟩
  cases ho
  conv => whnf
  refine ⟨⟨by omega, by omega⟩, ?_⟩
  conv => whnf
  generalize hrq : List.drop (Int.toNat (k8 : Int) * _) _ = rq
  obtain rfl : rq = _ :: _ := hrq.symm.trans hr
  clear hrq
  conv => whnf
  refine ⟨i64r (by omega), ?_⟩
  conv => whnf
  refine call1 0 [] rfl rfl rfl rfl (fun _ => hs) ?_
  rintro o r ⟨ho, rfl⟩
  cases ho
  conv => whnf
  refine ⟨i64r (by omega), ?_⟩
  conv => whnf
  refine call1 0 [] rfl rfl rfl rfl (fun _ => hs2) ?_
  rintro o r ⟨ho, rfl⟩
  cases ho
  conv => whnf
  exact ⟨rfl, _, rfl, by rw [ntA_two]; exact wkL_refl _⟩
 ·refine gw ?_
  refine spec_of (cx_ok ord92 (fun _ => [0]) 1) (fun _ _ h => h) Tryz.func92 rfl (by kernel_rfl) rfl (by kernel_rfl) ?_
  intro hok
  conv => whnf
  refine call1 0 [] rfl rfl rfl rfl (fun _ => hp) ?_
  rintro o r ⟨ho, rfl⟩
  cases ho
  conv => whnf
  by_cases hz0 : z ≤ 0
  all_goals
   first
   | (rw [if_pos hz0] at hn; rw [decide_eq_true hz0]; (conv => whnf); refine ⟨by decide, ?_⟩; rw [show ((n0 : Int)).tmod 6 = 10 by rw [Int.tmod_eq_emod_of_nonneg (by omega)]; omega])
   | (rw [if_neg hz0] at hn; rw [decide_eq_false hz0]; (conv => whnf); rw [show (n0 : Int) = 10 by omega])
   conv => whnf
  ·exact absurd hz0 (by omega)
  refine call1 0 [] rfl rfl rfl rfl (fun _ => hp2) ?_
  rintro o r ⟨ho, rfl⟩
  cases ho
  conv => whnf
  refine ⟨⟨by omega, by omega⟩, ?_⟩
  conv => whnf
  generalize hrq : List.drop (Int.toNat (k8 : Int) * _) _ = rq
  obtain rfl : rq = _ :: _ := hrq.symm.trans hr
  clear hrq
  conv => whnf
  refine ⟨i64r (by omega), ?_⟩
  conv => whnf
  refine call1 0 [] rfl rfl rfl rfl (fun _ => hs) ?_
  rintro o r ⟨ho, rfl⟩
  cases ho
  conv => whnf
  refine ⟨i64r (by omega), ?_⟩
  conv => whnf
  refine call1 0 [] rfl rfl rfl rfl (fun _ => hs2) ?_
  rintro o r ⟨ho, rfl⟩
  cases ho
  conv => whnf
  exact ⟨rfl, _, rfl, by rw [ntA_two]; exact wkL_refl _⟩
 ·refine gw ?_
  refine spec_of (cx_ok ord92 (fun _ => [0]) 1) (fun _ _ h => h) Tryz.func92 rfl (by kernel_rfl) rfl (by kernel_rfl) ?_
  intro hok
  conv => whnf
  refine call1 0 [] rfl rfl rfl rfl (fun _ => hp) ?_
  rintro o r ⟨ho, rfl⟩
  cases ho
  conv => whnf
  by_cases hz0 : z ≤ 0
  all_goals
   first
   | (rw [if_pos hz0] at hn; rw [decide_eq_true hz0]; (conv => whnf); refine ⟨by decide, ?_⟩; rw [show ((n0 : Int)).tmod 6 = 11 by rw [Int.tmod_eq_emod_of_nonneg (by omega)]; omega])
   | (rw [if_neg hz0] at hn; rw [decide_eq_false hz0]; (conv => whnf); rw [show (n0 : Int) = 11 by omega])
   conv => whnf
  ·exact absurd hz0 (by omega)
  refine call1 0 [] rfl rfl rfl rfl (fun _ => hp2) ?_
  rintro o r ⟨ho, rfl⟩
  cases ho
  conv => whnf
  refine ⟨⟨by omega, by omega⟩, ?_⟩
  conv => whnf
  generalize hrq : List.drop (Int.toNat (k8 : Int) * _) _ = rq
  obtain rfl : rq = _ :: _ := hrq.symm.trans hr
  clear hrq
  conv => whnf
  refine ⟨i64r (by omega), ?_⟩
  conv => whnf
  refine call1 0 [] rfl rfl rfl rfl (fun _ => hs) ?_
  rintro o r ⟨ho, rfl⟩
  cases ho
  conv => whnf
  refine ⟨i64r (by omega), ?_⟩
  conv => whnf
  refine call1 0 [] rfl rfl rfl rfl (fun _ => hs2) ?_
  rintro o r ⟨ho, rfl⟩
  cases ho
  conv => whnf
  exact ⟨rfl, _, rfl, by rw [ntA_two]; exact wkL_refl _⟩
theorem gints (l : List Int) : ∀ d, GenI l d
 | 0 => gint l 0 fun e h => by omega
 | d + 1 => gint l (d + 1) fun e h => by
  obtain rfl : d = e := by omega
  exact gints l d
end Go.Proofs.YtmodkpibkkpcdaaGreatDoor.Vm
namespace Go.Proofs.YtmodkpibkkpcdaaGreatDoor.Vm
open Go.RowKit Go.Shelf
set_option linter.unusedSimpArgs false
set_option linter.unusedVariables false
set_option maxRecDepth 100000
def bolL : List ByteArray := [pAnd, pOr]
inductive EB : Nat → Nt → Prop
 | lit (d n : Nat) (h : n < 2) : EB d (.mk 13 n eB [])
 | nt (d : Nat) (f : Nt) (h : EB d f) : EB (d + 1) (.mk 17 0 pNot [f])
 | bin (d : Nat) (s : ByteArray) (f g : Nt) (hs : s ∈ bolL) (h1 : EB d f) (h2 : EB d g) : EB (d + 1) (.mk 18 0 s [f, g])
 | cmp (d : Nat) (s : ByteArray) (f g : Nt) (hs : s ∈ cmpL) (h1 : EI (d - 1) f) (h2 : EI (d - 1) g) : EB d (.mk 18 0 s [f, g])
def bB : Nat → Nat
 | 0 => 6
 | d + 1 => 2 + 2 * bB d + 2 * bI d
theorem bB_ge : ∀ d, 2 + 2 * bI (d - 1) ≤ bB d
 | 0 => by decide
 | d + 1 => by unfold bB; rw [Nat.add_sub_cancel]; omega
def GenB (l : List Int) (d : Nat) : Prop := l.length ≤ 70 → ∀ (i : Nat) (z : Int), z.toNat = d → -3 ≤ z → z ≤ 10 → i + bB d ≤ 1000000000 → ∃ f i', EB d f ∧ i ≤ i' ∧ i' ≤ i + bB d ∧ (∀ κ, 1 ≤ κ → κ ≤ 7 → wN κ f + phA κ i ≤ 5 + κ + phA κ i') ∧ Spec Tryz.prog 93 [bxG l i] [.box 0 0, .v (.int .i64 z)] fun o r => o = [bxG l i'] ∧ r = .agg (ntA f)
set_option maxHeartbeats 1000000 in
theorem gbool (l : List Int) (d : Nat) (ih : ∀ e, d = e + 1 → GenB l e) : GenB l d := fun hl i z hz h1 h2 hi => by
 have hge := bB_ge d
 have hge2 := bI_ge (d - 1)
 have hp := gpick l i 8 (by omega) (by decide)
 have hlt := pk_lt l i (m := 8) (by decide)
 have ho := pk_out l i 8 hl
 have p0 := fun κ => phA_up κ i
 have p1 := fun κ => phA_up κ (i + 1)
 have pe2 : ∀ κ, phA κ (i + 2) = phA κ (i + 1 + 1) := fun _ => rfl
 generalize pk l i 8 = n0 at *
 obtain ⟨n, hn⟩ : ∃ n, (if z ≤ 0 then n0 % 4 else n0) = n := ⟨_, rfl⟩
 have hn12 : n < 8 := by split at hn <;> omega
 have hn6 : z ≤ 0 → n < 4 := fun h => by rw [if_pos h] at hn; omega
 have hlo : n ≠ 0 → i < 70 := fun h => by
  by_cases h70 : 70 ≤ i
  ·have := ho h70
   split at hn <;> omega
  ·omega
 by_cases hA : n = 0
 ·have hp2 := gpick l (i + 1) 2 (by omega) (by decide)
  have hlt2 := pk_lt l (i + 1) (m := 2) (by decide)
  generalize pk l (i + 1) 2 = k8 at *
  refine ⟨.mk 13 k8 eB [], i + 2, .lit _ _ hlt2, by omega, by omega, fun κ ka kb => by have p0 := p0 κ; have p1 := p1 κ; have pe2 := pe2 κ; rw [wN_bool]; omega, ?_⟩
  subst hA
  refine gw ?_
  refine spec_of (cx_ok ord93 (fun _ => [0]) 1) (fun _ _ h => h) Tryz.func93 rfl (by kernel_rfl) rfl (by kernel_rfl) ?_
  intro hok
  conv => whnf
  refine call1 0 [] rfl rfl rfl rfl (fun _ => hp) ?_
  rintro o r ⟨ho, rfl⟩
  cases ho
  conv => whnf
  by_cases hz0 : z ≤ 0
  all_goals
   first
   | (rw [if_pos hz0] at hn; rw [decide_eq_true hz0]; (conv => whnf); refine ⟨by decide, ?_⟩; rw [show ((n0 : Int)).tmod 4 = 0 by rw [Int.tmod_eq_emod_of_nonneg (by omega)]; omega])
   | (rw [if_neg hz0] at hn; rw [decide_eq_false hz0]; (conv => whnf); rw [show (n0 : Int) = 0 by omega])
   conv => whnf
  all_goals
   refine call1 0 [] rfl rfl rfl rfl (fun _ => hp2) ?_
   rintro o r ⟨ho, rfl⟩
   cases ho
   conv => whnf
   exact ⟨rfl, _, rfl, rawN_wk (f := .mk 13 k8 eB []) rfl⟩
 by_cases hB : n ≤ 4
 ·have hp2 := gpick l (i + 1) 6 (by omega) (by decide)
  have hlt2 := pk_lt l (i + 1) (m := 6) (by decide)
  generalize pk l (i + 1) 6 = k8 at *
  obtain ⟨f, i2, hf, g1, g2, w1, hs⟩ := gints l (d - 1) hl (i + 1 + 1) (z - 1) (by omega) (by omega) (by omega) (by omega)
  obtain ⟨g, i3, hg, g3, g4, w2, hs2⟩ := gints l (d - 1) hl i2 (z - 1) (by omega) (by omega) (by omega) (by omega)
  have hlw : ∀ (k : Nat) (h : k < cmpL.length), (cmpL[k]'h).size ≤ 2 := by decide
  have hlk := hlw k8 hlt2
  refine ⟨.mk 18 0 (cmpL[k8]'hlt2) [f, g], i3, .cmp _ _ _ _ (List.getElem_mem _) hf hg, by omega, by omega, fun κ ka kb => by have p0 := p0 κ; have p1 := p1 κ; have pe2 := pe2 κ; have w1 := w1 κ ka kb; have w2 := w2 κ ka kb; rw [wN_bin]; omega, ?_⟩
  clear hlw hlk
  have hr := drop_cell strA cmpL k8 hlt2
  generalize cmpL[k8]'hlt2 = s at *
  rcases (by omega : n = 1 ∨ n = 2 ∨ n = 3 ∨ n = 4) with rfl | rfl | rfl | rfl
  ·refine gw ?_
   refine spec_of (cx_ok ord93 (fun _ => [0]) 1) (fun _ _ h => h) Tryz.func93 rfl (by kernel_rfl) rfl (by kernel_rfl) ?_
   intro hok
   conv => whnf
   refine call1 0 [] rfl rfl rfl rfl (fun _ => hp) ?_
   rintro o r ⟨ho, rfl⟩
   cases ho
   conv => whnf
   by_cases hz0 : z ≤ 0
   all_goals
    first
    | (rw [if_pos hz0] at hn; rw [decide_eq_true hz0]; (conv => whnf); refine ⟨by decide, ?_⟩; rw [show ((n0 : Int)).tmod 4 = 1 by rw [Int.tmod_eq_emod_of_nonneg (by omega)]; omega])
    | (rw [if_neg hz0] at hn; rw [decide_eq_false hz0]; (conv => whnf); rw [show (n0 : Int) = 1 by omega])
    conv => whnf
   all_goals
    refine call1 0 [] rfl rfl rfl rfl (fun _ => hp2) ?_
    rintro o r ⟨ho, rfl⟩
    cases ho
    conv => whnf
    refine ⟨⟨by omega, by omega⟩, ?_⟩
    conv => whnf
    generalize hrq : List.drop (Int.toNat (k8 : Int) * _) _ = rq
    obtain rfl : rq = _ :: _ := hrq.symm.trans hr
    clear hrq
    conv => whnf
    refine ⟨i64r (by omega), ?_⟩
    conv => whnf
    refine call1 0 [] rfl rfl rfl rfl (fun _ => hs) ?_
    rintro o r ⟨ho, rfl⟩
    cases ho
    conv => whnf
    refine ⟨i64r (by omega), ?_⟩
    conv => whnf
    refine call1 0 [] rfl rfl rfl rfl (fun _ => hs2) ?_
    rintro o r ⟨ho, rfl⟩
    cases ho
    conv => whnf
    exact ⟨rfl, _, rfl, by rw [ntA_two]; exact wkL_refl _⟩
  ·refine gw ?_
   refine spec_of (cx_ok ord93 (fun _ => [0]) 1) (fun _ _ h => h) Tryz.func93 rfl (by kernel_rfl) rfl (by kernel_rfl) ?_
   intro hok
   conv => whnf
   refine call1 0 [] rfl rfl rfl rfl (fun _ => hp) ?_
   rintro o r ⟨ho, rfl⟩
   cases ho
   conv => whnf
   by_cases hz0 : z ≤ 0
   all_goals
    first
    | (rw [if_pos hz0] at hn; rw [decide_eq_true hz0]; (conv => whnf); refine ⟨by decide, ?_⟩; rw [show ((n0 : Int)).tmod 4 = 2 by rw [Int.tmod_eq_emod_of_nonneg (by omega)]; omega])
    | (rw [if_neg hz0] at hn; rw [decide_eq_false hz0]; (conv => whnf); rw [show (n0 : Int) = 2 by omega])
    conv => whnf
   all_goals
    refine call1 0 [] rfl rfl rfl rfl (fun _ => hp2) ?_
    rintro o r ⟨ho, rfl⟩
    cases ho
    conv => whnf
    refine ⟨⟨by omega, by omega⟩, ?_⟩
    conv => whnf
    generalize hrq : List.drop (Int.toNat (k8 : Int) * _) _ = rq
    obtain rfl : rq = _ :: _ := hrq.symm.trans hr
    clear hrq
    conv => whnf
    refine ⟨i64r (by omega), ?_⟩
    conv => whnf
    refine call1 0 [] rfl rfl rfl rfl (fun _ => hs) ?_
    rintro o r ⟨ho, rfl⟩
    cases ho
    conv => whnf
    refine ⟨i64r (by omega), ?_⟩
    conv => whnf
    refine call1 0 [] rfl rfl rfl rfl (fun _ => hs2) ?_
    rintro o r ⟨ho, rfl⟩
    cases ho
    conv => whnf
    exact ⟨rfl, _, rfl, by rw [ntA_two]; exact wkL_refl _⟩
  ·refine gw ?_
   refine spec_of (cx_ok ord93 (fun _ => [0]) 1) (fun _ _ h => h) Tryz.func93 rfl (by kernel_rfl) rfl (by kernel_rfl) ?_
   intro hok
   conv => whnf
   refine call1 0 [] rfl rfl rfl rfl (fun _ => hp) ?_
   rintro o r ⟨ho, rfl⟩
   cases ho
   conv => whnf
   by_cases hz0 : z ≤ 0
   all_goals
    first
    | (rw [if_pos hz0] at hn; rw [decide_eq_true hz0]; (conv => whnf); refine ⟨by decide, ?_⟩; rw [show ((n0 : Int)).tmod 4 = 3 by rw [Int.tmod_eq_emod_of_nonneg (by omega)]; omega])
    | (rw [if_neg hz0] at hn; rw [decide_eq_false hz0]; (conv => whnf); rw [show (n0 : Int) = 3 by omega])
    conv => whnf
   all_goals
    refine call1 0 [] rfl rfl rfl rfl (fun _ => hp2) ?_
    rintro o r ⟨ho, rfl⟩
    cases ho
    conv => whnf
    refine ⟨⟨by omega, by omega⟩, ?_⟩
    conv => whnf
    generalize hrq : List.drop (Int.toNat (k8 : Int) * _) _ = rq
    obtain rfl : rq = _ :: _ := hrq.symm.trans hr
    clear hrq
    conv => whnf
    refine ⟨i64r (by omega), ?_⟩
    conv => whnf
    refine call1 0 [] rfl rfl rfl rfl (fun _ => hs) ?_
    rintro o r ⟨ho, rfl⟩
    cases ho
    conv => whnf
    refine ⟨i64r (by omega), ?_⟩
    conv => whnf
    refine call1 0 [] rfl rfl rfl rfl (fun _ => hs2) ?_
    rintro o r ⟨ho, rfl⟩
    cases ho
    conv => whnf
    exact ⟨rfl, _, rfl, by rw [ntA_two]; exact wkL_refl _⟩
  ·refine gw ?_
   refine spec_of (cx_ok ord93 (fun _ => [0]) 1) (fun _ _ h => h) Tryz.func93 rfl (by kernel_rfl) rfl (by kernel_rfl) ?_
   intro hok
   conv => whnf
   refine call1 0 [] rfl rfl rfl rfl (fun _ => hp) ?_
   rintro o r ⟨ho, rfl⟩
   cases ho
   conv => whnf
   by_cases hz0 : z ≤ 0
   all_goals
    first
    | (rw [if_pos hz0] at hn; rw [decide_eq_true hz0]; (conv => whnf); refine ⟨by decide, ?_⟩; rw [show ((n0 : Int)).tmod 4 = 4 by rw [Int.tmod_eq_emod_of_nonneg (by omega)]; omega])
    | (rw [if_neg hz0] at hn; rw [decide_eq_false hz0]; (conv => whnf); rw [show (n0 : Int) = 4 by omega])
    conv => whnf
   ·exact absurd hz0 (by omega)
   refine call1 0 [] rfl rfl rfl rfl (fun _ => hp2) ?_
   rintro o r ⟨ho, rfl⟩
   cases ho
   conv => whnf
   refine ⟨⟨by omega, by omega⟩, ?_⟩
   conv => whnf
   generalize hrq : List.drop (Int.toNat (k8 : Int) * _) _ = rq
   obtain rfl : rq = _ :: _ := hrq.symm.trans hr
   clear hrq
   conv => whnf
   refine ⟨i64r (by omega), ?_⟩
   conv => whnf
   refine call1 0 [] rfl rfl rfl rfl (fun _ => hs) ?_
   rintro o r ⟨ho, rfl⟩
   cases ho
   conv => whnf
   refine ⟨i64r (by omega), ?_⟩
   conv => whnf
   refine call1 0 [] rfl rfl rfl rfl (fun _ => hs2) ?_
   rintro o r ⟨ho, rfl⟩
   cases ho
   conv => whnf
   exact ⟨rfl, _, rfl, by rw [ntA_two]; exact wkL_refl _⟩
 have hzp : 0 < z := by
  by_cases h : 0 < z
  ·exact h
  ·have := hn6 (by omega); omega
 obtain ⟨e, rfl⟩ : ∃ e, d = e + 1 := ⟨d - 1, by omega⟩
 have ihe := ih e rfl
 unfold bB at hi
 by_cases hD : n = 5
 ·obtain ⟨f, i2, hf, g1, g2, w1, hs⟩ := ihe hl (i + 1) (z - 1) (by omega) (by omega) (by omega) (by omega)
  subst hD
  have hsz : pNot.size = 1 := rfl
  refine ⟨.mk 17 0 pNot [f], i2, .nt _ _ hf, by omega, by unfold bB; omega, fun κ ka kb => by have p0 := p0 κ; have p1 := p1 κ; have pe2 := pe2 κ; have w1 := w1 κ ka kb; rw [wN_una]; omega, ?_⟩
  refine gw ?_
  refine spec_of (cx_ok ord93 (fun _ => [0]) 1) (fun _ _ h => h) Tryz.func93 rfl (by kernel_rfl) rfl (by kernel_rfl) ?_
  intro hok
  conv => whnf
  refine call1 0 [] rfl rfl rfl rfl (fun _ => hp) ?_
  rintro o r ⟨ho, rfl⟩
  cases ho
  conv => whnf
  by_cases hz0 : z ≤ 0
  all_goals
   first
   | (rw [if_pos hz0] at hn; rw [decide_eq_true hz0]; (conv => whnf); refine ⟨by decide, ?_⟩; rw [show ((n0 : Int)).tmod 4 = 5 by rw [Int.tmod_eq_emod_of_nonneg (by omega)]; omega])
   | (rw [if_neg hz0] at hn; rw [decide_eq_false hz0]; (conv => whnf); rw [show (n0 : Int) = 5 by omega])
   conv => whnf
  ·exact absurd hz0 (by omega)
  refine ⟨i64r (by omega), ?_⟩
  conv => whnf
  refine call1 0 [] rfl rfl rfl rfl (fun _ => hs) ?_
  rintro o r ⟨ho, rfl⟩
  cases ho
  conv => whnf
  exact ⟨rfl, _, rfl, by rw [ntA_one]; exact wkL_refl _⟩
 have hp2 := gpick l (i + 1) 2 (by omega) (by decide)
 have hlt2 := pk_lt l (i + 1) (m := 2) (by decide)
 generalize pk l (i + 1) 2 = k8 at *
 obtain ⟨f, i2, hf, g1, g2, w1, hs⟩ := ihe hl (i + 1 + 1) (z - 1) (by omega) (by omega) (by omega) (by omega)
 obtain ⟨g, i3, hg, g3, g4, w2, hs2⟩ := ihe hl i2 (z - 1) (by omega) (by omega) (by omega) (by omega)
 have hlw : ∀ (k : Nat) (h : k < bolL.length), (bolL[k]'h).size = 2 := by decide
 have hlk := hlw k8 hlt2
 refine ⟨.mk 18 0 (bolL[k8]'hlt2) [f, g], i3, .bin _ _ _ _ (List.getElem_mem _) hf hg, by omega, by unfold bB; omega, fun κ ka kb => by have p0 := p0 κ; have p1 := p1 κ; have pe2 := pe2 κ; have w1 := w1 κ ka kb; have w2 := w2 κ ka kb; rw [wN_bin]; omega, ?_⟩
 clear hlw hlk
 have hr := drop_cell strA bolL k8 hlt2
 generalize bolL[k8]'hlt2 = s at *
 rcases (by omega : n = 6 ∨ n = 7) with rfl | rfl
 ·refine gw ?_
  refine spec_of (cx_ok ord93 (fun _ => [0]) 1) (fun _ _ h => h) Tryz.func93 rfl (by kernel_rfl) rfl (by kernel_rfl) ?_
  intro hok
  conv => whnf
  refine call1 0 [] rfl rfl rfl rfl (fun _ => hp) ?_
  rintro o r ⟨ho, rfl⟩
  cases ho
  conv => whnf
  by_cases hz0 : z ≤ 0
  all_goals
   first
   | (rw [if_pos hz0] at hn; rw [decide_eq_true hz0]; (conv => whnf); refine ⟨by decide, ?_⟩; rw [show ((n0 : Int)).tmod 4 = 6 by rw [Int.tmod_eq_emod_of_nonneg (by omega)]; omega])
   | (rw [if_neg hz0] at hn; rw [decide_eq_false hz0]; (conv => whnf); rw [show (n0 : Int) = 6 by omega])
   conv => whnf
  ·exact absurd hz0 (by omega)
  refine call1 0 [] rfl rfl rfl rfl (fun _ => hp2) ?_
  rintro o r ⟨ho, rfl⟩
  cases ho
  conv => whnf
  refine ⟨⟨by omega, by omega⟩, ?_⟩
  conv => whnf
  generalize hrq : List.drop (Int.toNat (k8 : Int) * _) _ = rq
  obtain rfl : rq = _ :: _ := hrq.symm.trans hr
  clear hrq
  conv => whnf
  refine ⟨i64r (by omega), ?_⟩
  conv => whnf
  refine call1 0 [] rfl rfl rfl rfl (fun _ => hs) ?_
  rintro o r ⟨ho, rfl⟩
  cases ho
  conv => whnf
  refine ⟨i64r (by omega), ?_⟩
  conv => whnf
  refine call1 0 [] rfl rfl rfl rfl (fun _ => hs2) ?_
  rintro o r ⟨ho, rfl⟩
  cases ho
  conv => whnf
  exact ⟨rfl, _, rfl, by rw [ntA_two]; exact wkL_refl _⟩
 ·refine gw ?_
  refine spec_of (cx_ok ord93 (fun _ => [0]) 1) (fun _ _ h => h) Tryz.func93 rfl (by kernel_rfl) rfl (by kernel_rfl) ?_
  intro hok
  conv => whnf
  refine call1 0 [] rfl rfl rfl rfl (fun _ => hp) ?_
  rintro o r ⟨ho, rfl⟩
  cases ho
  conv => whnf
  by_cases hz0 : z ≤ 0
  all_goals
   first
   | (rw [if_pos hz0] at hn; rw [decide_eq_true hz0]; (conv => whnf); refine ⟨by decide, ?_⟩; rw [show ((n0 : Int)).tmod 4 = 7 by rw [Int.tmod_eq_emod_of_nonneg (by omega)]; omega])
   | (rw [if_neg hz0] at hn; rw [decide_eq_false hz0]; (conv => whnf); rw [show (n0 : Int) = 7 by omega])
   conv => whnf
  ·exact absurd hz0 (by omega)
  refine call1 0 [] rfl rfl rfl rfl (fun _ => hp2) ?_
  rintro o r ⟨ho, rfl⟩
  cases ho
  conv => whnf
  refine ⟨⟨by omega, by omega⟩, ?_⟩
  conv => whnf
  generalize hrq : List.drop (Int.toNat (k8 : Int) * _) _ = rq
  obtain rfl : rq = _ :: _ := hrq.symm.trans hr
  clear hrq
  conv => whnf
  refine ⟨i64r (by omega), ?_⟩
  conv => whnf
  refine call1 0 [] rfl rfl rfl rfl (fun _ => hs) ?_
  rintro o r ⟨ho, rfl⟩
  cases ho
  conv => whnf
  refine ⟨i64r (by omega), ?_⟩
  conv => whnf
  refine call1 0 [] rfl rfl rfl rfl (fun _ => hs2) ?_
  rintro o r ⟨ho, rfl⟩
  cases ho
  conv => whnf
  exact ⟨rfl, _, rfl, by rw [ntA_two]; exact wkL_refl _⟩
theorem gbools (l : List Int) : ∀ d, GenB l d
 | 0 => gbool l 0 fun e h => by omega
 | d + 1 => gbool l (d + 1) fun e h => by
  obtain rfl : d = e := by omega
  exact gbools l d
end Go.Proofs.YtmodkpibkkpcdaaGreatDoor.Vm
namespace Go.Proofs.YtmodkpibkkpcdaaGreatDoor.Vm
open Go.RowKit Go.Shelf
set_option linter.unusedSimpArgs false
set_option linter.unusedVariables false
set_option maxRecDepth 100000
inductive ES : Nat → Nt → Prop
 | asg (d e : Nat) (s : ByteArray) (f : Nt) (hs : s ∈ varL) (h : EI e f) (he : e ≤ 2) : ES d (.mk 1 0 s [f])
 | snd (d n : Nat) (f g h : Nt) (hn : n < 4) (h1 : EI 0 f) (h2 : EI 1 g) (h3 : EI 1 h) : ES d (.mk 4 n eB [f, g, h])
 | tim (d n : Nat) (hn : n < 3) : ES d (.mk 5 n eB [])
 | can (d n : Nat) (hn : n < 3) : ES d (.mk 6 n eB [])
 | syn (d : Nat) : ES d (.mk 7 0 eB [])
 | rep (d : Nat) (f g : Nt) (h1 : EI 0 f) (h2 : EI 1 g) : ES d (.mk 8 0 eB [f, g])
 | fai (d : Nat) (f : Nt) (h1 : EI 1 f) : ES d (.mk 9 0 eB [f])
 | stp (d : Nat) : ES d (.mk 10 0 eB [])
 | whi (d : Nat) (c : Nt) (l : List Nt) (h1 : EB 1 c) (h2 : l.length ≤ 2) (h3 : ∀ s ∈ l, ES d s) : ES (d + 1) (.mk 3 0 eB [c, blkN l])
 | iff (d : Nat) (c : Nt) (l m : List Nt) (h1 : EB 2 c) (h2 : l.length ≤ 2) (h3 : ∀ s ∈ l, ES d s) (h4 : m.length ≤ 2) (h5 : ∀ s ∈ m, ES d s) : ES (d + 1) (.mk 2 0 eB [c, blkN l, blkN m])
theorem mul2 (c : Nat) {n : Nat} (h : n ≤ 2) : (n = 0 ∧ c * n = 0) ∨ (n = 1 ∧ c * n = c) ∨ (n = 2 ∧ c * n = 2 * c) := by
 rcases (by omega : n = 0 ∨ n = 1 ∨ n = 2) with rfl | rfl | rfl <;> omega
def bS : Nat → Nat
 | 0 => 60
 | d + 1 => 62 + 4 * bS d
theorem bS_ge : ∀ d, 60 ≤ bS d
 | 0 => Nat.le_refl _
 | d + 1 => by unfold bS; omega
def GenS (l : List Int) (d : Nat) : Prop := l.length ≤ 70 → ∀ (i : Nat) (z : Int), z.toNat = d → 0 ≤ z → z ≤ 5 → i + bS d ≤ 1000000000 → ∃ f i', ES d f ∧ i ≤ i' ∧ i' ≤ i + bS d ∧ (∀ κ, 1 ≤ κ → κ ≤ 7 → wS κ f + phi κ i ≤ 4 + 4 * κ + phi κ i') ∧ Spec Tryz.prog 57 [bxG l i] [.box 0 0, .v (.int .i64 z)] fun o r => o = [bxG l i'] ∧ r = .agg (ntA f)
def GenK (l : List Int) (d : Nat) : Prop := l.length ≤ 70 → ∀ (i m : Nat) (z : Int), z.toNat = d → 0 ≤ z → z ≤ 5 → m ≤ 3 → i + (1 + m * bS d) ≤ 1000000000 → ∃ k i', k.length ≤ m ∧ (∀ s ∈ k, ES d s) ∧ i ≤ i' ∧ i' ≤ i + (1 + m * bS d) ∧ ((∀ κ, 1 ≤ κ → κ ≤ 7 → wSs κ k + phi κ (i + 1) ≤ (4 + 4 * κ) * k.length + phi κ i') ∧ (70 ≤ i → k.length = 0)) ∧ Spec Tryz.prog 37 [bxG l i] [.box 0 0, .v (.int .i64 z), .v (.int .i64 m)] fun o r => o = [bxG l i'] ∧ r = .agg (ntA (blkN k))
set_option maxHeartbeats 2000000 in
theorem gstm (l : List Int) (d : Nat) (ih : ∀ e, d = e + 1 → GenK l e) : GenS l d := fun hl i z hz h1 h2 hi => by
 have hge := bS_ge d
 have b0 : bI 0 = 2 := rfl
 have b1 : bI 1 = 6 := rfl
 have b2 : bI 2 = 14 := rfl
 have c1 : bB 1 = 18 := rfl
 have c2 : bB 2 = 50 := rfl
 have hp := gpick l i 14 (by omega) (by decide)
 have hlt := pk_lt l i (m := 14) (by decide)
 have ho := pk_out l i 14 hl
 have p0 := fun κ => phi_up κ i
 have p1 := fun κ => phi_up κ (i + 1)
 have pe2 : ∀ κ, phi κ (i + 2) = phi κ (i + 1 + 1) := fun _ => rfl
 have p2 := fun κ => phi_up κ (i + 1 + 1)
 generalize pk l i 14 = n0 at *
 obtain ⟨n, hn⟩ : ∃ n, (if z ≤ 0 then n0 % 11 else n0) = n := ⟨_, rfl⟩
 have hn12 : n < 14 := by split at hn <;> omega
 have hn6 : z ≤ 0 → n < 11 := fun h => by rw [if_pos h] at hn; omega
 have hlo : n ≠ 0 → i < 70 := fun h => by
  by_cases h70 : 70 ≤ i
  ·have := ho h70
   split at hn <;> omega
  ·omega
 by_cases hA : n ≤ 2
 ·obtain ⟨s, hs1, ⟨hz3, hz1⟩, hp2⟩ := gvar l (i + 1) (by omega)
  have hz1 := hz1 hl
  obtain ⟨f, i2, hf, g1, g2, w1, hs⟩ := gints l 2 hl (i + 1 + 1) 2 (by omega) (by omega) (by omega) (by omega)
  have w1 := fun κ ka kb => phA_phi (by omega) (w1 κ ka kb)
  refine ⟨.mk 1 0 s [f], i2, .asg _ _ _ _ hs1 hf (Nat.le_refl _), by omega, by omega, fun κ ka kb => by have p0 := p0 κ; have p1 := p1 κ; have pe2 := pe2 κ; have p2 := p2 κ; have w1 := w1 κ ka kb; rw [wS_asg]; omega, ?_⟩
  rcases (by omega : n = 0 ∨ n = 1 ∨ n = 2) with rfl | rfl | rfl
  ·refine gw ?_
   refine spec_of (cx_ok ord57 (fun _ => [0]) 1) (fun _ _ h => h) Tryz.func57 rfl (by kernel_rfl) rfl (by kernel_rfl) ?_
   intro hok
   conv => whnf
   refine call1 0 [] rfl rfl rfl rfl (fun _ => hp) ?_
   rintro o r ⟨ho, rfl⟩
   cases ho
   conv => whnf
   by_cases hz0 : z ≤ 0
   all_goals
    first
    | (rw [if_pos hz0] at hn; rw [decide_eq_true hz0]; (conv => whnf); refine ⟨by decide, ?_⟩; rw [show ((n0 : Int)).tmod 11 = 0 by rw [Int.tmod_eq_emod_of_nonneg (by omega)]; omega])
    | (rw [if_neg hz0] at hn; rw [decide_eq_false hz0]; (conv => whnf); rw [show (n0 : Int) = 0 by omega])
    conv => whnf
   all_goals
    refine call1 0 [] rfl rfl rfl rfl (fun _ => hp2) ?_
    rintro o r ⟨ho, rfl⟩
    cases ho
    conv => whnf
    refine call1 0 [] rfl rfl rfl rfl (fun _ => hs) ?_
    rintro o r ⟨ho, rfl⟩
    cases ho
    conv => whnf
    exact ⟨rfl, _, rfl, by rw [ntA_one]; exact wkL_refl _⟩
  ·refine gw ?_
   refine spec_of (cx_ok ord57 (fun _ => [0]) 1) (fun _ _ h => h) Tryz.func57 rfl (by kernel_rfl) rfl (by kernel_rfl) ?_
   intro hok
   conv => whnf
   refine call1 0 [] rfl rfl rfl rfl (fun _ => hp) ?_
   rintro o r ⟨ho, rfl⟩
   cases ho
   conv => whnf
   by_cases hz0 : z ≤ 0
   all_goals
    first
    | (rw [if_pos hz0] at hn; rw [decide_eq_true hz0]; (conv => whnf); refine ⟨by decide, ?_⟩; rw [show ((n0 : Int)).tmod 11 = 1 by rw [Int.tmod_eq_emod_of_nonneg (by omega)]; omega])
    | (rw [if_neg hz0] at hn; rw [decide_eq_false hz0]; (conv => whnf); rw [show (n0 : Int) = 1 by omega])
    conv => whnf
   all_goals
    refine call1 0 [] rfl rfl rfl rfl (fun _ => hp2) ?_
    rintro o r ⟨ho, rfl⟩
    cases ho
    conv => whnf
    refine call1 0 [] rfl rfl rfl rfl (fun _ => hs) ?_
    rintro o r ⟨ho, rfl⟩
    cases ho
    conv => whnf
    exact ⟨rfl, _, rfl, by rw [ntA_one]; exact wkL_refl _⟩
  ·refine gw ?_
   refine spec_of (cx_ok ord57 (fun _ => [0]) 1) (fun _ _ h => h) Tryz.func57 rfl (by kernel_rfl) rfl (by kernel_rfl) ?_
   intro hok
   conv => whnf
   refine call1 0 [] rfl rfl rfl rfl (fun _ => hp) ?_
   rintro o r ⟨ho, rfl⟩
   cases ho
   conv => whnf
   by_cases hz0 : z ≤ 0
   all_goals
    first
    | (rw [if_pos hz0] at hn; rw [decide_eq_true hz0]; (conv => whnf); refine ⟨by decide, ?_⟩; rw [show ((n0 : Int)).tmod 11 = 2 by rw [Int.tmod_eq_emod_of_nonneg (by omega)]; omega])
    | (rw [if_neg hz0] at hn; rw [decide_eq_false hz0]; (conv => whnf); rw [show (n0 : Int) = 2 by omega])
    conv => whnf
   all_goals
    refine call1 0 [] rfl rfl rfl rfl (fun _ => hp2) ?_
    rintro o r ⟨ho, rfl⟩
    cases ho
    conv => whnf
    refine call1 0 [] rfl rfl rfl rfl (fun _ => hs) ?_
    rintro o r ⟨ho, rfl⟩
    cases ho
    conv => whnf
    exact ⟨rfl, _, rfl, by rw [ntA_one]; exact wkL_refl _⟩
 by_cases hB : n ≤ 4
 ·obtain ⟨f, i2, hf, g1, g2, w1, hs1⟩ := gints l 0 hl (i + 1) 0 (by omega) (by omega) (by omega) (by omega)
  have hp2 := gpick l i2 4 (by omega) (by decide)
  have hlt2 := pk_lt l i2 (m := 4) (by decide)
  generalize pk l i2 4 = k8 at *
  have p3 := fun κ => phA_up κ i2
  have q0 := fun κ => phA_up κ i
  have qi := fun κ => phi_A κ i
  obtain ⟨g, i3, hg, g3, g4, w2, hs2⟩ := gints l 1 hl (i2 + 1) 1 (by omega) (by omega) (by omega) (by omega)
  obtain ⟨h, i4, hh, g5, g6, w3, hs3⟩ := gints l 1 hl i3 1 (by omega) (by omega) (by omega) (by omega)
  refine ⟨.mk 4 k8 eB [f, g, h], i4, .snd _ _ _ _ _ hlt2 hf hg hh, by omega, by omega, fun κ ka kb => by have qj := phi_A κ i4; have p3 := p3 κ; have q0 := q0 κ; have qi := qi κ; have w1 := w1 κ ka kb; have w2 := w2 κ ka kb; have w3 := w3 κ ka kb; rw [wS_snd]; omega, ?_⟩
  rcases (by omega : n = 3 ∨ n = 4) with rfl | rfl
  ·refine gw ?_
   refine spec_of (cx_ok ord57 (fun _ => [0]) 1) (fun _ _ h => h) Tryz.func57 rfl (by kernel_rfl) rfl (by kernel_rfl) ?_
   intro hok
   conv => whnf
   refine call1 0 [] rfl rfl rfl rfl (fun _ => hp) ?_
   rintro o r ⟨ho, rfl⟩
   cases ho
   conv => whnf
   by_cases hz0 : z ≤ 0
   all_goals
    first
    | (rw [if_pos hz0] at hn; rw [decide_eq_true hz0]; (conv => whnf); refine ⟨by decide, ?_⟩; rw [show ((n0 : Int)).tmod 11 = 3 by rw [Int.tmod_eq_emod_of_nonneg (by omega)]; omega])
    | (rw [if_neg hz0] at hn; rw [decide_eq_false hz0]; (conv => whnf); rw [show (n0 : Int) = 3 by omega])
    conv => whnf
   all_goals
    refine call1 0 [] rfl rfl rfl rfl (fun _ => hs1) ?_
    rintro o r ⟨ho, rfl⟩
    cases ho
    conv => whnf
    refine call1 0 [] rfl rfl rfl rfl (fun _ => hp2) ?_
    rintro o r ⟨ho, rfl⟩
    cases ho
    conv => whnf
    refine call1 0 [] rfl rfl rfl rfl (fun _ => hs2) ?_
    rintro o r ⟨ho, rfl⟩
    cases ho
    conv => whnf
    refine call1 0 [] rfl rfl rfl rfl (fun _ => hs3) ?_
    rintro o r ⟨ho, rfl⟩
    cases ho
    conv => whnf
    exact ⟨rfl, _, rfl, by rw [ntA_three]; exact wkL_refl _⟩
  ·refine gw ?_
   refine spec_of (cx_ok ord57 (fun _ => [0]) 1) (fun _ _ h => h) Tryz.func57 rfl (by kernel_rfl) rfl (by kernel_rfl) ?_
   intro hok
   conv => whnf
   refine call1 0 [] rfl rfl rfl rfl (fun _ => hp) ?_
   rintro o r ⟨ho, rfl⟩
   cases ho
   conv => whnf
   by_cases hz0 : z ≤ 0
   all_goals
    first
    | (rw [if_pos hz0] at hn; rw [decide_eq_true hz0]; (conv => whnf); refine ⟨by decide, ?_⟩; rw [show ((n0 : Int)).tmod 11 = 4 by rw [Int.tmod_eq_emod_of_nonneg (by omega)]; omega])
    | (rw [if_neg hz0] at hn; rw [decide_eq_false hz0]; (conv => whnf); rw [show (n0 : Int) = 4 by omega])
    conv => whnf
   all_goals
    refine call1 0 [] rfl rfl rfl rfl (fun _ => hs1) ?_
    rintro o r ⟨ho, rfl⟩
    cases ho
    conv => whnf
    refine call1 0 [] rfl rfl rfl rfl (fun _ => hp2) ?_
    rintro o r ⟨ho, rfl⟩
    cases ho
    conv => whnf
    refine call1 0 [] rfl rfl rfl rfl (fun _ => hs2) ?_
    rintro o r ⟨ho, rfl⟩
    cases ho
    conv => whnf
    refine call1 0 [] rfl rfl rfl rfl (fun _ => hs3) ?_
    rintro o r ⟨ho, rfl⟩
    cases ho
    conv => whnf
    exact ⟨rfl, _, rfl, by rw [ntA_three]; exact wkL_refl _⟩
 by_cases hC : n ≤ 6
 ·have hp2 := gpick l (i + 1) 3 (by omega) (by decide)
  have hlt2 := pk_lt l (i + 1) (m := 3) (by decide)
  generalize pk l (i + 1) 3 = k8 at *
  rcases (by omega : n = 5 ∨ n = 6) with rfl | rfl
  ·refine ⟨.mk 5 k8 eB [], i + 2, .tim _ _ hlt2, by omega, by omega, fun κ ka kb => by have p0 := p0 κ; have p1 := p1 κ; have pe2 := pe2 κ; have p2 := p2 κ; rw [wS_tim]; omega, ?_⟩
   refine gw ?_
   refine spec_of (cx_ok ord57 (fun _ => [0]) 1) (fun _ _ h => h) Tryz.func57 rfl (by kernel_rfl) rfl (by kernel_rfl) ?_
   intro hok
   conv => whnf
   refine call1 0 [] rfl rfl rfl rfl (fun _ => hp) ?_
   rintro o r ⟨ho, rfl⟩
   cases ho
   conv => whnf
   by_cases hz0 : z ≤ 0
   all_goals
    first
    | (rw [if_pos hz0] at hn; rw [decide_eq_true hz0]; (conv => whnf); refine ⟨by decide, ?_⟩; rw [show ((n0 : Int)).tmod 11 = 5 by rw [Int.tmod_eq_emod_of_nonneg (by omega)]; omega])
    | (rw [if_neg hz0] at hn; rw [decide_eq_false hz0]; (conv => whnf); rw [show (n0 : Int) = 5 by omega])
    conv => whnf
   all_goals
    refine call1 0 [] rfl rfl rfl rfl (fun _ => hp2) ?_
    rintro o r ⟨ho, rfl⟩
    cases ho
    conv => whnf
    exact ⟨rfl, _, rfl, rawN_wk (f := .mk 5 k8 eB []) rfl⟩
  ·refine ⟨.mk 6 k8 eB [], i + 2, .can _ _ hlt2, by omega, by omega, fun κ ka kb => by have p0 := p0 κ; have p1 := p1 κ; have pe2 := pe2 κ; have p2 := p2 κ; rw [wS_can]; omega, ?_⟩
   refine gw ?_
   refine spec_of (cx_ok ord57 (fun _ => [0]) 1) (fun _ _ h => h) Tryz.func57 rfl (by kernel_rfl) rfl (by kernel_rfl) ?_
   intro hok
   conv => whnf
   refine call1 0 [] rfl rfl rfl rfl (fun _ => hp) ?_
   rintro o r ⟨ho, rfl⟩
   cases ho
   conv => whnf
   by_cases hz0 : z ≤ 0
   all_goals
    first
    | (rw [if_pos hz0] at hn; rw [decide_eq_true hz0]; (conv => whnf); refine ⟨by decide, ?_⟩; rw [show ((n0 : Int)).tmod 11 = 6 by rw [Int.tmod_eq_emod_of_nonneg (by omega)]; omega])
    | (rw [if_neg hz0] at hn; rw [decide_eq_false hz0]; (conv => whnf); rw [show (n0 : Int) = 6 by omega])
    conv => whnf
   all_goals
    refine call1 0 [] rfl rfl rfl rfl (fun _ => hp2) ?_
    rintro o r ⟨ho, rfl⟩
    cases ho
    conv => whnf
    exact ⟨rfl, _, rfl, rawN_wk (f := .mk 6 k8 eB []) rfl⟩
 by_cases hD : n = 7
 ·subst hD
  refine ⟨.mk 7 0 eB [], i + 1, .syn _, by omega, by omega, fun κ ka kb => by have p0 := p0 κ; have p1 := p1 κ; have pe2 := pe2 κ; have p2 := p2 κ; rw [wS_syn]; omega, ?_⟩
  refine gw ?_
  refine spec_of (cx_ok ord57 (fun _ => [0]) 1) (fun _ _ h => h) Tryz.func57 rfl (by kernel_rfl) rfl (by kernel_rfl) ?_
  intro hok
  conv => whnf
  refine call1 0 [] rfl rfl rfl rfl (fun _ => hp) ?_
  rintro o r ⟨ho, rfl⟩
  cases ho
  conv => whnf
  by_cases hz0 : z ≤ 0
  all_goals
   first
   | (rw [if_pos hz0] at hn; rw [decide_eq_true hz0]; (conv => whnf); refine ⟨by decide, ?_⟩; rw [show ((n0 : Int)).tmod 11 = 7 by rw [Int.tmod_eq_emod_of_nonneg (by omega)]; omega])
   | (rw [if_neg hz0] at hn; rw [decide_eq_false hz0]; (conv => whnf); rw [show (n0 : Int) = 7 by omega])
   conv => whnf
  all_goals
   exact ⟨rfl, _, rfl, rawN_wk (f := .mk 7 0 eB []) rfl⟩
 by_cases hE : n = 8
 ·subst hE
  obtain ⟨f, i2, hf, g1, g2, w1, hs1⟩ := gints l 0 hl (i + 1) 0 (by omega) (by omega) (by omega) (by omega)
  have w1 := fun κ ka kb => phA_phi (by omega) (w1 κ ka kb)
  obtain ⟨g, i3, hg, g3, g4, w2, hs2⟩ := gints l 1 hl i2 1 (by omega) (by omega) (by omega) (by omega)
  have w2 := fun κ ka kb => phA_phi (by omega) (w2 κ ka kb)
  refine ⟨.mk 8 0 eB [f, g], i3, .rep _ _ _ hf hg, by omega, by omega, fun κ ka kb => by have p0 := p0 κ; have p1 := p1 κ; have pe2 := pe2 κ; have p2 := p2 κ; have w1 := w1 κ ka kb; have w2 := w2 κ ka kb; rw [wS_rep]; omega, ?_⟩
  refine gw ?_
  refine spec_of (cx_ok ord57 (fun _ => [0]) 1) (fun _ _ h => h) Tryz.func57 rfl (by kernel_rfl) rfl (by kernel_rfl) ?_
  intro hok
  conv => whnf
  refine call1 0 [] rfl rfl rfl rfl (fun _ => hp) ?_
  rintro o r ⟨ho, rfl⟩
  cases ho
  conv => whnf
  by_cases hz0 : z ≤ 0
  all_goals
   first
   | (rw [if_pos hz0] at hn; rw [decide_eq_true hz0]; (conv => whnf); refine ⟨by decide, ?_⟩; rw [show ((n0 : Int)).tmod 11 = 8 by rw [Int.tmod_eq_emod_of_nonneg (by omega)]; omega])
   | (rw [if_neg hz0] at hn; rw [decide_eq_false hz0]; (conv => whnf); rw [show (n0 : Int) = 8 by omega])
   conv => whnf
  all_goals
   refine call1 0 [] rfl rfl rfl rfl (fun _ => hs1) ?_
   rintro o r ⟨ho, rfl⟩
   cases ho
   conv => whnf
   refine call1 0 [] rfl rfl rfl rfl (fun _ => hs2) ?_
   rintro o r ⟨ho, rfl⟩
   cases ho
   conv => whnf
   exact ⟨rfl, _, rfl, by rw [ntA_two]; exact wkL_refl _⟩
 by_cases hF : n = 9
 ·subst hF
  obtain ⟨f, i2, hf, g1, g2, w1, hs1⟩ := gints l 1 hl (i + 1) 1 (by omega) (by omega) (by omega) (by omega)
  have w1 := fun κ ka kb => phA_phi (by omega) (w1 κ ka kb)
  refine ⟨.mk 9 0 eB [f], i2, .fai _ _ hf, by omega, by omega, fun κ ka kb => by have p0 := p0 κ; have p1 := p1 κ; have pe2 := pe2 κ; have p2 := p2 κ; have w1 := w1 κ ka kb; rw [wS_fai]; omega, ?_⟩
  refine gw ?_
  refine spec_of (cx_ok ord57 (fun _ => [0]) 1) (fun _ _ h => h) Tryz.func57 rfl (by kernel_rfl) rfl (by kernel_rfl) ?_
  intro hok
  conv => whnf
  refine call1 0 [] rfl rfl rfl rfl (fun _ => hp) ?_
  rintro o r ⟨ho, rfl⟩
  cases ho
  conv => whnf
  by_cases hz0 : z ≤ 0
  all_goals
   first
   | (rw [if_pos hz0] at hn; rw [decide_eq_true hz0]; (conv => whnf); refine ⟨by decide, ?_⟩; rw [show ((n0 : Int)).tmod 11 = 9 by rw [Int.tmod_eq_emod_of_nonneg (by omega)]; omega])
   | (rw [if_neg hz0] at hn; rw [decide_eq_false hz0]; (conv => whnf); rw [show (n0 : Int) = 9 by omega])
   conv => whnf
  all_goals
   refine call1 0 [] rfl rfl rfl rfl (fun _ => hs1) ?_
   rintro o r ⟨ho, rfl⟩
   cases ho
   conv => whnf
   exact ⟨rfl, _, rfl, by rw [ntA_one]; exact wkL_refl _⟩
 by_cases hG : n = 10
 ·subst hG
  have hp2 := gpick l (i + 1) 3 (by omega) (by decide)
  have hlt2 := pk_lt l (i + 1) (m := 3) (by decide)
  generalize pk l (i + 1) 3 = k8 at *
  by_cases hk : 0 < k8
  ·obtain ⟨s, hs1, ⟨hz3, _⟩, hp3⟩ := gvar l (i + 1 + 1) (by omega)
   obtain ⟨f, i2, hf, g1, g2, w1, hs⟩ := gints l 1 hl (i + 1 + 1 + 1) 1 (by omega) (by omega) (by omega) (by omega)
   have w1 := fun κ ka kb => phA_phi (by omega) (w1 κ ka kb)
   refine ⟨.mk 1 0 s [f], i2, .asg _ _ _ _ hs1 hf (by decide), by omega, by omega, fun κ ka kb => by have p0 := p0 κ; have p1 := p1 κ; have pe2 := pe2 κ; have p2 := p2 κ; have w1 := w1 κ ka kb; rw [wS_asg]; omega, ?_⟩
   refine gw ?_
   refine spec_of (cx_ok ord57 (fun _ => [0]) 1) (fun _ _ h => h) Tryz.func57 rfl (by kernel_rfl) rfl (by kernel_rfl) ?_
   intro hok
   conv => whnf
   refine call1 0 [] rfl rfl rfl rfl (fun _ => hp) ?_
   rintro o r ⟨ho, rfl⟩
   cases ho
   conv => whnf
   by_cases hz0 : z ≤ 0
   all_goals
    first
    | (rw [if_pos hz0] at hn; rw [decide_eq_true hz0]; (conv => whnf); refine ⟨by decide, ?_⟩; rw [show ((n0 : Int)).tmod 11 = 10 by rw [Int.tmod_eq_emod_of_nonneg (by omega)]; omega])
    | (rw [if_neg hz0] at hn; rw [decide_eq_false hz0]; (conv => whnf); rw [show (n0 : Int) = 10 by omega])
    conv => whnf
   all_goals
    refine call1 0 [] rfl rfl rfl rfl (fun _ => hp2) ?_
    rintro o r ⟨ho, rfl⟩
    cases ho
    conv => whnf
    rw [decide_eq_true (show 0 < (k8 : Int) by omega)]
    conv => whnf
    refine call1 0 [] rfl rfl rfl rfl (fun _ => hp3) ?_
    rintro o r ⟨ho, rfl⟩
    cases ho
    conv => whnf
    refine call1 0 [] rfl rfl rfl rfl (fun _ => hs) ?_
    rintro o r ⟨ho, rfl⟩
    cases ho
    conv => whnf
    exact ⟨rfl, _, rfl, by rw [ntA_one]; exact wkL_refl _⟩
  ·refine ⟨.mk 10 0 eB [], i + 2, .stp _, by omega, by omega, fun κ ka kb => by have p0 := p0 κ; have p1 := p1 κ; have pe2 := pe2 κ; have p2 := p2 κ; rw [wS_stp]; omega, ?_⟩
   refine gw ?_
   refine spec_of (cx_ok ord57 (fun _ => [0]) 1) (fun _ _ h => h) Tryz.func57 rfl (by kernel_rfl) rfl (by kernel_rfl) ?_
   intro hok
   conv => whnf
   refine call1 0 [] rfl rfl rfl rfl (fun _ => hp) ?_
   rintro o r ⟨ho, rfl⟩
   cases ho
   conv => whnf
   by_cases hz0 : z ≤ 0
   all_goals
    first
    | (rw [if_pos hz0] at hn; rw [decide_eq_true hz0]; (conv => whnf); refine ⟨by decide, ?_⟩; rw [show ((n0 : Int)).tmod 11 = 10 by rw [Int.tmod_eq_emod_of_nonneg (by omega)]; omega])
    | (rw [if_neg hz0] at hn; rw [decide_eq_false hz0]; (conv => whnf); rw [show (n0 : Int) = 10 by omega])
    conv => whnf
   all_goals
    refine call1 0 [] rfl rfl rfl rfl (fun _ => hp2) ?_
    rintro o r ⟨ho, rfl⟩
    cases ho
    conv => whnf
    rw [decide_eq_false (show ¬ 0 < (k8 : Int) by omega)]
    conv => whnf
    exact ⟨rfl, _, rfl, rawN_wk (f := .mk 10 0 eB []) rfl⟩
 have hzp : 0 < z := by
  by_cases h : 0 < z
  ·exact h
  ·have := hn6 (by omega); omega
 obtain ⟨e, rfl⟩ : ∃ e, d = e + 1 := ⟨d - 1, by omega⟩
 have ihe := ih e rfl
 unfold bS at hi
 by_cases hH : n = 11
 ·subst hH
  obtain ⟨f, i2, hf, g1, g2, w1, hs1⟩ := gbools l 1 hl (i + 1) 1 (by omega) (by omega) (by omega) (by omega)
  have w1 := fun κ ka kb => phA_phi (by omega) (w1 κ ka kb)
  have p3 := fun κ => phi_up κ i2
  obtain ⟨k, i3, q1, q2, g3, g4, ⟨w2, w3⟩, hs2⟩ := ihe hl i2 2 (z - 1) (by omega) (by omega) (by omega) (by omega) (by omega)
  refine ⟨.mk 3 0 eB [f, blkN k], i3, .whi _ _ _ hf q1 q2, by omega, by unfold bS; omega, fun κ ka kb => by have p0 := p0 κ; have p1 := p1 κ; have pe2 := pe2 κ; have p2 := p2 κ; have w1 := w1 κ ka kb; have w2 := w2 κ ka kb; have p3 := p3 κ; have hm2 := mul2 (4 + 4 * κ) q1; rw [wS_whi, wB_blk]; omega, ?_⟩
  refine gw ?_
  refine spec_of (cx_ok ord57 (fun _ => [0]) 1) (fun _ _ h => h) Tryz.func57 rfl (by kernel_rfl) rfl (by kernel_rfl) ?_
  intro hok
  conv => whnf
  refine call1 0 [] rfl rfl rfl rfl (fun _ => hp) ?_
  rintro o r ⟨ho, rfl⟩
  cases ho
  conv => whnf
  by_cases hz0 : z ≤ 0
  all_goals
   first
   | (rw [if_pos hz0] at hn; rw [decide_eq_true hz0]; (conv => whnf); refine ⟨by decide, ?_⟩; rw [show ((n0 : Int)).tmod 11 = 11 by rw [Int.tmod_eq_emod_of_nonneg (by omega)]; omega])
   | (rw [if_neg hz0] at hn; rw [decide_eq_false hz0]; (conv => whnf); rw [show (n0 : Int) = 11 by omega])
   conv => whnf
  ·exact absurd hz0 (by omega)
  refine call1 0 [] rfl rfl rfl rfl (fun _ => hs1) ?_
  rintro o r ⟨ho, rfl⟩
  cases ho
  conv => whnf
  refine ⟨i64r (by omega), ?_⟩
  conv => whnf
  refine call1 0 [] rfl rfl rfl rfl (fun _ => hs2) ?_
  rintro o r ⟨ho, rfl⟩
  cases ho
  conv => whnf
  exact ⟨rfl, _, rfl, by rw [ntA_two]; exact wkL_refl _⟩
 obtain ⟨f, i2, hf, g1, g2, w1, hs1⟩ := gbools l 2 hl (i + 1) 2 (by omega) (by omega) (by omega) (by omega)
 have w1 := fun κ ka kb => phA_phi (by omega) (w1 κ ka kb)
 have p3 := fun κ => phi_up κ i2
 obtain ⟨k, i3, q1, q2, g3, g4, ⟨w2, w3⟩, hs2⟩ := ihe hl i2 2 (z - 1) (by omega) (by omega) (by omega) (by omega) (by omega)
 have hp2 := gpick l i3 2 (by omega) (by decide)
 have hlt2 := pk_lt l i3 (m := 2) (by decide)
 generalize pk l i3 2 = k8 at *
 by_cases hk : k8 = 1
 ·have p4 := fun κ => phi_up κ i3
  have p5 := fun κ => phi_up κ (i3 + 1)
  obtain ⟨m, i4, q3, q4, g5, g6, ⟨w4, w5⟩, hs3⟩ := ihe hl (i3 + 1) 2 (z - 1) (by omega) (by omega) (by omega) (by omega) (by omega)
  refine ⟨.mk 2 0 eB [f, blkN k, blkN m], i4, .iff _ _ _ _ hf q1 q2 q3 q4, by omega, by unfold bS; omega, fun κ ka kb => by have p0 := p0 κ; have p1 := p1 κ; have pe2 := pe2 κ; have p2 := p2 κ; have p3 := p3 κ; have p4 := p4 κ; have p5 := p5 κ; have w1 := w1 κ ka kb; have w2 := w2 κ ka kb; have w4 := w4 κ ka kb; have hif := wS_if2 κ f k m; have hm2 := mul2 (4 + 4 * κ) q1; have hm3 := mul2 (4 + 4 * κ) q3; omega, ?_⟩
  rcases (by omega : n = 12 ∨ n = 13) with rfl | rfl
  ·refine gw ?_
   refine spec_of (cx_ok ord57 (fun _ => [0]) 1) (fun _ _ h => h) Tryz.func57 rfl (by kernel_rfl) rfl (by kernel_rfl) ?_
   intro hok
   conv => whnf
   refine call1 0 [] rfl rfl rfl rfl (fun _ => hp) ?_
   rintro o r ⟨ho, rfl⟩
   cases ho
   conv => whnf
   by_cases hz0 : z ≤ 0
   all_goals
    first
    | (rw [if_pos hz0] at hn; rw [decide_eq_true hz0]; (conv => whnf); refine ⟨by decide, ?_⟩; rw [show ((n0 : Int)).tmod 11 = 12 by rw [Int.tmod_eq_emod_of_nonneg (by omega)]; omega])
    | (rw [if_neg hz0] at hn; rw [decide_eq_false hz0]; (conv => whnf); rw [show (n0 : Int) = 12 by omega])
    conv => whnf
   ·exact absurd hz0 (by omega)
   refine call1 0 [] rfl rfl rfl rfl (fun _ => hs1) ?_
   rintro o r ⟨ho, rfl⟩
   cases ho
   conv => whnf
   refine ⟨i64r (by omega), ?_⟩
   conv => whnf
   refine call1 0 [] rfl rfl rfl rfl (fun _ => hs2) ?_
   rintro o r ⟨ho, rfl⟩
   cases ho
   conv => whnf
   refine call1 0 [] rfl rfl rfl rfl (fun _ => hp2) ?_
   rintro o r ⟨ho, rfl⟩
   cases ho
   conv => whnf
   rw [decide_eq_true (show (k8 : Int) = 1 by omega)]
   conv => whnf
   refine ⟨i64r (by omega), ?_⟩
   conv => whnf
   refine call1 0 [] rfl rfl rfl rfl (fun _ => hs3) ?_
   rintro o r ⟨ho, rfl⟩
   cases ho
   conv => whnf
   exact ⟨rfl, _, rfl, by rw [ntA_three]; exact wkL_refl _⟩
  ·refine gw ?_
   refine spec_of (cx_ok ord57 (fun _ => [0]) 1) (fun _ _ h => h) Tryz.func57 rfl (by kernel_rfl) rfl (by kernel_rfl) ?_
   intro hok
   conv => whnf
   refine call1 0 [] rfl rfl rfl rfl (fun _ => hp) ?_
   rintro o r ⟨ho, rfl⟩
   cases ho
   conv => whnf
   by_cases hz0 : z ≤ 0
   all_goals
    first
    | (rw [if_pos hz0] at hn; rw [decide_eq_true hz0]; (conv => whnf); refine ⟨by decide, ?_⟩; rw [show ((n0 : Int)).tmod 11 = 13 by rw [Int.tmod_eq_emod_of_nonneg (by omega)]; omega])
    | (rw [if_neg hz0] at hn; rw [decide_eq_false hz0]; (conv => whnf); rw [show (n0 : Int) = 13 by omega])
    conv => whnf
   ·exact absurd hz0 (by omega)
   refine call1 0 [] rfl rfl rfl rfl (fun _ => hs1) ?_
   rintro o r ⟨ho, rfl⟩
   cases ho
   conv => whnf
   refine ⟨i64r (by omega), ?_⟩
   conv => whnf
   refine call1 0 [] rfl rfl rfl rfl (fun _ => hs2) ?_
   rintro o r ⟨ho, rfl⟩
   cases ho
   conv => whnf
   refine call1 0 [] rfl rfl rfl rfl (fun _ => hp2) ?_
   rintro o r ⟨ho, rfl⟩
   cases ho
   conv => whnf
   rw [decide_eq_true (show (k8 : Int) = 1 by omega)]
   conv => whnf
   refine ⟨i64r (by omega), ?_⟩
   conv => whnf
   refine call1 0 [] rfl rfl rfl rfl (fun _ => hs3) ?_
   rintro o r ⟨ho, rfl⟩
   cases ho
   conv => whnf
   exact ⟨rfl, _, rfl, by rw [ntA_three]; exact wkL_refl _⟩
 ·have p4 := fun κ => phi_up κ i3
  refine ⟨.mk 2 0 eB [f, blkN k, blkN []], i3 + 1, .iff _ _ _ _ hf q1 q2 (by decide) (by simp), by omega, by unfold bS; omega, fun κ ka kb => by have p0 := p0 κ; have p1 := p1 κ; have pe2 := pe2 κ; have p2 := p2 κ; have p3 := p3 κ; have p4 := p4 κ; have w1 := w1 κ ka kb; have w2 := w2 κ ka kb; have hif := (wS_if2 κ f k []).2 rfl; have hm2 := mul2 (4 + 4 * κ) q1; omega, ?_⟩
  rcases (by omega : n = 12 ∨ n = 13) with rfl | rfl
  ·refine gw ?_
   refine spec_of (cx_ok ord57 (fun _ => [0]) 1) (fun _ _ h => h) Tryz.func57 rfl (by kernel_rfl) rfl (by kernel_rfl) ?_
   intro hok
   conv => whnf
   refine call1 0 [] rfl rfl rfl rfl (fun _ => hp) ?_
   rintro o r ⟨ho, rfl⟩
   cases ho
   conv => whnf
   by_cases hz0 : z ≤ 0
   all_goals
    first
    | (rw [if_pos hz0] at hn; rw [decide_eq_true hz0]; (conv => whnf); refine ⟨by decide, ?_⟩; rw [show ((n0 : Int)).tmod 11 = 12 by rw [Int.tmod_eq_emod_of_nonneg (by omega)]; omega])
    | (rw [if_neg hz0] at hn; rw [decide_eq_false hz0]; (conv => whnf); rw [show (n0 : Int) = 12 by omega])
    conv => whnf
   ·exact absurd hz0 (by omega)
   refine call1 0 [] rfl rfl rfl rfl (fun _ => hs1) ?_
   rintro o r ⟨ho, rfl⟩
   cases ho
   conv => whnf
   refine ⟨i64r (by omega), ?_⟩
   conv => whnf
   refine call1 0 [] rfl rfl rfl rfl (fun _ => hs2) ?_
   rintro o r ⟨ho, rfl⟩
   cases ho
   conv => whnf
   refine call1 0 [] rfl rfl rfl rfl (fun _ => hp2) ?_
   rintro o r ⟨ho, rfl⟩
   cases ho
   conv => whnf
   rw [decide_eq_false (show ¬ (k8 : Int) = 1 by omega)]
   conv => whnf
   exact ⟨rfl, _, rfl, by rw [ntA_three]; exact wk_if f (blkN k)⟩
  ·refine gw ?_
   refine spec_of (cx_ok ord57 (fun _ => [0]) 1) (fun _ _ h => h) Tryz.func57 rfl (by kernel_rfl) rfl (by kernel_rfl) ?_
   intro hok
   conv => whnf
   refine call1 0 [] rfl rfl rfl rfl (fun _ => hp) ?_
   rintro o r ⟨ho, rfl⟩
   cases ho
   conv => whnf
   by_cases hz0 : z ≤ 0
   all_goals
    first
    | (rw [if_pos hz0] at hn; rw [decide_eq_true hz0]; (conv => whnf); refine ⟨by decide, ?_⟩; rw [show ((n0 : Int)).tmod 11 = 13 by rw [Int.tmod_eq_emod_of_nonneg (by omega)]; omega])
    | (rw [if_neg hz0] at hn; rw [decide_eq_false hz0]; (conv => whnf); rw [show (n0 : Int) = 13 by omega])
    conv => whnf
   ·exact absurd hz0 (by omega)
   refine call1 0 [] rfl rfl rfl rfl (fun _ => hs1) ?_
   rintro o r ⟨ho, rfl⟩
   cases ho
   conv => whnf
   refine ⟨i64r (by omega), ?_⟩
   conv => whnf
   refine call1 0 [] rfl rfl rfl rfl (fun _ => hs2) ?_
   rintro o r ⟨ho, rfl⟩
   cases ho
   conv => whnf
   refine call1 0 [] rfl rfl rfl rfl (fun _ => hp2) ?_
   rintro o r ⟨ho, rfl⟩
   cases ho
   conv => whnf
   rw [decide_eq_false (show ¬ (k8 : Int) = 1 by omega)]
   conv => whnf
   exact ⟨rfl, _, rfl, by rw [ntA_three]; exact wk_if f (blkN k)⟩
end Go.Proofs.YtmodkpibkkpcdaaGreatDoor.Vm
namespace Go.Proofs.YtmodkpibkkpcdaaGreatDoor.Vm
open Go.RowKit Go.Shelf
set_option linter.unusedSimpArgs false
set_option linter.unusedVariables false
set_option maxRecDepth 100000
inductive Chn (l : List Int) (z : Int) : Nat → List Nt → Nat → Prop
 | nil (i : Nat) : Chn l z i [] i
 | cons (i i1 i2 : Nat) (f : Nt) (ss : List Nt) (h : Spec Tryz.prog 57 [bxG l i] [.box 0 0, .v (.int .i64 z)] fun o r => o = [bxG l i1] ∧ r = .agg (ntA f)) (k : Chn l z i1 ss i2) : Chn l z i (f :: ss) i2
theorem chn_ex {l : List Int} {d : Nat} (hS : GenS l d) (hl : l.length ≤ 70) {z : Int} (hz : z.toNat = d) (h1 : 0 ≤ z) (h2 : z ≤ 5) : ∀ (k i : Nat), i + k * bS d ≤ 1000000000 → ∃ ss i', ss.length = k ∧ (∀ s ∈ ss, ES d s) ∧ i ≤ i' ∧ i' ≤ i + k * bS d ∧ (∀ κ, 1 ≤ κ → κ ≤ 7 → wSs κ ss + phi κ i ≤ (4 + 4 * κ) * k + phi κ i') ∧ Chn l z i ss i'
 | 0, i, _ => ⟨[], i, rfl, by simp, Nat.le_refl _, by omega, fun κ ka kb => by show 0 + phi κ i ≤ _; omega, .nil i⟩
 | k + 1, i, hb => by
  rw [Nat.succ_mul] at hb
  obtain ⟨f, i1, hf, g1, g2, w1, hs⟩ := hS hl i z hz h1 h2 (by omega)
  obtain ⟨ss, i2, e1, e2, g3, g4, w2, hc⟩ := chn_ex hS hl hz h1 h2 k i1 (by omega)
  refine ⟨f :: ss, i2, by rw [List.length_cons, e1], fun s hs => ?_, by omega, by rw [Nat.succ_mul]; omega, fun κ ka kb => by have w1 := w1 κ ka kb; have w2 := w2 κ ka kb; rw [wSs, Nat.mul_succ]; omega, .cons _ _ _ _ _ hs hc⟩
  rcases List.mem_cons.1 hs with rfl | hs
  ·exact hf
  ·exact e2 s hs
set_option maxHeartbeats 1000000 in
theorem gblk (l : List Int) (d : Nat) (hS : GenS l d) : GenK l d := fun hl i m z hz h1 h2 hm hi => by
 have hp := gpick l i (m + 1) (by omega) (by omega)
 have hlt := pk_lt l i (m := m + 1) (by omega)
 have ho := pk_out l i (m + 1) hl
 generalize pk l i (m + 1) = k at *
 have hkm : k * bS d ≤ m * bS d := Nat.mul_le_mul_right _ (by omega)
 obtain ⟨ss, i2, e1, e2, g3, g4, w2, hc⟩ := chn_ex hS hl hz h1 h2 k (i + 1) (by omega)
 refine ⟨ss, i2, by omega, e2, by omega, by omega, ⟨fun κ ka kb => by rw [e1]; exact w2 κ ka kb, by omega⟩, ?_⟩
 refine spec_of (cx_ok ord37 (fun _ => [0]) 1) (fun _ _ h => h) Tryz.func37 rfl (by kernel_rfl) rfl (by kernel_rfl) ?_
 intro hok
 conv => whnf
 refine ⟨i64r (by omega), ?_⟩
 conv => whnf
 refine call1 0 [] rfl rfl rfl rfl (fun _ => hp) ?_
 rintro o r ⟨ho, rfl⟩
 cases ho
 conv => whnf
 refine loop_row 41 4 [] [(2, 3)] ?_
 conv => whnf
 refine ⟨trivial, ?_⟩
 conv => whnf
 refine loop_keep [0, 1, 6, 7] ?_
 conv => whnf
 refine loop_go (fun x : List Nt × List Nt × Nat => [(8, .v (.int .i64 x.2.1.length))]) (fun x => [bxG l x.2.2, zero4, [intA 11, intA 0, strA ⟨#[]⟩, .own 0]]) (fun x => [.live 41 4 x.1.length (ntsA x.1)]) (fun x => x.1 ++ x.2.1 = ss ∧ Chn l z x.2.2 x.2.1 i2) (fun x => x.2.1.length) ([], ss, i + 1) ?_ ⟨rfl, hc⟩ ?_
 ·rw [← e1]
  repeat' constructor
  show Row.live _ _ _ _ = Row.live _ 4 0 (ntsA [])
  rw [ntsA_nil]
 rintro ⟨acc, rem, j⟩ ⟨hacc, hch⟩
 simp only at hacc hch
 conv => whnf
 cases hch with
 | nil =>
  rw [List.append_nil] at hacc
  conv => whnf
  rw [← hacc]
  exact ⟨rfl, rfl⟩
 | cons _ i1 _ f rem hs hch =>
  have hln : acc.length + (rem.length + 1) = ss.length := by rw [← hacc, List.length_append, List.length_cons]
  rw [show ((f :: rem).length : Int) = (rem.length : Int) + 1 by simp]
  rw [decide_eq_true (show 0 < (rem.length : Int) + 1 by omega)]
  conv => whnf
  refine call1 0 [] rfl rfl rfl rfl (fun _ => hs) ?_
  rintro o r ⟨ho, rfl⟩
  cases ho
  conv => whnf
  refine ⟨⟨by simp only; unfold maxLen; omega, by simp only; omega⟩, ?_⟩
  conv => whnf
  refine ⟨i64r (by omega), ?_⟩
  rw [show (rem.length : Int) + 1 - 1 = rem.length by omega]
  conv => whnf
  refine ⟨(acc ++ [f], rem, i1), le_selH [0] ?_, ⟨by simp only; rw [List.append_assoc]; exact hacc, hch⟩, by simp only [List.length_cons]; omega⟩
  conv => whnf
  simp only [List.length_append, List.length_cons, List.length_nil]
  rw [ntsA_snoc]
  repeat' constructor
end Go.Proofs.YtmodkpibkkpcdaaGreatDoor.Vm
namespace Go.Proofs.YtmodkpibkkpcdaaGreatDoor.Vm
open Go.RowKit Go.Shelf
set_option linter.unusedSimpArgs false
set_option linter.unusedVariables false
set_option maxRecDepth 100000
theorem rInts (l : List Int) (most : Nat) (hm : most ≤ 1000) : Spec Tryz.prog 35 [] [.sl 1 l.length (intsA l), .v (.int .i64 most)] fun _ r => r = .sl 1 (l.take most).length (intsA (l.take most)) := by
 refine spec_of (cx_ok ord0 xs0 0) (fun _ _ h => h) Tryz.func35 rfl (by kernel_rfl) rfl (by kernel_rfl) ?_
 intro hok
 have e1 : (min (l.length : Int) (most : Int)).toNat - Int.toNat 0 = (l.take most).length := by rw [List.length_take]; omega
 have e2 : List.take ((l.take most).length * 1) (List.drop (Int.toNat 0 * 1) (intsA l)) = intsA (l.take most) := by
  rw [Nat.mul_one, List.length_take]
  simp only [intsA, Int.toNat_zero, Nat.zero_mul, List.drop_zero]
  rw [← List.map_take]
  congr 1
  rcases Nat.le_total most l.length with h | h
  ·rw [Nat.min_eq_left h]
  ·rw [Nat.min_eq_right h, List.take_of_length_le h, List.take_of_length_le (Nat.le_refl _)]
 have e3 : (l.take most).length ≤ most := by rw [List.length_take]; omega
 conv => whnf
 (refine goA ?_; try with_reducible exact trivial)
 rw [e1, e2]
 generalize l.take most = L at *
 refine ⟨⟨by unfold maxLen; omega, by omega⟩, ?_⟩
 conv => whnf
 rfl
theorem gall (l : List Int) : ∀ d, GenS l d ∧ GenK l d
 | 0 => ⟨gstm l 0 fun e h => by omega, gblk l 0 (gstm l 0 fun e h => by omega)⟩
 | d + 1 => by
  have h1 : GenS l (d + 1) := gstm l (d + 1) fun e h => by
   obtain rfl : d = e := by omega
   exact (gall l d).2
  exact ⟨h1, gblk l (d + 1) h1⟩
def hnG (l : List Int) (j i : Nat) : Int := match j with
 | 0 => 0
 | 1 => 1
 | 2 => 2 + pk l (i + 1) 8
 | _ => 10 + pk l (i + 1 + 1) 30
inductive PCh (l : List Int) : Nat → Nat → List (Int × Nt) → Prop
 | nil (i : Nat) : PCh l 4 i []
 | skip (j i : Nat) (hs : List (Int × Nt)) (hj : j < 4) (hi : i ≤ 900000000) (hp : pk l i 5 = 0) (k : PCh l (j + 1) (i + 1) hs) : PCh l j i hs
 | take (j i i2 : Nat) (b : Nt) (hs : List (Int × Nt)) (hj : j < 4) (hi : i ≤ 900000000) (hp : 0 < pk l i 5) (h : Spec Tryz.prog 37 [bxG l (i + 1 + 1 + 1)] [.box 0 0, .v (.int .i64 2), .v (.int .i64 3)] fun o r => o = [bxG l i2] ∧ r = .agg (ntA b)) (k : PCh l (j + 1) i2 hs) : PCh l j i ((hnG l j i, b) :: hs)
def EK (b : Nt) : Prop := ∃ k, b = blkN k ∧ k.length ≤ 3 ∧ ∀ s ∈ k, ES 2 s
def loG : Nat → Int
 | 0 => 0
 | 1 => 1
 | 2 => 2
 | 3 => 10
 | _ => 40
def EHs (j : Nat) (hs : List (Int × Nt)) : Prop := (∀ h ∈ hs, loG j ≤ h.1 ∧ h.1 < 40 ∧ EK h.2) ∧ hs.Pairwise (fun a b => a.1 < b.1) ∧ hs.length + j ≤ 4
theorem mul3 (c : Nat) {n : Nat} (h : n ≤ 3) : (n = 0 ∧ c * n = 0) ∨ (n ≠ 0 ∧ c * n ≤ 3 * c) := by
 rcases (by omega : n = 0 ∨ n = 1 ∨ n = 2 ∨ n = 3) with rfl | rfl | rfl | rfl <;> omega
theorem pch_ex (l : List Int) (hl : l.length ≤ 70) : ∀ (k j i : Nat), j + k = 4 → i + k * 5000 ≤ 800000000 → ∃ hs, EHs j hs ∧ (∀ κ, 1 ≤ κ → κ ≤ 7 → wHs κ hs + phi κ i ≤ (4 * κ + 12) * 70 + 6 * κ + 18) ∧ PCh l j i hs
 | 0, j, i, hj, hb => by
  obtain rfl : j = 4 := by omega
  exact ⟨[], ⟨by simp, .nil, by decide⟩, fun κ ka kb => by have := (phi_end κ i).1; show 0 + phi κ i ≤ _; omega, .nil i⟩
 | k + 1, j, i, hj, hb => by
  rw [Nat.succ_mul] at hb
  have hjs : j = 0 ∨ j = 1 ∨ j = 2 ∨ j = 3 := by omega
  have hlo : loG j ≤ loG (j + 1) := by rcases hjs with rfl | rfl | rfl | rfl <;> decide
  by_cases hp : pk l i 5 = 0
  ·obtain ⟨hs, ⟨e1, e2, e3⟩, w1, hc⟩ := pch_ex l hl k (j + 1) (i + 1) (by omega) (by omega)
   exact ⟨hs, ⟨fun h hh => ⟨by have := (e1 h hh).1; omega, (e1 h hh).2⟩, e2, by omega⟩, fun κ ka kb => by have := (phi_up κ i).1; have w1 := w1 κ ka kb; omega, .skip _ _ _ (by omega) (by omega) hp hc⟩
  ·have hS : bS 2 = 1270 := rfl
   have ho := pk_out l i 5 hl
   obtain ⟨b, i2, q1, q2, g1, g2, ⟨w2, w3⟩, hs⟩ := (gall l 2).2 hl (i + 1 + 1 + 1) 3 2 rfl (by decide) (by decide) (by decide) (by omega)
   obtain ⟨hs2, ⟨e1, e2, e3⟩, w1, hc⟩ := pch_ex l hl k (j + 1) i2 (by omega) (by omega)
   have hn : loG j ≤ hnG l j i ∧ hnG l j i < loG (j + 1) := by
    have p8 := pk_lt l (i + 1) (m := 8) (by decide)
    have p30 := pk_lt l (i + 1 + 1) (m := 30) (by decide)
    rcases hjs with rfl | rfl | rfl | rfl <;> simp only [loG, hnG] <;> omega
   have hl4 : loG (j + 1) ≤ 40 := by rcases hjs with rfl | rfl | rfl | rfl <;> decide
   refine ⟨_, ⟨fun h hh => ?_, List.pairwise_cons.2 ⟨fun b hb => ?_, e2⟩, by rw [List.length_cons]; omega⟩, fun κ ka kb => by have p0 := phi_up κ i; have p1 := phi_up κ (i + 1); have p2 := phi_up κ (i + 1 + 1); have p3 := phi_up κ (i + 1 + 1 + 1); have p4 := phi_end κ i; have p5 := phi_end κ (i + 1 + 1 + 1 + 1); have w1 := w1 κ ka kb; have w2 := w2 κ ka kb; have hm := mul3 (4 + 4 * κ) q1; rw [wHs, wB_blk]; omega, .take j i i2 (blkN b) hs2 (by omega) (by omega) (by omega) hs hc⟩
   ·rcases List.mem_cons.1 hh with rfl | hh
    ·exact ⟨hn.1, by simp only; omega, b, rfl, q1, q2⟩
    ·exact ⟨by have := (e1 h hh).1; omega, (e1 h hh).2⟩
   ·have := (e1 b hb).1
    simp only; omega
def duL : List ByteArray := [⟨#[100]⟩, ⟨#[100, 100, 49]⟩]
def voL : List ByteArray := [⟨#[118]⟩, ⟨#[119, 50]⟩]
def GU (u : Ut) : Prop := u.du = duL ∧ u.vo = voL ∧ EHs 0 u.on
def GW (u : Ut) : Prop := GU u ∧ ∀ κ, 1 ≤ κ → κ ≤ 7 → wHs κ u.on ≤ (4 * κ + 12) * 70 + 6 * κ + 18
set_option maxHeartbeats 1000000 in
theorem gprogW (l : List Int) : ∃ u, GW u ∧ Spec Tryz.prog 13 [] [.sl 1 l.length (intsA l)] fun _ r => r = .agg (utA u) := by
 have hin := rInts l 70 (by decide)
 obtain ⟨hs, hE, hW, hc⟩ := pch_ex (l.take 70) (by rw [List.length_take]; omega) 4 0 0 rfl (by decide)
 refine ⟨⟨duL, voL, hs⟩, ⟨⟨rfl, rfl, hE⟩, fun κ ka kb => by have := hW κ ka kb; show wHs κ hs ≤ _; omega⟩, ?_⟩
 clear hW
 have hlen := hE.2.2
 generalize l.take 70 = L at *
 refine spec_of (cx_ok ord13 (fun _ => [1]) 0) (fun _ _ h => h) Tryz.func13 rfl (by kernel_rfl) rfl (by kernel_rfl) ?_
 intro hok
 conv => whnf
 refine call0 [] rfl (fun _ => hin) ?_
 rintro r rfl
 conv => whnf
 refine loop_row 59 5 [] [(2, 2)] ?_
 conv => whnf
 refine ⟨trivial, ?_⟩
 conv => whnf
 refine loop_keep [2, 3, 4] ?_
 conv => whnf
 refine loop_go (fun x : Nat × Nat × List (Int × Nt) × List (Int × Nt) => [(5, .v (.int .i64 x.1))]) (fun x => [zero3, bxG L x.2.1, [.own 0, .own 1, .own 2]]) (fun x => [.live 9 1 2 (txA duL), .live 9 1 2 (txA voL), .live 59 5 x.2.2.1.length (hnsA x.2.2.1)]) (fun x => x.2.2.1 ++ x.2.2.2 = hs ∧ PCh L x.1 x.2.1 x.2.2.2) (fun x => 4 - x.1) (0, 0, [], hs) ?_ ⟨rfl, hc⟩ ?_
 ·repeat' constructor
  show Row.live _ _ _ _ = Row.live _ 5 0 (hnsA [])
  rw [hnsA_nil]
 rintro ⟨j, i, acc, rem⟩ ⟨hacc, hch⟩
 simp only at hacc hch
 have hal : acc.length ≤ 4 := by
  have := congrArg List.length hacc
  rw [List.length_append] at this
  omega
 clear hin hc
 conv => whnf
 cases hch with
 | nil =>
  conv => whnf
  rw [List.append_nil] at hacc
  rw [← hacc]
  rfl
 | skip _ _ _ hj hi hp hch =>
  have hpk := gpick L i 5 (by omega) (by decide)
  rw [hp] at hpk
  rw [decide_eq_true (show (j : Int) < 4 by omega)]
  conv => whnf
  refine call1 1 [] rfl rfl rfl rfl (fun _ => hpk) ?_
  rintro o r ⟨ho, rfl⟩
  cases ho
  conv => whnf
  refine ⟨i64r (by omega), ?_⟩
  conv => whnf
  refine ⟨(j + 1, i + 1, acc, rem), le_selH [0, 1, 2] ?_, ⟨hacc, hch⟩, by simp only; omega⟩
  conv => whnf
  repeat' constructor
 | take _ _ i2 b rem hj hi hp hs hch =>
  have hpk := gpick L i 5 (by omega) (by decide)
  have hp8 := gpick L (i + 1) 8 (by omega) (by decide)
  have hp30 := gpick L (i + 1 + 1) 30 (by omega) (by decide)
  have l8 := pk_lt L (i + 1) (m := 8) (by decide)
  have l30 := pk_lt L (i + 1 + 1) (m := 30) (by decide)
  obtain ⟨nn, hnn⟩ : ∃ nn, hnG L j i = nn := ⟨_, rfl⟩
  rw [hnn] at hacc
  unfold hnG at hnn
  generalize pk L i 5 = k5 at *
  generalize pk L (i + 1) 8 = k8 at *
  generalize pk L (i + 1 + 1) 30 = k30 at *
  rw [decide_eq_true (show (j : Int) < 4 by omega)]
  conv => whnf
  refine call1 1 [] rfl rfl rfl rfl (fun _ => hpk) ?_
  rintro o r ⟨ho, rfl⟩
  cases ho
  conv => whnf
  rw [decide_eq_true (show 0 < (k5 : Int) by omega)]
  conv => whnf
  refine call1 1 [] rfl rfl rfl rfl (fun _ => hp8) ?_
  rintro o r ⟨ho, rfl⟩
  cases ho
  conv => whnf
  refine ⟨i64r (by omega), ?_⟩
  conv => whnf
  refine call1 1 [] rfl rfl rfl rfl (fun _ => hp30) ?_
  rintro o r ⟨ho, rfl⟩
  cases ho
  conv => whnf
  refine ⟨i64r (by omega), ?_⟩
  conv => whnf
  refine ⟨⟨by omega, by omega⟩, ?_⟩
  rcases (by omega : j = 0 ∨ j = 1 ∨ j = 2 ∨ j = 3) with rfl | rfl | rfl | rfl
  all_goals
   simp only at hnn
   conv => whnf
   refine call1 1 [] rfl rfl rfl rfl (fun _ => hs) ?_
   rintro o r ⟨ho, rfl⟩
   cases ho
   conv => whnf
   refine ⟨⟨by simp only; unfold maxLen; omega, by simp only; omega⟩, ?_⟩
   conv => whnf
   refine ⟨i64r (by simp only; omega), ?_⟩
   conv => whnf
   subst hnn
   refine ⟨(_, i2, acc ++ [(_, b)], rem), le_selH [0, 1, 2] ?_, ⟨by simp only; rw [List.append_assoc]; exact hacc, hch⟩, by simp only; omega⟩
   conv => whnf
   repeat' constructor
   rw [List.length_append, hnsA_snoc]
   rfl
end Go.Proofs.YtmodkpibkkpcdaaGreatDoor.Vm
namespace Go.Proofs.YtmodkpibkkpcdaaGreatDoor.Vm
open Go.RowKit Go.Shelf
set_option linter.unusedSimpArgs false
set_option linter.unusedVariables false
set_option maxRecDepth 100000
def decD (n : Nat) : List UInt8 := if h : n = 0 then [] else decD (n / 10) ++ [UInt8.ofNat (48 + n % 10)]
decreasing_by omega
theorem decD_zero : decD 0 = [] := by unfold decD; simp
theorem decD_pos {n : Nat} (h : n ≠ 0) : decD n = decD (n / 10) ++ [UInt8.ofNat (48 + n % 10)] := by
 rw [decD]; simp [h]
def decS (n : Nat) : List UInt8 := if n = 0 then [48] else decD n
theorem decD_len : ∀ (k n : Nat), n < 10 ^ k → (decD n).length ≤ k
 | k, 0, _ => by rw [decD_zero]; simp
 | 0, n + 1, h => by simp at h
 | k + 1, n + 1, h => by
  rw [decD_pos (by omega), List.length_append]
  have := decD_len k ((n + 1) / 10) (by rw [Nat.pow_succ] at h; omega)
  simp only [List.length_cons, List.length_nil]; omega
def digB : ByteArray := ⟨#[48, 49, 50, 51, 52, 53, 54, 55, 56, 57]⟩
theorem dig_cut (k : Nat) (i j : Nat) (hi : i = k % 10) (hj : j = k % 10 + 1) : digB.extract i j = bs [UInt8.ofNat (48 + k % 10)] := by
 subst hi; subst hj
 have h : ∀ d, d < 10 → digB.extract d (d + 1) = bs [UInt8.ofNat (48 + d)] := by decide +kernel
 exact h _ (Nat.mod_lt _ (by omega))
theorem bs_app (a b : List UInt8) : bs a ++ bs b = bs (a ++ b) := by
 apply ByteArray.ext
 apply Array.toList_inj.1
 simp [bs]
theorem decimal_spec (n : Nat) (hn : n < 1000000000000) : Spec Tryz.prog 21 [] [.v (.int .i64 n)] fun _ r => r = strA (bs (decS n)) := by
 have hlen := decD_len 12 n hn
 refine spec_of (cx_ok ord0 xs0 0) (fun _ _ h => h) Tryz.func21 rfl (by kernel_rfl) rfl (by kernel_rfl) ?_
 intro hok
 conv => whnf
 by_cases h0 : n = 0
 ·subst h0
  (refine goA ?_; try with_reducible exact trivial)
  rfl
 ·(refine goA ?_; try with_reducible exact trivial)
  refine loop_keep [0, 3] ?_
  conv => whnf
  refine loop_go (fun x : Nat × List UInt8 => [(4, .v (.string (bs x.2))), (5, .v (.int .i64 x.1))]) (fun _ => []) (fun _ => []) (fun x => x.1 ≤ n ∧ decD x.1 ++ x.2 = decD n ∧ x.2.length ≤ 12) (fun x => x.1) (n, []) ?_ ⟨Nat.le_refl _, by simp, by simp⟩ ?_
  ·repeat' constructor
  ·rintro ⟨k, l⟩ ⟨hk, hd, hl⟩
   simp only at hk hd hl
   have hll : (decD k).length + l.length ≤ 12 := by
    have := congrArg List.length hd
    rw [List.length_append] at this; omega
   conv => whnf
   by_cases hk0 : k = 0
   ·subst hk0
    rw [decD_zero, List.nil_append] at hd
    (refine goA ?_; try with_reducible exact trivial)
    have : decS n = l := by unfold decS; rw [if_neg h0, hd]
    rw [this]; rfl
   ·have hm : (((k, l).1 : Nat) : Int).tmod 10 = ((k % 10 : Nat) : Int) := by
     show ((k : Int)).tmod 10 = _
     rw [Int.tmod_eq_emod_of_nonneg (by omega)]; omega
    have hq : (((k, l).1 : Nat) : Int).tdiv 10 = ((k / 10 : Nat) : Int) := by
     show ((k : Int)).tdiv 10 = _
     rw [Int.tdiv_eq_ediv_of_nonneg (by omega)]; omega
    (refine goA ?_; try with_reducible exact trivial)
    rw [hm]
    conv => whnf
    (refine goA ?_; try with_reducible exact trivial)
    refine ⟨⟨by omega, by omega, by show _ ≤ (10 : Int); omega⟩, ?_⟩
    rw [show (⟨#[48, 49, 50, 51, 52, 53, 54, 55, 56, 57]⟩ : ByteArray).extract (Int.toNat ((k % 10 : Nat) : Int)) (Int.toNat (((k % 10 : Nat) : Int) + 1)) = bs [UInt8.ofNat (48 + k % 10)] from dig_cut k _ _ (by omega) (by omega)]
    conv => whnf
    refine ⟨by rw [bs_size, bs_size]; show 1 + l.length ≤ maxLen; unfold maxLen; omega, ?_⟩
    rw [show bs [UInt8.ofNat (48 + k % 10)] ++ bs ((k, l).2) = bs (UInt8.ofNat (48 + k % 10) :: l) from bs_app _ _]
    conv => whnf
    (refine goA ?_; try with_reducible exact trivial)
    rw [hq]
    have hd2 : decD (k / 10) ++ UInt8.ofNat (48 + k % 10) :: l = decD n := by
     rw [← hd, decD_pos hk0]; simp
    repeat ((with_reducible refine And.intro ?_ ?_); (focus (first | omega | (with_reducible refine i64r ?_; (first | omega | (simp only [List.length_append, List.length_cons, List.length_nil, List.length_map, ByteArray.size_append]; omega) | (dsimp only; omega))) | (with_reducible refine max_le ?_; (first | omega | (simp only [List.length_append, List.length_cons, List.length_nil, List.length_map, ByteArray.size_append]; omega) | (dsimp only; omega))) | ((fail_if_success (with_reducible refine max_le ?_)); decide) | (simp only [List.length_append, List.length_cons, List.length_nil, List.length_map, ByteArray.size_append]; omega) | (dsimp only; omega) | ((with_reducible refine i64r ?_); dsimp only; omega))); (conv => whnf))
    refine ⟨(k / 10, UInt8.ofNat (48 + k % 10) :: l), le_head ?_, ⟨by show k / 10 ≤ n; omega, hd2, ?_⟩, by show k / 10 < k; omega⟩
    ·repeat' constructor
    ·have := congrArg List.length hd2
     rw [List.length_append] at this
     show (UInt8.ofNat (48 + k % 10) :: l).length ≤ 12
     omega
theorem decS_size (n : Nat) (hn : n < 1000000000000) : (bs (decS n)).size ≤ 12 := by
 rw [bs_size]
 unfold decS
 split
 ·decide
 ·exact decD_len 12 n hn
theorem szD (l : Array UInt8) : (⟨l⟩ : ByteArray).size = l.size := rfl
end Go.Proofs.YtmodkpibkkpcdaaGreatDoor.Vm
namespace Go.Proofs.YtmodkpibkkpcdaaGreatDoor.Vm
open Go.RowKit Go.Shelf
set_option linter.unusedSimpArgs false
set_option linter.unusedVariables false
set_option maxRecDepth 100000
theorem letter6_spec (c : UInt8) : Spec Tryz.prog 56 [] [.v (.int .u8 (c.toNat : Int))] fun _ r => r = boolA (isLD c) := by
 have hm : 0 ≤ (c.toNat : Int) ∧ (c.toNat : Int) ≤ 255 := by have := c.toNat_lt; omega
 unfold isLD isL isD
 generalize (c.toNat : Int) = n at *
 refine spec_of (cx_ok ord0 xs0 0) (fun _ _ h => h) Tryz.func56 rfl (by kernel_rfl) rfl (by kernel_rfl) ?_
 intro _
 conv => whnf
 by_cases h1 : 97 ≤ n
 ·rw [decide_eq_true h1]
  conv => whnf
  by_cases h2 : n ≤ 122
  ·rw [decide_eq_true h2]
   conv => whnf
   rfl
  ·rw [decide_eq_false h2]
   conv => whnf
   rw [decide_eq_true (show 48 ≤ n by omega)]
   conv => whnf
   rw [decide_eq_false (show ¬ n ≤ 57 by omega)]
   conv => whnf
   rfl
 ·rw [decide_eq_false h1]
  conv => whnf
  by_cases h3 : 48 ≤ n
  ·rw [decide_eq_true h3]
   conv => whnf
   rcases Decidable.em (n ≤ 57) with h4 | h4
   ·rw [decide_eq_true h4]
    conv => whnf
    rfl
   ·rw [decide_eq_false h4]
    conv => whnf
    rfl
  ·rw [decide_eq_false h3]
   conv => whnf
   rfl
def lastB (a : ByteArray) : UInt8 := a.data.toList.getD (a.size - 1) 0
def firstB (a : ByteArray) : UInt8 := a.data.toList.getD 0 0
def glueF (a b : ByteArray) : ByteArray := if a = ⟨#[]⟩ then a ++ b else if b = ⟨#[]⟩ then a ++ b else if isLD (lastB a) = false then a ++ b else if isLD (firstB b) = false then a ++ b else a ++ ⟨#[32]⟩ ++ b
theorem size_ne {a : ByteArray} (h : a ≠ ⟨#[]⟩) : 0 < a.size := by
 refine Nat.pos_of_ne_zero fun h0 => h ?_
 apply ByteArray.ext
 exact Array.eq_empty_of_size_eq_zero h0
theorem glue_spec (a b : ByteArray) (ha : a.size ≤ 500000000) (hb : b.size ≤ 400000000) : Spec Tryz.prog 34 [] [strA a, strA b] fun _ r => r = strA (glueF a b) := by
 have h1 := letter6_spec (lastB a)
 have h2 := letter6_spec (firstB b)
 unfold glueF
 refine spec_of (cx_ok ord0 xs0 0) (fun _ _ h => h) Tryz.func34 rfl (by kernel_rfl) rfl (by kernel_rfl) ?_
 intro _
 conv => whnf
 by_cases ea : a = ⟨#[]⟩
 ·rw [decide_eq_true ea, if_pos ea]
  conv => whnf
  refine ⟨by show a.size + b.size ≤ maxLen; unfold maxLen; omega, ?_⟩
  conv => whnf
  rfl
 ·rw [decide_eq_false ea, if_neg ea]
  conv => whnf
  by_cases eb : b = ⟨#[]⟩
  ·rw [decide_eq_true eb, if_pos eb]
   conv => whnf
   refine ⟨by show a.size + b.size ≤ maxLen; unfold maxLen; omega, ?_⟩
   conv => whnf
   rfl
  ·rw [decide_eq_false eb, if_neg eb]
   have sa := size_ne ea
   have sb := size_ne eb
   conv => whnf
   refine ⟨i64r (by omega), ?_⟩
   conv => whnf
   refine ⟨⟨by omega, by omega⟩, ?_⟩
   rw [show a.data.toList.getD (Int.toNat ((a.size : Int) - 1)) 0 = lastB a from by unfold lastB; congr 1; omega]
   generalize isLD (lastB a) = p at *
   (refine call0 [] rfl (fun _ => h1) ?_; rintro r rfl; conv => whnf)
   cases p
   ·rw [if_pos rfl]
    conv => whnf
    refine ⟨by show a.size + b.size ≤ maxLen; unfold maxLen; omega, ?_⟩
    conv => whnf
    rfl
   ·rw [if_neg (by decide)]
    conv => whnf
    refine ⟨⟨by omega, by omega⟩, ?_⟩
    rw [show b.data.toList.getD (Int.toNat 0) 0 = firstB b from rfl]
    generalize isLD (firstB b) = q at *
    (refine call0 [] rfl (fun _ => h2) ?_; rintro r rfl; conv => whnf)
    cases q
    ·rw [if_pos rfl]
     conv => whnf
     refine ⟨by show a.size + b.size ≤ maxLen; unfold maxLen; omega, ?_⟩
     conv => whnf
     rfl
    ·rw [if_neg (by decide)]
     conv => whnf
     refine ⟨by show a.size + 1 ≤ maxLen; unfold maxLen; omega, ?_⟩
     conv => whnf
     refine ⟨by rw [ByteArray.size_append]; show a.size + 1 + b.size ≤ maxLen; unfold maxLen; omega, ?_⟩
     conv => whnf
     rfl
theorem glue_size (a b : ByteArray) : (glueF a b).size ≤ a.size + b.size + 1 := by
 have h : (⟨#[32]⟩ : ByteArray).size = 1 := rfl
 unfold glueF
 repeat' split
 all_goals (simp only [ByteArray.size_append]; omega)
def tsz (l : List ByteArray) : Nat := (l.map fun x => x.size + 1).sum
def allF (l : List ByteArray) : ByteArray := l.foldl glueF ⟨#[]⟩
theorem tsz_cons (x : ByteArray) (l : List ByteArray) : tsz (x :: l) = (x.size + 1) + tsz l := by unfold tsz; simp
theorem tsz_snoc (l : List ByteArray) (x : ByteArray) : tsz (l ++ [x]) = tsz l + (x.size + 1) := by unfold tsz; simp
theorem allF_snoc (l : List ByteArray) (x : ByteArray) : allF (l ++ [x]) = glueF (allF l) x := by unfold allF; rw [List.foldl_append]; rfl
theorem tsz_take (l : List ByteArray) (j : Nat) : tsz (l.take j) ≤ tsz l := by
 have : tsz l = tsz (l.take j) + tsz (l.drop j) := by
  unfold tsz
  rw [← List.sum_append, ← List.map_append, List.take_append_drop]
 omega
theorem tsz_mem {l : List ByteArray} {x : ByteArray} (h : x ∈ l) : x.size + 1 ≤ tsz l := by
 induction l with
 | nil => cases h
 | cons y l ih =>
  rw [tsz_cons]
  rcases List.mem_cons.1 h with rfl | h
  ·omega
  ·have := ih h; omega
theorem tsz_len (l : List ByteArray) : l.length ≤ tsz l := by
 induction l with
 | nil => exact Nat.zero_le _
 | cons x l ih => rw [tsz_cons, List.length_cons]; omega
theorem allF_take (l : List ByteArray) : ∀ j, j ≤ l.length → (allF (l.take j)).size ≤ tsz (l.take j)
 | 0, _ => by rw [List.take_zero]; exact Nat.zero_le _
 | j + 1, h => by
  have ih := allF_take l j (by omega)
  rw [List.take_succ_eq_append_getElem (by omega), allF_snoc, tsz_snoc]
  have := glue_size (allF (l.take j)) (l[j]'(by omega))
  omega
theorem allF_size (l : List ByteArray) : (allF l).size ≤ tsz l := by
 have := allF_take l l.length (Nat.le_refl _)
 rwa [List.take_length] at this
theorem all_spec (l : List ByteArray) (h : tsz l ≤ 300000000) : Spec Tryz.prog 54 [] [.sl 1 l.length (strsA l)] fun _ r => r = strA (allF l) := by
 have hln := tsz_len l
 refine spec_of (cx_ok ord0 xs0 0) (fun _ _ h => h) Tryz.func54 rfl (by kernel_rfl) rfl (by kernel_rfl) ?_
 intro _
 conv => whnf
 refine loop_keep [0] ?_
 conv => whnf
 refine loop_go (fun j : Nat => [(3, strA (allF (l.take j))), (4, .v (.int .i64 j))]) (fun _ => []) (fun _ => []) (fun j => j ≤ l.length) (fun j => l.length - j) 0 ?_ (Nat.zero_le _) ?_
 ·repeat' constructor
 intro j hj
 conv => whnf
 by_cases hlt : j < l.length
 ·rw [decide_eq_true (show (j : Int) < l.length by omega)]
  have hr : rowOf 1 j (strsA l) = [strA l[j]] := rowOf_map strA l j hlt
  have h1 := allF_take l j hj
  have h2 := tsz_take l j
  have h3 := tsz_mem (List.getElem_mem hlt)
  have hg := glue_spec (allF (l.take j)) l[j] (by omega) (by omega)
  have e : allF (l.take (j + 1)) = glueF (allF (l.take j)) l[j] := by rw [List.take_succ_eq_append_getElem hlt, allF_snoc]
  generalize l[j] = x at *
  conv => whnf
  refine ⟨by omega, ?_⟩
  conv => whnf
  (generalize hrq : rowOf _ _ (strsA l) = rq; obtain rfl : rq = [strA x] := hrq.symm.trans (hr); clear hrq; conv => whnf)
  (refine call0 [] rfl (fun _ => hg) ?_; rintro r rfl; conv => whnf)
  refine ⟨i64r (by omega), ?_⟩
  conv => whnf
  refine ⟨j + 1, le_selH [] ?_, hlt, by omega⟩
  conv => whnf
  rw [e]
  repeat' constructor
 ·rw [decide_eq_false (show ¬ (j : Int) < l.length by omega)]
  conv => whnf
  rw [List.take_of_length_le (by omega)]
  rfl
def prec6 (k : Int) (s : ByteArray) : Int := if k = 17 then (if s = pNot then 3 else 7) else if k ≠ 18 then 8 else if s = pOr then 1 else if s = pAnd then 2 else if s = pPlus then 5 else if s = pMinus then 5 else if s = pStar then 6 else if s = pSlash then 6 else 4
theorem prec6_rng (k : Int) (s : ByteArray) : 1 ≤ prec6 k s ∧ prec6 k s ≤ 8 := by
 unfold prec6
 repeat' split
 all_goals decide
theorem prec_spec (f : Nt) : Spec Tryz.prog 147 [] [.agg (ntA f)] fun _ r => r = intA (prec6 f.k f.s) := by
 unfold prec6
 refine spec_of (cx_ok ord0 xs0 0) (fun _ _ h => h) Tryz.func147 rfl (by kernel_rfl) rfl (by kernel_rfl) ?_
 intro _
 conv => whnf
 by_cases h17 : f.k = 17
 ·rw [if_pos h17, decide_eq_true h17]
  conv => whnf
  by_cases hn : f.s = pNot
  ·rw [if_pos hn, decide_eq_true (p := f.s = ⟨_⟩) hn]
   conv => whnf
   rfl
  ·rw [if_neg hn, decide_eq_false (p := f.s = ⟨_⟩) hn]
   conv => whnf
   rfl
 rw [if_neg h17, decide_eq_false h17]
 conv => whnf
 by_cases h18 : f.k = 18
 ·rw [if_neg (show ¬ f.k ≠ 18 from fun h => h h18), decide_eq_true h18]
  conv => whnf
  by_cases g1 : f.s = pOr
  ·rw [if_pos g1, decide_eq_true (p := f.s = ⟨_⟩) g1]
   conv => whnf
   rfl
  rw [if_neg g1, decide_eq_false (p := f.s = ⟨_⟩) g1]
  conv => whnf
  by_cases g2 : f.s = pAnd
  ·rw [if_pos g2, decide_eq_true (p := f.s = ⟨_⟩) g2]
   conv => whnf
   rfl
  rw [if_neg g2, decide_eq_false (p := f.s = ⟨_⟩) g2]
  conv => whnf
  by_cases g3 : f.s = pPlus
  ·rw [if_pos g3, decide_eq_true (p := f.s = ⟨_⟩) g3]
   conv => whnf
   rfl
  rw [if_neg g3, decide_eq_false (p := f.s = ⟨_⟩) g3]
  conv => whnf
  by_cases g4 : f.s = pMinus
  ·rw [if_pos g4, decide_eq_true (p := f.s = ⟨_⟩) g4]
   conv => whnf
   rfl
  rw [if_neg g4, decide_eq_false (p := f.s = ⟨_⟩) g4]
  conv => whnf
  by_cases g5 : f.s = pStar
  ·rw [if_pos g5, decide_eq_true (p := f.s = ⟨_⟩) g5]
   conv => whnf
   rfl
  rw [if_neg g5, decide_eq_false (p := f.s = ⟨_⟩) g5]
  conv => whnf
  by_cases g6 : f.s = pSlash
  ·rw [if_pos g6, decide_eq_true (p := f.s = ⟨_⟩) g6]
   conv => whnf
   rfl
  rw [if_neg g6, decide_eq_false (p := f.s = ⟨_⟩) g6]
  conv => whnf
  rfl
 ·rw [if_pos h18, decide_eq_false h18]
  conv => whnf
  rfl
end Go.Proofs.YtmodkpibkkpcdaaGreatDoor.Vm
namespace Go.Proofs.YtmodkpibkkpcdaaGreatDoor.Vm
open Go.RowKit Go.Shelf
set_option linter.unusedSimpArgs false
set_option linter.unusedVariables false
set_option maxRecDepth 100000
def parN (p req : Int) (full : Bool) (b : ByteArray) : ByteArray := if p < req then pLp ++ b ++ pRp else if full = true then (if p < 8 then pLp ++ b ++ pRp else b) else b
def noG : Int → ByteArray := fun _ => eB
def tfB (n : Int) : ByteArray := [wFalse, wTrue].getD (aroundF n 2).toNat eB
def bodyN (k n : Int) (s : ByteArray) (g : List (Int → ByteArray)) : ByteArray :=
 if k = 12 then bs (decS n.toNat)
 else if k = 13 then tfB n
 else if k = 16 then allF [wDraw, pLp, (g.getD 0 noG) 1, pRp]
 else if k = 17 then allF [s, (g.getD 0 noG) (prec6 k s)]
 else if k = 18 then allF [(g.getD 0 noG) (if prec6 k s = 4 then 5 else prec6 k s), s, (g.getD 1 noG) (prec6 k s + 1)]
 else s
mutual
def shN (full : Bool) : Nt → Int → ByteArray
 | .mk k n s kids, req => parN (prec6 k s) req full (bodyN k n s (shL full kids))
def shL (full : Bool) : List Nt → List (Int → ByteArray)
 | [] => []
 | f :: l => shN full f :: shL full l
end
theorem parN_size (p req : Int) (full : Bool) (b : ByteArray) : (parN p req full b).size ≤ b.size + 2 := by
 unfold parN
 have h1 : pLp.size = 1 := rfl
 have h2 : pRp.size = 1 := rfl
 repeat' split
 all_goals (try simp only [ByteArray.size_append]); omega
def SH (full : Bool) (m : Nat) (f : Nt) : Prop := ∀ req : Int, 0 ≤ req → req ≤ 9 → (shN full f req).size ≤ m ∧ Spec Tryz.prog 123 [] [.agg (ntA f), intA req, boolA full] fun _ r => r = strA (shN full f req)
theorem rowN1 (f : Nt) : rowOf 4 0 (ntsA [f]) = ntA f := rowOf_nts [f] 0 (by simp)
theorem rowN20 (f g : Nt) : rowOf 4 0 (ntsA [f, g]) = ntA f := rowOf_nts [f, g] 0 (by simp)
theorem rowN21 (f g : Nt) : rowOf 4 1 (ntsA [f, g]) = ntA g := rowOf_nts [f, g] 1 (by simp)
def ordSh (id : Nat) : Tr := match Nat.beq id 11 with | true => .q 0 3 (.q 1 0 (.q 2 3 (.q 3 0 (.q 4 3 (.q 5 0 (.q 6 3 (.q 7 3 (.alt 8 1 (.alt 9 1 (.alt 10 1 (.q 11 3 (.nil)) (.nil)) (.nil)) (.nil))))))))) | false => match Nat.beq id 16 with | true => .q 0 3 (.q 1 0 (.q 2 3 (.q 3 0 (.q 4 3 (.q 5 3 (.q 7 3 (.q 8 0 (.q 9 3 (.q 10 0 (.q 11 3 (.q 12 0 (.q 13 3 (.q 14 3 (.q 15 3 (.alt 6 1 (.alt 16 1 (.alt 17 1 (.alt 18 1 (.q 19 3 (.nil)) (.nil)) (.nil)) (.nil)) (.nil)))))))))))))))) | false => .nil
theorem sh_lit (full : Bool) (n : Int) (hn : 0 ≤ n ∧ n < 1000000000000) : SH full 14 (.mk 12 n eB []) := fun req h1 h2 => by
 have hsz : (bs (decS n.toNat)).size ≤ 12 := decS_size _ (by omega)
 have e : shN full (.mk 12 n eB []) req = parN 8 req full (bs (decS n.toNat)) := rfl
 rw [e]
 refine ⟨by have := parN_size 8 req full (bs (decS n.toNat)); omega, ?_⟩
 have hpr := prec_spec (.mk 12 n eB [])
 have hdc := decimal_spec n.toNat (by omega)
 rw [show ((n.toNat : Nat) : Int) = n by omega] at hdc
 rw [show prec6 (Nt.mk 12 n eB []).k (Nt.mk 12 n eB []).s = 8 from rfl] at hpr
 generalize bs (decS n.toNat) = x at *
 obtain ⟨p, hp⟩ : ∃ p : Int, p = 8 := ⟨_, rfl⟩
 rw [← hp] at hpr ⊢
 unfold parN
 refine spec_of (cx_ok ordSh xs0 0) (fun _ _ h => h) Tryz.func123 rfl (by kernel_rfl) rfl (by kernel_rfl) ?_
 intro hok
 conv => whnf
 (refine call0 [] rfl (fun _ => hpr) ?_; rintro r rfl; conv => whnf)
 (refine call0 [] rfl (fun _ => hdc) ?_; rintro r rfl; conv => whnf)
 by_cases hlt : p < req
 ·rw [if_pos hlt, decide_eq_true hlt]
  conv => whnf
  refine ⟨by (try simp only [ByteArray.size_append, Nt.s, szD, List.size_toArray, List.length_cons, List.length_nil]); unfold maxLen; omega, ?_⟩
  conv => whnf
  refine ⟨by (try simp only [ByteArray.size_append, Nt.s, szD, List.size_toArray, List.length_cons, List.length_nil]); unfold maxLen; omega, ?_⟩
  conv => whnf
  rfl
 ·rw [if_neg hlt, decide_eq_false hlt]
  cases full with
  | false =>
   conv => whnf
   rfl
  | true =>
   rw [if_pos rfl]
   conv => whnf
   by_cases h8 : p < 8
   ·rw [if_pos h8, decide_eq_true h8]
    conv => whnf
    refine ⟨by (try simp only [ByteArray.size_append, Nt.s, szD, List.size_toArray, List.length_cons, List.length_nil]); unfold maxLen; omega, ?_⟩
    conv => whnf
    refine ⟨by (try simp only [ByteArray.size_append, Nt.s, szD, List.size_toArray, List.length_cons, List.length_nil]); unfold maxLen; omega, ?_⟩
    conv => whnf
    rfl
   ·rw [if_neg h8, decide_eq_false h8]
    conv => whnf
    rfl
theorem sh_txt (full : Bool) (k : Int) (hk : k = 14 ∨ k = 15) (s : ByteArray) (hs : s.size ≤ 12) : SH full 14 (.mk k 0 s []) := fun req h1 h2 => by
 have e : shN full (.mk k 0 s []) req = parN 8 req full s := by rcases hk with rfl | rfl <;> rfl
 rw [e]
 refine ⟨by have := parN_size 8 req full s; omega, ?_⟩
 have hpr := prec_spec (.mk k 0 s [])
 rw [show prec6 (Nt.mk k 0 s []).k (Nt.mk k 0 s []).s = 8 by rcases hk with rfl | rfl <;> rfl] at hpr
 obtain ⟨p, hp⟩ : ∃ p : Int, p = 8 := ⟨_, rfl⟩
 rw [← hp] at hpr ⊢
 unfold parN
 rcases hk with rfl | rfl
 ·refine spec_of (cx_ok ordSh xs0 0) (fun _ _ h => h) Tryz.func123 rfl (by kernel_rfl) rfl (by kernel_rfl) ?_
  intro hok
  conv => whnf
  (refine call0 [] rfl (fun _ => hpr) ?_; rintro r rfl; conv => whnf)
  by_cases hlt : p < req
  ·rw [if_pos hlt, decide_eq_true hlt]
   conv => whnf
   refine ⟨by (try simp only [ByteArray.size_append, Nt.s, szD, List.size_toArray, List.length_cons, List.length_nil]); unfold maxLen; omega, ?_⟩
   conv => whnf
   refine ⟨by (try simp only [ByteArray.size_append, Nt.s, szD, List.size_toArray, List.length_cons, List.length_nil]); unfold maxLen; omega, ?_⟩
   conv => whnf
   rfl
  ·rw [if_neg hlt, decide_eq_false hlt]
   cases full with
   | false =>
    conv => whnf
    rfl
   | true =>
    rw [if_pos rfl]
    conv => whnf
    by_cases h8 : p < 8
    ·rw [if_pos h8, decide_eq_true h8]
     conv => whnf
     refine ⟨by (try simp only [ByteArray.size_append, Nt.s, szD, List.size_toArray, List.length_cons, List.length_nil]); unfold maxLen; omega, ?_⟩
     conv => whnf
     refine ⟨by (try simp only [ByteArray.size_append, Nt.s, szD, List.size_toArray, List.length_cons, List.length_nil]); unfold maxLen; omega, ?_⟩
     conv => whnf
     rfl
    ·rw [if_neg h8, decide_eq_false h8]
     conv => whnf
     rfl
 ·refine spec_of (cx_ok ordSh xs0 0) (fun _ _ h => h) Tryz.func123 rfl (by kernel_rfl) rfl (by kernel_rfl) ?_
  intro hok
  conv => whnf
  (refine call0 [] rfl (fun _ => hpr) ?_; rintro r rfl; conv => whnf)
  by_cases hlt : p < req
  ·rw [if_pos hlt, decide_eq_true hlt]
   conv => whnf
   refine ⟨by (try simp only [ByteArray.size_append, Nt.s, szD, List.size_toArray, List.length_cons, List.length_nil]); unfold maxLen; omega, ?_⟩
   conv => whnf
   refine ⟨by (try simp only [ByteArray.size_append, Nt.s, szD, List.size_toArray, List.length_cons, List.length_nil]); unfold maxLen; omega, ?_⟩
   conv => whnf
   rfl
  ·rw [if_neg hlt, decide_eq_false hlt]
   cases full with
   | false =>
    conv => whnf
    rfl
   | true =>
    rw [if_pos rfl]
    conv => whnf
    by_cases h8 : p < 8
    ·rw [if_pos h8, decide_eq_true h8]
     conv => whnf
     refine ⟨by (try simp only [ByteArray.size_append, Nt.s, szD, List.size_toArray, List.length_cons, List.length_nil]); unfold maxLen; omega, ?_⟩
     conv => whnf
     refine ⟨by (try simp only [ByteArray.size_append, Nt.s, szD, List.size_toArray, List.length_cons, List.length_nil]); unfold maxLen; omega, ?_⟩
     conv => whnf
     rfl
    ·rw [if_neg h8, decide_eq_false h8]
     conv => whnf
     rfl
theorem sh_bool (full : Bool) (n : Nat) (hn : n < 2) : SH full 14 (.mk 13 n eB []) := fun req h1 h2 => by
 have e : shN full (.mk 13 n eB []) req = parN 8 req full (tfB n) := rfl
 rw [e]
 have har := around_spec n 2 (by decide)
 have hz : aroundF n 2 = n := by rcases (by omega : n = 0 ∨ n = 1) with rfl | rfl <;> rfl
 have hsz : (tfB n).size ≤ 12 := by rcases (by omega : n = 0 ∨ n = 1) with rfl | rfl <;> decide
 refine ⟨by have := parN_size 8 req full (tfB n); omega, ?_⟩
 have hpr := prec_spec (.mk 13 n eB [])
 rw [show prec6 (Nt.mk 13 n eB []).k (Nt.mk 13 n eB []).s = 8 from rfl] at hpr
 have hr : List.drop (n * 1) ([wFalse, wTrue].map strA) = strA (tfB n) :: List.drop (n + 1) ([wFalse, wTrue].map strA) := by
  rcases (by omega : n = 0 ∨ n = 1) with rfl | rfl <;> rfl
 rw [hz] at har
 generalize tfB n = x at *
 obtain ⟨p, hp⟩ : ∃ p : Int, p = 8 := ⟨_, rfl⟩
 rw [← hp] at hpr ⊢
 unfold parN
 refine spec_of (cx_ok ordSh xs0 0) (fun _ _ h => h) Tryz.func123 rfl (by kernel_rfl) rfl (by kernel_rfl) ?_
 intro hok
 conv => whnf
 (refine call0 [] rfl (fun _ => hpr) ?_; rintro r rfl; conv => whnf)
 refine call0 [] rfl (fun _ => har) ?_
 rintro r ⟨_, rfl⟩
 conv => whnf
 refine ⟨⟨by omega, by omega⟩, ?_⟩
 conv => whnf
 generalize hrq : List.drop (Int.toNat (n : Int) * _) _ = rq
 obtain rfl : rq = _ :: _ := hrq.symm.trans hr
 clear hrq
 conv => whnf
 by_cases hlt : p < req
 ·rw [if_pos hlt, decide_eq_true hlt]
  conv => whnf
  refine ⟨by (try simp only [ByteArray.size_append, Nt.s, szD, List.size_toArray, List.length_cons, List.length_nil]); unfold maxLen; omega, ?_⟩
  conv => whnf
  refine ⟨by (try simp only [ByteArray.size_append, Nt.s, szD, List.size_toArray, List.length_cons, List.length_nil]); unfold maxLen; omega, ?_⟩
  conv => whnf
  rfl
 ·rw [if_neg hlt, decide_eq_false hlt]
  cases full with
  | false =>
   conv => whnf
   rfl
  | true =>
   rw [if_pos rfl]
   conv => whnf
   by_cases h8 : p < 8
   ·rw [if_pos h8, decide_eq_true h8]
    conv => whnf
    refine ⟨by (try simp only [ByteArray.size_append, Nt.s, szD, List.size_toArray, List.length_cons, List.length_nil]); unfold maxLen; omega, ?_⟩
    conv => whnf
    refine ⟨by (try simp only [ByteArray.size_append, Nt.s, szD, List.size_toArray, List.length_cons, List.length_nil]); unfold maxLen; omega, ?_⟩
    conv => whnf
    rfl
   ·rw [if_neg h8, decide_eq_false h8]
    conv => whnf
    rfl
theorem sh_drw (full : Bool) (m : Nat) (hm : m ≤ 1000000) (f : Nt) (hf : SH full m f) : SH full (m + 20) (.mk 16 0 eB [f]) := fun req h1 h2 => by
 obtain ⟨hs1, hsp⟩ := hf 1 (by decide) (by decide)
 have e : shN full (.mk 16 0 eB [f]) req = parN 8 req full (allF [wDraw, pLp, shN full f 1, pRp]) := rfl
 rw [e]
 have hpr := prec_spec (.mk 16 0 eB [f])
 rw [show prec6 (Nt.mk 16 0 eB [f]).k (Nt.mk 16 0 eB [f]).s = 8 from rfl] at hpr
 have ht : tsz [wDraw, pLp, shN full f 1, pRp] ≤ m + 10 := by
  rw [tsz_cons, tsz_cons, tsz_cons, tsz_cons]
  have a1 : wDraw.size = 4 := rfl
  have a2 : pLp.size = 1 := rfl
  have a3 : pRp.size = 1 := rfl
  have a4 : tsz [] = 0 := rfl
  omega
 have hal := all_spec [wDraw, pLp, shN full f 1, pRp] (by omega)
 have hsz := allF_size [wDraw, pLp, shN full f 1, pRp]
 generalize allF [wDraw, pLp, shN full f 1, pRp] = x at *
 refine ⟨by have := parN_size 8 req full x; omega, ?_⟩
 generalize shN full f 1 = y at *
 have hr := rowN1 f
 obtain ⟨p, hp⟩ : ∃ p : Int, p = 8 := ⟨_, rfl⟩
 rw [← hp] at hpr ⊢
 unfold parN
 refine spec_of (cx_ok ordSh xs0 0) (fun _ _ h => h) Tryz.func123 rfl (by kernel_rfl) rfl (by kernel_rfl) ?_
 intro hok
 conv => whnf
 (refine call0 [] rfl (fun _ => hpr) ?_; rintro r rfl; conv => whnf)
 refine ⟨by simp [Nt.kids], ?_⟩
 conv => whnf
 (generalize hrq : rowOf _ _ (ntsA (Nt.mk 16 0 eB [f]).kids) = rq; obtain rfl : rq = ntA f := hrq.symm.trans (hr); clear hrq; conv => whnf)
 (refine call0 [] rfl (fun _ => hsp) ?_; rintro r rfl; conv => whnf)
 (refine call0 [0] rfl (fun _ => hal) ?_; rintro r rfl; conv => whnf)
 by_cases hlt : p < req
 ·rw [if_pos hlt, decide_eq_true hlt]
  conv => whnf
  refine ⟨by (try simp only [ByteArray.size_append, Nt.s, szD, List.size_toArray, List.length_cons, List.length_nil]); unfold maxLen; omega, ?_⟩
  conv => whnf
  refine ⟨by (try simp only [ByteArray.size_append, Nt.s, szD, List.size_toArray, List.length_cons, List.length_nil]); unfold maxLen; omega, ?_⟩
  conv => whnf
  rfl
 ·rw [if_neg hlt, decide_eq_false hlt]
  cases full with
  | false =>
   conv => whnf
   rfl
  | true =>
   rw [if_pos rfl]
   conv => whnf
   by_cases h8 : p < 8
   ·rw [if_pos h8, decide_eq_true h8]
    conv => whnf
    refine ⟨by (try simp only [ByteArray.size_append, Nt.s, szD, List.size_toArray, List.length_cons, List.length_nil]); unfold maxLen; omega, ?_⟩
    conv => whnf
    refine ⟨by (try simp only [ByteArray.size_append, Nt.s, szD, List.size_toArray, List.length_cons, List.length_nil]); unfold maxLen; omega, ?_⟩
    conv => whnf
    rfl
   ·rw [if_neg h8, decide_eq_false h8]
    conv => whnf
    rfl
theorem sh_una (full : Bool) (m : Nat) (hm : m ≤ 1000000) (s : ByteArray) (hs : s.size ≤ 2) (f : Nt) (hf : SH full m f) : SH full (m + 20) (.mk 17 0 s [f]) := fun req h1 h2 => by
 have hp9 := prec6_rng 17 s
 have e : shN full (.mk 17 0 s [f]) req = parN (prec6 17 s) req full (allF [s, shN full f (prec6 17 s)]) := rfl
 rw [e]
 have hpr := prec_spec (.mk 17 0 s [f])
 rw [show prec6 (Nt.mk 17 0 s [f]).k (Nt.mk 17 0 s [f]).s = prec6 17 s from rfl] at hpr
 generalize prec6 17 s = p at *
 obtain ⟨hs1, hsp⟩ := hf p (by omega) (by omega)
 have ht : tsz [s, shN full f p] ≤ m + 4 := by
  rw [tsz_cons, tsz_cons]
  have a4 : tsz [] = 0 := rfl
  omega
 have hal := all_spec [s, shN full f p] (by omega)
 have hsz := allF_size [s, shN full f p]
 generalize allF [s, shN full f p] = x at *
 refine ⟨by have := parN_size p req full x; omega, ?_⟩
 generalize shN full f p = y at *
 have hr := rowN1 f
 unfold parN
 refine spec_of (cx_ok ordSh xs0 0) (fun _ _ h => h) Tryz.func123 rfl (by kernel_rfl) rfl (by kernel_rfl) ?_
 intro hok
 conv => whnf
 (refine call0 [] rfl (fun _ => hpr) ?_; rintro r rfl; conv => whnf)
 refine ⟨by simp [Nt.kids], ?_⟩
 conv => whnf
 (generalize hrq : rowOf _ _ (ntsA (Nt.mk 17 0 s [f]).kids) = rq; obtain rfl : rq = ntA f := hrq.symm.trans (hr); clear hrq; conv => whnf)
 (refine call0 [] rfl (fun _ => hsp) ?_; rintro r rfl; conv => whnf)
 (refine call0 [0] rfl (fun _ => hal) ?_; rintro r rfl; conv => whnf)
 by_cases hlt : p < req
 ·rw [if_pos hlt, decide_eq_true hlt]
  conv => whnf
  refine ⟨by (try simp only [ByteArray.size_append, Nt.s, szD, List.size_toArray, List.length_cons, List.length_nil]); unfold maxLen; omega, ?_⟩
  conv => whnf
  refine ⟨by (try simp only [ByteArray.size_append, Nt.s, szD, List.size_toArray, List.length_cons, List.length_nil]); unfold maxLen; omega, ?_⟩
  conv => whnf
  rfl
 ·rw [if_neg hlt, decide_eq_false hlt]
  cases full with
  | false =>
   conv => whnf
   rfl
  | true =>
   rw [if_pos rfl]
   conv => whnf
   by_cases h8 : p < 8
   ·rw [if_pos h8, decide_eq_true h8]
    conv => whnf
    refine ⟨by (try simp only [ByteArray.size_append, Nt.s, szD, List.size_toArray, List.length_cons, List.length_nil]); unfold maxLen; omega, ?_⟩
    conv => whnf
    refine ⟨by (try simp only [ByteArray.size_append, Nt.s, szD, List.size_toArray, List.length_cons, List.length_nil]); unfold maxLen; omega, ?_⟩
    conv => whnf
    rfl
   ·rw [if_neg h8, decide_eq_false h8]
    conv => whnf
    rfl
theorem sh_bin (full : Bool) (m : Nat) (hm : m ≤ 1000000) (s : ByteArray) (hs : s.size ≤ 2) (f g : Nt) (hf : SH full m f) (hg : SH full m g) : SH full (2 * m + 20) (.mk 18 0 s [f, g]) := fun req h1 h2 => by
 have hp9 := prec6_rng 18 s
 have hp8 : prec6 18 s ≤ 7 := by
  unfold prec6
  repeat' split
  all_goals first | decide | (rename_i h1 h2; exact absurd h2 (by decide)) | contradiction
 have e : shN full (.mk 18 0 s [f, g]) req = parN (prec6 18 s) req full (allF [shN full f (if prec6 18 s = 4 then 5 else prec6 18 s), s, shN full g (prec6 18 s + 1)]) := rfl
 rw [e]
 have hpr := prec_spec (.mk 18 0 s [f, g])
 rw [show prec6 (Nt.mk 18 0 s [f, g]).k (Nt.mk 18 0 s [f, g]).s = prec6 18 s from rfl] at hpr
 generalize prec6 18 s = p at *
 obtain ⟨q, hq⟩ : ∃ q : Int, (if p = 4 then 5 else p) = q := ⟨_, rfl⟩
 rw [hq]
 have hqr : 0 ≤ q ∧ q ≤ 9 := by split at hq <;> omega
 obtain ⟨hs1, hsp⟩ := hf q (by omega) (by omega)
 obtain ⟨hs2, hsp2⟩ := hg (p + 1) (by omega) (by omega)
 have ht : tsz [shN full f q, s, shN full g (p + 1)] ≤ 2 * m + 5 := by
  rw [tsz_cons, tsz_cons, tsz_cons]
  have a4 : tsz [] = 0 := rfl
  omega
 have hal := all_spec [shN full f q, s, shN full g (p + 1)] (by omega)
 have hsz := allF_size [shN full f q, s, shN full g (p + 1)]
 generalize allF [shN full f q, s, shN full g (p + 1)] = x at *
 refine ⟨by have := parN_size p req full x; omega, ?_⟩
 generalize shN full f q = y at *
 generalize shN full g (p + 1) = y2 at *
 have hr := rowN20 f g
 have hr2 := rowN21 f g
 unfold parN
 refine spec_of (cx_ok ordSh xs0 0) (fun _ _ h => h) Tryz.func123 rfl (by kernel_rfl) rfl (by kernel_rfl) ?_
 intro hok
 conv => whnf
 (refine call0 [] rfl (fun _ => hpr) ?_; rintro r rfl; conv => whnf)
 by_cases h4 : p = 4
 ·rw [if_pos h4] at hq
  subst hq
  rw [decide_eq_true h4]
  conv => whnf
  refine ⟨by simp [Nt.kids], ?_⟩
  conv => whnf
  (generalize hrq : rowOf _ _ (ntsA (Nt.mk 18 0 s [f, g]).kids) = rq; obtain rfl : rq = ntA f := hrq.symm.trans (hr); clear hrq; conv => whnf)
  refine ⟨by simp [Nt.kids], ?_⟩
  conv => whnf
  (generalize hrq : rowOf _ _ (ntsA (Nt.mk 18 0 s [f, g]).kids) = rq; obtain rfl : rq = ntA g := hrq.symm.trans (hr2); clear hrq; conv => whnf)
  refine ⟨i64r (by omega), ?_⟩
  conv => whnf
  (refine call0 [] rfl (fun _ => hsp) ?_; rintro r rfl; conv => whnf)
  (refine call0 [] rfl (fun _ => hsp2) ?_; rintro r rfl; conv => whnf)
  (refine call0 [0] rfl (fun _ => hal) ?_; rintro r rfl; conv => whnf)
  by_cases hlt : p < req
  ·rw [if_pos hlt, decide_eq_true hlt]
   conv => whnf
   refine ⟨by (try simp only [ByteArray.size_append, Nt.s, szD, List.size_toArray, List.length_cons, List.length_nil]); unfold maxLen; omega, ?_⟩
   conv => whnf
   refine ⟨by (try simp only [ByteArray.size_append, Nt.s, szD, List.size_toArray, List.length_cons, List.length_nil]); unfold maxLen; omega, ?_⟩
   conv => whnf
   rfl
  ·rw [if_neg hlt, decide_eq_false hlt]
   cases full with
   | false =>
    conv => whnf
    rfl
   | true =>
    rw [if_pos rfl]
    conv => whnf
    by_cases h8 : p < 8
    ·rw [if_pos h8, decide_eq_true h8]
     conv => whnf
     refine ⟨by (try simp only [ByteArray.size_append, Nt.s, szD, List.size_toArray, List.length_cons, List.length_nil]); unfold maxLen; omega, ?_⟩
     conv => whnf
     refine ⟨by (try simp only [ByteArray.size_append, Nt.s, szD, List.size_toArray, List.length_cons, List.length_nil]); unfold maxLen; omega, ?_⟩
     conv => whnf
     rfl
    ·rw [if_neg h8, decide_eq_false h8]
     conv => whnf
     rfl
 ·rw [if_neg h4] at hq
  subst hq
  rw [decide_eq_false h4]
  conv => whnf
  refine ⟨by simp [Nt.kids], ?_⟩
  conv => whnf
  (generalize hrq : rowOf _ _ (ntsA (Nt.mk 18 0 s [f, g]).kids) = rq; obtain rfl : rq = ntA f := hrq.symm.trans (hr); clear hrq; conv => whnf)
  refine ⟨by simp [Nt.kids], ?_⟩
  conv => whnf
  (generalize hrq : rowOf _ _ (ntsA (Nt.mk 18 0 s [f, g]).kids) = rq; obtain rfl : rq = ntA g := hrq.symm.trans (hr2); clear hrq; conv => whnf)
  refine ⟨i64r (by omega), ?_⟩
  conv => whnf
  (refine call0 [] rfl (fun _ => hsp) ?_; rintro r rfl; conv => whnf)
  (refine call0 [] rfl (fun _ => hsp2) ?_; rintro r rfl; conv => whnf)
  (refine call0 [0] rfl (fun _ => hal) ?_; rintro r rfl; conv => whnf)
  by_cases hlt : p < req
  ·rw [if_pos hlt, decide_eq_true hlt]
   conv => whnf
   refine ⟨by (try simp only [ByteArray.size_append, Nt.s, szD, List.size_toArray, List.length_cons, List.length_nil]); unfold maxLen; omega, ?_⟩
   conv => whnf
   refine ⟨by (try simp only [ByteArray.size_append, Nt.s, szD, List.size_toArray, List.length_cons, List.length_nil]); unfold maxLen; omega, ?_⟩
   conv => whnf
   rfl
  ·rw [if_neg hlt, decide_eq_false hlt]
   cases full with
   | false =>
    conv => whnf
    rfl
   | true =>
    rw [if_pos rfl]
    conv => whnf
    by_cases h8 : p < 8
    ·rw [if_pos h8, decide_eq_true h8]
     conv => whnf
     refine ⟨by (try simp only [ByteArray.size_append, Nt.s, szD, List.size_toArray, List.length_cons, List.length_nil]); unfold maxLen; omega, ?_⟩
     conv => whnf
     refine ⟨by (try simp only [ByteArray.size_append, Nt.s, szD, List.size_toArray, List.length_cons, List.length_nil]); unfold maxLen; omega, ?_⟩
     conv => whnf
     rfl
    ·rw [if_neg h8, decide_eq_false h8]
     conv => whnf
     rfl
def cI : Nat → Nat
 | 0 => 14
 | d + 1 => 2 * cI d + 20
theorem SH.mono {full : Bool} {m m' : Nat} {f : Nt} (h : SH full m f) (hm : m ≤ m') : SH full m' f := fun req h1 h2 => ⟨Nat.le_trans (h req h1 h2).1 hm, (h req h1 h2).2⟩
theorem cI_ge : ∀ d, 14 ≤ cI d
 | 0 => Nat.le_refl _
 | d + 1 => by unfold cI; omega
theorem varL_sz : ∀ s ∈ varL, s.size ≤ 12 := by decide
theorem builtL_sz : ∀ s ∈ builtL, s.size ≤ 12 := by decide
theorem litL_rg : ∀ n ∈ litL, 0 ≤ n ∧ n < 1000000000000 := by decide
theorem opL_sz : ∀ s ∈ opL, s.size ≤ 2 := by decide
theorem bolL_sz : ∀ s ∈ bolL, s.size ≤ 2 := by decide
theorem cmpL_sz : ∀ s ∈ cmpL, s.size ≤ 2 := by decide
theorem sh_ei (full : Bool) {d : Nat} {f : Nt} (h : EI d f) : cI d ≤ 1000000 → SH full (cI d) f := by
 induction h with
 | lit d n h => exact fun _ => (sh_lit full n (litL_rg n h)).mono (cI_ge d)
 | var d s h => exact fun _ => (sh_txt full 14 (.inl rfl) s (varL_sz s h)).mono (cI_ge d)
 | nam d s h => exact fun _ => (sh_txt full 15 (.inr rfl) s (builtL_sz s h)).mono (cI_ge d)
 | drw d f h ih => intro hc; unfold cI at hc ⊢; exact (sh_drw full (cI d) (by omega) f (ih (by omega))).mono (by omega)
 | neg d f h ih => intro hc; unfold cI at hc ⊢; exact (sh_una full (cI d) (by omega) pMinus (by decide) f (ih (by omega))).mono (by omega)
 | bin d s f g hs h1 h2 i1 i2 => intro hc; unfold cI at hc ⊢; exact sh_bin full (cI d) (by omega) s (opL_sz s hs) f g (i1 (by omega)) (i2 (by omega))
theorem sh_eb (full : Bool) {d : Nat} {f : Nt} (h : EB d f) : cI (d + 1) ≤ 1000000 → SH full (cI (d + 1)) f := by
 induction h with
 | lit d n h => exact fun _ => (sh_bool full n h).mono (cI_ge (d + 1))
 | nt d f h ih => intro hc; have e : cI (d + 1 + 1) = 2 * cI (d + 1) + 20 := rfl; rw [e] at hc ⊢; exact (sh_una full (cI (d + 1)) (by omega) pNot (by decide) f (ih (by omega))).mono (by omega)
 | bin d s f g hs h1 h2 i1 i2 => intro hc; have e : cI (d + 1 + 1) = 2 * cI (d + 1) + 20 := rfl; rw [e] at hc ⊢; exact sh_bin full (cI (d + 1)) (by omega) s (bolL_sz s hs) f g (i1 (by omega)) (i2 (by omega))
 | cmp d s f g hs h1 h2 =>
  intro hc
  have hm : cI (d - 1) ≤ cI d := by
   cases d with
   | zero => exact Nat.le_refl _
   | succ d => rw [Nat.add_sub_cancel]; have e : cI (d + 1) = 2 * cI d + 20 := rfl; omega
  have e : cI (d + 1) = 2 * cI d + 20 := rfl
  rw [e] at hc ⊢
  exact sh_bin full (cI d) (by omega) s (cmpL_sz s hs) f g ((sh_ei full h1 (by omega)).mono hm) ((sh_ei full h2 (by omega)).mono hm)
end Go.Proofs.YtmodkpibkkpcdaaGreatDoor.Vm
namespace Go.Proofs.YtmodkpibkkpcdaaGreatDoor.Vm
open Go.RowKit Go.Shelf
set_option linter.unusedSimpArgs false
set_option linter.unusedVariables false
set_option maxRecDepth 100000
def cmF (l : List ByteArray) : ByteArray := match l with
 | [] => eB
 | x :: l => l.foldl (fun a y => glueF (a ++ pComma) y) (glueF eB x)
theorem cmF_snoc (x : ByteArray) (l : List ByteArray) (y : ByteArray) : cmF (x :: l ++ [y]) = glueF (cmF (x :: l) ++ pComma) y := by
 unfold cmF
 show (l ++ [y]).foldl _ _ = _
 rw [List.foldl_append]; rfl
theorem cmF_size : ∀ (l : List ByteArray), (cmF l).size ≤ tsz l + l.length := fun l => by
 induction h : l.length generalizing l with
 | zero => rw [List.eq_nil_of_length_eq_zero h]; exact Nat.zero_le _
 | succ n ih =>
  obtain ⟨m, y, rfl⟩ : ∃ m y, l = m ++ [y] := by
   have hne : l ≠ [] := fun e => by rw [e] at h; cases h
   exact ⟨l.dropLast, l.getLast hne, (List.dropLast_concat_getLast hne).symm⟩
  have hm : m.length = n := by simpa using h
  have := ih m hm
  rw [tsz_snoc]
  cases m with
  | nil =>
   show (glueF eB y).size ≤ _
   have := glue_size eB y
   have e0 : eB.size = 0 := rfl
   omega
  | cons x m =>
   rw [cmF_snoc]
   have g := glue_size (cmF (x :: m) ++ pComma) y
   have e1 : pComma.size = 1 := rfl
   rw [ByteArray.size_append] at g
   omega
def listN (full : Bool) (l : List Nt) : ByteArray := cmF (l.map fun f => shN full f 1) ++ pSemi
theorem list_spec (full : Bool) (m : Nat) (hm : m ≤ 1000000) (l : List Nt) (hl : l.length ≤ 100) (hf : ∀ f ∈ l, SH full m f) : (listN full l).size ≤ l.length * (m + 2) + 1 ∧ Spec Tryz.prog 122 [] [.sl 4 l.length (ntsA l), boolA full] fun _ r => r = strA (listN full l) := by
 have hts : ∀ j, j ≤ l.length → (cmF ((l.take j).map fun f => shN full f 1)).size ≤ j * (m + 2) := fun j hj => by
  have h1 := cmF_size ((l.take j).map fun f => shN full f 1)
  have h2 : tsz ((l.take j).map fun f => shN full f 1) ≤ j * (m + 1) := by
   clear h1
   induction j with
   | zero => rw [List.take_zero]; exact Nat.zero_le _
   | succ j ih =>
    have := ih (by omega)
    rw [List.take_succ_eq_append_getElem (by omega), List.map_append, List.map_cons, List.map_nil, tsz_snoc, Nat.succ_mul]
    have := (hf (l[j]'(by omega)) (List.getElem_mem _) 1 (by decide) (by decide)).1
    omega
  rw [List.length_map, List.length_take, Nat.min_eq_left hj] at h1
  have e : j * (m + 2) = j * (m + 1) + j := by rw [show m + 2 = (m + 1) + 1 by omega, Nat.mul_add, Nat.mul_one]
  omega
 have hbig : l.length * (m + 2) ≤ 100 * 1000002 := Nat.mul_le_mul hl (by omega)
 have e1 : pSemi.size = 1 := rfl
 have e2 : pComma.size = 1 := rfl
 refine ⟨?_, ?_⟩
 ·unfold listN
  rw [ByteArray.size_append]
  have := hts l.length (Nat.le_refl _)
  rw [List.take_length] at this
  omega
 unfold listN
 refine spec_of (cx_ok ord0 xs0 0) (fun _ _ h => h) Tryz.func122 rfl (by kernel_rfl) rfl (by kernel_rfl) ?_
 intro _
 conv => whnf
 refine loop_keep [0, 1] ?_
 conv => whnf
 refine loop_go (fun j : Nat => [(5, strA (cmF ((l.take j).map fun f => shN full f 1))), (6, .v (.int .i64 j))]) (fun _ => []) (fun _ => []) (fun j => j ≤ l.length) (fun j => l.length - j) 0 ?_ (Nat.zero_le _) ?_
 ·repeat' constructor
 intro j hj
 have hsz := hts j hj
 have hjm : j * (m + 2) ≤ l.length * (m + 2) := Nat.mul_le_mul_right _ hj
 conv => whnf
 by_cases hlt : j < l.length
 ·rw [decide_eq_true (show (j : Int) < l.length by omega)]
  have hr := rowOf_nts l j hlt
  obtain ⟨hs1, hsp⟩ := hf l[j] (List.getElem_mem hlt) 1 (by decide) (by decide)
  have htk : l.take (j + 1) = l.take j ++ [l[j]] := List.take_succ_eq_append_getElem hlt
  generalize l[j] = f at *
  conv => whnf
  by_cases h0 : 0 < j
  ·rw [decide_eq_true (show 0 < (j : Int) by omega)]
   have e : cmF ((l.take (j + 1)).map fun f => shN full f 1) = glueF (cmF ((l.take j).map fun f => shN full f 1) ++ pComma) (shN full f 1) := by
    rw [htk, List.map_append]
    cases hq : l.take j with
    | nil =>
     have := congrArg List.length hq
     rw [List.length_take, List.length_nil] at this
     omega
    | cons a b => exact cmF_snoc _ _ _
   generalize cmF ((l.take j).map fun f => shN full f 1) = a at *
   generalize shN full f 1 = b at *
   have hg := glue_spec (a ++ pComma) b (by rw [ByteArray.size_append]; omega) (by omega)
   conv => whnf
   refine ⟨by show a.size + pComma.size ≤ maxLen; unfold maxLen; omega, ?_⟩
   conv => whnf
   refine ⟨by omega, ?_⟩
   conv => whnf
   (generalize hrq : rowOf _ _ (ntsA l) = rq; obtain rfl : rq = ntA f := hrq.symm.trans (hr); clear hrq; conv => whnf)
   (refine call0 [] rfl (fun _ => hsp) ?_; rintro r rfl; conv => whnf)
   (refine call0 [] rfl (fun _ => hg) ?_; rintro r rfl; conv => whnf)
   refine ⟨i64r (by omega), ?_⟩
   conv => whnf
   refine ⟨j + 1, le_selH [] ?_, hlt, by omega⟩
   conv => whnf
   rw [e]
   repeat' constructor
  ·rw [decide_eq_false (show ¬ 0 < (j : Int) by omega)]
   obtain rfl : j = 0 := by omega
   have e : cmF ((l.take (0 + 1)).map fun f => shN full f 1) = glueF (cmF ((l.take 0).map fun f => shN full f 1)) (shN full f 1) := by
    rw [htk]; rfl
   have hg := glue_spec (cmF ((l.take 0).map fun f => shN full f 1)) (shN full f 1) (by omega) (by omega)
   generalize cmF ((l.take 0).map fun f => shN full f 1) = a at *
   generalize shN full f 1 = b at *
   conv => whnf
   refine ⟨by omega, ?_⟩
   conv => whnf
   (generalize hrq : rowOf _ _ (ntsA l) = rq; obtain rfl : rq = ntA f := hrq.symm.trans (hr); clear hrq; conv => whnf)
   (refine call0 [] rfl (fun _ => hsp) ?_; rintro r rfl; conv => whnf)
   (refine call0 [] rfl (fun _ => hg) ?_; rintro r rfl; conv => whnf)
   refine ⟨i64r (by omega), ?_⟩
   conv => whnf
   refine ⟨0 + 1, le_selH [] ?_, hlt, by omega⟩
   conv => whnf
   rw [e]
   repeat' constructor
 ·rw [decide_eq_false (show ¬ (j : Int) < l.length by omega)]
  rw [show j = l.length by omega, List.take_length] at hsz ⊢
  conv => whnf
  refine ⟨by show (cmF _).size + pSemi.size ≤ maxLen; unfold maxLen; omega, ?_⟩
  conv => whnf
  rfl
end Go.Proofs.YtmodkpibkkpcdaaGreatDoor.Vm
namespace Go.Proofs.YtmodkpibkkpcdaaGreatDoor.Vm
open Go.RowKit Go.Shelf
set_option linter.unusedSimpArgs false
set_option linter.unusedVariables false
set_option maxRecDepth 100000
def ordSt (id : Nat) : Tr := match Nat.beq id 3 with | true => .q 0 3 (.q 1 0 (.q 2 3 (.q 3 0 (.q 4 3 (.alt 5 1 (.alt 6 1 (.alt 7 1 (.q 8 3 (.nil)) (.nil)) (.nil)) (.nil)))))) | false => match Nat.beq id 5 with | true => .q 0 3 (.q 1 0 (.q 2 3 (.q 3 0 (.q 4 3 (.q 6 3 (.q 7 0 (.q 8 3 (.q 9 0 (.q 10 3 (.alt 5 1 (.alt 11 1 (.alt 12 1 (.alt 13 1 (.q 14 3 (.nil)) (.nil)) (.nil)) (.nil)) (.nil))))))))))) | false => match Nat.beq id 7 with | true => .q 0 3 (.q 1 0 (.q 2 3 (.q 3 0 (.q 4 3 (.q 6 3 (.q 7 0 (.q 9 3 (.q 10 0 (.q 11 3 (.q 12 3 (.alt 5 1 (.alt 8 1 (.alt 13 1 (.alt 14 1 (.alt 15 1 (.q 16 3 (.nil)) (.nil)) (.nil)) (.nil)) (.nil)) (.nil)))))))))))) | false => match Nat.beq id 20 with | true => .q 0 3 (.q 1 0 (.q 2 3 (.q 3 0 (.q 4 3 (.q 6 3 (.q 7 0 (.q 8 3 (.q 9 0 (.q 10 3 (.alt 5 1 (.alt 11 1 (.alt 12 1 (.alt 13 1 (.q 14 3 (.nil)) (.nil)) (.nil)) (.nil)) (.nil))))))))))) | false => .nil
def syncB : ByteArray := ⟨#[115, 121, 110, 99, 59]⟩
def stopB : ByteArray := ⟨#[115, 116, 111, 112, 59]⟩
def kid (l : List Nt) (i : Nat) : Nt := l.getD i (.mk 0 0 eB [])
def stB (full : Bool) (k n : Int) (s : ByteArray) (kids : List Nt) (bks : List ByteArray) : ByteArray :=
 if k = 1 then allF [s, pEq, listN full kids]
 else if k = 3 then allF [wWhile, shN full (kid kids 0) 1, bks.getD 1 eB]
 else if k = 4 then allF [wSend, shN full (kid kids 0) 1, pComma, bs (decS n.toNat), pComma, listN full (kids.drop 1)]
 else if k = 5 then allF [wTimer, bs (decS n.toNat), pSemi]
 else if k = 6 then allF [wCancel, bs (decS n.toNat), pSemi]
 else if k = 7 then syncB
 else if k = 10 then stopB
 else if k = 8 then allF [wReply, listN full kids]
 else if k = 9 then allF [wFail, listN full kids]
 else if 0 < (kid kids 2).kids.length then allF [allF [wIf, shN full (kid kids 0) 1, bks.getD 1 eB], wElse, bks.getD 2 eB] else allF [wIf, shN full (kid kids 0) 1, bks.getD 1 eB]
mutual
def stP (full : Bool) : Nt → ByteArray
 | .mk k n s kids => stB full k n s kids (bksP full kids)
def bkP (full : Bool) : Nt → ByteArray
 | .mk _ _ _ kids => (stsP full kids).foldl glueF pLb ++ pRb
def stsP (full : Bool) : List Nt → List ByteArray
 | [] => []
 | f :: l => stP full f :: stsP full l
def bksP (full : Bool) : List Nt → List ByteArray
 | [] => []
 | f :: l => bkP full f :: bksP full l
end
def ST (full : Bool) (m : Nat) (f : Nt) : Prop := (stP full f).size ≤ m ∧ Spec Tryz.prog 90 [] [.agg (ntA f), boolA full] fun _ r => r = strA (stP full f)
def BK (full : Bool) (m : Nat) (f : Nt) : Prop := (bkP full f).size ≤ m ∧ Spec Tryz.prog 55 [] [.agg (ntA f), boolA full] fun _ r => r = strA (bkP full f)
theorem rowN3 (f g h : Nt) : rowOf 4 0 (ntsA [f, g, h]) = ntA f ∧ rowOf 4 1 (ntsA [f, g, h]) = ntA g ∧ rowOf 4 2 (ntsA [f, g, h]) = ntA h := ⟨rowOf_nts [f, g, h] 0 (by simp), rowOf_nts [f, g, h] 1 (by simp), rowOf_nts [f, g, h] 2 (by simp)⟩
theorem st_one (full : Bool) (k : Int) (hk : k = 1 ∨ k = 8 ∨ k = 9) (s : ByteArray) (hs : s.size ≤ 12) (m : Nat) (hm : m ≤ 1000000) (l : List Nt) (hl : l.length ≤ 2) (hf : ∀ f ∈ l, SH full m f) : ST full (2 * m + 40) (.mk k 0 s l) := by
 obtain ⟨hz, hsp⟩ := list_spec full m hm l (by omega) hf
 have hlm : l.length * (m + 2) ≤ 2 * (m + 2) := Nat.mul_le_mul_right _ hl
 have c1 : pEq.size = 1 := rfl
 have c2 : wReply.size = 5 := rfl
 have c3 : wFail.size = 4 := rfl
 rcases hk with rfl | rfl | rfl
 ·have e : stP full (.mk 1 0 s l) = allF [s, pEq, listN full l] := rfl
  unfold ST
  rw [e]
  generalize listN full l = x at *
  have ht : tsz [s, pEq, x] ≤ 2 * m + 40 := by
   simp only [tsz_cons]
   have a0 : tsz [] = 0 := rfl
   omega
  have hal := all_spec [s, pEq, x] (by omega)
  have hsz := allF_size [s, pEq, x]
  refine ⟨by omega, ?_⟩
  refine spec_of (cx_ok ordSt xs0 0) (fun _ _ h => h) Tryz.func90 rfl (by kernel_rfl) rfl (by kernel_rfl) ?_
  intro hok
  conv => whnf
  (refine call0 [] rfl (fun _ => hsp) ?_; rintro r rfl; conv => whnf)
  (refine call0 [0] rfl (fun _ => hal) ?_; rintro r rfl; conv => whnf)
  rfl
 ·have e : stP full (.mk 8 0 s l) = allF [wReply, listN full l] := rfl
  unfold ST
  rw [e]
  generalize listN full l = x at *
  have ht : tsz [wReply, x] ≤ 2 * m + 40 := by
   simp only [tsz_cons]
   have a0 : tsz [] = 0 := rfl
   omega
  have hal := all_spec [wReply, x] (by omega)
  have hsz := allF_size [wReply, x]
  refine ⟨by omega, ?_⟩
  refine spec_of (cx_ok ordSt xs0 0) (fun _ _ h => h) Tryz.func90 rfl (by kernel_rfl) rfl (by kernel_rfl) ?_
  intro hok
  conv => whnf
  (refine call0 [] rfl (fun _ => hsp) ?_; rintro r rfl; conv => whnf)
  (refine call0 [0] rfl (fun _ => hal) ?_; rintro r rfl; conv => whnf)
  rfl
 ·have e : stP full (.mk 9 0 s l) = allF [wFail, listN full l] := rfl
  unfold ST
  rw [e]
  generalize listN full l = x at *
  have ht : tsz [wFail, x] ≤ 2 * m + 40 := by
   simp only [tsz_cons]
   have a0 : tsz [] = 0 := rfl
   omega
  have hal := all_spec [wFail, x] (by omega)
  have hsz := allF_size [wFail, x]
  refine ⟨by omega, ?_⟩
  refine spec_of (cx_ok ordSt xs0 0) (fun _ _ h => h) Tryz.func90 rfl (by kernel_rfl) rfl (by kernel_rfl) ?_
  intro hok
  conv => whnf
  (refine call0 [] rfl (fun _ => hsp) ?_; rintro r rfl; conv => whnf)
  (refine call0 [0] rfl (fun _ => hal) ?_; rintro r rfl; conv => whnf)
  rfl
theorem st_num (full : Bool) (k : Int) (hk : k = 5 ∨ k = 6) (n : Nat) (hn : n < 1000) : ST full 40 (.mk k n eB []) := by
 have hdc := decimal_spec n (by omega)
 have hds := decS_size n (by omega)
 have c1 : pSemi.size = 1 := rfl
 have c2 : wTimer.size = 5 := rfl
 have c3 : wCancel.size = 6 := rfl
 rcases hk with rfl | rfl
 ·have e : stP full (.mk 5 n eB []) = allF [wTimer, bs (decS n), pSemi] := rfl
  unfold ST
  rw [e]
  generalize bs (decS n) = x at *
  have ht : tsz [wTimer, x, pSemi] ≤ 40 := by
   simp only [tsz_cons]
   have a0 : tsz [] = 0 := rfl
   omega
  have hal := all_spec [wTimer, x, pSemi] (by omega)
  have hsz := allF_size [wTimer, x, pSemi]
  refine ⟨by omega, ?_⟩
  refine spec_of (cx_ok ordSt xs0 0) (fun _ _ h => h) Tryz.func90 rfl (by kernel_rfl) rfl (by kernel_rfl) ?_
  intro hok
  conv => whnf
  (refine call0 [] rfl (fun _ => hdc) ?_; rintro r rfl; conv => whnf)
  (refine call0 [0] rfl (fun _ => hal) ?_; rintro r rfl; conv => whnf)
  rfl
 ·have e : stP full (.mk 6 n eB []) = allF [wCancel, bs (decS n), pSemi] := rfl
  unfold ST
  rw [e]
  generalize bs (decS n) = x at *
  have ht : tsz [wCancel, x, pSemi] ≤ 40 := by
   simp only [tsz_cons]
   have a0 : tsz [] = 0 := rfl
   omega
  have hal := all_spec [wCancel, x, pSemi] (by omega)
  have hsz := allF_size [wCancel, x, pSemi]
  refine ⟨by omega, ?_⟩
  refine spec_of (cx_ok ordSt xs0 0) (fun _ _ h => h) Tryz.func90 rfl (by kernel_rfl) rfl (by kernel_rfl) ?_
  intro hok
  conv => whnf
  (refine call0 [] rfl (fun _ => hdc) ?_; rintro r rfl; conv => whnf)
  (refine call0 [0] rfl (fun _ => hal) ?_; rintro r rfl; conv => whnf)
  rfl
theorem st_wrd (full : Bool) (k : Int) (hk : k = 7 ∨ k = 10) : ST full 40 (.mk k 0 eB []) := by
 rcases hk with rfl | rfl
 ·refine ⟨show syncB.size ≤ 40 by decide, ?_⟩
  refine spec_of (cx_ok ordSt xs0 0) (fun _ _ h => h) Tryz.func90 rfl (by kernel_rfl) rfl (by kernel_rfl) ?_
  intro hok
  conv => whnf
  rfl
 ·refine ⟨show stopB.size ≤ 40 by decide, ?_⟩
  refine spec_of (cx_ok ordSt xs0 0) (fun _ _ h => h) Tryz.func90 rfl (by kernel_rfl) rfl (by kernel_rfl) ?_
  intro hok
  conv => whnf
  rfl
theorem st_snd (full : Bool) (n : Nat) (hn : n < 1000) (m : Nat) (hm : m ≤ 1000000) (f g h : Nt) (hf : SH full m f) (hg : SH full m g) (hh : SH full m h) : ST full (3 * m + 80) (.mk 4 n eB [f, g, h]) := by
 obtain ⟨hz, hsp2⟩ := list_spec full m hm [g, h] (by simp) (fun x hx => by
  simp only [List.mem_cons, List.not_mem_nil, or_false] at hx
  rcases hx with rfl | rfl
  ·exact hg
  ·exact hh)
 obtain ⟨hs1, hsp⟩ := hf 1 (by decide) (by decide)
 have hdc := decimal_spec n (by omega)
 have hds := decS_size n (by omega)
 have c1 : pComma.size = 1 := rfl
 have c2 : wSend.size = 4 := rfl
 have c3 : [g, h].length = 2 := rfl
 have e : stP full (.mk 4 n eB [f, g, h]) = allF [wSend, shN full f 1, pComma, bs (decS n), pComma, listN full [g, h]] := rfl
 unfold ST
 rw [e]
 generalize listN full [g, h] = x at *
 generalize bs (decS n) = d at *
 generalize shN full f 1 = y at *
 rw [c3] at hz
 have ht : tsz [wSend, y, pComma, d, pComma, x] ≤ 3 * m + 80 := by
  simp only [tsz_cons]
  have a0 : tsz [] = 0 := rfl
  omega
 have hal := all_spec [wSend, y, pComma, d, pComma, x] (by omega)
 have hsz := allF_size [wSend, y, pComma, d, pComma, x]
 refine ⟨by omega, ?_⟩
 have hr := (rowN3 f g h).1
 have hdr : ((ntsA [f, g, h]).drop 4).take 8 = ntsA [g, h] := by
  rw [ntsA_cons f [g, h], List.drop_left' (by rfl), List.take_of_length_le (by rw [ntsA_len]; simp)]
 refine spec_of (cx_ok ordSt xs0 0) (fun _ _ h => h) Tryz.func90 rfl (by kernel_rfl) rfl (by kernel_rfl) ?_
 intro hok
 conv => whnf
 refine ⟨by simp [Nt.kids], ?_⟩
 conv => whnf
 (generalize hrq : rowOf _ _ (ntsA (Nt.mk 4 n eB [f, g, h]).kids) = rq; obtain rfl : rq = ntA f := hrq.symm.trans (hr); clear hrq; conv => whnf)
 refine ⟨by simp [Nt.kids], ?_⟩
 conv => whnf
 (refine call0 [] rfl (fun _ => hsp) ?_; rintro r rfl; conv => whnf)
 (refine call0 [] rfl (fun _ => hdc) ?_; rintro r rfl; conv => whnf)
 rw [← hdr] at hsp2
 (refine call0 [] rfl (fun _ => hsp2) ?_; rintro r rfl; conv => whnf)
 (refine call0 [0] rfl (fun _ => hal) ?_; rintro r rfl; conv => whnf)
 rfl
theorem st_whi (full : Bool) (m : Nat) (hm : m ≤ 100000000) (c b : Nt) (hc : SH full m c) (hb : BK full m b) : ST full (2 * m + 40) (.mk 3 0 eB [c, b]) := by
 obtain ⟨hs1, hsp⟩ := hc 1 (by decide) (by decide)
 obtain ⟨hs2, hsp2⟩ := hb
 have c2 : wWhile.size = 5 := rfl
 have e : stP full (.mk 3 0 eB [c, b]) = allF [wWhile, shN full c 1, bkP full b] := rfl
 unfold ST
 rw [e]
 generalize shN full c 1 = y at *
 generalize bkP full b = x at *
 have ht : tsz [wWhile, y, x] ≤ 2 * m + 40 := by
  simp only [tsz_cons]
  have a0 : tsz [] = 0 := rfl
  omega
 have hal := all_spec [wWhile, y, x] (by omega)
 have hsz := allF_size [wWhile, y, x]
 refine ⟨by omega, ?_⟩
 have hr := rowN20 c b
 have hr2 := rowN21 c b
 refine spec_of (cx_ok ordSt xs0 0) (fun _ _ h => h) Tryz.func90 rfl (by kernel_rfl) rfl (by kernel_rfl) ?_
 intro hok
 conv => whnf
 refine ⟨by simp [Nt.kids], ?_⟩
 conv => whnf
 (generalize hrq : rowOf _ _ (ntsA (Nt.mk 3 0 eB [c, b]).kids) = rq; obtain rfl : rq = ntA c := hrq.symm.trans (hr); clear hrq; conv => whnf)
 refine ⟨by simp [Nt.kids], ?_⟩
 conv => whnf
 (generalize hrq : rowOf _ _ (ntsA (Nt.mk 3 0 eB [c, b]).kids) = rq; obtain rfl : rq = ntA b := hrq.symm.trans (hr2); clear hrq; conv => whnf)
 (refine call0 [] rfl (fun _ => hsp) ?_; rintro r rfl; conv => whnf)
 (refine call0 [] rfl (fun _ => hsp2) ?_; rintro r rfl; conv => whnf)
 (refine call0 [0] rfl (fun _ => hal) ?_; rintro r rfl; conv => whnf)
 rfl
theorem st_iff (full : Bool) (m : Nat) (hm : m ≤ 50000000) (c b d : Nt) (hc : SH full m c) (hb : BK full m b) (hd : BK full m d) : ST full (3 * m + 60) (.mk 2 0 eB [c, b, d]) := by
 obtain ⟨hs1, hsp⟩ := hc 1 (by decide) (by decide)
 obtain ⟨hs2, hsp2⟩ := hb
 obtain ⟨hs3, hsp3⟩ := hd
 have c2 : wIf.size = 2 := rfl
 have c3 : wElse.size = 4 := rfl
 have e : stP full (.mk 2 0 eB [c, b, d]) = if 0 < d.kids.length then allF [allF [wIf, shN full c 1, bkP full b], wElse, bkP full d] else allF [wIf, shN full c 1, bkP full b] := rfl
 unfold ST
 rw [e]
 generalize shN full c 1 = y at *
 generalize bkP full b = x at *
 generalize bkP full d = z at *
 have ht : tsz [wIf, y, x] ≤ 2 * m + 10 := by
  simp only [tsz_cons]
  have a0 : tsz [] = 0 := rfl
  omega
 have hal := all_spec [wIf, y, x] (by omega)
 have hsz := allF_size [wIf, y, x]
 generalize allF [wIf, y, x] = v at *
 have ht2 : tsz [v, wElse, z] ≤ 3 * m + 30 := by
  simp only [tsz_cons]
  have a0 : tsz [] = 0 := rfl
  omega
 have hal2 := all_spec [v, wElse, z] (by omega)
 have hsz2 := allF_size [v, wElse, z]
 refine ⟨by split <;> omega, ?_⟩
 obtain ⟨hr, hr2, hr3⟩ := rowN3 c b d
 by_cases hl : 0 < d.kids.length
 ·rw [if_pos hl]
  refine spec_of (cx_ok ordSt xs0 0) (fun _ _ h => h) Tryz.func90 rfl (by kernel_rfl) rfl (by kernel_rfl) ?_
  intro hok
  conv => whnf
  refine ⟨by simp [Nt.kids], ?_⟩
  conv => whnf
  (generalize hrq : rowOf _ _ (ntsA (Nt.mk 2 0 eB [c, b, d]).kids) = rq; obtain rfl : rq = ntA c := hrq.symm.trans (hr); clear hrq; conv => whnf)
  refine ⟨by simp [Nt.kids], ?_⟩
  conv => whnf
  (generalize hrq : rowOf _ _ (ntsA (Nt.mk 2 0 eB [c, b, d]).kids) = rq; obtain rfl : rq = ntA b := hrq.symm.trans (hr2); clear hrq; conv => whnf)
  (refine call0 [] rfl (fun _ => hsp) ?_; rintro r rfl; conv => whnf)
  (refine call0 [] rfl (fun _ => hsp2) ?_; rintro r rfl; conv => whnf)
  (refine call0 [0] rfl (fun _ => hal) ?_; rintro r rfl; conv => whnf)
  refine ⟨by simp [Nt.kids], ?_⟩
  conv => whnf
  (generalize hrq : rowOf _ _ (ntsA (Nt.mk 2 0 eB [c, b, d]).kids) = rq; obtain rfl : rq = ntA d := hrq.symm.trans (hr3); clear hrq; conv => whnf)
  rw [decide_eq_true (show 0 < (d.kids.length : Int) by omega)]
  conv => whnf
  refine ⟨by simp [Nt.kids], ?_⟩
  conv => whnf
  (generalize hrq : rowOf _ _ (ntsA (Nt.mk 2 0 eB [c, b, d]).kids) = rq; obtain rfl : rq = ntA d := hrq.symm.trans (hr3); clear hrq; conv => whnf)
  (refine call0 [] rfl (fun _ => hsp3) ?_; rintro r rfl; conv => whnf)
  (refine call0 [1] rfl (fun _ => hal2) ?_; rintro r rfl; conv => whnf)
  rfl
 ·rw [if_neg hl]
  refine spec_of (cx_ok ordSt xs0 0) (fun _ _ h => h) Tryz.func90 rfl (by kernel_rfl) rfl (by kernel_rfl) ?_
  intro hok
  conv => whnf
  refine ⟨by simp [Nt.kids], ?_⟩
  conv => whnf
  (generalize hrq : rowOf _ _ (ntsA (Nt.mk 2 0 eB [c, b, d]).kids) = rq; obtain rfl : rq = ntA c := hrq.symm.trans (hr); clear hrq; conv => whnf)
  refine ⟨by simp [Nt.kids], ?_⟩
  conv => whnf
  (generalize hrq : rowOf _ _ (ntsA (Nt.mk 2 0 eB [c, b, d]).kids) = rq; obtain rfl : rq = ntA b := hrq.symm.trans (hr2); clear hrq; conv => whnf)
  (refine call0 [] rfl (fun _ => hsp) ?_; rintro r rfl; conv => whnf)
  (refine call0 [] rfl (fun _ => hsp2) ?_; rintro r rfl; conv => whnf)
  (refine call0 [0] rfl (fun _ => hal) ?_; rintro r rfl; conv => whnf)
  refine ⟨by simp [Nt.kids], ?_⟩
  conv => whnf
  (generalize hrq : rowOf _ _ (ntsA (Nt.mk 2 0 eB [c, b, d]).kids) = rq; obtain rfl : rq = ntA d := hrq.symm.trans (hr3); clear hrq; conv => whnf)
  rw [decide_eq_false (show ¬ 0 < (d.kids.length : Int) by omega)]
  conv => whnf
  rfl
end Go.Proofs.YtmodkpibkkpcdaaGreatDoor.Vm
namespace Go.Proofs.YtmodkpibkkpcdaaGreatDoor.Vm
open Go.RowKit Go.Shelf
set_option linter.unusedSimpArgs false
set_option linter.unusedVariables false
set_option maxRecDepth 100000
theorem stsP_map (full : Bool) : ∀ l : List Nt, stsP full l = l.map (stP full)
 | [] => rfl
 | f :: l => by rw [stsP, stsP_map full l]; rfl
def bkL (full : Bool) (l : List Nt) : ByteArray := (l.map (stP full)).foldl glueF pLb
theorem bkL_snoc (full : Bool) (l : List Nt) (f : Nt) : bkL full (l ++ [f]) = glueF (bkL full l) (stP full f) := by
 unfold bkL
 rw [List.map_append, List.foldl_append]; rfl
theorem bkP_eq (full : Bool) (k n : Int) (s : ByteArray) (l : List Nt) : bkP full (.mk k n s l) = bkL full l ++ pRb := by
 rw [bkP, stsP_map]; rfl
set_option maxHeartbeats 1000000 in
theorem bk_spec (full : Bool) (m : Nat) (hm : m ≤ 1000000) (l : List Nt) (hl : l.length ≤ 3) (hf : ∀ f ∈ l, ST full m f) : BK full (3 * m + 10) (blkN l) := by
 have hsz : ∀ j, j ≤ l.length → (bkL full (l.take j)).size ≤ j * (m + 1) + 1 := fun j hj => by
  induction j with
  | zero =>
   have : pLb.size = 1 := rfl
   rw [List.take_zero]
   show pLb.size ≤ _
   omega
  | succ j ih =>
   have := ih (by omega)
   rw [List.take_succ_eq_append_getElem (by omega), bkL_snoc, Nat.succ_mul]
   have h1 := (hf (l[j]'(by omega)) (List.getElem_mem _)).1
   have h2 := glue_size (bkL full (l.take j)) (stP full (l[j]'(by omega)))
   omega
 have e1 : pRb.size = 1 := rfl
 have hlm : l.length * (m + 1) ≤ 3 * (m + 1) := Nat.mul_le_mul_right _ hl
 unfold BK blkN
 rw [bkP_eq]
 refine ⟨?_, ?_⟩
 ·rw [ByteArray.size_append]
  have := hsz l.length (Nat.le_refl _)
  rw [List.take_length] at this
  omega
 refine spec_of (cx_ok ord0 xs0 0) (fun _ _ h => h) Tryz.func55 rfl (by kernel_rfl) rfl (by kernel_rfl) ?_
 intro _
 conv => whnf
 refine loop_keep [1, 2] ?_
 conv => whnf
 refine loop_go (fun j : Nat => [(5, strA (bkL full (l.take j))), (6, .v (.int .i64 j))]) (fun _ => [[intA 11, intA 0, strA eB, .sl 4 l.length (ntsA l)]]) (fun _ => []) (fun j => j ≤ l.length) (fun j => l.length - j) 0 ?_ (Nat.zero_le _) ?_
 ·repeat' constructor
 intro j hj
 have hs := hsz j hj
 have hjm : j * (m + 1) ≤ l.length * (m + 1) := Nat.mul_le_mul_right _ hj
 conv => whnf
 by_cases hlt : j < l.length
 ·rw [decide_eq_true (show (j : Int) < l.length by omega)]
  have hr := rowOf_nts l j hlt
  obtain ⟨hs1, hsp⟩ := hf l[j] (List.getElem_mem hlt)
  have e : bkL full (l.take (j + 1)) = glueF (bkL full (l.take j)) (stP full l[j]) := by rw [List.take_succ_eq_append_getElem hlt, bkL_snoc]
  generalize l[j] = f at *
  have hg := glue_spec (bkL full (l.take j)) (stP full f) (by omega) (by omega)
  conv => whnf
  refine ⟨by omega, ?_⟩
  conv => whnf
  (generalize hrq : rowOf _ _ (ntsA l) = rq; obtain rfl : rq = ntA f := hrq.symm.trans (hr); clear hrq; conv => whnf)
  (refine call0 [] rfl (fun _ => hsp) ?_; rintro r rfl; conv => whnf)
  (refine call0 [] rfl (fun _ => hg) ?_; rintro r rfl; conv => whnf)
  refine ⟨i64r (by omega), ?_⟩
  conv => whnf
  refine ⟨j + 1, le_selH [] ?_, hlt, by omega⟩
  conv => whnf
  rw [e]
  repeat' constructor
 ·rw [decide_eq_false (show ¬ (j : Int) < l.length by omega)]
  rw [show j = l.length by omega, List.take_length] at hs ⊢
  conv => whnf
  refine ⟨by show (bkL full l).size + pRb.size ≤ maxLen; unfold maxLen; omega, ?_⟩
  conv => whnf
  rfl
def cS : Nat → Nat
 | 0 => 900
 | d + 1 => 700 + 3 * (3 * cS d + 10)
theorem ST.mono {full : Bool} {m m' : Nat} {f : Nt} (h : ST full m f) (hm : m ≤ m') : ST full m' f := ⟨Nat.le_trans h.1 hm, h.2⟩
theorem BK.mono {full : Bool} {m m' : Nat} {f : Nt} (h : BK full m f) (hm : m ≤ m') : BK full m' f := ⟨Nat.le_trans h.1 hm, h.2⟩
theorem cS_ge : ∀ d, 900 ≤ cS d
 | 0 => Nat.le_refl _
 | d + 1 => by have := cS_ge d; unfold cS; omega
theorem st_es (full : Bool) {d : Nat} {f : Nt} (h : ES d f) : cS d ≤ 1000000 → ST full (cS d) f := by
 have i0 : cI 0 = 14 := rfl
 have i1 : cI 1 = 48 := rfl
 have i2 : cI 2 = 116 := rfl
 have i3 : cI 3 = 252 := rfl
 have hI : ∀ {e : Nat} {f : Nt}, EI e f → e ≤ 2 → SH full 252 f := fun {e f} h he => by
  rcases (by omega : e = 0 ∨ e = 1 ∨ e = 2) with rfl | rfl | rfl
  ·exact (sh_ei full h (by decide)).mono (by decide)
  ·exact (sh_ei full h (by decide)).mono (by decide)
  ·exact (sh_ei full h (by decide)).mono (by decide)
 have hB : ∀ {e : Nat} {f : Nt}, EB e f → e = 1 ∨ e = 2 → SH full 252 f := fun {e f} h he => by
  rcases he with rfl | rfl
  ·exact (sh_eb full h (by decide)).mono (by decide)
  ·exact (sh_eb full h (by decide)).mono (by decide)
 have one : ∀ {f : Nt}, SH full 252 f → ∀ x ∈ [f], SH full 252 x := fun {f} h x hx => by rw [List.mem_singleton.1 hx]; exact h
 have two : ∀ {f g : Nt}, SH full 252 f → SH full 252 g → ∀ x ∈ [f, g], SH full 252 x := fun {f g} h k x hx => by
  rcases List.mem_cons.1 hx with rfl | hx
  ·exact h
  ·rw [List.mem_singleton.1 hx]; exact k
 induction h with
 | asg d e s f hs h he => exact fun _ => (st_one full 1 (.inl rfl) s (varL_sz s hs) 252 (by decide) [f] (by simp) (one (hI h he))).mono (Nat.le_trans (by decide) (cS_ge d))
 | snd d n f g h hn h1 h2 h3 => exact fun _ => (st_snd full n (by omega) 252 (by decide) f g h (hI h1 (by decide)) (hI h2 (by decide)) (hI h3 (by decide))).mono (Nat.le_trans (by decide) (cS_ge d))
 | tim d n hn => exact fun _ => (st_num full 5 (.inl rfl) n (by omega)).mono (Nat.le_trans (by decide) (cS_ge d))
 | can d n hn => exact fun _ => (st_num full 6 (.inr rfl) n (by omega)).mono (Nat.le_trans (by decide) (cS_ge d))
 | syn d => exact fun _ => (st_wrd full 7 (.inl rfl)).mono (Nat.le_trans (by decide) (cS_ge d))
 | rep d f g h1 h2 => exact fun _ => (st_one full 8 (.inr (.inl rfl)) eB (by decide) 252 (by decide) [f, g] (by simp) (two (hI h1 (by decide)) (hI h2 (by decide)))).mono (Nat.le_trans (by decide) (cS_ge d))
 | fai d f h1 => exact fun _ => (st_one full 9 (.inr (.inr rfl)) eB (by decide) 252 (by decide) [f] (by simp) (one (hI h1 (by decide)))).mono (Nat.le_trans (by decide) (cS_ge d))
 | stp d => exact fun _ => (st_wrd full 10 (.inr rfl)).mono (Nat.le_trans (by decide) (cS_ge d))
 | whi d c l h1 h2 h3 ih =>
  intro hc
  have e : cS (d + 1) = 700 + 3 * (3 * cS d + 10) := rfl
  rw [e] at hc ⊢
  have hge := cS_ge d
  have hb := bk_spec full (cS d) (by omega) l (by omega) (fun s hs => ih s hs (by omega))
  exact (st_whi full (3 * cS d + 10) (by omega) c (blkN l) ((hB h1 (.inl rfl)).mono (by omega)) hb).mono (by omega)
 | iff d c l m h1 h2 h3 h4 h5 ih1 ih2 =>
  intro hc
  have e : cS (d + 1) = 700 + 3 * (3 * cS d + 10) := rfl
  rw [e] at hc ⊢
  have hge := cS_ge d
  have hb := bk_spec full (cS d) (by omega) l (by omega) (fun s hs => ih1 s hs (by omega))
  have hb2 := bk_spec full (cS d) (by omega) m (by omega) (fun s hs => ih2 s hs (by omega))
  exact (st_iff full (3 * cS d + 10) (by omega) c (blkN l) (blkN m) ((hB h1 (.inr rfl)).mono (by omega)) hb hb2).mono (by omega)
theorem bk_ek (full : Bool) {b : Nt} (h : EK b) : BK full 300000 b := by
 obtain ⟨k, rfl, h1, h2⟩ := h
 have e2 : cS 2 = 80200 := rfl
 exact (bk_spec full (cS 2) (by omega) k h1 (fun s hs => st_es full (h2 s hs) (by omega))).mono (by omega)
end Go.Proofs.YtmodkpibkkpcdaaGreatDoor.Vm
namespace Go.Proofs.YtmodkpibkkpcdaaGreatDoor.Vm
open Go.RowKit Go.Shelf
set_option linter.unusedSimpArgs false
set_option linter.unusedVariables false
set_option maxRecDepth 100000
def wMsgS : ByteArray := ⟨#[109, 101, 115, 115, 97, 103, 101, 32]⟩
def wTimS : ByteArray := ⟨#[116, 105, 109, 101, 114, 32]⟩
def hdW (n : Int) : ByteArray := if n = 1 then wRequest else if 10 ≤ n then wMsgS ++ bs (decS (n - 10).toNat) else if 2 ≤ n then wTimS ++ bs (decS (n - 2).toNat) else wStart
def hdN (full : Bool) (h : Int × Nt) : ByteArray := allF [wOn, hdW h.1, bkP full h.2]
def HN (full : Bool) (h : Int × Nt) : Prop := (hdN full h).size ≤ 400000 ∧ Spec Tryz.prog 32 [] [.agg (hnA h), boolA full] fun _ r => r = strA (hdN full h)
theorem hd_spec (full : Bool) (h : Int × Nt) (hn : 0 ≤ h.1 ∧ h.1 < 40) (hb : BK full 300000 h.2) : HN full h := by
 obtain ⟨hs1, hsp⟩ := hb
 have hw : (hdW h.1).size ≤ 20 := by
  unfold hdW
  have a1 : wRequest.size = 7 := rfl
  have a2 : wMsgS.size = 8 := rfl
  have a3 : wTimS.size = 6 := rfl
  have a4 : wStart.size = 5 := rfl
  have d1 := decS_size (h.1 - 10).toNat (by omega)
  have d2 := decS_size (h.1 - 2).toNat (by omega)
  repeat' split
  all_goals (try simp only [ByteArray.size_append]); omega
 have ht : tsz [wOn, hdW h.1, bkP full h.2] ≤ 350000 := by
  simp only [tsz_cons]
  have a0 : tsz [] = 0 := rfl
  have a1 : wOn.size = 2 := rfl
  omega
 have hal := all_spec [wOn, hdW h.1, bkP full h.2] (by omega)
 have hsz := allF_size [wOn, hdW h.1, bkP full h.2]
 unfold HN hdN
 refine ⟨by omega, ?_⟩
 generalize bkP full h.2 = x at *
 obtain ⟨R, hR⟩ : ∃ R, hdW h.1 = R := ⟨_, rfl⟩
 rw [hR] at hal hsz ht hw ⊢
 unfold hdW at hR
 have b2 : wMsgS.size = 8 := rfl
 have b3 : wTimS.size = 6 := rfl
 refine spec_of (cx_ok ord0 xs0 0) (fun _ _ h => h) Tryz.func32 rfl (by kernel_rfl) rfl (by kernel_rfl) ?_
 intro _
 conv => whnf
 by_cases h1 : h.1 = 1
 ·rw [if_pos h1] at hR
  subst hR
  rw [decide_eq_true h1]
  conv => whnf
  (refine call0 [] rfl (fun _ => hsp) ?_; rintro r rfl; conv => whnf)
  (refine call0 [0] rfl (fun _ => hal) ?_; rintro r rfl; conv => whnf)
  rfl
 rw [if_neg h1] at hR
 rw [decide_eq_false h1]
 conv => whnf
 by_cases h10 : 10 ≤ h.1
 ·rw [if_pos h10] at hR
  have hdc := decimal_spec (h.1 - 10).toNat (by omega)
  have d1 := decS_size (h.1 - 10).toNat (by omega)
  rw [show (((h.1 - 10).toNat : Nat) : Int) = h.1 - 10 by omega] at hdc
  generalize bs (decS (h.1 - 10).toNat) = d at *
  subst hR
  rw [decide_eq_true h10]
  conv => whnf
  refine ⟨i64r (by omega), ?_⟩
  conv => whnf
  (refine call0 [] rfl (fun _ => hdc) ?_; rintro r rfl; conv => whnf)
  refine ⟨by show wMsgS.size + d.size ≤ maxLen; unfold maxLen; omega, ?_⟩
  conv => whnf
  (refine call0 [] rfl (fun _ => hsp) ?_; rintro r rfl; conv => whnf)
  (refine call0 [0] rfl (fun _ => hal) ?_; rintro r rfl; conv => whnf)
  rfl
 rw [if_neg h10] at hR
 rw [decide_eq_false h10]
 conv => whnf
 by_cases h2 : 2 ≤ h.1
 ·rw [if_pos h2] at hR
  have hdc := decimal_spec (h.1 - 2).toNat (by omega)
  have d1 := decS_size (h.1 - 2).toNat (by omega)
  rw [show (((h.1 - 2).toNat : Nat) : Int) = h.1 - 2 by omega] at hdc
  generalize bs (decS (h.1 - 2).toNat) = d at *
  subst hR
  rw [decide_eq_true h2]
  conv => whnf
  refine ⟨i64r (by omega), ?_⟩
  conv => whnf
  (refine call0 [] rfl (fun _ => hdc) ?_; rintro r rfl; conv => whnf)
  refine ⟨by show wTimS.size + d.size ≤ maxLen; unfold maxLen; omega, ?_⟩
  conv => whnf
  (refine call0 [] rfl (fun _ => hsp) ?_; rintro r rfl; conv => whnf)
  (refine call0 [0] rfl (fun _ => hal) ?_; rintro r rfl; conv => whnf)
  rfl
 rw [if_neg h2] at hR
 subst hR
 rw [decide_eq_false h2]
 conv => whnf
 (refine call0 [] rfl (fun _ => hsp) ?_; rintro r rfl; conv => whnf)
 (refine call0 [0] rfl (fun _ => hal) ?_; rintro r rfl; conv => whnf)
 rfl
def naF (l : List ByteArray) : ByteArray := match l with
 | [] => eB
 | x :: l => l.foldl (fun a y => a ++ pComma ++ y) (eB ++ x)
theorem naF_snoc (x : ByteArray) (l : List ByteArray) (y : ByteArray) : naF (x :: l ++ [y]) = naF (x :: l) ++ pComma ++ y := by
 unfold naF
 show (l ++ [y]).foldl _ _ = _
 rw [List.foldl_append]; rfl
theorem naF_step (l : List ByteArray) (j : Nat) (h : j < l.length) : naF (l.take (j + 1)) = (if 0 < j then naF (l.take j) ++ pComma else naF (l.take j)) ++ l[j] := by
 rw [List.take_succ_eq_append_getElem h]
 by_cases h0 : 0 < j
 ·rw [if_pos h0]
  cases hq : l.take j with
  | nil =>
   have := congrArg List.length hq
   rw [List.length_take, List.length_nil] at this
   omega
  | cons a b => exact naF_snoc _ _ _
 ·rw [if_neg h0]
  obtain rfl : j = 0 := by omega
  rfl
theorem naF_size (l : List ByteArray) (hs : ∀ x ∈ l, x.size ≤ 100) : ∀ j, j ≤ l.length → (naF (l.take j)).size ≤ j * 101
 | 0, _ => by rw [List.take_zero]; exact Nat.zero_le _
 | j + 1, h => by
  have ih := naF_size l hs j (by omega)
  have := hs _ (List.getElem_mem (show j < l.length by omega))
  have e1 : pComma.size = 1 := rfl
  rw [naF_step l j (by omega), ByteArray.size_append]
  split
  ·rw [ByteArray.size_append]; omega
  ·omega
def spB : ByteArray := ⟨#[32]⟩
def nmF (w : ByteArray) (l : List ByteArray) : ByteArray := if naF l = ⟨#[]⟩ then ⟨#[]⟩ else w ++ spB ++ naF l ++ pSemi
theorem nmF_size (w : ByteArray) (l : List ByteArray) (hl : l.length ≤ 20) (hs : ∀ x ∈ l, x.size ≤ 100) (hw : w.size ≤ 20) : (nmF w l).size ≤ 2100 := by
 have h := naF_size l hs l.length (Nat.le_refl _)
 rw [List.take_length] at h
 have a1 : spB.size = 1 := rfl
 have a2 : pSemi.size = 1 := rfl
 unfold nmF
 split
 ·exact (by decide : (⟨#[]⟩ : ByteArray).size ≤ 2100)
 ·simp only [ByteArray.size_append]; omega
theorem names_spec (w : ByteArray) (l : List ByteArray) (hl : l.length ≤ 20) (hs : ∀ x ∈ l, x.size ≤ 100) (hw : w.size ≤ 20) : Spec Tryz.prog 33 [] [strA w, .sl 1 l.length (txA l)] fun _ r => r = strA (nmF w l) := by
 unfold nmF
 have a1 : spB.size = 1 := rfl
 have a2 : pSemi.size = 1 := rfl
 have a3 : pComma.size = 1 := rfl
 refine spec_of (cx_ok ord0 xs0 0) (fun _ _ h => h) Tryz.func33 rfl (by kernel_rfl) rfl (by kernel_rfl) ?_
 intro _
 conv => whnf
 refine loop_keep [0, 1] ?_
 conv => whnf
 refine loop_go (fun j : Nat => [(5, strA (naF (l.take j))), (6, .v (.int .i64 j))]) (fun _ => []) (fun _ => []) (fun j => j ≤ l.length) (fun j => l.length - j) 0 ?_ (Nat.zero_le _) ?_
 ·repeat' constructor
 intro j hj
 have hsz := naF_size l hs j hj
 conv => whnf
 by_cases hlt : j < l.length
 ·rw [decide_eq_true (show (j : Int) < l.length by omega)]
  have hr : rowOf 1 j (txA l) = [strA l[j]] := rowOf_map strA l j hlt
  have hx := hs _ (List.getElem_mem hlt)
  have e := naF_step l j hlt
  generalize l[j] = x at *
  conv => whnf
  by_cases h0 : 0 < j
  ·rw [decide_eq_true (show 0 < (j : Int) by omega)]
   rw [if_pos h0] at e
   generalize naF (l.take j) = a at *
   conv => whnf
   refine ⟨by show a.size + pComma.size ≤ maxLen; unfold maxLen; omega, ?_⟩
   conv => whnf
   refine ⟨by omega, ?_⟩
   conv => whnf
   (generalize hrq : rowOf _ _ (txA l) = rq; obtain rfl : rq = [strA x] := hrq.symm.trans (hr); clear hrq; conv => whnf)
   refine ⟨by show (a ++ pComma).size + x.size ≤ maxLen; rw [ByteArray.size_append]; unfold maxLen; omega, ?_⟩
   conv => whnf
   refine ⟨i64r (by omega), ?_⟩
   conv => whnf
   refine ⟨j + 1, le_selH [] ?_, hlt, by omega⟩
   conv => whnf
   rw [e]
   repeat' constructor
  ·rw [decide_eq_false (show ¬ 0 < (j : Int) by omega)]
   rw [if_neg h0] at e
   generalize naF (l.take j) = a at *
   conv => whnf
   refine ⟨by omega, ?_⟩
   conv => whnf
   (generalize hrq : rowOf _ _ (txA l) = rq; obtain rfl : rq = [strA x] := hrq.symm.trans (hr); clear hrq; conv => whnf)
   refine ⟨by show a.size + x.size ≤ maxLen; unfold maxLen; omega, ?_⟩
   conv => whnf
   refine ⟨i64r (by omega), ?_⟩
   conv => whnf
   refine ⟨j + 1, le_selH [] ?_, hlt, by omega⟩
   conv => whnf
   rw [e]
   repeat' constructor
 ·rw [decide_eq_false (show ¬ (j : Int) < l.length by omega)]
  rw [show j = l.length by omega, List.take_length] at hsz ⊢
  generalize naF l = a at *
  conv => whnf
  by_cases he : a = ⟨#[]⟩
  ·rw [if_pos he, decide_eq_true he]
   conv => whnf
   rfl
  ·rw [if_neg he, decide_eq_false he]
   conv => whnf
   refine ⟨by show w.size + spB.size ≤ maxLen; unfold maxLen; omega, ?_⟩
   conv => whnf
   refine ⟨by show (w ++ spB).size + a.size ≤ maxLen; rw [ByteArray.size_append]; unfold maxLen; omega, ?_⟩
   conv => whnf
   refine ⟨by show (w ++ spB ++ a).size + pSemi.size ≤ maxLen; rw [ByteArray.size_append, ByteArray.size_append]; unfold maxLen; omega, ?_⟩
   conv => whnf
   rfl
end Go.Proofs.YtmodkpibkkpcdaaGreatDoor.Vm
namespace Go.Proofs.YtmodkpibkkpcdaaGreatDoor.Vm
open Go.RowKit Go.Shelf
set_option linter.unusedSimpArgs false
set_option linter.unusedVariables false
set_option maxRecDepth 100000
def hdsF (full : Bool) (a : ByteArray) (l : List (Int × Nt)) : ByteArray := l.foldl (fun a h => glueF a (hdN full h)) a
theorem hdsF_snoc (full : Bool) (a : ByteArray) (l : List (Int × Nt)) (h : Int × Nt) : hdsF full a (l ++ [h]) = glueF (hdsF full a l) (hdN full h) := by
 unfold hdsF; rw [List.foldl_append]; rfl
theorem hdsF_size (full : Bool) (a : ByteArray) (l : List (Int × Nt)) (hl : ∀ h ∈ l, (hdN full h).size ≤ 400000) : (hdsF full a l).size ≤ a.size + l.length * 400001 := by
 induction l generalizing a with
 | nil => exact Nat.le_add_right _ _
 | cons h l ih =>
  have h1 := ih (glueF a (hdN full h)) (fun x hx => hl x (List.mem_cons_of_mem _ hx))
  have h2 := glue_size a (hdN full h)
  have h3 := hl h List.mem_cons_self
  have e : hdsF full a (h :: l) = hdsF full (glueF a (hdN full h)) l := rfl
  rw [e, List.length_cons, Nat.succ_mul]
  omega
def prF (u : Ut) : ByteArray := hdsF false (nmF wDurable u.du ++ nmF wVolatile u.vo) u.on
def loF (u : Ut) : ByteArray := hdsF true (nmF wVolatile u.vo ++ nmF wDurable u.du) u.on.reverse
structure PU6 (u : Ut) : Prop where
 du : u.du.length ≤ 20 ∧ ∀ x ∈ u.du, x.size ≤ 100
 vo : u.vo.length ≤ 20 ∧ ∀ x ∈ u.vo, x.size ≤ 100
 on : u.on.length ≤ 4
 hd : ∀ full, ∀ h ∈ u.on, HN full h
theorem GU.pu {u : Ut} (h : GU u) : PU6 u := by
 obtain ⟨h1, h2, h3, h4, h5⟩ := h
 refine ⟨by rw [h1]; decide, by rw [h2]; decide, by omega, fun full x hx => ?_⟩
 obtain ⟨g1, g2, g3⟩ := h3 x hx
 exact hd_spec full x ⟨g1, g2⟩ (bk_ek full g3)
def ordPt (id : Nat) : Tr := match Nat.beq id 1 with | true => .q 0 3 (.q 1 0 (.q 3 3 (.q 4 0 (.alt 2 1 (.alt 5 1 (.q 6 3 (.q 7 3 (.nil))) (.nil)) (.nil))))) | false => .nil
theorem rprint {u : Ut} (h : PU6 u) : Spec Tryz.prog 12 [] [.agg (utA u)] fun _ r => r = strA (prF u) := by
 have t1 := names_spec wDurable u.du h.du.1 h.du.2 (by decide)
 have t2 := names_spec wVolatile u.vo h.vo.1 h.vo.2 (by decide)
 have n1 := nmF_size wDurable u.du h.du.1 h.du.2 (by decide)
 have n2 := nmF_size wVolatile u.vo h.vo.1 h.vo.2 (by decide)
 have hh := h.hd false
 have ho := h.on
 unfold prF
 generalize nmF wDurable u.du = x at *
 generalize nmF wVolatile u.vo = y at *
 have hsz : ∀ j, (hdsF false (x ++ y) (u.on.take j)).size ≤ 2000000 := fun j => by
  have s1 := hdsF_size false (x ++ y) (u.on.take j) (fun z hz => (hh z (List.mem_of_mem_take hz)).1)
  rw [ByteArray.size_append] at s1
  have hm : (u.on.take j).length * 400001 ≤ 4 * 400001 := Nat.mul_le_mul_right _ (by rw [List.length_take]; omega)
  omega
 refine spec_of (cx_ok ordPt xs0 0) (fun _ _ h => h) Tryz.func12 rfl (by kernel_rfl) rfl (by kernel_rfl) ?_
 intro _
 conv => whnf
 (refine call0 [] rfl (fun _ => t1) ?_; rintro r rfl; conv => whnf)
 (refine call0 [] rfl (fun _ => t2) ?_; rintro r rfl; conv => whnf)
 refine ⟨by show x.size + y.size ≤ maxLen; unfold maxLen; omega, ?_⟩
 conv => whnf
 refine loop_keep [1] ?_
 conv => whnf
 refine loop_go (fun j : Nat => [(3, strA (hdsF false (x ++ y) (u.on.take j))), (4, .v (.int .i64 j))]) (fun _ => [utA u]) (fun _ => []) (fun j => j ≤ u.on.length) (fun j => u.on.length - j) 0 ?_ (Nat.zero_le _) ?_
 ·repeat' constructor
 intro j hj
 have hs := hsz j
 conv => whnf
 by_cases hlt : j < u.on.length
 ·rw [decide_eq_true (show (j : Int) < u.on.length by omega)]
  have hr := rowOf_hns u.on j hlt
  obtain ⟨hs1, hsp⟩ := hh u.on[j] (List.getElem_mem hlt)
  have e : hdsF false (x ++ y) (u.on.take (j + 1)) = glueF (hdsF false (x ++ y) (u.on.take j)) (hdN false u.on[j]) := by rw [List.take_succ_eq_append_getElem hlt, hdsF_snoc]
  generalize u.on[j] = f at *
  have hg := glue_spec (hdsF false (x ++ y) (u.on.take j)) (hdN false f) (by omega) (by omega)
  conv => whnf
  refine ⟨by omega, ?_⟩
  conv => whnf
  (generalize hrq : rowOf _ _ (hnsA u.on) = rq; obtain rfl : rq = hnA f := hrq.symm.trans (hr); clear hrq; conv => whnf)
  (refine call0 [] rfl (fun _ => hsp) ?_; rintro r rfl; conv => whnf)
  (refine call0 [] rfl (fun _ => hg) ?_; rintro r rfl; conv => whnf)
  refine ⟨i64r (by omega), ?_⟩
  conv => whnf
  refine ⟨j + 1, le_selH [] ?_, hlt, by omega⟩
  conv => whnf
  rw [e]
  repeat' constructor
 ·rw [decide_eq_false (show ¬ (j : Int) < u.on.length by omega)]
  conv => whnf
  rw [show j = u.on.length by omega, List.take_length]
  rfl
theorem rloose {u : Ut} (h : PU6 u) : Spec Tryz.prog 17 [] [.agg (utA u)] fun _ r => r = strA (loF u) := by
 have t1 := names_spec wDurable u.du h.du.1 h.du.2 (by decide)
 have t2 := names_spec wVolatile u.vo h.vo.1 h.vo.2 (by decide)
 have n1 := nmF_size wDurable u.du h.du.1 h.du.2 (by decide)
 have n2 := nmF_size wVolatile u.vo h.vo.1 h.vo.2 (by decide)
 have hh := h.hd true
 have ho := h.on
 unfold loF
 generalize nmF wDurable u.du = x at *
 generalize nmF wVolatile u.vo = y at *
 have hsz : ∀ j, (hdsF true (y ++ x) (u.on.drop j).reverse).size ≤ 2000000 := fun j => by
  have s1 := hdsF_size true (y ++ x) (u.on.drop j).reverse (fun z hz => (hh z (List.mem_of_mem_drop (List.mem_reverse.1 hz))).1)
  rw [ByteArray.size_append, List.length_reverse, List.length_drop] at s1
  have hm : (u.on.length - j) * 400001 ≤ 4 * 400001 := Nat.mul_le_mul_right _ (by omega)
  omega
 refine spec_of (cx_ok ordPt xs0 0) (fun _ _ h => h) Tryz.func17 rfl (by kernel_rfl) rfl (by kernel_rfl) ?_
 intro _
 conv => whnf
 (refine call0 [] rfl (fun _ => t2) ?_; rintro r rfl; conv => whnf)
 (refine call0 [] rfl (fun _ => t1) ?_; rintro r rfl; conv => whnf)
 refine ⟨by show y.size + x.size ≤ maxLen; unfold maxLen; omega, ?_⟩
 conv => whnf
 refine ⟨i64r (by omega), ?_⟩
 conv => whnf
 refine loop_keep [1] ?_
 conv => whnf
 refine loop_go (fun q : Nat × ByteArray => [(3, strA q.2), (4, .v (.int .i64 ((q.1 : Int) - 1)))]) (fun _ => [utA u]) (fun _ => []) (fun q => q.1 ≤ u.on.length ∧ q.2 = hdsF true (y ++ x) (u.on.drop q.1).reverse) (fun q => q.1) (u.on.length, y ++ x) ?_ ⟨Nat.le_refl _, by simp only; rw [List.drop_length]; rfl⟩ ?_
 ·repeat' constructor
 rintro ⟨j, a⟩ ⟨hj, ha⟩
 simp only at hj ha
 have hs := hsz j
 rw [← ha] at hs
 conv => whnf
 by_cases hlt : 0 < j
 ·rw [decide_eq_true (show 0 ≤ (j : Int) - 1 by omega)]
  obtain ⟨k, rfl⟩ : ∃ k, j = k + 1 := ⟨j - 1, by omega⟩
  rw [show ((k + 1 : Nat) : Int) - 1 = (k : Int) by omega]
  have hr := rowOf_hns u.on k (by omega)
  obtain ⟨hs1, hsp⟩ := hh u.on[k] (List.getElem_mem (by omega))
  have e : hdsF true (y ++ x) (u.on.drop k).reverse = glueF (hdsF true (y ++ x) (u.on.drop (k + 1)).reverse) (hdN true u.on[k]) := by rw [List.drop_eq_getElem_cons (by omega : k < u.on.length), List.reverse_cons, hdsF_snoc]
  generalize u.on[k] = f at *
  rw [← ha] at e
  have hg := glue_spec a (hdN true f) (by omega) (by omega)
  conv => whnf
  refine ⟨by omega, ?_⟩
  conv => whnf
  (generalize hrq : rowOf _ _ (hnsA u.on) = rq; obtain rfl : rq = hnA f := hrq.symm.trans (hr); clear hrq; conv => whnf)
  (refine call0 [] rfl (fun _ => hsp) ?_; rintro r rfl; conv => whnf)
  (refine call0 [] rfl (fun _ => hg) ?_; rintro r rfl; conv => whnf)
  refine ⟨i64r (by omega), ?_⟩
  conv => whnf
  refine ⟨(k, glueF a (hdN true f)), le_selH [] ?_, ⟨by simp only; omega, e.symm⟩, by simp only; omega⟩
  conv => whnf
  repeat' constructor
 ·obtain rfl : j = 0 := by omega
  conv => whnf
  rw [ha]
  rfl
end Go.Proofs.YtmodkpibkkpcdaaGreatDoor.Vm
namespace Go.Proofs.YtmodkpibkkpcdaaGreatDoor.Vm
open Go.RowKit Go.Shelf
set_option linter.unusedSimpArgs false
set_option linter.unusedVariables false
set_option maxRecDepth 100000
end Go.Proofs.YtmodkpibkkpcdaaGreatDoor.Vm
namespace Go.Proofs.YtmodkpibkkpcdaaGreatDoor.Vm
open Go.RowKit Go.Shelf
set_option linter.unusedSimpArgs false
set_option linter.unusedVariables false
set_option maxRecDepth 100000
def gapF (a b : ByteArray) : ByteArray := if a = ⟨#[]⟩ ∨ b = ⟨#[]⟩ ∨ isLD (lastB a) = false ∨ isLD (firstB b) = false then ⟨#[]⟩ else ⟨#[32]⟩
theorem ba_list {a b : ByteArray} (h : a.data.toList = b.data.toList) : a = b := ByteArray.ext (Array.toList_inj.1 h)
theorem ba_app (a b : ByteArray) : (a ++ b).data.toList = a.data.toList ++ b.data.toList := by simp
theorem ba_nil (a : ByteArray) : a ++ ⟨#[]⟩ = a := ba_list (by simp)
theorem nil_ba (a : ByteArray) : ⟨#[]⟩ ++ a = a := ba_list (by simp)
theorem ba_ne {a : ByteArray} : a ≠ ⟨#[]⟩ ↔ a.data.toList ≠ [] := by
 constructor
 ·intro h e; exact h (ba_list e)
 ·rintro h rfl; exact h rfl
theorem ba_assoc (a b c : ByteArray) : a ++ b ++ c = a ++ (b ++ c) := ba_list (by simp)
theorem glue_gap (a b : ByteArray) : glueF a b = a ++ gapF a b ++ b := by
 unfold glueF gapF
 split
 ·rename_i h; rw [if_pos (.inl h), ba_nil]
 split
 ·rename_i h; rw [if_pos (.inr (.inl h)), ba_nil]
 split
 ·rename_i h; rw [if_pos (.inr (.inr (.inl h))), ba_nil]
 split
 ·rename_i h; rw [if_pos (.inr (.inr (.inr h))), ba_nil]
 ·rename_i h1 h2 h3 h4
  rw [if_neg (by rintro (h | h | h | h) <;> contradiction)]
theorem app_ne_r {a b : ByteArray} (h : b ≠ ⟨#[]⟩) : a ++ b ≠ ⟨#[]⟩ := by
 rw [ba_ne] at h ⊢
 rw [ba_app]
 intro e
 exact h (List.append_eq_nil_iff.1 e).2
theorem app_ne_l {a b : ByteArray} (h : a ≠ ⟨#[]⟩) : a ++ b ≠ ⟨#[]⟩ := by
 rw [ba_ne] at h ⊢
 rw [ba_app]
 intro e
 exact h (List.append_eq_nil_iff.1 e).1
theorem sz_list (a : ByteArray) : a.size = a.data.toList.length := by rw [Array.length_toList]; rfl
theorem last_app_r (a : ByteArray) {b : ByteArray} (h : b ≠ ⟨#[]⟩) : lastB (a ++ b) = lastB b := by
 have hb := size_ne h
 unfold lastB
 rw [sz_list] at hb
 rw [sz_list, sz_list, ba_app, List.getD_eq_getElem?_getD, List.getD_eq_getElem?_getD, List.length_append, List.getElem?_append_right (by omega)]
 congr 2
 omega
theorem first_app_l {a : ByteArray} (b : ByteArray) (h : a ≠ ⟨#[]⟩) : firstB (a ++ b) = firstB a := by
 have ha := size_ne h
 unfold firstB
 rw [sz_list] at ha
 rw [ba_app, List.getD_eq_getElem?_getD, List.getD_eq_getElem?_getD, List.getElem?_append_left ha]
theorem glue_ne_r {a b : ByteArray} (h : b ≠ ⟨#[]⟩) : glueF a b ≠ ⟨#[]⟩ := by rw [glue_gap]; exact app_ne_r h
theorem glue_ne_l {a b : ByteArray} (h : a ≠ ⟨#[]⟩) : glueF a b ≠ ⟨#[]⟩ := by rw [glue_gap, ba_assoc]; exact app_ne_l h
theorem glue_assoc (a b c : ByteArray) (hb : b ≠ ⟨#[]⟩) : glueF (glueF a b) c = glueF a (glueF b c) := by
 have e1 : gapF (glueF a b) c = gapF b c := by
  have h1 : lastB (glueF a b) = lastB b := by rw [glue_gap]; exact last_app_r _ hb
  unfold gapF
  rw [h1]
  simp only [glue_ne_r (a := a) hb, hb, false_or]
 have e2 : gapF a (glueF b c) = gapF a b := by
  have h1 : firstB (glueF b c) = firstB b := by rw [glue_gap, ba_assoc]; exact first_app_l _ hb
  unfold gapF
  rw [h1]
  simp only [glue_ne_l (b := c) hb, hb, false_or]
 rw [glue_gap (glueF a b) c, e1, glue_gap a (glueF b c), e2, glue_gap a b, glue_gap b c]
 simp only [ba_assoc]
theorem glue_sym_r (a b : ByteArray) (h : isLD (firstB b) = false) : glueF a b = a ++ b := by
 rw [glue_gap]
 unfold gapF
 rw [if_pos (.inr (.inr (.inr h))), ba_nil]
theorem glue_sym_l (a b : ByteArray) (h : isLD (lastB a) = false) : glueF a b = a ++ b := by
 rw [glue_gap]
 unfold gapF
 rw [if_pos (.inr (.inr (.inl h))), ba_nil]
end Go.Proofs.YtmodkpibkkpcdaaGreatDoor.Vm
namespace Go.Proofs.YtmodkpibkkpcdaaGreatDoor.Vm
open Go.RowKit
set_option linter.unusedSimpArgs false
set_option linter.unusedVariables false
structure SpecRD (P : Program) (f : Nat) (ins : List (List A)) (e k n : Nat) (cs args : List A) (post : List (List A) → Nat → List A → A → Prop) : Prop where
 r : SpecR P f ins e k n cs args post
 d : ∀ u, SpecXR (ClD P f u u) ins e k n cs args post fun _ => False
section
variable {c : Cx} {s : S}
end
section
variable {c : Cx} {P : Program} {np : Nat} {pt : List (Nat × List A) → List PanicEntry → S → Prop} {qt : List (Nat × List A) → Exit → S → Prop} {dr : List (Nat × List A)} {s : S}
end
end Go.Proofs.YtmodkpibkkpcdaaGreatDoor.Vm
namespace Go.Proofs.YtmodkpibkkpcdaaGreatDoor.Vm
open Go.RowKit Go.Shelf
set_option linter.unusedSimpArgs false
set_option linter.unusedVariables false
set_option maxRecDepth 100000
def PrT : Nat := 94
end Go.Proofs.YtmodkpibkkpcdaaGreatDoor.Vm
namespace Go.Proofs.YtmodkpibkkpcdaaGreatDoor.Vm
open Go.RowKit Go.Shelf
set_option linter.unusedSimpArgs false
set_option linter.unusedVariables false
set_option maxRecDepth 100000
end Go.Proofs.YtmodkpibkkpcdaaGreatDoor.Vm
namespace Go.Proofs.YtmodkpibkkpcdaaGreatDoor.Vm
open Go.RowKit Go.Shelf
set_option linter.unusedSimpArgs false
set_option linter.unusedVariables false
set_option maxRecDepth 100000
theorem glue_eB (s : ByteArray) : glueF s eB = s := by rw [glue_gap, show gapF s eB = eB by unfold gapF; rw [if_pos (.inr (.inl rfl))]; rfl]; exact (ba_nil _).trans (ba_nil _)
theorem eB_glue (x : ByteArray) : glueF eB x = x := by unfold glueF; rw [if_pos (show eB = ⟨#[]⟩ from rfl)]; exact nil_ba x
theorem size_ne2 {x : ByteArray} (h : 0 < x.size) : x ≠ ⟨#[]⟩ := fun e => by rw [e] at h; exact absurd h (by decide)
def PX (m : Nat) (f : Nt) : Prop := SH false m f ∧ (∀ lv, 0 < (shN false f lv).size) ∧ ∀ (s : ByteArray) (lv : Int), 0 ≤ lv → lv ≤ 9 → s.size + m + 10 ≤ 500000000 → SpecB 121 [[.adr PrT, .own 0]] s [.box 0 0, .agg (ntA f), intA lv] fun o s' r => o = [[.adr PrT, .own 0]] ∧ s' = glueF s (shN false f lv) ∧ r = .tup []
theorem PX.mono {m m' : Nat} {f : Nt} (h : PX m f) (hm : m ≤ m') : PX m' f := ⟨h.1.mono hm, h.2.1, fun s lv h0 h9 hs => h.2.2 s lv h0 h9 (by omega)⟩
theorem decS_pos (n : Nat) : 0 < (bs (decS n)).size := by
 show 0 < (decS n).length
 unfold decS
 split
 ·decide
 ·rw [decD_pos (by assumption)]; simp
end Go.Proofs.YtmodkpibkkpcdaaGreatDoor.Vm
namespace Go.Proofs.YtmodkpibkkpcdaaGreatDoor.Vm
open Go.RowKit Go.Shelf
set_option linter.unusedSimpArgs false
set_option linter.unusedVariables false
set_option maxRecDepth 100000
end Go.Proofs.YtmodkpibkkpcdaaGreatDoor.Vm
namespace Go.Proofs.YtmodkpibkkpcdaaGreatDoor.Vm
open Go.RowKit Go.Shelf
set_option linter.unusedSimpArgs false
set_option linter.unusedVariables false
set_option maxRecDepth 100000
end Go.Proofs.YtmodkpibkkpcdaaGreatDoor.Vm
namespace Go.Proofs.YtmodkpibkkpcdaaGreatDoor.Vm
open Go.RowKit Go.Shelf
set_option linter.unusedSimpArgs false
set_option linter.unusedVariables false
set_option maxRecDepth 100000
end Go.Proofs.YtmodkpibkkpcdaaGreatDoor.Vm
namespace Go.Proofs.YtmodkpibkkpcdaaGreatDoor.Vm
open Go.RowKit Go.Shelf
set_option linter.unusedSimpArgs false
set_option linter.unusedVariables false
set_option maxRecDepth 100000
def PT (m : Nat) (f : Nt) : Prop := ST false m f ∧ 0 < (stP false f).size ∧ ∀ s : ByteArray, s.size + m + 100 ≤ 250000000 → SpecB 89 [[.adr PrT, .own 0]] s [.box 0 0, .agg (ntA f)] fun o s' r => o = [[.adr PrT, .own 0]] ∧ s' = glueF s (stP false f) ∧ r = .tup []
def PB (m : Nat) (f : Nt) : Prop := BK false m f ∧ 0 < (bkP false f).size ∧ ∀ s : ByteArray, s.size + m + 100 ≤ 250000000 → SpecB 52 [[.adr PrT, .own 0]] s [.box 0 0, .agg (ntA f)] fun o s' r => o = [[.adr PrT, .own 0]] ∧ s' = glueF s (bkP false f) ∧ r = .tup []
theorem PT.mono {m m' : Nat} {f : Nt} (h : PT m f) (hm : m ≤ m') : PT m' f := ⟨⟨Nat.le_trans h.1.1 hm, h.1.2⟩, h.2.1, fun s hs => h.2.2 s (by omega)⟩
theorem PB.mono {m m' : Nat} {f : Nt} (h : PB m f) (hm : m ≤ m') : PB m' f := ⟨⟨Nat.le_trans h.1.1 hm, h.1.2⟩, h.2.1, fun s hs => h.2.2 s (by omega)⟩
end Go.Proofs.YtmodkpibkkpcdaaGreatDoor.Vm
namespace Go.Proofs.YtmodkpibkkpcdaaGreatDoor.Vm
open Go.RowKit Go.Shelf
set_option linter.unusedSimpArgs false
set_option linter.unusedVariables false
set_option maxRecDepth 100000
end Go.Proofs.YtmodkpibkkpcdaaGreatDoor.Vm
namespace Go.Proofs.YtmodkpibkkpcdaaGreatDoor.Vm
open Go.RowKit Go.Shelf
set_option linter.unusedSimpArgs false
set_option linter.unusedVariables false
set_option maxRecDepth 100000
theorem dig_ld : ∀ k < 10, isLD (UInt8.ofNat (48 + k)) = true := by decide
theorem decD_first : ∀ (n : Nat), n ≠ 0 → ∃ c l, decD n = c :: l ∧ isLD c = true := fun n => by
 induction n using Nat.strongRecOn with
 | _ n ih =>
  intro h
  rw [decD_pos h]
  by_cases h0 : n / 10 = 0
  ·rw [h0, decD_zero]
   exact ⟨_, _, rfl, dig_ld _ (Nat.mod_lt _ (by decide))⟩
  ·obtain ⟨c, l, e, hc⟩ := ih (n / 10) (by omega) h0
   rw [e]
   exact ⟨c, _, rfl, hc⟩
theorem decS_first (n : Nat) : isLD (firstB (bs (decS n))) = true := by
 unfold decS
 split
 ·decide
 ·obtain ⟨c, l, e, hc⟩ := decD_first n (by assumption)
  rw [e]
  exact hc
theorem glue_dec (w : ByteArray) (hw : w ≠ ⟨#[]⟩) (hl : isLD (lastB w) = true) (n : Nat) : glueF w (bs (decS n)) = w ++ ⟨#[32]⟩ ++ bs (decS n) := by
 have h1 := size_ne2 (decS_pos n)
 have h2 := decS_first n
 unfold glueF
 rw [if_neg hw, if_neg h1, if_neg (by rw [hl]; decide), if_neg (by rw [h2]; decide)]
end Go.Proofs.YtmodkpibkkpcdaaGreatDoor.Vm
namespace Go.Proofs.YtmodkpibkkpcdaaGreatDoor.Vm
open Go.RowKit Go.Shelf
set_option linter.unusedSimpArgs false
set_option linter.unusedVariables false
set_option maxRecDepth 100000
end Go.Proofs.YtmodkpibkkpcdaaGreatDoor.Vm
namespace Go.Proofs.YtmodkpibkkpcdaaGreatDoor.Vm
open Go.RowKit Go.Shelf
set_option linter.unusedSimpArgs false
set_option linter.unusedVariables false
set_option maxRecDepth 100000
def pT2 : ByteArray := nmF wDurable duL ++ nmF wVolatile voL
end Go.Proofs.YtmodkpibkkpcdaaGreatDoor.Vm
namespace Go.Proofs.YtmodkpibkkpcdaaGreatDoor.Vm
open Go.RowKit Go.Shelf
set_option linter.unusedSimpArgs false
set_option linter.unusedVariables false
set_option maxRecDepth 100000
end Go.Proofs.YtmodkpibkkpcdaaGreatDoor.Vm
namespace Go.Proofs.YtmodkpibkkpcdaaGreatDoor.Vm
open Go.RowKit Go.Shelf
set_option linter.unusedSimpArgs false
set_option linter.unusedVariables false
set_option maxRecDepth 100000
def horner : Int → List UInt8 → Int
 | n, [] => n
 | n, c :: r => horner (10 * n + (c.toNat : Int) - 48) r
theorem dig_rng {c : UInt8} (h : isD c = true) : 48 ≤ (c.toNat : Int) ∧ (c.toNat : Int) ≤ 57 := by
 unfold isD at h
 simp only [Bool.and_eq_true, decide_eq_true_eq] at h
 exact h
theorem horner_ge : ∀ (l : List UInt8) (n : Int), 0 ≤ n → (∀ c ∈ l, isD c = true) → n ≤ horner n l
 | [], n, _, _ => Int.le_refl n
 | c :: r, n, h0, h => by
  have hc := dig_rng (h c (by simp))
  have := horner_ge r (10 * n + (c.toNat : Int) - 48) (by omega) (fun c hc => h c (by simp [hc]))
  show n ≤ horner (10 * n + (c.toNat : Int) - 48) r
  omega
theorem valF_horner : ∀ (l : List UInt8) (n : Int), 0 ≤ n → n ≤ 2147483647 → (∀ c ∈ l, isD c = true) → valF n l = if 2147483647 < horner n l then -1 else horner n l
 | [], n, _, h, _ => by
  show n = if 2147483647 < n then -1 else n
  rw [if_neg (by omega)]
 | c :: r, n, h0, h1, h => by
  have hc := dig_rng (h c (by simp))
  have hr : ∀ c ∈ r, isD c = true := fun c hc => h c (by simp [hc])
  show (if 2147483647 < 10 * n + (c.toNat : Int) - 48 then -1 else valF (10 * n + (c.toNat : Int) - 48) r) = if 2147483647 < horner (10 * n + (c.toNat : Int) - 48) r then -1 else horner (10 * n + (c.toNat : Int) - 48) r
  have hg := horner_ge r (10 * n + (c.toNat : Int) - 48) (by omega) hr
  by_cases hx : 2147483647 < 10 * n + (c.toNat : Int) - 48
  ·rw [if_pos hx, if_pos (by omega)]
  ·rw [if_neg hx, valF_horner r _ (by omega) (by omega) hr]
theorem horner_app : ∀ (l m : List UInt8) (n : Int), horner n (l ++ m) = horner (horner n l) m
 | [], m, n => rfl
 | c :: r, m, n => horner_app r m _
theorem dig_nat (n : Nat) : ((UInt8.ofNat (48 + n % 10)).toNat : Int) = 48 + n % 10 := by
 rw [UInt8.toNat_ofNat']; omega
theorem decD_isD : ∀ (f n : Nat), n ≤ f → ∀ c ∈ decD n, isD c = true
 | f, 0, _, c, hc => by rw [decD_zero] at hc; cases hc
 | 0, n + 1, h, _, _ => by omega
 | f + 1, n + 1, h, c, hc => by
  rw [decD_pos (by omega)] at hc
  rcases List.mem_append.1 hc with hc | hc
  ·exact decD_isD f ((n + 1) / 10) (by omega) c hc
  ·obtain rfl := List.mem_singleton.1 hc
   unfold isD
   rw [dig_nat]
   simp only [Bool.and_eq_true, decide_eq_true_eq]
   omega
theorem decD_val : ∀ (f n : Nat), n ≤ f → horner 0 (decD n) = n
 | f, 0, _ => by rw [decD_zero]; rfl
 | 0, n + 1, h => by omega
 | f + 1, n + 1, h => by
  rw [decD_pos (by omega), horner_app, decD_val f ((n + 1) / 10) (by omega)]
  show 10 * (((n + 1) / 10 : Nat) : Int) + ((UInt8.ofNat (48 + (n + 1) % 10)).toNat : Int) - 48 = _
  rw [dig_nat]; omega
theorem decS_isD (n : Nat) : ∀ c ∈ decS n, isD c = true := by
 unfold decS
 split
 ·intro c hc; obtain rfl := List.mem_singleton.1 hc; decide
 ·exact decD_isD n n (Nat.le_refl _)
theorem decS_val (n : Nat) : horner 0 (decS n) = n := by
 unfold decS
 split
 ·rename_i h; subst h; rfl
 ·exact decD_val n n (Nat.le_refl _)
theorem decS_ne (n : Nat) : decS n ≠ [] := by
 unfold decS
 split
 ·simp
 ·rename_i h; rw [decD_pos h]; simp
structure Co where
 kind : Int
 text : List UInt8
 n : Int
def core (t : Tk) : Co := ⟨t.kind, t.text.data.toList, t.n⟩
def glR : List Co → ByteArray
 | [] => ⟨#[]⟩
 | x :: l => glueF (bs x.text) (glR l)
def safeT (x : List UInt8) : Bool := !(decide (x = [60]) || decide (x = [62]) || decide (x = [61]) || decide (x = [33]))
def okN (x : List UInt8) (y : UInt8) : Prop := (isLD (lastB (bs x)) = true → isLD y = false) ∧ (safeT x = false → y ≠ 61)
structure LexT (c : Co) : Prop where
 ne : c.text ≠ []
 st : ∀ y r, c.text = y :: r → isHash y = false ∧ isSp y = false
 go : ∀ rest, (∀ y r, rest = y :: r → okN c.text y) → tokF (c.text ++ rest) = .tok c.kind c.text.length c.n
def Fine : Bool → List Co → Prop
 | _, [] => True
 | b, c :: l => (b = false → firstB (bs c.text) ≠ 61) ∧ Fine (safeT c.text) l
theorem Fine.more {b : Bool} : ∀ {l : List Co}, Fine false l → Fine b l
 | [], _ => trivial
 | c :: l, h => ⟨fun _ => h.1 rfl, h.2⟩
theorem Fine.app : ∀ {l m : List Co} {b : Bool}, Fine b l → Fine false m → Fine b (l ++ m)
 | [], m, b, _, h => h.more
 | c :: l, m, b, h, k => ⟨h.1, h.2.app k⟩
def EndS : List Co → Prop
 | [] => False
 | [c] => safeT c.text = true
 | _ :: l => EndS l
theorem Fine.app2 : ∀ {l m : List Co} {b : Bool}, Fine b l → EndS l → Fine true m → Fine b (l ++ m)
 | [], m, b, _, h, _ => h.elim
 | [c], m, b, h, e, k => ⟨h.1, by rw [show safeT c.text = true from e]; exact k⟩
 | c :: d :: l, m, b, h, e, k => ⟨h.1, Fine.app2 (l := d :: l) h.2 e k⟩
theorem EndS.app : ∀ {l m : List Co}, EndS m → EndS (l ++ m)
 | [], m, h => h
 | [c], m, h => by
  cases m with
  | nil => exact h.elim
  | cons d m => exact h
 | c :: d :: l, m, h => EndS.app (l := d :: l) h
theorem bs_ne {l : List UInt8} (h : l ≠ []) : bs l ≠ ⟨#[]⟩ := by
 rw [ba_ne, bs_list]; exact h
theorem glR_ne {c : Co} {l : List Co} (h : c.text ≠ []) : glR (c :: l) ≠ ⟨#[]⟩ := glue_ne_l (bs_ne h)
theorem glR_first {c : Co} {l : List Co} (h : c.text ≠ []) : firstB (glR (c :: l)) = firstB (bs c.text) := by
 show firstB (glueF _ _) = _
 rw [glue_gap, ba_assoc]; exact first_app_l _ (bs_ne h)
theorem lex_tok {c : Co} (h : LexT c) (p : Nat) (rest : List UInt8) (hr : ∀ y r, rest = y :: r → okN c.text y) : lexL p (c.text ++ rest) = Lx.cons ⟨c.kind, p, bs c.text, c.n⟩ (lexL (p + c.text.length) rest) := by
 obtain ⟨h1, h2, h3⟩ := h
 have h3 := h3 rest hr
 cases hc : c.text with
 | nil => exact absurd hc h1
 | cons y r =>
  obtain ⟨g1, g2⟩ := h2 y r hc
  rw [hc] at h3
  have e := lexL_tok (p := p) g1 g2 (r := r ++ rest) h3
  rw [show y :: r ++ rest = y :: (r ++ rest) from rfl, e]
  congr 2
  ·congr 1
   rw [show y :: (r ++ rest) = (y :: r) ++ rest from rfl, List.take_left']
   rfl
  ·rw [show y :: (r ++ rest) = (y :: r) ++ rest from rfl, List.drop_left']
   rfl
theorem lex_glR : ∀ (l : List Co) (b : Bool) (p : Nat), (∀ c ∈ l, LexT c) → Fine b l → ∃ ts, lexL p (glR l).data.toList = ⟨ts, none⟩ ∧ ts.map core = l
 | [], b, p, _, _ => ⟨[], rfl, rfl⟩
 | c :: l, b, p, hl, hf => by
  have hc := hl c List.mem_cons_self
  have step : ∀ q, ∃ ts, lexL q (glR l).data.toList = ⟨ts, none⟩ ∧ ts.map core = l := fun q => lex_glR l _ q (fun d hd => hl d (List.mem_cons_of_mem _ hd)) hf.2
  have e : (glR (c :: l)).data.toList = c.text ++ ((gapF (bs c.text) (glR l)).data.toList ++ (glR l).data.toList) := by
   show (glueF _ _).data.toList = _
   rw [glue_gap, ba_app, ba_app, bs_list, List.append_assoc]
  have hg : gapF (bs c.text) (glR l) = ⟨#[]⟩ ∨ (gapF (bs c.text) (glR l) = ⟨#[32]⟩) := by
   unfold gapF; split; exact .inl rfl; exact .inr rfl
  have fin : ∀ ts : List Tk, ts.map core = l → (⟨c.kind, p, bs c.text, c.n⟩ :: ts : List Tk).map core = c :: l := fun ts h => by
   rw [List.map_cons, h]
   rfl
  rcases hg with hg | hg
  ·obtain ⟨ts, h1, h2⟩ := step (p + c.text.length)
   refine ⟨⟨c.kind, p, bs c.text, c.n⟩ :: ts, ?_, fin ts h2⟩
   rw [e, hg]
   rw [show ((⟨#[]⟩ : ByteArray).data.toList ++ (glR l).data.toList) = (glR l).data.toList from rfl]
   rw [lex_tok hc p _ fun y r hy => ?_, h1]
   ·rfl
   ·cases l with
    | nil => cases hy
    | cons d l =>
     have hd := (hl d (by simp)).ne
     have hfy : firstB (glR (d :: l)) = y := by unfold firstB; rw [hy]; rfl
     rw [glR_first hd] at hfy
     refine ⟨fun hx => ?_, fun hx => ?_⟩
     ·unfold gapF at hg
      split at hg
      ·rename_i hh
       rcases hh with hh | hh | hh | hh
       ·exact absurd hh (bs_ne hc.ne)
       ·exact absurd hh (glR_ne hd)
       ·rw [hx] at hh; cases hh
       ·rw [glR_first hd, hfy] at hh; exact hh
      ·exact absurd hg (by decide)
     ·rw [← hfy]; exact hf.2.1 hx
  ·obtain ⟨ts, h1, h2⟩ := step (p + c.text.length + 1)
   refine ⟨⟨c.kind, p, bs c.text, c.n⟩ :: ts, ?_, fin ts h2⟩
   rw [e, hg]
   rw [show ((⟨#[32]⟩ : ByteArray).data.toList ++ (glR l).data.toList) = 32 :: (glR l).data.toList from rfl]
   rw [lex_tok hc p _ fun y r hy => ?_, lexL_sp (by decide) (by decide), h1]
   ·rfl
   ·cases hy
    exact ⟨fun _ => by decide, fun _ => by decide⟩
theorem glR_app : ∀ (l m : List Co), (∀ c ∈ l, c.text ≠ []) → (∀ c ∈ m, c.text ≠ []) → glR (l ++ m) = glueF (glR l) (glR m)
 | [], m, _, _ => by show glR m = glueF ⟨#[]⟩ _; unfold glueF; rw [if_pos rfl, nil_ba]
 | [c], m, _, _ => by
  show glueF (bs c.text) (glR m) = glueF (glueF (bs c.text) ⟨#[]⟩) (glR m)
  rw [show glueF (bs c.text) ⟨#[]⟩ = bs c.text by rw [glue_gap]; unfold gapF; rw [if_pos (.inr (.inl rfl)), ba_nil, ba_nil]]
 | c :: d :: l, m, h, k => by
  show glueF (bs c.text) (glR (d :: l ++ m)) = glueF (glueF (bs c.text) (glR (d :: l))) (glR m)
  rw [glR_app (d :: l) m (fun x hx => h x (List.mem_cons_of_mem _ hx)) k, glue_assoc _ _ _ (glR_ne (h d (by simp)))]
theorem span_stopped {q : UInt8 → Bool} : ∀ (r rest : List UInt8), (∀ c ∈ r, q c = true) → (∀ y t, rest = y :: t → q y = false) → spanN q (r ++ rest) = r.length
 | [], [], _, _ => rfl
 | [], y :: t, _, h => by
  show spanN q (y :: t) = 0
  unfold spanN; rw [h y t rfl]
 | c :: r, rest, h, k => by
  show spanN q (c :: (r ++ rest)) = _
  unfold spanN
  rw [h c List.mem_cons_self]
  show spanN q (r ++ rest) + 1 = _
  rw [span_stopped r rest (fun x hx => h x (List.mem_cons_of_mem _ hx)) k]; rfl
theorem lastB_mem {l : List UInt8} (h : l ≠ []) : lastB (bs l) ∈ l := by
 unfold lastB
 rw [bs_list, bs_size]
 have hl : l.length - 1 < l.length := by have := List.length_pos_iff.2 h; omega
 rw [List.getD_eq_getElem?_getD, List.getElem?_eq_getElem hl]
 exact List.getElem_mem hl
theorem isL_clean {y : UInt8} (h : isLD y = true) : isHash y = false ∧ isSp y = false := by
 have : ∀ c : Fin 256, isLD (UInt8.ofNat c.val) = true → isHash (UInt8.ofNat c.val) = false ∧ isSp (UInt8.ofNat c.val) = false := by decide +kernel
 have h2 := this ⟨y.toNat, y.toNat_lt⟩
 simp only [UInt8.ofNat_toNat] at h2
 exact h2 h
theorem lexT_word (c : UInt8) (r : List UInt8) (h1 : isL c = true) (h2 : ∀ x ∈ c :: r, isLD x = true) (h3 : r.length + 1 ≤ 10) : LexT ⟨1, c :: r, 0⟩ where
 ne := by simp
 st := fun y t e => by cases e; exact isL_clean (h2 _ List.mem_cons_self)
 go := fun rest hr => by
  show tokF (c :: (r ++ rest)) = .tok 1 (r.length + 1) 0
  rw [tokF]
  have hs : spanN isLD (r ++ rest) = r.length := span_stopped r rest (fun x hx => h2 x (List.mem_cons_of_mem _ hx)) fun y t e => (hr y t e).1 (h2 _ (lastB_mem (by simp)))
  rw [h1]
  simp only
  rw [hs, if_neg (by omega)]
theorem isD_LD {c : UInt8} (h : isD c = true) : isLD c = true ∧ isL c = false := by
 refine ⟨by unfold isLD; rw [h, Bool.or_true], ?_⟩
 have := dig_rng h
 unfold isL
 rw [decide_eq_false (by omega)]; rfl
theorem lexT_num (c : UInt8) (r : List UInt8) (h : ∀ x ∈ c :: r, isD x = true) (hv : horner 0 (c :: r) ≤ 2147483647) : LexT ⟨2, c :: r, horner 0 (c :: r)⟩ where
 ne := by simp
 st := fun y t e => by cases e; exact isL_clean (isD_LD (h _ List.mem_cons_self)).1
 go := fun rest hr => by
  show tokF (c :: (r ++ rest)) = .tok 2 (r.length + 1) _
  rw [tokF]
  have hs : spanN isD (r ++ rest) = r.length := span_stopped r rest (fun x hx => h x (List.mem_cons_of_mem _ hx)) fun y t e => by
   have := (hr y t e).1 (isD_LD (h _ (lastB_mem (by simp)))).1
   unfold isLD at this
   simp only [Bool.or_eq_false_iff] at this
   exact this.2
  have hc := isD_LD (h c List.mem_cons_self)
  have hvf := valF_horner (c :: r) 0 (by omega) (by omega) h
  rw [if_neg (by omega)] at hvf
  have hge := horner_ge (c :: r) 0 (by omega) h
  rw [hc.2, h c List.mem_cons_self]
  simp only
  rw [hs, List.take_left', hvf, if_neg (by omega)]
  rfl
theorem twos_snd {c y : UInt8} (h : hasF twos (bs [c, y]) = true) : y = 61 ∨ (c = 124 ∧ y = 124) ∨ (c = 38 ∧ y = 38) := by
 unfold hasF twos at h
 simp only [List.any_cons, List.any_nil, Bool.or_eq_true, decide_eq_true_eq, Bool.or_false] at h
 rcases h with h | h | h | h | h | h <;> (have := bs_inj h; simp at this; simp [← this.1, ← this.2])
def ones1 : List UInt8 := [40, 41, 33, 60, 62, 45, 43, 42, 47, 44, 59, 123, 125, 61]
theorem sym1_fit : ∀ c ∈ ones1, isHash c = false ∧ isSp c = false ∧ isL c = false ∧ isD c = false ∧ hasF ones (bs [c]) = true ∧ hasF twos (bs [c]) = false := by decide
theorem lexT_sym1 (c : UInt8) (hc : c ∈ ones1) : LexT ⟨3, [c], 0⟩ where
 ne := by simp
 st := fun y t e => by cases e; exact ⟨(sym1_fit c hc).1, (sym1_fit c hc).2.1⟩
 go := fun rest hr => by
  show tokF (c :: rest) = .tok 3 1 0
  obtain ⟨_, _, h1, h2, h3, h4⟩ := sym1_fit c hc
  have h5 : hasF twos (bs ((c :: rest).take 2)) = false := by
   cases rest with
   | nil => exact h4
   | cons y t =>
    show hasF twos (bs [c, y]) = false
    cases hq : hasF twos (bs [c, y]) with
    | false => rfl
    | true =>
     have hy := (hr y t rfl).2
     rcases twos_snd hq with h | ⟨h, -⟩ | ⟨h, -⟩
     ·subst h
      exfalso
      refine hy ?_ rfl
      have hall : ∀ c ∈ ones1, hasF twos (bs [c, 61]) = true → safeT [c] = false := by decide
      exact hall c hc hq
     ·subst h; exact absurd hc (by decide)
     ·subst h; exact absurd hc (by decide)
  rw [tokF]
  rw [h1, h2, h5, h3]
def twos2 : List (UInt8 × UInt8) := [(124, 124), (38, 38), (61, 61), (60, 61), (62, 61), (33, 61)]
theorem sym2_fit : ∀ q ∈ twos2, isHash q.1 = false ∧ isSp q.1 = false ∧ isL q.1 = false ∧ isD q.1 = false ∧ hasF twos (bs [q.1, q.2]) = true := by decide
theorem lexT_sym2 (c d : UInt8) (hc : (c, d) ∈ twos2) : LexT ⟨3, [c, d], 0⟩ where
 ne := by simp
 st := fun y t e => by cases e; exact ⟨(sym2_fit _ hc).1, (sym2_fit _ hc).2.1⟩
 go := fun rest hr => by
  show tokF (c :: d :: rest) = .tok 3 2 0
  obtain ⟨_, _, h1, h2, h3⟩ := sym2_fit _ hc
  rw [tokF]
  rw [h1, h2]
  simp only
  rw [show (c :: d :: rest).take 2 = [c, d] from rfl, h3]
end Go.Proofs.YtmodkpibkkpcdaaGreatDoor.Vm
namespace Go.Proofs.YtmodkpibkkpcdaaGreatDoor.Vm
open Go.RowKit Go.Shelf
set_option linter.unusedSimpArgs false
set_option linter.unusedVariables false
set_option maxRecDepth 100000
def symC (s : ByteArray) : Co := ⟨3, s.data.toList, 0⟩
def wrdC (s : ByteArray) : Co := ⟨1, s.data.toList, 0⟩
def numC (n : Nat) : Co := ⟨2, decS n, n⟩
theorem bs_data (s : ByteArray) : bs s.data.toList = s := ba_list (bs_list _)
theorem glR_one (c : Co) : glR [c] = bs c.text := by
 show glueF (bs c.text) ⟨#[]⟩ = _
 exact glue_eB _
theorem LexT.num (n : Nat) (hn : n ≤ 2147483647) : LexT (numC n) := by
 have h1 := decS_isD n
 have h2 := decS_val n
 have h3 := decS_ne n
 unfold numC
 generalize decS n = l at *
 cases l with
 | nil => exact absurd rfl h3
 | cons c r =>
  have := lexT_num c r h1 (by rw [h2]; omega)
  rw [h2] at this
  exact this
structure TN (b : ByteArray) (l : List Co) : Prop where
 eq : b = glR l
 lx : ∀ c ∈ l, LexT c
 fi : Fine false l
 en : EndS l
theorem TN.one {c : Co} (h : LexT c) (hs : safeT c.text = true) (hf : firstB (bs c.text) ≠ 61) : TN (bs c.text) [c] where
 eq := (glR_one c).symm
 lx := fun x hx => by rw [List.mem_singleton.1 hx]; exact h
 fi := ⟨fun _ => hf, trivial⟩
 en := hs
theorem TN.cat {b1 b2 : ByteArray} {l1 l2 : List Co} (h1 : TN b1 l1) (h2 : TN b2 l2) : TN (glueF b1 b2) (l1 ++ l2) where
 eq := by rw [h1.eq, h2.eq, glR_app _ _ (fun c hc => (h1.lx c hc).ne) (fun c hc => (h2.lx c hc).ne)]
 lx := fun x hx => by
  rcases List.mem_append.1 hx with hx | hx
  ·exact h1.lx x hx
  ·exact h2.lx x hx
 fi := h1.fi.app h2.fi
 en := h2.en.app
theorem TN.pre {b : ByteArray} {l : List Co} {o : Co} (ho : LexT o) (hf : firstB (bs o.text) ≠ 61) (h : TN b l) : TN (glueF (bs o.text) b) (o :: l) where
 eq := by rw [h.eq]; rfl
 lx := fun x hx => by
  rcases List.mem_cons.1 hx with rfl | hx
  ·exact ho
  ·exact h.lx x hx
 fi := ⟨fun _ => hf, h.fi.more⟩
 en := EndS.app (l := [o]) h.en
theorem TN.mid {b1 b2 : ByteArray} {l1 l2 : List Co} {o : Co} (h1 : TN b1 l1) (ho : LexT o) (h2 : TN b2 l2) : TN (glueF (glueF b1 (bs o.text)) b2) (l1 ++ o :: l2) where
 eq := by
  rw [h1.eq, h2.eq, glue_assoc _ _ _ (bs_ne ho.ne), glR_app _ _ (fun c hc => (h1.lx c hc).ne) (fun c hc => by
   rcases List.mem_cons.1 hc with rfl | hc
   ·exact ho.ne
   ·exact (h2.lx c hc).ne)]
  rfl
 lx := fun x hx => by
  rcases List.mem_append.1 hx with hx | hx
  ·exact h1.lx x hx
  ·rcases List.mem_cons.1 hx with rfl | hx
   ·exact ho
   ·exact h2.lx x hx
 fi := h1.fi.app2 h1.en ⟨(fun h => by cases h), h2.fi.more⟩
 en := EndS.app (EndS.app (l := [o]) h2.en)
theorem TN.ne {b : ByteArray} {l : List Co} (h : TN b l) : b ≠ ⟨#[]⟩ := by
 have he := h.en
 rw [h.eq]
 cases l with
 | nil => exact he.elim
 | cons c l => exact glR_ne (h.lx c List.mem_cons_self).ne
theorem lexS (s : ByteArray) (c : UInt8) (hs : s.data.toList = [c]) (hc : c ∈ ones1) : LexT (symC s) := by
 unfold symC; rw [hs]; exact lexT_sym1 c hc
theorem lexS2 (s : ByteArray) (c d : UInt8) (hs : s.data.toList = [c, d]) (hc : (c, d) ∈ twos2) : LexT (symC s) := by
 unfold symC; rw [hs]; exact lexT_sym2 c d hc
def wrdOk : List UInt8 → Bool
 | [] => false
 | c :: r => isL c && (c :: r).all isLD && decide (r.length + 1 ≤ 10)
theorem lexW (s : ByteArray) (h : wrdOk s.data.toList = true) : LexT (wrdC s) := by
 unfold wrdC
 generalize s.data.toList = l at *
 cases l with
 | nil => cases h
 | cons c r =>
  unfold wrdOk at h
  simp only [Bool.and_eq_true, decide_eq_true_eq] at h
  exact lexT_word c r h.1.1 (fun x hx => List.all_eq_true.1 h.1.2 x hx) h.2
def parT (p lv : Int) (fu : Bool) (l : List Co) : List Co := if p < lv then symC pLp :: l ++ [symC pRp] else if fu = true then (if p < 8 then symC pLp :: l ++ [symC pRp] else l) else l
theorem lexLp : LexT (symC pLp) := lexS pLp 40 rfl (by decide)
theorem lexRp : LexT (symC pRp) := lexS pRp 41 rfl (by decide)
theorem TN.par {b : ByteArray} {l : List Co} (h : TN b l) (p lv : Int) (fu : Bool) : TN (parN p lv fu b) (parT p lv fu l) := by
 have h1 := (h.pre lexLp (by decide)).cat (TN.one lexRp (by decide) (by decide))
 have e : pLp ++ b ++ pRp = glueF (glueF (bs (symC pLp).text) b) (bs (symC pRp).text) := by
  rw [show bs (symC pLp).text = pLp from rfl, show bs (symC pRp).text = pRp from rfl, glue_sym_l pLp b (by decide), glue_sym_r _ pRp (by decide)]
 rw [← e] at h1
 unfold parT parN
 by_cases hp : p < lv
 ·rw [if_pos hp, if_pos hp]; exact h1
 ·rw [if_neg hp, if_neg hp]
  cases fu with
  | false => exact h
  | true =>
   rw [if_pos rfl, if_pos rfl]
   by_cases hp8 : p < 8
   ·rw [if_pos hp8, if_pos hp8]; exact h1
   ·rw [if_neg hp8, if_neg hp8]; exact h
def noT : Int → List Co := fun _ => []
def bodyT (k n : Int) (s : ByteArray) (g : List (Int → List Co)) : List Co :=
 if k = 12 then [numC n.toNat]
 else if k = 13 then [wrdC (tfB n)]
 else if k = 16 then wrdC wDraw :: symC pLp :: (g.getD 0 noT) 1 ++ [symC pRp]
 else if k = 17 then symC s :: (g.getD 0 noT) (prec6 k s)
 else if k = 18 then (g.getD 0 noT) (if prec6 k s = 4 then 5 else prec6 k s) ++ symC s :: (g.getD 1 noT) (prec6 k s + 1)
 else [wrdC s]
mutual
def tkN (fu : Bool) : Nt → Int → List Co
 | .mk k n s kids, req => parT (prec6 k s) req fu (bodyT k n s (tkNs fu kids))
def tkNs (fu : Bool) : List Nt → List (Int → List Co)
 | [] => []
 | f :: l => tkN fu f :: tkNs fu l
end
variable {fu : Bool}
def TE (fu : Bool) (f : Nt) : Prop := ∀ lv, TN (shN fu f lv) (tkN fu f lv)
theorem te_int (n : Nat) (hn : n ≤ 2147483647) : TE fu (.mk 12 n eB []) := fun lv => by
 have h := TN.one (LexT.num n hn) (by
  have h1 := decS_isD n
  show safeT (decS n) = true
  unfold safeT
  rw [decide_eq_false (fun e => by rw [e] at h1; exact absurd (h1 60 (by simp)) (by decide)), decide_eq_false (fun e => by rw [e] at h1; exact absurd (h1 62 (by simp)) (by decide)), decide_eq_false (fun e => by rw [e] at h1; exact absurd (h1 61 (by simp)) (by decide)), decide_eq_false (fun e => by rw [e] at h1; exact absurd (h1 33 (by simp)) (by decide))]
  rfl) (by
  have h2 := decS_first n
  show firstB (bs (decS n)) ≠ 61
  intro e
  rw [e] at h2
  exact absurd h2 (by decide))
 exact h.par 8 lv fu
theorem te_txt (k : Int) (hk : k = 14 ∨ k = 15) (s : ByteArray) (hw : LexT (wrdC s)) (h1 : safeT s.data.toList = true) (h2 : firstB s ≠ 61) : TE fu (.mk k 0 s []) := fun lv => by
 have h := TN.one hw h1 (by rw [show (wrdC s).text = s.data.toList from rfl, bs_data]; exact h2)
 rw [show (wrdC s).text = s.data.toList from rfl, bs_data] at h
 rcases hk with rfl | rfl
 ·exact h.par 8 lv fu
 ·exact h.par 8 lv fu
theorem te_bool (n : Nat) (hn : n < 2) : TE fu (.mk 13 n eB []) := fun lv => by
 have hw : LexT (wrdC (tfB n)) ∧ safeT (tfB n).data.toList = true ∧ firstB (tfB n) ≠ 61 := by
  rcases (by omega : n = 0 ∨ n = 1) with rfl | rfl
  ·exact ⟨lexW _ (by decide), by decide, by decide⟩
  ·exact ⟨lexW _ (by decide), by decide, by decide⟩
 have h := TN.one hw.1 hw.2.1 (by rw [show (wrdC (tfB n)).text = (tfB n).data.toList from rfl, bs_data]; exact hw.2.2)
 rw [show (wrdC (tfB n)).text = (tfB n).data.toList from rfl, bs_data] at h
 exact h.par 8 lv fu
theorem te_drw (f : Nt) (hf : TE fu f) : TE fu (.mk 16 0 eB [f]) := fun lv => by
 have hd : LexT (wrdC wDraw) := lexW _ (by decide)
 have h := (((hf 1).pre lexLp (by decide)).pre hd (by decide)).cat (TN.one lexRp (by decide) (by decide))
 have e : shN fu (.mk 16 0 eB [f]) lv = parN 8 lv fu (allF [wDraw, pLp, shN fu f 1, pRp]) := rfl
 have e2 : allF [wDraw, pLp, shN fu f 1, pRp] = glueF (glueF (bs (wrdC wDraw).text) (glueF (bs (symC pLp).text) (shN fu f 1))) (bs (symC pRp).text) := by
  show glueF (glueF (glueF (glueF eB wDraw) pLp) (shN fu f 1)) pRp = _
  rw [eB_glue, glue_assoc wDraw pLp _ (by decide)]
  rfl
 rw [e, e2]
 exact h.par 8 lv fu
theorem te_una (s : ByteArray) (hs : LexT (symC s)) (h2 : firstB s ≠ 61) (f : Nt) (hf : TE fu f) : TE fu (.mk 17 0 s [f]) := fun lv => by
 have h := (hf (prec6 17 s)).pre hs (by rw [show (symC s).text = s.data.toList from rfl, bs_data]; exact h2)
 rw [show (symC s).text = s.data.toList from rfl, bs_data] at h
 have e : shN fu (.mk 17 0 s [f]) lv = parN (prec6 17 s) lv fu (allF [s, shN fu f (prec6 17 s)]) := rfl
 have e2 : allF [s, shN fu f (prec6 17 s)] = glueF s (shN fu f (prec6 17 s)) := by
  show glueF (glueF eB s) _ = _
  rw [eB_glue]
 rw [e, e2]
 exact h.par (prec6 17 s) lv fu
theorem te_bin (s : ByteArray) (hs : LexT (symC s)) (f g : Nt) (hf : TE fu f) (hg : TE fu g) : TE fu (.mk 18 0 s [f, g]) := fun lv => by
 have h := (hf (if prec6 18 s = 4 then 5 else prec6 18 s)).mid hs (hg (prec6 18 s + 1))
 rw [show (symC s).text = s.data.toList from rfl, bs_data] at h
 have e : shN fu (.mk 18 0 s [f, g]) lv = parN (prec6 18 s) lv fu (allF [shN fu f (if prec6 18 s = 4 then 5 else prec6 18 s), s, shN fu g (prec6 18 s + 1)]) := rfl
 have e2 : allF [shN fu f (if prec6 18 s = 4 then 5 else prec6 18 s), s, shN fu g (prec6 18 s + 1)] = glueF (glueF (shN fu f (if prec6 18 s = 4 then 5 else prec6 18 s)) s) (shN fu g (prec6 18 s + 1)) := by
  show glueF (glueF (glueF eB _) s) _ = _
  rw [eB_glue]
 rw [e, e2]
 exact h.par (prec6 18 s) lv fu
theorem lexS_op : ∀ s ∈ opL, LexT (symC s) := fun s hs => by
 unfold opL at hs
 simp only [List.mem_cons, List.not_mem_nil, or_false] at hs
 rcases hs with rfl | rfl | rfl | rfl
 ·exact lexS _ 43 rfl (by decide)
 ·exact lexS _ 45 rfl (by decide)
 ·exact lexS _ 42 rfl (by decide)
 ·exact lexS _ 47 rfl (by decide)
theorem lexS_bol : ∀ s ∈ bolL, LexT (symC s) := fun s hs => by
 unfold bolL at hs
 simp only [List.mem_cons, List.not_mem_nil, or_false] at hs
 rcases hs with rfl | rfl
 ·exact lexS2 _ 38 38 rfl (by decide)
 ·exact lexS2 _ 124 124 rfl (by decide)
theorem lexS_cmp : ∀ s ∈ cmpL, LexT (symC s) := fun s hs => by
 unfold cmpL at hs
 simp only [List.mem_cons, List.not_mem_nil, or_false] at hs
 rcases hs with rfl | rfl | rfl | rfl | rfl | rfl
 ·exact lexS _ 60 rfl (by decide)
 ·exact lexS2 _ 60 61 rfl (by decide)
 ·exact lexS _ 62 rfl (by decide)
 ·exact lexS2 _ 62 61 rfl (by decide)
 ·exact lexS2 _ 61 61 rfl (by decide)
 ·exact lexS2 _ 33 61 rfl (by decide)
theorem varL_w : ∀ s ∈ varL, LexT (wrdC s) ∧ safeT s.data.toList = true ∧ firstB s ≠ 61 := fun s hs => by
 unfold varL at hs
 simp only [List.mem_cons, List.not_mem_nil, or_false] at hs
 rcases hs with rfl | rfl | rfl | rfl <;> exact ⟨lexW _ (by decide), by decide, by decide⟩
theorem builtL_w : ∀ s ∈ builtL, LexT (wrdC s) ∧ safeT s.data.toList = true ∧ firstB s ≠ 61 := fun s hs => by
 unfold builtL at hs
 simp only [List.mem_cons, List.not_mem_nil, or_false] at hs
 rcases hs with rfl | rfl | rfl | rfl | rfl | rfl | rfl | rfl | rfl <;> exact ⟨lexW _ (by decide), by decide, by decide⟩
theorem litL_n : ∀ n ∈ litL, ∃ m : Nat, n = m ∧ m ≤ 2147483647 := fun n hn => by
 have h : ∀ n ∈ litL, 0 ≤ n ∧ n ≤ 2147483647 := by decide
 have := h n hn
 exact ⟨n.toNat, by omega, by omega⟩
theorem te_ei {d : Nat} {f : Nt} (h : EI d f) : TE fu f := by
 induction h with
 | lit d n h => obtain ⟨m, rfl, hm⟩ := litL_n n h; exact te_int m hm
 | var d s h => obtain ⟨a, b, c⟩ := varL_w s h; exact te_txt 14 (.inl rfl) s a b c
 | nam d s h => obtain ⟨a, b, c⟩ := builtL_w s h; exact te_txt 15 (.inr rfl) s a b c
 | drw d f h ih => exact te_drw f ih
 | neg d f h ih => exact te_una pMinus (lexS _ 45 rfl (by decide)) (by decide) f ih
 | bin d s f g hs h1 h2 i1 i2 => exact te_bin s (lexS_op s hs) f g i1 i2
theorem te_eb {d : Nat} {f : Nt} (h : EB d f) : TE fu f := by
 induction h with
 | lit d n h => exact te_bool n h
 | nt d f h ih => exact te_una pNot (lexS _ 33 rfl (by decide)) (by decide) f ih
 | bin d s f g hs h1 h2 i1 i2 => exact te_bin s (lexS_bol s hs) f g i1 i2
 | cmp d s f g hs h1 h2 => exact te_bin s (lexS_cmp s hs) f g (te_ei h1) (te_ei h2)
end Go.Proofs.YtmodkpibkkpcdaaGreatDoor.Vm
namespace Go.Proofs.YtmodkpibkkpcdaaGreatDoor.Vm
open Go.RowKit Go.Shelf
set_option linter.unusedSimpArgs false
set_option linter.unusedVariables false
set_option maxRecDepth 100000
variable {fu : Bool}
def cmT : List (List Co) → List Co
 | [] => []
 | x :: l => x ++ l.flatMap fun y => symC pComma :: y
theorem cmT_snoc (x : List Co) (l : List (List Co)) (y : List Co) : cmT (x :: l ++ [y]) = cmT (x :: l) ++ symC pComma :: y := by
 unfold cmT
 show x ++ (l ++ [y]).flatMap _ = _
 rw [List.flatMap_append, List.flatMap_cons, List.flatMap_nil, List.append_nil, List.append_assoc]
theorem lexCm : LexT (symC pComma) := lexS pComma 44 rfl (by decide)
theorem lexSm : LexT (symC pSemi) := lexS pSemi 59 rfl (by decide)
theorem lexEq : LexT (symC pEq) := lexS pEq 61 rfl (by decide)
theorem lexLb : LexT (symC pLb) := lexS pLb 123 rfl (by decide)
theorem lexRb : LexT (symC pRb) := lexS pRb 125 rfl (by decide)
theorem tn_cm : ∀ (n : Nat) (l : List Nt), l.length = n + 1 → (∀ f ∈ l, TE fu f) → TN (cmF (l.map fun f => shN fu f 1)) (cmT (l.map fun f => tkN fu f 1))
 | 0, l, hl, h => by
  obtain ⟨f, rfl⟩ := List.length_eq_one_iff.1 hl
  have h1 := h f List.mem_cons_self 1
  show TN (glueF eB (shN fu f 1)) (tkN fu f 1 ++ [])
  rw [eB_glue, List.append_nil]
  exact h1
 | n + 1, l, hl, h => by
  have hne : l ≠ [] := fun e => by rw [e] at hl; cases hl
  have e := List.dropLast_concat_getLast hne
  have hy := h _ (List.getLast_mem hne) 1
  have ih := tn_cm n l.dropLast (by rw [List.length_dropLast]; omega) fun f hf => h f (List.dropLast_subset l hf)
  generalize l.getLast hne = y at *
  have hd : l.dropLast ≠ [] := fun e0 => by rw [e0] at e; rw [← e] at hl; simp at hl
  generalize l.dropLast = m at *
  subst e
  cases m with
  | nil => exact absurd rfl hd
  | cons x m =>
   rw [List.map_append, List.map_append]
   show TN (cmF ((shN fu x 1 :: m.map fun f => shN fu f 1) ++ [shN fu y 1])) (cmT ((tkN fu x 1 :: m.map fun f => tkN fu f 1) ++ [tkN fu y 1]))
   rw [cmF_snoc, cmT_snoc]
   have h1 := ih.mid lexCm hy
   have e1 : bs (symC pComma).text = pComma := rfl
   rw [e1, glue_sym_r _ pComma (by decide)] at h1
   exact h1
def lsT (fu : Bool) (l : List Nt) : List Co := cmT (l.map fun f => tkN fu f 1) ++ [symC pSemi]
theorem tn_ls (l : List Nt) (hl : l ≠ []) (h : ∀ f ∈ l, TE fu f) : TN (listN fu l) (lsT fu l) := by
 have h1 := tn_cm (l.length - 1) l (by have := List.length_pos_iff.2 hl; omega) h
 have h2 := h1.cat (TN.one lexSm (by decide) (by decide))
 rw [show bs (symC pSemi).text = pSemi from rfl, glue_sym_r _ pSemi (by decide)] at h2
 exact h2
def stTk (fu : Bool) (k n : Int) (s : ByteArray) (kids : List Nt) (bks : List (List Co)) : List Co :=
 if k = 1 then wrdC s :: symC pEq :: lsT fu kids
 else if k = 3 then wrdC wWhile :: tkN fu (kid kids 0) 1 ++ bks.getD 1 []
 else if k = 4 then wrdC wSend :: tkN fu (kid kids 0) 1 ++ symC pComma :: numC n.toNat :: symC pComma :: lsT fu (kids.drop 1)
 else if k = 5 then [wrdC wTimer, numC n.toNat, symC pSemi]
 else if k = 6 then [wrdC wCancel, numC n.toNat, symC pSemi]
 else if k = 7 then [wrdC wSync, symC pSemi]
 else if k = 10 then [wrdC wStop, symC pSemi]
 else if k = 8 then wrdC wReply :: lsT fu kids
 else if k = 9 then wrdC wFail :: lsT fu kids
 else if 0 < (kid kids 2).kids.length then wrdC wIf :: tkN fu (kid kids 0) 1 ++ bks.getD 1 [] ++ wrdC wElse :: bks.getD 2 [] else wrdC wIf :: tkN fu (kid kids 0) 1 ++ bks.getD 1 []
mutual
def tkS (fu : Bool) : Nt → List Co
 | .mk k n s kids => stTk fu k n s kids (tkBs fu kids)
def tkB (fu : Bool) : Nt → List Co
 | .mk _ _ _ kids => symC pLb :: (tkSs fu kids).flatten ++ [symC pRb]
def tkSs (fu : Bool) : List Nt → List (List Co)
 | [] => []
 | f :: l => tkS fu f :: tkSs fu l
def tkBs (fu : Bool) : List Nt → List (List Co)
 | [] => []
 | f :: l => tkB fu f :: tkBs fu l
end
theorem tkSs_map : ∀ l : List Nt, tkSs fu l = l.map (tkS fu)
 | [] => rfl
 | f :: l => by rw [tkSs, tkSs_map l]; rfl
def TS (fu : Bool) (f : Nt) : Prop := TN (stP fu f) (tkS fu f)
def TB (fu : Bool) (f : Nt) : Prop := TN (bkP fu f) (tkB fu f)
theorem ts_blk (l : List Nt) (h : ∀ f ∈ l, TS fu f) : TB fu (blkN l) := by
 have key : ∀ (m : List Nt) (b : ByteArray) (t : List Co), TN b t → (∀ f ∈ m, TS fu f) → TN ((m.map (stP fu)).foldl glueF b) (t ++ (m.map (tkS fu)).flatten) := fun m => by
  induction m with
  | nil => intro b t h _; rw [List.map_nil, List.map_nil, List.flatten_nil, List.append_nil]; exact h
  | cons f m ih =>
   intro b t h1 h2
   have h3 := ih (glueF b (stP fu f)) (t ++ tkS fu f) (h1.cat (h2 f List.mem_cons_self)) fun g hg => h2 g (List.mem_cons_of_mem _ hg)
   rw [List.map_cons, List.map_cons, List.flatten_cons, ← List.append_assoc]
   exact h3
 have h1 := key l pLb [symC pLb] (TN.one lexLb (by decide) (by decide)) h
 have h2 := h1.cat (TN.one lexRb (by decide) (by decide))
 unfold TB
 have e : bkP fu (blkN l) = bkL fu l ++ pRb := bkP_eq _ _ _ _ _
 have e2 : tkB fu (blkN l) = symC pLb :: (l.map (tkS fu)).flatten ++ [symC pRb] := by
  unfold blkN
  rw [tkB, tkSs_map]
 rw [e, e2]
 rw [show bs (symC pRb).text = pRb from rfl, glue_sym_r _ pRb (by decide)] at h2
 exact h2
theorem ts_asg (s : ByteArray) (hw : LexT (wrdC s) ∧ safeT s.data.toList = true ∧ firstB s ≠ 61) (l : List Nt) (hl : l ≠ []) (h : ∀ f ∈ l, TE fu f) : TS fu (.mk 1 0 s l) := by
 have h0 := TN.one hw.1 hw.2.1 (by rw [show (wrdC s).text = s.data.toList from rfl, bs_data]; exact hw.2.2)
 rw [show (wrdC s).text = s.data.toList from rfl, bs_data] at h0
 have h1 := h0.mid lexEq (tn_ls l hl h)
 have e : stP fu (.mk 1 0 s l) = glueF (glueF s pEq) (listN fu l) := by
  show glueF (glueF (glueF eB s) pEq) (listN fu l) = _
  rw [eB_glue]
 show TN (stP fu (.mk 1 0 s l)) _
 rw [e]
 exact h1
theorem tn_wls (w : ByteArray) (hw : LexT (wrdC w)) (hf : firstB w ≠ 61) (l : List Nt) (hl : l ≠ []) (h : ∀ f ∈ l, TE fu f) : TN (allF [w, listN fu l]) (wrdC w :: lsT fu l) := by
 have h1 := (tn_ls l hl h).pre hw (by rw [show (wrdC w).text = w.data.toList from rfl, bs_data]; exact hf)
 rw [show (wrdC w).text = w.data.toList from rfl, bs_data] at h1
 show TN (glueF (glueF eB w) (listN fu l)) _
 rw [eB_glue]
 exact h1
theorem ts_rep (l : List Nt) (hl : l ≠ []) (h : ∀ f ∈ l, TE fu f) : TS fu (.mk 8 0 eB l) := tn_wls wReply (lexW _ (by decide)) (by decide) l hl h
theorem ts_fai (l : List Nt) (hl : l ≠ []) (h : ∀ f ∈ l, TE fu f) : TS fu (.mk 9 0 eB l) := tn_wls wFail (lexW _ (by decide)) (by decide) l hl h
end Go.Proofs.YtmodkpibkkpcdaaGreatDoor.Vm
namespace Go.Proofs.YtmodkpibkkpcdaaGreatDoor.Vm
open Go.RowKit Go.Shelf
set_option linter.unusedSimpArgs false
set_option linter.unusedVariables false
set_option maxRecDepth 100000
variable {fu : Bool}
theorem tn_num (n : Nat) (hn : n ≤ 2147483647) : TN (bs (decS n)) [numC n] := te_int (fu := false) n hn 0
theorem TN.wrd {b : ByteArray} {l : List Co} (w : ByteArray) (hw : LexT (wrdC w)) (hf : firstB w ≠ 61) (h : TN b l) : TN (glueF w b) (wrdC w :: l) := by
 have h1 := h.pre hw (by rw [show (wrdC w).text = w.data.toList from rfl, bs_data]; exact hf)
 rw [show (wrdC w).text = w.data.toList from rfl, bs_data] at h1
 exact h1
theorem TN.end {b : ByteArray} {l : List Co} (h : TN b l) : TN (glueF b pSemi) (l ++ [symC pSemi]) := h.cat (TN.one lexSm (by decide) (by decide))
theorem tn_word (w : ByteArray) (hw : LexT (wrdC w)) (hs : safeT w.data.toList = true) (hf : firstB w ≠ 61) : TN w [wrdC w] := by
 have h0 := TN.one hw hs (by rw [show (wrdC w).text = w.data.toList from rfl, bs_data]; exact hf)
 rw [show (wrdC w).text = w.data.toList from rfl, bs_data] at h0
 exact h0
theorem ts_num (k : Int) (hk : k = 5 ∨ k = 6) (n : Nat) (hn : n < 1000) : TS fu (.mk k n eB []) := by
 have hd := tn_num n (by omega)
 rcases hk with rfl | rfl
 ·have h := (hd.wrd wTimer (lexW _ (by decide)) (by decide)).end
  have e : stP fu (.mk 5 n eB []) = glueF (glueF wTimer (bs (decS n))) pSemi := by
   show glueF (glueF (glueF eB wTimer) (bs (decS n))) pSemi = _
   rw [eB_glue]
  show TN (stP fu (.mk 5 n eB [])) _
  rw [e]
  exact h
 ·have h := (hd.wrd wCancel (lexW _ (by decide)) (by decide)).end
  have e : stP fu (.mk 6 n eB []) = glueF (glueF wCancel (bs (decS n))) pSemi := by
   show glueF (glueF (glueF eB wCancel) (bs (decS n))) pSemi = _
   rw [eB_glue]
  show TN (stP fu (.mk 6 n eB [])) _
  rw [e]
  exact h
theorem ts_wrd (k : Int) (hk : k = 7 ∨ k = 10) : TS fu (.mk k 0 eB []) := by
 rcases hk with rfl | rfl
 ·have h := (tn_word wSync (lexW _ (by decide)) (by decide) (by decide)).end
  show TN (stP fu (.mk 7 0 eB [])) _
  rw [show stP fu (.mk 7 0 eB []) = glueF wSync pSemi by (show syncB = _); decide]
  exact h
 ·have h := (tn_word wStop (lexW _ (by decide)) (by decide) (by decide)).end
  show TN (stP fu (.mk 10 0 eB [])) _
  rw [show stP fu (.mk 10 0 eB []) = glueF wStop pSemi by (show stopB = _); decide]
  exact h
theorem ts_snd (n : Nat) (hn : n < 1000) (f g h : Nt) (hf : TE fu f) (hg : TE fu g) (hh : TE fu h) : TS fu (.mk 4 n eB [f, g, h]) := by
 have hl := tn_ls [g, h] (by simp) fun x hx => by
  simp only [List.mem_cons, List.not_mem_nil, or_false] at hx
  rcases hx with rfl | rfl
  ·exact hg
  ·exact hh
 have h1 := (((hf 1).wrd wSend (lexW _ (by decide)) (by decide)).mid lexCm (tn_num n (by omega))).mid lexCm hl
 have e : stP fu (.mk 4 n eB [f, g, h]) = glueF (glueF (glueF (glueF (glueF wSend (shN fu f 1)) pComma) (bs (decS n))) pComma) (listN fu [g, h]) := by
  show glueF (glueF (glueF (glueF (glueF (glueF eB wSend) (shN fu f 1)) pComma) (bs (decS n))) pComma) (listN fu [g, h]) = _
  rw [eB_glue]
 have e2 : tkS fu (.mk 4 n eB [f, g, h]) = (wrdC wSend :: tkN fu f 1 ++ symC pComma :: [numC n]) ++ symC pComma :: lsT fu [g, h] := by
  show wrdC wSend :: tkN fu f 1 ++ symC pComma :: numC n :: symC pComma :: lsT fu [g, h] = _
  simp
 show TN _ _
 rw [e, e2]
 exact h1
theorem ts_whi (c b : Nt) (hc : TE fu c) (hb : TB fu b) : TS fu (.mk 3 0 eB [c, b]) := by
 have h1 := ((hc 1).wrd wWhile (lexW _ (by decide)) (by decide)).cat hb
 have e : stP fu (.mk 3 0 eB [c, b]) = glueF (glueF wWhile (shN fu c 1)) (bkP fu b) := by
  show glueF (glueF (glueF eB wWhile) (shN fu c 1)) (bkP fu b) = _
  rw [eB_glue]
 show TN (stP fu (.mk 3 0 eB [c, b])) _
 rw [e]
 exact h1
theorem ts_iff (c b d : Nt) (hc : TE fu c) (hb : TB fu b) (hd : TB fu d) : TS fu (.mk 2 0 eB [c, b, d]) := by
 have h1 := ((hc 1).wrd wIf (lexW _ (by decide)) (by decide)).cat hb
 have e : stP fu (.mk 2 0 eB [c, b, d]) = if 0 < d.kids.length then allF [allF [wIf, shN fu c 1, bkP fu b], wElse, bkP fu d] else allF [wIf, shN fu c 1, bkP fu b] := rfl
 have e3 : allF [wIf, shN fu c 1, bkP fu b] = glueF (glueF wIf (shN fu c 1)) (bkP fu b) := by
  show glueF (glueF (glueF eB wIf) (shN fu c 1)) (bkP fu b) = _
  rw [eB_glue]
 have e2 : tkS fu (.mk 2 0 eB [c, b, d]) = if 0 < d.kids.length then wrdC wIf :: tkN fu c 1 ++ tkB fu b ++ wrdC wElse :: tkB fu d else wrdC wIf :: tkN fu c 1 ++ tkB fu b := rfl
 show TN _ _
 rw [e, e2, e3]
 by_cases hl : 0 < d.kids.length
 ·rw [if_pos hl, if_pos hl]
  have h2 := h1.cat (hd.wrd wElse (lexW _ (by decide)) (by decide))
  show TN (glueF (glueF (glueF eB (glueF (glueF wIf (shN fu c 1)) (bkP fu b))) wElse) (bkP fu d)) _
  rw [eB_glue, glue_assoc _ _ _ (by decide)]
  exact h2
 ·rw [if_neg hl, if_neg hl]
  exact h1
theorem ts_es {d : Nat} {f : Nt} (h : ES d f) : TS fu f := by
 induction h with
 | asg d e s f hs h he => exact ts_asg s (varL_w s hs) [f] (by simp) fun x hx => by rw [List.mem_singleton.1 hx]; exact te_ei h
 | snd d n f g h hn h1 h2 h3 => exact ts_snd n (by omega) f g h (te_ei h1) (te_ei h2) (te_ei h3)
 | tim d n hn => exact ts_num 5 (.inl rfl) n (by omega)
 | can d n hn => exact ts_num 6 (.inr rfl) n (by omega)
 | syn d => exact ts_wrd 7 (.inl rfl)
 | rep d f g h1 h2 =>
  refine ts_rep [f, g] (by simp) ?_
  intro x hx
  simp only [List.mem_cons, List.not_mem_nil, or_false] at hx
  rcases hx with rfl | rfl
  ·exact te_ei h1
  ·exact te_ei h2
 | fai d f h1 => exact ts_fai [f] (by simp) fun x hx => by rw [List.mem_singleton.1 hx]; exact te_ei h1
 | stp d => exact ts_wrd 10 (.inr rfl)
 | whi d c l h1 h2 h3 ih => exact ts_whi c (blkN l) (te_eb h1) (ts_blk l ih)
 | iff d c l m h1 h2 h3 h4 h5 ih1 ih2 => exact ts_iff c (blkN l) (blkN m) (te_eb h1) (ts_blk l ih1) (ts_blk m ih2)
theorem tb_ek {b : Nt} (h : EK b) : TB fu b := by
 obtain ⟨k, rfl, h1, h2⟩ := h
 exact ts_blk k fun s hs => ts_es (h2 s hs)
def hdWT (n : Int) : List Co := if n = 1 then [wrdC wRequest] else if 10 ≤ n then [wrdC wMessage, numC (n - 10).toNat] else if 2 ≤ n then [wrdC wTimer, numC (n - 2).toNat] else [wrdC wStart]
theorem tn_hdW (n : Int) (hn : n < 40) : TN (hdW n) (hdWT n) := by
 unfold hdW hdWT
 repeat' split
 ·exact tn_word _ (lexW _ (by decide)) (by decide) (by decide)
 ·rw [show wMsgS = wMessage ++ ⟨#[32]⟩ by decide, ← glue_dec wMessage (by decide) (by decide)]
  exact (tn_num _ (by omega)).wrd wMessage (lexW _ (by decide)) (by decide)
 ·rw [show wTimS = wTimer ++ ⟨#[32]⟩ by decide, ← glue_dec wTimer (by decide) (by decide)]
  exact (tn_num _ (by omega)).wrd wTimer (lexW _ (by decide)) (by decide)
 ·exact tn_word _ (lexW _ (by decide)) (by decide) (by decide)
def hdTk (fu : Bool) (h : Int × Nt) : List Co := wrdC wOn :: hdWT h.1 ++ tkB fu h.2
theorem tn_hd (h : Int × Nt) (hn : h.1 < 40) (hb : TB fu h.2) : TN (hdN fu h) (hdTk fu h) := by
 have h1 := ((tn_hdW h.1 hn).wrd wOn (lexW _ (by decide)) (by decide)).cat hb
 show TN (glueF (glueF (glueF eB wOn) (hdW h.1)) (bkP fu h.2)) _
 rw [eB_glue]
 exact h1
def dcTk : List Co := [wrdC wDurable, wrdC ⟨#[100]⟩, symC pComma, wrdC ⟨#[100, 100, 49]⟩, symC pSemi, wrdC wVolatile, wrdC ⟨#[118]⟩, symC pComma, wrdC ⟨#[119, 50]⟩, symC pSemi]
theorem tn_dc : TN pT2 dcTk := by
 have h1 := ((((tn_word ⟨#[100]⟩ (lexW _ (by decide)) (by decide) (by decide)).mid lexCm (tn_word ⟨#[100, 100, 49]⟩ (lexW _ (by decide)) (by decide) (by decide))).wrd wDurable (lexW _ (by decide)) (by decide)).end)
 have h2 := ((((tn_word ⟨#[118]⟩ (lexW _ (by decide)) (by decide) (by decide)).mid lexCm (tn_word ⟨#[119, 50]⟩ (lexW _ (by decide)) (by decide) (by decide))).wrd wVolatile (lexW _ (by decide)) (by decide)).end)
 have h3 := h1.cat h2
 have e : pT2 = glueF (glueF (glueF wDurable (glueF (glueF ⟨#[100]⟩ (bs (symC pComma).text)) ⟨#[100, 100, 49]⟩)) pSemi) (glueF (glueF wVolatile (glueF (glueF ⟨#[118]⟩ (bs (symC pComma).text)) ⟨#[119, 50]⟩)) pSemi) := by decide
 rw [e]
 exact h3
def prTk (u : Ut) : List Co := dcTk ++ (u.on.map (hdTk false)).flatten
theorem tn_hds (m : List (Int × Nt)) (b : ByteArray) (t : List Co) (h : TN b t) (hm : ∀ x ∈ m, TN (hdN fu x) (hdTk fu x)) : TN (hdsF fu b m) (t ++ (m.map (hdTk fu)).flatten) := by
 induction m generalizing b t with
 | nil => rw [List.map_nil, List.flatten_nil, List.append_nil]; exact h
 | cons f m ih =>
  have q3 := ih (glueF b (hdN fu f)) (t ++ hdTk fu f) (h.cat (hm f List.mem_cons_self)) fun g hg => hm g (List.mem_cons_of_mem _ hg)
  rw [List.map_cons, List.flatten_cons, ← List.append_assoc]
  exact q3
theorem GU.hd {u : Ut} (h : GU u) (x : Int × Nt) (hx : x ∈ u.on) : TN (hdN fu x) (hdTk fu x) := by
 obtain ⟨h1, h2, h3, h4, h5⟩ := h
 exact tn_hd x (h3 x hx).2.1 (tb_ek (h3 x hx).2.2)
theorem tn_pr {u : Ut} (h : GU u) : TN (prF u) (prTk u) := by
 have h6 := tn_hds u.on pT2 dcTk tn_dc fun x hx => h.hd (fu := false) x hx
 unfold prF
 rw [h.1, h.2.1]
 exact h6
def dcTl : List Co := [wrdC wVolatile, wrdC ⟨#[118]⟩, symC pComma, wrdC ⟨#[119, 50]⟩, symC pSemi, wrdC wDurable, wrdC ⟨#[100]⟩, symC pComma, wrdC ⟨#[100, 100, 49]⟩, symC pSemi]
theorem tn_dl : TN (nmF wVolatile voL ++ nmF wDurable duL) dcTl := by
 have h1 := ((((tn_word ⟨#[100]⟩ (lexW _ (by decide)) (by decide) (by decide)).mid lexCm (tn_word ⟨#[100, 100, 49]⟩ (lexW _ (by decide)) (by decide) (by decide))).wrd wDurable (lexW _ (by decide)) (by decide)).end)
 have h2 := ((((tn_word ⟨#[118]⟩ (lexW _ (by decide)) (by decide) (by decide)).mid lexCm (tn_word ⟨#[119, 50]⟩ (lexW _ (by decide)) (by decide) (by decide))).wrd wVolatile (lexW _ (by decide)) (by decide)).end)
 have h3 := h2.cat h1
 have e : nmF wVolatile voL ++ nmF wDurable duL = glueF (glueF (glueF wVolatile (glueF (glueF ⟨#[118]⟩ (bs (symC pComma).text)) ⟨#[119, 50]⟩)) pSemi) (glueF (glueF wDurable (glueF (glueF ⟨#[100]⟩ (bs (symC pComma).text)) ⟨#[100, 100, 49]⟩)) pSemi) := by decide
 rw [e]
 exact h3
def loTk (u : Ut) : List Co := dcTl ++ (u.on.reverse.map (hdTk true)).flatten
theorem tn_lo {u : Ut} (h : GU u) : TN (loF u) (loTk u) := by
 have h6 := tn_hds u.on.reverse _ dcTl tn_dl fun x hx => h.hd (fu := true) x (List.mem_reverse.1 hx)
 unfold loF
 rw [h.1, h.2.1]
 exact h6
end Go.Proofs.YtmodkpibkkpcdaaGreatDoor.Vm
namespace Go.Proofs.YtmodkpibkkpcdaaGreatDoor.Vm
open Go.RowKit Go.Shelf
set_option linter.unusedSimpArgs false
set_option linter.unusedVariables false
set_option maxRecDepth 100000
def Beg (q : List Co) (ts r : List Tk) : Prop := ∃ m, ts = m ++ r ∧ m.map core = q
theorem Beg.nil {ts r : List Tk} (h : Beg [] ts r) : ts = r := by
 obtain ⟨m, rfl, h⟩ := h
 rw [List.map_eq_nil_iff] at h
 subst h; rfl
theorem Beg.cons {c : Co} {q : List Co} {ts r : List Tk} (h : Beg (c :: q) ts r) : core (hd ts) = c ∧ Beg q ts.tail r ∧ ts ≠ [] := by
 obtain ⟨m, rfl, h⟩ := h
 cases m with
 | nil => cases h
 | cons t m =>
  rw [List.map_cons, List.cons.injEq] at h
  exact ⟨h.1, ⟨m, rfl, h.2⟩, by simp⟩
theorem Beg.app {p q : List Co} {ts r : List Tk} (h : Beg (p ++ q) ts r) : ∃ s, Beg p ts s ∧ Beg q s r := by
 obtain ⟨m, rfl, h⟩ := h
 rw [List.map_eq_append_iff] at h
 obtain ⟨a, b, rfl, h1, h2⟩ := h
 exact ⟨b ++ r, ⟨a, List.append_assoc _ _ _, h1⟩, ⟨b, rfl, h2⟩⟩
theorem Beg.len {q : List Co} {ts r : List Tk} (h : Beg q ts r) : ts.length = q.length + r.length := by
 obtain ⟨m, rfl, h⟩ := h
 rw [← h]; simp
theorem hd_text {ts : List Tk} {c : Co} (h : core (hd ts) = c) : (hd ts).text = bs c.text := by
 subst h
 exact ba_list (by rw [bs_list]; rfl)
theorem hd_kind {ts : List Tk} {c : Co} (h : core (hd ts) = c) : (hd ts).kind = c.kind ∧ (hd ts).n = c.n := by
 subst h; exact ⟨rfl, rfl⟩
theorem isP_hd {ts : List Tk} {c : Co} (h : core (hd ts) = c) (s : ByteArray) : isP s ts = (decide (bs c.text = s) && (decide (c.kind = 1) || decide (c.kind = 3))) := by
 unfold isP
 rw [hd_text h, (hd_kind h).1]
theorem isNm_hd {ts : List Tk} {c : Co} (h : core (hd ts) = c) : isNm ts = (decide (c.kind = 1) && !(keyL ++ builtL).any fun s => decide (bs c.text = s)) := by
 unfold isNm
 rw [hd_text h, (hd_kind h).1]
theorem isBi_hd {ts : List Tk} {c : Co} (h : core (hd ts) = c) : isBi ts = (decide (c.kind = 1) && builtL.any fun s => decide (bs c.text = s)) := by
 unfold isBi
 rw [hd_text h, (hd_kind h).1]
def noS (l : List ByteArray) (r : List Tk) : Prop := anyT l r = false
def opE (low : Option Pa) : Nat → List Tk → Pn
 | 1 => expG low
 | 2 => chnF (ntG low) [pAnd]
 | 3 => ntG low
 | 4 => ntG low
 | 5 => sumG low
 | 6 => chnF (unaG low) [pStar, pSlash]
 | 7 => unaG low
 | _ => primG low
def StE : Nat → List Tk → Prop
 | 1, r => noS [pStar, pSlash] r ∧ noS [pPlus, pMinus] r ∧ noS cmpL r ∧ noS [pAnd] r ∧ noS [pOr] r
 | 2, r => noS [pStar, pSlash] r ∧ noS [pPlus, pMinus] r ∧ noS cmpL r ∧ noS [pAnd] r
 | 3, r => noS [pStar, pSlash] r ∧ noS [pPlus, pMinus] r ∧ noS cmpL r
 | 4, r => noS [pStar, pSlash] r ∧ noS [pPlus, pMinus] r ∧ noS cmpL r
 | 5, r => noS [pStar, pSlash] r ∧ noS [pPlus, pMinus] r
 | 6, r => noS [pStar, pSlash] r
 | _, _ => True
theorem chnF_one {op : List Tk → Pn} {l : List ByteArray} {ts r : List Tk} {f : Nt} (h : op ts = .ok f r) (hs : noS l r) : chnF op l ts = .ok f r := by
 unfold chnF
 rw [h]
 show chnGo op l r.length f r = _
 cases hl : r.length with
 | zero => rfl
 | succ n =>
  unfold chnGo
  rw [show anyT l r = false from hs]
  rfl
def PE (low : Option Pa) (lv : Nat) (b : List Co) (f : Nt) : Prop := ∀ ts r, Beg b ts r → StE lv r → opE low lv ts = .ok f r
theorem pe_21 {low : Option Pa} {b : List Co} {f : Nt} (h : PE low 2 b f) : PE low 1 b f := fun ts r hb hs => chnF_one (h ts r hb ⟨hs.1, hs.2.1, hs.2.2.1, hs.2.2.2.1⟩) hs.2.2.2.2
theorem pe_32 {low : Option Pa} {b : List Co} {f : Nt} (h : PE low 3 b f) : PE low 2 b f := fun ts r hb hs => chnF_one (h ts r hb ⟨hs.1, hs.2.1, hs.2.2.1⟩) hs.2.2.2
theorem pe_65 {low : Option Pa} {b : List Co} {f : Nt} (h : PE low 6 b f) : PE low 5 b f := fun ts r hb hs => chnF_one (h ts r hb hs.1) hs.2
theorem pe_76 {low : Option Pa} {b : List Co} {f : Nt} (h : PE low 7 b f) : PE low 6 b f := fun ts r hb hs => chnF_one (h ts r hb trivial) hs
end Go.Proofs.YtmodkpibkkpcdaaGreatDoor.Vm
namespace Go.Proofs.YtmodkpibkkpcdaaGreatDoor.Vm
open Go.RowKit Go.Shelf
set_option linter.unusedSimpArgs false
set_option linter.unusedVariables false
set_option maxRecDepth 100000
def NotS (s : ByteArray) : List Co → Prop
 | [] => False
 | c :: _ => bs c.text ≠ s
theorem notS_hd {s : ByteArray} {b : List Co} {ts r : List Tk} (h : NotS s b) (hb : Beg b ts r) : isP s ts = false := by
 cases b with
 | nil => exact h.elim
 | cons c b =>
  rw [isP_hd hb.cons.1, decide_eq_false (show ¬ bs c.text = s from h)]
  rfl
theorem pe_54 {low : Option Pa} {b : List Co} {f : Nt} (h : PE low 5 b f) (hn : NotS pNot b) : PE low 4 b f := fun ts r hb hs => by
 have h1 : sumG low ts = .ok f r := h ts r hb ⟨hs.1, hs.2.1⟩
 show ntG low ts = _
 unfold ntG
 rw [if_neg (by rw [notS_hd hn hb]; decide), h1]
 show (if anyT cmpL r = true then _ else Pn.ok f r) = _
 rw [if_neg (by rw [show anyT cmpL r = false from hs.2.2]; decide)]
theorem pe_43 {low : Option Pa} {b : List Co} {f : Nt} (h : PE low 4 b f) : PE low 3 b f := fun ts r hb hs => h ts r hb hs
theorem pe_87 {low : Option Pa} {b : List Co} {f : Nt} (h : PE low 8 b f) (hn : NotS pMinus b) : PE low 7 b f := fun ts r hb hs => by
 have h1 : primG low ts = .ok f r := h ts r hb trivial
 show unaG low ts = _
 unfold unaG
 rw [if_neg (by rw [notS_hd hn hb]; decide)]
 exact h1
theorem pe_all {low : Option Pa} {b : List Co} {f : Nt} (h : PE low 8 b f) (h1 : NotS pNot b) (h2 : NotS pMinus b) : ∀ lv : Nat, 1 ≤ lv → lv ≤ 8 → PE low lv b f := fun lv a c => by
 have g7 := pe_87 h h2
 have g6 := pe_76 g7
 have g5 := pe_65 g6
 have g4 := pe_54 g5 h1
 have g3 := pe_43 g4
 have g2 := pe_32 g3
 have g1 := pe_21 g2
 rcases (by omega : lv = 1 ∨ lv = 2 ∨ lv = 3 ∨ lv = 4 ∨ lv = 5 ∨ lv = 6 ∨ lv = 7 ∨ lv = 8) with rfl | rfl | rfl | rfl | rfl | rfl | rfl | rfl <;> assumption
theorem pe_int (low : Option Pa) (n : Nat) : PE low 8 [numC n] (.mk 12 n eB []) := fun ts r hb hs => by
 obtain ⟨hc, hr, _⟩ := hb.cons
 have hr := hr.nil
 have hk := (hd_kind hc).1
 have hn := (hd_kind hc).2
 have p : ∀ s, isP s ts = false := fun s => by
  rw [isP_hd hc]
  show (_ && (decide ((2 : Int) = 1) || decide ((2 : Int) = 3))) = false
  rw [Bool.and_eq_false_iff]
  exact .inr (by decide)
 show primG low ts = _
 unfold primG
 rw [if_neg (by rw [p]; decide), if_neg (by rw [p]; decide), if_pos (show (hd ts).kind = 2 from hk), show (hd ts).n = n from hn, hr]
end Go.Proofs.YtmodkpibkkpcdaaGreatDoor.Vm
namespace Go.Proofs.YtmodkpibkkpcdaaGreatDoor.Vm
open Go.RowKit Go.Shelf
set_option linter.unusedSimpArgs false
set_option linter.unusedVariables false
set_option maxRecDepth 100000
theorem wrd_hd {s : ByteArray} {ts r : List Tk} {b : List Co} (hb : Beg (wrdC s :: b) ts r) : (∀ x, isP x ts = decide (s = x)) ∧ isNm ts = (!(keyL ++ builtL).any fun x => decide (s = x)) ∧ isBi ts = (builtL.any fun x => decide (s = x)) ∧ (hd ts).text = s ∧ (hd ts).kind = 1 ∧ Beg b ts.tail r := by
 obtain ⟨hc, hr, _⟩ := hb.cons
 have e : bs (wrdC s).text = s := bs_data s
 refine ⟨fun x => ?_, ?_, ?_, ?_, (hd_kind hc).1, hr⟩
 ·rw [isP_hd hc, e, show (decide ((wrdC s).kind = 1) || decide ((wrdC s).kind = 3)) = true from rfl, Bool.and_true]
 ·rw [isNm_hd hc, e, show decide ((wrdC s).kind = 1) = true from rfl, Bool.true_and]
 ·rw [isBi_hd hc, e, show decide ((wrdC s).kind = 1) = true from rfl, Bool.true_and]
 ·rw [hd_text hc, e]
theorem sym_hd {s : ByteArray} {ts r : List Tk} {b : List Co} (hb : Beg (symC s :: b) ts r) : (∀ x, isP x ts = decide (s = x)) ∧ (hd ts).text = s ∧ (hd ts).kind = 3 ∧ Beg b ts.tail r := by
 obtain ⟨hc, hr, _⟩ := hb.cons
 have e : bs (symC s).text = s := bs_data s
 refine ⟨fun x => ?_, ?_, (hd_kind hc).1, hr⟩
 ·rw [isP_hd hc, e, show (decide ((symC s).kind = 1) || decide ((symC s).kind = 3)) = true from rfl, Bool.and_true]
 ·rw [hd_text hc, e]
theorem varL_no : ∀ s ∈ varL, decide (s = pLp) = false ∧ decide (s = wDraw) = false ∧ decide (s = wTrue) = false ∧ decide (s = wFalse) = false ∧ ((keyL ++ builtL).any fun x => decide (s = x)) = false := by decide
theorem builtL_no : ∀ s ∈ builtL, decide (s = pLp) = false ∧ decide (s = wDraw) = false ∧ decide (s = wTrue) = false ∧ decide (s = wFalse) = false ∧ ((keyL ++ builtL).any fun x => decide (s = x)) = true ∧ (builtL.any fun x => decide (s = x)) = true := by decide
theorem pe_var (low : Option Pa) (s : ByteArray) (h : s ∈ varL) : PE low 8 [wrdC s] (.mk 14 0 s []) := fun ts r hb hs => by
 obtain ⟨p, q, _, t, k, hr⟩ := wrd_hd hb
 have hr := hr.nil
 obtain ⟨a1, a2, a3, a4, a5⟩ := varL_no s h
 show primG low ts = _
 unfold primG
 rw [p, p, p, p, a1, a2, a3, a4, q, a5, k, t, hr]
 rfl
theorem pe_bui (low : Option Pa) (s : ByteArray) (h : s ∈ builtL) : PE low 8 [wrdC s] (.mk 15 0 s []) := fun ts r hb hs => by
 obtain ⟨p, q, u, t, k, hr⟩ := wrd_hd hb
 have hr := hr.nil
 obtain ⟨a1, a2, a3, a4, a5, a6⟩ := builtL_no s h
 show primG low ts = _
 unfold primG
 rw [p, p, p, p, a1, a2, a3, a4, q, a5, k, u, a6, t, hr]
 rfl
theorem noS_sym {s : ByteArray} {ts r : List Tk} {b : List Co} (hb : Beg (symC s :: b) ts r) (l : List ByteArray) (h : (l.any fun x => decide (s = x)) = false) : noS l ts := by
 obtain ⟨p, _⟩ := sym_hd hb
 unfold noS anyT
 rw [show (fun x => isP x ts) = fun x => decide (s = x) from funext p]
 exact h
theorem nest_ok (p : Pa) (low : Option Pa) (hp : p.ex = expG low) (b : List Co) (f : Nt) (h : PE low 1 b f) : ∀ ts r, Beg (symC pLp :: b ++ [symC pRp]) ts r → nestG (some p) ts = .ok f r := fun ts r hb => by
 have hb : Beg (symC pLp :: (b ++ [symC pRp])) ts r := hb
 obtain ⟨q, _, _, hr⟩ := sym_hd hb
 obtain ⟨u, h1, h2⟩ := hr.app
 have h3 : expG low ts.tail = .ok f u := h ts.tail u h1 ⟨noS_sym h2 _ (by decide), noS_sym h2 _ (by decide), noS_sym h2 _ (by decide), noS_sym h2 _ (by decide), noS_sym h2 _ (by decide)⟩
 obtain ⟨q2, _, _, hr2⟩ := sym_hd h2
 have hr2 := hr2.nil
 unfold nestG
 rw [q, if_pos (by decide)]
 show (p.ex ts.tail).andThen _ = _
 rw [hp, h3]
 show xpt pRp u _ = _
 unfold xpt
 rw [q2, if_pos (by decide), hr2]
theorem pe_par (p : Pa) (low : Option Pa) (hp : p.ex = expG low) (b : List Co) (f : Nt) (h : PE low 1 b f) : PE (some p) 8 (symC pLp :: b ++ [symC pRp]) f := fun ts r hb hs => by
 have h1 := nest_ok p low hp b f h ts r hb
 obtain ⟨q, _⟩ := sym_hd (b := b ++ [symC pRp]) hb
 show primG (some p) ts = _
 unfold primG
 rw [q, if_pos (by decide)]
 exact h1
theorem pe_drw (p : Pa) (low : Option Pa) (hp : p.ex = expG low) (b : List Co) (f : Nt) (h : PE low 1 b f) : PE (some p) 8 (wrdC wDraw :: symC pLp :: b ++ [symC pRp]) (.mk 16 0 eB [f]) := fun ts r hb hs => by
 obtain ⟨q, _, _, _, k, hr⟩ := wrd_hd (b := symC pLp :: b ++ [symC pRp]) hb
 have h1 := nest_ok p low hp b f h ts.tail r hr
 show primG (some p) ts = _
 unfold primG
 rw [q, q, if_neg (by decide), if_pos (by decide), h1]
 rfl
end Go.Proofs.YtmodkpibkkpcdaaGreatDoor.Vm
namespace Go.Proofs.YtmodkpibkkpcdaaGreatDoor.Vm
open Go.RowKit Go.Shelf
set_option linter.unusedSimpArgs false
set_option linter.unusedVariables false
set_option maxRecDepth 100000
theorem pe_bool (low : Option Pa) (n : Nat) (hn : n < 2) : PE low 8 [wrdC (tfB n)] (.mk 13 n eB []) := fun ts r hb hs => by
 rcases (by omega : n = 0 ∨ n = 1) with rfl | rfl
 ·have hb : Beg [wrdC wFalse] ts r := hb
  obtain ⟨p, _, _, t, k, hr⟩ := wrd_hd hb
  have hr := hr.nil
  show primG low ts = _
  unfold primG
  rw [p, p, p, p, if_neg (by decide), if_neg (by decide), if_neg (by rw [k]; decide), if_neg (by decide), if_pos (by decide), hr]
  rfl
 ·have hb : Beg [wrdC wTrue] ts r := hb
  obtain ⟨p, _, _, t, k, hr⟩ := wrd_hd hb
  have hr := hr.nil
  show primG low ts = _
  unfold primG
  rw [p, p, p, if_neg (by decide), if_neg (by decide), if_neg (by rw [k]; decide), if_pos (by decide), hr]
  rfl
theorem pe_neg (p : Pa) (low : Option Pa) (hp : p.un = unaG low) (b : List Co) (f : Nt) (h : PE low 7 b f) : PE (some p) 7 (symC pMinus :: b) (.mk 17 0 pMinus [f]) := fun ts r hb hs => by
 obtain ⟨q, _, _, hr⟩ := sym_hd hb
 have h1 : unaG low ts.tail = .ok f r := h ts.tail r hr trivial
 show unaG (some p) ts = _
 unfold unaG preG
 rw [q, if_pos (by decide)]
 show (p.un ts.tail).andThen _ = _
 rw [hp, h1]
 rfl
theorem pe_not (p : Pa) (low : Option Pa) (hp : p.no = ntG low) (b : List Co) (f : Nt) (h : PE low 3 b f) : PE (some p) 3 (symC pNot :: b) (.mk 17 0 pNot [f]) := fun ts r hb hs => by
 obtain ⟨q, _, _, hr⟩ := sym_hd hb
 have h1 : ntG low ts.tail = .ok f r := h ts.tail r hr hs
 show ntG (some p) ts = _
 unfold ntG preG
 rw [q, if_pos (by decide)]
 show (p.no ts.tail).andThen _ = _
 rw [hp, h1]
 rfl
end Go.Proofs.YtmodkpibkkpcdaaGreatDoor.Vm
namespace Go.Proofs.YtmodkpibkkpcdaaGreatDoor.Vm
open Go.RowKit Go.Shelf
set_option linter.unusedSimpArgs false
set_option linter.unusedVariables false
set_option maxRecDepth 100000
def CH (op : List Tk → Pn) (signs : List ByteArray) (stop : List Tk → Prop) (b : List Co) (f : Nt) : Prop := ∀ ts r, Beg b ts r → stop r → ∃ n, r.length ≤ n ∧ chnF op signs ts = chnGo op signs n f r
theorem ch_one {op : List Tk → Pn} {signs : List ByteArray} {stop : List Tk → Prop} {b : List Co} {f : Nt} (h : ∀ ts r, Beg b ts r → stop r → op ts = .ok f r) : CH op signs stop b f := fun ts r hb hs => ⟨r.length, Nat.le_refl _, by unfold chnF; rw [h ts r hb hs]; rfl⟩
theorem ch_more {op : List Tk → Pn} {signs : List ByteArray} {stop : List Tk → Prop} {b b2 : List Co} {f g : Nt} (o : ByteArray) (hf : CH op signs stop b f) (ho : (signs.any fun x => decide (o = x)) = true) (hst : ∀ ts r, Beg (symC o :: b2) ts r → stop ts) (hg : ∀ ts r, Beg b2 ts r → stop r → op ts = .ok g r) : CH op signs stop (b ++ symC o :: b2) (.mk 18 0 o [f, g]) := fun ts r hb hs => by
 obtain ⟨u, h1, h2⟩ := hb.app
 obtain ⟨n, hn, e⟩ := hf ts u h1 (hst u r h2)
 obtain ⟨q, t, _, hr⟩ := sym_hd h2
 have hl := h2.len
 have hl2 := hr.len
 have ha : anyT signs u = true := by
  unfold anyT
  rw [show (fun x => isP x u) = fun x => decide (o = x) from funext q]
  exact ho
 obtain ⟨m, rfl⟩ : ∃ m, n = m + 1 := ⟨n - 1, by simp at hl; omega⟩
 refine ⟨m, by simp at hl; omega, ?_⟩
 rw [e, chnGo, if_pos ha, hg _ r hr hs, t]
 rfl
theorem ch_end {op : List Tk → Pn} {signs : List ByteArray} {stop : List Tk → Prop} {b : List Co} {f : Nt} (h : CH op signs stop b f) : ∀ ts r, Beg b ts r → stop r → noS signs r → chnF op signs ts = .ok f r := fun ts r hb hs hn => by
 obtain ⟨n, _, e⟩ := h ts r hb hs
 rw [e]
 cases n with
 | zero => rfl
 | succ n => rw [chnGo, if_neg (by rw [show anyT signs r = false from hn]; decide)]
end Go.Proofs.YtmodkpibkkpcdaaGreatDoor.Vm
namespace Go.Proofs.YtmodkpibkkpcdaaGreatDoor.Vm
open Go.RowKit Go.Shelf
set_option linter.unusedSimpArgs false
set_option linter.unusedVariables false
set_option maxRecDepth 100000
def lowOf : Nat → Option Pa
 | 0 => none
 | d + 1 => some (pa d)
theorem pa_lowOf : ∀ d, pa d = paG (lowOf d)
 | 0 => rfl
 | _ + 1 => rfl
def CE (low : Option Pa) (lv : Nat) (signs : List ByteArray) (b : List Co) (f : Nt) : Prop := CH (opE low (lv + 1)) signs (StE (lv + 1)) b f
structure XI (low : Option Pa) (t : Int → List Co) (f : Nt) : Prop where
 pe : ∀ lv : Nat, 1 ≤ lv → lv ≤ 8 → PE low lv (t lv) f
 c6 : CE low 6 [pStar, pSlash] (t 6) f
 c5 : CE low 5 [pPlus, pMinus] (t 5) f
 nn : ∀ lv : Int, NotS pNot (t lv)
structure XB (low : Option Pa) (t : Int → List Co) (f : Nt) : Prop where
 pe : ∀ lv : Nat, 1 ≤ lv → lv ≤ 8 → PE low lv (t lv) f
 c2 : CE low 2 [pAnd] (t 2) f
 c1 : CE low 1 [pOr] (t 1) f
def mulL : List ByteArray := [pStar, pSlash]
def addL : List ByteArray := [pPlus, pMinus]
theorem pe_65c {low : Option Pa} {b : List Co} {f : Nt} (h : CE low 6 [pStar, pSlash] b f) : PE low 6 b f := fun ts r hb hs => ch_end h ts r hb trivial hs
theorem pe_5c {low : Option Pa} {b : List Co} {f : Nt} (h : CE low 5 [pPlus, pMinus] b f) : PE low 5 b f := fun ts r hb hs => ch_end h ts r hb hs.1 hs.2
theorem pe_2c {low : Option Pa} {b : List Co} {f : Nt} (h : CE low 2 [pAnd] b f) : PE low 2 b f := fun ts r hb hs => ch_end h ts r hb ⟨hs.1, hs.2.1, hs.2.2.1⟩ hs.2.2.2
theorem pe_1c {low : Option Pa} {b : List Co} {f : Nt} (h : CE low 1 [pOr] b f) : PE low 1 b f := fun ts r hb hs => ch_end h ts r hb ⟨hs.1, hs.2.1, hs.2.2.1, hs.2.2.2.1⟩ hs.2.2.2.2
theorem ce_one {low : Option Pa} {lv : Nat} {signs : List ByteArray} {b : List Co} {f : Nt} (h : PE low (lv + 1) b f) : CE low lv signs b f := ch_one h
theorem pe_down {low : Option Pa} {b : List Co} {f : Nt} (hn : NotS pNot b) (h : PE low 5 b f) : ∀ lv : Nat, 1 ≤ lv → lv ≤ 5 → PE low lv b f := fun lv a c => by
 have g4 := pe_54 h hn
 have g3 := pe_43 g4
 have g2 := pe_32 g3
 have g1 := pe_21 g2
 rcases (by omega : lv = 1 ∨ lv = 2 ∨ lv = 3 ∨ lv = 4 ∨ lv = 5) with rfl | rfl | rfl | rfl | rfl <;> assumption
theorem parT_cases (p lv : Int) (fu : Bool) (l : List Co) (hl : lv ≤ 8) : (parT p lv fu l = l ∧ lv ≤ p) ∨ (parT p lv fu l = symC pLp :: l ++ [symC pRp] ∧ p < 8) := by
 unfold parT
 by_cases h : p < lv
 ·rw [if_pos h]; exact .inr ⟨rfl, by omega⟩
 ·rw [if_neg h]
  cases fu with
  | false => exact .inl ⟨rfl, by omega⟩
  | true =>
   rw [if_pos rfl]
   by_cases h8 : p < 8
   ·rw [if_pos h8]; exact .inr ⟨rfl, h8⟩
   ·rw [if_neg h8]; exact .inl ⟨rfl, by omega⟩
theorem pe_paren {n : Nat} {b : List Co} {f : Nt} (h : PE (lowOf n) 1 b f) : ∀ lv : Nat, 1 ≤ lv → lv ≤ 8 → PE (lowOf (n + 1)) lv (symC pLp :: b ++ [symC pRp]) f := by
 have h1 := pe_par (pa n) (lowOf n) (by rw [pa_lowOf]; rfl) b f h
 exact pe_all h1 (by show bs (symC pLp).text ≠ pNot; decide) (by show bs (symC pLp).text ≠ pMinus; decide)
theorem XI.leaf {low : Option Pa} {t : Int → List Co} {b : List Co} {f : Nt} (ht : ∀ lv, lv ≤ 8 → t lv = b) (h : PE low 8 b f) (h1 : NotS pNot b) (h2 : NotS pMinus b) (hnn : ∀ lv, NotS pNot (t lv)) : XI low t f where
 pe := fun lv a c => by rw [ht lv (by omega)]; exact pe_all h h1 h2 lv a c
 c6 := by rw [ht 6 (by omega)]; exact ce_one (pe_all h h1 h2 7 (by omega) (by omega))
 c5 := by rw [ht 5 (by omega)]; exact ce_one (pe_all h h1 h2 6 (by omega) (by omega))
 nn := hnn
theorem XB.leaf {low : Option Pa} {t : Int → List Co} {b : List Co} {f : Nt} (ht : ∀ lv, lv ≤ 8 → t lv = b) (h : PE low 8 b f) (h1 : NotS pNot b) (h2 : NotS pMinus b) : XB low t f where
 pe := fun lv a c => by rw [ht lv (by omega)]; exact pe_all h h1 h2 lv a c
 c2 := by rw [ht 2 (by omega)]; exact ce_one (pe_all h h1 h2 3 (by omega) (by omega))
 c1 := by rw [ht 1 (by omega)]; exact ce_one (pe_all h h1 h2 2 (by omega) (by omega))
theorem notS_par {p lv : Int} {fu : Bool} {b : List Co} (h : NotS pNot b) : NotS pNot (parT p lv fu b) := by
 have h1 : NotS pNot (symC pLp :: b ++ [symC pRp]) := by show bs (symC pLp).text ≠ pNot; decide
 unfold parT
 split
 ·exact h1
 ·split
  ·split
   ·exact h1
   ·exact h
  ·exact h
theorem notS_app {s : ByteArray} {b c : List Co} (h : NotS s b) : NotS s (b ++ c) := by
 cases b with
 | nil => exact h.elim
 | cons x b => exact h
theorem XI.node {n : Nat} {p : Nat} {fu : Bool} {b : List Co} {f : Nt} (hp : 5 ≤ p ∧ p ≤ 8) (hlow : PE (lowOf n) 1 b f) (hb : ∀ lv : Nat, 1 ≤ lv → lv ≤ p → PE (lowOf (n + 1)) lv b f) (h6 : p = 6 → CE (lowOf (n + 1)) 6 [pStar, pSlash] b f) (h5 : p = 5 → CE (lowOf (n + 1)) 5 [pPlus, pMinus] b f) (hn : NotS pNot b) : XI (lowOf (n + 1)) (fun lv => parT p lv fu b) f := by
 have hq := pe_paren hlow
 have hpe : ∀ lv : Nat, 1 ≤ lv → lv ≤ 8 → PE (lowOf (n + 1)) lv (parT p lv fu b) f := fun lv a c => by
  rcases parT_cases p lv fu b (by omega) with ⟨e, h⟩ | ⟨e, h⟩
  ·rw [e]; exact hb lv a (by omega)
  ·rw [e]; exact hq lv a c
 refine ⟨hpe, ?_, ?_, fun lv => notS_par hn⟩
 ·show CE _ 6 _ (parT p 6 fu b) f
  rcases parT_cases p 6 fu b (by omega) with ⟨e, h⟩ | ⟨e, h⟩
  ·rw [e]
   by_cases h0 : p = 6
   ·exact h6 h0
   ·exact ce_one (hb 7 (by omega) (by omega))
  ·rw [e]; exact ce_one (hq 7 (by omega) (by omega))
 ·show CE _ 5 _ (parT p 5 fu b) f
  rcases parT_cases p 5 fu b (by omega) with ⟨e, h⟩ | ⟨e, h⟩
  ·rw [e]
   by_cases h0 : p = 5
   ·exact h5 h0
   ·exact ce_one (hb 6 (by omega) (by omega))
  ·rw [e]; exact ce_one (hq 6 (by omega) (by omega))
theorem XB.node {n : Nat} {p : Nat} {fu : Bool} {b : List Co} {f : Nt} (hp : 1 ≤ p ∧ p ≤ 4) (hlow : PE (lowOf n) 1 b f) (hb : ∀ lv : Nat, 1 ≤ lv → lv ≤ p → PE (lowOf (n + 1)) lv b f) (h2 : p = 2 → CE (lowOf (n + 1)) 2 [pAnd] b f) (h1 : p = 1 → CE (lowOf (n + 1)) 1 [pOr] b f) : XB (lowOf (n + 1)) (fun lv => parT p lv fu b) f := by
 have hq := pe_paren hlow
 have hpe : ∀ lv : Nat, 1 ≤ lv → lv ≤ 8 → PE (lowOf (n + 1)) lv (parT p lv fu b) f := fun lv a c => by
  rcases parT_cases p lv fu b (by omega) with ⟨e, h⟩ | ⟨e, h⟩
  ·rw [e]; exact hb lv a (by omega)
  ·rw [e]; exact hq lv a c
 refine ⟨hpe, ?_, ?_⟩
 ·show CE _ 2 _ (parT p 2 fu b) f
  rcases parT_cases p 2 fu b (by omega) with ⟨e, h⟩ | ⟨e, h⟩
  ·rw [e]
   by_cases h0 : p = 2
   ·exact h2 h0
   ·exact ce_one (hb 3 (by omega) (by omega))
  ·rw [e]; exact ce_one (hq 3 (by omega) (by omega))
 ·show CE _ 1 _ (parT p 1 fu b) f
  rcases parT_cases p 1 fu b (by omega) with ⟨e, h⟩ | ⟨e, h⟩
  ·rw [e]
   by_cases h0 : p = 1
   ·exact h1 h0
   ·exact ce_one (hb 2 (by omega) (by omega))
  ·rw [e]; exact ce_one (hq 2 (by omega) (by omega))
theorem parT_8 {lv : Int} {fu : Bool} {b : List Co} (h : lv ≤ 8) : parT 8 lv fu b = b := by
 rcases parT_cases 8 lv fu b h with ⟨e, _⟩ | ⟨_, h⟩
 ·exact e
 ·omega
variable {fu : Bool}
theorem leaf_no {n : Nat} : NotS pNot [numC n] ∧ NotS pMinus [numC n] := by
 have h : ∀ s : ByteArray, firstB s ≠ firstB (bs (decS n)) → bs (decS n) ≠ s := fun s h e => h (by rw [e])
 have hf := decS_first n
 constructor
 ·refine h pNot ?_
  intro e; rw [← e] at hf; exact absurd hf (by decide)
 ·refine h pMinus ?_
  intro e; rw [← e] at hf; exact absurd hf (by decide)
theorem wrd_no {s : ByteArray} (h : s ≠ pNot ∧ s ≠ pMinus) : NotS pNot [wrdC s] ∧ NotS pMinus [wrdC s] := by
 have e : bs (wrdC s).text = s := bs_data s
 exact ⟨by show bs (wrdC s).text ≠ _; rw [e]; exact h.1, by show bs (wrdC s).text ≠ _; rw [e]; exact h.2⟩
theorem xi_num (n m : Nat) : XI (lowOf m) (tkN fu (.mk 12 n eB [])) (.mk 12 n eB []) :=
 XI.leaf (b := [numC n]) (fun lv h => parT_8 h) (pe_int _ n) leaf_no.1 leaf_no.2 fun lv => notS_par leaf_no.1
theorem xi_txt (s : ByteArray) (m : Nat) (k : Int) (hk : k = 14 ∨ k = 15) (h : PE (lowOf m) 8 [wrdC s] (.mk k 0 s [])) (hs : s ≠ pNot ∧ s ≠ pMinus) : XI (lowOf m) (tkN fu (.mk k 0 s [])) (.mk k 0 s []) := by
 rcases hk with rfl | rfl
 ·exact XI.leaf (b := [wrdC s]) (fun lv h => parT_8 h) h (wrd_no hs).1 (wrd_no hs).2 fun lv => notS_par (wrd_no hs).1
 ·exact XI.leaf (b := [wrdC s]) (fun lv h => parT_8 h) h (wrd_no hs).1 (wrd_no hs).2 fun lv => notS_par (wrd_no hs).1
theorem varL_s : ∀ s ∈ varL, s ≠ pNot ∧ s ≠ pMinus := by decide
theorem builtL_s : ∀ s ∈ builtL, s ≠ pNot ∧ s ≠ pMinus := by decide
theorem low_pos {n : Nat} (h : 1 ≤ n) : lowOf n = some (pa (n - 1)) := by
 obtain ⟨k, rfl⟩ : ∃ k, n = k + 1 := ⟨n - 1, by omega⟩
 rfl
theorem xi_ei {d : Nat} {f : Nt} (h : EI d f) : ∀ n, 2 * d ≤ n → XI (lowOf n) (tkN fu f) f := by
 induction h with
 | lit d n h => intro m _; obtain ⟨k, rfl, _⟩ := litL_n n h; exact xi_num k m
 | var d s h => intro m _; exact xi_txt s m 14 (.inl rfl) (pe_var _ s h) (varL_s s h)
 | nam d s h => intro m _; exact xi_txt s m 15 (.inr rfl) (pe_bui _ s h) (builtL_s s h)
 | drw d f h ih =>
  intro n hn
  have h1 := (ih (n - 1) (by omega)).pe 1 (by omega) (by omega)
  have h2 := pe_drw (pa (n - 1)) (lowOf (n - 1)) (by rw [pa_lowOf]; rfl) (tkN fu f 1) f h1
  rw [← low_pos (by omega)] at h2
  have q1 : ∀ s, s = pNot ∨ s = pMinus → NotS s (wrdC wDraw :: symC pLp :: tkN fu f 1 ++ [symC pRp]) := fun s hs => by
   show bs (wrdC wDraw).text ≠ s
   rcases hs with rfl | rfl <;> decide
  exact XI.leaf (fun lv h => parT_8 h) h2 (q1 _ (.inl rfl)) (q1 _ (.inr rfl)) fun lv => notS_par (q1 _ (.inl rfl))
 | neg d f h ih =>
  intro n hn
  have key : ∀ m, 2 * d + 1 ≤ m → PE (lowOf m) 7 (symC pMinus :: tkN fu f 7) (.mk 17 0 pMinus [f]) := fun m hm => by
   have h2 := pe_neg (pa (m - 1)) (lowOf (m - 1)) (by rw [pa_lowOf]; rfl) (tkN fu f 7) f ((ih (m - 1) (by omega)).pe 7 (by omega) (by omega))
   rw [← low_pos (by omega)] at h2
   exact h2
  have hno : NotS pNot (symC pMinus :: tkN fu f 7) := by show bs (symC pMinus).text ≠ pNot; decide
  have all : ∀ m, 2 * d + 1 ≤ m → ∀ lv : Nat, 1 ≤ lv → lv ≤ 7 → PE (lowOf m) lv (symC pMinus :: tkN fu f 7) (.mk 17 0 pMinus [f]) := fun m hm lv a c => by
   have g7 := key m hm
   have g6 := pe_76 g7
   by_cases h5 : lv ≤ 5
   ·exact pe_down hno (pe_65 g6) lv a h5
   ·rcases (by omega : lv = 6 ∨ lv = 7) with rfl | rfl <;> assumption
  obtain ⟨m, rfl⟩ : ∃ m, n = m + 1 := ⟨n - 1, by omega⟩
  exact XI.node (p := 7) (by omega) (all m (by omega) 1 (by omega) (by omega)) (all (m + 1) (by omega)) (by omega) (by omega) hno
 | bin d s f g hs h1 h2 i1 i2 =>
  intro n hn
  obtain ⟨m, rfl⟩ : ∃ m, n = m + 1 := ⟨n - 1, by omega⟩
  have hop : (prec6 18 s = 6 ∧ (s = pStar ∨ s = pSlash)) ∨ (prec6 18 s = 5 ∧ (s = pPlus ∨ s = pMinus)) := by
   unfold opL at hs
   simp only [List.mem_cons, List.not_mem_nil, or_false] at hs
   rcases hs with rfl | rfl | rfl | rfl <;> decide
  rcases hop with ⟨hp, ho⟩ | ⟨hp, ho⟩
  ·have e : ∀ lv, tkN fu (.mk 18 0 s [f, g]) lv = parT 6 lv fu (tkN fu f 6 ++ symC s :: tkN fu g 7) := fun lv => by
    show parT (prec6 18 s) lv fu (tkN fu f (if prec6 18 s = 4 then 5 else prec6 18 s) ++ symC s :: tkN fu g (prec6 18 s + 1)) = _
    rw [hp]; rfl
   have hno : NotS pNot (tkN fu f 6 ++ symC s :: tkN fu g 7) := notS_app ((i1 (2 * d) (Nat.le_refl _)).nn 6)
   have hc : ∀ m, 2 * d ≤ m → CE (lowOf m) 6 [pStar, pSlash] (tkN fu f 6 ++ symC s :: tkN fu g 7) (.mk 18 0 s [f, g]) := fun m hm =>
    ch_more s (i1 m hm).c6 (by rcases ho with rfl | rfl <;> decide) (fun _ _ _ => trivial) ((i2 m hm).pe 7 (by omega) (by omega))
   have all : ∀ m, 2 * d ≤ m → ∀ lv : Nat, 1 ≤ lv → lv ≤ 6 → PE (lowOf m) lv (tkN fu f 6 ++ symC s :: tkN fu g 7) (.mk 18 0 s [f, g]) := fun m hm lv a c => by
    have g6 := pe_65c (hc m hm)
    by_cases h5 : lv ≤ 5
    ·exact pe_down hno (pe_65 g6) lv a h5
    ·rcases (by omega : lv = 6) with rfl; exact g6
   rw [show tkN fu (.mk 18 0 s [f, g]) = fun lv => parT 6 lv fu (tkN fu f 6 ++ symC s :: tkN fu g 7) from funext e]
   exact XI.node (p := 6) (by omega) (all m (by omega) 1 (by omega) (by omega)) (all (m + 1) (by omega)) (fun _ => hc (m + 1) (by omega)) (by omega) hno
  ·have e : ∀ lv, tkN fu (.mk 18 0 s [f, g]) lv = parT 5 lv fu (tkN fu f 5 ++ symC s :: tkN fu g 6) := fun lv => by
    show parT (prec6 18 s) lv fu (tkN fu f (if prec6 18 s = 4 then 5 else prec6 18 s) ++ symC s :: tkN fu g (prec6 18 s + 1)) = _
    rw [hp]; rfl
   have hno : NotS pNot (tkN fu f 5 ++ symC s :: tkN fu g 6) := notS_app ((i1 (2 * d) (Nat.le_refl _)).nn 5)
   have hc : ∀ m, 2 * d ≤ m → CE (lowOf m) 5 [pPlus, pMinus] (tkN fu f 5 ++ symC s :: tkN fu g 6) (.mk 18 0 s [f, g]) := fun m hm =>
    ch_more s (i1 m hm).c5 (by rcases ho with rfl | rfl <;> decide) (fun ts r hb => noS_sym hb _ (by rcases ho with rfl | rfl <;> decide)) ((i2 m hm).pe 6 (by omega) (by omega))
   have all : ∀ m, 2 * d ≤ m → ∀ lv : Nat, 1 ≤ lv → lv ≤ 5 → PE (lowOf m) lv (tkN fu f 5 ++ symC s :: tkN fu g 6) (.mk 18 0 s [f, g]) := fun m hm lv a c => pe_down hno (pe_5c (hc m hm)) lv a c
   rw [show tkN fu (.mk 18 0 s [f, g]) = fun lv => parT 5 lv fu (tkN fu f 5 ++ symC s :: tkN fu g 6) from funext e]
   exact XI.node (p := 5) (by omega) (all m (by omega) 1 (by omega) (by omega)) (all (m + 1) (by omega)) (by omega) (fun _ => hc (m + 1) (by omega)) hno
theorem xb_eb {d : Nat} {f : Nt} (h : EB d f) : ∀ n, 2 * d + 1 ≤ n → XB (lowOf n) (tkN fu f) f := by
 induction h with
 | lit d n h =>
  intro m _
  have hs : tfB n ≠ pNot ∧ tfB n ≠ pMinus := by
   rcases (by omega : n = 0 ∨ n = 1) with rfl | rfl <;> decide
  exact XB.leaf (b := [wrdC (tfB n)]) (fun lv h => parT_8 h) (pe_bool _ n h) (wrd_no hs).1 (wrd_no hs).2
 | nt d f h ih =>
  intro n hn
  have key : ∀ m, 2 * d + 2 ≤ m → PE (lowOf m) 3 (symC pNot :: tkN fu f 3) (.mk 17 0 pNot [f]) := fun m hm => by
   have h2 := pe_not (pa (m - 1)) (lowOf (m - 1)) (by rw [pa_lowOf]; rfl) (tkN fu f 3) f ((ih (m - 1) (by omega)).pe 3 (by omega) (by omega))
   rw [← low_pos (by omega)] at h2
   exact h2
  have all : ∀ m, 2 * d + 2 ≤ m → ∀ lv : Nat, 1 ≤ lv → lv ≤ 3 → PE (lowOf m) lv (symC pNot :: tkN fu f 3) (.mk 17 0 pNot [f]) := fun m hm lv a c => by
   have g3 := key m hm
   have g2 := pe_32 g3
   have g1 := pe_21 g2
   rcases (by omega : lv = 1 ∨ lv = 2 ∨ lv = 3) with rfl | rfl | rfl <;> assumption
  obtain ⟨m, rfl⟩ : ∃ m, n = m + 1 := ⟨n - 1, by omega⟩
  exact XB.node (p := 3) (by omega) (all m (by omega) 1 (by omega) (by omega)) (all (m + 1) (by omega)) (by omega) (by omega)
 | bin d s f g hs h1 h2 i1 i2 =>
  intro n hn
  obtain ⟨m, rfl⟩ : ∃ m, n = m + 1 := ⟨n - 1, by omega⟩
  have hop : s = pAnd ∨ s = pOr := by
   unfold bolL at hs
   simpa only [List.mem_cons, List.not_mem_nil, or_false] using hs
  rcases hop with rfl | rfl
  ·have e : ∀ lv, tkN fu (.mk 18 0 pAnd [f, g]) lv = parT 2 lv fu (tkN fu f 2 ++ symC pAnd :: tkN fu g 3) := fun lv => rfl
   have hc : ∀ m, 2 * d + 1 ≤ m → CE (lowOf m) 2 [pAnd] (tkN fu f 2 ++ symC pAnd :: tkN fu g 3) (.mk 18 0 pAnd [f, g]) := fun m hm =>
    ch_more pAnd (i1 m hm).c2 (by decide) (fun ts r hb => ⟨noS_sym hb _ (by decide), noS_sym hb _ (by decide), noS_sym hb _ (by decide)⟩) ((i2 m hm).pe 3 (by omega) (by omega))
   have all : ∀ m, 2 * d + 1 ≤ m → ∀ lv : Nat, 1 ≤ lv → lv ≤ 2 → PE (lowOf m) lv (tkN fu f 2 ++ symC pAnd :: tkN fu g 3) (.mk 18 0 pAnd [f, g]) := fun m hm lv a c => by
    have g2 := pe_2c (hc m hm)
    have g1 := pe_21 g2
    rcases (by omega : lv = 1 ∨ lv = 2) with rfl | rfl <;> assumption
   rw [show tkN fu (.mk 18 0 pAnd [f, g]) = fun lv => parT 2 lv fu (tkN fu f 2 ++ symC pAnd :: tkN fu g 3) from funext e]
   exact XB.node (p := 2) (by omega) (all m (by omega) 1 (by omega) (by omega)) (all (m + 1) (by omega)) (fun _ => hc (m + 1) (by omega)) (by omega)
  ·have e : ∀ lv, tkN fu (.mk 18 0 pOr [f, g]) lv = parT 1 lv fu (tkN fu f 1 ++ symC pOr :: tkN fu g 2) := fun lv => rfl
   have hc : ∀ m, 2 * d + 1 ≤ m → CE (lowOf m) 1 [pOr] (tkN fu f 1 ++ symC pOr :: tkN fu g 2) (.mk 18 0 pOr [f, g]) := fun m hm =>
    ch_more pOr (i1 m hm).c1 (by decide) (fun ts r hb => ⟨noS_sym hb _ (by decide), noS_sym hb _ (by decide), noS_sym hb _ (by decide), noS_sym hb _ (by decide)⟩) ((i2 m hm).pe 2 (by omega) (by omega))
   have all : ∀ m, 2 * d + 1 ≤ m → ∀ lv : Nat, 1 ≤ lv → lv ≤ 1 → PE (lowOf m) lv (tkN fu f 1 ++ symC pOr :: tkN fu g 2) (.mk 18 0 pOr [f, g]) := fun m hm lv a c => by
    obtain rfl : lv = 1 := by omega
    exact pe_1c (hc m hm)
   rw [show tkN fu (.mk 18 0 pOr [f, g]) = fun lv => parT 1 lv fu (tkN fu f 1 ++ symC pOr :: tkN fu g 2) from funext e]
   exact XB.node (p := 1) (by omega) (all m (by omega) 1 (by omega) (by omega)) (all (m + 1) (by omega)) (by omega) (fun _ => hc (m + 1) (by omega))
 | cmp d s f g hs h1 h2 =>
  intro n hn
  obtain ⟨m, rfl⟩ : ∃ m, n = m + 1 := ⟨n - 1, by omega⟩
  have hp : prec6 18 s = 4 ∧ (cmpL.any fun x => decide (s = x)) = true ∧ (mulL.any fun x => decide (s = x)) = false ∧ (addL.any fun x => decide (s = x)) = false := by
   unfold cmpL at hs
   simp only [List.mem_cons, List.not_mem_nil, or_false] at hs
   rcases hs with rfl | rfl | rfl | rfl | rfl | rfl <;> decide
  have e : ∀ lv, tkN fu (.mk 18 0 s [f, g]) lv = parT 4 lv fu (tkN fu f 5 ++ symC s :: tkN fu g 5) := fun lv => by
   show parT (prec6 18 s) lv fu (tkN fu f (if prec6 18 s = 4 then 5 else prec6 18 s) ++ symC s :: tkN fu g (prec6 18 s + 1)) = _
   rw [hp.1]; rfl
  have key : ∀ m, 2 * d ≤ m → PE (lowOf m) 4 (tkN fu f 5 ++ symC s :: tkN fu g 5) (.mk 18 0 s [f, g]) := fun m hm ts r hb hs => by
   obtain ⟨u, q1, q2⟩ := hb.app
   have x1 := xi_ei (fu := fu) h1 m (by omega)
   have x2 := xi_ei (fu := fu) h2 m (by omega)
   have hno := notS_hd (x1.nn 5) q1
   have y1 : sumG (lowOf m) ts = .ok f u := x1.pe 5 (by omega) (by omega) ts u q1 ⟨noS_sym q2 _ hp.2.2.1, noS_sym q2 _ hp.2.2.2⟩
   obtain ⟨p, t, _, hr⟩ := sym_hd q2
   have y2 : sumG (lowOf m) u.tail = .ok g r := x2.pe 5 (by omega) (by omega) u.tail r hr ⟨hs.1, hs.2.1⟩
   show ntG (lowOf m) ts = _
   unfold ntG
   rw [if_neg (by rw [hno]; decide), y1]
   show (if anyT cmpL u = true then _ else _) = _
   rw [if_pos (by unfold anyT; rw [show (fun x => isP x u) = fun x => decide (s = x) from funext p]; exact hp.2.1), y2, t]
   rfl
  have all : ∀ m, 2 * d ≤ m → ∀ lv : Nat, 1 ≤ lv → lv ≤ 4 → PE (lowOf m) lv (tkN fu f 5 ++ symC s :: tkN fu g 5) (.mk 18 0 s [f, g]) := fun m hm lv a c => by
   have g4 := key m hm
   have g3 := pe_43 g4
   have g2 := pe_32 g3
   have g1 := pe_21 g2
   rcases (by omega : lv = 1 ∨ lv = 2 ∨ lv = 3 ∨ lv = 4) with rfl | rfl | rfl | rfl <;> assumption
  rw [show tkN fu (.mk 18 0 s [f, g]) = fun lv => parT 4 lv fu (tkN fu f 5 ++ symC s :: tkN fu g 5) from funext e]
  exact XB.node (p := 4) (by omega) (all m (by omega) 1 (by omega) (by omega)) (all (m + 1) (by omega)) (by omega) (by omega)
end Go.Proofs.YtmodkpibkkpcdaaGreatDoor.Vm
