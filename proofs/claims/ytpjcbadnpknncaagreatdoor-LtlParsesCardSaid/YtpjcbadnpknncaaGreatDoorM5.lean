/- Texts 5 of the proof: T47, T20, T21, T22, T23, T24, T30, T31, T25, T26, VmH, T27, T32, T33, T28, T34, T29, T35, T48, T49, T50, T51, T52, T53, T54. -/
import Derived.Test.YtpjcbadnpknncaaGreatDoorM4
/- The reference's decimals of all integers. -/
namespace Go.Proofs.YtpjcbadnpknncaaGreatDoor.Vm
open Go.RowKit Go.Shelf
set_option linter.unusedSimpArgs false
set_option linter.unusedVariables false
set_option maxRecDepth 100000
/-- The digits of a number that is not 0. -/
def decD (n : Nat) : List UInt8 := if h : n = 0 then [] else decD (n / 10) ++ [UInt8.ofNat (48 + n % 10)]
decreasing_by omega
theorem decD_zero : decD 0 = [] := by unfold decD; simp
theorem decD_pos {n : Nat} (h : n ≠ 0) : decD n = decD (n / 10) ++ [UInt8.ofNat (48 + n % 10)] := by
  rw [decD]; simp [h]
def decS (n : Nat) : List UInt8 := if n = 0 then [48] else decD n
theorem decD_len : ∀ (k n : Nat), n < 10 ^ k → (decD n).length ≤ k
  | k, 0, _ => by rw [decD_zero]; simp
  | 0, n + 1, h => by simp at h
  | k + 1, n + 1, h => by
    rw [decD_pos (by omega), List.length_append]
    have := decD_len k ((n + 1) / 10) (by rw [Nat.pow_succ] at h; omega)
    simp only [List.length_cons, List.length_nil]; omega
def digB : ByteArray := ⟨#[48, 49, 50, 51, 52, 53, 54, 55, 56, 57]⟩
theorem dig_cut (k : Nat) (i j : Nat) (hi : i = k % 10) (hj : j = k % 10 + 1) : digB.extract i j = bs [UInt8.ofNat (48 + k % 10)] := by
  subst hi; subst hj
  have h : ∀ d, d < 10 → digB.extract d (d + 1) = bs [UInt8.ofNat (48 + d)] := by decide +kernel
  exact h _ (Nat.mod_lt _ (by omega))
theorem bs_app (a b : List UInt8) : bs a ++ bs b = bs (a ++ b) := by
  apply ByteArray.ext
  apply Array.toList_inj.1
  simp [bs]
theorem decimal_spec (n : Nat) (hn : n < 1000000000000) : Spec Tryz.prog 32 [] [.v (.int .i64 n)] fun _ r => r = strA (bs (decS n)) := by
  have hlen := decD_len 12 n hn
  refine spec_of (cx_ok ord0 xs0 0) (fun _ _ h => h) Tryz.func32 rfl (by kernel_rfl) rfl (by kernel_rfl) ?_
  intro hok
  conv => whnf
  by_cases h0 : n = 0
  · subst h0
    (refine goA ?_; try with_reducible exact trivial)
    rfl
  · (refine goA ?_; try with_reducible exact trivial)
    refine loop_keep [0, 3] ?_
    conv => whnf
    refine loop_go (fun x : Nat × List UInt8 => [(4, .v (.string (bs x.2))), (5, .v (.int .i64 x.1))]) (fun _ => []) (fun _ => []) (fun x => x.1 ≤ n ∧ decD x.1 ++ x.2 = decD n ∧ x.2.length ≤ 12) (fun x => x.1) (n, []) ?_ ⟨Nat.le_refl _, by simp, by simp⟩ ?_
    · repeat' constructor
    · rintro ⟨k, l⟩ ⟨hk, hd, hl⟩
      simp only at hk hd hl
      have hll : (decD k).length + l.length ≤ 12 := by
        have := congrArg List.length hd
        rw [List.length_append] at this; omega
      conv => whnf
      by_cases hk0 : k = 0
      · subst hk0
        rw [decD_zero, List.nil_append] at hd
        (refine goA ?_; try with_reducible exact trivial)
        have : decS n = l := by unfold decS; rw [if_neg h0, hd]
        rw [this]; rfl
      · have hm : (((k, l).1 : Nat) : Int).tmod 10 = ((k % 10 : Nat) : Int) := by
          show ((k : Int)).tmod 10 = _
          rw [Int.tmod_eq_emod_of_nonneg (by omega)]; omega
        have hq : (((k, l).1 : Nat) : Int).tdiv 10 = ((k / 10 : Nat) : Int) := by
          show ((k : Int)).tdiv 10 = _
          rw [Int.tdiv_eq_ediv_of_nonneg (by omega)]; omega
        (refine goA ?_; try with_reducible exact trivial)
        rw [hm]
        conv => whnf
        (refine goA ?_; try with_reducible exact trivial)
        refine ⟨⟨by omega, by omega, by show _ ≤ (10 : Int); omega⟩, ?_⟩
        rw [show (⟨#[48, 49, 50, 51, 52, 53, 54, 55, 56, 57]⟩ : ByteArray).extract (Int.toNat ((k % 10 : Nat) : Int)) (Int.toNat (((k % 10 : Nat) : Int) + 1)) = bs [UInt8.ofNat (48 + k % 10)] from dig_cut k _ _ (by omega) (by omega)]
        conv => whnf
        refine ⟨by rw [bs_size, bs_size]; show 1 + l.length ≤ maxLen; unfold maxLen; omega, ?_⟩
        rw [show bs [UInt8.ofNat (48 + k % 10)] ++ bs ((k, l).2) = bs (UInt8.ofNat (48 + k % 10) :: l) from bs_app _ _]
        conv => whnf
        (refine goA ?_; try with_reducible exact trivial)
        rw [hq]
        have hd2 : decD (k / 10) ++ UInt8.ofNat (48 + k % 10) :: l = decD n := by
          rw [← hd, decD_pos hk0]; simp
        repeat ((with_reducible refine And.intro ?_ ?_); (focus (first | omega | (with_reducible refine i64r ?_; (first | omega | (simp only [List.length_append, List.length_cons, List.length_nil, List.length_map, ByteArray.size_append]; omega) | (dsimp only; omega))) | (with_reducible refine max_le ?_; (first | omega | (simp only [List.length_append, List.length_cons, List.length_nil, List.length_map, ByteArray.size_append]; omega) | (dsimp only; omega))) | ((fail_if_success (with_reducible refine max_le ?_)); decide) | (simp only [List.length_append, List.length_cons, List.length_nil, List.length_map, ByteArray.size_append]; omega) | (dsimp only; omega) | ((with_reducible refine i64r ?_); dsimp only; omega))); (conv => whnf))
        refine ⟨(k / 10, UInt8.ofNat (48 + k % 10) :: l), le_head ?_, ⟨by show k / 10 ≤ n; omega, hd2, ?_⟩, by show k / 10 < k; omega⟩
        · repeat' constructor
        · have := congrArg List.length hd2
          rw [List.length_append] at this
          show (UInt8.ofNat (48 + k % 10) :: l).length ≤ 12
          omega
theorem decimal_neg (n : Nat) (h0 : n ≠ 0) (hn : n < 1000000000000) : Spec Tryz.prog 32 [] [.v (.int .i64 (-(n : Int)))] fun _ r => r = strA (bs (45 :: decD n)) := by
  have hlen := decD_len 12 n hn
  refine spec_of (cx_ok ord0 xs0 0) (fun _ _ h => h) Tryz.func32 rfl (by kernel_rfl) rfl (by kernel_rfl) ?_
  intro hok
  conv => whnf
  rw [decide_eq_false (show ¬ -(n : Int) = 0 by omega)]
  (refine goA ?_; try with_reducible exact trivial)
  refine loop_keep [0, 3] ?_
  conv => whnf
  refine loop_go (fun x : Nat × List UInt8 => [(4, .v (.string (bs x.2))), (5, .v (.int .i64 (-(x.1 : Int))))]) (fun _ => []) (fun _ => []) (fun x => x.1 ≤ n ∧ decD x.1 ++ x.2 = decD n ∧ x.2.length ≤ 12) (fun x => x.1) (n, []) ?_ ⟨Nat.le_refl _, by simp, by simp⟩ ?_
  · repeat' constructor
  · rintro ⟨k, l⟩ ⟨hk, hd, hl⟩
    simp only at hk hd hl
    have hll : (decD k).length + l.length ≤ 12 := by
      have := congrArg List.length hd
      rw [List.length_append] at this; omega
    conv => whnf
    by_cases hk0 : k = 0
    · subst hk0
      rw [decD_zero, List.nil_append] at hd
      (refine goA ?_; try with_reducible exact trivial)
      refine ⟨by rw [show (bs (0, l).snd).size = l.length from bs_size _]; show 1 + l.length ≤ maxLen; unfold maxLen; omega, ?_⟩
      rw [show (⟨#[45]⟩ : ByteArray) ++ bs ((0, l).2) = bs (45 :: l) from bs_app [45] _, hd]
      (refine goA ?_; try with_reducible exact trivial)
      rfl
    · have hm : (-(((k, l).1 : Nat) : Int)).tmod 10 = -((k % 10 : Nat) : Int) := by
        show (-(k : Int)).tmod 10 = _
        rw [Int.neg_tmod, Int.tmod_eq_emod_of_nonneg (by omega)]; omega
      have hq : (-(((k, l).1 : Nat) : Int)).tdiv 10 = -((k / 10 : Nat) : Int) := by
        show (-(k : Int)).tdiv 10 = _
        rw [Int.neg_tdiv, Int.tdiv_eq_ediv_of_nonneg (by omega)]; omega
      (refine goA ?_; try with_reducible exact trivial)
      rw [hm]
      have hcut : (⟨#[48, 49, 50, 51, 52, 53, 54, 55, 56, 57]⟩ : ByteArray).extract (Int.toNat ((k % 10 : Nat) : Int)) (Int.toNat (((k % 10 : Nat) : Int) + 1)) = bs [UInt8.ofNat (48 + k % 10)] := dig_cut k _ _ (by omega) (by omega)
      have hd2 : decD (k / 10) ++ UInt8.ofNat (48 + k % 10) :: l = decD n := by
        rw [← hd, decD_pos hk0]; simp
      have hln : (UInt8.ofNat (48 + k % 10) :: l).length ≤ 12 := by
        have := congrArg List.length hd2
        rw [List.length_append] at this
        omega
      have hm9 : k % 10 < 10 := Nat.mod_lt _ (by omega)
      have hcut0 : k % 10 = 0 → (⟨#[48, 49, 50, 51, 52, 53, 54, 55, 56, 57]⟩ : ByteArray).extract (Int.toNat (-((k % 10 : Nat) : Int))) (Int.toNat (-((k % 10 : Nat) : Int) + 1)) = bs [UInt8.ofNat (48 + k % 10)] := fun h => dig_cut k _ _ (by omega) (by omega)
      generalize k % 10 = r at *
      by_cases hr : r = 0
      · rw [decide_eq_false (show ¬ -(r : Int) < 0 by omega)]
        conv => whnf
        (refine goA ?_; try with_reducible exact trivial)
        refine ⟨⟨by omega, by omega, by show _ ≤ (10 : Int); omega⟩, ?_⟩
        rw [hcut0 hr]
        conv => whnf
        refine ⟨by rw [bs_size, bs_size]; show 1 + l.length ≤ maxLen; unfold maxLen; omega, ?_⟩
        rw [show bs [UInt8.ofNat (48 + r)] ++ bs ((k, l).2) = bs (UInt8.ofNat (48 + r) :: l) from bs_app _ _]
        conv => whnf
        (refine goA ?_; try with_reducible exact trivial)
        rw [hq]
        repeat ((with_reducible refine And.intro ?_ ?_); (focus (first | omega | (with_reducible refine i64r ?_; (first | omega | (simp only [List.length_append, List.length_cons, List.length_nil, List.length_map, ByteArray.size_append]; omega) | (dsimp only; omega))) | (with_reducible refine max_le ?_; (first | omega | (simp only [List.length_append, List.length_cons, List.length_nil, List.length_map, ByteArray.size_append]; omega) | (dsimp only; omega))) | ((fail_if_success (with_reducible refine max_le ?_)); decide) | (simp only [List.length_append, List.length_cons, List.length_nil, List.length_map, ByteArray.size_append]; omega) | (dsimp only; omega) | ((with_reducible refine i64r ?_); dsimp only; omega))); (conv => whnf))
        refine ⟨(k / 10, UInt8.ofNat (48 + r) :: l), le_head ?_, ⟨by show k / 10 ≤ n; omega, hd2, hln⟩, by show k / 10 < k; omega⟩
        repeat' constructor
      · rw [decide_eq_true (show -(r : Int) < 0 by omega)]
        conv => whnf
        (refine goA ?_; try with_reducible exact trivial)
        refine ⟨⟨by omega, by omega, by show _ ≤ (10 : Int); omega⟩, ?_⟩
        rw [show (0 - -(r : Int)) = r by omega, hcut]
        conv => whnf
        refine ⟨by rw [bs_size, bs_size]; show 1 + l.length ≤ maxLen; unfold maxLen; omega, ?_⟩
        rw [show bs [UInt8.ofNat (48 + r)] ++ bs ((k, l).2) = bs (UInt8.ofNat (48 + r) :: l) from bs_app _ _]
        conv => whnf
        (refine goA ?_; try with_reducible exact trivial)
        rw [hq]
        repeat ((with_reducible refine And.intro ?_ ?_); (focus (first | omega | (with_reducible refine i64r ?_; (first | omega | (simp only [List.length_append, List.length_cons, List.length_nil, List.length_map, ByteArray.size_append]; omega) | (dsimp only; omega))) | (with_reducible refine max_le ?_; (first | omega | (simp only [List.length_append, List.length_cons, List.length_nil, List.length_map, ByteArray.size_append]; omega) | (dsimp only; omega))) | ((fail_if_success (with_reducible refine max_le ?_)); decide) | (simp only [List.length_append, List.length_cons, List.length_nil, List.length_map, ByteArray.size_append]; omega) | (dsimp only; omega) | ((with_reducible refine i64r ?_); dsimp only; omega))); (conv => whnf))
        refine ⟨(k / 10, UInt8.ofNat (48 + r) :: l), le_head ?_, ⟨by show k / 10 ≤ n; omega, hd2, hln⟩, by show k / 10 < k; omega⟩
        repeat' constructor
/-- The digits of an integer. -/
def decZ (z : Int) : List UInt8 := if z < 0 then 45 :: decD z.natAbs else decS z.natAbs
theorem decZ_spec (z : Int) (h1 : -1000000000000 < z) (h2 : z < 1000000000000) : Spec Tryz.prog 32 [] [.v (.int .i64 z)] fun _ r => r = strA (bs (decZ z)) := by
  unfold decZ
  by_cases h : z < 0
  · rw [if_pos h]
    have := decimal_neg z.natAbs (by omega) (by omega)
    rw [show -((z.natAbs : Nat) : Int) = z by omega] at this
    exact this
  · rw [if_neg h]
    have := decimal_spec z.natAbs (by omega)
    rw [show ((z.natAbs : Nat) : Int) = z by omega] at this
    exact this
theorem decZ_len (z : Int) (h1 : -1000000000000 < z) (h2 : z < 1000000000000) : (decZ z).length ≤ 13 := by
  unfold decZ decS
  have := decD_len 12 z.natAbs (by omega)
  split
  · simp only [List.length_cons]; omega
  · split
    · simp
    · omega
end Go.Proofs.YtpjcbadnpknncaaGreatDoor.Vm
/- The reference: join. -/
namespace Go.Proofs.YtpjcbadnpknncaaGreatDoor.Vm
open Go.RowKit Go.Shelf
set_option linter.unusedSimpArgs false
set_option linter.unusedVariables false
set_option maxRecDepth 100000
def oppC (kind : Int) (f : Fm) : Bool := decide (f.k = oppF kind) && decide (f.kids.length = 0)
def addR (out : List Fm) (f : Fm) : List Fm := if out.any (fun g => eqM g f) = true then out else out ++ [f]
def finR (kind : Int) (l : List Fm) : Fm := match l with
  | [f] => f
  | l => .mk kind 0 0 0 l
def rGo (kind : Int) : List Fm → List Fm → Fm
  | [], out => finR kind out
  | f :: r, out => if oppC kind f = true then f else rGo kind r (addR out f)
def rjoinF (kind : Int) (l : List Fm) : Fm := rGo kind (flatJ kind l) []
theorem flat_take (kind : Int) (l : List Fm) (k : Nat) (h : k < l.length) : flatJ kind (l.take (k + 1)) = flatJ kind (l.take k) ++ partsF kind l[k] := by
  rw [List.take_add_one, List.getElem?_eq_getElem h]
  unfold flatJ
  rw [List.flatMap_append]
  simp
theorem flat_le (kind : Int) (l : List Fm) (k : Nat) : (flatJ kind (l.take k)).length ≤ (flatJ kind l).length := by
  have : flatJ kind l = flatJ kind (l.take k) ++ flatJ kind (l.drop k) := by
    unfold flatJ
    rw [← List.flatMap_append, List.take_append_drop]
  rw [this, List.length_append]
  omega
theorem any_take (out : List Fm) (p : Fm → Bool) (m : Nat) (h : m < out.length) : (out.take (m + 1)).any p = ((out.take m).any p || p out[m]) := by
  rw [List.take_add_one, List.getElem?_eq_getElem h, List.any_append]
  simp
theorem fms_drop (l : List Fm) (m : Nat) (h : m < l.length) : List.drop (Int.toNat (m : Int) * 5) (fmsA l) = fmA l[m] ++ fmsA (l.drop (m + 1)) := by
  have e : l = l.take m ++ (l[m] :: l.drop (m + 1)) := by rw [← List.drop_eq_getElem_cons h, List.take_append_drop]
  conv => lhs; rw [e]
  rw [fmsA_app, List.drop_append, fmsA_cons]
  have hl : (fmsA (l.take m)).length = m * 5 := by rw [fmsA_len, List.length_take]; omega
  rw [hl, Int.toNat_natCast, Nat.sub_self, List.drop_zero, List.drop_of_length_le (by omega), List.nil_append]
/-- The orders of join's regions. -/
def ordJn (id : Nat) : Tr := match Nat.beq id 12 with
  | true => .q 0 7 .nil
  | false => match Nat.beq id 18 with
    | true => .q 0 3 (.q 1 3 (.q 2 3 (.q 3 3 (.q 4 3 (.q 6 3 (.q 7 3 (.q 8 3 (.alt 5 2 (.alt 9 2 (.alt 10 2 (.q 11 3 (.q 12 3 .nil)) .nil) .nil) (.alt 9 2 (.alt 5 2 (.alt 10 2 (.q 11 3 (.q 12 3 .nil)) .nil) .nil) .nil)))))))))
    | false => .nil
end Go.Proofs.YtpjcbadnpknncaaGreatDoor.Vm
/- The reference: S. -/
namespace Go.Proofs.YtpjcbadnpknncaaGreatDoor.Vm
open Go.RowKit Go.Shelf
set_option linter.unusedSimpArgs false
set_option linter.unusedVariables false
set_option maxRecDepth 100000
def sK (k a b n : Int) (ks : List Fm) : Fm :=
  if k = 2 then notF (g0 ks)
  else if k = 3 ∨ k = 4 then rjoinF k ks
  else if k = 5 ∨ k = 7 ∨ k = 8 then (if isC (g0 ks) = true then g0 ks else .mk k a b n ks)
  else if k = 6 then (if (isC (g1 ks) || eqM (g0 ks) (constF false)) = true then g1 ks else .mk k a b n ks)
  else .mk k a b n ks
mutual
def sF : Fm → Fm
  | .mk k a b n l => if fewF k l.length = true then .mk k a b n l else sK k a b n (sFs l)
def sFs : List Fm → List Fm
  | [] => []
  | f :: l => sF f :: sFs l
end
theorem sFs_map : ∀ l : List Fm, sFs l = l.map sF
  | [] => by unfold sFs; rfl
  | f :: l => by unfold sFs; rw [sFs_map l]; rfl
theorem sF_mk (k a b n : Int) (l : List Fm) : sF (.mk k a b n l) = if fewF k l.length = true then .mk k a b n l else sK k a b n (l.map sF) := by
  rw [← sFs_map]
  conv => lhs; unfold sF
mutual
/-- S can be applied. -/
def FitT : Fm → Prop
  | .mk k _ _ _ l => l.length ≤ 1000000000000 ∧ (k = 3 ∨ k = 4 → JB k (sFs l)) ∧ FitTs l
def FitTs : List Fm → Prop
  | [] => True
  | f :: l => FitT f ∧ FitTs l
end
theorem fitTs_mem : ∀ {l : List Fm} {f : Fm}, FitTs l → f ∈ l → FitT f
  | g :: l, f, h, hf => by
    unfold FitTs at h
    rcases List.mem_cons.1 hf with rfl | hf
    · exact h.1
    · exact fitTs_mem h.2 hf
theorem fitTs_mk : ∀ {l : List Fm}, (∀ f ∈ l, FitT f) → FitTs l
  | [], _ => by unfold FitTs; trivial
  | g :: l, h => by unfold FitTs; exact ⟨h g (by simp), fitTs_mk fun f hf => h f (by simp [hf])⟩
theorem fitT_mk {k a b n : Int} {l : List Fm} (h0 : l.length ≤ 1000000000000) (h1 : k = 3 ∨ k = 4 → JB k (l.map sF)) (h2 : ∀ f ∈ l, FitT f) : FitT (.mk k a b n l) := by
  unfold FitT
  rw [sFs_map]
  exact ⟨h0, h1, fitTs_mk h2⟩
theorem fitT_of {k a b n : Int} {l : List Fm} (h : FitT (.mk k a b n l)) : l.length ≤ 1000000000000 ∧ (k = 3 ∨ k = 4 → JB k (l.map sF)) ∧ ∀ f ∈ l, FitT f := by
  unfold FitT at h
  rw [sFs_map] at h
  exact ⟨h.1, h.2.1, fun f hf => fitTs_mem h.2.2 hf⟩
/-- The end of a round: rows that are appended to no more. -/
theorem le_pubK {np : Nat} {t : List A} {bx : List (List A)} {rw : List Row} {s2 : S} (ids : List Nat)
    (h : forceR (pubRows rw ids) fun rw' => mapK (subA rw') t fun t' => subBK rw' bx fun bx' => Le np ⟨t', bx', rw'⟩ s2) : Le np ⟨t, bx, rw⟩ s2 := by
  rw [forceR_iff, mapK_iff, subBK_iff] at h
  exact ((le_pub (s := ⟨t, bx, rw⟩) ids).trans le_sub).trans h
end Go.Proofs.YtpjcbadnpknncaaGreatDoor.Vm
/- The reference: step. -/
namespace Go.Proofs.YtpjcbadnpknncaaGreatDoor.Vm
open Go.RowKit Go.Shelf
set_option linter.unusedSimpArgs false
set_option linter.unusedVariables false
set_option maxRecDepth 100000
def stK (v : List Int) (k a b n : Int) (l P : List Fm) : Fm :=
  if k = 1 then constF (cmpV b (atV v a) n)
  else if k = 5 then g0 l
  else if k = 7 then .mk 3 0 0 0 [g0 P, .mk k a b n l]
  else if k = 8 then .mk 4 0 0 0 [g0 P, .mk k a b n l]
  else if k = 6 then .mk 4 0 0 0 [g1 P, .mk 3 0 0 0 [g0 P, .mk k a b n l]]
  else .mk k 0 0 0 P
mutual
def stF (v : List Int) : Fm → Fm
  | .mk k a b n l => if fewF k l.length = true then .mk k a b n l else stK v k a b n l (stFs v l)
def stFs (v : List Int) : List Fm → List Fm
  | [] => []
  | f :: l => stF v f :: stFs v l
end
theorem stFs_map (v : List Int) : ∀ l : List Fm, stFs v l = l.map (stF v)
  | [] => by unfold stFs; rfl
  | f :: l => by unfold stFs; rw [stFs_map v l]; rfl
theorem stF_mk (v : List Int) (k a b n : Int) (l : List Fm) : stF v (.mk k a b n l) = if fewF k l.length = true then .mk k a b n l else stK v k a b n l (l.map (stF v)) := by
  rw [← stFs_map]
  conv => lhs; unfold stF
theorem g0_mapS {v : List Int} {l P : List Fm} (hP : l.map (stF v) = P) (h : 0 < l.length) : stF v (g0 l) = g0 P := by
  subst hP
  unfold g0
  rw [List.getD_eq_getElem?_getD, List.getD_eq_getElem?_getD, List.getElem?_map, List.getElem?_eq_getElem h]; rfl
theorem g1_mapS {v : List Int} {l P : List Fm} (hP : l.map (stF v) = P) (h : 1 < l.length) : stF v (g1 l) = g1 P := by
  subst hP
  unfold g1
  rw [List.getD_eq_getElem?_getD, List.getD_eq_getElem?_getD, List.getElem?_map, List.getElem?_eq_getElem h]; rfl
theorem g0_mem {l : List Fm} (h : 0 < l.length) : g0 l ∈ l := by
  unfold g0
  rw [List.getD_eq_getElem?_getD, List.getElem?_eq_getElem h]
  exact List.getElem_mem h
theorem g1_mem {l : List Fm} (h : 1 < l.length) : g1 l ∈ l := by
  unfold g1
  rw [List.getD_eq_getElem?_getD, List.getElem?_eq_getElem h]
  exact List.getElem_mem h
mutual
/-- step can be applied. -/
def FitU : Fm → Prop
  | .mk k a _ _ l => l.length ≤ 1000000000000 ∧ (k = 1 → 0 ≤ a) ∧ FitUs l
def FitUs : List Fm → Prop
  | [] => True
  | f :: l => FitU f ∧ FitUs l
end
theorem fitUs_mem : ∀ {l : List Fm} {f : Fm}, FitUs l → f ∈ l → FitU f
  | g :: l, f, h, hf => by
    unfold FitUs at h
    rcases List.mem_cons.1 hf with rfl | hf
    · exact h.1
    · exact fitUs_mem h.2 hf
theorem fitUs_mk : ∀ {l : List Fm}, (∀ f ∈ l, FitU f) → FitUs l
  | [], _ => by unfold FitUs; trivial
  | g :: l, h => by unfold FitUs; exact ⟨h g (by simp), fitUs_mk fun f hf => h f (by simp [hf])⟩
end Go.Proofs.YtpjcbadnpknncaaGreatDoor.Vm
/- The reference: Check. -/
namespace Go.Proofs.YtpjcbadnpknncaaGreatDoor.Vm
open Go.RowKit Go.Shelf
set_option linter.unusedSimpArgs false
set_option linter.unusedVariables false
set_option maxRecDepth 100000
/-- From a formula, at a position, through a trace: the reference's. -/
def rrunF : Fm → Int → List (List Int) → Fm × Int
  | f, i, [] => (f, i)
  | f, i, v :: t => if isC f = true then (f, i) else rrunF (sF (stF v f)) (i + 1) t
def verR (r : Fm × Int) : Vd := if isC r.1 = true then ⟨if r.1.k = 4 then 13 else 0, some r.2⟩ else ⟨14, none⟩
theorem verR_mk (g : Fm) (i : Int) : verR (g, i) = if isC g = true then ⟨if g.k = 4 then 13 else 0, some i⟩ else ⟨14, none⟩ := rfl
def rchkF (f : Fm) (t : List (List Int)) : Vd := verR (rrunF (sF f) (-1) t)
/-- The reference's Check can be applied. -/
def FitQ : Fm → List (List Int) → Prop
  | f, [] => True
  | f, v :: t => isC f = true ∨ (FitU f ∧ FitT (stF v f) ∧ FitQ (sF (stF v f)) t)
end Go.Proofs.YtpjcbadnpknncaaGreatDoor.Vm
/- The generator's choices. -/
namespace Go.Proofs.YtpjcbadnpknncaaGreatDoor.Vm
open Go.RowKit Go.Shelf
set_option linter.unusedSimpArgs false
set_option linter.unusedVariables false
set_option maxRecDepth 100000
def pkF (l : List Int) (i : Nat) : Int := if i < l.length then aroundF (l.getD i 0) 1000000 else 0
theorem rPick (l : List Int) (i : Nat) : Spec Tryz.prog 49 [] [.sl 1 l.length (intsA l), intA i, intA 1000000] fun _ r => (0 ≤ pkF l i ∧ pkF l i < 1000000) ∧ r = intA (pkF l i) := by
  unfold pkF
  refine spec_of (cx_ok ord0 xs0 0) (fun _ _ h => h) Tryz.func49 rfl (by kernel_rfl) rfl (by kernel_rfl) ?_
  intro hok
  conv => whnf
  rw [decide_eq_false (show ¬ (i : Int) < 0 by omega)]
  conv => whnf
  by_cases hi : i < l.length
  · have hr := rowOf_ints l i hi
    have e : l.getD i 0 = l[i] := by rw [List.getD_eq_getElem?_getD, List.getElem?_eq_getElem hi]; rfl
    rw [← e] at hr
    rw [if_pos hi, decide_eq_false (show ¬ (l.length : Int) ≤ i by omega)]
    generalize l.getD i 0 = x at *
    have ha := around_spec x 1000000 (by omega)
    conv => whnf
    (refine goA ?_; try with_reducible exact trivial)
    (generalize hrq : rowOf _ _ (intsA l) = rq; obtain rfl : rq = [intA x] := hrq.symm.trans (hr); clear hrq; conv => whnf)
    refine call0 [] rfl (fun _ => ha) ?_
    rintro r ⟨hx, rfl⟩
    conv => whnf
    exact ⟨aroundF_rng hx (by omega), rfl⟩
  · rw [if_neg hi, decide_eq_true (show (l.length : Int) ≤ i by omega)]
    conv => whnf
    exact ⟨by omega, rfl⟩
end Go.Proofs.YtpjcbadnpknncaaGreatDoor.Vm
/- The plain law of formulas: well-formed ones; simplify is S, Progress is S after step. -/
namespace Go.Proofs.YtpjcbadnpknncaaGreatDoor.Vm
open Go.RowKit Go.Shelf
set_option linter.unusedSimpArgs false
set_option linter.unusedVariables false
set_option maxRecDepth 100000
theorem Fm.ind {P : Fm → Prop} (h : ∀ k a b n l, (∀ f ∈ l, P f) → P (.mk k a b n l)) : ∀ f, P f
  | .mk k a b n l => h k a b n l fun f hf => Fm.ind h f
termination_by f => SizeOf.sizeOf f
decreasing_by
  have := List.sizeOf_lt_of_mem hf
  simp only [Fm.mk.sizeOf_spec]
  omega
/-- Well-formed formulas. -/
inductive Wf : Fm → Prop
  | var {a b n : Int} : 0 ≤ a → 0 ≤ b → b ≤ 2 → Wf (.mk 1 a b n [])
  | un {k : Int} {f : Fm} : k = 2 ∨ k = 5 ∨ k = 7 ∨ k = 8 → Wf f → Wf (.mk k 0 0 0 [f])
  | til {f g : Fm} : Wf f → Wf g → Wf (.mk 6 0 0 0 [f, g])
  | jn {k : Int} {l : List Fm} : k = 3 ∨ k = 4 → (∀ f, f ∈ l → Wf f) → Wf (.mk k 0 0 0 l)
theorem wf_const (b : Bool) : Wf (constF b) := by
  unfold constF
  cases b
  · exact .jn (.inr rfl) (by simp)
  · exact .jn (.inl rfl) (by simp)
theorem wf_isC {f : Fm} (h : Wf f) (hc : isC f = true) : f = constF (decide (f.k = 3)) := by
  unfold isC at hc
  cases h with
  | var => simp [Fm.k] at hc
  | un h => simp [Fm.k, Fm.kids] at hc
  | til => simp [Fm.k] at hc
  | jn hk =>
    simp only [Fm.k, Fm.kids, Bool.and_eq_true, decide_eq_true_eq, List.length_eq_zero_iff] at hc
    obtain ⟨_, rfl⟩ := hc
    rcases hk with rfl | rfl <;> rfl
theorem isC_const (b : Bool) : isC (constF b) = true := by cases b <;> rfl
theorem isC_iff {f : Fm} (h : Wf f) : isC f = true ↔ f = constF true ∨ f = constF false := by
  constructor
  · intro hc
    have := wf_isC h hc
    cases hd : decide (f.k = 3) with
    | true => rw [hd] at this; exact .inl this
    | false => rw [hd] at this; exact .inr this
  · rintro (rfl | rfl) <;> rfl
theorem wf_opp {kind : Int} {f : Fm} (hk : kind = 3 ∨ kind = 4) (h : Wf f) (ho : oppC kind f = true) : f = absF kind := by
  unfold oppC oppF at ho
  unfold absF constF
  simp only [Bool.and_eq_true, decide_eq_true_eq, List.length_eq_zero_iff] at ho
  cases h with
  | var => rcases hk with rfl | rfl <;> simp [Fm.k] at ho
  | un h => simp [Fm.kids] at ho
  | til => simp [Fm.kids] at ho
  | jn hk2 =>
    obtain ⟨h1, h2⟩ := ho
    simp only [Fm.k, Fm.kids] at h1 h2
    subst h2
    rcases hk with rfl | rfl
    · simp at h1; subst h1; rfl
    · simp at h1; subst h1; rfl
theorem opp_abs {kind : Int} (hk : kind = 3 ∨ kind = 4) : oppC kind (absF kind) = true := by rcases hk with rfl | rfl <;> rfl
theorem wf_kids {f : Fm} (h : Wf f) : ∀ g ∈ f.kids, Wf g := by
  cases h with
  | var => simp [Fm.kids]
  | un _ h => simp [Fm.kids]; exact h
  | til h1 h2 => simp [Fm.kids]; exact ⟨h1, h2⟩
  | jn _ h => exact h
theorem wf_parts {kind : Int} {f : Fm} (h : Wf f) : ∀ g ∈ partsF kind f, Wf g := by
  unfold partsF
  split
  · exact wf_kids h
  · simpa using h
theorem wf_flat {kind : Int} {l : List Fm} (h : ∀ f ∈ l, Wf f) : ∀ g ∈ flatJ kind l, Wf g := by
  unfold flatJ
  intro g hg
  obtain ⟨f, hf, hg⟩ := List.mem_flatMap.1 hg
  exact wf_parts (h f hf) g hg
theorem eqM_comm (f g : Fm) : eqM f g = eqM g f := by
  have h : eqM f g = true ↔ eqM g f = true := by rw [eqM_iff, eqM_iff]; exact eq_comm
  cases h1 : eqM f g <;> cases h2 : eqM g f <;> simp_all
theorem any_iff {l : List Fm} {f : Fm} : (l.any fun g => eqM g f) = true ↔ f ∈ l := by
  rw [List.any_eq_true]
  constructor
  · rintro ⟨x, hx, he⟩; rw [eqM_iff] at he; exact he ▸ hx
  · intro h; exact ⟨f, h, (eqM_iff f f).2 rfl⟩
theorem add_same (out : List Fm) (f : Fm) : addF out f = addR out f := by
  unfold addF addR
  rw [show (fun g => eqM f g) = fun g => eqM g f from funext fun g => eqM_comm f g]
theorem addR_mem {out : List Fm} {f g : Fm} : g ∈ addR out f ↔ g ∈ out ∨ g = f := by
  unfold addR
  split
  · rename_i h
    rw [any_iff] at h
    constructor
    · exact .inl
    · rintro (h2 | rfl)
      · exact h2
      · exact h
  · simp
theorem fold_mem {l : List Fm} : ∀ {out : List Fm} {g : Fm}, g ∈ l.foldl addF out ↔ g ∈ out ∨ g ∈ l := by
  induction l with
  | nil => simp
  | cons f l ih =>
    intro out g
    rw [List.foldl_cons, ih, add_same, addR_mem, List.mem_cons]
    constructor
    · rintro ((h | h) | h)
      · exact .inl h
      · exact .inr (.inl h)
      · exact .inr (.inr h)
    · rintro (h | h | h)
      · exact .inl (.inl h)
      · exact .inl (.inr h)
      · exact .inr h
theorem rGo_eq {kind : Int} (hk : kind = 3 ∨ kind = 4) : ∀ (flat out : List Fm), (∀ f ∈ flat, Wf f) → absF kind ∉ out → rGo kind flat out = finJ kind (flat.foldl addF out)
  | [], out, _, hn => by
    unfold rGo finJ
    rw [List.foldl_nil, if_neg (by rw [any_iff]; exact hn)]
    rfl
  | f :: flat, out, hw, hn => by
    unfold rGo
    by_cases ho : oppC kind f = true
    · rw [if_pos ho]
      have hf := wf_opp hk (hw f (by simp)) ho
      unfold finJ
      rw [if_pos (by rw [any_iff, fold_mem]; right; rw [hf]; simp)]
      exact hf
    · rw [if_neg ho, rGo_eq hk flat (addR out f) (fun g hg => hw g (by simp [hg])) ?_, List.foldl_cons, add_same]
      intro h
      rcases addR_mem.1 h with h | h
      · exact hn h
      · exact ho (h ▸ opp_abs hk)
theorem join_same {kind : Int} (hk : kind = 3 ∨ kind = 4) {l : List Fm} (hw : ∀ f ∈ l, Wf f) : joinF kind l = rjoinF kind l := by
  unfold joinF rjoinF
  rw [rGo_eq hk _ _ (wf_flat hw) (by simp)]
theorem rGo_pres {Q : Fm → Prop} {kind : Int} (hm : ∀ l : List Fm, (∀ f ∈ l, Q f) → Q (.mk kind 0 0 0 l)) : ∀ (flat out : List Fm), (∀ f ∈ flat, Q f) → (∀ f ∈ out, Q f) → Q (rGo kind flat out)
  | [], out, _, ho => by
    unfold rGo finR
    split
    · exact ho _ (by simp)
    · exact hm _ ho
  | f :: flat, out, hf, ho => by
    unfold rGo
    split
    · exact hf f (by simp)
    · refine rGo_pres hm flat _ (fun g hg => hf g (by simp [hg])) fun g hg => ?_
      rcases addR_mem.1 hg with h | rfl
      · exact ho g h
      · exact hf _ (by simp)
theorem wf_rjoin {kind : Int} (hk : kind = 3 ∨ kind = 4) {l : List Fm} (hw : ∀ f ∈ l, Wf f) : Wf (rjoinF kind l) :=
  rGo_pres (fun l h => .jn hk h) _ _ (wf_flat hw) (by simp)
theorem wf_not {f : Fm} (h : Wf f) : Wf (notF f) := by
  unfold notF oppF
  split
  · split
    · exact wf_const false
    · exact wf_const true
  · split
    · rename_i h2
      cases h with
      | var => simp [Fm.kids] at h2
      | un _ hx => exact hx
      | til hx => exact hx
      | jn hk => rcases hk with rfl | rfl <;> simp [Fm.k] at h2
    · exact .un (.inl rfl) h
/-! ### The equations of S -/
theorem sF_var (a b n : Int) : sF (.mk 1 a b n []) = .mk 1 a b n [] := by rw [sF_mk]; simp [fewF, sK]
theorem sF_not (f : Fm) : sF (.mk 2 0 0 0 [f]) = notF (sF f) := by rw [sF_mk]; simp [fewF, sK, g0]
theorem sF_un {k : Int} (h : k = 5 ∨ k = 7 ∨ k = 8) (f : Fm) : sF (.mk k 0 0 0 [f]) = if isC (sF f) = true then sF f else .mk k 0 0 0 [sF f] := by
  rw [sF_mk]
  rcases h with rfl | rfl | rfl <;> simp [fewF, sK, g0]
theorem sF_til (f g : Fm) : sF (.mk 6 0 0 0 [f, g]) = if (isC (sF g) || eqM (sF f) (constF false)) = true then sF g else .mk 6 0 0 0 [sF f, sF g] := by
  rw [sF_mk]
  simp [fewF, sK, g0, g1]
theorem sF_jn {k : Int} (h : k = 3 ∨ k = 4) (l : List Fm) : sF (.mk k 0 0 0 l) = rjoinF k (l.map sF) := by
  rw [sF_mk]
  rcases h with rfl | rfl <;> simp [fewF, sK]
theorem wf_s {f : Fm} (h : Wf f) : Wf (sF f) := by
  induction h with
  | var h1 h2 h3 => rw [sF_var]; exact .var h1 h2 h3
  | un hk h ih =>
    rename_i k f
    by_cases h2 : k = 2
    · subst h2; rw [sF_not]; exact wf_not ih
    · rw [sF_un (by omega)]
      split
      · exact ih
      · exact .un hk ih
  | til h1 h2 ih1 ih2 =>
    rw [sF_til]
    split
    · exact ih2
    · exact .til ih1 ih2
  | jn hk h ih =>
    rw [sF_jn hk]
    refine wf_rjoin hk fun f hf => ?_
    obtain ⟨g, hg, rfl⟩ := List.mem_map.1 hf
    exact ih g hg
/-! ### simplify is S -/
theorem build_same {k a b n : Int} {ks : List Fm} (hw : Wf (.mk k a b n ks)) : buildK k a b n ks = sK k a b n ks := by
  cases hw with
  | var => simp [buildK, sK]
  | un hk h =>
    rename_i f
    rcases hk with rfl | rfl | rfl | rfl
    · simp only [buildK, sK, g0, notF, oppF]
      simp only [show ¬ ((2 : Int) = 3 ∨ (2 : Int) = 4) by omega, if_false, if_true, List.getD_cons_zero]
      by_cases hc : isC f = true
      · rw [if_pos hc, if_pos hc]
        rcases (isC_iff h).1 hc with rfl | rfl <;> rfl
      · rw [if_neg hc, if_neg hc]
        by_cases h2 : f.k = 2
        · rw [if_pos h2]
          cases h with
          | var => simp [Fm.k] at h2
          | un hk h => simp [Fm.k, Fm.kids] at h2 ⊢; simp [h2]
          | til => simp [Fm.k] at h2
          | jn hk => simp [Fm.k] at h2; omega
        · rw [if_neg h2, if_neg (by simp [h2])]
    · simp [buildK, sK]
    · simp [buildK, sK]
    · simp [buildK, sK]
  | til => simp [buildK, sK]
  | jn hk h =>
    unfold buildK sK
    rw [if_pos hk, if_neg (by omega), if_pos hk]
    exact join_same hk h
theorem wf_mapS {l : List Fm} (h : ∀ f ∈ l, Wf f) : ∀ f ∈ l.map sF, Wf f := fun f hf => by
  obtain ⟨g, hg, rfl⟩ := List.mem_map.1 hf
  exact wf_s (h g hg)
theorem few_wf {k a b n : Int} {l : List Fm} (hw : Wf (.mk k a b n l)) : fewF k l.length = false := by
  cases hw with
  | var => rfl
  | un hk => rcases hk with rfl | rfl | rfl | rfl <;> rfl
  | til => rfl
  | jn hk => rcases hk with rfl | rfl <;> rfl
theorem wf_map {k a b n : Int} {l : List Fm} {q : Fm → Fm} (hw : Wf (.mk k a b n l)) (hq : ∀ f ∈ l, Wf f → Wf (q f)) : Wf (.mk k a b n (l.map q)) := by
  cases hw with
  | var h1 h2 h3 => exact .var h1 h2 h3
  | un hk h => exact .un hk (hq _ (by simp) h)
  | til h1 h2 => exact .til (hq _ (by simp) h1) (hq _ (by simp) h2)
  | jn hk h =>
    refine .jn hk fun f hf => ?_
    obtain ⟨g, hg, rfl⟩ := List.mem_map.1 hf
    exact hq g hg (h g hg)
theorem sim_same : ∀ f : Fm, Wf f → simF f = sF f := Fm.ind fun k a b n l ih hw => by
  rw [simF_mk, sF_mk, if_neg (by rw [few_wf hw]; simp)]
  have e : l.map simF = l.map sF := List.map_congr_left fun f hf => ih f hf (wf_kids hw f hf)
  rw [e]
  exact build_same (wf_map hw fun f _ h => wf_s h)
/-! ### The equations of step -/
theorem st_var (v : List Int) (a b n : Int) : stF v (.mk 1 a b n []) = constF (cmpV b (atV v a) n) := by rw [stF_mk]; simp [fewF, stK]
theorem st_not (v : List Int) (f : Fm) : stF v (.mk 2 0 0 0 [f]) = .mk 2 0 0 0 [stF v f] := by rw [stF_mk]; simp [fewF, stK]
theorem st_next (v : List Int) (f : Fm) : stF v (.mk 5 0 0 0 [f]) = f := by rw [stF_mk]; simp [fewF, stK, g0]
theorem st_alw (v : List Int) (f : Fm) : stF v (.mk 7 0 0 0 [f]) = .mk 3 0 0 0 [stF v f, .mk 7 0 0 0 [f]] := by rw [stF_mk]; simp [fewF, stK, g0]
theorem st_ev (v : List Int) (f : Fm) : stF v (.mk 8 0 0 0 [f]) = .mk 4 0 0 0 [stF v f, .mk 8 0 0 0 [f]] := by rw [stF_mk]; simp [fewF, stK, g0]
theorem st_til (v : List Int) (f g : Fm) : stF v (.mk 6 0 0 0 [f, g]) = .mk 4 0 0 0 [stF v g, .mk 3 0 0 0 [stF v f, .mk 6 0 0 0 [f, g]]] := by rw [stF_mk]; simp [fewF, stK, g0, g1]
theorem st_jn {k : Int} (h : k = 3 ∨ k = 4) (v : List Int) (l : List Fm) : stF v (.mk k 0 0 0 l) = .mk k 0 0 0 (l.map (stF v)) := by
  rw [stF_mk]
  rcases h with rfl | rfl <;> simp [fewF, stK]
theorem wf_two {k : Int} (hk : k = 3 ∨ k = 4) {f g : Fm} (h1 : Wf f) (h2 : Wf g) : Wf (.mk k 0 0 0 [f, g]) := .jn hk fun x hx => by
  simp only [List.mem_cons, List.not_mem_nil, or_false] at hx
  rcases hx with rfl | rfl
  · exact h1
  · exact h2
theorem wf_st (v : List Int) {f : Fm} (h : Wf f) : Wf (stF v f) := by
  induction h with
  | var h1 h2 h3 => rw [st_var]; exact wf_const _
  | un hk h ih =>
    rename_i k f
    rcases hk with rfl | rfl | rfl | rfl
    · rw [st_not]; exact .un (.inl rfl) ih
    · rw [st_next]; exact h
    · rw [st_alw]; exact wf_two (.inl rfl) ih (.un (by simp) h)
    · rw [st_ev]; exact wf_two (.inr rfl) ih (.un (by simp) h)
  | til h1 h2 ih1 ih2 =>
    rw [st_til]
    exact wf_two (.inr rfl) ih2 (wf_two (.inl rfl) ih1 (.til h1 h2))
  | jn hk h ih =>
    rw [st_jn hk]
    refine .jn hk fun f hf => ?_
    obtain ⟨g, hg, rfl⟩ := List.mem_map.1 hf
    exact ih g hg
/-! ### Progress is S after step -/
theorem pro_same (v : List Int) : ∀ f : Fm, Wf f → proF v f = sF (stF v f) := Fm.ind fun k a b n l ih hw => by
  rw [proF_mk]
  have e : l.map (proF v) = l.map (fun f => sF (stF v f)) := List.map_congr_left fun f hf => ih f hf (wf_kids hw f hf)
  rw [e]
  have hsim := sim_same _ hw
  cases hw with
  | var =>
    rw [st_var]
    simp only [proK, if_true]
    generalize cmpV b (atV v a) n = c
    cases c <;> rfl
  | un hk h =>
    rename_i f
    rcases hk with rfl | rfl | rfl | rfl
    · rw [st_not, sF_mk, if_neg (by simp [fewF])]
      simp only [proK, List.map_cons, List.map_nil]
      rw [if_neg (by omega), if_neg (by omega), if_neg (by omega), if_neg (by omega), if_neg (by omega)]
      exact build_same (.un (.inl rfl) (wf_s (wf_st v h)))
    · rw [st_next]
      simp only [proK, g0, List.getD_cons_zero]
      rw [if_neg (by omega), if_pos trivial]
      exact sim_same f h
    · rw [st_alw, sF_jn (.inl rfl)]
      simp only [proK, g0, List.getD_cons_zero, List.map_cons, List.map_nil]
      rw [if_neg (by omega), if_neg (by omega), if_pos trivial, hsim]
      refine join_same (.inl rfl) (wf_kids (wf_two (.inl rfl) (wf_s (wf_st v h)) (wf_s (.un (by simp) h))))
    · rw [st_ev, sF_jn (.inr rfl)]
      simp only [proK, g0, List.getD_cons_zero, List.map_cons, List.map_nil]
      rw [if_neg (by omega), if_neg (by omega), if_neg (by omega), if_pos trivial, hsim]
      refine join_same (.inr rfl) (wf_kids (wf_two (.inr rfl) (wf_s (wf_st v h)) (wf_s (.un (by simp) h))))
  | til h1 h2 =>
    rename_i f g
    rw [st_til, sF_jn (.inr rfl)]
    simp only [proK, g0, g1, List.getD_cons_zero, List.getD_cons_succ, List.map_cons, List.map_nil]
    rw [if_neg (by omega), if_neg (by omega), if_neg (by omega), if_neg (by omega), if_pos trivial, hsim, sF_jn (.inl rfl)]
    simp only [List.map_cons, List.map_nil]
    have w1 := wf_s (.til h1 h2)
    have w2 := wf_s (wf_st v h1)
    have w3 : ∀ x ∈ [sF (stF v f), sF (.mk 6 0 0 0 [f, g])], Wf x := wf_kids (wf_two (.inl rfl) w2 w1)
    rw [join_same (.inl rfl) w3]
    have w4 : ∀ x ∈ [sF (stF v g), rjoinF 3 [sF (stF v f), sF (.mk 6 0 0 0 [f, g])]], Wf x := wf_kids (wf_two (.inr rfl) (wf_s (wf_st v h2)) (wf_rjoin (.inl rfl) w3))
    exact join_same (.inr rfl) w4
  | jn hk h =>
    rw [st_jn hk, sF_jn hk]
    unfold proK
    rw [if_neg (by omega), if_neg (by omega), if_neg (by omega), if_neg (by omega), if_neg (by omega)]
    unfold buildK
    rw [if_pos hk, List.map_map]
    refine join_same hk fun f hf => ?_
    obtain ⟨g, hg, rfl⟩ := List.mem_map.1 hf
    exact wf_s (wf_st v (h g hg))
end Go.Proofs.YtpjcbadnpknncaaGreatDoor.Vm
/- The plain law: sizes; all can be applied. -/
namespace Go.Proofs.YtpjcbadnpknncaaGreatDoor.Vm
open Go.RowKit Go.Shelf
set_option linter.unusedSimpArgs false
set_option linter.unusedVariables false
set_option maxRecDepth 100000
/-! ### Sizes -/
mutual
def nn : Fm → Nat
  | .mk _ _ _ _ l => 1 + nns l
def nns : List Fm → Nat
  | [] => 0
  | f :: l => nn f + nns l
end
mutual
def td : Fm → Nat
  | .mk k _ _ _ l => (if k = 6 ∨ k = 7 ∨ k = 8 then 1 else 0) + tds l
def tds : List Fm → Nat
  | [] => 0
  | f :: l => max (td f) (tds l)
end
theorem nn_mk (k a b n : Int) (l : List Fm) : nn (.mk k a b n l) = 1 + nns l := by
  conv => lhs; unfold nn
theorem nns_nil : nns [] = 0 := by unfold nns; rfl
theorem nns_cons (f : Fm) (l : List Fm) : nns (f :: l) = nn f + nns l := by
  conv => lhs; unfold nns
theorem td_mk (k a b n : Int) (l : List Fm) : td (.mk k a b n l) = (if k = 6 ∨ k = 7 ∨ k = 8 then 1 else 0) + tds l := by
  conv => lhs; unfold td
theorem tds_nil : tds [] = 0 := by unfold tds; rfl
theorem tds_cons (f : Fm) (l : List Fm) : tds (f :: l) = max (td f) (tds l) := by
  conv => lhs; unfold tds
theorem nn_pos (f : Fm) : 1 ≤ nn f := by cases f; rw [nn_mk]; omega
theorem nns_app (l m : List Fm) : nns (l ++ m) = nns l + nns m := by
  induction l with
  | nil => rw [nns_nil]; simp
  | cons f l ih => rw [List.cons_append, nns_cons, nns_cons, ih]; omega
theorem nns_len (l : List Fm) : l.length ≤ nns l := by
  induction l with
  | nil => simp
  | cons f l ih => rw [nns_cons, List.length_cons]; have := nn_pos f; omega
theorem nn_mem {l : List Fm} {f : Fm} (h : f ∈ l) : nn f ≤ nns l := by
  induction l with
  | nil => cases h
  | cons g l ih =>
    rw [nns_cons]
    rcases List.mem_cons.1 h with rfl | h
    · omega
    · have := ih h; omega
theorem td_mem {l : List Fm} {f : Fm} (h : f ∈ l) : td f ≤ tds l := by
  induction l with
  | nil => cases h
  | cons g l ih =>
    rw [tds_cons]
    rcases List.mem_cons.1 h with rfl | h
    · omega
    · have := ih h; omega
theorem tds_le {l : List Fm} {m : Nat} (h : ∀ f ∈ l, td f ≤ m) : tds l ≤ m := by
  induction l with
  | nil => rw [tds_nil]; omega
  | cons g l ih =>
    rw [tds_cons]
    have := h g (by simp)
    have := ih fun f hf => h f (by simp [hf])
    omega
theorem parts_nn (k : Int) (f : Fm) : nns (partsF k f) ≤ nn f := by
  unfold partsF
  split
  · cases f; rw [nn_mk]; simp only [Fm.kids]; omega
  · rw [nns_cons, nns_nil]; omega
theorem flat_nn (k : Int) (l : List Fm) : nns (flatJ k l) ≤ nns l := by
  induction l with
  | nil => unfold flatJ; simp [nns_nil]
  | cons f l ih =>
    rw [show flatJ k (f :: l) = partsF k f ++ flatJ k l from by unfold flatJ; rw [List.flatMap_cons], nns_app, nns_cons]
    have := parts_nn k f
    omega
theorem flat_lenn (k : Int) (l : List Fm) : (flatJ k l).length ≤ nns l := Nat.le_trans (nns_len _) (flat_nn k l)
theorem add_nn (out : List Fm) (f : Fm) : nns (addR out f) ≤ nns out + nn f := by
  unfold addR
  split
  · omega
  · rw [nns_app, nns_cons, nns_nil]; omega
theorem rGo_nn (k : Int) : ∀ flat out : List Fm, nn (rGo k flat out) ≤ 1 + nns flat + nns out
  | [], out => by
    unfold rGo finR
    split
    · rw [nns_cons, nns_nil]; omega
    · rw [nn_mk]; omega
  | f :: flat, out => by
    unfold rGo
    rw [nns_cons]
    split
    · omega
    · have := rGo_nn k flat (addR out f)
      have := add_nn out f
      omega
theorem rjoin_nn (k : Int) (l : List Fm) : nn (rjoinF k l) ≤ 1 + nns l := by
  unfold rjoinF
  have := rGo_nn k (flatJ k l) []
  have := flat_nn k l
  rw [nns_nil] at *
  omega
theorem parts_td (k : Int) (f g : Fm) (h : g ∈ partsF k f) : td g ≤ td f := by
  unfold partsF at h
  split at h
  · cases f; rw [td_mk]; have := td_mem h; simp only [Fm.kids] at this; omega
  · rw [List.mem_singleton.1 h]; omega
theorem rjoin_td {k : Int} (hk : k = 3 ∨ k = 4) {l : List Fm} {m : Nat} (h : ∀ f ∈ l, td f ≤ m) : td (rjoinF k l) ≤ m := by
  unfold rjoinF
  refine rGo_pres (Q := fun f => td f ≤ m) (fun l h => ?_) _ _ (fun f hf => ?_) (by simp)
  · rw [td_mk, if_neg (by omega)]
    have := tds_le h
    omega
  · unfold flatJ at hf
    obtain ⟨g, hg, hf⟩ := List.mem_flatMap.1 hf
    exact Nat.le_trans (parts_td _ _ _ hf) (h g hg)
theorem const_nn (b : Bool) : nn (constF b) = 1 := by unfold constF; rw [nn_mk, nns_nil]
theorem const_td (b : Bool) : td (constF b) = 0 := by unfold constF; rw [td_mk, tds_nil]; cases b <;> simp
theorem not_nn {f : Fm} (h : Wf f) : nn (notF f) ≤ 1 + nn f := by
  unfold notF
  split
  · rw [nn_mk, nns_nil]; omega
  · split
    · rename_i h2
      have : g0 f.kids ∈ f.kids := by
        unfold g0
        rw [List.getD_eq_getElem?_getD, List.getElem?_eq_getElem h2.2]
        exact List.getElem_mem h2.2
      have := nn_mem this
      cases f; rw [nn_mk]; simp only [Fm.kids] at *; omega
    · rw [nn_mk, nns_cons, nns_nil]; omega
theorem not_td {f : Fm} (h : Wf f) : td (notF f) ≤ td f := by
  unfold notF
  split
  · rw [td_mk, tds_nil]; unfold oppF; split <;> simp
  · split
    · rename_i h2
      have : g0 f.kids ∈ f.kids := by
        unfold g0
        rw [List.getD_eq_getElem?_getD, List.getElem?_eq_getElem h2.2]
        exact List.getElem_mem h2.2
      have := td_mem this
      cases f; rw [td_mk]; simp only [Fm.kids] at *; omega
    · rw [td_mk, tds_cons, tds_nil]; simp
theorem nns_map {l : List Fm} {q : Fm → Fm} {c : Nat} (h : ∀ f ∈ l, nn (q f) ≤ c * nn f) : nns (l.map q) ≤ c * nns l := by
  induction l with
  | nil => rw [List.map_nil, nns_nil]; omega
  | cons f l ih =>
    rw [List.map_cons, nns_cons, nns_cons, Nat.mul_add]
    have := h f (by simp)
    have := ih fun g hg => h g (by simp [hg])
    omega
theorem s_size {f : Fm} (h : Wf f) : nn (sF f) ≤ nn f ∧ td (sF f) ≤ td f := by
  induction h with
  | var h1 h2 h3 => rw [sF_var]; exact ⟨Nat.le_refl _, Nat.le_refl _⟩
  | un hk h ih =>
    rename_i k f
    by_cases h2 : k = 2
    · subst h2
      rw [sF_not]
      have := not_nn (wf_s h)
      have := not_td (wf_s h)
      rw [nn_mk, td_mk, nns_cons, nns_nil, tds_cons, tds_nil]
      simp
      omega
    · rw [sF_un (by omega)]
      split
      · rw [nn_mk, td_mk, nns_cons, nns_nil, tds_cons, tds_nil]
        omega
      · rw [nn_mk, td_mk, nns_cons, nns_nil, tds_cons, tds_nil, nn_mk, td_mk, nns_cons, nns_nil, tds_cons, tds_nil]
        omega
  | til h1 h2 ih1 ih2 =>
    rw [sF_til]
    split
    · rw [nn_mk, td_mk, nns_cons, nns_cons, nns_nil, tds_cons, tds_cons, tds_nil]
      omega
    · rw [nn_mk, td_mk, nns_cons, nns_cons, nns_nil, tds_cons, tds_cons, tds_nil, nn_mk, td_mk, nns_cons, nns_cons, nns_nil, tds_cons, tds_cons, tds_nil]
      omega
  | jn hk h ih =>
    rename_i k l
    rw [sF_jn hk]
    constructor
    · have := rjoin_nn k (l.map sF)
      have h2 := nns_map (q := sF) (c := 1) (l := l) fun f hf => by have := (ih f hf).1; omega
      rw [nn_mk]
      omega
    · rw [td_mk]
      refine Nat.le_trans (rjoin_td hk (m := tds l) fun f hf => ?_) (by omega)
      obtain ⟨g, hg, rfl⟩ := List.mem_map.1 hf
      exact Nat.le_trans (ih g hg).2 (td_mem hg)
theorem st_size (v : List Int) {f : Fm} (h : Wf f) : (td f = 0 → nn (stF v f) ≤ nn f) ∧ nn (stF v f) ≤ (2 + td f) * nn f ∧ td (stF v f) ≤ td f := by
  induction h with
  | var h1 h2 h3 => rw [st_var, const_nn, const_td, nn_mk, nns_nil, td_mk, tds_nil]; simp
  | un hk h ih =>
    rename_i k f
    obtain ⟨i1, i2, i3⟩ := ih
    have hp := nn_pos f
    rcases hk with rfl | rfl | rfl | rfl
    · rw [st_not]
      simp only [nn_mk, td_mk, nns_cons, nns_nil, tds_cons, tds_nil]
      simp
      rw [Nat.mul_add]
      omega
    · rw [st_next]
      simp only [nn_mk, td_mk, nns_cons, nns_nil, tds_cons, tds_nil]
      simp
      have := Nat.le_mul_of_pos_left (nn f) (show 0 < 2 + td f by omega)
      rw [Nat.mul_add]
      omega
    all_goals
      first | rw [st_alw] | rw [st_ev]
      simp only [nn_mk, td_mk, nns_cons, nns_nil, tds_cons, tds_nil]
      simp
      rw [show (2 + (1 + td f)) * (1 + nn f) = (2 + td f) * nn f + (2 + td f) + 1 + nn f by rw [show 2 + (1 + td f) = (2 + td f) + 1 by omega, Nat.add_mul, Nat.mul_add]; omega]
      omega
  | til h1 h2 ih1 ih2 =>
    rename_i f g
    obtain ⟨i1, i2, i3⟩ := ih1
    obtain ⟨j1, j2, j3⟩ := ih2
    rw [st_til]
    simp only [nn_mk, td_mk, nns_cons, nns_nil, tds_cons, tds_nil]
    simp
    have e1 := Nat.mul_le_mul_right (nn f) (show 2 + td f ≤ 2 + max (td f) (td g) by omega)
    have e2 := Nat.mul_le_mul_right (nn g) (show 2 + td g ≤ 2 + max (td f) (td g) by omega)
    have m1 := Nat.le_max_left (td f) (td g)
    have m2 := Nat.le_max_right (td f) (td g)
    generalize max (td f) (td g) = m at *
    rw [show (2 + (1 + m)) * (1 + (nn f + nn g)) = (2 + m) * nn f + (2 + m) * nn g + (2 + m) + 1 + (nn f + nn g) by rw [show 2 + (1 + m) = (2 + m) + 1 by omega, Nat.add_mul, Nat.mul_add, Nat.mul_add]; omega]
    omega
  | jn hk h ih =>
    rename_i k l
    rw [st_jn hk]
    simp only [nn_mk, td_mk]
    rw [if_neg (by omega)]
    refine ⟨fun h0 => ?_, ?_, ?_⟩
    · have := nns_map (q := stF v) (c := 1) (l := l) fun f hf => by
        have := (ih f hf).1 (by have := td_mem hf; omega)
        omega
      omega
    · have := nns_map (q := stF v) (c := 2 + tds l) (l := l) fun f hf => by
        refine Nat.le_trans (ih f hf).2.1 (Nat.mul_le_mul_right _ ?_)
        have := td_mem hf
        omega
      rw [Nat.mul_add]
      simp only [Nat.zero_add]
      omega
    · have : tds (l.map (stF v)) ≤ tds l := tds_le fun f hf => by
        obtain ⟨g, hg, rfl⟩ := List.mem_map.1 hf
        exact Nat.le_trans (ih g hg).2.2 (td_mem hg)
      omega
/-! ### All can be applied -/
structure Gd (N : Nat) (f : Fm) : Prop where
  w : Wf f
  t : td f ≤ 3
  n : nn f ≤ N
theorem Gd.s {N : Nat} {f : Fm} (h : Gd N f) : Gd N (sF f) := by
  have := s_size h.w
  exact ⟨wf_s h.w, by have := h.t; omega, by have := h.n; omega⟩
theorem Gd.st {N : Nat} {f : Fm} (h : Gd N f) (v : List Int) : Gd (5 * N) (stF v f) := by
  obtain ⟨_, h2, h3⟩ := st_size v h.w
  have := h.t
  have := h.n
  have := Nat.mul_le_mul_right (nn f) (show 2 + td f ≤ 5 by omega)
  exact ⟨wf_st v h.w, by omega, by omega⟩
theorem Gd.pro {N : Nat} {f : Fm} (h : Gd N f) (v : List Int) : Gd (5 * N) (proF v f) := by
  rw [pro_same v f h.w]
  exact (h.st v).s
theorem Gd.mono {N M : Nat} {f : Fm} (h : Gd N f) (hm : N ≤ M) : Gd M f := ⟨h.w, h.t, Nat.le_trans h.n hm⟩
theorem Gd.kid {N : Nat} {k a b n : Int} {l : List Fm} (h : Gd N (.mk k a b n l)) {f : Fm} (hf : f ∈ l) : Gd N f := by
  obtain ⟨w, t, n⟩ := h
  rw [td_mk] at t
  rw [nn_mk] at n
  have := td_mem hf
  have := nn_mem hf
  exact ⟨wf_kids w f hf, by omega, by omega⟩
theorem s_sum {l : List Fm} (h : ∀ f ∈ l, Wf f) : nns (l.map sF) ≤ nns l := by
  have := nns_map (q := sF) (c := 1) (l := l) fun f hf => by have := (s_size (h f hf)).1; omega
  omega
theorem fitT_gd {N : Nat} (hN : N ≤ 1000000000000) : ∀ f : Fm, Gd N f → FitT f := Fm.ind fun k a b n l ih hw => by
  have h2 := hw.n
  rw [nn_mk] at h2
  have := nns_len l
  refine fitT_mk (by omega) (fun _ => ?_) fun f hf => ih f hf (hw.kid hf)
  unfold JB
  have := flat_lenn k (l.map sF)
  have := s_sum (wf_kids hw.w)
  simp only [Fm.kids] at this
  omega
theorem need_wf {k a b n : Int} {l : List Fm} (hw : Wf (.mk k a b n l)) (hn : nns l ≤ 1000000000000) : NeedK k l := by
  refine ⟨fun _ => ?_, fun h => ?_, fun h => ?_, fun h => ?_⟩
  · have := flat_lenn k l
    omega
  · subst h
    cases hw with
    | un _ h =>
      refine ⟨by simp, fun h2 => ?_⟩
      simp only [g0, List.getD_cons_zero] at h2 ⊢
      cases h with
      | var => simp [Fm.k] at h2
      | un => simp [Fm.kids]
      | til => simp [Fm.kids]
      | jn hk => simp [Fm.k] at h2; omega
    | jn hk => omega
  · subst h
    cases hw with
    | un h => omega
    | til => simp
    | jn hk => omega
  · cases hw with
    | var => simp at h
    | un _ _ => simp
    | til => simp at h
    | jn hk => omega
theorem fitS_gd {N : Nat} (hN : N ≤ 1000000000000) : ∀ f : Fm, Gd N f → FitS f := Fm.ind fun k a b n l ih hw => by
  have h2 := hw.n
  rw [nn_mk] at h2
  have := nns_len l
  refine fitS_mk (by omega) ?_ fun f hf => ih f hf (hw.kid hf)
  have e : l.map simF = l.map sF := List.map_congr_left fun f hf => sim_same f (wf_kids hw.w f hf)
  rw [e]
  refine need_wf (wf_map hw.w fun f _ h => wf_s h) ?_
  have := s_sum (wf_kids hw.w)
  simp only [Fm.kids] at this
  omega
theorem fitU_gd {N : Nat} (hN : N ≤ 1000000000000) : ∀ f : Fm, Gd N f → FitU f := Fm.ind fun k a b n l ih hw => by
  have h2 := hw.n
  rw [nn_mk] at h2
  have := nns_len l
  unfold FitU
  refine ⟨by omega, fun h => ?_, fitUs_mk fun f hf => ih f hf (hw.kid hf)⟩
  subst h
  cases hw.w with
  | var h _ _ => exact h
  | un hk => omega
  | jn hk => omega
theorem fitP_gd {N : Nat} (hN : N ≤ 100000000000) (v : List Int) : ∀ f : Fm, Gd N f → FitP v f := Fm.ind fun k a b n l ih hw => by
  have hfs := fitS_gd (by omega) _ hw
  have hs := sim_same _ hw.w
  have hsn := (s_size hw.w).1
  have h2 := hw.n
  have h3 := hw.t
  have hW := hw.w
  have hlen := nns_len l
  have hP : ∀ f ∈ l, Gd (5 * N) (proF v f) := fun f hf => (hw.kid hf).pro v
  have hk := fun f hf => fitS_gd (by omega) f (hw.kid (f := f) hf)
  refine fitP_mk ?_ fun f hf => ih f hf (hw.kid hf)
  rw [nn_mk] at h2
  have hPn : nns (l.map (proF v)) ≤ 5 * nns l := nns_map fun f hf => by
    have h4 : Gd (nn f) f := ⟨(hw.kid hf).w, (hw.kid hf).t, Nat.le_refl _⟩
    exact (h4.pro v).n
  refine ⟨fun h => ?_, fun h => ?_, fun h => ?_, fun h => ?_, fun h => ?_, fun h1 h5 h6 h7 h8 => ⟨by omega, ?_⟩⟩
  · subst h
    cases hW with
    | var q1 q2 q3 => exact ⟨q1, q2, q3⟩
    | un hk => omega
    | jn hk => omega
  · subst h
    cases hW with
    | un _ h => exact ⟨by simp, hk _ (by simp [g0])⟩
    | jn hk => omega
  · subst h
    cases hW with
    | un _ h =>
      refine ⟨by simp, hfs, ?_⟩
      unfold JB
      rw [hs]
      have := flat_lenn 3 [g0 (List.map (proF v) [‹Fm›]), sF (.mk 7 0 0 0 [‹Fm›])]
      simp only [nns_cons, nns_nil, g0, List.map_cons, List.map_nil, List.getD_cons_zero] at this hPn h2 hsn ⊢
      rw [nn_mk, nns_cons, nns_nil] at hsn
      omega
    | jn hk => omega
  · subst h
    cases hW with
    | un _ h =>
      refine ⟨by simp, hfs, ?_⟩
      unfold JB
      rw [hs]
      have := flat_lenn 4 [g0 (List.map (proF v) [‹Fm›]), sF (.mk 8 0 0 0 [‹Fm›])]
      simp only [nns_cons, nns_nil, g0, List.map_cons, List.map_nil, List.getD_cons_zero] at this hPn h2 hsn ⊢
      rw [nn_mk, nns_cons, nns_nil] at hsn
      omega
    | jn hk => omega
  · subst h
    cases hW with
    | un hk => omega
    | til w1 w2 =>
      rename_i f g
      have wj : ∀ x ∈ [proF v f, sF (.mk 6 0 0 0 [f, g])], Wf x := wf_kids (wf_two (.inl rfl) (hP f (by simp)).w (wf_s (.til w1 w2)))
      simp only [g0, g1, List.map_cons, List.map_nil, List.getD_cons_zero, List.getD_cons_succ]
      rw [hs, join_same (.inl rfl) wj]
      have e1 := flat_lenn 3 [proF v f, sF (.mk 6 0 0 0 [f, g])]
      have e2 := flat_lenn 4 [proF v g, rjoinF 3 [proF v f, sF (.mk 6 0 0 0 [f, g])]]
      have e3 := rjoin_nn 3 [proF v f, sF (.mk 6 0 0 0 [f, g])]
      simp only [nns_cons, nns_nil, List.map_cons, List.map_nil] at e1 e2 e3 hPn h2
      rw [nn_mk, nns_cons, nns_cons, nns_nil] at hsn
      refine ⟨by simp, hfs, ?_, ?_⟩
      · unfold JB; omega
      · unfold JB; omega
    | jn hk => omega
  · exact need_wf (wf_map hW fun f hf _ => (hP f hf).w) (by omega)
end Go.Proofs.YtpjcbadnpknncaaGreatDoor.Vm
/- The generator of formulas. -/
namespace Go.Proofs.YtpjcbadnpknncaaGreatDoor.Vm
open Go.RowKit Go.Shelf
set_option linter.unusedSimpArgs false
set_option linter.unusedVariables false
set_option maxRecDepth 100000
def bxG (l : List Int) (i : Nat) : List A := [.sl 1 l.length (intsA l), .v (.int .i64 i)]
theorem gpick_spec (l : List Int) (i m : Nat) (hm : 1 ≤ m ∧ m ≤ 100) (hi : i ≤ 1000000000) : Spec Tryz.prog 28 [bxG l i] [.box 0 0, .v (.int .i64 m)] fun o r => ∃ n : Nat, n < m ∧ o = [bxG l (i + 1)] ∧ r = .v (.int .i64 n) := by
  refine spec_of (cx_ok ord28 xs0 1) (fun _ _ h => h) Tryz.func28 rfl (by kernel_rfl) rfl (by kernel_rfl) ?_
  intro hok
  conv => whnf
  refine call0 [] rfl (fun _ => rPick l i) ?_
  rintro r ⟨hr, rfl⟩
  obtain ⟨k, hk⟩ : ∃ k : Nat, pkF l i = (k : Int) := ⟨(pkF l i).toNat, by omega⟩
  rw [hk] at hr ⊢
  conv => whnf
  (refine goA ?_; try with_reducible exact trivial)
  have e : ((k : Int)).tmod (m : Int) = ((k % m : Nat) : Int) := by rw [Int.tmod_eq_emod_of_nonneg (by omega)]; omega
  exact ⟨k % m, Nat.mod_lt _ (by omega), rfl, by rw [e]⟩
end Go.Proofs.YtpjcbadnpknncaaGreatDoor.Vm
/- The generator of formulas: Formula. -/
namespace Go.Proofs.YtpjcbadnpknncaaGreatDoor.Vm
open Go.RowKit Go.Shelf
set_option linter.unusedSimpArgs false
set_option linter.unusedVariables false
set_option maxRecDepth 100000
/-- Generated formulas of a depth. -/
inductive Gf : Nat → Fm → Prop
  | var {d : Nat} {a b n : Int} : 0 ≤ a ∧ a ≤ 15 → 0 ≤ b ∧ b ≤ 2 → -2147483647 ≤ n ∧ n ≤ 2147483647 → Gf d (.mk 1 a b n [])
  | cst {d : Nat} (b : Bool) : Gf d (constF b)
  | un {d : Nat} {k : Int} {f : Fm} : k = 2 ∨ k = 5 ∨ k = 7 ∨ k = 8 → Gf d f → Gf (d + 1) (.mk k 0 0 0 [f])
  | til {d : Nat} {f g : Fm} : Gf d f → Gf d g → Gf (d + 1) (.mk 6 0 0 0 [f, g])
  | jn {d : Nat} {k : Int} {l : List Fm} : k = 3 ∨ k = 4 → 2 ≤ l.length ∧ l.length ≤ 3 → (∀ f, f ∈ l → Gf d f) → Gf (d + 1) (.mk k 0 0 0 l)
theorem gf_ok {d : Nat} {f : Fm} (h : Gf d f) : Wf f ∧ td f ≤ d ∧ nn f ≤ 4 ^ d := by
  induction h with
  | var h1 h2 h3 =>
    rename_i d a b n
    refine ⟨.var h1.1 h2.1 h2.2, ?_, ?_⟩
    · rw [td_mk, tds_nil]; simp
    · rw [nn_mk, nns_nil]; exact Nat.pos_of_ne_zero (by simp)
  | cst b =>
    rename_i d
    rw [const_td, const_nn]
    exact ⟨wf_const b, by omega, Nat.pos_of_ne_zero (by simp)⟩
  | un hk h ih =>
    rename_i d k f
    obtain ⟨i1, i2, i3⟩ := ih
    have hp : 1 ≤ 4 ^ d := Nat.pos_of_ne_zero (by simp)
    rw [td_mk, nn_mk, tds_cons, tds_nil, nns_cons, nns_nil, Nat.pow_succ]
    refine ⟨.un hk i1, ?_, by omega⟩
    split <;> omega
  | til h1 h2 ih1 ih2 =>
    rename_i d f g
    obtain ⟨i1, i2, i3⟩ := ih1
    obtain ⟨j1, j2, j3⟩ := ih2
    have hp : 1 ≤ 4 ^ d := Nat.pos_of_ne_zero (by simp)
    rw [td_mk, nn_mk, tds_cons, tds_cons, tds_nil, nns_cons, nns_cons, nns_nil, Nat.pow_succ]
    refine ⟨.til i1 j1, ?_, by omega⟩
    simp
    omega
  | jn hk hl h ih =>
    rename_i d k l
    have hp : 1 ≤ 4 ^ d := Nat.pos_of_ne_zero (by simp)
    rw [td_mk, nn_mk, if_neg (by omega), Nat.pow_succ]
    refine ⟨.jn hk fun f hf => (ih f hf).1, ?_, ?_⟩
    · have := tds_le fun f hf => (ih f hf).2.1
      omega
    · have : ∀ m : List Fm, (∀ f ∈ m, nn f ≤ 4 ^ d) → nns m ≤ m.length * 4 ^ d := fun m => by
        induction m with
        | nil => intro _; rw [nns_nil]; simp
        | cons f m ih2 =>
          intro hm
          have h1 := hm f (by simp)
          have h2 := ih2 fun g hg => hm g (by simp [hg])
          rw [nns_cons, List.length_cons, Nat.add_mul]
          omega
      have h1 := this l fun f hf => (ih f hf).2.2
      have h2 := Nat.mul_le_mul_right (4 ^ d) hl.2
      omega
def GenSpec (l : List Int) (d : Nat) : Prop := ∀ i, i + 5 * 4 ^ d ≤ 1000000 → Spec Tryz.prog 15 [bxG l i] [.box 0 0, .v (.int .i64 d)] fun o r => ∃ f i', Gf d f ∧ i ≤ i' ∧ i' ≤ i + 5 * 4 ^ d ∧ o = [bxG l i'] ∧ r = .agg (fmA f)
theorem tmod_nat (k : Nat) (m : Nat) (hm : 0 < m) : ((k : Int)).tmod (m : Int) = ((k % m : Nat) : Int) := by
  rw [Int.tmod_eq_emod_of_nonneg (by omega)]; omega
theorem tdiv_nat (k : Nat) (m : Nat) (hm : 0 < m) : ((k : Int)).tdiv (m : Int) = ((k / m : Nat) : Int) := by
  rw [Int.tdiv_eq_ediv_of_nonneg (by omega)]; omega
set_option maxHeartbeats 2000000 in
theorem gen_raw (l : List Int) (d e P Q : Nat) (hdb : d ≤ 1000) (hde : 1 ≤ d → d = e + 1) (hp1 : 1 ≤ d → P = 4 * Q) (hp2 : 1 ≤ Q) (hp3 : 1 ≤ P) (ih : 1 ≤ d → ∀ i, i + 5 * Q ≤ 1000000 → Spec Tryz.prog 15 [bxG l i] [.box 0 0, .v (.int .i64 ((d : Int) - 1))] fun o r => ∃ f i', Gf e f ∧ i ≤ i' ∧ i' ≤ i + 5 * Q ∧ o = [bxG l i'] ∧ r = .agg (fmA f)) (i : Nat) (hi : i + 5 * P ≤ 1000000) :
    Spec Tryz.prog 15 [bxG l i] [.box 0 0, .v (.int .i64 d)] fun o r => ∃ f i', Gf d f ∧ i ≤ i' ∧ i' ≤ i + 5 * P ∧ o = [bxG l i'] ∧ (r = .agg (fmA f) ∨ (f.kids = [] ∧ r = .agg (raw0 f))) := by
  refine spec_of (cx_ok ord15 (fun _ => [0]) 1) (fun _ _ h => h) Tryz.func15 rfl (by kernel_rfl) rfl (by kernel_rfl) ?_
  intro hok
  conv => whnf
  refine call1 0 [] rfl rfl rfl rfl (fun _ => gpick_spec l (i) 12 (by decide) (by omega)) ?_
  rintro o r ⟨n12, hn12, ho, rfl⟩
  cases ho
  conv => whnf
  by_cases hd0 : d = 0
  · have en : ((n12 : Int)).tmod 4 = ((n12 % 4 : Nat) : Int) := tmod_nat n12 4 (by decide)
    have hn4 : n12 % 4 < 4 := Nat.mod_lt _ (by decide)
    (refine goA ?_; try with_reducible exact trivial)
    rw [en]
    generalize n12 % 4 = n at *
    conv => whnf
    by_cases h0 : n = 0
    · (refine goA ?_; try with_reducible exact trivial)
      refine call1 0 [] rfl rfl rfl rfl (fun _ => gpick_spec l (i + 1) 3 (by decide) (by omega)) ?_
      rintro o r ⟨n3, hn3, ho, rfl⟩
      cases ho
      conv => whnf
      refine call1 0 [] rfl rfl rfl rfl (fun _ => gpick_spec l (i + 1 + 1) 3 (by decide) (by omega)) ?_
      rintro o r ⟨b3, hb3, ho, rfl⟩
      cases ho
      conv => whnf
      refine call1 0 [] rfl rfl rfl rfl (fun _ => gpick_spec l (i + 1 + 1 + 1) 4 (by decide) (by omega)) ?_
      rintro o r ⟨n4, hn4, ho, rfl⟩
      cases ho
      conv => whnf
      (refine goA ?_; try with_reducible exact trivial)
      refine ⟨.mk 1 n3 b3 ((n4 : Int) - 1) [], i + 1 + 1 + 1 + 1, .var (by omega) (by omega) (by omega), by omega, by omega, rfl, .inr ⟨rfl, rfl⟩⟩
    by_cases h1 : n = 1
    · (refine goA ?_; try with_reducible exact trivial)
      refine call1 0 [] rfl rfl rfl rfl (fun _ => gpick_spec l (i + 1) 3 (by decide) (by omega)) ?_
      rintro o r ⟨n3, hn3, ho, rfl⟩
      cases ho
      conv => whnf
      refine call1 0 [] rfl rfl rfl rfl (fun _ => gpick_spec l (i + 1 + 1) 3 (by decide) (by omega)) ?_
      rintro o r ⟨b3, hb3, ho, rfl⟩
      cases ho
      conv => whnf
      refine call1 0 [] rfl rfl rfl rfl (fun _ => gpick_spec l (i + 1 + 1 + 1) 4 (by decide) (by omega)) ?_
      rintro o r ⟨n4, hn4, ho, rfl⟩
      cases ho
      conv => whnf
      (refine goA ?_; try with_reducible exact trivial)
      refine ⟨.mk 1 n3 b3 ((n4 : Int) - 1) [], i + 1 + 1 + 1 + 1, .var (by omega) (by omega) (by omega), by omega, by omega, rfl, .inr ⟨rfl, rfl⟩⟩
    by_cases h2 : n = 2
    · (refine goA ?_; try with_reducible exact trivial)
      refine call1 0 [] rfl rfl rfl rfl (fun _ => gpick_spec l (i + 1) 3 (by decide) (by omega)) ?_
      rintro o r ⟨n3, hn3, ho, rfl⟩
      cases ho
      conv => whnf
      refine call1 0 [] rfl rfl rfl rfl (fun _ => gpick_spec l (i + 1 + 1) 3 (by decide) (by omega)) ?_
      rintro o r ⟨b3, hb3, ho, rfl⟩
      cases ho
      conv => whnf
      refine call1 0 [] rfl rfl rfl rfl (fun _ => gpick_spec l (i + 1 + 1 + 1) 4 (by decide) (by omega)) ?_
      rintro o r ⟨n4, hn4, ho, rfl⟩
      cases ho
      conv => whnf
      (refine goA ?_; try with_reducible exact trivial)
      refine ⟨.mk 1 n3 b3 ((n4 : Int) - 1) [], i + 1 + 1 + 1 + 1, .var (by omega) (by omega) (by omega), by omega, by omega, rfl, .inr ⟨rfl, rfl⟩⟩
    have h3 : n = 3 := by omega
    (refine goA ?_; try with_reducible exact trivial)
    refine call1 0 [] rfl rfl rfl rfl (fun _ => gpick_spec l (i + 1) 3 (by decide) (by omega)) ?_
    rintro o r ⟨n3, hn3, ho, rfl⟩
    cases ho
    conv => whnf
    by_cases hz : n3 = 0
    · (refine goA ?_; try with_reducible exact trivial)
      (refine call0 [] rfl (fun _ => rTrue) ?_; rintro r rfl; conv => whnf)
      (refine call0 [] rfl (fun _ => rFalse) ?_; rintro r rfl; conv => whnf)
      refine call1 0 [] rfl rfl rfl rfl (fun _ => gpick_spec l (i + 1 + 1) 2 (by decide) (by omega)) ?_
      rintro o r ⟨n2, hn2, ho, rfl⟩
      cases ho
      conv => whnf
      rcases (show n2 = 0 ∨ n2 = 1 by omega) with rfl | rfl
      · (refine goA ?_; try with_reducible exact trivial)
        exact ⟨constF true, i + 1 + 1 + 1, .cst true, by omega, by omega, rfl, .inl rfl⟩
      · (refine goA ?_; try with_reducible exact trivial)
        exact ⟨constF false, i + 1 + 1 + 1, .cst false, by omega, by omega, rfl, .inl rfl⟩
    · (refine goA ?_; try with_reducible exact trivial)
      refine call1 0 [] rfl rfl rfl rfl (fun _ => gpick_spec l (i + 1 + 1) 16 (by decide) (by omega)) ?_
      rintro o r ⟨n16, hn16, ho, rfl⟩
      cases ho
      conv => whnf
      refine call1 0 [] rfl rfl rfl rfl (fun _ => gpick_spec l (i + 1 + 1 + 1) 3 (by decide) (by omega)) ?_
      rintro o r ⟨b3, hb3, ho, rfl⟩
      cases ho
      conv => whnf
      refine call1 0 [] rfl rfl rfl rfl (fun _ => gpick_spec l (i + 1 + 1 + 1 + 1) 4 (by decide) (by omega)) ?_
      rintro o r ⟨n4, hn4, ho, rfl⟩
      cases ho
      conv => whnf
      rcases (show n4 = 0 ∨ n4 = 1 ∨ n4 = 2 ∨ n4 = 3 by omega) with rfl | rfl | rfl | rfl
      · (refine goA ?_; try with_reducible exact trivial)
        refine ⟨.mk 1 n16 b3 0 [], i + 1 + 1 + 1 + 1 + 1, .var (by omega) (by omega) (by omega), by omega, by omega, rfl, .inr ⟨rfl, rfl⟩⟩
      · (refine goA ?_; try with_reducible exact trivial)
        refine ⟨.mk 1 n16 b3 2147483647 [], i + 1 + 1 + 1 + 1 + 1, .var (by omega) (by omega) (by omega), by omega, by omega, rfl, .inr ⟨rfl, rfl⟩⟩
      · (refine goA ?_; try with_reducible exact trivial)
        refine ⟨.mk 1 n16 b3 (-2147483647) [], i + 1 + 1 + 1 + 1 + 1, .var (by omega) (by omega) (by omega), by omega, by omega, rfl, .inr ⟨rfl, rfl⟩⟩
      · (refine goA ?_; try with_reducible exact trivial)
        refine ⟨.mk 1 n16 b3 10 [], i + 1 + 1 + 1 + 1 + 1, .var (by omega) (by omega) (by omega), by omega, by omega, rfl, .inr ⟨rfl, rfl⟩⟩
  · have hde := hde (by omega)
    have hp1 := hp1 (by omega)
    have ih := ih (by omega)
    (refine goA ?_; try with_reducible exact trivial)
    generalize n12 = n at *
    by_cases h0 : n = 0
    · (refine goA ?_; try with_reducible exact trivial)
      refine call1 0 [] rfl rfl rfl rfl (fun _ => gpick_spec l (i + 1) 3 (by decide) (by omega)) ?_
      rintro o r ⟨n3, hn3, ho, rfl⟩
      cases ho
      conv => whnf
      refine call1 0 [] rfl rfl rfl rfl (fun _ => gpick_spec l (i + 1 + 1) 3 (by decide) (by omega)) ?_
      rintro o r ⟨b3, hb3, ho, rfl⟩
      cases ho
      conv => whnf
      refine call1 0 [] rfl rfl rfl rfl (fun _ => gpick_spec l (i + 1 + 1 + 1) 4 (by decide) (by omega)) ?_
      rintro o r ⟨n4, hn4, ho, rfl⟩
      cases ho
      conv => whnf
      (refine goA ?_; try with_reducible exact trivial)
      refine ⟨.mk 1 n3 b3 ((n4 : Int) - 1) [], i + 1 + 1 + 1 + 1, .var (by omega) (by omega) (by omega), by omega, by omega, rfl, .inr ⟨rfl, rfl⟩⟩
    by_cases h1 : n = 1
    · (refine goA ?_; try with_reducible exact trivial)
      refine call1 0 [] rfl rfl rfl rfl (fun _ => gpick_spec l (i + 1) 3 (by decide) (by omega)) ?_
      rintro o r ⟨n3, hn3, ho, rfl⟩
      cases ho
      conv => whnf
      refine call1 0 [] rfl rfl rfl rfl (fun _ => gpick_spec l (i + 1 + 1) 3 (by decide) (by omega)) ?_
      rintro o r ⟨b3, hb3, ho, rfl⟩
      cases ho
      conv => whnf
      refine call1 0 [] rfl rfl rfl rfl (fun _ => gpick_spec l (i + 1 + 1 + 1) 4 (by decide) (by omega)) ?_
      rintro o r ⟨n4, hn4, ho, rfl⟩
      cases ho
      conv => whnf
      (refine goA ?_; try with_reducible exact trivial)
      refine ⟨.mk 1 n3 b3 ((n4 : Int) - 1) [], i + 1 + 1 + 1 + 1, .var (by omega) (by omega) (by omega), by omega, by omega, rfl, .inr ⟨rfl, rfl⟩⟩
    by_cases h2 : n = 2
    · (refine goA ?_; try with_reducible exact trivial)
      refine call1 0 [] rfl rfl rfl rfl (fun _ => gpick_spec l (i + 1) 3 (by decide) (by omega)) ?_
      rintro o r ⟨n3, hn3, ho, rfl⟩
      cases ho
      conv => whnf
      refine call1 0 [] rfl rfl rfl rfl (fun _ => gpick_spec l (i + 1 + 1) 3 (by decide) (by omega)) ?_
      rintro o r ⟨b3, hb3, ho, rfl⟩
      cases ho
      conv => whnf
      refine call1 0 [] rfl rfl rfl rfl (fun _ => gpick_spec l (i + 1 + 1 + 1) 4 (by decide) (by omega)) ?_
      rintro o r ⟨n4, hn4, ho, rfl⟩
      cases ho
      conv => whnf
      (refine goA ?_; try with_reducible exact trivial)
      refine ⟨.mk 1 n3 b3 ((n4 : Int) - 1) [], i + 1 + 1 + 1 + 1, .var (by omega) (by omega) (by omega), by omega, by omega, rfl, .inr ⟨rfl, rfl⟩⟩
    by_cases h3 : n = 3
    · (refine goA ?_; try with_reducible exact trivial)
      refine call1 0 [] rfl rfl rfl rfl (fun _ => gpick_spec l (i + 1) 3 (by decide) (by omega)) ?_
      rintro o r ⟨n3, hn3, ho, rfl⟩
      cases ho
      conv => whnf
      by_cases hz : n3 = 0
      · (refine goA ?_; try with_reducible exact trivial)
        (refine call0 [] rfl (fun _ => rTrue) ?_; rintro r rfl; conv => whnf)
        (refine call0 [] rfl (fun _ => rFalse) ?_; rintro r rfl; conv => whnf)
        refine call1 0 [] rfl rfl rfl rfl (fun _ => gpick_spec l (i + 1 + 1) 2 (by decide) (by omega)) ?_
        rintro o r ⟨n2, hn2, ho, rfl⟩
        cases ho
        conv => whnf
        rcases (show n2 = 0 ∨ n2 = 1 by omega) with rfl | rfl
        · (refine goA ?_; try with_reducible exact trivial)
          exact ⟨constF true, i + 1 + 1 + 1, .cst true, by omega, by omega, rfl, .inl rfl⟩
        · (refine goA ?_; try with_reducible exact trivial)
          exact ⟨constF false, i + 1 + 1 + 1, .cst false, by omega, by omega, rfl, .inl rfl⟩
      · (refine goA ?_; try with_reducible exact trivial)
        refine call1 0 [] rfl rfl rfl rfl (fun _ => gpick_spec l (i + 1 + 1) 16 (by decide) (by omega)) ?_
        rintro o r ⟨n16, hn16, ho, rfl⟩
        cases ho
        conv => whnf
        refine call1 0 [] rfl rfl rfl rfl (fun _ => gpick_spec l (i + 1 + 1 + 1) 3 (by decide) (by omega)) ?_
        rintro o r ⟨b3, hb3, ho, rfl⟩
        cases ho
        conv => whnf
        refine call1 0 [] rfl rfl rfl rfl (fun _ => gpick_spec l (i + 1 + 1 + 1 + 1) 4 (by decide) (by omega)) ?_
        rintro o r ⟨n4, hn4, ho, rfl⟩
        cases ho
        conv => whnf
        rcases (show n4 = 0 ∨ n4 = 1 ∨ n4 = 2 ∨ n4 = 3 by omega) with rfl | rfl | rfl | rfl
        · (refine goA ?_; try with_reducible exact trivial)
          refine ⟨.mk 1 n16 b3 0 [], i + 1 + 1 + 1 + 1 + 1, .var (by omega) (by omega) (by omega), by omega, by omega, rfl, .inr ⟨rfl, rfl⟩⟩
        · (refine goA ?_; try with_reducible exact trivial)
          refine ⟨.mk 1 n16 b3 2147483647 [], i + 1 + 1 + 1 + 1 + 1, .var (by omega) (by omega) (by omega), by omega, by omega, rfl, .inr ⟨rfl, rfl⟩⟩
        · (refine goA ?_; try with_reducible exact trivial)
          refine ⟨.mk 1 n16 b3 (-2147483647) [], i + 1 + 1 + 1 + 1 + 1, .var (by omega) (by omega) (by omega), by omega, by omega, rfl, .inr ⟨rfl, rfl⟩⟩
        · (refine goA ?_; try with_reducible exact trivial)
          refine ⟨.mk 1 n16 b3 10 [], i + 1 + 1 + 1 + 1 + 1, .var (by omega) (by omega) (by omega), by omega, by omega, rfl, .inr ⟨rfl, rfl⟩⟩
    by_cases h4 : n = 4
    · (refine goA ?_; try with_reducible exact trivial)
      have hd1 := ih
      (refine goA ?_; try with_reducible exact trivial)
      refine call1 0 [] rfl rfl rfl rfl (fun _ => hd1 (i + 1) (by omega)) ?_
      rintro o r ⟨f, i', hf, hi1, hi2, ho, rfl⟩
      cases ho
      conv => whnf
      refine ⟨.mk 2 0 0 0 [f], i', ?_, by omega, by omega, rfl, .inl ?_⟩
      · rw [hde]; exact .un (by omega) hf
      · rw [fmA_mk, fmsA_cons, fmsA_nil, List.append_nil]; rfl
    by_cases h5 : n = 5
    · (refine goA ?_; try with_reducible exact trivial)
      have hd1 := ih
      (refine goA ?_; try with_reducible exact trivial)
      refine call1 0 [] rfl rfl rfl rfl (fun _ => hd1 (i + 1) (by omega)) ?_
      rintro o r ⟨f, i', hf, hi1, hi2, ho, rfl⟩
      cases ho
      conv => whnf
      refine ⟨.mk 5 0 0 0 [f], i', ?_, by omega, by omega, rfl, .inl ?_⟩
      · rw [hde]; exact .un (by omega) hf
      · rw [fmA_mk, fmsA_cons, fmsA_nil, List.append_nil]; rfl
    by_cases h6 : n = 6
    · (refine goA ?_; try with_reducible exact trivial)
      have hd1 := ih
      (refine goA ?_; try with_reducible exact trivial)
      refine call1 0 [] rfl rfl rfl rfl (fun _ => hd1 (i + 1) (by omega)) ?_
      rintro o r ⟨f, i', hf, hi1, hi2, ho, rfl⟩
      cases ho
      conv => whnf
      refine ⟨.mk 7 0 0 0 [f], i', ?_, by omega, by omega, rfl, .inl ?_⟩
      · rw [hde]; exact .un (by omega) hf
      · rw [fmA_mk, fmsA_cons, fmsA_nil, List.append_nil]; rfl
    by_cases h7 : n = 7
    · (refine goA ?_; try with_reducible exact trivial)
      have hd1 := ih
      (refine goA ?_; try with_reducible exact trivial)
      refine call1 0 [] rfl rfl rfl rfl (fun _ => hd1 (i + 1) (by omega)) ?_
      rintro o r ⟨f, i', hf, hi1, hi2, ho, rfl⟩
      cases ho
      conv => whnf
      refine ⟨.mk 7 0 0 0 [f], i', ?_, by omega, by omega, rfl, .inl ?_⟩
      · rw [hde]; exact .un (by omega) hf
      · rw [fmA_mk, fmsA_cons, fmsA_nil, List.append_nil]; rfl
    by_cases h8 : n = 8
    · (refine goA ?_; try with_reducible exact trivial)
      have hd1 := ih
      (refine goA ?_; try with_reducible exact trivial)
      refine call1 0 [] rfl rfl rfl rfl (fun _ => hd1 (i + 1) (by omega)) ?_
      rintro o r ⟨f, i', hf, hi1, hi2, ho, rfl⟩
      cases ho
      conv => whnf
      refine ⟨.mk 8 0 0 0 [f], i', ?_, by omega, by omega, rfl, .inl ?_⟩
      · rw [hde]; exact .un (by omega) hf
      · rw [fmA_mk, fmsA_cons, fmsA_nil, List.append_nil]; rfl
    by_cases h9 : n = 9
    · have hd1 := ih
      (refine goA ?_; try with_reducible exact trivial)
      refine call1 0 [] rfl rfl rfl rfl (fun _ => hd1 (i + 1) (by omega)) ?_
      rintro o r ⟨f, i', hf, hi1, hi2, ho, rfl⟩
      cases ho
      conv => whnf
      (refine goA ?_; try with_reducible exact trivial)
      refine call1 0 [] rfl rfl rfl rfl (fun _ => hd1 i' (by omega)) ?_
      rintro o r ⟨g, i2, hg, hi3, hi4, ho, rfl⟩
      cases ho
      conv => whnf
      (refine call0 [] rfl (fun _ => rBoth 6 f g) ?_; rintro r rfl; conv => whnf)
      refine ⟨.mk 6 0 0 0 [f, g], i2, ?_, by omega, by omega, rfl, .inl rfl⟩
      rw [hde]; exact .til hf hg
    have hd1 := ih
    have en : ((n : Int)).tmod 2 = ((n % 2 : Nat) : Int) := tmod_nat n 2 (by decide)
    (refine goA ?_; try with_reducible exact trivial)
    rw [en]
    rcases (show n % 2 = 0 ∨ n % 2 = 1 by omega) with h10 | h10
    · rw [h10]
      conv => whnf
      (refine goA ?_; try with_reducible exact trivial)
      refine call1 0 [] rfl rfl rfl rfl (fun _ => gpick_spec l (i + 1) 2 (by decide) (by omega)) ?_
      rintro o r ⟨n2, hn2, ho, rfl⟩
      cases ho
      conv => whnf
      (refine goA ?_; try with_reducible exact trivial)
      refine loop_row 25 5 [] [(2, 4)] ?_
      conv => whnf
      refine ⟨trivial, ?_⟩
      conv => whnf
      refine loop_keep [0, 1, 4, 7] ?_
      conv => whnf
      refine loop_goQ (fun x : Nat × List Fm × Nat => [(8, .v (.int .i64 x.1))]) (fun x => [bxG l x.2.2, [intA 0, intA 0, intA 0, intA 0, .v (.slice none 0 0)], [intA 3, intA 0, intA 0, intA 0, .own 1]]) (fun x => [.live 3 1 2 [intA 3, intA 4], .live 25 5 x.2.1.length (fmsA x.2.1)]) (fun x => x.1 + x.2.1.length = 2 + n2 ∧ (∀ f ∈ x.2.1, Gf e f) ∧ i ≤ x.2.2 ∧ x.2.2 ≤ i + 2 + x.2.1.length * (5 * Q)) (fun x => x.1) (2 + n2, [], i + 1 + 1) ?_ ⟨rfl, by simp, by simp only; omega, by simp only [List.length_nil]; omega⟩ ?_
      · unfold headQ
        repeat' constructor
        · show [_, Row.live _ _ _ _] = [_, Row.live _ _ _ _]
          rw [fmsA_nil]; rfl
      · rintro ⟨m, acc, i'⟩ ⟨hm, hacc, hi1, hi2⟩
        simp only at hm hacc hi1 hi2
        conv => whnf
        by_cases hm0 : m = 0
        · (refine goA ?_; try with_reducible exact trivial)
          refine ⟨.mk 3 0 0 0 acc, i', ?_, by omega, ?_, rfl, .inl rfl⟩
          · rw [hde]; exact .jn (by simp) (by omega) hacc
          · have := Nat.mul_le_mul_right (5 * Q) (show acc.length ≤ 3 by omega)
            omega
        · have hmu := Nat.mul_le_mul_right (5 * Q) (show acc.length ≤ 2 by omega)
          have hspec := hd1 i' (by omega)
          (refine goA ?_; try with_reducible exact trivial)
          refine call1 0 [] rfl rfl rfl rfl (fun _ => hspec) ?_
          rintro o r ⟨f, i2, hf, hi3, hi4, ho, rfl⟩
          cases ho
          conv => whnf
          refine ⟨⟨by simp only; unfold maxLen; omega, by simp only; omega⟩, ?_⟩
          conv => whnf
          (refine goA ?_; try with_reducible exact trivial)
          refine ⟨(m - 1, acc ++ [f], i2), le_head ?_, ⟨by simp only [List.length_append, List.length_cons, List.length_nil]; omega, ?_, by simp only; omega, ?_⟩, by simp only; omega⟩
          · repeat' constructor
            · show A.v (.int .i64 ((m : Int) - 1)) = A.v (.int .i64 ((m - 1 : Nat) : Int))
              rw [show ((m - 1 : Nat) : Int) = (m : Int) - 1 by omega]
            · simp only [List.length_append, List.length_cons, List.length_nil]
              rw [fmsA_snoc]; rfl
          · intro g hg
            rcases List.mem_append.1 hg with hg | hg
            · exact hacc g hg
            · rw [List.mem_singleton.1 hg]; exact hf
          · simp only [List.length_append, List.length_cons, List.length_nil]
            rw [Nat.add_mul]
            omega
    · rw [h10]
      conv => whnf
      (refine goA ?_; try with_reducible exact trivial)
      refine call1 0 [] rfl rfl rfl rfl (fun _ => gpick_spec l (i + 1) 2 (by decide) (by omega)) ?_
      rintro o r ⟨n2, hn2, ho, rfl⟩
      cases ho
      conv => whnf
      (refine goA ?_; try with_reducible exact trivial)
      refine loop_row 25 5 [] [(2, 4)] ?_
      conv => whnf
      refine ⟨trivial, ?_⟩
      conv => whnf
      refine loop_keep [0, 1, 4, 7] ?_
      conv => whnf
      refine loop_goQ (fun x : Nat × List Fm × Nat => [(8, .v (.int .i64 x.1))]) (fun x => [bxG l x.2.2, [intA 0, intA 0, intA 0, intA 0, .v (.slice none 0 0)], [intA 4, intA 0, intA 0, intA 0, .own 1]]) (fun x => [.live 3 1 2 [intA 3, intA 4], .live 25 5 x.2.1.length (fmsA x.2.1)]) (fun x => x.1 + x.2.1.length = 2 + n2 ∧ (∀ f ∈ x.2.1, Gf e f) ∧ i ≤ x.2.2 ∧ x.2.2 ≤ i + 2 + x.2.1.length * (5 * Q)) (fun x => x.1) (2 + n2, [], i + 1 + 1) ?_ ⟨rfl, by simp, by simp only; omega, by simp only [List.length_nil]; omega⟩ ?_
      · unfold headQ
        repeat' constructor
        · show [_, Row.live _ _ _ _] = [_, Row.live _ _ _ _]
          rw [fmsA_nil]; rfl
      · rintro ⟨m, acc, i'⟩ ⟨hm, hacc, hi1, hi2⟩
        simp only at hm hacc hi1 hi2
        conv => whnf
        by_cases hm0 : m = 0
        · (refine goA ?_; try with_reducible exact trivial)
          refine ⟨.mk 4 0 0 0 acc, i', ?_, by omega, ?_, rfl, .inl rfl⟩
          · rw [hde]; exact .jn (by simp) (by omega) hacc
          · have := Nat.mul_le_mul_right (5 * Q) (show acc.length ≤ 3 by omega)
            omega
        · have hmu := Nat.mul_le_mul_right (5 * Q) (show acc.length ≤ 2 by omega)
          have hspec := hd1 i' (by omega)
          (refine goA ?_; try with_reducible exact trivial)
          refine call1 0 [] rfl rfl rfl rfl (fun _ => hspec) ?_
          rintro o r ⟨f, i2, hf, hi3, hi4, ho, rfl⟩
          cases ho
          conv => whnf
          refine ⟨⟨by simp only; unfold maxLen; omega, by simp only; omega⟩, ?_⟩
          conv => whnf
          (refine goA ?_; try with_reducible exact trivial)
          refine ⟨(m - 1, acc ++ [f], i2), le_head ?_, ⟨by simp only [List.length_append, List.length_cons, List.length_nil]; omega, ?_, by simp only; omega, ?_⟩, by simp only; omega⟩
          · repeat' constructor
            · show A.v (.int .i64 ((m : Int) - 1)) = A.v (.int .i64 ((m - 1 : Nat) : Int))
              rw [show ((m - 1 : Nat) : Int) = (m : Int) - 1 by omega]
            · simp only [List.length_append, List.length_cons, List.length_nil]
              rw [fmsA_snoc]; rfl
          · intro g hg
            rcases List.mem_append.1 hg with hg | hg
            · exact hacc g hg
            · rw [List.mem_singleton.1 hg]; exact hf
          · simp only [List.length_append, List.length_cons, List.length_nil]
            rw [Nat.add_mul]
            omega
theorem gen_spec (l : List Int) : ∀ d, d ≤ 1000 → GenSpec l d := fun d hd i hi => by
  have h : Spec Tryz.prog 15 [bxG l i] [.box 0 0, .v (.int .i64 d)] fun o r => ∃ f i', Gf d f ∧ i ≤ i' ∧ i' ≤ i + 5 * 4 ^ d ∧ o = [bxG l i'] ∧ (r = .agg (fmA f) ∨ (f.kids = [] ∧ r = .agg (raw0 f))) := by
    match d, hd, hi with
    | 0, hd, hi => exact gen_raw l 0 0 1 1 hd (by omega) (by omega) (by omega) (by omega) (fun h => by omega) i hi
    | d + 1, hd, hi =>
      refine gen_raw l (d + 1) d (4 ^ (d + 1)) (4 ^ d) hd (by omega) (fun _ => by rw [Nat.pow_succ, Nat.mul_comm]) (Nat.pos_of_ne_zero (by simp)) (Nat.pos_of_ne_zero (by simp)) (fun _ i hi => ?_) i hi
      have := gen_spec l d (by omega) i hi
      rwa [show ((d + 1 : Nat) : Int) - 1 = (d : Int) by omega]
  refine h.weaken fun o r k => ?_
  obtain ⟨f, i', h1, h2, h3, rfl, h4⟩ := k
  rcases h4 with rfl | ⟨h4, rfl⟩
  · exact ⟨_, _, ⟨f, i', h1, h2, h3, rfl, rfl⟩, .refl _, .refl _⟩
  · exact ⟨_, _, ⟨f, i', h1, h2, h3, rfl, rfl⟩, .refl _, .agg (raw0_wk h4)⟩
end Go.Proofs.YtpjcbadnpknncaaGreatDoor.Vm
/- A contract whose result is an own row, told as one whose row is given up. -/
namespace Go.Proofs.YtpjcbadnpknncaaGreatDoor.Vm
open Go.RowKit
set_option linter.unusedSimpArgs false
set_option linter.unusedVariables false
mutual
def pubA (k n : Nat) (cs : List A) : A → A
  | .own _ => .sl k n cs
  | .orow _ _ => .dead
  | .clo f caps => .clo f (pubL k n cs caps)
  | .bm f fs => .bm f (pubL k n cs fs)
  | .mp ks vs => .mp ks vs
  | .agg l => .agg (pubL k n cs l)
  | .tup l => .tup (pubL k n cs l)
  | .box _ _ => .dead
  | .gp g o => .gp g o
  | .err => .err
  | .dead => .dead
  | .v x => .v x
  | .sl k n cs => .sl k n cs
  | .pp cs => .pp cs
def pubL (k n : Nat) (cs : List A) : List A → List A
  | [] => []
  | a :: r => pubA k n cs a :: pubL k n cs r
end
section
variable {C D : Rd} {y : Value} {k n : Nat} {cs : List A}
mutual
theorem pubA_rep (hs : Sub C D) (hy : (A.sl k n cs).rep ⟨D, [], []⟩ y) : ∀ (a : A) {v : Value}, a.rep ⟨C, [], [y]⟩ v → (pubA k n cs a).rep ⟨D, [], []⟩ v
  | .dead, v, h => by unfold pubA; exact A.rep_dead _ _
  | .v x, v, h => by unfold pubA; unfold A.rep at h ⊢; exact h
  | .sl k n cs, v, h => by
    unfold pubA
    have h2 : (A.sl k n cs).rep ⟨C, [], []⟩ v := by unfold A.rep at h ⊢; exact h
    exact A.rep.mono _ (E := ⟨C, [], []⟩) (F := ⟨D, [], []⟩) ⟨hs, fun _ _ h => h, fun _ _ h => h⟩ h2
  | .pp cs, v, h => by
    unfold pubA
    have h2 : (A.pp cs).rep ⟨C, [], []⟩ v := by unfold A.rep at h ⊢; exact h
    exact A.rep.mono _ (E := ⟨C, [], []⟩) (F := ⟨D, [], []⟩) ⟨hs, fun _ _ h => h, fun _ _ h => h⟩ h2
  | .own j, v, h => by
    unfold pubA
    unfold A.rep at h
    cases j with
    | zero => simp at h; subst h; exact hy
    | succ j => simp at h
  | .orow j o, v, h => by unfold pubA; exact A.rep_dead _ _
  | .box j o, v, h => by unfold pubA; exact A.rep_dead _ _
  | .gp _ _, v, h => by unfold pubA; unfold A.rep at h ⊢; exact h
  | .err, v, h => by unfold pubA; unfold A.rep at h ⊢; exact h
  | .clo f caps, v, h => by
    unfold pubA; unfold A.rep at h ⊢
    obtain ⟨us, h1, h2⟩ := h
    exact ⟨us, h1, pubL_rep hs hy caps h2⟩
  | .bm f fs, v, h => by
    unfold pubA; unfold A.rep at h ⊢
    obtain ⟨us, h1, h2⟩ := h
    exact ⟨us, h1, pubL_rep hs hy fs h2⟩
  | .mp ks vs, v, h => by
    unfold pubA
    have h2 : (A.mp ks vs).rep ⟨C, [], []⟩ v := by unfold A.rep at h ⊢; exact h
    exact A.rep.mono _ (E := ⟨C, [], []⟩) (F := ⟨D, [], []⟩) ⟨hs, fun _ _ h => h, fun _ _ h => h⟩ h2
  | .agg l, v, h => by
    unfold pubA; unfold A.rep at h ⊢
    obtain ⟨us, h1, h2⟩ := h
    exact ⟨us, h1, A.repC_mk (pubL_rep hs hy l (A.repC_L h2)) (A.repC_one h2)⟩
  | .tup l, v, h => by
    unfold pubA; unfold A.rep at h ⊢
    obtain ⟨us, h1, h2⟩ := h
    exact ⟨us, h1, pubL_rep hs hy l h2⟩
theorem pubL_rep (hs : Sub C D) (hy : (A.sl k n cs).rep ⟨D, [], []⟩ y) : ∀ (l : List A) {us : List Value}, A.repL l ⟨C, [], [y]⟩ us → A.repL (pubL k n cs l) ⟨D, [], []⟩ us
  | [], us, h => by unfold pubL; unfold A.repL at h ⊢; exact h
  | a :: r, us, h => by
    unfold pubL; unfold A.repL at h ⊢
    obtain ⟨u, us', rfl, h1, h2⟩ := h
    exact ⟨u, us', rfl, pubA_rep hs hy a h1, pubL_rep hs hy r h2⟩
end
end
theorem own_sl {w : World} {base e k n : Nat} {y : Value} {xs : List Value} {cs : List A} {D : Rd} (h : w.ownsRow base e k y n xs) (hr : A.repC cs ⟨D, [], []⟩ xs) (hD : ∀ b, y.ownBlock = some b → ∀ o u, w.cell? ⟨b, o, none⟩ = some u → D ⟨b, o, none⟩ = some u) : (A.sl k n cs).rep ⟨D, [], []⟩ y := by
  have hlen : cs.length = n * k := by rw [← A.repC_len hr, h.1]
  rcases h.2 with ⟨rfl, rfl⟩ | ⟨b, cap, cur, rfl, hb, hbb, hn, hcm, hcs, htake⟩
  · unfold A.rep
    have hcs : cs = [] := List.eq_nil_of_length_eq_zero (by simpa using hlen)
    subst hcs
    exact ⟨by simp, by simp, none, 0, 0, 0, rfl, Nat.le_refl _, .inl rfl, fun _ => rfl, by simp [A.repAt]⟩
  · unfold A.rep
    refine ⟨hlen, Nat.le_trans hn hcm, _, b, 0, cap, rfl, hn, .inr rfl, by simp, ?_⟩
    refine A.repAt_mk (E := ⟨D, [], []⟩) hr (fun j' u hu => ?_)
    have := h.cells (g := b) rfl j' u hu
    rw [add_at] at this
    exact hD b rfl _ u this
theorem SpecF.pub {P : Program} {f : Nat} {args : List A} {post : Nat → Nat → Nat → List A → A → Prop} (h : SpecF P f args post) : Spec P f [] args fun _ r => ∃ e k n cs r0, post e k n cs r0 ∧ r = pubA k n cs r0 := by
  refine ⟨h.1, fun w C β vals h0 h1 h2 h3 h4 h5 h6 => ?_⟩
  have hβ : β = [] := List.eq_nil_of_length_eq_zero (by simpa using h4.symm)
  subst hβ
  refine (h.2 w C vals h0 h1 h6).mono ?_
  rintro e w' ⟨et, k, n, cs, r, v, y, xs, C', rfl, hpost, kp, hC, hC', hnew, hnone, hown, hrep, hr⟩
  have hs : Sub C' (plus C w w') := fun ad u hc => by
    unfold plus
    split
    · rename_i hlt
      rcases hnew ad u hc with h7 | h7
      · exact h7
      · omega
    · exact hC' ad u hc
  refine ⟨[], _, v, rfl, ⟨et, k, n, cs, r, hpost, rfl⟩, kp, rfl, fun i b cs hb => by simp at hb, pubA_rep hs ?_ r hr⟩
  refine own_sl hown (A.repC.mono cs (E := ⟨C', [], []⟩) (F := ⟨plus C w w', [], []⟩) ⟨hs, fun _ _ h => h, fun _ _ h => h⟩ hrep) fun b hb o u hc => ?_
  have hlt := (hown.lt b hb).1
  show plus C w w' ⟨b, o, none⟩ = some u
  unfold plus
  rw [if_neg (by simp only; omega)]
  exact hc
end Go.Proofs.YtpjcbadnpknncaaGreatDoor.Vm
/- The generators: Formula, Trace, Ints. -/
namespace Go.Proofs.YtpjcbadnpknncaaGreatDoor.Vm
open Go.RowKit Go.Shelf
set_option linter.unusedSimpArgs false
set_option linter.unusedVariables false
set_option maxRecDepth 100000
theorem rFormula (l : List Int) : Spec Tryz.prog 5 [] [.sl 1 l.length (intsA l)] fun _ r => ∃ f, Gf 3 f ∧ r = .agg (fmA f) := by
  have h := gen_spec l 3 (by omega) 0 (by decide)
  unfold bxG at h
  refine spec_of (cx_ok ord0 xs0 0) (fun _ _ h => h) Tryz.func5 rfl (by kernel_rfl) rfl (by kernel_rfl) ?_
  intro hok
  conv => whnf
  refine call1 1 [] rfl rfl rfl rfl (fun _ => h) ?_
  rintro o r ⟨f, i', hf, _, _, ho, rfl⟩
  cases ho
  conv => whnf
  exact ⟨f, hf, rfl⟩
theorem trA_snoc (T : List (List Int)) (v : List Int) : trA (T ++ [v]) = trA T ++ [.sl 1 v.length (intsA v)] := by simp [trA]
end Go.Proofs.YtpjcbadnpknncaaGreatDoor.Vm
/- The plain law: meanings, simplified formulas. -/
namespace Go.Proofs.YtpjcbadnpknncaaGreatDoor.Vm
open Go.RowKit Go.Shelf
set_option linter.unusedSimpArgs false
set_option linter.unusedVariables false
set_option maxRecDepth 100000
/-! ### Meanings -/
def minL : List Int → Int
  | [] => 1
  | x :: l => min x (minL l)
def maxL : List Int → Int
  | [] => -1
  | x :: l => max x (maxL l)
theorem minL_app (l m : List Int) (hm : ∀ x ∈ l, x ≤ 1) : minL (l ++ m) = min (minL l) (minL m) := by
  induction l with
  | nil =>
    simp only [List.nil_append, minL]
    have : minL m ≤ 1 := by
      clear hm
      induction m with
      | nil => simp [minL]
      | cons x m ih => simp only [minL]; omega
    omega
  | cons x l ih =>
    have := ih fun y hy => hm y (by simp [hy])
    simp only [List.cons_append, minL]
    omega
theorem minL_le (l : List Int) : minL l ≤ 1 := by
  induction l with
  | nil => simp [minL]
  | cons x m ih => simp only [minL]; omega
theorem maxL_ge (l : List Int) : -1 ≤ maxL l := by
  induction l with
  | nil => simp [maxL]
  | cons x m ih => simp only [maxL]; omega
theorem minL_ge {l : List Int} (h : ∀ x ∈ l, -1 ≤ x) : -1 ≤ minL l := by
  induction l with
  | nil => simp [minL]
  | cons x m ih => simp only [minL]; have := h x (by simp); have := ih fun y hy => h y (by simp [hy]); omega
theorem maxL_le {l : List Int} (h : ∀ x ∈ l, x ≤ 1) : maxL l ≤ 1 := by
  induction l with
  | nil => simp [maxL]
  | cons x m ih => simp only [maxL]; have := h x (by simp); have := ih fun y hy => h y (by simp [hy]); omega
theorem minL_mem {l : List Int} {x : Int} (h : x ∈ l) : minL l ≤ x := by
  induction l with
  | nil => cases h
  | cons y m ih =>
    simp only [minL]
    rcases List.mem_cons.1 h with rfl | h
    · omega
    · have := ih h; omega
theorem maxL_mem {l : List Int} {x : Int} (h : x ∈ l) : x ≤ maxL l := by
  induction l with
  | nil => cases h
  | cons y m ih =>
    simp only [maxL]
    rcases List.mem_cons.1 h with rfl | h
    · omega
    · have := ih h; omega
theorem minL_glb {l : List Int} {c : Int} (hc : c ≤ 1) (h : ∀ x ∈ l, c ≤ x) : c ≤ minL l := by
  induction l with
  | nil => simpa [minL] using hc
  | cons y m ih => simp only [minL]; have := h y (by simp); have := ih fun x hx => h x (by simp [hx]); omega
theorem maxL_lub {l : List Int} {c : Int} (hc : -1 ≤ c) (h : ∀ x ∈ l, x ≤ c) : maxL l ≤ c := by
  induction l with
  | nil => simpa [maxL] using hc
  | cons y m ih => simp only [maxL]; have := h y (by simp); have := ih fun x hx => h x (by simp [hx]); omega
theorem minL_same {l m : List Int} (h1 : ∀ x ∈ l, minL m ≤ x) (h2 : ∀ x ∈ m, minL l ≤ x) : minL l = minL m := by
  have := minL_glb (minL_le l) h2
  have := minL_glb (minL_le m) h1
  omega
theorem maxL_same {l m : List Int} (h1 : ∀ x ∈ l, x ≤ maxL m) (h2 : ∀ x ∈ m, x ≤ maxL l) : maxL l = maxL m := by
  have := maxL_lub (maxL_ge l) h2
  have := maxL_lub (maxL_ge m) h1
  omega
/-- A meaning: of what joins and negates. -/
structure Sem (E : Fm → Int) : Prop where
  lo : ∀ f, Wf f → -1 ≤ E f
  hi : ∀ f, Wf f → E f ≤ 1
  and : ∀ l, (∀ f ∈ l, Wf f) → E (.mk 3 0 0 0 l) = minL (l.map E)
  or : ∀ l, (∀ f ∈ l, Wf f) → E (.mk 4 0 0 0 l) = maxL (l.map E)
  not : ∀ f, Wf f → E (.mk 2 0 0 0 [f]) = - E f
theorem Sem.tt {E : Fm → Int} (h : Sem E) : E (constF true) = 1 := h.and [] (by simp)
theorem Sem.ff {E : Fm → Int} (h : Sem E) : E (constF false) = -1 := h.or [] (by simp)
theorem rGo_and {E : Fm → Int} (h : Sem E) : ∀ flat out : List Fm, (∀ f ∈ flat, Wf f) → (∀ f ∈ out, Wf f) → E (rGo 3 flat out) = min (minL (out.map E)) (minL (flat.map E))
  | [], out, _, ho => by
    unfold rGo finR
    have := minL_le (out.map E)
    split
    · have := h.hi _ (ho _ (List.mem_singleton_self _))
      simp only [List.map_cons, List.map_nil, minL]; omega
    · rw [h.and _ ho, List.map_nil]
      simp only [minL]; omega
  | f :: flat, out, hf, ho => by
    unfold rGo
    have hout : -1 ≤ minL (out.map E) := minL_ge fun x hx => by
      obtain ⟨g, hg, rfl⟩ := List.mem_map.1 hx
      exact h.lo g (ho g hg)
    have hfl : -1 ≤ minL (flat.map E) := minL_ge fun x hx => by
      obtain ⟨g, hg, rfl⟩ := List.mem_map.1 hx
      exact h.lo g (hf g (by simp [hg]))
    split
    · rename_i hop
      have := wf_opp (.inl rfl) (hf f (by simp)) hop
      have e : E f = -1 := by rw [this]; exact h.ff
      simp only [List.map_cons, minL]
      omega
    · rw [rGo_and h flat (addR out f) (fun g hg => hf g (by simp [hg])) (fun g hg => by
        rcases addR_mem.1 hg with hg | rfl
        · exact ho g hg
        · exact hf _ (by simp))]
      have e : minL ((addR out f).map E) = min (minL (out.map E)) (E f) := by
        have : minL ((addR out f).map E) = minL ((f :: out).map E) := by
          refine minL_same (fun x hx => ?_) fun x hx => ?_
          · obtain ⟨g, hg, rfl⟩ := List.mem_map.1 hx
            refine minL_mem (List.mem_map.2 ⟨g, ?_, rfl⟩)
            rcases addR_mem.1 hg with hg | rfl
            · simp [hg]
            · simp
          · obtain ⟨g, hg, rfl⟩ := List.mem_map.1 hx
            refine minL_mem (List.mem_map.2 ⟨g, ?_, rfl⟩)
            rw [addR_mem]
            rcases List.mem_cons.1 hg with rfl | hg
            · exact .inr rfl
            · exact .inl hg
        rw [this]
        simp only [List.map_cons, minL]
        omega
      rw [e]
      simp only [List.map_cons, minL]
      omega
theorem rGo_or {E : Fm → Int} (h : Sem E) : ∀ flat out : List Fm, (∀ f ∈ flat, Wf f) → (∀ f ∈ out, Wf f) → E (rGo 4 flat out) = max (maxL (out.map E)) (maxL (flat.map E))
  | [], out, _, ho => by
    unfold rGo finR
    have := maxL_ge (out.map E)
    split
    · have := h.lo _ (ho _ (List.mem_singleton_self _))
      simp only [List.map_cons, List.map_nil, maxL]; omega
    · rw [h.or _ ho, List.map_nil]
      simp only [maxL]; omega
  | f :: flat, out, hf, ho => by
    unfold rGo
    have hout : maxL (out.map E) ≤ 1 := maxL_le fun x hx => by
      obtain ⟨g, hg, rfl⟩ := List.mem_map.1 hx
      exact h.hi g (ho g hg)
    have hfl : maxL (flat.map E) ≤ 1 := maxL_le fun x hx => by
      obtain ⟨g, hg, rfl⟩ := List.mem_map.1 hx
      exact h.hi g (hf g (by simp [hg]))
    split
    · rename_i hop
      have := wf_opp (.inr rfl) (hf f (by simp)) hop
      have e : E f = 1 := by rw [this]; exact h.tt
      simp only [List.map_cons, maxL]
      omega
    · rw [rGo_or h flat (addR out f) (fun g hg => hf g (by simp [hg])) (fun g hg => by
        rcases addR_mem.1 hg with hg | rfl
        · exact ho g hg
        · exact hf _ (by simp))]
      have e : maxL ((addR out f).map E) = max (maxL (out.map E)) (E f) := by
        have : maxL ((addR out f).map E) = maxL ((f :: out).map E) := by
          refine maxL_same (fun x hx => ?_) fun x hx => ?_
          · obtain ⟨g, hg, rfl⟩ := List.mem_map.1 hx
            refine maxL_mem (List.mem_map.2 ⟨g, ?_, rfl⟩)
            rcases addR_mem.1 hg with hg | rfl
            · simp [hg]
            · simp
          · obtain ⟨g, hg, rfl⟩ := List.mem_map.1 hx
            refine maxL_mem (List.mem_map.2 ⟨g, ?_, rfl⟩)
            rw [addR_mem]
            rcases List.mem_cons.1 hg with rfl | hg
            · exact .inr rfl
            · exact .inl hg
        rw [this]
        simp only [List.map_cons, maxL]
        omega
      rw [e]
      simp only [List.map_cons, maxL]
      omega
theorem wf_and_kids {f : Fm} {k : Int} (hk : k = 3 ∨ k = 4) (h : Wf f) (h3 : f.k = k) : ∃ l, f = .mk k 0 0 0 l ∧ ∀ g ∈ l, Wf g := by
  cases h with
  | var => simp [Fm.k] at h3; omega
  | un hk => simp [Fm.k] at h3; omega
  | til => simp [Fm.k] at h3; omega
  | jn _ h =>
    simp only [Fm.k] at h3
    subst h3
    exact ⟨_, rfl, h⟩
theorem Sem.join3 {E : Fm → Int} (h : Sem E) {l : List Fm} (hw : ∀ f ∈ l, Wf f) : E (rjoinF 3 l) = minL (l.map E) := by
  unfold rjoinF
  rw [rGo_and h _ _ (wf_flat hw) (by simp)]
  have e : minL ((flatJ 3 l).map E) = minL (l.map E) := by
    induction l with
    | nil => rfl
    | cons f l ih =>
      rw [show flatJ 3 (f :: l) = partsF 3 f ++ flatJ 3 l from by unfold flatJ; rw [List.flatMap_cons], List.map_append, minL_app, ih fun g hg => hw g (by simp [hg])]
      · rw [List.map_cons]
        show _ = min (E f) (minL (l.map E))
        congr 1
        unfold partsF
        split
        · rename_i hk
          obtain ⟨m, rfl, hm⟩ := wf_and_kids (.inl rfl) (hw f (by simp)) hk
          rw [h.and m hm]
          rfl
        · have := h.hi f (hw f (by simp))
          simp only [List.map_cons, List.map_nil, minL]
          omega
      · intro x hx
        obtain ⟨g, hg, rfl⟩ := List.mem_map.1 hx
        exact h.hi g (wf_parts (hw f (by simp)) g hg)
  rw [e]
  have := minL_le (l.map E)
  simp only [List.map_nil, minL]
  omega
theorem maxL_app (l m : List Int) (hm : ∀ x ∈ l, -1 ≤ x) : maxL (l ++ m) = max (maxL l) (maxL m) := by
  induction l with
  | nil =>
    have := maxL_ge m
    simp only [List.nil_append, maxL]
    omega
  | cons x l ih =>
    have := ih fun y hy => hm y (by simp [hy])
    simp only [List.cons_append, maxL]
    omega
theorem Sem.join4 {E : Fm → Int} (h : Sem E) {l : List Fm} (hw : ∀ f ∈ l, Wf f) : E (rjoinF 4 l) = maxL (l.map E) := by
  unfold rjoinF
  rw [rGo_or h _ _ (wf_flat hw) (by simp)]
  have e : maxL ((flatJ 4 l).map E) = maxL (l.map E) := by
    induction l with
    | nil => rfl
    | cons f l ih =>
      rw [show flatJ 4 (f :: l) = partsF 4 f ++ flatJ 4 l from by unfold flatJ; rw [List.flatMap_cons], List.map_append, maxL_app, ih fun g hg => hw g (by simp [hg])]
      · rw [List.map_cons]
        show _ = max (E f) (maxL (l.map E))
        congr 1
        unfold partsF
        split
        · rename_i hk
          obtain ⟨m, rfl, hm⟩ := wf_and_kids (.inr rfl) (hw f (by simp)) hk
          rw [h.or m hm]
          rfl
        · have := h.lo f (hw f (by simp))
          simp only [List.map_cons, List.map_nil, maxL]
          omega
      · intro x hx
        obtain ⟨g, hg, rfl⟩ := List.mem_map.1 hx
        exact h.lo g (wf_parts (hw f (by simp)) g hg)
  rw [e]
  have := maxL_ge (l.map E)
  simp only [List.map_nil, maxL]
  omega
theorem Sem.neg {E : Fm → Int} (h : Sem E) {f : Fm} (hw : Wf f) : E (notF f) = - E f := by
  unfold notF
  split
  · rename_i hc
    rcases (isC_iff hw).1 hc with rfl | rfl
    · show E (constF false) = - E (constF true)
      rw [h.ff, h.tt]
    · show E (constF true) = - E (constF false)
      rw [h.ff, h.tt]
      rfl
  · split
    · rename_i h2
      cases hw with
      | var => simp [Fm.kids] at h2
      | un hk hx =>
        simp only [Fm.k] at h2
        rw [h2.1, h.not _ hx]
        simp [Fm.kids, g0]
      | til => simp [Fm.k] at h2
      | jn hk => simp [Fm.k] at h2; omega
    · exact h.not f hw
/-- From one position to the next. -/
structure Stp (v : List Int) (E E' : Fm → Int) : Prop where
  var : ∀ a b n, E (.mk 1 a b n []) = if cmpV b (atV v a) n = true then 1 else -1
  nx : ∀ f, E (.mk 5 0 0 0 [f]) = E' f
  alw : ∀ f, E (.mk 7 0 0 0 [f]) = min (E f) (E' (.mk 7 0 0 0 [f]))
  ev : ∀ f, E (.mk 8 0 0 0 [f]) = max (E f) (E' (.mk 8 0 0 0 [f]))
  til : ∀ f g, E (.mk 6 0 0 0 [f, g]) = max (E g) (min (E f) (E' (.mk 6 0 0 0 [f, g])))
theorem Sem.two3 {E : Fm → Int} (h : Sem E) {f g : Fm} (w1 : Wf f) (w2 : Wf g) : E (.mk 3 0 0 0 [f, g]) = min (E f) (E g) := by
  rw [h.and [f, g] (wf_kids (wf_two (.inl rfl) w1 w2))]
  have := h.hi g w2
  simp only [List.map_cons, List.map_nil, minL]
  omega
theorem Sem.two4 {E : Fm → Int} (h : Sem E) {f g : Fm} (w1 : Wf f) (w2 : Wf g) : E (.mk 4 0 0 0 [f, g]) = max (E f) (E g) := by
  rw [h.or [f, g] (wf_kids (wf_two (.inr rfl) w1 w2))]
  have := h.lo g w2
  simp only [List.map_cons, List.map_nil, maxL]
  omega
theorem stp_eq {v : List Int} {E E' : Fm → Int} (h : Sem E) (h' : Sem E') (hs : Stp v E E') {f : Fm} (hw : Wf f) : E' (stF v f) = E f := by
  induction hw with
  | var h1 h2 h3 =>
    rw [st_var, hs.var]
    split
    · rename_i h; rw [h, h'.tt]
    · rename_i h; rw [Bool.not_eq_true] at h; rw [h, h'.ff]
  | un hk hw ih =>
    rename_i k f
    rcases hk with rfl | rfl | rfl | rfl
    · rw [st_not, h'.not _ (wf_st v hw), h.not _ hw, ih]
    · rw [st_next, hs.nx]
    · rw [st_alw, h'.two3 (wf_st v hw) (.un (by simp) hw), hs.alw, ih]
    · rw [st_ev, h'.two4 (wf_st v hw) (.un (by simp) hw), hs.ev, ih]
  | til w1 w2 ih1 ih2 =>
    rw [st_til, h'.two4 (wf_st v w2) (wf_two (.inl rfl) (wf_st v w1) (.til w1 w2)), h'.two3 (wf_st v w1) (.til w1 w2), hs.til, ih1, ih2]
  | jn hk hw ih =>
    rename_i k l
    have hw' : ∀ f ∈ l.map (stF v), Wf f := fun f hf => by
      obtain ⟨g, hg, rfl⟩ := List.mem_map.1 hf
      exact wf_st v (hw g hg)
    have e : (l.map (stF v)).map E' = l.map E := by
      rw [List.map_map]
      exact List.map_congr_left fun f hf => ih f hf
    rw [st_jn hk]
    rcases hk with rfl | rfl
    · rw [h'.and _ hw', h.and _ hw, e]
    · rw [h'.or _ hw', h.or _ hw, e]
/-! ### Simplified formulas -/
inductive Nf : Fm → Prop
  | var {a b n : Int} : 0 ≤ a → 0 ≤ b → b ≤ 2 → Nf (.mk 1 a b n [])
  | not {f : Fm} : Nf f → isC f = false → f.k ≠ 2 → Nf (.mk 2 0 0 0 [f])
  | un {k : Int} {f : Fm} : k = 5 ∨ k = 7 ∨ k = 8 → Nf f → isC f = false → Nf (.mk k 0 0 0 [f])
  | til {f g : Fm} : Nf f → Nf g → isC g = false → f ≠ constF false → Nf (.mk 6 0 0 0 [f, g])
  | jn {k : Int} {l : List Fm} : k = 3 ∨ k = 4 → l.length ≠ 1 → (∀ f, f ∈ l → Nf f) → (∀ f, f ∈ l → f.k ≠ k ∧ isC f = false) → l.Nodup → Nf (.mk k 0 0 0 l)
theorem nf_wf {f : Fm} (h : Nf f) : Wf f := by
  induction h with
  | var h1 h2 h3 => exact .var h1 h2 h3
  | not _ _ _ ih => exact .un (.inl rfl) ih
  | un hk _ _ ih => exact .un (.inr hk) ih
  | til _ _ _ _ ih1 ih2 => exact .til ih1 ih2
  | jn hk _ _ _ _ ih => exact .jn hk ih
theorem nf_const (b : Bool) : Nf (constF b) := by
  unfold constF
  cases b
  · exact .jn (.inr rfl) (by simp) (by simp) (by simp) (by simp)
  · exact .jn (.inl rfl) (by simp) (by simp) (by simp) (by simp)
theorem nf_parts {kind : Int} (hk : kind = 3 ∨ kind = 4) {f : Fm} (h : Nf f) : ∀ g ∈ partsF kind f, Nf g ∧ g.k ≠ kind ∧ (isC g = false ∨ g = absF kind) := by
  unfold partsF
  split
  · rename_i h3
    cases h with
    | var => simp [Fm.kids]
    | not => simp [Fm.k] at h3; omega
    | un hk => simp [Fm.k] at h3; omega
    | til => simp [Fm.k] at h3; omega
    | jn hk h1 h2 h4 h5 =>
      simp only [Fm.k] at h3
      subst h3
      intro g hg
      exact ⟨h2 g hg, (h4 g hg).1, .inl (h4 g hg).2⟩
  · rename_i h3
    intro g hg
    rw [List.mem_singleton.1 hg]
    refine ⟨h, h3, ?_⟩
    cases hc : isC f with
    | false => exact .inl rfl
    | true =>
      right
      rcases (isC_iff (nf_wf h)).1 hc with rfl | rfl
      · rcases hk with rfl | rfl
        · exact absurd rfl h3
        · rfl
      · rcases hk with rfl | rfl
        · rfl
        · exact absurd rfl h3
theorem add_nodup {out : List Fm} (h : out.Nodup) (f : Fm) : (addR out f).Nodup := by
  unfold addR
  split
  · exact h
  · rename_i hn
    rw [any_iff] at hn
    rw [List.nodup_append]
    refine ⟨h, by simp, fun a ha b hb => ?_⟩
    rw [List.mem_singleton.1 hb]
    rintro rfl
    exact hn ha
theorem rGo_nf {kind : Int} (hk : kind = 3 ∨ kind = 4) : ∀ flat out : List Fm, (∀ g ∈ flat, Nf g ∧ g.k ≠ kind ∧ (isC g = false ∨ g = absF kind)) → (∀ g ∈ out, Nf g ∧ g.k ≠ kind ∧ isC g = false) → out.Nodup → Nf (rGo kind flat out)
  | [], out, _, ho, hd => by
    unfold rGo finR
    split
    · exact (ho _ (by simp)).1
    · rename_i hne
      exact .jn hk (fun h1 => by
        obtain ⟨x, rfl⟩ := List.length_eq_one_iff.1 h1
        exact hne x rfl) (fun f hf => (ho f hf).1) (fun f hf => (ho f hf).2) hd
  | f :: flat, out, hf, ho, hd => by
    unfold rGo
    split
    · exact (hf f (by simp)).1
    · rename_i hop
      refine rGo_nf hk flat _ (fun g hg => hf g (by simp [hg])) (fun g hg => ?_) (add_nodup hd f)
      rcases addR_mem.1 hg with hg | rfl
      · exact ho g hg
      · obtain ⟨n1, n2, n3⟩ := hf g (by simp)
        refine ⟨n1, n2, n3.resolve_right fun e => hop (e ▸ opp_abs hk)⟩
theorem nf_join {kind : Int} (hk : kind = 3 ∨ kind = 4) {l : List Fm} (h : ∀ f ∈ l, Nf f) : Nf (rjoinF kind l) := by
  unfold rjoinF
  refine rGo_nf hk _ _ (fun g hg => ?_) (by simp) (by simp)
  unfold flatJ at hg
  obtain ⟨f, hf, hg⟩ := List.mem_flatMap.1 hg
  exact nf_parts hk (h f hf) g hg
theorem nf_not {f : Fm} (h : Nf f) : Nf (notF f) := by
  unfold notF oppF
  split
  · split
    · exact nf_const false
    · exact nf_const true
  · rename_i hc
    rw [Bool.not_eq_true] at hc
    split
    · rename_i h2
      cases h with
      | var => simp [Fm.k] at h2
      | not h => simpa [g0, Fm.kids] using h
      | un hk => simp [Fm.k] at h2; omega
      | til => simp [Fm.k] at h2
      | jn hk => simp [Fm.k] at h2; omega
    · rename_i h2
      refine .not h hc fun hk => h2 ⟨hk, ?_⟩
      cases h with
      | var => simp [Fm.k] at hk
      | not h => simp [Fm.kids]
      | un hk => simp [Fm.kids]
      | til => simp [Fm.kids]
      | jn hk2 => simp [Fm.k] at hk; omega
theorem nf_s {f : Fm} (h : Wf f) : Nf (sF f) := by
  induction h with
  | var h1 h2 h3 => rw [sF_var]; exact .var h1 h2 h3
  | un hk h ih =>
    rename_i k f
    by_cases h2 : k = 2
    · subst h2; rw [sF_not]; exact nf_not ih
    · rw [sF_un (by omega)]
      split
      · exact ih
      · rename_i hc
        rw [Bool.not_eq_true] at hc
        exact .un (by omega) ih hc
  | til h1 h2 ih1 ih2 =>
    rw [sF_til]
    split
    · exact ih2
    · rename_i hc
      rw [Bool.or_eq_true, not_or, Bool.not_eq_true, eqM_iff] at hc
      exact .til ih1 ih2 hc.1 hc.2
  | jn hk h ih =>
    rw [sF_jn hk]
    refine nf_join hk fun f hf => ?_
    obtain ⟨g, hg, rfl⟩ := List.mem_map.1 hf
    exact ih g hg
theorem rGo_id {kind : Int} (hk : kind = 3 ∨ kind = 4) : ∀ flat out : List Fm, (∀ g ∈ flat, Wf g ∧ isC g = false) → (out ++ flat).Nodup → rGo kind flat out = finR kind (out ++ flat)
  | [], out, _, _ => by unfold rGo; rw [List.append_nil]
  | f :: flat, out, hf, hd => by
    unfold rGo
    have ho : ¬ oppC kind f = true := fun ho => by
      have := wf_opp hk (hf f (by simp)).1 ho
      have h2 := (hf f (by simp)).2
      rw [this] at h2
      unfold absF at h2
      rw [isC_const] at h2
      cases h2
    rw [if_neg ho]
    have e : addR out f = out ++ [f] := by
      unfold addR
      rw [if_neg]
      rw [any_iff]
      intro hm
      rw [List.nodup_append] at hd
      exact hd.2.2 f hm f (by simp) rfl
    rw [e, rGo_id hk flat (out ++ [f]) (fun g hg => hf g (by simp [hg])) (by simpa using hd)]
    simp
theorem nf_id {f : Fm} (h : Nf f) : sF f = f := by
  induction h with
  | var => rw [sF_var]
  | not h hc h2 ih =>
    rw [sF_not, ih]
    unfold notF
    rw [if_neg (by rw [hc]; simp), if_neg (fun h => h2 h.1)]
  | un hk h hc ih =>
    rw [sF_un hk, ih, if_neg (by rw [hc]; simp)]
  | til h1 h2 hc hn ih1 ih2 =>
    rw [sF_til, ih1, ih2, if_neg]
    rw [Bool.or_eq_true, not_or, Bool.not_eq_true, eqM_iff]
    exact ⟨hc, hn⟩
  | jn hk h1 h2 h4 h5 ih =>
    rename_i k l
    rw [sF_jn hk]
    have e : l.map sF = l := by
      conv => rhs; rw [← List.map_id l]
      exact List.map_congr_left fun f hf => ih f hf
    rw [e]
    unfold rjoinF
    have e2 : flatJ k l = l := by
      unfold flatJ
      conv => rhs; rw [← List.flatMap_singleton' l]
      rw [List.flatMap_def, List.flatMap_def]
      congr 1
      refine List.map_congr_left fun f hf => ?_
      unfold partsF
      rw [if_neg (h4 f hf).1]
    rw [e2, rGo_id hk l [] (fun g hg => ⟨nf_wf (h2 g hg), (h4 g hg).2⟩) (by simpa using h5), List.nil_append]
    unfold finR
    split
    · exact absurd rfl h1
    · rfl
theorem s_idem {f : Fm} (h : Wf f) : sF (sF f) = sF f := nf_id (nf_s h)
/-! ### At the end of the trace -/
def T3 (g : Fm) : Int := if isC g = true then (if g.k = 3 then 1 else -1) else 0
theorem T3_rng (g : Fm) : -1 ≤ T3 g ∧ T3 g ≤ 1 := by
  unfold T3
  split
  · split <;> omega
  · omega
theorem T3_tt : T3 (constF true) = 1 := rfl
theorem T3_ff : T3 (constF false) = -1 := rfl
theorem T3_non {g : Fm} (h : isC g = false) : T3 g = 0 := by unfold T3; rw [if_neg (by rw [h]; simp)]
theorem T3_go {kind : Int} (hk : kind = 3 ∨ kind = 4) : ∀ flat out : List Fm, (∀ g ∈ flat, Nf g ∧ (isC g = false ∨ g = absF kind)) → (∀ g ∈ out, isC g = false) →
    T3 (rGo kind flat out) = @ite _ (absF kind ∈ flat) (Classical.propDecidable _) (T3 (absF kind)) (@ite _ (out = [] ∧ flat = []) (Classical.propDecidable _) (- T3 (absF kind)) 0)
  | [], out, _, ho => by
    unfold rGo finR
    rw [if_neg (by simp)]
    split
    · rw [T3_non (ho _ (by simp))]; simp
    · by_cases h : out = []
      · subst h
        rw [if_pos ⟨rfl, rfl⟩]
        rcases hk with rfl | rfl <;> rfl
      · rw [if_neg (fun x => h x.1)]
        refine T3_non ?_
        unfold isC
        simp [Fm.kids, h]
  | f :: flat, out, hf, ho => by
    unfold rGo
    split
    · rename_i hop
      have := wf_opp hk (nf_wf (hf f (by simp)).1) hop
      rw [if_pos (by rw [← this]; simp), this]
    · rename_i hop
      have hnf : f ≠ absF kind := fun e => hop (e ▸ opp_abs hk)
      rw [T3_go hk flat (addR out f) (fun g hg => hf g (by simp [hg])) (fun g hg => by
        rcases addR_mem.1 hg with hg | rfl
        · exact ho g hg
        · exact (hf _ (by simp)).2.resolve_right hnf)]
      have h1 : (absF kind ∈ f :: flat) ↔ absF kind ∈ flat := by simp [Ne.symm hnf]
      have h2 : ¬ (addR out f = [] ∧ flat = []) := fun h => by
        have : f ∈ addR out f := addR_mem.2 (.inr rfl)
        rw [h.1] at this
        cases this
      by_cases hm : absF kind ∈ flat
      · rw [if_pos hm, if_pos (h1.2 hm)]
      · rw [if_neg hm, if_neg (fun h => hm (h1.1 h)), if_neg h2, if_neg (by simp)]
theorem T3_min {l : List Fm} (h : ∀ f ∈ l, Nf f) : T3 (rjoinF 3 l) = minL (l.map T3) := by
  unfold rjoinF
  have hfl : ∀ g ∈ flatJ 3 l, Nf g ∧ (isC g = false ∨ g = absF 3) := fun g hg => by
    unfold flatJ at hg
    obtain ⟨f, hf, hg⟩ := List.mem_flatMap.1 hg
    have := nf_parts (.inl rfl) (h f hf) g hg
    exact ⟨this.1, this.2.2⟩
  rw [T3_go (.inl rfl) _ _ hfl (by simp)]
  have hmem : absF 3 ∈ flatJ 3 l ↔ absF 3 ∈ l := by
    unfold flatJ
    rw [List.mem_flatMap]
    constructor
    · rintro ⟨f, hf, hg⟩
      unfold partsF at hg
      split at hg
      · rename_i hk
        obtain ⟨m, rfl, hm⟩ := wf_and_kids (.inl rfl) (nf_wf (h f hf)) hk
        cases h _ hf with
        | jn _ _ _ h4 =>
          have := (h4 _ hg).2
          unfold absF at this
          rw [isC_const] at this
          cases this
        | un hk => omega
      · rw [List.mem_singleton.1 hg]; exact hf
    · intro hm
      exact ⟨_, hm, by unfold partsF absF constF; simp [Fm.k]⟩
  have hnil : flatJ 3 l = [] ↔ ∀ f ∈ l, f = constF true := by
    unfold flatJ
    rw [List.flatMap_eq_nil_iff]
    refine forall_congr' fun f => forall_congr' fun hf => ?_
    unfold partsF
    constructor
    · intro he
      split at he
      · rename_i hk
        obtain ⟨m, rfl, hm⟩ := wf_and_kids (.inl rfl) (nf_wf (h f hf)) hk
        simp only [Fm.kids] at he
        subst he
        rfl
      · cases he
    · rintro rfl
      rfl
  by_cases hm : absF 3 ∈ l
  · rw [if_pos (hmem.2 hm)]
    have h1 : minL (l.map T3) ≤ -1 := minL_mem (List.mem_map.2 ⟨_, hm, rfl⟩)
    have h2 : -1 ≤ minL (l.map T3) := minL_ge fun x hx => by
      obtain ⟨g, hg, rfl⟩ := List.mem_map.1 hx
      exact (T3_rng g).1
    show (-1 : Int) = _
    omega
  · rw [if_neg (fun h => hm (hmem.1 h))]
    have hne : ∀ f ∈ l, 0 ≤ T3 f := fun f hf => by
      unfold T3
      split
      · rename_i hc
        rcases (isC_iff (nf_wf (h f hf))).1 hc with rfl | rfl
        · decide
        · exact absurd hf hm
      · omega
    have h0 : 0 ≤ minL (l.map T3) := minL_glb (by omega) fun x hx => by
      obtain ⟨g, hg, rfl⟩ := List.mem_map.1 hx
      exact hne g hg
    by_cases hn : flatJ 3 l = []
    · rw [if_pos ⟨rfl, hn⟩]
      have := hnil.1 hn
      have : 1 ≤ minL (l.map T3) := minL_glb (by omega) fun x hx => by
        obtain ⟨g, hg, rfl⟩ := List.mem_map.1 hx
        rw [this g hg]
        decide
      have := minL_le (l.map T3)
      show (1 : Int) = _
      omega
    · rw [if_neg (fun h => hn h.2)]
      rw [hnil] at hn
      obtain ⟨f, hf, hfn⟩ : ∃ f ∈ l, f ≠ constF true := by
        refine Classical.byContradiction fun hx => hn fun f hf => Classical.byContradiction fun hy => hx ⟨f, hf, hy⟩
      have : T3 f = 0 := by
        refine T3_non ?_
        cases hc : isC f with
        | false => rfl
        | true =>
          rcases (isC_iff (nf_wf (h f hf))).1 hc with rfl | rfl
          · exact absurd rfl hfn
          · exact absurd hf hm
      have h1 : minL (l.map T3) ≤ 0 := by rw [← this]; exact minL_mem (List.mem_map.2 ⟨_, hf, rfl⟩)
      omega
theorem T3_max {l : List Fm} (h : ∀ f ∈ l, Nf f) : T3 (rjoinF 4 l) = maxL (l.map T3) := by
  unfold rjoinF
  have hfl : ∀ g ∈ flatJ 4 l, Nf g ∧ (isC g = false ∨ g = absF 4) := fun g hg => by
    unfold flatJ at hg
    obtain ⟨f, hf, hg⟩ := List.mem_flatMap.1 hg
    have := nf_parts (.inr rfl) (h f hf) g hg
    exact ⟨this.1, this.2.2⟩
  rw [T3_go (.inr rfl) _ _ hfl (by simp)]
  have hmem : absF 4 ∈ flatJ 4 l ↔ absF 4 ∈ l := by
    unfold flatJ
    rw [List.mem_flatMap]
    constructor
    · rintro ⟨f, hf, hg⟩
      unfold partsF at hg
      split at hg
      · rename_i hk
        obtain ⟨m, rfl, hm⟩ := wf_and_kids (.inr rfl) (nf_wf (h f hf)) hk
        cases h _ hf with
        | jn _ _ _ h4 =>
          have := (h4 _ hg).2
          unfold absF at this
          rw [isC_const] at this
          cases this
        | un hk => omega
      · rw [List.mem_singleton.1 hg]; exact hf
    · intro hm
      exact ⟨_, hm, by unfold partsF absF constF; simp [Fm.k]⟩
  have hnil : flatJ 4 l = [] ↔ ∀ f ∈ l, f = constF false := by
    unfold flatJ
    rw [List.flatMap_eq_nil_iff]
    refine forall_congr' fun f => forall_congr' fun hf => ?_
    unfold partsF
    constructor
    · intro he
      split at he
      · rename_i hk
        obtain ⟨m, rfl, hm⟩ := wf_and_kids (.inr rfl) (nf_wf (h f hf)) hk
        simp only [Fm.kids] at he
        subst he
        rfl
      · cases he
    · rintro rfl
      rfl
  by_cases hm : absF 4 ∈ l
  · rw [if_pos (hmem.2 hm)]
    have h1 : 1 ≤ maxL (l.map T3) := maxL_mem (List.mem_map.2 ⟨_, hm, rfl⟩)
    have h2 : maxL (l.map T3) ≤ 1 := maxL_le fun x hx => by
      obtain ⟨g, hg, rfl⟩ := List.mem_map.1 hx
      exact (T3_rng g).2
    show (1 : Int) = _
    omega
  · rw [if_neg (fun h => hm (hmem.1 h))]
    have hne : ∀ f ∈ l, T3 f ≤ 0 := fun f hf => by
      unfold T3
      split
      · rename_i hc
        rcases (isC_iff (nf_wf (h f hf))).1 hc with rfl | rfl
        · exact absurd hf hm
        · decide
      · omega
    have h0 : maxL (l.map T3) ≤ 0 := maxL_lub (by omega) fun x hx => by
      obtain ⟨g, hg, rfl⟩ := List.mem_map.1 hx
      exact hne g hg
    by_cases hn : flatJ 4 l = []
    · rw [if_pos ⟨rfl, hn⟩]
      have := hnil.1 hn
      have : maxL (l.map T3) ≤ -1 := maxL_lub (by omega) fun x hx => by
        obtain ⟨g, hg, rfl⟩ := List.mem_map.1 hx
        rw [this g hg]
        decide
      have := maxL_ge (l.map T3)
      show (-1 : Int) = _
      omega
    · rw [if_neg (fun h => hn h.2)]
      rw [hnil] at hn
      obtain ⟨f, hf, hfn⟩ : ∃ f ∈ l, f ≠ constF false := by
        refine Classical.byContradiction fun hx => hn fun f hf => Classical.byContradiction fun hy => hx ⟨f, hf, hy⟩
      have : T3 f = 0 := by
        refine T3_non ?_
        cases hc : isC f with
        | false => rfl
        | true =>
          rcases (isC_iff (nf_wf (h f hf))).1 hc with rfl | rfl
          · exact absurd hf hm
          · exact absurd rfl hfn
      have h1 : 0 ≤ maxL (l.map T3) := by rw [← this]; exact maxL_mem (List.mem_map.2 ⟨_, hf, rfl⟩)
      omega
theorem T3_not {f : Fm} (h : Nf f) : T3 (notF f) = - T3 f := by
  unfold notF
  split
  · rename_i hc
    rcases (isC_iff (nf_wf h)).1 hc with rfl | rfl <;> rfl
  · rename_i hc
    rw [Bool.not_eq_true] at hc
    rw [T3_non hc]
    split
    · rename_i h2
      cases h with
      | var => simp [Fm.k] at h2
      | not h hc2 => simpa [g0, Fm.kids] using T3_non hc2
      | un hk => simp [Fm.k] at h2; omega
      | til => simp [Fm.k] at h2
      | jn hk => simp [Fm.k] at h2; omega
    · rfl
def end3 (f : Fm) : Int := T3 (sF f)
theorem sem_end : Sem end3 where
  lo _ _ := (T3_rng _).1
  hi _ _ := (T3_rng _).2
  and l h := by
    unfold end3
    rw [sF_jn (.inl rfl), T3_min fun f hf => by
      obtain ⟨g, hg, rfl⟩ := List.mem_map.1 hf
      exact nf_s (h g hg), List.map_map]
    rfl
  or l h := by
    unfold end3
    rw [sF_jn (.inr rfl), T3_max fun f hf => by
      obtain ⟨g, hg, rfl⟩ := List.mem_map.1 hf
      exact nf_s (h g hg), List.map_map]
    rfl
  not f h := by
    unfold end3
    rw [sF_not, T3_not (nf_s h)]
end Go.Proofs.YtpjcbadnpknncaaGreatDoor.Vm
/- The plain law: the three-valued meaning, verdicts, longer traces. -/
namespace Go.Proofs.YtpjcbadnpknncaaGreatDoor.Vm
open Go.RowKit Go.Shelf
set_option linter.unusedSimpArgs false
set_option linter.unusedVariables false
set_option maxRecDepth 100000
/-! ### The three-valued meaning -/
def meC (v : List Int) (nx : Fm → Int) (k a b n : Int) (l : List Fm) (P : List Int) : Int :=
  if k = 1 then (if cmpV b (atV v a) n = true then 1 else -1)
  else if k = 2 then - P.getD 0 0
  else if k = 5 then nx (g0 l)
  else if k = 7 then min (P.getD 0 0) (nx (.mk k a b n l))
  else if k = 8 then max (P.getD 0 0) (nx (.mk k a b n l))
  else if k = 6 then max (P.getD 1 0) (min (P.getD 0 0) (nx (.mk k a b n l)))
  else if k = 3 then minL P
  else maxL P
mutual
def meK (v : List Int) (nx : Fm → Int) : Fm → Int
  | .mk k a b n l => meC v nx k a b n l (meKs v nx l)
def meKs (v : List Int) (nx : Fm → Int) : List Fm → List Int
  | [] => []
  | f :: l => meK v nx f :: meKs v nx l
end
theorem meKs_map (v : List Int) (nx : Fm → Int) : ∀ l : List Fm, meKs v nx l = l.map (meK v nx)
  | [] => by unfold meKs; rfl
  | f :: l => by unfold meKs; rw [meKs_map v nx l]; rfl
theorem meK_mk (v : List Int) (nx : Fm → Int) (k a b n : Int) (l : List Fm) : meK v nx (.mk k a b n l) = meC v nx k a b n l (l.map (meK v nx)) := by
  rw [← meKs_map]
  conv => lhs; unfold meK
def meF : List (List Int) → Fm → Int
  | [] => end3
  | v :: t => meK v (meF t)
theorem stp_me (v : List Int) (nx : Fm → Int) : Stp v (meK v nx) nx where
  var a b n := by rw [meK_mk]; simp [meC]
  nx f := by rw [meK_mk]; simp [meC, g0]
  alw f := by rw [meK_mk]; simp [meC]
  ev f := by rw [meK_mk]; simp [meC]
  til f g := by rw [meK_mk]; simp [meC]
theorem sem_me (v : List Int) {nx : Fm → Int} (h : Sem nx) : Sem (meK v nx) := by
  have hb : ∀ f, Wf f → -1 ≤ meK v nx f ∧ meK v nx f ≤ 1 := fun f hw => by
    induction hw with
    | var =>
      rw [(stp_me v nx).var]
      split <;> omega
    | un hk hw ih =>
      rename_i k f
      rcases hk with rfl | rfl | rfl | rfl
      · rw [meK_mk]; simp [meC]; omega
      · rw [(stp_me v nx).nx]; exact ⟨h.lo f hw, h.hi f hw⟩
      · rw [(stp_me v nx).alw]
        have := h.lo _ (.un (k := 7) (by simp) hw)
        omega
      · rw [(stp_me v nx).ev]
        have := h.hi _ (.un (k := 8) (by simp) hw)
        omega
    | til w1 w2 ih1 ih2 =>
      rw [(stp_me v nx).til]
      have := h.hi _ (.til w1 w2)
      omega
    | jn hk hw ih =>
      rename_i k l
      rw [meK_mk]
      have a1 : ∀ x ∈ l.map (meK v nx), -1 ≤ x ∧ x ≤ 1 := fun x hx => by
        obtain ⟨g, hg, rfl⟩ := List.mem_map.1 hx
        exact ih g hg
      have := minL_ge fun x hx => (a1 x hx).1
      have := maxL_le fun x hx => (a1 x hx).2
      have := minL_le (l.map (meK v nx))
      have := maxL_ge (l.map (meK v nx))
      rcases hk with rfl | rfl
      · simp [meC]; omega
      · simp [meC]; omega
  exact ⟨fun f hw => (hb f hw).1, fun f hw => (hb f hw).2, fun l _ => by rw [meK_mk]; simp [meC], fun l _ => by rw [meK_mk]; simp [meC], fun f _ => by rw [meK_mk]; simp [meC]⟩
theorem sem_meF : ∀ t, Sem (meF t)
  | [] => sem_end
  | v :: t => sem_me v (sem_meF t)
theorem cst_eq {E E' : Fm → Int} (h : Sem E) (h' : Sem E') {f : Fm} (hw : Wf f) (hc : isC f = true) : E f = E' f := by
  rcases (isC_iff hw).1 hc with rfl | rfl
  · rw [h.tt, h'.tt]
  · rw [h.ff, h'.ff]
/-- S keeps the meaning. -/
theorem me_s : ∀ (t : List (List Int)) {f : Fm}, Wf f → meF t (sF f) = meF t f
  | [], f, hw => by
    show end3 (sF f) = end3 f
    unfold end3
    rw [s_idem hw]
  | v :: t, f, hw => by
    have hS := sem_meF (v :: t)
    have hS' := sem_meF t
    have hst : Stp v (meF (v :: t)) (meF t) := stp_me v (meF t)
    induction hw with
    | var => rw [sF_var]
    | un hk hw ih =>
      rename_i k f
      have hws := wf_s hw
      rcases hk with rfl | rfl | rfl | rfl
      · rw [sF_not, hS.neg hws, ih, hS.not f hw]
      · rw [sF_un (by simp), hst.nx, ← me_s t hw]
        split
        · rename_i hc
          exact cst_eq hS hS' hws hc
        · rw [hst.nx]
      · have hn := me_s t (f := .mk 7 0 0 0 [f]) (.un (by simp) hw)
        rw [hst.alw, ← hn, sF_un (by simp), ← ih]
        split
        · rename_i hc
          have := cst_eq hS hS' hws hc
          omega
        · rw [hst.alw]
      · have hn := me_s t (f := .mk 8 0 0 0 [f]) (.un (by simp) hw)
        rw [hst.ev, ← hn, sF_un (by simp), ← ih]
        split
        · rename_i hc
          have := cst_eq hS hS' hws hc
          omega
        · rw [hst.ev]
    | til w1 w2 ih1 ih2 =>
      rename_i f g
      have hn := me_s t (f := .mk 6 0 0 0 [f, g]) (.til w1 w2)
      have hwg := wf_s w2
      rw [hst.til, ← hn, sF_til, ← ih1, ← ih2]
      split
      · rename_i hc
        rw [Bool.or_eq_true, eqM_iff] at hc
        have b1 := hS.lo _ (wf_s w1)
        have b2 := hS.hi _ (wf_s w1)
        have b3 := hS.lo _ hwg
        have b4 := hS'.lo _ hwg
        rcases hc with hc | hc
        · have := cst_eq hS hS' hwg hc
          omega
        · rw [hc, hS.ff]
          omega
      · rw [hst.til]
    | jn hk hw ih =>
      rename_i k l
      have hw' : ∀ f ∈ l.map sF, Wf f := wf_mapS hw
      have e : (l.map sF).map (meF (v :: t)) = l.map (meF (v :: t)) := by
        rw [List.map_map]
        exact List.map_congr_left fun f hf => ih f hf
      rw [sF_jn hk]
      rcases hk with rfl | rfl
      · rw [hS.join3 hw', hS.and _ hw, e]
      · rw [hS.join4 hw', hS.or _ hw, e]
theorem me_st (v : List Int) (t : List (List Int)) {f : Fm} (hw : Wf f) : meF t (stF v f) = meF (v :: t) f :=
  stp_eq (sem_meF (v :: t)) (sem_meF t) (stp_me v (meF t)) hw
theorem me_pro (v : List Int) (t : List (List Int)) {f : Fm} (hw : Wf f) : meF t (proF v f) = meF (v :: t) f := by
  rw [pro_same v f hw, me_s t (wf_st v hw), me_st v t hw]
theorem wf_pro (v : List Int) {f : Fm} (hw : Wf f) : Wf (proF v f) := by rw [pro_same v f hw]; exact wf_s (wf_st v hw)
theorem nf_pro (v : List Int) {f : Fm} (hw : Wf f) : Nf (proF v f) := by rw [pro_same v f hw]; exact nf_s (wf_st v hw)
/-! ### Verdicts -/
def cls3 (x : Int) : Int := if x = 1 then 0 else if x = -1 then 13 else 14
theorem run_cls : ∀ (t : List (List Int)) (f : Fm) (i : Int), Nf f → (verF (runF f i t)).cls = cls3 (meF t f)
  | [], f, i, hn => by
    rw [runF, show meF [] f = T3 (sF f) from rfl, nf_id hn]
    unfold verF
    split
    · rename_i hc
      rcases (isC_iff (nf_wf hn)).1 hc with rfl | rfl <;> rfl
    · rename_i hc
      rw [Bool.not_eq_true] at hc
      rw [T3_non hc]
      rfl
  | v :: t, f, i, hn => by
    rw [runF]
    split
    · rename_i hc
      have hm := sem_meF (v :: t)
      rcases (isC_iff (nf_wf hn)).1 hc with rfl | rfl
      · rw [hm.tt]; rfl
      · rw [hm.ff]; rfl
    · rw [run_cls t _ _ (nf_pro v (nf_wf hn)), me_pro v t (nf_wf hn)]
theorem chk_cls (f : Fm) (t : List (List Int)) (hw : Wf f) : (chkF f t).cls = cls3 (meF t f) := by
  unfold chkF
  rw [sim_same f hw, run_cls t _ _ (nf_s hw), me_s t hw]
/-- The reference's Check is Check. -/
theorem run_same : ∀ (t : List (List Int)) (f : Fm) (i : Int), Wf f → rrunF f i t = runF f i t
  | [], f, i, _ => rfl
  | v :: t, f, i, hw => by
    rw [rrunF, runF]
    split
    · rfl
    · rw [run_same t _ _ (wf_s (wf_st v hw)), pro_same v f hw]
theorem wf_run : ∀ (t : List (List Int)) (f : Fm) (i : Int), Wf f → Wf (runF f i t).1
  | [], f, i, h => h
  | v :: t, f, i, h => by
    rw [runF]
    split
    · exact h
    · exact wf_run t _ _ (wf_pro v h)
theorem chk_same (f : Fm) (t : List (List Int)) (hw : Wf f) : rchkF f t = chkF f t := by
  unfold rchkF chkF
  rw [sim_same f hw, run_same t _ _ (wf_s hw)]
  have hW := wf_run t (sF f) (-1) (wf_s hw)
  unfold verR verF
  by_cases hc : isC (runF (sF f) (-1) t).1 = true
  · rw [if_pos hc, if_pos hc]
    rcases (isC_iff hW).1 hc with h | h
    · rw [h]; rfl
    · rw [h]; rfl
  · rw [if_neg hc, if_neg hc]
/-! ### All can be applied -/
theorem fitR_gd : ∀ (t : List (List Int)) (f : Fm) (N : Nat), Gd N f → N * 5 ^ t.length ≤ 100000000000 → FitR f t
  | [], f, N, _, _ => by unfold FitR; trivial
  | v :: t, f, N, h, hN => by
    unfold FitR
    right
    rw [List.length_cons, Nat.pow_succ] at hN
    have hp : 1 ≤ 5 ^ t.length := Nat.pos_of_ne_zero (by simp)
    have h1 : N * 1 ≤ N * (5 ^ t.length * 5) := Nat.mul_le_mul_left N (by omega)
    refine ⟨fitP_gd (by omega) v f h, fitR_gd t _ (5 * N) (h.pro v) ?_⟩
    rw [show 5 * N * 5 ^ t.length = N * (5 ^ t.length * 5) by rw [Nat.mul_comm 5 N, Nat.mul_assoc, Nat.mul_comm 5]]
    exact hN
theorem fitQ_gd : ∀ (t : List (List Int)) (f : Fm) (N : Nat), Gd N f → N * 5 ^ t.length ≤ 100000000000 → FitQ f t
  | [], f, N, _, _ => by unfold FitQ; trivial
  | v :: t, f, N, h, hN => by
    unfold FitQ
    right
    rw [List.length_cons, Nat.pow_succ] at hN
    have hp : 1 ≤ 5 ^ t.length := Nat.pos_of_ne_zero (by simp)
    have h1 : N * 1 ≤ N * (5 ^ t.length * 5) := Nat.mul_le_mul_left N (by omega)
    refine ⟨fitU_gd (by omega) f h, fitT_gd (N := 5 * N) (by omega) _ (h.st v), fitQ_gd t _ (5 * N) (h.st v).s ?_⟩
    rw [show 5 * N * 5 ^ t.length = N * (5 ^ t.length * 5) by rw [Nat.mul_comm 5 N, Nat.mul_assoc, Nat.mul_comm 5]]
    exact hN
/-! ### Longer traces -/
/-- After the first positions. -/
def foldP : Fm → List (List Int) → Fm
  | f, [] => f
  | f, v :: t => foldP (proF v f) t
theorem foldP_app : ∀ (t u : List (List Int)) (f : Fm), foldP f (t ++ u) = foldP (foldP f t) u
  | [], u, f => rfl
  | v :: t, u, f => by rw [List.cons_append, foldP, foldP, foldP_app]
theorem gd_fold : ∀ (t : List (List Int)) (f : Fm) (N : Nat), Gd N f → Gd (N * 5 ^ t.length) (foldP f t)
  | [], f, N, h => by simpa [foldP] using h
  | v :: t, f, N, h => by
    rw [foldP, List.length_cons, Nat.pow_succ]
    have := gd_fold t _ (5 * N) (h.pro v)
    rwa [show 5 * N * 5 ^ t.length = N * (5 ^ t.length * 5) by rw [Nat.mul_comm 5 N, Nat.mul_assoc, Nat.mul_comm 5]] at this
theorem wf_fold : ∀ (t : List (List Int)) {f : Fm}, Wf f → Wf (foldP f t)
  | [], f, h => h
  | v :: t, f, h => wf_fold t (wf_pro v h)
theorem me_fold : ∀ (t u : List (List Int)) {f : Fm}, Wf f → meF u (foldP f t) = meF (t ++ u) f
  | [], u, f, _ => rfl
  | v :: t, u, f, h => by
    rw [foldP, me_fold t u (wf_pro v h), List.cons_append, me_pro v _ h]
/-- The value of the rest after the progression is the whole's. -/
theorem split_cls (f : Fm) (t u : List (List Int)) (hw : Wf f) : (chkF (foldP f t) u).cls = (chkF f (t ++ u)).cls := by
  rw [chk_cls _ _ (wf_fold t hw), chk_cls _ _ hw, me_fold t u hw]
theorem run_app : ∀ (t u : List (List Int)) (f : Fm) (i : Int), isC (runF f i t).1 = true → runF f i (t ++ u) = runF f i t
  | [], u, f, i, h => by
    rw [runF] at h
    cases u with
    | nil => rfl
    | cons v u => rw [List.nil_append, runF, runF, if_pos h]
  | v :: t, u, f, i, h => by
    rw [List.cons_append]
    rw [runF] at h ⊢
    conv => rhs; rw [runF]
    split
    · rfl
    · rename_i hc
      rw [if_neg hc] at h
      exact run_app t u _ _ h
theorem run_pos : ∀ (t : List (List Int)) (f : Fm) (i : Int), i ≤ (runF f i t).2 ∧ (runF f i t).2 ≤ i + t.length
  | [], f, i => by rw [runF]; simp
  | v :: t, f, i => by
    rw [runF]
    split
    · simp; omega
    · have := run_pos t (proF v f) (i + 1)
      rw [List.length_cons]
      omega
/-- Ahead of the certificate's position nothing is known. -/
theorem run_first : ∀ (t : List (List Int)) (f : Fm) (i : Int) (m : Nat), i + m < (runF f i t).2 → isC (runF f i (t.take m)).1 = false
  | [], f, i, m, h => by rw [runF] at h; simp at h; omega
  | v :: t, f, i, 0, h => by
    rw [List.take_zero, runF]
    rw [runF] at h
    split at h
    · simp at h
    · rename_i hc
      rwa [Bool.not_eq_true] at hc
  | v :: t, f, i, m + 1, h => by
    rw [List.take_succ_cons, runF]
    rw [runF] at h
    split at h
    · simp at h; omega
    · rename_i hc
      rw [if_neg hc]
      exact run_first t (proF v f) (i + 1) m (by omega)
structure StableAt (f : Fm) (t : List (List Int)) (k : Nat) : Prop where
  cls : (chkF f (t.take k)).cls = 0 ∨ (chkF f (t.take k)).cls = 13 ∨ ((chkF f (t.take k)).cls = 14 ∧ (chkF f (t.take k)).at' = none)
  all : (chkF f (t.take k)).cls ≠ 14 → chkF f (t.take k) = chkF f t ∧ ∃ x, (chkF f (t.take k)).at' = some x ∧ -1 ≤ x ∧ x < k ∧ (0 ≤ x → (chkF f (t.take x.toNat)).cls = 14)
theorem ver_none {r : Fm × Int} (h : isC r.1 = false) : verF r = ⟨14, none⟩ := by
  unfold verF
  rw [if_neg (by rw [h]; simp)]
theorem stable (f : Fm) (t : List (List Int)) (k : Nat) (hk : k ≤ t.length) (hw : Wf f) : StableAt f t k := by
  have hW := wf_run (t.take k) (sF f) (-1) (wf_s hw)
  have hpos := run_pos (t.take k) (sF f) (-1)
  rw [List.length_take, Nat.min_eq_left hk] at hpos
  have hfirst := run_first (t.take k) (sF f) (-1)
  have happ := run_app (t.take k) (t.drop k) (sF f) (-1)
  rw [List.take_append_drop] at happ
  unfold chkF at *
  cases hc : isC (runF (sF f) (-1) (t.take k)).1 with
  | true =>
    have happ := happ hc
    have hex : verF (runF (sF f) (-1) (t.take k)) = ⟨if (runF (sF f) (-1) (t.take k)).1.k = 3 then 0 else 13, some (runF (sF f) (-1) (t.take k)).2⟩ := by
      conv => lhs; unfold verF
      rw [if_pos hc]
    refine ⟨?_, fun _ => ⟨?_, _, ?_, hpos.1, by omega, fun h0 => ?_⟩⟩
    · unfold chkF
      rw [sim_same f hw, hex]
      simp only
      split <;> simp
    · unfold chkF
      rw [sim_same f hw, happ]
    · unfold chkF
      rw [sim_same f hw, hex]
    · unfold chkF
      rw [sim_same f hw]
      generalize (runF (sF f) (-1) (t.take k)).2 = x at *
      have h1 := hfirst x.toNat (by omega)
      rw [List.take_take, Nat.min_eq_left (by omega)] at h1
      rw [ver_none h1]
  | false =>
    refine ⟨.inr (.inr ?_), fun hn => absurd ?_ hn⟩
    · unfold chkF
      rw [sim_same f hw, ver_none hc]
      exact ⟨rfl, rfl⟩
    · unfold chkF
      rw [sim_same f hw, ver_none hc]
end Go.Proofs.YtpjcbadnpknncaaGreatDoor.Vm
/- The reference: Meaning. -/
namespace Go.Proofs.YtpjcbadnpknncaaGreatDoor.Vm
open Go.RowKit Go.Shelf
set_option linter.unusedSimpArgs false
set_option linter.unusedVariables false
set_option maxRecDepth 100000
theorem g0_one (x : Fm) : rowOf 5 (Int.toNat 0) (fmsA [x]) = fmA x := row0 (l := [x]) (by simp)
theorem g0_two (x y : Fm) : rowOf 5 (Int.toNat 0) (fmsA [x, y]) = fmA x := row0 (l := [x, y]) (by simp)
theorem g1_two (x y : Fm) : rowOf 5 (Int.toNat 1) (fmsA [x, y]) = fmA y := row1 (l := [x, y]) (by simp)
end Go.Proofs.YtpjcbadnpknncaaGreatDoor.Vm
/- The plain law: infinite traces. -/
namespace Go.Proofs.YtpjcbadnpknncaaGreatDoor.Vm
open Go.RowKit Go.Shelf
set_option linter.unusedSimpArgs false
set_option linter.unusedVariables false
set_option maxRecDepth 100000
/-! ### Infinite traces -/
def aft (n lp i : Nat) : Nat := if i + 1 = n then lp else i + 1
/-- One sweep: the positions below i, from the last one. -/
def swp (F : Nat → Bool → Bool) (n lp : Nat) : Nat → List Bool → List Bool
  | 0, o => o
  | i + 1, o => swp F n lp i (o.set i (F i (o.getD (aft n lp i) false)))
def swps (F : Nat → Bool → Bool) (n lp : Nat) : Nat → List Bool → List Bool
  | 0, o => o
  | r + 1, o => swps F n lp r (swp F n lp n o)
def infC (tr : List (List Int)) (k a b n : Int) (K : List (List Bool)) (ln lp : Nat) (i : Nat) (x : Bool) : Bool :=
  if k = 1 then cmpV b (atV (tr.getD i []) a) n
  else if k = 2 then !((K.getD 0 []).getD i false)
  else if k = 5 then (K.getD 0 []).getD (aft ln lp i) false
  else if k = 7 then (K.getD 0 []).getD i false && x
  else if k = 8 then (K.getD 0 []).getD i false || x
  else if k = 6 then (K.getD 1 []).getD i false || ((K.getD 0 []).getD i false && x)
  else if k = 3 then K.all fun l => l.getD i false
  else K.any fun l => l.getD i false
def infK (tr : List (List Int)) (lp : Nat) (k a b n : Int) (K : List (List Bool)) : List Bool :=
  swps (infC tr k a b n K tr.length lp) tr.length lp (2 * tr.length + 2) (List.replicate tr.length (decide (k = 3) || decide (k = 7)))
mutual
def infF (tr : List (List Int)) (lp : Nat) : Fm → List Bool
  | .mk k a b n l => infK tr lp k a b n (infFs tr lp l)
def infFs (tr : List (List Int)) (lp : Nat) : List Fm → List (List Bool)
  | [] => []
  | f :: l => infF tr lp f :: infFs tr lp l
end
theorem infFs_map (tr : List (List Int)) (lp : Nat) : ∀ l : List Fm, infFs tr lp l = l.map (infF tr lp)
  | [] => by unfold infFs; rfl
  | f :: l => by unfold infFs; rw [infFs_map tr lp l]; rfl
theorem infF_mk (tr : List (List Int)) (lp : Nat) (k a b n : Int) (l : List Fm) : infF tr lp (.mk k a b n l) = infK tr lp k a b n (l.map (infF tr lp)) := by
  rw [← infFs_map]
  conv => lhs; unfold infF
theorem swp_len (F : Nat → Bool → Bool) (n lp : Nat) : ∀ i o, (swp F n lp i o).length = o.length
  | 0, o => rfl
  | i + 1, o => by rw [swp, swp_len F n lp i]; simp
theorem swps_len (F : Nat → Bool → Bool) (n lp : Nat) : ∀ r o, (swps F n lp r o).length = o.length
  | 0, o => rfl
  | r + 1, o => by rw [swps, swps_len F n lp r, swp_len]
theorem infF_len (tr : List (List Int)) (lp : Nat) (f : Fm) : (infF tr lp f).length = tr.length := by
  cases f
  rw [infF_mk]
  unfold infK
  rw [swps_len]
  simp
/-- The values behind a sweep: from the value x behind the last position. -/
def chn (F : Nat → Bool → Bool) (x : Bool) (n : Nat) : Nat → Nat → Bool
  | 0, i => x
  | d + 1, i => F i (chn F x n d (i + 1))
theorem getD_set (o : List Bool) (i j : Nat) (x : Bool) (h : i < o.length) : (o.set i x).getD j false = if j = i then x else o.getD j false := by
  rw [List.getD_eq_getElem?_getD, List.getD_eq_getElem?_getD, List.getElem?_set]
  by_cases hj : i = j
  · subst hj; simp [h]
  · rw [if_neg hj, if_neg (Ne.symm hj)]
theorem swp_hi (F : Nat → Bool → Bool) (n lp : Nat) : ∀ i o j, i ≤ j → i ≤ o.length → (swp F n lp i o).getD j false = o.getD j false
  | 0, o, j, _, _ => rfl
  | i + 1, o, j, h, hl => by
    rw [swp, swp_hi F n lp i _ j (by omega) (by simp; omega), getD_set _ _ _ _ (by omega), if_neg (by omega)]
theorem swp_mid (F : Nat → Bool → Bool) (n lp : Nat) : ∀ i o j, i < n → i ≤ o.length → o.length = n → j < i → (swp F n lp i o).getD j false = F j ((swp F n lp i o).getD (j + 1) false)
  | 0, o, j, _, _, _, h => by omega
  | i + 1, o, j, hi, hl, hn, h => by
    rw [swp]
    by_cases hj : j = i
    · subst hj
      rw [swp_hi F n lp j _ j (Nat.le_refl _) (by simp; omega), swp_hi F n lp j _ (j + 1) (by omega) (by simp; omega), getD_set _ _ _ _ (by omega), if_pos rfl, getD_set _ _ _ _ (by omega), if_neg (by omega)]
      unfold aft
      rw [if_neg (by omega)]
    · exact swp_mid F n lp i _ j (by omega) (by simp; omega) (by simp [hn]) (by omega)
/-- What a whole sweep does. -/
theorem swp_all (F : Nat → Bool → Bool) (m lp : Nat) (o : List Bool) (hn : o.length = m + 1) :
    (swp F (m + 1) lp (m + 1) o).getD m false = F m (o.getD lp false) ∧ ∀ j, j < m → (swp F (m + 1) lp (m + 1) o).getD j false = F j ((swp F (m + 1) lp (m + 1) o).getD (j + 1) false) := by
  rw [swp]
  have ea : aft (m + 1) lp m = lp := by unfold aft; rw [if_pos rfl]
  rw [ea]
  refine ⟨?_, fun j hj => ?_⟩
  · rw [swp_hi F (m + 1) lp m _ m (Nat.le_refl _) (by simp; omega), getD_set _ _ _ _ (by omega), if_pos rfl]
  · exact swp_mid F (m + 1) lp m _ j (by omega) (by simp; omega) (by simp [hn]) hj
def mono (F : Nat → Bool → Bool) : Prop := ∀ i, F i false = true → F i true = true
/-- The value at position j is a monotone function of the value at the loop's head before. -/
theorem swp_fun (F : Nat → Bool → Bool) (m lp : Nat) (hF : mono F) : ∀ d j, j + d = m → ∃ G : Bool → Bool, (G false = true → G true = true) ∧ ∀ o : List Bool, o.length = m + 1 → (swp F (m + 1) lp (m + 1) o).getD j false = G (o.getD lp false)
  | 0, j, h => by
    obtain rfl : j = m := by omega
    exact ⟨F j, hF j, fun o ho => (swp_all F j lp o ho).1⟩
  | d + 1, j, h => by
    obtain ⟨G, hG, hv⟩ := swp_fun F m lp hF d (j + 1) (by omega)
    refine ⟨fun x => F j (G x), fun hf => ?_, fun o ho => ?_⟩
    · have := hF j
      cases h1 : G false <;> cases h2 : G true <;> simp_all
    · rw [(swp_all F m lp o ho).2 j (by omega), hv o ho]
/-- After two sweeps the equations hold. -/
theorem swp_fix (F : Nat → Bool → Bool) (m lp : Nat) (hF : mono F) (hlp : lp ≤ m) (o : List Bool) (ho : o.length = m + 1) :
    ∀ j, j ≤ m → (swp F (m + 1) lp (m + 1) (swp F (m + 1) lp (m + 1) o)).getD j false = F j ((swp F (m + 1) lp (m + 1) (swp F (m + 1) lp (m + 1) o)).getD (aft (m + 1) lp j) false) := by
  obtain ⟨G, hG, hv⟩ := swp_fun F m lp hF (m - lp) lp (by omega)
  have h1 := hv o ho
  have h2 := hv (swp F (m + 1) lp (m + 1) o) (by rw [swp_len]; exact ho)
  have hall := swp_all F m lp (swp F (m + 1) lp (m + 1) o) (by rw [swp_len]; exact ho)
  intro j hj
  unfold aft
  by_cases hjm : j = m
  · subst hjm
    rw [if_pos rfl, hall.1, h2, h1]
    generalize o.getD lp false = x
    have e : G (G x) = G x := by cases x <;> cases hg : G true <;> cases hg2 : G false <;> simp_all
    rw [e]
  · rw [if_neg (by omega)]
    exact hall.2 j (by omega)
theorem swps_succ (F : Nat → Bool → Bool) (n lp : Nat) : ∀ r o, swps F n lp (r + 1) o = swp F n lp n (swps F n lp r o)
  | 0, o => rfl
  | r + 1, o => by
    show swps F n lp (r + 1) (swp F n lp n o) = _
    rw [swps_succ F n lp r]
    rfl
/-- The fixpoint's equations. -/
theorem swps_fix (F : Nat → Bool → Bool) (m lp r : Nat) (hF : mono F) (hlp : lp ≤ m) (o : List Bool) (ho : o.length = m + 1) :
    ∀ j, j ≤ m → (swps F (m + 1) lp (r + 2) o).getD j false = F j ((swps F (m + 1) lp (r + 2) o).getD (aft (m + 1) lp j) false) := by
  rw [swps_succ, swps_succ]
  exact swp_fix F m lp hF hlp _ (by rw [swps_len]; exact ho)
/-- What no position changes stays. -/
theorem swp_stay (F : Nat → Bool → Bool) (n lp : Nat) (c : Bool) (hlp : lp < n) (hc : ∀ i, i < n → F i c = c) : ∀ i o, i ≤ n → o.length = n → (∀ j, j < n → o.getD j false = c) → ∀ j, j < n → (swp F n lp i o).getD j false = c
  | 0, o, _, _, h => h
  | i + 1, o, hi, ho, h => by
    rw [swp]
    refine swp_stay F n lp c hlp hc i _ (by omega) (by simp [ho]) fun j hj => ?_
    rw [getD_set _ _ _ _ (by omega)]
    split
    · rw [h _ (by unfold aft; split <;> omega)]
      exact hc i (by omega)
    · exact h j hj
theorem swps_stay (F : Nat → Bool → Bool) (n lp : Nat) (c : Bool) (hlp : lp < n) (hc : ∀ i, i < n → F i c = c) : ∀ r o, o.length = n → (∀ j, j < n → o.getD j false = c) → ∀ j, j < n → (swps F n lp r o).getD j false = c
  | 0, o, _, h => h
  | r + 1, o, ho, h => swps_stay F n lp c hlp hc r _ (by rw [swp_len]; exact ho) (swp_stay F n lp c hlp hc n o (Nat.le_refl _) ho h)
/-- The truth at a position. -/
def tru (tr : List (List Int)) (lp i : Nat) (f : Fm) : Bool := (infF tr lp f).getD i false
theorem inf_mono (tr : List (List Int)) (k a b n : Int) (K : List (List Bool)) (ln lp : Nat) : mono (infC tr k a b n K ln lp) := by
  intro i
  unfold infC
  repeat' split
  all_goals simp
  all_goals (intro h; simp [h])
theorem kid_get (tr : List (List Int)) (lp i : Nat) (l : List Fm) (j : Nat) (hj : j < l.length) : ((l.map (infF tr lp)).getD j []).getD i false = tru tr lp i l[j] := by
  rw [List.getD_eq_getElem?_getD (l := l.map (infF tr lp)), List.getElem?_map, List.getElem?_eq_getElem hj]
  rfl
theorem tru_fix {tr : List (List Int)} {lp : Nat} (hlp : lp < tr.length) (k a b n : Int) (l : List Fm) (i : Nat) (hi : i < tr.length) :
    tru tr lp i (.mk k a b n l) = infC tr k a b n (l.map (infF tr lp)) tr.length lp i (tru tr lp (aft tr.length lp i) (.mk k a b n l)) := by
  unfold tru
  rw [infF_mk]
  unfold infK
  obtain ⟨m, hm⟩ : ∃ m, tr.length = m + 1 := ⟨tr.length - 1, by omega⟩
  rw [hm]
  exact swps_fix (infC tr k a b n (l.map (infF tr lp)) (m + 1) lp) m lp (2 * (m + 1)) (inf_mono tr k a b n _ _ _) (by omega) _ (by simp) i (by omega)
theorem tru_stay {tr : List (List Int)} {lp : Nat} (hlp : lp < tr.length) (k a b n : Int) (l : List Fm) (hc : ∀ i, i < tr.length → infC tr k a b n (l.map (infF tr lp)) tr.length lp i (decide (k = 3) || decide (k = 7)) = (decide (k = 3) || decide (k = 7))) (i : Nat) (hi : i < tr.length) :
    tru tr lp i (.mk k a b n l) = (decide (k = 3) || decide (k = 7)) := by
  unfold tru
  rw [infF_mk]
  unfold infK
  refine swps_stay _ _ _ _ hlp hc _ _ (by simp) (fun j hj => ?_) i hi
  rw [List.getD_eq_getElem?_getD, List.getElem?_replicate, if_pos hj]
  rfl
def sg (b : Bool) : Int := if b = true then 1 else -1
/-- The truth as a meaning. -/
def truE (tr : List (List Int)) (lp i : Nat) (f : Fm) : Int := sg (tru tr lp i f)
theorem sg_min (a b : Bool) : sg (a && b) = min (sg a) (sg b) := by cases a <;> cases b <;> rfl
theorem sg_max (a b : Bool) : sg (a || b) = max (sg a) (sg b) := by cases a <;> cases b <;> rfl
theorem sg_all {α : Type} (l : List α) (p : α → Bool) : sg (l.all p) = minL (l.map fun x => sg (p x)) := by
  induction l with
  | nil => rfl
  | cons x l ih => rw [List.all_cons, sg_min, ih]; rfl
theorem sg_any {α : Type} (l : List α) (p : α → Bool) : sg (l.any p) = maxL (l.map fun x => sg (p x)) := by
  induction l with
  | nil => rfl
  | cons x l ih => rw [List.any_cons, sg_max, ih]; rfl
theorem sg_rng (b : Bool) : -1 ≤ sg b ∧ sg b ≤ 1 := by cases b <;> decide
theorem sem_tru {tr : List (List Int)} {lp : Nat} (hlp : lp < tr.length) (i : Nat) (hi : i < tr.length) : Sem (truE tr lp i) where
  lo _ _ := (sg_rng _).1
  hi _ _ := (sg_rng _).2
  and l _ := by
    unfold truE
    rw [tru_fix hlp _ _ _ _ _ i hi]
    simp only [infC]
    simp only [show ¬ (3 : Int) = 1 by omega, show ¬ (3 : Int) = 2 by omega, show ¬ (3 : Int) = 5 by omega, show ¬ (3 : Int) = 7 by omega, show ¬ (3 : Int) = 8 by omega, show ¬ (3 : Int) = 6 by omega, if_false, if_true]
    rw [List.all_map, sg_all]
    rfl
  or l _ := by
    unfold truE
    rw [tru_fix hlp _ _ _ _ _ i hi]
    simp only [infC]
    simp only [show ¬ (4 : Int) = 1 by omega, show ¬ (4 : Int) = 2 by omega, show ¬ (4 : Int) = 5 by omega, show ¬ (4 : Int) = 7 by omega, show ¬ (4 : Int) = 8 by omega, show ¬ (4 : Int) = 6 by omega, show ¬ (4 : Int) = 3 by omega, if_false]
    rw [List.any_map, sg_any]
    rfl
  not f _ := by
    unfold truE
    rw [tru_fix hlp _ _ _ _ _ i hi]
    simp only [infC]
    simp only [show ¬ (2 : Int) = 1 by omega, if_false, if_true]
    rw [kid_get tr lp i [f] 0 (by simp)]
    simp only [List.getElem_cons_zero]
    cases tru tr lp i f <;> rfl
theorem stp_tru {tr : List (List Int)} {lp : Nat} (hlp : lp < tr.length) (i : Nat) (hi : i < tr.length) : Stp (tr.getD i []) (truE tr lp i) (truE tr lp (aft tr.length lp i)) where
  var a b n := by
    unfold truE
    rw [tru_fix hlp _ _ _ _ _ i hi]
    simp only [infC, if_true]
    rfl
  nx f := by
    unfold truE
    rw [tru_fix hlp _ _ _ _ _ i hi]
    simp only [infC]
    simp only [show ¬ (5 : Int) = 1 by omega, show ¬ (5 : Int) = 2 by omega, if_false, if_true]
    rw [kid_get tr lp _ [f] 0 (by simp)]
    rfl
  alw f := by
    unfold truE
    rw [tru_fix hlp _ _ _ _ _ i hi]
    simp only [infC]
    simp only [show ¬ (7 : Int) = 1 by omega, show ¬ (7 : Int) = 2 by omega, show ¬ (7 : Int) = 5 by omega, if_false, if_true]
    rw [kid_get tr lp _ [f] 0 (by simp), sg_min]
    rfl
  ev f := by
    unfold truE
    rw [tru_fix hlp _ _ _ _ _ i hi]
    simp only [infC]
    simp only [show ¬ (8 : Int) = 1 by omega, show ¬ (8 : Int) = 2 by omega, show ¬ (8 : Int) = 5 by omega, show ¬ (8 : Int) = 7 by omega, if_false, if_true]
    rw [kid_get tr lp _ [f] 0 (by simp), sg_max]
    rfl
  til f g := by
    unfold truE
    rw [tru_fix hlp _ _ _ _ _ i hi]
    simp only [infC]
    simp only [show ¬ (6 : Int) = 1 by omega, show ¬ (6 : Int) = 2 by omega, show ¬ (6 : Int) = 5 by omega, show ¬ (6 : Int) = 7 by omega, show ¬ (6 : Int) = 8 by omega, if_false, if_true]
    rw [kid_get tr lp _ [f, g] 0 (by simp), kid_get tr lp _ [f, g] 1 (by simp), sg_max, sg_min]
    rfl
theorem aft_lt {tr : List (List Int)} {lp : Nat} (hlp : lp < tr.length) {i : Nat} (hi : i < tr.length) : aft tr.length lp i < tr.length := by unfold aft; split <;> omega
theorem inf_ext {tr : List (List Int)} {lp : Nat} {f g : Fm} (h : ∀ i, i < tr.length → truE tr lp i f = truE tr lp i g) : infF tr lp f = infF tr lp g := by
  refine List.ext_getElem (by rw [infF_len, infF_len]) fun i h1 h2 => ?_
  rw [infF_len] at h1
  have := h i h1
  unfold truE tru at this
  rw [List.getD_eq_getElem?_getD, List.getD_eq_getElem?_getD, List.getElem?_eq_getElem (by rw [infF_len]; exact h1), List.getElem?_eq_getElem (by rw [infF_len]; exact h1)] at this
  simp only [Option.getD_some] at this
  generalize (infF tr lp f)[i] = x at *
  generalize (infF tr lp g)[i] = y at *
  cases x <;> cases y <;> first | rfl | (unfold sg at this; simp at this)
theorem tru_const {tr : List (List Int)} {lp : Nat} (hlp : lp < tr.length) (b : Bool) {i : Nat} (hi : i < tr.length) : tru tr lp i (constF b) = b := by
  have h := sem_tru hlp i hi
  cases b
  · have := h.ff
    unfold truE sg at this
    split at this
    · simp at this
    · rename_i h; rwa [Bool.not_eq_true] at h
  · have := h.tt
    unfold truE sg at this
    split at this
    · rename_i h; exact h
    · simp at this
/-- S keeps the truth. -/
theorem tru_s {tr : List (List Int)} {lp : Nat} (hlp : lp < tr.length) {f : Fm} (hw : Wf f) : infF tr lp (sF f) = infF tr lp f := by
  induction hw with
  | var => rw [sF_var]
  | un hk hw ih =>
    rename_i k f
    have hws := wf_s hw
    by_cases h2 : k = 2
    · subst h2
      refine inf_ext fun i hi => ?_
      have hS := sem_tru hlp i hi
      rw [sF_not, hS.neg hws, hS.not f hw]
      unfold truE tru
      rw [ih]
    · have hk' : k = 5 ∨ k = 7 ∨ k = 8 := by omega
      rw [sF_un hk']
      split
      · rename_i hc
        refine inf_ext fun i hi => ?_
        have hcc : ∀ j, j < tr.length → tru tr lp j f = decide ((sF f).k = 3) := fun j hj => by
          have := wf_isC hws hc
          have e := congrArg (infF tr lp) this
          rw [ih] at e
          unfold tru
          rw [e]
          exact tru_const hlp _ hj
        have hcs : tru tr lp i (sF f) = decide ((sF f).k = 3) := by
          unfold tru
          rw [ih]
          exact hcc i hi
        generalize decide ((sF f).k = 3) = c at *
        unfold truE
        rw [hcs]
        congr 1
        symm
        have hK : ∀ j, j < tr.length → (([f].map (infF tr lp)).getD 0 []).getD j false = c := fun j hj => by
          rw [kid_get tr lp j [f] 0 (by simp)]
          exact hcc j hj
        rcases hk' with rfl | rfl | rfl
        · rw [tru_fix hlp _ _ _ _ _ i hi]
          simp only [infC]
          simp only [show ¬ (5 : Int) = 1 by omega, show ¬ (5 : Int) = 2 by omega, if_false, if_true]
          exact hK _ (aft_lt hlp hi)
        · cases c with
          | true =>
            refine tru_stay hlp 7 0 0 0 [f] (fun j hj => ?_) i hi
            simp only [infC]
            simp only [show ¬ (7 : Int) = 1 by omega, show ¬ (7 : Int) = 2 by omega, show ¬ (7 : Int) = 5 by omega, if_false, if_true]
            rw [hK j hj]
            rfl
          | false =>
            rw [tru_fix hlp _ _ _ _ _ i hi]
            simp only [infC]
            simp only [show ¬ (7 : Int) = 1 by omega, show ¬ (7 : Int) = 2 by omega, show ¬ (7 : Int) = 5 by omega, if_false, if_true]
            rw [hK i hi]
            rfl
        · cases c with
          | false =>
            refine tru_stay hlp 8 0 0 0 [f] (fun j hj => ?_) i hi
            simp only [infC]
            simp only [show ¬ (8 : Int) = 1 by omega, show ¬ (8 : Int) = 2 by omega, show ¬ (8 : Int) = 5 by omega, show ¬ (8 : Int) = 7 by omega, if_false, if_true]
            rw [hK j hj]
            rfl
          | true =>
            rw [tru_fix hlp _ _ _ _ _ i hi]
            simp only [infC]
            simp only [show ¬ (8 : Int) = 1 by omega, show ¬ (8 : Int) = 2 by omega, show ¬ (8 : Int) = 5 by omega, show ¬ (8 : Int) = 7 by omega, if_false, if_true]
            rw [hK i hi]
            rfl
      · rw [infF_mk, infF_mk, List.map_cons, List.map_nil, List.map_cons, List.map_nil, ih]
  | til w1 w2 ih1 ih2 =>
    rename_i f g
    rw [sF_til]
    split
    · rename_i hc
      rw [Bool.or_eq_true, eqM_iff] at hc
      rw [ih2]
      refine inf_ext fun i hi => ?_
      unfold truE
      congr 1
      symm
      have hK0 : ∀ j, (([f, g].map (infF tr lp)).getD 0 []).getD j false = tru tr lp j f := fun j => kid_get tr lp j [f, g] 0 (by simp)
      have hK1 : ∀ j, (([f, g].map (infF tr lp)).getD 1 []).getD j false = tru tr lp j g := fun j => kid_get tr lp j [f, g] 1 (by simp)
      have hfix := tru_fix hlp 6 0 0 0 [f, g] i hi
      simp only [infC] at hfix
      simp only [show ¬ (6 : Int) = 1 by omega, show ¬ (6 : Int) = 2 by omega, show ¬ (6 : Int) = 5 by omega, show ¬ (6 : Int) = 7 by omega, show ¬ (6 : Int) = 8 by omega, if_false, if_true] at hfix
      rw [hK0, hK1] at hfix
      rcases hc with hc | hc
      · have hcc : ∀ j, j < tr.length → tru tr lp j g = decide ((sF g).k = 3) := fun j hj => by
          have := wf_isC (wf_s w2) hc
          have e := congrArg (infF tr lp) this
          rw [ih2] at e
          unfold tru
          rw [e]
          exact tru_const hlp _ hj
        generalize decide ((sF g).k = 3) = c at *
        cases c with
        | true => rw [hfix, hcc i hi]; rfl
        | false =>
          rw [hcc i hi]
          refine tru_stay hlp 6 0 0 0 [f, g] (fun j hj => ?_) i hi
          simp only [infC]
          simp only [show ¬ (6 : Int) = 1 by omega, show ¬ (6 : Int) = 2 by omega, show ¬ (6 : Int) = 5 by omega, show ¬ (6 : Int) = 7 by omega, show ¬ (6 : Int) = 8 by omega, if_false, if_true]
          rw [hK0, hK1, hcc j hj]
          simp
      · have : tru tr lp i f = false := by
          unfold tru
          rw [← ih1, hc]
          exact tru_const hlp false hi
        rw [hfix, this]
        simp
    · rw [infF_mk, infF_mk, List.map_cons, List.map_cons, List.map_nil, List.map_cons, List.map_cons, List.map_nil, ih1, ih2]
  | jn hk hw ih =>
    rename_i k l
    refine inf_ext fun i hi => ?_
    have hS := sem_tru hlp i hi
    have hw' : ∀ f ∈ l.map sF, Wf f := wf_mapS hw
    have e : (l.map sF).map (truE tr lp i) = l.map (truE tr lp i) := by
      rw [List.map_map]
      refine List.map_congr_left fun f hf => ?_
      show truE tr lp i (sF f) = truE tr lp i f
      unfold truE tru
      rw [ih f hf]
    rw [sF_jn hk]
    rcases hk with rfl | rfl
    · rw [hS.join3 hw', hS.and _ hw, e]
    · rw [hS.join4 hw', hS.or _ hw, e]
theorem tru_pro {tr : List (List Int)} {lp : Nat} (hlp : lp < tr.length) {f : Fm} (hw : Wf f) (i : Nat) (hi : i < tr.length) : tru tr lp (aft tr.length lp i) (proF (tr.getD i []) f) = tru tr lp i f := by
  have ha := aft_lt hlp hi
  have h := stp_eq (sem_tru hlp i hi) (sem_tru hlp _ ha) (stp_tru hlp i hi) hw
  rw [pro_same _ f hw]
  unfold tru truE at *
  rw [tru_s hlp (wf_st _ hw)]
  unfold tru sg at h
  generalize List.getD (infF tr lp (stF (tr.getD i []) f)) (aft tr.length lp i) false = x at *
  generalize (infF tr lp f).getD i false = y at *
  cases x <;> cases y <;> first | rfl | (simp at h)
/-- The positions of the infinite trace. -/
def posN (n lp : Nat) : Nat → Nat
  | 0 => 0
  | r + 1 => aft n lp (posN n lp r)
/-- The first positions of the infinite trace. -/
def preN (tr : List (List Int)) (lp : Nat) (m : Nat) : List (List Int) := (List.range m).map fun r => tr.getD (posN tr.length lp r) []
theorem preN_succ (tr : List (List Int)) (lp m : Nat) : preN tr lp (m + 1) = preN tr lp m ++ [tr.getD (posN tr.length lp m) []] := by
  unfold preN
  rw [List.range_succ, List.map_append]
  rfl
theorem pos_lt {tr : List (List Int)} {lp : Nat} (hlp : lp < tr.length) (r : Nat) : posN tr.length lp r < tr.length := by
  induction r with
  | zero => show 0 < _; omega
  | succ r ih => exact aft_lt hlp ih
theorem tru_fold {tr : List (List Int)} {lp : Nat} (hlp : lp < tr.length) {f : Fm} (hw : Wf f) : ∀ m, tru tr lp (posN tr.length lp m) (foldP f (preN tr lp m)) = tru tr lp 0 f
  | 0 => rfl
  | m + 1 => by
    rw [preN_succ, foldP_app, ← tru_fold hlp hw m]
    exact tru_pro hlp (wf_fold _ hw) _ (pos_lt hlp m)
/-- A verdict on a prefix is that on the infinite trace. -/
theorem inf_sound {tr : List (List Int)} {lp : Nat} (hlp : lp < tr.length) {f : Fm} (hw : Wf f) (m : Nat) : ((chkF f (preN tr lp m)).cls = 0 → tru tr lp 0 f = true) ∧ ((chkF f (preN tr lp m)).cls = 13 → tru tr lp 0 f = false) := by
  have h := tru_fold hlp hw m
  have hc := split_cls f (preN tr lp m) [] hw
  rw [List.append_nil] at hc
  have hwf := wf_fold (preN tr lp m) hw
  have hp := pos_lt hlp m
  rw [← hc, chk_cls _ _ hwf]
  show (cls3 (T3 (sF (foldP f (preN tr lp m)))) = 0 → _) ∧ (cls3 (T3 (sF (foldP f (preN tr lp m)))) = 13 → _)
  rw [← h]
  have hs := tru_s hlp hwf
  have hd : ∀ b, sF (foldP f (preN tr lp m)) = constF b → tru tr lp (posN tr.length lp m) (foldP f (preN tr lp m)) = b := fun b hb => by
    unfold tru
    rw [← hs, hb]
    exact tru_const hlp b hp
  unfold T3
  refine ⟨fun hx => hd true ?_, fun hx => hd false ?_⟩
  · split at hx
    · rename_i hc
      rcases (isC_iff (wf_s hwf)).1 hc with e | e
      · exact e
      · rw [e] at hx; exact absurd hx (by decide)
    · exact absurd hx (by decide)
  · split at hx
    · rename_i hc
      rcases (isC_iff (wf_s hwf)).1 hc with e | e
      · rw [e] at hx; exact absurd hx (by decide)
      · exact e
    · exact absurd hx (by decide)
end Go.Proofs.YtpjcbadnpknncaaGreatDoor.Vm
/- The reference: Infinite. -/
namespace Go.Proofs.YtpjcbadnpknncaaGreatDoor.Vm
open Go.RowKit Go.Shelf
set_option linter.unusedSimpArgs false
set_option linter.unusedVariables false
set_option maxRecDepth 100000
def boolsA (l : List Bool) : List A := l.map fun b => .v (.bool b)
def infsA (K : List (List Bool)) : List A := K.flatMap fun l => [.sl 1 l.length (boolsA l)]
theorem rowOf_bools (l : List Bool) (i : Nat) (h : i < l.length) : rowOf 1 i (boolsA l) = [.v (.bool (l.getD i false))] := by
  rw [show l.getD i false = l[i] by rw [List.getD_eq_getElem?_getD, List.getElem?_eq_getElem h]; rfl]
  exact rowOf_map _ l i h
theorem rowOf_infs (K : List (List Bool)) (i : Nat) (h : i < K.length) : rowOf 1 i (infsA K) = [.sl 1 (K.getD i []).length (boolsA (K.getD i []))] := by
  rw [show K.getD i [] = K[i] by rw [List.getD_eq_getElem?_getD, List.getElem?_eq_getElem h]; rfl]
  exact rowOf_flat (k := 1) (fun l : List Bool => [A.sl 1 l.length (boolsA l)]) (fun _ => rfl) K i h
theorem infsA_snoc (K : List (List Bool)) (l : List Bool) : infsA (K ++ [l]) = infsA K ++ [.sl 1 l.length (boolsA l)] := by simp [infsA]
theorem bools_drop (l : List Bool) (i : Nat) (h : i < l.length) : (boolsA l).drop i = .v (.bool (l.getD i false)) :: (boolsA l).drop (i + 1) := by
  rw [show l.getD i false = l[i] by rw [List.getD_eq_getElem?_getD, List.getElem?_eq_getElem h]; rfl]
  unfold boolsA
  rw [← List.map_drop, ← List.map_drop, List.drop_eq_getElem_cons h]
  rfl
theorem bools_set (l : List Bool) (i : Nat) (b : Bool) : (boolsA l).set i (.v (.bool b)) = boolsA (l.set i b) := by
  unfold boolsA
  rw [List.map_set]
theorem setK_go {α : Type} : ∀ {l : List α} {i : Nat} {a : α} {K : List α → Prop}, i < l.length → K (l.set i a) → setK l i a K
  | x :: l, 0, a, K, _, h => h
  | x :: l, i + 1, a, K, hi, h => by
    unfold setK
    exact setK_go (l := l) (by simpa using hi) h
  | [], i, a, K, hi, _ => by simp at hi
theorem set_bools {o : List Bool} {i off : Nat} {b : Bool} {K : List A → Prop} (ho : off = i) (h : i < o.length) (k : K (boolsA (o.set i b))) : setK (boolsA o) off (.v (.bool b)) K := by
  subst ho
  refine setK_go (by simpa [boolsA] using h) ?_
  rw [bools_set]
  exact k
theorem bools_dropN (l : List Bool) (i : Nat) (h : i < l.length) : List.drop (Int.toNat (i : Int) * 1) (boolsA l) = .v (.bool (l.getD i false)) :: (boolsA l).drop (i + 1) := by
  rw [Int.toNat_natCast, Nat.mul_one]
  exact bools_drop l i h
theorem bools_len (l : List Bool) : (boolsA l).length = l.length := by simp [boolsA]
theorem reps_set (c : Bool) (n j : Nat) (h : j < n) : (List.replicate j c ++ List.replicate (n - j) false).set j c = List.replicate (j + 1) c ++ List.replicate (n - (j + 1)) false := by
  obtain ⟨m, rfl⟩ : ∃ m, n = j + 1 + m := ⟨n - (j + 1), by omega⟩
  rw [show j + 1 + m - j = m + 1 by omega, show j + 1 + m - (j + 1) = m by omega, List.set_append, if_neg (by simp), List.length_replicate, Nat.sub_self, List.replicate_succ (n := m), List.set_cons_zero, List.replicate_succ']
  simp
end Go.Proofs.YtpjcbadnpknncaaGreatDoor.Vm
/- The examples. -/
namespace Go.Proofs.YtpjcbadnpknncaaGreatDoor.Vm
open Go.RowKit Go.Shelf
set_option linter.unusedSimpArgs false
set_option linter.unusedVariables false
set_option maxRecDepth 100000
def lvA : Fm := .mk 7 0 0 0 [.mk 1 0 0 3 []]
def lvB : Fm := .mk 8 0 0 0 [.mk 1 0 2 2 []]
def lvT : List (List Int) := [[1], [2], [3]]
theorem lvA_parse : parseF ⟨#[97, 108, 119, 97, 121, 115, 32, 118, 48, 60, 51]⟩ = .ok lvA := by kernel_rfl
theorem lvB_parse : parseF ⟨#[101, 118, 101, 110, 116, 117, 97, 108, 108, 121, 32, 118, 48, 62, 50]⟩ = .ok lvB := by kernel_rfl
theorem lvA_chk : chkF lvA lvT = ⟨13, some 2⟩ := by kernel_rfl
theorem lvB_chk : chkF lvB lvT = ⟨0, some 2⟩ := by kernel_rfl
theorem lvA_pen : (chkF lvA (lvT.take 2)).cls = 14 := by kernel_rfl
theorem lvB_pen : (chkF lvB (lvT.take 2)).cls = 14 := by kernel_rfl
theorem lvA_gd : Gd 2 lvA := ⟨.un (by simp) (.var (by omega) (by omega) (by omega)), by unfold td tds td tds; decide, by unfold nn nns nn nns nns; decide⟩
theorem lvB_gd : Gd 2 lvB := ⟨.un (by simp) (.var (by omega) (by omega) (by omega)), by unfold td tds td tds; decide, by unfold nn nns nn nns nns; decide⟩
set_option maxHeartbeats 2000000 in
theorem lives_spec : Spec Tryz.prog 11 [] [] fun _ r => r = boolA true := by
  have cA := check_spec lvA lvT (fitS_gd (N := 2) (by omega) _ lvA_gd) (by rw [sim_same _ lvA_gd.w]; exact fitR_gd _ _ 2 lvA_gd.s (by decide)) (by decide)
  have cB := check_spec lvB lvT (fitS_gd (N := 2) (by omega) _ lvB_gd) (by rw [sim_same _ lvB_gd.w]; exact fitR_gd _ _ 2 lvB_gd.s (by decide)) (by decide)
  have vA := cvalue_spec lvA (lvT.take 2) (fitS_gd (N := 2) (by omega) _ lvA_gd) (by rw [sim_same _ lvA_gd.w]; exact fitR_gd _ _ 2 lvA_gd.s (by decide)) (by decide)
  have vB := cvalue_spec lvB (lvT.take 2) (fitS_gd (N := 2) (by omega) _ lvB_gd) (by rw [sim_same _ lvB_gd.w]; exact fitR_gd _ _ 2 lvB_gd.s (by decide)) (by decide)
  rw [lvA_chk] at cA
  rw [lvB_chk] at cB
  rw [lvA_pen] at vA
  rw [lvB_pen] at vB
  have pA := parse_raw ⟨#[97, 108, 119, 97, 121, 115, 32, 118, 48, 60, 51]⟩ (by decide)
  have pB := parse_raw ⟨#[101, 118, 101, 110, 116, 117, 97, 108, 108, 121, 32, 118, 48, 62, 50]⟩ (by decide)
  rw [lvA_parse] at pA
  rw [lvB_parse] at pB
  have hs := rSameInts [2] [2] (by decide)
  rw [decide_eq_true rfl] at hs
  unfold parR0 at pA pB
  generalize lvA = fa at *
  generalize lvB = fb at *
  refine spec_of (cx_ok (fun id => match Nat.beq id 8 with | true => .q 0 7 .nil | false => ord11 id) xs0 0) (fun _ _ h => h) Tryz.func11 rfl (by kernel_rfl) rfl (by kernel_rfl) ?_
  intro hok
  conv => whnf
  (refine call0 [] rfl (fun _ => pA) ?_; rintro r rfl; conv => whnf)
  (refine call0 [] rfl (fun _ => pB) ?_; rintro r rfl; conv => whnf)
  (refine call0 [3] rfl (fun _ => cA) ?_; rintro r rfl; conv => whnf)
  (refine call0 [] rfl (fun _ => cB) ?_; rintro r rfl; conv => whnf)
  repeat (apply flow_go; (focus ((conv => whnf); exact ⟨rfl, rfl, rfl⟩)); (conv => whnf))
  (apply flow_go; (focus ((conv => whnf); refine call0 [] rfl (fun _ => hs) ?_; rintro r rfl; (conv => whnf); exact ⟨rfl, rfl, rfl⟩)); (conv => whnf))
  repeat (apply flow_go; (focus ((conv => whnf); exact ⟨rfl, rfl, rfl⟩)); (conv => whnf))
  (apply flow_go; (focus ((conv => whnf); refine call0 [] rfl (fun _ => hs) ?_; rintro r rfl; (conv => whnf); exact ⟨rfl, rfl, rfl⟩)); (conv => whnf))
  repeat (apply flow_go; (focus ((conv => whnf); exact ⟨rfl, rfl, rfl⟩)); (conv => whnf))
  (apply flow_go; (focus ((conv => whnf); (refine ⟨by first | omega | (simp only [List.length_cons, List.length_nil]; omega) | (dsimp only; omega), ?_⟩); exact ⟨rfl, rfl, rfl⟩)); (conv => whnf))
  repeat (apply flow_go; (focus ((conv => whnf); exact ⟨rfl, rfl, rfl⟩)); (conv => whnf))
  (apply flow_go; (focus ((conv => whnf); refine call0 [] rfl (fun _ => vA) ?_; rintro r rfl; (conv => whnf); exact ⟨rfl, rfl, rfl⟩)); (conv => whnf))
  repeat (apply flow_go; (focus ((conv => whnf); exact ⟨rfl, rfl, rfl⟩)); (conv => whnf))
  (apply flow_go; (focus ((conv => whnf); (refine ⟨by first | omega | (simp only [List.length_cons, List.length_nil]; omega) | (dsimp only; omega), ?_⟩); exact ⟨rfl, rfl, rfl⟩)); (conv => whnf))
  repeat (apply flow_go; (focus ((conv => whnf); exact ⟨rfl, rfl, rfl⟩)); (conv => whnf))
  (apply flow_go; (focus ((conv => whnf); refine call0 [] rfl (fun _ => vB) ?_; rintro r rfl; (conv => whnf); exact ⟨rfl, rfl, rfl⟩)); (conv => whnf))
  repeat (apply flow_go; (focus ((conv => whnf); exact ⟨rfl, rfl, rfl⟩)); (conv => whnf))
  rfl
end Go.Proofs.YtpjcbadnpknncaaGreatDoor.Vm
/- The reference's texts of formulas: show. -/
namespace Go.Proofs.YtpjcbadnpknncaaGreatDoor.Vm
open Go.RowKit Go.Shelf
set_option linter.unusedSimpArgs false
set_option linter.unusedVariables false
set_option maxRecDepth 100000
def opB (b : Int) : ByteArray := if b = 0 then ⟨#[60]⟩ else if b = 1 then ⟨#[61, 61]⟩ else ⟨#[62]⟩
def parF (p lv : Int) (fu : Bool) (b : ByteArray) : ByteArray := if p < lv then ⟨#[40]⟩ ++ b ++ ⟨#[41]⟩ else if fu = false then b else if p < 5 then ⟨#[40]⟩ ++ b ++ ⟨#[41]⟩ else b
def joinB (sep : ByteArray) (e : ByteArray) : List ByteArray → ByteArray
  | [] => e
  | x :: l => l.foldl (fun a y => a ++ sep ++ y) x
def sepB (k : Int) : ByteArray := if k = 4 then ⟨#[124, 124]⟩ else ⟨#[38, 38]⟩
def empB (k : Int) : ByteArray := if k = 4 then ⟨#[102, 97, 108, 115, 101]⟩ else ⟨#[116, 114, 117, 101]⟩
def nextB : ByteArray := ⟨#[110, 101, 120, 116]⟩
def alwaysB : ByteArray := ⟨#[97, 108, 119, 97, 121, 115]⟩
def evB : ByteArray := ⟨#[101, 118, 101, 110, 116, 117, 97, 108, 108, 121]⟩
def untilB : ByteArray := ⟨#[117, 110, 116, 105, 108]⟩
def bodyF (k a b n : Int) (s4 s3 sj : List ByteArray) : ByteArray :=
  if k = 1 then ⟨#[118]⟩ ++ bs (decZ a) ++ opB b ++ bs (decZ n)
  else if k = 2 then ⟨#[33]⟩ ++ s4.getD 0 ⟨#[]⟩
  else if k = 5 then glueF nextB (s4.getD 0 ⟨#[]⟩)
  else if k = 7 then glueF alwaysB (s4.getD 0 ⟨#[]⟩)
  else if k = 8 then glueF evB (s4.getD 0 ⟨#[]⟩)
  else if k = 6 then glueF (glueF (s4.getD 0 ⟨#[]⟩) untilB) (s3.getD 1 ⟨#[]⟩)
  else joinB (sepB k) (empB k) sj
mutual
/-- The text of a formula. -/
def showF : Fm → Int → Bool → ByteArray
  | .mk k a b n l, lv, fu => parF (precF (.mk k a b n l)) lv fu (bodyF k a b n (showsF l 4 fu) (showsF l 3 fu) (showsF l (precF (.mk k a b n l) + 1) fu))
def showsF : List Fm → Int → Bool → List ByteArray
  | [], _, _ => []
  | f :: l, lv, fu => showF f lv fu :: showsF l lv fu
end
theorem showF_mk (k a b n : Int) (l : List Fm) (lv : Int) (fu : Bool) : showF (.mk k a b n l) lv fu = parF (precF (.mk k a b n l)) lv fu (bodyF k a b n (showsF l 4 fu) (showsF l 3 fu) (showsF l (precF (.mk k a b n l) + 1) fu)) := by
  rw [showF]
theorem showsF_map (l : List Fm) (lv : Int) (fu : Bool) : showsF l lv fu = l.map fun f => showF f lv fu := by
  induction l with
  | nil => rw [showsF]; rfl
  | cons f l ih => rw [showsF, ih]; rfl
def ShSpec (f : Fm) : Prop := ∀ lv fu, Spec Tryz.prog 16 [] [.agg (fmA f), intA lv, boolA fu] fun _ r => r = strA (showF f lv fu)
theorem aro3 (b : Int) (h2 : 0 ≤ b ∧ b ≤ 2) : Spec Tryz.prog 18 [] [intA b, intA 3] fun _ r => r = intA b := by
  have hR := around_spec b 3 (by omega)
  rw [show aroundF b 3 = b by rcases (show b = 0 ∨ b = 1 ∨ b = 2 by omega) with rfl | rfl | rfl <;> decide] at hR
  exact hR.mono fun _ _ h => h.2
theorem sh_var (a b n : Int) (h1 : 0 ≤ a ∧ a ≤ 15) (h2 : 0 ≤ b ∧ b ≤ 2) (h3 : -2147483647 ≤ n ∧ n ≤ 2147483647) : ShSpec (.mk 1 a b n []) := fun lv fu => by
  have hp := prec_spec (.mk 1 a b n [])
  have hA := decZ_spec a (by omega) (by omega)
  have hN := decZ_spec n (by omega) (by omega)
  have zA : (bs (decZ a)).size ≤ 13 := by rw [bs_size]; exact decZ_len a (by omega) (by omega)
  have zN : (bs (decZ n)).size ≤ 13 := by rw [bs_size]; exact decZ_len n (by omega) (by omega)
  have hR := aro3 b h2
  have z1 : (⟨#[118]⟩ : ByteArray).size = 1 := rfl
  have z2 : (⟨#[60]⟩ : ByteArray).size = 1 := rfl
  have z3 : (⟨#[61, 61]⟩ : ByteArray).size = 2 := rfl
  have z4 : (⟨#[62]⟩ : ByteArray).size = 1 := rfl
  rw [showF_mk]
  generalize precF (.mk 1 a b n []) = p at *
  unfold bodyF
  rw [if_pos rfl]
  generalize bs (decZ a) = A at *
  generalize bs (decZ n) = N at *
  simp only [fmA, Fm.k, Fm.a, Fm.b, Fm.n, Fm.kids] at *
  rcases (show b = 0 ∨ b = 1 ∨ b = 2 by omega) with rfl | rfl | rfl
  · refine spec_of (cx_ok (fun id => match Nat.beq id 16 with | true => .q 0 7 .nil | false => match Nat.beq id 26 with | true => .q 0 7 .nil | false => match Nat.beq id 11 with | true => .q 0 7 .nil | false => ord16 id) xs0 0) (fun _ _ h => h) Tryz.func16 rfl (by kernel_rfl) rfl (by kernel_rfl) ?_
    intro _
    conv => whnf
    repeat (apply flow_go; (focus ((conv => whnf); exact ⟨rfl, rfl, rfl⟩)); (conv => whnf))
    (apply flow_go; (focus ((conv => whnf); refine call0 [] rfl (fun _ => hA) ?_; rintro r rfl; (conv => whnf); exact ⟨rfl, rfl, rfl⟩)); (conv => whnf))
    repeat (apply flow_go; (focus ((conv => whnf); exact ⟨rfl, rfl, rfl⟩)); (conv => whnf))
    (apply flow_go; (focus ((conv => whnf); (refine ⟨by (try simp only [ByteArray.size_append]); unfold maxLen; omega, ?_⟩); exact ⟨rfl, rfl, rfl⟩)); (conv => whnf))
    repeat (apply flow_go; (focus ((conv => whnf); exact ⟨rfl, rfl, rfl⟩)); (conv => whnf))
    (apply flow_go; (focus ((conv => whnf); refine call0 [] rfl (fun _ => hR) ?_; rintro r rfl; (conv => whnf); exact ⟨rfl, rfl, rfl⟩)); (conv => whnf))
    (apply flow_go; (focus ((conv => whnf); refine ⟨by omega, ?_⟩; (generalize hrq : rowOf _ _ _ = rq; obtain rfl : rq = [strA ⟨#[60]⟩] := hrq.symm.trans (by unfold rowOf; rfl); exact ⟨rfl, rfl, rfl⟩))); (conv => whnf))
    repeat (apply flow_go; (focus ((conv => whnf); exact ⟨rfl, rfl, rfl⟩)); (conv => whnf))
    (apply flow_go; (focus ((conv => whnf); (refine ⟨by (try simp only [ByteArray.size_append]); unfold maxLen; omega, ?_⟩); exact ⟨rfl, rfl, rfl⟩)); (conv => whnf))
    repeat (apply flow_go; (focus ((conv => whnf); exact ⟨rfl, rfl, rfl⟩)); (conv => whnf))
    (apply flow_go; (focus ((conv => whnf); refine call0 [] rfl (fun _ => hN) ?_; rintro r rfl; (conv => whnf); exact ⟨rfl, rfl, rfl⟩)); (conv => whnf))
    repeat (apply flow_go; (focus ((conv => whnf); exact ⟨rfl, rfl, rfl⟩)); (conv => whnf))
    (apply flow_go; (focus ((conv => whnf); (refine ⟨by (try simp only [ByteArray.size_append]); unfold maxLen; omega, ?_⟩); exact ⟨rfl, rfl, rfl⟩)); (conv => whnf))
    repeat (apply flow_go; (focus ((conv => whnf); exact ⟨rfl, rfl, rfl⟩)); (conv => whnf))
    unfold parF
    (refine call0 [] rfl (fun _ => hp) ?_; rintro r rfl; conv => whnf)
    by_cases g1 : p < lv
    · rw [decide_eq_true g1, if_pos g1]
      conv => whnf
      refine ⟨by show 1 + _ ≤ maxLen; (try simp only [ByteArray.size_append]); unfold maxLen; omega, ?_⟩
      conv => whnf
      refine ⟨by rw [ByteArray.size_append]; show 1 + _ + 1 ≤ maxLen; (try simp only [ByteArray.size_append]); unfold maxLen; omega, ?_⟩
      conv => whnf
      rfl
    · rw [decide_eq_false g1, if_neg g1]
      conv => whnf
      cases fu
      · rw [if_pos rfl]
        conv => whnf
        rfl
      · rw [if_neg (by decide)]
        conv => whnf
        (refine call0 [] rfl (fun _ => hp) ?_; rintro r rfl; conv => whnf)
        by_cases g2 : p < 5
        · rw [decide_eq_true g2, if_pos g2]
          conv => whnf
          refine ⟨by show 1 + _ ≤ maxLen; (try simp only [ByteArray.size_append]); unfold maxLen; omega, ?_⟩
          conv => whnf
          refine ⟨by rw [ByteArray.size_append]; show 1 + _ + 1 ≤ maxLen; (try simp only [ByteArray.size_append]); unfold maxLen; omega, ?_⟩
          conv => whnf
          rfl
        · rw [decide_eq_false g2, if_neg g2]
          conv => whnf
          rfl
  · refine spec_of (cx_ok (fun id => match Nat.beq id 16 with | true => .q 0 7 .nil | false => match Nat.beq id 26 with | true => .q 0 7 .nil | false => match Nat.beq id 11 with | true => .q 0 7 .nil | false => ord16 id) xs0 0) (fun _ _ h => h) Tryz.func16 rfl (by kernel_rfl) rfl (by kernel_rfl) ?_
    intro _
    conv => whnf
    repeat (apply flow_go; (focus ((conv => whnf); exact ⟨rfl, rfl, rfl⟩)); (conv => whnf))
    (apply flow_go; (focus ((conv => whnf); refine call0 [] rfl (fun _ => hA) ?_; rintro r rfl; (conv => whnf); exact ⟨rfl, rfl, rfl⟩)); (conv => whnf))
    repeat (apply flow_go; (focus ((conv => whnf); exact ⟨rfl, rfl, rfl⟩)); (conv => whnf))
    (apply flow_go; (focus ((conv => whnf); (refine ⟨by (try simp only [ByteArray.size_append]); unfold maxLen; omega, ?_⟩); exact ⟨rfl, rfl, rfl⟩)); (conv => whnf))
    repeat (apply flow_go; (focus ((conv => whnf); exact ⟨rfl, rfl, rfl⟩)); (conv => whnf))
    (apply flow_go; (focus ((conv => whnf); refine call0 [] rfl (fun _ => hR) ?_; rintro r rfl; (conv => whnf); exact ⟨rfl, rfl, rfl⟩)); (conv => whnf))
    (apply flow_go; (focus ((conv => whnf); refine ⟨by omega, ?_⟩; (generalize hrq : rowOf _ _ _ = rq; obtain rfl : rq = [strA ⟨#[61, 61]⟩] := hrq.symm.trans (by unfold rowOf; rfl); exact ⟨rfl, rfl, rfl⟩))); (conv => whnf))
    repeat (apply flow_go; (focus ((conv => whnf); exact ⟨rfl, rfl, rfl⟩)); (conv => whnf))
    (apply flow_go; (focus ((conv => whnf); (refine ⟨by (try simp only [ByteArray.size_append]); unfold maxLen; omega, ?_⟩); exact ⟨rfl, rfl, rfl⟩)); (conv => whnf))
    repeat (apply flow_go; (focus ((conv => whnf); exact ⟨rfl, rfl, rfl⟩)); (conv => whnf))
    (apply flow_go; (focus ((conv => whnf); refine call0 [] rfl (fun _ => hN) ?_; rintro r rfl; (conv => whnf); exact ⟨rfl, rfl, rfl⟩)); (conv => whnf))
    repeat (apply flow_go; (focus ((conv => whnf); exact ⟨rfl, rfl, rfl⟩)); (conv => whnf))
    (apply flow_go; (focus ((conv => whnf); (refine ⟨by (try simp only [ByteArray.size_append]); unfold maxLen; omega, ?_⟩); exact ⟨rfl, rfl, rfl⟩)); (conv => whnf))
    repeat (apply flow_go; (focus ((conv => whnf); exact ⟨rfl, rfl, rfl⟩)); (conv => whnf))
    unfold parF
    (refine call0 [] rfl (fun _ => hp) ?_; rintro r rfl; conv => whnf)
    by_cases g1 : p < lv
    · rw [decide_eq_true g1, if_pos g1]
      conv => whnf
      refine ⟨by show 1 + _ ≤ maxLen; (try simp only [ByteArray.size_append]); unfold maxLen; omega, ?_⟩
      conv => whnf
      refine ⟨by rw [ByteArray.size_append]; show 1 + _ + 1 ≤ maxLen; (try simp only [ByteArray.size_append]); unfold maxLen; omega, ?_⟩
      conv => whnf
      rfl
    · rw [decide_eq_false g1, if_neg g1]
      conv => whnf
      cases fu
      · rw [if_pos rfl]
        conv => whnf
        rfl
      · rw [if_neg (by decide)]
        conv => whnf
        (refine call0 [] rfl (fun _ => hp) ?_; rintro r rfl; conv => whnf)
        by_cases g2 : p < 5
        · rw [decide_eq_true g2, if_pos g2]
          conv => whnf
          refine ⟨by show 1 + _ ≤ maxLen; (try simp only [ByteArray.size_append]); unfold maxLen; omega, ?_⟩
          conv => whnf
          refine ⟨by rw [ByteArray.size_append]; show 1 + _ + 1 ≤ maxLen; (try simp only [ByteArray.size_append]); unfold maxLen; omega, ?_⟩
          conv => whnf
          rfl
        · rw [decide_eq_false g2, if_neg g2]
          conv => whnf
          rfl
  · refine spec_of (cx_ok (fun id => match Nat.beq id 16 with | true => .q 0 7 .nil | false => match Nat.beq id 26 with | true => .q 0 7 .nil | false => match Nat.beq id 11 with | true => .q 0 7 .nil | false => ord16 id) xs0 0) (fun _ _ h => h) Tryz.func16 rfl (by kernel_rfl) rfl (by kernel_rfl) ?_
    intro _
    conv => whnf
    repeat (apply flow_go; (focus ((conv => whnf); exact ⟨rfl, rfl, rfl⟩)); (conv => whnf))
    (apply flow_go; (focus ((conv => whnf); refine call0 [] rfl (fun _ => hA) ?_; rintro r rfl; (conv => whnf); exact ⟨rfl, rfl, rfl⟩)); (conv => whnf))
    repeat (apply flow_go; (focus ((conv => whnf); exact ⟨rfl, rfl, rfl⟩)); (conv => whnf))
    (apply flow_go; (focus ((conv => whnf); (refine ⟨by (try simp only [ByteArray.size_append]); unfold maxLen; omega, ?_⟩); exact ⟨rfl, rfl, rfl⟩)); (conv => whnf))
    repeat (apply flow_go; (focus ((conv => whnf); exact ⟨rfl, rfl, rfl⟩)); (conv => whnf))
    (apply flow_go; (focus ((conv => whnf); refine call0 [] rfl (fun _ => hR) ?_; rintro r rfl; (conv => whnf); exact ⟨rfl, rfl, rfl⟩)); (conv => whnf))
    (apply flow_go; (focus ((conv => whnf); refine ⟨by omega, ?_⟩; (generalize hrq : rowOf _ _ _ = rq; obtain rfl : rq = [strA ⟨#[62]⟩] := hrq.symm.trans (by unfold rowOf; rfl); exact ⟨rfl, rfl, rfl⟩))); (conv => whnf))
    repeat (apply flow_go; (focus ((conv => whnf); exact ⟨rfl, rfl, rfl⟩)); (conv => whnf))
    (apply flow_go; (focus ((conv => whnf); (refine ⟨by (try simp only [ByteArray.size_append]); unfold maxLen; omega, ?_⟩); exact ⟨rfl, rfl, rfl⟩)); (conv => whnf))
    repeat (apply flow_go; (focus ((conv => whnf); exact ⟨rfl, rfl, rfl⟩)); (conv => whnf))
    (apply flow_go; (focus ((conv => whnf); refine call0 [] rfl (fun _ => hN) ?_; rintro r rfl; (conv => whnf); exact ⟨rfl, rfl, rfl⟩)); (conv => whnf))
    repeat (apply flow_go; (focus ((conv => whnf); exact ⟨rfl, rfl, rfl⟩)); (conv => whnf))
    (apply flow_go; (focus ((conv => whnf); (refine ⟨by (try simp only [ByteArray.size_append]); unfold maxLen; omega, ?_⟩); exact ⟨rfl, rfl, rfl⟩)); (conv => whnf))
    repeat (apply flow_go; (focus ((conv => whnf); exact ⟨rfl, rfl, rfl⟩)); (conv => whnf))
    unfold parF
    (refine call0 [] rfl (fun _ => hp) ?_; rintro r rfl; conv => whnf)
    by_cases g1 : p < lv
    · rw [decide_eq_true g1, if_pos g1]
      conv => whnf
      refine ⟨by show 1 + _ ≤ maxLen; (try simp only [ByteArray.size_append]); unfold maxLen; omega, ?_⟩
      conv => whnf
      refine ⟨by rw [ByteArray.size_append]; show 1 + _ + 1 ≤ maxLen; (try simp only [ByteArray.size_append]); unfold maxLen; omega, ?_⟩
      conv => whnf
      rfl
    · rw [decide_eq_false g1, if_neg g1]
      conv => whnf
      cases fu
      · rw [if_pos rfl]
        conv => whnf
        rfl
      · rw [if_neg (by decide)]
        conv => whnf
        (refine call0 [] rfl (fun _ => hp) ?_; rintro r rfl; conv => whnf)
        by_cases g2 : p < 5
        · rw [decide_eq_true g2, if_pos g2]
          conv => whnf
          refine ⟨by show 1 + _ ≤ maxLen; (try simp only [ByteArray.size_append]); unfold maxLen; omega, ?_⟩
          conv => whnf
          refine ⟨by rw [ByteArray.size_append]; show 1 + _ + 1 ≤ maxLen; (try simp only [ByteArray.size_append]); unfold maxLen; omega, ?_⟩
          conv => whnf
          rfl
        · rw [decide_eq_false g2, if_neg g2]
          conv => whnf
          rfl
end Go.Proofs.YtpjcbadnpknncaaGreatDoor.Vm
/- The reference's texts of formulas: show, one operand. -/
namespace Go.Proofs.YtpjcbadnpknncaaGreatDoor.Vm
open Go.RowKit Go.Shelf
set_option linter.unusedSimpArgs false
set_option linter.unusedVariables false
set_option maxRecDepth 100000
theorem glue_size (a b : ByteArray) : (glueF a b).size ≤ a.size + b.size + 1 := by
  have h : (⟨#[32]⟩ : ByteArray).size = 1 := rfl
  unfold glueF
  repeat' split
  all_goals (simp only [ByteArray.size_append]; omega)
theorem sh_not (f : Fm) (ih : ShSpec f) (hz : ∀ lv fu, (showF f lv fu).size ≤ 10000000) : ShSpec (.mk 2 0 0 0 [f]) := fun lv fu => by
  have hp := prec_spec (.mk 2 0 0 0 [f])
  have i4 := ih 4 fu
  have z4 := hz 4 fu
  have hr0 : rowOf 5 (Int.toNat 0) (fmsA [f]) = fmA f := rowOf_fms [f] 0 (by simp)
  have y1 : (⟨#[33]⟩ : ByteArray).size = 1 := rfl
  rw [showF_mk, showsF_map, showsF_map, showsF_map]
  generalize precF (.mk 2 0 0 0 [f]) = p at *
  rw [show ∀ l m, bodyF 2 0 0 0 ([f].map fun f => showF f 4 fu) l m = HAppend.hAppend (⟨#[33]⟩ : ByteArray) (showF f 4 fu) from fun _ _ => rfl]
  generalize showF f 4 fu = x at *
  rw [fmA_mk] at hp ⊢
  refine spec_of (cx_ok (fun id => match Nat.beq id 16 with | true => .q 0 7 .nil | false => match Nat.beq id 26 with | true => .q 0 7 .nil | false => match Nat.beq id 11 with | true => .q 0 7 .nil | false => ord16 id) xs0 0) (fun _ _ h => h) Tryz.func16 rfl (by kernel_rfl) rfl (by kernel_rfl) ?_
  intro _
  conv => whnf
  (refine goA ?_; try with_reducible exact trivial)
  (generalize hrq : rowOf _ _ (fmsA [f]) = rq; obtain rfl : rq = fmA f := hrq.symm.trans (hr0); clear hrq; conv => whnf)
  (refine call0 [] rfl (fun _ => i4) ?_; rintro r rfl; conv => whnf)
  refine ⟨by unfold maxLen; omega, ?_⟩
  conv => whnf
  unfold parF
  (refine call0 [] rfl (fun _ => hp) ?_; rintro r rfl; conv => whnf)
  by_cases g1 : p < lv
  · rw [decide_eq_true g1, if_pos g1]
    conv => whnf
    refine ⟨by show 1 + _ ≤ maxLen; (try simp only [ByteArray.size_append]); unfold maxLen; omega, ?_⟩
    conv => whnf
    refine ⟨by rw [ByteArray.size_append]; show 1 + _ + 1 ≤ maxLen; (try simp only [ByteArray.size_append]); unfold maxLen; omega, ?_⟩
    conv => whnf
    rfl
  · rw [decide_eq_false g1, if_neg g1]
    conv => whnf
    cases fu
    · rw [if_pos rfl]
      conv => whnf
      rfl
    · rw [if_neg (by decide)]
      conv => whnf
      (refine call0 [] rfl (fun _ => hp) ?_; rintro r rfl; conv => whnf)
      by_cases g2 : p < 5
      · rw [decide_eq_true g2, if_pos g2]
        conv => whnf
        refine ⟨by show 1 + _ ≤ maxLen; (try simp only [ByteArray.size_append]); unfold maxLen; omega, ?_⟩
        conv => whnf
        refine ⟨by rw [ByteArray.size_append]; show 1 + _ + 1 ≤ maxLen; (try simp only [ByteArray.size_append]); unfold maxLen; omega, ?_⟩
        conv => whnf
        rfl
      · rw [decide_eq_false g2, if_neg g2]
        conv => whnf
        rfl
theorem sh_next (f : Fm) (ih : ShSpec f) (hz : ∀ lv fu, (showF f lv fu).size ≤ 10000000) : ShSpec (.mk 5 0 0 0 [f]) := fun lv fu => by
  have hp := prec_spec (.mk 5 0 0 0 [f])
  have i4 := ih 4 fu
  have z4 := hz 4 fu
  have hr0 : rowOf 5 (Int.toNat 0) (fmsA [f]) = fmA f := rowOf_fms [f] 0 (by simp)
  have y1 : (⟨#[33]⟩ : ByteArray).size = 1 := rfl
  rw [showF_mk, showsF_map, showsF_map, showsF_map]
  generalize precF (.mk 5 0 0 0 [f]) = p at *
  rw [show ∀ l m, bodyF 5 0 0 0 ([f].map fun f => showF f 4 fu) l m = glueF nextB (showF f 4 fu) from fun _ _ => rfl]
  generalize showF f 4 fu = x at *
  rw [fmA_mk] at hp ⊢
  refine spec_of (cx_ok (fun id => match Nat.beq id 16 with | true => .q 0 7 .nil | false => match Nat.beq id 26 with | true => .q 0 7 .nil | false => match Nat.beq id 11 with | true => .q 0 7 .nil | false => ord16 id) xs0 0) (fun _ _ h => h) Tryz.func16 rfl (by kernel_rfl) rfl (by kernel_rfl) ?_
  intro _
  conv => whnf
  (refine goA ?_; try with_reducible exact trivial)
  (generalize hrq : rowOf _ _ (fmsA [f]) = rq; obtain rfl : rq = fmA f := hrq.symm.trans (hr0); clear hrq; conv => whnf)
  (refine call0 [] rfl (fun _ => i4) ?_; rintro r rfl; conv => whnf)
  have hg := glue_spec nextB x (by decide) (by omega)
  have zg := glue_size nextB x
  have y2 : (nextB).size ≤ 10 := by decide
  generalize glueF nextB x = y at *
  unfold nextB at hg
  (refine call0 [] rfl (fun _ => hg) ?_; rintro r rfl; conv => whnf)
  unfold parF
  (refine call0 [] rfl (fun _ => hp) ?_; rintro r rfl; conv => whnf)
  by_cases g1 : p < lv
  · rw [decide_eq_true g1, if_pos g1]
    conv => whnf
    refine ⟨by show 1 + _ ≤ maxLen; (try simp only [ByteArray.size_append]); unfold maxLen; omega, ?_⟩
    conv => whnf
    refine ⟨by rw [ByteArray.size_append]; show 1 + _ + 1 ≤ maxLen; (try simp only [ByteArray.size_append]); unfold maxLen; omega, ?_⟩
    conv => whnf
    rfl
  · rw [decide_eq_false g1, if_neg g1]
    conv => whnf
    cases fu
    · rw [if_pos rfl]
      conv => whnf
      rfl
    · rw [if_neg (by decide)]
      conv => whnf
      (refine call0 [] rfl (fun _ => hp) ?_; rintro r rfl; conv => whnf)
      by_cases g2 : p < 5
      · rw [decide_eq_true g2, if_pos g2]
        conv => whnf
        refine ⟨by show 1 + _ ≤ maxLen; (try simp only [ByteArray.size_append]); unfold maxLen; omega, ?_⟩
        conv => whnf
        refine ⟨by rw [ByteArray.size_append]; show 1 + _ + 1 ≤ maxLen; (try simp only [ByteArray.size_append]); unfold maxLen; omega, ?_⟩
        conv => whnf
        rfl
      · rw [decide_eq_false g2, if_neg g2]
        conv => whnf
        rfl
theorem sh_always (f : Fm) (ih : ShSpec f) (hz : ∀ lv fu, (showF f lv fu).size ≤ 10000000) : ShSpec (.mk 7 0 0 0 [f]) := fun lv fu => by
  have hp := prec_spec (.mk 7 0 0 0 [f])
  have i4 := ih 4 fu
  have z4 := hz 4 fu
  have hr0 : rowOf 5 (Int.toNat 0) (fmsA [f]) = fmA f := rowOf_fms [f] 0 (by simp)
  have y1 : (⟨#[33]⟩ : ByteArray).size = 1 := rfl
  rw [showF_mk, showsF_map, showsF_map, showsF_map]
  generalize precF (.mk 7 0 0 0 [f]) = p at *
  rw [show ∀ l m, bodyF 7 0 0 0 ([f].map fun f => showF f 4 fu) l m = glueF alwaysB (showF f 4 fu) from fun _ _ => rfl]
  generalize showF f 4 fu = x at *
  rw [fmA_mk] at hp ⊢
  refine spec_of (cx_ok (fun id => match Nat.beq id 16 with | true => .q 0 7 .nil | false => match Nat.beq id 26 with | true => .q 0 7 .nil | false => match Nat.beq id 11 with | true => .q 0 7 .nil | false => ord16 id) xs0 0) (fun _ _ h => h) Tryz.func16 rfl (by kernel_rfl) rfl (by kernel_rfl) ?_
  intro _
  conv => whnf
  (refine goA ?_; try with_reducible exact trivial)
  (generalize hrq : rowOf _ _ (fmsA [f]) = rq; obtain rfl : rq = fmA f := hrq.symm.trans (hr0); clear hrq; conv => whnf)
  (refine call0 [] rfl (fun _ => i4) ?_; rintro r rfl; conv => whnf)
  have hg := glue_spec alwaysB x (by decide) (by omega)
  have zg := glue_size alwaysB x
  have y2 : (alwaysB).size ≤ 10 := by decide
  generalize glueF alwaysB x = y at *
  unfold alwaysB at hg
  (refine call0 [] rfl (fun _ => hg) ?_; rintro r rfl; conv => whnf)
  unfold parF
  (refine call0 [] rfl (fun _ => hp) ?_; rintro r rfl; conv => whnf)
  by_cases g1 : p < lv
  · rw [decide_eq_true g1, if_pos g1]
    conv => whnf
    refine ⟨by show 1 + _ ≤ maxLen; (try simp only [ByteArray.size_append]); unfold maxLen; omega, ?_⟩
    conv => whnf
    refine ⟨by rw [ByteArray.size_append]; show 1 + _ + 1 ≤ maxLen; (try simp only [ByteArray.size_append]); unfold maxLen; omega, ?_⟩
    conv => whnf
    rfl
  · rw [decide_eq_false g1, if_neg g1]
    conv => whnf
    cases fu
    · rw [if_pos rfl]
      conv => whnf
      rfl
    · rw [if_neg (by decide)]
      conv => whnf
      (refine call0 [] rfl (fun _ => hp) ?_; rintro r rfl; conv => whnf)
      by_cases g2 : p < 5
      · rw [decide_eq_true g2, if_pos g2]
        conv => whnf
        refine ⟨by show 1 + _ ≤ maxLen; (try simp only [ByteArray.size_append]); unfold maxLen; omega, ?_⟩
        conv => whnf
        refine ⟨by rw [ByteArray.size_append]; show 1 + _ + 1 ≤ maxLen; (try simp only [ByteArray.size_append]); unfold maxLen; omega, ?_⟩
        conv => whnf
        rfl
      · rw [decide_eq_false g2, if_neg g2]
        conv => whnf
        rfl
theorem sh_ev (f : Fm) (ih : ShSpec f) (hz : ∀ lv fu, (showF f lv fu).size ≤ 10000000) : ShSpec (.mk 8 0 0 0 [f]) := fun lv fu => by
  have hp := prec_spec (.mk 8 0 0 0 [f])
  have i4 := ih 4 fu
  have z4 := hz 4 fu
  have hr0 : rowOf 5 (Int.toNat 0) (fmsA [f]) = fmA f := rowOf_fms [f] 0 (by simp)
  have y1 : (⟨#[33]⟩ : ByteArray).size = 1 := rfl
  rw [showF_mk, showsF_map, showsF_map, showsF_map]
  generalize precF (.mk 8 0 0 0 [f]) = p at *
  rw [show ∀ l m, bodyF 8 0 0 0 ([f].map fun f => showF f 4 fu) l m = glueF evB (showF f 4 fu) from fun _ _ => rfl]
  generalize showF f 4 fu = x at *
  rw [fmA_mk] at hp ⊢
  refine spec_of (cx_ok (fun id => match Nat.beq id 16 with | true => .q 0 7 .nil | false => match Nat.beq id 26 with | true => .q 0 7 .nil | false => match Nat.beq id 11 with | true => .q 0 7 .nil | false => ord16 id) xs0 0) (fun _ _ h => h) Tryz.func16 rfl (by kernel_rfl) rfl (by kernel_rfl) ?_
  intro _
  conv => whnf
  (refine goA ?_; try with_reducible exact trivial)
  (generalize hrq : rowOf _ _ (fmsA [f]) = rq; obtain rfl : rq = fmA f := hrq.symm.trans (hr0); clear hrq; conv => whnf)
  (refine call0 [] rfl (fun _ => i4) ?_; rintro r rfl; conv => whnf)
  have hg := glue_spec evB x (by decide) (by omega)
  have zg := glue_size evB x
  have y2 : (evB).size ≤ 10 := by decide
  generalize glueF evB x = y at *
  unfold evB at hg
  (refine call0 [] rfl (fun _ => hg) ?_; rintro r rfl; conv => whnf)
  unfold parF
  (refine call0 [] rfl (fun _ => hp) ?_; rintro r rfl; conv => whnf)
  by_cases g1 : p < lv
  · rw [decide_eq_true g1, if_pos g1]
    conv => whnf
    refine ⟨by show 1 + _ ≤ maxLen; (try simp only [ByteArray.size_append]); unfold maxLen; omega, ?_⟩
    conv => whnf
    refine ⟨by rw [ByteArray.size_append]; show 1 + _ + 1 ≤ maxLen; (try simp only [ByteArray.size_append]); unfold maxLen; omega, ?_⟩
    conv => whnf
    rfl
  · rw [decide_eq_false g1, if_neg g1]
    conv => whnf
    cases fu
    · rw [if_pos rfl]
      conv => whnf
      rfl
    · rw [if_neg (by decide)]
      conv => whnf
      (refine call0 [] rfl (fun _ => hp) ?_; rintro r rfl; conv => whnf)
      by_cases g2 : p < 5
      · rw [decide_eq_true g2, if_pos g2]
        conv => whnf
        refine ⟨by show 1 + _ ≤ maxLen; (try simp only [ByteArray.size_append]); unfold maxLen; omega, ?_⟩
        conv => whnf
        refine ⟨by rw [ByteArray.size_append]; show 1 + _ + 1 ≤ maxLen; (try simp only [ByteArray.size_append]); unfold maxLen; omega, ?_⟩
        conv => whnf
        rfl
      · rw [decide_eq_false g2, if_neg g2]
        conv => whnf
        rfl
end Go.Proofs.YtpjcbadnpknncaaGreatDoor.Vm
/- The reference's texts of formulas: until, and, or. -/
namespace Go.Proofs.YtpjcbadnpknncaaGreatDoor.Vm
open Go.RowKit Go.Shelf
set_option linter.unusedSimpArgs false
set_option linter.unusedVariables false
set_option maxRecDepth 100000
theorem sh_til (f g : Fm) (ih : ShSpec f) (ih2 : ShSpec g) (hz : ∀ lv fu, (showF f lv fu).size ≤ 10000000) (hz2 : ∀ lv fu, (showF g lv fu).size ≤ 10000000) : ShSpec (.mk 6 0 0 0 [f, g]) := fun lv fu => by
  have hp := prec_spec (.mk 6 0 0 0 [f, g])
  have i4 := ih 4 fu
  have i3 := ih2 3 fu
  have z4 := hz 4 fu
  have z3 := hz2 3 fu
  have hr0 : rowOf 5 (Int.toNat 0) (fmsA [f, g]) = fmA f := rowOf_fms [f, g] 0 (by simp)
  have hr1 : rowOf 5 (Int.toNat 1) (fmsA [f, g]) = fmA g := rowOf_fms [f, g] 1 (by simp)
  rw [showF_mk, showsF_map, showsF_map, showsF_map]
  generalize precF (.mk 6 0 0 0 [f, g]) = p at *
  rw [show ∀ m, bodyF 6 0 0 0 ([f, g].map fun f => showF f 4 fu) ([f, g].map fun f => showF f 3 fu) m = glueF (glueF (showF f 4 fu) untilB) (showF g 3 fu) from fun _ => rfl]
  generalize showF f 4 fu = x at *
  generalize showF g 3 fu = x2 at *
  have ln : [f, g].length = 2 := rfl
  have y2 : untilB.size ≤ 10 := by decide
  have zg := glue_size x untilB
  have hg := glue_spec x untilB (by omega) (by omega)
  have hg2 := glue_spec (glueF x untilB) x2 (by omega) (by omega)
  have zg2 := glue_size (glueF x untilB) x2
  generalize glueF (glueF x untilB) x2 = y at *
  generalize glueF x untilB = u at *
  unfold untilB at hg
  rw [fmA_mk] at hp ⊢
  refine spec_of (cx_ok (fun id => match Nat.beq id 16 with | true => .q 0 7 .nil | false => match Nat.beq id 26 with | true => .q 0 7 .nil | false => match Nat.beq id 11 with | true => .q 0 7 .nil | false => ord16 id) xs0 0) (fun _ _ h => h) Tryz.func16 rfl (by kernel_rfl) rfl (by kernel_rfl) ?_
  intro _
  conv => whnf
  repeat (apply flow_go; (focus ((conv => whnf); exact ⟨rfl, rfl, rfl⟩)); (conv => whnf))
  (apply flow_go; (focus ((conv => whnf); refine ⟨by omega, ?_⟩; (generalize hrq : rowOf _ _ (fmsA [f, g]) = rq; obtain rfl : rq = fmA f := hrq.symm.trans (hr0); exact ⟨rfl, rfl, rfl⟩))); (conv => whnf))
  repeat (apply flow_go; (focus ((conv => whnf); exact ⟨rfl, rfl, rfl⟩)); (conv => whnf))
  (apply flow_go; (focus ((conv => whnf); refine call0 [] rfl (fun _ => i4) ?_; rintro r rfl; (conv => whnf); exact ⟨rfl, rfl, rfl⟩)); (conv => whnf))
  repeat (apply flow_go; (focus ((conv => whnf); exact ⟨rfl, rfl, rfl⟩)); (conv => whnf))
  (apply flow_go; (focus ((conv => whnf); refine call0 [] rfl (fun _ => hg) ?_; rintro r rfl; (conv => whnf); exact ⟨rfl, rfl, rfl⟩)); (conv => whnf))
  repeat (apply flow_go; (focus ((conv => whnf); exact ⟨rfl, rfl, rfl⟩)); (conv => whnf))
  (apply flow_go; (focus ((conv => whnf); refine ⟨by omega, ?_⟩; (generalize hrq : rowOf _ _ (fmsA [f, g]) = rq; obtain rfl : rq = fmA g := hrq.symm.trans (hr1); exact ⟨rfl, rfl, rfl⟩))); (conv => whnf))
  repeat (apply flow_go; (focus ((conv => whnf); exact ⟨rfl, rfl, rfl⟩)); (conv => whnf))
  (apply flow_go; (focus ((conv => whnf); refine call0 [] rfl (fun _ => i3) ?_; rintro r rfl; (conv => whnf); exact ⟨rfl, rfl, rfl⟩)); (conv => whnf))
  repeat (apply flow_go; (focus ((conv => whnf); exact ⟨rfl, rfl, rfl⟩)); (conv => whnf))
  (apply flow_go; (focus ((conv => whnf); refine call0 [] rfl (fun _ => hg2) ?_; rintro r rfl; (conv => whnf); exact ⟨rfl, rfl, rfl⟩)); (conv => whnf))
  repeat (apply flow_go; (focus ((conv => whnf); exact ⟨rfl, rfl, rfl⟩)); (conv => whnf))
  unfold parF
  (refine call0 [] rfl (fun _ => hp) ?_; rintro r rfl; conv => whnf)
  by_cases g1 : p < lv
  · rw [decide_eq_true g1, if_pos g1]
    conv => whnf
    refine ⟨by show 1 + _ ≤ maxLen; (try simp only [ByteArray.size_append]); unfold maxLen; omega, ?_⟩
    conv => whnf
    refine ⟨by rw [ByteArray.size_append]; show 1 + _ + 1 ≤ maxLen; (try simp only [ByteArray.size_append]); unfold maxLen; omega, ?_⟩
    conv => whnf
    rfl
  · rw [decide_eq_false g1, if_neg g1]
    conv => whnf
    cases fu
    · rw [if_pos rfl]
      conv => whnf
      rfl
    · rw [if_neg (by decide)]
      conv => whnf
      (refine call0 [] rfl (fun _ => hp) ?_; rintro r rfl; conv => whnf)
      by_cases g2 : p < 5
      · rw [decide_eq_true g2, if_pos g2]
        conv => whnf
        refine ⟨by show 1 + _ ≤ maxLen; (try simp only [ByteArray.size_append]); unfold maxLen; omega, ?_⟩
        conv => whnf
        refine ⟨by rw [ByteArray.size_append]; show 1 + _ + 1 ≤ maxLen; (try simp only [ByteArray.size_append]); unfold maxLen; omega, ?_⟩
        conv => whnf
        rfl
      · rw [decide_eq_false g2, if_neg g2]
        conv => whnf
        rfl
end Go.Proofs.YtpjcbadnpknncaaGreatDoor.Vm
/- The reference's texts of formulas: and, or. -/
namespace Go.Proofs.YtpjcbadnpknncaaGreatDoor.Vm
open Go.RowKit Go.Shelf
set_option linter.unusedSimpArgs false
set_option linter.unusedVariables false
set_option maxRecDepth 100000
theorem joinB_one (s e y : ByteArray) : joinB s e [y] = y := rfl
theorem joinB_snoc (s e y : ByteArray) (l : List ByteArray) (h : l ≠ []) : joinB s e (l ++ [y]) = joinB s e l ++ s ++ y := by
  cases l with
  | nil => exact absurd rfl h
  | cons x l => simp only [joinB, List.cons_append, List.foldl_append, List.foldl_cons, List.foldl_nil]
theorem fold_size (s : ByteArray) (B : Nat) : ∀ (l : List ByteArray) (a : ByteArray), (∀ y ∈ l, y.size ≤ B) → (l.foldl (fun a y => a ++ s ++ y) a).size ≤ a.size + l.length * (B + s.size)
  | [], a, _ => by simp
  | y :: l, a, h => by
    have h1 := fold_size s B l (a ++ s ++ y) fun z hz => h z (by simp [hz])
    have h2 := h y (by simp)
    rw [List.foldl_cons, List.length_cons, Nat.add_mul]
    simp only [ByteArray.size_append] at h1
    omega
theorem joinB_size (s e : ByteArray) (B : Nat) (l : List ByteArray) (h : ∀ y ∈ l, y.size ≤ B) : (joinB s e l).size ≤ e.size + l.length * (B + s.size) := by
  cases l with
  | nil => simp [joinB]
  | cons x l =>
    have h1 := fold_size s B l x fun z hz => h z (by simp [hz])
    have h2 := h x (by simp)
    show (l.foldl (fun a y => a ++ s ++ y) x).size ≤ _
    rw [List.length_cons, Nat.add_mul]
    omega
theorem prec_le (f : Fm) : 0 ≤ precF f ∧ precF f ≤ 5 := by unfold precF; repeat' split <;> omega
def accB (s e : ByteArray) (T : Fm → ByteArray) (l : List Fm) (j : Nat) : ByteArray := joinB s e ((l.take j).map T)
theorem accB_succ (s e : ByteArray) (T : Fm → ByteArray) (l : List Fm) (j : Nat) (h : j < l.length) : (j = 0 → T l[j] = accB s e T l (j + 1)) ∧ (j ≠ 0 → accB s e T l j ++ s ++ T l[j] = accB s e T l (j + 1)) := by
  unfold accB
  rw [List.take_succ_eq_append_getElem h, List.map_append]
  refine ⟨fun h0 => by subst h0; rfl, fun h0 => ?_⟩
  rw [show [l[j]].map T = [T l[j]] from rfl, joinB_snoc]
  intro h1
  have := congrArg List.length h1
  rw [List.length_map, List.length_take] at this
  simp only [List.length_nil] at this
  omega
theorem sh_and (l : List Fm) (hl : l.length ≤ 3) (ih : ∀ f ∈ l, ShSpec f) (hz : ∀ f ∈ l, ∀ lv fu, (showF f lv fu).size ≤ 10000000) : ShSpec (.mk 3 0 0 0 l) := fun lv fu => by
  have hp := prec_spec (.mk 3 0 0 0 l)
  have hpl := prec_le (.mk 3 0 0 0 l)
  rw [showF_mk, showsF_map, showsF_map, showsF_map]
  generalize precF (.mk 3 0 0 0 l) = p at *
  rw [show ∀ x y z, bodyF 3 0 0 0 x y z = joinB ⟨#[38, 38]⟩ ⟨#[116, 114, 117, 101]⟩ z from fun _ _ _ => rfl]
  have hT : ∀ f ∈ l, Spec Tryz.prog 16 [] [.agg (fmA f), intA (p + 1), boolA fu] fun _ r => r = strA (showF f (p + 1) fu) := fun f hf => ih f hf (p + 1) fu
  have hZ : ∀ f ∈ l, (showF f (p + 1) fu).size ≤ 10000000 := fun f hf => hz f hf (p + 1) fu
  generalize hTT : (fun f => showF f (p + 1) fu) = T
  have hT2 : ∀ f ∈ l, Spec Tryz.prog 16 [] [.agg (fmA f), intA (p + 1), boolA fu] fun _ r => r = strA (T f) := fun f hf => by rw [← hTT]; exact hT f hf
  have hZ2 : ∀ f ∈ l, (T f).size ≤ 10000000 := fun f hf => by rw [← hTT]; exact hZ f hf
  clear hT hZ hTT
  have hacc : ∀ j, (accB ⟨#[38, 38]⟩ ⟨#[116, 114, 117, 101]⟩ T l j).size ≤ 40000000 := fun j => by
    unfold accB
    have h := joinB_size ⟨#[38, 38]⟩ ⟨#[116, 114, 117, 101]⟩ 10000000 ((l.take j).map T) fun y hy => by
      obtain ⟨f, hf, rfl⟩ := List.mem_map.1 hy
      exact hZ2 f (List.mem_of_mem_take hf)
    have h1 : (⟨#[38, 38]⟩ : ByteArray).size = 2 := rfl
    have h2 : (⟨#[116, 114, 117, 101]⟩ : ByteArray).size ≤ 5 := by decide
    rw [List.length_map, List.length_take, h1] at h
    have : min j l.length ≤ 3 := by omega
    omega
  have hs : (⟨#[38, 38]⟩ : ByteArray).size = 2 := rfl
  have hfull := hacc l.length
  unfold accB at hfull
  rw [List.take_length] at hfull
  rw [fmA_mk] at hp ⊢
  refine spec_of (cx_ok (fun id => match Nat.beq id 16 with | true => .q 0 7 .nil | false => match Nat.beq id 26 with | true => .q 0 7 .nil | false => match Nat.beq id 11 with | true => .q 0 7 .nil | false => ord16 id) xs0 0) (fun _ _ h => h) Tryz.func16 rfl (by kernel_rfl) rfl (by kernel_rfl) ?_
  intro _
  conv => whnf
  refine loop_keep [1, 2, 3, 8] ?_
  conv => whnf
  refine loop_go (fun j : Nat => [(7, .v (.string (accB ⟨#[38, 38]⟩ ⟨#[116, 114, 117, 101]⟩ T l j))), (9, .v (.int .i64 j))]) (fun _ => [[intA 3, intA 0, intA 0, intA 0, .sl 5 l.length (fmsA l)]]) (fun _ => []) (fun j => j ≤ l.length) (fun j => l.length - j) 0 ?_ (Nat.zero_le _) ?_
  · repeat' constructor
  · rintro j hj
    conv => whnf
    by_cases hlt : j < l.length
    · rw [decide_eq_true (show (j : Int) < (l.length : Int) by omega)]
      conv => whnf
      have hs2 := hT2 l[j] (List.getElem_mem hlt)
      have hz2 := hZ2 l[j] (List.getElem_mem hlt)
      have hrow := rowOf_fms l j hlt
      have hnext := accB_succ ⟨#[38, 38]⟩ ⟨#[116, 114, 117, 101]⟩ T l j hlt
      have ha := hacc j
      generalize l[j] = g at *
      generalize T g = x at *
      repeat (apply flow_go; (focus ((conv => whnf); exact ⟨rfl, rfl, rfl⟩)); (conv => whnf))
      (apply flow_go; (focus ((conv => whnf); refine ⟨by omega, ?_⟩; (generalize hrq : rowOf _ _ (fmsA l) = rq; obtain rfl : rq = fmA g := hrq.symm.trans (hrow); exact ⟨rfl, rfl, rfl⟩))); (conv => whnf))
      repeat (apply flow_go; (focus ((conv => whnf); exact ⟨rfl, rfl, rfl⟩)); (conv => whnf))
      (apply flow_go; (focus ((conv => whnf); refine call0 [] rfl (fun _ => hp) ?_; rintro r rfl; (conv => whnf); exact ⟨rfl, rfl, rfl⟩)); (conv => whnf))
      (apply flow_go; (focus ((conv => whnf); (refine ⟨i64r (by omega), ?_⟩); exact ⟨rfl, rfl, rfl⟩)); (conv => whnf))
      repeat (apply flow_go; (focus ((conv => whnf); exact ⟨rfl, rfl, rfl⟩)); (conv => whnf))
      (apply flow_go; (focus ((conv => whnf); refine call0 [] rfl (fun _ => hs2) ?_; rintro r rfl; (conv => whnf); exact ⟨rfl, rfl, rfl⟩)); (conv => whnf))
      repeat (apply flow_go; (focus ((conv => whnf); exact ⟨rfl, rfl, rfl⟩)); (conv => whnf))
      by_cases hj0 : j = 0
      · subst hj0
        rw [hnext.1 rfl]
        conv => whnf
        refine ⟨i64r (by omega), ?_⟩
        conv => whnf
        refine ⟨1, le_head ?_, hlt, by omega⟩
        repeat' constructor
      · rw [decide_eq_false (show ¬ (j : Int) = 0 by omega)]
        conv => whnf
        refine ⟨by unfold maxLen; omega, ?_⟩
        conv => whnf
        refine ⟨by (try simp only [ByteArray.size_append]); unfold maxLen; omega, ?_⟩
        rw [hnext.2 hj0]
        conv => whnf
        refine ⟨i64r (by omega), ?_⟩
        conv => whnf
        refine ⟨j + 1, le_head ?_, hlt, by omega⟩
        repeat' constructor
    · rw [decide_eq_false (show ¬ (j : Int) < (l.length : Int) by omega)]
      obtain rfl : j = l.length := by omega
      rw [show accB ⟨#[38, 38]⟩ ⟨#[116, 114, 117, 101]⟩ T l l.length = joinB ⟨#[38, 38]⟩ ⟨#[116, 114, 117, 101]⟩ (l.map T) by unfold accB; rw [List.take_length]]
      generalize joinB ⟨#[38, 38]⟩ ⟨#[116, 114, 117, 101]⟩ (l.map T) = y at *
      conv => whnf
      unfold parF
      (refine call0 [] rfl (fun _ => hp) ?_; rintro r rfl; conv => whnf)
      by_cases g1 : p < lv
      · rw [decide_eq_true g1, if_pos g1]
        conv => whnf
        refine ⟨by show 1 + _ ≤ maxLen; (try simp only [ByteArray.size_append]); unfold maxLen; omega, ?_⟩
        conv => whnf
        refine ⟨by rw [ByteArray.size_append]; show 1 + _ + 1 ≤ maxLen; (try simp only [ByteArray.size_append]); unfold maxLen; omega, ?_⟩
        conv => whnf
        rfl
      · rw [decide_eq_false g1, if_neg g1]
        conv => whnf
        cases fu
        · rw [if_pos rfl]
          conv => whnf
          rfl
        · rw [if_neg (by decide)]
          conv => whnf
          (refine call0 [] rfl (fun _ => hp) ?_; rintro r rfl; conv => whnf)
          by_cases g2 : p < 5
          · rw [decide_eq_true g2, if_pos g2]
            conv => whnf
            refine ⟨by show 1 + _ ≤ maxLen; (try simp only [ByteArray.size_append]); unfold maxLen; omega, ?_⟩
            conv => whnf
            refine ⟨by rw [ByteArray.size_append]; show 1 + _ + 1 ≤ maxLen; (try simp only [ByteArray.size_append]); unfold maxLen; omega, ?_⟩
            conv => whnf
            rfl
          · rw [decide_eq_false g2, if_neg g2]
            conv => whnf
            rfl
theorem sh_or (l : List Fm) (hl : l.length ≤ 3) (ih : ∀ f ∈ l, ShSpec f) (hz : ∀ f ∈ l, ∀ lv fu, (showF f lv fu).size ≤ 10000000) : ShSpec (.mk 4 0 0 0 l) := fun lv fu => by
  have hp := prec_spec (.mk 4 0 0 0 l)
  have hpl := prec_le (.mk 4 0 0 0 l)
  rw [showF_mk, showsF_map, showsF_map, showsF_map]
  generalize precF (.mk 4 0 0 0 l) = p at *
  rw [show ∀ x y z, bodyF 4 0 0 0 x y z = joinB ⟨#[124, 124]⟩ ⟨#[102, 97, 108, 115, 101]⟩ z from fun _ _ _ => rfl]
  have hT : ∀ f ∈ l, Spec Tryz.prog 16 [] [.agg (fmA f), intA (p + 1), boolA fu] fun _ r => r = strA (showF f (p + 1) fu) := fun f hf => ih f hf (p + 1) fu
  have hZ : ∀ f ∈ l, (showF f (p + 1) fu).size ≤ 10000000 := fun f hf => hz f hf (p + 1) fu
  generalize hTT : (fun f => showF f (p + 1) fu) = T
  have hT2 : ∀ f ∈ l, Spec Tryz.prog 16 [] [.agg (fmA f), intA (p + 1), boolA fu] fun _ r => r = strA (T f) := fun f hf => by rw [← hTT]; exact hT f hf
  have hZ2 : ∀ f ∈ l, (T f).size ≤ 10000000 := fun f hf => by rw [← hTT]; exact hZ f hf
  clear hT hZ hTT
  have hacc : ∀ j, (accB ⟨#[124, 124]⟩ ⟨#[102, 97, 108, 115, 101]⟩ T l j).size ≤ 40000000 := fun j => by
    unfold accB
    have h := joinB_size ⟨#[124, 124]⟩ ⟨#[102, 97, 108, 115, 101]⟩ 10000000 ((l.take j).map T) fun y hy => by
      obtain ⟨f, hf, rfl⟩ := List.mem_map.1 hy
      exact hZ2 f (List.mem_of_mem_take hf)
    have h1 : (⟨#[124, 124]⟩ : ByteArray).size = 2 := rfl
    have h2 : (⟨#[102, 97, 108, 115, 101]⟩ : ByteArray).size ≤ 5 := by decide
    rw [List.length_map, List.length_take, h1] at h
    have : min j l.length ≤ 3 := by omega
    omega
  have hs : (⟨#[124, 124]⟩ : ByteArray).size = 2 := rfl
  have hfull := hacc l.length
  unfold accB at hfull
  rw [List.take_length] at hfull
  rw [fmA_mk] at hp ⊢
  refine spec_of (cx_ok (fun id => match Nat.beq id 16 with | true => .q 0 7 .nil | false => match Nat.beq id 26 with | true => .q 0 7 .nil | false => match Nat.beq id 11 with | true => .q 0 7 .nil | false => ord16 id) xs0 0) (fun _ _ h => h) Tryz.func16 rfl (by kernel_rfl) rfl (by kernel_rfl) ?_
  intro _
  conv => whnf
  refine loop_keep [1, 2, 3, 8] ?_
  conv => whnf
  refine loop_go (fun j : Nat => [(7, .v (.string (accB ⟨#[124, 124]⟩ ⟨#[102, 97, 108, 115, 101]⟩ T l j))), (9, .v (.int .i64 j))]) (fun _ => [[intA 4, intA 0, intA 0, intA 0, .sl 5 l.length (fmsA l)]]) (fun _ => []) (fun j => j ≤ l.length) (fun j => l.length - j) 0 ?_ (Nat.zero_le _) ?_
  · repeat' constructor
  · rintro j hj
    conv => whnf
    by_cases hlt : j < l.length
    · rw [decide_eq_true (show (j : Int) < (l.length : Int) by omega)]
      conv => whnf
      have hs2 := hT2 l[j] (List.getElem_mem hlt)
      have hz2 := hZ2 l[j] (List.getElem_mem hlt)
      have hrow := rowOf_fms l j hlt
      have hnext := accB_succ ⟨#[124, 124]⟩ ⟨#[102, 97, 108, 115, 101]⟩ T l j hlt
      have ha := hacc j
      generalize l[j] = g at *
      generalize T g = x at *
      repeat (apply flow_go; (focus ((conv => whnf); exact ⟨rfl, rfl, rfl⟩)); (conv => whnf))
      (apply flow_go; (focus ((conv => whnf); refine ⟨by omega, ?_⟩; (generalize hrq : rowOf _ _ (fmsA l) = rq; obtain rfl : rq = fmA g := hrq.symm.trans (hrow); exact ⟨rfl, rfl, rfl⟩))); (conv => whnf))
      repeat (apply flow_go; (focus ((conv => whnf); exact ⟨rfl, rfl, rfl⟩)); (conv => whnf))
      (apply flow_go; (focus ((conv => whnf); refine call0 [] rfl (fun _ => hp) ?_; rintro r rfl; (conv => whnf); exact ⟨rfl, rfl, rfl⟩)); (conv => whnf))
      (apply flow_go; (focus ((conv => whnf); (refine ⟨i64r (by omega), ?_⟩); exact ⟨rfl, rfl, rfl⟩)); (conv => whnf))
      repeat (apply flow_go; (focus ((conv => whnf); exact ⟨rfl, rfl, rfl⟩)); (conv => whnf))
      (apply flow_go; (focus ((conv => whnf); refine call0 [] rfl (fun _ => hs2) ?_; rintro r rfl; (conv => whnf); exact ⟨rfl, rfl, rfl⟩)); (conv => whnf))
      repeat (apply flow_go; (focus ((conv => whnf); exact ⟨rfl, rfl, rfl⟩)); (conv => whnf))
      by_cases hj0 : j = 0
      · subst hj0
        rw [hnext.1 rfl]
        conv => whnf
        refine ⟨i64r (by omega), ?_⟩
        conv => whnf
        refine ⟨1, le_head ?_, hlt, by omega⟩
        repeat' constructor
      · rw [decide_eq_false (show ¬ (j : Int) = 0 by omega)]
        conv => whnf
        refine ⟨by unfold maxLen; omega, ?_⟩
        conv => whnf
        refine ⟨by (try simp only [ByteArray.size_append]); unfold maxLen; omega, ?_⟩
        rw [hnext.2 hj0]
        conv => whnf
        refine ⟨i64r (by omega), ?_⟩
        conv => whnf
        refine ⟨j + 1, le_head ?_, hlt, by omega⟩
        repeat' constructor
    · rw [decide_eq_false (show ¬ (j : Int) < (l.length : Int) by omega)]
      obtain rfl : j = l.length := by omega
      rw [show accB ⟨#[124, 124]⟩ ⟨#[102, 97, 108, 115, 101]⟩ T l l.length = joinB ⟨#[124, 124]⟩ ⟨#[102, 97, 108, 115, 101]⟩ (l.map T) by unfold accB; rw [List.take_length]]
      generalize joinB ⟨#[124, 124]⟩ ⟨#[102, 97, 108, 115, 101]⟩ (l.map T) = y at *
      conv => whnf
      unfold parF
      (refine call0 [] rfl (fun _ => hp) ?_; rintro r rfl; conv => whnf)
      by_cases g1 : p < lv
      · rw [decide_eq_true g1, if_pos g1]
        conv => whnf
        refine ⟨by show 1 + _ ≤ maxLen; (try simp only [ByteArray.size_append]); unfold maxLen; omega, ?_⟩
        conv => whnf
        refine ⟨by rw [ByteArray.size_append]; show 1 + _ + 1 ≤ maxLen; (try simp only [ByteArray.size_append]); unfold maxLen; omega, ?_⟩
        conv => whnf
        rfl
      · rw [decide_eq_false g1, if_neg g1]
        conv => whnf
        cases fu
        · rw [if_pos rfl]
          conv => whnf
          rfl
        · rw [if_neg (by decide)]
          conv => whnf
          (refine call0 [] rfl (fun _ => hp) ?_; rintro r rfl; conv => whnf)
          by_cases g2 : p < 5
          · rw [decide_eq_true g2, if_pos g2]
            conv => whnf
            refine ⟨by show 1 + _ ≤ maxLen; (try simp only [ByteArray.size_append]); unfold maxLen; omega, ?_⟩
            conv => whnf
            refine ⟨by rw [ByteArray.size_append]; show 1 + _ + 1 ≤ maxLen; (try simp only [ByteArray.size_append]); unfold maxLen; omega, ?_⟩
            conv => whnf
            rfl
          · rw [decide_eq_false g2, if_neg g2]
            conv => whnf
            rfl
end Go.Proofs.YtpjcbadnpknncaaGreatDoor.Vm
/- The reference's texts of generated formulas; Print, Full, Short. -/
namespace Go.Proofs.YtpjcbadnpknncaaGreatDoor.Vm
open Go.RowKit Go.Shelf
set_option linter.unusedSimpArgs false
set_option linter.unusedVariables false
set_option maxRecDepth 100000
theorem par_size (p lv : Int) (fu : Bool) (b : ByteArray) : (parF p lv fu b).size ≤ b.size + 2 := by
  have h1 : (⟨#[40]⟩ : ByteArray).size = 1 := rfl
  have h2 : (⟨#[41]⟩ : ByteArray).size = 1 := rfl
  unfold parF
  repeat' split
  all_goals (try simp only [ByteArray.size_append]); omega
theorem sz_un (k : Int) (hk : k = 2 ∨ k = 5 ∨ k = 7 ∨ k = 8) (f : Fm) (N : Nat) (h : ∀ lv fu, (showF f lv fu).size ≤ N) (lv : Int) (fu : Bool) : (showF (.mk k 0 0 0 [f]) lv fu).size ≤ N + 13 := by
  have h1 := h 4 fu
  rw [showF_mk, showsF_map]
  have hp := par_size (precF (.mk k 0 0 0 [f])) lv fu (bodyF k 0 0 0 ([f].map fun f => showF f 4 fu) (showsF [f] 3 fu) (showsF [f] (precF (.mk k 0 0 0 [f]) + 1) fu))
  refine Nat.le_trans hp ?_
  have e1 : (⟨#[33]⟩ : ByteArray).size = 1 := rfl
  rcases hk with rfl | rfl | rfl | rfl
  · show ((⟨#[33]⟩ : ByteArray) ++ showF f 4 fu).size + 2 ≤ _
    rw [ByteArray.size_append]; omega
  · show (glueF nextB (showF f 4 fu)).size + 2 ≤ _
    have := glue_size nextB (showF f 4 fu)
    have : nextB.size ≤ 10 := by decide
    omega
  · show (glueF alwaysB (showF f 4 fu)).size + 2 ≤ _
    have := glue_size alwaysB (showF f 4 fu)
    have : alwaysB.size ≤ 10 := by decide
    omega
  · show (glueF evB (showF f 4 fu)).size + 2 ≤ _
    have := glue_size evB (showF f 4 fu)
    have : evB.size ≤ 10 := by decide
    omega
theorem sz_til (f g : Fm) (N : Nat) (h : ∀ lv fu, (showF f lv fu).size ≤ N) (h2 : ∀ lv fu, (showF g lv fu).size ≤ N) (lv : Int) (fu : Bool) : (showF (.mk 6 0 0 0 [f, g]) lv fu).size ≤ 2 * N + 13 := by
  have a1 := h 4 fu
  have a2 := h2 3 fu
  rw [showF_mk, showsF_map, showsF_map]
  refine Nat.le_trans (par_size _ _ _ _) ?_
  show (glueF (glueF (showF f 4 fu) untilB) (showF g 3 fu)).size + 2 ≤ _
  have := glue_size (showF f 4 fu) untilB
  have := glue_size (glueF (showF f 4 fu) untilB) (showF g 3 fu)
  have : untilB.size ≤ 5 := by decide
  omega
theorem sz_jn (k : Int) (hk : k = 3 ∨ k = 4) (l : List Fm) (hl : l.length ≤ 3) (N : Nat) (h : ∀ f ∈ l, ∀ lv fu, (showF f lv fu).size ≤ N) (lv : Int) (fu : Bool) : (showF (.mk k 0 0 0 l) lv fu).size ≤ 3 * N + 13 := by
  rw [showF_mk, showsF_map, showsF_map, showsF_map]
  refine Nat.le_trans (par_size _ _ _ _) ?_
  generalize precF (.mk k 0 0 0 l) = p
  have hb := fun s e => joinB_size s e N (l.map fun f => showF f (p + 1) fu) fun y hy => by
    obtain ⟨f, hf, rfl⟩ := List.mem_map.1 hy
    exact h f hf _ _
  have hm : l.length * (N + 2) ≤ 3 * (N + 2) := Nat.mul_le_mul_right _ hl
  rw [List.length_map] at hb
  rcases hk with rfl | rfl
  · have h1 := hb ⟨#[38, 38]⟩ ⟨#[116, 114, 117, 101]⟩
    have e1 : (⟨#[38, 38]⟩ : ByteArray).size = 2 := rfl
    have e2 : (⟨#[116, 114, 117, 101]⟩ : ByteArray).size ≤ 5 := by decide
    rw [e1] at h1
    show (joinB ⟨#[38, 38]⟩ ⟨#[116, 114, 117, 101]⟩ (l.map fun f => showF f (p + 1) fu)).size + 2 ≤ _
    omega
  · have h1 := hb ⟨#[124, 124]⟩ ⟨#[102, 97, 108, 115, 101]⟩
    have e1 : (⟨#[124, 124]⟩ : ByteArray).size = 2 := rfl
    have e2 : (⟨#[102, 97, 108, 115, 101]⟩ : ByteArray).size ≤ 5 := by decide
    rw [e1] at h1
    show (joinB ⟨#[124, 124]⟩ ⟨#[102, 97, 108, 115, 101]⟩ (l.map fun f => showF f (p + 1) fu)).size + 2 ≤ _
    omega
theorem sz_var (a b n : Int) (h1 : 0 ≤ a ∧ a ≤ 15) (h3 : -2147483647 ≤ n ∧ n ≤ 2147483647) (lv : Int) (fu : Bool) : (showF (.mk 1 a b n []) lv fu).size ≤ 60 := by
  rw [showF_mk]
  refine Nat.le_trans (par_size _ _ _ _) ?_
  show ((⟨#[118]⟩ : ByteArray) ++ bs (decZ a) ++ opB b ++ bs (decZ n)).size + 2 ≤ _
  have zA := decZ_len a (by omega) (by omega)
  have zN := decZ_len n (by omega) (by omega)
  have e1 : (⟨#[118]⟩ : ByteArray).size = 1 := rfl
  have e2 : (opB b).size ≤ 2 := by unfold opB; split; decide; split <;> decide
  simp only [ByteArray.size_append, bs_size]
  omega
theorem sz_gf {d : Nat} {f : Fm} (h : Gf d f) : ∀ lv fu, (showF f lv fu).size ≤ 60 * 4 ^ d := by
  induction h with
  | var h1 h2 h3 =>
    rename_i d a b n
    have hp : 1 ≤ 4 ^ d := Nat.pos_of_ne_zero (by simp)
    intro lv fu
    have := sz_var a b n h1 h3 lv fu
    omega
  | cst b =>
    rename_i d
    have hp : 1 ≤ 4 ^ d := Nat.pos_of_ne_zero (by simp)
    intro lv fu
    cases b
    · have := sz_jn 4 (.inr rfl) [] (by simp) 0 (by simp) lv fu
      exact Nat.le_trans this (by omega)
    · have := sz_jn 3 (.inl rfl) [] (by simp) 0 (by simp) lv fu
      exact Nat.le_trans this (by omega)
  | un hk h ih =>
    rename_i d k f
    have hp : 1 ≤ 4 ^ d := Nat.pos_of_ne_zero (by simp)
    intro lv fu
    have := sz_un k hk f _ ih lv fu
    rw [Nat.pow_succ]; omega
  | til h1 h2 ih1 ih2 =>
    rename_i d f g
    have hp : 1 ≤ 4 ^ d := Nat.pos_of_ne_zero (by simp)
    intro lv fu
    have := sz_til f g _ ih1 ih2 lv fu
    rw [Nat.pow_succ]; omega
  | jn hk hl h ih =>
    rename_i d k l
    have hp : 1 ≤ 4 ^ d := Nat.pos_of_ne_zero (by simp)
    intro lv fu
    have := sz_jn k hk l hl.2 _ ih lv fu
    rw [Nat.pow_succ]; omega
theorem sz_big {d : Nat} {f : Fm} (h : Gf d f) (hd : d ≤ 6) (lv : Int) (fu : Bool) : (showF f lv fu).size ≤ 10000000 := by
  have h1 := sz_gf h lv fu
  have h2 : 4 ^ d ≤ 4 ^ 6 := Nat.pow_le_pow_right (by omega) hd
  have h3 : (4 : Nat) ^ 6 = 4096 := by decide
  omega
theorem sh_gf {d : Nat} {f : Fm} (h : Gf d f) : d ≤ 6 → ShSpec f := by
  induction h with
  | var h1 h2 h3 => exact fun _ => sh_var _ _ _ h1 h2 h3
  | cst b =>
    intro _
    cases b
    · exact sh_or [] (by simp) (by simp) (by simp)
    · exact sh_and [] (by simp) (by simp) (by simp)
  | un hk h ih =>
    intro hd
    have i := ih (by omega)
    have z := sz_big h (by omega)
    rcases hk with rfl | rfl | rfl | rfl
    · exact sh_not _ i z
    · exact sh_next _ i z
    · exact sh_always _ i z
    · exact sh_ev _ i z
  | til h1 h2 ih1 ih2 => exact fun hd => sh_til _ _ (ih1 (by omega)) (ih2 (by omega)) (sz_big h1 (by omega)) (sz_big h2 (by omega))
  | jn hk hl h ih =>
    intro hd
    rcases hk with rfl | rfl
    · exact sh_and _ hl.2 (fun f hf => ih f hf (by omega)) fun f hf => sz_big (h f hf) (by omega)
    · exact sh_or _ hl.2 (fun f hf => ih f hf (by omega)) fun f hf => sz_big (h f hf) (by omega)
theorem rPrint (f : Fm) (h : Gf 3 f) : Spec Tryz.prog 6 [] [.agg (fmA f)] fun _ r => r = strA (showF f 1 false) := by
  have hs := sh_gf h (by omega) 1 false
  generalize showF f 1 false = x at *
  refine spec_of (cx_ok ord0 xs0 0) (fun _ _ h => h) Tryz.func6 rfl (by kernel_rfl) rfl (by kernel_rfl) ?_
  intro _
  conv => whnf
  (refine call0 [] rfl (fun _ => hs) ?_; rintro r rfl; conv => whnf)
  rfl
theorem rFull (f : Fm) (h : Gf 3 f) : Spec Tryz.prog 7 [] [.agg (fmA f)] fun _ r => r = strA (showF f 1 true) := by
  have hs := sh_gf h (by omega) 1 true
  generalize showF f 1 true = x at *
  refine spec_of (cx_ok ord0 xs0 0) (fun _ _ h => h) Tryz.func7 rfl (by kernel_rfl) rfl (by kernel_rfl) ?_
  intro _
  conv => whnf
  (refine call0 [] rfl (fun _ => hs) ?_; rintro r rfl; conv => whnf)
  rfl
end Go.Proofs.YtpjcbadnpknncaaGreatDoor.Vm
/- Short, Broken. -/
namespace Go.Proofs.YtpjcbadnpknncaaGreatDoor.Vm
open Go.RowKit Go.Shelf
set_option linter.unusedSimpArgs false
set_option linter.unusedVariables false
set_option maxRecDepth 100000
theorem short_spec (b : ByteArray) (m : Nat) (hm : m ≤ 1000000000) : Spec Tryz.prog 9 [] [.v (.string b), .v (.int .i64 m)] fun _ r => ∃ x : ByteArray, x.size ≤ m ∧ r = strA x := by
  refine spec_of (cx_ok ord0 xs0 0) (fun _ _ h => h) Tryz.func9 rfl (by kernel_rfl) rfl (by kernel_rfl) ?_
  intro hok
  conv => whnf
  by_cases h : m < b.size
  · refine br_true (b := decide ((m : Int) < (b.size : Int))) (decide_eq_true (by omega)) ?_
    conv => whnf
    refine ⟨by omega, ?_⟩
    conv => whnf
    exact ⟨_, by rw [ByteArray.size_extract]; simp; omega, rfl⟩
  · refine br_false (b := decide ((m : Int) < (b.size : Int))) (decide_eq_false (by omega)) ?_
    conv => whnf
    exact ⟨b, by omega, rfl⟩
theorem ex_sz (s : ByteArray) (i j : Nat) : (s.extract i j).size ≤ s.size := by rw [ByteArray.size_extract]; omega
theorem broken_spec (s : ByteArray) (hs : s.size ≤ 1000000) (at' how : Int) (c : UInt8) : Spec Tryz.prog 10 [] [strA s, intA at', intA how, byteA c] fun _ r => ∃ x : ByteArray, x.size ≤ 2 * s.size + 1 ∧ r = strA x := by
  have ec : (bs [c]).size = 1 := rfl
  refine spec_of (cx_ok ord10 xs0 0) (fun _ _ h => h) Tryz.func10 rfl (by kernel_rfl) rfl (by kernel_rfl) ?_
  intro hok
  conv => whnf
  refine ⟨i64r (by omega), ?_⟩
  conv => whnf
  refine call0 [] rfl (fun _ => around_spec at' ((s.size : Int) + 1) (by omega)) ?_
  rintro r ⟨hn, rfl⟩
  have hkr := aroundF_rng (m := (s.size : Int) + 1) hn (by omega)
  generalize aroundF at' ((s.size : Int) + 1) = k at *
  conv => whnf
  repeat ((with_reducible refine And.intro ?_ ?_); (focus (first | omega | (with_reducible refine i64r ?_; (first | omega | (simp only [List.length_append, List.length_cons, List.length_nil, List.length_map, ByteArray.size_append]; omega) | (dsimp only; omega))) | (with_reducible refine max_le ?_; (first | omega | (simp only [List.length_append, List.length_cons, List.length_nil, List.length_map, ByteArray.size_append]; omega) | (dsimp only; omega))) | ((fail_if_success (with_reducible refine max_le ?_)); decide) | (simp only [List.length_append, List.length_cons, List.length_nil, List.length_map, ByteArray.size_append]; omega) | (dsimp only; omega) | ((with_reducible refine i64r ?_); dsimp only; omega))); (conv => whnf))
  refine ⟨bs [c], rfl, ?_⟩
  conv => whnf
  by_cases h0 : k = s.size
  · rw [decide_eq_true h0]
    conv => whnf
    refine ⟨by unfold maxLen; omega, ?_⟩
    conv => whnf
    exact ⟨_, by rw [ByteArray.size_append]; omega, rfl⟩
  · rw [decide_eq_false h0]
    conv => whnf
    refine call0 [] rfl (fun _ => around_spec how 4 (by omega)) ?_
    rintro r ⟨_, rfl⟩
    generalize aroundF how 4 = j at *
    have e1 := ex_sz s (Int.toNat 0) k.toNat
    have e2 := ex_sz s (k + 1).toNat (Int.toNat (s.size : Int))
    have e3 := ex_sz s k.toNat (Int.toNat (s.size : Int))
    conv => whnf
    by_cases j0 : j = 0
    · rw [decide_eq_true j0]
      conv => whnf
      refine ⟨by omega, ?_⟩
      conv => whnf
      refine ⟨by (try simp only [ByteArray.size_append]); unfold maxLen; omega, ?_⟩
      conv => whnf
      refine ⟨i64r (by omega), ?_⟩
      conv => whnf
      refine ⟨by omega, ?_⟩
      conv => whnf
      refine ⟨by (try simp only [ByteArray.size_append]); unfold maxLen; omega, ?_⟩
      conv => whnf
      exact ⟨_, by (try simp only [ByteArray.size_append]); omega, rfl⟩
    · rw [decide_eq_false j0]
      conv => whnf
      by_cases j1 : j = 1
      · rw [decide_eq_true j1]
        conv => whnf
        refine ⟨by omega, ?_⟩
        conv => whnf
        refine ⟨i64r (by omega), ?_⟩
        conv => whnf
        refine ⟨by omega, ?_⟩
        conv => whnf
        refine ⟨by (try simp only [ByteArray.size_append]); unfold maxLen; omega, ?_⟩
        conv => whnf
        exact ⟨_, by (try simp only [ByteArray.size_append]); omega, rfl⟩
      · rw [decide_eq_false j1]
        conv => whnf
        by_cases j2 : j = 2
        · rw [decide_eq_true j2]
          conv => whnf
          refine ⟨by omega, ?_⟩
          conv => whnf
          exact ⟨_, by (try simp only [ByteArray.size_append]); omega, rfl⟩
        · rw [decide_eq_false j2]
          conv => whnf
          refine ⟨by omega, ?_⟩
          conv => whnf
          refine ⟨by (try simp only [ByteArray.size_append]); unfold maxLen; omega, ?_⟩
          conv => whnf
          refine ⟨by omega, ?_⟩
          conv => whnf
          refine ⟨by (try simp only [ByteArray.size_append]); unfold maxLen; omega, ?_⟩
          conv => whnf
          exact ⟨_, by (try simp only [ByteArray.size_append]); omega, rfl⟩
end Go.Proofs.YtpjcbadnpknncaaGreatDoor.Vm
/- The law LtlParses. -/
namespace Go.Proofs.YtpjcbadnpknncaaGreatDoor.Vm
open Go.RowKit Go.Shelf
set_option linter.unusedSimpArgs false
set_option linter.unusedVariables false
set_option maxRecDepth 100000
theorem parses_law_spec (raw : ByteArray) (l : List Int) (at' how : Int) (c : UInt8) : Spec Tryz.prog 3 [] [strA raw, .sl 1 l.length (intsA l), intA at', intA how, byteA c] fun _ r => r = boolA true := by
  have h5 := lives_spec
  refine spec_of (cx_ok ord0 xs0 0) (fun _ _ h => h) Tryz.func3 rfl (by kernel_rfl) rfl (by kernel_rfl) ?_
  intro hok
  conv => whnf
  refine call0 [] rfl (fun _ => rFormula l) ?_
  rintro r ⟨f, hf, rfl⟩
  have h1 := rPrint f hf
  have h2 := rFull f hf
  have z1 := sz_gf hf 1 false
  have z2 := sz_gf hf 1 true
  generalize showF f 1 false = x at *
  generalize showF f 1 true = y at *
  have e4 : 60 * 4 ^ 3 ≤ 10000 := by decide
  have b1 := broken_spec x (by omega) at' how c
  have b2 := broken_spec y (by omega) at' how c
  conv => whnf
  (refine call0 [] rfl (fun _ => h1) ?_; rintro r rfl; conv => whnf)
  (refine call0 [] rfl (fun _ => h2) ?_; rintro r rfl; conv => whnf)
  refine call0 [] rfl (fun _ => short_spec raw 120 (by decide)) ?_
  rintro r ⟨sh, hsh, rfl⟩
  conv => whnf
  (refine call0 [] rfl (fun _ => parses_spec sh (by omega)) ?_; rintro r rfl; conv => whnf)
  (refine call0 [] rfl (fun _ => parses_spec x (by omega)) ?_; rintro r rfl; conv => whnf)
  (refine call0 [] rfl (fun _ => parses_spec y (by omega)) ?_; rintro r rfl; conv => whnf)
  refine call0 [] rfl (fun _ => b1) ?_
  rintro r ⟨u, hu, rfl⟩
  conv => whnf
  (refine call0 [] rfl (fun _ => parses_spec u (by omega)) ?_; rintro r rfl; conv => whnf)
  refine call0 [] rfl (fun _ => b2) ?_
  rintro r ⟨v, hv, rfl⟩
  conv => whnf
  (refine call0 [] rfl (fun _ => parses_spec v (by omega)) ?_; rintro r rfl; conv => whnf)
  (refine call0 [] rfl (fun _ => h5) ?_; rintro r rfl; conv => whnf)
  rfl
end Go.Proofs.YtpjcbadnpknncaaGreatDoor.Vm
