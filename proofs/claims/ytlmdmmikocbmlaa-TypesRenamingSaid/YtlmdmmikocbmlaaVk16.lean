/- Decimal; TypesRenaming. -/
import Derived.Test.YtlmdmmikocbmlaaVk15
namespace Go.Proofs.Ytlmdmmikocbmlaa.Vm
open Go.RowKit
set_option linter.unusedSimpArgs false
set_option linter.unusedVariables false
set_option maxRecDepth 100000
theorem decimal_spec (n : Int) (h0 : 0 ≤ n) (h1 : n < 10) : Spec Try.prog 21 [] [.v (.int .i64 n)] fun _ r => ∃ s : ByteArray, s.size ≤ 1 ∧ r = .v (.string s) := by
  refine spec_of (cx_ok ord0 xs0 0) Try.func21 rfl (by kernel_rfl) rfl (by kernel_rfl) ?_
  intro hok
  conv => whnf
  cases hz : decide (n = 0)
  · conv => whnf
    refine loop_keep [0, 3] ?_
    conv => whnf
    refine loop_go (fun x : Int × ByteArray => [(4, .v (.string x.2)), (5, .v (.int .i64 x.1))]) (fun _ => []) (fun _ => []) (fun x => 0 ≤ x.1 ∧ x.1 < 10 ∧ x.2.size ≤ 1 ∧ (x.1 ≠ 0 → x.2.size = 0)) (fun x => x.1.toNat) (n, ⟨#[]⟩) ?_ ⟨h0, h1, by show (0 : Nat) ≤ 1; omega, fun _ => rfl⟩ ?_
    · repeat' constructor
    · rintro ⟨k, s⟩ ⟨h2, h3, h4, h5⟩
      simp only at h2 h3 h4 h5
      conv => whnf
      by_cases hk : k = 0
      · refine br_false (by simpa using hk) ?_
        conv => whnf
        refine br_false (by simp; omega) ?_
        conv => whnf
        exact ⟨s, h4, rfl⟩
      · refine br_true (by simpa using hk) ?_
        conv => whnf
        refine ⟨by omega, ?_⟩
        conv => whnf
        have hm : k.tmod 10 = k := Int.tmod_eq_of_lt h2 h3
        have hq : k.tdiv 10 = 0 := Int.tdiv_eq_zero_of_lt h2 h3
        rw [show decide ((k, s).fst.tmod 10 < 0) = false from by simp only [hm, decide_eq_false_iff_not]; omega]
        conv => whnf
        refine ⟨i64r (by simp only [hm]; omega), ?_⟩
        conv => whnf
        refine ⟨⟨by simp only [hm]; omega, by omega, by simp only [hm]; show k + 1 ≤ (10 : Int); omega⟩, ?_⟩
        conv => whnf
        have he : (ByteArray.extract ⟨#[48, 49, 50, 51, 52, 53, 54, 55, 56, 57]⟩ ((k, s).fst.tmod 10).toNat ((k, s).fst.tmod 10 + 1).toNat).size ≤ 1 := by
          rw [ByteArray.size_extract]
          simp only [hm]
          omega
        have hs0 := h5 hk
        refine ⟨by unfold maxLen; simp only at he ⊢; omega, ?_⟩
        conv => whnf
        refine ⟨by omega, ?_⟩
        conv => whnf
        refine ⟨i64r (by simp only [hq]; omega), ?_⟩
        conv => whnf
        refine ⟨(k.tdiv 10, ByteArray.extract ⟨#[48, 49, 50, 51, 52, 53, 54, 55, 56, 57]⟩ ((k, s).fst.tmod 10).toNat ((k, s).fst.tmod 10 + 1).toNat ++ s), le_head ?_, ⟨by simp only [hq]; omega, by simp only [hq]; omega, by simp only [ByteArray.size_append]; simp only at he; omega, fun e => absurd hq e⟩, by simp only [hq]; omega⟩
        repeat' constructor
  · conv => whnf
    exact ⟨_, Nat.le_refl _, rfl⟩
mutual
theorem smallN_ren (x : ByteArray) : ∀ t : Nd, smallN t → smallN (renF x t)
  | .mk k n s kids, h => by
    unfold smallN at h
    unfold renF smallN
    refine ⟨by rw [renFs_map, List.length_map]; exact h.1, smallNs_ren x kids h.2⟩
theorem smallNs_ren (x : ByteArray) : ∀ l : List Nd, smallNs l → smallNs (renFs x l)
  | [], _ => by unfold renFs smallNs; trivial
  | t :: ts, h => by
    unfold smallNs at h
    unfold renFs smallNs
    exact ⟨smallN_ren x t h.1, smallNs_ren x ts h.2⟩
end
theorem pickF_short {p : Nat → Bool} {s : ByteArray} (h : s ∈ pickF p 10) : s.size ≤ 2 := by
  unfold pickF at h
  obtain ⟨i, hi, rfl⟩ := List.mem_map.1 h
  have := List.mem_range.1 (List.mem_filter.1 hi).1
  exact nameF_size _ (by omega) (by omega)
theorem unit_short {d v : List ByteArray} {on : List (Int × Nd)} (hu : UnitG ⟨d, v, on⟩) : (∀ s ∈ d, s.size ≤ 2) ∧ ∀ s ∈ v, s.size ≤ 2 := by
  obtain ⟨sk, sp, h1, h2⟩ := hu.vars
  simp only at h1 h2
  exact ⟨fun s hs => pickF_short (h1 ▸ hs), fun s hs => pickF_short (h2 ▸ hs)⟩
theorem ren_hrow {e : Nat} {sfx : ByteArray} {on : List (Int × Nd)} {j : Nat} (hj : j < on.length) :
    Row.live e 5 (j + 1) (hsL ((on.take j).map fun h => (h.1, renF sfx h.2)) ++ (.v (.int .i64 on[j].1) :: ndL (renF sfx on[j].2))) = Row.live e 5 (j + 1) (hsL ((on.take (j + 1)).map fun h => (h.1, renF sfx h.2))) := by
  rw [List.take_succ_eq_append_getElem hj, List.map_append]
  unfold hsL
  rw [List.flatMap_append]
  simp
theorem renaming_spec (l : List Int) (digit : Int) : Spec Try.prog 8 [] [.sl 1 l.length (intsA l), .v (.int .i64 digit)] fun _ r => r = boolA true := by
  refine spec_of (cx_ok ord8 xs0 0) Try.func8 rfl (by kernel_rfl) rfl (by kernel_rfl) ?_
  intro hok
  have hwb : -9223372036854775808 ≤ digit ∧ digit ≤ 9223372036854775807 := okA_int.1 (okL_mem hok (by simp))
  have hrng := aroundF_rng digit 10 (by omega)
  conv => whnf
  refine call0 [] rfl (fun _ => unit_spec' l) ?_
  rintro r ⟨d, v, on, hu, rfl⟩
  have hsm := unitG_small hu
  obtain ⟨hdl, hvl⟩ := unit_lens hu
  obtain ⟨hds, hvs⟩ := unit_short hu
  have hol := hu.len
  simp only at hol
  conv => whnf
  refine call0 [] rfl (fun _ => around_spec digit 10 hwb (by omega)) ?_
  rintro r rfl
  conv => whnf
  refine call0 [] rfl (fun _ => decimal_spec (aroundF digit 10) hrng.1 hrng.2) ?_
  rintro r ⟨sfx, hsz, rfl⟩
  have hrd := renamed_spec d sfx (by omega) (fun x hx => by have := hds x hx; unfold maxLen; omega)
  have hrv := renamed_spec v sfx (by omega) (fun x hx => by have := hvs x hx; unfold maxLen; omega)
  have hcs := check_spec _ hsm
  have hcx : Spec Try.prog 16 [] [.agg (unL' ⟨v, d, on⟩)] fun _ r => r = intA (checkF ⟨v, d, on⟩) := check_spec _ ⟨hsm.2.1, hsm.1, hsm.2.2.1, hsm.2.2.2⟩
  have hsmR : smallU ⟨d.map (· ++ sfx), v.map (· ++ sfx), on.map fun h => (h.1, renF sfx h.2)⟩ := ⟨by simpa using hsm.1, by simpa using hsm.2.1, by simpa using hsm.2.2.1, fun x hx => by
    obtain ⟨y, hy, rfl⟩ := List.mem_map.1 hx
    exact smallN_ren sfx _ (hsm.2.2.2 y hy)⟩
  have hcr := check_spec _ hsmR
  have hir := fun s => index_spec _ (s ++ sfx) hsmR
  have hiu := fun s => index_spec _ s hsm
  rw [swap_law] at hcx
  rw [ren_law] at hcr
  simp only [index_ren] at hir
  unfold unL' at hcs hcx hcr hir hiu
  simp only [List.length_map] at hcs hcx hcr hir hiu
  generalize d.map (· ++ sfx) = dR at *
  generalize v.map (· ++ sfx) = vR at *
  generalize checkF ⟨d, v, on⟩ = cu at *
  conv => whnf
  apply join_eq
  · conv => whnf
    refine ⟨?_, ?_⟩
    · conv => whnf
      refine call0 [] rfl (fun _ => hrd) ?_
      rintro r rfl
      conv => whnf
      refine ⟨?_, ?_⟩
      · conv => whnf
        refine call0 [] rfl (fun _ => hrv) ?_
        rintro r rfl
        conv => whnf
      · conv => whnf
        refine call0 [] rfl (fun _ => hrv) ?_
        rintro r rfl
        conv => whnf
    · conv => whnf
      refine call0 [] rfl (fun _ => hrd) ?_
      rintro r rfl
      conv => whnf
      refine call0 [] rfl (fun _ => hrv) ?_
      rintro r rfl
      conv => whnf
  conv => whnf
  refine loop_row 46 5 [] [(1, 2)] ?_
  conv => whnf
  refine ⟨trivial, ?_⟩
  conv => whnf
  refine loop_keep [4, 5, 6, 7] ?_
  conv => whnf
  refine loop_go (fun j : Nat => [(8, .v (.int .i64 j))])
    (fun _ => [[.sl 1 d.length (strsA d), .sl 1 v.length (strsA v), .sl 5 on.length (hsL on)], [.sl 1 d.length (strsA dR), .sl 1 v.length (strsA vR), .own 0]])
    (fun j => [.live 46 5 j (hsL ((on.take j).map fun h => (h.1, renF sfx h.2)))]) (fun j => j ≤ on.length) (fun j => on.length - j) 0 ?_ (Nat.zero_le _) ?_
  · repeat' constructor
  · intro j hj
    conv => whnf
    by_cases hlt : j < on.length
    · refine br_true (by simp; omega) ?_
      conv => whnf
      refine ⟨⟨by omega, by omega⟩, ?_⟩
      conv => whnf
      rw [show rowOf 5 (Int.toNat (j : Int)) (hsL on) = _ from rowOf_hs' on j hlt]
      conv => whnf
      refine ⟨⟨by omega, by omega⟩, ?_⟩
      conv => whnf
      rw [show rowOf 5 (Int.toNat (j : Int)) (hsL on) = _ from rowOf_hs' on j hlt]
      conv => whnf
      have hgd := genB_st (hu.on on[j] (List.getElem_mem hlt))
      have hrn := ren_all sfx (by omega) on[j].2 hgd.good (short_genB (hu.on on[j] (List.getElem_mem hlt)))
      rw [ndL_eq on[j].2] at hrn
      refine call0 [] rfl (fun _ => hrn) ?_
      rintro r rfl
      rw [ndL_eq (renF sfx on[j].2)]
      conv => whnf
      refine ⟨⟨by unfold maxLen; omega, by omega⟩, ?_⟩
      conv => whnf
      refine ⟨i64r (by omega), ?_⟩
      conv => whnf
      refine ⟨j + 1, le_head ?_, hlt, by omega⟩
      repeat' constructor
      have hrow := ren_hrow (e := 46) (sfx := sfx) hlt
      rw [ndL_eq (renF sfx on[j].2)] at hrow
      exact hrow
    · refine br_false (by simp; omega) ?_
      obtain rfl : j = on.length := by omega
      rw [List.take_length]
      conv => whnf
      refine loop_pub [0] ?_
      conv => whnf
      refine loop_keep [4, 5, 6, 7, 9] ?_
      conv => whnf
      refine loop_go (fun i : Nat => [(10, .v (.int .i64 i))])
        (fun _ => [[.sl 1 d.length (strsA d), .sl 1 v.length (strsA v), .sl 5 on.length (hsL on)], [.sl 1 d.length (strsA dR), .sl 1 v.length (strsA vR), .sl 5 on.length (hsL (on.map fun h => (h.1, renF sfx h.2)))], [.sl 1 v.length (strsA v), .sl 1 d.length (strsA d), .sl 5 on.length (hsL on)]])
        (fun _ => []) (fun i => i ≤ 10) (fun i => 10 - i) 0 ?_ (Nat.zero_le _) ?_
      · repeat' constructor
      · intro i hi
        conv => whnf
        by_cases hil : i < 10
        · refine br_true (by simp; omega) ?_
          conv => whnf
          have hsn := name_spec (i : Int) (by omega)
          rw [around10 hil] at hsn
          have hns := nameF_size (i : Int) (by omega) (by omega)
          refine call0 [] rfl (fun _ => hsn) ?_
          rintro r rfl
          conv => whnf
          refine ⟨by unfold maxLen; omega, ?_⟩
          conv => whnf
          refine call0 [] rfl (fun _ => hir (nameF (i : Int))) ?_
          rintro r rfl
          conv => whnf
          refine call0 [] rfl (fun _ => hsn) ?_
          rintro r rfl
          conv => whnf
          refine call0 [] rfl (fun _ => hiu (nameF (i : Int))) ?_
          rintro r rfl
          generalize indexF d v (nameF (i : Int)) = z
          conv => whnf
          rw [show decide (z = z) = true from decide_eq_true rfl]
          conv => whnf
          refine ⟨i64r (by omega), ?_⟩
          conv => whnf
          refine ⟨i + 1, le_head ?_, hil, by omega⟩
          repeat' constructor
        · refine br_false (by simp; omega) ?_
          conv => whnf
          refine call0 [] rfl (fun _ => hcr) ?_
          rintro r rfl
          conv => whnf
          refine call0 [] rfl (fun _ => hcs) ?_
          rintro r rfl
          conv => whnf
          rw [show decide (cu = cu) = true from decide_eq_true rfl]
          conv => whnf
          refine call0 [] rfl (fun _ => hcx) ?_
          rintro r rfl
          conv => whnf
          refine call0 [] rfl (fun _ => hcs) ?_
          rintro r rfl
          conv => whnf
          rw [show decide (cu = cu) = true from decide_eq_true rfl]
          conv => whnf
          refine call0 [] rfl (fun _ => lives_spec) ?_
          rintro r rfl
          conv => whnf
          rfl
end Go.Proofs.Ytlmdmmikocbmlaa.Vm
