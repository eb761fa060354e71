/- The reference's Check. -/
import Derived.Test.YtlmdmmikocbmlaaVk4
namespace Go.Proofs.Ytlmdmmikocbmlaa.Vm
open Go.RowKit
set_option linter.unusedSimpArgs false
set_option linter.unusedVariables false
set_option maxRecDepth 100000
def rbadF (u : Un) (t : Nd) : Bool := !rwellF t || (nmF t []).any (fun s => decide (indexF u.d u.v s < 0))
def rcheckF (u : Un) : Int := if u.on.any (fun h => rbadF u h.2) then 11 else 0
theorem rcheckF_hit {u : Un} {k : Nat} (hk : k < u.on.length) (h : rbadF u u.on[k].2 = true) : rcheckF u = 11 := by
  unfold rcheckF
  rw [if_pos]
  exact List.any_eq_true.2 ⟨_, List.getElem_mem hk, h⟩
theorem rcheckF_miss {u : Un} (h : ∀ j (hj : j < u.on.length), rbadF u u.on[j].2 = false) : rcheckF u = 0 := by
  unfold rcheckF
  rw [if_neg]
  intro hc
  obtain ⟨x, hx, hb⟩ := List.any_eq_true.1 hc
  obtain ⟨i, hi, rfl⟩ := List.mem_iff_getElem.1 hx
  rw [h i hi] at hb
  cases hb
theorem rbad_well {u : Un} {t : Nd} (h : rwellF t = false) : rbadF u t = true := by unfold rbadF; rw [h]; rfl
theorem rbad_name {u : Un} {t : Nd} {j : Nat} {nm : List ByteArray} (hn : nmF t [] = nm) (hj : j < nm.length) (h : indexF u.d u.v nm[j] < 0) : rbadF u t = true := by
  unfold rbadF
  rw [hn, Bool.or_eq_true]
  exact .inr (List.any_eq_true.2 ⟨_, List.getElem_mem hj, by simpa using h⟩)
theorem rbad_good {u : Un} {t : Nd} {nm : List ByteArray} (hn : nmF t [] = nm) (hw : rwellF t = true) (h : ∀ j (hj : j < nm.length), ¬ indexF u.d u.v nm[j] < 0) : rbadF u t = false := by
  unfold rbadF
  rw [hn, hw, Bool.or_eq_false_iff]
  refine ⟨rfl, ?_⟩
  rw [List.any_eq_false]
  intro x hx
  obtain ⟨i, hi, rfl⟩ := List.mem_iff_getElem.1 hx
  simpa using h i hi
theorem rowOf_hs' (l : List (Int × Nd)) (i : Nat) (hi : i < l.length) : rowOf 5 i (hsL l) = [.v (.int .i64 l[i].1), .v (.int .i64 l[i].2.k), .v (.int .i64 l[i].2.n), .v (.string l[i].2.s), .sl 4 l[i].2.kids.length (ndsL l[i].2.kids)] := by rw [rowOf_hs l i hi, ndL_eq]
theorem names_nil (t : Nd) (hs : smallN t) (hc : cntN t ≤ 1000000) : Spec Try.prog 28 [] [.agg (ndL t), .v (.slice none 0 0)] fun _ r => r = .sl 1 (nmF t []).length (strsA (nmF t [])) := by
  refine spec_args (args := [.agg (ndL t), .sl 1 0 []]) (fun E us h => ?_) (names_all t [] hs (by simpa using hc))
  unfold A.repL at h ⊢
  obtain ⟨u, us', rfl, h1, h2⟩ := h
  refine ⟨u, us', rfl, h1, ?_⟩
  unfold A.repL at h2 ⊢
  obtain ⟨u2, us2, rfl, h3, h4⟩ := h2
  exact ⟨u2, us2, rfl, nil_sl h3, h4⟩
theorem rcheck_spec (u : Un) (hs : smallU u) (hg : ∀ h ∈ u.on, goodN h.2 ∧ cntN h.2 ≤ 1000000) : Spec Try.prog 17 [] [.agg (unL' u)] fun _ r => r = intA (rcheckF u) := by
  have hix := fun s => rindex_spec u s hs
  generalize hres : rcheckF u = res at *
  generalize hixf : indexF u.d u.v = ix at *
  obtain ⟨d, v, on⟩ := u
  unfold unL' at hix
  simp only at hix
  obtain ⟨h1, h2, h3, h4⟩ := hs
  simp only at h1 h2 h3 h4 hg hixf
  refine spec_of (cx_ok ord17 xs0 0) Try.func17 rfl (by kernel_rfl) rfl (by kernel_rfl) ?_
  intro hok
  conv => whnf
  refine loop_keep [1, 2] ?_
  conv => whnf
  refine loop_go (fun k : Nat => [(3, .v (.int .i64 k))]) (fun _ => [[.sl 1 d.length (strsA d), .sl 1 v.length (strsA v), .sl 5 on.length (hsL on)]]) (fun _ => []) (fun k => k ≤ on.length ∧ ∀ j (hj : j < on.length), j < k → rbadF ⟨d, v, on⟩ on[j].2 = false) (fun k => on.length - k) 0 ?_ ⟨Nat.zero_le _, fun j hj h => absurd h (by omega)⟩ ?_
  · repeat' constructor
  · rintro k ⟨hk, hno⟩
    conv => whnf
    by_cases hlt : k < on.length
    · refine br_true (by simp; omega) ?_
      conv => whnf
      refine ⟨⟨by omega, by omega⟩, ?_⟩
      conv => whnf
      rw [show rowOf 5 (Int.toNat (k : Int)) (hsL on) = _ from rowOf_hs' on k hlt]
      conv => whnf
      obtain ⟨hgk, hck⟩ := hg on[k] (List.getElem_mem hlt)
      have hsp := rwell_all on[k].2 hgk
      rw [ndL_eq] at hsp
      refine call0 [] rfl (fun _ => hsp) ?_
      rintro r rfl
      cases hw : rwellF on[k].2
      · conv => whnf
        show _ = intA res
        rw [← hres, rcheckF_hit (u := ⟨d, v, on⟩) hlt (rbad_well hw)]; rfl
      · conv => whnf
        refine ⟨⟨by omega, by omega⟩, ?_⟩
        conv => whnf
        rw [show rowOf 5 (Int.toNat (k : Int)) (hsL on) = _ from rowOf_hs' on k hlt]
        conv => whnf
        have hsn := names_nil on[k].2 (good_small _ hgk) hck
        rw [ndL_eq] at hsn
        refine call0 [] rfl (fun _ => hsn) ?_
        rintro r rfl
        have hnl := nmF_len on[k].2 []
        generalize hnm : nmF on[k].2 [] = nm at *
        simp only [List.length_nil, Nat.zero_add] at hnl
        conv => whnf
        refine loop_keep [1, 2, 3, 5] ?_
        conv => whnf
        refine loop_go (fun j : Nat => [(6, .v (.int .i64 j))]) (fun _ => [[.sl 1 d.length (strsA d), .sl 1 v.length (strsA v), .sl 5 on.length (hsL on)]]) (fun _ => []) (fun j => j ≤ nm.length ∧ ∀ i (hi : i < nm.length), i < j → ¬ ix nm[i] < 0) (fun j => nm.length - j) 0 ?_ ⟨Nat.zero_le _, fun j hj h => absurd h (by omega)⟩ ?_
        · repeat' constructor
        · rintro j ⟨hj, hnj⟩
          conv => whnf
          by_cases hjl : j < nm.length
          · refine br_true (by simp; omega) ?_
            conv => whnf
            refine ⟨⟨by omega, by omega⟩, ?_⟩
            conv => whnf
            rw [show rowOf 1 (Int.toNat (j : Int)) (strsA nm) = [.v (.string nm[j])] from rowOf_strs nm j hjl]
            conv => whnf
            refine call0 [] rfl (fun _ => hix nm[j]) ?_
            rintro r rfl
            conv => whnf
            by_cases hneg : ix nm[j] < 0
            · refine br_true (by simpa using hneg) ?_
              conv => whnf
              show _ = intA res
              rw [← hres, rcheckF_hit (u := ⟨d, v, on⟩) hlt (rbad_name hnm hjl (by rw [hixf]; exact hneg))]; rfl
            · refine br_false (by simpa using hneg) ?_
              conv => whnf
              refine ⟨i64r (by omega), ?_⟩
              conv => whnf
              refine ⟨j + 1, le_head ?_, ⟨hjl, fun i hi h => ?_⟩, by omega⟩
              · repeat' constructor
              · by_cases hij : i = j
                · subst hij; exact hneg
                · exact hnj i hi (by omega)
          · refine br_false (by simp; omega) ?_
            conv => whnf
            refine ⟨i64r (by omega), ?_⟩
            conv => whnf
            refine ⟨k + 1, le_head ?_, ⟨hlt, fun i hi h => ?_⟩, by omega⟩
            · repeat' constructor
            · by_cases hik : i = k
              · subst hik
                exact rbad_good (u := ⟨d, v, on⟩) hnm hw (fun q hq => by rw [hixf]; exact hnj q hq (by omega))
              · exact hno i hi (by omega)
    · refine br_false (by simp; omega) ?_
      conv => whnf
      show _ = intA res
      rw [← hres, rcheckF_miss (u := ⟨d, v, on⟩) (fun j hj => hno j hj (by simp at hj; omega))]; rfl
end Go.Proofs.Ytlmdmmikocbmlaa.Vm
