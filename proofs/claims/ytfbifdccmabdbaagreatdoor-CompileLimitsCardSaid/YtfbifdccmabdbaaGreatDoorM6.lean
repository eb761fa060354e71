/- Texts 6 of the proof: C10, C19, C21, C20, Ta, C22. -/
import Derived.Test.YtfbifdccmabdbaaGreatDoorM5
namespace Go.Proofs.YtfbifdccmabdbaaGreatDoor.Vm
open Go.RowKit Go.Shelf
set_option linter.unusedSimpArgs false
set_option linter.unusedVariables false
set_option maxRecDepth 100000
theorem brC_size {c y n : Int → List Ic} {a b d : Nat} (h1 : ∀ at' : Int, (c at').length ≤ a) (h2 : ∀ at' : Int, (y at').length ≤ b) (h3 : ∀ at' : Int, (n at').length ≤ d) (at' : Int) : (brC c y n at').length ≤ a + b + d + 2 := by
 unfold brC
 simp only [List.length_append, List.length_cons]
 have q1 := h1 at'
 have q2 := h2 (at' + (c at').length + 1)
 have q3 := h3 (at' + (c at').length + 1 + (y (at' + (c at').length + 1)).length + 1)
 omega
theorem opC_size (s : ByteArray) : (opC s).length ≤ 2 := by
 unfold opC
 repeat' split
 all_goals decide
theorem szNs_sum : ∀ l : List Nt, szNs l = (l.map szN).sum
 | [] => rfl
 | f :: l => by rw [List.map_cons, List.sum_cons, ← szNs_sum l]; rfl
theorem node_of (u : Ut) (k n : Int) (s : ByteArray) (kids : List Nt) (l : List Ic) (r : List Ic) (c : Nat) (hc : k = 17 ∧ c = 76 ∨ k = 18 ∧ c = 77 ∨ k = 2 ∧ c = 78 ∨ k = 3 ∧ c = 79 ∨ k = 11 ∧ c = 80 ∨ (k ≠ 17 ∧ k ≠ 18 ∧ k ≠ 2 ∧ k ≠ 3 ∧ k ≠ 11) ∧ c = 81)
  (h : SpecC c [cbx u] l [.box 0 0, .agg (ntA (.mk k n s kids))] fun o l' q => o = [cbx u] ∧ l' = l ++ r ∧ q = .tup []) : SpecC 39 [cbx u] l [.box 0 0, .agg (ntA (.mk k n s kids))] fun o l' q => o = [cbx u] ∧ l' = l ++ r ∧ q = .tup [] := by
 rw [nt_cells] at h ⊢
 rcases hc with ⟨rfl, rfl⟩ | ⟨rfl, rfl⟩ | ⟨rfl, rfl⟩ | ⟨rfl, rfl⟩ | ⟨rfl, rfl⟩ | ⟨⟨k1, k2, k3, k4, k5⟩, rfl⟩
 all_goals
  refine specR_of (cx_ok ord0 xs0 1) (fun _ _ h => h) Tryz.func39 rfl (by kernel_rfl) rfl (by kernel_rfl) ?_
  intro _
  conv => whnf
 all_goals try
  refine callR1 0 0 2 [] rfl rfl rfl rfl rfl rfl rfl (fun _ => h) ?_
  rintro o n' cs' r ⟨l2, rfl, rfl, ho, hl2, rfl⟩
  cases ho
  conv => whnf
  refine ⟨2, ?_⟩
  conv => whnf
  exact ⟨l2, rfl, rfl, rfl, hl2, rfl⟩
 rw [decide_eq_false k1]
 conv => whnf
 rw [decide_eq_false k2]
 conv => whnf
 rw [decide_eq_false k3]
 conv => whnf
 rw [decide_eq_false k4]
 conv => whnf
 rw [decide_eq_false k5]
 conv => whnf
 refine callR1 0 0 2 [] rfl rfl rfl rfl rfl rfl rfl (fun _ => h) ?_
 rintro o n' cs' r ⟨l2, rfl, rfl, ho, hl2, rfl⟩
 cases ho
 conv => whnf
 refine ⟨2, ?_⟩
 conv => whnf
 exact ⟨l2, rfl, rfl, rfl, hl2, rfl⟩
theorem any_mem {l : List ByteArray} {s : ByteArray} (h : (l.any fun x => decide (s = x)) = true) : s ∈ l := by
 rw [List.any_eq_true] at h
 obtain ⟨x, h1, h2⟩ := h
 rw [decide_eq_true_eq] at h2
 rw [h2]; exact h1
theorem opAll_bin {s : ByteArray} (h : (opAll.any fun x => decide (s = x)) = true) (h1 : s ≠ pAnd) (h2 : s ≠ pOr) : (opBin.any fun x => decide (s = x)) = true := by
 have h := any_mem h
 unfold opAll at h
 simp only [List.mem_cons, List.not_mem_nil, or_false] at h
 rcases h with h | h | h | h | h | h | h | h | h | h | h | h
 ·exact absurd h h1
 ·exact absurd h h2
 all_goals (rw [h]; decide)
theorem node_all (u : Ut) (hu : WfU u) : ∀ f : Nt, wfN f → NodeE u f
 | .mk k n s kids, hw => by
  unfold wfN at hw
  obtain ⟨ha, hwk⟩ := hw
  have hm := ar_len ha
  have hk : ∀ f ∈ kids, NodeE u f := fun f hf => node_all u hu f (wfNs_mem hwk hf)
  have hsq := fun at' => seq_size (u := u) kids at' hk
  have hss := szNs_sum kids
  unfold NodeE
  show (∀ at' : Int, (bodyC (ixU u) k n s (codeNs (ixU u) kids) at').length ≤ 3 + szNs kids) ∧ ∀ l : List Ic, l.length + (3 + szNs kids) ≤ 1000000 → SpecC _ [cbx u] l _ fun o l' r => o = [cbx u] ∧ l' = l ++ bodyC (ixU u) k n s (codeNs (ixU u) kids) l.length ∧ r = .tup []
  have lf : ∀ (hc : k = 12 ∨ k = 13 ∨ k = 14 ∨ k = 15 ∧ (builtL.any fun x => decide (s = x)) = true ∨ k = 1 ∨ k = 4 ∨ k = 5 ∨ k = 6 ∨ k = 16 ∨ k = 7 ∨ k = 10 ∨ k = 8 ∨ k = 9), (∀ at', bodyC (ixU u) k n s (codeNs (ixU u) kids) at' = seqC (codeNs (ixU u) kids) at' ++ [leafI (ixU u) k n s]) → (∀ at' : Int, (bodyC (ixU u) k n s (codeNs (ixU u) kids) at').length ≤ 3 + szNs kids) ∧ ∀ l : List Ic, l.length + (3 + szNs kids) ≤ 1000000 → SpecC 39 [cbx u] l [.box 0 0, .agg (ntA (.mk k n s kids))] fun o l' r => o = [cbx u] ∧ l' = l ++ bodyC (ixU u) k n s (codeNs (ixU u) kids) l.length ∧ r = .tup [] := fun hc he => by
   refine ⟨fun at' => ?_, fun l hl => ?_⟩
   ·have := hsq at'
    rw [he, List.length_append, List.length_singleton]; omega
   ·have h1 := leaf_spec u hu k n s kids hm hk hc l (by omega)
    rw [List.append_assoc, ← he] at h1
    refine node_of u k n s kids l _ _ (.inr (.inr (.inr (.inr (.inr ⟨?_, rfl⟩))))) h1
    omega
  unfold arN at ha
  by_cases h11 : k = 11
  ·subst h11
   have he : ∀ at', bodyC (ixU u) 11 n s (codeNs (ixU u) kids) at' = seqC (codeNs (ixU u) kids) at' := fun at' => List.append_nil _
   refine ⟨fun at' => by rw [he]; have := hsq at'; omega, fun l hl => ?_⟩
   rw [he]
   exact node_of u 11 n s kids l _ _ (.inr (.inr (.inr (.inr (.inl ⟨rfl, rfl⟩))))) (kids_spec u 11 n s kids hm hk l (by omega))
  rw [if_neg h11] at ha
  by_cases h0 : k = 12 ∨ k = 13 ∨ k = 14 ∨ k = 5 ∨ k = 6 ∨ k = 7 ∨ k = 10
  ·rw [if_pos h0, decide_eq_true_eq] at ha
   obtain rfl := List.eq_nil_of_length_eq_zero ha
   rcases h0 with rfl | rfl | rfl | rfl | rfl | rfl | rfl
   all_goals exact lf (by omega) fun at' => rfl
  rw [if_neg h0] at ha
  by_cases h15 : k = 15
  ·rw [if_pos h15, Bool.and_eq_true, decide_eq_true_eq] at ha
   subst h15
   obtain ⟨ha, hb⟩ := ha
   obtain rfl := List.eq_nil_of_length_eq_zero ha
   exact lf (.inr (.inr (.inr (.inl ⟨rfl, hb⟩)))) fun at' => rfl
  rw [if_neg h15] at ha
  by_cases h1 : k = 16 ∨ k = 1 ∨ k = 9
  ·rcases h1 with rfl | rfl | rfl
   all_goals exact lf (by omega) fun at' => rfl
  rw [if_neg h1] at ha
  by_cases h17 : k = 17
  ·subst h17
   have he : ∀ at', bodyC (ixU u) 17 n s (codeNs (ixU u) kids) at' = seqC (codeNs (ixU u) kids) at' ++ (if s = pMinus then [(10, 0)] else [(14, 0)]) := fun at' => rfl
   refine ⟨fun at' => ?_, fun l hl => ?_⟩
   ·have := hsq at'
    rw [he, List.length_append]
    split <;> simp only [List.length_singleton] <;> omega
   ·rw [he]
    refine node_of u 17 n s kids l _ _ (.inl ⟨rfl, rfl⟩) ?_
    have h2 := cunary_spec u n s kids hm hk l (by omega)
    rw [List.append_assoc] at h2
    exact h2
  rw [if_neg h17] at ha
  by_cases h18 : k = 18
  ·rw [if_pos h18, Bool.and_eq_true, decide_eq_true_eq] at ha
   subst h18
   obtain ⟨ha, hb⟩ := ha
   have k0 := hk (kids[0]'(by omega)) (List.getElem_mem _)
   have k1 := hk (kids[1]'(by omega)) (List.getElem_mem _)
   have hsum : szN (kids[0]'(by omega)) + szN (kids[1]'(by omega)) ≤ (kids.map szN).sum := by
    match kids, ha with
    | [a, b], _ => simp
   have g0 : (codeNs (ixU u) kids).getD 0 noI = codeN (ixU u) (kids[0]'(by omega)) := by
    match kids, ha with
    | [a, b], _ => rfl
   have g1 : (codeNs (ixU u) kids).getD 1 noI = codeN (ixU u) (kids[1]'(by omega)) := by
    match kids, ha with
    | [a, b], _ => rfl
   by_cases hA : s = pAnd
   ·subst hA
    have he : ∀ at', bodyC (ixU u) 18 n pAnd (codeNs (ixU u) kids) at' = brC (codeN (ixU u) (kids[0]'(by omega))) (codeN (ixU u) (kids[1]'(by omega))) (fun _ => [(1, 0)]) at' := fun at' => by
     rw [← g0, ← g1]; rfl
    refine ⟨fun at' => ?_, fun l hl => ?_⟩
    ·have := brC_size k0.1 k1.1 (fun _ => Nat.le_refl 1) (n := fun _ => [((1 : Int), (0 : Int))]) at'
     rw [he]; omega
    ·rw [he]
     exact node_of u 18 n pAnd kids l _ _ (.inr (.inl ⟨rfl, rfl⟩)) (bin_and u n kids ha hk l (by omega))
   by_cases hO : s = pOr
   ·subst hO
    have he : ∀ at', bodyC (ixU u) 18 n pOr (codeNs (ixU u) kids) at' = brC (codeN (ixU u) (kids[0]'(by omega))) (fun _ => [(1, 1)]) (codeN (ixU u) (kids[1]'(by omega))) at' := fun at' => by
     rw [← g0, ← g1]; rfl
    refine ⟨fun at' => ?_, fun l hl => ?_⟩
    ·have := brC_size k0.1 (fun _ => Nat.le_refl 1) k1.1 (y := fun _ => [((1 : Int), (1 : Int))]) at'
     rw [he]; omega
    ·rw [he]
     exact node_of u 18 n pOr kids l _ _ (.inr (.inl ⟨rfl, rfl⟩)) (bin_or u n kids ha hk l (by omega))
   have he : ∀ at', bodyC (ixU u) 18 n s (codeNs (ixU u) kids) at' = seqC (codeNs (ixU u) kids) at' ++ opC s := fun at' => by
    unfold bodyC
    rw [if_neg (by decide), if_neg (by decide), if_neg (by decide), if_neg (by decide), if_neg (by decide), if_neg (by decide), if_neg (by decide), if_neg (by decide), if_neg (by decide), if_neg (fun h => hA h.2), if_neg (fun h => hO h.2), if_pos rfl]
   refine ⟨fun at' => ?_, fun l hl => ?_⟩
   ·have := hsq at'
    have := opC_size s
    rw [he, List.length_append]; omega
   ·rw [he]
    refine node_of u 18 n s kids l _ _ (.inr (.inl ⟨rfl, rfl⟩)) ?_
    have h2 := bin_op u n s (opAll_bin hb hA hO) kids hm hk l (by omega)
    rw [List.append_assoc] at h2
    exact h2
  rw [if_neg h18] at ha
  by_cases h8 : k = 8 ∨ k = 3
  ·rw [if_pos h8, decide_eq_true_eq] at ha
   rcases h8 with rfl | rfl
   ·exact lf (by omega) fun at' => rfl
   ·have k0 := hk (kids[0]'(by omega)) (List.getElem_mem _)
    have k1 := hk (kids[1]'(by omega)) (List.getElem_mem _)
    have hsum : szN (kids[0]'(by omega)) + szN (kids[1]'(by omega)) ≤ (kids.map szN).sum := by
     match kids, ha with
     | [a, b], _ => simp
    have he : ∀ at', bodyC (ixU u) 3 n s (codeNs (ixU u) kids) at' = whC (codeN (ixU u) (kids[0]'(by omega))) (codeN (ixU u) (kids[1]'(by omega))) at' := fun at' => by
     match kids, ha with
     | [a, b], _ => rfl
    refine ⟨fun at' => ?_, fun l hl => ?_⟩
    ·rw [he]
     unfold whC
     have q0 := k0.1 at'
     have q1 := k1.1 (at' + (codeN (ixU u) (kids[0]'(by omega)) at').length + 1)
     simp only [List.length_append, List.length_cons, List.length_nil]
     omega
    ·rw [he]
     exact node_of u 3 n s kids l _ _ (.inr (.inr (.inr (.inl ⟨rfl, rfl⟩)))) (loop_spec u n s kids ha hk l (by omega))
  rw [if_neg h8] at ha
  by_cases h2 : k = 2 ∨ k = 4
  ·rw [if_pos h2, decide_eq_true_eq] at ha
   rcases h2 with rfl | rfl
   ·have k0 := hk (kids[0]'(by omega)) (List.getElem_mem _)
    have k1 := hk (kids[1]'(by omega)) (List.getElem_mem _)
    have k2 := hk (kids[2]'(by omega)) (List.getElem_mem _)
    have hsum : szN (kids[0]'(by omega)) + szN (kids[1]'(by omega)) + szN (kids[2]'(by omega)) ≤ (kids.map szN).sum := by
     match kids, ha with
     | [a, b, c], _ => simp; omega
    have he : ∀ at', bodyC (ixU u) 2 n s (codeNs (ixU u) kids) at' = brC (codeN (ixU u) (kids[0]'(by omega))) (codeN (ixU u) (kids[1]'(by omega))) (codeN (ixU u) (kids[2]'(by omega))) at' := fun at' => by
     match kids, ha with
     | [a, b, c], _ => rfl
    refine ⟨fun at' => ?_, fun l hl => ?_⟩
    ·have := brC_size k0.1 k1.1 k2.1 at'
     rw [he]; omega
    ·rw [he]
     exact node_of u 2 n s kids l _ _ (.inr (.inr (.inl ⟨rfl, rfl⟩))) (branch_spec u n s kids ha hk l (by omega))
   ·exact lf (by omega) fun at' => rfl
  rw [if_neg h2] at ha
  cases ha
end Go.Proofs.YtfbifdccmabdbaaGreatDoor.Vm
namespace Go.Proofs.YtfbifdccmabdbaaGreatDoor.Vm
open Go.RowKit Go.Shelf
set_option linter.unusedSimpArgs false
set_option linter.unusedVariables false
set_option maxRecDepth 100000
theorem pgE_eq (e : Nat → Int) (du vo : Int) : pgE e du vo = enL e ++ [intA du, intA vo] := rfl
theorem enL_set (e : Nat → Int) (j : Nat) (v : Int) : (enL e).set j (intA v) = enL fun i => if i = j then v else e i := by
 unfold enL
 apply List.ext_getElem (by simp)
 intro i h1 h2
 rw [List.getElem_set, List.getElem_map, List.getElem_map, List.getElem_range]
 by_cases h : j = i
 ·simp only [if_pos h, if_pos h.symm]
 ·simp only [if_neg h, if_neg (fun q : i = j => h q.symm)]
theorem setK_pg (c0 : A) (e : Nat → Int) (du vo v : Int) (j : Nat) (hj : j < 40) {K : List A → Prop} (h : K (c0 :: pgE (fun i => if i = j then v else e i) du vo)) : setK (c0 :: pgE e du vo) (1 + j * 1) (intA v) K := by
 have hl : (enL e).length = 40 := by unfold enL; simp
 refine setK_mk ?_ ?_
 ·rw [pgE_eq, List.length_cons, List.length_append, hl]; omega
 ·rw [show 1 + j * 1 = j + 1 by omega, List.set_cons_succ, pgE_eq, List.set_append_left _ _ (by rw [hl]; exact hj), enL_set]
  exact h
theorem setK_pg' (c0 : A) (e e' : Nat → Int) (du vo v : Int) (j : Nat) (hj : j < 40) (he : ∀ i, i < 40 → (if i = j then v else e i) = e' i) {K : List A → Prop} (h : K (c0 :: pgE e' du vo)) : setK (c0 :: pgE e du vo) (1 + j * 1) (intA v) K := by
 refine setK_pg c0 e du vo v j hj ?_
 have q : pgE (fun i => if i = j then v else e i) du vo = pgE e' du vo := by
  rw [pgE_eq, pgE_eq]
  congr 1
  unfold enL
  exact List.map_congr_left fun i hi => by simp only [he i (List.mem_range.1 hi)]
 rw [q]; exact h
def szH : List (Int × Nt) → Nat
 | [] => 0
 | h :: r => szN h.2 + 1 + szH r
def e1 (j : Nat) : Nat → Int := fun i => if i < j then -1 else 0
theorem pgE_ext {e e' : Nat → Int} (h : ∀ i, i < 40 → e i = e' i) (du vo : Int) : pgE e du vo = pgE e' du vo := by
 rw [pgE_eq, pgE_eq]
 congr 1
 unfold enL
 exact List.map_congr_left fun i hi => by rw [h i (List.mem_range.1 hi)]
set_option maxHeartbeats 2000000 in
theorem compile_spec (u : Ut) (hu : WfU u) (hz : szH u.on ≤ 900000) : Spec Tryz.prog 12 [] [.agg (utA u)] fun _ r => r = cmpA u := by
 have hnode := node_all u hu
 have hdv := hu.du
 have hol := hu.ol
 refine spec_of (cx_ok ord12 xs0 0) (fun _ _ h => h) Tryz.func12 rfl (by kernel_rfl) rfl (by kernel_rfl) ?_
 intro _
 conv => whnf
 refine loop_keep [1, 2, 4] ?_
 conv => whnf
 refine loop_go (fun j : Nat => [(19, .v (.int .i64 j))]) (fun j => [utA u, zeroP, .v (.slice none 0 0) :: pgE (e1 j) u.du.length u.vo.length]) (fun _ => []) (fun j => j ≤ 40) (fun j => 40 - j) 0 ?_ (by omega) ?_
 ·repeat' constructor
 intro j hj
 conv => whnf
 rcases Nat.lt_or_ge j 40 with hlt | hge
 ·rw [decide_eq_true (show (j : Int) < 40 by omega)]
  conv => whnf
  refine ⟨show (0 : Int) ≤ (j : Int) ∧ (j : Int) < ((40 : Nat) : Int) from ⟨by omega, by omega⟩, ?_⟩
  conv => whnf
  refine setK_pg' (.v (.slice none 0 0)) (e1 j) (e1 (j + 1)) u.du.length u.vo.length (-1) j hlt (fun i hi => ?_) ?_
  ·unfold e1
   by_cases h : i = j
   ·rw [if_pos h, if_pos (by omega)]
   ·rw [if_neg h]
    by_cases h2 : i < j
    ·rw [if_pos h2, if_pos (by omega)]
    ·rw [if_neg h2, if_neg (by omega)]
  conv => whnf
  refine ⟨show lo .i64 ≤ (j : Int) + 1 ∧ (j : Int) + 1 ≤ hi .i64 from i64r (by omega), ?_⟩
  conv => whnf
  refine ⟨j + 1, le_selH [] ?_, show j + 1 ≤ 40 by omega, show 40 - (j + 1) < 40 - j by omega⟩
  conv => whnf
  repeat' constructor
 rw [decide_eq_false (show ¬ (j : Int) < 40 by omega)]
 obtain rfl : j = 40 := by omega
 conv => whnf
 refine loop_row 52 2 [] [(3, 3)] ?_
 conv => whnf
 refine ⟨trivial, ?_⟩
 conv => whnf
 refine loop_keep [1, 2, 4, 6, 30, 31] ?_
 conv => whnf
 refine loop_go (fun x : Nat × List Ic × (Nat → Int) => [(32, .v (.int .i64 x.1))]) (fun x => [utA u, zeroP, .v (.slice none 0 0) :: pgE x.2.2 u.du.length u.vo.length, cbx u]) (fun x => [.live 52 2 x.2.1.length (icsA x.2.1)])
  (fun x => x.1 ≤ u.on.length ∧ hcL (ixU u) (u.on.drop x.1) x.2.1 x.2.2 = cmpC u ∧ x.2.1.length + szH (u.on.drop x.1) ≤ 900000 ∧ (∀ i ∈ x.2.1, IcOk i) ∧ ∀ i, x.2.2 i < x.2.1.length) (fun x => u.on.length - x.1) (0, [], noE) ?_ ⟨Nat.zero_le _, rfl, by simpa using hz, (fun i hi => by cases hi), fun i => show (-1 : Int) < 0 by decide⟩ ?_
 ·repeat' constructor
  show Row.live _ 2 0 [] = Row.live _ 2 0 (icsA [])
  rw [icsA_nil]
 rintro ⟨j, l, e⟩ ⟨g1, g2, g3, g4, g5⟩
 simp only at g1 g2 g3 g4 g5
 conv => whnf
 rcases Nat.lt_or_ge j u.on.length with hlt | hge
 ·have hrow : rowOf 5 j (hnsA u.on) = hnA u.on[j] := rowOf_hns u.on j hlt
  have hon := hu.on _ (List.getElem_mem hlt)
  rw [List.drop_eq_getElem_cons hlt] at g2 g3
  generalize u.on[j] = hb at hrow hon g2 g3
  obtain ⟨h, b⟩ := hb
  obtain ⟨o1, o2, o3⟩ := hon
  have hnd := hnode b o3
  unfold hcL at g2
  unfold szH at g3
  simp only at o1 o2 g2 g3
  unfold hnA at hrow
  simp only at hrow
  rw [decide_eq_true (show (j : Int) < (u.on.length : Int) by omega)]
  conv => whnf
  refine ⟨show (0 : Int) ≤ (j : Int) ∧ (j : Int) < (u.on.length : Nat) from ⟨by omega, by omega⟩, ?_⟩
  conv => whnf
  (generalize hrq : rowOf _ _ (hnsA u.on) = rq; obtain rfl : rq = intA h :: ntA b := hrq.symm.trans (hrow); clear hrq; conv => whnf)
  refine ⟨⟨o1, show h < ((40 : Nat) : Int) by omega⟩, ?_⟩
  conv => whnf
  refine setK_pg' (.v (.slice none 0 0)) e (fun i => if i = h.toNat then (l.length : Int) else e i) u.du.length u.vo.length l.length h.toNat (by omega) (fun i hi => rfl) ?_
  conv => whnf
  refine callR1 3 0 1 [] rfl rfl rfl rfl rfl rfl rfl (fun _ => hnd.2 l (by omega)) ?_
  rintro o n' cs' r ⟨l2, rfl, rfl, ho, hl2, rfl⟩
  cases ho
  have hl2 : l2 = l ++ codeN (ixU u) b l.length := hl2
  have hsz : (codeN (ixU u) b l.length).length ≤ szN b := hnd.1 l.length
  have hl2' : l2.length ≤ l.length + szN b := by rw [hl2, List.length_append]; omega
  conv => whnf
  have hem := emit_spec u l2 23 0 (by omega)
  refine callR1 3 1 2 [] rfl rfl rfl rfl rfl rfl rfl (fun _ => hem) ?_
  rintro o n' cs' r ⟨l3, rfl, rfl, ho, hl3, rfl⟩
  cases ho
  conv => whnf
  refine ⟨show lo .i64 ≤ (j : Int) + 1 ∧ (j : Int) + 1 ≤ hi .i64 from i64r (by omega), ?_⟩
  conv => whnf
  refine ⟨(j + 1, l3, fun i => if i = h.toNat then (l.length : Int) else e i), le_selH [2] ?_, ⟨show j + 1 ≤ u.on.length by omega, ?_, ?_, ?_, ?_⟩, show u.on.length - (j + 1) < u.on.length - j by omega⟩
  ·conv => whnf
   repeat' constructor
  ·rw [hl3, hl2]; exact g2
  ·show l3.length + szH (u.on.drop (j + 1)) ≤ 900000
   rw [hl3, List.length_append, List.length_singleton]; omega
  ·intro i hi
   simp only at hi
   rw [hl3, hl2] at hi
   rcases List.mem_append.1 hi with hi | hi
   ·rcases List.mem_append.1 hi with hi | hi
    ·exact g4 i hi
    ·exact codeN_ok (ixU u) b _ (by omega) i hi
   ·rw [List.mem_singleton.1 hi]; exact ⟨by simp, fun h => by simp at h⟩
  ·intro i
   show (if i = h.toNat then (l.length : Int) else e i) < (l3.length : Int)
   have g5i := g5 i
   have : l3.length = l.length + (codeN (ixU u) b l.length).length + 1 := by rw [hl3, hl2, List.length_append, List.length_append, List.length_singleton]
   split <;> omega
 rw [decide_eq_false (show ¬ (j : Int) < (u.on.length : Int) by omega)]
 have hcm : hcL (ixU u) [] l e = cmpC u := by rw [← g2, List.drop_of_length_le hge]
 have hcl : l.length ≤ 900000 := by omega
 unfold hcL at hcm
 conv => whnf
 unfold cmpA cmpE
 rw [← hcm]
 simp only
 by_cases hbig : 400 < l.length
 ·rw [decide_eq_true (show (400 : Int) < (l.length : Int) by omega)]
  conv => whnf
  rw [if_pos hbig, if_neg (by decide)]
  rfl
 rw [decide_eq_false (show ¬ (400 : Int) < (l.length : Int) by omega)]
 rw [if_neg hbig]
 conv => whnf
 refine loop_pub [0] ?_
 conv => whnf
 refine loop_keep [2, 4, 63] ?_
 conv => whnf
 obtain ⟨E, hE⟩ : ∃ E, folE1 l e 0 40 = E := ⟨_, rfl⟩
 rw [hE]
 refine loop_go (fun j : Nat => [(64, .v (.int .i64 j))]) (fun _ => [utA u, zeroP, pgL l e u.du.length u.vo.length, utA u ++ [.sl 2 l.length (icsA l)]]) (fun _ => []) (fun j => j ≤ 40 ∧ folE1 l e j (40 - j) = E) (fun j => 40 - j) 0 ?_ ⟨Nat.zero_le _, hE⟩ ?_
 ·repeat' constructor
  done
 clear hE hge g1 g2 g3 hcm
 clear j
 rintro j ⟨hj, hE⟩
 have hE : folE1 l e j (40 - j) = E := hE
 conv => whnf
 rcases Nat.lt_or_ge j 40 with hlt | hge
 ·rw [decide_eq_true (show (j : Int) < 40 by omega)]
  rw [show 40 - j = (40 - (j + 1)) + 1 by omega] at hE
  unfold folE1 at hE
  have hfo := follow_spec l e u.du.length u.vo.length (e j) (by omega) (by omega) (by omega) (fun i hi => (g4 i hi).2) (fun i hi => (g4 i hi).1) (g5 j)
  conv => whnf
  refine ⟨⟨show (0 : Int) ≤ (j : Int) by omega, show (j : Int) < ((40 : Nat) : Int) by omega⟩, intA (e j), en_get e j hlt, ?_⟩
  conv => whnf
  refine call0 [] rfl (fun _ => hfo) ?_
  rintro r rfl
  generalize followF l (e j) = f at hE
  conv => whnf
  by_cases h0 : f = 0
  ·rw [decide_eq_true h0]
   rw [if_neg (fun h => h h0)] at hE
   conv => whnf
   refine ⟨show lo .i64 ≤ (j : Int) + 1 ∧ (j : Int) + 1 ≤ hi .i64 from i64r (by omega), ?_⟩
   conv => whnf
   refine ⟨j + 1, le_selH [] ?_, ⟨show j + 1 ≤ 40 by omega, hE⟩, show 40 - (j + 1) < 40 - j by omega⟩
   conv => whnf
   repeat' constructor
  rw [decide_eq_false h0]
  rw [if_pos h0] at hE
  conv => whnf
  rw [← hE, if_neg h0]
  rfl
 obtain rfl : j = 40 := by omega
 rw [decide_eq_false (show ¬ ((40 : Nat) : Int) < 40 by omega)]
 obtain rfl : 0 = E := hE
 conv => whnf
 rw [if_pos rfl]
 rfl
end Go.Proofs.YtfbifdccmabdbaaGreatDoor.Vm
namespace Go.Proofs.YtfbifdccmabdbaaGreatDoor.Vm
open Go.RowKit Go.Shelf
set_option linter.unusedSimpArgs false
set_option linter.unusedVariables false
set_option maxRecDepth 100000
theorem bld_ok (s : ByteArray) (hs : s.size ≤ 1000000000) (u : Ut) (hp : uparF s = .ok u) (hz : szH u.on ≤ 900000) (hc : checkF (toU u) = 0) : Spec Tryz.prog 21 [] [strA s] fun _ r => r = cmpA u := by
 have h1 := pparse_raw s hs
 rw [hp] at h1
 unfold parU0 at h1
 simp only at h1
 have hu := upar_wf hp
 have h2 := tcheck u hu
 rw [hc] at h2
 have h3 := compile_spec u hu hz
 unfold cmpA at h3 ⊢
 refine spec_of (cx_ok ord0 xs0 0) (fun _ _ h => h) Tryz.func21 rfl (by kernel_rfl) rfl (by kernel_rfl) ?_
 intro _
 conv => whnf
 (refine call0 [] rfl (fun _ => h1) ?_; rintro r rfl; conv => whnf)
 (refine call0 [] rfl (fun _ => h2) ?_; rintro r rfl; conv => whnf)
 by_cases he : cmpE u = 0
 ·rw [if_pos he] at h3 ⊢
  (refine call0 [] rfl (fun _ => h3) ?_; rintro r rfl; conv => whnf)
  rfl
 ·rw [if_neg he] at h3 ⊢
  (refine call0 [] rfl (fun _ => h3) ?_; rintro r rfl; conv => whnf)
  rfl
def exS : ByteArray := ⟨#[100, 117, 114, 97, 98, 108, 101, 32, 120, 59, 32, 111, 110, 32, 115, 116, 97, 114, 116, 32, 123, 32, 120, 32, 61, 32, 49, 32, 43, 32, 50, 59, 32, 125]⟩
def exX : ByteArray := ⟨#[120]⟩
def exU : Ut := ⟨[exX], [], [(0, .mk 11 0 eB [.mk 1 0 exX [.mk 18 0 pPlus [litT 1, litT 2]]])]⟩
def exI : List Ic := [(1, 1), (1, 2), (6, 0), (3, 0), (23, 0)]
def exE : Nat → Int := fun j => if j = 0 then 0 else -1
theorem exS_ok : uparF exS = .ok exU := by kernel_rfl
theorem exU_chk : checkF (toU exU) = 0 := by kernel_rfl
theorem exU_cmp : cmpC exU = (exI, exE) := by kernel_rfl
theorem exU_err : cmpE exU = 0 := by kernel_rfl
theorem ex_ver : verF exI exE 1 0 = 0 := by kernel_rfl
theorem exb_spec : Spec Tryz.prog 21 [] [strA exS] fun _ r => r = .tup [pgA exI exE 1 0, intA 0] := by
 have h := bld_ok exS (by decide) exU exS_ok (by decide) exU_chk
 unfold cmpA at h
 rw [exU_err, exU_cmp, if_pos rfl] at h
 exact h
def e2 (j : Nat) : Nat → Int := fun i => if 1 ≤ i ∧ i < j then -1 else 0
theorem lives_spec : Spec Tryz.prog 17 [] [] fun _ r => r = boolA true := by
 have h1 := exb_spec
 have h2 := same_refl exI exE 1 0 (by decide)
 have h3 := verify_spec exI exE 1 0 (by decide)
 rw [ex_ver] at h3
 have hpe : pgE exE 1 0 = pgE (e2 40) 1 0 := pgE_ext (fun i hi => by
  unfold exE e2
  by_cases h : i = 0
  ·rw [if_pos h, if_neg (by omega)]
  ·rw [if_neg h, if_pos (by omega)]) 1 0
 have hpa : pgA exI exE 1 0 = pgA exI (e2 40) 1 0 := by unfold pgA pgL; rw [hpe]
 rw [show [pgA exI exE 1 0, pgA exI exE 1 0] = [pgA exI exE 1 0, pgA exI (e2 40) 1 0] by rw [← hpa]] at h2
 clear hpe hpa
 refine spec_of (cx_ok ord0 xs0 0) (fun _ _ h => h) Tryz.func17 rfl (by kernel_rfl) rfl (by kernel_rfl) ?_
 intro _
 conv => whnf
 (refine call0 [] rfl (fun _ => h1) ?_; rintro r rfl; conv => whnf)
 refine loop_pub [0] ?_
 conv => whnf
 refine loop_keep [1, 2, 3] ?_
 conv => whnf
 refine loop_go (fun j : Nat => [(4, .v (.int .i64 j))]) (fun j => [pgL exI exE 1 0, pgL exI (e2 j) 1 0]) (fun _ => []) (fun j => 1 ≤ j ∧ j ≤ 40) (fun j => 40 - j) 1 ?_ ⟨by omega, by omega⟩ ?_
 ·repeat' constructor
  unfold icsA
  rfl
 rintro j ⟨hj1, hj⟩
 conv => whnf
 rcases Nat.lt_or_ge j 40 with hlt | hge
 ·rw [decide_eq_true (show (j : Int) < 40 by omega)]
  conv => whnf
  refine ⟨show (0 : Int) ≤ (j : Int) ∧ (j : Int) < ((40 : Nat) : Int) from ⟨by omega, by omega⟩, ?_⟩
  conv => whnf
  refine setK_pg' (.sl 2 5 (icsA exI)) (e2 j) (e2 (j + 1)) 1 0 (-1) j hlt (fun i hi => ?_) ?_
  ·unfold e2
   by_cases h : i = j
   ·rw [if_pos h, if_pos (by omega)]
   ·rw [if_neg h]
    by_cases h2 : 1 ≤ i ∧ i < j
    ·rw [if_pos h2, if_pos (by omega)]
    ·rw [if_neg h2, if_neg (by omega)]
  conv => whnf
  refine ⟨show lo .i64 ≤ (j : Int) + 1 ∧ (j : Int) + 1 ≤ hi .i64 from i64r (by omega), ?_⟩
  conv => whnf
  refine ⟨j + 1, le_selH [] ?_, ⟨show 1 ≤ j + 1 by omega, show j + 1 ≤ 40 by omega⟩, show 40 - (j + 1) < 40 - j by omega⟩
  conv => whnf
  repeat' constructor
 rw [decide_eq_false (show ¬ (j : Int) < 40 by omega)]
 obtain rfl : j = 40 := by omega
 conv => whnf
 (refine call0 [] rfl (fun _ => h2) ?_; rintro r rfl; conv => whnf)
 (refine call0 [] rfl (fun _ => h3) ?_; rintro r rfl; conv => whnf)
 rfl
end Go.Proofs.YtfbifdccmabdbaaGreatDoor.Vm
namespace Go.Proofs.YtfbifdccmabdbaaGreatDoor.Vm
open Go.RowKit Go.Shelf
set_option linter.unusedSimpArgs false
set_option linter.unusedVariables false
set_option maxRecDepth 100000
theorem le_pubW {X : Type} {np : Nat} {t t0 : List A} {bx : List (List A)} {rw : List Row} {g : X → List (Nat × A)} {hb : X → List (List A)} {hr : X → List Row} {x : X} (ids sel : List Nat)
  (h : forceR (pubRows rw ids) fun rw' => mapK (subA rw') t fun t' => subBK rw' bx fun bx' => ∃ bx2, WkB bx' bx2 ∧ SelK sel t' bx2 rw' fun s' => headK t0 g hb hr x fun s2 => LeS np s' s2) : Le np ⟨t, bx, rw⟩ (headS t0 g hb hr x) := by
 rw [forceR_iff, mapK_iff, subBK_iff] at h
 obtain ⟨bx2, h1, h2⟩ := h
 exact (((le_pub (np := np) (s := ⟨t, bx, rw⟩) ids).trans le_sub).trans (le_wk (WkL.refl _) h1)).trans (le_selH sel h2)
theorem lnest_spec (n : Nat) (hn : n ≤ 1000000) : Spec Tryz.prog 35 [] [.v (.int .i64 n)] fun _ r => r = .agg (ntA (nestT n n)) := by
 refine spec_of (cx_ok ord0 xs0 0) (fun _ _ h => h) Tryz.func35 rfl (by kernel_rfl) rfl (by kernel_rfl) ?_
 intro _
 conv => whnf
 refine loop_row 65 4 [] [(1, 3)] ?_
 conv => whnf
 refine ⟨trivial, ?_⟩
 conv => whnf
 refine loop_pub [0] ?_
 conv => whnf
 refine loop_keep [0, 2, 3] ?_
 conv => whnf
 refine loop_go (fun j : Nat => [(4, .v (.int .i64 j))]) (fun j => [rawN (.mk 0 0 eB []), ntA (nestT n j)]) (fun _ => []) (fun j => j ≤ n) (fun j => n - j) 0 ?_ (by omega) ?_
 ·repeat' constructor
  show A.sl 4 0 [] = A.sl 4 0 (ntsA [])
  rw [ntsA_nil]
 intro j hj
 conv => whnf
 rcases Nat.lt_or_ge j n with hlt | hge
 ·rw [decide_eq_true (show (j : Int) < (n : Int) by omega)]
  conv => whnf
  refine ⟨show lo .i64 ≤ (j : Int) + 1 ∧ (j : Int) + 1 ≤ hi .i64 from i64r (by omega), ?_⟩
  conv => whnf
  refine ⟨j + 1, le_pubW [0] [] ?_, show j + 1 ≤ n by omega, show n - (j + 1) < n - j by omega⟩
  conv => whnf
  refine ⟨[rawN (.mk 0 0 eB []), ntA (nestT n (j + 1))], ?_, ?_⟩
  ·have e : ntA (nestT n (j + 1)) = [intA 18, intA 0, strA pPlus, .sl 4 2 (ntA (litT j) ++ ntA (nestT n j))] := by
    show [intA 18, intA 0, strA pPlus, .sl 4 2 (ntsA [litT j, nestT n j])] = _
    rw [ntsA_cons, ntsA_cons, ntsA_nil, List.append_nil]
   rw [e]
   refine .cons (WkL.refl _) (.cons (.cons (.refl _) (.cons (.refl _) (.cons (.refl _) (.cons (.sl 4 2 ?_) .nil)))) .nil)
   exact (rawN_wk (f := litT j) rfl).app (WkL.refl (ntA (nestT n j)))
  conv => whnf
  repeat' constructor
 rw [decide_eq_false (show ¬ (j : Int) < (n : Int) by omega)]
 conv => whnf
 obtain rfl : j = n := by omega
 rfl
end Go.Proofs.YtfbifdccmabdbaaGreatDoor.Vm
namespace Go.Proofs.YtfbifdccmabdbaaGreatDoor.Vm
open Go.RowKit
set_option linter.unusedSimpArgs false
set_option linter.unusedVariables false
set_option maxRecDepth 100000
def absI (n : Int) : Int := if n < 0 then -(n + 1) else n
def aroundF (n m : Int) : Int := (absI n).tmod m
theorem absI_rng {n : Int} (hn : -9223372036854775808 ≤ n ∧ n ≤ 9223372036854775807) : 0 ≤ absI n ∧ absI n ≤ 9223372036854775807 := by unfold absI; split <;> omega
theorem aroundF_rng {n m : Int} (hn : -9223372036854775808 ≤ n ∧ n ≤ 9223372036854775807) (hm : 1 ≤ m) : 0 ≤ aroundF n m ∧ aroundF n m < m := by
 have h := absI_rng hn
 unfold aroundF
 rw [Int.tmod_eq_emod_of_nonneg h.1]
 exact ⟨Int.emod_nonneg _ (by omega), Int.emod_lt_of_pos _ (by omega)⟩
theorem around_spec (n m : Int) (hm : 1 ≤ m ∧ m ≤ 9223372036854775807) : Spec Tryz.prog 27 [] [intA n, intA m] fun _ r => (-9223372036854775808 ≤ n ∧ n ≤ 9223372036854775807) ∧ r = intA (aroundF n m) := by
 refine spec_of (cx_ok ord0 xs0 0) (fun _ _ h => h) Tryz.func27 rfl (by kernel_rfl) rfl (by kernel_rfl) ?_
 intro hok
 have hn : -9223372036854775808 ≤ n ∧ n ≤ 9223372036854775807 := okA_int.1 hok.1
 have hab := absI_rng hn
 conv => whnf
 by_cases h : n < 0
 ·refine br_true (b := decide (n < 0)) (decide_eq_true h) ?_
  conv => whnf
  refine ⟨i64r (by omega), ?_⟩
  conv => whnf
  refine ⟨i64r (by omega), ?_⟩
  conv => whnf
  refine ⟨by omega, ?_⟩
  conv => whnf
  refine ⟨hn, ?_⟩
  have : 0 - (n + 1) = absI n := by unfold absI; rw [if_pos h]; omega
  rw [this]; rfl
 ·refine br_false (b := decide (n < 0)) (decide_eq_false h) ?_
  conv => whnf
  refine ⟨by omega, ?_⟩
  conv => whnf
  refine ⟨hn, ?_⟩
  have : n = absI n := by unfold absI; rw [if_neg h]
  show A.v (.int .i64 (n.tmod m)) = intA ((absI n).tmod m)
  rw [← this]; rfl
end Go.Proofs.YtfbifdccmabdbaaGreatDoor.Vm
namespace Go.Proofs.YtfbifdccmabdbaaGreatDoor.Vm
open Go.RowKit Go.Shelf
set_option linter.unusedSimpArgs false
set_option linter.unusedVariables false
set_option maxRecDepth 100000
def failsR : Nat → List A
 | 0 => []
 | j + 1 => failsR j ++ [intA 9, intA 0, strA eB, .sl 4 1 (rawN (litT j))]
theorem ntsA_one (f : Nt) : ntsA [f] = ntA f := by rw [ntsA_cons, ntsA_nil, List.append_nil]
theorem failsR_wk : ∀ j, WkL (failsR j) (ntsA (failsT j))
 | 0 => by
  unfold failsR failsT
  rw [ntsA_nil]; exact .nil
 | j + 1 => by
  rw [failsT, ntsA_snoc]
  refine (failsR_wk j).app ?_
  show WkL _ [intA 9, intA 0, strA eB, .sl 4 1 (ntsA [litT j])]
  rw [ntsA_one]
  exact .cons (.refl _) (.cons (.refl _) (.cons (.refl _) (.cons (.sl 4 1 (rawN_wk rfl)) .nil)))
def limR (k n : Nat) : A := .agg [.v (.slice none 0 0), .sl 1 1 [strA vB], .sl 5 1 [intA 5, intA 11, intA 0, strA eB, .sl 4 (k + 1) (failsR k ++ [intA 1, intA 0, strA vB, .sl 4 1 (ntA (nestT n n))])]]
theorem limR_wk (k n : Nat) : Wk (limR k n) (.agg (utA (limU k n))) := by
 unfold limR
 refine .agg (.cons (.nil 1) (.cons ?_ (.cons ?_ .nil)))
 ·exact .refl _
 ·have e : hnsA [((5 : Int), limB k n)] = [intA 5, intA 11, intA 0, strA eB, .sl 4 (k + 1) (ntsA (failsT k) ++ [intA 1, intA 0, strA vB, .sl 4 1 (ntA (nestT n n))])] := by
   unfold hnsA
   rw [List.flatMap_cons, List.flatMap_nil, List.append_nil]
   show [intA 5, intA 11, intA 0, strA eB, .sl 4 (failsT k ++ [asgT n]).length (ntsA (failsT k ++ [asgT n]))] = _
   rw [ntsA_snoc, List.length_append, failsT_len]
   show [intA 5, intA 11, intA 0, strA eB, .sl 4 (k + 1) (ntsA (failsT k) ++ [intA 1, intA 0, strA vB, .sl 4 1 (ntsA [nestT n n])])] = _
   rw [ntsA_one]
  show Wk _ (.sl 5 1 (hnsA [((5 : Int), limB k n)]))
  rw [e]
  exact .sl 5 1 (.cons (.refl _) (.cons (.refl _) (.cons (.refl _) (.cons (.refl _) (.cons (.sl 4 (k + 1) ((failsR_wk k).app (WkL.refl _))) .nil)))))
theorem szN_nest (x : Int) : ∀ n, szN (nestT x n) = 6 * n + 3
 | 0 => rfl
 | n + 1 => by
  unfold nestT
  show 3 + (3 + (szN (nestT x n) + 0)) = _
  rw [szN_nest x n]; omega
theorem szN_fails : ∀ k, szNs (failsT k) = 6 * k
 | 0 => rfl
 | k + 1 => by
  rw [failsT, szNs_sum, List.map_append, List.sum_append, ← szNs_sum, szN_fails k]
  show 6 * k + (szN (failT k) + 0) = _
  rw [show szN (failT k) = 6 from rfl]; omega
theorem szH_lim (k n : Nat) : szH (limU k n).on = 6 * k + 6 * n + 10 := by
 show szN (limB k n) + 1 + 0 = _
 unfold limB
 show 3 + szNs (failsT k ++ [asgT n]) + 1 + 0 = _
 rw [szNs_sum, List.map_append, List.sum_append, ← szNs_sum, szN_fails]
 show 3 + (6 * k + (szN (asgT n) + 0)) + 1 + 0 = _
 unfold asgT
 show 3 + (6 * k + ((3 + (szN (nestT n n) + 0)) + 0)) + 1 + 0 = _
 rw [szN_nest]; omega
theorem lim_cmp (k n : Nat) (hk : k ≤ 3000) (hn : n ≤ 1000) : Spec Tryz.prog 12 [] [limR k n] fun _ r => r = cmpA (limU k n) :=
 (compile_spec (limU k n) (wf_lim k n hk) (by rw [szH_lim]; omega)).wargs (.cons (limR_wk k n) .nil) .nil
theorem same_zero : Spec Tryz.prog 16 [] [.agg zeroP, .agg zeroP] fun _ r => r = boolA true := by
 have h := same_refl [] zE 0 0 (by decide)
 have hw : Wk (.agg zeroP) (pgA [] zE 0 0) := by
  unfold zeroP pgA pgL
  rw [icsA_nil]
  exact .agg (.cons (.nil 2) (WkL.refl _))
 exact h.wargs (.cons hw (.cons hw .nil)) .nil
theorem limits_spec (many deep : Int) : Spec Tryz.prog 10 [] [intA many, intA deep] fun _ r => r = boolA true := by
 have a1 := around_spec many 231 (by decide)
 have a2 := around_spec deep 8 (by decide)
 have hlv := lives_spec
 refine spec_of (cx_ok ord10 xs0 0) (fun _ _ h => h) Tryz.func10 rfl (by kernel_rfl) rfl (by kernel_rfl) ?_
 intro hok
 conv => whnf
 refine call0 [] rfl (fun _ => a1) ?_
 rintro r ⟨hi1, rfl⟩
 have hz1 := aroundF_rng hi1 (m := 231) (by decide)
 generalize aroundF many 231 = z1 at *
 obtain ⟨k, rfl⟩ : ∃ k : Nat, z1 = k := ⟨z1.toNat, by omega⟩
 conv => whnf
 refine call0 [] rfl (fun _ => a2) ?_
 rintro r ⟨hi2, rfl⟩
 have hz2 := aroundF_rng hi2 (m := 8) (by decide)
 generalize aroundF deep 8 = z2 at *
 obtain ⟨d, rfl⟩ : ∃ d : Nat, z2 = d := ⟨z2.toNat, by omega⟩
 conv => whnf
 refine ⟨i64r (by omega), ?_⟩
 conv => whnf
 refine loop_row 65 4 [] [(0, 3)] ?_
 conv => whnf
 refine ⟨trivial, ?_⟩
 conv => whnf
 refine loop_keep [5, 6, 7] ?_
 conv => whnf
 refine loop_go (fun j : Nat => [(8, .v (.int .i64 j))]) (fun _ => [[intA 11, intA 0, strA eB, .own 0]]) (fun j => [.live 65 4 j (failsR j)]) (fun j => j ≤ k) (fun j => k - j) 0 ?_ (Nat.zero_le _) ?_
 ·repeat' constructor
 intro j hj
 conv => whnf
 rcases Nat.lt_or_ge j k with hlt | hge
 ·rw [decide_eq_true (show (j : Int) < (k : Int) by omega)]
  conv => whnf
  refine ⟨⟨show j + 1 ≤ maxLen by unfold maxLen; omega, show (j + 1) * 56 ≤ 140737488355328 by omega⟩, ?_⟩
  conv => whnf
  refine ⟨show lo .i64 ≤ (j : Int) + 1 ∧ (j : Int) + 1 ≤ hi .i64 from i64r (by omega), ?_⟩
  conv => whnf
  refine ⟨j + 1, le_pubH [1] [0] ?_, show j + 1 ≤ k by omega, show k - (j + 1) < k - j by omega⟩
  conv => whnf
  repeat' constructor
 rw [decide_eq_false (show ¬ (j : Int) < (k : Int) by omega)]
 obtain rfl : j = k := by omega
 conv => whnf
 refine ⟨i64r (by omega), ?_⟩
 rw [show (12 : Int) + (d : Int) - 1 = ((11 + d : Nat) : Int) by omega]
 refine call0 [] rfl (fun _ => lnest_spec (11 + d) (by omega)) ?_
 rintro r rfl
 conv => whnf
 refine ⟨⟨show j + 1 ≤ maxLen by unfold maxLen; omega, show (j + 1) * 56 ≤ 140737488355328 by omega⟩, ?_⟩
 conv => whnf
 refine call0 [1, 2, 0, 3, 4] rfl (fun _ => lim_cmp j (11 + d) (by omega) (by omega)) ?_
 rintro r rfl
 unfold cmpA
 rw [cmpE_lim]
 by_cases h1 : 400 < 2 * j + 2 * (11 + d) + 3
 ·rw [if_pos h1, if_neg (by decide)]
  conv => whnf
  refine ⟨i64r (by omega), ?_⟩
  conv => whnf
  refine ⟨i64r (by omega), ?_⟩
  conv => whnf
  refine ⟨i64r (by omega), ?_⟩
  conv => whnf
  refine ⟨i64r (by omega), ?_⟩
  conv => whnf
  rw [decide_eq_true (show (400 : Int) < 2 * (j : Int) + 2 * (12 + (d : Int)) + 1 by omega)]
  conv => whnf
  (refine call0 [] rfl (fun _ => same_zero) ?_; rintro r rfl; conv => whnf)
  (refine call0 [] rfl (fun _ => hlv) ?_; rintro r rfl; conv => whnf)
  rfl
 rw [if_neg h1]
 by_cases h2 : 16 < 11 + d + 1
 ·rw [if_pos h2, if_neg (by decide)]
  conv => whnf
  refine ⟨i64r (by omega), ?_⟩
  conv => whnf
  refine ⟨i64r (by omega), ?_⟩
  conv => whnf
  refine ⟨i64r (by omega), ?_⟩
  conv => whnf
  refine ⟨i64r (by omega), ?_⟩
  conv => whnf
  rw [decide_eq_false (show ¬ (400 : Int) < 2 * (j : Int) + 2 * (12 + (d : Int)) + 1 by omega)]
  conv => whnf
  rw [decide_eq_true (show (16 : Int) < 12 + (d : Int) by omega)]
  conv => whnf
  (refine call0 [] rfl (fun _ => same_zero) ?_; rintro r rfl; conv => whnf)
  (refine call0 [] rfl (fun _ => hlv) ?_; rintro r rfl; conv => whnf)
  rfl
 rw [if_neg h2, if_pos rfl, cmp_lim]
 have hln : (limP j (11 + d) ++ [((23 : Int), (0 : Int))]).length = 2 * j + 2 * (11 + d) + 3 := by rw [List.length_append, limP_len, List.length_singleton]
 have hvf := verify_spec (limP j (11 + d) ++ [(23, 0)]) limE 0 1 (by rw [hln]; omega)
 rw [ver_lim j (11 + d) (by omega) h1 h2] at hvf
 generalize limP j (11 + d) ++ [((23 : Int), (0 : Int))] = code at hln hvf
 conv => whnf
 refine ⟨i64r (by omega), ?_⟩
 conv => whnf
 refine ⟨i64r (by omega), ?_⟩
 conv => whnf
 refine ⟨i64r (by omega), ?_⟩
 conv => whnf
 refine ⟨i64r (by omega), ?_⟩
 conv => whnf
 rw [decide_eq_false (show ¬ (400 : Int) < 2 * (j : Int) + 2 * (12 + (d : Int)) + 1 by omega)]
 conv => whnf
 rw [decide_eq_false (show ¬ (16 : Int) < 12 + (d : Int) by omega)]
 conv => whnf
 rw [decide_eq_true (show (code.length : Int) = 2 * (j : Int) + 2 * (12 + (d : Int)) + 1 by omega)]
 conv => whnf
 refine ⟨by decide, ?_⟩
 conv => whnf
 (refine call0 [] rfl (fun _ => hvf) ?_; rintro r rfl; conv => whnf)
 (refine call0 [] rfl (fun _ => hlv) ?_; rintro r rfl; conv => whnf)
 rfl
end Go.Proofs.YtfbifdccmabdbaaGreatDoor.Vm
