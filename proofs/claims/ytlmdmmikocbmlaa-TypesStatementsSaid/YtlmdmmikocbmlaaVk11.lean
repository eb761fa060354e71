/- TypesIndex. -/
import Derived.Test.YtlmdmmikocbmlaaVk9
namespace Go.Proofs.Ytlmdmmikocbmlaa.Vm
open Go.RowKit
set_option linter.unusedSimpArgs false
set_option linter.unusedVariables false
set_option maxRecDepth 100000
theorem strsA_append (l m : List ByteArray) : strsA l ++ strsA m = strsA (l ++ m) := by simp [strsA]
theorem names_nodup {p q : Nat → Bool} (h : ∀ j, p j = true → q j = true → False) : (pickF p 10 ++ pickF q 10).Nodup := by
  unfold pickF
  rw [← List.map_append]
  refine List.pairwise_map.2 ?_
  have hn : ((List.range 10).filter p ++ (List.range 10).filter q).Nodup := by
    rw [List.nodup_append]
    refine ⟨List.nodup_range.filter _, List.nodup_range.filter _, fun a ha b hb e => ?_⟩
    subst e
    exact h a (List.mem_filter.1 ha).2 (List.mem_filter.1 hb).2
  have hlt : ∀ x ∈ (List.range 10).filter p ++ (List.range 10).filter q, x < 10 := fun x hx => by
    rcases List.mem_append.1 hx with hx | hx
    · exact List.mem_range.1 (List.mem_filter.1 hx).1
    · exact List.mem_range.1 (List.mem_filter.1 hx).1
  refine List.Pairwise.imp_of_mem (fun {a b} ha hb hne e => hne ?_) hn
  have h1 := hlt a ha
  have h2 := hlt b hb
  have := nameF_inj (a : Int) (b : Int) (by omega) (by omega) (by omega) (by omega) e
  omega
theorem unit_nodup {u : Un} (h : UnitG u) : (u.d ++ u.v).Nodup := by
  obtain ⟨sk, sp, h1, h2⟩ := h.vars
  rw [h1, h2]
  refine names_nodup fun j hp hq => ?_
  simp only [decide_eq_true_eq] at hp hq
  exact hq.2 hp.2
theorem nodup_ne {α : Type} {l : List α} (h : l.Nodup) {i j : Nat} (hi : i < l.length) (hj : j < l.length) (hne : i ≠ j) : l[i] ≠ l[j] := fun e => hne ((List.getElem_inj h).1 e)
theorem posF_at {l : List ByteArray} (h : l.Nodup) {i : Nat} (hi : i < l.length) : posF l l[i] = (i : Int) :=
  posF_hit hi (fun j hj hji => by rw [bbeq]; simp only [decide_eq_false_iff_not]; exact nodup_ne h hj hi (by omega)) (by rw [bbeq]; simp)
theorem index_at {d v : List ByteArray} (h : (d ++ v).Nodup) {i : Nat} (hi : i < (d ++ v).length) : indexF d v (d ++ v)[i] = (i : Int) := by
  obtain ⟨hd, hv, hdis⟩ := List.nodup_append.1 h
  unfold indexF
  by_cases hlt : i < d.length
  · rw [List.getElem_append_left hlt, posF_at hd hlt, if_pos (by omega)]
  · have hi2 : i - d.length < v.length := by rw [List.length_append] at hi; omega
    rw [List.getElem_append_right (by omega), posF_at hv hi2]
    have hm : posF d v[i - d.length] = -1 := posF_miss fun j hj => by
      rw [bbeq]
      simp only [decide_eq_false_iff_not]
      exact hdis _ (List.getElem_mem hj) _ (List.getElem_mem hi2)
    rw [hm, if_neg (by omega), if_pos (by omega)]
    omega
theorem unit_spec' (l : List Int) : Spec Try.prog 15 [] [.sl 1 l.length (intsA l)] fun _ r => ∃ d v on, UnitG ⟨d, v, on⟩ ∧ r = .agg [.sl 1 d.length (strsA d), .sl 1 v.length (strsA v), .sl 5 on.length (hsL on)] :=
  (unit_spec l).mono fun _ r ⟨u, hu, hr⟩ => ⟨u.d, u.v, u.on, hu, hr⟩
theorem unit_lens {d v : List ByteArray} {on : List (Int × Nd)} (hu : UnitG ⟨d, v, on⟩) : d.length ≤ 10 ∧ v.length ≤ 10 := by
  obtain ⟨sk, sp, h1, h2⟩ := hu.vars
  simp only at h1 h2
  exact ⟨by rw [h1]; exact pickF_len _ _, by rw [h2]; exact pickF_len _ _⟩
theorem index_law_spec (l : List Int) (name : ByteArray) : Spec Try.prog 9 [] [.sl 1 l.length (intsA l), .v (.string name)] fun _ r => r = boolA true := by
  refine spec_of (cx_ok ord9 xs0 0) Try.func9 rfl (by kernel_rfl) rfl (by kernel_rfl) ?_
  intro hok
  conv => whnf
  refine call0 [] rfl (fun _ => unit_spec' l) ?_
  rintro r ⟨d, v, on, hu, rfl⟩
  have hsm := unitG_small hu
  have hnd := unit_nodup hu
  have his := fun s => index_spec _ s hsm
  have hrs := fun s => rindex_spec _ s hsm
  obtain ⟨hdl, hvl⟩ := unit_lens hu
  unfold unL' at his hrs
  simp only at his hrs hnd
  conv => whnf
  refine call0 [] rfl (fun _ => his name) ?_
  rintro r rfl
  conv => whnf
  refine call0 [] rfl (fun _ => hrs name) ?_
  rintro r rfl
  conv => whnf
  rw [show decide (indexF d v name = indexF d v name) = true from decide_eq_true rfl]
  conv => whnf
  refine call0 [] rfl (fun _ => his _) ?_
  rintro r rfl
  conv => whnf
  refine call0 [] rfl (fun _ => hrs _) ?_
  rintro r rfl
  generalize indexF d v _ = z
  conv => whnf
  rw [show decide (z = z) = true from decide_eq_true rfl]
  conv => whnf
  refine ⟨⟨by unfold maxLen; omega, by omega⟩, ?_⟩
  conv => whnf
  refine ⟨⟨by unfold maxLen; omega, by omega⟩, ?_⟩
  conv => whnf
  refine loop_pub [1] ?_
  conv => whnf
  refine loop_keep [4, 5, 6] ?_
  conv => whnf
  rw [strsA_append, show d.length + v.length = (d ++ v).length from List.length_append.symm]
  generalize hall : d ++ v = all at *
  refine loop_go (fun k : Nat => [(7, .v (.int .i64 k))]) (fun _ => [[.sl 1 d.length (strsA d), .sl 1 v.length (strsA v), .sl 5 on.length (hsL on)]]) (fun _ => []) (fun k => k ≤ all.length) (fun k => all.length - k) 0 ?_ (Nat.zero_le _) ?_
  · repeat' constructor
  · intro k hk
    have hal : all.length ≤ 20 := by rw [← hall, List.length_append]; omega
    conv => whnf
    by_cases hlt : k < all.length
    · refine br_true (by simp; omega) ?_
      conv => whnf
      refine ⟨⟨by omega, by omega⟩, ?_⟩
      conv => whnf
      rw [show rowOf (List.length [Value.string { data := #[] }]) (Int.toNat (k : Int)) (strsA all) = [.v (.string all[k])] from rowOf_strs all k hlt]
      conv => whnf
      have hik : indexF d v all[k] = (k : Int) := by subst hall; exact index_at hnd hlt
      refine call0 [] rfl (fun _ => his all[k]) ?_
      rintro r rfl
      rw [hik]
      conv => whnf
      rw [show decide ((k : Int) = (k : Int)) = true from decide_eq_true rfl]
      conv => whnf
      refine ⟨i64r (by omega), ?_⟩
      conv => whnf
      refine ⟨k + 1, le_head ?_, hlt, by omega⟩
      repeat' constructor
    · refine br_false (by simp; omega) ?_
      conv => whnf
      refine call0 [] rfl (fun _ => lives_spec) ?_
      rintro r rfl
      conv => whnf
      rfl
end Go.Proofs.Ytlmdmmikocbmlaa.Vm
