/- renamed, without, the reference's Index. -/
import Derived.Test.YtlmdmmikocbmlaaVk1
namespace Go.Proofs.Ytlmdmmikocbmlaa.Vm
open Go.RowKit
set_option linter.unusedSimpArgs false
set_option linter.unusedVariables false
theorem renamed_spec (l : List ByteArray) (sfx : ByteArray) (hl : l.length ≤ 1000000) (hs : ∀ x ∈ l, x.size + sfx.size ≤ maxLen) : Spec Try.prog 22 [] [.sl 1 l.length (strsA l), .v (.string sfx)]
    (fun _ r => r = .sl 1 l.length (strsA (l.map (· ++ sfx)))) := by
  refine spec_of (cx_ok ord0 xs0 0) Try.func22 rfl (by kernel_rfl) rfl (by kernel_rfl) ?_
  intro hok
  conv => whnf
  refine loop_row 9 1 [5] [] ?_
  conv => whnf
  refine ⟨trivial, ?_⟩
  conv => whnf
  refine loop_at [7, 8, 9, 10, 13, 14, 15, 16, 17, 18, 19, 20, 21, 5, 11, 12, 6] ?_
  conv => whnf
  refine loop_go (fun k : Nat => [(5, .own 0), (6, .v (.int .i64 k))]) (fun _ => []) (fun k => [.live 9 1 k (strsA ((l.take k).map (· ++ sfx)))]) (fun k => k ≤ l.length) (fun k => l.length - k) 0 ?_ (Nat.zero_le _) ?_
  · repeat' constructor
  · intro k hk
    conv => whnf
    by_cases hlt : k < l.length
    · refine br_true (by simp; omega) ?_
      conv => whnf
      refine ⟨⟨by omega, by omega⟩, ?_⟩
      conv => whnf
      rw [show rowOf 1 (Int.toNat (k : Int)) (strsA l) = [.v (.string l[k])] from rowOf_strs l k hlt]
      conv => whnf
      refine ⟨hs _ (List.getElem_mem hlt), ?_⟩
      conv => whnf
      refine ⟨⟨by unfold maxLen; omega, by omega⟩, ?_⟩
      conv => whnf
      refine ⟨i64r (by omega), ?_⟩
      conv => whnf
      refine ⟨k + 1, le_head ?_, hlt, by omega⟩
      repeat' constructor
      simp only [List.take_succ_eq_append_getElem hlt, strsA, List.map_append, List.map_cons, List.map_nil]
    · refine br_false (by simp; omega) ?_
      obtain rfl : k = l.length := by omega
      conv => whnf
      simp
theorem without_spec (l : List ByteArray) (s : ByteArray) (hl : l.length ≤ 1000000) : Spec Try.prog 27 [] [.sl 1 l.length (strsA l), .v (.string s)]
    (fun _ r => r = .sl 1 (l.filter (fun x => x ≠ s)).length (strsA (l.filter (fun x => x ≠ s)))) := by
  refine spec_of (cx_ok ord0 xs0 0) Try.func27 rfl (by kernel_rfl) rfl (by kernel_rfl) ?_
  intro hok
  conv => whnf
  refine loop_row 9 1 [5] [] ?_
  conv => whnf
  refine ⟨trivial, ?_⟩
  conv => whnf
  refine loop_at [7, 8, 9, 10, 13, 14, 15, 16, 17, 18, 19, 20, 21, 22, 23, 24, 25, 5, 11, 12, 6] ?_
  conv => whnf
  refine loop_go (fun k : Nat => [(5, .own 0), (6, .v (.int .i64 k))]) (fun _ => []) (fun k => [.live 9 1 ((l.take k).filter (fun x => x ≠ s)).length (strsA ((l.take k).filter (fun x => x ≠ s)))]) (fun k => k ≤ l.length) (fun k => l.length - k) 0 ?_ (Nat.zero_le _) ?_
  · repeat' constructor
  · intro k hk
    conv => whnf
    by_cases hlt : k < l.length
    · refine br_true (by simp; omega) ?_
      conv => whnf
      refine ⟨⟨by omega, by omega⟩, ?_⟩
      conv => whnf
      rw [show rowOf 1 (Int.toNat (k : Int)) (strsA l) = [.v (.string l[k])] from rowOf_strs l k hlt]
      conv => whnf
      have hfl : ((l.take k).filter (fun x => x ≠ s)).length ≤ k := Nat.le_trans (List.length_filter_le _ _) (List.length_take_le _ _)
      by_cases he : l[k] = s
      · refine br_false (by simp [he]) ?_
        conv => whnf
        refine ⟨i64r (by omega), ?_⟩
        conv => whnf
        refine ⟨k + 1, le_head ?_, hlt, by omega⟩
        repeat' constructor
        simp only [List.take_succ_eq_append_getElem hlt, List.filter_append, List.filter_cons, he, List.filter_nil, ne_eq, not_true_eq_false, decide_false, Bool.false_eq_true, if_false, List.append_nil]
      · refine br_true (by simp [he]) ?_
        conv => whnf
        refine ⟨⟨by omega, by omega⟩, ?_⟩
        conv => whnf
        rw [show rowOf 1 (Int.toNat (k : Int)) (strsA l) = [.v (.string l[k])] from rowOf_strs l k hlt]
        conv => whnf
        refine ⟨⟨by unfold maxLen; omega, by omega⟩, ?_⟩
        conv => whnf
        refine ⟨i64r (by omega), ?_⟩
        conv => whnf
        refine ⟨k + 1, le_head ?_, hlt, by omega⟩
        repeat' constructor
        simp only [List.take_succ_eq_append_getElem hlt, List.filter_append, List.filter_cons, he, List.filter_nil, ne_eq, not_false_eq_true, decide_true, if_true, List.length_append, List.length_cons, List.length_nil, strsA, List.map_append, List.map_cons, List.map_nil]
    · refine br_false (by simp; omega) ?_
      obtain rfl : k = l.length := by omega
      conv => whnf
      simp
set_option maxRecDepth 100000 in
theorem rindex_spec (u : Un) (s : ByteArray) (hs : smallU u) : Spec Try.prog 26 [] [.agg (unL' u), .v (.string s)] fun _ r => r = intA (indexF u.d u.v s) := by
  obtain ⟨d, v, on⟩ := u
  obtain ⟨h1, h2, h3, -⟩ := hs
  simp only at h1 h2 h3
  refine spec_of (cx_ok ord0 xs0 0) Try.func26 rfl (by kernel_rfl) rfl (by kernel_rfl) ?_
  intro hok
  conv => whnf
  refine loop_at [7, 8, 9, 10, 11, 14, 15, 16, 17, 18, 19, 20, 21, 4, 12, 13, 5] ?_
  conv => whnf
  refine loop_go (fun k : Nat => [(5, .v (.int .i64 k))]) (fun _ => [[.sl 1 d.length (strsA d), .sl 1 v.length (strsA v), .sl 5 on.length (hsL on)]]) (fun _ => []) (fun k => k ≤ d.length ∧ ∀ j (hj : j < d.length), j < k → (d[j] == s) = false) (fun k => d.length - k) 0 ?_ ⟨Nat.zero_le _, fun j hj h => absurd h (by omega)⟩ ?_
  · repeat' constructor
  · rintro k ⟨hk, hno⟩
    conv => whnf
    by_cases hlt : k < d.length
    · refine br_true (by simp; omega) ?_
      conv => whnf
      refine ⟨⟨by omega, by omega⟩, ?_⟩
      conv => whnf
      rw [show rowOf 1 (Int.toNat (k : Int)) (strsA d) = [.v (.string d[k])] from rowOf_strs d k hlt]
      conv => whnf
      by_cases he : d[k] = s
      · refine br_true (by simp [he]) ?_
        conv => whnf
        have := posF_hit (s := s) hlt hno (by rw [bbeq, he]; simp)
        show _ = intA (indexF d v s)
        unfold indexF
        rw [this, if_pos (by omega)]; rfl
      · refine br_false (by simp [he]) ?_
        conv => whnf
        refine ⟨i64r (by omega), ?_⟩
        conv => whnf
        refine ⟨k + 1, le_head ?_, ⟨hlt, fun j hj h => ?_⟩, by omega⟩
        · repeat' constructor
        · by_cases hjk : j = k
          · subst hjk; rw [bbeq]; simp [he]
          · exact hno j hj (by omega)
    · refine br_false (by simp; omega) ?_
      have hd : posF d s = -1 := posF_miss fun j hj => hno j hj (by omega)
      conv => whnf
      refine loop_at [22, 23, 24, 25, 26, 29, 30, 31, 32, 33, 34, 35, 36, 37, 38, 39, 40, 4, 27, 28, 6] ?_
      conv => whnf
      refine loop_go (fun k : Nat => [(6, .v (.int .i64 k))]) (fun _ => [[.sl 1 d.length (strsA d), .sl 1 v.length (strsA v), .sl 5 on.length (hsL on)]]) (fun _ => []) (fun k => k ≤ v.length ∧ ∀ j (hj : j < v.length), j < k → (v[j] == s) = false) (fun k => v.length - k) 0 ?_ ⟨Nat.zero_le _, fun j hj h => absurd h (by omega)⟩ ?_
      · repeat' constructor
      · clear hlt hk hno
        rintro k ⟨hk, hno⟩
        conv => whnf
        by_cases hlt : k < v.length
        · refine br_true (by simp; omega) ?_
          conv => whnf
          refine ⟨⟨by omega, by omega⟩, ?_⟩
          conv => whnf
          rw [show rowOf 1 (Int.toNat (k : Int)) (strsA v) = [.v (.string v[k])] from rowOf_strs v k hlt]
          conv => whnf
          by_cases he : v[k] = s
          · refine br_true (by simp [he]) ?_
            conv => whnf
            refine ⟨i64r (by omega), ?_⟩
            conv => whnf
            have := posF_hit (s := s) hlt hno (by rw [bbeq, he]; simp)
            show _ = intA (indexF d v s)
            unfold indexF
            rw [hd, this, if_neg (by omega), if_pos (by omega)]; rfl
          · refine br_false (by simp [he]) ?_
            conv => whnf
            refine ⟨i64r (by omega), ?_⟩
            conv => whnf
            refine ⟨k + 1, le_head ?_, ⟨hlt, fun j hj h => ?_⟩, by omega⟩
            · repeat' constructor
            · by_cases hjk : j = k
              · subst hjk; rw [bbeq]; simp [he]
              · exact hno j hj (by omega)
        · refine br_false (by simp; omega) ?_
          have hv : posF v s = -1 := posF_miss fun j hj => hno j hj (by omega)
          conv => whnf
          show _ = intA (indexF d v s)
          unfold indexF
          rw [hd, hv]; rfl
end Go.Proofs.Ytlmdmmikocbmlaa.Vm
