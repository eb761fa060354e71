/- Replace: its walk. -/
import Derived.Test.YtlmdmmikocbmlaaVk17
namespace Go.Proofs.Ytlmdmmikocbmlaa.Vm
open Go.RowKit
set_option linter.unusedSimpArgs false
set_option linter.unusedVariables false
set_option maxRecDepth 100000
def RepC (typ : Int) (y t : Nd) : Prop := ∀ p : Int, -2000000000 + cntN t ≤ p → p ≤ 2000000000 → goodN t → cntN t ≤ 1000000 → Spec Try.prog 20 [] [.agg (ndL t), .v (.int .i64 typ), .v (.int .i64 p), .agg (ndL y)]
  fun _ r => r = .tup [.agg (ndL (repF typ y t p).1), .v (.int .i64 (repF typ y t p).2)]
theorem nds_snoc (l : List Nd) (t : Nd) : ndsL (l ++ [t]) = ndsL l ++ ndL t := by rw [ndsL_flat, ndsL_flat, List.flatMap_append]; simp
theorem repF_eq (typ : Int) (y : Nd) (k n : Int) (s : ByteArray) (kids : List Nd) (p : Int) : repF typ y (.mk k n s kids) p = if rtypeF (.mk k n s kids) = typ then
      (if p = 0 then (y, 1) else (.mk k n s (repFs typ y kids p 1).1, (repFs typ y kids p 1).2))
    else (.mk k n s (repFs typ y kids p 0).1, (repFs typ y kids p 0).2) := by rw [repF]
theorem rep_step (typ : Int) (y : Nd) (k n : Int) (s : ByteArray) (kids : List Nd) (ih : ∀ x ∈ kids, RepC typ y x) : RepC typ y (.mk k n s kids) := by
  intro p hp1 hp2 hg hc
  have hty := rtypeOf_spec (.mk k n s kids) (good_small _ hg)
  have hR := repF_eq typ y k n s kids p
  generalize rtypeF (.mk k n s kids) = ty at *
  unfold goodN at hg
  obtain ⟨hkl, -, hgs⟩ := hg
  unfold cntN at hp1 hc
  obtain ⟨yk, yn, ys, yl⟩ := y
  generalize repF typ ⟨yk, yn, ys, yl⟩ (.mk k n s kids) p = res at *
  refine spec_of (cx_ok ord20 xs0 0) Try.func20 rfl (by kernel_rfl) rfl (by kernel_rfl) ?_
  intro hok
  conv => whnf
  refine call0 [] rfl (fun _ => hty) ?_
  rintro r rfl
  conv => whnf
  cases h1 : decide (ty = typ)
  · have q1 : ¬ ty = typ := by simpa using h1
    rw [if_neg q1] at hR
    conv => whnf
    refine loop_row 25 4 [] [(3, 3)] ?_
    conv => whnf
    refine ⟨trivial, ?_⟩
    conv => whnf
    refine loop_keep [1, 2, 4, 7, 8, 12] ?_
    conv => whnf
    refine loop_go (fun j : Nat => [(11, .v (.int .i64 (repFs typ ⟨yk, yn, ys, yl⟩ (kids.take j) p 0).2)), (13, .v (.int .i64 j))])
      (fun _ => [[.v (.int .i64 k), .v (.int .i64 n), .v (.string s), .sl 4 kids.length (ndsL kids)], [.v (.int .i64 yk), .v (.int .i64 yn), .v (.string ys), .sl 4 yl.length (ndsL yl)], [.v (.int .i64 0), .v (.int .i64 0), .v (.string ⟨#[]⟩), .v (.slice none 0 0)], [.v (.int .i64 k), .v (.int .i64 n), .v (.string s), .own 0]])
      (fun j => [.live 25 4 j (ndsL (repFs typ ⟨yk, yn, ys, yl⟩ (kids.take j) p 0).1)]) (fun j => j ≤ kids.length) (fun j => kids.length - j) 0 ?_ (Nat.zero_le _) ?_
    · repeat' constructor
    · intro j hj
      have hcj := repFs_cnt typ ⟨yk, yn, ys, yl⟩ (kids.take j) p 0
      have hct := cntNs_take' kids j
      conv => whnf
      by_cases hlt : j < kids.length
      · have htk := repFs_take typ ⟨yk, yn, ys, yl⟩ p 0 kids j hlt
        have hck := cntNs_take kids j hlt
        generalize hacc : repFs typ ⟨yk, yn, ys, yl⟩ (kids.take j) p 0 = acc at *
        refine br_true (by simp; omega) ?_
        conv => whnf
        apply join_eq
        · conv => whnf
          refine ⟨⟨by omega, by omega⟩, ?_⟩
          conv => whnf
          rw [show rowOf 4 (Int.toNat (j : Int)) (ndsL kids) = _ from rowOf_nds' kids j hlt]
          conv => whnf
          refine ⟨i64r (by omega), ?_⟩
          conv => whnf
          have hsp := ih kids[j] (List.getElem_mem hlt) (p - acc.2) (by omega) (by omega) (goodNs_mem hgs (List.getElem_mem hlt)) (by omega)
          rw [ndL_eq kids[j], ndL_eq (repF typ ⟨yk, yn, ys, yl⟩ kids[j] (p - acc.2)).1] at hsp
          refine ⟨?_, ?_⟩
          · conv => whnf
            refine call0 [] rfl (fun _ => hsp) ?_
            rintro r rfl
            conv => whnf
          · conv => whnf
            refine call0 [] rfl (fun _ => hsp) ?_
            rintro r rfl
            conv => whnf
        · have hkc := repF_cnt typ ⟨yk, yn, ys, yl⟩ kids[j] (p - acc.2)
          conv => whnf
          refine ⟨⟨by unfold maxLen; omega, by omega⟩, ?_⟩
          conv => whnf
          refine ⟨i64r (by omega), ?_⟩
          conv => whnf
          refine ⟨i64r (by omega), ?_⟩
          conv => whnf
          refine ⟨j + 1, le_head ?_, hlt, by omega⟩
          repeat' constructor
          · rw [htk]
          · rw [htk, nds_snoc, ndL_eq]
      · refine br_false (by simp; omega) ?_
        obtain rfl : j = kids.length := by omega
        conv => whnf
        rw [hR, List.take_length]
        unfold ndL
        rw [repFs_len]
  · have q1 : ty = typ := by simpa using h1
    rw [if_pos q1] at hR
    conv => whnf
    cases h2 : decide (p = 0)
    · have q2 : ¬ p = 0 := by simpa using h2
      rw [if_neg q2] at hR
      conv => whnf
      refine loop_row 25 4 [] [(3, 3)] ?_
      conv => whnf
      refine ⟨trivial, ?_⟩
      conv => whnf
      refine loop_keep [1, 2, 4, 7, 8, 12] ?_
      conv => whnf
      refine loop_go (fun j : Nat => [(11, .v (.int .i64 (repFs typ ⟨yk, yn, ys, yl⟩ (kids.take j) p 1).2)), (13, .v (.int .i64 j))])
        (fun _ => [[.v (.int .i64 k), .v (.int .i64 n), .v (.string s), .sl 4 kids.length (ndsL kids)], [.v (.int .i64 yk), .v (.int .i64 yn), .v (.string ys), .sl 4 yl.length (ndsL yl)], [.v (.int .i64 0), .v (.int .i64 0), .v (.string ⟨#[]⟩), .v (.slice none 0 0)], [.v (.int .i64 k), .v (.int .i64 n), .v (.string s), .own 0]])
        (fun j => [.live 25 4 j (ndsL (repFs typ ⟨yk, yn, ys, yl⟩ (kids.take j) p 1).1)]) (fun j => j ≤ kids.length) (fun j => kids.length - j) 0 ?_ (Nat.zero_le _) ?_
      · repeat' constructor
      · intro j hj
        have hcj := repFs_cnt typ ⟨yk, yn, ys, yl⟩ (kids.take j) p 1
        have hct := cntNs_take' kids j
        conv => whnf
        by_cases hlt : j < kids.length
        · have htk := repFs_take typ ⟨yk, yn, ys, yl⟩ p 1 kids j hlt
          have hck := cntNs_take kids j hlt
          generalize hacc : repFs typ ⟨yk, yn, ys, yl⟩ (kids.take j) p 1 = acc at *
          refine br_true (by simp; omega) ?_
          conv => whnf
          apply join_eq
          · conv => whnf
            refine ⟨⟨by omega, by omega⟩, ?_⟩
            conv => whnf
            rw [show rowOf 4 (Int.toNat (j : Int)) (ndsL kids) = _ from rowOf_nds' kids j hlt]
            conv => whnf
            refine ⟨i64r (by omega), ?_⟩
            conv => whnf
            have hsp := ih kids[j] (List.getElem_mem hlt) (p - acc.2) (by omega) (by omega) (goodNs_mem hgs (List.getElem_mem hlt)) (by omega)
            rw [ndL_eq kids[j], ndL_eq (repF typ ⟨yk, yn, ys, yl⟩ kids[j] (p - acc.2)).1] at hsp
            refine ⟨?_, ?_⟩
            · conv => whnf
              refine call0 [] rfl (fun _ => hsp) ?_
              rintro r rfl
              conv => whnf
            · conv => whnf
              refine call0 [] rfl (fun _ => hsp) ?_
              rintro r rfl
              conv => whnf
          · have hkc := repF_cnt typ ⟨yk, yn, ys, yl⟩ kids[j] (p - acc.2)
            conv => whnf
            refine ⟨⟨by unfold maxLen; omega, by omega⟩, ?_⟩
            conv => whnf
            refine ⟨i64r (by omega), ?_⟩
            conv => whnf
            refine ⟨i64r (by omega), ?_⟩
            conv => whnf
            refine ⟨j + 1, le_head ?_, hlt, by omega⟩
            repeat' constructor
            · rw [htk]
            · rw [htk, nds_snoc, ndL_eq]
        · refine br_false (by simp; omega) ?_
          obtain rfl : j = kids.length := by omega
          conv => whnf
          rw [hR, List.take_length]
          unfold ndL
          rw [repFs_len]
    · have q2 : p = 0 := by simpa using h2
      rw [if_pos q2] at hR
      conv => whnf
      subst hR
      rfl
mutual
theorem rep_all (typ : Int) (y : Nd) : ∀ t : Nd, RepC typ y t
  | .mk k n s l => rep_step typ y k n s l (rep_alls typ y l)
theorem rep_alls (typ : Int) (y : Nd) : ∀ l : List Nd, ∀ x ∈ l, RepC typ y x
  | [] => fun _ h => by cases h
  | t :: ts =>
    have h1 := rep_all typ y t
    have h2 := rep_alls typ y ts
    fun x hx => (List.mem_cons.1 hx).elim (fun e => e ▸ h1) (h2 x)
end
end Go.Proofs.Ytlmdmmikocbmlaa.Vm
