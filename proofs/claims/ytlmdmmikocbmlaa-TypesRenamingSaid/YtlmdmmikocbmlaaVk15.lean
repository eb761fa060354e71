/- Renamed and Decimal: their walks. -/
import Derived.Test.YtlmdmmikocbmlaaVk14
namespace Go.Proofs.Ytlmdmmikocbmlaa.Vm
open Go.RowKit
set_option linter.unusedSimpArgs false
set_option linter.unusedVariables false
set_option maxRecDepth 100000
def RenC (sfx : ByteArray) (t : Nd) : Prop := goodN t → shortN t → Spec Try.prog 23 [] [.agg (ndL t), .v (.string sfx)] fun _ r => r = .agg (ndL (renF sfx t))
theorem ren_row {e : Nat} {sfx : ByteArray} {kids : List Nd} {j : Nat} (hj : j < kids.length) :
    Row.live e 4 (j + 1) (ndsL ((kids.take j).map (renF sfx)) ++ ndL (renF sfx kids[j])) = Row.live e 4 (j + 1) (ndsL ((kids.take (j + 1)).map (renF sfx))) := by
  rw [List.take_succ_eq_append_getElem hj, List.map_append, ndsL_flat, ndsL_flat, List.flatMap_append]
  simp
theorem ren_step (sfx : ByteArray) (hsf : sfx.size ≤ 1000) (k n : Int) (s : ByteArray) (kids : List Nd) (ih : ∀ x ∈ kids, RenC sfx x) : RenC sfx (.mk k n s kids) := by
  intro hg hsh
  unfold goodN at hg
  unfold shortN at hsh
  obtain ⟨hkl, -, hgs⟩ := hg
  obtain ⟨hss, hshs⟩ := hsh
  have d : ∀ {m : Int} {b : Bool}, decide (k = m) = b → (k = m ↔ b = true) := fun e => by rw [← e]; simp
  have hlen : (renFs sfx kids).length = kids.length := by rw [renFs_map]; simp
  have hkids : renFs sfx kids = kids.map (renF sfx) := renFs_map sfx kids
  have hres : ∀ s2, s2 = (if k = 1 ∨ k = 14 then s ++ sfx else s) → A.agg (ndL (renF sfx (.mk k n s kids))) = A.agg [.v (.int .i64 k), .v (.int .i64 n), .v (.string s2), .sl 4 kids.length (ndsL (kids.map (renF sfx)))] := fun s2 e => by
    unfold renF ndL
    rw [hlen, hkids, e]
  generalize A.agg (ndL (renF sfx (.mk k n s kids))) = res at *
  refine spec_of (cx_ok ord23 xs0 0) Try.func23 rfl (by kernel_rfl) rfl (by kernel_rfl) ?_
  intro hok
  conv => whnf
  cases h1 : decide (k = 1)
  · conv => whnf
    cases h14 : decide (k = 14)
    · have hres := hres s (by rw [if_neg (fun e => e.elim (fun e => absurd ((d h1).1 e) (by simp)) (fun e => absurd ((d h14).1 e) (by simp)))])
      conv => whnf
      refine loop_row 25 4 [] [(2, 3)] ?_
      conv => whnf
      refine ⟨trivial, ?_⟩
      conv => whnf
      refine loop_keep [1, 2, 4, 5] ?_
      conv => whnf
      refine loop_go (fun j : Nat => [(6, .v (.int .i64 j))]) (fun _ => [[.v (.int .i64 k), .v (.int .i64 n), .v (.string s), .sl 4 kids.length (ndsL kids)], [.v (.int .i64 0), .v (.int .i64 0), .v (.string ⟨#[]⟩), .v (.slice none 0 0)], [.v (.int .i64 k), .v (.int .i64 n), .v (.string (s)), .own 0]]) (fun j => [.live 25 4 j (ndsL ((kids.take j).map (renF sfx)))]) (fun j => j ≤ kids.length) (fun j => kids.length - j) 0 ?_ (Nat.zero_le _) ?_
      · repeat' constructor
      · intro j hj
        conv => whnf
        by_cases hlt : j < kids.length
        · refine br_true (by simp; omega) ?_
          conv => whnf
          refine ⟨⟨by omega, by omega⟩, ?_⟩
          conv => whnf
          rw [show rowOf 4 (Int.toNat (j : Int)) (ndsL kids) = _ from rowOf_nds' kids j hlt]
          conv => whnf
          have hsp := ih kids[j] (List.getElem_mem hlt) (goodNs_mem hgs (List.getElem_mem hlt)) (shortNs_mem hshs (List.getElem_mem hlt))
          rw [ndL_eq kids[j]] at hsp
          refine call0 [] rfl (fun _ => hsp) ?_
          rintro r rfl
          rw [ndL_eq (renF sfx kids[j])]
          conv => whnf
          refine ⟨⟨by unfold maxLen; omega, by omega⟩, ?_⟩
          conv => whnf
          refine ⟨i64r (by omega), ?_⟩
          conv => whnf
          refine ⟨j + 1, le_head ?_, hlt, by omega⟩
          repeat' constructor
          have hrow := ren_row (e := 25) (sfx := sfx) hlt
          rw [ndL_eq (renF sfx kids[j])] at hrow
          exact hrow
        · refine br_false (by simp; omega) ?_
          obtain rfl : j = kids.length := by omega
          conv => whnf
          rw [List.take_length]
          exact hres.symm
    · have hres := hres (s ++ sfx) (by rw [if_pos (.inr ((d h14).2 rfl))])
      conv => whnf
      refine ⟨by unfold maxLen; omega, ?_⟩
      conv => whnf
      refine loop_row 25 4 [] [(2, 3)] ?_
      conv => whnf
      refine ⟨trivial, ?_⟩
      conv => whnf
      refine loop_keep [1, 2, 4, 5] ?_
      conv => whnf
      refine loop_go (fun j : Nat => [(6, .v (.int .i64 j))]) (fun _ => [[.v (.int .i64 k), .v (.int .i64 n), .v (.string s), .sl 4 kids.length (ndsL kids)], [.v (.int .i64 0), .v (.int .i64 0), .v (.string ⟨#[]⟩), .v (.slice none 0 0)], [.v (.int .i64 k), .v (.int .i64 n), .v (.string (s ++ sfx)), .own 0]]) (fun j => [.live 25 4 j (ndsL ((kids.take j).map (renF sfx)))]) (fun j => j ≤ kids.length) (fun j => kids.length - j) 0 ?_ (Nat.zero_le _) ?_
      · repeat' constructor
      · intro j hj
        conv => whnf
        by_cases hlt : j < kids.length
        · refine br_true (by simp; omega) ?_
          conv => whnf
          refine ⟨⟨by omega, by omega⟩, ?_⟩
          conv => whnf
          rw [show rowOf 4 (Int.toNat (j : Int)) (ndsL kids) = _ from rowOf_nds' kids j hlt]
          conv => whnf
          have hsp := ih kids[j] (List.getElem_mem hlt) (goodNs_mem hgs (List.getElem_mem hlt)) (shortNs_mem hshs (List.getElem_mem hlt))
          rw [ndL_eq kids[j]] at hsp
          refine call0 [] rfl (fun _ => hsp) ?_
          rintro r rfl
          rw [ndL_eq (renF sfx kids[j])]
          conv => whnf
          refine ⟨⟨by unfold maxLen; omega, by omega⟩, ?_⟩
          conv => whnf
          refine ⟨i64r (by omega), ?_⟩
          conv => whnf
          refine ⟨j + 1, le_head ?_, hlt, by omega⟩
          repeat' constructor
          have hrow := ren_row (e := 25) (sfx := sfx) hlt
          rw [ndL_eq (renF sfx kids[j])] at hrow
          exact hrow
        · refine br_false (by simp; omega) ?_
          obtain rfl : j = kids.length := by omega
          conv => whnf
          rw [List.take_length]
          exact hres.symm
  · have hres := hres (s ++ sfx) (by rw [if_pos (.inl ((d h1).2 rfl))])
    conv => whnf
    refine ⟨by unfold maxLen; omega, ?_⟩
    conv => whnf
    refine loop_row 25 4 [] [(2, 3)] ?_
    conv => whnf
    refine ⟨trivial, ?_⟩
    conv => whnf
    refine loop_keep [1, 2, 4, 5] ?_
    conv => whnf
    refine loop_go (fun j : Nat => [(6, .v (.int .i64 j))]) (fun _ => [[.v (.int .i64 k), .v (.int .i64 n), .v (.string s), .sl 4 kids.length (ndsL kids)], [.v (.int .i64 0), .v (.int .i64 0), .v (.string ⟨#[]⟩), .v (.slice none 0 0)], [.v (.int .i64 k), .v (.int .i64 n), .v (.string (s ++ sfx)), .own 0]]) (fun j => [.live 25 4 j (ndsL ((kids.take j).map (renF sfx)))]) (fun j => j ≤ kids.length) (fun j => kids.length - j) 0 ?_ (Nat.zero_le _) ?_
    · repeat' constructor
    · intro j hj
      conv => whnf
      by_cases hlt : j < kids.length
      · refine br_true (by simp; omega) ?_
        conv => whnf
        refine ⟨⟨by omega, by omega⟩, ?_⟩
        conv => whnf
        rw [show rowOf 4 (Int.toNat (j : Int)) (ndsL kids) = _ from rowOf_nds' kids j hlt]
        conv => whnf
        have hsp := ih kids[j] (List.getElem_mem hlt) (goodNs_mem hgs (List.getElem_mem hlt)) (shortNs_mem hshs (List.getElem_mem hlt))
        rw [ndL_eq kids[j]] at hsp
        refine call0 [] rfl (fun _ => hsp) ?_
        rintro r rfl
        rw [ndL_eq (renF sfx kids[j])]
        conv => whnf
        refine ⟨⟨by unfold maxLen; omega, by omega⟩, ?_⟩
        conv => whnf
        refine ⟨i64r (by omega), ?_⟩
        conv => whnf
        refine ⟨j + 1, le_head ?_, hlt, by omega⟩
        repeat' constructor
        have hrow := ren_row (e := 25) (sfx := sfx) hlt
        rw [ndL_eq (renF sfx kids[j])] at hrow
        exact hrow
      · refine br_false (by simp; omega) ?_
        obtain rfl : j = kids.length := by omega
        conv => whnf
        rw [List.take_length]
        exact hres.symm
mutual
theorem ren_all (sfx : ByteArray) (hsf : sfx.size ≤ 1000) : ∀ t : Nd, RenC sfx t
  | .mk k n s l => ren_step sfx hsf k n s l (ren_alls sfx hsf l)
theorem ren_alls (sfx : ByteArray) (hsf : sfx.size ≤ 1000) : ∀ l : List Nd, ∀ x ∈ l, RenC sfx x
  | [] => fun _ h => by cases h
  | t :: ts =>
    have h1 := ren_all sfx hsf t
    have h2 := ren_alls sfx hsf ts
    fun x hx => (List.mem_cons.1 hx).elim (fun e => e ▸ h1) (h2 x)
end
end Go.Proofs.Ytlmdmmikocbmlaa.Vm
