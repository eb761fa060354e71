/- Names. -/
import Derived.Test.YtlmdmmikocbmlaaVk2
namespace Go.Proofs.Ytlmdmmikocbmlaa.Vm
open Go.RowKit
set_option linter.unusedSimpArgs false
set_option linter.unusedVariables false
mutual
/-- The names that occur in a tree, behind those of a list. -/
def nmF : Nd → List ByteArray → List ByteArray
  | .mk k _ s kids, l => nmFs kids (if (k = 1 ∨ k = 14) ∧ inF l s = false then l ++ [s] else l)
def nmFs : List Nd → List ByteArray → List ByteArray
  | [], l => l
  | t :: ts, l => nmFs ts (nmF t l)
end
mutual
def cntN : Nd → Nat
  | .mk _ _ _ kids => 1 + cntNs kids
def cntNs : List Nd → Nat
  | [] => 0
  | t :: ts => cntN t + cntNs ts
end
theorem snoc_le (c : Prop) [Decidable c] (l : List ByteArray) (s : ByteArray) : (if c then l ++ [s] else l).length ≤ l.length + 1 := by split <;> simp
mutual
theorem nmF_len : ∀ (t : Nd) (l : List ByteArray), (nmF t l).length ≤ l.length + cntN t
  | .mk k n s kids, l => by
    unfold nmF cntN
    have := nmFs_len kids (if (k = 1 ∨ k = 14) ∧ inF l s = false then l ++ [s] else l)
    have h2 := snoc_le ((k = 1 ∨ k = 14) ∧ inF l s = false) l s
    omega
theorem nmFs_len : ∀ (ts : List Nd) (l : List ByteArray), (nmFs ts l).length ≤ l.length + cntNs ts
  | [], l => by simp [nmFs, cntNs]
  | t :: ts, l => by
    unfold nmFs cntNs
    have h1 := nmF_len t l
    have h2 := nmFs_len ts (nmF t l)
    omega
end
theorem nmFs_append : ∀ (ts us : List Nd) (l : List ByteArray), nmFs (ts ++ us) l = nmFs us (nmFs ts l)
  | [], us, l => by simp [nmFs]
  | t :: ts, us, l => by simp [nmFs, nmFs_append ts us]
theorem nmFs_take (ts : List Nd) (l : List ByteArray) (i : Nat) (hi : i < ts.length) : nmFs (ts.take (i + 1)) l = nmF ts[i] (nmFs (ts.take i) l) := by
  rw [List.take_succ_eq_append_getElem hi, nmFs_append]; simp [nmFs]
theorem cntNs_take : ∀ (l : List Nd) (i : Nat) (hi : i < l.length), cntNs (l.take i) + cntN l[i] ≤ cntNs l
  | t :: ts, 0, _ => by simp [cntNs]
  | t :: ts, i + 1, hi => by
    have := cntNs_take ts i (by simpa using hi)
    simp only [List.take_succ_cons, cntNs, List.getElem_cons_succ]
    omega
def NamesC (t : Nd) : Prop := ∀ l : List ByteArray, smallN t → l.length + cntN t ≤ 1000000 → Spec Try.prog 28 [] [.agg (ndL t), .sl 1 l.length (strsA l)] fun _ r => r = .sl 1 (nmF t l).length (strsA (nmF t l))
theorem names_step (k n : Int) (s : ByteArray) (kids : List Nd) (ih : ∀ x ∈ kids, NamesC x) : NamesC (.mk k n s kids) := by
  intro l hsm hc
  unfold smallN at hsm
  obtain ⟨hkl, hsm⟩ := hsm
  unfold cntN at hc
  have hfin : ∀ l0, l0 = (if (k = 1 ∨ k = 14) ∧ inF l s = false then l ++ [s] else l) → nmF (.mk k n s kids) l = nmFs kids l0 := fun l0 e => by rw [e]; unfold nmF; rfl
  generalize hres : nmF (.mk k n s kids) l = res at *
  have d1 : ∀ {b : Bool}, decide (k = 1) = b → (k = 1 ↔ b = true) := fun e => by rw [← e]; simp
  have d14 : ∀ {b : Bool}, decide (k = 14) = b → (k = 14 ↔ b = true) := fun e => by rw [← e]; simp
  refine spec_of (cx_ok ord0 xs0 0) Try.func28 rfl (by kernel_rfl) rfl (by kernel_rfl) ?_
  intro hok
  conv => whnf
  cases h1 : decide (k = 1)
  · conv => whnf
    cases h14 : decide (k = 14)
    · conv => whnf
      have hl0 := hfin l (by rw [if_neg]; rw [d1 h1, d14 h14]; simp)
      refine loop_keep [0, 2] ?_
      conv => whnf
      refine loop_go (fun j : Nat => [(1, .sl 1 (nmFs (kids.take j) l).length (strsA (nmFs (kids.take j) l))), (6, .v (.int .i64 j))]) (fun _ => [[.v (.int .i64 k), .v (.int .i64 n), .v (.string s), .sl 4 kids.length (ndsL kids)]]) (fun _ => []) (fun j => j ≤ kids.length) (fun j => kids.length - j) 0 ?_ (Nat.zero_le _) ?_
      · repeat' constructor
        all_goals simp [nmFs, strsA]
      · intro j hj
        conv => whnf
        by_cases hlt : j < kids.length
        · have hn1 := nmFs_len (kids.take j) l
          have hn2 := cntNs_take kids j hlt
          have hn3 : (l).length ≤ l.length + 1 := by simp
          refine br_true (by simp; omega) ?_
          conv => whnf
          refine ⟨⟨by omega, by omega⟩, ?_⟩
          conv => whnf
          rw [show rowOf 4 (Int.toNat (j : Int)) (ndsL kids) = _ from rowOf_nds' kids j hlt]
          conv => whnf
          have hsp := ih kids[j] (List.getElem_mem hlt) (nmFs (kids.take j) l) (smallNs_mem hsm (List.getElem_mem hlt)) (by omega)
          rw [ndL_eq] at hsp
          refine call0 [] rfl (fun _ => hsp) ?_
          rintro r rfl
          rw [← nmFs_take kids _ j hlt]
          conv => whnf
          refine ⟨i64r (by omega), ?_⟩
          conv => whnf
          refine ⟨j + 1, le_head ?_, hlt, by omega⟩
          repeat' constructor
        · refine br_false (by simp; omega) ?_
          conv => whnf
          obtain rfl : j = kids.length := by omega
          rw [hl0, List.take_length]
    · conv => whnf
      refine call0 [] rfl (fun _ => in_spec l s (by omega)) ?_
      rintro r rfl
      cases hin : inF l s
      · conv => whnf
        have hl0 := hfin (l ++ [s]) (by rw [if_pos]; rw [d1 h1, d14 h14]; simp [hin])
        refine ⟨⟨by unfold maxLen; omega, by omega⟩, ?_⟩
        conv => whnf
        refine ⟨⟨by unfold maxLen; omega, by omega⟩, ?_⟩
        conv => whnf
        refine loop_pub [1] ?_
        conv => whnf
        refine loop_keep [0, 2] ?_
        conv => whnf
        refine loop_go (fun j : Nat => [(1, .sl 1 (nmFs (kids.take j) (l ++ [s])).length (strsA (nmFs (kids.take j) (l ++ [s])))), (6, .v (.int .i64 j))]) (fun _ => [[.v (.int .i64 k), .v (.int .i64 n), .v (.string s), .sl 4 kids.length (ndsL kids)]]) (fun _ => []) (fun j => j ≤ kids.length) (fun j => kids.length - j) 0 ?_ (Nat.zero_le _) ?_
        · repeat' constructor
          all_goals simp [nmFs, strsA]
        · intro j hj
          conv => whnf
          by_cases hlt : j < kids.length
          · have hn1 := nmFs_len (kids.take j) (l ++ [s])
            have hn2 := cntNs_take kids j hlt
            have hn3 : ((l ++ [s])).length ≤ l.length + 1 := by simp
            refine br_true (by simp; omega) ?_
            conv => whnf
            refine ⟨⟨by omega, by omega⟩, ?_⟩
            conv => whnf
            rw [show rowOf 4 (Int.toNat (j : Int)) (ndsL kids) = _ from rowOf_nds' kids j hlt]
            conv => whnf
            have hsp := ih kids[j] (List.getElem_mem hlt) (nmFs (kids.take j) (l ++ [s])) (smallNs_mem hsm (List.getElem_mem hlt)) (by omega)
            rw [ndL_eq] at hsp
            refine call0 [] rfl (fun _ => hsp) ?_
            rintro r rfl
            rw [← nmFs_take kids _ j hlt]
            conv => whnf
            refine ⟨i64r (by omega), ?_⟩
            conv => whnf
            refine ⟨j + 1, le_head ?_, hlt, by omega⟩
            repeat' constructor
          · refine br_false (by simp; omega) ?_
            conv => whnf
            obtain rfl : j = kids.length := by omega
            rw [hl0, List.take_length]
      · conv => whnf
        have hl0 := hfin l (by rw [if_neg]; simp [hin])
        refine loop_keep [0, 2] ?_
        conv => whnf
        refine loop_go (fun j : Nat => [(1, .sl 1 (nmFs (kids.take j) l).length (strsA (nmFs (kids.take j) l))), (6, .v (.int .i64 j))]) (fun _ => [[.v (.int .i64 k), .v (.int .i64 n), .v (.string s), .sl 4 kids.length (ndsL kids)]]) (fun _ => []) (fun j => j ≤ kids.length) (fun j => kids.length - j) 0 ?_ (Nat.zero_le _) ?_
        · repeat' constructor
          all_goals simp [nmFs, strsA]
        · intro j hj
          conv => whnf
          by_cases hlt : j < kids.length
          · have hn1 := nmFs_len (kids.take j) l
            have hn2 := cntNs_take kids j hlt
            have hn3 : (l).length ≤ l.length + 1 := by simp
            refine br_true (by simp; omega) ?_
            conv => whnf
            refine ⟨⟨by omega, by omega⟩, ?_⟩
            conv => whnf
            rw [show rowOf 4 (Int.toNat (j : Int)) (ndsL kids) = _ from rowOf_nds' kids j hlt]
            conv => whnf
            have hsp := ih kids[j] (List.getElem_mem hlt) (nmFs (kids.take j) l) (smallNs_mem hsm (List.getElem_mem hlt)) (by omega)
            rw [ndL_eq] at hsp
            refine call0 [] rfl (fun _ => hsp) ?_
            rintro r rfl
            rw [← nmFs_take kids _ j hlt]
            conv => whnf
            refine ⟨i64r (by omega), ?_⟩
            conv => whnf
            refine ⟨j + 1, le_head ?_, hlt, by omega⟩
            repeat' constructor
          · refine br_false (by simp; omega) ?_
            conv => whnf
            obtain rfl : j = kids.length := by omega
            rw [hl0, List.take_length]
  · conv => whnf
    refine call0 [] rfl (fun _ => in_spec l s (by omega)) ?_
    rintro r rfl
    cases hin : inF l s
    · conv => whnf
      have hl0 := hfin (l ++ [s]) (by rw [if_pos]; rw [d1 h1]; simp [hin])
      refine ⟨⟨by unfold maxLen; omega, by omega⟩, ?_⟩
      conv => whnf
      refine ⟨⟨by unfold maxLen; omega, by omega⟩, ?_⟩
      conv => whnf
      refine loop_pub [1] ?_
      conv => whnf
      refine loop_keep [0, 2] ?_
      conv => whnf
      refine loop_go (fun j : Nat => [(1, .sl 1 (nmFs (kids.take j) (l ++ [s])).length (strsA (nmFs (kids.take j) (l ++ [s])))), (6, .v (.int .i64 j))]) (fun _ => [[.v (.int .i64 k), .v (.int .i64 n), .v (.string s), .sl 4 kids.length (ndsL kids)]]) (fun _ => []) (fun j => j ≤ kids.length) (fun j => kids.length - j) 0 ?_ (Nat.zero_le _) ?_
      · repeat' constructor
        all_goals simp [nmFs, strsA]
      · intro j hj
        conv => whnf
        by_cases hlt : j < kids.length
        · have hn1 := nmFs_len (kids.take j) (l ++ [s])
          have hn2 := cntNs_take kids j hlt
          have hn3 : ((l ++ [s])).length ≤ l.length + 1 := by simp
          refine br_true (by simp; omega) ?_
          conv => whnf
          refine ⟨⟨by omega, by omega⟩, ?_⟩
          conv => whnf
          rw [show rowOf 4 (Int.toNat (j : Int)) (ndsL kids) = _ from rowOf_nds' kids j hlt]
          conv => whnf
          have hsp := ih kids[j] (List.getElem_mem hlt) (nmFs (kids.take j) (l ++ [s])) (smallNs_mem hsm (List.getElem_mem hlt)) (by omega)
          rw [ndL_eq] at hsp
          refine call0 [] rfl (fun _ => hsp) ?_
          rintro r rfl
          rw [← nmFs_take kids _ j hlt]
          conv => whnf
          refine ⟨i64r (by omega), ?_⟩
          conv => whnf
          refine ⟨j + 1, le_head ?_, hlt, by omega⟩
          repeat' constructor
        · refine br_false (by simp; omega) ?_
          conv => whnf
          obtain rfl : j = kids.length := by omega
          rw [hl0, List.take_length]
    · conv => whnf
      have hl0 := hfin l (by rw [if_neg]; simp [hin])
      refine loop_keep [0, 2] ?_
      conv => whnf
      refine loop_go (fun j : Nat => [(1, .sl 1 (nmFs (kids.take j) l).length (strsA (nmFs (kids.take j) l))), (6, .v (.int .i64 j))]) (fun _ => [[.v (.int .i64 k), .v (.int .i64 n), .v (.string s), .sl 4 kids.length (ndsL kids)]]) (fun _ => []) (fun j => j ≤ kids.length) (fun j => kids.length - j) 0 ?_ (Nat.zero_le _) ?_
      · repeat' constructor
        all_goals simp [nmFs, strsA]
      · intro j hj
        conv => whnf
        by_cases hlt : j < kids.length
        · have hn1 := nmFs_len (kids.take j) l
          have hn2 := cntNs_take kids j hlt
          have hn3 : (l).length ≤ l.length + 1 := by simp
          refine br_true (by simp; omega) ?_
          conv => whnf
          refine ⟨⟨by omega, by omega⟩, ?_⟩
          conv => whnf
          rw [show rowOf 4 (Int.toNat (j : Int)) (ndsL kids) = _ from rowOf_nds' kids j hlt]
          conv => whnf
          have hsp := ih kids[j] (List.getElem_mem hlt) (nmFs (kids.take j) l) (smallNs_mem hsm (List.getElem_mem hlt)) (by omega)
          rw [ndL_eq] at hsp
          refine call0 [] rfl (fun _ => hsp) ?_
          rintro r rfl
          rw [← nmFs_take kids _ j hlt]
          conv => whnf
          refine ⟨i64r (by omega), ?_⟩
          conv => whnf
          refine ⟨j + 1, le_head ?_, hlt, by omega⟩
          repeat' constructor
        · refine br_false (by simp; omega) ?_
          conv => whnf
          obtain rfl : j = kids.length := by omega
          rw [hl0, List.take_length]
mutual
theorem names_all : ∀ t : Nd, NamesC t
  | .mk k n s l => names_step k n s l (names_alls l)
theorem names_alls : ∀ l : List Nd, ∀ x ∈ l, NamesC x
  | [] => fun _ h => by cases h
  | t :: ts =>
    have h1 := names_all t
    have h2 := names_alls ts
    fun x hx => (List.mem_cons.1 hx).elim (fun e => e ▸ h1) (h2 x)
end
end Go.Proofs.Ytlmdmmikocbmlaa.Vm
