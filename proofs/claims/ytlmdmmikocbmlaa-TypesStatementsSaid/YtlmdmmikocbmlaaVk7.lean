/- The generated program. -/
import Derived.Test.YtlmdmmikocbmlaaVk5
namespace Go.Proofs.Ytlmdmmikocbmlaa.Vm
open Go.RowKit
set_option linter.unusedSimpArgs false
set_option linter.unusedVariables false
set_option maxRecDepth 100000
/-- The names of these numbers. -/
def pickF (p : Nat → Bool) (k : Nat) : List ByteArray := ((List.range k).filter p).map fun (i : Nat) => nameF (i : Int)
theorem pickF_yes {p : Nat → Bool} {k : Nat} (h : p k = true) : pickF p (k + 1) = pickF p k ++ [nameF (k : Int)] := by simp [pickF, List.range_succ, List.filter_append, h]
theorem pickF_no {p : Nat → Bool} {k : Nat} (h : p k = false) : pickF p (k + 1) = pickF p k := by simp [pickF, List.range_succ, List.filter_append, h]
theorem pickF_len (p : Nat → Bool) (k : Nat) : (pickF p k).length ≤ k := by
  unfold pickF
  rw [List.length_map]
  exact Nat.le_trans (List.length_filter_le _ _) (by simp)
theorem row_yes {e : Nat} {p : Nat → Bool} {k : Nat} (h : p k = true) : Row.live e 1 ((pickF p k).length + 1) (strsA (pickF p k) ++ [.v (.string (nameF (k : Int)))]) = Row.live e 1 (pickF p (k + 1)).length (strsA (pickF p (k + 1))) := by
  rw [pickF_yes h]; simp [strsA]
theorem row_no {e : Nat} {p : Nat → Bool} {k : Nat} (h : p k = false) : Row.live e 1 (pickF p k).length (strsA (pickF p k)) = Row.live e 1 (pickF p (k + 1)).length (strsA (pickF p (k + 1))) := by
  rw [pickF_no h]
/-- A generated program. -/
structure UnitG (u : Un) : Prop where
  vars : ∃ skip split : Int, u.d = pickF (fun (j : Nat) => decide ((j : Int) ≠ skip ∧ (j : Int) < split)) 10 ∧ u.v = pickF (fun (j : Nat) => decide ((j : Int) ≠ skip ∧ ¬ (j : Int) < split)) 10
  len : u.on.length ≤ 4
  on : ∀ h ∈ u.on, GenB 2 h.2
def xsU : Nat → List Nat
  | 17 => [1]
  | _ => []
theorem four (a b : Int) (ha : 0 ≤ a ∧ a < 100) (hb : 0 ≤ b ∧ b < 100) (h : Nat) (hh : h < 4) : ∃ z : Int, (0 ≤ z ∧ z < 100) ∧ rowOf 1 h [.v (.int .i64 0), .v (.int .i64 1), .v (.int .i64 a), .v (.int .i64 b)] = [.v (.int .i64 z)] := by
  match h, hh with
  | 0, _ => exact ⟨0, by omega, by simp [rowOf]⟩
  | 1, _ => exact ⟨1, by omega, by simp [rowOf]⟩
  | 2, _ => exact ⟨a, ha, by simp [rowOf]⟩
  | 3, _ => exact ⟨b, hb, by simp [rowOf]⟩
theorem unit_spec (l : List Int) : Spec Try.prog 15 [] [.sl 1 l.length (intsA l)] fun _ r => ∃ u, UnitG u ∧ r = .agg (unL' u) := by
  refine spec_of (cx_ok ord15 xsU 0) Try.func15 rfl (by kernel_rfl) rfl (by kernel_rfl) ?_
  intro hok
  conv => whnf
  refine call0 [] rfl (fun _ => ints_spec l 120 (by omega)) ?_
  rintro r ⟨l1, hl1, rfl⟩
  conv => whnf
  refine call1 1 [] rfl rfl rfl rfl (fun _ => next_spec l1 0 40 (by omega) (by omega) (by omega)) ?_
  rintro o r ⟨i1, ho, h1, h2, skip, rfl, h3, h4⟩
  obtain rfl : o = srcC l1 i1 := by simpa using ho
  conv => whnf
  refine call1 1 [] rfl rfl rfl rfl (fun _ => next_spec l1 i1 11 (by omega) (by omega) (by omega)) ?_
  rintro o r ⟨i2, ho, h5, h6, split, rfl, h7, h8⟩
  obtain rfl : o = srcC l1 i2 := by simpa using ho
  conv => whnf
  refine loop_row 9 1 [] [(2, 0)] ?_
  conv => whnf
  refine ⟨trivial, ?_⟩
  conv => whnf
  refine loop_row 9 1 [] [(2, 1)] ?_
  conv => whnf
  refine ⟨trivial, ?_⟩
  conv => whnf
  refine loop_keep [2, 3, 4, 5, 6] ?_
  conv => whnf
  obtain ⟨p, hp⟩ : ∃ p : Nat → Bool, p = fun (j : Nat) => decide ((j : Int) ≠ skip ∧ (j : Int) < split) := ⟨_, rfl⟩
  obtain ⟨q, hq⟩ : ∃ q : Nat → Bool, q = fun (j : Nat) => decide ((j : Int) ≠ skip ∧ ¬ (j : Int) < split) := ⟨_, rfl⟩
  refine loop_go (fun k : Nat => [(7, .v (.int .i64 k))]) (fun _ => [[.v (.slice none 0 0), .v (.slice none 0 0), .v (.slice none 0 0)], srcC l1 i2, [.own 0, .own 1, .v (.slice none 0 0)]])
    (fun k => [.live 9 1 (pickF p k).length (strsA (pickF p k)), .live 9 1 (pickF q k).length (strsA (pickF q k))]) (fun k => k ≤ 10) (fun k => 10 - k) 0 ?_ (Nat.zero_le _) ?_
  · repeat' constructor
  · intro k hk
    conv => whnf
    have hpl := pickF_len p k
    have hql := pickF_len q k
    by_cases hlt : k < 10
    · refine br_true (by simp; omega) ?_
      conv => whnf
      by_cases hsk : (k : Int) = skip
      · refine br_true (by simpa using hsk) ?_
        conv => whnf
        refine ⟨i64r (by omega), ?_⟩
        conv => whnf
        refine ⟨k + 1, le_head ?_, hlt, by omega⟩
        repeat' constructor
        · exact row_no (by rw [hp]; simp [hsk])
        · exact row_no (by rw [hq]; simp [hsk])
      · refine br_false (by simpa using hsk) ?_
        conv => whnf
        by_cases hsp : (k : Int) < split
        · refine br_true (by simpa using hsp) ?_
          conv => whnf
          have hsn := name_spec (k : Int) (by omega)
          rw [around10 hlt] at hsn
          refine call0 [] rfl (fun _ => hsn) ?_
          rintro r rfl
          conv => whnf
          refine ⟨⟨by unfold maxLen; omega, by omega⟩, ?_⟩
          conv => whnf
          refine ⟨i64r (by omega), ?_⟩
          conv => whnf
          refine ⟨k + 1, le_head ?_, hlt, by omega⟩
          repeat' constructor
          · exact row_yes (by rw [hp]; simp [hsk, hsp])
          · exact row_no (by rw [hq]; simp [hsk, hsp])
        · refine br_false (by simpa using hsp) ?_
          conv => whnf
          have hsn := name_spec (k : Int) (by omega)
          rw [around10 hlt] at hsn
          refine call0 [] rfl (fun _ => hsn) ?_
          rintro r rfl
          conv => whnf
          refine ⟨⟨by unfold maxLen; omega, by omega⟩, ?_⟩
          conv => whnf
          refine ⟨i64r (by omega), ?_⟩
          conv => whnf
          refine ⟨k + 1, le_head ?_, hlt, by omega⟩
          repeat' constructor
          · exact row_no (by rw [hp]; simp [hsk, hsp])
          · exact row_yes (by rw [hq]; simp [hsk, hsp])
    · refine br_false (by simp; omega) ?_
      obtain rfl : k = 10 := by omega
      conv => whnf
      refine call1 1 [] rfl rfl rfl rfl (fun _ => next_spec l1 i2 8 (by omega) (by omega) (by omega)) ?_
      rintro o r ⟨i3, ho, h9, h10, n2, rfl, h11, h12⟩
      obtain rfl : o = srcC l1 i3 := by simpa using ho
      conv => whnf
      refine ⟨i64r (by omega), ?_⟩
      conv => whnf
      refine call1 1 [] rfl rfl rfl rfl (fun _ => next_spec l1 i3 30 (by omega) (by omega) (by omega)) ?_
      rintro o r ⟨i4, ho, h13, h14, n3, rfl, h15, h16⟩
      obtain rfl : o = srcC l1 i4 := by simpa using ho
      conv => whnf
      refine ⟨i64r (by omega), ?_⟩
      conv => whnf
      refine loop_pub [2] ?_
      conv => whnf
      refine loop_row 46 5 [] [(2, 2)] ?_
      conv => whnf
      refine ⟨trivial, ?_⟩
      conv => whnf
      refine loop_keep [2, 3, 4, 8] ?_
      conv => whnf
      obtain ⟨dl, hdl⟩ : ∃ x, x = pickF p 10 := ⟨_, rfl⟩
      obtain ⟨vl, hvl⟩ : ∃ x, x = pickF q 10 := ⟨_, rfl⟩
      rw [← hdl, ← hvl]
      refine loop_go (fun x : Nat × Nat × List (Int × Nd) => [(9, .v (.int .i64 x.1))])
        (fun x => [[.v (.slice none 0 0), .v (.slice none 0 0), .v (.slice none 0 0)], srcC l1 x.2.1, [.own 0, .own 1, .own 3]])
        (fun x => [.live 9 1 dl.length (strsA dl), .live 9 1 vl.length (strsA vl), .gone, .live 46 5 x.2.2.length (hsL x.2.2)])
        (fun x => x.1 ≤ 4 ∧ x.2.1 ≤ 4 + 10742 * x.1 ∧ x.2.2.length ≤ x.1 ∧ ∀ h ∈ x.2.2, GenB 2 h.2) (fun x => 4 - x.1) (0, i4, []) ?_ ⟨by simp, by simp; omega, by simp, by simp⟩ ?_
      · repeat' constructor
      · rintro ⟨h, i, on⟩ ⟨hh, hi, hol, hon⟩
        simp only at hh hi hol hon
        conv => whnf
        by_cases hlt : h < 4
        · refine br_true (by simp; omega) ?_
          conv => whnf
          refine call1 1 [] rfl rfl rfl rfl (fun _ => next_spec l1 i 3 (by omega) (by omega) (by omega)) ?_
          rintro o r ⟨i5, ho, h17, h18, n5, rfl, h19, h20⟩
          obtain rfl : o = srcC l1 i5 := by simpa using ho
          conv => whnf
          by_cases hn5 : n5 < 2
          · refine br_true (by simpa using hn5) ?_
            conv => whnf
            refine ⟨⟨by simp, by simp; omega⟩, ?_⟩
            conv => whnf
            obtain ⟨z, hz, hrow⟩ := four (2 + n2) (10 + n3) (by omega) (by omega) h hlt
            rw [show rowOf (Te.z { d := Td.int IntKind.i64, z := [Value.int IntKind.i64 0], by' := 8 }).length (Int.toNat (h : Int)) [.v (.int .i64 0), .v (.int .i64 1), .v (.int .i64 (2 + n2)), .v (.int .i64 (10 + n3))] = [.v (.int .i64 z)] from hrow]
            conv => whnf
            refine call1 1 [] rfl rfl rfl rfl (fun _ => block_spec l1 i5 (by omega) (by omega)) ?_
            rintro o r ⟨i6, ho, h21, h22, t, rfl, h23⟩
            obtain rfl : o = srcC l1 i6 := by simpa using ho
            rw [ndL_eq]
            conv => whnf
            refine ⟨⟨by unfold maxLen; simp; omega, by simp; omega⟩, ?_⟩
            conv => whnf
            refine ⟨i64r (by omega), ?_⟩
            conv => whnf
            refine ⟨(h + 1, i6, on ++ [(z, t)]), le_head ?_, ⟨by simp; omega, by simp; omega, by simp; omega, fun x hx => ?_⟩, by simp; omega⟩
            · repeat' constructor
              simp only [hsL, List.flatMap_append, List.flatMap_cons, List.flatMap_nil, List.append_nil, List.length_append, List.length_cons, List.length_nil, ndL_eq]
            · rcases List.mem_append.1 hx with hx | hx
              · exact hon x hx
              · obtain rfl := List.mem_singleton.1 hx
                exact h23
          · refine br_false (by simpa using hn5) ?_
            conv => whnf
            refine ⟨i64r (by omega), ?_⟩
            conv => whnf
            refine ⟨(h + 1, i5, on), le_head ?_, ⟨by simp; omega, by simp; omega, by simp; omega, hon⟩, by simp; omega⟩
            repeat' constructor
        · refine br_false (by simp; omega) ?_
          conv => whnf
          exact ⟨⟨dl, vl, on⟩, ⟨⟨skip, split, by rw [hdl, hp], by rw [hvl, hq]⟩, by simp; omega, hon⟩, rfl⟩
end Go.Proofs.Ytlmdmmikocbmlaa.Vm
