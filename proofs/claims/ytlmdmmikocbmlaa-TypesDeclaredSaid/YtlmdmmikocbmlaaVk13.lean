/- TypesDeclared: its walk. -/
import Derived.Test.YtlmdmmikocbmlaaVk12
namespace Go.Proofs.Ytlmdmmikocbmlaa.Vm
open Go.RowKit
set_option linter.unusedSimpArgs false
set_option linter.unusedVariables false
set_option maxRecDepth 100000
/-- A nil slice reads as one without elements. -/
def nsK (k : Nat) : List Nat → List A → (List A → Prop) → Prop
  | _, [], K => K []
  | W, a :: l, K => decNK W fun W' => match zeroIn W with
    | true => isNil a ∧ nsK k W' l fun r => K (.sl k 0 [] :: r)
    | false => nsK k W' l fun r => K (a :: r)
theorem nsK_iff {k : Nat} : ∀ {l : List A} {W : List Nat} {K : List A → Prop}, nsK k W l K → ∃ m, (∀ E us, A.repL l E us → A.repL m E us) ∧ K m
  | [], W, K, h => ⟨[], fun _ _ h => h, h⟩
  | a :: l, W, K, h => by
    unfold nsK at h
    rw [decNK_iff] at h
    split at h
    · obtain ⟨m, h1, h2⟩ := nsK_iff h.2
      refine ⟨.sl k 0 [] :: m, fun E us hr => ?_, h2⟩
      unfold A.repL at hr ⊢
      obtain ⟨u, us', rfl, h3, h4⟩ := hr
      exact ⟨u, us', rfl, nil_sl (isNil_eq h.1 ▸ h3), h1 _ _ h4⟩
    · obtain ⟨m, h1, h2⟩ := nsK_iff h
      refine ⟨a :: m, fun E us hr => ?_, h2⟩
      unfold A.repL at hr ⊢
      obtain ⟨u, us', rfl, h3, h4⟩ := hr
      exact ⟨u, us', rfl, h3, h1 _ _ h4⟩
theorem loop_nil {np : Nat} {f : S → (Exit → S → Prop) → Prop} {t : List A} {bx : List (List A)} {rw : List Row} {Q : Exit → S → Prop} (k : Nat) (ts : List Nat)
    (h : nsK k ts t fun t' => LoopW np f ⟨t', bx, rw⟩ Q) : LoopW np f ⟨t, bx, rw⟩ Q := by
  obtain ⟨m, h1, h2⟩ := nsK_iff h
  refine loop_le (s' := ⟨m, bx, rw⟩) ?_ h2
  rintro w0 C0 β0 a w _ ⟨E, hp, hrep, hd⟩
  exact ⟨E, hp, h1 _ _ hrep, hd⟩
theorem usedF_append : ∀ (a b : List (Int × Nd)) (l : List ByteArray), usedF (a ++ b) l = usedF b (usedF a l)
  | [], b, l => rfl
  | x :: r, b, l => by simp only [List.cons_append, usedF]; exact usedF_append r b _
theorem usedF_take {on : List (Int × Nd)} {k : Nat} (h : k < on.length) (l : List ByteArray) : usedF (on.take (k + 1)) l = nmF on[k].2 (usedF (on.take k) l) := by
  rw [List.take_succ_eq_append_getElem h, usedF_append]; rfl
theorem declared_spec (l : List Int) (which : Int) : Spec Try.prog 10 [] [.sl 1 l.length (intsA l), .v (.int .i64 which)] fun _ r => r = boolA true := by
  refine spec_of (cx_ok ord10 xs0 0) Try.func10 rfl (by kernel_rfl) rfl (by kernel_rfl) ?_
  intro hok
  have hwb : -9223372036854775808 ≤ which ∧ which ≤ 9223372036854775807 := okA_int.1 (okL_mem hok (by simp))
  conv => whnf
  refine call0 [] rfl (fun _ => unit_spec' l) ?_
  rintro r ⟨d, v, on, hu, rfl⟩
  have hsm := unitG_small hu
  obtain ⟨hdl, hvl⟩ := unit_lens hu
  have hol := hu.len
  simp only at hol
  have hgood := unitG_good hu
  conv => whnf
  refine call0 [] rfl (fun _ => name_spec which hwb) ?_
  rintro r rfl
  generalize nameF (aroundF which 10) = name
  conv => whnf
  apply join_eq
  · conv => whnf
    refine ⟨?_, ?_⟩
    · conv => whnf
      refine ⟨?_, ?_⟩
      · conv => whnf
        refine ⟨⟨by unfold maxLen; omega, by omega⟩, ?_⟩
        conv => whnf
      · conv => whnf
        refine ⟨⟨by unfold maxLen; omega, by omega⟩, ?_⟩
        conv => whnf
    · conv => whnf
      refine ⟨⟨by unfold maxLen; omega, by omega⟩, ?_⟩
      conv => whnf
  have hwo := fun (m : List ByteArray) (hm : m.length ≤ 1000000) => without_spec m name hm
  conv => whnf
  apply join_eq
  · conv => whnf
    refine ⟨?_, ?_⟩
    · conv => whnf
      refine call0 [] rfl (fun _ => hwo d (by omega)) ?_
      rintro r rfl
      conv => whnf
      refine ⟨?_, ?_⟩
      · conv => whnf
        refine call0 [] rfl (fun _ => hwo v (by omega)) ?_
        rintro r rfl
        conv => whnf
      · conv => whnf
        refine call0 [] rfl (fun _ => hwo v (by omega)) ?_
        rintro r rfl
        conv => whnf
    · conv => whnf
      refine call0 [] rfl (fun _ => hwo d (by omega)) ?_
      rintro r rfl
      conv => whnf
      refine call0 [] rfl (fun _ => hwo v (by omega)) ?_
      rintro r rfl
      conv => whnf
  conv => whnf
  refine loop_pub [0] ?_
  conv => whnf
  refine loop_nil 1 [9] ?_
  conv => whnf
  refine ⟨trivial, ?_⟩
  conv => whnf
  refine loop_keep [4, 5, 6, 7, 8] ?_
  conv => whnf
  have hcs := check_spec _ hsm
  have hcm : Spec Try.prog 16 [] [.agg (unL' ⟨zz :: d, v, on⟩)] fun _ r => r = intA (checkF ⟨zz :: d, v, on⟩) := check_spec _ ⟨by simp; omega, hsm.2.1, hsm.2.2.1, hsm.2.2.2⟩
  rw [more_law hu] at hcm
  have hcf : Spec Try.prog 16 [] [.agg (unL' ⟨d.filter (fun x => decide (x ≠ name)), v.filter (fun x => decide (x ≠ name)), on⟩)] fun _ r => r = intA (checkF ⟨d.filter (fun x => decide (x ≠ name)), v.filter (fun x => decide (x ≠ name)), on⟩) :=
    check_spec _ ⟨Nat.le_trans (List.length_filter_le _ _) hsm.1, Nat.le_trans (List.length_filter_le _ _) hsm.2.1, hsm.2.2.1, hsm.2.2.2⟩
  rw [fewer_law] at hcf
  unfold unL' at hcs hcm hcf
  simp only [List.length_cons, Nat.add_comm d.length 1] at hcs hcm hcf
  generalize d.filter (fun x => decide (x ≠ name)) = dF at *
  generalize v.filter (fun x => decide (x ≠ name)) = vF at *
  generalize hcu : checkF ⟨d, v, on⟩ = cu at *
  refine loop_go (fun k : Nat => [(9, .sl 1 (usedF (on.take k) []).length (strsA (usedF (on.take k) []))), (10, .v (.int .i64 k))])
    (fun _ => [[.sl 1 d.length (strsA d), .sl 1 v.length (strsA v), .sl 5 on.length (hsL on)], [.sl 1 (1 + d.length) (strsA (zz :: d)), .sl 1 v.length (strsA v), .sl 5 on.length (hsL on)], [.sl 1 dF.length (strsA dF), .sl 1 vF.length (strsA vF), .sl 5 on.length (hsL on)]])
    (fun _ => []) (fun k => k ≤ on.length ∧ (usedF (on.take k) []).length ≤ 20000 * k) (fun k => on.length - k) 0 ?_ ⟨Nat.zero_le _, by simp [usedF]⟩ ?_
  · repeat' constructor
  · rintro k ⟨hk, hul⟩
    conv => whnf
    by_cases hlt : k < on.length
    · refine br_true (by simp; omega) ?_
      conv => whnf
      refine ⟨⟨by omega, by omega⟩, ?_⟩
      conv => whnf
      rw [show rowOf 5 (Int.toNat (k : Int)) (hsL on) = _ from rowOf_hs' on k hlt]
      conv => whnf
      have hst := genB_st (hu.on on[k] (List.getElem_mem hlt))
      have hcnt := hst.cnt
      have hnl := nmF_len on[k].2 (usedF (on.take k) [])
      rw [← usedF_take hlt] at hnl
      have hsn := names_all on[k].2 (usedF (on.take k) []) (good_small _ hst.good) (by omega)
      rw [← usedF_take hlt, ndL_eq] at hsn
      refine call0 [] rfl (fun _ => hsn) ?_
      rintro r rfl
      conv => whnf
      refine ⟨i64r (by omega), ?_⟩
      conv => whnf
      refine ⟨k + 1, le_head ?_, ⟨hlt, by omega⟩, by omega⟩
      repeat' constructor
    · refine br_false (by simp; omega) ?_
      obtain rfl : k = on.length := by omega
      have hocc := used_occ name on []
      rw [List.take_length] at hul ⊢
      simp only [List.any_nil, Bool.false_or] at hocc
      generalize usedF on [] = used at *
      conv => whnf
      refine loop_keep [4, 5, 6, 7, 8, 9] ?_
      conv => whnf
      refine loop_go (fun j : Nat => [(11, .v (.bool ((used.take j).any fun s => decide (s = name)))), (12, .v (.int .i64 j))])
        (fun _ => [[.sl 1 d.length (strsA d), .sl 1 v.length (strsA v), .sl 5 on.length (hsL on)], [.sl 1 (1 + d.length) (strsA (zz :: d)), .sl 1 v.length (strsA v), .sl 5 on.length (hsL on)], [.sl 1 dF.length (strsA dF), .sl 1 vF.length (strsA vF), .sl 5 on.length (hsL on)]])
        (fun _ => []) (fun j => j ≤ used.length) (fun j => used.length - j) 0 ?_ (Nat.zero_le _) ?_
      · repeat' constructor
      · intro j hj
        conv => whnf
        by_cases hjl : j < used.length
        · refine br_true (by simp; omega) ?_
          have ht : (used.take (j + 1)).any (fun s => decide (s = name)) = ((used.take j).any (fun s => decide (s = name)) || decide (used[j] = name)) := by
            rw [List.take_succ_eq_append_getElem hjl, List.any_append]; simp
          generalize (used.take j).any (fun s => decide (s = name)) = g at *
          conv => whnf
          cases g
          · conv => whnf
            refine ⟨⟨by omega, by omega⟩, ?_⟩
            conv => whnf
            rw [show rowOf 1 (Int.toNat (j : Int)) (strsA used) = [.v (.string used[j])] from rowOf_strs used j hjl]
            conv => whnf
            refine ⟨i64r (by omega), ?_⟩
            conv => whnf
            refine ⟨j + 1, le_head ?_, hjl, by omega⟩
            repeat' constructor
            rw [ht]; rfl
          · conv => whnf
            refine ⟨i64r (by omega), ?_⟩
            conv => whnf
            refine ⟨j + 1, le_head ?_, hjl, by omega⟩
            repeat' constructor
            rw [ht]; rfl
        · refine br_false (by simp; omega) ?_
          obtain rfl : j = used.length := by omega
          rw [List.take_length, hocc]
          generalize on.any (fun x => occF name x.2) = oc at *
          conv => whnf
          refine call0 [] rfl (fun _ => hcm) ?_
          rintro r rfl
          conv => whnf
          refine call0 [] rfl (fun _ => hcs) ?_
          rintro r rfl
          conv => whnf
          rw [show decide (cu = cu) = true from decide_eq_true rfl]
          cases oc
          · simp only [Bool.false_eq_true, if_false] at hcf
            conv => whnf
            refine call0 [] rfl (fun _ => hcf) ?_
            rintro r rfl
            conv => whnf
            refine call0 [] rfl (fun _ => hcs) ?_
            rintro r rfl
            conv => whnf
            rw [show decide (cu = cu) = true from decide_eq_true rfl]
            conv => whnf
            refine call0 [] rfl (fun _ => lives_spec) ?_
            rintro r rfl
            conv => whnf
            rfl
          · simp only [if_true] at hcf
            conv => whnf
            refine call0 [] rfl (fun _ => hcf) ?_
            rintro r rfl
            conv => whnf
            refine call0 [] rfl (fun _ => lives_spec) ?_
            rintro r rfl
            conv => whnf
            rfl
end Go.Proofs.Ytlmdmmikocbmlaa.Vm
