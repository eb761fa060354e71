/- Steps: the reference's comparison; the generator of steps. -/
import Derived.Test.YtinjgckpmblffaaDoorN19
namespace Go.Proofs.YtinjgckpmblffaaDoor.Vm
open Go.RowKit Go.Shelf
set_option linter.unusedSimpArgs false
set_option linter.unusedVariables false
set_option maxRecDepth 100000
theorem eKey_specF (a : Ev) : SpecF Tryd.prog 50 [.agg (evA a)] fun e k n cs r => e = 3 ∧ k = 1 ∧ n = 8 ∧ cs = intsA (eKey a) ∧ r = .own 0 := by
  refine specF_of (cx_ok ord50 xs0 0) Tryd.func50 rfl (by kernel_rfl) rfl (by kernel_rfl) ?_
  intro hok
  conv => whnf
  apply join_eq
  · conv => whnf
    refine ⟨?_, ?_⟩
    · conv => whnf
      (refine call0 [] rfl (fun _ => mKey_spec a.msg) ?_; rintro r rfl; conv => whnf)
      refine ⟨by decide, ?_⟩
      conv => whnf
    · conv => whnf
      (refine call0 [] rfl (fun _ => mKey_spec a.msg) ?_; rintro r rfl; conv => whnf)
      refine ⟨by decide, ?_⟩
      conv => whnf
  · conv => whnf
    refine ⟨0, ?_⟩
    conv => whnf
    exact ⟨rfl, rfl, rfl, rfl, rfl⟩
theorem sKey_len (e : Ev) (l : List Ak) : (sKey e l).length = 8 + 6 * l.length := by
  unfold sKey
  rw [List.length_append]
  have : (l.flatMap aKey).length = 6 * l.length := by
    induction l with
    | nil => rfl
    | cons t l ih => rw [List.flatMap_cons, List.length_append, ih, List.length_cons]; simp only [aKey, qKey, List.length_append, List.length_cons, List.length_nil]; omega
  rw [this]
  simp only [eKey, mKey, List.length_append, List.length_cons, List.length_nil]
theorem sKey_snoc (e : Ev) (l : List Ak) (a : Ak) : sKey e (l ++ [a]) = sKey e l ++ qKey a.q ++ [a.n] := by
  simp [sKey, aKey]
theorem stepKey_spec (e : Ev) (l : List Ak) (hl : l.length ≤ 1000) (o : Bool) (x : A) (hx : x = .v (.slice none 0 0) ∨ ∃ n cs, x = .sl 5 n cs) : Spec Tryd.prog 54 [] [.agg (evA e ++ [.sl 7 l.length (aksA l), .v (.bool o), x])] fun _ r => r = .sl 1 (sKey e l).length (intsA (sKey e l)) := by
  rcases hx with rfl | ⟨n, cs, rfl⟩
  · refine spec_of (cx_ok ord54 xs0 0) Tryd.func54 rfl (by kernel_rfl) rfl (by kernel_rfl) ?_
    intro hok
    conv => whnf
    refine callF 0 [] rfl rfl (fun _ => eKey_specF e) ?_
    rintro et k n cs r ⟨rfl, rfl, rfl, rfl, rfl⟩
    conv => whnf
    refine loop_keep [1, 3] ?_
    conv => whnf
    refine loop_goQ (fun k : Nat => [(4, .v (.int .i64 k))]) (fun _ => [evA e ++ [.sl 7 l.length (aksA l), .v (.bool o), (.v (.slice none 0 0))]]) (fun k => [.live 3 1 (sKey e (l.take k)).length (intsA (sKey e (l.take k)))]) (fun k => k ≤ l.length) (fun k => l.length - k) 0 ?_ (Nat.zero_le _) ?_
    · repeat' constructor
    · rintro k hk
      conv => whnf
      by_cases hlt : k < l.length
      · have hrow := rowOf_aks l k hlt
        have htk : l.take (k + 1) = l.take k ++ [l[k]] := by rw [List.take_add_one, List.getElem?_eq_getElem hlt]; rfl
        have hsk := sKey_snoc e (l.take k) l[k]
        rw [← htk] at hsk
        have hlen := sKey_len e (l.take k)
        have hlt2 : (l.take k).length = k := by simp; omega
        generalize sKey e (l.take k) = X at *
        generalize l[k] = a at *
        repeat (first | ((with_reducible refine And.intro ?_ ?_); (focus (first | omega | (with_reducible refine i64r ?_; (first | omega | (simp only [List.length_append, List.length_cons, List.length_nil, List.length_map, ByteArray.size_append]; omega) | (dsimp only; omega))) | (with_reducible refine max_le ?_; (first | omega | (simp only [List.length_append, List.length_cons, List.length_nil, List.length_map, ByteArray.size_append]; omega) | (dsimp only; omega))) | ((fail_if_success (with_reducible refine max_le ?_)); decide) | (simp only [List.length_append, List.length_cons, List.length_nil, List.length_map, ByteArray.size_append]; omega) | (dsimp only; omega) | ((with_reducible refine i64r ?_); dsimp only; omega))); (conv => whnf)) | ((first | with_reducible refine isIf1 ?_ | with_reducible refine isIf2 ?_ | with_reducible refine isIf3 ?_ | with_reducible refine isIf4 ?_ | with_reducible refine isIf5 ?_ | with_reducible refine isIf6 ?_ | with_reducible refine isIf7 ?_ | with_reducible refine isIf8 ?_ | with_reducible refine ifK_id ?_); first | ((focus (rw [decide_eq_true]; rotate_left; focus (first | (first | omega | (simp only [List.length_append, List.length_cons, List.length_nil, List.length_map, ByteArray.size_append]; omega) | (dsimp only; omega)) | ((with_reducible refine isEq ?_); rfl)))); (first | with_reducible refine br_true rfl ?_ | with_reducible refine br_false rfl ?_ | skip); (conv => whnf)) | ((focus (rw [decide_eq_false]; rotate_left; focus (first | (first | omega | (simp only [List.length_append, List.length_cons, List.length_nil, List.length_map, ByteArray.size_append]; omega) | (dsimp only; omega)) | (intro h; cases h; done)))); (first | with_reducible refine br_true rfl ?_ | with_reducible refine br_false rfl ?_ | skip); (conv => whnf))))
        apply join_eq
        · conv => whnf
          repeat (first | ((with_reducible refine And.intro ?_ ?_); (focus (first | omega | (with_reducible refine i64r ?_; (first | omega | (simp only [List.length_append, List.length_cons, List.length_nil, List.length_map, ByteArray.size_append]; omega) | (dsimp only; omega))) | (with_reducible refine max_le ?_; (first | omega | (simp only [List.length_append, List.length_cons, List.length_nil, List.length_map, ByteArray.size_append]; omega) | (dsimp only; omega))) | ((fail_if_success (with_reducible refine max_le ?_)); decide) | (simp only [List.length_append, List.length_cons, List.length_nil, List.length_map, ByteArray.size_append]; omega) | (dsimp only; omega) | ((with_reducible refine i64r ?_); dsimp only; omega))); (conv => whnf)) | ((first | with_reducible refine isIf1 ?_ | with_reducible refine isIf2 ?_ | with_reducible refine isIf3 ?_ | with_reducible refine isIf4 ?_ | with_reducible refine isIf5 ?_ | with_reducible refine isIf6 ?_ | with_reducible refine isIf7 ?_ | with_reducible refine isIf8 ?_ | with_reducible refine ifK_id ?_); first | ((focus (rw [decide_eq_true]; rotate_left; focus (first | (first | omega | (simp only [List.length_append, List.length_cons, List.length_nil, List.length_map, ByteArray.size_append]; omega) | (dsimp only; omega)) | ((with_reducible refine isEq ?_); rfl)))); (first | with_reducible refine br_true rfl ?_ | with_reducible refine br_false rfl ?_ | skip); (conv => whnf)) | ((focus (rw [decide_eq_false]; rotate_left; focus (first | (first | omega | (simp only [List.length_append, List.length_cons, List.length_nil, List.length_map, ByteArray.size_append]; omega) | (dsimp only; omega)) | (intro h; cases h; done)))); (first | with_reducible refine br_true rfl ?_ | with_reducible refine br_false rfl ?_ | skip); (conv => whnf))))
          (generalize hrq : rowOf _ _ (aksA l) = rq; obtain rfl : rq = akA a := hrq.symm.trans (hrow); clear hrq; conv => whnf)
          repeat (first | ((with_reducible refine And.intro ?_ ?_); (focus (first | omega | (with_reducible refine i64r ?_; (first | omega | (simp only [List.length_append, List.length_cons, List.length_nil, List.length_map, ByteArray.size_append]; omega) | (dsimp only; omega))) | (with_reducible refine max_le ?_; (first | omega | (simp only [List.length_append, List.length_cons, List.length_nil, List.length_map, ByteArray.size_append]; omega) | (dsimp only; omega))) | ((fail_if_success (with_reducible refine max_le ?_)); decide) | (simp only [List.length_append, List.length_cons, List.length_nil, List.length_map, ByteArray.size_append]; omega) | (dsimp only; omega) | ((with_reducible refine i64r ?_); dsimp only; omega))); (conv => whnf)) | ((first | with_reducible refine isIf1 ?_ | with_reducible refine isIf2 ?_ | with_reducible refine isIf3 ?_ | with_reducible refine isIf4 ?_ | with_reducible refine isIf5 ?_ | with_reducible refine isIf6 ?_ | with_reducible refine isIf7 ?_ | with_reducible refine isIf8 ?_ | with_reducible refine ifK_id ?_); first | ((focus (rw [decide_eq_true]; rotate_left; focus (first | (first | omega | (simp only [List.length_append, List.length_cons, List.length_nil, List.length_map, ByteArray.size_append]; omega) | (dsimp only; omega)) | ((with_reducible refine isEq ?_); rfl)))); (first | with_reducible refine br_true rfl ?_ | with_reducible refine br_false rfl ?_ | skip); (conv => whnf)) | ((focus (rw [decide_eq_false]; rotate_left; focus (first | (first | omega | (simp only [List.length_append, List.length_cons, List.length_nil, List.length_map, ByteArray.size_append]; omega) | (dsimp only; omega)) | (intro h; cases h; done)))); (first | with_reducible refine br_true rfl ?_ | with_reducible refine br_false rfl ?_ | skip); (conv => whnf))))
          (generalize hrq : rowOf _ _ (aksA l) = rq; obtain rfl : rq = akA a := hrq.symm.trans (hrow); clear hrq; conv => whnf)
          refine ⟨?_, ?_⟩
          · conv => whnf
            (refine call0 [] rfl (fun _ => qKey_spec a.q) ?_; rintro r rfl; conv => whnf)
            refine ⟨?_, ?_⟩
            · conv => whnf
              refine ⟨⟨by unfold maxLen; omega, by omega⟩, ?_⟩
              conv => whnf
              refine ⟨⟨by unfold maxLen; omega, by omega⟩, ?_⟩
              conv => whnf
            · conv => whnf
              refine ⟨⟨by unfold maxLen; omega, by omega⟩, ?_⟩
              conv => whnf
              refine ⟨⟨by unfold maxLen; omega, by omega⟩, ?_⟩
              conv => whnf
          · conv => whnf
            (refine call0 [] rfl (fun _ => qKey_spec a.q) ?_; rintro r rfl; conv => whnf)
            refine ⟨⟨by unfold maxLen; omega, by omega⟩, ?_⟩
            conv => whnf
            refine ⟨⟨by unfold maxLen; omega, by omega⟩, ?_⟩
            conv => whnf
        · conv => whnf
          repeat (first | ((with_reducible refine And.intro ?_ ?_); (focus (first | omega | (with_reducible refine i64r ?_; (first | omega | (simp only [List.length_append, List.length_cons, List.length_nil, List.length_map, ByteArray.size_append]; omega) | (dsimp only; omega))) | (with_reducible refine max_le ?_; (first | omega | (simp only [List.length_append, List.length_cons, List.length_nil, List.length_map, ByteArray.size_append]; omega) | (dsimp only; omega))) | ((fail_if_success (with_reducible refine max_le ?_)); decide) | (simp only [List.length_append, List.length_cons, List.length_nil, List.length_map, ByteArray.size_append]; omega) | (dsimp only; omega) | ((with_reducible refine i64r ?_); dsimp only; omega))); (conv => whnf)) | ((first | with_reducible refine isIf1 ?_ | with_reducible refine isIf2 ?_ | with_reducible refine isIf3 ?_ | with_reducible refine isIf4 ?_ | with_reducible refine isIf5 ?_ | with_reducible refine isIf6 ?_ | with_reducible refine isIf7 ?_ | with_reducible refine isIf8 ?_ | with_reducible refine ifK_id ?_); first | ((focus (rw [decide_eq_true]; rotate_left; focus (first | (first | omega | (simp only [List.length_append, List.length_cons, List.length_nil, List.length_map, ByteArray.size_append]; omega) | (dsimp only; omega)) | ((with_reducible refine isEq ?_); rfl)))); (first | with_reducible refine br_true rfl ?_ | with_reducible refine br_false rfl ?_ | skip); (conv => whnf)) | ((focus (rw [decide_eq_false]; rotate_left; focus (first | (first | omega | (simp only [List.length_append, List.length_cons, List.length_nil, List.length_map, ByteArray.size_append]; omega) | (dsimp only; omega)) | (intro h; cases h; done)))); (first | with_reducible refine br_true rfl ?_ | with_reducible refine br_false rfl ?_ | skip); (conv => whnf))))
          refine ⟨k + 1, le_head ?_, hlt, by omega⟩
          repeat' constructor
          · rw [hsk]; simp only [List.length_append, intsA, List.map_append]; rfl
      · obtain rfl : k = l.length := by omega
        rw [List.take_length]
        repeat (first | ((with_reducible refine And.intro ?_ ?_); (focus (first | omega | (with_reducible refine i64r ?_; (first | omega | (simp only [List.length_append, List.length_cons, List.length_nil, List.length_map, ByteArray.size_append]; omega) | (dsimp only; omega))) | (with_reducible refine max_le ?_; (first | omega | (simp only [List.length_append, List.length_cons, List.length_nil, List.length_map, ByteArray.size_append]; omega) | (dsimp only; omega))) | ((fail_if_success (with_reducible refine max_le ?_)); decide) | (simp only [List.length_append, List.length_cons, List.length_nil, List.length_map, ByteArray.size_append]; omega) | (dsimp only; omega) | ((with_reducible refine i64r ?_); dsimp only; omega))); (conv => whnf)) | ((first | with_reducible refine isIf1 ?_ | with_reducible refine isIf2 ?_ | with_reducible refine isIf3 ?_ | with_reducible refine isIf4 ?_ | with_reducible refine isIf5 ?_ | with_reducible refine isIf6 ?_ | with_reducible refine isIf7 ?_ | with_reducible refine isIf8 ?_ | with_reducible refine ifK_id ?_); first | ((focus (rw [decide_eq_true]; rotate_left; focus (first | (first | omega | (simp only [List.length_append, List.length_cons, List.length_nil, List.length_map, ByteArray.size_append]; omega) | (dsimp only; omega)) | ((with_reducible refine isEq ?_); rfl)))); (first | with_reducible refine br_true rfl ?_ | with_reducible refine br_false rfl ?_ | skip); (conv => whnf)) | ((focus (rw [decide_eq_false]; rotate_left; focus (first | (first | omega | (simp only [List.length_append, List.length_cons, List.length_nil, List.length_map, ByteArray.size_append]; omega) | (dsimp only; omega)) | (intro h; cases h; done)))); (first | with_reducible refine br_true rfl ?_ | with_reducible refine br_false rfl ?_ | skip); (conv => whnf))))
  · refine spec_of (cx_ok ord54 xs0 0) Tryd.func54 rfl (by kernel_rfl) rfl (by kernel_rfl) ?_
    intro hok
    conv => whnf
    refine callF 0 [] rfl rfl (fun _ => eKey_specF e) ?_
    rintro et k n cs r ⟨rfl, rfl, rfl, rfl, rfl⟩
    conv => whnf
    refine loop_keep [1, 3] ?_
    conv => whnf
    refine loop_goQ (fun k : Nat => [(4, .v (.int .i64 k))]) (fun _ => [evA e ++ [.sl 7 l.length (aksA l), .v (.bool o), (.sl 5 n cs)]]) (fun k => [.live 3 1 (sKey e (l.take k)).length (intsA (sKey e (l.take k)))]) (fun k => k ≤ l.length) (fun k => l.length - k) 0 ?_ (Nat.zero_le _) ?_
    · repeat' constructor
    · rintro k hk
      conv => whnf
      by_cases hlt : k < l.length
      · have hrow := rowOf_aks l k hlt
        have htk : l.take (k + 1) = l.take k ++ [l[k]] := by rw [List.take_add_one, List.getElem?_eq_getElem hlt]; rfl
        have hsk := sKey_snoc e (l.take k) l[k]
        rw [← htk] at hsk
        have hlen := sKey_len e (l.take k)
        have hlt2 : (l.take k).length = k := by simp; omega
        generalize sKey e (l.take k) = X at *
        generalize l[k] = a at *
        repeat (first | ((with_reducible refine And.intro ?_ ?_); (focus (first | omega | (with_reducible refine i64r ?_; (first | omega | (simp only [List.length_append, List.length_cons, List.length_nil, List.length_map, ByteArray.size_append]; omega) | (dsimp only; omega))) | (with_reducible refine max_le ?_; (first | omega | (simp only [List.length_append, List.length_cons, List.length_nil, List.length_map, ByteArray.size_append]; omega) | (dsimp only; omega))) | ((fail_if_success (with_reducible refine max_le ?_)); decide) | (simp only [List.length_append, List.length_cons, List.length_nil, List.length_map, ByteArray.size_append]; omega) | (dsimp only; omega) | ((with_reducible refine i64r ?_); dsimp only; omega))); (conv => whnf)) | ((first | with_reducible refine isIf1 ?_ | with_reducible refine isIf2 ?_ | with_reducible refine isIf3 ?_ | with_reducible refine isIf4 ?_ | with_reducible refine isIf5 ?_ | with_reducible refine isIf6 ?_ | with_reducible refine isIf7 ?_ | with_reducible refine isIf8 ?_ | with_reducible refine ifK_id ?_); first | ((focus (rw [decide_eq_true]; rotate_left; focus (first | (first | omega | (simp only [List.length_append, List.length_cons, List.length_nil, List.length_map, ByteArray.size_append]; omega) | (dsimp only; omega)) | ((with_reducible refine isEq ?_); rfl)))); (first | with_reducible refine br_true rfl ?_ | with_reducible refine br_false rfl ?_ | skip); (conv => whnf)) | ((focus (rw [decide_eq_false]; rotate_left; focus (first | (first | omega | (simp only [List.length_append, List.length_cons, List.length_nil, List.length_map, ByteArray.size_append]; omega) | (dsimp only; omega)) | (intro h; cases h; done)))); (first | with_reducible refine br_true rfl ?_ | with_reducible refine br_false rfl ?_ | skip); (conv => whnf))))
        apply join_eq
        · conv => whnf
          repeat (first | ((with_reducible refine And.intro ?_ ?_); (focus (first | omega | (with_reducible refine i64r ?_; (first | omega | (simp only [List.length_append, List.length_cons, List.length_nil, List.length_map, ByteArray.size_append]; omega) | (dsimp only; omega))) | (with_reducible refine max_le ?_; (first | omega | (simp only [List.length_append, List.length_cons, List.length_nil, List.length_map, ByteArray.size_append]; omega) | (dsimp only; omega))) | ((fail_if_success (with_reducible refine max_le ?_)); decide) | (simp only [List.length_append, List.length_cons, List.length_nil, List.length_map, ByteArray.size_append]; omega) | (dsimp only; omega) | ((with_reducible refine i64r ?_); dsimp only; omega))); (conv => whnf)) | ((first | with_reducible refine isIf1 ?_ | with_reducible refine isIf2 ?_ | with_reducible refine isIf3 ?_ | with_reducible refine isIf4 ?_ | with_reducible refine isIf5 ?_ | with_reducible refine isIf6 ?_ | with_reducible refine isIf7 ?_ | with_reducible refine isIf8 ?_ | with_reducible refine ifK_id ?_); first | ((focus (rw [decide_eq_true]; rotate_left; focus (first | (first | omega | (simp only [List.length_append, List.length_cons, List.length_nil, List.length_map, ByteArray.size_append]; omega) | (dsimp only; omega)) | ((with_reducible refine isEq ?_); rfl)))); (first | with_reducible refine br_true rfl ?_ | with_reducible refine br_false rfl ?_ | skip); (conv => whnf)) | ((focus (rw [decide_eq_false]; rotate_left; focus (first | (first | omega | (simp only [List.length_append, List.length_cons, List.length_nil, List.length_map, ByteArray.size_append]; omega) | (dsimp only; omega)) | (intro h; cases h; done)))); (first | with_reducible refine br_true rfl ?_ | with_reducible refine br_false rfl ?_ | skip); (conv => whnf))))
          (generalize hrq : rowOf _ _ (aksA l) = rq; obtain rfl : rq = akA a := hrq.symm.trans (hrow); clear hrq; conv => whnf)
          repeat (first | ((with_reducible refine And.intro ?_ ?_); (focus (first | omega | (with_reducible refine i64r ?_; (first | omega | (simp only [List.length_append, List.length_cons, List.length_nil, List.length_map, ByteArray.size_append]; omega) | (dsimp only; omega))) | (with_reducible refine max_le ?_; (first | omega | (simp only [List.length_append, List.length_cons, List.length_nil, List.length_map, ByteArray.size_append]; omega) | (dsimp only; omega))) | ((fail_if_success (with_reducible refine max_le ?_)); decide) | (simp only [List.length_append, List.length_cons, List.length_nil, List.length_map, ByteArray.size_append]; omega) | (dsimp only; omega) | ((with_reducible refine i64r ?_); dsimp only; omega))); (conv => whnf)) | ((first | with_reducible refine isIf1 ?_ | with_reducible refine isIf2 ?_ | with_reducible refine isIf3 ?_ | with_reducible refine isIf4 ?_ | with_reducible refine isIf5 ?_ | with_reducible refine isIf6 ?_ | with_reducible refine isIf7 ?_ | with_reducible refine isIf8 ?_ | with_reducible refine ifK_id ?_); first | ((focus (rw [decide_eq_true]; rotate_left; focus (first | (first | omega | (simp only [List.length_append, List.length_cons, List.length_nil, List.length_map, ByteArray.size_append]; omega) | (dsimp only; omega)) | ((with_reducible refine isEq ?_); rfl)))); (first | with_reducible refine br_true rfl ?_ | with_reducible refine br_false rfl ?_ | skip); (conv => whnf)) | ((focus (rw [decide_eq_false]; rotate_left; focus (first | (first | omega | (simp only [List.length_append, List.length_cons, List.length_nil, List.length_map, ByteArray.size_append]; omega) | (dsimp only; omega)) | (intro h; cases h; done)))); (first | with_reducible refine br_true rfl ?_ | with_reducible refine br_false rfl ?_ | skip); (conv => whnf))))
          (generalize hrq : rowOf _ _ (aksA l) = rq; obtain rfl : rq = akA a := hrq.symm.trans (hrow); clear hrq; conv => whnf)
          refine ⟨?_, ?_⟩
          · conv => whnf
            (refine call0 [] rfl (fun _ => qKey_spec a.q) ?_; rintro r rfl; conv => whnf)
            refine ⟨?_, ?_⟩
            · conv => whnf
              refine ⟨⟨by unfold maxLen; omega, by omega⟩, ?_⟩
              conv => whnf
              refine ⟨⟨by unfold maxLen; omega, by omega⟩, ?_⟩
              conv => whnf
            · conv => whnf
              refine ⟨⟨by unfold maxLen; omega, by omega⟩, ?_⟩
              conv => whnf
              refine ⟨⟨by unfold maxLen; omega, by omega⟩, ?_⟩
              conv => whnf
          · conv => whnf
            (refine call0 [] rfl (fun _ => qKey_spec a.q) ?_; rintro r rfl; conv => whnf)
            refine ⟨⟨by unfold maxLen; omega, by omega⟩, ?_⟩
            conv => whnf
            refine ⟨⟨by unfold maxLen; omega, by omega⟩, ?_⟩
            conv => whnf
        · conv => whnf
          repeat (first | ((with_reducible refine And.intro ?_ ?_); (focus (first | omega | (with_reducible refine i64r ?_; (first | omega | (simp only [List.length_append, List.length_cons, List.length_nil, List.length_map, ByteArray.size_append]; omega) | (dsimp only; omega))) | (with_reducible refine max_le ?_; (first | omega | (simp only [List.length_append, List.length_cons, List.length_nil, List.length_map, ByteArray.size_append]; omega) | (dsimp only; omega))) | ((fail_if_success (with_reducible refine max_le ?_)); decide) | (simp only [List.length_append, List.length_cons, List.length_nil, List.length_map, ByteArray.size_append]; omega) | (dsimp only; omega) | ((with_reducible refine i64r ?_); dsimp only; omega))); (conv => whnf)) | ((first | with_reducible refine isIf1 ?_ | with_reducible refine isIf2 ?_ | with_reducible refine isIf3 ?_ | with_reducible refine isIf4 ?_ | with_reducible refine isIf5 ?_ | with_reducible refine isIf6 ?_ | with_reducible refine isIf7 ?_ | with_reducible refine isIf8 ?_ | with_reducible refine ifK_id ?_); first | ((focus (rw [decide_eq_true]; rotate_left; focus (first | (first | omega | (simp only [List.length_append, List.length_cons, List.length_nil, List.length_map, ByteArray.size_append]; omega) | (dsimp only; omega)) | ((with_reducible refine isEq ?_); rfl)))); (first | with_reducible refine br_true rfl ?_ | with_reducible refine br_false rfl ?_ | skip); (conv => whnf)) | ((focus (rw [decide_eq_false]; rotate_left; focus (first | (first | omega | (simp only [List.length_append, List.length_cons, List.length_nil, List.length_map, ByteArray.size_append]; omega) | (dsimp only; omega)) | (intro h; cases h; done)))); (first | with_reducible refine br_true rfl ?_ | with_reducible refine br_false rfl ?_ | skip); (conv => whnf))))
          refine ⟨k + 1, le_head ?_, hlt, by omega⟩
          repeat' constructor
          · rw [hsk]; simp only [List.length_append, intsA, List.map_append]; rfl
      · obtain rfl : k = l.length := by omega
        rw [List.take_length]
        repeat (first | ((with_reducible refine And.intro ?_ ?_); (focus (first | omega | (with_reducible refine i64r ?_; (first | omega | (simp only [List.length_append, List.length_cons, List.length_nil, List.length_map, ByteArray.size_append]; omega) | (dsimp only; omega))) | (with_reducible refine max_le ?_; (first | omega | (simp only [List.length_append, List.length_cons, List.length_nil, List.length_map, ByteArray.size_append]; omega) | (dsimp only; omega))) | ((fail_if_success (with_reducible refine max_le ?_)); decide) | (simp only [List.length_append, List.length_cons, List.length_nil, List.length_map, ByteArray.size_append]; omega) | (dsimp only; omega) | ((with_reducible refine i64r ?_); dsimp only; omega))); (conv => whnf)) | ((first | with_reducible refine isIf1 ?_ | with_reducible refine isIf2 ?_ | with_reducible refine isIf3 ?_ | with_reducible refine isIf4 ?_ | with_reducible refine isIf5 ?_ | with_reducible refine isIf6 ?_ | with_reducible refine isIf7 ?_ | with_reducible refine isIf8 ?_ | with_reducible refine ifK_id ?_); first | ((focus (rw [decide_eq_true]; rotate_left; focus (first | (first | omega | (simp only [List.length_append, List.length_cons, List.length_nil, List.length_map, ByteArray.size_append]; omega) | (dsimp only; omega)) | ((with_reducible refine isEq ?_); rfl)))); (first | with_reducible refine br_true rfl ?_ | with_reducible refine br_false rfl ?_ | skip); (conv => whnf)) | ((focus (rw [decide_eq_false]; rotate_left; focus (first | (first | omega | (simp only [List.length_append, List.length_cons, List.length_nil, List.length_map, ByteArray.size_append]; omega) | (dsimp only; omega)) | (intro h; cases h; done)))); (first | with_reducible refine br_true rfl ?_ | with_reducible refine br_false rfl ?_ | skip); (conv => whnf))))
theorem refStepCmp_spec (e f : Ev) (l m : List Ak) (hl : l.length ≤ 1000) (hm : m.length ≤ 1000) (o p : Bool) (x y : A) (hx : x = .v (.slice none 0 0) ∨ ∃ n cs, x = .sl 5 n cs) (hy : y = .v (.slice none 0 0) ∨ ∃ n cs, y = .sl 5 n cs) : Spec Tryd.prog 33 [] [.agg (evA e ++ [.sl 7 l.length (aksA l), .v (.bool o), x]), .agg (evA f ++ [.sl 7 m.length (aksA m), .v (.bool p), y])] fun _ r => r = intA (cmpL (sKey e l) (sKey f m)) := by
  have h1 := stepKey_spec e l hl o x hx
  have h2 := stepKey_spec f m hm p y hy
  have hle := sKey_len e l
  have hlf := sKey_len f m
  have hL := lists_spec (sKey e l) (sKey f m) (by omega) (by omega)
  rcases hx with rfl | ⟨n, cs, rfl⟩
  · rcases hy with rfl | ⟨n', cs', rfl⟩
    · refine spec_of (cx_ok (fun id => match Nat.beq id 1 with | true => .q 0 7 .nil | false => ord33 id) xs0 0) Tryd.func33 rfl (by kernel_rfl) rfl (by kernel_rfl) ?_
      intro hok
      conv => whnf
      (iterate 1 (apply flow_go; (focus ((conv => whnf); exact ⟨rfl, rfl, rfl⟩)); (conv => whnf)))
      (apply flow_go; (focus ((conv => whnf); refine call0 [] rfl (fun _ => h1) ?_; rintro r rfl; (conv => whnf); exact ⟨rfl, rfl, rfl⟩)); (conv => whnf))
      (iterate 1 (apply flow_go; (focus ((conv => whnf); exact ⟨rfl, rfl, rfl⟩)); (conv => whnf)))
      (apply flow_go; (focus ((conv => whnf); refine call0 [] rfl (fun _ => h2) ?_; rintro r rfl; (conv => whnf); exact ⟨rfl, rfl, rfl⟩)); (conv => whnf))
      (apply flow_go; (focus ((conv => whnf); refine call0 [] rfl (fun _ => hL) ?_; rintro r rfl; (conv => whnf); exact ⟨rfl, rfl, rfl⟩)); (conv => whnf))
      (iterate 1 (apply flow_go; (focus ((conv => whnf); exact ⟨rfl, rfl, rfl⟩)); (conv => whnf)))
      rfl
    · refine spec_of (cx_ok (fun id => match Nat.beq id 1 with | true => .q 0 7 .nil | false => ord33 id) xs0 0) Tryd.func33 rfl (by kernel_rfl) rfl (by kernel_rfl) ?_
      intro hok
      conv => whnf
      (iterate 1 (apply flow_go; (focus ((conv => whnf); exact ⟨rfl, rfl, rfl⟩)); (conv => whnf)))
      (apply flow_go; (focus ((conv => whnf); refine call0 [] rfl (fun _ => h1) ?_; rintro r rfl; (conv => whnf); exact ⟨rfl, rfl, rfl⟩)); (conv => whnf))
      (iterate 1 (apply flow_go; (focus ((conv => whnf); exact ⟨rfl, rfl, rfl⟩)); (conv => whnf)))
      (apply flow_go; (focus ((conv => whnf); refine call0 [] rfl (fun _ => h2) ?_; rintro r rfl; (conv => whnf); exact ⟨rfl, rfl, rfl⟩)); (conv => whnf))
      (apply flow_go; (focus ((conv => whnf); refine call0 [] rfl (fun _ => hL) ?_; rintro r rfl; (conv => whnf); exact ⟨rfl, rfl, rfl⟩)); (conv => whnf))
      (iterate 1 (apply flow_go; (focus ((conv => whnf); exact ⟨rfl, rfl, rfl⟩)); (conv => whnf)))
      rfl
  · rcases hy with rfl | ⟨n', cs', rfl⟩
    · refine spec_of (cx_ok (fun id => match Nat.beq id 1 with | true => .q 0 7 .nil | false => ord33 id) xs0 0) Tryd.func33 rfl (by kernel_rfl) rfl (by kernel_rfl) ?_
      intro hok
      conv => whnf
      (iterate 1 (apply flow_go; (focus ((conv => whnf); exact ⟨rfl, rfl, rfl⟩)); (conv => whnf)))
      (apply flow_go; (focus ((conv => whnf); refine call0 [] rfl (fun _ => h1) ?_; rintro r rfl; (conv => whnf); exact ⟨rfl, rfl, rfl⟩)); (conv => whnf))
      (iterate 1 (apply flow_go; (focus ((conv => whnf); exact ⟨rfl, rfl, rfl⟩)); (conv => whnf)))
      (apply flow_go; (focus ((conv => whnf); refine call0 [] rfl (fun _ => h2) ?_; rintro r rfl; (conv => whnf); exact ⟨rfl, rfl, rfl⟩)); (conv => whnf))
      (apply flow_go; (focus ((conv => whnf); refine call0 [] rfl (fun _ => hL) ?_; rintro r rfl; (conv => whnf); exact ⟨rfl, rfl, rfl⟩)); (conv => whnf))
      (iterate 1 (apply flow_go; (focus ((conv => whnf); exact ⟨rfl, rfl, rfl⟩)); (conv => whnf)))
      rfl
    · refine spec_of (cx_ok (fun id => match Nat.beq id 1 with | true => .q 0 7 .nil | false => ord33 id) xs0 0) Tryd.func33 rfl (by kernel_rfl) rfl (by kernel_rfl) ?_
      intro hok
      conv => whnf
      (iterate 1 (apply flow_go; (focus ((conv => whnf); exact ⟨rfl, rfl, rfl⟩)); (conv => whnf)))
      (apply flow_go; (focus ((conv => whnf); refine call0 [] rfl (fun _ => h1) ?_; rintro r rfl; (conv => whnf); exact ⟨rfl, rfl, rfl⟩)); (conv => whnf))
      (iterate 1 (apply flow_go; (focus ((conv => whnf); exact ⟨rfl, rfl, rfl⟩)); (conv => whnf)))
      (apply flow_go; (focus ((conv => whnf); refine call0 [] rfl (fun _ => h2) ?_; rintro r rfl; (conv => whnf); exact ⟨rfl, rfl, rfl⟩)); (conv => whnf))
      (apply flow_go; (focus ((conv => whnf); refine call0 [] rfl (fun _ => hL) ?_; rintro r rfl; (conv => whnf); exact ⟨rfl, rfl, rfl⟩)); (conv => whnf))
      (iterate 1 (apply flow_go; (focus ((conv => whnf); exact ⟨rfl, rfl, rfl⟩)); (conv => whnf)))
      rfl
end Go.Proofs.YtinjgckpmblffaaDoor.Vm
