/- The law NamesSteps: its walk. -/
import Derived.Test.YtinjgckpmblffaaDoorN22
namespace Go.Proofs.YtinjgckpmblffaaDoor.Vm
open Go.RowKit Go.Shelf
set_option linter.unusedSimpArgs false
set_option linter.unusedVariables false
set_option maxRecDepth 100000
theorem aks_set6 : ∀ (l : List Ak) (i : Nat) (v : Int), i < l.length → ∃ l' : List Ak, l'.length = l.length ∧ (aksA l).set (i * 7 + 6) (intA v) = aksA l'
  | [], i, v, h => by simp at h
  | a :: l, 0, v, h => ⟨⟨a.q, a.arity, v⟩ :: l, by simp, rfl⟩
  | a :: l, i + 1, v, h => by
    obtain ⟨l', h1, h2⟩ := aks_set6 l i v (by simpa using h)
    refine ⟨a :: l', by simp [h1], ?_⟩
    rw [show (i + 1) * 7 + 6 = i * 7 + 6 + 1 + 1 + 1 + 1 + 1 + 1 + 1 by omega]
    show akA a ++ (aksA l).set (i * 7 + 6) (intA v) = akA a ++ aksA l'
    rw [h2]
theorem aks_set5 : ∀ (l : List Ak) (v : Int), 0 < l.length → ∃ l' : List Ak, l'.length = l.length ∧ (aksA l).set 5 (intA v) = aksA l'
  | [], v, h => by simp at h
  | a :: l, v, h => ⟨⟨a.q, v, a.n⟩ :: l, by simp, rfl⟩
theorem aks_take : ∀ (l : List Ak) (k : Nat), (aksA l).take (k * 7) = aksA (l.take k)
  | [], k => by simp [aksA]
  | a :: l, 0 => by simp [aksA]
  | a :: l, k + 1 => by
    rw [show (k + 1) * 7 = k * 7 + 1 + 1 + 1 + 1 + 1 + 1 + 1 by omega]
    show akA a ++ (aksA l).take (k * 7) = akA a ++ aksA (l.take k)
    rw [aks_take l k]
theorem setK_go {α : Type} : ∀ {l : List α} {i : Nat} {a : α} {K : List α → Prop}, i < l.length → K (l.set i a) → setK l i a K
  | x :: l, 0, a, K, _, h => h
  | x :: l, i + 1, a, K, hi, h => by
    unfold setK
    exact setK_go (l := l) (by simpa using hi) h
  | [], i, a, K, hi, _ => by simp at hi
theorem stepCmp_len (e f : Ev) (l m : List Ak) (k : Nat) (hk : m.length = k) (hl : l.length ≤ 1000) (hm : k ≤ 1000) (o p : Bool) (x y : A) : Spec Tryd.prog 32 [] [.agg (evA e ++ [.sl 7 l.length (aksA l), .v (.bool o), x]), .agg (evA f ++ [.sl 7 k (aksA m), .v (.bool p), y])] fun _ r => r = intA (cmpL (sKey e l) (sKey f m)) := by
  subst hk
  exact stepCmp_spec e f l m hl hm o p x y
theorem refStepCmp_len (e f : Ev) (l m : List Ak) (k : Nat) (hk : m.length = k) (hl : l.length ≤ 1000) (hm : k ≤ 1000) (o p : Bool) (x y : A) (hx : x = .v (.slice none 0 0) ∨ ∃ n cs, x = .sl 5 n cs) (hy : y = .v (.slice none 0 0) ∨ ∃ n cs, y = .sl 5 n cs) : Spec Tryd.prog 33 [] [.agg (evA e ++ [.sl 7 l.length (aksA l), .v (.bool o), x]), .agg (evA f ++ [.sl 7 k (aksA m), .v (.bool p), y])] fun _ r => r = intA (cmpL (sKey e l) (sKey f m)) := by
  subst hk
  exact refStepCmp_spec e f l m hl hm o p x y hx hy
set_option maxHeartbeats 4000000 in
theorem steps_law_spec (l m : List Int) (cut n : Int) : Spec Tryd.prog 10 [] [.sl 1 l.length (intsA l), .sl 1 m.length (intsA m), intA cut, intA n] fun _ r => r = boolA true := by
  refine spec_of_ok (cx_ok (fun id => match Nat.beq id 11 with | true => .q 0 7 .nil | false => ord10 id) xs0 0) Tryd.func10 rfl (by kernel_rfl) rfl ?_
  intro hok
  conv => whnf
  refine ok_step (cx_ok _ _ _) (by kernel_rfl) ?_
  conv => whnf
  refine ok_step (cx_ok _ _ _) (by kernel_rfl) ?_
  conv => whnf
  refine call0 [] rfl (fun _ => stepOf_spec l) ?_
  rintro r ⟨e1, a1, h1, he1, ha1, rfl⟩
  conv => whnf
  refine ok_step (cx_ok _ _ _) (by kernel_rfl) ?_
  conv => whnf
  refine call0 [] rfl (fun _ => stepOf_spec m) ?_
  rintro r ⟨e2, a2, h2, _, _, rfl⟩
  conv => whnf
  refine ok_step (cx_ok _ _ _) (by kernel_rfl) ?_
  conv => whnf
  refine call0 [] rfl (fun _ => stepOf_spec l) ?_
  rintro r ⟨e3, a3, h3, he3, ha3, rfl⟩
  obtain rfl : e3 = e1 := he3.trans he1.symm
  obtain rfl : a3 = a1 := ha3.trans ha1.symm
  conv => whnf
  refine ok_step (cx_ok _ _ _) (by kernel_rfl) ?_
  conv => whnf
  repeat (first | ((with_reducible refine And.intro ?_ ?_); (focus (first | omega | (with_reducible refine i64r ?_; (first | omega | (simp only [List.length_append, List.length_cons, List.length_nil, List.length_map, ByteArray.size_append]; omega) | (dsimp only; omega))) | (with_reducible refine max_le ?_; (first | omega | (simp only [List.length_append, List.length_cons, List.length_nil, List.length_map, ByteArray.size_append]; omega) | (dsimp only; omega))) | ((fail_if_success (with_reducible refine max_le ?_)); decide) | (simp only [List.length_append, List.length_cons, List.length_nil, List.length_map, ByteArray.size_append]; omega) | (dsimp only; omega) | ((with_reducible refine i64r ?_); dsimp only; omega))); (conv => whnf)) | ((first | with_reducible refine isIf1 ?_ | with_reducible refine isIf2 ?_ | with_reducible refine isIf3 ?_ | with_reducible refine isIf4 ?_ | with_reducible refine isIf5 ?_ | with_reducible refine isIf6 ?_ | with_reducible refine isIf7 ?_ | with_reducible refine isIf8 ?_ | with_reducible refine ifK_id ?_); first | ((focus (rw [decide_eq_true]; rotate_left; focus (first | (first | omega | (simp only [List.length_append, List.length_cons, List.length_nil, List.length_map, ByteArray.size_append]; omega) | (dsimp only; omega)) | ((with_reducible refine isEq ?_); rfl)))); (first | with_reducible refine br_true rfl ?_ | with_reducible refine br_false rfl ?_ | skip); (conv => whnf)) | ((focus (rw [decide_eq_false]; rotate_left; focus (first | (first | omega | (simp only [List.length_append, List.length_cons, List.length_nil, List.length_map, ByteArray.size_append]; omega) | (dsimp only; omega)) | (intro h; cases h; done)))); (first | with_reducible refine br_true rfl ?_ | with_reducible refine br_false rfl ?_ | skip); (conv => whnf))))
  refine call0 [] rfl (fun _ => around_spec cut ((a3.length : Int) + 1) (by omega)) ?_
  rintro r ⟨hn, rfl⟩
  obtain ⟨c1, c2⟩ := kNat_eq hn (m := (a3.length : Int) + 1) (by omega)
  rw [c1]
  generalize kNat cut ((a3.length : Int) + 1) = kc at *
  conv => whnf
  repeat (first | ((with_reducible refine And.intro ?_ ?_); (focus (first | omega | (with_reducible refine i64r ?_; (first | omega | (simp only [List.length_append, List.length_cons, List.length_nil, List.length_map, ByteArray.size_append]; omega) | (dsimp only; omega))) | (with_reducible refine max_le ?_; (first | omega | (simp only [List.length_append, List.length_cons, List.length_nil, List.length_map, ByteArray.size_append]; omega) | (dsimp only; omega))) | ((fail_if_success (with_reducible refine max_le ?_)); decide) | (simp only [List.length_append, List.length_cons, List.length_nil, List.length_map, ByteArray.size_append]; omega) | (dsimp only; omega) | ((with_reducible refine i64r ?_); dsimp only; omega))); (conv => whnf)) | ((first | with_reducible refine isIf1 ?_ | with_reducible refine isIf2 ?_ | with_reducible refine isIf3 ?_ | with_reducible refine isIf4 ?_ | with_reducible refine isIf5 ?_ | with_reducible refine isIf6 ?_ | with_reducible refine isIf7 ?_ | with_reducible refine isIf8 ?_ | with_reducible refine ifK_id ?_); first | ((focus (rw [decide_eq_true]; rotate_left; focus (first | (first | omega | (simp only [List.length_append, List.length_cons, List.length_nil, List.length_map, ByteArray.size_append]; omega) | (dsimp only; omega)) | ((with_reducible refine isEq ?_); rfl)))); (first | with_reducible refine br_true rfl ?_ | with_reducible refine br_false rfl ?_ | skip); (conv => whnf)) | ((focus (rw [decide_eq_false]; rotate_left; focus (first | (first | omega | (simp only [List.length_append, List.length_cons, List.length_nil, List.length_map, ByteArray.size_append]; omega) | (dsimp only; omega)) | (intro h; cases h; done)))); (first | with_reducible refine br_true rfl ?_ | with_reducible refine br_false rfl ?_ | skip); (conv => whnf))))
  obtain ⟨c3, hc3, hc4⟩ : ∃ c3 : List Ak, c3.length = kc ∧ (aksA a3).take (kc * 7) = aksA c3 := ⟨a3.take kc, by simp; omega, aks_take a3 kc⟩
  have hc5 : ((kc : Int).toNat - Int.toNat 0) = c3.length := by omega
  have hc6 : List.take (c3.length * 7) (List.drop (Int.toNat 0 * 7) (aksA a3)) = aksA c3 := by rw [hc3]; exact hc4
  rw [hc5, hc6]
  refine ok_step (cx_ok _ _ _) (by kernel_rfl) ?_
  conv => whnf
  refine callF 0 [] rfl rfl (fun _ => stepOf_specF l) ?_
  rintro e k n' cs r ⟨rfl, rfl, rfl, rfl, rfl⟩
  rw [← ha1, ← he1]
  rw [show stepN l = a3.length by rw [ha1, asksF_len]]
  conv => whnf
  refine ok_step (cx_ok _ _ _) (by kernel_rfl) ?_
  conv => whnf
  refine ok_step (cx_ok _ _ _) (by kernel_rfl) ?_
  conv => whnf
  repeat (first | ((with_reducible refine And.intro ?_ ?_); (focus (first | omega | (with_reducible refine i64r ?_; (first | omega | (simp only [List.length_append, List.length_cons, List.length_nil, List.length_map, ByteArray.size_append]; omega) | (dsimp only; omega))) | (with_reducible refine max_le ?_; (first | omega | (simp only [List.length_append, List.length_cons, List.length_nil, List.length_map, ByteArray.size_append]; omega) | (dsimp only; omega))) | ((fail_if_success (with_reducible refine max_le ?_)); decide) | (simp only [List.length_append, List.length_cons, List.length_nil, List.length_map, ByteArray.size_append]; omega) | (dsimp only; omega) | ((with_reducible refine i64r ?_); dsimp only; omega))); (conv => whnf)) | ((first | with_reducible refine isIf1 ?_ | with_reducible refine isIf2 ?_ | with_reducible refine isIf3 ?_ | with_reducible refine isIf4 ?_ | with_reducible refine isIf5 ?_ | with_reducible refine isIf6 ?_ | with_reducible refine isIf7 ?_ | with_reducible refine isIf8 ?_ | with_reducible refine ifK_id ?_); first | ((focus (rw [decide_eq_true]; rotate_left; focus (first | (first | omega | (simp only [List.length_append, List.length_cons, List.length_nil, List.length_map, ByteArray.size_append]; omega) | (dsimp only; omega)) | ((with_reducible refine isEq ?_); rfl)))); (first | with_reducible refine br_true rfl ?_ | with_reducible refine br_false rfl ?_ | skip); (conv => whnf)) | ((focus (rw [decide_eq_false]; rotate_left; focus (first | (first | omega | (simp only [List.length_append, List.length_cons, List.length_nil, List.length_map, ByteArray.size_append]; omega) | (dsimp only; omega)) | (intro h; cases h; done)))); (first | with_reducible refine br_true rfl ?_ | with_reducible refine br_false rfl ?_ | skip); (conv => whnf))))
  refine ok_step (cx_ok _ _ _) (by kernel_rfl) ?_
  conv => whnf
  by_cases h0 : 0 < a3.length
  · repeat (first | ((with_reducible refine And.intro ?_ ?_); (focus (first | omega | (with_reducible refine i64r ?_; (first | omega | (simp only [List.length_append, List.length_cons, List.length_nil, List.length_map, ByteArray.size_append]; omega) | (dsimp only; omega))) | (with_reducible refine max_le ?_; (first | omega | (simp only [List.length_append, List.length_cons, List.length_nil, List.length_map, ByteArray.size_append]; omega) | (dsimp only; omega))) | ((fail_if_success (with_reducible refine max_le ?_)); decide) | (simp only [List.length_append, List.length_cons, List.length_nil, List.length_map, ByteArray.size_append]; omega) | (dsimp only; omega) | ((with_reducible refine i64r ?_); dsimp only; omega))); (conv => whnf)) | ((first | with_reducible refine isIf1 ?_ | with_reducible refine isIf2 ?_ | with_reducible refine isIf3 ?_ | with_reducible refine isIf4 ?_ | with_reducible refine isIf5 ?_ | with_reducible refine isIf6 ?_ | with_reducible refine isIf7 ?_ | with_reducible refine isIf8 ?_ | with_reducible refine ifK_id ?_); first | ((focus (rw [decide_eq_true]; rotate_left; focus (first | (first | omega | (simp only [List.length_append, List.length_cons, List.length_nil, List.length_map, ByteArray.size_append]; omega) | (dsimp only; omega)) | ((with_reducible refine isEq ?_); rfl)))); (first | with_reducible refine br_true rfl ?_ | with_reducible refine br_false rfl ?_ | skip); (conv => whnf)) | ((focus (rw [decide_eq_false]; rotate_left; focus (first | (first | omega | (simp only [List.length_append, List.length_cons, List.length_nil, List.length_map, ByteArray.size_append]; omega) | (dsimp only; omega)) | (intro h; cases h; done)))); (first | with_reducible refine br_true rfl ?_ | with_reducible refine br_false rfl ?_ | skip); (conv => whnf))))
    refine call0 [] rfl (fun _ => around_spec n 4 (by omega)) ?_
    rintro r ⟨hn2, rfl⟩
    generalize aroundF n 4 = v at *
    conv => whnf
    repeat (first | ((with_reducible refine And.intro ?_ ?_); (focus (first | omega | (with_reducible refine i64r ?_; (first | omega | (simp only [List.length_append, List.length_cons, List.length_nil, List.length_map, ByteArray.size_append]; omega) | (dsimp only; omega))) | (with_reducible refine max_le ?_; (first | omega | (simp only [List.length_append, List.length_cons, List.length_nil, List.length_map, ByteArray.size_append]; omega) | (dsimp only; omega))) | ((fail_if_success (with_reducible refine max_le ?_)); decide) | (simp only [List.length_append, List.length_cons, List.length_nil, List.length_map, ByteArray.size_append]; omega) | (dsimp only; omega) | ((with_reducible refine i64r ?_); dsimp only; omega))); (conv => whnf)) | ((first | with_reducible refine isIf1 ?_ | with_reducible refine isIf2 ?_ | with_reducible refine isIf3 ?_ | with_reducible refine isIf4 ?_ | with_reducible refine isIf5 ?_ | with_reducible refine isIf6 ?_ | with_reducible refine isIf7 ?_ | with_reducible refine isIf8 ?_ | with_reducible refine ifK_id ?_); first | ((focus (rw [decide_eq_true]; rotate_left; focus (first | (first | omega | (simp only [List.length_append, List.length_cons, List.length_nil, List.length_map, ByteArray.size_append]; omega) | (dsimp only; omega)) | ((with_reducible refine isEq ?_); rfl)))); (first | with_reducible refine br_true rfl ?_ | with_reducible refine br_false rfl ?_ | skip); (conv => whnf)) | ((focus (rw [decide_eq_false]; rotate_left; focus (first | (first | omega | (simp only [List.length_append, List.length_cons, List.length_nil, List.length_map, ByteArray.size_append]; omega) | (dsimp only; omega)) | (intro h; cases h; done)))); (first | with_reducible refine br_true rfl ?_ | with_reducible refine br_false rfl ?_ | skip); (conv => whnf))))
    rw [show ((a3.length : Int) - 1).toNat = a3.length - 1 by omega]
    obtain ⟨b1, hb1, hs1⟩ := aks_set6 a3 (a3.length - 1) v (by omega)
    obtain ⟨b2, hb2, hs2⟩ := aks_set5 b1 2 (by omega)
    refine setK_go (by rw [aksA_len]; omega) ?_
    rw [show (aksA a3).set ((a3.length - 1) * 7 + 6) (A.v (Value.int IntKind.i64 v)) = aksA b1 from hs1]
    conv => whnf
    repeat (first | ((with_reducible refine And.intro ?_ ?_); (focus (first | omega | (with_reducible refine i64r ?_; (first | omega | (simp only [List.length_append, List.length_cons, List.length_nil, List.length_map, ByteArray.size_append]; omega) | (dsimp only; omega))) | (with_reducible refine max_le ?_; (first | omega | (simp only [List.length_append, List.length_cons, List.length_nil, List.length_map, ByteArray.size_append]; omega) | (dsimp only; omega))) | ((fail_if_success (with_reducible refine max_le ?_)); decide) | (simp only [List.length_append, List.length_cons, List.length_nil, List.length_map, ByteArray.size_append]; omega) | (dsimp only; omega) | ((with_reducible refine i64r ?_); dsimp only; omega))); (conv => whnf)) | ((first | with_reducible refine isIf1 ?_ | with_reducible refine isIf2 ?_ | with_reducible refine isIf3 ?_ | with_reducible refine isIf4 ?_ | with_reducible refine isIf5 ?_ | with_reducible refine isIf6 ?_ | with_reducible refine isIf7 ?_ | with_reducible refine isIf8 ?_ | with_reducible refine ifK_id ?_); first | ((focus (rw [decide_eq_true]; rotate_left; focus (first | (first | omega | (simp only [List.length_append, List.length_cons, List.length_nil, List.length_map, ByteArray.size_append]; omega) | (dsimp only; omega)) | ((with_reducible refine isEq ?_); rfl)))); (first | with_reducible refine br_true rfl ?_ | with_reducible refine br_false rfl ?_ | skip); (conv => whnf)) | ((focus (rw [decide_eq_false]; rotate_left; focus (first | (first | omega | (simp only [List.length_append, List.length_cons, List.length_nil, List.length_map, ByteArray.size_append]; omega) | (dsimp only; omega)) | (intro h; cases h; done)))); (first | with_reducible refine br_true rfl ?_ | with_reducible refine br_false rfl ?_ | skip); (conv => whnf))))
    refine setK_go (by rw [aksA_len]; omega) ?_
    rw [show (aksA b1).set (Int.toNat 0 * 7 + 5) (A.v (Value.int IntKind.i64 2)) = aksA b2 from hs2]
    conv => whnf
    refine ok_pub [0, 1] ?_
    conv => whnf
    refine ok_of_awp (cx_ok _ _ _) (by kernel_rfl) ?_
    conv => whnf
    (iterate 2 (apply flow_go; (focus ((conv => whnf); exact ⟨rfl, rfl, rfl⟩)); (conv => whnf)))
    (apply flow_go; (focus ((conv => whnf); refine call0 [] rfl (fun _ => stepCmp_spec e3 e2 a3 a2 (by omega) (by omega) _ _ _ _) ?_; rintro r rfl; (conv => whnf); exact ⟨rfl, rfl, rfl⟩)); (conv => whnf))
    (iterate 2 (apply flow_go; (focus ((conv => whnf); exact ⟨rfl, rfl, rfl⟩)); (conv => whnf)))
    (apply flow_go; (focus ((conv => whnf); refine call0 [] rfl (fun _ => refStepCmp_spec e3 e2 a3 a2 (by omega) (by omega) _ _ _ _ (.inl rfl) (.inl rfl)) ?_; rintro r rfl; (conv => whnf); exact ⟨rfl, rfl, rfl⟩)); (conv => whnf))
    apply flow_go
    · conv => whnf
      rw [decide_eq_true rfl]
      exact ⟨rfl, rfl, rfl⟩
    conv => whnf
    (iterate 3 (apply flow_go; (focus ((conv => whnf); exact ⟨rfl, rfl, rfl⟩)); (conv => whnf)))
    (apply flow_go; (focus ((conv => whnf); refine call0 [] rfl (fun _ => stepCmp_spec e3 e3 a3 c3 (by omega) (by omega) _ _ _ _) ?_; rintro r rfl; (conv => whnf); exact ⟨rfl, rfl, rfl⟩)); (conv => whnf))
    (iterate 2 (apply flow_go; (focus ((conv => whnf); exact ⟨rfl, rfl, rfl⟩)); (conv => whnf)))
    (apply flow_go; (focus ((conv => whnf); refine call0 [] rfl (fun _ => refStepCmp_spec e3 e3 a3 c3 (by omega) (by omega) _ _ _ _ (.inl rfl) (.inl rfl)) ?_; rintro r rfl; (conv => whnf); exact ⟨rfl, rfl, rfl⟩)); (conv => whnf))
    apply flow_go
    · conv => whnf
      rw [decide_eq_true rfl]
      exact ⟨rfl, rfl, rfl⟩
    conv => whnf
    (iterate 4 (apply flow_go; (focus ((conv => whnf); exact ⟨rfl, rfl, rfl⟩)); (conv => whnf)))
    (apply flow_go; (focus ((conv => whnf); refine call0 [] rfl (fun _ => stepCmp_spec e3 e3 c3 a3 (by omega) (by omega) _ _ _ _) ?_; rintro r rfl; (conv => whnf); exact ⟨rfl, rfl, rfl⟩)); (conv => whnf))
    (iterate 2 (apply flow_go; (focus ((conv => whnf); exact ⟨rfl, rfl, rfl⟩)); (conv => whnf)))
    (apply flow_go; (focus ((conv => whnf); refine call0 [] rfl (fun _ => refStepCmp_spec e3 e3 c3 a3 (by omega) (by omega) _ _ _ _ (.inl rfl) (.inl rfl)) ?_; rintro r rfl; (conv => whnf); exact ⟨rfl, rfl, rfl⟩)); (conv => whnf))
    apply flow_go
    · conv => whnf
      rw [decide_eq_true rfl]
      exact ⟨rfl, rfl, rfl⟩
    conv => whnf
    (iterate 4 (apply flow_go; (focus ((conv => whnf); exact ⟨rfl, rfl, rfl⟩)); (conv => whnf)))
    (apply flow_go; (focus ((conv => whnf); refine call0 [] rfl (fun _ => stepCmp_len e3 e3 a3 b2 a3.length (hb2.trans hb1) (by omega) (by omega) _ _ _ _) ?_; rintro r rfl; (conv => whnf); exact ⟨rfl, rfl, rfl⟩)); (conv => whnf))
    (iterate 2 (apply flow_go; (focus ((conv => whnf); exact ⟨rfl, rfl, rfl⟩)); (conv => whnf)))
    (apply flow_go; (focus ((conv => whnf); refine call0 [] rfl (fun _ => refStepCmp_len e3 e3 a3 b2 a3.length (hb2.trans hb1) (by omega) (by omega) _ _ _ _ (.inl rfl) (.inr ⟨_, _, rfl⟩)) ?_; rintro r rfl; (conv => whnf); exact ⟨rfl, rfl, rfl⟩)); (conv => whnf))
    apply flow_go
    · conv => whnf
      rw [decide_eq_true rfl]
      exact ⟨rfl, rfl, rfl⟩
    conv => whnf
    (iterate 2 (apply flow_go; (focus ((conv => whnf); exact ⟨rfl, rfl, rfl⟩)); (conv => whnf)))
    (apply flow_go; (focus ((conv => whnf); refine call0 [] rfl (fun _ => lives_spec) ?_; rintro r rfl; (conv => whnf); exact ⟨rfl, rfl, rfl⟩)); (conv => whnf))
    (iterate 2 (apply flow_go; (focus ((conv => whnf); exact ⟨rfl, rfl, rfl⟩)); (conv => whnf)))
    rfl
  · repeat (first | ((with_reducible refine And.intro ?_ ?_); (focus (first | omega | (with_reducible refine i64r ?_; (first | omega | (simp only [List.length_append, List.length_cons, List.length_nil, List.length_map, ByteArray.size_append]; omega) | (dsimp only; omega))) | (with_reducible refine max_le ?_; (first | omega | (simp only [List.length_append, List.length_cons, List.length_nil, List.length_map, ByteArray.size_append]; omega) | (dsimp only; omega))) | ((fail_if_success (with_reducible refine max_le ?_)); decide) | (simp only [List.length_append, List.length_cons, List.length_nil, List.length_map, ByteArray.size_append]; omega) | (dsimp only; omega) | ((with_reducible refine i64r ?_); dsimp only; omega))); (conv => whnf)) | ((first | with_reducible refine isIf1 ?_ | with_reducible refine isIf2 ?_ | with_reducible refine isIf3 ?_ | with_reducible refine isIf4 ?_ | with_reducible refine isIf5 ?_ | with_reducible refine isIf6 ?_ | with_reducible refine isIf7 ?_ | with_reducible refine isIf8 ?_ | with_reducible refine ifK_id ?_); first | ((focus (rw [decide_eq_true]; rotate_left; focus (first | (first | omega | (simp only [List.length_append, List.length_cons, List.length_nil, List.length_map, ByteArray.size_append]; omega) | (dsimp only; omega)) | ((with_reducible refine isEq ?_); rfl)))); (first | with_reducible refine br_true rfl ?_ | with_reducible refine br_false rfl ?_ | skip); (conv => whnf)) | ((focus (rw [decide_eq_false]; rotate_left; focus (first | (first | omega | (simp only [List.length_append, List.length_cons, List.length_nil, List.length_map, ByteArray.size_append]; omega) | (dsimp only; omega)) | (intro h; cases h; done)))); (first | with_reducible refine br_true rfl ?_ | with_reducible refine br_false rfl ?_ | skip); (conv => whnf))))
    refine ok_pub [0, 1] ?_
    conv => whnf
    refine ok_of_awp (cx_ok _ _ _) (by kernel_rfl) ?_
    conv => whnf
    (iterate 2 (apply flow_go; (focus ((conv => whnf); exact ⟨rfl, rfl, rfl⟩)); (conv => whnf)))
    (apply flow_go; (focus ((conv => whnf); refine call0 [] rfl (fun _ => stepCmp_spec e3 e2 a3 a2 (by omega) (by omega) _ _ _ _) ?_; rintro r rfl; (conv => whnf); exact ⟨rfl, rfl, rfl⟩)); (conv => whnf))
    (iterate 2 (apply flow_go; (focus ((conv => whnf); exact ⟨rfl, rfl, rfl⟩)); (conv => whnf)))
    (apply flow_go; (focus ((conv => whnf); refine call0 [] rfl (fun _ => refStepCmp_spec e3 e2 a3 a2 (by omega) (by omega) _ _ _ _ (.inl rfl) (.inl rfl)) ?_; rintro r rfl; (conv => whnf); exact ⟨rfl, rfl, rfl⟩)); (conv => whnf))
    apply flow_go
    · conv => whnf
      rw [decide_eq_true rfl]
      exact ⟨rfl, rfl, rfl⟩
    conv => whnf
    (iterate 3 (apply flow_go; (focus ((conv => whnf); exact ⟨rfl, rfl, rfl⟩)); (conv => whnf)))
    (apply flow_go; (focus ((conv => whnf); refine call0 [] rfl (fun _ => stepCmp_spec e3 e3 a3 c3 (by omega) (by omega) _ _ _ _) ?_; rintro r rfl; (conv => whnf); exact ⟨rfl, rfl, rfl⟩)); (conv => whnf))
    (iterate 2 (apply flow_go; (focus ((conv => whnf); exact ⟨rfl, rfl, rfl⟩)); (conv => whnf)))
    (apply flow_go; (focus ((conv => whnf); refine call0 [] rfl (fun _ => refStepCmp_spec e3 e3 a3 c3 (by omega) (by omega) _ _ _ _ (.inl rfl) (.inl rfl)) ?_; rintro r rfl; (conv => whnf); exact ⟨rfl, rfl, rfl⟩)); (conv => whnf))
    apply flow_go
    · conv => whnf
      rw [decide_eq_true rfl]
      exact ⟨rfl, rfl, rfl⟩
    conv => whnf
    (iterate 4 (apply flow_go; (focus ((conv => whnf); exact ⟨rfl, rfl, rfl⟩)); (conv => whnf)))
    (apply flow_go; (focus ((conv => whnf); refine call0 [] rfl (fun _ => stepCmp_spec e3 e3 c3 a3 (by omega) (by omega) _ _ _ _) ?_; rintro r rfl; (conv => whnf); exact ⟨rfl, rfl, rfl⟩)); (conv => whnf))
    (iterate 2 (apply flow_go; (focus ((conv => whnf); exact ⟨rfl, rfl, rfl⟩)); (conv => whnf)))
    (apply flow_go; (focus ((conv => whnf); refine call0 [] rfl (fun _ => refStepCmp_spec e3 e3 c3 a3 (by omega) (by omega) _ _ _ _ (.inl rfl) (.inl rfl)) ?_; rintro r rfl; (conv => whnf); exact ⟨rfl, rfl, rfl⟩)); (conv => whnf))
    apply flow_go
    · conv => whnf
      rw [decide_eq_true rfl]
      exact ⟨rfl, rfl, rfl⟩
    conv => whnf
    (iterate 4 (apply flow_go; (focus ((conv => whnf); exact ⟨rfl, rfl, rfl⟩)); (conv => whnf)))
    (apply flow_go; (focus ((conv => whnf); refine call0 [] rfl (fun _ => stepCmp_len e3 e3 a3 a3 a3.length rfl (by omega) (by omega) _ _ _ _) ?_; rintro r rfl; (conv => whnf); exact ⟨rfl, rfl, rfl⟩)); (conv => whnf))
    (iterate 2 (apply flow_go; (focus ((conv => whnf); exact ⟨rfl, rfl, rfl⟩)); (conv => whnf)))
    (apply flow_go; (focus ((conv => whnf); refine call0 [] rfl (fun _ => refStepCmp_len e3 e3 a3 a3 a3.length rfl (by omega) (by omega) _ _ _ _ (.inl rfl) (.inr ⟨_, _, rfl⟩)) ?_; rintro r rfl; (conv => whnf); exact ⟨rfl, rfl, rfl⟩)); (conv => whnf))
    apply flow_go
    · conv => whnf
      rw [decide_eq_true rfl]
      exact ⟨rfl, rfl, rfl⟩
    conv => whnf
    (iterate 2 (apply flow_go; (focus ((conv => whnf); exact ⟨rfl, rfl, rfl⟩)); (conv => whnf)))
    (apply flow_go; (focus ((conv => whnf); refine call0 [] rfl (fun _ => lives_spec) ?_; rintro r rfl; (conv => whnf); exact ⟨rfl, rfl, rfl⟩)); (conv => whnf))
    (iterate 2 (apply flow_go; (focus ((conv => whnf); exact ⟨rfl, rfl, rfl⟩)); (conv => whnf)))
    rfl
end Go.Proofs.YtinjgckpmblffaaDoor.Vm
