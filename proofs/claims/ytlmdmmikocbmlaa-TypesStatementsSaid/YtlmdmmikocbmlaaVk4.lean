/- Well, and the reference's Check. -/
import Derived.Test.YtlmdmmikocbmlaaVk3
namespace Go.Proofs.Ytlmdmmikocbmlaa.Vm
open Go.RowKit
set_option linter.unusedSimpArgs false
set_option linter.unusedVariables false
set_option maxRecDepth 100000
mutual
/-- The reference's Well. -/
def rwellF : Nd → Bool
  | .mk k _ _ kids => if k = 11 then rwellAll kids else if k = 2 ∨ k = 3 then rwellC kids else !rnotAll 1 kids
def rwellAll : List Nd → Bool
  | [] => true
  | x :: xs => rwellF x && rwellAll xs
def rwellC : List Nd → Bool
  | [] => false
  | c :: rest => rwellAll rest && (rtypeF c == 2)
end
theorem rwellAll_all (l : List Nd) : rwellAll l = l.all rwellF := by
  induction l with
  | nil => simp [rwellAll]
  | cons x xs ih => simp [rwellAll, ih]
theorem rnotAll_all (l : List Nd) : (!rnotAll 1 l) = l.all (fun x => rtypeF x == 1) := by
  rw [rnotAll_any]
  induction l with
  | nil => rfl
  | cons x xs ih =>
    simp only [List.any_cons, List.all_cons, Bool.not_or, ih]
    congr 1
    simp [bne]
mutual
/-- What the walk asks of a tree: a condition stands ahead of its blocks. -/
def goodN : Nd → Prop
  | .mk k _ _ kids => kids.length ≤ 1000000 ∧ (k = 2 ∨ k = 3 → 1 ≤ kids.length) ∧ goodNs kids
def goodNs : List Nd → Prop
  | [] => True
  | t :: ts => goodN t ∧ goodNs ts
end
mutual
theorem good_small : ∀ t : Nd, goodN t → smallN t
  | .mk k n s kids, h => by
    unfold goodN at h
    unfold smallN
    exact ⟨by omega, goods_small kids h.2.2⟩
theorem goods_small : ∀ l : List Nd, goodNs l → smallNs l
  | [], _ => by unfold smallNs; trivial
  | t :: ts, h => by
    unfold goodNs at h
    unfold smallNs
    exact ⟨good_small t h.1, goods_small ts h.2⟩
end
theorem goodNs_mem : ∀ {l : List Nd} {t : Nd}, goodNs l → t ∈ l → goodN t
  | x :: r, t, h, ht => by
    unfold goodNs at h
    rcases List.mem_cons.1 ht with rfl | ht
    · exact h.1
    · exact goodNs_mem h.2 ht
theorem goodNs_of : ∀ {l : List Nd}, (∀ t ∈ l, goodN t) → goodNs l
  | [], _ => by unfold goodNs; trivial
  | x :: r, h => by unfold goodNs; exact ⟨h x (by simp), goodNs_of (fun t ht => h t (by simp [ht]))⟩
theorem all_get {α : Type} {l : List α} {p : α → Bool} (h : ∀ i (hi : i < l.length), p l[i] = true) : l.all p = true :=
  List.all_eq_true.2 fun x hx => by
    obtain ⟨i, hi, rfl⟩ := List.mem_iff_getElem.1 hx
    exact h i hi
theorem all_not {α : Type} {l : List α} {p : α → Bool} {i : Nat} (hi : i < l.length) (h : p l[i] = false) : l.all p = false := by
  rw [List.all_eq_false]
  exact ⟨l[i], List.getElem_mem hi, by simp [h]⟩
def WellC' (t : Nd) : Prop := goodN t → Spec Try.prog 40 [] [.agg (ndL t)] fun _ r => r = boolA (rwellF t)
theorem rwellC_not {kids : List Nd} {j : Nat} (h1 : 1 ≤ j) (hj : j < kids.length) (h : rwellF kids[j] = false) : rwellC kids = false := by
  match kids, j, h1, hj, h with
  | c :: rest, j + 1, _, hj, h =>
    unfold rwellC
    rw [rwellAll_all, all_not (i := j) (by simpa using hj) (by simpa using h)]; rfl
theorem rwellC_yes {kids : List Nd} (h0 : 1 ≤ kids.length) (h : ∀ i (hi : i < kids.length), 1 ≤ i → rwellF kids[i] = true) : rwellC kids = (rtypeF kids[0] == 2) := by
  match kids, h0, h with
  | c :: rest, _, h =>
    unfold rwellC
    rw [rwellAll_all, all_get (fun i hi => by have := h (i + 1) (by simpa using hi) (by omega); simpa using this)]; rfl
theorem well_step' (k n : Int) (s : ByteArray) (kids : List Nd) (ih : ∀ x ∈ kids, WellC' x) : WellC' (.mk k n s kids) := by
  intro hg
  unfold goodN at hg
  obtain ⟨hkl, hk1, hgs⟩ := hg
  have hsm := goods_small kids hgs
  have d : ∀ {m : Int} {b : Bool}, decide (k = m) = b → (k = m ↔ b = true) := fun e => by rw [← e]; simp
  generalize hres : rwellF (.mk k n s kids) = res at *
  unfold rwellF at hres
  refine spec_of (cx_ok ord0 xs0 0) Try.func40 rfl (by kernel_rfl) rfl (by kernel_rfl) ?_
  intro hok
  conv => whnf
  cases h11 : decide (k = 11)
  · conv => whnf
    have q11 : ¬ k = 11 := by rw [d h11]; simp
    rw [if_neg q11] at hres
    cases h2 : decide (k = 2)
    · conv => whnf
      cases h3 : decide (k = 3)
      · conv => whnf
        rw [if_neg (by rw [d h2, d h3]; simp), rnotAll_all] at hres
        refine loop_keep [1] ?_
        conv => whnf
        refine loop_go (fun j : Nat => [(8, .v (.int .i64 j))]) (fun _ => [[.v (.int .i64 k), .v (.int .i64 n), .v (.string s), .sl 4 kids.length (ndsL kids)]]) (fun _ => []) (fun j => 0 ≤ j ∧ j ≤ kids.length ∧ ∀ i (hi : i < kids.length), 0 ≤ i → i < j → (fun x => rtypeF x == 1) kids[i] = true) (fun j => kids.length - j) 0 ?_ ⟨Nat.le_refl _, by omega, fun i hi h1 h2 => by omega⟩ ?_
        · repeat' constructor
        · rintro j ⟨hj0, hj, hno⟩
          conv => whnf
          by_cases hlt : j < kids.length
          · refine br_true (by simp; omega) ?_
            conv => whnf
            refine ⟨⟨by omega, by omega⟩, ?_⟩
            conv => whnf
            rw [show rowOf 4 (Int.toNat (j : Int)) (ndsL kids) = _ from rowOf_nds' kids j hlt]
            conv => whnf
            have hsp := rtypeOf_spec kids[j] (smallNs_mem hsm (List.getElem_mem hlt))
            rw [ndL_eq] at hsp
            refine call0 [] rfl (fun _ => hsp) ?_
            rintro r rfl
            conv => whnf
            cases ht : decide (rtypeF kids[j] = 1)
            · conv => whnf
              show _ = boolA res
              rw [← hres, all_not hlt (by simpa using ht)]; rfl
            · have ht' : (rtypeF kids[j] == 1) = true := by simpa using ht
              conv => whnf
              refine ⟨i64r (by omega), ?_⟩
              conv => whnf
              refine ⟨j + 1, le_head ?_, ⟨by omega, hlt, fun i hi h1 h2 => ?_⟩, by omega⟩
              · repeat' constructor
              · by_cases hij : i = j
                · subst hij; assumption
                · exact hno i hi h1 (by omega)
          · refine br_false (by simp; omega) ?_
            conv => whnf
            show _ = boolA res
            rw [← hres, all_get (fun i hi => hno i hi (by omega) (by omega))]; rfl
      · have q3 : k = 3 := (d h3).2 rfl
        rw [if_pos (.inr q3)] at hres
        conv => whnf
        have hpos : 1 ≤ kids.length := hk1 (.inr q3)
        refine ⟨⟨by omega, by omega⟩, ?_⟩
        conv => whnf
        rw [show rowOf 4 (Int.toNat 0) (ndsL kids) = _ from rowOf_nds' kids 0 (by omega)]
        conv => whnf
        have hsp := rtypeOf_spec kids[0] (smallNs_mem hsm (List.getElem_mem hpos))
        rw [ndL_eq] at hsp
        refine call0 [] rfl (fun _ => hsp) ?_
        rintro r rfl
        obtain ⟨ty, hty⟩ : ∃ ty, ty = rtypeF kids[0] := ⟨_, rfl⟩
        rw [← hty]
        conv => whnf
        refine loop_keep [1, 5] ?_
        conv => whnf
        refine loop_go (fun j : Nat => [(6, .v (.int .i64 j))]) (fun _ => [[.v (.int .i64 k), .v (.int .i64 n), .v (.string s), .sl 4 kids.length (ndsL kids)]]) (fun _ => []) (fun j => 1 ≤ j ∧ j ≤ kids.length ∧ ∀ i (hi : i < kids.length), 1 ≤ i → i < j → rwellF kids[i] = true) (fun j => kids.length - j) 1 ?_ ⟨Nat.le_refl _, by omega, fun i hi h1 h2 => by omega⟩ ?_
        · repeat' constructor
        · rintro j ⟨hj0, hj, hno⟩
          conv => whnf
          by_cases hlt : j < kids.length
          · refine br_true (by simp; omega) ?_
            conv => whnf
            refine ⟨⟨by omega, by omega⟩, ?_⟩
            conv => whnf
            rw [show rowOf 4 (Int.toNat (j : Int)) (ndsL kids) = _ from rowOf_nds' kids j hlt]
            conv => whnf
            have hsp := ih kids[j] (List.getElem_mem hlt) (goodNs_mem hgs (List.getElem_mem hlt))
            rw [ndL_eq] at hsp
            refine call0 [] rfl (fun _ => hsp) ?_
            rintro r rfl
            cases ht : rwellF kids[j]
            · conv => whnf
              show _ = boolA res
              rw [← hres, rwellC_not hj0 hlt ht]; rfl
            · conv => whnf
              refine ⟨i64r (by omega), ?_⟩
              conv => whnf
              refine ⟨j + 1, le_head ?_, ⟨by omega, hlt, fun i hi h1 h2 => ?_⟩, by omega⟩
              · repeat' constructor
              · by_cases hij : i = j
                · subst hij; assumption
                · exact hno i hi h1 (by omega)
          · refine br_false (by simp; omega) ?_
            conv => whnf
            show _ = boolA res
            rw [← hres, rwellC_yes hpos (fun i hi h1 => hno i hi h1 (by omega)), hty]
            rfl
    · have q2 : k = 2 := (d h2).2 rfl
      rw [if_pos (.inl q2)] at hres
      conv => whnf
      have hpos : 1 ≤ kids.length := hk1 (.inl q2)
      refine ⟨⟨by omega, by omega⟩, ?_⟩
      conv => whnf
      rw [show rowOf 4 (Int.toNat 0) (ndsL kids) = _ from rowOf_nds' kids 0 (by omega)]
      conv => whnf
      have hsp := rtypeOf_spec kids[0] (smallNs_mem hsm (List.getElem_mem hpos))
      rw [ndL_eq] at hsp
      refine call0 [] rfl (fun _ => hsp) ?_
      rintro r rfl
      obtain ⟨ty, hty⟩ : ∃ ty, ty = rtypeF kids[0] := ⟨_, rfl⟩
      rw [← hty]
      conv => whnf
      refine loop_keep [1, 5] ?_
      conv => whnf
      refine loop_go (fun j : Nat => [(6, .v (.int .i64 j))]) (fun _ => [[.v (.int .i64 k), .v (.int .i64 n), .v (.string s), .sl 4 kids.length (ndsL kids)]]) (fun _ => []) (fun j => 1 ≤ j ∧ j ≤ kids.length ∧ ∀ i (hi : i < kids.length), 1 ≤ i → i < j → rwellF kids[i] = true) (fun j => kids.length - j) 1 ?_ ⟨Nat.le_refl _, by omega, fun i hi h1 h2 => by omega⟩ ?_
      · repeat' constructor
      · rintro j ⟨hj0, hj, hno⟩
        conv => whnf
        by_cases hlt : j < kids.length
        · refine br_true (by simp; omega) ?_
          conv => whnf
          refine ⟨⟨by omega, by omega⟩, ?_⟩
          conv => whnf
          rw [show rowOf 4 (Int.toNat (j : Int)) (ndsL kids) = _ from rowOf_nds' kids j hlt]
          conv => whnf
          have hsp := ih kids[j] (List.getElem_mem hlt) (goodNs_mem hgs (List.getElem_mem hlt))
          rw [ndL_eq] at hsp
          refine call0 [] rfl (fun _ => hsp) ?_
          rintro r rfl
          cases ht : rwellF kids[j]
          · conv => whnf
            show _ = boolA res
            rw [← hres, rwellC_not hj0 hlt ht]; rfl
          · conv => whnf
            refine ⟨i64r (by omega), ?_⟩
            conv => whnf
            refine ⟨j + 1, le_head ?_, ⟨by omega, hlt, fun i hi h1 h2 => ?_⟩, by omega⟩
            · repeat' constructor
            · by_cases hij : i = j
              · subst hij; assumption
              · exact hno i hi h1 (by omega)
        · refine br_false (by simp; omega) ?_
          conv => whnf
          show _ = boolA res
          rw [← hres, rwellC_yes hpos (fun i hi h1 => hno i hi h1 (by omega)), hty]
          rfl
  · conv => whnf
    rw [if_pos ((d h11).2 rfl), rwellAll_all] at hres
    refine loop_keep [1] ?_
    conv => whnf
    refine loop_go (fun j : Nat => [(3, .v (.int .i64 j))]) (fun _ => [[.v (.int .i64 k), .v (.int .i64 n), .v (.string s), .sl 4 kids.length (ndsL kids)]]) (fun _ => []) (fun j => 0 ≤ j ∧ j ≤ kids.length ∧ ∀ i (hi : i < kids.length), 0 ≤ i → i < j → rwellF kids[i] = true) (fun j => kids.length - j) 0 ?_ ⟨Nat.le_refl _, by omega, fun i hi h1 h2 => by omega⟩ ?_
    · repeat' constructor
    · rintro j ⟨hj0, hj, hno⟩
      conv => whnf
      by_cases hlt : j < kids.length
      · refine br_true (by simp; omega) ?_
        conv => whnf
        refine ⟨⟨by omega, by omega⟩, ?_⟩
        conv => whnf
        rw [show rowOf 4 (Int.toNat (j : Int)) (ndsL kids) = _ from rowOf_nds' kids j hlt]
        conv => whnf
        have hsp := ih kids[j] (List.getElem_mem hlt) (goodNs_mem hgs (List.getElem_mem hlt))
        rw [ndL_eq] at hsp
        refine call0 [] rfl (fun _ => hsp) ?_
        rintro r rfl
        cases ht : rwellF kids[j]
        · conv => whnf
          show _ = boolA res
          rw [← hres, all_not hlt ht]; rfl
        · conv => whnf
          refine ⟨i64r (by omega), ?_⟩
          conv => whnf
          refine ⟨j + 1, le_head ?_, ⟨by omega, hlt, fun i hi h1 h2 => ?_⟩, by omega⟩
          · repeat' constructor
          · by_cases hij : i = j
            · subst hij; assumption
            · exact hno i hi h1 (by omega)
      · refine br_false (by simp; omega) ?_
        conv => whnf
        show _ = boolA res
        rw [← hres, all_get (fun i hi => hno i hi (by omega) (by omega))]; rfl
mutual
theorem rwell_all : ∀ t : Nd, WellC' t
  | .mk k n s l => well_step' k n s l (rwell_alls l)
theorem rwell_alls : ∀ l : List Nd, ∀ x ∈ l, WellC' x
  | [] => fun _ h => by cases h
  | t :: ts =>
    have h1 := rwell_all t
    have h2 := rwell_alls ts
    fun x hx => (List.mem_cons.1 hx).elim (fun e => e ▸ h1) (h2 x)
end
end Go.Proofs.Ytlmdmmikocbmlaa.Vm
