/- Texts 5 of the proof: T28, T34, T29, T8, T9, VmD, T10, T35, T36, T37. -/
import Derived.Test.YtpjcbadnpknncaaDoorM4
import Derived.Recover
/- The reference: Meaning. -/
namespace Go.Proofs.YtpjcbadnpknncaaDoor.Vm
open Go.RowKit Go.Shelf
set_option linter.unusedSimpArgs false
set_option linter.unusedVariables false
set_option maxRecDepth 100000
def MeSpec (t : List (List Int)) (f : Fm) (j : Nat) : Prop := Spec Tryd.prog 22 [] [.agg (fmA f), .sl 1 t.length (trA t), .v (.int .i64 j)] fun _ r => r = intA (meF (t.drop j) f)
theorem me_end (t : List (List Int)) (f : Fm) (j : Nat) (hj : t.length ≤ j) (hf : FitT f) : MeSpec t f j := by
  unfold MeSpec
  have hs := s_spec f hf
  unfold SSpec at hs
  have hc := rConst (sF f)
  rw [List.drop_of_length_le hj]
  obtain ⟨R, hR⟩ : ∃ R, meF [] f = R := ⟨_, rfl⟩
  rw [hR]
  change T3 (sF f) = R at hR
  unfold T3 at hR
  generalize sF f = g at *
  refine spec_of (cx_ok ord22 xs0 0) (fun _ _ h => h) Tryd.func22 rfl (by kernel_rfl) rfl (by kernel_rfl) ?_
  intro hok
  conv => whnf
  (refine goA ?_; try with_reducible exact trivial)
  (refine call0 [] rfl (fun _ => hs) ?_; rintro r rfl; conv => whnf)
  (refine call0 [] rfl (fun _ => hc) ?_; rintro r rfl; conv => whnf)
  cases hq : isC g with
  | false =>
    rw [if_neg (by rw [hq]; simp)] at hR
    conv => whnf
    rw [← hR]
    rfl
  | true =>
    rw [if_pos hq] at hR
    conv => whnf
    by_cases h3 : g.k = 3
    · rw [if_pos h3] at hR
      rw [decide_eq_true h3]
      conv => whnf
      rw [← hR]
      rfl
    · rw [if_neg h3] at hR
      rw [decide_eq_false h3]
      conv => whnf
      rw [← hR]
      rfl
theorem g0_one (x : Fm) : rowOf 5 (Int.toNat 0) (fmsA [x]) = fmA x := row0 (l := [x]) (by simp)
theorem g0_two (x y : Fm) : rowOf 5 (Int.toNat 0) (fmsA [x, y]) = fmA x := row0 (l := [x, y]) (by simp)
theorem g1_two (x y : Fm) : rowOf 5 (Int.toNat 1) (fmsA [x, y]) = fmA y := row1 (l := [x, y]) (by simp)
theorem me_var (t : List (List Int)) (j : Nat) (hj : j < t.length) (a b n : Int) (ha : 0 ≤ a) : MeSpec t (.mk 1 a b n []) j := by
  unfold MeSpec
  rw [List.drop_eq_getElem_cons hj]
  have hrow := rowOf_tr t j hj
  generalize t[j] = v at *
  have hh := rHolds v 1 a b n [] ha
  rw [show meF (v :: t.drop (j + 1)) (.mk 1 a b n []) = if cmpV b (atV v a) n = true then 1 else -1 from (stp_me v _).var a b n]
  generalize cmpV b (atV v a) n = c at *
  rw [fmA_mk] at hh ⊢
  refine spec_of (cx_ok ord22 xs0 0) (fun _ _ h => h) Tryd.func22 rfl (by kernel_rfl) rfl (by kernel_rfl) ?_
  intro hok
  conv => whnf
  (refine goA ?_; try with_reducible exact trivial)
  (generalize hrq : rowOf _ _ (trA t) = rq; obtain rfl : rq = [.sl 1 v.length (intsA v)] := hrq.symm.trans (hrow); clear hrq; conv => whnf)
  (refine call0 [] rfl (fun _ => hh) ?_; rintro r rfl; conv => whnf)
  cases c with
  | true =>
    conv => whnf
    rfl
  | false =>
    conv => whnf
    rfl
theorem me_not (t : List (List Int)) (j : Nat) (hj : j < t.length) (g : Fm) (hg : MeSpec t g j) (hw : Wf g) : MeSpec t (.mk 2 0 0 0 [g]) j := by
  unfold MeSpec at hg
  rw [List.drop_eq_getElem_cons hj] at hg
  unfold MeSpec
  rw [List.drop_eq_getElem_cons hj]
  have hrow := rowOf_tr t j hj
  generalize t[j] = v at *
  have hS := sem_meF (v :: t.drop (j + 1))
  have h1 := hS.lo g hw
  have h2 := hS.hi g hw
  rw [hS.not g hw]
  generalize meF (v :: t.drop (j + 1)) g = x at *
  have hr0 := g0_one g
  rw [fmA_mk]
  refine spec_of (cx_ok ord22 xs0 0) (fun _ _ h => h) Tryd.func22 rfl (by kernel_rfl) rfl (by kernel_rfl) ?_
  intro hok
  conv => whnf
  (refine goA ?_; try with_reducible exact trivial)
  (generalize hrq : rowOf _ _ (fmsA [g]) = rq; obtain rfl : rq = fmA g := hrq.symm.trans (hr0); clear hrq; conv => whnf)
  (refine call0 [] rfl (fun _ => hg) ?_; rintro r rfl; conv => whnf)
  (refine goA ?_; try with_reducible exact trivial)
  rw [Int.zero_sub]
  rfl
theorem me_next (t : List (List Int)) (j : Nat) (hj : j < t.length) (ht : t.length ≤ 1000) (g : Fm) (hg : MeSpec t g (j + 1)) : MeSpec t (.mk 5 0 0 0 [g]) j := by
  unfold MeSpec at hg
  unfold MeSpec
  rw [List.drop_eq_getElem_cons hj]
  have hrow := rowOf_tr t j hj
  generalize t[j] = v at *
  rw [show meF (v :: t.drop (j + 1)) (.mk 5 0 0 0 [g]) = meF (t.drop (j + 1)) g from (stp_me v _).nx g]
  generalize meF (t.drop (j + 1)) g = x at *
  have hr0 := g0_one g
  rw [fmA_mk]
  refine spec_of (cx_ok ord22 xs0 0) (fun _ _ h => h) Tryd.func22 rfl (by kernel_rfl) rfl (by kernel_rfl) ?_
  intro hok
  conv => whnf
  (refine goA ?_; try with_reducible exact trivial)
  (generalize hrq : rowOf _ _ (fmsA [g]) = rq; obtain rfl : rq = fmA g := hrq.symm.trans (hr0); clear hrq; conv => whnf)
  (refine goA ?_; try with_reducible exact trivial)
  (refine call0 [] rfl (fun _ => hg) ?_; rintro r rfl; conv => whnf)
  rfl
theorem me_alw (t : List (List Int)) (j : Nat) (hj : j < t.length) (ht : t.length ≤ 1000) (g : Fm) (hg : MeSpec t g j) (hn : MeSpec t (.mk 7 0 0 0 [g]) (j + 1)) : MeSpec t (.mk 7 0 0 0 [g]) j := by
  unfold MeSpec at hg hn
  rw [List.drop_eq_getElem_cons hj] at hg
  unfold MeSpec
  rw [List.drop_eq_getElem_cons hj]
  have hrow := rowOf_tr t j hj
  generalize t[j] = v at *
  rw [show meF (v :: t.drop (j + 1)) (.mk 7 0 0 0 [g]) = _ from (stp_me v (meF (t.drop (j + 1)))).alw g]
  change Spec _ _ _ _ (fun _ r => r = intA (meK v (meF (t.drop (j + 1))) g)) at hg
  generalize meK v (meF (t.drop (j + 1))) g = x at *
  generalize meF (t.drop (j + 1)) (.mk 7 0 0 0 [g]) = y at *
  have hr0 := g0_one g
  rw [fmA_mk] at hn ⊢
  refine spec_of (cx_ok ord22 xs0 0) (fun _ _ h => h) Tryd.func22 rfl (by kernel_rfl) rfl (by kernel_rfl) ?_
  intro hok
  conv => whnf
  (refine goA ?_; try with_reducible exact trivial)
  (generalize hrq : rowOf _ _ (fmsA [g]) = rq; obtain rfl : rq = fmA g := hrq.symm.trans (hr0); clear hrq; conv => whnf)
  (refine goA ?_; try with_reducible exact trivial)
  (refine call0 [] rfl (fun _ => hg) ?_; rintro r rfl; conv => whnf)
  (refine call0 [] rfl (fun _ => hn) ?_; rintro r rfl; conv => whnf)
  rfl
theorem me_ev (t : List (List Int)) (j : Nat) (hj : j < t.length) (ht : t.length ≤ 1000) (g : Fm) (hg : MeSpec t g j) (hn : MeSpec t (.mk 8 0 0 0 [g]) (j + 1)) : MeSpec t (.mk 8 0 0 0 [g]) j := by
  unfold MeSpec at hg hn
  rw [List.drop_eq_getElem_cons hj] at hg
  unfold MeSpec
  rw [List.drop_eq_getElem_cons hj]
  have hrow := rowOf_tr t j hj
  generalize t[j] = v at *
  rw [show meF (v :: t.drop (j + 1)) (.mk 8 0 0 0 [g]) = _ from (stp_me v (meF (t.drop (j + 1)))).ev g]
  change Spec _ _ _ _ (fun _ r => r = intA (meK v (meF (t.drop (j + 1))) g)) at hg
  generalize meK v (meF (t.drop (j + 1))) g = x at *
  generalize meF (t.drop (j + 1)) (.mk 8 0 0 0 [g]) = y at *
  have hr0 := g0_one g
  rw [fmA_mk] at hn ⊢
  refine spec_of (cx_ok ord22 xs0 0) (fun _ _ h => h) Tryd.func22 rfl (by kernel_rfl) rfl (by kernel_rfl) ?_
  intro hok
  conv => whnf
  (refine goA ?_; try with_reducible exact trivial)
  (generalize hrq : rowOf _ _ (fmsA [g]) = rq; obtain rfl : rq = fmA g := hrq.symm.trans (hr0); clear hrq; conv => whnf)
  (refine goA ?_; try with_reducible exact trivial)
  (refine call0 [] rfl (fun _ => hg) ?_; rintro r rfl; conv => whnf)
  (refine call0 [] rfl (fun _ => hn) ?_; rintro r rfl; conv => whnf)
  rfl
theorem me_til (t : List (List Int)) (j : Nat) (hj : j < t.length) (ht : t.length ≤ 1000) (f g : Fm) (hf : MeSpec t f j) (hg : MeSpec t g j) (hn : MeSpec t (.mk 6 0 0 0 [f, g]) (j + 1)) : MeSpec t (.mk 6 0 0 0 [f, g]) j := by
  unfold MeSpec at hf hg hn
  rw [List.drop_eq_getElem_cons hj] at hf hg
  unfold MeSpec
  rw [List.drop_eq_getElem_cons hj]
  have hrow := rowOf_tr t j hj
  generalize t[j] = v at *
  rw [show meF (v :: t.drop (j + 1)) (.mk 6 0 0 0 [f, g]) = _ from (stp_me v (meF (t.drop (j + 1)))).til f g]
  change Spec _ _ _ _ (fun _ r => r = intA (meK v (meF (t.drop (j + 1))) g)) at hg
  change Spec _ _ _ _ (fun _ r => r = intA (meK v (meF (t.drop (j + 1))) f)) at hf
  generalize meK v (meF (t.drop (j + 1))) g = x at *
  generalize meK v (meF (t.drop (j + 1))) f = z at *
  generalize meF (t.drop (j + 1)) (.mk 6 0 0 0 [f, g]) = y at *
  have hr0 := g0_two f g
  have hr1 := g1_two f g
  rw [fmA_mk] at hn ⊢
  refine spec_of (cx_ok ord22 xs0 0) (fun _ _ h => h) Tryd.func22 rfl (by kernel_rfl) rfl (by kernel_rfl) ?_
  intro hok
  conv => whnf
  (refine goA ?_; try with_reducible exact trivial)
  (generalize hrq : rowOf _ _ (fmsA [f, g]) = rq; obtain rfl : rq = fmA g := hrq.symm.trans (hr1); clear hrq; conv => whnf)
  (refine goA ?_; try with_reducible exact trivial)
  (generalize hrq : rowOf _ _ (fmsA [f, g]) = rq; obtain rfl : rq = fmA f := hrq.symm.trans (hr0); clear hrq; conv => whnf)
  (refine goA ?_; try with_reducible exact trivial)
  (refine call0 [] rfl (fun _ => hg) ?_; rintro r rfl; conv => whnf)
  (refine call0 [] rfl (fun _ => hf) ?_; rintro r rfl; conv => whnf)
  (refine call0 [] rfl (fun _ => hn) ?_; rintro r rfl; conv => whnf)
  rfl
theorem me_and (t : List (List Int)) (j : Nat) (hj : j < t.length) (l : List Fm) (hl : l.length ≤ 1000000000000) (hw : ∀ g ∈ l, Wf g) (ih : ∀ g ∈ l, MeSpec t g j) : MeSpec t (.mk 3 0 0 0 l) j := by
  have hS := sem_meF (t.drop j)
  unfold MeSpec at ih ⊢
  rw [hS.and l hw]
  have hbd : ∀ g ∈ l, -1 ≤ meF (t.drop j) g ∧ meF (t.drop j) g ≤ 1 := fun g hg => ⟨hS.lo g (hw g hg), hS.hi g (hw g hg)⟩
  generalize meF (t.drop j) = E at *
  obtain ⟨R, hR⟩ : ∃ R, minL (l.map E) = R := ⟨_, rfl⟩
  rw [hR]
  rw [fmA_mk]
  refine spec_of (cx_ok ord22 xs0 0) (fun _ _ h => h) Tryd.func22 rfl (by kernel_rfl) rfl (by kernel_rfl) ?_
  intro hok
  conv => whnf
  (refine goA ?_; try with_reducible exact trivial)
  refine loop_keep [1, 2, 3] ?_
  conv => whnf
  refine loop_goQ (fun x : Nat × Int => [(9, .v (.int .i64 x.1)), (8, .v (.int .i64 x.2))]) (fun _ => [[intA 3, intA 0, intA 0, intA 0, .sl 5 l.length (fmsA l)]]) (fun _ => []) (fun x => x.1 ≤ l.length ∧ (-1 ≤ x.2 ∧ x.2 ≤ 1) ∧ min x.2 (minL ((l.drop x.1).map E)) = R) (fun x => l.length - x.1) (0, 1) ?_ ⟨Nat.zero_le _, by simp only; omega, by simp only [List.drop_zero]; have := minL_le (l.map E); omega⟩ ?_
  · unfold headQ
    repeat' constructor
  · rintro ⟨i, m⟩ ⟨hi, hm, hinv⟩
    simp only at hi hm hinv
    conv => whnf
    by_cases hlt : i < l.length
    · have hr := rowOf_fms l i hlt
      have hsp := ih l[i] (List.getElem_mem hlt)
      have hb := hbd l[i] (List.getElem_mem hlt)
      rw [List.drop_eq_getElem_cons hlt, List.map_cons] at hinv
      change min m (min (E l[i]) (minL ((l.drop (i + 1)).map E))) = R at hinv
      generalize l[i] = g at *
      generalize E g = y at *
      (refine goA ?_; try with_reducible exact trivial)
      (generalize hrq : rowOf _ _ (fmsA l) = rq; obtain rfl : rq = fmA g := hrq.symm.trans (hr); clear hrq; conv => whnf)
      (refine goA ?_; try with_reducible exact trivial)
      (refine call0 [] rfl (fun _ => hsp) ?_; rintro r rfl; conv => whnf)
      (refine goA ?_; try with_reducible exact trivial)
      refine ⟨(i + 1, min m y), le_head ?_, ⟨hlt, by simp only; omega, by simp only; omega⟩, by simp only; omega⟩
      repeat' constructor
    · have e : l.drop i = [] := List.drop_of_length_le (by omega)
      rw [e] at hinv
      change min m 1 = R at hinv
      obtain rfl : m = R := by omega
      (refine goA ?_; try with_reducible exact trivial)
      rfl
theorem me_or (t : List (List Int)) (j : Nat) (hj : j < t.length) (l : List Fm) (hl : l.length ≤ 1000000000000) (hw : ∀ g ∈ l, Wf g) (ih : ∀ g ∈ l, MeSpec t g j) : MeSpec t (.mk 4 0 0 0 l) j := by
  have hS := sem_meF (t.drop j)
  unfold MeSpec at ih ⊢
  rw [hS.or l hw]
  have hbd : ∀ g ∈ l, -1 ≤ meF (t.drop j) g ∧ meF (t.drop j) g ≤ 1 := fun g hg => ⟨hS.lo g (hw g hg), hS.hi g (hw g hg)⟩
  generalize meF (t.drop j) = E at *
  obtain ⟨R, hR⟩ : ∃ R, maxL (l.map E) = R := ⟨_, rfl⟩
  rw [hR]
  rw [fmA_mk]
  refine spec_of (cx_ok ord22 xs0 0) (fun _ _ h => h) Tryd.func22 rfl (by kernel_rfl) rfl (by kernel_rfl) ?_
  intro hok
  conv => whnf
  (refine goA ?_; try with_reducible exact trivial)
  refine loop_keep [1, 2, 3] ?_
  conv => whnf
  refine loop_goQ (fun x : Nat × Int => [(11, .v (.int .i64 x.1)), (10, .v (.int .i64 x.2))]) (fun _ => [[intA 4, intA 0, intA 0, intA 0, .sl 5 l.length (fmsA l)]]) (fun _ => []) (fun x => x.1 ≤ l.length ∧ (-1 ≤ x.2 ∧ x.2 ≤ 1) ∧ max x.2 (maxL ((l.drop x.1).map E)) = R) (fun x => l.length - x.1) (0, -1) ?_ ⟨Nat.zero_le _, by simp only; omega, by simp only [List.drop_zero]; have := maxL_ge (l.map E); omega⟩ ?_
  · unfold headQ
    repeat' constructor
  · rintro ⟨i, m⟩ ⟨hi, hm, hinv⟩
    simp only at hi hm hinv
    conv => whnf
    by_cases hlt : i < l.length
    · have hr := rowOf_fms l i hlt
      have hsp := ih l[i] (List.getElem_mem hlt)
      have hb := hbd l[i] (List.getElem_mem hlt)
      rw [List.drop_eq_getElem_cons hlt, List.map_cons] at hinv
      change max m (max (E l[i]) (maxL ((l.drop (i + 1)).map E))) = R at hinv
      generalize l[i] = g at *
      generalize E g = y at *
      (refine goA ?_; try with_reducible exact trivial)
      (generalize hrq : rowOf _ _ (fmsA l) = rq; obtain rfl : rq = fmA g := hrq.symm.trans (hr); clear hrq; conv => whnf)
      (refine goA ?_; try with_reducible exact trivial)
      (refine call0 [] rfl (fun _ => hsp) ?_; rintro r rfl; conv => whnf)
      (refine goA ?_; try with_reducible exact trivial)
      refine ⟨(i + 1, max m y), le_head ?_, ⟨hlt, by simp only; omega, by simp only; omega⟩, by simp only; omega⟩
      repeat' constructor
    · have e : l.drop i = [] := List.drop_of_length_le (by omega)
      rw [e] at hinv
      change max m (-1) = R at hinv
      obtain rfl : m = R := by omega
      (refine goA ?_; try with_reducible exact trivial)
      rfl
theorem meaning_spec {N : Nat} (hN : N ≤ 1000000000000) (t : List (List Int)) (ht : t.length ≤ 1000) : ∀ (m j : Nat), t.length - j = m → ∀ f, Gd N f → MeSpec t f j
  | 0, j, hm => fun f hf => me_end t f j (by omega) (fitT_gd hN f hf)
  | m + 1, j, hm => Fm.ind fun k a b n l ih hf => by
    have hj : j < t.length := by omega
    have hn := meaning_spec hN t ht m (j + 1) (by omega) _ hf
    have hk := fun f hl => ih f hl (hf.kid hl)
    have hnk := fun f (hl : f ∈ l) => meaning_spec hN t ht m (j + 1) (by omega) f (hf.kid hl)
    have hl : l.length ≤ 1000000000000 := by
      have h2 := hf.n
      rw [nn_mk] at h2
      have := nns_len l
      omega
    cases hf.w with
    | var h1 h2 h3 => exact me_var t j hj _ _ _ h1
    | un hkk hw =>
      rcases hkk with rfl | rfl | rfl | rfl
      · exact me_not t j hj _ (hk _ (by simp)) hw
      · exact me_next t j hj ht _ (hnk _ (by simp))
      · exact me_alw t j hj ht _ (hk _ (by simp)) hn
      · exact me_ev t j hj ht _ (hk _ (by simp)) hn
    | til w1 w2 => exact me_til t j hj ht _ _ (hk _ (by simp)) (hk _ (by simp)) hn
    | jn hkk hw =>
      rcases hkk with rfl | rfl
      · exact me_and t j hj l hl hw hk
      · exact me_or t j hj l hl hw hk
end Go.Proofs.YtpjcbadnpknncaaDoor.Vm
/- The plain law: infinite traces. -/
namespace Go.Proofs.YtpjcbadnpknncaaDoor.Vm
open Go.RowKit Go.Shelf
set_option linter.unusedSimpArgs false
set_option linter.unusedVariables false
set_option maxRecDepth 100000
/-! ### Infinite traces -/
def aft (n lp i : Nat) : Nat := if i + 1 = n then lp else i + 1
/-- One sweep: the positions below i, from the last one. -/
def swp (F : Nat → Bool → Bool) (n lp : Nat) : Nat → List Bool → List Bool
  | 0, o => o
  | i + 1, o => swp F n lp i (o.set i (F i (o.getD (aft n lp i) false)))
def swps (F : Nat → Bool → Bool) (n lp : Nat) : Nat → List Bool → List Bool
  | 0, o => o
  | r + 1, o => swps F n lp r (swp F n lp n o)
def infC (tr : List (List Int)) (k a b n : Int) (K : List (List Bool)) (ln lp : Nat) (i : Nat) (x : Bool) : Bool :=
  if k = 1 then cmpV b (atV (tr.getD i []) a) n
  else if k = 2 then !((K.getD 0 []).getD i false)
  else if k = 5 then (K.getD 0 []).getD (aft ln lp i) false
  else if k = 7 then (K.getD 0 []).getD i false && x
  else if k = 8 then (K.getD 0 []).getD i false || x
  else if k = 6 then (K.getD 1 []).getD i false || ((K.getD 0 []).getD i false && x)
  else if k = 3 then K.all fun l => l.getD i false
  else K.any fun l => l.getD i false
def infK (tr : List (List Int)) (lp : Nat) (k a b n : Int) (K : List (List Bool)) : List Bool :=
  swps (infC tr k a b n K tr.length lp) tr.length lp (2 * tr.length + 2) (List.replicate tr.length (decide (k = 3) || decide (k = 7)))
mutual
def infF (tr : List (List Int)) (lp : Nat) : Fm → List Bool
  | .mk k a b n l => infK tr lp k a b n (infFs tr lp l)
def infFs (tr : List (List Int)) (lp : Nat) : List Fm → List (List Bool)
  | [] => []
  | f :: l => infF tr lp f :: infFs tr lp l
end
theorem infFs_map (tr : List (List Int)) (lp : Nat) : ∀ l : List Fm, infFs tr lp l = l.map (infF tr lp)
  | [] => by unfold infFs; rfl
  | f :: l => by unfold infFs; rw [infFs_map tr lp l]; rfl
theorem infF_mk (tr : List (List Int)) (lp : Nat) (k a b n : Int) (l : List Fm) : infF tr lp (.mk k a b n l) = infK tr lp k a b n (l.map (infF tr lp)) := by
  rw [← infFs_map]
  conv => lhs; unfold infF
theorem swp_len (F : Nat → Bool → Bool) (n lp : Nat) : ∀ i o, (swp F n lp i o).length = o.length
  | 0, o => rfl
  | i + 1, o => by rw [swp, swp_len F n lp i]; simp
theorem swps_len (F : Nat → Bool → Bool) (n lp : Nat) : ∀ r o, (swps F n lp r o).length = o.length
  | 0, o => rfl
  | r + 1, o => by rw [swps, swps_len F n lp r, swp_len]
theorem infF_len (tr : List (List Int)) (lp : Nat) (f : Fm) : (infF tr lp f).length = tr.length := by
  cases f
  rw [infF_mk]
  unfold infK
  rw [swps_len]
  simp
/-- The values behind a sweep: from the value x behind the last position. -/
def chn (F : Nat → Bool → Bool) (x : Bool) (n : Nat) : Nat → Nat → Bool
  | 0, i => x
  | d + 1, i => F i (chn F x n d (i + 1))
theorem getD_set (o : List Bool) (i j : Nat) (x : Bool) (h : i < o.length) : (o.set i x).getD j false = if j = i then x else o.getD j false := by
  rw [List.getD_eq_getElem?_getD, List.getD_eq_getElem?_getD, List.getElem?_set]
  by_cases hj : i = j
  · subst hj; simp [h]
  · rw [if_neg hj, if_neg (Ne.symm hj)]
theorem swp_hi (F : Nat → Bool → Bool) (n lp : Nat) : ∀ i o j, i ≤ j → i ≤ o.length → (swp F n lp i o).getD j false = o.getD j false
  | 0, o, j, _, _ => rfl
  | i + 1, o, j, h, hl => by
    rw [swp, swp_hi F n lp i _ j (by omega) (by simp; omega), getD_set _ _ _ _ (by omega), if_neg (by omega)]
theorem swp_mid (F : Nat → Bool → Bool) (n lp : Nat) : ∀ i o j, i < n → i ≤ o.length → o.length = n → j < i → (swp F n lp i o).getD j false = F j ((swp F n lp i o).getD (j + 1) false)
  | 0, o, j, _, _, _, h => by omega
  | i + 1, o, j, hi, hl, hn, h => by
    rw [swp]
    by_cases hj : j = i
    · subst hj
      rw [swp_hi F n lp j _ j (Nat.le_refl _) (by simp; omega), swp_hi F n lp j _ (j + 1) (by omega) (by simp; omega), getD_set _ _ _ _ (by omega), if_pos rfl, getD_set _ _ _ _ (by omega), if_neg (by omega)]
      unfold aft
      rw [if_neg (by omega)]
    · exact swp_mid F n lp i _ j (by omega) (by simp; omega) (by simp [hn]) (by omega)
/-- What a whole sweep does. -/
theorem swp_all (F : Nat → Bool → Bool) (m lp : Nat) (o : List Bool) (hn : o.length = m + 1) :
    (swp F (m + 1) lp (m + 1) o).getD m false = F m (o.getD lp false) ∧ ∀ j, j < m → (swp F (m + 1) lp (m + 1) o).getD j false = F j ((swp F (m + 1) lp (m + 1) o).getD (j + 1) false) := by
  rw [swp]
  have ea : aft (m + 1) lp m = lp := by unfold aft; rw [if_pos rfl]
  rw [ea]
  refine ⟨?_, fun j hj => ?_⟩
  · rw [swp_hi F (m + 1) lp m _ m (Nat.le_refl _) (by simp; omega), getD_set _ _ _ _ (by omega), if_pos rfl]
  · exact swp_mid F (m + 1) lp m _ j (by omega) (by simp; omega) (by simp [hn]) hj
def mono (F : Nat → Bool → Bool) : Prop := ∀ i, F i false = true → F i true = true
/-- The value at position j is a monotone function of the value at the loop's head before. -/
theorem swp_fun (F : Nat → Bool → Bool) (m lp : Nat) (hF : mono F) : ∀ d j, j + d = m → ∃ G : Bool → Bool, (G false = true → G true = true) ∧ ∀ o : List Bool, o.length = m + 1 → (swp F (m + 1) lp (m + 1) o).getD j false = G (o.getD lp false)
  | 0, j, h => by
    obtain rfl : j = m := by omega
    exact ⟨F j, hF j, fun o ho => (swp_all F j lp o ho).1⟩
  | d + 1, j, h => by
    obtain ⟨G, hG, hv⟩ := swp_fun F m lp hF d (j + 1) (by omega)
    refine ⟨fun x => F j (G x), fun hf => ?_, fun o ho => ?_⟩
    · have := hF j
      cases h1 : G false <;> cases h2 : G true <;> simp_all
    · rw [(swp_all F m lp o ho).2 j (by omega), hv o ho]
/-- After two sweeps the equations hold. -/
theorem swp_fix (F : Nat → Bool → Bool) (m lp : Nat) (hF : mono F) (hlp : lp ≤ m) (o : List Bool) (ho : o.length = m + 1) :
    ∀ j, j ≤ m → (swp F (m + 1) lp (m + 1) (swp F (m + 1) lp (m + 1) o)).getD j false = F j ((swp F (m + 1) lp (m + 1) (swp F (m + 1) lp (m + 1) o)).getD (aft (m + 1) lp j) false) := by
  obtain ⟨G, hG, hv⟩ := swp_fun F m lp hF (m - lp) lp (by omega)
  have h1 := hv o ho
  have h2 := hv (swp F (m + 1) lp (m + 1) o) (by rw [swp_len]; exact ho)
  have hall := swp_all F m lp (swp F (m + 1) lp (m + 1) o) (by rw [swp_len]; exact ho)
  intro j hj
  unfold aft
  by_cases hjm : j = m
  · subst hjm
    rw [if_pos rfl, hall.1, h2, h1]
    generalize o.getD lp false = x
    have e : G (G x) = G x := by cases x <;> cases hg : G true <;> cases hg2 : G false <;> simp_all
    rw [e]
  · rw [if_neg (by omega)]
    exact hall.2 j (by omega)
theorem swps_succ (F : Nat → Bool → Bool) (n lp : Nat) : ∀ r o, swps F n lp (r + 1) o = swp F n lp n (swps F n lp r o)
  | 0, o => rfl
  | r + 1, o => by
    show swps F n lp (r + 1) (swp F n lp n o) = _
    rw [swps_succ F n lp r]
    rfl
/-- The fixpoint's equations. -/
theorem swps_fix (F : Nat → Bool → Bool) (m lp r : Nat) (hF : mono F) (hlp : lp ≤ m) (o : List Bool) (ho : o.length = m + 1) :
    ∀ j, j ≤ m → (swps F (m + 1) lp (r + 2) o).getD j false = F j ((swps F (m + 1) lp (r + 2) o).getD (aft (m + 1) lp j) false) := by
  rw [swps_succ, swps_succ]
  exact swp_fix F m lp hF hlp _ (by rw [swps_len]; exact ho)
/-- What no position changes stays. -/
theorem swp_stay (F : Nat → Bool → Bool) (n lp : Nat) (c : Bool) (hlp : lp < n) (hc : ∀ i, i < n → F i c = c) : ∀ i o, i ≤ n → o.length = n → (∀ j, j < n → o.getD j false = c) → ∀ j, j < n → (swp F n lp i o).getD j false = c
  | 0, o, _, _, h => h
  | i + 1, o, hi, ho, h => by
    rw [swp]
    refine swp_stay F n lp c hlp hc i _ (by omega) (by simp [ho]) fun j hj => ?_
    rw [getD_set _ _ _ _ (by omega)]
    split
    · rw [h _ (by unfold aft; split <;> omega)]
      exact hc i (by omega)
    · exact h j hj
theorem swps_stay (F : Nat → Bool → Bool) (n lp : Nat) (c : Bool) (hlp : lp < n) (hc : ∀ i, i < n → F i c = c) : ∀ r o, o.length = n → (∀ j, j < n → o.getD j false = c) → ∀ j, j < n → (swps F n lp r o).getD j false = c
  | 0, o, _, h => h
  | r + 1, o, ho, h => swps_stay F n lp c hlp hc r _ (by rw [swp_len]; exact ho) (swp_stay F n lp c hlp hc n o (Nat.le_refl _) ho h)
/-- The truth at a position. -/
def tru (tr : List (List Int)) (lp i : Nat) (f : Fm) : Bool := (infF tr lp f).getD i false
theorem inf_mono (tr : List (List Int)) (k a b n : Int) (K : List (List Bool)) (ln lp : Nat) : mono (infC tr k a b n K ln lp) := by
  intro i
  unfold infC
  repeat' split
  all_goals simp
  all_goals (intro h; simp [h])
theorem kid_get (tr : List (List Int)) (lp i : Nat) (l : List Fm) (j : Nat) (hj : j < l.length) : ((l.map (infF tr lp)).getD j []).getD i false = tru tr lp i l[j] := by
  rw [List.getD_eq_getElem?_getD (l := l.map (infF tr lp)), List.getElem?_map, List.getElem?_eq_getElem hj]
  rfl
theorem tru_fix {tr : List (List Int)} {lp : Nat} (hlp : lp < tr.length) (k a b n : Int) (l : List Fm) (i : Nat) (hi : i < tr.length) :
    tru tr lp i (.mk k a b n l) = infC tr k a b n (l.map (infF tr lp)) tr.length lp i (tru tr lp (aft tr.length lp i) (.mk k a b n l)) := by
  unfold tru
  rw [infF_mk]
  unfold infK
  obtain ⟨m, hm⟩ : ∃ m, tr.length = m + 1 := ⟨tr.length - 1, by omega⟩
  rw [hm]
  exact swps_fix (infC tr k a b n (l.map (infF tr lp)) (m + 1) lp) m lp (2 * (m + 1)) (inf_mono tr k a b n _ _ _) (by omega) _ (by simp) i (by omega)
theorem tru_stay {tr : List (List Int)} {lp : Nat} (hlp : lp < tr.length) (k a b n : Int) (l : List Fm) (hc : ∀ i, i < tr.length → infC tr k a b n (l.map (infF tr lp)) tr.length lp i (decide (k = 3) || decide (k = 7)) = (decide (k = 3) || decide (k = 7))) (i : Nat) (hi : i < tr.length) :
    tru tr lp i (.mk k a b n l) = (decide (k = 3) || decide (k = 7)) := by
  unfold tru
  rw [infF_mk]
  unfold infK
  refine swps_stay _ _ _ _ hlp hc _ _ (by simp) (fun j hj => ?_) i hi
  rw [List.getD_eq_getElem?_getD, List.getElem?_replicate, if_pos hj]
  rfl
def sg (b : Bool) : Int := if b = true then 1 else -1
/-- The truth as a meaning. -/
def truE (tr : List (List Int)) (lp i : Nat) (f : Fm) : Int := sg (tru tr lp i f)
theorem sg_min (a b : Bool) : sg (a && b) = min (sg a) (sg b) := by cases a <;> cases b <;> rfl
theorem sg_max (a b : Bool) : sg (a || b) = max (sg a) (sg b) := by cases a <;> cases b <;> rfl
theorem sg_all {α : Type} (l : List α) (p : α → Bool) : sg (l.all p) = minL (l.map fun x => sg (p x)) := by
  induction l with
  | nil => rfl
  | cons x l ih => rw [List.all_cons, sg_min, ih]; rfl
theorem sg_any {α : Type} (l : List α) (p : α → Bool) : sg (l.any p) = maxL (l.map fun x => sg (p x)) := by
  induction l with
  | nil => rfl
  | cons x l ih => rw [List.any_cons, sg_max, ih]; rfl
theorem sg_rng (b : Bool) : -1 ≤ sg b ∧ sg b ≤ 1 := by cases b <;> decide
theorem sem_tru {tr : List (List Int)} {lp : Nat} (hlp : lp < tr.length) (i : Nat) (hi : i < tr.length) : Sem (truE tr lp i) where
  lo _ _ := (sg_rng _).1
  hi _ _ := (sg_rng _).2
  and l _ := by
    unfold truE
    rw [tru_fix hlp _ _ _ _ _ i hi]
    simp only [infC]
    simp only [show ¬ (3 : Int) = 1 by omega, show ¬ (3 : Int) = 2 by omega, show ¬ (3 : Int) = 5 by omega, show ¬ (3 : Int) = 7 by omega, show ¬ (3 : Int) = 8 by omega, show ¬ (3 : Int) = 6 by omega, if_false, if_true]
    rw [List.all_map, sg_all]
    rfl
  or l _ := by
    unfold truE
    rw [tru_fix hlp _ _ _ _ _ i hi]
    simp only [infC]
    simp only [show ¬ (4 : Int) = 1 by omega, show ¬ (4 : Int) = 2 by omega, show ¬ (4 : Int) = 5 by omega, show ¬ (4 : Int) = 7 by omega, show ¬ (4 : Int) = 8 by omega, show ¬ (4 : Int) = 6 by omega, show ¬ (4 : Int) = 3 by omega, if_false]
    rw [List.any_map, sg_any]
    rfl
  not f _ := by
    unfold truE
    rw [tru_fix hlp _ _ _ _ _ i hi]
    simp only [infC]
    simp only [show ¬ (2 : Int) = 1 by omega, if_false, if_true]
    rw [kid_get tr lp i [f] 0 (by simp)]
    simp only [List.getElem_cons_zero]
    cases tru tr lp i f <;> rfl
theorem stp_tru {tr : List (List Int)} {lp : Nat} (hlp : lp < tr.length) (i : Nat) (hi : i < tr.length) : Stp (tr.getD i []) (truE tr lp i) (truE tr lp (aft tr.length lp i)) where
  var a b n := by
    unfold truE
    rw [tru_fix hlp _ _ _ _ _ i hi]
    simp only [infC, if_true]
    rfl
  nx f := by
    unfold truE
    rw [tru_fix hlp _ _ _ _ _ i hi]
    simp only [infC]
    simp only [show ¬ (5 : Int) = 1 by omega, show ¬ (5 : Int) = 2 by omega, if_false, if_true]
    rw [kid_get tr lp _ [f] 0 (by simp)]
    rfl
  alw f := by
    unfold truE
    rw [tru_fix hlp _ _ _ _ _ i hi]
    simp only [infC]
    simp only [show ¬ (7 : Int) = 1 by omega, show ¬ (7 : Int) = 2 by omega, show ¬ (7 : Int) = 5 by omega, if_false, if_true]
    rw [kid_get tr lp _ [f] 0 (by simp), sg_min]
    rfl
  ev f := by
    unfold truE
    rw [tru_fix hlp _ _ _ _ _ i hi]
    simp only [infC]
    simp only [show ¬ (8 : Int) = 1 by omega, show ¬ (8 : Int) = 2 by omega, show ¬ (8 : Int) = 5 by omega, show ¬ (8 : Int) = 7 by omega, if_false, if_true]
    rw [kid_get tr lp _ [f] 0 (by simp), sg_max]
    rfl
  til f g := by
    unfold truE
    rw [tru_fix hlp _ _ _ _ _ i hi]
    simp only [infC]
    simp only [show ¬ (6 : Int) = 1 by omega, show ¬ (6 : Int) = 2 by omega, show ¬ (6 : Int) = 5 by omega, show ¬ (6 : Int) = 7 by omega, show ¬ (6 : Int) = 8 by omega, if_false, if_true]
    rw [kid_get tr lp _ [f, g] 0 (by simp), kid_get tr lp _ [f, g] 1 (by simp), sg_max, sg_min]
    rfl
theorem aft_lt {tr : List (List Int)} {lp : Nat} (hlp : lp < tr.length) {i : Nat} (hi : i < tr.length) : aft tr.length lp i < tr.length := by unfold aft; split <;> omega
theorem inf_ext {tr : List (List Int)} {lp : Nat} {f g : Fm} (h : ∀ i, i < tr.length → truE tr lp i f = truE tr lp i g) : infF tr lp f = infF tr lp g := by
  refine List.ext_getElem (by rw [infF_len, infF_len]) fun i h1 h2 => ?_
  rw [infF_len] at h1
  have := h i h1
  unfold truE tru at this
  rw [List.getD_eq_getElem?_getD, List.getD_eq_getElem?_getD, List.getElem?_eq_getElem (by rw [infF_len]; exact h1), List.getElem?_eq_getElem (by rw [infF_len]; exact h1)] at this
  simp only [Option.getD_some] at this
  generalize (infF tr lp f)[i] = x at *
  generalize (infF tr lp g)[i] = y at *
  cases x <;> cases y <;> first | rfl | (unfold sg at this; simp at this)
theorem tru_const {tr : List (List Int)} {lp : Nat} (hlp : lp < tr.length) (b : Bool) {i : Nat} (hi : i < tr.length) : tru tr lp i (constF b) = b := by
  have h := sem_tru hlp i hi
  cases b
  · have := h.ff
    unfold truE sg at this
    split at this
    · simp at this
    · rename_i h; rwa [Bool.not_eq_true] at h
  · have := h.tt
    unfold truE sg at this
    split at this
    · rename_i h; exact h
    · simp at this
/-- S keeps the truth. -/
theorem tru_s {tr : List (List Int)} {lp : Nat} (hlp : lp < tr.length) {f : Fm} (hw : Wf f) : infF tr lp (sF f) = infF tr lp f := by
  induction hw with
  | var => rw [sF_var]
  | un hk hw ih =>
    rename_i k f
    have hws := wf_s hw
    by_cases h2 : k = 2
    · subst h2
      refine inf_ext fun i hi => ?_
      have hS := sem_tru hlp i hi
      rw [sF_not, hS.neg hws, hS.not f hw]
      unfold truE tru
      rw [ih]
    · have hk' : k = 5 ∨ k = 7 ∨ k = 8 := by omega
      rw [sF_un hk']
      split
      · rename_i hc
        refine inf_ext fun i hi => ?_
        have hcc : ∀ j, j < tr.length → tru tr lp j f = decide ((sF f).k = 3) := fun j hj => by
          have := wf_isC hws hc
          have e := congrArg (infF tr lp) this
          rw [ih] at e
          unfold tru
          rw [e]
          exact tru_const hlp _ hj
        have hcs : tru tr lp i (sF f) = decide ((sF f).k = 3) := by
          unfold tru
          rw [ih]
          exact hcc i hi
        generalize decide ((sF f).k = 3) = c at *
        unfold truE
        rw [hcs]
        congr 1
        symm
        have hK : ∀ j, j < tr.length → (([f].map (infF tr lp)).getD 0 []).getD j false = c := fun j hj => by
          rw [kid_get tr lp j [f] 0 (by simp)]
          exact hcc j hj
        rcases hk' with rfl | rfl | rfl
        · rw [tru_fix hlp _ _ _ _ _ i hi]
          simp only [infC]
          simp only [show ¬ (5 : Int) = 1 by omega, show ¬ (5 : Int) = 2 by omega, if_false, if_true]
          exact hK _ (aft_lt hlp hi)
        · cases c with
          | true =>
            refine tru_stay hlp 7 0 0 0 [f] (fun j hj => ?_) i hi
            simp only [infC]
            simp only [show ¬ (7 : Int) = 1 by omega, show ¬ (7 : Int) = 2 by omega, show ¬ (7 : Int) = 5 by omega, if_false, if_true]
            rw [hK j hj]
            rfl
          | false =>
            rw [tru_fix hlp _ _ _ _ _ i hi]
            simp only [infC]
            simp only [show ¬ (7 : Int) = 1 by omega, show ¬ (7 : Int) = 2 by omega, show ¬ (7 : Int) = 5 by omega, if_false, if_true]
            rw [hK i hi]
            rfl
        · cases c with
          | false =>
            refine tru_stay hlp 8 0 0 0 [f] (fun j hj => ?_) i hi
            simp only [infC]
            simp only [show ¬ (8 : Int) = 1 by omega, show ¬ (8 : Int) = 2 by omega, show ¬ (8 : Int) = 5 by omega, show ¬ (8 : Int) = 7 by omega, if_false, if_true]
            rw [hK j hj]
            rfl
          | true =>
            rw [tru_fix hlp _ _ _ _ _ i hi]
            simp only [infC]
            simp only [show ¬ (8 : Int) = 1 by omega, show ¬ (8 : Int) = 2 by omega, show ¬ (8 : Int) = 5 by omega, show ¬ (8 : Int) = 7 by omega, if_false, if_true]
            rw [hK i hi]
            rfl
      · rw [infF_mk, infF_mk, List.map_cons, List.map_nil, List.map_cons, List.map_nil, ih]
  | til w1 w2 ih1 ih2 =>
    rename_i f g
    rw [sF_til]
    split
    · rename_i hc
      rw [Bool.or_eq_true, eqM_iff] at hc
      rw [ih2]
      refine inf_ext fun i hi => ?_
      unfold truE
      congr 1
      symm
      have hK0 : ∀ j, (([f, g].map (infF tr lp)).getD 0 []).getD j false = tru tr lp j f := fun j => kid_get tr lp j [f, g] 0 (by simp)
      have hK1 : ∀ j, (([f, g].map (infF tr lp)).getD 1 []).getD j false = tru tr lp j g := fun j => kid_get tr lp j [f, g] 1 (by simp)
      have hfix := tru_fix hlp 6 0 0 0 [f, g] i hi
      simp only [infC] at hfix
      simp only [show ¬ (6 : Int) = 1 by omega, show ¬ (6 : Int) = 2 by omega, show ¬ (6 : Int) = 5 by omega, show ¬ (6 : Int) = 7 by omega, show ¬ (6 : Int) = 8 by omega, if_false, if_true] at hfix
      rw [hK0, hK1] at hfix
      rcases hc with hc | hc
      · have hcc : ∀ j, j < tr.length → tru tr lp j g = decide ((sF g).k = 3) := fun j hj => by
          have := wf_isC (wf_s w2) hc
          have e := congrArg (infF tr lp) this
          rw [ih2] at e
          unfold tru
          rw [e]
          exact tru_const hlp _ hj
        generalize decide ((sF g).k = 3) = c at *
        cases c with
        | true => rw [hfix, hcc i hi]; rfl
        | false =>
          rw [hcc i hi]
          refine tru_stay hlp 6 0 0 0 [f, g] (fun j hj => ?_) i hi
          simp only [infC]
          simp only [show ¬ (6 : Int) = 1 by omega, show ¬ (6 : Int) = 2 by omega, show ¬ (6 : Int) = 5 by omega, show ¬ (6 : Int) = 7 by omega, show ¬ (6 : Int) = 8 by omega, if_false, if_true]
          rw [hK0, hK1, hcc j hj]
          simp
      · have : tru tr lp i f = false := by
          unfold tru
          rw [← ih1, hc]
          exact tru_const hlp false hi
        rw [hfix, this]
        simp
    · rw [infF_mk, infF_mk, List.map_cons, List.map_cons, List.map_nil, List.map_cons, List.map_cons, List.map_nil, ih1, ih2]
  | jn hk hw ih =>
    rename_i k l
    refine inf_ext fun i hi => ?_
    have hS := sem_tru hlp i hi
    have hw' : ∀ f ∈ l.map sF, Wf f := wf_mapS hw
    have e : (l.map sF).map (truE tr lp i) = l.map (truE tr lp i) := by
      rw [List.map_map]
      refine List.map_congr_left fun f hf => ?_
      show truE tr lp i (sF f) = truE tr lp i f
      unfold truE tru
      rw [ih f hf]
    rw [sF_jn hk]
    rcases hk with rfl | rfl
    · rw [hS.join3 hw', hS.and _ hw, e]
    · rw [hS.join4 hw', hS.or _ hw, e]
theorem tru_pro {tr : List (List Int)} {lp : Nat} (hlp : lp < tr.length) {f : Fm} (hw : Wf f) (i : Nat) (hi : i < tr.length) : tru tr lp (aft tr.length lp i) (proF (tr.getD i []) f) = tru tr lp i f := by
  have ha := aft_lt hlp hi
  have h := stp_eq (sem_tru hlp i hi) (sem_tru hlp _ ha) (stp_tru hlp i hi) hw
  rw [pro_same _ f hw]
  unfold tru truE at *
  rw [tru_s hlp (wf_st _ hw)]
  unfold tru sg at h
  generalize List.getD (infF tr lp (stF (tr.getD i []) f)) (aft tr.length lp i) false = x at *
  generalize (infF tr lp f).getD i false = y at *
  cases x <;> cases y <;> first | rfl | (simp at h)
/-- The positions of the infinite trace. -/
def posN (n lp : Nat) : Nat → Nat
  | 0 => 0
  | r + 1 => aft n lp (posN n lp r)
/-- The first positions of the infinite trace. -/
def preN (tr : List (List Int)) (lp : Nat) (m : Nat) : List (List Int) := (List.range m).map fun r => tr.getD (posN tr.length lp r) []
theorem preN_succ (tr : List (List Int)) (lp m : Nat) : preN tr lp (m + 1) = preN tr lp m ++ [tr.getD (posN tr.length lp m) []] := by
  unfold preN
  rw [List.range_succ, List.map_append]
  rfl
theorem pos_lt {tr : List (List Int)} {lp : Nat} (hlp : lp < tr.length) (r : Nat) : posN tr.length lp r < tr.length := by
  induction r with
  | zero => show 0 < _; omega
  | succ r ih => exact aft_lt hlp ih
theorem tru_fold {tr : List (List Int)} {lp : Nat} (hlp : lp < tr.length) {f : Fm} (hw : Wf f) : ∀ m, tru tr lp (posN tr.length lp m) (foldP f (preN tr lp m)) = tru tr lp 0 f
  | 0 => rfl
  | m + 1 => by
    rw [preN_succ, foldP_app, ← tru_fold hlp hw m]
    exact tru_pro hlp (wf_fold _ hw) _ (pos_lt hlp m)
/-- A verdict on a prefix is that on the infinite trace. -/
theorem inf_sound {tr : List (List Int)} {lp : Nat} (hlp : lp < tr.length) {f : Fm} (hw : Wf f) (m : Nat) : ((chkF f (preN tr lp m)).cls = 0 → tru tr lp 0 f = true) ∧ ((chkF f (preN tr lp m)).cls = 13 → tru tr lp 0 f = false) := by
  have h := tru_fold hlp hw m
  have hc := split_cls f (preN tr lp m) [] hw
  rw [List.append_nil] at hc
  have hwf := wf_fold (preN tr lp m) hw
  have hp := pos_lt hlp m
  rw [← hc, chk_cls _ _ hwf]
  show (cls3 (T3 (sF (foldP f (preN tr lp m)))) = 0 → _) ∧ (cls3 (T3 (sF (foldP f (preN tr lp m)))) = 13 → _)
  rw [← h]
  have hs := tru_s hlp hwf
  have hd : ∀ b, sF (foldP f (preN tr lp m)) = constF b → tru tr lp (posN tr.length lp m) (foldP f (preN tr lp m)) = b := fun b hb => by
    unfold tru
    rw [← hs, hb]
    exact tru_const hlp b hp
  unfold T3
  refine ⟨fun hx => hd true ?_, fun hx => hd false ?_⟩
  · split at hx
    · rename_i hc
      rcases (isC_iff (wf_s hwf)).1 hc with e | e
      · exact e
      · rw [e] at hx; exact absurd hx (by decide)
    · exact absurd hx (by decide)
  · split at hx
    · rename_i hc
      rcases (isC_iff (wf_s hwf)).1 hc with e | e
      · rw [e] at hx; exact absurd hx (by decide)
      · exact e
    · exact absurd hx (by decide)
end Go.Proofs.YtpjcbadnpknncaaDoor.Vm
/- The reference: Infinite. -/
namespace Go.Proofs.YtpjcbadnpknncaaDoor.Vm
open Go.RowKit Go.Shelf
set_option linter.unusedSimpArgs false
set_option linter.unusedVariables false
set_option maxRecDepth 100000
def boolsA (l : List Bool) : List A := l.map fun b => .v (.bool b)
def infsA (K : List (List Bool)) : List A := K.flatMap fun l => [.sl 1 l.length (boolsA l)]
theorem rowOf_bools (l : List Bool) (i : Nat) (h : i < l.length) : rowOf 1 i (boolsA l) = [.v (.bool (l.getD i false))] := by
  rw [show l.getD i false = l[i] by rw [List.getD_eq_getElem?_getD, List.getElem?_eq_getElem h]; rfl]
  exact rowOf_map _ l i h
theorem rowOf_infs (K : List (List Bool)) (i : Nat) (h : i < K.length) : rowOf 1 i (infsA K) = [.sl 1 (K.getD i []).length (boolsA (K.getD i []))] := by
  rw [show K.getD i [] = K[i] by rw [List.getD_eq_getElem?_getD, List.getElem?_eq_getElem h]; rfl]
  exact rowOf_flat (k := 1) (fun l : List Bool => [A.sl 1 l.length (boolsA l)]) (fun _ => rfl) K i h
theorem infsA_snoc (K : List (List Bool)) (l : List Bool) : infsA (K ++ [l]) = infsA K ++ [.sl 1 l.length (boolsA l)] := by simp [infsA]
theorem bools_drop (l : List Bool) (i : Nat) (h : i < l.length) : (boolsA l).drop i = .v (.bool (l.getD i false)) :: (boolsA l).drop (i + 1) := by
  rw [show l.getD i false = l[i] by rw [List.getD_eq_getElem?_getD, List.getElem?_eq_getElem h]; rfl]
  unfold boolsA
  rw [← List.map_drop, ← List.map_drop, List.drop_eq_getElem_cons h]
  rfl
theorem bools_set (l : List Bool) (i : Nat) (b : Bool) : (boolsA l).set i (.v (.bool b)) = boolsA (l.set i b) := by
  unfold boolsA
  rw [List.map_set]
theorem setK_go {α : Type} : ∀ {l : List α} {i : Nat} {a : α} {K : List α → Prop}, i < l.length → K (l.set i a) → setK l i a K
  | x :: l, 0, a, K, _, h => h
  | x :: l, i + 1, a, K, hi, h => by
    unfold setK
    exact setK_go (l := l) (by simpa using hi) h
  | [], i, a, K, hi, _ => by simp at hi
theorem set_bools {o : List Bool} {i off : Nat} {b : Bool} {K : List A → Prop} (ho : off = i) (h : i < o.length) (k : K (boolsA (o.set i b))) : setK (boolsA o) off (.v (.bool b)) K := by
  subst ho
  refine setK_go (by simpa [boolsA] using h) ?_
  rw [bools_set]
  exact k
theorem bools_dropN (l : List Bool) (i : Nat) (h : i < l.length) : List.drop (Int.toNat (i : Int) * 1) (boolsA l) = .v (.bool (l.getD i false)) :: (boolsA l).drop (i + 1) := by
  rw [Int.toNat_natCast, Nat.mul_one]
  exact bools_drop l i h
theorem bools_len (l : List Bool) : (boolsA l).length = l.length := by simp [boolsA]
theorem reps_set (c : Bool) (n j : Nat) (h : j < n) : (List.replicate j c ++ List.replicate (n - j) false).set j c = List.replicate (j + 1) c ++ List.replicate (n - (j + 1)) false := by
  obtain ⟨m, rfl⟩ : ∃ m, n = j + 1 + m := ⟨n - (j + 1), by omega⟩
  rw [show j + 1 + m - j = m + 1 by omega, show j + 1 + m - (j + 1) = m by omega, List.set_append, if_neg (by simp), List.length_replicate, Nat.sub_self, List.replicate_succ (n := m), List.set_cons_zero, List.replicate_succ']
  simp
def InfSpec (tr : List (List Int)) (lp : Nat) (f : Fm) : Prop := Spec Tryd.prog 24 [] [.agg (fmA f), .sl 1 tr.length (trA tr), .v (.int .i64 lp)] fun _ r => r = .sl 1 (infF tr lp f).length (boolsA (infF tr lp f))
set_option maxHeartbeats 4000000 in
theorem inf_raw (tr : List (List Int)) (lp : Nat) (htr : tr.length ≤ 1000) (hlp : lp < tr.length) (k a b n : Int) (l : List Fm) (hl : l.length ≤ 1000000000000) (ha : k = 1 → 0 ≤ a)
    (hk1 : k = 2 ∨ k = 5 ∨ k = 7 ∨ k = 8 → 1 ≤ l.length) (hk2 : k = 6 → 2 ≤ l.length) (ih : ∀ f ∈ l, InfSpec tr lp f) : InfSpec tr lp (.mk k a b n l) := by
  unfold InfSpec at ih ⊢
  have hRl := infF_len tr lp (.mk k a b n l)
  rw [infF_mk] at hRl ⊢
  have hKl : ∀ j, (infF tr lp j).length = tr.length := infF_len tr lp
  unfold infK at hRl ⊢
  obtain ⟨F, hF⟩ : ∃ F, infC tr k a b n (l.map (infF tr lp)) tr.length lp = F := ⟨_, rfl⟩
  rw [hF] at hRl ⊢
  obtain ⟨R, hR⟩ : ∃ R, swps F tr.length lp (2 * tr.length + 2) (List.replicate tr.length (decide (k = 3) || decide (k = 7))) = R := ⟨_, rfl⟩
  rw [hR] at hRl ⊢
  rw [fmA_mk]
  refine spec_of (cx_ok ord24 xs0 0) (fun _ _ h => h) Tryd.func24 rfl (by kernel_rfl) rfl (by kernel_rfl) ?_
  intro hok
  conv => whnf
  refine loop_row 46 1 [8] [] ?_
  conv => whnf
  refine ⟨trivial, ?_⟩
  conv => whnf
  refine loop_keep [1, 2, 3, 7, 8] ?_
  conv => whnf
  refine loop_goQ (fun j : Nat => [(9, .v (.int .i64 j))]) (fun _ => [[intA k, intA a, intA b, intA n, .sl 5 l.length (fmsA l)]]) (fun j => [.live 46 1 j (infsA ((l.take j).map (infF tr lp)))]) (fun j => j ≤ l.length) (fun j => l.length - j) 0 ?_ (Nat.zero_le _) ?_
  · unfold headQ
    repeat' constructor
  · rintro j hj
    conv => whnf
    by_cases hlt : j < l.length
    · have hr := rowOf_fms l j hlt
      have hih := ih l[j] (List.getElem_mem hlt)
      have htk : (l.take (j + 1)).map (infF tr lp) = (l.take j).map (infF tr lp) ++ [infF tr lp l[j]] := by
        rw [List.take_add_one, List.getElem?_eq_getElem hlt, List.map_append]; rfl
      generalize l[j] = f at *
      (refine goA ?_; try with_reducible exact trivial)
      (generalize hrq : rowOf _ _ (fmsA l) = rq; obtain rfl : rq = fmA f := hrq.symm.trans (hr); clear hrq; conv => whnf)
      (refine call0 [] rfl (fun _ => hih) ?_; rintro r rfl; conv => whnf)
      refine ⟨⟨by unfold maxLen; omega, by omega⟩, ?_⟩
      conv => whnf
      (refine goA ?_; try with_reducible exact trivial)
      refine ⟨j + 1, le_head ?_, hlt, by omega⟩
      repeat' constructor
      · rw [htk, infsA_snoc]
    · obtain rfl : j = l.length := by omega
      rw [List.take_length]
      have hmk : (l.map (infF tr lp)).length = l.length := by simp
      have hKK : ∀ o ∈ l.map (infF tr lp), o.length = tr.length := fun o ho => by
        obtain ⟨g, _, rfl⟩ := List.mem_map.1 ho
        exact hKl g
      clear ih hj hlt
      generalize l.map (infF tr lp) = K at *
      obtain ⟨c, hc⟩ : ∃ c, (decide (k = 3) || decide (k = 7)) = c := ⟨_, rfl⟩
      rw [hc] at hR
      have hrow := rowOf_tr tr
      (refine goA ?_; try with_reducible exact trivial)
      refine loop_pub [0] ?_
      conv => whnf
      refine loop_keep [1, 2, 3, 7, 8, 10] ?_
      conv => whnf
      refine loop_goQ (fun x : Nat × List Bool => [(11, .v (.int .i64 x.1))]) (fun _ => [[intA k, intA a, intA b, intA n, .sl 5 l.length (fmsA l)]]) (fun x => [.pub 1 l.length (infsA K), .live 4 1 tr.length (boolsA x.2)]) (fun x => x.1 ≤ tr.length ∧ x.2 = List.replicate x.1 c ++ List.replicate (tr.length - x.1) false) (fun x => tr.length - x.1) (0, List.replicate tr.length false) ?_ ⟨Nat.zero_le _, by simp⟩ ?_
      · unfold headQ
        repeat' constructor
        · show [_, Row.live _ _ _ (List.replicate tr.length (constA (.bool false)))] = [_, Row.live _ _ _ _]
          unfold boolsA
          rw [List.map_replicate]
          rfl
      · rintro ⟨j, o⟩ ⟨hj, ho⟩
        simp only at hj ho
        conv => whnf
        by_cases hlt : j < tr.length
        · have hol : o.length = tr.length := by rw [ho, List.length_append, List.length_replicate, List.length_replicate]; omega
          (refine goA ?_; try with_reducible exact trivial)
          by_cases h3 : k = 3
          · rw [decide_eq_true h3]
            have hct : c = true := by rw [← hc, decide_eq_true h3]; rfl
            conv => whnf
            (refine goA ?_; try with_reducible exact trivial)
            refine set_bools (i := j) (o := o) (b := true) (by simp) (by omega) ?_
            conv => whnf
            (refine goA ?_; try with_reducible exact trivial)
            refine ⟨(j + 1, o.set j true), le_head ?_, ⟨hlt, by simp only; rw [ho, hct]; exact reps_set true tr.length j hlt⟩, by simp only; omega⟩
            repeat' constructor
          · rw [decide_eq_false h3]
            have hct : decide (k = 7) = c := by rw [← hc, decide_eq_false h3]; rfl
            conv => whnf
            rw [hct]
            (refine goA ?_; try with_reducible exact trivial)
            refine set_bools (i := j) (o := o) (b := c) (by simp) (by omega) ?_
            conv => whnf
            (refine goA ?_; try with_reducible exact trivial)
            refine ⟨(j + 1, o.set j c), le_head ?_, ⟨hlt, by simp only; rw [ho]; exact reps_set c tr.length j hlt⟩, by simp only; omega⟩
            repeat' constructor
        · obtain rfl : j = tr.length := by omega
          rw [Nat.sub_self, List.replicate_zero, List.append_nil] at ho
          (refine goA ?_; try with_reducible exact trivial)
          refine loop_keep [1, 2, 3, 7, 8, 10] ?_
          conv => whnf
          refine loop_goQ (fun x : Nat × List Bool => [(12, .v (.int .i64 x.1))]) (fun _ => [[intA k, intA a, intA b, intA n, .sl 5 l.length (fmsA l)]]) (fun x => [.pub 1 l.length (infsA K), .live 4 1 tr.length (boolsA x.2)]) (fun x => x.1 ≤ 2 * tr.length + 2 ∧ x.2.length = tr.length ∧ swps F tr.length lp (2 * tr.length + 2 - x.1) x.2 = R) (fun x => 2 * tr.length + 2 - x.1) (0, o) ?_ ⟨Nat.zero_le _, by simp only; rw [ho]; simp, by simp only [Nat.sub_zero]; rw [ho]; exact hR⟩ ?_
          · unfold headQ
            repeat' constructor
          · clear hR ho
            rintro ⟨r, o⟩ ⟨hr, hol, hR⟩
            simp only at hr hol hR
            conv => whnf
            (refine goA ?_; try with_reducible exact trivial)
            by_cases hrr : r < 2 * tr.length + 2
            · (refine goA ?_; try with_reducible exact trivial)
              refine loop_keep [1, 2, 3, 7, 8, 10, 12] ?_
              conv => whnf
              obtain ⟨m, hm⟩ : ∃ m, 2 * tr.length + 2 - r = m + 1 := ⟨2 * tr.length + 1 - r, by omega⟩
              rw [hm] at hR
              change swps F tr.length lp m (swp F tr.length lp tr.length o) = R at hR
              refine loop_goQ (fun x : Nat × List Bool => [(13, .v (.int .i64 ((x.1 : Int) - 1)))]) (fun _ => [[intA k, intA a, intA b, intA n, .sl 5 l.length (fmsA l)]]) (fun x => [.pub 1 l.length (infsA K), .live 4 1 tr.length (boolsA x.2)]) (fun x => x.1 ≤ tr.length ∧ x.2.length = tr.length ∧ swps F tr.length lp m (swp F tr.length lp x.1 x.2) = R) (fun x => x.1) (tr.length, o) ?_ ⟨Nat.le_refl _, hol, hR⟩ ?_
              · unfold headQ
                repeat' constructor
              · clear hR hol
                rintro ⟨i1, o⟩ ⟨hi, hol, hR⟩
                simp only at hi hol hR
                conv => whnf
                by_cases hi0 : i1 = 0
                · subst hi0
                  change swps F tr.length lp m o = R at hR
                  (refine goA ?_; try with_reducible exact trivial)
                  refine ⟨(r + 1, o), le_head ?_, ⟨hrr, hol, by simp only; rw [show 2 * tr.length + 2 - (r + 1) = m by omega]; exact hR⟩, by simp only; omega⟩
                  repeat' constructor
                · obtain ⟨i, rfl⟩ : ∃ i, i1 = i + 1 := ⟨i1 - 1, by omega⟩
                  rw [swp] at hR
                  have ei : (((i + 1, o) : Nat × List Bool).fst : Int) - 1 = (i : Int) := by simp only; omega
                  rw [ei]
                  (refine goA ?_; try with_reducible exact trivial)
                  obtain ⟨af, haf⟩ : ∃ af, aft tr.length lp i = af := ⟨_, rfl⟩
                  by_cases hai : i + 1 = tr.length
                  · have haf2 : lp = af := by rw [← haf]; unfold aft; rw [if_pos hai]
                    subst haf2
                    (refine goA ?_; try with_reducible exact trivial)
                    obtain ⟨B, hB⟩ : ∃ B, F i (o.getD lp false) = B := ⟨_, rfl⟩
                    rw [haf, hB] at hR
                    have hFi := (congrFun (congrFun hF i) (o.getD lp false)).trans hB
                    unfold infC at hFi
                    rw [haf] at hFi
                    have hod := bools_dropN o lp (by omega)
                    by_cases h1 : k = 1
                    · rw [if_pos h1] at hFi
                      have hrw := hrow i (by omega)
                      have hgv : tr.getD i [] = tr[i] := by rw [List.getD_eq_getElem?_getD, List.getElem?_eq_getElem (by omega)]; rfl
                      rw [hgv] at hFi
                      generalize tr[i] = v at *
                      have hho := rHolds v k a b n l (ha h1)
                      rw [fmA_mk] at hho
                      rw [hFi] at hho
                      rw [decide_eq_true h1]
                      conv => whnf
                      (refine goA ?_; try with_reducible exact trivial)
                      (generalize hrq : rowOf _ _ (trA tr) = rq; obtain rfl : rq = [.sl 1 v.length (intsA v)] := hrq.symm.trans (hrw); clear hrq; conv => whnf)
                      (refine call0 [] rfl (fun _ => hho) ?_; rintro r rfl; conv => whnf)
                      (refine goA ?_; try with_reducible exact trivial)
                      refine set_bools (i := i) (o := o) (b := B) (by simp) (by omega) ?_
                      conv => whnf
                      (refine goA ?_; try with_reducible exact trivial)
                      refine ⟨(i, o.set i B), le_head ?_, ⟨by simp only; omega, by simp [hol], hR⟩, by simp only; omega⟩
                      repeat' constructor
                    rw [if_neg h1] at hFi
                    rw [decide_eq_false h1]
                    conv => whnf
                    by_cases h2 : k = 2
                    · rw [if_pos h2] at hFi
                      rw [decide_eq_true h2]
                      have hl1 : 1 ≤ K.length := by have := hk1; have := hk2; omega
                      have hrK0 := rowOf_infs K 0 (by omega)
                      have hlK0 : (K.getD 0 []).length = tr.length := hKK _ (by rw [List.getD_eq_getElem?_getD, List.getElem?_eq_getElem (by omega)]; exact List.getElem_mem _)
                      generalize K.getD 0 [] = K0 at *
                      have hg0 := rowOf_bools K0 i (by omega)
                      have hg0a := rowOf_bools K0 lp (by omega)
                      conv => whnf
                      (refine goA ?_; try with_reducible exact trivial)
                      (generalize hrq : rowOf _ _ (infsA K) = rq; obtain rfl : rq = [.sl 1 K0.length (boolsA K0)] := hrq.symm.trans (hrK0); clear hrq; conv => whnf)
                      (refine goA ?_; try with_reducible exact trivial)
                      (generalize hrq : rowOf _ _ (boolsA K0) = rq; obtain rfl : rq = [.v (.bool (K0.getD i false))] := hrq.symm.trans (hg0); clear hrq; conv => whnf)
                      (refine goA ?_; try with_reducible exact trivial)
                      rw [hFi]
                      refine set_bools (i := i) (o := o) (b := B) (by simp) (by omega) ?_
                      conv => whnf
                      (refine goA ?_; try with_reducible exact trivial)
                      refine ⟨(i, o.set i B), le_head ?_, ⟨by simp only; omega, by simp [hol], hR⟩, by simp only; omega⟩
                      repeat' constructor
                    rw [if_neg h2] at hFi
                    rw [decide_eq_false h2]
                    conv => whnf
                    by_cases h5 : k = 5
                    · rw [if_pos h5] at hFi
                      rw [decide_eq_true h5]
                      have hl1 : 1 ≤ K.length := by have := hk1; have := hk2; omega
                      have hrK0 := rowOf_infs K 0 (by omega)
                      have hlK0 : (K.getD 0 []).length = tr.length := hKK _ (by rw [List.getD_eq_getElem?_getD, List.getElem?_eq_getElem (by omega)]; exact List.getElem_mem _)
                      generalize K.getD 0 [] = K0 at *
                      have hg0 := rowOf_bools K0 i (by omega)
                      have hg0a := rowOf_bools K0 lp (by omega)
                      conv => whnf
                      (refine goA ?_; try with_reducible exact trivial)
                      (generalize hrq : rowOf _ _ (infsA K) = rq; obtain rfl : rq = [.sl 1 K0.length (boolsA K0)] := hrq.symm.trans (hrK0); clear hrq; conv => whnf)
                      (refine goA ?_; try with_reducible exact trivial)
                      (generalize hrq : rowOf _ _ (boolsA K0) = rq; obtain rfl : rq = [.v (.bool (K0.getD lp false))] := hrq.symm.trans (hg0a); clear hrq; conv => whnf)
                      (refine goA ?_; try with_reducible exact trivial)
                      rw [hFi]
                      refine set_bools (i := i) (o := o) (b := B) (by simp) (by omega) ?_
                      conv => whnf
                      (refine goA ?_; try with_reducible exact trivial)
                      refine ⟨(i, o.set i B), le_head ?_, ⟨by simp only; omega, by simp [hol], hR⟩, by simp only; omega⟩
                      repeat' constructor
                    rw [if_neg h5] at hFi
                    rw [decide_eq_false h5]
                    conv => whnf
                    by_cases h7 : k = 7
                    · rw [if_pos h7] at hFi
                      rw [decide_eq_true h7]
                      have hl1 : 1 ≤ K.length := by have := hk1; have := hk2; omega
                      have hrK0 := rowOf_infs K 0 (by omega)
                      have hlK0 : (K.getD 0 []).length = tr.length := hKK _ (by rw [List.getD_eq_getElem?_getD, List.getElem?_eq_getElem (by omega)]; exact List.getElem_mem _)
                      generalize K.getD 0 [] = K0 at *
                      have hg0 := rowOf_bools K0 i (by omega)
                      have hg0a := rowOf_bools K0 lp (by omega)
                      conv => whnf
                      (refine goA ?_; try with_reducible exact trivial)
                      (generalize hrq : rowOf _ _ (infsA K) = rq; obtain rfl : rq = [.sl 1 K0.length (boolsA K0)] := hrq.symm.trans (hrK0); clear hrq; conv => whnf)
                      (refine goA ?_; try with_reducible exact trivial)
                      (generalize hrq : rowOf _ _ (boolsA K0) = rq; obtain rfl : rq = [.v (.bool (K0.getD i false))] := hrq.symm.trans (hg0); clear hrq; conv => whnf)
                      cases hx : K0.getD i false with
                      | true =>
                        rw [hx, Bool.true_and] at hFi
                        conv => whnf
                        (refine goA ?_; try with_reducible exact trivial)
                        rw [hod]
                        conv => whnf
                        rw [hFi]
                        (refine goA ?_; try with_reducible exact trivial)
                        refine set_bools (i := i) (o := o) (b := B) (by simp) (by omega) ?_
                        conv => whnf
                        (refine goA ?_; try with_reducible exact trivial)
                        refine ⟨(i, o.set i B), le_head ?_, ⟨by simp only; omega, by simp [hol], hR⟩, by simp only; omega⟩
                        repeat' constructor
                      | false =>
                        rw [hx, Bool.false_and] at hFi
                        subst hFi
                        conv => whnf
                        (refine goA ?_; try with_reducible exact trivial)
                        refine set_bools (i := i) (o := o) (b := false) (by simp) (by omega) ?_
                        conv => whnf
                        (refine goA ?_; try with_reducible exact trivial)
                        refine ⟨(i, o.set i false), le_head ?_, ⟨by simp only; omega, by simp [hol], hR⟩, by simp only; omega⟩
                        repeat' constructor
                    rw [if_neg h7] at hFi
                    rw [decide_eq_false h7]
                    conv => whnf
                    by_cases h8 : k = 8
                    · rw [if_pos h8] at hFi
                      rw [decide_eq_true h8]
                      have hl1 : 1 ≤ K.length := by have := hk1; have := hk2; omega
                      have hrK0 := rowOf_infs K 0 (by omega)
                      have hlK0 : (K.getD 0 []).length = tr.length := hKK _ (by rw [List.getD_eq_getElem?_getD, List.getElem?_eq_getElem (by omega)]; exact List.getElem_mem _)
                      generalize K.getD 0 [] = K0 at *
                      have hg0 := rowOf_bools K0 i (by omega)
                      have hg0a := rowOf_bools K0 lp (by omega)
                      conv => whnf
                      (refine goA ?_; try with_reducible exact trivial)
                      (generalize hrq : rowOf _ _ (infsA K) = rq; obtain rfl : rq = [.sl 1 K0.length (boolsA K0)] := hrq.symm.trans (hrK0); clear hrq; conv => whnf)
                      (refine goA ?_; try with_reducible exact trivial)
                      (generalize hrq : rowOf _ _ (boolsA K0) = rq; obtain rfl : rq = [.v (.bool (K0.getD i false))] := hrq.symm.trans (hg0); clear hrq; conv => whnf)
                      cases hx : K0.getD i false with
                      | false =>
                        rw [hx, Bool.false_or] at hFi
                        conv => whnf
                        (refine goA ?_; try with_reducible exact trivial)
                        rw [hod]
                        conv => whnf
                        rw [hFi]
                        (refine goA ?_; try with_reducible exact trivial)
                        refine set_bools (i := i) (o := o) (b := B) (by simp) (by omega) ?_
                        conv => whnf
                        (refine goA ?_; try with_reducible exact trivial)
                        refine ⟨(i, o.set i B), le_head ?_, ⟨by simp only; omega, by simp [hol], hR⟩, by simp only; omega⟩
                        repeat' constructor
                      | true =>
                        rw [hx, Bool.true_or] at hFi
                        subst hFi
                        conv => whnf
                        (refine goA ?_; try with_reducible exact trivial)
                        refine set_bools (i := i) (o := o) (b := true) (by simp) (by omega) ?_
                        conv => whnf
                        (refine goA ?_; try with_reducible exact trivial)
                        refine ⟨(i, o.set i true), le_head ?_, ⟨by simp only; omega, by simp [hol], hR⟩, by simp only; omega⟩
                        repeat' constructor
                    rw [if_neg h8] at hFi
                    rw [decide_eq_false h8]
                    conv => whnf
                    by_cases h6 : k = 6
                    · rw [if_pos h6] at hFi
                      rw [decide_eq_true h6]
                      have hK1 : 2 ≤ K.length := by have := hk2; omega
                      have hrK1 := rowOf_infs K 1 (by omega)
                      have hlK1 : (K.getD 1 []).length = tr.length := hKK _ (by rw [List.getD_eq_getElem?_getD, List.getElem?_eq_getElem (by omega)]; exact List.getElem_mem _)
                      have hl1 : 1 ≤ K.length := by have := hk1; have := hk2; omega
                      have hrK0 := rowOf_infs K 0 (by omega)
                      have hlK0 : (K.getD 0 []).length = tr.length := hKK _ (by rw [List.getD_eq_getElem?_getD, List.getElem?_eq_getElem (by omega)]; exact List.getElem_mem _)
                      generalize K.getD 0 [] = K0 at *
                      have hg0 := rowOf_bools K0 i (by omega)
                      have hg0a := rowOf_bools K0 lp (by omega)
                      generalize K.getD 1 [] = K1 at *
                      have hg1 := rowOf_bools K1 i (by omega)
                      conv => whnf
                      (refine goA ?_; try with_reducible exact trivial)
                      (generalize hrq : rowOf _ _ (infsA K) = rq; obtain rfl : rq = [.sl 1 K1.length (boolsA K1)] := hrq.symm.trans (hrK1); clear hrq; conv => whnf)
                      (refine goA ?_; try with_reducible exact trivial)
                      (generalize hrq : rowOf _ _ (boolsA K1) = rq; obtain rfl : rq = [.v (.bool (K1.getD i false))] := hrq.symm.trans (hg1); clear hrq; conv => whnf)
                      cases hx : K1.getD i false with
                      | true =>
                        rw [hx, Bool.true_or] at hFi
                        subst hFi
                        conv => whnf
                        (refine goA ?_; try with_reducible exact trivial)
                        refine set_bools (i := i) (o := o) (b := true) (by simp) (by omega) ?_
                        conv => whnf
                        (refine goA ?_; try with_reducible exact trivial)
                        refine ⟨(i, o.set i true), le_head ?_, ⟨by simp only; omega, by simp [hol], hR⟩, by simp only; omega⟩
                        repeat' constructor
                      | false =>
                        rw [hx, Bool.false_or] at hFi
                        conv => whnf
                        (refine goA ?_; try with_reducible exact trivial)
                        (generalize hrq : rowOf _ _ (infsA K) = rq; obtain rfl : rq = [.sl 1 K0.length (boolsA K0)] := hrq.symm.trans (hrK0); clear hrq; conv => whnf)
                        (refine goA ?_; try with_reducible exact trivial)
                        (generalize hrq : rowOf _ _ (boolsA K0) = rq; obtain rfl : rq = [.v (.bool (K0.getD i false))] := hrq.symm.trans (hg0); clear hrq; conv => whnf)
                        cases hx0 : K0.getD i false with
                        | true =>
                          rw [hx0, Bool.true_and] at hFi
                          conv => whnf
                          (refine goA ?_; try with_reducible exact trivial)
                          rw [hod]
                          conv => whnf
                          rw [hFi]
                          (refine goA ?_; try with_reducible exact trivial)
                          refine set_bools (i := i) (o := o) (b := B) (by simp) (by omega) ?_
                          conv => whnf
                          (refine goA ?_; try with_reducible exact trivial)
                          refine ⟨(i, o.set i B), le_head ?_, ⟨by simp only; omega, by simp [hol], hR⟩, by simp only; omega⟩
                          repeat' constructor
                        | false =>
                          rw [hx0, Bool.false_and] at hFi
                          subst hFi
                          conv => whnf
                          (refine goA ?_; try with_reducible exact trivial)
                          refine set_bools (i := i) (o := o) (b := false) (by simp) (by omega) ?_
                          conv => whnf
                          (refine goA ?_; try with_reducible exact trivial)
                          refine ⟨(i, o.set i false), le_head ?_, ⟨by simp only; omega, by simp [hol], hR⟩, by simp only; omega⟩
                          repeat' constructor
                    rw [if_neg h6] at hFi
                    rw [decide_eq_false h6]
                    conv => whnf
                    by_cases h3 : k = 3
                    · rw [if_pos h3] at hFi
                      rw [decide_eq_true h3]
                      conv => whnf
                      (refine goA ?_; try with_reducible exact trivial)
                      refine set_bools (i := i) (o := o) (b := true) (by simp) (by omega) ?_
                      conv => whnf
                      (refine goA ?_; try with_reducible exact trivial)
                      refine loop_keep [1, 2, 3, 7, 8, 10, 12, 13] ?_
                      conv => whnf
                      refine loop_goQ (fun x : Nat × Bool => [(15, .v (.int .i64 x.1))]) (fun _ => [[intA k, intA a, intA b, intA n, .sl 5 l.length (fmsA l)]]) (fun x => [.pub 1 l.length (infsA K), .live 4 1 tr.length (boolsA (o.set i x.2))]) (fun x => x.1 ≤ K.length ∧ (and x.2 ((K.drop x.1).all fun l => l.getD i false)) = B) (fun x => K.length - x.1) (0, true) ?_ ⟨Nat.zero_le _, by simp only [List.drop_zero]; simpa using hFi⟩ ?_
                      · unfold headQ
                        repeat' constructor
                      · rintro ⟨j, q⟩ ⟨hj, hinv⟩
                        simp only at hj hinv
                        conv => whnf
                        by_cases hjk : j < K.length
                        · have hrK0 := rowOf_infs K j hjk
                          have hlK0 : (K.getD j []).length = tr.length := hKK _ (by rw [List.getD_eq_getElem?_getD, List.getElem?_eq_getElem (by omega)]; exact List.getElem_mem _)
                          rw [List.drop_eq_getElem_cons hjk, show K[j] = K.getD j [] by rw [List.getD_eq_getElem?_getD, List.getElem?_eq_getElem hjk]; rfl] at hinv
                          simp only [List.all_cons] at hinv
                          generalize K.getD j [] = K0 at *
                          have hg0 := rowOf_bools K0 i (by omega)
                          have hos : (o.set i q).getD i false = q := by rw [List.getD_eq_getElem?_getD, List.getElem?_set_self (by omega)]; rfl
                          have hsd := bools_dropN (o.set i q) i (by simp; omega)
                          rw [hos] at hsd
                          (refine goA ?_; try with_reducible exact trivial)
                          rw [hsd]
                          conv => whnf
                          cases q with
                          | true =>
                            simp only [Bool.true_and] at hinv
                            conv => whnf
                            (refine goA ?_; try with_reducible exact trivial)
                            (generalize hrq : rowOf _ _ (infsA K) = rq; obtain rfl : rq = [.sl 1 K0.length (boolsA K0)] := hrq.symm.trans (hrK0); clear hrq; conv => whnf)
                            (refine goA ?_; try with_reducible exact trivial)
                            (generalize hrq : rowOf _ _ (boolsA K0) = rq; obtain rfl : rq = [.v (.bool (K0.getD i false))] := hrq.symm.trans (hg0); clear hrq; conv => whnf)
                            (refine goA ?_; try with_reducible exact trivial)
                            refine set_bools (i := i) (o := o.set i true) (b := K0.getD i false) (by simp) (by simp; omega) ?_
                            conv => whnf
                            (refine goA ?_; try with_reducible exact trivial)
                            refine ⟨(j + 1, K0.getD i false), le_head ?_, ⟨hjk, hinv⟩, by simp only; omega⟩
                            repeat' constructor
                            · rw [List.set_set]
                          | false =>
                            simp only [Bool.false_and] at hinv
                            conv => whnf
                            (refine goA ?_; try with_reducible exact trivial)
                            refine set_bools (i := i) (o := o.set i false) (b := false) (by simp) (by simp; omega) ?_
                            conv => whnf
                            (refine goA ?_; try with_reducible exact trivial)
                            refine ⟨(j + 1, false), le_head ?_, ⟨hjk, by simp only [Bool.false_and]; exact hinv⟩, by simp only; omega⟩
                            repeat' constructor
                            · rw [List.set_set]
                        · have e : K.drop j = [] := List.drop_of_length_le (by omega)
                          rw [e] at hinv
                          simp only [List.all_nil, Bool.and_true] at hinv
                          subst hinv
                          (refine goA ?_; try with_reducible exact trivial)
                          refine ⟨(i, o.set i q), le_head ?_, ⟨by simp only; omega, by simp [hol], hR⟩, by simp only; omega⟩
                          repeat' constructor
                    rw [if_neg h3] at hFi
                    rw [decide_eq_false h3]
                    conv => whnf
                    (refine goA ?_; try with_reducible exact trivial)
                    refine set_bools (i := i) (o := o) (b := false) (by simp) (by omega) ?_
                    conv => whnf
                    (refine goA ?_; try with_reducible exact trivial)
                    refine loop_keep [1, 2, 3, 7, 8, 10, 12, 13] ?_
                    conv => whnf
                    refine loop_goQ (fun x : Nat × Bool => [(16, .v (.int .i64 x.1))]) (fun _ => [[intA k, intA a, intA b, intA n, .sl 5 l.length (fmsA l)]]) (fun x => [.pub 1 l.length (infsA K), .live 4 1 tr.length (boolsA (o.set i x.2))]) (fun x => x.1 ≤ K.length ∧ (or x.2 ((K.drop x.1).any fun l => l.getD i false)) = B) (fun x => K.length - x.1) (0, false) ?_ ⟨Nat.zero_le _, by simp only [List.drop_zero]; simpa using hFi⟩ ?_
                    · unfold headQ
                      repeat' constructor
                    · rintro ⟨j, q⟩ ⟨hj, hinv⟩
                      simp only at hj hinv
                      conv => whnf
                      by_cases hjk : j < K.length
                      · have hrK0 := rowOf_infs K j hjk
                        have hlK0 : (K.getD j []).length = tr.length := hKK _ (by rw [List.getD_eq_getElem?_getD, List.getElem?_eq_getElem (by omega)]; exact List.getElem_mem _)
                        rw [List.drop_eq_getElem_cons hjk, show K[j] = K.getD j [] by rw [List.getD_eq_getElem?_getD, List.getElem?_eq_getElem hjk]; rfl] at hinv
                        simp only [List.any_cons] at hinv
                        generalize K.getD j [] = K0 at *
                        have hg0 := rowOf_bools K0 i (by omega)
                        have hos : (o.set i q).getD i false = q := by rw [List.getD_eq_getElem?_getD, List.getElem?_set_self (by omega)]; rfl
                        have hsd := bools_dropN (o.set i q) i (by simp; omega)
                        rw [hos] at hsd
                        (refine goA ?_; try with_reducible exact trivial)
                        rw [hsd]
                        conv => whnf
                        cases q with
                        | false =>
                          simp only [Bool.false_or] at hinv
                          conv => whnf
                          (refine goA ?_; try with_reducible exact trivial)
                          (generalize hrq : rowOf _ _ (infsA K) = rq; obtain rfl : rq = [.sl 1 K0.length (boolsA K0)] := hrq.symm.trans (hrK0); clear hrq; conv => whnf)
                          (refine goA ?_; try with_reducible exact trivial)
                          (generalize hrq : rowOf _ _ (boolsA K0) = rq; obtain rfl : rq = [.v (.bool (K0.getD i false))] := hrq.symm.trans (hg0); clear hrq; conv => whnf)
                          (refine goA ?_; try with_reducible exact trivial)
                          refine set_bools (i := i) (o := o.set i false) (b := K0.getD i false) (by simp) (by simp; omega) ?_
                          conv => whnf
                          (refine goA ?_; try with_reducible exact trivial)
                          refine ⟨(j + 1, K0.getD i false), le_head ?_, ⟨hjk, hinv⟩, by simp only; omega⟩
                          repeat' constructor
                          · rw [List.set_set]
                        | true =>
                          simp only [Bool.true_or] at hinv
                          conv => whnf
                          (refine goA ?_; try with_reducible exact trivial)
                          refine set_bools (i := i) (o := o.set i true) (b := true) (by simp) (by simp; omega) ?_
                          conv => whnf
                          (refine goA ?_; try with_reducible exact trivial)
                          refine ⟨(j + 1, true), le_head ?_, ⟨hjk, by simp only [Bool.true_or]; exact hinv⟩, by simp only; omega⟩
                          repeat' constructor
                          · rw [List.set_set]
                      · have e : K.drop j = [] := List.drop_of_length_le (by omega)
                        rw [e] at hinv
                        simp only [List.any_nil, Bool.or_false] at hinv
                        subst hinv
                        (refine goA ?_; try with_reducible exact trivial)
                        refine ⟨(i, o.set i q), le_head ?_, ⟨by simp only; omega, by simp [hol], hR⟩, by simp only; omega⟩
                        repeat' constructor
                  · have haf2 : i + 1 = af := by rw [← haf]; unfold aft; rw [if_neg hai]
                    (refine goA ?_; try with_reducible exact trivial)
                    rw [show (i : Int) + 1 = (af : Int) by omega]
                    obtain ⟨B, hB⟩ : ∃ B, F i (o.getD af false) = B := ⟨_, rfl⟩
                    rw [haf, hB] at hR
                    have hFi := (congrFun (congrFun hF i) (o.getD af false)).trans hB
                    unfold infC at hFi
                    rw [haf] at hFi
                    have hod := bools_dropN o af (by omega)
                    by_cases h1 : k = 1
                    · rw [if_pos h1] at hFi
                      have hrw := hrow i (by omega)
                      have hgv : tr.getD i [] = tr[i] := by rw [List.getD_eq_getElem?_getD, List.getElem?_eq_getElem (by omega)]; rfl
                      rw [hgv] at hFi
                      generalize tr[i] = v at *
                      have hho := rHolds v k a b n l (ha h1)
                      rw [fmA_mk] at hho
                      rw [hFi] at hho
                      rw [decide_eq_true h1]
                      conv => whnf
                      (refine goA ?_; try with_reducible exact trivial)
                      (generalize hrq : rowOf _ _ (trA tr) = rq; obtain rfl : rq = [.sl 1 v.length (intsA v)] := hrq.symm.trans (hrw); clear hrq; conv => whnf)
                      (refine call0 [] rfl (fun _ => hho) ?_; rintro r rfl; conv => whnf)
                      (refine goA ?_; try with_reducible exact trivial)
                      refine set_bools (i := i) (o := o) (b := B) (by simp) (by omega) ?_
                      conv => whnf
                      (refine goA ?_; try with_reducible exact trivial)
                      refine ⟨(i, o.set i B), le_head ?_, ⟨by simp only; omega, by simp [hol], hR⟩, by simp only; omega⟩
                      repeat' constructor
                    rw [if_neg h1] at hFi
                    rw [decide_eq_false h1]
                    conv => whnf
                    by_cases h2 : k = 2
                    · rw [if_pos h2] at hFi
                      rw [decide_eq_true h2]
                      have hl1 : 1 ≤ K.length := by have := hk1; have := hk2; omega
                      have hrK0 := rowOf_infs K 0 (by omega)
                      have hlK0 : (K.getD 0 []).length = tr.length := hKK _ (by rw [List.getD_eq_getElem?_getD, List.getElem?_eq_getElem (by omega)]; exact List.getElem_mem _)
                      generalize K.getD 0 [] = K0 at *
                      have hg0 := rowOf_bools K0 i (by omega)
                      have hg0a := rowOf_bools K0 af (by omega)
                      conv => whnf
                      (refine goA ?_; try with_reducible exact trivial)
                      (generalize hrq : rowOf _ _ (infsA K) = rq; obtain rfl : rq = [.sl 1 K0.length (boolsA K0)] := hrq.symm.trans (hrK0); clear hrq; conv => whnf)
                      (refine goA ?_; try with_reducible exact trivial)
                      (generalize hrq : rowOf _ _ (boolsA K0) = rq; obtain rfl : rq = [.v (.bool (K0.getD i false))] := hrq.symm.trans (hg0); clear hrq; conv => whnf)
                      (refine goA ?_; try with_reducible exact trivial)
                      rw [hFi]
                      refine set_bools (i := i) (o := o) (b := B) (by simp) (by omega) ?_
                      conv => whnf
                      (refine goA ?_; try with_reducible exact trivial)
                      refine ⟨(i, o.set i B), le_head ?_, ⟨by simp only; omega, by simp [hol], hR⟩, by simp only; omega⟩
                      repeat' constructor
                    rw [if_neg h2] at hFi
                    rw [decide_eq_false h2]
                    conv => whnf
                    by_cases h5 : k = 5
                    · rw [if_pos h5] at hFi
                      rw [decide_eq_true h5]
                      have hl1 : 1 ≤ K.length := by have := hk1; have := hk2; omega
                      have hrK0 := rowOf_infs K 0 (by omega)
                      have hlK0 : (K.getD 0 []).length = tr.length := hKK _ (by rw [List.getD_eq_getElem?_getD, List.getElem?_eq_getElem (by omega)]; exact List.getElem_mem _)
                      generalize K.getD 0 [] = K0 at *
                      have hg0 := rowOf_bools K0 i (by omega)
                      have hg0a := rowOf_bools K0 af (by omega)
                      conv => whnf
                      (refine goA ?_; try with_reducible exact trivial)
                      (generalize hrq : rowOf _ _ (infsA K) = rq; obtain rfl : rq = [.sl 1 K0.length (boolsA K0)] := hrq.symm.trans (hrK0); clear hrq; conv => whnf)
                      (refine goA ?_; try with_reducible exact trivial)
                      (generalize hrq : rowOf _ _ (boolsA K0) = rq; obtain rfl : rq = [.v (.bool (K0.getD af false))] := hrq.symm.trans (hg0a); clear hrq; conv => whnf)
                      (refine goA ?_; try with_reducible exact trivial)
                      rw [hFi]
                      refine set_bools (i := i) (o := o) (b := B) (by simp) (by omega) ?_
                      conv => whnf
                      (refine goA ?_; try with_reducible exact trivial)
                      refine ⟨(i, o.set i B), le_head ?_, ⟨by simp only; omega, by simp [hol], hR⟩, by simp only; omega⟩
                      repeat' constructor
                    rw [if_neg h5] at hFi
                    rw [decide_eq_false h5]
                    conv => whnf
                    by_cases h7 : k = 7
                    · rw [if_pos h7] at hFi
                      rw [decide_eq_true h7]
                      have hl1 : 1 ≤ K.length := by have := hk1; have := hk2; omega
                      have hrK0 := rowOf_infs K 0 (by omega)
                      have hlK0 : (K.getD 0 []).length = tr.length := hKK _ (by rw [List.getD_eq_getElem?_getD, List.getElem?_eq_getElem (by omega)]; exact List.getElem_mem _)
                      generalize K.getD 0 [] = K0 at *
                      have hg0 := rowOf_bools K0 i (by omega)
                      have hg0a := rowOf_bools K0 af (by omega)
                      conv => whnf
                      (refine goA ?_; try with_reducible exact trivial)
                      (generalize hrq : rowOf _ _ (infsA K) = rq; obtain rfl : rq = [.sl 1 K0.length (boolsA K0)] := hrq.symm.trans (hrK0); clear hrq; conv => whnf)
                      (refine goA ?_; try with_reducible exact trivial)
                      (generalize hrq : rowOf _ _ (boolsA K0) = rq; obtain rfl : rq = [.v (.bool (K0.getD i false))] := hrq.symm.trans (hg0); clear hrq; conv => whnf)
                      cases hx : K0.getD i false with
                      | true =>
                        rw [hx, Bool.true_and] at hFi
                        conv => whnf
                        (refine goA ?_; try with_reducible exact trivial)
                        rw [hod]
                        conv => whnf
                        rw [hFi]
                        (refine goA ?_; try with_reducible exact trivial)
                        refine set_bools (i := i) (o := o) (b := B) (by simp) (by omega) ?_
                        conv => whnf
                        (refine goA ?_; try with_reducible exact trivial)
                        refine ⟨(i, o.set i B), le_head ?_, ⟨by simp only; omega, by simp [hol], hR⟩, by simp only; omega⟩
                        repeat' constructor
                      | false =>
                        rw [hx, Bool.false_and] at hFi
                        subst hFi
                        conv => whnf
                        (refine goA ?_; try with_reducible exact trivial)
                        refine set_bools (i := i) (o := o) (b := false) (by simp) (by omega) ?_
                        conv => whnf
                        (refine goA ?_; try with_reducible exact trivial)
                        refine ⟨(i, o.set i false), le_head ?_, ⟨by simp only; omega, by simp [hol], hR⟩, by simp only; omega⟩
                        repeat' constructor
                    rw [if_neg h7] at hFi
                    rw [decide_eq_false h7]
                    conv => whnf
                    by_cases h8 : k = 8
                    · rw [if_pos h8] at hFi
                      rw [decide_eq_true h8]
                      have hl1 : 1 ≤ K.length := by have := hk1; have := hk2; omega
                      have hrK0 := rowOf_infs K 0 (by omega)
                      have hlK0 : (K.getD 0 []).length = tr.length := hKK _ (by rw [List.getD_eq_getElem?_getD, List.getElem?_eq_getElem (by omega)]; exact List.getElem_mem _)
                      generalize K.getD 0 [] = K0 at *
                      have hg0 := rowOf_bools K0 i (by omega)
                      have hg0a := rowOf_bools K0 af (by omega)
                      conv => whnf
                      (refine goA ?_; try with_reducible exact trivial)
                      (generalize hrq : rowOf _ _ (infsA K) = rq; obtain rfl : rq = [.sl 1 K0.length (boolsA K0)] := hrq.symm.trans (hrK0); clear hrq; conv => whnf)
                      (refine goA ?_; try with_reducible exact trivial)
                      (generalize hrq : rowOf _ _ (boolsA K0) = rq; obtain rfl : rq = [.v (.bool (K0.getD i false))] := hrq.symm.trans (hg0); clear hrq; conv => whnf)
                      cases hx : K0.getD i false with
                      | false =>
                        rw [hx, Bool.false_or] at hFi
                        conv => whnf
                        (refine goA ?_; try with_reducible exact trivial)
                        rw [hod]
                        conv => whnf
                        rw [hFi]
                        (refine goA ?_; try with_reducible exact trivial)
                        refine set_bools (i := i) (o := o) (b := B) (by simp) (by omega) ?_
                        conv => whnf
                        (refine goA ?_; try with_reducible exact trivial)
                        refine ⟨(i, o.set i B), le_head ?_, ⟨by simp only; omega, by simp [hol], hR⟩, by simp only; omega⟩
                        repeat' constructor
                      | true =>
                        rw [hx, Bool.true_or] at hFi
                        subst hFi
                        conv => whnf
                        (refine goA ?_; try with_reducible exact trivial)
                        refine set_bools (i := i) (o := o) (b := true) (by simp) (by omega) ?_
                        conv => whnf
                        (refine goA ?_; try with_reducible exact trivial)
                        refine ⟨(i, o.set i true), le_head ?_, ⟨by simp only; omega, by simp [hol], hR⟩, by simp only; omega⟩
                        repeat' constructor
                    rw [if_neg h8] at hFi
                    rw [decide_eq_false h8]
                    conv => whnf
                    by_cases h6 : k = 6
                    · rw [if_pos h6] at hFi
                      rw [decide_eq_true h6]
                      have hK1 : 2 ≤ K.length := by have := hk2; omega
                      have hrK1 := rowOf_infs K 1 (by omega)
                      have hlK1 : (K.getD 1 []).length = tr.length := hKK _ (by rw [List.getD_eq_getElem?_getD, List.getElem?_eq_getElem (by omega)]; exact List.getElem_mem _)
                      have hl1 : 1 ≤ K.length := by have := hk1; have := hk2; omega
                      have hrK0 := rowOf_infs K 0 (by omega)
                      have hlK0 : (K.getD 0 []).length = tr.length := hKK _ (by rw [List.getD_eq_getElem?_getD, List.getElem?_eq_getElem (by omega)]; exact List.getElem_mem _)
                      generalize K.getD 0 [] = K0 at *
                      have hg0 := rowOf_bools K0 i (by omega)
                      have hg0a := rowOf_bools K0 af (by omega)
                      generalize K.getD 1 [] = K1 at *
                      have hg1 := rowOf_bools K1 i (by omega)
                      conv => whnf
                      (refine goA ?_; try with_reducible exact trivial)
                      (generalize hrq : rowOf _ _ (infsA K) = rq; obtain rfl : rq = [.sl 1 K1.length (boolsA K1)] := hrq.symm.trans (hrK1); clear hrq; conv => whnf)
                      (refine goA ?_; try with_reducible exact trivial)
                      (generalize hrq : rowOf _ _ (boolsA K1) = rq; obtain rfl : rq = [.v (.bool (K1.getD i false))] := hrq.symm.trans (hg1); clear hrq; conv => whnf)
                      cases hx : K1.getD i false with
                      | true =>
                        rw [hx, Bool.true_or] at hFi
                        subst hFi
                        conv => whnf
                        (refine goA ?_; try with_reducible exact trivial)
                        refine set_bools (i := i) (o := o) (b := true) (by simp) (by omega) ?_
                        conv => whnf
                        (refine goA ?_; try with_reducible exact trivial)
                        refine ⟨(i, o.set i true), le_head ?_, ⟨by simp only; omega, by simp [hol], hR⟩, by simp only; omega⟩
                        repeat' constructor
                      | false =>
                        rw [hx, Bool.false_or] at hFi
                        conv => whnf
                        (refine goA ?_; try with_reducible exact trivial)
                        (generalize hrq : rowOf _ _ (infsA K) = rq; obtain rfl : rq = [.sl 1 K0.length (boolsA K0)] := hrq.symm.trans (hrK0); clear hrq; conv => whnf)
                        (refine goA ?_; try with_reducible exact trivial)
                        (generalize hrq : rowOf _ _ (boolsA K0) = rq; obtain rfl : rq = [.v (.bool (K0.getD i false))] := hrq.symm.trans (hg0); clear hrq; conv => whnf)
                        cases hx0 : K0.getD i false with
                        | true =>
                          rw [hx0, Bool.true_and] at hFi
                          conv => whnf
                          (refine goA ?_; try with_reducible exact trivial)
                          rw [hod]
                          conv => whnf
                          rw [hFi]
                          (refine goA ?_; try with_reducible exact trivial)
                          refine set_bools (i := i) (o := o) (b := B) (by simp) (by omega) ?_
                          conv => whnf
                          (refine goA ?_; try with_reducible exact trivial)
                          refine ⟨(i, o.set i B), le_head ?_, ⟨by simp only; omega, by simp [hol], hR⟩, by simp only; omega⟩
                          repeat' constructor
                        | false =>
                          rw [hx0, Bool.false_and] at hFi
                          subst hFi
                          conv => whnf
                          (refine goA ?_; try with_reducible exact trivial)
                          refine set_bools (i := i) (o := o) (b := false) (by simp) (by omega) ?_
                          conv => whnf
                          (refine goA ?_; try with_reducible exact trivial)
                          refine ⟨(i, o.set i false), le_head ?_, ⟨by simp only; omega, by simp [hol], hR⟩, by simp only; omega⟩
                          repeat' constructor
                    rw [if_neg h6] at hFi
                    rw [decide_eq_false h6]
                    conv => whnf
                    by_cases h3 : k = 3
                    · rw [if_pos h3] at hFi
                      rw [decide_eq_true h3]
                      conv => whnf
                      (refine goA ?_; try with_reducible exact trivial)
                      refine set_bools (i := i) (o := o) (b := true) (by simp) (by omega) ?_
                      conv => whnf
                      (refine goA ?_; try with_reducible exact trivial)
                      refine loop_keep [1, 2, 3, 7, 8, 10, 12, 13] ?_
                      conv => whnf
                      refine loop_goQ (fun x : Nat × Bool => [(15, .v (.int .i64 x.1))]) (fun _ => [[intA k, intA a, intA b, intA n, .sl 5 l.length (fmsA l)]]) (fun x => [.pub 1 l.length (infsA K), .live 4 1 tr.length (boolsA (o.set i x.2))]) (fun x => x.1 ≤ K.length ∧ (and x.2 ((K.drop x.1).all fun l => l.getD i false)) = B) (fun x => K.length - x.1) (0, true) ?_ ⟨Nat.zero_le _, by simp only [List.drop_zero]; simpa using hFi⟩ ?_
                      · unfold headQ
                        repeat' constructor
                      · rintro ⟨j, q⟩ ⟨hj, hinv⟩
                        simp only at hj hinv
                        conv => whnf
                        by_cases hjk : j < K.length
                        · have hrK0 := rowOf_infs K j hjk
                          have hlK0 : (K.getD j []).length = tr.length := hKK _ (by rw [List.getD_eq_getElem?_getD, List.getElem?_eq_getElem (by omega)]; exact List.getElem_mem _)
                          rw [List.drop_eq_getElem_cons hjk, show K[j] = K.getD j [] by rw [List.getD_eq_getElem?_getD, List.getElem?_eq_getElem hjk]; rfl] at hinv
                          simp only [List.all_cons] at hinv
                          generalize K.getD j [] = K0 at *
                          have hg0 := rowOf_bools K0 i (by omega)
                          have hos : (o.set i q).getD i false = q := by rw [List.getD_eq_getElem?_getD, List.getElem?_set_self (by omega)]; rfl
                          have hsd := bools_dropN (o.set i q) i (by simp; omega)
                          rw [hos] at hsd
                          (refine goA ?_; try with_reducible exact trivial)
                          rw [hsd]
                          conv => whnf
                          cases q with
                          | true =>
                            simp only [Bool.true_and] at hinv
                            conv => whnf
                            (refine goA ?_; try with_reducible exact trivial)
                            (generalize hrq : rowOf _ _ (infsA K) = rq; obtain rfl : rq = [.sl 1 K0.length (boolsA K0)] := hrq.symm.trans (hrK0); clear hrq; conv => whnf)
                            (refine goA ?_; try with_reducible exact trivial)
                            (generalize hrq : rowOf _ _ (boolsA K0) = rq; obtain rfl : rq = [.v (.bool (K0.getD i false))] := hrq.symm.trans (hg0); clear hrq; conv => whnf)
                            (refine goA ?_; try with_reducible exact trivial)
                            refine set_bools (i := i) (o := o.set i true) (b := K0.getD i false) (by simp) (by simp; omega) ?_
                            conv => whnf
                            (refine goA ?_; try with_reducible exact trivial)
                            refine ⟨(j + 1, K0.getD i false), le_head ?_, ⟨hjk, hinv⟩, by simp only; omega⟩
                            repeat' constructor
                            · rw [List.set_set]
                          | false =>
                            simp only [Bool.false_and] at hinv
                            conv => whnf
                            (refine goA ?_; try with_reducible exact trivial)
                            refine set_bools (i := i) (o := o.set i false) (b := false) (by simp) (by simp; omega) ?_
                            conv => whnf
                            (refine goA ?_; try with_reducible exact trivial)
                            refine ⟨(j + 1, false), le_head ?_, ⟨hjk, by simp only [Bool.false_and]; exact hinv⟩, by simp only; omega⟩
                            repeat' constructor
                            · rw [List.set_set]
                        · have e : K.drop j = [] := List.drop_of_length_le (by omega)
                          rw [e] at hinv
                          simp only [List.all_nil, Bool.and_true] at hinv
                          subst hinv
                          (refine goA ?_; try with_reducible exact trivial)
                          refine ⟨(i, o.set i q), le_head ?_, ⟨by simp only; omega, by simp [hol], hR⟩, by simp only; omega⟩
                          repeat' constructor
                    rw [if_neg h3] at hFi
                    rw [decide_eq_false h3]
                    conv => whnf
                    (refine goA ?_; try with_reducible exact trivial)
                    refine set_bools (i := i) (o := o) (b := false) (by simp) (by omega) ?_
                    conv => whnf
                    (refine goA ?_; try with_reducible exact trivial)
                    refine loop_keep [1, 2, 3, 7, 8, 10, 12, 13] ?_
                    conv => whnf
                    refine loop_goQ (fun x : Nat × Bool => [(16, .v (.int .i64 x.1))]) (fun _ => [[intA k, intA a, intA b, intA n, .sl 5 l.length (fmsA l)]]) (fun x => [.pub 1 l.length (infsA K), .live 4 1 tr.length (boolsA (o.set i x.2))]) (fun x => x.1 ≤ K.length ∧ (or x.2 ((K.drop x.1).any fun l => l.getD i false)) = B) (fun x => K.length - x.1) (0, false) ?_ ⟨Nat.zero_le _, by simp only [List.drop_zero]; simpa using hFi⟩ ?_
                    · unfold headQ
                      repeat' constructor
                    · rintro ⟨j, q⟩ ⟨hj, hinv⟩
                      simp only at hj hinv
                      conv => whnf
                      by_cases hjk : j < K.length
                      · have hrK0 := rowOf_infs K j hjk
                        have hlK0 : (K.getD j []).length = tr.length := hKK _ (by rw [List.getD_eq_getElem?_getD, List.getElem?_eq_getElem (by omega)]; exact List.getElem_mem _)
                        rw [List.drop_eq_getElem_cons hjk, show K[j] = K.getD j [] by rw [List.getD_eq_getElem?_getD, List.getElem?_eq_getElem hjk]; rfl] at hinv
                        simp only [List.any_cons] at hinv
                        generalize K.getD j [] = K0 at *
                        have hg0 := rowOf_bools K0 i (by omega)
                        have hos : (o.set i q).getD i false = q := by rw [List.getD_eq_getElem?_getD, List.getElem?_set_self (by omega)]; rfl
                        have hsd := bools_dropN (o.set i q) i (by simp; omega)
                        rw [hos] at hsd
                        (refine goA ?_; try with_reducible exact trivial)
                        rw [hsd]
                        conv => whnf
                        cases q with
                        | false =>
                          simp only [Bool.false_or] at hinv
                          conv => whnf
                          (refine goA ?_; try with_reducible exact trivial)
                          (generalize hrq : rowOf _ _ (infsA K) = rq; obtain rfl : rq = [.sl 1 K0.length (boolsA K0)] := hrq.symm.trans (hrK0); clear hrq; conv => whnf)
                          (refine goA ?_; try with_reducible exact trivial)
                          (generalize hrq : rowOf _ _ (boolsA K0) = rq; obtain rfl : rq = [.v (.bool (K0.getD i false))] := hrq.symm.trans (hg0); clear hrq; conv => whnf)
                          (refine goA ?_; try with_reducible exact trivial)
                          refine set_bools (i := i) (o := o.set i false) (b := K0.getD i false) (by simp) (by simp; omega) ?_
                          conv => whnf
                          (refine goA ?_; try with_reducible exact trivial)
                          refine ⟨(j + 1, K0.getD i false), le_head ?_, ⟨hjk, hinv⟩, by simp only; omega⟩
                          repeat' constructor
                          · rw [List.set_set]
                        | true =>
                          simp only [Bool.true_or] at hinv
                          conv => whnf
                          (refine goA ?_; try with_reducible exact trivial)
                          refine set_bools (i := i) (o := o.set i true) (b := true) (by simp) (by simp; omega) ?_
                          conv => whnf
                          (refine goA ?_; try with_reducible exact trivial)
                          refine ⟨(j + 1, true), le_head ?_, ⟨hjk, by simp only [Bool.true_or]; exact hinv⟩, by simp only; omega⟩
                          repeat' constructor
                          · rw [List.set_set]
                      · have e : K.drop j = [] := List.drop_of_length_le (by omega)
                        rw [e] at hinv
                        simp only [List.any_nil, Bool.or_false] at hinv
                        subst hinv
                        (refine goA ?_; try with_reducible exact trivial)
                        refine ⟨(i, o.set i q), le_head ?_, ⟨by simp only; omega, by simp [hol], hR⟩, by simp only; omega⟩
                        repeat' constructor
            · obtain rfl : r = 2 * tr.length + 2 := by omega
              rw [Nat.sub_self] at hR
              change o = R at hR
              (refine goA ?_; try with_reducible exact trivial)
              rw [hRl, ← hR]
theorem infinite_spec {N : Nat} (hN : N ≤ 1000000000000) (tr : List (List Int)) (lp : Nat) (htr : tr.length ≤ 1000) (hlp : lp < tr.length) : ∀ f, Gd N f → InfSpec tr lp f := Fm.ind fun k a b n l ih hf => by
  have hl : l.length ≤ 1000000000000 := by
    have h2 := hf.n
    rw [nn_mk] at h2
    have := nns_len l
    omega
  refine inf_raw tr lp htr hlp k a b n l hl (fun h => ?_) (fun h => ?_) (fun h => ?_) fun f hm => ih f hm (hf.kid hm)
  · have hw := hf.w
    subst h
    cases hw with
    | var h => exact h
    | un hk => omega
    | jn hk => omega
  · cases hf.w with
    | var => simp at h
    | un _ _ => simp
    | til => simp
    | jn hk => omega
  · subst h
    cases hf.w with
    | un hk => omega
    | til => simp
    | jn hk => omega
end Go.Proofs.YtpjcbadnpknncaaDoor.Vm
/- The parser of formulas: all its functions, at every level. -/
namespace Go.Proofs.YtpjcbadnpknncaaDoor.Vm
open Go.RowKit Go.Shelf
set_option linter.unusedSimpArgs false
set_option linter.unusedVariables false
set_option maxRecDepth 100000
set_option maxHeartbeats 1000000 in
theorem chain_spec {lv : Int} {low : Option Pr} (hlo : LowOk lv low) (hgu : Goes (unG low)) : PSpec 74 lv (chG (unG low) low) := by
  intro ts h
  have hun := unary_spec hlo ts h
  obtain ⟨hlv, hlo⟩ := hlo
  obtain ⟨P, hP⟩ : ∃ P, chG (unG low) low ts = P := ⟨_, rfl⟩
  rw [hP]
  refine specP_of (cx_okP ord74 (fun _ => [0]) 1 (fun ch _ => (pnP P) ch)) (fun _ _ h => h) Tryd.func74 rfl (by kernel_rfl) rfl (by kernel_rfl) ?_
  intro _
  unfold chG at hP
  conv => whnf
  refine callP1 0 [] rfl rfl rfl rfl (fun _ => hun) (fun ch bx' hp => ?_) ?_
  · obtain ⟨x, e, he, hc⟩ := pnP_bad hp
    rw [he] at hP
    exact pnP_mk hP.symm hc
  rintro o r hpo
  obtain ⟨f, r1, he, ho, rfl⟩ := poP_ok hpo
  cases ho
  rw [he] at hP
  simp only at hP
  obtain ⟨g1, g2⟩ := hgu _ _ _ h he
  have hti := fun (hk : isT kUntil r1 = true) => g1.is hk
  have hopen := fun l => open_spec r1 g1.1.pos l
  conv => whnf
  refine call1 0 [] rfl rfl rfl rfl (fun _ => is_spec r1 g1.1.pos kUntil) ?_
  rintro o r ⟨ho, rfl⟩
  cases ho
  cases hR : isT kUntil r1 with
  | false =>
    rw [hR, if_neg (by simp)] at hP
    conv => whnf
    subst hP
    exact ⟨rfl, rfl⟩
  | true =>
    rw [hR, if_pos rfl] at hP
    conv => whnf
    (refine goA ?_; try with_reducible exact trivial)
    rcases hlo with ⟨rfl, rfl⟩ | ⟨p, rfl, hle, gu, gc, gf, su, sc, sf⟩
    · simp only at hP
      refine callP1 0 [] rfl rfl rfl rfl (fun _ => hopen _) (fun ch bx' hp => pnP_mk hP.symm hp.2) ?_
      rintro o r ⟨hbad, _⟩
      omega
    · simp only at hP
      refine callP1 0 [] rfl rfl rfl rfl (fun _ => hopen _) (fun ch bx' hp => absurd hp.1 (by omega)) ?_
      rintro o r ⟨_, ho, rfl⟩
      cases ho
      obtain ⟨q1, q2⟩ := hti hR
      generalize r1.tail = ts1 at *
      conv => whnf
      (refine goA ?_; try with_reducible exact trivial)
      refine callP1 0 [] rfl rfl rfl rfl (fun _ => sc ts1 q1) (fun ch bx' hp => ?_) ?_
      · obtain ⟨x, e, he, hc⟩ := pnP_bad hp
        rw [he] at hP
        exact pnP_mk hP.symm hc
      rintro o r hpo
      obtain ⟨f2, r2, he2, ho, rfl⟩ := poP_ok hpo
      cases ho
      rw [he2] at hP
      simp only at hP
      subst hP
      conv => whnf
      exact ⟨rfl, by rw [fmA_two]; rfl⟩
theorem conj_spec {lv : Int} {op : List Tk → Ps} (hgo : Goes op) (hop : PSpec 74 lv op) : PSpec 58 lv (liF op 3 kAnd) := by
  intro ts h
  have hls := list_spec op 3 kAnd lv 74 hgo hop ts h
  generalize liF op 3 kAnd ts = P at *
  refine specP_of (cx_okP ord0 xs0 1 (fun ch _ => (pnP P) ch)) (fun _ _ h => h) Tryd.func58 rfl (by kernel_rfl) rfl (by kernel_rfl) ?_
  intro _
  conv => whnf
  refine callP1 0 [] rfl rfl rfl rfl (fun _ => hls) (fun ch bx' hp => hp) ?_
  rintro o r hpo
  obtain ⟨f, r1, rfl, ho, rfl⟩ := poP_ok hpo
  cases ho
  conv => whnf
  exact ⟨rfl, rfl⟩
theorem form_spec {lv : Int} {op : List Tk → Ps} (hgo : Goes op) (hop : PSpec 74 lv op) : PSpec 45 lv (foG op) := by
  intro ts h
  have hls := list_spec (liF op 3 kAnd) 4 kOr lv 58 (li_goes hgo) (conj_spec hgo hop) ts h
  unfold foG
  generalize liF (liF op 3 kAnd) 4 kOr ts = P at *
  refine specP_of (cx_okP ord0 xs0 1 (fun ch _ => (pnP P) ch)) (fun _ _ h => h) Tryd.func45 rfl (by kernel_rfl) rfl (by kernel_rfl) ?_
  intro _
  conv => whnf
  refine callP1 0 [] rfl rfl rfl rfl (fun _ => hls) (fun ch bx' hp => hp) ?_
  rintro o r hpo
  obtain ⟨f, r1, rfl, ho, rfl⟩ := poP_ok hpo
  cases ho
  conv => whnf
  exact ⟨rfl, rfl⟩
theorem prG_spec {lv : Int} {low : Option Pr} (hlo : LowOk lv low) (hg : GoesO low) : PSpec 78 lv (prG low).un ∧ PSpec 74 lv (prG low).ch ∧ PSpec 45 lv (prG low).fo :=
  ⟨unary_spec hlo, chain_spec hlo (un_goes hg), form_spec (ch_goes (un_goes hg) hg) (chain_spec hlo (un_goes hg))⟩
theorem pr_spec : ∀ d : Nat, d ≤ 20 → PSpec 78 (20 - d : Int) (pr d).un ∧ PSpec 74 (20 - d : Int) (pr d).ch ∧ PSpec 45 (20 - d : Int) (pr d).fo
  | 0, _ => prG_spec ⟨by decide, .inl ⟨rfl, rfl⟩⟩ fun p h => by cases h
  | d + 1, h => by
    have ih := pr_spec d (by omega)
    have hg := pr_goes d
    rw [show ((20 : Int) - (d : Nat)) = (20 - ((d + 1 : Nat) : Int)) + 1 by omega] at ih
    exact prG_spec ⟨by omega, .inr ⟨_, rfl, by omega, hg.1, hg.2.1, hg.2.2, ih.1, ih.2.1, ih.2.2⟩⟩ fun p h => by cases h; exact hg
end Go.Proofs.YtpjcbadnpknncaaDoor.Vm
/- The tokens that the lexer hands to the parser of formulas; where an error lies. No walk here. -/
namespace Go.Proofs.YtpjcbadnpknncaaDoor.Vm
open Go.RowKit Go.Shelf
set_option linter.unusedSimpArgs false
set_option linter.unusedVariables false
set_option maxRecDepth 100000
theorem isD_le {c : UInt8} (h : isD c = true) : c.toNat - 48 ≤ 9 := by
  simp only [isD, Bool.and_eq_true, decide_eq_true_eq] at h
  omega
theorem numG_nil (n : Nat) : numG n [] = n := rfl
theorem numG_cons (n : Nat) (c : UInt8) (r : List UInt8) : numG n (c :: r) = numG (10 * n + (c.toNat - 48)) r := by kernel_rfl
theorem numG_le (l : List UInt8) : ∀ (n : Nat), allD l = true → numG n l + 1 ≤ (n + 1) * 10 ^ l.length := by
  induction l with
  | nil => intro n _; rw [numG_nil]; simp
  | cons c r ih =>
    intro n h
    simp only [allD, List.all_cons, Bool.and_eq_true] at h
    have := isD_le h.1
    have ih := ih (10 * n + (c.toNat - 48)) h.2
    rw [numG_cons, List.length_cons, Nat.pow_succ]
    refine Nat.le_trans ih ?_
    generalize 10 ^ r.length = p at *
    rw [show (n + 1) * (p * 10) = (10 * n + 10) * p by rw [Nat.mul_comm p 10, ← Nat.mul_assoc]; congr 1; omega]
    exact Nat.mul_le_mul_right _ (by omega)
theorem small_short {l : List UInt8} (h : l.length ≤ 10) : smallD l := fun k hk hd => by
  have h1 := numG_le _ 0 hd
  have h2 : (l.take k).length ≤ 10 := by rw [List.length_take]; omega
  have h3 : 10 ^ (l.take k).length ≤ 10 ^ 10 := Nat.pow_le_pow_right (by decide) h2
  have h4 : (10 : Nat) ^ 10 = 10000000000 := by decide
  omega
theorem small_nodig {c : UInt8} {r : List UInt8} (h : isD c = false) : smallD (c :: r) := fun k hk hd => by
  cases k with
  | zero => rw [List.take_zero, numG_nil]; decide
  | succ k =>
    simp only [List.take_succ_cons, allD, List.all_cons, h, Bool.false_and] at hd
    cases hd
theorem numG_valF : ∀ (l : List UInt8) (n : Nat) (k : Nat), 0 ≤ valF n l → allD l = true → n ≤ 2147483647 → numG n (l.take k) ≤ 2147483647
  | [], n, k, _, _, hn => by rw [List.take_nil, numG_nil]; exact hn
  | c :: r, n, k, h, hd, hn => by
    simp only [allD, List.all_cons, Bool.and_eq_true] at hd
    have hc := hd.1
    simp only [isD, Bool.and_eq_true, decide_eq_true_eq] at hc
    rw [valF] at h
    split at h
    · omega
    · rename_i hv
      cases k with
      | zero => rw [List.take_zero, numG_nil]; exact hn
      | succ k =>
        rw [List.take_succ_cons, numG_cons]
        have e : (((10 * n + (c.toNat - 48) : Nat)) : Int) = 10 * (n : Int) + c.toNat - 48 := by omega
        refine numG_valF r (10 * n + (c.toNat - 48)) k ?_ hd.2 (by omega)
        rw [e]; exact h
theorem allD_span : ∀ r : List UInt8, allD (r.take (spanN isD r)) = true
  | [] => rfl
  | c :: r => by
    rw [spanN]
    cases h : isD c with
    | false => rfl
    | true =>
      simp only [List.take_succ_cons, allD, List.all_cons, h, Bool.true_and]
      exact allD_span r
theorem isL_D {c : UInt8} (h : isL c = true) : isD c = false := by
  simp only [isL, Bool.and_eq_true, decide_eq_true_eq] at h
  simp only [isD, Bool.and_eq_false_iff, decide_eq_false_iff_not]
  right; omega
theorem cut_size (s : ByteArray) : (cutF s).1.size ≤ s.size := by
  cases h : s.data.toList with
  | nil => rw [cutF_nil h]; exact Nat.le_refl _
  | cons c r =>
    have hl := size_len s
    rw [h, List.length_cons] at hl
    by_cases hc : c = 118
    · subst hc
      rw [cutF_v h, bs_size]; omega
    · rw [cutF_no h hc]; exact Nat.le_refl _
theorem cut_short {s : ByteArray} (h : s.size ≤ 10) : smallD (cutF s).1.data.toList := by
  have h1 := cut_size s
  have h2 := size_len (cutF s).1
  exact small_short (by omega)
theorem tok_small {l : List UInt8} {k : Int} {len : Nat} {n : Int} (h : tokF l = .tok k len n) : smallD (cutF (bs (l.take len))).1.data.toList := by
  have hle := tokF_len h
  have hsz : (bs (l.take len)).size = len := take_size l len hle.2
  cases l with
  | nil => simp [tokF] at h
  | cons c r =>
    cases hL : isL c
    · cases hD : isD c
      · refine cut_short ?_
        cases h3 : hasF twos (bs ((c :: r).take 2))
        · cases h4 : hasF ones (bs [c])
          · simp only [tokF, hL, hD, h3, h4] at h
            cases h
          · simp only [tokF, hL, hD, h3, h4] at h
            cases h; omega
        · simp only [tokF, hL, hD, h3] at h
          cases h; omega
      · simp only [tokF, hL, hD] at h
        split at h
        · cases h
        · rename_i hv
          cases h
          have hc : c ≠ 118 := fun e => by subst e; simp [isD] at hD; 
          have hlist : (bs ((c :: r).take (spanN isD r + 1))).data.toList = c :: r.take (spanN isD r) := by rw [bs_list, List.take_succ_cons]
          rw [cutF_no hlist hc, hlist]
          intro j hj hd
          have h0 : allD (c :: r.take (spanN isD r)) = true := by
            simp only [allD, List.all_cons, hD, Bool.true_and]
            exact allD_span r
          have := numG_valF (c :: r.take (spanN isD r)) 0 j (by simpa using hv) h0 (by omega)
          omega
    · simp only [tokF, hL] at h
      split at h
      · cases h
      · cases h
        exact cut_short (by omega)
theorem lexG_small : ∀ (f p : Nat) (l : List UInt8), ∀ t ∈ (lexG f p l).toks, smallD (cutF t.text).1.data.toList
  | 0, p, l => by simp [lexG]
  | f + 1, p, [] => by simp [lexG]
  | f + 1, p, c :: r => by
    rw [lexG]
    split
    · exact lexG_small f _ _
    · split
      · exact lexG_small f _ _
      · cases ht : tokF (c :: r) with
        | bad e => simp
        | tok k len n =>
          intro t hm
          simp only [Lx.cons, List.mem_cons] at hm
          rcases hm with rfl | hm
          · exact tok_small ht
          · exact lexG_small f _ _ t hm
theorem tkW_mk {e : Tk} (he : tkGood e ∧ e.kind = 0 ∧ e.text.data.toList = []) : ∀ l : List Tk, (∀ t ∈ l, tkGood t ∧ t.kind ≠ 0) → TkW (l ++ [e])
  | [], _ => ⟨he.1, .inl ⟨rfl, he.2⟩⟩
  | t :: l, h => ⟨(h t (by simp)).1, .inr ⟨(h t (by simp)).2, tkW_mk he l fun x hx => h x (by simp [hx])⟩⟩
theorem row_tkB {s : ByteArray} (hs : s.size ≤ 3000) (he : (lexF' s).err = none) : TkB (rowT s) := by
  rw [rowT_none he]
  have hl := size_len s
  have hlen := (lexG_ok (s.data.toList.length + 1) 0 s.data.toList).1
  refine ⟨tkW_mk ⟨⟨?_, ?_, ?_, ?_⟩, rfl, rfl⟩ _ fun t ht => ?_, ?_⟩
  · show (⟨#[]⟩ : ByteArray).size ≤ _; decide
  · exact cut_short (by show (⟨#[]⟩ : ByteArray).size ≤ _; decide)
  · exact Nat.le_trans (cut_size _) (by show (⟨#[]⟩ : ByteArray).size ≤ _; decide)
  · exact ⟨by show (0 : Int) ≤ 0; decide, by show (0 : Int) ≤ _; decide, by show s.size ≤ _; omega⟩
  · have h1 := lexG_tk (s.data.toList.length + 1) 0 s.data.toList (by omega) t ht
    exact ⟨⟨h1.2.2.1, lexG_small _ _ _ t ht, Nat.le_trans (cut_size _) h1.2.2.1, h1.2.2.2.1, h1.2.2.2.2, h1.2.1⟩, by have := h1.1.1; omega⟩
  · have : (lexF' s).toks.length ≤ s.data.toList.length := hlen
    simp only [List.length_append, List.length_cons, List.length_nil]
    omega
/-! ### Where an error lies -/
def Sane : Ps → Prop
  | .bad x e => (0 ≤ x ∧ x ≤ 1000000000) ∧ 0 < e ∧ e ≤ 100
  | _ => True
def SaneO (op : List Tk → Ps) : Prop := ∀ ts, TkB ts → Sane (op ts)
theorem TkB.pos {ts : List Tk} (h : TkB ts) : (hd ts).pos ≤ 1000000000 := h.1.good.2.2.2.2.2
theorem sane_bad {ts : List Tk} (h : TkB ts) {e : Int} (he : 0 < e ∧ e ≤ 100) : Sane (.bad (hd ts).pos e) := ⟨⟨by omega, by have := h.pos; omega⟩, he⟩
theorem cmp_sane : SaneO cmpF := fun ts h => by
  have hb := fun (t2 : List Tk) (h2 : TkB t2) => sane_bad h2 (e := 10) (by decide)
  unfold cmpF
  split
  · exact hb _ h
  · rename_i hF
    split
    · exact hb _ h
    · split
      · exact sane_bad h (by decide)
      · have hk0 : (hd ts).kind ≠ 0 := fun h0 => by
          have := (h.1.end' h0).1
          unfold cutF at hF
          rw [this] at hF
          exact hF rfl
        obtain ⟨h1, l1⟩ := h.tail hk0
        split
        · exact hb _ h1
        · rename_i hi
          obtain ⟨h2, l2⟩ : TkB ts.tail.tail ∧ ts.tail.tail.length + 1 = ts.tail.length := by
            rcases idxS_rng ts.tail cmpTs 0 (by omega) with h2 | ⟨_, _, s, hs⟩
            · omega
            · exact h1.is hs
          have h3 : TkB (signF ts.tail.tail).2 := by
            unfold signF
            split
            · rename_i hm
              exact (h2.is hm).1
            · exact h2
          split
          · exact hb _ h3
          · trivial
def SanO (low : Option Pr) : Prop := ∀ p, low = some p → SaneO p.un ∧ SaneO p.ch ∧ SaneO p.fo
theorem un_sane {low : Option Pr} (hg : GoesO low) (hl : SanO low) : SaneO (unG low) := fun ts h => by
  unfold unG
  split
  · rename_i k hk
    obtain ⟨h1, l1⟩ := h.tail (un_kind h hk)
    split
    · exact sane_bad h (by decide)
    · rename_i p
      have := (hl p rfl).1 _ h1
      split
      · trivial
      · rename_i x e he
        rw [he] at this; exact this
  · split
    · trivial
    · split
      · rename_i hp
        obtain ⟨h1, l1⟩ := h.is hp
        split
        · exact sane_bad h (by decide)
        · rename_i p
          have := (hl p rfl).2.2 _ h1
          split
          · rename_i f' r' he
            obtain ⟨h2, l2⟩ := (hg p rfl).2.2 _ _ _ h1 he
            split
            · trivial
            · exact sane_bad h2 (by decide)
          · rename_i x e he
            rw [he] at this; exact this
      · exact cmp_sane ts h
theorem ch_sane {un : List Tk → Ps} {low : Option Pr} (hu : Goes un) (hs : SaneO un) (hl : SanO low) : SaneO (chG un low) := fun ts h => by
  unfold chG
  have h0 := hs ts h
  split
  · rename_i x e he
    rw [he] at h0; exact h0
  · rename_i f1 r1 he
    obtain ⟨h1, l1⟩ := hu _ _ _ h he
    split
    · rename_i hq
      obtain ⟨h2, l2⟩ := h1.is hq
      split
      · exact sane_bad h1 (by decide)
      · rename_i p
        have := (hl p rfl).2.1 _ h2
        split
        · trivial
        · rename_i x e he2
          rw [he2] at this; exact this
    · trivial
def SaneL : Lr → Prop
  | .bad x e => (0 ≤ x ∧ x ≤ 1000000000) ∧ 0 < e ∧ e ≤ 100
  | _ => True
theorem liGo_sane {op : List Tk → Ps} {sign : ByteArray} (hg : Goes op) (ho : SaneO op) : ∀ (n : Nat) (acc : List Fm) (ts : List Tk), TkB ts → SaneL (liGo op sign n acc ts)
  | 0, acc, ts, h => by rw [liGo]; trivial
  | n + 1, acc, ts, h => by
    rw [liGo]
    split
    · rename_i hs
      obtain ⟨h1, l1⟩ := h.is hs
      have := ho _ h1
      split
      · rename_i f r1 he
        exact liGo_sane hg ho n _ _ (hg _ _ _ h1 he).1
      · rename_i x e he
        rw [he] at this; exact this
    · trivial
theorem finL_sane {kind : Int} {x : Lr} (h : SaneL x) : Sane (finL kind x) := by
  unfold finL
  split
  · exact h
  · trivial
  · trivial
theorem li_sane {op : List Tk → Ps} {kind : Int} {sign : ByteArray} (hg : Goes op) (ho : SaneO op) : SaneO (liF op kind sign) := fun ts h => by
  unfold liF
  have h0 := ho ts h
  split
  · rename_i x e he
    rw [he] at h0; exact h0
  · rename_i f1 r1 he
    exact finL_sane (liGo_sane hg ho _ _ _ (hg _ _ _ h he).1)
theorem prG_sane {low : Option Pr} (hg : GoesO low) (hl : SanO low) : SaneO (prG low).un ∧ SaneO (prG low).ch ∧ SaneO (prG low).fo :=
  ⟨un_sane hg hl, ch_sane (un_goes hg) (un_sane hg hl) hl, li_sane (li_goes (ch_goes (un_goes hg) hg)) (li_sane (ch_goes (un_goes hg) hg) (ch_sane (un_goes hg) (un_sane hg hl) hl))⟩
theorem pr_sane : ∀ d, SaneO (pr d).un ∧ SaneO (pr d).ch ∧ SaneO (pr d).fo
  | 0 => prG_sane (fun p h => by cases h) (fun p h => by cases h)
  | d + 1 => prG_sane (fun p h => by cases h; exact pr_goes d) (fun p h => by cases h; exact pr_sane d)
end Go.Proofs.YtpjcbadnpknncaaDoor.Vm
/- Deferred calls; what a recovered panic leaves. -/
namespace Go.Proofs.YtpjcbadnpknncaaDoor.Vm
open Go.RowKit
set_option linter.unusedSimpArgs false
set_option linter.unusedVariables false
/-- A deferred call that finds its frame so, and leaves it so. -/
def ClD (P : Program) (f : Nat) (u u' : FrameMode) : Array Value → World → (Ending → World → Prop) → Prop := fun vs w R => CallsD P f vs u w fun e m w' => m = u' ∧ R e w'
theorem ClD.mono {P : Program} {f : Nat} {u u' : FrameMode} {vs : Array Value} {w : World} {R R' : Ending → World → Prop} (h : ∀ e w', R e w' → R' e w') (k : ClD P f u u' vs w R) : ClD P f u u' vs w R' :=
  CallsD.mono k fun e m w' ⟨h1, h2⟩ => ⟨h1, h _ _ h2⟩
@[irreducible] def DfrW (P : Program) (u u' : FrameMode) (f : Nat) (args : List A) (s : S) (K : S → Prop) : Prop :=
  (∀ vs w, (callFunc f vs).run P w = .ok (.enter f vs) w) ∧
  ∃ (X ids : List Nat) (ins : List (List A)) (args' : List A) (post : List (List A) → A → Prop), X.Nodup ∧ (∀ i ∈ X, i < s.bx.length) ∧
    renLL X (pubRows s.rw ids) (X.map fun i => s.bx.getD i []) = some ins ∧ renL X (pubRows s.rw ids) args = some args' ∧ (okL args' → SpecX (ClD P f u u') ins args' post fun _ => False) ∧
    ∀ outs r, post outs r → outs.length = X.length → outK X s.bx X outs fun bx' => force (back X r) fun _ => forceR (pubRows s.rw ids) fun rw' => withBR s bx' rw' K
/-- The way out: the deferred calls, then what is handed back. -/
def leaveK (c : Cx) (rv : List ResultVar) (post : List (List A) → A → Prop) : List (Nat × List A) → FrameMode → S → Prop
  | [], .returning, s => retK c rv post s
  | [], _, _ => False
  | (f, args) :: r, u, s => u ≠ .run ∧ ∃ u', DfrW c.P u u' f args s fun s' => leaveK c rv post r (settle u') s'
section
variable {c : Cx} {w0 : World} {C0 : Rd} {β0 : List Nat}
theorem leaves_ok {fn : Func} {post : List (List A) → A → Prop} {R : Ending → World → Prop} {tmps : Array Value} (hfin : ∀ s' w', retK c fn.results.toList post s' → Inv [] w0 C0 β0 s' { tmps := tmps, defers := [] } w' → ∃ v, (results fn tmps).run c.P w' = .ok v w' ∧ R (.returned v) w') :
    ∀ (dr : List (Nat × List A)) (ds : List Deferred) (u : FrameMode) (s : S) (E : Env) (w : World), repD dr E ds → Hp w0 C0 β0 s.bx s.rw w E → A.repL s.t E tmps.toList → leaveK c fn.results.toList post dr u s → Leaves c.P fn tmps R ds u w
  | [], ds, u, s, E, w, hd, hp, ht, h => by
    obtain rfl : ds = [] := hd
    cases u with
    | returning => exact hfin s w h ⟨E, hp, ht, rfl⟩
    | run => exact h.elim
    | panicking ch => exact h.elim
  | (f, args) :: r, ds, u, s, E, w, ⟨d, ds', cap, hds, htg, hargs, hrest⟩, hp, ht, h => by
    subst hds
    obtain ⟨hu, u', h⟩ := h
    unfold DfrW at h
    obtain ⟨hcall, X, ids, ins, args', post', hn, hX, hins, hargs', hspec, hk⟩ := h
    have hcx := call_okX (pan := fun _ _ => False) (Xr := fun _ => true) (K := fun _ s' => leaveK c fn.results.toList post r (settle u') s') (Cl := ClD c.P f u u') ClD.mono hp hargs hn (fun _ _ => rfl) hX hins hargs' hspec (fun outs r hp hl => hk outs r hp hl) (fun ch bx' h _ _ => h.elim)
    obtain ⟨t, da⟩ := d
    simp only at htg hargs hcx
    subst htg
    refine leaves_cons (f := f) (args := da ++ cap) hu (by simp [invoke, hcall]) ?_
    have hcx' : CallsD c.P f (da ++ cap) u w fun e m w' => m = u' ∧ ((∃ y, e = .returned y ∧ Left w0 C0 β0 (fun _ => true) s E w (fun _ s' => leaveK c fn.results.toList post r (settle u') s') y w') ∨ ∃ (ch : List PanicEntry) (s' : S) (E' : Env), e = .panicked ch ∧ False ∧ s'.t = s.t ∧ E.le E' ∧ Hp w0 C0 β0 s'.bx s'.rw w' E') := hcx
    refine CallsD.mono hcx' ?_
    rintro e m w' ⟨rfl, ⟨y, rfl, ⟨⟨r0, s', E', h1, h2, h3, h4, h5, _⟩⟩⟩ | ⟨ch, s', E', _, h, _⟩⟩
    · exact leaves_ok hfin r ds' _ s' E' w' (hrest.mono h3) h4 (by rw [h2]; exact A.repL.mono _ h3 ht) h1
    · exact h.elim
/-- A piece of code from which what is deferred may grow. -/
@[irreducible] def OkT (P : Program) (np : Nat) (pt : List (Nat × List A) → List PanicEntry → S → Prop) (qt : List (Nat × List A) → Exit → S → Prop) (dr : List (Nat × List A)) (x : Code) (s : S) : Prop :=
  ∀ (w0 : World) (C0 : Rd) (β0 : List Nat) (a : Act) (w : World) (Q : Exit → Act → World → Prop), β0.length = np → Inv dr w0 C0 β0 s a w → (∀ dr' ch s' a' w', pt dr' ch s' → Inv dr' w0 C0 β0 s' a' w' → Q (.panic ch) a' w') → (∀ dr' e s' a' w', qt dr' e s' → Inv dr' w0 C0 β0 s' a' w' → Q e a' w') → x.wp P Q a w
def tQ (P : Program) (np : Nat) (pt : List (Nat × List A) → List PanicEntry → S → Prop) (qt : List (Nat × List A) → Exit → S → Prop) (dr : List (Nat × List A)) (y : Code) (e : Exit) (s : S) : Prop := match e with
  | .normal => OkT P np pt qt dr y s
  | e => qt dr e s
variable {pt : List (Nat × List A) → List PanicEntry → S → Prop} {qt : List (Nat × List A) → Exit → S → Prop} {dr : List (Nat × List A)} {s : S}
theorem okT_last {x : Code} (hc : c.ok) (hdr : ∃ n, refsD n dr = true) (hl : refsD c.np dr = true ∨ noLoop x = true) (ho : ordOk c.ord x = true) (hp : ∀ ch s', c.pan ch s' → pt dr ch s') (h : awp c x s (qt dr)) : OkT c.P c.np pt qt dr x s := by
  unfold OkT
  exact fun w0 C0 β0 a w Q hn hi hx hk => awp_ok hc hn hdr x hl (fun ch s' a' w' h1 h2 => hx dr ch s' a' w' (hp ch s' h1) h2) ho hi h fun e s' a' w' h1 h2 => hk dr e s' a' w' h1 h2
theorem okT_step {x y : Code} (hc : c.ok) (hdr : ∃ n, refsD n dr = true) (hl : refsD c.np dr = true ∨ noLoop x = true) (ho : ordOk c.ord x = true) (hp : ∀ ch s', c.pan ch s' → pt dr ch s') (h : awp c x s (tQ c.P c.np pt qt dr y)) : OkT c.P c.np pt qt dr (.seq x y) s := by
  unfold OkT
  intro w0 C0 β0 a w Q hn hi hx hk
  refine wp_seq (awp_ok hc hn hdr x hl (fun ch s' a' w' h1 h2 => hx dr ch s' a' w' (hp ch s' h1) h2) ho hi h fun e s' a' w' h1 h2 => ?_)
  cases e with
  | normal =>
    have h1 : OkT c.P c.np pt qt dr y s' := h1
    unfold OkT at h1
    exact h1 w0 C0 β0 a' w' Q hn h2 hx hk
  | _ => exact hk dr _ _ _ _ h1 h2
/-- What a deferred call is called with. -/
def dfrK (s : S) (fo : Operand) (xs : List Operand) (K : Nat → List A → Prop) : Prop := match ev s fo with
  | .clo f caps => K f (xs.map (ev s) ++ caps)
  | .bm f fs => K f (fs ++ xs.map (ev s))
  | _ => False
theorem seq_ok2 {ops l2 : List Oper} {Q : Exit → Act → World → Prop} (hc : c.ok) (hdr : ∃ n, refsD n dr = true) (hx : ∀ ch s' a' w', c.pan ch s' → Inv dr w0 C0 β0 s' a' w' → Q (.panic ch) a' w') : ∀ {l : List Oper} {s : S} {a : Act} {w : World} {K : S → Prop}, Inv dr w0 C0 β0 s a w → aseq c ops l s K → (∀ s' a' w', K s' → Inv dr w0 C0 β0 s' a' w' → wpList c.P ops.toArray Q l2 a' w') → wpList c.P ops.toArray Q (l ++ l2) a w
  | [], s, a, w, K, hi, h, hk => hk s a w h hi
  | o :: r, s, a, w, K, hi, h, hk => by
    obtain ⟨E, hp, ht, hd⟩ := hi
    change wantK ops o s (ado c (fun _ => true) s o fun s' => aseq c ops r s' K) (putK s o.dst (.tup []) fun s' => aseq c ops r s' K) at h
    refine wpList_step fun Kc hKc => ?_
    rcases want_ok ht h with ⟨h1, h2⟩ | ⟨h1, h2⟩
    · rw [if_pos h1]
      exact do_ok hc hdr ⟨E, hp, ht, hd⟩ h2 hx fun s' a' w' h3 h4 => hKc _ _ (seq_ok2 hc hdr hx h4 h3 hk)
    · rw [if_neg (by rw [h1]; simp)]
      obtain ⟨s2, k1, k2, k3, k4, k5⟩ := put_ok (a := a) hp ht hd (rep_undef _) h2
      exact hKc _ _ (seq_ok2 hc hdr hx ⟨E, by rw [k2, k3]; exact hp, k4, k5⟩ k1 hk)
theorem okT_defer {id : Nat} {l : List Oper} {od : Oper} {fo : Operand} {xs : Array Operand} {ts : Array TypeId} {y : Code} (hc : c.ok) (hdr : ∃ n, refsD n dr = true) (hp : ∀ ch s', c.pan ch s' → pt dr ch s') (hop : od.op = .defer ⟨.value fo, xs, ts⟩) (hg : od.guard = none) (hd : od.dst = none)
    (h : aseq c (l ++ [od]) l s fun s' => dfrK s' fo xs.toList fun f args => OkT c.P c.np pt qt ((f, args) :: dr) y s') : OkT c.P c.np pt qt dr (.seq (.region id (l ++ [od]).toArray false) y) s := by
  unfold OkT
  intro w0 C0 β0 a w Q hn hi hx hk
  refine wp_seq (wp_region_lit (seq_ok2 (l2 := [od]) (Q := Exit.then (y.wp c.P Q) Q) hc hdr (fun ch s' a' w' h1 h2 => hx dr ch s' a' w' (hp ch s' h1) h2) hi h fun s' a' w' h1 h2 => ?_))
  refine wpList_step fun Kc hKc => ?_
  rw [if_pos (by simp [Region.wanted, hg])]
  obtain ⟨E, hpp, ht, hdd⟩ := h2
  unfold dfrK at h1
  split at h1
  · rename_i f caps hev
    have hf := ev_rep ht fo
    rw [hev] at hf
    unfold A.rep at hf
    obtain ⟨us, hf, hcaps⟩ := hf
    have hrun : (execOp a'.eval od).run c.P w' = .ok (.defer { target := .fn (.func f) us, args := xs.map a'.eval }) w' := by simp [execOp, hop, resolve, Deferred.ofValue, hf, Result.andThen]
    unfold Oper.wp
    rw [hrun, Oper.upon_defer]
    rw [hd]
    unfold OkT at h1
    refine hKc _ _ (h1 w0 C0 β0 _ w' Q hn ⟨E, hpp, ht, { target := .fn (.func f) us, args := xs.map a'.eval }, a'.defers, us, rfl, rfl, ?_, hdd⟩ hx hk)
    have := A.repL_append (caps_rep ht xs.toList) hcaps
    simpa using this
  · rename_i f fs hev
    have hf := ev_rep ht fo
    rw [hev] at hf
    unfold A.rep at hf
    obtain ⟨us, hf, hcaps⟩ := hf
    have hrun : (execOp a'.eval od).run c.P w' = .ok (.defer { target := .fn (.func f) #[], args := us ++ xs.map a'.eval }) w' := by simp [execOp, hop, resolve, Deferred.ofValue, hf, Result.andThen]
    unfold Oper.wp
    rw [hrun, Oper.upon_defer]
    rw [hd]
    unfold OkT at h1
    refine hKc _ _ (h1 w0 C0 β0 _ w' Q hn ⟨E, hpp, ht, { target := .fn (.func f) #[], args := us ++ xs.map a'.eval }, a'.defers, #[], rfl, rfl, ?_, hdd⟩ hx hk)
    have := A.repL_append hcaps (caps_rep ht xs.toList)
    simpa using this
  · exact h1.elim
/-- The beginning of a call. -/
theorem inv_begin {n : Nat} {ins : List (List A)} {args : List A} {w : World} {C : Rd} {β : List Nat} {vals : List Value} (h0 : Gok C w) (h1 : Sub C (see w)) (h2 : β.Nodup) (h3 : ∀ b ∈ β, ∀ o sp, C ⟨b, o, sp⟩ = none) (h4 : ins.length = β.length)
    (h5 : ∀ (i b : Nat) (cs : List A), β[i]? = some b → ins[i]? = some cs → boxAt w ⟨C, β, []⟩ b cs) (h6 : A.repL args ⟨C, β, []⟩ vals) :
    Inv [] w C β ⟨args ++ List.replicate (n - args.length) .dead, ins, []⟩ { tmps := vals.toArray ++ Array.replicate (n - vals.toArray.size) undef, defers := [] } w := by
  have hl := A.repL_len h6
  refine ⟨⟨C, β, []⟩, ⟨h1, Sub.refl _, fun _ _ hc => .inl hc, ⟨[], by simp, by simp⟩, h2, h3, h4, h5, rfl, fun g r y hg => by simp at hg, fun g e k n cs y b hg => by simp at hg, fun g e k n cs y h' e' k' n' cs' z b _ hg => by simp at hg, fun g y hg => by simp at hg, Keeps.refl _ _, h0⟩, ?_, rfl⟩
  have : (vals.toArray ++ Array.replicate (n - vals.toArray.size) undef).toList = vals ++ List.replicate (n - args.length) undef := by simp [hl]
  rw [this]
  exact A.repL_append h6 (rep_deads _ _)
/-- A function that defers. -/
theorem specT_of {f : Nat} {fn : Func} {x : Code} {ins : List (List A)} {args : List A} {post : List (List A) → A → Prop} (hc : c.ok) (hf : c.P.funcs[f]? = some fn) (hb : fn.body = some x) (hname : (fn.name == "runtime.NumGoroutine") = false)
    (hn : ins.length = c.np) (h : okL args → initK args (fn.ntmps - args.length) fun t => OkT c.P c.np (fun dr ch s => leaveK c fn.results.toList post dr (.panicking ch) s) (fun dr e s => (e = .normal ∨ e = .ret) ∧ leaveK c fn.results.toList post dr .returning s) [] x ⟨t, ins, []⟩) : Spec c.P f ins args post := by
  refine ⟨callable hf hb hname, fun w C β vals h0 h1 h2 h3 h4 h5 h6 => ?_⟩
  refine calls_of_wp_defers hf hb ?_
  have hinit := initK_iff.1 (h (okL_rep _ h6))
  have hinv := inv_begin (n := fn.ntmps) h0 h1 h2 h3 h4 h5 h6
  unfold OkT at hinit
  have hfin : ∀ (tmps : Array Value) (s' : S) (w' : World), retK c fn.results.toList post s' → Inv [] w C β s' { tmps := tmps, defers := [] } w' → ∃ v, (results fn tmps).run c.P w' = .ok v w' ∧ ∃ outs r v', Ending.returned v = .returned v' ∧ post outs r ∧ Keeps β w w' ∧ outs.length = β.length ∧
      (∀ (i b : Nat) (cs : List A), β[i]? = some b → outs[i]? = some cs → boxAt w' ⟨plus C w w', β, []⟩ b cs) ∧ r.rep ⟨plus C w w', β, []⟩ v' := fun tmps s' w' hr hi =>
    (fin_ok (w := w) (C := C) (β := β) (fn := fn) (post := post) hc h1 (by rw [← h4, hn]) hr hi).2
  refine hinit w C β _ w _ (by rw [← h4, hn]) hinv (fun dr ch s' a' w' hl ⟨E, hp, ht, hd⟩ => ?_) (fun dr e s' a' w' hl ⟨E, hp, ht, hd⟩ => ?_)
  · exact leaves_ok (hfin a'.tmps) dr a'.defers _ s' E w' hd hp ht hl
  · obtain ⟨he, hl⟩ := hl
    rcases he with rfl | rfl
    · exact leaves_ok (hfin a'.tmps) dr a'.defers _ s' E w' hd hp ht hl
    · exact leaves_ok (hfin a'.tmps) dr a'.defers _ s' E w' hd hp ht hl
theorem rec_returning {c0 : Frame} {cs : List Frame} (h : c0.mode = .returning) : recoverD (c0 :: cs) = none := by
  simp [recoverD, h]
theorem rec_panicking {c0 : Frame} {cs : List Frame} {v : Value} {older : List PanicEntry} (h : c0.mode = .panicking (⟨v, false, false⟩ :: older)) : recoverD (c0 :: cs) = some (v, { c0 with mode := .panicking (⟨v, true, false⟩ :: older) } :: cs) := by
  simp [recoverD, h]
/-- A deferred function that begins by recovering. -/
theorem recX_of {f id d0 d1 : Nat} {fn : Func} {o0 o1 : Oper} {ts : Array TypeId} {rest : Code} {ins : List (List A)} {args : List A} {post : List (List A) → A → Prop} {u u' : FrameMode} {rv : Value} (hc : c.ok) (hq : ∀ ch s, ¬ c.pan ch s) (hf : c.P.funcs[f]? = some fn) (hb : fn.body = some (.seq (.region id #[o0, o1] false) rest))
    (k0 : o0.op = .call ⟨.builtin .recover, #[], ts⟩ ∧ o0.guard = none ∧ o0.dst = some d0) (k1 : o1.op = .assign (.tmp d0) ∧ o1.guard = none ∧ o1.dst = some d1) (hd0 : d0 < fn.ntmps) (hv : okV rv)
    (hu : (u = .returning ∧ u' = .returning ∧ rv = .nilIface) ∨ ∃ v older, u = .panicking (⟨v, false, false⟩ :: older) ∧ u' = .panicking (⟨v, true, false⟩ :: older) ∧ rv = v)
    (hn : ins.length = c.np) (h : okL args → initK args (fn.ntmps - args.length) fun t => Ok c rest ⟨(t.set d0 (.v rv)).set d1 (.v rv), ins, []⟩ (endK c fn.results.toList post)) : SpecX (ClD c.P f u u') ins args post fun _ => False := by
  intro w C β vals h0 h1 h2 h3 h4 h5 h6
  unfold ClD
  refine callsD_of_wpS hf hb fun c0 cs hu0 => wpS_seq (wpS_region ?_)
  have hinit := initK_iff.1 (h (okL_rep _ h6))
  have hinv := inv_begin (n := fn.ntmps) h0 h1 h2 h3 h4 h5 h6
  have hnp : β.length = c.np := by rw [← h4, hn]
  generalize hA : ({ tmps := vals.toArray ++ Array.replicate (fn.ntmps - vals.toArray.size) undef, defers := [] } : Act) = a0 at *
  have hsz : d0 < a0.tmps.size := by rw [← hA]; simp; omega
  obtain ⟨E, hp, ht, hd⟩ := hinv
  have hi2 : Inv [] w C β ⟨((args ++ List.replicate (fn.ntmps - args.length) A.dead).set d0 (.v rv)).set d1 (.v rv), ins, []⟩ ((a0.put (some d0) rv).put (some d1) rv) w := by
    refine ⟨E, hp, ?_, hd⟩
    show A.repL _ E ((a0.tmps.setIfInBounds d0 rv).setIfInBounds d1 rv).toList
    rw [Array.toList_setIfInBounds, Array.toList_setIfInBounds]
    exact A.repL_set (A.repL_set ht d0 (A.rep_v hv)) d1 (A.rep_v hv)
  have e0 : (execOp a0.eval o0).run c.P w = .ok .recover w := by
    simp [execOp, k0.1, resolve, invoke, Result.andThen]
    rfl
  have ha0 : (a0.put (some d0) rv).tmps.getD d0 undef = rv := by
    show (a0.tmps.setIfInBounds d0 rv).getD d0 undef = rv
    simp [Array.getD_eq_getD_getElem?, hsz]
  have e1 : (execOp (a0.put (some d0) rv).eval o1).run c.P w = .ok (.value rv) w := by
    have : (a0.put (some d0) rv).eval (.tmp d0) = rv := ha0
    simp [execOp, k1.1, this]
  have hrange : List.range (#[o0, o1] : Array Oper).size = [0, 1] := rfl
  rw [hrange]
  have g0 : (#[o0, o1] : Array Oper)[0]? = some o0 := rfl
  have g1 : (#[o0, o1] : Array Oper)[1]? = some o1 := rfl
  have w0' : ∀ y, Region.wanted o0 y = true := fun y => by simp [Region.wanted, k0.2.1]
  have w1' : ∀ y, Region.wanted o1 y = true := fun y => by simp [Region.wanted, k1.2.1]
  simp only [wpOpsS, g0, g1, w0', w1', if_true, e0]
  unfold Ok OkD at hinit
  have fin : ∀ cs', cs' = { c0 with mode := u' } :: cs → rest.wpS c.P (bodyPostS c.P fn c0 cs fun e m w' => m = u' ∧ ((∃ outs r v, e = .returned v ∧ post outs r ∧ Keeps β w w' ∧ outs.length = β.length ∧
      (∀ (i b : Nat) (cs : List A), β[i]? = some b → outs[i]? = some cs → boxAt w' ⟨plus C w w', β, []⟩ b cs) ∧ r.rep ⟨plus C w w', β, []⟩ v) ∨
      ∃ (ch : List PanicEntry) (ns : List Nat), e = .panicked ch ∧ False ∧ Keeps β w w' ∧ ns.length = β.length ∧ ∀ (i b n : Nat), β[i]? = some b → ns[i]? = some n → boxAt w' ⟨C, β, []⟩ b (List.replicate n .dead))) ((a0.put (some d0) rv).put (some d1) rv) cs' w := fun cs' hcs => by
    subst hcs
    refine wpS_of_wp ?_
    refine hinit w C β _ w _ hnp hi2 (fun ch s' _ _ hh _ => absurd hh (hq ch s')) fun e s' a' w' he hi => ?_
    have ff := fun (hr : retK c fn.results.toList post s') => fin_ok (w := w) (C := C) (β := β) (fn := fn) (post := post) hc h1 hnp hr hi
    cases e with
    | normal => obtain ⟨q1, v, q2, q3⟩ := ff he; exact ⟨q1, u', rfl, v, q2, rfl, .inl q3⟩
    | ret => obtain ⟨q1, v, q2, q3⟩ := ff he; exact ⟨q1, u', rfl, v, q2, rfl, .inl q3⟩
    | _ => exact he.elim
  rcases hu with ⟨rfl, rfl, rfl⟩ | ⟨v, older, rfl, rfl, rfl⟩
  · rw [rec_returning hu0]
    simp only [k0.2.2, e1, Oper.upon_value, k1.2.2]
    exact fin _ (by rw [← hu0])
  · rw [rec_panicking hu0]
    simp only [k0.2.2, e1, Oper.upon_value, k1.2.2]
    exact fin _ rfl
end
end Go.Proofs.YtpjcbadnpknncaaDoor.Vm
/- Parse. -/
namespace Go.Proofs.YtpjcbadnpknncaaDoor.Vm
open Go.RowKit Go.Shelf
set_option linter.unusedSimpArgs false
set_option linter.unusedVariables false
set_option maxRecDepth 100000
theorem parse1_ret (f : Fm) : SpecX (ClD Tryd.prog 44 .returning .returning) [fmA f, [intA 0], [intA 0]] [.box 0 0, .box 1 0, .box 2 0] (fun o r => o = [fmA f, [intA 0], [intA 0]] ∧ r = .tup []) fun _ => False := by
  refine recX_of (cx_ok ord44 (fun _ => [0, 1, 2]) 3) (fun _ _ h => h) Tryd.func44 rfl (d0 := 5) (d1 := 3) ⟨rfl, rfl, rfl⟩ ⟨rfl, rfl, rfl⟩ (by decide) (rv := .nilIface) trivial (.inl ⟨rfl, rfl, rfl⟩) rfl ?_
  intro _
  conv => whnf
  refine ok_of_awp (cx_ok _ _ _) (by kernel_rfl) ?_
  conv => whnf
  exact ⟨rfl, rfl⟩
theorem parse1_pan (x e : Int) (hx : 0 ≤ x ∧ x ≤ 1000000000) (he : 0 < e ∧ e ≤ 100) (c0 c1 c2 c3 c4 b1 b2 : A) : SpecX (ClD Tryd.prog 44 (.panicking (failCh x e)) (.panicking [⟨.iface 72 (.agg #[.int .i64 x, .int .i64 e]), true, false⟩])) [[c0, c1, c2, c3, c4], [b1], [b2]] [.box 0 0, .box 1 0, .box 2 0]
    (fun o r => o = [zero5, [intA x], [intA e]] ∧ r = .tup []) fun _ => False := by
  refine recX_of (cx_ok ord44 (fun _ => [0, 1, 2]) 3) (fun _ _ h => h) Tryd.func44 rfl (d0 := 5) (d1 := 3) ⟨rfl, rfl, rfl⟩ ⟨rfl, rfl, rfl⟩ (by decide) (rv := .iface 72 (.agg #[.int .i64 x, .int .i64 e])) trivial (.inr ⟨_, [], rfl, rfl, rfl⟩) rfl ?_
  intro _
  conv => whnf
  refine ok_of_awp (cx_ok _ _ _) (by kernel_rfl) ?_
  conv => whnf
  refine ⟨?_, ?_⟩
  · intro u hu
    simp at hu
    rcases hu with rfl | rfl
    · exact okV_int.2 (i64r (by omega))
    · exact okV_int.2 (i64r (by omega))
  conv => whnf
  exact ⟨rfl, rfl⟩
/-- What Parse comes to. -/
inductive PR where
  | ok (f : Fm)
  | bad (p e : Int)
def parseT (ts : List Tk) : PR := match (pr 20).fo ts with
  | .bad x e => .bad x e
  | .ok f r => if (hd r).kind ≠ 0 then .bad (hd r).pos 10 else .ok f
def parseF (s : ByteArray) : PR := if 3000 < s.size then .bad 3000 2 else match (lexF' s).err with
  | some (p, e) => .bad p e
  | none => parseT (rowT s)
def parR0 : PR → A
  | .ok f => .tup [.agg (fmA f), intA 0, intA 0]
  | .bad x e => .tup [.agg zero5, intA x, intA e]
/-- A parser that fails. -/
def PanS (p : PR) (ch : List PanicEntry) (s : S) : Prop := ∃ (x e : Int) (cs : List A) (bx : List (List A)) (a b : A) (t : List A), p = .bad x e ∧ ((0 ≤ x ∧ x ≤ 1000000000) ∧ 0 < e ∧ e ≤ 100) ∧ ch = failCh x e ∧ s.bx = cs :: [intA 0] :: [intA 0] :: bx ∧ (cs = zero5 ∨ ∃ f, cs = fmA f) ∧ s.t = a :: b :: .box 0 0 :: .box 1 0 :: .box 2 0 :: t ∧ s.rw = []
theorem box4 {l : List (List A)} {a b c d : List A} (h : l.length = 4) (k : ∀ j, j ≠ 3 → l[j]? = [a, b, c, d][j]?) : ∃ d', l = [a, b, c, d'] := by
  match l, h with
  | [x, y, z, w], _ =>
    have h0 := k 0 (by decide)
    have h1 := k 1 (by decide)
    have h2 := k 2 (by decide)
    simp at h0 h1 h2
    exact ⟨w, by rw [h0, h1, h2]⟩
/-- The orders of Parse's region 5. -/
def ordP (id : Nat) : Tr := match Nat.beq id 5 with
  | true => .q 0 3 (.alt 1 2 (.alt 2 2 (.alt 3 2 (.alt 4 2 (.alt 5 2 .nil .nil) .nil) .nil) (.alt 3 2 (.alt 2 2 (.alt 4 2 (.alt 5 2 .nil .nil) .nil) (.alt 4 2 (.alt 2 2 (.alt 5 2 .nil .nil) .nil) .nil)) .nil)) (.alt 2 2 (.alt 1 2 (.alt 3 2 (.alt 4 2 (.alt 5 2 .nil .nil) .nil) .nil) (.alt 3 2 (.alt 1 2 (.alt 4 2 (.alt 5 2 .nil .nil) .nil) .nil) .nil)) (.alt 3 2 (.alt 1 2 (.alt 2 2 (.alt 4 2 (.alt 5 2 .nil .nil) .nil) (.alt 4 2 (.alt 2 2 (.alt 5 2 .nil .nil) .nil) .nil)) (.alt 2 2 (.alt 1 2 (.alt 4 2 (.alt 5 2 .nil .nil) .nil) .nil) .nil)) .nil)))
  | false => .nil
theorem parse_raw (s : ByteArray) (hs : s.size ≤ 1000000000) : Spec Tryd.prog 25 [] [strA s] fun _ r => r = parR0 (parseF s) := by
  obtain ⟨R, hR⟩ : ∃ R, parseF s = R := ⟨_, rfl⟩
  rw [hR]
  have htk := tokens_spec s hs
  have hpan : ∀ (ch : List PanicEntry) (s' : S), PanS R ch s' → leaveK ⟨Tryd.prog, tab, ordP, fun _ => [0], 0, fun _ _ => False⟩ Tryd.f25.results.toList (fun _ r => r = parR0 R) [(44, [.box 0 0, .box 1 0, .box 2 0])] (.panicking ch) s' := fun ch s' hP => by
    obtain ⟨x, e, cs, bx, a, b, t0, hRe, hran, rfl, hbx, hcs, ht, hrw⟩ := hP
    obtain ⟨t, bx', rw'⟩ := s'
    simp only at hbx hrw ht
    subst hbx hrw ht
    subst hRe
    unfold leaveK
    refine ⟨(fun h => by cases h), FrameMode.panicking [⟨.iface 72 (.agg #[.int .i64 x, .int .i64 e]), true, false⟩], ?_⟩
    unfold DfrW
    refine ⟨fun vs w => rfl, [0, 1, 2], [], [cs, [intA 0], [intA 0]], [.box 0 0, .box 1 0, .box 2 0], fun o r => o = [zero5, [intA x], [intA e]] ∧ r = .tup [], by decide, ?_, ?_, rfl, fun _ => ?_, ?_⟩
    · intro i hi
      simp only [List.length_cons]
      simp at hi
      omega
    · rcases hcs with rfl | ⟨f, rfl⟩
      · rfl
      · rfl
    · rcases hcs with rfl | ⟨f, rfl⟩
      · exact parse1_pan x e hran.1 hran.2 _ _ _ _ _ _ _
      · exact parse1_pan x e hran.1 hran.2 _ _ _ _ _ _ _
    rintro o r ⟨rfl, rfl⟩ _
    conv => whnf
    rfl
  refine specT_of (cx_ok ordP (fun _ => [0]) 0) Tryd.func25 rfl (by kernel_rfl) rfl ?_
  intro _
  conv => whnf
  refine okT_step (cx_ok ordP (fun _ => [0]) 0) (dr := []) ⟨0, rfl⟩ (.inl rfl) (by kernel_rfl) (fun _ _ h => h.elim) ?_
  conv => whnf
  refine okT_step (cx_ok ordP (fun _ => [0]) 0) (dr := []) ⟨0, rfl⟩ (.inl rfl) (by kernel_rfl) (fun _ _ h => h.elim) ?_
  conv => whnf
  unfold parseF at hR
  by_cases hbig : 3000 < s.size
  · rw [if_pos hbig] at hR
    rw [decide_eq_true (by omega)]
    conv => whnf
    refine ⟨.inr rfl, ?_⟩
    conv => whnf
    subst hR
    rfl
  rw [if_neg hbig] at hR
  rw [decide_eq_false (by omega)]
  conv => whnf
  refine okT_step (cx_ok ordP (fun _ => [0]) 0) (dr := []) ⟨0, rfl⟩ (.inl rfl) (by kernel_rfl) (fun _ _ h => h.elim) ?_
  conv => whnf
  refine call0 [] rfl (fun _ => htk) ?_
  rintro r rfl
  have htb := fun h => row_tkB (s := s) (by omega) h
  unfold lexR
  cases herr : (lexF' s).err with
  | some pe =>
    obtain ⟨p, e⟩ := pe
    rw [herr] at hR
    simp only at hR
    have hne := (lexG_ok (s.data.toList.length + 1) 0 s.data.toList).2 p e herr
    conv => whnf
    refine okT_step (cx_ok ordP (fun _ => [0]) 0) (dr := []) ⟨0, rfl⟩ (.inl rfl) (by kernel_rfl) (fun _ _ h => h.elim) ?_
    conv => whnf
    rw [decide_eq_false hne.2.1]
    conv => whnf
    apply join_eq
    · repeat' (first | (with_reducible refine And.intro ?_ ?_) | (conv => whnf))
    conv => whnf
    refine ⟨.inr rfl, ?_⟩
    conv => whnf
    subst hR
    rfl
  | none =>
    rw [herr] at hR
    simp only at hR
    have htb := htb herr
    have hrl := rowT_none herr
    rw [← hrl]
    have hln : (lexF' s).toks.length + 1 = (rowT s).length := by rw [hrl]; simp
    rw [hln]
    generalize rowT s = T at *
    conv => whnf
    refine okT_step (cx_ok ordP (fun _ => [0]) 0) (dr := []) ⟨0, rfl⟩ (.inl rfl) (by kernel_rfl) (fun _ _ h => h.elim) ?_
    conv => whnf
    refine okT_defer (cx_ok ordP (fun _ => [0]) 0) ⟨0, rfl⟩ (fun _ _ h => h.elim) (l := [_]) rfl rfl rfl ?_
    conv => whnf
    have hp0 := (pr_spec 20 (by decide)).2.2 T htb
    rw [show ((20 : Int) - (20 : Nat)) = 0 from rfl] at hp0
    have hsane := (pr_sane 20).2.2 T htb
    have hgo := (pr_goes 20).2.2 T
    have hpos := htb.1.pos
    have hT2 := htb.2
    unfold parseT at hR
    refine okT_step (c := ⟨Tryd.prog, tab, ordP, fun _ => [0], 0, PanS R⟩) (cx_okP _ _ _ _) ⟨3, rfl⟩ (.inr (by kernel_rfl)) (by kernel_rfl) hpan ?_
    conv => whnf
    refine okT_step (c := ⟨Tryd.prog, tab, ordP, fun _ => [0], 0, PanS R⟩) (cx_okP _ _ _ _) ⟨3, rfl⟩ (.inr (by kernel_rfl)) (by kernel_rfl) hpan ?_
    conv => whnf
    refine callP1x 3 [] rfl rfl rfl rfl (fun _ => hp0) (fun ch bx' hp hbl hbx => ?_) ?_
    · obtain ⟨x, e, he, hc⟩ := pnP_bad hp
      rw [he] at hR hsane
      obtain ⟨d', rfl⟩ := box4 hbl hbx
      exact ⟨x, e, _, _, _, _, _, hR.symm, hsane, hc, rfl, .inl rfl, rfl, rfl⟩
    rintro o r hpo
    obtain ⟨f, r1, he, ho, rfl⟩ := poP_ok hpo
    cases ho
    rw [he] at hR
    simp only at hR
    obtain ⟨h1, l1⟩ := hgo _ _ htb he
    have hr := row_hd h1.1.pos
    have hfail := fail_spec r1 h1.1.pos 10
    have hpos1 := h1.pos
    have hl1 := h1.1.pos
    generalize hd r1 = t at *
    conv => whnf
    refine okT_step (c := ⟨Tryd.prog, tab, ordP, fun _ => [0], 0, PanS R⟩) (cx_okP _ _ _ _) ⟨3, rfl⟩ (.inr (by kernel_rfl)) (by kernel_rfl) hpan ?_
    conv => whnf
    (refine goA ?_; try with_reducible exact trivial)
    (generalize hrq : rowOf _ _ (tksL r1) = rq; obtain rfl : rq = tkL t := hrq.symm.trans (hr); clear hrq; conv => whnf)
    by_cases hk : t.kind = 0
    · rw [decide_eq_true hk]
      rw [if_neg (by simpa using hk)] at hR
      conv => whnf
      refine okT_last (c := ⟨Tryd.prog, tab, ordP, fun _ => [0], 0, PanS R⟩) (cx_okP _ _ _ _) ⟨3, rfl⟩ (.inr (by kernel_rfl)) (by kernel_rfl) hpan ?_
      conv => whnf
      refine ⟨.inr rfl, ?_⟩
      unfold leaveK
      refine ⟨(fun h => by cases h), FrameMode.returning, ?_⟩
      unfold DfrW
      refine ⟨fun vs w => rfl, [0, 1, 2], [], [fmA f, [intA 0], [intA 0]], [.box 0 0, .box 1 0, .box 2 0], fun o r => o = [fmA f, [intA 0], [intA 0]] ∧ r = .tup [], by decide, ?_, rfl, rfl, fun _ => parse1_ret f, ?_⟩
      · intro i hi
        simp only [List.length_cons]
        simp at hi
        omega
      rintro o r ⟨rfl, rfl⟩ _
      conv => whnf
      subst hR
      rfl
    · rw [decide_eq_false hk]
      rw [if_pos hk] at hR
      conv => whnf
      refine callP1x 3 [] rfl rfl rfl rfl (fun _ => hfail) (fun ch bx' hp hbl hbx => ?_) ?_
      · obtain ⟨d', rfl⟩ := box4 hbl hbx
        exact ⟨_, _, _, _, _, _, _, hR.symm, ⟨⟨by omega, by omega⟩, by decide⟩, hp, rfl, .inr ⟨f, rfl⟩, rfl, rfl⟩
      · rintro o r ⟨⟩
end Go.Proofs.YtpjcbadnpknncaaDoor.Vm
/- The examples. -/
namespace Go.Proofs.YtpjcbadnpknncaaDoor.Vm
open Go.RowKit Go.Shelf
set_option linter.unusedSimpArgs false
set_option linter.unusedVariables false
set_option maxRecDepth 100000
def lvA : Fm := .mk 7 0 0 0 [.mk 1 0 0 3 []]
def lvB : Fm := .mk 8 0 0 0 [.mk 1 0 2 2 []]
def lvT : List (List Int) := [[1], [2], [3]]
theorem lvA_parse : parseF ⟨#[97, 108, 119, 97, 121, 115, 32, 118, 48, 60, 51]⟩ = .ok lvA := by kernel_rfl
theorem lvB_parse : parseF ⟨#[101, 118, 101, 110, 116, 117, 97, 108, 108, 121, 32, 118, 48, 62, 50]⟩ = .ok lvB := by kernel_rfl
theorem lvA_chk : chkF lvA lvT = ⟨13, some 2⟩ := by kernel_rfl
theorem lvB_chk : chkF lvB lvT = ⟨0, some 2⟩ := by kernel_rfl
theorem lvA_pen : (chkF lvA (lvT.take 2)).cls = 14 := by kernel_rfl
theorem lvB_pen : (chkF lvB (lvT.take 2)).cls = 14 := by kernel_rfl
theorem lvA_gd : Gd 2 lvA := ⟨.un (by simp) (.var (by omega) (by omega) (by omega)), by unfold td tds td tds; decide, by unfold nn nns nn nns nns; decide⟩
theorem lvB_gd : Gd 2 lvB := ⟨.un (by simp) (.var (by omega) (by omega) (by omega)), by unfold td tds td tds; decide, by unfold nn nns nn nns nns; decide⟩
set_option maxHeartbeats 2000000 in
theorem lives_spec : Spec Tryd.prog 17 [] [] fun _ r => r = boolA true := by
  have cA := check_spec lvA lvT (fitS_gd (N := 2) (by omega) _ lvA_gd) (by rw [sim_same _ lvA_gd.w]; exact fitR_gd _ _ 2 lvA_gd.s (by decide)) (by decide)
  have cB := check_spec lvB lvT (fitS_gd (N := 2) (by omega) _ lvB_gd) (by rw [sim_same _ lvB_gd.w]; exact fitR_gd _ _ 2 lvB_gd.s (by decide)) (by decide)
  have vA := value_spec lvA (lvT.take 2) (fitS_gd (N := 2) (by omega) _ lvA_gd) (by rw [sim_same _ lvA_gd.w]; exact fitR_gd _ _ 2 lvA_gd.s (by decide)) (by decide)
  have vB := value_spec lvB (lvT.take 2) (fitS_gd (N := 2) (by omega) _ lvB_gd) (by rw [sim_same _ lvB_gd.w]; exact fitR_gd _ _ 2 lvB_gd.s (by decide)) (by decide)
  rw [lvA_chk] at cA
  rw [lvB_chk] at cB
  rw [lvA_pen] at vA
  rw [lvB_pen] at vB
  have pA := parse_raw ⟨#[97, 108, 119, 97, 121, 115, 32, 118, 48, 60, 51]⟩ (by decide)
  have pB := parse_raw ⟨#[101, 118, 101, 110, 116, 117, 97, 108, 108, 121, 32, 118, 48, 62, 50]⟩ (by decide)
  rw [lvA_parse] at pA
  rw [lvB_parse] at pB
  have hs := rSameInts [2] [2] (by decide)
  rw [decide_eq_true rfl] at hs
  unfold parR0 at pA pB
  generalize lvA = fa at *
  generalize lvB = fb at *
  refine spec_of (cx_ok (fun id => match Nat.beq id 8 with | true => .q 0 7 .nil | false => ord17 id) xs0 0) (fun _ _ h => h) Tryd.func17 rfl (by kernel_rfl) rfl (by kernel_rfl) ?_
  intro hok
  conv => whnf
  (refine call0 [] rfl (fun _ => pA) ?_; rintro r rfl; conv => whnf)
  (refine call0 [] rfl (fun _ => pB) ?_; rintro r rfl; conv => whnf)
  (refine call0 [3] rfl (fun _ => cA) ?_; rintro r rfl; conv => whnf)
  (refine call0 [] rfl (fun _ => cB) ?_; rintro r rfl; conv => whnf)
  repeat (apply flow_go; (focus ((conv => whnf); exact ⟨rfl, rfl, rfl⟩)); (conv => whnf))
  (apply flow_go; (focus ((conv => whnf); refine call0 [] rfl (fun _ => hs) ?_; rintro r rfl; (conv => whnf); exact ⟨rfl, rfl, rfl⟩)); (conv => whnf))
  repeat (apply flow_go; (focus ((conv => whnf); exact ⟨rfl, rfl, rfl⟩)); (conv => whnf))
  (apply flow_go; (focus ((conv => whnf); refine call0 [] rfl (fun _ => hs) ?_; rintro r rfl; (conv => whnf); exact ⟨rfl, rfl, rfl⟩)); (conv => whnf))
  repeat (apply flow_go; (focus ((conv => whnf); exact ⟨rfl, rfl, rfl⟩)); (conv => whnf))
  (apply flow_go; (focus ((conv => whnf); (refine ⟨by first | omega | (simp only [List.length_cons, List.length_nil]; omega) | (dsimp only; omega), ?_⟩); exact ⟨rfl, rfl, rfl⟩)); (conv => whnf))
  repeat (apply flow_go; (focus ((conv => whnf); exact ⟨rfl, rfl, rfl⟩)); (conv => whnf))
  (apply flow_go; (focus ((conv => whnf); refine call0 [] rfl (fun _ => vA) ?_; rintro r rfl; (conv => whnf); exact ⟨rfl, rfl, rfl⟩)); (conv => whnf))
  repeat (apply flow_go; (focus ((conv => whnf); exact ⟨rfl, rfl, rfl⟩)); (conv => whnf))
  (apply flow_go; (focus ((conv => whnf); (refine ⟨by first | omega | (simp only [List.length_cons, List.length_nil]; omega) | (dsimp only; omega), ?_⟩); exact ⟨rfl, rfl, rfl⟩)); (conv => whnf))
  repeat (apply flow_go; (focus ((conv => whnf); exact ⟨rfl, rfl, rfl⟩)); (conv => whnf))
  (apply flow_go; (focus ((conv => whnf); refine call0 [] rfl (fun _ => vB) ?_; rintro r rfl; (conv => whnf); exact ⟨rfl, rfl, rfl⟩)); (conv => whnf))
  repeat (apply flow_go; (focus ((conv => whnf); exact ⟨rfl, rfl, rfl⟩)); (conv => whnf))
  rfl
end Go.Proofs.YtpjcbadnpknncaaDoor.Vm
/- The laws Checks, Meaning, Split: their walks. -/
namespace Go.Proofs.YtpjcbadnpknncaaDoor.Vm
open Go.RowKit Go.Shelf
set_option linter.unusedSimpArgs false
set_option linter.unusedVariables false
set_option maxRecDepth 100000
theorem gf_gd {f : Fm} (h : Gf 3 f) : Gd 64 f := by
  obtain ⟨h1, h2, h3⟩ := gf_ok h
  exact ⟨h1, h2, h3⟩
theorem pow_fit {N n k : Nat} (hn : n ≤ k) (h : N * 5 ^ k ≤ 100000000000) : N * 5 ^ n ≤ 100000000000 :=
  Nat.le_trans (Nat.mul_le_mul_left N (Nat.pow_le_pow_right (by omega) hn)) h
/-- Check, Value and the reference's Check can be applied to good formulas. -/
theorem check_gd {N : Nat} {f : Fm} (h : Gd N f) (t : List (List Int)) (hN : N * 5 ^ t.length ≤ 100000000000) (ht : t.length ≤ 1000) : Spec Tryd.prog 20 [] [.agg (fmA f), .sl 1 t.length (trA t)] fun _ r => r = .agg (vdA (chkF f t)) := by
  have hp : 1 ≤ 5 ^ t.length := Nat.pos_of_ne_zero (by simp)
  have h1 : N * 1 ≤ N * 5 ^ t.length := Nat.mul_le_mul_left N hp
  exact check_spec f t (fitS_gd (N := N) (by omega) f h) (by rw [sim_same f h.w]; exact fitR_gd t _ N h.s hN) (by omega)
theorem value_gd {N : Nat} {f : Fm} (h : Gd N f) (t : List (List Int)) (hN : N * 5 ^ t.length ≤ 100000000000) (ht : t.length ≤ 1000) : Spec Tryd.prog 21 [] [.agg (fmA f), .sl 1 t.length (trA t)] fun _ r => r = intA (chkF f t).cls := by
  have hp : 1 ≤ 5 ^ t.length := Nat.pos_of_ne_zero (by simp)
  have h1 : N * 1 ≤ N * 5 ^ t.length := Nat.mul_le_mul_left N hp
  exact value_spec f t (fitS_gd (N := N) (by omega) f h) (by rw [sim_same f h.w]; exact fitR_gd t _ N h.s hN) (by omega)
theorem rcheck_gd {N : Nat} {f : Fm} (h : Gd N f) (t : List (List Int)) (hN : N * 5 ^ t.length ≤ 100000000000) (ht : t.length ≤ 1000) : Spec Tryd.prog 18 [] [.agg (fmA f), .sl 1 t.length (trA t)] fun _ r => r = .agg (vdA (chkF f t)) := by
  have hp : 1 ≤ 5 ^ t.length := Nat.pos_of_ne_zero (by simp)
  have h1 : N * 1 ≤ N * 5 ^ t.length := Nat.mul_le_mul_left N hp
  rw [← chk_same f t h.w]
  exact rCheck_spec f t (fitT_gd (N := N) (by omega) f h) (fitQ_gd t _ N h.s hN) (by omega)
theorem rSame_refl (V : Vd) : Spec Tryd.prog 19 [] [.agg (vdA V), .agg (vdA V)] fun _ r => r = boolA true := by
  obtain ⟨c, o⟩ := V
  have h := rSame c c o o
  rw [decide_eq_true rfl, decide_eq_true rfl] at h
  exact h
set_option maxHeartbeats 1000000 in
theorem checks_law (l m : List Int) : Spec Tryd.prog 4 [] [.sl 1 l.length (intsA l), .sl 1 m.length (intsA m)] fun _ r => r = boolA true := by
  refine spec_of (cx_ok (fun id => match Nat.beq id 4 with | true => .q 0 7 .nil | false => ord4 id) xs0 0) (fun _ _ h => h) Tryd.func4 rfl (by kernel_rfl) rfl (by kernel_rfl) ?_
  intro hok
  conv => whnf
  refine call0 [] rfl (fun _ => rFormula l) ?_
  rintro r ⟨f, hf, rfl⟩
  have hg := gf_gd hf
  conv => whnf
  refine call0 [] rfl (fun _ => rTrace m 8 (by omega)) ?_
  rintro r ⟨t, ht, rfl⟩
  have hN := pow_fit (N := 64) ht (by decide)
  have h5 := lives_spec
  have h1 := check_gd hg t hN (by omega)
  have h2 := value_gd hg t hN (by omega)
  have h3 := rcheck_gd hg t hN (by omega)
  generalize chkF f t = V at *
  have h4 := rSame_refl V
  obtain ⟨c, o⟩ := V
  cases o with
  | none =>
    conv => whnf
    (refine call0 [] rfl (fun _ => h3) ?_; rintro r rfl; conv => whnf)
    repeat (apply flow_go; (focus ((conv => whnf); exact ⟨rfl, rfl, rfl⟩)); (conv => whnf))
    (apply flow_go; (focus ((conv => whnf); refine call0 [] rfl (fun _ => h1) ?_; rintro r rfl; (conv => whnf); exact ⟨rfl, rfl, rfl⟩)); (conv => whnf))
    repeat (apply flow_go; (focus ((conv => whnf); exact ⟨rfl, rfl, rfl⟩)); (conv => whnf))
    (apply flow_go; (focus ((conv => whnf); refine call0 [] rfl (fun _ => h4) ?_; rintro r rfl; (conv => whnf); exact ⟨rfl, rfl, rfl⟩)); (conv => whnf))
    repeat (apply flow_go; (focus ((conv => whnf); exact ⟨rfl, rfl, rfl⟩)); (conv => whnf))
    (apply flow_go; (focus ((conv => whnf); refine call0 [] rfl (fun _ => h2) ?_; rintro r rfl; (conv => whnf); exact ⟨rfl, rfl, rfl⟩)); (conv => whnf))
    repeat (apply flow_go; (focus ((conv => whnf); exact ⟨rfl, rfl, rfl⟩)); (conv => whnf))
    rw [show decide (c = c) = true from decide_eq_true rfl]
    repeat (apply flow_go; (focus ((conv => whnf); exact ⟨rfl, rfl, rfl⟩)); (conv => whnf))
    (apply flow_go; (focus ((conv => whnf); refine call0 [] rfl (fun _ => h5) ?_; rintro r rfl; (conv => whnf); exact ⟨rfl, rfl, rfl⟩)); (conv => whnf))
    repeat (apply flow_go; (focus ((conv => whnf); exact ⟨rfl, rfl, rfl⟩)); (conv => whnf))
    rfl
  | some x =>
    conv => whnf
    (refine call0 [] rfl (fun _ => h3) ?_; rintro r rfl; conv => whnf)
    repeat (apply flow_go; (focus ((conv => whnf); exact ⟨rfl, rfl, rfl⟩)); (conv => whnf))
    (apply flow_go; (focus ((conv => whnf); refine call0 [] rfl (fun _ => h1) ?_; rintro r rfl; (conv => whnf); exact ⟨rfl, rfl, rfl⟩)); (conv => whnf))
    repeat (apply flow_go; (focus ((conv => whnf); exact ⟨rfl, rfl, rfl⟩)); (conv => whnf))
    (apply flow_go; (focus ((conv => whnf); refine call0 [] rfl (fun _ => h4) ?_; rintro r rfl; (conv => whnf); exact ⟨rfl, rfl, rfl⟩)); (conv => whnf))
    repeat (apply flow_go; (focus ((conv => whnf); exact ⟨rfl, rfl, rfl⟩)); (conv => whnf))
    (apply flow_go; (focus ((conv => whnf); refine call0 [] rfl (fun _ => h2) ?_; rintro r rfl; (conv => whnf); exact ⟨rfl, rfl, rfl⟩)); (conv => whnf))
    repeat (apply flow_go; (focus ((conv => whnf); exact ⟨rfl, rfl, rfl⟩)); (conv => whnf))
    rw [show decide (c = c) = true from decide_eq_true rfl]
    repeat (apply flow_go; (focus ((conv => whnf); exact ⟨rfl, rfl, rfl⟩)); (conv => whnf))
    (apply flow_go; (focus ((conv => whnf); refine call0 [] rfl (fun _ => h5) ?_; rintro r rfl; (conv => whnf); exact ⟨rfl, rfl, rfl⟩)); (conv => whnf))
    repeat (apply flow_go; (focus ((conv => whnf); exact ⟨rfl, rfl, rfl⟩)); (conv => whnf))
    rfl
set_option maxHeartbeats 1000000 in
theorem meaning_law (l m : List Int) : Spec Tryd.prog 5 [] [.sl 1 l.length (intsA l), .sl 1 m.length (intsA m)] fun _ r => r = boolA true := by
  refine spec_of (cx_ok ord0 xs0 0) (fun _ _ h => h) Tryd.func5 rfl (by kernel_rfl) rfl (by kernel_rfl) ?_
  intro hok
  conv => whnf
  refine call0 [] rfl (fun _ => rFormula l) ?_
  rintro r ⟨f, hf, rfl⟩
  have hg := gf_gd hf
  conv => whnf
  refine call0 [] rfl (fun _ => rTrace m 6 (by omega)) ?_
  rintro r ⟨t, ht, rfl⟩
  have hN := pow_fit (N := 64) ht (by decide)
  have h5 := lives_spec
  have h2 := value_gd hg t hN (by omega)
  have h3 := meaning_spec (N := 64) (by omega) t (by omega) t.length 0 (by omega) f hg
  unfold MeSpec at h3
  rw [List.drop_zero] at h3
  have hS := sem_meF t
  have b1 := hS.lo f hg.w
  have b2 := hS.hi f hg.w
  rw [chk_cls f t hg.w] at h2
  generalize meF t f = x at *
  rcases (show x = -1 ∨ x = 0 ∨ x = 1 by omega) with rfl | rfl | rfl
  · rw [show cls3 (-1) = 13 from rfl] at h2
    conv => whnf
    (refine call0 [] rfl (fun _ => h3) ?_; rintro r rfl; conv => whnf)
    (refine goA ?_; try with_reducible exact trivial)
    (refine call0 [] rfl (fun _ => h2) ?_; rintro r rfl; conv => whnf)
    (refine goA ?_; try with_reducible exact trivial)
    (refine call0 [] rfl (fun _ => h5) ?_; rintro r rfl; conv => whnf)
    rfl
  · rw [show cls3 0 = 14 from rfl] at h2
    conv => whnf
    (refine call0 [] rfl (fun _ => h3) ?_; rintro r rfl; conv => whnf)
    (refine goA ?_; try with_reducible exact trivial)
    (refine call0 [] rfl (fun _ => h2) ?_; rintro r rfl; conv => whnf)
    (refine goA ?_; try with_reducible exact trivial)
    (refine call0 [] rfl (fun _ => h5) ?_; rintro r rfl; conv => whnf)
    rfl
  · rw [show cls3 1 = 0 from rfl] at h2
    conv => whnf
    (refine call0 [] rfl (fun _ => h3) ?_; rintro r rfl; conv => whnf)
    (refine goA ?_; try with_reducible exact trivial)
    (refine call0 [] rfl (fun _ => h2) ?_; rintro r rfl; conv => whnf)
    (refine goA ?_; try with_reducible exact trivial)
    (refine call0 [] rfl (fun _ => h5) ?_; rintro r rfl; conv => whnf)
    rfl
theorem tr_take (t : List (List Int)) (k n : Nat) (hn : n = min k t.length) : List.take (n * 1) (List.drop (Int.toNat 0 * 1) (trA t)) = trA (t.take k) := by
  subst hn
  rw [Nat.mul_one]
  simp only [Int.toNat_zero, Nat.zero_mul, List.drop_zero]
  have e : ∀ (t : List (List Int)) (k : Nat), (trA t).take k = trA (t.take k) := fun t => by
    induction t with
    | nil => intro k; simp [trA]
    | cons v t ih =>
      intro k
      cases k with
      | zero => simp [trA]
      | succ k =>
        rw [List.take_succ_cons]
        show List.take (k + 1) (A.sl 1 v.length (intsA v) :: trA t) = A.sl 1 v.length (intsA v) :: trA (t.take k)
        rw [List.take_succ_cons, ih]
  rw [e]
  rcases Nat.le_total k t.length with h | h
  · rw [Nat.min_eq_left h]
  · rw [Nat.min_eq_right h, List.take_of_length_le h, List.take_of_length_le (Nat.le_refl _)]
theorem tr_drop (t : List (List Int)) (k : Nat) : (trA t).drop k = trA (t.drop k) := by
  induction t generalizing k with
  | nil => simp [trA]
  | cons v t ih =>
    cases k with
    | zero => simp
    | succ k =>
      rw [List.drop_succ_cons]
      show List.drop (k + 1) (A.sl 1 v.length (intsA v) :: trA t) = _
      rw [List.drop_succ_cons, ih]
theorem trA_len (t : List (List Int)) : (trA t).length = t.length := by
  induction t with
  | nil => rfl
  | cons v t ih => show (A.sl 1 v.length (intsA v) :: trA t).length = _; rw [List.length_cons, ih, List.length_cons]
theorem fold_take (f : Fm) (t : List (List Int)) (j : Nat) (h : j < t.length) : foldP f (t.take (j + 1)) = proF t[j] (foldP f (t.take j)) := by
  rw [List.take_add_one, List.getElem?_eq_getElem h, foldP_app]
  rfl
set_option maxHeartbeats 1000000 in
theorem split_law (l m : List Int) (cut : Int) : Spec Tryd.prog 8 [] [.sl 1 l.length (intsA l), .sl 1 m.length (intsA m), intA cut] fun _ r => r = boolA true := by
  refine spec_of (cx_ok (fun id => match Nat.beq id 9 with | true => .q 0 7 .nil | false => ord8 id) xs0 0) (fun _ _ h => h) Tryd.func8 rfl (by kernel_rfl) rfl (by kernel_rfl) ?_
  intro hok
  conv => whnf
  refine call0 [] rfl (fun _ => rFormula l) ?_
  rintro r ⟨f, hf, rfl⟩
  have hg := gf_gd hf
  conv => whnf
  refine call0 [] rfl (fun _ => rTrace m 8 (by omega)) ?_
  rintro r ⟨t, ht, rfl⟩
  have hN := pow_fit (N := 64) ht (by decide)
  have h5 := lives_spec
  conv => whnf
  (refine goA ?_; try with_reducible exact trivial)
  refine call0 [] rfl (fun _ => around_spec cut (t.length + 1) (by omega)) ?_
  rintro r ⟨hx, rfl⟩
  have hr := aroundF_rng hx (m := t.length + 1) (by omega)
  obtain ⟨k, hk⟩ : ∃ k : Nat, aroundF cut (t.length + 1) = (k : Int) := ⟨(aroundF cut (t.length + 1)).toNat, by omega⟩
  rw [hk] at hr ⊢
  have hkl : k ≤ t.length := by omega
  have h2 := value_gd hg t hN (by omega)
  have hgf := gd_fold (t.take k) f 64 hg
  rw [List.length_take, Nat.min_eq_left hkl] at hgf
  have hNd : 64 * 5 ^ k * 5 ^ (t.drop k).length ≤ 100000000000 := by
    rw [List.length_drop, Nat.mul_assoc, ← Nat.pow_add, show k + (t.length - k) = t.length by omega]
    exact hN
  have h3 := value_gd hgf (t.drop k) hNd (by rw [List.length_drop]; omega)
  rw [split_cls f (t.take k) (t.drop k) hg.w, List.take_append_drop] at h3
  generalize (chkF f t).cls = V at *
  have hpro : ∀ j (hj : j < k), PrSpec (t[j]'(by omega)) (foldP f (t.take j)) := fun j hj => by
    refine pro_spec _ _ (fitP_gd (N := 64 * 5 ^ j) ?_ _ _ ?_)
    · exact pow_fit (N := 64) (n := j) (k := 8) (by omega) (by decide)
    · have := gd_fold (t.take j) f 64 hg
      rwa [List.length_take, Nat.min_eq_left (by omega)] at this
  conv => whnf
  refine loop_keep [6, 7, 8, 9, 10] ?_
  conv => whnf
  refine loop_goQ (fun j : Nat => [(11, .v (.int .i64 j))]) (fun j => [fmA f, fmA (foldP f (t.take j))]) (fun _ => []) (fun j => j ≤ k) (fun j => k - j) 0 ?_ (Nat.zero_le _) ?_
  · unfold headQ
    repeat' constructor
  · rintro j hj
    conv => whnf
    by_cases hjk : j < k
    · have hpj := hpro j hjk
      have hft := fold_take f t j (by omega)
      have hrow := rowOf_tr t j (by omega)
      unfold PrSpec at hpj
      rw [← hft] at hpj
      generalize t[j] = v at *
      (refine goA ?_; try with_reducible exact trivial)
      (generalize hrq : rowOf _ _ (trA t) = rq; obtain rfl : rq = [.sl 1 v.length (intsA v)] := hrq.symm.trans (hrow); clear hrq; conv => whnf)
      (refine call0 [] rfl (fun _ => hpj) ?_; rintro r rfl; conv => whnf)
      (refine goA ?_; try with_reducible exact trivial)
      refine ⟨j + 1, le_head ?_, hjk, by omega⟩
      repeat' constructor
    · obtain rfl : j = k := by omega
      generalize foldP f (t.take j) = g at *
      have e1 : List.drop (Int.toNat (j : Int) * 1) (trA t) = trA (t.drop j) := by rw [Int.toNat_natCast, Nat.mul_one]; exact tr_drop t j
      have e2 : (t.length : Int).toNat - Int.toNat (j : Int) = (t.drop j).length := by rw [List.length_drop]; omega
      have e3 : List.take ((t.drop j).length * 1) (trA (t.drop j)) = trA (t.drop j) := by rw [Nat.mul_one, List.take_of_length_le (by rw [trA_len]; exact Nat.le_refl _)]
      (refine goA ?_; try with_reducible exact trivial)
      repeat (apply flow_go; (focus ((conv => whnf); exact ⟨rfl, rfl, rfl⟩)); (conv => whnf))
      apply flow_go
      · conv => whnf
        refine ⟨by omega, ?_⟩
        rw [e2, e1, e3]
        exact ⟨rfl, rfl, rfl⟩
      conv => whnf
      (apply flow_go; (focus ((conv => whnf); refine call0 [] rfl (fun _ => h3) ?_; rintro r rfl; (conv => whnf); exact ⟨rfl, rfl, rfl⟩)); (conv => whnf))
      repeat (apply flow_go; (focus ((conv => whnf); exact ⟨rfl, rfl, rfl⟩)); (conv => whnf))
      (apply flow_go; (focus ((conv => whnf); refine call0 [] rfl (fun _ => h2) ?_; rintro r rfl; (conv => whnf); exact ⟨rfl, rfl, rfl⟩)); (conv => whnf))
      repeat (apply flow_go; (focus ((conv => whnf); exact ⟨rfl, rfl, rfl⟩)); (conv => whnf))
      rw [show decide (V = V) = true from decide_eq_true rfl]
      repeat (apply flow_go; (focus ((conv => whnf); exact ⟨rfl, rfl, rfl⟩)); (conv => whnf))
      (apply flow_go; (focus ((conv => whnf); refine call0 [] rfl (fun _ => h5) ?_; rintro r rfl; (conv => whnf); exact ⟨rfl, rfl, rfl⟩)); (conv => whnf))
      repeat (apply flow_go; (focus ((conv => whnf); exact ⟨rfl, rfl, rfl⟩)); (conv => whnf))
      rfl
end Go.Proofs.YtpjcbadnpknncaaDoor.Vm
/- The laws Progress, Infinite, Stable: their walks. -/
namespace Go.Proofs.YtpjcbadnpknncaaDoor.Vm
open Go.RowKit Go.Shelf
set_option linter.unusedSimpArgs false
set_option linter.unusedVariables false
set_option maxRecDepth 100000
set_option maxHeartbeats 1000000 in
theorem progress_law (l m vs : List Int) : Spec Tryd.prog 3 [] [.sl 1 l.length (intsA l), .sl 1 m.length (intsA m), .sl 1 vs.length (intsA vs)] fun _ r => r = boolA true := by
  refine spec_of (cx_ok (fun id => match Nat.beq id 8 with | true => .q 0 7 .nil | false => ord3 id) xs0 0) (fun _ _ h => h) Tryd.func3 rfl (by kernel_rfl) rfl (by kernel_rfl) ?_
  intro hok
  conv => whnf
  refine call0 [] rfl (fun _ => rFormula l) ?_
  rintro r ⟨f, hf, rfl⟩
  have hg := gf_gd hf
  conv => whnf
  refine callF 0 [] rfl rfl (fun _ => trace_specF m 5 (by omega)) ?_
  rintro et k n cs r ⟨T, hT, rfl, rfl, rfl, rfl, rfl⟩
  have hi := rInts vs 16 (by omega)
  generalize vs.take 16 = last at *
  have htr := trA_snoc T last
  have hlen : (T ++ [last]).length = T.length + 1 := by simp
  conv => whnf
  (refine call0 [] rfl (fun _ => hi) ?_; rintro r rfl; conv => whnf)
  refine ⟨⟨by unfold maxLen; omega, by omega⟩, ?_⟩
  conv => whnf
  rw [← htr, ← hlen]
  generalize T ++ [last] = t at *
  refine loop_pub [0] ?_
  conv => whnf
  refine loop_keep [5, 6, 7, 8, 9] ?_
  conv => whnf
  refine loop_goQ (fun j : Nat => [(10, .v (.int .i64 j))]) (fun j => [fmA f, fmA (foldP f (t.take j))]) (fun _ => [.pub 1 t.length (trA t), .live 22 1 1 [.sl 1 last.length (intsA last)]]) (fun j => j ≤ t.length) (fun j => t.length - j) 0 ?_ (Nat.zero_le _) ?_
  · unfold headQ
    repeat' constructor
  · rintro j hj
    conv => whnf
    by_cases hjk : j < t.length
    · have hft := fold_take f t j hjk
      have hrow := rowOf_tr t j hjk
      have hgj := gd_fold (t.take j) f 64 hg
      rw [List.length_take, Nat.min_eq_left hj] at hgj
      have hN := pow_fit (N := 64) (n := j) (k := 6) (by omega) (by decide)
      have hNT := pow_fit (N := 64) (n := j + 1) (k := 7) (by omega) (by decide)
      rw [Nat.pow_succ] at hNT
      generalize t[j] = v at *
      have hpj := pro_spec v _ (fitP_gd hN v _ hgj)
      have hrp := rProg_spec v _ (fitU_gd (by omega) _ hgj) (fitT_gd (N := 5 * (64 * 5 ^ j)) (by omega) _ (hgj.st v))
      unfold PrSpec at hpj
      rw [← pro_same v _ hgj.w, ← hft] at hrp
      have hid : sF (foldP f (t.take (j + 1))) = foldP f (t.take (j + 1)) := by rw [hft]; exact nf_id (nf_pro v hgj.w)
      have hg2 : Gd (5 * (64 * 5 ^ j)) (foldP f (t.take (j + 1))) := by rw [hft]; exact hgj.pro v
      rw [← hft] at hpj
      have hsS := s_spec _ (fitT_gd (N := 5 * (64 * 5 ^ j)) (by omega) _ hg2)
      unfold SSpec at hsS
      rw [hid] at hsS
      have hqq := rEq (foldP f (t.take (j + 1))) (foldP f (t.take (j + 1)))
      unfold REq at hqq
      rw [(eqM_iff _ _).2 rfl] at hqq
      clear hid hft
      have key : ∀ g2, foldP f (t.take (j + 1)) = g2 → fmA (foldP f (t.take (j + 1))) = fmA g2 := fun g2 h => by rw [h]
      generalize foldP f (t.take j) = g at *
      obtain ⟨g2, hg2e⟩ : ∃ g2, foldP f (t.take (j + 1)) = g2 := ⟨_, rfl⟩
      have key := key g2 hg2e
      rw [hg2e] at hpj hrp hsS hqq
      (refine goA ?_; try with_reducible exact trivial)
      apply join_eq
      · conv => whnf
        (refine goA ?_; try with_reducible exact trivial)
        (generalize hrq : rowOf _ _ (trA t) = rq; obtain rfl : rq = [.sl 1 v.length (intsA v)] := hrq.symm.trans (hrow); clear hrq; conv => whnf)
        refine ⟨?_, ?_⟩
        · conv => whnf
          (refine call0 [] rfl (fun _ => hpj) ?_; rintro r rfl; conv => whnf)
        · conv => whnf
          (refine call0 [] rfl (fun _ => hpj) ?_; rintro r rfl; conv => whnf)
          try rfl
      conv => whnf
      repeat (apply flow_go; (focus ((conv => whnf); exact ⟨rfl, rfl, rfl⟩)); (conv => whnf))
      (apply flow_go; (focus ((conv => whnf); refine ⟨by omega, ?_⟩; (generalize hrq : rowOf _ _ (trA t) = rq; obtain rfl : rq = [.sl 1 v.length (intsA v)] := hrq.symm.trans (hrow); exact ⟨rfl, rfl, rfl⟩))); (conv => whnf))
      repeat (apply flow_go; (focus ((conv => whnf); exact ⟨rfl, rfl, rfl⟩)); (conv => whnf))
      (apply flow_go; (focus ((conv => whnf); refine call0 [] rfl (fun _ => hrp) ?_; rintro r rfl; (conv => whnf); exact ⟨rfl, rfl, rfl⟩)); (conv => whnf))
      repeat (apply flow_go; (focus ((conv => whnf); exact ⟨rfl, rfl, rfl⟩)); (conv => whnf))
      (apply flow_go; (focus ((conv => whnf); refine call0 [] rfl (fun _ => hqq) ?_; rintro r rfl; (conv => whnf); exact ⟨rfl, rfl, rfl⟩)); (conv => whnf))
      repeat (apply flow_go; (focus ((conv => whnf); exact ⟨rfl, rfl, rfl⟩)); (conv => whnf))
      (apply flow_go; (focus ((conv => whnf); refine call0 [] rfl (fun _ => hsS) ?_; rintro r rfl; (conv => whnf); exact ⟨rfl, rfl, rfl⟩)); (conv => whnf))
      repeat (apply flow_go; (focus ((conv => whnf); exact ⟨rfl, rfl, rfl⟩)); (conv => whnf))
      (apply flow_go; (focus ((conv => whnf); refine call0 [] rfl (fun _ => hqq) ?_; rintro r rfl; (conv => whnf); exact ⟨rfl, rfl, rfl⟩)); (conv => whnf))
      repeat (apply flow_go; (focus ((conv => whnf); exact ⟨rfl, rfl, rfl⟩)); (conv => whnf))
      (refine goA ?_; try with_reducible exact trivial)
      subst hg2e
      refine ⟨j + 1, le_head ?_, hjk, by omega⟩
      repeat' constructor
    · (refine goA ?_; try with_reducible exact trivial)
      (refine call0 [] rfl (fun _ => lives_spec) ?_; rintro r rfl; conv => whnf)
      rfl
theorem preN_len (tr : List (List Int)) (lp m : Nat) : (preN tr lp m).length = m := by simp [preN]
set_option maxHeartbeats 2000000 in
theorem infinite_law (l m : List Int) (loop : Int) : Spec Tryd.prog 7 [] [.sl 1 l.length (intsA l), .sl 1 m.length (intsA m), intA loop] fun _ r => r = boolA true := by
  refine spec_of (cx_ok ord0 xs0 0) (fun _ _ h => h) Tryd.func7 rfl (by kernel_rfl) rfl (by kernel_rfl) ?_
  intro hok
  conv => whnf
  refine call0 [] rfl (fun _ => rFormula l) ?_
  rintro r ⟨f, hf, rfl⟩
  have hg := gf_gd hf
  conv => whnf
  refine call0 [] rfl (fun _ => rTrace m 5 (by omega)) ?_
  rintro r ⟨t, ht, rfl⟩
  have hN := pow_fit (N := 64) ht (by decide)
  have h5 := lives_spec
  conv => whnf
  by_cases h0 : t.length = 0
  · (refine goA ?_; try with_reducible exact trivial)
    (refine call0 [] rfl (fun _ => h5) ?_; rintro r rfl; conv => whnf)
    rfl
  · (refine goA ?_; try with_reducible exact trivial)
    refine call0 [] rfl (fun _ => around_spec loop t.length (by omega)) ?_
    rintro r ⟨hx, rfl⟩
    have hr := aroundF_rng hx (m := t.length) (by omega)
    obtain ⟨lp, hk⟩ : ∃ lp : Nat, aroundF loop t.length = (lp : Int) := ⟨(aroundF loop t.length).toNat, by omega⟩
    rw [hk] at hr ⊢
    have hlp : lp < t.length := by omega
    have hin := infinite_spec (N := 64) (by omega) t lp (by omega) hlp f hg
    unfold InfSpec at hin
    have hil := infF_len t lp f
    have hrb := rowOf_bools (infF t lp f) 0 (by omega)
    rw [hil] at hin
    have hso := inf_sound hlp hg.w
    have htru : tru t lp 0 f = (infF t lp f).getD 0 false := rfl
    rw [← htru] at hrb
    generalize infF t lp f = I at *
    conv => whnf
    (refine call0 [] rfl (fun _ => hin) ?_; rintro r rfl; conv => whnf)
    (refine goA ?_; try with_reducible exact trivial)
    (generalize hrq : rowOf _ _ (boolsA I) = rq; obtain rfl : rq = [.v (.bool (tru t lp 0 f))] := hrq.symm.trans (hrb); clear hrq; conv => whnf)
    generalize tru t lp 0 f = tv at *
    refine loop_row 22 1 [11] [] ?_
    conv => whnf
    refine ⟨trivial, ?_⟩
    conv => whnf
    refine loop_keep [6, 7, 8, 9, 10, 11] ?_
    conv => whnf
    refine loop_goQ (fun m : Nat => [(13, .v (.int .i64 m)), (12, .v (.int .i64 (posN t.length lp m : Nat)))]) (fun _ => [fmA f]) (fun m => [.live 22 1 m (trA (preN t lp m))]) (fun m => m ≤ 11) (fun m => 11 - m) 0 ?_ (Nat.zero_le _) ?_
    · unfold headQ
      repeat' constructor
    · clear htru hok
      rintro m hm
      conv => whnf
      by_cases hml : m ≤ 10
      · have hplen := preN_len t lp m
        have hv := value_gd hg (preN t lp m) (pow_fit (k := 10) (by omega) (by decide)) (by omega)
        obtain ⟨s1, s2⟩ := hso m
        have hpl := pos_lt hlp m
        rw [hplen] at hv
        generalize (chkF f (preN t lp m)).cls = c at *
        (refine goA ?_; try with_reducible exact trivial)
        refine callL [0] rfl (fun _ => hv) ?_
        rintro r rfl
        refine ⟨_, rfl, ?_⟩
        conv => whnf
        by_cases c0 : c = 0
        · have htv := s1 c0
          subst c0
          subst htv
          conv => whnf
          conv => whnf
          (refine goA ?_; try with_reducible exact trivial)
          have hrow := rowOf_tr t (posN t.length lp m) hpl
          (generalize hrq : rowOf _ _ (trA t) = rq; obtain rfl : rq = [.sl 1 t[posN t.length lp m].length (intsA t[posN t.length lp m])] := hrq.symm.trans (hrow); clear hrq; conv => whnf)
          refine ⟨⟨by unfold maxLen; omega, by omega⟩, ?_⟩
          conv => whnf
          have hsn := preN_succ t lp m
          rw [show t.getD (posN t.length lp m) [] = t[posN t.length lp m] by rw [List.getD_eq_getElem?_getD, List.getElem?_eq_getElem hpl]; rfl] at hsn
          have hsa : trA (preN t lp (m + 1)) = trA (preN t lp m) ++ [.sl 1 t[posN t.length lp m].length (intsA t[posN t.length lp m])] := by rw [hsn, trA_snoc]
          by_cases hend : posN t.length lp m + 1 = t.length
          · have hps : posN t.length lp (m + 1) = lp := by rw [posN]; unfold aft; rw [if_pos hend]
            (refine goA ?_; try with_reducible exact trivial)
            refine ⟨m + 1, le_head ?_, by omega, by omega⟩
            repeat' constructor
            · rw [hps]; try rfl
            · rw [hsa]
          · have hps : posN t.length lp (m + 1) = posN t.length lp m + 1 := by rw [posN]; unfold aft; rw [if_neg hend]
            (refine goA ?_; try with_reducible exact trivial)
            refine ⟨m + 1, le_head ?_, by omega, by omega⟩
            repeat' constructor
            · rw [hps]; try rfl
            · rw [hsa]
        · rw [decide_eq_false c0]
          by_cases c13 : c = 13
          · have htv := s2 c13
            subst c13
            subst htv
            conv => whnf
            conv => whnf
            (refine goA ?_; try with_reducible exact trivial)
            have hrow := rowOf_tr t (posN t.length lp m) hpl
            (generalize hrq : rowOf _ _ (trA t) = rq; obtain rfl : rq = [.sl 1 t[posN t.length lp m].length (intsA t[posN t.length lp m])] := hrq.symm.trans (hrow); clear hrq; conv => whnf)
            refine ⟨⟨by unfold maxLen; omega, by omega⟩, ?_⟩
            conv => whnf
            have hsn := preN_succ t lp m
            rw [show t.getD (posN t.length lp m) [] = t[posN t.length lp m] by rw [List.getD_eq_getElem?_getD, List.getElem?_eq_getElem hpl]; rfl] at hsn
            have hsa : trA (preN t lp (m + 1)) = trA (preN t lp m) ++ [.sl 1 t[posN t.length lp m].length (intsA t[posN t.length lp m])] := by rw [hsn, trA_snoc]
            by_cases hend : posN t.length lp m + 1 = t.length
            · have hps : posN t.length lp (m + 1) = lp := by rw [posN]; unfold aft; rw [if_pos hend]
              (refine goA ?_; try with_reducible exact trivial)
              refine ⟨m + 1, le_head ?_, by omega, by omega⟩
              repeat' constructor
              · rw [hps]; try rfl
              · rw [hsa]
            · have hps : posN t.length lp (m + 1) = posN t.length lp m + 1 := by rw [posN]; unfold aft; rw [if_neg hend]
              (refine goA ?_; try with_reducible exact trivial)
              refine ⟨m + 1, le_head ?_, by omega, by omega⟩
              repeat' constructor
              · rw [hps]; try rfl
              · rw [hsa]
          · conv => whnf
            rw [decide_eq_false c13]
            conv => whnf
            conv => whnf
            (refine goA ?_; try with_reducible exact trivial)
            have hrow := rowOf_tr t (posN t.length lp m) hpl
            (generalize hrq : rowOf _ _ (trA t) = rq; obtain rfl : rq = [.sl 1 t[posN t.length lp m].length (intsA t[posN t.length lp m])] := hrq.symm.trans (hrow); clear hrq; conv => whnf)
            refine ⟨⟨by unfold maxLen; omega, by omega⟩, ?_⟩
            conv => whnf
            have hsn := preN_succ t lp m
            rw [show t.getD (posN t.length lp m) [] = t[posN t.length lp m] by rw [List.getD_eq_getElem?_getD, List.getElem?_eq_getElem hpl]; rfl] at hsn
            have hsa : trA (preN t lp (m + 1)) = trA (preN t lp m) ++ [.sl 1 t[posN t.length lp m].length (intsA t[posN t.length lp m])] := by rw [hsn, trA_snoc]
            by_cases hend : posN t.length lp m + 1 = t.length
            · have hps : posN t.length lp (m + 1) = lp := by rw [posN]; unfold aft; rw [if_pos hend]
              (refine goA ?_; try with_reducible exact trivial)
              refine ⟨m + 1, le_head ?_, by omega, by omega⟩
              repeat' constructor
              · rw [hps]; try rfl
              · rw [hsa]
            · have hps : posN t.length lp (m + 1) = posN t.length lp m + 1 := by rw [posN]; unfold aft; rw [if_neg hend]
              (refine goA ?_; try with_reducible exact trivial)
              refine ⟨m + 1, le_head ?_, by omega, by omega⟩
              repeat' constructor
              · rw [hps]; try rfl
              · rw [hsa]
      · obtain rfl : m = 11 := by omega
        (refine goA ?_; try with_reducible exact trivial)
        (refine call0 [] rfl (fun _ => h5) ?_; rintro r rfl; conv => whnf)
        rfl
theorem tr_cut (t : List (List Int)) (k : Nat) (h : k ≤ t.length) : (k : Int).toNat - Int.toNat 0 = (t.take k).length ∧ List.take ((t.take k).length * 1) (List.drop (Int.toNat 0 * 1) (trA t)) = trA (t.take k) := by
  have e : (t.take k).length = k := by rw [List.length_take]; omega
  refine ⟨by rw [e]; simp, ?_⟩
  exact tr_take t k _ (by rw [e]; omega)
theorem row1x (x : Int) : rowOf 1 (Int.toNat 0) [intA x] = [intA x] := by
  have h := rowOf_ints [x] 0 (Nat.zero_lt_one)
  have e : intsA [x] = [intA x] := by simp [intsA]
  rw [e] at h
  exact h
set_option maxHeartbeats 2000000 in
theorem stable_law (l m : List Int) : Spec Tryd.prog 6 [] [.sl 1 l.length (intsA l), .sl 1 m.length (intsA m)] fun _ r => r = boolA true := by
  refine spec_of (cx_ok (fun id => match Nat.beq id 8 with | true => .q 0 7 .nil | false => match Nat.beq id 16 with | true => .q 0 7 .nil | false => ord6 id) xs0 0) (fun _ _ h => h) Tryd.func6 rfl (by kernel_rfl) rfl (by kernel_rfl) ?_
  intro hok
  conv => whnf
  refine call0 [] rfl (fun _ => rFormula l) ?_
  rintro r ⟨f, hf, rfl⟩
  have hg := gf_gd hf
  conv => whnf
  refine call0 [] rfl (fun _ => rTrace m 10 (by omega)) ?_
  rintro r ⟨t, ht, rfl⟩
  have hN := pow_fit (N := 64) ht (by decide)
  have h5 := lives_spec
  have h1 := check_gd hg t hN (by omega)
  have hall := fun k (hk : k ≤ t.length) => stable f t k hk hg.w
  have hall : ∀ k, k ≤ t.length → ((chkF f (t.take k)).cls = 0 ∨ (chkF f (t.take k)).cls = 13 ∨ ((chkF f (t.take k)).cls = 14 ∧ (chkF f (t.take k)).at' = none)) ∧ ((chkF f (t.take k)).cls ≠ 14 → chkF f (t.take k) = chkF f t ∧ ∃ x, (chkF f (t.take k)).at' = some x ∧ -1 ≤ x ∧ x < k ∧ (0 ≤ x → (chkF f (t.take x.toNat)).cls = 14)) := fun k hk => ⟨(hall k hk).1, (hall k hk).2⟩
  generalize hW : chkF f t = W at h1 hall
  obtain ⟨cw, ow⟩ := W
  cases ow with
  | none =>
    conv => whnf
    (refine call0 [] rfl (fun _ => h1) ?_; rintro r rfl; conv => whnf)
    refine loop_keep [4, 5, 6, 7] ?_
    conv => whnf
    refine loop_goQ (fun k : Nat => [(8, .v (.int .i64 k))]) (fun _ => [fmA f, vdA ⟨cw, none⟩]) (fun _ => []) (fun k => k ≤ t.length + 1) (fun k => t.length + 1 - k) 0 ?_ (Nat.zero_le _) ?_
    · unfold headQ
      repeat' constructor
    · clear hok
      rintro k hk
      conv => whnf
      by_cases hkl : k ≤ t.length
      · have hst := hall k hkl
        have hNk := pow_fit (N := 64) (n := (t.take k).length) (k := 10) (by rw [List.length_take]; omega) (by decide)
        have hc := check_gd hg (t.take k) hNk (by rw [List.length_take]; omega)
        have hv := value_gd hg (t.take k) hNk (by rw [List.length_take]; omega)
        obtain ⟨ec1, ec2⟩ := tr_cut t k hkl
        obtain ⟨sc, sa⟩ := hst
        generalize chkF f (t.take k) = V at *
        obtain ⟨c, o⟩ := V
        simp only at sc sa hv
        (refine goA ?_; try with_reducible exact trivial)
        cases o with
        | none =>
          obtain rfl : c = 14 := by
            rcases sc with h | h | h
            · obtain ⟨_, x, hx, _⟩ := sa (by omega)
              cases hx
            · obtain ⟨_, x, hx, _⟩ := sa (by omega)
              cases hx
            · exact h.1
          apply join_eq
          · conv => whnf
            (refine goA ?_; try with_reducible exact trivial)
            rw [ec1, ec2]
            refine ⟨?_, ?_⟩
            · conv => whnf
              (refine call0 [] rfl (fun _ => hc) ?_; rintro r rfl; conv => whnf)
            · conv => whnf
              (refine call0 [] rfl (fun _ => hc) ?_; rintro r rfl; conv => whnf)
              try rfl
          conv => whnf
          repeat (apply flow_go; (focus ((conv => whnf); exact ⟨rfl, rfl, rfl⟩)); (conv => whnf))
          apply flow_go
          · conv => whnf
            refine ⟨by omega, ?_⟩
            rw [ec1, ec2]
            exact ⟨rfl, rfl, rfl⟩
          conv => whnf
          repeat (apply flow_go; (focus ((conv => whnf); exact ⟨rfl, rfl, rfl⟩)); (conv => whnf))
          (apply flow_go; (focus ((conv => whnf); refine call0 [] rfl (fun _ => hv) ?_; rintro r rfl; (conv => whnf); exact ⟨rfl, rfl, rfl⟩)); (conv => whnf))
          repeat (apply flow_go; (focus ((conv => whnf); exact ⟨rfl, rfl, rfl⟩)); (conv => whnf))
          (refine goA ?_; try with_reducible exact trivial)
          refine ⟨k + 1, le_head ?_, by omega, by omega⟩
          repeat' constructor
        | some x =>
          have hcc : c = 0 ∨ c = 13 := by
            rcases sc with h | h | h
            · exact .inl h
            · exact .inr h
            · cases h.2
          obtain ⟨hVW, x', hx, hx1, hx2, hx3⟩ := sa (by omega)
          cases hx
          cases hVW
      · obtain rfl : k = t.length + 1 := by omega
        (refine goA ?_; try with_reducible exact trivial)
        (refine call0 [] rfl (fun _ => h5) ?_; rintro r rfl; conv => whnf)
        rfl
  | some w =>
    obtain ⟨cs, hcs⟩ : ∃ cs, cs = [intA w] := ⟨_, rfl⟩
    have evd : vdA ⟨cw, some w⟩ = vdAm cw (.sl 1 1 cs) := by rw [hcs]; rfl
    rw [evd] at h1
    conv => whnf
    (refine call0 [] rfl (fun _ => h1) ?_; rintro r rfl; conv => whnf)
    refine loop_keep [4, 5, 6, 7] ?_
    conv => whnf
    refine loop_goQ (fun k : Nat => [(8, .v (.int .i64 k))]) (fun _ => [fmA f, vdAm cw (.sl 1 1 cs)]) (fun _ => []) (fun k => k ≤ t.length + 1) (fun k => t.length + 1 - k) 0 ?_ (Nat.zero_le _) ?_
    · unfold headQ
      repeat' constructor
    · clear hok
      rintro k hk
      conv => whnf
      by_cases hkl : k ≤ t.length
      · have hst := hall k hkl
        have hNk := pow_fit (N := 64) (n := (t.take k).length) (k := 10) (by rw [List.length_take]; omega) (by decide)
        have hc := check_gd hg (t.take k) hNk (by rw [List.length_take]; omega)
        have hv := value_gd hg (t.take k) hNk (by rw [List.length_take]; omega)
        obtain ⟨ec1, ec2⟩ := tr_cut t k hkl
        obtain ⟨sc, sa⟩ := hst
        generalize chkF f (t.take k) = V at *
        obtain ⟨c, o⟩ := V
        simp only at sc sa hv
        (refine goA ?_; try with_reducible exact trivial)
        cases o with
        | none =>
          obtain rfl : c = 14 := by
            rcases sc with h | h | h
            · obtain ⟨_, x, hx, _⟩ := sa (by omega)
              cases hx
            · obtain ⟨_, x, hx, _⟩ := sa (by omega)
              cases hx
            · exact h.1
          apply join_eq
          · conv => whnf
            (refine goA ?_; try with_reducible exact trivial)
            rw [ec1, ec2]
            refine ⟨?_, ?_⟩
            · conv => whnf
              (refine call0 [] rfl (fun _ => hc) ?_; rintro r rfl; conv => whnf)
            · conv => whnf
              (refine call0 [] rfl (fun _ => hc) ?_; rintro r rfl; conv => whnf)
              try rfl
          conv => whnf
          repeat (apply flow_go; (focus ((conv => whnf); exact ⟨rfl, rfl, rfl⟩)); (conv => whnf))
          apply flow_go
          · conv => whnf
            refine ⟨by omega, ?_⟩
            rw [ec1, ec2]
            exact ⟨rfl, rfl, rfl⟩
          conv => whnf
          repeat (apply flow_go; (focus ((conv => whnf); exact ⟨rfl, rfl, rfl⟩)); (conv => whnf))
          (apply flow_go; (focus ((conv => whnf); refine call0 [] rfl (fun _ => hv) ?_; rintro r rfl; (conv => whnf); exact ⟨rfl, rfl, rfl⟩)); (conv => whnf))
          repeat (apply flow_go; (focus ((conv => whnf); exact ⟨rfl, rfl, rfl⟩)); (conv => whnf))
          (refine goA ?_; try with_reducible exact trivial)
          refine ⟨k + 1, le_head ?_, by omega, by omega⟩
          repeat' constructor
        | some x =>
          have hcc : c = 0 ∨ c = 13 := by
            rcases sc with h | h | h
            · exact .inl h
            · exact .inr h
            · cases h.2
          obtain ⟨hVW, x', hx, hx1, hx2, hx3⟩ := sa (by omega)
          cases hx
          obtain ⟨e1, e2⟩ : c = cw ∧ x = w := by cases hVW; exact ⟨rfl, rfl⟩
          subst e1
          subst e2
          rw [evd] at hc
          have hsame := rSame_refl ⟨c, some x⟩
          rw [evd] at hsame
          have hNx := pow_fit (N := 64) (n := (t.take x.toNat).length) (k := 10) (by rw [List.length_take]; omega) (by decide)
          have hvx := value_gd hg (t.take x.toNat) hNx (by rw [List.length_take]; omega)
          obtain ⟨ex1, ex2⟩ := tr_cut t x.toNat (by omega)
          have hrx : rowOf 1 (Int.toNat 0) cs = [intA x] := by rw [hcs]; exact row1x x
          have hmax : 0 ≤ x → max x 0 = ((x.toNat : Nat) : Int) := fun h => by omega
          apply join_eq
          · conv => whnf
            (refine goA ?_; try with_reducible exact trivial)
            rw [ec1, ec2]
            refine ⟨?_, ?_⟩
            · conv => whnf
              (refine call0 [] rfl (fun _ => hc) ?_; rintro r rfl; conv => whnf)
            · conv => whnf
              (refine call0 [] rfl (fun _ => hc) ?_; rintro r rfl; conv => whnf)
              try rfl
          conv => whnf
          repeat (apply flow_go; (focus ((conv => whnf); exact ⟨rfl, rfl, rfl⟩)); (conv => whnf))
          apply flow_go
          · conv => whnf
            refine ⟨by omega, ?_⟩
            rw [ec1, ec2]
            exact ⟨rfl, rfl, rfl⟩
          conv => whnf
          repeat (apply flow_go; (focus ((conv => whnf); exact ⟨rfl, rfl, rfl⟩)); (conv => whnf))
          (apply flow_go; (focus ((conv => whnf); refine call0 [] rfl (fun _ => hv) ?_; rintro r rfl; (conv => whnf); exact ⟨rfl, rfl, rfl⟩)); (conv => whnf))
          repeat (apply flow_go; (focus ((conv => whnf); exact ⟨rfl, rfl, rfl⟩)); (conv => whnf))
          rw [show decide (c = c) = true from decide_eq_true rfl]
          unfold vdAm at hsame
          rcases hcc with rfl | rfl
          · conv => whnf
            (refine call0 [] rfl (fun _ => hsame) ?_; rintro r rfl; conv => whnf)
            (refine goA ?_; try with_reducible exact trivial)
            (generalize hrq : rowOf _ _ (cs) = rq; obtain rfl : rq = [intA x] := hrq.symm.trans (hrx); clear hrq; conv => whnf)
            (iterate 3 (apply flow_go; (focus ((conv => whnf); exact ⟨rfl, rfl, rfl⟩)); (conv => whnf)))
            rw [show decide (x < -1) = false from decide_eq_false (by omega)]
            (iterate 5 (apply flow_go; (focus ((conv => whnf); exact ⟨rfl, rfl, rfl⟩)); (conv => whnf)))
            rw [show decide ((k : Int) ≤ x) = false from decide_eq_false (by omega)]
            (iterate 3 (apply flow_go; (focus ((conv => whnf); exact ⟨rfl, rfl, rfl⟩)); (conv => whnf)))
            by_cases hx0 : 0 ≤ x
            · rw [show decide (0 ≤ x) = true from decide_eq_true hx0]
              rw [hx3 hx0] at hvx
              (iterate 4 (apply flow_go; (focus ((conv => whnf); exact ⟨rfl, rfl, rfl⟩)); (conv => whnf)))
              rw [hmax hx0]
              apply flow_go
              · conv => whnf
                refine ⟨by omega, ?_⟩
                rw [ex1, ex2]
                exact ⟨rfl, rfl, rfl⟩
              conv => whnf
              (apply flow_go; (focus ((conv => whnf); refine call0 [] rfl (fun _ => hvx) ?_; rintro r rfl; (conv => whnf); exact ⟨rfl, rfl, rfl⟩)); (conv => whnf))
              repeat (apply flow_go; (focus ((conv => whnf); exact ⟨rfl, rfl, rfl⟩)); (conv => whnf))
              (refine goA ?_; try with_reducible exact trivial)
              refine ⟨k + 1, le_head ?_, by omega, by omega⟩
              repeat' constructor
            · rw [show decide (0 ≤ x) = false from decide_eq_false hx0]
              (iterate 7 (apply flow_go; (focus ((conv => whnf); done)); (conv => whnf)))
              repeat (apply flow_go; (focus ((conv => whnf); exact ⟨rfl, rfl, rfl⟩)); (conv => whnf))
              (refine goA ?_; try with_reducible exact trivial)
              refine ⟨k + 1, le_head ?_, by omega, by omega⟩
              repeat' constructor
          · conv => whnf
            (refine call0 [] rfl (fun _ => hsame) ?_; rintro r rfl; conv => whnf)
            (refine goA ?_; try with_reducible exact trivial)
            (generalize hrq : rowOf _ _ (cs) = rq; obtain rfl : rq = [intA x] := hrq.symm.trans (hrx); clear hrq; conv => whnf)
            (iterate 3 (apply flow_go; (focus ((conv => whnf); exact ⟨rfl, rfl, rfl⟩)); (conv => whnf)))
            rw [show decide (x < -1) = false from decide_eq_false (by omega)]
            (iterate 5 (apply flow_go; (focus ((conv => whnf); exact ⟨rfl, rfl, rfl⟩)); (conv => whnf)))
            rw [show decide ((k : Int) ≤ x) = false from decide_eq_false (by omega)]
            (iterate 3 (apply flow_go; (focus ((conv => whnf); exact ⟨rfl, rfl, rfl⟩)); (conv => whnf)))
            by_cases hx0 : 0 ≤ x
            · rw [show decide (0 ≤ x) = true from decide_eq_true hx0]
              rw [hx3 hx0] at hvx
              (iterate 4 (apply flow_go; (focus ((conv => whnf); exact ⟨rfl, rfl, rfl⟩)); (conv => whnf)))
              rw [hmax hx0]
              apply flow_go
              · conv => whnf
                refine ⟨by omega, ?_⟩
                rw [ex1, ex2]
                exact ⟨rfl, rfl, rfl⟩
              conv => whnf
              (apply flow_go; (focus ((conv => whnf); refine call0 [] rfl (fun _ => hvx) ?_; rintro r rfl; (conv => whnf); exact ⟨rfl, rfl, rfl⟩)); (conv => whnf))
              repeat (apply flow_go; (focus ((conv => whnf); exact ⟨rfl, rfl, rfl⟩)); (conv => whnf))
              (refine goA ?_; try with_reducible exact trivial)
              refine ⟨k + 1, le_head ?_, by omega, by omega⟩
              repeat' constructor
            · rw [show decide (0 ≤ x) = false from decide_eq_false hx0]
              (iterate 7 (apply flow_go; (focus ((conv => whnf); done)); (conv => whnf)))
              repeat (apply flow_go; (focus ((conv => whnf); exact ⟨rfl, rfl, rfl⟩)); (conv => whnf))
              (refine goA ?_; try with_reducible exact trivial)
              refine ⟨k + 1, le_head ?_, by omega, by omega⟩
              repeat' constructor
      · obtain rfl : k = t.length + 1 := by omega
        (refine goA ?_; try with_reducible exact trivial)
        (refine call0 [] rfl (fun _ => h5) ?_; rintro r rfl; conv => whnf)
        rfl
end Go.Proofs.YtpjcbadnpknncaaDoor.Vm
