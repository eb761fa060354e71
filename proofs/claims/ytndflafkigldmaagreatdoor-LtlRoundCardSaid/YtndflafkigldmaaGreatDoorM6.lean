/- Texts 6 of the proof: T73, T74. -/
import Derived.Test.YtndflafkigldmaaGreatDoorM5
namespace Go.Proofs.YtndflafkigldmaaGreatDoor.Vm
open Go.RowKit Go.Shelf
set_option linter.unusedSimpArgs false
set_option linter.unusedVariables false
set_option maxRecDepth 100000
theorem numG_horner : ∀ (l : List UInt8) (n : Nat), (∀ c ∈ l, isD c = true) → (numG n l : Int) = horner n l
  | [], n, _ => rfl
  | c :: r, n, h => by
    have hc := dig_rng (h c List.mem_cons_self)
    show (numG (10 * n + (c.toNat - 48)) r : Int) = horner (10 * (n : Int) + (c.toNat : Int) - 48) r
    rw [numG_horner r _ fun x hx => h x (List.mem_cons_of_mem _ hx)]
    congr 1
    omega
theorem numO_dec (n : Nat) : numO (decS n) = some n := by
  have hne : decS n ≠ [] := by unfold decS; split; simp; rename_i h; rw [decD_pos h]; simp
  unfold numO
  rw [if_pos ⟨hne, by unfold allD; rw [List.all_eq_true]; exact decS_isD n⟩]
  have h1 := numG_horner (decS n) 0 (decS_isD n)
  have h2 := decS_val n
  congr 1
  have : ((0 : Nat) : Int) = 0 := rfl
  rw [this] at h1
  omega
theorem idx_op (ts : List Tk) (b : Int) (hb : 0 ≤ b ∧ b ≤ 2) (h : core (hd ts) = opC b) : idxS ts cmpTs 0 = b := by
  rcases (show b = 0 ∨ b = 1 ∨ b = 2 by omega) with rfl | rfl | rfl
  · unfold cmpTs
    rw [idxS, isT_hd h, if_pos (by decide)]
  · unfold cmpTs
    rw [idxS, isT_hd h, if_neg (by decide), idxS, isT_hd h, if_pos (by decide)]; rfl
  · unfold cmpTs
    rw [idxS, isT_hd h, if_neg (by decide), idxS, isT_hd h, if_neg (by decide), idxS, isT_hd h, if_pos (by decide)]; rfl
theorem v_ne (n : Nat) {c : UInt8} {r : List UInt8} (hc : c ≠ 118) : bs (118 :: decS n) ≠ bs (c :: r) := fun e => by
  have := bs_inj e
  rw [List.cons.injEq] at this
  exact hc this.1.symm
theorem cmp_ok (a b n : Int) (h1 : 0 ≤ a ∧ a ≤ 15) (h2 : 0 ≤ b ∧ b ≤ 2) (h3 : -2147483647 ≤ n ∧ n ≤ 2147483647) (D : Nat) : PAt D 4 (wC (118 :: decS a.natAbs) :: opC b :: numC n) (.mk 1 a b n []) := fun ts r hb _ => by
  obtain ⟨c1, hb, -⟩ := hb.cons
  obtain ⟨c2, hb, -⟩ := hb.cons
  have ht := hd_text c1
  rw [show (wC (118 :: decS a.natAbs)).text = 118 :: decS a.natAbs from rfl] at ht
  show (pr D).un ts = _
  rw [pr_low]
  show unG _ ts = _
  unfold unG
  rw [show unKind (hd ts).text = none by
    rw [ht]
    unfold unKind
    rw [if_neg (show ¬ bs (118 :: decS a.natAbs) = kNot from v_ne _ (c := 33) (r := []) (by decide)), if_neg (show ¬ bs (118 :: decS a.natAbs) = kNext from v_ne _ (c := 110) (r := [101, 120, 116]) (by decide)), if_neg (show ¬ bs (118 :: decS a.natAbs) = kAlw from v_ne _ (c := 97) (r := [108, 119, 97, 121, 115]) (by decide)), if_neg (show ¬ bs (118 :: decS a.natAbs) = kEv from v_ne _ (c := 101) (r := [118, 101, 110, 116, 117, 97, 108, 108, 121]) (by decide))]]
  simp only
  have f1 : isT kTrue ts = false := by
    unfold isT
    rw [ht, decide_eq_false (show ¬ bs (118 :: decS a.natAbs) = kTrue from v_ne _ (c := 116) (r := [114, 117, 101]) (by decide))]; rfl
  have f2 : isT kFalse ts = false := by
    unfold isT
    rw [ht, decide_eq_false (show ¬ bs (118 :: decS a.natAbs) = kFalse from v_ne _ (c := 102) (r := [97, 108, 115, 101]) (by decide))]; rfl
  have f3 : isT kLp ts = false := by
    unfold isT
    rw [ht, decide_eq_false (show ¬ bs (118 :: decS a.natAbs) = kLp from v_ne _ (c := 40) (r := []) (by decide))]; rfl
  rw [f1, f2, f3, if_neg (by decide), if_neg (by decide)]
  unfold cmpF
  have hcut : cutF (hd ts).text = (bs (decS a.natAbs), true) := by
    rw [ht]
    exact cutF_v (bs_list _)
  rw [hcut]
  simp only
  rw [if_neg (by decide), bs_list, numO_dec]
  simp only
  rw [if_neg (by omega), idx_op _ b h2 c2, if_neg (by omega)]
  unfold numC at hb
  split at hb
  · obtain ⟨c3, hb, -⟩ := hb.cons
    obtain ⟨c4, hb, -⟩ := hb.cons
    have hr := hb.nil
    have hs : signF ts.tail.tail = (-1, ts.tail.tail.tail) := by
      unfold signF
      rw [isT_hd c3, if_pos (by decide)]
    rw [hs]
    simp only
    rw [(hd_kind c4).1, (hd_kind c4).2, if_neg (by show ¬ (2 : Int) ≠ 2; decide), hr]
    congr 2
    · omega
    · show -1 * ((n.natAbs : Nat) : Int) = n
      omega
  · obtain ⟨c4, hb, -⟩ := hb.cons
    have hr := hb.nil
    have hs : signF ts.tail.tail = (1, ts.tail.tail) := by
      unfold signF
      rw [if_neg (by unfold isT; rw [(hd_kind c4).1]; simp [nC])]
    rw [hs]
    simp only
    rw [(hd_kind c4).1, (hd_kind c4).2, if_neg (by show ¬ (2 : Int) ≠ 2; decide), hr]
    congr 2
    · omega
    · show 1 * ((n.natAbs : Nat) : Int) = n
      omega
theorem cst_ok (b : Bool) (D : Nat) : PAt D 4 [empC (if b = true then 3 else 4)] (constF b) := fun ts r hb _ => by
  obtain ⟨c1, hb, -⟩ := hb.cons
  have hr := hb.nil
  show (pr D).un ts = _
  rw [pr_low]
  show unG _ ts = _
  unfold unG
  rw [hd_text c1]
  cases b
  · rw [show unKind (bs (empC (if false = true then 3 else 4)).text) = none by decide]
    simp only
    rw [isT_hd c1, isT_hd c1, if_pos (by decide), hr]
    rw [decide_eq_false (by decide)]
  · rw [show unKind (bs (empC (if true = true then 3 else 4)).text) = none by decide]
    simp only
    rw [isT_hd c1, isT_hd c1, if_pos (by decide), hr]
    rw [decide_eq_true (by decide)]
theorem un_ok (k : Int) (hk : k = 2 ∨ k = 5 ∨ k = 7 ∨ k = 8) {b : List Co} {f : Fm} {D : Nat} (h : PAt D 4 b f) : PAt (D + 1) 4 (unC k :: b) (.mk k 0 0 0 [f]) := fun ts r hb _ => by
  obtain ⟨c1, hb, -⟩ := hb.cons
  show unG (some (pr D)) ts = _
  unfold unG
  rw [hd_text c1]
  have hu : unKind (bs (unC k).text) = some k := by rcases hk with rfl | rfl | rfl | rfl <;> decide
  rw [hu]
  simp only
  rw [show (pr D).un ts.tail = .ok f r from h ts.tail r hb trivial]
theorem til_ok {b c : List Co} {f g : Fm} {D : Nat} (h : PAt (D + 1) 4 b f) (k : PAt D 3 c g) : PAt (D + 1) 3 (b ++ untilC :: c) (.mk 6 0 0 0 [f, g]) := fun ts r hb hs => by
  obtain ⟨s1, b1, b2⟩ := hb.app
  obtain ⟨c1, b3, -⟩ := b2.cons
  have h1 : unG (some (pr D)) ts = .ok f s1 := h ts s1 b1 trivial
  have h2 : (pr D).ch s1.tail = .ok g r := k s1.tail r b3 hs
  show chG (unG (some (pr D))) (some (pr D)) ts = _
  unfold chG
  rw [h1]
  simp only
  rw [isT_hd c1, if_pos (by decide), h2]
theorem rt {d : Nat} {f : Fm} (h : Gf d f) : ∀ D, 2 * d + 1 ≤ D → ∀ (lv : Nat), 1 ≤ lv → lv ≤ 4 → ∀ fu, PAt (D + 1) lv (toksF f lv fu) f := by
  induction h with
  | var h1 h2 h3 =>
    rename_i d a b n
    intro D hD lv l1 l2 fu
    rw [toksF_mk]
    exact wrap (m := 4) (by omega) (.inr ⟨rfl, (by decide : (4 : Int) ≤ 5)⟩) (fun D' _ => cmp_ok a b n h1 h2 h3 D') lv l1 l2 fu
  | cst b =>
    rename_i d
    intro D hD lv l1 l2 fu
    have key := fun D' (_ : D ≤ D') => cst_ok b D'
    cases b
    · unfold constF
      rw [toksF_mk, toksFs_map, toksFs_map, toksFs_map]
      exact wrap (m := 4) (by omega) (.inr ⟨rfl, by decide⟩) key lv l1 l2 fu
    · unfold constF
      rw [toksF_mk, toksFs_map, toksFs_map, toksFs_map]
      exact wrap (m := 4) (by omega) (.inr ⟨rfl, by decide⟩) key lv l1 l2 fu
  | un hk h ih =>
    rename_i d k f
    intro D hD lv l1 l2 fu
    have key : ∀ D', D ≤ D' → PAt D' 4 (unC k :: toksF f 4 fu) (.mk k 0 0 0 [f]) := fun D' hD' => by
      obtain ⟨m, rfl⟩ : ∃ m, D' = m + 1 + 1 := ⟨D' - 2, by omega⟩
      exact un_ok k hk (ih m (by omega) 4 (by omega) (by omega) fu)
    rw [toksF_mk, toksFs_map, toksFs_map, toksFs_map]
    rcases hk with rfl | rfl | rfl | rfl
    · exact wrap (m := 4) (by omega) (.inl rfl) key lv l1 l2 fu
    · exact wrap (m := 4) (by omega) (.inl rfl) key lv l1 l2 fu
    · exact wrap (m := 4) (by omega) (.inl rfl) key lv l1 l2 fu
    · exact wrap (m := 4) (by omega) (.inl rfl) key lv l1 l2 fu
  | til h1 h2 ih1 ih2 =>
    rename_i d f g
    intro D hD lv l1 l2 fu
    have key : ∀ D', D ≤ D' → PAt D' 3 (toksF f 4 fu ++ untilC :: toksF g 3 fu) (.mk 6 0 0 0 [f, g]) := fun D' hD' => by
      obtain ⟨m, rfl⟩ : ∃ m, D' = m + 1 + 1 := ⟨D' - 2, by omega⟩
      exact til_ok (ih1 (m + 1) (by omega) 4 (by omega) (by omega) fu) (ih2 m (by omega) 3 (by omega) (by omega) fu)
    rw [toksF_mk, toksFs_map, toksFs_map, toksFs_map]
    exact wrap (m := 3) (by omega) (.inl rfl) key lv l1 l2 fu
  | jn hk hl h ih =>
    rename_i d k l
    intro D hD lv l1 l2 fu
    rw [toksF_mk, toksFs_map, toksFs_map, toksFs_map]
    rcases hk with rfl | rfl
    · have hp : precF (.mk 3 0 0 0 l) = 2 := by
        cases l with
        | nil => simp at hl
        | cons a r => rfl
      rw [hp]
      have key : ∀ D', D ≤ D' → PAt D' 2 (joinC (sepC 3) (empC 3) (l.map fun f => toksF f 3 fu)) (.mk 3 0 0 0 l) := fun D' hD' ts r hb hs => by
        obtain ⟨m, rfl⟩ : ∃ m, D' = m + 1 := ⟨D' - 1, by omega⟩
        exact liF_many (op := (pr (m + 1)).ch) (s := kAnd) (Stp := St 3) (fun ts hc => ⟨by rw [isT_hd hc]; decide, show isT kUntil ts = false by rw [isT_hd hc]; decide⟩) l hl.1 (fun f hf ts r hb hs => ih f hf m (by omega) 3 (by omega) (by omega) fu ts r hb hs) ts r hb hs.2 hs.1
      exact wrap (m := 2) (by omega) (.inl rfl) key lv l1 l2 fu
    · have hp : precF (.mk 4 0 0 0 l) = 1 := by
        cases l with
        | nil => simp at hl
        | cons a r => rfl
      rw [hp]
      have key : ∀ D', D ≤ D' → PAt D' 1 (joinC (sepC 4) (empC 4) (l.map fun f => toksF f 2 fu)) (.mk 4 0 0 0 l) := fun D' hD' ts r hb hs => by
        obtain ⟨m, rfl⟩ : ∃ m, D' = m + 1 := ⟨D' - 1, by omega⟩
        show (pr (m + 1)).fo ts = _
        rw [fo_eq]
        exact liF_many (op := opAt (m + 1) 2) (s := kOr) (Stp := St 2) (fun ts hc => ⟨by rw [isT_hd hc]; decide, show isT kUntil ts = false ∧ isT kAnd ts = false from ⟨by rw [isT_hd hc]; decide, by rw [isT_hd hc]; decide⟩⟩) l hl.1 (fun f hf ts r hb hs => ih f hf m (by omega) 2 (by omega) (by omega) fu ts r hb hs) ts r hb hs.2 hs.1
      exact wrap (m := 1) (by omega) (.inl rfl) key lv l1 l2 fu
theorem sz_gf2 {d : Nat} {f : Fm} (h : Gf d f) : ∀ lv fu, (showF f lv fu).size ≤ 40 * 4 ^ d := by
  induction h with
  | var h1 h2 h3 =>
    rename_i d a b n
    have hp : 1 ≤ 4 ^ d := Nat.pos_of_ne_zero (by simp)
    intro lv fu
    have : (showF (.mk 1 a b n []) lv fu).size ≤ 40 := by
      rw [showF_mk]
      refine Nat.le_trans (par_size _ _ _ _) ?_
      show ((⟨#[118]⟩ : ByteArray) ++ bs (decZ a) ++ opB b ++ bs (decZ n)).size + 2 ≤ _
      have zA := decZ_len a (by omega) (by omega)
      have zN := decZ_len n (by omega) (by omega)
      have e1 : (⟨#[118]⟩ : ByteArray).size = 1 := rfl
      have e2 : (opB b).size ≤ 2 := by unfold opB; split; decide; split <;> decide
      simp only [ByteArray.size_append, bs_size]
      omega
    omega
  | cst b =>
    rename_i d
    have hp : 1 ≤ 4 ^ d := Nat.pos_of_ne_zero (by simp)
    intro lv fu
    cases b
    · have := sz_jn 4 (.inr rfl) [] (by simp) 0 (by simp) lv fu
      exact Nat.le_trans this (by omega)
    · have := sz_jn 3 (.inl rfl) [] (by simp) 0 (by simp) lv fu
      exact Nat.le_trans this (by omega)
  | un hk h ih =>
    rename_i d k f
    have hp : 1 ≤ 4 ^ d := Nat.pos_of_ne_zero (by simp)
    intro lv fu
    have := sz_un k hk f _ ih lv fu
    rw [Nat.pow_succ]; omega
  | til h1 h2 ih1 ih2 =>
    rename_i d f g
    have hp : 1 ≤ 4 ^ d := Nat.pos_of_ne_zero (by simp)
    intro lv fu
    have := sz_til f g _ ih1 ih2 lv fu
    rw [Nat.pow_succ]; omega
  | jn hk hl h ih =>
    rename_i d k l
    have hp : 1 ≤ 4 ^ d := Nat.pos_of_ne_zero (by simp)
    intro lv fu
    have := sz_jn k hk l hl.2 _ ih lv fu
    rw [Nat.pow_succ]; omega
theorem parse_show {f : Fm} (h : Gf 3 f) (fu : Bool) : parseF (showF f 1 fu) = .ok f := by
  have hz := sz_gf2 h 1 fu
  rw [show 40 * 4 ^ 3 = 2560 from rfl] at hz
  obtain ⟨hT, hg⟩ := toks_gf h 1 fu
  obtain ⟨ts, h1, h2⟩ := lex_glR (toksF f 1 fu) false 0 hT.lex hT.fine
  rw [hg] at h1
  have hlx : lexF' (showF f 1 fu) = ⟨ts, none⟩ := h1
  unfold parseF
  rw [if_neg (by omega), hlx]
  simp only
  rw [rowT_none (by rw [hlx]), hlx]
  unfold parseT
  have hst : St 1 [endTk (showF f 1 fu)] := ⟨⟨rfl, rfl⟩, rfl⟩
  have hp := rt h 19 (by decide) 1 (by decide) (by decide) fu (ts ++ [endTk (showF f 1 fu)]) [endTk (showF f 1 fu)] ⟨ts, rfl, h2⟩ hst
  rw [show (pr 20).fo (ts ++ [endTk (showF f 1 fu)]) = .ok f [endTk (showF f 1 fu)] from hp]
  rfl
end Go.Proofs.YtndflafkigldmaaGreatDoor.Vm
namespace Go.Proofs.YtndflafkigldmaaGreatDoor.Vm
open Go.RowKit Go.Shelf
set_option linter.unusedSimpArgs false
set_option linter.unusedVariables false
set_option maxRecDepth 100000
theorem round_law_spec (l : List Int) : Spec Tryz.prog 3 [] [.sl 1 l.length (intsA l)] fun _ r => r = boolA true := by
  refine spec_of (cx_ok ord0 xs0 0) (fun _ _ h => h) Tryz.func3 rfl (by kernel_rfl) rfl (by kernel_rfl) ?_
  intro hok
  conv => whnf
  refine call0 [] rfl (fun _ => rFormula l) ?_
  rintro r ⟨f, hf, rfl⟩
  have h1 := print_spec hf (by decide)
  have h2 := rPrint f hf
  have h3 := rFull f hf
  have hz := sz_gf hf 1 false
  have hz2 := sz_gf hf 1 true
  have e64 : 60 * 4 ^ 3 = 3840 := rfl
  have h4 := parse_raw (showF f 1 false) (by omega)
  have h5 := parse_raw (showF f 1 true) (by omega)
  rw [parse_show hf, show parR0 (.ok f) = .tup [.agg (fmA f), intA 0, intA 0] from rfl] at h4 h5
  have h6 := rEq f f
  unfold REq at h6
  rw [(eqM_iff f f).2 rfl] at h6
  have h7 := lives_spec
  conv => whnf
  (refine call0 [] rfl (fun _ => h1) ?_; rintro r rfl; conv => whnf)
  conv => whnf
  (refine call0 [] rfl (fun _ => h4) ?_; rintro r rfl; conv => whnf)
  conv => whnf
  (refine call0 [] rfl (fun _ => h3) ?_; rintro r rfl; conv => whnf)
  conv => whnf
  (refine call0 [] rfl (fun _ => h5) ?_; rintro r rfl; conv => whnf)
  conv => whnf
  (refine call0 [] rfl (fun _ => h2) ?_; rintro r rfl; conv => whnf)
  conv => whnf
  rw [decide_eq_true rfl]
  conv => whnf
  (refine call0 [] rfl (fun _ => h6) ?_; rintro r rfl; conv => whnf)
  conv => whnf
  (refine call0 [] rfl (fun _ => h6) ?_; rintro r rfl; conv => whnf)
  conv => whnf
  (refine call0 [] rfl (fun _ => h1) ?_; rintro r rfl; conv => whnf)
  conv => whnf
  rw [decide_eq_true rfl]
  conv => whnf
  (refine call0 [] rfl (fun _ => h7) ?_; rintro r rfl; conv => whnf)
  conv => whnf
  rfl
end Go.Proofs.YtndflafkigldmaaGreatDoor.Vm
