/- The law Limits: its walk. -/
import Derived.Test.YtpjcbadnpknncaaDoorT38
namespace Go.Proofs.YtpjcbadnpknncaaDoor.Vm
open Go.RowKit Go.Shelf
set_option linter.unusedSimpArgs false
set_option linter.unusedVariables false
set_option maxRecDepth 100000
set_option maxHeartbeats 2000000 in
theorem limits_law (depth how number : Int) : Spec Tryd.prog 9 [] [intA depth, intA how, intA number] fun _ r => r = boolA true := by
  refine spec_of (cx_ok ord0 xs0 0) (fun _ _ h => h) Tryd.func9 rfl (by kernel_rfl) rfl (by kernel_rfl) ?_
  intro hok
  conv => whnf
  refine call0 [] rfl (fun _ => around_spec depth 26 (by omega)) ?_
  rintro r ⟨hx1, rfl⟩
  have hr1 := aroundF_rng hx1 (m := 26) (by omega)
  obtain ⟨d, hd⟩ : ∃ d : Nat, aroundF depth 26 = (d : Int) := ⟨(aroundF depth 26).toNat, by omega⟩
  rw [hd] at hr1 ⊢
  conv => whnf
  refine call0 [] rfl (fun _ => around_spec how 4 (by omega)) ?_
  rintro r ⟨hx2, rfl⟩
  have hr2 := aroundF_rng hx2 (m := 4) (by omega)
  obtain ⟨k, hk⟩ : ∃ k : Nat, aroundF how 4 = (k : Int) := ⟨(aroundF how 4).toNat, by omega⟩
  rw [hk] at hr2 ⊢
  have hlim := lim_at (k := k) (d := d) (by omega) (by omega)
  have hlen := limT_len (k := k) (d := d) (by omega) (by omega)
  have hpar := parse_raw (bs (limT k d)) (by rw [bs_size]; omega)
  unfold limOk at hlim
  have hop : ∀ b : List UInt8, b.length ≤ 1000 → _ := fun b hb => repeat_spec b d (by omega) hb
  rcases (show k = 0 ∨ k = 1 ∨ k = 2 ∨ k = 3 by omega) with rfl | rfl | rfl | rfl
  · have ho := hop (opB 0) (by decide)
    have hc := hop (clB 0) (by decide)
    have hl1 := repB_len (opB 0) d
    have hl2 := repB_len (clB 0) d
    have hlT : (limT 0 d).length = (repB (opB 0) d).length + 5 + (repB (clB 0) d).length := by
      unfold limT
      rw [List.length_append, List.length_append]
      rfl
    have e1 : bs (repB (opB 0) d) ++ (⟨#[118, 49, 61, 61, 50]⟩ : ByteArray) ++ bs (repB (clB 0) d) = bs (limT 0 d) := by
      rw [show (⟨#[118, 49, 61, 61, 50]⟩ : ByteArray) = bs [118, 49, 61, 61, 50] from rfl, bs_app, bs_app]
      rfl
    conv => whnf
    (refine goA ?_; try with_reducible exact trivial)
    (refine call0 [] rfl (fun _ => ho) ?_; rintro r rfl; conv => whnf)
    refine ⟨by rw [bs_size]; show _ + 5 ≤ maxLen; unfold maxLen; omega, ?_⟩
    conv => whnf
    (refine call0 [] rfl (fun _ => hc) ?_; rintro r rfl; conv => whnf)
    refine ⟨by rw [show (⟨#[118, 49, 61, 61, 50]⟩ : ByteArray) = bs [118, 49, 61, 61, 50] from rfl, bs_app, bs_size, bs_size, List.length_append]; show _ + 5 + _ ≤ maxLen; unfold maxLen; omega, ?_⟩
    rw [e1]
    conv => whnf
    cases hp : parseF (bs (limT 0 d)) with
    | ok f =>
      rw [hp] at hlim hpar
      simp only [Bool.and_eq_true, Bool.or_eq_true, decide_eq_true_eq] at hlim
      obtain ⟨hd20, hf⟩ := hlim
      unfold parR0 at hpar
      simp only at hpar
      (refine call0 [] rfl (fun _ => hpar) ?_; rintro r rfl; conv => whnf)
      (refine goA ?_; try with_reducible exact trivial)
      refine call0 [] rfl (fun _ => around_spec number 31 (by omega)) ?_
      rintro r ⟨hx3, rfl⟩
      have hr3 := aroundF_rng hx3 (m := 31) (by omega)
      obtain ⟨n, hn⟩ : ∃ n : Nat, aroundF number 31 = (n : Int) := ⟨(aroundF number 31).toNat, by omega⟩
      rw [hn] at hr3 ⊢
      have hv := limV_at (n := n) (by omega)
      have hds := decimal_spec n (by omega)
      rw [decS_dd (by omega)] at hds
      have hdl : (ddB n).length ≤ 2 := by unfold ddB; split <;> simp
      have es : (⟨#[116, 114, 117, 101, 38, 38, 118]⟩ : ByteArray) ++ bs (ddB n) ++ ⟨#[62, 48]⟩ = bs (limV n) := by
        rw [show (⟨#[116, 114, 117, 101, 38, 38, 118]⟩ : ByteArray) = bs [116, 114, 117, 101, 38, 38, 118] from rfl, show (⟨#[62, 48]⟩ : ByteArray) = bs [62, 48] from rfl, bs_app, bs_app]
        rfl
      have hpv := parse_raw (bs (limV n)) (by rw [bs_size]; unfold limV; simp only [List.length_append, List.length_cons, List.length_nil]; omega)
      unfold limVOk at hv
      have hfive := lives_spec
      conv => whnf
      (refine call0 [] rfl (fun _ => hds) ?_; rintro r rfl; conv => whnf)
      refine ⟨by rw [bs_size]; show 7 + _ ≤ maxLen; unfold maxLen; omega, ?_⟩
      conv => whnf
      refine ⟨by rw [show (⟨#[116, 114, 117, 101, 38, 38, 118]⟩ : ByteArray) = bs [116, 114, 117, 101, 38, 38, 118] from rfl, bs_app, bs_size, List.length_append]; show 7 + _ + 2 ≤ maxLen; unfold maxLen; omega, ?_⟩
      rw [es]
      conv => whnf
      cases hp2 : parseF (bs (limV n)) with
      | ok g =>
        rw [hp2] at hv hpv
        simp only [Bool.and_eq_true, decide_eq_true_eq] at hv
        obtain ⟨hn15, hg2, hga, hgb⟩ := hv
        have hr1 := row1 (l := g.kids) (by omega)
        unfold parR0 at hpv
        simp only at hpv
        (refine call0 [] rfl (fun _ => hpv) ?_; rintro r rfl; conv => whnf)
        (refine goA ?_; try with_reducible exact trivial)
        (generalize hrq : rowOf _ _ (fmsA g.kids) = rq; obtain rfl : rq = fmA (g1 g.kids) := hrq.symm.trans (hr1); clear hrq; conv => whnf)
        generalize g1 g.kids = y at *
        (refine goA ?_; try with_reducible exact trivial)
        (generalize hrq : rowOf _ _ (fmsA g.kids) = rq; obtain rfl : rq = fmA y := hrq.symm.trans (hr1); clear hrq; conv => whnf)
        (refine goA ?_; try with_reducible exact trivial)
        (refine call0 [] rfl (fun _ => hfive) ?_; rintro r rfl; conv => whnf)
        rfl
      | bad p2 e2 =>
        rw [hp2] at hv hpv
        simp only [Bool.and_eq_true, decide_eq_true_eq] at hv
        obtain ⟨hn15, rfl, rfl⟩ := hv
        unfold parR0 at hpv
        simp only at hpv
        (refine call0 [] rfl (fun _ => hpv) ?_; rintro r rfl; conv => whnf)
        (refine goA ?_; try with_reducible exact trivial)
        (refine call0 [] rfl (fun _ => hfive) ?_; rintro r rfl; conv => whnf)
        rfl
    | bad p e =>
      rw [hp] at hlim hpar
      simp only [Bool.and_eq_true, decide_eq_true_eq] at hlim
      obtain ⟨hd20, rfl, hpo⟩ := hlim
      have hpo : p = 20 := by rw [hpo]; rfl
      subst hpo
      unfold parR0 at hpar
      simp only at hpar
      (refine call0 [] rfl (fun _ => hpar) ?_; rintro r rfl; conv => whnf)
      (refine goA ?_; try with_reducible exact trivial)
      refine call0 [] rfl (fun _ => around_spec number 31 (by omega)) ?_
      rintro r ⟨hx3, rfl⟩
      have hr3 := aroundF_rng hx3 (m := 31) (by omega)
      obtain ⟨n, hn⟩ : ∃ n : Nat, aroundF number 31 = (n : Int) := ⟨(aroundF number 31).toNat, by omega⟩
      rw [hn] at hr3 ⊢
      have hv := limV_at (n := n) (by omega)
      have hds := decimal_spec n (by omega)
      rw [decS_dd (by omega)] at hds
      have hdl : (ddB n).length ≤ 2 := by unfold ddB; split <;> simp
      have es : (⟨#[116, 114, 117, 101, 38, 38, 118]⟩ : ByteArray) ++ bs (ddB n) ++ ⟨#[62, 48]⟩ = bs (limV n) := by
        rw [show (⟨#[116, 114, 117, 101, 38, 38, 118]⟩ : ByteArray) = bs [116, 114, 117, 101, 38, 38, 118] from rfl, show (⟨#[62, 48]⟩ : ByteArray) = bs [62, 48] from rfl, bs_app, bs_app]
        rfl
      have hpv := parse_raw (bs (limV n)) (by rw [bs_size]; unfold limV; simp only [List.length_append, List.length_cons, List.length_nil]; omega)
      unfold limVOk at hv
      have hfive := lives_spec
      conv => whnf
      (refine call0 [] rfl (fun _ => hds) ?_; rintro r rfl; conv => whnf)
      refine ⟨by rw [bs_size]; show 7 + _ ≤ maxLen; unfold maxLen; omega, ?_⟩
      conv => whnf
      refine ⟨by rw [show (⟨#[116, 114, 117, 101, 38, 38, 118]⟩ : ByteArray) = bs [116, 114, 117, 101, 38, 38, 118] from rfl, bs_app, bs_size, List.length_append]; show 7 + _ + 2 ≤ maxLen; unfold maxLen; omega, ?_⟩
      rw [es]
      conv => whnf
      cases hp2 : parseF (bs (limV n)) with
      | ok g =>
        rw [hp2] at hv hpv
        simp only [Bool.and_eq_true, decide_eq_true_eq] at hv
        obtain ⟨hn15, hg2, hga, hgb⟩ := hv
        have hr1 := row1 (l := g.kids) (by omega)
        unfold parR0 at hpv
        simp only at hpv
        (refine call0 [] rfl (fun _ => hpv) ?_; rintro r rfl; conv => whnf)
        (refine goA ?_; try with_reducible exact trivial)
        (generalize hrq : rowOf _ _ (fmsA g.kids) = rq; obtain rfl : rq = fmA (g1 g.kids) := hrq.symm.trans (hr1); clear hrq; conv => whnf)
        generalize g1 g.kids = y at *
        (refine goA ?_; try with_reducible exact trivial)
        (generalize hrq : rowOf _ _ (fmsA g.kids) = rq; obtain rfl : rq = fmA y := hrq.symm.trans (hr1); clear hrq; conv => whnf)
        (refine goA ?_; try with_reducible exact trivial)
        (refine call0 [] rfl (fun _ => hfive) ?_; rintro r rfl; conv => whnf)
        rfl
      | bad p2 e2 =>
        rw [hp2] at hv hpv
        simp only [Bool.and_eq_true, decide_eq_true_eq] at hv
        obtain ⟨hn15, rfl, rfl⟩ := hv
        unfold parR0 at hpv
        simp only at hpv
        (refine call0 [] rfl (fun _ => hpv) ?_; rintro r rfl; conv => whnf)
        (refine goA ?_; try with_reducible exact trivial)
        (refine call0 [] rfl (fun _ => hfive) ?_; rintro r rfl; conv => whnf)
        rfl
  · have ho := hop (opB 1) (by decide)
    have hc := hop (clB 1) (by decide)
    have hl1 := repB_len (opB 1) d
    have hl2 := repB_len (clB 1) d
    have hlT : (limT 1 d).length = (repB (opB 1) d).length + 5 + (repB (clB 1) d).length := by
      unfold limT
      rw [List.length_append, List.length_append]
      rfl
    have e1 : bs (repB (opB 1) d) ++ (⟨#[118, 49, 61, 61, 50]⟩ : ByteArray) ++ bs (repB (clB 1) d) = bs (limT 1 d) := by
      rw [show (⟨#[118, 49, 61, 61, 50]⟩ : ByteArray) = bs [118, 49, 61, 61, 50] from rfl, bs_app, bs_app]
      rfl
    conv => whnf
    (refine goA ?_; try with_reducible exact trivial)
    (refine call0 [] rfl (fun _ => ho) ?_; rintro r rfl; conv => whnf)
    refine ⟨by rw [bs_size]; show _ + 5 ≤ maxLen; unfold maxLen; omega, ?_⟩
    conv => whnf
    (refine call0 [] rfl (fun _ => hc) ?_; rintro r rfl; conv => whnf)
    refine ⟨by rw [show (⟨#[118, 49, 61, 61, 50]⟩ : ByteArray) = bs [118, 49, 61, 61, 50] from rfl, bs_app, bs_size, bs_size, List.length_append]; show _ + 5 + _ ≤ maxLen; unfold maxLen; omega, ?_⟩
    rw [e1]
    conv => whnf
    cases hp : parseF (bs (limT 1 d)) with
    | ok f =>
      rw [hp] at hlim hpar
      simp only [Bool.and_eq_true, Bool.or_eq_true, decide_eq_true_eq] at hlim
      obtain ⟨hd20, hf⟩ := hlim
      unfold parR0 at hpar
      simp only at hpar
      (refine call0 [] rfl (fun _ => hpar) ?_; rintro r rfl; conv => whnf)
      (refine goA ?_; try with_reducible exact trivial)
      refine call0 [] rfl (fun _ => around_spec number 31 (by omega)) ?_
      rintro r ⟨hx3, rfl⟩
      have hr3 := aroundF_rng hx3 (m := 31) (by omega)
      obtain ⟨n, hn⟩ : ∃ n : Nat, aroundF number 31 = (n : Int) := ⟨(aroundF number 31).toNat, by omega⟩
      rw [hn] at hr3 ⊢
      have hv := limV_at (n := n) (by omega)
      have hds := decimal_spec n (by omega)
      rw [decS_dd (by omega)] at hds
      have hdl : (ddB n).length ≤ 2 := by unfold ddB; split <;> simp
      have es : (⟨#[116, 114, 117, 101, 38, 38, 118]⟩ : ByteArray) ++ bs (ddB n) ++ ⟨#[62, 48]⟩ = bs (limV n) := by
        rw [show (⟨#[116, 114, 117, 101, 38, 38, 118]⟩ : ByteArray) = bs [116, 114, 117, 101, 38, 38, 118] from rfl, show (⟨#[62, 48]⟩ : ByteArray) = bs [62, 48] from rfl, bs_app, bs_app]
        rfl
      have hpv := parse_raw (bs (limV n)) (by rw [bs_size]; unfold limV; simp only [List.length_append, List.length_cons, List.length_nil]; omega)
      unfold limVOk at hv
      have hfive := lives_spec
      conv => whnf
      (refine call0 [] rfl (fun _ => hds) ?_; rintro r rfl; conv => whnf)
      refine ⟨by rw [bs_size]; show 7 + _ ≤ maxLen; unfold maxLen; omega, ?_⟩
      conv => whnf
      refine ⟨by rw [show (⟨#[116, 114, 117, 101, 38, 38, 118]⟩ : ByteArray) = bs [116, 114, 117, 101, 38, 38, 118] from rfl, bs_app, bs_size, List.length_append]; show 7 + _ + 2 ≤ maxLen; unfold maxLen; omega, ?_⟩
      rw [es]
      conv => whnf
      cases hp2 : parseF (bs (limV n)) with
      | ok g =>
        rw [hp2] at hv hpv
        simp only [Bool.and_eq_true, decide_eq_true_eq] at hv
        obtain ⟨hn15, hg2, hga, hgb⟩ := hv
        have hr1 := row1 (l := g.kids) (by omega)
        unfold parR0 at hpv
        simp only at hpv
        (refine call0 [] rfl (fun _ => hpv) ?_; rintro r rfl; conv => whnf)
        (refine goA ?_; try with_reducible exact trivial)
        (generalize hrq : rowOf _ _ (fmsA g.kids) = rq; obtain rfl : rq = fmA (g1 g.kids) := hrq.symm.trans (hr1); clear hrq; conv => whnf)
        generalize g1 g.kids = y at *
        (refine goA ?_; try with_reducible exact trivial)
        (generalize hrq : rowOf _ _ (fmsA g.kids) = rq; obtain rfl : rq = fmA y := hrq.symm.trans (hr1); clear hrq; conv => whnf)
        (refine goA ?_; try with_reducible exact trivial)
        (refine call0 [] rfl (fun _ => hfive) ?_; rintro r rfl; conv => whnf)
        rfl
      | bad p2 e2 =>
        rw [hp2] at hv hpv
        simp only [Bool.and_eq_true, decide_eq_true_eq] at hv
        obtain ⟨hn15, rfl, rfl⟩ := hv
        unfold parR0 at hpv
        simp only at hpv
        (refine call0 [] rfl (fun _ => hpv) ?_; rintro r rfl; conv => whnf)
        (refine goA ?_; try with_reducible exact trivial)
        (refine call0 [] rfl (fun _ => hfive) ?_; rintro r rfl; conv => whnf)
        rfl
    | bad p e =>
      rw [hp] at hlim hpar
      simp only [Bool.and_eq_true, decide_eq_true_eq] at hlim
      obtain ⟨hd20, rfl, hpo⟩ := hlim
      have hpo : p = 20 := by rw [hpo]; rfl
      subst hpo
      unfold parR0 at hpar
      simp only at hpar
      (refine call0 [] rfl (fun _ => hpar) ?_; rintro r rfl; conv => whnf)
      (refine goA ?_; try with_reducible exact trivial)
      refine call0 [] rfl (fun _ => around_spec number 31 (by omega)) ?_
      rintro r ⟨hx3, rfl⟩
      have hr3 := aroundF_rng hx3 (m := 31) (by omega)
      obtain ⟨n, hn⟩ : ∃ n : Nat, aroundF number 31 = (n : Int) := ⟨(aroundF number 31).toNat, by omega⟩
      rw [hn] at hr3 ⊢
      have hv := limV_at (n := n) (by omega)
      have hds := decimal_spec n (by omega)
      rw [decS_dd (by omega)] at hds
      have hdl : (ddB n).length ≤ 2 := by unfold ddB; split <;> simp
      have es : (⟨#[116, 114, 117, 101, 38, 38, 118]⟩ : ByteArray) ++ bs (ddB n) ++ ⟨#[62, 48]⟩ = bs (limV n) := by
        rw [show (⟨#[116, 114, 117, 101, 38, 38, 118]⟩ : ByteArray) = bs [116, 114, 117, 101, 38, 38, 118] from rfl, show (⟨#[62, 48]⟩ : ByteArray) = bs [62, 48] from rfl, bs_app, bs_app]
        rfl
      have hpv := parse_raw (bs (limV n)) (by rw [bs_size]; unfold limV; simp only [List.length_append, List.length_cons, List.length_nil]; omega)
      unfold limVOk at hv
      have hfive := lives_spec
      conv => whnf
      (refine call0 [] rfl (fun _ => hds) ?_; rintro r rfl; conv => whnf)
      refine ⟨by rw [bs_size]; show 7 + _ ≤ maxLen; unfold maxLen; omega, ?_⟩
      conv => whnf
      refine ⟨by rw [show (⟨#[116, 114, 117, 101, 38, 38, 118]⟩ : ByteArray) = bs [116, 114, 117, 101, 38, 38, 118] from rfl, bs_app, bs_size, List.length_append]; show 7 + _ + 2 ≤ maxLen; unfold maxLen; omega, ?_⟩
      rw [es]
      conv => whnf
      cases hp2 : parseF (bs (limV n)) with
      | ok g =>
        rw [hp2] at hv hpv
        simp only [Bool.and_eq_true, decide_eq_true_eq] at hv
        obtain ⟨hn15, hg2, hga, hgb⟩ := hv
        have hr1 := row1 (l := g.kids) (by omega)
        unfold parR0 at hpv
        simp only at hpv
        (refine call0 [] rfl (fun _ => hpv) ?_; rintro r rfl; conv => whnf)
        (refine goA ?_; try with_reducible exact trivial)
        (generalize hrq : rowOf _ _ (fmsA g.kids) = rq; obtain rfl : rq = fmA (g1 g.kids) := hrq.symm.trans (hr1); clear hrq; conv => whnf)
        generalize g1 g.kids = y at *
        (refine goA ?_; try with_reducible exact trivial)
        (generalize hrq : rowOf _ _ (fmsA g.kids) = rq; obtain rfl : rq = fmA y := hrq.symm.trans (hr1); clear hrq; conv => whnf)
        (refine goA ?_; try with_reducible exact trivial)
        (refine call0 [] rfl (fun _ => hfive) ?_; rintro r rfl; conv => whnf)
        rfl
      | bad p2 e2 =>
        rw [hp2] at hv hpv
        simp only [Bool.and_eq_true, decide_eq_true_eq] at hv
        obtain ⟨hn15, rfl, rfl⟩ := hv
        unfold parR0 at hpv
        simp only at hpv
        (refine call0 [] rfl (fun _ => hpv) ?_; rintro r rfl; conv => whnf)
        (refine goA ?_; try with_reducible exact trivial)
        (refine call0 [] rfl (fun _ => hfive) ?_; rintro r rfl; conv => whnf)
        rfl
  · have ho := hop (opB 2) (by decide)
    have hc := hop (clB 2) (by decide)
    have hl1 := repB_len (opB 2) d
    have hl2 := repB_len (clB 2) d
    have hlT : (limT 2 d).length = (repB (opB 2) d).length + 5 + (repB (clB 2) d).length := by
      unfold limT
      rw [List.length_append, List.length_append]
      rfl
    have e1 : bs (repB (opB 2) d) ++ (⟨#[118, 49, 61, 61, 50]⟩ : ByteArray) ++ bs (repB (clB 2) d) = bs (limT 2 d) := by
      rw [show (⟨#[118, 49, 61, 61, 50]⟩ : ByteArray) = bs [118, 49, 61, 61, 50] from rfl, bs_app, bs_app]
      rfl
    conv => whnf
    (refine goA ?_; try with_reducible exact trivial)
    (refine call0 [] rfl (fun _ => ho) ?_; rintro r rfl; conv => whnf)
    refine ⟨by rw [bs_size]; show _ + 5 ≤ maxLen; unfold maxLen; omega, ?_⟩
    conv => whnf
    (refine call0 [] rfl (fun _ => hc) ?_; rintro r rfl; conv => whnf)
    refine ⟨by rw [show (⟨#[118, 49, 61, 61, 50]⟩ : ByteArray) = bs [118, 49, 61, 61, 50] from rfl, bs_app, bs_size, bs_size, List.length_append]; show _ + 5 + _ ≤ maxLen; unfold maxLen; omega, ?_⟩
    rw [e1]
    conv => whnf
    cases hp : parseF (bs (limT 2 d)) with
    | ok f =>
      rw [hp] at hlim hpar
      simp only [Bool.and_eq_true, Bool.or_eq_true, decide_eq_true_eq] at hlim
      obtain ⟨hd20, hf⟩ := hlim
      unfold parR0 at hpar
      simp only at hpar
      (refine call0 [] rfl (fun _ => hpar) ?_; rintro r rfl; conv => whnf)
      (refine goA ?_; try with_reducible exact trivial)
      refine call0 [] rfl (fun _ => around_spec number 31 (by omega)) ?_
      rintro r ⟨hx3, rfl⟩
      have hr3 := aroundF_rng hx3 (m := 31) (by omega)
      obtain ⟨n, hn⟩ : ∃ n : Nat, aroundF number 31 = (n : Int) := ⟨(aroundF number 31).toNat, by omega⟩
      rw [hn] at hr3 ⊢
      have hv := limV_at (n := n) (by omega)
      have hds := decimal_spec n (by omega)
      rw [decS_dd (by omega)] at hds
      have hdl : (ddB n).length ≤ 2 := by unfold ddB; split <;> simp
      have es : (⟨#[116, 114, 117, 101, 38, 38, 118]⟩ : ByteArray) ++ bs (ddB n) ++ ⟨#[62, 48]⟩ = bs (limV n) := by
        rw [show (⟨#[116, 114, 117, 101, 38, 38, 118]⟩ : ByteArray) = bs [116, 114, 117, 101, 38, 38, 118] from rfl, show (⟨#[62, 48]⟩ : ByteArray) = bs [62, 48] from rfl, bs_app, bs_app]
        rfl
      have hpv := parse_raw (bs (limV n)) (by rw [bs_size]; unfold limV; simp only [List.length_append, List.length_cons, List.length_nil]; omega)
      unfold limVOk at hv
      have hfive := lives_spec
      conv => whnf
      (refine call0 [] rfl (fun _ => hds) ?_; rintro r rfl; conv => whnf)
      refine ⟨by rw [bs_size]; show 7 + _ ≤ maxLen; unfold maxLen; omega, ?_⟩
      conv => whnf
      refine ⟨by rw [show (⟨#[116, 114, 117, 101, 38, 38, 118]⟩ : ByteArray) = bs [116, 114, 117, 101, 38, 38, 118] from rfl, bs_app, bs_size, List.length_append]; show 7 + _ + 2 ≤ maxLen; unfold maxLen; omega, ?_⟩
      rw [es]
      conv => whnf
      cases hp2 : parseF (bs (limV n)) with
      | ok g =>
        rw [hp2] at hv hpv
        simp only [Bool.and_eq_true, decide_eq_true_eq] at hv
        obtain ⟨hn15, hg2, hga, hgb⟩ := hv
        have hr1 := row1 (l := g.kids) (by omega)
        unfold parR0 at hpv
        simp only at hpv
        (refine call0 [] rfl (fun _ => hpv) ?_; rintro r rfl; conv => whnf)
        (refine goA ?_; try with_reducible exact trivial)
        (generalize hrq : rowOf _ _ (fmsA g.kids) = rq; obtain rfl : rq = fmA (g1 g.kids) := hrq.symm.trans (hr1); clear hrq; conv => whnf)
        generalize g1 g.kids = y at *
        (refine goA ?_; try with_reducible exact trivial)
        (generalize hrq : rowOf _ _ (fmsA g.kids) = rq; obtain rfl : rq = fmA y := hrq.symm.trans (hr1); clear hrq; conv => whnf)
        (refine goA ?_; try with_reducible exact trivial)
        (refine call0 [] rfl (fun _ => hfive) ?_; rintro r rfl; conv => whnf)
        rfl
      | bad p2 e2 =>
        rw [hp2] at hv hpv
        simp only [Bool.and_eq_true, decide_eq_true_eq] at hv
        obtain ⟨hn15, rfl, rfl⟩ := hv
        unfold parR0 at hpv
        simp only at hpv
        (refine call0 [] rfl (fun _ => hpv) ?_; rintro r rfl; conv => whnf)
        (refine goA ?_; try with_reducible exact trivial)
        (refine call0 [] rfl (fun _ => hfive) ?_; rintro r rfl; conv => whnf)
        rfl
    | bad p e =>
      rw [hp] at hlim hpar
      simp only [Bool.and_eq_true, decide_eq_true_eq] at hlim
      obtain ⟨hd20, rfl, hpo⟩ := hlim
      have hpo : p = 100 := by rw [hpo]; rfl
      subst hpo
      unfold parR0 at hpar
      simp only at hpar
      (refine call0 [] rfl (fun _ => hpar) ?_; rintro r rfl; conv => whnf)
      (refine goA ?_; try with_reducible exact trivial)
      refine call0 [] rfl (fun _ => around_spec number 31 (by omega)) ?_
      rintro r ⟨hx3, rfl⟩
      have hr3 := aroundF_rng hx3 (m := 31) (by omega)
      obtain ⟨n, hn⟩ : ∃ n : Nat, aroundF number 31 = (n : Int) := ⟨(aroundF number 31).toNat, by omega⟩
      rw [hn] at hr3 ⊢
      have hv := limV_at (n := n) (by omega)
      have hds := decimal_spec n (by omega)
      rw [decS_dd (by omega)] at hds
      have hdl : (ddB n).length ≤ 2 := by unfold ddB; split <;> simp
      have es : (⟨#[116, 114, 117, 101, 38, 38, 118]⟩ : ByteArray) ++ bs (ddB n) ++ ⟨#[62, 48]⟩ = bs (limV n) := by
        rw [show (⟨#[116, 114, 117, 101, 38, 38, 118]⟩ : ByteArray) = bs [116, 114, 117, 101, 38, 38, 118] from rfl, show (⟨#[62, 48]⟩ : ByteArray) = bs [62, 48] from rfl, bs_app, bs_app]
        rfl
      have hpv := parse_raw (bs (limV n)) (by rw [bs_size]; unfold limV; simp only [List.length_append, List.length_cons, List.length_nil]; omega)
      unfold limVOk at hv
      have hfive := lives_spec
      conv => whnf
      (refine call0 [] rfl (fun _ => hds) ?_; rintro r rfl; conv => whnf)
      refine ⟨by rw [bs_size]; show 7 + _ ≤ maxLen; unfold maxLen; omega, ?_⟩
      conv => whnf
      refine ⟨by rw [show (⟨#[116, 114, 117, 101, 38, 38, 118]⟩ : ByteArray) = bs [116, 114, 117, 101, 38, 38, 118] from rfl, bs_app, bs_size, List.length_append]; show 7 + _ + 2 ≤ maxLen; unfold maxLen; omega, ?_⟩
      rw [es]
      conv => whnf
      cases hp2 : parseF (bs (limV n)) with
      | ok g =>
        rw [hp2] at hv hpv
        simp only [Bool.and_eq_true, decide_eq_true_eq] at hv
        obtain ⟨hn15, hg2, hga, hgb⟩ := hv
        have hr1 := row1 (l := g.kids) (by omega)
        unfold parR0 at hpv
        simp only at hpv
        (refine call0 [] rfl (fun _ => hpv) ?_; rintro r rfl; conv => whnf)
        (refine goA ?_; try with_reducible exact trivial)
        (generalize hrq : rowOf _ _ (fmsA g.kids) = rq; obtain rfl : rq = fmA (g1 g.kids) := hrq.symm.trans (hr1); clear hrq; conv => whnf)
        generalize g1 g.kids = y at *
        (refine goA ?_; try with_reducible exact trivial)
        (generalize hrq : rowOf _ _ (fmsA g.kids) = rq; obtain rfl : rq = fmA y := hrq.symm.trans (hr1); clear hrq; conv => whnf)
        (refine goA ?_; try with_reducible exact trivial)
        (refine call0 [] rfl (fun _ => hfive) ?_; rintro r rfl; conv => whnf)
        rfl
      | bad p2 e2 =>
        rw [hp2] at hv hpv
        simp only [Bool.and_eq_true, decide_eq_true_eq] at hv
        obtain ⟨hn15, rfl, rfl⟩ := hv
        unfold parR0 at hpv
        simp only at hpv
        (refine call0 [] rfl (fun _ => hpv) ?_; rintro r rfl; conv => whnf)
        (refine goA ?_; try with_reducible exact trivial)
        (refine call0 [] rfl (fun _ => hfive) ?_; rintro r rfl; conv => whnf)
        rfl
  · have ho := hop (opB 3) (by decide)
    have hc := hop (clB 3) (by decide)
    have hl1 := repB_len (opB 3) d
    have hl2 := repB_len (clB 3) d
    have hlT : (limT 3 d).length = (repB (opB 3) d).length + 5 + (repB (clB 3) d).length := by
      unfold limT
      rw [List.length_append, List.length_append]
      rfl
    have e1 : bs (repB (opB 3) d) ++ (⟨#[118, 49, 61, 61, 50]⟩ : ByteArray) ++ bs (repB (clB 3) d) = bs (limT 3 d) := by
      rw [show (⟨#[118, 49, 61, 61, 50]⟩ : ByteArray) = bs [118, 49, 61, 61, 50] from rfl, bs_app, bs_app]
      rfl
    conv => whnf
    (refine goA ?_; try with_reducible exact trivial)
    (refine call0 [] rfl (fun _ => ho) ?_; rintro r rfl; conv => whnf)
    refine ⟨by rw [bs_size]; show _ + 5 ≤ maxLen; unfold maxLen; omega, ?_⟩
    conv => whnf
    (refine call0 [] rfl (fun _ => hc) ?_; rintro r rfl; conv => whnf)
    refine ⟨by rw [show (⟨#[118, 49, 61, 61, 50]⟩ : ByteArray) = bs [118, 49, 61, 61, 50] from rfl, bs_app, bs_size, bs_size, List.length_append]; show _ + 5 + _ ≤ maxLen; unfold maxLen; omega, ?_⟩
    rw [e1]
    conv => whnf
    cases hp : parseF (bs (limT 3 d)) with
    | ok f =>
      rw [hp] at hlim hpar
      simp only [Bool.and_eq_true, Bool.or_eq_true, decide_eq_true_eq] at hlim
      obtain ⟨hd20, hf⟩ := hlim
      unfold parR0 at hpar
      simp only at hpar
      (refine call0 [] rfl (fun _ => hpar) ?_; rintro r rfl; conv => whnf)
      (refine goA ?_; try with_reducible exact trivial)
      refine call0 [] rfl (fun _ => around_spec number 31 (by omega)) ?_
      rintro r ⟨hx3, rfl⟩
      have hr3 := aroundF_rng hx3 (m := 31) (by omega)
      obtain ⟨n, hn⟩ : ∃ n : Nat, aroundF number 31 = (n : Int) := ⟨(aroundF number 31).toNat, by omega⟩
      rw [hn] at hr3 ⊢
      have hv := limV_at (n := n) (by omega)
      have hds := decimal_spec n (by omega)
      rw [decS_dd (by omega)] at hds
      have hdl : (ddB n).length ≤ 2 := by unfold ddB; split <;> simp
      have es : (⟨#[116, 114, 117, 101, 38, 38, 118]⟩ : ByteArray) ++ bs (ddB n) ++ ⟨#[62, 48]⟩ = bs (limV n) := by
        rw [show (⟨#[116, 114, 117, 101, 38, 38, 118]⟩ : ByteArray) = bs [116, 114, 117, 101, 38, 38, 118] from rfl, show (⟨#[62, 48]⟩ : ByteArray) = bs [62, 48] from rfl, bs_app, bs_app]
        rfl
      have hpv := parse_raw (bs (limV n)) (by rw [bs_size]; unfold limV; simp only [List.length_append, List.length_cons, List.length_nil]; omega)
      unfold limVOk at hv
      have hfive := lives_spec
      conv => whnf
      (refine call0 [] rfl (fun _ => hds) ?_; rintro r rfl; conv => whnf)
      refine ⟨by rw [bs_size]; show 7 + _ ≤ maxLen; unfold maxLen; omega, ?_⟩
      conv => whnf
      refine ⟨by rw [show (⟨#[116, 114, 117, 101, 38, 38, 118]⟩ : ByteArray) = bs [116, 114, 117, 101, 38, 38, 118] from rfl, bs_app, bs_size, List.length_append]; show 7 + _ + 2 ≤ maxLen; unfold maxLen; omega, ?_⟩
      rw [es]
      conv => whnf
      cases hp2 : parseF (bs (limV n)) with
      | ok g =>
        rw [hp2] at hv hpv
        simp only [Bool.and_eq_true, decide_eq_true_eq] at hv
        obtain ⟨hn15, hg2, hga, hgb⟩ := hv
        have hr1 := row1 (l := g.kids) (by omega)
        unfold parR0 at hpv
        simp only at hpv
        (refine call0 [] rfl (fun _ => hpv) ?_; rintro r rfl; conv => whnf)
        (refine goA ?_; try with_reducible exact trivial)
        (generalize hrq : rowOf _ _ (fmsA g.kids) = rq; obtain rfl : rq = fmA (g1 g.kids) := hrq.symm.trans (hr1); clear hrq; conv => whnf)
        generalize g1 g.kids = y at *
        (refine goA ?_; try with_reducible exact trivial)
        (generalize hrq : rowOf _ _ (fmsA g.kids) = rq; obtain rfl : rq = fmA y := hrq.symm.trans (hr1); clear hrq; conv => whnf)
        (refine goA ?_; try with_reducible exact trivial)
        (refine call0 [] rfl (fun _ => hfive) ?_; rintro r rfl; conv => whnf)
        rfl
      | bad p2 e2 =>
        rw [hp2] at hv hpv
        simp only [Bool.and_eq_true, decide_eq_true_eq] at hv
        obtain ⟨hn15, rfl, rfl⟩ := hv
        unfold parR0 at hpv
        simp only at hpv
        (refine call0 [] rfl (fun _ => hpv) ?_; rintro r rfl; conv => whnf)
        (refine goA ?_; try with_reducible exact trivial)
        (refine call0 [] rfl (fun _ => hfive) ?_; rintro r rfl; conv => whnf)
        rfl
    | bad p e =>
      rw [hp] at hlim hpar
      simp only [Bool.and_eq_true, decide_eq_true_eq] at hlim
      obtain ⟨hd20, rfl, hpo⟩ := hlim
      have hpo : p = 225 := by rw [hpo]; rfl
      subst hpo
      unfold parR0 at hpar
      simp only at hpar
      (refine call0 [] rfl (fun _ => hpar) ?_; rintro r rfl; conv => whnf)
      (refine goA ?_; try with_reducible exact trivial)
      refine call0 [] rfl (fun _ => around_spec number 31 (by omega)) ?_
      rintro r ⟨hx3, rfl⟩
      have hr3 := aroundF_rng hx3 (m := 31) (by omega)
      obtain ⟨n, hn⟩ : ∃ n : Nat, aroundF number 31 = (n : Int) := ⟨(aroundF number 31).toNat, by omega⟩
      rw [hn] at hr3 ⊢
      have hv := limV_at (n := n) (by omega)
      have hds := decimal_spec n (by omega)
      rw [decS_dd (by omega)] at hds
      have hdl : (ddB n).length ≤ 2 := by unfold ddB; split <;> simp
      have es : (⟨#[116, 114, 117, 101, 38, 38, 118]⟩ : ByteArray) ++ bs (ddB n) ++ ⟨#[62, 48]⟩ = bs (limV n) := by
        rw [show (⟨#[116, 114, 117, 101, 38, 38, 118]⟩ : ByteArray) = bs [116, 114, 117, 101, 38, 38, 118] from rfl, show (⟨#[62, 48]⟩ : ByteArray) = bs [62, 48] from rfl, bs_app, bs_app]
        rfl
      have hpv := parse_raw (bs (limV n)) (by rw [bs_size]; unfold limV; simp only [List.length_append, List.length_cons, List.length_nil]; omega)
      unfold limVOk at hv
      have hfive := lives_spec
      conv => whnf
      (refine call0 [] rfl (fun _ => hds) ?_; rintro r rfl; conv => whnf)
      refine ⟨by rw [bs_size]; show 7 + _ ≤ maxLen; unfold maxLen; omega, ?_⟩
      conv => whnf
      refine ⟨by rw [show (⟨#[116, 114, 117, 101, 38, 38, 118]⟩ : ByteArray) = bs [116, 114, 117, 101, 38, 38, 118] from rfl, bs_app, bs_size, List.length_append]; show 7 + _ + 2 ≤ maxLen; unfold maxLen; omega, ?_⟩
      rw [es]
      conv => whnf
      cases hp2 : parseF (bs (limV n)) with
      | ok g =>
        rw [hp2] at hv hpv
        simp only [Bool.and_eq_true, decide_eq_true_eq] at hv
        obtain ⟨hn15, hg2, hga, hgb⟩ := hv
        have hr1 := row1 (l := g.kids) (by omega)
        unfold parR0 at hpv
        simp only at hpv
        (refine call0 [] rfl (fun _ => hpv) ?_; rintro r rfl; conv => whnf)
        (refine goA ?_; try with_reducible exact trivial)
        (generalize hrq : rowOf _ _ (fmsA g.kids) = rq; obtain rfl : rq = fmA (g1 g.kids) := hrq.symm.trans (hr1); clear hrq; conv => whnf)
        generalize g1 g.kids = y at *
        (refine goA ?_; try with_reducible exact trivial)
        (generalize hrq : rowOf _ _ (fmsA g.kids) = rq; obtain rfl : rq = fmA y := hrq.symm.trans (hr1); clear hrq; conv => whnf)
        (refine goA ?_; try with_reducible exact trivial)
        (refine call0 [] rfl (fun _ => hfive) ?_; rintro r rfl; conv => whnf)
        rfl
      | bad p2 e2 =>
        rw [hp2] at hv hpv
        simp only [Bool.and_eq_true, decide_eq_true_eq] at hv
        obtain ⟨hn15, rfl, rfl⟩ := hv
        unfold parR0 at hpv
        simp only at hpv
        (refine call0 [] rfl (fun _ => hpv) ?_; rintro r rfl; conv => whnf)
        (refine goA ?_; try with_reducible exact trivial)
        (refine call0 [] rfl (fun _ => hfive) ?_; rintro r rfl; conv => whnf)
        rfl
end Go.Proofs.YtpjcbadnpknncaaDoor.Vm
