/- Proved: the statement NamesEventsCardSaid of the row namesEventsRow, with no condition (its listed variables are tied to the program's text by the given tie). The walk is the contract events_law_spec. -/
import Derived.Test.YtinjgckpmblffaaDoorRows
import Derived.Test.YtinjgckpmblffaaDoorN13
import Derived.Test.YtinjgckpmblffaaDoorVrw
import Derived.Test.YtinjgckpmblffaaDoorTie
import Derived.Test.YtinjgckpmblffaaDoorCards
import Derived.JoinedOf
import Derived.Stop.Joined
import Derived.SevenTiedAt
import Derived.LaidMore
import Derived.LaidHandle
import Derived.Lay
import Derived.WalkKit
import Derived.ProofKit
import Derived.OpenShut
import Derived.ShutString
import Derived.ChangeOld
import Derived.Below
namespace Go.Proofs.YtinjgckpmblffaaDoor.namesEvents
open Go.ChangeShapes Go.WideShapes Go.ChangeAt Go.RowKit
open Go.ChangeMaps (open_string shut_string)
set_option linter.unusedVariables false
set_option linter.unusedSimpArgs false
set_option maxRecDepth 100000
theorem own : ownKnob Tryd.prog.godebug = none := by kernel_rfl
theorem laidOut : laidOutB Tryd.prog = true := by kernel_rfl
theorem walk (x0_0 x0_1 x0_2 x0_3 x0_4 x0_5 x0_6 x0_7 : Int) (x1_0 x1_1 x1_2 x1_3 x1_4 x1_5 x1_6 x1_7 : Int) (x2_0 x2_1 x2_2 x2_3 x2_4 : Int) (x3_0 x3_1 x3_2 x3_3 x3_4 : Int) (a4 : Int) (w : World) (hg : Vm.Gok w.cell? w) (w0 : ∀ n ∈ [x0_0, x0_1, x0_2, x0_3, x0_4, x0_5, x0_6, x0_7], (Lit.int .i64 n).wf = true) (w1 : ∀ n ∈ [x1_0, x1_1, x1_2, x1_3, x1_4, x1_5, x1_6, x1_7], (Lit.int .i64 n).wf = true) (w2 : ∀ n ∈ [x2_0, x2_1, x2_2, x2_3, x2_4], (Lit.int .i64 n).wf = true) (w3 : ∀ n ∈ [x3_0, x3_1, x3_2, x3_3, x3_4], (Lit.int .i64 n).wf = true) (w4 : (Lit.int .i64 a4).wf = true) :
    Calls Tryd.prog 6 #[.agg #[.int .i64 x0_0, .int .i64 x0_1, .int .i64 x0_2, .int .i64 x0_3, .int .i64 x0_4, .int .i64 x0_5, .int .i64 x0_6, .int .i64 x0_7], .agg #[.int .i64 x1_0, .int .i64 x1_1, .int .i64 x1_2, .int .i64 x1_3, .int .i64 x1_4, .int .i64 x1_5, .int .i64 x1_6, .int .i64 x1_7], .agg #[.int .i64 x2_0, .int .i64 x2_1, .int .i64 x2_2, .int .i64 x2_3, .int .i64 x2_4], .agg #[.int .i64 x3_0, .int .i64 x3_1, .int .i64 x3_2, .int .i64 x3_3, .int .i64 x3_4], .int .i64 a4] w fun e w' => e = .returned (.bool true) ∧ Below w.heap.size w w' :=
  Vm.walk_of (Vm.events_law_spec (⟨x0_0, x0_1, x0_2, ⟨⟨x0_3, x0_4, x0_5⟩, x0_6, x0_7⟩⟩ : Vm.Ev) (⟨x1_0, x1_1, x1_2, ⟨⟨x1_3, x1_4, x1_5⟩, x1_6, x1_7⟩⟩ : Vm.Ev) (⟨⟨x2_0, x2_1, x2_2⟩, x2_3, x2_4⟩ : Vm.Qs) (⟨⟨x3_0, x3_1, x3_2⟩, x3_3, x3_4⟩ : Vm.Qs) a4) hg (Vm.repL_cons (Vm.agg_rep w0) (Vm.repL_cons (Vm.agg_rep w1) (Vm.repL_cons (Vm.agg_rep w2) (Vm.repL_cons (Vm.agg_rep w3) (Vm.repL_cons (Vm.int_rep w4) (Vm.args_nil))))))
def laidL : List (String × DataW Unit) := [("math/bits.deBruijn32tab", Rows.laid_math_bits_deBruijn32tab), ("math/bits.deBruijn64tab", Rows.laid_math_bits_deBruijn64tab), ("internal/strconv.uint64pow10", Rows.laid_internal_strconv_uint64pow10), ("unicode/utf8.acceptRanges", Rows.laid_unicode_utf8_acceptRanges), ("strconv.ErrRange", Rows.laid_strconv_ErrRange), ("strconv.ErrSyntax", Rows.laid_strconv_ErrSyntax), ("unicode/utf8.first", Rows.laid_unicode_utf8_first)]
theorem door_met (os : Os) (args : Array Value) : laidMetH Tryd.prog laidL ((World.laidAll Tryd.prog os laidL).forCall (fun _ _ => 0) ⟨#[], args, []⟩).memory := by
  rw [MakeChecks.laidMetH_plain _ _ _ (by kernel_rfl)]
  exact laidMet_laidAll _ (by kernel_rfl) (by kernel_rfl)
theorem gok_of {W : World} (h : laidMetH Tryd.prog laidL W) : Vm.Gok W.cell? W := by
  rw [MakeChecks.laidMetH_plain _ _ _ (by kernel_rfl)] at h
  obtain ⟨ps, hl, _, _⟩ := h
  refine ⟨fun x hx => ?_, fun x hx => ?_⟩ <;> unfold Vm.globs at hx <;> simp only [List.mem_cons, List.not_mem_nil, or_false] at hx <;> rcases hx with rfl | rfl | rfl
  · exact (Vm.gok_tab (n := "internal/strconv.uint64pow10") (k := .u64) (zs := Lib.pow10Tab) (g := 0) (ti := 120) (m := 20) (e := 103) (by kernel_rfl) (by kernel_rfl) (by kernel_rfl) (by kernel_rfl) (by kernel_rfl) (by kernel_rfl) (by decide) (fun z hz => Vm.okV_int.2 ((by decide +kernel : ∀ z ∈ Lib.pow10Tab, Vm.lo .u64 ≤ z ∧ z ≤ Vm.hi .u64) z hz)) hl (show ("internal/strconv.uint64pow10", Rows.laid_internal_strconv_uint64pow10) ∈ laidL from by unfold laidL; simp)).1
  · exact (Vm.gok_iface (n := "strconv.ErrSyntax") (nm := "*errors.errorString") (g := 2) (ti := 88) (by kernel_rfl) (by kernel_rfl) Tryd.underlying88 hl (show ("strconv.ErrSyntax", Rows.laid_strconv_ErrSyntax) ∈ laidL from by unfold laidL; simp)).1
  · exact (Vm.gok_iface (n := "strconv.ErrRange") (nm := "*errors.errorString") (g := 3) (ti := 88) (by kernel_rfl) (by kernel_rfl) Tryd.underlying88 hl (show ("strconv.ErrRange", Rows.laid_strconv_ErrRange) ∈ laidL from by unfold laidL; simp)).1
  · exact (Vm.gok_tab (n := "internal/strconv.uint64pow10") (k := .u64) (zs := Lib.pow10Tab) (g := 0) (ti := 120) (m := 20) (e := 103) (by kernel_rfl) (by kernel_rfl) (by kernel_rfl) (by kernel_rfl) (by kernel_rfl) (by kernel_rfl) (by decide) (fun z hz => Vm.okV_int.2 ((by decide +kernel : ∀ z ∈ Lib.pow10Tab, Vm.lo .u64 ≤ z ∧ z ≤ Vm.hi .u64) z hz)) hl (show ("internal/strconv.uint64pow10", Rows.laid_internal_strconv_uint64pow10) ∈ laidL from by unfold laidL; simp)).2
  · exact (Vm.gok_iface (n := "strconv.ErrSyntax") (nm := "*errors.errorString") (g := 2) (ti := 88) (by kernel_rfl) (by kernel_rfl) Tryd.underlying88 hl (show ("strconv.ErrSyntax", Rows.laid_strconv_ErrSyntax) ∈ laidL from by unfold laidL; simp)).2
  · exact (Vm.gok_iface (n := "strconv.ErrRange") (nm := "*errors.errorString") (g := 3) (ti := 88) (by kernel_rfl) (by kernel_rfl) Tryd.underlying88 hl (show ("strconv.ErrRange", Rows.laid_strconv_ErrRange) ∈ laidL from by unfold laidL; simp)).2
theorem lifted (os : Os) (started : os.Started) (H : Type) (enc : TypeId × Value → H) :
    ReturnsInHanded {} Tryd.checked os 6 .any (fun w args => (Rows.namesEventsSpec.pre enc Tryd.prog Tryd.f6 [] false w args ∧ laidMetH Tryd.prog laidL w) ∧ sizedMet enc Tryd.prog Tryd.f6 (OpenSpec.ofChange Rows.namesEventsSpec) false w args) (Rows.namesEventsSpec.post enc Tryd.prog Tryd.f6 false true false false) := by
  refine returnsInHanded_of_change_and (C := Tryd.checked) (X := fun w _ => laidMetH Tryd.prog laidL w) (fun _ _ _ hh h => h.of_heap hh) own started (by kernel_rfl) Tryd.func6
    (ChangeSpec.witness_shaped (enc := enc) (C := Tryd.checked) (os := os) (X := fun w _ => laidMetH Tryd.prog laidL w) false (World.laidAll Tryd.prog os laidL) #[.agg #[.int .i64 0, .int .i64 0, .int .i64 0, .int .i64 0, .int .i64 0, .int .i64 0, .int .i64 0, .int .i64 0], .agg #[.int .i64 0, .int .i64 0, .int .i64 0, .int .i64 0, .int .i64 0, .int .i64 0, .int .i64 0, .int .i64 0], .agg #[.int .i64 0, .int .i64 0, .int .i64 0, .int .i64 0, .int .i64 0], .agg #[.int .i64 0, .int .i64 0, .int .i64 0, .int .i64 0, .int .i64 0], .int .i64 0] 8 (World.laidAll_os _ _ _) (World.shaped_of_ZipB (by kernel_rfl) (by kernel_rfl)) (by kernel_rfl) (by kernel_rfl) (by kernel_rfl) (door_met os _)) ?_
  intro W base args ds gs before hval0 hW _ _ hL _
  have hval : ∀ (j : Nat) t v, Tryd.f6.params[j]? = some t → args[j]? = some v → Value.okWide Tryd.prog W .any base t v := hval0
  have hW' := hW
  obtain ⟨p, q, hA0, hV, rfl, hfz, hnd⟩ := hW
  have hA : DataW.TrodAll enc Tryd.prog W 0 (fun _ => true) true Tryd.f6.params.toList args.toList ds p := hA0
  rw [Tryd.params6] at hA hval
  obtain ⟨v0, vs0, d0, ds0, p0, q0, hargs, rfl, rfl, h0, r0⟩ := trodAll_cons hA
  obtain ⟨v1, vs1, d1, ds1, p1, q1, rfl, rfl, rfl, h1, r1⟩ := trodAll_cons r0
  obtain ⟨v2, vs2, d2, ds2, p2, q2, rfl, rfl, rfl, h2, r2⟩ := trodAll_cons r1
  obtain ⟨v3, vs3, d3, ds3, p3, q3, rfl, rfl, rfl, h3, r3⟩ := trodAll_cons r2
  obtain ⟨v4, vs4, d4, ds4, p4, q4, rfl, rfl, rfl, h4, r4⟩ := trodAll_cons r3
  obtain ⟨rfl, rfl, rfl⟩ := trodAll_nil r4
  obtain rfl : args = #[v0, v1, v2, v3, v4] := by cases args; simp_all
  obtain ⟨rfl, rfl⟩ := trodVars_none hV
  have k0 := h0
  have lt0 : ∀ x ∈ p0, x.block < W.heap.size := by obtain ⟨m, hm⟩ := k0; exact DataW.trod_lt m _ _ _ hm
  obtain ⟨l0, hl0, rfl, w0⟩ := Vm.open_ints_agg (m := 8) (by decide +kernel) (by decide +kernel) (by decide +kernel) (hval 0 34 v0 rfl rfl) h0
  obtain ⟨x0_0, x0_1, x0_2, x0_3, x0_4, x0_5, x0_6, x0_7, rfl⟩ := Vm.list_8 hl0
  have k1 := h1
  have lt1 : ∀ x ∈ p1, x.block < W.heap.size := by obtain ⟨m, hm⟩ := k1; exact DataW.trod_lt m _ _ _ hm
  obtain ⟨l1, hl1, rfl, w1⟩ := Vm.open_ints_agg (m := 8) (by decide +kernel) (by decide +kernel) (by decide +kernel) (hval 1 34 v1 rfl rfl) h1
  obtain ⟨x1_0, x1_1, x1_2, x1_3, x1_4, x1_5, x1_6, x1_7, rfl⟩ := Vm.list_8 hl1
  have k2 := h2
  have lt2 : ∀ x ∈ p2, x.block < W.heap.size := by obtain ⟨m, hm⟩ := k2; exact DataW.trod_lt m _ _ _ hm
  obtain ⟨l2, hl2, rfl, w2⟩ := Vm.open_ints_agg (m := 5) (by decide +kernel) (by decide +kernel) (by decide +kernel) (hval 2 43 v2 rfl rfl) h2
  obtain ⟨x2_0, x2_1, x2_2, x2_3, x2_4, rfl⟩ := Vm.list_5 hl2
  have k3 := h3
  have lt3 : ∀ x ∈ p3, x.block < W.heap.size := by obtain ⟨m, hm⟩ := k3; exact DataW.trod_lt m _ _ _ hm
  obtain ⟨l3, hl3, rfl, w3⟩ := Vm.open_ints_agg (m := 5) (by decide +kernel) (by decide +kernel) (by decide +kernel) (hval 3 43 v3 rfl rfl) h3
  obtain ⟨x3_0, x3_1, x3_2, x3_3, x3_4, rfl⟩ := Vm.list_5 hl3
  obtain ⟨a4, rfl, rfl, rfl, w4⟩ := open_int Tryd.underlying3 (hval 4 3 v4 rfl rfl) h4
  clear hA0 hval0
  refine (walk x0_0 x0_1 x0_2 x0_3 x0_4 x0_5 x0_6 x0_7 x1_0 x1_1 x1_2 x1_3 x1_4 x1_5 x1_6 x1_7 x2_0 x2_1 x2_2 x2_3 x2_4 x3_0 x3_1 x3_2 x3_3 x3_4 a4 W (gok_of hL) w0 w1 w2 w3 w4).mono fun e W' ⟨he, bel⟩ => ?_
  subst he
  exact ⟨_, rfl, _, _, _, [], _, [], hW', trodAll_mk1 (shut_bool Tryd.underlying4 _), (trodAll_cons_mk (Below.trod laidOut (by kernel_rfl) (of_decide_eq_true (by kernel_rfl)) k0 bel lt0) (trodAll_cons_mk (Below.trod laidOut (by kernel_rfl) (of_decide_eq_true (by kernel_rfl)) k1 bel lt1) (trodAll_cons_mk (Below.trod laidOut (by kernel_rfl) (of_decide_eq_true (by kernel_rfl)) k2 bel lt2) (trodAll_cons_mk (Below.trod laidOut (by kernel_rfl) (of_decide_eq_true (by kernel_rfl)) k3 bel lt3) (trodAll_cons_mk (shut_int Tryd.underlying3 w4) trodAll_mk0))))), rfl, bel.frame _, fun h => by cases h⟩
theorem over : Rows.namesEventsRow.holds Tryd.pinned (OpenSpec.ofChange Rows.namesEventsSpec) :=
  OpenClaim.holds_of_wide 6 Tryd.f6 rfl rfl rfl rfl rfl rfl rfl ⟨rfl, rfl, rfl, rfl, rfl⟩ rfl rfl rfl rfl rfl (by kernel_rfl) Tryd.func6 (by kernel_rfl)
    (of_decide_eq_true (by kernel_rfl)) (by unfold Func.isWrapper; first | (rw [if_pos (by decide +kernel)]; kernel_rfl) | (rw [if_neg (by decide +kernel)]; exact ⟨rfl, rfl⟩))
    (fun os started H enc _ => lifted os started H enc)
theorem proved : Rows.NamesEventsCardSaid :=
  Claim7.holds_tied_plain_at .later [] [.data, .data, .data, .data, .sentinel, .sentinel, .pinned] true (true, "b4a36bf05456d5d9cee1212772ea909c95241e55e8de86427861fae5e36b854e") true
    over (fun _ h => by cases h) (by kernel_rfl) (fun _ h => by cases h) namesEvents_row_tie rfl ⟨rfl, rfl⟩ (by kernel_rfl) rfl
    (fun f fn hf hfn => by
      obtain rfl : f = 6 := (Option.some.inj ((show Tryd.prog.funcNamed "simproof/simprooflaw10.NamesEvents" = some 6 by kernel_rfl).symm.trans hf)).symm
      obtain rfl : fn = Tryd.f6 := (Option.some.inj (Tryd.func6.symm.trans hfn)).symm
      exact ⟨by kernel_rfl, fun j t ht => by
        rw [Tryd.params6] at ht
        have ht := List.getElem?_eq_some_iff.1 (by simpa using ht)
        obtain ⟨hj, ht⟩ := ht
        subst ht
        exact (List.all_eq_true.1 (show ([34, 34, 43, 43, 3].all fun t => !Tryd.prog.wantsStandIn t) = true by kernel_rfl) _ (List.getElem_mem hj)) |> fun h => (by rw [Bool.not_eq_true'] at h; exact h)⟩)
    (by kernel_rfl)
end Go.Proofs.YtinjgckpmblffaaDoor.namesEvents
