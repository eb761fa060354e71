/- Proved: the statement CompileOperandsCardSaid of the row compileOperandsRow, with no condition (its listed variables are tied to the program's text by the given tie). The walk is the contract operands_spec. -/
import Derived.Test.YtfbifdccmabdbaaGreatDoorRows
import Derived.Test.YtfbifdccmabdbaaGreatDoorM6
import Derived.Test.YtfbifdccmabdbaaGreatDoorTie
import Derived.Test.YtfbifdccmabdbaaGreatDoorCards
import Derived.JoinedOf
import Derived.Stop.Joined
import Derived.SevenTiedAt
import Derived.LaidMore
import Derived.LaidHandle
import Derived.Lay
import Derived.Lib.ItoaNum
import Derived.WalkKit
import Derived.ProofKit
import Derived.OpenShut
import Derived.ShutString
import Derived.ChangeOld
import Derived.Below
namespace Go.Proofs.YtfbifdccmabdbaaGreatDoor.compileOperands
open Go.ChangeShapes Go.WideShapes Go.ChangeAt Go.RowKit
open Go.ChangeMaps (open_string shut_string)
set_option linter.unusedVariables false
set_option linter.unusedSimpArgs false
set_option maxRecDepth 100000
theorem own : ownKnob Tryz.prog.godebug = none := by kernel_rfl
theorem laidOut : laidOutB Tryz.prog = true := by kernel_rfl
theorem walk (x0_0 x0_1 : Int) (a1 : Int) (a2 : Int) (a3 : Int) (a4 : Int) (w : World) (hg : Vm.Gok w.cell? w) (w0 : ∀ n ∈ [x0_0, x0_1], (Lit.int .i64 n).wf = true) (w1 : (Lit.int .i64 a1).wf = true) (w2 : (Lit.int .i64 a2).wf = true) (w3 : (Lit.int .i64 a3).wf = true) (w4 : (Lit.int .i64 a4).wf = true) :
    Calls Tryz.prog 6 #[.agg #[.int .i64 x0_0, .int .i64 x0_1], .int .i64 a1, .int .i64 a2, .int .i64 a3, .int .i64 a4] w fun e w' => e = .returned (.bool true) ∧ Below w.heap.size w w' :=
  Vm.walk_cell (Vm.operands_spec x0_0 x0_1 a1 a2 a3 a4) hg (Vm.repL_cons (Vm.agg_rep w0) (Vm.repL_cons (Vm.int_rep w1) (Vm.repL_cons (Vm.int_rep w2) (Vm.repL_cons (Vm.int_rep w3) (Vm.repL_cons (Vm.int_rep w4) (Vm.args_nil))))))
def laidL : List (String × DataW Unit) := [("math/bits.deBruijn32tab", Rows.laid_math_bits_deBruijn32tab), ("math/bits.deBruijn64tab", Rows.laid_math_bits_deBruijn64tab), ("internal/strconv.uint64pow10", Rows.laid_internal_strconv_uint64pow10), ("strconv.ErrRange", Rows.laid_strconv_ErrRange), ("strconv.ErrSyntax", Rows.laid_strconv_ErrSyntax)]
theorem door_met (os : Os) (args : Array Value) : laidMetH Tryz.prog laidL ((World.laidAll Tryz.prog os laidL).forCall (fun _ _ => 0) ⟨#[], args, []⟩).memory := by
  rw [MakeChecks.laidMetH_plain _ _ _ (by kernel_rfl)]
  exact laidMet_laidAll _ (by kernel_rfl) (by kernel_rfl)
theorem gok_of {W : World} (h : laidMetH Tryz.prog laidL W) (hsh : W.ShapedOpen Tryz.prog) : Vm.Gok W.cell? W := by
  rw [MakeChecks.laidMetH_plain _ _ _ (by kernel_rfl)] at h
  obtain ⟨ps, hl, _, _⟩ := h
  refine ⟨fun x hx => ?_, fun x hx => ?_⟩ <;> unfold Vm.globs at hx <;> simp only [List.mem_cons, List.not_mem_nil, or_false] at hx <;> rcases hx with rfl | rfl | rfl | rfl
  · exact (Vm.gok_tab (n := "internal/strconv.uint64pow10") (k := .u64) (zs := Lib.pow10Tab) (g := 3) (ti := 252) (m := 20) (e := 186) (by kernel_rfl) (by kernel_rfl) (by kernel_rfl) (by kernel_rfl) (by kernel_rfl) (by kernel_rfl) (by decide) (fun z hz => Vm.okV_int.2 ((by decide +kernel : ∀ z ∈ Lib.pow10Tab, Vm.lo .u64 ≤ z ∧ z ≤ Vm.hi .u64) z hz)) hl (show ("internal/strconv.uint64pow10", Rows.laid_internal_strconv_uint64pow10) ∈ laidL from by unfold laidL; simp)).1
  · exact (Vm.gok_iface (n := "strconv.ErrSyntax") (nm := "*errors.errorString") (g := 0) (ti := 188) (by kernel_rfl) (by kernel_rfl) Tryz.underlying188 hl (show ("strconv.ErrSyntax", Rows.laid_strconv_ErrSyntax) ∈ laidL from by unfold laidL; simp)).1
  · exact (Vm.gok_iface (n := "strconv.ErrRange") (nm := "*errors.errorString") (g := 1) (ti := 188) (by kernel_rfl) (by kernel_rfl) Tryz.underlying188 hl (show ("strconv.ErrRange", Rows.laid_strconv_ErrRange) ∈ laidL from by unfold laidL; simp)).1
  · exact (Vm.gok_num (g := 2) (t := 3) hsh (of_decide_eq_true (by kernel_rfl)) (by kernel_rfl) (by kernel_rfl) (by kernel_rfl) Tryz.underlying3).1
  · exact (Vm.gok_tab (n := "internal/strconv.uint64pow10") (k := .u64) (zs := Lib.pow10Tab) (g := 3) (ti := 252) (m := 20) (e := 186) (by kernel_rfl) (by kernel_rfl) (by kernel_rfl) (by kernel_rfl) (by kernel_rfl) (by kernel_rfl) (by decide) (fun z hz => Vm.okV_int.2 ((by decide +kernel : ∀ z ∈ Lib.pow10Tab, Vm.lo .u64 ≤ z ∧ z ≤ Vm.hi .u64) z hz)) hl (show ("internal/strconv.uint64pow10", Rows.laid_internal_strconv_uint64pow10) ∈ laidL from by unfold laidL; simp)).2
  · exact (Vm.gok_iface (n := "strconv.ErrSyntax") (nm := "*errors.errorString") (g := 0) (ti := 188) (by kernel_rfl) (by kernel_rfl) Tryz.underlying188 hl (show ("strconv.ErrSyntax", Rows.laid_strconv_ErrSyntax) ∈ laidL from by unfold laidL; simp)).2
  · exact (Vm.gok_iface (n := "strconv.ErrRange") (nm := "*errors.errorString") (g := 1) (ti := 188) (by kernel_rfl) (by kernel_rfl) Tryz.underlying188 hl (show ("strconv.ErrRange", Rows.laid_strconv_ErrRange) ∈ laidL from by unfold laidL; simp)).2
  · exact (Vm.gok_num (g := 2) (t := 3) hsh (of_decide_eq_true (by kernel_rfl)) (by kernel_rfl) (by kernel_rfl) (by kernel_rfl) Tryz.underlying3).2
theorem lifted (os : Os) (started : os.Started) (H : Type) (enc : TypeId × Value → H) :
    ReturnsInHanded {} Tryz.checked os 6 .any (fun w args => (Rows.compileOperandsSpec.pre enc Tryz.prog Tryz.f6 [] false w args ∧ laidMetH Tryz.prog laidL w) ∧ sizedMet enc Tryz.prog Tryz.f6 (OpenSpec.ofChange Rows.compileOperandsSpec) false w args) (Rows.compileOperandsSpec.post enc Tryz.prog Tryz.f6 false true false false) := by
  refine Vm.frame_shaped (C := Tryz.checked) (X := fun w _ => laidMetH Tryz.prog laidL w) (fun _ _ _ hh h => h.of_heap hh) own started (by kernel_rfl) Tryz.func6
    (ChangeSpec.witness_shaped (enc := enc) (C := Tryz.checked) (os := os) (X := fun w _ => laidMetH Tryz.prog laidL w) false (World.laidAll Tryz.prog os laidL) #[.agg #[.int .i64 0, .int .i64 0], .int .i64 0, .int .i64 0, .int .i64 0, .int .i64 0] 8 (World.laidAll_os _ _ _) (World.shaped_of_ZipB (by kernel_rfl) (by kernel_rfl)) (by kernel_rfl) (by kernel_rfl) (by kernel_rfl) (door_met os _)) ?_
  intro W base args ds gs before hval0 hW hL hsh
  have hval : ∀ (j : Nat) t v, Tryz.f6.params[j]? = some t → args[j]? = some v → Value.okWide Tryz.prog W .any base t v := hval0
  have hW' := hW
  obtain ⟨p, q, hA0, hV, rfl, hfz, hnd⟩ := hW
  have hA : DataW.TrodAll enc Tryz.prog W 0 (fun _ => true) true Tryz.f6.params.toList args.toList ds p := hA0
  rw [Tryz.params6] at hA hval
  obtain ⟨v0, vs0, d0, ds0, p0, q0, hargs, rfl, rfl, h0, r0⟩ := trodAll_cons hA
  obtain ⟨v1, vs1, d1, ds1, p1, q1, rfl, rfl, rfl, h1, r1⟩ := trodAll_cons r0
  obtain ⟨v2, vs2, d2, ds2, p2, q2, rfl, rfl, rfl, h2, r2⟩ := trodAll_cons r1
  obtain ⟨v3, vs3, d3, ds3, p3, q3, rfl, rfl, rfl, h3, r3⟩ := trodAll_cons r2
  obtain ⟨v4, vs4, d4, ds4, p4, q4, rfl, rfl, rfl, h4, r4⟩ := trodAll_cons r3
  obtain ⟨rfl, rfl, rfl⟩ := trodAll_nil r4
  obtain rfl : args = #[v0, v1, v2, v3, v4] := by cases args; simp_all
  obtain ⟨rfl, rfl⟩ := trodVars_none hV
  have k0 := h0
  have lt0 : ∀ x ∈ p0, x.block < W.heap.size := by obtain ⟨m, hm⟩ := k0; exact DataW.trod_lt m _ _ _ hm
  obtain ⟨l0, hl0, rfl, w0⟩ := Vm.open_ints_agg (m := 2) (by decide +kernel) (by decide +kernel) (by decide +kernel) (hval 0 52 v0 rfl rfl) h0
  obtain ⟨x0_0, x0_1, rfl⟩ := Vm.list_2 hl0
  obtain ⟨a1, rfl, rfl, rfl, w1⟩ := open_int Tryz.underlying3 (hval 1 3 v1 rfl rfl) h1
  obtain ⟨a2, rfl, rfl, rfl, w2⟩ := open_int Tryz.underlying3 (hval 2 3 v2 rfl rfl) h2
  obtain ⟨a3, rfl, rfl, rfl, w3⟩ := open_int Tryz.underlying3 (hval 3 3 v3 rfl rfl) h3
  obtain ⟨a4, rfl, rfl, rfl, w4⟩ := open_int Tryz.underlying3 (hval 4 3 v4 rfl rfl) h4
  clear hA0 hval0
  refine (walk x0_0 x0_1 a1 a2 a3 a4 W (gok_of hL hsh) w0 w1 w2 w3 w4).mono fun e W' ⟨he, bel⟩ => ?_
  subst he
  exact ⟨_, rfl, _, _, _, [], _, [], hW', trodAll_mk1 (shut_bool Tryz.underlying4 _), (trodAll_cons_mk (Below.trod laidOut (by kernel_rfl) (of_decide_eq_true (by kernel_rfl)) k0 bel lt0) (trodAll_cons_mk (shut_int Tryz.underlying3 w1) (trodAll_cons_mk (shut_int Tryz.underlying3 w2) (trodAll_cons_mk (shut_int Tryz.underlying3 w3) (trodAll_cons_mk (shut_int Tryz.underlying3 w4) trodAll_mk0))))), rfl, bel.frame _, fun h => by cases h⟩
theorem over : Rows.compileOperandsRow.holds Tryz.pinned (OpenSpec.ofChange Rows.compileOperandsSpec) :=
  OpenClaim.holds_of_wide 6 Tryz.f6 rfl rfl rfl rfl rfl rfl rfl ⟨rfl, rfl, rfl, rfl, rfl⟩ rfl rfl rfl rfl rfl (by kernel_rfl) Tryz.func6 (by kernel_rfl)
    (of_decide_eq_true (by kernel_rfl)) (by unfold Func.isWrapper; first | (rw [if_pos (by decide +kernel)]; kernel_rfl) | (rw [if_neg (by decide +kernel)]; exact ⟨rfl, rfl⟩))
    (fun os started H enc _ => lifted os started H enc)
theorem proved : Rows.CompileOperandsCardSaid :=
  Claim7.holds_tied_plain_at .later [] [.data, .data, .data, .sentinel, .sentinel] true (true, "92955bc5eca56c691657ad02efe3a859495ccf346fd4a38f195c545c348ac423") true
    over (fun _ h => by cases h) (by kernel_rfl) (fun _ h => by cases h) compileOperands_row_tie rfl ⟨rfl, rfl⟩ (by kernel_rfl) rfl
    (fun f fn hf hfn => by
      obtain rfl : f = 6 := (Option.some.inj ((show Tryz.prog.funcNamed "simproof/simprooflaw08.CompileOperands" = some 6 by kernel_rfl).symm.trans hf)).symm
      obtain rfl : fn = Tryz.f6 := (Option.some.inj (Tryz.func6.symm.trans hfn)).symm
      exact ⟨by kernel_rfl, fun j t ht => by
        rw [Tryz.params6] at ht
        have ht := List.getElem?_eq_some_iff.1 (by simpa using ht)
        obtain ⟨hj, ht⟩ := ht
        subst ht
        exact (List.all_eq_true.1 (show ([52, 3, 3, 3, 3].all fun t => !Tryz.prog.wantsStandIn t) = true by kernel_rfl) _ (List.getElem_mem hj)) |> fun h => (by rw [Bool.not_eq_true'] at h; exact h)⟩)
    (by kernel_rfl)
end Go.Proofs.YtfbifdccmabdbaaGreatDoor.compileOperands
