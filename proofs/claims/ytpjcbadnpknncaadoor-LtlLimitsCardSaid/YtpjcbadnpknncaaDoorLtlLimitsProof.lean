/- Proved: the statement LtlLimitsCardSaid of the row ltlLimitsRow, with no condition (its listed variables are tied to the program's text by the given tie). The walk is the contract limits_law. -/
import Derived.Test.YtpjcbadnpknncaaDoorRows
import Derived.Test.YtpjcbadnpknncaaDoorT39
import Derived.Test.YtpjcbadnpknncaaDoorTie
import Derived.Test.YtpjcbadnpknncaaDoorCards
import Derived.JoinedOf
import Derived.Stop.Joined
import Derived.SevenTiedAt
import Derived.LaidMore
import Derived.LaidHandle
import Derived.Lay
import Derived.WalkKit
import Derived.ProofKit
import Derived.OpenShut
import Derived.ShutString
import Derived.ChangeOld
import Derived.Below
namespace Go.Proofs.YtpjcbadnpknncaaDoor.ltlLimits
open Go.ChangeShapes Go.WideShapes Go.ChangeAt Go.RowKit
open Go.ChangeMaps (open_string shut_string)
set_option linter.unusedVariables false
set_option linter.unusedSimpArgs false
set_option maxRecDepth 100000
theorem own : ownKnob Tryd.prog.godebug = none := by kernel_rfl
theorem laidOut : laidOutB Tryd.prog = true := by kernel_rfl
theorem walk (a0 : Int) (a1 : Int) (a2 : Int) (w : World) (hg : Vm.Gok w.cell? w) (w0 : (Lit.int .i64 a0).wf = true) (w1 : (Lit.int .i64 a1).wf = true) (w2 : (Lit.int .i64 a2).wf = true) :
    Calls Tryd.prog 9 #[.int .i64 a0, .int .i64 a1, .int .i64 a2] w fun e w' => e = .returned (.bool true) ∧ Below w.heap.size w w' :=
  Vm.walk_cell (Vm.limits_law a0 a1 a2) hg (Vm.repL_cons (Vm.int_rep w0) (Vm.repL_cons (Vm.int_rep w1) (Vm.repL_cons (Vm.int_rep w2) (Vm.args_nil))))
def laidL : List (String × DataW Unit) := [("math/bits.deBruijn32tab", Rows.laid_math_bits_deBruijn32tab), ("math/bits.deBruijn64tab", Rows.laid_math_bits_deBruijn64tab), ("internal/strconv.uint64pow10", Rows.laid_internal_strconv_uint64pow10), ("strconv.ErrRange", Rows.laid_strconv_ErrRange), ("strconv.ErrSyntax", Rows.laid_strconv_ErrSyntax)]
theorem door_met (os : Os) (args : Array Value) : laidMetH Tryd.prog laidL ((World.laidAll Tryd.prog os laidL).forCall (fun _ _ => 0) ⟨#[], args, []⟩).memory := by
  rw [MakeChecks.laidMetH_plain _ _ _ (by kernel_rfl)]
  exact laidMet_laidAll _ (by kernel_rfl) (by kernel_rfl)
theorem gok_of {W : World} (h : laidMetH Tryd.prog laidL W) : Vm.Gok W.cell? W := by
  rw [MakeChecks.laidMetH_plain _ _ _ (by kernel_rfl)] at h
  obtain ⟨ps, hl, _, _⟩ := h
  refine ⟨fun x hx => ?_, fun x hx => ?_⟩ <;> unfold Vm.globs at hx <;> simp only [List.mem_cons, List.not_mem_nil, or_false] at hx <;> rcases hx with rfl | rfl
  · exact (Vm.gok_iface (n := "strconv.ErrSyntax") (nm := "*errors.errorString") (g := 0) (ti := 104) (by kernel_rfl) (by kernel_rfl) Tryd.underlying104 hl (show ("strconv.ErrSyntax", Rows.laid_strconv_ErrSyntax) ∈ laidL from by unfold laidL; simp)).1
  · exact (Vm.gok_iface (n := "strconv.ErrRange") (nm := "*errors.errorString") (g := 1) (ti := 104) (by kernel_rfl) (by kernel_rfl) Tryd.underlying104 hl (show ("strconv.ErrRange", Rows.laid_strconv_ErrRange) ∈ laidL from by unfold laidL; simp)).1
  · exact (Vm.gok_iface (n := "strconv.ErrSyntax") (nm := "*errors.errorString") (g := 0) (ti := 104) (by kernel_rfl) (by kernel_rfl) Tryd.underlying104 hl (show ("strconv.ErrSyntax", Rows.laid_strconv_ErrSyntax) ∈ laidL from by unfold laidL; simp)).2
  · exact (Vm.gok_iface (n := "strconv.ErrRange") (nm := "*errors.errorString") (g := 1) (ti := 104) (by kernel_rfl) (by kernel_rfl) Tryd.underlying104 hl (show ("strconv.ErrRange", Rows.laid_strconv_ErrRange) ∈ laidL from by unfold laidL; simp)).2
theorem lifted (os : Os) (started : os.Started) (H : Type) (enc : TypeId × Value → H) :
    ReturnsInHanded {} Tryd.checked os 9 .any (fun w args => (Rows.ltlLimitsSpec.pre enc Tryd.prog Tryd.f9 [] false w args ∧ laidMetH Tryd.prog laidL w) ∧ sizedMet enc Tryd.prog Tryd.f9 (OpenSpec.ofChange Rows.ltlLimitsSpec) false w args) (Rows.ltlLimitsSpec.post enc Tryd.prog Tryd.f9 false true false false) := by
  refine returnsInHanded_of_change_and (C := Tryd.checked) (X := fun w _ => laidMetH Tryd.prog laidL w) (fun _ _ _ hh h => h.of_heap hh) own started (by kernel_rfl) Tryd.func9
    (ChangeSpec.witness_shaped (enc := enc) (C := Tryd.checked) (os := os) (X := fun w _ => laidMetH Tryd.prog laidL w) false (World.laidAll Tryd.prog os laidL) #[.int .i64 0, .int .i64 0, .int .i64 0] 8 (World.laidAll_os _ _ _) (World.shaped_of_ZipB (by kernel_rfl) (by kernel_rfl)) (by kernel_rfl) (by kernel_rfl) (by kernel_rfl) (door_met os _)) ?_
  intro W base args ds gs before hval0 hW _ _ hL _
  have hval : ∀ (j : Nat) t v, Tryd.f9.params[j]? = some t → args[j]? = some v → Value.okWide Tryd.prog W .any base t v := hval0
  have hW' := hW
  obtain ⟨p, q, hA0, hV, rfl, hfz, hnd⟩ := hW
  have hA : DataW.TrodAll enc Tryd.prog W 0 (fun _ => true) true Tryd.f9.params.toList args.toList ds p := hA0
  rw [Tryd.params9] at hA hval
  obtain ⟨v0, vs0, d0, ds0, p0, q0, hargs, rfl, rfl, h0, r0⟩ := trodAll_cons hA
  obtain ⟨v1, vs1, d1, ds1, p1, q1, rfl, rfl, rfl, h1, r1⟩ := trodAll_cons r0
  obtain ⟨v2, vs2, d2, ds2, p2, q2, rfl, rfl, rfl, h2, r2⟩ := trodAll_cons r1
  obtain ⟨rfl, rfl, rfl⟩ := trodAll_nil r2
  obtain rfl : args = #[v0, v1, v2] := by cases args; simp_all
  obtain ⟨rfl, rfl⟩ := trodVars_none hV
  obtain ⟨a0, rfl, rfl, rfl, w0⟩ := open_int Tryd.underlying3 (hval 0 3 v0 rfl rfl) h0
  obtain ⟨a1, rfl, rfl, rfl, w1⟩ := open_int Tryd.underlying3 (hval 1 3 v1 rfl rfl) h1
  obtain ⟨a2, rfl, rfl, rfl, w2⟩ := open_int Tryd.underlying3 (hval 2 3 v2 rfl rfl) h2
  clear hA0 hval0
  refine (walk a0 a1 a2 W (gok_of hL) w0 w1 w2).mono fun e W' ⟨he, bel⟩ => ?_
  subst he
  exact ⟨_, rfl, _, _, _, [], _, [], hW', trodAll_mk1 (shut_bool Tryd.underlying4 _), (trodAll_cons_mk (shut_int Tryd.underlying3 w0) (trodAll_cons_mk (shut_int Tryd.underlying3 w1) (trodAll_cons_mk (shut_int Tryd.underlying3 w2) trodAll_mk0))), rfl, bel.frame _, fun h => by cases h⟩
theorem over : Rows.ltlLimitsRow.holds Tryd.pinned (OpenSpec.ofChange Rows.ltlLimitsSpec) :=
  OpenClaim.holds_of_wide 9 Tryd.f9 rfl rfl rfl rfl rfl rfl rfl ⟨rfl, rfl, rfl, rfl, rfl⟩ rfl rfl rfl rfl rfl (by kernel_rfl) Tryd.func9 (by kernel_rfl)
    (of_decide_eq_true (by kernel_rfl)) (by unfold Func.isWrapper; first | (rw [if_pos (by decide +kernel)]; kernel_rfl) | (rw [if_neg (by decide +kernel)]; exact ⟨rfl, rfl⟩))
    (fun os started H enc _ => lifted os started H enc)
theorem proved : Rows.LtlLimitsCardSaid :=
  Claim7.holds_tied_plain_at .later [] [.data, .data, .data, .sentinel, .sentinel] true (true, "49845438850813f6aa70e9dc69e86e30127f0a33b31bcb569ec3b04deb11c1e0") true
    over (fun _ h => by cases h) (by kernel_rfl) (fun _ h => by cases h) ltlLimits_row_tie rfl ⟨rfl, rfl⟩ (by kernel_rfl) rfl
    (fun f fn hf hfn => by
      obtain rfl : f = 9 := (Option.some.inj ((show Tryd.prog.funcNamed "simproof/simprooflaw25.LtlLimits" = some 9 by kernel_rfl).symm.trans hf)).symm
      obtain rfl : fn = Tryd.f9 := (Option.some.inj (Tryd.func9.symm.trans hfn)).symm
      exact ⟨by kernel_rfl, fun j t ht => by
        rw [Tryd.params9] at ht
        have ht := List.getElem?_eq_some_iff.1 (by simpa using ht)
        obtain ⟨hj, ht⟩ := ht
        subst ht
        exact (List.all_eq_true.1 (show ([3, 3, 3].all fun t => !Tryd.prog.wantsStandIn t) = true by kernel_rfl) _ (List.getElem_mem hj)) |> fun h => (by rw [Bool.not_eq_true'] at h; exact h)⟩)
    (by kernel_rfl)
end Go.Proofs.YtpjcbadnpknncaaDoor.ltlLimits
