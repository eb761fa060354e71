/- scan: the iterator over the tokens of a source. -/
import Derived.Test.YthaccjcadgodlaaDoorL5
import Derived.Test.YthaccjcadgodlaaDoorVmR
namespace Go.Proofs.YthaccjcadgodlaaDoor.Vm
open Go.RowKit
set_option linter.unusedSimpArgs false
set_option linter.unusedVariables false
set_option maxRecDepth 100000
theorem scan_spec (s : ByteArray) : Spec Tryd.prog 20 [] [.v (.string s)] fun _ r => r = .clo 26 [.pp [.v (.string s)], .pp (clsL classOf)] := by
  refine spec_of_pub (cx_ok ord0 xs0 0) Tryd.func20 rfl (by kernel_rfl) rfl (by kernel_rfl) ?_
  intro _
  have hcl := classes_spec
  have hpl := clsL_plain classOf
  have hlen := clsL_len classOf
  generalize clsL classOf = L at *
  conv => whnf
  refine call0 [] rfl (fun _ => hcl) ?_
  rintro r rfl
  rw [show back [] (A.agg L) = .agg L from by unfold back; rw [backL_plain hpl]]
  conv => whnf
  rw [hlen]
  conv => whnf
  refine writeK_all (ds := L) [] (by rw [hlen]; rfl) ?_
  rw [List.nil_append]
  conv => whnf
  have hcp : capsP ([] : List Row) [[A.v (Value.string s)], L] [A.box 0 0, A.box (0 + 1) 0] = some [.pp [.v (.string s)], .pp L] := by
    have h1 : renL [] ([] : List Row) (L.drop 0) = some L := by rw [List.drop_zero]; exact renL_plain hpl
    simp [capsP, capP, ren, idx, renL] at h1 ⊢
    rw [h1]
  change (match capsP ([] : List Row) [[A.v (Value.string s)], L] [A.box 0 0, A.box (0 + 1) 0] with
    | some caps' => A.clo 26 caps' = A.clo 26 [.pp [.v (.string s)], .pp L]
    | none => False)
  rw [hcp]
end Go.Proofs.YthaccjcadgodlaaDoor.Vm
