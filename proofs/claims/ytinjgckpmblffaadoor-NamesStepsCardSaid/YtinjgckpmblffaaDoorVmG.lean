/- Where an abstract run stands: lemmas that only tell a call, a loop, a join or a flow from the rest. -/
import Derived.Test.YtinjgckpmblffaaDoorVmU
import Derived.Test.YtinjgckpmblffaaDoorVmV
namespace Go.Proofs.YtinjgckpmblffaaDoor.Vm
open Go.RowKit
set_option linter.unusedSimpArgs false
set_option linter.unusedVariables false
theorem isCall {P : Program} {Xr : Nat → Bool} {f : Nat} {args : List A} {s : S} {K : A → S → Prop} (h : CallW P Xr f args s K) : CallW P Xr f args s K := h
theorem isLoop {np : Nat} {f : S → (Exit → S → Prop) → Prop} {s : S} {Q : Exit → S → Prop} (h : LoopW np f s Q) : LoopW np f s Q := h
theorem isAnd {p q : Prop} (h : p ∧ q) : p ∧ q := h
theorem isEx {α : Sort _} {p : α → Prop} (h : ∃ x, p x) : ∃ x, p x := h
theorem isIf1 {d : Prop} {i : Decidable d} {p q : Unit → Prop} (h : Tab.get.match_1 (fun _ => Prop) (@decide d i) p q) : Tab.get.match_1 (fun _ => Prop) (@decide d i) p q := h
theorem isIf2 {d : Prop} {i : Decidable d} {p q : Unit → Prop} (h : Tab.get.match_1 (fun _ => Prop) (!@decide d i) p q) : Tab.get.match_1 (fun _ => Prop) (!@decide d i) p q := h
theorem isIf3 {d : Prop} {i : Decidable d} {b : Bool} {p q : Unit → Prop} (h : Tab.get.match_1 (fun _ => Prop) (@decide d i && b) p q) : Tab.get.match_1 (fun _ => Prop) (@decide d i && b) p q := h
theorem isIf4 {d : Prop} {i : Decidable d} {b : Bool} {p q : Unit → Prop} (h : Tab.get.match_1 (fun _ => Prop) (!(@decide d i && b)) p q) : Tab.get.match_1 (fun _ => Prop) (!(@decide d i && b)) p q := h
theorem isIf5 {d : Prop} {i : Decidable d} {b : Bool} {p q : Unit → Prop} (h : Tab.get.match_1 (fun _ => Prop) (@decide d i == b) p q) : Tab.get.match_1 (fun _ => Prop) (@decide d i == b) p q := h
theorem isIf6 {d : Prop} {i : Decidable d} {b : Bool} {p q : Unit → Prop} (h : Tab.get.match_1 (fun _ => Prop) (!(@decide d i == b)) p q) : Tab.get.match_1 (fun _ => Prop) (!(@decide d i == b)) p q := h
theorem isIf7 {b c : Bool} {p q : Unit → Prop} (h : Tab.get.match_1 (fun _ => Prop) (!(b && c)) p q) : Tab.get.match_1 (fun _ => Prop) (!(b && c)) p q := h
theorem isIf8 {b c : Bool} {p q : Unit → Prop} (h : Tab.get.match_1 (fun _ => Prop) (b && c) p q) : Tab.get.match_1 (fun _ => Prop) (b && c) p q := h
theorem ifK_id {c : Bool} {p q : Prop} (h : ifK c p q) : ifK c p q := h
theorem max_le {n : Nat} (h : n ≤ 100000000000000) : n ≤ maxLen := by unfold maxLen; omega
theorem isEq {α : Sort _} {x y : α} (h : x = y) : x = y := h
end Go.Proofs.YtinjgckpmblffaaDoor.Vm
