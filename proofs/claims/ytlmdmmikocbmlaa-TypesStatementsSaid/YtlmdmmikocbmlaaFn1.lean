/- operators: the two maps of signatures. -/
import Derived.Test.YtlmdmmikocbmlaaFn0
import Derived.Test.YtlmdmmikocbmlaaMap
namespace Go.Proofs.Ytlmdmmikocbmlaa
open Go.RowKit
set_option linter.unusedSimpArgs false
set_option linter.unusedVariables false
def sg (a b : Int) : Value := .agg #[.int .i64 a, .int .i64 b]
def sigU : List (ByteArray × Value) := [(⟨#[45]⟩, sg 1 1), (⟨#[33]⟩, sg 2 2)]
def sigL : List (ByteArray × Value) := [(⟨#[38, 38]⟩, sg 2 2), (⟨#[124, 124]⟩, sg 2 2)]


def sigA (k : Nat) : List (ByteArray × Value) := sigL ++ (opsA.take k).map (fun s => (s, sg 1 1))
def sigB (k : Nat) : List (ByteArray × Value) := sigA 4 ++ (opsC.take k).map (fun s => (s, sg 1 2))
def sigs (b : Bool) : List (ByteArray × Value) := if b then sigB 6 else sigU
def MapV (l : List (ByteArray × Value)) (v : Value) (w : World) : Prop := ∃ r, v = .map (some r) ∧ MapAt w r l
theorem under_sigmap : Try.prog.underlying 62 = some (.map 9 61) := by kernel_rfl
theorem under_str : Try.prog.underlying 9 = some .string := by kernel_rfl
theorem Ext.row {a b c : World} {r : Nat} (h : Ext a b) (g : b.grownBy c (some r)) (hr : a.heap.size ≤ r) : Ext a c := Below.grown h g (Below.size h) (by intro k hk; cases hk; exact hr)
set_option maxHeartbeats 400000 in
theorem ops_false (w : World) : Calls Try.prog 32 #[.bool false] w (Ret w (MapV sigU)) := by
  have hmm := @run_makeMap Try.prog
  have hM := MapAt.made w
  have hE : Ext w (w.alloc (.map #[] 0)) := (Ext.refl w).alloc _
  go_enter Try.func32, Try.ntmps32
  go_wp2_with (first
    | (refine wpList_update_str (r := w.heap.size) (l := []) (s := ⟨#[45]⟩) rfl _ _ _ (.inr rfl) under_sigmap under_str (sg 1 1) rfl rfl rfl hM (by decide +kernel) ?_; intro w2 hg hM2; replace hM := hM2; clear hM2; replace hE := hE.row hg (Nat.le_refl _); clear hg)
    | (refine wpList_update_str (r := w.heap.size) (l := [(⟨#[45]⟩, sg 1 1)]) (s := ⟨#[33]⟩) rfl _ _ _ (.inr rfl) under_sigmap under_str (sg 2 2) rfl rfl rfl hM (by decide +kernel) ?_; intro w2 hg hM2; replace hM := hM2; clear hM2; replace hE := hE.row hg (Nat.le_refl _); clear hg))
  go_ret
  exact ⟨_, rfl, hE, _, rfl, hM⟩
set_option maxHeartbeats 1000000 in
theorem ops_true (w : World) : Calls Try.prog 32 #[.bool true] w (Ret w (MapV (sigB 6))) := by
  have hmm := @run_makeMap Try.prog
  have hM := MapAt.made w
  have hE : Ext w (w.alloc (.map #[] 0)) := (Ext.refl w).alloc _
  go_enter Try.func32, Try.ntmps32
  go_wp2_with (first
    | (refine wpList_update_str (r := w.heap.size) (l := []) (s := ⟨#[38, 38]⟩) rfl _ _ _ (.inr rfl) under_sigmap under_str (sg 2 2) rfl rfl rfl hM (by decide +kernel) ?_; intro w2 hg hM2; replace hM := hM2; clear hM2; replace hE := hE.row hg (Nat.le_refl _); clear hg)
    | (refine wpList_update_str (r := w.heap.size) (l := [(⟨#[38, 38]⟩, sg 2 2)]) (s := ⟨#[124, 124]⟩) rfl _ _ _ (.inr rfl) under_sigmap under_str (sg 2 2) rfl rfl rfl hM (by decide +kernel) ?_; intro w2 hg hM2; replace hM := hM2; clear hM2; replace hE := hE.row hg (Nat.le_refl _); clear hg))
  have hlt2 := hM.lt
  have hB := heap_alloc_new w2 (.cells #[.string ⟨#[43]⟩, .string ⟨#[45]⟩, .string ⟨#[42]⟩, .string ⟨#[47]⟩] 9)
  replace hM := hM.ext ((Ext.refl w2).alloc (.cells #[.string ⟨#[43]⟩, .string ⟨#[45]⟩, .string ⟨#[42]⟩, .string ⟨#[47]⟩] 9))
  replace hE := hE.alloc (.cells #[.string ⟨#[43]⟩, .string ⟨#[45]⟩, .string ⟨#[42]⟩, .string ⟨#[47]⟩] 9)
  go_loopw [20] (fun iv wr => ∃ k : Nat, k ≤ 4 ∧ iv = .int .i64 k ∧ Ext w wr ∧ wr.heap[w2.heap.size]? = some (.cells #[.string ⟨#[43]⟩, .string ⟨#[45]⟩, .string ⟨#[42]⟩, .string ⟨#[47]⟩] 9 (0, 0)) ∧ MapAt wr w.heap.size (sigA k)) (fun iv _ => 4 - (intOf iv).toNat)
  case atStart => exact ⟨0, by omega, rfl, hE, hB, hM⟩
  case round =>
    clear hM hE hB
    obtain ⟨k, hk, rfl, hE, hB, hM⟩ := hrel
    by_cases hlt : k < 4
    · have hk4 : k = 0 ∨ k = 1 ∨ k = 2 ∨ k = 3 := by omega
      clear hk hlt
      rcases hk4 with rfl | rfl | rfl | rfl
      · have cS : wr.cell? ⟨w2.heap.size, 0, none⟩ = some (.string ⟨#[43]⟩) := by simp [World.cell?, hB]
        go_wp2_with (refine wpList_update_str (r := w.heap.size) (l := sigA 0) (s := ⟨#[43]⟩) rfl _ _ _ (.inl rfl) under_sigmap under_str (sg 1 1) rfl rfl rfl hM (by decide +kernel) ?_; intro w3 hg hM2; have hB2 := (hg.block _ (Array.getElem?_eq_some_iff.1 hB).1 (by simp; omega)).trans hB; have hE2 := hE.row hg (Nat.le_refl _); clear hg)
        go_roundw
        case rel => exact ⟨1, by omega, rfl, hE2, hB2, hM2⟩
        case measure => simp [intOf]
      · have cS : wr.cell? ⟨w2.heap.size, 1, none⟩ = some (.string ⟨#[45]⟩) := by simp [World.cell?, hB]
        go_wp2_with (refine wpList_update_str (r := w.heap.size) (l := sigA 1) (s := ⟨#[45]⟩) rfl _ _ _ (.inl rfl) under_sigmap under_str (sg 1 1) rfl rfl rfl hM (by decide +kernel) ?_; intro w3 hg hM2; have hB2 := (hg.block _ (Array.getElem?_eq_some_iff.1 hB).1 (by simp; omega)).trans hB; have hE2 := hE.row hg (Nat.le_refl _); clear hg)
        go_roundw
        case rel => exact ⟨2, by omega, rfl, hE2, hB2, hM2⟩
        case measure => simp [intOf]
      · have cS : wr.cell? ⟨w2.heap.size, 2, none⟩ = some (.string ⟨#[42]⟩) := by simp [World.cell?, hB]
        go_wp2_with (refine wpList_update_str (r := w.heap.size) (l := sigA 2) (s := ⟨#[42]⟩) rfl _ _ _ (.inl rfl) under_sigmap under_str (sg 1 1) rfl rfl rfl hM (by decide +kernel) ?_; intro w3 hg hM2; have hB2 := (hg.block _ (Array.getElem?_eq_some_iff.1 hB).1 (by simp; omega)).trans hB; have hE2 := hE.row hg (Nat.le_refl _); clear hg)
        go_roundw
        case rel => exact ⟨3, by omega, rfl, hE2, hB2, hM2⟩
        case measure => simp [intOf]
      · have cS : wr.cell? ⟨w2.heap.size, 3, none⟩ = some (.string ⟨#[47]⟩) := by simp [World.cell?, hB]
        go_wp2_with (refine wpList_update_str (r := w.heap.size) (l := sigA 3) (s := ⟨#[47]⟩) rfl _ _ _ (.inl rfl) under_sigmap under_str (sg 1 1) rfl rfl rfl hM (by decide +kernel) ?_; intro w3 hg hM2; have hB2 := (hg.block _ (Array.getElem?_eq_some_iff.1 hB).1 (by simp; omega)).trans hB; have hE2 := hE.row hg (Nat.le_refl _); clear hg)
        go_roundw
        case rel => exact ⟨4, by omega, rfl, hE2, hB2, hM2⟩
        case measure => simp [intOf]
    · obtain rfl : k = 4 := by omega
      clear hk hlt hB
      obtain ⟨wo, rfl⟩ : ∃ wo : World, wo = wr := ⟨_, rfl⟩
      go_wp2
      simp only [Int.cast_ofNat_Int]
      have hlt3 := hM.lt
      have hB := heap_alloc_new wo (.cells #[.string ⟨#[60]⟩, .string ⟨#[60, 61]⟩, .string ⟨#[62]⟩, .string ⟨#[62, 61]⟩, .string ⟨#[61, 61]⟩, .string ⟨#[33, 61]⟩] 9)
      replace hM := hM.ext ((Ext.refl wo).alloc (.cells #[.string ⟨#[60]⟩, .string ⟨#[60, 61]⟩, .string ⟨#[62]⟩, .string ⟨#[62, 61]⟩, .string ⟨#[61, 61]⟩, .string ⟨#[33, 61]⟩] 9))
      replace hE := hE.alloc (.cells #[.string ⟨#[60]⟩, .string ⟨#[60, 61]⟩, .string ⟨#[62]⟩, .string ⟨#[62, 61]⟩, .string ⟨#[61, 61]⟩, .string ⟨#[33, 61]⟩] 9)
      have hM0 : MapAt (wo.alloc (.cells #[.string ⟨#[60]⟩, .string ⟨#[60, 61]⟩, .string ⟨#[62]⟩, .string ⟨#[62, 61]⟩, .string ⟨#[61, 61]⟩, .string ⟨#[33, 61]⟩] 9)) w.heap.size (sigB 0) := hM
      clear hM
      go_loopw [30] (fun iv wr => ∃ k : Nat, k ≤ 6 ∧ iv = .int .i64 k ∧ Ext w wr ∧ wr.heap[wo.heap.size]? = some (.cells #[.string ⟨#[60]⟩, .string ⟨#[60, 61]⟩, .string ⟨#[62]⟩, .string ⟨#[62, 61]⟩, .string ⟨#[61, 61]⟩, .string ⟨#[33, 61]⟩] 9 (0, 0)) ∧ MapAt wr w.heap.size (sigB k)) (fun iv _ => 6 - (intOf iv).toNat)
      case atStart => exact ⟨0, by omega, rfl, hE, hB, hM0⟩
      case round =>
        clear hM0 hE hB
        obtain ⟨k, hk, rfl, hE, hB, hM⟩ := hrel
        by_cases hlt : k < 6
        · have hk6 : k = 0 ∨ k = 1 ∨ k = 2 ∨ k = 3 ∨ k = 4 ∨ k = 5 := by omega
          clear hk hlt
          rcases hk6 with rfl | rfl | rfl | rfl | rfl | rfl
          · have cS : wr.cell? ⟨wo.heap.size, 0, none⟩ = some (.string ⟨#[60]⟩) := by simp [World.cell?, hB]
            go_wp2_with (refine wpList_update_str (r := w.heap.size) (l := sigB 0) (s := ⟨#[60]⟩) rfl _ _ _ (.inl rfl) under_sigmap under_str (sg 1 2) rfl rfl rfl hM (by decide +kernel) ?_; intro w3 hg hM2; have hB2 := (hg.block _ (Array.getElem?_eq_some_iff.1 hB).1 (by simp; omega)).trans hB; have hE2 := hE.row hg (Nat.le_refl _); clear hg)
            go_roundw
            case rel => exact ⟨1, by omega, rfl, hE2, hB2, hM2⟩
            case measure => simp [intOf]
          · have cS : wr.cell? ⟨wo.heap.size, 1, none⟩ = some (.string ⟨#[60, 61]⟩) := by simp [World.cell?, hB]
            go_wp2_with (refine wpList_update_str (r := w.heap.size) (l := sigB 1) (s := ⟨#[60, 61]⟩) rfl _ _ _ (.inl rfl) under_sigmap under_str (sg 1 2) rfl rfl rfl hM (by decide +kernel) ?_; intro w3 hg hM2; have hB2 := (hg.block _ (Array.getElem?_eq_some_iff.1 hB).1 (by simp; omega)).trans hB; have hE2 := hE.row hg (Nat.le_refl _); clear hg)
            go_roundw
            case rel => exact ⟨2, by omega, rfl, hE2, hB2, hM2⟩
            case measure => simp [intOf]
          · have cS : wr.cell? ⟨wo.heap.size, 2, none⟩ = some (.string ⟨#[62]⟩) := by simp [World.cell?, hB]
            go_wp2_with (refine wpList_update_str (r := w.heap.size) (l := sigB 2) (s := ⟨#[62]⟩) rfl _ _ _ (.inl rfl) under_sigmap under_str (sg 1 2) rfl rfl rfl hM (by decide +kernel) ?_; intro w3 hg hM2; have hB2 := (hg.block _ (Array.getElem?_eq_some_iff.1 hB).1 (by simp; omega)).trans hB; have hE2 := hE.row hg (Nat.le_refl _); clear hg)
            go_roundw
            case rel => exact ⟨3, by omega, rfl, hE2, hB2, hM2⟩
            case measure => simp [intOf]
          · have cS : wr.cell? ⟨wo.heap.size, 3, none⟩ = some (.string ⟨#[62, 61]⟩) := by simp [World.cell?, hB]
            go_wp2_with (refine wpList_update_str (r := w.heap.size) (l := sigB 3) (s := ⟨#[62, 61]⟩) rfl _ _ _ (.inl rfl) under_sigmap under_str (sg 1 2) rfl rfl rfl hM (by decide +kernel) ?_; intro w3 hg hM2; have hB2 := (hg.block _ (Array.getElem?_eq_some_iff.1 hB).1 (by simp; omega)).trans hB; have hE2 := hE.row hg (Nat.le_refl _); clear hg)
            go_roundw
            case rel => exact ⟨4, by omega, rfl, hE2, hB2, hM2⟩
            case measure => simp [intOf]
          · have cS : wr.cell? ⟨wo.heap.size, 4, none⟩ = some (.string ⟨#[61, 61]⟩) := by simp [World.cell?, hB]
            go_wp2_with (refine wpList_update_str (r := w.heap.size) (l := sigB 4) (s := ⟨#[61, 61]⟩) rfl _ _ _ (.inl rfl) under_sigmap under_str (sg 1 2) rfl rfl rfl hM (by decide +kernel) ?_; intro w3 hg hM2; have hB2 := (hg.block _ (Array.getElem?_eq_some_iff.1 hB).1 (by simp; omega)).trans hB; have hE2 := hE.row hg (Nat.le_refl _); clear hg)
            go_roundw
            case rel => exact ⟨5, by omega, rfl, hE2, hB2, hM2⟩
            case measure => simp [intOf]
          · have cS : wr.cell? ⟨wo.heap.size, 5, none⟩ = some (.string ⟨#[33, 61]⟩) := by simp [World.cell?, hB]
            go_wp2_with (refine wpList_update_str (r := w.heap.size) (l := sigB 5) (s := ⟨#[33, 61]⟩) rfl _ _ _ (.inl rfl) under_sigmap under_str (sg 1 2) rfl rfl rfl hM (by decide +kernel) ?_; intro w3 hg hM2; have hB2 := (hg.block _ (Array.getElem?_eq_some_iff.1 hB).1 (by simp; omega)).trans hB; have hE2 := hE.row hg (Nat.le_refl _); clear hg)
            go_roundw
            case rel => exact ⟨6, by omega, rfl, hE2, hB2, hM2⟩
            case measure => simp [intOf]
        · obtain rfl : k = 6 := by omega
          go_wp2
          go_ret
          exact ⟨_, rfl, hE, _, rfl, hM⟩
theorem operators_any (b : Bool) (w : World) : Calls Try.prog 32 #[.bool b] w (Ret w (MapV (sigs b))) := by
  cases b
  · exact ops_false w
  · exact ops_true w
end Go.Proofs.Ytlmdmmikocbmlaa
