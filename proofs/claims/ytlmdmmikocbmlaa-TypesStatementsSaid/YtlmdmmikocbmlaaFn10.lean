/- The examples of the section: lives. Printed by gen10.py. -/
import Derived.Test.YtlmdmmikocbmlaaFn8
namespace Go.Proofs.Ytlmdmmikocbmlaa
open Go.RowKit
set_option linter.unusedSimpArgs false
set_option linter.unusedVariables false
def allocs (w : World) : List Obj → World
  | [] => w
  | o :: l => allocs (w.alloc o) l
theorem allocs_ext (l : List Obj) : ∀ (w : World), Ext w (allocs w l) := by
  induction l with
  | nil => exact fun w => Ext.refl w
  | cons o l ih => exact fun w => ((Ext.refl w).alloc o).trans (ih _)
theorem allocs_at (l : List Obj) : ∀ (w : World) (j : Nat) (o : Obj), l[j]? = some o → (allocs w l).heap[w.heap.size + j]? = some o := by
  induction l with
  | nil => intro w j o h; simp at h
  | cons a l ih =>
    intro w j o h
    cases j with
    | zero =>
      obtain rfl : a = o := by simpa using h
      exact Ext.block (allocs_ext l (w.alloc a)) (heap_alloc_new w a)
    | succ j =>
      have := ih (w.alloc a) j o (by simpa using h)
      rw [World.size_alloc] at this
      rw [show w.heap.size + (j + 1) = w.heap.size + 1 + j by omega]
      exact this
theorem nds_blk {W : World} {B : Nat} {T : TypeId} (l : List (Nd × Value)) (h : W.heap[B]? = some (.cells (l.flatMap nodeCells).toArray T (0, 0))) (hl : l.length ≤ 1000000000)
    (hk : ∀ p ∈ l, p.1.At W.cell? (.agg (nodeCells p).toArray)) : NdsAt W.cell? (.slice (some ⟨B, 0, none⟩) l.length l.length) (l.map (·.1)) :=
  NdsAt.new (fun _ _ h => h) l (fun j u hj => cell_blk h j |>.trans (by simpa using hj)) hl hk
/-- The blocks of the examples. -/
def rowsL (N : Nat) : List Obj := [
  .cells #[.int .i64 12, .int .i64 1, .string ⟨#[]⟩, .slice none 0 0] 25,
  .cells #[.int .i64 12, .int .i64 1, .string ⟨#[]⟩, .slice none 0 0, .int .i64 12, .int .i64 2, .string ⟨#[]⟩, .slice none 0 0] 25,
  .cells #[.int .i64 18, .int .i64 0, .string ⟨#[43]⟩, .slice (some ⟨N + 1, 0, none⟩) 2 2] 25,
  .cells #[.int .i64 18, .int .i64 0, .string ⟨#[43]⟩, .slice (some ⟨N + 1, 0, none⟩) 2 2, .int .i64 15, .int .i64 0, .string ⟨#[110, 111, 119]⟩, .slice none 0 0] 25,
  .cells #[.int .i64 18, .int .i64 0, .string ⟨#[60]⟩, .slice (some ⟨N + 1 + 1 + 1, 0, none⟩) 2 2] 25,
  .cells #[.int .i64 13, .int .i64 1, .string ⟨#[]⟩, .slice none 0 0] 25,
  .cells #[.int .i64 16, .int .i64 0, .string ⟨#[]⟩, .slice (some ⟨N + 1 + 1 + 1 + 1 + 1, 0, none⟩) 1 1] 25,
  .cells #[.int .i64 11, .int .i64 0, .string ⟨#[]⟩, .slice none 0 0] 25,
  .cells #[.int .i64 12, .int .i64 1, .string ⟨#[]⟩, .slice none 0 0, .int .i64 11, .int .i64 0, .string ⟨#[]⟩, .slice none 0 0, .int .i64 11, .int .i64 0, .string ⟨#[]⟩, .slice none 0 0] 25,
  .cells #[.int .i64 2, .int .i64 0, .string ⟨#[]⟩, .slice (some ⟨N + 1 + 1 + 1 + 1 + 1 + 1 + 1 + 1, 0, none⟩) 3 3] 25,
  .cells #[.int .i64 14, .int .i64 0, .string ⟨#[119]⟩, .slice none 0 0] 25,
  .cells #[.int .i64 1, .int .i64 0, .string ⟨#[118, 97]⟩, .slice (some ⟨N + 1 + 1 + 1 + 1 + 1 + 1 + 1 + 1 + 1 + 1, 0, none⟩) 1 1] 25,
  .cells #[.string ⟨#[100]⟩] 9,
  .cells #[.string ⟨#[118]⟩] 9,
  .cells #[.slice (some ⟨N + 1 + 1 + 1 + 1 + 1 + 1 + 1 + 1 + 1 + 1 + 1 + 1, 0, none⟩) 1 1, .slice (some ⟨N + 1 + 1 + 1 + 1 + 1 + 1 + 1 + 1 + 1 + 1 + 1 + 1 + 1, 0, none⟩) 1 1, .slice none 0 0] 35]
def LV (N : Nat) (W : World) : Prop := ∀ j o, (rowsL N)[j]? = some o → W.heap[N + j]? = some o
theorem LV.mono {N : Nat} {W W' : World} (h : LV N W) (x : Ext W W') : LV N W' := fun j o ho => Ext.block x (h j o ho)
theorem lv_new (w : World) : LV w.heap.size (allocs w (rowsL w.heap.size)) := fun j o h => allocs_at _ w j o h
def oneT : Nd := .mk 12 1 ⟨#[]⟩ []
def twoT : Nd := .mk 12 2 ⟨#[]⟩ []
def sumT : Nd := .mk 18 0 ⟨#[43]⟩ [oneT, twoT]
def nowT : Nd := .mk 15 0 ⟨#[110, 111, 119]⟩ []
def lessT : Nd := .mk 18 0 ⟨#[60]⟩ [sumT, nowT]
def drawT : Nd := .mk 16 0 ⟨#[]⟩ [.mk 13 1 ⟨#[]⟩ []]
def empT : Nd := .mk 11 0 ⟨#[]⟩ []
def testT : Nd := .mk 2 0 ⟨#[]⟩ [oneT, empT, empT]
def varT : Nd := .mk 14 0 ⟨#[119]⟩ []
def setT : Nd := .mk 1 0 ⟨#[118, 97]⟩ [varT]
def unL : Un := ⟨[⟨#[100]⟩], [⟨#[118]⟩], []⟩
section
variable {N : Nat} {W : World}
theorem leaf_at (C : Rd) (k n : Int) (s : ByteArray) (h1 : -9223372036854775808 ≤ k ∧ k ≤ 9223372036854775807) (h2 : -9223372036854775808 ≤ n ∧ n ≤ 9223372036854775807) (h3 : s.size ≤ maxLen) :
    Nd.At C (.mk k n s []) (.agg #[.int .i64 k, .int .i64 n, .string s, .slice none 0 0]) := Nd.At.of_parts (t := .mk k n s []) h1 h2 h3 (NdsAt.nil _)
theorem LV.at (h : LV N W) (j : Nat) (o : Obj) (ho : (rowsL N)[j]? = some o) : W.heap[N + j]? = some o := h j o ho

theorem lv_sum (h : LV N W) : sumT.At W.cell? (.agg #[.int .i64 18, .int .i64 0, .string ⟨#[43]⟩, .slice (some ⟨N + 1, 0, none⟩) 2 2]) :=
  Nd.At.of_parts (t := sumT) (by decide) (by decide) (short1 43) (nds_blk [(oneT, .slice none 0 0), (twoT, .slice none 0 0)] (h.at 1 _ rfl) (by simp) (by
    intro p hp; simp only [List.mem_cons, List.not_mem_nil, or_false] at hp; rcases hp with rfl | rfl
    · exact leaf_at _ _ _ _ (by decide) (by decide) (Nat.zero_le _)
    · exact leaf_at _ _ _ _ (by decide) (by decide) (Nat.zero_le _)))
theorem lv_less (h : LV N W) : lessT.At W.cell? (.agg #[.int .i64 18, .int .i64 0, .string ⟨#[60]⟩, .slice (some ⟨N + 1 + 1 + 1, 0, none⟩) 2 2]) :=
  Nd.At.of_parts (t := lessT) (by decide) (by decide) (short1 60) (nds_blk [(sumT, .slice (some ⟨N + 1, 0, none⟩) 2 2), (nowT, .slice none 0 0)] (h.at 3 _ rfl) (by simp) (by
    intro p hp; simp only [List.mem_cons, List.not_mem_nil, or_false] at hp; rcases hp with rfl | rfl
    · exact lv_sum h
    · exact leaf_at _ _ _ _ (by decide) (by decide) (by decide +kernel)))
theorem lv_draw (h : LV N W) : drawT.At W.cell? (.agg #[.int .i64 16, .int .i64 0, .string ⟨#[]⟩, .slice (some ⟨N + 1 + 1 + 1 + 1 + 1, 0, none⟩) 1 1]) :=
  Nd.At.of_parts (t := drawT) (by decide) (by decide) (Nat.zero_le _) (nds_blk [(.mk 13 1 ⟨#[]⟩ [], .slice none 0 0)] (h.at 5 _ rfl) (by simp) (by
    intro p hp; simp only [List.mem_cons, List.not_mem_nil, or_false] at hp; obtain rfl := hp
    exact leaf_at _ _ _ _ (by decide) (by decide) (Nat.zero_le _)))
theorem lv_test (h : LV N W) : testT.At W.cell? (.agg #[.int .i64 2, .int .i64 0, .string ⟨#[]⟩, .slice (some ⟨N + 1 + 1 + 1 + 1 + 1 + 1 + 1 + 1, 0, none⟩) 3 3]) :=
  Nd.At.of_parts (t := testT) (by decide) (by decide) (Nat.zero_le _) (nds_blk [(oneT, .slice none 0 0), (empT, .slice none 0 0), (empT, .slice none 0 0)] (h.at 8 _ rfl) (by simp) (by
    intro p hp; simp only [List.mem_cons, List.not_mem_nil, or_false] at hp; rcases hp with rfl | rfl | rfl
    · exact leaf_at _ _ _ _ (by decide) (by decide) (Nat.zero_le _)
    · exact leaf_at _ _ _ _ (by decide) (by decide) (Nat.zero_le _)
    · exact leaf_at _ _ _ _ (by decide) (by decide) (Nat.zero_le _)))
theorem lv_set (h : LV N W) : setT.At W.cell? (.agg #[.int .i64 1, .int .i64 0, .string ⟨#[118, 97]⟩, .slice (some ⟨N + 1 + 1 + 1 + 1 + 1 + 1 + 1 + 1 + 1 + 1, 0, none⟩) 1 1]) :=
  Nd.At.of_parts (t := setT) (by decide) (by decide) (by decide +kernel) (nds_blk [(varT, .slice none 0 0)] (h.at 10 _ rfl) (by simp) (by
    intro p hp; simp only [List.mem_cons, List.not_mem_nil, or_false] at hp; obtain rfl := hp
    exact leaf_at _ _ _ _ (by decide) (by decide) (short1 119)))
theorem str_blk {B : Nat} {T : TypeId} {s : ByteArray} (h : W.heap[B]? = some (.cells #[.string s] T (0, 0))) (hs : s.size ≤ maxLen) : StrsAt W.cell? (.slice (some ⟨B, 0, none⟩) 1 1) [s] := by
  refine ⟨by simp, by intro x hx; simp at hx; subst hx; exact hs, some ⟨B, 0, none⟩, B, 0, 1, rfl, Nat.le_refl _, .inr rfl, by simp, fun i hi => ?_⟩
  obtain rfl : i = 0 := by simpa using hi
  exact cell_blk h 0
theorem lv_un (h : LV N W) : UnAt W.cell? (.agg #[.slice (some ⟨N + 1 + 1 + 1 + 1 + 1 + 1 + 1 + 1 + 1 + 1 + 1 + 1, 0, none⟩) 1 1, .slice (some ⟨N + 1 + 1 + 1 + 1 + 1 + 1 + 1 + 1 + 1 + 1 + 1 + 1 + 1, 0, none⟩) 1 1, .slice none 0 0]) unL :=
  ⟨_, _, _, rfl, str_blk (h.at 12 _ rfl) (short1 100), str_blk (h.at 13 _ rfl) (short1 118), by simp [unL], none, 0, 0, 0, rfl, Nat.le_refl _, .inl rfl, fun _ => rfl, fun i hi => absurd hi (by simp [unL])⟩
theorem lv_cells6 (h : LV N W) : W.cell? ⟨N + 1 + 1 + 1 + 1 + 1 + 1, 0, none⟩ = some (.int .i64 16) ∧ W.cell? ⟨N + 1 + 1 + 1 + 1 + 1 + 1, 1, none⟩ = some (.int .i64 0) ∧ W.cell? ⟨N + 1 + 1 + 1 + 1 + 1 + 1, 2, none⟩ = some (.string ⟨#[]⟩) ∧ W.cell? ⟨N + 1 + 1 + 1 + 1 + 1 + 1, 3, none⟩ = some (.slice (some ⟨N + 1 + 1 + 1 + 1 + 1, 0, none⟩) 1 1) := by
  have b : W.heap[N + 1 + 1 + 1 + 1 + 1 + 1]? = some (.cells #[.int .i64 16, .int .i64 0, .string ⟨#[]⟩, .slice (some ⟨N + 1 + 1 + 1 + 1 + 1, 0, none⟩) 1 1] 25) := h.at 6 _ rfl
  exact ⟨cell_blk b 0, cell_blk b 1, cell_blk b 2, cell_blk b 3⟩
theorem lv_cells9 (h : LV N W) : W.cell? ⟨N + 1 + 1 + 1 + 1 + 1 + 1 + 1 + 1 + 1, 0, none⟩ = some (.int .i64 2) ∧ W.cell? ⟨N + 1 + 1 + 1 + 1 + 1 + 1 + 1 + 1 + 1, 1, none⟩ = some (.int .i64 0) ∧ W.cell? ⟨N + 1 + 1 + 1 + 1 + 1 + 1 + 1 + 1 + 1, 2, none⟩ = some (.string ⟨#[]⟩) ∧ W.cell? ⟨N + 1 + 1 + 1 + 1 + 1 + 1 + 1 + 1 + 1, 3, none⟩ = some (.slice (some ⟨N + 1 + 1 + 1 + 1 + 1 + 1 + 1 + 1, 0, none⟩) 3 3) := by
  have b : W.heap[N + 1 + 1 + 1 + 1 + 1 + 1 + 1 + 1 + 1]? = some (.cells #[.int .i64 2, .int .i64 0, .string ⟨#[]⟩, .slice (some ⟨N + 1 + 1 + 1 + 1 + 1 + 1 + 1 + 1, 0, none⟩) 3 3] 25) := h.at 9 _ rfl
  exact ⟨cell_blk b 0, cell_blk b 1, cell_blk b 2, cell_blk b 3⟩
theorem lv_cells11 (h : LV N W) : W.cell? ⟨N + 1 + 1 + 1 + 1 + 1 + 1 + 1 + 1 + 1 + 1 + 1, 0, none⟩ = some (.int .i64 1) ∧ W.cell? ⟨N + 1 + 1 + 1 + 1 + 1 + 1 + 1 + 1 + 1 + 1 + 1, 1, none⟩ = some (.int .i64 0) ∧ W.cell? ⟨N + 1 + 1 + 1 + 1 + 1 + 1 + 1 + 1 + 1 + 1 + 1, 2, none⟩ = some (.string ⟨#[118, 97]⟩) ∧ W.cell? ⟨N + 1 + 1 + 1 + 1 + 1 + 1 + 1 + 1 + 1 + 1 + 1, 3, none⟩ = some (.slice (some ⟨N + 1 + 1 + 1 + 1 + 1 + 1 + 1 + 1 + 1 + 1, 0, none⟩) 1 1) := by
  have b : W.heap[N + 1 + 1 + 1 + 1 + 1 + 1 + 1 + 1 + 1 + 1 + 1]? = some (.cells #[.int .i64 1, .int .i64 0, .string ⟨#[118, 97]⟩, .slice (some ⟨N + 1 + 1 + 1 + 1 + 1 + 1 + 1 + 1 + 1 + 1, 0, none⟩) 1 1] 25) := h.at 11 _ rfl
  exact ⟨cell_blk b 0, cell_blk b 1, cell_blk b 2, cell_blk b 3⟩
theorem lv_cells14 (h : LV N W) : W.cell? ⟨N + 1 + 1 + 1 + 1 + 1 + 1 + 1 + 1 + 1 + 1 + 1 + 1 + 1 + 1, 0, none⟩ = some (.slice (some ⟨N + 1 + 1 + 1 + 1 + 1 + 1 + 1 + 1 + 1 + 1 + 1 + 1, 0, none⟩) 1 1) ∧ W.cell? ⟨N + 1 + 1 + 1 + 1 + 1 + 1 + 1 + 1 + 1 + 1 + 1 + 1 + 1 + 1, 1, none⟩ = some (.slice (some ⟨N + 1 + 1 + 1 + 1 + 1 + 1 + 1 + 1 + 1 + 1 + 1 + 1 + 1, 0, none⟩) 1 1) ∧ W.cell? ⟨N + 1 + 1 + 1 + 1 + 1 + 1 + 1 + 1 + 1 + 1 + 1 + 1 + 1 + 1, 2, none⟩ = some (.slice none 0 0) := by
  have b : W.heap[N + 1 + 1 + 1 + 1 + 1 + 1 + 1 + 1 + 1 + 1 + 1 + 1 + 1 + 1]? = some (.cells #[.slice (some ⟨N + 1 + 1 + 1 + 1 + 1 + 1 + 1 + 1 + 1 + 1 + 1 + 1, 0, none⟩) 1 1, .slice (some ⟨N + 1 + 1 + 1 + 1 + 1 + 1 + 1 + 1 + 1 + 1 + 1 + 1 + 1, 0, none⟩) 1 1, .slice none 0 0] 35) := h.at 14 _ rfl
  exact ⟨cell_blk b 0, cell_blk b 1, cell_blk b 2⟩
theorem lv_un_d (h : LV N W) : StrsAt W.cell? (.slice (some ⟨N + 1 + 1 + 1 + 1 + 1 + 1 + 1 + 1 + 1 + 1 + 1 + 1, 0, none⟩) 1 1) [⟨#[100]⟩] := str_blk (h.at 12 _ rfl) (short1 100)
theorem lv_un_v (h : LV N W) : StrsAt W.cell? (.slice (some ⟨N + 1 + 1 + 1 + 1 + 1 + 1 + 1 + 1 + 1 + 1 + 1 + 1 + 1, 0, none⟩) 1 1) [⟨#[118]⟩] := str_blk (h.at 13 _ rfl) (short1 118)
end
theorem v_index : indexF [⟨#[100]⟩] [⟨#[118]⟩] ⟨#[118]⟩ = 1 := by decide +kernel
theorem less_type : typeF lessT = 2 := by decide +kernel
theorem draw_type : typeF drawT = 0 := by decide +kernel
theorem test_check : checkF (singleU testT) = 11 := by decide +kernel
theorem set_check : checkF (singleU setT) = 11 := by decide +kernel
theorem un_check : checkF unL = 0 := by decide +kernel
set_option maxHeartbeats 2000000 in
theorem lives_any (w : World) : Calls Try.prog 14 #[] w (RetV w (.bool true)) := by
  have hV := Lib.hid (lv_new w)
  have hX := Lib.hid (allocs_ext (rowsL w.heap.size) w)
  go_enter Try.func14, Try.ntmps14
  go_wp2_with fail
  refine ((typeOf_any lessT).use (lv_less hV.out)).mono ?_
  rintro e w2 ⟨rfl, x2⟩
  replace hX := Lib.hid (hX.out.trans x2)
  replace hV := Lib.hid (hV.out.mono x2)
  rw [less_type]
  clear x2
  obtain ⟨d0, d1, d2, d3⟩ := lv_cells6 hV.out
  go_wp2_with fail
  refine ((typeOf_any drawT).use (lv_draw hV.out)).mono ?_
  rintro e w3 ⟨rfl, x2⟩
  replace hX := Lib.hid (hX.out.trans x2)
  replace hV := Lib.hid (hV.out.mono x2)
  rw [draw_type]
  clear x2 d0 d1 d2 d3
  obtain ⟨d0, d1, d2, d3⟩ := lv_cells9 hV.out
  go_wp2_with fail
  refine (single_any testT _ _ (lv_test hV.out)).mono ?_
  rintro e w4 ⟨v, rfl, x2, hu⟩
  replace hX := Lib.hid (hX.out.trans x2)
  replace hV := Lib.hid (hV.out.mono x2)
  replace hu := Lib.hid hu
  clear x2 d0 d1 d2 d3
  go_wp2_with fail
  refine (check_any _ _ _ hu.out).mono ?_
  rintro e w5 ⟨rfl, x2⟩
  replace hX := Lib.hid (hX.out.trans x2)
  replace hV := Lib.hid (hV.out.mono x2)
  rw [test_check]
  clear x2 hu
  obtain ⟨d0, d1, d2, d3⟩ := lv_cells11 hV.out
  go_wp2_with fail
  refine (single_any setT _ _ (lv_set hV.out)).mono ?_
  rintro e w6 ⟨v2, rfl, x2, hu⟩
  replace hX := Lib.hid (hX.out.trans x2)
  replace hV := Lib.hid (hV.out.mono x2)
  replace hu := Lib.hid hu
  clear x2 d0 d1 d2 d3
  go_wp2_with fail
  refine (check_any _ _ _ hu.out).mono ?_
  rintro e w7 ⟨rfl, x2⟩
  replace hX := Lib.hid (hX.out.trans x2)
  replace hV := Lib.hid (hV.out.mono x2)
  rw [set_check]
  clear x2 hu
  obtain ⟨d0, d1, d2⟩ := lv_cells14 hV.out
  go_wp2_with fail
  refine (check_any unL _ _ (lv_un hV.out)).mono ?_
  rintro e w8 ⟨rfl, x2⟩
  replace hX := Lib.hid (hX.out.trans x2)
  replace hV := Lib.hid (hV.out.mono x2)
  rw [un_check]
  clear x2 d0 d1 d2
  obtain ⟨d0, d1, d2⟩ := lv_cells14 hV.out
  go_wp2_with fail
  refine (index_any _ _ (.slice none 0 0) [⟨#[100]⟩] [⟨#[118]⟩] _ _ (lv_un_d hV.out) (lv_un_v hV.out)).mono ?_
  rintro e w9 ⟨rfl, x2⟩
  replace hX := Lib.hid (hX.out.trans x2)
  rw [v_index]
  clear x2 d0 d1 d2 hV
  go_wp2_with fail
  go_ret
  exact ⟨rfl, hX.out⟩
end Go.Proofs.Ytlmdmmikocbmlaa
