/- The generated expression. -/
import Derived.Test.YtlmdmmikocbmlaaFn8
import Derived.Test.YtlmdmmikocbmlaaGen3
namespace Go.Proofs.Ytlmdmmikocbmlaa
open Go.RowKit
set_option linter.unusedSimpArgs false
set_option linter.unusedVariables false
/-- A source is made over the ints. -/
theorem src_new {w : World} {v : Value} {l : List Int} (h : IntsAt w.cell? v l) :
    ∃ L : LD, L.l = l ∧ Src L (w.alloc (.cells #[v, .int .i64 0] 57)) w.heap.size 0 := by
  obtain ⟨h1, h2, p, b, off, cap, rfl, hc, hp, hn, hh⟩ := h
  by_cases hl : l = []
  · subst hl
    exact ⟨⟨p, w.heap.size + 1, 0, cap, [], 57⟩, rfl, ⟨heap_alloc_new w _, by simp, by simp, by simp, .inl rfl, fun j hj => absurd hj (by simp)⟩⟩
  · have hb : b < w.heap.size := World.block_lt_of_cell? w _ (hh 0 (by cases l <;> simp at hl ⊢))
    exact ⟨⟨p, b, off, cap, l, 57⟩, rfl, ⟨heap_alloc_new w _, Nat.ne_of_lt hb, h1, h2, hp, fun j hj => ((Ext.refl w).alloc _).c (hh j hj)⟩⟩
/-- An expression that the source has made. -/
def ExprV (v : Value) (w : World) : Prop := ∃ t, GenE 4 t ∧ t.At w.cell? v
set_option maxHeartbeats 2000000 in
theorem rexpr_any (v : Value) (l : List Int) (w : World) (h : IntsIn w.cell? v l) :
    Calls Try.prog 11 #[v] w (Ret w ExprV) := by
  have hR := heap_alloc_new w (.cells #[.int .i64 0, .int .i64 0, .string ⟨#[]⟩, .slice none 0 0] 25)
  have x0 := (Ext.refl w).alloc (.cells #[.int .i64 0, .int .i64 0, .string ⟨#[]⟩, .slice none 0 0] 25)
  have h0 := Lib.hid (h.mono x0.sub)
  clear h
  go_enter Try.func11, Try.ntmps11
  go_wp2_with fail
  refine (ints_any v l 40 (by omega) _ h0.out).mono ?_
  rintro e w1 ⟨v1, l1, rfl, x1, hi1, hl1⟩
  replace hi1 := hi1.mono fromC_cell
  clear h0
  obtain ⟨p1, n1, cp1, rfl⟩ : ∃ p n c, v1 = .slice p n c := by
    obtain ⟨-, -, p, b, off, cap, rfl, -⟩ := hi1
    exact ⟨_, _, _, rfl⟩
  obtain ⟨L, hL, hs⟩ := src_new hi1
  have hR1 := x1.block hR
  have hx1 := x0.trans x1
  have hlt : w.heap.size < w1.heap.size := (Array.getElem?_eq_some_iff.1 hR1).1
  have hR2 := (Ext.refl w1).alloc (.cells #[.slice p1 n1 cp1, .int .i64 0] 57) |>.block hR1
  have hx2 := hx1.alloc (.cells #[.slice p1 n1 cp1, .int .i64 0] 57)
  have hs2 := Lib.hid hs
  have hwb : w.heap.size < w1.heap.size := hlt
  clear hs hi1 hl1 hL hR1 x1 hx1 x0 hR
  go_wp2_with fail
  refine (next_any L w1.heap.size 0 2 _ hs2.out (by omega) (by omega) (by omega)).mono ?_
  rintro e w2 ⟨v2, i2, rfl, g2, hs3, hi2, hi3, r, rfl, hr0, hr1⟩
  have hR3 := grown_blk g2 hR2 (by simp; omega)
  have hx3 := Ext.row hx2 g2 (by omega)
  replace hs3 := Lib.hid hs3
  clear hs2 g2 hR2 hx2
  go_wp2_with fail
  have hcost : costE 4 = 124 := rfl
  refine ((expr_any 4 (by omega)).use L w1.heap.size i2 _ w2 hs3.out (by omega) (by omega) (by omega)).mono ?_
  rintro e w3 ⟨v3, i3, rfl, g3, hs4, -, -, t, ht, hat⟩
  have hR4 := grown_blk g3 hR3 (by simp; omega)
  have hx4 := Ext.row hx3 g3 (by omega)
  have hws : w.heap.size < w2.heap.size := (Array.getElem?_eq_some_iff.1 hR3).1
  clear hs3 g3 hR3 hx3 hs4
  have hat0 := Lib.hid hat
  obtain ⟨kv, rfl, hat2⟩ := hat.parts
  obtain ⟨pk, nk, ck, rfl⟩ : ∃ p n c, kv = .slice p n c := by
    obtain ⟨-, -, -, -, p, b, off, cap, rfl, -⟩ := hat2
    exact ⟨_, _, _, rfl⟩
  clear hat hat2
  obtain ⟨k0, k1, k2, k3, -⟩ := cells4 hR4
  have f0 : w3.frozen? ⟨w.heap.size, 0, none⟩ = false := by simp [World.frozen?, hR4]
  have f1 : w3.frozen? ⟨w.heap.size, 1, none⟩ = false := by simp [World.frozen?, hR4]
  have f2 : w3.frozen? ⟨w.heap.size, 2, none⟩ = false := by simp [World.frozen?, hR4]
  have f3 : w3.frozen? ⟨w.heap.size, 3, none⟩ = false := by simp [World.frozen?, hR4]
  go_wp2_with fail
  have s4 := set4 w3 w.heap.size (.int .i64 t.k) (.int .i64 t.n) (.string t.s) (.slice pk nk ck)
  have b4 := set4_blk hR4 (.int .i64 t.k) (.int .i64 t.n) (.string t.s) (.slice pk nk ck)
  clear k0 k1 k2 k3 f0 f1 f2 f3
  obtain ⟨c0, c1, c2, c3, -⟩ := cells4 b4
  refine bodyPost_ret (res_node Try.results11 rfl c0 c1 c2 c3) rfl ⟨_, rfl, Ext.row hx4 s4 (by omega), t, ht, ?_⟩
  exact Nd.At.mono (fun a u ha => fromC_cell _ _ (grown_from s4 hws _ _ ha)) _ _ hat0.out
end Go.Proofs.Ytlmdmmikocbmlaa
