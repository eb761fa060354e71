/- TypesExpressions: the walk. -/
import Derived.Test.YtlmdmmikocbmlaaFn9
import Derived.Test.YtlmdmmikocbmlaaFn10
import Derived.Test.YtlmdmmikocbmlaaLaw3
namespace Go.Proofs.Ytlmdmmikocbmlaa
open Go.RowKit
set_option linter.unusedSimpArgs false
set_option linter.unusedVariables false
set_option maxHeartbeats 2000000 in
theorem typesExpressions_any (v : Value) (l : List Int) (w : World) (h : IntsIn w.cell? v l) :
    Calls Try.prog 3 #[v] w (RetV w (.bool true)) := by
  have h0 := Lib.hid h
  clear h
  go_enter Try.func3, Try.ntmps3
  go_wp2_with fail
  refine (rexpr_any v l _ h0.out).mono ?_
  rintro e w1 ⟨v1, rfl, x1, t, ht, hat⟩
  have htype := Lib.hid (gen_type ht)
  clear h0 ht
  have hat0 := Lib.hid hat
  obtain ⟨kv, rfl, hat2⟩ := hat.parts
  obtain ⟨pk, nk, ck, rfl⟩ : ∃ p n c, kv = .slice p n c := by
    obtain ⟨-, -, -, -, p, b, off, cap, rfl, -⟩ := hat2
    exact ⟨_, _, _, rfl⟩
  clear hat hat2
  have hB1 := new4 w1 (.int .i64 t.k) (.int .i64 t.n) (.string t.s) (.slice pk nk ck) 25
  have y1 := (Ext.refl w1).alloc (.cells #[.int .i64 t.k, .int .i64 t.n, .string t.s, .slice pk nk ck] 25)
  have hB2 := new4 (w1.alloc (.cells #[.int .i64 t.k, .int .i64 t.n, .string t.s, .slice pk nk ck] 25)) (.int .i64 t.k) (.int .i64 t.n) (.string t.s) (.slice pk nk ck) 25
  have hB3 := new4 ((w1.alloc (.cells #[.int .i64 t.k, .int .i64 t.n, .string t.s, .slice pk nk ck] 25)).alloc (.cells #[.int .i64 t.k, .int .i64 t.n, .string t.s, .slice pk nk ck] 25)) (.int .i64 9) (.int .i64 0) (.string ⟨#[]⟩) (.slice (some ⟨w1.heap.size + 1, 0, none⟩) 1 1) 25
  have z2 := (Ext.refl ((w1.alloc (.cells #[.int .i64 t.k, .int .i64 t.n, .string t.s, .slice pk nk ck] 25)).alloc (.cells #[.int .i64 t.k, .int .i64 t.n, .string t.s, .slice pk nk ck] 25))).alloc (.cells #[.int .i64 9, .int .i64 0, .string ⟨#[]⟩, .slice (some ⟨w1.heap.size + 1, 0, none⟩) 1 1] 25)
  have z1 := ((Ext.refl (w1.alloc (.cells #[.int .i64 t.k, .int .i64 t.n, .string t.s, .slice pk nk ck] 25))).alloc (.cells #[.int .i64 t.k, .int .i64 t.n, .string t.s, .slice pk nk ck] 25)).trans z2
  replace hB1 := Lib.hid (Ext.block z1 hB1)
  replace hB2 := Lib.hid (Ext.block z2 hB2)
  replace hB3 := Lib.hid hB3
  have xW := Lib.hid (y1.trans z1)
  have xw := Lib.hid (x1.trans xW.out)
  clear z1 z2 y1
  go_wp2_with fail
  simp only [World.size_alloc] at hB2 hB3
  generalize ((w1.alloc (.cells #[.int .i64 t.k, .int .i64 t.n, .string t.s, .slice pk nk ck] 25)).alloc (.cells #[.int .i64 t.k, .int .i64 t.n, .string t.s, .slice pk nk ck] 25)).alloc (.cells #[.int .i64 9, .int .i64 0, .string ⟨#[]⟩, .slice (some ⟨w1.heap.size + 1, 0, none⟩) 1 1] 25) = W at *
  have hA : Hid (∀ w', Ext W w' → t.At w'.cell? (.agg #[.int .i64 t.k, .int .i64 t.n, .string t.s, .slice pk nk ck])) := fun w' x => Nd.At.mono (xW.out.trans x).sub _ _ hat0.out
  have hS0 : Hid (∀ w', Ext W w' → Nd.At w'.cell? (.mk 9 0 ⟨#[]⟩ [t]) (.agg #[.int .i64 9, .int .i64 0, .string ⟨#[]⟩, .slice (some ⟨w1.heap.size + 1, 0, none⟩) 1 1])) := fun w' x =>
    Nd.At.of_parts (t := .mk 9 0 ⟨#[]⟩ [t]) (by simp [Nd.k]) (by simp [Nd.n]) (Nat.zero_le _) (nds_blk [(t, .slice pk nk ck)] (Ext.block x hB2.out) (by simp) (by intro p hp; simp at hp; subst hp; exact hA.out _ x))
  have hC : Hid (∀ w', Ext W w' → w'.cell? ⟨w1.heap.size, 0, none⟩ = some (.int .i64 t.k) ∧ w'.cell? ⟨w1.heap.size, 1, none⟩ = some (.int .i64 t.n) ∧ w'.cell? ⟨w1.heap.size, 2, none⟩ = some (.string t.s) ∧ w'.cell? ⟨w1.heap.size, 3, none⟩ = some (.slice pk nk ck) ∧
      w'.cell? ⟨w1.heap.size + 1 + 1, 0, none⟩ = some (.int .i64 9) ∧ w'.cell? ⟨w1.heap.size + 1 + 1, 1, none⟩ = some (.int .i64 0) ∧ w'.cell? ⟨w1.heap.size + 1 + 1, 2, none⟩ = some (.string ⟨#[]⟩) ∧ w'.cell? ⟨w1.heap.size + 1 + 1, 3, none⟩ = some (.slice (some ⟨w1.heap.size + 1, 0, none⟩) 1 1)) := fun w' x =>
    have b1 := Ext.block x hB1.out
    have b3 := Ext.block x hB3.out
    ⟨cell_blk b1 0, cell_blk b1 1, cell_blk b1 2, cell_blk b1 3, cell_blk b3 0, cell_blk b3 1, cell_blk b3 2, cell_blk b3 3⟩
  have hxW : Hid (Ext W W.drew) := (Ext.refl W).drew
  obtain ⟨ty, hty⟩ : ∃ ty, ty = rtypeF t := ⟨_, rfl⟩
  rw [← hty] at htype
  replace hty := Lib.hid hty
  clear xW hat0 hB1 hB2 hB3
  refine wp_region_ser (fun w' => w'.cell? ⟨w1.heap.size, 0, none⟩ = some (.int .i64 t.k) ∧ w'.cell? ⟨w1.heap.size, 1, none⟩ = some (.int .i64 t.n) ∧ w'.cell? ⟨w1.heap.size, 2, none⟩ = some (.string t.s) ∧ w'.cell? ⟨w1.heap.size, 3, none⟩ = some (.slice pk nk ck) ∧ w'.cell? ⟨w1.heap.size + 1 + 1, 0, none⟩ = some (.int .i64 9) ∧ w'.cell? ⟨w1.heap.size + 1 + 1, 1, none⟩ = some (.int .i64 0) ∧ w'.cell? ⟨w1.heap.size + 1 + 1, 2, none⟩ = some (.string ⟨#[]⟩) ∧ w'.cell? ⟨w1.heap.size + 1 + 1, 3, none⟩ = some (.slice (some ⟨w1.heap.size + 1, 0, none⟩) 1 1)) [(0, 0), (2, 0), (1, 1), (3, 1), (4, 3), (5, 3), (6, 0), (7, 1), (8, 3), (9, 3), (10, 3), (11, 1), (12, 3), (13, 3)] (by kernel_rfl) (by kernel_rfl) ?_ (fun hS => ?_)
  · first | exact hC.out _ (Ext.refl _) | exact hC.out _ hxW.out
  refine ser_load rfl hS (by rfl) ?_
  apply Exists.intro
  refine ⟨fun w0 hS0 => ?_, ?_⟩
  · (try dsimp only at hS0); go_simp; try with_reducible rfl
  simp only [List.getElem_toArray, List.getElem_cons_zero, List.getElem_cons_succ, Act.put, List.setIfInBounds_toArray, List.set_cons_zero, List.set_cons_succ]
  refine ser_load rfl hS (by rfl) ?_
  apply Exists.intro
  refine ⟨fun w0 hS0 => ?_, ?_⟩
  · (try dsimp only at hS0); go_simp; try with_reducible rfl
  simp only [List.getElem_toArray, List.getElem_cons_zero, List.getElem_cons_succ, Act.put, List.setIfInBounds_toArray, List.set_cons_zero, List.set_cons_succ]
  refine ser_loud1 rfl (fun K hK => ?_)
  rw [if_pos (by rfl)]
  go_wp2_with (first
    | (go_at_call 12; (with_reducible refine ((typeOf_any t).use (hA.out _ hxW.out)).mono ?_); rintro e w2 ⟨rfl, x2⟩; rw [htype.out]; replace hxW := Lib.hid (hxW.out.trans x2); clear x2)
    | (go_at_call 13; (with_reducible refine ((rtypeOf_any t).use (hA.out _ hxW.out)).mono ?_); rintro e w2 ⟨rfl, x2⟩; rw [← hty.out]; replace hxW := Lib.hid (hxW.out.trans x2); clear x2)
    | (go_at_call 12; (with_reducible refine ((typeOf_any (.mk 9 0 ⟨#[]⟩ [t])).use (hS0.out _ hxW.out)).mono ?_); rintro e w2 ⟨rfl, x2⟩; rw [stmt_type]; replace hxW := Lib.hid (hxW.out.trans x2); clear x2)
    | (go_at_call 14; (with_reducible refine (lives_any _).mono ?_); rintro e w2 ⟨rfl, x2⟩; replace hxW := Lib.hid (hxW.out.trans x2); clear x2))
  refine and_held (by first | exact hC.out _ (Ext.refl _) | exact hC.out _ hxW.out) (fun hS => ?_)
  refine ser_loud1 rfl (fun K hK => ?_)
  rw [if_pos (by rfl)]
  go_wp2_with (first
    | (go_at_call 12; (with_reducible refine ((typeOf_any t).use (hA.out _ hxW.out)).mono ?_); rintro e w2 ⟨rfl, x2⟩; rw [htype.out]; replace hxW := Lib.hid (hxW.out.trans x2); clear x2)
    | (go_at_call 13; (with_reducible refine ((rtypeOf_any t).use (hA.out _ hxW.out)).mono ?_); rintro e w2 ⟨rfl, x2⟩; rw [← hty.out]; replace hxW := Lib.hid (hxW.out.trans x2); clear x2)
    | (go_at_call 12; (with_reducible refine ((typeOf_any (.mk 9 0 ⟨#[]⟩ [t])).use (hS0.out _ hxW.out)).mono ?_); rintro e w2 ⟨rfl, x2⟩; rw [stmt_type]; replace hxW := Lib.hid (hxW.out.trans x2); clear x2)
    | (go_at_call 14; (with_reducible refine (lives_any _).mono ?_); rintro e w2 ⟨rfl, x2⟩; replace hxW := Lib.hid (hxW.out.trans x2); clear x2))
  refine and_held (by first | exact hC.out _ (Ext.refl _) | exact hC.out _ hxW.out) (fun hS => ?_)
  refine ser_pure rfl (by rfl) ?_
  apply Exists.intro
  refine ⟨fun w0 => ?_, ?_⟩
  · go_simp; try with_reducible rfl
  simp only [List.getElem_toArray, List.getElem_cons_zero, List.getElem_cons_succ, Act.put, List.setIfInBounds_toArray, List.set_cons_zero, List.set_cons_succ]
  refine ser_pure rfl (by rfl) ?_
  apply Exists.intro
  refine ⟨fun w0 => ?_, ?_⟩
  · go_simp; try with_reducible rfl
  simp only [List.getElem_toArray, List.getElem_cons_zero, List.getElem_cons_succ, Act.put, List.setIfInBounds_toArray, List.set_cons_zero, List.set_cons_succ]
  refine ser_load rfl hS (by rfl) ?_
  apply Exists.intro
  refine ⟨fun w0 hS0 => ?_, ?_⟩
  · (try dsimp only at hS0); go_simp; try with_reducible rfl
  simp only [List.getElem_toArray, List.getElem_cons_zero, List.getElem_cons_succ, Act.put, List.setIfInBounds_toArray, List.set_cons_zero, List.set_cons_succ]
  refine ser_loud1 rfl (fun K hK => ?_)
  rw [if_pos (by rfl)]
  go_wp2_with (first
    | (go_at_call 12; (with_reducible refine ((typeOf_any t).use (hA.out _ hxW.out)).mono ?_); rintro e w2 ⟨rfl, x2⟩; rw [htype.out]; replace hxW := Lib.hid (hxW.out.trans x2); clear x2)
    | (go_at_call 13; (with_reducible refine ((rtypeOf_any t).use (hA.out _ hxW.out)).mono ?_); rintro e w2 ⟨rfl, x2⟩; rw [← hty.out]; replace hxW := Lib.hid (hxW.out.trans x2); clear x2)
    | (go_at_call 12; (with_reducible refine ((typeOf_any (.mk 9 0 ⟨#[]⟩ [t])).use (hS0.out _ hxW.out)).mono ?_); rintro e w2 ⟨rfl, x2⟩; rw [stmt_type]; replace hxW := Lib.hid (hxW.out.trans x2); clear x2)
    | (go_at_call 14; (with_reducible refine (lives_any _).mono ?_); rintro e w2 ⟨rfl, x2⟩; replace hxW := Lib.hid (hxW.out.trans x2); clear x2))
  refine and_held (by first | exact hC.out _ (Ext.refl _) | exact hC.out _ hxW.out) (fun hS => ?_)
  refine ser_pure rfl (by rfl) ?_
  apply Exists.intro
  refine ⟨fun w0 => ?_, ?_⟩
  · go_simp; try with_reducible rfl
  simp only [List.getElem_toArray, List.getElem_cons_zero, List.getElem_cons_succ, Act.put, List.setIfInBounds_toArray, List.set_cons_zero, List.set_cons_succ]
  refine ser_pure rfl (by rfl) ?_
  apply Exists.intro
  refine ⟨fun w0 => ?_, ?_⟩
  · go_simp; try with_reducible rfl
  simp only [List.getElem_toArray, List.getElem_cons_zero, List.getElem_cons_succ, Act.put, List.setIfInBounds_toArray, List.set_cons_zero, List.set_cons_succ]
  refine ser_pure rfl (by rfl) ?_
  apply Exists.intro
  refine ⟨fun w0 => ?_, ?_⟩
  · go_simp; try with_reducible rfl
  simp only [List.getElem_toArray, List.getElem_cons_zero, List.getElem_cons_succ, Act.put, List.setIfInBounds_toArray, List.set_cons_zero, List.set_cons_succ]
  refine ser_loud1 rfl (fun K hK => ?_)
  rw [if_pos (by rfl)]
  go_wp2_with (first
    | (go_at_call 12; (with_reducible refine ((typeOf_any t).use (hA.out _ hxW.out)).mono ?_); rintro e w2 ⟨rfl, x2⟩; rw [htype.out]; replace hxW := Lib.hid (hxW.out.trans x2); clear x2)
    | (go_at_call 13; (with_reducible refine ((rtypeOf_any t).use (hA.out _ hxW.out)).mono ?_); rintro e w2 ⟨rfl, x2⟩; rw [← hty.out]; replace hxW := Lib.hid (hxW.out.trans x2); clear x2)
    | (go_at_call 12; (with_reducible refine ((typeOf_any (.mk 9 0 ⟨#[]⟩ [t])).use (hS0.out _ hxW.out)).mono ?_); rintro e w2 ⟨rfl, x2⟩; rw [stmt_type]; replace hxW := Lib.hid (hxW.out.trans x2); clear x2)
    | (go_at_call 14; (with_reducible refine (lives_any _).mono ?_); rintro e w2 ⟨rfl, x2⟩; replace hxW := Lib.hid (hxW.out.trans x2); clear x2))
  refine and_held (by first | exact hC.out _ (Ext.refl _) | exact hC.out _ hxW.out) (fun hS => ?_)
  refine ser_pure rfl (by rfl) ?_
  apply Exists.intro
  refine ⟨fun w0 => ?_, ?_⟩
  · go_simp; try with_reducible rfl
  simp only [List.getElem_toArray, List.getElem_cons_zero, List.getElem_cons_succ, Act.put, List.setIfInBounds_toArray, List.set_cons_zero, List.set_cons_succ]
  refine ser_pure rfl (by rfl) ?_
  apply Exists.intro
  refine ⟨fun w0 => ?_, ?_⟩
  · go_simp; try with_reducible rfl
  simp only [List.getElem_toArray, List.getElem_cons_zero, List.getElem_cons_succ, Act.put, List.setIfInBounds_toArray, List.set_cons_zero, List.set_cons_succ]
  refine ser_nil ?_
  go_wp2
  go_ret
  exact ⟨rfl, xw.out.trans hxW.out⟩
end Go.Proofs.Ytlmdmmikocbmlaa
