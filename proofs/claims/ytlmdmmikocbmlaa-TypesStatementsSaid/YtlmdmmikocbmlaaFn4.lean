/- TypeOf of the reference. -/
import Derived.Test.YtlmdmmikocbmlaaFn3
namespace Go.Proofs.Ytlmdmmikocbmlaa
open Go.RowKit
set_option linter.unusedSimpArgs false
set_option linter.unusedVariables false
theorem rnotAll_any (t : Int) (l : List Nd) : rnotAll t l = l.any (fun x => rtypeF x != t) := by
  induction l with
  | nil => simp [rnotAll]
  | cons x xs ih => simp [rnotAll, ih]
theorem rnotAll_hit {l : List Nd} {t : Int} {k : Nat} (hk : k < l.length) (h : (rtypeF l[k] != t) = true) : rnotAll t l = true := by
  rw [rnotAll_any]; exact List.any_eq_true.2 ⟨_, List.getElem_mem hk, h⟩
theorem rnotAll_miss {l : List Nd} {t : Int} (h : ∀ j (hj : j < l.length), rtypeF l[j] = t) : rnotAll t l = false := by
  rw [rnotAll_any, List.any_eq_false]
  intro x hx
  obtain ⟨j, hj, rfl⟩ := List.mem_iff_getElem.1 hx
  simp [h j hj]
def RTypeOfC (t : Nd) : Prop := ∀ v w, t.At w.cell? v → Calls Try.prog 13 #[v] w (RetV w (.int .i64 (rtypeF t)))
theorem RTypeOfC.use {t : Nd} (h : RTypeOfC t) {v : Value} {w : World} (ht : t.At w.cell? v) : Calls Try.prog 13 #[v] w (RetV w (.int .i64 (rtypeF t))) := h v w ht
theorem rtypeOf_leaf (k n : Int) (s : ByteArray) (l : List Nd) (hk : k = 12 ∨ k = 13 ∨ k = 14 ∨ k = 15) : RTypeOfC (.mk k n s l) := by
  intro v w ht
  obtain ⟨kv, rfl, -⟩ := ht.parts
  simp only [Nd.k, Nd.n, Nd.s]
  clear ht
  rcases hk with rfl | rfl | rfl | rfl
  all_goals
    go_enter Try.func13, Try.ntmps13
    go_wp2
    go_ret
    exact ⟨rfl, (Ext.refl w).alloc _⟩
theorem rtypeOf_other (k n : Int) (s : ByteArray) (l : List Nd) (hk : k ≠ 12 ∧ k ≠ 13 ∧ k ≠ 14 ∧ k ≠ 15 ∧ k ≠ 16 ∧ k ≠ 17 ∧ k ≠ 18) : RTypeOfC (.mk k n s l) := by
  intro v w ht
  obtain ⟨kv, rfl, -⟩ := ht.parts
  clear ht
  simp only [Nd.k, Nd.n, Nd.s]
  obtain ⟨h1, h2, h3, h4, h5, h6, h7⟩ := hk
  have e : rtypeF (.mk k n s l) = 0 := by simp [rtypeF, h1, h2, h3, h4, h5, h6, h7]
  rw [e]
  have b1 : (k == 12) = false := by simpa using h1
  have b2 : (k == 13) = false := by simpa using h2
  have b3 : (k == 14) = false := by simpa using h3
  have b4 : (k == 15) = false := by simpa using h4
  have b5 : (k != 16) = true := by simpa using h5
  have b6 : (k != 17) = true := by simpa using h6
  have b7 : (k != 18) = true := by simpa using h7
  clear h1 h2 h3 h4 h5 h6 h7 e
  go_enter Try.func13, Try.ntmps13
  go_wp2
  go_ret
  exact ⟨rfl, (Ext.refl w).alloc _⟩
set_option maxHeartbeats 2000000 in
theorem rtypeOf_draw (n : Int) (s : ByteArray) (l : List Nd) (ih : ∀ x ∈ l, RTypeOfC x) : RTypeOfC (.mk 16 n s l) := by
  intro v w ht
  obtain ⟨sv, rfl, -, -, -, hl⟩ := ht.parts
  simp only [Nd.k, Nd.n, Nd.s, Nd.kids] at *
  have h0 : rnotAll 1 l = true → rtypeF (.mk 16 n s l) = 0 := fun h => by simp [rtypeF, h]
  have h1 : rnotAll 1 l = false → rtypeF (.mk 16 n s l) = 1 := fun h => by simp [rtypeF, h]
  obtain ⟨ty0, hty0⟩ : ∃ ty0, ty0 = rtypeF (.mk 16 n s l) := ⟨_, rfl⟩
  rw [← hty0] at h0 h1 ⊢
  have H0 := Lib.hid h0
  have H1 := Lib.hid h1
  have hB := new4 w (.int .i64 16) (.int .i64 n) (.string s) sv 25
  clear ht hty0 h0 h1
  have IHH := Lib.hid ih
  have HL := Lib.hid hl
  clear ih hl
  go_enter Try.func13, Try.ntmps13
  go_wp2_with (fail)
  · have h0 := H0.out
    have h1 := H1.out
    have ih := IHH.out
    have hl := HL.out
    clear H0 H1 IHH HL
    have H0 := Lib.hid h0
    have H1 := Lib.hid h1
    clear h0 h1

    go_loopw [5] (fun iv wr => ∃ k : Nat, k ≤ l.length ∧ iv = .int .i64 k ∧ Ext (w.alloc (.cells #[.int .i64 16, .int .i64 n, .string s, sv] 25)) wr ∧ ∀ j (hj : j < l.length), j < k → rtypeF l[j] = 1) (fun iv _ => l.length - (intOf iv).toNat)
    case atStart => exact ⟨0, by omega, rfl, by first | exact Ext.refl _ | exact (Ext.refl _).alloc _ | exact ((Ext.refl _).alloc _).trans hx6 | exact hx6, fun j hj h => absurd h (by omega)⟩
    case round =>
      obtain ⟨k, hk, rfl, hx, hno⟩ := hrel
      have HNO : Hid (∀ j (hj : j < l.length), j < k → rtypeF l[j] = 1) := hno
      clear hno
      obtain ⟨c0, c1, c2, c3, -⟩ := cells4 (hx.block hB)
      have hl1 := hl.1
      by_cases hlt : k < l.length
      · obtain ⟨b, off, cp, rfl, hcp, hin⟩ : ∃ b off cp, sv = .slice (some ⟨b, off, none⟩) l.length cp ∧ l.length ≤ cp ∧ Nd.In w.cell? b l off := by
          obtain ⟨_, p, b, off, cp, e1, e2, e3, _, e4⟩ := hl
          rcases e3 with rfl | e3
          · simp at hlt
          · exact ⟨b, off, cp, by rw [e1, e3], e2, e4⟩
        obtain ⟨v0, v1, v2, v3, d0, d1, d2, d3, ht⟩ := Nd.In.get l off hin k hlt
        have hxw : Ext w wr := ((Ext.refl w).alloc _).trans hx
        replace d0 := hxw.c d0
        replace d1 := hxw.c d1
        replace d2 := hxw.c d2
        replace d3 := hxw.c d3
        have ht2 := Nd.At.mono hxw.sub _ _ ht
        have hcall := (ih _ (List.getElem_mem hlt)).use ht2
        obtain ⟨ty, hty⟩ : ∃ ty, ty = rtypeF l[k] := ⟨_, rfl⟩
        rw [← hty] at hcall
        have HC := Lib.hid hcall
        have HT := Lib.hid hty
        clear hl ht ht2 hin ih hcall hty hB
        cases hte : (ty == 1) with
        | false =>
          have hte2 : (!(ty == 1)) = true := by rw [hte]; rfl
          have hte3 : (ty != 1) = true := by simpa using hte2
          go_wp2_with (go_at_call 13; refine HC.out.mono ?_; rintro e w2 ⟨rfl, hx2⟩)
          go_ret
          refine ⟨?_, hxw.trans hx2⟩
          rw [H0.out (rnotAll_hit hlt (by rw [← HT.out]; exact hte3))]
          rfl
        | true =>
          have hte2 : (!(ty == 1)) = false := by rw [hte]; rfl
          have hte3 : (ty != 1) = false := by simpa using hte
          go_wp2_with (go_at_call 13; refine HC.out.mono ?_; rintro e w2 ⟨rfl, hx2⟩)
          go_roundw
          case rel => exact ⟨k + 1, by omega, by go_num, hx.trans hx2, fun j hj h => by
            by_cases hjk : j = k
            · subst hjk; rw [← HT.out]; simpa using hte
            · exact HNO.out j hj (by omega)⟩
          case measure => simp [intOf]; omega
      · obtain ⟨_, p, b, off, cp, rfl, _, _, _, _⟩ := hl
        clear ih hB
        go_wp2
        go_ret
        refine ⟨?_, ((Ext.refl w).alloc _).trans hx⟩
        rw [H1.out (rnotAll_miss fun j hj => HNO.out j hj (by omega))]
        rfl
set_option maxHeartbeats 2000000 in
theorem rtypeOf_not (n : Int) (s : ByteArray) (l : List Nd) (hb : (s.toList == [33]) = true) (ih : ∀ x ∈ l, RTypeOfC x) : RTypeOfC (.mk 17 n s l) := by
  intro v w ht
  obtain ⟨sv, rfl, -, -, -, hl⟩ := ht.parts
  simp only [Nd.k, Nd.n, Nd.s, Nd.kids] at *
  have h0 : rnotAll 2 l = true → rtypeF (.mk 17 n s l) = 0 := fun h => by simp only [rtypeF, hb]; simp [h]
  have h1 : rnotAll 2 l = false → rtypeF (.mk 17 n s l) = 2 := fun h => by simp only [rtypeF, hb]; simp [h]
  obtain ⟨ty0, hty0⟩ : ∃ ty0, ty0 = rtypeF (.mk 17 n s l) := ⟨_, rfl⟩
  rw [← hty0] at h0 h1 ⊢
  have H0 := Lib.hid h0
  have H1 := Lib.hid h1
  have hB := new4 w (.int .i64 17) (.int .i64 n) (.string s) sv 25
  clear ht hty0 h0 h1
  have IHH := Lib.hid ih
  have HL := Lib.hid hl
  clear ih hl
  go_enter Try.func13, Try.ntmps13
  go_wp2_with (fail)
  · have h0 := H0.out
    have h1 := H1.out
    have ih := IHH.out
    have hl := HL.out
    clear H0 H1 IHH HL
    have H0 := Lib.hid h0
    have H1 := Lib.hid h1
    clear h0 h1

    go_loopw [5] (fun iv wr => ∃ k : Nat, k ≤ l.length ∧ iv = .int .i64 k ∧ Ext (w.alloc (.cells #[.int .i64 17, .int .i64 n, .string s, sv] 25)) wr ∧ ∀ j (hj : j < l.length), j < k → rtypeF l[j] = 2) (fun iv _ => l.length - (intOf iv).toNat)
    case atStart => exact ⟨0, by omega, rfl, by first | exact Ext.refl _ | exact (Ext.refl _).alloc _ | exact ((Ext.refl _).alloc _).trans hx6 | exact hx6, fun j hj h => absurd h (by omega)⟩
    case round =>
      obtain ⟨k, hk, rfl, hx, hno⟩ := hrel
      have HNO : Hid (∀ j (hj : j < l.length), j < k → rtypeF l[j] = 2) := hno
      clear hno
      obtain ⟨c0, c1, c2, c3, -⟩ := cells4 (hx.block hB)
      have hl1 := hl.1
      by_cases hlt : k < l.length
      · obtain ⟨b, off, cp, rfl, hcp, hin⟩ : ∃ b off cp, sv = .slice (some ⟨b, off, none⟩) l.length cp ∧ l.length ≤ cp ∧ Nd.In w.cell? b l off := by
          obtain ⟨_, p, b, off, cp, e1, e2, e3, _, e4⟩ := hl
          rcases e3 with rfl | e3
          · simp at hlt
          · exact ⟨b, off, cp, by rw [e1, e3], e2, e4⟩
        obtain ⟨v0, v1, v2, v3, d0, d1, d2, d3, ht⟩ := Nd.In.get l off hin k hlt
        have hxw : Ext w wr := ((Ext.refl w).alloc _).trans hx
        replace d0 := hxw.c d0
        replace d1 := hxw.c d1
        replace d2 := hxw.c d2
        replace d3 := hxw.c d3
        have ht2 := Nd.At.mono hxw.sub _ _ ht
        have hcall := (ih _ (List.getElem_mem hlt)).use ht2
        obtain ⟨ty, hty⟩ : ∃ ty, ty = rtypeF l[k] := ⟨_, rfl⟩
        rw [← hty] at hcall
        have HC := Lib.hid hcall
        have HT := Lib.hid hty
        clear hl ht ht2 hin ih hcall hty hB
        cases hte : (ty == 2) with
        | false =>
          have hte2 : (!(ty == 2)) = true := by rw [hte]; rfl
          have hte3 : (ty != 2) = true := by simpa using hte2
          go_wp2_with (go_at_call 13; refine HC.out.mono ?_; rintro e w2 ⟨rfl, hx2⟩)
          go_ret
          refine ⟨?_, hxw.trans hx2⟩
          rw [H0.out (rnotAll_hit hlt (by rw [← HT.out]; exact hte3))]
          rfl
        | true =>
          have hte2 : (!(ty == 2)) = false := by rw [hte]; rfl
          have hte3 : (ty != 2) = false := by simpa using hte
          go_wp2_with (go_at_call 13; refine HC.out.mono ?_; rintro e w2 ⟨rfl, hx2⟩)
          go_roundw
          case rel => exact ⟨k + 1, by omega, by go_num, hx.trans hx2, fun j hj h => by
            by_cases hjk : j = k
            · subst hjk; rw [← HT.out]; simpa using hte
            · exact HNO.out j hj (by omega)⟩
          case measure => simp [intOf]; omega
      · obtain ⟨_, p, b, off, cp, rfl, _, _, _, _⟩ := hl
        clear ih hB
        go_wp2
        go_ret
        refine ⟨?_, ((Ext.refl w).alloc _).trans hx⟩
        rw [H1.out (rnotAll_miss fun j hj => HNO.out j hj (by omega))]
        rfl
set_option maxHeartbeats 2000000 in
theorem rtypeOf_neg (n : Int) (s : ByteArray) (l : List Nd) (hb : (s.toList == [33]) = false) (ih : ∀ x ∈ l, RTypeOfC x) : RTypeOfC (.mk 17 n s l) := by
  intro v w ht
  obtain ⟨sv, rfl, -, -, -, hl⟩ := ht.parts
  simp only [Nd.k, Nd.n, Nd.s, Nd.kids] at *
  have h0 : rnotAll 1 l = true → rtypeF (.mk 17 n s l) = 0 := fun h => by simp only [rtypeF, hb]; simp [h]
  have h1 : rnotAll 1 l = false → rtypeF (.mk 17 n s l) = 1 := fun h => by simp only [rtypeF, hb]; simp [h]
  obtain ⟨ty0, hty0⟩ : ∃ ty0, ty0 = rtypeF (.mk 17 n s l) := ⟨_, rfl⟩
  rw [← hty0] at h0 h1 ⊢
  have H0 := Lib.hid h0
  have H1 := Lib.hid h1
  have hB := new4 w (.int .i64 17) (.int .i64 n) (.string s) sv 25
  clear ht hty0 h0 h1
  have IHH := Lib.hid ih
  have HL := Lib.hid hl
  clear ih hl
  go_enter Try.func13, Try.ntmps13
  go_wp2_with (fail)
  · have h0 := H0.out
    have h1 := H1.out
    have ih := IHH.out
    have hl := HL.out
    clear H0 H1 IHH HL
    have H0 := Lib.hid h0
    have H1 := Lib.hid h1
    clear h0 h1

    go_loopw [5] (fun iv wr => ∃ k : Nat, k ≤ l.length ∧ iv = .int .i64 k ∧ Ext (w.alloc (.cells #[.int .i64 17, .int .i64 n, .string s, sv] 25)) wr ∧ ∀ j (hj : j < l.length), j < k → rtypeF l[j] = 1) (fun iv _ => l.length - (intOf iv).toNat)
    case atStart => exact ⟨0, by omega, rfl, by first | exact Ext.refl _ | exact (Ext.refl _).alloc _ | exact ((Ext.refl _).alloc _).trans hx6 | exact hx6, fun j hj h => absurd h (by omega)⟩
    case round =>
      obtain ⟨k, hk, rfl, hx, hno⟩ := hrel
      have HNO : Hid (∀ j (hj : j < l.length), j < k → rtypeF l[j] = 1) := hno
      clear hno
      obtain ⟨c0, c1, c2, c3, -⟩ := cells4 (hx.block hB)
      have hl1 := hl.1
      by_cases hlt : k < l.length
      · obtain ⟨b, off, cp, rfl, hcp, hin⟩ : ∃ b off cp, sv = .slice (some ⟨b, off, none⟩) l.length cp ∧ l.length ≤ cp ∧ Nd.In w.cell? b l off := by
          obtain ⟨_, p, b, off, cp, e1, e2, e3, _, e4⟩ := hl
          rcases e3 with rfl | e3
          · simp at hlt
          · exact ⟨b, off, cp, by rw [e1, e3], e2, e4⟩
        obtain ⟨v0, v1, v2, v3, d0, d1, d2, d3, ht⟩ := Nd.In.get l off hin k hlt
        have hxw : Ext w wr := ((Ext.refl w).alloc _).trans hx
        replace d0 := hxw.c d0
        replace d1 := hxw.c d1
        replace d2 := hxw.c d2
        replace d3 := hxw.c d3
        have ht2 := Nd.At.mono hxw.sub _ _ ht
        have hcall := (ih _ (List.getElem_mem hlt)).use ht2
        obtain ⟨ty, hty⟩ : ∃ ty, ty = rtypeF l[k] := ⟨_, rfl⟩
        rw [← hty] at hcall
        have HC := Lib.hid hcall
        have HT := Lib.hid hty
        clear hl ht ht2 hin ih hcall hty hB
        cases hte : (ty == 1) with
        | false =>
          have hte2 : (!(ty == 1)) = true := by rw [hte]; rfl
          have hte3 : (ty != 1) = true := by simpa using hte2
          go_wp2_with (go_at_call 13; refine HC.out.mono ?_; rintro e w2 ⟨rfl, hx2⟩)
          go_ret
          refine ⟨?_, hxw.trans hx2⟩
          rw [H0.out (rnotAll_hit hlt (by rw [← HT.out]; exact hte3))]
          rfl
        | true =>
          have hte2 : (!(ty == 1)) = false := by rw [hte]; rfl
          have hte3 : (ty != 1) = false := by simpa using hte
          go_wp2_with (go_at_call 13; refine HC.out.mono ?_; rintro e w2 ⟨rfl, hx2⟩)
          go_roundw
          case rel => exact ⟨k + 1, by omega, by go_num, hx.trans hx2, fun j hj h => by
            by_cases hjk : j = k
            · subst hjk; rw [← HT.out]; simpa using hte
            · exact HNO.out j hj (by omega)⟩
          case measure => simp [intOf]; omega
      · obtain ⟨_, p, b, off, cp, rfl, _, _, _, _⟩ := hl
        clear ih hB
        go_wp2
        go_ret
        refine ⟨?_, ((Ext.refl w).alloc _).trans hx⟩
        rw [H1.out (rnotAll_miss fun j hj => HNO.out j hj (by omega))]
        rfl
set_option maxHeartbeats 2000000 in
theorem rtypeOf_bin_t_t (n : Int) (s : ByteArray) (l : List Nd) (hb2 : Hid (inF ops2 s = true)) (hb3 : Hid (inF opsC s = true)) (ih : ∀ x ∈ l, RTypeOfC x) : RTypeOfC (.mk 18 n s l) := by
  intro v w ht
  obtain ⟨sv, rfl, -, -, -, hl⟩ := ht.parts
  simp only [Nd.k, Nd.n, Nd.s, Nd.kids] at *
  have h0 : rnotAll 2 l = true → rtypeF (.mk 18 n s l) = 0 := fun h => by have e2 := hb2.out; have e3 := hb3.out; simp only [ops2] at e2; simp [rtypeF, h, e2, e3]
  have h1 : rnotAll 2 l = false → rtypeF (.mk 18 n s l) = 2 := fun h => by have e2 := hb2.out; have e3 := hb3.out; simp only [ops2] at e2; simp [rtypeF, h, e2, e3]
  obtain ⟨ty0, hty0⟩ : ∃ ty0, ty0 = rtypeF (.mk 18 n s l) := ⟨_, rfl⟩
  rw [← hty0] at h0 h1 ⊢
  have H0 := Lib.hid h0
  have H1 := Lib.hid h1
  have hB := new4 w (.int .i64 18) (.int .i64 n) (.string s) sv 25
  clear ht hty0 h0 h1
  have IHH := Lib.hid ih
  have HL := Lib.hid hl
  clear ih hl
  go_enter Try.func13, Try.ntmps13
  go_wp2_with (first
    | (go_at_call 34; refine (in_any _ ops2 s _ ?_).mono ?_; exact StrsAt.newAt _ (by simp) 9 ops2 (by decide) short2; rintro e w2 ⟨rfl, rfl⟩; rw [hb2.out])
    | (go_at_call 35; refine (comparison_any _ _).mono ?_; rintro e w6 ⟨rfl, hx6⟩; rw [hb3.out]))
  · have h0 := H0.out
    have h1 := H1.out
    have ih := IHH.out
    have hl := HL.out
    clear H0 H1 IHH HL
    have H0 := Lib.hid h0
    have H1 := Lib.hid h1
    clear h0 h1

    go_loopw [5] (fun iv wr => ∃ k : Nat, k ≤ l.length ∧ iv = .int .i64 k ∧ Ext (w.alloc (.cells #[.int .i64 18, .int .i64 n, .string s, sv] 25)) wr ∧ ∀ j (hj : j < l.length), j < k → rtypeF l[j] = 2) (fun iv _ => l.length - (intOf iv).toNat)
    case atStart => exact ⟨0, by omega, rfl, by first | exact Ext.refl _ | exact (Ext.refl _).alloc _ | exact ((Ext.refl _).alloc _).trans hx6 | exact hx6, fun j hj h => absurd h (by omega)⟩
    case round =>
      obtain ⟨k, hk, rfl, hx, hno⟩ := hrel
      have HNO : Hid (∀ j (hj : j < l.length), j < k → rtypeF l[j] = 2) := hno
      clear hno
      obtain ⟨c0, c1, c2, c3, -⟩ := cells4 (hx.block hB)
      have hl1 := hl.1
      by_cases hlt : k < l.length
      · obtain ⟨b, off, cp, rfl, hcp, hin⟩ : ∃ b off cp, sv = .slice (some ⟨b, off, none⟩) l.length cp ∧ l.length ≤ cp ∧ Nd.In w.cell? b l off := by
          obtain ⟨_, p, b, off, cp, e1, e2, e3, _, e4⟩ := hl
          rcases e3 with rfl | e3
          · simp at hlt
          · exact ⟨b, off, cp, by rw [e1, e3], e2, e4⟩
        obtain ⟨v0, v1, v2, v3, d0, d1, d2, d3, ht⟩ := Nd.In.get l off hin k hlt
        have hxw : Ext w wr := ((Ext.refl w).alloc _).trans hx
        replace d0 := hxw.c d0
        replace d1 := hxw.c d1
        replace d2 := hxw.c d2
        replace d3 := hxw.c d3
        have ht2 := Nd.At.mono hxw.sub _ _ ht
        have hcall := (ih _ (List.getElem_mem hlt)).use ht2
        obtain ⟨ty, hty⟩ : ∃ ty, ty = rtypeF l[k] := ⟨_, rfl⟩
        rw [← hty] at hcall
        have HC := Lib.hid hcall
        have HT := Lib.hid hty
        clear hl ht ht2 hin ih hcall hty hB
        cases hte : (ty == 2) with
        | false =>
          have hte2 : (!(ty == 2)) = true := by rw [hte]; rfl
          have hte3 : (ty != 2) = true := by simpa using hte2
          go_wp2_with (go_at_call 13; refine HC.out.mono ?_; rintro e w2 ⟨rfl, hx2⟩)
          go_ret
          refine ⟨?_, hxw.trans hx2⟩
          rw [H0.out (rnotAll_hit hlt (by rw [← HT.out]; exact hte3))]
          rfl
        | true =>
          have hte2 : (!(ty == 2)) = false := by rw [hte]; rfl
          have hte3 : (ty != 2) = false := by simpa using hte
          go_wp2_with (go_at_call 13; refine HC.out.mono ?_; rintro e w2 ⟨rfl, hx2⟩)
          go_roundw
          case rel => exact ⟨k + 1, by omega, by go_num, hx.trans hx2, fun j hj h => by
            by_cases hjk : j = k
            · subst hjk; rw [← HT.out]; simpa using hte
            · exact HNO.out j hj (by omega)⟩
          case measure => simp [intOf]; omega
      · obtain ⟨_, p, b, off, cp, rfl, _, _, _, _⟩ := hl
        clear ih hB
        go_wp2
        go_ret
        refine ⟨?_, ((Ext.refl w).alloc _).trans hx⟩
        rw [H1.out (rnotAll_miss fun j hj => HNO.out j hj (by omega))]
        rfl
set_option maxHeartbeats 2000000 in
theorem rtypeOf_bin_t_f (n : Int) (s : ByteArray) (l : List Nd) (hb2 : Hid (inF ops2 s = true)) (hb3 : Hid (inF opsC s = false)) (ih : ∀ x ∈ l, RTypeOfC x) : RTypeOfC (.mk 18 n s l) := by
  intro v w ht
  obtain ⟨sv, rfl, -, -, -, hl⟩ := ht.parts
  simp only [Nd.k, Nd.n, Nd.s, Nd.kids] at *
  have h0 : rnotAll 2 l = true → rtypeF (.mk 18 n s l) = 0 := fun h => by have e2 := hb2.out; have e3 := hb3.out; simp only [ops2] at e2; simp [rtypeF, h, e2, e3]
  have h1 : rnotAll 2 l = false → rtypeF (.mk 18 n s l) = 2 := fun h => by have e2 := hb2.out; have e3 := hb3.out; simp only [ops2] at e2; simp [rtypeF, h, e2, e3]
  obtain ⟨ty0, hty0⟩ : ∃ ty0, ty0 = rtypeF (.mk 18 n s l) := ⟨_, rfl⟩
  rw [← hty0] at h0 h1 ⊢
  have H0 := Lib.hid h0
  have H1 := Lib.hid h1
  have hB := new4 w (.int .i64 18) (.int .i64 n) (.string s) sv 25
  clear ht hty0 h0 h1
  have IHH := Lib.hid ih
  have HL := Lib.hid hl
  clear ih hl
  go_enter Try.func13, Try.ntmps13
  go_wp2_with (first
    | (go_at_call 34; refine (in_any _ ops2 s _ ?_).mono ?_; exact StrsAt.newAt _ (by simp) 9 ops2 (by decide) short2; rintro e w2 ⟨rfl, rfl⟩; rw [hb2.out])
    | (go_at_call 35; refine (comparison_any _ _).mono ?_; rintro e w6 ⟨rfl, hx6⟩; rw [hb3.out]))
  · have h0 := H0.out
    have h1 := H1.out
    have ih := IHH.out
    have hl := HL.out
    clear H0 H1 IHH HL
    have H0 := Lib.hid h0
    have H1 := Lib.hid h1
    clear h0 h1

    go_loopw [5] (fun iv wr => ∃ k : Nat, k ≤ l.length ∧ iv = .int .i64 k ∧ Ext (w.alloc (.cells #[.int .i64 18, .int .i64 n, .string s, sv] 25)) wr ∧ ∀ j (hj : j < l.length), j < k → rtypeF l[j] = 2) (fun iv _ => l.length - (intOf iv).toNat)
    case atStart => exact ⟨0, by omega, rfl, by first | exact Ext.refl _ | exact (Ext.refl _).alloc _ | exact ((Ext.refl _).alloc _).trans hx6 | exact hx6, fun j hj h => absurd h (by omega)⟩
    case round =>
      obtain ⟨k, hk, rfl, hx, hno⟩ := hrel
      have HNO : Hid (∀ j (hj : j < l.length), j < k → rtypeF l[j] = 2) := hno
      clear hno
      obtain ⟨c0, c1, c2, c3, -⟩ := cells4 (hx.block hB)
      have hl1 := hl.1
      by_cases hlt : k < l.length
      · obtain ⟨b, off, cp, rfl, hcp, hin⟩ : ∃ b off cp, sv = .slice (some ⟨b, off, none⟩) l.length cp ∧ l.length ≤ cp ∧ Nd.In w.cell? b l off := by
          obtain ⟨_, p, b, off, cp, e1, e2, e3, _, e4⟩ := hl
          rcases e3 with rfl | e3
          · simp at hlt
          · exact ⟨b, off, cp, by rw [e1, e3], e2, e4⟩
        obtain ⟨v0, v1, v2, v3, d0, d1, d2, d3, ht⟩ := Nd.In.get l off hin k hlt
        have hxw : Ext w wr := ((Ext.refl w).alloc _).trans hx
        replace d0 := hxw.c d0
        replace d1 := hxw.c d1
        replace d2 := hxw.c d2
        replace d3 := hxw.c d3
        have ht2 := Nd.At.mono hxw.sub _ _ ht
        have hcall := (ih _ (List.getElem_mem hlt)).use ht2
        obtain ⟨ty, hty⟩ : ∃ ty, ty = rtypeF l[k] := ⟨_, rfl⟩
        rw [← hty] at hcall
        have HC := Lib.hid hcall
        have HT := Lib.hid hty
        clear hl ht ht2 hin ih hcall hty hB
        cases hte : (ty == 2) with
        | false =>
          have hte2 : (!(ty == 2)) = true := by rw [hte]; rfl
          have hte3 : (ty != 2) = true := by simpa using hte2
          go_wp2_with (go_at_call 13; refine HC.out.mono ?_; rintro e w2 ⟨rfl, hx2⟩)
          go_ret
          refine ⟨?_, hxw.trans hx2⟩
          rw [H0.out (rnotAll_hit hlt (by rw [← HT.out]; exact hte3))]
          rfl
        | true =>
          have hte2 : (!(ty == 2)) = false := by rw [hte]; rfl
          have hte3 : (ty != 2) = false := by simpa using hte
          go_wp2_with (go_at_call 13; refine HC.out.mono ?_; rintro e w2 ⟨rfl, hx2⟩)
          go_roundw
          case rel => exact ⟨k + 1, by omega, by go_num, hx.trans hx2, fun j hj h => by
            by_cases hjk : j = k
            · subst hjk; rw [← HT.out]; simpa using hte
            · exact HNO.out j hj (by omega)⟩
          case measure => simp [intOf]; omega
      · obtain ⟨_, p, b, off, cp, rfl, _, _, _, _⟩ := hl
        clear ih hB
        go_wp2
        go_ret
        refine ⟨?_, ((Ext.refl w).alloc _).trans hx⟩
        rw [H1.out (rnotAll_miss fun j hj => HNO.out j hj (by omega))]
        rfl
set_option maxHeartbeats 2000000 in
theorem rtypeOf_bin_f_t (n : Int) (s : ByteArray) (l : List Nd) (hb2 : Hid (inF ops2 s = false)) (hb3 : Hid (inF opsC s = true)) (ih : ∀ x ∈ l, RTypeOfC x) : RTypeOfC (.mk 18 n s l) := by
  intro v w ht
  obtain ⟨sv, rfl, -, -, -, hl⟩ := ht.parts
  simp only [Nd.k, Nd.n, Nd.s, Nd.kids] at *
  have h0 : rnotAll 1 l = true → rtypeF (.mk 18 n s l) = 0 := fun h => by have e2 := hb2.out; have e3 := hb3.out; simp only [ops2] at e2; simp [rtypeF, h, e2, e3]
  have h1 : rnotAll 1 l = false → rtypeF (.mk 18 n s l) = 2 := fun h => by have e2 := hb2.out; have e3 := hb3.out; simp only [ops2] at e2; simp [rtypeF, h, e2, e3]
  obtain ⟨ty0, hty0⟩ : ∃ ty0, ty0 = rtypeF (.mk 18 n s l) := ⟨_, rfl⟩
  rw [← hty0] at h0 h1 ⊢
  have H0 := Lib.hid h0
  have H1 := Lib.hid h1
  have hB := new4 w (.int .i64 18) (.int .i64 n) (.string s) sv 25
  clear ht hty0 h0 h1
  have IHH := Lib.hid ih
  have HL := Lib.hid hl
  clear ih hl
  go_enter Try.func13, Try.ntmps13
  go_wp2_with (first
    | (go_at_call 34; refine (in_any _ ops2 s _ ?_).mono ?_; exact StrsAt.newAt _ (by simp) 9 ops2 (by decide) short2; rintro e w2 ⟨rfl, rfl⟩; rw [hb2.out])
    | (go_at_call 35; refine (comparison_any _ _).mono ?_; rintro e w6 ⟨rfl, hx6⟩; rw [hb3.out]))
  · have h0 := H0.out
    have h1 := H1.out
    have ih := IHH.out
    have hl := HL.out
    clear H0 H1 IHH HL
    have H0 := Lib.hid h0
    have H1 := Lib.hid h1
    clear h0 h1

    go_loopw [5] (fun iv wr => ∃ k : Nat, k ≤ l.length ∧ iv = .int .i64 k ∧ Ext (w.alloc (.cells #[.int .i64 18, .int .i64 n, .string s, sv] 25)) wr ∧ ∀ j (hj : j < l.length), j < k → rtypeF l[j] = 1) (fun iv _ => l.length - (intOf iv).toNat)
    case atStart => exact ⟨0, by omega, rfl, by first | exact Ext.refl _ | exact (Ext.refl _).alloc _ | exact ((Ext.refl _).alloc _).trans hx6 | exact hx6, fun j hj h => absurd h (by omega)⟩
    case round =>
      obtain ⟨k, hk, rfl, hx, hno⟩ := hrel
      have HNO : Hid (∀ j (hj : j < l.length), j < k → rtypeF l[j] = 1) := hno
      clear hno
      obtain ⟨c0, c1, c2, c3, -⟩ := cells4 (hx.block hB)
      have hl1 := hl.1
      by_cases hlt : k < l.length
      · obtain ⟨b, off, cp, rfl, hcp, hin⟩ : ∃ b off cp, sv = .slice (some ⟨b, off, none⟩) l.length cp ∧ l.length ≤ cp ∧ Nd.In w.cell? b l off := by
          obtain ⟨_, p, b, off, cp, e1, e2, e3, _, e4⟩ := hl
          rcases e3 with rfl | e3
          · simp at hlt
          · exact ⟨b, off, cp, by rw [e1, e3], e2, e4⟩
        obtain ⟨v0, v1, v2, v3, d0, d1, d2, d3, ht⟩ := Nd.In.get l off hin k hlt
        have hxw : Ext w wr := ((Ext.refl w).alloc _).trans hx
        replace d0 := hxw.c d0
        replace d1 := hxw.c d1
        replace d2 := hxw.c d2
        replace d3 := hxw.c d3
        have ht2 := Nd.At.mono hxw.sub _ _ ht
        have hcall := (ih _ (List.getElem_mem hlt)).use ht2
        obtain ⟨ty, hty⟩ : ∃ ty, ty = rtypeF l[k] := ⟨_, rfl⟩
        rw [← hty] at hcall
        have HC := Lib.hid hcall
        have HT := Lib.hid hty
        clear hl ht ht2 hin ih hcall hty hB
        cases hte : (ty == 1) with
        | false =>
          have hte2 : (!(ty == 1)) = true := by rw [hte]; rfl
          have hte3 : (ty != 1) = true := by simpa using hte2
          go_wp2_with (go_at_call 13; refine HC.out.mono ?_; rintro e w2 ⟨rfl, hx2⟩)
          go_ret
          refine ⟨?_, hxw.trans hx2⟩
          rw [H0.out (rnotAll_hit hlt (by rw [← HT.out]; exact hte3))]
          rfl
        | true =>
          have hte2 : (!(ty == 1)) = false := by rw [hte]; rfl
          have hte3 : (ty != 1) = false := by simpa using hte
          go_wp2_with (go_at_call 13; refine HC.out.mono ?_; rintro e w2 ⟨rfl, hx2⟩)
          go_roundw
          case rel => exact ⟨k + 1, by omega, by go_num, hx.trans hx2, fun j hj h => by
            by_cases hjk : j = k
            · subst hjk; rw [← HT.out]; simpa using hte
            · exact HNO.out j hj (by omega)⟩
          case measure => simp [intOf]; omega
      · obtain ⟨_, p, b, off, cp, rfl, _, _, _, _⟩ := hl
        clear ih hB
        go_wp2
        go_ret
        refine ⟨?_, ((Ext.refl w).alloc _).trans hx⟩
        rw [H1.out (rnotAll_miss fun j hj => HNO.out j hj (by omega))]
        rfl
set_option maxHeartbeats 2000000 in
theorem rtypeOf_bin_f_f (n : Int) (s : ByteArray) (l : List Nd) (hb2 : Hid (inF ops2 s = false)) (hb3 : Hid (inF opsC s = false)) (ih : ∀ x ∈ l, RTypeOfC x) : RTypeOfC (.mk 18 n s l) := by
  intro v w ht
  obtain ⟨sv, rfl, -, -, -, hl⟩ := ht.parts
  simp only [Nd.k, Nd.n, Nd.s, Nd.kids] at *
  have h0 : rnotAll 1 l = true → rtypeF (.mk 18 n s l) = 0 := fun h => by have e2 := hb2.out; have e3 := hb3.out; simp only [ops2] at e2; simp [rtypeF, h, e2, e3]
  have h1 : rnotAll 1 l = false → rtypeF (.mk 18 n s l) = 1 := fun h => by have e2 := hb2.out; have e3 := hb3.out; simp only [ops2] at e2; simp [rtypeF, h, e2, e3]
  obtain ⟨ty0, hty0⟩ : ∃ ty0, ty0 = rtypeF (.mk 18 n s l) := ⟨_, rfl⟩
  rw [← hty0] at h0 h1 ⊢
  have H0 := Lib.hid h0
  have H1 := Lib.hid h1
  have hB := new4 w (.int .i64 18) (.int .i64 n) (.string s) sv 25
  clear ht hty0 h0 h1
  have IHH := Lib.hid ih
  have HL := Lib.hid hl
  clear ih hl
  go_enter Try.func13, Try.ntmps13
  go_wp2_with (first
    | (go_at_call 34; refine (in_any _ ops2 s _ ?_).mono ?_; exact StrsAt.newAt _ (by simp) 9 ops2 (by decide) short2; rintro e w2 ⟨rfl, rfl⟩; rw [hb2.out])
    | (go_at_call 35; refine (comparison_any _ _).mono ?_; rintro e w6 ⟨rfl, hx6⟩; rw [hb3.out]))
  · have h0 := H0.out
    have h1 := H1.out
    have ih := IHH.out
    have hl := HL.out
    clear H0 H1 IHH HL
    have H0 := Lib.hid h0
    have H1 := Lib.hid h1
    clear h0 h1

    go_loopw [5] (fun iv wr => ∃ k : Nat, k ≤ l.length ∧ iv = .int .i64 k ∧ Ext (w.alloc (.cells #[.int .i64 18, .int .i64 n, .string s, sv] 25)) wr ∧ ∀ j (hj : j < l.length), j < k → rtypeF l[j] = 1) (fun iv _ => l.length - (intOf iv).toNat)
    case atStart => exact ⟨0, by omega, rfl, by first | exact Ext.refl _ | exact (Ext.refl _).alloc _ | exact ((Ext.refl _).alloc _).trans hx6 | exact hx6, fun j hj h => absurd h (by omega)⟩
    case round =>
      obtain ⟨k, hk, rfl, hx, hno⟩ := hrel
      have HNO : Hid (∀ j (hj : j < l.length), j < k → rtypeF l[j] = 1) := hno
      clear hno
      obtain ⟨c0, c1, c2, c3, -⟩ := cells4 (hx.block hB)
      have hl1 := hl.1
      by_cases hlt : k < l.length
      · obtain ⟨b, off, cp, rfl, hcp, hin⟩ : ∃ b off cp, sv = .slice (some ⟨b, off, none⟩) l.length cp ∧ l.length ≤ cp ∧ Nd.In w.cell? b l off := by
          obtain ⟨_, p, b, off, cp, e1, e2, e3, _, e4⟩ := hl
          rcases e3 with rfl | e3
          · simp at hlt
          · exact ⟨b, off, cp, by rw [e1, e3], e2, e4⟩
        obtain ⟨v0, v1, v2, v3, d0, d1, d2, d3, ht⟩ := Nd.In.get l off hin k hlt
        have hxw : Ext w wr := ((Ext.refl w).alloc _).trans hx
        replace d0 := hxw.c d0
        replace d1 := hxw.c d1
        replace d2 := hxw.c d2
        replace d3 := hxw.c d3
        have ht2 := Nd.At.mono hxw.sub _ _ ht
        have hcall := (ih _ (List.getElem_mem hlt)).use ht2
        obtain ⟨ty, hty⟩ : ∃ ty, ty = rtypeF l[k] := ⟨_, rfl⟩
        rw [← hty] at hcall
        have HC := Lib.hid hcall
        have HT := Lib.hid hty
        clear hl ht ht2 hin ih hcall hty hB
        cases hte : (ty == 1) with
        | false =>
          have hte2 : (!(ty == 1)) = true := by rw [hte]; rfl
          have hte3 : (ty != 1) = true := by simpa using hte2
          go_wp2_with (go_at_call 13; refine HC.out.mono ?_; rintro e w2 ⟨rfl, hx2⟩)
          go_ret
          refine ⟨?_, hxw.trans hx2⟩
          rw [H0.out (rnotAll_hit hlt (by rw [← HT.out]; exact hte3))]
          rfl
        | true =>
          have hte2 : (!(ty == 1)) = false := by rw [hte]; rfl
          have hte3 : (ty != 1) = false := by simpa using hte
          go_wp2_with (go_at_call 13; refine HC.out.mono ?_; rintro e w2 ⟨rfl, hx2⟩)
          go_roundw
          case rel => exact ⟨k + 1, by omega, by go_num, hx.trans hx2, fun j hj h => by
            by_cases hjk : j = k
            · subst hjk; rw [← HT.out]; simpa using hte
            · exact HNO.out j hj (by omega)⟩
          case measure => simp [intOf]; omega
      · obtain ⟨_, p, b, off, cp, rfl, _, _, _, _⟩ := hl
        clear ih hB
        go_wp2
        go_ret
        refine ⟨?_, ((Ext.refl w).alloc _).trans hx⟩
        rw [H1.out (rnotAll_miss fun j hj => HNO.out j hj (by omega))]
        rfl
mutual
theorem rtypeOf_any : ∀ t : Nd, RTypeOfC t
  | .mk k n s l => by
    have ih := rtypeOf_all l
    by_cases h1 : k = 12 ∨ k = 13 ∨ k = 14 ∨ k = 15
    · exact rtypeOf_leaf k n s l h1
    · by_cases h16 : k = 16
      · subst h16; exact rtypeOf_draw n s l ih
      · by_cases h17 : k = 17
        · subst h17
          cases hb : (s.toList == [33]) with
          | true => exact rtypeOf_not n s l hb ih
          | false => exact rtypeOf_neg n s l hb ih
        · by_cases h18 : k = 18
          · subst h18
            cases h2 : inF ops2 s with
            | true =>
              cases h3 : inF opsC s with
              | true => exact rtypeOf_bin_t_t n s l h2 h3 ih
              | false => exact rtypeOf_bin_t_f n s l h2 h3 ih
            | false =>
              cases h3 : inF opsC s with
              | true => exact rtypeOf_bin_f_t n s l h2 h3 ih
              | false => exact rtypeOf_bin_f_f n s l h2 h3 ih
          · exact rtypeOf_other k n s l (by omega)
theorem rtypeOf_all : ∀ l : List Nd, ∀ x ∈ l, RTypeOfC x
  | [] => fun _ h => by cases h
  | t :: ts =>
    have h1 := rtypeOf_any t
    have h2 := rtypeOf_all ts
    fun x hx => (List.mem_cons.1 hx).elim (fun e => e ▸ h1) (h2 x)
end
end Go.Proofs.Ytlmdmmikocbmlaa
