/- slices.Index at strings; Index; well. -/
import Derived.Test.YtlmdmmikocbmlaaFn4
namespace Go.Proofs.Ytlmdmmikocbmlaa
open Go.RowKit
set_option linter.unusedSimpArgs false
set_option linter.unusedVariables false
/-- The place of a string in a list, or -1. -/
def posF (l : List ByteArray) (s : ByteArray) : Int := match l.findIdx? (fun x => x == s) with | some i => (i : Int) | none => -1
theorem posF_hit {l : List ByteArray} {s : ByteArray} {k : Nat} (hk : k < l.length) (h : ∀ j (hj : j < l.length), j < k → (l[j] == s) = false) (hq : (l[k] == s) = true) : posF l s = (k : Int) := by
  have : l.findIdx? (fun x => x == s) = some k := by
    rw [List.findIdx?_eq_some_iff_getElem]
    exact ⟨hk, hq, fun j hj => by simp [h j (by omega) hj]⟩
  unfold posF; rw [this]
theorem posF_miss {l : List ByteArray} {s : ByteArray} (h : ∀ j (hj : j < l.length), (l[j] == s) = false) : posF l s = -1 := by
  have : l.findIdx? (fun x => x == s) = none := by
    rw [List.findIdx?_eq_none_iff]
    intro x hx
    obtain ⟨j, hj, rfl⟩ := List.mem_iff_getElem.1 hx
    simp [h j hj]
  unfold posF; rw [this]
theorem posF_le (l : List ByteArray) (s : ByteArray) : -1 ≤ posF l s ∧ posF l s < l.length + 1 ∧ posF l s ≤ l.length := by
  unfold posF
  cases hf : l.findIdx? (fun x => x == s) with
  | none => simp; omega
  | some i =>
    rw [List.findIdx?_eq_some_iff_getElem] at hf
    obtain ⟨hi, _⟩ := hf
    simp; omega
set_option maxHeartbeats 400000 in
theorem sIndex_any (v : Value) (l : List ByteArray) (s : ByteArray) (w : World) (hl : StrsAt w.cell? v l) :
    Calls Try.prog 41 #[v, .string s] w fun e w' => e = .returned (.int .i64 (posF l s)) ∧ w = w' := by
  obtain ⟨h1, h2, p, b, off, cap, rfl, hc, hp, hn, hh⟩ := hl
  go_enter Try.func41, Try.ntmps41
  go_wp2
  go_loop [5, 8] (fun _ i => ∃ k : Nat, k ≤ l.length ∧ i = .int .i64 k ∧ ∀ j (hj : j < l.length), j < k → (l[j] == s) = false) (fun _ i => l.length - (intOf i).toNat)
  case atStart => exact ⟨0, by omega, rfl, fun j hj h => absurd h (by omega)⟩
  case round =>
    obtain ⟨k, hk, rfl, hno⟩ := hrel
    have HNO : Hid (∀ j (hj : j < l.length), j < k → (l[j] == s) = false) := hno
    clear hno
    by_cases hlt : k < l.length
    · obtain rfl : p = some ⟨b, off, none⟩ := by
        rcases hp with rfl | hp
        · simp at hlt
        · exact hp
      have cx := hh k hlt
      obtain ⟨x, hx⟩ : ∃ x, x = l[k] := ⟨_, rfl⟩
      rw [show l.getD k ByteArray.empty = x from by rw [hx]; simp [hlt]] at cx
      have HX : Hid (x = l[k]) := hx
      clear hx hh hp hn h2
      cases hxs : (s.toList == x.toList) with
      | true =>
        have hxs2 : (x == s) = true := by rw [beq_toListBytes, ← hxs, Bool.beq_comm]
        go_wp2
        go_ret
        have := posF_hit (s := s) hlt HNO.out (by rw [← HX.out]; exact hxs2)
        exact ⟨by rw [this]; rfl, rfl⟩
      | false =>
        have hxs2 : (x == s) = false := by rw [beq_toListBytes, ← hxs, Bool.beq_comm]
        go_wp2
        go_round
        case rel => exact ⟨k + 1, by omega, by go_num, fun j hj h => by
          by_cases hjk : j = k
          · subst hjk; rw [← HX.out]; exact hxs2
          · exact HNO.out j hj (by omega)⟩
        case measure => simp [intOf]; omega
    · clear hh hp hn h2
      go_wp2
      go_ret
      exact ⟨by rw [posF_miss (fun j hj => HNO.out j hj (by omega))]; rfl, rfl⟩
/-- Index: the number of a variable, or -1. -/
def indexF (d v : List ByteArray) (s : ByteArray) : Int := if 0 ≤ posF d s then posF d s else if 0 ≤ posF v s then d.length + posF v s else -1
set_option maxHeartbeats 1000000 in
theorem index_any (dv vv ov : Value) (d v : List ByteArray) (s : ByteArray) (w : World) (hd : StrsAt w.cell? dv d) (hv : StrsAt w.cell? vv v) :
    Calls Try.prog 24 #[.agg #[dv, vv, ov], .string s] w (RetV w (.int .i64 (indexF d v s))) := by
  have x0 : Ext w (w.alloc (.cells #[dv, vv, ov] 35)) := (Ext.refl w).alloc _
  have c1 := Lib.hid (sIndex_any dv d s _ (hd.mono x0.sub))
  have c2 := Lib.hid (sIndex_any vv v s _ (hv.mono x0.sub))
  have e : indexF d v s = if 0 ≤ posF d s then posF d s else if 0 ≤ posF v s then d.length + posF v s else -1 := rfl
  have l1 := posF_le d s
  have l2 := posF_le v s
  have d1 := hd.1
  have d2 := hv.1
  obtain ⟨p1, b1, o1, k1, rfl, hk1, -⟩ := hd.2.2
  obtain ⟨p2, b2, o2, k2, rfl, hk2, -⟩ := hv.2.2
  obtain ⟨i, hi⟩ : ∃ i, i = posF d s := ⟨_, rfl⟩
  obtain ⟨j, hj⟩ : ∃ j, j = posF v s := ⟨_, rfl⟩
  rw [← hi] at c1 e l1
  rw [← hj] at c2 e l2
  rw [e]
  clear hi hj hd hv e
  by_cases h1 : 0 ≤ i
  · rw [if_pos h1]
    go_enter Try.func24, Try.ntmps24
    go_wp2_with (go_at_call 41; refine c1.out.mono ?_; rintro e w2 ⟨rfl, rfl⟩)
    go_ret
    exact ⟨rfl, x0⟩
  · rw [if_neg h1]
    by_cases h2 : 0 ≤ j
    · rw [if_pos h2]
      go_enter Try.func24, Try.ntmps24
      go_wp2_with fail
      refine c1.out.mono ?_
      rintro e w2 ⟨rfl, rfl⟩
      go_wp2_with fail
      refine c2.out.mono ?_
      rintro e w2 ⟨rfl, rfl⟩
      go_wp2
      go_ret
      exact ⟨rfl, x0⟩
    · rw [if_neg h2]
      go_enter Try.func24, Try.ntmps24
      go_wp2_with fail
      refine c1.out.mono ?_
      rintro e w2 ⟨rfl, rfl⟩
      go_wp2_with fail
      refine c2.out.mono ?_
      rintro e w2 ⟨rfl, rfl⟩
      go_wp2
      go_ret
      exact ⟨rfl, x0⟩
mutual
/-- Whether a statement is well-typed. -/
def wellF : Nd → Bool
  | .mk k _ _ kids => if k = 11 then wellAll kids else if k = 2 ∨ k = 3 then wellC kids else !notAll 1 kids
def wellAll : List Nd → Bool
  | [] => true
  | x :: xs => wellF x && wellAll xs
def wellC : List Nd → Bool
  | [] => false
  | c :: rest => (typeF c == 2) && wellAll rest
end
theorem wellAll_any (l : List Nd) : wellAll l = !l.any (fun x => !wellF x) := by
  induction l with
  | nil => simp [wellAll]
  | cons x xs ih => simp [wellAll, ih]
def WellC (t : Nd) : Prop := ∀ v w, t.At w.cell? v → Calls Try.prog 39 #[v] w (RetV w (.bool (wellF t)))
theorem WellC.use {t : Nd} (h : WellC t) {v : Value} {w : World} (ht : t.At w.cell? v) : Calls Try.prog 39 #[v] w (RetV w (.bool (wellF t))) := h v w ht
set_option maxHeartbeats 400000 in
theorem well1_any (x : Nd) (ih : WellC x) (v : Value) (w : World) (hv : x.At w.cell? v) :
    Calls Try.prog 46 #[v] w (RetV w (.bool (!wellF x))) := by
  have x0 := fun o => (Ext.refl w).alloc o
  have hc := fun o => Lib.hid (ih.use (Nd.At.mono (x0 o).sub _ _ hv))
  obtain ⟨kv, rfl, -⟩ := hv.parts
  obtain ⟨q, hq⟩ : ∃ q, q = wellF x := ⟨_, rfl⟩
  rw [← hq] at hc ⊢
  clear hq ih hv
  go_enter Try.func46, Try.ntmps46
  go_wp2_with (go_at_call 39; refine (hc _).out.mono ?_; rintro e w2 ⟨rfl, hx2⟩)
  go_ret
  exact ⟨rfl, (x0 _).trans hx2⟩
set_option maxHeartbeats 1000000 in
theorem well_block (n : Int) (s : ByteArray) (l : List Nd) (ih : ∀ x ∈ l, WellC x) : WellC (.mk 11 n s l) := by
  intro v w ht
  obtain ⟨kv, rfl, -, -, -, hl⟩ := ht.parts
  simp only [Nd.k, Nd.n, Nd.s, Nd.kids] at *
  have e : wellF (.mk 11 n s l) = !l.any (fun x => !wellF x) := by simp only [wellF, wellAll_any]; simp
  have x0 : Ext w (w.alloc (.cells #[.int .i64 11, .int .i64 n, .string s, kv] 25)) := (Ext.refl w).alloc _
  have hasks : Asks (w.alloc (.cells #[.int .i64 11, .int .i64 n, .string s, kv] 25)) 46 #[] l (fun x => !wellF x) :=
    ⟨fun _ _ => rfl, fun x hx v w' hx' hA => well1_any x (ih x hx) v w' hA⟩
  have hcall := Lib.hid (containsFunc_any l kv _ _ _ _ (hl.mono x0.sub) hasks)
  rw [e]
  obtain ⟨q, hq⟩ : ∃ q, q = l.any (fun x => !wellF x) := ⟨_, rfl⟩
  rw [← hq] at hcall ⊢
  clear hq hasks ih hl e ht
  go_enter Try.func39, Try.ntmps39
  go_wp2_with (go_at_call 38; refine hcall.out.mono ?_; rintro e w2 ⟨rfl, hx2⟩)
  go_ret
  exact ⟨rfl, x0.trans hx2⟩
set_option maxHeartbeats 1000000 in
theorem well_plain (k n : Int) (s : ByteArray) (l : List Nd) (hk : k ≠ 11 ∧ k ≠ 2 ∧ k ≠ 3) : WellC (.mk k n s l) := by
  intro v w ht
  obtain ⟨kv, rfl, -, -, -, hl⟩ := ht.parts
  simp only [Nd.k, Nd.n, Nd.s, Nd.kids] at *
  obtain ⟨h1, h2, h3⟩ := hk
  have e : wellF (.mk k n s l) = !notAll 1 l := by simp [wellF, h1, h2, h3]
  have x0 : Ext w (w.alloc (.cells #[.int .i64 k, .int .i64 n, .string s, kv] 25)) := (Ext.refl w).alloc _
  have hcall := Lib.hid (allC hl (typeOf_all l) 1 rfl x0)
  rw [e]
  obtain ⟨q, hq⟩ : ∃ q, q = notAll 1 l := ⟨_, rfl⟩
  rw [← hq] at hcall ⊢
  have b1 : (k == 11) = false := by simpa using h1
  have b2 : (k == 2) = false := by simpa using h2
  have b3 : (k == 3) = false := by simpa using h3
  clear hq hl e ht h1 h2 h3
  go_enter Try.func39, Try.ntmps39
  go_wp2_with (go_at_call 33; refine hcall.out.mono ?_; rintro e w2 ⟨rfl, hx2⟩)
  go_ret
  exact ⟨rfl, x0.trans hx2⟩
set_option maxHeartbeats 1000000 in
theorem well_nil (k n : Int) (s : ByteArray) (hk : k = 2 ∨ k = 3) : WellC (.mk k n s []) := by
  intro v w ht
  obtain ⟨kv, rfl, -, -, -, hl⟩ := ht.parts
  simp only [Nd.k, Nd.n, Nd.s, Nd.kids] at *
  obtain ⟨_, p, b, off, cap, rfl, -⟩ := hl
  have e : wellF (.mk k n s []) = false := by rcases hk with rfl | rfl <;> simp [wellF, wellC]
  rw [e]
  clear ht e
  rcases hk with rfl | rfl
  all_goals
    go_enter Try.func39, Try.ntmps39
    go_wp2
    go_ret
    exact ⟨rfl, (Ext.refl w).alloc _⟩
set_option maxHeartbeats 1000000 in
theorem well_cond (k n : Int) (s : ByteArray) (c : Nd) (l : List Nd) (hk : k = 2 ∨ k = 3) (ih : ∀ x ∈ l, WellC x) : WellC (.mk k n s (c :: l)) := by
  intro v w ht
  obtain ⟨kv, rfl, -, -, -, hl⟩ := ht.parts
  simp only [Nd.k, Nd.n, Nd.s, Nd.kids] at *
  have e : wellF (.mk k n s (c :: l)) = ((typeF c == 2) && wellF (.mk 11 0 ⟨#[]⟩ l)) := by rcases hk with rfl | rfl <;> simp [wellF, wellC]
  obtain ⟨hlen, p, b, off, cap, rfl, hcap, hp, hn, hin⟩ := hl
  obtain rfl : p = some ⟨b, off, none⟩ := by
    rcases hp with h | h
    · cases h
    · exact h
  have hin2 := hin
  unfold Nd.In at hin2
  obtain ⟨⟨v0, v1, v2, v3, d0, d1, d2, d3, hc⟩, hrest⟩ := hin2
  simp only [List.length_cons] at *
  have x0 : Ext w (w.alloc (.cells #[.int .i64 k, .int .i64 n, .string s, .slice (some ⟨b, off, none⟩) (l.length + 1) cap] 25)) := (Ext.refl w).alloc _
  replace d0 := x0.c d0
  replace d1 := x0.c d1
  replace d2 := x0.c d2
  replace d3 := x0.c d3
  have ht1 := Lib.hid ((typeOf_any c).use (Nd.At.mono x0.sub _ _ hc))
  obtain ⟨ty, hty⟩ : ∃ ty, ty = typeF c := ⟨_, rfl⟩
  have hB := Ext.block (Ext.refl _) (new4 w (.int .i64 k) (.int .i64 n) (.string s) (.slice (some ⟨b, off, none⟩) (l.length + 1) cap) 25)
  rw [e, ← hty]
  rw [← hty] at ht1
  obtain ⟨q, hq⟩ : ∃ q, q = wellF (.mk 11 0 ⟨#[]⟩ l) := ⟨_, rfl⟩
  have hw := fun (w2 : World) (hx2 : Ext w w2) (kv2 : Value) (hkv : NdsAt w.cell? kv2 l) => (well_block 0 ⟨#[]⟩ l ih).use (Nd.At.of_parts (t := .mk 11 0 ⟨#[]⟩ l) (by simp [Nd.k]) (by simp [Nd.n]) (Nat.zero_le _) (hkv.mono hx2.sub))
  simp only [Nd.k, Nd.n, Nd.s] at hw
  rw [← hq] at hw ⊢
  have HW := Lib.hid hw
  clear hq hty e ht ih hw hc hp hn hin
  cases hte : (ty == 2) with
  | false =>
    rcases hk with rfl | rfl
    all_goals
      go_enter Try.func39, Try.ntmps39
      go_wp2_with (go_at_call 12; refine ht1.out.mono ?_; rintro e w2 ⟨rfl, hx2⟩)
      go_ret
      exact ⟨rfl, x0.trans hx2⟩
  | true =>
    by_cases h1 : cap = 1
    · obtain rfl : l = [] := List.eq_nil_of_length_eq_zero (by omega)
      have hkv : NdsAt w.cell? (.slice (some ⟨b, off, none⟩) 0 0) [] := ⟨by simp, _, b, off, 0, rfl, by simp, .inl rfl, by simp, by unfold Nd.In; trivial⟩
      subst h1
      simp only [List.length_nil, Nat.zero_add] at *
      clear hrest
      rcases hk with rfl | rfl
      all_goals
        go_enter Try.func39, Try.ntmps39
        go_wp2_with (first
          | (go_at_call 12; refine ht1.out.mono ?_; rintro e w2 ⟨rfl, hx2⟩; obtain ⟨e0, e1, e2, e3, -⟩ := cells4 (hx2.block hB))
          | (go_at_call 39; (with_reducible refine (HW.out _ (x0.trans hx2) _ hkv).mono ?_); rintro e w3 ⟨rfl, hx3⟩))
        go_ret
        exact ⟨rfl, (x0.trans hx2).trans hx3⟩
    · have hkv : NdsAt w.cell? (.slice (some ⟨b, off + 4, none⟩) l.length (cap - 1)) l := ⟨by omega, _, b, off + 4, cap - 1, rfl, by omega, .inr rfl, by simp, hrest⟩
      clear hrest
      rcases hk with rfl | rfl
      all_goals
        go_enter Try.func39, Try.ntmps39
        go_wp2_with (first
          | (go_at_call 12; refine ht1.out.mono ?_; rintro e w2 ⟨rfl, hx2⟩; obtain ⟨e0, e1, e2, e3, -⟩ := cells4 (hx2.block hB))
          | (go_at_call 39; (with_reducible refine (HW.out _ (x0.trans hx2) _ hkv).mono ?_); rintro e w3 ⟨rfl, hx3⟩))
        go_ret
        exact ⟨rfl, (x0.trans hx2).trans hx3⟩
mutual
theorem well_any : ∀ t : Nd, WellC t
  | .mk k n s l => by
    have ih := well_all l
    by_cases h11 : k = 11
    · subst h11; exact well_block n s l ih
    · by_cases h2 : k = 2 ∨ k = 3
      · cases l with
        | nil => exact well_nil k n s h2
        | cons c rest => exact well_cond k n s c rest h2 (fun x hx => ih x (List.mem_cons_of_mem _ hx))
      · exact well_plain k n s l (by omega)
theorem well_all : ∀ l : List Nd, ∀ x ∈ l, WellC x
  | [] => fun _ h => by cases h
  | t :: ts =>
    have h1 := well_any t
    have h2 := well_all ts
    fun x hx => (List.mem_cons.1 hx).elim (fun e => e ▸ h1) (h2 x)
end
end Go.Proofs.Ytlmdmmikocbmlaa
