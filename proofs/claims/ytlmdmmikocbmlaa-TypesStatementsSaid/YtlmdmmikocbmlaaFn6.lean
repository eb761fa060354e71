/- Check and its closure. -/
import Derived.Test.YtlmdmmikocbmlaaFn5
import Derived.Laws.EntriesVeiled
namespace Go.Proofs.Ytlmdmmikocbmlaa
open Go.RowKit
set_option linter.unusedSimpArgs false
set_option linter.unusedVariables false
/-- The cells from 'off' on read as handlers, five cells each: a number and a tree. -/
def HIn (C : Rd) (b : Nat) (off : Nat) (l : List (Int × Nd)) : Prop := ∀ i (hi : i < l.length), -9223372036854775808 ≤ l[i].1 ∧ l[i].1 ≤ 9223372036854775807 ∧
  ∃ v1 v2 v3 v4, C ⟨b, off + i * 5, none⟩ = some (.int .i64 l[i].1) ∧ C ⟨b, off + i * 5 + 1, none⟩ = some v1 ∧ C ⟨b, off + i * 5 + 2, none⟩ = some v2 ∧ C ⟨b, off + i * 5 + 3, none⟩ = some v3 ∧ C ⟨b, off + i * 5 + 4, none⟩ = some v4 ∧ l[i].2.At C (.agg #[v1, v2, v3, v4])
def HsAt (C : Rd) (v : Value) (l : List (Int × Nd)) : Prop :=
  l.length ≤ 1000000000 ∧ ∃ p b off cap, v = .slice p l.length cap ∧ l.length ≤ cap ∧ (l = [] ∨ p = some ⟨b, off, none⟩) ∧ (p = none → cap = 0) ∧ HIn C b off l
theorem HsAt.mono {C D : Rd} {v : Value} {l : List (Int × Nd)} (h : HsAt C v l) (x : Sub C D) : HsAt D v l := by
  obtain ⟨h1, p, b, off, cap, hv, hc, hp, hn, hh⟩ := h
  refine ⟨h1, p, b, off, cap, hv, hc, hp, hn, fun i hi => ?_⟩
  obtain ⟨g1, g2, v1, v2, v3, v4, c0, c1, c2, c3, c4, ha⟩ := hh i hi
  exact ⟨g1, g2, v1, v2, v3, v4, x _ _ c0, x _ _ c1, x _ _ c2, x _ _ c3, x _ _ c4, Nd.At.mono x _ _ ha⟩
/-- A program: api.Unit. -/
structure Un where
  d : List ByteArray
  v : List ByteArray
  on : List (Int × Nd)
def UnAt (C : Rd) (x : Value) (u : Un) : Prop := ∃ dv vv ov, x = .agg #[dv, vv, ov] ∧ StrsAt C dv u.d ∧ StrsAt C vv u.v ∧ HsAt C ov u.on
theorem UnAt.mono {C D : Rd} {x : Value} {u : Un} (h : UnAt C x u) (s : Sub C D) : UnAt D x u := by
  obtain ⟨dv, vv, ov, e, h1, h2, h3⟩ := h
  exact ⟨dv, vv, ov, e, h1.mono s, h2.mono s, h3.mono s⟩
mutual
/-- Whether a name that is not declared occurs in a tree. -/
def undF (ix : ByteArray → Int) : Nd → Bool
  | .mk k _ s kids => ((k == 1 || k == 14) && decide (ix s < 0)) || undAll ix kids
def undAll (ix : ByteArray → Int) : List Nd → Bool
  | [] => false
  | x :: xs => undF ix x || undAll ix xs
end
theorem undAll_any (ix : ByteArray → Int) (l : List Nd) : undAll ix l = l.any (undF ix) := by
  induction l with
  | nil => simp [undAll]
  | cons x xs ih => simp [undAll, ih]
/-- What the closure sees: the program in block U, itself in block V. -/
structure Env (w : World) (U V : Nat) (dv vv ov : Value) (d v : List ByteArray) : Prop where
  c0 : w.cell? ⟨U, 0, none⟩ = some dv
  c1 : w.cell? ⟨U, 1, none⟩ = some vv
  c2 : w.cell? ⟨U, 2, none⟩ = some ov
  f : w.cell? ⟨V, 0, none⟩ = some (.func (.func 37) #[] #[.pointer (some ⟨U, 0, none⟩), .pointer (some ⟨V, 0, none⟩)])
  d : StrsAt w.cell? dv d
  v : StrsAt w.cell? vv v
theorem Env.ext {w w' : World} {U V : Nat} {dv vv ov : Value} {d v : List ByteArray} (h : Env w U V dv vv ov d v) (x : Ext w w') : Env w' U V dv vv ov d v :=
  ⟨x.c h.c0, x.c h.c1, x.c h.c2, x.c h.f, h.d.mono x.sub, h.v.mono x.sub⟩
def Chk1C (t : Nd) : Prop := ∀ (x : Value) (w : World) (U V : Nat) (dv vv ov : Value) (d v : List ByteArray), t.At w.cell? x → Env w U V dv vv ov d v →
    Calls Try.prog 37 #[x, .pointer (some ⟨U, 0, none⟩), .pointer (some ⟨V, 0, none⟩)] w (RetV w (.bool (undF (indexF d v) t)))
set_option maxHeartbeats 1000000 in
theorem chk1_step (k n : Int) (s : ByteArray) (l : List Nd) (ih : ∀ x ∈ l, Chk1C x) : Chk1C (.mk k n s l) := by
  intro x w U V dv vv ov d v ht E
  obtain ⟨kv, rfl, -, -, -, hl⟩ := ht.parts
  simp only [Nd.k, Nd.n, Nd.s, Nd.kids] at *
  have e : undF (indexF d v) (.mk k n s l) = (((k == 1 || k == 14) && decide (indexF d v s < 0)) || l.any (undF (indexF d v))) := by simp only [undF, undAll_any]
  have x0 : Ext w (w.alloc (.cells #[.int .i64 k, .int .i64 n, .string s, kv] 25)) := (Ext.refl w).alloc _
  have E0 := E.ext x0
  have hB := new4 w (.int .i64 k) (.int .i64 n) (.string s) kv 25
  have hasks : ∀ w1, Ext (w.alloc (.cells #[.int .i64 k, .int .i64 n, .string s, kv] 25)) w1 → Asks w1 37 #[.pointer (some ⟨U, 0, none⟩), .pointer (some ⟨V, 0, none⟩)] l (undF (indexF d v)) :=
    fun w1 h1 => ⟨fun _ _ => rfl, fun y hy z w' hx' hA => ih y hy z w' U V dv vv ov d v hA ((E0.ext h1).ext hx')⟩
  have hcall := fun w1 h1 => containsFunc_any l kv _ _ w1 _ (hl.mono (x0.trans h1).sub) (hasks w1 h1)
  have hidx := index_any dv vv ov d v s _ E0.d E0.v
  obtain ⟨q, hq⟩ : ∃ q, q = l.any (undF (indexF d v)) := ⟨_, rfl⟩
  obtain ⟨i, hi⟩ : ∃ i, i = indexF d v s := ⟨_, rfl⟩
  rw [e]
  rw [← hq] at hcall ⊢
  rw [← hi] at hidx ⊢
  have HC := Lib.hid hcall
  have HI := Lib.hid hidx
  obtain ⟨c0, c1, c2, cf, -, -⟩ := E0
  obtain ⟨g0, g1, g2, g3, -⟩ := cells4 hB
  clear hq hi hasks hcall hidx ih hl e ht E
  by_cases hk : k = 1 ∨ k = 14
  · by_cases hneg : i < 0
    · rcases hk with rfl | rfl
      all_goals
        go_enter Try.func37, Try.ntmps37
        go_wp2_with (first
          | (go_at_call 24; (with_reducible refine HI.out.mono ?_); rintro e w2 ⟨rfl, hx2⟩))
        go_ret
        exact ⟨by simp [hneg], x0.trans hx2⟩
    · rcases hk with rfl | rfl
      all_goals
        go_enter Try.func37, Try.ntmps37
        go_wp2_with (first
          | (go_at_call 24; (with_reducible refine HI.out.mono ?_); rintro e w2 ⟨rfl, hx2⟩; replace cf := hx2.c cf; replace g3 := hx2.c g3)
          | (go_at_call 38; (with_reducible refine (HC.out _ hx2).mono ?_); rintro e w3 ⟨rfl, hx3⟩))
        go_ret
        exact ⟨by simp [hneg], (x0.trans hx2).trans hx3⟩
  · have b1 : (k == 1) = false := by simp; omega
    have b2 : (k == 14) = false := by simp; omega
    have hx2 := Ext.refl (w.alloc (.cells #[.int .i64 k, .int .i64 n, .string s, kv] 25))
    clear hk
    go_enter Try.func37, Try.ntmps37
    go_wp2_with (first
      | (go_at_call 38; (with_reducible refine (HC.out _ hx2).mono ?_); rintro e w3 ⟨rfl, hx3⟩))
    go_ret
    exact ⟨by simp [b1, b2], x0.trans hx3⟩
mutual
theorem chk1_any : ∀ t : Nd, Chk1C t
  | .mk k n s l => chk1_step k n s l (chk1_all l)
theorem chk1_all : ∀ l : List Nd, ∀ x ∈ l, Chk1C x
  | [] => fun _ h => by cases h
  | t :: ts =>
    have h1 := chk1_any t
    have h2 := chk1_all ts
    fun x hx => (List.mem_cons.1 hx).elim (fun e => e ▸ h1) (h2 x)
end
end Go.Proofs.Ytlmdmmikocbmlaa
