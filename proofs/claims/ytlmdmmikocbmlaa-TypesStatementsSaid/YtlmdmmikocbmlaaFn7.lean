/- Check. -/
import Derived.Test.YtlmdmmikocbmlaaFn6
namespace Go.Proofs.Ytlmdmmikocbmlaa
open Go.RowKit
set_option linter.unusedSimpArgs false
set_option linter.unusedVariables false
/-- Whether a handler's body is refused. -/
def badF (u : Un) (t : Nd) : Bool := !wellF t || undF (indexF u.d u.v) t
def checkF (u : Un) : Int := if u.on.any (fun h => badF u h.2) then 11 else 0
theorem checkF_hit {u : Un} {k : Nat} (hk : k < u.on.length) (h : badF u u.on[k].2 = true) : checkF u = 11 := by
  unfold checkF
  rw [if_pos]
  exact List.any_eq_true.2 ⟨_, List.getElem_mem hk, h⟩
theorem checkF_miss {u : Un} (h : ∀ j (hj : j < u.on.length), badF u u.on[j].2 = false) : checkF u = 0 := by
  unfold checkF
  rw [if_neg]
  rw [List.any_eq_true]
  rintro ⟨x, hx, hq⟩
  obtain ⟨j, hj, rfl⟩ := List.mem_iff_getElem.1 hx
  rw [h j hj] at hq; cases hq
theorem cell1 {w : World} {R : Nat} {a : Value} {T : TypeId} (h : w.heap[R]? = some (.cells #[a] T (0, 0))) : w.cell? ⟨R, 0, none⟩ = some a ∧ w.frozen? ⟨R, 0, none⟩ = false := by
  simp [World.cell?, World.frozen?, h]
theorem cells3 {w : World} {R : Nat} {a b c : Value} {T : TypeId} (h : w.heap[R]? = some (.cells #[a, b, c] T (0, 0))) :
    w.cell? ⟨R, 0, none⟩ = some a ∧ w.cell? ⟨R, 1, none⟩ = some b ∧ w.cell? ⟨R, 2, none⟩ = some c := by
  simp [World.cell?, h]
theorem cells5 {w : World} {R : Nat} {a b c d e : Value} {T : TypeId} (h : w.heap[R]? = some (.cells #[a, b, c, d, e] T (0, 0))) :
    w.cell? ⟨R, 0, none⟩ = some a ∧ w.cell? ⟨R, 1, none⟩ = some b ∧ w.cell? ⟨R, 2, none⟩ = some c ∧ w.cell? ⟨R, 3, none⟩ = some d ∧ w.cell? ⟨R, 4, none⟩ = some e := by
  simp [World.cell?, h]
theorem agg4_inj {a b c d a' b' c' d' : Value} (h : Value.agg #[a, b, c, d] = .agg #[a', b', c', d']) : a = a' ∧ b = b' ∧ c = c' ∧ d = d' := by simpa using h
set_option maxHeartbeats 2000000 in
theorem check_any (u : Un) (x : Value) (w : World) (hv : UnAt w.cell? x u) :
    Calls Try.prog 16 #[x] w (RetV w (.int .i64 (checkF u))) := by
  obtain ⟨dv, vv, ov, rfl, hd, hvv, hon⟩ := hv
  have hon2 := hon
  obtain ⟨hl, p, b, off, cap, rfl, hcap, hp, hn, hin⟩ := hon2
  have x1 : Ext w ((w.alloc (.cells #[dv, vv, .slice p u.on.length cap] 35)).alloc (.cells #[.func (.func 37) #[] #[.pointer (some ⟨w.heap.size, 0, none⟩), .pointer (some ⟨w.heap.size + 1, 0, none⟩)]] 68)) :=
    ((Ext.refl w).alloc _).alloc _
  have hV : ((w.alloc (.cells #[dv, vv, .slice p u.on.length cap] 35)).alloc (.cells #[.func (.func 37) #[] #[.pointer (some ⟨w.heap.size, 0, none⟩), .pointer (some ⟨w.heap.size + 1, 0, none⟩)]] 68)).heap[w.heap.size + 1]? = some (.cells #[(.func (.func 37) #[] #[.pointer (some ⟨w.heap.size, 0, none⟩), .pointer (some ⟨w.heap.size + 1, 0, none⟩)])] 68 (0, 0)) := by
    have := heap_alloc_new (w.alloc (.cells #[dv, vv, .slice p u.on.length cap] 35)) (.cells #[.func (.func 37) #[] #[.pointer (some ⟨w.heap.size, 0, none⟩), .pointer (some ⟨w.heap.size + 1, 0, none⟩)]] 68)
    simp only [World.size_alloc] at this
    exact this
  have hU := Ext.block ((Ext.refl _).alloc (.cells #[.func (.func 37) #[] #[.pointer (some ⟨w.heap.size, 0, none⟩), .pointer (some ⟨w.heap.size + 1, 0, none⟩)]] 68)) (heap_alloc_new w (.cells #[dv, vv, .slice p u.on.length cap] 35))
  have E : Env _ w.heap.size (w.heap.size + 1) dv vv (.slice p u.on.length cap) u.d u.v := ⟨(cells3 hU).1, (cells3 hU).2.1, (cells3 hU).2.2, (cell1 hV).1, hd.mono x1.sub, hvv.mono x1.sub⟩
  clear hU hV hd hvv hon
  go_enter Try.func16, Try.ntmps16
  go_wp2_with fail
  go_loopw [10] (fun iv wr => ∃ k : Nat, k ≤ u.on.length ∧ iv = .int .i64 k ∧ Ext w wr ∧ Env wr w.heap.size (w.heap.size + 1) dv vv (.slice p u.on.length cap) u.d u.v ∧ ∀ j (hj : j < u.on.length), j < k → badF u u.on[j].2 = false) (fun iv _ => u.on.length - (intOf iv).toNat)
  case atStart => exact ⟨0, by omega, rfl, x1, E, fun j hj h => absurd h (by omega)⟩
  case round =>
    clear x1 E
    obtain ⟨k, hk, rfl, hx, E, hno⟩ := hrel
    have HNO : Hid (∀ j (hj : j < u.on.length), j < k → badF u u.on[j].2 = false) := hno
    clear hno
    by_cases hlt : k < u.on.length
    · obtain rfl : p = some ⟨b, off, none⟩ := by
        rcases hp with h | hp
        · rw [h] at hlt; simp at hlt
        · exact hp
      obtain ⟨-, -, v1, v2, v3, v4, c0, c1, c2, c3, c4, ht⟩ := hin k hlt
      replace c0 := hx.c c0
      replace c1 := hx.c c1
      replace c2 := hx.c c2
      replace c3 := hx.c c3
      replace c4 := hx.c c4
      have ht2 := Nd.At.mono hx.sub _ _ ht
      obtain ⟨hn0, hhn⟩ : ∃ z, z = u.on[k].1 := ⟨_, rfl⟩
      obtain ⟨t, htt⟩ : ∃ t, t = u.on[k].2 := ⟨_, rfl⟩
      rw [← hhn] at c0
      rw [← htt] at ht2
      have HT : Hid (t = u.on[k].2) := htt
      obtain ⟨kv, hvv, -, -, -, -, p', b', o', c', hkv, -⟩ := ht2.parts
      subst hkv
      obtain ⟨rfl, rfl, rfl, rfl⟩ := agg4_inj hvv
      clear hvv
      have hwell := fun w1 (h1 : Ext wr w1) => (well_any t).use (Nd.At.mono h1.sub _ _ ht2)
      have hchk := fun w1 (h1 : Ext wr w1) => chk1_any t _ w1 _ _ _ _ _ _ _ (Nd.At.mono h1.sub _ _ ht2) (E.ext h1)
      obtain ⟨qa, hqa⟩ : ∃ q, q = wellF t := ⟨_, rfl⟩
      obtain ⟨qb, hqb⟩ : ∃ q, q = undF (indexF u.d u.v) t := ⟨_, rfl⟩
      have hbad : badF u t = (!qa || qb) := by rw [hqa, hqb]; rfl
      rw [← hqa] at hwell
      rw [← hqb] at hchk
      have HW := Lib.hid hwell
      have HC := Lib.hid hchk
      have HB := Lib.hid hbad
      obtain ⟨e0, e1, e2, ef, -, -⟩ := (show Env wr _ _ _ _ _ _ _ from E)
      clear hin hp hn ht ht2 htt hhn hwell hchk hqa hqb hbad
      have hH := heap_alloc_new wr (.cells #[.int .i64 hn0, .int .i64 t.k, .int .i64 t.n, .string t.s, .slice p' t.kids.length c'] 46)
      cases qa with
      | false =>
        go_wp2_with (first
          | (go_at_call 39; refine (HW.out _ ((Ext.refl wr).alloc _)).mono ?_; rintro e w2 ⟨rfl, hx2⟩))
        go_ret
        refine ⟨?_, (hx.alloc _).trans hx2⟩
        rw [checkF_hit hlt (by rw [← HT.out, HB.out]; rfl)]
        rfl
      | true =>
        have E1 := fun w2 (h2 : Ext wr w2) => E.ext h2
        have HE := Lib.hid E1
        clear E1
        cases qb with
        | true =>
          go_wp2_with (first
            | (go_at_call 39; refine (HW.out _ ((Ext.refl wr).alloc _)).mono ?_; rintro e w2 ⟨rfl, hx2⟩; obtain ⟨-, -, -, ef2, -, -⟩ := HE.out _ (((Ext.refl wr).alloc _).trans hx2); obtain ⟨g0, g1, g2, g3, g4⟩ := cells5 (hx2.block hH))
            | (go_at_call 37; refine (HC.out _ (((Ext.refl wr).alloc _).trans hx2)).mono ?_; rintro e w3 ⟨rfl, hx3⟩))
          go_ret
          refine ⟨?_, ((hx.alloc _).trans hx2).trans hx3⟩
          rw [checkF_hit hlt (by rw [← HT.out, HB.out]; rfl)]
          rfl
        | false =>
          go_wp2_with (first
            | (go_at_call 39; refine (HW.out _ ((Ext.refl wr).alloc _)).mono ?_; rintro e w2 ⟨rfl, hx2⟩; obtain ⟨-, -, -, ef2, -, -⟩ := HE.out _ (((Ext.refl wr).alloc _).trans hx2); obtain ⟨g0, g1, g2, g3, g4⟩ := cells5 (hx2.block hH))
            | (go_at_call 37; refine (HC.out _ (((Ext.refl wr).alloc _).trans hx2)).mono ?_; rintro e w3 ⟨rfl, hx3⟩))
          go_roundw
          case rel => exact ⟨k + 1, by omega, by go_num, ((hx.alloc _).trans hx2).trans hx3, HE.out _ ((((Ext.refl wr).alloc _).trans hx2).trans hx3), fun j hj h => by
            by_cases hjk : j = k
            · subst hjk; rw [← HT.out, HB.out]; rfl
            · exact HNO.out j hj (by omega)⟩
          case measure => simp [intOf]; omega
    · clear hin
      obtain ⟨e0, e1, e2, ef, -, -⟩ := E
      go_wp2
      go_ret
      exact ⟨by rw [checkF_miss (fun j hj => HNO.out j hj (by omega))]; rfl, hx⟩
end Go.Proofs.Ytlmdmmikocbmlaa
