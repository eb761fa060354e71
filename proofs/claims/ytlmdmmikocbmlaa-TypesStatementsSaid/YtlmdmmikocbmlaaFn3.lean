/- The reference: in, comparison, TypeOf. -/
import Derived.Test.YtlmdmmikocbmlaaFn2
namespace Go.Proofs.Ytlmdmmikocbmlaa
open Go.RowKit
set_option linter.unusedSimpArgs false
set_option linter.unusedVariables false
def inF (l : List ByteArray) (s : ByteArray) : Bool := l.any (fun x => x == s)
theorem inF_hit {l : List ByteArray} {s : ByteArray} {k : Nat} (hk : k < l.length) (h : (l[k] == s) = true) : inF l s = true := List.any_eq_true.2 ⟨_, List.getElem_mem hk, h⟩
theorem inF_miss {l : List ByteArray} {s : ByteArray} (h : ∀ j (hj : j < l.length), (l[j] == s) = false) : inF l s = false := by
  unfold inF
  rw [List.any_eq_false]
  intro x hx
  obtain ⟨j, hj, rfl⟩ := List.mem_iff_getElem.1 hx
  simp [h j hj]
set_option maxHeartbeats 400000 in
theorem in_any (v : Value) (l : List ByteArray) (s : ByteArray) (w : World) (hl : StrsAt w.cell? v l) :
    Calls Try.prog 34 #[v, .string s] w fun e w' => e = .returned (.bool (inF l s)) ∧ w = w' := by
  obtain ⟨h1, h2, p, b, off, cap, rfl, hc, hp, hn, hh⟩ := hl
  go_enter Try.func34, Try.ntmps34
  go_wp2
  go_loop [5] (fun i => ∃ k : Nat, k ≤ l.length ∧ i = .int .i64 k ∧ ∀ j (hj : j < l.length), j < k → (l[j] == s) = false) (fun i => l.length - (intOf i).toNat)
  case atStart => exact ⟨0, by omega, rfl, fun j hj h => absurd h (by omega)⟩
  case round =>
    obtain ⟨k, hk, rfl, hno⟩ := hrel
    have HNO : Hid (∀ j (hj : j < l.length), j < k → (l[j] == s) = false) := hno
    clear hno
    by_cases hlt : k < l.length
    · obtain rfl : p = some ⟨b, off, none⟩ := by
        rcases hp with rfl | hp
        · simp at hlt
        · exact hp
      have cx := hh k hlt
      obtain ⟨x, hx⟩ : ∃ x, x = l[k] := ⟨_, rfl⟩
      rw [show l.getD k ByteArray.empty = x from by rw [hx]; simp [hlt]] at cx
      have HX : Hid (x = l[k]) := hx
      clear hx hh hp hn h2
      cases hxs : (x.toList == s.toList) with
      | true =>
        go_wp2
        go_ret
        have := inF_hit (s := s) hlt (by rw [← HX.out, beq_toListBytes]; exact hxs)
        exact ⟨by rw [this]; rfl, rfl⟩
      | false =>
        go_wp2
        go_round
        case rel => exact ⟨k + 1, by omega, by go_num, fun j hj h => by
          by_cases hjk : j = k
          · subst hjk; rw [← HX.out, beq_toListBytes]; exact hxs
          · exact HNO.out j hj (by omega)⟩
        case measure => simp [intOf]; omega
    · clear hh hp hn h2
      go_wp2
      go_ret
      exact ⟨by rw [inF_miss (fun j hj => HNO.out j hj (by omega))]; rfl, rfl⟩
set_option maxHeartbeats 400000 in
theorem comparison_any (s : ByteArray) (w : World) :
    Calls Try.prog 35 #[.string s] w (RetV w (.bool (inF opsC s))) := by
  have hl := StrsAt.newBut0 w 9 opsC (by decide) (by decide +kernel)
  go_enter Try.func35, Try.ntmps35
  go_wp2_with (go_at_call 34; refine (in_any _ opsC s _ ?_).mono ?_; exact hl; rintro e w2 ⟨rfl, rfl⟩)
  go_ret
  exact ⟨rfl, (Ext.refl w).alloc _⟩
theorem StrsAt.newAt {B : Nat} (w : World) (hB : B = w.heap.size) (T : TypeId) (l : List ByteArray) (hl : l.length ≤ 1000000000) (hs : ∀ s ∈ l, s.size ≤ maxLen) :
    StrsAt (w.alloc (.cells (l.map Value.string).toArray T)).cell? (.slice (some ⟨B, 0, none⟩) l.length l.length) l := by
  subst hB; exact StrsAt.newBut0 w T l hl hs
mutual
def rtypeF : Nd → Int
  | .mk k _ s kids =>
    if k = 12 ∨ k = 14 ∨ k = 15 then 1 else if k = 13 then 2
    else if k ≠ 16 ∧ k ≠ 17 ∧ k ≠ 18 then 0
    else if (k = 17 ∧ (s.toList == [33]) = true) ∨ (k = 18 ∧ inF [⟨#[38, 38]⟩, ⟨#[124, 124]⟩] s = true) then (if rnotAll 2 kids then 0 else if k = 18 ∧ inF opsC s = true then 2 else 2)
    else if rnotAll 1 kids then 0 else if k = 18 ∧ inF opsC s = true then 2 else 1
def rnotAll (t : Int) : List Nd → Bool
  | [] => false
  | x :: xs => (rtypeF x != t) || rnotAll t xs
end
end Go.Proofs.Ytlmdmmikocbmlaa
