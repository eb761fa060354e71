/- The functions that look for an element of a slice of nodes. -/
import Derived.Test.YtlmdmmikocbmlaaBase
import Derived.Test.YtlmdmmikocbmlaaSer
import Derived.Test.YtlmdmmikocbmlaaRows
import Derived.Lib.Hide
namespace Go.Proofs.Ytlmdmmikocbmlaa
open Go.RowKit
set_option linter.unusedSimpArgs false
set_option linter.unusedVariables false
/-- What a function value answers, in whatever world that has grown out of w. -/
def Asks (w : World) (c : FuncId) (cap : Array Value) (l : List Nd) (q : Nd → Bool) : Prop :=
  (∀ args w', (callFunc c args).run Try.prog w' = .ok (.enter c args) w') ∧
  ∀ t ∈ l, ∀ v w', Ext w w' → t.At w'.cell? v → Calls Try.prog c (#[v] ++ cap) w' (RetV w' (.bool (q t)))
theorem Asks.use {w : World} {c : FuncId} {cap : Array Value} {l : List Nd} {q : Nd → Bool} (h : Asks w c cap l q) (k : Nat) (hk : k < l.length) {v : Value} {w' : World} (hx : Ext w w') (ht : l[k].At w'.cell? v) :
    Calls Try.prog c (#[v] ++ cap) w' (RetV w' (.bool (q l[k]))) := h.2 _ (List.getElem_mem hk) v w' hx ht
theorem Asks.ext {w w1 : World} {c : FuncId} {cap : Array Value} {l : List Nd} {q : Nd → Bool} (h : Asks w c cap l q) (x : Ext w w1) : Asks w1 c cap l q :=
  ⟨h.1, fun t ht v w' hx hA => h.2 t ht v w' (x.trans hx) hA⟩
/-- The place of the first one, or -1. -/
def idxF (q : Nd → Bool) (l : List Nd) : Int := match l.findIdx? q with | some i => (i : Int) | none => -1
theorem idxF_hit {q : Nd → Bool} {l : List Nd} {k : Nat} (hk : k < l.length) (h : ∀ j (hj : j < k), q (l[j]'(by omega)) = false) (hq : q l[k] = true) : idxF q l = (k : Int) := by
  have : l.findIdx? q = some k := by
    rw [List.findIdx?_eq_some_iff_getElem]
    exact ⟨hk, hq, fun j hj => by simp [h j hj]⟩
  unfold idxF; rw [this]
theorem idxF_miss {q : Nd → Bool} {l : List Nd} (h : ∀ j (hj : j < l.length), q l[j] = false) : idxF q l = -1 := by
  have : l.findIdx? q = none := by
    rw [List.findIdx?_eq_none_iff]
    intro x hx
    obtain ⟨j, hj, rfl⟩ := List.mem_iff_getElem.1 hx
    simp [h j hj]
  unfold idxF; rw [this]
theorem idxF_nonneg (q : Nd → Bool) (l : List Nd) : decide (0 ≤ idxF q l) = l.any q := by
  cases h : l.any q with
  | true =>
    unfold idxF
    cases hf : l.findIdx? q with
    | some i => simp
    | none =>
      rw [List.findIdx?_eq_none_iff] at hf
      obtain ⟨x, hx, hq⟩ := List.any_eq_true.1 h
      rw [hf x hx] at hq; cases hq
  | false =>
    unfold idxF
    cases hf : l.findIdx? q with
    | none => simp
    | some i =>
      rw [List.findIdx?_eq_some_iff_getElem] at hf
      obtain ⟨hi, hq, _⟩ := hf
      rw [List.any_eq_false] at h
      exact absurd hq (h _ (List.getElem_mem hi))
theorem idxF_le (q : Nd → Bool) (l : List Nd) : -1 ≤ idxF q l ∧ idxF q l ≤ l.length := by
  unfold idxF
  cases hf : l.findIdx? q with
  | none => simp
  | some i =>
    rw [List.findIdx?_eq_some_iff_getElem] at hf
    obtain ⟨hi, _⟩ := hf
    simp; omega
set_option maxHeartbeats 400000 in
theorem indexFunc_any (l : List Nd) (sv : Value) (c : FuncId) (cap : Array Value) (w : World) (q : Nd → Bool) (hl : NdsAt w.cell? sv l) (hf : Asks w c cap l q) :
    Calls Try.prog 45 #[sv, .func (.func c) #[] cap] w (RetV w (.int .i64 (idxF q l))) := by
  obtain ⟨hl1, p, b, off, cp, rfl, hc, hp, hn, hin⟩ := hl
  have hcf := hf.1
  go_enter Try.func45, Try.ntmps45
  go_wp2
  go_loopw [5, 8] (fun _ i wr => ∃ k : Nat, k ≤ l.length ∧ i = .int .i64 k ∧ Ext w wr ∧ ∀ j (hj : j < l.length), j < k → q l[j] = false) (fun _ i _ => l.length - (intOf i).toNat)
  case atStart => exact ⟨0, by omega, rfl, Ext.refl _, fun j hj h => absurd h (by omega)⟩
  case round =>
    obtain ⟨k, hk, rfl, hx, hno⟩ := hrel
    have HNO : Hid (∀ j (hj : j < l.length), j < k → q l[j] = false) := hno
    clear hno
    by_cases hlt : k < l.length
    · obtain rfl : p = some ⟨b, off, none⟩ := by
        rcases hp with rfl | hp
        · simp at hlt
        · exact hp
      obtain ⟨v0, v1, v2, v3, c0, c1, c2, c3, ht⟩ := Nd.In.get l off hin k hlt
      replace c0 := hx.c c0
      replace c1 := hx.c c1
      replace c2 := hx.c c2
      replace c3 := hx.c c3
      have ht2 := Nd.At.mono hx.sub _ _ ht
      have hcall := Lib.hid (hf.use k hlt hx ht2)
      clear hin hp hn ht ht2
      obtain ⟨qk, hqk⟩ : ∃ qk, qk = q l[k] := ⟨_, rfl⟩
      have HQ : Hid (qk = q l[k]) := hqk
      rw [← hqk] at hcall
      clear hqk
      cases qk with
      | true =>
        go_wp2_with (refine hcall.out.mono ?_; rintro e w2 ⟨rfl, hx2⟩)
        go_ret
        have := idxF_hit hlt (fun j hj => HNO.out j (by omega) hj) HQ.out.symm
        exact ⟨by rw [this]; rfl, hx.trans hx2⟩
      | false =>
        go_wp2_with (refine hcall.out.mono ?_; rintro e w2 ⟨rfl, hx2⟩)
        go_roundw
        case rel => exact ⟨k + 1, by omega, by go_num, hx.trans hx2, fun j hj h => by
          by_cases hjk : j = k
          · subst hjk; exact HQ.out.symm
          · exact HNO.out j hj (by omega)⟩
        case measure => simp [intOf]; omega
    · have hkl : k = l.length := by omega
      go_wp2
      go_ret
      exact ⟨by rw [idxF_miss (fun j hj => HNO.out j hj (by omega))]; rfl, hx⟩
set_option maxHeartbeats 400000 in
theorem containsFunc_any (l : List Nd) (sv : Value) (c : FuncId) (cap : Array Value) (w : World) (q : Nd → Bool) (hl : NdsAt w.cell? sv l) (hf : Asks w c cap l q) :
    Calls Try.prog 38 #[sv, .func (.func c) #[] cap] w (RetV w (.bool (l.any q))) := by
  have h0 := idxF_nonneg q l
  have h1 := idxF_le q l
  obtain ⟨n, hn⟩ : ∃ n, n = idxF q l := ⟨_, rfl⟩
  have hcall := Lib.hid (indexFunc_any l sv c cap w q hl hf)
  rw [← hn] at hcall h0 h1
  obtain ⟨h2, h3⟩ := h1
  have H0 := Lib.hid h0
  clear h0 hn
  go_enter Try.func38, Try.ntmps38
  go_wp2_with (go_at_call 45; refine hcall.out.mono ?_; rintro e w2 ⟨rfl, hx2⟩)
  go_ret
  exact ⟨by rw [← H0.out]; rfl, hx2⟩
end Go.Proofs.Ytlmdmmikocbmlaa
