/- What a row's frame tells of its arguments, said of abstract values. -/
import Derived.Test.YthaccjcadgodlaaDoorVmU
import Derived.Test.YthaccjcadgodlaaDoorVmV
import Derived.LaidLaws
import Derived.LaidMore
import Derived.LaidHandle
import Derived.MakeChecks
import Derived.FnData
namespace Go.Proofs.YthaccjcadgodlaaDoor.Vm
open Go.RowKit
set_option linter.unusedSimpArgs false
set_option linter.unusedVariables false
theorem repAt_map {α : Type} {E : Env} {b : Nat} (f : α → Value) (hf : ∀ x, (f x).oneCell' = true) : ∀ {l : List α} {off : Nat}, A.repAt (l.map fun x => .v (f x)) E b off ↔ ∀ i (hi : i < l.length), E.C ⟨b, off + i, none⟩ = some (f l[i]) ∧ okV (f l[i])
  | [], off => by simp [A.repAt]
  | x :: l, off => by
    simp only [List.map_cons, A.repAt]
    rw [repAt_map f hf (l := l)]
    constructor
    · rintro ⟨⟨u, h1, -, h3⟩, h4⟩ i hi
      rw [A.rep_v_iff] at h3
      cases i with
      | zero => rw [Nat.add_zero, h1, h3.1]; exact ⟨rfl, h3.2⟩
      | succ i =>
        have := h4 i (by simpa using hi)
        rw [show off + (i + 1) = off + 1 + i by omega]; exact this
    · intro h
      refine ⟨⟨f x, by have := (h 0 (by simp)).1; simpa using this, hf x, A.rep_v_iff.2 ⟨rfl, (h 0 (by simp)).2⟩⟩, fun i hi => ?_⟩
      have := h (i + 1) (by simpa using hi)
      rw [show off + 1 + i = off + (i + 1) by omega]; exact this
theorem rep_vi {E : Env} {n : Int} {u : Value} : (A.v (.int .i64 n)).rep E u ↔ u = .int .i64 n ∧ (-9223372036854775808 ≤ n ∧ n ≤ 9223372036854775807) := by
  rw [A.rep_v_iff]
  constructor
  · rintro ⟨h1, h2⟩; exact ⟨h1, okV_int.1 h2⟩
  · rintro ⟨h1, h2⟩; exact ⟨h1, okV_int.2 h2⟩
theorem rep_vs {E : Env} {n : ByteArray} {u : Value} : (A.v (.string n)).rep E u ↔ u = .string n ∧ n.size ≤ maxLen := by
  rw [A.rep_v_iff]; exact Iff.rfl
theorem ints_rep' {E : Env} {v : Value} {l : List Int} {p : Option Addr} {b off cap : Nat} (h1 : l.length ≤ maxLen) (h2 : ∀ n ∈ l, -9223372036854775808 ≤ n ∧ n ≤ 9223372036854775807) (hv : v = .slice p l.length cap) (hc : l.length ≤ cap) (hp : l = [] ∨ p = some ⟨b, off, none⟩) (hn : p = none → cap = 0)
    (hh : ∀ i, i < l.length → E.C ⟨b, off + i, none⟩ = some (.int .i64 (l.getD i 0))) : (A.sl 1 l.length (intsA l)).rep E v := by
  subst hv
  unfold A.rep
  refine ⟨by simp [intsA], h1, p, b, off, cap, rfl, hc, ?_, hn, ?_⟩
  · rcases hp with rfl | hp
    · exact .inl rfl
    · exact .inr hp
  · refine (repAt_map (E := E.per) (Value.int .i64) (fun _ => rfl)).2 fun i hi => ⟨?_, okV_int.2 (h2 _ (List.getElem_mem hi))⟩
    have := hh i hi
    simp [List.getD_eq_getElem?_getD, hi] at this
    exact this
theorem row_rep {w : World} {a : Option Addr} {len cap : Nat} {zs : List Int} (h : (a = none ∧ len = 0 ∧ cap = 0 ∧ zs = []) ∨ ∃ x, a = some x ∧ len ≤ cap ∧ cap ≤ maxLen ∧ zs.length = cap ∧ (∀ i, i < zs.length → w.cell? (x.add i) = some (.int .i64 (zs.getD i 0))) ∧ ∀ n ∈ zs, (Lit.int .i64 n).wf = true) :
    (A.sl 1 (zs.take len).length (intsA (zs.take len))).rep ⟨w.cell?, [], []⟩ (.slice a len cap) := by
  rcases h with ⟨rfl, rfl, rfl, rfl⟩ | ⟨x, rfl, hl, hm, hz, hc, hw⟩
  · exact ints_rep' (p := none) (b := 0) (off := 0) (cap := 0) (by simp) (by simp) rfl (by simp) (.inl rfl) (fun _ => rfl) (fun i hi => absurd hi (by simp))
  · have hlen : (zs.take len).length = len := by simp; omega
    refine ints_rep' (p := some x) (b := x.block) (off := x.off) (cap := cap) (by omega) (fun n hn => ?_) (by rw [hlen]) (by omega) ?_ (by simp) (fun i hi => ?_)
    · have := hw n (List.mem_of_mem_take hn)
      simp [Lit.wf] at this
      exact this
    · by_cases h0 : len = 0
      · left; subst h0; simp
      · right
        have := hc 0 (by omega)
        obtain ⟨b, o, sp⟩ := x
        cases sp with
        | none => rfl
        | some k => simp [Addr.add, World.cell?] at this; split at this <;> simp at this
    · have hi' : i < len := by omega
      have e := hc i (by omega)
      have h0 := hc 0 (by omega)
      obtain ⟨b, o, sp⟩ := x
      cases sp with
      | none => rw [add_at] at e; show w.cell? ⟨b, o + i, none⟩ = _; rw [e]; simp [List.getD_eq_getElem?_getD, hi']
      | some k => simp [Addr.add, World.cell?] at h0; split at h0 <;> simp at h0
theorem str_rep {E : Env} {s : ByteArray} (h : s.size ≤ maxLen) : (A.v (.string s)).rep E (.string s) := rep_vs.2 ⟨rfl, h⟩
theorem int_rep {E : Env} {n : Int} (h : (Lit.int .i64 n).wf = true) : (A.v (.int .i64 n)).rep E (.int .i64 n) := by
  refine rep_vi.2 ⟨rfl, ?_⟩
  simp [Lit.wf] at h
  exact h
theorem args_nil {E : Env} : A.repL [] E [] := by unfold A.repL; rfl
theorem bool_rep {E : Env} {b : Bool} : (A.v (.bool b)).rep E (.bool b) := A.rep_v (x := .bool b) trivial
theorem byte_rep {E : Env} {n : Int} (h : (Lit.int .u8 n).wf = true) : (byteA (UInt8.ofNat n.toNat)).rep E (.int .u8 n) := by
  have h' : 0 ≤ n ∧ n ≤ 255 := by
    simp [Lit.wf] at h
    exact h
  have e : ((UInt8.ofNat n.toNat).toNat : Int) = n := by rw [UInt8.toNat_ofNat']; omega
  unfold byteA
  rw [e]
  exact A.rep_v (x := .int .u8 n) (show (0 : Int) ≤ n ∧ n ≤ 255 from h')
/-! ### What the listed variables hold -/
theorem laidVars_iface {P : Program} {w : World} {n nm : String} {d : DataW Unit} {g ti : Nat} {ms : Array (String × TypeId)} (hg : P.globalNamed n = some g) (ht : (P.globals[g]?).map (·.type) = some ti) (hi : P.underlying ti = some (.interface ms)) :
    ∀ {l : List (String × DataW Unit)} {ps : List MemPlace}, DataW.LaidVars P w l ps → (n, DataW.iface nm d) ∈ l → ∃ u v, w.cell? ⟨g, 0, none⟩ = some (.iface u v)
  | [], _, _, hm => by simp at hm
  | (n', d') :: r, ps, h, hm => by
    obtain ⟨g', t', cs, fuel, p, q, e1, e2, e3, e4, e5, _⟩ := h
    rcases List.mem_cons.1 hm with e | hm
    · cases e
      obtain rfl := Option.some.inj (hg.symm.trans e1)
      obtain rfl := Option.some.inj (ht.symm.trans e2)
      obtain ⟨f', u, v, ecs, _⟩ := iface_of_trod hi e4
      refine ⟨u, v, ?_⟩
      have := World.var?_cell hg e3 0
      rw [this, ← Array.getElem?_toList, ecs]; rfl
    · exact laidVars_iface hg ht hi e5 hm
theorem gok_nil {C : Rd} (h : globs = []) : Gok C := fun x hx => by rw [h] at hx; cases hx
theorem at_err {C : Rd} {g : Nat} (h : ∃ u v, C ⟨g, 0, none⟩ = some (.iface u v)) : A.repAt [.err] ⟨C, [], []⟩ g 0 := by
  obtain ⟨u, v, h⟩ := h
  unfold A.repAt
  refine ⟨⟨_, h, rfl, ?_⟩, by simp [A.repAt]⟩
  unfold A.rep
  exact ⟨u, v, rfl⟩
end Go.Proofs.YthaccjcadgodlaaDoor.Vm
