/- Maps with string keys that the call itself makes: what is in them, a new key, a look-up. -/
import Derived.Test.YtlmdmmikocbmlaaBase
import Derived.Carry
namespace Go.Proofs.Ytlmdmmikocbmlaa
open Go.RowKit
set_option linter.unusedSimpArgs false
set_option linter.unusedVariables false
/-- Block r is a map that holds these entries, in the order in which they came. -/
def MapAt (w : World) (r : Nat) (l : List (ByteArray × Value)) : Prop :=
  ∃ es c, w.heap[r]? = some (.map es c) ∧ es.toList.map (fun e => (e.key, e.val)) = l.map (fun p => (Value.string p.1, p.2))
def look (l : List (ByteArray × Value)) (s : ByteArray) : Option Value := (l.find? (fun p => s == p.1)).map (·.2)
theorem findNow_str (s : ByteArray) : ∀ (es : List MapEntry) (l : List (ByteArray × Value)) (i : Nat), es.map (fun e => (e.key, e.val)) = l.map (fun p => (Value.string p.1, p.2)) →
    ∃ r, Instr.findNow .string (.string s) es i = some r ∧ r.map (·.2) = look l s
  | [], [], i, _ => ⟨none, by simp [Instr.findNow], by simp [look]⟩
  | [], _ :: _, _, h => by simp at h
  | _ :: _, [], _, h => by simp at h
  | e :: es, p :: l, i, h => by
    simp only [List.map_cons, List.cons.injEq, Prod.mk.injEq] at h
    obtain ⟨⟨h1, h2⟩, h3⟩ := h
    by_cases hs : s == p.1
    · exact ⟨some (i, e.val), by simp [Instr.findNow, Instr.sameNow, h1, hs], by simp [look, hs, h2]⟩
    · obtain ⟨r, hr, hr2⟩ := findNow_str s es l (i + 1) h3
      refine ⟨r, by simp [Instr.findNow, Instr.sameNow, h1, hs, hr], ?_⟩
      rw [hr2]; simp [look, hs]
section
variable {P : Program} {w : World} {T K E : TypeId} {r : Nat} {l : List (ByteArray × Value)} {s : ByteArray}
theorem run_getMap {es : Array MapEntry} {c : Nat} (h : w.heap[r]? = some (.map es c)) : (getObj r).run P w = .ok (.map es c) w := by
  simp [getObj, Sem.run, h]
theorem run_ck (hK : P.underlying K = some .string) (b : Bool) (n : Nat) : (Instr.checkKey b (n + 1) K (.string s)).run P w = .ok () w := by
  simp [Instr.checkKey, run_underlying hK]
theorem run_lookup_str (hT : P.underlying T = some (.map K E)) (hK : P.underlying K = some .string) {z : Value} (hz : (zeroValue E).run P w = .ok z w) (h : MapAt w r l) :
    (Instr.lookup T (.map (some r)) (.string s) false).run P w = .ok ((look l s).getD z) w := by
  obtain ⟨es, c, hr, hes⟩ := h
  obtain ⟨x, hx, hx2⟩ := findNow_str s es.toList l 0 hes
  have hc : ∀ b, (Instr.checkKey b 10000 K (.string s)).run P w = .ok () w := fun b => run_ck hK b 9999
  have hf : (Instr.findKey K (.string s) es.toList).run P w = .ok x w := by simp [Instr.findKey, run_underlying hK, hx]
  rw [← hx2]
  cases x with
  | none => simp [Instr.lookup, run_underlying hT, run_getMap hr, hc, hf, hz, Result.andThen]
  | some y => obtain ⟨j, y⟩ := y; simp [Instr.lookup, run_underlying hT, run_getMap hr, hc, hf, Result.andThen]
theorem run_update_str (hT : P.underlying T = some (.map K E)) (hK : P.underlying K = some .string) (v : Value) (h : MapAt w r l) (hn : look l s = none) :
    ∃ w', (Instr.mapUpdate T (.map (some r)) (.string s) v).run P w = .ok () w' ∧ w.grownBy w' (some r) ∧ MapAt w' r (l ++ [(s, v)]) := by
  obtain ⟨es, c, hr, hes⟩ := h
  obtain ⟨x, hx, hx2⟩ := findNow_str s es.toList l 0 hes
  rw [hn] at hx2
  have hx0 : x = none := by cases x <;> simp_all
  subst hx0
  have hc : ∀ b, (Instr.checkKey b 10000 K (.string s)).run P w = .ok () w := fun b => run_ck hK b 9999
  have hf : (Instr.findKey K (.string s) es.toList).run P w = .ok none w := by simp [Instr.findKey, run_underlying hK, hx]
  have hlt : r < w.heap.size := (Array.getElem?_eq_some_iff.1 hr).1
  refine ⟨{ w with heap := w.heap.setIfInBounds r (.map (es.push { key := .string s, val := v, born := c }) (c + 1)) }, ?_, ⟨rfl, rfl, rfl, by simp, fun k hk hne => ?_⟩, es.push { key := .string s, val := v, born := c }, c + 1, by simp [hlt], ?_⟩
  · simp [Instr.mapUpdate, run_underlying hT, run_getMap hr, hc, hf, Result.andThen, setObj, Sem.run, hr]
  · have : r ≠ k := fun e => hne (by rw [e])
    simp [Array.getElem?_setIfInBounds_ne this]
  · simp [hes]
theorem MapAt.kept {w' : World} {row : Option Nat} (h : MapAt w r l) (g : w.grownBy w' row) (hne : some r ≠ row) : MapAt w' r l := by
  obtain ⟨es, c, hr, hes⟩ := h
  exact ⟨es, c, (g.block r (Array.getElem?_eq_some_iff.1 hr).1 hne).trans hr, hes⟩
theorem MapAt.ext {w' : World} (h : MapAt w r l) (x : Ext w w') : MapAt w' r l := by
  obtain ⟨es, c, hr, hes⟩ := h
  exact ⟨es, c, x.block hr, hes⟩
theorem MapAt.lt (h : MapAt w r l) : r < w.heap.size := by
  obtain ⟨es, c, hr, hes⟩ := h
  exact (Array.getElem?_eq_some_iff.1 hr).1
theorem MapAt.made (w : World) : MapAt (w.alloc (.map #[] 0)) w.heap.size [] := ⟨#[], 0, heap_alloc_new w _, by simp⟩
variable {o : Oper} {a : Act} {Kc : Act → World → Prop} {Q : Exit → Act → World → Prop}
theorem wp_update_str (m k x : Operand) (ho : o.op = .mapUpdate T m k x ∨ o.op = .insert T m k x) (hT : P.underlying T = some (.map K E)) (hK : P.underlying K = some .string) (v : Value)
    (hm : a.eval m = .map (some r)) (hk : a.eval k = .string s) (hx : a.eval x = v) (h : MapAt w r l) (hn : look l s = none)
    (hc : ∀ w', w.grownBy w' (some r) → MapAt w' r (l ++ [(s, v)]) → Kc (a.put o.dst undef) w') : o.wp P a w Kc Q := by
  obtain ⟨w', hrun, hg, hM⟩ := run_update_str (P := P) hT hK v h hn
  unfold Oper.wp
  rcases ho with ho | ho
  · simp [execOp, ho, hm, hk, hx, hrun, Result.andThen]
    exact hc w' hg hM
  · simp [execOp, ho, hm, hk, hx, hrun, Result.andThen]
    exact hc w' hg hM
theorem wp_lookup_str (m k : Operand) (ho : o.op = .lookup T m k false) (hT : P.underlying T = some (.map K E)) (hK : P.underlying K = some .string) {z : Value} (hz : (zeroValue E).run P w = .ok z w)
    (hm : a.eval m = .map (some r)) (hk : a.eval k = .string s) (h : MapAt w r l) (hc : Kc (a.put o.dst ((look l s).getD z)) w) : o.wp P a w Kc Q := by
  have hrun := run_lookup_str (P := P) (s := s) hT hK hz h
  unfold Oper.wp
  simp [execOp, ho, hm, hk, hrun, Result.andThen]
  exact hc
variable {ops : Array Oper} {rest : List Oper}
theorem wpList_update_str (hgd : o.guard = none) (m k x : Operand) (ho : o.op = .mapUpdate T m k x ∨ o.op = .insert T m k x) (hT : P.underlying T = some (.map K E)) (hK : P.underlying K = some .string) (v : Value)
    (hm : a.eval m = .map (some r)) (hk : a.eval k = .string s) (hx : a.eval x = v) (h : MapAt w r l) (hn : look l s = none)
    (hc : ∀ w', w.grownBy w' (some r) → MapAt w' r (l ++ [(s, v)]) → wpList P ops Q rest (a.put o.dst undef) w') : wpList P ops Q (o :: rest) a w :=
  wpList_plain hgd fun _ hK' => wp_update_str m k x ho hT hK v hm hk hx h hn fun w' g M => hK' _ _ (hc w' g M)
theorem wpList_lookup_str (hgd : o.guard = none) (m k : Operand) (ho : o.op = .lookup T m k false) (hT : P.underlying T = some (.map K E)) (hK : P.underlying K = some .string) {z : Value} (hz : (zeroValue E).run P w = .ok z w)
    (hm : a.eval m = .map (some r)) (hk : a.eval k = .string s) (h : MapAt w r l) (hc : wpList P ops Q rest (a.put o.dst ((look l s).getD z)) w) : wpList P ops Q (o :: rest) a w :=
  wpList_plain hgd fun _ hK' => wp_lookup_str m k ho hT hK hz hm hk h (hK' _ _ hc)
end
end Go.Proofs.Ytlmdmmikocbmlaa
