/- What a row's frame tells of its arguments, said of abstract values. -/
import Derived.Test.YtinjgckpmblffaaDoorVmU
import Derived.Test.YtinjgckpmblffaaDoorVmV
import Derived.LaidLaws
import Derived.LaidMore
import Derived.LaidHandle
import Derived.MakeChecks
import Derived.FnData
import Derived.Lib.LaidTab
import Derived.WideShapes
import Derived.OpenShut
namespace Go.Proofs.YtinjgckpmblffaaDoor.Vm
open Go.RowKit
set_option linter.unusedSimpArgs false
set_option linter.unusedVariables false
theorem repAt_map {α : Type} {E : Env} {b : Nat} (f : α → Value) (hf : ∀ x, (f x).oneCell' = true) : ∀ {l : List α} {off : Nat}, A.repAt (l.map fun x => .v (f x)) E b off ↔ ∀ i (hi : i < l.length), E.C ⟨b, off + i, none⟩ = some (f l[i]) ∧ okV (f l[i])
  | [], off => by simp [A.repAt]
  | x :: l, off => by
    simp only [List.map_cons, A.repAt]
    rw [repAt_map f hf (l := l)]
    constructor
    · rintro ⟨⟨u, h1, -, h3⟩, h4⟩ i hi
      rw [A.rep_v_iff] at h3
      cases i with
      | zero => rw [Nat.add_zero, h1, h3.1]; exact ⟨rfl, h3.2⟩
      | succ i =>
        have := h4 i (by simpa using hi)
        rw [show off + (i + 1) = off + 1 + i by omega]; exact this
    · intro h
      refine ⟨⟨f x, by have := (h 0 (by simp)).1; simpa using this, hf x, A.rep_v_iff.2 ⟨rfl, (h 0 (by simp)).2⟩⟩, fun i hi => ?_⟩
      have := h (i + 1) (by simpa using hi)
      rw [show off + 1 + i = off + (i + 1) by omega]; exact this
theorem rep_vi {E : Env} {n : Int} {u : Value} : (A.v (.int .i64 n)).rep E u ↔ u = .int .i64 n ∧ (-9223372036854775808 ≤ n ∧ n ≤ 9223372036854775807) := by
  rw [A.rep_v_iff]
  constructor
  · rintro ⟨h1, h2⟩; exact ⟨h1, okV_int.1 h2⟩
  · rintro ⟨h1, h2⟩; exact ⟨h1, okV_int.2 h2⟩
theorem rep_vs {E : Env} {n : ByteArray} {u : Value} : (A.v (.string n)).rep E u ↔ u = .string n ∧ n.size ≤ maxLen := by
  rw [A.rep_v_iff]; exact Iff.rfl
theorem ints_rep' {E : Env} {v : Value} {l : List Int} {p : Option Addr} {b off cap : Nat} (h1 : l.length ≤ maxLen) (h2 : ∀ n ∈ l, -9223372036854775808 ≤ n ∧ n ≤ 9223372036854775807) (hv : v = .slice p l.length cap) (hc : l.length ≤ cap) (hp : l = [] ∨ p = some ⟨b, off, none⟩) (hn : p = none → cap = 0)
    (hh : ∀ i, i < l.length → E.C ⟨b, off + i, none⟩ = some (.int .i64 (l.getD i 0))) : (A.sl 1 l.length (intsA l)).rep E v := by
  subst hv
  unfold A.rep
  refine ⟨by simp [intsA], h1, p, b, off, cap, rfl, hc, ?_, hn, ?_⟩
  · rcases hp with rfl | hp
    · exact .inl rfl
    · exact .inr hp
  · refine (repAt_map (E := E.per) (Value.int .i64) (fun _ => rfl)).2 fun i hi => ⟨?_, okV_int.2 (h2 _ (List.getElem_mem hi))⟩
    have := hh i hi
    simp [List.getD_eq_getElem?_getD, hi] at this
    exact this
theorem row_rep {w : World} {a : Option Addr} {len cap : Nat} {zs : List Int} (h : (a = none ∧ len = 0 ∧ cap = 0 ∧ zs = []) ∨ ∃ x, a = some x ∧ len ≤ cap ∧ cap ≤ maxLen ∧ zs.length = cap ∧ (∀ i, i < zs.length → w.cell? (x.add i) = some (.int .i64 (zs.getD i 0))) ∧ ∀ n ∈ zs, (Lit.int .i64 n).wf = true) :
    (A.sl 1 (zs.take len).length (intsA (zs.take len))).rep ⟨w.cell?, [], []⟩ (.slice a len cap) := by
  rcases h with ⟨rfl, rfl, rfl, rfl⟩ | ⟨x, rfl, hl, hm, hz, hc, hw⟩
  · exact ints_rep' (p := none) (b := 0) (off := 0) (cap := 0) (by simp) (by simp) rfl (by simp) (.inl rfl) (fun _ => rfl) (fun i hi => absurd hi (by simp))
  · have hlen : (zs.take len).length = len := by simp; omega
    refine ints_rep' (p := some x) (b := x.block) (off := x.off) (cap := cap) (by omega) (fun n hn => ?_) (by rw [hlen]) (by omega) ?_ (by simp) (fun i hi => ?_)
    · have := hw n (List.mem_of_mem_take hn)
      simp [Lit.wf] at this
      exact this
    · by_cases h0 : len = 0
      · left; subst h0; simp
      · right
        have := hc 0 (by omega)
        obtain ⟨b, o, sp⟩ := x
        cases sp with
        | none => rfl
        | some k => simp [Addr.add, World.cell?] at this; split at this <;> simp at this
    · have hi' : i < len := by omega
      have e := hc i (by omega)
      have h0 := hc 0 (by omega)
      obtain ⟨b, o, sp⟩ := x
      cases sp with
      | none => rw [add_at] at e; show w.cell? ⟨b, o + i, none⟩ = _; rw [e]; simp [List.getD_eq_getElem?_getD, hi']
      | some k => simp [Addr.add, World.cell?] at h0; split at h0 <;> simp at h0
theorem str_rep {E : Env} {s : ByteArray} (h : s.size ≤ maxLen) : (A.v (.string s)).rep E (.string s) := rep_vs.2 ⟨rfl, h⟩
theorem int_rep {E : Env} {n : Int} (h : (Lit.int .i64 n).wf = true) : (A.v (.int .i64 n)).rep E (.int .i64 n) := by
  refine rep_vi.2 ⟨rfl, ?_⟩
  simp [Lit.wf] at h
  exact h
theorem args_nil {E : Env} : A.repL [] E [] := by unfold A.repL; rfl
theorem bool_rep {E : Env} {b : Bool} : (A.v (.bool b)).rep E (.bool b) := A.rep_v (x := .bool b) trivial
theorem byte_rep {E : Env} {n : Int} (h : (Lit.int .u8 n).wf = true) : (byteA (UInt8.ofNat n.toNat)).rep E (.int .u8 n) := by
  have h' : 0 ≤ n ∧ n ≤ 255 := by
    simp [Lit.wf] at h
    exact h
  have e : ((UInt8.ofNat n.toNat).toNat : Int) = n := by rw [UInt8.toNat_ofNat']; omega
  unfold byteA
  rw [e]
  exact A.rep_v (x := .int .u8 n) (show (0 : Int) ≤ n ∧ n ≤ 255 from h')
/-! ### Structs and arrays of ints -/
def intFs (c : Nat → Nat) (p : Nat → Bool) : List Field → Nat → Option Nat
  | [], o => some o
  | f :: r, o => if f.offset = o ∧ p f.type = true then intFs c p r (o + c f.type) else none
def allInt (P : Program) : Nat → TypeId → Bool
  | 0, _ => false
  | n + 1, t => match P.underlying t with
    | some (.int .i64) => true
    | some (.struct fs) => decide (intFs P.cellsOf (allInt P n) fs.toList 0 = some (P.cellsOf t))
    | some (.array m e) => allInt P n e && decide (m * P.cellsOf e = P.cellsOf t)
    | _ => false
def IsInts (cs : List Value) : Prop := ∃ l : List Int, cs = l.map (Value.int .i64) ∧ ∀ n ∈ l, (Lit.int .i64 n).wf = true
theorem IsInts.app {a b : List Value} (h : IsInts a) (k : IsInts b) : IsInts (a ++ b) := by
  obtain ⟨l, rfl, h1⟩ := h
  obtain ⟨m, rfl, h2⟩ := k
  exact ⟨l ++ m, by simp, fun n hn => (List.mem_append.1 hn).elim (h1 n) (h2 n)⟩
theorem ints_fs {c : Nat → Nat} {p : Nat → Bool} {cs : List Value} {m : Nat} (hcs : cs.length = m) : ∀ (fs : List Field) (o : Nat), intFs c p fs o = some m → (∀ f ∈ fs, p f.type = true → IsInts ((cs.drop f.offset).take (c f.type))) → IsInts (cs.drop o)
  | [], o, h, _ => by
    cases h
    rw [← hcs, List.drop_length]
    exact ⟨[], rfl, by simp⟩
  | f :: r, o, h, k => by
    unfold intFs at h
    split at h
    · rename_i h1
      have h2 := k f (by simp) h1.2
      have h3 := ints_fs hcs r _ h (fun g hg => k g (by simp [hg]))
      rw [h1.1] at h2
      have := h2.app h3
      rw [← List.drop_drop, List.take_append_drop] at this
      exact this
    · cases h
theorem ints_of {H : Type} {enc : TypeId × Value → H} {P : Program} {w : World} {base : Nat} {spare : Nat → Bool} {held : Bool} : ∀ (n : Nat) {t : TypeId} {fuel : Nat} {cs : List Value} {x : DataW H × List MemPlace}, allInt P n t = true → DataW.trod enc P w base spare held fuel t cs = some x → IsInts cs
  | 0, t, fuel, cs, x, h, _ => by simp [allInt] at h
  | n + 1, t, fuel, cs, x, h, k => by
    unfold allInt at h
    split at h
    · rename_i ht
      obtain ⟨v, rfl, _, hw⟩ := DataW.trod_int ht k
      exact ⟨[v], rfl, fun m hm => by obtain rfl := List.mem_singleton.1 hm; exact hw⟩
    · rename_i fs ht
      have h := of_decide_eq_true h
      obtain ⟨xs, m, _, _, hl, hlen, hf⟩ := DataW.trod_struct ht k
      have := ints_fs hl fs.toList 0 h (fun f hm hp => by
        obtain ⟨i, hi⟩ := List.mem_iff_getElem?.1 hm
        have hi2 : fs[i]? = some f := by rw [← Array.getElem?_toList]; exact hi
        have hil : i < xs.length := by rw [hlen]; exact (Array.getElem?_eq_some_iff.1 hi2).1
        have e := hf i f hi2
        rw [List.getElem?_eq_getElem hil] at e
        exact ints_of n hp e)
      simpa using this
    · rename_i m e ht
      rw [Bool.and_eq_true, decide_eq_true_eq] at h
      obtain ⟨xs, fl, _, _, hl, hlen, hf⟩ := DataW.trod_array ht k
      have key : ∀ j, j ≤ m → IsInts (cs.take (j * P.cellsOf e)) := fun j => by
        induction j with
        | zero => intro _; simp; exact ⟨[], rfl, by simp⟩
        | succ j ih =>
          intro hj
          have e1 := hf j (by omega)
          rw [List.getElem?_eq_getElem (by omega)] at e1
          have := (ih (by omega)).app (ints_of n h.1 e1)
          rw [Nat.succ_mul, List.take_add]
          exact this
      have := key m (Nat.le_refl _)
      rw [h.2, ← hl, List.take_length] at this
      exact this
    · cases h
theorem open_ints_agg {H : Type} {enc : TypeId × Value → H} {P : Program} {w W : World} {base b0 : Nat} {spare : Nat → Bool} {held : Bool} {r : Reach} {t : TypeId} {v : Value} {d : DataW H} {p : List MemPlace} {m : Nat} (ha : allInt P 8 t = true) (hag : (match P.underlying t with | some (.struct _) | some (.array _ _) => true | _ => false) = true) (hC : P.cellsOf t = m)
    (hv : Value.okWide P W r b0 t v) (h : DataW.Trod enc P w base spare held t v d p) : ∃ l : List Int, l.length = m ∧ v = .agg (l.map (Value.int .i64)).toArray ∧ ∀ n ∈ l, (Lit.int .i64 n).wf = true := by
  obtain ⟨cs, rfl, hsz⟩ : ∃ cs, v = .agg cs ∧ cs.size = P.cellsOf t := by
    unfold Value.okWide at hv
    split at hag
    · rename_i fs hs
      simp only [hs] at hv
      obtain ⟨cs, h1, h2, _⟩ := hv
      exact ⟨cs, h1, h2⟩
    · rename_i k e hs
      simp only [hs] at hv
      obtain ⟨cs, h1, h2, _⟩ := hv
      exact ⟨cs, h1, h2⟩
    · cases hag
  obtain ⟨fuel, hf⟩ := h
  obtain ⟨l, h1, h2⟩ := ints_of 8 ha hf
  have h1 : cs.toList = l.map (Value.int .i64) := h1
  refine ⟨l, ?_, ?_, h2⟩
  · have := congrArg List.length h1
    rw [List.length_map, Array.length_toList] at this
    omega
  · congr 1
    apply Array.toList_inj.1
    rw [h1]
theorem list_2 {l : List Int} (h : l.length = 2) : ∃ x0 x1, l = [x0, x1] := by
  match l, h with
  | [x0, x1], _ => exact ⟨x0, x1, rfl⟩
theorem list_3 {l : List Int} (h : l.length = 3) : ∃ x0 x1 x2, l = [x0, x1, x2] := by
  match l, h with
  | [x0, x1, x2], _ => exact ⟨x0, x1, x2, rfl⟩
theorem list_5 {l : List Int} (h : l.length = 5) : ∃ x0 x1 x2 x3 x4, l = [x0, x1, x2, x3, x4] := by
  match l, h with
  | [x0, x1, x2, x3, x4], _ => exact ⟨x0, x1, x2, x3, x4, rfl⟩
theorem list_8 {l : List Int} (h : l.length = 8) : ∃ x0 x1 x2 x3 x4 x5 x6 x7, l = [x0, x1, x2, x3, x4, x5, x6, x7] := by
  match l, h with
  | [x0, x1, x2, x3, x4, x5, x6, x7], _ => exact ⟨x0, x1, x2, x3, x4, x5, x6, x7, rfl⟩
theorem agg_rep {E : Env} : ∀ {l : List Int}, (∀ n ∈ l, (Lit.int .i64 n).wf = true) → (A.agg (l.map intA)).rep E (.agg (l.map (Value.int .i64)).toArray) := fun {l} h => by
  unfold A.rep
  refine ⟨_, rfl, ?_⟩
  simp only
  induction l with
  | nil => simp [A.repC]
  | cons n r ih =>
    simp only [List.map_cons]
    unfold A.repC
    exact ⟨_, _, rfl, rfl, int_rep (h n (by simp)), ih fun m hm => h m (by simp [hm])⟩
/-! ### What the listed variables hold -/
theorem laidVars_iface {P : Program} {w : World} {n nm : String} {d : DataW Unit} {g ti : Nat} {ms : Array (String × TypeId)} (hg : P.globalNamed n = some g) (ht : (P.globals[g]?).map (·.type) = some ti) (hi : P.underlying ti = some (.interface ms)) :
    ∀ {l : List (String × DataW Unit)} {ps : List MemPlace}, DataW.LaidVars P w l ps → (n, DataW.iface nm d) ∈ l → ∃ u v, w.cell? ⟨g, 0, none⟩ = some (.iface u v)
  | [], _, _, hm => by simp at hm
  | (n', d') :: r, ps, h, hm => by
    obtain ⟨g', t', cs, fuel, p, q, e1, e2, e3, e4, e5, _⟩ := h
    rcases List.mem_cons.1 hm with e | hm
    · cases e
      obtain rfl := Option.some.inj (hg.symm.trans e1)
      obtain rfl := Option.some.inj (ht.symm.trans e2)
      obtain ⟨f', u, v, ecs, _⟩ := iface_of_trod hi e4
      refine ⟨u, v, ?_⟩
      have := World.var?_cell hg e3 0
      rw [this, ← Array.getElem?_toList, ecs]; rfl
    · exact laidVars_iface hg ht hi e5 hm
theorem at_err {C : Rd} {g : Nat} (h : ∃ u v, C ⟨g, 0, none⟩ = some (.iface u v)) : A.repAt [.err] ⟨C, [], []⟩ g 0 := by
  obtain ⟨u, v, h⟩ := h
  unfold A.repAt
  refine ⟨⟨_, h, rfl, ?_⟩, by simp [A.repAt]⟩
  unfold A.rep
  exact ⟨u, v, rfl⟩
/-- A variable that is listed: what it holds. -/
theorem laidVars_at {P : Program} {w : World} {n : String} {d : DataW Unit} {g ti : Nat} (hg : P.globalNamed n = some g) (ht : (P.globals[g]?).map (·.type) = some ti) :
    ∀ {l : List (String × DataW Unit)} {ps : List MemPlace}, DataW.LaidVars P w l ps → (n, d) ∈ l → ∃ cs base sp fuel p, w.var? P n = some cs ∧ DataW.trod (fun _ => ()) P w base sp false fuel ti cs.toList = some (d, p)
  | [], _, _, hm => by simp at hm
  | (n', d') :: r, ps, h, hm => by
    obtain ⟨g', t', cs, fuel, p, q, e1, e2, e3, e4, e5, _⟩ := h
    rcases List.mem_cons.1 hm with e | hm
    · cases e
      obtain rfl := Option.some.inj (hg.symm.trans e1)
      obtain rfl := Option.some.inj (ht.symm.trans e2)
      exact ⟨cs, _, _, fuel, p, e3, e4⟩
    · exact laidVars_at hg ht e5 hm
theorem heap_of_var {P : Program} {w : World} {n : String} {g : Nat} {cs : Array Value} (hg : P.globalNamed n = some g) (h : w.var? P n = some cs) : ∃ T sp, w.heap[g]? = some (.cells cs T sp) := by
  simp only [World.var?, hg, Option.bind_some] at h
  split at h
  · rename_i cs' T sp hh
    cases h
    exact ⟨T, sp, hh⟩
  · cases h
/-- A sentinel. -/
theorem gok_iface {P : Program} {w : World} {n nm : String} {d : DataW Unit} {g ti : Nat} {ms : Array (String × TypeId)} (hg : P.globalNamed n = some g) (ht : (P.globals[g]?).map (·.type) = some ti) (hi : P.underlying ti = some (.interface ms))
    {l : List (String × DataW Unit)} {ps : List MemPlace} (h : DataW.LaidVars P w l ps) (hm : (n, DataW.iface nm d) ∈ l) : (([A.err] : List A) ≠ [] ∧ A.repAt [.err] ⟨w.cell?, [], []⟩ g 0) ∧ ∃ cs T sp, w.heap[g]? = some (.cells cs T sp) ∧ cs.size = 1 := by
  obtain ⟨cs, base, sp, fuel, p, e1, e2⟩ := laidVars_at hg ht h hm
  obtain ⟨f', u, v, ecs, _⟩ := iface_of_trod hi e2
  obtain ⟨T, sp2, hh⟩ := heap_of_var hg e1
  have hc : w.cell? ⟨g, 0, none⟩ = some (.iface u v) := by
    have := World.var?_cell hg e1 0
    rw [this, ← Array.getElem?_toList, ecs]; rfl
  refine ⟨⟨by simp, at_err ⟨u, v, hc⟩⟩, cs, T, sp2, hh, ?_⟩
  have := congrArg List.length ecs
  simpa using this
/-- A table of ints. -/
theorem gok_tab {P : Program} {w : World} {n : String} {k : IntKind} {zs : List Int} {g ti e m : Nat} (hg : P.globalNamed n = some g) (ht : (P.globals[g]?).map (·.type) = some ti) (hu : P.underlying ti = some (.array m e)) (he : P.underlying e = some (.int k)) (hce : P.cellsOf e = 1) (hct : P.cellsOf ti = m) (hne : zs ≠ []) (hzs : ∀ z ∈ zs, okV (.int k z))
    {l : List (String × DataW Unit)} {ps : List MemPlace} (h : DataW.LaidVars P w l ps) (hm : (n, Lib.tabData k zs) ∈ l) : (((zs.map fun z => A.v (.int k z)) ≠ []) ∧ A.repAt (zs.map fun z => A.v (.int k z)) ⟨w.cell?, [], []⟩ g 0) ∧ ∃ cs T sp, w.heap[g]? = some (.cells cs T sp) ∧ cs.size = (zs.map fun z => A.v (.int k z)).length := by
  obtain ⟨cs, base, sp, fuel, p, e1, e2⟩ := laidVars_at hg ht h hm
  have ecs := Lib.cells_of_tab hu he hce hct e2
  obtain ⟨T, sp2, hh⟩ := heap_of_var hg e1
  refine ⟨⟨by simpa using hne, ?_⟩, cs, T, sp2, hh, ?_⟩
  · refine (repAt_map (fun z => Value.int k z) (fun _ => rfl)).2 fun i hi => ⟨?_, hzs _ (List.getElem_mem hi)⟩
    have := World.var?_cell hg e1 (0 + i)
    show w.cell? _ = _
    rw [this, ← Array.getElem?_toList, ecs]
    simp [hi]
  · have := congrArg List.length ecs
    simpa using this
theorem gok_nil {C : Rd} {w : World} (h : globs = []) : Gok C w := ⟨fun x hx => (by rw [h] at hx; cases hx), fun x hx => (by rw [h] at hx; cases hx)⟩
end Go.Proofs.YtinjgckpmblffaaDoor.Vm
