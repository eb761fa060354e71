/- Strings, ints, bytes as abstract values; from a contract to what a row asks. -/
import Derived.Test.YtinjgckpmblffaaDoorVmTab
namespace Go.Proofs.YtinjgckpmblffaaDoor.Vm
open Go.RowKit
set_option linter.unusedSimpArgs false
set_option linter.unusedVariables false
def strA (x : ByteArray) : A := .v (.string x)
def intA (n : Int) : A := .v (.int .i64 n)
def boolA (b : Bool) : A := .v (.bool b)
def strsA (l : List ByteArray) : List A := l.map strA
def intsA (l : List Int) : List A := l.map intA
theorem rowOf_strs (l : List ByteArray) (i : Nat) (hi : i < l.length) : rowOf 1 i (strsA l) = [.v (.string l[i])] := rowOf_map _ l i hi
theorem rowOf_ints (l : List Int) (i : Nat) (hi : i < l.length) : rowOf 1 i (intsA l) = [.v (.int .i64 l[i])] := rowOf_map _ l i hi
theorem rowOf_bytes (b : ByteArray) (i : Nat) (hi : i < b.data.toList.length) : rowOf 1 i (bytesA b) = [.v (.int .u8 (b.data.toList[i].toNat : Int))] := rowOf_map _ b.data.toList i hi
theorem le_max {n : Nat} (h : n ≤ 1000000000) : n ≤ maxLen := by unfold maxLen; omega
theorem call_of {f : Nat} {fn : Func} {x : Code} (hf : Tryd.prog.funcs[f]? = some fn) (hb : fn.body = some x) (hname : (fn.name == "runtime.NumGoroutine") = false) : ∀ vs w, (callFunc f vs).run Tryd.prog w = .ok (.enter f vs) w := fun vs w => callable hf hb hname vs w
/-- A contract that was proved otherwise, of a function that only makes new memory. -/
theorem spec_ext {P : Program} {f : Nat} {args : List A} {r : A} (hcall : ∀ vs w, (callFunc f vs).run P w = .ok (.enter f vs) w)
    (h : ∀ w C vals, Gok C w → Sub C w.cell? → A.repL args ⟨C, [], []⟩ vals → Calls P f vals.toArray w fun e w' => ∃ v, e = .returned v ∧ Ext w w' ∧ r.rep ⟨plus C w w', [], []⟩ v) : Spec P f [] args fun _ x => x = r := by
  refine ⟨hcall, fun w C β vals h0 h1 h2 h3 h4 h5 h6 => ?_⟩
  have hβ : β = [] := List.eq_nil_of_length_eq_zero (by simpa using h4.symm)
  subst hβ
  refine (h w C vals h0 h1 h6).mono ?_
  rintro e w' ⟨v, rfl, x, hr⟩
  exact ⟨[], r, v, rfl, rfl, Keeps.of_ext x, rfl, fun i b cs hb => by simp at hb, hr⟩
theorem spec_weak {P : Program} {f : Nat} {args : List A} {r r' : A} (h : Spec P f [] args fun _ x => x = r) (hr : ∀ E v, r.rep E v → r'.rep E v) : Spec P f [] args fun _ x => x = r' :=
  ⟨h.1, fun w C β vals h0 h1 h2 h3 h4 h5 h6 => (h.2 w C β vals h0 h1 h2 h3 h4 h5 h6).mono fun e w' ⟨outs, x, v, k1, k2, k3, k4, k5, k6⟩ => ⟨outs, r', v, k1, rfl, k3, k4, k5, hr _ _ (k2 ▸ k6)⟩⟩
/-- What is said of a law is what its row asks. -/
theorem walk_of {f : Nat} {args : List A} {vals : List Value} {w : World} (h : Spec Tryd.prog f [] args fun _ r => r = boolA true) (hg : Gok w.cell? w) (ha : A.repL args ⟨w.cell?, [], []⟩ vals) :
    Calls Tryd.prog f vals.toArray w fun e w' => e = .returned (.bool true) ∧ Below w.heap.size w w' :=
  (h.2 w w.cell? [] vals hg (Sub.refl _) List.nodup_nil (by simp) rfl (fun i b cs hb => by simp at hb) ha).mono fun e w' ⟨outs, r, v, he, hr, hk, _, _, hv⟩ => by
    subst hr
    rw [he, (A.rep_v_iff.1 hv).1]
    exact ⟨rfl, hk.ext⟩
theorem setK_mk {α : Type} : ∀ {l : List α} {i : Nat} {a : α} {K : List α → Prop}, i < l.length → K (l.set i a) → setK l i a K
  | [], i, a, K, h, _ => by simp at h
  | x :: l, 0, a, K, h, k => by simpa [setK] using k
  | x :: l, i + 1, a, K, h, k => by
    unfold setK
    exact setK_mk (by simpa using h) (by simpa using k)
theorem takeK_mk : ∀ {n : Nat} {cs : List A} {K : List A → Prop}, n ≤ cs.length → K (cs.take n) → takeK n cs K
  | 0, cs, K, _, k => by unfold takeK; simpa using k
  | n + 1, [], K, h, k => by simp at h
  | n + 1, c :: cs, K, h, k => by
    unfold takeK
    exact takeK_mk (by simpa using h) (by simpa using k)
theorem ble (h : Bool) (b : Bool) (e : h = b) : h = b := e
theorem renL_plain {X : List Nat} {rw : List Row} : ∀ {l : List A}, (∀ a ∈ l, ∃ x, a = .v x) → renL X rw l = some l
  | [], _ => by simp [renL]
  | a :: r, h => by
    obtain ⟨x, rfl⟩ := h a (by simp)
    unfold renL
    rw [renL_plain (l := r) fun b hb => h b (by simp [hb])]
    simp [ren]
theorem ren_plain {X : List Nat} {rw : List Row} {l : List A} (h : ∀ a ∈ l, ∃ x, a = .v x) : ren X rw (.agg l) = some (.agg l) := by
  unfold ren
  rw [renL_plain h]
theorem backL_plain {X : List Nat} : ∀ {l : List A}, (∀ a ∈ l, ∃ x, a = .v x) → backL X l = l
  | [], _ => by simp [backL]
  | a :: r, h => by
    obtain ⟨x, rfl⟩ := h a (by simp)
    unfold backL
    rw [backL_plain (l := r) fun b hb => h b (by simp [hb])]
    simp [back]
/-! ### Loops over boxes whose contents are not looked at -/
theorem le_slots {np : Nat} {t t' : List A} {bx : List (List A)} {rw : List Row} (h : eqL t t') : Le np ⟨t, bx, rw⟩ ⟨t', bx, rw⟩ := by
  rintro w0 C0 β0 a w _ ⟨E, hp, hrep, hd⟩
  exact ⟨E, hp, LeL_rep (eqL_le h) hrep, hd⟩
def headQ {X : Type} (t0 : List A) (g : X → List (Nat × A)) (bx : X → List (List A)) (rw : X → List Row) (x : X) (s : S) : Prop :=
  setAllK (g x) t0 fun t => eqL s.t t ∧ s.bx = bx x ∧ s.rw = rw x
theorem le_headQ {X : Type} {np : Nat} {s : S} {t0 : List A} {g : X → List (Nat × A)} {bx : X → List (List A)} {rw : X → List Row} {x : X} (h : headQ t0 g bx rw x s) : Le np s (headS t0 g bx rw x) := by
  unfold headQ at h
  rw [setAllK_iff] at h
  obtain ⟨h1, h2, h3⟩ := h
  obtain ⟨t, b, r⟩ := s
  simp only at h1 h2 h3
  subst h2; subst h3
  exact le_slots h1
theorem loop_goQ {np : Nat} {f : S → (Exit → S → Prop) → Prop} {s : S} {t0 : List A} {Q : Exit → S → Prop} {X : Type} (g : X → List (Nat × A)) (bx : X → List (List A)) (rw : X → List Row) (φ : X → Prop) (μ : X → Nat) (x0 : X)
    (h0 : headQ t0 g bx rw x0 s) (hφ : φ x0)
    (hr : ∀ x, φ x → setAllK (g x) t0 fun t => f ⟨t, bx x, rw x⟩ fun e s' => match e with
      | .normal => ∃ x', Le np s' (headS t0 g bx rw x') ∧ φ x' ∧ μ x' < μ x
      | e => Q e s') : LoopG np f s t0 Q := by
  unfold LoopG
  unfold LoopW
  exact ⟨X, headS t0 g bx rw, φ, μ, ⟨x0, le_headQ h0, hφ⟩, fun x hx => by
    have := hr x hx
    rw [setAllK_iff] at this
    exact this⟩
theorem writeK_one {cs : List A} {off : Nat} {d : A} {K : List A → Prop} (h : off < cs.length) (k : K (cs.set off d)) : writeK cs off [d] K := by
  unfold writeK
  exact setK_mk h (by unfold writeK; exact k)
theorem writeK_all : ∀ {ds cs : List A} {K : List A → Prop} (pre : List A), ds.length = cs.length → K (pre ++ ds) → writeK (pre ++ cs) pre.length ds K
  | [], [], K, pre, _, k => by unfold writeK; simpa using k
  | d :: ds, c :: cs, K, pre, h, k => by
    unfold writeK
    refine setK_mk (by simp) ?_
    have e : (pre ++ c :: cs).set pre.length d = (pre ++ [d]) ++ cs := by simp
    rw [e]
    have := writeK_all (K := K) (pre ++ [d]) (ds := ds) (cs := cs) (by simpa using h) (by simpa using k)
    simpa using this
  | [], _ :: _, _, _, h, _ => by simp at h
  | _ :: _, [], _, _, h, _ => by simp at h
end Go.Proofs.YtinjgckpmblffaaDoor.Vm
