/- The operations that make or write memory, or call. -/
import Derived.Test.YtinjgckpmblffaaDoorVm7
namespace Go.Proofs.YtinjgckpmblffaaDoor.Vm
open Go.RowKit
set_option linter.unusedSimpArgs false
set_option linter.unusedVariables false
def cellsK (a : A) (K : List A → Prop) : Prop :=
  match a with
  | .agg l => K l
  | .v x => K [.v x]
  | .sl k n cs => K [.sl k n cs]
  | .own g => K [.own g]
  | .box b o => K [.box b o]
  | .pp cs => K [.pp cs]
  | .gp g o => K [.gp g o]
  | .err => K [.err]
  | .clo f cs => K [.clo f cs]
  | _ => False
def snocK {α : Type} : List α → α → Nat → (Nat → List α → Prop) → Prop
  | [], a, n, K => K n [a]
  | x :: l, a, n, K => snocK l a (n + 1) fun m r => K m (x :: r)
theorem snocK_iff {α : Type} : ∀ {l : List α} {a : α} {n : Nat} {K : Nat → List α → Prop}, snocK l a n K ↔ K (n + l.length) (l ++ [a])
  | [], a, n, K => by simp [snocK]
  | x :: l, a, n, K => by
    unfold snocK
    rw [snocK_iff (l := l)]
    simp [Nat.add_assoc, Nat.add_comm 1]
def fillK (s : S) (place : Nat → Option (Nat × Nat)) : List (Nat × Operand) → List A → (List A → Prop) → Prop
  | [], cs, K => K cs
  | (i, x) :: r, cs, K => match place i with
    | some (off, n + 1) => cellsK (ev s x) fun ds => match Nat.beq ds.length (n + 1) with
      | true => writeK cs off ds fun cs' => fillK s place r cs' K
      | false => False
    | _ => False
def setL : List Value → Nat → List Value → List Value
  | us, _, [] => us
  | us, off, v :: vs => setL (us.set off v) (off + 1) vs
section
variable {P : Program} {T : List (Nat × Te)} {w0 w : World} {C0 : Rd} {β0 : List Nat} {s : S} {a : Act} {E : Env} {o : Oper}
theorem cellsK_rep (hp : Hp w0 C0 β0 s.bx s.rw w E) {x : A} {y : Value} {K : List A → Prop} (h : cellsK x K) (hr : x.rep E y) : ∃ cs, K cs ∧ A.repC cs E y.cells.toList := by
  have one : ∀ (x : A) (y : Value), x.rep E y → y.oneCell' = true → A.repC [x] E y.cells.toList := fun x y h1 h2 => by
    have e : y.cells.toList = [y] := by cases y <;> simp [Value.oneCell'] at h2 <;> rfl
    rw [e]
    unfold A.repC
    exact ⟨y, [], rfl, h2, h1, by simp [A.repC]⟩
  cases x with
  | agg l =>
    unfold A.rep at hr
    obtain ⟨us, rfl, h2⟩ := hr
    exact ⟨l, h, h2⟩
  | v x =>
    have h2 := A.rep_v_iff.1 hr
    exact ⟨_, h, one _ _ hr (by rw [h2.1]; exact oneCell_of h2.2)⟩
  | sl k n cs =>
    obtain ⟨_, _, p, b, off, cap, rfl, _⟩ := sl_parts hr
    exact ⟨_, h, one _ _ hr rfl⟩
  | own g =>
    have h2 := hr
    unfold A.rep at h2
    obtain ⟨p, n, c, rfl⟩ := hp.rs g y h2
    exact ⟨_, h, one _ _ hr rfl⟩
  | box b o =>
    have h2 := hr
    unfold A.rep at h2
    obtain ⟨_, _, rfl⟩ := h2
    exact ⟨_, h, one _ _ hr rfl⟩
  | pp cs =>
    have h2 := hr
    unfold A.rep at h2
    obtain ⟨_, _, rfl, _⟩ := h2
    exact ⟨_, h, one _ _ hr rfl⟩
  | gp g o =>
    have h2 := hr
    unfold A.rep at h2
    subst h2
    exact ⟨_, h, one _ _ hr rfl⟩
  | err =>
    have h2 := hr
    unfold A.rep at h2
    obtain ⟨_, _, rfl⟩ := h2
    exact ⟨_, h, one _ _ hr rfl⟩
  | clo f cs =>
    have h2 := hr
    unfold A.rep at h2
    obtain ⟨_, rfl, _⟩ := h2
    exact ⟨_, h, one _ _ hr rfl⟩
  | _ => exact h.elim
theorem writeK_rep : ∀ {ds : List A} {vs us : List Value} {cs : List A} {off : Nat} {K : List A → Prop}, writeK cs off ds K → A.repC cs E us → A.repC ds E vs → (∀ j, j < ds.length → off + j < cs.length) ∧ ∃ cs', K cs' ∧ A.repC cs' E (setL us off vs)
  | [], vs, us, cs, off, K, h, hc, hd => by
    unfold A.repC at hd
    subst hd
    exact ⟨fun j hj => by simp at hj, cs, h, hc⟩
  | d :: ds, vs, us, cs, off, K, h, hc, hd => by
    unfold A.repC at hd
    obtain ⟨v, vs', rfl, h1, h2, h3⟩ := hd
    unfold writeK at h
    obtain ⟨h4, h5⟩ := setK_iff h
    obtain ⟨h6, cs', h7, h8⟩ := writeK_rep h5 (A.repC_set hc off h2 h1) h3
    refine ⟨fun j hj => ?_, cs', h7, h8⟩
    cases j with
    | zero => simpa using h4
    | succ j =>
      have := h6 j (by simpa using hj)
      simp at this; omega
theorem foldl_setL (off : Nat) : ∀ (vs : List Value) (n : Nat) (arr : Array Value), ((vs.zipIdx n).foldl (fun cs x => cs.setIfInBounds (off + x.2) x.1) arr).toList = setL arr.toList (off + n) vs
  | [], n, arr => by simp [setL]
  | v :: vs, n, arr => by
    simp only [List.zipIdx_cons, List.foldl_cons, setL]
    rw [foldl_setL off vs (n + 1)]
    simp [Nat.add_assoc]
theorem fold_cells (off : Nat) (v : Value) (arr : Array Value) : (v.cells.zipIdx.foldl (fun cs x => cs.setIfInBounds (off + x.2) x.1) arr).toList = setL arr.toList off v.cells.toList := by
  have := foldl_setL off v.cells.toList 0 arr
  rw [Nat.add_zero] at this
  rw [← this, ← Array.foldl_toList, Array.toList_zipIdx]
theorem setL_length : ∀ (vs us : List Value) (off : Nat), (setL us off vs).length = us.length
  | [], us, off => rfl
  | v :: vs, us, off => by simp [setL, setL_length vs]
theorem fillK_rep (hp : Hp w0 C0 β0 s.bx s.rw w E) (ht : A.repL s.t E a.tmps.toList) {place : Nat → Option (Nat × Nat)} : ∀ {ps : List (Nat × Operand)} {cs : List A} {arr : Array Value} {K : List A → Prop}, fillK s place ps cs K → A.repC cs E arr.toList →
    ∃ cs' arr', K cs' ∧ Instr.fill place arr (ps.map fun x => (x.1, a.eval x.2)) = some arr' ∧ A.repC cs' E arr'.toList ∧ arr'.size = arr.size
  | [], cs, arr, K, h, hc => ⟨cs, arr, h, by simp [Instr.fill], hc, rfl⟩
  | (i, x) :: ps, cs, arr, K, h, hc => by
    unfold fillK at h
    split at h
    · rename_i off n hpl
      obtain ⟨ds, h1, h2⟩ := cellsK_rep hp h (ev_rep ht x)
      split at h1
      · rename_i hb
        have hsz : ds.length = n + 1 := Nat.eq_of_beq_eq_true hb
        obtain ⟨h3, cs', h4, h5⟩ := writeK_rep h1 hc h2
        have hvl : (a.eval x).cells.size = n + 1 := by rw [← hsz, ← A.repC_len h2]; simp
        have hbd : off + (n + 1) ≤ arr.size := by
          have := h3 n (by omega)
          rw [← A.repC_len hc] at this
          simp at this; omega
        rw [← fold_cells] at h5
        obtain ⟨cs2, arr2, k1, k2, k3, k4⟩ := fillK_rep hp ht h4 h5
        refine ⟨cs2, arr2, k1, ?_, k3, k4.trans ?_⟩
        · simp only [List.map_cons, Instr.fill, hpl]
          rw [if_neg (by simp [hvl]; omega)]
          exact k2
        · rw [← Array.length_toList, fold_cells, setL_length, Array.length_toList]
      · exact h1.elim
    · exact h.elim
theorem stores_ok (hb : ∀ {i b : Nat}, E.β[i]? = some b → True) : ∀ {ds : List A} {vs : List Value} {bx : List (List A)} {rw : List Row} {w : World} {i b : Nat} {cs : List A} {off : Nat} {K : List A → Prop}, Hp w0 C0 β0 bx rw w E → E.β[i]? = some b → bx[i]? = some cs → writeK cs off ds K → A.repC ds E vs →
    ∃ cs', K cs' ∧ Hp w0 C0 β0 (bx.set i cs') rw (w.setCells b off vs) E
  | [], vs, bx, rw, w, i, b, cs, off, K, hp, h1, h2, h, hd => by
    unfold A.repC at hd
    subst hd
    refine ⟨cs, h, ?_⟩
    have e : bx.set i cs = bx := by
      apply List.ext_getElem?
      intro j
      rw [List.getElem?_set]
      by_cases hj : i = j
      · subst hj
        have e2 := List.getElem?_eq_some_iff.1 h2
        simp [e2.1, e2.2]
      · simp [hj]
    rw [e]; exact hp
  | d :: ds, vs, bx, rw, w, i, b, cs, off, K, hp, h1, h2, h, hd => by
    unfold A.repC at hd
    obtain ⟨v, vs', rfl, k1, k2, k3⟩ := hd
    unfold writeK at h
    obtain ⟨h4, h5⟩ := setK_iff h
    have hp1 := hp.store (off := off) h1 h2 k2 k1
    have hi := (List.getElem?_eq_some_iff.1 h2).1
    obtain ⟨cs', h6, h7⟩ := stores_ok hb (bx := bx.set i (cs.set off d)) hp1 h1 (List.getElem?_set_self hi) h5 k3
    refine ⟨cs', h6, ?_⟩
    rw [List.set_set] at h7
    exact h7
theorem setCells_other (b k : Nat) (hk : k ≠ b) : ∀ (vs : List Value) (off : Nat) (w : World), (w.setCells b off vs).heap[k]? = w.heap[k]?
  | [], _, _ => rfl
  | v :: r, off, w => by
    have h1 := setCells_other b k hk r (off + 1) (w.setCell ⟨b, off, none⟩ v)
    have h2 := Below.heap_setCell w ⟨b, off, none⟩ v k hk
    exact h1.trans h2
/-- A store into a box. -/
def astore (T : List (Nat × Te)) (s : S) (t : Nat) (x y : Operand) (K : A → S → Prop) : Prop :=
  match Tab.get T t with
  | some e => match ev s x with
    | .box b off => match s.bx[b]? with
      | some cs => cellsK (ev s y) fun ds => match Nat.beq ds.length e.z.length with
        | true => writeK cs off ds fun cs' => setK s.bx b cs' fun bx' => withB s bx' (K .dead)
        | false => False
      | none => False
    | _ => False
  | none => False
theorem store_ok {t : Nat} {x y : Operand} {K : A → S → Prop} (hT : Tab.ok P T) (hp : Hp w0 C0 β0 s.bx s.rw w E) (ht : A.repL s.t E a.tmps.toList) (ho : o.op = .store t x y) (h : astore T s t x y K) :
    ∃ w' bx', (execOp a.eval o).run P w = .ok .skip w' ∧ K .dead ⟨s.t, bx', s.rw⟩ ∧ Hp w0 C0 β0 bx' s.rw w' E ∧ ∃ i off b, ev s x = .box i off ∧ E.β[i]? = some b ∧ ∀ k, k ≠ b → w'.heap[k]? = w.heap[k]? := by
  unfold astore at h
  split at h
  · rename_i e htab
    have hx := ev_rep ht x
    split at h
    · rename_i i off hev
      rw [hev] at hx
      unfold A.rep at hx
      obtain ⟨b, hb, hv⟩ := hx
      split at h
      · rename_i cs hcs
        obtain ⟨ds, h1, h2⟩ := cellsK_rep hp h (ev_rep ht y)
        split at h1
        · rename_i hbeq
          have hlen : ds.length = e.z.length := Nat.eq_of_beq_eq_true hbeq
          obtain ⟨T', arr, k1, k2⟩ := hp.bxs i b cs hb hcs
          obtain ⟨k3, -⟩ := writeK_rep h1 k2 h2
          obtain ⟨cs', k4, k5⟩ := stores_ok (fun _ => trivial) hp hb hcs h1 h2
          obtain ⟨k6, k7⟩ := setK_iff k4
          rw [withB_iff] at k7
          refine ⟨_, _, ?_, k7, k5, i, off, b, hev, hb, fun k hk => setCells_other b k hk _ _ _⟩
          have hdl := A.repC_len h2
          have hcl := A.repC_len k2
          have hst := run_storeCells_cells (P := P) b off (a.eval y).cells.toList 0 w (fun j hj => by
              have h9 := k3 j (by omega)
              simp only [World.cell?, k1, Nat.add_zero]
              simp at hcl ⊢
              omega) (fun j hj => by simp [World.frozen?, k1]) (A.repC_one h2)
          have hsz := hT.size htab w
          have hss : (a.eval y).cells.size = e.z.length := by rw [← hlen, ← hdl]; simp
          simp only [Nat.add_zero] at hst
          simp [execOp, ho, hv, Instr.storeAt, Instr.sureAddr, storeVar, hsz, hss, hst, Result.andThen]
        · exact h1.elim
      · exact h.elim
    · exact h.elim
  · exact h.elim
end
end Go.Proofs.YtinjgckpmblffaaDoor.Vm
