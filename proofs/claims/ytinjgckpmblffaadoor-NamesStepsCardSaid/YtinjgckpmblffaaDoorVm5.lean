/- Loads; what a function is said to do; the operations that make memory, write it, or call. -/
import Derived.Test.YtinjgckpmblffaaDoorVm4
namespace Go.Proofs.YtinjgckpmblffaaDoor.Vm
open Go.RowKit
set_option linter.unusedSimpArgs false
set_option linter.unusedVariables false
/-! ### Lists, step by step -/
def setK {α : Type} : List α → Nat → α → (List α → Prop) → Prop
  | [], _, _, _ => False
  | _ :: l, 0, a, K => K (a :: l)
  | x :: l, n + 1, a, K => setK l n a (fun l' => K (x :: l'))
theorem setK_iff {α : Type} : ∀ {l : List α} {i : Nat} {a : α} {K : List α → Prop}, setK l i a K → i < l.length ∧ K (l.set i a)
  | [], _, _, _, h => h.elim
  | _ :: l, 0, a, K, h => ⟨by simp, by simpa [setK] using h⟩
  | x :: l, n + 1, a, K, h => by
    obtain ⟨h1, h2⟩ := setK_iff (l := l) h
    exact ⟨by simpa using h1, by simpa using h2⟩
def writeK : List A → Nat → List A → (List A → Prop) → Prop
  | cs, _, [], K => K cs
  | cs, off, d :: ds, K => setK cs off d (fun cs' => writeK cs' (off + 1) ds K)
def takeK : Nat → List A → (List A → Prop) → Prop
  | 0, _, K => K []
  | n + 1, c :: cs, K => takeK n cs (fun l => K (c :: l))
  | _ + 1, [], _ => False
theorem takeK_iff : ∀ {n : Nat} {cs : List A} {K : List A → Prop}, takeK n cs K → n ≤ cs.length ∧ K (cs.take n)
  | 0, _, _, h => ⟨by simp, by simpa [takeK] using h⟩
  | n + 1, c :: cs, K, h => by
    obtain ⟨h1, h2⟩ := takeK_iff (n := n) h
    exact ⟨by simpa using h1, by simpa using h2⟩
  | _ + 1, [], _, h => h.elim
def force (a : A) (K : A → Prop) : Prop :=
  match a with
  | .dead => K .dead
  | .v x => K (.v x)
  | .sl k n cs => K (.sl k n cs)
  | .own g => K (.own g)
  | .orow g o => K (.orow g o)
  | .box b o => K (.box b o)
  | .pp cs => K (.pp cs)
  | .gp g o => K (.gp g o)
  | .err => K .err
  | .clo f cs => K (.clo f cs)
  | .agg l => K (.agg l)
  | .tup l => K (.tup l)
theorem force_iff {a : A} {K : A → Prop} : force a K ↔ K a := by cases a <;> rfl
def withT (s : S) (t : List A) (K : S → Prop) : Prop := match s with | ⟨_, bx, rw⟩ => K ⟨t, bx, rw⟩
def withB (s : S) (bx : List (List A)) (K : S → Prop) : Prop := match s with | ⟨t, _, rw⟩ => K ⟨t, bx, rw⟩
def withR (s : S) (rw : List Row) (K : S → Prop) : Prop := match s with | ⟨t, bx, _⟩ => K ⟨t, bx, rw⟩
def withBR (s : S) (bx : List (List A)) (rw : List Row) (K : S → Prop) : Prop := match s with | ⟨t, _, _⟩ => K ⟨t, bx, rw⟩
theorem withT_iff {s : S} {t : List A} {K : S → Prop} : withT s t K ↔ K ⟨t, s.bx, s.rw⟩ := by cases s; rfl
theorem withB_iff {s : S} {bx : List (List A)} {K : S → Prop} : withB s bx K ↔ K ⟨s.t, bx, s.rw⟩ := by cases s; rfl
theorem withR_iff {s : S} {rw : List Row} {K : S → Prop} : withR s rw K ↔ K ⟨s.t, s.bx, rw⟩ := by cases s; rfl
theorem withBR_iff {s : S} {bx : List (List A)} {rw : List Row} {K : S → Prop} : withBR s bx rw K ↔ K ⟨s.t, bx, rw⟩ := by cases s; rfl
def forceR : List Row → (List Row → Prop) → Prop
  | [], K => K []
  | r :: l, K => match r with
    | .live e k n cs => forceR l fun l' => K (.live e k n cs :: l')
    | .pub k n cs => forceR l fun l' => K (.pub k n cs :: l')
    | .gone => forceR l fun l' => K (.gone :: l')
theorem forceR_iff : ∀ {l : List Row} {K : List Row → Prop}, forceR l K ↔ K l
  | [], K => by simp [forceR]
  | r :: l, K => by cases r <;> simp [forceR, forceR_iff (l := l)]
def mapK {α : Type} (f : α → A) : List α → (List A → Prop) → Prop
  | [], K => K []
  | x :: l, K => force (f x) fun a => mapK f l fun r => K (a :: r)
theorem mapK_iff {α : Type} {f : α → A} : ∀ {l : List α} {K : List A → Prop}, mapK f l K ↔ K (l.map f)
  | [], K => by simp [mapK]
  | x :: l, K => by simp [mapK, force_iff, mapK_iff (l := l)]
/-! ### Loads -/
def cellsAt (s : S) : A → Option (List A)
  | .box b off => match s.bx[b]? with
    | some cs => some (cs.drop off)
    | none => none
  | .pp cs => some cs
  | .gp g off => match globAt globs g with
    | some cs => some (cs.drop off)
    | none => none
  | .orow g off => match s.rw[g]? with
    | some (.live _ _ _ cs) => some (cs.drop off)
    | _ => none
  | _ => none
def okBox (X : Nat → Bool) (x : A) : Bool := match x with | .box b _ => !X b | _ => true
/-- A load; the boxes of X may not be read. -/
def aload (T : List (Nat × Te)) (X : Nat → Bool) (s : S) (t : Nat) (x : Operand) (K : A → Prop) : Prop :=
  match Tab.get T t with
  | some e =>
    match okBox X (ev s x) with
    | true => match cellsAt s (ev s x) with
      | some cs => match e.d.agg with
        | true => takeK e.z.length cs fun l => K (.agg l)
        | false => match cs with
          | c :: _ => K c
          | [] => False
      | none => False
    | false => False
  | none => False
/-- All blocks that were there are as they were, but for the boxes of X. -/
def Same (X : Nat → Bool) (E : Env) (w w' : World) : Prop := ∀ b, b < w.heap.size → (∀ i : Nat, E.β[i]? = some b → X i = false) → w'.heap[b]? = w.heap[b]?
section
variable {P : Program} {T : List (Nat × Te)} {w0 w : World} {C0 : Rd} {β0 : List Nat} {s : S} {a : Act} {E : Env} {o : Oper}
theorem Same.refl (X : Nat → Bool) (E : Env) (w : World) : Same X E w w := fun _ _ _ => rfl
theorem Same.trans {X : Nat → Bool} {E F : Env} {a b c : World} (h : Same X E a b) (k : Same X F b c) (le : E.le F) (hX : ∀ i, X i = true → i < E.β.length) (hs : a.heap.size ≤ b.heap.size) : Same X E a c := fun n hn hi => by
  refine (k n (Nat.lt_of_lt_of_le hn hs) (fun i h2 => ?_)).trans (h n hn hi)
  cases hx : X i with
  | false => rfl
  | true =>
    have h3 := hX i hx
    have h4 := le.β i E.β[i] (List.getElem?_eq_getElem h3)
    rw [h4] at h2
    have := hi i (by rw [List.getElem?_eq_getElem h3]; exact h2)
    rw [this] at hx; cases hx
theorem Same.cell {X : Nat → Bool} (hp : Hp w0 C0 β0 s.bx s.rw w E) {w' : World} (h : Same X E w w') {ad : Addr} {u : Value} (hc : E.C ad = some u) : w'.cell? ad = some u := by
  have h1 := hp.sub ad u hc
  refine (World.cell?_of_block (w := w) (h ad.block (hp.clt hc) (fun i hi => ?_))).trans h1
  have : E.C ad = none := hp.bC ad.block (List.mem_iff_getElem?.2 ⟨i, hi⟩) ad.off ad.spot
  rw [this] at hc; cases hc
theorem Same.box {X : Nat → Bool} (hp : Hp w0 C0 β0 s.bx s.rw w E) {w' : World} (h : Same X E w w') {i b : Nat} (hi : E.β[i]? = some b) (hx : X i = false) : w'.heap[b]? = w.heap[b]? := by
  refine h b (hp.blt (List.mem_iff_getElem?.2 ⟨i, hi⟩)) (fun j hj => ?_)
  have e1 := List.getElem?_eq_some_iff.1 hi
  have e2 := List.getElem?_eq_some_iff.1 hj
  have : i = j := nodup_inj hp.bnd (e1.2.trans e2.2.symm)
  rw [← this]; exact hx
theorem Same.row {X : Nat → Bool} (hp : Hp w0 C0 β0 s.bx s.rw w E) {w' : World} (h : Same X E w w') {g e k n : Nat} {cs : List A} {y : Value} {b : Nat} (h1 : s.rw[g]? = some (.live e k n cs)) (h2 : E.ρ[g]? = some y) (h3 : y.ownBlock = some b) : w'.heap[b]? = w.heap[b]? :=
  h b (hp.rlt h1 h2 h3).2 (fun i hi => absurd (List.mem_iff_getElem?.2 ⟨i, hi⟩) (hp.rC g e k n cs y b h1 h2 h3).1)
theorem cells_rep (hp : Hp w0 C0 β0 s.bx s.rw w E) {x : A} {y : Value} {cs : List A} {X : Nat → Bool} (hx : x.rep E y) (hX : okBox X x = true) (h : cellsAt s x = some cs) :
    ∃ b off us, y = .pointer (some ⟨b, off, none⟩) ∧ A.repC cs E us ∧ ∀ w', Same X E w w' → ∀ j u, us[j]? = some u → w'.cell? ⟨b, off + j, none⟩ = some u := by
  cases x with
  | box i off =>
    unfold A.rep at hx
    obtain ⟨b, hb, hy⟩ := hx
    simp only [cellsAt] at h
    split at h
    · rename_i cs' hcs
      cases h
      obtain ⟨T', arr, h1, h2⟩ := hp.bxs i b cs' hb hcs
      refine ⟨b, off, arr.toList.drop off, hy, A.repC_drop off h2, fun w' hw j u hu => ?_⟩
      rw [List.getElem?_drop] at hu
      have e := Same.box hp hw hb (by simpa [okBox] using hX)
      simp only [World.cell?, e, h1]
      simpa using hu
    · cases h
  | pp cs' =>
    unfold A.rep at hx
    obtain ⟨b, off, hy, hr⟩ := hx
    simp only [cellsAt] at h
    cases h
    obtain ⟨us, h1, h2⟩ := A.repAt_vals hr
    exact ⟨b, off, us, hy, A.repC.mono cs E.per_le h1, fun w' hw j u hu => Same.cell hp hw (h2 j u hu)⟩
  | gp g off =>
    unfold A.rep at hx
    simp only [cellsAt] at h
    split at h
    · rename_i cs' hg
      cases h
      have h0 := A.repAt_drop off (hp.gok.at hg)
      rw [Nat.zero_add] at h0
      obtain ⟨us, h1, h2⟩ := A.repAt_vals h0
      exact ⟨g, off, us, hx, A.repC.mono _ E.per_le h1, fun w' hw j u hu => Same.cell hp hw (h2 j u hu)⟩
    · cases h
  | orow g off =>
    unfold A.rep at hx
    obtain ⟨b, n, cap, hb, hy⟩ := hx
    simp only [cellsAt] at h
    split at h
    · rename_i e k n' cs' hg
      cases h
      obtain ⟨xs, hown, hr⟩ := hp.rws g _ _ hg hb
      refine ⟨b, off, xs.drop off, hy, A.repC.mono _ E.per_le (A.repC_drop off hr), fun w' hw j u hu => ?_⟩
      rw [List.getElem?_drop] at hu
      have e := Same.row hp hw hg hb rfl
      have := hown.cells (g := b) rfl (off + j) u hu
      rw [add_blk, Nat.zero_add] at this
      rw [World.cell?_of_block (w := w) (a := ⟨b, off + j, none⟩) e]
      exact this
    · cases h
  | _ => simp [cellsAt] at h
theorem load_gen {X : Nat → Bool} {t : Nat} {x : Operand} {K : A → Prop} (G : World → Prop) (hT : Tab.ok P T) (hx : (ev s x).rep E (a.eval x)) (ho : o.op = .load t x) (h : aload T X s t x K)
    (hG : ∀ cs, okBox X (ev s x) = true → cellsAt s (ev s x) = some cs → ∃ b off us, a.eval x = .pointer (some ⟨b, off, none⟩) ∧ A.repC cs E us ∧ ∀ w', G w' → ∀ j u, us[j]? = some u → w'.cell? ⟨b, off + j, none⟩ = some u) :
    ∃ r y, K r ∧ r.rep E y ∧ ∀ w', G w' → (execOp a.eval o).run P w' = .ok (.value y) w' := by
  unfold aload at h
  split at h
  · rename_i e htab
    split at h
    rotate_left
    · exact h.elim
    rename_i hX
    split at h
    · rename_i cs hcs
      obtain ⟨b, off, us, hy, hr, hc⟩ := hG cs hX hcs
      have hagg := fun w' => hT.agg htab w'
      have hsz := fun w' => hT.size htab w'
      split at h
      · rename_i hag
        obtain ⟨h1, h2⟩ := takeK_iff h
        refine ⟨_, .agg (us.take e.z.length).toArray, h2, ?_, fun w' hw => ?_⟩
        · unfold A.rep
          exact ⟨_, rfl, by simpa using A.repC_take _ hr⟩
        · have hl := run_loadCells_list (P := P) w' ⟨b, off, none⟩ (us.take e.z.length) (fun j v hv => by
            rw [add_blk]
            refine hc w' hw j v ?_
            rw [List.getElem?_take] at hv
            split at hv
            · exact hv
            · cases hv)
          have hlen : (us.take e.z.length).length = e.z.length := by
            rw [List.length_take, A.repC_len hr]; omega
          rw [hlen] at hl
          have q1 := hagg w'
          rw [hag] at q1
          simp [execOp, ho, hy, Instr.loadAt, Instr.sureAddr, loadVar, q1, hsz w', hl, Result.andThen]
      · rename_i hag
        split at h
        · rename_i c cs'
          unfold A.repC at hr
          obtain ⟨u, us', rfl, h1, h2, h3⟩ := hr
          refine ⟨_, u, h, h2, fun w' hw => ?_⟩
          have q1 := hagg w'
          rw [hag] at q1
          have q2 := hc w' hw 0 u (by simp)
          simp only [Nat.add_zero] at q2
          simp [execOp, ho, hy, Instr.loadAt, Instr.sureAddr, loadVar, q1, load, Sem.run, q2, Result.andThen]
        · exact h.elim
    · exact h.elim
  · exact h.elim
theorem load_ok {X : Nat → Bool} {t : Nat} {x : Operand} {K : A → Prop} (hT : Tab.ok P T) (hp : Hp w0 C0 β0 s.bx s.rw w E) (ht : A.repL s.t E a.tmps.toList) (ho : o.op = .load t x) (h : aload T X s t x K) :
    ∃ r y, K r ∧ r.rep E y ∧ ∀ w', Same X E w w' → (execOp a.eval o).run P w' = .ok (.value y) w' :=
  load_gen (Same X E w) hT (ev_rep ht x) ho h fun cs hX hcs => cells_rep hp (ev_rep ht x) hX hcs
/-- A load of a box: whatever leaves the box alone. -/
theorem load_box_ok {X : Nat → Bool} {t : Nat} {x : Operand} {K : A → Prop} {i off0 : Nat} (hT : Tab.ok P T) (hp : Hp w0 C0 β0 s.bx s.rw w E) (ht : A.repL s.t E a.tmps.toList) (ho : o.op = .load t x) (h : aload T X s t x K) (hev : ev s x = .box i off0) :
    ∃ r y, K r ∧ r.rep E y ∧ ∀ w', (∀ b, E.β[i]? = some b → w'.heap[b]? = w.heap[b]?) → (execOp a.eval o).run P w' = .ok (.value y) w' := by
  refine load_gen (fun w' => ∀ b, E.β[i]? = some b → w'.heap[b]? = w.heap[b]?) hT (ev_rep ht x) ho h fun cs hX hcs => ?_
  have hx := ev_rep ht x
  rw [hev] at hx hcs
  unfold A.rep at hx
  obtain ⟨b, hb, hy⟩ := hx
  simp only [cellsAt] at hcs
  split at hcs
  · rename_i cs' hcs'
    cases hcs
    obtain ⟨T', arr, h1, h2⟩ := hp.bxs i b cs' hb hcs'
    refine ⟨b, off0, arr.toList.drop off0, hy, A.repC_drop off0 h2, fun w' hw j u hu => ?_⟩
    rw [List.getElem?_drop] at hu
    simp only [World.cell?, hw b hb, h1]
    simpa using hu
  · cases hcs
end
end Go.Proofs.YtinjgckpmblffaaDoor.Vm
