/- A drawn region in which all is calm: no order matters. -/
import Derived.Test.YtinjgckpmblffaaDoorVm12
namespace Go.Proofs.YtinjgckpmblffaaDoor.Vm
open Go.RowKit
set_option linter.unusedSimpArgs false
set_option linter.unusedVariables false
theorem pre_get {α : Type} {l l' : List α} {i : Nat} {x : α} (h : l[i]? = some x) : (l ++ l')[i]? = some x := by
  have hi := (List.getElem?_eq_some_iff.1 h).1
  rw [List.getElem?_append_left hi]; exact h
/-- Boxes and rows behind the first ones are given up. -/
theorem Hp.drop {w0 w : World} {C0 C : Rd} {β0 β β' : List Nat} {ρ ρ' : List Value} {bx bx' : List (List A)} {rw rw' : List Row} (h : Hp w0 C0 β0 (bx ++ bx') (rw ++ rw') w ⟨C, β ++ β', ρ ++ ρ'⟩) (hb : bx.length = β.length) (hr : rw.length = ρ.length) (hβ : ∃ β1, β = β0 ++ β1 ∧ ∀ b ∈ β1, w0.heap.size ≤ b)
    (hbx : ∀ (i b : Nat) (cs : List A), β[i]? = some b → bx[i]? = some cs → boxAt w ⟨C, β, ρ⟩ b cs) (hrw : ∀ (g : Nat) (r : Row) (y : Value), rw[g]? = some r → ρ[g]? = some y → rowRep w w0.heap.size ⟨C, β, ρ⟩ r y) : Hp w0 C0 β0 bx rw w ⟨C, β, ρ⟩ :=
  ⟨h.sub, h.base, h.fresh, hβ, (List.nodup_append.1 h.bnd).1, fun b hb => h.bC b (List.mem_append_left _ hb), hb, hbx, hr, hrw,
    fun g e k n cs y b h1 h2 h3 => by
      have := h.rC g e k n cs y b (pre_get h1) (pre_get h2) h3
      exact ⟨fun hm => this.1 (List.mem_append_left _ hm), this.2⟩,
    fun g e k n cs y g' e' k' n' cs' z b hne h1 h2 h3 h4 h5 => h.rd g e k n cs y g' e' k' n' cs' z b hne (pre_get h1) (pre_get h2) (pre_get h3) (pre_get h4) h5,
    fun g y h1 => h.rs g y (pre_get h1), h.keep, h.gk⟩
def takeF {α : Type} : Nat → List α → List α
  | 0, _ => []
  | _ + 1, [] => []
  | n + 1, a :: r => a :: takeF n r
theorem takeF_eq {α : Type} : ∀ (n : Nat) (l : List α), takeF n l = l.take n
  | 0, _ => by simp [takeF]
  | _ + 1, [] => by simp [takeF]
  | n + 1, a :: r => by simp [takeF, takeF_eq n r]
/-- What is told of a result, once what is new is given up. -/
def told (bx : List (List A)) (rw : List Row) (s' : S) (r R : A) : Prop :=
  match r with
  | .own g => match Nat.blt g rw.length with
    | true => R = .own g
    | false => match s'.rw[g]? with
      | some (.live _ k n cs) => R = .sl k n cs
      | some (.pub k n cs) => R = .sl k n cs
      | _ => False
  | r => match refs bx.length rw.length r with
    | true => R = r
    | false => False
def Told (bx : List (List A)) (rw : List Row) (s' : S) (r R : A) : Prop := takeF bx.length s'.bx = bx ∧ takeF rw.length s'.rw = rw ∧ told bx rw s' r R
section
variable {c : Cx} {w0 : World} {C0 : Rd} {β0 : List Nat} {s : S} {a : Act} {w : World} {E : Env} {o : Oper}
theorem rowRep_pub {base : Nat} {rw : List Row} {g e k n : Nat} {cs : List A} {bx : List (List A)} {y : Value} (hp : Hp w0 C0 β0 bx rw w E) (hg : rw[g]? = some (.live e k n cs)) (hy : E.ρ[g]? = some y) :
    ∃ C', Sub E.C C' ∧ Hp w0 C0 β0 bx (rw.set g (.pub k n cs)) w ⟨C', E.β, E.ρ⟩ ∧ (A.sl k n cs).rep ⟨C', E.β, E.ρ⟩ y := by
  obtain ⟨C', h1, h2⟩ := hp.pub hg
  refine ⟨C', h2.C, h1, ?_⟩
  have hgl := (List.getElem?_eq_some_iff.1 hg).1
  exact h1.rws g (.pub k n cs) y (by rw [List.getElem?_set_self hgl]) hy
/-- The result of an operation, and the state with what is new given up. -/
theorem told_ok {bx : List (List A)} {rw : List Row} {s' : S} {r R : A} {E' : Env} {w' : World} {y : Value} (hp : Hp w0 C0 β0 bx rw w E) (h : Told bx rw s' r R) (le : E.le E') (hp' : Hp w0 C0 β0 s'.bx s'.rw w' E') (hr : r.rep E' y)
    (hsame : Same (fun _ => false) E w w') :
    ∃ C', Sub E.C C' ∧ Hp w0 C0 β0 bx rw w' ⟨C', E.β, E.ρ⟩ ∧ R.rep ⟨C', E.β, E.ρ⟩ y := by
  obtain ⟨h1, h2, h3⟩ := h
  rw [takeF_eq] at h1 h2
  obtain ⟨β', hβ'⟩ : ∃ β', E'.β = E.β ++ β' := by
    refine ⟨E'.β.drop E.β.length, ?_⟩
    have : E'.β.take E.β.length = E.β := by
      apply List.ext_getElem?
      intro i
      by_cases hi : i < E.β.length
      · rw [List.getElem?_take, if_pos hi, List.getElem?_eq_getElem hi]
        exact le.β i _ (List.getElem?_eq_getElem hi)
      · rw [List.getElem?_take, if_neg hi, List.getElem?_eq_none (by omega)]
    rw [← this]; simp [List.take_append_drop]
    have hl : E.β.length ≤ E'.β.length := by
      have := congrArg List.length this
      simp at this; omega
    rw [Nat.min_eq_left hl, List.take_append_drop]
  obtain ⟨ρ', hρ'⟩ : ∃ ρ', E'.ρ = E.ρ ++ ρ' := by
    refine ⟨E'.ρ.drop E.ρ.length, ?_⟩
    have : E'.ρ.take E.ρ.length = E.ρ := by
      apply List.ext_getElem?
      intro i
      by_cases hi : i < E.ρ.length
      · rw [List.getElem?_take, if_pos hi, List.getElem?_eq_getElem hi]
        exact le.ρ i _ (List.getElem?_eq_getElem hi)
      · rw [List.getElem?_take, if_neg hi, List.getElem?_eq_none (by omega)]
    rw [← this]; simp [List.take_append_drop]
    have hl : E.ρ.length ≤ E'.ρ.length := by
      have := congrArg List.length this
      simp at this; omega
    rw [Nat.min_eq_left hl, List.take_append_drop]
  have hbx' : s'.bx = bx ++ s'.bx.drop bx.length := by
    have := (List.take_append_drop bx.length s'.bx).symm
    rwa [h1] at this
  have hrw' : s'.rw = rw ++ s'.rw.drop rw.length := by
    have := (List.take_append_drop rw.length s'.rw).symm
    rwa [h2] at this
  -- the old state, in the new world, in any reading that is greater
  have back : ∀ (C' : Rd) (rwx : List Row), Sub E.C C' → Hp w0 C0 β0 s'.bx rwx w' ⟨C', E'.β, E'.ρ⟩ → rwx.take rw.length = rw → Hp w0 C0 β0 bx rw w' ⟨C', E.β, E.ρ⟩ := fun C' rwx hC hx hrx => by
    have e : rwx = rw ++ rwx.drop rw.length := by
      have := (List.take_append_drop rw.length rwx).symm
      rwa [hrx] at this
    rw [hbx', e, hβ', hρ'] at hx
    have le2 : E.le ⟨C', E.β, E.ρ⟩ := ⟨hC, fun _ _ h => h, fun _ _ h => h⟩
    refine hx.drop hp.bl hp.rl hp.bp (fun i b cs g1 g2 => ?_) (fun g r y g1 g2 => ?_)
    · exact ((hp.bxs i b cs g1 g2).same (Same.box (s := ⟨[], bx, rw⟩) hp hsame g1 rfl)).mono le2
    · exact (hp.rws g r y g1 g2).mono le2 fun e k n cs hr b hb => Same.row (s := ⟨[], bx, rw⟩) hp hsame (by rw [← hr]; exact g1) g2 hb
  have plain : refs bx.length rw.length r = true → ∃ C', Sub E.C C' ∧ Hp w0 C0 β0 bx rw w' ⟨C', E.β, E.ρ⟩ ∧ r.rep ⟨C', E.β, E.ρ⟩ y := fun hrf => by
    refine ⟨E'.C, le.C, back E'.C s'.rw le.C hp' h2, ?_⟩
    have := refs_rep (nb := bx.length) (nr := rw.length) r hrf hr
    rw [hβ', hρ', hp.bl, hp.rl] at this
    simpa using this
  unfold told at h3
  split at h3
  · rename_i g
    split at h3
    · rename_i hlt
      rw [h3]
      exact plain (by unfold refs; exact hlt)
    · rename_i hlt
      split at h3
      · rename_i k n cs hg
        obtain ⟨C', k1, k2, k3⟩ := rowRep_pub (base := 0) hp' hg (by unfold A.rep at hr; exact hr)
        have hge : rw.length ≤ g := by
          rcases Nat.lt_or_ge g rw.length with h4 | h4
          · have h5 : Nat.blt g rw.length = true := by simpa using h4
            rw [hlt] at h5; cases h5
          · exact h4
        refine ⟨C', le.C.trans k1, back C' _ (le.C.trans k1) k2 ?_, ?_⟩
        · rw [List.take_set_of_le hge]; exact h2
        · rw [h3]
          unfold A.rep at k3 ⊢
          exact k3
      · rename_i k n cs hg
        have hy : E'.ρ[g]? = some y := by unfold A.rep at hr; exact hr
        have k3 : (A.sl k n cs).rep E' y := hp'.rws g _ y hg hy
        refine ⟨E'.C, le.C, back E'.C s'.rw le.C hp' h2, ?_⟩
        rw [h3]
        unfold A.rep at k3 ⊢
        exact k3
      · exact h3.elim
  · split at h3
    · rename_i hrf
      rw [h3]
      exact plain hrf
    · exact h3.elim
end
/-! ### Slots -/
def pick0 : List (Nat × A) → A → A
  | [], a => a
  | (j, b) :: r, a => match j with
    | 0 => b
    | _ + 1 => pick0 r a
def dec {α : Type} : List (Nat × α) → List (Nat × α)
  | [] => []
  | (j, b) :: r => match j with
    | 0 => dec r
    | n + 1 => (n, b) :: dec r
def decK {α : Type} : List (Nat × α) → (List (Nat × α) → Prop) → Prop
  | [], K => K []
  | (j, b) :: r, K => match j with
    | 0 => decK r K
    | n + 1 => decK r fun g => K ((n, b) :: g)
theorem decK_iff {α : Type} : ∀ {g : List (Nat × α)} {K : List (Nat × α) → Prop}, decK g K ↔ K (dec g)
  | [], K => by simp [decK, dec]
  | (0, b) :: r, K => by simp [decK, dec, decK_iff (g := r)]
  | (n + 1, b) :: r, K => by simp [decK, dec, decK_iff (g := r)]
/-- The slots that are told. -/
def setAll : List (Nat × A) → List A → List A
  | _, [] => []
  | g, a :: l => pick0 g a :: setAll (dec g) l
def setAllK : List (Nat × A) → List A → (List A → Prop) → Prop
  | _, [], K => K []
  | g, a :: l, K => force (pick0 g a) fun a' => decK g fun g' => setAllK g' l fun r => K (a' :: r)
theorem setAllK_iff : ∀ {l : List A} {g : List (Nat × A)} {K : List A → Prop}, setAllK g l K ↔ K (setAll g l)
  | [], g, K => by simp [setAllK, setAll]
  | a :: l, g, K => by simp [setAllK, setAll, force_iff, decK_iff, setAllK_iff (l := l)]
def lookG : List (Nat × A) → Nat → A → A
  | [], _, a => a
  | (j, b) :: r, x, a => if j = x then b else lookG r x a
theorem pick0_look : ∀ (g : List (Nat × A)) (a : A), pick0 g a = lookG g 0 a
  | [], a => rfl
  | (0, b) :: r, a => by simp [pick0, lookG]
  | (n + 1, b) :: r, a => by simp [pick0, lookG, pick0_look r a]
theorem dec_look : ∀ (g : List (Nat × A)) (x : Nat) (a : A), lookG (dec g) x a = lookG g (x + 1) a
  | [], x, a => rfl
  | (0, b) :: r, x, a => by simp [dec, lookG, dec_look r x a]
  | (n + 1, b) :: r, x, a => by simp [dec, lookG, dec_look r x a]
theorem setAll_get : ∀ (l : List A) (g : List (Nat × A)) (x : Nat), (setAll g l)[x]? = (l[x]?).map (lookG g x)
  | [], g, x => by simp [setAll]
  | a :: l, g, 0 => by simp [setAll, pick0_look]
  | a :: l, g, x + 1 => by
    simp only [setAll, List.getElem?_cons_succ]
    rw [setAll_get l (dec g) x]
    congr 1
    funext b
    exact dec_look g x b
theorem setAll_len : ∀ (l : List A) (g : List (Nat × A)), (setAll g l).length = l.length
  | [], g => by simp [setAll]
  | a :: l, g => by simp [setAll, setAll_len l]
theorem repL_of {E : Env} : ∀ {l : List A} {us : List Value}, us.length = l.length → (∀ (x : Nat) (a : A) (u : Value), l[x]? = some a → us[x]? = some u → a.rep E u) → A.repL l E us
  | [], us, hl, h => by unfold A.repL; exact List.eq_nil_of_length_eq_zero (by simpa using hl)
  | a :: l, [], hl, h => by simp at hl
  | a :: l, u :: us, hl, h => by
    unfold A.repL
    exact ⟨u, us, rfl, h 0 a u rfl rfl, repL_of (by simpa using hl) fun x b v h1 h2 => h (x + 1) b v (by simpa using h1) (by simpa using h2)⟩
/-! ### The flow -/
def onsOf : List Edge → List Nat
  | [] => []
  | e :: r => match Region.binds .any e with
    | true => e.on :: onsOf r
    | false => onsOf r
theorem onsOf_mem : ∀ {l : List Edge} {j : Nat}, j ∈ onsOf l ↔ ∃ e ∈ l, Region.binds .any e = true ∧ e.on = j
  | [], j => by simp [onsOf]
  | e :: r, j => by
    unfold onsOf
    split
    · rename_i h
      rw [List.mem_cons, onsOf_mem (l := r)]
      constructor
      · rintro (rfl | ⟨e', h1, h2⟩)
        · exact ⟨e, by simp, h, rfl⟩
        · exact ⟨e', by simp [h1], h2⟩
      · rintro ⟨e', h1, h2, h3⟩
        rcases List.mem_cons.1 h1 with rfl | h1
        · exact .inl h3.symm
        · exact .inr ⟨e', h1, h2, h3⟩
    · rename_i h
      rw [onsOf_mem (l := r)]
      constructor
      · rintro ⟨e', h1, h2⟩
        exact ⟨e', by simp [h1], h2⟩
      · rintro ⟨e', h1, h2, h3⟩
        rcases List.mem_cons.1 h1 with rfl | h1
        · rw [h] at h2; cases h2
        · exact ⟨e', h1, h2, h3⟩
/-- What is told of the slots when operation i comes up: what it waits for is there; what waits for it has not come up; of the others nothing is said. -/
def flowG (i : Nat) (o : Oper) (rs : List A) : List Oper → Nat → List (Nat × A)
  | [], _ => []
  | oj :: r, j => match oj.dst with
    | none => flowG i o rs r (j + 1)
    | some d => match memB j (onsOf o.after.toList) with
      | true => (d, rs.getD j .dead) :: flowG i o rs r (j + 1)
      | false => match memB i (onsOf oj.after.toList) with
        | true => flowG i o rs r (j + 1)
        | false => (d, .dead) :: flowG i o rs r (j + 1)
def endG (rs : List A) : List Oper → Nat → List (Nat × A)
  | [], _ => []
  | oj :: r, j => match oj.dst with
    | none => endG rs r (j + 1)
    | some d => (d, rs.getD j .dead) :: endG rs r (j + 1)
def GoodAt (c : Cx) (ops : List Oper) (s : S) (rs : List A) (i : Nat) (o : Oper) : Prop :=
  wantK ops o ⟨setAll (flowG i o rs ops 0) s.t, s.bx, s.rw⟩ (acalm' c (fun _ => false) ⟨setAll (flowG i o rs ops 0) s.t, s.bx, s.rw⟩ o fun r s' => Told s.bx s.rw s' r (rs.getD i .dead)) (rs.getD i .dead = .tup [])
def aflow0 (_ : Nat) (rs : List A) (K : List A → Prop) : Prop := K rs
def aflow1 (c : Cx) (ops : List Oper) (s : S) (o : Oper) (ih : Nat → List A → (List A → Prop) → Prop) (i : Nat) (rs : List A) (K : List A → Prop) : Prop :=
  ∃ R : A, (setAllK (flowG i o rs ops 0) s.t fun t => wantK ops o ⟨t, s.bx, s.rw⟩ (acalm' c (fun _ => false) ⟨t, s.bx, s.rw⟩ o fun r s' => Told s.bx s.rw s' r R) (R = .tup [])) ∧ force R fun R => snocK rs R 0 fun _ rs' => ih (i + 1) rs' K
noncomputable def aflow (c : Cx) (ops : List Oper) (s : S) (l : List Oper) : Nat → List A → (List A → Prop) → Prop :=
  List.rec aflow0 (fun o _ ih => aflow1 c ops s o ih) l
def aflowR (c : Cx) (ops : List Oper) (s : S) (K : S → Prop) : Prop := aflow c ops s ops 0 [] fun rs => setAllK (endG rs ops 0) s.t fun t => withT s t K
theorem flow_go {p q : A → Prop} (R : A) (h : p R) (k : q R) : ∃ R, p R ∧ q R := ⟨R, h, k⟩
def dstOf (ops : List Oper) (j : Nat) : Option Nat := (ops[j]?).bind (·.dst)
def flowOk (ops : Array Oper) : Bool :=
  Region.noSelect ops && ops.toList.zipIdx.all (fun x => x.1.after.toList.all fun e => !Region.binds .any e || decide (e.on < x.2)) &&
  (List.range ops.size).all fun i => (List.range ops.size).all fun j => i == j || (dstOf ops.toList i).isNone || dstOf ops.toList i != dstOf ops.toList j
structure FlowOk (ops : List Oper) : Prop where
  sel : Region.noSelect ops.toArray = true
  topo : ∀ (i : Nat) (o : Oper), ops[i]? = some o → ∀ e ∈ o.after, Region.binds .any e = true → e.on < i
  dist : ∀ (i j : Nat) (oi oj : Oper) (d : Nat), ops[i]? = some oi → ops[j]? = some oj → oi.dst = some d → oj.dst = some d → i = j
theorem flowOk_iff {ops : List Oper} (h : flowOk ops.toArray = true) : FlowOk ops := by
  unfold flowOk at h
  simp only [Bool.and_eq_true] at h
  refine ⟨h.1.1, fun i o ho e he hb => ?_, fun i j oi oj d hi hj di dj => ?_⟩
  · have := List.all_eq_true.1 h.1.2 (o, i) (by rw [List.mem_zipIdx_iff_getElem?]; simpa using ho)
    have := List.all_eq_true.1 this e (by simpa using he)
    simpa [hb] using this
  · have hi' := (List.getElem?_eq_some_iff.1 hi).1
    have hj' := (List.getElem?_eq_some_iff.1 hj).1
    have h1 := List.all_eq_true.1 h.2 i (List.mem_range.2 (by simpa using hi'))
    have h2 := List.all_eq_true.1 h1 j (List.mem_range.2 (by simpa using hj'))
    simp [dstOf, hi, hj, di, dj] at h2
    exact h2
section
variable {c : Cx} {w0 : World} {C0 : Rd} {β0 : List Nat} {s : S} {a : Act} {w : World} {E : Env} {ops : List Oper}
theorem flowG_app {i : Nat} {o : Oper} {rs ms : List A} (h : ∀ j ∈ onsOf o.after.toList, j < rs.length) : ∀ (l : List Oper) (j : Nat), flowG i o (rs ++ ms) l j = flowG i o rs l j
  | [], j => rfl
  | oj :: r, j => by
    unfold flowG
    rw [flowG_app h r (j + 1)]
    split
    · rfl
    · split
      · rename_i hm
        rw [memB_iff] at hm
        have := h j hm
        simp [List.getD_eq_getElem?_getD, List.getElem?_append_left this]
      · rfl
theorem aflow_all (hf : FlowOk ops) : ∀ {l : List Oper} {i : Nat} {rs : List A} {K : List A → Prop}, l = ops.drop i → rs.length = i → aflow c ops s l i rs K →
    ∃ ms, K (rs ++ ms) ∧ ∀ (j : Nat) (o : Oper), i ≤ j → ops[j]? = some o → GoodAt c ops s (rs ++ ms) j o
  | [], i, rs, K, hl, hr, h => ⟨[], by rw [List.append_nil]; exact h, fun j o hj ho => by
      have := (List.getElem?_eq_some_iff.1 ho).1
      have h2 : (ops.drop i).length = 0 := by rw [← hl]; rfl
      simp at h2; omega⟩
  | o :: l, i, rs, K, hl, hr, h => by
    change aflow1 c ops s o (aflow c ops s l) i rs K at h
    unfold aflow1 at h
    obtain ⟨R, h1, h2⟩ := h
    rw [setAllK_iff] at h1
    rw [force_iff, snocK_iff] at h2
    have hil : i < ops.length := by
      have : (ops.drop i).length = l.length + 1 := by rw [← hl]; rfl
      simp at this; omega
    have ho : ops[i]? = some o := by
      have := congrArg (·[0]?) hl
      simp at this
      exact this.symm
    have hl' : l = ops.drop (i + 1) := by
      have := congrArg List.tail hl
      simpa using this
    obtain ⟨ms, k1, k2⟩ := aflow_all hf hl' (by simp [hr]) h2
    refine ⟨R :: ms, by simpa using k1, fun j oj hj hoj => ?_⟩
    by_cases hji : j = i
    · subst hji
      rw [ho] at hoj
      cases hoj
      unfold GoodAt
      rw [flowG_app (fun j' hj' => by
        obtain ⟨e, he, hb, rfl⟩ := onsOf_mem.1 hj'
        have := hf.topo j o ho e (by simpa using he) hb
        rw [hr]; exact this)]
      have e : (rs ++ R :: ms).getD j .dead = R := by
        rw [List.getD_eq_getElem?_getD, List.getElem?_append_right (by omega), hr]; simp
      rw [e]
      exact h1
    · have := k2 j oj (by omega) hoj
      simpa using this
/-- The slots, when those of D have come up. -/
structure FlowI (w0 : World) (C0 : Rd) (β0 : List Nat) (s : S) (E : Env) (ops : List Oper) (rs : List A) (D : Array Bool) (a : Act) (w : World) : Prop where
  ex : ∃ C', Sub E.C C' ∧ Hp w0 C0 β0 s.bx s.rw w ⟨C', E.β, E.ρ⟩ ∧ ∀ (x : Nat) (a' : A) (v : Value), s.t[x]? = some a' → a.tmps.toList[x]? = some v →
    (∀ (j : Nat) (oj : Oper), ops[j]? = some oj → oj.dst = some x → D.getD j false = true → (rs.getD j .dead).rep ⟨C', E.β, E.ρ⟩ v) ∧ ((∀ (j : Nat) (oj : Oper), ops[j]? = some oj → oj.dst = some x → D.getD j false = false) → a'.rep ⟨C', E.β, E.ρ⟩ v)
  size : a.tmps.size = s.t.length
  defers : a.defers = []
  dsize : D.size = ops.length
  closed : ∀ (j : Nat) (o : Oper), ops[j]? = some o → D.getD j false = true → ∀ e ∈ o.after, Region.binds .any e = true → D.getD e.on false = true
theorem lookG_cases : ∀ {g : List (Nat × A)} {x : Nat} {a : A}, (∃ b, (x, b) ∈ g ∧ lookG g x a = b) ∨ ((∀ b, (x, b) ∉ g) ∧ lookG g x a = a)
  | [], x, a => .inr ⟨by simp, rfl⟩
  | (j, b) :: r, x, a => by
    unfold lookG
    by_cases hj : j = x
    · subst hj
      rw [if_pos rfl]
      exact .inl ⟨b, by simp, rfl⟩
    · rw [if_neg hj]
      rcases lookG_cases (g := r) (x := x) (a := a) with ⟨b', h1, h2⟩ | ⟨h1, h2⟩
      · exact .inl ⟨b', by simp [h1], h2⟩
      · refine .inr ⟨fun b' hb => ?_, h2⟩
        rcases List.mem_cons.1 hb with h3 | h3
        · exact hj (Prod.mk.inj h3).1.symm
        · exact h1 b' h3
theorem flowG_mem {i : Nat} {o : Oper} {rs : List A} : ∀ {l : List Oper} {n : Nat}, (∀ x b, (x, b) ∈ flowG i o rs l n → ∃ (j : Nat) (oj : Oper), l[j]? = some oj ∧ oj.dst = some x ∧ ((n + j ∈ onsOf o.after.toList ∧ b = rs.getD (n + j) .dead) ∨ b = .dead)) ∧
    (∀ (j : Nat) (oj : Oper) (x : Nat), l[j]? = some oj → oj.dst = some x → (∀ b, (x, b) ∉ flowG i o rs l n) → i ∈ onsOf oj.after.toList)
  | [], n => ⟨by simp [flowG], by simp⟩
  | oj :: r, n => by
    obtain ⟨ih1, ih2⟩ := flowG_mem (i := i) (o := o) (rs := rs) (l := r) (n := n + 1)
    have up : ∀ x b, (x, b) ∈ flowG i o rs r (n + 1) → ∃ (j : Nat) (oj' : Oper), (oj :: r)[j]? = some oj' ∧ oj'.dst = some x ∧ ((n + j ∈ onsOf o.after.toList ∧ b = rs.getD (n + j) .dead) ∨ b = .dead) := fun x b hx => by
      obtain ⟨j, oj', h1, h2, h3⟩ := ih1 x b hx
      exact ⟨j + 1, oj', by simpa using h1, h2, by rw [show n + (j + 1) = n + 1 + j by omega]; exact h3⟩
    unfold flowG
    cases hd : oj.dst with
    | none =>
      simp only
      refine ⟨up, fun j oj' x h1 h2 h3 => ?_⟩
      cases j with
      | zero => simp at h1; subst h1; rw [hd] at h2; cases h2
      | succ j => exact ih2 j oj' x (by simpa using h1) h2 h3
    | some d =>
      simp only
      cases hm : memB n (onsOf o.after.toList) with
      | true =>
        simp only
        refine ⟨fun x b hx => ?_, fun j oj' x h1 h2 h3 => ?_⟩
        · rcases List.mem_cons.1 hx with h4 | h4
          · cases h4
            exact ⟨0, oj, rfl, hd, .inl ⟨by rw [memB_iff] at hm; simpa using hm, by simp⟩⟩
          · exact up x b h4
        · cases j with
          | zero => simp at h1; subst h1; rw [hd] at h2; cases h2; exact absurd (List.mem_cons_self ..) (h3 _)
          | succ j => exact ih2 j oj' x (by simpa using h1) h2 fun b hb => h3 b (List.mem_cons_of_mem _ hb)
      | false =>
        simp only
        cases hm2 : memB i (onsOf oj.after.toList) with
        | true =>
          simp only
          refine ⟨up, fun j oj' x h1 h2 h3 => ?_⟩
          cases j with
          | zero => simp at h1; subst h1; exact memB_iff.1 hm2
          | succ j => exact ih2 j oj' x (by simpa using h1) h2 h3
        | false =>
          simp only
          refine ⟨fun x b hx => ?_, fun j oj' x h1 h2 h3 => ?_⟩
          · rcases List.mem_cons.1 hx with h4 | h4
            · cases h4
              exact ⟨0, oj, rfl, hd, .inr rfl⟩
            · exact up x b h4
          · cases j with
            | zero => simp at h1; subst h1; rw [hd] at h2; cases h2; exact absurd (List.mem_cons_self ..) (h3 _)
            | succ j => exact ih2 j oj' x (by simpa using h1) h2 fun b hb => h3 b (List.mem_cons_of_mem _ hb)
theorem endG_mem {rs : List A} : ∀ {l : List Oper} {n : Nat}, (∀ x b, (x, b) ∈ endG rs l n → ∃ (j : Nat) (oj : Oper), l[j]? = some oj ∧ oj.dst = some x ∧ b = rs.getD (n + j) .dead) ∧
    (∀ (j : Nat) (oj : Oper) (x : Nat), l[j]? = some oj → oj.dst = some x → ∃ b, (x, b) ∈ endG rs l n)
  | [], n => ⟨by simp [endG], by simp⟩
  | oj :: r, n => by
    obtain ⟨ih1, ih2⟩ := endG_mem (rs := rs) (l := r) (n := n + 1)
    have up : ∀ x b, (x, b) ∈ endG rs r (n + 1) → ∃ (j : Nat) (oj' : Oper), (oj :: r)[j]? = some oj' ∧ oj'.dst = some x ∧ b = rs.getD (n + j) .dead := fun x b hx => by
      obtain ⟨j, oj', h1, h2, h3⟩ := ih1 x b hx
      exact ⟨j + 1, oj', by simpa using h1, h2, by rw [show n + (j + 1) = n + 1 + j by omega]; exact h3⟩
    unfold endG
    cases hd : oj.dst with
    | none =>
      simp only
      refine ⟨up, fun j oj' x h1 h2 => ?_⟩
      cases j with
      | zero => simp at h1; subst h1; rw [hd] at h2; cases h2
      | succ j => exact ih2 j oj' x (by simpa using h1) h2
    | some d =>
      simp only
      refine ⟨fun x b hx => ?_, fun j oj' x h1 h2 => ?_⟩
      · rcases List.mem_cons.1 hx with h4 | h4
        · cases h4
          exact ⟨0, oj, rfl, hd, by simp⟩
        · exact up x b h4
      · cases j with
        | zero => simp at h1; subst h1; rw [hd] at h2; cases h2; exact ⟨_, List.mem_cons_self ..⟩
        | succ j =>
          obtain ⟨b, hb⟩ := ih2 j oj' x (by simpa using h1) h2
          exact ⟨b, List.mem_cons_of_mem _ hb⟩
theorem flow_state (hf : FlowOk ops) {rs : List A} {D : Array Bool} (h : FlowI w0 C0 β0 s E ops rs D a w) {i : Nat} {o : Oper} (ho : ops[i]? = some o) (hu : D.getD i false = false) (hd : ∀ e ∈ o.after, Region.binds .any e = true → D.getD e.on false = true) {C' : Rd}
    (hx : ∀ (x : Nat) (a' : A) (v : Value), s.t[x]? = some a' → a.tmps.toList[x]? = some v →
      (∀ (j : Nat) (oj : Oper), ops[j]? = some oj → oj.dst = some x → D.getD j false = true → (rs.getD j .dead).rep ⟨C', E.β, E.ρ⟩ v) ∧ ((∀ (j : Nat) (oj : Oper), ops[j]? = some oj → oj.dst = some x → D.getD j false = false) → a'.rep ⟨C', E.β, E.ρ⟩ v)) :
    A.repL (setAll (flowG i o rs ops 0) s.t) ⟨C', E.β, E.ρ⟩ a.tmps.toList := by
  refine repL_of (by rw [setAll_len]; simpa using h.size) fun x b u h1 h2 => ?_
  rw [setAll_get, Option.map_eq_some_iff] at h1
  obtain ⟨a', h1, rfl⟩ := h1
  obtain ⟨g1, g2⟩ := hx x a' u h1 h2
  obtain ⟨m1, m2⟩ := flowG_mem (i := i) (o := o) (rs := rs) (l := ops) (n := 0)
  rcases lookG_cases (g := flowG i o rs ops 0) (x := x) (a := a') with ⟨b, k1, k2⟩ | ⟨k1, k2⟩
  · rw [k2]
    obtain ⟨j, oj, q1, q2, q3⟩ := m1 x b k1
    rcases q3 with ⟨q3, rfl⟩ | rfl
    · rw [Nat.zero_add] at q3 ⊢
      obtain ⟨e, he, hb, rfl⟩ := onsOf_mem.1 q3
      exact g1 e.on oj q1 q2 (hd e (by simpa using he) hb)
    · exact A.rep_dead _ _
  · rw [k2]
    refine g2 fun j oj q1 q2 => ?_
    have := m2 j oj x q1 q2 k1
    obtain ⟨e, he, hb, he2⟩ := onsOf_mem.1 this
    cases hD : D.getD j false with
    | false => rfl
    | true =>
      have := h.closed j oj q1 hD e (by simpa using he) hb
      rw [he2, hu] at this; cases this
theorem flow_put (hf : FlowOk ops) {rs : List A} {D : Array Bool} (h : FlowI w0 C0 β0 s E ops rs D a w) {i : Nat} {o : Oper} (ho : ops[i]? = some o) (hu : D.getD i false = false) (hd : ∀ e ∈ o.after, Region.binds .any e = true → D.getD e.on false = true) {C' C'' : Rd} (hC : Sub E.C C'') (hCC : Sub C' C'') {w' : World} {y : Value}
    (hp : Hp w0 C0 β0 s.bx s.rw w' ⟨C'', E.β, E.ρ⟩) (hy : (rs.getD i .dead).rep ⟨C'', E.β, E.ρ⟩ y)
    (hx : ∀ (x : Nat) (a' : A) (v : Value), s.t[x]? = some a' → a.tmps.toList[x]? = some v →
      (∀ (j : Nat) (oj : Oper), ops[j]? = some oj → oj.dst = some x → D.getD j false = true → (rs.getD j .dead).rep ⟨C', E.β, E.ρ⟩ v) ∧ ((∀ (j : Nat) (oj : Oper), ops[j]? = some oj → oj.dst = some x → D.getD j false = false) → a'.rep ⟨C', E.β, E.ρ⟩ v)) :
    FlowI w0 C0 β0 s E ops rs (D.setIfInBounds i true) (a.put o.dst y) w' := by
  have hil := (List.getElem?_eq_some_iff.1 ho).1
  have hD : ∀ j, (D.setIfInBounds i true).getD j false = if j = i then true else D.getD j false := fun j => by
    by_cases hj : j = i
    · subst hj
      rw [if_pos rfl]
      simp [Array.getD_eq_getD_getElem?, h.dsize, hil]
    · rw [if_neg hj]
      simp only [Array.getD_eq_getD_getElem?]
      rw [Array.getElem?_setIfInBounds_ne (fun e => hj e.symm)]
  have le : (⟨C', E.β, E.ρ⟩ : Env).le ⟨C'', E.β, E.ρ⟩ := ⟨hCC, fun _ _ h => h, fun _ _ h => h⟩
  refine ⟨⟨C'', hC, hp, fun x a' v h1 h2 => ?_⟩, ?_, ?_, by simp [h.dsize], fun j oj hj hDj e he hb => ?_⟩
  · by_cases hdx : o.dst = some x
    · refine ⟨fun j oj q1 q2 q3 => ?_, fun hn => ?_⟩
      · obtain rfl : i = j := hf.dist i j o oj x ho q1 hdx q2
        have hv : v = y := by
          rw [hdx] at h2
          have : (a.tmps.setIfInBounds x y).toList[x]? = some v := h2
          rw [Array.toList_setIfInBounds] at this
          have hxl : x < a.tmps.toList.length := by
            have := (List.getElem?_eq_some_iff.1 h1).1
            have := h.size
            simp; omega
          rw [List.getElem?_set_self hxl] at this
          exact (Option.some.inj this).symm
        rw [hv]; exact hy
      · have := hn i o ho hdx
        rw [hD, if_pos rfl] at this; cases this
    · have h2' : a.tmps.toList[x]? = some v := by
        cases hod : o.dst with
        | none => rw [hod] at h2; exact h2
        | some d =>
          rw [hod] at h2 hdx
          have : (a.tmps.setIfInBounds d y).toList[x]? = some v := h2
          rw [Array.toList_setIfInBounds] at this
          rw [List.getElem?_set_ne (fun e => hdx (by rw [e]))] at this
          exact this
      obtain ⟨g1, g2⟩ := hx x a' v h1 h2'
      refine ⟨fun j oj q1 q2 q3 => ?_, fun hn => ?_⟩
      · have hji : j ≠ i := fun e => by
          subst e
          rw [ho] at q1; cases q1
          exact hdx q2
        rw [hD, if_neg hji] at q3
        exact (g1 j oj q1 q2 q3).mono _ le
      · refine (g2 fun j oj q1 q2 => ?_).mono _ le
        have := hn j oj q1 q2
        have hji : j ≠ i := fun e => by
          subst e
          rw [ho] at q1; cases q1
          exact hdx q2
        rwa [hD, if_neg hji] at this
  · cases hod : o.dst with
    | none => exact h.size
    | some d =>
      show (a.tmps.setIfInBounds d y).size = _
      simpa using h.size
  · cases hod : o.dst <;> exact h.defers
  · rw [hD]
    split
    · rfl
    · rw [hD] at hDj
      split at hDj
      · rename_i hji
        subst hji
        rw [ho] at hj; cases hj
        exact hd e he hb
      · exact h.closed j oj hj hDj e he hb
def unlisted (n : Nat) (D : Array Bool) : List Nat := (List.range n).filter fun i => !D.getD i false
theorem unlisted_set {n i : Nat} {D : Array Bool} (hi : i < n) (hs : D.size = n) (hu : D.getD i false = false) : (unlisted n (D.setIfInBounds i true)).length < (unlisted n D).length := by
  have : unlisted n (D.setIfInBounds i true) = (unlisted n D).filter fun j => decide (j ≠ i) := by
    unfold unlisted
    rw [List.filter_filter]
    refine List.filter_congr fun j _ => ?_
    by_cases hj : j = i
    · subst hj; simp [Array.getD_eq_getD_getElem?, hs, hi]
    · simp only [Array.getD_eq_getD_getElem?]
      rw [Array.getElem?_setIfInBounds_ne (fun e => hj e.symm)]
      simp [hj]
  rw [this]
  refine List.length_filter_lt_length_iff_exists.2 ⟨i, ?_, by simp⟩
  unfold unlisted
  rw [List.mem_filter]
  exact ⟨List.mem_range.2 hi, by simp [hu]⟩
theorem getD_eq {D : Array Bool} {i : Nat} (h : i < D.size) (b b' : Bool) : D.getD i b = D.getD i b' := by simp [Array.getD_eq_getD_getElem?, h]
theorem ready_flow {D : Array Bool} (hs : D.size = ops.length) {i : Nat} (h : i ∈ Region.ready .any ops.toArray D) : i < ops.length ∧ D.getD i false = false ∧ ∃ o, ops[i]? = some o ∧ ∀ e ∈ o.after, Region.binds .any e = true → D.getD e.on false = true := by
  obtain ⟨h1, o, h2, h3⟩ := mem_ready.1 h
  have h2' : ops[i]? = some o := by simpa using h2
  have hi := (List.getElem?_eq_some_iff.1 h2').1
  exact ⟨hi, by rw [getD_eq (by omega) false true]; exact h1, o, h2', h3⟩
theorem none_ready (hf : FlowOk ops) {D : Array Bool} (hs : D.size = ops.length) (h : Region.ready .any ops.toArray D = []) : ∀ i, i < ops.length → D.getD i false = true := fun i => by
  induction i using Nat.strongRecOn with
  | _ i ih =>
    intro hi
    cases hD : D.getD i false with
    | true => rfl
    | false =>
      have : i ∈ Region.ready .any ops.toArray D := mem_ready.2 ⟨by rw [getD_eq (by omega) true false]; exact hD, ops[i], by simp [hi], fun e he hb => by
        have := hf.topo i ops[i] (List.getElem?_eq_getElem hi) e he hb
        exact ih e.on this (by omega)⟩
      rw [h] at this; cases this
theorem flow_end {rs : List A} {D : Array Bool} (h : FlowI w0 C0 β0 s E ops rs D a w) (hall : ∀ i, i < ops.length → D.getD i false = true) : Inv w0 C0 β0 ⟨setAll (endG rs ops 0) s.t, s.bx, s.rw⟩ a w := by
  obtain ⟨C', h1, h2, h3⟩ := h.ex
  refine ⟨⟨C', E.β, E.ρ⟩, h2, ?_, h.defers⟩
  refine repL_of (by rw [setAll_len]; simpa using h.size) fun x b u g1 g2 => ?_
  rw [setAll_get, Option.map_eq_some_iff] at g1
  obtain ⟨a', g1, rfl⟩ := g1
  obtain ⟨k1, k2⟩ := h3 x a' u g1 g2
  obtain ⟨m1, m2⟩ := endG_mem (rs := rs) (l := ops) (n := 0)
  rcases lookG_cases (g := endG rs ops 0) (x := x) (a := a') with ⟨b, q1, q2⟩ | ⟨q1, q2⟩
  · rw [q2]
    obtain ⟨j, oj, p1, p2, rfl⟩ := m1 x b q1
    rw [Nat.zero_add]
    exact k1 j oj p1 p2 (hall j (List.getElem?_eq_some_iff.1 p1).1)
  · rw [q2]
    refine k2 fun j oj p1 p2 => ?_
    obtain ⟨b, hb⟩ := m2 j oj x p1 p2
    exact absurd hb (q1 b)
theorem flow_any {Q : Exit → Act → World → Prop} (hc : c.ok) (hf : FlowOk ops) {rs : List A} (hg : ∀ (j : Nat) (o : Oper), ops[j]? = some o → GoodAt c ops s rs j o) (hk : ∀ a' w', Inv w0 C0 β0 ⟨setAll (endG rs ops 0) s.t, s.bx, s.rw⟩ a' w' → Q .normal a' w') :
    ∀ (f : Nat) (D : Array Bool) (a : Act) (w : World), (unlisted ops.length D).length ≤ f → FlowI w0 C0 β0 s E ops rs D a w → wpAny c.P .any ops.toArray Q f D a w
  | 0, D, a, w, hl, h => by
    have hn : Region.ready .any ops.toArray D = [] := by
      rw [List.eq_nil_iff_forall_not_mem]
      intro i hi
      obtain ⟨h1, h2, -⟩ := ready_flow h.dsize hi
      have : i ∈ unlisted ops.length D := by unfold unlisted; rw [List.mem_filter]; exact ⟨List.mem_range.2 h1, by simp [h2]⟩
      have h3 : unlisted ops.length D = [] := List.eq_nil_of_length_eq_zero (by omega)
      rw [h3] at this; cases this
    exact ⟨hn, hk a w (flow_end h (none_ready hf h.dsize hn))⟩
  | f + 1, D, a, w, hl, h => by
    refine ⟨fun hn => hk a w (flow_end h (none_ready hf h.dsize hn)), fun i hi => ?_⟩
    obtain ⟨h1, h2, o, ho, hd⟩ := ready_flow h.dsize hi
    obtain ⟨C', q1, q2, q3⟩ := h.ex
    have hst := flow_state hf h ho h2 hd q3
    have hG := hg i o ho
    unfold GoodAt at hG
    unfold wpOp
    have ho' : ops.toArray[i]? = some o := by simpa using ho
    rw [ho']
    simp only
    have hlt := unlisted_set h1 h.dsize h2
    rcases want_ok hst hG with ⟨k1, k2⟩ | ⟨k1, k2⟩
    · rw [if_pos k1]
      left
      refine calm'_ok hc (s := ⟨setAll (flowG i o rs ops 0) s.t, s.bx, s.rw⟩) q2 hst k2 fun y w' ⟨⟨r, s', E', g1, g2, g3, g4, g5, g6, g7⟩⟩ => ?_
      obtain ⟨C'', p1, p2, p3⟩ := told_ok q2 g1 g3 g4 g5 g6
      exact flow_any hc hf hg hk f _ _ _ (by omega) (flow_put hf h ho h2 hd (q1.trans p1) p1 p2 p3 q3)
    · rw [if_neg (by rw [k1]; simp)]
      exact flow_any hc hf hg hk f _ _ _ (by omega) (flow_put hf h ho h2 hd q1 (Sub.refl _) q2 (by rw [k2]; exact rep_undef _) q3)
theorem flow_ok {id : Nat} {Q : Exit → Act → World → Prop} {K : S → Prop} (hc : c.ok) (hi : Inv w0 C0 β0 s a w) (hB : flowOk ops.toArray = true) (h : aflowR c ops s K) (hk : ∀ s' a' w', K s' → Inv w0 C0 β0 s' a' w' → Q .normal a' w') : (Code.region id ops.toArray true).wp c.P Q a w := by
  obtain ⟨E, hp, ht, hd⟩ := hi
  have hf := flowOk_iff hB
  obtain ⟨rs, k1, k2⟩ := aflow_all (c := c) (s := s) (ops := ops) hf (l := ops) (i := 0) (rs := []) (K := fun rs => setAllK (endG rs ops 0) s.t fun t => withT s t K) (by rw [List.drop_zero]) rfl h
  rw [List.nil_append, setAllK_iff, withT_iff] at k1
  rw [List.nil_append] at k2
  refine wp_region_noPanic (wp_region_any hc.m ?_)
  refine flow_any (Q := NoPanic Q) hc hf (fun j o ho => k2 j o (Nat.zero_le _) ho) (fun a' w' h' => hk _ a' w' k1 h') _ (Array.replicate ops.toArray.size false) _ _ ?_ (E := E) ⟨⟨E.C, Sub.refl _, drew_inv hp, fun x a' v h1 h2 => ⟨fun j oj _ _ hj => ?_, fun _ => ?_⟩⟩, by have := A.repL_len ht; simpa using this, hd, by simp, fun j oj _ hj => ?_⟩
  · unfold unlisted
    refine Nat.le_trans (List.length_filter_le _ _) (by simp)
  · exfalso
    simp only [Array.getD_eq_getD_getElem?, Array.getElem?_replicate] at hj
    split at hj <;> simp at hj
  · obtain ⟨u, hu, hr⟩ := A.repL_get ht h1
    rw [h2] at hu; cases hu
    exact hr
  · exfalso
    simp only [Array.getD_eq_getD_getElem?, Array.getElem?_replicate] at hj
    split at hj <;> simp at hj
end
/-- A region is walked as a flow. -/
def Tr.isFlow : Tr → Bool
  | .q _ m _ => Nat.beq m 7
  | _ => false
end Go.Proofs.YtinjgckpmblffaaDoor.Vm
