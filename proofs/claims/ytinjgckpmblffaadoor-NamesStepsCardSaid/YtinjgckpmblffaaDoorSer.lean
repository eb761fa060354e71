/- A region that draws its order: ONE serial walk serves every order. Each operation has a mode: 3: it computes (whatever the world); 0: it reads what S says; 1: it may change the world, and S holds behind it; 2: it may change the world, and everything that it could overtake has come up. -/
import Derived.Test.YtinjgckpmblffaaDoorBase
import Derived.OrdersHeld
import Derived.StillTail
import Derived.RegionTactic
import Derived.Deep.RegionHeld3
namespace Go.Proofs.YtinjgckpmblffaaDoor
open Go.RowKit
set_option linter.unusedSimpArgs false
set_option linter.unusedVariables false
section
variable {P : Program} {ops : Array Oper} {Q : Exit → Act → World → Prop} {md : Region.Mode} {S : World → Prop}

def wpS (P : Program) (ops : Array Oper) (Q : Exit → Act → World → Prop) (S : World → Prop) : List (Nat × Nat) → Act → World → Prop
  | [], a, w => Q .normal a w
  | (k, 0) :: rest, a, w => ∃ o v, ops[k]? = some o ∧ S w ∧ YieldsIf P ops S o v a ∧ wpS P ops Q S rest (a.put o.dst v) w
  | (k, 1) :: rest, a, w => wpOp P ops Q k (fun a' w' => S w' ∧ wpS P ops Q S rest a' w') a w
  | (k, 2) :: rest, a, w => wpOp P ops Q k (wpS P ops Q S rest) a w
  | (k, _ + 3) :: rest, a, w => ∃ o v, ops[k]? = some o ∧ YieldsIf P ops (fun _ => True) o v a ∧ wpS P ops Q S rest (a.put o.dst v) w

/-- j waits for k, or for something not yet come up that does. -/
def far (md : Region.Mode) (ops : Array Oper) (listed : Array Bool) : Nat → Nat → Nat → Bool
  | 0, j, k => Region.waitsFor md ops j k
  | n + 1, j, k => Region.waitsFor md ops j k || (List.range ops.size).any (fun i => !(listed.getD i true) && Region.waitsFor md ops j i && far md ops listed n i k)

def serB (md : Region.Mode) (ops : Array Oper) : List (Nat × Nat) → Array Bool → Bool
  | [], listed => (Region.ready md ops listed).isEmpty
  | (k, m) :: rest, listed =>
    (Region.ready md ops listed).contains k &&
    (match m with
     | 0 => Region.free md ops listed k && rest.all (fun x => x.2 != 2 || far md ops listed 3 x.1 k)
     | 1 | 2 => Region.ready md ops listed == [k]
     | _ + 3 => Region.free md ops listed k) &&
    serB md ops rest (listed.setIfInBounds k true)

theorem serB_head {k m : Nat} {rest : List (Nat × Nat)} {listed : Array Bool} (h : serB md ops ((k, m) :: rest) listed = true) :
    k ∈ Region.ready md ops listed ∧ serB md ops rest (listed.setIfInBounds k true) = true := by
  simp only [serB, Bool.and_eq_true] at h
  exact ⟨by simpa using h.1.1, h.2⟩
theorem serB_free {k m : Nat} {rest : List (Nat × Nat)} {listed : Array Bool} (h : serB md ops ((k, m) :: rest) listed = true) (hm : m = 0 ∨ 3 ≤ m) : Region.free md ops listed k = true := by
  simp only [serB, Bool.and_eq_true] at h
  rcases hm with rfl | hm
  · have h2 : Region.free md ops listed k = true ∧ rest.all (fun x => x.2 != 2 || far md ops listed 3 x.1 k) = true := by simpa using h.1.2
    exact h2.1
  · obtain ⟨n, rfl⟩ : ∃ n, m = n + 3 := ⟨m - 3, by omega⟩
    simpa using h.1.2
theorem serB_loud {k m : Nat} {rest : List (Nat × Nat)} {listed : Array Bool} (h : serB md ops ((k, m) :: rest) listed = true) (hm : m = 1 ∨ m = 2) : Region.ready md ops listed = [k] := by
  simp only [serB, Bool.and_eq_true] at h
  rcases hm with rfl | rfl <;> simpa using h.1.2
theorem serB_zero {k : Nat} {rest : List (Nat × Nat)} {listed : Array Bool} (h : serB md ops ((k, 0) :: rest) listed = true) (j : Nat) (hj : (j, 2) ∈ rest) : far md ops listed 3 j k = true := by
  simp only [serB, Bool.and_eq_true] at h
  have h2 : Region.free md ops listed k = true ∧ rest.all (fun x => x.2 != 2 || far md ops listed 3 x.1 k) = true := h.1.2
  have := List.all_eq_true.1 h2.2 _ hj
  simpa using this
theorem serB_mem : ∀ (l : List (Nat × Nat)) (listed : Array Bool), serB md ops l listed = true → ∀ j ∈ Region.ready md ops listed, ∃ m, (j, m) ∈ l
  | [], listed, h, j, hj => by
    simp only [serB, List.isEmpty_iff] at h
    rw [h] at hj; cases hj
  | (k, m) :: rest, listed, h, j, hj => by
    by_cases hjk : j = k
    · exact ⟨m, by simp [hjk]⟩
    · obtain ⟨m', hm'⟩ := serB_mem rest _ (serB_head h).2 j (ready_mono hj hjk)
      exact ⟨m', List.mem_cons_of_mem _ hm'⟩
theorem serB_not : ∀ (l : List (Nat × Nat)) (listed : Array Bool), serB md ops l listed = true → ∀ k, listed.getD k true = true → ∀ x ∈ l, x.1 ≠ k
  | [], _, _, _, _, x, hx => by cases hx
  | (j, m) :: rest, listed, h, k, hk, x, hx => by
    obtain ⟨h1, h2⟩ := serB_head h
    have hjk : j ≠ k := fun e => by
      have := (mem_ready.1 h1).1
      rw [e, hk] at this; cases this
    rcases List.mem_cons.1 hx with rfl | hx
    · exact hjk
    · refine serB_not rest _ h2 k ?_ x hx
      rw [getD_set_ne true hjk]; exact hk
theorem set_in {listed : Array Bool} {k : Nat} (h : listed.getD k true = false) : (listed.setIfInBounds k true).getD k true = true := by
  rcases Nat.lt_or_ge k listed.size with h' | h'
  · simp [h']
  · simp [Array.getElem?_eq_none h'] at h
theorem filter_head {k m : Nat} {rest : List (Nat × Nat)} {listed : Array Bool} (h : serB md ops ((k, m) :: rest) listed = true) : ((k, m) :: rest).filter (fun x => x.1 != k) = rest := by
  obtain ⟨h1, h2⟩ := serB_head h
  have := serB_not rest _ h2 k (set_in (mem_ready.1 h1).1)
  rw [List.filter_cons_of_neg (by simp), List.filter_eq_self]
  intro x hx
  simpa using this x hx
theorem filter_other {k m j : Nat} {rest : List (Nat × Nat)} (h : j ≠ k) : ((k, m) :: rest).filter (fun x => x.1 != j) = (k, m) :: rest.filter (fun x => x.1 != j) := by
  rw [List.filter_cons_of_pos (by simpa using (Ne.symm h))]
theorem not_waits {j k : Nat} {listed : Array Bool} (hj : j ∈ Region.ready md ops listed) (hk : listed.getD k true = false) : ∀ oj, ops[j]? = some oj → ∀ e ∈ oj.after, Region.binds md e = true → e.on ≠ k := fun oj hoj e he hb heq => by
  obtain ⟨_, o, ho, hall⟩ := mem_ready.1 hj
  have : o = oj := Option.some.inj (ho.symm.trans hoj)
  subst this
  have h1 := hall e he hb
  rw [heq, getD_both hk] at h1
  cases h1
theorem not_waitsFor {j k : Nat} {listed : Array Bool} (hj : j ∈ Region.ready md ops listed) (hk : listed.getD k true = false) : Region.waitsFor md ops j k = false := by
  cases h : Region.waitsFor md ops j k with
  | false => rfl
  | true =>
    obtain ⟨oj, hoj, e, he, hb, hon⟩ := Region.waitsFor_spec h
    exact absurd hon (not_waits hj hk oj hoj e he hb)
theorem far_no {listed : Array Bool} {k : Nat} (hk : listed.getD k true = false) : ∀ {n j : Nat}, j ∈ Region.ready md ops listed → far md ops listed n j k = false
  | 0, j, hj => by unfold far; exact not_waitsFor hj hk
  | n + 1, j, hj => by
    unfold far
    rw [not_waitsFor hj hk, Bool.false_or, List.any_eq_false]
    intro i _ hi
    simp only [Bool.and_eq_true, Bool.not_eq_true'] at hi
    rw [not_waitsFor hj hi.1.1] at hi
    cases hi.1.2
theorem far_set {listed : Array Bool} {k j : Nat} (hk : listed.getD k true = false) (hj : j ∈ Region.ready md ops listed) : ∀ {n x : Nat}, far md ops listed n x k = true → far md ops (listed.setIfInBounds j true) n x k = true
  | 0, x, h => h
  | n + 1, x, h => by
    unfold far at h ⊢
    rw [Bool.or_eq_true] at h ⊢
    rcases h with h | h
    · exact .inl h
    · right
      obtain ⟨i, hi, h⟩ := List.any_eq_true.1 h
      simp only [Bool.and_eq_true, Bool.not_eq_true'] at h
      refine List.any_eq_true.2 ⟨i, hi, ?_⟩
      simp only [Bool.and_eq_true, Bool.not_eq_true']
      have hij : j ≠ i := fun e => by
        subst e
        rw [far_no hk hj] at h
        cases h.2
      exact ⟨⟨by rw [getD_set_ne true hij]; exact h.1.1, h.1.2⟩, far_set hk hj h.2⟩
/-- Whatever may come up may be taken out of the serial walk. -/
theorem pull (hsel : Region.noSelect ops = true) (hQ : ∀ c a d v w, Q (.panic c) (Act.put a d v) w → Q (.panic c) a w) : ∀ (l : List (Nat × Nat)) (listed : Array Bool) (a : Act) (w : World), serB md ops l listed = true → wpS P ops Q S l a w →
    ∀ j ∈ Region.ready md ops listed, wpOp P ops Q j (fun a' w' => wpS P ops Q S (l.filter (fun x => x.1 != j)) a' w' ∧ ((∀ m, (j, m) ∈ l → m ≠ 2) → S w → S w')) a w
  | [], listed, a, w, h, _, j, hj => by
    simp only [serB, List.isEmpty_iff] at h
    rw [h] at hj; cases hj
  | (k, m) :: rest, listed, a, w, h, hw, j, hj => by
    obtain ⟨h1, h2⟩ := serB_head h
    have hun := (mem_ready.1 h1).1
    by_cases hjk : j = k
    · subst hjk
      rw [filter_head h]
      match m, h, hw with
      | 0, _, hw =>
        obtain ⟨o, v, ho, hS, hy, hr⟩ := hw
        exact hy.wpOp ho hS ⟨hr, fun _ hS => hS⟩
      | 1, _, hw => exact wpOp_mono (fun a' w' h => ⟨h.2, fun _ _ => h.1⟩) hw
      | 2, _, hw => exact wpOp_mono (fun a' w' h => ⟨h, fun h2 _ => absurd rfl (h2 2 (by simp))⟩) hw
      | n + 3, _, hw =>
        obtain ⟨o, v, ho, hy, hr⟩ := hw
        exact hy.wpOp ho trivial ⟨hr, fun _ hS => hS⟩
    · rw [filter_other hjk]
      obtain ⟨_, oj, hoj, _⟩ := mem_ready.1 hj
      have hj' := ready_mono (i := k) hj hjk
      match m, h, hw with
      | 1, h, _ => rw [serB_loud h (.inl rfl)] at hj; exact absurd (by simpa using hj) hjk
      | 2, h, _ => rw [serB_loud h (.inr rfl)] at hj; exact absurd (by simpa using hj) hjk
      | 0, h, hw =>
        obtain ⟨o, v, ho, hS, hy, hr⟩ := hw
        have hap := Region.free_spec ho (serB_free h (.inl rfl)) j oj hoj hjk (mem_ready.1 hj).1 (not_waits hj hun oj hoj)
        have ih := pull hsel hQ rest _ _ w h2 hr j hj'
        have hmode : ∀ m, (j, m) ∈ rest → m ≠ 2 := fun m hm e => by
          subst e
          have := serB_zero h j hm
          rw [far_no hun hj] at this; cases this
        refine wpOp_mono (fun a' w' h3 => ?_) (wpOp_putIf hoj hap (fun cs b => Region.noSelect_spec hsel _ _ cs b ho) (fun cs b => Region.noSelect_spec hsel _ _ cs b hoj) (fun c a w => hQ c a _ _ w) hy ih)
        exact ⟨⟨o, v, ho, h3.2.2 hmode hS, h3.1, h3.2.1⟩, fun hm hS => h3.2.2 hmode hS⟩
      | n + 3, h, hw =>
        obtain ⟨o, v, ho, hy, hr⟩ := hw
        have hap := Region.free_spec ho (serB_free h (.inr (by omega))) j oj hoj hjk (mem_ready.1 hj).1 (not_waits hj hun oj hoj)
        have ih := pull hsel hQ rest _ _ w h2 hr j hj'
        refine wpOp_mono (fun a' w' h3 => ?_) (wpOp_putIf hoj hap (fun cs b => Region.noSelect_spec hsel _ _ cs b ho) (fun cs b => Region.noSelect_spec hsel _ _ cs b hoj) (fun c a w => hQ c a _ _ w) hy ih)
        exact ⟨⟨o, v, ho, h3.1, h3.2.1⟩, fun hm hS => h3.2.2 (fun m hm' => hm m (List.mem_cons_of_mem _ hm')) hS⟩
theorem free_mono {k j : Nat} {listed : Array Bool} (h : Region.free md ops listed k = true) : Region.free md ops (listed.setIfInBounds j true) k = true := by
  unfold Region.free at h ⊢
  cases hk : ops[k]? with
  | none => rw [hk] at h; exact h
  | some o =>
    simp only [hk, List.all_eq_true, List.mem_range, Bool.or_eq_true] at h ⊢
    intro i hi
    rcases h i hi with (h1 | h1) | h1
    · exact .inl (.inl h1)
    · refine .inl (.inr ?_)
      by_cases hij : j = i
      · subst hij
        rcases Nat.lt_or_ge j listed.size with h' | h'
        · simp [h']
        · simp [Array.getElem?_eq_none (show (listed.setIfInBounds j true).size ≤ j by simpa using h')]
      · rw [getD_set_ne true hij]; exact h1
    · exact .inr h1
theorem serB_pull : ∀ (l : List (Nat × Nat)) (listed : Array Bool), serB md ops l listed = true → ∀ j ∈ Region.ready md ops listed, serB md ops (l.filter (fun x => x.1 != j)) (listed.setIfInBounds j true) = true
  | [], listed, h, j, hj => by
    simp only [serB, List.isEmpty_iff] at h
    rw [h] at hj; cases hj
  | (k, m) :: rest, listed, h, j, hj => by
    obtain ⟨h1, h2⟩ := serB_head h
    by_cases hjk : j = k
    · subst hjk
      rw [filter_head h]; exact h2
    · rw [filter_other hjk]
      have ih := serB_pull rest _ h2 j (ready_mono hj hjk)
      rw [Array.setIfInBounds_comm _ _ (Ne.symm hjk)] at ih
      have hr := ready_mono (i := j) h1 (Ne.symm hjk)
      match m, h with
      | 1, h => rw [serB_loud h (.inl rfl)] at hj; exact absurd (by simpa using hj) hjk
      | 2, h => rw [serB_loud h (.inr rfl)] at hj; exact absurd (by simpa using hj) hjk
      | 0, h =>
        simp only [serB, Bool.and_eq_true]
        refine ⟨⟨by simpa using hr, free_mono (serB_free h (.inl rfl)), ?_⟩, ih⟩
        rw [List.all_eq_true]
        rintro ⟨i, mi⟩ hx
        have hx' := (List.mem_filter.1 hx).1
        by_cases hmi : mi = 2
        · subst hmi
          simpa using far_set (mem_ready.1 h1).1 hj (serB_zero h i hx')
        · simp [hmi]
      | n + 3, h =>
        simp only [serB, Bool.and_eq_true]
        exact ⟨⟨by simpa using hr, free_mono (serB_free h (.inr (by omega)))⟩, ih⟩
theorem wpAny_ser (hsel : Region.noSelect ops = true) (hQ : ∀ c a d v w, Q (.panic c) (Act.put a d v) w → Q (.panic c) a w) : ∀ (f : Nat) (l : List (Nat × Nat)) (listed : Array Bool) (a : Act) (w : World), l.length ≤ f → serB md ops l listed = true → wpS P ops Q S l a w →
    wpAny P md ops Q f listed a w
  | 0, l, listed, a, w, hl, h, hw => by
    have : l = [] := List.eq_nil_of_length_eq_zero (by omega)
    subst this
    simp only [serB, List.isEmpty_iff] at h
    exact ⟨h, hw⟩
  | f + 1, l, listed, a, w, hl, h, hw => by
    refine ⟨fun h0 => ?_, fun j hj => ?_⟩
    · cases l with
      | nil => exact hw
      | cons x rest => have := (serB_head h).1; rw [h0] at this; cases this
    · refine wpOp_mono (fun a' w' h3 => wpAny_ser hsel hQ f _ _ a' w' ?_ (serB_pull l listed h j hj) h3.1) (pull hsel hQ l listed a w h hw j hj)
      obtain ⟨m, hm⟩ := serB_mem l listed h j hj
      have : (l.filter (fun x => x.1 != j)).length < l.length := by
        exact List.length_filter_lt_length_iff_exists.2 ⟨(j, m), hm, by simp⟩
      omega
def serOk (ops : Array Oper) (l : List (Nat × Nat)) : Bool := Region.noSelect ops && decide (l.length ≤ ops.size) && serB .any ops l (Array.replicate ops.size false)
/-- One serial walk serves every order. The region is shown not to panic. -/
theorem wp_region_ser {id : Nat} {a : Act} {w : World} (S : World → Prop) (l : List (Nat × Nat)) (hm : P.follows .mixedOrders = true) (hB : serOk ops l = true)
    (hS : S w.drew) (h : S w.drew → wpS P ops (NoPanic Q) S l a w.drew) : (Code.region id ops true).wp P Q a w := by
  simp only [serOk, Bool.and_eq_true, decide_eq_true_eq] at hB
  exact wp_region_noPanic (wp_region_any hm (wpAny_ser hB.1.1 (fun _ _ _ _ _ h => h) _ l _ a _ hB.1.2 hB.2 (h hS)))
theorem and_held {p q : Prop} (hp : p) (h : p → q) : p ∧ q := ⟨hp, h hp⟩
/-- An append, as one operation. -/
theorem wp_append_any {P : Program} (w : World) {o : Oper} {a : Act} {K : Act → World → Prop} {Q : Exit → Act → World → Prop} (s x : Operand) (t : TypeId)
    (ho : o.op = .call { callee := .builtin .append, args := #[s, x], argTypes := #[t, t] })
    (base : Nat) (e : TypeId) (i : TypeInfo) (z : Value) (size bytes : Nat) (ht : P.underlying t = some (.slice e)) (hi : P.info? e = some i) (hz : i.zero = some z)
    (hsize : i.size = size) (hby : i.bytes = bytes) (hzs : z.cells.size = size) (hsz : 0 < size)
    (v : Value) (n : Nat) (xs : List Value) (hs : a.eval s = v) (hown : w.ownsRow base e size v n xs)
    (p : Option Addr) (m c : Nat) (news : List Value) (hx : a.eval x = .slice p m c) (hl : news.length = m * size) (hp : p = none → m = 0 ∧ c = 0) (hnews : ∀ a, p = some a → ∀ j u, news[j]? = some u → w.cell? (a.add j) = some u) (h1 : ∀ u ∈ news, u.oneCell' = true)
    (h63 : n + m ≤ maxLen) (hbytes : (n + m) * bytes ≤ 140737488355328) (hbase : base ≤ w.heap.size)
    (h : ∀ v' w', w'.ownsRow base e size v' (n + m) (xs ++ news) → w.grownBy w' v.ownBlock → (v'.ownBlock = v.ownBlock ∨ v'.ownBlock = some w.heap.size) → K (a.put o.dst v') w') : o.wp P a w K Q := by
  obtain ⟨v', w', hrun, hown', hgrow, hwhere⟩ := run_append_any (P := P) w base t o.type e i z size bytes ht hi hz hsize hby hzs hsz v n xs hown p m c news hl hp hnews h1 h63 hbytes hbase
  unfold Oper.wp
  simp [execOp, ho, resolve, invoke, builtin, hs, hx, hrun, Result.andThen]
  exact h v' w' hown' hgrow hwhere
/-! ### The steps -/
variable {k n : Nat} {rest : List (Nat × Nat)} {a : Act} {w : World} {o : Oper}
theorem ser_nil (h : Q .normal a w) : wpS P ops (NoPanic Q) S [] a w := h
theorem ser_pure (ho : ops[k]? = some o) (hw : Region.wanted o (yielded ops a.tmps) = true) (h : ∃ v, (∀ w, (execOp a.eval o).run P w = .ok (.value v) w) ∧ wpS P ops Q S rest (a.put o.dst v) w) : wpS P ops Q S ((k, 3) :: rest) a w :=
  let ⟨v, hr, h⟩ := h
  ⟨o, v, ho, .inl ⟨hw, fun w _ => hr w⟩, h⟩
theorem ser_skip (ho : ops[k]? = some o) (hw : Region.wanted o (yielded ops a.tmps) = false) (h : wpS P ops Q S rest (a.put o.dst undef) w) : wpS P ops Q S ((k, 3) :: rest) a w :=
  ⟨o, undef, ho, .inr ⟨hw, rfl⟩, h⟩
theorem ser_skip0 (ho : ops[k]? = some o) (hS : S w) (hw : Region.wanted o (yielded ops a.tmps) = false) (h : S w → wpS P ops Q S rest (a.put o.dst undef) w) : wpS P ops Q S ((k, 0) :: rest) a w :=
  ⟨o, undef, ho, hS, .inr ⟨hw, rfl⟩, h hS⟩
theorem ser_load (ho : ops[k]? = some o) (hS : S w) (hw : Region.wanted o (yielded ops a.tmps) = true) (h : ∃ v, (∀ w, S w → (execOp a.eval o).run P w = .ok (.value v) w) ∧ wpS P ops Q S rest (a.put o.dst v) w) : wpS P ops Q S ((k, 0) :: rest) a w :=
  let ⟨v, hr, h⟩ := h
  ⟨o, v, ho, hS, .inl ⟨hw, hr⟩, h⟩
theorem ser_loud1 (ho : ops[k]? = some o) (h : ∀ K : Act → World → Prop, (∀ a' w', (S w' ∧ wpS P ops Q S rest a' w') → K a' w') → if Region.wanted o (yielded ops a.tmps) = true then o.wp P a w K Q else K (a.put o.dst undef) w) : wpS P ops Q S ((k, 1) :: rest) a w :=
  wpOp_step ho h
theorem ser_loud2 (ho : ops[k]? = some o) (h : ∀ K : Act → World → Prop, (∀ a' w', wpS P ops Q S rest a' w' → K a' w') → if Region.wanted o (yielded ops a.tmps) = true then o.wp P a w K Q else K (a.put o.dst undef) w) : wpS P ops Q S ((k, 2) :: rest) a w :=
  wpOp_step ho h
end
end Go.Proofs.YtinjgckpmblffaaDoor
