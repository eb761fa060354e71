/- A region that draws its order, as a tree: what computes or reads comes up in one order; where several others may come up, each is tried. -/
import Derived.Test.YtinjgckpmblffaaDoorSer
namespace Go.Proofs.YtinjgckpmblffaaDoor
open Go.RowKit
set_option linter.unusedSimpArgs false
set_option linter.unusedVariables false
inductive Tr where
  | nil
  | q (k m : Nat) (r : Tr)
  | alt (k m : Nat) (r o : Tr)
def Tr.isAlt : Tr → Bool
  | .alt _ _ _ _ => true
  | _ => false
def Tr.keys : Tr → List Nat
  | .alt k _ _ o => k :: o.keys
  | _ => []
def Tr.all2 : Tr → (Nat → Bool) → Bool
  | .nil, _ => true
  | .q _ _ r, p => r.all2 p
  | .alt k m r o, p => (m == 1 || p k) && r.all2 p && o.all2 p
def Tr.del (j : Nat) : Tr → Tr
  | .nil => .nil
  | .q k m r => if k = j then r else .q k m (r.del j)
  | .alt k _ r o => if k = j then r else o.del j
def Tr.loud2 (j : Nat) : Tr → Bool
  | .nil => false
  | .q k _ r => if k = j then false else r.loud2 j
  | .alt k m _ o => if k = j then m != 1 else o.loud2 j
def Tr.depth : Tr → Nat
  | .nil => 0
  | .q _ _ r => r.depth + 1
  | .alt _ _ r o => max (r.depth + 1) o.depth
def Tr.many : Tr → Bool
  | .nil => false
  | .q _ _ r => r.many
  | .alt _ _ r o => match o.isAlt with
    | true => true
    | false => r.many
section
variable {P : Program} {ops : Array Oper} {Q : Exit → Act → World → Prop} {md : Region.Mode} {S : World → Prop}
def wpT (P : Program) (ops : Array Oper) (Q : Exit → Act → World → Prop) (S : World → Prop) : Tr → Act → World → Prop
  | .nil, a, w => Q .normal a w
  | .q k 0 r, a, w => ∃ o v, ops[k]? = some o ∧ S w ∧ YieldsIf P ops S o v a ∧ wpT P ops Q S r (a.put o.dst v) w
  | .q k (_ + 1) r, a, w => ∃ o v, ops[k]? = some o ∧ YieldsIf P ops (fun _ => True) o v a ∧ wpT P ops Q S r (a.put o.dst v) w
  | .alt k m r o, a, w => (if m = 1 then wpOp P ops Q k (fun a' w' => S w' ∧ wpT P ops Q S r a' w') a w else wpOp P ops Q k (wpT P ops Q S r) a w) ∧ (o.isAlt = true → wpT P ops Q S o a w)
def serT (md : Region.Mode) (ops : Array Oper) : Bool → Tr → Array Bool → Bool
  | _, .nil, listed => (Region.ready md ops listed).isEmpty
  | _, .q k m r, listed => (Region.ready md ops listed).contains k && Region.free md ops listed k && (m != 0 || r.all2 (fun j => far md ops listed 3 j k)) && serT md ops true r (listed.setIfInBounds k true)
  | top, .alt k _ r o, listed => (!top || (Region.ready md ops listed).all (fun j => (k :: o.keys).contains j)) && (Region.ready md ops listed).contains k && serT md ops true r (listed.setIfInBounds k true) && (!o.isAlt || serT md ops false o listed)
theorem keys_alt {t : Tr} {j : Nat} (h : j ∈ t.keys) : t.isAlt = true := by cases t <;> simp [Tr.keys, Tr.isAlt] at h ⊢
theorem all2_mono {p p' : Nat → Bool} (h : ∀ j, p j = true → p' j = true) : ∀ {t : Tr}, t.all2 p = true → t.all2 p' = true
  | .nil, _ => rfl
  | .q _ _ r, ht => all2_mono h (t := r) ht
  | .alt k m r o, ht => by
    unfold Tr.all2 at ht ⊢
    simp only [Bool.and_eq_true, Bool.or_eq_true] at ht ⊢
    exact ⟨⟨ht.1.1.imp id (h k), all2_mono h ht.1.2⟩, all2_mono h ht.2⟩
theorem all2_del {p : Nat → Bool} {j : Nat} : ∀ {t : Tr}, t.all2 p = true → (t.del j).all2 p = true
  | .nil, _ => rfl
  | .q k m r, ht => by
    unfold Tr.del
    split
    · exact ht
    · unfold Tr.all2; exact all2_del (t := r) ht
  | .alt k m r o, ht => by
    unfold Tr.all2 at ht
    simp only [Bool.and_eq_true] at ht
    unfold Tr.del
    split
    · exact ht.1.2
    · exact all2_del ht.2
theorem loud2_all {p : Nat → Bool} {j : Nat} : ∀ {t : Tr}, t.all2 p = true → t.loud2 j = true → p j = true
  | .nil, _, h => by cases h
  | .q k m r, ht, h => by
    unfold Tr.loud2 at h
    split at h
    · cases h
    · exact loud2_all (t := r) ht h
  | .alt k m r o, ht, h => by
    unfold Tr.all2 at ht
    simp only [Bool.and_eq_true, Bool.or_eq_true] at ht
    unfold Tr.loud2 at h
    split at h
    · rename_i e
      subst e
      rcases ht.1.1 with h1 | h1
      · simp only [beq_iff_eq] at h1; subst h1; cases h
      · exact h1
    · exact loud2_all ht.2 h
theorem chain {a : Act} {w : World} {j : Nat} : ∀ {t : Tr}, wpT P ops Q S t a w → j ∈ t.keys → wpOp P ops Q j (fun a' w' => wpT P ops Q S (t.del j) a' w' ∧ (t.loud2 j = false → S w → S w')) a w
  | .nil, _, h => by cases h
  | .q _ _ _, _, h => by cases h
  | .alt k m r o, hw, h => by
    unfold wpT at hw
    unfold Tr.del Tr.loud2
    by_cases hk : k = j
    · subst hk
      simp only [if_pos]
      by_cases hm : m = 1
      · subst hm
        rw [if_pos rfl] at hw
        exact wpOp_mono (fun a' w' h => ⟨h.2, fun _ _ => h.1⟩) hw.1
      · rw [if_neg hm] at hw
        exact wpOp_mono (fun a' w' h => ⟨h, fun h2 => absurd h2 (by simp [hm])⟩) hw.1
    · simp only [if_neg hk]
      have h' : j ∈ o.keys := by
        unfold Tr.keys at h
        exact (List.mem_cons.1 h).resolve_left (fun e => hk e.symm)
      exact chain (hw.2 (keys_alt h')) h'
theorem serT_q {b : Bool} {k m : Nat} {r : Tr} {listed : Array Bool} (h : serT md ops b (.q k m r) listed = true) : k ∈ Region.ready md ops listed ∧ Region.free md ops listed k = true ∧ (m = 0 → r.all2 (fun j => far md ops listed 3 j k) = true) ∧ serT md ops true r (listed.setIfInBounds k true) = true := by
  unfold serT at h
  simp only [Bool.and_eq_true, Bool.or_eq_true] at h
  exact ⟨by simpa using h.1.1.1, h.1.1.2, fun e => h.1.2.resolve_left (by simp [e]), h.2⟩
theorem serT_keys {k m : Nat} {r o : Tr} {listed : Array Bool} (h : serT md ops true (.alt k m r o) listed = true) : ∀ j ∈ Region.ready md ops listed, j ∈ (Tr.alt k m r o).keys := by
  unfold serT at h
  simp only [Bool.and_eq_true, Bool.or_eq_true] at h
  have h1 := h.1.1.1.resolve_left (by simp)
  intro j hj
  have := List.all_eq_true.1 h1 j hj
  unfold Tr.keys
  simpa using this
theorem pullT (hsel : Region.noSelect ops = true) (hQ : ∀ c a d v w, Q (.panic c) (Act.put a d v) w → Q (.panic c) a w) : ∀ (t : Tr) (listed : Array Bool) (a : Act) (w : World), serT md ops true t listed = true → wpT P ops Q S t a w →
    ∀ j ∈ Region.ready md ops listed, wpOp P ops Q j (fun a' w' => wpT P ops Q S (t.del j) a' w' ∧ (t.loud2 j = false → S w → S w')) a w
  | .nil, listed, a, w, h, _, j, hj => by
    unfold serT at h
    rw [List.isEmpty_iff] at h
    rw [h] at hj; cases hj
  | .alt k m r o, listed, a, w, h, hw, j, hj => chain hw (serT_keys h j hj)
  | .q k m r, listed, a, w, h, hw, j, hj => by
    obtain ⟨h1, h2, h3, h4⟩ := serT_q h
    have hun := (mem_ready.1 h1).1
    unfold Tr.del Tr.loud2
    by_cases hjk : k = j
    · subst hjk
      simp only [if_pos]
      match m, hw with
      | 0, hw =>
        obtain ⟨o, v, ho, hS, hy, hr⟩ := hw
        exact hy.wpOp ho hS ⟨hr, fun _ hS => hS⟩
      | n + 1, hw =>
        obtain ⟨o, v, ho, hy, hr⟩ := hw
        exact hy.wpOp ho trivial ⟨hr, fun _ hS => hS⟩
    · simp only [if_neg hjk]
      have hjk' : j ≠ k := fun e => hjk e.symm
      obtain ⟨_, oj, hoj, _⟩ := mem_ready.1 hj
      have hj' := ready_mono (i := k) hj hjk'
      match m, h, h3, hw with
      | 0, h, h3, hw =>
        obtain ⟨o, v, ho, hS, hy, hr⟩ := hw
        have hap := Region.free_spec ho h2 j oj hoj hjk' (mem_ready.1 hj).1 (not_waits hj hun oj hoj)
        have ih := pullT hsel hQ r _ _ w h4 hr j hj'
        have hmode : r.loud2 j = false := by
          cases hl : r.loud2 j with
          | false => rfl
          | true =>
            have := loud2_all (h3 rfl) hl
            rw [far_no hun hj] at this; cases this
        refine wpOp_mono (fun a' w' h3 => ?_) (wpOp_putIf hoj hap (fun cs b => Region.noSelect_spec hsel _ _ cs b ho) (fun cs b => Region.noSelect_spec hsel _ _ cs b hoj) (fun c a w => hQ c a _ _ w) hy ih)
        exact ⟨⟨o, v, ho, h3.2.2 hmode hS, h3.1, h3.2.1⟩, fun _ hS => h3.2.2 hmode hS⟩
      | n + 1, h, h3, hw =>
        obtain ⟨o, v, ho, hy, hr⟩ := hw
        have hap := Region.free_spec ho h2 j oj hoj hjk' (mem_ready.1 hj).1 (not_waits hj hun oj hoj)
        have ih := pullT hsel hQ r _ _ w h4 hr j hj'
        refine wpOp_mono (fun a' w' h3 => ?_) (wpOp_putIf hoj hap (fun cs b => Region.noSelect_spec hsel _ _ cs b ho) (fun cs b => Region.noSelect_spec hsel _ _ cs b hoj) (fun c a w => hQ c a _ _ w) hy ih)
        exact ⟨⟨o, v, ho, h3.1, h3.2.1⟩, fun hm hS => h3.2.2 hm hS⟩
theorem serT_chain {j : Nat} {listed : Array Bool} : ∀ {b : Bool} {t : Tr}, serT md ops b t listed = true → j ∈ t.keys → serT md ops true (t.del j) (listed.setIfInBounds j true) = true ∧ (t.del j).depth < t.depth
  | _, .nil, _, h => by cases h
  | _, .q _ _ _, _, h => by cases h
  | b, .alt k m r o, hw, h => by
    unfold serT at hw
    simp only [Bool.and_eq_true, Bool.or_eq_true] at hw
    unfold Tr.del
    by_cases hk : k = j
    · subst hk
      rw [if_pos rfl]
      refine ⟨hw.1.2, ?_⟩
      have : (Tr.alt k m r o).depth = max (r.depth + 1) o.depth := rfl
      omega
    · rw [if_neg hk]
      have h' : j ∈ o.keys := by
        unfold Tr.keys at h
        exact (List.mem_cons.1 h).resolve_left (fun e => hk e.symm)
      have := serT_chain (hw.2.resolve_left (by rw [keys_alt h']; simp)) h'
      refine ⟨this.1, ?_⟩
      have h2 : (Tr.alt k m r o).depth = max (r.depth + 1) o.depth := rfl
      omega
theorem serT_pull : ∀ (t : Tr) (listed : Array Bool), serT md ops true t listed = true → ∀ j ∈ Region.ready md ops listed, serT md ops true (t.del j) (listed.setIfInBounds j true) = true ∧ (t.del j).depth < t.depth
  | .nil, listed, h, j, hj => by
    unfold serT at h
    rw [List.isEmpty_iff] at h
    rw [h] at hj; cases hj
  | .alt k m r o, listed, h, j, hj => serT_chain h (serT_keys h j hj)
  | .q k m r, listed, h, j, hj => by
    obtain ⟨h1, h2, h3, h4⟩ := serT_q h
    unfold Tr.del
    by_cases hjk : k = j
    · subst hjk
      rw [if_pos rfl]
      exact ⟨h4, Nat.lt_succ_self _⟩
    · rw [if_neg hjk]
      have hjk' : j ≠ k := fun e => hjk e.symm
      have ih := serT_pull r _ h4 j (ready_mono hj hjk')
      rw [Array.setIfInBounds_comm _ _ hjk] at ih
      have hr := ready_mono (i := j) h1 (fun e => hjk e)
      refine ⟨?_, Nat.succ_lt_succ ih.2⟩
      unfold serT
      simp only [Bool.and_eq_true, Bool.or_eq_true]
      refine ⟨⟨⟨by simpa using hr, free_mono h2⟩, ?_⟩, ih.1⟩
      by_cases hm : m = 0
      · exact .inr (all2_del (all2_mono (fun x hx => far_set (mem_ready.1 h1).1 hj hx) (h3 hm)))
      · exact .inl (by simpa using hm)
theorem wpAny_T (hsel : Region.noSelect ops = true) (hQ : ∀ c a d v w, Q (.panic c) (Act.put a d v) w → Q (.panic c) a w) : ∀ (f : Nat) (t : Tr) (listed : Array Bool) (a : Act) (w : World), t.depth ≤ f → serT md ops true t listed = true → wpT P ops Q S t a w →
    wpAny P md ops Q f listed a w
  | 0, .nil, listed, a, w, hl, h, hw => by
    unfold serT at h
    rw [List.isEmpty_iff] at h
    exact ⟨h, hw⟩
  | 0, .q k m r, listed, a, w, hl, h, hw => by have : (Tr.q k m r).depth = r.depth + 1 := rfl; omega
  | 0, .alt k m r o, listed, a, w, hl, h, hw => by have : (Tr.alt k m r o).depth = max (r.depth + 1) o.depth := rfl; omega
  | f + 1, t, listed, a, w, hl, h, hw => by
    refine ⟨fun h0 => ?_, fun j hj => ?_⟩
    · cases t with
      | nil => exact hw
      | q k m r => have := (serT_q h).1; rw [h0] at this; cases this
      | alt k m r o =>
        unfold serT at h
        simp only [Bool.and_eq_true] at h
        have := h.1.1.2
        rw [h0] at this; cases this
    · have hp := serT_pull t listed h j hj
      exact wpOp_mono (fun a' w' h3 => wpAny_T hsel hQ f _ _ a' w' (by omega) hp.1 h3.1) (pullT hsel hQ t listed a w h hw j hj)
def serOkT (ops : Array Oper) (t : Tr) : Bool := Region.noSelect ops && decide (t.depth ≤ ops.size) && serT .any ops true t (Array.replicate ops.size false)
/-- The tree serves every order. The region is shown not to panic. -/
theorem wp_region_T {id : Nat} {a : Act} {w : World} (S : World → Prop) (t : Tr) (hm : P.follows .mixedOrders = true) (hB : serOkT ops t = true)
    (hS : S w.drew) (h : S w.drew → wpT P ops (NoPanic Q) S t a w.drew) : (Code.region id ops true).wp P Q a w := by
  simp only [serOkT, Bool.and_eq_true, decide_eq_true_eq] at hB
  exact wp_region_noPanic (wp_region_any hm (wpAny_T hB.1.1 (fun _ _ _ _ _ h => h) _ t _ a _ hB.1.2 hB.2 (h hS)))
/-! ### The steps -/
variable {k m : Nat} {r o' : Tr} {a : Act} {w : World} {o : Oper}
theorem tr_pure (ho : ops[k]? = some o) (hw : Region.wanted o (yielded ops a.tmps) = true) (h : ∃ v, (∀ w, (execOp a.eval o).run P w = .ok (.value v) w) ∧ wpT P ops Q S r (a.put o.dst v) w) : wpT P ops Q S (.q k (m + 1) r) a w :=
  let ⟨v, hr, h⟩ := h
  ⟨o, v, ho, .inl ⟨hw, fun w _ => hr w⟩, h⟩
theorem tr_skip (ho : ops[k]? = some o) (hw : Region.wanted o (yielded ops a.tmps) = false) (h : wpT P ops Q S r (a.put o.dst undef) w) : wpT P ops Q S (.q k (m + 1) r) a w :=
  ⟨o, undef, ho, .inr ⟨hw, rfl⟩, h⟩
theorem tr_skip0 (ho : ops[k]? = some o) (hS : S w) (hw : Region.wanted o (yielded ops a.tmps) = false) (h : wpT P ops Q S r (a.put o.dst undef) w) : wpT P ops Q S (.q k 0 r) a w :=
  ⟨o, undef, ho, hS, .inr ⟨hw, rfl⟩, h⟩
theorem tr_load (ho : ops[k]? = some o) (hS : S w) (hw : Region.wanted o (yielded ops a.tmps) = true) (h : ∃ v, (∀ w, S w → (execOp a.eval o).run P w = .ok (.value v) w) ∧ wpT P ops Q S r (a.put o.dst v) w) : wpT P ops Q S (.q k 0 r) a w :=
  let ⟨v, hr, h⟩ := h
  ⟨o, v, ho, hS, .inl ⟨hw, hr⟩, h⟩
theorem tr_loud1 (ho : ops[k]? = some o) (h : ∀ K : Act → World → Prop, (∀ a' w', (S w' ∧ wpT P ops Q S r a' w') → K a' w') → if Region.wanted o (yielded ops a.tmps) = true then o.wp P a w K Q else K (a.put o.dst undef) w) (h2 : o'.isAlt = true → wpT P ops Q S o' a w) : wpT P ops Q S (.alt k 1 r o') a w := by
  unfold wpT
  rw [if_pos rfl]
  exact ⟨wpOp_step ho h, h2⟩
theorem tr_loud2 (hm : m ≠ 1) (ho : ops[k]? = some o) (h : ∀ K : Act → World → Prop, (∀ a' w', wpT P ops Q S r a' w' → K a' w') → if Region.wanted o (yielded ops a.tmps) = true then o.wp P a w K Q else K (a.put o.dst undef) w) (h2 : o'.isAlt = true → wpT P ops Q S o' a w) : wpT P ops Q S (.alt k m r o') a w := by
  unfold wpT
  rw [if_neg hm]
  exact ⟨wpOp_step ho h, h2⟩
end
end Go.Proofs.YtinjgckpmblffaaDoor
