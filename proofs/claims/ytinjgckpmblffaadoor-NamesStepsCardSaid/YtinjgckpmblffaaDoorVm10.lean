/- Append; building a struct. -/
import Derived.Test.YtinjgckpmblffaaDoorVm9
namespace Go.Proofs.YtinjgckpmblffaaDoor.Vm
open Go.RowKit
set_option linter.unusedSimpArgs false
set_option linter.unusedVariables false
def memB (g : Nat) : List Nat → Bool
  | [] => false
  | x :: r => match Nat.beq x g with | true => true | false => memB g r
theorem memB_iff {g : Nat} : ∀ {l : List Nat}, memB g l = true ↔ g ∈ l
  | [] => by simp [memB]
  | x :: r => by
    unfold memB
    cases h : Nat.beq x g with
    | true => simp [Nat.eq_of_beq_eq_true h]
    | false =>
      have : x ≠ g := fun e => by rw [e] at h; simp at h
      simp [memB_iff (l := r), Ne.symm this]
/-- Whoever still names the row does so no more. -/
def kill (g : Nat) (a : A) : A := match memB g (idsA a) with | true => .dead | false => a
def killK (g : Nat) : List A → (List A → Prop) → Prop
  | [], K => K []
  | a :: l, K => match memB g (idsA a) with
    | true => killK g l fun r => K (.dead :: r)
    | false => killK g l fun r => K (a :: r)
theorem killK_iff {g : Nat} : ∀ {l : List A} {K : List A → Prop}, killK g l K ↔ K (l.map (kill g))
  | [], K => by simp [killK]
  | a :: l, K => by
    unfold killK
    cases h : memB g (idsA a) <;> simp [killK_iff (l := l), kill, h]
def killLK (g : Nat) : List (List A) → (List (List A) → Prop) → Prop
  | [], K => K []
  | a :: l, K => killK g a fun a' => killLK g l fun r => K (a' :: r)
theorem killLK_iff {g : Nat} : ∀ {l : List (List A)} {K : List (List A) → Prop}, killLK g l K ↔ K (l.map fun c => c.map (kill g))
  | [], K => by simp [killLK]
  | a :: l, K => by
    unfold killLK
    rw [killK_iff, killLK_iff (l := l)]
    simp
mutual
theorem rep_set {E : Env} {g : Nat} {v : Value} : ∀ (a : A) {y : Value}, g ∉ idsA a → a.rep E y → a.rep ⟨E.C, E.β, E.ρ.set g v⟩ y
  | .dead, y, _, _ => A.rep_dead _ _
  | .v x, y, _, h => by unfold A.rep at h ⊢; exact h
  | .sl k n cs, y, _, h => by unfold A.rep at h ⊢; exact h
  | .pp cs, y, _, h => by unfold A.rep at h ⊢; exact h
  | .gp _ _, y, _, h => by unfold A.rep at h ⊢; exact h
  | .err, y, _, h => by unfold A.rep at h ⊢; exact h
  | .own g', y, hn, h => by
    unfold A.rep at h ⊢
    rw [List.getElem?_set_ne (fun e => hn (by simp [idsA, e]))]; exact h
  | .orow g' off, y, hn, h => by
    unfold A.rep at h ⊢
    obtain ⟨b, n, cap, h1, h2⟩ := h
    exact ⟨b, n, cap, by rw [List.getElem?_set_ne (fun e => hn (by simp [idsA, e]))]; exact h1, h2⟩
  | .box i off, y, _, h => by unfold A.rep at h ⊢; exact h
  | .clo f l, y, hn, h => by
    unfold A.rep at h ⊢
    obtain ⟨us, h1, h2⟩ := h
    exact ⟨us, h1, repL_set' l (by simpa [idsA] using hn) h2⟩
  | .agg l, y, hn, h => by
    unfold A.rep at h ⊢
    obtain ⟨us, h1, h2⟩ := h
    exact ⟨us, h1, A.repC_mk (repL_set' l (by simpa [idsA] using hn) (A.repC_L h2)) (A.repC_one h2)⟩
  | .tup l, y, hn, h => by
    unfold A.rep at h ⊢
    obtain ⟨us, h1, h2⟩ := h
    exact ⟨us, h1, repL_set' l (by simpa [idsA] using hn) h2⟩
theorem repL_set' {E : Env} {g : Nat} {v : Value} : ∀ (l : List A) {us : List Value}, g ∉ idsL l → A.repL l E us → A.repL l ⟨E.C, E.β, E.ρ.set g v⟩ us
  | [], us, _, h => by unfold A.repL at h ⊢; exact h
  | a :: r, us, hn, h => by
    unfold A.repL at h ⊢
    obtain ⟨u, us', h1, h2, h3⟩ := h
    simp only [idsL, List.mem_append, not_or] at hn
    exact ⟨u, us', h1, rep_set a hn.1 h2, repL_set' r hn.2 h3⟩
end
theorem kill_rep {E : Env} {g : Nat} {v : Value} {a : A} {y : Value} (h : a.rep E y) : (kill g a).rep ⟨E.C, E.β, E.ρ.set g v⟩ y := by
  unfold kill
  cases hm : memB g (idsA a) with
  | true => exact A.rep_dead _ _
  | false => exact rep_set a (fun hg => by rw [memB_iff.2 hg] at hm; cases hm) h
theorem kill_repL {E : Env} {g : Nat} {v : Value} : ∀ {l : List A} {us : List Value}, A.repL l E us → A.repL (l.map (kill g)) ⟨E.C, E.β, E.ρ.set g v⟩ us
  | [], us, h => by unfold A.repL at h; subst h; simp [A.repL]
  | a :: r, us, h => by
    unfold A.repL at h
    obtain ⟨u, us', rfl, h2, h3⟩ := h
    simp only [List.map_cons]
    unfold A.repL
    exact ⟨u, us', rfl, kill_rep h2, kill_repL h3⟩
/-- What is appended: so many elements, these cells. -/
def srcK (s : S) (k : Nat) (y : A) (K : Nat → List A → Prop) : Prop :=
  match y with
  | .sl k' m ds => match Nat.beq k' k with
    | true => K m ds
    | false => False
  | .own h => match s.rw[h]? with
    | some (.live _ k' m ds) => match Nat.beq k' k with
      | true => K m ds
      | false => False
    | some (.pub k' m ds) => match Nat.beq k' k with
      | true => K m ds
      | false => False
    | _ => False
  | .v (.slice none 0 0) => K 0 []
  | _ => False
def aappend (T : List (Nat × Te)) (s : S) (t t' : Nat) (x y : A) (K : A → S → Prop) : Prop :=
  match Nat.beq t t', Tab.get T t with
  | true, some ⟨.slice e, _, _⟩ => match Tab.get T e with
    | some ⟨_, z :: zs, b⟩ => srcK s (z :: zs).length y fun m ds => match x with
      | .own g => match s.rw[g]? with
        | some (.live e' k n cs) => match Nat.beq e' e, Nat.beq k (z :: zs).length with
          | true, true => (n + m ≤ maxLen ∧ (n + m) * b ≤ 140737488355328) ∧ setK s.rw g (.live e k (n + m) (cs ++ ds)) fun r => killK g s.t fun t => killLK g s.bx fun bx => K (.own g) ⟨t, bx, r⟩
          | _, _ => False
        | _ => False
      | .v (.slice none 0 0) => (m ≤ maxLen ∧ m * b ≤ 140737488355328) ∧ snocK s.rw .gone 0 fun _ r => snocK r (.live e (z :: zs).length m ds) 0 fun g' r' => withR s r' (K (.own g'))
      | _ => False
    | _ => False
  | _, _ => False
section
variable {P : Program} {T : List (Nat × Te)} {w0 w : World} {C0 : Rd} {β0 : List Nat} {s : S} {a : Act} {E : Env} {o : Oper}
/-- A row has been appended to, in its place. -/
theorem Hp.push' {bx : List (List A)} {rw : List Row} {w' : World} (h : Hp w0 C0 β0 bx rw w E) {g e k n m : Nat} {cs ds : List A} {y v' : Value} {xs : List Value} (hg : rw[g]? = some (.live e k n cs)) (hy : E.ρ[g]? = some y)
    (hown : w'.ownsRow w0.heap.size e k v' (n + m) xs) (hr : A.repC (cs ++ ds) E.per xs) (hgrow : w.grownBy w' y.ownBlock) (hw : v'.ownBlock = y.ownBlock ∨ v'.ownBlock = some w.heap.size) :
    Hp w0 C0 β0 (bx.map fun c => c.map (kill g)) (rw.set g (.live e k (n + m) (cs ++ ds))) w' ⟨E.C, E.β, E.ρ.set g v'⟩ := by
  obtain ⟨hp, -⟩ := h.push hg hy hown hr hgrow hw
  have hgl := (List.getElem?_eq_some_iff.1 hg).1
  have hgl2 : g < E.ρ.length := (List.getElem?_eq_some_iff.1 hy).1
  have hl := h.rl
  -- where a row of the one lies in the other
  have tr : ∀ (j : Nat) (r : Row) (z : Value), (rw.set g (.live e k (n + m) (cs ++ ds)))[j]? = some r → (E.ρ.set g v')[j]? = some z →
      ∃ j', (rw.set g .gone ++ [Row.live e k (n + m) (cs ++ ds)])[j']? = some r ∧ (E.ρ ++ [v'])[j']? = some z ∧ (j ≠ g → j' = j ∧ j < rw.length) ∧ (j = g → j' = rw.length) := fun j r z h1 h2 => by
    by_cases hj : g = j
    · subst hj
      rw [List.getElem?_set_self hgl] at h1
      rw [List.getElem?_set_self hgl2] at h2
      refine ⟨rw.length, ?_, ?_, fun h => absurd rfl h, fun _ => rfl⟩
      · rw [List.getElem?_append_right (by simp)]; simpa using h1
      · rw [List.getElem?_append_right (by omega), hl]; simpa using h2
    · rw [List.getElem?_set_ne hj] at h1 h2
      have hjl := (List.getElem?_eq_some_iff.1 h1).1
      refine ⟨j, ?_, ?_, fun _ => ⟨rfl, hjl⟩, fun e => absurd e.symm hj⟩
      · rw [List.getElem?_append_left (by simpa using hjl), List.getElem?_set_ne hj]; exact h1
      · rw [List.getElem?_append_left (by omega)]; exact h2
  refine ⟨hp.sub, hp.base, hp.fresh, hp.bp, hp.bnd, hp.bC, by simpa using hp.bl, fun i b cs' h1 h2 => ?_, by simp [hl], fun j r z h1 h2 => ?_, fun j e' k' n' cs' z b h1 h2 h3 => ?_, fun j e1 k1 n1 cs1 z j2 e2 k2 n2 cs2 z2 b hne h1 h2 h3 h4 h5 => ?_, fun j z h1 => ?_, hp.keep, hp.gk⟩
  · rw [List.getElem?_map, Option.map_eq_some_iff] at h2
    obtain ⟨c0, h2, rfl⟩ := h2
    obtain ⟨T', arr, h3, h4⟩ := h.bxs i b c0 h1 h2
    obtain ⟨T2, arr2, h5, _⟩ := hp.bxs i b c0 h1 h2
    have hb : w'.heap[b]? = w.heap[b]? := by
      refine hgrow.block b (h.blt (List.mem_iff_getElem?.2 ⟨i, h1⟩)) (fun e => ?_)
      exact (h.rC g _ _ _ _ y b hg hy e.symm).1 (List.mem_iff_getElem?.2 ⟨i, h1⟩)
    exact ⟨T', arr, hb.trans h3, A.repC_mk (kill_repL (A.repC_L h4)) (A.repC_one h4)⟩
  · obtain ⟨j', h3, h4, -⟩ := tr j r z h1 h2
    have := hp.rws j' r z h3 h4
    cases r with
    | live e k n cs => exact this
    | pub k n cs =>
      have h5 : (A.sl k n cs).rep _ z := this
      show (A.sl k n cs).rep _ z
      unfold A.rep at h5 ⊢; exact h5
    | gone => trivial
  · obtain ⟨j', h4, h5, -⟩ := tr j _ z h1 h2
    exact hp.rC j' e' k' n' cs' z b h4 h5 h3
  · obtain ⟨j', q1, q2, q3, q4⟩ := tr j _ z h1 h2
    obtain ⟨j2', p1, p2, p3, p4⟩ := tr j2 _ z2 h3 h4
    refine hp.rd j' e1 k1 n1 cs1 z j2' e2 k2 n2 cs2 z2 b (fun e => hne ?_) q1 q2 p1 p2 h5
    by_cases hj : j = g
    · by_cases hj2 : j2 = g
      · rw [hj, hj2]
      · have a1 := q4 hj
        have a2 := p3 hj2
        omega
    · by_cases hj2 : j2 = g
      · have a1 := q3 hj
        have a2 := p4 hj2
        omega
      · have a1 := q3 hj
        have a2 := p3 hj2
        omega
  · rcases List.getElem?_set .. ▸ h1 with h2
    by_cases hj : g = j
    · subst hj
      rw [List.getElem?_set_self hgl2] at h1
      cases h1
      exact own_slice hown
    · rw [List.getElem?_set_ne hj] at h1
      exact h.rs j z h1
theorem srcK_rep (hp : Hp w0 C0 β0 s.bx s.rw w E) {k : Nat} {y : A} {v : Value} {K : Nat → List A → Prop} (h : srcK s k y K) (hy : y.rep E v) :
    ∃ m ds p c news, K m ds ∧ v = .slice p m c ∧ (p = none → m = 0 ∧ c = 0) ∧ A.repC ds E.per news ∧ news.length = m * k ∧ ∀ a, p = some a → ∀ j u, news[j]? = some u → w.cell? (a.add j) = some u := by
  have ofsl : ∀ {m : Nat} {ds : List A}, (A.sl k m ds).rep E v → K m ds → ∃ m ds p c news, K m ds ∧ v = .slice p m c ∧ (p = none → m = 0 ∧ c = 0) ∧ A.repC ds E.per news ∧ news.length = m * k ∧ ∀ a, p = some a → ∀ j u, news[j]? = some u → w.cell? (a.add j) = some u := fun {m ds} hr hK => by
    obtain ⟨hl, hm, p, b, off, cap, hv, hc, hpn, hn, hat⟩ := sl_parts hr
    obtain ⟨us, h1, h2⟩ := A.repAt_vals hat
    refine ⟨m, ds, p, cap, us, hK, hv, fun e => ⟨by have := hn e; omega, hn e⟩, h1, by rw [A.repC_len h1, hl], fun a ha j u hu => ?_⟩
    rcases hpn with h0 | h0
    · have h3 := (List.getElem?_eq_some_iff.1 hu).1
      rw [A.repC_len h1, hl, h0] at h3
      simp at h3
    · rw [h0] at ha
      cases ha
      rw [add_blk]
      exact hp.sub _ _ (h2 j u hu)
  cases y with
  | sl k' m ds =>
    unfold srcK at h
    simp only at h
    split at h
    · rename_i hb
      obtain rfl := Nat.eq_of_beq_eq_true hb
      exact ofsl hy h
    · exact h.elim
  | own g =>
    unfold srcK at h
    simp only at h
    have hyg := hy
    unfold A.rep at hyg
    split at h
    · rename_i e k' m ds hg
      split at h
      · rename_i hb
        obtain rfl := Nat.eq_of_beq_eq_true hb
        obtain ⟨xs, hown, hr⟩ := hp.rws g _ _ hg hyg
        obtain ⟨h1, h2, h3⟩ := own_parts hown
        rcases h3 with ⟨rfl, rfl⟩ | ⟨b, cap, rfl, h4, h5⟩
        · have hx : xs = [] := List.eq_nil_of_length_eq_zero (by simpa using h1)
          subst hx
          exact ⟨0, ds, none, 0, [], h, rfl, fun _ => ⟨rfl, rfl⟩, hr, by simp, fun a ha => by cases ha⟩
        · refine ⟨m, ds, _, cap, xs, h, rfl, by simp, hr, h1, fun a ha j u hu => ?_⟩
          cases ha
          rw [add_blk, Nat.zero_add]
          exact h5 j u hu
      · exact h.elim
    · rename_i k' m ds hg
      split at h
      · rename_i hb
        obtain rfl := Nat.eq_of_beq_eq_true hb
        exact ofsl (hp.rws g _ _ hg hyg) h
      · exact h.elim
    · exact h.elim
  | v x =>
    have hv := (A.rep_v_iff.1 hy).1
    cases x with
    | slice p n c =>
      cases p with
      | none =>
        cases n with
        | zero =>
          cases c with
          | zero => exact ⟨0, [], none, 0, [], h, hv, fun _ => ⟨rfl, rfl⟩, by simp [A.repC], by simp, fun a ha => by cases ha⟩
          | succ c => exact h.elim
        | succ n => exact h.elim
      | some p => exact h.elim
    | _ => exact h.elim
  | _ => exact h.elim
theorem append_ok {args : Array Operand} {ts : Array TypeId} {x y : Operand} {t t' : TypeId} {K : A → S → Prop} {Kc : Act → World → Prop} {Q : Exit → Act → World → Prop} (hT : Tab.ok P T) (hp : Hp w0 C0 β0 s.bx s.rw w E) (ht : A.repL s.t E a.tmps.toList)
    (ha : args.toList = [x, y]) (hts : ts.toList = [t, t']) (ho : o.op = .call ⟨.builtin .append, args, ts⟩) (h : aappend T s t t' (ev s x) (ev s y) K)
    (hk : ∀ y w' r s' E', K r s' → A.repL s'.t E' a.tmps.toList → Hp w0 C0 β0 s'.bx s'.rw w' E' → r.rep E' y → Sub E.C E'.C → (∀ (i b : Nat), E.β[i]? = some b → E'.β[i]? = some b) → (∀ b ∈ E.β, w'.heap[b]? = w.heap[b]?) → w.heap.size ≤ w'.heap.size → Kc (a.put o.dst y) w') : o.wp P a w Kc Q := by
  obtain rfl : args = #[x, y] := by rw [← ha]
  obtain rfl : ts = #[t, t'] := by rw [← hts]
  unfold aappend at h
  split at h
  · rename_i e z b' hbt htab
    obtain rfl := Nat.eq_of_beq_eq_true hbt
    split at h
    · rename_i d z0 zs by' hel
      obtain ⟨m, ds, p, c, news, hK, hv, hp0, hr, hnl, hcell⟩ := srcK_rep hp h (ev_rep ht y)
      have hu := hT.slice htab
      obtain ⟨i, zv, d', hi1, hi2, hi3, hi4, hi5, hi6, hi7⟩ := hT.info hel
      have hzs : zv.cells.size = (z0 :: zs).length := by have := congrArg List.length hi5; simpa using this
      have h1 := A.repC_one hr
      split at hK
      · rename_i g hev
        split at hK
        · rename_i e' k n cs hg
          split at hK
          · rename_i hb1 hb2
            obtain rfl := Nat.eq_of_beq_eq_true hb1
            have hk2 := Nat.eq_of_beq_eq_true hb2
            subst hk2
            obtain ⟨⟨q1, q2⟩, hK⟩ := hK
            obtain ⟨q3, hK⟩ := setK_iff hK
            rw [killK_iff, killLK_iff] at hK
            have hx := ev_rep ht x
            rw [hev] at hx
            unfold A.rep at hx
            obtain ⟨xs, hown, hrx⟩ := hp.rws g _ _ hg hx
            refine wp_append_any (P := P) w x y t ho w0.heap.size e' i zv _ by' hu hi1 hi4 hi6 hi7 hzs (by simp) (a.eval x) n xs rfl hown p m c news hv hnl hp0 hcell h1 q1 q2 hp.keep.size ?_
            intro v' w' hown' hgrow hwh
            have hp' := hp.push' hg hx hown' (A.repC_append hrx hr) hgrow hwh
            have hown1 : ∀ b, (a.eval x).ownBlock = some b → b ∉ E.β := fun b hb => (hp.rC g _ _ _ _ _ b hg hx hb).1
            refine hk v' w' _ _ _ hK (kill_repL ht) hp' ?_ (Sub.refl _) (fun _ _ h => h) (fun b hb => hgrow.block b (hp.blt hb) (fun e => hown1 b e.symm hb)) hgrow.size
            unfold A.rep
            have := (List.getElem?_eq_some_iff.1 hx).1
            simp [this]
          · exact hK.elim
        · exact hK.elim
      · rename_i hev
        obtain ⟨⟨q1, q2⟩, hK⟩ := hK
        rw [snocK_iff, snocK_iff, withR_iff] at hK
        obtain ⟨hx, -⟩ := of_v ht hev
        obtain ⟨hp1, le1⟩ := hp.nilRow e (z0 :: zs).length
        have hg : (s.rw ++ [Row.live e (z0 :: zs).length 0 []])[s.rw.length]? = some (.live e (z0 :: zs).length 0 []) := by simp
        have hy1 : (E.ρ ++ [Value.slice none 0 0])[s.rw.length]? = some (.slice none 0 0) := by rw [hp.rl]; simp
        refine wp_append_any (P := P) w x y t ho w0.heap.size e i zv _ by' hu hi1 hi4 hi6 hi7 hzs (by simp) (a.eval x) 0 [] rfl (by rw [hx]; exact World.ownsRow_nil _ _ _ _) p m c news hv hnl hp0 hcell h1 (by omega) (by simpa using q2) hp.keep.size ?_
        intro v' w' hown' hgrow hwh
        rw [hx] at hgrow hwh
        rw [List.nil_append] at hown'
        obtain ⟨hp', le⟩ := hp1.push (ds := ds) hg hy1 hown' hr hgrow hwh
        refine hk v' w' _ ⟨s.t, s.bx, s.rw ++ [.gone] ++ [.live e (z0 :: zs).length m ds]⟩ _ hK (A.repL.mono _ (le1.trans le) ht) ?_ ?_ (le1.trans le).C (le1.trans le).β (fun b hb => hgrow.block b (hp.blt hb) (by simp [Value.ownBlock])) hgrow.size
        · have e1 : (s.rw ++ [Row.live e (z0 :: zs).length 0 []]).set s.rw.length .gone = s.rw ++ [.gone] := by
            rw [List.set_append_right _ _ (Nat.le_refl _)]; simp
          rw [e1] at hp'
          simpa using hp'
        · unfold A.rep
          have := hp.rl
          simp [this]
      · exact hK.elim
    · exact h.elim
  · exact h.elim
/-! ### Building a struct -/
def placesOf (T : List (Nat × Te)) : List (Nat × TypeId) → Option (List (Nat × Nat))
  | [] => some []
  | (o, u) :: r => match Tab.get T u with
    | some e => match placesOf T r with
      | some l => some ((o, e.z.length) :: l)
      | none => none
    | none => none
def abuild (T : List (Nat × Te)) (s : S) (t : Nat) (ps : List (Nat × Operand)) (K : A → Prop) : Prop :=
  match Tab.get T t with
  | some ⟨.struct fs, z, _⟩ => match placesOf T fs with
    | some pl => mapK constA z fun cs => fillK s (fun i => pl[i]?) ps cs fun cs' => K (.agg cs')
    | none => False
  | some ⟨.arr _ e, z, _⟩ => match Tab.get T e with
    | some el => mapK constA z fun cs => fillK s (fun i => some (i * el.z.length, el.z.length)) ps cs fun cs' => K (.agg cs')
    | none => False
  | _ => False
theorem places_ok (hT : Tab.ok P T) : ∀ {f : List Field} {pl : List (Nat × Nat)}, placesOf T (f.map fun x => (x.offset, x.type)) = some pl → f.mapM (fun f => (P.info? f.type).map fun i => (f.offset, i.size)) = some pl
  | [], pl, h => by simp [placesOf] at h; subst h; simp
  | x :: f, pl, h => by
    simp only [List.map_cons, placesOf] at h
    split at h
    · rename_i e he
      split at h
      · rename_i l hl
        cases h
        obtain ⟨i, z, d, h1, h2, h3, h4, h5, h6, h7⟩ := hT.info he
        have ih := places_ok hT hl
        simp only [List.mapM_cons, Option.bind_eq_bind, Option.pure_def, h1, ih, Option.map_some, Option.bind_some, h6]
      · cases h
    · cases h
theorem build_ok {t : Nat} {ps : Array (Nat × Operand)} {K : A → Prop} (hT : Tab.ok P T) (hz : zeroOk T) (hp : Hp w0 C0 β0 s.bx s.rw w E) (ht : A.repL s.t E a.tmps.toList) (ho : o.op = .build t ps) (h : abuild T s t ps.toList K) : Gives P a o E K := by
  have run : ∀ arr', P.built t (ps.toList.map fun x => (x.1, a.eval x.2)) = some arr' → ∀ w', (execOp a.eval o).run P w' = .ok (.value (.agg arr')) w' := fun arr' h1 w' => by
    have e := run_build (P := P) w' t (ps.map fun x => (x.1, a.eval x.2)) arr' (by rw [Array.toList_map]; exact h1)
    simp [execOp, ho, e, Result.andThen]
  unfold abuild at h
  split at h
  · rename_i fs z b' htab
    split at h
    · rename_i pl hpl
      rw [mapK_iff] at h
      obtain ⟨i, zv, d, h1, h2, h3, h4, h5, h6, h7⟩ := hT.info htab
      obtain ⟨f, hu, hf⟩ := hT.struct htab
      have hr0 := zero_cells h5 (hz t _ htab) E
      obtain ⟨cs', arr', k1, k2, k3, -⟩ := fillK_rep hp ht h hr0
      refine ⟨_, .agg arr', k1, (by unfold A.rep; exact ⟨_, rfl, k3⟩), run arr' ?_⟩
      have hm := places_ok hT (f := f.toList) (by rw [hf]; exact hpl)
      have e : (fun x : Nat => pl.toArray[x]?) = fun i => pl[i]? := by funext i; simp
      simp only [Program.built, h1, hu, h4, hm, e]
      exact k2
    · exact h.elim
  · rename_i n e z b' htab
    split at h
    · rename_i el hel
      rw [mapK_iff] at h
      obtain ⟨i, zv, d, h1, h2, h3, h4, h5, h6, h7⟩ := hT.info htab
      obtain ⟨i2, zv2, d2, g1, g2, g3, g4, g5, g6, g7⟩ := hT.info hel
      have hu := hT.arr htab
      have hr0 := zero_cells h5 (hz t _ htab) E
      obtain ⟨cs', arr', k1, k2, k3, -⟩ := fillK_rep hp ht h hr0
      refine ⟨_, .agg arr', k1, (by unfold A.rep; exact ⟨_, rfl, k3⟩), run arr' ?_⟩
      simp only [Program.built, h1, hu, h4, g1, g6]
      exact k2
    · exact h.elim
  · exact h.elim
end
end Go.Proofs.YtinjgckpmblffaaDoor.Vm
