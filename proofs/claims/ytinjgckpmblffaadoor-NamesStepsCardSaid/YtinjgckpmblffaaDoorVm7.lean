/- Calls; the operations that make memory. -/
import Derived.Test.YtinjgckpmblffaaDoorVm6
namespace Go.Proofs.YtinjgckpmblffaaDoor.Vm
open Go.RowKit
set_option linter.unusedSimpArgs false
set_option linter.unusedVariables false
/-- The boxes that a callee has handed back. -/
def outK (X0 : List Nat) : List (List A) → List Nat → List (List A) → (List (List A) → Prop) → Prop
  | bx, i :: X, o :: os, K => mapK (back X0) o fun o' => setK bx i o' fun bx' => outK X0 bx' X os K
  | bx, [], [], K => K bx
  | _, _, _, _ => False
theorem backL_map (X : List Nat) : ∀ l : List A, backL X l = l.map (back X)
  | [] => by simp [backL]
  | a :: r => by unfold backL; rw [backL_map X r]; rfl
theorem outK_iff {X0 : List Nat} : ∀ {X : List Nat} {os bx : List (List A)} {K : List (List A) → Prop}, X.Nodup → outK X0 bx X os K → os.length = X.length ∧ ∃ bx', K bx' ∧ bx'.length = bx.length ∧ (∀ i, i ∉ X → bx'[i]? = bx[i]?) ∧ ∀ (j i : Nat) (o : List A), X[j]? = some i → os[j]? = some o → bx'[i]? = some (backL X0 o)
  | i :: X, o :: os, bx, K, hn, h => by
    unfold outK at h
    rw [mapK_iff] at h
    obtain ⟨hi, h⟩ := setK_iff h
    have hn2 := List.nodup_cons.1 hn
    obtain ⟨h1, bx', h2, h3, h4, h5⟩ := outK_iff hn2.2 h
    refine ⟨by simp [h1], bx', h2, by rw [h3]; simp, fun k hk => ?_, fun j k o' hj ho => ?_⟩
    · rw [h4 k (fun hm => hk (List.mem_cons_of_mem _ hm)), List.getElem?_set_ne (fun e => hk (by simp [e]))]
    · cases j with
      | zero =>
        simp at hj ho
        subst hj; subst ho
        rw [h4 i hn2.1, List.getElem?_set_self hi, backL_map]
      | succ j => exact h5 j k o' (by simpa using hj) (by simpa using ho)
  | [], [], bx, K, _, h => ⟨rfl, bx, h, rfl, fun _ _ => rfl, fun j i o hj _ => by simp at hj⟩
  | _ :: _, [], _, _, _, h => h.elim
  | [], _ :: _, _, _, _, h => h.elim
/-- What a function does that hands back a row of its own: the row may be written to by who called. -/
def SpecF (P : Program) (f : Nat) (args : List A) (post : Nat → Nat → Nat → List A → A → Prop) : Prop :=
  (∀ vs w, (callFunc f vs).run P w = .ok (.enter f vs) w) ∧
  ∀ (w : World) (C : Rd) (vals : List Value), Gok C w → Sub C w.cell? → A.repL args ⟨C, [], []⟩ vals →
    Calls P f vals.toArray w (fun e w' => ∃ (et k n : Nat) (cs : List A) (r : A) (v y : Value) (xs : List Value) (C' : Rd), e = .returned v ∧ post et k n cs r ∧ Keeps [] w w' ∧ Sub C C' ∧ Sub C' w'.cell? ∧
      (∀ ad u, C' ad = some u → C ad = some u ∨ w.heap.size ≤ ad.block) ∧ (∀ b, y.ownBlock = some b → ∀ o sp, C' ⟨b, o, sp⟩ = none) ∧ w'.ownsRow w.heap.size et k y n xs ∧ A.repC cs ⟨C', [], []⟩ xs ∧ r.rep ⟨C', [], [y]⟩ v)
/-! The row of a result, as row g. -/
mutual
def atRow (g : Nat) : A → A
  | .own _ => .own g
  | .orow _ o => .orow g o
  | .clo f caps => .clo f (atRowL g caps)
  | .agg l => .agg (atRowL g l)
  | .tup l => .tup (atRowL g l)
  | .box b off => .box b off
  | .gp g o => .gp g o
  | .err => .err
  | .dead => .dead
  | .v x => .v x
  | .sl k n cs => .sl k n cs
  | .pp cs => .pp cs
def atRowL (g : Nat) : List A → List A
  | [] => []
  | a :: r => atRow g a :: atRowL g r
end
mutual
theorem atRow_rep {C : Rd} {β : List Nat} {ρ : List Value} {y : Value} {g : Nat} (hg : ρ[g]? = some y) : ∀ (a : A) {v : Value}, a.rep ⟨C, [], [y]⟩ v → (atRow g a).rep ⟨C, β, ρ⟩ v
  | .dead, v, h => by unfold atRow; exact A.rep_dead _ _
  | .v x, v, h => by unfold atRow; unfold A.rep at h ⊢; exact h
  | .sl k n cs, v, h => by unfold atRow; unfold A.rep at h ⊢; exact h
  | .pp cs, v, h => by
    unfold atRow; unfold A.rep at h ⊢
    exact h
  | .own j, v, h => by
    unfold atRow; unfold A.rep at h ⊢
    cases j with
    | zero => simp at h; subst h; exact hg
    | succ j => simp at h
  | .orow j o, v, h => by
    unfold atRow; unfold A.rep at h ⊢
    obtain ⟨b, n, cap, h1, h2⟩ := h
    cases j with
    | zero => simp at h1; subst h1; exact ⟨b, n, cap, hg, h2⟩
    | succ j => simp at h1
  | .box j o, v, h => by
    unfold A.rep at h
    obtain ⟨b, h1, h2⟩ := h
    simp at h1
  | .gp _ _, v, h => by unfold atRow; unfold A.rep at h ⊢; exact h
  | .err, v, h => by unfold atRow; unfold A.rep at h ⊢; exact h
  | .clo f caps, v, h => by
    unfold atRow; unfold A.rep at h ⊢
    obtain ⟨us, h1, h2⟩ := h
    exact ⟨us, h1, atRowL_rep hg caps h2⟩
  | .agg l, v, h => by
    unfold atRow; unfold A.rep at h ⊢
    obtain ⟨us, h1, h2⟩ := h
    exact ⟨us, h1, A.repC_mk (atRowL_rep hg l (A.repC_L h2)) (A.repC_one h2)⟩
  | .tup l, v, h => by
    unfold atRow; unfold A.rep at h ⊢
    obtain ⟨us, h1, h2⟩ := h
    exact ⟨us, h1, atRowL_rep hg l h2⟩
theorem atRowL_rep {C : Rd} {β : List Nat} {ρ : List Value} {y : Value} {g : Nat} (hg : ρ[g]? = some y) : ∀ (l : List A) {us : List Value}, A.repL l ⟨C, [], [y]⟩ us → A.repL (atRowL g l) ⟨C, β, ρ⟩ us
  | [], us, h => by unfold atRowL; unfold A.repL at h ⊢; exact h
  | a :: r, us, h => by
    unfold atRowL; unfold A.repL at h ⊢
    obtain ⟨u, us', rfl, h1, h2⟩ := h
    exact ⟨u, us', rfl, atRow_rep hg a h1, atRowL_rep hg r h2⟩
end
section
variable {w0 : World} {C0 : Rd} {β0 : List Nat} {bx : List (List A)} {rw : List Row} {w w' : World} {E : Env}
theorem ownsRow_base {base base' e k n : Nat} {y : Value} {xs : List Value} (h : w.ownsRow base e k y n xs) (hb : base' ≤ base) : w.ownsRow base' e k y n xs := by
  refine ⟨h.1, ?_⟩
  rcases h.2 with hn | ⟨g, cap, cur, h1, h2, h3⟩
  · exact .inl hn
  · exact .inr ⟨g, cap, cur, h1, Nat.le_trans hb h2, h3⟩
/-- A row that a callee has made. -/
theorem Hp.addRow (h : Hp w0 C0 β0 bx rw w E) {e k n : Nat} {cs : List A} {y : Value} {xs : List Value} (ho : w.ownsRow w0.heap.size e k y n xs) (hr : A.repC cs E.per xs)
    (hb : ∀ b, y.ownBlock = some b → b ∉ E.β ∧ (∀ o sp, E.C ⟨b, o, sp⟩ = none) ∧ ∀ (g e' k' n' : Nat) (cs' : List A) (z : Value), rw[g]? = some (.live e' k' n' cs') → E.ρ[g]? = some z → z.ownBlock ≠ some b) :
    Hp w0 C0 β0 bx (rw ++ [.live e k n cs]) w ⟨E.C, E.β, E.ρ ++ [y]⟩ ∧ E.le ⟨E.C, E.β, E.ρ ++ [y]⟩ := by
  have le : E.le ⟨E.C, E.β, E.ρ ++ [y]⟩ := ⟨Sub.refl _, fun _ _ h => h, fun i b hb => by
    have := (List.getElem?_eq_some_iff.1 hb).1
    rw [List.getElem?_append_left this]; exact hb⟩
  have part : ∀ (j : Nat) (r : Row) (z : Value), (rw ++ [Row.live e k n cs])[j]? = some r → (E.ρ ++ [y])[j]? = some z → (rw[j]? = some r ∧ E.ρ[j]? = some z) ∨ (r = .live e k n cs ∧ z = y ∧ j = rw.length) := fun j r z h1 h2 => by
    by_cases hg : j < rw.length
    · rw [List.getElem?_append_left hg] at h1
      rw [List.getElem?_append_left (by rw [← h.rl]; exact hg)] at h2
      exact .inl ⟨h1, h2⟩
    · rw [List.getElem?_append_right (by omega)] at h1
      rw [List.getElem?_append_right (by rw [← h.rl]; omega)] at h2
      have hi0 : j - rw.length = 0 := by
        have := (List.getElem?_eq_some_iff.1 h1).1
        simp at this; omega
      rw [hi0] at h1
      rw [← h.rl, hi0] at h2
      simp at h1 h2
      exact .inr ⟨h1.symm, h2.symm, by omega⟩
  have hs : ∃ p m c, y = .slice p m c := by
    rcases ho.2 with ⟨rfl, _⟩ | ⟨g, cap, cur, rfl, _⟩
    · exact ⟨_, _, _, rfl⟩
    · exact ⟨_, _, _, rfl⟩
  refine ⟨⟨h.sub, h.base, h.fresh, h.bp, h.bnd, h.bC, h.bl, fun i b cs h1 h2 => (h.bxs i b cs h1 h2).mono le, by simp [h.rl], fun j r z k1 k2 => ?_, fun j e' k' n' cs' z b k1 k2 k3 => ?_, fun j e1 k1 n1 cs1 z j' e2 k2 n2 cs2 z' b hne q1 q2 q3 q4 q5 => ?_, snoc_slices h.rs hs, h.keep, h.gk⟩, le⟩
  · rcases part j r z k1 k2 with ⟨h3, h4⟩ | ⟨rfl, rfl, _⟩
    · exact (h.rws j r z h3 h4).mono le (fun _ _ _ _ _ _ _ => rfl)
    · exact ⟨xs, ho, hr⟩
  · rcases part j _ z k1 k2 with ⟨h4, h5⟩ | ⟨_, rfl, _⟩
    · exact h.rC j e' k' n' cs' z b h4 h5 k3
    · exact ⟨(hb b k3).1, (hb b k3).2.1⟩
  · rcases part j _ z q1 q2 with ⟨r1, r2⟩ | ⟨_, rfl, r1⟩
    · rcases part j' _ z' q3 q4 with ⟨r3, r4⟩ | ⟨_, rfl, _⟩
      · exact h.rd j e1 k1 n1 cs1 z j' e2 k2 n2 cs2 z' b hne r1 r2 r3 r4 q5
      · exact fun hz => (hb b hz).2.2 j e1 k1 n1 cs1 z r1 r2 q5
    · rcases part j' _ z' q3 q4 with ⟨r3, r4⟩ | ⟨_, rfl, r3⟩
      · exact (hb b q5).2.2 j' e2 k2 n2 cs2 z' r3 r4
      · omega
end
/-- A call: which boxes are handed over, which rows are given away, and what the callee is said to do. -/
@[irreducible] def CallW (P : Program) (Xr : Nat → Bool) (f : Nat) (args : List A) (s : S) (K : A → S → Prop) : Prop :=
  (∃ (X ids : List Nat) (ins : List (List A)) (args' : List A) (post : List (List A) → A → Prop), X.Nodup ∧ (∀ i ∈ X, Xr i = true) ∧ (∀ i ∈ X, i < s.bx.length) ∧
    renLL X (pubRows s.rw ids) (X.map fun i => s.bx.getD i []) = some ins ∧ renL X (pubRows s.rw ids) args = some args' ∧ (okL args' → Spec P f ins args' post) ∧
    ∀ outs r, post outs r → outs.length = X.length → outK X s.bx X outs fun bx' => force (back X r) fun r' => forceR (pubRows s.rw ids) fun rw' => withBR s bx' rw' (K r')) ∨
  (∃ (ids : List Nat) (args' : List A) (post : Nat → Nat → Nat → List A → A → Prop), renL [] (pubRows s.rw ids) args = some args' ∧ (okL args' → SpecF P f args' post) ∧
    ∀ e k n cs r, post e k n cs r → force (atRow s.rw.length r) fun r' => forceR (pubRows s.rw ids ++ [.live e k n cs]) fun rw' => withR s rw' (K r'))
section
variable {P : Program} {T : List (Nat × Te)} {w0 w : World} {C0 : Rd} {β0 : List Nat} {s : S} {a : Act} {E : Env} {o : Oper}
/-- What an operation leaves behind. -/
structure Left (w0 : World) (C0 : Rd) (β0 : List Nat) (Xr : Nat → Bool) (s : S) (E : Env) (w : World) (K : A → S → Prop) (y : Value) (w' : World) : Prop where
  ex : ∃ r s' E', K r s' ∧ s'.t = s.t ∧ E.le E' ∧ Hp w0 C0 β0 s'.bx s'.rw w' E' ∧ r.rep E' y ∧ Same Xr E w w' ∧ w.heap.size ≤ w'.heap.size
theorem picks (hp : Hp w0 C0 β0 s.bx s.rw w E) {X : List Nat} (hX : ∀ i ∈ X, i < s.bx.length) : Picks E X (X.map fun i => E.β.getD i 0) := fun j i h => by
  have hi : i < E.β.length := by rw [← hp.bl]; exact hX i (List.mem_iff_getElem?.2 ⟨j, h⟩)
  exact ⟨E.β.getD i 0, by simp [h], by simp [List.getD_eq_getElem?_getD, hi]⟩
theorem picks_nodup (hp : Hp w0 C0 β0 s.bx s.rw w E) {X : List Nat} (hX : ∀ i ∈ X, i < s.bx.length) (hn : X.Nodup) : (X.map fun i => E.β.getD i 0).Nodup := by
  refine List.pairwise_map.2 (List.Pairwise.imp_of_mem (fun {i j} hi hj hne e => ?_) hn)
  have h1 : i < E.β.length := by rw [← hp.bl]; exact hX i hi
  have h2 : j < E.β.length := by rw [← hp.bl]; exact hX j hj
  simp [List.getD_eq_getElem?_getD, h1, h2] at e
  exact hne (nodup_inj hp.bnd e)
theorem plus_sub {C : Rd} {w w' : World} {Y : List Nat} (hC : Sub C w.cell?) (hY : ∀ b ∈ Y, ∀ o sp, C ⟨b, o, sp⟩ = none) (k : Keeps Y w w') : Sub (plus C w w') w'.cell? := fun ad u h => by
  unfold plus at h
  split at h
  · refine k.cell (hC ad u h) (fun hm => ?_)
    have : C ad = none := hY _ hm ad.off ad.spot
    rw [this] at h; cases h
  · exact h
theorem sub_plus {C : Rd} {w w' : World} (hC : Sub C w.cell?) : Sub C (plus C w w') := fun ad u h => by
  unfold plus
  rw [if_pos (World.block_lt_of_cell? w ad (hC ad u h))]; exact h
theorem call_ok {Xr : Nat → Bool} {f : Nat} {args : List A} {vs : List Value} {K : A → S → Prop} (hp : Hp w0 C0 β0 s.bx s.rw w E) (hargs : A.repL args E vs) (h : CallW P Xr f args s K) :
    (∀ vs w, (callFunc f vs).run P w = .ok (.enter f vs) w) ∧ Calls P f vs.toArray w (fun e w' => ∃ y, e = .returned y ∧ Left w0 C0 β0 Xr s E w K y w') := by
  unfold CallW at h
  rcases h with h | h
  rotate_left
  · obtain ⟨ids, args', post, hargs', hspec, hk⟩ := h
    obtain ⟨C1, hp1, le1⟩ := hp.pubs ids
    have hY : Picks ⟨C1, E.β, E.ρ⟩ [] [] := fun j i h => by simp at h
    have hren := renL_rep (E := ⟨C1, E.β, E.ρ⟩) hp1 hY args hargs' (A.repL.mono args le1 hargs)
    replace hspec := hspec (okL_rep _ hren)
    refine ⟨hspec.1, (hspec.2 w C1 vs hp1.gok hp1.sub hren).mono ?_⟩
    rintro e w' ⟨et, k, n, cs, r, v, y, xs, C', rfl, hpost, kp, hC, hC', hnew, hnone, hown, hrep, hr⟩
    refine ⟨v, rfl, ⟨?_⟩⟩
    have hK := hk et k n cs r hpost
    rw [force_iff, forceR_iff, withR_iff] at hK
    have hcall := hp1.call (Y := []) (by simp) kp (C' := C') hC hC' hnew (bx' := s.bx) rfl (fun i b cs h1 h2 => .inr ⟨by simp, h2⟩)
    have hadd := hcall.1.addRow (ownsRow_base hown hp.keep.size) hrep (fun b hb => by
      have hlt := hown.lt b hb
      refine ⟨fun hm => ?_, hnone b hb, fun g e' k' n' cs' z h1 h2 h3 => ?_⟩
      · have := hp1.blt hm
        omega
      · have := (hp1.rlt h1 h2 h3).2
        omega)
    refine ⟨atRow s.rw.length r, _, _, hK, rfl, le1.trans (hcall.2.trans hadd.2), hadd.1, ?_, fun b hb h2 => ?_, kp.size⟩
    · refine atRow_rep ?_ r hr
      have hl : s.rw.length = E.ρ.length := hp.rl
      show (E.ρ ++ [y])[s.rw.length]? = some y
      rw [hl]; simp
    · exact kp.block b hb (by simp)
  obtain ⟨X, ids, ins, args', post, hn, hXr, hX, hins, hargs', hspec, hk⟩ := h
  obtain ⟨C1, hp1, le1⟩ := hp.pubs ids
  have hY := picks hp hX
  have hok : okL args' := okL_rep _ (renL_rep (E := ⟨C1, E.β, E.ρ⟩) hp1 hY args hargs' (A.repL.mono args le1 hargs))
  replace hspec := hspec hok
  refine ⟨hspec.1, ?_⟩
  have hYn := picks_nodup hp hX hn
  have hYl : (X.map fun i => E.β.getD i 0).length = X.length := by simp
  generalize (X.map fun i => E.β.getD i 0) = Y at *
  have hYmem : ∀ b ∈ Y, ∃ j i, X[j]? = some i ∧ Y[j]? = some b ∧ E.β[i]? = some b := fun b hb => by
    obtain ⟨j, hj⟩ := List.mem_iff_getElem?.1 hb
    have hjX : j < X.length := by rw [← hYl]; exact (List.getElem?_eq_some_iff.1 hj).1
    obtain ⟨b', h1, h2⟩ := hY j X[j] (by simp [hjX])
    have : b' = b := Option.some.inj (h1.symm.trans hj)
    subst this
    exact ⟨j, X[j], List.getElem?_eq_getElem hjX, hj, h2⟩
  have hYβ : ∀ b ∈ Y, b ∈ E.β := fun b hb => by
    obtain ⟨j, i, _, _, h3⟩ := hYmem b hb
    exact List.mem_iff_getElem?.2 ⟨i, h3⟩
  have hY1 : Picks ⟨C1, E.β, E.ρ⟩ X Y := hY
  obtain ⟨hil, hig⟩ := renLL_get hins
  have hC1Y : ∀ b ∈ Y, ∀ o sp, C1 ⟨b, o, sp⟩ = none := fun b hb => hp1.bC b (hYβ b hb)
  refine (hspec.2 w C1 Y vs hp1.gok hp1.sub hYn hC1Y (by rw [hil]; simp [hYl]) (fun j b cs hj hcs => ?_) (renL_rep hp1 hY1 args hargs' (A.repL.mono args le1 hargs))).mono ?_
  · obtain ⟨c0, h1, h2⟩ := hig j cs hcs
    rw [List.getElem?_map, Option.map_eq_some_iff] at h1
    obtain ⟨i, hi, hc0⟩ := h1
    obtain ⟨b', h3, h4⟩ := hY j i hi
    have : b' = b := Option.some.inj (h3.symm.trans hj)
    subst this
    have hib : i < s.bx.length := hX i (List.mem_iff_getElem?.2 ⟨j, hi⟩)
    obtain ⟨T', arr, h5, h6⟩ := hp1.bxs i b' c0 h4 (by rw [← hc0]; simp [List.getD_eq_getElem?_getD, hib])
    exact ⟨T', arr, h5, A.repC_mk (renL_rep hp1 hY1 c0 h2 (A.repC_L h6)) (A.repC_one h6)⟩
  · rintro e w' ⟨outs, r, v, rfl, hpost, kp, hol, hob, hr⟩
    refine ⟨v, rfl, ⟨?_⟩⟩
    obtain ⟨-, bx', hK, hbl, hbo, hbi⟩ := outK_iff hn (hk outs r hpost (by rw [hol, hYl]))
    rw [force_iff, forceR_iff, withBR_iff] at hK
    have hcall := hp1.call hYβ kp (C' := plus C1 w w') (sub_plus hp1.sub) (plus_sub hp1.sub hC1Y kp) (fun ad u hc => ?_) hbl (fun i b cs h1 h2 => ?_)
    · refine ⟨back X r, _, _, hK, rfl, le1.trans hcall.2, hcall.1, back_rep (E := ⟨C1, E.β, E.ρ⟩) hY1 hYl r hr, fun b hb h2 => ?_, kp.size⟩
      refine kp.block b hb (fun hm => ?_)
      obtain ⟨j, i', h3, h4, h5⟩ := hYmem b hm
      have := h2 i' h5
      rw [hXr i' (List.mem_iff_getElem?.2 ⟨j, h3⟩)] at this; cases this
    · unfold plus at hc
      split at hc
      · exact .inl hc
      · exact .inr (by omega)
    · by_cases hi : i ∈ X
      · left
        obtain ⟨j, hj⟩ := List.mem_iff_getElem?.1 hi
        obtain ⟨b', h3, h4⟩ := hY j i hj
        have : b' = b := Option.some.inj (h4.symm.trans h1)
        subst this
        have hjo : j < outs.length := by rw [hol]; exact (List.getElem?_eq_some_iff.1 h3).1
        have h5 := hbi j i outs[j] hj (by simp [hjo])
        rw [h2] at h5
        cases h5
        obtain ⟨T', arr, h6, h7⟩ := hob j b' outs[j] h3 (by simp [hjo])
        exact ⟨T', arr, h6, A.repC_mk (backL_rep (E := ⟨C1, E.β, E.ρ⟩) hY1 hYl _ (A.repC_L h7)) (A.repC_one h7)⟩
      · right
        rw [hbo i hi] at h2
        refine ⟨fun hm => ?_, h2⟩
        obtain ⟨j, i', h3, h4, h5⟩ := hYmem b hm
        have e1 := List.getElem?_eq_some_iff.1 h1
        have e2 := List.getElem?_eq_some_iff.1 h5
        have : i = i' := nodup_inj hp.bnd (e1.2.trans e2.2.symm)
        subst this
        exact hi (List.mem_iff_getElem?.2 ⟨j, h3⟩)
end
end Go.Proofs.YtinjgckpmblffaaDoor.Vm
