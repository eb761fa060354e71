/- Regions within a round of a range over a function. -/
import Derived.Test.YthaccjcadgodlaaDoorVmZ
import Derived.RangeFuncNested
import Derived.RangeFuncBox
namespace Go.Proofs.YthaccjcadgodlaaDoor.Vm
open Go.RowKit
set_option linter.unusedSimpArgs false
set_option linter.unusedVariables false
def noDefer (ops : List Oper) : Bool := ops.all fun o => match o.op with
  | .defer _ => false
  | _ => true
theorem round_op {n l : Nat} {P : Program} {o : Oper} {a : Act} {w : World} {K : Act → World → Prop} {Q : Exit → Act → World → Prop} (hd : ∀ c, o.op ≠ .defer c) (h : o.wp P a w K Q) : o.wpIn (Fence.wide.inRound l) n P a w K Q := by
  refine ⟨fun _ _ => trivial, ?_⟩
  rw [Oper.semAt_eq _ _ _ hd]
  unfold Oper.wp at h
  generalize (execOp a.eval o).run P w = r at *
  match r, h with
  | .ok (.value v) w', h => exact h
  | .ok .skip w', h => exact h
  | .ok (.defer d) w', h => exact h
  | .ok (.enter f args) w', h => exact ⟨fun h' => by simp [Fence.wide] at h', CallsIn.inRound l (callsIn_wide.2 h)⟩
  | .ok (.row row args) w', h => exact ⟨fun h' => by simp [Fence.wide] at h', wide_rows h⟩
  | .halt (.panic v) w', h => exact h
theorem ops_in {n l : Nat} {P : Program} {ops : List Oper} {Q : Exit → Act → World → Prop} (hd : noDefer ops = true) (hQ : ¬ LetsOut Q) : ∀ {is : List Nat} {a : Act} {w : World}, wpOps P ops.toArray Q is a w → wpOpsIn (Fence.wide.inRound l) n P ops.toArray Q is a w
  | [], a, w, h => h
  | i :: rest, a, w, h => by
    unfold wpOps at h
    unfold wpOpsIn
    cases ho : ops.toArray[i]? with
    | none =>
      rw [ho] at h
      exact ops_in hd hQ h
    | some o =>
      rw [ho] at h
      simp only at h ⊢
      have hmem : o ∈ ops := by
        have : ops[i]? = some o := by simpa using ho
        exact List.mem_iff_getElem?.2 ⟨i, this⟩
      have hnd : ∀ c, o.op ≠ .defer c := fun c e => by
        have := List.all_eq_true.1 hd o hmem
        rw [e] at this
        cases this
      split at h
      · rename_i hw
        rw [if_pos hw]
        rcases h with h | h
        · refine round_op hnd ?_
          exact Oper.wp_mono (fun a' w' h' => ops_in hd hQ h') h
        · exact absurd h.2 hQ
      · rename_i hw
        rw [if_neg hw]
        exact ⟨fun _ _ => trivial, ops_in hd hQ h⟩
def OnlyN (K : Act → World → Prop) : Exit → Act → World → Prop
  | .normal, a, w => K a w
  | _, _, _ => False
theorem onlyN_no (K : Act → World → Prop) : ¬ LetsOut (NoPanic (OnlyN K)) := by
  rintro ⟨a, w, h⟩
  simp [NoPanic, OnlyN] at h
section
variable {c : Cx} {w0 w : World} {C0 : Rd} {β0 : List Nat} {s : S} {a : Act}
theorem ser_in {id lp n : Nat} {ops : List Oper} {X : List Nat} {l : Tr} {K : S → Prop} {Kc : Act → World → Prop} (hc : c.ok) (hi : Inv w0 C0 β0 s a w) (hX : allLt X s.bx.length = true) (hB : serOkT ops.toArray l = true) (hnd : noDefer ops = true)
    (h : aser c (fun i => memB i X) s.bx.length ops l 0 s K) (hk : ∀ s' a' w', K s' → Inv w0 C0 β0 s' a' w' → Kc a' w') {Q : Exit → Act → World → Prop} (hQ : ∀ a w, Kc a w → Q .normal a w) : (Code.region id ops.toArray true).wpIn (Fence.wide.inRound lp) n c.P Q a w := by
  obtain ⟨E, hp, ht, hd⟩ := hi
  rw [hp.bl] at h
  have hk0 : Kept (fun i => memB i X) E w.drew w.drew := ⟨fun _ _ _ _ => rfl, (drew_inv hp).sub⟩
  have hT : wpT c.P ops.toArray (NoPanic (OnlyN Kc)) (Kept (fun i => memB i X) E w.drew) l a w.drew :=
    ser_ok' (Q := OnlyN Kc) hc (drew_inv hp) ht hd (fun _ => ⟨Sub.refl _, fun _ _ h => h, hk0⟩) (fun _ => rfl) h hk
  simp only [serOkT, Bool.and_eq_true, decide_eq_true_eq] at hB
  have hA := wpAny_T (md := .any) hB.1.1 (fun _ _ _ _ _ h => h) _ l _ a _ hB.1.2 hB.2 hT
  have : (Code.region id ops.toArray true).wpIn (Fence.wide.inRound lp) n c.P (NoPanic (OnlyN Kc)) a w := wpIn_region_draw fun t => by
    simp only [Region.schedule, hc.m, Bool.true_or, if_true]
    exact ops_in hnd (onlyN_no Kc) (wpAny_sound ops.toArray.size t _ a _ hA)
  refine wpIn_mono this fun e a' w' h => ?_
  cases e with
  | normal => exact hQ _ _ h
  | _ => simp [NoPanic, OnlyN] at h
/-- A region that draws its order, within a round. -/
theorem region_in {id lp n : Nat} {ops : List Oper} {Q : Exit → Act → World → Prop} (hc : c.ok) (hi : Inv w0 C0 β0 s a w) (hfl : Tr.isFlow (c.ord id) = false) (ho : serOkT ops.toArray (c.ord id) = true) (hnd : noDefer ops = true)
    (h : awpRegion c id ops.toArray true s fun e s' => e = .normal ∧ ∀ a' w', Inv w0 C0 β0 s' a' w' → Q .normal a' w') : (Code.region id ops.toArray true).wpIn (Fence.wide.inRound lp) n c.P Q a w := by
  unfold awpRegion at h
  simp only at h
  split at h
  · rename_i hx
    rw [hfl] at h
    simp only at h
    split at h
    · exact ser_in hc hi hx ho hnd h (Kc := Q .normal) (fun s' a' w' h1 h2 => h1.2 a' w' h2) fun _ _ h => h
    · unfold JoinW at h
      obtain ⟨φ, h, h'⟩ := h
      exact ser_in hc hi hx ho hnd h (Kc := Q .normal) (fun s' a' w' h1 h2 => (h' _ h1).2 a' w' h2) fun _ _ h => h
  · exact h.elim
/-- From cells that are told one by one. -/
theorem inv_at {W : World} {β : List Nat} {bx : List (List A)} {t : List A} (h0 : Gok C0) (h1 : Sub C0 W.cell?) (hnd : β.Nodup) (hbC : ∀ b ∈ β, ∀ o sp, C0 ⟨b, o, sp⟩ = none) (hbl : bx.length = β.length) (hbx : ∀ (i b : Nat) (cs : List A), β[i]? = some b → bx[i]? = some cs → boxAt W ⟨C0, β, []⟩ b cs)
    (ht : A.repL t ⟨C0, β, []⟩ a.tmps.toList) (hd : a.defers = []) : Inv W C0 β ⟨t, bx, []⟩ a W :=
  ⟨⟨C0, β, []⟩, ⟨h1, Sub.refl _, fun _ _ hc => .inl hc, ⟨[], by simp, by simp⟩, hnd, hbC, hbl, hbx, rfl, fun g r y hg => by simp at hg, fun g e k n cs y b hg => by simp at hg, fun g e k n cs y h' e' k' n' cs' z b _ hg => by simp at hg, fun g y hg => by simp at hg, Keeps.refl _ _, h0⟩, ht, hd⟩
theorem box_cell (hi : Inv w0 C0 β0 s a w) {i b : Nat} {x : Value} (hβ : β0[i]? = some b) (hbx : s.bx[i]? = some [.v x]) : w.cell? ⟨b, 0, none⟩ = some x := by
  obtain ⟨E, hp, ht, hd⟩ := hi
  obtain ⟨β', e1, e2⟩ := hp.bp
  have h1 : E.β[i]? = some b := by
    rw [e1, List.getElem?_append_left (List.getElem?_eq_some_iff.1 hβ).1]
    exact hβ
  obtain ⟨T, arr, q1, q2⟩ := hp.bxs i b _ h1 hbx
  have := repC_vals (vs := [x]) q2
  have e : arr = #[x] := by
    apply Array.toList_inj.1
    rw [this]
  simp [World.cell?, q1, e]
theorem box_one {W : World} {E : Env} {b : Nat} {T : TypeId} {x : Value} (h : Boxed W b T x) (hx : okV x) : boxAt W E b [.v x] := ⟨T, #[x], h, ⟨x, [], rfl, oneCell_of hx, A.rep_v hx, rfl⟩⟩
theorem lv_ok {P : Program} {T : List (Nat × Te)} {t : Nat} {e : Te} {W : World} {ad : Addr} {v : Value} (hT : Tab.ok P T) (h : Tab.get T t = some e) (ha : e.d.agg = false) (hc : W.cell? ad = some v) : (loadVar t ad).run P W = .ok v W := by
  have q1 := hT.agg h W
  rw [ha] at q1
  simp [loadVar, q1, load, Sem.run, hc, Result.andThen]
theorem results3 {P : Program} {T : List (Nat × Te)} (hT : Tab.ok P T) {fn : Func} {a1 a2 a3 t1 t2 t3 : Nat} {e1 e2 e3 : Te} {tmps : Array Value} {W : World} {d1 d2 d3 : Addr} {v1 v2 v3 : Value} (hr : fn.results = #[.cell a1 t1, .cell a2 t2, .cell a3 t3])
    (p1 : tmps.getD a1 undef = .pointer (some d1)) (p2 : tmps.getD a2 undef = .pointer (some d2)) (p3 : tmps.getD a3 undef = .pointer (some d3))
    (g1 : Tab.get T t1 = some e1) (g2 : Tab.get T t2 = some e2) (g3 : Tab.get T t3 = some e3) (k1 : e1.d.agg = false) (k2 : e2.d.agg = false) (k3 : e3.d.agg = false)
    (c1 : W.cell? d1 = some v1) (c2 : W.cell? d2 = some v2) (c3 : W.cell? d3 = some v3) : (results fn tmps).run P W = .ok (.tuple #[v1, v2, v3]) W := by
  have he : results fn tmps = (do let vs ← fn.results.mapM (rrun tmps); pure (if h : vs.size = 1 then vs[0] else .tuple vs)) := by
    unfold results
    congr 1
  have f : ∀ {x t d v}, tmps.getD x undef = .pointer (some d) → (loadVar t d).run P W = .ok v W → (rrun tmps (.cell x t)).run P W = .ok v W := fun h1 h2 => by
    simp only [rrun, h1, asAddr]
    simpa [Result.andThen] using h2
  have r1 := f (t := t1) p1 (lv_ok hT g1 k1 c1)
  have r2 := f (t := t2) p2 (lv_ok hT g2 k2 c2)
  have r3 := f (t := t3) p3 (lv_ok hT g3 k3 c3)
  rw [he, hr]
  simp [r1, r2, r3, Result.andThen]
end
end Go.Proofs.YthaccjcadgodlaaDoor.Vm
