/- Iterators: variables that are written no more; code piece by piece; at the wide fence. -/
import Derived.Test.YthaccjcadgodlaaDoorVmR
import Derived.RangeFuncFrom
import Derived.RangeFuncBound
import Derived.RangeFuncLeaves
import Derived.TacticsIn
namespace Go.Proofs.YthaccjcadgodlaaDoor.Vm
open Go.RowKit
set_option linter.unusedSimpArgs false
set_option linter.unusedVariables false
def ppS (nr : Nat) (cs : List A) (a : A) : A := match a with
  | .box b off => match b with
    | 0 => .pp (cs.drop off)
    | _ + 1 => .dead
  | a => match refs 0 nr a with
    | true => a
    | false => .dead
/-- The call's only variable is written no more. -/
theorem le_pp {t : List A} {cs cs' : List A} {rw : List Row} (hcs : renL [] rw cs = some cs') : Le 0 ⟨t, [cs], rw⟩ ⟨t.map (ppS rw.length cs'), [], rw⟩ := by
  rintro w0 C0 β0 a w hn ⟨E, hp, hrep, hd⟩
  obtain rfl : β0 = [] := List.eq_nil_of_length_eq_zero hn
  have hbl := hp.bl
  obtain ⟨b, hβ⟩ : ∃ b, E.β = [b] := by
    have : E.β.length = 1 := by rw [← hbl]; rfl
    exact List.length_eq_one_iff.1 this
  have h0 : E.β[0]? = some b := by rw [hβ]; rfl
  obtain ⟨T', arr, q1, q2⟩ := hp.bxs 0 b cs h0 rfl
  have hbm : b ∈ E.β := by rw [hβ]; simp
  have hb0 : w0.heap.size ≤ b := by
    obtain ⟨β', e1, e2⟩ := hp.bp
    rw [List.nil_append] at e1
    exact e2 b (by rw [← e1]; exact hbm)
  obtain ⟨C', hC'⟩ : ∃ C' : Rd, C' = fun ad => if ad.block = b then w.cell? ad else E.C ad := ⟨_, rfl⟩
  have hsub : Sub E.C C' := fun ad u hc => by
    rw [hC']
    simp only
    split
    · exact hp.sub ad u hc
    · exact hc
  have le : (⟨E.C, [], E.ρ⟩ : Env).le ⟨C', [], E.ρ⟩ := ⟨hsub, fun _ _ h => h, fun _ _ h => h⟩
  have hat : A.repAt cs' ⟨C', [], []⟩ b 0 := by
    have hY : Picks E [] [] := fun j i hj => by simp at hj
    have q3 : A.repC cs' ⟨E.C, [], []⟩ arr.toList := A.repC_mk (renL_rep hp hY cs hcs (A.repC_L q2)) (A.repC_one q2)
    refine A.repAt_mk (E := ⟨C', [], []⟩) (A.repC.mono _ (E := ⟨E.C, [], []⟩) (F := ⟨C', [], []⟩) ⟨hsub, fun _ _ h => h, fun _ _ h => h⟩ q3) fun j u hj => ?_
    show C' _ = _
    rw [hC']
    simp only [if_true, Nat.zero_add]
    simp only [World.cell?, q1]
    simpa using hj
  refine ⟨⟨C', [], E.ρ⟩, ⟨fun ad u hc => ?_, hp.base.trans hsub, fun ad u hc => ?_, ⟨[], rfl, by simp⟩, List.nodup_nil, fun b hb => by simp at hb, rfl, fun i b cs hb => by simp at hb, hp.rl, fun g r y h1 h2 => ?_, fun g e k n cs y b' h1 h2 h3 => ⟨by simp, fun o sp => ?_⟩, hp.rd, hp.rs, hp.keep, hp.gk⟩, ?_, hd⟩
  · rw [hC'] at hc
    simp only at hc
    split at hc
    · exact hc
    · exact hp.sub ad u hc
  · rw [hC'] at hc
    simp only at hc
    split at hc
    · rename_i e
      exact .inr (by rw [e]; exact hb0)
    · exact hp.fresh ad u hc
  · have hr := hp.rws g r y h1 h2
    cases r with
    | live e k n cs =>
      obtain ⟨xs, g1, g2⟩ := hr
      exact ⟨xs, g1, A.repC.mono cs (E := ⟨E.C, [], []⟩) (F := ⟨C', [], []⟩) ⟨hsub, fun _ _ h => h, fun _ _ h => h⟩ g2⟩
    | pub k n cs =>
      have hr : (A.sl k n cs).rep E y := hr
      show (A.sl k n cs).rep _ y
      unfold A.rep at hr ⊢
      obtain ⟨g1, g2, p, bb, off, cap, g3, g4, g5, g6, g7⟩ := hr
      exact ⟨g1, g2, p, bb, off, cap, g3, g4, g5, g6, A.repAt.mono cs (E := ⟨E.C, [], []⟩) (F := ⟨C', [], []⟩) ⟨hsub, fun _ _ h => h, fun _ _ h => h⟩ g7⟩
    | gone => exact trivial
  · have hr := hp.rC g e k n cs y b' h1 h2 h3
    have hne : ¬ b' = b := fun e' => hr.1 (by rw [e']; exact hbm)
    rw [hC']
    simp only [if_neg hne]
    exact hr.2 o sp
  · have one : ∀ (a : A) (y : Value), a.rep E y → (ppS rw.length cs' a).rep ⟨C', [], E.ρ⟩ y := fun a y ha => by
      have gen : (∀ b off, a ≠ .box b off) → (ppS rw.length cs' a).rep ⟨C', [], E.ρ⟩ y := fun hnb => by
        have e : ppS rw.length cs' a = match refs 0 rw.length a with | true => a | false => .dead := by
          cases a <;> first | rfl | exact absurd rfl (hnb _ _)
        rw [e]
        split
        · rename_i hrf
          have := refs_rep (nb := 0) (nr := rw.length) a hrf ha
          refine A.rep.mono a le ?_
          have e2 : E.ρ.take rw.length = E.ρ := by rw [hp.rl]; exact List.take_length
          rw [e2] at this
          simpa using this
        · exact A.rep_dead _ _
      cases a with
      | box b' off =>
        unfold A.rep at ha
        obtain ⟨bb, g1, g2⟩ := ha
        cases b' with
        | zero =>
          rw [h0] at g1
          cases g1
          show (A.pp (cs'.drop off)).rep _ y
          unfold A.rep
          refine ⟨b, off, g2, ?_⟩
          have := A.repAt_drop off hat
          rwa [Nat.zero_add] at this
        | succ n => exact A.rep_dead _ _
      | _ => exact gen (by intros; simp)
    have all : ∀ (l : List A) (us : List Value), A.repL l E us → A.repL (l.map (ppS rw.length cs')) ⟨C', [], E.ρ⟩ us := fun l => by
      induction l with
      | nil => intro us h; simpa [A.repL] using h
      | cons a l ih =>
        intro us h
        simp only [List.map_cons]
        unfold A.repL at h ⊢
        obtain ⟨u, us', rfl, h1, h2⟩ := h
        exact ⟨u, us', rfl, one a u h1, ih us' h2⟩
    exact all _ _ hrep
/-! ### The wide fence -/
theorem wide_rows {n : Nat} {P : Program} {row : String} {args : Array Value} {w : World} {R : Value → World → Prop} (h : Rows P row args w R) : RowsIn Fence.wide n P row args w R :=
  fun c cs _ => let ⟨v, w', r, s⟩ := h c cs; ⟨v, w', r, stepsIn_wide.2 s⟩
theorem wide_op {n : Nat} {P : Program} {o : Oper} {a : Act} {w : World} {K : Act → World → Prop} {Q : Exit → Act → World → Prop} (h : o.wp P a w K Q) : o.wpIn Fence.wide n P a w K Q := by
  refine ⟨fun _ _ => trivial, ?_⟩
  have e : o.semAt Fence.wide.round a.eval = execOp a.eval o := rfl
  rw [e]
  unfold Oper.wp at h
  generalize (execOp a.eval o).run P w = r at *
  match r, h with
  | .ok (.value v) w', h => exact h
  | .ok .skip w', h => exact h
  | .ok (.defer d) w', h => exact h
  | .ok (.enter f args) w', h => exact ⟨fun h' => by simp [Fence.wide] at h', callsIn_wide.2 h⟩
  | .ok (.row row args) w', h => exact ⟨fun h' => by simp [Fence.wide] at h', wide_rows h⟩
  | .halt (.panic v) w', h => exact h
section
variable {c : Cx} {w0 : World} {C0 : Rd} {β0 : List Nat} {s : S} {a : Act} {w : World} {E : Env} {o : Oper} {n : Nat}
/-- The first operations of a region. -/
theorem seqIn_ok {ops : List Oper} {Q : Exit → Act → World → Prop} (hc : c.ok) (l2 : List Oper) : ∀ {l : List Oper} {s : S} {a : Act} {w : World} {K : S → Prop}, Inv w0 C0 β0 s a w → aseq c ops l s K → (∀ s' a' w', K s' → Inv w0 C0 β0 s' a' w' → wpListIn Fence.wide n c.P ops.toArray Q l2 a' w') → wpListIn Fence.wide n c.P ops.toArray Q (l ++ l2) a w
  | [], s, a, w, K, hi, h, hk => hk s a w h hi
  | o :: r, s, a, w, K, hi, h, hk => by
    obtain ⟨E, hp, ht, hd⟩ := hi
    change wantK ops o s (ado c (fun _ => true) s o fun s' => aseq c ops r s' K) (putK s o.dst (.tup []) fun s' => aseq c ops r s' K) at h
    show wpListIn Fence.wide n c.P ops.toArray Q (o :: (r ++ l2)) a w
    unfold wpListIn
    rcases want_ok ht h with ⟨h1, h2⟩ | ⟨h1, h2⟩
    · rw [if_pos h1]
      exact wide_op (do_ok hc ⟨E, hp, ht, hd⟩ h2 fun s' a' w' h3 h4 => seqIn_ok hc l2 h4 h3 hk)
    · rw [if_neg (by rw [h1]; simp)]
      obtain ⟨s2, k1, k2, k3, k4, k5⟩ := put_ok (a := a) hp ht hd (rep_undef _) h2
      exact ⟨fun _ _ => trivial, seqIn_ok hc l2 ⟨E, by rw [k2, k3]; exact hp, k4, k5⟩ k1 hk⟩
/-- A piece of code, at the wide fence. -/
theorem piece_ok {x : Code} {q : Exit → S → Prop} {Q : Exit → Act → World → Prop} (hc : c.ok) (hn : β0.length = c.np) (ho : ordOk c.ord x = true) (hi : Inv w0 C0 β0 s a w) (h : awp c x s q) (hk : ∀ e s' a' w', q e s' → Inv w0 C0 β0 s' a' w' → Q e a' w') : x.wpIn Fence.wide n c.P Q a w :=
  wpIn_wide.2 (awp_ok hc hn x ho hi h hk)
/-- A region that draws no order, to the one state behind it. -/
theorem piece_to {x y : Code} {s2 : S} {Q : Exit → Act → World → Prop} (hc : c.ok) (hn : β0.length = c.np) (hi : Inv w0 C0 β0 s a w) (ho : ordOk c.ord x = true) (h : awp c x s fun e s' => e = .normal ∧ s' = s2) (hk : ∀ a' w', Inv w0 C0 β0 s2 a' w' → y.wpIn Fence.wide n c.P Q a' w') : (Code.seq x y).wpIn Fence.wide n c.P Q a w := by
  refine wpIn_seq (piece_ok hc hn ho hi h ?_)
  rintro e s' a' w' ⟨rfl, rfl⟩ h2
  exact hk a' w' h2
theorem Inv.le {s' : S} {np : Nat} (hi : Inv w0 C0 β0 s a w) (h : Le np s s') (hn : β0.length = np) : Inv w0 C0 β0 s' a w := h w0 C0 β0 a w hn hi
/-- A new beginning: what is read from now on, and nothing of the call's own. -/
theorem Inv.again {t : List A} {C : Rd} (hi : Inv w0 C [] ⟨t, [], []⟩ a w) : ∃ C', Sub C C' ∧ Sub C' w.cell? ∧ (∀ ad u, C' ad = some u → C ad = some u ∨ w0.heap.size ≤ ad.block) ∧ Keeps [] w0 w ∧ ∀ w', Sub C' w'.cell? → Inv w' C' [] ⟨t, [], []⟩ a w' := by
  obtain ⟨E, hp, ht, hd⟩ := hi
  have hβ : E.β = [] := List.eq_nil_of_length_eq_zero (by rw [← hp.bl]; rfl)
  have hρ : E.ρ = [] := List.eq_nil_of_length_eq_zero (by rw [← hp.rl]; rfl)
  refine ⟨E.C, hp.base, hp.sub, hp.fresh, hp.keep, fun w' hw' => ⟨⟨E.C, [], []⟩, ⟨hw', Sub.refl _, fun _ _ h => .inl h, ⟨[], rfl, by simp⟩, List.nodup_nil, fun b hb => by simp at hb, rfl, fun i b cs hb => by simp at hb, rfl, fun g r y hg => by simp at hg, fun g e k n cs y b hg => by simp at hg, fun g e k n cs y h' e' k' n' cs' z b _ hg => by simp at hg, fun g y hg => by simp at hg, Keeps.refl _ _, hp.gk.mono hp.base⟩, ?_, hd⟩⟩
  have : E = ⟨E.C, [], []⟩ := by
    obtain ⟨C', β', ρ'⟩ := E
    simp only at hβ hρ
    rw [hβ, hρ]
  rw [this] at ht
  exact ht
end
end Go.Proofs.YthaccjcadgodlaaDoor.Vm
