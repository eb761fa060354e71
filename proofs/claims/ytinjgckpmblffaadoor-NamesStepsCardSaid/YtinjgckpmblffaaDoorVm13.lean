/- A function: from its abstract run to what it is said to do. -/
import Derived.Test.YtinjgckpmblffaaDoorVmC
namespace Go.Proofs.YtinjgckpmblffaaDoor.Vm
open Go.RowKit
set_option linter.unusedSimpArgs false
set_option linter.unusedVariables false
def deadK : Nat → (List A → Prop) → Prop
  | 0, K => K []
  | n + 1, K => deadK n fun r => K (.dead :: r)
theorem deadK_iff : ∀ {n : Nat} {K : List A → Prop}, deadK n K ↔ K (List.replicate n .dead)
  | 0, K => by simp [deadK]
  | n + 1, K => by simp [deadK, deadK_iff (n := n), List.replicate_succ]
def initK : List A → Nat → (List A → Prop) → Prop
  | [], n, K => deadK n K
  | a :: as, n, K => initK as n fun r => K (a :: r)
theorem initK_iff : ∀ {as : List A} {n : Nat} {K : List A → Prop}, initK as n K ↔ K (as ++ List.replicate n .dead)
  | [], n, K => by simp [initK, deadK_iff]
  | a :: as, n, K => by simp [initK, initK_iff (as := as)]
theorem rep_deads {E : Env} : ∀ (n : Nat) (v : Value), A.repL (List.replicate n .dead) E (List.replicate n v)
  | 0, v => by simp [A.repL]
  | n + 1, v => by
    rw [List.replicate_succ, List.replicate_succ]
    unfold A.repL
    exact ⟨_, _, rfl, A.rep_dead _ _, rep_deads n v⟩
def upto : Nat → List Nat
  | 0 => []
  | n + 1 => upto n ++ [n]
theorem upto_len : ∀ n, (upto n).length = n
  | 0 => rfl
  | n + 1 => by simp [upto, upto_len n]
theorem upto_get : ∀ {n j i : Nat}, (upto n)[j]? = some i → i = j ∧ j < n
  | 0, j, i, h => by simp [upto] at h
  | n + 1, j, i, h => by
    unfold upto at h
    by_cases hj : j < n
    · rw [List.getElem?_append_left (by rw [upto_len]; exact hj)] at h
      have := upto_get h
      omega
    · rw [List.getElem?_append_right (by rw [upto_len]; omega), upto_len] at h
      have h1 := (List.getElem?_eq_some_iff.1 h).1
      have e : j - n = 0 := by simp at h1; omega
      rw [e] at h
      simp at h
      omega
/-- A result. -/
def resA (T : List (Nat × Te)) (s : S) (r : ResultVar) (K : A → Prop) : Prop :=
  match r with
  | .tmp t => K (s.t.getD t .dead)
  | .cell t ty => aload T (fun _ => false) s ty (.tmp t) K
def resK (T : List (Nat × Te)) (s : S) (rv : List ResultVar) (K : A → Prop) : Prop :=
  match rv with
  | [] => K (.tup [])
  | [r] => resA T s r K
  | [r1, r2] => resA T s r1 fun x => resA T s r2 fun y => K (.tup [x, y])
  | [r1, r2, r3] => resA T s r1 fun x => resA T s r2 fun y => resA T s r3 fun z => K (.tup [x, y, z])
  | _ => False
def idsLL : List (List A) → List Nat
  | [] => []
  | a :: r => idsL a ++ idsLL r
def takeL {α : Type} : Nat → List α → List α
  | 0, _ => []
  | _ + 1, [] => []
  | n + 1, a :: r => a :: takeL n r
theorem takeL_eq {α : Type} : ∀ (n : Nat) (l : List α), takeL n l = l.take n
  | 0, _ => by simp [takeL]
  | _ + 1, [] => by simp [takeL]
  | n + 1, a :: r => by simp [takeL, takeL_eq n r]
/-- What the function hands back. -/
def retK (c : Cx) (rv : List ResultVar) (post : List (List A) → A → Prop) (s : S) : Prop :=
  resK c.T s rv fun r => match renLL (upto c.np) (pubRows s.rw (idsA r ++ idsLL (takeL c.np s.bx))) (takeL c.np s.bx) with
    | some outs => match ren (upto c.np) (pubRows s.rw (idsA r ++ idsLL (takeL c.np s.bx))) r with
      | some r' => post outs r'
      | none => False
    | none => False
def endK (c : Cx) (rv : List ResultVar) (post : List (List A) → A → Prop) (e : Exit) (s : S) : Prop :=
  match e with
  | .ret => retK c rv post s
  | .normal => retK c rv post s
  | _ => False
section
variable {c : Cx} {w0 : World} {C0 : Rd} {β0 : List Nat} {s : S} {a : Act} {w : World} {E : Env}
def rrun (tmps : Array Value) (r : ResultVar) : Sem Value := match r with
  | .tmp t => pure (tmps.getD t undef)
  | .cell a t => do loadVar t (← asAddr (tmps.getD a undef))
theorem repL_cons {x : A} {y : Value} {l : List A} {us : List Value} (h : x.rep E y) (k : A.repL l E us) : A.repL (x :: l) E (y :: us) := by
  unfold A.repL
  exact ⟨y, us, rfl, h, k⟩
theorem resA_ok {r : ResultVar} {K : A → Prop} (hc : c.ok) (hp : Hp w0 C0 β0 s.bx s.rw w E) (ht : A.repL s.t E a.tmps.toList) (h : resA c.T s r K) : ∃ x y, K x ∧ x.rep E y ∧ (rrun a.tmps r).run c.P w = .ok y w := by
  cases r with
  | tmp t =>
    refine ⟨_, a.tmps.getD t undef, h, ?_, by simp [rrun]⟩
    have := A.repL_getD ht t undef
    simpa using this
  | cell t ty =>
    obtain ⟨x, y, h1, h2, h3⟩ := load_ok (o := ⟨none, .load ty (.tmp t), ty, "", #[], none⟩) hc.T hp ht rfl h
    refine ⟨x, y, h1, h2, ?_⟩
    have e := h3 w (Same.refl _ _ _)
    have hx := ev_rep ht (.tmp t)
    simp only [execOp, Act.eval, Instr.loadAt] at e
    cases hv : a.tmps.getD t undef with
    | pointer p =>
      rw [hv] at e
      cases p with
      | none => simp [Instr.sureAddr, stuck, Sem.run, Result.andThen] at e
      | some ad =>
        simp only [rrun, hv, asAddr]
        simp [Instr.sureAddr, Result.andThen] at e ⊢
        split at e
        · rename_i v w' hrun
          cases e
          exact hrun
        · cases e
    | _ => rw [hv] at e; simp [Instr.sureAddr, stuck, Sem.run, Result.andThen] at e
theorem resK_ok {fn : Func} {K : A → Prop} (hc : c.ok) (hp : Hp w0 C0 β0 s.bx s.rw w E) (ht : A.repL s.t E a.tmps.toList) (h : resK c.T s fn.results.toList K) : ∃ x y, K x ∧ x.rep E y ∧ (results fn a.tmps).run c.P w = .ok y w := by
  have he : results fn a.tmps = (do let vs ← fn.results.mapM (rrun a.tmps); pure (if h : vs.size = 1 then vs[0] else .tuple vs)) := by
    unfold results
    congr 1
  unfold resK at h
  split at h
  · rename_i hr
    have hr' : fn.results = #[] := Array.toList_eq_nil_iff.1 hr
    exact ⟨_, .tuple #[], h, by unfold A.rep; exact ⟨#[], rfl, by simp [A.repL]⟩, by rw [he, hr']; simp⟩
  · rename_i r hr
    have hr' : fn.results = #[r] := by rw [← hr]
    obtain ⟨x, y, h1, h2, h3⟩ := resA_ok hc hp ht h
    exact ⟨x, y, h1, h2, by rw [he, hr']; simp [h3, Result.andThen]⟩
  · rename_i r1 r2 hr
    have hr' : fn.results = #[r1, r2] := by rw [← hr]
    obtain ⟨x, y, h1, h2, h3⟩ := resA_ok hc hp ht h
    obtain ⟨x2, y2, k1, k2, k3⟩ := resA_ok hc hp ht h1
    refine ⟨_, .tuple #[y, y2], k1, ?_, by rw [he, hr']; simp [h3, k3, Result.andThen]⟩
    unfold A.rep
    exact ⟨_, rfl, repL_cons h2 (repL_cons k2 (by simp [A.repL]))⟩
  · rename_i r1 r2 r3 hr
    have hr' : fn.results = #[r1, r2, r3] := by rw [← hr]
    obtain ⟨x, y, h1, h2, h3⟩ := resA_ok hc hp ht h
    obtain ⟨x2, y2, k1, k2, k3⟩ := resA_ok hc hp ht h1
    obtain ⟨x3, y3, g1, g2, g3⟩ := resA_ok hc hp ht k1
    refine ⟨_, .tuple #[y, y2, y3], g1, ?_, by rw [he, hr']; simp [h3, k3, g3, Result.andThen]⟩
    unfold A.rep
    exact ⟨_, rfl, repL_cons h2 (repL_cons k2 (repL_cons g2 (by simp [A.repL])))⟩
  · exact h.elim
theorem callable {P : Program} {f : Nat} {fn : Func} {x : Code} (hf : P.funcs[f]? = some fn) (hb : fn.body = some x) (hname : (fn.name == "runtime.NumGoroutine") = false) (vs : Array Value) (w : World) : (callFunc f vs).run P w = .ok (.enter f vs) w := by
  have h3 : ¬ fn.name = "runtime.NumGoroutine" := by simpa using hname
  simp [callFunc, program, Sem.run, hf, h3, hb, Result.andThen]
/-! A result whose row g stays a row. -/
mutual
def resRow (g : Nat) (rw : List Row) : A → Option A
  | .dead => some .dead
  | .v x => some (.v x)
  | .sl k n cs => some (.sl k n cs)
  | .pp cs => some (.pp cs)
  | .gp g o => some (.gp g o)
  | .err => some .err
  | .own h => match Nat.beq g h with
    | true => some (.own 0)
    | false => match rw[h]? with
      | some (.pub k n cs) => some (.sl k n cs)
      | _ => none
  | .orow _ _ => none
  | .box _ _ => none
  | .clo f caps => match resRowL g rw caps with
    | some l => some (.clo f l)
    | none => none
  | .agg l => match resRowL g rw l with
    | some l => some (.agg l)
    | none => none
  | .tup l => match resRowL g rw l with
    | some l => some (.tup l)
    | none => none
def resRowL (g : Nat) (rw : List Row) : List A → Option (List A)
  | [] => some []
  | a :: r => match resRow g rw a with
    | some a => match resRowL g rw r with
      | some r => some (a :: r)
      | none => none
    | none => none
end
mutual
theorem resRow_rep {bx : List (List A)} {rw : List Row} {g : Nat} {z : Value} (hp : Hp w0 C0 β0 bx rw w E) (hg : E.ρ[g]? = some z) : ∀ (a : A) {a' : A} {y : Value}, resRow g rw a = some a' → a.rep E y → a'.rep ⟨E.C, [], [z]⟩ y
  | .dead, a', y, h, _ => by simp [resRow] at h; subst h; exact A.rep_dead _ _
  | .v x, a', y, h, hr => by simp [resRow] at h; subst h; unfold A.rep at hr ⊢; exact hr
  | .sl k n cs, a', y, h, hr => by simp [resRow] at h; subst h; unfold A.rep at hr ⊢; exact hr
  | .pp cs, a', y, h, hr => by simp [resRow] at h; subst h; unfold A.rep at hr ⊢; exact hr
  | .own j, a', y, h, hr => by
    unfold resRow at h
    split at h
    · rename_i hb
      cases h
      have := Nat.eq_of_beq_eq_true hb
      subst this
      unfold A.rep at hr ⊢
      rw [hg] at hr
      simpa using hr
    · split at h
      · rename_i k n cs hj
        cases h
        unfold A.rep at hr
        have := hp.rws j _ y hj hr
        have h2 : (A.sl k n cs).rep E y := this
        unfold A.rep at h2 ⊢
        exact h2
      · cases h
  | .orow _ _, a', y, h, _ => by simp [resRow] at h
  | .box _ _, a', y, h, _ => by simp [resRow] at h
  | .gp _ _, a', y, h, hr => by unfold resRow at h; cases h; unfold A.rep at hr ⊢; exact hr
  | .err, a', y, h, hr => by unfold resRow at h; cases h; unfold A.rep at hr ⊢; exact hr
  | .clo f caps, a', y, h, hr => by
    unfold resRow at h
    split at h
    · rename_i l hl
      cases h
      unfold A.rep at hr ⊢
      obtain ⟨us, h1, h2⟩ := hr
      exact ⟨us, h1, resRowL_rep hp hg caps hl h2⟩
    · cases h
  | .agg l, a', y, h, hr => by
    unfold resRow at h
    split at h
    · rename_i l' hl
      cases h
      unfold A.rep at hr ⊢
      obtain ⟨us, h1, h2⟩ := hr
      exact ⟨us, h1, A.repC_mk (resRowL_rep hp hg l hl (A.repC_L h2)) (A.repC_one h2)⟩
    · cases h
  | .tup l, a', y, h, hr => by
    unfold resRow at h
    split at h
    · rename_i l' hl
      cases h
      unfold A.rep at hr ⊢
      obtain ⟨us, h1, h2⟩ := hr
      exact ⟨us, h1, resRowL_rep hp hg l hl h2⟩
    · cases h
theorem resRowL_rep {bx : List (List A)} {rw : List Row} {g : Nat} {z : Value} (hp : Hp w0 C0 β0 bx rw w E) (hg : E.ρ[g]? = some z) : ∀ (l : List A) {l' : List A} {us : List Value}, resRowL g rw l = some l' → A.repL l E us → A.repL l' ⟨E.C, [], [z]⟩ us
  | [], l', us, h, hr => by simp [resRowL] at h; subst h; unfold A.repL at hr ⊢; exact hr
  | a :: r, l', us, h, hr => by
    unfold resRowL at h
    split at h
    · rename_i a1 ha
      split at h
      · rename_i r1 hr1
        cases h
        unfold A.repL at hr ⊢
        obtain ⟨u, us', rfl, h1, h2⟩ := hr
        exact ⟨u, us', rfl, resRow_rep hp hg a ha h1, resRowL_rep hp hg r hr1 h2⟩
      · cases h
    · cases h
end
def notG (g : Nat) : List Nat → List Nat
  | [] => []
  | i :: r => match Nat.beq g i with | true => notG g r | false => i :: notG g r
/-- What a function hands back that hands back row g. -/
def retF (c : Cx) (g : Nat) (rv : List ResultVar) (post : Nat → Nat → Nat → List A → A → Prop) (s : S) : Prop :=
  resK c.T s rv fun r => match (pubRows s.rw (notG g (idsA r)))[g]? with
    | some (.live e k n cs) => match resRow g (pubRows s.rw (notG g (idsA r))) r with
      | some r' => post e k n cs r'
      | none => False
    | _ => False
def endF (c : Cx) (rv : List ResultVar) (post : Nat → Nat → Nat → List A → A → Prop) (e : Exit) (s : S) : Prop :=
  match e with
  | .ret => ∃ g, retF c g rv post s
  | .normal => ∃ g, retF c g rv post s
  | _ => False
/-- What holds of a piece of code, from a state on. -/
@[irreducible] def Ok (c : Cx) (x : Code) (s : S) (q : Exit → S → Prop) : Prop := ∀ (w0 : World) (C0 : Rd) (β0 : List Nat) (a : Act) (w : World) (Q : Exit → Act → World → Prop), β0.length = c.np → Inv w0 C0 β0 s a w → (∀ e s' a' w', q e s' → Inv w0 C0 β0 s' a' w' → Q e a' w') → x.wp c.P Q a w
theorem ok_of_awp {x : Code} {q : Exit → S → Prop} (hc : c.ok) (ho : ordOk c.ord x = true) (h : awp c x s q) : Ok c x s q := by
  unfold Ok
  exact fun w0 C0 β0 a w Q hn hi hk => awp_ok hc hn x ho hi h hk
theorem ok_le {x : Code} {s' : S} {q : Exit → S → Prop} (h : Le c.np s s') (k : Ok c x s' q) : Ok c x s q := by
  unfold Ok at k ⊢
  exact fun w0 C0 β0 a w Q hn hi hk => k w0 C0 β0 a w Q hn (h w0 C0 β0 a w hn hi) hk
def okQ (c : Cx) (y : Code) (q : Exit → S → Prop) (e : Exit) (s' : S) : Prop := match e with
  | .normal => Ok c y s' q
  | e => q e s'
theorem ok_seq {x y : Code} {q : Exit → S → Prop} (h : Ok c x s (okQ c y q)) : Ok c (.seq x y) s q := by
  unfold Ok at h ⊢
  intro w0 C0 β0 a w Q hn hi hk
  refine wp_seq (h w0 C0 β0 a w _ hn hi fun e s' a' w' h1 h2 => ?_)
  cases e with
  | normal =>
    have h1 : Ok c y s' q := h1
    unfold Ok at h1
    exact h1 w0 C0 β0 a' w' Q hn h2 hk
  | _ => exact hk _ _ _ _ h1 h2
/-- One step of code by the abstract run, and what comes behind it. -/
theorem ok_step {x y : Code} {q : Exit → S → Prop} (hc : c.ok) (ho : ordOk c.ord x = true) (h : awp c x s (okQ c y q)) : Ok c (.seq x y) s q := ok_seq (ok_of_awp hc ho h)
/-- What the abstract run says holds. -/
theorem spec_of_ok {f : Nat} {fn : Func} {x : Code} {ins : List (List A)} {args : List A} {post : List (List A) → A → Prop} (hc : c.ok) (hf : c.P.funcs[f]? = some fn) (hb : fn.body = some x) (hname : (fn.name == "runtime.NumGoroutine") = false)
    (hn : ins.length = c.np) (h : okL args → initK args (fn.ntmps - args.length) fun t => Ok c x ⟨t, ins, []⟩ (endK c fn.results.toList post)) : Spec c.P f ins args post := by
  refine ⟨callable hf hb hname, fun w C β vals h0 h1 h2 h3 h4 h5 h6 => ?_⟩
  have hl := A.repL_len h6
  refine calls_of_wp hf hb ?_
  have hinit := initK_iff.1 (h (okL_rep _ h6))
  have hb0 : ∀ b ∈ β, b < w.heap.size := fun b hb => by
    obtain ⟨i, hi⟩ := List.mem_iff_getElem?.1 hb
    have hi' : i < ins.length := by rw [h4]; exact (List.getElem?_eq_some_iff.1 hi).1
    exact (h5 i b ins[i] hi (by simp [hi'])).lt
  have hinv : Inv w C β ⟨args ++ List.replicate (fn.ntmps - args.length) .dead, ins, []⟩ { tmps := vals.toArray ++ Array.replicate (fn.ntmps - vals.toArray.size) undef, defers := [] } w := by
    refine ⟨⟨C, β, []⟩, ⟨h1, Sub.refl _, fun _ _ hc => .inl hc, ⟨[], by simp, by simp⟩, h2, h3, h4, h5, rfl, fun g r y hg => by simp at hg, fun g e k n cs y b hg => by simp at hg, fun g e k n cs y h' e' k' n' cs' z b _ hg => by simp at hg, fun g y hg => by simp at hg, Keeps.refl _ _, h0⟩, ?_, rfl⟩
    have : (vals.toArray ++ Array.replicate (fn.ntmps - vals.toArray.size) undef).toList = vals ++ List.replicate (fn.ntmps - args.length) undef := by simp [hl]
    rw [this]
    exact A.repL_append h6 (rep_deads _ _)
  unfold Ok at hinit
  refine hinit w C β _ w _ (by rw [← h4, hn]) hinv ?_
  have fin : ∀ (s' : S) (a' : Act) (w' : World), retK c fn.results.toList post s' → Inv w C β s' a' w' → a'.defers = [] ∧ ∃ v, (results fn a'.tmps).run c.P w' = .ok v w' ∧ ∃ outs r v', Ending.returned v = .returned v' ∧ post outs r ∧ Keeps β w w' ∧ outs.length = β.length ∧
      (∀ (i b : Nat) (cs : List A), β[i]? = some b → outs[i]? = some cs → boxAt w' ⟨plus C w w', β, []⟩ b cs) ∧ r.rep ⟨plus C w w', β, []⟩ v' := fun s' a' w' hr ⟨E, hp, ht, hd⟩ => by
    obtain ⟨r, v, g1, g2, g3⟩ := resK_ok (fn := fn) hc hp ht hr
    refine ⟨hd, v, g3, ?_⟩
    split at g1
    · rename_i outs houts
      split at g1
      · rename_i r' hr'
        obtain ⟨C1, hp1, le1⟩ := hp.pubs (idsA r ++ idsLL (takeL c.np s'.bx))
        obtain ⟨β', hβ, hβ'⟩ := hp.bp
        have hnp : β.length = c.np := by rw [← h4, hn]
        have hβl : β.length ≤ E.β.length := by rw [hβ]; simp
        have hget : ∀ i : Nat, i < β.length → E.β[i]? = β[i]? := fun i hi => by rw [hβ, List.getElem?_append_left hi]
        have hY : Picks ⟨C1, E.β, E.ρ⟩ (upto c.np) β := fun j i hj => by
          obtain ⟨rfl, hi⟩ := upto_get hj
          have : i < β.length := by rw [hnp]; exact hi
          exact ⟨β[i], by simp [this], by rw [hget i this]; simp [this]⟩
        have lep : (⟨C1, β, []⟩ : Env).le ⟨plus C w w', β, []⟩ := ⟨fun ad u hc => by
          show plus C w w' ad = some u
          unfold plus
          rcases hp1.fresh ad u hc with h7 | h7
          · rw [if_pos (World.block_lt_of_cell? w ad (h1 ad u h7))]; exact h7
          · rw [if_neg (by omega)]; exact hp1.sub ad u hc, fun _ _ h => h, fun _ _ h => h⟩
        obtain ⟨k1, k2⟩ := renLL_get houts
        have hbl := hp.bl
        refine ⟨outs, r', v, rfl, g1, hp.keep, by rw [k1, takeL_eq, List.length_take]; omega, fun i b cs h7 h8 => ?_, A.rep.mono _ lep (ren_rep hp1 hY r hr' (A.rep.mono _ le1 g2))⟩
        obtain ⟨c0, h9, h10⟩ := k2 i cs h8
        have hi := (List.getElem?_eq_some_iff.1 h7).1
        rw [takeL_eq, List.getElem?_take, if_pos (by omega)] at h9
        obtain ⟨T', arr, q1, q2⟩ := hp1.bxs i b c0 (by rw [← h7]; exact hget i hi) h9
        exact ⟨T', arr, q1, A.repC.mono _ lep (A.repC_mk (renL_rep hp1 hY c0 h10 (A.repC_L q2)) (A.repC_one q2))⟩
      · exact g1.elim
    · exact g1.elim
  intro e s' a' w' hq hi
  cases e with
  | normal => exact fin s' a' w' hq hi
  | ret => exact fin s' a' w' hq hi
  | _ => exact hq.elim
theorem specF_of_ok {f : Nat} {fn : Func} {x : Code} {args : List A} {post : Nat → Nat → Nat → List A → A → Prop} (hc : c.ok) (hf : c.P.funcs[f]? = some fn) (hb : fn.body = some x) (hname : (fn.name == "runtime.NumGoroutine") = false)
    (hn : c.np = 0) (h : okL args → initK args (fn.ntmps - args.length) fun t => Ok c x ⟨t, [], []⟩ (endF c fn.results.toList post)) : SpecF c.P f args post := by
  refine ⟨callable hf hb hname, fun w C vals h0 h1 h6 => ?_⟩
  have hl := A.repL_len h6
  refine calls_of_wp hf hb ?_
  have hinit := initK_iff.1 (h (okL_rep _ h6))
  have hinv : Inv w C [] ⟨args ++ List.replicate (fn.ntmps - args.length) .dead, [], []⟩ { tmps := vals.toArray ++ Array.replicate (fn.ntmps - vals.toArray.size) undef, defers := [] } w := by
    refine ⟨⟨C, [], []⟩, ⟨h1, Sub.refl _, fun _ _ hc => .inl hc, ⟨[], by simp, by simp⟩, List.nodup_nil, by simp, rfl, fun i b cs hi => by simp at hi, rfl, fun g r y hg => by simp at hg, fun g e k n cs y b hg => by simp at hg, fun g e k n cs y h' e' k' n' cs' z b _ hg => by simp at hg, fun g y hg => by simp at hg, Keeps.refl _ _, h0⟩, ?_, rfl⟩
    have : (vals.toArray ++ Array.replicate (fn.ntmps - vals.toArray.size) undef).toList = vals ++ List.replicate (fn.ntmps - args.length) undef := by simp [hl]
    rw [this]
    exact A.repL_append h6 (rep_deads _ _)
  unfold Ok at hinit
  refine hinit w C [] _ w _ (by rw [hn]; rfl) hinv ?_
  have fin : ∀ (s' : S) (a' : Act) (w' : World), (∃ g, retF c g fn.results.toList post s') → Inv w C [] s' a' w' → a'.defers = [] ∧ ∃ v, (results fn a'.tmps).run c.P w' = .ok v w' ∧ ∃ (et k n : Nat) (cs : List A) (r : A) (v' y : Value) (xs : List Value) (C' : Rd), Ending.returned v = .returned v' ∧ post et k n cs r ∧ Keeps [] w w' ∧ Sub C C' ∧ Sub C' w'.cell? ∧
      (∀ ad u, C' ad = some u → C ad = some u ∨ w.heap.size ≤ ad.block) ∧ (∀ b, y.ownBlock = some b → ∀ o sp, C' ⟨b, o, sp⟩ = none) ∧ w'.ownsRow w.heap.size et k y n xs ∧ A.repC cs ⟨C', [], []⟩ xs ∧ r.rep ⟨C', [], [y]⟩ v' := fun s' a' w' ⟨g, hr⟩ ⟨E, hp, ht, hd⟩ => by
    unfold retF at hr
    obtain ⟨r, v, g1, g2, g3⟩ := resK_ok (fn := fn) hc hp ht hr
    refine ⟨hd, v, g3, ?_⟩
    obtain ⟨C1, hp1, le1⟩ := hp.pubs (notG g (idsA r))
    split at g1
    · rename_i e k n cs hg
      split at g1
      · rename_i r' hr'
        have hgl := (List.getElem?_eq_some_iff.1 hg).1
        obtain ⟨y, hy⟩ : ∃ y, E.ρ[g]? = some y := ⟨_, List.getElem?_eq_getElem (by rw [show E.ρ.length = (pubRows s'.rw (notG g (idsA r))).length from hp1.rl.symm]; exact hgl)⟩
        obtain ⟨xs, k1, k2⟩ := hp1.rws g _ y hg hy
        exact ⟨e, k, n, cs, r', v, y, xs, C1, rfl, g1, hp1.keep, hp1.base, hp1.sub, hp1.fresh, fun b hb => (hp1.rC g e k n cs y b hg hy hb).2, k1, k2, resRow_rep (E := ⟨C1, E.β, E.ρ⟩) hp1 hy r hr' (A.rep.mono _ le1 g2)⟩
      · exact g1.elim
    · exact g1.elim
  intro e s' a' w' hq hi
  cases e with
  | normal => exact fin s' a' w' hq hi
  | ret => exact fin s' a' w' hq hi
  | _ => exact hq.elim
theorem specF_of {f : Nat} {fn : Func} {x : Code} {args : List A} {post : Nat → Nat → Nat → List A → A → Prop} (hc : c.ok) (hf : c.P.funcs[f]? = some fn) (hb : fn.body = some x) (hname : (fn.name == "runtime.NumGoroutine") = false)
    (hn : c.np = 0) (hord : ordOk c.ord x = true) (h : okL args → initK args (fn.ntmps - args.length) fun t => awp c x ⟨t, [], []⟩ (endF c fn.results.toList post)) : SpecF c.P f args post :=
  specF_of_ok hc hf hb hname hn fun ho => initK_iff.2 (ok_of_awp hc hord (initK_iff.1 (h ho)))
theorem spec_of {f : Nat} {fn : Func} {x : Code} {ins : List (List A)} {args : List A} {post : List (List A) → A → Prop} (hc : c.ok) (hf : c.P.funcs[f]? = some fn) (hb : fn.body = some x) (hname : (fn.name == "runtime.NumGoroutine") = false)
    (hn : ins.length = c.np) (hord : ordOk c.ord x = true) (h : okL args → initK args (fn.ntmps - args.length) fun t => awp c x ⟨t, ins, []⟩ (endK c fn.results.toList post)) : Spec c.P f ins args post :=
  spec_of_ok hc hf hb hname hn fun ho => initK_iff.2 (ok_of_awp hc hord (initK_iff.1 (h ho)))
end
end Go.Proofs.YtinjgckpmblffaaDoor.Vm
