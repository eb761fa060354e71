/- A function that hands back a closure over variables of its own. -/
import Derived.Test.YthaccjcadgodlaaDoorVmU
namespace Go.Proofs.YthaccjcadgodlaaDoor.Vm
open Go.RowKit
set_option linter.unusedSimpArgs false
set_option linter.unusedVariables false
/-- What a closure has captured: the call's own variables are written no more. -/
def capP (rows : List Row) (bx : List (List A)) (a : A) : Option A := match ren [] rows a with
  | some a' => some a'
  | none => match a with
    | .box b off => match bx[b]? with
      | some cs => match renL [] rows (cs.drop off) with
        | some cs' => some (.pp cs')
        | none => none
      | none => none
    | _ => none
def capsP (rows : List Row) (bx : List (List A)) : List A → Option (List A)
  | [] => some []
  | a :: r => match capP rows bx a with
    | some a' => match capsP rows bx r with
      | some r' => some (a' :: r')
      | none => none
    | none => none
def retP (c : Cx) (rv : List ResultVar) (post : List (List A) → A → Prop) (s : S) : Prop :=
  resK c.T s rv fun r => match r with
    | .clo f caps => match capsP (pubRows s.rw (idsL caps)) s.bx caps with
      | some caps' => post [] (.clo f caps')
      | none => False
    | _ => False
def endP (c : Cx) (rv : List ResultVar) (post : List (List A) → A → Prop) (e : Exit) (s : S) : Prop :=
  match e with
  | .ret => retP c rv post s
  | .normal => retP c rv post s
  | _ => False
theorem spec_of_pub {c : Cx} {f : Nat} {fn : Func} {x : Code} {args : List A} {post : List (List A) → A → Prop} (hc : c.ok) (hf : c.P.funcs[f]? = some fn) (hb : fn.body = some x) (hname : (fn.name == "runtime.NumGoroutine") = false)
    (hn : c.np = 0) (hord : ordOk c.ord x = true) (h : okL args → initK args (fn.ntmps - args.length) fun t => awp c x ⟨t, [], []⟩ (endP c fn.results.toList post)) : Spec c.P f [] args post := by
  refine ⟨callable hf hb hname, fun w C β vals h0 h1 h2 h3 h4 h5 h6 => ?_⟩
  have hβ : β = [] := List.eq_nil_of_length_eq_zero (by simpa using h4.symm)
  subst hβ
  have hl := A.repL_len h6
  refine calls_of_wp hf hb ?_
  have hinit := initK_iff.1 (h (okL_rep _ h6))
  have hinv : Inv w C [] ⟨args ++ List.replicate (fn.ntmps - args.length) .dead, [], []⟩ { tmps := vals.toArray ++ Array.replicate (fn.ntmps - vals.toArray.size) undef, defers := [] } w := by
    refine ⟨⟨C, [], []⟩, ⟨h1, Sub.refl _, fun _ _ hc => .inl hc, ⟨[], by simp, by simp⟩, h2, h3, h4, h5, rfl, fun g r y hg => by simp at hg, fun g e k n cs y b hg => by simp at hg, fun g e k n cs y h' e' k' n' cs' z b _ hg => by simp at hg, fun g y hg => by simp at hg, Keeps.refl _ _, h0⟩, ?_, rfl⟩
    have : (vals.toArray ++ Array.replicate (fn.ntmps - vals.toArray.size) undef).toList = vals ++ List.replicate (fn.ntmps - args.length) undef := by simp [hl]
    rw [this]
    exact A.repL_append h6 (rep_deads _ _)
  refine awp_ok hc (by rw [hn]; rfl) x hord hinv hinit ?_
  have fin : ∀ (s' : S) (a' : Act) (w' : World), retP c fn.results.toList post s' → Inv w C [] s' a' w' → a'.defers = [] ∧ ∃ v, (results fn a'.tmps).run c.P w' = .ok v w' ∧ ∃ outs r v', Ending.returned v = .returned v' ∧ post outs r ∧ Keeps [] w w' ∧ outs.length = ([] : List Nat).length ∧
      (∀ (i b : Nat) (cs : List A), ([] : List Nat)[i]? = some b → outs[i]? = some cs → boxAt w' ⟨plus C w w', [], []⟩ b cs) ∧ r.rep ⟨plus C w w', [], []⟩ v' := fun s' a' w' hr ⟨E, hp, ht, hd⟩ => by
    obtain ⟨r, v, g1, g2, g3⟩ := resK_ok (fn := fn) hc hp ht hr
    refine ⟨hd, v, g3, ?_⟩
    split at g1
    · rename_i f' caps
      split at g1
      · rename_i caps' hcaps
        obtain ⟨C1, hp1, le1⟩ := hp.pubs (idsL caps)
        have lep : Sub C1 (plus C w w') := fun ad u hc => by
          unfold plus
          rcases hp1.fresh ad u hc with h7 | h7
          · rw [if_pos (World.block_lt_of_cell? w ad (h1 ad u h7))]; exact h7
          · rw [if_neg (by omega)]; exact hp1.sub ad u hc
        have le0 : (⟨C1, [], []⟩ : Env).le ⟨plus C w w', [], []⟩ := ⟨lep, fun _ _ h => h, fun _ _ h => h⟩
        have hY : Picks ⟨C1, E.β, E.ρ⟩ [] [] := fun j i hj => by simp at hj
        have one : ∀ (a a2 : A) (y : Value), capP (pubRows s'.rw (idsL caps)) s'.bx a = some a2 → a.rep E y → a2.rep ⟨plus C w w', [], []⟩ y := fun a a2 y hcp hy => by
          have hy1 := A.rep.mono a le1 hy
          unfold capP at hcp
          split at hcp
          · rename_i a3 hren
            cases hcp
            exact A.rep.mono _ le0 (ren_rep hp1 hY a hren hy1)
          · split at hcp
            · rename_i b off _
              split at hcp
              · rename_i cs hcs
                split at hcp
                · rename_i cs' hrn
                  cases hcp
                  unfold A.rep at hy1
                  obtain ⟨bb, q1, q2⟩ := hy1
                  obtain ⟨T', arr, q3, q4⟩ := hp1.bxs b bb cs q1 hcs
                  have hbb : w.heap.size ≤ bb := by
                    obtain ⟨β', e1, e2⟩ := hp1.bp
                    rw [List.nil_append] at e1
                    exact e2 bb (by rw [← e1]; exact List.mem_iff_getElem?.2 ⟨b, q1⟩)
                  unfold A.rep
                  refine ⟨bb, off, q2, ?_⟩
                  have q5 := A.repC_drop off q4
                  have q6 : A.repC cs' ⟨C1, [], []⟩ (arr.toList.drop off) := A.repC_mk (renL_rep hp1 hY (cs.drop off) hrn (A.repC_L q5)) (A.repC_one q5)
                  refine A.repAt_mk (E := (⟨plus C w w', [], []⟩ : Env).per) (A.repC.mono _ le0 q6) fun j u hj => ?_
                  show plus C w w' _ = _
                  rw [plus_new hbb]
                  rw [List.getElem?_drop] at hj
                  simp only [World.cell?, q3]
                  simpa using hj
                · cases hcp
              · cases hcp
            · cases hcp
        have all : ∀ (l l2 : List A) (us : List Value), capsP (pubRows s'.rw (idsL caps)) s'.bx l = some l2 → A.repL l E us → A.repL l2 ⟨plus C w w', [], []⟩ us := fun l => by
          induction l with
          | nil =>
            intro l2 us h7 h8
            unfold capsP at h7
            cases h7
            unfold A.repL at h8 ⊢
            exact h8
          | cons a l ih =>
            intro l2 us h7 h8
            unfold capsP at h7
            split at h7
            · rename_i a' ha
              split at h7
              · rename_i r' hr'
                cases h7
                unfold A.repL at h8 ⊢
                obtain ⟨u, us', rfl, q1, q2⟩ := h8
                exact ⟨u, us', rfl, one _ _ _ ha q1, ih _ _ hr' q2⟩
              · cases h7
            · cases h7
        refine ⟨[], _, v, rfl, g1, hp.keep, rfl, fun i b cs hb => by simp at hb, ?_⟩
        unfold A.rep at g2 ⊢
        obtain ⟨us, q1, q2⟩ := g2
        exact ⟨us, q1, all _ _ _ hcaps q2⟩
      · exact g1.elim
    · exact g1.elim
  intro e s' a' w' hq hi
  cases e with
  | normal => exact fin s' a' w' hq hi
  | ret => exact fin s' a' w' hq hi
  | _ => exact hq.elim
end Go.Proofs.YthaccjcadgodlaaDoor.Vm
