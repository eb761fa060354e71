/- Operations that make memory or call; append. -/
import Derived.Test.YtinjgckpmblffaaDoorVm8
namespace Go.Proofs.YtinjgckpmblffaaDoor.Vm
open Go.RowKit
set_option linter.unusedSimpArgs false
set_option linter.unusedVariables false
mutual
/-- The own rows that occur. -/
def idsA : A → List Nat
  | .own g => [g]
  | .orow g _ => [g]
  | .clo _ l => idsL l
  | .agg l => idsL l
  | .tup l => idsL l
  | _ => []
def idsL : List A → List Nat
  | [] => []
  | a :: r => idsA a ++ idsL r
end
def zerosK : Nat → List Value → (List A → Prop) → Prop
  | 0, _, K => K []
  | n + 1, z, K => mapK constA z fun l => zerosK n z fun r => K (l ++ r)
theorem zerosK_iff : ∀ {n : Nat} {z : List Value} {K : List A → Prop}, zerosK n z K → ∃ cs, K cs ∧ cs = (List.replicate n (z.map constA)).flatten
  | 0, z, K, h => ⟨[], h, by simp⟩
  | n + 1, z, K, h => by
    unfold zerosK at h
    rw [mapK_iff] at h
    obtain ⟨cs, h1, h2⟩ := zerosK_iff h
    exact ⟨_, h1, by rw [h2, List.replicate_succ, List.flatten_cons]⟩
def acalm (P : Program) (T : List (Nat × Te)) (Xr : Nat → Bool) (s : S) (op : Op) (K : A → S → Prop) : Prop :=
  match op with
  | .alloc t => match Tab.get T t with
    | some e => mapK constA e.z fun cs => snocK s.bx cs 0 fun n bx => withB s bx (K (.box n 0))
    | none => False
  | .box t x => cellsK (ev s x) fun cs => snocK s.bx cs 0 fun n bx => withB s bx (K (.box n 0))
  | .buildSlice t n ps => match Tab.get T t with
    | some ⟨.slice e, _, _⟩ => match Tab.get T e with
      | some el => match Nat.ble (n * el.z.length) 16777216, el.z with
        | true, _ :: _ => zerosK n el.z fun cs => fillK s (fun i => some (i * el.z.length, el.z.length)) ps.toList cs fun cs' =>
          match renL [] (pubRows s.rw (idsL cs')) cs' with
          | some ds => snocK (pubRows s.rw (idsL cs')) (.live e el.z.length n ds) 0 fun g rw => forceR rw fun rw => withR s rw (K (.own g))
          | none => False
        | _, _ => False
      | none => False
    | _ => False
  | .call ⟨.value f, args, _⟩ => match ev s f with
    | .clo f caps => mapK (ev s) args.toList fun l => CallW P Xr f (l ++ caps) s K
    | _ => False
  | _ => False
section
variable {P : Program} {T : List (Nat × Te)} {w0 w : World} {C0 : Rd} {β0 : List Nat} {s : S} {a : Act} {E : Env} {o : Oper}
theorem zero_cells {z : List Value} {x : Value} (h : x.cells.toList = z) (h1 : ∀ u ∈ z, u.oneCell' = true) (E : Env) : A.repC (z.map constA) E x.cells.toList := by
  rw [h]
  refine A.repC_mk ?_ h1
  have := A.repL_map (E := E) z constA id (fun u hu => constA_rep u E)
  simpa using this
theorem rep_zeros {z : List Value} (h1 : ∀ u ∈ z, u.oneCell' = true) (E : Env) (n : Nat) : A.repC (List.replicate n (z.map constA)).flatten E (List.replicate n z).flatten := by
  induction n with
  | zero => simp [A.repC]
  | succ n ih =>
    rw [List.replicate_succ, List.flatten_cons, List.replicate_succ, List.flatten_cons]
    refine A.repC_append ?_ ih
    exact A.repC_mk (by have := A.repL_map (E := E) z constA id (fun u hu => constA_rep u E); simpa using this) h1
theorem flat_rep (l : List Value) (hl : 0 < l.length) : ∀ (n i : Nat), i < n * l.length → (List.replicate n l).flatten[i]? = l[i % l.length]?
  | 0, i, h => by simp at h
  | n + 1, i, h => by
    rw [List.replicate_succ, List.flatten_cons]
    by_cases hi : i < l.length
    · rw [List.getElem?_append_left hi, Nat.mod_eq_of_lt hi]
    · rw [List.getElem?_append_right (by omega), flat_rep l hl n (i - l.length) (by rw [Nat.add_mul] at h; omega)]
      rw [Nat.mod_eq_sub_mod (a := i) (by omega)]
theorem range_zeros (z : Array Value) (hz : 0 < z.size) (n : Nat) : ((Array.range (n * z.size)).map (fun i => z[i % z.size]!)).toList = (List.replicate n z.toList).flatten := by
  apply List.ext_getElem?
  intro i
  have hl : z.toList.length = z.size := by simp
  by_cases hi : i < n * z.size
  · rw [flat_rep z.toList (by omega) n i (by rw [hl]; exact hi), hl]
    have hm := Nat.mod_lt i hz
    simp [hi, hm]
  · rw [List.getElem?_eq_none (by simpa using hi), List.getElem?_eq_none (by simp; omega)]
/-- Zero values are cells. -/
def zeroOk (T : List (Nat × Te)) : Prop := ∀ t e, Tab.get T t = some e → ∀ u ∈ e.z, u.oneCell' = true
theorem calm_ok {Xr : Nat → Bool} {K : A → S → Prop} {Kc : Act → World → Prop} {Q : Exit → Act → World → Prop} (hT : Tab.ok P T) (hz : zeroOk T) (hp : Hp w0 C0 β0 s.bx s.rw w E) (ht : A.repL s.t E a.tmps.toList) (h : acalm P T Xr s o.op K)
    (hk : ∀ y w', Left w0 C0 β0 Xr s E w K y w' → Kc (a.put o.dst y) w') : o.wp P a w Kc Q := by
  have same : ∀ {w' : World}, Keeps [] w w' → Same Xr E w w' := fun k b hb _ => k.block b hb (by simp)
  cases ho : o.op with
  | alloc t =>
    rw [ho] at h
    unfold acalm at h
    simp only at h
    split at h
    · rename_i e htab
      rw [mapK_iff, snocK_iff, withB_iff] at h
      obtain ⟨z, hz1, hz2⟩ := hT.zero htab
      have hr := zero_cells hz1 (hz t e htab) E
      obtain ⟨h1, le⟩ := hp.box z.cells t hr
      have hrun : (execOp a.eval o).run P w = .ok (.value (.pointer (some ⟨w.heap.size, 0, none⟩))) (w.alloc (.cells z.cells t)) := by
        simp [execOp, ho, Instr.alloc, hz2, newVar, newRow, newObj, Sem.run, Result.andThen]
      unfold Oper.wp
      rw [hrun]
      refine hk _ _ ⟨_, _, _, h, rfl, le, h1, ?_, same (Keeps.alloc _ _), (Keeps.alloc _ _).size⟩
      unfold A.rep
      exact ⟨w.heap.size, by rw [Nat.zero_add, hp.bl]; simp, rfl⟩
    · exact h.elim
  | box t x =>
    rw [ho] at h
    unfold acalm at h
    simp only at h
    obtain ⟨cs, h, hr⟩ := cellsK_rep hp h (ev_rep ht x)
    rw [snocK_iff, withB_iff] at h
    obtain ⟨h1, le⟩ := hp.box (a.eval x).cells t hr
    have hrun : (execOp a.eval o).run P w = .ok (.value (.pointer (some ⟨w.heap.size, 0, none⟩))) (w.alloc (.cells (a.eval x).cells t)) := by
      simp [execOp, ho, Instr.box, newVar, newRow, newObj, Sem.run, Result.andThen]
    unfold Oper.wp
    rw [hrun]
    refine hk _ _ ⟨_, _, _, h, rfl, le, h1, ?_, same (Keeps.alloc _ _), (Keeps.alloc _ _).size⟩
    unfold A.rep
    exact ⟨w.heap.size, by rw [Nat.zero_add, hp.bl]; simp, rfl⟩
  | buildSlice t n ps =>
    rw [ho] at h
    unfold acalm at h
    simp only at h
    split at h
    · rename_i e z b' htab
      split at h
      · rename_i el hel
        split at h
        · rename_i z0 zr hble hez
          obtain ⟨cs, h, hcs⟩ := zerosK_iff h
          have hu := hT.slice htab
          obtain ⟨zv, hz1, hz2⟩ := hT.zero hel
          have hzs : zv.cells.size = el.z.length := by rw [← hz1]; simp
          have hpos : 0 < zv.cells.size := by rw [hzs, hez]; simp
          have hr0 := rep_zeros (hz e el hel) E n
          rw [← hz1, ← range_zeros zv.cells hpos, hz1, ← hcs] at hr0
          obtain ⟨cs', arr', k1, k2, k3, k4⟩ := fillK_rep hp ht h hr0
          split at k1
          · rename_i ds hds
            rw [snocK_iff, forceR_iff, withR_iff] at k1
            obtain ⟨C1, hp1, le1⟩ := hp.pubs (idsL cs')
            have hY : Picks ⟨C1, E.β, E.ρ⟩ [] [] := fun j i h => by simp at h
            have hrd := A.repC_mk (renL_rep hp1 hY cs' hds (A.repL.mono cs' le1 (A.repC_L k3))) (A.repC_one k3)
            have hbl : n * el.z.length ≤ 16777216 := Nat.le_of_ble_eq_true hble
            have hnm : n ≤ maxLen := by
              have : n * 1 ≤ n * el.z.length := Nat.mul_le_mul_left n (by rw [hez]; simp)
              unfold maxLen; omega
            have hsz : arr'.size = n * el.z.length := by rw [k4]; simp [hzs]
            obtain ⟨h2, le2⟩ := hp1.row arr' e el.z.length n hrd hsz hnm
            have hsize := hT.size hel w
            have hrun : (execOp a.eval o).run P w = .ok (.value (.slice (some ⟨w.heap.size, 0, none⟩) n n)) (w.alloc (.cells arr' e)) := by
              have hps : (ps.map fun x => (x.1, a.eval x.2)).toList = ps.toList.map fun x => (x.1, a.eval x.2) := by simp
              have hn0 : ¬ (2 ^ 24 < n * el.z.length) := by omega
              by_cases h0 : n = 0
              · subst h0
                have k2' : Instr.fill (fun i => some (i * el.z.length, el.z.length)) #[] (ps.toList.map fun x => (x.1, a.eval x.2)) = some arr' := by simpa [show Array.range 0 = #[] from rfl] using k2
                simp [execOp, ho, Instr.buildSlice, underlying, program, hu, hsize, show Array.range 0 = #[] from rfl, k2', newRow, newObj, Sem.run, Result.andThen]
              · have hn1 : ¬ (n * el.z.length = 0) := by
                  intro h9
                  rcases Nat.mul_eq_zero.1 h9 with h9 | h9
                  · exact h0 h9
                  · rw [hez] at h9; simp at h9
                have hn2 : ¬ (n = 0 ∨ el.z = []) := by rintro (h9 | h9); exact h0 h9; rw [hez] at h9; cases h9
                rw [hzs] at k2
                simp [execOp, ho, Instr.buildSlice, underlying, program, hu, hsize, hn0, hn1, hz2 w, hzs, k2, newRow, newObj, Sem.run, Result.andThen]
            unfold Oper.wp
            rw [hrun]
            refine hk _ _ ⟨_, _, _, k1, rfl, le1.trans le2, h2, ?_, same (Keeps.alloc _ _), (Keeps.alloc _ _).size⟩
            unfold A.rep
            have hl := hp1.rl
            rw [Nat.zero_add, hl]
            simp
          · exact k1.elim
        · exact h.elim
      · exact h.elim
    · exact h.elim
  | call c =>
    obtain ⟨callee, args, ts⟩ := c
    cases callee with
    | value f =>
      rw [ho] at h
      unfold acalm at h
      simp only at h
      split at h
      · rename_i g caps hev
        rw [mapK_iff] at h
        have hf := ev_rep ht f
        rw [hev] at hf
        unfold A.rep at hf
        obtain ⟨us, hf, hcaps⟩ := hf
        obtain ⟨h1, h2⟩ := call_ok hp (A.repL_append (caps_rep ht args.toList) hcaps) h
        have hrun : (execOp a.eval o).run P w = .ok (.enter g (args.map a.eval ++ us)) w := by
          simp [execOp, ho, resolve, Deferred.ofValue, hf, invoke, h1, Result.andThen]
        unfold Oper.wp
        rw [hrun, Oper.upon_enter]
        have he : (args.toList.map a.eval ++ us.toList).toArray = args.map a.eval ++ us := by
          apply Array.toList_inj.1
          simp
        rw [he] at h2
        refine h2.mono ?_
        rintro e w' ⟨y, rfl, hl⟩
        exact hk y w' hl
      · exact h.elim
    | _ => rw [ho] at h; exact h.elim
  | _ => rw [ho] at h; exact h.elim
end
end Go.Proofs.YtinjgckpmblffaaDoor.Vm
