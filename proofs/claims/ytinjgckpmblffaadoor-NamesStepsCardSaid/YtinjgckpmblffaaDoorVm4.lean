/- More of the operations that ask no memory; all of them in one; loads. -/
import Derived.Test.YtinjgckpmblffaaDoorVm3
namespace Go.Proofs.YtinjgckpmblffaaDoor.Vm
open Go.RowKit
set_option linter.unusedSimpArgs false
set_option linter.unusedVariables false
section
variable {P : Program} {T : List (Nat × Te)} {w0 w : World} {C0 : Rd} {β0 : List Nat} {s : S} {a : Act} {E : Env} {K : A → Prop} {o : Oper}
theorem own_parts {e k n : Nat} {y : Value} {xs : List Value} {base : Nat} (h : w.ownsRow base e k y n xs) : xs.length = n * k ∧ n ≤ maxLen ∧ ((y = .slice none 0 0 ∧ n = 0) ∨ ∃ b cap, y = .slice (some ⟨b, 0, none⟩) n cap ∧ n ≤ cap ∧ ∀ j u, xs[j]? = some u → w.cell? ⟨b, j, none⟩ = some u) := by
  refine ⟨h.1, ?_, ?_⟩
  · rcases h.2 with ⟨_, rfl⟩ | ⟨g, cap, cur, _, _, _, h1, h2, _⟩
    · exact Nat.zero_le _
    · exact Nat.le_trans h1 h2
  · rcases own_cells h with ⟨h1, h2, _⟩ | ⟨g, cap, h1, _, _, h2, h3⟩
    · exact .inl ⟨h1, h2⟩
    · exact .inr ⟨g, cap, h1, h2, h3⟩
theorem row_parts (hp : Hp w0 C0 β0 s.bx s.rw w E) (ht : A.repL s.t E a.tmps.toList) {x : Operand} {g : Nat} {r : Row} (hx : ev s x = .own g) (hg : s.rw[g]? = some r) : E.ρ[g]? = some (a.eval x) ∧ rowRep w w0.heap.size E r (a.eval x) := by
  have := ev_rep ht x
  rw [hx] at this
  unfold A.rep at this
  exact ⟨this, hp.rws g r _ hg this⟩
theorem sl_parts {k n : Nat} {cs : List A} {y : Value} (h : (A.sl k n cs).rep E y) : cs.length = n * k ∧ n ≤ maxLen ∧ ∃ p b off cap, y = .slice p n cap ∧ n ≤ cap ∧ (n = 0 ∨ p = some ⟨b, off, none⟩) ∧ (p = none → cap = 0) ∧ A.repAt cs E.per b off := by
  unfold A.rep at h; exact h
theorem indexAt_run {t e : TypeId} {el : Te} {z : List Value} {b' : Nat} (hT : Tab.ok P T) (h1 : Tab.get T t = some ⟨.slice e, z, b'⟩) (h2 : Tab.get T e = some el) {k : IntKind} {i : Int} {b off n cap : Nat} (hi : 0 ≤ i ∧ i < n) (w' : World) :
    (Instr.indexAt t (.slice (some ⟨b, off, none⟩) n cap) (.int k i)).run P w' = .ok (.pointer (some ⟨b, off + i.toNat * el.z.length, none⟩)) w' := by
  have hu := hT.slice h1
  have hs := hT.size h2 w'
  simp [Instr.indexAt, asIntOf, underlying, program, hu, hi, hs, Result.andThen, Sem.run, add_blk]
theorem pure_indexAddr {t : Nat} {x i : Operand} (hT : Tab.ok P T) (hp : Hp w0 C0 β0 s.bx s.rw w E) (ht : A.repL s.t E a.tmps.toList) (ho : o.op = .indexAddr t x i) (h : apure T s (.indexAddr t x i) K) : Gives P a o E K := by
  unfold apure at h
  simp only at h
  split at h
  · rename_i e z b' htab
    split at h
    · rename_i el hel
      split at h
      · rename_i ki i' hi
        obtain ⟨hi, oki⟩ := of_v ht hi
        have key : ∀ b off n cap, a.eval x = .slice (some ⟨b, off, none⟩) n cap → (0 ≤ i' ∧ i' < n) → ∀ w', (execOp a.eval o).run P w' = .ok (.value (.pointer (some ⟨b, off + i'.toNat * el.z.length, none⟩))) w' := fun b off n cap ex hin w' => by
          have e := indexAt_run (P := P) hT htab hel (k := ki) (b := b) (off := off) (cap := cap) hin w'
          simp [execOp, ho, hi, ex, e, Result.andThen]
        split at h
        · rename_i k n cs hx
          split at h
          rotate_left
          · exact h.elim
          rename_i hbq
          obtain rfl := Nat.eq_of_beq_eq_true hbq
          obtain ⟨hin, h⟩ := h
          have hr := ev_rep ht x
          rw [hx] at hr
          obtain ⟨hl, hm, p, b, off, cap, hv, hc, hpn, hn, hat⟩ := sl_parts hr
          obtain rfl : p = some ⟨b, off, none⟩ := hpn.resolve_left (by omega)
          refine ⟨_, _, h, ?_, key b off n cap hv hin⟩
          unfold A.rep
          exact ⟨b, _, rfl, by unfold rowOf; exact A.repAt_take _ (A.repAt_drop _ hat)⟩
        · rename_i g hx
          split at h
          · rename_i e' k n cs hg
            split at h
            rotate_left
            · exact h.elim
            rename_i hbq
            obtain rfl := Nat.eq_of_beq_eq_true hbq
            obtain ⟨hin, h⟩ := h
            obtain ⟨hy, xs, hown, hr⟩ := row_parts hp ht hx hg
            obtain ⟨h1, h2, h3 | ⟨b, cap, h3, h4, h5⟩⟩ := own_parts hown
            · omega
            · rw [h3] at hy
              refine ⟨_, _, h, ?_, key b 0 n cap h3 hin⟩
              unfold A.rep
              exact ⟨b, n, cap, hy, by simp⟩
          · rename_i k n cs hg
            split at h
            rotate_left
            · exact h.elim
            rename_i hbq
            obtain rfl := Nat.eq_of_beq_eq_true hbq
            obtain ⟨hin, h⟩ := h
            obtain ⟨hy, hr⟩ := row_parts hp ht hx hg
            obtain ⟨hl, hm, p, b, off, cap, hv, hc, hpn, hn, hat⟩ := sl_parts hr
            obtain rfl : p = some ⟨b, off, none⟩ := hpn.resolve_left (by omega)
            refine ⟨_, _, h, ?_, key b off n cap hv hin⟩
            unfold A.rep
            exact ⟨b, _, rfl, by unfold rowOf; exact A.repAt_take _ (A.repAt_drop _ hat)⟩
          · exact h.elim
        · exact h.elim
      · exact h.elim
    · exact h.elim
  · exact h.elim
theorem str_get (x : ByteArray) (i : Nat) (h : i < x.size) : x[i]? = some (x.data.toList.getD i 0) := by
  rw [getElem?_pos x i h]
  simp only [List.getD_eq_getElem?_getD]
  rw [List.getElem?_eq_getElem (by simpa using h)]
  rfl
theorem pure_index {t : Nat} {x i : Operand} (hT : Tab.ok P T) (ht : A.repL s.t E a.tmps.toList) (ho : o.op = .index t x i) (h : apure T s (.index t x i) K) : Gives P a o E K := by
  unfold apure at h
  simp only at h
  split at h
  · rename_i z b' htab
    split at h
    · rename_i x' ki i' hx hi
      obtain ⟨hi, oki⟩ := of_v ht hi
      obtain ⟨hx, okx⟩ := of_v ht hx
      obtain ⟨⟨h1, h2⟩, h⟩ := h
      have hu := hT.strs htab
      refine ⟨_, _, h, rep_int ⟨by simp [lo], by have := (x'.data.toList.getD i'.toNat 0).toNat_lt; show _ ≤ (255 : Int); omega⟩, fun w' => ?_⟩
      have hg := str_get x' i'.toNat (by omega)
      simp only [execOp, ho, hx, hi, Instr.index]
      simp [asIntOf, underlying, program, hu, h1, hg, Result.andThen, Sem.run]
    · exact h.elim
  · exact h.elim
theorem pure_extract {x : Operand} {i : Nat} (ht : A.repL s.t E a.tmps.toList) (ho : o.op = .extract x i) (h : apure T s (.extract x i) K) : Gives P a o E K := by
  unfold apure at h
  simp only at h
  split at h
  · rename_i l hx
    split at h
    · rename_i r hr
      have hv := ev_rep ht x
      rw [hx] at hv
      unfold A.rep at hv
      obtain ⟨us, hv, hl⟩ := hv
      obtain ⟨u, hu, ha⟩ := A.repL_get hl hr
      have hu' : us[i]? = some u := by simpa using hu
      exact ⟨_, u, h, ha, fun w' => by simp [execOp, ho, hv, Instr.extract, hu', Result.andThen]⟩
    · exact h.elim
  · exact h.elim
theorem caps_rep (ht : A.repL s.t E a.tmps.toList) : ∀ l : List Operand, A.repL (l.map (ev s)) E (l.map a.eval)
  | [] => by simp [A.repL]
  | x :: r => by
    simp only [List.map_cons]
    unfold A.repL
    exact ⟨_, _, rfl, ev_rep ht x, caps_rep ht r⟩
theorem pure_makeFunc {f : Fn} {first caps : Array Operand} (ht : A.repL s.t E a.tmps.toList) (ho : o.op = .makeFunc f first caps) (h : apure T s (.makeFunc f first caps) K) : Gives P a o E K := by
  cases f with
  | func f =>
    unfold apure at h
    simp only at h
    split at h
    · rename_i hf
      obtain rfl : first = #[] := Array.toList_eq_nil_iff.1 hf
      refine ⟨_, .func (.func f) #[] (caps.map a.eval), h, ?_, fun w' => by simp [execOp, ho, Instr.makeFunc, Result.andThen]⟩
      unfold A.rep
      exact ⟨_, rfl, by rw [Array.toList_map]; exact caps_rep ht _⟩
    · exact h.elim
  | _ => exact h.elim
theorem pure_len {args : Array Operand} {ts : Array TypeId} (hT : Tab.ok P T) (hp : Hp w0 C0 β0 s.bx s.rw w E) (ht : A.repL s.t E a.tmps.toList) (ho : o.op = .call ⟨.builtin .len, args, ts⟩) (h : apure T s (.call ⟨.builtin .len, args, ts⟩) K) : Gives P a o E K := by
  unfold apure at h
  simp only at h
  split at h
  · rename_i x hx
    split at h
    · rename_i t htt
      obtain rfl : args = #[x] := by rw [← hx]
      obtain rfl : ts = #[t] := by rw [← htt]
      have big : ∀ n : Nat, n ≤ maxLen → lo .i64 ≤ (n : Int) ∧ (n : Int) ≤ hi .i64 := fun n hn => by unfold maxLen at hn; simp [lo, hi]; omega
      split at h
      · rename_i z b' htab
        have hu := hT.strs htab
        split at h
        · rename_i x' hev
          obtain ⟨hv, ok⟩ := of_v ht hev
          have ok' : x'.size ≤ maxLen := ok
          exact ⟨_, _, h, rep_int (big _ ok'), fun w' => by simp [execOp, ho, hv, resolve, invoke, builtin, Builtin.len_, underlying, program, hu, goInt, Result.andThen, Sem.run]⟩
        · exact h.elim
      · rename_i e z b' htab
        have hu := hT.slice htab
        have key : ∀ p n cap, a.eval x = .slice p n cap → ∀ w', (execOp a.eval o).run P w' = .ok (.value (.int .i64 n)) w' := fun p n cap hv w' => by
          simp [execOp, ho, hv, resolve, invoke, builtin, Builtin.len_, underlying, program, hu, goInt, Result.andThen, Sem.run]
        split at h
        · rename_i k n cs hev
          have hr := ev_rep ht x
          rw [hev] at hr
          obtain ⟨hl, hm, p, b, off, cap, hv, _⟩ := sl_parts hr
          exact ⟨_, _, h, rep_int (big _ hm), key _ _ _ hv⟩
        · rename_i hev
          obtain ⟨hv, ok⟩ := of_v ht hev
          exact ⟨_, _, h, rep_int (big 0 (by simp)), key _ _ _ hv⟩
        · rename_i g hev
          split at h
          · rename_i e' k n cs hg
            obtain ⟨hy, xs, hown, hr⟩ := row_parts hp ht hev hg
            obtain ⟨h1, h2, ⟨h3, h4⟩ | ⟨b, cap, h3, h4, h5⟩⟩ := own_parts hown
            · subst h4; exact ⟨_, _, h, rep_int (big _ h2), key _ _ _ h3⟩
            · exact ⟨_, _, h, rep_int (big _ h2), key _ _ _ h3⟩
          · rename_i k n cs hg
            obtain ⟨hy, hr⟩ := row_parts hp ht hev hg
            obtain ⟨hl, hm, p, b, off, cap, hv, _⟩ := sl_parts hr
            exact ⟨_, _, h, rep_int (big _ hm), key _ _ _ hv⟩
          · exact h.elim
        · exact h.elim
      · exact h.elim
    · exact h.elim
  · exact h.elim
theorem bound_of {ob : Option Operand} {d : Value} {r : A} (ht : A.repL s.t E a.tmps.toList) (hd : okV d) (h : (match ob with | some l => ev s l | none => .v d) = r) : r.rep E ((ob.map a.eval).getD d) := by
  subst h
  cases ob with
  | none => exact A.rep_v hd
  | some l => exact ev_rep ht l
theorem run_bound {y : Nat} {k : IntKind} {i : Int} {c : BoundsCode} (h : 0 ≤ i ∧ i ≤ y) (w' : World) : (Instr.sliceBound (.int k i) y c).run P w' = .ok i.toNat w' := by
  simp [Instr.sliceBound, asIntOf, h, Result.andThen]
theorem run_bounds {isS : Bool} {len cap : Nat} {lw hg : Option Value} {kl kh : IntKind} {l h : Int} (hl : lw.getD (.int .i64 0) = .int kl l) (hh : hg.getD (.int .i64 len) = .int kh h) (b : 0 ≤ l ∧ l ≤ h ∧ h ≤ len) (hc : len ≤ cap) (w' : World) :
    (Instr.sliceBounds isS len cap lw hg none).run P w' = .ok (l.toNat, h.toNat, cap) w' := by
  obtain ⟨b1, b2, b3⟩ := b
  have h1 : (0 : Int) ≤ h ∧ h ≤ (cap : Int) := by omega
  have h2 : (0 : Int) ≤ l ∧ l ≤ (h.toNat : Int) := by omega
  cases hg with
  | none =>
    simp at hh
    obtain ⟨rfl, rfl⟩ := hh
    cases lw with
    | none =>
      simp at hl
      obtain ⟨rfl, rfl⟩ := hl
      simp [Instr.sliceBounds, Result.andThen]
    | some v =>
      simp at hl
      subst hl
      have e := fun c => run_bound (P := P) (k := kl) (c := c) (i := l) (y := len) (by omega) w'
      simp [Instr.sliceBounds, e, Result.andThen]
  | some v =>
    simp at hh
    subst hh
    have e1 := fun c => run_bound (P := P) (k := kh) (c := c) h1 w'
    cases lw with
    | none =>
      simp at hl
      obtain ⟨rfl, rfl⟩ := hl
      simp [Instr.sliceBounds, e1, Result.andThen]
    | some v =>
      simp at hl
      subst hl
      have e := fun c => run_bound (P := P) (k := kl) (c := c) h2 w'
      simp [Instr.sliceBounds, e1, e, Result.andThen]
theorem pure_slice {t : Nat} {x : Operand} {l h : Option Operand} (hT : Tab.ok P T) (ht : A.repL s.t E a.tmps.toList) (ho : o.op = .slice t x l h none) (hh : apure T s (.slice t x l h none) K) : Gives P a o E K := by
  unfold apure at hh
  simp only at hh
  split at hh
  · rename_i z b' htab
    have hu := hT.strs htab
    split at hh
    · rename_i x' hev
      obtain ⟨hv, ok⟩ := of_v ht hev
      have ok' : x'.size ≤ maxLen := ok
      split at hh
      · rename_i r1 r2 kl l' kh h' e1 e2
        have q1 := bound_of ht (d := .int .i64 0) (okV_int.2 (by decide)) e1
        have q2 := bound_of ht (d := .int .i64 x'.size) (okV_int.2 (by unfold maxLen at ok'; simp [lo, Vm.hi]; omega)) e2
        rw [A.rep_v_iff] at q1 q2
        obtain ⟨hb, hh⟩ := hh
        refine ⟨_, _, hh, A.rep_v (show (x'.extract l'.toNat h'.toNat).size ≤ maxLen by rw [ByteArray.size_extract]; omega), fun w' => ?_⟩
        have e := run_bounds (P := P) (isS := false) (cap := x'.size) (hl := q1.1) (hh := q2.1) hb (Nat.le_refl _) w'
        simp only [execOp, ho, hv, Option.map_none]
        simp [Instr.sliceAt, Instr.slice, underlying, program, hu, e, Result.andThen, Sem.run]
      · exact hh.elim
    · exact hh.elim
  · rename_i e z b' htab
    have hu := hT.slice htab
    split at hh
    · rename_i el hel
      split at hh
      · rename_i k n cs hev
        have hr := ev_rep ht x
        rw [hev] at hr
        obtain ⟨hlen, hm, p, b, off, cap, hv, hc, hpn, hn, hat⟩ := sl_parts hr
        split at hh
        · rename_i r1 r2 kl l' kh h' e1 e2
          have q1 := bound_of ht (d := .int .i64 0) (okV_int.2 (by decide)) e1
          have q2 := bound_of ht (d := .int .i64 n) (okV_int.2 (by unfold maxLen at hm; simp [lo, Vm.hi]; omega)) e2
          rw [A.rep_v_iff] at q1 q2
          split at hh
          rotate_left
          · exact hh.elim
          rename_i hbq
          obtain rfl := Nat.eq_of_beq_eq_true hbq
          obtain ⟨hb, hh⟩ := hh
          have hs := fun w' => hT.size hel w'
          have e := fun w' => run_bounds (P := P) (isS := true) (cap := cap) (hl := q1.1) (hh := q2.1) hb hc w'
          refine ⟨_, .slice (if cap = l'.toNat then p else p.map (·.add (l'.toNat * el.z.length))) (h'.toNat - l'.toNat) (cap - l'.toNat), hh, ?_, fun w' => ?_⟩
          · unfold A.rep
            have hn0 : ∀ m, (cs.drop (l'.toNat * el.z.length)).take ((h'.toNat - l'.toNat) * el.z.length) = m → m.length = (h'.toNat - l'.toNat) * el.z.length := fun m hm' => by
              subst hm'
              rw [List.length_take, List.length_drop, hlen]
              have := Nat.mul_le_mul_right el.z.length (show h'.toNat - l'.toNat + l'.toNat ≤ n by omega)
              rw [Nat.add_mul] at this
              omega
            by_cases hz : h'.toNat - l'.toNat = 0
            · refine ⟨hn0 _ rfl, by omega, _, b, off, _, rfl, by omega, .inl hz, ?_, ?_⟩
              · intro hp
                split at hp
                · omega
                · cases p with
                  | none => have := hn rfl; omega
                  | some ad => simp at hp
              · rw [hz]; simp [A.repAt]
            · obtain rfl : p = some ⟨b, off, none⟩ := hpn.resolve_left (by omega)
              rw [if_neg (by omega)]
              refine ⟨hn0 _ rfl, by omega, _, b, off + l'.toNat * el.z.length, _, rfl, by omega, .inr (by simp [add_blk]), by simp, A.repAt_take _ (A.repAt_drop _ hat)⟩
          · have e' := e w'
            have hs' := hs w'
            simp only [execOp, ho, hv, Option.map_none]
            simp [Instr.sliceAt, Instr.slice, underlying, program, hu, e', hs', Result.andThen, Sem.run]
        · exact hh.elim
      · exact hh.elim
    · exact hh.elim
  · exact hh.elim
theorem apure_ok (hT : Tab.ok P T) (hp : Hp w0 C0 β0 s.bx s.rw w E) (ht : A.repL s.t E a.tmps.toList) (h : apure T s o.op K) : Gives P a o E K := by
  cases ho : o.op with
  | move x => rw [ho] at h; exact ⟨_, _, h, ev_rep ht x, fun w' => by simp [execOp, ho]⟩
  | assign x => rw [ho] at h; exact ⟨_, _, h, ev_rep ht x, fun w' => by simp [execOp, ho]⟩
  | pick c x y =>
    rw [ho] at h
    unfold apure at h
    simp only at h
    split at h
    · rename_i b hc
      obtain ⟨hc, -⟩ := of_v ht hc
      rw [ifK_iff] at h
      cases b with
      | true => exact ⟨_, _, h.1 rfl, ev_rep ht x, fun w' => by simp [execOp, ho, hc, asBool, Result.andThen]⟩
      | false => exact ⟨_, _, h.2 rfl, ev_rep ht y, fun w' => by simp [execOp, ho, hc, asBool, Result.andThen]⟩
    · exact h.elim
  | binOp op t x y t' => rw [ho] at h; exact pure_binOp hT ht ho h
  | unOp op t x =>
    rw [ho] at h
    cases op with
    | not =>
      unfold apure at h
      simp only at h
      split at h
      · rename_i b hb
        obtain ⟨hb, -⟩ := of_v ht hb
        exact ⟨_, _, h, rep_bool, fun w' => by simp [execOp, ho, hb, Op.unary, Result.andThen]⟩
      · exact h.elim
    | neg =>
      unfold apure at h
      simp only at h
      split at h
      · rename_i k n hb
        obtain ⟨hb, -⟩ := of_v ht hb
        exact ⟨_, _, h.2, rep_int h.1, fun w' => by simp only [execOp, ho, hb, Op.unary, Op.intArith, wrap_in h.1]; simp [Result.andThen]⟩
      · exact h.elim
    | _ => exact h.elim
  | extract x i => rw [ho] at h; exact pure_extract ht ho h
  | makeFunc f first caps => rw [ho] at h; exact pure_makeFunc ht ho h
  | fieldAddr t x f => rw [ho] at h; exact pure_fieldAddr hT ht ho h
  | field t x f => rw [ho] at h; exact pure_field hT ht ho h
  | indexAddr t x i => rw [ho] at h; exact pure_indexAddr hT hp ht ho h
  | index t x i => rw [ho] at h; exact pure_index hT ht ho h
  | slice t x l hh m =>
    rw [ho] at h
    cases m with
    | none => exact pure_slice hT ht ho h
    | some _ => exact h.elim
  | call c =>
    rw [ho] at h
    obtain ⟨callee, args, ts⟩ := c
    cases callee with
    | builtin b =>
      cases b with
      | len => exact pure_len hT hp ht ho h
      | _ => exact h.elim
    | _ => exact h.elim
  | nilCheck x =>
    rw [ho] at h
    have hx := ev_rep ht x
    unfold apure at h
    simp only at h
    split at h
    · rename_i b off hev
      rw [hev] at hx
      have hx2 := hx
      unfold A.rep at hx
      obtain ⟨bb, _, hv⟩ := hx
      exact ⟨_, _, h, hx2, fun w' => by simp [execOp, ho, hv]⟩
    · rename_i cs hev
      rw [hev] at hx
      have hx2 := hx
      unfold A.rep at hx
      obtain ⟨b, off, hv, _⟩ := hx
      exact ⟨_, _, h, hx2, fun w' => by simp [execOp, ho, hv]⟩
    · rename_i f cs hev
      rw [hev] at hx
      have hx2 := hx
      unfold A.rep at hx
      obtain ⟨us, hv, _⟩ := hx
      exact ⟨_, _, h, hx2, fun w' => by simp [execOp, ho, hv]⟩
    · exact h.elim
  | _ => rw [ho] at h; exact h.elim
end
end Go.Proofs.YtinjgckpmblffaaDoor.Vm
