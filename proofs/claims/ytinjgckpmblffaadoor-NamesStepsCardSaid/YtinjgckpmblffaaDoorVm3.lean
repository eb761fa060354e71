/- The operations that ask no memory: they do what their abstract form says. -/
import Derived.Test.YtinjgckpmblffaaDoorVm2
namespace Go.Proofs.YtinjgckpmblffaaDoor.Vm
open Go.RowKit
set_option linter.unusedSimpArgs false
set_option linter.unusedVariables false
section
variable {P : Program} {T : List (Nat × Te)} {w0 w : World} {C0 : Rd} {β0 : List Nat} {s : S} {a : Act} {E : Env} {K : A → Prop} {o : Oper}
/-- An operation answers in whatever world. -/
def Gives (P : Program) (a : Act) (o : Oper) (E : Env) (K : A → Prop) : Prop := ∃ r y, K r ∧ r.rep E y ∧ ∀ w', (execOp a.eval o).run P w' = .ok (.value y) w'
theorem wrap_in {k : IntKind} {n : Int} (h : lo k ≤ n ∧ n ≤ hi k) : k.wrap n = n := by
  obtain ⟨h1, h2⟩ := h
  cases k <;> simp only [lo, hi] at h1 h2 <;> simp [IntKind.wrap, IntKind.bits, IntKind.signed] <;> omega
theorem rep_int {k : IntKind} {n : Int} {E : Env} (h : lo k ≤ n ∧ n ≤ hi k) : (A.v (.int k n)).rep E (.int k n) := A.rep_v (okV_int.2 h)
theorem rep_bool {b : Bool} {E : Env} : (A.v (.bool b)).rep E (.bool b) := A.rep_v trivial
theorem of_v {x : Value} {o : Operand} (ht : A.repL s.t E a.tmps.toList) (h : ev s o = .v x) : a.eval o = x ∧ okV x := by
  have := ev_rep ht o
  rw [h] at this
  exact A.rep_v_iff.1 this
theorem tmod_in {k : IntKind} {x y : Int} (h : lo k ≤ x ∧ x ≤ hi k) : lo k ≤ x.tmod y ∧ x.tmod y ≤ hi k := by
  have h0 : lo k ≤ 0 ∧ 0 ≤ hi k := by cases k <;> simp [lo, hi]
  rcases Int.le_total 0 x with hx | hx
  · have h1 := Int.tmod_nonneg y hx
    have h2 : x.tmod y ≤ x := by
      obtain ⟨n, rfl⟩ := Int.eq_ofNat_of_zero_le hx
      rcases Int.le_total 0 y with hy | hy
      · obtain ⟨m, rfl⟩ := Int.eq_ofNat_of_zero_le hy
        show ((n % m : Nat) : Int) ≤ n
        have := Nat.mod_le n m
        omega
      · have := Int.tmod_neg (n : Int) (-y)
        rw [Int.neg_neg] at this
        rw [this]
        obtain ⟨m, hm⟩ := Int.eq_ofNat_of_zero_le (show 0 ≤ -y by omega)
        rw [hm]
        show ((n % m : Nat) : Int) ≤ n
        have := Nat.mod_le n m
        omega
    omega
  · have e : x.tmod y = -((-x).tmod y) := by rw [Int.neg_tmod, Int.neg_neg]
    have h1 := Int.tmod_nonneg y (show 0 ≤ -x by omega)
    have h2 : (-x).tmod y ≤ -x := by
      obtain ⟨n, hn⟩ := Int.eq_ofNat_of_zero_le (show 0 ≤ -x by omega)
      rw [hn]
      rcases Int.le_total 0 y with hy | hy
      · obtain ⟨m, rfl⟩ := Int.eq_ofNat_of_zero_le hy
        show ((n % m : Nat) : Int) ≤ n
        have := Nat.mod_le n m
        omega
      · have := Int.tmod_neg (n : Int) (-y)
        rw [Int.neg_neg] at this
        rw [this]
        obtain ⟨m, hm⟩ := Int.eq_ofNat_of_zero_le (show 0 ≤ -y by omega)
        rw [hm]
        show ((n % m : Nat) : Int) ≤ n
        have := Nat.mod_le n m
        omega
    omega
theorem beq_toList' (x y : ByteArray) : (x.toList == y.toList) = decide (x = y) := by
  rw [ByteArray.toList_eq, ByteArray.toList_eq, Bool.eq_iff_iff]
  simp only [beq_iff_eq, decide_eq_true_eq]
  constructor
  · intro h
    exact ByteArray.ext (Array.toList_inj.1 h)
  · intro h; rw [h]
theorem pure_binOp {op : BinOp} {t t' : TypeId} {x y : Operand} (hT : Tab.ok P T) (ht : A.repL s.t E a.tmps.toList) (ho : o.op = .binOp op t x y t') (h : abin T op t (ev s x) (ev s y) K) : Gives P a o E K := by
  unfold abin at h
  split at h
  · rename_i k n hx
    split at h
    · rename_i k' m hy
      obtain ⟨hx, okx⟩ := of_v ht hx
      obtain ⟨hy, oky⟩ := of_v ht hy
      split at h
      rotate_left
      · exact h.elim
      rename_i hkk
      obtain rfl := ikN_inj hkk
      cases op <;> simp only [abinI, intK] at h <;> try exact h.elim
      · exact ⟨_, _, h.2, rep_int h.1, fun w' => by simp [execOp, ho, hx, hy, eqGuard, binOp, Op.intArith, wrap_in h.1, bind, pure, Sem.bind, Sem.run]⟩
      · exact ⟨_, _, h.2, rep_int h.1, fun w' => by simp [execOp, ho, hx, hy, eqGuard, binOp, Op.intArith, wrap_in h.1, bind, pure, Sem.bind, Sem.run]⟩
      · exact ⟨_, _, h.2, rep_int h.1, fun w' => by simp [execOp, ho, hx, hy, eqGuard, binOp, Op.intArith, wrap_in h.1, bind, pure, Sem.bind, Sem.run]⟩
      · exact ⟨_, _, h.2.2, rep_int h.2.1, fun w' => by simp [execOp, ho, hx, hy, eqGuard, binOp, Op.intDiv, wrap_in h.2.1, h.1, bind, pure, Sem.bind, Sem.run]⟩
      · exact ⟨_, _, h.2, rep_int (tmod_in (okV_int.1 okx)), fun w' => by simp [execOp, ho, hx, hy, eqGuard, binOp, Op.intDiv, h.1, bind, pure, Sem.bind, Sem.run]⟩
      · exact ⟨_, _, h, rep_bool, fun w' => by simp [execOp, ho, hx, hy, eqGuard, binOp, Op.intCmp, bind, pure, Sem.bind, Sem.run]; try rfl⟩
      · exact ⟨_, _, h, rep_bool, fun w' => by simp [execOp, ho, hx, hy, eqGuard, binOp, Op.intCmp, bind, pure, Sem.bind, Sem.run]; try rfl⟩
      · exact ⟨_, _, h, rep_bool, fun w' => by simp [execOp, ho, hx, hy, eqGuard, binOp, Op.intCmp, bind, pure, Sem.bind, Sem.run]⟩
      · exact ⟨_, _, h, rep_bool, fun w' => by simp [execOp, ho, hx, hy, eqGuard, binOp, Op.intCmp, bind, pure, Sem.bind, Sem.run]⟩
      · exact ⟨_, _, h, rep_bool, fun w' => by simp [execOp, ho, hx, hy, eqGuard, binOp, Op.intCmp, bind, pure, Sem.bind, Sem.run]⟩
      · exact ⟨_, _, h, rep_bool, fun w' => by simp [execOp, ho, hx, hy, eqGuard, binOp, Op.intCmp, bind, pure, Sem.bind, Sem.run]⟩
    · exact h.elim
  · rename_i n hx
    split at h
    · rename_i m hy
      obtain ⟨hx, okx⟩ := of_v ht hx
      obtain ⟨hy, oky⟩ := of_v ht hy
      have bt := beq_toList' n m
      cases op <;> simp only [abinS] at h <;> try exact h.elim
      · obtain ⟨h1, h2⟩ := h
        have h3 : ¬ (((n.size + m.size : Nat) : Int) > IntKind.i64.max) := by rw [hi_eq]; simp only [hi]; unfold maxLen at h1; omega
        refine ⟨_, _, h2, A.rep_v (show (n ++ m).size ≤ maxLen by rw [ByteArray.size_append]; exact h1), fun w' => by simp only [execOp, ho, hx, hy, eqGuard, binOp, Op.stringOp, if_neg h3]; simp [bind, pure, Sem.bind, Sem.run]⟩
      · exact ⟨_, _, h, rep_bool, fun w' => by simp only [execOp, ho, hx, hy, eqGuard, binOp, Op.stringOp, bt]; simp [bind, pure, Sem.bind, Sem.run]⟩
      · exact ⟨_, _, h, rep_bool, fun w' => by simp only [execOp, ho, hx, hy, eqGuard, binOp, Op.stringOp, bt]; simp [bind, pure, Sem.bind, Sem.run]⟩
    · exact h.elim
  · rename_i n hx
    split at h
    · rename_i m hy
      obtain ⟨hx, okx⟩ := of_v ht hx
      obtain ⟨hy, oky⟩ := of_v ht hy
      split at h
      · rename_i z b' htab
        have hu := hT.bool htab
        cases op <;> simp only at h <;> try exact h.elim
        · exact ⟨_, _, h, rep_bool, fun w' => by
            have e := run_equal_bool (P := P) (w := w') t n m hu
            simp [execOp, ho, hx, hy, eqGuard, binOp, e, Result.andThen]⟩
        · exact ⟨_, _, h, rep_bool, fun w' => by
            have e := run_equal_bool (P := P) (w := w') t n m hu
            simp [execOp, ho, hx, hy, eqGuard, binOp, e, Result.andThen]⟩
      · exact h.elim
    · exact h.elim
  · exact h.elim
theorem field_ok {t f o n : Nat} {ag : Bool} (hT : Tab.ok P T) (h : field T t f = some (o, n, ag)) : ∃ (fs : Array Field) (x : Field), P.underlying t = some (.struct fs) ∧ fs[f]? = some x ∧ x.offset = o ∧ (∀ w, (sizeOf x.type).run P w = .ok n w) ∧ ∀ w, (isAgg x.type).run P w = .ok ag w := by
  unfold field at h
  split at h
  · rename_i fs z b htab
    split at h
    · rename_i o' u hf
      split at h
      · rename_i e he
        cases h
        obtain ⟨f', h1, h2⟩ := hT.struct htab
        rw [← h2] at hf
        simp only [List.getElem?_map, Option.map_eq_some_iff] at hf
        obtain ⟨x, hx, hx2⟩ := hf
        cases hx2
        exact ⟨f', x, h1, by simpa using hx, rfl, hT.size he, hT.agg he⟩
      · cases h
    · cases h
  · cases h
theorem add_blk (b off o : Nat) : (⟨b, off, none⟩ : Addr).add o = ⟨b, off + o, none⟩ := add_at b off o
theorem pure_fieldAddr {t f : Nat} {x : Operand} (hT : Tab.ok P T) (ht : A.repL s.t E a.tmps.toList) (ho : o.op = .fieldAddr t x f) (h : apure T s (.fieldAddr t x f) K) : Gives P a o E K := by
  unfold apure at h
  simp only at h
  split at h
  · rename_i o' n ag hf
    obtain ⟨fs, fl, h1, h2, h3, h4, h5⟩ := field_ok hT hf
    have hx := ev_rep ht x
    have key : ∀ b off, a.eval x = .pointer (some ⟨b, off, none⟩) → ∀ w', (execOp a.eval o).run P w' = .ok (.value (.pointer (some ⟨b, off + o', none⟩))) w' := fun b off e w' => by
      simp [execOp, ho, e, Instr.fieldAt, Instr.sureAddr, fieldPlace, underlying, program, h1, h2, h3, h4 w', Result.andThen, Sem.run, add_blk]
    split at h
    · rename_i b off hev
      rw [hev] at hx
      unfold A.rep at hx
      obtain ⟨bb, hb, hv⟩ := hx
      exact ⟨_, _, h, (by unfold A.rep; exact ⟨bb, hb, rfl⟩), key _ _ hv⟩
    · rename_i cs hev
      rw [hev] at hx
      unfold A.rep at hx
      obtain ⟨b, off, hv, hr⟩ := hx
      exact ⟨_, _, h, (by unfold A.rep; exact ⟨b, off + o', rfl, A.repAt_drop o' hr⟩), key _ _ hv⟩
    · rename_i g off hev
      rw [hev] at hx
      unfold A.rep at hx
      obtain ⟨b, n', cap, hb, hv⟩ := hx
      exact ⟨_, _, h, (by unfold A.rep; exact ⟨b, n', cap, hb, rfl⟩), key _ _ hv⟩
    · exact h.elim
  · exact h.elim
theorem pure_field {t f : Nat} {x : Operand} (hT : Tab.ok P T) (ht : A.repL s.t E a.tmps.toList) (ho : o.op = .field t x f) (h : apure T s (.field t x f) K) : Gives P a o E K := by
  unfold apure at h
  simp only at h
  split at h
  · rename_i o' n ag hf
    obtain ⟨fs, fl, h1, h2, h3, h4, h5⟩ := field_ok hT hf
    have hx := ev_rep ht x
    split at h
    · rename_i l hev
      rw [hev] at hx
      unfold A.rep at hx
      obtain ⟨us, hv, hr⟩ := hx
      split at h
      · refine ⟨_, .agg (us.extract o' (o' + n)), h, (by
          unfold A.rep
          refine ⟨_, rfl, ?_⟩
          rw [Array.toList_extract, List.extract_eq_take_drop, show o' + n - o' = n by omega]
          exact A.repC_take n (A.repC_drop o' hr)), fun w' => ?_⟩
        have e5 := h5 w'
        have e4 := h4 w'
        simp [execOp, ho, hv, Instr.field, part, asAgg, underlying, program, h1, h2, h3, e5, e4, Result.andThen, Sem.run]
      · split at h
        · rename_i r hr2
          obtain ⟨u, hu, ha⟩ := A.repL_get (A.repC_L hr) hr2
          refine ⟨_, u, h, ha, fun w' => ?_⟩
          have e5 := h5 w'
          have hu' : us[o']? = some u := by simpa using hu
          simp [execOp, ho, hv, Instr.field, part, asAgg, underlying, program, h1, h2, h3, e5, hu', Result.andThen, Sem.run]
        · exact h.elim
    · exact h.elim
  · exact h.elim
end
end Go.Proofs.YtinjgckpmblffaaDoor.Vm
