/- More operations that ask no memory: places in arrays, interface values, conversions of ints, the lesser of two, shifts. -/
import Derived.Test.YtinjgckpmblffaaDoorVm4
import Derived.Laws.Shifts
namespace Go.Proofs.YtinjgckpmblffaaDoor.Vm
open Go.RowKit
set_option linter.unusedSimpArgs false
set_option linter.unusedVariables false
def anilcmp (T : List (Nat × Te)) (t : Nat) (op : BinOp) (y : Operand) (b : Bool) (K : A → Prop) : Prop :=
  match y with
  | .const .nilIface => match Tab.get T t with
    | some ⟨.iface, _, _⟩ => match op with
      | .eql => K (.v (.bool b))
      | .neq => K (.v (.bool (!b)))
      | _ => False
    | _ => False
  | _ => False
/-- A slice against nil. -/
def asnil (T : List (Nat × Te)) (t : Nat) (op : BinOp) (y : Operand) (b : Bool) (K : A → Prop) : Prop :=
  match y with
  | .const (.slice none _ _) => match Tab.get T t with
    | some ⟨.slice _, _, _⟩ => match op with
      | .eql => K (.v (.bool b))
      | .neq => K (.v (.bool (!b)))
      | _ => False
    | _ => False
  | _ => False
def ashift (op : BinOp) (k : IntKind) (x y : Int) (K : A → Prop) : Prop :=
  match op with
  | .shl => (0 ≤ y ∧ y < k.bits) ∧ intK k (x * 2 ^ y.toNat) K
  | .shr => (0 ≤ y ∧ y < k.bits) ∧ intK k (x / 2 ^ y.toNat) K
  | _ => False
def apure2 (T : List (Nat × Te)) (s : S) (o : Op) (K : A → Prop) : Prop :=
  match o with
  | .indexAddr t x i => match Tab.get T t with
    | some ⟨.arr n e, _, _⟩ => match Tab.get T e with
      | some e => match ev s i with
        | .v (.int _ i) => match ev s x with
          | .box b off => (0 ≤ i ∧ i < n) ∧ K (.box b (off + i.toNat * e.z.length))
          | .gp g off => (0 ≤ i ∧ i < n) ∧ K (.gp g (off + i.toNat * e.z.length))
          | .pp cs => (0 ≤ i ∧ i < n) ∧ K (.pp (rowOf e.z.length i.toNat cs))
          | _ => False
        | _ => False
      | none => False
    | _ => apure T s (.indexAddr t x i) K
  | .makeInterface t x => match Tab.get T t with
    | some ⟨d, _, _⟩ => match d with
      | .iface => False
      | _ => match ev s x with
        | .v y => K (.v (.iface t y))
        | _ => K .err
    | none => False
  | .convert src dst x => match Tab.get T src with
    | some _ => match Tab.get T dst with
      | some ⟨.int k, _, _⟩ => match ev s x with
        | .v (.int _ n) => intK k n K
        | _ => False
      | some ⟨.str, _, _⟩ => match ev s x with
        | .v (.int _ n) => (0 ≤ n ∧ n < 128) ∧ K (.v (.string ⟨#[UInt8.ofNat n.toNat]⟩))
        | _ => False
      | _ => False
    | none => False
  | .binOp op t x y u => match ev s x with
    | .err => anilcmp T t op y false K
    | .v .nilIface => anilcmp T t op y true K
    | .v (.iface _ _) => anilcmp T t op y false K
    | .v (.slice none _ _) => asnil T t op y true K
    | .sl _ n _ => 0 < n ∧ asnil T t op y false K
    | .own g => match s.rw[g]? with
      | some (.live _ _ n _) => 0 < n ∧ asnil T t op y false K
      | _ => False
    | .v (.int k n) => match op with
      | .shl => match ev s y with
        | .v (.int _ m) => ashift .shl k n m K
        | _ => False
      | .shr => match ev s y with
        | .v (.int _ m) => ashift .shr k n m K
        | _ => False
      | op => apure T s (.binOp op t x y u) K
    | _ => apure T s (.binOp op t x y u) K
  | .call ⟨.builtin .min, args, ts⟩ => match args.toList with
    | [x, y] => match ev s x with
      | .v (.int k x) => match ev s y with
        | .v (.int k' y) => match Nat.beq (ikN k) (ikN k') with
          | true => K (.v (.int k (min x y)))
          | false => False
        | _ => False
      | _ => False
    | _ => False
  | op => apure T s op K
section
variable {P : Program} {T : List (Nat × Te)} {w0 w : World} {C0 : Rd} {β0 : List Nat} {s : S} {a : Act} {E : Env} {o : Oper} {K : A → Prop}
theorem Tab.ok.iface (hT : Tab.ok P T) {t : Nat} {z : List Value} {b : Nat} (h : Tab.get T t = some ⟨.iface, z, b⟩) : ∃ ms, P.underlying t = some (.interface ms) := by
  obtain ⟨i, z, d, h1, h2, h3, _⟩ := hT.info h
  cases d <;> simp [tdOf] at h3
  exact ⟨_, h2⟩
theorem equalIn_nil {t : Nat} {ms : Array (String × TypeId)} (hu : P.underlying t = some (.interface ms)) (d : Nat) {v : Value} {b : Bool} (hv : (v = .nilIface ∧ b = true) ∨ ((∃ t v', v = .iface t v') ∧ b = false)) (w' : World) : (Op.equalIn (d + 1) t v .nilIface).run P w' = .ok b w' := by
  rcases hv with ⟨rfl, rfl⟩ | ⟨⟨t', v', rfl⟩, rfl⟩
  · unfold Op.equalIn
    simp [run_underlying hu]
  · unfold Op.equalIn
    simp [run_underlying hu]
theorem pure_nilcmp {t u : Nat} {op : BinOp} {x y : Operand} {b : Bool} {v : Value} (hT : Tab.ok P T) (ho : o.op = .binOp op t x y u) (hx : a.eval x = v) (hv : (v = .nilIface ∧ b = true) ∨ ((∃ t v', v = .iface t v') ∧ b = false)) (h : anilcmp T t op y b K) : Gives P a o E K := by
  unfold anilcmp at h
  split at h
  · split at h
    · rename_i z b' htab
      obtain ⟨ms, hu⟩ := hT.iface htab
      have key : ∀ w', (Op.equal t v .nilIface).run P w' = .ok b w' := fun w' => equalIn_nil hu 9999 hv w'
      have gd : ∀ (op : BinOp) w', (eqGuard op t x (.const .nilIface) v .nilIface).run P w' = .ok () w' := fun op w' => by
        rcases hv with ⟨rfl, -⟩ | ⟨⟨t', v', rfl⟩, -⟩ <;> cases op <;> simp [eqGuard]
      have hb : ∀ (op : BinOp), binOp op t v .nilIface = (match op with
          | .eql => do pure (.bool (← Op.equal t v .nilIface))
          | .neq => do pure (.bool (!(← Op.equal t v .nilIface)))
          | op => binOp op t v .nilIface) := fun op => by
        rcases hv with ⟨rfl, -⟩ | ⟨⟨t', v', rfl⟩, -⟩ <;> cases op <;> rfl
      split at h
      · exact ⟨_, _, h, rep_bool, fun w' => by
          have hc : a.eval (.const .nilIface) = .nilIface := rfl
          simp only [execOp, ho, hx, hc, hb]
          simp [gd, key]⟩
      · exact ⟨_, _, h, rep_bool, fun w' => by
          have hc : a.eval (.const .nilIface) = .nilIface := rfl
          simp only [execOp, ho, hx, hc, hb]
          simp [gd, key]⟩
      · exact h.elim
    · exact h.elim
  · exact h.elim
theorem equalIn_slnil {t e : Nat} (hu : P.underlying t = some (.slice e)) (d : Nat) {p : Option Addr} {n c n' c' : Nat} (w' : World) : (Op.equalIn (d + 1) t (.slice p n c) (.slice none n' c')).run P w' = .ok p.isNone w' := by
  unfold Op.equalIn
  cases p <;> simp [run_underlying hu]
theorem pure_slnil {t u : Nat} {op : BinOp} {x y : Operand} {b : Bool} {p : Option Addr} {n c : Nat} (hT : Tab.ok P T) (ho : o.op = .binOp op t x y u) (hx : a.eval x = .slice p n c) (hb : p.isNone = b) (h : asnil T t op y b K) : Gives P a o E K := by
  unfold asnil at h
  split at h
  · rename_i n' c'
    split at h
    · rename_i e z b' htab
      have hu := hT.slice htab
      have hc : a.eval (.const (.slice none n' c')) = .slice none n' c' := rfl
      have key : ∀ w', (Op.equal t (.slice p n c) (.slice none n' c')).run P w' = .ok b w' := fun w' => by rw [← hb]; exact equalIn_slnil hu 9999 w'
      split at h
      · exact ⟨_, _, h, rep_bool, fun w' => by
          simp only [execOp, ho, hx, hc]
          simp [eqGuard, binOp, key]⟩
      · exact ⟨_, _, h, rep_bool, fun w' => by
          simp only [execOp, ho, hx, hc]
          simp [eqGuard, binOp, key]⟩
      · exact h.elim
    · exact h.elim
  · exact h.elim
theorem pure_shift {t u : Nat} {op : BinOp} {x y : Operand} {k k' : IntKind} {n m : Int} (ho : o.op = .binOp op t x y u) (hx : a.eval x = .int k n) (hy : a.eval y = .int k' m) (h : ashift op k n m K) : Gives P a o E K := by
  unfold ashift at h
  split at h
  · obtain ⟨⟨h1, h2⟩, h3, h4⟩ := h
    have hm : min m.toNat k.bits = m.toNat := by omega
    exact ⟨_, _, h4, rep_int h3, fun w' => by simp [execOp, ho, hx, hy, eqGuard, binOp, shift_shl_any k k' n m h1, hm, wrap_in h3]⟩
  · obtain ⟨⟨h1, h2⟩, h3, h4⟩ := h
    have hm : min m.toNat k.bits = m.toNat := by omega
    exact ⟨_, _, h4, rep_int h3, fun w' => by simp [execOp, ho, hx, hy, eqGuard, binOp, shift_shr_any k k' n m h1, hm]⟩
  · exact h.elim
theorem apure2_ok (hT : Tab.ok P T) (hp : Hp w0 C0 β0 s.bx s.rw w E) (ht : A.repL s.t E a.tmps.toList) (h : apure2 T s o.op K) : Gives P a o E K := by
  unfold apure2 at h
  split at h
  · rename_i t x i ho
    split at h
    · rename_i n e z b' htab
      split at h
      · rename_i el hel
        split at h
        · rename_i ki i' hi
          obtain ⟨hi, oki⟩ := of_v ht hi
          have hu := hT.arr htab
          have key : ∀ b off, a.eval x = .pointer (some ⟨b, off, none⟩) → (0 ≤ i' ∧ i' < n) → ∀ w', (execOp a.eval o).run P w' = .ok (.value (.pointer (some ⟨b, off + i'.toNat * el.z.length, none⟩))) w' := fun b off ex hin w' => by
            have hs := hT.size hel w'
            simp [execOp, ho, hi, ex, Instr.indexAt, Instr.sureAddr, asIntOf, underlying, program, hu, hin, hs, Result.andThen, Sem.run, add_blk]
          split at h
          · rename_i b off hx
            have hr := ev_rep ht x
            rw [hx] at hr
            unfold A.rep at hr
            obtain ⟨bb, h1, h2⟩ := hr
            refine ⟨_, _, h.2, ?_, key bb off h2 h.1⟩
            unfold A.rep
            exact ⟨bb, h1, rfl⟩
          · rename_i g off hx
            have hr := ev_rep ht x
            rw [hx] at hr
            unfold A.rep at hr
            refine ⟨_, _, h.2, ?_, key g off hr h.1⟩
            unfold A.rep; rfl
          · rename_i cs hx
            have hr := ev_rep ht x
            rw [hx] at hr
            unfold A.rep at hr
            obtain ⟨b, off, h1, h2⟩ := hr
            refine ⟨_, _, h.2, ?_, key b off h1 h.1⟩
            unfold A.rep
            exact ⟨b, _, rfl, by unfold rowOf; exact A.repAt_take _ (A.repAt_drop _ h2)⟩
          · exact h.elim
        · exact h.elim
      · exact h.elim
    · exact apure_ok hT hp ht (by rw [ho]; exact h)
  · rename_i t x ho
    split at h
    · rename_i d z b' htab
      split at h
      · exact h.elim
      · rename_i hd
        obtain ⟨i, z', d', h1, h2, h3, _⟩ := hT.info htab
        have hm : ∀ w', (execOp a.eval o).run P w' = .ok (.value (.iface t (a.eval x))) w' := fun w' => by
          have hm : (Instr.makeInterface t (a.eval x)).run P w' = .ok (.iface t (a.eval x)) w' := by
            unfold Instr.makeInterface
            cases d' <;> simp [run_underlying h2]
            simp [tdOf] at h3
            exact absurd h3.symm hd
          simp [execOp, ho, hm]
        split at h
        · rename_i y hx
          obtain ⟨hx, -⟩ := of_v ht hx
          rw [hx] at hm
          exact ⟨_, .iface t y, h, A.rep_v trivial, hm⟩
        · exact ⟨_, .iface t (a.eval x), h, by unfold A.rep; exact ⟨_, _, rfl⟩, hm⟩
    · exact h.elim
  · rename_i src dst x ho
    split at h
    · rename_i e hsrc
      split at h
      · rename_i k z b' hdst
        split at h
        · rename_i k0 n hx
          obtain ⟨hx, okx⟩ := of_v ht hx
          obtain ⟨i, z', d', h1, h2, h3, _⟩ := hT.info hsrc
          have hu := hT.int hdst
          refine ⟨_, _, h.2, rep_int h.1, fun w' => ?_⟩
          simp [execOp, ho, hx, convert, run_underlying h2, run_underlying hu, Conv.intToInt, wrap_in h.1]
        · exact h.elim
      · rename_i z b' hdst
        split at h
        · rename_i k0 n hx
          obtain ⟨hx, okx⟩ := of_v ht hx
          obtain ⟨i, z', d', h1, h2, h3, _⟩ := hT.info hsrc
          have hu := hT.strs hdst
          obtain ⟨⟨h4, h5⟩, h6⟩ := h
          have henc : Utf8.encode n = ⟨#[UInt8.ofNat n.toNat]⟩ := by
            have hv : Utf8.valid n = true := by unfold Utf8.valid; simp; omega
            unfold Utf8.encode
            simp only [hv, if_true]
            rw [if_pos (by omega)]
          refine ⟨_, .string ⟨#[UInt8.ofNat n.toNat]⟩, h6, A.rep_v (by show (1 : Nat) ≤ maxLen; unfold maxLen; omega), fun w' => ?_⟩
          simp [execOp, ho, hx, convert, run_underlying h2, run_underlying hu, Conv.intToString, henc]
        · exact h.elim
      · exact h.elim
    · exact h.elim
  · rename_i op t x y u ho
    split at h
    · rename_i hx
      have hr := ev_rep ht x
      rw [hx] at hr
      unfold A.rep at hr
      exact pure_nilcmp hT ho rfl (.inr ⟨hr, rfl⟩) h
    · rename_i hx
      obtain ⟨hx, -⟩ := of_v ht hx
      exact pure_nilcmp hT ho hx (.inl ⟨rfl, rfl⟩) h
    · rename_i t' y' hx
      obtain ⟨hx, -⟩ := of_v ht hx
      exact pure_nilcmp hT ho hx (.inr ⟨⟨_, _, rfl⟩, rfl⟩) h
    · rename_i n c hx
      obtain ⟨hx, -⟩ := of_v ht hx
      exact pure_slnil hT ho hx rfl h
    · rename_i k n cs hx
      have hr := ev_rep ht x
      rw [hx] at hr
      unfold A.rep at hr
      obtain ⟨_, _, p, b, off, cap, h1, h2, h3, _⟩ := hr
      have hp0 : p.isNone = false := by
        rcases h3 with h3 | rfl
        · have := h.1; omega
        · rfl
      exact pure_slnil hT ho h1 hp0 h.2
    · rename_i g hx
      split at h
      · rename_i e k n cs hg
        have hr := ev_rep ht x
        rw [hx] at hr
        unfold A.rep at hr
        obtain ⟨xs, k1, k2⟩ := hp.rws g _ _ hg hr
        rcases k1.2 with ⟨h1, h2⟩ | ⟨b, cap, cur, h1, _⟩
        · have := h.1; omega
        · exact pure_slnil hT ho h1 rfl h.2
      · exact h.elim
    · rename_i k n hx
      obtain ⟨hx', okx⟩ := of_v ht hx
      split at h
      · split at h
        · rename_i k' m hy
          obtain ⟨hy, -⟩ := of_v ht hy
          exact pure_shift ho hx' hy h
        · exact h.elim
      · split at h
        · rename_i k' m hy
          obtain ⟨hy, -⟩ := of_v ht hy
          exact pure_shift ho hx' hy h
        · exact h.elim
      · exact apure_ok hT hp ht (by rw [ho]; exact h)
    · exact apure_ok hT hp ht (by rw [ho]; exact h)
  · rename_i args ts ho
    split at h
    · rename_i x y hargs
      split at h
      · rename_i k n hx
        split at h
        · rename_i k' m hy
          split at h
          · rename_i hk
            obtain rfl := ikN_inj hk
            obtain ⟨hx, okx⟩ := of_v ht hx
            obtain ⟨hy, oky⟩ := of_v ht hy
            have okx := okV_int.1 okx
            have oky := okV_int.1 oky
            have hargs' : args = #[x, y] := by rw [← hargs]
            refine ⟨_, _, h, rep_int (by omega), fun w' => ?_⟩
            have hm : (if m < n then m else n) = min n m := by split <;> omega
            simp [execOp, ho, hargs', hx, hy, builtin, Builtin.min_, Builtin.min2, hm, resolve, invoke]
          · exact h.elim
        · exact h.elim
      · exact h.elim
    · exact h.elim
  · exact apure_ok hT hp ht h
end
end Go.Proofs.YtinjgckpmblffaaDoor.Vm
