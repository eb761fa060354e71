/- The operations that ask no memory, and those that read it. -/
import Derived.Test.YtinjgckpmblffaaDoorVm1
namespace Go.Proofs.YtinjgckpmblffaaDoor.Vm
open Go.RowKit
set_option linter.unusedSimpArgs false
set_option linter.unusedVariables false
/-- What matters of a type: what it is, its zero cells, its bytes. -/
inductive Td where
  | int (k : IntKind)
  | str
  | bool
  | slice (e : TypeId)
  | struct (fs : List (Nat × TypeId))
  | arr (n : Nat) (e : TypeId)
  | iface
  | other
structure Te where
  d : Td
  z : List Value
  by' : Nat
def tdOf : TypeDesc → Td
  | .int k => .int k
  | .string => .str
  | .bool => .bool
  | .slice e => .slice e
  | .struct fs => .struct (fs.toList.map fun f => (f.offset, f.type))
  | .array n e => .arr n e
  | .interface _ => .iface
  | _ => .other
def teOf (P : Program) (t : TypeId) : Option Te :=
  match P.info? t, P.underlying t with
  | some i, some d => match i.zero with
    | some z => if i.size = z.cells.size then some ⟨tdOf d, z.cells.toList, i.bytes⟩ else none
    | none => none
  | _, _ => none
def Tab := List (Nat × Te)
def Tab.get : List (Nat × Te) → Nat → Option Te
  | [], _ => none
  | (i, e) :: r, t => match Nat.beq i t with | true => some e | false => Tab.get r t
def Tab.ok (P : Program) (T : List (Nat × Te)) : Prop := ∀ t e, Tab.get T t = some e → teOf P t = some e
theorem Tab.ok_nil (P : Program) : Tab.ok P [] := fun _ _ h => by simp [Tab.get] at h
theorem Tab.ok_cons {P : Program} {T : List (Nat × Te)} {i : Nat} {e : Te} (h : teOf P i = some e) (k : Tab.ok P T) : Tab.ok P ((i, e) :: T) := fun t x hx => by
  unfold Tab.get at hx
  split at hx
  · rename_i hb
    cases hx
    rw [← Nat.eq_of_beq_eq_true hb]; exact h
  · exact k t x hx
def Td.agg : Td → Bool
  | .struct _ => true
  | .arr _ _ => true
  | _ => false
section
variable {P : Program} {T : List (Nat × Te)}
theorem Tab.ok.info (hT : Tab.ok P T) {t : Nat} {e : Te} (h : Tab.get T t = some e) : ∃ i z d, P.info? t = some i ∧ P.underlying t = some d ∧ tdOf d = e.d ∧ i.zero = some z ∧ z.cells.toList = e.z ∧ i.size = e.z.length ∧ i.bytes = e.by' := by
  have := hT t e h
  unfold teOf at this
  split at this
  · rename_i i d hi hd
    split at this
    · rename_i z hz
      split at this
      · rename_i hs
        cases this
        exact ⟨i, z, d, hi, hd, rfl, hz, rfl, by simpa using hs, rfl⟩
      · cases this
    · cases this
  · cases this
theorem Tab.ok.slice (hT : Tab.ok P T) {t : Nat} {z : List Value} {b : Nat} {x : TypeId} (h : Tab.get T t = some ⟨.slice x, z, b⟩) : P.underlying t = some (.slice x) := by
  obtain ⟨i, z, d, h1, h2, h3, _⟩ := hT.info h
  cases d <;> simp [tdOf] at h3
  rw [h2, h3]
theorem Tab.ok.strs (hT : Tab.ok P T) {t : Nat} {z : List Value} {b : Nat} (h : Tab.get T t = some ⟨.str, z, b⟩) : P.underlying t = some .string := by
  obtain ⟨i, z, d, h1, h2, h3, _⟩ := hT.info h
  cases d <;> simp [tdOf] at h3
  exact h2
theorem Tab.ok.bool (hT : Tab.ok P T) {t : Nat} {z : List Value} {b : Nat} (h : Tab.get T t = some ⟨.bool, z, b⟩) : P.underlying t = some .bool := by
  obtain ⟨i, z, d, h1, h2, h3, _⟩ := hT.info h
  cases d <;> simp [tdOf] at h3
  exact h2
theorem Tab.ok.int (hT : Tab.ok P T) {t : Nat} {z : List Value} {b : Nat} {k : IntKind} (h : Tab.get T t = some ⟨.int k, z, b⟩) : P.underlying t = some (.int k) := by
  obtain ⟨i, z, d, h1, h2, h3, _⟩ := hT.info h
  cases d <;> simp [tdOf] at h3
  rw [h2, h3]
theorem Tab.ok.arr (hT : Tab.ok P T) {t : Nat} {z : List Value} {b n : Nat} {x : TypeId} (h : Tab.get T t = some ⟨.arr n x, z, b⟩) : P.underlying t = some (.array n x) := by
  obtain ⟨i, z, d, h1, h2, h3, _⟩ := hT.info h
  cases d <;> simp [tdOf] at h3
  rw [h2, h3.1, h3.2]
theorem Tab.ok.struct (hT : Tab.ok P T) {t : Nat} {z : List Value} {b : Nat} {fs : List (Nat × TypeId)} (h : Tab.get T t = some ⟨.struct fs, z, b⟩) : ∃ f : Array Field, P.underlying t = some (.struct f) ∧ f.toList.map (fun x => (x.offset, x.type)) = fs := by
  obtain ⟨i, z, d, h1, h2, h3, _⟩ := hT.info h
  cases d <;> simp [tdOf] at h3
  exact ⟨_, h2, h3⟩
theorem Tab.ok.size (hT : Tab.ok P T) {t : Nat} {e : Te} (h : Tab.get T t = some e) (w : World) : (sizeOf t).run P w = .ok e.z.length w := by
  obtain ⟨i, z, d, h1, h2, h3, h4, h5, h6, h7⟩ := hT.info h
  simp [sizeOf, typeInfo, program, Sem.run, h1, h6, Sem.bind, pure, bind]
theorem Tab.ok.zero (hT : Tab.ok P T) {t : Nat} {e : Te} (h : Tab.get T t = some e) : ∃ z : Value, z.cells.toList = e.z ∧ ∀ w, (zeroValue t).run P w = .ok z w := by
  obtain ⟨i, z, d, h1, h2, h3, h4, h5, h6, h7⟩ := hT.info h
  exact ⟨z, h5, fun w => by simp [zeroValue, typeInfo, program, Sem.run, h1, h4, Sem.bind, pure, bind]⟩
theorem Tab.ok.agg (hT : Tab.ok P T) {t : Nat} {e : Te} (h : Tab.get T t = some e) (w : World) : (isAgg t).run P w = .ok e.d.agg w := by
  obtain ⟨i, z, d, h1, h2, h3, h4, h5, h6, h7⟩ := hT.info h
  cases d <;> simp [tdOf] at h3 <;> rw [← h3] <;> simp [isAgg, underlying, program, Sem.run, h2, Sem.bind, pure, bind, Td.agg]
end
/-! ### Operands -/
def lo : IntKind → Int
  | .i8 => -128 | .i16 => -32768 | .i32 => -2147483648 | .i64 => -9223372036854775808 | _ => 0
def hi : IntKind → Int
  | .i8 => 127 | .i16 => 32767 | .i32 => 2147483647 | .i64 => 9223372036854775807 | .u8 => 255 | .u16 => 65535 | .u32 => 4294967295 | .u64 => 18446744073709551615
theorem lo_eq (k : IntKind) : k.min = lo k := by cases k <;> decide
theorem hi_eq (k : IntKind) : k.max = hi k := by cases k <;> decide
theorem okV_int {k : IntKind} {n : Int} : okV (.int k n) ↔ lo k ≤ n ∧ n ≤ hi k := by show k.min ≤ n ∧ n ≤ k.max ↔ _; rw [lo_eq, hi_eq]
def constA : Value → A
  | .int k n => match decide (lo k ≤ n), decide (n ≤ hi k) with | true, true => .v (.int k n) | _, _ => .dead
  | .string s => match Nat.ble s.size 1000000000 with | true => .v (.string s) | false => .dead
  | .agg _ => .dead
  | .tuple _ => .dead
  | x => .v x
theorem constA_rep (x : Value) (E : Env) : (constA x).rep E x := by
  unfold constA
  split
  · split
    · rename_i h1 h2
      exact A.rep_v (okV_int.2 ⟨by simpa using h1, by simpa using h2⟩)
    · exact A.rep_dead _ _
  · split
    · rename_i h1
      exact A.rep_v (by show _ ≤ maxLen; have := Nat.le_of_ble_eq_true h1; unfold maxLen; omega)
    · exact A.rep_dead _ _
  · exact A.rep_dead _ _
  · exact A.rep_dead _ _
  · rename_i h1 h2 h3 h4
    refine A.rep_v ?_
    cases x <;> simp [okV] at h1 h2 h3 h4 ⊢
def ev (s : S) : Operand → A
  | .tmp t => s.t.getD t .dead
  | .const v => constA v
  | .func f => .clo f []
  | .global g => .gp g 0
theorem ev_rep {s : S} {a : Act} {E : Env} (h : A.repL s.t E a.tmps.toList) (x : Operand) : (ev s x).rep E (a.eval x) := by
  cases x with
  | tmp t =>
    have := A.repL_getD h t undef
    simpa [ev, Act.eval] using this
  | const v => exact constA_rep v E
  | global g =>
    show (A.gp g 0).rep E (.pointer (some ⟨g, 0, none⟩))
    unfold A.rep; rfl
  | func f =>
    show (A.clo f []).rep E (.func (.func f) #[] #[])
    unfold A.rep
    exact ⟨#[], rfl, by simp [A.repL]⟩
/-- By a test. -/
def ifK (c : Bool) (p q : Prop) : Prop := match c with
  | true => p
  | false => q
theorem ifK_iff {c : Bool} {p q : Prop} : ifK c p q ↔ (c = true → p) ∧ (c = false → q) := by cases c <;> simp [ifK]
/-! ### Operations that ask no memory -/
def intK (k : IntKind) (n : Int) (K : A → Prop) : Prop := (lo k ≤ n ∧ n ≤ hi k) ∧ K (.v (.int k n))
def abinI (op : BinOp) (k : IntKind) (x y : Int) (K : A → Prop) : Prop :=
  match op with
  | .add => intK k (x + y) K
  | .sub => intK k (x - y) K
  | .mul => intK k (x * y) K
  | .quo => y ≠ 0 ∧ intK k (x.tdiv y) K
  | .rem => y ≠ 0 ∧ K (.v (.int k (x.tmod y)))
  | .eql => K (.v (.bool (decide (x = y))))
  | .neq => K (.v (.bool (!decide (x = y))))
  | .lss => K (.v (.bool (decide (x < y))))
  | .leq => K (.v (.bool (decide (x ≤ y))))
  | .gtr => K (.v (.bool (decide (y < x))))
  | .geq => K (.v (.bool (decide (y ≤ x))))
  | _ => False
def abinS (op : BinOp) (x y : ByteArray) (K : A → Prop) : Prop :=
  match op with
  | .add => x.size + y.size ≤ maxLen ∧ K (.v (.string (x ++ y)))
  | .eql => K (.v (.bool (decide (x = y))))
  | .neq => K (.v (.bool (!decide (x = y))))
  | _ => False
def ikN : IntKind → Nat
  | .i8 => 0 | .i16 => 1 | .i32 => 2 | .i64 => 3 | .u8 => 4 | .u16 => 5 | .u32 => 6 | .u64 => 7
theorem ikN_inj {k k' : IntKind} (h : Nat.beq (ikN k) (ikN k') = true) : k = k' := by cases k <;> cases k' <;> first | rfl | exact absurd h (by decide)
def abin (T : List (Nat × Te)) (op : BinOp) (t : Nat) (x y : A) (K : A → Prop) : Prop :=
  match x with
  | .v (.int k x) => match y with
    | .v (.int k' y) => match Nat.beq (ikN k) (ikN k') with
      | true => abinI op k x y K
      | false => False
    | _ => False
  | .v (.string x) => match y with
    | .v (.string y) => abinS op x y K
    | _ => False
  | .v (.bool x) => match y with
    | .v (.bool y) => match Tab.get T t with
      | some ⟨.bool, _, _⟩ => match op with
        | .eql => K (.v (.bool (x == y)))
        | .neq => K (.v (.bool (!(x == y))))
        | _ => False
      | _ => False
    | _ => False
  | _ => False
@[irreducible] def rowOf (k i : Nat) (cs : List A) : List A := (cs.drop (i * k)).take k
def field (T : List (Nat × Te)) (t f : Nat) : Option (Nat × Nat × Bool) :=
  match Tab.get T t with
  | some ⟨.struct fs, _, _⟩ => match fs[f]? with
    | some (o, u) => match Tab.get T u with
      | some e => some (o, e.z.length, e.d.agg)
      | none => none
    | none => none
  | _ => none
def fills : List A → List (Nat × List A) → List A
  | cs, [] => cs
  | cs, (o, ds) :: r => fills (cs.take o ++ ds ++ cs.drop (o + ds.length)) r
def cellsA : A → List A
  | .agg l => l
  | a => [a]
def apure (T : List (Nat × Te)) (s : S) (o : Op) (K : A → Prop) : Prop :=
  match o with
  | .move x => K (ev s x)
  | .assign x => K (ev s x)
  | .pick c a b => match ev s c with
    | .v (.bool c) => ifK c (K (ev s a)) (K (ev s b))
    | _ => False
  | .binOp op t x y _ => abin T op t (ev s x) (ev s y) K
  | .unOp .not _ x => match ev s x with
    | .v (.bool c) => K (.v (.bool (!c)))
    | _ => False
  | .unOp .neg _ x => match ev s x with
    | .v (.int k n) => intK k (0 - n) K
    | _ => False
  | .extract x i => match ev s x with
    | .tup l => match l[i]? with
      | some a => K a
      | none => False
    | _ => False
  | .makeFunc (.func f) first caps => match first.toList with
    | [] => K (.clo f (caps.toList.map (ev s)))
    | _ => False
  | .fieldAddr t x f => match field T t f with
    | some (o, n + 1, _) => match ev s x with
      | .box b off => K (.box b (off + o))
      | .pp cs => K (.pp (cs.drop o))
      | .orow g off => K (.orow g (off + o))
      | _ => False
    | _ => False
  | .field t x f => match field T t f with
    | some (o, n, ag) => match ev s x with
      | .agg l => match ag with
        | true => K (.agg ((l.drop o).take n))
        | false => match l[o]? with
          | some a => K a
          | none => False
      | _ => False
    | none => False
  | .indexAddr t x i => match Tab.get T t with
    | some ⟨.slice e, _, _⟩ => match Tab.get T e with
      | some e => match ev s i with
        | .v (.int _ i) => match ev s x with
          | .sl k n cs => match Nat.beq k e.z.length with
            | true => (0 ≤ i ∧ i < n) ∧ K (.pp (rowOf k i.toNat cs))
            | false => False
          | .own g => match s.rw[g]? with
            | some (.live _ k n cs) => match Nat.beq k e.z.length with
              | true => (0 ≤ i ∧ i < n) ∧ K (.orow g (i.toNat * k))
              | false => False
            | some (.pub k n cs) => match Nat.beq k e.z.length with
              | true => (0 ≤ i ∧ i < n) ∧ K (.pp (rowOf k i.toNat cs))
              | false => False
            | _ => False
          | _ => False
        | _ => False
      | none => False
    | _ => False
  | .index t x i => match Tab.get T t with
    | some ⟨.str, _, _⟩ => match ev s x, ev s i with
      | .v (.string x), .v (.int _ i) => (0 ≤ i ∧ i < x.size) ∧ K (.v (.int .u8 ((x.data.toList.getD i.toNat 0).toNat)))
      | _, _ => False
    | _ => False
  | .slice t x l h none => match Tab.get T t with
    | some ⟨.str, _, _⟩ => match ev s x with
      | .v (.string x) =>
        match (match l with | some l => ev s l | none => .v (.int .i64 0)), (match h with | some h => ev s h | none => .v (.int .i64 x.size)) with
        | .v (.int _ l), .v (.int _ h) => (0 ≤ l ∧ l ≤ h ∧ h ≤ x.size) ∧ K (.v (.string (x.extract l.toNat h.toNat)))
        | _, _ => False
      | _ => False
    | some ⟨.slice e, _, _⟩ => match Tab.get T e with
      | some e => match ev s x with
        | .sl k n cs =>
          match (match l with | some l => ev s l | none => .v (.int .i64 0)), (match h with | some h => ev s h | none => .v (.int .i64 n)) with
          | .v (.int _ l), .v (.int _ h) => match Nat.beq k e.z.length with
            | true => (0 ≤ l ∧ l ≤ h ∧ h ≤ n) ∧ K (.sl k (h.toNat - l.toNat) ((cs.drop (l.toNat * k)).take ((h.toNat - l.toNat) * k)))
            | false => False
          | _, _ => False
        | _ => False
      | none => False
    | _ => False
  | .call ⟨.builtin .len, args, ts⟩ => match args.toList with
    | [x] => match ts.toList with
      | [t] => match Tab.get T t with
        | some ⟨.str, _, _⟩ => match ev s x with
          | .v (.string x) => K (.v (.int .i64 x.size))
          | _ => False
        | some ⟨.slice _, _, _⟩ => match ev s x with
          | .sl _ n _ => K (.v (.int .i64 n))
          | .v (.slice none 0 0) => K (.v (.int .i64 0))
          | .own g => match s.rw[g]? with
            | some (.live _ _ n _) => K (.v (.int .i64 n))
            | some (.pub _ n _) => K (.v (.int .i64 n))
            | _ => False
          | _ => False
        | _ => False
      | _ => False
    | _ => False
  | .nilCheck x => match ev s x with
    | .box b off => K (.box b off)
    | .pp cs => K (.pp cs)
    | .clo f cs => K (.clo f cs)
    | _ => False
  | _ => False
end Go.Proofs.YtinjgckpmblffaaDoor.Vm
