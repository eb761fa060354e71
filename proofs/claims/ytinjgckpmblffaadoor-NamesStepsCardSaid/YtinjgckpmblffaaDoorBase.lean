/- Base: worlds that only grow, slices of strings and of ints that read as lists, the own slice that is appended to. No program is named here. -/
import Derived.WalkKit
import Derived.WalkSpells
import Derived.WalkLawsBesides
import Derived.Laws.AppendOwnNone
namespace Go.Proofs.YtinjgckpmblffaaDoor
open Go.RowKit
set_option linter.unusedSimpArgs false
set_option linter.unusedVariables false

/-- Nothing that was there has turned. -/
def Ext (w w' : World) : Prop := Below w.heap.size w w'

theorem Ext.refl (w : World) : Ext w w := Below.refl _ _
theorem Ext.trans {a b c : World} (h : Ext a b) (k : Ext b c) : Ext a c := Below.trans h (Below.mono k (Below.size h))
theorem Ext.below {a b c : World} {B : Nat} (h : Below B a b) (k : Ext b c) (hB : B ≤ b.heap.size) : Below B a c := h.trans (Below.mono k hB)
theorem Ext.alloc {a w : World} (h : Ext a w) (o : Obj) : Ext a (w.alloc o) := Below.alloc h (Below.size h) o
theorem Ext.drew {a w : World} (h : Ext a w) : Ext a w.drew := Below.drew h
theorem Ext.size {a w : World} (h : Ext a w) : a.heap.size ≤ w.heap.size := Below.size h
theorem Ext.drewN (w : World) (n : Nat) : Ext w (w.drewN n) := ⟨rfl, rfl, rfl, Nat.le_refl _, fun _ _ => rfl⟩
theorem Ext.block {w w' : World} (h : Ext w w') {b : Nat} {o : Obj} (hb : w.heap[b]? = some o) : w'.heap[b]? = some o :=
  (Below.block h b (Array.getElem?_eq_some_iff.1 hb).1).trans hb
theorem Ext.c {w w' : World} (h : Ext w w') {a : Addr} {v : Value} (hc : w.cell? a = some v) : w'.cell? a = some v :=
  (Below.cell h (World.block_lt_of_cell? w a hc)).trans hc
theorem Ext.of_drew {w w' : World} (h : Ext w.drew w') : Ext w w' := Ext.trans (Ext.drew (Ext.refl w)) h
theorem Ext.grown {w w' : World} (hg : w.grownBy w' none) : Ext w w' := Below.grown (Below.refl _ _) hg (Nat.le_refl _) (by simp)
/-- A step that writes only to blocks from B on, taken from a world that has grown out of the first. -/
theorem Ext.of_below {a b c : World} (h : Ext a b) (k : Below a.heap.size b c) : Ext a c := Below.trans h k

/-- What a call comes to: it returns a value of which Φ holds, and nothing that was there has turned. -/
def Ret (w : World) (Φ : Value → World → Prop) (e : Ending) (w' : World) : Prop := ∃ v, e = .returned v ∧ Ext w w' ∧ Φ v w'
theorem Ret.mk {w w' : World} {Φ : Value → World → Prop} {v : Value} (h : Ext w w') (k : Φ v w') : Ret w Φ (.returned v) w' := ⟨v, rfl, h, k⟩
/-- It returns just this. -/
def RetV (w : World) (v : Value) (e : Ending) (w' : World) : Prop := e = .returned v ∧ Ext w w'
theorem RetV.mk {w w' : World} {v : Value} (h : Ext w w') : RetV w v (.returned v) w' := ⟨rfl, h⟩
theorem ret_int {k : IntKind} {a b : Int} (h : a = b) : Ending.returned (.int k a) = .returned (.int k b) := by rw [h]
theorem ret_bool {a b : Bool} (h : a = b) : Ending.returned (.bool a) = .returned (.bool b) := by rw [h]

/-- What is read where: all cells of a world, or all but those of one block. -/
abbrev Rd := Addr → Option Value
def butC (w : World) (b : Nat) : Rd := fun a => if a.block = b then none else w.cell? a
def Sub (C D : Rd) : Prop := ∀ a v, C a = some v → D a = some v
theorem Sub.refl (C : Rd) : Sub C C := fun _ _ h => h
theorem Sub.trans {C D E : Rd} (h : Sub C D) (k : Sub D E) : Sub C E := fun a v e => k a v (h a v e)
theorem Ext.sub {w w' : World} (h : Ext w w') : Sub w.cell? w'.cell? := fun _ _ hc => h.c hc
theorem but_sub (w : World) (b : Nat) : Sub (butC w b) w.cell? := fun a v h => by
  unfold butC at h
  split at h
  · cases h
  · exact h
theorem grown_but {w w' : World} {b : Nat} (h : w.grownBy w' (some b)) : Sub (butC w b) (butC w' b) := fun a v hc => by
  unfold butC at hc ⊢
  by_cases e : a.block = b
  · rw [if_pos e] at hc; cases hc
  · rw [if_neg e] at hc ⊢
    exact h.cell hc (by simpa using e)
theorem Ext.but {w w' : World} (h : Ext w w') (b : Nat) : Sub (butC w b) (butC w' b) := fun a v hc => by
  unfold butC at hc ⊢
  by_cases e : a.block = b
  · rw [if_pos e] at hc; cases hc
  · rw [if_neg e] at hc ⊢
    exact h.c hc
/-- What lay there before the block was made is not in it. -/
theorem sub_but {w w' : World} {b : Nat} (hb : w.heap.size ≤ b) (h : Sub w.cell? w'.cell?) : Sub w.cell? (butC w' b) := fun a v hc => by
  have := World.block_lt_of_cell? w a hc
  unfold butC
  rw [if_neg (by omega)]
  exact h a v hc
/-- All cells of the blocks from N on. -/
def fromC (N : Nat) (w : World) : Rd := fun a => if a.block < N then none else w.cell? a
theorem fromC_some {N : Nat} {w : World} {a : Addr} {v : Value} : fromC N w a = some v ↔ N ≤ a.block ∧ w.cell? a = some v := by
  unfold fromC
  by_cases h : a.block < N
  · rw [if_pos h]; constructor
    · intro h; cases h
    · intro h; omega
  · rw [if_neg h]; constructor
    · intro k; exact ⟨by omega, k⟩
    · intro k; exact k.2
theorem butC_some {b : Nat} {w : World} {a : Addr} {v : Value} : butC w b a = some v ↔ a.block ≠ b ∧ w.cell? a = some v := by
  unfold butC
  by_cases h : a.block = b
  · rw [if_pos h]; constructor
    · intro h; cases h
    · intro k; exact absurd h k.1
  · rw [if_neg h]; constructor
    · intro k; exact ⟨h, k⟩
    · intro k; exact k.2
theorem fromC_sub {N M : Nat} {w w' : World} (hN : N ≤ M) (h : Sub (fromC M w) (fromC M w')) : Sub (fromC M w) (fromC N w') := fun a v hc => by
  have := h a v hc
  rw [fromC_some] at this ⊢
  exact ⟨by omega, this.2⟩
theorem fromC_le {N M : Nat} {w : World} (hN : N ≤ M) : Sub (fromC M w) (fromC N w) := fun a v hc => by
  rw [fromC_some] at hc ⊢
  exact ⟨by omega, hc.2⟩
theorem fromC_cell {N : Nat} {w : World} : Sub (fromC N w) w.cell? := fun a v hc => (fromC_some.1 hc).2
theorem fromC_but {N b : Nat} {w : World} (hb : b < N) : Sub (fromC N w) (butC w b) := fun a v hc => by
  rw [fromC_some] at hc
  rw [butC_some]
  exact ⟨by omega, hc.2⟩
/-- Writes to one block below N turn nothing from N on. -/
theorem grown_from {N b : Nat} {w w' : World} (h : w.grownBy w' (some b)) (hb : b < N) : Sub (fromC N w) (fromC N w') := fun a v hc => by
  rw [fromC_some] at hc ⊢
  exact ⟨hc.1, h.cell hc.2 (by simp; omega)⟩
theorem Ext.from {w w' : World} (h : Ext w w') (N : Nat) : Sub (fromC N w) (fromC N w') := fun a v hc => by
  rw [fromC_some] at hc ⊢
  exact ⟨hc.1, h.c hc.2⟩
theorem butC_at {w : World} {b : Nat} {a : Addr} {v : Value} (hne : a.block ≠ b) (h : w.cell? a = some v) : butC w b a = some v := by
  unfold butC; rw [if_neg hne]; exact h

/-- The slice value v reads as the strings l. -/
def StrsAt (C : Rd) (v : Value) (l : List ByteArray) : Prop :=
  l.length ≤ 1000000000 ∧ (∀ s ∈ l, s.size ≤ maxLen) ∧ ∃ p b off cap, v = .slice p l.length cap ∧ l.length ≤ cap ∧ (l = [] ∨ p = some ⟨b, off, none⟩) ∧ (p = none → cap = 0) ∧
    ∀ i, i < l.length → C ⟨b, off + i, none⟩ = some (.string (l.getD i ByteArray.empty))
theorem StrsAt.mono {C D : Rd} {v : Value} {l : List ByteArray} (h : StrsAt C v l) (x : Sub C D) : StrsAt D v l := by
  obtain ⟨h1, h2, p, b, off, cap, hv, hc, hp, hn, hh⟩ := h
  exact ⟨h1, h2, p, b, off, cap, hv, hc, hp, hn, fun i hi => x _ _ (hh i hi)⟩
theorem StrsAt.nil (C : Rd) : StrsAt C (.slice none 0 0) [] :=
  ⟨by simp, by simp, none, 0, 0, 0, rfl, Nat.le_refl _, .inl rfl, fun _ => rfl, fun i hi => absurd hi (by simp)⟩

/-- The slice value v reads as the ints l. -/
def IntsAt (C : Rd) (v : Value) (l : List Int) : Prop :=
  l.length ≤ 1000000000 ∧ (∀ n ∈ l, -9223372036854775808 ≤ n ∧ n ≤ 9223372036854775807) ∧ ∃ p b off cap, v = .slice p l.length cap ∧ l.length ≤ cap ∧ (l = [] ∨ p = some ⟨b, off, none⟩) ∧ (p = none → cap = 0) ∧
    ∀ i, i < l.length → C ⟨b, off + i, none⟩ = some (.int .i64 (l.getD i 0))
theorem IntsAt.mono {C D : Rd} {v : Value} {l : List Int} (h : IntsAt C v l) (x : Sub C D) : IntsAt D v l := by
  obtain ⟨h1, h2, p, b, off, cap, hv, hc, hp, hn, hh⟩ := h
  exact ⟨h1, h2, p, b, off, cap, hv, hc, hp, hn, fun i hi => x _ _ (hh i hi)⟩

/-- A syntax tree: api.Node. -/
inductive Nd where
  | mk (k n : Int) (s : ByteArray) (kids : List Nd)
def Nd.k : Nd → Int | .mk k _ _ _ => k
def Nd.n : Nd → Int | .mk _ n _ _ => n
def Nd.s : Nd → ByteArray | .mk _ _ s _ => s
def Nd.kids : Nd → List Nd | .mk _ _ _ l => l
mutual
/-- The value v reads as the tree. -/
def Nd.At (C : Rd) : Nd → Value → Prop
  | .mk k n s kids, v => (-9223372036854775808 ≤ k ∧ k ≤ 9223372036854775807) ∧ (-9223372036854775808 ≤ n ∧ n ≤ 9223372036854775807) ∧ s.size ≤ maxLen ∧ kids.length ≤ 1000000000 ∧
      ∃ p b off cap, v = .agg #[.int .i64 k, .int .i64 n, .string s, .slice p kids.length cap] ∧ kids.length ≤ cap ∧ (kids = [] ∨ p = some ⟨b, off, none⟩) ∧ (p = none → cap = 0) ∧ Nd.In C b kids off
/-- The cells from 'off' on read as the trees, four cells each. -/
def Nd.In (C : Rd) (b : Nat) : List Nd → Nat → Prop
  | [], _ => True
  | t :: ts, off => (∃ v0 v1 v2 v3, C ⟨b, off, none⟩ = some v0 ∧ C ⟨b, off + 1, none⟩ = some v1 ∧ C ⟨b, off + 2, none⟩ = some v2 ∧ C ⟨b, off + 3, none⟩ = some v3 ∧ Nd.At C t (.agg #[v0, v1, v2, v3])) ∧ Nd.In C b ts (off + 4)
end
mutual
theorem Nd.At.mono {C D : Rd} (x : Sub C D) : ∀ (t : Nd) (v : Value), t.At C v → t.At D v
  | .mk k n s kids, v, h => by
    unfold Nd.At at h ⊢
    obtain ⟨h1, h2, h3, h4, p, b, off, cap, h5, h6, h7, h8, h9⟩ := h
    exact ⟨h1, h2, h3, h4, p, b, off, cap, h5, h6, h7, h8, Nd.In.mono x b kids off h9⟩
theorem Nd.In.mono {C D : Rd} (x : Sub C D) (b : Nat) : ∀ (l : List Nd) (off : Nat), Nd.In C b l off → Nd.In D b l off
  | [], _, _ => by unfold Nd.In; trivial
  | t :: ts, off, h => by
    unfold Nd.In at h ⊢
    obtain ⟨⟨v0, v1, v2, v3, c0, c1, c2, c3, ha⟩, hr⟩ := h
    exact ⟨⟨v0, v1, v2, v3, x _ _ c0, x _ _ c1, x _ _ c2, x _ _ c3, Nd.At.mono x t _ ha⟩, Nd.In.mono x b ts (off + 4) hr⟩
end
/-- The slice value v reads as the trees. -/
def NdsAt (C : Rd) (v : Value) (l : List Nd) : Prop :=
  l.length ≤ 1000000000 ∧ ∃ p b off cap, v = .slice p l.length cap ∧ l.length ≤ cap ∧ (l = [] ∨ p = some ⟨b, off, none⟩) ∧ (p = none → cap = 0) ∧ Nd.In C b l off
theorem NdsAt.mono {C D : Rd} {v : Value} {l : List Nd} (h : NdsAt C v l) (x : Sub C D) : NdsAt D v l := by
  obtain ⟨h1, p, b, off, cap, hv, hc, hp, hn, hh⟩ := h
  exact ⟨h1, p, b, off, cap, hv, hc, hp, hn, Nd.In.mono x b l off hh⟩
theorem NdsAt.nil (C : Rd) : NdsAt C (.slice none 0 0) [] :=
  ⟨by simp, none, 0, 0, 0, rfl, Nat.le_refl _, .inl rfl, fun _ => rfl, by unfold Nd.In; trivial⟩
/-- One tree of the row, by its place. -/
theorem Nd.In.get {C : Rd} {b : Nat} : ∀ (l : List Nd) (off : Nat), Nd.In C b l off → ∀ i (hi : i < l.length),
    ∃ v0 v1 v2 v3, C ⟨b, off + i * 4, none⟩ = some v0 ∧ C ⟨b, off + i * 4 + 1, none⟩ = some v1 ∧ C ⟨b, off + i * 4 + 2, none⟩ = some v2 ∧ C ⟨b, off + i * 4 + 3, none⟩ = some v3 ∧ Nd.At C l[i] (.agg #[v0, v1, v2, v3])
  | t :: ts, off, h, i, hi => by
    unfold Nd.In at h
    obtain ⟨h0, hr⟩ := h
    cases i with
    | zero => simpa using h0
    | succ i =>
      have := Nd.In.get ts (off + 4) hr i (by simpa using hi)
      have e : off + 4 + i * 4 = off + (i + 1) * 4 := by omega
      rw [e] at this
      simpa using this
theorem Nd.In.mk {C : Rd} {b : Nat} : ∀ (l : List Nd) (off : Nat), (∀ i (hi : i < l.length),
    ∃ v0 v1 v2 v3, C ⟨b, off + i * 4, none⟩ = some v0 ∧ C ⟨b, off + i * 4 + 1, none⟩ = some v1 ∧ C ⟨b, off + i * 4 + 2, none⟩ = some v2 ∧ C ⟨b, off + i * 4 + 3, none⟩ = some v3 ∧ Nd.At C l[i] (.agg #[v0, v1, v2, v3])) → Nd.In C b l off
  | [], _, _ => by unfold Nd.In; trivial
  | t :: ts, off, h => by
    unfold Nd.In
    refine ⟨by have := h 0 (by simp); rw [Nat.zero_mul, Nat.add_zero] at this; exact this, Nd.In.mk ts (off + 4) fun i hi => ?_⟩
    have := h (i + 1) (by simpa using hi)
    have e : off + 4 + i * 4 = off + (i + 1) * 4 := by omega
    rw [e]
    simpa using this
/-- The parts of a tree's value. -/
theorem Nd.At.parts {C : Rd} {t : Nd} {v : Value} (h : t.At C v) : ∃ kv, v = .agg #[.int .i64 t.k, .int .i64 t.n, .string t.s, kv] ∧ (-9223372036854775808 ≤ t.k ∧ t.k ≤ 9223372036854775807) ∧ (-9223372036854775808 ≤ t.n ∧ t.n ≤ 9223372036854775807) ∧ t.s.size ≤ maxLen ∧ NdsAt C kv t.kids := by
  cases t with
  | mk k n s kids =>
    unfold Nd.At at h
    obtain ⟨h1, h2, h3, h4, p, b, off, cap, h5, h6, h7, h8, h9⟩ := h
    exact ⟨_, h5, h1, h2, h3, h4, p, b, off, cap, rfl, h6, h7, h8, h9⟩
theorem Nd.At.of_parts {C : Rd} {t : Nd} {kv : Value} (h1 : -9223372036854775808 ≤ t.k ∧ t.k ≤ 9223372036854775807) (h2 : -9223372036854775808 ≤ t.n ∧ t.n ≤ 9223372036854775807) (h3 : t.s.size ≤ maxLen) (h : NdsAt C kv t.kids) :
    t.At C (.agg #[.int .i64 t.k, .int .i64 t.n, .string t.s, kv]) := by
  cases t with
  | mk k n s kids =>
    unfold Nd.At
    obtain ⟨h4, p, b, off, cap, h5, h6, h7, h8, h9⟩ := h
    exact ⟨h1, h2, h3, h4, p, b, off, cap, by rw [h5]; rfl, h6, h7, h8, h9⟩

def nodeCells (p : Nd × Value) : List Value := [.int .i64 p.1.k, .int .i64 p.1.n, .string p.1.s, p.2]
theorem flat_at : ∀ (l : List (Nd × Value)) (i : Nat) (hi : i < l.length) (j : Nat), j < 4 → (l.flatMap nodeCells)[i * 4 + j]? = (nodeCells l[i])[j]?
  | p :: l, 0, _, j, hj => by
    rw [List.flatMap_cons, List.getElem?_append_left (by simp [nodeCells]; omega)]
    simp
  | p :: l, i + 1, hi, j, hj => by
    have h4 : (nodeCells p).length = 4 := rfl
    rw [List.flatMap_cons, List.getElem?_append_right (by omega), h4]
    have := flat_at l i (by simpa using hi) j hj
    have e : (i + 1) * 4 + j - 4 = i * 4 + j := by omega
    rw [e, this]
    simp
/-- A new block of nodes reads as the list of trees. -/
theorem NdsAt.new {C D : Rd} {B : Nat} (x : Sub C D) (l : List (Nd × Value)) (hnew : ∀ j u, (l.flatMap nodeCells)[j]? = some u → D ⟨B, j, none⟩ = some u) (hl : l.length ≤ 1000000000)
    (h : ∀ p ∈ l, p.1.At C (.agg (nodeCells p).toArray)) : NdsAt D (.slice (some ⟨B, 0, none⟩) l.length l.length) (l.map (·.1)) := by
  refine ⟨by simpa using hl, _, B, 0, l.length, by simp, by simp, .inr rfl, by simp, Nd.In.mk _ _ fun i hi => ?_⟩
  have hi' : i < l.length := by simpa using hi
  have c := fun j hj => flat_at l i hi' j hj
  refine ⟨.int .i64 l[i].1.k, .int .i64 l[i].1.n, .string l[i].1.s, l[i].2, ?_, ?_, ?_, ?_, ?_⟩
  · rw [Nat.zero_add]; exact hnew _ _ ((c 0 (by omega)).trans rfl)
  · rw [Nat.zero_add]; exact hnew _ _ ((c 1 (by omega)).trans rfl)
  · rw [Nat.zero_add]; exact hnew _ _ ((c 2 (by omega)).trans rfl)
  · rw [Nat.zero_add]; exact hnew _ _ ((c 3 (by omega)).trans rfl)
  · have := Nd.At.mono x _ _ (h l[i] (List.getElem_mem hi'))
    rw [List.getElem_map]
    exact this
theorem cell_new (w : World) (cs : List Value) (T : TypeId) (j : Nat) (u : Value) (h : cs[j]? = some u) : (w.alloc (.cells cs.toArray T)).cell? ⟨w.heap.size, j, none⟩ = some u := by
  have := heap_alloc_new w (.cells cs.toArray T)
  unfold World.cell?
  rw [this]
  simpa using h
/-- In the reading from N on. -/
theorem NdsAt.newFrom {w : World} {N : Nat} (hN : N ≤ w.heap.size) (T : TypeId) (l : List (Nd × Value)) (hl : l.length ≤ 1000000000) (h : ∀ p ∈ l, p.1.At (fromC N w) (.agg (nodeCells p).toArray)) :
    NdsAt (fromC N (w.alloc (.cells (l.flatMap nodeCells).toArray T))) (.slice (some ⟨w.heap.size, 0, none⟩) l.length l.length) (l.map (·.1)) :=
  NdsAt.new (Ext.from ((Ext.refl w).alloc _) N) l (fun j u hj => fromC_some.2 ⟨hN, cell_new w _ T j u hj⟩) hl h
/-- In the reading of all but one block. -/
theorem NdsAt.newBut {w : World} {X : Nat} (hX : X < w.heap.size) (T : TypeId) (l : List (Nd × Value)) (hl : l.length ≤ 1000000000) (h : ∀ p ∈ l, p.1.At (butC w X) (.agg (nodeCells p).toArray)) :
    NdsAt (butC (w.alloc (.cells (l.flatMap nodeCells).toArray T)) X) (.slice (some ⟨w.heap.size, 0, none⟩) l.length l.length) (l.map (·.1)) :=
  NdsAt.new (Ext.but ((Ext.refl w).alloc _) X) l (fun j u hj => butC_some.2 ⟨by simp; omega, cell_new w _ T j u hj⟩) hl h
theorem NdsAt.one {w : World} {N : Nat} (hN : N ≤ w.heap.size) (T : TypeId) (t : Nd) (kv : Value) (h : t.At (fromC N w) (.agg #[.int .i64 t.k, .int .i64 t.n, .string t.s, kv])) :
    NdsAt (fromC N (w.alloc (.cells #[.int .i64 t.k, .int .i64 t.n, .string t.s, kv] T))) (.slice (some ⟨w.heap.size, 0, none⟩) 1 1) [t] :=
  NdsAt.newFrom hN T [(t, kv)] (by simp) (by intro p hp; simp at hp; subst hp; exact h)
theorem NdsAt.two {w : World} {N : Nat} (hN : N ≤ w.heap.size) (T : TypeId) (t u : Nd) (kv ku : Value) (h : t.At (fromC N w) (.agg #[.int .i64 t.k, .int .i64 t.n, .string t.s, kv])) (h2 : u.At (fromC N w) (.agg #[.int .i64 u.k, .int .i64 u.n, .string u.s, ku])) :
    NdsAt (fromC N (w.alloc (.cells #[.int .i64 t.k, .int .i64 t.n, .string t.s, kv, .int .i64 u.k, .int .i64 u.n, .string u.s, ku] T))) (.slice (some ⟨w.heap.size, 0, none⟩) 2 2) [t, u] :=
  NdsAt.newFrom hN T [(t, kv), (u, ku)] (by simp) (by
    intro p hp
    rcases List.mem_cons.1 hp with rfl | hp
    · exact h
    · rcases List.mem_cons.1 hp with rfl | hp
      · exact h2
      · cases hp)
theorem NdsAt.three {w : World} {N : Nat} (hN : N ≤ w.heap.size) (T : TypeId) (t u x : Nd) (kv ku kx : Value) (h : t.At (fromC N w) (.agg #[.int .i64 t.k, .int .i64 t.n, .string t.s, kv])) (h2 : u.At (fromC N w) (.agg #[.int .i64 u.k, .int .i64 u.n, .string u.s, ku]))
    (h3 : x.At (fromC N w) (.agg #[.int .i64 x.k, .int .i64 x.n, .string x.s, kx])) :
    NdsAt (fromC N (w.alloc (.cells #[.int .i64 t.k, .int .i64 t.n, .string t.s, kv, .int .i64 u.k, .int .i64 u.n, .string u.s, ku, .int .i64 x.k, .int .i64 x.n, .string x.s, kx] T))) (.slice (some ⟨w.heap.size, 0, none⟩) 3 3) [t, u, x] :=
  NdsAt.newFrom hN T [(t, kv), (u, ku), (x, kx)] (by simp) (by
    intro p hp
    rcases List.mem_cons.1 hp with rfl | hp
    · exact h
    · rcases List.mem_cons.1 hp with rfl | hp
      · exact h2
      · rcases List.mem_cons.1 hp with rfl | hp
        · exact h3
        · cases hp)
/-- A new block of strings. -/
theorem StrsAt.newBut {w : World} {X : Nat} (hX : X < w.heap.size) (T : TypeId) (l : List ByteArray) (hl : l.length ≤ 1000000000) (hs : ∀ s ∈ l, s.size ≤ maxLen) :
    StrsAt (butC (w.alloc (.cells (l.map Value.string).toArray T)) X) (.slice (some ⟨w.heap.size, 0, none⟩) l.length l.length) l := by
  refine ⟨hl, hs, _, w.heap.size, 0, l.length, rfl, Nat.le_refl _, .inr rfl, by simp, fun i hi => ?_⟩
  rw [Nat.zero_add, butC_some]
  exact ⟨by simp; omega, cell_new w _ T i _ (by simp [hi])⟩

theorem StrsAt.newBut0 (w : World) (T : TypeId) (l : List ByteArray) (hl : l.length ≤ 1000000000) (hs : ∀ s ∈ l, s.size ≤ maxLen) :
    StrsAt (w.alloc (.cells (l.map Value.string).toArray T)).cell? (.slice (some ⟨w.heap.size, 0, none⟩) l.length l.length) l := by
  refine ⟨hl, hs, _, w.heap.size, 0, l.length, rfl, Nat.le_refl _, .inr rfl, by simp, fun i hi => ?_⟩
  rw [Nat.zero_add]
  exact cell_new w _ T i _ (by simp [hi])

/-- The cells of an own row, at their addresses. -/
theorem own_cells {w : World} {base : Nat} {e : TypeId} {size : Nat} {v : Value} {n : Nat} {xs : List Value} (h : w.ownsRow base e size v n xs) :
    (v = .slice none 0 0 ∧ n = 0 ∧ xs = []) ∨ ∃ g cap, v = .slice (some ⟨g, 0, none⟩) n cap ∧ base ≤ g ∧ g < w.heap.size ∧ n ≤ cap ∧ ∀ j u, xs[j]? = some u → w.cell? ⟨g, j, none⟩ = some u := by
  rcases h.2 with ⟨h1, h2⟩ | ⟨g, cap, cur, hv, hb, hg, hn, _, _, ht⟩
  · refine .inl ⟨h1, h2, ?_⟩
    have := h.1
    subst h2
    exact List.eq_nil_of_length_eq_zero (by simpa using this)
  · refine .inr ⟨g, cap, hv, hb, (Array.getElem?_eq_some_iff.1 hg).1, hn, fun j u hu => ?_⟩
    have := h.cells (g := g) (by rw [hv]; rfl) j u hu
    have hadd : (⟨g, 0, none⟩ : Addr).add j = ⟨g, j, none⟩ := by unfold Addr.add; split <;> simp_all
    rwa [hadd] at this

theorem own_slice {w : World} {base : Nat} {e : TypeId} {size : Nat} {v : Value} {n : Nat} {xs : List Value} (h : w.ownsRow base e size v n xs) : ∃ p m c, v = .slice p m c := by
  rcases own_cells h with ⟨hv, _, _⟩ | ⟨g, cap, hv, _⟩
  · exact ⟨_, _, _, hv⟩
  · exact ⟨_, _, _, hv⟩
theorem StrsAt.of_own {w : World} {base : Nat} {e : TypeId} {v : Value} {l : List ByteArray} (h : w.ownsRow base e 1 v l.length (l.map Value.string))
    (h1 : l.length ≤ 1000000000) (h2 : ∀ s ∈ l, s.size ≤ maxLen) : StrsAt w.cell? v l := by
  refine ⟨h1, h2, ?_⟩
  rcases own_cells h with ⟨hv, hn, _⟩ | ⟨g, cap, hv, _, _, hn, hc⟩
  · have hl : l = [] := List.eq_nil_of_length_eq_zero hn
    subst hl
    exact ⟨none, 0, 0, 0, hv, Nat.le_refl _, .inl rfl, fun _ => rfl, fun i hi => absurd hi (by simp)⟩
  · refine ⟨_, g, 0, cap, hv, hn, .inr rfl, by simp, fun i hi => ?_⟩
    rw [Nat.zero_add]
    exact hc i _ (by simp [hi])
theorem IntsAt.of_own {w : World} {base : Nat} {e : TypeId} {v : Value} {l : List Int} (h : w.ownsRow base e 1 v l.length (l.map (Value.int .i64)))
    (h1 : l.length ≤ 1000000000) (h2 : ∀ n ∈ l, -9223372036854775808 ≤ n ∧ n ≤ 9223372036854775807) : IntsAt w.cell? v l := by
  refine ⟨h1, h2, ?_⟩
  rcases own_cells h with ⟨hv, hn, _⟩ | ⟨g, cap, hv, _, _, hn, hc⟩
  · have hl : l = [] := List.eq_nil_of_length_eq_zero hn
    subst hl
    exact ⟨none, 0, 0, 0, hv, Nat.le_refl _, .inl rfl, fun _ => rfl, fun i hi => absurd hi (by simp)⟩
  · refine ⟨_, g, 0, cap, hv, hn, .inr rfl, by simp, fun i hi => ?_⟩
    rw [Nat.zero_add]
    exact hc i _ (by simp [hi])

theorem add_at (b off j : Nat) : (⟨b, off, none⟩ : Addr).add j = ⟨b, off + j, none⟩ := by unfold Addr.add; split <;> simp_all
theorem none_nil {α : Type} {p : Option Addr} {l : List α} {b off cap : Nat} (hp : l = [] ∨ p = some ⟨b, off, none⟩) (hn : p = none → cap = 0) : p = none → l.length = 0 ∧ cap = 0 := fun e => by
  refine ⟨?_, hn e⟩
  rcases hp with rfl | hp
  · rfl
  · rw [e] at hp; cases hp
/-- The first n elements of a slice, as an append asks for them. -/
theorem ints_src {w : World} {l : List Int} {p : Option Addr} {b off : Nat} (hp : l = [] ∨ p = some ⟨b, off, none⟩) (hh : ∀ i, i < l.length → w.cell? ⟨b, off + i, none⟩ = some (.int .i64 (l.getD i 0))) (n : Nat) :
    ∀ a, p = some a → ∀ j u, ((l.take n).map (Value.int .i64))[j]? = some u → w.cell? (a.add j) = some u := fun a ha j u hu => by
  have hj : j < l.length := by
    have := (List.getElem?_eq_some_iff.1 hu).1
    simp at this; omega
  rcases hp with rfl | hp
  · simp at hj
  · rw [hp] at ha
    cases ha
    rw [add_at, hh j hj]
    simp [List.getElem?_map, List.getElem?_take] at hu
    obtain ⟨_, x, hx, rfl⟩ := hu
    simp [hx]
theorem strs_src {w : World} {l : List ByteArray} {p : Option Addr} {b off : Nat} (hp : l = [] ∨ p = some ⟨b, off, none⟩) (hh : ∀ i, i < l.length → w.cell? ⟨b, off + i, none⟩ = some (.string (l.getD i ByteArray.empty))) :
    ∀ a, p = some a → ∀ j u, (l.map Value.string)[j]? = some u → w.cell? (a.add j) = some u := fun a ha j u hu => by
  have hj : j < l.length := by
    have := (List.getElem?_eq_some_iff.1 hu).1
    simpa using this
  rcases hp with rfl | hp
  · simp at hj
  · rw [hp] at ha
    cases ha
    rw [add_at, hh j hj]
    simp [List.getElem?_map] at hu
    obtain ⟨x, hx, rfl⟩ := hu
    simp [hx]
theorem one_ints (l : List Int) : ∀ u ∈ l.map (Value.int .i64), u.oneCell' = true := by intro u hu; simp at hu; obtain ⟨_, _, rfl⟩ := hu; rfl
theorem one_strs (l : List ByteArray) : ∀ u ∈ l.map Value.string, u.oneCell' = true := by intro u hu; simp at hu; obtain ⟨_, _, rfl⟩ := hu; rfl

/-- The kit's law for an append to an own row, and where the result lies: in the old row, or in a new block. -/
theorem run_append_own2 {P : Program} (w : World) (base : Nat) (t ty e : TypeId) (i : TypeInfo) (z : Value) (size bytes : Nat) (ht : P.underlying t = some (.slice e)) (hi : P.info? e = some i) (hz : i.zero = some z)
    (hsize : i.size = size) (hby : i.bytes = bytes) (hzs : z.cells.size = size) (hsz : 0 < size)
    (v : Value) (n : Nat) (xs : List Value) (hown : w.ownsRow base e size v n xs)
    (a : Addr) (m c : Nat) (news : List Value) (hl : news.length = m * size) (hnews : ∀ j u, news[j]? = some u → w.cell? (a.add j) = some u) (h1 : ∀ u ∈ news, u.oneCell' = true)
    (h63 : n + m ≤ maxLen) (hbytes : (n + m) * bytes ≤ 140737488355328) (hbase : base ≤ w.heap.size) :
    ∃ v' w', (Builtin.append_ #[t, t] ty #[v, .slice (some a) m c]).run P w = .ok v' w' ∧ w'.ownsRow base e size v' (n + m) (xs ++ news) ∧ w.grownBy w' v.ownBlock ∧
      (v'.ownBlock = v.ownBlock ∨ v'.ownBlock = some w.heap.size) := by
  obtain ⟨v', w', hr, h2, h3, h4⟩ := run_append_own (P := P) w base t ty e i z size bytes ht hi hz hsize hby hzs hsz v n xs hown a m c news hl hnews h1 h63 hbytes hbase
  refine ⟨v', w', hr, h2, h3, ?_⟩
  subst hsize
  subst hby
  have hsmall : n + m ≤ 9223372036854775807 := by simp only [maxLen] at h63; omega
  rcases hown.2 with ⟨rfl, rfl⟩ | ⟨g, cap, cur, rfl, hbg, hg, hnc, hcm, hcs, htake⟩
  · by_cases hm : m = 0
    · rw [h4.2 ⟨rfl, hm⟩]; exact .inl rfl
    · have hr2 := run_append_nil (P := P) w t ty e i z ht hi hz a m c news hl hnews (by omega) (by omega) (by have hb := hbytes; simp only [Nat.zero_add] at hb; omega)
      rw [hr2] at hr
      injection hr with e1 e2
      rw [← e1]; exact .inr rfl
  · by_cases hroom : n + m ≤ cap
    · have hfit : n * i.size + news.length ≤ cur.size := by rw [hl, hcs, ← Nat.add_mul]; exact Nat.mul_le_mul_right _ hroom
      have hr2 := run_append_room (P := P) w t ty e i ht hi g n cap cur hg a m c news hl hnews h1 hroom hfit
      rw [hr2] at hr
      injection hr with e1 e2
      rw [← e1]; exact .inl rfl
    · have holds : ∀ j u, xs[j]? = some u → w.cell? ((⟨g, 0, none⟩ : Addr).add j) = some u := hown.cells (g := g) rfl
      have hr2 := run_append_grow (P := P) w t ty e i z ht hi hz ⟨g, 0, none⟩ n cap xs hown.1 holds a m c news hl hnews (by omega) (by omega) (growslice_fits (by omega) hbytes)
      rw [hr2] at hr
      injection hr with e1 e2
      rw [← e1]; exact .inr rfl

/-- 'append(s, x...)', s nil or the call's own row, x whatever slice (nil, empty, or one whose cells lie there). -/
theorem run_append_any {P : Program} (w : World) (base : Nat) (t ty e : TypeId) (i : TypeInfo) (z : Value) (size bytes : Nat) (ht : P.underlying t = some (.slice e)) (hi : P.info? e = some i) (hz : i.zero = some z)
    (hsize : i.size = size) (hby : i.bytes = bytes) (hzs : z.cells.size = size) (hsz : 0 < size)
    (v : Value) (n : Nat) (xs : List Value) (hown : w.ownsRow base e size v n xs)
    (p : Option Addr) (m c : Nat) (news : List Value) (hl : news.length = m * size) (hp : p = none → m = 0 ∧ c = 0) (hnews : ∀ a, p = some a → ∀ j u, news[j]? = some u → w.cell? (a.add j) = some u) (h1 : ∀ u ∈ news, u.oneCell' = true)
    (h63 : n + m ≤ maxLen) (hbytes : (n + m) * bytes ≤ 140737488355328) (hbase : base ≤ w.heap.size) :
    ∃ v' w', (Builtin.append_ #[t, t] ty #[v, .slice p m c]).run P w = .ok v' w' ∧ w'.ownsRow base e size v' (n + m) (xs ++ news) ∧ w.grownBy w' v.ownBlock ∧
      (v'.ownBlock = v.ownBlock ∨ v'.ownBlock = some w.heap.size) := by
  cases p with
  | none =>
    obtain ⟨rfl, rfl⟩ := hp rfl
    have hn : news = [] := List.eq_nil_of_length_eq_zero (by simpa using hl)
    subst hn
    refine ⟨v, w, run_append_owned_none w base t ty e i size ht hi v n xs hown, by simpa using hown, ⟨rfl, rfl, rfl, Nat.le_refl _, fun _ _ _ => rfl⟩, .inl rfl⟩
  | some a =>
    exact run_append_own2 (P := P) w base t ty e i z size bytes ht hi hz hsize hby hzs hsz v n xs hown a m c news hl (hnews a rfl) h1 h63 hbytes hbase
theorem wpList_append_any {P : Program} (w : World) {ops : Array Oper} {rest : List Oper} {o : Oper} {a : Act} {Q : Exit → Act → World → Prop} (hgd : o.guard = none) (s x : Operand) (t : TypeId)
    (ho : o.op = .call { callee := .builtin .append, args := #[s, x], argTypes := #[t, t] })
    (base : Nat) (e : TypeId) (i : TypeInfo) (z : Value) (size bytes : Nat) (ht : P.underlying t = some (.slice e)) (hi : P.info? e = some i) (hz : i.zero = some z)
    (hsize : i.size = size) (hby : i.bytes = bytes) (hzs : z.cells.size = size) (hsz : 0 < size)
    (v : Value) (n : Nat) (xs : List Value) (hs : a.eval s = v) (hown : w.ownsRow base e size v n xs)
    (p : Option Addr) (m c : Nat) (news : List Value) (hx : a.eval x = .slice p m c) (hl : news.length = m * size) (hp : p = none → m = 0 ∧ c = 0) (hnews : ∀ a, p = some a → ∀ j u, news[j]? = some u → w.cell? (a.add j) = some u) (h1 : ∀ u ∈ news, u.oneCell' = true)
    (h63 : n + m ≤ maxLen) (hbytes : (n + m) * bytes ≤ 140737488355328) (hbase : base ≤ w.heap.size)
    (h : ∀ v' w', w'.ownsRow base e size v' (n + m) (xs ++ news) → w.grownBy w' v.ownBlock → (v'.ownBlock = v.ownBlock ∨ v'.ownBlock = some w.heap.size) → wpList P ops Q rest (a.put o.dst v') w') : wpList P ops Q (o :: rest) a w := by
  refine wpList_plain hgd fun K hK => ?_
  obtain ⟨v', w', hrun, hown', hgrow, hwhere⟩ := run_append_any (P := P) w base t o.type e i z size bytes ht hi hz hsize hby hzs hsz v n xs hown p m c news hl hp hnews h1 h63 hbytes hbase
  unfold Oper.wp
  simp [execOp, ho, resolve, invoke, builtin, hs, hx, hrun, Result.andThen]
  exact hK _ _ (h v' w' hown' hgrow hwhere)
theorem cell_blk {w : World} {b : Nat} {c : Array Value} {T : TypeId} {fr : Nat × Nat} (h : w.heap[b]? = some (.cells c T fr)) (o : Nat) : w.cell? ⟨b, o, none⟩ = c[o]? := by simp [World.cell?, h]
theorem set_blk {w : World} {b : Nat} {c : Array Value} {T : TypeId} {fr : Nat × Nat} (h : w.heap[b]? = some (.cells c T fr)) (o : Nat) (v : Value) : (w.setCell ⟨b, o, none⟩ v).heap[b]? = some (.cells (c.setIfInBounds o v) T fr) := by
  simp [World.setCell, Array.getElem?_modify, h]
theorem grown_set (w : World) (b o : Nat) (v : Value) : w.grownBy (w.setCell ⟨b, o, none⟩ v) (some b) :=
  ⟨rfl, rfl, rfl, by simp [World.setCell], fun k _ hk => Below.heap_setCell _ _ _ _ (by simpa using hk)⟩
theorem grown_drewN {w w' : World} {r : Option Nat} (h : w.grownBy w' r) (n : Nat) : w.grownBy (w'.drewN n) r := ⟨h.os, h.tape, h.output, h.size, h.block⟩
theorem grown_trans {a b c : World} {r : Option Nat} (h : a.grownBy b r) (k : b.grownBy c r) : a.grownBy c r :=
  ⟨k.os.trans h.os, k.tape.trans h.tape, k.output.trans h.output, Nat.le_trans h.size k.size, fun i hi hn => (k.block i (Nat.lt_of_lt_of_le hi h.size) hn).trans (h.block i hi hn)⟩
theorem grown_refl (w : World) (r : Option Nat) : w.grownBy w r := ⟨rfl, rfl, rfl, Nat.le_refl _, fun _ _ _ => rfl⟩
theorem grown_ext {a b : World} (h : Ext a b) (r : Option Nat) : a.grownBy b r :=
  ⟨Below.os h, Below.tape h, Below.output h, Below.size h, fun i hi _ => Below.block h i hi⟩
/-- The four cells of a node's block. -/
theorem cells4 {w : World} {R : Nat} {a b c d : Value} {T : TypeId} (h : w.heap[R]? = some (.cells #[a, b, c, d] T (0, 0))) :
    w.cell? ⟨R, 0, none⟩ = some a ∧ w.cell? ⟨R, 1, none⟩ = some b ∧ w.cell? ⟨R, 2, none⟩ = some c ∧ w.cell? ⟨R, 3, none⟩ = some d ∧
    w.frozen? ⟨R, 0, none⟩ = false ∧ w.frozen? ⟨R, 1, none⟩ = false ∧ w.frozen? ⟨R, 2, none⟩ = false ∧ w.frozen? ⟨R, 3, none⟩ = false := by
  simp [World.cell?, World.frozen?, h]
theorem set4 (wk : World) (R : Nat) (v0 v1 v2 v3 : Value) : wk.grownBy ((((wk.setCell ⟨R, 0, none⟩ v0).setCell ⟨R, 1, none⟩ v1).setCell ⟨R, 2, none⟩ v2).setCell ⟨R, 3, none⟩ v3) (some R) :=
  grown_trans (grown_trans (grown_trans (grown_set _ _ _ _) (grown_set _ _ _ _)) (grown_set _ _ _ _)) (grown_set _ _ _ _)
theorem set4_blk {w : World} {R : Nat} {a0 a1 a2 a3 : Value} {T : TypeId} (h : w.heap[R]? = some (.cells #[a0, a1, a2, a3] T (0, 0))) (v0 v1 v2 v3 : Value) :
    ((((w.setCell ⟨R, 0, none⟩ v0).setCell ⟨R, 1, none⟩ v1).setCell ⟨R, 2, none⟩ v2).setCell ⟨R, 3, none⟩ v3).heap[R]? = some (.cells #[v0, v1, v2, v3] T (0, 0)) :=
  set_blk (set_blk (set_blk (set_blk h 0 v0) 1 v1) 2 v2) 3 v3
theorem set4_alloc {w : World} {R : Nat} (hR : R < w.heap.size) (o : Obj) (v0 v1 v2 v3 : Value) :
    (((((w.alloc o).setCell ⟨R, 0, none⟩ v0).setCell ⟨R, 1, none⟩ v1).setCell ⟨R, 2, none⟩ v2).setCell ⟨R, 3, none⟩ v3) =
    (((((w.setCell ⟨R, 0, none⟩ v0).setCell ⟨R, 1, none⟩ v1).setCell ⟨R, 2, none⟩ v2).setCell ⟨R, 3, none⟩ v3).alloc o) := by
  have h1 := fun (w : World) (a : Addr) (v : Value) => (show (w.setCell a v).heap.size = w.heap.size by simp [World.setCell])
  rw [World.setCell_alloc_past o R 0 v0 hR, World.setCell_alloc_past o R 1 v1 (by rw [h1]; exact hR), World.setCell_alloc_past o R 2 v2 (by rw [h1, h1]; exact hR), World.setCell_alloc_past o R 3 v3 (by rw [h1, h1, h1]; exact hR)]

/-! ### A slice of the call's own to which trees (or other things that lie in memory) are appended -/
section
variable {T : Type} {cells : T → List Value} {ok : Rd → T → Prop}
/-- v is an own row of the things xs; what they reach lies in blocks that A allows, and not in the row itself. -/
structure OwnL (cells : T → List Value) (ok : Rd → T → Prop) (w : World) (base : Nat) (e : TypeId) (k : Nat) (A : Nat → Prop) (v : Value) (xs : List T) : Prop where
  row : w.ownsRow base e k v xs.length (xs.flatMap cells)
  ex : ∃ C : Rd, (∀ a u, C a = some u → w.cell? a = some u ∧ A a.block ∧ some a.block ≠ v.ownBlock) ∧ ∀ x ∈ xs, ok C x
variable {w w' : World} {base : Nat} {e : TypeId} {k : Nat} {A : Nat → Prop} {v v' : Value} {xs : List T} {r : Option Nat}
theorem OwnL.nil (w : World) (base : Nat) (e : TypeId) (k : Nat) (A : Nat → Prop) : OwnL cells ok w base e k A (.slice none 0 0) [] :=
  ⟨World.ownsRow_nil _ _ _ _, (fun _ => none), ⟨(fun _ _ h => by cases h), (fun _ h => by cases h)⟩⟩
theorem OwnL.kept (h : OwnL cells ok w base e k A v xs) (g : w.grownBy w' r) (hA : ∀ n, A n → some n ≠ r) (hr : v.ownBlock = none ∨ v.ownBlock ≠ r) : OwnL cells ok w' base e k A v xs := by
  obtain ⟨h1, C, h2, h3⟩ := h
  exact ⟨h1.kept g hr, C, fun a u ha => ⟨g.cell (h2 a u ha).1 (hA _ (h2 a u ha).2.1), (h2 a u ha).2⟩, h3⟩
theorem OwnL.ext (h : OwnL cells ok w base e k A v xs) (g : Ext w w') : OwnL cells ok w' base e k A v xs :=
  h.kept (r := none) ⟨Below.os g, Below.tape g, Below.output g, Below.size g, fun i hi _ => Below.block g i hi⟩ (by simp) (by cases v.ownBlock <;> simp)
theorem OwnL.push {x : T} (okm : ∀ (C D : Rd) x, Sub C D → ok C x → ok D x) (h : OwnL cells ok w base e k A v xs) {D : Rd} (hD : ∀ a u, D a = some u → w.cell? a = some u ∧ A a.block ∧ some a.block ≠ v.ownBlock) (hx : ok D x)
    (hown : w'.ownsRow base e k v' (xs.length + 1) (xs.flatMap cells ++ cells x)) (g : w.grownBy w' v.ownBlock) (hw : v'.ownBlock = v.ownBlock ∨ v'.ownBlock = some w.heap.size) : OwnL cells ok w' base e k A v' (xs ++ [x]) := by
  obtain ⟨h1, C, h2, h3⟩ := h
  have key : ∀ (a : Addr) u, (w.cell? a = some u ∧ A a.block ∧ some a.block ≠ v.ownBlock) → w'.cell? a = some u ∧ A a.block ∧ some a.block ≠ v'.ownBlock := fun a u ⟨k1, k2, k3⟩ => by
    refine ⟨g.cell k1 k3, k2, ?_⟩
    rcases hw with hw | hw
    · rw [hw]; exact k3
    · rw [hw]
      have := World.block_lt_of_cell? w a k1
      simp; omega
  refine ⟨by simpa using hown, fun a => match C a with | some u => some u | none => D a, fun a u ha => ?_, fun y hy => ?_⟩
  · cases hc : C a with
    | some u' => simp only [hc] at ha; cases ha; exact key a _ (h2 a _ hc)
    | none => simp only [hc] at ha; exact key a _ (hD a _ ha)
  · have s1 : Sub C (fun a => match C a with | some u => some u | none => D a) := fun a u ha => by simp only [ha]
    rcases List.mem_append.1 hy with hy | hy
    · exact okm _ _ _ s1 (h3 y hy)
    · simp at hy; subst hy
      refine okm _ _ _ (fun a u ha => ?_) hx
      cases hc : C a with
      | none => simpa only [hc] using ha
      | some u' =>
        have e1 := (h2 a _ hc).1
        have e2 := (hD a _ ha).1
        rw [e1] at e2
        simp only []
        exact e2
end

/-! ### Own rows of nodes -/
def okN (C : Rd) (p : Nd × Value) : Prop := p.1.At C (.agg (nodeCells p).toArray)
theorem okN.mono (C D : Rd) (p : Nd × Value) (x : Sub C D) (h : okN C p) : okN D p := Nd.At.mono x _ _ h
theorem one_node (p : Nd × Value) (C : Rd) (h : okN C p) : ∀ u ∈ nodeCells p, u.oneCell' = true := by
  obtain ⟨kv, hv, _, _, _, _, q, b, off, cap, hk, _⟩ := h.parts
  intro u hu
  have e : p.2 = kv := by
    have := congrArg (fun v => match v with | .agg a => a[3]? | _ => none) hv
    simpa [nodeCells] using this
  simp [nodeCells] at hu
  rcases hu with rfl | rfl | rfl | rfl
  · rfl
  · rfl
  · rfl
  · rw [e, hk]; rfl
theorem OwnL.nds {w : World} {base : Nat} {e : TypeId} {A : Nat → Prop} {v : Value} {xs : List (Nd × Value)} (h : OwnL nodeCells okN w base e 4 A v xs) {D : Rd} (hA : ∀ a u, w.cell? a = some u → A a.block → D a = some u)
    (hrow : ∀ a u, w.cell? a = some u → base ≤ a.block → D a = some u) (hl : xs.length ≤ 1000000000) : NdsAt D v (xs.map (·.1)) := by
  obtain ⟨h1, C, h2, h3⟩ := h
  rcases own_cells h1 with ⟨hv, hn, _⟩ | ⟨g, cap, hv, hb, _, hn, hc⟩
  · have hl : xs = [] := List.eq_nil_of_length_eq_zero hn
    subst hl
    rw [hv]; exact NdsAt.nil _
  · have x : Sub C D := fun a u ha => hA a u (h2 a u ha).1 (h2 a u ha).2.1
    refine ⟨by simpa using hl, _, g, 0, cap, by simpa using hv, by simpa using hn, .inr rfl, by simp, Nd.In.mk _ _ fun i hi => ?_⟩
    have hi' : i < xs.length := by simpa using hi
    have c := fun j hj => flat_at xs i hi' j hj
    refine ⟨.int .i64 xs[i].1.k, .int .i64 xs[i].1.n, .string xs[i].1.s, xs[i].2, ?_, ?_, ?_, ?_, ?_⟩
    · rw [Nat.zero_add]; exact hrow _ _ (hc _ _ ((c 0 (by omega)).trans rfl)) hb
    · rw [Nat.zero_add]; exact hrow _ _ (hc _ _ ((c 1 (by omega)).trans rfl)) hb
    · rw [Nat.zero_add]; exact hrow _ _ (hc _ _ ((c 2 (by omega)).trans rfl)) hb
    · rw [Nat.zero_add]; exact hrow _ _ (hc _ _ ((c 3 (by omega)).trans rfl)) hb
    · have := okN.mono _ _ _ x (h3 xs[i] (List.getElem_mem hi'))
      rw [List.getElem_map]
      exact this
/-! ### The operators and names -/
def names9 : List ByteArray := [⟨#[115, 101, 108, 102]⟩, ⟨#[110, 111, 100, 101, 115]⟩, ⟨#[110, 111, 119]⟩, ⟨#[102, 114, 111, 109]⟩, ⟨#[97]⟩, ⟨#[98]⟩, ⟨#[105, 100]⟩, ⟨#[111, 112]⟩, ⟨#[107, 101, 121]⟩]
def ops2 : List ByteArray := [⟨#[38, 38]⟩, ⟨#[124, 124]⟩]
def ops6 : List ByteArray := [⟨#[60]⟩, ⟨#[60, 61]⟩, ⟨#[62]⟩, ⟨#[62, 61]⟩, ⟨#[61, 61]⟩, ⟨#[33, 61]⟩]
def ops4 : List ByteArray := [⟨#[43]⟩, ⟨#[45]⟩, ⟨#[42]⟩, ⟨#[47]⟩]
theorem short1 (c : UInt8) : (⟨#[c]⟩ : ByteArray).size ≤ maxLen := show (1 : Nat) ≤ maxLen by decide
theorem short9 : ∀ s ∈ names9, s.size ≤ maxLen := by decide +kernel
theorem short2 : ∀ s ∈ ops2, s.size ≤ maxLen := by decide +kernel
theorem short6 : ∀ s ∈ ops6, s.size ≤ maxLen := by decide +kernel
theorem short4 : ∀ s ∈ ops4, s.size ≤ maxLen := by decide +kernel
theorem len9 : 1 ≤ names9.length := by decide
theorem len2 : 1 ≤ ops2.length := by decide
theorem len6 : 1 ≤ ops6.length := by decide
theorem len4 : 1 ≤ ops4.length := by decide
theorem lt_of_mem {l : List ByteArray} (h : ∀ s ∈ l, s.size ≤ maxLen) {s : ByteArray} (hs : s ∈ l) : s.size ≤ maxLen := h s hs
abbrev opsA := ops4
abbrev opsC := ops6
end Go.Proofs.YtinjgckpmblffaaDoor
