/- Iterators: what the caller's rounds may turn; yield. -/
import Derived.Test.YthaccjcadgodlaaDoorVmY
namespace Go.Proofs.YthaccjcadgodlaaDoor.Vm
open Go.RowKit
set_option linter.unusedSimpArgs false
set_option linter.unusedVariables false
/-- The blocks that the caller's rounds may turn: its variable B, and the row that B names. -/
def ownB (B : Nat) (W : World) (b : Nat) : Prop := b = B ∨ ∃ a l c, W.cell? ⟨B, 0, none⟩ = some (.slice (some a) l c) ∧ a.block = b
def ValB (B : Nat) (W : World) : Prop := (∃ o, W.heap[B]? = some o ∧ o.isCells = true) ∧ ∀ b, ownB B W b → b < W.heap.size
def KpB (B : Nat) (W W' : World) : Prop := ValB B W → ValB B W' ∧ W.heap.size ≤ W'.heap.size ∧ (∀ b, ownB B W' b → ownB B W b ∨ W.heap.size ≤ b) ∧ ∀ b o, W.heap[b]? = some o → o.isCells = true → ¬ ownB B W b → W'.heap[b]? = some o
theorem heap_lt {W : World} {b : Nat} {o : Obj} (h : W.heap[b]? = some o) : b < W.heap.size := (Array.getElem?_eq_some_iff.1 h).1
theorem ValB.lt {B : Nat} {W : World} (h : ValB B W) : B < W.heap.size := h.2 B (.inl rfl)
theorem KpB.refl (B : Nat) (W : World) : KpB B W W := fun h => ⟨h, Nat.le_refl _, fun _ h => .inl h, fun _ _ h _ _ => h⟩
theorem KpB.trans {B : Nat} {a b c : World} (h : KpB B a b) (k : KpB B b c) : KpB B a c := fun hv => by
  obtain ⟨h1, h2, h3, h4⟩ := h hv
  obtain ⟨k1, k2, k3, k4⟩ := k h1
  refine ⟨k1, Nat.le_trans h2 k2, fun x hx => ?_, fun x o hx ho hn => k4 x o (h4 x o hx ho hn) ho fun ho' => ?_⟩
  · rcases k3 x hx with hx | hx
    · exact h3 x hx
    · exact .inr (by omega)
  · rcases h3 x ho' with hx' | hx'
    · exact hn hx'
    · have := heap_lt hx
      omega
theorem ownB_same {B : Nat} {W W' : World} (h : W'.heap[B]? = W.heap[B]?) (b : Nat) : ownB B W' b ↔ ownB B W b := by
  have : W'.cell? ⟨B, 0, none⟩ = W.cell? ⟨B, 0, none⟩ := World.cell?_of_block (w := W) h
  unfold ownB
  rw [this]
theorem KpB.put {B : Nat} (W : World) (l : Nat) (o o' : Obj) (hl : W.heap[l]? = some o) (ho : o.isCells = false) : KpB B W (W.putObj l o') := fun hv => by
  obtain ⟨⟨ob, h1, h2⟩, h3⟩ := hv
  have hne : ∀ (b : Nat) (ob : Obj), W.heap[b]? = some ob → ob.isCells = true → (W.putObj l o').heap[b]? = W.heap[b]? := fun b ob h1 h2 => by
    refine World.putObj_heap_other ?_
    rintro rfl
    rw [hl] at h1
    cases h1
    rw [ho] at h2
    cases h2
  have hsz : (W.putObj l o').heap.size = W.heap.size := by simp [World.putObj]
  have hB := hne B ob h1 h2
  refine ⟨⟨⟨ob, by rw [hB]; exact h1, h2⟩, fun b hb => ?_⟩, by omega, fun b hb => .inl ((ownB_same hB b).1 hb), fun b o hb hoc _ => (hne b o hb hoc).trans hb⟩
  rw [hsz]
  exact h3 b ((ownB_same hB b).1 hb)
/-- What only makes new memory. -/
theorem ValB.keeps {B : Nat} {W W' : World} (h : ValB B W) (k : Keeps [] W W') : ValB B W' ∧ ∀ b, ownB B W' b ↔ ownB B W b := by
  have hB := k.block B h.lt (by simp)
  refine ⟨⟨?_, fun b hb => ?_⟩, fun b => ownB_same hB b⟩
  · rw [hB]; exact h.1
  · have := h.2 b ((ownB_same hB b).1 hb)
    have := k.size
    omega
theorem KpB.keeps {B : Nat} {W W' : World} (k : Keeps [] W W') : KpB B W W' := fun hv => by
  obtain ⟨h1, h2⟩ := hv.keeps k
  exact ⟨h1, k.size, fun b hb => .inl ((h2 b).1 hb), fun b o hb _ _ => (k.block b (heap_lt hb) (by simp)).trans hb⟩
theorem cell_block {W : World} {ad : Addr} {u : Value} (h : W.cell? ad = some u) : ∃ o, W.heap[ad.block]? = some o ∧ o.isCells = true := by
  unfold World.cell? at h
  split at h
  · rename_i c e f ho
    exact ⟨_, ho, rfl⟩
  · cases h
theorem abides_keeps {β : Type} {n : Nat} {J : β → World → Prop} (h : AbidesFrom n J) {s : β} {W W' : World} (hj : J s W) (k : Keeps [] W W') : J s W' :=
  h s W W' none hj ⟨k.os, k.tape, k.output, k.size, fun b hb _ => k.block b hb (by simp)⟩ fun r hr => by cases hr
section
variable {w0 w : World} {C : Rd} {t : List A} {a : Act} {B : Nat}
/-- Behind a round of the caller's. -/
theorem Inv.yielded (hi : Inv w0 C [] ⟨t, [], []⟩ a w) (hv : ValB B w0) (hno : ∀ ad u, C ad = some u → ¬ ownB B w0 ad.block) : Keeps [] w0 w ∧ ∀ w2, KpB B w w2 → ∃ C', Inv w2 C' [] ⟨t, [], []⟩ a w2 ∧ ValB B w2 ∧ ∀ ad u, C' ad = some u → ¬ ownB B w2 ad.block := by
  obtain ⟨C', h1, h2, h3, h4, h5⟩ := hi.again
  refine ⟨h4, fun w2 hk => ?_⟩
  obtain ⟨v1, v2⟩ := hv.keeps h4
  obtain ⟨k1, k2, k3, k4⟩ := hk v1
  have hn : ∀ ad u, C' ad = some u → ¬ ownB B w ad.block := fun ad u hc ho => by
    have ho := (v2 _).1 ho
    rcases h3 ad u hc with q | q
    · exact hno ad u q ho
    · have := hv.2 _ ho
      omega
  refine ⟨C', h5 w2 fun ad u hc => ?_, k1, fun ad u hc ho => ?_⟩
  · obtain ⟨o, q1, q2⟩ := cell_block (h2 ad u hc)
    have := k4 _ o q1 q2 (hn ad u hc)
    exact (World.cell?_of_block (w := w) (this.trans q1.symm)).trans (h2 ad u hc)
  · rcases k3 _ ho with q | q
    · exact hn ad u hc q
    · obtain ⟨o, q1, q2⟩ := cell_block (h2 ad u hc)
      have := heap_lt q1
      omega
theorem of_slot {C0 : Rd} {β0 : List Nat} {s : S} (hi : Inv w0 C0 β0 s a w) {i : Nat} {v : Value} (h : s.t.getD i .dead = .v v) : a.tmps.getD i undef = v := by
  obtain ⟨E, _, ht, _⟩ := hi
  have := A.repL_getD ht i undef
  rw [h] at this
  have := (A.rep_v_iff.1 this).1
  simpa [Array.getD_eq_getD_getElem?, List.getD_eq_getElem?_getD] using this
/-- A call of yield. -/
theorem seqIn_yield {n l : Nat} {P : Program} {ops : Array Oper} {o : Oper} {rest : List Oper} {f : Operand} {args : Array Operand} {ts : Array TypeId} {vals : Array Value} {Q : Exit → Act → World → Prop} {R : Ending → World → Prop}
    (ho : o.op = .call ⟨.value f, args, ts⟩) (hg : o.guard = none) (hf : a.eval f = .func (.yield l) #[] #[]) (hv : args.map a.eval = vals) (hy : YieldAt Fence.wide (n - 1) P l vals w R)
    (hk : ∀ e w', R e w' → ∃ v, e = .returned v ∧ wpListIn Fence.wide n P ops Q rest (a.put o.dst v) w') : wpListIn Fence.wide n P ops Q (o :: rest) a w := by
  unfold wpListIn
  rw [if_pos (by simp [Region.wanted, hg])]
  obtain ⟨fn, tmps, assign, body, h1, h2⟩ := hy
  refine ⟨fun _ _ => trivial, ?_⟩
  have e : o.semAt Fence.wide.round a.eval = execOp a.eval o := rfl
  rw [e]
  have hrun : (execOp a.eval o).run P w = .ok (.round l fn tmps assign body) w := by
    rw [← h1, ← hv]
    simp [execOp, ho, resolve, Deferred.ofValue, hf, invoke, Result.andThen]
  rw [hrun]
  refine ⟨fun h' => by simp [Fence.wide] at h', h2.mono fun e w' hr => ?_⟩
  obtain ⟨v, rfl, hw⟩ := hk e w' hr
  exact hw
theorem inv_start {W : World} {C : Rd} (h0 : Gok C) (h1 : Sub C W.cell?) {args : List A} {vals : Array Value} {n : Nat} (h6 : A.repL args ⟨C, [], []⟩ vals.toList) :
    Inv W C [] ⟨args ++ List.replicate (n - args.length) .dead, [], []⟩ { tmps := vals ++ Array.replicate (n - vals.size) undef, defers := [] } W := by
  have hl := A.repL_len h6
  refine ⟨⟨C, [], []⟩, ⟨h1, Sub.refl _, fun _ _ hc => .inl hc, ⟨[], by simp, by simp⟩, List.nodup_nil, fun b hb => by simp at hb, rfl, fun i b cs hb => by simp at hb, rfl, fun g r y hg => by simp at hg, fun g e k n cs y b hg => by simp at hg, fun g e k n cs y h' e' k' n' cs' z b _ hg => by simp at hg, fun g y hg => by simp at hg, Keeps.refl _ _, h0⟩, ?_, rfl⟩
  have : (vals ++ Array.replicate (n - vals.size) undef).toList = vals.toList ++ List.replicate (n - args.length) undef := by
    have : vals.size = args.length := by rw [← hl]; simp
    simp [this]
  rw [this]
  exact A.repL_append h6 (rep_deads _ _)
theorem cond_in {C0 : Rd} {β0 : List Nat} {s : S} {F : Fence} {n : Nat} {P : Program} {x y : Code} {Q : Exit → Act → World → Prop} (hi : Inv w0 C0 β0 s a w) {w2 : World} {i : Nat} {b : Bool} (h : s.t.getD i .dead = .v (.bool b)) (hk : (if b then x else y).wpIn F n P Q a w2) : (Code.cond (.tmp i) x y).wpIn F n P Q a w2 :=
  wpIn_cond (of_slot hi h) hk
/-- A piece of code, and what comes behind it. -/
theorem piece_k {c : Cx} {C0 : Rd} {β0 : List Nat} {s : S} {n : Nat} {x y : Code} {Q : Exit → Act → World → Prop} (hc : c.ok) (hn : β0.length = c.np) (hi : Inv w0 C0 β0 s a w) (ho : ordOk c.ord x = true)
    (h : awp c x s fun e s' => ∀ a' w', Inv w0 C0 β0 s' a' w' → Exit.then (y.wpIn Fence.wide n c.P Q) Q e a' w') : (Code.seq x y).wpIn Fence.wide n c.P Q a w :=
  wpIn_seq (piece_ok hc hn ho hi h fun e s' a' w' h1 h2 => h1 a' w' h2)
/-- The same from a state that is told by its first slots. -/
theorem piece_i {c : Cx} {C0 : Rd} {β0 : List Nat} {l : List A} {m : Nat} {bx : List (List A)} {n : Nat} {x y : Code} {Q : Exit → Act → World → Prop} (hc : c.ok) (hn : β0.length = c.np) (hi : Inv w0 C0 β0 ⟨l ++ List.replicate m .dead, bx, []⟩ a w) (ho : ordOk c.ord x = true)
    (h : initK l m fun t => awp c x ⟨t, bx, []⟩ fun e s' => ∀ a' w', Inv w0 C0 β0 s' a' w' → Exit.then (y.wpIn Fence.wide n c.P Q) Q e a' w') : (Code.seq x y).wpIn Fence.wide n c.P Q a w :=
  piece_k hc hn hi ho ((initK_iff (K := fun t => awp c x ⟨t, bx, []⟩ _)).1 h)
/-- Operations of a region one after the other, and what comes behind them. -/
theorem seqIn_k {c : Cx} {C0 : Rd} {β0 : List Nat} {s : S} {n : Nat} {ops l : List Oper} {Q : Exit → Act → World → Prop} (m : Nat) (hc : c.ok) (hi : Inv w0 C0 β0 s a w)
    (h : aseq c ops (l.take m) s fun s' => ∀ a' w', Inv w0 C0 β0 s' a' w' → wpListIn Fence.wide n c.P ops.toArray Q (l.drop m) a' w') : wpListIn Fence.wide n c.P ops.toArray Q l a w := by
  have := seqIn_ok (n := n) (Q := Q) hc (l.drop m) hi h fun s' a' w' h1 h2 => h1 a' w' h2
  rwa [List.take_append_drop] at this
theorem seqIn_i {c : Cx} {C0 : Rd} {β0 : List Nat} {bx : List (List A)} {l0 : List A} {m0 n : Nat} {ops l : List Oper} {Q : Exit → Act → World → Prop} (m : Nat) (hc : c.ok) (hi : Inv w0 C0 β0 ⟨l0 ++ List.replicate m0 .dead, bx, []⟩ a w)
    (h : initK l0 m0 fun t => aseq c ops (l.take m) ⟨t, bx, []⟩ fun s' => ∀ a' w', Inv w0 C0 β0 s' a' w' → wpListIn Fence.wide n c.P ops.toArray Q (l.drop m) a' w') : wpListIn Fence.wide n c.P ops.toArray Q l a w :=
  seqIn_k m hc hi ((initK_iff (K := fun t => aseq c ops (l.take m) ⟨t, bx, []⟩ _)).1 h)
theorem put_k {C0 : Rd} {β0 : List Nat} {s : S} {d : Option Nat} {v : Value} {G : Act → Prop} (hi : Inv w0 C0 β0 s a w) (hv : okV v) (h : putK s d (.v v) fun s' => ∀ a', Inv w0 C0 β0 s' a' w → G a') : G (a.put d v) := by
  obtain ⟨E, hp, ht, hd⟩ := hi
  obtain ⟨s2, k1, k2, k3, k4, k5⟩ := put_ok (a := a) hp ht hd (A.rep_v hv) h
  exact k1 _ ⟨E, by rw [k2, k3]; exact hp, k4, k5⟩
def apu0 (s : S) (K : S → Prop) : Prop := K s
def apu1 (c : Cx) (ops : List Oper) (o : Oper) (ih : S → (S → Prop) → Prop) (s : S) (K : S → Prop) : Prop :=
  wantK ops o s (aquiet c s o fun r => putK s o.dst r fun s' => ih s' K) (putK s o.dst (.tup []) fun s' => ih s' K)
/-- Operations that ask no memory: in whatever world. -/
noncomputable def apu (c : Cx) (ops : List Oper) (l : List Oper) : S → (S → Prop) → Prop := List.rec (motive := fun _ => S → (S → Prop) → Prop) apu0 (fun o _ ih => apu1 c ops o ih) l
theorem seqPure_ok {c : Cx} {C0 : Rd} {β0 : List Nat} {n : Nat} {ops : List Oper} {Q : Exit → Act → World → Prop} (hc : c.ok) {w2 : World} : ∀ {l : List Oper} {s : S} {a : Act}, Inv w0 C0 β0 s a w → apu c ops l s (fun s' => ∀ a', Inv w0 C0 β0 s' a' w → Q .normal a' w2) → wpListIn Fence.wide n c.P ops.toArray Q l a w2
  | [], s, a, hi, h => h a hi
  | o :: r, s, a, ⟨E, hp, ht, hd⟩, h => by
    change apu1 c ops o (apu c ops r) s _ at h
    unfold apu1 at h
    unfold wpListIn
    rcases want_ok ht h with ⟨h1, h2⟩ | ⟨h1, h2⟩
    · rw [if_pos h1]
      obtain ⟨x, y, k1, k2, k3⟩ := quiet_ok hc hp ht h2
      obtain ⟨s2, p1, p2, p3, p4, p5⟩ := put_ok (a := a) hp ht hd k2 k1
      refine ⟨fun _ _ => trivial, ?_⟩
      have e : o.semAt Fence.wide.round a.eval = execOp a.eval o := rfl
      rw [e, k3 w2]
      exact seqPure_ok hc ⟨E, by rw [p2, p3]; exact hp, p4, p5⟩ p1
    · rw [if_neg (by rw [h1]; simp)]
      obtain ⟨s2, p1, p2, p3, p4, p5⟩ := put_ok (a := a) hp ht hd (rep_undef _) h2
      exact ⟨fun _ _ => trivial, seqPure_ok hc ⟨E, by rw [p2, p3]; exact hp, p4, p5⟩ p1⟩
theorem repC_vals {E : Env} : ∀ {vs us : List Value}, A.repC (vs.map A.v) E us → us = vs
  | [], us, h => by unfold A.repC at h; exact h
  | v :: vs, us, h => by
    rw [List.map_cons] at h
    unfold A.repC at h
    obtain ⟨u, us', rfl, _, h2, h3⟩ := h
    rw [(A.rep_v_iff.1 h2).1, repC_vals h3]
theorem of_agg {C0 : Rd} {β0 : List Nat} {s : S} (hi : Inv w0 C0 β0 s a w) {i : Nat} {vs : List Value} (h : s.t.getD i .dead = .agg (vs.map A.v)) : a.tmps.getD i undef = .agg vs.toArray := by
  obtain ⟨E, _, ht, _⟩ := hi
  have := A.repL_getD ht i undef
  rw [h] at this
  unfold A.rep at this
  obtain ⟨us, h1, h2⟩ := this
  have h3 := repC_vals h2
  have : a.tmps.getD i undef = .agg us := by simpa [Array.getD_eq_getD_getElem?, List.getD_eq_getElem?_getD] using h1
  rw [this, ← h3]
end
end Go.Proofs.YthaccjcadgodlaaDoor.Vm
