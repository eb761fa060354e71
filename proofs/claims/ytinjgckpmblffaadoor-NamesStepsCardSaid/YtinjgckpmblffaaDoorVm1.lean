/- The state of a call: own boxes and own rows; what keeps it. -/
import Derived.Test.YtinjgckpmblffaaDoorVm0
namespace Go.Proofs.YtinjgckpmblffaaDoor.Vm
open Go.RowKit
set_option linter.unusedSimpArgs false
set_option linter.unusedVariables false
/-- An own row: it may be appended to; nobody writes to it any more; it is given up. -/
inductive Row where
  | live (e k n : Nat) (cs : List A)
  | pub (k n : Nat) (cs : List A)
  | gone
structure S where
  t : List A
  bx : List (List A)
  rw : List Row
/-- All blocks but those of X are as they were. -/
structure Keeps (X : List Nat) (w w' : World) : Prop where
  os : w'.os = w.os
  tape : w'.tape = w.tape
  output : w'.output = w.output
  size : w.heap.size ≤ w'.heap.size
  block : ∀ b, b < w.heap.size → b ∉ X → w'.heap[b]? = w.heap[b]?
theorem Keeps.refl (X : List Nat) (w : World) : Keeps X w w := ⟨rfl, rfl, rfl, Nat.le_refl _, fun _ _ _ => rfl⟩
theorem Keeps.trans {X : List Nat} {a b c : World} (h : Keeps X a b) (k : Keeps X b c) : Keeps X a c :=
  ⟨k.os.trans h.os, k.tape.trans h.tape, k.output.trans h.output, Nat.le_trans h.size k.size, fun i hi hn => (k.block i (Nat.lt_of_lt_of_le hi h.size) hn).trans (h.block i hi hn)⟩
/-- A later change of blocks that are in X, or that are new. -/
theorem Keeps.step {X Y : List Nat} {a b c : World} (h : Keeps X a b) (k : Keeps Y b c) (hY : ∀ y ∈ Y, y ∈ X ∨ a.heap.size ≤ y) : Keeps X a c :=
  ⟨k.os.trans h.os, k.tape.trans h.tape, k.output.trans h.output, Nat.le_trans h.size k.size, fun i hi hn =>
    (k.block i (Nat.lt_of_lt_of_le hi h.size) (fun hy => (hY i hy).elim hn (fun h2 => by omega))).trans (h.block i hi hn)⟩
theorem Keeps.ext {w w' : World} (h : Keeps [] w w') : Ext w w' := ⟨h.os, h.tape, h.output, h.size, fun b hb => h.block b hb (by simp)⟩
theorem Keeps.of_ext {w w' : World} (h : Ext w w') : Keeps [] w w' := ⟨Below.os h, Below.tape h, Below.output h, Below.size h, fun b hb _ => Below.block h b hb⟩
theorem Keeps.of_grown {w w' : World} {v : Value} (h : w.grownBy w' v.ownBlock) : Keeps v.ownBlock.toList w w' :=
  ⟨h.os, h.tape, h.output, h.size, fun b hb hn => h.block b hb (fun e => hn (by rw [← e]; simp))⟩
theorem Keeps.alloc (w : World) (o : Obj) : Keeps [] w (w.alloc o) := Keeps.of_ext ((Ext.refl w).alloc o)
theorem Keeps.drew (w : World) : Keeps [] w w.drew := Keeps.of_ext (Ext.refl w).drew
theorem Keeps.set (w : World) (b o : Nat) (v : Value) : Keeps [b] w (w.setCell ⟨b, o, none⟩ v) :=
  ⟨rfl, rfl, rfl, by simp [World.setCell], fun k _ hk => Below.heap_setCell _ _ _ _ (by simpa using hk)⟩
theorem Keeps.cell {X : List Nat} {w w' : World} (h : Keeps X w w') {a : Addr} {u : Value} (hc : w.cell? a = some u) (hn : a.block ∉ X) : w'.cell? a = some u :=
  (World.cell?_of_block (h.block a.block (World.block_lt_of_cell? w a hc) hn)).trans hc
theorem ownsRow_same {w w' : World} {base : Nat} {e : TypeId} {size : Nat} {v : Value} {n : Nat} {xs : List Value} (h : w.ownsRow base e size v n xs)
    (k : ∀ b, v.ownBlock = some b → w'.heap[b]? = w.heap[b]?) : w'.ownsRow base e size v n xs := by
  refine ⟨h.1, ?_⟩
  rcases h.2 with hn | ⟨g, cap, cur, rfl, hb, hgg, rest⟩
  · exact .inl hn
  · exact .inr ⟨g, cap, cur, rfl, hb, (k g rfl).trans hgg, rest⟩
theorem nodup_inj {l : List Nat} (h : l.Nodup) {i j : Nat} {hi : i < l.length} {hj : j < l.length} (e : l[i] = l[j]) : i = j := by
  rcases Nat.lt_trichotomy i j with h1 | h1 | h1
  · exact absurd e (List.pairwise_iff_getElem.1 h i j hi hj h1)
  · exact h1
  · exact absurd e.symm (List.pairwise_iff_getElem.1 h j i hj hi h1)
theorem snoc_slices {ρ : List Value} {v : Value} (h : ∀ (g : Nat) (y : Value), ρ[g]? = some y → ∃ p n c, y = .slice p n c) (hv : ∃ p n c, v = .slice p n c) (g : Nat) (y : Value) (h1 : (ρ ++ [v])[g]? = some y) : ∃ p n c, y = .slice p n c := by
  by_cases hg : g < ρ.length
  · rw [List.getElem?_append_left hg] at h1; exact h g y h1
  · rw [List.getElem?_append_right (by omega)] at h1
    have := (List.getElem?_eq_some_iff.1 h1).1
    have e : g - ρ.length = 0 := by simp at this; omega
    rw [e] at h1
    simp at h1
    rw [← h1]; exact hv
def boxAt (w : World) (E : Env) (b : Nat) (cs : List A) : Prop := ∃ T arr, w.heap[b]? = some (.cells arr T (0, 0)) ∧ A.repC cs E arr.toList
theorem boxAt.mono {w : World} {E F : Env} {b : Nat} {cs : List A} (h : boxAt w E b cs) (le : E.le F) : boxAt w F b cs := by
  obtain ⟨T, arr, h1, h2⟩ := h
  exact ⟨T, arr, h1, A.repC.mono cs le h2⟩
theorem boxAt.same {w w' : World} {E : Env} {b : Nat} {cs : List A} (h : boxAt w E b cs) (e : w'.heap[b]? = w.heap[b]?) : boxAt w' E b cs := by
  obtain ⟨T, arr, h1, h2⟩ := h
  exact ⟨T, arr, e.trans h1, h2⟩
theorem boxAt.lt {w : World} {E : Env} {b : Nat} {cs : List A} (h : boxAt w E b cs) : b < w.heap.size := by
  obtain ⟨T, arr, h1, h2⟩ := h
  exact (Array.getElem?_eq_some_iff.1 h1).1
def rowRep (w : World) (base : Nat) (E : Env) : Row → Value → Prop
  | .live e k n cs, y => ∃ xs, w.ownsRow base e k y n xs ∧ A.repC cs E.per xs
  | .pub k n cs, y => (A.sl k n cs).rep E y
  | .gone, _ => True
theorem rowRep.mono {w w' : World} {base : Nat} {E F : Env} (le : E.le F) : ∀ {r : Row} {y : Value}, rowRep w base E r y → (∀ e k n cs, r = .live e k n cs → ∀ b, y.ownBlock = some b → w'.heap[b]? = w.heap[b]?) → rowRep w' base F r y
  | .live e k n cs, y, h, hk => by
    obtain ⟨xs, h1, h2⟩ := h
    exact ⟨xs, ownsRow_same h1 (hk e k n cs rfl), A.repC.mono cs le.per h2⟩
  | .pub k n cs, y, h, _ => A.rep.mono _ le h
  | .gone, _, _, _ => trivial
/-- What holds of the memory while a call runs: it began at w0, reads C0, and was handed the boxes β0. -/
structure Hp (w0 : World) (C0 : Rd) (β0 : List Nat) (bx : List (List A)) (rw : List Row) (w : World) (E : Env) : Prop where
  sub : Sub E.C w.cell?
  base : Sub C0 E.C
  fresh : ∀ ad u, E.C ad = some u → C0 ad = some u ∨ w0.heap.size ≤ ad.block
  bp : ∃ β', E.β = β0 ++ β' ∧ ∀ b ∈ β', w0.heap.size ≤ b
  bnd : E.β.Nodup
  bC : ∀ b ∈ E.β, ∀ o sp, E.C ⟨b, o, sp⟩ = none
  bl : bx.length = E.β.length
  bxs : ∀ (i b : Nat) (cs : List A), E.β[i]? = some b → bx[i]? = some cs → boxAt w E b cs
  rl : rw.length = E.ρ.length
  rws : ∀ (g : Nat) (r : Row) (y : Value), rw[g]? = some r → E.ρ[g]? = some y → rowRep w w0.heap.size E r y
  rC : ∀ (g e k n : Nat) (cs : List A) (y : Value) (b : Nat), rw[g]? = some (.live e k n cs) → E.ρ[g]? = some y → y.ownBlock = some b → b ∉ E.β ∧ ∀ o sp, E.C ⟨b, o, sp⟩ = none
  rd : ∀ (g e k n : Nat) (cs : List A) (y : Value) (h e' k' n' : Nat) (cs' : List A) (z : Value) (b : Nat), g ≠ h → rw[g]? = some (.live e k n cs) → E.ρ[g]? = some y → rw[h]? = some (.live e' k' n' cs') → E.ρ[h]? = some z → y.ownBlock = some b → z.ownBlock ≠ some b
  rs : ∀ (g : Nat) (y : Value), E.ρ[g]? = some y → ∃ p n c, y = .slice p n c
  keep : Keeps β0 w0 w
  gk : Gok C0 w0
section
variable {w0 : World} {C0 : Rd} {β0 : List Nat} {bx : List (List A)} {rw : List Row} {w w' : World} {E : Env}
theorem Hp.blt (h : Hp w0 C0 β0 bx rw w E) {b : Nat} (hb : b ∈ E.β) : b < w.heap.size := by
  obtain ⟨i, hi, rfl⟩ := List.mem_iff_getElem.1 hb
  have hl := h.bl
  exact (h.bxs i E.β[i] (bx[i]'(by omega)) (by simp [hi]) (by simp [hl, hi])).lt
theorem Gok.keep {C : Rd} {X : List Nat} (h : Gok C w) (k : Keeps X w w') (hX : ∀ b ∈ X, ∀ o sp, C ⟨b, o, sp⟩ = none) : Gok C w' := ⟨h.cs, fun x hx => by
  obtain ⟨cs, T, sp, h1, h2⟩ := h.sz x hx
  refine ⟨cs, T, sp, (k.block x.1 (Array.getElem?_eq_some_iff.1 h1).1 fun hm => ?_).trans h1, h2⟩
  obtain ⟨h3, h4⟩ := h.cs x hx
  cases hc : x.2 with
  | nil => exact h3 hc
  | cons a r =>
    rw [hc] at h4
    unfold A.repAt at h4
    obtain ⟨⟨u, h5, _⟩, _⟩ := h4
    have := hX _ hm 0 none
    have h6 : C ⟨x.1, 0, none⟩ = some u := h5
    rw [this] at h6; cases h6⟩
theorem Gok.blocks {C : Rd} (h : Gok C w) (k : ∀ b cs T sp, w.heap[b]? = some (.cells cs T sp) → (∃ u, C ⟨b, 0, none⟩ = some u) → w'.heap[b]? = some (.cells cs T sp)) : Gok C w' := ⟨h.cs, fun x hx => by
  obtain ⟨cs, T, sp, h1, h2⟩ := h.sz x hx
  refine ⟨cs, T, sp, k x.1 _ _ _ h1 ?_, h2⟩
  obtain ⟨h3, h4⟩ := h.cs x hx
  cases hc : x.2 with
  | nil => exact absurd hc h3
  | cons a r =>
    rw [hc] at h4
    unfold A.repAt at h4
    obtain ⟨⟨u, h5, _⟩, _⟩ := h4
    exact ⟨u, h5⟩⟩
theorem Hp.gok (h : Hp w0 C0 β0 bx rw w E) : Gok E.C w :=
  (h.gk.keep h.keep fun b hb o sp => by
    obtain ⟨β', h1, _⟩ := h.bp
    have hm : b ∈ E.β := by rw [h1]; exact List.mem_append_left _ hb
    have h2 := h.bC b hm o sp
    cases hc : C0 ⟨b, o, sp⟩ with
    | none => rfl
    | some u => have := h.base _ _ hc; rw [h2] at this; cases this).mono h.base
theorem Hp.clt (h : Hp w0 C0 β0 bx rw w E) {a : Addr} {u : Value} (hc : E.C a = some u) : a.block < w.heap.size := World.block_lt_of_cell? w a (h.sub a u hc)
theorem Hp.rlt (h : Hp w0 C0 β0 bx rw w E) {g e k n : Nat} {cs : List A} {y : Value} {b : Nat} (h1 : rw[g]? = some (.live e k n cs)) (h2 : E.ρ[g]? = some y) (hb : y.ownBlock = some b) : w0.heap.size ≤ b ∧ b < w.heap.size := by
  obtain ⟨xs, h3, _⟩ := h.rws g _ y h1 h2
  exact h3.lt b hb
/-- A call: the blocks of Y, all of them boxes, may have turned; memory has grown. -/
theorem Hp.call (h : Hp w0 C0 β0 bx rw w E) {Y : List Nat} (hY : ∀ b ∈ Y, b ∈ E.β) (k : Keeps Y w w') {C' : Rd} (hC : Sub E.C C') (hC' : Sub C' w'.cell?)
    (hnew : ∀ ad u, C' ad = some u → E.C ad = some u ∨ w.heap.size ≤ ad.block) {bx' : List (List A)} (hbl : bx'.length = bx.length)
    (hbx : ∀ (i b : Nat) (cs : List A), E.β[i]? = some b → bx'[i]? = some cs → boxAt w' ⟨C', E.β, E.ρ⟩ b cs ∨ (b ∉ Y ∧ bx[i]? = some cs)) : Hp w0 C0 β0 bx' rw w' ⟨C', E.β, E.ρ⟩ ∧ E.le ⟨C', E.β, E.ρ⟩ := by
  have le : E.le ⟨C', E.β, E.ρ⟩ := ⟨hC, fun _ _ h => h, fun _ _ h => h⟩
  have hnone : ∀ b, b < w.heap.size → (∀ o sp, E.C ⟨b, o, sp⟩ = none) → ∀ o sp, C' ⟨b, o, sp⟩ = none := fun b hb hn o sp => by
    cases hc : C' ⟨b, o, sp⟩ with
    | none => rfl
    | some u =>
      rcases hnew _ _ hc with h2 | h2
      · rw [hn] at h2; cases h2
      · simp at h2; omega
  have hrow : ∀ (g e k n : Nat) (cs : List A) (y : Value) (b : Nat), rw[g]? = some (.live e k n cs) → E.ρ[g]? = some y → y.ownBlock = some b → w'.heap[b]? = w.heap[b]? := fun g e k' n cs y b h1 h2 h3 =>
    k.block b (h.rlt h1 h2 h3).2 (fun hy => (h.rC g e k' n cs y b h1 h2 h3).1 (hY b hy))
  refine ⟨⟨hC', h.base.trans hC, fun ad u hc => ?_, h.bp, h.bnd, fun b hb => hnone b (h.blt hb) (h.bC b hb), by rw [hbl]; exact h.bl, fun i b cs h1 h2 => ?_, h.rl, fun g r y h1 h2 => ?_, fun g e k n cs y b h1 h2 h3 => ?_, h.rd, h.rs, ?_, h.gk⟩, le⟩
  · rcases hnew ad u hc with h2 | h2
    · exact h.fresh ad u h2
    · exact .inr (Nat.le_trans h.keep.size h2)
  · rcases hbx i b cs h1 h2 with h3 | ⟨h3, h4⟩
    · exact h3
    · exact ((h.bxs i b cs h1 h4).same (k.block b (h.blt (List.mem_iff_getElem?.2 ⟨i, h1⟩)) h3)).mono le
  · exact (h.rws g r y h1 h2).mono le (fun e k n cs hr b hb => by subst hr; exact hrow g e k n cs y b h1 h2 hb)
  · exact ⟨(h.rC g e k n cs y b h1 h2 h3).1, hnone b (h.rlt h1 h2 h3).2 (h.rC g e k n cs y b h1 h2 h3).2⟩
  · refine h.keep.step k (fun y hy => ?_)
    obtain ⟨β', hβ, hβ'⟩ := h.bp
    have := hY y hy
    rw [hβ] at this
    rcases List.mem_append.1 this with h1 | h1
    · exact .inl h1
    · exact .inr (hβ' y h1)
/-- Memory that grows, no more. -/
theorem Hp.ext (h : Hp w0 C0 β0 bx rw w E) (k : Ext w w') : Hp w0 C0 β0 bx rw w' E :=
  (h.call (Y := []) (by simp) (Keeps.of_ext k) (Sub.refl _) (h.sub.trans k.sub) (fun _ _ hc => .inl hc) rfl (fun i b cs h1 h2 => .inr ⟨by simp, h2⟩)).1
theorem Hp.cnone (h : Hp w0 C0 β0 bx rw w E) (o : Nat) (sp : Option Nat) : E.C ⟨w.heap.size, o, sp⟩ = none := by
  cases hc : E.C ⟨w.heap.size, o, sp⟩ with
  | none => rfl
  | some u => have := h.clt hc; simp at this
theorem Hp.bnew (h : Hp w0 C0 β0 bx rw w E) : w.heap.size ∉ E.β := fun hb => by have := h.blt hb; omega
/-- A box that has just been made. -/
theorem Hp.box (h : Hp w0 C0 β0 bx rw w E) (arr : Array Value) (T : TypeId) {cs : List A} (hr : A.repC cs E arr.toList) :
    Hp w0 C0 β0 (bx ++ [cs]) rw (w.alloc (.cells arr T)) ⟨E.C, E.β ++ [w.heap.size], E.ρ⟩ ∧ E.le ⟨E.C, E.β ++ [w.heap.size], E.ρ⟩ := by
  have le : E.le ⟨E.C, E.β ++ [w.heap.size], E.ρ⟩ := ⟨Sub.refl _, fun i b hb => by
    have := (List.getElem?_eq_some_iff.1 hb).1
    rw [List.getElem?_append_left this]; exact hb, fun _ _ h => h⟩
  have g := h.ext ((Ext.refl w).alloc (.cells arr T))
  refine ⟨⟨g.sub, g.base, g.fresh, ?_, ?_, fun b hb => ?_, by simp [g.bl], fun i b cs' h1 h2 => ?_, g.rl, fun a r y h1 h2 => ?_, fun a e k n cs y b h1 h2 h3 => ?_, g.rd, g.rs, g.keep, g.gk⟩, le⟩
  · obtain ⟨β', hβ, hβ'⟩ := h.bp
    refine ⟨β' ++ [w.heap.size], by rw [hβ]; simp, fun b hb => ?_⟩
    rcases List.mem_append.1 hb with h1 | h1
    · exact hβ' b h1
    · simp at h1; rw [h1]; exact h.keep.size
  · refine List.nodup_append.2 ⟨h.bnd, by simp, fun a ha b hb => ?_⟩
    simp at hb
    have := h.blt ha
    omega
  · rcases List.mem_append.1 hb with h1 | h1
    · exact h.bC b h1
    · simp at h1; subst h1; exact h.cnone
  · by_cases hi : i < E.β.length
    · rw [List.getElem?_append_left hi] at h1
      rw [List.getElem?_append_left (by rw [h.bl]; exact hi)] at h2
      exact (g.bxs i b cs' h1 h2).mono le
    · rw [List.getElem?_append_right (by omega)] at h1
      rw [List.getElem?_append_right (by rw [h.bl]; omega)] at h2
      have hi0 : i - E.β.length = 0 := by
        have := (List.getElem?_eq_some_iff.1 h1).1
        simp at this; omega
      rw [hi0] at h1
      rw [h.bl, hi0] at h2
      simp at h1 h2
      subst h1; subst h2
      exact ⟨T, arr, heap_alloc_new w _, A.repC.mono cs le hr⟩
  · exact (g.rws a r y h1 h2).mono le (fun _ _ _ _ _ _ _ => rfl)
  · refine ⟨fun hb => ?_, (h.rC a e k n cs y b h1 h2 h3).2⟩
    rcases List.mem_append.1 hb with h4 | h4
    · exact (h.rC a e k n cs y b h1 h2 h3).1 h4
    · have := (h.rlt h1 h2 h3).2
      simp at h4; omega
/-- A store into a box. -/
theorem Hp.store (h : Hp w0 C0 β0 bx rw w E) {i b off : Nat} {cs : List A} (hb : E.β[i]? = some b) (hc : bx[i]? = some cs) {a : A} {u : Value} (ha : a.rep E u) (h1 : u.oneCell' = true) :
    Hp w0 C0 β0 (bx.set i (cs.set off a)) rw (w.setCell ⟨b, off, none⟩ u) E := by
  have hi := (List.getElem?_eq_some_iff.1 hc).1
  have := (h.call (Y := [b]) (by simp; exact List.mem_iff_getElem?.2 ⟨i, hb⟩) (Keeps.set w b off u) (C' := E.C) (Sub.refl _) (fun ad v hv => ?_) (fun _ _ hc => .inl hc) (bx' := bx.set i (cs.set off a)) (by simp) (fun j b' cs' h2 h3 => ?_)).1
  · exact this
  · refine (Keeps.set w b off u).cell (h.sub ad v hv) (fun hm => ?_)
    simp at hm
    have hn := h.bC b (List.mem_iff_getElem?.2 ⟨i, hb⟩) ad.off ad.spot
    rw [← hm] at hn
    have : E.C ad = none := hn
    rw [this] at hv; cases hv
  · by_cases hij : i = j
    · subst hij
      left
      rw [hb] at h2; cases h2
      rw [List.getElem?_set_self hi] at h3
      cases h3
      obtain ⟨T, arr, k1, k2⟩ := h.bxs i b cs hb hc
      refine ⟨T, arr.setIfInBounds off u, set_blk k1 off u, ?_⟩
      rw [Array.toList_setIfInBounds]
      exact A.repC_set k2 off ha h1
    · right
      rw [List.getElem?_set_ne hij] at h3
      refine ⟨fun hm => ?_, h3⟩
      simp at hm
      subst hm
      have e1 := List.getElem?_eq_some_iff.1 hb
      have e2 := List.getElem?_eq_some_iff.1 h2
      exact hij (nodup_inj h.bnd (e1.2.trans e2.2.symm))
/-- A row that is nil so far. -/
theorem Hp.nilRow (h : Hp w0 C0 β0 bx rw w E) (e k : Nat) : Hp w0 C0 β0 bx (rw ++ [.live e k 0 []]) w ⟨E.C, E.β, E.ρ ++ [.slice none 0 0]⟩ ∧ E.le ⟨E.C, E.β, E.ρ ++ [.slice none 0 0]⟩ := by
  have le : E.le ⟨E.C, E.β, E.ρ ++ [.slice none 0 0]⟩ := ⟨Sub.refl _, fun _ _ h => h, fun i b hb => by
    have := (List.getElem?_eq_some_iff.1 hb).1
    rw [List.getElem?_append_left this]; exact hb⟩
  have part : ∀ (g : Nat) (r : Row) (y : Value), (rw ++ [Row.live e k 0 []])[g]? = some r → (E.ρ ++ [Value.slice none 0 0])[g]? = some y → (rw[g]? = some r ∧ E.ρ[g]? = some y) ∨ (r = .live e k 0 [] ∧ y = .slice none 0 0 ∧ g = rw.length) := fun g r y h1 h2 => by
    by_cases hg : g < rw.length
    · rw [List.getElem?_append_left hg] at h1
      rw [List.getElem?_append_left (by rw [← h.rl]; exact hg)] at h2
      exact .inl ⟨h1, h2⟩
    · rw [List.getElem?_append_right (by omega)] at h1
      rw [List.getElem?_append_right (by rw [← h.rl]; omega)] at h2
      have hi0 : g - rw.length = 0 := by
        have := (List.getElem?_eq_some_iff.1 h1).1
        simp at this; omega
      rw [hi0] at h1
      rw [← h.rl, hi0] at h2
      simp at h1 h2
      exact .inr ⟨h1.symm, h2.symm, by omega⟩
  refine ⟨⟨h.sub, h.base, h.fresh, h.bp, h.bnd, h.bC, h.bl, fun i b cs h1 h2 => (h.bxs i b cs h1 h2).mono le, by simp [h.rl], fun g r y h1 h2 => ?_, fun g e' k' n cs y b h1 h2 h3 => ?_, fun g e1 k1 n1 cs1 y g' e2 k2 n2 cs2 z b hne h1 h2 h3 h4 h5 => ?_, fun g y h1 => snoc_slices h.rs ⟨_, _, _, rfl⟩ g y h1, h.keep, h.gk⟩, le⟩
  · rcases part g r y h1 h2 with ⟨h3, h4⟩ | ⟨rfl, rfl, _⟩
    · exact (h.rws g r y h3 h4).mono le (fun _ _ _ _ _ _ _ => rfl)
    · exact ⟨[], World.ownsRow_nil _ _ _ _, by simp [A.repC]⟩
  · rcases part g _ y h1 h2 with ⟨h4, h5⟩ | ⟨_, rfl, _⟩
    · exact h.rC g e' k' n cs y b h4 h5 h3
    · simp [Value.ownBlock] at h3
  · rcases part g _ y h1 h2 with ⟨k3, k4⟩ | ⟨_, rfl, _⟩
    · rcases part g' _ z h3 h4 with ⟨k5, k6⟩ | ⟨_, rfl, _⟩
      · exact h.rd g e1 k1 n1 cs1 y g' e2 k2 n2 cs2 z b hne k3 k4 k5 k6 h5
      · simp [Value.ownBlock]
    · simp [Value.ownBlock] at h5
/-- A row has been appended to: the old one is given up, the new one stands at the end. -/
theorem Hp.push (h : Hp w0 C0 β0 bx rw w E) {g e k n m : Nat} {cs ds : List A} {y v' : Value} {xs : List Value} (hg : rw[g]? = some (.live e k n cs)) (hy : E.ρ[g]? = some y)
    (hown : w'.ownsRow w0.heap.size e k v' (n + m) xs) (hr : A.repC (cs ++ ds) E.per xs) (hgrow : w.grownBy w' y.ownBlock) (hw : v'.ownBlock = y.ownBlock ∨ v'.ownBlock = some w.heap.size) :
    Hp w0 C0 β0 bx (rw.set g .gone ++ [.live e k (n + m) (cs ++ ds)]) w' ⟨E.C, E.β, E.ρ ++ [v']⟩ ∧ E.le ⟨E.C, E.β, E.ρ ++ [v']⟩ := by
  have le : E.le ⟨E.C, E.β, E.ρ ++ [v']⟩ := ⟨Sub.refl _, fun _ _ h => h, fun i b hb => by
    have := (List.getElem?_eq_some_iff.1 hb).1
    rw [List.getElem?_append_left this]; exact hb⟩
  have kp := Keeps.of_grown hgrow
  have hyb : ∀ b, b ∈ y.ownBlock.toList ↔ y.ownBlock = some b := fun b => by cases y.ownBlock <;> simp [eq_comm]
  have hgl := (List.getElem?_eq_some_iff.1 hg).1
  have part : ∀ (j : Nat) (r : Row) (z : Value), (rw.set g .gone ++ [Row.live e k (n + m) (cs ++ ds)])[j]? = some r → (E.ρ ++ [v'])[j]? = some z → (rw[j]? = some r ∧ E.ρ[j]? = some z ∧ j ≠ g) ∨ r = .gone ∨ (r = .live e k (n + m) (cs ++ ds) ∧ z = v' ∧ j = rw.length) := fun j r z h1 h2 => by
    by_cases hj : j < rw.length
    · rw [List.getElem?_append_left (by simpa using hj)] at h1
      rw [List.getElem?_append_left (by rw [← h.rl]; exact hj)] at h2
      by_cases hjg : g = j
      · subst hjg
        rw [List.getElem?_set_self hgl] at h1
        cases h1
        exact .inr (.inl rfl)
      · rw [List.getElem?_set_ne hjg] at h1
        exact .inl ⟨h1, h2, fun e => hjg e.symm⟩
    · rw [List.getElem?_append_right (by simp; omega)] at h1
      rw [List.getElem?_append_right (by rw [← h.rl]; omega)] at h2
      have hi0 : j - rw.length = 0 := by
        have := (List.getElem?_eq_some_iff.1 h1).1
        simp at this; omega
      rw [List.length_set, hi0] at h1
      rw [← h.rl, hi0] at h2
      simp at h1 h2
      exact .inr (.inr ⟨h1.symm, h2.symm, by omega⟩)
  have hv : ∀ b, v'.ownBlock = some b → y.ownBlock = some b ∨ b = w.heap.size := fun b hb => by
    rcases hw with h1 | h1
    · exact .inl (h1.symm.trans hb)
    · rw [h1] at hb; cases hb; exact .inr rfl
  refine ⟨⟨fun ad u hc => kp.cell (h.sub ad u hc) (fun hm => ?_), h.base, h.fresh, h.bp, h.bnd, h.bC, h.bl, fun i b cs' h1 h2 => ?_, by simp [h.rl], fun j r z h1 h2 => ?_, fun j e' k' n' cs' z b h1 h2 h3 => ?_, fun j e1 k1 n1 cs1 z j' e2 k2 n2 cs2 z' b hne h1 h2 h3 h4 h5 => ?_, fun g y h1 => snoc_slices h.rs (own_slice hown) g y h1, ?_, h.gk⟩, le⟩
  · rw [hyb] at hm
    have hn := (h.rC g e k n cs y _ hg hy hm).2 ad.off ad.spot
    have : E.C ad = none := hn
    rw [this] at hc; cases hc
  · refine ((h.bxs i b cs' h1 h2).same (kp.block b (h.blt (List.mem_iff_getElem?.2 ⟨i, h1⟩)) (fun hm => ?_))).mono le
    rw [hyb] at hm
    exact (h.rC g e k n cs y b hg hy hm).1 (List.mem_iff_getElem?.2 ⟨i, h1⟩)
  · rcases part j r z h1 h2 with ⟨h3, h4, h5⟩ | rfl | ⟨rfl, rfl, _⟩
    · refine (h.rws j r z h3 h4).mono le (fun e' k' n' cs' hr' b hb => ?_)
      subst hr'
      refine kp.block b (h.rlt h3 h4 hb).2 (fun hm => ?_)
      rw [hyb] at hm
      exact h.rd g e k n cs y j e' k' n' cs' z b (Ne.symm h5) hg hy h3 h4 hm hb
    · exact trivial
    · exact ⟨xs, hown, hr⟩
  · rcases part j _ z h1 h2 with ⟨h4, h5, h6⟩ | h4 | ⟨h4, rfl, _⟩
    · exact h.rC j e' k' n' cs' z b h4 h5 h3
    · cases h4
    · rcases hv b h3 with h5 | rfl
      · exact h.rC g e k n cs y b hg hy h5
      · exact ⟨h.bnew, h.cnone⟩
  · rcases part j _ z h1 h2 with ⟨k3, k4, k5⟩ | k3 | ⟨_, rfl, k3⟩
    · rcases part j' _ z' h3 h4 with ⟨k6, k7, k8⟩ | k6 | ⟨_, rfl, _⟩
      · exact h.rd j e1 k1 n1 cs1 z j' e2 k2 n2 cs2 z' b hne k3 k4 k6 k7 h5
      · cases k6
      · intro hb
        rcases hv b hb with h6 | rfl
        · exact h.rd g e k n cs y j e1 k1 n1 cs1 z b (Ne.symm k5) hg hy k3 k4 h6 h5
        · have := (h.rlt k3 k4 h5).2; omega
    · cases k3
    · rcases part j' _ z' h3 h4 with ⟨k6, k7, k8⟩ | k6 | ⟨_, rfl, k6⟩
      · intro hb
        rcases hv b h5 with h6 | rfl
        · exact h.rd g e k n cs y j' e2 k2 n2 cs2 z' b (Ne.symm k8) hg hy k6 k7 h6 hb
        · have := (h.rlt k6 k7 hb).2; omega
      · cases k6
      · omega
  · refine h.keep.step kp (fun b hb => ?_)
    rw [hyb] at hb
    exact .inr (h.rlt hg hy hb).1
/-- A row that has just been made. -/
theorem Hp.row (h : Hp w0 C0 β0 bx rw w E) (arr : Array Value) (e k n : Nat) {cs : List A} (hr : A.repC cs E.per arr.toList) (hs : arr.size = n * k) (hn : n ≤ maxLen) :
    Hp w0 C0 β0 bx (rw ++ [.live e k n cs]) (w.alloc (.cells arr e)) ⟨E.C, E.β, E.ρ ++ [.slice (some ⟨w.heap.size, 0, none⟩) n n]⟩ ∧ E.le ⟨E.C, E.β, E.ρ ++ [.slice (some ⟨w.heap.size, 0, none⟩) n n]⟩ := by
  obtain ⟨h1, le1⟩ := h.nilRow e k
  have hown : (w.alloc (.cells arr e)).ownsRow w0.heap.size e k (.slice (some ⟨w.heap.size, 0, none⟩) n n) (0 + n) arr.toList := by
    rw [Nat.zero_add]
    refine ⟨by simp [hs], .inr ⟨w.heap.size, n, arr, rfl, h.keep.size, heap_alloc_new w _, Nat.le_refl _, hn, hs, ?_⟩⟩
    rw [← hs, ← Array.length_toList, List.take_length]
  have le : E.le ⟨E.C, E.β, E.ρ ++ [.slice (some ⟨w.heap.size, 0, none⟩) n n]⟩ := ⟨Sub.refl _, fun _ _ h => h, fun i b hb => by
    have := (List.getElem?_eq_some_iff.1 hb).1
    rw [List.getElem?_append_left this]; exact hb⟩
  have g := h.ext ((Ext.refl w).alloc (.cells arr e))
  have part : ∀ (j : Nat) (r : Row) (y : Value), (rw ++ [Row.live e k n cs])[j]? = some r → (E.ρ ++ [Value.slice (some ⟨w.heap.size, 0, none⟩) n n])[j]? = some y → (rw[j]? = some r ∧ E.ρ[j]? = some y) ∨ (r = .live e k n cs ∧ y = .slice (some ⟨w.heap.size, 0, none⟩) n n ∧ j = rw.length) := fun g r y h1 h2 => by
    by_cases hg : g < rw.length
    · rw [List.getElem?_append_left hg] at h1
      rw [List.getElem?_append_left (by rw [← h.rl]; exact hg)] at h2
      exact .inl ⟨h1, h2⟩
    · rw [List.getElem?_append_right (by omega)] at h1
      rw [List.getElem?_append_right (by rw [← h.rl]; omega)] at h2
      have hi0 : g - rw.length = 0 := by
        have := (List.getElem?_eq_some_iff.1 h1).1
        simp at this; omega
      rw [hi0] at h1
      rw [← h.rl, hi0] at h2
      simp at h1 h2
      exact .inr ⟨h1.symm, h2.symm, by omega⟩
  refine ⟨⟨g.sub, g.base, g.fresh, g.bp, g.bnd, g.bC, g.bl, fun i b cs' k1 k2 => (g.bxs i b cs' k1 k2).mono le, by simp [h.rl], fun j r y k1 k2 => ?_, fun j e' k' n' cs' y b k1 k2 k3 => ?_, fun j e1 k1 n1 cs1 y j' e2 k2 n2 cs2 z b hne q1 q2 q3 q4 q5 => ?_, fun g y h1 => snoc_slices h.rs ⟨_, _, _, rfl⟩ g y h1, g.keep, g.gk⟩, le⟩
  · rcases part j r y k1 k2 with ⟨h3, h4⟩ | ⟨rfl, rfl, _⟩
    · exact (g.rws j r y h3 h4).mono le (fun _ _ _ _ _ _ _ => rfl)
    · rw [Nat.zero_add] at hown
      exact ⟨arr.toList, hown, hr⟩
  · rcases part j _ y k1 k2 with ⟨h4, h5⟩ | ⟨_, rfl, _⟩
    · exact g.rC j e' k' n' cs' y b h4 h5 k3
    · simp [Value.ownBlock] at k3
      subst k3
      exact ⟨h.bnew, h.cnone⟩
  · rcases part j _ y q1 q2 with ⟨r1, r2⟩ | ⟨_, rfl, r1⟩
    · rcases part j' _ z q3 q4 with ⟨r3, r4⟩ | ⟨_, rfl, _⟩
      · exact h.rd j e1 k1 n1 cs1 y j' e2 k2 n2 cs2 z b hne r1 r2 r3 r4 q5
      · have := (h.rlt r1 r2 q5).2
        simp [Value.ownBlock]; omega
    · rcases part j' _ z q3 q4 with ⟨r3, r4⟩ | ⟨_, rfl, r3⟩
      · simp [Value.ownBlock] at q5
        intro hb
        have := (h.rlt r3 r4 hb).2; omega
      · omega
/-- A row to which nothing is appended any more. -/
theorem Hp.pub (h : Hp w0 C0 β0 bx rw w E) {g e k n : Nat} {cs : List A} (hg : rw[g]? = some (.live e k n cs)) :
    ∃ C', Hp w0 C0 β0 bx (rw.set g (.pub k n cs)) w ⟨C', E.β, E.ρ⟩ ∧ E.le ⟨C', E.β, E.ρ⟩ := by
  have hgl := (List.getElem?_eq_some_iff.1 hg).1
  obtain ⟨y, hy⟩ : ∃ y, E.ρ[g]? = some y := ⟨_, List.getElem?_eq_getElem (by rw [← h.rl]; exact hgl)⟩
  refine ⟨fun ad => if y.ownBlock = some ad.block then w.cell? ad else E.C ad, ?_⟩
  have hC : Sub E.C (fun ad => if y.ownBlock = some ad.block then w.cell? ad else E.C ad) := fun ad u hc => by
    simp only
    split
    · exact h.sub ad u hc
    · exact hc
  have le : E.le ⟨fun ad => if y.ownBlock = some ad.block then w.cell? ad else E.C ad, E.β, E.ρ⟩ := ⟨hC, fun _ _ h => h, fun _ _ h => h⟩
  have part : ∀ (j : Nat) (r : Row), (rw.set g (.pub k n cs))[j]? = some r → (rw[j]? = some r ∧ j ≠ g) ∨ (r = .pub k n cs ∧ j = g) := fun j r h1 => by
    by_cases hjg : g = j
    · subst hjg
      rw [List.getElem?_set_self hgl] at h1
      cases h1
      exact .inr ⟨rfl, rfl⟩
    · rw [List.getElem?_set_ne hjg] at h1
      exact .inl ⟨h1, fun e => hjg e.symm⟩
  refine ⟨⟨fun ad u hc => ?_, h.base.trans hC, fun ad u hc => ?_, h.bp, h.bnd, fun b hb o sp => ?_, h.bl, fun i b cs' h1 h2 => (h.bxs i b cs' h1 h2).mono le, by simp [h.rl], fun j r z h1 h2 => ?_, fun j e' k' n' cs' z b h1 h2 h3 => ?_, fun j e1 k1 n1 cs1 z j' e2 k2 n2 cs2 z' b hne h1 h2 h3 h4 h5 => ?_, h.rs, h.keep, h.gk⟩, le⟩
  · simp only at hc
    split at hc
    · exact hc
    · exact h.sub ad u hc
  · simp only at hc
    split at hc
    · rename_i hb
      exact .inr (h.rlt hg hy hb).1
    · exact h.fresh ad u hc
  · simp only
    rw [if_neg (fun hb' => (h.rC g e k n cs y b hg hy hb').1 hb)]
    exact h.bC b hb o sp
  · rcases part j r h1 with ⟨h3, h4⟩ | ⟨rfl, rfl⟩
    · exact (h.rws j r z h3 h2).mono le (fun _ _ _ _ _ _ _ => rfl)
    · have hz : z = y := Option.some.inj (h2.symm.trans hy)
      subst hz
      obtain ⟨xs, ho, hr⟩ := h.rws j _ z hg hy
      show (A.sl k n cs).rep _ z
      have hlen : cs.length = n * k := by rw [← A.repC_len hr, ho.1]
      rcases ho.2 with ⟨rfl, rfl⟩ | ⟨b, cap, cur, rfl, hb, hbb, hn, hcm, hcs, htake⟩
      · unfold A.rep
        have hcs : cs = [] := List.eq_nil_of_length_eq_zero (by simpa using hlen)
        subst hcs
        exact ⟨by simp, by simp, none, 0, 0, 0, rfl, Nat.le_refl _, .inl rfl, fun _ => rfl, by simp [A.repAt]⟩
      · unfold A.rep
        refine ⟨hlen, Nat.le_trans hn hcm, _, b, 0, cap, rfl, hn, .inr rfl, by simp, ?_⟩
        refine A.repAt_mk (A.repC.mono cs le.per hr) (fun j' u hu => ?_)
        have := ho.cells (g := b) rfl j' u hu
        rw [add_at] at this
        simp only [Env.per, Value.ownBlock, Nat.zero_add, if_true] at this ⊢
        exact this
  · rcases part j _ h1 with ⟨h4, h5⟩ | ⟨h4, _⟩
    · refine ⟨(h.rC j e' k' n' cs' z b h4 h2 h3).1, fun o sp => ?_⟩
      simp only
      rw [if_neg (fun hb => h.rd g e k n cs y j e' k' n' cs' z b (Ne.symm h5) hg hy h4 h2 hb h3)]
      exact (h.rC j e' k' n' cs' z b h4 h2 h3).2 o sp
    · cases h4
  · rcases part j _ h1 with ⟨k3, k4⟩ | ⟨k3, _⟩
    · rcases part j' _ h3 with ⟨k5, k6⟩ | ⟨k5, _⟩
      · exact h.rd j e1 k1 n1 cs1 z j' e2 k2 n2 cs2 z' b hne k3 h2 k5 h4 h5
      · cases k5
    · cases k3
end
end Go.Proofs.YtinjgckpmblffaaDoor.Vm
