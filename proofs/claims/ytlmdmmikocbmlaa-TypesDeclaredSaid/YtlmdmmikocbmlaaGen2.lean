/- The generator of blocks, out of that of statements. -/
import Derived.Test.YtlmdmmikocbmlaaGen1
import Derived.Test.YtlmdmmikocbmlaaSer
namespace Go.Proofs.Ytlmdmmikocbmlaa
set_option linter.unusedSimpArgs false
set_option linter.unusedVariables false
open Go.RowKit

/-- Generated statements: blocks of at most three statements, nested at most so deep. -/
inductive GenS : Nat → Nd → Prop
  | assign (d : Nat) (j : Int) (e : Nd) : 0 ≤ j → j < 10 → GenE 3 e → GenS d (.mk 1 0 (nameF j) [e])
  | cond (d : Nat) (c : Nd) (l m : List Nd) : GenE 2 c → l.length ≤ 3 → m.length ≤ 3 → (∀ t ∈ l, GenS d t) → (∀ t ∈ m, GenS d t) → GenS (d + 1) (.mk 2 0 ⟨#[]⟩ [c, .mk 11 0 ⟨#[]⟩ l, .mk 11 0 ⟨#[]⟩ m])
  | whil (d : Nat) (c : Nd) (l : List Nd) : GenE 2 c → l.length ≤ 3 → (∀ t ∈ l, GenS d t) → GenS (d + 1) (.mk 3 0 ⟨#[]⟩ [c, .mk 11 0 ⟨#[]⟩ l])
  | send (d : Nat) (n : Int) (a b c : Nd) : 0 ≤ n → n < 30 → GenE 2 a → GenE 2 b → GenE 1 c → GenS d (.mk 4 n ⟨#[]⟩ [a, b, c])
  | timer (d : Nat) (n : Int) : 0 ≤ n → n < 8 → GenS d (.mk 5 n ⟨#[]⟩ [])
  | cancel (d : Nat) (n : Int) : 0 ≤ n → n < 8 → GenS d (.mk 6 n ⟨#[]⟩ [])
  | sync (d : Nat) : GenS d (.mk 7 0 ⟨#[]⟩ [])
  | reply (d : Nat) (a b : Nd) : GenE 2 a → GenE 2 b → GenS d (.mk 8 0 ⟨#[]⟩ [a, b])
  | fail (d : Nat) (a : Nd) : GenE 2 a → GenS d (.mk 9 0 ⟨#[]⟩ [a])
  | stop (d : Nat) : GenS d (.mk 10 0 ⟨#[]⟩ [])
def GenB (d : Nat) (t : Nd) : Prop := ∃ l, t = .mk 11 0 ⟨#[]⟩ l ∧ l.length ≤ 3 ∧ ∀ x ∈ l, GenS d x
def costS : Nat → Nat
  | 0 => 80
  | d + 1 => 100 + 6 * costS d
def StmtC (d : Nat) : Prop := ∀ (L : LD) (b i : Nat) (w : World), Src L w b i → i + costS d ≤ 1000000000 →
    Calls Try.prog 44 #[.pointer (some ⟨b, 0, none⟩), .int .i64 d] w (SRet L w b i (costS d) (fun v w' => ∃ t, GenS d t ∧ t.At (fromC w.heap.size w') v))
theorem StmtC.use {d : Nat} (h : StmtC d) (L : LD) (b i : Nat) (w : World) (hs : Src L w b i) (hi : i + costS d ≤ 1000000000) :
    Calls Try.prog 44 #[.pointer (some ⟨b, 0, none⟩), .int .i64 d] w (SRet L w b i (costS d) (fun v w' => ∃ t, GenS d t ∧ t.At (fromC w.heap.size w') v)) := h L b i w hs hi
def BlockC (d : Nat) : Prop := ∀ (L : LD) (b i : Nat) (w : World), Src L w b i → i + (1 + 3 * costS d) ≤ 1000000000 →
    Calls Try.prog 36 #[.pointer (some ⟨b, 0, none⟩), .int .i64 d] w (SRet L w b i (1 + 3 * costS d) (fun v w' => ∃ t, GenB d t ∧ t.At (fromC w.heap.size w') v))
theorem BlockC.use {d : Nat} (h : BlockC d) (L : LD) (b i : Nat) (w : World) (hs : Src L w b i) (hi : i + (1 + 3 * costS d) ≤ 1000000000) :
    Calls Try.prog 36 #[.pointer (some ⟨b, 0, none⟩), .int .i64 d] w (SRet L w b i (1 + 3 * costS d) (fun v w' => ∃ t, GenB d t ∧ t.At (fromC w.heap.size w') v)) := h L b i w hs hi
theorem Goes.drew {L : LD} {b R : Nat} {O : Obj} {w w1 : World} {i i1 : Nat} (h : Goes L b R O w i w1 i1) : Goes L b R O w i w1.drew i1 :=
  h.step ⟨rfl, rfl, rfl, Nat.le_refl _, fun _ _ _ => rfl⟩ (h.src.kept (r := none) ⟨rfl, rfl, rfl, Nat.le_refl _, fun _ _ _ => rfl⟩ (by simp) (.inr (by simp))) (Nat.le_refl _)
theorem info_node : (Try.prog.info? 25).map (fun i => (i.zero, i.size, i.bytes)) = some (some (.agg #[.int .i64 0, .int .i64 0, .string ⟨#[]⟩, .slice none 0 0]), 4, 56) := by kernel_rfl
theorem under_nodes : Try.prog.underlying 23 = some (.slice 25) := by kernel_rfl
theorem new_cells {w : World} {cs : List Value} {T : TypeId} : ∀ a, some (⟨w.heap.size, 0, none⟩ : Addr) = some a → ∀ j u, cs[j]? = some u → (w.alloc (.cells cs.toArray T)).cell? (a.add j) = some u := fun a ha j u hu => by
  cases ha
  rw [add_at, Nat.zero_add]
  exact cell_new w cs T j u hu
theorem own_ne {w : World} {base : Nat} {e : TypeId} {k : Nat} {A : Nat → Prop} {v : Value} {xs : List (Nd × Value)} (h : OwnL nodeCells okN w base e k A v xs) {b : Nat} (hb : b < base) : v.ownBlock = none ∨ v.ownBlock ≠ some b := by
  refine .inr fun e => ?_
  have := (h.row.lt _ e).1
  omega
theorem own_ne2 {w : World} {base : Nat} {e : TypeId} {k : Nat} {A : Nat → Prop} {v : Value} {xs : List (Nd × Value)} (h : OwnL nodeCells okN w base e k A v xs) {b : Nat} (hb : b < base) : some b ≠ v.ownBlock := fun e => by
  have := (h.row.lt _ e.symm).1
  omega
theorem new_tree {w0 w2 : World} {o : Obj} {base : Nat} {e : TypeId} {k : Nat} {A : Nat → Prop} {v : Value} {xs : List (Nd × Value)} (own : OwnL nodeCells okN w0 base e k A v xs) (hA : ∀ n, w0.heap.size ≤ n → A n) {a : Addr} {u : Value}
    (ha : fromC w0.heap.size w2 a = some u) : (w2.alloc o).cell? a = some u ∧ A a.block ∧ some a.block ≠ v.ownBlock := by
  rw [fromC_some] at ha
  refine ⟨((Ext.refl w2).alloc o).c ha.2, hA _ ha.1, fun e => ?_⟩
  have := (own.row.lt _ e.symm).2
  omega
/-- The relation of block's loop. -/
def BRel (L : LD) (b i d : Nat) (w : World) (c : Nat) (iv : Value) (wr : World) : Prop :=
  ∃ (k ik : Nat) (kv : Value) (ps : List (Nd × Value)), iv = .int .i64 k ∧ k + ps.length ≤ 3 ∧ Goes L b w.heap.size (.cells #[.int .i64 0, .int .i64 0, .string ⟨#[]⟩, .slice none 0 0] 25 (0, 0)) w i wr ik ∧ ik ≤ i + 1 + ps.length * c ∧
    wr.heap[w.heap.size + 1]? = some (.cells #[.int .i64 11, .int .i64 0, .string ⟨#[]⟩, kv] 25 (0, 0)) ∧ OwnL nodeCells okN wr (w.heap.size + 2) 25 4 (fun n => w.heap.size + 1 < n) kv ps ∧ ∀ p ∈ ps, GenS d p.1
set_option maxHeartbeats 1000000 in
theorem block_of (d : Nat) (hc : costS d ≤ 10000000) (ih : StmtC d) : BlockC d := by
  intro L b i w hs hi
  have g := Goes.start hs (.cells #[.int .i64 0, .int .i64 0, .string ⟨#[]⟩, .slice none 0 0] 25 (0, 0))
  obtain ⟨i0, hi0, hz0, hz1, hz2⟩ := info_parts info_node
  have IH : Hid (StmtC d) := ih
  have hbR := hs.lt
  clear ih
  go_enter Try.func36, Try.ntmps36
  go_wp2_with (first
    | (go_at_call 31; (with_reducible refine (next_any L b _ _ _ (g.alloc _).src (by omega) (by omega) (by omega)).mono ?_); rintro e w2 ⟨v2, i2, rfl, hg2, hs2, hi2, hj2, r2, rfl, hr3, hr4⟩; have hV := (hg2.block _ (by simp) (by simp; omega)).trans (heap_alloc_new _ _); replace g := Goes.step (g.alloc _) hg2 hs2 hi2))
  simp only [World.size_alloc] at hV
  obtain ⟨k0, rfl⟩ := Int.eq_ofNat_of_zero_le hr3
  have hk0 : k0 < 4 := by omega
  clear hg2 hs2 hr3 hr4
  go_loopw [6] (fun iv wr => BRel L b i d w (costS d) iv wr) (fun iv _ => (intOf iv).toNat)
  case atStart => exact ⟨k0, i2, _, [], rfl, by simp; omega, g, by simp; omega, hV, OwnL.nil _ _ _ _ _, by simp⟩
  case round =>
    clear g hV hj2 hi2 hk0
    obtain ⟨k, ik, kv, ps, rfl, hk3, g, hik, hV, own, hgen⟩ := hrel
    obtain ⟨cV0, cV1, cV2, cV3, fV0, fV1, fV2, fV3⟩ := cells4 hV
    have hps : ps.length * costS d ≤ 3 * costS d := Nat.mul_le_mul_right _ (by omega)
    have hVlt : w.heap.size + 1 < wr.heap.size := (Array.getElem?_eq_some_iff.1 hV).1
    by_cases hlt : 0 < k
    · have hps2 : ps.length * costS d + costS d ≤ 3 * costS d := by
        have := Nat.mul_le_mul_right (costS d) (show ps.length + 1 ≤ 3 by omega)
        rw [Nat.add_mul] at this; omega
      go_wp2
      refine wp_region_ser (fun w' => w'.cell? ⟨w.heap.size + 1, 3, none⟩ = some kv) [(0, 3), (1, 0), (2, 3), (3, 3), (4, 1), (5, 1), (6, 2), (7, 3), (8, 2)] (by kernel_rfl) (by kernel_rfl) ?_ (fun hS => ?_)
      · go_keep
      refine ser_pure rfl (by rfl) ?_
      apply Exists.intro
      refine ⟨fun w0 => ?_, ?_⟩
      · go_simp; try with_reducible rfl
      simp only [List.getElem_toArray, List.getElem_cons_zero, List.getElem_cons_succ, Act.put, List.setIfInBounds_toArray, List.set_cons_zero, List.set_cons_succ]
      refine ser_load rfl hS (by rfl) ?_
      apply Exists.intro
      refine ⟨fun w0 hS0 => ?_, ?_⟩
      · (try dsimp only at hS0); go_simp; try with_reducible rfl
      simp only [List.getElem_toArray, List.getElem_cons_zero, List.getElem_cons_succ, Act.put, List.setIfInBounds_toArray, List.set_cons_zero, List.set_cons_succ]
      refine ser_pure rfl (by rfl) ?_
      apply Exists.intro
      refine ⟨fun w0 => ?_, ?_⟩
      · go_simp; try with_reducible rfl
      simp only [List.getElem_toArray, List.getElem_cons_zero, List.getElem_cons_succ, Act.put, List.setIfInBounds_toArray, List.set_cons_zero, List.set_cons_succ]
      refine ser_pure rfl (by rfl) ?_
      apply Exists.intro
      refine ⟨fun w0 => ?_, ?_⟩
      · go_simp; try with_reducible rfl
      simp only [List.getElem_toArray, List.getElem_cons_zero, List.getElem_cons_succ, Act.put, List.setIfInBounds_toArray, List.set_cons_zero, List.set_cons_succ]
      refine ser_loud1 rfl (fun K hK => ?_)
      rw [if_pos (by rfl)]
      go_wp2_with (first
        | (go_at_call 44; (with_reducible refine (IH.out.use L b _ _ g.drew.src (by omega)).mono ?_); rintro e w2 ⟨v2, i2, rfl, hg2, hs2, hi2, hj2, t1, hT1, hA1⟩; have hV2 := (hg2.block _ hVlt (by simp; omega)).trans hV; have own2 := (own.ext (Ext.refl _).drew).kept hg2 (by simp; omega) (own_ne own (by omega)); obtain ⟨kv1, rfl, -⟩ := hA1.parts; have g2 := Goes.step g.drew hg2 hs2 hi2; obtain ⟨cW0, cW1, cW2, cW3, fW0, fW1, fW2, fW3⟩ := cells4 hV2))
      refine and_held (by go_keep) (fun hS => ?_)
      refine ser_loud1 rfl (fun K hK => ?_)
      rw [if_pos (by rfl)]
      go_wp2_with (first
        | (go_at_call 44; (with_reducible refine (IH.out.use L b _ _ g.drew.src (by omega)).mono ?_); rintro e w2 ⟨v2, i2, rfl, hg2, hs2, hi2, hj2, t1, hT1, hA1⟩; have hV2 := (hg2.block _ hVlt (by simp; omega)).trans hV; have own2 := (own.ext (Ext.refl _).drew).kept hg2 (by simp; omega) (own_ne own (by omega)); obtain ⟨kv1, rfl, -⟩ := hA1.parts; have g2 := Goes.step g.drew hg2 hs2 hi2; obtain ⟨cW0, cW1, cW2, cW3, fW0, fW1, fW2, fW3⟩ := cells4 hV2))
      refine and_held (by go_keep) (fun hS => ?_)
      refine ser_loud2 rfl (fun K hK => ?_)
      rw [if_pos (by rfl)]
      refine wp_append_any _ _ _ 23 (by rfl) (w.heap.size + 2) 25 i0 _ 4 56 under_nodes hi0 hz0 hz1 hz2 rfl (by decide) kv ps.length _ (by rfl) (own2.ext ((Ext.refl _).alloc _)).row _ 1 1 (nodeCells (t1, kv1)) (by rfl) rfl (by simp) new_cells (one_node _ _ hA1) (by unfold maxLen; omega) (by omega) (by have := g2.lt; have := hg2.size; simp at this; simp; omega) ?_
      intro v' w3 hown hgrow hwh
      obtain ⟨p', n', c', rfl⟩ := own_slice hown
      have own3 := OwnL.push (x := (t1, kv1)) okN.mono (own2.ext ((Ext.refl _).alloc _)) (D := fromC wr.heap.size w2) (fun a u ha => new_tree own (fun n hn => by omega) ha) hA1 hown hgrow hwh
      have hV2' := Ext.block ((Ext.refl w2).alloc (.cells (nodeCells (t1, kv1)).toArray 25)) hV2
      have hV3 := (hgrow.block _ (Array.getElem?_eq_some_iff.1 hV2').1 (own_ne2 own2 (by omega))).trans hV2'
      have g3 := g2.alloc (.cells (nodeCells (t1, kv1)).toArray 25)
      obtain ⟨cX0, cX1, cX2, cX3, fX0, fX1, fX2, fX3⟩ := cells4 hV3
      refine hK _ _ ?_
      try simp only [List.getElem_toArray, List.getElem_cons_zero, List.getElem_cons_succ, Act.put, List.setIfInBounds_toArray, List.set_cons_zero, List.set_cons_succ]
      refine ser_pure rfl (by rfl) ?_
      apply Exists.intro
      refine ⟨fun w0 => ?_, ?_⟩
      · go_simp; try with_reducible rfl
      simp only [List.getElem_toArray, List.getElem_cons_zero, List.getElem_cons_succ, Act.put, List.setIfInBounds_toArray, List.set_cons_zero, List.set_cons_succ]
      refine ser_loud2 rfl (fun K hK => ?_)
      rw [if_pos (by rfl)]
      go_wp2_with (first
        | (go_at_call 44; (with_reducible refine (IH.out.use L b _ _ g.drew.src (by omega)).mono ?_); rintro e w2 ⟨v2, i2, rfl, hg2, hs2, hi2, hj2, t1, hT1, hA1⟩; have hV2 := (hg2.block _ hVlt (by simp; omega)).trans hV; have own2 := (own.ext (Ext.refl _).drew).kept hg2 (by simp; omega) (own_ne own (by omega)); obtain ⟨kv1, rfl, -⟩ := hA1.parts; have g2 := Goes.step g.drew hg2 hs2 hi2; obtain ⟨cW0, cW1, cW2, cW3, fW0, fW1, fW2, fW3⟩ := cells4 hV2))
      refine ser_nil ?_
      have hlt3 : w.heap.size + 1 < w3.heap.size := (Array.getElem?_eq_some_iff.1 hV3).1
      have g4 := (g3.other hgrow (fun k hk => ⟨by have := (own2.row.lt k hk).1; omega, by have := (own2.row.lt k hk).1; omega⟩)).other (grown_set w3 (w.heap.size + 1) 3 (.slice p' n' c')) (fun k hk => by cases hk; omega)
      have own4 := own3.kept (grown_set w3 (w.heap.size + 1) 3 (.slice p' n' c')) (by intro n hn; simp; omega) (own_ne own3 (by omega))
      have hV4 := set_blk hV3 3 (.slice p' n' c')
      clear hS own3 hV3 hV2' hV2 g3 own2 own hV
      go_wp2
      go_roundw
      case rel =>
        refine ⟨k - 1, i2, _, ps ++ [(t1, kv1)], by go_num, by simp; omega, g4, ?_, hV4, own4, ?_⟩
        · rw [List.length_append, Nat.add_mul]; simp; omega
        · intro p hp
          rcases List.mem_append.1 hp with hp | hp
          · exact hgen p hp
          · simp at hp; subst hp; exact hT1
      case measure => simp [intOf]; omega
    · obtain ⟨cR0, cR1, cR2, cR3, fR0, fR1, fR2, fR3⟩ := cells4 g.res
      obtain ⟨kp, kn, kc, rfl⟩ := own_slice own.row
      go_wp2
      refine node_ret g (by omega) Try.results36 rfl (GenB d) (.mk 11 0 ⟨#[]⟩ (ps.map (·.1))) _ ⟨_, rfl, by simp; omega, ?_⟩ (by simp [Nd.k]) (by simp [Nd.n]) (Nat.zero_le _) ?_
      · intro x hx
        obtain ⟨p, hp, rfl⟩ := List.mem_map.1 hx
        exact hgen p hp
      · exact own.nds (fun a u h1 h2 => fromC_some.2 ⟨by omega, h1⟩) (fun a u h1 h2 => fromC_some.2 ⟨by omega, h1⟩) (by omega)
end Go.Proofs.Ytlmdmmikocbmlaa
