/- The generator of expressions. -/
import Derived.Test.YtlmdmmikocbmlaaGen0
namespace Go.Proofs.Ytlmdmmikocbmlaa
open Go.RowKit
set_option linter.unusedSimpArgs false
set_option linter.unusedVariables false

/-- Generated expressions of at most so many levels. -/
inductive GenE : Nat → Nd → Prop
  | int (d : Nat) (n : Int) : 0 ≤ n → n < 100 → GenE d (.mk 12 n ⟨#[]⟩ [])
  | bool (d : Nat) (n : Int) : 0 ≤ n → n < 2 → GenE d (.mk 13 n ⟨#[]⟩ [])
  | var (d : Nat) (j : Int) : 0 ≤ j → j < 10 → GenE d (.mk 14 0 (nameF j) [])
  | name (d : Nat) (s : ByteArray) : s ∈ names9 → GenE d (.mk 15 0 s [])
  | draw (d : Nat) (t : Nd) : GenE d t → GenE (d + 1) (.mk 16 0 ⟨#[]⟩ [t])
  | un (d : Nat) (s : ByteArray) (t : Nd) : s ∈ [⟨#[45]⟩, (⟨#[33]⟩ : ByteArray)] → GenE d t → GenE (d + 1) (.mk 17 0 s [t])
  | bin (d : Nat) (s : ByteArray) (t u : Nd) : s ∈ ops2 ++ ops6 ++ ops4 →
      GenE d t → GenE d u → GenE (d + 1) (.mk 18 0 s [t, u])
def costE : Nat → Nat
  | 0 => 4
  | n + 1 => 4 + 2 * costE n
/-- From one state of the source to a later one; the call's result lies in block R. -/
structure Goes (L : LD) (b R : Nat) (O : Obj) (w : World) (i : Nat) (w' : World) (i' : Nat) : Prop where
  grown : w.grownBy w' (some b)
  src : Src L w' b i'
  le : i ≤ i'
  res : w'.heap[R]? = some O
  ne : R ≠ b
  new : w.heap.size ≤ R
  dlt : L.l = [] ∨ L.d < w.heap.size
  bw : b < w.heap.size
section
variable {L : LD} {b R : Nat} {O : Obj} {w w1 w2 : World} {i i1 i2 : Nat}
theorem Goes.start (hs : Src L w b i) (O : Obj) : Goes L b w.heap.size O w i (w.alloc O) i :=
  ⟨World.grownBy_alloc _ _ _, hs.alloc O, Nat.le_refl _, heap_alloc_new w O, Nat.ne_of_gt hs.lt, Nat.le_refl _, hs.dlt, hs.lt⟩
theorem Goes.lt (h : Goes L b R O w i w1 i1) : R < w1.heap.size := (Array.getElem?_eq_some_iff.1 h.res).1
theorem Goes.blt (h : Goes L b R O w i w1 i1) : b < w1.heap.size := h.src.lt
theorem Goes.step (h : Goes L b R O w i w1 i1) (g : w1.grownBy w2 (some b)) (s : Src L w2 b i2) (l : i1 ≤ i2) : Goes L b R O w i w2 i2 :=
  ⟨grown_trans h.grown g, s, Nat.le_trans h.le l, (g.block R h.lt (by simpa using h.ne)).trans h.res, h.ne, h.new, h.dlt, h.bw⟩
/-- A write to another block of the call's own. -/
theorem Goes.other {r : Option Nat} (h : Goes L b R O w i w1 i1) (g : w1.grownBy w2 r) (hr : ∀ k, r = some k → w.heap.size ≤ k ∧ k ≠ R) : Goes L b R O w i w2 i1 := by
  have hne : ∀ k, k < w.heap.size → some k ≠ r := fun k hk e => by have := (hr k e.symm).1; omega
  refine ⟨⟨g.os.trans h.grown.os, g.tape.trans h.grown.tape, g.output.trans h.grown.output, Nat.le_trans h.grown.size g.size, fun k hk hn => ?_⟩, h.src.kept g (hne _ h.bw) ?_, h.le, ?_, h.ne, h.new, h.dlt, h.bw⟩
  · exact (g.block k (Nat.lt_of_lt_of_le hk h.grown.size) (hne k hk)).trans (h.grown.block k hk hn)
  · rcases h.dlt with h | h
    · exact .inl h
    · exact .inr (hne _ h)
  · exact (g.block R h.lt (fun e => (hr R e.symm).2 rfl)).trans h.res
theorem Goes.alloc (h : Goes L b R O w i w1 i1) (o : Obj) : Goes L b R O w i (w1.alloc o) i1 :=
  h.step (World.grownBy_alloc _ _ _) (h.src.alloc o) (Nat.le_refl _)
end
def TreeV (n N : Nat) (v : Value) (w : World) : Prop := ∃ t, GenE n t ∧ t.At (fromC N w) v

def ExprC (n : Nat) : Prop := ∀ (L : LD) (b i : Nat) (want : Int) (w : World), Src L w b i → i + costE n ≤ 1000000000 → 1 ≤ want → want ≤ 2 →
    Calls Try.prog 30 #[.pointer (some ⟨b, 0, none⟩), .int .i64 want, .int .i64 n] w (SRet L w b i (costE n) (TreeV n w.heap.size))
theorem ExprC.use {n : Nat} (h : ExprC n) (L : LD) (b i : Nat) (want : Int) (w : World) (hs : Src L w b i) (hi : i + costE n ≤ 1000000000) (h1 : 1 ≤ want) (h2 : want ≤ 2) :
    Calls Try.prog 30 #[.pointer (some ⟨b, 0, none⟩), .int .i64 want, .int .i64 n] w (SRet L w b i (costE n) (TreeV n w.heap.size)) := h L b i want w hs hi h1 h2
/-- The call hands back a node: its four parts are stored in the result's block, and read back. -/
theorem node_end {L : LD} {b i c : Nat} {O : Obj} {w wk : World} {ik : Nat} (g : Goes L b w.heap.size O w i wk ik) (hc : ik ≤ i + c) (Φ : Nd → Prop) (t : Nd) (kv : Value) (hg : Φ t)
    (h1 : -9223372036854775808 ≤ t.k ∧ t.k ≤ 9223372036854775807) (h2 : -9223372036854775808 ≤ t.n ∧ t.n ≤ 9223372036854775807) (h3 : t.s.size ≤ maxLen) (h : NdsAt (fromC (w.heap.size + 1) wk) kv t.kids) :
    SRet L w b i c (fun v w' => ∃ t, Φ t ∧ t.At (fromC w.heap.size w') v) (.returned (.agg #[.int .i64 t.k, .int .i64 t.n, .string t.s, kv]))
      ((((wk.setCell ⟨w.heap.size, 0, none⟩ (.int .i64 t.k)).setCell ⟨w.heap.size, 1, none⟩ (.int .i64 t.n)).setCell ⟨w.heap.size, 2, none⟩ (.string t.s)).setCell ⟨w.heap.size, 3, none⟩ kv) := by
  have hs := set4 wk w.heap.size (.int .i64 t.k) (.int .i64 t.n) (.string t.s) kv
  generalize (((wk.setCell ⟨w.heap.size, 0, none⟩ (.int .i64 t.k)).setCell ⟨w.heap.size, 1, none⟩ (.int .i64 t.n)).setCell ⟨w.heap.size, 2, none⟩ (.string t.s)).setCell ⟨w.heap.size, 3, none⟩ kv = W at hs ⊢
  refine ⟨_, ik, rfl, ?_, g.src.kept hs (by have := g.ne; simp; omega) ?_, g.le, hc, t, hg, ?_⟩
  · refine ⟨hs.os.trans g.grown.os, hs.tape.trans g.grown.tape, hs.output.trans g.grown.output, Nat.le_trans g.grown.size hs.size, fun k hk hn => ?_⟩
    exact (hs.block k (Nat.lt_of_lt_of_le hk g.grown.size) (by simp; omega)).trans (g.grown.block k hk hn)
  · rcases g.dlt with h | h
    · exact .inl h
    · exact .inr (by simp; omega)
  · exact Nd.At.of_parts h1 h2 h3 (h.mono (fromC_sub (by omega) (grown_from hs (by omega))))
/-- A result that lies in a block of four cells is read back. -/
theorem res_node {fn : Func} {t : Tmp} (hres : fn.results = #[.cell t 25]) {tmps : Array Value} {R : Nat} (ht : tmps.getD t undef = .pointer (some ⟨R, 0, none⟩)) {W : World} {v0 v1 v2 v3 : Value}
    (h0 : W.cell? ⟨R, 0, none⟩ = some v0) (h1 : W.cell? ⟨R, 1, none⟩ = some v1) (h2 : W.cell? ⟨R, 2, none⟩ = some v2) (h3 : W.cell? ⟨R, 3, none⟩ = some v3) :
    (results fn tmps).run Try.prog W = .ok (.agg #[v0, v1, v2, v3]) W := by
  simp [Array.getD_eq_getD_getElem?] at ht
  simp [results, hres, go_sem, ht, h0, h1, h2, h3]
theorem node_ret {L : LD} {b i c : Nat} {a0 a1 a2 a3 : Value} {w wk : World} {ik : Nat} (g : Goes L b w.heap.size (.cells #[a0, a1, a2, a3] 25 (0, 0)) w i wk ik) (hc : ik ≤ i + c)
    {fn : Func} {r : Tmp} (hres : fn.results = #[.cell r 25]) {tmps : Array Value} (ht : tmps.getD r undef = .pointer (some ⟨w.heap.size, 0, none⟩)) (Φ : Nd → Prop) (t : Nd) (kv : Value) (hg : Φ t)
    (h1 : -9223372036854775808 ≤ t.k ∧ t.k ≤ 9223372036854775807) (h2 : -9223372036854775808 ≤ t.n ∧ t.n ≤ 9223372036854775807) (h3 : t.s.size ≤ maxLen) (h : NdsAt (fromC (w.heap.size + 1) wk) kv t.kids) :
    bodyPost Try.prog fn (SRet L w b i c (fun v w' => ∃ t, Φ t ∧ t.At (fromC w.heap.size w') v)) .ret ⟨tmps, []⟩
      ((((wk.setCell ⟨w.heap.size, 0, none⟩ (.int .i64 t.k)).setCell ⟨w.heap.size, 1, none⟩ (.int .i64 t.n)).setCell ⟨w.heap.size, 2, none⟩ (.string t.s)).setCell ⟨w.heap.size, 3, none⟩ kv) := by
  have hb := set4_blk g.res (.int .i64 t.k) (.int .i64 t.n) (.string t.s) kv
  obtain ⟨c0, c1, c2, c3, _⟩ := cells4 hb
  exact bodyPost_ret (res_node hres ht c0 c1 c2 c3) rfl (node_end g hc Φ t kv hg h1 h2 h3 h)
/-- The same where a block was made ahead of the stores. -/
theorem node_ret_alloc {L : LD} {b i c : Nat} {a0 a1 a2 a3 : Value} {w wk : World} {ik : Nat} {o : Obj} (g : Goes L b w.heap.size (.cells #[a0, a1, a2, a3] 25 (0, 0)) w i wk ik) (hc : ik ≤ i + c)
    {fn : Func} {r : Tmp} (hres : fn.results = #[.cell r 25]) {tmps : Array Value} (ht : tmps.getD r undef = .pointer (some ⟨w.heap.size, 0, none⟩)) (Φ : Nd → Prop) (t : Nd) (kv : Value) (hg : Φ t)
    (h1 : -9223372036854775808 ≤ t.k ∧ t.k ≤ 9223372036854775807) (h2 : -9223372036854775808 ≤ t.n ∧ t.n ≤ 9223372036854775807) (h3 : t.s.size ≤ maxLen) (h : NdsAt (fromC (w.heap.size + 1) (wk.alloc o)) kv t.kids) :
    bodyPost Try.prog fn (SRet L w b i c (fun v w' => ∃ t, Φ t ∧ t.At (fromC w.heap.size w') v)) .ret ⟨tmps, []⟩
      (((((wk.setCell ⟨w.heap.size, 0, none⟩ (.int .i64 t.k)).setCell ⟨w.heap.size, 1, none⟩ (.int .i64 t.n)).setCell ⟨w.heap.size, 2, none⟩ (.string t.s)).setCell ⟨w.heap.size, 3, none⟩ kv).alloc o) := by
  rw [← set4_alloc g.lt]
  exact node_ret (g.alloc o) hc hres ht Φ t kv hg h1 h2 h3 h

set_option maxHeartbeats 1000000 in
theorem expr_zero : ExprC 0 := by
  intro L b i want w hs hi hw1 hw2
  unfold costE at hi
  have g := Goes.start hs (.cells #[.int .i64 0, .int .i64 0, .string ⟨#[]⟩, .slice none 0 0] 25 (0, 0))
  have hj : i ≤ i := Nat.le_refl _
  go_enter Try.func30, Try.ntmps30
  go_wp2_with (first
    | (go_at_call 31; (with_reducible refine (next_any L b _ _ _ g.src (by omega) (by omega) (by omega)).mono ?_); (try clear cR0 cR1 cR2 cR3 fR0 fR1 fR2 fR3); rintro e w2 ⟨v2, i2, rfl, hg2, hs2, hi2, hj2, r2, rfl, hr3, hr4⟩; replace g := Goes.step g hg2 hs2 hi2; clear hg2 hs2; obtain ⟨cR0, cR1, cR2, cR3, fR0, fR1, fR2, fR3⟩ := cells4 g.res)
    | (go_at_call 42; (with_reducible refine (pick_any L b _ _ names9 _ (g.alloc _).src (by omega) ?_ len9).mono ?_); exact StrsAt.newBut g.blt 9 names9 (by decide) short9; (try clear cR0 cR1 cR2 cR3 fR0 fR1 fR2 fR3); rintro e w2 ⟨v2, i2, rfl, hg2, hs2, hi2, hj2, s2, hs3, rfl⟩; replace g := Goes.step (g.alloc _) hg2 hs2 hi2; clear hg2 hs2; obtain ⟨cR0, cR1, cR2, cR3, fR0, fR1, fR2, fR3⟩ := cells4 g.res)
    | (go_at_call 25; (with_reducible refine (name_any _ _ (by omega) (by omega)).mono ?_); rintro e w2 ⟨rfl, rfl⟩))
  iterate 2
    · exact node_ret g (by have h : costE 0 = 4 := rfl; omega) Try.results30 rfl (GenE 0) (.mk 13 r2 ⟨#[]⟩ []) _ (GenE.bool 0 r2 hr3 hr4) (by simp [Nd.k]) (by simp [Nd.n]; try omega) (Nat.zero_le _) (NdsAt.nil _)
    · exact node_ret g (by have h : costE 0 = 4 := rfl; omega) Try.results30 rfl (GenE 0) (.mk 14 0 (nameF (aroundF r2 10)) []) _ (GenE.var 0 _ (aroundF_rng _ 10 (by omega)).1 (aroundF_rng _ 10 (by omega)).2) (by simp [Nd.k]) (by simp [Nd.n]; try omega) (nameF_short _) (NdsAt.nil _)
    · exact node_ret g (by have h : costE 0 = 4 := rfl; omega) Try.results30 rfl (GenE 0) (.mk 15 0 s2 []) _ (GenE.name 0 s2 hs3) (by simp [Nd.k]) (by simp [Nd.n]; try omega) (short9 s2 hs3) (NdsAt.nil _)
    · exact node_ret g (by have h : costE 0 = 4 := rfl; omega) Try.results30 rfl (GenE 0) (.mk 12 r2 ⟨#[]⟩ []) _ (GenE.int 0 r2 hr3 hr4) (by simp [Nd.k]) (by simp [Nd.n]; try omega) (Nat.zero_le _) (NdsAt.nil _)

theorem mem2 {s : ByteArray} (h : s ∈ ops2) : s ∈ ops2 ++ ops6 ++ ops4 := by simp [h]
theorem mem6 {s : ByteArray} (h : s ∈ ops6) : s ∈ ops2 ++ ops6 ++ ops4 := by simp [h]
theorem mem4 {s : ByteArray} (h : s ∈ ops4) : s ∈ ops2 ++ ops6 ++ ops4 := by simp [h]
set_option maxHeartbeats 2000000 in
theorem expr_succ (n : Nat) (hn : n ≤ 100) (ih : ExprC n) : ExprC (n + 1) := by
  intro L b i want w hs hi hw1 hw2
  unfold costE at hi
  have g := Goes.start hs (.cells #[.int .i64 0, .int .i64 0, .string ⟨#[]⟩, .slice none 0 0] 25 (0, 0))
  have hj : i ≤ i := Nat.le_refl _
  have hdep : ¬ ((n + 1 : Nat) : Int) < 1 := by omega
  have hbR := hs.lt
  have IH : Hid (ExprC n) := ih
  clear ih
  go_enter Try.func30, Try.ntmps30
  go_wp2_with (first
    | (go_at_call 31; (with_reducible refine (next_any L b _ _ _ g.src (by omega) (by omega) (by omega)).mono ?_); (try clear cR0 cR1 cR2 cR3 fR0 fR1 fR2 fR3); rintro e w2 ⟨v2, i2, rfl, hg2, hs2, hi2, hj2, r2, rfl, hr3, hr4⟩; replace g := Goes.step g hg2 hs2 hi2; clear hg2 hs2; obtain ⟨cR0, cR1, cR2, cR3, fR0, fR1, fR2, fR3⟩ := cells4 g.res)
    | (go_at_call 42; (with_reducible refine (pick_any L b _ _ names9 _ (g.alloc _).src (by omega) ?_ len9).mono ?_); exact StrsAt.newBut g.blt 9 names9 (by decide) short9; (try clear cR0 cR1 cR2 cR3 fR0 fR1 fR2 fR3); rintro e w2 ⟨v2, i2, rfl, hg2, hs2, hi2, hj2, s2, hs3, rfl⟩; replace g := Goes.step (g.alloc _) hg2 hs2 hi2; clear hg2 hs2; obtain ⟨cR0, cR1, cR2, cR3, fR0, fR1, fR2, fR3⟩ := cells4 g.res)
    | (go_at_call 42; (with_reducible refine (pick_any L b _ _ ops2 _ (g.alloc _).src (by omega) ?_ len2).mono ?_); exact StrsAt.newBut g.blt 9 ops2 (by decide) short2; (try clear cR0 cR1 cR2 cR3 fR0 fR1 fR2 fR3); rintro e w2 ⟨v2, i2, rfl, hg2, hs2, hi2, hj2, s2, hs3, rfl⟩; replace g := Goes.step (g.alloc _) hg2 hs2 hi2; clear hg2 hs2; obtain ⟨cR0, cR1, cR2, cR3, fR0, fR1, fR2, fR3⟩ := cells4 g.res)
    | (go_at_call 42; (with_reducible refine (pick_any L b _ _ ops6 _ (g.alloc _).src (by omega) ?_ len6).mono ?_); exact StrsAt.newBut g.blt 9 ops6 (by decide) short6; (try clear cR0 cR1 cR2 cR3 fR0 fR1 fR2 fR3); rintro e w2 ⟨v2, i2, rfl, hg2, hs2, hi2, hj2, s2, hs3, rfl⟩; replace g := Goes.step (g.alloc _) hg2 hs2 hi2; clear hg2 hs2; obtain ⟨cR0, cR1, cR2, cR3, fR0, fR1, fR2, fR3⟩ := cells4 g.res)
    | (go_at_call 42; (with_reducible refine (pick_any L b _ _ ops4 _ (g.alloc _).src (by omega) ?_ len4).mono ?_); exact StrsAt.newBut g.blt 9 ops4 (by decide) short4; (try clear cR0 cR1 cR2 cR3 fR0 fR1 fR2 fR3); rintro e w2 ⟨v2, i2, rfl, hg2, hs2, hi2, hj2, s2, hs3, rfl⟩; replace g := Goes.step (g.alloc _) hg2 hs2 hi2; clear hg2 hs2; obtain ⟨cR0, cR1, cR2, cR3, fR0, fR1, fR2, fR3⟩ := cells4 g.res)
    | (go_at_call 25; (with_reducible refine (name_any _ _ (by omega) (by omega)).mono ?_); rintro e w2 ⟨rfl, rfl⟩)
    | (go_at_call 30; have hA0 := hA1; (with_reducible refine (IH.out.use L b _ _ _ g.src (by omega) (by omega) (by omega)).mono ?_); (try clear cR0 cR1 cR2 cR3 fR0 fR1 fR2 fR3); rintro e w2 ⟨v2, i2, rfl, hg2, hs2, hi2, hj2, t2, hT2, hA2⟩; clear hA0; have hA1 := Nd.At.mono (grown_from hg2 (by omega)) _ _ hA1; have hA2 := Nd.At.mono (fromC_le (Nat.succ_le_of_lt g.lt)) _ _ hA2; obtain ⟨kv2, rfl, -⟩ := hA2.parts; replace g := Goes.step g hg2 hs2 hi2; clear hg2 hs2; have hlt2 := g.lt; obtain ⟨cR0, cR1, cR2, cR3, fR0, fR1, fR2, fR3⟩ := cells4 g.res)
    | (go_at_call 30; (with_reducible refine (IH.out.use L b _ _ _ g.src (by omega) (by omega) (by omega)).mono ?_); (try clear cR0 cR1 cR2 cR3 fR0 fR1 fR2 fR3); rintro e w2 ⟨v2, i2, rfl, hg2, hs2, hi2, hj2, t1, hT1, hA1⟩; have hA1 := Nd.At.mono (fromC_le (Nat.succ_le_of_lt g.lt)) _ _ hA1; obtain ⟨kv1, rfl, -⟩ := hA1.parts; replace g := Goes.step g hg2 hs2 hi2; clear hg2 hs2; have hlt2 := g.lt; obtain ⟨cR0, cR1, cR2, cR3, fR0, fR1, fR2, fR3⟩ := cells4 g.res))
  iterate 2
    · exact node_ret g (by have h : costE (n + 1) = 4 + 2 * costE n := rfl; omega) Try.results30 rfl (GenE (n + 1)) (.mk 13 r2 ⟨#[]⟩ []) _ (GenE.bool (n + 1) r2 hr3 hr4) (by simp [Nd.k]) (by simp [Nd.n]; try omega) (Nat.zero_le _) (NdsAt.nil _)
    · exact node_ret_alloc g (by have h : costE (n + 1) = 4 + 2 * costE n := rfl; omega) Try.results30 rfl (GenE (n + 1)) (.mk 17 0 ⟨#[33]⟩ [t1]) _ (GenE.un n _ t1 (by simp) hT1) (by simp [Nd.k]) (by simp [Nd.n]) (short1 33) (NdsAt.one (Nat.succ_le_of_lt g.lt) 25 t1 kv1 hA1)
    · exact node_ret_alloc g (by have h : costE (n + 1) = 4 + 2 * costE n := rfl; omega) Try.results30 rfl (GenE (n + 1)) (.mk 18 0 s2 [t1, t2]) _ (GenE.bin n s2 t1 t2 (mem2 hs3) hT1 hT2) (by simp [Nd.k]) (by simp [Nd.n]) (short2 s2 hs3) (NdsAt.two (Nat.succ_le_of_lt g.lt) 25 t1 t2 kv1 kv2 hA1 hA2)
    · exact node_ret_alloc g (by have h : costE (n + 1) = 4 + 2 * costE n := rfl; omega) Try.results30 rfl (GenE (n + 1)) (.mk 18 0 s2 [t1, t2]) _ (GenE.bin n s2 t1 t2 (mem6 hs3) hT1 hT2) (by simp [Nd.k]) (by simp [Nd.n]) (short6 s2 hs3) (NdsAt.two (Nat.succ_le_of_lt g.lt) 25 t1 t2 kv1 kv2 hA1 hA2)
    · exact node_ret g (by have h : costE (n + 1) = 4 + 2 * costE n := rfl; omega) Try.results30 rfl (GenE (n + 1)) (.mk 14 0 (nameF (aroundF r2 10)) []) _ (GenE.var (n + 1) _ (aroundF_rng _ 10 (by omega)).1 (aroundF_rng _ 10 (by omega)).2) (by simp [Nd.k]) (by simp [Nd.n]; try omega) (nameF_short _) (NdsAt.nil _)
    · exact node_ret g (by have h : costE (n + 1) = 4 + 2 * costE n := rfl; omega) Try.results30 rfl (GenE (n + 1)) (.mk 15 0 s2 []) _ (GenE.name (n + 1) s2 hs3) (by simp [Nd.k]) (by simp [Nd.n]; try omega) (short9 s2 hs3) (NdsAt.nil _)
    · exact node_ret_alloc g (by have h : costE (n + 1) = 4 + 2 * costE n := rfl; omega) Try.results30 rfl (GenE (n + 1)) (.mk 17 0 ⟨#[45]⟩ [t1]) _ (GenE.un n _ t1 (by simp) hT1) (by simp [Nd.k]) (by simp [Nd.n]) (short1 45) (NdsAt.one (Nat.succ_le_of_lt g.lt) 25 t1 kv1 hA1)
    · exact node_ret_alloc g (by have h : costE (n + 1) = 4 + 2 * costE n := rfl; omega) Try.results30 rfl (GenE (n + 1)) (.mk 16 0 ⟨#[]⟩ [t1]) _ (GenE.draw n t1 hT1) (by simp [Nd.k]) (by simp [Nd.n]) (Nat.zero_le _) (NdsAt.one (Nat.succ_le_of_lt g.lt) 25 t1 kv1 hA1)
    · exact node_ret_alloc g (by have h : costE (n + 1) = 4 + 2 * costE n := rfl; omega) Try.results30 rfl (GenE (n + 1)) (.mk 18 0 s2 [t1, t2]) _ (GenE.bin n s2 t1 t2 (mem4 hs3) hT1 hT2) (by simp [Nd.k]) (by simp [Nd.n]) (short4 s2 hs3) (NdsAt.two (Nat.succ_le_of_lt g.lt) 25 t1 t2 kv1 kv2 hA1 hA2)
theorem expr_any : ∀ n, n ≤ 100 → ExprC n
  | 0, _ => expr_zero
  | n + 1, h => expr_succ n (by omega) (expr_any n (by omega))
end Go.Proofs.Ytlmdmmikocbmlaa
