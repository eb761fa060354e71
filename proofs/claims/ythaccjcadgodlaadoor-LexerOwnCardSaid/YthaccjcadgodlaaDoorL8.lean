/- lexer.Tokens: a range over the iterator. -/
import Derived.Test.YthaccjcadgodlaaDoorL7
import Derived.Test.YthaccjcadgodlaaDoorVmI
import Derived.RangeFuncBox
import Derived.RangeFuncLeaves
import Derived.WalkKit
import Derived.OwnWalkIn
import Derived.TacticsInMore
import Derived.LoopNIn
import Derived.LoopIn
import Derived.Maps.AppendAt
namespace Go.Proofs.YthaccjcadgodlaaDoor.Vm
open Go.RowKit
set_option linter.unusedSimpArgs false
set_option linter.unusedVariables false
attribute [local go_sem] Oper.semAt_some
theorem wpListIn_append_any {F : Fence} {n : Nat} {P : Program} (w : World) {ops : Array Oper} {rest : List Oper} {o : Oper} {a : Act} {Q : Exit → Act → World → Prop}
    (hg : o.guard = none) (s x : Operand) (t : TypeId) (hop : o.op = Op.call { callee := Callee.builtin Builtin.append, args := #[s, x], argTypes := #[t, t] })
    (base : Nat) (e : TypeId) (i : TypeInfo) (z : Value) (size bytes : Nat) (h1 : P.underlying t = some (.slice e)) (h2 : P.info? e = some i) (h3 : i.zero = some z) (h4 : i.size = size) (h5 : i.bytes = bytes) (h6 : z.cells.size = size) (h7 : 0 < size)
    (v : Value) (k : Nat) (xs : List Value) (hs : a.eval s = v) (hown : w.ownsRow base e size v k xs) (ad : Addr) (m c : Nat) (news : List Value) (hx : a.eval x = .slice (some ad) m c) (hn : news.length = m * size)
    (hc : ∀ j u, news[j]? = some u → w.cell? (ad.add j) = some u) (h1c : ∀ u ∈ news, u.oneCell' = true) (b1 : k + m ≤ maxLen) (b2 : (k + m) * bytes ≤ 140737488355328) (b3 : base ≤ w.heap.size)
    (hK : ∀ v' w', w'.ownsRow base e size v' (k + m) (xs ++ news) → w.grownBy w' v.ownBlock → (v'.ownBlock = v.ownBlock ∨ v'.ownBlock = some w.heap.size) → wpListIn F n P ops Q rest (a.put o.dst v') w') :
    wpListIn F n P ops Q (o :: rest) a w := by
  refine wpListIn_plain hg fun K hK' => ?_
  obtain ⟨v', w', hrun, r1, r2, r3⟩ := run_append_any (P := P) w base t o.type e i z size bytes h1 h2 h3 h4 h5 h6 h7 v k xs hown (some ad) m c news hn (fun e => by cases e) (fun a e => by cases e; exact hc) h1c b1 b2 b3
  unfold Oper.wpIn
  refine ⟨?_, ?_⟩
  · simp [Oper.about, hop, resolve, Target.leads, Sem.run_pure]
  · rw [Oper.semAt_plain F _ _ (by rw [hop]; intro c hc'; cases hc')]
    simp [execOp, hop, resolve, invoke, builtin, hs, hx, hrun, Result.andThen]
    exact hK' _ _ (hK v' w' r1 r2 r3)
theorem cells4_new (W : World) (a b c d : Value) (T : TypeId) : ∀ (j : Nat) (u : Value), [a, b, c, d][j]? = some u → (W.alloc (.cells #[a, b, c, d] T)).cell? ((⟨W.heap.size, 0, none⟩ : Addr).add j) = some u := fun j u h => by
  have e : (⟨W.heap.size, 0, none⟩ : Addr).add j = ⟨W.heap.size, j, none⟩ := by unfold Addr.add; split <;> simp_all
  rw [e]
  have := World.alloc_heap_new W (.cells #[a, b, c, d] T)
  simp only [World.cell?, this]
  simpa using h
def tkV (t : Tk) : List Value := [.int .i64 t.kind, .int .i64 t.pos, .string t.text, .int .i64 t.n]
def tksV (l : List Tk) : List Value := l.flatMap tkV
theorem info_tk : (Tryd.prog.info? 36).map (fun i => (i.zero, i.size, i.bytes)) = some (some (.agg #[.int .i64 0, .int .i64 0, .string ⟨#[]⟩, .int .i64 0]), 4, 40) := by kernel_rfl
theorem scan_in (s : ByteArray) (hs : s.size ≤ 1000000000) (m : Nat) (w1 : World) (C : Rd) (hg : Gok C) (hsub : Sub C w1.cell?) : CallsIn Fence.wide m Tryd.prog 20 #[.string s] w1 fun e w2 =>
    ∃ us : Array Value, e = .returned (.func (.func 26) #[] us) ∧ Keeps [] w1 w2 ∧ A.repL [.pp [.v (.string s)], .pp (clsL classOf)] ⟨plus C w1 w2, [], []⟩ us.toList := by
  refine callsIn_wide.2 (((scan_spec s).2 w1 C [] [.string s] hg hsub List.nodup_nil (by simp) rfl (fun i b cs hb => by simp at hb) ?_).mono ?_)
  · exact ⟨_, _, rfl, A.rep_v (by show s.size ≤ maxLen; exact le_max hs), rfl⟩
  · rintro e w2 ⟨outs, r, v, rfl, rfl, hk, _, _, hv⟩
    unfold A.rep at hv
    obtain ⟨us, rfl, hus⟩ := hv
    exact ⟨us, rfl, hk, hus⟩
theorem kp_append {W w1 : World} {n₀ B g n k : Nat} {t e : TypeId} {y : Value} {cap m : Nat} {xs ys : List Value} {tmp : Obj} (c5 : Boxed W B t y) (hrow : W.ownsRow n₀ e 4 y k xs) (hgrow : (W.alloc tmp).grownBy w1 y.ownBlock) (hw : (Value.slice (some ⟨g, 0, none⟩) m cap).ownBlock = y.ownBlock ∨ (Value.slice (some ⟨g, 0, none⟩) m cap).ownBlock = some (W.alloc tmp).heap.size)
    (hv2 : Boxed (w1.setCell ⟨B, 0, none⟩ (.slice (some ⟨g, 0, none⟩) m cap)) B t (.slice (some ⟨g, 0, none⟩) m cap)) (hr2 : (w1.setCell ⟨B, 0, none⟩ (.slice (some ⟨g, 0, none⟩) m cap)).ownsRow n₀ e 4 (.slice (some ⟨g, 0, none⟩) m cap) n ys) : KpB B W (w1.setCell ⟨B, 0, none⟩ (.slice (some ⟨g, 0, none⟩) m cap)) := fun hv => by
  have hsz : W.heap.size ≤ (w1.setCell ⟨B, 0, none⟩ (.slice (some ⟨g, 0, none⟩) m cap)).heap.size := by
    have h1 := hgrow.size
    have h2 := (grownBy_setCell' w1 B (.slice (some ⟨g, 0, none⟩) m cap)).size
    rw [World.size_alloc] at h1
    omega
  have hg2 : ∀ b, ownB B (w1.setCell ⟨B, 0, none⟩ (.slice (some ⟨g, 0, none⟩) m cap)) b → b = B ∨ b = g := fun b hb => by
    rcases hb with hb | ⟨a, l, c, h1, h2⟩
    · exact .inl hb
    · rw [hv2.cell] at h1
      cases h1
      exact .inr h2.symm
  have hgl : g < (w1.setCell ⟨B, 0, none⟩ (.slice (some ⟨g, 0, none⟩) m cap)).heap.size := by
    rcases hr2.2 with ⟨h, _⟩ | ⟨g2, cap2, cur, h, _, hgb, _⟩
    · cases h
    · cases h
      exact heap_lt hgb
  have hyg : ∀ b, y.ownBlock = some b → ownB B W b := fun b hb => by
    rcases hrow.2 with ⟨rfl, _⟩ | ⟨g2, cap2, cur, rfl, _, hgb, _⟩
    · simp [Value.ownBlock] at hb
    · exact .inr ⟨_, _, _, c5.cell, by simpa [Value.ownBlock] using hb⟩
  refine ⟨⟨⟨_, hv2, rfl⟩, fun b hb => ?_⟩, hsz, fun b hb => ?_, fun b o hb ho hn => ?_⟩
  · rcases hg2 b hb with rfl | rfl
    · exact hv2.lt
    · exact hgl
  · rcases hg2 b hb with rfl | rfl
    · exact .inl (.inl rfl)
    · rcases hw with hw | hw
      · exact .inl (hyg _ (by rw [← hw]; simp [Value.ownBlock]))
      · have : b = W.heap.size + 1 := by simpa [Value.ownBlock] using hw
        exact .inr (by omega)
  · have h1 : (W.alloc tmp).heap[b]? = some o := (Below.heap_alloc _ _ _ (heap_lt hb)).trans hb
    have h2 : w1.heap[b]? = some o := (hgrow.block b (heap_lt h1) fun e => hn (hyg b e.symm)).trans h1
    refine ((grownBy_setCell' w1 B _).block b (heap_lt h2) fun e => hn (.inl ?_)).trans h2
    cases e
    rfl
def TokI (w : World) (pre : List It) (W : World) : Prop := (∀ x ∈ pre, clE x.err = 0) ∧ Boxed W w.heap.size 31 (.slice none 0 0) ∧ Boxed W (w.heap.size + 1) 3 (.int .i64 0) ∧ Boxed W (w.heap.size + 1 + 1) 32 (.int .i64 0) ∧
  (∃ y, Boxed W (w.heap.size + 1 + 1 + 1) 31 y ∧ W.ownsRow w.heap.size 36 4 y pre.length (tksV (pre.map It.tok))) ∧ Below w.heap.size w W
def TokX (w : World) (c : Code) (pre : List It) (W : World) : Prop := c = .ret ∧ ∃ q x, pre = q ++ [x] ∧ clE x.err ≠ 0 ∧ W.cell? ⟨w.heap.size, 0, none⟩ = some (.slice none 0 0) ∧ W.cell? ⟨w.heap.size + 1, 0, none⟩ = some (.int .i64 (clP x.pos : Nat)) ∧ W.cell? ⟨w.heap.size + 1 + 1, 0, none⟩ = some (.int .i64 (clE x.err)) ∧ Below w.heap.size w W
def tokT (s : ByteArray) (us : Array Value) (w : World) (x : It) (b6 b7 : Nat) : Array Value :=
  #[.string s, undef, .pointer (some ⟨w.heap.size, 0, none⟩), .pointer (some ⟨w.heap.size + 1, 0, none⟩), .pointer (some ⟨w.heap.size + 1 + 1, 0, none⟩), .pointer (some ⟨w.heap.size + 1 + 1 + 1, 0, none⟩), .pointer (some ⟨b6, 0, none⟩), .pointer (some ⟨b7, 0, none⟩), .string s, .func (.func 26) #[] us,
    tokV x.tok, .agg #[.int .i64 (clP x.pos : Nat), .int .i64 (clE x.err)], undef, undef, undef, undef, undef, undef, undef, undef, undef, undef, undef, undef, undef, undef, undef, undef, undef]
def TokA (s : ByteArray) (us : Array Value) (w : World) (x : It) (a' : Act) (W : World) : Prop := ∃ b6 b7, a' = { tmps := tokT s us w x b6 b7, defers := [] } ∧ W.heap[b6]? = some (.cells (tkV x.tok).toArray 36 (0, 0)) ∧ W.heap[b7]? = some (.cells #[.int .i64 (clP x.pos : Nat), .int .i64 (clE x.err)] 54 (0, 0))
theorem heap_kept {X Y : World} {row : Option Nat} {b B : Nat} {o : Obj} (h : X.heap[b]? = some o) (ho : o.isCells = true) (hg : X.grownBy Y row) (hrow : ∀ r, row = some r → B ≤ r ∧ ∃ o : Obj, X.heap[r]? = some o ∧ o.isCells = false) : Y.heap[b]? = some o := by
  refine (hg.block b (heap_lt h) fun e => ?_).trans h
  obtain ⟨_, o2, h1, h2⟩ := hrow b e.symm
  rw [h] at h1
  cases h1
  rw [ho] at h2
  cases h2
theorem tokA_own (s : ByteArray) (us : Array Value) (w : World) (x : It) (a' : Act) (B : Nat) : OwnFrom B (fun (_ : Unit) W => TokA s us w x a' W) := by
  rintro _ X Y row ⟨b6, b7, e, h1, h2⟩ hg hrow
  exact ⟨b6, b7, e, heap_kept h1 rfl hg hrow, heap_kept h2 rfl hg hrow⟩
theorem tokI_own (w : World) (B : Nat) (hB : w.heap.size ≤ B) : OwnFrom B (TokI w) := by
  rintro pre X Y row ⟨e, h1, h2, h3, ⟨y, h4, h5⟩, h6⟩ hg hrow
  refine ⟨e, heap_kept h1 rfl hg hrow, heap_kept h2 rfl hg hrow, heap_kept h3 rfl hg hrow, ⟨y, heap_kept h4 rfl hg hrow, h5.kept hg ?_⟩, h6.grown hg h6.size fun k e => by have := (hrow k e).1; omega⟩
  rcases h5.2 with ⟨rfl, _⟩ | ⟨g, cap, cur, rfl, _, hgb, _⟩
  · exact .inl rfl
  · refine .inr fun e' => ?_
    obtain ⟨_, o, ho, hc⟩ := hrow g (by simpa [Value.ownBlock] using e'.symm)
    rw [hgb] at ho; cases ho; cases hc
theorem cell_keptF {X Y : World} {row : Option Nat} {a : Addr} {v : Value} {B : Nat} (h : X.cell? a = some v) (hg : X.grownBy Y row) (hrow : ∀ r, row = some r → B ≤ r ∧ ∃ o : Obj, X.heap[r]? = some o ∧ o.isCells = false) : Y.cell? a = some v := cell_kept h hg fun r e => (hrow r e).2
theorem tokX_own (w : World) (B : Nat) (hB : w.heap.size ≤ B) (c : Code) : OwnFrom B (TokX w c) := by
  rintro pre X Y row ⟨e, q, x, e2, e3, h1, h2, h3, h6⟩ hg hrow
  exact ⟨e, q, x, e2, e3, cell_keptF h1 hg hrow, cell_keptF h2 hg hrow, cell_keptF h3 hg hrow, h6.grown hg h6.size fun k e => by have := (hrow k e).1; omega⟩
theorem lexG_ok : ∀ (f p : Nat) (l : List UInt8), (lexG f p l).toks.length ≤ l.length ∧ ∀ q e, (lexG f p l).err = some (q, e) → q ≤ p + l.length ∧ e ≠ 0 ∧ 0 ≤ e ∧ e ≤ 100
  | 0, p, l => by simp [lexG]
  | f + 1, p, [] => by simp [lexG]
  | f + 1, p, c :: r => by
    rw [lexG]
    split
    · obtain ⟨h1, h2⟩ := lexG_ok f (p + 1 + spanN noNl r) (r.drop (spanN noNl r))
      have hle := spanN_le noNl r
      rw [List.length_drop] at h1 h2
      refine ⟨by simp; omega, fun q e h => ?_⟩
      obtain ⟨h3, h4⟩ := h2 q e h
      exact ⟨by simp; omega, h4⟩
    · split
      · obtain ⟨h1, h2⟩ := lexG_ok f (p + 1) r
        refine ⟨by simp; omega, fun q e h => ?_⟩
        obtain ⟨h3, h4⟩ := h2 q e h
        exact ⟨by simp; omega, h4⟩
      · cases ht : tokF (c :: r) with
        | bad e =>
          refine ⟨by simp, fun q e' h => ?_⟩
          cases h
          exact ⟨by simp, tokF_bad ht, tokF_rng ht⟩
        | tok k len n =>
          have hl := tokF_len ht
          obtain ⟨h1, h2⟩ := lexG_ok f (p + len) ((c :: r).drop len)
          rw [List.length_drop] at h1 h2
          refine ⟨by simp only [Lx.cons, List.length_cons] at hl h1 ⊢; omega, fun q e h => ?_⟩
          obtain ⟨h3, h4⟩ := h2 q e h
          exact ⟨by omega, h4⟩
theorem clE_of {e : Int} (h : 0 ≤ e ∧ e ≤ 100) : clE e = e := if_pos h
theorem tokF_tk {l : List UInt8} {k : Int} {len : Nat} {n : Int} (h : tokF l = .tok k len n) : (1 ≤ k ∧ k ≤ 3) ∧ 0 ≤ n ∧ n ≤ 2147483647 := by
  cases l with
  | nil => simp [tokF] at h
  | cons c r =>
    cases hL : isL c
    · cases hD : isD c
      · cases h3 : hasF twos (bs ((c :: r).take 2))
        · cases h4 : hasF ones (bs [c])
          · simp only [tokF, hL, hD, h3, h4] at h
            cases h
          · simp only [tokF, hL, hD, h3, h4] at h
            cases h; decide
        · simp only [tokF, hL, hD, h3] at h
          cases h; decide
      · simp only [tokF, hL, hD] at h
        have hm := valF_max (c :: r.take (spanN isD r)) 0 (by omega)
        split at h
        · cases h
        · rename_i hv
          cases h
          exact ⟨by decide, by omega, hm⟩
    · simp only [tokF, hL] at h
      split at h
      · cases h
      · cases h; decide
def tkOk (t : Tk) : Prop := (1 ≤ t.kind ∧ t.kind ≤ 3) ∧ t.pos ≤ 1000000000 ∧ t.text.size ≤ 1000000000 ∧ 0 ≤ t.n ∧ t.n ≤ 2147483647
theorem lexG_tk : ∀ (f p : Nat) (l : List UInt8), p + l.length ≤ 1000000000 → ∀ t ∈ (lexG f p l).toks, tkOk t
  | 0, p, l, _ => by simp [lexG]
  | f + 1, p, [], _ => by simp [lexG]
  | f + 1, p, c :: r, hp => by
    rw [lexG]
    simp only [List.length_cons] at hp
    split
    · have hle := spanN_le noNl r
      exact lexG_tk f _ _ (by rw [List.length_drop]; omega)
    · split
      · exact lexG_tk f _ _ (by omega)
      · cases ht : tokF (c :: r) with
        | bad e => simp
        | tok k len n =>
          have hl := tokF_len ht
          have hk := tokF_tk ht
          simp only [List.length_cons] at hl
          intro t hm
          simp only [Lx.cons, List.mem_cons] at hm
          rcases hm with rfl | hm
          · exact ⟨hk.1, by show p ≤ _; omega, by show (bs ((c :: r).take len)).size ≤ _; rw [bs_size, List.length_take]; simp; omega, hk.2⟩
          · exact lexG_tk f _ _ (by rw [List.length_drop]; simp; omega) t hm
theorem tk_rep {E : Env} {t : Tk} (h : tkOk t ∨ t.kind = 0 ∧ t.pos ≤ 1000000000 ∧ t.text.size = 0 ∧ t.n = 0) : A.repC (tkL t) E (tkV t) := by
  have h2 : (0 ≤ t.kind ∧ t.kind ≤ 3) ∧ t.pos ≤ 1000000000 ∧ t.text.size ≤ 1000000000 ∧ 0 ≤ t.n ∧ t.n ≤ 2147483647 := by
    rcases h with ⟨h1, h2, h3, h4⟩ | ⟨h1, h2, h3, h4⟩
    · exact ⟨by omega, h2, h3, h4⟩
    · exact ⟨by omega, h2, by omega, by omega⟩
  obtain ⟨h1, h3, h4, h5⟩ := h2
  exact ⟨_, _, rfl, rfl, A.rep_v (okV_int.2 (i64r (by omega))), _, _, rfl, rfl, A.rep_v (okV_int.2 (i64r (by omega))), _, _, rfl, rfl, A.rep_v (le_max h4), _, _, rfl, rfl, A.rep_v (okV_int.2 (i64r (by omega))), rfl⟩
theorem tks_rep {E : Env} : ∀ {l : List Tk}, (∀ t ∈ l, tkOk t) → A.repC (tksL l) E (tksV l)
  | [], _ => by simp [tksL, tksV, A.repC]
  | t :: l, h => by
    have : tksL (t :: l) = tkL t ++ tksL l := rfl
    rw [this, show tksV (t :: l) = tkV t ++ tksV l from rfl]
    exact A.repC_append (tk_rep (.inl (h t (by simp)))) (tks_rep fun u hu => h u (by simp [hu]))
theorem all_ok {s : ByteArray} {ys : List It} (h : AllIt s ys) (hp : ∀ x ∈ ys, clE x.err = 0) : (lexF' s).err = none ∧ ys = (lexF' s).toks.map itOk := by
  unfold AllIt at h
  split at h
  · rename_i he
    exact ⟨he, h⟩
  · rename_i q e he
    obtain ⟨t, rfl⟩ := h
    have h1 := (lexG_ok _ _ _).2 q e he
    have h2 := hp ⟨t, q, e⟩ (by simp)
    simp only at h2
    rw [clE_of h1.2.2] at h2
    exact absurd h2 h1.2.1
theorem some_bad {s : ByteArray} (hs : s.size ≤ 1000000000) {pre : List It} {x : It} (h : SomeIt s (pre ++ [x])) (hx : clE x.err ≠ 0) : (lexF' s).err = some (x.pos, x.err) ∧ clP x.pos = x.pos ∧ clE x.err = x.err := by
  obtain ⟨ys, h1, h2⟩ := h
  have hm : x ∈ ys := h2.subset (by simp)
  have hit : ∀ t : Tk, (itOk t).err = 0 := fun _ => rfl
  have hz : clE 0 = 0 := rfl
  unfold AllIt at h1
  split at h1
  · subst h1
    obtain ⟨t, _, rfl⟩ := List.mem_map.1 hm
    exact absurd hz hx
  · rename_i q e he
    obtain ⟨t, rfl⟩ := h1
    rcases List.mem_append.1 hm with hm | hm
    · obtain ⟨t, _, rfl⟩ := List.mem_map.1 hm
      exact absurd hz hx
    · obtain rfl : x = ⟨t, q, e⟩ := by simpa using hm
      have h3 := (lexG_ok _ _ _).2 q e he
      have hsl := size_len s
      exact ⟨he, (show clP q = q from if_pos (by omega)), clE_of h3.2.2⟩
theorem cell_alloc_ok {W : World} {a : Addr} {v : Value} (o : Obj) (h : W.cell? a = some v) : (W.alloc o).cell? a = some v := cell_kept h (World.grownBy_alloc W o none) (fun r e => by cases e)
theorem and_row {p q : Prop} (h : p) (k : q) : p ∧ q := ⟨h, k⟩
/-- The row of tokens that Tokens makes. -/
def rowT (s : ByteArray) : List Tk := match (lexF' s).err with | some _ => [] | none => (lexF' s).toks ++ [endTk s]
theorem rowT_none {s : ByteArray} (h : (lexF' s).err = none) : rowT s = (lexF' s).toks ++ [endTk s] := by unfold rowT; rw [h]
theorem rowT_some {s : ByteArray} {p : Nat × Int} (h : (lexF' s).err = some p) : rowT s = [] := by unfold rowT; rw [h]
def rowP (s : ByteArray) : Int × Int := match (lexF' s).err with | some (p, e) => (p, e) | none => (0, 0)
structure RowOk (s : ByteArray) (w W' : World) (v : Value) : Prop where
  ex : ∃ y, v = .tuple #[y, .int .i64 (rowP s).1, .int .i64 (rowP s).2] ∧ W'.ownsRow w.heap.size 36 4 y (rowT s).length (tksV (rowT s))
set_option maxRecDepth 100000 in
set_option maxHeartbeats 2000000 in
theorem tokens_in (s : ByteArray) (hs : s.size ≤ 1000000000) (w : World) (C : Rd) (hg : Gok C) (hsub : Sub C w.cell?) :
    CallsIn Fence.wide 5 Tryd.prog 15 #[.string s] w fun e W' => ∃ v, e = .returned v ∧ Below w.heap.size w W' ∧ (lexR s).rep ⟨plus C w W', [], []⟩ v ∧ RowOk s w W' v := by
  obtain ⟨i0, hi, hz0, hz1, hz2⟩ := info_parts info_tk
  refine callsIn_of_wp_marks Tryd.func15 rfl trivial ?_
  simp only [Tryd.ntmps15, List.size_toArray, List.length_cons, List.length_nil, Nat.reduceAdd, Nat.reduceSub, Array.replicate_succ, Array.replicate_zero, List.push_toArray, List.append_toArray, List.nil_append, List.cons_append]
  obtain ⟨W0, hW0⟩ : ∃ W0, W0 = (((w.alloc (.cells #[.slice none 0 0] 31)).alloc (.cells #[.int .i64 0] 3)).alloc (.cells #[.int .i64 0] 32)).alloc (.cells #[.slice none 0 0] 31) := ⟨_, rfl⟩
  have hsub0 : Sub C W0.cell? := fun ad u hc => by
    have h1 := hsub ad u hc
    rw [hW0]
    exact cell_alloc_ok _ (cell_alloc_ok _ (cell_alloc_ok _ (cell_alloc_ok _ h1)))
  have hF : Fence.wide.fn 20 := trivial
  gi_wp2_with (gi_at_call 20; rw [← hW0]; refine (scan_in s hs _ W0 C hg hsub0).mono ?_; rintro e w2 ⟨us, rfl, hk, hus⟩)
  have hsz0 : W0.heap.size = w.heap.size + 1 + 1 + 1 + 1 := by rw [hW0]; simp
  have hB2 : Below w.heap.size w w2 := by
    have : Below w.heap.size w W0 := by
      rw [hW0]
      exact ((((Below.refl _ w).alloc (Nat.le_refl _) _).alloc (by simp) _).alloc (by simp; omega) _).alloc (by simp; omega) _
    exact this.trans ((Keeps.ext hk).mono (by omega))
  have bx2 : Boxed w2 w.heap.size 31 (.slice none 0 0) := (hk.block _ (by omega) (by simp)).trans (by rw [hW0]; exact (((Boxed.new w _ _).alloc _).alloc _).alloc _)
  have bx3 : Boxed w2 (w.heap.size + 1) 3 (.int .i64 0) := (hk.block _ (by omega) (by simp)).trans (by rw [hW0]; have := Boxed.new (w.alloc (.cells #[.slice none 0 0] 31)) 3 (.int .i64 0); rw [World.size_alloc] at this; exact (this.alloc _).alloc _)
  have bx4 : Boxed w2 (w.heap.size + 1 + 1) 32 (.int .i64 0) := (hk.block _ (by omega) (by simp)).trans (by rw [hW0]; have := Boxed.new ((w.alloc (.cells #[.slice none 0 0] 31)).alloc (.cells #[.int .i64 0] 3)) 32 (.int .i64 0); rw [World.size_alloc, World.size_alloc] at this; exact this.alloc _)
  have bx5 : Boxed w2 (w.heap.size + 1 + 1 + 1) 31 (.slice none 0 0) := (hk.block _ (by omega) (by simp)).trans (by rw [hW0]; have := Boxed.new (((w.alloc (.cells #[.slice none 0 0] 31)).alloc (.cells #[.int .i64 0] 3)).alloc (.cells #[.int .i64 0] 32)) 31 (.slice none 0 0); rw [World.size_alloc, World.size_alloc, World.size_alloc] at this; exact this)
  have hown : ∀ b, ownB (w.heap.size + 1 + 1 + 1) w2 b → b = w.heap.size + 1 + 1 + 1 := by
    rintro b (e | ⟨a, l, c, h1, h2⟩)
    · exact e
    · rw [bx5.cell] at h1; cases h1
  have hval : ValB (w.heap.size + 1 + 1 + 1) w2 := ⟨⟨_, bx5, rfl⟩, fun b hb => by have := hown b hb; have := hk.size; omega⟩
  have hplus : Sub C (plus C W0 w2) := fun ad u hc => by
    unfold plus
    rw [if_pos (World.block_lt_of_cell? W0 ad (hsub0 ad u hc))]
    exact hc
  have hseq := scan1_stops s hs (5 - 1) (w.heap.size + 1 + 1 + 1) us w2 (plus C W0 w2) hval (plus_sub hsub0 (Y := []) (fun b hb => by simp at hb) hk) (hg.mono hplus) (fun ad u hc ho => by
    have e := hown _ ho
    unfold plus at hc
    rw [if_pos (by omega)] at hc
    have := World.block_lt_of_cell? w ad (hsub ad u hc)
    omega) hus
  refine wpIn_rangeFunc_ownH rfl (by decide) (gf := 26) (lb := us) rfl trivial (enters_of Tryd.func26 (by kernel_rfl) rfl) hseq (fun h k => h.trans k) (fun W l o o' _ h1 h2 _ => KpB.put W l o o' h1 h2) (Below.refl _ _) (fun _ => rfl)
    (TokI w) (TokX w) (tokI_own w _ hB2.size) (fun c => tokX_own w _ hB2.size c) ⟨by simp, bx2, bx3, bx4, ⟨_, bx5, World.ownsRow_nil _ _ _ _⟩, hB2⟩ (TokA s us w) (fun x a' => tokA_own s us w x a' _) ?assign ?body ?done ?stop
  case assign =>
    rintro l pre ⟨tk, xp0, xe0⟩ W K hI hK
    simp only [encIt, tokV]
    simp only [TokA, tokT] at hK
    generalize clP xp0 = xp at *
    generalize clE xe0 = xe at *
    gi_wp2
    refine hK _ _ (((KeepsOthers.alloc W _).trans (KeepsOthers.alloc _ _)).from _) (KpB.keeps ((Keeps.alloc W _).trans (Keeps.alloc _ _))) ((tokI_own w _ (Nat.le_refl _)).alloc _ ((tokI_own w _ (Nat.le_refl _)).alloc _ hI)) ⟨_, _, rfl, ?_, ?_⟩
    · exact (Below.heap_alloc _ _ _ (by simp)).trans (World.alloc_heap_new W _)
    · have := World.alloc_heap_new (W.alloc (.cells (tkV tk).toArray 36)) (.cells #[.int .i64 xp, .int .i64 xe] 54)
      rw [World.size_alloc] at this
      exact this
  case body =>
    rintro l pre ⟨tk, xp0, xe0⟩ a' W hBl hrec ⟨hpre, c2, c3, c4, ⟨y, c5, hrow⟩, hB⟩ ⟨b6, b7, rfl, hb6, hb7⟩ hlt
    have hcy := c5.cell
    simp only [tokT, tokV, tkV] at hb6 hb7 ⊢
    have hxpr := clP_rng xp0
    have hxer := clE_rng xe0
    obtain ⟨xp, hxp⟩ : ∃ xp, xp = clP xp0 := ⟨_, rfl⟩
    obtain ⟨xe, hxe0⟩ : ∃ xe, xe = clE xe0 := ⟨_, rfl⟩
    rw [← hxp] at hb7 hxpr ⊢
    rw [← hxe0] at hb7 hxer ⊢
    have d70 : W.cell? ⟨b7, 0, none⟩ = some (.int .i64 xp) := by simp [World.cell?, hb7]
    have d71 : W.cell? ⟨b7, 1, none⟩ = some (.int .i64 xe) := by simp [World.cell?, hb7]
    have d60 : W.cell? ⟨b6, 0, none⟩ = some (.int .i64 tk.kind) := by simp [World.cell?, hb6]
    have d61 : W.cell? ⟨b6, 1, none⟩ = some (.int .i64 tk.pos) := by simp [World.cell?, hb6]
    have d62 : W.cell? ⟨b6, 2, none⟩ = some (.string tk.text) := by simp [World.cell?, hb6]
    have d63 : W.cell? ⟨b6, 3, none⟩ = some (.int .i64 tk.n) := by simp [World.cell?, hb6]
    have hmL : pre.length + 1 ≤ maxLen := by unfold maxLen; omega
    have hrow' := hrow.alloc (.cells #[.int .i64 tk.kind, .int .i64 tk.pos, .string tk.text, .int .i64 tk.n] 36)
    have hBs := hB.size
    by_cases hxe : xe = 0
    · rw [hxe] at hxe0 hb7 d71 ⊢
      gi_wp2_with (gi_at_builtin; refine wpListIn_append_any _ rfl _ _ 31 rfl w.heap.size 36 i0 _ 4 40 Tryd.underlying31 hi hz0 hz1 hz2 rfl (by decide) y pre.length (tksV (pre.map It.tok)) rfl hrow' ⟨W.heap.size, 0, none⟩ 1 1 (tkV tk) rfl rfl (cells4_new _ _ _ _ _ _) (by simp [Value.oneCell', tkV]) hmL (by omega) (by simp; omega) ?_; intro v' w1 hown' hgrow hwhere; obtain ⟨g', cap', rfl⟩ := ownsRow_succ hown'; obtain ⟨hv1, hv2, hr2, hk2, hb2⟩ := c5.appended (by decide) hrow hB.size (by omega) hown' hgrow; have hc1 := hv1.cell; have hf1 := hv1.frozen)
      have keep : ∀ {b T v}, Boxed W b T v → T ≠ 36 → b ≠ w.heap.size + 1 + 1 + 1 → Boxed (w1.setCell ⟨w.heap.size + 1 + 1 + 1, 0, none⟩ (.slice (some ⟨g', 0, none⟩) (pre.length + 1) cap')) b T v := fun h hT hb =>
        ((h.alloc _).kept hgrow (h.not_row hT hrow)).kept (grownBy_setCell' _ _ _) (fun e => hb (by cases e; rfl))
      refine ⟨hk2.from _, kp_append c5 hrow hgrow hwhere hv2 hr2, fun x hx => ?_, keep c2 (by decide) (by omega), keep c3 (by decide) (by omega), keep c4 (by decide) (by omega), ⟨_, hv2, ?_⟩, hB.trans hb2⟩
      · rcases List.mem_append.1 hx with hx | hx
        · exact hpre x hx
        · obtain rfl : x = ⟨tk, xp0, xe0⟩ := by simpa using hx
          exact hxe0.symm
      · have : tksV ((pre ++ [(⟨tk, xp0, xe0⟩ : It)]).map It.tok) = tksV (pre.map It.tok) ++ tkV tk := by simp [tksV]
        rw [this, List.length_append]
        exact hr2
    · gi_wp2
      rename_i K1 hK1 hb1 K2 hK2
      have hc : (Cx.mk Tryd.prog tab ord15 (fun _ => [0, 1, 2]) 3).ok := cx_ok ord15 (fun _ => [0, 1, 2]) 3
      obtain ⟨C0, hC0⟩ : ∃ C0 : Rd, C0 = fun ad => if ad.block = b7 then W.cell? ad else C ad := ⟨_, rfl⟩
      have hsubW : Sub C W.cell? := fun ad u h => (hB.cell (World.block_lt_of_cell? w ad (hsub ad u h))).trans (hsub ad u h)
      have hs0 : Sub C0 W.cell? := fun ad u h => by
        rw [hC0] at h
        simp only at h
        split at h
        · exact h
        · exact hsubW ad u h
      have hC : Sub C C0 := fun ad u h => by
        rw [hC0]
        simp only
        split
        · exact hsubW ad u h
        · exact h
      have hne : ∀ {b T v}, Boxed W b T v → T ≠ 54 → b ≠ b7 := fun h hT e => by
        rw [e] at h
        have := h.symm.trans hb7
        simp only [Option.some.injEq, Obj.cells.injEq] at this
        exact hT this.2.1
      have hnone : ∀ b, b ≠ b7 → w.heap.size ≤ b → ∀ o sp, C0 ⟨b, o, sp⟩ = none := fun b hb hw o sp => by
        rw [hC0]
        simp only [if_neg hb]
        cases h : C ⟨b, o, sp⟩ with
        | none => rfl
        | some u =>
          have : b < w.heap.size := World.block_lt_of_cell? w _ (hsub _ u h)
          omega
      have hpp : (A.pp [.v (.int .i64 xp), .v (.int .i64 xe)]).rep ⟨C0, [w.heap.size, w.heap.size + 1, w.heap.size + 1 + 1], []⟩ (.pointer (some ⟨b7, 0, none⟩)) := by
        unfold A.rep
        refine ⟨b7, 0, rfl, ⟨.int .i64 xp, ?_, rfl, A.rep_v (okV_int.2 (i64r (by omega)))⟩, ⟨.int .i64 xe, ?_, rfl, A.rep_v (okV_int.2 (i64r (by omega)))⟩, trivial⟩
        · rw [hC0]; exact (if_pos rfl).trans d70
        · rw [hC0]; exact (if_pos rfl).trans d71
      have hinv := fun (a : Act) ht hd => inv_at (a := a) (C0 := C0) (W := W) (β := [w.heap.size, w.heap.size + 1, w.heap.size + 1 + 1]) (bx := [[.v (.slice none 0 0)], [.v (.int .i64 0)], [.v (.int .i64 0)]]) (t := [.dead, .dead, .box 0 0, .box 1 0, .box 2 0, .dead, .dead, .pp [.v (.int .i64 xp), .v (.int .i64 xe)], .dead, .dead, .dead, .dead, .dead, .dead, .dead, .dead, .dead, .dead, .dead, .dead, .dead, .dead, .dead, .dead, .dead, .dead, .dead, .dead, .dead]) (hg.mono hC) hs0 (by simp; omega) (fun b hb => by
          simp only [List.mem_cons, List.not_mem_nil, or_false] at hb
          rcases hb with rfl | rfl | rfl
          · exact hnone _ (hne c2 (by decide)) (by omega)
          · exact hnone _ (hne c3 (by decide)) (by omega)
          · exact hnone _ (hne c4 (by decide)) (by omega)) rfl (fun i b cs h1 h2 => by
          match i, h1, h2 with
          | 0, h1, h2 => cases h1; cases h2; exact box_one c2 trivial
          | 1, h1, h2 => cases h1; cases h2; exact box_one c3 (okV_int.2 (i64r (by omega)))
          | 2, h1, h2 => cases h1; cases h2; exact box_one c4 (okV_int.2 (i64r (by omega)))
          | n + 3, h1, h2 => simp at h1) ht hd
      refine region_in hc (hinv _ ?_ ?_) rfl (by kernel_rfl) rfl ?_
      · exact ⟨_, _, rfl, A.rep_dead _ _, _, _, rfl, A.rep_dead _ _, _, _, rfl, (by unfold A.rep; exact ⟨_, rfl, rfl⟩), _, _, rfl, (by unfold A.rep; exact ⟨_, rfl, rfl⟩), _, _, rfl, (by unfold A.rep; exact ⟨_, rfl, rfl⟩), _, _, rfl, A.rep_dead _ _, _, _, rfl, A.rep_dead _ _, _, _, rfl, hpp, _, _, rfl, A.rep_dead _ _, _, _, rfl, A.rep_dead _ _, _, _, rfl, A.rep_dead _ _, _, _, rfl, A.rep_dead _ _, _, _, rfl, A.rep_dead _ _, _, _, rfl, A.rep_dead _ _, _, _, rfl, A.rep_dead _ _, _, _, rfl, A.rep_dead _ _, _, _, rfl, A.rep_dead _ _, _, _, rfl, A.rep_dead _ _, _, _, rfl, A.rep_dead _ _, _, _, rfl, A.rep_dead _ _, _, _, rfl, A.rep_dead _ _, _, _, rfl, A.rep_dead _ _, _, _, rfl, A.rep_dead _ _, _, _, rfl, A.rep_dead _ _, _, _, rfl, A.rep_dead _ _, _, _, rfl, A.rep_dead _ _, _, _, rfl, A.rep_dead _ _, _, _, rfl, A.rep_dead _ _, _, _, rfl, A.rep_dead _ _, rfl⟩
      · rfl
      conv => whnf
      refine ⟨rfl, fun a9 w9 hi9 => hK2 _ _ (wpIn_ret ?_)⟩
      have h90 := box_cell hi9 (i := 0) rfl rfl
      have h91 := box_cell hi9 (i := 1) rfl rfl
      have h92 := box_cell hi9 (i := 2) rfl rfl
      have hk9 : Keeps [w.heap.size, w.heap.size + 1, w.heap.size + 1 + 1] W w9 := by obtain ⟨E, hp, _, _⟩ := hi9; exact hp.keep
      refine ⟨⟨hk9.size, fun b o hb h1 h2 => (hk9.block b (heap_lt h1) fun hm => ?_).trans h1⟩, rfl, pre, _, rfl, by rw [← hxe0]; exact hxe, h90, by rw [← hxp]; exact h91, by rw [← hxe0]; exact h92, hB.trans ⟨hk9.os, hk9.tape, hk9.output, hk9.size, fun b hb => hk9.block b (by omega) fun hm => ?_⟩⟩
      · have hnc : ∀ {T v}, Boxed W b T v → False := fun h => by
          have := h.symm.trans h1
          cases this
          cases h2
        simp only [List.mem_cons, List.not_mem_nil, or_false] at hm
        rcases hm with rfl | rfl | rfl
        · exact hnc c2
        · exact hnc c3
        · exact hnc c4
      · simp only [List.mem_cons, List.not_mem_nil, or_false] at hm
        omega
  case done =>
    rintro D ys W hD hS ⟨hpre, c2, c3, c4, ⟨y, c5, hrow⟩, hB⟩ hK
    have hcy := c5.cell
    have hc2 := c2.cell
    have hc3 := c3.cell
    have hc4 := c4.cell
    have hf2 := c2.frozen
    have hf3 := c3.frozen
    have hf4 := c4.frozen
    have hrow' := hrow.alloc (.cells #[.int .i64 0, .int .i64 s.size, .string ⟨#[]⟩, .int .i64 0] 36)
    have hBs := hB.size
    obtain ⟨herr, hys⟩ := all_ok hS hpre
    have hyl : ys.length ≤ s.size := by
      rw [hys, List.length_map]
      have := (lexG_ok (s.data.toList.length + 1) 0 s.data.toList).1
      have hsl := size_len s
      exact Nat.le_trans this (by omega)
    have hmL : ys.length + 1 ≤ maxLen := by unfold maxLen; omega
    clear hcy hc2 hc3 hc4 hf2 hf3 hf4
    have hcy := c5.cell
    gi_wp2_with (gi_at_builtin; refine wpListIn_append_any _ rfl _ _ 31 rfl w.heap.size 36 i0 _ 4 40 Tryd.underlying31 hi hz0 hz1 hz2 rfl (by decide) y ys.length (tksV (ys.map It.tok)) rfl hrow' ⟨W.heap.size, 0, none⟩ 1 1 (tkV (endTk s)) rfl rfl (cells4_new _ _ _ _ _ _) (by simp [Value.oneCell', tkV]) hmL (by omega) (by simp; omega) ?_; intro v' w1 hown' hgrow hwhere; obtain ⟨g', cap', rfl⟩ := ownsRow_succ hown'; have k2 := (c2.alloc _).kept hgrow (c2.not_row (by decide) hrow); have k3 := (c3.alloc _).kept hgrow (c3.not_row (by decide) hrow); have k4 := (c4.alloc _).kept hgrow (c4.not_row (by decide) hrow); have hc2 := k2.cell; have hc3 := k3.cell; have hc4 := k4.cell; have hf2 := k2.frozen; have hf3 := k3.frozen; have hf4 := k4.frozen)
    have n25 : w.heap.size ≠ w.heap.size + 1 := by omega
    have hkD : w1.heap[D]? = some (.deferred (some [])) := by
      refine (hgrow.block D ?_ fun e => ?_).trans ((Below.heap_alloc _ _ _ (heap_lt hK)).trans hK)
      · have := heap_lt hK
        rw [World.size_alloc]
        omega
      · rcases hrow.2 with ⟨rfl, _⟩ | ⟨g, cap, cur, rfl, _, hgb, _⟩
        · simp [Value.ownBlock] at e
        · obtain rfl : D = g := by simpa [Value.ownBlock] using e
          rw [hK] at hgb
          cases hgb
    have hB1 : Below w.heap.size W w1 := by
      refine ((Below.refl w.heap.size W).alloc hBs _).grown hgrow (by simp; omega) fun j ej => ?_
      rcases hrow.2 with ⟨rfl, _⟩ | ⟨g, cap, cur, rfl, hb, _, _⟩
      · simp [Value.ownBlock] at ej
      · obtain rfl : g = j := by simpa [Value.ownBlock] using ej
        exact hb
    have e1 : w.heap.size ≠ w.heap.size + 1 := by omega
    have e2 : w.heap.size ≠ w.heap.size + 1 + 1 := by omega
    have e3 : w.heap.size + 1 ≠ w.heap.size + 1 + 1 := by omega
    have hyn : ys.length = (lexF' s).toks.length := by rw [hys, List.length_map]
    rw [hyn] at hown'
    generalize hv' : Value.slice (some ⟨g', 0, none⟩) ((lexF' s).toks.length + 1) cap' = v' at *
    have o1 := hown'.kept (grownBy_setCell' w1 w.heap.size v') (.inr (k2.not_row (by decide) hown').symm)
    have k3a := k3.other e1.symm v'
    have o2 := o1.kept (grownBy_setCell' _ (w.heap.size + 1) (.int .i64 0)) (.inr (k3a.not_row (by decide) o1).symm)
    have k4b := (k4.other e2.symm v').other e3.symm (.int .i64 0)
    have o3 := o2.kept (grownBy_setCell' _ (w.heap.size + 1 + 1) (.int .i64 0)) (.inr (k4b.not_row (by decide) o2).symm)
    have x2 := ((k2.set v').other e1 (.int .i64 0)).other e2 (.int .i64 0)
    have x3 := (k3a.set (.int .i64 0)).other e3 (.int .i64 0)
    have x4 := k4b.set (.int .i64 0)
    have hB3 := ((hB1.setCell (p := ⟨w.heap.size, 0, none⟩) (Nat.le_refl _) v').setCell (p := ⟨w.heap.size + 1, 0, none⟩) (by simp) (.int .i64 0)).setCell (p := ⟨w.heap.size + 1 + 1, 0, none⟩) (by simp; omega) (.int .i64 0)
    have hDl : w.heap.size + 1 + 1 + 1 < D := by have := hk.size; omega
    have hD3 := (Below.heap_setCell _ ⟨w.heap.size + 1 + 1, 0, none⟩ (.int .i64 0) D (by simp; omega)).trans ((Below.heap_setCell _ ⟨w.heap.size + 1, 0, none⟩ (.int .i64 0) D (by simp; omega)).trans ((Below.heap_setCell _ ⟨w.heap.size, 0, none⟩ v' D (by simp; omega)).trans hkD))
    generalize ((w1.setCell ⟨w.heap.size, 0, none⟩ v').setCell ⟨w.heap.size + 1, 0, none⟩ (.int .i64 0)).setCell ⟨w.heap.size + 1 + 1, 0, none⟩ (.int .i64 0) = W3 at *
    refine ⟨by simp, .inl ⟨_, _, rfl, run_takeDeferred hD3, ?_⟩⟩
    have hg3 := grownBy_putObj' W3 D (.deferred none)
    have hr3 : ∀ r, some D = some r → ∃ o : Obj, W3.heap[r]? = some o ∧ o.isCells = false := fun r e => by cases e; exact ⟨_, hD3, rfl⟩
    have y2 := cell_kept x2.cell hg3 hr3
    have y3 := cell_kept x3.cell hg3 hr3
    have y4 := cell_kept x4.cell hg3 hr3
    have o4 := ownsRow_putObj o3 (.deferred none) hD3 rfl
    have hB4 := (hB.trans hB3).trans (belowK_b (w := w) (Nat.le_refl _) W3 D _ (.deferred none) (by omega) hD3 rfl rfl)
    generalize W3.putObj D (.deferred none) = W4 at *
    refine ⟨.tuple #[v', .int .i64 0, .int .i64 0], results3 tab_ok rfl rfl rfl rfl rfl rfl rfl rfl rfl rfl y2 y3 y4, _, rfl, hB4, ?_⟩
    have hxs0 : ys.map It.tok = (lexF' s).toks := by rw [hys, List.map_map]; exact List.map_id'' (fun _ => rfl) _
    refine and_row ?_ ⟨⟨v', by unfold rowP; rw [herr], by rw [rowT_none herr, List.length_append, List.length_singleton]; rw [hxs0] at o4; rw [show tksV ((lexF' s).toks ++ [endTk s]) = tksV (lexF' s).toks ++ tkV (endTk s) by simp [tksV]]; exact o4⟩⟩
    have hlx : lexR s = .tup [.sl 4 ((lexF' s).toks.length + 1) (tksL (lexF' s).toks ++ tkL (endTk s)), intA 0, intA 0] := by unfold lexR; rw [herr]; simp [tksL]
    rw [hlx]
    unfold A.rep
    refine ⟨_, rfl, _, _, rfl, ?_, _, _, rfl, A.rep_v (okV_int.2 (i64r (by omega))), _, _, rfl, A.rep_v (okV_int.2 (i64r (by omega))), rfl⟩
    have hxs : ys.map It.tok = (lexF' s).toks := by rw [hys, List.map_map]; exact List.map_id'' (fun _ => rfl) _
    have hsl := size_len s
    have htl : ∀ l : List Tk, (tksL l).length = l.length * 4 := fun l => by
      induction l with
      | nil => rfl
      | cons t l ih => rw [show tksL (t :: l) = tkL t ++ tksL l from rfl, List.length_append, ih, List.length_cons]; simp only [tkL, List.length_cons, List.length_nil]; omega
    rw [hxs] at o4
    rcases o4.2 with ⟨h, _⟩ | ⟨g, cap, cur, hv4, hbg, hgb, hnc, hcm, hcs, htk⟩
    · rw [← hv'] at h
      cases h
    · unfold A.rep
      refine ⟨by rw [List.length_append, htl]; simp only [tkL, List.length_cons, List.length_nil]; omega, by rw [hyn] at hmL; exact hmL, some ⟨g, 0, none⟩, g, 0, cap, hv4, hnc, .inr rfl, (fun e => by simp at e), ?_⟩
      refine A.repAt_mk (A.repC_append (tks_rep (lexG_tk _ _ _ (by omega))) (tk_rep (.inr ⟨rfl, by show s.size ≤ _; omega, rfl, rfl⟩))) fun j u hj => ?_
      show plus C w W4 ⟨g, 0 + j, none⟩ = some u
      rw [plus_new hbg, Nat.zero_add]
      simp only [World.cell?, hgb]
      have hj2 : (tksV (lexF' s).toks ++ tkV (endTk s))[j]? = some u := hj
      rw [← htk, List.getElem?_take] at hj2
      split at hj2
      · simpa using hj2
      · cases hj2
  case stop =>
    rintro D c pre W hD hSp ⟨rfl, q, x, rfl, hx, h2, h3, h4, hB⟩ hK
    obtain ⟨herr, hxp, hxe⟩ := some_bad hs hSp hx
    gi_wp2
    refine ⟨by simp, .inl ⟨_, _, rfl, run_takeDeferred hK, ?_⟩⟩
    have hg3 := grownBy_putObj' W D (.deferred none)
    have hr3 : ∀ r, some D = some r → ∃ o : Obj, W.heap[r]? = some o ∧ o.isCells = false := fun r e => by cases e; exact ⟨_, hK, rfl⟩
    have g2 := cell_kept h2 hg3 hr3
    have g3 := cell_kept h3 hg3 hr3
    have g4 := cell_kept h4 hg3 hr3
    refine ⟨.tuple #[.slice none 0 0, .int .i64 (clP x.pos : Nat), .int .i64 (clE x.err)], ?_, _, rfl, hB.trans (belowK_b (w := w) (Nat.le_refl _) W D _ _ (by have := hB2.size; omega) hK rfl rfl), ?_⟩
    · exact results3 tab_ok rfl rfl rfl rfl rfl rfl rfl rfl rfl rfl g2 g3 g4
    · refine and_row ?_ ⟨⟨.slice none 0 0, by unfold rowP; rw [herr, hxp, hxe], by rw [rowT_some herr]; exact World.ownsRow_nil _ _ _ _⟩⟩
      have hlx : lexR s = .tup [.v (.slice none 0 0), intA x.pos, intA x.err] := by unfold lexR; rw [herr]
      have hr1 := clP_rng x.pos
      have hr2 := clE_rng x.err
      rw [hlx, hxp, hxe]
      rw [hxp] at hr1
      rw [hxe] at hr2
      unfold A.rep
      exact ⟨_, rfl, _, _, rfl, A.rep_v trivial, _, _, rfl, A.rep_v (okV_int.2 (i64r (by omega))), _, _, rfl, A.rep_v (okV_int.2 (i64r (by omega))), rfl⟩
theorem tokens_spec (s : ByteArray) (hs : s.size ≤ 1000000000) : Spec Tryd.prog 15 [] [.v (.string s)] fun _ r => r = lexR s := by
  refine spec_ext (call_of Tryd.func15 rfl (by kernel_rfl)) fun w C vals hg hsub hv => ?_
  obtain ⟨u, us, rfl, h1, h2⟩ := hv
  have e1 := (A.rep_v_iff.1 h1).1
  obtain rfl : us = [] := h2
  subst e1
  refine (callsIn_wide.1 (tokens_in s hs w C hg hsub)).mono ?_
  rintro e w' ⟨v, rfl, hB, hr, _⟩
  exact ⟨v, rfl, hB, hr⟩
theorem rowT_ok (s : ByteArray) (hs : s.size ≤ 1000000000) : ∀ t ∈ rowT s, tkOk t ∨ t.kind = 0 ∧ t.pos ≤ 1000000000 ∧ t.text.size = 0 ∧ t.n = 0 := fun t ht => by
  cases he : (lexF' s).err with
  | some p => rw [rowT_some he] at ht; cases ht
  | none =>
    rw [rowT_none he] at ht
    rcases List.mem_append.1 ht with h | h
    · exact .inl (lexG_tk _ _ _ (by have := size_len s; omega) t h)
    · obtain rfl := List.mem_singleton.1 h
      exact .inr ⟨rfl, hs, rfl, rfl⟩
theorem tks_rep' {E : Env} : ∀ {l : List Tk}, (∀ t ∈ l, tkOk t ∨ t.kind = 0 ∧ t.pos ≤ 1000000000 ∧ t.text.size = 0 ∧ t.n = 0) → A.repC (tksL l) E (tksV l)
  | [], _ => by simp [tksL, tksV, A.repC]
  | t :: l, h => by
    have e1 : tksL (t :: l) = tkL t ++ tksL l := rfl
    have e2 : tksV (t :: l) = tkV t ++ tksV l := rfl
    rw [e1, e2]
    exact A.repC_append (tk_rep (h t (by simp))) (tks_rep' fun x hx => h x (by simp [hx]))
theorem tokens_specF (s : ByteArray) (hs : s.size ≤ 1000000000) : SpecF Tryd.prog 15 [.v (.string s)] fun e k n cs r => e = 36 ∧ k = 4 ∧ n = (rowT s).length ∧ cs = tksL (rowT s) ∧ r = .tup [.own 0, .v (.int .i64 (rowP s).1), .v (.int .i64 (rowP s).2)] := by
  refine ⟨call_of Tryd.func15 rfl (by kernel_rfl), fun w C vals hg hsub hv => ?_⟩
  obtain ⟨u, us, rfl, h1, h2⟩ := hv
  have e1 := (A.rep_v_iff.1 h1).1
  obtain rfl : us = [] := h2
  subst e1
  refine (callsIn_wide.1 (tokens_in s hs w C hg hsub)).mono ?_
  rintro e w' ⟨v, rfl, hB, hr, ⟨y, rfl, ho⟩⟩
  have hp : okV (.int .i64 (rowP s).1) ∧ okV (.int .i64 (rowP s).2) := by
    cases herr : (lexF' s).err with
    | none =>
      have : rowP s = (0, 0) := by unfold rowP; rw [herr]
      rw [this]
      exact ⟨okV_int.2 (i64r (by omega)), okV_int.2 (i64r (by omega))⟩
    | some pe =>
      have e2 : rowP s = ((pe.1 : Int), pe.2) := by unfold rowP; rw [herr]
      have hlx : lexR s = .tup [.v (.slice none 0 0), intA pe.1, intA pe.2] := by unfold lexR; rw [herr]
      rw [hlx] at hr
      unfold A.rep at hr
      obtain ⟨us, k1, k2⟩ := hr
      unfold A.repL at k2
      obtain ⟨_, _, e3, _, k2⟩ := k2
      unfold A.repL at k2
      obtain ⟨_, _, e4, k4, k2⟩ := k2
      unfold A.repL at k2
      obtain ⟨_, _, e5, k5, k2⟩ := k2
      rw [e2]
      exact ⟨(A.rep_v_iff.1 k4).2, (A.rep_v_iff.1 k5).2⟩
  refine ⟨_, _, _, _, _, _, y, tksV (rowT s), fun ad => if y.ownBlock = some ad.block then none else C ad, rfl, ⟨rfl, rfl, rfl, rfl, rfl⟩, Keeps.of_ext hB, fun ad u hc => ?_, fun ad u hc => ?_, fun ad u hc => ?_, fun b hb o sp => ?_, ho, tks_rep' (rowT_ok s hs), ?_⟩
  · have hlt := World.block_lt_of_cell? w ad (hsub ad u hc)
    simp only
    rw [if_neg (fun hb => by have := (ho.lt _ hb).1; omega)]
    exact hc
  · simp only at hc
    split at hc
    · cases hc
    · exact (Keeps.of_ext hB).cell (hsub ad u hc) (by simp)
  · simp only at hc
    split at hc
    · cases hc
    · exact .inl hc
  · simp only
    rw [if_pos hb]
  · unfold A.rep
    exact ⟨_, rfl, repL_cons (by unfold A.rep; rfl) (repL_cons (A.rep_v hp.1) (repL_cons (A.rep_v hp.2) (by simp [A.repL])))⟩
end Go.Proofs.YthaccjcadgodlaaDoor.Vm
