/- The small functions of the generators: Around, Ints, next, Name, pick. -/
import Derived.Test.YtlmdmmikocbmlaaRows
import Derived.Test.YtlmdmmikocbmlaaBase
import Derived.Deep.QuietTactic
import Derived.BigQuiet
import Derived.Deep.RegionHeld3
namespace Go.Proofs.Ytlmdmmikocbmlaa
open Go.RowKit
set_option linter.unusedSimpArgs false
set_option linter.unusedVariables false

theorem around_neg (n m : Int) (hn : n < 0) (hm : 1 ≤ m) : 0 ≤ -((n + 1).tmod m) ∧ -((n + 1).tmod m) < m := by
  have h : 0 ≤ -(n + 1) := by omega
  rw [← Int.neg_tmod, Int.tmod_eq_emod_of_nonneg h]
  exact ⟨Int.emod_nonneg _ (by omega), Int.emod_lt_of_pos _ (by omega)⟩
/-- What Around computes. -/
def aroundF (n m : Int) : Int := if n < 0 then -((n + 1).tmod m) else n % m
theorem aroundF_rng (n m : Int) (hm : 1 ≤ m) : 0 ≤ aroundF n m ∧ aroundF n m < m := by
  unfold aroundF
  by_cases h : n < 0
  · rw [if_pos h]; exact around_neg n m h hm
  · rw [if_neg h]; exact ⟨Int.emod_nonneg _ (by omega), Int.emod_lt_of_pos _ (by omega)⟩
theorem around_any (n m : Int) (w : World) (hn : -9223372036854775808 ≤ n) (hn2 : n ≤ 9223372036854775807) (hm : 1 ≤ m) (hm2 : m ≤ 9223372036854775807) :
    Calls Try.prog 18 #[.int .i64 n, .int .i64 m] w fun e w' => e = .returned (.int .i64 (aroundF n m)) ∧ w = w' := by
  by_cases hneg : n < 0
  · go_enter Try.func18, Try.ntmps18
    go_wp2
    go_ret
    exact ⟨ret_int (by unfold aroundF; rw [if_pos hneg]), rfl⟩
  · go_enter Try.func18, Try.ntmps18
    go_wp2
    go_ret
    exact ⟨ret_int (by unfold aroundF; rw [if_neg (by omega)]), rfl⟩

/-- A callee that leaves the world alone, in a region that draws behind another. -/
theorem quietAfter {P : Program} {f : FuncId} {args : Array Value} {w : World} {a n : Nat} {v : Value}
    (h : Calls P f args (w.drewN (a + n)) fun e w' => e = .returned v ∧ w.drewN (a + n) = w') :
    Calls P f args (w.drewN (a + n)) fun e w'' => e = .returned v ∧ ∃ m, w'' = w.drewN (a + m) :=
  h.mono fun _ _ ⟨he, hm⟩ => ⟨he, n, hm.symm⟩
/-- Ints: a copy of the first elements. -/
def IntsR (w : World) (k : Nat) (e : Ending) (w' : World) : Prop := ∃ v l, e = .returned v ∧ Ext w w' ∧ IntsAt (fromC w.heap.size w') v l ∧ l.length ≤ k
theorem info_int : (Try.prog.info? 3).map (fun i => (i.zero, i.size, i.bytes)) = some (some (.int .i64 0), 1, 8) := by kernel_rfl
theorem under_ints : Try.prog.underlying 22 = some (.slice 3) := by kernel_rfl
theorem ints_of_own {w w' : World} {base : Nat} {l : List Int} {v' : Value} (n : Nat) (hn : n ≤ l.length) (h1 : n ≤ 1000000000) (h2 : ∀ n ∈ l, -9223372036854775808 ≤ n ∧ n ≤ 9223372036854775807) (hb : base = w.heap.size)
    (h : w'.ownsRow base 3 1 v' (0 + n) ([] ++ (l.take n).map (Value.int .i64))) (hg : w.grownBy w' none) (m : Nat) (hm : n ≤ m) : IntsR w m (.returned v') w' := by
  have e : (l.take n).length = n := by simp; omega
  have h0 : IntsAt w'.cell? v' (l.take n) := by
    refine IntsAt.of_own (base := base) (e := 3) ?_ (by simp; omega) (fun x hx => h2 x (List.mem_of_mem_take hx))
    rw [e]
    simpa using h
  obtain ⟨g1, g2, p, b, off, cap, rfl, g3, g4, g5, g6⟩ := h0
  refine ⟨_, l.take n, rfl, Ext.grown hg, ⟨g1, g2, p, b, off, cap, rfl, g3, g4, g5, fun i hi => ?_⟩, by simp; omega⟩
  rw [fromC_some]
  refine ⟨?_, g6 i hi⟩
  rcases g4 with g4 | g4
  · rw [g4] at hi; simp at hi
  · subst g4
    have := (h.lt b rfl).1
    show w.heap.size ≤ b
    omega
/-- The same reading for a row that came in, of any length. -/
def IntsIn (C : Rd) (v : Value) (l : List Int) : Prop :=
  l.length ≤ 9223372036854775807 ∧ (∀ n ∈ l, -9223372036854775808 ≤ n ∧ n ≤ 9223372036854775807) ∧ ∃ p b off cap, v = .slice p l.length cap ∧ l.length ≤ cap ∧ (l = [] ∨ p = some ⟨b, off, none⟩) ∧ (p = none → cap = 0) ∧
    ∀ i, i < l.length → C ⟨b, off + i, none⟩ = some (.int .i64 (l.getD i 0))
theorem IntsIn.mono {C D : Rd} {v : Value} {l : List Int} (h : IntsIn C v l) (x : Sub C D) : IntsIn D v l := by
  obtain ⟨h1, h2, p, b, off, cap, hv, hc, hp, hn, hh⟩ := h
  exact ⟨h1, h2, p, b, off, cap, hv, hc, hp, hn, fun i hi => x _ _ (hh i hi)⟩
set_option maxHeartbeats 400000 in
theorem ints_any (v : Value) (l : List Int) (m : Nat) (hm : m ≤ 1000000000) (w : World) (h : IntsIn w.cell? v l) :
    Calls Try.prog 29 #[v, .int .i64 m] w (IntsR w m) := by
  obtain ⟨h1, h2, p, b, off, cap, rfl, hc, hp, hn, hh⟩ := h
  obtain ⟨i0, hi, hz0, hz1, hz2⟩ := info_parts info_int
  have h1' := fun n => one_ints (l.take n)
  have hp' := none_nil hp hn
  have hnews := ints_src hp hh
  by_cases hlt : l.length ≤ m
  · have hw := fun v' w' => ints_of_own (w := w) (w' := w') (base := w.heap.size) (v' := v') l.length (Nat.le_refl _) (by omega) h2 rfl
    have hl : ((l.take l.length).map (Value.int .i64)).length = l.length * 1 := by simp
    clear hp hn hh
    go_enter Try.func29, Try.ntmps29
    go_wp2_with (at_builtin; refine wpList_append_any _ rfl _ _ 22 rfl w.heap.size 3 i0 (.int .i64 0) 1 8 under_ints hi hz0 hz1 hz2 rfl (by decide) _ 0 [] rfl (World.ownsRow_nil _ _ _ _) p l.length cap _ rfl hl hp' (hnews _) (h1' _) (by unfold maxLen; omega) (by omega) (Nat.le_refl _) ?_; intro v' w' hown hgrow hwh)
    go_ret
    exact hw _ _ hown hgrow m (by omega)
  · have hw := fun v' w' => ints_of_own (w := w) (w' := w') (base := w.heap.size) (v' := v') m (by omega) (by omega) h2 rfl
    have hl : ((l.take m).map (Value.int .i64)).length = m * 1 := by simp; omega
    have hp2 : p = none → m = 0 ∧ cap = 0 := fun e => absurd (hp' e).1 (by omega)
    clear hp hn hh hp'
    go_enter Try.func29, Try.ntmps29
    go_wp2_with (at_builtin; refine wpList_append_any _ rfl _ _ 22 rfl w.heap.size 3 i0 (.int .i64 0) 1 8 under_ints hi hz0 hz1 hz2 rfl (by decide) _ 0 [] rfl (World.ownsRow_nil _ _ _ _) p m cap _ rfl hl hp2 (hnews _) (h1' _) (by unfold maxLen; omega) (by omega) (Nat.le_refl _) ?_; intro v' w' hown hgrow hwh)
    go_ret
    exact hw _ _ hown hgrow m (by omega)

/-- Where the numbers of a source lie. -/
structure LD where
  p : Option Addr
  d : Nat
  off : Nat
  cap : Nat
  l : List Int
  T : TypeId
/-- The source of numbers in block b: i of them are used. -/
structure Src (L : LD) (w : World) (b i : Nat) : Prop where
  blk : w.heap[b]? = some (.cells #[.slice L.p L.l.length L.cap, .int .i64 i] L.T (0, 0))
  ne : L.d ≠ b
  len : L.l.length ≤ 1000000000
  wf : ∀ n ∈ L.l, -9223372036854775808 ≤ n ∧ n ≤ 9223372036854775807
  p : L.l = [] ∨ L.p = some ⟨L.d, L.off, none⟩
  hh : ∀ j, j < L.l.length → w.cell? ⟨L.d, L.off + j, none⟩ = some (.int .i64 (L.l.getD j 0))
theorem Src.lt {L : LD} {w : World} {b i : Nat} (h : Src L w b i) : b < w.heap.size := (Array.getElem?_eq_some_iff.1 h.blk).1
theorem Src.dlt {L : LD} {w : World} {b i : Nat} (h : Src L w b i) : L.l = [] ∨ L.d < w.heap.size := by
  by_cases hl : L.l = []
  · exact .inl hl
  · have := World.block_lt_of_cell? w _ (h.hh 0 (by rcases hx : L.l with _ | ⟨a, t⟩; exact absurd hx hl; simp))
    exact .inr this
/-- Whatever leaves the source and its numbers alone. -/
theorem Src.kept {L : LD} {w w' : World} {b i : Nat} (h : Src L w b i) {r : Option Nat} (g : w.grownBy w' r) (hb : some b ≠ r) (hd : L.l = [] ∨ some L.d ≠ r) : Src L w' b i :=
  ⟨(g.block b h.lt hb).trans h.blk, h.ne, h.len, h.wf, h.p, fun j hj => by
    rcases hd with hd | hd
    · rw [hd] at hj; simp at hj
    · exact g.cell (h.hh j hj) hd⟩
theorem Src.alloc {L : LD} {w : World} {b i : Nat} (h : Src L w b i) (o : Obj) : Src L (w.alloc o) b i := h.kept (World.grownBy_alloc w o none) (by simp) (.inr (by simp))
/-- A call that takes numbers from the source: at most c of them. -/
def SRet (L : LD) (w : World) (b i c : Nat) (Φ : Value → World → Prop) (e : Ending) (w' : World) : Prop :=
  ∃ v i', e = .returned v ∧ w.grownBy w' (some b) ∧ Src L w' b i' ∧ i ≤ i' ∧ i' ≤ i + c ∧ Φ v w'
def RngV (m : Int) (v : Value) (_ : World) : Prop := ∃ r : Int, v = .int .i64 r ∧ 0 ≤ r ∧ r < m
theorem src_next {L : LD} {w : World} {b i : Nat} (h : Src L w b i)
    (nq : Nat) (r m : Int) (h0 : 0 ≤ r) (h1 : r < m) : SRet L w b i 1 (RngV m) (.returned (.int .i64 r)) ((w.setCell ⟨b, 1, none⟩ (.int .i64 ((i : Int) + 1))).drewN nq) := by
  refine ⟨_, i + 1, rfl, grown_drewN (grown_set _ _ _ _) _, ⟨?_, h.ne, h.len, h.wf, h.p, fun j hj => ?_⟩, by omega, by omega, r, rfl, h0, h1⟩
  · exact set_blk h.blk 1 _
  · have := grown_drewN (grown_set w b 1 (.int .i64 ((i : Int) + 1))) nq
    exact this.cell (h.hh j hj) (by simpa using h.ne)
set_option maxHeartbeats 400000 in
theorem next_any (L : LD) (b i : Nat) (m : Int) (w : World) (hs : Src L w b i) (hi : i ≤ 1000000000) (hm : 1 ≤ m) (hm2 : m ≤ 1000000000) :
    Calls Try.prog 31 #[.pointer (some ⟨b, 0, none⟩), .int .i64 m] w (SRet L w b i 1 (RngV m)) := by
  have fin := src_next hs
  obtain ⟨p, d, off, cap, l, T⟩ := L
  obtain ⟨hb, hd, hl, hwf, hp, hh⟩ := hs
  simp only at hb hd hl hwf hp hh
  have c0 := cell_blk hb 0
  have c1 := cell_blk hb 1
  simp at c0 c1
  have f1 : w.frozen? ⟨b, 1, none⟩ = false := by simp [World.frozen?, hb]
  clear hb
  by_cases hlt : i < l.length
  · obtain rfl : p = some ⟨d, off, none⟩ := by
      rcases hp with rfl | hp
      · simp at hlt
      · exact hp
    obtain ⟨x, hx⟩ : ∃ x, x = l.getD i 0 := ⟨_, rfl⟩
    have cx : (w.setCell ⟨b, 1, none⟩ (.int .i64 ((i : Int) + 1))).cell? ⟨d, off + i, none⟩ = some (.int .i64 x) := by
      rw [hx]; exact (grown_set w b 1 _).cell (hh i hlt) (by simpa using hd)
    have hxw := hwf x (by rw [hx]; simp [hlt])
    obtain ⟨hx1, hx2⟩ := hxw
    have hr := aroundF_rng x 1000000007 (by omega)
    obtain ⟨hr1, hr2⟩ := hr
    have hdec : decide ((l.length : Int) < (i : Int) + 1) = false := by simp; omega
    have q1 : IntKind.i64.wrap (i : Int) = i := IntWalk.i64_in _ (by omega)
    have q2 : (i : Int) < l.length := by omega
    have q3 : (m == 0) = false := by simp; omega
    have q4 : (aroundF x 1000000007).tmod m = aroundF x 1000000007 % m := Int.tmod_eq_emod_of_nonneg hr1
    have hf1 : 0 ≤ aroundF x 1000000007 % m := Int.emod_nonneg _ (by omega)
    have hf2 : aroundF x 1000000007 % m < m := Int.emod_lt_of_pos _ (by omega)
    have q5 : IntKind.i64.wrap (aroundF x 1000000007 % m) = aroundF x 1000000007 % m := IntWalk.i64_in _ (by omega)
    clear hx hh hwf hp
    go_enter Try.func31, Try.ntmps31
    go_wp2
    go_quiet (fail)
    go_wp2
    go_quiet ((go_at_call 18; exact quietAfter (around_any x 1000000007 _ hx1 hx2 (by omega) (by omega))))
    go_wp2
    go_ret
    rw [World.drewN_drewN]
    exact fin _ _ _ hf1 hf2
  · have hdec : decide ((l.length : Int) < (i : Int) + 1) = true := by simp; omega
    clear hh hwf hp
    go_enter Try.func31, Try.ntmps31
    go_wp2
    go_quiet (fail)
    go_wp2
    go_ret
    exact fin _ _ _ (Int.le_refl _) (by omega)

/-- One of ten names. -/
def nameF (n : Int) : ByteArray := ⟨#[118]⟩ ++ Utf8.encode (97 + n)
theorem ten (n : Int) (h0 : 0 ≤ n) (h1 : n < 10) : n = 0 ∨ n = 1 ∨ n = 2 ∨ n = 3 ∨ n = 4 ∨ n = 5 ∨ n = 6 ∨ n = 7 ∨ n = 8 ∨ n = 9 := by omega
theorem enc_size (n : Int) (h0 : 0 ≤ n) (h1 : n < 10) : (Utf8.encode (97 + n)).size ≤ 1 := by
  rcases ten n h0 h1 with rfl | rfl | rfl | rfl | rfl | rfl | rfl | rfl | rfl | rfl <;> decide +kernel
theorem nameF_size (n : Int) (h0 : 0 ≤ n) (h1 : n < 10) : (nameF n).size ≤ 2 := by
  rcases ten n h0 h1 with rfl | rfl | rfl | rfl | rfl | rfl | rfl | rfl | rfl | rfl <;> decide +kernel
theorem nameF_inj (n m : Int) (h0 : 0 ≤ n) (h1 : n < 10) (g0 : 0 ≤ m) (g1 : m < 10) (h : nameF n = nameF m) : n = m := by
  rcases ten n h0 h1 with rfl | rfl | rfl | rfl | rfl | rfl | rfl | rfl | rfl | rfl <;>
  rcases ten m g0 g1 with rfl | rfl | rfl | rfl | rfl | rfl | rfl | rfl | rfl | rfl <;>
  first | rfl | exact absurd h (by decide +kernel)
set_option maxHeartbeats 400000 in
theorem name_any (n : Int) (w : World) (hn : -9223372036854775808 ≤ n) (hn2 : n ≤ 9223372036854775807) :
    Calls Try.prog 25 #[.int .i64 n] w fun e w' => e = .returned (.string (nameF (aroundF n 10))) ∧ w = w' := by
  have hr := aroundF_rng n 10 (by omega)
  obtain ⟨hr1, hr2⟩ := hr
  have hsz := enc_size _ hr1 hr2
  have hl : ¬ 9223372036854775807 < 1 + (Utf8.encode (97 + aroundF n 10)).size := by omega
  go_enter Try.func25, Try.ntmps25
  go_wp2_with (go_at_call 18; refine (around_any _ _ _ hn hn2 (by omega) (by omega)).mono ?_; rintro e w' ⟨rfl, rfl⟩)
  go_ret
  exact ⟨rfl, rfl⟩

theorem nameF_short (n : Int) : (nameF (aroundF n 10)).size ≤ maxLen :=
  Nat.le_trans (nameF_size _ (aroundF_rng n 10 (by omega)).1 (aroundF_rng n 10 (by omega)).2) (by decide)
/-- pick: an element of a list that is not empty. -/
def PickV (l : List ByteArray) (v : Value) (_ : World) : Prop := ∃ s, s ∈ l ∧ v = .string s
theorem pick_fin {L : LD} {w w' : World} {b i i' : Nat} {l : List ByteArray} {k : Nat} (hk : k < l.length) (h : w.grownBy w' (some b)) (hs : Src L w' b i') (h1 : i ≤ i') (h2 : i' ≤ i + 1) : SRet L w b i 1 (PickV l) (.returned (.string (l.getD k ByteArray.empty))) w' :=
  ⟨_, i', rfl, h, hs, h1, h2, _, by simp [hk], rfl⟩
set_option maxHeartbeats 400000 in
theorem pick_any (L : LD) (b i : Nat) (v : Value) (l : List ByteArray) (w : World) (hs : Src L w b i) (hi : i ≤ 1000000000) (hl : StrsAt (butC w b) v l) (hne : 1 ≤ l.length) :
    Calls Try.prog 42 #[.pointer (some ⟨b, 0, none⟩), v] w (SRet L w b i 1 (PickV l)) := by
  obtain ⟨h1, h2, p, d, off, cap, rfl, hc, hp, hn, hh⟩ := hl
  obtain rfl : p = some ⟨d, off, none⟩ := by
    rcases hp with rfl | hp
    · simp at hne
    · exact hp
  go_enter Try.func42, Try.ntmps42
  go_wp2_with fail
  refine (next_any L b i _ _ hs hi (by omega) (by omega)).mono ?_
  rintro e w' ⟨v, i', rfl, hg, hs', hi1, hi2, r, rfl, hr1, hr2⟩
  obtain ⟨k, rfl⟩ := Int.eq_ofNat_of_zero_le hr1
  have hk : k < l.length := by omega
  have cx := but_sub _ _ _ _ (grown_but hg _ _ (hh k hk))
  have fin := pick_fin (i := i) hk hg hs' hi1 hi2
  obtain ⟨x, hx⟩ : ∃ x, x = l.getD k ByteArray.empty := ⟨_, rfl⟩
  rw [← hx] at cx fin
  clear hx hh
  go_wp2
  go_ret
  exact fin
end Go.Proofs.Ytlmdmmikocbmlaa
