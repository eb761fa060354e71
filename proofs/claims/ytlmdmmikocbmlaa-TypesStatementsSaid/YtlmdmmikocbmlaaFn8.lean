/- Single. -/
import Derived.Test.YtlmdmmikocbmlaaFn7
import Derived.Test.YtlmdmmikocbmlaaGen0
namespace Go.Proofs.Ytlmdmmikocbmlaa
open Go.RowKit
set_option linter.unusedSimpArgs false
set_option linter.unusedVariables false
def namesF (k : Nat) : List ByteArray := (List.range k).map (fun (i : Nat) => nameF (i : Int))
theorem namesF_length (k : Nat) : (namesF k).length = k := by simp [namesF]
theorem namesF_succ (k : Nat) : namesF (k + 1) = namesF k ++ [nameF (k : Int)] := by simp [namesF, List.range_succ]
theorem namesF_short {k : Nat} (hk : k ≤ 10) : ∀ s ∈ namesF k, s.size ≤ maxLen := by
  intro s hs
  simp only [namesF, List.mem_map, List.mem_range] at hs
  obtain ⟨i, hi, rfl⟩ := hs
  exact Nat.le_trans (nameF_size _ (by omega) (by omega)) (by decide)
theorem around10 {k : Nat} (hk : k < 10) : aroundF (k : Int) 10 = k := by
  unfold aroundF
  rw [if_neg (by omega)]
  omega
theorem info_str : (Try.prog.info? 9).map (fun i => (i.zero, i.size, i.bytes)) = some (some (.string ⟨#[]⟩), 1, 16) := by kernel_rfl
theorem under_strs : Try.prog.underlying 32 = some (.slice 9) := by kernel_rfl
def singleU (t : Nd) : Un := { d := [], v := namesF 10, on := [(0, .mk 11 0 ⟨#[]⟩ [t])] }
theorem new_cells' {w : World} {cs : List Value} {T : TypeId} : ∀ a, some (⟨w.heap.size, 0, none⟩ : Addr) = some a → ∀ j u, cs[j]? = some u → (w.alloc (.cells cs.toArray T)).cell? (a.add j) = some u := fun a ha j u hu => by
  cases ha
  rw [add_at, Nat.zero_add]
  exact cell_new w cs T j u hu
theorem grown_blk {w w' : World} {r : Option Nat} (g : w.grownBy w' r) {b : Nat} {o : Obj} (h : w.heap[b]? = some o) (hne : some b ≠ r) : w'.heap[b]? = some o :=
  (g.block b (Array.getElem?_eq_some_iff.1 h).1 hne).trans h
theorem res_unit {fn : Func} {t : Tmp} (hres : fn.results = #[.cell t 35]) {tmps : Array Value} {R : Nat} (ht : tmps.getD t undef = .pointer (some ⟨R, 0, none⟩)) {W : World} {v0 v1 v2 : Value}
    (h0 : W.cell? ⟨R, 0, none⟩ = some v0) (h1 : W.cell? ⟨R, 1, none⟩ = some v1) (h2 : W.cell? ⟨R, 2, none⟩ = some v2) :
    (results fn tmps).run Try.prog W = .ok (.agg #[v0, v1, v2]) W := by
  simp [Array.getD_eq_getD_getElem?] at ht
  simp [results, hres, go_sem, ht, h0, h1, h2]
theorem single_end {t : Nd} {kv : Value} {w wr : World} {U R : Nat} {p0 : Option Addr} {m0 cp0 : Nat} {tmps : Array Value} (hkv : t.At w.cell? (.agg #[.int .i64 t.k, .int .i64 t.n, .string t.s, kv])) (hx : Ext w wr)
    (hR : wr.heap[R]? = some (.cells #[.slice none 0 0, .slice none 0 0, .slice none 0 0] 35 (0, 0))) (hRw : w.heap.size < R) (hUw : R < U) (hU : wr.heap[U]? = some (.cells #[.slice none 0 0, .slice p0 m0 cp0, .slice none 0 0] 35 (0, 0)))
    (own : wr.ownsRow (U + 1) 9 1 (.slice p0 m0 cp0) 10 ((namesF 10).map Value.string)) (ht : tmps.getD 2 undef = .pointer (some ⟨R, 0, none⟩)) :
    bodyPost Try.prog Try.f19 (Ret w (fun v w' => UnAt w'.cell? v (singleU t))) .ret ⟨tmps, []⟩
      ((((((wr.setCell ⟨U, 2, none⟩ (.slice (some ⟨wr.heap.size + 1, 0, none⟩) 1 1)).setCell ⟨R, 0, none⟩ (.slice none 0 0)).setCell ⟨R, 1, none⟩ (.slice p0 m0 cp0)).setCell ⟨R, 2, none⟩ (.slice (some ⟨wr.heap.size + 1, 0, none⟩) 1 1)).alloc
        (.cells #[.int .i64 t.k, .int .i64 t.n, .string t.s, kv] 25)).alloc (.cells #[.int .i64 0, .int .i64 11, .int .i64 0, .string ⟨#[]⟩, .slice (some ⟨wr.heap.size, 0, none⟩) 1 1] 46)) := by
  have hb : ∀ g, Value.ownBlock (.slice p0 m0 cp0) = some g → U + 1 ≤ g := fun g hg => (own.lt g hg).1
  have g1 := grown_set wr U 2 (.slice (some ⟨wr.heap.size + 1, 0, none⟩) 1 1)
  have hR1 := grown_blk g1 hR (by simp; omega)
  have own1 := own.kept g1 (.inr fun e => by have := hb _ e; omega)
  have x1 := Ext.row hx g1 (by omega)
  generalize hW1 : wr.setCell ⟨U, 2, none⟩ (.slice (some ⟨wr.heap.size + 1, 0, none⟩) 1 1) = W1 at *
  have hs1 : W1.heap.size = wr.heap.size := by rw [← hW1]; simp [World.setCell]
  have g2 : W1.grownBy (((W1.setCell ⟨R, 0, none⟩ (.slice none 0 0)).setCell ⟨R, 1, none⟩ (.slice p0 m0 cp0)).setCell ⟨R, 2, none⟩ (.slice (some ⟨wr.heap.size + 1, 0, none⟩) 1 1)) (some R) :=
    grown_trans (grown_trans (grown_set _ _ _ _) (grown_set _ _ _ _)) (grown_set _ _ _ _)
  have hR2 := set_blk (set_blk (set_blk hR1 0 (.slice none 0 0)) 1 (.slice p0 m0 cp0)) 2 (.slice (some ⟨wr.heap.size + 1, 0, none⟩) 1 1)
  have own2 := own1.kept g2 (.inr fun e => by have := hb _ e; omega)
  have x2 := Ext.row x1 g2 (by omega)
  have hs2 : (((W1.setCell ⟨R, 0, none⟩ (.slice none 0 0)).setCell ⟨R, 1, none⟩ (.slice p0 m0 cp0)).setCell ⟨R, 2, none⟩ (.slice (some ⟨wr.heap.size + 1, 0, none⟩) 1 1)).heap.size = wr.heap.size := by rw [← hs1]; simp [World.setCell]
  generalize ((W1.setCell ⟨R, 0, none⟩ (.slice none 0 0)).setCell ⟨R, 1, none⟩ (.slice p0 m0 cp0)).setCell ⟨R, 2, none⟩ (.slice (some ⟨wr.heap.size + 1, 0, none⟩) 1 1) = W2 at *
  have hN := heap_alloc_new W2 (.cells #[.int .i64 t.k, .int .i64 t.n, .string t.s, kv] 25)
  rw [hs2] at hN
  have hN2 := Ext.block ((Ext.refl _).alloc (.cells #[.int .i64 0, .int .i64 11, .int .i64 0, .string ⟨#[]⟩, .slice (some ⟨wr.heap.size, 0, none⟩) 1 1] 46)) hN
  have hH := heap_alloc_new (W2.alloc (.cells #[.int .i64 t.k, .int .i64 t.n, .string t.s, kv] 25)) (.cells #[.int .i64 0, .int .i64 11, .int .i64 0, .string ⟨#[]⟩, .slice (some ⟨wr.heap.size, 0, none⟩) 1 1] 46)
  rw [World.size_alloc, hs2] at hH
  have y := ((Ext.refl W2).alloc (.cells #[.int .i64 t.k, .int .i64 t.n, .string t.s, kv] 25)).alloc (.cells #[.int .i64 0, .int .i64 11, .int .i64 0, .string ⟨#[]⟩, .slice (some ⟨wr.heap.size, 0, none⟩) 1 1] 46)
  have own3 := own2.kept (row := none) ⟨Below.os y, Below.tape y, Below.output y, Below.size y, fun i hi _ => Below.block y i hi⟩ (by cases h : Value.ownBlock (.slice p0 m0 cp0) <;> simp)
  have hR3 := y.block hR2
  have x3 := x2.trans y
  generalize (W2.alloc (.cells #[.int .i64 t.k, .int .i64 t.n, .string t.s, kv] 25)).alloc (.cells #[.int .i64 0, .int .i64 11, .int .i64 0, .string ⟨#[]⟩, .slice (some ⟨wr.heap.size, 0, none⟩) 1 1] 46) = W at *
  obtain ⟨c0, c1, c2⟩ := cells3 hR3
  refine bodyPost_ret (res_unit Try.results19 ht c0 c1 c2) rfl ⟨_, rfl, x3, _, _, _, rfl, StrsAt.nil _, ?_, ?_⟩
  · exact StrsAt.of_own (l := namesF 10) (by rw [namesF_length]; exact own3) (by rw [namesF_length]; omega) (namesF_short (Nat.le_refl _))
  · obtain ⟨h0, h1, h2, h3, h4⟩ := cells5 hH
    obtain ⟨n0, n1, n2, n3, -⟩ := cells4 hN2
    refine ⟨by simp [singleU], some ⟨wr.heap.size + 1, 0, none⟩, wr.heap.size + 1, 0, 1, rfl, Nat.le_refl _, .inr rfl, by simp, fun i hi => ?_⟩
    have hi0 : i = 0 := by simp [singleU] at hi; exact hi
    subst hi0
    refine ⟨by simp [singleU], by simp [singleU], _, _, _, _, h0, h1, h2, h3, h4, ?_⟩
    refine Nd.At.of_parts (t := .mk 11 0 ⟨#[]⟩ [t]) (by simp [Nd.k]) (by simp [Nd.n]) (Nat.zero_le _) ?_
    refine NdsAt.new (B := wr.heap.size) x3.sub [(t, kv)] (fun j u hj => ?_) (by simp) (by intro p hp; simp at hp; subst hp; exact hkv)
    match j, hj with
    | 0, hj => cases hj; exact n0
    | 1, hj => cases hj; exact n1
    | 2, hj => cases hj; exact n2
    | 3, hj => cases hj; exact n3
    | j + 4, hj => simp [nodeCells] at hj
set_option maxHeartbeats 2000000 in
theorem single_any (t : Nd) (x : Value) (w : World) (hv : t.At w.cell? x) :
    Calls Try.prog 19 #[x] w (Ret w (fun v w' => UnAt w'.cell? v (singleU t))) := by
  have hv0 := hv
  obtain ⟨kv, rfl, -⟩ := hv.parts
  obtain ⟨i0, hi0, hz0, hz1, hz2⟩ := info_parts info_str
  have hB0 := new4 w (.int .i64 t.k) (.int .i64 t.n) (.string t.s) kv 25
  have hR := heap_alloc_new (w.alloc (.cells #[.int .i64 t.k, .int .i64 t.n, .string t.s, kv] 25)) (.cells #[.slice none 0 0, .slice none 0 0, .slice none 0 0] 35)
  have hU := heap_alloc_new ((w.alloc (.cells #[.int .i64 t.k, .int .i64 t.n, .string t.s, kv] 25)).alloc (.cells #[.slice none 0 0, .slice none 0 0, .slice none 0 0] 35)) (.cells #[.slice none 0 0, .slice none 0 0, .slice none 0 0] 35)
  replace hB0 := Ext.block (((Ext.refl _).alloc (.cells #[.slice none 0 0, .slice none 0 0, .slice none 0 0] 35)).alloc (.cells #[.slice none 0 0, .slice none 0 0, .slice none 0 0] 35)) hB0
  replace hR := Ext.block ((Ext.refl _).alloc (.cells #[.slice none 0 0, .slice none 0 0, .slice none 0 0] 35)) hR
  simp only [World.size_alloc] at hR hU hB0
  have x0 := (((Ext.refl w).alloc (.cells #[.int .i64 t.k, .int .i64 t.n, .string t.s, kv] 25)).alloc (.cells #[.slice none 0 0, .slice none 0 0, .slice none 0 0] 35)).alloc (.cells #[.slice none 0 0, .slice none 0 0, .slice none 0 0] 35)
  have hkv : Hid (t.At w.cell? (.agg #[.int .i64 t.k, .int .i64 t.n, .string t.s, kv])) := hv0
  clear hv hv0
  go_enter Try.func19, Try.ntmps19
  go_wp2_with fail
  have hUw : w.heap.size + 1 < w.heap.size + 1 + 1 := by omega
  have hRw : w.heap.size < w.heap.size + 1 := by omega
  generalize w.heap.size + 1 + 1 = U at *
  generalize w.heap.size + 1 = R at *
  go_loopw [4] (fun iv wr => ∃ (k : Nat) (vv : Value), k ≤ 10 ∧ iv = .int .i64 k ∧ Ext w wr ∧ wr.heap[w.heap.size]? = some (.cells #[.int .i64 t.k, .int .i64 t.n, .string t.s, kv] 25 (0, 0)) ∧
    wr.heap[R]? = some (.cells #[.slice none 0 0, .slice none 0 0, .slice none 0 0] 35 (0, 0)) ∧ wr.heap[U]? = some (.cells #[.slice none 0 0, vv, .slice none 0 0] 35 (0, 0)) ∧
    wr.ownsRow (U + 1) 9 1 vv k ((namesF k).map Value.string)) (fun iv _ => 10 - (intOf iv).toNat)
  case atStart => exact ⟨0, _, by omega, rfl, x0, hB0, hR, hU, World.ownsRow_nil _ _ _ _⟩
  case round =>
    clear x0 hB0 hR hU
    obtain ⟨k, vv, hk, rfl, hx, hB0, hR, hU, own⟩ := hrel
    have hUlt : U < wr.heap.size := (Array.getElem?_eq_some_iff.1 hU).1
    obtain ⟨p0, m0, cp0, rfl⟩ := own_slice own
    by_cases hlt : k < 10
    · obtain ⟨cU0, cU1, cU2⟩ := cells3 hU
      have fU1 : wr.frozen? ⟨U, 1, none⟩ = false := by simp [World.frozen?, hU]
      have har := Lib.hid (around10 hlt)
      go_wp2_with fail
      refine wp_region_ser (fun w' => w'.cell? ⟨U, 1, none⟩ = some (.slice p0 m0 cp0)) [(0, 3), (1, 0), (2, 3), (3, 1), (4, 1), (5, 2), (6, 3), (7, 2)] (by kernel_rfl) (by kernel_rfl) ?_ (fun hS => ?_)
      · go_keep
      refine ser_pure rfl (by rfl) ?_
      apply Exists.intro
      refine ⟨fun w0 => ?_, ?_⟩
      · go_simp; try with_reducible rfl
      simp only [List.getElem_toArray, List.getElem_cons_zero, List.getElem_cons_succ, Act.put, List.setIfInBounds_toArray, List.set_cons_zero, List.set_cons_succ]
      refine ser_load rfl hS (by rfl) ?_
      apply Exists.intro
      refine ⟨fun w0 hS0 => ?_, ?_⟩
      · (try dsimp only at hS0); go_simp; try with_reducible rfl
      simp only [List.getElem_toArray, List.getElem_cons_zero, List.getElem_cons_succ, Act.put, List.setIfInBounds_toArray, List.set_cons_zero, List.set_cons_succ]
      refine ser_pure rfl (by rfl) ?_
      apply Exists.intro
      refine ⟨fun w0 => ?_, ?_⟩
      · go_simp; try with_reducible rfl
      simp only [List.getElem_toArray, List.getElem_cons_zero, List.getElem_cons_succ, Act.put, List.setIfInBounds_toArray, List.set_cons_zero, List.set_cons_succ]
      refine ser_loud1 rfl (fun K hK => ?_)
      rw [if_pos (by rfl)]
      go_wp2_with (first
        | (go_at_call 25; (with_reducible refine (name_any _ _ (by omega) (by omega)).mono ?_); rintro e w2 ⟨rfl, rfl⟩; rw [har.out]))
      refine and_held (by go_keep) (fun hS => ?_)
      refine ser_loud1 rfl (fun K hK => ?_)
      rw [if_pos (by rfl)]
      go_wp2_with (first
        | (go_at_call 25; (with_reducible refine (name_any _ _ (by omega) (by omega)).mono ?_); rintro e w2 ⟨rfl, rfl⟩; rw [har.out]))
      refine and_held (by go_keep) (fun hS => ?_)
      refine ser_loud2 rfl (fun K hK => ?_)
      rw [if_pos (by rfl)]
      refine wp_append_any _ _ _ 32 (by rfl) (U + 1) 9 i0 _ 1 16 under_strs hi0 hz0 hz1 hz2 rfl (by decide) (.slice p0 m0 cp0) k _ (by rfl) ((own.drew).alloc _) _ 1 1 [.string (nameF (k : Int))] (by rfl) rfl (by simp) new_cells' (by simp [Value.oneCell']) (by unfold maxLen; omega) (by omega) (by simp; omega) ?_
      intro v' w3 hown hgrow hwh
      obtain ⟨p', n', c', rfl⟩ := own_slice hown
      have hb : ∀ g, Value.ownBlock (.slice p0 m0 cp0) = some g → U + 1 ≤ g := fun g hg => (own.lt g hg).1
      have hB3 := grown_blk hgrow (Ext.block ((Ext.refl wr).drew.alloc (.cells #[.string (nameF (k : Int))] 9)) hB0) (fun e => by have := hb _ e.symm; omega)
      have hR3 := grown_blk hgrow (Ext.block ((Ext.refl wr).drew.alloc (.cells #[.string (nameF (k : Int))] 9)) hR) (fun e => by have := hb _ e.symm; omega)
      have hU3 := grown_blk hgrow (Ext.block ((Ext.refl wr).drew.alloc (.cells #[.string (nameF (k : Int))] 9)) hU) (fun e => by have := hb _ e.symm; omega)
      have hx3 := Below.grown (hx.drew.alloc (.cells #[.string (nameF (k : Int))] 9)) hgrow (Below.size (hx.drew.alloc _)) (fun g hg => by have := hb g hg; omega)
      obtain ⟨cX0, cX1, cX2⟩ := cells3 hU3
      have fX1 : w3.frozen? ⟨U, 1, none⟩ = false := by simp [World.frozen?, hU3]
      refine hK _ _ ?_
      try simp only [List.getElem_toArray, List.getElem_cons_zero, List.getElem_cons_succ, Act.put, List.setIfInBounds_toArray, List.set_cons_zero, List.set_cons_succ]
      refine ser_pure rfl (by rfl) ?_
      apply Exists.intro
      refine ⟨fun w0 => ?_, ?_⟩
      · go_simp; try with_reducible rfl
      simp only [List.getElem_toArray, List.getElem_cons_zero, List.getElem_cons_succ, Act.put, List.setIfInBounds_toArray, List.set_cons_zero, List.set_cons_succ]
      refine ser_loud2 rfl (fun K hK => ?_)
      rw [if_pos (by rfl)]
      go_wp2_with (first
        | (go_at_call 25; (with_reducible refine (name_any _ _ (by omega) (by omega)).mono ?_); rintro e w2 ⟨rfl, rfl⟩; rw [har.out]))
      refine ser_nil ?_
      have hB4 := grown_blk (grown_set w3 (U) 1 (.slice p' n' c')) hB3 (by simp; omega)
      have hR4 := grown_blk (grown_set w3 (U) 1 (.slice p' n' c')) hR3 (by simp; omega)
      have hU4 := set_blk hU3 1 (.slice p' n' c')
      have own4 := hown.kept (grown_set w3 (U) 1 (.slice p' n' c')) (.inr fun e => by have := (hown.lt _ e).1; omega)
      have hx4 := Ext.row hx3 (grown_set w3 (U) 1 (.slice p' n' c')) (by omega)
      clear hS hB3 hR3 hU3 hB0 hR hU own hx3 hx
      go_wp2
      go_roundw
      case rel => exact ⟨k + 1, _, by omega, by go_num, hx4, hB4, hR4, hU4, by rw [namesF_succ, List.map_append]; exact own4⟩
      case measure => simp [intOf]; omega
    · obtain rfl : k = 10 := by omega
      obtain ⟨cU0, cU1, cU2⟩ := cells3 hU
      obtain ⟨cR0, cR1, cR2⟩ := cells3 hR
      obtain ⟨cB0, cB1, cB2, cB3, -⟩ := cells4 hB0
      have fU2 : wr.frozen? ⟨U, 2, none⟩ = false := by simp [World.frozen?, hU]
      have fR0 : wr.frozen? ⟨R, 0, none⟩ = false := by simp [World.frozen?, hR]
      have fR1 : wr.frozen? ⟨R, 1, none⟩ = false := by simp [World.frozen?, hR]
      have fR2 : wr.frozen? ⟨R, 2, none⟩ = false := by simp [World.frozen?, hR]
      have nU : U ≠ wr.heap.size := by omega
      have nR : R ≠ wr.heap.size := by have := (Array.getElem?_eq_some_iff.1 hR).1; omega
      have lR : R < wr.heap.size := (Array.getElem?_eq_some_iff.1 hR).1
      have nUR : U ≠ R := by omega
      go_wp2
      exact single_end hkv.out hx hR hRw hUw hU own rfl
end Go.Proofs.Ytlmdmmikocbmlaa
