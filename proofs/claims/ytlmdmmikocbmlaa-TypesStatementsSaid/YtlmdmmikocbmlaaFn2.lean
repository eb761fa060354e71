/- TypeOf. -/
import Derived.Test.YtlmdmmikocbmlaaFn1
namespace Go.Proofs.Ytlmdmmikocbmlaa
open Go.RowKit
set_option linter.unusedSimpArgs false
set_option linter.unusedVariables false
def pairs (b : Bool) : List (ByteArray × Int × Int) :=
  if b then [(⟨#[38, 38]⟩, 2, 2), (⟨#[124, 124]⟩, 2, 2), (⟨#[43]⟩, 1, 1), (⟨#[45]⟩, 1, 1), (⟨#[42]⟩, 1, 1), (⟨#[47]⟩, 1, 1), (⟨#[60]⟩, 1, 2), (⟨#[60, 61]⟩, 1, 2), (⟨#[62]⟩, 1, 2), (⟨#[62, 61]⟩, 1, 2), (⟨#[61, 61]⟩, 1, 2), (⟨#[33, 61]⟩, 1, 2)]
  else [(⟨#[45]⟩, 1, 1), (⟨#[33]⟩, 2, 2)]
def sigF (b : Bool) (s : ByteArray) : Int × Int := (((pairs b).find? (fun p => s == p.1)).map (·.2)).getD (0, 0)
theorem sigs_pairs (b : Bool) : sigs b = (pairs b).map (fun p => (p.1, sg p.2.1 p.2.2)) := by cases b <;> rfl
theorem look_sigs (b : Bool) (s : ByteArray) : (look (sigs b) s).getD (sg 0 0) = sg (sigF b s).1 (sigF b s).2 := by
  rw [sigs_pairs]
  unfold sigF look
  generalize pairs b = l
  induction l with
  | nil => rfl
  | cons p l ih =>
    by_cases h : s == p.1
    · simp [h]
    · simp only [List.map_cons, List.find?_cons, h]
      exact ih
mutual
/-- The type of an expression: 1 Int, 2 Bool, 0 ill-typed or a statement. -/
def typeF : Nd → Int
  | .mk k _ s kids =>
    if k = 13 then 2 else if k = 12 ∨ k = 14 ∨ k = 15 then 1
    else if k = 17 ∨ k = 18 then (if notAll (sigF (k == 18) s).1 kids then 0 else (sigF (k == 18) s).2)
    else if k = 16 then (if notAll 1 kids then 0 else 1) else 0
def notAll (t : Int) : List Nd → Bool
  | [] => false
  | x :: xs => (typeF x != t) || notAll t xs
end
theorem notAll_any (t : Int) (l : List Nd) : notAll t l = l.any (fun x => typeF x != t) := by
  induction l with
  | nil => simp [notAll]
  | cons x xs ih => simp [notAll, ih]
def TypeOfC (t : Nd) : Prop := ∀ v w, t.At w.cell? v → Calls Try.prog 12 #[v] w (RetV w (.int .i64 (typeF t)))
theorem TypeOfC.use {t : Nd} (h : TypeOfC t) {v : Value} {w : World} (ht : t.At w.cell? v) : Calls Try.prog 12 #[v] w (RetV w (.int .i64 (typeF t))) := h v w ht
/-- The cells of the block that has just been made. -/
theorem new4 (w : World) (a b c d : Value) (T : TypeId) : (w.alloc (.cells #[a, b, c, d] T)).heap[w.heap.size]? = some (.cells #[a, b, c, d] T (0, 0)) := heap_alloc_new w _
set_option maxHeartbeats 1000000 in
theorem all1_any (x : Nd) (ih : TypeOfC x) (v : Value) (p : Addr) (t : Int) (w : World) (hv : x.At w.cell? v) (hc : w.cell? p = some (.int .i64 t)) :
    Calls Try.prog 43 #[v, .pointer (some p)] w (RetV w (.bool (typeF x != t))) := by
  have IH : Hid (TypeOfC x) := ih
  have hA := hv
  obtain ⟨kv, rfl, -⟩ := hv.parts
  have hne : p.block < w.heap.size := World.block_lt_of_cell? w p hc
  have hA1 : Hid (x.At (w.alloc (.cells #[.int .i64 x.k, .int .i64 x.n, .string x.s, kv] 25)).cell? (.agg #[.int .i64 x.k, .int .i64 x.n, .string x.s, kv])) := Nd.At.mono (((Ext.refl w).alloc _).sub) _ _ hA
  obtain ⟨c0, c1, c2, c3, -⟩ := cells4 (new4 w (.int .i64 x.k) (.int .i64 x.n) (.string x.s) kv 25)
  have hcp := ((Ext.refl w).alloc (.cells #[.int .i64 x.k, .int .i64 x.n, .string x.s, kv] 25)).c hc
  obtain ⟨ty, hty⟩ : ∃ ty, ty = typeF x := ⟨_, rfl⟩
  have HT : Hid (ty = typeF x) := hty
  clear ih hA hty hc hv
  go_enter Try.func43, Try.ntmps43
  go_wp2_with fail
  refine wp_region_ser (fun w' => w'.cell? ⟨w.heap.size, 0, none⟩ = some (.int .i64 x.k) ∧ w'.cell? ⟨w.heap.size, 1, none⟩ = some (.int .i64 x.n) ∧ w'.cell? ⟨w.heap.size, 2, none⟩ = some (.string x.s) ∧ w'.cell? ⟨w.heap.size, 3, none⟩ = some kv ∧ w'.cell? p = some (.int .i64 t)) [(0, 0), (2, 0), (1, 1), (3, 3), (4, 3)] (by kernel_rfl) (by kernel_rfl) ?_ (fun hS => ?_)
  · first | go_keep | exact ⟨hx2.c c0, hx2.c c1, hx2.c c2, hx2.c c3, hx2.c hcp⟩
  refine ser_load rfl hS (by rfl) ?_
  apply Exists.intro
  refine ⟨fun w0 hS0 => ?_, ?_⟩
  · (try dsimp only at hS0); go_simp; try with_reducible rfl
  simp only [List.getElem_toArray, List.getElem_cons_zero, List.getElem_cons_succ, Act.put, List.setIfInBounds_toArray, List.set_cons_zero, List.set_cons_succ]
  refine ser_load rfl hS (by rfl) ?_
  apply Exists.intro
  refine ⟨fun w0 hS0 => ?_, ?_⟩
  · (try dsimp only at hS0); go_simp; try with_reducible rfl
  simp only [List.getElem_toArray, List.getElem_cons_zero, List.getElem_cons_succ, Act.put, List.setIfInBounds_toArray, List.set_cons_zero, List.set_cons_succ]
  refine ser_loud1 rfl (fun K hK => ?_)
  rw [if_pos (by rfl)]
  go_wp2_with (first
    | (go_at_call 12; refine (IH.out.use (Nd.At.mono (((Ext.refl _).drew).sub) _ _ hA1.out)).mono ?_; rintro e w2 ⟨rfl, hx2⟩; rw [← HT.out]))
  refine and_held (by first | go_keep | exact ⟨hx2.c c0, hx2.c c1, hx2.c c2, hx2.c c3, hx2.c hcp⟩) (fun hS => ?_)
  refine ser_pure rfl (by rfl) ?_
  apply Exists.intro
  refine ⟨fun w0 => ?_, ?_⟩
  · go_simp; try with_reducible rfl
  simp only [List.getElem_toArray, List.getElem_cons_zero, List.getElem_cons_succ, Act.put, List.setIfInBounds_toArray, List.set_cons_zero, List.set_cons_succ]
  refine ser_pure rfl (by rfl) ?_
  apply Exists.intro
  refine ⟨fun w0 => ?_, ?_⟩
  · go_simp; try with_reducible rfl
  simp only [List.getElem_toArray, List.getElem_cons_zero, List.getElem_cons_succ, Act.put, List.setIfInBounds_toArray, List.set_cons_zero, List.set_cons_succ]
  refine ser_nil ?_
  go_wp2
  go_ret
  exact ⟨by rw [← HT.out]; rfl, (((Ext.refl w).alloc _).drew).trans hx2⟩
set_option maxHeartbeats 400000 in
theorem all_any (l : List Nd) (sv : Value) (t : Int) (w : World) (hl : NdsAt w.cell? sv l) (ih : ∀ x ∈ l, TypeOfC x) :
    Calls Try.prog 33 #[sv, .int .i64 t] w (RetV w (.bool (!notAll t l))) := by
  have x0 : Ext w (w.alloc (.cells #[.int .i64 t] 27)) := (Ext.refl w).alloc _
  have hc : (w.alloc (.cells #[.int .i64 t] 27)).cell? ⟨w.heap.size, 0, none⟩ = some (.int .i64 t) := cell_new w [.int .i64 t] _ 0 _ rfl
  have hasks : Asks (w.alloc (.cells #[.int .i64 t] 27)) 43 #[.pointer (some ⟨w.heap.size, 0, none⟩)] l (fun x => typeF x != t) :=
    ⟨fun _ _ => rfl, fun x hx v w' hx' hA => all1_any x (ih x hx) v ⟨w.heap.size, 0, none⟩ t w' hA (hx'.c hc)⟩
  have hcall := Lib.hid (containsFunc_any l sv _ _ _ _ (hl.mono x0.sub) hasks)
  rw [← notAll_any] at hcall
  obtain ⟨q, hq⟩ : ∃ q, q = notAll t l := ⟨_, rfl⟩
  rw [← hq] at hcall ⊢
  clear hq hasks hc ih hl
  go_enter Try.func33, Try.ntmps33
  go_wp2_with (go_at_call 38; refine hcall.out.mono ?_; rintro e w2 ⟨rfl, hx2⟩)
  go_ret
  exact ⟨rfl, x0.trans hx2⟩
theorem zero_sig (w : World) : (zeroValue 61).run Try.prog w = .ok (sg 0 0) w := by kernel_rfl
theorem new2 (w : World) (a b : Value) (T : TypeId) : (w.alloc (.cells #[a, b] T)).heap[w.heap.size]? = some (.cells #[a, b] T (0, 0)) := heap_alloc_new w _
theorem cells2 {w : World} {R : Nat} {a b : Value} {T : TypeId} (h : w.heap[R]? = some (.cells #[a, b] T (0, 0))) :
    w.cell? ⟨R, 0, none⟩ = some a ∧ w.cell? ⟨R, 1, none⟩ = some b ∧ w.frozen? ⟨R, 0, none⟩ = false ∧ w.frozen? ⟨R, 1, none⟩ = false := by
  simp [World.cell?, World.frozen?, h]
theorem allC {l : List Nd} {sv : Value} {w wk : World} (hl : NdsAt w.cell? sv l) (ih : ∀ x ∈ l, TypeOfC x) (t : Int) {q : Bool} (hq : q = notAll t l) (hE : Ext w wk) :
    Calls Try.prog 33 #[sv, .int .i64 t] wk (RetV wk (.bool (!q))) := by
  rw [hq]; exact all_any l sv t wk (hl.mono hE.sub) ih
theorem typeOf_leaf (k n : Int) (s : ByteArray) (l : List Nd) (hk : k = 12 ∨ k = 13 ∨ k = 14 ∨ k = 15) : TypeOfC (.mk k n s l) := by
  intro v w ht
  obtain ⟨kv, rfl, -⟩ := ht.parts
  clear ht
  rcases hk with rfl | rfl | rfl | rfl
  all_goals
    go_enter Try.func12, Try.ntmps12
    go_wp2
    go_ret
    exact ⟨rfl, ((Ext.refl w).alloc _).alloc _⟩
theorem typeOf_other (k n : Int) (s : ByteArray) (l : List Nd) (hk : k ≠ 12 ∧ k ≠ 13 ∧ k ≠ 14 ∧ k ≠ 15 ∧ k ≠ 16 ∧ k ≠ 17 ∧ k ≠ 18) : TypeOfC (.mk k n s l) := by
  intro v w ht
  obtain ⟨kv, rfl, -⟩ := ht.parts
  clear ht
  simp only [Nd.k]
  obtain ⟨h1, h2, h3, h4, h5, h6, h7⟩ := hk
  have e : typeF (.mk k n s l) = 0 := by simp [typeF, h1, h2, h3, h4, h5, h6, h7]
  rw [e]
  go_enter Try.func12, Try.ntmps12
  go_wp2
  go_ret
  exact ⟨rfl, ((Ext.refl w).alloc _).alloc _⟩
set_option maxHeartbeats 400000 in
theorem typeOf_draw (n : Int) (s : ByteArray) (l : List Nd) (ih : ∀ x ∈ l, TypeOfC x) : TypeOfC (.mk 16 n s l) := by
  intro v w ht
  obtain ⟨kv, rfl, -, -, -, hl⟩ := ht.parts
  simp only [Nd.k, Nd.n, Nd.s, Nd.kids] at *
  obtain ⟨q, hq⟩ : ∃ q, q = notAll 1 l := ⟨_, rfl⟩
  have e : typeF (.mk 16 n s l) = if q then 0 else 1 := by simp [typeF, hq]
  have hcall := fun (wk : World) (hE : Ext w wk) => allC hl ih 1 hq hE
  have HC := Lib.hid hcall
  rw [e]
  clear e hq hl ht ih hcall
  have hE := ((Ext.refl w).alloc (.cells #[.int .i64 16, .int .i64 n, .string s, kv] 25)).alloc (.cells #[.int .i64 1, .int .i64 1] 61)
  have hV := new2 (w.alloc (.cells #[.int .i64 16, .int .i64 n, .string s, kv] 25)) (.int .i64 1) (.int .i64 1) 61
  simp only [World.size_alloc] at hV
  cases q
  all_goals
    go_enter Try.func12, Try.ntmps12
    go_wp2_with (go_at_call 33; refine (HC.out _ hE).mono ?_; rintro e w2 ⟨rfl, hx2⟩; obtain ⟨cV0, cV1, fV0, fV1⟩ := cells2 (Ext.block hx2 hV))
    go_ret
    exact ⟨rfl, hE.trans hx2⟩
set_option maxHeartbeats 2000000 in
theorem typeOf_op17 (n : Int) (s : ByteArray) (l : List Nd) (ih : ∀ x ∈ l, TypeOfC x) : TypeOfC (.mk 17 n s l) := by
  intro v w ht
  obtain ⟨kv, rfl, -, -, -, hl⟩ := ht.parts
  simp only [Nd.k, Nd.n, Nd.s, Nd.kids] at *
  obtain ⟨o1, ho1⟩ : ∃ o1, o1 = (sigF false s).1 := ⟨_, rfl⟩
  obtain ⟨o2, ho2⟩ : ∃ o2, o2 = (sigF false s).2 := ⟨_, rfl⟩
  obtain ⟨q, hq⟩ : ∃ q, q = notAll o1 l := ⟨_, rfl⟩
  have e : typeF (.mk 17 n s l) = if q then 0 else o2 := by
    simp [typeF, hq, ho1, ho2]
  have hlk : (look (sigs false) s).getD (sg 0 0) = .agg #[.int .i64 o1, .int .i64 o2] := by rw [look_sigs, ho1, ho2]; rfl
  have HL := Lib.hid hlk
  have hcall := fun (wk : World) (hE : Ext w wk) => allC hl ih o1 hq hE
  have HC := Lib.hid hcall
  rw [e]
  clear e hq hl ht ih hcall ho1 ho2 hlk
  have hE := ((Ext.refl w).alloc (.cells #[.int .i64 17, .int .i64 n, .string s, kv] 25)).alloc (.cells #[.int .i64 1, .int .i64 1] 61)
  have hB := Ext.block ((Ext.refl _).alloc (.cells #[.int .i64 1, .int .i64 1] 61)) (new4 w (.int .i64 17) (.int .i64 n) (.string s) kv 25)
  have hV := new2 (w.alloc (.cells #[.int .i64 17, .int .i64 n, .string s, kv] 25)) (.int .i64 1) (.int .i64 1) 61
  simp only [World.size_alloc] at hV
  cases q
  all_goals
    obtain ⟨c0, c1, c2, c3, -⟩ := cells4 hB
    go_enter Try.func12, Try.ntmps12
    go_wp2_with fail
    refine wp_region_ser (fun w' => w'.cell? ⟨w.heap.size, 0, none⟩ = some (.int .i64 17) ∧ w'.cell? ⟨w.heap.size, 2, none⟩ = some (.string s)) [(0, 3), (1, 0), (2, 3), (4, 3), (5, 0), (3, 1), (6, 1), (7, 2)] (by kernel_rfl) (by kernel_rfl) ?_ (fun hS => ?_)
    · first | go_keep | exact ⟨hx2.c c0, hx2.c c2⟩
    refine ser_pure rfl (by rfl) ?_
    apply Exists.intro
    refine ⟨fun w0 => ?_, ?_⟩
    · go_simp; try with_reducible rfl
    simp only [List.getElem_toArray, List.getElem_cons_zero, List.getElem_cons_succ, Act.put, List.setIfInBounds_toArray, List.set_cons_zero, List.set_cons_succ]
    refine ser_load rfl hS (by rfl) ?_
    apply Exists.intro
    refine ⟨fun w0 hS0 => ?_, ?_⟩
    · (try dsimp only at hS0); go_simp; try with_reducible rfl
    simp only [List.getElem_toArray, List.getElem_cons_zero, List.getElem_cons_succ, Act.put, List.setIfInBounds_toArray, List.set_cons_zero, List.set_cons_succ]
    refine ser_pure rfl (by rfl) ?_
    apply Exists.intro
    refine ⟨fun w0 => ?_, ?_⟩
    · go_simp; try with_reducible rfl
    simp only [List.getElem_toArray, List.getElem_cons_zero, List.getElem_cons_succ, Act.put, List.setIfInBounds_toArray, List.set_cons_zero, List.set_cons_succ]
    refine ser_pure rfl (by rfl) ?_
    apply Exists.intro
    refine ⟨fun w0 => ?_, ?_⟩
    · go_simp; try with_reducible rfl
    simp only [List.getElem_toArray, List.getElem_cons_zero, List.getElem_cons_succ, Act.put, List.setIfInBounds_toArray, List.set_cons_zero, List.set_cons_succ]
    refine ser_load rfl hS (by rfl) ?_
    apply Exists.intro
    refine ⟨fun w0 hS0 => ?_, ?_⟩
    · (try dsimp only at hS0); go_simp; try with_reducible rfl
    simp only [List.getElem_toArray, List.getElem_cons_zero, List.getElem_cons_succ, Act.put, List.setIfInBounds_toArray, List.set_cons_zero, List.set_cons_succ]
    refine ser_loud1 rfl (fun K hK => ?_)
    rw [if_pos (by rfl)]
    go_wp2_with (first
      | (go_at_call 32; refine (operators_any _ _).mono ?_; rintro e w2 ⟨v, rfl, hx2, r, rfl, hM⟩; have hV2 := Ext.block hx2 hV; obtain ⟨cV0, cV1, fV0, fV1⟩ := cells2 hV2))
    refine and_held (by first | go_keep | exact ⟨hx2.c c0, hx2.c c2⟩) (fun hS => ?_)
    refine ser_loud1 rfl (fun K hK => ?_)
    rw [if_pos (by rfl)]
    refine wp_lookup_str (r := r) _ _ (by rfl) under_sigmap under_str (zero_sig _) (by rfl) (by rfl) hM ?_
    rw [HL.out]
    refine hK _ _ ?_
    refine and_held (by first | go_keep | exact ⟨hx2.c c0, hx2.c c2⟩) (fun hS => ?_)
    refine ser_loud2 rfl (fun K hK => ?_)
    rw [if_pos (by rfl)]
    go_wp2_with (first
      | (go_at_call 32; refine (operators_any _ _).mono ?_; rintro e w2 ⟨v, rfl, hx2, r, rfl, hM⟩; have hV2 := Ext.block hx2 hV; obtain ⟨cV0, cV1, fV0, fV1⟩ := cells2 hV2))
    refine ser_nil ?_
    have hE3 := ((hE.drew.trans hx2).row (grown_set w2 (w.heap.size + 1) 0 (.int .i64 o1)) (by omega)).row (grown_set _ (w.heap.size + 1) 1 (.int .i64 o2)) (by omega)
    have hV3 := set_blk (set_blk hV2 0 (.int .i64 o1)) 1 (.int .i64 o2)
    have hKids := hx2.c c3
    have hKids3 := (grown_set (w2.setCell ⟨w.heap.size + 1, 0, none⟩ (.int .i64 o1)) (w.heap.size + 1) 1 (.int .i64 o2)).cell ((grown_set w2 (w.heap.size + 1) 0 (.int .i64 o1)).cell hKids (by simp)) (by simp)
    obtain ⟨cW0, cW1, fW0, fW1⟩ := cells2 hV3
    clear hS hV hV2 hx2 hM hKids cV0 cV1 fV0 fV1 c0 c1 c2 c3 hB hE
    go_wp2_with (go_at_call 33; refine (HC.out _ hE3).mono ?_; rintro e w4 ⟨rfl, hx4⟩; have cX1 := hx4.c cW1)
    go_ret
    exact ⟨rfl, hE3.trans hx4⟩
set_option maxHeartbeats 2000000 in
theorem typeOf_op18 (n : Int) (s : ByteArray) (l : List Nd) (ih : ∀ x ∈ l, TypeOfC x) : TypeOfC (.mk 18 n s l) := by
  intro v w ht
  obtain ⟨kv, rfl, -, -, -, hl⟩ := ht.parts
  simp only [Nd.k, Nd.n, Nd.s, Nd.kids] at *
  obtain ⟨o1, ho1⟩ : ∃ o1, o1 = (sigF true s).1 := ⟨_, rfl⟩
  obtain ⟨o2, ho2⟩ : ∃ o2, o2 = (sigF true s).2 := ⟨_, rfl⟩
  obtain ⟨q, hq⟩ : ∃ q, q = notAll o1 l := ⟨_, rfl⟩
  have e : typeF (.mk 18 n s l) = if q then 0 else o2 := by
    simp [typeF, hq, ho1, ho2]
  have hlk : (look (sigs true) s).getD (sg 0 0) = .agg #[.int .i64 o1, .int .i64 o2] := by rw [look_sigs, ho1, ho2]; rfl
  have HL := Lib.hid hlk
  have hcall := fun (wk : World) (hE : Ext w wk) => allC hl ih o1 hq hE
  have HC := Lib.hid hcall
  rw [e]
  clear e hq hl ht ih hcall ho1 ho2 hlk
  have hE := ((Ext.refl w).alloc (.cells #[.int .i64 18, .int .i64 n, .string s, kv] 25)).alloc (.cells #[.int .i64 1, .int .i64 1] 61)
  have hB := Ext.block ((Ext.refl _).alloc (.cells #[.int .i64 1, .int .i64 1] 61)) (new4 w (.int .i64 18) (.int .i64 n) (.string s) kv 25)
  have hV := new2 (w.alloc (.cells #[.int .i64 18, .int .i64 n, .string s, kv] 25)) (.int .i64 1) (.int .i64 1) 61
  simp only [World.size_alloc] at hV
  cases q
  all_goals
    obtain ⟨c0, c1, c2, c3, -⟩ := cells4 hB
    go_enter Try.func12, Try.ntmps12
    go_wp2_with fail
    refine wp_region_ser (fun w' => w'.cell? ⟨w.heap.size, 0, none⟩ = some (.int .i64 18) ∧ w'.cell? ⟨w.heap.size, 2, none⟩ = some (.string s)) [(0, 3), (1, 0), (2, 3), (4, 3), (5, 0), (3, 1), (6, 1), (7, 2)] (by kernel_rfl) (by kernel_rfl) ?_ (fun hS => ?_)
    · first | go_keep | exact ⟨hx2.c c0, hx2.c c2⟩
    refine ser_pure rfl (by rfl) ?_
    apply Exists.intro
    refine ⟨fun w0 => ?_, ?_⟩
    · go_simp; try with_reducible rfl
    simp only [List.getElem_toArray, List.getElem_cons_zero, List.getElem_cons_succ, Act.put, List.setIfInBounds_toArray, List.set_cons_zero, List.set_cons_succ]
    refine ser_load rfl hS (by rfl) ?_
    apply Exists.intro
    refine ⟨fun w0 hS0 => ?_, ?_⟩
    · (try dsimp only at hS0); go_simp; try with_reducible rfl
    simp only [List.getElem_toArray, List.getElem_cons_zero, List.getElem_cons_succ, Act.put, List.setIfInBounds_toArray, List.set_cons_zero, List.set_cons_succ]
    refine ser_pure rfl (by rfl) ?_
    apply Exists.intro
    refine ⟨fun w0 => ?_, ?_⟩
    · go_simp; try with_reducible rfl
    simp only [List.getElem_toArray, List.getElem_cons_zero, List.getElem_cons_succ, Act.put, List.setIfInBounds_toArray, List.set_cons_zero, List.set_cons_succ]
    refine ser_pure rfl (by rfl) ?_
    apply Exists.intro
    refine ⟨fun w0 => ?_, ?_⟩
    · go_simp; try with_reducible rfl
    simp only [List.getElem_toArray, List.getElem_cons_zero, List.getElem_cons_succ, Act.put, List.setIfInBounds_toArray, List.set_cons_zero, List.set_cons_succ]
    refine ser_load rfl hS (by rfl) ?_
    apply Exists.intro
    refine ⟨fun w0 hS0 => ?_, ?_⟩
    · (try dsimp only at hS0); go_simp; try with_reducible rfl
    simp only [List.getElem_toArray, List.getElem_cons_zero, List.getElem_cons_succ, Act.put, List.setIfInBounds_toArray, List.set_cons_zero, List.set_cons_succ]
    refine ser_loud1 rfl (fun K hK => ?_)
    rw [if_pos (by rfl)]
    go_wp2_with (first
      | (go_at_call 32; refine (operators_any _ _).mono ?_; rintro e w2 ⟨v, rfl, hx2, r, rfl, hM⟩; have hV2 := Ext.block hx2 hV; obtain ⟨cV0, cV1, fV0, fV1⟩ := cells2 hV2))
    refine and_held (by first | go_keep | exact ⟨hx2.c c0, hx2.c c2⟩) (fun hS => ?_)
    refine ser_loud1 rfl (fun K hK => ?_)
    rw [if_pos (by rfl)]
    refine wp_lookup_str (r := r) _ _ (by rfl) under_sigmap under_str (zero_sig _) (by rfl) (by rfl) hM ?_
    rw [HL.out]
    refine hK _ _ ?_
    refine and_held (by first | go_keep | exact ⟨hx2.c c0, hx2.c c2⟩) (fun hS => ?_)
    refine ser_loud2 rfl (fun K hK => ?_)
    rw [if_pos (by rfl)]
    go_wp2_with (first
      | (go_at_call 32; refine (operators_any _ _).mono ?_; rintro e w2 ⟨v, rfl, hx2, r, rfl, hM⟩; have hV2 := Ext.block hx2 hV; obtain ⟨cV0, cV1, fV0, fV1⟩ := cells2 hV2))
    refine ser_nil ?_
    have hE3 := ((hE.drew.trans hx2).row (grown_set w2 (w.heap.size + 1) 0 (.int .i64 o1)) (by omega)).row (grown_set _ (w.heap.size + 1) 1 (.int .i64 o2)) (by omega)
    have hV3 := set_blk (set_blk hV2 0 (.int .i64 o1)) 1 (.int .i64 o2)
    have hKids := hx2.c c3
    have hKids3 := (grown_set (w2.setCell ⟨w.heap.size + 1, 0, none⟩ (.int .i64 o1)) (w.heap.size + 1) 1 (.int .i64 o2)).cell ((grown_set w2 (w.heap.size + 1) 0 (.int .i64 o1)).cell hKids (by simp)) (by simp)
    obtain ⟨cW0, cW1, fW0, fW1⟩ := cells2 hV3
    clear hS hV hV2 hx2 hM hKids cV0 cV1 fV0 fV1 c0 c1 c2 c3 hB hE
    go_wp2_with (go_at_call 33; refine (HC.out _ hE3).mono ?_; rintro e w4 ⟨rfl, hx4⟩; have cX1 := hx4.c cW1)
    go_ret
    exact ⟨rfl, hE3.trans hx4⟩
mutual
theorem typeOf_any : ∀ t : Nd, TypeOfC t
  | .mk k n s l => by
    have ih := typeOf_all l
    by_cases h1 : k = 12 ∨ k = 13 ∨ k = 14 ∨ k = 15
    · exact typeOf_leaf k n s l h1
    · by_cases h16 : k = 16
      · subst h16; exact typeOf_draw n s l ih
      · by_cases h17 : k = 17
        · subst h17; exact typeOf_op17 n s l ih
        · by_cases h18 : k = 18
          · subst h18; exact typeOf_op18 n s l ih
          · exact typeOf_other k n s l (by omega)
theorem typeOf_all : ∀ l : List Nd, ∀ x ∈ l, TypeOfC x
  | [] => fun _ h => by cases h
  | t :: ts =>
    have h1 := typeOf_any t
    have h2 := typeOf_all ts
    fun x hx => (List.mem_cons.1 hx).elim (fun e => e ▸ h1) (h2 x)
end
end Go.Proofs.Ytlmdmmikocbmlaa
