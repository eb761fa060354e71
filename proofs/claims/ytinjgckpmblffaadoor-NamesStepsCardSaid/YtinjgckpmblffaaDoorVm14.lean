/- How abstract runs are led: calls, loops, weaker states. -/
import Derived.Test.YtinjgckpmblffaaDoorVm13
namespace Go.Proofs.YtinjgckpmblffaaDoor.Vm
open Go.RowKit
set_option linter.unusedSimpArgs false
set_option linter.unusedVariables false
section
variable {P : Program} {Xr : Nat → Bool} {f : Nat} {args args' : List A} {s : S} {K : A → S → Prop} {post : List (List A) → A → Prop} {ins : List (List A)}
/-- A call to which no box is handed. -/
theorem call0 (ids : List Nat) (h2 : renL [] (pubRows s.rw ids) args = some args') (hs : okL args' → Spec P f [] args' post)
    (hk : ∀ r, post [] r → force (back [] r) fun r' => forceR (pubRows s.rw ids) fun rw' => withR s rw' (K r')) : CallW P Xr f args s K := by
  unfold CallW
  refine .inl ⟨[], ids, [], args', post, List.nodup_nil, by simp, by simp, rfl, h2, hs, fun outs r hp hl => ?_⟩
  obtain rfl : outs = [] := List.eq_nil_of_length_eq_zero (by simpa using hl)
  have := hk r hp
  rw [force_iff, forceR_iff, withR_iff] at this
  unfold outK
  show force (back [] r) _
  rw [force_iff, forceR_iff, withBR_iff]
  exact this
/-- A call whose result is a row of its own. -/
theorem callF (g : Nat) (ids : List Nat) {postF : Nat → Nat → Nat → List A → A → Prop} (hg : s.rw.length = g) (h2 : renL [] (pubRows s.rw ids) args = some args') (hs : okL args' → SpecF P f args' postF)
    (hk : ∀ e k n cs r, postF e k n cs r → force (atRow g r) fun r' => forceR (pubRows s.rw ids ++ [.live e k n cs]) fun rw' => withR s rw' (K r')) : CallW P Xr f args s K := by
  unfold CallW
  subst hg
  exact .inr ⟨ids, args', postF, h2, hs, hk⟩
/-- A call to which one box is handed. -/
theorem call1 (i : Nat) (ids : List Nat) {c0 c1 : List A} (hX : Xr i = true) (hi : s.bx[i]? = some c0) (h1 : renL [i] (pubRows s.rw ids) c0 = some c1) (h2 : renL [i] (pubRows s.rw ids) args = some args') (hs : okL args' → Spec P f [c1] args' post)
    (hk : ∀ o r, post [o] r → outK [i] s.bx [i] [o] fun bx' => force (back [i] r) fun r' => forceR (pubRows s.rw ids) fun rw' => withBR s bx' rw' (K r')) : CallW P Xr f args s K := by
  unfold CallW
  left
  have hil := (List.getElem?_eq_some_iff.1 hi).1
  refine ⟨[i], ids, [c1], args', post, by simp, by simpa using hX, by simpa using hil, ?_, h2, hs, fun outs r hp hl => ?_⟩
  · have : s.bx.getD i [] = c0 := by simp [List.getD_eq_getElem?_getD, hi]
    simp only [List.map_cons, List.map_nil, this, renLL, h1]
  · obtain ⟨o, rfl⟩ : ∃ o, outs = [o] := List.length_eq_one_iff.1 (by simpa using hl)
    exact hk o r hp
end
/-! ### Weaker states -/
def zeroIn : List Nat → Bool
  | [] => false
  | 0 :: _ => true
  | (_ + 1) :: r => zeroIn r
def decN : List Nat → List Nat
  | [] => []
  | 0 :: r => decN r
  | (n + 1) :: r => n :: decN r
def decNK : List Nat → (List Nat → Prop) → Prop
  | [], K => K []
  | 0 :: r, K => decNK r K
  | (n + 1) :: r, K => decNK r fun g => K (n :: g)
theorem decNK_iff : ∀ {g : List Nat} {K : List Nat → Prop}, decNK g K ↔ K (decN g)
  | [], K => by simp [decNK, decN]
  | 0 :: r, K => by simp [decNK, decN, decNK_iff (g := r)]
  | (n + 1) :: r, K => by simp [decNK, decN, decNK_iff (g := r)]
/-- The slots that are forgotten. -/
def deadAllK : List Nat → List A → (List A → Prop) → Prop
  | _, [], K => K []
  | W, a :: l, K => decNK W fun W' => match zeroIn W with
    | true => deadAllK W' l fun r => K (.dead :: r)
    | false => deadAllK W' l fun r => K (a :: r)
/-- The slots that are kept. -/
def keepAllK : List Nat → List A → (List A → Prop) → Prop
  | _, [], K => K []
  | W, a :: l, K => decNK W fun W' => match zeroIn W with
    | true => keepAllK W' l fun r => K (a :: r)
    | false => keepAllK W' l fun r => K (.dead :: r)
theorem deadAllK_ex : ∀ {l : List A} {W : List Nat} {K : List A → Prop}, deadAllK W l K → ∃ t, K t
  | [], W, K, h => ⟨_, h⟩
  | a :: l, W, K, h => by
    unfold deadAllK at h
    rw [decNK_iff] at h
    split at h
    · obtain ⟨t, h⟩ := deadAllK_ex h; exact ⟨_, h⟩
    · obtain ⟨t, h⟩ := deadAllK_ex h; exact ⟨_, h⟩
theorem keepAllK_ex : ∀ {l : List A} {W : List Nat} {K : List A → Prop}, keepAllK W l K → ∃ t, K t
  | [], W, K, h => ⟨_, h⟩
  | a :: l, W, K, h => by
    unfold keepAllK at h
    rw [decNK_iff] at h
    split at h
    · obtain ⟨t, h⟩ := keepAllK_ex h; exact ⟨_, h⟩
    · obtain ⟨t, h⟩ := keepAllK_ex h; exact ⟨_, h⟩
def eqL : List A → List A → Prop
  | [], [] => True
  | a :: as, b :: bs => force b fun b => match b with
    | .dead => eqL as bs
    | b => a = b ∧ eqL as bs
  | _, _ => False
def eqB : List (List A) → List (List A) → Prop
  | _, [] => True
  | a :: as, b :: bs => eqL a b ∧ eqB as bs
  | [], _ :: _ => False
def eqR : List Row → List Row → Prop
  | _, [] => True
  | a :: as, b :: bs => match b with
    | .gone => eqR as bs
    | b => a = b ∧ eqR as bs
  | [], _ :: _ => False
def LeS (np : Nat) (s s' : S) : Prop :=
  match Nat.ble np s'.bx.length with
  | true => match refsB s'.bx.length s'.rw.length s'.bx with
    | true => match refsL s'.bx.length s'.rw.length s'.t with
      | true => eqL s.t s'.t ∧ eqB s.bx s'.bx ∧ eqR s.rw s'.rw
      | false => False
    | false => False
  | false => False
theorem eqL_le : ∀ {l m : List A}, eqL l m → LeL l m
  | [], [], _ => trivial
  | a :: as, b :: bs, h => by
    unfold eqL at h
    rw [force_iff] at h
    unfold LeL
    split at h
    · exact ⟨.inl rfl, eqL_le h⟩
    · exact ⟨.inr h.1, eqL_le h.2⟩
  | [], _ :: _, h => h.elim
  | _ :: _, [], h => h.elim
theorem eqB_le : ∀ {l m : List (List A)}, eqB l m → LeB l m
  | _, [], _ => by unfold LeB; trivial
  | a :: as, b :: bs, h => ⟨eqL_le h.1, eqB_le h.2⟩
  | [], _ :: _, h => h.elim
theorem eqR_le : ∀ {l m : List Row}, eqR l m → LeR l m
  | _, [], _ => by unfold LeR; trivial
  | a :: as, b :: bs, h => by
    unfold eqR at h
    unfold LeR
    split at h
    · exact ⟨.inl rfl, eqR_le h⟩
    · exact ⟨.inr h.1, eqR_le h.2⟩
  | [], _ :: _, h => h.elim
theorem le_of {np : Nat} {s s' : S} (h : LeS np s s') : Le np s s' := by
  unfold LeS at h
  split at h
  · rename_i h1
    split at h
    · rename_i h2
      split at h
      · rename_i h3
        exact le_mk h1 h2 h3 (eqL_le h.1) (eqB_le h.2.1) (eqR_le h.2.2)
      · exact h.elim
    · exact h.elim
  · exact h.elim
/-- Nil slices, in these slots and these cells of boxes, become a row. -/
def isNil (a : A) : Prop := match a with
  | .v (.slice none 0 0) => True
  | _ => False
/-- Slices that are nil, at these places, become the row g. -/
def nilK (g : Nat) : List Nat → List A → (List A → Prop) → Prop
  | _, [], K => K []
  | W, a :: l, K => decNK W fun W' => match zeroIn W with
    | true => isNil a ∧ nilK g W' l fun r => K (.own g :: r)
    | false => nilK g W' l fun r => K (a :: r)
def boxes0 : List (Nat × Nat) → List Nat
  | [] => []
  | (x, o) :: r => match x with
    | 0 => o :: boxes0 r
    | _ + 1 => boxes0 r
def nilBK (g : Nat) : List (Nat × Nat) → List (List A) → (List (List A) → Prop) → Prop
  | _, [], K => K []
  | cs, c :: l, K => nilK g (boxes0 cs) c fun c' => decK cs fun cs' => nilBK g cs' l fun r => K (c' :: r)
theorem isNil_eq {a : A} (h : isNil a) : a = .v (.slice none 0 0) := by
  unfold isNil at h
  split at h
  · rfl
  · exact h.elim
theorem nilK_iff {g : Nat} : ∀ {l : List A} {W : List Nat} {K : List A → Prop}, nilK g W l K → ∃ m, NilL g l m ∧ K m
  | [], W, K, h => ⟨[], trivial, h⟩
  | a :: l, W, K, h => by
    unfold nilK at h
    rw [decNK_iff] at h
    split at h
    · obtain ⟨m, h1, h2⟩ := nilK_iff h.2
      exact ⟨.own g :: m, ⟨.inr ⟨isNil_eq h.1, rfl⟩, h1⟩, h2⟩
    · obtain ⟨m, h1, h2⟩ := nilK_iff h
      exact ⟨a :: m, ⟨.inl rfl, h1⟩, h2⟩
theorem nilBK_iff {g : Nat} : ∀ {l : List (List A)} {cs : List (Nat × Nat)} {K : List (List A) → Prop}, nilBK g cs l K → ∃ m, NilB g l m ∧ K m
  | [], b, K, h => ⟨[], trivial, h⟩
  | c :: l, b, K, h => by
    unfold nilBK at h
    obtain ⟨c', h1, h2⟩ := nilK_iff h
    rw [decK_iff] at h2
    obtain ⟨m, h3, h4⟩ := nilBK_iff h2
    exact ⟨c' :: m, ⟨h1, h3⟩, h4⟩
/-- Ahead of a loop: a nil slice is a row to which nothing has been appended. -/
theorem loop_row {np : Nat} {f : S → (Exit → S → Prop) → Prop} {t : List A} {bx : List (List A)} {rw : List Row} {Q : Exit → S → Prop} (e k : Nat) (ts : List Nat) (cs : List (Nat × Nat))
    (h : snocK rw (.live e k 0 []) 0 fun g rw' => nilK g ts t fun t' => nilBK g cs bx fun bx' => LoopW np f ⟨t', bx', rw'⟩ Q) : LoopW np f ⟨t, bx, rw⟩ Q := by
  rw [snocK_iff, Nat.zero_add] at h
  obtain ⟨t', h1, h⟩ := nilK_iff h
  obtain ⟨bx', h2, h⟩ := nilBK_iff h
  have hle : Le np ⟨t, bx, rw⟩ ⟨t', bx', rw ++ [.live e k 0 []]⟩ := le_nil (s := ⟨t, bx, rw⟩) e k h1 h2
  unfold LoopW at h ⊢
  obtain ⟨X, F, φ, μ, ⟨x, h3, h4⟩, h5⟩ := h
  exact ⟨X, F, φ, μ, ⟨x, hle.trans h3, h4⟩, h5⟩
/-- Rows that are appended to no more read as slices. -/
def subA (rw : List Row) (a : A) : A := match a with
  | .own g => match rw[g]? with
    | some (.pub k n cs) => .sl k n cs
    | _ => .own g
  | a => a
def subBK (rw : List Row) : List (List A) → (List (List A) → Prop) → Prop
  | [], K => K []
  | c :: l, K => mapK (subA rw) c fun c' => subBK rw l fun r => K (c' :: r)
theorem subBK_iff {rw : List Row} : ∀ {l : List (List A)} {K : List (List A) → Prop}, subBK rw l K ↔ K (l.map fun c => c.map (subA rw))
  | [], K => by simp [subBK]
  | c :: l, K => by simp [subBK, mapK_iff, subBK_iff (l := l)]
theorem subA_rep {w0 w : World} {C0 : Rd} {β0 : List Nat} {bx : List (List A)} {rw : List Row} {E : Env} (hp : Hp w0 C0 β0 bx rw w E) {a : A} {y : Value} (h : a.rep E y) : (subA rw a).rep E y := by
  cases a with
  | own g =>
    unfold subA
    simp only
    split
    · rename_i k n cs hg
      have h2 := h
      unfold A.rep at h2
      exact hp.rws g _ y hg h2
    · exact h
  | _ => exact h
theorem subL_rep {w0 w : World} {C0 : Rd} {β0 : List Nat} {bx : List (List A)} {rw : List Row} {E : Env} (hp : Hp w0 C0 β0 bx rw w E) : ∀ {l : List A} {us : List Value}, A.repL l E us → A.repL (l.map (subA rw)) E us
  | [], us, h => by simpa using h
  | a :: r, us, h => by
    unfold A.repL at h
    obtain ⟨u, us', rfl, h2, h3⟩ := h
    simp only [List.map_cons]
    unfold A.repL
    exact ⟨u, us', rfl, subA_rep hp h2, subL_rep hp h3⟩
theorem le_sub {np : Nat} {s : S} : Le np s ⟨s.t.map (subA s.rw), s.bx.map fun c => c.map (subA s.rw), s.rw⟩ := by
  rintro w0 C0 β0 a w _ ⟨E, hp, hrep, hd⟩
  refine ⟨E, ⟨hp.sub, hp.base, hp.fresh, hp.bp, hp.bnd, hp.bC, by simpa using hp.bl, fun i b cs h1 h2 => ?_, hp.rl, hp.rws, hp.rC, hp.rd, hp.rs, hp.keep, hp.gk⟩, subL_rep hp hrep, hd⟩
  rw [List.getElem?_map, Option.map_eq_some_iff] at h2
  obtain ⟨c0, h2, rfl⟩ := h2
  obtain ⟨T', arr, h3, h4⟩ := hp.bxs i b c0 h1 h2
  exact ⟨T', arr, h3, A.repC_mk (subL_rep hp (A.repC_L h4)) (A.repC_one h4)⟩
theorem loop_le {np : Nat} {f : S → (Exit → S → Prop) → Prop} {s s' : S} {Q : Exit → S → Prop} (hle : Le np s s') (h : LoopW np f s' Q) : LoopW np f s Q := by
  unfold LoopW at h ⊢
  obtain ⟨X, F, φ, μ, ⟨x, h3, h4⟩, h5⟩ := h
  exact ⟨X, F, φ, μ, ⟨x, hle.trans h3, h4⟩, h5⟩
theorem loop_pub {np : Nat} {f : S → (Exit → S → Prop) → Prop} {t : List A} {bx : List (List A)} {rw : List Row} {Q : Exit → S → Prop} (ids : List Nat)
    (h : forceR (pubRows rw ids) fun rw' => mapK (subA rw') t fun t' => subBK rw' bx fun bx' => LoopW np f ⟨t', bx', rw'⟩ Q) : LoopW np f ⟨t, bx, rw⟩ Q := by
  rw [forceR_iff, mapK_iff, subBK_iff] at h
  exact loop_le ((le_pub (s := ⟨t, bx, rw⟩) ids).trans le_sub) h
theorem ok_pub {c : Cx} {x : Code} {t : List A} {bx : List (List A)} {rw : List Row} {q : Exit → S → Prop} (ids : List Nat)
    (h : forceR (pubRows rw ids) fun rw' => mapK (subA rw') t fun t' => subBK rw' bx fun bx' => Ok c x ⟨t', bx', rw'⟩ q) : Ok c x ⟨t, bx, rw⟩ q := by
  rw [forceR_iff, mapK_iff, subBK_iff] at h
  exact ok_le ((le_pub (s := ⟨t, bx, rw⟩) ids).trans le_sub) h
/-! ### Loops -/
def forceL : List A → (List A → Prop) → Prop
  | [], K => K []
  | a :: l, K => force a fun a => forceL l fun r => K (a :: r)
theorem forceL_iff : ∀ {l : List A} {K : List A → Prop}, forceL l K ↔ K l
  | [], K => by simp [forceL]
  | a :: l, K => by simp [forceL, force_iff, forceL_iff (l := l)]
def forceB : List (List A) → (List (List A) → Prop) → Prop
  | [], K => K []
  | a :: l, K => forceL a fun a => forceB l fun r => K (a :: r)
theorem forceB_iff : ∀ {l : List (List A)} {K : List (List A) → Prop}, forceB l K ↔ K l
  | [], K => by simp [forceB]
  | a :: l, K => by simp [forceB, forceL_iff, forceB_iff (l := l)]
/-- A loop whose base is known: the slots of W have been forgotten. -/
@[irreducible] def LoopG (np : Nat) (f : S → (Exit → S → Prop) → Prop) (s : S) (_t0 : List A) (Q : Exit → S → Prop) : Prop :=
  LoopW np f s Q
theorem loop_at {np : Nat} {f : S → (Exit → S → Prop) → Prop} {s : S} {Q : Exit → S → Prop} (W : List Nat) (h : deadAllK W s.t fun t0 => LoopG np f s t0 Q) : LoopW np f s Q := by
  obtain ⟨t, h⟩ := deadAllK_ex h
  unfold LoopG at h
  exact h
theorem loop_keep {np : Nat} {f : S → (Exit → S → Prop) → Prop} {s : S} {Q : Exit → S → Prop} (W : List Nat) (h : keepAllK W s.t fun t0 => LoopG np f s t0 Q) : LoopW np f s Q := by
  obtain ⟨t, h⟩ := keepAllK_ex h
  unfold LoopG at h
  exact h
/-- The state at a loop's head. -/
def headS {X : Type} (t0 : List A) (g : X → List (Nat × A)) (bx : X → List (List A)) (rw : X → List Row) (x : X) : S := ⟨setAll (g x) t0, bx x, rw x⟩
def headK {X : Type} (t0 : List A) (g : X → List (Nat × A)) (bx : X → List (List A)) (rw : X → List Row) (x : X) (K : S → Prop) : Prop :=
  setAllK (g x) t0 fun t => forceB (bx x) fun b => forceR (rw x) fun r => K ⟨t, b, r⟩
theorem headK_iff {X : Type} {t0 : List A} {g : X → List (Nat × A)} {bx : X → List (List A)} {rw : X → List Row} {x : X} {K : S → Prop} : headK t0 g bx rw x K ↔ K (headS t0 g bx rw x) := by
  unfold headK headS
  rw [setAllK_iff, forceB_iff, forceR_iff]
theorem le_head {X : Type} {np : Nat} {s : S} {t0 : List A} {g : X → List (Nat × A)} {bx : X → List (List A)} {rw : X → List Row} {x : X} (h : headK t0 g bx rw x fun s' => LeS np s s') : Le np s (headS t0 g bx rw x) := le_of (headK_iff.1 h)
/-- What the boxes and rows hold is told, and some of the slots. -/
theorem loop_go {np : Nat} {f : S → (Exit → S → Prop) → Prop} {s : S} {t0 : List A} {Q : Exit → S → Prop} {X : Type} (g : X → List (Nat × A)) (bx : X → List (List A)) (rw : X → List Row) (φ : X → Prop) (μ : X → Nat) (x0 : X)
    (h0 : headK t0 g bx rw x0 fun s' => LeS np s s') (hφ : φ x0)
    (hr : ∀ x, φ x → headK t0 g bx rw x fun s1 => f s1 fun e s' => match e with
      | .normal => ∃ x', Le np s' (headS t0 g bx rw x') ∧ φ x' ∧ μ x' < μ x
      | e => Q e s') : LoopG np f s t0 Q := by
  unfold LoopG
  unfold LoopW
  exact ⟨X, headS t0 g bx rw, φ, μ, ⟨x0, le_head h0, hφ⟩, fun x hx => headK_iff.1 (hr x hx)⟩
theorem br_true {b : Bool} {p q : Prop} (hb : b = true) (h : p) : ifK b p q := ifK_iff.2 ⟨fun _ => h, fun e => by rw [hb] at e; cases e⟩
theorem br_false {b : Bool} {p q : Prop} (hb : b = false) (h : q) : ifK b p q := ifK_iff.2 ⟨fun e => (by rw [hb] at e; cases e), fun _ => h⟩
theorem br_both {b : Bool} {p q : Prop} (h : b = true → p) (k : b = false → q) : ifK b p q := ifK_iff.2 ⟨h, k⟩
theorem spec_args {P : Program} {f : Nat} {ins : List (List A)} {args args' : List A} {post : List (List A) → A → Prop} (h : ∀ E us, A.repL args' E us → A.repL args E us) (k : Spec P f ins args post) : Spec P f ins args' post :=
  ⟨k.1, fun w C β vals h0 h1 h2 h3 h4 h5 h6 => k.2 w C β vals h0 h1 h2 h3 h4 h5 (h _ _ h6)⟩
theorem nil_sl {E : Env} {y : Value} {k : Nat} (h : (A.v (.slice none 0 0)).rep E y) : (A.sl k 0 []).rep E y := by
  rw [(A.rep_v_iff.1 h).1]
  unfold A.rep
  exact ⟨by simp, by simp, none, 0, 0, 0, rfl, Nat.le_refl _, .inl rfl, fun _ => rfl, by simp [A.repAt]⟩
theorem i64r {n : Int} (h : -9223372036854775808 ≤ n ∧ n ≤ 9223372036854775807) : lo .i64 ≤ n ∧ n ≤ hi .i64 := h
theorem rowOf_flat {α : Type} {k : Nat} (f : α → List A) (hf : ∀ x, (f x).length = k) : ∀ (l : List α) (i : Nat) (hi : i < l.length), rowOf k i (l.flatMap f) = f l[i]
  | x :: l, 0, _ => by
    unfold rowOf
    simp only [List.flatMap_cons, Nat.zero_mul, List.drop_zero, List.getElem_cons_zero]
    rw [List.take_append, List.take_of_length_le (by rw [hf]; exact Nat.le_refl _), hf]; simp
  | x :: l, i + 1, hi => by
    have := rowOf_flat f hf l i (by simpa using hi)
    unfold rowOf at this ⊢
    simp only [List.flatMap_cons, List.getElem_cons_succ] at this ⊢
    rw [show (i + 1) * k = (f x).length + i * k by rw [hf, Nat.add_mul]; omega, List.drop_append, List.drop_of_length_le (by omega), List.nil_append]
    simpa using this
theorem map_flat {α : Type} (f : α → A) (l : List α) : l.map f = l.flatMap fun x => [f x] := by
  induction l with
  | nil => rfl
  | cons a r ih => simp [List.flatMap_cons, ih]
theorem rowOf_map {α : Type} (f : α → A) (l : List α) (i : Nat) (hi : i < l.length) : rowOf 1 i (l.map f) = [f l[i]] := by
  rw [map_flat]
  exact rowOf_flat (k := 1) (fun x => [f x]) (fun _ => rfl) l i hi
theorem len_row {l : List A} {n : Nat} (h : okA (.sl 1 n l)) : l.length = n := by unfold okA at h; simpa using h.1
end Go.Proofs.YtinjgckpmblffaaDoor.Vm
