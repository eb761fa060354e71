/- Code: what the abstract run says holds of the real one. -/
import Derived.Test.YtinjgckpmblffaaDoorVmF
namespace Go.Proofs.YtinjgckpmblffaaDoor.Vm
open Go.RowKit
set_option linter.unusedSimpArgs false
set_option linter.unusedVariables false
section
variable {c : Cx} {w0 : World} {C0 : Rd} {β0 : List Nat} {s : S} {a : Act} {w : World} {E : Env} {o : Oper}
/-! ### Code -/
@[irreducible] def LoopW (np : Nat) (f : S → (Exit → S → Prop) → Prop) (s : S) (Q : Exit → S → Prop) : Prop :=
  ∃ (X : Type) (F : X → S) (φ : X → Prop) (μ : X → Nat), (∃ x, Le np s (F x) ∧ φ x) ∧ ∀ x, φ x → f (F x) fun e s' => match e with
    | .normal => ∃ x', Le np s' (F x') ∧ φ x' ∧ μ x' < μ x
    | e => Q e s'
abbrev AW := S → (Exit → S → Prop) → Prop
def awpEnd (e : Exit) (s : S) (Q : Exit → S → Prop) : Prop := Q e s
def awpNo (_ : S) (_ : Exit → S → Prop) : Prop := False
def awpRegion (c : Cx) (id : Nat) (ops : Array Oper) (dr : Bool) (s : S) (Q : Exit → S → Prop) : Prop :=
  match dr with
    | false => aseq c ops.toList ops.toList s fun s' => Q .normal s'
    | true => match allLt (c.xs id) s.bx.length with
      | true => match Tr.isFlow (c.ord id) with
        | true => aflowR c ops.toList s fun s' => Q .normal s'
        | false => match (c.ord id).many with
        | false => aser c (fun i => memB i (c.xs id)) s.bx.length ops.toList (c.ord id) 0 s fun s' => Q .normal s'
        | true => JoinW (fun K => aser c (fun i => memB i (c.xs id)) s.bx.length ops.toList (c.ord id) 0 s K) fun s' => Q .normal s'
      | false => False
def seqQ (y : AW) (Q : Exit → S → Prop) (e : Exit) (s' : S) : Prop := match e with
  | .normal => y s' Q
  | e => Q e s'
def awpSeq (x y : AW) (s : S) (Q : Exit → S → Prop) : Prop := x s (seqQ y Q)
def awpCond (b : Operand) (x y : AW) (s : S) (Q : Exit → S → Prop) : Prop := match ev s b with
  | .v (.bool b) => ifK b (x s Q) (y s Q)
  | _ => False
def blockQ (id : Nat) (Q : Exit → S → Prop) (e : Exit) (s' : S) : Prop := match e with
  | .exit i => match Nat.beq i id with
    | true => Q .normal s'
    | false => Q (.exit i) s'
  | e => Q e s'
def awpBlock (id : Nat) (x : AW) (s : S) (Q : Exit → S → Prop) : Prop := x s (blockQ id Q)
noncomputable def awp (c : Cx) (x : Code) : AW :=
  Code.rec (motive := fun _ => AW) (awpEnd .normal) (fun id ops dr => awpRegion c id ops dr) (fun _ _ x y => awpSeq x y) (fun b _ _ x y => awpCond b x y) (fun id _ x => awpBlock id x) (fun _ x => LoopW c.np x)
    (fun _ _ _ _ _ _ => awpNo) (fun id => awpEnd (.exit id)) (fun _ _ => awpNo) (fun _ => awpEnd .normal) (fun _ => awpNo) (awpEnd .ret) (fun _ => awpNo) x
/-- Every region that draws its order is walked in an order that serves. -/
def ordOk (ord : Nat → Tr) : Code → Bool
  | .region id ops true => match Tr.isFlow (ord id) with
    | true => flowOk ops
    | false => serOkT ops (ord id)
  | .seq x y => ordOk ord x && ordOk ord y
  | .cond _ x y => ordOk ord x && ordOk ord y
  | .block _ x => ordOk ord x
  | .loop x => ordOk ord x
  | _ => true
theorem awp_ok (hc : c.ok) (hn : β0.length = c.np) : ∀ (x : Code) {s : S} {a : Act} {w : World} {q : Exit → S → Prop} {Q : Exit → Act → World → Prop}, ordOk c.ord x = true → Inv w0 C0 β0 s a w → awp c x s q → (∀ e s' a' w', q e s' → Inv w0 C0 β0 s' a' w' → Q e a' w') → x.wp c.P Q a w
  | .skip, s, a, w, q, Q, _, hi, h, hk => wp_skip (hk _ _ _ _ h hi)
  | .region id ops dr, s, a, w, q, Q, ho, hi, h, hk => by
    obtain ⟨l⟩ := ops
    change awpRegion c id l.toArray dr s q at h
    unfold awpRegion at h
    cases dr with
    | false => exact wp_region_lit (seq_ok hc hi h fun s' a' w' h1 h2 => hk _ _ _ _ h1 h2)
    | true =>
      simp only at h
      split at h
      · rename_i hx
        unfold ordOk at ho
        split at h
        · rename_i hfl
          rw [hfl] at ho
          exact flow_ok hc hi ho h fun s' a' w' h1 h2 => hk _ _ _ _ h1 h2
        · rename_i hfl
          rw [hfl] at ho
          split at h
          · exact ser_ok hc hi hx ho h fun s' a' w' h1 h2 => hk _ _ _ _ h1 h2
          · unfold JoinW at h
            obtain ⟨φ, h, h'⟩ := h
            exact ser_ok hc hi hx ho h fun s' a' w' h1 h2 => hk _ _ _ _ (h' _ h1) h2
      · exact h.elim
  | .seq x y, s, a, w, q, Q, ho, hi, h, hk => by
    unfold ordOk at ho
    simp only [Bool.and_eq_true] at ho
    change awp c x s (seqQ (awp c y) q) at h
    refine wp_seq (awp_ok hc hn x ho.1 hi h fun e s' a' w' h1 h2 => ?_)
    cases e with
    | normal => exact awp_ok hc hn y ho.2 h2 h1 hk
    | _ => exact hk _ _ _ _ h1 h2
  | .cond b x y, s, a, w, q, Q, ho, hi, h, hk => by
    unfold ordOk at ho
    simp only [Bool.and_eq_true] at ho
    change awpCond b (awp c x) (awp c y) s q at h
    unfold awpCond at h
    split at h
    · rename_i t hb
      obtain ⟨E, hp, ht, hd⟩ := hi
      obtain ⟨hv, -⟩ := of_v ht hb
      rw [ifK_iff] at h
      exact wp_cond_split hv (fun e => awp_ok hc hn x ho.1 ⟨E, hp, ht, hd⟩ (h.1 e) hk) (fun e => awp_ok hc hn y ho.2 ⟨E, hp, ht, hd⟩ (h.2 e) hk)
    · exact h.elim
  | .block id x, s, a, w, q, Q, ho, hi, h, hk => by
    unfold ordOk at ho
    change awp c x s (blockQ id q) at h
    refine wp_block (awp_ok hc hn x ho hi h fun e s' a' w' h1 h2 => ?_)
    cases e with
    | exit i =>
      unfold blockQ at h1
      simp only at h1
      split at h1
      · rename_i hb
        have := Nat.eq_of_beq_eq_true hb
        show (if i = id then _ else _)
        rw [if_pos this]; exact hk _ _ _ _ h1 h2
      · rename_i hb
        show (if i = id then _ else _)
        rw [if_neg (fun e => by rw [e] at hb; simp at hb)]; exact hk _ _ _ _ h1 h2
    | _ => exact hk _ _ _ _ h1 h2
  | .loop x, s, a, w, q, Q, ho, hi, h, hk => by
    unfold ordOk at ho
    change LoopW c.np (awp c x) s q at h
    unfold LoopW at h
    obtain ⟨X, F, φ, μ, ⟨x0, h1, h2⟩, hround⟩ := h
    obtain ⟨M, hM⟩ := least (p := fun (z : Act × World) n => ∃ x, φ x ∧ Inv w0 C0 β0 (F x) z.1 z.2 ∧ μ x = n)
    refine wp_loop (fun a' w' => ∃ x, φ x ∧ Inv w0 C0 β0 (F x) a' w') (fun a' w' => M (a', w')) ⟨x0, h2, h1 w0 C0 β0 a w hn hi⟩ fun a' w' ⟨x1, h3, h4⟩ => ?_
    obtain ⟨⟨x2, h5, h6, h7⟩, -⟩ := hM (a', w') ⟨_, x1, h3, h4, rfl⟩
    refine awp_ok hc hn x ho h6 (hround x2 h5) fun e s' a2 w2 h8 h9 => ?_
    cases e with
    | normal =>
      obtain ⟨x3, g1, g2, g3⟩ := h8
      have g4 := g1 w0 C0 β0 a2 w2 hn h9
      refine ⟨⟨x3, g2, g4⟩, ?_⟩
      have := (hM (a2, w2) ⟨_, x3, g2, g4, rfl⟩).2 (μ x3) ⟨x3, g2, g4, rfl⟩
      show M (a2, w2) < M (a', w')
      omega
    | _ => exact hk _ _ _ _ h8 h9
  | .exit id, s, a, w, q, Q, _, hi, h, hk => wp_exit (hk _ _ _ _ h hi)
  | .ret, s, a, w, q, Q, _, hi, h, hk => wp_ret (hk _ _ _ _ h hi)
  | .label _, s, a, w, q, Q, _, hi, h, hk => wp_label (hk _ _ _ _ h hi)
  | .rangeFunc .., _, _, _, _, _, _, _, h, _ => h.elim
  | .scope _, _, _, _, _, _, _, _, h, _ => h.elim
  | .goto _, _, _, _, _, _, _, _, h, _ => h.elim
  | .refuse _, _, _, _, _, _, _, _, h, _ => h.elim
end
end Go.Proofs.YtinjgckpmblffaaDoor.Vm
