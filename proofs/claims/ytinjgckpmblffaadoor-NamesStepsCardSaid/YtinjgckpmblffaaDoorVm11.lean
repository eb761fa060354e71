/- The state as a whole; weaker states. -/
import Derived.Test.YtinjgckpmblffaaDoorVm10
namespace Go.Proofs.YtinjgckpmblffaaDoor.Vm
open Go.RowKit
set_option linter.unusedSimpArgs false
set_option linter.unusedVariables false
def Inv (w0 : World) (C0 : Rd) (β0 : List Nat) (s : S) (a : Act) (w : World) : Prop := ∃ E, Hp w0 C0 β0 s.bx s.rw w E ∧ A.repL s.t E a.tmps.toList ∧ a.defers = []
/-- A state says no more than another; so many boxes are the caller's. -/
def Le (np : Nat) (s s' : S) : Prop := ∀ w0 C0 β0 a w, β0.length = np → Inv w0 C0 β0 s a w → Inv w0 C0 β0 s' a w
theorem Le.refl (np : Nat) (s : S) : Le np s s := fun _ _ _ _ _ _ h => h
theorem Le.trans {np : Nat} {a b c : S} (h : Le np a b) (k : Le np b c) : Le np a c := fun w0 C0 β0 x w e i => k w0 C0 β0 x w e (h w0 C0 β0 x w e i)
def LeA (a b : A) : Prop := b = .dead ∨ a = b
def LeL : List A → List A → Prop
  | [], [] => True
  | a :: as, b :: bs => LeA a b ∧ LeL as bs
  | _, _ => False
def LeB : List (List A) → List (List A) → Prop
  | _, [] => True
  | a :: as, b :: bs => LeL a b ∧ LeB as bs
  | [], _ :: _ => False
def LeR : List Row → List Row → Prop
  | _, [] => True
  | a :: as, b :: bs => (b = .gone ∨ a = b) ∧ LeR as bs
  | [], _ :: _ => False
mutual
/-- Only so many boxes and rows are named. -/
def refs (nb nr : Nat) : A → Bool
  | .own g => Nat.blt g nr
  | .orow g _ => Nat.blt g nr
  | .box b _ => Nat.blt b nb
  | .clo _ l => refsL nb nr l
  | .agg l => refsL nb nr l
  | .tup l => refsL nb nr l
  | _ => true
def refsL (nb nr : Nat) : List A → Bool
  | [] => true
  | a :: r => match refs nb nr a with
    | true => refsL nb nr r
    | false => false
end
def refsB (nb nr : Nat) : List (List A) → Bool
  | [] => true
  | a :: r => match refsL nb nr a with
    | true => refsB nb nr r
    | false => false
section
variable {w0 w : World} {C0 : Rd} {β0 : List Nat} {E : Env} {nb nr : Nat}
mutual
theorem refs_rep : ∀ (a : A) {y : Value}, refs nb nr a = true → a.rep E y → a.rep ⟨E.C, E.β.take nb, E.ρ.take nr⟩ y
  | .dead, y, _, _ => A.rep_dead _ _
  | .v x, y, _, h => by unfold A.rep at h ⊢; exact h
  | .sl k n cs, y, _, h => by unfold A.rep at h ⊢; exact h
  | .pp cs, y, _, h => by unfold A.rep at h ⊢; exact h
  | .gp _ _, y, _, h => by unfold A.rep at h ⊢; exact h
  | .err, y, _, h => by unfold A.rep at h ⊢; exact h
  | .own g, y, hn, h => by
    unfold A.rep at h ⊢
    have : g < nr := by simpa [refs] using hn
    simp [this, h]
  | .orow g off, y, hn, h => by
    unfold A.rep at h ⊢
    obtain ⟨b, n, cap, h1, h2⟩ := h
    have : g < nr := by simpa [refs] using hn
    exact ⟨b, n, cap, by simp [this, h1], h2⟩
  | .box i off, y, hn, h => by
    unfold A.rep at h ⊢
    obtain ⟨b, h1, h2⟩ := h
    have : i < nb := by simpa [refs] using hn
    exact ⟨b, by simp [this, h1], h2⟩
  | .clo f l, y, hn, h => by
    unfold A.rep at h ⊢
    obtain ⟨us, h1, h2⟩ := h
    exact ⟨us, h1, refs_repL l (by simpa [refs] using hn) h2⟩
  | .agg l, y, hn, h => by
    unfold A.rep at h ⊢
    obtain ⟨us, h1, h2⟩ := h
    exact ⟨us, h1, A.repC_mk (refs_repL l (by simpa [refs] using hn) (A.repC_L h2)) (A.repC_one h2)⟩
  | .tup l, y, hn, h => by
    unfold A.rep at h ⊢
    obtain ⟨us, h1, h2⟩ := h
    exact ⟨us, h1, refs_repL l (by simpa [refs] using hn) h2⟩
theorem refs_repL : ∀ (l : List A) {us : List Value}, refsL nb nr l = true → A.repL l E us → A.repL l ⟨E.C, E.β.take nb, E.ρ.take nr⟩ us
  | [], us, _, h => by unfold A.repL at h ⊢; exact h
  | a :: r, us, hn, h => by
    unfold A.repL at h ⊢
    obtain ⟨u, us', h1, h2, h3⟩ := h
    unfold refsL at hn
    split at hn
    · rename_i ha
      exact ⟨u, us', h1, refs_rep a ha h2, refs_repL r hn h3⟩
    · cases hn
end
theorem refsB_get : ∀ {l : List (List A)} {i : Nat} {c : List A}, refsB nb nr l = true → l[i]? = some c → refsL nb nr c = true
  | [], i, c, _, h => by simp at h
  | a :: r, i, c, hn, h => by
    unfold refsB at hn
    split at hn
    · rename_i ha
      cases i with
      | zero => simp at h; subst h; exact ha
      | succ i => exact refsB_get hn (by simpa using h)
    · cases hn
theorem LeL_rep : ∀ {l m : List A} {us : List Value}, LeL l m → A.repL l E us → A.repL m E us
  | [], [], us, _, h => h
  | a :: as, b :: bs, us, hl, h => by
    unfold A.repL at h ⊢
    obtain ⟨u, us', h1, h2, h3⟩ := h
    refine ⟨u, us', h1, ?_, LeL_rep hl.2 h3⟩
    rcases hl.1 with rfl | rfl
    · exact A.rep_dead _ _
    · exact h2
  | [], _ :: _, _, hl, _ => hl.elim
  | _ :: _, [], _, hl, _ => hl.elim
theorem LeB_get : ∀ {l m : List (List A)} {i : Nat} {c : List A}, LeB l m → m[i]? = some c → ∃ c0, l[i]? = some c0 ∧ LeL c0 c
  | _, [], i, c, _, h => by simp at h
  | a :: as, b :: bs, i, c, hl, h => by
    cases i with
    | zero => simp at h; subst h; exact ⟨a, rfl, hl.1⟩
    | succ i => simpa using LeB_get hl.2 (by simpa using h)
  | [], _ :: _, _, _, hl, _ => hl.elim
theorem LeB_len : ∀ {l m : List (List A)}, LeB l m → m.length ≤ l.length
  | _, [], _ => by simp
  | a :: as, b :: bs, hl => by simpa using LeB_len hl.2
  | [], _ :: _, hl => hl.elim
theorem LeR_get : ∀ {l m : List Row} {i : Nat} {c : Row}, LeR l m → m[i]? = some c → ∃ c0, l[i]? = some c0 ∧ (c = .gone ∨ c0 = c)
  | _, [], i, c, _, h => by simp at h
  | a :: as, b :: bs, i, c, hl, h => by
    cases i with
    | zero => simp at h; subst h; exact ⟨a, rfl, hl.1⟩
    | succ i => simpa using LeR_get hl.2 (by simpa using h)
  | [], _ :: _, _, _, hl, _ => hl.elim
theorem LeR_len : ∀ {l m : List Row}, LeR l m → m.length ≤ l.length
  | _, [], _ => by simp
  | a :: as, b :: bs, hl => by simpa using LeR_len hl.2
  | [], _ :: _, hl => hl.elim
theorem Hp.weaken {bx bx' : List (List A)} {rw rw' : List Row} (h : Hp w0 C0 β0 bx rw w E) (hn : β0.length ≤ bx'.length) (hb : LeB bx bx') (hr : LeR rw rw') (hrf : refsB bx'.length rw'.length bx' = true) :
    Hp w0 C0 β0 bx' rw' w ⟨E.C, E.β.take bx'.length, E.ρ.take rw'.length⟩ := by
  have hbl := LeB_len hb
  have hrl := LeR_len hr
  have b1 := h.bl
  have r1 := h.rl
  have getβ : ∀ {i b : Nat}, (E.β.take bx'.length)[i]? = some b → E.β[i]? = some b := fun {i b} hi => by
    rw [List.getElem?_take] at hi
    split at hi
    · exact hi
    · cases hi
  have getρ : ∀ {i : Nat} {b : Value}, (E.ρ.take rw'.length)[i]? = some b → E.ρ[i]? = some b := fun {i b} hi => by
    rw [List.getElem?_take] at hi
    split at hi
    · exact hi
    · cases hi
  have live : ∀ {g e k n : Nat} {cs : List A}, rw'[g]? = some (.live e k n cs) → rw[g]? = some (.live e k n cs) := fun {g e k n cs} hg => by
    obtain ⟨c0, h1, h2 | h2⟩ := LeR_get hr hg
    · cases h2
    · rw [← h2]; exact h1
  refine ⟨h.sub, h.base, h.fresh, ?_, h.bnd.sublist (List.take_sublist _ _), fun b hb' => h.bC b (List.mem_of_mem_take hb'), by simp; omega, fun i b cs h1 h2 => ?_, by simp; omega, fun g r y h1 h2 => ?_, fun g e k n cs y b h1 h2 h3 => ?_, fun g e k n cs y g' e' k' n' cs' z b hne h1 h2 h3 h4 h5 => ?_, fun g y h1 => h.rs g y (getρ h1), h.keep, h.gk⟩
  · obtain ⟨β', hβ, hβ'⟩ := h.bp
    refine ⟨β'.take (bx'.length - β0.length), ?_, fun b hb' => hβ' b (List.mem_of_mem_take hb')⟩
    rw [hβ, List.take_append, List.take_of_length_le hn]
  · obtain ⟨c0, h3, h4⟩ := LeB_get hb h2
    obtain ⟨T', arr, h5, h6⟩ := h.bxs i b c0 (getβ h1) h3
    exact ⟨T', arr, h5, A.repC_mk (refs_repL cs (refsB_get hrf h2) (LeL_rep h4 (A.repC_L h6))) (A.repC_one h6)⟩
  · obtain ⟨c0, h3, rfl | rfl⟩ := LeR_get hr h1
    · trivial
    · have := h.rws g c0 y h3 (getρ h2)
      cases c0 with
      | live e k n cs => exact this
      | pub k n cs =>
        have h5 : (A.sl k n cs).rep _ y := this
        show (A.sl k n cs).rep _ y
        unfold A.rep at h5 ⊢; exact h5
      | gone => trivial
  · obtain ⟨h4, h5⟩ := h.rC g e k n cs y b (live h1) (getρ h2) h3
    exact ⟨fun hb' => h4 (List.mem_of_mem_take hb'), h5⟩
  · exact h.rd g e k n cs y g' e' k' n' cs' z b hne (live h1) (getρ h2) (live h3) (getρ h4) h5
end
theorem le_mk {np : Nat} {s s' : S} (hn : Nat.ble np s'.bx.length = true) (hrf : refsB s'.bx.length s'.rw.length s'.bx = true) (hrt : refsL s'.bx.length s'.rw.length s'.t = true) (ht : LeL s.t s'.t) (hb : LeB s.bx s'.bx) (hr : LeR s.rw s'.rw) : Le np s s' := by
  rintro w0 C0 β0 a w e ⟨E, hp, hrep, hd⟩
  have hn' := Nat.le_of_ble_eq_true hn
  exact ⟨_, hp.weaken (by omega) hb hr hrf, refs_repL s'.t hrt (LeL_rep ht hrep), hd⟩
/-! ### A nil slice is a row to which nothing has been appended -/
def NilA (g : Nat) (a b : A) : Prop := a = b ∨ (a = .v (.slice none 0 0) ∧ b = .own g)
def NilL (g : Nat) : List A → List A → Prop
  | [], [] => True
  | a :: as, b :: bs => NilA g a b ∧ NilL g as bs
  | _, _ => False
def NilB (g : Nat) : List (List A) → List (List A) → Prop
  | [], [] => True
  | a :: as, b :: bs => NilL g a b ∧ NilB g as bs
  | _, _ => False
theorem NilL_rep {E : Env} {g : Nat} (hg : E.ρ[g]? = some (.slice none 0 0)) : ∀ {l m : List A} {us : List Value}, NilL g l m → A.repL l E us → A.repL m E us
  | [], [], us, _, h => h
  | a :: as, b :: bs, us, hl, h => by
    unfold A.repL at h ⊢
    obtain ⟨u, us', h1, h2, h3⟩ := h
    refine ⟨u, us', h1, ?_, NilL_rep hg hl.2 h3⟩
    rcases hl.1 with rfl | ⟨rfl, rfl⟩
    · exact h2
    · have := (A.rep_v_iff.1 h2).1
      rw [this]
      unfold A.rep; exact hg
  | [], _ :: _, _, hl, _ => hl.elim
  | _ :: _, [], _, hl, _ => hl.elim
theorem NilB_get {g : Nat} : ∀ {l m : List (List A)} {i : Nat} {c : List A}, NilB g l m → m[i]? = some c → ∃ c0, l[i]? = some c0 ∧ NilL g c0 c
  | [], [], i, c, _, h => by simp at h
  | a :: as, b :: bs, i, c, hl, h => by
    cases i with
    | zero => simp at h; subst h; exact ⟨a, rfl, hl.1⟩
    | succ i => simpa using NilB_get hl.2 (by simpa using h)
  | [], _ :: _, _, _, hl, _ => hl.elim
  | _ :: _, [], _, _, hl, _ => hl.elim
theorem NilB_len {g : Nat} : ∀ {l m : List (List A)}, NilB g l m → m.length = l.length
  | [], [], _ => rfl
  | a :: as, b :: bs, hl => by simpa using NilB_len hl.2
  | [], _ :: _, hl => hl.elim
  | _ :: _, [], hl => hl.elim
theorem le_nil {np : Nat} {s : S} {t : List A} {bx : List (List A)} (e k : Nat) (ht : NilL s.rw.length s.t t) (hb : NilB s.rw.length s.bx bx) : Le np s ⟨t, bx, s.rw ++ [.live e k 0 []]⟩ := by
  rintro w0 C0 β0 a w _ ⟨E, hp, hrep, hd⟩
  obtain ⟨h1, le⟩ := hp.nilRow e k
  have hg : (E.ρ ++ [Value.slice none 0 0])[s.rw.length]? = some (.slice none 0 0) := by rw [hp.rl]; simp
  refine ⟨⟨E.C, E.β, E.ρ ++ [.slice none 0 0]⟩, ?_, NilL_rep hg ht (A.repL.mono _ le hrep), hd⟩
  exact ⟨h1.sub, h1.base, h1.fresh, h1.bp, h1.bnd, h1.bC, by rw [NilB_len hb]; exact h1.bl, fun i b cs h2 h3 => by
    obtain ⟨c0, h4, h5⟩ := NilB_get hb h3
    obtain ⟨T', arr, h6, h7⟩ := h1.bxs i b c0 h2 h4
    exact ⟨T', arr, h6, A.repC_mk (NilL_rep hg h5 (A.repC_L h7)) (A.repC_one h7)⟩, h1.rl, h1.rws, h1.rC, h1.rd, h1.rs, h1.keep, h1.gk⟩
/-- A row that is appended to no more reads as a slice. -/
theorem le_pub {np : Nat} {s : S} (ids : List Nat) : Le np s ⟨s.t, s.bx, pubRows s.rw ids⟩ := by
  rintro w0 C0 β0 a w _ ⟨E, hp, hrep, hd⟩
  obtain ⟨C', h1, le⟩ := hp.pubs ids
  exact ⟨_, h1, A.repL.mono _ le hrep, hd⟩
end Go.Proofs.YtinjgckpmblffaaDoor.Vm
