/- Texts 5 of the proof: P25, VmD, P26, C0, C1, C2, C3, C12, C11, C14, C15, C16, C13, C17, C18, VmB, C4, C5, C6, VmX, C7, C8, C9. -/
import Derived.Test.YtfbifdccmabdbaaGreatDoorM4
import Derived.Recover
namespace Go.Proofs.YtfbifdccmabdbaaGreatDoor.Vm
open Go.RowKit Go.Shelf
set_option linter.unusedSimpArgs false
set_option linter.unusedVariables false
set_option maxRecDepth 100000
def K6 (t : Tk) : Prop := (t.kind = 1 ∧ ∃ c r, t.text.data.toList = c :: r ∧ isL c = true ∧ ∀ x ∈ c :: r, isLD x = true) ∨ (t.kind = 3 ∧ ∃ c r, t.text.data.toList = c :: r ∧ isLD c = false) ∨ (t.kind = 0 ∧ t.text.data.toList = []) ∨ (t.kind = 2 ∧ ∃ c r, t.text.data.toList = c :: r ∧ isD c = true)
theorem tok_k6 {l : List UInt8} {k : Int} {len : Nat} {n : Int} {p : Nat} (h : tokF l = .tok k len n) : K6 ⟨k, p, bs (l.take len), n⟩ := by
 unfold K6
 simp only [bs_list]
 cases l with
 | nil => simp [tokF] at h
 | cons c r =>
  cases hL : isL c
  ·cases hD : isD c
   ·have h3 : k = 3 ∧ (len = 1 ∨ len = 2) := by
     cases h3 : hasF twos (bs ((c :: r).take 2))
     ·cases h4 : hasF ones (bs [c])
      ·simp only [tokF, hL, hD, h3, h4] at h
       cases h
      ·simp only [tokF, hL, hD, h3, h4] at h
       cases h; exact ⟨rfl, .inl rfl⟩
     ·simp only [tokF, hL, hD, h3] at h
      cases h; exact ⟨rfl, .inr rfl⟩
    right; left
    refine ⟨h3.1, c, r.take (len - 1), ?_, by unfold isLD; rw [hL, hD]; rfl⟩
    rcases h3.2 with e | e <;> rw [e] <;> rfl
   ·simp only [tokF, hL, hD] at h
    split at h
    ·cases h
    ·cases h
     exact .inr (.inr (.inr ⟨rfl, c, r.take (spanN isD r), List.take_succ_cons, hD⟩))
  ·simp only [tokF, hL] at h
   split at h
   ·cases h
   ·cases h
    left
    refine ⟨rfl, c, r.take (spanN isLD r), List.take_succ_cons, hL, fun x hx => ?_⟩
    rcases List.mem_cons.1 hx with rfl | hx
    ·unfold isLD; rw [hL]; rfl
    ·exact span_take isLD r x hx
theorem lexG_k6 : ∀ (f p : Nat) (l : List UInt8), ∀ t ∈ (lexG f p l).toks, K6 t
 | 0, p, l => by simp [lexG]
 | f + 1, p, [] => by simp [lexG]
 | f + 1, p, c :: r => by
  rw [lexG]
  split
  ·exact lexG_k6 f _ _
  ·split
   ·exact lexG_k6 f _ _
   ·cases ht : tokF (c :: r) with
    | bad e => simp
    | tok k len n =>
     intro t hm
     simp only [Lx.cons, List.mem_cons] at hm
     rcases hm with rfl | hm
     ·exact tok_k6 ht
     ·exact lexG_k6 f _ _ t hm
theorem row_k6 {s : ByteArray} (he : (lexF' s).err = none) : ∀ t ∈ rowT s, K6 t := fun t ht => by
 rw [rowT_none he, List.mem_append] at ht
 rcases ht with ht | ht
 ·exact lexG_k6 _ _ _ t ht
 ·rw [List.mem_singleton.1 ht]
  exact .inr (.inr (.inl ⟨rfl, rfl⟩))
theorem isLD_blank {c : UInt8} (h : isLD c = true) : c ≠ 32 := fun e => by subst e; revert h; decide
theorem k6_wOk {t : Tk} (h : K6 t) : wOk t := fun hk => by
 rcases h with ⟨_, c, r, h1, _, h3⟩ | ⟨h1, _⟩ | ⟨h1, _⟩ | ⟨h1, _⟩
 ·rw [h1]
  exact ⟨by simp, fun x hx => isLD_blank (h3 x hx)⟩
 ·omega
 ·omega
 ·omega
theorem row_tkP {s : ByteArray} (hs : s.size ≤ 3000) (he : (lexF' s).err = none) : TkP (rowT s) := ⟨row_tkB hs he, fun t ht => k6_wOk (row_k6 he t ht)⟩
def okE (x e : Int) : Prop := (0 ≤ x ∧ x ≤ 1000000000) ∧ 0 < e ∧ e ≤ 100
def SanN (p : Pn) : Prop := match p with
 | .bad x e => okE x e
 | _ => True
def SanF (op : List Tk → Pn) : Prop := ∀ ts, TkP ts → SanN (op ts)
theorem TkP.hp {ts : List Tk} (h : TkP ts) : (Vm.hd ts).pos ≤ 1000000000 := h.good.2.2.2.2.2
theorem san_bad {ts : List Tk} (h : TkP ts) {e : Int} (he : 0 < e ∧ e ≤ 100) : SanN (.bad (hd ts).pos e) := ⟨⟨by omega, by have := h.hp; omega⟩, he⟩
theorem san_then {p : Pn} {k : Nt → List Tk → Pn} (h : SanN p) (hk : ∀ f r, p = .ok f r → SanN (k f r)) : SanN (p.andThen k) := by
 cases p with
 | ok f r => exact hk f r rfl
 | bad x e => exact h
theorem san_xpt {s : ByteArray} {ts : List Tk} {k : List Tk → Pn} (h : TkP ts) (hk : TkP ts.tail → SanN (k ts.tail)) : SanN (xpt s ts k) := by
 unfold xpt
 by_cases hs : isP s ts = true
 ·rw [if_pos hs]; exact hk (h.is hs).1
 ·rw [if_neg hs]; exact san_bad h (by decide)
theorem san_num {lim : Int} {ts : List Tk} {k : Int → List Tk → Pn} (h : TkP ts) (hk : TkP ts.tail → SanN (k (hd ts).n ts.tail)) : SanN (numP lim ts k) := by
 unfold numP
 by_cases h1 : (hd ts).kind ≠ 2
 ·rw [if_pos h1]; exact san_bad h (by decide)
 ·rw [if_neg h1]
  by_cases h2 : lim ≤ (hd ts).n
  ·rw [if_pos h2]; exact san_bad h (by decide)
  ·rw [if_neg h2]
   exact hk (h.tail (by rw [Decidable.not_not.1 h1]; decide)).1
theorem san_syn {ts : List Tk} (h : TkP ts) : SanN (synE ts) := san_bad h (by decide)
def SanL (low : Option Pa) : Prop := ∀ p, low = some p → SanF p.no ∧ SanF p.un ∧ SanF p.ex ∧ SanF p.bl
theorem san_nest {low : Option Pa} (hg : LowG low) (hl : SanL low) : SanF (nestG low) := fun ts h => by
 unfold nestG
 by_cases hs : isP pLp ts = true
 ·rw [if_pos hs]
  cases low with
  | none => exact san_bad h (by decide)
  | some p =>
   have q := (h.is hs).1
   exact san_then ((hl p rfl).2.2.1 _ q) fun f r e => san_xpt ((hg p rfl).2.2.1 _ _ _ q e).1 fun _ => trivial
 ·rw [if_neg hs]; exact san_syn h
theorem san_ite {c : Prop} [Decidable c] {a b : Pn} (h1 : c → SanN a) (h2 : ¬ c → SanN b) : SanN (if c then a else b) := by
 by_cases h : c
 ·rw [if_pos h]; exact h1 h
 ·rw [if_neg h]; exact h2 h
theorem san_prim {low : Option Pa} (hg : LowG low) (hl : SanL low) : SanF (primG low) := fun ts h => by
 unfold primG
 refine san_ite (fun hs => san_nest hg hl ts h) fun _ => ?_
 refine san_ite (fun hs => san_then (san_nest hg hl _ (h.is hs).1) fun _ _ _ => trivial) fun _ => ?_
 refine san_ite (fun hs => trivial) fun _ => ?_
 refine san_ite (fun hs => trivial) fun _ => ?_
 refine san_ite (fun hs => trivial) fun _ => ?_
 refine san_ite (fun hs => trivial) fun _ => ?_
 exact san_ite (fun hs => trivial) fun _ => san_syn h
theorem san_pre {s : ByteArray} {op : Option (List Tk → Pn)} (hl : ∀ f, op = some f → SanF f) {ts : List Tk} (h : TkP ts) (hs : isP s ts = true) : SanN (preG s op ts) := by
 cases op with
 | none => exact san_bad h (by decide)
 | some f => exact san_then (hl f rfl _ (h.is hs).1) fun _ _ _ => trivial
theorem san_una {low : Option Pa} (hg : LowG low) (hl : SanL low) : SanF (unaG low) := fun ts h => by
 unfold unaG
 refine san_ite (fun hs => san_pre (fun f hf => ?_) h hs) fun _ => san_prim hg hl ts h
 obtain ⟨p, hp, rfl⟩ := Option.map_eq_some_iff.1 hf
 exact (hl p hp).2.1
theorem san_chnGo {op : List Tk → Pn} (hg : GoesP op) (ho : SanF op) (signs : List ByteArray) : ∀ (n : Nat) (l : Nt) (ts : List Tk), TkP ts → SanN (chnGo op signs n l ts)
 | 0, l, ts, h => trivial
 | n + 1, l, ts, h => by
  rw [chnGo]
  refine san_ite (fun hs => ?_) fun _ => trivial
  obtain ⟨s, hs⟩ := anyT_is hs
  have q := (h.is hs).1
  exact san_then (ho _ q) fun f r e => san_chnGo hg ho signs n _ _ (hg _ _ _ q e).1
theorem san_chn {op : List Tk → Pn} (hg : GoesP op) (ho : SanF op) (signs : List ByteArray) : SanF (chnF op signs) := fun ts h => by
 unfold chnF
 exact san_then (ho _ h) fun f r e => san_chnGo hg ho signs _ _ _ (hg _ _ _ h e).1
theorem san_sum {low : Option Pa} (hg : LowG low) (hl : SanL low) : SanF (sumG low) := san_chn (goes_chn (goes_una hg) _) (san_chn (goes_una hg) (san_una hg hl) _) _
theorem san_not {low : Option Pa} (hg : LowG low) (hl : SanL low) : SanF (ntG low) := fun ts h => by
 unfold ntG
 refine san_ite (fun hs => san_pre (fun f hf => ?_) h hs) fun _ => ?_
 ·obtain ⟨p, hp, rfl⟩ := Option.map_eq_some_iff.1 hf
  exact (hl p hp).1
 ·refine san_then (san_sum hg hl _ h) fun l r e => ?_
  have q := (goes_sum hg _ _ _ h e).1
  refine san_ite (fun hs => ?_) fun _ => trivial
  obtain ⟨s, hs⟩ := anyT_is hs
  exact san_then (san_sum hg hl _ (q.is hs).1) fun _ _ _ => trivial
theorem san_exp {low : Option Pa} (hg : LowG low) (hl : SanL low) : SanF (expG low) := san_chn (goes_chn (goes_not hg) _) (san_chn (goes_not hg) (san_not hg hl) _) _
theorem san_st {ex bl : List Tk → Pn} (gex : GoesP ex) (gbl : GoesP bl) (hex : SanF ex) (hbl : SanF bl) : SanF (stG ex bl) := fun ts h => by
 unfold stG
 refine san_ite (fun hn => ?_) fun _ => ?_
 ·have q := (h.tail (by rw [isNm_kind hn]; decide)).1
  exact san_xpt q fun q => san_then (hex _ q) fun f r e => san_xpt (gex _ _ _ q e).1 fun _ => trivial
 refine san_ite (fun _ => san_syn h) fun hk => ?_
 have q := (h.tail (by rw [Decidable.not_not.1 hk]; decide)).1
 refine san_ite (fun _ => san_then (hex _ q) fun f r e => san_then (hbl _ (gex _ _ _ q e).1) fun f2 r2 e2 => san_ite (fun hs => san_then (hbl _ ((gbl _ _ _ (gex _ _ _ q e).1 e2).1.is hs).1) fun _ _ _ => trivial) fun _ => trivial) fun _ => ?_
 refine san_ite (fun _ => san_then (hex _ q) fun f r e => san_then (hbl _ (gex _ _ _ q e).1) fun _ _ _ => trivial) fun _ => ?_
 refine san_ite (fun _ => san_then (hex _ q) fun f r e => san_xpt (gex _ _ _ q e).1 fun q => san_num q fun q => san_xpt q fun q => san_then (hex _ q) fun f r e => san_xpt (gex _ _ _ q e).1 fun q => san_then (hex _ q) fun f r e => san_xpt (gex _ _ _ q e).1 fun _ => trivial) fun _ => ?_
 refine san_ite (fun _ => san_num q fun q => san_xpt q fun _ => trivial) fun _ => ?_
 refine san_ite (fun _ => san_num q fun q => san_xpt q fun _ => trivial) fun _ => ?_
 refine san_ite (fun _ => san_xpt q fun _ => trivial) fun _ => ?_
 refine san_ite (fun _ => san_then (hex _ q) fun f r e => san_xpt (gex _ _ _ q e).1 fun q => san_then (hex _ q) fun f r e => san_xpt (gex _ _ _ q e).1 fun _ => trivial) fun _ => ?_
 refine san_ite (fun _ => san_then (hex _ q) fun f r e => san_xpt (gex _ _ _ q e).1 fun _ => trivial) fun _ => ?_
 exact san_ite (fun _ => san_xpt q fun _ => trivial) fun _ => san_syn h
theorem san_bkGo {st : List Tk → Pn} (gst : GoesS st) (hst : SanF st) : ∀ (n : Nat) (acc : List Nt) (ts : List Tk), TkP ts → SanN (bkGo st n acc ts)
 | 0, acc, ts, h => san_syn h
 | n + 1, acc, ts, h => by
  rw [bkGo]
  exact san_ite (fun _ => trivial) fun _ => san_then (hst _ h) fun f r e => san_bkGo gst hst n _ _ (gst _ _ _ h e).1
theorem san_bk {st : List Tk → Pn} (gst : GoesS st) (hst : SanF st) : SanF (bkF st) := fun ts h => by
 unfold bkF
 exact san_xpt h fun q => san_bkGo gst hst _ _ _ q
theorem san_lowB {low : Option Pa} (hl : SanL low) : SanF (lowB low) := by
 cases low with
 | none => exact fun ts h => san_ite (fun _ => san_bad h (by decide)) fun _ => san_syn h
 | some p => exact (hl p rfl).2.2.2
theorem san_pa {low : Option Pa} (hg : LowG low) (hl : SanL low) : SanL (some (paG low)) := fun p hp => by
 cases hp
 exact ⟨san_not hg hl, san_una hg hl, san_exp hg hl, san_bk (goes_st (goes_exp hg) (goes_lowB hg)) (san_st (goes_exp hg) (goes_lowB hg) (san_exp hg hl) (san_lowB hl))⟩
theorem pa_san : ∀ d, LowG (some (pa d)) ∧ SanL (some (pa d))
 | 0 => ⟨goes_pa (fun _ h => by cases h), san_pa (fun _ h => by cases h) (fun _ h => by cases h)⟩
 | d + 1 => ⟨goes_pa (pa_san d).1, san_pa (pa_san d).1 (pa_san d).2⟩
theorem san_bl1 : SanF (pa 19).bl := ((pa_san 19).2 _ rfl).2.2.2
theorem okE_bad {ts : List Tk} (h : TkP ts) {e : Int} (he : 0 < e ∧ e ≤ 100) : okE (hd ts).pos e := san_bad h he
theorem san_num2 {lim off : Int} {ts : List Tk} (h : TkP ts) {x e : Int} (k : numH lim off ts = .bad x e) : okE x e := by
 unfold numH at k
 split at k
 ·cases k; exact okE_bad h (by decide)
 ·split at k
  ·cases k; exact okE_bad h (by decide)
  ·cases k
theorem san_he {hs : List (Int × Nt)} {ts : List Tk} (h : TkP ts) {x e : Int} (k : heF hs ts = .bad x e) : okE x e := by
 unfold heF at k
 cases hh : hnF ts with
 | bad x2 e2 =>
  rw [hh] at k
  cases k
  unfold hnF at hh
  by_cases h1 : isP wStart ts = true
  ·rw [if_pos h1] at hh; cases hh
  rw [if_neg h1] at hh
  by_cases h2 : isP wRequest ts = true
  ·rw [if_pos h2] at hh; cases hh
  rw [if_neg h2] at hh
  by_cases h3 : isP wTimer ts = true
  ·rw [if_pos h3] at hh; exact san_num2 (h.is h3).1 hh
  rw [if_neg h3] at hh
  by_cases h4 : isP wMessage ts = true
  ·rw [if_pos h4] at hh; exact san_num2 (h.is h4).1 hh
  rw [if_neg h4] at hh
  cases hh
  exact okE_bad h (by decide)
 | ok k2 r2 =>
  rw [hh] at k
  simp only at k
  split at k
  ·cases k; exact okE_bad h (by decide)
  ·cases k
theorem san_ha (du vo : List ByteArray) : ∀ (n : Nat) (hs : List (Int × Nt)) (ts : List Tk) (x e : Int), TkP ts → haGo du vo n hs ts = .bad x e → okE x e
 | 0, hs, ts, x, e, h, k => by cases k; exact okE_bad h (by decide)
 | n + 1, hs, ts, x, e, h, k => by
  rw [haGo_eq] at k
  by_cases hk : (hd ts).kind = 0
  ·rw [if_pos hk] at k; cases k
  rw [if_neg hk] at k
  by_cases ho : isP wOn ts = false
  ·rw [if_pos ho] at k; cases k; exact okE_bad h (by decide)
  rw [if_neg ho] at k
  have q := (h.tail hk).1
  cases hh : heF hs ts.tail with
  | bad x2 e2 => rw [hh] at k; cases k; exact san_he q hh
  | ok k2 r =>
   rw [hh] at k
   simp only at k
   obtain ⟨_, q2, _⟩ := heF_ok q hh
   have hb := san_bl1 _ q2
   cases hbl : (pa 19).bl r with
   | bad x2 e2 => rw [hbl] at k hb; cases k; exact hb
   | ok b r2 =>
    rw [hbl] at k
    exact san_ha du vo n _ _ _ _ (block1_goes _ _ _ q2 hbl).1 k
theorem san_de : ∀ (n : Nat) (nm out : List ByteArray) (ts : List Tk) (x e : Int), TkP ts → (hd ts).kind ≠ 0 → deGo n nm out ts = .bad x e → okE x e
 | 0, nm, out, ts, x, e, h, hk, k => by cases k; exact okE_bad h (by decide)
 | n + 1, nm, out, ts, x, e, h, hk, k => by
  rw [deGo_eq] at k
  have q := (h.tail hk).1
  by_cases hn : isNm ts.tail = false
  ·rw [if_pos hn] at k; cases k; exact okE_bad q (by decide)
  rw [if_neg hn] at k
  by_cases hh : hasF nm (hd ts.tail).text = true
  ·rw [if_pos hh] at k; cases k; exact okE_bad q (by decide)
  rw [if_neg hh] at k
  by_cases h6 : nm.length = 16
  ·rw [if_pos h6] at k; cases k; exact okE_bad q (by decide)
  rw [if_neg h6] at k
  have q3 := (q.tail (by rw [isNm_kind (by simpa using hn)]; decide)).1
  unfold deH at k
  by_cases hc : isP pComma ts.tail.tail = true
  ·rw [if_pos hc] at k
   exact san_de n _ _ _ _ _ q3 (isP_kind hc) k
  ·rw [if_neg hc] at k
   by_cases hs : isP pSemi ts.tail.tail = true
   ·rw [if_pos hs] at k; cases k
   ·rw [if_neg hs] at k; cases k; exact okE_bad q3 (by decide)
theorem san_dc : ∀ (n : Nat) (nm du vo : List ByteArray) (ts : List Tk) (x e : Int), TkP ts → nm.length ≤ 16 → dcGo n nm du vo ts = .bad x e → okE x e
 | 0, nm, du, vo, ts, x, e, h, h16, k => by cases k; exact okE_bad h (by decide)
 | n + 1, nm, du, vo, ts, x, e, h, h16, k => by
  rw [dcGo] at k
  by_cases h1 : isP wDurable ts = true
  ·rw [if_pos h1] at k
   cases hd : deGo ts.length nm [] ts with
   | bad x2 e2 => rw [hd] at k; cases k; exact san_de _ _ _ _ _ _ h (isP_kind h1) hd
   | ok nm2 out r =>
    rw [hd] at k
    obtain ⟨k1, k2, k3, k4⟩ := deGo_goes _ _ _ _ _ _ _ h (isP_kind h1) h16 hd
    exact san_dc n _ _ _ _ _ _ k1 k3 k
  rw [if_neg h1] at k
  by_cases h2 : isP wVolatile ts = true
  ·rw [if_pos h2] at k
   cases hd : deGo ts.length nm [] ts with
   | bad x2 e2 => rw [hd] at k; cases k; exact san_de _ _ _ _ _ _ h (isP_kind h2) hd
   | ok nm2 out r =>
    rw [hd] at k
    obtain ⟨k1, k2, k3, k4⟩ := deGo_goes _ _ _ _ _ _ _ h (isP_kind h2) h16 hd
    exact san_dc n _ _ _ _ _ _ k1 k3 k
  rw [if_neg h2] at k
  exact san_ha _ _ _ _ _ _ _ h k
theorem proF_san {ts : List Tk} (h : TkP ts) {x e : Int} (k : proF ts = .bad x e) : okE x e := san_dc _ _ _ _ _ _ _ h (Nat.zero_le _) k
end Go.Proofs.YtfbifdccmabdbaaGreatDoor.Vm
namespace Go.Proofs.YtfbifdccmabdbaaGreatDoor.Vm
open Go.RowKit
set_option linter.unusedSimpArgs false
set_option linter.unusedVariables false
def ClD (P : Program) (f : Nat) (u u' : FrameMode) : Array Value → World → (Ending → World → Prop) → Prop := fun vs w R => CallsD P f vs u w fun e m w' => m = u' ∧ R e w'
theorem ClD.mono {P : Program} {f : Nat} {u u' : FrameMode} {vs : Array Value} {w : World} {R R' : Ending → World → Prop} (h : ∀ e w', R e w' → R' e w') (k : ClD P f u u' vs w R) : ClD P f u u' vs w R' :=
 CallsD.mono k fun e m w' ⟨h1, h2⟩ => ⟨h1, h _ _ h2⟩
@[irreducible] def DfrW (P : Program) (u u' : FrameMode) (f : Nat) (args : List A) (s : S) (K : S → Prop) : Prop :=
 (∀ vs w, (callFunc f vs).run P w = .ok (.enter f vs) w) ∧
 ∃ (X ids : List Nat) (ins : List (List A)) (args' : List A) (post : List (List A) → A → Prop), X.Nodup ∧ (∀ i ∈ X, i < s.bx.length) ∧
  renLL X (pubRows s.rw ids) (X.map fun i => s.bx.getD i []) = some ins ∧ renL X (pubRows s.rw ids) args = some args' ∧ (okL args' → SpecX (ClD P f u u') ins args' post fun _ => False) ∧
  ∀ outs r, post outs r → outs.length = X.length → outK X s.bx X outs fun bx' => force (back X r) fun _ => forceR (pubRows s.rw ids) fun rw' => withBR s bx' rw' K
def leaveK (c : Cx) (rv : List ResultVar) (post : List (List A) → A → Prop) : List (Nat × List A) → FrameMode → S → Prop
 | [], .returning, s => retK c rv post s
 | [], _, _ => False
 | (f, args) :: r, u, s => u ≠ .run ∧ ∃ u', DfrW c.P u u' f args s fun s' => leaveK c rv post r (settle u') s'
section
variable {c : Cx} {w0 : W0} {C0 : Rd} {β0 : List Nat}
theorem leaves_ok {fn : Func} {post : List (List A) → A → Prop} {R : Ending → World → Prop} {tmps : Array Value} (hfin : ∀ s' w', retK c fn.results.toList post s' → Inv [] w0 C0 β0 s' { tmps := tmps, defers := [] } w' → ∃ v, (results fn tmps).run c.P w' = .ok v w' ∧ R (.returned v) w') :
  ∀ (dr : List (Nat × List A)) (ds : List Deferred) (u : FrameMode) (s : S) (E : Env) (w : World), repD dr E ds → Hp w0 C0 β0 s.bx s.rw w E → A.repL s.t E tmps.toList → leaveK c fn.results.toList post dr u s → Leaves c.P fn tmps R ds u w
 | [], ds, u, s, E, w, hd, hp, ht, h => by
  obtain rfl : ds = [] := hd
  cases u with
  | returning => exact hfin s w h ⟨E, hp, ht, rfl⟩
  | run => exact h.elim
  | panicking ch => exact h.elim
 | (f, args) :: r, ds, u, s, E, w, ⟨d, ds', cap, hds, htg, hargs, hrest⟩, hp, ht, h => by
  subst hds
  obtain ⟨hu, u', h⟩ := h
  unfold DfrW at h
  obtain ⟨hcall, X, ids, ins, args', post', hn, hX, hins, hargs', hspec, hk⟩ := h
  have hcx := call_okX (pan := fun _ _ => False) (Xr := fun _ => true) (K := fun _ s' => leaveK c fn.results.toList post r (settle u') s') (Cl := ClD c.P f u u') ClD.mono hp hargs hn (fun _ _ => rfl) hX hins hargs' hspec (fun outs r hp hl => hk outs r hp hl) (fun ch bx' h _ _ => h.elim)
  obtain ⟨t, da⟩ := d
  simp only at htg hargs hcx
  subst htg
  refine leaves_cons (f := f) (args := da ++ cap) hu (by simp [invoke, hcall]) ?_
  have hcx' : CallsD c.P f (da ++ cap) u w fun e m w' => m = u' ∧ ((∃ y, e = .returned y ∧ Left w0 C0 β0 (fun _ => true) s E w (fun _ s' => leaveK c fn.results.toList post r (settle u') s') y w') ∨ ∃ (ch : List PanicEntry) (s' : S) (E' : Env), e = .panicked ch ∧ False ∧ s'.t = s.t ∧ E.le E' ∧ Hp w0 C0 β0 s'.bx s'.rw w' E') := hcx
  refine CallsD.mono hcx' ?_
  rintro e m w' ⟨rfl, ⟨y, rfl, ⟨⟨r0, s', E', h1, h2, h3, h4, h5, _⟩⟩⟩ | ⟨ch, s', E', _, h, _⟩⟩
  ·exact leaves_ok hfin r ds' _ s' E' w' (hrest.mono h3) h4 (by rw [h2]; exact A.repL.mono _ h3 ht) h1
  ·exact h.elim
@[irreducible] def OkT (P : Program) (np : Nat) (pt : List (Nat × List A) → List PanicEntry → S → Prop) (qt : List (Nat × List A) → Exit → S → Prop) (dr : List (Nat × List A)) (x : Code) (s : S) : Prop :=
 ∀ (w0 : W0) (C0 : Rd) (β0 : List Nat) (a : Act) (w : World) (Q : Exit → Act → World → Prop), β0.length = np → Inv dr w0 C0 β0 s a w → (∀ dr' ch s' a' w', pt dr' ch s' → Inv dr' w0 C0 β0 s' a' w' → Q (.panic ch) a' w') → (∀ dr' e s' a' w', qt dr' e s' → Inv dr' w0 C0 β0 s' a' w' → Q e a' w') → x.wp P Q a w
def tQ (P : Program) (np : Nat) (pt : List (Nat × List A) → List PanicEntry → S → Prop) (qt : List (Nat × List A) → Exit → S → Prop) (dr : List (Nat × List A)) (y : Code) (e : Exit) (s : S) : Prop := match e with
 | .normal => OkT P np pt qt dr y s
 | e => qt dr e s
variable {pt : List (Nat × List A) → List PanicEntry → S → Prop} {qt : List (Nat × List A) → Exit → S → Prop} {dr : List (Nat × List A)} {s : S}
theorem okT_last {x : Code} (hc : c.ok) (hdr : ∃ n, refsD n dr = true) (hl : refsD c.np dr = true ∨ noLoop x = true) (ho : ordOk c.ord x = true) (hp : ∀ ch s', c.pan ch s' → pt dr ch s') (h : awp c x s (qt dr)) : OkT c.P c.np pt qt dr x s := by
 unfold OkT
 exact fun w0 C0 β0 a w Q hn hi hx hk => awp_ok hc hn hdr x hl (fun ch s' a' w' h1 h2 => hx dr ch s' a' w' (hp ch s' h1) h2) ho hi h fun e s' a' w' h1 h2 => hk dr e s' a' w' h1 h2
theorem okT_step {x y : Code} (hc : c.ok) (hdr : ∃ n, refsD n dr = true) (hl : refsD c.np dr = true ∨ noLoop x = true) (ho : ordOk c.ord x = true) (hp : ∀ ch s', c.pan ch s' → pt dr ch s') (h : awp c x s (tQ c.P c.np pt qt dr y)) : OkT c.P c.np pt qt dr (.seq x y) s := by
 unfold OkT
 intro w0 C0 β0 a w Q hn hi hx hk
 refine wp_seq (awp_ok hc hn hdr x hl (fun ch s' a' w' h1 h2 => hx dr ch s' a' w' (hp ch s' h1) h2) ho hi h fun e s' a' w' h1 h2 => ?_)
 cases e with
 | normal =>
  have h1 : OkT c.P c.np pt qt dr y s' := h1
  unfold OkT at h1
  exact h1 w0 C0 β0 a' w' Q hn h2 hx hk
 | _ => exact hk dr _ _ _ _ h1 h2
def dfrK (s : S) (fo : Operand) (xs : List Operand) (K : Nat → List A → Prop) : Prop := match ev s fo with
 | .clo f caps => K f (xs.map (ev s) ++ caps)
 | .bm f fs => K f (fs ++ xs.map (ev s))
 | _ => False
theorem seq_ok2 {ops l2 : List Oper} {Q : Exit → Act → World → Prop} (hc : c.ok) (hdr : ∃ n, refsD n dr = true) (hx : ∀ ch s' a' w', c.pan ch s' → Inv dr w0 C0 β0 s' a' w' → Q (.panic ch) a' w') : ∀ {l : List Oper} {s : S} {a : Act} {w : World} {K : S → Prop}, Inv dr w0 C0 β0 s a w → aseq c ops l s K → (∀ s' a' w', K s' → Inv dr w0 C0 β0 s' a' w' → wpList c.P ops.toArray Q l2 a' w') → wpList c.P ops.toArray Q (l ++ l2) a w
 | [], s, a, w, K, hi, h, hk => hk s a w h hi
 | o :: r, s, a, w, K, hi, h, hk => by
  obtain ⟨E, hp, ht, hd⟩ := hi
  change wantK ops o s (ado c (fun _ => true) s o fun s' => aseq c ops r s' K) (putK s o.dst (.tup []) fun s' => aseq c ops r s' K) at h
  refine wpList_step fun Kc hKc => ?_
  rcases want_ok ht h with ⟨h1, h2⟩ | ⟨h1, h2⟩
  ·rw [if_pos h1]
   exact do_ok hc hdr ⟨E, hp, ht, hd⟩ h2 hx fun s' a' w' h3 h4 => hKc _ _ (seq_ok2 hc hdr hx h4 h3 hk)
  ·rw [if_neg (by rw [h1]; simp)]
   obtain ⟨s2, k1, k2, k3, k4, k5⟩ := put_ok (a := a) hp ht hd (rep_undef _) h2
   exact hKc _ _ (seq_ok2 hc hdr hx ⟨E, by rw [k2, k3]; exact hp, k4, k5⟩ k1 hk)
theorem okT_defer {id : Nat} {l : List Oper} {od : Oper} {fo : Operand} {xs : Array Operand} {ts : Array TypeId} {y : Code} (hc : c.ok) (hdr : ∃ n, refsD n dr = true) (hp : ∀ ch s', c.pan ch s' → pt dr ch s') (hop : od.op = .defer ⟨.value fo, xs, ts⟩) (hg : od.guard = none) (hd : od.dst = none)
  (h : aseq c (l ++ [od]) l s fun s' => dfrK s' fo xs.toList fun f args => OkT c.P c.np pt qt ((f, args) :: dr) y s') : OkT c.P c.np pt qt dr (.seq (.region id (l ++ [od]).toArray false) y) s := by
 unfold OkT
 intro w0 C0 β0 a w Q hn hi hx hk
 refine wp_seq (wp_region_lit (seq_ok2 (l2 := [od]) (Q := Exit.then (y.wp c.P Q) Q) hc hdr (fun ch s' a' w' h1 h2 => hx dr ch s' a' w' (hp ch s' h1) h2) hi h fun s' a' w' h1 h2 => ?_))
 refine wpList_step fun Kc hKc => ?_
 rw [if_pos (by simp [Region.wanted, hg])]
 obtain ⟨E, hpp, ht, hdd⟩ := h2
 unfold dfrK at h1
 split at h1
 ·rename_i f caps hev
  have hf := ev_rep ht fo
  rw [hev] at hf
  unfold A.rep at hf
  obtain ⟨us, hf, hcaps⟩ := hf
  have hrun : (execOp a'.eval od).run c.P w' = .ok (.defer { target := .fn (.func f) us, args := xs.map a'.eval }) w' := by simp [execOp, hop, resolve, Deferred.ofValue, hf, Result.andThen]
  unfold Oper.wp
  rw [hrun, Oper.upon_defer]
  rw [hd]
  unfold OkT at h1
  refine hKc _ _ (h1 w0 C0 β0 _ w' Q hn ⟨E, hpp, ht, { target := .fn (.func f) us, args := xs.map a'.eval }, a'.defers, us, rfl, rfl, ?_, hdd⟩ hx hk)
  have := A.repL_append (caps_rep ht xs.toList) hcaps
  simpa using this
 ·rename_i f fs hev
  have hf := ev_rep ht fo
  rw [hev] at hf
  unfold A.rep at hf
  obtain ⟨us, hf, hcaps⟩ := hf
  have hrun : (execOp a'.eval od).run c.P w' = .ok (.defer { target := .fn (.func f) #[], args := us ++ xs.map a'.eval }) w' := by simp [execOp, hop, resolve, Deferred.ofValue, hf, Result.andThen]
  unfold Oper.wp
  rw [hrun, Oper.upon_defer]
  rw [hd]
  unfold OkT at h1
  refine hKc _ _ (h1 w0 C0 β0 _ w' Q hn ⟨E, hpp, ht, { target := .fn (.func f) #[], args := us ++ xs.map a'.eval }, a'.defers, #[], rfl, rfl, ?_, hdd⟩ hx hk)
  have := A.repL_append hcaps (caps_rep ht xs.toList)
  simpa using this
 ·exact h1.elim
theorem inv_begin {n : Nat} {ins : List (List A)} {args : List A} {w : World} {C : Rd} {β : List Nat} {vals : List Value} (h0 : Gok C w) (h1 : Sub C (see w)) (h2 : β.Nodup) (h3 : ∀ b ∈ β, ∀ o sp, C ⟨b, o, sp⟩ = none) (h4 : ins.length = β.length)
  (h5 : ∀ (i b : Nat) (cs : List A), β[i]? = some b → ins[i]? = some cs → boxAt w ⟨C, β, []⟩ b cs) (h6 : A.repL args ⟨C, β, []⟩ vals) :
  Inv [] (.of w) C β ⟨args ++ List.replicate (n - args.length) .dead, ins, []⟩ { tmps := vals.toArray ++ Array.replicate (n - vals.toArray.size) undef, defers := [] } w := by
 have hl := A.repL_len h6
 refine ⟨⟨C, β, []⟩, ⟨h1, Sub.refl _, fun _ _ hc => .inl hc, ⟨[], by simp, by simp⟩, h2, h3, h4, h5, rfl, fun g r y hg => by simp at hg, fun g e k n cs y b hg => by simp at hg, fun g e k n cs y h' e' k' n' cs' z b _ hg => by simp at hg, fun g y hg => by simp at hg, Keeps.refl _ _, gok0 h0⟩, ?_, rfl⟩
 have : (vals.toArray ++ Array.replicate (n - vals.toArray.size) undef).toList = vals ++ List.replicate (n - args.length) undef := by simp [hl]
 rw [this]
 exact A.repL_append h6 (rep_deads _ _)
theorem specT_of {f : Nat} {fn : Func} {x : Code} {ins : List (List A)} {args : List A} {post : List (List A) → A → Prop} (hc : c.ok) (hf : c.P.funcs[f]? = some fn) (hb : fn.body = some x) (hname : (fn.name == "runtime.NumGoroutine") = false)
  (hn : ins.length = c.np) (h : okL args → initK args (fn.ntmps - args.length) fun t => OkT c.P c.np (fun dr ch s => leaveK c fn.results.toList post dr (.panicking ch) s) (fun dr e s => (e = .normal ∨ e = .ret) ∧ leaveK c fn.results.toList post dr .returning s) [] x ⟨t, ins, []⟩) : Spec c.P f ins args post := by
 refine ⟨callable hf hb hname, fun w C β vals h0 h1 h2 h3 h4 h5 h6 => ?_⟩
 refine calls_of_wp_defers hf hb ?_
 have hinit := initK_iff.1 (h (okL_rep _ h6))
 have hinv := inv_begin (n := fn.ntmps) h0 h1 h2 h3 h4 h5 h6
 unfold OkT at hinit
 have hfin : ∀ (tmps : Array Value) (s' : S) (w' : World), retK c fn.results.toList post s' → Inv [] (.of w) C β s' { tmps := tmps, defers := [] } w' → ∃ v, (results fn tmps).run c.P w' = .ok v w' ∧ ∃ outs r v', Ending.returned v = .returned v' ∧ post outs r ∧ Keeps β w w' ∧ outs.length = β.length ∧
   (∀ (i b : Nat) (cs : List A), β[i]? = some b → outs[i]? = some cs → boxAt w' ⟨plus C w w', β, []⟩ b cs) ∧ r.rep ⟨plus C w w', β, []⟩ v' := fun tmps s' w' hr hi =>
  (fin_ok (w := w) (C := C) (β := β) (fn := fn) (post := post) hc h1 (by rw [← h4, hn]) hr hi).2
 refine hinit (.of w) C β _ w _ (by rw [← h4, hn]) hinv (fun dr ch s' a' w' hl ⟨E, hp, ht, hd⟩ => ?_) (fun dr e s' a' w' hl ⟨E, hp, ht, hd⟩ => ?_)
 ·exact leaves_ok (hfin a'.tmps) dr a'.defers _ s' E w' hd hp ht hl
 ·obtain ⟨he, hl⟩ := hl
  rcases he with rfl | rfl
  ·exact leaves_ok (hfin a'.tmps) dr a'.defers _ s' E w' hd hp ht hl
  ·exact leaves_ok (hfin a'.tmps) dr a'.defers _ s' E w' hd hp ht hl
theorem rec_returning {c0 : Frame} {cs : List Frame} (h : c0.mode = .returning) : recoverD (c0 :: cs) = none := by
 simp [recoverD, h]
theorem rec_panicking {c0 : Frame} {cs : List Frame} {v : Value} {older : List PanicEntry} (h : c0.mode = .panicking (⟨v, false, false⟩ :: older)) : recoverD (c0 :: cs) = some (v, { c0 with mode := .panicking (⟨v, true, false⟩ :: older) } :: cs) := by
 simp [recoverD, h]
theorem recY_of {f id d0 : Nat} {fn : Func} {o0 : Oper} {ts : Array TypeId} {rest : Code} {ins : List (List A)} {args : List A} {post : List (List A) → A → Prop} {u u' : FrameMode} {rv : Value} (hc : c.ok) (hq : ∀ ch s, ¬ c.pan ch s) (hf : c.P.funcs[f]? = some fn) (hb : fn.body = some (.seq (.region id #[o0] false) rest))
  (k0 : o0.op = .call ⟨.builtin .recover, #[], ts⟩ ∧ o0.guard = none ∧ o0.dst = some d0) (hd0 : d0 < fn.ntmps) (hv : okV rv)
  (hu : (u = .returning ∧ u' = .returning ∧ rv = .nilIface) ∨ ∃ v older, u = .panicking (⟨v, false, false⟩ :: older) ∧ u' = .panicking (⟨v, true, false⟩ :: older) ∧ rv = v)
  (hn : ins.length = c.np) (h : okL args → initK args (fn.ntmps - args.length) fun t => Ok c rest ⟨t.set d0 (.v rv), ins, []⟩ (endK c fn.results.toList post)) : SpecX (ClD c.P f u u') ins args post fun _ => False := by
 intro w C β vals h0 h1 h2 h3 h4 h5 h6
 unfold ClD
 refine callsD_of_wpS hf hb fun c0 cs hu0 => wpS_seq (wpS_region ?_)
 have hinit := initK_iff.1 (h (okL_rep _ h6))
 have hinv := inv_begin (n := fn.ntmps) h0 h1 h2 h3 h4 h5 h6
 have hnp : β.length = c.np := by rw [← h4, hn]
 generalize hA : ({ tmps := vals.toArray ++ Array.replicate (fn.ntmps - vals.toArray.size) undef, defers := [] } : Act) = a0 at *
 have hsz : d0 < a0.tmps.size := by rw [← hA]; simp; omega
 obtain ⟨E, hp, ht, hd⟩ := hinv
 have hi2 : Inv [] (.of w) C β ⟨(args ++ List.replicate (fn.ntmps - args.length) A.dead).set d0 (.v rv), ins, []⟩ (a0.put (some d0) rv) w := by
  refine ⟨E, hp, ?_, hd⟩
  show A.repL _ E (a0.tmps.setIfInBounds d0 rv).toList
  rw [Array.toList_setIfInBounds]
  exact A.repL_set ht d0 (A.rep_v hv)
 have e0 : (execOp a0.eval o0).run c.P w = .ok .recover w := by
  simp [execOp, k0.1, resolve, invoke, Result.andThen]
  rfl
 have hrange : List.range (#[o0] : Array Oper).size = [0] := rfl
 rw [hrange]
 have g0 : (#[o0] : Array Oper)[0]? = some o0 := rfl
 have w0' : ∀ y, Region.wanted o0 y = true := fun y => by simp [Region.wanted, k0.2.1]
 simp only [wpOpsS, g0, w0', if_true, e0]
 unfold Ok OkD at hinit
 have fin : ∀ cs', cs' = { c0 with mode := u' } :: cs → rest.wpS c.P (bodyPostS c.P fn c0 cs fun e m w' => m = u' ∧ ((∃ outs r v, e = .returned v ∧ post outs r ∧ Keeps β w w' ∧ outs.length = β.length ∧
   (∀ (i b : Nat) (cs : List A), β[i]? = some b → outs[i]? = some cs → boxAt w' ⟨plus C w w', β, []⟩ b cs) ∧ r.rep ⟨plus C w w', β, []⟩ v) ∨
   ∃ (ch : List PanicEntry) (ns : List Nat), e = .panicked ch ∧ False ∧ Keeps β w w' ∧ ns.length = β.length ∧ ∀ (i b n : Nat), β[i]? = some b → ns[i]? = some n → boxAt w' ⟨C, β, []⟩ b (List.replicate n .dead))) (a0.put (some d0) rv) cs' w := fun cs' hcs => by
  subst hcs
  refine wpS_of_wp ?_
  refine hinit (.of w) C β _ w _ hnp hi2 (fun ch s' _ _ hh _ => absurd hh (hq ch s')) fun e s' a' w' he hi => ?_
  have ff := fun (hr : retK c fn.results.toList post s') => fin_ok (w := w) (C := C) (β := β) (fn := fn) (post := post) hc h1 hnp hr hi
  cases e with
  | normal => obtain ⟨q1, v, q2, q3⟩ := ff he; exact ⟨q1, u', rfl, v, q2, rfl, .inl q3⟩
  | ret => obtain ⟨q1, v, q2, q3⟩ := ff he; exact ⟨q1, u', rfl, v, q2, rfl, .inl q3⟩
  | _ => exact he.elim
 rcases hu with ⟨rfl, rfl, rfl⟩ | ⟨v, older, rfl, rfl, rfl⟩
 ·rw [rec_returning hu0]
  simp only [k0.2.2]
  exact fin _ (by rw [← hu0])
 ·rw [rec_panicking hu0]
  simp only [k0.2.2]
  exact fin _ rfl
end
end Go.Proofs.YtfbifdccmabdbaaGreatDoor.Vm
namespace Go.Proofs.YtfbifdccmabdbaaGreatDoor.Vm
open Go.RowKit Go.Shelf
set_option linter.unusedSimpArgs false
set_option linter.unusedVariables false
set_option maxRecDepth 100000
theorem parse1_ret (u : Ut) : SpecX (ClD Tryz.prog 101 .returning .returning) [utA u, [intA 0], [intA 0]] [.box 0 0, .box 1 0, .box 2 0] (fun o r => o = [utA u, [intA 0], [intA 0]] ∧ r = .tup []) fun _ => False := by
 refine recY_of (cx_ok ord101 (fun _ => [0, 1, 2]) 3) (fun _ _ h => h) Tryz.func101 rfl (d0 := 6) ⟨rfl, rfl, rfl⟩ (by decide) (rv := .nilIface) trivial (.inl ⟨rfl, rfl, rfl⟩) rfl ?_
 intro _
 conv => whnf
 refine ok_of_awp (cx_ok _ _ _) (by kernel_rfl) ?_
 conv => whnf
 exact ⟨rfl, rfl⟩
theorem parse1_pan (x e : Int) (hx : okE x e) (c0 c1 c2 b1 b2 : A) : SpecX (ClD Tryz.prog 101 (.panicking (pfailCh x e)) (.panicking [⟨.iface 142 (.agg #[.int .i64 x, .int .i64 e]), true, false⟩])) [[c0, c1, c2], [b1], [b2]] [.box 0 0, .box 1 0, .box 2 0]
  (fun o r => o = [zero3, [intA x], [intA e]] ∧ r = .tup []) fun _ => False := by
 obtain ⟨hx, he⟩ := hx
 refine recY_of (cx_ok ord101 (fun _ => [0, 1, 2]) 3) (fun _ _ h => h) Tryz.func101 rfl (d0 := 6) ⟨rfl, rfl, rfl⟩ (by decide) (rv := .iface 142 (.agg #[.int .i64 x, .int .i64 e])) trivial (.inr ⟨_, [], rfl, rfl, rfl⟩) rfl ?_
 intro _
 conv => whnf
 refine ok_of_awp (cx_ok _ _ _) (by kernel_rfl) ?_
 conv => whnf
 refine ⟨?_, ?_⟩
 ·intro u hu
  simp at hu
  rcases hu with rfl | rfl
  ·exact okV_int.2 (i64r (by omega))
  ·exact okV_int.2 (i64r (by omega))
 conv => whnf
 exact ⟨rfl, rfl⟩
def parU0 : PU → A
 | .ok u => .tup [.agg (utA u), intA 0, intA 0]
 | .bad x e => .tup [.agg zero3, intA x, intA e]
def PanU (p : PU) (ch : List PanicEntry) (s : S) : Prop := ∃ (x e : Int) (c0 c1 c2 : A) (bx : List (List A)) (a b : A) (t : List A), p = .bad x e ∧ okE x e ∧ ch = pfailCh x e ∧ s.bx = zero3 :: [intA 0] :: [intA 0] :: bx ∧ s.t = a :: b :: .box 0 0 :: .box 1 0 :: .box 2 0 :: t ∧ s.rw = []
theorem box4u {l : List (List A)} {a b c d : List A} (h : l.length = 4) (k : ∀ j, j ≠ 3 → l[j]? = [a, b, c, d][j]?) : ∃ d', l = [a, b, c, d'] := by
 match l, h with
 | [x, y, z, w], _ =>
  have h0 := k 0 (by decide)
  have h1 := k 1 (by decide)
  have h2 := k 2 (by decide)
  simp at h0 h1 h2
  exact ⟨w, by rw [h0, h1, h2]⟩
def ordPu (id : Nat) : Tr := match Nat.beq id 5 with
 | true => .q 0 3 (.alt 1 2 (.alt 2 2 (.alt 3 2 (.alt 4 2 (.alt 5 2 .nil .nil) .nil) .nil) (.alt 3 2 (.alt 2 2 (.alt 4 2 (.alt 5 2 .nil .nil) .nil) (.alt 4 2 (.alt 2 2 (.alt 5 2 .nil .nil) .nil) .nil)) .nil)) (.alt 2 2 (.alt 1 2 (.alt 3 2 (.alt 4 2 (.alt 5 2 .nil .nil) .nil) .nil) (.alt 3 2 (.alt 1 2 (.alt 4 2 (.alt 5 2 .nil .nil) .nil) .nil) .nil)) (.alt 3 2 (.alt 1 2 (.alt 2 2 (.alt 4 2 (.alt 5 2 .nil .nil) .nil) (.alt 4 2 (.alt 2 2 (.alt 5 2 .nil .nil) .nil) .nil)) (.alt 2 2 (.alt 1 2 (.alt 4 2 (.alt 5 2 .nil .nil) .nil) .nil) .nil)) .nil)))
 | false => .nil
theorem pparse_raw (s : ByteArray) (hs : s.size ≤ 1000000000) : Spec Tryz.prog 55 [] [strA s] fun _ r => r = parU0 (uparF s) := by
 obtain ⟨R, hR⟩ : ∃ R, uparF s = R := ⟨_, rfl⟩
 rw [hR]
 have htk := tokens_spec s hs
 have hpan : ∀ (ch : List PanicEntry) (s' : S), PanU R ch s' → leaveK ⟨Tryz.prog, tab, ordPu, fun _ => [0], 0, fun _ _ => False⟩ Tryz.f55.results.toList (fun _ r => r = parU0 R) [(101, [.box 0 0, .box 1 0, .box 2 0])] (.panicking ch) s' := fun ch s' hP => by
  obtain ⟨x, e, c0, c1, c2, bx, a, b, t0, hRe, hran, rfl, hbx, ht, hrw⟩ := hP
  obtain ⟨t, bx', rw'⟩ := s'
  simp only at hbx hrw ht
  subst hbx hrw ht
  subst hRe
  unfold leaveK
  refine ⟨(fun h => by cases h), FrameMode.panicking [⟨.iface 142 (.agg #[.int .i64 x, .int .i64 e]), true, false⟩], ?_⟩
  unfold DfrW
  refine ⟨fun vs w => rfl, [0, 1, 2], [], [zero3, [intA 0], [intA 0]], [.box 0 0, .box 1 0, .box 2 0], fun o r => o = [zero3, [intA x], [intA e]] ∧ r = .tup [], by decide, ?_, rfl, rfl, fun _ => parse1_pan x e hran _ _ _ _ _, ?_⟩
  ·intro i hi
   simp only [List.length_cons]
   simp at hi
   omega
  rintro o r ⟨rfl, rfl⟩ _
  conv => whnf
  rfl
 refine specT_of (cx_ok ordPu (fun _ => [0]) 0) Tryz.func55 rfl (by kernel_rfl) rfl ?_
 intro _
 conv => whnf
 refine okT_step (cx_ok ordPu (fun _ => [0]) 0) (dr := []) ⟨0, rfl⟩ (.inl rfl) (by kernel_rfl) (fun _ _ h => h.elim) ?_
 conv => whnf
 refine okT_step (cx_ok ordPu (fun _ => [0]) 0) (dr := []) ⟨0, rfl⟩ (.inl rfl) (by kernel_rfl) (fun _ _ h => h.elim) ?_
 conv => whnf
 unfold uparF at hR
 by_cases hbig : 3000 < s.size
 ·rw [if_pos hbig] at hR
  rw [decide_eq_true (by omega)]
  conv => whnf
  refine ⟨.inr rfl, ?_⟩
  conv => whnf
  subst hR
  rfl
 rw [if_neg hbig] at hR
 rw [decide_eq_false (by omega)]
 conv => whnf
 refine okT_step (cx_ok ordPu (fun _ => [0]) 0) (dr := []) ⟨0, rfl⟩ (.inl rfl) (by kernel_rfl) (fun _ _ h => h.elim) ?_
 conv => whnf
 refine call0 [] rfl (fun _ => htk) ?_
 rintro r rfl
 have htb := fun h => row_tkP (s := s) (by omega) h
 unfold lexR
 cases herr : (lexF' s).err with
 | some pe =>
  obtain ⟨p, e⟩ := pe
  rw [herr] at hR
  simp only at hR
  have hne := (lexG_ok (s.data.toList.length + 1) 0 s.data.toList).2 p e herr
  conv => whnf
  refine okT_step (cx_ok ordPu (fun _ => [0]) 0) (dr := []) ⟨0, rfl⟩ (.inl rfl) (by kernel_rfl) (fun _ _ h => h.elim) ?_
  conv => whnf
  rw [decide_eq_false hne.2.1]
  conv => whnf
  apply join_eq
  ·repeat' (first | (with_reducible refine And.intro ?_ ?_) | (conv => whnf))
  conv => whnf
  refine ⟨.inr rfl, ?_⟩
  conv => whnf
  subst hR
  rfl
 | none =>
  rw [herr] at hR
  simp only at hR
  have htb := htb herr
  have hrl := rowT_none herr
  rw [← hrl]
  have hln : (lexF' s).toks.length + 1 = (rowT s).length := by rw [hrl]; simp
  rw [hln]
  generalize rowT s = T at *
  conv => whnf
  refine okT_step (cx_ok ordPu (fun _ => [0]) 0) (dr := []) ⟨0, rfl⟩ (.inl rfl) (by kernel_rfl) (fun _ _ h => h.elim) ?_
  conv => whnf
  refine okT_defer (cx_ok ordPu (fun _ => [0]) 0) ⟨0, rfl⟩ (fun _ _ h => h.elim) (l := [_]) rfl rfl rfl ?_
  conv => whnf
  have hpg := program_spec T htb
  have hsan := fun x e => proF_san htb (x := x) (e := e)
  rw [hR] at hpg
  refine okT_step (c := ⟨Tryz.prog, tab, ordPu, fun _ => [0], 0, PanU R⟩) (cx_okP _ _ _ _) ⟨3, rfl⟩ (.inr (by kernel_rfl)) (by kernel_rfl) hpan ?_
  conv => whnf
  refine callP1x 3 [] rfl rfl rfl rfl (fun _ => hpg) (fun ch bx' hp hbl hbx => ?_) ?_
  ·unfold puQ at hp
   split at hp
   ·rename_i x e
    obtain ⟨d', rfl⟩ := box4u hbl hbx
    exact ⟨x, e, .dead, .dead, .dead, _, _, _, _, rfl, hsan _ _ hR, hp, rfl, rfl, rfl⟩
   ·exact hp.elim
  rintro o r ⟨⟨nm, ts1, ho⟩, huo⟩
  cases ho
  unfold uoQ at huo
  split at huo
  rotate_left
  ·exact huo.elim
  rename_i u
  subst huo
  conv => whnf
  refine okT_last (c := ⟨Tryz.prog, tab, ordPu, fun _ => [0], 0, PanU (.ok u)⟩) (cx_okP _ _ _ _) ⟨3, rfl⟩ (.inr (by kernel_rfl)) (by kernel_rfl) hpan ?_
  conv => whnf
  refine ⟨.inr rfl, ?_⟩
  unfold leaveK
  refine ⟨(fun h => by cases h), FrameMode.returning, ?_⟩
  unfold DfrW
  refine ⟨fun vs w => rfl, [0, 1, 2], [], [utA u, [intA 0], [intA 0]], [.box 0 0, .box 1 0, .box 2 0], fun o r => o = [utA u, [intA 0], [intA 0]] ∧ r = .tup [], by decide, ?_, rfl, rfl, fun _ => parse1_ret u, ?_⟩
  ·intro i hi
   simp only [List.length_cons]
   simp at hi
   omega
  rintro o r ⟨rfl, rfl⟩ _
  conv => whnf
  rfl
end Go.Proofs.YtfbifdccmabdbaaGreatDoor.Vm
namespace Go.Proofs.YtfbifdccmabdbaaGreatDoor.Vm
open Go.RowKit Go.Shelf
set_option linter.unusedSimpArgs false
set_option linter.unusedVariables false
set_option maxRecDepth 100000
def opAll : List ByteArray := [pAnd, pOr, pPlus, pMinus, pStar, pSlash, pLt, pLe, pGt, pGe, pEqq, pNe]
def arN (k : Int) (s : ByteArray) (m : Nat) : Bool :=
 if k = 11 then decide (m ≤ 3002)
 else if k = 12 ∨ k = 13 ∨ k = 14 ∨ k = 5 ∨ k = 6 ∨ k = 7 ∨ k = 10 then decide (m = 0)
 else if k = 15 then decide (m = 0) && builtL.any fun x => decide (s = x)
 else if k = 16 ∨ k = 1 ∨ k = 9 then decide (m = 1)
 else if k = 17 then decide (m = 1)
 else if k = 18 then decide (m = 2) && opAll.any fun x => decide (s = x)
 else if k = 8 ∨ k = 3 then decide (m = 2)
 else if k = 2 ∨ k = 4 then decide (m = 3)
 else false
theorem ar_len {k : Int} {s : ByteArray} {m : Nat} (h : arN k s m = true) : m ≤ 3002 := by
 unfold arN at h
 repeat' split at h
 all_goals (try rw [Bool.and_eq_true] at h); (try simp only [decide_eq_true_eq] at h); (first | omega | (have := h.1; omega) | cases h)
mutual
def wfN : Nt → Prop
 | .mk k n s kids => arN k s kids.length = true ∧ wfNs kids
def wfNs : List Nt → Prop
 | [] => True
 | f :: l => wfN f ∧ wfNs l
end
theorem wfNs_mem : ∀ {l : List Nt} {f : Nt}, wfNs l → f ∈ l → wfN f
 | x :: r, f, h, hf => by
  unfold wfNs at h
  rcases List.mem_cons.1 hf with rfl | hf
  ·exact h.1
  ·exact wfNs_mem h.2 hf
theorem wfNs_of : ∀ {l : List Nt}, (∀ f ∈ l, wfN f) → wfNs l
 | [], _ => by unfold wfNs; trivial
 | x :: r, h => by
  unfold wfNs
  exact ⟨h x List.mem_cons_self, wfNs_of fun f hf => h f (List.mem_cons_of_mem _ hf)⟩
theorem wf_mk {k n : Int} {s : ByteArray} {kids : List Nt} (h : arN k s kids.length = true) (hk : ∀ f ∈ kids, wfN f) : wfN (.mk k n s kids) := by
 unfold wfN
 exact ⟨h, wfNs_of hk⟩
def WP (op : List Tk → Pn) : Prop := ∀ ts f r, ts.length ≤ 3002 → op ts = .ok f r → wfN f ∧ ∃ a, ts = a ++ r
def WK (k : Nt → List Tk → Pn) : Prop := ∀ f, wfN f → WP (k f)
theorem WP.syn : WP synE := fun ts f r _ h => by cases h
theorem WP.bad (x : List Tk → Int) (y : Int) : WP (fun ts => .bad (x ts) y) := fun ts f r _ h => by cases h
theorem WP.okT {f : Nt} (hf : wfN f) : WP (fun r => .ok f r) := fun ts g r _ h => by cases h; exact ⟨hf, [], rfl⟩
theorem WP.andThen {op : List Tk → Pn} {k : Nt → List Tk → Pn} (h1 : WP op) (h2 : WK k) : WP (fun ts => (op ts).andThen k) := fun ts f r hz h => by
 cases ho : op ts with
 | bad x y => simp only [ho] at h; cases h
 | ok g u =>
  simp only [ho] at h
  obtain ⟨a1, a, a2⟩ := h1 ts g u hz ho
  have hu : u.length ≤ 3002 := by rw [a2, List.length_append] at hz; omega
  obtain ⟨b1, b, b2⟩ := h2 g a1 u f r hu h
  exact ⟨b1, a ++ b, by rw [a2, b2, List.append_assoc]⟩
theorem WP.tail {op : List Tk → Pn} (h : WP op) : WP (fun ts => op ts.tail) := fun ts f r hz ho => by
 obtain ⟨a1, a, a2⟩ := h _ f r (by rw [List.length_tail]; omega) ho
 cases ts with
 | nil => exact ⟨a1, [], (List.append_eq_nil_iff.1 a2.symm).2.symm⟩
 | cons t ts => exact ⟨a1, t :: a, by simpa using a2⟩
theorem WP.ite (c : List Tk → Prop) [DecidablePred c] {op1 op2 : List Tk → Pn} (h1 : WP op1) (h2 : WP op2) : WP (fun ts => if c ts then op1 ts else op2 ts) := fun ts f r hz h => by
 dsimp only at h
 split at h
 ·exact h1 ts f r hz h
 ·exact h2 ts f r hz h
theorem WP.xpt (s : ByteArray) {k : List Tk → Pn} (h : WP k) : WP (fun ts => Vm.xpt s ts k) := WP.ite (fun ts => isP s ts = true) h.tail WP.syn
theorem WP.num (limit : Int) {k : Int → List Tk → Pn} (h : ∀ n, WP (k n)) : WP (fun ts => numP limit ts k) := fun ts f r hz ho => by
 unfold numP at ho
 dsimp only at ho
 split at ho
 ·cases ho
 ·split at ho
  ·cases ho
  ·exact (h _).tail ts f r hz ho
structure WPa (p : Pa) : Prop where
 no : WP p.no
 un : WP p.un
 ex : WP p.ex
 bl : WP p.bl
def WLow (low : Option Pa) : Prop := ∀ p, low = some p → WPa p
theorem WP.nest {low : Option Pa} (hl : WLow low) : WP (nestG low) := by
 cases low with
 | none => exact WP.ite (fun ts => isP pLp ts = true) (WP.bad _ _) WP.syn
 | some p => exact WP.ite (fun ts => isP pLp ts = true) (((hl p rfl).ex.andThen fun n hn => WP.xpt pRp (WP.okT hn)).tail) WP.syn
theorem WP.tok {op : Tk → List Tk → Pn} (h : ∀ t, WP (op t)) : WP (fun ts => op (hd ts) ts.tail) := fun ts f r hz ho => (h (hd ts)).tail ts f r hz ho
theorem WP.prim {low : Option Pa} (hl : WLow low) : WP (primG low) := by
 have lf : ∀ (k n : Int) (s : ByteArray), arN k s 0 = true → wfN (.mk k n s []) := fun k n s h => wf_mk h (by simp)
 refine WP.ite (fun ts => isP pLp ts = true) (WP.nest hl) <|
  WP.ite (fun ts => isP wDraw ts = true) (((WP.nest hl).andThen fun n hn => WP.okT (wf_mk rfl fun f hf => by rw [List.mem_singleton.1 hf]; exact hn)).tail) <|
  WP.ite (fun ts => (hd ts).kind = 2) (WP.tok (op := fun t r => .ok (.mk 12 t.n eB []) r) fun t => WP.okT (lf _ _ _ rfl)) <|
  WP.ite (fun ts => isP wTrue ts = true) (WP.okT (lf 13 1 eB rfl)).tail <|
  WP.ite (fun ts => isP wFalse ts = true) (WP.okT (lf 13 0 eB rfl)).tail <|
  WP.ite (fun ts => isNm ts = true) (WP.tok (op := fun t r => .ok (.mk 14 0 t.text []) r) fun t => WP.okT (lf _ _ _ rfl)) ?_
 intro ts f r hz h
 dsimp only at h
 by_cases hb : isBi ts = true
 ·rw [if_pos hb] at h
  cases h
  refine ⟨lf 15 0 _ ?_, ?_⟩
  ·unfold isBi at hb
   rw [Bool.and_eq_true] at hb
   show (decide (0 = 0) && _) = true
   rw [hb.2]; rfl
  ·cases ts with
   | nil => exact ⟨[], rfl⟩
   | cons t ts => exact ⟨[t], rfl⟩
 ·rw [if_neg hb] at h
  cases h
theorem WP.pre (s : ByteArray) {op : Option (List Tk → Pn)} (h : ∀ f, op = some f → WP f) {op2 : List Tk → Pn} (h2 : WP op2) : WP (fun ts => if isP s ts = true then preG s op ts else op2 ts) := by
 cases op with
 | none => exact WP.ite (fun ts => isP s ts = true) (WP.bad _ _) h2
 | some f => exact WP.ite (fun ts => isP s ts = true) (((h f rfl).andThen fun n hn => WP.okT (wf_mk rfl fun f hf => by rw [List.mem_singleton.1 hf]; exact hn)).tail) h2
theorem WP.una {low : Option Pa} (hl : WLow low) : WP (unaG low) :=
 WP.pre pMinus (op := low.map fun p : Pa => p.un) (fun f hf => by
  cases low with
  | none => cases hf
  | some p => cases hf; exact (hl p rfl).un) (WP.prim hl)
theorem two_memW {f g h : Nt} (hf : wfN f) (hg : wfN g) (hh : h ∈ [f, g]) : wfN h := by
 simp only [List.mem_cons, List.not_mem_nil, or_false] at hh
 rcases hh with rfl | rfl <;> assumption
theorem any_txW {signs : List ByteArray} {ts : List Tk} (hs : ∀ s ∈ signs, (opAll.any fun x => decide (s = x)) = true) (h : anyT signs ts = true) : (opAll.any fun x => decide ((hd ts).text = x)) = true := by
 unfold anyT at h
 rw [List.any_eq_true] at h
 obtain ⟨s, h1, h2⟩ := h
 unfold isP at h2
 rw [Bool.and_eq_true, decide_eq_true_eq] at h2
 rw [h2.1]
 exact hs s h1
theorem ar_bin {s : ByteArray} (h : (opAll.any fun x => decide (s = x)) = true) : arN 18 s 2 = true := by
 show (decide (2 = 2) && _) = true
 rw [h]; rfl
theorem WP.chn {op : List Tk → Pn} {signs : List ByteArray} (hs : ∀ s ∈ signs, (opAll.any fun x => decide (s = x)) = true) (h : WP op) : WP (chnF op signs) := by
 have go : ∀ (n : Nat) (l : Nt), wfN l → WP (chnGo op signs n l) := fun n => by
  induction n with
  | zero => intro l hl; exact WP.okT hl
  | succ n ih =>
   intro l hl ts f r hz ho
   rw [chnGo] at ho
   by_cases ha : anyT signs ts = true
   ·rw [if_pos ha] at ho
    exact (h.andThen (k := fun f r => chnGo op signs n (.mk 18 0 (hd ts).text [l, f]) r) fun g hg => ih _ (wf_mk (ar_bin (any_txW hs ha)) fun f hf => two_memW hl hg hf)).tail ts f r hz ho
   ·rw [if_neg ha] at ho
    exact WP.okT hl ts f r hz ho
 exact h.andThen (k := fun f r => chnGo op signs r.length f r) fun f hf ts g r hz ho => go _ f hf ts g r hz ho
theorem WP.sum {low : Option Pa} (hl : WLow low) : WP (sumG low) := WP.chn (by decide) (WP.chn (by decide) (WP.una hl))
theorem WP.nt {low : Option Pa} (hl : WLow low) : WP (ntG low) :=
 WP.pre pNot (op := low.map fun p : Pa => p.no) (fun f hf => by
  cases low with
  | none => cases hf
  | some p => cases hf; exact (hl p rfl).no) <| (WP.sum hl).andThen fun l hw => fun r f r' hz ho => by
   by_cases ha : anyT cmpL r = true
   ·rw [if_pos ha] at ho
    exact ((WP.sum hl).andThen (k := fun m r' => .ok (.mk 18 0 (hd r).text [l, m]) r') fun g hg => WP.okT (wf_mk (ar_bin (any_txW (by decide) ha)) fun f hf => two_memW hw hg hf)).tail r f r' hz ho
   ·rw [if_neg ha] at ho
    exact WP.okT hw r f r' hz ho
theorem WP.exp {low : Option Pa} (hl : WLow low) : WP (expG low) := WP.chn (by decide) (WP.chn (by decide) (WP.nt hl))
theorem one_memW {f g : Nt} (hf : wfN f) (hg : g ∈ [f]) : wfN g := by rw [List.mem_singleton.1 hg]; exact hf
theorem three_memW {f g h i : Nt} (hf : wfN f) (hg : wfN g) (hh : wfN h) (hi : i ∈ [f, g, h]) : wfN i := by
 simp only [List.mem_cons, List.not_mem_nil, or_false] at hi
 rcases hi with rfl | rfl | rfl <;> assumption
theorem WP.stm {ex bl : List Tk → Pn} (hx : WP ex) (hb : WP bl) : WP (stG ex bl) := by
 have semi : ∀ f : Nt, wfN f → WP (fun r => Vm.xpt pSemi r fun r => .ok f r) := fun f hf => WP.xpt pSemi (WP.okT hf)
 have lf : ∀ (k n : Int), arN k eB 0 = true → wfN (.mk k n eB []) := fun k n h => wf_mk h (by simp)
 exact WP.ite (fun ts => isNm ts = true) (WP.tok (op := fun t ts => Vm.xpt pEq ts fun r => (ex r).andThen fun e r => Vm.xpt pSemi r fun r => .ok (.mk 1 0 t.text [e]) r) fun t => WP.xpt pEq (hx.andThen fun e he => semi _ (wf_mk rfl fun f hf => one_memW he hf))) <|
  WP.ite (fun ts => (hd ts).kind ≠ 1) WP.syn <|
  WP.ite (fun ts => (hd ts).text = wIf) ((hx.andThen fun c hc => hb.andThen fun b hb2 => WP.ite (fun r => isP wElse r = true) ((hb.andThen fun o ho => WP.okT (wf_mk rfl fun f hf => three_memW hc hb2 ho hf)).tail) (WP.okT (wf_mk rfl fun f hf => three_memW hc hb2 (wf_mk rfl (by simp)) hf))).tail) <|
  WP.ite (fun ts => (hd ts).text = wWhile) ((hx.andThen fun c hc => hb.andThen fun b hb2 => WP.okT (wf_mk rfl fun f hf => two_memW hc hb2 hf)).tail) <|
  WP.ite (fun ts => (hd ts).text = wSend) ((hx.andThen fun t ht => WP.xpt pComma (WP.num 30 fun n => WP.xpt pComma (hx.andThen fun a ha => WP.xpt pComma (hx.andThen fun b hb2 => semi _ (wf_mk rfl fun f hf => three_memW ht ha hb2 hf))))).tail) <|
  WP.ite (fun ts => (hd ts).text = wTimer) ((WP.num 8 fun n => semi _ (lf 5 n rfl)).tail) <|
  WP.ite (fun ts => (hd ts).text = wCancel) ((WP.num 8 fun n => semi _ (lf 6 n rfl)).tail) <|
  WP.ite (fun ts => (hd ts).text = wSync) ((semi _ (lf 7 0 rfl)).tail) <|
  WP.ite (fun ts => (hd ts).text = wReply) ((hx.andThen fun a ha => WP.xpt pComma (hx.andThen fun b hb2 => semi _ (wf_mk rfl fun f hf => two_memW ha hb2 hf))).tail) <|
  WP.ite (fun ts => (hd ts).text = wFail) ((hx.andThen fun a ha => semi _ (wf_mk rfl fun f hf => one_memW ha hf)).tail) <|
  WP.ite (fun ts => (hd ts).text = wStop) ((semi _ (lf 10 0 rfl)).tail) WP.syn
theorem WP.blk {st : List Tk → Pn} (h : WP st) : WP (bkF st) := by
 have go : ∀ (n : Nat) (acc : List Nt), (∀ f ∈ acc, wfN f) → acc.length + n ≤ 3002 → WP (bkGo st n acc) := fun n => by
  induction n with
  | zero => intro acc ha hz ts f r _ ho; cases ho
  | succ n ih =>
   intro acc ha hz ts f r hz2 ho
   rw [bkGo] at ho
   by_cases hp : isP pRb ts = true
   ·rw [if_pos hp] at ho
    cases ho
    refine ⟨wf_mk (decide_eq_true (by omega)) ha, ?_⟩
    cases ts with
    | nil => exact ⟨[], rfl⟩
    | cons t ts => exact ⟨[t], rfl⟩
   ·rw [if_neg hp] at ho
    exact h.andThen (k := fun s r => bkGo st n (acc ++ [s]) r) (fun s hs => ih (acc ++ [s]) (fun f hf => by
     rcases List.mem_append.1 hf with hf | hf
     ·exact ha f hf
     ·exact one_memW hs hf) (by rw [List.length_append, List.length_singleton]; omega)) ts f r hz2 ho
 exact WP.xpt pLb (k := fun r => bkGo st r.length [] r) fun ts f r hz ho => go ts.length [] (by simp) (by simpa using hz) ts f r hz ho
theorem WP.bkN : WP bkN := WP.ite (fun ts => isP pLb ts = true) (WP.bad _ _) WP.syn
theorem WPa.pa {low : Option Pa} (hl : WLow low) : WPa (paG low) where
 no := WP.nt hl
 un := WP.una hl
 ex := WP.exp hl
 bl := WP.blk (WP.stm (WP.exp hl) (by
  cases low with
  | none => exact WP.bkN
  | some p => exact (hl p rfl).bl))
theorem wpa : ∀ n, WPa (pa n)
 | 0 => WPa.pa fun p h => by cases h
 | n + 1 => WPa.pa fun p h => by cases h; exact wpa n
structure WfU (u : Ut) : Prop where
 du : u.du.length + u.vo.length ≤ 16
 on : ∀ h ∈ u.on, 0 ≤ h.1 ∧ h.1 < 40 ∧ wfN h.2
 nd : u.on.Pairwise fun a b => a.1 ≠ b.1
 ol : u.on.length ≤ 4000
end Go.Proofs.YtfbifdccmabdbaaGreatDoor.Vm
namespace Go.Proofs.YtfbifdccmabdbaaGreatDoor.Vm
open Go.RowKit Go.Shelf
set_option linter.unusedSimpArgs false
set_option linter.unusedVariables false
set_option maxRecDepth 100000
mutual
def toD : Nt → Nd
 | .mk k n s kids => .mk k n s (toDs kids)
def toDs : List Nt → List Nd
 | [] => []
 | f :: l => toD f :: toDs l
end
theorem toDs_map : ∀ l : List Nt, toDs l = l.map toD
 | [] => rfl
 | f :: l => by rw [toDs, toDs_map l]; rfl
def toU (u : Ut) : Un := ⟨u.du, u.vo, u.on.map fun h => (h.1, toD h.2)⟩
def NoSp (C D : Rd) : Prop := ∀ b o u, C ⟨b, o, none⟩ = some u → D ⟨b, o, none⟩ = some u
theorem repAt_append {E : Env} {b : Nat} : ∀ {l m : List A} {off : Nat}, A.repAt (l ++ m) E b off ↔ A.repAt l E b off ∧ A.repAt m E b (off + l.length)
 | [], m, off => by simp [A.repAt]
 | a :: r, m, off => by
  simp only [List.cons_append, A.repAt]
  rw [repAt_append (l := r)]
  simp only [List.length_cons, Nat.add_assoc, Nat.add_comm 1]
  constructor
  ·rintro ⟨h1, h2, h3⟩; exact ⟨⟨h1, h2⟩, h3⟩
  ·rintro ⟨⟨h1, h2⟩, h3⟩; exact ⟨h1, h2, h3⟩
theorem rep_viC {E : Env} {n : Int} {u : Value} : (A.v (.int .i64 n)).rep E u ↔ u = .int .i64 n ∧ (-9223372036854775808 ≤ n ∧ n ≤ 9223372036854775807) := by
 rw [A.rep_v_iff]
 constructor
 ·rintro ⟨h1, h2⟩; exact ⟨h1, okV_int.1 h2⟩
 ·rintro ⟨h1, h2⟩; exact ⟨h1, okV_int.2 h2⟩
theorem rep_vsC {E : Env} {n : ByteArray} {u : Value} : (A.v (.string n)).rep E u ↔ u = .string n ∧ n.size ≤ maxLen := by
 rw [A.rep_v_iff]; exact Iff.rfl
mutual
theorem nt_at : ∀ (t : Nt) {E : Env} {D : Rd} {v : Value}, NoSp E.C D → wfN t → (A.agg (nt0 t)).rep E v → (toD t).At D v
 | .mk k n s kids, E, D, v, hD, hs, h => by
  unfold wfN at hs
  have hl : kids.length ≤ 3002 := ar_len hs.1
  unfold A.rep nt0 at h
  obtain ⟨us, rfl, h⟩ := h
  obtain ⟨us⟩ := us
  simp only [A.repC] at h
  obtain ⟨_, _, rfl, -, g1, _, _, rfl, -, g2, _, _, rfl, -, g3, _, _, rfl, -, g4, rfl⟩ := h
  unfold intA at g1 g2
  unfold strA at g3
  rw [rep_viC] at g1 g2
  rw [rep_vsC] at g3
  obtain ⟨rfl, g1⟩ := g1
  obtain ⟨rfl, g2⟩ := g2
  obtain ⟨rfl, g3⟩ := g3
  unfold A.rep at g4
  obtain ⟨_, _, p, b, off, cap, rfl, h6, h7, h8, h9⟩ := g4
  unfold toD Nd.At
  have hlen : (toDs kids).length = kids.length := by rw [toDs_map, List.length_map]
  rw [hlen]
  refine ⟨g1, g2, g3, by omega, p, b, off, cap, rfl, h6, ?_, h8, nt_in kids (E := E.per) hD hs.2 h9⟩
  rcases h7 with h7 | h7
  ·exact .inl (List.eq_nil_of_length_eq_zero (by rw [hlen]; exact h7))
  ·exact .inr h7
theorem nt_in : ∀ (l : List Nt) {E : Env} {D : Rd} {b off : Nat}, NoSp E.C D → wfNs l → A.repAt (nts0 l) E b off → Nd.In D b (toDs l) off
 | [], _, _, _, _, _, _, _ => by unfold toDs Nd.In; trivial
 | t :: ts, E, D, b, off, hD, hs, h => by
  unfold wfNs at hs
  unfold nts0 at h
  have hl4 : (nt0 t).length = 4 := by rw [nt0_eq]; rfl
  rw [repAt_append, hl4] at h
  obtain ⟨h1, h2⟩ := h
  unfold toDs Nd.In
  refine ⟨?_, nt_in ts hD hs.2 h2⟩
  obtain ⟨us, k1, k2⟩ := A.repAt_vals h1
  have hl := A.repC_len k1
  rw [hl4] at hl
  match us, hl, k1, k2 with
  | [v0, v1, v2, v3], _, k1, k2 =>
   refine ⟨v0, v1, v2, v3, hD _ _ _ (k2 0 v0 rfl), hD _ _ _ (k2 1 v1 rfl), hD _ _ _ (k2 2 v2 rfl), hD _ _ _ (k2 3 v3 rfl), nt_at t (E := E) hD hs.1 ?_⟩
   unfold A.rep
   exact ⟨_, rfl, k1⟩
end
theorem repAt_mapC {α : Type} {E : Env} {b : Nat} (f : α → Value) (hf : ∀ x, (f x).oneCell' = true) : ∀ {l : List α} {off : Nat}, A.repAt (l.map fun x => .v (f x)) E b off ↔ ∀ i (hi : i < l.length), E.C ⟨b, off + i, none⟩ = some (f l[i]) ∧ okV (f l[i])
 | [], off => by simp [A.repAt]
 | x :: l, off => by
  simp only [List.map_cons, A.repAt]
  rw [repAt_mapC f hf (l := l)]
  constructor
  ·rintro ⟨⟨u, h1, -, h3⟩, h4⟩ i hi
   rw [A.rep_v_iff] at h3
   cases i with
   | zero => rw [Nat.add_zero, h1, h3.1]; exact ⟨rfl, h3.2⟩
   | succ i =>
    have := h4 i (by simpa using hi)
    rw [show off + (i + 1) = off + 1 + i by omega]; exact this
  ·intro h
   refine ⟨⟨f x, by have := (h 0 (by simp)).1; simpa using this, hf x, A.rep_v_iff.2 ⟨rfl, (h 0 (by simp)).2⟩⟩, fun i hi => ?_⟩
   have := h (i + 1) (by simpa using hi)
   rw [show off + 1 + i = off + (i + 1) by omega]; exact this
theorem rep_strs {E : Env} {D : Rd} {v : Value} {l : List ByteArray} (hD : NoSp E.C D) (hl : l.length ≤ 1000000000) (h : (A.sl 1 l.length (txA l)).rep E v) : StrsAt D v l := by
 unfold txA strA at h
 unfold A.rep at h
 obtain ⟨_, _, p, b, off, cap, rfl, h6, h7, h8, h9⟩ := h
 have h9 := (repAt_mapC (E := E.per) Value.string (fun _ => rfl)).1 h9
 refine ⟨hl, fun s hs => ?_, p, b, off, cap, rfl, h6, ?_, h8, fun i hi => ?_⟩
 ·obtain ⟨i, hi, rfl⟩ := List.mem_iff_getElem.1 hs
  exact (h9 i hi).2
 ·rcases h7 with h7 | h7
  ·exact .inl (List.eq_nil_of_length_eq_zero h7)
  ·exact .inr h7
 ·have := (h9 i hi).1
  simp [List.getD_eq_getElem?_getD, hi]
  exact hD _ _ _ this
theorem repAt_flat {α : Type} {E : Env} {b k : Nat} (f : α → List A) (hf : ∀ x, (f x).length = k) : ∀ {l : List α} {off : Nat}, A.repAt (l.flatMap f) E b off ↔ ∀ i (hi : i < l.length), A.repAt (f l[i]) E b (off + i * k)
 | [], off => by simp [A.repAt]
 | x :: l, off => by
  rw [List.flatMap_cons, repAt_append, repAt_flat f hf (l := l), hf]
  constructor
  ·rintro ⟨h1, h2⟩ i hi
   cases i with
   | zero => simpa using h1
   | succ i =>
    have := h2 i (by simpa using hi)
    rw [show off + (i + 1) * k = off + k + i * k by rw [Nat.add_mul]; omega]; exact this
  ·intro h
   refine ⟨by have := h 0 (by simp); rw [Nat.zero_mul, Nat.add_zero] at this; exact this, fun i hi => ?_⟩
   have := h (i + 1) (by simpa using hi)
   rw [show off + k + i * k = off + (i + 1) * k by rw [Nat.add_mul]; omega]; exact this
theorem rep_un {E : Env} {D : Rd} {v : Value} {u : Ut} (hD : NoSp E.C D) (hs : WfU u) (h : (A.agg (utA u)).rep E v) : UnAt D v (toU u) := by
 unfold A.rep utA at h
 obtain ⟨us, rfl, h⟩ := h
 obtain ⟨us⟩ := us
 simp only [A.repC] at h
 obtain ⟨dv, _, rfl, -, g1, vv, _, rfl, -, g2, ov, _, rfl, -, g3, rfl⟩ := h
 refine ⟨dv, vv, ov, rfl, rep_strs (l := u.du) hD (by have := hs.du; omega) g1, rep_strs (l := u.vo) hD (by have := hs.du; omega) g2, ?_⟩
 unfold A.rep at g3
 obtain ⟨_, _, p, b, off, cap, rfl, h6, h7, h8, h9⟩ := g3
 have hlen : (toU u).on.length = u.on.length := List.length_map ..
 unfold HsAt
 rw [hlen]
 refine ⟨by have := hs.ol; omega, p, b, off, cap, rfl, h6, ?_, h8, fun i hi => ?_⟩
 ·rcases h7 with h7 | h7
  ·exact .inl (List.eq_nil_of_length_eq_zero (by rw [hlen]; exact h7))
  ·exact .inr h7
 ·rw [hlen] at hi
  have hon : (toU u).on[i] = (u.on[i].1, toD u.on[i].2) := by simp [toU]
  rw [hon]
  unfold hnsA at h9
  have h10 := (repAt_flat (E := E.per) (k := 5) hnA (fun _ => rfl)).1 h9 i hi
  obtain ⟨us, k1, k2⟩ := A.repAt_vals h10
  have hl := A.repC_len k1
  rw [show (hnA u.on[i]).length = 5 from rfl] at hl
  match us, hl, k1, k2 with
  | [v0, v1, v2, v3, v4], _, k1, k2 =>
   unfold hnA intA A.repC at k1
   obtain ⟨_, _, e, -, g1, k3⟩ := k1
   cases e
   rw [rep_viC] at g1
   obtain ⟨rfl, g4, g5⟩ := g1
   refine ⟨g4, g5, v1, v2, v3, v4, hD _ _ _ (k2 0 _ rfl), hD _ _ _ (k2 1 v1 rfl), hD _ _ _ (k2 2 v2 rfl), hD _ _ _ (k2 3 v3 rfl), hD _ _ _ (k2 4 v4 rfl), nt_at u.on[i].2 (E := E) hD (hs.on _ (List.getElem_mem hi)).2.2 ?_⟩
   unfold A.rep
   rw [nt0_eq]
   exact ⟨_, rfl, A.repC.mono _ E.per_le k3⟩
theorem noSp_see {w : World} {C : Rd} (h : Sub C (see w)) : NoSp C w.cell? := fun b o u hc => h _ _ hc
def ixU (u : Ut) (s : ByteArray) : Int := indexF u.du u.vo s
theorem tcheck (u : Ut) (hu : WfU u) : Spec Tryz.prog 28 [] [.agg (utA u)] fun _ r => r = intA (checkF (toU u)) := by
 refine spec_ext (call_of Tryz.func28 rfl (by kernel_rfl)) fun w C vals h0 h1 h2 => ?_
 unfold A.repL at h2
 obtain ⟨v, us, rfl, h2, h3⟩ := h2
 unfold A.repL at h3
 subst h3
 refine (check_any (toU u) v w (rep_un (noSp_see h1) hu h2)).mono ?_
 rintro e w' ⟨rfl, hx⟩
 exact ⟨_, rfl, hx, A.rep_v (okV_int.2 (by unfold checkF; split <;> decide))⟩
theorem posF_bnd (l : List ByteArray) (s : ByteArray) : -1 ≤ posF l s ∧ posF l s ≤ l.length := by
 have := posF_le l s
 omega
theorem ixU_bnd {u : Ut} (hu : WfU u) (s : ByteArray) : -1 ≤ ixU u s ∧ ixU u s ≤ 100 := by
 have h1 := posF_bnd u.du s
 have h2 := posF_bnd u.vo s
 have h3 := hu.du
 unfold ixU indexF
 repeat' split
 all_goals omega
theorem tindex (u : Ut) (hu : WfU u) (s : ByteArray) : Spec Tryz.prog 62 [] [.agg (utA u), strA s] fun _ r => r = intA (ixU u s) := by
 have hb := ixU_bnd hu s
 refine spec_ext (call_of Tryz.func62 rfl (by kernel_rfl)) fun w C vals h0 h1 h2 => ?_
 unfold A.repL at h2
 obtain ⟨v, us, rfl, h2, h3⟩ := h2
 unfold A.repL at h3
 obtain ⟨v2, us2, rfl, h3, h4⟩ := h3
 unfold A.repL at h4
 subst h4
 obtain ⟨rfl, -⟩ := rep_vsC.1 h3
 obtain ⟨dv, vv, ov, rfl, g1, g2, g3⟩ := rep_un (noSp_see h1) hu h2
 refine (index_any dv vv ov u.du u.vo s w g1 g2).mono ?_
 rintro e w' ⟨rfl, hx⟩
 exact ⟨_, rfl, hx, A.rep_v (by have h := (okA_int (n := ixU u s)).2 (by omega); unfold okA at h; exact h)⟩
end Go.Proofs.YtfbifdccmabdbaaGreatDoor.Vm
namespace Go.Proofs.YtfbifdccmabdbaaGreatDoor.Vm
open Go.RowKit Go.Shelf
set_option linter.unusedSimpArgs false
set_option linter.unusedVariables false
set_option maxRecDepth 100000
theorem ins_perm (x : Int × Nt) : ∀ l : List (Int × Nt), (insH x l).Perm (x :: l)
 | [] => .refl _
 | y :: l => by
  rw [insH]
  split
  ·exact .refl _
  ·exact ((ins_perm x l).cons y).trans (.swap x y l)
theorem sort_perm : ∀ l : List (Int × Nt), (sortH l).Perm l
 | [] => .refl _
 | x :: l => (ins_perm x (sortH l)).trans ((sort_perm l).cons x)
structure WfH (l : List (Int × Nt)) : Prop where
 on : ∀ h ∈ l, 0 ≤ h.1 ∧ h.1 < 40 ∧ wfN h.2
 nd : l.Pairwise fun a b => a.1 ≠ b.1
theorem WfH.sort {l : List (Int × Nt)} (h : WfH l) : WfH (sortH l) where
 on := fun x hx => h.on x ((sort_perm l).mem_iff.1 hx)
 nd := ((sort_perm l).pairwise_iff (fun {a b} hab => fun e => hab e.symm)).2 h.nd
def TkN (ts : List Tk) : Prop := ∀ t ∈ ts, 0 ≤ t.n
theorem TkN.suf {a r : List Tk} (h : TkN (a ++ r)) : TkN r := fun t ht => h t (List.mem_append_right _ ht)
theorem TkN.tail {ts : List Tk} (h : TkN ts) : TkN ts.tail := fun t ht => h t (List.mem_of_mem_tail ht)
theorem TkN.hd {ts : List Tk} (h : TkN ts) : 0 ≤ (Vm.hd ts).n := by
 cases ts with
 | nil => exact Int.le_refl 0
 | cons t ts => exact h t List.mem_cons_self
theorem hn_wf {ts r : List Tk} {n : Int} (hz : TkN ts) (h : hnF ts = .ok n r) : 0 ≤ n ∧ n < 40 ∧ ∃ a, ts = a ++ r := by
 have suf : ∀ ts : List Tk, ∃ a, ts = a ++ ts.tail := fun ts => by
  cases ts with
  | nil => exact ⟨[], rfl⟩
  | cons t ts => exact ⟨[t], rfl⟩
 have num : ∀ (limit off : Int) (q : List Tk), TkN q → numH limit off q = .ok n r → off ≤ n ∧ n < off + limit ∧ ∃ a, q = a ++ r := fun limit off q hq h => by
  unfold numH at h
  split at h
  ·cases h
  ·split at h
   ·cases h
   ·cases h
    have := hq.hd
    exact ⟨by omega, by omega, suf q⟩
 obtain ⟨a, ha⟩ := suf ts
 unfold hnF at h
 split at h
 ·cases h; exact ⟨by omega, by omega, suf ts⟩
 ·split at h
  ·cases h; exact ⟨by omega, by omega, suf ts⟩
  ·split at h
   ·obtain ⟨h1, h2, b, h3⟩ := num 8 2 _ hz.tail h
    exact ⟨by omega, by omega, a ++ b, by rw [List.append_assoc, ← h3]; exact ha⟩
   ·split at h
    ·obtain ⟨h1, h2, b, h3⟩ := num 30 10 _ hz.tail h
     exact ⟨by omega, by omega, a ++ b, by rw [List.append_assoc, ← h3]; exact ha⟩
    ·cases h
theorem ha_wf (du vo : List ByteArray) (hn : du.length + vo.length ≤ 16) : ∀ (n : Nat) (hs : List (Int × Nt)) (ts : List Tk) (u : Ut), TkN ts → ts.length ≤ 3002 → hs.length + n ≤ 4000 → WfH hs → haGo du vo n hs ts = .ok u → WfU u
 | 0, hs, ts, u, _, _, _, _, h => by cases h
 | n + 1, hs, ts, u, hz, hl, hb, hw, h => by
  rw [haGo] at h
  split at h
  ·cases h
   exact ⟨hn, hw.sort.on, hw.sort.nd, by show (sortH hs).length ≤ _; rw [(sort_perm hs).length_eq]; omega⟩
  ·split at h
   ·cases h
   ·cases hh : hnF ts.tail with
    | bad x y => rw [hh] at h; cases h
    | ok k r =>
     rw [hh] at h
     obtain ⟨k0, k1, a, ha⟩ := hn_wf hz.tail hh
     dsimp only at h
     split at h
     ·cases h
     ·rename_i hdup
      cases hbl : (pa 19).bl r with
      | bad x y => rw [hbl] at h; cases h
      | ok b r2 =>
       rw [hbl] at h
       have hr : r.length ≤ 3002 := by
        have := congrArg List.length ha
        rw [List.length_append, List.length_tail] at this
        omega
       obtain ⟨wb, a2, ha2⟩ := (wpa 19).bl r b r2 hr hbl
       have hzr : TkN r := by
        have h1 := hz.tail
        rw [ha] at h1
        exact h1.suf
       refine ha_wf du vo hn n (hs ++ [(k, b)]) r2 u (by rw [ha2] at hzr; exact hzr.suf) (by
        rw [ha2, List.length_append] at hr; omega) (by rw [List.length_append, List.length_singleton]; omega) ?_ h
       refine ⟨fun x hx => ?_, List.pairwise_append.2 ⟨hw.nd, List.pairwise_singleton _ _, fun x hx y hy => ?_⟩⟩
       ·rcases List.mem_append.1 hx with hx | hx
        ·exact hw.on x hx
        ·rw [List.mem_singleton.1 hx]; exact ⟨k0, k1, wb⟩
       ·rw [List.mem_singleton.1 hy]
        intro e
        refine hdup ?_
        rw [List.any_eq_true]
        exact ⟨x, hx, decide_eq_true e⟩
theorem de_wf : ∀ (n : Nat) (names out : List ByteArray) (ts : List Tk) (names' out' : List ByteArray) (r : List Tk), names.length ≤ 16 → deGo n names out ts = .ok names' out' r → names'.length ≤ 16 ∧ names'.length + out.length = names.length + out'.length ∧ ∃ a, ts = a ++ r
 | 0, names, out, ts, names', out', r, _, h => by cases h
 | n + 1, names, out, ts, names', out', r, hl, h => by
  have suf : ∀ ts : List Tk, ∃ a, ts = a ++ ts.tail := fun ts => by
   cases ts with
   | nil => exact ⟨[], rfl⟩
   | cons t ts => exact ⟨[t], rfl⟩
  obtain ⟨a1, h1⟩ := suf ts
  obtain ⟨a2, h2⟩ := suf ts.tail
  obtain ⟨a3, h3⟩ := suf ts.tail.tail
  rw [deGo] at h
  split at h
  ·cases h
  ·split at h
   ·cases h
   ·split at h
    ·cases h
    ·split at h
     ·obtain ⟨g1, g2, b, g3⟩ := de_wf n _ _ _ _ _ _ (by rw [List.length_append, List.length_singleton]; omega) h
      rw [List.length_append, List.length_append, List.length_singleton] at g2
      exact ⟨g1, by omega, a1 ++ (a2 ++ b), by rw [List.append_assoc, List.append_assoc, ← g3, ← h2]; exact h1⟩
     ·split at h
      ·cases h
       refine ⟨by rw [List.length_append, List.length_singleton]; omega, by rw [List.length_append, List.length_append, List.length_singleton]; omega, a1 ++ (a2 ++ a3), by rw [List.append_assoc, List.append_assoc, ← h3, ← h2]; exact h1⟩
      ·cases h
theorem dc_wf : ∀ (n : Nat) (names du vo : List ByteArray) (ts : List Tk) (u : Ut), TkN ts → ts.length ≤ 3002 → names.length ≤ 16 → names.length = du.length + vo.length → dcGo n names du vo ts = .ok u → WfU u
 | 0, names, du, vo, ts, u, _, _, _, _, h => by cases h
 | n + 1, names, du, vo, ts, u, hz, hl, hn, he, h => by
  rw [dcGo] at h
  split at h
  ·cases hd : deGo ts.length names [] ts with
   | bad x y => rw [hd] at h; cases h
   | ok names' out r =>
    rw [hd] at h
    obtain ⟨g1, g2, b, g3⟩ := de_wf _ _ _ _ _ _ _ hn hd
    rw [List.length_nil] at g2
    rw [g3] at hz hl
    exact dc_wf n names' (du ++ out) vo r u hz.suf (by rw [List.length_append] at hl; omega) g1 (by rw [List.length_append]; omega) h
  ·split at h
   ·cases hd : deGo ts.length names [] ts with
    | bad x y => rw [hd] at h; cases h
    | ok names' out r =>
     rw [hd] at h
     obtain ⟨g1, g2, b, g3⟩ := de_wf _ _ _ _ _ _ _ hn hd
     rw [List.length_nil] at g2
     rw [g3] at hz hl
     exact dc_wf n names' du (vo ++ out) r u hz.suf (by rw [List.length_append] at hl; omega) g1 (by rw [List.length_append]; omega) h
   ·exact ha_wf du vo (by omega) _ [] ts u hz hl (by simp; omega) ⟨by simp, .nil⟩ h
theorem upar_wf {s : ByteArray} {u : Ut} (h : uparF s = .ok u) : WfU u := by
 unfold uparF at h
 split at h
 ·cases h
 ·rename_i hsz
  cases he : (lexF' s).err with
  | some p => rw [he] at h; cases h
  | none =>
   rw [he] at h
   have hok := rowT_ok s (by omega)
   have hlen : (rowT s).length ≤ 3002 := by
    have h1 := (lexG_ok (s.data.toList.length + 1) 0 s.data.toList).1
    rw [rowT_none he, List.length_append, List.length_singleton]
    have h2 : (lexF' s).toks.length ≤ s.data.toList.length := h1
    rw [size_len] at h2
    omega
   refine dc_wf _ [] [] [] (rowT s) u (fun t ht => ?_) hlen (by simp) rfl h
   rcases hok t ht with h3 | h3
   ·exact h3.2.2.2.1
   ·rw [h3.2.2.2]; exact Int.le_refl 0
end Go.Proofs.YtfbifdccmabdbaaGreatDoor.Vm
namespace Go.Proofs.YtfbifdccmabdbaaGreatDoor.Vm
open Go.RowKit Go.Shelf
set_option linter.unusedSimpArgs false
set_option linter.unusedVariables false
set_option maxRecDepth 100000
abbrev Ic := Int × Int
def icA (i : Ic) : List A := [intA i.1, intA i.2]
@[irreducible] def icsA (l : List Ic) : List A := l.flatMap icA
theorem icsA_nil : icsA [] = [] := by unfold icsA; rfl
theorem icsA_app (l m : List Ic) : icsA (l ++ m) = icsA l ++ icsA m := by unfold icsA; rw [List.flatMap_append]
theorem icsA_one (i : Ic) : icsA [i] = icA i := by unfold icsA; rw [List.flatMap_cons, List.flatMap_nil, List.append_nil]
theorem icsA_snoc (l : List Ic) (a b : Int) : icsA (l ++ [(a, b)]) = icsA l ++ [intA a, intA b] := by rw [icsA_app, icsA_one]; rfl
theorem icsA_flat (l : List Ic) : icsA l = l.flatMap icA := by unfold icsA; rfl
theorem rowOf_ics (l : List Ic) (i : Nat) (hi : i < l.length) : rowOf 2 i (icsA l) = icA l[i] := by rw [icsA_flat]; exact rowOf_flat icA (fun _ => rfl) l i hi
theorem icsA_len (l : List Ic) : (icsA l).length = l.length * 2 := by
 rw [icsA_flat]
 induction l with
 | nil => rfl
 | cons a l ih => rw [List.flatMap_cons, List.length_append, ih, List.length_cons]; simp only [icA, List.length_cons, List.length_nil]; omega
def noI : Int → List Ic := fun _ => []
def brC (c y n : Int → List Ic) (at' : Int) : List Ic :=
 let l := c at'
 let f := at' + l.length + 1 + (y (at' + l.length + 1)).length + 1
 l ++ (16, f) :: (y (at' + l.length + 1) ++ (15, f + (n f).length) :: n f)
def seqC : List (Int → List Ic) → Int → List Ic
 | [], _ => []
 | g :: r, at' => g at' ++ seqC r (at' + (g at').length)
def biF (s : ByteArray) : Int := match builtL.findIdx? (fun x => decide (x = s)) with
 | some i => i
 | none => -1
def opC (s : ByteArray) : List Ic :=
 if s = pPlus then [(6, 0)] else if s = pMinus then [(7, 0)] else if s = pStar then [(8, 0)] else if s = pSlash then [(9, 0)]
 else if s = pLt then [(11, 0)] else if s = pLe then [(12, 0)] else if s = pEqq then [(13, 0)] else if s = pGt then [(12, 0), (14, 0)]
 else if s = pGe then [(11, 0), (14, 0)] else [(13, 0), (14, 0)]
def bodyC (ix : ByteArray → Int) (k n : Int) (s : ByteArray) (g : List (Int → List Ic)) (at' : Int) : List Ic :=
 if k = 12 ∨ k = 13 then [(1, n)]
 else if k = 14 then [(2, ix s)]
 else if k = 15 then [(4, biF s)]
 else if k = 2 then brC (g.getD 0 noI) (g.getD 1 noI) (g.getD 2 noI) at'
 else if k = 5 then [(18, n)]
 else if k = 6 then [(19, n)]
 else if k = 7 then [(20, 0)]
 else if k = 10 then [(23, 0)]
 else if k = 3 then
  let c := (g.getD 0 noI) at'
  let b := (g.getD 1 noI) (at' + c.length + 1)
  c ++ (16, at' + c.length + b.length + 2) :: (b ++ [(15, at')])
 else if k = 18 ∧ s = pAnd then brC (g.getD 0 noI) (g.getD 1 noI) (fun _ => [(1, 0)]) at'
 else if k = 18 ∧ s = pOr then brC (g.getD 0 noI) (fun _ => [(1, 1)]) (g.getD 1 noI) at'
 else seqC g at' ++ (if k = 18 then opC s else if k = 16 then [(5, 0)] else if k = 17 then (if s = pMinus then [(10, 0)] else [(14, 0)]) else if k = 1 then [(3, ix s)] else if k = 4 then [(17, n)] else if k = 8 then [(21, 0)] else if k = 9 then [(22, 0)] else [])
mutual
def codeN (ix : ByteArray → Int) : Nt → Int → List Ic
 | .mk k n s kids, at' => bodyC ix k n s (codeNs ix kids) at'
def codeNs (ix : ByteArray → Int) : List Nt → List (Int → List Ic)
 | [] => []
 | f :: l => codeN ix f :: codeNs ix l
end
theorem codeNs_map (ix : ByteArray → Int) : ∀ l : List Nt, codeNs ix l = l.map (codeN ix)
 | [] => rfl
 | f :: l => by rw [codeNs, codeNs_map ix l]; rfl
end Go.Proofs.YtfbifdccmabdbaaGreatDoor.Vm
namespace Go.Proofs.YtfbifdccmabdbaaGreatDoor.Vm
open Go.RowKit Go.Shelf
set_option linter.unusedSimpArgs false
set_option linter.unusedVariables false
set_option maxRecDepth 100000
def popI (k : Int) : Int := if k = 3 ∨ k = 5 ∨ k = 10 ∨ k = 14 ∨ k = 16 ∨ k = 22 then 1 else if 6 ≤ k ∧ k ≤ 9 ∨ 11 ≤ k ∧ k ≤ 13 ∨ k = 21 then 2 else if k = 17 then 3 else 0
def pushI (k : Int) : Int := if k = 1 ∨ k = 2 ∨ 4 ≤ k ∧ k ≤ 14 then 1 else 0
def nxI (a : Int) (i : Ic) : List Int := if i.1 = 23 then [] else if i.1 = 15 then [i.2] else if i.1 = 16 then [a + 1, i.2] else [a + 1]
structure Fs where
 dm : List (Int × Int)
 wk : List Int
 er : Bool
def dF (dm : List (Int × Int)) (k : Int) : Option Int := (dm.find? fun p => decide (k = p.1)).map (·.2)
def kidF (n : Nat) (af : Int) (s : Fs) (k : Int) : Option Fs :=
 if (n : Int) ≤ k then none else match dF s.dm k with
 | some d => some ⟨s.dm, s.wk, s.er || decide (d ≠ af)⟩
 | none => some ⟨s.dm ++ [(k, af)], s.wk ++ [k], s.er⟩
def kidsF (n : Nat) (af : Int) : List Int → Fs → Option Fs
 | [], s => some s
 | k :: l, s => match kidF n af s k with
  | none => none
  | some s' => kidsF n af l s'
def afF (code : List Ic) (dm : List (Int × Int)) (a : Int) : Int := (dF dm a).getD 0 - popI (code.getD a.toNat (0, 0)).1 + pushI (code.getD a.toNat (0, 0)).1
def badF (code : List Ic) (dm : List (Int × Int)) (a : Int) : Bool := decide ((dF dm a).getD 0 < popI (code.getD a.toNat (0, 0)).1) || decide (16 < afF code dm a)
def stepF (code : List Ic) (dm : List (Int × Int)) (wk : List Int) (er : Bool) (a : Int) : Option Fs :=
 kidsF code.length (afF code dm a) (nxI a (code.getD a.toNat (0, 0))) ⟨dm, wk, er || badF code dm a⟩
def folE (er : Bool) : Int := if er = true then 13 else 0
def folF (code : List Ic) : Nat → Fs → Int
 | 0, s => folE s.er
 | m + 1, s => match s.wk.getLast? with
  | none => folE s.er
  | some a => match stepF code s.dm s.wk.dropLast s.er a with
   | none => 12
   | some s' => folF code m s'
def followF (code : List Ic) (entry : Int) : Int := if entry < 0 then 0 else folF code (code.length + 1) ⟨[(entry, 0)], [entry], false⟩
def JmpOk (code : List Ic) : Prop := ∀ i ∈ code, i.1 = 15 ∨ i.1 = 16 → 0 ≤ i.2
structure FsOk (n : Nat) (s : Fs) : Prop where
 rng : ∀ p ∈ s.dm, 0 ≤ p.1 ∧ p.1 < n
 nd : (s.dm.map (·.1)).Nodup
 wk : ∀ k ∈ s.wk, ∃ d, (k, d) ∈ s.dm
 dep : ∀ p ∈ s.dm, -(3 * (s.dm.length : Int)) ≤ p.2 ∧ p.2 ≤ 3 * s.dm.length
theorem dF_mem {dm : List (Int × Int)} {k d : Int} (h : dF dm k = some d) : (k, d) ∈ dm := by
 unfold dF at h
 cases hf : dm.find? (fun p => decide (k = p.1)) with
 | none => rw [hf] at h; cases h
 | some p =>
  rw [hf] at h
  cases h
  have h1 := List.find?_some hf
  have h2 := List.mem_of_find?_eq_some hf
  rw [decide_eq_true_eq] at h1
  rw [h1]; exact h2
theorem dF_some {dm : List (Int × Int)} {k d : Int} (h : (k, d) ∈ dm) : ∃ d', dF dm k = some d' := by
 unfold dF
 cases hf : dm.find? (fun p => decide (k = p.1)) with
 | none => rw [List.find?_eq_none] at hf; exact absurd (hf _ h) (by simp)
 | some p => exact ⟨_, rfl⟩
theorem dF_none {dm : List (Int × Int)} {k : Int} (h : dF dm k = none) : ∀ p ∈ dm, k ≠ p.1 := by
 unfold dF at h
 rw [Option.map_eq_none_iff, List.find?_eq_none] at h
 exact fun p hp => by simpa using h p hp
theorem nodup_lt_len : ∀ (n : Nat) (l : List Int), l.Nodup → (∀ a ∈ l, 0 ≤ a ∧ a < (n : Int)) → l.length ≤ n
 | 0, l, _, h => by
  cases l with
  | nil => exact Nat.le_refl _
  | cons a l => have := h a List.mem_cons_self; omega
 | n + 1, l, hn, h => by
  have h1 : (l.erase (n : Int)).length ≤ n := nodup_lt_len n (l.erase (n : Int)) (hn.erase _) fun a ha => by
   have h2 := h a (List.mem_of_mem_erase ha)
   have h3 : a ≠ n := (hn.mem_erase_iff.1 ha).1
   omega
  rw [List.length_erase] at h1
  split at h1 <;> omega
theorem keys_le {n : Nat} {dm : List (Int × Int)} (h : ∀ p ∈ dm, 0 ≤ p.1 ∧ p.1 < (n : Int)) (hn : (dm.map (·.1)).Nodup) : dm.length ≤ n := by
 have := nodup_lt_len n _ hn fun a ha => by
  obtain ⟨p, hp, rfl⟩ := List.mem_map.1 ha
  exact h p hp
 simpa using this
theorem kidF_ok {n : Nat} {af k : Int} {s s' : Fs} (h : FsOk n s) (hk : 0 ≤ k) (ha : -(3 * (s.dm.length : Int)) - 3 ≤ af ∧ af ≤ 3 * s.dm.length + 3) (e : kidF n af s k = some s') : FsOk n s' ∧ s'.wk.length + s.dm.length = s.wk.length + s'.dm.length ∧ s.dm.length ≤ s'.dm.length := by
 unfold kidF at e
 split at e
 ·cases e
 split at e
 ·cases e; exact ⟨⟨h.rng, h.nd, h.wk, h.dep⟩, rfl, Nat.le_refl _⟩
 ·rename_i hd
  have hne := dF_none hd
  cases e
  refine ⟨⟨fun p hp => ?_, ?_, fun j hj => ?_, fun p hp => ?_⟩, by simp only [List.length_append, List.length_singleton]; omega, by simp⟩
  ·rcases List.mem_append.1 hp with hp | hp
   ·exact h.rng p hp
   ·rw [List.mem_singleton.1 hp]; exact ⟨hk, by simp only; omega⟩
  ·rw [List.map_append, List.map_singleton, List.nodup_append]
   refine ⟨h.nd, by simp, fun a ha b hb => ?_⟩
   obtain ⟨p, hp, rfl⟩ := List.mem_map.1 ha
   rw [List.mem_singleton.1 hb]
   exact Ne.symm (hne p hp)
  ·rcases List.mem_append.1 hj with hj | hj
   ·obtain ⟨d, hd⟩ := h.wk j hj
    exact ⟨d, List.mem_append_left _ hd⟩
   ·rw [List.mem_singleton.1 hj]; exact ⟨af, List.mem_append_right _ List.mem_cons_self⟩
  ·simp only [List.length_append, List.length_singleton]
   rcases List.mem_append.1 hp with hp | hp
   ·have := h.dep p hp; omega
   ·rw [List.mem_singleton.1 hp]; simp only; omega
theorem pop_rng (k : Int) : 0 ≤ popI k ∧ popI k ≤ 3 := by unfold popI; repeat' split <;> omega
theorem push_rng (k : Int) : 0 ≤ pushI k ∧ pushI k ≤ 1 := by unfold pushI; split <;> omega
theorem nx_nn {code : List Ic} (hj : JmpOk code) {a : Int} (ha : 0 ≤ a ∧ a < code.length) : ∀ k ∈ nxI a (code.getD a.toNat (0, 0)), 0 ≤ k := by
 have hm : code.getD a.toNat (0, 0) ∈ code := by
  have h : a.toNat < code.length := by omega
  rw [List.getD_eq_getElem?_getD, List.getElem?_eq_getElem h]
  exact List.getElem_mem h
 have hjm := hj _ hm
 generalize code.getD a.toNat (0, 0) = i at *
 intro k hk
 unfold nxI at hk
 split at hk
 ·cases hk
 ·split at hk
  ·rw [List.mem_singleton.1 hk]; exact hjm (.inl (by assumption))
  ·split at hk
   ·rcases List.mem_cons.1 hk with rfl | hk
    ·omega
    ·rw [List.mem_singleton.1 hk]; exact hjm (.inr (by assumption))
   ·rw [List.mem_singleton.1 hk]; omega
def dmA (dm : List (Int × Int)) : List (Int × A) := dm.map fun p => (p.1, intA p.2)
theorem findP_dm (dm : List (Int × Int)) (k : Int) : findP (dmA dm) k = (dF dm k).map intA := by
 unfold findP dmA dF
 rw [List.find?_map]
 cases h : dm.find? ((fun p : Int × A => decide (k = p.1)) ∘ fun p : Int × Int => (p.1, intA p.2)) with
 | none =>
  have : dm.find? (fun p : Int × Int => decide (k = p.1)) = none := h
  rw [this]; rfl
 | some p =>
  have : dm.find? (fun p : Int × Int => decide (k = p.1)) = some p := h
  rw [this]; rfl
theorem dmA_snoc (dm : List (Int × Int)) (k d : Int) : dmA (dm ++ [(k, d)]) = dmA dm ++ [(k, intA d)] := by unfold dmA; rw [List.map_append]; rfl
end Go.Proofs.YtfbifdccmabdbaaGreatDoor.Vm
namespace Go.Proofs.YtfbifdccmabdbaaGreatDoor.Vm
open Go.RowKit Go.Shelf
set_option linter.unusedSimpArgs false
set_option linter.unusedVariables false
set_option maxRecDepth 100000
def pgE (e : Nat → Int) (du vo : Int) : List A := [intA (e 0), intA (e 1), intA (e 2), intA (e 3), intA (e 4), intA (e 5), intA (e 6), intA (e 7), intA (e 8), intA (e 9), intA (e 10), intA (e 11), intA (e 12), intA (e 13), intA (e 14), intA (e 15), intA (e 16), intA (e 17), intA (e 18), intA (e 19), intA (e 20), intA (e 21), intA (e 22), intA (e 23), intA (e 24), intA (e 25), intA (e 26), intA (e 27), intA (e 28), intA (e 29), intA (e 30), intA (e 31), intA (e 32), intA (e 33), intA (e 34), intA (e 35), intA (e 36), intA (e 37), intA (e 38), intA (e 39), intA du, intA vo]
def pgL (code : List Ic) (e : Nat → Int) (du vo : Int) : List A := .sl 2 code.length (icsA code) :: pgE e du vo
def pgA (code : List Ic) (e : Nat → Int) (du vo : Int) : A := .agg (pgL code e du vo)
structure Sh where
 po : Int
 pu : Int
 lo : Int
 hi : Int
def shA (s : Sh) : A := .agg [intA s.po, intA s.pu, intA s.lo, intA s.hi]
def shL (v l : Int) : List (Int × Sh) := [(1, ⟨0, 1, (-2147483647), 2147483647⟩), (2, ⟨0, 1, 0, v⟩), (3, ⟨1, 0, 0, v⟩), (4, ⟨0, 1, 0, 8⟩), (5, ⟨1, 1, 0, 0⟩), (6, ⟨2, 1, 0, 0⟩), (7, ⟨2, 1, 0, 0⟩), (8, ⟨2, 1, 0, 0⟩), (9, ⟨2, 1, 0, 0⟩), (10, ⟨1, 1, 0, 0⟩), (11, ⟨2, 1, 0, 0⟩), (12, ⟨2, 1, 0, 0⟩), (13, ⟨2, 1, 0, 0⟩), (14, ⟨1, 1, 0, 0⟩), (15, ⟨0, 0, 0, l⟩), (16, ⟨1, 0, 0, l⟩), (17, ⟨3, 0, 0, 29⟩), (18, ⟨0, 0, 0, 7⟩), (19, ⟨0, 0, 0, 7⟩), (20, ⟨0, 0, 0, 0⟩), (21, ⟨2, 0, 0, 0⟩), (22, ⟨1, 0, 0, 0⟩), (23, ⟨0, 0, 0, 0⟩)]
def shP (v l : Int) : List (Int × A) := (shL v l).map fun p => (p.1, shA p.2)
def shM (v l : Int) : A := .mp (mkV (shP v l)) (mvA (shP v l))
set_option maxHeartbeats 2000000 in
theorem shapes_spec (code : List Ic) (e : Nat → Int) (du vo : Int) (hd : -100 ≤ du ∧ du ≤ 100) (hv : -100 ≤ vo ∧ vo ≤ 100) (hl : code.length ≤ 1000000) : Spec Tryz.prog 57 [] [pgA code e du vo] fun _ r => r = shM (du + vo - 1) (code.length - 1) := by
 refine spec_of_ok (cx_ok ord57 xs0 0) (fun _ _ h => h) Tryz.func57 rfl (by kernel_rfl) rfl ?_
 intro _
 refine ok_step (cx_ok _ _ _) (by kernel_rfl) ?_
 conv => whnf
 refine ok_step (cx_ok _ _ _) (by kernel_rfl) ?_
 conv => whnf
 refine ⟨i64r (by omega), ?_⟩
 conv => whnf
 refine ⟨i64r (by omega), ?_⟩
 conv => whnf
 refine ⟨i64r (by omega), ?_⟩
 conv => whnf
 refine ok_step (cx_ok _ _ _) (by kernel_rfl) ?_
 conv => whnf
 refine ok_pubM 0 ?_
 conv => whnf
 refine ok_of_awp (cx_ok _ _ _) (by kernel_rfl) ?_
 conv => whnf
 unfold shM mkV mvA shP shL
 rfl
theorem findP_sh (v l k : Int) (hk : 1 ≤ k ∧ k ≤ 23) : ∃ lo hi, findP (shP v l) k = some (.agg [intA (popI k), intA (pushI k), intA lo, intA hi]) := by
 have h : k = 1 ∨ k = 2 ∨ k = 3 ∨ k = 4 ∨ k = 5 ∨ k = 6 ∨ k = 7 ∨ k = 8 ∨ k = 9 ∨ k = 10 ∨ k = 11 ∨ k = 12 ∨ k = 13 ∨ k = 14 ∨ k = 15 ∨ k = 16 ∨ k = 17 ∨ k = 18 ∨ k = 19 ∨ k = 20 ∨ k = 21 ∨ k = 22 ∨ k = 23 := by omega
 rcases h with rfl | rfl | rfl | rfl | rfl | rfl | rfl | rfl | rfl | rfl | rfl | rfl | rfl | rfl | rfl | rfl | rfl | rfl | rfl | rfl | rfl | rfl | rfl
 all_goals exact ⟨_, _, rfl⟩
theorem mapFind_sh (v l k : Int) (hk : 1 ≤ k ∧ k ≤ 23) {K : A → Prop} {n : Prop} (h : ∀ lo hi, K (.agg [intA (popI k), intA (pushI k), intA lo, intA hi])) : mapFind false (mkV (shP v l)) (mvA (shP v l)) (.int .i64 k) K n := by
 refine mapFind_ints _ _ ?_
 obtain ⟨lo, hi, e⟩ := findP_sh v l k hk
 rw [e]
 exact h lo hi
end Go.Proofs.YtfbifdccmabdbaaGreatDoor.Vm
namespace Go.Proofs.YtfbifdccmabdbaaGreatDoor.Vm
open Go.RowKit Go.Shelf
set_option linter.unusedSimpArgs false
set_option linter.unusedVariables false
set_option maxRecDepth 100000
def IcOk (i : Ic) : Prop := (1 ≤ i.1 ∧ i.1 ≤ 23) ∧ (i.1 = 15 ∨ i.1 = 16 → 0 ≤ i.2)
def GOk (g : Int → List Ic) : Prop := ∀ at' : Int, 0 ≤ at' → ∀ i ∈ g at', IcOk i
theorem GOk.no : GOk noI := fun _ _ i hi => by cases hi
theorem GOk.one {i : Ic} (h : IcOk i) : GOk fun _ => [i] := fun _ _ j hj => by rw [List.mem_singleton.1 hj]; exact h
theorem GOk.seq : ∀ {l : List (Int → List Ic)}, (∀ g ∈ l, GOk g) → GOk (seqC l)
 | [], _, _, _, i, hi => by cases hi
 | g :: r, h, at', ha, i, hi => by
  unfold seqC at hi
  rcases List.mem_append.1 hi with hi | hi
  ·exact h g List.mem_cons_self at' ha i hi
  ·exact GOk.seq (fun x hx => h x (List.mem_cons_of_mem _ hx)) _ (by omega) i hi
theorem GOk.br {c y n : Int → List Ic} (hc : GOk c) (hy : GOk y) (hn : GOk n) : GOk (brC c y n) := fun at' ha i hi => by
 unfold brC at hi
 simp only [List.mem_append, List.mem_cons] at hi
 rcases hi with hi | rfl | hi | rfl | hi
 ·exact hc at' ha i hi
 ·exact ⟨by simp, fun _ => by simp only; omega⟩
 ·exact hy _ (by omega) i hi
 ·exact ⟨by simp, fun _ => by simp only; omega⟩
 ·exact hn _ (by omega) i hi
theorem GOk.get {l : List (Int → List Ic)} (h : ∀ g ∈ l, GOk g) (k : Nat) : GOk (l.getD k noI) := by
 rw [List.getD_eq_getElem?_getD]
 cases hk : l[k]? with
 | none => exact GOk.no
 | some g => exact h g (List.mem_of_getElem? hk)
theorem opC_ok (s : ByteArray) : ∀ i ∈ opC s, IcOk i := by
 unfold opC
 repeat' split
 all_goals (intro i hi; simp only [List.mem_cons, List.not_mem_nil, or_false] at hi)
 all_goals first
  | (rcases hi with rfl | rfl <;> exact ⟨by simp, fun h => by simp at h⟩)
  | (subst hi; exact ⟨by simp, fun h => by simp at h⟩)
theorem GOk.body (ix : ByteArray → Int) (k n : Int) (s : ByteArray) {l : List (Int → List Ic)} (h : ∀ g ∈ l, GOk g) : GOk (bodyC ix k n s l) := fun at' ha i hi => by
 have g0 := GOk.get h 0
 have g1 := GOk.get h 1
 have g2 := GOk.get h 2
 have sq := GOk.seq h
 have one : ∀ {a b : Int}, 1 ≤ a → a ≤ 23 → a ≠ 15 → a ≠ 16 → i ∈ [((a, b) : Ic)] → IcOk i := fun h1 h2 h3 h4 hi => by
  rw [List.mem_singleton.1 hi]
  exact ⟨⟨h1, h2⟩, fun h => by rcases h with h | h; exact absurd h h3; exact absurd h h4⟩
 unfold bodyC at hi
 by_cases c1 : k = 12 ∨ k = 13
 ·rw [if_pos c1] at hi
  exact one (by decide) (by decide) (by decide) (by decide) hi
 rw [if_neg c1] at hi
 by_cases c2 : k = 14
 ·rw [if_pos c2] at hi
  exact one (by decide) (by decide) (by decide) (by decide) hi
 rw [if_neg c2] at hi
 by_cases c3 : k = 15
 ·rw [if_pos c3] at hi
  exact one (by decide) (by decide) (by decide) (by decide) hi
 rw [if_neg c3] at hi
 by_cases c4 : k = 2
 ·rw [if_pos c4] at hi
  exact GOk.br g0 g1 g2 at' ha i hi
 rw [if_neg c4] at hi
 by_cases c5 : k = 5
 ·rw [if_pos c5] at hi
  exact one (by decide) (by decide) (by decide) (by decide) hi
 rw [if_neg c5] at hi
 by_cases c6 : k = 6
 ·rw [if_pos c6] at hi
  exact one (by decide) (by decide) (by decide) (by decide) hi
 rw [if_neg c6] at hi
 by_cases c7 : k = 7
 ·rw [if_pos c7] at hi
  exact one (by decide) (by decide) (by decide) (by decide) hi
 rw [if_neg c7] at hi
 by_cases c8 : k = 10
 ·rw [if_pos c8] at hi
  exact one (by decide) (by decide) (by decide) (by decide) hi
 rw [if_neg c8] at hi
 by_cases c9 : k = 3
 ·rw [if_pos c9] at hi
  simp only [List.mem_append, List.mem_cons, List.not_mem_nil, or_false] at hi
  rcases hi with hi | rfl | hi | rfl
  ·exact g0 at' ha i hi
  ·exact ⟨by simp, fun _ => by simp only; omega⟩
  ·exact g1 _ (by omega) i hi
  ·exact ⟨by simp, fun _ => ha⟩
 rw [if_neg c9] at hi
 by_cases ca : k = 18 ∧ s = pAnd
 ·rw [if_pos ca] at hi
  exact GOk.br g0 g1 (GOk.one ⟨by simp, fun h => by simp at h⟩) at' ha i hi
 rw [if_neg ca] at hi
 by_cases cb : k = 18 ∧ s = pOr
 ·rw [if_pos cb] at hi
  exact GOk.br g0 (GOk.one ⟨by simp, fun h => by simp at h⟩) g1 at' ha i hi
 rw [if_neg cb] at hi
 rcases List.mem_append.1 hi with hi | hi
 ·exact sq at' ha i hi
 by_cases d1 : k = 18
 ·rw [if_pos d1] at hi
  exact opC_ok s i hi
 rw [if_neg d1] at hi
 by_cases d2 : k = 16
 ·rw [if_pos d2] at hi
  exact one (by decide) (by decide) (by decide) (by decide) hi
 rw [if_neg d2] at hi
 by_cases d3 : k = 17
 ·rw [if_pos d3] at hi
  by_cases d4 : s = pMinus
  ·rw [if_pos d4] at hi
   exact one (by decide) (by decide) (by decide) (by decide) hi
  ·rw [if_neg d4] at hi
   exact one (by decide) (by decide) (by decide) (by decide) hi
 rw [if_neg d3] at hi
 by_cases d5 : k = 1
 ·rw [if_pos d5] at hi
  exact one (by decide) (by decide) (by decide) (by decide) hi
 rw [if_neg d5] at hi
 by_cases d6 : k = 4
 ·rw [if_pos d6] at hi
  exact one (by decide) (by decide) (by decide) (by decide) hi
 rw [if_neg d6] at hi
 by_cases d7 : k = 8
 ·rw [if_pos d7] at hi
  exact one (by decide) (by decide) (by decide) (by decide) hi
 rw [if_neg d7] at hi
 by_cases d8 : k = 9
 ·rw [if_pos d8] at hi
  exact one (by decide) (by decide) (by decide) (by decide) hi
 rw [if_neg d8] at hi
 cases hi
theorem codeN_ok (ix : ByteArray → Int) : ∀ f : Nt, GOk (codeN ix f)
 | .mk k n s kids => by
  have h : ∀ f ∈ kids, GOk (codeN ix f) := fun f hf => codeN_ok ix f
  rw [show codeN ix (.mk k n s kids) = bodyC ix k n s (codeNs ix kids) by funext at'; rw [codeN]]
  refine GOk.body ix k n s fun g hg => ?_
  rw [codeNs_map] at hg
  obtain ⟨f, hf, rfl⟩ := List.mem_map.1 hg
  exact h f hf
def hcL (ix : ByteArray → Int) : List (Int × Nt) → List Ic → (Nat → Int) → List Ic × (Nat → Int)
 | [], c, e => (c, e)
 | (h, b) :: r, c, e => hcL ix r (c ++ codeN ix b c.length ++ [(23, 0)]) (fun j => if j = h.toNat then (c.length : Int) else e j)
def folE1 (code : List Ic) (e : Nat → Int) : Nat → Nat → Int
 | _, 0 => 0
 | j, m + 1 => if followF code (e j) ≠ 0 then followF code (e j) else folE1 code e (j + 1) m
def noE : Nat → Int := fun _ => -1
def zE : Nat → Int := fun _ => 0
def cmpC (u : Ut) : List Ic × (Nat → Int) := hcL (ixU u) u.on [] noE
def cmpE (u : Ut) : Int := if 400 < (cmpC u).1.length then 2 else folE1 (cmpC u).1 (cmpC u).2 0 40
def zeroP : List A := .v (.slice none 0 0) :: pgE zE 0 0
def cmpA (u : Ut) : A := if cmpE u = 0 then .tup [pgA (cmpC u).1 (cmpC u).2 u.du.length u.vo.length, intA 0] else .tup [.agg zeroP, intA (cmpE u)]
def okI (v l : Int) (i : Ic) : Bool := match (shL v l).find? (fun p => decide (i.1 = p.1)) with
 | none => false
 | some p => decide (p.2.lo ≤ i.2) && decide (i.2 ≤ p.2.hi)
def okEn (n : Nat) (x : Int) : Bool := decide (-1 ≤ x) && decide (x < (n : Int))
def allE (p : Int → Bool) (e : Nat → Int) : Nat → Nat → Bool
 | _, 0 => true
 | j, m + 1 => p (e j) && allE p e (j + 1) m
def verE (code : List Ic) (e : Nat → Int) : Nat → Nat → Int → Int
 | _, 0, r => r
 | j, m + 1, r => if followF code (e j) = 12 then 12 else verE code e (j + 1) m (if followF code (e j) = 13 then 13 else r)
def verF (code : List Ic) (e : Nat → Int) (du vo : Int) : Int :=
 if 400 < code.length then 2
 else if du < 0 ∨ vo < 0 ∨ 16 < du ∨ 16 - du < vo then 12
 else if (code.all (okI (du + vo - 1) (code.length - 1))) = false then 12
 else if allE (okEn code.length) e 0 40 = false then 12
 else verE code e 0 40 0
end Go.Proofs.YtfbifdccmabdbaaGreatDoor.Vm
namespace Go.Proofs.YtfbifdccmabdbaaGreatDoor.Vm
open Go.RowKit Go.Shelf
set_option linter.unusedSimpArgs false
set_option linter.unusedVariables false
set_option maxRecDepth 100000
def runD : List Ic → Int → Bool
 | [], _ => false
 | i :: r, d => (decide (d < popI i.1) || decide (16 < d - popI i.1 + pushI i.1)) || runD r (d - popI i.1 + pushI i.1)
theorem dF_snoc {dm : List (Int × Int)} {k d : Int} (h : ∀ p ∈ dm, p.1 < k) : dF (dm ++ [(k, d)]) k = some d := by
 unfold dF
 rw [List.find?_append]
 have : dm.find? (fun p => decide (k = p.1)) = none := List.find?_eq_none.2 fun p hp => by have := h p hp; simp; omega
 rw [this]
 simp
theorem dF_lt {dm : List (Int × Int)} {k : Int} (h : ∀ p ∈ dm, p.1 < k) : dF dm k = none := by
 unfold dF
 rw [List.find?_eq_none.2 fun p hp => by have := h p hp; simp; omega]
 rfl
def Straight (pre : List Ic) : Prop := ∀ i ∈ pre, i.1 ≠ 15 ∧ i.1 ≠ 16 ∧ i.1 ≠ 23
theorem fol_straight (pre : List Ic) (hs : Straight pre) : ∀ (n j m : Nat) (dm : List (Int × Int)) (d : Int) (er : Bool), j + n = pre.length → n + 2 ≤ m → (∀ p ∈ dm, p.1 < (j : Int)) →
  folF (pre ++ [(23, 0)]) m ⟨dm ++ [((j : Int), d)], [(j : Int)], er⟩ = folE (er || runD ((pre ++ [(23, 0)]).drop j) d)
 | n, j, 0, dm, d, er, hj, hm, hd => by omega
 | 0, j, m + 1, dm, d, er, hj, hm, hd => by
  have e1 : (pre ++ [((23 : Int), (0 : Int))]).drop j = [(23, 0)] := by rw [show j = pre.length by omega]; exact List.drop_left
  have e2 : (pre ++ [((23 : Int), (0 : Int))]).getD ((j : Int)).toNat (0, 0) = (23, 0) := by
   rw [Int.toNat_natCast, List.getD_eq_getElem?_getD, List.getElem?_append_right (by omega), show j - pre.length = 0 by omega]; rfl
  rw [folF]
  simp only [List.getLast?_singleton, List.dropLast_singleton]
  unfold stepF badF afF
  rw [e2, dF_snoc hd, e1]
  unfold nxI
  rw [if_pos rfl]
  unfold kidsF
  simp only
  obtain ⟨m', rfl⟩ : ∃ m', m = m' + 1 := ⟨m - 1, by omega⟩
  rw [folF]
  simp only [List.getLast?_nil]
  unfold runD runD
  rw [Bool.or_false, Option.getD_some]
 | n + 1, j, m + 1, dm, d, er, hj, hm, hd => by
  have hlt : j < pre.length := by omega
  have e1 : (pre ++ [((23 : Int), (0 : Int))]).drop j = pre[j] :: (pre ++ [((23 : Int), (0 : Int))]).drop (j + 1) := by
   rw [List.drop_eq_getElem_cons (by rw [List.length_append]; omega), List.getElem_append_left hlt]
  have e2 : (pre ++ [((23 : Int), (0 : Int))]).getD ((j : Int)).toNat (0, 0) = pre[j] := by
   rw [Int.toNat_natCast, List.getD_eq_getElem?_getD, List.getElem?_append_left hlt, List.getElem?_eq_getElem hlt]; rfl
  obtain ⟨h1, h2, h3⟩ := hs _ (List.getElem_mem hlt)
  have hd2 : ∀ p ∈ dm ++ [((j : Int), d)], p.1 < ((j + 1 : Nat) : Int) := fun p hp => by
   rcases List.mem_append.1 hp with hp | hp
   ·have := hd p hp; omega
   ·rw [List.mem_singleton.1 hp]; simp only; omega
  rw [folF]
  simp only [List.getLast?_singleton, List.dropLast_singleton]
  unfold stepF badF afF
  rw [e2, dF_snoc hd, e1]
  generalize pre[j] = i at h1 h2 h3 ⊢
  unfold nxI
  rw [if_neg h3, if_neg h1, if_neg h2]
  unfold kidsF kidF
  rw [if_neg (by rw [List.length_append, List.length_singleton]; omega)]
  rw [show ((j : Int) + 1) = ((j + 1 : Nat) : Int) by omega, dF_lt hd2]
  simp only
  unfold kidsF
  simp only [List.nil_append, Option.getD_some]
  rw [fol_straight pre hs n (j + 1) m _ _ _ (by omega) (by omega) hd2]
  rw [runD, Bool.or_assoc]
theorem follow_straight (pre : List Ic) (hs : Straight pre) : followF (pre ++ [(23, 0)]) 0 = folE (runD (pre ++ [(23, 0)]) 0) := by
 unfold followF
 rw [if_neg (by decide)]
 have h := fol_straight pre hs pre.length 0 ((pre ++ [(23, 0)]).length + 1) [] 0 false (by omega) (by rw [List.length_append, List.length_singleton]; omega) (by simp)
 rw [List.drop_zero, Bool.false_or] at h
 exact h
def failC : Nat → Nat → List Ic
 | _, 0 => []
 | i, k + 1 => (1, (i : Int)) :: (22, 0) :: failC (i + 1) k
def nestL (x : Int) : Nat → List Ic
 | 0 => [(1, x)]
 | n + 1 => (1, (n : Int)) :: (nestL x n ++ [(6, 0)])
theorem failC_len : ∀ i k, (failC i k).length = 2 * k
 | i, 0 => rfl
 | i, k + 1 => by rw [failC, List.length_cons, List.length_cons, failC_len (i + 1) k]; omega
theorem nestL_len (x : Int) : ∀ n, (nestL x n).length = 2 * n + 1
 | 0 => rfl
 | n + 1 => by rw [nestL, List.length_cons, List.length_append, nestL_len x n, List.length_singleton]; omega
theorem runD_fail (r : List Ic) : ∀ i k, runD (failC i k ++ r) 0 = runD r 0
 | i, 0 => rfl
 | i, k + 1 => by
  rw [failC, List.cons_append, List.cons_append, runD, runD]
  show ((false || false) || ((false || false) || runD (failC (i + 1) k ++ r) 0)) = _
  rw [runD_fail r (i + 1) k]
  simp
theorem runD_nest (x : Int) (r : List Ic) : ∀ (n : Nat) (d : Int), 0 ≤ d → runD (nestL x n ++ r) d = (decide (16 < d + n + 1) || runD r (d + 1)) := fun n => by
 induction n generalizing r with
 | zero =>
  intro d hd
  rw [nestL, List.singleton_append, runD]
  simp only [show popI 1 = 0 from rfl, show pushI 1 = 1 from rfl]
  rw [decide_eq_false (show ¬ d < 0 by omega), Bool.false_or, show d - 0 + 1 = d + 1 by omega]
  simp
 | succ n ih =>
  intro d hd
  rw [nestL, List.cons_append, List.append_assoc, runD]
  simp only [show popI 1 = 0 from rfl, show pushI 1 = 1 from rfl]
  rw [show d - 0 + 1 = d + 1 by omega, ih _ (d + 1) (by omega), List.singleton_append, runD]
  simp only [show popI 6 = 2 from rfl, show pushI 6 = 1 from rfl]
  rw [decide_eq_false (show ¬ d < 0 by omega), decide_eq_false (show ¬ d + 1 + 1 < 2 by omega), show d + 1 + 1 - 2 + 1 = d + 1 by omega]
  by_cases h : 16 < d + ((n + 1 : Nat) : Int) + 1
  ·rw [decide_eq_true h, decide_eq_true (show 16 < d + 1 + (n : Int) + 1 by omega)]
   simp
  ·rw [decide_eq_false h, decide_eq_false (show ¬ 16 < d + 1 + (n : Int) + 1 by omega), decide_eq_false (show ¬ 16 < d + 1 by omega)]
   simp
end Go.Proofs.YtfbifdccmabdbaaGreatDoor.Vm
namespace Go.Proofs.YtfbifdccmabdbaaGreatDoor.Vm
open Go.RowKit Go.Shelf
set_option linter.unusedSimpArgs false
set_option linter.unusedVariables false
set_option maxRecDepth 100000
def litT (i : Int) : Nt := .mk 12 i eB []
def nestT (x : Int) : Nat → Nt
 | 0 => litT x
 | n + 1 => .mk 18 0 pPlus [litT n, nestT x n]
def failT (i : Int) : Nt := .mk 9 0 eB [litT i]
def failsT : Nat → List Nt
 | 0 => []
 | k + 1 => failsT k ++ [failT k]
def vB : ByteArray := ⟨#[118]⟩
def asgT (n : Nat) : Nt := .mk 1 0 vB [nestT n n]
def limB (k n : Nat) : Nt := .mk 11 0 eB (failsT k ++ [asgT n])
def limU (k n : Nat) : Ut := ⟨[], [vB], [(5, limB k n)]⟩
theorem wf_lit (i : Int) : wfN (litT i) := wf_mk rfl (by simp)
theorem wf_nest (x : Int) : ∀ n, wfN (nestT x n)
 | 0 => wf_lit x
 | n + 1 => by
  unfold nestT
  refine wf_mk (by rfl) fun f hf => ?_
  simp only [List.mem_cons, List.not_mem_nil, or_false] at hf
  rcases hf with rfl | rfl
  ·exact wf_lit _
  ·exact wf_nest x n
theorem wf_fail (i : Int) : wfN (failT i) := wf_mk rfl fun f hf => by rw [List.mem_singleton.1 hf]; exact wf_lit i
theorem failsT_len : ∀ k, (failsT k).length = k
 | 0 => rfl
 | k + 1 => by rw [failsT, List.length_append, failsT_len k]; rfl
theorem wf_fails : ∀ k, ∀ f ∈ failsT k, wfN f
 | 0, f, hf => by cases hf
 | k + 1, f, hf => by
  rw [failsT] at hf
  rcases List.mem_append.1 hf with hf | hf
  ·exact wf_fails k f hf
  ·rw [List.mem_singleton.1 hf]; exact wf_fail k
theorem wf_lim (k n : Nat) (hk : k ≤ 3000) : WfU (limU k n) := by
 refine ⟨by simp [limU], fun h hh => ?_, by simp [limU], by simp [limU]⟩
 rw [List.mem_singleton.1 hh]
 refine ⟨by simp, by simp, ?_⟩
 unfold limB
 refine wf_mk ?_ fun f hf => ?_
 ·unfold arN
  rw [if_pos rfl, decide_eq_true_eq, List.length_append, failsT_len, List.length_singleton]
  omega
 ·rcases List.mem_append.1 hf with hf | hf
  ·exact wf_fails k f hf
  ·rw [List.mem_singleton.1 hf]
   exact wf_mk rfl fun f hf => by rw [List.mem_singleton.1 hf]; exact wf_nest _ _
theorem code_lit (ix : ByteArray → Int) (i at' : Int) : codeN ix (litT i) at' = [(1, i)] := by
 unfold litT; rw [codeN]; rfl
theorem code_nest (ix : ByteArray → Int) (x : Int) : ∀ (n : Nat) (at' : Int), codeN ix (nestT x n) at' = nestL x n
 | 0, at' => code_lit ix x at'
 | n + 1, at' => by
  unfold nestT
  rw [codeN, codeNs, codeNs, codeNs]
  show seqC [codeN ix (litT n), codeN ix (nestT x n)] at' ++ [(6, 0)] = _
  unfold seqC seqC seqC
  rw [code_lit, code_nest ix x n, nestL, List.append_nil]
  rfl
theorem code_fail (ix : ByteArray → Int) (i at' : Int) : codeN ix (failT i) at' = [(1, i), (22, 0)] := by
 unfold failT
 rw [codeN, codeNs, codeNs]
 show seqC [codeN ix (litT i)] at' ++ [(22, 0)] = _
 unfold seqC seqC
 rw [code_lit]
 rfl
theorem seqC_app (l m : List (Int → List Ic)) (at' : Int) : ∃ at2, seqC (l ++ m) at' = seqC l at' ++ seqC m at2 := by
 induction l generalizing at' with
 | nil => exact ⟨at', rfl⟩
 | cons g l ih =>
  obtain ⟨a, h⟩ := ih (at' + (g at').length)
  refine ⟨a, ?_⟩
  rw [List.cons_append, seqC, h, seqC, List.append_assoc]
theorem failC_snoc : ∀ i k, failC i (k + 1) = failC i k ++ [(1, ((i + k : Nat) : Int)), (22, 0)]
 | i, 0 => rfl
 | i, k + 1 => by
  rw [failC, failC_snoc (i + 1) k, failC, show i + 1 + k = i + (k + 1) by omega]
  rfl
theorem code_fails (ix : ByteArray → Int) : ∀ (k : Nat) (at' : Int), seqC ((failsT k).map (codeN ix)) at' = failC 0 k
 | 0, at' => rfl
 | k + 1, at' => by
  rw [failsT, List.map_append, List.map_singleton]
  obtain ⟨a, h⟩ := seqC_app ((failsT k).map (codeN ix)) [codeN ix (failT k)] at'
  rw [h, code_fails ix k, failC_snoc]
  unfold seqC seqC
  rw [code_fail, Nat.zero_add]
  rfl
theorem code_lim (ix : ByteArray → Int) (k n : Nat) (at' : Int) : codeN ix (limB k n) at' = failC 0 k ++ (nestL n n ++ [(3, ix vB)]) := by
 unfold limB
 rw [codeN, codeNs_map, List.map_append, List.map_singleton]
 show seqC ((failsT k).map (codeN ix) ++ [codeN ix (asgT n)]) at' ++ [] = _
 obtain ⟨a, h⟩ := seqC_app ((failsT k).map (codeN ix)) [codeN ix (asgT n)] at'
 rw [h, code_fails, List.append_nil]
 congr 1
 unfold seqC seqC
 rw [List.append_nil]
 unfold asgT
 rw [codeN, codeNs, codeNs]
 show seqC [codeN ix (nestT n n)] a ++ [(3, ix vB)] = _
 unfold seqC seqC
 rw [code_nest, List.append_nil]
def limP (k n : Nat) : List Ic := failC 0 k ++ (nestL n n ++ [(3, 0)])
def limE : Nat → Int := fun j => if j = 5 then 0 else -1
theorem ix_lim (k n : Nat) : ixU (limU k n) vB = 0 := by
 show indexF [] [vB] vB = 0
 kernel_rfl
theorem cmp_lim (k n : Nat) : cmpC (limU k n) = (limP k n ++ [(23, 0)], limE) := by
 unfold cmpC
 show hcL _ [(5, limB k n)] [] noE = _
 unfold hcL hcL
 rw [code_lim, ix_lim]
 rfl
theorem limP_len (k n : Nat) : (limP k n).length = 2 * k + 2 * n + 2 := by
 unfold limP
 rw [List.length_append, List.length_append, failC_len, nestL_len, List.length_singleton]
 omega
theorem mem_fail : ∀ (i k : Nat) (p : Ic), p ∈ failC i k → (p.1 = 1 ∧ 0 ≤ p.2 ∧ p.2 < ((i + k : Nat) : Int)) ∨ p = (22, 0)
 | i, 0, p, h => by cases h
 | i, k + 1, p, h => by
  rw [failC, List.mem_cons, List.mem_cons] at h
  rcases h with rfl | rfl | h
  ·exact .inl ⟨rfl, by simp only; omega, by simp only; omega⟩
  ·exact .inr rfl
  ·rcases mem_fail (i + 1) k p h with h | h
   ·exact .inl ⟨h.1, h.2.1, by omega⟩
   ·exact .inr h
theorem mem_nest (x : Nat) : ∀ (n : Nat) (p : Ic), n ≤ x → p ∈ nestL x n → (p.1 = 1 ∧ 0 ≤ p.2 ∧ p.2 ≤ (x : Int)) ∨ p = (6, 0)
 | 0, p, hx, h => by
  rw [nestL, List.mem_singleton] at h
  subst h
  exact .inl ⟨rfl, by simp only; omega, by simp only; omega⟩
 | n + 1, p, hx, h => by
  rw [nestL, List.mem_cons, List.mem_append, List.mem_singleton] at h
  rcases h with rfl | h | rfl
  ·exact .inl ⟨rfl, by simp only; omega, by simp only; omega⟩
  ·exact mem_nest x n p (by omega) h
  ·exact .inr rfl
theorem mem_lim {k n : Nat} {p : Ic} (h : p ∈ limP k n) : (p.1 = 1 ∧ 0 ≤ p.2 ∧ p.2 ≤ ((k + n : Nat) : Int)) ∨ p = (22, 0) ∨ p = (6, 0) ∨ p = (3, 0) := by
 unfold limP at h
 rw [List.mem_append, List.mem_append, List.mem_singleton] at h
 rcases h with h | h | h
 ·rcases mem_fail _ _ _ h with h | h
  ·exact .inl ⟨h.1, h.2.1, by omega⟩
  ·exact .inr (.inl h)
 ·rcases mem_nest _ _ _ (Nat.le_refl n) h with h | h
  ·exact .inl ⟨h.1, h.2.1, by omega⟩
  ·exact .inr (.inr (.inl h))
 ·exact .inr (.inr (.inr h))
theorem str_lim (k n : Nat) : Straight (limP k n) := fun i hi => by
 rcases mem_lim hi with h | rfl | rfl | rfl
 ·rw [h.1]; decide
 all_goals decide
theorem run_lim (k n : Nat) : runD (limP k n ++ [(23, 0)]) 0 = decide (16 < n + 1) := by
 unfold limP
 rw [List.append_assoc, runD_fail, List.append_assoc, runD_nest _ _ _ _ (by omega)]
 show (decide (16 < 0 + (n : Int) + 1) || ((false || false) || ((false || false) || false))) = _
 by_cases h : 16 < n + 1
 ·rw [decide_eq_true h, decide_eq_true (show 16 < 0 + (n : Int) + 1 by omega)]; rfl
 ·rw [decide_eq_false h, decide_eq_false (show ¬ 16 < 0 + (n : Int) + 1 by omega)]; rfl
theorem fol_lim (k n : Nat) : followF (limP k n ++ [(23, 0)]) 0 = if 16 < n + 1 then 13 else 0 := by
 rw [follow_straight _ (str_lim k n), run_lim]
 unfold folE
 by_cases h : 16 < n + 1
 ·rw [decide_eq_true h, if_pos rfl, if_pos h]
 ·rw [decide_eq_false h, if_neg (by simp), if_neg h]
theorem folE1_one (code : List Ic) (e : Nat → Int) (t : Nat) : ∀ m j, (∀ i, i ≠ t → followF code (e i) = 0) → folE1 code e j m = if j ≤ t ∧ t < j + m then followF code (e t) else 0
 | 0, j, h => by unfold folE1; rw [if_neg (by omega)]
 | m + 1, j, h => by
  unfold folE1
  rw [folE1_one code e t m (j + 1) h]
  by_cases hj : j = t
  ·subst hj
   by_cases h2 : followF code (e j) = 0
   ·rw [if_neg (by simp [h2]), if_neg (by omega), if_pos (by omega), h2]
   ·rw [if_pos h2, if_pos (by omega)]
  ·rw [if_neg (by simp [h j hj])]
   by_cases h2 : j + 1 ≤ t ∧ t < j + 1 + m
   ·rw [if_pos h2, if_pos (by omega)]
   ·rw [if_neg h2, if_neg (by omega)]
theorem folE_lim (k n : Nat) : folE1 (limP k n ++ [(23, 0)]) limE 0 40 = if 16 < n + 1 then 13 else 0 := by
 rw [folE1_one _ _ 5, if_pos (by decide), ← fol_lim k n]
 ·rfl
 ·intro i hi
  unfold limE followF
  rw [if_neg hi, if_pos (by decide)]
theorem cmpE_lim (k n : Nat) : cmpE (limU k n) = if 400 < 2 * k + 2 * n + 3 then 2 else if 16 < n + 1 then 13 else 0 := by
 unfold cmpE
 rw [cmp_lim]
 simp only
 rw [List.length_append, limP_len, List.length_singleton, folE_lim]
theorem verE_ok (code : List Ic) (e : Nat → Int) : ∀ m j r, (∀ i, followF code (e i) = 0) → verE code e j m r = r
 | 0, j, r, h => rfl
 | m + 1, j, r, h => by
  unfold verE
  rw [h j, if_neg (by decide), if_neg (by decide)]
  exact verE_ok code e m (j + 1) r h
theorem allE_ok (p : Int → Bool) (e : Nat → Int) : ∀ m j, (∀ i, p (e i) = true) → allE p e j m = true
 | 0, j, h => rfl
 | m + 1, j, h => by unfold allE; rw [h j, allE_ok p e m (j + 1) h]; rfl
theorem ver_lim (k n : Nat) (hk : k ≤ 1000) (h1 : ¬ 400 < 2 * k + 2 * n + 3) (h2 : ¬ 16 < n + 1) : verF (limP k n ++ [(23, 0)]) limE 0 1 = 0 := by
 have hl : (limP k n ++ [((23 : Int), (0 : Int))]).length = 2 * k + 2 * n + 3 := by rw [List.length_append, limP_len, List.length_singleton]
 unfold verF
 rw [hl, if_neg h1, if_neg (by decide)]
 have ha : (limP k n ++ [((23 : Int), (0 : Int))]).all (okI (0 + 1 - 1) (((2 * k + 2 * n + 3 : Nat) : Int) - 1)) = true := by
  rw [List.all_eq_true]
  intro p hp
  rcases List.mem_append.1 hp with hp | hp
  ·rcases mem_lim hp with h | rfl | rfl | rfl
   ·obtain ⟨a, b⟩ := p
    obtain ⟨q1, q2, q3⟩ := h
    simp only at q1 q2 q3
    subst q1
    show (decide ((-2147483647 : Int) ≤ b) && decide (b ≤ 2147483647)) = true
    rw [decide_eq_true (by omega), decide_eq_true (by omega)]; rfl
   ·rfl
   ·rfl
   ·rfl
  ·rw [List.mem_singleton.1 hp]; rfl
 rw [ha, if_neg (by decide)]
 rw [allE_ok _ _ _ _ fun i => ?_, if_neg (by decide)]
 ·refine verE_ok _ _ _ _ _ fun i => ?_
  unfold limE
  by_cases hi : i = 5
  ·rw [if_pos hi, fol_lim, if_neg h2]
  ·rw [if_neg hi]; rfl
 ·unfold limE okEn
  by_cases hi : i = 5
  ·rw [if_pos hi, decide_eq_true (by omega), decide_eq_true (by omega)]; rfl
  ·rw [if_neg hi, decide_eq_true (by omega), decide_eq_true (by omega)]; rfl
end Go.Proofs.YtfbifdccmabdbaaGreatDoor.Vm
namespace Go.Proofs.YtfbifdccmabdbaaGreatDoor.Vm
open Go.RowKit Go.Shelf
set_option linter.unusedSimpArgs false
set_option linter.unusedVariables false
set_option maxRecDepth 100000
theorem intsA_snoc (l : List Int) (a : Int) : intsA (l ++ [a]) = intsA l ++ [intA a] := by unfold intsA; rw [List.map_append]; rfl
theorem mapFind_dm0 {dm : List (Int × Int)} {k : Int} {K : A → Prop} {n : Prop} (hd : dF dm k = none) (h : n) : mapFind false (mkV (dmA dm)) (mvA (dmA dm)) (.int .i64 k) K n := by
 refine mapFind_ints _ _ ?_
 rw [findP_dm, hd]
 exact h
theorem mapFind_dm1 {dm : List (Int × Int)} {k d : Int} {K : A → Prop} {n : Prop} (hd : dF dm k = some d) (h : K (intA d)) : mapFind false (mkV (dmA dm)) (mvA (dmA dm)) (.int .i64 k) K n := by
 refine mapFind_ints _ _ ?_
 rw [findP_dm, hd]
 exact h
theorem insK_dm {dm : List (Int × Int)} {k d : Int} {n : Nat} {K : List A → List A → Nat → Prop} (hd : dF dm k = none) (h : K (mkA (dmA (dm ++ [(k, d)]))) (mvA (dmA (dm ++ [(k, d)]))) (n + 1)) : insK false (.int .i64 k) (.v (.int .i64 d)) (mkA (dmA dm)) (mvA (dmA dm)) n K := by
 rw [dmA_snoc] at h
 refine insK_ints (fun p hp => ?_) h
 unfold dmA at hp
 obtain ⟨q, hq, rfl⟩ := List.mem_map.1 hp
 exact dF_none hd q hq
theorem row_dm (t : Nat) (dm : List (Int × Int)) (k d : Int) : Row.live t 0 (dm.length + 1) [.clo 0 (mkA (dmA (dm ++ [(k, d)]))), .clo 0 (mvA (dmA (dm ++ [(k, d)])))] = Row.live t 0 (dm ++ [(k, d)]).length [.clo 0 (mkA (dmA (dm ++ [(k, d)]))), .clo 0 (mvA (dmA (dm ++ [(k, d)])))] := by rw [List.length_append]; rfl
theorem row_wk (t : Nat) (wk : List Int) (k : Int) : Row.live t 1 (wk.length + 1) (intsA wk ++ [intA k]) = Row.live t 1 (wk ++ [k]).length (intsA (wk ++ [k])) := by rw [List.length_append, intsA_snoc]; rfl
theorem opt_cases {α : Type} (o : Option α) : o = none ∨ ∃ a, o = some a := by cases o with
 | none => exact .inl rfl
 | some a => exact .inr ⟨a, rfl⟩
def xsFo (id : Nat) : List Nat := match Nat.beq id 1000003 with | true => [1000003] | false => []
def flR (dm : List (Int × Int)) (wk : List Int) : List Row := [.live 123 0 dm.length [.clo 0 (mkA (dmA dm)), .clo 0 (mvA (dmA dm))], .live 3 1 wk.length (intsA wk)]
set_option maxHeartbeats 4000000 in
theorem follow_spec (code : List Ic) (e : Nat → Int) (du vo entry : Int) (hd : -100 ≤ du ∧ du ≤ 100) (hv : -100 ≤ vo ∧ vo ≤ 100) (hl : code.length ≤ 1000000) (hj : JmpOk code) (ho : ∀ i ∈ code, 1 ≤ i.1 ∧ i.1 ≤ 23) (he : entry < code.length) : Spec Tryz.prog 41 [] [pgA code e du vo, intA entry] fun _ r => r = intA (followF code entry) := by
 have hsh := shapes_spec code e du vo hd hv hl
 obtain ⟨R, hR⟩ : ∃ R, followF code entry = R := ⟨_, rfl⟩
 rw [hR]
 unfold followF at hR
 refine spec_of (cx_ok ord0 xsFo 0) (fun _ _ h => h) Tryz.func41 rfl (by kernel_rfl) rfl (by kernel_rfl) ?_
 intro _
 conv => whnf
 by_cases h0 : entry < 0
 ·rw [decide_eq_true h0]
  rw [if_pos h0] at hR
  conv => whnf
  rw [← hR]; rfl
 rw [decide_eq_false h0]
 rw [if_neg h0] at hR
 conv => whnf
 refine call0 [] rfl (fun _ => hsh) ?_
 rintro r rfl
 conv => whnf
 refine loop_keep [2, 5, 6, 8] ?_
 conv => whnf
 refine loop_go (fun x : Nat × Fs => [(7, intA (folE x.2.er))]) (fun _ => [pgL code e du vo]) (fun x => flR x.2.dm x.2.wk)
  (fun x => FsOk code.length x.2 ∧ x.2.wk.length + (code.length - x.2.dm.length) + 1 ≤ x.1 ∧ x.1 ≤ code.length + 1 ∧ folF code x.1 x.2 = R) (fun x => x.1) (code.length + 1, ⟨[(entry, 0)], [entry], false⟩) ?_ ⟨⟨?_, ?_, ?_, ?_⟩, ?_, Nat.le_refl _, hR⟩ ?_
 ·repeat' constructor
  unfold mkA mvA dmA
  rfl
 ·intro p hp
  rw [List.mem_singleton.1 hp]; exact ⟨by simp only; omega, he⟩
 ·simp
 ·intro k hk
  rw [List.mem_singleton.1 hk]; exact ⟨0, List.mem_singleton.2 rfl⟩
 ·intro p hp
  rw [List.mem_singleton.1 hp]; simp only [List.length_singleton]; omega
 ·simp only [List.length_singleton]; omega
 rintro ⟨m0, dm, wk, er⟩ ⟨g1, g2, g3, hR⟩
 simp only at g1 g2 g3 hR
 obtain ⟨m, rfl⟩ : ∃ m, m0 = m + 1 := ⟨m0 - 1, by omega⟩
 have hwl : wk.length ≤ 1000000 := by omega
 rcases List.eq_nil_or_concat wk with rfl | ⟨pre, a, hw⟩
 ·conv => whnf
  rw [folF] at hR
  simp only [List.getLast?_nil] at hR
  rw [← hR]; rfl
 rw [List.concat_eq_append] at hw
 subst hw
 rw [folF] at hR
 simp only [List.getLast?_append, List.getLast?_singleton, Option.some_or, List.dropLast_append_cons, List.dropLast_singleton, List.append_nil] at hR
 have hlen : (pre ++ [a]).length = pre.length + 1 := by simp
 have htk : (intsA (pre ++ [a])).take (pre.length * 1) = intsA pre := by unfold intsA; rw [List.map_append, Nat.mul_one]; exact List.take_left' (by simp)
 have hdr : (intsA (pre ++ [a])).drop ((((pre ++ [a]).length : Int) - 1).toNat * 1) = [intA a] := by
  have e1 : (((pre ++ [a]).length : Int) - 1).toNat * 1 = pre.length := by omega
  rw [e1]
  unfold intsA
  rw [List.map_append]
  exact List.drop_left' (by simp)
 obtain ⟨d, hda⟩ := g1.wk a (List.mem_append_right _ List.mem_cons_self)
 have ha := g1.rng _ hda
 simp only at ha
 obtain ⟨d', hd'⟩ := dF_some hda
 have hdr' := g1.dep _ (dF_mem hd')
 simp only at hdr'
 have hdl := keys_le g1.rng g1.nd
 simp only at hdl
 have hpp := pop_rng (code.getD a.toNat (0, 0)).1
 have hps := push_rng (code.getD a.toNat (0, 0)).1
 have hnn := nx_nn hj ha
 have hst : stepF code dm pre er a = kidsF code.length (d' - popI (code.getD a.toNat (0, 0)).1 + pushI (code.getD a.toNat (0, 0)).1) (nxI a (code.getD a.toNat (0, 0))) ⟨dm, pre, er || (decide (d' < popI (code.getD a.toNat (0, 0)).1) || decide (16 < d' - popI (code.getD a.toNat (0, 0)).1 + pushI (code.getD a.toNat (0, 0)).1))⟩ := by
  unfold stepF badF afF
  rw [hd']; rfl
 rw [hst] at hR
 have hil : a.toNat < code.length := by omega
 have hgi : code.getD a.toNat (0, 0) = code[a.toNat] := by rw [List.getD_eq_getElem?_getD, List.getElem?_eq_getElem hil]; rfl
 have hcr : rowOf 2 a.toNat (icsA code) = icA (code.getD a.toNat (0, 0)) := by rw [hgi]; exact rowOf_ics code _ hil
 have hio : 1 ≤ (code.getD a.toNat (0, 0)).1 ∧ (code.getD a.toNat (0, 0)).1 ≤ 23 := by rw [hgi]; exact ho _ (List.getElem_mem hil)
 generalize code.getD a.toNat (0, 0) = i at *
 obtain ⟨op, n⟩ := i
 simp only at hpp hps hio hR hnn
 unfold icA at hcr
 simp only at hcr
 conv => whnf
 rw [decide_eq_true (show (0 : Int) < ((pre ++ [a]).length : Int) by rw [hlen]; omega)]
 conv => whnf
 refine ⟨show lo .i64 ≤ ((pre ++ [a]).length : Int) - 1 ∧ ((pre ++ [a]).length : Int) - 1 ≤ hi .i64 from i64r (by omega), ?_⟩
 conv => whnf
 refine ⟨show (0 : Int) ≤ ((pre ++ [a]).length : Int) - 1 ∧ ((pre ++ [a]).length : Int) - 1 < ((pre ++ [a]).length : Nat) from ⟨by omega, by omega⟩, ?_⟩
 conv => whnf
 rw [hdr]
 conv => whnf
 refine ⟨show lo .i64 ≤ ((pre ++ [a]).length : Int) - 1 ∧ ((pre ++ [a]).length : Int) - 1 ≤ hi .i64 from i64r (by omega), ?_⟩
 conv => whnf
 refine ⟨pre.length, intsA pre, ⟨show ((pre ++ [a]).length : Int) - 1 = (pre.length : Nat) by omega, show pre.length ≤ (pre ++ [a]).length by omega, htk.symm⟩, ?_⟩
 conv => whnf
 refine ⟨ha, ?_⟩
 conv => whnf
 (generalize hrq : rowOf _ _ (icsA code) = rq; obtain rfl : rq = [intA op, intA n] := hrq.symm.trans (hcr); clear hrq; conv => whnf)
 conv => whnf
 refine mapFind_sh _ _ _ hio fun slo shi => ?_
 conv => whnf
 refine keysK_ints _ ?_
 conv => whnf
 refine mapFind_dm1 hd' ?_
 conv => whnf
 refine ⟨i64r (by omega), ?_⟩
 conv => whnf
 refine ⟨i64r (by omega), ?_⟩
 conv => whnf
 refine keysK_ints _ ?_
 conv => whnf
 refine mapFind_dm1 hd' ?_
 conv => whnf
 by_cases hb1 : d' < popI op
 ·rw [decide_eq_true hb1] at hR ⊢
  rw [Bool.true_or, Bool.or_true] at hR
  conv => whnf
  unfold nxI at hR hnn
  simp only at hR hnn
  by_cases hc1 : op = 23
  ·rw [decide_eq_true hc1]
   rw [if_pos hc1] at hR hnn
   unfold kidsF at hR
   have hF := hR
   simp only at hF
   conv => whnf
   refine loop_keep [2, 5, 6, 7, 8, 88, 89, 90] ?_
   conv => whnf
   refine loop_go (fun _ : Unit => []) (fun _ => [pgL code e du vo]) (fun _ => flR dm pre) (fun _ => True) (fun _ => 0) () ?_ trivial ?_
   ·repeat' constructor
   rintro ⟨⟩ -
   conv => whnf
   refine ⟨(m, ⟨dm, pre, true⟩), le_selH [0, 1] ?_, ⟨⟨g1.rng, g1.nd, fun k hk => g1.wk k (List.mem_append_left _ hk), g1.dep⟩, show pre.length + (code.length - dm.length) + 1 ≤ m by omega, show m ≤ code.length + 1 by omega, hF⟩, show m < m + 1 by omega⟩
   conv => whnf
   repeat' constructor
  rw [decide_eq_false hc1]
  rw [if_neg hc1] at hR hnn
  conv => whnf
  by_cases hc2 : op = 15
  ·rw [decide_eq_true hc2]
   rw [if_pos hc2] at hR hnn
   conv => whnf
   obtain ⟨F, hF⟩ : ∃ F, kidsF code.length (d' - popI op + pushI op) [n] ⟨dm, pre, true⟩ = F := ⟨_, rfl⟩
   rw [hF] at hR
   refine loop_pub [2] ?_
   conv => whnf
   refine loop_keep [2, 5, 6, 8, 12, 88, 89] ?_
   conv => whnf
   refine loop_go (fun x : Nat × Fs => [(7, intA (folE x.2.er)), (90, .v (.int .i64 x.1))]) (fun _ => [pgL code e du vo]) (fun x => flR x.2.dm x.2.wk ++ [.pub 1 1 ([n].map intA)])
    (fun x => x.1 ≤ 1 ∧ FsOk code.length x.2 ∧ x.2.wk.length + dm.length = pre.length + x.2.dm.length ∧ dm.length ≤ x.2.dm.length ∧ kidsF code.length (d' - popI op + pushI op) ([n].drop x.1) x.2 = F) (fun x => 1 - x.1) (0, ⟨dm, pre, true⟩) ?_ ⟨Nat.zero_le _, ⟨g1.rng, g1.nd, fun k hk => g1.wk k (List.mem_append_left _ hk), g1.dep⟩, rfl, Nat.le_refl _, hF⟩ ?_
   ·repeat' constructor
   clear hF
   rintro ⟨j, dm1, wk1, er1⟩ ⟨f1, f2, f3, f4, hF⟩
   simp only at f1 f2 f3 f4 hF
   rcases (show j = 0 ∨ j = 1 by omega) with hj0 | hj0
   ·have hdr : [n].drop j = (n) :: [n].drop (j + 1) := by rw [hj0]; rfl
    rw [hdr] at hF
    unfold kidsF at hF
    have hk0 : 0 ≤ n := hnn _ (by simp)
    have hdl1 := keys_le f2.rng f2.nd
    simp only at hdl1
    by_cases hge : (code.length : Int) ≤ n
    ·unfold kidF at hF
     rw [if_pos hge] at hF
     rw [← hF] at hR
     conv => whnf
     rw [decide_eq_true (show (j : Int) < ((1 : Nat) : Int) by omega)]
     conv => whnf
     refine ⟨show (0 : Int) ≤ (j : Int) ∧ (j : Int) < ((1 : Nat) : Int) from ⟨by omega, by omega⟩, ?_⟩
     conv => whnf
     (generalize hrq : rowOf _ _ ([A.v (.int .i64 n)]) = rq; obtain rfl : rq = [intA (n)] := hrq.symm.trans ((by rw [hj0]; unfold rowOf; rfl)); clear hrq; conv => whnf)
     rw [decide_eq_true hge]
     conv => whnf
     rw [← hR]; rfl
    rcases opt_cases (dF dm1 (n)) with hdk | ⟨d2, hdk⟩
    ·have hkf : kidF code.length (d' - popI op + pushI op) ⟨dm1, wk1, er1⟩ (n) = some ⟨dm1 ++ [(n, d' - popI op + pushI op)], wk1 ++ [n], er1⟩ := by unfold kidF; rw [if_neg hge]; simp only; rw [hdk]
     obtain ⟨q1, q2, q3⟩ := kidF_ok f2 hk0 ⟨by simp only; omega, by simp only; omega⟩ hkf
     rw [hkf] at hF
     simp only at hF
     conv => whnf
     rw [decide_eq_true (show (j : Int) < ((1 : Nat) : Int) by omega)]
     conv => whnf
     refine ⟨show (0 : Int) ≤ (j : Int) ∧ (j : Int) < ((1 : Nat) : Int) from ⟨by omega, by omega⟩, ?_⟩
     conv => whnf
     (generalize hrq : rowOf _ _ ([A.v (.int .i64 n)]) = rq; obtain rfl : rq = [intA (n)] := hrq.symm.trans ((by rw [hj0]; unfold rowOf; rfl)); clear hrq; conv => whnf)
     rw [decide_eq_false hge]
     conv => whnf
     refine keysK_ints _ ?_
     conv => whnf
     refine mapFind_dm0 hdk ?_
     conv => whnf
     refine insK_dm hdk ?_
     conv => whnf
     refine ⟨⟨show wk1.length + 1 ≤ maxLen by unfold maxLen; omega, show (wk1.length + 1) * 8 ≤ 140737488355328 by omega⟩, ?_⟩
     conv => whnf
     refine ⟨show lo .i64 ≤ (j : Int) + 1 ∧ (j : Int) + 1 ≤ hi .i64 from i64r (by omega), ?_⟩
     conv => whnf
     refine ⟨(j + 1, ⟨dm1 ++ [(n, d' - popI op + pushI op)], wk1 ++ [n], er1⟩), le_selH [0, 1, 2] ?_, ⟨show j + 1 ≤ 1 by omega, q1, show _ + _ = _ + _ by simp only at q2 ⊢; omega, show _ ≤ _ by simp only at q3 ⊢; omega, hF⟩, show 1 - (j + 1) < 1 - j by omega⟩
     conv => whnf
     repeat' constructor
     ·exact row_dm _ _ _ _
     ·exact row_wk _ _ _
    ·have hkf : kidF code.length (d' - popI op + pushI op) ⟨dm1, wk1, er1⟩ (n) = some ⟨dm1, wk1, er1 || decide (d2 ≠ d' - popI op + pushI op)⟩ := by unfold kidF; rw [if_neg hge]; simp only; rw [hdk]
     obtain ⟨q1, q2, q3⟩ := kidF_ok f2 hk0 ⟨by simp only; omega, by simp only; omega⟩ hkf
     rw [hkf] at hF
     simp only at hF
     conv => whnf
     rw [decide_eq_true (show (j : Int) < ((1 : Nat) : Int) by omega)]
     conv => whnf
     refine ⟨show (0 : Int) ≤ (j : Int) ∧ (j : Int) < ((1 : Nat) : Int) from ⟨by omega, by omega⟩, ?_⟩
     conv => whnf
     (generalize hrq : rowOf _ _ ([A.v (.int .i64 n)]) = rq; obtain rfl : rq = [intA (n)] := hrq.symm.trans ((by rw [hj0]; unfold rowOf; rfl)); clear hrq; conv => whnf)
     rw [decide_eq_false hge]
     conv => whnf
     refine keysK_ints _ ?_
     conv => whnf
     refine mapFind_dm1 hdk ?_
     conv => whnf
     rcases (show d2 = d' - popI op + pushI op ∨ d2 ≠ d' - popI op + pushI op by omega) with heq | heq
     ·rw [decide_eq_true heq]
      rw [decide_eq_false (fun h => h heq), Bool.or_false] at hF q1
      conv => whnf
      refine ⟨show lo .i64 ≤ (j : Int) + 1 ∧ (j : Int) + 1 ≤ hi .i64 from i64r (by omega), ?_⟩
      conv => whnf
      refine ⟨(j + 1, ⟨dm1, wk1, er1⟩), le_selH [0, 1, 2] ?_, ⟨show j + 1 ≤ 1 by omega, q1, show _ + _ = _ + _ by simp only at q2 ⊢; omega, show _ ≤ _ by simp only at q3 ⊢; omega, hF⟩, show 1 - (j + 1) < 1 - j by omega⟩
      conv => whnf
      repeat' constructor
     ·rw [decide_eq_false heq]
      rw [decide_eq_true heq, Bool.or_true] at hF q1
      conv => whnf
      refine ⟨show lo .i64 ≤ (j : Int) + 1 ∧ (j : Int) + 1 ≤ hi .i64 from i64r (by omega), ?_⟩
      conv => whnf
      refine ⟨(j + 1, ⟨dm1, wk1, true⟩), le_selH [0, 1, 2] ?_, ⟨show j + 1 ≤ 1 by omega, q1, show _ + _ = _ + _ by simp only at q2 ⊢; omega, show _ ≤ _ by simp only at q3 ⊢; omega, hF⟩, show 1 - (j + 1) < 1 - j by omega⟩
      conv => whnf
      repeat' constructor
   ·rw [show [n].drop j = [] by rw [hj0]; rfl] at hF
    unfold kidsF at hF
    rw [← hF] at hR
    have hdl1 := keys_le f2.rng f2.nd
    simp only at hdl1 hR
    conv => whnf
    rw [decide_eq_false (show ¬ (j : Int) < ((1 : Nat) : Int) by omega)]
    conv => whnf
    refine ⟨(m, ⟨dm1, wk1, er1⟩), le_selH [0, 1] ?_, ⟨f2, show wk1.length + (code.length - dm1.length) + 1 ≤ m by omega, show m ≤ code.length + 1 by omega, hR⟩, show m < m + 1 by omega⟩
    conv => whnf
    repeat' constructor
  rw [decide_eq_false hc2]
  rw [if_neg hc2] at hR hnn
  conv => whnf
  by_cases hc3 : op = 16
  ·rw [decide_eq_true hc3]
   rw [if_pos hc3] at hR hnn
   conv => whnf
   refine ⟨show lo .i64 ≤ a + 1 ∧ a + 1 ≤ hi .i64 from i64r (by omega), ?_⟩
   conv => whnf
   obtain ⟨F, hF⟩ : ∃ F, kidsF code.length (d' - popI op + pushI op) [a + 1, n] ⟨dm, pre, true⟩ = F := ⟨_, rfl⟩
   rw [hF] at hR
   refine loop_pub [2] ?_
   conv => whnf
   refine loop_keep [2, 5, 6, 8, 12, 88, 89] ?_
   conv => whnf
   refine loop_go (fun x : Nat × Fs => [(7, intA (folE x.2.er)), (90, .v (.int .i64 x.1))]) (fun _ => [pgL code e du vo]) (fun x => flR x.2.dm x.2.wk ++ [.pub 1 2 ([a + 1, n].map intA)])
    (fun x => x.1 ≤ 2 ∧ FsOk code.length x.2 ∧ x.2.wk.length + dm.length = pre.length + x.2.dm.length ∧ dm.length ≤ x.2.dm.length ∧ kidsF code.length (d' - popI op + pushI op) ([a + 1, n].drop x.1) x.2 = F) (fun x => 2 - x.1) (0, ⟨dm, pre, true⟩) ?_ ⟨Nat.zero_le _, ⟨g1.rng, g1.nd, fun k hk => g1.wk k (List.mem_append_left _ hk), g1.dep⟩, rfl, Nat.le_refl _, hF⟩ ?_
   ·repeat' constructor
   clear hF
   rintro ⟨j, dm1, wk1, er1⟩ ⟨f1, f2, f3, f4, hF⟩
   simp only at f1 f2 f3 f4 hF
   rcases (show j = 0 ∨ j = 1 ∨ j = 2 by omega) with hj0 | hj0 | hj0
   ·have hdr : [a + 1, n].drop j = (a + 1) :: [a + 1, n].drop (j + 1) := by rw [hj0]; rfl
    rw [hdr] at hF
    unfold kidsF at hF
    have hk0 : 0 ≤ a + 1 := hnn _ (by simp)
    have hdl1 := keys_le f2.rng f2.nd
    simp only at hdl1
    by_cases hge : (code.length : Int) ≤ a + 1
    ·unfold kidF at hF
     rw [if_pos hge] at hF
     rw [← hF] at hR
     conv => whnf
     rw [decide_eq_true (show (j : Int) < ((2 : Nat) : Int) by omega)]
     conv => whnf
     refine ⟨show (0 : Int) ≤ (j : Int) ∧ (j : Int) < ((2 : Nat) : Int) from ⟨by omega, by omega⟩, ?_⟩
     conv => whnf
     (generalize hrq : rowOf _ _ ([A.v (.int .i64 (a + 1)), A.v (.int .i64 n)]) = rq; obtain rfl : rq = [intA (a + 1)] := hrq.symm.trans ((by rw [hj0]; unfold rowOf; rfl)); clear hrq; conv => whnf)
     rw [decide_eq_true hge]
     conv => whnf
     rw [← hR]; rfl
    rcases opt_cases (dF dm1 (a + 1)) with hdk | ⟨d2, hdk⟩
    ·have hkf : kidF code.length (d' - popI op + pushI op) ⟨dm1, wk1, er1⟩ (a + 1) = some ⟨dm1 ++ [(a + 1, d' - popI op + pushI op)], wk1 ++ [a + 1], er1⟩ := by unfold kidF; rw [if_neg hge]; simp only; rw [hdk]
     obtain ⟨q1, q2, q3⟩ := kidF_ok f2 hk0 ⟨by simp only; omega, by simp only; omega⟩ hkf
     rw [hkf] at hF
     simp only at hF
     conv => whnf
     rw [decide_eq_true (show (j : Int) < ((2 : Nat) : Int) by omega)]
     conv => whnf
     refine ⟨show (0 : Int) ≤ (j : Int) ∧ (j : Int) < ((2 : Nat) : Int) from ⟨by omega, by omega⟩, ?_⟩
     conv => whnf
     (generalize hrq : rowOf _ _ ([A.v (.int .i64 (a + 1)), A.v (.int .i64 n)]) = rq; obtain rfl : rq = [intA (a + 1)] := hrq.symm.trans ((by rw [hj0]; unfold rowOf; rfl)); clear hrq; conv => whnf)
     rw [decide_eq_false hge]
     conv => whnf
     refine keysK_ints _ ?_
     conv => whnf
     refine mapFind_dm0 hdk ?_
     conv => whnf
     refine insK_dm hdk ?_
     conv => whnf
     refine ⟨⟨show wk1.length + 1 ≤ maxLen by unfold maxLen; omega, show (wk1.length + 1) * 8 ≤ 140737488355328 by omega⟩, ?_⟩
     conv => whnf
     refine ⟨show lo .i64 ≤ (j : Int) + 1 ∧ (j : Int) + 1 ≤ hi .i64 from i64r (by omega), ?_⟩
     conv => whnf
     refine ⟨(j + 1, ⟨dm1 ++ [(a + 1, d' - popI op + pushI op)], wk1 ++ [a + 1], er1⟩), le_selH [0, 1, 2] ?_, ⟨show j + 1 ≤ 2 by omega, q1, show _ + _ = _ + _ by simp only at q2 ⊢; omega, show _ ≤ _ by simp only at q3 ⊢; omega, hF⟩, show 2 - (j + 1) < 2 - j by omega⟩
     conv => whnf
     repeat' constructor
     ·exact row_dm _ _ _ _
     ·exact row_wk _ _ _
    ·have hkf : kidF code.length (d' - popI op + pushI op) ⟨dm1, wk1, er1⟩ (a + 1) = some ⟨dm1, wk1, er1 || decide (d2 ≠ d' - popI op + pushI op)⟩ := by unfold kidF; rw [if_neg hge]; simp only; rw [hdk]
     obtain ⟨q1, q2, q3⟩ := kidF_ok f2 hk0 ⟨by simp only; omega, by simp only; omega⟩ hkf
     rw [hkf] at hF
     simp only at hF
     conv => whnf
     rw [decide_eq_true (show (j : Int) < ((2 : Nat) : Int) by omega)]
     conv => whnf
     refine ⟨show (0 : Int) ≤ (j : Int) ∧ (j : Int) < ((2 : Nat) : Int) from ⟨by omega, by omega⟩, ?_⟩
     conv => whnf
     (generalize hrq : rowOf _ _ ([A.v (.int .i64 (a + 1)), A.v (.int .i64 n)]) = rq; obtain rfl : rq = [intA (a + 1)] := hrq.symm.trans ((by rw [hj0]; unfold rowOf; rfl)); clear hrq; conv => whnf)
     rw [decide_eq_false hge]
     conv => whnf
     refine keysK_ints _ ?_
     conv => whnf
     refine mapFind_dm1 hdk ?_
     conv => whnf
     rcases (show d2 = d' - popI op + pushI op ∨ d2 ≠ d' - popI op + pushI op by omega) with heq | heq
     ·rw [decide_eq_true heq]
      rw [decide_eq_false (fun h => h heq), Bool.or_false] at hF q1
      conv => whnf
      refine ⟨show lo .i64 ≤ (j : Int) + 1 ∧ (j : Int) + 1 ≤ hi .i64 from i64r (by omega), ?_⟩
      conv => whnf
      refine ⟨(j + 1, ⟨dm1, wk1, er1⟩), le_selH [0, 1, 2] ?_, ⟨show j + 1 ≤ 2 by omega, q1, show _ + _ = _ + _ by simp only at q2 ⊢; omega, show _ ≤ _ by simp only at q3 ⊢; omega, hF⟩, show 2 - (j + 1) < 2 - j by omega⟩
      conv => whnf
      repeat' constructor
     ·rw [decide_eq_false heq]
      rw [decide_eq_true heq, Bool.or_true] at hF q1
      conv => whnf
      refine ⟨show lo .i64 ≤ (j : Int) + 1 ∧ (j : Int) + 1 ≤ hi .i64 from i64r (by omega), ?_⟩
      conv => whnf
      refine ⟨(j + 1, ⟨dm1, wk1, true⟩), le_selH [0, 1, 2] ?_, ⟨show j + 1 ≤ 2 by omega, q1, show _ + _ = _ + _ by simp only at q2 ⊢; omega, show _ ≤ _ by simp only at q3 ⊢; omega, hF⟩, show 2 - (j + 1) < 2 - j by omega⟩
      conv => whnf
      repeat' constructor
   ·have hdr : [a + 1, n].drop j = (n) :: [a + 1, n].drop (j + 1) := by rw [hj0]; rfl
    rw [hdr] at hF
    unfold kidsF at hF
    have hk0 : 0 ≤ n := hnn _ (by simp)
    have hdl1 := keys_le f2.rng f2.nd
    simp only at hdl1
    by_cases hge : (code.length : Int) ≤ n
    ·unfold kidF at hF
     rw [if_pos hge] at hF
     rw [← hF] at hR
     conv => whnf
     rw [decide_eq_true (show (j : Int) < ((2 : Nat) : Int) by omega)]
     conv => whnf
     refine ⟨show (0 : Int) ≤ (j : Int) ∧ (j : Int) < ((2 : Nat) : Int) from ⟨by omega, by omega⟩, ?_⟩
     conv => whnf
     (generalize hrq : rowOf _ _ ([A.v (.int .i64 (a + 1)), A.v (.int .i64 n)]) = rq; obtain rfl : rq = [intA (n)] := hrq.symm.trans ((by rw [hj0]; unfold rowOf; rfl)); clear hrq; conv => whnf)
     rw [decide_eq_true hge]
     conv => whnf
     rw [← hR]; rfl
    rcases opt_cases (dF dm1 (n)) with hdk | ⟨d2, hdk⟩
    ·have hkf : kidF code.length (d' - popI op + pushI op) ⟨dm1, wk1, er1⟩ (n) = some ⟨dm1 ++ [(n, d' - popI op + pushI op)], wk1 ++ [n], er1⟩ := by unfold kidF; rw [if_neg hge]; simp only; rw [hdk]
     obtain ⟨q1, q2, q3⟩ := kidF_ok f2 hk0 ⟨by simp only; omega, by simp only; omega⟩ hkf
     rw [hkf] at hF
     simp only at hF
     conv => whnf
     rw [decide_eq_true (show (j : Int) < ((2 : Nat) : Int) by omega)]
     conv => whnf
     refine ⟨show (0 : Int) ≤ (j : Int) ∧ (j : Int) < ((2 : Nat) : Int) from ⟨by omega, by omega⟩, ?_⟩
     conv => whnf
     (generalize hrq : rowOf _ _ ([A.v (.int .i64 (a + 1)), A.v (.int .i64 n)]) = rq; obtain rfl : rq = [intA (n)] := hrq.symm.trans ((by rw [hj0]; unfold rowOf; rfl)); clear hrq; conv => whnf)
     rw [decide_eq_false hge]
     conv => whnf
     refine keysK_ints _ ?_
     conv => whnf
     refine mapFind_dm0 hdk ?_
     conv => whnf
     refine insK_dm hdk ?_
     conv => whnf
     refine ⟨⟨show wk1.length + 1 ≤ maxLen by unfold maxLen; omega, show (wk1.length + 1) * 8 ≤ 140737488355328 by omega⟩, ?_⟩
     conv => whnf
     refine ⟨show lo .i64 ≤ (j : Int) + 1 ∧ (j : Int) + 1 ≤ hi .i64 from i64r (by omega), ?_⟩
     conv => whnf
     refine ⟨(j + 1, ⟨dm1 ++ [(n, d' - popI op + pushI op)], wk1 ++ [n], er1⟩), le_selH [0, 1, 2] ?_, ⟨show j + 1 ≤ 2 by omega, q1, show _ + _ = _ + _ by simp only at q2 ⊢; omega, show _ ≤ _ by simp only at q3 ⊢; omega, hF⟩, show 2 - (j + 1) < 2 - j by omega⟩
     conv => whnf
     repeat' constructor
     ·exact row_dm _ _ _ _
     ·exact row_wk _ _ _
    ·have hkf : kidF code.length (d' - popI op + pushI op) ⟨dm1, wk1, er1⟩ (n) = some ⟨dm1, wk1, er1 || decide (d2 ≠ d' - popI op + pushI op)⟩ := by unfold kidF; rw [if_neg hge]; simp only; rw [hdk]
     obtain ⟨q1, q2, q3⟩ := kidF_ok f2 hk0 ⟨by simp only; omega, by simp only; omega⟩ hkf
     rw [hkf] at hF
     simp only at hF
     conv => whnf
     rw [decide_eq_true (show (j : Int) < ((2 : Nat) : Int) by omega)]
     conv => whnf
     refine ⟨show (0 : Int) ≤ (j : Int) ∧ (j : Int) < ((2 : Nat) : Int) from ⟨by omega, by omega⟩, ?_⟩
     conv => whnf
     (generalize hrq : rowOf _ _ ([A.v (.int .i64 (a + 1)), A.v (.int .i64 n)]) = rq; obtain rfl : rq = [intA (n)] := hrq.symm.trans ((by rw [hj0]; unfold rowOf; rfl)); clear hrq; conv => whnf)
     rw [decide_eq_false hge]
     conv => whnf
     refine keysK_ints _ ?_
     conv => whnf
     refine mapFind_dm1 hdk ?_
     conv => whnf
     rcases (show d2 = d' - popI op + pushI op ∨ d2 ≠ d' - popI op + pushI op by omega) with heq | heq
     ·rw [decide_eq_true heq]
      rw [decide_eq_false (fun h => h heq), Bool.or_false] at hF q1
      conv => whnf
      refine ⟨show lo .i64 ≤ (j : Int) + 1 ∧ (j : Int) + 1 ≤ hi .i64 from i64r (by omega), ?_⟩
      conv => whnf
      refine ⟨(j + 1, ⟨dm1, wk1, er1⟩), le_selH [0, 1, 2] ?_, ⟨show j + 1 ≤ 2 by omega, q1, show _ + _ = _ + _ by simp only at q2 ⊢; omega, show _ ≤ _ by simp only at q3 ⊢; omega, hF⟩, show 2 - (j + 1) < 2 - j by omega⟩
      conv => whnf
      repeat' constructor
     ·rw [decide_eq_false heq]
      rw [decide_eq_true heq, Bool.or_true] at hF q1
      conv => whnf
      refine ⟨show lo .i64 ≤ (j : Int) + 1 ∧ (j : Int) + 1 ≤ hi .i64 from i64r (by omega), ?_⟩
      conv => whnf
      refine ⟨(j + 1, ⟨dm1, wk1, true⟩), le_selH [0, 1, 2] ?_, ⟨show j + 1 ≤ 2 by omega, q1, show _ + _ = _ + _ by simp only at q2 ⊢; omega, show _ ≤ _ by simp only at q3 ⊢; omega, hF⟩, show 2 - (j + 1) < 2 - j by omega⟩
      conv => whnf
      repeat' constructor
   ·rw [show [a + 1, n].drop j = [] by rw [hj0]; rfl] at hF
    unfold kidsF at hF
    rw [← hF] at hR
    have hdl1 := keys_le f2.rng f2.nd
    simp only at hdl1 hR
    conv => whnf
    rw [decide_eq_false (show ¬ (j : Int) < ((2 : Nat) : Int) by omega)]
    conv => whnf
    refine ⟨(m, ⟨dm1, wk1, er1⟩), le_selH [0, 1] ?_, ⟨f2, show wk1.length + (code.length - dm1.length) + 1 ≤ m by omega, show m ≤ code.length + 1 by omega, hR⟩, show m < m + 1 by omega⟩
    conv => whnf
    repeat' constructor
  rw [decide_eq_false hc3]
  rw [if_neg hc3] at hR hnn
  conv => whnf
  refine ⟨show lo .i64 ≤ a + 1 ∧ a + 1 ≤ hi .i64 from i64r (by omega), ?_⟩
  conv => whnf
  obtain ⟨F, hF⟩ : ∃ F, kidsF code.length (d' - popI op + pushI op) [a + 1] ⟨dm, pre, true⟩ = F := ⟨_, rfl⟩
  rw [hF] at hR
  refine loop_pub [2] ?_
  conv => whnf
  refine loop_keep [2, 5, 6, 8, 12, 88, 89] ?_
  conv => whnf
  refine loop_go (fun x : Nat × Fs => [(7, intA (folE x.2.er)), (90, .v (.int .i64 x.1))]) (fun _ => [pgL code e du vo]) (fun x => flR x.2.dm x.2.wk ++ [.pub 1 1 ([a + 1].map intA)])
   (fun x => x.1 ≤ 1 ∧ FsOk code.length x.2 ∧ x.2.wk.length + dm.length = pre.length + x.2.dm.length ∧ dm.length ≤ x.2.dm.length ∧ kidsF code.length (d' - popI op + pushI op) ([a + 1].drop x.1) x.2 = F) (fun x => 1 - x.1) (0, ⟨dm, pre, true⟩) ?_ ⟨Nat.zero_le _, ⟨g1.rng, g1.nd, fun k hk => g1.wk k (List.mem_append_left _ hk), g1.dep⟩, rfl, Nat.le_refl _, hF⟩ ?_
  ·repeat' constructor
  clear hF
  rintro ⟨j, dm1, wk1, er1⟩ ⟨f1, f2, f3, f4, hF⟩
  simp only at f1 f2 f3 f4 hF
  rcases (show j = 0 ∨ j = 1 by omega) with hj0 | hj0
  ·have hdr : [a + 1].drop j = (a + 1) :: [a + 1].drop (j + 1) := by rw [hj0]; rfl
   rw [hdr] at hF
   unfold kidsF at hF
   have hk0 : 0 ≤ a + 1 := hnn _ (by simp)
   have hdl1 := keys_le f2.rng f2.nd
   simp only at hdl1
   by_cases hge : (code.length : Int) ≤ a + 1
   ·unfold kidF at hF
    rw [if_pos hge] at hF
    rw [← hF] at hR
    conv => whnf
    rw [decide_eq_true (show (j : Int) < ((1 : Nat) : Int) by omega)]
    conv => whnf
    refine ⟨show (0 : Int) ≤ (j : Int) ∧ (j : Int) < ((1 : Nat) : Int) from ⟨by omega, by omega⟩, ?_⟩
    conv => whnf
    (generalize hrq : rowOf _ _ ([A.v (.int .i64 (a + 1))]) = rq; obtain rfl : rq = [intA (a + 1)] := hrq.symm.trans ((by rw [hj0]; unfold rowOf; rfl)); clear hrq; conv => whnf)
    rw [decide_eq_true hge]
    conv => whnf
    rw [← hR]; rfl
   rcases opt_cases (dF dm1 (a + 1)) with hdk | ⟨d2, hdk⟩
   ·have hkf : kidF code.length (d' - popI op + pushI op) ⟨dm1, wk1, er1⟩ (a + 1) = some ⟨dm1 ++ [(a + 1, d' - popI op + pushI op)], wk1 ++ [a + 1], er1⟩ := by unfold kidF; rw [if_neg hge]; simp only; rw [hdk]
    obtain ⟨q1, q2, q3⟩ := kidF_ok f2 hk0 ⟨by simp only; omega, by simp only; omega⟩ hkf
    rw [hkf] at hF
    simp only at hF
    conv => whnf
    rw [decide_eq_true (show (j : Int) < ((1 : Nat) : Int) by omega)]
    conv => whnf
    refine ⟨show (0 : Int) ≤ (j : Int) ∧ (j : Int) < ((1 : Nat) : Int) from ⟨by omega, by omega⟩, ?_⟩
    conv => whnf
    (generalize hrq : rowOf _ _ ([A.v (.int .i64 (a + 1))]) = rq; obtain rfl : rq = [intA (a + 1)] := hrq.symm.trans ((by rw [hj0]; unfold rowOf; rfl)); clear hrq; conv => whnf)
    rw [decide_eq_false hge]
    conv => whnf
    refine keysK_ints _ ?_
    conv => whnf
    refine mapFind_dm0 hdk ?_
    conv => whnf
    refine insK_dm hdk ?_
    conv => whnf
    refine ⟨⟨show wk1.length + 1 ≤ maxLen by unfold maxLen; omega, show (wk1.length + 1) * 8 ≤ 140737488355328 by omega⟩, ?_⟩
    conv => whnf
    refine ⟨show lo .i64 ≤ (j : Int) + 1 ∧ (j : Int) + 1 ≤ hi .i64 from i64r (by omega), ?_⟩
    conv => whnf
    refine ⟨(j + 1, ⟨dm1 ++ [(a + 1, d' - popI op + pushI op)], wk1 ++ [a + 1], er1⟩), le_selH [0, 1, 2] ?_, ⟨show j + 1 ≤ 1 by omega, q1, show _ + _ = _ + _ by simp only at q2 ⊢; omega, show _ ≤ _ by simp only at q3 ⊢; omega, hF⟩, show 1 - (j + 1) < 1 - j by omega⟩
    conv => whnf
    repeat' constructor
    ·exact row_dm _ _ _ _
    ·exact row_wk _ _ _
   ·have hkf : kidF code.length (d' - popI op + pushI op) ⟨dm1, wk1, er1⟩ (a + 1) = some ⟨dm1, wk1, er1 || decide (d2 ≠ d' - popI op + pushI op)⟩ := by unfold kidF; rw [if_neg hge]; simp only; rw [hdk]
    obtain ⟨q1, q2, q3⟩ := kidF_ok f2 hk0 ⟨by simp only; omega, by simp only; omega⟩ hkf
    rw [hkf] at hF
    simp only at hF
    conv => whnf
    rw [decide_eq_true (show (j : Int) < ((1 : Nat) : Int) by omega)]
    conv => whnf
    refine ⟨show (0 : Int) ≤ (j : Int) ∧ (j : Int) < ((1 : Nat) : Int) from ⟨by omega, by omega⟩, ?_⟩
    conv => whnf
    (generalize hrq : rowOf _ _ ([A.v (.int .i64 (a + 1))]) = rq; obtain rfl : rq = [intA (a + 1)] := hrq.symm.trans ((by rw [hj0]; unfold rowOf; rfl)); clear hrq; conv => whnf)
    rw [decide_eq_false hge]
    conv => whnf
    refine keysK_ints _ ?_
    conv => whnf
    refine mapFind_dm1 hdk ?_
    conv => whnf
    rcases (show d2 = d' - popI op + pushI op ∨ d2 ≠ d' - popI op + pushI op by omega) with heq | heq
    ·rw [decide_eq_true heq]
     rw [decide_eq_false (fun h => h heq), Bool.or_false] at hF q1
     conv => whnf
     refine ⟨show lo .i64 ≤ (j : Int) + 1 ∧ (j : Int) + 1 ≤ hi .i64 from i64r (by omega), ?_⟩
     conv => whnf
     refine ⟨(j + 1, ⟨dm1, wk1, er1⟩), le_selH [0, 1, 2] ?_, ⟨show j + 1 ≤ 1 by omega, q1, show _ + _ = _ + _ by simp only at q2 ⊢; omega, show _ ≤ _ by simp only at q3 ⊢; omega, hF⟩, show 1 - (j + 1) < 1 - j by omega⟩
     conv => whnf
     repeat' constructor
    ·rw [decide_eq_false heq]
     rw [decide_eq_true heq, Bool.or_true] at hF q1
     conv => whnf
     refine ⟨show lo .i64 ≤ (j : Int) + 1 ∧ (j : Int) + 1 ≤ hi .i64 from i64r (by omega), ?_⟩
     conv => whnf
     refine ⟨(j + 1, ⟨dm1, wk1, true⟩), le_selH [0, 1, 2] ?_, ⟨show j + 1 ≤ 1 by omega, q1, show _ + _ = _ + _ by simp only at q2 ⊢; omega, show _ ≤ _ by simp only at q3 ⊢; omega, hF⟩, show 1 - (j + 1) < 1 - j by omega⟩
     conv => whnf
     repeat' constructor
  ·rw [show [a + 1].drop j = [] by rw [hj0]; rfl] at hF
   unfold kidsF at hF
   rw [← hF] at hR
   have hdl1 := keys_le f2.rng f2.nd
   simp only at hdl1 hR
   conv => whnf
   rw [decide_eq_false (show ¬ (j : Int) < ((1 : Nat) : Int) by omega)]
   conv => whnf
   refine ⟨(m, ⟨dm1, wk1, er1⟩), le_selH [0, 1] ?_, ⟨f2, show wk1.length + (code.length - dm1.length) + 1 ≤ m by omega, show m ≤ code.length + 1 by omega, hR⟩, show m < m + 1 by omega⟩
   conv => whnf
   repeat' constructor
 rw [decide_eq_false hb1] at hR ⊢
 conv => whnf
 by_cases hb2 : 16 < d' - popI op + pushI op
 ·rw [decide_eq_true hb2] at hR ⊢
  rw [Bool.or_true, Bool.or_true] at hR
  conv => whnf
  unfold nxI at hR hnn
  simp only at hR hnn
  by_cases hc1 : op = 23
  ·rw [decide_eq_true hc1]
   rw [if_pos hc1] at hR hnn
   unfold kidsF at hR
   have hF := hR
   simp only at hF
   conv => whnf
   refine loop_keep [2, 5, 6, 7, 8, 88, 89, 90] ?_
   conv => whnf
   refine loop_go (fun _ : Unit => []) (fun _ => [pgL code e du vo]) (fun _ => flR dm pre) (fun _ => True) (fun _ => 0) () ?_ trivial ?_
   ·repeat' constructor
   rintro ⟨⟩ -
   conv => whnf
   refine ⟨(m, ⟨dm, pre, true⟩), le_selH [0, 1] ?_, ⟨⟨g1.rng, g1.nd, fun k hk => g1.wk k (List.mem_append_left _ hk), g1.dep⟩, show pre.length + (code.length - dm.length) + 1 ≤ m by omega, show m ≤ code.length + 1 by omega, hF⟩, show m < m + 1 by omega⟩
   conv => whnf
   repeat' constructor
  rw [decide_eq_false hc1]
  rw [if_neg hc1] at hR hnn
  conv => whnf
  by_cases hc2 : op = 15
  ·rw [decide_eq_true hc2]
   rw [if_pos hc2] at hR hnn
   conv => whnf
   obtain ⟨F, hF⟩ : ∃ F, kidsF code.length (d' - popI op + pushI op) [n] ⟨dm, pre, true⟩ = F := ⟨_, rfl⟩
   rw [hF] at hR
   refine loop_pub [2] ?_
   conv => whnf
   refine loop_keep [2, 5, 6, 8, 12, 88, 89] ?_
   conv => whnf
   refine loop_go (fun x : Nat × Fs => [(7, intA (folE x.2.er)), (90, .v (.int .i64 x.1))]) (fun _ => [pgL code e du vo]) (fun x => flR x.2.dm x.2.wk ++ [.pub 1 1 ([n].map intA)])
    (fun x => x.1 ≤ 1 ∧ FsOk code.length x.2 ∧ x.2.wk.length + dm.length = pre.length + x.2.dm.length ∧ dm.length ≤ x.2.dm.length ∧ kidsF code.length (d' - popI op + pushI op) ([n].drop x.1) x.2 = F) (fun x => 1 - x.1) (0, ⟨dm, pre, true⟩) ?_ ⟨Nat.zero_le _, ⟨g1.rng, g1.nd, fun k hk => g1.wk k (List.mem_append_left _ hk), g1.dep⟩, rfl, Nat.le_refl _, hF⟩ ?_
   ·repeat' constructor
   clear hF
   rintro ⟨j, dm1, wk1, er1⟩ ⟨f1, f2, f3, f4, hF⟩
   simp only at f1 f2 f3 f4 hF
   rcases (show j = 0 ∨ j = 1 by omega) with hj0 | hj0
   ·have hdr : [n].drop j = (n) :: [n].drop (j + 1) := by rw [hj0]; rfl
    rw [hdr] at hF
    unfold kidsF at hF
    have hk0 : 0 ≤ n := hnn _ (by simp)
    have hdl1 := keys_le f2.rng f2.nd
    simp only at hdl1
    by_cases hge : (code.length : Int) ≤ n
    ·unfold kidF at hF
     rw [if_pos hge] at hF
     rw [← hF] at hR
     conv => whnf
     rw [decide_eq_true (show (j : Int) < ((1 : Nat) : Int) by omega)]
     conv => whnf
     refine ⟨show (0 : Int) ≤ (j : Int) ∧ (j : Int) < ((1 : Nat) : Int) from ⟨by omega, by omega⟩, ?_⟩
     conv => whnf
     (generalize hrq : rowOf _ _ ([A.v (.int .i64 n)]) = rq; obtain rfl : rq = [intA (n)] := hrq.symm.trans ((by rw [hj0]; unfold rowOf; rfl)); clear hrq; conv => whnf)
     rw [decide_eq_true hge]
     conv => whnf
     rw [← hR]; rfl
    rcases opt_cases (dF dm1 (n)) with hdk | ⟨d2, hdk⟩
    ·have hkf : kidF code.length (d' - popI op + pushI op) ⟨dm1, wk1, er1⟩ (n) = some ⟨dm1 ++ [(n, d' - popI op + pushI op)], wk1 ++ [n], er1⟩ := by unfold kidF; rw [if_neg hge]; simp only; rw [hdk]
     obtain ⟨q1, q2, q3⟩ := kidF_ok f2 hk0 ⟨by simp only; omega, by simp only; omega⟩ hkf
     rw [hkf] at hF
     simp only at hF
     conv => whnf
     rw [decide_eq_true (show (j : Int) < ((1 : Nat) : Int) by omega)]
     conv => whnf
     refine ⟨show (0 : Int) ≤ (j : Int) ∧ (j : Int) < ((1 : Nat) : Int) from ⟨by omega, by omega⟩, ?_⟩
     conv => whnf
     (generalize hrq : rowOf _ _ ([A.v (.int .i64 n)]) = rq; obtain rfl : rq = [intA (n)] := hrq.symm.trans ((by rw [hj0]; unfold rowOf; rfl)); clear hrq; conv => whnf)
     rw [decide_eq_false hge]
     conv => whnf
     refine keysK_ints _ ?_
     conv => whnf
     refine mapFind_dm0 hdk ?_
     conv => whnf
     refine insK_dm hdk ?_
     conv => whnf
     refine ⟨⟨show wk1.length + 1 ≤ maxLen by unfold maxLen; omega, show (wk1.length + 1) * 8 ≤ 140737488355328 by omega⟩, ?_⟩
     conv => whnf
     refine ⟨show lo .i64 ≤ (j : Int) + 1 ∧ (j : Int) + 1 ≤ hi .i64 from i64r (by omega), ?_⟩
     conv => whnf
     refine ⟨(j + 1, ⟨dm1 ++ [(n, d' - popI op + pushI op)], wk1 ++ [n], er1⟩), le_selH [0, 1, 2] ?_, ⟨show j + 1 ≤ 1 by omega, q1, show _ + _ = _ + _ by simp only at q2 ⊢; omega, show _ ≤ _ by simp only at q3 ⊢; omega, hF⟩, show 1 - (j + 1) < 1 - j by omega⟩
     conv => whnf
     repeat' constructor
     ·exact row_dm _ _ _ _
     ·exact row_wk _ _ _
    ·have hkf : kidF code.length (d' - popI op + pushI op) ⟨dm1, wk1, er1⟩ (n) = some ⟨dm1, wk1, er1 || decide (d2 ≠ d' - popI op + pushI op)⟩ := by unfold kidF; rw [if_neg hge]; simp only; rw [hdk]
     obtain ⟨q1, q2, q3⟩ := kidF_ok f2 hk0 ⟨by simp only; omega, by simp only; omega⟩ hkf
     rw [hkf] at hF
     simp only at hF
     conv => whnf
     rw [decide_eq_true (show (j : Int) < ((1 : Nat) : Int) by omega)]
     conv => whnf
     refine ⟨show (0 : Int) ≤ (j : Int) ∧ (j : Int) < ((1 : Nat) : Int) from ⟨by omega, by omega⟩, ?_⟩
     conv => whnf
     (generalize hrq : rowOf _ _ ([A.v (.int .i64 n)]) = rq; obtain rfl : rq = [intA (n)] := hrq.symm.trans ((by rw [hj0]; unfold rowOf; rfl)); clear hrq; conv => whnf)
     rw [decide_eq_false hge]
     conv => whnf
     refine keysK_ints _ ?_
     conv => whnf
     refine mapFind_dm1 hdk ?_
     conv => whnf
     rcases (show d2 = d' - popI op + pushI op ∨ d2 ≠ d' - popI op + pushI op by omega) with heq | heq
     ·rw [decide_eq_true heq]
      rw [decide_eq_false (fun h => h heq), Bool.or_false] at hF q1
      conv => whnf
      refine ⟨show lo .i64 ≤ (j : Int) + 1 ∧ (j : Int) + 1 ≤ hi .i64 from i64r (by omega), ?_⟩
      conv => whnf
      refine ⟨(j + 1, ⟨dm1, wk1, er1⟩), le_selH [0, 1, 2] ?_, ⟨show j + 1 ≤ 1 by omega, q1, show _ + _ = _ + _ by simp only at q2 ⊢; omega, show _ ≤ _ by simp only at q3 ⊢; omega, hF⟩, show 1 - (j + 1) < 1 - j by omega⟩
      conv => whnf
      repeat' constructor
     ·rw [decide_eq_false heq]
      rw [decide_eq_true heq, Bool.or_true] at hF q1
      conv => whnf
      refine ⟨show lo .i64 ≤ (j : Int) + 1 ∧ (j : Int) + 1 ≤ hi .i64 from i64r (by omega), ?_⟩
      conv => whnf
      refine ⟨(j + 1, ⟨dm1, wk1, true⟩), le_selH [0, 1, 2] ?_, ⟨show j + 1 ≤ 1 by omega, q1, show _ + _ = _ + _ by simp only at q2 ⊢; omega, show _ ≤ _ by simp only at q3 ⊢; omega, hF⟩, show 1 - (j + 1) < 1 - j by omega⟩
      conv => whnf
      repeat' constructor
   ·rw [show [n].drop j = [] by rw [hj0]; rfl] at hF
    unfold kidsF at hF
    rw [← hF] at hR
    have hdl1 := keys_le f2.rng f2.nd
    simp only at hdl1 hR
    conv => whnf
    rw [decide_eq_false (show ¬ (j : Int) < ((1 : Nat) : Int) by omega)]
    conv => whnf
    refine ⟨(m, ⟨dm1, wk1, er1⟩), le_selH [0, 1] ?_, ⟨f2, show wk1.length + (code.length - dm1.length) + 1 ≤ m by omega, show m ≤ code.length + 1 by omega, hR⟩, show m < m + 1 by omega⟩
    conv => whnf
    repeat' constructor
  rw [decide_eq_false hc2]
  rw [if_neg hc2] at hR hnn
  conv => whnf
  by_cases hc3 : op = 16
  ·rw [decide_eq_true hc3]
   rw [if_pos hc3] at hR hnn
   conv => whnf
   refine ⟨show lo .i64 ≤ a + 1 ∧ a + 1 ≤ hi .i64 from i64r (by omega), ?_⟩
   conv => whnf
   obtain ⟨F, hF⟩ : ∃ F, kidsF code.length (d' - popI op + pushI op) [a + 1, n] ⟨dm, pre, true⟩ = F := ⟨_, rfl⟩
   rw [hF] at hR
   refine loop_pub [2] ?_
   conv => whnf
   refine loop_keep [2, 5, 6, 8, 12, 88, 89] ?_
   conv => whnf
   refine loop_go (fun x : Nat × Fs => [(7, intA (folE x.2.er)), (90, .v (.int .i64 x.1))]) (fun _ => [pgL code e du vo]) (fun x => flR x.2.dm x.2.wk ++ [.pub 1 2 ([a + 1, n].map intA)])
    (fun x => x.1 ≤ 2 ∧ FsOk code.length x.2 ∧ x.2.wk.length + dm.length = pre.length + x.2.dm.length ∧ dm.length ≤ x.2.dm.length ∧ kidsF code.length (d' - popI op + pushI op) ([a + 1, n].drop x.1) x.2 = F) (fun x => 2 - x.1) (0, ⟨dm, pre, true⟩) ?_ ⟨Nat.zero_le _, ⟨g1.rng, g1.nd, fun k hk => g1.wk k (List.mem_append_left _ hk), g1.dep⟩, rfl, Nat.le_refl _, hF⟩ ?_
   ·repeat' constructor
   clear hF
   rintro ⟨j, dm1, wk1, er1⟩ ⟨f1, f2, f3, f4, hF⟩
   simp only at f1 f2 f3 f4 hF
   rcases (show j = 0 ∨ j = 1 ∨ j = 2 by omega) with hj0 | hj0 | hj0
   ·have hdr : [a + 1, n].drop j = (a + 1) :: [a + 1, n].drop (j + 1) := by rw [hj0]; rfl
    rw [hdr] at hF
    unfold kidsF at hF
    have hk0 : 0 ≤ a + 1 := hnn _ (by simp)
    have hdl1 := keys_le f2.rng f2.nd
    simp only at hdl1
    by_cases hge : (code.length : Int) ≤ a + 1
    ·unfold kidF at hF
     rw [if_pos hge] at hF
     rw [← hF] at hR
     conv => whnf
     rw [decide_eq_true (show (j : Int) < ((2 : Nat) : Int) by omega)]
     conv => whnf
     refine ⟨show (0 : Int) ≤ (j : Int) ∧ (j : Int) < ((2 : Nat) : Int) from ⟨by omega, by omega⟩, ?_⟩
     conv => whnf
     (generalize hrq : rowOf _ _ ([A.v (.int .i64 (a + 1)), A.v (.int .i64 n)]) = rq; obtain rfl : rq = [intA (a + 1)] := hrq.symm.trans ((by rw [hj0]; unfold rowOf; rfl)); clear hrq; conv => whnf)
     rw [decide_eq_true hge]
     conv => whnf
     rw [← hR]; rfl
    rcases opt_cases (dF dm1 (a + 1)) with hdk | ⟨d2, hdk⟩
    ·have hkf : kidF code.length (d' - popI op + pushI op) ⟨dm1, wk1, er1⟩ (a + 1) = some ⟨dm1 ++ [(a + 1, d' - popI op + pushI op)], wk1 ++ [a + 1], er1⟩ := by unfold kidF; rw [if_neg hge]; simp only; rw [hdk]
     obtain ⟨q1, q2, q3⟩ := kidF_ok f2 hk0 ⟨by simp only; omega, by simp only; omega⟩ hkf
     rw [hkf] at hF
     simp only at hF
     conv => whnf
     rw [decide_eq_true (show (j : Int) < ((2 : Nat) : Int) by omega)]
     conv => whnf
     refine ⟨show (0 : Int) ≤ (j : Int) ∧ (j : Int) < ((2 : Nat) : Int) from ⟨by omega, by omega⟩, ?_⟩
     conv => whnf
     (generalize hrq : rowOf _ _ ([A.v (.int .i64 (a + 1)), A.v (.int .i64 n)]) = rq; obtain rfl : rq = [intA (a + 1)] := hrq.symm.trans ((by rw [hj0]; unfold rowOf; rfl)); clear hrq; conv => whnf)
     rw [decide_eq_false hge]
     conv => whnf
     refine keysK_ints _ ?_
     conv => whnf
     refine mapFind_dm0 hdk ?_
     conv => whnf
     refine insK_dm hdk ?_
     conv => whnf
     refine ⟨⟨show wk1.length + 1 ≤ maxLen by unfold maxLen; omega, show (wk1.length + 1) * 8 ≤ 140737488355328 by omega⟩, ?_⟩
     conv => whnf
     refine ⟨show lo .i64 ≤ (j : Int) + 1 ∧ (j : Int) + 1 ≤ hi .i64 from i64r (by omega), ?_⟩
     conv => whnf
     refine ⟨(j + 1, ⟨dm1 ++ [(a + 1, d' - popI op + pushI op)], wk1 ++ [a + 1], er1⟩), le_selH [0, 1, 2] ?_, ⟨show j + 1 ≤ 2 by omega, q1, show _ + _ = _ + _ by simp only at q2 ⊢; omega, show _ ≤ _ by simp only at q3 ⊢; omega, hF⟩, show 2 - (j + 1) < 2 - j by omega⟩
     conv => whnf
     repeat' constructor
     ·exact row_dm _ _ _ _
     ·exact row_wk _ _ _
    ·have hkf : kidF code.length (d' - popI op + pushI op) ⟨dm1, wk1, er1⟩ (a + 1) = some ⟨dm1, wk1, er1 || decide (d2 ≠ d' - popI op + pushI op)⟩ := by unfold kidF; rw [if_neg hge]; simp only; rw [hdk]
     obtain ⟨q1, q2, q3⟩ := kidF_ok f2 hk0 ⟨by simp only; omega, by simp only; omega⟩ hkf
     rw [hkf] at hF
     simp only at hF
     conv => whnf
     rw [decide_eq_true (show (j : Int) < ((2 : Nat) : Int) by omega)]
     conv => whnf
     refine ⟨show (0 : Int) ≤ (j : Int) ∧ (j : Int) < ((2 : Nat) : Int) from ⟨by omega, by omega⟩, ?_⟩
     conv => whnf
     (generalize hrq : rowOf _ _ ([A.v (.int .i64 (a + 1)), A.v (.int .i64 n)]) = rq; obtain rfl : rq = [intA (a + 1)] := hrq.symm.trans ((by rw [hj0]; unfold rowOf; rfl)); clear hrq; conv => whnf)
     rw [decide_eq_false hge]
     conv => whnf
     refine keysK_ints _ ?_
     conv => whnf
     refine mapFind_dm1 hdk ?_
     conv => whnf
     rcases (show d2 = d' - popI op + pushI op ∨ d2 ≠ d' - popI op + pushI op by omega) with heq | heq
     ·rw [decide_eq_true heq]
      rw [decide_eq_false (fun h => h heq), Bool.or_false] at hF q1
      conv => whnf
      refine ⟨show lo .i64 ≤ (j : Int) + 1 ∧ (j : Int) + 1 ≤ hi .i64 from i64r (by omega), ?_⟩
      conv => whnf
      refine ⟨(j + 1, ⟨dm1, wk1, er1⟩), le_selH [0, 1, 2] ?_, ⟨show j + 1 ≤ 2 by omega, q1, show _ + _ = _ + _ by simp only at q2 ⊢; omega, show _ ≤ _ by simp only at q3 ⊢; omega, hF⟩, show 2 - (j + 1) < 2 - j by omega⟩
      conv => whnf
      repeat' constructor
     ·rw [decide_eq_false heq]
      rw [decide_eq_true heq, Bool.or_true] at hF q1
      conv => whnf
      refine ⟨show lo .i64 ≤ (j : Int) + 1 ∧ (j : Int) + 1 ≤ hi .i64 from i64r (by omega), ?_⟩
      conv => whnf
      refine ⟨(j + 1, ⟨dm1, wk1, true⟩), le_selH [0, 1, 2] ?_, ⟨show j + 1 ≤ 2 by omega, q1, show _ + _ = _ + _ by simp only at q2 ⊢; omega, show _ ≤ _ by simp only at q3 ⊢; omega, hF⟩, show 2 - (j + 1) < 2 - j by omega⟩
      conv => whnf
      repeat' constructor
   ·have hdr : [a + 1, n].drop j = (n) :: [a + 1, n].drop (j + 1) := by rw [hj0]; rfl
    rw [hdr] at hF
    unfold kidsF at hF
    have hk0 : 0 ≤ n := hnn _ (by simp)
    have hdl1 := keys_le f2.rng f2.nd
    simp only at hdl1
    by_cases hge : (code.length : Int) ≤ n
    ·unfold kidF at hF
     rw [if_pos hge] at hF
     rw [← hF] at hR
     conv => whnf
     rw [decide_eq_true (show (j : Int) < ((2 : Nat) : Int) by omega)]
     conv => whnf
     refine ⟨show (0 : Int) ≤ (j : Int) ∧ (j : Int) < ((2 : Nat) : Int) from ⟨by omega, by omega⟩, ?_⟩
     conv => whnf
     (generalize hrq : rowOf _ _ ([A.v (.int .i64 (a + 1)), A.v (.int .i64 n)]) = rq; obtain rfl : rq = [intA (n)] := hrq.symm.trans ((by rw [hj0]; unfold rowOf; rfl)); clear hrq; conv => whnf)
     rw [decide_eq_true hge]
     conv => whnf
     rw [← hR]; rfl
    rcases opt_cases (dF dm1 (n)) with hdk | ⟨d2, hdk⟩
    ·have hkf : kidF code.length (d' - popI op + pushI op) ⟨dm1, wk1, er1⟩ (n) = some ⟨dm1 ++ [(n, d' - popI op + pushI op)], wk1 ++ [n], er1⟩ := by unfold kidF; rw [if_neg hge]; simp only; rw [hdk]
     obtain ⟨q1, q2, q3⟩ := kidF_ok f2 hk0 ⟨by simp only; omega, by simp only; omega⟩ hkf
     rw [hkf] at hF
     simp only at hF
     conv => whnf
     rw [decide_eq_true (show (j : Int) < ((2 : Nat) : Int) by omega)]
     conv => whnf
     refine ⟨show (0 : Int) ≤ (j : Int) ∧ (j : Int) < ((2 : Nat) : Int) from ⟨by omega, by omega⟩, ?_⟩
     conv => whnf
     (generalize hrq : rowOf _ _ ([A.v (.int .i64 (a + 1)), A.v (.int .i64 n)]) = rq; obtain rfl : rq = [intA (n)] := hrq.symm.trans ((by rw [hj0]; unfold rowOf; rfl)); clear hrq; conv => whnf)
     rw [decide_eq_false hge]
     conv => whnf
     refine keysK_ints _ ?_
     conv => whnf
     refine mapFind_dm0 hdk ?_
     conv => whnf
     refine insK_dm hdk ?_
     conv => whnf
     refine ⟨⟨show wk1.length + 1 ≤ maxLen by unfold maxLen; omega, show (wk1.length + 1) * 8 ≤ 140737488355328 by omega⟩, ?_⟩
     conv => whnf
     refine ⟨show lo .i64 ≤ (j : Int) + 1 ∧ (j : Int) + 1 ≤ hi .i64 from i64r (by omega), ?_⟩
     conv => whnf
     refine ⟨(j + 1, ⟨dm1 ++ [(n, d' - popI op + pushI op)], wk1 ++ [n], er1⟩), le_selH [0, 1, 2] ?_, ⟨show j + 1 ≤ 2 by omega, q1, show _ + _ = _ + _ by simp only at q2 ⊢; omega, show _ ≤ _ by simp only at q3 ⊢; omega, hF⟩, show 2 - (j + 1) < 2 - j by omega⟩
     conv => whnf
     repeat' constructor
     ·exact row_dm _ _ _ _
     ·exact row_wk _ _ _
    ·have hkf : kidF code.length (d' - popI op + pushI op) ⟨dm1, wk1, er1⟩ (n) = some ⟨dm1, wk1, er1 || decide (d2 ≠ d' - popI op + pushI op)⟩ := by unfold kidF; rw [if_neg hge]; simp only; rw [hdk]
     obtain ⟨q1, q2, q3⟩ := kidF_ok f2 hk0 ⟨by simp only; omega, by simp only; omega⟩ hkf
     rw [hkf] at hF
     simp only at hF
     conv => whnf
     rw [decide_eq_true (show (j : Int) < ((2 : Nat) : Int) by omega)]
     conv => whnf
     refine ⟨show (0 : Int) ≤ (j : Int) ∧ (j : Int) < ((2 : Nat) : Int) from ⟨by omega, by omega⟩, ?_⟩
     conv => whnf
     (generalize hrq : rowOf _ _ ([A.v (.int .i64 (a + 1)), A.v (.int .i64 n)]) = rq; obtain rfl : rq = [intA (n)] := hrq.symm.trans ((by rw [hj0]; unfold rowOf; rfl)); clear hrq; conv => whnf)
     rw [decide_eq_false hge]
     conv => whnf
     refine keysK_ints _ ?_
     conv => whnf
     refine mapFind_dm1 hdk ?_
     conv => whnf
     rcases (show d2 = d' - popI op + pushI op ∨ d2 ≠ d' - popI op + pushI op by omega) with heq | heq
     ·rw [decide_eq_true heq]
      rw [decide_eq_false (fun h => h heq), Bool.or_false] at hF q1
      conv => whnf
      refine ⟨show lo .i64 ≤ (j : Int) + 1 ∧ (j : Int) + 1 ≤ hi .i64 from i64r (by omega), ?_⟩
      conv => whnf
      refine ⟨(j + 1, ⟨dm1, wk1, er1⟩), le_selH [0, 1, 2] ?_, ⟨show j + 1 ≤ 2 by omega, q1, show _ + _ = _ + _ by simp only at q2 ⊢; omega, show _ ≤ _ by simp only at q3 ⊢; omega, hF⟩, show 2 - (j + 1) < 2 - j by omega⟩
      conv => whnf
      repeat' constructor
     ·rw [decide_eq_false heq]
      rw [decide_eq_true heq, Bool.or_true] at hF q1
      conv => whnf
      refine ⟨show lo .i64 ≤ (j : Int) + 1 ∧ (j : Int) + 1 ≤ hi .i64 from i64r (by omega), ?_⟩
      conv => whnf
      refine ⟨(j + 1, ⟨dm1, wk1, true⟩), le_selH [0, 1, 2] ?_, ⟨show j + 1 ≤ 2 by omega, q1, show _ + _ = _ + _ by simp only at q2 ⊢; omega, show _ ≤ _ by simp only at q3 ⊢; omega, hF⟩, show 2 - (j + 1) < 2 - j by omega⟩
      conv => whnf
      repeat' constructor
   ·rw [show [a + 1, n].drop j = [] by rw [hj0]; rfl] at hF
    unfold kidsF at hF
    rw [← hF] at hR
    have hdl1 := keys_le f2.rng f2.nd
    simp only at hdl1 hR
    conv => whnf
    rw [decide_eq_false (show ¬ (j : Int) < ((2 : Nat) : Int) by omega)]
    conv => whnf
    refine ⟨(m, ⟨dm1, wk1, er1⟩), le_selH [0, 1] ?_, ⟨f2, show wk1.length + (code.length - dm1.length) + 1 ≤ m by omega, show m ≤ code.length + 1 by omega, hR⟩, show m < m + 1 by omega⟩
    conv => whnf
    repeat' constructor
  rw [decide_eq_false hc3]
  rw [if_neg hc3] at hR hnn
  conv => whnf
  refine ⟨show lo .i64 ≤ a + 1 ∧ a + 1 ≤ hi .i64 from i64r (by omega), ?_⟩
  conv => whnf
  obtain ⟨F, hF⟩ : ∃ F, kidsF code.length (d' - popI op + pushI op) [a + 1] ⟨dm, pre, true⟩ = F := ⟨_, rfl⟩
  rw [hF] at hR
  refine loop_pub [2] ?_
  conv => whnf
  refine loop_keep [2, 5, 6, 8, 12, 88, 89] ?_
  conv => whnf
  refine loop_go (fun x : Nat × Fs => [(7, intA (folE x.2.er)), (90, .v (.int .i64 x.1))]) (fun _ => [pgL code e du vo]) (fun x => flR x.2.dm x.2.wk ++ [.pub 1 1 ([a + 1].map intA)])
   (fun x => x.1 ≤ 1 ∧ FsOk code.length x.2 ∧ x.2.wk.length + dm.length = pre.length + x.2.dm.length ∧ dm.length ≤ x.2.dm.length ∧ kidsF code.length (d' - popI op + pushI op) ([a + 1].drop x.1) x.2 = F) (fun x => 1 - x.1) (0, ⟨dm, pre, true⟩) ?_ ⟨Nat.zero_le _, ⟨g1.rng, g1.nd, fun k hk => g1.wk k (List.mem_append_left _ hk), g1.dep⟩, rfl, Nat.le_refl _, hF⟩ ?_
  ·repeat' constructor
  clear hF
  rintro ⟨j, dm1, wk1, er1⟩ ⟨f1, f2, f3, f4, hF⟩
  simp only at f1 f2 f3 f4 hF
  rcases (show j = 0 ∨ j = 1 by omega) with hj0 | hj0
  ·have hdr : [a + 1].drop j = (a + 1) :: [a + 1].drop (j + 1) := by rw [hj0]; rfl
   rw [hdr] at hF
   unfold kidsF at hF
   have hk0 : 0 ≤ a + 1 := hnn _ (by simp)
   have hdl1 := keys_le f2.rng f2.nd
   simp only at hdl1
   by_cases hge : (code.length : Int) ≤ a + 1
   ·unfold kidF at hF
    rw [if_pos hge] at hF
    rw [← hF] at hR
    conv => whnf
    rw [decide_eq_true (show (j : Int) < ((1 : Nat) : Int) by omega)]
    conv => whnf
    refine ⟨show (0 : Int) ≤ (j : Int) ∧ (j : Int) < ((1 : Nat) : Int) from ⟨by omega, by omega⟩, ?_⟩
    conv => whnf
    (generalize hrq : rowOf _ _ ([A.v (.int .i64 (a + 1))]) = rq; obtain rfl : rq = [intA (a + 1)] := hrq.symm.trans ((by rw [hj0]; unfold rowOf; rfl)); clear hrq; conv => whnf)
    rw [decide_eq_true hge]
    conv => whnf
    rw [← hR]; rfl
   rcases opt_cases (dF dm1 (a + 1)) with hdk | ⟨d2, hdk⟩
   ·have hkf : kidF code.length (d' - popI op + pushI op) ⟨dm1, wk1, er1⟩ (a + 1) = some ⟨dm1 ++ [(a + 1, d' - popI op + pushI op)], wk1 ++ [a + 1], er1⟩ := by unfold kidF; rw [if_neg hge]; simp only; rw [hdk]
    obtain ⟨q1, q2, q3⟩ := kidF_ok f2 hk0 ⟨by simp only; omega, by simp only; omega⟩ hkf
    rw [hkf] at hF
    simp only at hF
    conv => whnf
    rw [decide_eq_true (show (j : Int) < ((1 : Nat) : Int) by omega)]
    conv => whnf
    refine ⟨show (0 : Int) ≤ (j : Int) ∧ (j : Int) < ((1 : Nat) : Int) from ⟨by omega, by omega⟩, ?_⟩
    conv => whnf
    (generalize hrq : rowOf _ _ ([A.v (.int .i64 (a + 1))]) = rq; obtain rfl : rq = [intA (a + 1)] := hrq.symm.trans ((by rw [hj0]; unfold rowOf; rfl)); clear hrq; conv => whnf)
    rw [decide_eq_false hge]
    conv => whnf
    refine keysK_ints _ ?_
    conv => whnf
    refine mapFind_dm0 hdk ?_
    conv => whnf
    refine insK_dm hdk ?_
    conv => whnf
    refine ⟨⟨show wk1.length + 1 ≤ maxLen by unfold maxLen; omega, show (wk1.length + 1) * 8 ≤ 140737488355328 by omega⟩, ?_⟩
    conv => whnf
    refine ⟨show lo .i64 ≤ (j : Int) + 1 ∧ (j : Int) + 1 ≤ hi .i64 from i64r (by omega), ?_⟩
    conv => whnf
    refine ⟨(j + 1, ⟨dm1 ++ [(a + 1, d' - popI op + pushI op)], wk1 ++ [a + 1], er1⟩), le_selH [0, 1, 2] ?_, ⟨show j + 1 ≤ 1 by omega, q1, show _ + _ = _ + _ by simp only at q2 ⊢; omega, show _ ≤ _ by simp only at q3 ⊢; omega, hF⟩, show 1 - (j + 1) < 1 - j by omega⟩
    conv => whnf
    repeat' constructor
    ·exact row_dm _ _ _ _
    ·exact row_wk _ _ _
   ·have hkf : kidF code.length (d' - popI op + pushI op) ⟨dm1, wk1, er1⟩ (a + 1) = some ⟨dm1, wk1, er1 || decide (d2 ≠ d' - popI op + pushI op)⟩ := by unfold kidF; rw [if_neg hge]; simp only; rw [hdk]
    obtain ⟨q1, q2, q3⟩ := kidF_ok f2 hk0 ⟨by simp only; omega, by simp only; omega⟩ hkf
    rw [hkf] at hF
    simp only at hF
    conv => whnf
    rw [decide_eq_true (show (j : Int) < ((1 : Nat) : Int) by omega)]
    conv => whnf
    refine ⟨show (0 : Int) ≤ (j : Int) ∧ (j : Int) < ((1 : Nat) : Int) from ⟨by omega, by omega⟩, ?_⟩
    conv => whnf
    (generalize hrq : rowOf _ _ ([A.v (.int .i64 (a + 1))]) = rq; obtain rfl : rq = [intA (a + 1)] := hrq.symm.trans ((by rw [hj0]; unfold rowOf; rfl)); clear hrq; conv => whnf)
    rw [decide_eq_false hge]
    conv => whnf
    refine keysK_ints _ ?_
    conv => whnf
    refine mapFind_dm1 hdk ?_
    conv => whnf
    rcases (show d2 = d' - popI op + pushI op ∨ d2 ≠ d' - popI op + pushI op by omega) with heq | heq
    ·rw [decide_eq_true heq]
     rw [decide_eq_false (fun h => h heq), Bool.or_false] at hF q1
     conv => whnf
     refine ⟨show lo .i64 ≤ (j : Int) + 1 ∧ (j : Int) + 1 ≤ hi .i64 from i64r (by omega), ?_⟩
     conv => whnf
     refine ⟨(j + 1, ⟨dm1, wk1, er1⟩), le_selH [0, 1, 2] ?_, ⟨show j + 1 ≤ 1 by omega, q1, show _ + _ = _ + _ by simp only at q2 ⊢; omega, show _ ≤ _ by simp only at q3 ⊢; omega, hF⟩, show 1 - (j + 1) < 1 - j by omega⟩
     conv => whnf
     repeat' constructor
    ·rw [decide_eq_false heq]
     rw [decide_eq_true heq, Bool.or_true] at hF q1
     conv => whnf
     refine ⟨show lo .i64 ≤ (j : Int) + 1 ∧ (j : Int) + 1 ≤ hi .i64 from i64r (by omega), ?_⟩
     conv => whnf
     refine ⟨(j + 1, ⟨dm1, wk1, true⟩), le_selH [0, 1, 2] ?_, ⟨show j + 1 ≤ 1 by omega, q1, show _ + _ = _ + _ by simp only at q2 ⊢; omega, show _ ≤ _ by simp only at q3 ⊢; omega, hF⟩, show 1 - (j + 1) < 1 - j by omega⟩
     conv => whnf
     repeat' constructor
  ·rw [show [a + 1].drop j = [] by rw [hj0]; rfl] at hF
   unfold kidsF at hF
   rw [← hF] at hR
   have hdl1 := keys_le f2.rng f2.nd
   simp only at hdl1 hR
   conv => whnf
   rw [decide_eq_false (show ¬ (j : Int) < ((1 : Nat) : Int) by omega)]
   conv => whnf
   refine ⟨(m, ⟨dm1, wk1, er1⟩), le_selH [0, 1] ?_, ⟨f2, show wk1.length + (code.length - dm1.length) + 1 ≤ m by omega, show m ≤ code.length + 1 by omega, hR⟩, show m < m + 1 by omega⟩
   conv => whnf
   repeat' constructor
 rw [decide_eq_false hb2] at hR ⊢
 rw [Bool.or_self, Bool.or_false] at hR
 conv => whnf
 unfold nxI at hR hnn
 simp only at hR hnn
 by_cases hc1 : op = 23
 ·rw [decide_eq_true hc1]
  rw [if_pos hc1] at hR hnn
  unfold kidsF at hR
  have hF := hR
  simp only at hF
  conv => whnf
  refine loop_keep [2, 5, 6, 7, 8, 88, 89, 90] ?_
  conv => whnf
  refine loop_go (fun _ : Unit => []) (fun _ => [pgL code e du vo]) (fun _ => flR dm pre) (fun _ => True) (fun _ => 0) () ?_ trivial ?_
  ·repeat' constructor
  rintro ⟨⟩ -
  conv => whnf
  refine ⟨(m, ⟨dm, pre, er⟩), le_selH [0, 1] ?_, ⟨⟨g1.rng, g1.nd, fun k hk => g1.wk k (List.mem_append_left _ hk), g1.dep⟩, show pre.length + (code.length - dm.length) + 1 ≤ m by omega, show m ≤ code.length + 1 by omega, hF⟩, show m < m + 1 by omega⟩
  conv => whnf
  repeat' constructor
 rw [decide_eq_false hc1]
 rw [if_neg hc1] at hR hnn
 conv => whnf
 by_cases hc2 : op = 15
 ·rw [decide_eq_true hc2]
  rw [if_pos hc2] at hR hnn
  conv => whnf
  obtain ⟨F, hF⟩ : ∃ F, kidsF code.length (d' - popI op + pushI op) [n] ⟨dm, pre, er⟩ = F := ⟨_, rfl⟩
  rw [hF] at hR
  refine loop_pub [2] ?_
  conv => whnf
  refine loop_keep [2, 5, 6, 8, 12, 88, 89] ?_
  conv => whnf
  refine loop_go (fun x : Nat × Fs => [(7, intA (folE x.2.er)), (90, .v (.int .i64 x.1))]) (fun _ => [pgL code e du vo]) (fun x => flR x.2.dm x.2.wk ++ [.pub 1 1 ([n].map intA)])
   (fun x => x.1 ≤ 1 ∧ FsOk code.length x.2 ∧ x.2.wk.length + dm.length = pre.length + x.2.dm.length ∧ dm.length ≤ x.2.dm.length ∧ kidsF code.length (d' - popI op + pushI op) ([n].drop x.1) x.2 = F) (fun x => 1 - x.1) (0, ⟨dm, pre, er⟩) ?_ ⟨Nat.zero_le _, ⟨g1.rng, g1.nd, fun k hk => g1.wk k (List.mem_append_left _ hk), g1.dep⟩, rfl, Nat.le_refl _, hF⟩ ?_
  ·repeat' constructor
  clear hF
  rintro ⟨j, dm1, wk1, er1⟩ ⟨f1, f2, f3, f4, hF⟩
  simp only at f1 f2 f3 f4 hF
  rcases (show j = 0 ∨ j = 1 by omega) with hj0 | hj0
  ·have hdr : [n].drop j = (n) :: [n].drop (j + 1) := by rw [hj0]; rfl
   rw [hdr] at hF
   unfold kidsF at hF
   have hk0 : 0 ≤ n := hnn _ (by simp)
   have hdl1 := keys_le f2.rng f2.nd
   simp only at hdl1
   by_cases hge : (code.length : Int) ≤ n
   ·unfold kidF at hF
    rw [if_pos hge] at hF
    rw [← hF] at hR
    conv => whnf
    rw [decide_eq_true (show (j : Int) < ((1 : Nat) : Int) by omega)]
    conv => whnf
    refine ⟨show (0 : Int) ≤ (j : Int) ∧ (j : Int) < ((1 : Nat) : Int) from ⟨by omega, by omega⟩, ?_⟩
    conv => whnf
    (generalize hrq : rowOf _ _ ([A.v (.int .i64 n)]) = rq; obtain rfl : rq = [intA (n)] := hrq.symm.trans ((by rw [hj0]; unfold rowOf; rfl)); clear hrq; conv => whnf)
    rw [decide_eq_true hge]
    conv => whnf
    rw [← hR]; rfl
   rcases opt_cases (dF dm1 (n)) with hdk | ⟨d2, hdk⟩
   ·have hkf : kidF code.length (d' - popI op + pushI op) ⟨dm1, wk1, er1⟩ (n) = some ⟨dm1 ++ [(n, d' - popI op + pushI op)], wk1 ++ [n], er1⟩ := by unfold kidF; rw [if_neg hge]; simp only; rw [hdk]
    obtain ⟨q1, q2, q3⟩ := kidF_ok f2 hk0 ⟨by simp only; omega, by simp only; omega⟩ hkf
    rw [hkf] at hF
    simp only at hF
    conv => whnf
    rw [decide_eq_true (show (j : Int) < ((1 : Nat) : Int) by omega)]
    conv => whnf
    refine ⟨show (0 : Int) ≤ (j : Int) ∧ (j : Int) < ((1 : Nat) : Int) from ⟨by omega, by omega⟩, ?_⟩
    conv => whnf
    (generalize hrq : rowOf _ _ ([A.v (.int .i64 n)]) = rq; obtain rfl : rq = [intA (n)] := hrq.symm.trans ((by rw [hj0]; unfold rowOf; rfl)); clear hrq; conv => whnf)
    rw [decide_eq_false hge]
    conv => whnf
    refine keysK_ints _ ?_
    conv => whnf
    refine mapFind_dm0 hdk ?_
    conv => whnf
    refine insK_dm hdk ?_
    conv => whnf
    refine ⟨⟨show wk1.length + 1 ≤ maxLen by unfold maxLen; omega, show (wk1.length + 1) * 8 ≤ 140737488355328 by omega⟩, ?_⟩
    conv => whnf
    refine ⟨show lo .i64 ≤ (j : Int) + 1 ∧ (j : Int) + 1 ≤ hi .i64 from i64r (by omega), ?_⟩
    conv => whnf
    refine ⟨(j + 1, ⟨dm1 ++ [(n, d' - popI op + pushI op)], wk1 ++ [n], er1⟩), le_selH [0, 1, 2] ?_, ⟨show j + 1 ≤ 1 by omega, q1, show _ + _ = _ + _ by simp only at q2 ⊢; omega, show _ ≤ _ by simp only at q3 ⊢; omega, hF⟩, show 1 - (j + 1) < 1 - j by omega⟩
    conv => whnf
    repeat' constructor
    ·exact row_dm _ _ _ _
    ·exact row_wk _ _ _
   ·have hkf : kidF code.length (d' - popI op + pushI op) ⟨dm1, wk1, er1⟩ (n) = some ⟨dm1, wk1, er1 || decide (d2 ≠ d' - popI op + pushI op)⟩ := by unfold kidF; rw [if_neg hge]; simp only; rw [hdk]
    obtain ⟨q1, q2, q3⟩ := kidF_ok f2 hk0 ⟨by simp only; omega, by simp only; omega⟩ hkf
    rw [hkf] at hF
    simp only at hF
    conv => whnf
    rw [decide_eq_true (show (j : Int) < ((1 : Nat) : Int) by omega)]
    conv => whnf
    refine ⟨show (0 : Int) ≤ (j : Int) ∧ (j : Int) < ((1 : Nat) : Int) from ⟨by omega, by omega⟩, ?_⟩
    conv => whnf
    (generalize hrq : rowOf _ _ ([A.v (.int .i64 n)]) = rq; obtain rfl : rq = [intA (n)] := hrq.symm.trans ((by rw [hj0]; unfold rowOf; rfl)); clear hrq; conv => whnf)
    rw [decide_eq_false hge]
    conv => whnf
    refine keysK_ints _ ?_
    conv => whnf
    refine mapFind_dm1 hdk ?_
    conv => whnf
    rcases (show d2 = d' - popI op + pushI op ∨ d2 ≠ d' - popI op + pushI op by omega) with heq | heq
    ·rw [decide_eq_true heq]
     rw [decide_eq_false (fun h => h heq), Bool.or_false] at hF q1
     conv => whnf
     refine ⟨show lo .i64 ≤ (j : Int) + 1 ∧ (j : Int) + 1 ≤ hi .i64 from i64r (by omega), ?_⟩
     conv => whnf
     refine ⟨(j + 1, ⟨dm1, wk1, er1⟩), le_selH [0, 1, 2] ?_, ⟨show j + 1 ≤ 1 by omega, q1, show _ + _ = _ + _ by simp only at q2 ⊢; omega, show _ ≤ _ by simp only at q3 ⊢; omega, hF⟩, show 1 - (j + 1) < 1 - j by omega⟩
     conv => whnf
     repeat' constructor
    ·rw [decide_eq_false heq]
     rw [decide_eq_true heq, Bool.or_true] at hF q1
     conv => whnf
     refine ⟨show lo .i64 ≤ (j : Int) + 1 ∧ (j : Int) + 1 ≤ hi .i64 from i64r (by omega), ?_⟩
     conv => whnf
     refine ⟨(j + 1, ⟨dm1, wk1, true⟩), le_selH [0, 1, 2] ?_, ⟨show j + 1 ≤ 1 by omega, q1, show _ + _ = _ + _ by simp only at q2 ⊢; omega, show _ ≤ _ by simp only at q3 ⊢; omega, hF⟩, show 1 - (j + 1) < 1 - j by omega⟩
     conv => whnf
     repeat' constructor
  ·rw [show [n].drop j = [] by rw [hj0]; rfl] at hF
   unfold kidsF at hF
   rw [← hF] at hR
   have hdl1 := keys_le f2.rng f2.nd
   simp only at hdl1 hR
   conv => whnf
   rw [decide_eq_false (show ¬ (j : Int) < ((1 : Nat) : Int) by omega)]
   conv => whnf
   refine ⟨(m, ⟨dm1, wk1, er1⟩), le_selH [0, 1] ?_, ⟨f2, show wk1.length + (code.length - dm1.length) + 1 ≤ m by omega, show m ≤ code.length + 1 by omega, hR⟩, show m < m + 1 by omega⟩
   conv => whnf
   repeat' constructor
 rw [decide_eq_false hc2]
 rw [if_neg hc2] at hR hnn
 conv => whnf
 by_cases hc3 : op = 16
 ·rw [decide_eq_true hc3]
  rw [if_pos hc3] at hR hnn
  conv => whnf
  refine ⟨show lo .i64 ≤ a + 1 ∧ a + 1 ≤ hi .i64 from i64r (by omega), ?_⟩
  conv => whnf
  obtain ⟨F, hF⟩ : ∃ F, kidsF code.length (d' - popI op + pushI op) [a + 1, n] ⟨dm, pre, er⟩ = F := ⟨_, rfl⟩
  rw [hF] at hR
  refine loop_pub [2] ?_
  conv => whnf
  refine loop_keep [2, 5, 6, 8, 12, 88, 89] ?_
  conv => whnf
  refine loop_go (fun x : Nat × Fs => [(7, intA (folE x.2.er)), (90, .v (.int .i64 x.1))]) (fun _ => [pgL code e du vo]) (fun x => flR x.2.dm x.2.wk ++ [.pub 1 2 ([a + 1, n].map intA)])
   (fun x => x.1 ≤ 2 ∧ FsOk code.length x.2 ∧ x.2.wk.length + dm.length = pre.length + x.2.dm.length ∧ dm.length ≤ x.2.dm.length ∧ kidsF code.length (d' - popI op + pushI op) ([a + 1, n].drop x.1) x.2 = F) (fun x => 2 - x.1) (0, ⟨dm, pre, er⟩) ?_ ⟨Nat.zero_le _, ⟨g1.rng, g1.nd, fun k hk => g1.wk k (List.mem_append_left _ hk), g1.dep⟩, rfl, Nat.le_refl _, hF⟩ ?_
  ·repeat' constructor
  clear hF
  rintro ⟨j, dm1, wk1, er1⟩ ⟨f1, f2, f3, f4, hF⟩
  simp only at f1 f2 f3 f4 hF
  rcases (show j = 0 ∨ j = 1 ∨ j = 2 by omega) with hj0 | hj0 | hj0
  ·have hdr : [a + 1, n].drop j = (a + 1) :: [a + 1, n].drop (j + 1) := by rw [hj0]; rfl
   rw [hdr] at hF
   unfold kidsF at hF
   have hk0 : 0 ≤ a + 1 := hnn _ (by simp)
   have hdl1 := keys_le f2.rng f2.nd
   simp only at hdl1
   by_cases hge : (code.length : Int) ≤ a + 1
   ·unfold kidF at hF
    rw [if_pos hge] at hF
    rw [← hF] at hR
    conv => whnf
    rw [decide_eq_true (show (j : Int) < ((2 : Nat) : Int) by omega)]
    conv => whnf
    refine ⟨show (0 : Int) ≤ (j : Int) ∧ (j : Int) < ((2 : Nat) : Int) from ⟨by omega, by omega⟩, ?_⟩
    conv => whnf
    (generalize hrq : rowOf _ _ ([A.v (.int .i64 (a + 1)), A.v (.int .i64 n)]) = rq; obtain rfl : rq = [intA (a + 1)] := hrq.symm.trans ((by rw [hj0]; unfold rowOf; rfl)); clear hrq; conv => whnf)
    rw [decide_eq_true hge]
    conv => whnf
    rw [← hR]; rfl
   rcases opt_cases (dF dm1 (a + 1)) with hdk | ⟨d2, hdk⟩
   ·have hkf : kidF code.length (d' - popI op + pushI op) ⟨dm1, wk1, er1⟩ (a + 1) = some ⟨dm1 ++ [(a + 1, d' - popI op + pushI op)], wk1 ++ [a + 1], er1⟩ := by unfold kidF; rw [if_neg hge]; simp only; rw [hdk]
    obtain ⟨q1, q2, q3⟩ := kidF_ok f2 hk0 ⟨by simp only; omega, by simp only; omega⟩ hkf
    rw [hkf] at hF
    simp only at hF
    conv => whnf
    rw [decide_eq_true (show (j : Int) < ((2 : Nat) : Int) by omega)]
    conv => whnf
    refine ⟨show (0 : Int) ≤ (j : Int) ∧ (j : Int) < ((2 : Nat) : Int) from ⟨by omega, by omega⟩, ?_⟩
    conv => whnf
    (generalize hrq : rowOf _ _ ([A.v (.int .i64 (a + 1)), A.v (.int .i64 n)]) = rq; obtain rfl : rq = [intA (a + 1)] := hrq.symm.trans ((by rw [hj0]; unfold rowOf; rfl)); clear hrq; conv => whnf)
    rw [decide_eq_false hge]
    conv => whnf
    refine keysK_ints _ ?_
    conv => whnf
    refine mapFind_dm0 hdk ?_
    conv => whnf
    refine insK_dm hdk ?_
    conv => whnf
    refine ⟨⟨show wk1.length + 1 ≤ maxLen by unfold maxLen; omega, show (wk1.length + 1) * 8 ≤ 140737488355328 by omega⟩, ?_⟩
    conv => whnf
    refine ⟨show lo .i64 ≤ (j : Int) + 1 ∧ (j : Int) + 1 ≤ hi .i64 from i64r (by omega), ?_⟩
    conv => whnf
    refine ⟨(j + 1, ⟨dm1 ++ [(a + 1, d' - popI op + pushI op)], wk1 ++ [a + 1], er1⟩), le_selH [0, 1, 2] ?_, ⟨show j + 1 ≤ 2 by omega, q1, show _ + _ = _ + _ by simp only at q2 ⊢; omega, show _ ≤ _ by simp only at q3 ⊢; omega, hF⟩, show 2 - (j + 1) < 2 - j by omega⟩
    conv => whnf
    repeat' constructor
    ·exact row_dm _ _ _ _
    ·exact row_wk _ _ _
   ·have hkf : kidF code.length (d' - popI op + pushI op) ⟨dm1, wk1, er1⟩ (a + 1) = some ⟨dm1, wk1, er1 || decide (d2 ≠ d' - popI op + pushI op)⟩ := by unfold kidF; rw [if_neg hge]; simp only; rw [hdk]
    obtain ⟨q1, q2, q3⟩ := kidF_ok f2 hk0 ⟨by simp only; omega, by simp only; omega⟩ hkf
    rw [hkf] at hF
    simp only at hF
    conv => whnf
    rw [decide_eq_true (show (j : Int) < ((2 : Nat) : Int) by omega)]
    conv => whnf
    refine ⟨show (0 : Int) ≤ (j : Int) ∧ (j : Int) < ((2 : Nat) : Int) from ⟨by omega, by omega⟩, ?_⟩
    conv => whnf
    (generalize hrq : rowOf _ _ ([A.v (.int .i64 (a + 1)), A.v (.int .i64 n)]) = rq; obtain rfl : rq = [intA (a + 1)] := hrq.symm.trans ((by rw [hj0]; unfold rowOf; rfl)); clear hrq; conv => whnf)
    rw [decide_eq_false hge]
    conv => whnf
    refine keysK_ints _ ?_
    conv => whnf
    refine mapFind_dm1 hdk ?_
    conv => whnf
    rcases (show d2 = d' - popI op + pushI op ∨ d2 ≠ d' - popI op + pushI op by omega) with heq | heq
    ·rw [decide_eq_true heq]
     rw [decide_eq_false (fun h => h heq), Bool.or_false] at hF q1
     conv => whnf
     refine ⟨show lo .i64 ≤ (j : Int) + 1 ∧ (j : Int) + 1 ≤ hi .i64 from i64r (by omega), ?_⟩
     conv => whnf
     refine ⟨(j + 1, ⟨dm1, wk1, er1⟩), le_selH [0, 1, 2] ?_, ⟨show j + 1 ≤ 2 by omega, q1, show _ + _ = _ + _ by simp only at q2 ⊢; omega, show _ ≤ _ by simp only at q3 ⊢; omega, hF⟩, show 2 - (j + 1) < 2 - j by omega⟩
     conv => whnf
     repeat' constructor
    ·rw [decide_eq_false heq]
     rw [decide_eq_true heq, Bool.or_true] at hF q1
     conv => whnf
     refine ⟨show lo .i64 ≤ (j : Int) + 1 ∧ (j : Int) + 1 ≤ hi .i64 from i64r (by omega), ?_⟩
     conv => whnf
     refine ⟨(j + 1, ⟨dm1, wk1, true⟩), le_selH [0, 1, 2] ?_, ⟨show j + 1 ≤ 2 by omega, q1, show _ + _ = _ + _ by simp only at q2 ⊢; omega, show _ ≤ _ by simp only at q3 ⊢; omega, hF⟩, show 2 - (j + 1) < 2 - j by omega⟩
     conv => whnf
     repeat' constructor
  ·have hdr : [a + 1, n].drop j = (n) :: [a + 1, n].drop (j + 1) := by rw [hj0]; rfl
   rw [hdr] at hF
   unfold kidsF at hF
   have hk0 : 0 ≤ n := hnn _ (by simp)
   have hdl1 := keys_le f2.rng f2.nd
   simp only at hdl1
   by_cases hge : (code.length : Int) ≤ n
   ·unfold kidF at hF
    rw [if_pos hge] at hF
    rw [← hF] at hR
    conv => whnf
    rw [decide_eq_true (show (j : Int) < ((2 : Nat) : Int) by omega)]
    conv => whnf
    refine ⟨show (0 : Int) ≤ (j : Int) ∧ (j : Int) < ((2 : Nat) : Int) from ⟨by omega, by omega⟩, ?_⟩
    conv => whnf
    (generalize hrq : rowOf _ _ ([A.v (.int .i64 (a + 1)), A.v (.int .i64 n)]) = rq; obtain rfl : rq = [intA (n)] := hrq.symm.trans ((by rw [hj0]; unfold rowOf; rfl)); clear hrq; conv => whnf)
    rw [decide_eq_true hge]
    conv => whnf
    rw [← hR]; rfl
   rcases opt_cases (dF dm1 (n)) with hdk | ⟨d2, hdk⟩
   ·have hkf : kidF code.length (d' - popI op + pushI op) ⟨dm1, wk1, er1⟩ (n) = some ⟨dm1 ++ [(n, d' - popI op + pushI op)], wk1 ++ [n], er1⟩ := by unfold kidF; rw [if_neg hge]; simp only; rw [hdk]
    obtain ⟨q1, q2, q3⟩ := kidF_ok f2 hk0 ⟨by simp only; omega, by simp only; omega⟩ hkf
    rw [hkf] at hF
    simp only at hF
    conv => whnf
    rw [decide_eq_true (show (j : Int) < ((2 : Nat) : Int) by omega)]
    conv => whnf
    refine ⟨show (0 : Int) ≤ (j : Int) ∧ (j : Int) < ((2 : Nat) : Int) from ⟨by omega, by omega⟩, ?_⟩
    conv => whnf
    (generalize hrq : rowOf _ _ ([A.v (.int .i64 (a + 1)), A.v (.int .i64 n)]) = rq; obtain rfl : rq = [intA (n)] := hrq.symm.trans ((by rw [hj0]; unfold rowOf; rfl)); clear hrq; conv => whnf)
    rw [decide_eq_false hge]
    conv => whnf
    refine keysK_ints _ ?_
    conv => whnf
    refine mapFind_dm0 hdk ?_
    conv => whnf
    refine insK_dm hdk ?_
    conv => whnf
    refine ⟨⟨show wk1.length + 1 ≤ maxLen by unfold maxLen; omega, show (wk1.length + 1) * 8 ≤ 140737488355328 by omega⟩, ?_⟩
    conv => whnf
    refine ⟨show lo .i64 ≤ (j : Int) + 1 ∧ (j : Int) + 1 ≤ hi .i64 from i64r (by omega), ?_⟩
    conv => whnf
    refine ⟨(j + 1, ⟨dm1 ++ [(n, d' - popI op + pushI op)], wk1 ++ [n], er1⟩), le_selH [0, 1, 2] ?_, ⟨show j + 1 ≤ 2 by omega, q1, show _ + _ = _ + _ by simp only at q2 ⊢; omega, show _ ≤ _ by simp only at q3 ⊢; omega, hF⟩, show 2 - (j + 1) < 2 - j by omega⟩
    conv => whnf
    repeat' constructor
    ·exact row_dm _ _ _ _
    ·exact row_wk _ _ _
   ·have hkf : kidF code.length (d' - popI op + pushI op) ⟨dm1, wk1, er1⟩ (n) = some ⟨dm1, wk1, er1 || decide (d2 ≠ d' - popI op + pushI op)⟩ := by unfold kidF; rw [if_neg hge]; simp only; rw [hdk]
    obtain ⟨q1, q2, q3⟩ := kidF_ok f2 hk0 ⟨by simp only; omega, by simp only; omega⟩ hkf
    rw [hkf] at hF
    simp only at hF
    conv => whnf
    rw [decide_eq_true (show (j : Int) < ((2 : Nat) : Int) by omega)]
    conv => whnf
    refine ⟨show (0 : Int) ≤ (j : Int) ∧ (j : Int) < ((2 : Nat) : Int) from ⟨by omega, by omega⟩, ?_⟩
    conv => whnf
    (generalize hrq : rowOf _ _ ([A.v (.int .i64 (a + 1)), A.v (.int .i64 n)]) = rq; obtain rfl : rq = [intA (n)] := hrq.symm.trans ((by rw [hj0]; unfold rowOf; rfl)); clear hrq; conv => whnf)
    rw [decide_eq_false hge]
    conv => whnf
    refine keysK_ints _ ?_
    conv => whnf
    refine mapFind_dm1 hdk ?_
    conv => whnf
    rcases (show d2 = d' - popI op + pushI op ∨ d2 ≠ d' - popI op + pushI op by omega) with heq | heq
    ·rw [decide_eq_true heq]
     rw [decide_eq_false (fun h => h heq), Bool.or_false] at hF q1
     conv => whnf
     refine ⟨show lo .i64 ≤ (j : Int) + 1 ∧ (j : Int) + 1 ≤ hi .i64 from i64r (by omega), ?_⟩
     conv => whnf
     refine ⟨(j + 1, ⟨dm1, wk1, er1⟩), le_selH [0, 1, 2] ?_, ⟨show j + 1 ≤ 2 by omega, q1, show _ + _ = _ + _ by simp only at q2 ⊢; omega, show _ ≤ _ by simp only at q3 ⊢; omega, hF⟩, show 2 - (j + 1) < 2 - j by omega⟩
     conv => whnf
     repeat' constructor
    ·rw [decide_eq_false heq]
     rw [decide_eq_true heq, Bool.or_true] at hF q1
     conv => whnf
     refine ⟨show lo .i64 ≤ (j : Int) + 1 ∧ (j : Int) + 1 ≤ hi .i64 from i64r (by omega), ?_⟩
     conv => whnf
     refine ⟨(j + 1, ⟨dm1, wk1, true⟩), le_selH [0, 1, 2] ?_, ⟨show j + 1 ≤ 2 by omega, q1, show _ + _ = _ + _ by simp only at q2 ⊢; omega, show _ ≤ _ by simp only at q3 ⊢; omega, hF⟩, show 2 - (j + 1) < 2 - j by omega⟩
     conv => whnf
     repeat' constructor
  ·rw [show [a + 1, n].drop j = [] by rw [hj0]; rfl] at hF
   unfold kidsF at hF
   rw [← hF] at hR
   have hdl1 := keys_le f2.rng f2.nd
   simp only at hdl1 hR
   conv => whnf
   rw [decide_eq_false (show ¬ (j : Int) < ((2 : Nat) : Int) by omega)]
   conv => whnf
   refine ⟨(m, ⟨dm1, wk1, er1⟩), le_selH [0, 1] ?_, ⟨f2, show wk1.length + (code.length - dm1.length) + 1 ≤ m by omega, show m ≤ code.length + 1 by omega, hR⟩, show m < m + 1 by omega⟩
   conv => whnf
   repeat' constructor
 rw [decide_eq_false hc3]
 rw [if_neg hc3] at hR hnn
 conv => whnf
 refine ⟨show lo .i64 ≤ a + 1 ∧ a + 1 ≤ hi .i64 from i64r (by omega), ?_⟩
 conv => whnf
 obtain ⟨F, hF⟩ : ∃ F, kidsF code.length (d' - popI op + pushI op) [a + 1] ⟨dm, pre, er⟩ = F := ⟨_, rfl⟩
 rw [hF] at hR
 refine loop_pub [2] ?_
 conv => whnf
 refine loop_keep [2, 5, 6, 8, 12, 88, 89] ?_
 conv => whnf
 refine loop_go (fun x : Nat × Fs => [(7, intA (folE x.2.er)), (90, .v (.int .i64 x.1))]) (fun _ => [pgL code e du vo]) (fun x => flR x.2.dm x.2.wk ++ [.pub 1 1 ([a + 1].map intA)])
  (fun x => x.1 ≤ 1 ∧ FsOk code.length x.2 ∧ x.2.wk.length + dm.length = pre.length + x.2.dm.length ∧ dm.length ≤ x.2.dm.length ∧ kidsF code.length (d' - popI op + pushI op) ([a + 1].drop x.1) x.2 = F) (fun x => 1 - x.1) (0, ⟨dm, pre, er⟩) ?_ ⟨Nat.zero_le _, ⟨g1.rng, g1.nd, fun k hk => g1.wk k (List.mem_append_left _ hk), g1.dep⟩, rfl, Nat.le_refl _, hF⟩ ?_
 ·repeat' constructor
 clear hF
 rintro ⟨j, dm1, wk1, er1⟩ ⟨f1, f2, f3, f4, hF⟩
 simp only at f1 f2 f3 f4 hF
 rcases (show j = 0 ∨ j = 1 by omega) with hj0 | hj0
 ·have hdr : [a + 1].drop j = (a + 1) :: [a + 1].drop (j + 1) := by rw [hj0]; rfl
  rw [hdr] at hF
  unfold kidsF at hF
  have hk0 : 0 ≤ a + 1 := hnn _ (by simp)
  have hdl1 := keys_le f2.rng f2.nd
  simp only at hdl1
  by_cases hge : (code.length : Int) ≤ a + 1
  ·unfold kidF at hF
   rw [if_pos hge] at hF
   rw [← hF] at hR
   conv => whnf
   rw [decide_eq_true (show (j : Int) < ((1 : Nat) : Int) by omega)]
   conv => whnf
   refine ⟨show (0 : Int) ≤ (j : Int) ∧ (j : Int) < ((1 : Nat) : Int) from ⟨by omega, by omega⟩, ?_⟩
   conv => whnf
   (generalize hrq : rowOf _ _ ([A.v (.int .i64 (a + 1))]) = rq; obtain rfl : rq = [intA (a + 1)] := hrq.symm.trans ((by rw [hj0]; unfold rowOf; rfl)); clear hrq; conv => whnf)
   rw [decide_eq_true hge]
   conv => whnf
   rw [← hR]; rfl
  rcases opt_cases (dF dm1 (a + 1)) with hdk | ⟨d2, hdk⟩
  ·have hkf : kidF code.length (d' - popI op + pushI op) ⟨dm1, wk1, er1⟩ (a + 1) = some ⟨dm1 ++ [(a + 1, d' - popI op + pushI op)], wk1 ++ [a + 1], er1⟩ := by unfold kidF; rw [if_neg hge]; simp only; rw [hdk]
   obtain ⟨q1, q2, q3⟩ := kidF_ok f2 hk0 ⟨by simp only; omega, by simp only; omega⟩ hkf
   rw [hkf] at hF
   simp only at hF
   conv => whnf
   rw [decide_eq_true (show (j : Int) < ((1 : Nat) : Int) by omega)]
   conv => whnf
   refine ⟨show (0 : Int) ≤ (j : Int) ∧ (j : Int) < ((1 : Nat) : Int) from ⟨by omega, by omega⟩, ?_⟩
   conv => whnf
   (generalize hrq : rowOf _ _ ([A.v (.int .i64 (a + 1))]) = rq; obtain rfl : rq = [intA (a + 1)] := hrq.symm.trans ((by rw [hj0]; unfold rowOf; rfl)); clear hrq; conv => whnf)
   rw [decide_eq_false hge]
   conv => whnf
   refine keysK_ints _ ?_
   conv => whnf
   refine mapFind_dm0 hdk ?_
   conv => whnf
   refine insK_dm hdk ?_
   conv => whnf
   refine ⟨⟨show wk1.length + 1 ≤ maxLen by unfold maxLen; omega, show (wk1.length + 1) * 8 ≤ 140737488355328 by omega⟩, ?_⟩
   conv => whnf
   refine ⟨show lo .i64 ≤ (j : Int) + 1 ∧ (j : Int) + 1 ≤ hi .i64 from i64r (by omega), ?_⟩
   conv => whnf
   refine ⟨(j + 1, ⟨dm1 ++ [(a + 1, d' - popI op + pushI op)], wk1 ++ [a + 1], er1⟩), le_selH [0, 1, 2] ?_, ⟨show j + 1 ≤ 1 by omega, q1, show _ + _ = _ + _ by simp only at q2 ⊢; omega, show _ ≤ _ by simp only at q3 ⊢; omega, hF⟩, show 1 - (j + 1) < 1 - j by omega⟩
   conv => whnf
   repeat' constructor
   ·exact row_dm _ _ _ _
   ·exact row_wk _ _ _
  ·have hkf : kidF code.length (d' - popI op + pushI op) ⟨dm1, wk1, er1⟩ (a + 1) = some ⟨dm1, wk1, er1 || decide (d2 ≠ d' - popI op + pushI op)⟩ := by unfold kidF; rw [if_neg hge]; simp only; rw [hdk]
   obtain ⟨q1, q2, q3⟩ := kidF_ok f2 hk0 ⟨by simp only; omega, by simp only; omega⟩ hkf
   rw [hkf] at hF
   simp only at hF
   conv => whnf
   rw [decide_eq_true (show (j : Int) < ((1 : Nat) : Int) by omega)]
   conv => whnf
   refine ⟨show (0 : Int) ≤ (j : Int) ∧ (j : Int) < ((1 : Nat) : Int) from ⟨by omega, by omega⟩, ?_⟩
   conv => whnf
   (generalize hrq : rowOf _ _ ([A.v (.int .i64 (a + 1))]) = rq; obtain rfl : rq = [intA (a + 1)] := hrq.symm.trans ((by rw [hj0]; unfold rowOf; rfl)); clear hrq; conv => whnf)
   rw [decide_eq_false hge]
   conv => whnf
   refine keysK_ints _ ?_
   conv => whnf
   refine mapFind_dm1 hdk ?_
   conv => whnf
   rcases (show d2 = d' - popI op + pushI op ∨ d2 ≠ d' - popI op + pushI op by omega) with heq | heq
   ·rw [decide_eq_true heq]
    rw [decide_eq_false (fun h => h heq), Bool.or_false] at hF q1
    conv => whnf
    refine ⟨show lo .i64 ≤ (j : Int) + 1 ∧ (j : Int) + 1 ≤ hi .i64 from i64r (by omega), ?_⟩
    conv => whnf
    refine ⟨(j + 1, ⟨dm1, wk1, er1⟩), le_selH [0, 1, 2] ?_, ⟨show j + 1 ≤ 1 by omega, q1, show _ + _ = _ + _ by simp only at q2 ⊢; omega, show _ ≤ _ by simp only at q3 ⊢; omega, hF⟩, show 1 - (j + 1) < 1 - j by omega⟩
    conv => whnf
    repeat' constructor
   ·rw [decide_eq_false heq]
    rw [decide_eq_true heq, Bool.or_true] at hF q1
    conv => whnf
    refine ⟨show lo .i64 ≤ (j : Int) + 1 ∧ (j : Int) + 1 ≤ hi .i64 from i64r (by omega), ?_⟩
    conv => whnf
    refine ⟨(j + 1, ⟨dm1, wk1, true⟩), le_selH [0, 1, 2] ?_, ⟨show j + 1 ≤ 1 by omega, q1, show _ + _ = _ + _ by simp only at q2 ⊢; omega, show _ ≤ _ by simp only at q3 ⊢; omega, hF⟩, show 1 - (j + 1) < 1 - j by omega⟩
    conv => whnf
    repeat' constructor
 ·rw [show [a + 1].drop j = [] by rw [hj0]; rfl] at hF
  unfold kidsF at hF
  rw [← hF] at hR
  have hdl1 := keys_le f2.rng f2.nd
  simp only at hdl1 hR
  conv => whnf
  rw [decide_eq_false (show ¬ (j : Int) < ((1 : Nat) : Int) by omega)]
  conv => whnf
  refine ⟨(m, ⟨dm1, wk1, er1⟩), le_selH [0, 1] ?_, ⟨f2, show wk1.length + (code.length - dm1.length) + 1 ≤ m by omega, show m ≤ code.length + 1 by omega, hR⟩, show m < m + 1 by omega⟩
  conv => whnf
  repeat' constructor
end Go.Proofs.YtfbifdccmabdbaaGreatDoor.Vm
namespace Go.Proofs.YtfbifdccmabdbaaGreatDoor.Vm
open Go.RowKit Go.Shelf
set_option linter.unusedSimpArgs false
set_option linter.unusedVariables false
set_option maxRecDepth 100000
def enL (e : Nat → Int) : List A := (List.range 40).map fun j => intA (e j)
theorem en_get (e : Nat → Int) (j : Nat) (hj : j < 40) : (enL e)[((j : Int)).toNat * 1]? = some (intA (e j)) := by
 rw [Int.toNat_natCast, Nat.mul_one]
 unfold enL
 rw [List.getElem?_map, List.getElem?_range hj]
 rfl
theorem same_refl (c : List Ic) (e : Nat → Int) (du vo : Int) (hl : c.length ≤ 1000000) : Spec Tryz.prog 16 [] [pgA c e du vo, pgA c e du vo] fun _ r => r = boolA true := by
 refine spec_of (cx_ok ord16 xs0 0) (fun _ _ h => h) Tryz.func16 rfl (by kernel_rfl) rfl (by kernel_rfl) ?_
 intro _
 conv => whnf
 refine ⟨by kernel_rfl, ?_⟩
 conv => whnf
 generalize hq : (decide (e 0 = e 0) && _) = b
 obtain rfl : b = true := by rw [← hq]; simp
 clear hq
 conv => whnf
 rw [decide_eq_true (rfl : du = du)]
 conv => whnf
 rw [decide_eq_true (rfl : vo = vo)]
 conv => whnf
 rw [decide_eq_true (rfl : (c.length : Int) = c.length)]
 conv => whnf
 refine loop_keep [2, 3] ?_
 conv => whnf
 refine loop_go (fun j : Nat => [(5, .v (.int .i64 j))]) (fun _ => [pgL c e du vo, pgL c e du vo]) (fun _ => []) (fun j => j ≤ c.length) (fun j => c.length - j) 0 ?_ (by omega) ?_
 ·repeat' constructor
 intro j hj
 conv => whnf
 rcases Nat.lt_or_ge j c.length with hlt | hge
 ·have hrow : rowOf 2 j (icsA c) = icA c[j] := rowOf_ics c j hlt
  generalize c[j] = i at hrow
  obtain ⟨op, n⟩ := i
  unfold icA at hrow
  simp only at hrow
  rw [decide_eq_true (show (j : Int) < (c.length : Int) by omega)]
  conv => whnf
  refine ⟨show (0 : Int) ≤ (j : Int) ∧ (j : Int) < (c.length : Nat) from ⟨by omega, by omega⟩, ?_⟩
  conv => whnf
  (generalize hrq : rowOf _ _ (icsA c) = rq; obtain rfl : rq = [intA op, intA n] := hrq.symm.trans (hrow); clear hrq; conv => whnf)
  refine ⟨show (0 : Int) ≤ (j : Int) ∧ (j : Int) < (c.length : Nat) from ⟨by omega, by omega⟩, ?_⟩
  conv => whnf
  (generalize hrq : rowOf _ _ (icsA c) = rq; obtain rfl : rq = [intA op, intA n] := hrq.symm.trans (hrow); clear hrq; conv => whnf)
  refine ⟨by kernel_rfl, ?_⟩
  conv => whnf
  generalize hq : (decide (op = op) && _) = b
  obtain rfl : b = true := by rw [← hq]; simp
  clear hq
  conv => whnf
  refine ⟨show lo .i64 ≤ (j : Int) + 1 ∧ (j : Int) + 1 ≤ hi .i64 from i64r (by omega), ?_⟩
  conv => whnf
  refine ⟨j + 1, le_selH [] ?_, show j + 1 ≤ c.length by omega, show c.length - (j + 1) < c.length - j by omega⟩
  conv => whnf
  repeat' constructor
 rw [decide_eq_false (show ¬ (j : Int) < (c.length : Int) by omega)]
 conv => whnf
 rfl
end Go.Proofs.YtfbifdccmabdbaaGreatDoor.Vm
namespace Go.Proofs.YtfbifdccmabdbaaGreatDoor.Vm
open Go.RowKit Go.Shelf
set_option linter.unusedSimpArgs false
set_option linter.unusedVariables false
set_option maxRecDepth 100000
theorem mapFind_sh2 (v l k : Int) {K : A → Prop} {n : Prop} (h : match (shL v l).find? (fun p => decide (k = p.1)) with | some p => K (shA p.2) | none => n) : mapFind false (mkV (shP v l)) (mvA (shP v l)) (.int .i64 k) K n := by
 refine mapFind_ints _ _ ?_
 have e : findP (shP v l) k = ((shL v l).find? fun p => decide (k = p.1)).map fun p => shA p.2 := by
  unfold findP shP
  rw [List.find?_map]
  show ((((shL v l).find? fun p => decide (k = p.1)).map _).map _) = _
  cases (shL v l).find? fun p => decide (k = p.1) <;> rfl
 rw [e]
 revert h
 cases (shL v l).find? fun p => decide (k = p.1) <;> exact id
theorem okI_op {v l : Int} {i : Ic} (h : okI v l i = true) : (1 ≤ i.1 ∧ i.1 ≤ 23) ∧ (i.1 = 15 ∨ i.1 = 16 → 0 ≤ i.2) := by
 unfold okI at h
 rcases opt_cases ((shL v l).find? fun p => decide (i.1 = p.1)) with hf | ⟨p, hf⟩
 ·rw [hf] at h; cases h
 rw [hf] at h
 have hk := List.find?_some hf
 have hm := List.mem_of_find?_eq_some hf
 simp only [decide_eq_true_eq] at hk
 simp only [Bool.and_eq_true, decide_eq_true_eq] at h
 obtain ⟨a, b⟩ := i
 simp only at hk h ⊢
 subst hk
 unfold shL at hm
 simp only [List.mem_cons, List.not_mem_nil, or_false] at hm
 rcases hm with rfl | rfl | rfl | rfl | rfl | rfl | rfl | rfl | rfl | rfl | rfl | rfl | rfl | rfl | rfl | rfl | rfl | rfl | rfl | rfl | rfl | rfl | rfl
 all_goals (simp only at h ⊢; omega)
theorem allE_get (p : Int → Bool) (e : Nat → Int) : ∀ (m j : Nat), allE p e j m = true → ∀ i, j ≤ i → i < j + m → p (e i) = true
 | 0, j, h, i, h1, h2 => by omega
 | m + 1, j, h, i, h1, h2 => by
  unfold allE at h
  rw [Bool.and_eq_true] at h
  by_cases q : i = j
  ·rw [q]; exact h.1
  ·exact allE_get p e m (j + 1) h.2 i (by omega) (by omega)
theorem verify_spec (code : List Ic) (e : Nat → Int) (du vo : Int) (hl : code.length ≤ 1000000) : Spec Tryz.prog 25 [] [pgA code e du vo] fun _ r => r = intA (verF code e du vo) := by
 obtain ⟨R, hR⟩ : ∃ R, verF code e du vo = R := ⟨_, rfl⟩
 rw [hR]
 unfold verF at hR
 refine spec_of (cx_ok ord0 xs0 0) (fun _ _ h => h) Tryz.func25 rfl (by kernel_rfl) rfl (by kernel_rfl) ?_
 intro _
 conv => whnf
 by_cases h0 : 400 < code.length
 ·rw [decide_eq_true (show (400 : Int) < (code.length : Int) by omega)]
  rw [if_pos h0] at hR
  conv => whnf
  rw [← hR]; rfl
 rw [decide_eq_false (show ¬ (400 : Int) < (code.length : Int) by omega)]
 rw [if_neg h0] at hR
 conv => whnf
 by_cases h1 : du < 0
 ·rw [decide_eq_true h1]
  rw [if_pos (.inl h1)] at hR
  conv => whnf
  rw [← hR]; rfl
 rw [decide_eq_false h1]
 conv => whnf
 by_cases h2 : vo < 0
 ·rw [decide_eq_true h2]
  rw [if_pos (.inr (.inl h2))] at hR
  conv => whnf
  rw [← hR]; rfl
 rw [decide_eq_false h2]
 conv => whnf
 by_cases h3 : 16 < du
 ·rw [decide_eq_true h3]
  rw [if_pos (.inr (.inr (.inl h3)))] at hR
  conv => whnf
  rw [← hR]; rfl
 rw [decide_eq_false h3]
 conv => whnf
 refine ⟨i64r (by omega), ?_⟩
 conv => whnf
 by_cases h4 : 16 - du < vo
 ·rw [decide_eq_true h4]
  rw [if_pos (.inr (.inr (.inr h4)))] at hR
  conv => whnf
  rw [← hR]; rfl
 rw [decide_eq_false h4]
 rw [if_neg (by omega)] at hR
 have hsh := shapes_spec code e du vo (by omega) (by omega) hl
 conv => whnf
 refine call0 [] rfl (fun _ => hsh) ?_
 rintro r rfl
 conv => whnf
 refine loop_keep [1, 3, 42, 43] ?_
 conv => whnf
 refine loop_go (fun j : Nat => [(44, .v (.int .i64 j))]) (fun _ => [pgL code e du vo]) (fun _ => []) (fun j => j ≤ code.length ∧ (code.take j).all (okI (du + vo - 1) (code.length - 1)) = true) (fun j => code.length - j) 0 ?_ ⟨Nat.zero_le _, by rw [List.take_zero]; rfl⟩ ?_
 ·repeat' constructor
 rintro j ⟨hj, hall⟩
 conv => whnf
 rcases Nat.lt_or_ge j code.length with hlt | hge
 ·have hrow : rowOf 2 j (icsA code) = icA code[j] := rowOf_ics code j hlt
  have htk : (code.take (j + 1)).all (okI (du + vo - 1) (code.length - 1)) = okI (du + vo - 1) (code.length - 1) code[j] := by
   rw [List.take_succ_eq_append_getElem hlt, List.all_append, hall, Bool.true_and, List.all_cons, List.all_nil, Bool.and_true]
  have hcn : okI (du + vo - 1) (code.length - 1) code[j] = false → R = 12 := fun hb => by
   have h5 : code.all (okI (du + vo - 1) (code.length - 1)) = false := by
    rw [List.all_eq_false]
    exact ⟨code[j], List.getElem_mem hlt, by rw [hb]; simp⟩
   rw [← hR, if_pos h5]
  unfold okI at htk hcn
  generalize code[j] = i at hrow htk hcn
  obtain ⟨op, n⟩ := i
  unfold icA at hrow
  simp only at hrow
  rw [decide_eq_true (show (j : Int) < (code.length : Int) by omega)]
  conv => whnf
  refine ⟨show (0 : Int) ≤ (j : Int) ∧ (j : Int) < (code.length : Nat) from ⟨by omega, by omega⟩, ?_⟩
  conv => whnf
  (generalize hrq : rowOf _ _ (icsA code) = rq; obtain rfl : rq = [intA op, intA n] := hrq.symm.trans (hrow); clear hrq; conv => whnf)
  refine mapFind_sh2 _ _ _ ?_
  rcases opt_cases ((shL (du + vo - 1) (code.length - 1)).find? fun p => decide (op = p.1)) with hf | ⟨⟨pk, po, pu, plo, phi⟩, hf⟩
  ·rw [hf] at hcn ⊢
   have hcn := hcn rfl
   conv => whnf
   rw [hcn]; rfl
  rw [hf] at htk hcn ⊢
  simp only at htk hcn
  conv => whnf
  by_cases hlo : n < plo
  ·rw [decide_eq_true hlo]
   have hcn := hcn (by rw [decide_eq_false (by omega)]; rfl)
   conv => whnf
   rw [hcn]; rfl
  rw [decide_eq_false hlo]
  conv => whnf
  by_cases hhi : phi < n
  ·rw [decide_eq_true hhi]
   have hcn := hcn (by rw [decide_eq_false (show ¬ n ≤ phi by omega), Bool.and_false])
   conv => whnf
   rw [hcn]; rfl
  rw [decide_eq_false hhi]
  conv => whnf
  refine ⟨show lo .i64 ≤ (j : Int) + 1 ∧ (j : Int) + 1 ≤ hi .i64 from i64r (by omega), ?_⟩
  conv => whnf
  refine ⟨j + 1, le_selH [] ?_, ⟨show j + 1 ≤ code.length by omega, htk.trans (by rw [decide_eq_true (show plo ≤ n by omega), decide_eq_true (show n ≤ phi by omega)]; rfl)⟩, show code.length - (j + 1) < code.length - j by omega⟩
  conv => whnf
  repeat' constructor
 rw [decide_eq_false (show ¬ (j : Int) < (code.length : Int) by omega)]
 have hall2 : code.all (okI (du + vo - 1) (code.length - 1)) = true := by
  have := hall
  rw [List.take_of_length_le hge] at this; exact this
 rw [hall2, if_neg (by decide)] at hR
 have hops := fun i hi => okI_op (List.all_eq_true.1 hall2 i hi)
 clear hall
 conv => whnf
 refine loop_keep [1, 73] ?_
 conv => whnf
 refine loop_go (fun j : Nat => [(74, .v (.int .i64 j))]) (fun _ => [pgL code e du vo]) (fun _ => []) (fun j => j ≤ 40 ∧ allE (okEn code.length) e j (40 - j) = allE (okEn code.length) e 0 40) (fun j => 40 - j) 0 ?_ ⟨Nat.zero_le _, rfl⟩ ?_
 ·repeat' constructor
 clear hge hj j
 rintro j ⟨hj, hall⟩
 conv => whnf
 rcases Nat.lt_or_ge j 40 with hlt | hge
 ·rw [decide_eq_true (show (j : Int) < 40 by omega)]
  have hst : allE (okEn code.length) e j (40 - j) = (okEn code.length (e j) && allE (okEn code.length) e (j + 1) (40 - (j + 1))) := by
   rw [show 40 - j = (40 - (j + 1)) + 1 by omega]; rfl
  have hall' : allE (okEn code.length) e j (40 - j) = allE (okEn code.length) e 0 40 := hall
  conv => whnf
  refine ⟨⟨show (0 : Int) ≤ (j : Int) by omega, show (j : Int) < ((40 : Nat) : Int) by omega⟩, intA (e j), en_get e j hlt, ?_⟩
  conv => whnf
  by_cases hlo : e j < -1
  ·rw [decide_eq_true hlo]
   rw [if_pos (by rw [← hall', hst]; unfold okEn; rw [decide_eq_false (show ¬ -1 ≤ e j by omega)]; rfl)] at hR
   conv => whnf
   rw [← hR]; rfl
  rw [decide_eq_false hlo]
  conv => whnf
  by_cases hhi : (code.length : Int) ≤ e j
  ·rw [decide_eq_true hhi]
   rw [if_pos (by rw [← hall', hst]; unfold okEn; rw [decide_eq_false (show ¬ e j < code.length by omega), Bool.and_false]; rfl)] at hR
   conv => whnf
   rw [← hR]; rfl
  rw [decide_eq_false hhi]
  conv => whnf
  refine ⟨show lo .i64 ≤ (j : Int) + 1 ∧ (j : Int) + 1 ≤ hi .i64 from i64r (by omega), ?_⟩
  conv => whnf
  refine ⟨j + 1, le_selH [] ?_, ⟨show j + 1 ≤ 40 by omega, ?_⟩, show 40 - (j + 1) < 40 - j by omega⟩
  ·conv => whnf
   repeat' constructor
  ·show allE (okEn code.length) e (j + 1) (40 - (j + 1)) = _
   rw [← hall', hst]
   unfold okEn
   rw [decide_eq_true (show -1 ≤ e j by omega), decide_eq_true (show e j < code.length by omega)]; rfl
 obtain rfl : j = 40 := by omega
 have hall2 : allE (okEn code.length) e 0 40 = true := by
  have : allE (okEn code.length) e 40 (40 - 40) = allE (okEn code.length) e 0 40 := hall
  rw [← this]; rfl
 rw [decide_eq_false (show ¬ ((40 : Nat) : Int) < 40 by omega)]
 rw [hall2, if_neg (by decide)] at hR
 have hent := allE_get _ _ _ _ hall2
 clear hall hge hj
 conv => whnf
 refine loop_keep [1, 88] ?_
 conv => whnf
 refine loop_go (fun x : Nat × Int => [(10, intA x.2), (89, .v (.int .i64 x.1))]) (fun _ => [pgL code e du vo]) (fun _ => []) (fun x => x.1 ≤ 40 ∧ verE code e x.1 (40 - x.1) x.2 = R) (fun x => 40 - x.1) (0, 0) ?_ ⟨Nat.zero_le _, hR⟩ ?_
 ·repeat' constructor
 rintro ⟨j, q⟩ ⟨hj, hv⟩
 simp only at hj hv
 conv => whnf
 rcases Nat.lt_or_ge j 40 with hlt | hge
 ·rw [decide_eq_true (show (j : Int) < 40 by omega)]
  rw [show 40 - j = (40 - (j + 1)) + 1 by omega] at hv
  unfold verE at hv
  have hq := hent j (by omega) (by omega)
  unfold okEn at hq
  rw [Bool.and_eq_true, decide_eq_true_eq, decide_eq_true_eq] at hq
  have hfo := follow_spec code e du vo (e j) (by omega) (by omega) hl (fun i hi => (hops i hi).2) (fun i hi => (hops i hi).1) hq.2
  conv => whnf
  refine ⟨⟨show (0 : Int) ≤ (j : Int) by omega, show (j : Int) < ((40 : Nat) : Int) by omega⟩, intA (e j), en_get e j hlt, ?_⟩
  conv => whnf
  refine call0 [] rfl (fun _ => hfo) ?_
  rintro r rfl
  generalize followF code (e j) = f at hv
  conv => whnf
  by_cases h12 : f = 12
  ·rw [decide_eq_true h12]
   rw [if_pos h12] at hv
   conv => whnf
   rw [← hv, ← h12]; rfl
  rw [decide_eq_false h12]
  rw [if_neg h12] at hv
  conv => whnf
  by_cases h13 : f = 13
  ·rw [decide_eq_true h13]
   rw [if_pos h13] at hv
   conv => whnf
   refine ⟨show lo .i64 ≤ (j : Int) + 1 ∧ (j : Int) + 1 ≤ hi .i64 from i64r (by omega), ?_⟩
   conv => whnf
   refine ⟨(j + 1, 13), le_selH [] ?_, ⟨show j + 1 ≤ 40 by omega, hv⟩, show 40 - (j + 1) < 40 - j by omega⟩
   conv => whnf
   repeat' constructor
   rw [h13]
  rw [decide_eq_false h13]
  rw [if_neg h13] at hv
  conv => whnf
  refine ⟨show lo .i64 ≤ (j : Int) + 1 ∧ (j : Int) + 1 ≤ hi .i64 from i64r (by omega), ?_⟩
  conv => whnf
  refine ⟨(j + 1, q), le_selH [] ?_, ⟨show j + 1 ≤ 40 by omega, hv⟩, show 40 - (j + 1) < 40 - j by omega⟩
  conv => whnf
  repeat' constructor
 obtain rfl : j = 40 := by omega
 rw [decide_eq_false (show ¬ ((40 : Nat) : Int) < 40 by omega)]
 conv => whnf
 rw [← hv]; rfl
end Go.Proofs.YtfbifdccmabdbaaGreatDoor.Vm
namespace Go.Proofs.YtfbifdccmabdbaaGreatDoor.Vm
open Go.RowKit
set_option linter.unusedSimpArgs false
set_option linter.unusedVariables false
section
variable {w0 : W0} {C0 : Rd} {β0 : List Nat} {bx : List (List A)} {rw : List Row} {w : World} {E : Env}
end
section
variable {P : Program} {pan : List PanicEntry → S → Prop} {Xr : Nat → Bool} {f : Nat} {s : S} {K : A → S → Prop} {post : List A → A → Prop}
end
end Go.Proofs.YtfbifdccmabdbaaGreatDoor.Vm
namespace Go.Proofs.YtfbifdccmabdbaaGreatDoor.Vm
open Go.RowKit Go.Shelf
set_option linter.unusedSimpArgs false
set_option linter.unusedVariables false
set_option maxRecDepth 100000
def cbx (u : Ut) : List A := utA u ++ [.own 0]
abbrev SpecC (f : Nat) (ins : List (List A)) (l : List Ic) (args : List A) (post : List (List A) → List Ic → A → Prop) : Prop :=
 SpecR Tryz.prog f ins 52 2 l.length (icsA l) args fun o n cs r => ∃ l', n = l'.length ∧ cs = icsA l' ∧ post o l' r
theorem emit_spec (u : Ut) (l : List Ic) (op n : Int) (hl : l.length ≤ 1000000) : SpecC 40 [cbx u] l [.box 0 0, intA op, intA n] fun o l' r => o = [cbx u] ∧ l' = l ++ [(op, n)] ∧ r = intA l.length := by
 refine specR_of (cx_ok ord0 xs0 1) (fun _ _ h => h) Tryz.func40 rfl (by kernel_rfl) rfl (by kernel_rfl) ?_
 intro _
 conv => whnf
 refine ⟨⟨by unfold maxLen; omega, by omega⟩, ?_⟩
 conv => whnf
 refine ⟨i64r (by omega), ?_⟩
 conv => whnf
 refine ⟨0, ?_⟩
 conv => whnf
 refine ⟨l ++ [(op, n)], by rw [List.length_append]; rfl, ?_, rfl, rfl, ?_⟩
 ·rw [icsA_snoc]; rfl
 ·show intA (((l.length + 1 : Nat) : Int) - 1) = intA l.length
  congr 1; omega
theorem icsA_cons (a : Ic) (l : List Ic) : icsA (a :: l) = icA a ++ icsA l := by rw [icsA_flat, List.flatMap_cons, icsA_flat]
theorem icsA_set : ∀ (l : List Ic) (k : Nat) (hk : k < l.length) (v : Int), (icsA l).set (k * 2 + 1) (intA v) = icsA (l.set k (l[k].1, v))
 | [], k, hk, v => by simp at hk
 | a :: l, 0, hk, v => by rw [List.set_cons_zero, icsA_cons, icsA_cons]; rfl
 | a :: l, k + 1, hk, v => by
  rw [List.set_cons_succ, icsA_cons, icsA_cons]
  have h := icsA_set l k (by simpa using hk) v
  rw [show (k + 1) * 2 + 1 = k * 2 + 1 + 2 by omega]
  show intA a.1 :: intA a.2 :: (icsA l).set (k * 2 + 1) (intA v) = _
  rw [h]
  rfl
end Go.Proofs.YtfbifdccmabdbaaGreatDoor.Vm
namespace Go.Proofs.YtfbifdccmabdbaaGreatDoor.Vm
open Go.RowKit Go.Shelf
set_option linter.unusedSimpArgs false
set_option linter.unusedVariables false
set_option maxRecDepth 100000
mutual
def szN : Nt → Nat
 | .mk _ _ _ kids => 3 + szNs kids
def szNs : List Nt → Nat
 | [] => 0
 | f :: l => szN f + szNs l
end
theorem seqC_snoc : ∀ (l : List (Int → List Ic)) (g : Int → List Ic) (at' : Int), seqC (l ++ [g]) at' = seqC l at' ++ g (at' + (seqC l at').length)
 | [], g, at' => by
  show g at' ++ [] = [] ++ g (at' + ((0 : Nat) : Int))
  rw [List.append_nil, List.nil_append, show at' + ((0 : Nat) : Int) = at' by omega]
 | h :: l, g, at' => by
  show h at' ++ seqC (l ++ [g]) _ = (h at' ++ seqC l _) ++ g _
  rw [seqC_snoc l g, List.append_assoc]
  congr 3
  show _ = at' + ((h at' ++ seqC l _).length : Int)
  rw [List.length_append]
  omega
def NodeE (u : Ut) (f : Nt) : Prop := (∀ at' : Int, (codeN (ixU u) f at').length ≤ szN f) ∧ ∀ l : List Ic, l.length + szN f ≤ 1000000 → SpecC 39 [cbx u] l [.box 0 0, .agg (ntA f)] fun o l' r => o = [cbx u] ∧ l' = l ++ codeN (ixU u) f l.length ∧ r = .tup []
theorem szNs_take : ∀ (l : List Nt) (j : Nat) (h : j < l.length), szNs (l.take j) + szN l[j] ≤ szNs l
 | [], j, h => by simp at h
 | f :: l, 0, h => by show 0 + szN f ≤ szN f + szNs l; omega
 | f :: l, j + 1, h => by
  have hj : j < l.length := by simpa using h
  have := szNs_take l j hj
  show szN f + szNs (l.take j) + szN (l[j]'hj) ≤ szN f + szNs l
  omega
theorem seq_size {u : Ut} : ∀ (l : List Nt) (at' : Int), (∀ f ∈ l, NodeE u f) → (seqC (codeNs (ixU u) l) at').length ≤ szNs l
 | [], at', _ => Nat.zero_le _
 | f :: l, at', h => by
  show (codeN (ixU u) f at' ++ seqC (codeNs (ixU u) l) _).length ≤ szN f + szNs l
  rw [List.length_append]
  have h1 := (h f List.mem_cons_self).1 at'
  have h2 := seq_size l (at' + (codeN (ixU u) f at').length) fun g hg => h g (List.mem_cons_of_mem _ hg)
  omega
theorem kids_spec (u : Ut) (k n : Int) (s : ByteArray) (kids : List Nt) (hm : kids.length ≤ 3002) (hf : ∀ f ∈ kids, NodeE u f) (l : List Ic) (hl : l.length + szNs kids ≤ 1000000) : SpecC 80 [cbx u] l [.box 0 0, .agg (ntA (.mk k n s kids))] fun o l' r => o = [cbx u] ∧ l' = l ++ seqC (codeNs (ixU u) kids) l.length ∧ r = .tup [] := by
 obtain ⟨S, hS⟩ : ∃ S : Nat → List Ic, ∀ j, S j = l ++ seqC (codeNs (ixU u) (kids.take j)) l.length := ⟨_, fun _ => rfl⟩
 have hS0 : S 0 = l := by rw [hS]; exact List.append_nil l
 have hSl : l ++ seqC (codeNs (ixU u) kids) l.length = S kids.length := by rw [hS, List.take_length]
 have hSn : ∀ j (h : j < kids.length), S (j + 1) = S j ++ codeN (ixU u) kids[j] (S j).length := fun j h => by
  rw [hS, hS, List.take_succ_eq_append_getElem h, codeNs_map, codeNs_map, List.map_append]
  show l ++ seqC (_ ++ [codeN (ixU u) kids[j]]) _ = _
  rw [seqC_snoc, List.append_assoc, List.length_append]
  congr 3
 have hSz : ∀ j (h : j < kids.length), (S j).length + szN kids[j] ≤ 1000000 := fun j h => by
  rw [hS, List.length_append]
  have h1 := seq_size (kids.take j) l.length fun f hf' => hf f (List.mem_of_mem_take hf')
  have h2 := szNs_take kids j h
  omega
 rw [hSl, ← hS0]
 simp only [ntA, Nt.k, Nt.n, Nt.s, Nt.kids]
 refine specR_of (cx_ok ord0 xs0 1) (fun _ _ h => h) Tryz.func80 rfl (by kernel_rfl) rfl (by kernel_rfl) ?_
 intro _
 conv => whnf
 refine loop_keep [0, 7, 8] ?_
 conv => whnf
 refine loop_go (fun j : Nat => [(9, .v (.int .i64 j))]) (fun _ => [cbx u, [intA k, intA n, strA s, .sl 4 kids.length (ntsA kids)]]) (fun j => [.live 52 2 (S j).length (icsA (S j))]) (fun j => j ≤ kids.length) (fun j => kids.length - j) 0 ?_ (Nat.zero_le _) ?_
 ·repeat' constructor
 rintro j hj
 conv => whnf
 by_cases hlt : j < kids.length
 ·rw [decide_eq_true (show (j : Int) < (kids.length : Int) by omega)]
  have hrow := rowOf_nts kids j hlt
  have hSn := hSn j hlt
  have hSz := hSz j hlt
  have hg := hf _ (List.getElem_mem hlt)
  generalize kids[j] = g at *
  have hx := hg.2 (S j) hSz
  generalize hcd : codeN (ixU u) g (S j).length = y at *
  conv => whnf
  refine ⟨by omega, ?_⟩
  conv => whnf
  (generalize hrq : rowOf _ _ (ntsA kids) = rq; obtain rfl : rq = ntA g := hrq.symm.trans (hrow); clear hrq; conv => whnf)
  refine callR1 0 0 1 [] rfl rfl rfl rfl rfl rfl rfl (fun _ => hx) ?_
  rintro o n' cs' r ⟨s4, rfl, rfl, ho, hs4, rfl⟩
  cases ho
  conv => whnf
  refine ⟨i64r (by omega), ?_⟩
  conv => whnf
  refine ⟨j + 1, le_selH [1] ?_, hlt, by omega⟩
  conv => whnf
  rw [hs4, show S (j + 1) = _ from hSn]
  repeat' constructor
 ·rw [decide_eq_false (show ¬ (j : Int) < (kids.length : Int) by omega)]
  conv => whnf
  obtain rfl : j = kids.length := by omega
  refine ⟨0, ?_⟩
  conv => whnf
  exact ⟨_, rfl, rfl, rfl, rfl, rfl⟩
end Go.Proofs.YtfbifdccmabdbaaGreatDoor.Vm
namespace Go.Proofs.YtfbifdccmabdbaaGreatDoor.Vm
open Go.RowKit Go.Shelf
set_option linter.unusedSimpArgs false
set_option linter.unusedVariables false
set_option maxRecDepth 100000
theorem cbuiltin (s : ByteArray) (h : (builtL.any fun x => decide (s = x)) = true) : Spec Tryz.prog 122 [] [strA s] fun _ r => r = intA (biF s) := by
 have h : s ∈ builtL := by
  rw [List.any_eq_true] at h
  obtain ⟨x, h1, h2⟩ := h
  rw [decide_eq_true_eq] at h2
  rw [h2]; exact h1
 unfold builtL at h
 simp only [List.mem_cons, List.not_mem_nil, or_false] at h
 rcases h with rfl | rfl | rfl | rfl | rfl | rfl | rfl | rfl | rfl
 all_goals
  refine spec_of (cx_ok ord0 xs0 0) (fun _ _ h => h) Tryz.func122 rfl (by kernel_rfl) rfl (by kernel_rfl) ?_
  intro _
  conv => whnf
  rfl
def leafI (ix : ByteArray → Int) (k n : Int) (s : ByteArray) : Ic :=
 if k = 12 ∨ k = 13 then (1, n) else if k = 14 then (2, ix s) else if k = 15 then (4, biF s) else if k = 1 then (3, ix s)
 else if k = 4 then (17, n) else if k = 5 then (18, n) else if k = 6 then (19, n) else if k = 16 then (5, 0) else if k = 7 then (20, 0)
 else if k = 10 then (23, 0) else if k = 8 then (21, 0) else (22, 0)
def ordLf (id : Nat) : Tr := match Nat.beq id 8 with | true => .q 0 3 (.q 1 3 (.q 2 3 (.q 3 3 (.q 5 3 (.q 6 0 (.alt 4 1 (.alt 7 1 (.alt 8 2 (.nil) (.nil)) (.nil)) (.nil))))))) | false => match Nat.beq id 12 with | true => .q 0 3 (.q 1 3 (.q 2 3 (.q 3 3 (.q 5 3 (.q 6 0 (.alt 4 1 (.alt 7 1 (.alt 8 2 (.nil) (.nil)) (.nil)) (.nil))))))) | false => .nil
theorem leaf_spec (u : Ut) (hu : WfU u) (k n : Int) (s : ByteArray) (kids : List Nt) (hm : kids.length ≤ 3002) (hf : ∀ f ∈ kids, NodeE u f) (hc : k = 12 ∨ k = 13 ∨ k = 14 ∨ k = 15 ∧ (builtL.any fun x => decide (s = x)) = true ∨ k = 1 ∨ k = 4 ∨ k = 5 ∨ k = 6 ∨ k = 16 ∨ k = 7 ∨ k = 10 ∨ k = 8 ∨ k = 9) (l : List Ic) (hl : l.length + szNs kids + 1 ≤ 1000000) : SpecC 81 [cbx u] l [.box 0 0, .agg (ntA (.mk k n s kids))] fun o l' r => o = [cbx u] ∧ l' = l ++ seqC (codeNs (ixU u) kids) l.length ++ [leafI (ixU u) k n s] ∧ r = .tup [] := by
 have hk := kids_spec u k n s kids hm hf l (by omega)
 simp only [ntA, Nt.k, Nt.n, Nt.s, Nt.kids] at hk
 have hz := seq_size (u := u) kids l.length hf
 have hem := fun (l : List Ic) (op n : Int) (h : l.length ≤ 1000000) => emit_spec u l op n h
 have hix := tindex u hu s
 generalize seqC (codeNs (ixU u) kids) l.length = y at *
 have hly : (l ++ y).length ≤ 999999 := by rw [List.length_append]; omega
 generalize l ++ y = l3 at *
 rcases hc with rfl | rfl | rfl | ⟨rfl, hb⟩ | rfl | rfl | rfl | rfl | rfl | rfl | rfl | rfl | rfl
 ·simp only [ntA, Nt.k, Nt.n, Nt.s, Nt.kids]
  refine specR_of (cx_ok ordLf (fun _ => [0]) 1) (fun _ _ h => h) Tryz.func81 rfl (by kernel_rfl) rfl (by kernel_rfl) ?_
  intro _
  conv => whnf
  refine callR1 0 0 1 [] rfl rfl rfl rfl rfl rfl rfl (fun _ => hk) ?_
  rintro o n' cs' r ⟨l2, rfl, rfl, ho, hl2, rfl⟩
  cases ho
  conv => whnf
  subst hl2
  refine callR1 0 1 2 [] rfl rfl rfl rfl rfl rfl rfl (fun _ => hem l2 1 n (by omega)) ?_
  rintro o n' cs' r ⟨l4, rfl, rfl, ho, hl4, rfl⟩
  cases ho
  conv => whnf
  refine ⟨2, ?_⟩
  conv => whnf
  exact ⟨l4, rfl, rfl, rfl, by rw [hl4]; rfl, rfl⟩
 ·simp only [ntA, Nt.k, Nt.n, Nt.s, Nt.kids]
  refine specR_of (cx_ok ordLf (fun _ => [0]) 1) (fun _ _ h => h) Tryz.func81 rfl (by kernel_rfl) rfl (by kernel_rfl) ?_
  intro _
  conv => whnf
  refine callR1 0 0 1 [] rfl rfl rfl rfl rfl rfl rfl (fun _ => hk) ?_
  rintro o n' cs' r ⟨l2, rfl, rfl, ho, hl2, rfl⟩
  cases ho
  conv => whnf
  subst hl2
  refine callR1 0 1 2 [] rfl rfl rfl rfl rfl rfl rfl (fun _ => hem l2 1 n (by omega)) ?_
  rintro o n' cs' r ⟨l4, rfl, rfl, ho, hl4, rfl⟩
  cases ho
  conv => whnf
  refine ⟨2, ?_⟩
  conv => whnf
  exact ⟨l4, rfl, rfl, rfl, by rw [hl4]; rfl, rfl⟩
 ·simp only [ntA, Nt.k, Nt.n, Nt.s, Nt.kids]
  refine specR_of (cx_ok ordLf (fun _ => [0]) 1) (fun _ _ h => h) Tryz.func81 rfl (by kernel_rfl) rfl (by kernel_rfl) ?_
  intro _
  conv => whnf
  refine callR1 0 0 1 [] rfl rfl rfl rfl rfl rfl rfl (fun _ => hk) ?_
  rintro o n' cs' r ⟨l2, rfl, rfl, ho, hl2, rfl⟩
  cases ho
  conv => whnf
  subst hl2
  (refine call0 [] rfl (fun _ => hix) ?_; rintro r rfl; conv => whnf)
  refine callR1 0 1 2 [] rfl rfl rfl rfl rfl rfl rfl (fun _ => hem l2 2 (ixU u s) (by omega)) ?_
  rintro o n' cs' r ⟨l4, rfl, rfl, ho, hl4, rfl⟩
  cases ho
  conv => whnf
  refine ⟨2, ?_⟩
  conv => whnf
  exact ⟨l4, rfl, rfl, rfl, by rw [hl4]; rfl, rfl⟩
 ·have hbi := cbuiltin s hb
  simp only [ntA, Nt.k, Nt.n, Nt.s, Nt.kids]
  refine specR_of (cx_ok ordLf (fun _ => [0]) 1) (fun _ _ h => h) Tryz.func81 rfl (by kernel_rfl) rfl (by kernel_rfl) ?_
  intro _
  conv => whnf
  refine callR1 0 0 1 [] rfl rfl rfl rfl rfl rfl rfl (fun _ => hk) ?_
  rintro o n' cs' r ⟨l2, rfl, rfl, ho, hl2, rfl⟩
  cases ho
  conv => whnf
  subst hl2
  (refine call0 [] rfl (fun _ => hbi) ?_; rintro r rfl; conv => whnf)
  refine callR1 0 1 2 [] rfl rfl rfl rfl rfl rfl rfl (fun _ => hem l2 4 (biF s) (by omega)) ?_
  rintro o n' cs' r ⟨l4, rfl, rfl, ho, hl4, rfl⟩
  cases ho
  conv => whnf
  refine ⟨2, ?_⟩
  conv => whnf
  exact ⟨l4, rfl, rfl, rfl, by rw [hl4]; rfl, rfl⟩
 ·simp only [ntA, Nt.k, Nt.n, Nt.s, Nt.kids]
  refine specR_of (cx_ok ordLf (fun _ => [0]) 1) (fun _ _ h => h) Tryz.func81 rfl (by kernel_rfl) rfl (by kernel_rfl) ?_
  intro _
  conv => whnf
  refine callR1 0 0 1 [] rfl rfl rfl rfl rfl rfl rfl (fun _ => hk) ?_
  rintro o n' cs' r ⟨l2, rfl, rfl, ho, hl2, rfl⟩
  cases ho
  conv => whnf
  subst hl2
  (refine call0 [] rfl (fun _ => hix) ?_; rintro r rfl; conv => whnf)
  refine callR1 0 1 2 [] rfl rfl rfl rfl rfl rfl rfl (fun _ => hem l2 3 (ixU u s) (by omega)) ?_
  rintro o n' cs' r ⟨l4, rfl, rfl, ho, hl4, rfl⟩
  cases ho
  conv => whnf
  refine ⟨2, ?_⟩
  conv => whnf
  exact ⟨l4, rfl, rfl, rfl, by rw [hl4]; rfl, rfl⟩
 ·simp only [ntA, Nt.k, Nt.n, Nt.s, Nt.kids]
  refine specR_of (cx_ok ordLf (fun _ => [0]) 1) (fun _ _ h => h) Tryz.func81 rfl (by kernel_rfl) rfl (by kernel_rfl) ?_
  intro _
  conv => whnf
  refine callR1 0 0 1 [] rfl rfl rfl rfl rfl rfl rfl (fun _ => hk) ?_
  rintro o n' cs' r ⟨l2, rfl, rfl, ho, hl2, rfl⟩
  cases ho
  conv => whnf
  subst hl2
  refine callR1 0 1 2 [] rfl rfl rfl rfl rfl rfl rfl (fun _ => hem l2 17 n (by omega)) ?_
  rintro o n' cs' r ⟨l4, rfl, rfl, ho, hl4, rfl⟩
  cases ho
  conv => whnf
  refine ⟨2, ?_⟩
  conv => whnf
  exact ⟨l4, rfl, rfl, rfl, by rw [hl4]; rfl, rfl⟩
 ·simp only [ntA, Nt.k, Nt.n, Nt.s, Nt.kids]
  refine specR_of (cx_ok ordLf (fun _ => [0]) 1) (fun _ _ h => h) Tryz.func81 rfl (by kernel_rfl) rfl (by kernel_rfl) ?_
  intro _
  conv => whnf
  refine callR1 0 0 1 [] rfl rfl rfl rfl rfl rfl rfl (fun _ => hk) ?_
  rintro o n' cs' r ⟨l2, rfl, rfl, ho, hl2, rfl⟩
  cases ho
  conv => whnf
  subst hl2
  refine callR1 0 1 2 [] rfl rfl rfl rfl rfl rfl rfl (fun _ => hem l2 18 n (by omega)) ?_
  rintro o n' cs' r ⟨l4, rfl, rfl, ho, hl4, rfl⟩
  cases ho
  conv => whnf
  refine ⟨2, ?_⟩
  conv => whnf
  exact ⟨l4, rfl, rfl, rfl, by rw [hl4]; rfl, rfl⟩
 ·simp only [ntA, Nt.k, Nt.n, Nt.s, Nt.kids]
  refine specR_of (cx_ok ordLf (fun _ => [0]) 1) (fun _ _ h => h) Tryz.func81 rfl (by kernel_rfl) rfl (by kernel_rfl) ?_
  intro _
  conv => whnf
  refine callR1 0 0 1 [] rfl rfl rfl rfl rfl rfl rfl (fun _ => hk) ?_
  rintro o n' cs' r ⟨l2, rfl, rfl, ho, hl2, rfl⟩
  cases ho
  conv => whnf
  subst hl2
  refine callR1 0 1 2 [] rfl rfl rfl rfl rfl rfl rfl (fun _ => hem l2 19 n (by omega)) ?_
  rintro o n' cs' r ⟨l4, rfl, rfl, ho, hl4, rfl⟩
  cases ho
  conv => whnf
  refine ⟨2, ?_⟩
  conv => whnf
  exact ⟨l4, rfl, rfl, rfl, by rw [hl4]; rfl, rfl⟩
 ·simp only [ntA, Nt.k, Nt.n, Nt.s, Nt.kids]
  refine specR_of (cx_ok ordLf (fun _ => [0]) 1) (fun _ _ h => h) Tryz.func81 rfl (by kernel_rfl) rfl (by kernel_rfl) ?_
  intro _
  conv => whnf
  refine callR1 0 0 1 [] rfl rfl rfl rfl rfl rfl rfl (fun _ => hk) ?_
  rintro o n' cs' r ⟨l2, rfl, rfl, ho, hl2, rfl⟩
  cases ho
  conv => whnf
  subst hl2
  refine callR1 0 1 3 [] rfl rfl rfl rfl rfl rfl rfl (fun _ => hem l2 5 0 (by omega)) ?_
  rintro o n' cs' r ⟨l4, rfl, rfl, ho, hl4, rfl⟩
  cases ho
  conv => whnf
  refine ⟨3, ?_⟩
  conv => whnf
  exact ⟨l4, rfl, rfl, rfl, by rw [hl4]; rfl, rfl⟩
 ·simp only [ntA, Nt.k, Nt.n, Nt.s, Nt.kids]
  refine specR_of (cx_ok ordLf (fun _ => [0]) 1) (fun _ _ h => h) Tryz.func81 rfl (by kernel_rfl) rfl (by kernel_rfl) ?_
  intro _
  conv => whnf
  refine callR1 0 0 1 [] rfl rfl rfl rfl rfl rfl rfl (fun _ => hk) ?_
  rintro o n' cs' r ⟨l2, rfl, rfl, ho, hl2, rfl⟩
  cases ho
  conv => whnf
  subst hl2
  refine callR1 0 1 3 [] rfl rfl rfl rfl rfl rfl rfl (fun _ => hem l2 20 0 (by omega)) ?_
  rintro o n' cs' r ⟨l4, rfl, rfl, ho, hl4, rfl⟩
  cases ho
  conv => whnf
  refine ⟨3, ?_⟩
  conv => whnf
  exact ⟨l4, rfl, rfl, rfl, by rw [hl4]; rfl, rfl⟩
 ·simp only [ntA, Nt.k, Nt.n, Nt.s, Nt.kids]
  refine specR_of (cx_ok ordLf (fun _ => [0]) 1) (fun _ _ h => h) Tryz.func81 rfl (by kernel_rfl) rfl (by kernel_rfl) ?_
  intro _
  conv => whnf
  refine callR1 0 0 1 [] rfl rfl rfl rfl rfl rfl rfl (fun _ => hk) ?_
  rintro o n' cs' r ⟨l2, rfl, rfl, ho, hl2, rfl⟩
  cases ho
  conv => whnf
  subst hl2
  refine callR1 0 1 3 [] rfl rfl rfl rfl rfl rfl rfl (fun _ => hem l2 23 0 (by omega)) ?_
  rintro o n' cs' r ⟨l4, rfl, rfl, ho, hl4, rfl⟩
  cases ho
  conv => whnf
  refine ⟨3, ?_⟩
  conv => whnf
  exact ⟨l4, rfl, rfl, rfl, by rw [hl4]; rfl, rfl⟩
 ·simp only [ntA, Nt.k, Nt.n, Nt.s, Nt.kids]
  refine specR_of (cx_ok ordLf (fun _ => [0]) 1) (fun _ _ h => h) Tryz.func81 rfl (by kernel_rfl) rfl (by kernel_rfl) ?_
  intro _
  conv => whnf
  refine callR1 0 0 1 [] rfl rfl rfl rfl rfl rfl rfl (fun _ => hk) ?_
  rintro o n' cs' r ⟨l2, rfl, rfl, ho, hl2, rfl⟩
  cases ho
  conv => whnf
  subst hl2
  refine callR1 0 1 3 [] rfl rfl rfl rfl rfl rfl rfl (fun _ => hem l2 21 0 (by omega)) ?_
  rintro o n' cs' r ⟨l4, rfl, rfl, ho, hl4, rfl⟩
  cases ho
  conv => whnf
  refine ⟨3, ?_⟩
  conv => whnf
  exact ⟨l4, rfl, rfl, rfl, by rw [hl4]; rfl, rfl⟩
 ·simp only [ntA, Nt.k, Nt.n, Nt.s, Nt.kids]
  refine specR_of (cx_ok ordLf (fun _ => [0]) 1) (fun _ _ h => h) Tryz.func81 rfl (by kernel_rfl) rfl (by kernel_rfl) ?_
  intro _
  conv => whnf
  refine callR1 0 0 1 [] rfl rfl rfl rfl rfl rfl rfl (fun _ => hk) ?_
  rintro o n' cs' r ⟨l2, rfl, rfl, ho, hl2, rfl⟩
  cases ho
  conv => whnf
  subst hl2
  refine callR1 0 1 3 [] rfl rfl rfl rfl rfl rfl rfl (fun _ => hem l2 22 0 (by omega)) ?_
  rintro o n' cs' r ⟨l4, rfl, rfl, ho, hl4, rfl⟩
  cases ho
  conv => whnf
  refine ⟨3, ?_⟩
  conv => whnf
  exact ⟨l4, rfl, rfl, rfl, by rw [hl4]; rfl, rfl⟩
end Go.Proofs.YtfbifdccmabdbaaGreatDoor.Vm
namespace Go.Proofs.YtfbifdccmabdbaaGreatDoor.Vm
open Go.RowKit
set_option linter.unusedSimpArgs false
set_option linter.unusedVariables false
structure SpecRD (P : Program) (f : Nat) (ins : List (List A)) (e k n : Nat) (cs args : List A) (post : List (List A) → Nat → List A → A → Prop) : Prop where
 r : SpecR P f ins e k n cs args post
 d : ∀ u, SpecXR (ClD P f u u) ins e k n cs args post fun _ => False
section
variable {c : Cx} {s : S}
theorem specRD_of {f : Nat} {fn : Func} {x : Code} {ins : List (List A)} {e k n : Nat} {cs args : List A} {post : List (List A) → Nat → List A → A → Prop} (hc : c.ok) (hq : ∀ ch s, ¬ c.pan ch s) (hf : c.P.funcs[f]? = some fn) (hb : fn.body = some x) (hname : (fn.name == "runtime.NumGoroutine") = false)
  (hn : ins.length = c.np) (hord : ordOk c.ord x = true) (h : okL args → initK args (fn.ntmps - args.length) fun t => awp c x ⟨t, ins, [.live e k n cs]⟩ (endR c e k fn.results.toList post)) : SpecRD c.P f ins e k n cs args post := by
 refine ⟨specR_of hc (fun ch s h => hq ch s h) hf hb hname hn hord h, fun u w C β vals y xs h0 h1 h2 h3 h4 h5 h6 h7 h8 h9 => ?_⟩
 unfold ClD
 refine CallsD.mono (callsD_of_wp hf hb (R := fun e' w' => (∃ (outs : List (List A)) (n' : Nat) (cs' : List A) (r : A) (v y' : Value) (xs' : List Value) (C' : Rd), e' = .returned v ∧ post outs n' cs' r ∧ Keeps (β ++ (blk y).toList) w w' ∧ Sub C C' ∧ Sub C' (see w') ∧ (∀ ad u, C' ad = some u → C ad = some u ∨ w.heap.size ≤ ad.block ∨ blk y = some ad.block) ∧ outs.length = β.length ∧
   (∀ (i b : Nat) (cs : List A), β[i]? = some b → outs[i]? = some cs → boxAt w' ⟨C', β, [y']⟩ b cs) ∧ owR w' e k y' n' xs' ∧ A.repC cs' ⟨C', [], []⟩ xs' ∧ (∀ b, blk y' = some b → (∀ o sp, C' ⟨b, o, sp⟩ = none) ∧ (w.heap.size ≤ b ∨ blk y = some b)) ∧ r.rep ⟨C', β, [y']⟩ v) ∨
   ∃ (ch : List PanicEntry) (ns : List Nat), e' = .panicked ch ∧ False ∧ Keeps (β ++ (blk y).toList) w w' ∧ ns.length = β.length ∧ ∀ (i b n : Nat), β[i]? = some b → ns[i]? = some n → boxAt w' ⟨C, β, []⟩ b (List.replicate n .dead)) ?_) fun e m w' hh => hh
 have hinit := initK_iff.1 (h (okL_rep _ h9))
 have hinit := ok_of_awp hc hord hinit
 have hinv := invR_begin (nt := fn.ntmps) h0 h1 h2 h3 h4 h5 h6 h7 h8 h9
 unfold Ok OkD at hinit
 refine hinit ⟨w, (blk y).toList⟩ C β _ w _ (by rw [← h4, hn]) hinv (fun ch s' a' w' hpan hi => absurd hpan (hq ch s')) ?_
 have fin : ∀ (s' : S) (a' : Act) (w' : World), (∃ g, retR c e k g fn.results.toList post s') → Inv [] ⟨w, (blk y).toList⟩ C β s' a' w' → _ := fun s' a' w' ⟨g, hr⟩ hi => finR_ok (w := w) (C := C) (β := β) (s' := s') (a' := a') (w' := w') (fn := fn) (post := post) (y := y) hc (by rw [← h4, hn]) hr hi
 intro e1 s' a' w' hq hi
 cases e1 with
 | normal => obtain ⟨k1, v, k2, k3⟩ := fin s' a' w' hq hi; exact ⟨k1, v, k2, .inl k3⟩
 | ret => obtain ⟨k1, v, k2, k3⟩ := fin s' a' w' hq hi; exact ⟨k1, v, k2, .inl k3⟩
 | _ => exact hq.elim
@[irreducible] def DfrR (P : Program) (f : Nat) (args : List A) (s : S) (K : S → Prop) : Prop :=
 (∀ vs w, (callFunc f vs).run P w = .ok (.enter f vs) w) ∧
 ∃ (X ids : List Nat) (g e k n : Nat) (cs : List A) (ins : List (List A)) (args' : List A) (post : List (List A) → Nat → List A → A → Prop), X.Nodup ∧ (∀ i ∈ X, i < s.bx.length) ∧ (pubRows s.rw ids)[g]? = some (.live e k n cs) ∧
  renGLL X g (pubRows s.rw ids) (X.map fun i => s.bx.getD i []) = some ins ∧ renGL X g (pubRows s.rw ids) args = some args' ∧ (okL args' → SpecXR (ClD P f .returning .returning) ins e k n cs args' post fun _ => False) ∧
  ∀ outs n' cs' r, post outs n' cs' r → outs.length = X.length → outGK X s.rw.length s.bx X outs fun bx' => force (backG X s.rw.length r) fun r' => forceR ((pubRows s.rw ids).set g .gone ++ [.live e k n' cs']) fun rw' => withBR s bx' rw' K
def leaveR (c : Cx) (e k : Nat) (rv : List ResultVar) (post : List (List A) → Nat → List A → A → Prop) : List (Nat × List A) → S → Prop
 | [], s => ∃ g, retR c e k g rv post s
 | (f, args) :: r, s => DfrR c.P f args s fun s' => leaveR c e k rv post r s'
theorem leavesR_ok {w0 : W0} {C0 : Rd} {β0 : List Nat} {e k : Nat} {fn : Func} {post : List (List A) → Nat → List A → A → Prop} {R : Ending → World → Prop} {tmps : Array Value} (hfin : ∀ s' w', (∃ g, retR c e k g fn.results.toList post s') → Inv [] w0 C0 β0 s' { tmps := tmps, defers := [] } w' → ∃ v, (results fn tmps).run c.P w' = .ok v w' ∧ R (.returned v) w') :
  ∀ (dr : List (Nat × List A)) (ds : List Deferred) (s : S) (E : Env) (w : World), repD dr E ds → Hp w0 C0 β0 s.bx s.rw w E → A.repL s.t E tmps.toList → leaveR c e k fn.results.toList post dr s → Leaves c.P fn tmps R ds .returning w
 | [], ds, s, E, w, hd, hp, ht, h => by
  obtain rfl : ds = [] := hd
  exact hfin s w h ⟨E, hp, ht, rfl⟩
 | (f, args) :: r, ds, s, E, w, ⟨d, ds', cap, hds, htg, hargs, hrest⟩, hp, ht, h => by
  subst hds
  unfold leaveR DfrR at h
  obtain ⟨hcall, X, ids, g, e0, k0, n0, cs0, ins, args', post', hn, hX, hg, hins, hargs', hspec, hk⟩ := h
  obtain ⟨-, hcx⟩ := call_okR (pan := fun _ _ => False) (Xr := fun _ => true) (K := fun _ s' => leaveR c e k fn.results.toList post r s') (Cl := ClD c.P f .returning .returning) ClD.mono hp hargs rfl hn (fun _ _ => rfl) hX hg hins hargs' hspec (fun outs n' cs' r hp hl => hk outs n' cs' r hp hl) (fun ch bx' h _ _ => h.elim)
  obtain ⟨t, da⟩ := d
  simp only at htg hargs hcx
  subst htg
  refine leaves_cons (f := f) (args := da ++ cap) (by simp) (by simp [invoke, hcall]) ?_
  have hcx' : CallsD c.P f (da ++ cap) .returning w fun e' m w' => m = .returning ∧ ((∃ y, e' = .returned y ∧ Left w0 C0 β0 (fun _ => true) s E w (fun _ s' => leaveR c e k fn.results.toList post r s') y w') ∨ ∃ (ch : List PanicEntry) (s' : S) (E' : Env), e' = .panicked ch ∧ False ∧ s'.t = s.t ∧ E.le E' ∧ Hp w0 C0 β0 s'.bx s'.rw w' E') := hcx
  refine CallsD.mono hcx' ?_
  rintro e' m w' ⟨rfl, ⟨y, rfl, ⟨⟨r0, s', E', h1, h2, h3, h4, h5, _⟩⟩⟩ | ⟨ch, s', E', _, h, _⟩⟩
  ·exact leavesR_ok hfin r ds' s' E' w' (hrest.mono h3) h4 (by rw [h2]; exact A.repL.mono _ h3 ht) h1
  ·exact h.elim
theorem specRT_of {f : Nat} {fn : Func} {x : Code} {ins : List (List A)} {e k n : Nat} {cs args : List A} {post : List (List A) → Nat → List A → A → Prop} (hc : c.ok) (hf : c.P.funcs[f]? = some fn) (hb : fn.body = some x) (hname : (fn.name == "runtime.NumGoroutine") = false)
  (hn : ins.length = c.np) (h : okL args → initK args (fn.ntmps - args.length) fun t => OkT c.P c.np (fun _ _ _ => False) (fun dr ex s => (ex = .normal ∨ ex = .ret) ∧ leaveR c e k fn.results.toList post dr s) [] x ⟨t, ins, [.live e k n cs]⟩) : SpecR c.P f ins e k n cs args post := by
 refine ⟨callable hf hb hname, fun w C β vals y xs h0 h1 h2 h3 h4 h5 h6 h7 h8 h9 => ?_⟩
 refine calls_of_wp_defers hf hb ?_
 have hinit := initK_iff.1 (h (okL_rep _ h9))
 have hinv := invR_begin (nt := fn.ntmps) h0 h1 h2 h3 h4 h5 h6 h7 h8 h9
 unfold OkT at hinit
 refine hinit ⟨w, (blk y).toList⟩ C β _ w _ (by rw [← h4, hn]) hinv (fun dr ch s' a' w' hl _ => hl.elim) (fun dr ex s' a' w' hl ⟨E, hp, ht, hd⟩ => ?_)
 have key := leavesR_ok (c := c) (e := e) (k := k) (fn := fn) (post := post) (tmps := a'.tmps) (R := fun e' w' => (∃ (outs : List (List A)) (n' : Nat) (cs' : List A) (r : A) (v y' : Value) (xs' : List Value) (C' : Rd), e' = .returned v ∧ post outs n' cs' r ∧ Keeps (β ++ (blk y).toList) w w' ∧ Sub C C' ∧ Sub C' (see w') ∧ (∀ ad u, C' ad = some u → C ad = some u ∨ w.heap.size ≤ ad.block ∨ blk y = some ad.block) ∧ outs.length = β.length ∧
   (∀ (i b : Nat) (cs : List A), β[i]? = some b → outs[i]? = some cs → boxAt w' ⟨C', β, [y']⟩ b cs) ∧ owR w' e k y' n' xs' ∧ A.repC cs' ⟨C', [], []⟩ xs' ∧ (∀ b, blk y' = some b → (∀ o sp, C' ⟨b, o, sp⟩ = none) ∧ (w.heap.size ≤ b ∨ blk y = some b)) ∧ r.rep ⟨C', β, [y']⟩ v) ∨
   ∃ (ch : List PanicEntry) (ns : List Nat), e' = .panicked ch ∧ False ∧ Keeps (β ++ (blk y).toList) w w' ∧ ns.length = β.length ∧ ∀ (i b n : Nat), β[i]? = some b → ns[i]? = some n → boxAt w' ⟨C, β, []⟩ b (List.replicate n .dead))
  (fun s2 w2 ⟨g, hr⟩ hi => by
   obtain ⟨-, v, q1, q2⟩ := finR_ok (w := w) (C := C) (β := β) (fn := fn) (post := post) (y := y) hc (by rw [← h4, hn]) hr hi
   exact ⟨v, q1, .inl q2⟩) dr a'.defers s' E w' hd hp ht hl.2
 rcases hl.1 with rfl | rfl
 ·exact key
 ·exact key
end
section
variable {c : Cx} {P : Program} {np : Nat} {pt : List (Nat × List A) → List PanicEntry → S → Prop} {qt : List (Nat × List A) → Exit → S → Prop} {dr : List (Nat × List A)} {s : S}
theorem okT_seq {x y : Code} (h : OkT P np pt (fun dr' e s' => tQ P np pt qt dr' y e s') dr x s) : OkT P np pt qt dr (.seq x y) s := by
 unfold OkT at h ⊢
 intro w0 C0 β0 a w Q hn hi hx hk
 refine wp_seq (h w0 C0 β0 a w _ hn hi (fun dr' ch s' a' w' h1 h2 => hx dr' ch s' a' w' h1 h2) fun dr' e s' a' w' h1 h2 => ?_)
 cases e with
 | normal =>
  have h1 : OkT P np pt qt dr' y s' := h1
  unfold OkT at h1
  exact h1 w0 C0 β0 a' w' Q hn h2 hx hk
 | _ => exact hk dr' _ _ _ _ h1 h2
def dfrPK (s : S) (ids : List Nat) (fo : Operand) (xs : List Operand) (K : Nat → List A → S → Prop) : Prop :=
 match s with
 | ⟨t, bx, rw⟩ => forceR (pubRows rw ids) fun rw' => mapK (subA rw') t fun t' => subBK rw' bx fun bx' => match ev ⟨t', bx', rw'⟩ fo with
  | .clo f caps => mapK (ev ⟨t', bx', rw'⟩) xs fun l => K f (l ++ caps) ⟨t', bx', rw'⟩
  | _ => False
theorem okT_deferP {id : Nat} {l : List Oper} {od : Oper} {fo : Operand} {xs : Array Operand} {ts : Array TypeId} (ids : List Nat) (hc : c.ok) (hdr : ∃ n, refsD n dr = true) (hp : ∀ ch s', c.pan ch s' → pt dr ch s') (hop : od.op = .defer ⟨.value fo, xs, ts⟩) (hg : od.guard = none) (hd : od.dst = none)
  (h : aseq c (l ++ [od]) l s fun s' => dfrPK s' ids fo xs.toList fun f args s'' => qt ((f, args) :: dr) .normal s'') : OkT c.P c.np pt qt dr (.region id (l ++ [od]).toArray false) s := by
 unfold OkT
 intro w0 C0 β0 a w Q hn hi hx hk
 refine wp_region_lit (seq_ok2 (l2 := [od]) (Q := Q) hc hdr (fun ch s' a' w' h1 h2 => hx dr ch s' a' w' (hp ch s' h1) h2) hi h fun s' a' w' h1 h2 => ?_)
 refine wpList_step fun Kc hKc => ?_
 rw [if_pos (by simp [Region.wanted, hg])]
 obtain ⟨t, bx, rw'⟩ := s'
 unfold dfrPK at h1
 simp only at h1
 rw [forceR_iff, mapK_iff, subBK_iff] at h1
 have hle : Le (β0.length) ⟨t, bx, rw'⟩ _ := (le_pub (np := β0.length) (s := ⟨t, bx, rw'⟩) ids).trans le_sub
 -- publishing keeps what is deferred
 obtain ⟨E, hpp, ht, hdd⟩ := h2
 obtain ⟨C', hp1, le1⟩ := hpp.pubs ids
 have ht1 := subL_rep (E := ⟨C', E.β, E.ρ⟩) hp1 (A.repL.mono _ le1 ht)
 have hd1 := hdd.mono le1
 have hp2 : Hp w0 C0 β0 (bx.map fun c => c.map (subA (pubRows rw' ids))) (pubRows rw' ids) w' ⟨C', E.β, E.ρ⟩ := by
  refine ⟨hp1.sub, hp1.base, hp1.fresh, hp1.bp, hp1.bnd, hp1.bC, by simpa using hp1.bl, fun i b cs h1 h2 => ?_, hp1.rl, hp1.rws, hp1.rC, hp1.rd, hp1.rs, hp1.keep, hp1.gk⟩
  rw [List.getElem?_map, Option.map_eq_some_iff] at h2
  obtain ⟨c0, h2, rfl⟩ := h2
  obtain ⟨T', arr, h3, h4⟩ := hp1.bxs i b c0 h1 h2
  exact ⟨T', arr, h3, h4.map (subA (pubRows rw' ids)) (fun l us k => subL_rep (E := ⟨C', E.β, E.ρ⟩) hp1 k) rfl (fun t => rfl) fun a t e => by
   unfold subA at e
   split at e
   ·split at e <;> cases e
   ·exact e⟩
 split at h1
 ·rename_i f caps hev
  rw [mapK_iff] at h1
  have hf := ev_rep (s := ⟨t.map (subA (pubRows rw' ids)), bx.map fun c => c.map (subA (pubRows rw' ids)), pubRows rw' ids⟩) ht1 fo
  rw [hev] at hf
  unfold A.rep at hf
  obtain ⟨us, hf, hcaps⟩ := hf
  have hrun : (execOp a'.eval od).run c.P w' = .ok (.defer { target := .fn (.func f) us, args := xs.map a'.eval }) w' := by simp [execOp, hop, resolve, Deferred.ofValue, hf, Result.andThen]
  unfold Oper.wp
  rw [hrun, Oper.upon_defer]
  rw [hd]
  refine hKc _ _ (hk _ _ _ _ _ h1 ⟨⟨C', E.β, E.ρ⟩, hp2, ht1, { target := .fn (.func f) us, args := xs.map a'.eval }, a'.defers, us, rfl, rfl, ?_, hd1⟩)
  have := A.repL_append (caps_rep (s := ⟨t.map (subA (pubRows rw' ids)), bx.map fun c => c.map (subA (pubRows rw' ids)), pubRows rw' ids⟩) ht1 xs.toList) hcaps
  simpa using this
 ·exact h1.elim
end
theorem dfrR1 {P : Program} {f : Nat} {args args' : List A} {s : S} {K : S → Prop} {post : List (List A) → Nat → List A → A → Prop} (i g m : Nat) (ids : List Nat) (hm : s.rw.length = m) {e k n : Nat} {cs c0 c1 : List A} (hi : s.bx[i]? = some c0) (hg : (pubRows s.rw ids)[g]? = some (.live e k n cs)) (h1 : renGL [i] g (pubRows s.rw ids) c0 = some c1) (h2 : renGL [i] g (pubRows s.rw ids) args = some args') (hs : SpecRD P f [c1] e k n cs args' post)
  (hk : ∀ o n' cs' r, post [o] n' cs' r → outGK [i] m s.bx [i] [o] fun bx' => force (backG [i] m r) fun r' => forceR ((pubRows s.rw ids).set g .gone ++ [.live e k n' cs']) fun rw' => withBR s bx' rw' K) : DfrR P f args s K := by
 subst hm
 unfold DfrR
 have hil := (List.getElem?_eq_some_iff.1 hi).1
 refine ⟨hs.r.1, [i], ids, g, e, k, n, cs, [c1], args', post, by simp, by simpa using hil, hg, ?_, h2, fun _ => hs.d .returning, fun outs n' cs' r hp hl => ?_⟩
 ·have : s.bx.getD i [] = c0 := by simp [List.getD_eq_getElem?_getD, hi]
  simp only [List.map_cons, List.map_nil, this, renGLL, h1]
 ·obtain ⟨o, rfl⟩ : ∃ o, outs = [o] := List.length_eq_one_iff.1 (by simpa using hl)
  exact hk o n' cs' r hp
end Go.Proofs.YtfbifdccmabdbaaGreatDoor.Vm
namespace Go.Proofs.YtfbifdccmabdbaaGreatDoor.Vm
open Go.RowKit Go.Shelf
set_option linter.unusedSimpArgs false
set_option linter.unusedVariables false
set_option maxRecDepth 100000
section
variable {P : Program} {pan : List PanicEntry → S → Prop} {Xr : Nat → Bool} {f : Nat} {args args' : List A} {s : S} {K : A → S → Prop} {post : List (List A) → Nat → List A → A → Prop}
theorem callRn (X : List Nat) (g m : Nat) (ids : List Nat) (hm : s.rw.length = m) {e k n : Nat} {cs : List A} {ins : List (List A)} (hf : Xr 1000000007 = true) (hn : X.Nodup) (hX : ∀ i ∈ X, Xr i = true) (hi : ∀ i ∈ X, i < s.bx.length) (hg : (pubRows s.rw ids)[g]? = some (.live e k n cs)) (h1 : renGLL X g (pubRows s.rw ids) (X.map fun i => s.bx.getD i []) = some ins) (h2 : renGL X g (pubRows s.rw ids) args = some args') (hs : okL args' → SpecR P f ins e k n cs args' post)
  (hk : ∀ outs n' cs' r, post outs n' cs' r → outs.length = X.length → outGK X m s.bx X outs fun bx' => force (backG X m r) fun r' => forceR ((pubRows s.rw ids).set g .gone ++ [.live e k n' cs']) fun rw' => withBR s bx' rw' (K r')) : CallW P pan Xr f args s K := by
 subst hm
 unfold CallW
 right; right; right; right; left
 exact ⟨hf, X, ids, g, e, k, n, cs, ins, args', post, _, hn, hX, hi, hg, h1, h2, hs, hk, fun ch bx' h _ _ => h.elim⟩
end
abbrev SpecCD (f : Nat) (ins : List (List A)) (l : List Ic) (args : List A) (post : List (List A) → List Ic → A → Prop) : Prop :=
 SpecRD Tryz.prog f ins 52 2 l.length (icsA l) args fun o n cs r => ∃ l', n = l'.length ∧ cs = icsA l' ∧ post o l' r
theorem emitD (u : Ut) (l : List Ic) (op n : Int) (hl : l.length ≤ 1000000) : SpecCD 40 [cbx u] l [.box 0 0, intA op, intA n] fun o l' r => o = [cbx u] ∧ l' = l ++ [(op, n)] ∧ r = intA l.length := by
 refine specRD_of (cx_ok ord0 xs0 1) (fun _ _ h => h) Tryz.func40 rfl (by kernel_rfl) rfl (by kernel_rfl) ?_
 intro _
 conv => whnf
 refine ⟨⟨by unfold maxLen; omega, by omega⟩, ?_⟩
 conv => whnf
 refine ⟨i64r (by omega), ?_⟩
 conv => whnf
 refine ⟨0, ?_⟩
 conv => whnf
 refine ⟨l ++ [(op, n)], by rw [List.length_append]; rfl, ?_, rfl, rfl, ?_⟩
 ·rw [icsA_snoc]; rfl
 ·show intA (((l.length + 1 : Nat) : Int) - 1) = intA l.length
  congr 1; omega
theorem hereD (u : Ut) (l : List Ic) (k : Nat) (hk : k < l.length) (hl : l.length ≤ 1000000) : SpecCD 121 [cbx u] l [.box 0 0, intA k] fun o l' r => o = [cbx u] ∧ l' = l.set k (l[k].1, l.length) ∧ r = .tup [] := by
 refine specRD_of (cx_ok ord121 xs0 1) (fun _ _ h => h) Tryz.func121 rfl (by kernel_rfl) rfl (by kernel_rfl) ?_
 intro _
 conv => whnf
 refine ⟨⟨by omega, by omega⟩, ?_⟩
 conv => whnf
 rw [show ((k : Int)).toNat = k from rfl]
 refine setK_mk (by rw [icsA_len]; omega) ?_
 conv => whnf
 refine ⟨0, ?_⟩
 conv => whnf
 refine ⟨l.set k (l[k].1, l.length), by rw [List.length_set], ?_, rfl, rfl, rfl⟩
 exact icsA_set l k hk l.length
theorem cunary_spec (u : Ut) (n : Int) (s : ByteArray) (kids : List Nt) (hm : kids.length ≤ 3002) (hf : ∀ f ∈ kids, NodeE u f) (l : List Ic) (hl : l.length + szNs kids + 1 ≤ 1000000) : SpecC 76 [cbx u] l [.box 0 0, .agg (ntA (.mk 17 n s kids))] fun o l' r => o = [cbx u] ∧ l' = l ++ seqC (codeNs (ixU u) kids) l.length ++ (if s = pMinus then [(10, 0)] else [(14, 0)]) ∧ r = .tup [] := by
 have hk := kids_spec u 17 n s kids hm hf l (by omega)
 simp only [ntA, Nt.k, Nt.n, Nt.s, Nt.kids] at hk
 have hz := seq_size (u := u) kids l.length hf
 have hem := fun (l : List Ic) (op n : Int) (h : l.length ≤ 1000000) => emit_spec u l op n h
 generalize seqC (codeNs (ixU u) kids) l.length = y at *
 have hly : (l ++ y).length ≤ 999999 := by rw [List.length_append]; omega
 generalize l ++ y = l3 at *
 simp only [ntA, Nt.k, Nt.n, Nt.s, Nt.kids]
 refine specR_of (cx_ok ord0 xs0 1) (fun _ _ h => h) Tryz.func76 rfl (by kernel_rfl) rfl (by kernel_rfl) ?_
 intro _
 conv => whnf
 refine callR1 0 0 1 [] rfl rfl rfl rfl rfl rfl rfl (fun _ => hk) ?_
 rintro o n' cs' r ⟨l2, rfl, rfl, ho, hl2, rfl⟩
 cases ho
 subst hl2
 conv => whnf
 by_cases hs : s = pMinus
 ·rw [if_pos hs]
  refine br_true (b := decide (s = ⟨#[45]⟩)) (decide_eq_true hs) ?_
  conv => whnf
  refine callR1 0 1 2 [] rfl rfl rfl rfl rfl rfl rfl (fun _ => hem l2 10 0 (by omega)) ?_
  rintro o n' cs' r ⟨l4, rfl, rfl, ho, hl4, rfl⟩
  cases ho
  conv => whnf
  refine ⟨2, ?_⟩
  conv => whnf
  exact ⟨l4, rfl, rfl, rfl, hl4, rfl⟩
 ·rw [if_neg hs]
  refine br_false (b := decide (s = ⟨#[45]⟩)) (decide_eq_false hs) ?_
  conv => whnf
  refine callR1 0 1 2 [] rfl rfl rfl rfl rfl rfl rfl (fun _ => hem l2 14 0 (by omega)) ?_
  rintro o n' cs' r ⟨l4, rfl, rfl, ho, hl4, rfl⟩
  cases ho
  conv => whnf
  refine ⟨2, ?_⟩
  conv => whnf
  exact ⟨l4, rfl, rfl, rfl, hl4, rfl⟩
theorem set_mid {α : Type} : ∀ (a : List α) (x v : α) (b : List α), (a ++ x :: b).set a.length v = a ++ v :: b
 | [], x, v, b => rfl
 | y :: a, x, v, b => by
  show y :: (a ++ x :: b).set a.length v = _
  rw [set_mid a x v b]; rfl
theorem hereM (u : Ut) (a b : List Ic) (op x : Int) (hl : (a ++ (op, x) :: b).length ≤ 1000000) : SpecCD 121 [cbx u] (a ++ (op, x) :: b) [.box 0 0, intA a.length] fun o l' r => o = [cbx u] ∧ l' = a ++ (op, ((a ++ (op, x) :: b).length : Int)) :: b ∧ r = .tup [] := by
 have hk : a.length < (a ++ (op, x) :: b).length := by rw [List.length_append, List.length_cons]; omega
 have h := hereD u (a ++ (op, x) :: b) a.length hk hl
 have e : (a ++ (op, x) :: b)[a.length] = (op, x) := by simp
 rw [e, set_mid] at h
 exact h
def CloE (u : Ut) (nd : Nt) (f : Nat) (caps : List A) (g : Int → List Ic) (z : Nat) : Prop := (∀ at' : Int, (g at').length ≤ z) ∧ ∀ l : List Ic, l.length + z ≤ 1000000 → SpecC f [cbx u, [.box 0 0], ntA nd] l caps fun o l' r => o = [cbx u, [.box 0 0], ntA nd] ∧ l' = l ++ g l.length ∧ r = .tup []
theorem choose_spec (u : Ut) (nd : Nt) (f : Nt) (hf : NodeE u f) (fy fn zy zn : Nat) (cy cn : List A) (gy gn : Int → List Ic) (hcy : cy = [.box 1 0, .box 2 0] ∨ cy = [.box 1 0]) (hcn : cn = [.box 1 0, .box 2 0] ∨ cn = [.box 1 0]) (hy : CloE u nd fy cy gy zy) (hn : CloE u nd fn cn gn zn) (l : List Ic) (hl : l.length + szN f + zy + zn + 2 ≤ 1000000) : SpecC 116 [cbx u, [.box 0 0], ntA nd] l [.box 0 0, .agg (ntA f), .clo fy cy, .clo fn cn] fun o l' r => o = [cbx u, [.box 0 0], ntA nd] ∧ l' = l ++ brC (codeN (ixU u) f) gy gn l.length ∧ r = .tup [] := by
 have hz1 := hf.1 l.length
 have hN := hf.2 l (by omega)
 have hem := fun (l : List Ic) (op n : Int) (h : l.length ≤ 1000000) => emit_spec u l op n h
 generalize hC : codeN (ixU u) f l.length = C at *
 have e1 : (l ++ C).length = l.length + C.length := List.length_append
 have h1 := hem (l ++ C) 16 0 (by omega)
 have e2 : (l ++ C ++ [(16, 0)]).length = l.length + C.length + 1 := by rw [List.length_append, e1]; rfl
 have hz2 := hy.1 ((l ++ C ++ [((16 : Int), (0 : Int))]).length : Nat)
 have h2 := hy.2 (l ++ C ++ [(16, 0)]) (by omega)
 generalize hY : gy ((l ++ C ++ [((16 : Int), (0 : Int))]).length : Nat) = Y at *
 have e3 : (l ++ C ++ [(16, 0)] ++ Y).length = l.length + C.length + 1 + Y.length := by rw [List.length_append, e2]
 have h3 := hem (l ++ C ++ [(16, 0)] ++ Y) 15 0 (by omega)
 have e4 : l ++ C ++ [(16, 0)] ++ Y ++ [(15, 0)] = (l ++ C) ++ ((16 : Int), (0 : Int)) :: (Y ++ [(15, 0)]) := by simp
 have e5 : ((l ++ C) ++ ((16 : Int), (0 : Int)) :: (Y ++ [((15 : Int), (0 : Int))])).length = l.length + C.length + 1 + Y.length + 1 := by rw [← e4, List.length_append, e3]; rfl
 have h4 := hereM u (l ++ C) (Y ++ [(15, 0)]) 16 0 (by omega)
 rw [e5] at h4
 have e6 : ((l ++ C) ++ ((16 : Int), ((l.length + C.length + 1 + Y.length + 1 : Nat) : Int)) :: (Y ++ [((15 : Int), (0 : Int))])).length = l.length + C.length + 1 + Y.length + 1 := by
  rw [List.length_append, List.length_cons, e1, List.length_append]; simp; omega
 have hz3 := hn.1 ((l.length + C.length + 1 + Y.length + 1 : Nat) : Int)
 have h5 := hn.2 ((l ++ C) ++ ((16 : Int), ((l.length + C.length + 1 + Y.length + 1 : Nat) : Int)) :: (Y ++ [((15 : Int), (0 : Int))])) (by omega)
 rw [e6] at h5
 generalize hN2 : gn ((l.length + C.length + 1 + Y.length + 1 : Nat) : Int) = N at *
 have e7 : (l ++ C) ++ ((16 : Int), ((l.length + C.length + 1 + Y.length + 1 : Nat) : Int)) :: (Y ++ [((15 : Int), (0 : Int))]) ++ N = ((l ++ C) ++ ((16 : Int), ((l.length + C.length + 1 + Y.length + 1 : Nat) : Int)) :: Y) ++ (15, 0) :: N := by simp
 have e8 : ((l ++ C) ++ ((16 : Int), ((l.length + C.length + 1 + Y.length + 1 : Nat) : Int)) :: Y).length = l.length + C.length + 1 + Y.length := by
  rw [List.length_append, List.length_cons, e1]; omega
 have e9 : (((l ++ C) ++ ((16 : Int), ((l.length + C.length + 1 + Y.length + 1 : Nat) : Int)) :: Y) ++ ((15 : Int), (0 : Int)) :: N).length = l.length + C.length + 1 + Y.length + 1 + N.length := by
  rw [List.length_append, List.length_cons, e8]; omega
 have h6 := hereM u ((l ++ C) ++ ((16 : Int), ((l.length + C.length + 1 + Y.length + 1 : Nat) : Int)) :: Y) N 15 0 (by omega)
 rw [e8, e9] at h6
 have hfin : l ++ brC (codeN (ixU u) f) gy gn l.length = ((l ++ C) ++ ((16 : Int), ((l.length + C.length + 1 + Y.length + 1 : Nat) : Int)) :: Y) ++ ((15 : Int), ((l.length + C.length + 1 + Y.length + 1 + N.length : Nat) : Int)) :: N := by
  unfold brC
  simp only [hC]
  rw [e2] at hY
  have k1 : (l.length : Int) + (C.length : Int) + 1 = ((l.length + C.length + 1 : Nat) : Int) := by omega
  rw [k1, hY]
  have k2 : ((l.length + C.length + 1 : Nat) : Int) + (Y.length : Int) + 1 = ((l.length + C.length + 1 + Y.length + 1 : Nat) : Int) := by omega
  rw [k2, hN2]
  have k3 : ((l.length + C.length + 1 + Y.length + 1 : Nat) : Int) + (N.length : Int) = ((l.length + C.length + 1 + Y.length + 1 + N.length : Nat) : Int) := by omega
  rw [k3]
  simp
 rw [e3] at h3
 rw [hfin]
 rw [e4] at h3
 rw [e7] at h5
 rcases hcy with rfl | rfl <;> rcases hcn with rfl | rfl
 all_goals
  refine specRT_of (cx_ok ord0 xs0 3) Tryz.func116 rfl (by kernel_rfl) rfl ?_
  intro _
  conv => whnf
  refine okT_step (cx_ok ord0 xs0 3) (dr := []) ⟨0, rfl⟩ (.inl rfl) (by kernel_rfl) (fun _ _ h => h.elim) ?_
  conv => whnf
  refine okT_step (cx_ok ord0 xs0 3) (dr := []) ⟨0, rfl⟩ (.inl rfl) (by kernel_rfl) (fun _ _ h => h.elim) ?_
  conv => whnf
  refine callR1 0 0 1 [] rfl rfl rfl rfl rfl rfl rfl (fun _ => hN) ?_
  rintro o n' cs' r ⟨l2, rfl, rfl, ho, hl2, rfl⟩
  cases ho
  subst hl2
  conv => whnf
  refine okT_step (cx_ok ord0 xs0 3) (dr := []) ⟨0, rfl⟩ (.inl rfl) (by kernel_rfl) (fun _ _ h => h.elim) ?_
  conv => whnf
  refine callR1 0 1 2 [] rfl rfl rfl rfl rfl rfl rfl (fun _ => h1) ?_
  rintro o n' cs' r ⟨l3, rfl, rfl, ho, hl3, rfl⟩
  cases ho
  subst hl3
  conv => whnf
  refine okT_step (cx_ok ord0 xs0 3) (dr := []) ⟨0, rfl⟩ (.inl rfl) (by kernel_rfl) (fun _ _ h => h.elim) ?_
  conv => whnf
  refine callRn [0, 1, 2] 2 3 [] rfl rfl (by decide) (by simp) (by simp) rfl rfl rfl (fun _ => h2) ?_
  rintro o n' cs' r ⟨l4, rfl, rfl, ho, hl4, rfl⟩ _
  cases ho
  subst hl4
  conv => whnf
  refine okT_step (cx_ok ord0 xs0 3) (dr := []) ⟨0, rfl⟩ (.inl rfl) (by kernel_rfl) (fun _ _ h => h.elim) ?_
  conv => whnf
  refine callR1 0 3 4 [] rfl rfl rfl rfl rfl rfl rfl (fun _ => h3) ?_
  rintro o n' cs' r ⟨l5, rfl, rfl, ho, hl5, rfl⟩
  cases ho
  subst hl5
  conv => whnf
  refine okT_seq ?_
  refine okT_deferP (l := [_, _]) [] (cx_ok ord0 xs0 3) ⟨0, rfl⟩ (fun _ _ h => h.elim) rfl rfl rfl ?_
  conv => whnf
  refine okT_last (cx_ok ord0 xs0 3) ⟨1, rfl⟩ (.inl rfl) (by kernel_rfl) (fun _ _ h => h.elim) ?_
  conv => whnf
  refine callR1 0 4 5 [] rfl rfl rfl rfl rfl rfl rfl (fun _ => h4.r) ?_
  rintro o n' cs' r ⟨l6, rfl, rfl, ho, hl6, rfl⟩
  cases ho
  subst hl6
  conv => whnf
  refine callRn [0, 1, 2] 5 6 [] rfl rfl (by decide) (by simp) (by simp) rfl rfl rfl (fun _ => h5) ?_
  rintro o n' cs' r ⟨l7, rfl, rfl, ho, hl7, rfl⟩ _
  cases ho
  subst hl7
  conv => whnf
  refine ⟨.inl rfl, ?_⟩
  unfold leaveR
  refine dfrR1 0 6 7 [] rfl rfl rfl rfl rfl h6 ?_
  rintro o n' cs' r ⟨l8, rfl, rfl, ho, hl8, rfl⟩
  cases ho
  conv => whnf
  refine ⟨7, ?_⟩
  conv => whnf
  exact ⟨l8, rfl, rfl, rfl, hl8, rfl⟩
end Go.Proofs.YtfbifdccmabdbaaGreatDoor.Vm
namespace Go.Proofs.YtfbifdccmabdbaaGreatDoor.Vm
open Go.RowKit Go.Shelf
set_option linter.unusedSimpArgs false
set_option linter.unusedVariables false
set_option maxRecDepth 100000
theorem clo_kid (u : Ut) (k n : Int) (s : ByteArray) (kids : List Nt) (i c : Nat) (hi : i < kids.length) (hf : NodeE u kids[i]) (hc : c = 115 ∧ i = 1 ∨ c = 119 ∧ i = 1 ∨ c = 120 ∧ i = 2) : CloE u (.mk k n s kids) c [.box 1 0, .box 2 0] (codeN (ixU u) kids[i]) (szN kids[i]) := by
 refine ⟨hf.1, fun l hl => ?_⟩
 have hN := hf.2 l hl
 have hrow := rowOf_nts kids i hi
 generalize kids[i] = g at *
 simp only [ntA, Nt.k, Nt.n, Nt.s, Nt.kids]
 rcases hc with ⟨rfl, rfl⟩ | ⟨rfl, rfl⟩ | ⟨rfl, rfl⟩
 ·refine specR_of (cx_ok ord115 xs0 3) (fun _ _ h => h) Tryz.func115 rfl (by kernel_rfl) rfl (by kernel_rfl) ?_
  intro _
  conv => whnf
  refine ⟨by omega, ?_⟩
  conv => whnf
  (generalize hrq : rowOf _ _ (ntsA kids) = rq; obtain rfl : rq = ntA g := hrq.symm.trans (hrow); clear hrq; conv => whnf)
  refine callR1 0 0 1 [] rfl rfl rfl rfl rfl rfl rfl (fun _ => hN) ?_
  rintro o n' cs' r ⟨l2, rfl, rfl, ho, hl2, rfl⟩
  cases ho
  conv => whnf
  refine ⟨1, ?_⟩
  conv => whnf
  exact ⟨l2, rfl, rfl, rfl, hl2, rfl⟩
 ·refine specR_of (cx_ok ord119 xs0 3) (fun _ _ h => h) Tryz.func119 rfl (by kernel_rfl) rfl (by kernel_rfl) ?_
  intro _
  conv => whnf
  refine ⟨by omega, ?_⟩
  conv => whnf
  (generalize hrq : rowOf _ _ (ntsA kids) = rq; obtain rfl : rq = ntA g := hrq.symm.trans (hrow); clear hrq; conv => whnf)
  refine callR1 0 0 1 [] rfl rfl rfl rfl rfl rfl rfl (fun _ => hN) ?_
  rintro o n' cs' r ⟨l2, rfl, rfl, ho, hl2, rfl⟩
  cases ho
  conv => whnf
  refine ⟨1, ?_⟩
  conv => whnf
  exact ⟨l2, rfl, rfl, rfl, hl2, rfl⟩
 ·refine specR_of (cx_ok ord120 xs0 3) (fun _ _ h => h) Tryz.func120 rfl (by kernel_rfl) rfl (by kernel_rfl) ?_
  intro _
  conv => whnf
  refine ⟨by omega, ?_⟩
  conv => whnf
  (generalize hrq : rowOf _ _ (ntsA kids) = rq; obtain rfl : rq = ntA g := hrq.symm.trans (hrow); clear hrq; conv => whnf)
  refine callR1 0 0 1 [] rfl rfl rfl rfl rfl rfl rfl (fun _ => hN) ?_
  rintro o n' cs' r ⟨l2, rfl, rfl, ho, hl2, rfl⟩
  cases ho
  conv => whnf
  refine ⟨1, ?_⟩
  conv => whnf
  exact ⟨l2, rfl, rfl, rfl, hl2, rfl⟩
theorem clo_push (u : Ut) (k n : Int) (s : ByteArray) (kids : List Nt) (c : Nat) (v : Int) (hc : c = 117 ∧ v = 0 ∨ c = 118 ∧ v = 1) : CloE u (.mk k n s kids) c [.box 1 0] (fun _ => [(1, v)]) 1 := by
 refine ⟨fun _ => Nat.le_refl _, fun l hl => ?_⟩
 have hN := emit_spec u l 1 v (by omega)
 simp only [ntA, Nt.k, Nt.n, Nt.s, Nt.kids]
 rcases hc with ⟨rfl, rfl⟩ | ⟨rfl, rfl⟩
 ·refine specR_of (cx_ok ord0 xs0 3) (fun _ _ h => h) Tryz.func117 rfl (by kernel_rfl) rfl (by kernel_rfl) ?_
  intro _
  conv => whnf
  refine callR1 0 0 1 [] rfl rfl rfl rfl rfl rfl rfl (fun _ => hN) ?_
  rintro o n' cs' r ⟨l2, rfl, rfl, ho, hl2, rfl⟩
  cases ho
  conv => whnf
  refine ⟨1, ?_⟩
  conv => whnf
  exact ⟨l2, rfl, rfl, rfl, hl2, rfl⟩
 ·refine specR_of (cx_ok ord0 xs0 3) (fun _ _ h => h) Tryz.func118 rfl (by kernel_rfl) rfl (by kernel_rfl) ?_
  intro _
  conv => whnf
  refine callR1 0 0 1 [] rfl rfl rfl rfl rfl rfl rfl (fun _ => hN) ?_
  rintro o n' cs' r ⟨l2, rfl, rfl, ho, hl2, rfl⟩
  cases ho
  conv => whnf
  refine ⟨1, ?_⟩
  conv => whnf
  exact ⟨l2, rfl, rfl, rfl, hl2, rfl⟩
theorem nt_cells (k n : Int) (s : ByteArray) (kids : List Nt) : ntA (.mk k n s kids) = [intA k, intA n, strA s, .sl 4 kids.length (ntsA kids)] := rfl
theorem branch_spec (u : Ut) (n : Int) (s : ByteArray) (kids : List Nt) (h3 : kids.length = 3) (hf : ∀ f ∈ kids, NodeE u f) (l : List Ic) (hl : l.length + (kids.map szN).sum + 2 ≤ 1000000) : SpecC 78 [cbx u] l [.box 0 0, .agg (ntA (.mk 2 n s kids))] fun o l' r => o = [cbx u] ∧ l' = l ++ brC (codeN (ixU u) (kids[0]'(by omega))) (codeN (ixU u) (kids[1]'(by omega))) (codeN (ixU u) (kids[2]'(by omega))) l.length ∧ r = .tup [] := by
 have h1 := clo_kid u 2 n s kids 1 119 (by omega) (hf _ (List.getElem_mem _)) (.inr (.inl ⟨rfl, rfl⟩))
 have h2 := clo_kid u 2 n s kids 2 120 (by omega) (hf _ (List.getElem_mem _)) (.inr (.inr ⟨rfl, rfl⟩))
 have hsum : szN (kids[0]'(by omega)) + szN (kids[1]'(by omega)) + szN (kids[2]'(by omega)) ≤ (kids.map szN).sum := by
  match kids, h3 with
  | [a, b, c], _ => simp; omega
 have hch := choose_spec u _ (kids[0]'(by omega)) (hf _ (List.getElem_mem _)) _ _ _ _ _ _ _ _ (.inl rfl) (.inl rfl) h1 h2 l (by omega)
 have hrow := rowOf_nts kids 0 (by omega)
 generalize kids[0]'(by omega) = g at *
 rw [nt_cells] at hch ⊢
 refine specR_of (cx_ok ord78 xs0 1) (fun _ _ h => h) Tryz.func78 rfl (by kernel_rfl) rfl (by kernel_rfl) ?_
 intro _
 conv => whnf
 refine ⟨by omega, ?_⟩
 conv => whnf
 (generalize hrq : rowOf _ _ (ntsA kids) = rq; obtain rfl : rq = ntA g := hrq.symm.trans (hrow); clear hrq; conv => whnf)
 refine callRn [0, 1, 2] 0 1 [] rfl rfl (by decide) (by simp) (by simp) rfl rfl rfl (fun _ => hch) ?_
 rintro o n' cs' r ⟨l2, rfl, rfl, ho, hl2, rfl⟩ _
 cases ho
 conv => whnf
 refine ⟨1, ?_⟩
 conv => whnf
 exact ⟨l2, rfl, rfl, rfl, hl2, rfl⟩
theorem bin_and (u : Ut) (n : Int) (kids : List Nt) (h3 : kids.length = 2) (hf : ∀ f ∈ kids, NodeE u f) (l : List Ic) (hl : l.length + (kids.map szN).sum + 3 ≤ 1000000) : SpecC 77 [cbx u] l [.box 0 0, .agg (ntA (.mk 18 n pAnd kids))] fun o l' r => o = [cbx u] ∧ l' = l ++ brC (codeN (ixU u) (kids[0]'(by omega))) (codeN (ixU u) (kids[1]'(by omega))) (fun _ => [(1, 0)]) l.length ∧ r = .tup [] := by
 have h1 := clo_kid u 18 n pAnd kids 1 115 (by omega) (hf _ (List.getElem_mem _)) (.inl ⟨rfl, rfl⟩)
 have h2 := clo_push u 18 n pAnd kids 117 0 (.inl ⟨rfl, rfl⟩)
 have hsum : szN (kids[0]'(by omega)) + szN (kids[1]'(by omega)) ≤ (kids.map szN).sum := by
  match kids, h3 with
  | [a, b], _ => simp
 have hch := choose_spec u _ (kids[0]'(by omega)) (hf _ (List.getElem_mem _)) _ _ _ _ _ _ _ _ (.inl rfl) (.inr rfl) h1 h2 l (by omega)
 have hrow := rowOf_nts kids 0 (by omega)
 generalize kids[0]'(by omega) = g at *
 rw [nt_cells] at hch ⊢
 refine specR_of (cx_ok ord77 xs0 1) (fun _ _ h => h) Tryz.func77 rfl (by kernel_rfl) rfl (by kernel_rfl) ?_
 intro _
 conv => whnf
 refine ⟨by omega, ?_⟩
 conv => whnf
 (generalize hrq : rowOf _ _ (ntsA kids) = rq; obtain rfl : rq = ntA g := hrq.symm.trans (hrow); clear hrq; conv => whnf)
 refine callRn [0, 1, 2] 0 1 [] rfl rfl (by decide) (by simp) (by simp) rfl rfl rfl (fun _ => hch) ?_
 rintro o n' cs' r ⟨l2, rfl, rfl, ho, hl2, rfl⟩ _
 cases ho
 conv => whnf
 refine ⟨1, ?_⟩
 conv => whnf
 exact ⟨l2, rfl, rfl, rfl, hl2, rfl⟩
theorem bin_or (u : Ut) (n : Int) (kids : List Nt) (h3 : kids.length = 2) (hf : ∀ f ∈ kids, NodeE u f) (l : List Ic) (hl : l.length + (kids.map szN).sum + 3 ≤ 1000000) : SpecC 77 [cbx u] l [.box 0 0, .agg (ntA (.mk 18 n pOr kids))] fun o l' r => o = [cbx u] ∧ l' = l ++ brC (codeN (ixU u) (kids[0]'(by omega))) (fun _ => [(1, 1)]) (codeN (ixU u) (kids[1]'(by omega))) l.length ∧ r = .tup [] := by
 have h1 := clo_kid u 18 n pOr kids 1 115 (by omega) (hf _ (List.getElem_mem _)) (.inl ⟨rfl, rfl⟩)
 have h2 := clo_push u 18 n pOr kids 118 1 (.inr ⟨rfl, rfl⟩)
 have hsum : szN (kids[0]'(by omega)) + szN (kids[1]'(by omega)) ≤ (kids.map szN).sum := by
  match kids, h3 with
  | [a, b], _ => simp
 have hch := choose_spec u _ (kids[0]'(by omega)) (hf _ (List.getElem_mem _)) _ _ _ _ _ _ _ _ (.inr rfl) (.inl rfl) h2 h1 l (by omega)
 have hrow := rowOf_nts kids 0 (by omega)
 generalize kids[0]'(by omega) = g at *
 rw [nt_cells] at hch ⊢
 refine specR_of (cx_ok ord77 xs0 1) (fun _ _ h => h) Tryz.func77 rfl (by kernel_rfl) rfl (by kernel_rfl) ?_
 intro _
 conv => whnf
 refine ⟨by omega, ?_⟩
 conv => whnf
 (generalize hrq : rowOf _ _ (ntsA kids) = rq; obtain rfl : rq = ntA g := hrq.symm.trans (hrow); clear hrq; conv => whnf)
 refine callRn [0, 1, 2] 0 1 [] rfl rfl (by decide) (by simp) (by simp) rfl rfl rfl (fun _ => hch) ?_
 rintro o n' cs' r ⟨l2, rfl, rfl, ho, hl2, rfl⟩ _
 cases ho
 conv => whnf
 refine ⟨1, ?_⟩
 conv => whnf
 exact ⟨l2, rfl, rfl, rfl, hl2, rfl⟩
end Go.Proofs.YtfbifdccmabdbaaGreatDoor.Vm
namespace Go.Proofs.YtfbifdccmabdbaaGreatDoor.Vm
open Go.RowKit Go.Shelf
set_option linter.unusedSimpArgs false
set_option linter.unusedVariables false
set_option maxRecDepth 100000
def opBin : List ByteArray := [pPlus, pMinus, pStar, pSlash, pLt, pLe, pEqq, pGt, pGe, pNe]
set_option maxHeartbeats 20000000 in
theorem bin_op (u : Ut) (n : Int) (s : ByteArray) (hs : (opBin.any fun x => decide (s = x)) = true) (kids : List Nt) (hm : kids.length ≤ 3002) (hf : ∀ f ∈ kids, NodeE u f) (l : List Ic) (hl : l.length + szNs kids + 2 ≤ 1000000) : SpecC 77 [cbx u] l [.box 0 0, .agg (ntA (.mk 18 n s kids))] fun o l' r => o = [cbx u] ∧ l' = l ++ seqC (codeNs (ixU u) kids) l.length ++ opC s ∧ r = .tup [] := by
 have hs : s ∈ opBin := by
  rw [List.any_eq_true] at hs
  obtain ⟨x, h1, h2⟩ := hs
  rw [decide_eq_true_eq] at h2
  rw [h2]; exact h1
 have hk := kids_spec u 18 n s kids hm hf l (by omega)
 have hz := seq_size (u := u) kids l.length hf
 have hem := fun (l : List Ic) (op n : Int) (h : l.length ≤ 1000000) => emit_spec u l op n h
 generalize seqC (codeNs (ixU u) kids) l.length = y at *
 have hly : (l ++ y).length ≤ 999998 := by rw [List.length_append]; omega
 generalize l ++ y = l3 at *
 rw [nt_cells] at hk ⊢
 unfold opBin at hs
 simp only [List.mem_cons, List.not_mem_nil, or_false] at hs
 rcases hs with rfl | rfl | rfl | rfl | rfl | rfl | rfl | rfl | rfl | rfl
 ·refine specR_of (cx_ok ord77 xs0 1) (fun _ _ h => h) Tryz.func77 rfl (by kernel_rfl) rfl (by kernel_rfl) ?_
  intro _
  conv => whnf
  refine callR1 0 0 1 [] rfl rfl rfl rfl rfl rfl rfl (fun _ => hk) ?_
  rintro o n' cs' r ⟨l2, rfl, rfl, ho, hl2, rfl⟩
  cases ho
  subst hl2
  conv => whnf
  refine callR1 0 1 3 [] rfl rfl rfl rfl rfl rfl rfl (fun _ => hem l2 6 0 (by omega)) ?_
  rintro o n' cs' r ⟨l4, rfl, rfl, ho, hl4, rfl⟩
  cases ho
  conv => whnf
  refine ⟨3, ?_⟩
  conv => whnf
  exact ⟨l4, rfl, rfl, rfl, hl4, rfl⟩
 ·refine specR_of (cx_ok ord77 xs0 1) (fun _ _ h => h) Tryz.func77 rfl (by kernel_rfl) rfl (by kernel_rfl) ?_
  intro _
  conv => whnf
  refine callR1 0 0 1 [] rfl rfl rfl rfl rfl rfl rfl (fun _ => hk) ?_
  rintro o n' cs' r ⟨l2, rfl, rfl, ho, hl2, rfl⟩
  cases ho
  subst hl2
  conv => whnf
  refine callR1 0 1 3 [] rfl rfl rfl rfl rfl rfl rfl (fun _ => hem l2 7 0 (by omega)) ?_
  rintro o n' cs' r ⟨l4, rfl, rfl, ho, hl4, rfl⟩
  cases ho
  conv => whnf
  refine ⟨3, ?_⟩
  conv => whnf
  exact ⟨l4, rfl, rfl, rfl, hl4, rfl⟩
 ·refine specR_of (cx_ok ord77 xs0 1) (fun _ _ h => h) Tryz.func77 rfl (by kernel_rfl) rfl (by kernel_rfl) ?_
  intro _
  conv => whnf
  refine callR1 0 0 1 [] rfl rfl rfl rfl rfl rfl rfl (fun _ => hk) ?_
  rintro o n' cs' r ⟨l2, rfl, rfl, ho, hl2, rfl⟩
  cases ho
  subst hl2
  conv => whnf
  refine callR1 0 1 3 [] rfl rfl rfl rfl rfl rfl rfl (fun _ => hem l2 8 0 (by omega)) ?_
  rintro o n' cs' r ⟨l4, rfl, rfl, ho, hl4, rfl⟩
  cases ho
  conv => whnf
  refine ⟨3, ?_⟩
  conv => whnf
  exact ⟨l4, rfl, rfl, rfl, hl4, rfl⟩
 ·refine specR_of (cx_ok ord77 xs0 1) (fun _ _ h => h) Tryz.func77 rfl (by kernel_rfl) rfl (by kernel_rfl) ?_
  intro _
  conv => whnf
  refine callR1 0 0 1 [] rfl rfl rfl rfl rfl rfl rfl (fun _ => hk) ?_
  rintro o n' cs' r ⟨l2, rfl, rfl, ho, hl2, rfl⟩
  cases ho
  subst hl2
  conv => whnf
  refine callR1 0 1 3 [] rfl rfl rfl rfl rfl rfl rfl (fun _ => hem l2 9 0 (by omega)) ?_
  rintro o n' cs' r ⟨l4, rfl, rfl, ho, hl4, rfl⟩
  cases ho
  conv => whnf
  refine ⟨3, ?_⟩
  conv => whnf
  exact ⟨l4, rfl, rfl, rfl, hl4, rfl⟩
 ·refine specR_of (cx_ok ord77 xs0 1) (fun _ _ h => h) Tryz.func77 rfl (by kernel_rfl) rfl (by kernel_rfl) ?_
  intro _
  conv => whnf
  refine callR1 0 0 1 [] rfl rfl rfl rfl rfl rfl rfl (fun _ => hk) ?_
  rintro o n' cs' r ⟨l2, rfl, rfl, ho, hl2, rfl⟩
  cases ho
  subst hl2
  conv => whnf
  refine callR1 0 1 3 [] rfl rfl rfl rfl rfl rfl rfl (fun _ => hem l2 11 0 (by omega)) ?_
  rintro o n' cs' r ⟨l4, rfl, rfl, ho, hl4, rfl⟩
  cases ho
  conv => whnf
  refine ⟨3, ?_⟩
  conv => whnf
  exact ⟨l4, rfl, rfl, rfl, hl4, rfl⟩
 ·refine specR_of (cx_ok ord77 xs0 1) (fun _ _ h => h) Tryz.func77 rfl (by kernel_rfl) rfl (by kernel_rfl) ?_
  intro _
  conv => whnf
  refine callR1 0 0 1 [] rfl rfl rfl rfl rfl rfl rfl (fun _ => hk) ?_
  rintro o n' cs' r ⟨l2, rfl, rfl, ho, hl2, rfl⟩
  cases ho
  subst hl2
  conv => whnf
  refine callR1 0 1 3 [] rfl rfl rfl rfl rfl rfl rfl (fun _ => hem l2 12 0 (by omega)) ?_
  rintro o n' cs' r ⟨l4, rfl, rfl, ho, hl4, rfl⟩
  cases ho
  conv => whnf
  refine ⟨3, ?_⟩
  conv => whnf
  exact ⟨l4, rfl, rfl, rfl, hl4, rfl⟩
 ·refine specR_of (cx_ok ord77 xs0 1) (fun _ _ h => h) Tryz.func77 rfl (by kernel_rfl) rfl (by kernel_rfl) ?_
  intro _
  conv => whnf
  refine callR1 0 0 1 [] rfl rfl rfl rfl rfl rfl rfl (fun _ => hk) ?_
  rintro o n' cs' r ⟨l2, rfl, rfl, ho, hl2, rfl⟩
  cases ho
  subst hl2
  conv => whnf
  refine callR1 0 1 3 [] rfl rfl rfl rfl rfl rfl rfl (fun _ => hem l2 13 0 (by omega)) ?_
  rintro o n' cs' r ⟨l4, rfl, rfl, ho, hl4, rfl⟩
  cases ho
  conv => whnf
  refine ⟨3, ?_⟩
  conv => whnf
  exact ⟨l4, rfl, rfl, rfl, hl4, rfl⟩
 ·refine specR_of (cx_ok ord77 xs0 1) (fun _ _ h => h) Tryz.func77 rfl (by kernel_rfl) rfl (by kernel_rfl) ?_
  intro _
  conv => whnf
  refine callR1 0 0 1 [] rfl rfl rfl rfl rfl rfl rfl (fun _ => hk) ?_
  rintro o n' cs' r ⟨l2, rfl, rfl, ho, hl2, rfl⟩
  cases ho
  subst hl2
  conv => whnf
  refine callR1 0 1 3 [] rfl rfl rfl rfl rfl rfl rfl (fun _ => hem l2 12 0 (by omega)) ?_
  rintro o n' cs' r ⟨l4, rfl, rfl, ho, hl4, rfl⟩
  cases ho
  have hz4 : l4.length ≤ 1000000 := by rw [hl4, List.length_append, List.length_singleton]; omega
  conv => whnf
  refine callR1 0 3 4 [] rfl rfl rfl rfl rfl rfl rfl (fun _ => hem l4 14 0 hz4) ?_
  rintro o n' cs' r ⟨l5, rfl, rfl, ho, hl5, rfl⟩
  cases ho
  conv => whnf
  refine ⟨4, ?_⟩
  conv => whnf
  exact ⟨l5, rfl, rfl, rfl, by rw [hl5, hl4, List.append_assoc]; rfl, rfl⟩
 ·refine specR_of (cx_ok ord77 xs0 1) (fun _ _ h => h) Tryz.func77 rfl (by kernel_rfl) rfl (by kernel_rfl) ?_
  intro _
  conv => whnf
  refine callR1 0 0 1 [] rfl rfl rfl rfl rfl rfl rfl (fun _ => hk) ?_
  rintro o n' cs' r ⟨l2, rfl, rfl, ho, hl2, rfl⟩
  cases ho
  subst hl2
  conv => whnf
  refine callR1 0 1 3 [] rfl rfl rfl rfl rfl rfl rfl (fun _ => hem l2 11 0 (by omega)) ?_
  rintro o n' cs' r ⟨l4, rfl, rfl, ho, hl4, rfl⟩
  cases ho
  have hz4 : l4.length ≤ 1000000 := by rw [hl4, List.length_append, List.length_singleton]; omega
  conv => whnf
  refine callR1 0 3 4 [] rfl rfl rfl rfl rfl rfl rfl (fun _ => hem l4 14 0 hz4) ?_
  rintro o n' cs' r ⟨l5, rfl, rfl, ho, hl5, rfl⟩
  cases ho
  conv => whnf
  refine ⟨4, ?_⟩
  conv => whnf
  exact ⟨l5, rfl, rfl, rfl, by rw [hl5, hl4, List.append_assoc]; rfl, rfl⟩
 ·refine specR_of (cx_ok ord77 xs0 1) (fun _ _ h => h) Tryz.func77 rfl (by kernel_rfl) rfl (by kernel_rfl) ?_
  intro _
  conv => whnf
  refine callR1 0 0 1 [] rfl rfl rfl rfl rfl rfl rfl (fun _ => hk) ?_
  rintro o n' cs' r ⟨l2, rfl, rfl, ho, hl2, rfl⟩
  cases ho
  subst hl2
  conv => whnf
  refine callR1 0 1 3 [] rfl rfl rfl rfl rfl rfl rfl (fun _ => hem l2 13 0 (by omega)) ?_
  rintro o n' cs' r ⟨l4, rfl, rfl, ho, hl4, rfl⟩
  cases ho
  have hz4 : l4.length ≤ 1000000 := by rw [hl4, List.length_append, List.length_singleton]; omega
  conv => whnf
  refine callR1 0 3 4 [] rfl rfl rfl rfl rfl rfl rfl (fun _ => hem l4 14 0 hz4) ?_
  rintro o n' cs' r ⟨l5, rfl, rfl, ho, hl5, rfl⟩
  cases ho
  conv => whnf
  refine ⟨4, ?_⟩
  conv => whnf
  exact ⟨l5, rfl, rfl, rfl, by rw [hl5, hl4, List.append_assoc]; rfl, rfl⟩
def whC (c b : Int → List Ic) (at' : Int) : List Ic := c at' ++ (16, at' + (c at').length + (b (at' + (c at').length + 1)).length + 2) :: (b (at' + (c at').length + 1) ++ [(15, at')])
theorem loop_spec (u : Ut) (n : Int) (s : ByteArray) (kids : List Nt) (h3 : kids.length = 2) (hf : ∀ f ∈ kids, NodeE u f) (l : List Ic) (hl : l.length + (kids.map szN).sum + 2 ≤ 1000000) : SpecC 79 [cbx u] l [.box 0 0, .agg (ntA (.mk 3 n s kids))] fun o l' r => o = [cbx u] ∧ l' = l ++ whC (codeN (ixU u) (kids[0]'(by omega))) (codeN (ixU u) (kids[1]'(by omega))) l.length ∧ r = .tup [] := by
 have hsum : szN (kids[0]'(by omega)) + szN (kids[1]'(by omega)) ≤ (kids.map szN).sum := by
  match kids, h3 with
  | [a, b], _ => simp
 have hem := fun (l : List Ic) (op n : Int) (h : l.length ≤ 1000000) => emit_spec u l op n h
 have ha := hf (kids[0]'(by omega)) (List.getElem_mem _)
 have hb := hf (kids[1]'(by omega)) (List.getElem_mem _)
 have hr0 := rowOf_nts kids 0 (by omega)
 have hr1 := rowOf_nts kids 1 (by omega)
 generalize kids[0]'(by omega) = a at *
 generalize kids[1]'(by omega) = b at *
 have hz1 := ha.1 l.length
 have h0 := ha.2 l (by omega)
 generalize hC : codeN (ixU u) a l.length = C at *
 have e1 : (l ++ C).length = l.length + C.length := List.length_append
 have h1 := hem (l ++ C) 16 0 (by omega)
 have e2 : (l ++ C ++ [(16, 0)]).length = l.length + C.length + 1 := by rw [List.length_append, e1]; rfl
 have hz2 := hb.1 ((l ++ C ++ [((16 : Int), (0 : Int))]).length : Nat)
 have h2 := hb.2 (l ++ C ++ [(16, 0)]) (by omega)
 generalize hB : codeN (ixU u) b ((l ++ C ++ [((16 : Int), (0 : Int))]).length : Nat) = B at *
 have e3 : (l ++ C ++ [(16, 0)] ++ B).length = l.length + C.length + 1 + B.length := by rw [List.length_append, e2]
 have h4 := emitD u (l ++ C ++ [(16, 0)] ++ B) 15 l.length (by omega)
 have e4 : l ++ C ++ [(16, 0)] ++ B ++ [(15, (l.length : Int))] = (l ++ C) ++ ((16 : Int), (0 : Int)) :: (B ++ [(15, (l.length : Int))]) := by simp
 have e5 : ((l ++ C) ++ ((16 : Int), (0 : Int)) :: (B ++ [((15 : Int), (l.length : Int))])).length = l.length + C.length + 1 + B.length + 1 := by rw [← e4, List.length_append, e3]; rfl
 have h5 := hereM u (l ++ C) (B ++ [(15, (l.length : Int))]) 16 0 (by omega)
 rw [e5] at h5
 rw [e4] at h4
 have hfin : l ++ whC (codeN (ixU u) a) (codeN (ixU u) b) l.length = (l ++ C) ++ ((16 : Int), ((l.length + C.length + 1 + B.length + 1 : Nat) : Int)) :: (B ++ [((15 : Int), (l.length : Int))]) := by
  unfold whC
  simp only [hC]
  rw [e2] at hB
  have k1 : (l.length : Int) + (C.length : Int) + 1 = ((l.length + C.length + 1 : Nat) : Int) := by omega
  rw [k1, hB]
  have k2 : (l.length : Int) + (C.length : Int) + (B.length : Int) + 2 = ((l.length + C.length + 1 + B.length + 1 : Nat) : Int) := by omega
  rw [k2]
  simp
 rw [hfin]
 rw [nt_cells]
 refine specRT_of (cx_ok ord0 xs0 1) Tryz.func79 rfl (by kernel_rfl) rfl ?_
 intro _
 conv => whnf
 refine okT_step (cx_ok ord0 xs0 1) (dr := []) ⟨0, rfl⟩ (.inl rfl) (by kernel_rfl) (fun _ _ h => h.elim) ?_
 conv => whnf
 refine okT_step (cx_ok ord0 xs0 1) (dr := []) ⟨0, rfl⟩ (.inl rfl) (by kernel_rfl) (fun _ _ h => h.elim) ?_
 conv => whnf
 refine okT_step (cx_ok ord0 xs0 1) (dr := []) ⟨0, rfl⟩ (.inl rfl) (by kernel_rfl) (fun _ _ h => h.elim) ?_
 conv => whnf
 refine ⟨by omega, ?_⟩
 conv => whnf
 (generalize hrq : rowOf _ _ (ntsA kids) = rq; obtain rfl : rq = ntA a := hrq.symm.trans (hr0); clear hrq; conv => whnf)
 refine callR1 0 0 1 [] rfl rfl rfl rfl rfl rfl rfl (fun _ => h0) ?_
 rintro o n' cs' r ⟨l2, rfl, rfl, ho, hl2, rfl⟩
 cases ho
 subst hl2
 conv => whnf
 refine okT_step (cx_ok ord0 xs0 1) (dr := []) ⟨0, rfl⟩ (.inl rfl) (by kernel_rfl) (fun _ _ h => h.elim) ?_
 conv => whnf
 refine callR1 0 1 2 [] rfl rfl rfl rfl rfl rfl rfl (fun _ => h1) ?_
 rintro o n' cs' r ⟨l3, rfl, rfl, ho, hl3, rfl⟩
 cases ho
 subst hl3
 conv => whnf
 refine okT_seq ?_
 refine okT_deferP (l := [_, _]) [] (cx_ok ord0 xs0 1) ⟨0, rfl⟩ (fun _ _ h => h.elim) rfl rfl rfl ?_
 conv => whnf
 refine okT_step (cx_ok ord0 xs0 1) ⟨1, rfl⟩ (.inl rfl) (by kernel_rfl) (fun _ _ h => h.elim) ?_
 conv => whnf
 refine ⟨by omega, ?_⟩
 conv => whnf
 (generalize hrq : rowOf _ _ (ntsA kids) = rq; obtain rfl : rq = ntA b := hrq.symm.trans (hr1); clear hrq; conv => whnf)
 refine callR1 0 2 3 [] rfl rfl rfl rfl rfl rfl rfl (fun _ => h2) ?_
 rintro o n' cs' r ⟨l4, rfl, rfl, ho, hl4, rfl⟩
 cases ho
 subst hl4
 conv => whnf
 refine okT_deferP (l := [_, _]) [] (cx_ok ord0 xs0 1) ⟨1, rfl⟩ (fun _ _ h => h.elim) rfl rfl rfl ?_
 conv => whnf
 refine ⟨.inl rfl, ?_⟩
 unfold leaveR
 refine dfrR1 0 3 4 [] rfl rfl rfl rfl rfl h4 ?_
 rintro o n' cs' r ⟨l5, rfl, rfl, ho, hl5, rfl⟩
 cases ho
 subst hl5
 conv => whnf
 refine dfrR1 0 4 5 [] rfl rfl rfl rfl rfl h5 ?_
 rintro o n' cs' r ⟨l6, rfl, rfl, ho, hl6, rfl⟩
 cases ho
 conv => whnf
 refine ⟨5, ?_⟩
 conv => whnf
 exact ⟨l6, rfl, rfl, rfl, hl6, rfl⟩
end Go.Proofs.YtfbifdccmabdbaaGreatDoor.Vm
