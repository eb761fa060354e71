/- Texts 5 of the proof: P25, VmD, P26, C0, C1, C2, C3, C12, C11, C14, C23, C24, C25, C26, C27, C28, C15, C16, C13, C17, VmB, C4, C5. -/
import Derived.Test.YtfbifdccmabdbaaGreatDoorM4
import Derived.Recover
namespace Go.Proofs.YtfbifdccmabdbaaGreatDoor.Vm
open Go.RowKit Go.Shelf
set_option linter.unusedSimpArgs false
set_option linter.unusedVariables false
set_option maxRecDepth 100000
def K6 (t : Tk) : Prop := (t.kind = 1 /\ ∃ c r, t.text.data.toList = c :: r /\ isL c = true /\ ∀ x ∈ c :: r, jgi x = true) ∨ (t.kind = 3 /\ ∃ c r, t.text.data.toList = c :: r /\ jgi c = false) ∨ (t.kind = 0 /\ t.text.data.toList = []) ∨ (t.kind = 2 /\ ∃ c r, t.text.data.toList = c :: r /\ isD c = true)
theorem jvY {l : List UInt8} {k : Int} {len : Nat} {n : Int} {p : Nat} (h : jbh l = .tok k len n) : K6 ⟨k, p, bs (l.take len), n⟩ := by
 unfold K6;simp only [jbK]
 cases l with
 | nil => simp [jbh] at h
 | cons c r =>
  cases hL : isL c
  ·cases hD : isD c
   ·have h3 : k = 3 /\ (len = 1 ∨ len = 2) := by
     cases h3 : jda joM (bs ((c :: r).take 2))
     ·cases h4 : jda jq5 (bs [c])
      ·simp only [jbh, hL, hD, h3, h4] at h
       cases h
      ·simp only [jbh, hL, hD, h3, h4] at h
       cases h; exact ⟨rfl, .inl rfl⟩
     ·simp only [jbh, hL, hD, h3] at h
      cases h; exact ⟨rfl, .inr rfl⟩
    right; left
    refine ⟨h3.1, c, r.take (len - 1), ?_, by unfold jgi; rw [hL, hD]; rfl⟩
    rcases h3.2 with e | e <;> rw [e] <;> rfl
   ·simp only [jbh, hL, hD] at h
    split at h
    ·cases h
    ·cases h
     exact .inr (.inr (.inr ⟨rfl, c, r.take (jaf isD r), List.take_succ_cons, hD⟩))
  ·simp only [jbh, hL] at h
   split at h
   ·cases h
   ·cases h
    left
    refine ⟨rfl, c, r.take (jaf jgi r), List.take_succ_cons, hL, fun x hx => ?_⟩
    rcases List.mem_cons.1 hx with rfl | hx
    ·unfold jgi; rw [hL]; rfl
    ·exact jgV jgi r x hx
theorem jiI : ∀ (f p : Nat) (l : List UInt8), ∀ t ∈ (jev f p l).toks, K6 t
 | 0, p, l => by simp [jev]
 | f + 1, p, [] => by simp [jev]
 | f + 1, p, c :: r => by
  rw [jev]
  split
  ·exact jiI f _ _
  ·split
   ·exact jiI f _ _
   ·cases ht : jbh (c :: r) with
    | bad e => simp
    | tok k len n =>
     intro t hm;simp only [Lx.cons, List.mem_cons] at hm
     rcases hm with rfl | hm
     ·exact jvY ht
     ·exact jiI f _ _ t hm
theorem jwh {s : ByteArray} (he : (jb4 s).err = none) : ∀ t ∈ jlS s, K6 t := fun t ht => by
 rw [jcJ he, List.mem_append] at ht
 rcases ht with ht | ht
 ·exact jiI _ _ _ t ht
 ·rw [List.mem_singleton.1 ht];exact .inr (.inr (.inl ⟨rfl, rfl⟩))
theorem joO {c : UInt8} (h : jgi c = true) : c ≠ 32 := fun e => by subst e; revert h; decide
theorem jw7 {t : Tk} (h : K6 t) : wOk t := fun hk => by
 rcases h with ⟨_, c, r, h1, _, h3⟩ | ⟨h1, _⟩ | ⟨h1, _⟩ | ⟨h1, _⟩
 ·rw [h1];exact ⟨by simp, fun x hx => joO (h3 x hx)⟩
 ·omega
 ·omega
 ·omega
theorem ju5 {s : ByteArray} (hs : s.size <= 3000) (he : (jb4 s).err = none) : TkP (jlS s) := ⟨juC hs he, fun t ht => jw7 (jwh he t ht)⟩
def okE (x e : Int) : Prop := (0 <= x /\ x <= 1000000000) /\ 0 < e /\ e <= 100
def jlB (p : Pn) : Prop := match p with
 | .bad x e => okE x e
 | _ => True
def jhr (op : List Tk -> Pn) : Prop := ∀ ts, TkP ts -> jlB (op ts)
theorem TkP.hp {ts : List Tk} (h : TkP ts) : (Vm.hd ts).pos <= 1000000000 := h.good.2.2.2.2.2
theorem jdk {ts : List Tk} (h : TkP ts) {e : Int} (he : 0 < e /\ e <= 100) : jlB (.bad (hd ts).pos e) := ⟨⟨by omega, by have := h.hp; omega⟩, he⟩
theorem jaw {p : Pn} {k : Nt -> List Tk -> Pn} (h : jlB p) (hk : ∀ f r, p = .ok f r -> jlB (k f r)) : jlB (p.andThen k) := by
 cases p with
 | ok f r => exact hk f r rfl
 | bad x e => exact h
theorem jbl {s : ByteArray} {ts : List Tk} {k : List Tk -> Pn} (h : TkP ts) (hk : TkP ts.tail -> jlB (k ts.tail)) : jlB (xpt s ts k) := by
 unfold xpt
 by_cases hs : isP s ts = true
 ·rw [if_pos hs]; exact hk (h.is hs).1
 ·rw [if_neg hs]; exact jdk h (by decide)
theorem jmz {lim : Int} {ts : List Tk} {k : Int -> List Tk -> Pn} (h : TkP ts) (hk : TkP ts.tail -> jlB (k (hd ts).n ts.tail)) : jlB (jjA lim ts k) := by
 unfold jjA
 by_cases h1 : (hd ts).kind ≠ 2
 ·rw [if_pos h1]; exact jdk h (by decide)
 ·rw [if_neg h1]
  by_cases h2 : lim <= (hd ts).n
  ·rw [if_pos h2]; exact jdk h (by decide)
  ·rw [if_neg h2];exact hk (h.tail (by rw [Decidable.not_not.1 h1]; decide)).1
theorem jfR {ts : List Tk} (h : TkP ts) : jlB (synE ts) := jdk h (by decide)
def jry (low : Option Pa) : Prop := ∀ p, low = some p -> jhr p.no /\ jhr p.un /\ jhr p.ex /\ jhr p.bl
theorem jne {low : Option Pa} (hg : jjy low) (hl : jry low) : jhr (jhD low) := fun ts h => by
 unfold jhD
 by_cases hs : isP pLp ts = true
 ·rw [if_pos hs]
  cases low with
  | none => exact jdk h (by decide)
  | some p =>
   have q := (h.is hs).1
   exact jaw ((hl p rfl).2.2.1 _ q) fun f r e => jbl ((hg p rfl).2.2.1 _ _ _ q e).1 fun _ => trivial
 ·rw [if_neg hs]; exact jfR h
theorem jaC {c : Prop} [Decidable c] {a b : Pn} (h1 : c -> jlB a) (h2 : ¬ c -> jlB b) : jlB (if c then a else b) := by
 by_cases h : c
 ·rw [if_pos h]; exact h1 h
 ·rw [if_neg h]; exact h2 h
theorem jsp {low : Option Pa} (hg : jjy low) (hl : jry low) : jhr (jjb low) := fun ts h => by
 unfold jjb
 refine jaC (fun hs => jne hg hl ts h) fun _ => ?_
 refine jaC (fun hs => jaw (jne hg hl _ (h.is hs).1) fun _ _ _ => trivial) fun _ => ?_
 refine jaC (fun hs => trivial) fun _ => ?_
 refine jaC (fun hs => trivial) fun _ => ?_
 refine jaC (fun hs => trivial) fun _ => ?_
 refine jaC (fun hs => trivial) fun _ => ?_
 exact jaC (fun hs => trivial) fun _ => jfR h
theorem jpQ {s : ByteArray} {op : Option (List Tk -> Pn)} (hl : ∀ f, op = some f -> jhr f) {ts : List Tk} (h : TkP ts) (hs : isP s ts = true) : jlB (jrF s op ts) := by
 cases op with
 | none => exact jdk h (by decide)
 | some f => exact jaw (hl f rfl _ (h.is hs).1) fun _ _ _ => trivial
theorem jpE {low : Option Pa} (hg : jjy low) (hl : jry low) : jhr (jiq low) := fun ts h => by
 unfold jiq
 refine jaC (fun hs => jpQ (fun f hf => ?_) h hs) fun _ => jsp hg hl ts h
 obtain ⟨p, hp, rfl⟩ := Option.map_eq_some_iff.1 hf
 exact (hl p hp).2.1
theorem jls {op : List Tk -> Pn} (hg : jaW op) (ho : jhr op) (signs : List ByteArray) : ∀ (n : Nat) (l : Nt) (ts : List Tk), TkP ts -> jlB (jeR op signs n l ts)
 | 0, l, ts, h => trivial
 | n + 1, l, ts, h => by
  rw [jeR]
  refine jaC (fun hs => ?_) fun _ => trivial
  obtain ⟨s, hs⟩ := jfL hs
  have q := (h.is hs).1
  exact jaw (ho _ q) fun f r e => jls hg ho signs n _ _ (hg _ _ _ q e).1
theorem jjm {op : List Tk -> Pn} (hg : jaW op) (ho : jhr op) (signs : List ByteArray) : jhr (jd3 op signs) := fun ts h => by
 unfold jd3
 exact jaw (ho _ h) fun f r e => jls hg ho signs _ _ _ (hg _ _ _ h e).1
theorem jqd {low : Option Pa} (hg : jjy low) (hl : jry low) : jhr (jvj low) := jjm (jcp (jdP hg) _) (jjm (jdP hg) (jpE hg hl) _) _
theorem jrb {low : Option Pa} (hg : jjy low) (hl : jry low) : jhr (ntG low) := fun ts h => by
 unfold ntG
 refine jaC (fun hs => jpQ (fun f hf => ?_) h hs) fun _ => ?_
 ·obtain ⟨p, hp, rfl⟩ := Option.map_eq_some_iff.1 hf
  exact (hl p hp).1
 ·refine jaw (jqd hg hl _ h) fun l r e => ?_
  have q := (jgm hg _ _ _ h e).1
  refine jaC (fun hs => ?_) fun _ => trivial
  obtain ⟨s, hs⟩ := jfL hs
  exact jaw (jqd hg hl _ (q.is hs).1) fun _ _ _ => trivial
theorem jqG {low : Option Pa} (hg : jjy low) (hl : jry low) : jhr (jvG low) := jjm (jcp (jdX hg) _) (jjm (jdX hg) (jrb hg hl) _) _
theorem jx4 {ex bl : List Tk -> Pn} (gex : jaW ex) (gbl : jaW bl) (hex : jhr ex) (hbl : jhr bl) : jhr (stG ex bl) := fun ts h => by
 unfold stG
 refine jaC (fun hn => ?_) fun _ => ?_
 ·have q := (h.tail (by rw [jcE hn]; decide)).1
  exact jbl q fun q => jaw (hex _ q) fun f r e => jbl (gex _ _ _ q e).1 fun _ => trivial
 refine jaC (fun _ => jfR h) fun hk => ?_
 have q := (h.tail (by rw [Decidable.not_not.1 hk]; decide)).1
 refine jaC (fun _ => jaw (hex _ q) fun f r e => jaw (hbl _ (gex _ _ _ q e).1) fun f2 r2 e2 => jaC (fun hs => jaw (hbl _ ((gbl _ _ _ (gex _ _ _ q e).1 e2).1.is hs).1) fun _ _ _ => trivial) fun _ => trivial) fun _ => ?_
 refine jaC (fun _ => jaw (hex _ q) fun f r e => jaw (hbl _ (gex _ _ _ q e).1) fun _ _ _ => trivial) fun _ => ?_
 refine jaC (fun _ => jaw (hex _ q) fun f r e => jbl (gex _ _ _ q e).1 fun q => jmz q fun q => jbl q fun q => jaw (hex _ q) fun f r e => jbl (gex _ _ _ q e).1 fun q => jaw (hex _ q) fun f r e => jbl (gex _ _ _ q e).1 fun _ => trivial) fun _ => ?_
 refine jaC (fun _ => jmz q fun q => jbl q fun _ => trivial) fun _ => ?_
 refine jaC (fun _ => jmz q fun q => jbl q fun _ => trivial) fun _ => ?_
 refine jaC (fun _ => jbl q fun _ => trivial) fun _ => ?_
 refine jaC (fun _ => jaw (hex _ q) fun f r e => jbl (gex _ _ _ q e).1 fun q => jaw (hex _ q) fun f r e => jbl (gex _ _ _ q e).1 fun _ => trivial) fun _ => ?_
 refine jaC (fun _ => jaw (hex _ q) fun f r e => jbl (gex _ _ _ q e).1 fun _ => trivial) fun _ => ?_
 exact jaC (fun _ => jbl q fun _ => trivial) fun _ => jfR h
theorem jo8 {st : List Tk -> Pn} (gst : GoesS st) (hst : jhr st) : ∀ (n : Nat) (acc : List Nt) (ts : List Tk), TkP ts -> jlB (jp3 st n acc ts)
 | 0, acc, ts, h => jfR h
 | n + 1, acc, ts, h => by
  rw [jp3]
  exact jaC (fun _ => trivial) fun _ => jaw (hst _ h) fun f r e => jo8 gst hst n _ _ (gst _ _ _ h e).1
theorem jxc {st : List Tk -> Pn} (gst : GoesS st) (hst : jhr st) : jhr (bkF st) := fun ts h => by
 unfold bkF
 exact jbl h fun q => jo8 gst hst _ _ _ q
theorem jtg {low : Option Pa} (hl : jry low) : jhr (jxl low) := by
 cases low with
 | none => exact fun ts h => jaC (fun _ => jdk h (by decide)) fun _ => jfR h
 | some p => exact (hl p rfl).2.2.2
theorem jtr {low : Option Pa} (hg : jjy low) (hl : jry low) : jry (some (paG low)) := fun p hp => by
 cases hp
 exact ⟨jrb hg hl, jpE hg hl, jqG hg hl, jxc (jjo (jcZ hg) (jcz hg)) (jx4 (jcZ hg) (jcz hg) (jqG hg hl) (jtg hl))⟩
theorem jn2 : ∀ d, jjy (some (pa d)) /\ jry (some (pa d))
 | 0 => ⟨jlE (fun _ h => by cases h), jtr (fun _ h => by cases h) (fun _ h => by cases h)⟩
 | d + 1 => ⟨jlE (jn2 d).1, jtr (jn2 d).1 (jn2 d).2⟩
theorem jvk : jhr (pa 19).bl := ((jn2 19).2 _ rfl).2.2.2
theorem jbO {ts : List Tk} (h : TkP ts) {e : Int} (he : 0 < e /\ e <= 100) : okE (hd ts).pos e := jdk h he
theorem jnQ {lim off : Int} {ts : List Tk} (h : TkP ts) {x e : Int} (k : jp5 lim off ts = .bad x e) : okE x e := by
 unfold jp5 at k
 split at k
 ·cases k; exact jbO h (by decide)
 ·split at k
  ·cases k; exact jbO h (by decide)
  ·cases k
theorem jx1 {hs : List (Int × Nt)} {ts : List Tk} (h : TkP ts) {x e : Int} (k : heF hs ts = .bad x e) : okE x e := by
 unfold heF at k
 cases hh : hnF ts with
 | bad x2 e2 =>
  rw [hh] at k
  cases k
  unfold hnF at hh
  by_cases h1 : isP ji5 ts = true
  ·rw [if_pos h1] at hh; cases hh
  rw [if_neg h1] at hh
  by_cases h2 : isP jdM ts = true
  ·rw [if_pos h2] at hh; cases hh
  rw [if_neg h2] at hh
  by_cases h3 : isP jbq ts = true
  ·rw [if_pos h3] at hh; exact jnQ (h.is h3).1 hh
  rw [if_neg h3] at hh
  by_cases h4 : isP jdD ts = true
  ·rw [if_pos h4] at hh; exact jnQ (h.is h4).1 hh
  rw [if_neg h4] at hh
  cases hh
  exact jbO h (by decide)
 | ok k2 r2 =>
  rw [hh] at k
  simp only at k
  split at k
  ·cases k; exact jbO h (by decide)
  ·cases k
theorem jtD (du vo : List ByteArray) : ∀ (n : Nat) (hs : List (Int × Nt)) (ts : List Tk) (x e : Int), TkP ts -> jrL du vo n hs ts = .bad x e -> okE x e
 | 0, hs, ts, x, e, h, k => by cases k; exact jbO h (by decide)
 | n + 1, hs, ts, x, e, h, k => by
  rw [jqc] at k
  by_cases hk : (hd ts).kind = 0
  ·rw [if_pos hk] at k; cases k
  rw [if_neg hk] at k
  by_cases ho : isP wOn ts = false
  ·rw [if_pos ho] at k; cases k; exact jbO h (by decide)
  rw [if_neg ho] at k
  have q := (h.tail hk).1
  cases hh : heF hs ts.tail with
  | bad x2 e2 => rw [hh] at k; cases k; exact jx1 q hh
  | ok k2 r =>
   rw [hh] at k
   simp only at k
   obtain ⟨_, q2, _⟩ := jtA q hh
   have hb := jvk _ q2
   cases hbl : (pa 19).bl r with
   | bad x2 e2 => rw [hbl] at k hb; cases k; exact hb
   | ok b r2 =>
    rw [hbl] at k;exact jtD du vo n _ _ _ _ (jgX _ _ _ q2 hbl).1 k
theorem jpu : ∀ (n : Nat) (nm out : List ByteArray) (ts : List Tk) (x e : Int), TkP ts -> (hd ts).kind ≠ 0 -> jkh n nm out ts = .bad x e -> okE x e
 | 0, nm, out, ts, x, e, h, hk, k => by cases k; exact jbO h (by decide)
 | n + 1, nm, out, ts, x, e, h, hk, k => by
  rw [jjh] at k
  have q := (h.tail hk).1
  by_cases hn : jg6 ts.tail = false
  ·rw [if_pos hn] at k; cases k; exact jbO q (by decide)
  rw [if_neg hn] at k
  by_cases hh : jda nm (hd ts.tail).text = true
  ·rw [if_pos hh] at k; cases k; exact jbO q (by decide)
  rw [if_neg hh] at k
  by_cases h6 : nm.length = 16
  ·rw [if_pos h6] at k; cases k; exact jbO q (by decide)
  rw [if_neg h6] at k
  have q3 := (q.tail (by rw [jcE (by simpa using hn)]; decide)).1
  unfold deH at k
  by_cases hc : isP jb6 ts.tail.tail = true
  ·rw [if_pos hc] at k;exact jpu n _ _ _ _ _ q3 (jbV hc) k
  ·rw [if_neg hc] at k
   by_cases hs : isP jaS ts.tail.tail = true
   ·rw [if_pos hs] at k; cases k
   ·rw [if_neg hs] at k; cases k; exact jbO q3 (by decide)
theorem jqp : ∀ (n : Nat) (nm du vo : List ByteArray) (ts : List Tk) (x e : Int), TkP ts -> nm.length <= 16 -> jsL n nm du vo ts = .bad x e -> okE x e
 | 0, nm, du, vo, ts, x, e, h, h16, k => by cases k; exact jbO h (by decide)
 | n + 1, nm, du, vo, ts, x, e, h, h16, k => by
  rw [jsL] at k
  by_cases h1 : isP jcV ts = true
  ·rw [if_pos h1] at k
   cases hd : jkh ts.length nm [] ts with
   | bad x2 e2 => rw [hd] at k; cases k; exact jpu _ _ _ _ _ _ h (jbV h1) hd
   | ok nm2 out r =>
    rw [hd] at k
    obtain ⟨k1, k2, k3, k4⟩ := jcd _ _ _ _ _ _ _ h (jbV h1) h16 hd
    exact jqp n _ _ _ _ _ _ k1 k3 k
  rw [if_neg h1] at k
  by_cases h2 : isP jdn ts = true
  ·rw [if_pos h2] at k
   cases hd : jkh ts.length nm [] ts with
   | bad x2 e2 => rw [hd] at k; cases k; exact jpu _ _ _ _ _ _ h (jbV h2) hd
   | ok nm2 out r =>
    rw [hd] at k
    obtain ⟨k1, k2, k3, k4⟩ := jcd _ _ _ _ _ _ _ h (jbV h2) h16 hd
    exact jqp n _ _ _ _ _ _ k1 k3 k
  rw [if_neg h2] at k;exact jtD _ _ _ _ _ _ _ h k
theorem jsF {ts : List Tk} (h : TkP ts) {x e : Int} (k : jx3 ts = .bad x e) : okE x e := jqp _ _ _ _ _ _ _ h (Nat.zero_le _) k
end Go.Proofs.YtfbifdccmabdbaaGreatDoor.Vm
namespace Go.Proofs.YtfbifdccmabdbaaGreatDoor.Vm
open Go.RowKit
set_option linter.unusedSimpArgs false
set_option linter.unusedVariables false
section
def ClD (P : Program) (f : Nat) (u u' : FrameMode) : Array Value -> World -> (Ending -> World -> Prop) -> Prop := fun vs w R => CallsD P f vs u w fun e m w' => m = u' /\ R e w'
theorem ClD.mono {P : Program} {f : Nat} {u u' : FrameMode} {vs : Array Value} {w : World} {R R' : Ending -> World -> Prop} (h : ∀ e w', R e w' -> R' e w') (k : ClD P f u u' vs w R) : ClD P f u u' vs w R' :=
 CallsD.mono k fun e m w' ⟨h1, h2⟩ => ⟨h1, h _ _ h2⟩
@[irreducible] def jxs (P : Program) (u u' : FrameMode) (f : Nat) (args : List A) (s : S) (K : S -> Prop) : Prop :=
 (∀ vs w, (callFunc f vs).run P w = .ok (.enter f vs) w) ∧
 ∃ (X ids : List Nat) (ins : List (List A)) (args' : List A) (post : List (List A) -> A -> Prop), X.Nodup /\ (∀ i ∈ X, i < s.bx.length) ∧
  jef X (ja0 s.rw ids) (X.map fun i => s.bx.getD i []) = some ins /\ jcc X (ja0 s.rw ids) args = some args' /\ (okL args' -> jos (ClD P f u u') ins args' post fun _ => False) ∧
  ∀ outs r, post outs r -> outs.length = X.length -> joN X s.bx X outs fun bx' => jbm (back X r) fun _ => jax (ja0 s.rw ids) fun rw' => jbw s bx' rw' K
def jff (c : Cx) (rv : List ResultVar) (post : List (List A) -> A -> Prop) : List (Nat × List A) -> FrameMode -> S -> Prop
 | [], .returning, s => jvo c rv post s
 | [], _, _ => False
 | (f, args) :: r, u, s => u ≠ .run /\ ∃ u', jxs c.P u u' f args s fun s' => jff c rv post r (settle u') s'
section
variable {c : Cx} {w0 : W0} {C0 : Rd} {β0 : List Nat}
theorem jfe {fn : Func} {post : List (List A) -> A -> Prop} {R : Ending -> World -> Prop} {tmps : Array Value} (hfin : ∀ s' w', jvo c fn.results.toList post s' -> Inv [] w0 C0 β0 s' { tmps := tmps, defers := [] } w' -> ∃ v, (results fn tmps).run c.P w' = .ok v w' /\ R (.returned v) w') :
  ∀ (dr : List (Nat × List A)) (ds : List Deferred) (u : FrameMode) (s : S) (E : Env) (w : World), repD dr E ds -> Hp w0 C0 β0 s.bx s.rw w E -> A.repL s.t E tmps.toList -> jff c fn.results.toList post dr u s -> Leaves c.P fn tmps R ds u w
 | [], ds, u, s, E, w, hd, hp, ht, h => by
  obtain rfl : ds = [] := hd
  cases u with
  | returning => exact hfin s w h ⟨E, hp, ht, rfl⟩
  | run => exact h.elim
  | panicking ch => exact h.elim
 | (f, args) :: r, ds, u, s, E, w, ⟨d, ds', cap, hds, htg, hargs, hrest⟩, hp, ht, h => by
  subst hds
  obtain ⟨hu, u', h⟩ := h
  unfold jxs at h
  obtain ⟨hcall, X, ids, ins, args', post', hn, hX, hins, hargs', hspec, hk⟩ := h
  have hcx := jjx (pan := fun _ _ => False) (Xr := fun _ => true) (K := fun _ s' => jff c fn.results.toList post r (settle u') s') (Cl := ClD c.P f u u') ClD.mono hp hargs hn (fun _ _ => rfl) hX hins hargs' hspec (fun outs r hp hl => hk outs r hp hl) (fun ch bx' h _ _ => h.elim)
  obtain ⟨t, da⟩ := d
  simp only at htg hargs hcx
  subst htg;refine leaves_cons (f := f) (args := da ++ cap) hu (by simp [invoke, hcall]) ?_
  have hcx' : CallsD c.P f (da ++ cap) u w fun e m w' => m = u' /\ ((∃ y, e = .returned y /\ Left w0 C0 β0 (fun _ => true) s E w (fun _ s' => jff c fn.results.toList post r (settle u') s') y w') ∨ ∃ (ch : List PanicEntry) (s' : S) (E' : Env), e = .panicked ch /\ False /\ s'.t = s.t /\ E.le E' /\ Hp w0 C0 β0 s'.bx s'.rw w' E') := hcx
  refine CallsD.mono hcx' ?_;rintro e m w' ⟨rfl, ⟨y, rfl, ⟨⟨r0, s', E', h1, h2, h3, h4, h5, _⟩⟩⟩ | ⟨ch, s', E', _, h, _⟩⟩
  ·exact jfe hfin r ds' _ s' E' w' (hrest.mono h3) h4 (by rw [h2]; exact A.repL.mono _ h3 ht) h1
  ·exact h.elim
@[irreducible] def OkT (P : Program) (np : Nat) (pt : List (Nat × List A) -> List PanicEntry -> S -> Prop) (qt : List (Nat × List A) -> Exit -> S -> Prop) (dr : List (Nat × List A)) (x : Code) (s : S) : Prop :=
 ∀ (w0 : W0) (C0 : Rd) (β0 : List Nat) (a : Act) (w : World) (Q : Exit -> Act -> World -> Prop), β0.length = np -> Inv dr w0 C0 β0 s a w -> (∀ dr' ch s' a' w', pt dr' ch s' -> Inv dr' w0 C0 β0 s' a' w' -> Q (.panic ch) a' w') -> (∀ dr' e s' a' w', qt dr' e s' -> Inv dr' w0 C0 β0 s' a' w' -> Q e a' w') -> x.wp P Q a w
def tQ (P : Program) (np : Nat) (pt : List (Nat × List A) -> List PanicEntry -> S -> Prop) (qt : List (Nat × List A) -> Exit -> S -> Prop) (dr : List (Nat × List A)) (y : Code) (e : Exit) (s : S) : Prop := match e with
 | .normal => OkT P np pt qt dr y s
 | e => qt dr e s
variable {pt : List (Nat × List A) -> List PanicEntry -> S -> Prop} {qt : List (Nat × List A) -> Exit -> S -> Prop} {dr : List (Nat × List A)} {s : S}
theorem jns {x : Code} (hc : c.ok) (hdr : ∃ n, jbQ n dr = true) (hl : jbQ c.np dr = true ∨ jbP x = true) (ho : jbA c.ord x = true) (hp : ∀ ch s', c.pan ch s' -> pt dr ch s') (h : awp c x s (qt dr)) : OkT c.P c.np pt qt dr x s := by
 unfold OkT
 exact fun w0 C0 β0 a w Q hn hi hx hk => jd7 hc hn hdr x hl (fun ch s' a' w' h1 h2 => hx dr ch s' a' w' (hp ch s' h1) h2) ho hi h fun e s' a' w' h1 h2 => hk dr e s' a' w' h1 h2
theorem jaT {x y : Code} (hc : c.ok) (hdr : ∃ n, jbQ n dr = true) (hl : jbQ c.np dr = true ∨ jbP x = true) (ho : jbA c.ord x = true) (hp : ∀ ch s', c.pan ch s' -> pt dr ch s') (h : awp c x s (tQ c.P c.np pt qt dr y)) : OkT c.P c.np pt qt dr (.seq x y) s := by
 unfold OkT;intro w0 C0 β0 a w Q hn hi hx hk;refine wp_seq (jd7 hc hn hdr x hl (fun ch s' a' w' h1 h2 => hx dr ch s' a' w' (hp ch s' h1) h2) ho hi h fun e s' a' w' h1 h2 => ?_)
 cases e with
 | normal =>
  have h1 : OkT c.P c.np pt qt dr y s' := h1
  unfold OkT at h1;exact h1 w0 C0 β0 a' w' Q hn h2 hx hk
 | _ => exact hk dr _ _ _ _ h1 h2
def jyo (s : S) (fo : Operand) (xs : List Operand) (K : Nat -> List A -> Prop) : Prop := match ev s fo with
 | .clo f caps => K f (xs.map (ev s) ++ caps)
 | .bm f fs => K f (fs ++ xs.map (ev s))
 | _ => False
theorem jiH {ops l2 : List Oper} {Q : Exit -> Act -> World -> Prop} (hc : c.ok) (hdr : ∃ n, jbQ n dr = true) (hx : ∀ ch s' a' w', c.pan ch s' -> Inv dr w0 C0 β0 s' a' w' -> Q (.panic ch) a' w') : ∀ {l : List Oper} {s : S} {a : Act} {w : World} {K : S -> Prop}, Inv dr w0 C0 β0 s a w -> jme c ops l s K -> (∀ s' a' w', K s' -> Inv dr w0 C0 β0 s' a' w' -> wpList c.P ops.toArray Q l2 a' w') -> wpList c.P ops.toArray Q (l ++ l2) a w
 | [], s, a, w, K, hi, h, hk => hk s a w h hi
 | o :: r, s, a, w, K, hi, h, hk => by
  obtain ⟨E, hp, ht, hd⟩ := hi
  change jeg ops o s (ado c (fun _ => true) s o fun s' => jme c ops r s' K) (jcw s o.dst (.tup []) fun s' => jme c ops r s' K) at h
  refine wpList_step fun Kc hKc => ?_
  rcases jc8 ht h with ⟨h1, h2⟩ | ⟨h1, h2⟩
  ·rw [if_pos h1]
   exact jqu hc hdr ⟨E, hp, ht, hd⟩ h2 hx fun s' a' w' h3 h4 => hKc _ _ (jiH hc hdr hx h4 h3 hk)
  ·rw [if_neg (by rw [h1]; simp)]
   obtain ⟨s2, k1, k2, k3, k4, k5⟩ := jaM (a := a) hp ht hd (jb8 _) h2
   exact hKc _ _ (jiH hc hdr hx ⟨E, by rw [k2, k3]; exact hp, k4, k5⟩ k1 hk)
theorem jqF {id : Nat} {l : List Oper} {od : Oper} {fo : Operand} {xs : Array Operand} {ts : Array TypeId} {y : Code} (hc : c.ok) (hdr : ∃ n, jbQ n dr = true) (hp : ∀ ch s', c.pan ch s' -> pt dr ch s') (hop : od.op = .defer ⟨.value fo, xs, ts⟩) (hg : od.guard = none) (hd : od.dst = none)
  (h : jme c (l ++ [od]) l s fun s' => jyo s' fo xs.toList fun f args => OkT c.P c.np pt qt ((f, args) :: dr) y s') : OkT c.P c.np pt qt dr (.seq (.region id (l ++ [od]).toArray false) y) s := by
 unfold OkT;intro w0 C0 β0 a w Q hn hi hx hk;refine wp_seq (wp_region_lit (jiH (l2 := [od]) (Q := Exit.then (y.wp c.P Q) Q) hc hdr (fun ch s' a' w' h1 h2 => hx dr ch s' a' w' (hp ch s' h1) h2) hi h fun s' a' w' h1 h2 => ?_))
 refine wpList_step fun Kc hKc => ?_
 rw [if_pos (by simp [Region.wanted, hg])]
 obtain ⟨E, hpp, ht, hdd⟩ := h2
 unfold jyo at h1
 split at h1
 ·rename_i f caps hev
  have hf := jag ht fo
  rw [hev] at hf;unfold A.rep at hf
  obtain ⟨us, hf, hcaps⟩ := hf
  have hrun : (execOp a'.eval od).run c.P w' = .ok (.defer { target := .fn (.func f) us, args := xs.map a'.eval }) w' := by simp [execOp, hop, resolve, Deferred.ofValue, hf, Result.andThen]
  unfold Oper.wp;rw [hrun, Oper.upon_defer];rw [hd];unfold OkT at h1;refine hKc _ _ (h1 w0 C0 β0 _ w' Q hn ⟨E, hpp, ht, { target := .fn (.func f) us, args := xs.map a'.eval }, a'.defers, us, rfl, rfl, ?_, hdd⟩ hx hk)
  have := A.repL_append (jcl ht xs.toList) hcaps
  simpa using this
 ·rename_i f fs hev
  have hf := jag ht fo
  rw [hev] at hf;unfold A.rep at hf
  obtain ⟨us, hf, hcaps⟩ := hf
  have hrun : (execOp a'.eval od).run c.P w' = .ok (.defer { target := .fn (.func f) #[], args := us ++ xs.map a'.eval }) w' := by simp [execOp, hop, resolve, Deferred.ofValue, hf, Result.andThen]
  unfold Oper.wp;rw [hrun, Oper.upon_defer];rw [hd];unfold OkT at h1;refine hKc _ _ (h1 w0 C0 β0 _ w' Q hn ⟨E, hpp, ht, { target := .fn (.func f) #[], args := us ++ xs.map a'.eval }, a'.defers, #[], rfl, rfl, ?_, hdd⟩ hx hk)
  have := A.repL_append hcaps (jcl ht xs.toList)
  simpa using this
 ·exact h1.elim
theorem jks {n : Nat} {ins : List (List A)} {args : List A} {w : World} {C : Rd} {β : List Nat} {vals : List Value} (h0 : Gok C w) (h1 : Sub C (see w)) (h2 : β.Nodup) (h3 : ∀ b ∈ β, ∀ o sp, C ⟨b, o, sp⟩ = none) (h4 : ins.length = β.length)
  (h5 : ∀ (i b : Nat) (cs : List A), β[i]? = some b -> ins[i]? = some cs -> boxAt w ⟨C, β, []⟩ b cs) (h6 : A.repL args ⟨C, β, []⟩ vals) :
  Inv [] (.of w) C β ⟨args ++ List.replicate (n - args.length) .dead, ins, []⟩ { tmps := vals.toArray ++ Array.replicate (n - vals.toArray.size) undef, defers := [] } w := by
 have hl := A.repL_len h6
 refine ⟨⟨C, β, []⟩, ⟨h1, Sub.refl _, fun _ _ hc => .inl hc, ⟨[], by simp, by simp⟩, h2, h3, h4, h5, rfl, fun g r y hg => by simp at hg, fun g e k n cs y b hg => by simp at hg, fun g e k n cs y h' e' k' n' cs' z b _ hg => by simp at hg, fun g y hg => by simp at hg, Keeps.refl _ _, jvI h0⟩, ?_, rfl⟩
 have : (vals.toArray ++ Array.replicate (n - vals.toArray.size) undef).toList = vals ++ List.replicate (n - args.length) undef := by simp [hl]
 rw [this];exact A.repL_append h6 (jcD _ _)
theorem jrH {f : Nat} {fn : Func} {x : Code} {ins : List (List A)} {args : List A} {post : List (List A) -> A -> Prop} (hc : c.ok) (hf : c.P.funcs[f]? = some fn) (hb : fn.body = some x) (hname : (fn.name == "runtime.NumGoroutine") = false)
  (hn : ins.length = c.np) (h : okL args -> jde args (fn.ntmps - args.length) fun t => OkT c.P c.np (fun dr ch s => jff c fn.results.toList post dr (.panicking ch) s) (fun dr e s => (e = .normal ∨ e = .ret) /\ jff c fn.results.toList post dr .returning s) [] x ⟨t, ins, []⟩) : Spec c.P f ins args post := by
 refine ⟨jdH hf hb hname, fun w C β vals h0 h1 h2 h3 h4 h5 h6 => ?_⟩;refine calls_of_wp_defers hf hb ?_
 have hinit := initK_iff.1 (h (jbk _ h6))
 have hinv := jks (n := fn.ntmps) h0 h1 h2 h3 h4 h5 h6
 unfold OkT at hinit
 have hfin : ∀ (tmps : Array Value) (s' : S) (w' : World), jvo c fn.results.toList post s' -> Inv [] (.of w) C β s' { tmps := tmps, defers := [] } w' -> ∃ v, (results fn tmps).run c.P w' = .ok v w' /\ ∃ outs r v', Ending.returned v = .returned v' /\ post outs r /\ Keeps β w w' /\ outs.length = β.length ∧
   (∀ (i b : Nat) (cs : List A), β[i]? = some b -> outs[i]? = some cs -> boxAt w' ⟨jbe C w w', β, []⟩ b cs) /\ r.rep ⟨jbe C w w', β, []⟩ v' := fun tmps s' w' hr hi =>
  (jpc (w := w) (C := C) (β := β) (fn := fn) (post := post) hc h1 (by rw [<- h4, hn]) hr hi).2
 refine hinit (.of w) C β _ w _ (by rw [<- h4, hn]) hinv (fun dr ch s' a' w' hl ⟨E, hp, ht, hd⟩ => ?_) (fun dr e s' a' w' hl ⟨E, hp, ht, hd⟩ => ?_)
 ·exact jfe (hfin a'.tmps) dr a'.defers _ s' E w' hd hp ht hl
 ·obtain ⟨he, hl⟩ := hl
  rcases he with rfl | rfl
  ·exact jfe (hfin a'.tmps) dr a'.defers _ s' E w' hd hp ht hl
  ·exact jfe (hfin a'.tmps) dr a'.defers _ s' E w' hd hp ht hl
theorem jiN {c0 : Frame} {cs : List Frame} (h : c0.mode = .returning) : recoverD (c0 :: cs) = none := by
 simp [recoverD, h]
theorem jiF {c0 : Frame} {cs : List Frame} {v : Value} {older : List PanicEntry} (h : c0.mode = .panicking (⟨v, false, false⟩ :: older)) : recoverD (c0 :: cs) = some (v, { c0 with mode := .panicking (⟨v, true, false⟩ :: older) } :: cs) := by
 simp [recoverD, h]
theorem jpX {f id d0 : Nat} {fn : Func} {o0 : Oper} {ts : Array TypeId} {rest : Code} {ins : List (List A)} {args : List A} {post : List (List A) -> A -> Prop} {u u' : FrameMode} {rv : Value} (hc : c.ok) (hq : ∀ ch s, ¬ c.pan ch s) (hf : c.P.funcs[f]? = some fn) (hb : fn.body = some (.seq (.region id #[o0] false) rest))
  (k0 : o0.op = .call ⟨.builtin .recover, #[], ts⟩ /\ o0.guard = none /\ o0.dst = some d0) (hd0 : d0 < fn.ntmps) (hv : okV rv)
  (hu : (u = .returning /\ u' = .returning /\ rv = .nilIface) ∨ ∃ v older, u = .panicking (⟨v, false, false⟩ :: older) /\ u' = .panicking (⟨v, true, false⟩ :: older) /\ rv = v)
  (hn : ins.length = c.np) (h : okL args -> jde args (fn.ntmps - args.length) fun t => Ok c rest ⟨t.set d0 (.v rv), ins, []⟩ (jwy c fn.results.toList post)) : jos (ClD c.P f u u') ins args post fun _ => False := by
 intro w C β vals h0 h1 h2 h3 h4 h5 h6;unfold ClD
 refine callsD_of_wpS hf hb fun c0 cs hu0 => wpS_seq (wpS_region ?_)
 have hinit := initK_iff.1 (h (jbk _ h6))
 have hinv := jks (n := fn.ntmps) h0 h1 h2 h3 h4 h5 h6
 have hnp : β.length = c.np := by rw [<- h4, hn]
 generalize hA : ({ tmps := vals.toArray ++ Array.replicate (fn.ntmps - vals.toArray.size) undef, defers := [] } : Act) = a0 at *
 have hsz : d0 < a0.tmps.size := by rw [<- hA]; simp; omega
 obtain ⟨E, hp, ht, hd⟩ := hinv
 have hi2 : Inv [] (.of w) C β ⟨(args ++ List.replicate (fn.ntmps - args.length) A.dead).set d0 (.v rv), ins, []⟩ (a0.put (some d0) rv) w := by
  refine ⟨E, hp, ?_, hd⟩
  show A.repL _ E (a0.tmps.setIfInBounds d0 rv).toList
  rw [Array.toList_setIfInBounds];exact A.repL_set ht d0 (A.rep_v hv)
 have e0 : (execOp a0.eval o0).run c.P w = .ok .recover w := by
  simp [execOp, k0.1, resolve, invoke, Result.andThen]
  rfl
 have hrange : List.range (#[o0] : Array Oper).size = [0] := rfl
 rw [hrange]
 have g0 : (#[o0] : Array Oper)[0]? = some o0 := rfl
 have w0' : ∀ y, Region.wanted o0 y = true := fun y => by simp [Region.wanted, k0.2.1]
 simp only [wpOpsS, g0, w0', if_true, e0];unfold Ok OkD at hinit
 have fin : ∀ cs', cs' = { c0 with mode := u' } :: cs -> rest.wpS c.P (bodyPostS c.P fn c0 cs fun e m w' => m = u' /\ ((∃ outs r v, e = .returned v /\ post outs r /\ Keeps β w w' /\ outs.length = β.length ∧
   (∀ (i b : Nat) (cs : List A), β[i]? = some b -> outs[i]? = some cs -> boxAt w' ⟨jbe C w w', β, []⟩ b cs) /\ r.rep ⟨jbe C w w', β, []⟩ v) ∨
   ∃ (ch : List PanicEntry) (ns : List Nat), e = .panicked ch /\ False /\ Keeps β w w' /\ ns.length = β.length /\ ∀ (i b n : Nat), β[i]? = some b -> ns[i]? = some n -> boxAt w' ⟨C, β, []⟩ b (List.replicate n .dead))) (a0.put (some d0) rv) cs' w := fun cs' hcs => by
  subst hcs;refine wpS_of_wp ?_
  refine hinit (.of w) C β _ w _ hnp hi2 (fun ch s' _ _ hh _ => absurd hh (hq ch s')) fun e s' a' w' he hi => ?_
  have ff := fun (hr : jvo c fn.results.toList post s') => jpc (w := w) (C := C) (β := β) (fn := fn) (post := post) hc h1 hnp hr hi
  cases e with
  | normal => obtain ⟨q1, v, q2, q3⟩ := ff he; exact ⟨q1, u', rfl, v, q2, rfl, .inl q3⟩
  | ret => obtain ⟨q1, v, q2, q3⟩ := ff he; exact ⟨q1, u', rfl, v, q2, rfl, .inl q3⟩
  | _ => exact he.elim
 rcases hu with ⟨rfl, rfl, rfl⟩ | ⟨v, older, rfl, rfl, rfl⟩
 ·rw [jiN hu0];simp only [k0.2.2];exact fin _ (by rw [<- hu0])
 ·rw [jiF hu0];simp only [k0.2.2];exact fin _ rfl
end
end
end Go.Proofs.YtfbifdccmabdbaaGreatDoor.Vm
namespace Go.Proofs.YtfbifdccmabdbaaGreatDoor.Vm
open Go.RowKit Go.Shelf
set_option linter.unusedSimpArgs false
set_option linter.unusedVariables false
set_option maxRecDepth 100000
theorem joJ (u : Ut) : jos (ClD Tryz.prog 101 .returning .returning) [utA u, [intA 0], [intA 0]] [.box 0 0, .box 1 0, .box 2 0] (fun o r => o = [utA u, [intA 0], [intA 0]] /\ r = .tup []) fun _ => False := by
 refine jpX (ja4 jtx (fun _ => [0, 1, 2]) 3) (fun _ _ h => h) Tryz.func101 rfl (d0 := 6) ⟨rfl, rfl, rfl⟩ (by decide) (rv := .nilIface) trivial (.inl ⟨rfl, rfl, rfl⟩) rfl ?_;intro _;conv => whnf
 refine jb0 (ja4 _ _ _) (by kernel_rfl) ?_;conv => whnf
 exact ⟨rfl, rfl⟩
theorem jon (x e : Int) (hx : okE x e) (c0 c1 c2 b1 b2 : A) : jos (ClD Tryz.prog 101 (.panicking (jaB x e)) (.panicking [⟨.iface 142 (.agg #[.int .i64 x, .int .i64 e]), true, false⟩])) [[c0, c1, c2], [b1], [b2]] [.box 0 0, .box 1 0, .box 2 0]
  (fun o r => o = [jkI, [intA x], [intA e]] /\ r = .tup []) fun _ => False := by
 obtain ⟨hx, he⟩ := hx
 refine jpX (ja4 jtx (fun _ => [0, 1, 2]) 3) (fun _ _ h => h) Tryz.func101 rfl (d0 := 6) ⟨rfl, rfl, rfl⟩ (by decide) (rv := .iface 142 (.agg #[.int .i64 x, .int .i64 e])) trivial (.inr ⟨_, [], rfl, rfl, rfl⟩) rfl ?_;intro _;conv => whnf
 refine jb0 (ja4 _ _ _) (by kernel_rfl) ?_;conv => whnf
 refine ⟨?_, ?_⟩
 ·intro u hu
  simp at hu
  rcases hu with rfl | rfl
  ·exact okV_int.2 (jal (by omega))
  ·exact okV_int.2 (jal (by omega))
 conv => whnf
 exact ⟨rfl, rfl⟩
def jvv : PU -> A
 | .ok u => .tup [.agg (utA u), intA 0, intA 0]
 | .bad x e => .tup [.agg jkI, intA x, intA e]
def jxW (p : PU) (ch : List PanicEntry) (s : S) : Prop := ∃ (x e : Int) (c0 c1 c2 : A) (bx : List (List A)) (a b : A) (t : List A), p = .bad x e /\ okE x e /\ ch = jaB x e /\ s.bx = jkI :: [intA 0] :: [intA 0] :: bx /\ s.t = a :: b :: .box 0 0 :: .box 1 0 :: .box 2 0 :: t /\ s.rw = []
theorem jxD {l : List (List A)} {a b c d : List A} (h : l.length = 4) (k : ∀ j, j ≠ 3 -> l[j]? = [a, b, c, d][j]?) : ∃ d', l = [a, b, c, d'] := by
 match l, h with
 | [x, y, z, w], _ =>
  have h0 := k 0 (by decide)
  have h1 := k 1 (by decide)
  have h2 := k 2 (by decide)
  simp at h0 h1 h2
  exact ⟨w, by rw [h0, h1, h2]⟩
def jhG (id : Nat) : Tr := match Nat.beq id 5 with
 | true => .q 0 3 (.alt 1 2 (.alt 2 2 (.alt 3 2 (.alt 4 2 (.alt 5 2 .nil .nil) .nil) .nil) (.alt 3 2 (.alt 2 2 (.alt 4 2 (.alt 5 2 .nil .nil) .nil) (.alt 4 2 (.alt 2 2 (.alt 5 2 .nil .nil) .nil) .nil)) .nil)) (.alt 2 2 (.alt 1 2 (.alt 3 2 (.alt 4 2 (.alt 5 2 .nil .nil) .nil) .nil) (.alt 3 2 (.alt 1 2 (.alt 4 2 (.alt 5 2 .nil .nil) .nil) .nil) .nil)) (.alt 3 2 (.alt 1 2 (.alt 2 2 (.alt 4 2 (.alt 5 2 .nil .nil) .nil) (.alt 4 2 (.alt 2 2 (.alt 5 2 .nil .nil) .nil) .nil)) (.alt 2 2 (.alt 1 2 (.alt 4 2 (.alt 5 2 .nil .nil) .nil) .nil) .nil)) .nil)))
 | false => .nil
theorem joS (s : ByteArray) (hs : s.size <= 1000000000) : Spec Tryz.prog 55 [] [jdc s] fun _ r => r = jvv (jmH s) := by
 obtain ⟨R, hR⟩ : ∃ R, jmH s = R := ⟨_, rfl⟩
 rw [hR]
 have htk := jlR s hs
 have hpan : ∀ (ch : List PanicEntry) (s' : S), jxW R ch s' -> jff ⟨Tryz.prog, tab, jhG, fun _ => [0], 0, fun _ _ => False⟩ Tryz.f55.results.toList (fun _ r => r = jvv R) [(101, [.box 0 0, .box 1 0, .box 2 0])] (.panicking ch) s' := fun ch s' hP => by
  obtain ⟨x, e, c0, c1, c2, bx, a, b, t0, hRe, hran, rfl, hbx, ht, hrw⟩ := hP
  obtain ⟨t, bx', rw'⟩ := s'
  simp only at hbx hrw ht
  subst hbx hrw ht;subst hRe;unfold jff;refine ⟨(fun h => by cases h), FrameMode.panicking [⟨.iface 142 (.agg #[.int .i64 x, .int .i64 e]), true, false⟩], ?_⟩;unfold jxs;refine ⟨fun vs w => rfl, [0, 1, 2], [], [jkI, [intA 0], [intA 0]], [.box 0 0, .box 1 0, .box 2 0], fun o r => o = [jkI, [intA x], [intA e]] /\ r = .tup [], by decide, ?_, rfl, rfl, fun _ => jon x e hran _ _ _ _ _, ?_⟩
  ·intro i hi;simp only [List.length_cons]
   simp at hi
   omega
  rintro o r ⟨rfl, rfl⟩ _;conv => whnf
  rfl
 refine jrH (ja4 jhG (fun _ => [0]) 0) Tryz.func55 rfl (by kernel_rfl) rfl ?_;intro _;conv => whnf
 refine jaT (ja4 jhG (fun _ => [0]) 0) (dr := []) ⟨0, rfl⟩ (.inl rfl) (by kernel_rfl) (fun _ _ h => h.elim) ?_;conv => whnf
 refine jaT (ja4 jhG (fun _ => [0]) 0) (dr := []) ⟨0, rfl⟩ (.inl rfl) (by kernel_rfl) (fun _ _ h => h.elim) ?_;conv => whnf
 unfold jmH at hR
 by_cases hbig : 3000 < s.size
 ·rw [if_pos hbig] at hR;rw [decide_eq_true (by omega)];conv => whnf
  refine ⟨.inr rfl, ?_⟩;conv => whnf
  subst hR;rfl
 rw [if_neg hbig] at hR;rw [decide_eq_false (by omega)];conv => whnf
 refine jaT (ja4 jhG (fun _ => [0]) 0) (dr := []) ⟨0, rfl⟩ (.inl rfl) (by kernel_rfl) (fun _ _ h => h.elim) ?_;conv => whnf
 refine jah [] rfl (fun _ => htk) ?_;rintro r rfl
 have htb := fun h => ju5 (s := s) (by omega) h
 unfold juK
 cases herr : (jb4 s).err with
 | some pe =>
  obtain ⟨p, e⟩ := pe
  rw [herr] at hR
  simp only at hR
  have hne := (jcW (s.data.toList.length + 1) 0 s.data.toList).2 p e herr
  conv => whnf
  refine jaT (ja4 jhG (fun _ => [0]) 0) (dr := []) ⟨0, rfl⟩ (.inl rfl) (by kernel_rfl) (fun _ _ h => h.elim) ?_;conv => whnf
  rw [decide_eq_false hne.2.1];conv => whnf
  apply jmA
  ·repeat' (first | (with_reducible refine And.intro ?_ ?_) | (conv => whnf))
  conv => whnf
  refine ⟨.inr rfl, ?_⟩;conv => whnf
  subst hR;rfl
 | none =>
  rw [herr] at hR
  simp only at hR
  have htb := htb herr
  have hrl := jcJ herr
  rw [<- hrl]
  have hln : (jb4 s).toks.length + 1 = (jlS s).length := by rw [hrl]; simp
  rw [hln];generalize jlS s = T at *;conv => whnf
  refine jaT (ja4 jhG (fun _ => [0]) 0) (dr := []) ⟨0, rfl⟩ (.inl rfl) (by kernel_rfl) (fun _ _ h => h.elim) ?_;conv => whnf
  refine jqF (ja4 jhG (fun _ => [0]) 0) ⟨0, rfl⟩ (fun _ _ h => h.elim) (l := [_]) rfl rfl rfl ?_;conv => whnf
  have hpg := jlp T htb
  have hsan := fun x e => jsF htb (x := x) (e := e)
  rw [hR] at hpg;refine jaT (c := ⟨Tryz.prog, tab, jhG, fun _ => [0], 0, jxW R⟩) (jap _ _ _ _) ⟨3, rfl⟩ (.inr (by kernel_rfl)) (by kernel_rfl) hpan ?_;conv => whnf
  refine jvw 3 [] rfl rfl rfl rfl (fun _ => hpg) (fun ch bx' hp hbl hbx => ?_) ?_
  ·unfold puQ at hp
   split at hp
   ·rename_i x e
    obtain ⟨d', rfl⟩ := jxD hbl hbx
    exact ⟨x, e, .dead, .dead, .dead, _, _, _, _, rfl, hsan _ _ hR, hp, rfl, rfl, rfl⟩
   ·exact hp.elim
  rintro o r ⟨⟨nm, ts1, ho⟩, huo⟩;cases ho;unfold uoQ at huo
  split at huo
  rotate_left
  ·exact huo.elim
  rename_i u
  subst huo;conv => whnf
  refine jns (c := ⟨Tryz.prog, tab, jhG, fun _ => [0], 0, jxW (.ok u)⟩) (jap _ _ _ _) ⟨3, rfl⟩ (.inr (by kernel_rfl)) (by kernel_rfl) hpan ?_;conv => whnf
  refine ⟨.inr rfl, ?_⟩;unfold jff;refine ⟨(fun h => by cases h), FrameMode.returning, ?_⟩;unfold jxs;refine ⟨fun vs w => rfl, [0, 1, 2], [], [utA u, [intA 0], [intA 0]], [.box 0 0, .box 1 0, .box 2 0], fun o r => o = [utA u, [intA 0], [intA 0]] /\ r = .tup [], by decide, ?_, rfl, rfl, fun _ => joJ u, ?_⟩
  ·intro i hi;simp only [List.length_cons]
   simp at hi
   omega
  rintro o r ⟨rfl, rfl⟩ _;conv => whnf
  rfl
def opAll : List ByteArray := [jhq, pOr, jhx, jbn, jeh, jc3, pLt, pLe, pGt, pGe, jxo, pNe]
def arN (k : Int) (s : ByteArray) (m : Nat) : Bool :=
 if k = 11 then decide (m <= 3002)
 else if k = 12 ∨ k = 13 ∨ k = 14 ∨ k = 5 ∨ k = 6 ∨ k = 7 ∨ k = 10 then decide (m = 0)
 else if k = 15 then decide (m = 0) && builtL.any fun x => decide (s = x)
 else if k = 16 ∨ k = 1 ∨ k = 9 then decide (m = 1)
 else if k = 17 then decide (m = 1)
 else if k = 18 then decide (m = 2) && opAll.any fun x => decide (s = x)
 else if k = 8 ∨ k = 3 then decide (m = 2)
 else if k = 2 ∨ k = 4 then decide (m = 3)
 else false
theorem jtz {k : Int} {s : ByteArray} {m : Nat} (h : arN k s m = true) : m <= 3002 := by
 unfold arN at h
 repeat' split at h
 all_goals (try rw [Bool.and_eq_true] at h); (try simp only [decide_eq_true_eq] at h); (first | omega | (have := h.1; omega) | cases h)
mutual
def wfN : Nt -> Prop
 | .mk k n s kids => arN k s kids.length = true /\ jsr kids
def jsr : List Nt -> Prop
 | [] => True
 | f :: l => wfN f /\ jsr l
end
theorem jnv : ∀ {l : List Nt} {f : Nt}, jsr l -> f ∈ l -> wfN f
 | x :: r, f, h, hf => by
  unfold jsr at h
  rcases List.mem_cons.1 hf with rfl | hf
  ·exact h.1
  ·exact jnv h.2 hf
theorem jrc : ∀ {l : List Nt}, (∀ f ∈ l, wfN f) -> jsr l
 | [], _ => by unfold jsr; trivial
 | x :: r, h => by
  unfold jsr;exact ⟨h x List.mem_cons_self, jrc fun f hf => h f (List.mem_cons_of_mem _ hf)⟩
theorem jek {k n : Int} {s : ByteArray} {kids : List Nt} (h : arN k s kids.length = true) (hk : ∀ f ∈ kids, wfN f) : wfN (.mk k n s kids) := by
 unfold wfN;exact ⟨h, jrc hk⟩
def WP (op : List Tk -> Pn) : Prop := ∀ ts f r, ts.length <= 3002 -> op ts = .ok f r -> wfN f /\ ∃ a, ts = a ++ r
def WK (k : Nt -> List Tk -> Pn) : Prop := ∀ f, wfN f -> WP (k f)
theorem WP.syn : WP synE := fun ts f r _ h => by cases h
theorem WP.bad (x : List Tk -> Int) (y : Int) : WP (fun ts => .bad (x ts) y) := fun ts f r _ h => by cases h
theorem WP.okT {f : Nt} (hf : wfN f) : WP (fun r => .ok f r) := fun ts g r _ h => by cases h; exact ⟨hf, [], rfl⟩
theorem WP.andThen {op : List Tk -> Pn} {k : Nt -> List Tk -> Pn} (h1 : WP op) (h2 : WK k) : WP (fun ts => (op ts).andThen k) := fun ts f r hz h => by
 cases ho : op ts with
 | bad x y => simp only [ho] at h; cases h
 | ok g u =>
  simp only [ho] at h
  obtain ⟨a1, a, a2⟩ := h1 ts g u hz ho
  have hu : u.length <= 3002 := by rw [a2, List.length_append] at hz; omega
  obtain ⟨b1, b, b2⟩ := h2 g a1 u f r hu h
  exact ⟨b1, a ++ b, by rw [a2, b2, List.append_assoc]⟩
theorem WP.tail {op : List Tk -> Pn} (h : WP op) : WP (fun ts => op ts.tail) := fun ts f r hz ho => by
 obtain ⟨a1, a, a2⟩ := h _ f r (by rw [List.length_tail]; omega) ho
 cases ts with
 | nil => exact ⟨a1, [], (List.append_eq_nil_iff.1 a2.symm).2.symm⟩
 | cons t ts => exact ⟨a1, t :: a, by simpa using a2⟩
theorem WP.ite (c : List Tk -> Prop) [DecidablePred c] {op1 op2 : List Tk -> Pn} (h1 : WP op1) (h2 : WP op2) : WP (fun ts => if c ts then op1 ts else op2 ts) := fun ts f r hz h => by
 dsimp only at h
 split at h
 ·exact h1 ts f r hz h
 ·exact h2 ts f r hz h
theorem WP.xpt (s : ByteArray) {k : List Tk -> Pn} (h : WP k) : WP (fun ts => Vm.xpt s ts k) := WP.ite (fun ts => isP s ts = true) h.tail WP.syn
theorem WP.num (limit : Int) {k : Int -> List Tk -> Pn} (h : ∀ n, WP (k n)) : WP (fun ts => jjA limit ts k) := fun ts f r hz ho => by
 unfold jjA at ho
 dsimp only at ho
 split at ho
 ·cases ho
 ·split at ho
  ·cases ho
  ·exact (h _).tail ts f r hz ho
structure WPa (p : Pa) : Prop where
 no : WP p.no
 un : WP p.un
 ex : WP p.ex
 bl : WP p.bl
def jvg (low : Option Pa) : Prop := ∀ p, low = some p -> WPa p
theorem WP.nest {low : Option Pa} (hl : jvg low) : WP (jhD low) := by
 cases low with
 | none => exact WP.ite (fun ts => isP pLp ts = true) (WP.bad _ _) WP.syn
 | some p => exact WP.ite (fun ts => isP pLp ts = true) (((hl p rfl).ex.andThen fun n hn => WP.xpt pRp (WP.okT hn)).tail) WP.syn
theorem WP.tok {op : Tk -> List Tk -> Pn} (h : ∀ t, WP (op t)) : WP (fun ts => op (hd ts) ts.tail) := fun ts f r hz ho => (h (hd ts)).tail ts f r hz ho
theorem WP.prim {low : Option Pa} (hl : jvg low) : WP (jjb low) := by
 have lf : ∀ (k n : Int) (s : ByteArray), arN k s 0 = true -> wfN (.mk k n s []) := fun k n s h => jek h (by simp)
 refine WP.ite (fun ts => isP pLp ts = true) (WP.nest hl) <|
  WP.ite (fun ts => isP jr2 ts = true) (((WP.nest hl).andThen fun n hn => WP.okT (jek rfl fun f hf => by rw [List.mem_singleton.1 hf]; exact hn)).tail) <|
  WP.ite (fun ts => (hd ts).kind = 2) (WP.tok (op := fun t r => .ok (.mk 12 t.n eB []) r) fun t => WP.okT (lf _ _ _ rfl)) <|
  WP.ite (fun ts => isP jpb ts = true) (WP.okT (lf 13 1 eB rfl)).tail <|
  WP.ite (fun ts => isP jlf ts = true) (WP.okT (lf 13 0 eB rfl)).tail <|
  WP.ite (fun ts => jg6 ts = true) (WP.tok (op := fun t r => .ok (.mk 14 0 t.text []) r) fun t => WP.okT (lf _ _ _ rfl)) ?_
 intro ts f r hz h
 dsimp only at h
 by_cases hb : jwr ts = true
 ·rw [if_pos hb] at h
  cases h
  refine ⟨lf 15 0 _ ?_, ?_⟩
  ·unfold jwr at hb;rw [Bool.and_eq_true] at hb
   show (decide (0 = 0) && _) = true
   rw [hb.2]; rfl
  ·cases ts with
   | nil => exact ⟨[], rfl⟩
   | cons t ts => exact ⟨[t], rfl⟩
 ·rw [if_neg hb] at h
  cases h
theorem WP.pre (s : ByteArray) {op : Option (List Tk -> Pn)} (h : ∀ f, op = some f -> WP f) {op2 : List Tk -> Pn} (h2 : WP op2) : WP (fun ts => if isP s ts = true then jrF s op ts else op2 ts) := by
 cases op with
 | none => exact WP.ite (fun ts => isP s ts = true) (WP.bad _ _) h2
 | some f => exact WP.ite (fun ts => isP s ts = true) (((h f rfl).andThen fun n hn => WP.okT (jek rfl fun f hf => by rw [List.mem_singleton.1 hf]; exact hn)).tail) h2
theorem WP.una {low : Option Pa} (hl : jvg low) : WP (jiq low) :=
 WP.pre jbn (op := low.map fun p : Pa => p.un) (fun f hf => by
  cases low with
  | none => cases hf
  | some p => cases hf; exact (hl p rfl).un) (WP.prim hl)
theorem jgk {f g h : Nt} (hf : wfN f) (hg : wfN g) (hh : h ∈ [f, g]) : wfN h := by
 simp only [List.mem_cons, List.not_mem_nil, or_false] at hh
 rcases hh with rfl | rfl <;> assumption
theorem jrn {signs : List ByteArray} {ts : List Tk} (hs : ∀ s ∈ signs, (opAll.any fun x => decide (s = x)) = true) (h : jlN signs ts = true) : (opAll.any fun x => decide ((hd ts).text = x)) = true := by
 unfold jlN at h;rw [List.any_eq_true] at h
 obtain ⟨s, h1, h2⟩ := h
 unfold isP at h2;rw [Bool.and_eq_true, decide_eq_true_eq] at h2;rw [h2.1];exact hs s h1
theorem jtR {s : ByteArray} (h : (opAll.any fun x => decide (s = x)) = true) : arN 18 s 2 = true := by
 show (decide (2 = 2) && _) = true
 rw [h]; rfl
theorem WP.chn {op : List Tk -> Pn} {signs : List ByteArray} (hs : ∀ s ∈ signs, (opAll.any fun x => decide (s = x)) = true) (h : WP op) : WP (jd3 op signs) := by
 have go : ∀ (n : Nat) (l : Nt), wfN l -> WP (jeR op signs n l) := fun n => by
  induction n with
  | zero => intro l hl; exact WP.okT hl
  | succ n ih =>
   intro l hl ts f r hz ho;rw [jeR] at ho
   by_cases ha : jlN signs ts = true
   ·rw [if_pos ha] at ho;exact (h.andThen (k := fun f r => jeR op signs n (.mk 18 0 (hd ts).text [l, f]) r) fun g hg => ih _ (jek (jtR (jrn hs ha)) fun f hf => jgk hl hg hf)).tail ts f r hz ho
   ·rw [if_neg ha] at ho;exact WP.okT hl ts f r hz ho
 exact h.andThen (k := fun f r => jeR op signs r.length f r) fun f hf ts g r hz ho => go _ f hf ts g r hz ho
theorem WP.sum {low : Option Pa} (hl : jvg low) : WP (jvj low) := WP.chn (by decide) (WP.chn (by decide) (WP.una hl))
theorem WP.nt {low : Option Pa} (hl : jvg low) : WP (ntG low) :=
 WP.pre jvz (op := low.map fun p : Pa => p.no) (fun f hf => by
  cases low with
  | none => cases hf
  | some p => cases hf; exact (hl p rfl).no) <| (WP.sum hl).andThen fun l hw => fun r f r' hz ho => by
   by_cases ha : jlN jxr r = true
   ·rw [if_pos ha] at ho;exact ((WP.sum hl).andThen (k := fun m r' => .ok (.mk 18 0 (hd r).text [l, m]) r') fun g hg => WP.okT (jek (jtR (jrn (by decide) ha)) fun f hf => jgk hw hg hf)).tail r f r' hz ho
   ·rw [if_neg ha] at ho;exact WP.okT hw r f r' hz ho
theorem WP.exp {low : Option Pa} (hl : jvg low) : WP (jvG low) := WP.chn (by decide) (WP.chn (by decide) (WP.nt hl))
theorem jiO {f g : Nt} (hf : wfN f) (hg : g ∈ [f]) : wfN g := by rw [List.mem_singleton.1 hg]; exact hf
theorem jfP {f g h i : Nt} (hf : wfN f) (hg : wfN g) (hh : wfN h) (hi : i ∈ [f, g, h]) : wfN i := by
 simp only [List.mem_cons, List.not_mem_nil, or_false] at hi
 rcases hi with rfl | rfl | rfl <;> assumption
theorem WP.stm {ex bl : List Tk -> Pn} (hx : WP ex) (hb : WP bl) : WP (stG ex bl) := by
 have semi : ∀ f : Nt, wfN f -> WP (fun r => Vm.xpt jaS r fun r => .ok f r) := fun f hf => WP.xpt jaS (WP.okT hf)
 have lf : ∀ (k n : Int), arN k eB 0 = true -> wfN (.mk k n eB []) := fun k n h => jek h (by simp)
 exact WP.ite (fun ts => jg6 ts = true) (WP.tok (op := fun t ts => Vm.xpt pEq ts fun r => (ex r).andThen fun e r => Vm.xpt jaS r fun r => .ok (.mk 1 0 t.text [e]) r) fun t => WP.xpt pEq (hx.andThen fun e he => semi _ (jek rfl fun f hf => jiO he hf))) <|
  WP.ite (fun ts => (hd ts).kind ≠ 1) WP.syn <|
  WP.ite (fun ts => (hd ts).text = wIf) ((hx.andThen fun c hc => hb.andThen fun b hb2 => WP.ite (fun r => isP jkJ r = true) ((hb.andThen fun o ho => WP.okT (jek rfl fun f hf => jfP hc hb2 ho hf)).tail) (WP.okT (jek rfl fun f hf => jfP hc hb2 (jek rfl (by simp)) hf))).tail) <|
  WP.ite (fun ts => (hd ts).text = jcs) ((hx.andThen fun c hc => hb.andThen fun b hb2 => WP.okT (jek rfl fun f hf => jgk hc hb2 hf)).tail) <|
  WP.ite (fun ts => (hd ts).text = jf0) ((hx.andThen fun t ht => WP.xpt jb6 (WP.num 30 fun n => WP.xpt jb6 (hx.andThen fun a ha => WP.xpt jb6 (hx.andThen fun b hb2 => semi _ (jek rfl fun f hf => jfP ht ha hb2 hf))))).tail) <|
  WP.ite (fun ts => (hd ts).text = jbq) ((WP.num 8 fun n => semi _ (lf 5 n rfl)).tail) <|
  WP.ite (fun ts => (hd ts).text = jbv) ((WP.num 8 fun n => semi _ (lf 6 n rfl)).tail) <|
  WP.ite (fun ts => (hd ts).text = jeX) ((semi _ (lf 7 0 rfl)).tail) <|
  WP.ite (fun ts => (hd ts).text = jck) ((hx.andThen fun a ha => WP.xpt jb6 (hx.andThen fun b hb2 => semi _ (jek rfl fun f hf => jgk ha hb2 hf))).tail) <|
  WP.ite (fun ts => (hd ts).text = wFail) ((hx.andThen fun a ha => semi _ (jek rfl fun f hf => jiO ha hf)).tail) <|
  WP.ite (fun ts => (hd ts).text = jeN) ((semi _ (lf 10 0 rfl)).tail) WP.syn
theorem WP.blk {st : List Tk -> Pn} (h : WP st) : WP (bkF st) := by
 have go : ∀ (n : Nat) (acc : List Nt), (∀ f ∈ acc, wfN f) -> acc.length + n <= 3002 -> WP (jp3 st n acc) := fun n => by
  induction n with
  | zero => intro acc ha hz ts f r _ ho; cases ho
  | succ n ih =>
   intro acc ha hz ts f r hz2 ho;rw [jp3] at ho
   by_cases hp : isP pRb ts = true
   ·rw [if_pos hp] at ho;cases ho;refine ⟨jek (decide_eq_true (by omega)) ha, ?_⟩
    cases ts with
    | nil => exact ⟨[], rfl⟩
    | cons t ts => exact ⟨[t], rfl⟩
   ·rw [if_neg hp] at ho
    exact h.andThen (k := fun s r => jp3 st n (acc ++ [s]) r) (fun s hs => ih (acc ++ [s]) (fun f hf => by
     rcases List.mem_append.1 hf with hf | hf
     ·exact ha f hf
     ·exact jiO hs hf) (by rw [List.length_append, List.length_singleton]; omega)) ts f r hz2 ho
 exact WP.xpt pLb (k := fun r => jp3 st r.length [] r) fun ts f r hz ho => go ts.length [] (by simp) (by simpa using hz) ts f r hz ho
theorem WP.bkN : WP bkN := WP.ite (fun ts => isP pLb ts = true) (WP.bad _ _) WP.syn
theorem WPa.pa {low : Option Pa} (hl : jvg low) : WPa (paG low) where
 no := WP.nt hl
 un := WP.una hl
 ex := WP.exp hl
 bl := WP.blk (WP.stm (WP.exp hl) (by
  cases low with
  | none => exact WP.bkN
  | some p => exact (hl p rfl).bl))
theorem wpa : ∀ n, WPa (pa n)
 | 0 => WPa.pa fun p h => by cases h
 | n + 1 => WPa.pa fun p h => by cases h; exact wpa n
structure WfU (u : Ut) : Prop where
 du : u.du.length + u.vo.length <= 16
 on : ∀ h ∈ u.on, 0 <= h.1 /\ h.1 < 40 /\ wfN h.2
 nd : u.on.Pairwise fun a b => a.1 ≠ b.1
 ol : u.on.length <= 4000
mutual
def toD : Nt -> Nd
 | .mk k n s kids => .mk k n s (jtM kids)
def jtM : List Nt -> List Nd
 | [] => []
 | f :: l => toD f :: jtM l
end
theorem jnS : ∀ l : List Nt, jtM l = l.map toD
 | [] => rfl
 | f :: l => by rw [jtM, jnS l]; rfl
def toU (u : Ut) : Un := ⟨u.du, u.vo, u.on.map fun h => (h.1, toD h.2)⟩
def jwJ (C D : Rd) : Prop := ∀ b o u, C ⟨b, o, none⟩ = some u -> D ⟨b, o, none⟩ = some u
theorem jdf {E : Env} {b : Nat} : ∀ {l m : List A} {off : Nat}, A.repAt (l ++ m) E b off ↔ A.repAt l E b off /\ A.repAt m E b (off + l.length)
 | [], m, off => by simp [A.repAt]
 | a :: r, m, off => by
  simp only [List.cons_append, A.repAt];rw [jdf (l := r)];simp only [List.length_cons, Nat.add_assoc, Nat.add_comm 1]
  constructor
  ·rintro ⟨h1, h2, h3⟩; exact ⟨⟨h1, h2⟩, h3⟩
  ·rintro ⟨⟨h1, h2⟩, h3⟩; exact ⟨h1, h2, h3⟩
theorem jpm {E : Env} {n : Int} {u : Value} : (A.v (.int .i64 n)).rep E u ↔ u = .int .i64 n /\ (-9223372036854775808 <= n /\ n <= 9223372036854775807) := by
 rw [A.rep_v_iff]
 constructor
 ·rintro ⟨h1, h2⟩; exact ⟨h1, okV_int.1 h2⟩
 ·rintro ⟨h1, h2⟩; exact ⟨h1, okV_int.2 h2⟩
theorem rep_vsC {E : Env} {n : ByteArray} {u : Value} : (A.v (.string n)).rep E u ↔ u = .string n /\ n.size <= maxLen := by
 rw [A.rep_v_iff]; exact Iff.rfl
mutual
theorem jwn : ∀ (t : Nt) {E : Env} {D : Rd} {v : Value}, jwJ E.C D -> wfN t -> (A.agg (nt0 t)).rep E v -> (toD t).At D v
 | .mk k n s kids, E, D, v, hD, hs, h => by
  unfold wfN at hs
  have hl : kids.length <= 3002 := jtz hs.1
  unfold A.rep nt0 at h
  obtain ⟨us, rfl, h⟩ := h
  obtain ⟨us⟩ := us
  simp only [A.repC] at h
  obtain ⟨_, _, rfl, -, g1, _, _, rfl, -, g2, _, _, rfl, -, g3, _, _, rfl, -, g4, rfl⟩ := h
  unfold intA at g1 g2;unfold jdc at g3;rw [jpm] at g1 g2;rw [rep_vsC] at g3
  obtain ⟨rfl, g1⟩ := g1
  obtain ⟨rfl, g2⟩ := g2
  obtain ⟨rfl, g3⟩ := g3
  unfold A.rep at g4
  obtain ⟨_, _, p, b, off, cap, rfl, h6, h7, h8, h9⟩ := g4
  unfold toD Nd.At
  have hlen : (jtM kids).length = kids.length := by rw [jnS, List.length_map]
  rw [hlen];refine ⟨g1, g2, g3, by omega, p, b, off, cap, rfl, h6, ?_, h8, jw9 kids (E := E.per) hD hs.2 h9⟩
  rcases h7 with h7 | h7
  ·exact .inl (List.eq_nil_of_length_eq_zero (by rw [hlen]; exact h7))
  ·exact .inr h7
theorem jw9 : ∀ (l : List Nt) {E : Env} {D : Rd} {b off : Nat}, jwJ E.C D -> jsr l -> A.repAt (juR l) E b off -> Nd.In D b (jtM l) off
 | [], _, _, _, _, _, _, _ => by unfold jtM Nd.In; trivial
 | t :: ts, E, D, b, off, hD, hs, h => by
  unfold jsr at hs;unfold juR at h
  have hl4 : (nt0 t).length = 4 := by rw [jr8]; rfl
  rw [jdf, hl4] at h
  obtain ⟨h1, h2⟩ := h
  unfold jtM Nd.In;refine ⟨?_, jw9 ts hD hs.2 h2⟩
  obtain ⟨us, k1, k2⟩ := A.repAt_vals h1
  have hl := A.repC_len k1
  rw [hl4] at hl
  match us, hl, k1, k2 with
  | [v0, v1, v2, v3], _, k1, k2 =>
   refine ⟨v0, v1, v2, v3, hD _ _ _ (k2 0 v0 rfl), hD _ _ _ (k2 1 v1 rfl), hD _ _ _ (k2 2 v2 rfl), hD _ _ _ (k2 3 v3 rfl), jwn t (E := E) hD hs.1 ?_⟩;unfold A.rep;exact ⟨_, rfl, k1⟩
end
theorem jhK {α : Type} {E : Env} {b : Nat} (f : α -> Value) (hf : ∀ x, (f x).oneCell' = true) : ∀ {l : List α} {off : Nat}, A.repAt (l.map fun x => .v (f x)) E b off ↔ ∀ i (hi : i < l.length), E.C ⟨b, off + i, none⟩ = some (f l[i]) /\ okV (f l[i])
 | [], off => by simp [A.repAt]
 | x :: l, off => by
  simp only [List.map_cons, A.repAt];rw [jhK f hf (l := l)]
  constructor
  ·rintro ⟨⟨u, h1, -, h3⟩, h4⟩ i hi;rw [A.rep_v_iff] at h3
   cases i with
   | zero => rw [Nat.add_zero, h1, h3.1]; exact ⟨rfl, h3.2⟩
   | succ i =>
    have := h4 i (by simpa using hi)
    rw [show off + (i + 1) = off + 1 + i by omega]; exact this
  ·intro h;refine ⟨⟨f x, by have := (h 0 (by simp)).1; simpa using this, hf x, A.rep_v_iff.2 ⟨rfl, (h 0 (by simp)).2⟩⟩, fun i hi => ?_⟩
   have := h (i + 1) (by simpa using hi)
   rw [show off + 1 + i = off + (i + 1) by omega]; exact this
theorem jo9 {E : Env} {D : Rd} {v : Value} {l : List ByteArray} (hD : jwJ E.C D) (hl : l.length <= 1000000000) (h : (A.sl 1 l.length (txA l)).rep E v) : StrsAt D v l := by
 unfold txA jdc at h;unfold A.rep at h
 obtain ⟨_, _, p, b, off, cap, rfl, h6, h7, h8, h9⟩ := h
 have h9 := (jhK (E := E.per) Value.string (fun _ => rfl)).1 h9
 refine ⟨hl, fun s hs => ?_, p, b, off, cap, rfl, h6, ?_, h8, fun i hi => ?_⟩
 ·obtain ⟨i, hi, rfl⟩ := List.mem_iff_getElem.1 hs
  exact (h9 i hi).2
 ·rcases h7 with h7 | h7
  ·exact .inl (List.eq_nil_of_length_eq_zero h7)
  ·exact .inr h7
 ·have := (h9 i hi).1
  simp [List.getD_eq_getElem?_getD, hi]
  exact hD _ _ _ this
theorem jhU {α : Type} {E : Env} {b k : Nat} (f : α -> List A) (hf : ∀ x, (f x).length = k) : ∀ {l : List α} {off : Nat}, A.repAt (l.flatMap f) E b off ↔ ∀ i (hi : i < l.length), A.repAt (f l[i]) E b (off + i * k)
 | [], off => by simp [A.repAt]
 | x :: l, off => by
  rw [List.flatMap_cons, jdf, jhU f hf (l := l), hf]
  constructor
  ·rintro ⟨h1, h2⟩ i hi
   cases i with
   | zero => simpa using h1
   | succ i =>
    have := h2 i (by simpa using hi)
    rw [show off + (i + 1) * k = off + k + i * k by rw [Nat.add_mul]; omega]; exact this
  ·intro h;refine ⟨by have := h 0 (by simp); rw [Nat.zero_mul, Nat.add_zero] at this; exact this, fun i hi => ?_⟩
   have := h (i + 1) (by simpa using hi)
   rw [show off + k + i * k = off + (i + 1) * k by rw [Nat.add_mul]; omega]; exact this
theorem jtl {E : Env} {D : Rd} {v : Value} {u : Ut} (hD : jwJ E.C D) (hs : WfU u) (h : (A.agg (utA u)).rep E v) : UnAt D v (toU u) := by
 unfold A.rep utA at h
 obtain ⟨us, rfl, h⟩ := h
 obtain ⟨us⟩ := us
 simp only [A.repC] at h
 obtain ⟨dv, _, rfl, -, g1, vv, _, rfl, -, g2, ov, _, rfl, -, g3, rfl⟩ := h
 refine ⟨dv, vv, ov, rfl, jo9 (l := u.du) hD (by have := hs.du; omega) g1, jo9 (l := u.vo) hD (by have := hs.du; omega) g2, ?_⟩;unfold A.rep at g3
 obtain ⟨_, _, p, b, off, cap, rfl, h6, h7, h8, h9⟩ := g3
 have hlen : (toU u).on.length = u.on.length := List.length_map ..
 unfold HsAt;rw [hlen];refine ⟨by have := hs.ol; omega, p, b, off, cap, rfl, h6, ?_, h8, fun i hi => ?_⟩
 ·rcases h7 with h7 | h7
  ·exact .inl (List.eq_nil_of_length_eq_zero (by rw [hlen]; exact h7))
  ·exact .inr h7
 ·rw [hlen] at hi
  have hon : (toU u).on[i] = (u.on[i].1, toD u.on[i].2) := by simp [toU]
  rw [hon];unfold jnM at h9
  have h10 := (jhU (E := E.per) (k := 5) hnA (fun _ => rfl)).1 h9 i hi
  obtain ⟨us, k1, k2⟩ := A.repAt_vals h10
  have hl := A.repC_len k1
  rw [show (hnA u.on[i]).length = 5 from rfl] at hl
  match us, hl, k1, k2 with
  | [v0, v1, v2, v3, v4], _, k1, k2 =>
   unfold hnA intA A.repC at k1
   obtain ⟨_, _, e, -, g1, k3⟩ := k1
   cases e
   rw [jpm] at g1
   obtain ⟨rfl, g4, g5⟩ := g1
   refine ⟨g4, g5, v1, v2, v3, v4, hD _ _ _ (k2 0 _ rfl), hD _ _ _ (k2 1 v1 rfl), hD _ _ _ (k2 2 v2 rfl), hD _ _ _ (k2 3 v3 rfl), hD _ _ _ (k2 4 v4 rfl), jwn u.on[i].2 (E := E) hD (hs.on _ (List.getElem_mem hi)).2.2 ?_⟩;unfold A.rep;rw [jr8];exact ⟨_, rfl, A.repC.mono _ E.per_le k3⟩
theorem jnh {w : World} {C : Rd} (h : Sub C (see w)) : jwJ C w.cell? := fun b o u hc => h _ _ hc
def ixU (u : Ut) (s : ByteArray) : Int := jcA u.du u.vo s
theorem jw0 (u : Ut) (hu : WfU u) : Spec Tryz.prog 28 [] [.agg (utA u)] fun _ r => r = intA (jeH (toU u)) := by
 refine jeS (jeo Tryz.func28 rfl (by kernel_rfl)) fun w C vals h0 h1 h2 => ?_
 unfold A.repL at h2
 obtain ⟨v, us, rfl, h2, h3⟩ := h2
 unfold A.repL at h3;subst h3;refine (jqi (toU u) v w (jtl (jnh h1) hu h2)).mono ?_;rintro e w' ⟨rfl, hx⟩;exact ⟨_, rfl, hx, A.rep_v (okV_int.2 (by unfold jeH; split <;> decide))⟩
theorem jny (l : List ByteArray) (s : ByteArray) : -1 <= jhI l s /\ jhI l s <= l.length := by
 have := jmo l s
 omega
theorem jtV {u : Ut} (hu : WfU u) (s : ByteArray) : -1 <= ixU u s /\ ixU u s <= 100 := by
 have h1 := jny u.du s
 have h2 := jny u.vo s
 have h3 := hu.du
 unfold ixU jcA
 repeat' split
 all_goals omega
theorem jwY (u : Ut) (hu : WfU u) (s : ByteArray) : Spec Tryz.prog 62 [] [.agg (utA u), jdc s] fun _ r => r = intA (ixU u s) := by
 have hb := jtV hu s
 refine jeS (jeo Tryz.func62 rfl (by kernel_rfl)) fun w C vals h0 h1 h2 => ?_
 unfold A.repL at h2
 obtain ⟨v, us, rfl, h2, h3⟩ := h2
 unfold A.repL at h3
 obtain ⟨v2, us2, rfl, h3, h4⟩ := h3
 unfold A.repL at h4;subst h4
 obtain ⟨rfl, -⟩ := rep_vsC.1 h3
 obtain ⟨dv, vv, ov, rfl, g1, g2, g3⟩ := jtl (jnh h1) hu h2
 refine (jke dv vv ov u.du u.vo s w g1 g2).mono ?_;rintro e w' ⟨rfl, hx⟩;exact ⟨_, rfl, hx, A.rep_v (by have h := (okA_int (n := ixU u s)).2 (by omega); unfold okA at h; exact h)⟩
theorem jnl (x : Int × Nt) : ∀ l : List (Int × Nt), (js4 x l).Perm (x :: l)
 | [] => .refl _
 | y :: l => by
  rw [js4]
  split
  ·exact .refl _
  ·exact ((jnl x l).cons y).trans (.swap x y l)
theorem jeQ : ∀ l : List (Int × Nt), (jfq l).Perm l
 | [] => .refl _
 | x :: l => (jnl x (jfq l)).trans ((jeQ l).cons x)
structure WfH (l : List (Int × Nt)) : Prop where
 on : ∀ h ∈ l, 0 <= h.1 /\ h.1 < 40 /\ wfN h.2
 nd : l.Pairwise fun a b => a.1 ≠ b.1
theorem WfH.sort {l : List (Int × Nt)} (h : WfH l) : WfH (jfq l) where
 on := fun x hx => h.on x ((jeQ l).mem_iff.1 hx)
 nd := ((jeQ l).pairwise_iff (fun {a b} hab => fun e => hab e.symm)).2 h.nd
def TkN (ts : List Tk) : Prop := ∀ t ∈ ts, 0 <= t.n
theorem TkN.suf {a r : List Tk} (h : TkN (a ++ r)) : TkN r := fun t ht => h t (List.mem_append_right _ ht)
theorem TkN.tail {ts : List Tk} (h : TkN ts) : TkN ts.tail := fun t ht => h t (List.mem_of_mem_tail ht)
theorem TkN.hd {ts : List Tk} (h : TkN ts) : 0 <= (Vm.hd ts).n := by
 cases ts with
 | nil => exact Int.le_refl 0
 | cons t ts => exact h t List.mem_cons_self
theorem jy5 {ts r : List Tk} {n : Int} (hz : TkN ts) (h : hnF ts = .ok n r) : 0 <= n /\ n < 40 /\ ∃ a, ts = a ++ r := by
 have suf : ∀ ts : List Tk, ∃ a, ts = a ++ ts.tail := fun ts => by
  cases ts with
  | nil => exact ⟨[], rfl⟩
  | cons t ts => exact ⟨[t], rfl⟩
 have num : ∀ (limit off : Int) (q : List Tk), TkN q -> jp5 limit off q = .ok n r -> off <= n /\ n < off + limit /\ ∃ a, q = a ++ r := fun limit off q hq h => by
  unfold jp5 at h
  split at h
  ·cases h
  ·split at h
   ·cases h
   ·cases h
    have := hq.hd
    exact ⟨by omega, by omega, suf q⟩
 obtain ⟨a, ha⟩ := suf ts
 unfold hnF at h
 split at h
 ·cases h; exact ⟨by omega, by omega, suf ts⟩
 ·split at h
  ·cases h; exact ⟨by omega, by omega, suf ts⟩
  ·split at h
   ·obtain ⟨h1, h2, b, h3⟩ := num 8 2 _ hz.tail h
    exact ⟨by omega, by omega, a ++ b, by rw [List.append_assoc, <- h3]; exact ha⟩
   ·split at h
    ·obtain ⟨h1, h2, b, h3⟩ := num 30 10 _ hz.tail h
     exact ⟨by omega, by omega, a ++ b, by rw [List.append_assoc, <- h3]; exact ha⟩
    ·cases h
theorem jvX (du vo : List ByteArray) (hn : du.length + vo.length <= 16) : ∀ (n : Nat) (hs : List (Int × Nt)) (ts : List Tk) (u : Ut), TkN ts -> ts.length <= 3002 -> hs.length + n <= 4000 -> WfH hs -> jrL du vo n hs ts = .ok u -> WfU u
 | 0, hs, ts, u, _, _, _, _, h => by cases h
 | n + 1, hs, ts, u, hz, hl, hb, hw, h => by
  rw [jrL] at h
  split at h
  ·cases h
   exact ⟨hn, hw.sort.on, hw.sort.nd, by show (jfq hs).length <= _; rw [(jeQ hs).length_eq]; omega⟩
  ·split at h
   ·cases h
   ·cases hh : hnF ts.tail with
    | bad x y => rw [hh] at h; cases h
    | ok k r =>
     rw [hh] at h
     obtain ⟨k0, k1, a, ha⟩ := jy5 hz.tail hh
     dsimp only at h
     split at h
     ·cases h
     ·rename_i hdup
      cases hbl : (pa 19).bl r with
      | bad x y => rw [hbl] at h; cases h
      | ok b r2 =>
       rw [hbl] at h
       have hr : r.length <= 3002 := by
        have := congrArg List.length ha
        rw [List.length_append, List.length_tail] at this;omega
       obtain ⟨wb, a2, ha2⟩ := (wpa 19).bl r b r2 hr hbl
       have hzr : TkN r := by
        have h1 := hz.tail
        rw [ha] at h1;exact h1.suf
       refine jvX du vo hn n (hs ++ [(k, b)]) r2 u (by rw [ha2] at hzr; exact hzr.suf) (by
        rw [ha2, List.length_append] at hr; omega) (by rw [List.length_append, List.length_singleton]; omega) ?_ h
       refine ⟨fun x hx => ?_, List.pairwise_append.2 ⟨hw.nd, List.pairwise_singleton _ _, fun x hx y hy => ?_⟩⟩
       ·rcases List.mem_append.1 hx with hx | hx
        ·exact hw.on x hx
        ·rw [List.mem_singleton.1 hx]; exact ⟨k0, k1, wb⟩
       ·rw [List.mem_singleton.1 hy];intro e;refine hdup ?_;rw [List.any_eq_true];exact ⟨x, hx, decide_eq_true e⟩
theorem jvt : ∀ (n : Nat) (names out : List ByteArray) (ts : List Tk) (names' out' : List ByteArray) (r : List Tk), names.length <= 16 -> jkh n names out ts = .ok names' out' r -> names'.length <= 16 /\ names'.length + out.length = names.length + out'.length /\ ∃ a, ts = a ++ r
 | 0, names, out, ts, names', out', r, _, h => by cases h
 | n + 1, names, out, ts, names', out', r, hl, h => by
  have suf : ∀ ts : List Tk, ∃ a, ts = a ++ ts.tail := fun ts => by
   cases ts with
   | nil => exact ⟨[], rfl⟩
   | cons t ts => exact ⟨[t], rfl⟩
  obtain ⟨a1, h1⟩ := suf ts
  obtain ⟨a2, h2⟩ := suf ts.tail
  obtain ⟨a3, h3⟩ := suf ts.tail.tail
  rw [jkh] at h
  split at h
  ·cases h
  ·split at h
   ·cases h
   ·split at h
    ·cases h
    ·split at h
     ·obtain ⟨g1, g2, b, g3⟩ := jvt n _ _ _ _ _ _ (by rw [List.length_append, List.length_singleton]; omega) h
      rw [List.length_append, List.length_append, List.length_singleton] at g2;exact ⟨g1, by omega, a1 ++ (a2 ++ b), by rw [List.append_assoc, List.append_assoc, <- g3, <- h2]; exact h1⟩
     ·split at h
      ·cases h
       refine ⟨by rw [List.length_append, List.length_singleton]; omega, by rw [List.length_append, List.length_append, List.length_singleton]; omega, a1 ++ (a2 ++ a3), by rw [List.append_assoc, List.append_assoc, <- h3, <- h2]; exact h1⟩
      ·cases h
theorem juc : ∀ (n : Nat) (names du vo : List ByteArray) (ts : List Tk) (u : Ut), TkN ts -> ts.length <= 3002 -> names.length <= 16 -> names.length = du.length + vo.length -> jsL n names du vo ts = .ok u -> WfU u
 | 0, names, du, vo, ts, u, _, _, _, _, h => by cases h
 | n + 1, names, du, vo, ts, u, hz, hl, hn, he, h => by
  rw [jsL] at h
  split at h
  ·cases hd : jkh ts.length names [] ts with
   | bad x y => rw [hd] at h; cases h
   | ok names' out r =>
    rw [hd] at h
    obtain ⟨g1, g2, b, g3⟩ := jvt _ _ _ _ _ _ _ hn hd
    rw [List.length_nil] at g2;rw [g3] at hz hl;exact juc n names' (du ++ out) vo r u hz.suf (by rw [List.length_append] at hl; omega) g1 (by rw [List.length_append]; omega) h
  ·split at h
   ·cases hd : jkh ts.length names [] ts with
    | bad x y => rw [hd] at h; cases h
    | ok names' out r =>
     rw [hd] at h
     obtain ⟨g1, g2, b, g3⟩ := jvt _ _ _ _ _ _ _ hn hd
     rw [List.length_nil] at g2;rw [g3] at hz hl;exact juc n names' du (vo ++ out) r u hz.suf (by rw [List.length_append] at hl; omega) g1 (by rw [List.length_append]; omega) h
   ·exact jvX du vo (by omega) _ [] ts u hz hl (by simp; omega) ⟨by simp, .nil⟩ h
theorem juQ {s : ByteArray} {u : Ut} (h : jmH s = .ok u) : WfU u := by
 unfold jmH at h
 split at h
 ·cases h
 ·rename_i hsz
  cases he : (jb4 s).err with
  | some p => rw [he] at h; cases h
  | none =>
   rw [he] at h
   have hok := jul s (by omega)
   have hlen : (jlS s).length <= 3002 := by
    have h1 := (jcW (s.data.toList.length + 1) 0 s.data.toList).1
    rw [jcJ he, List.length_append, List.length_singleton]
    have h2 : (jb4 s).toks.length <= s.data.toList.length := h1
    rw [jb7] at h2;omega
   refine juc _ [] [] [] (jlS s) u (fun t ht => ?_) hlen (by simp) rfl h
   rcases hok t ht with h3 | h3
   ·exact h3.2.2.2.1
   ·rw [h3.2.2.2]; exact Int.le_refl 0
abbrev Ic := Int × Int
def icA (i : Ic) : List A := [intA i.1, intA i.2]
@[irreducible] def jbp (l : List Ic) : List A := l.flatMap icA
theorem jsm : jbp [] = [] := by unfold jbp; rfl
theorem jt9 (l m : List Ic) : jbp (l ++ m) = jbp l ++ jbp m := by unfold jbp; rw [List.flatMap_append]
theorem jrG (i : Ic) : jbp [i] = icA i := by unfold jbp; rw [List.flatMap_cons, List.flatMap_nil, List.append_nil]
theorem jku (l : List Ic) (a b : Int) : jbp (l ++ [(a, b)]) = jbp l ++ [intA a, intA b] := by rw [jt9, jrG]; rfl
theorem jeZ (l : List Ic) : jbp l = l.flatMap icA := by unfold jbp; rfl
theorem jcg (l : List Ic) (i : Nat) (hi : i < l.length) : ja2 2 i (jbp l) = icA l[i] := by rw [jeZ]; exact jc0 icA (fun _ => rfl) l i hi
theorem jt2 (l : List Ic) : (jbp l).length = l.length * 2 := by
 rw [jeZ]
 induction l with
 | nil => rfl
 | cons a l ih => rw [List.flatMap_cons, List.length_append, ih, List.length_cons]; simp only [icA, List.length_cons, List.length_nil]; omega
def noI : Int -> List Ic := fun _ => []
def brC (c y n : Int -> List Ic) (at' : Int) : List Ic :=
 let l := c at'
 let f := at' + l.length + 1 + (y (at' + l.length + 1)).length + 1
 l ++ (16, f) :: (y (at' + l.length + 1) ++ (15, f + (n f).length) :: n f)
def jg1 : List (Int -> List Ic) -> Int -> List Ic
 | [], _ => []
 | g :: r, at' => g at' ++ jg1 r (at' + (g at').length)
def biF (s : ByteArray) : Int := match builtL.findIdx? (fun x => decide (x = s)) with
 | some i => i
 | none => -1
def opC (s : ByteArray) : List Ic :=
 if s = jhx then [(6, 0)] else if s = jbn then [(7, 0)] else if s = jeh then [(8, 0)] else if s = jc3 then [(9, 0)]
 else if s = pLt then [(11, 0)] else if s = pLe then [(12, 0)] else if s = jxo then [(13, 0)] else if s = pGt then [(12, 0), (14, 0)]
 else if s = pGe then [(11, 0), (14, 0)] else [(13, 0), (14, 0)]
def jdg (ix : ByteArray -> Int) (k n : Int) (s : ByteArray) (g : List (Int -> List Ic)) (at' : Int) : List Ic :=
 if k = 12 ∨ k = 13 then [(1, n)]
 else if k = 14 then [(2, ix s)]
 else if k = 15 then [(4, biF s)]
 else if k = 2 then brC (g.getD 0 noI) (g.getD 1 noI) (g.getD 2 noI) at'
 else if k = 5 then [(18, n)]
 else if k = 6 then [(19, n)]
 else if k = 7 then [(20, 0)]
 else if k = 10 then [(23, 0)]
 else if k = 3 then
  let c := (g.getD 0 noI) at'
  let b := (g.getD 1 noI) (at' + c.length + 1)
  c ++ (16, at' + c.length + b.length + 2) :: (b ++ [(15, at')])
 else if k = 18 /\ s = jhq then brC (g.getD 0 noI) (g.getD 1 noI) (fun _ => [(1, 0)]) at'
 else if k = 18 /\ s = pOr then brC (g.getD 0 noI) (fun _ => [(1, 1)]) (g.getD 1 noI) at'
 else jg1 g at' ++ (if k = 18 then opC s else if k = 16 then [(5, 0)] else if k = 17 then (if s = jbn then [(10, 0)] else [(14, 0)]) else if k = 1 then [(3, ix s)] else if k = 4 then [(17, n)] else if k = 8 then [(21, 0)] else if k = 9 then [(22, 0)] else [])
mutual
def jaL (ix : ByteArray -> Int) : Nt -> Int -> List Ic
 | .mk k n s kids, at' => jdg ix k n s (jaz ix kids) at'
def jaz (ix : ByteArray -> Int) : List Nt -> List (Int -> List Ic)
 | [] => []
 | f :: l => jaL ix f :: jaz ix l
end
theorem jdU (ix : ByteArray -> Int) : ∀ l : List Nt, jaz ix l = l.map (jaL ix)
 | [] => rfl
 | f :: l => by rw [jaz, jdU ix l]; rfl
def jan (k : Int) : Int := if k = 3 ∨ k = 5 ∨ k = 10 ∨ k = 14 ∨ k = 16 ∨ k = 22 then 1 else if 6 <= k /\ k <= 9 ∨ 11 <= k /\ k <= 13 ∨ k = 21 then 2 else if k = 17 then 3 else 0
def ja6 (k : Int) : Int := if k = 1 ∨ k = 2 ∨ 4 <= k /\ k <= 14 then 1 else 0
def nxI (a : Int) (i : Ic) : List Int := if i.1 = 23 then [] else if i.1 = 15 then [i.2] else if i.1 = 16 then [a + 1, i.2] else [a + 1]
structure Fs where
 dm : List (Int × Int)
 wk : List Int
 er : Bool
def dF (dm : List (Int × Int)) (k : Int) : Option Int := (dm.find? fun p => decide (k = p.1)).map (·.2)
def jbg (n : Nat) (af : Int) (s : Fs) (k : Int) : Option Fs :=
 if (n : Int) <= k then none else match dF s.dm k with
 | some d => some ⟨s.dm, s.wk, s.er || decide (d ≠ af)⟩
 | none => some ⟨s.dm ++ [(k, af)], s.wk ++ [k], s.er⟩
def jav (n : Nat) (af : Int) : List Int -> Fs -> Option Fs
 | [], s => some s
 | k :: l, s => match jbg n af s k with
  | none => none
  | some s' => jav n af l s'
def afF (code : List Ic) (dm : List (Int × Int)) (a : Int) : Int := (dF dm a).getD 0 - jan (code.getD a.toNat (0, 0)).1 + ja6 (code.getD a.toNat (0, 0)).1
def jp4 (code : List Ic) (dm : List (Int × Int)) (a : Int) : Bool := decide ((dF dm a).getD 0 < jan (code.getD a.toNat (0, 0)).1) || decide (16 < afF code dm a)
def jl4 (code : List Ic) (dm : List (Int × Int)) (wk : List Int) (er : Bool) (a : Int) : Option Fs :=
 jav code.length (afF code dm a) (nxI a (code.getD a.toNat (0, 0))) ⟨dm, wk, er || jp4 code dm a⟩
def jp6 (er : Bool) : Int := if er = true then 13 else 0
def jv6 (code : List Ic) : Nat -> Fs -> Int
 | 0, s => jp6 s.er
 | m + 1, s => match s.wk.getLast? with
  | none => jp6 s.er
  | some a => match jl4 code s.dm s.wk.dropLast s.er a with
   | none => 12
   | some s' => jv6 code m s'
def jb3 (code : List Ic) (entry : Int) : Int := if entry < 0 then 0 else jv6 code (code.length + 1) ⟨[(entry, 0)], [entry], false⟩
def jfr (code : List Ic) : Prop := ∀ i ∈ code, i.1 = 15 ∨ i.1 = 16 -> 0 <= i.2
structure jiA (n : Nat) (s : Fs) : Prop where
 rng : ∀ p ∈ s.dm, 0 <= p.1 /\ p.1 < n
 nd : (s.dm.map (·.1)).Nodup
 wk : ∀ k ∈ s.wk, ∃ d, (k, d) ∈ s.dm
 dep : ∀ p ∈ s.dm, -(3 * (s.dm.length : Int)) <= p.2 /\ p.2 <= 3 * s.dm.length
theorem jk2 {dm : List (Int × Int)} {k d : Int} (h : dF dm k = some d) : (k, d) ∈ dm := by
 unfold dF at h
 cases hf : dm.find? (fun p => decide (k = p.1)) with
 | none => rw [hf] at h; cases h
 | some p =>
  rw [hf] at h
  cases h
  have h1 := List.find?_some hf
  have h2 := List.mem_of_find?_eq_some hf
  rw [decide_eq_true_eq] at h1;rw [h1]; exact h2
theorem jlT {dm : List (Int × Int)} {k d : Int} (h : (k, d) ∈ dm) : ∃ d', dF dm k = some d' := by
 unfold dF
 cases hf : dm.find? (fun p => decide (k = p.1)) with
 | none => rw [List.find?_eq_none] at hf; exact absurd (hf _ h) (by simp)
 | some p => exact ⟨_, rfl⟩
theorem jqm {dm : List (Int × Int)} {k : Int} (h : dF dm k = none) : ∀ p ∈ dm, k ≠ p.1 := by
 unfold dF at h;rw [Option.map_eq_none_iff, List.find?_eq_none] at h
 exact fun p hp => by simpa using h p hp
theorem jg2 : ∀ (n : Nat) (l : List Int), l.Nodup -> (∀ a ∈ l, 0 <= a /\ a < (n : Int)) -> l.length <= n
 | 0, l, _, h => by
  cases l with
  | nil => exact Nat.le_refl _
  | cons a l => have := h a List.mem_cons_self; omega
 | n + 1, l, hn, h => by
  have h1 : (l.erase (n : Int)).length <= n := jg2 n (l.erase (n : Int)) (hn.erase _) fun a ha => by
   have h2 := h a (List.mem_of_mem_erase ha)
   have h3 : a ≠ n := (hn.mem_erase_iff.1 ha).1
   omega
  rw [List.length_erase] at h1
  split at h1 <;> omega
theorem jaH {n : Nat} {dm : List (Int × Int)} (h : ∀ p ∈ dm, 0 <= p.1 /\ p.1 < (n : Int)) (hn : (dm.map (·.1)).Nodup) : dm.length <= n := by
 have := jg2 n _ hn fun a ha => by
  obtain ⟨p, hp, rfl⟩ := List.mem_map.1 ha
  exact h p hp
 simpa using this
theorem jaA {n : Nat} {af k : Int} {s s' : Fs} (h : jiA n s) (hk : 0 <= k) (ha : -(3 * (s.dm.length : Int)) - 3 <= af /\ af <= 3 * s.dm.length + 3) (e : jbg n af s k = some s') : jiA n s' /\ s'.wk.length + s.dm.length = s.wk.length + s'.dm.length /\ s.dm.length <= s'.dm.length := by
 unfold jbg at e
 split at e
 ·cases e
 split at e
 ·cases e; exact ⟨⟨h.rng, h.nd, h.wk, h.dep⟩, rfl, Nat.le_refl _⟩
 ·rename_i hd
  have hne := jqm hd
  cases e
  refine ⟨⟨fun p hp => ?_, ?_, fun j hj => ?_, fun p hp => ?_⟩, by simp only [List.length_append, List.length_singleton]; omega, by simp⟩
  ·rcases List.mem_append.1 hp with hp | hp
   ·exact h.rng p hp
   ·rw [List.mem_singleton.1 hp]; exact ⟨hk, by simp only; omega⟩
  ·rw [List.map_append, List.map_singleton, List.nodup_append];refine ⟨h.nd, by simp, fun a ha b hb => ?_⟩
   obtain ⟨p, hp, rfl⟩ := List.mem_map.1 ha
   rw [List.mem_singleton.1 hb];exact Ne.symm (hne p hp)
  ·rcases List.mem_append.1 hj with hj | hj
   ·obtain ⟨d, hd⟩ := h.wk j hj
    exact ⟨d, List.mem_append_left _ hd⟩
   ·rw [List.mem_singleton.1 hj]; exact ⟨af, List.mem_append_right _ List.mem_cons_self⟩
  ·simp only [List.length_append, List.length_singleton]
   rcases List.mem_append.1 hp with hp | hp
   ·have := h.dep p hp; omega
   ·rw [List.mem_singleton.1 hp]; simp only; omega
theorem jnL {n : Nat} {af : Int} : ∀ (l : List Int) {s s' : Fs} (B : Nat), jiA n s -> B <= s.dm.length -> (∀ k ∈ l, 0 <= k) -> (-(3 * (B : Int)) - 3 <= af /\ af <= 3 * B + 3) -> jav n af l s = some s' -> jiA n s' /\ s'.wk.length + s.dm.length = s.wk.length + s'.dm.length /\ s.dm.length <= s'.dm.length
 | [], s, s', B, h, hB, hk, ha, e => by
  unfold jav at e
  cases e
  exact ⟨h, rfl, Nat.le_refl _⟩
 | k :: l, s, s', B, h, hB, hk, ha, e => by
  unfold jav at e
  split at e
  ·cases e
  ·rename_i s1 e1
   obtain ⟨h1, h2, h3⟩ := jaA h (hk k List.mem_cons_self) ⟨by omega, by omega⟩ e1
   obtain ⟨h4, h5, h6⟩ := jnL l B h1 (by omega) (fun j hj => hk j (List.mem_cons_of_mem _ hj)) ha e
   exact ⟨h4, by omega, by omega⟩
theorem jhe (k : Int) : 0 <= jan k /\ jan k <= 3 := by unfold jan; repeat' split <;> omega
theorem jdV (k : Int) : 0 <= ja6 k /\ ja6 k <= 1 := by unfold ja6; split <;> omega
theorem jss (k : Int) : -3 <= ja6 k - jan k /\ ja6 k - jan k <= 1 := by
 have := jhe k
 have := jdV k
 omega
theorem jpY {code : List Ic} (hj : jfr code) {a : Int} (ha : 0 <= a /\ a < code.length) : ∀ k ∈ nxI a (code.getD a.toNat (0, 0)), 0 <= k := by
 have hm : code.getD a.toNat (0, 0) ∈ code := by
  have h : a.toNat < code.length := by omega
  rw [List.getD_eq_getElem?_getD, List.getElem?_eq_getElem h];exact List.getElem_mem h
 have hjm := hj _ hm
 generalize code.getD a.toNat (0, 0) = i at *;intro k hk;unfold nxI at hk
 split at hk
 ·cases hk
 ·split at hk
  ·rw [List.mem_singleton.1 hk]; exact hjm (.inl (by assumption))
  ·split at hk
   ·rcases List.mem_cons.1 hk with rfl | hk
    ·omega
    ·rw [List.mem_singleton.1 hk]; exact hjm (.inr (by assumption))
   ·rw [List.mem_singleton.1 hk]; omega
theorem jxe {n : Nat} {code : List Ic} {s : Fs} (h : jiA n s) {a : Int} : -(3 * (s.dm.length : Int)) - 3 <= afF code s.dm a /\ afF code s.dm a <= 3 * s.dm.length + 3 := by
 have hp := jss (code.getD a.toNat (0, 0)).1
 unfold afF
 cases hd : dF s.dm a with
 | none => simp only [Option.getD_none]; omega
 | some d =>
  have := h.dep _ (jk2 hd)
  simp only [Option.getD_some];omega
theorem jpC {code : List Ic} (hj : jfr code) {dm : List (Int × Int)} {pre : List Int} {a : Int} {er : Bool} {s' : Fs} (h : jiA code.length ⟨dm, pre ++ [a], er⟩) (e : jl4 code dm pre er a = some s') : jiA code.length s' /\ s'.wk.length + (code.length - s'.dm.length) + 1 = (pre ++ [a]).length + (code.length - dm.length) /\ dm.length <= s'.dm.length := by
 have h0 : jiA code.length ⟨dm, pre, er || jp4 code dm a⟩ := ⟨h.rng, h.nd, fun k hk => h.wk k (List.mem_append_left _ hk), h.dep⟩
 obtain ⟨d, hd⟩ := h.wk a (List.mem_append_right _ List.mem_cons_self)
 have hr := h.rng _ hd
 obtain ⟨h1, h2, h3⟩ := jnL _ dm.length h0 (Nat.le_refl _) (jpY hj hr) (jxe h) e
 have hl := jaH h1.rng h1.nd
 have hl0 := jaH h.rng h.nd
 simp only [List.length_append, List.length_singleton] at h2 h3 hl0 ⊢;exact ⟨h1, by omega, h3⟩
def dmA (dm : List (Int × Int)) : List (Int × A) := dm.map fun p => (p.1, intA p.2)
theorem jn4 (dm : List (Int × Int)) (k : Int) : jby (dmA dm) k = (dF dm k).map intA := by
 unfold jby dmA dF;rw [List.find?_map]
 cases h : dm.find? ((fun p : Int × A => decide (k = p.1)) ∘ fun p : Int × Int => (p.1, intA p.2)) with
 | none =>
  have : dm.find? (fun p : Int × Int => decide (k = p.1)) = none := h
  rw [this]; rfl
 | some p =>
  have : dm.find? (fun p : Int × Int => decide (k = p.1)) = some p := h
  rw [this]; rfl
theorem jsu (dm : List (Int × Int)) (k d : Int) : dmA (dm ++ [(k, d)]) = dmA dm ++ [(k, intA d)] := by unfold dmA; rw [List.map_append]; rfl
def pgE (e : Nat -> Int) (du vo : Int) : List A := [intA (e 0), intA (e 1), intA (e 2), intA (e 3), intA (e 4), intA (e 5), intA (e 6), intA (e 7), intA (e 8), intA (e 9), intA (e 10), intA (e 11), intA (e 12), intA (e 13), intA (e 14), intA (e 15), intA (e 16), intA (e 17), intA (e 18), intA (e 19), intA (e 20), intA (e 21), intA (e 22), intA (e 23), intA (e 24), intA (e 25), intA (e 26), intA (e 27), intA (e 28), intA (e 29), intA (e 30), intA (e 31), intA (e 32), intA (e 33), intA (e 34), intA (e 35), intA (e 36), intA (e 37), intA (e 38), intA (e 39), intA du, intA vo]
def pgL (code : List Ic) (e : Nat -> Int) (du vo : Int) : List A := .sl 2 code.length (jbp code) :: pgE e du vo
def pgA (code : List Ic) (e : Nat -> Int) (du vo : Int) : A := .agg (pgL code e du vo)
structure Sh where
 po : Int
 pu : Int
 lo : Int
 hi : Int
def shA (s : Sh) : A := .agg [intA s.po, intA s.pu, intA s.lo, intA s.hi]
def shL (v l : Int) : List (Int × Sh) := [(1, ⟨0, 1, (-2147483647), 2147483647⟩), (2, ⟨0, 1, 0, v⟩), (3, ⟨1, 0, 0, v⟩), (4, ⟨0, 1, 0, 8⟩), (5, ⟨1, 1, 0, 0⟩), (6, ⟨2, 1, 0, 0⟩), (7, ⟨2, 1, 0, 0⟩), (8, ⟨2, 1, 0, 0⟩), (9, ⟨2, 1, 0, 0⟩), (10, ⟨1, 1, 0, 0⟩), (11, ⟨2, 1, 0, 0⟩), (12, ⟨2, 1, 0, 0⟩), (13, ⟨2, 1, 0, 0⟩), (14, ⟨1, 1, 0, 0⟩), (15, ⟨0, 0, 0, l⟩), (16, ⟨1, 0, 0, l⟩), (17, ⟨3, 0, 0, 29⟩), (18, ⟨0, 0, 0, 7⟩), (19, ⟨0, 0, 0, 7⟩), (20, ⟨0, 0, 0, 0⟩), (21, ⟨2, 0, 0, 0⟩), (22, ⟨1, 0, 0, 0⟩), (23, ⟨0, 0, 0, 0⟩)]
def shP (v l : Int) : List (Int × A) := (shL v l).map fun p => (p.1, shA p.2)
def shM (v l : Int) : A := .mp (mkV (shP v l)) (mvA (shP v l))
set_option maxHeartbeats 2000000 in
theorem jh6 (code : List Ic) (e : Nat -> Int) (du vo : Int) (hd : -100 <= du /\ du <= 100) (hv : -100 <= vo /\ vo <= 100) (hl : code.length <= 1000000) : Spec Tryz.prog 57 [] [pgA code e du vo] fun _ r => r = shM (du + vo - 1) (code.length - 1) := by
 refine jcK (ja4 jyl xs0 0) (fun _ _ h => h) Tryz.func57 rfl (by kernel_rfl) rfl ?_;intro _;refine jbr (ja4 _ _ _) (by kernel_rfl) ?_;conv => whnf
 refine jbr (ja4 _ _ _) (by kernel_rfl) ?_;conv => whnf
 refine ⟨jal (by omega), ?_⟩;conv => whnf
 refine ⟨jal (by omega), ?_⟩;conv => whnf
 refine ⟨jal (by omega), ?_⟩;conv => whnf
 refine jbr (ja4 _ _ _) (by kernel_rfl) ?_;conv => whnf
 refine jlG 0 ?_;conv => whnf
 refine jb0 (ja4 _ _ _) (by kernel_rfl) ?_;conv => whnf
 unfold shM mkV mvA shP shL;rfl
theorem jtb (v l k : Int) (hk : 1 <= k /\ k <= 23) : ∃ lo hi, jby (shP v l) k = some (.agg [intA (jan k), intA (ja6 k), intA lo, intA hi]) := by
 have h : k = 1 ∨ k = 2 ∨ k = 3 ∨ k = 4 ∨ k = 5 ∨ k = 6 ∨ k = 7 ∨ k = 8 ∨ k = 9 ∨ k = 10 ∨ k = 11 ∨ k = 12 ∨ k = 13 ∨ k = 14 ∨ k = 15 ∨ k = 16 ∨ k = 17 ∨ k = 18 ∨ k = 19 ∨ k = 20 ∨ k = 21 ∨ k = 22 ∨ k = 23 := by omega
 rcases h with rfl | rfl | rfl | rfl | rfl | rfl | rfl | rfl | rfl | rfl | rfl | rfl | rfl | rfl | rfl | rfl | rfl | rfl | rfl | rfl | rfl | rfl | rfl
 all_goals exact ⟨_, _, rfl⟩
theorem joV (v l k : Int) (hk : 1 <= k /\ k <= 23) {K : A -> Prop} {n : Prop} (h : ∀ lo hi, K (.agg [intA (jan k), intA (ja6 k), intA lo, intA hi])) : jcv false (mkV (shP v l)) (mvA (shP v l)) (.int .i64 k) K n := by
 refine jaP _ _ ?_
 obtain ⟨lo, hi, e⟩ := jtb v l k hk
 rw [e];exact h lo hi
def jw3 (i : Ic) : Prop := (1 <= i.1 /\ i.1 <= 23) /\ (i.1 = 15 ∨ i.1 = 16 -> 0 <= i.2)
def GOk (g : Int -> List Ic) : Prop := ∀ at' : Int, 0 <= at' -> ∀ i ∈ g at', jw3 i
theorem GOk.no : GOk noI := fun _ _ i hi => by cases hi
theorem GOk.one {i : Ic} (h : jw3 i) : GOk fun _ => [i] := fun _ _ j hj => by rw [List.mem_singleton.1 hj]; exact h
theorem GOk.seq : ∀ {l : List (Int -> List Ic)}, (∀ g ∈ l, GOk g) -> GOk (jg1 l)
 | [], _, _, _, i, hi => by cases hi
 | g :: r, h, at', ha, i, hi => by
  unfold jg1 at hi
  rcases List.mem_append.1 hi with hi | hi
  ·exact h g List.mem_cons_self at' ha i hi
  ·exact GOk.seq (fun x hx => h x (List.mem_cons_of_mem _ hx)) _ (by omega) i hi
theorem GOk.br {c y n : Int -> List Ic} (hc : GOk c) (hy : GOk y) (hn : GOk n) : GOk (brC c y n) := fun at' ha i hi => by
 unfold brC at hi;simp only [List.mem_append, List.mem_cons] at hi
 rcases hi with hi | rfl | hi | rfl | hi
 ·exact hc at' ha i hi
 ·exact ⟨by simp, fun _ => by simp only; omega⟩
 ·exact hy _ (by omega) i hi
 ·exact ⟨by simp, fun _ => by simp only; omega⟩
 ·exact hn _ (by omega) i hi
theorem GOk.get {l : List (Int -> List Ic)} (h : ∀ g ∈ l, GOk g) (k : Nat) : GOk (l.getD k noI) := by
 rw [List.getD_eq_getElem?_getD]
 cases hk : l[k]? with
 | none => exact GOk.no
 | some g => exact h g (List.mem_of_getElem? hk)
theorem jwB (s : ByteArray) : ∀ i ∈ opC s, jw3 i := by
 unfold opC
 repeat' split
 all_goals (intro i hi; simp only [List.mem_cons, List.not_mem_nil, or_false] at hi)
 all_goals first
  | (rcases hi with rfl | rfl <;> exact ⟨by simp, fun h => by simp at h⟩)
  | (subst hi; exact ⟨by simp, fun h => by simp at h⟩)
theorem GOk.body (ix : ByteArray -> Int) (k n : Int) (s : ByteArray) {l : List (Int -> List Ic)} (h : ∀ g ∈ l, GOk g) : GOk (jdg ix k n s l) := fun at' ha i hi => by
 have g0 := GOk.get h 0
 have g1 := GOk.get h 1
 have g2 := GOk.get h 2
 have sq := GOk.seq h
 have one : ∀ {a b : Int}, 1 <= a -> a <= 23 -> a ≠ 15 -> a ≠ 16 -> i ∈ [((a, b) : Ic)] -> jw3 i := fun h1 h2 h3 h4 hi => by
  rw [List.mem_singleton.1 hi];exact ⟨⟨h1, h2⟩, fun h => by rcases h with h | h; exact absurd h h3; exact absurd h h4⟩
 unfold jdg at hi
 by_cases c1 : k = 12 ∨ k = 13
 ·rw [if_pos c1] at hi;exact one (by decide) (by decide) (by decide) (by decide) hi
 rw [if_neg c1] at hi
 by_cases c2 : k = 14
 ·rw [if_pos c2] at hi;exact one (by decide) (by decide) (by decide) (by decide) hi
 rw [if_neg c2] at hi
 by_cases c3 : k = 15
 ·rw [if_pos c3] at hi;exact one (by decide) (by decide) (by decide) (by decide) hi
 rw [if_neg c3] at hi
 by_cases c4 : k = 2
 ·rw [if_pos c4] at hi;exact GOk.br g0 g1 g2 at' ha i hi
 rw [if_neg c4] at hi
 by_cases c5 : k = 5
 ·rw [if_pos c5] at hi;exact one (by decide) (by decide) (by decide) (by decide) hi
 rw [if_neg c5] at hi
 by_cases c6 : k = 6
 ·rw [if_pos c6] at hi;exact one (by decide) (by decide) (by decide) (by decide) hi
 rw [if_neg c6] at hi
 by_cases c7 : k = 7
 ·rw [if_pos c7] at hi;exact one (by decide) (by decide) (by decide) (by decide) hi
 rw [if_neg c7] at hi
 by_cases c8 : k = 10
 ·rw [if_pos c8] at hi;exact one (by decide) (by decide) (by decide) (by decide) hi
 rw [if_neg c8] at hi
 by_cases c9 : k = 3
 ·rw [if_pos c9] at hi;simp only [List.mem_append, List.mem_cons, List.not_mem_nil, or_false] at hi
  rcases hi with hi | rfl | hi | rfl
  ·exact g0 at' ha i hi
  ·exact ⟨by simp, fun _ => by simp only; omega⟩
  ·exact g1 _ (by omega) i hi
  ·exact ⟨by simp, fun _ => ha⟩
 rw [if_neg c9] at hi
 by_cases ca : k = 18 /\ s = jhq
 ·rw [if_pos ca] at hi;exact GOk.br g0 g1 (GOk.one ⟨by simp, fun h => by simp at h⟩) at' ha i hi
 rw [if_neg ca] at hi
 by_cases cb : k = 18 /\ s = pOr
 ·rw [if_pos cb] at hi;exact GOk.br g0 (GOk.one ⟨by simp, fun h => by simp at h⟩) g1 at' ha i hi
 rw [if_neg cb] at hi
 rcases List.mem_append.1 hi with hi | hi
 ·exact sq at' ha i hi
 by_cases d1 : k = 18
 ·rw [if_pos d1] at hi;exact jwB s i hi
 rw [if_neg d1] at hi
 by_cases d2 : k = 16
 ·rw [if_pos d2] at hi;exact one (by decide) (by decide) (by decide) (by decide) hi
 rw [if_neg d2] at hi
 by_cases d3 : k = 17
 ·rw [if_pos d3] at hi
  by_cases d4 : s = jbn
  ·rw [if_pos d4] at hi;exact one (by decide) (by decide) (by decide) (by decide) hi
  ·rw [if_neg d4] at hi;exact one (by decide) (by decide) (by decide) (by decide) hi
 rw [if_neg d3] at hi
 by_cases d5 : k = 1
 ·rw [if_pos d5] at hi;exact one (by decide) (by decide) (by decide) (by decide) hi
 rw [if_neg d5] at hi
 by_cases d6 : k = 4
 ·rw [if_pos d6] at hi;exact one (by decide) (by decide) (by decide) (by decide) hi
 rw [if_neg d6] at hi
 by_cases d7 : k = 8
 ·rw [if_pos d7] at hi;exact one (by decide) (by decide) (by decide) (by decide) hi
 rw [if_neg d7] at hi
 by_cases d8 : k = 9
 ·rw [if_pos d8] at hi;exact one (by decide) (by decide) (by decide) (by decide) hi
 rw [if_neg d8] at hi
 cases hi
theorem jnb (ix : ByteArray -> Int) : ∀ f : Nt, GOk (jaL ix f)
 | .mk k n s kids => by
  have h : ∀ f ∈ kids, GOk (jaL ix f) := fun f hf => jnb ix f
  rw [show jaL ix (.mk k n s kids) = jdg ix k n s (jaz ix kids) by funext at'; rw [jaL]]
  refine GOk.body ix k n s fun g hg => ?_
  rw [jdU] at hg
  obtain ⟨f, hf, rfl⟩ := List.mem_map.1 hg
  exact h f hf
def hcL (ix : ByteArray -> Int) : List (Int × Nt) -> List Ic -> (Nat -> Int) -> List Ic × (Nat -> Int)
 | [], c, e => (c, e)
 | (h, b) :: r, c, e => hcL ix r (c ++ jaL ix b c.length ++ [(23, 0)]) (fun j => if j = h.toNat then (c.length : Int) else e j)
def joW (code : List Ic) (e : Nat -> Int) : Nat -> Nat -> Int
 | _, 0 => 0
 | j, m + 1 => if jb3 code (e j) ≠ 0 then jb3 code (e j) else joW code e (j + 1) m
def noE : Nat -> Int := fun _ => -1
def zE : Nat -> Int := fun _ => 0
def jtH (u : Ut) : List Ic × (Nat -> Int) := hcL (ixU u) u.on [] noE
def jwF (u : Ut) : Int := if 400 < (jtH u).1.length then 2 else joW (jtH u).1 (jtH u).2 0 40
def jrK : List A := .v (.slice none 0 0) :: pgE zE 0 0
def jwG (u : Ut) : A := if jwF u = 0 then .tup [pgA (jtH u).1 (jtH u).2 u.du.length u.vo.length, intA 0] else .tup [.agg jrK, intA (jwF u)]
def okI (v l : Int) (i : Ic) : Bool := match (shL v l).find? (fun p => decide (i.1 = p.1)) with
 | none => false
 | some p => decide (p.2.lo <= i.2) && decide (i.2 <= p.2.hi)
def jee (n : Nat) (x : Int) : Bool := decide (-1 <= x) && decide (x < (n : Int))
def jgr (p : Int -> Bool) (e : Nat -> Int) : Nat -> Nat -> Bool
 | _, 0 => true
 | j, m + 1 => p (e j) && jgr p e (j + 1) m
def jvH (code : List Ic) (e : Nat -> Int) : Nat -> Nat -> Int -> Int
 | _, 0, r => r
 | j, m + 1, r => if jb3 code (e j) = 12 then 12 else jvH code e (j + 1) m (if jb3 code (e j) = 13 then 13 else r)
def jrw (code : List Ic) (e : Nat -> Int) (du vo : Int) : Int :=
 if 400 < code.length then 2
 else if du < 0 ∨ vo < 0 ∨ 16 < du ∨ 16 - du < vo then 12
 else if (code.all (okI (du + vo - 1) (code.length - 1))) = false then 12
 else if jgr (jee code.length) e 0 40 = false then 12
 else jvH code e 0 40 0
def opI (code : List Ic) (a : Int) : Int := (code.getD a.toNat (0, 0)).1
def sc (code : List Ic) (a : Int) : List Int := nxI a (code.getD a.toNat (0, 0))
def lv (code : List Ic) (a d : Int) : Int := d - jan (opI code a) + ja6 (opI code a)
inductive Rch (code : List Ic) (x : Int) : Int -> Prop
 | here : Rch code x x
 | next {a k : Int} (h : Rch code x a) (hk : k ∈ sc code a) (hn : k < code.length) : Rch code x k
structure jrC (code : List Ic) (x : Int) (D : Int -> Int) : Prop where
 st : D x = 0
 po : ∀ a, Rch code x a -> jan (opI code a) <= D a
 nx : ∀ a, Rch code x a -> ∀ k ∈ sc code a, k < code.length -> D k = lv code a (D a)
def Good (code : List Ic) (x : Int) (D : Int -> Int) : Prop := jrC code x D /\ ∀ a, Rch code x a -> lv code a (D a) <= 16
theorem Rch.rng {code : List Ic} (hj : jfr code) {x : Int} (hx : 0 <= x /\ x < code.length) {a : Int} (h : Rch code x a) : 0 <= a /\ a < code.length := by
 induction h with
 | here => exact hx
 | next h hk hn ih => exact ⟨jpY hj ih _ hk, hn⟩
theorem Good.le {code : List Ic} {x : Int} {D : Int -> Int} (h : Good code x D) {a : Int} (ha : Rch code x a) : D a <= 16 := by
 cases ha with
 | here => rw [h.1.st]; decide
 | next h1 hk hn => rw [h.1.nx _ h1 _ hk hn]; exact h.2 _ h1
theorem jjg {n : Nat} {af : Int} : ∀ (l : List Int) (s s' : Fs), jav n af l s = some s' -> ∃ t : List (Int × Int), s'.dm = s.dm ++ t /\ s'.wk = s.wk ++ t.map (·.1) /\ (∀ p ∈ t, p.1 ∈ l /\ p.2 = af) /\ (∀ k ∈ l, k < n /\ ∃ d, (k, d) ∈ s'.dm) /\ (s'.er = false -> s.er = false /\ ∀ k ∈ l, (k, af) ∈ s'.dm) /\ ((s.er = false /\ ∀ k ∈ l, ∀ d, (k, d) ∈ s.dm -> d = af) -> s'.er = false)
 | [], s, s', e => by
  unfold jav at e
  cases e
  exact ⟨[], by simp, by simp, by simp, by simp, fun h => ⟨h, by simp⟩, fun h => h.1⟩
 | k :: l, s, s', e => by
  unfold jav jbg at e
  by_cases hk : (n : Int) <= k
  ·rw [if_pos hk] at e; cases e
  rw [if_neg hk] at e
  cases hd : dF s.dm k with
  | some d =>
   rw [hd] at e
   simp only at e
   obtain ⟨t, h1, h2, h3, h4, h5, h6⟩ := jjg l _ s' e
   have hm := jk2 hd
   refine ⟨t, h1, h2, fun p hp => ⟨List.mem_cons_of_mem _ (h3 p hp).1, (h3 p hp).2⟩, ?_, ?_, ?_⟩
   ·intro j hj'
    rcases List.mem_cons.1 hj' with rfl | hj'
    ·exact ⟨by omega, d, by rw [h1]; exact List.mem_append_left _ hm⟩
    ·exact h4 j hj'
   ·intro he
    obtain ⟨q1, q2⟩ := h5 he
    simp only [Bool.or_eq_false_iff, decide_eq_false_iff_not, ne_eq, Decidable.not_not] at q1;refine ⟨q1.1, fun j hj' => ?_⟩
    rcases List.mem_cons.1 hj' with rfl | hj'
    ·rw [h1, <- q1.2]; exact List.mem_append_left _ hm
    ·exact q2 j hj'
   ·rintro ⟨q1, q2⟩;refine h6 ⟨?_, fun j hj' d' hd' => q2 j (List.mem_cons_of_mem _ hj') d' hd'⟩;simp only [Bool.or_eq_false_iff, decide_eq_false_iff_not, ne_eq, Decidable.not_not];exact ⟨q1, q2 k List.mem_cons_self d hm⟩
  | none =>
   rw [hd] at e
   simp only at e
   obtain ⟨t, h1, h2, h3, h4, h5, h6⟩ := jjg l _ s' e
   simp only at h1 h2 h5 h6
   refine ⟨(k, af) :: t, by rw [h1, List.append_assoc]; rfl, by rw [h2, List.append_assoc]; rfl, ?_, ?_, ?_, ?_⟩
   ·intro p hp
    rcases List.mem_cons.1 hp with rfl | hp
    ·exact ⟨List.mem_cons_self, rfl⟩
    ·exact ⟨List.mem_cons_of_mem _ (h3 p hp).1, (h3 p hp).2⟩
   ·intro j hj'
    rcases List.mem_cons.1 hj' with rfl | hj'
    ·exact ⟨by omega, af, by rw [h1]; exact List.mem_append_left _ (List.mem_append_right _ List.mem_cons_self)⟩
    ·exact h4 j hj'
   ·intro he
    obtain ⟨q1, q2⟩ := h5 he
    refine ⟨q1, fun j hj' => ?_⟩
    rcases List.mem_cons.1 hj' with rfl | hj'
    ·rw [h1]; exact List.mem_append_left _ (List.mem_append_right _ List.mem_cons_self)
    ·exact q2 j hj'
   ·rintro ⟨q1, q2⟩;refine h6 ⟨q1, fun j hj' d' hd' => ?_⟩
    rcases List.mem_append.1 hd' with hd' | hd'
    ·exact q2 j (List.mem_cons_of_mem _ hj') d' hd'
    ·rw [List.mem_singleton] at hd'; exact (Prod.mk.inj hd').2
theorem jgz {n : Nat} {af : Int} : ∀ (l : List Int) (s : Fs), jav n af l s = none -> ∃ k ∈ l, (n : Int) <= k
 | [], s, e => by unfold jav at e; cases e
 | k :: l, s, e => by
  unfold jav jbg at e
  by_cases hk : (n : Int) <= k
  ·exact ⟨k, List.mem_cons_self, hk⟩
  rw [if_neg hk] at e
  cases hd : dF s.dm k with
  | some d =>
   rw [hd] at e
   obtain ⟨j, h1, h2⟩ := jgz l _ e
   exact ⟨j, List.mem_cons_of_mem _ h1, h2⟩
  | none =>
   rw [hd] at e
   obtain ⟨j, h1, h2⟩ := jgz l _ e
   exact ⟨j, List.mem_cons_of_mem _ h1, h2⟩
theorem jx0 {dm : List (Int × Int)} (h : (dm.map (·.1)).Nodup) {k d d' : Int} (h1 : (k, d) ∈ dm) (h2 : (k, d') ∈ dm) : d = d' := by
 induction dm with
 | nil => cases h1
 | cons p l ih =>
  rw [List.map_cons, List.nodup_cons] at h
  rcases List.mem_cons.1 h1 with e1 | h1
  ·rcases List.mem_cons.1 h2 with e2 | h2
   ·rw [<- e1] at e2; exact (Prod.mk.inj e2).2.symm
   ·exact absurd (List.mem_map.2 ⟨_, h2, by rw [<- e1]⟩) h.1
  ·rcases List.mem_cons.1 h2 with e2 | h2
   ·exact absurd (List.mem_map.2 ⟨_, h1, by rw [<- e2]⟩) h.1
   ·exact ih h.2 h1 h2
structure Fi (code : List Ic) (x : Int) (s : Fs) : Prop where
 ok : jiA code.length s
 rc : ∀ p ∈ s.dm, Rch code x p.1
 st : (x, 0) ∈ s.dm
 pr : ∀ p ∈ s.dm, p.1 ∉ s.wk -> ∀ k ∈ sc code p.1, k < code.length /\ ∃ d, (k, d) ∈ s.dm
 gd : s.er = false -> ∀ p ∈ s.dm, p.1 ∉ s.wk -> jan (opI code p.1) <= p.2 /\ lv code p.1 p.2 <= 16 /\ ∀ k ∈ sc code p.1, (k, lv code p.1 p.2) ∈ s.dm
 gu : ∀ D, Good code x D -> s.er = false /\ ∀ p ∈ s.dm, p.2 = D p.1
theorem ju9 {code : List Ic} (hj : jfr code) {x : Int} {dm : List (Int × Int)} {pre : List Int} {a : Int} {er : Bool} {s' : Fs} (h : Fi code x ⟨dm, pre ++ [a], er⟩) (e : jl4 code dm pre er a = some s') : Fi code x s' := by
 obtain ⟨ok', -, -⟩ := jpC hj h.ok e
 obtain ⟨d0, hd0⟩ := h.ok.wk a (List.mem_append_right _ List.mem_cons_self)
 obtain ⟨d, hd⟩ := jlT hd0
 have hm : (a, d) ∈ dm := jk2 hd
 have ha : Rch code x a := h.rc _ hm
 unfold jl4 at e
 obtain ⟨t, h1, h2, h3, h4, h5, h6⟩ := jjg _ _ _ e
 have haf : afF code dm a = lv code a d := by unfold afF; rw [hd]; rfl
 have hbd : jp4 code dm a = (decide (d < jan (opI code a)) || decide (16 < lv code a d)) := by unfold jp4; rw [haf, hd]; rfl
 rw [haf] at h3 h5 h6;rw [hbd] at h5 h6
 simp only at h1 h2 h5 h6
 change ∀ k ∈ sc code a, _ at h4
 change ∀ p ∈ t, p.1 ∈ sc code a /\ _ at h3
 have hsub : ∀ p ∈ dm, p ∈ s'.dm := fun p hp => by rw [h1]; exact List.mem_append_left _ hp
 have hold : ∀ p ∈ s'.dm, p.1 ∉ s'.wk -> p.1 ≠ a -> p ∈ dm /\ p.1 ∉ pre ++ [a] := fun p hp hw hne => by
  rw [h2] at hw;rw [h1] at hp
  rcases List.mem_append.1 hp with hp | hp
  ·refine ⟨hp, fun hq => ?_⟩
   rcases List.mem_append.1 hq with hq | hq
   ·exact hw (List.mem_append_left _ hq)
   ·exact hne (List.mem_singleton.1 hq)
  ·exact absurd (List.mem_append_right _ (List.mem_map.2 ⟨p, hp, rfl⟩)) hw
 refine ⟨ok', fun p hp => ?_, hsub _ h.st, fun p hp hw => ?_, fun he p hp hw => ?_, fun D hD => ?_⟩
 ·rw [h1] at hp
  rcases List.mem_append.1 hp with hp | hp
  ·exact h.rc p hp
  ·exact .next ha (h3 p hp).1 (h4 _ (h3 p hp).1).1
 ·by_cases hpa : p.1 = a
  ·rw [hpa]; exact h4
  ·obtain ⟨q1, q2⟩ := hold p hp hw hpa
   intro k hk
   obtain ⟨q3, d', q4⟩ := h.pr p q1 q2 k hk
   exact ⟨q3, d', hsub _ q4⟩
 ·obtain ⟨q1, q2⟩ := h5 he
  simp only [Bool.or_eq_false_iff, decide_eq_false_iff_not] at q1
  by_cases hpa : p.1 = a
  ·have hpd : p.2 = d := jx0 ok'.nd (k := a) (by rw [<- hpa]; exact hp) (hsub _ hm)
   rw [hpa, hpd];exact ⟨by omega, by omega, q2⟩
  ·obtain ⟨w1, w2⟩ := hold p hp hw hpa
   obtain ⟨w3, w4, w5⟩ := h.gd q1.1 p w1 w2
   exact ⟨w3, w4, fun k hk => hsub _ (w5 k hk)⟩
 ·obtain ⟨q1, q2⟩ := h.gu D hD
  simp only at q1 q2
  have hda : d = D a := q2 _ hm
  have hpo := hD.1.po a ha
  have hle := hD.2 a ha
  have hnx : ∀ k ∈ sc code a, D k = lv code a d := fun k hk => by rw [hda]; exact hD.1.nx a ha k hk (h4 k hk).1
  refine ⟨h6 ⟨?_, fun k hk d' hd' => ?_⟩, fun p hp => ?_⟩
  ·rw [q1, decide_eq_false (show ¬ d < jan (opI code a) by omega), decide_eq_false (show ¬ 16 < lv code a d by rw [hda]; omega)]; rfl
  ·exact (q2 _ hd').trans (hnx k hk)
  ·rw [h1] at hp
   rcases List.mem_append.1 hp with hp | hp
   ·exact q2 p hp
   ·rw [(h3 p hp).2, hnx _ (h3 p hp).1]
def jyx (code : List Ic) (x f : Int) : Prop :=
 (f = 12 /\ ∃ a, Rch code x a /\ ∃ k ∈ sc code a, (code.length : Int) <= k) ∨ ((∀ a, Rch code x a -> ∀ k ∈ sc code a, k < (code.length : Int)) /\ ((f = 0 /\ ∃ D, Good code x D) ∨ (f = 13 /\ ¬ ∃ D, Good code x D)))
theorem jqN {code : List Ic} (hj : jfr code) {x : Int} : ∀ (m : Nat) (s : Fs), Fi code x s -> s.wk.length + (code.length - s.dm.length) + 1 <= m -> jyx code x (jv6 code m s)
 | 0, s, h, hm => by omega
 | m + 1, ⟨dm, wk, er⟩, h, hm => by
  rw [jv6]
  rcases List.eq_nil_or_concat wk with rfl | ⟨pre, a, hw⟩
  ·simp only [List.getLast?_nil]
   have hall : ∀ a, Rch code x a -> ∃ d, (a, d) ∈ dm := fun a ha => by
    induction ha with
    | here => exact ⟨0, h.st⟩
    | next h1 hk hn ih =>
     obtain ⟨d, hd⟩ := ih
     exact (h.pr _ hd (by simp) _ hk).2
   refine .inr ⟨fun a ha k hk => ?_, ?_⟩
   ·obtain ⟨d, hd⟩ := hall a ha
    exact (h.pr _ hd (by simp) k hk).1
   ·cases er with
    | true =>
     refine .inr ⟨rfl, fun ⟨D, hD⟩ => ?_⟩
     have := (h.gu D hD).1
     cases this
    | false =>
     refine .inl ⟨rfl, fun k => (dF dm k).getD 0, ?_⟩
     have hget : ∀ k d, (k, d) ∈ dm -> (dF dm k).getD 0 = d := fun k d hd => by
      obtain ⟨d', hd'⟩ := jlT hd
      rw [hd'];exact jx0 h.ok.nd (jk2 hd') hd
     have hgd := h.gd rfl
     refine ⟨⟨hget _ _ h.st, fun a ha => ?_, fun a ha k hk hn => ?_⟩, fun a ha => ?_⟩
     ·obtain ⟨d, hd⟩ := hall a ha
      rw [hget a d hd];exact (hgd _ hd (by simp)).1
     ·obtain ⟨d, hd⟩ := hall a ha
      rw [hget a d hd];exact hget _ _ ((hgd _ hd (by simp)).2.2 k hk)
     ·obtain ⟨d, hd⟩ := hall a ha
      show lv code a ((dF dm a).getD 0) <= 16
      rw [hget a d hd];exact (hgd _ hd (by simp)).2.1
  ·rw [List.concat_eq_append] at hw;subst hw;simp only [List.getLast?_append, List.getLast?_singleton, Option.some_or, List.dropLast_append_cons, List.dropLast_singleton, List.append_nil]
   cases hs : jl4 code dm pre er a with
   | none =>
    obtain ⟨d0, hd0⟩ := h.ok.wk a (List.mem_append_right _ List.mem_cons_self)
    unfold jl4 at hs
    obtain ⟨k, hk, hn⟩ := jgz _ _ hs
    exact .inl ⟨rfl, a, h.rc _ hd0, k, hk, hn⟩
   | some s' =>
    obtain ⟨ok', q2, q3⟩ := jpC hj h.ok hs
    refine jqN hj m s' (ju9 hj h hs) ?_;simp only [List.length_append, List.length_singleton] at hm q2;omega
theorem jiu {code : List Ic} (hj : jfr code) {x : Int} (hx : 0 <= x /\ x < code.length) : jyx code x (jb3 code x) := by
 unfold jb3;rw [if_neg (by omega)];refine jqN hj _ _ ⟨⟨?_, ?_, ?_, ?_⟩, ?_, List.mem_singleton.2 rfl, ?_, ?_, ?_⟩ ?_
 ·intro p hp;rw [List.mem_singleton.1 hp]; exact hx
 ·simp
 ·intro k hk;rw [List.mem_singleton.1 hk]; exact ⟨0, List.mem_singleton.2 rfl⟩
 ·intro p hp;rw [List.mem_singleton.1 hp]; simp only [List.length_singleton]; omega
 ·intro p hp;rw [List.mem_singleton.1 hp]; exact .here
 ·intro p hp hw;rw [List.mem_singleton.1 hp] at hw
  simp at hw
 ·intro _ p hp hw;rw [List.mem_singleton.1 hp] at hw
  simp at hw
 ·intro D hD;refine ⟨rfl, fun p hp => ?_⟩;rw [List.mem_singleton.1 hp]; exact hD.1.st.symm
 ·simp only [List.length_singleton]; omega
def og (out : List Int) (i : Int) : Int := out.getD i.toNat (-1)
def cN (out : List Int) : Nat := out.countP fun v => decide (0 <= v)
theorem jqS {out : List Int} {i : Int} (h : 0 <= i) (hn : i < out.length) : ∃ h2 : i.toNat < out.length, og out i = out[i.toNat] := by
 have h2 : i.toNat < out.length := by omega
 exact ⟨h2, by unfold og; rw [List.getD_eq_getElem?_getD, List.getElem?_eq_getElem h2]; rfl⟩
theorem jlx {out : List Int} {k j d : Int} (hk : 0 <= k /\ k < out.length) (hj : 0 <= j) : og (out.set k.toNat d) j = if j = k then d else og out j := by
 unfold og;rw [List.getD_eq_getElem?_getD, List.getElem?_set]
 by_cases h : j = k
 ·subst h;rw [if_pos rfl, if_pos rfl, if_pos (by omega)]; rfl
 ·rw [if_neg (by omega), if_neg h, <- List.getD_eq_getElem?_getD]
theorem jpg : ∀ (out : List Int) (k : Nat) (hk : k < out.length) (d : Int), out[k] < 0 -> 0 <= d -> cN (out.set k d) = cN out + 1
 | [], k, hk, d, h1, h2 => by simp at hk
 | v :: l, 0, hk, d, h1, h2 => by
  unfold cN;rw [List.set_cons_zero, List.countP_cons, List.countP_cons];simp only [List.getElem_cons_zero] at h1;rw [decide_eq_true h2, decide_eq_false (show ¬ 0 <= v by omega)]
  simp
 | v :: l, k + 1, hk, d, h1, h2 => by
  have ih := jpg l k (by simpa using hk) d (by simpa using h1) h2
  unfold cN at ih ⊢;rw [List.set_cons_succ, List.countP_cons, List.countP_cons, ih];omega
theorem joP (out : List Int) : cN out <= out.length := List.countP_le_length
structure Di (code : List Ic) (x : Int) (out : List Int) (ok : Bool) : Prop where
 ln : out.length = code.length
 bd : ∀ v ∈ out, -1 <= v /\ v + 1 <= (cN out : Int)
 x0 : og out x = 0
 re : ∀ i : Int, 0 <= i -> i < code.length -> 0 <= og out i -> Rch code x i
 uq : ∀ D, jrC code x D -> ok = true /\ ∀ i : Int, 0 <= i -> i < code.length -> 0 <= og out i -> og out i = D i
def Pds (code : List Ic) (out : List Int) (ok : Bool) (j : Int) (l : List Int) : Prop := (ok = true -> jan (opI code j) <= og out j) /\ ∀ k ∈ l, 0 <= k -> k < code.length -> 0 <= og out k /\ (ok = true -> og out k = lv code j (og out j))
theorem Di.bnd {code : List Ic} {x : Int} {out : List Int} {ok : Bool} (h : Di code x out ok) {i : Int} (hi : 0 <= i /\ i < code.length) : -1 <= og out i /\ og out i + 1 <= cN out := by
 obtain ⟨h2, e⟩ := jqS hi.1 (by rw [h.ln]; exact hi.2)
 rw [e]; exact h.bd _ (List.getElem_mem h2)
theorem Di.init {code : List Ic} {x : Int} (hx : 0 <= x /\ x < code.length) : Di code x ((List.replicate code.length (-1)).set x.toNat 0) true := by
 have hl : (List.replicate code.length (-1 : Int)).length = code.length := List.length_replicate
 have hog : ∀ i, 0 <= i -> og (List.replicate code.length (-1)) i = -1 := fun i hi => by
  unfold og;rw [List.getD_eq_getElem?_getD, List.getElem?_replicate]
  split <;> rfl
 have hc : cN ((List.replicate code.length (-1 : Int)).set x.toNat 0) = 1 := by
  rw [jpg _ _ (by rw [hl]; omega) _ (by rw [List.getElem_replicate]; decide) (by decide)];unfold cN;rw [List.countP_replicate];rfl
 have hos : ∀ i, 0 <= i -> og ((List.replicate code.length (-1 : Int)).set x.toNat 0) i = if i = x then 0 else -1 := fun i hi => by
  rw [jlx (by rw [hl]; exact hx) hi, hog i hi]
 refine ⟨by rw [List.length_set, hl], fun v hv => ?_, ?_, fun i h1 h2 h3 => ?_, fun D hD => ⟨rfl, fun i h1 h2 h3 => ?_⟩⟩
 ·rw [hc]
  rcases List.mem_or_eq_of_mem_set hv with h | h
  ·rw [List.eq_of_mem_replicate h]; omega
  ·rw [h]; omega
 ·rw [hos x hx.1, if_pos rfl]
 ·rw [hos i h1] at h3
  by_cases e : i = x
  ·rw [e]; exact .here
  ·rw [if_neg e] at h3; omega
 ·rw [hos i h1] at h3 ⊢
  by_cases e : i = x
  ·rw [if_pos e, e]; exact hD.st.symm
  ·rw [if_neg e] at h3; omega
theorem Di.put {code : List Ic} {x : Int} {out : List Int} {ok : Bool} (h : Di code x out ok) {i k d : Int} (hi : 0 <= i /\ i < code.length) (hr : 0 <= og out i) (hk : k ∈ sc code i) (hkr : 0 <= k /\ k < code.length) (hlt : og out k < 0) (hd : 0 <= d /\ d <= cN out) (hD : ∀ D, jrC code x D -> d = D k) : Di code x (out.set k.toNat d) ok /\ cN (out.set k.toNat d) = cN out + 1 := by
 have hkl : 0 <= k /\ k < out.length := by rw [h.ln]; exact hkr
 obtain ⟨h2, e2⟩ := jqS hkl.1 hkl.2
 have hc := jpg out k.toNat h2 d (by rw [<- e2]; exact hlt) hd.1
 have hkx : x ≠ k := fun e => by rw [<- e, h.x0] at hlt; omega
 refine ⟨⟨by rw [List.length_set, h.ln], fun v hv => ?_, ?_, fun j h1 h2 h3 => ?_, fun D hC => ⟨(h.uq D hC).1, fun j h1 h2 h3 => ?_⟩⟩, hc⟩
 ·rw [hc]
  rcases List.mem_or_eq_of_mem_set hv with h | h'
  ·have := Di.bd ‹_› v h; omega
  ·rw [h']; omega
 ·by_cases hx : 0 <= x
  ·rw [jlx hkl hx, if_neg hkx]; exact h.x0
  ·unfold og
   have e := h.x0
   unfold og at e;rw [List.getD_eq_getElem?_getD, List.getElem?_set] at *
   by_cases q : k.toNat = x.toNat
   ·exfalso
    have : og out k = og out x := by unfold og; rw [q]
    rw [h.x0] at this; omega
   ·rw [if_neg q]; exact e
 ·rw [jlx hkl h1] at h3
  by_cases e : j = k
  ·rw [e]; exact .next (h.re i hi.1 hi.2 hr) hk hkr.2
  ·rw [if_neg e] at h3; exact h.re j h1 h2 h3
 ·rw [jlx hkl h1] at h3 ⊢
  by_cases e : j = k
  ·rw [if_pos e, e]; exact hD D hC
  ·rw [if_neg e] at h3 ⊢; exact (h.uq D hC).2 j h1 h2 h3
theorem Di.no {code : List Ic} {x : Int} {out : List Int} {ok : Bool} (h : Di code x out ok) (hD : ∀ D, ¬ jrC code x D) : Di code x out false := ⟨h.ln, h.bd, h.x0, h.re, fun D hC => absurd hC (hD D)⟩
structure Dp (code : List Ic) (x : Int) (out : List Int) (ok : Bool) : Prop where
 ln : out.length = code.length
 bd : ∀ i : Int, 0 <= i -> i < code.length -> -1 <= og out i /\ og out i <= code.length
 re : ∀ i : Int, 0 <= i -> i < code.length -> (0 <= og out i ↔ Rch code x i)
 con : ok = true -> jrC code x (og out)
 uq : ∀ D, jrC code x D -> ok = true /\ ∀ i, Rch code x i -> og out i = D i
theorem Dp.of {code : List Ic} (hj : jfr code) {x : Int} (hx : 0 <= x /\ x < code.length) {out : List Int} {ok : Bool} (h : Di code x out ok) (hp : ∀ j : Int, 0 <= j -> j < code.length -> 0 <= og out j -> Pds code out ok j (sc code j)) : Dp code x out ok := by
 have hc : cN out <= code.length := by have := joP out; rw [h.ln] at this; exact this
 have hr : ∀ a, Rch code x a -> 0 <= og out a := fun a ha => by
  induction ha with
  | here => rw [h.x0]; exact Int.le_refl 0
  | next h1 hk hn ih =>
   have q := h1.rng hj hx
   exact ((hp _ q.1 q.2 ih).2 _ hk (jpY hj q _ hk) hn).1
 refine ⟨h.ln, fun i h1 h2 => ?_, fun i h1 h2 => ⟨h.re i h1 h2, hr i⟩, fun hok => ⟨h.x0, fun a ha => ?_, fun a ha k hk hn => ?_⟩, fun D hD => ⟨(h.uq D hD).1, fun i hi => ?_⟩⟩
 ·have := h.bnd ⟨h1, h2⟩; omega
 ·have q := ha.rng hj hx
  exact (hp a q.1 q.2 (hr a ha)).1 hok
 ·have q := ha.rng hj hx
  exact ((hp a q.1 q.2 (hr a ha)).2 k hk (jpY hj q _ hk) hn).2 hok
 ·have q := hi.rng hj hx
  exact (h.uq D hD).2 i q.1 q.2 (hr i hi)
theorem jjq {code : List Ic} {x : Int} {out out2 : List Int} {ok ok2 : Bool} (h : Dp code x out ok) (h2 : Dp code x out2 ok2) : (ok = true /\ ∀ i, Rch code x i -> og out2 i <= 16 /\ lv code i (og out2 i) <= 16) ↔ ∃ D, Good code x D := by
 constructor
 ·rintro ⟨hok, hb⟩
  have hc := h.con hok
  refine ⟨og out, hc, fun a ha => ?_⟩;rw [<- (h2.uq _ hc).2 a ha]; exact (hb a ha).2
 ·rintro ⟨D, hD⟩;refine ⟨(h.uq D hD.1).1, fun i hi => ?_⟩;rw [(h2.uq D hD.1).2 i hi];exact ⟨hD.le hi, hD.2 i hi⟩
theorem jji (k : Int) : (k = 1 ∨ k = 2 ∨ k = 3 ∨ k = 4 ∨ k = 5 ∨ k = 6 ∨ k = 7 ∨ k = 8 ∨ k = 9 ∨ k = 10 ∨ k = 11 ∨ k = 12 ∨ k = 13 ∨ k = 14 ∨ k = 15 ∨ k = 16 ∨ k = 17 ∨ k = 18 ∨ k = 19 ∨ k = 20 ∨ k = 21 ∨ k = 22 ∨ k = 23) ∨ (k < 1 ∨ 23 < k) := by omega
def jvB (k : Int) : Int := if 1 <= k /\ k <= 23 then jan k else -1
theorem jaj (k : Int) : Spec Tryz.prog 68 [] [intA k] fun _ r => r = intA (jvB k) := by
 rcases jji k with h | h
 ·rcases h with rfl | rfl | rfl | rfl | rfl | rfl | rfl | rfl | rfl | rfl | rfl | rfl | rfl | rfl | rfl | rfl | rfl | rfl | rfl | rfl | rfl | rfl | rfl
  all_goals
   refine ja7 (ja4 jaE xs0 0) (fun _ _ h => h) Tryz.func68 rfl (by kernel_rfl) rfl (by kernel_rfl) ?_;intro _;conv => whnf
   rfl
 unfold jvB;rw [if_neg (by omega)];refine ja7 (ja4 jaE xs0 0) (fun _ _ h => h) Tryz.func68 rfl (by kernel_rfl) rfl (by kernel_rfl) ?_;intro _;conv => whnf
 rw [decide_eq_false (show ¬ k = 1 by omega)];conv => whnf
 rw [decide_eq_false (show ¬ k = 2 by omega)];conv => whnf
 rw [decide_eq_false (show ¬ k = 4 by omega)];conv => whnf
 rw [decide_eq_false (show ¬ k = 15 by omega)];conv => whnf
 rw [decide_eq_false (show ¬ k = 18 by omega)];conv => whnf
 rw [decide_eq_false (show ¬ k = 19 by omega)];conv => whnf
 rw [decide_eq_false (show ¬ k = 20 by omega)];conv => whnf
 rw [decide_eq_false (show ¬ k = 23 by omega)];conv => whnf
 rw [decide_eq_false (show ¬ k = 5 by omega)];conv => whnf
 rw [decide_eq_false (show ¬ k = 10 by omega)];conv => whnf
 rw [decide_eq_false (show ¬ k = 14 by omega)];conv => whnf
 rw [decide_eq_false (show ¬ k = 3 by omega)];conv => whnf
 rw [decide_eq_false (show ¬ k = 16 by omega)];conv => whnf
 rw [decide_eq_false (show ¬ k = 22 by omega)];conv => whnf
 rw [decide_eq_false (show ¬ k = 6 by omega)];conv => whnf
 rw [decide_eq_false (show ¬ k = 7 by omega)];conv => whnf
 rw [decide_eq_false (show ¬ k = 8 by omega)];conv => whnf
 rw [decide_eq_false (show ¬ k = 9 by omega)];conv => whnf
 rw [decide_eq_false (show ¬ k = 11 by omega)];conv => whnf
 rw [decide_eq_false (show ¬ k = 12 by omega)];conv => whnf
 rw [decide_eq_false (show ¬ k = 13 by omega)];conv => whnf
 rw [decide_eq_false (show ¬ k = 21 by omega)];conv => whnf
 rw [decide_eq_false (show ¬ k = 17 by omega)];conv => whnf
 rfl
theorem jhh (k : Int) : Spec Tryz.prog 69 [] [intA k] fun _ r => r = intA (ja6 k) := by
 rcases jji k with h | h
 ·rcases h with rfl | rfl | rfl | rfl | rfl | rfl | rfl | rfl | rfl | rfl | rfl | rfl | rfl | rfl | rfl | rfl | rfl | rfl | rfl | rfl | rfl | rfl | rfl
  all_goals
   refine ja7 (ja4 jaE xs0 0) (fun _ _ h => h) Tryz.func69 rfl (by kernel_rfl) rfl (by kernel_rfl) ?_;intro _;conv => whnf
   rfl
 have hp : ja6 k = 0 := by unfold ja6; rw [if_neg (by omega)]
 rw [hp];refine ja7 (ja4 jaE xs0 0) (fun _ _ h => h) Tryz.func69 rfl (by kernel_rfl) rfl (by kernel_rfl) ?_;intro _;conv => whnf
 rw [decide_eq_false (show ¬ k = 1 by omega)];conv => whnf
 rw [decide_eq_false (show ¬ k = 2 by omega)];conv => whnf
 rw [decide_eq_false (show ¬ k = 4 by omega)];conv => whnf
 rw [decide_eq_false (show ¬ k = 5 by omega)];conv => whnf
 rw [decide_eq_false (show ¬ k = 10 by omega)];conv => whnf
 rw [decide_eq_false (show ¬ k = 14 by omega)];conv => whnf
 rw [decide_eq_false (show ¬ k = 6 by omega)];conv => whnf
 rw [decide_eq_false (show ¬ k = 7 by omega)];conv => whnf
 rw [decide_eq_false (show ¬ k = 8 by omega)];conv => whnf
 rw [decide_eq_false (show ¬ k = 9 by omega)];conv => whnf
 rw [decide_eq_false (show ¬ k = 11 by omega)];conv => whnf
 rw [decide_eq_false (show ¬ k = 12 by omega)];conv => whnf
 rw [decide_eq_false (show ¬ k = 13 by omega)];conv => whnf
 rfl
theorem jlt (code : List Ic) (e : Nat -> Int) (du vo : Int) (hl : code.length <= 1000000) (i : Nat) (hi : i < code.length) : Spec Tryz.prog 60 [] [pgA code e du vo, .v (.int .i64 i)] fun _ r => r = .sl 1 (sc code i).length (jaG (sc code i)) := by
 have hrow : ja2 2 i (jbp code) = icA code[i] := jcg code i hi
 have hsc : sc code i = nxI i code[i] := by
  unfold sc;rw [Int.toNat_natCast, List.getD_eq_getElem?_getD, List.getElem?_eq_getElem hi]; rfl
 rw [hsc];generalize code[i] = p at hrow
 obtain ⟨op, n⟩ := p
 unfold icA at hrow
 simp only at hrow
 unfold nxI
 simp only
 by_cases h1 : op = 23
 ·rw [if_pos h1];subst h1
  suffices h : Spec Tryz.prog 60 [] [pgA code e du vo, .v (.int .i64 i)] fun _ r => r = .v (.slice none 0 0) by
   refine h.weaken fun o r hr => ⟨o, .sl 1 0 [], rfl, WkB.refl o, ?_⟩
   rw [hr]; exact .nil 1
  refine ja7 (ja4 jaE xs0 0) (fun _ _ h => h) Tryz.func60 rfl (by kernel_rfl) rfl (by kernel_rfl) ?_;intro _;conv => whnf
  refine ⟨show (0 : Int) <= (i : Int) /\ (i : Int) < (code.length : Nat) from ⟨by omega, by omega⟩, ?_⟩;conv => whnf
  (generalize hrq : ja2 _ _ (jbp code) = rq; obtain rfl : rq = [intA 23, intA n] := hrq.symm.trans (hrow); clear hrq; conv => whnf)
  try rfl
 rw [if_neg h1]
 by_cases h2 : op = 15
 ·rw [if_pos h2];subst h2;refine ja7 (ja4 jaE xs0 0) (fun _ _ h => h) Tryz.func60 rfl (by kernel_rfl) rfl (by kernel_rfl) ?_;intro _;conv => whnf
  refine ⟨show (0 : Int) <= (i : Int) /\ (i : Int) < (code.length : Nat) from ⟨by omega, by omega⟩, ?_⟩;conv => whnf
  (generalize hrq : ja2 _ _ (jbp code) = rq; obtain rfl : rq = [intA 15, intA n] := hrq.symm.trans (hrow); clear hrq; conv => whnf)
  refine ⟨show (0 : Int) <= (i : Int) /\ (i : Int) < (code.length : Nat) from ⟨by omega, by omega⟩, ?_⟩;conv => whnf
  (generalize hrq : ja2 _ _ (jbp code) = rq; obtain rfl : rq = [intA 15, intA n] := hrq.symm.trans (hrow); clear hrq; conv => whnf)
  try rfl
 rw [if_neg h2]
 by_cases h3 : op = 16
 ·rw [if_pos h3];subst h3;refine ja7 (ja4 jaE xs0 0) (fun _ _ h => h) Tryz.func60 rfl (by kernel_rfl) rfl (by kernel_rfl) ?_;intro _;conv => whnf
  refine ⟨show (0 : Int) <= (i : Int) /\ (i : Int) < (code.length : Nat) from ⟨by omega, by omega⟩, ?_⟩;conv => whnf
  (generalize hrq : ja2 _ _ (jbp code) = rq; obtain rfl : rq = [intA 16, intA n] := hrq.symm.trans (hrow); clear hrq; conv => whnf)
  refine ⟨jal (by omega), ?_⟩;conv => whnf
  refine ⟨show (0 : Int) <= (i : Int) /\ (i : Int) < (code.length : Nat) from ⟨by omega, by omega⟩, ?_⟩;conv => whnf
  (generalize hrq : ja2 _ _ (jbp code) = rq; obtain rfl : rq = [intA 16, intA n] := hrq.symm.trans (hrow); clear hrq; conv => whnf)
  try rfl
 rw [if_neg h3];refine ja7 (ja4 jaE xs0 0) (fun _ _ h => h) Tryz.func60 rfl (by kernel_rfl) rfl (by kernel_rfl) ?_;intro _;conv => whnf
 refine ⟨show (0 : Int) <= (i : Int) /\ (i : Int) < (code.length : Nat) from ⟨by omega, by omega⟩, ?_⟩;conv => whnf
 (generalize hrq : ja2 _ _ (jbp code) = rq; obtain rfl : rq = [intA op, intA n] := hrq.symm.trans (hrow); clear hrq; conv => whnf)
 rw [decide_eq_false h1];conv => whnf
 rw [decide_eq_false h2];conv => whnf
 rw [decide_eq_false h3];conv => whnf
 refine ⟨jal (by omega), ?_⟩;conv => whnf
 rfl
theorem juM {v l : Int} {k n : Int} (h : k < 1 ∨ 23 < k) : okI v l (k, n) = false := by
 unfold okI
 have e : (shL v l).find? (fun p => decide (k = p.1)) = none := by
  rw [List.find?_eq_none];intro p hp;unfold shL at hp;simp only [List.mem_cons, List.not_mem_nil, or_false] at hp
  rcases hp with rfl | rfl | rfl | rfl | rfl | rfl | rfl | rfl | rfl | rfl | rfl | rfl | rfl | rfl | rfl | rfl | rfl | rfl | rfl | rfl | rfl | rfl | rfl
  all_goals (simp only [decide_eq_true_eq]; omega)
 simp only
 rw [e]
theorem jkR (code : List Ic) (e : Nat -> Int) (du vo : Int) (hl : code.length <= 1000000) (hd : 0 <= du /\ du <= 100) (hv : 0 <= vo /\ vo <= 100) (op n : Int) : Spec Tryz.prog 58 [] [pgA code e du vo, .agg [intA op, intA n]] fun _ r => r = jas (okI (du + vo - 1) (code.length - 1) (op, n)) := by
 rcases jji op with h | h
 ·rcases h with rfl | rfl | rfl | rfl | rfl | rfl | rfl | rfl | rfl | rfl | rfl | rfl | rfl | rfl | rfl | rfl | rfl | rfl | rfl | rfl | rfl | rfl | rfl
  ·show Spec Tryz.prog 58 [] [pgA code e du vo, .agg [intA 1, intA n]] fun _ r => r = jas (decide (-2147483647 <= n) && decide (n <= 2147483647))
   refine ja7 (ja4 jaE xs0 0) (fun _ _ h => h) Tryz.func58 rfl (by kernel_rfl) rfl (by kernel_rfl) ?_;intro _;conv => whnf
   by_cases q1 : -2147483647 <= n
   ·rw [decide_eq_true q1];conv => whnf
    by_cases q2 : n <= 2147483647
    ·rw [decide_eq_true q2];conv => whnf
     rfl
    ·rw [decide_eq_false q2];conv => whnf
     rfl
   ·rw [decide_eq_false q1];conv => whnf
    rfl
  ·show Spec Tryz.prog 58 [] [pgA code e du vo, .agg [intA 2, intA n]] fun _ r => r = jas (decide (0 <= n) && decide (n <= du + vo - 1))
   refine ja7 (ja4 jaE xs0 0) (fun _ _ h => h) Tryz.func58 rfl (by kernel_rfl) rfl (by kernel_rfl) ?_;intro _;conv => whnf
   refine ⟨jal (by omega), ?_⟩;conv => whnf
   refine ⟨jal (by omega), ?_⟩;conv => whnf
   (refine jah [] rfl (fun _ => (jaj 2)) ?_; rintro r rfl; conv => whnf)
   by_cases q1 : 0 <= n
   ·rw [decide_eq_true q1];conv => whnf
    by_cases q2 : n <= du + vo - 1
    ·rw [decide_eq_true q2];conv => whnf
     rfl
    ·rw [decide_eq_false q2];conv => whnf
     rfl
   ·rw [decide_eq_false q1];conv => whnf
    rfl
  ·show Spec Tryz.prog 58 [] [pgA code e du vo, .agg [intA 3, intA n]] fun _ r => r = jas (decide (0 <= n) && decide (n <= du + vo - 1))
   refine ja7 (ja4 jaE xs0 0) (fun _ _ h => h) Tryz.func58 rfl (by kernel_rfl) rfl (by kernel_rfl) ?_;intro _;conv => whnf
   refine ⟨jal (by omega), ?_⟩;conv => whnf
   refine ⟨jal (by omega), ?_⟩;conv => whnf
   (refine jah [] rfl (fun _ => (jaj 3)) ?_; rintro r rfl; conv => whnf)
   by_cases q1 : 0 <= n
   ·rw [decide_eq_true q1];conv => whnf
    by_cases q2 : n <= du + vo - 1
    ·rw [decide_eq_true q2];conv => whnf
     rfl
    ·rw [decide_eq_false q2];conv => whnf
     rfl
   ·rw [decide_eq_false q1];conv => whnf
    rfl
  ·show Spec Tryz.prog 58 [] [pgA code e du vo, .agg [intA 4, intA n]] fun _ r => r = jas (decide (0 <= n) && decide (n <= 8))
   refine ja7 (ja4 jaE xs0 0) (fun _ _ h => h) Tryz.func58 rfl (by kernel_rfl) rfl (by kernel_rfl) ?_;intro _;conv => whnf
   (refine jah [] rfl (fun _ => (jaj 4)) ?_; rintro r rfl; conv => whnf)
   by_cases q1 : 0 <= n
   ·rw [decide_eq_true q1];conv => whnf
    by_cases q2 : n <= 8
    ·rw [decide_eq_true q2];conv => whnf
     rfl
    ·rw [decide_eq_false q2];conv => whnf
     rfl
   ·rw [decide_eq_false q1];conv => whnf
    rfl
  ·show Spec Tryz.prog 58 [] [pgA code e du vo, .agg [intA 5, intA n]] fun _ r => r = jas (decide (0 <= n) && decide (n <= 0))
   refine ja7 (ja4 jaE xs0 0) (fun _ _ h => h) Tryz.func58 rfl (by kernel_rfl) rfl (by kernel_rfl) ?_;intro _;conv => whnf
   (refine jah [] rfl (fun _ => (jaj 5)) ?_; rintro r rfl; conv => whnf)
   by_cases q1 : 0 <= n
   ·rw [decide_eq_true q1];conv => whnf
    by_cases q2 : n <= 0
    ·rw [decide_eq_true q2];conv => whnf
     rfl
    ·rw [decide_eq_false q2];conv => whnf
     rfl
   ·rw [decide_eq_false q1];conv => whnf
    rfl
  ·show Spec Tryz.prog 58 [] [pgA code e du vo, .agg [intA 6, intA n]] fun _ r => r = jas (decide (0 <= n) && decide (n <= 0))
   refine ja7 (ja4 jaE xs0 0) (fun _ _ h => h) Tryz.func58 rfl (by kernel_rfl) rfl (by kernel_rfl) ?_;intro _;conv => whnf
   (refine jah [] rfl (fun _ => (jaj 6)) ?_; rintro r rfl; conv => whnf)
   by_cases q1 : 0 <= n
   ·rw [decide_eq_true q1];conv => whnf
    by_cases q2 : n <= 0
    ·rw [decide_eq_true q2];conv => whnf
     rfl
    ·rw [decide_eq_false q2];conv => whnf
     rfl
   ·rw [decide_eq_false q1];conv => whnf
    rfl
  ·show Spec Tryz.prog 58 [] [pgA code e du vo, .agg [intA 7, intA n]] fun _ r => r = jas (decide (0 <= n) && decide (n <= 0))
   refine ja7 (ja4 jaE xs0 0) (fun _ _ h => h) Tryz.func58 rfl (by kernel_rfl) rfl (by kernel_rfl) ?_;intro _;conv => whnf
   (refine jah [] rfl (fun _ => (jaj 7)) ?_; rintro r rfl; conv => whnf)
   by_cases q1 : 0 <= n
   ·rw [decide_eq_true q1];conv => whnf
    by_cases q2 : n <= 0
    ·rw [decide_eq_true q2];conv => whnf
     rfl
    ·rw [decide_eq_false q2];conv => whnf
     rfl
   ·rw [decide_eq_false q1];conv => whnf
    rfl
  ·show Spec Tryz.prog 58 [] [pgA code e du vo, .agg [intA 8, intA n]] fun _ r => r = jas (decide (0 <= n) && decide (n <= 0))
   refine ja7 (ja4 jaE xs0 0) (fun _ _ h => h) Tryz.func58 rfl (by kernel_rfl) rfl (by kernel_rfl) ?_;intro _;conv => whnf
   (refine jah [] rfl (fun _ => (jaj 8)) ?_; rintro r rfl; conv => whnf)
   by_cases q1 : 0 <= n
   ·rw [decide_eq_true q1];conv => whnf
    by_cases q2 : n <= 0
    ·rw [decide_eq_true q2];conv => whnf
     rfl
    ·rw [decide_eq_false q2];conv => whnf
     rfl
   ·rw [decide_eq_false q1];conv => whnf
    rfl
  ·show Spec Tryz.prog 58 [] [pgA code e du vo, .agg [intA 9, intA n]] fun _ r => r = jas (decide (0 <= n) && decide (n <= 0))
   refine ja7 (ja4 jaE xs0 0) (fun _ _ h => h) Tryz.func58 rfl (by kernel_rfl) rfl (by kernel_rfl) ?_;intro _;conv => whnf
   (refine jah [] rfl (fun _ => (jaj 9)) ?_; rintro r rfl; conv => whnf)
   by_cases q1 : 0 <= n
   ·rw [decide_eq_true q1];conv => whnf
    by_cases q2 : n <= 0
    ·rw [decide_eq_true q2];conv => whnf
     rfl
    ·rw [decide_eq_false q2];conv => whnf
     rfl
   ·rw [decide_eq_false q1];conv => whnf
    rfl
  ·show Spec Tryz.prog 58 [] [pgA code e du vo, .agg [intA 10, intA n]] fun _ r => r = jas (decide (0 <= n) && decide (n <= 0))
   refine ja7 (ja4 jaE xs0 0) (fun _ _ h => h) Tryz.func58 rfl (by kernel_rfl) rfl (by kernel_rfl) ?_;intro _;conv => whnf
   (refine jah [] rfl (fun _ => (jaj 10)) ?_; rintro r rfl; conv => whnf)
   by_cases q1 : 0 <= n
   ·rw [decide_eq_true q1];conv => whnf
    by_cases q2 : n <= 0
    ·rw [decide_eq_true q2];conv => whnf
     rfl
    ·rw [decide_eq_false q2];conv => whnf
     rfl
   ·rw [decide_eq_false q1];conv => whnf
    rfl
  ·show Spec Tryz.prog 58 [] [pgA code e du vo, .agg [intA 11, intA n]] fun _ r => r = jas (decide (0 <= n) && decide (n <= 0))
   refine ja7 (ja4 jaE xs0 0) (fun _ _ h => h) Tryz.func58 rfl (by kernel_rfl) rfl (by kernel_rfl) ?_;intro _;conv => whnf
   (refine jah [] rfl (fun _ => (jaj 11)) ?_; rintro r rfl; conv => whnf)
   by_cases q1 : 0 <= n
   ·rw [decide_eq_true q1];conv => whnf
    by_cases q2 : n <= 0
    ·rw [decide_eq_true q2];conv => whnf
     rfl
    ·rw [decide_eq_false q2];conv => whnf
     rfl
   ·rw [decide_eq_false q1];conv => whnf
    rfl
  ·show Spec Tryz.prog 58 [] [pgA code e du vo, .agg [intA 12, intA n]] fun _ r => r = jas (decide (0 <= n) && decide (n <= 0))
   refine ja7 (ja4 jaE xs0 0) (fun _ _ h => h) Tryz.func58 rfl (by kernel_rfl) rfl (by kernel_rfl) ?_;intro _;conv => whnf
   (refine jah [] rfl (fun _ => (jaj 12)) ?_; rintro r rfl; conv => whnf)
   by_cases q1 : 0 <= n
   ·rw [decide_eq_true q1];conv => whnf
    by_cases q2 : n <= 0
    ·rw [decide_eq_true q2];conv => whnf
     rfl
    ·rw [decide_eq_false q2];conv => whnf
     rfl
   ·rw [decide_eq_false q1];conv => whnf
    rfl
  ·show Spec Tryz.prog 58 [] [pgA code e du vo, .agg [intA 13, intA n]] fun _ r => r = jas (decide (0 <= n) && decide (n <= 0))
   refine ja7 (ja4 jaE xs0 0) (fun _ _ h => h) Tryz.func58 rfl (by kernel_rfl) rfl (by kernel_rfl) ?_;intro _;conv => whnf
   (refine jah [] rfl (fun _ => (jaj 13)) ?_; rintro r rfl; conv => whnf)
   by_cases q1 : 0 <= n
   ·rw [decide_eq_true q1];conv => whnf
    by_cases q2 : n <= 0
    ·rw [decide_eq_true q2];conv => whnf
     rfl
    ·rw [decide_eq_false q2];conv => whnf
     rfl
   ·rw [decide_eq_false q1];conv => whnf
    rfl
  ·show Spec Tryz.prog 58 [] [pgA code e du vo, .agg [intA 14, intA n]] fun _ r => r = jas (decide (0 <= n) && decide (n <= 0))
   refine ja7 (ja4 jaE xs0 0) (fun _ _ h => h) Tryz.func58 rfl (by kernel_rfl) rfl (by kernel_rfl) ?_;intro _;conv => whnf
   (refine jah [] rfl (fun _ => (jaj 14)) ?_; rintro r rfl; conv => whnf)
   by_cases q1 : 0 <= n
   ·rw [decide_eq_true q1];conv => whnf
    by_cases q2 : n <= 0
    ·rw [decide_eq_true q2];conv => whnf
     rfl
    ·rw [decide_eq_false q2];conv => whnf
     rfl
   ·rw [decide_eq_false q1];conv => whnf
    rfl
  ·show Spec Tryz.prog 58 [] [pgA code e du vo, .agg [intA 15, intA n]] fun _ r => r = jas (decide (0 <= n) && decide (n <= (code.length : Int) - 1))
   refine ja7 (ja4 jaE xs0 0) (fun _ _ h => h) Tryz.func58 rfl (by kernel_rfl) rfl (by kernel_rfl) ?_;intro _;conv => whnf
   refine ⟨jal (by omega), ?_⟩;conv => whnf
   (refine jah [] rfl (fun _ => (jaj 15)) ?_; rintro r rfl; conv => whnf)
   by_cases q1 : 0 <= n
   ·rw [decide_eq_true q1];conv => whnf
    by_cases q2 : n <= (code.length : Int) - 1
    ·rw [decide_eq_true q2];conv => whnf
     rfl
    ·rw [decide_eq_false q2];conv => whnf
     rfl
   ·rw [decide_eq_false q1];conv => whnf
    rfl
  ·show Spec Tryz.prog 58 [] [pgA code e du vo, .agg [intA 16, intA n]] fun _ r => r = jas (decide (0 <= n) && decide (n <= (code.length : Int) - 1))
   refine ja7 (ja4 jaE xs0 0) (fun _ _ h => h) Tryz.func58 rfl (by kernel_rfl) rfl (by kernel_rfl) ?_;intro _;conv => whnf
   refine ⟨jal (by omega), ?_⟩;conv => whnf
   (refine jah [] rfl (fun _ => (jaj 16)) ?_; rintro r rfl; conv => whnf)
   by_cases q1 : 0 <= n
   ·rw [decide_eq_true q1];conv => whnf
    by_cases q2 : n <= (code.length : Int) - 1
    ·rw [decide_eq_true q2];conv => whnf
     rfl
    ·rw [decide_eq_false q2];conv => whnf
     rfl
   ·rw [decide_eq_false q1];conv => whnf
    rfl
  ·show Spec Tryz.prog 58 [] [pgA code e du vo, .agg [intA 17, intA n]] fun _ r => r = jas (decide (0 <= n) && decide (n <= 29))
   refine ja7 (ja4 jaE xs0 0) (fun _ _ h => h) Tryz.func58 rfl (by kernel_rfl) rfl (by kernel_rfl) ?_;intro _;conv => whnf
   (refine jah [] rfl (fun _ => (jaj 17)) ?_; rintro r rfl; conv => whnf)
   by_cases q1 : 0 <= n
   ·rw [decide_eq_true q1];conv => whnf
    by_cases q2 : n <= 29
    ·rw [decide_eq_true q2];conv => whnf
     rfl
    ·rw [decide_eq_false q2];conv => whnf
     rfl
   ·rw [decide_eq_false q1];conv => whnf
    rfl
  ·show Spec Tryz.prog 58 [] [pgA code e du vo, .agg [intA 18, intA n]] fun _ r => r = jas (decide (0 <= n) && decide (n <= 7))
   refine ja7 (ja4 jaE xs0 0) (fun _ _ h => h) Tryz.func58 rfl (by kernel_rfl) rfl (by kernel_rfl) ?_;intro _;conv => whnf
   (refine jah [] rfl (fun _ => (jaj 18)) ?_; rintro r rfl; conv => whnf)
   by_cases q1 : 0 <= n
   ·rw [decide_eq_true q1];conv => whnf
    by_cases q2 : n <= 7
    ·rw [decide_eq_true q2];conv => whnf
     rfl
    ·rw [decide_eq_false q2];conv => whnf
     rfl
   ·rw [decide_eq_false q1];conv => whnf
    rfl
  ·show Spec Tryz.prog 58 [] [pgA code e du vo, .agg [intA 19, intA n]] fun _ r => r = jas (decide (0 <= n) && decide (n <= 7))
   refine ja7 (ja4 jaE xs0 0) (fun _ _ h => h) Tryz.func58 rfl (by kernel_rfl) rfl (by kernel_rfl) ?_;intro _;conv => whnf
   (refine jah [] rfl (fun _ => (jaj 19)) ?_; rintro r rfl; conv => whnf)
   by_cases q1 : 0 <= n
   ·rw [decide_eq_true q1];conv => whnf
    by_cases q2 : n <= 7
    ·rw [decide_eq_true q2];conv => whnf
     rfl
    ·rw [decide_eq_false q2];conv => whnf
     rfl
   ·rw [decide_eq_false q1];conv => whnf
    rfl
  ·show Spec Tryz.prog 58 [] [pgA code e du vo, .agg [intA 20, intA n]] fun _ r => r = jas (decide (0 <= n) && decide (n <= 0))
   refine ja7 (ja4 jaE xs0 0) (fun _ _ h => h) Tryz.func58 rfl (by kernel_rfl) rfl (by kernel_rfl) ?_;intro _;conv => whnf
   (refine jah [] rfl (fun _ => (jaj 20)) ?_; rintro r rfl; conv => whnf)
   by_cases q1 : 0 <= n
   ·rw [decide_eq_true q1];conv => whnf
    by_cases q2 : n <= 0
    ·rw [decide_eq_true q2];conv => whnf
     rfl
    ·rw [decide_eq_false q2];conv => whnf
     rfl
   ·rw [decide_eq_false q1];conv => whnf
    rfl
  ·show Spec Tryz.prog 58 [] [pgA code e du vo, .agg [intA 21, intA n]] fun _ r => r = jas (decide (0 <= n) && decide (n <= 0))
   refine ja7 (ja4 jaE xs0 0) (fun _ _ h => h) Tryz.func58 rfl (by kernel_rfl) rfl (by kernel_rfl) ?_;intro _;conv => whnf
   (refine jah [] rfl (fun _ => (jaj 21)) ?_; rintro r rfl; conv => whnf)
   by_cases q1 : 0 <= n
   ·rw [decide_eq_true q1];conv => whnf
    by_cases q2 : n <= 0
    ·rw [decide_eq_true q2];conv => whnf
     rfl
    ·rw [decide_eq_false q2];conv => whnf
     rfl
   ·rw [decide_eq_false q1];conv => whnf
    rfl
  ·show Spec Tryz.prog 58 [] [pgA code e du vo, .agg [intA 22, intA n]] fun _ r => r = jas (decide (0 <= n) && decide (n <= 0))
   refine ja7 (ja4 jaE xs0 0) (fun _ _ h => h) Tryz.func58 rfl (by kernel_rfl) rfl (by kernel_rfl) ?_;intro _;conv => whnf
   (refine jah [] rfl (fun _ => (jaj 22)) ?_; rintro r rfl; conv => whnf)
   by_cases q1 : 0 <= n
   ·rw [decide_eq_true q1];conv => whnf
    by_cases q2 : n <= 0
    ·rw [decide_eq_true q2];conv => whnf
     rfl
    ·rw [decide_eq_false q2];conv => whnf
     rfl
   ·rw [decide_eq_false q1];conv => whnf
    rfl
  ·show Spec Tryz.prog 58 [] [pgA code e du vo, .agg [intA 23, intA n]] fun _ r => r = jas (decide (0 <= n) && decide (n <= 0))
   refine ja7 (ja4 jaE xs0 0) (fun _ _ h => h) Tryz.func58 rfl (by kernel_rfl) rfl (by kernel_rfl) ?_;intro _;conv => whnf
   (refine jah [] rfl (fun _ => (jaj 23)) ?_; rintro r rfl; conv => whnf)
   by_cases q1 : 0 <= n
   ·rw [decide_eq_true q1];conv => whnf
    by_cases q2 : n <= 0
    ·rw [decide_eq_true q2];conv => whnf
     rfl
    ·rw [decide_eq_false q2];conv => whnf
     rfl
   ·rw [decide_eq_false q1];conv => whnf
    rfl
 rw [juM h]
 have hp : jvB op = -1 := by unfold jvB; rw [if_neg (by omega)]
 have hps := jaj op
 rw [hp] at hps;refine ja7 (ja4 jaE xs0 0) (fun _ _ h => h) Tryz.func58 rfl (by kernel_rfl) rfl (by kernel_rfl) ?_;intro _;conv => whnf
 rw [decide_eq_false (show ¬ op = 1 by omega)];conv => whnf
 rw [decide_eq_false (show ¬ op = 2 by omega)];conv => whnf
 rw [decide_eq_false (show ¬ op = 3 by omega)];conv => whnf
 rw [decide_eq_false (show ¬ op = 4 by omega)];conv => whnf
 rw [decide_eq_false (show ¬ op = 17 by omega)];conv => whnf
 rw [decide_eq_false (show ¬ op = 18 by omega)];conv => whnf
 rw [decide_eq_false (show ¬ op = 19 by omega)];conv => whnf
 rw [decide_eq_false (show ¬ op = 15 by omega)];conv => whnf
 rw [decide_eq_false (show ¬ op = 16 by omega)];conv => whnf
 (refine jah [] rfl (fun _ => hps) ?_; rintro r rfl; conv => whnf)
 rfl
theorem jqL (l : List Int) (x : Int) (hl : l.length <= 1000000) : Spec Tryz.prog 59 [] [.sl 1 l.length (jaG l), intA x] fun _ r => r = jas (l.any fun y => decide (y = x)) := by
 refine ja7 (ja4 jaE xs0 0) (fun _ _ h => h) Tryz.func59 rfl (by kernel_rfl) rfl (by kernel_rfl) ?_;intro _;conv => whnf
 refine ja3 [0, 1] ?_;conv => whnf
 refine jad (fun j : Nat => [(5, .v (.int .i64 j))]) (fun _ => []) (fun _ => []) (fun j => j <= l.length /\ (l.take j).any (fun y => decide (y = x)) = false) (fun j => l.length - j) 0 ?_ ⟨Nat.zero_le _, by rw [List.take_zero]; rfl⟩ ?_
 ·repeat' constructor
 rintro j ⟨hj, hn⟩
 have hn : (l.take j).any (fun y => decide (y = x)) = false := hn
 conv => whnf
 rcases Nat.lt_or_ge j l.length with hlt | hge
 ·have hrow := jdF l j hlt
  rw [decide_eq_true (show (j : Int) < (l.length : Int) by omega)];conv => whnf
  refine ⟨show (0 : Int) <= (j : Int) /\ (j : Int) < (l.length : Nat) from ⟨by omega, by omega⟩, ?_⟩;conv => whnf
  (generalize hrq : ja2 _ _ (jaG l) = rq; obtain rfl : rq = [intA l[j]] := hrq.symm.trans (hrow); clear hrq; conv => whnf)
  by_cases he : l[j] = x
  ·rw [decide_eq_true he]
   have : l.any (fun y => decide (y = x)) = true := List.any_eq_true.2 ⟨l[j], List.getElem_mem hlt, decide_eq_true he⟩
   rw [this];conv => whnf
   rfl
  rw [decide_eq_false he];conv => whnf
  refine ⟨show lo .i64 <= (j : Int) + 1 /\ (j : Int) + 1 <= hi .i64 from jal (by omega), ?_⟩;conv => whnf
  refine ⟨j + 1, ja1 [] ?_, ⟨show j + 1 <= l.length by omega, ?_⟩, show l.length - (j + 1) < l.length - j by omega⟩
  ·conv => whnf
   repeat' constructor
  ·show (l.take (j + 1)).any (fun y => decide (y = x)) = false
   rw [List.take_succ_eq_append_getElem hlt, List.any_append, hn, List.any_cons, List.any_nil, decide_eq_false he]; rfl
 rw [List.take_of_length_le hge] at hn;rw [decide_eq_false (show ¬ (j : Int) < (l.length : Int) by omega), hn];conv => whnf
 rfl
structure Dq (code : List Ic) (x : Int) (c0 : Nat) (i : Int) (out : List Int) (ok ch : Bool) : Prop where
 di : Di code x out ok
 ct : c0 + (if ch = true then 1 else 0) <= cN out
 pd : ch = false -> ∀ j, 0 <= j -> j < i -> 0 <= og out j -> Pds code out ok j (sc code j)
structure Dr (code : List Ic) (x : Int) (c0 : Nat) (i : Int) (v d : Int) (t : Nat) (out : List Int) (ok ch : Bool) : Prop where
 dq : Dq code x c0 i out ok ch
 iv : og out i = v
 dd : 0 <= d /\ d <= cN out
 dl : ok = true -> jan (opI code i) <= v /\ d = lv code i v
 dc : ∀ D, jrC code x D -> d = lv code i v
 pr : ch = false -> Pds code out ok i ((sc code i).take t)
theorem jnY {out : List Int} {i : Nat} (hi : i < out.length) : ja2 1 i (jaG out) = [intA (og out i)] := by
 rw [jdF out i hi];unfold og;rw [Int.toNat_natCast, List.getD_eq_getElem?_getD, List.getElem?_eq_getElem hi]
 try rfl
theorem jpP (l : List Int) (k : Nat) (v : Int) : (jaG l).set k (intA v) = jaG (l.set k v) := by
 unfold jaG;rw [List.map_set]
 try rfl
theorem Dr.skip {code : List Ic} {x : Int} {c0 : Nat} {i v d : Int} {t : Nat} {out : List Int} {ok ch : Bool} (h : Dr code x c0 i v d t out ok ch) (ht : t < (sc code i).length) (hk : ¬ (0 <= (sc code i)[t] /\ (sc code i)[t] < code.length)) : Dr code x c0 i v d (t + 1) out ok ch := by
 refine ⟨h.dq, h.iv, h.dd, h.dl, h.dc, fun hc => ⟨(h.pr hc).1, fun k hk' h1 h2 => ?_⟩⟩;rw [List.take_succ_eq_append_getElem ht, List.mem_append, List.mem_singleton] at hk'
 rcases hk' with hk' | rfl
 ·exact (h.pr hc).2 k hk' h1 h2
 ·exact absurd ⟨h1, h2⟩ hk
theorem Dr.put {code : List Ic} {x : Int} {c0 : Nat} {i v d : Int} {t : Nat} {out : List Int} {ok ch : Bool} (h : Dr code x c0 i v d t out ok ch) (hi : 0 <= i /\ i < code.length) (hv : 0 <= v) (ht : t < (sc code i).length) (hk : 0 <= (sc code i)[t] /\ (sc code i)[t] < code.length) (hlt : og out (sc code i)[t] < 0) : Dr code x c0 i v d (t + 1) (out.set ((sc code i)[t]).toNat d) ok true := by
 have hm := List.getElem_mem ht
 have hin := fun D (hD : jrC code x D) => (h.dq.di.uq D hD).2 i hi.1 hi.2 (by rw [h.iv]; exact hv)
 have hr : Rch code x i := h.dq.di.re i hi.1 hi.2 (by rw [h.iv]; exact hv)
 obtain ⟨q1, q2⟩ := h.dq.di.put hi (by rw [h.iv]; exact hv) hm hk hlt h.dd fun D hD => by
  rw [h.dc D hD, <- h.iv, hin D hD];exact (hD.nx i hr _ hm hk.2).symm
 have hct := h.dq.ct
 have hcc : (if ch = true then 1 else 0) <= 1 := by split <;> omega
 refine ⟨⟨q1, by rw [q2, if_pos rfl]; omega, fun hc => by cases hc⟩, ?_, ⟨h.dd.1, by rw [q2]; have := h.dd.2; omega⟩, h.dl, h.dc, fun hc => by cases hc⟩
 rw [jlx (by rw [h.dq.di.ln]; exact hk) hi.1, if_neg ?_]
 ·exact h.iv
 ·intro e;rw [<- e, h.iv] at hlt;omega
theorem Dr.same {code : List Ic} {x : Int} {c0 : Nat} {i v d : Int} {t : Nat} {out : List Int} {ok ch : Bool} (h : Dr code x c0 i v d t out ok ch) (hi : 0 <= i /\ i < code.length) (ht : t < (sc code i).length) (hlt : ¬ og out (sc code i)[t] < 0) (he : og out (sc code i)[t] = d) : Dr code x c0 i v d (t + 1) out ok ch := by
 refine ⟨h.dq, h.iv, h.dd, h.dl, h.dc, fun hc => ⟨(h.pr hc).1, fun k hk' h1 h2 => ?_⟩⟩;rw [List.take_succ_eq_append_getElem ht, List.mem_append, List.mem_singleton] at hk'
 rcases hk' with hk' | rfl
 ·exact (h.pr hc).2 k hk' h1 h2
 ·refine ⟨by omega, fun hok => ?_⟩;rw [he, h.iv]; exact (h.dl hok).2
theorem Di.bad {code : List Ic} {x : Int} {c0 : Nat} {i v d : Int} {t : Nat} {out : List Int} {ok ch : Bool} (h : Dr code x c0 i v d t out ok ch) (hD : ∀ D, ¬ jrC code x D) : Dr code x c0 i v d t out false ch :=
 ⟨⟨h.dq.di.no hD, h.dq.ct, fun hc j h1 h2 h3 => ⟨(fun e => by cases e), fun k hk q1 q2 => ⟨((h.dq.pd hc j h1 h2 h3).2 k hk q1 q2).1, fun e => by cases e⟩⟩⟩, h.iv, h.dd, (fun e => by cases e), h.dc, fun hc => ⟨(fun e => by cases e), fun k hk q1 q2 => ⟨((h.pr hc).2 k hk q1 q2).1, fun e => by cases e⟩⟩⟩
theorem Dr.conf {code : List Ic} {x : Int} {c0 : Nat} {i v d : Int} {t : Nat} {out : List Int} {ok ch : Bool} (h : Dr code x c0 i v d t out ok ch) (hi : 0 <= i /\ i < code.length) (hv : 0 <= v) (ht : t < (sc code i).length) (hk : 0 <= (sc code i)[t] /\ (sc code i)[t] < code.length) (hlt : ¬ og out (sc code i)[t] < 0) (he : og out (sc code i)[t] ≠ d) : Dr code x c0 i v d (t + 1) out false ch := by
 have hm := List.getElem_mem ht
 have hr : Rch code x i := h.dq.di.re i hi.1 hi.2 (by rw [h.iv]; exact hv)
 have h' : Dr code x c0 i v d t out false ch := Di.bad h fun D hD => by
  have e1 := (h.dq.di.uq D hD).2 i hi.1 hi.2 (by rw [h.iv]; exact hv)
  have e2 := (h.dq.di.uq D hD).2 _ hk.1 hk.2 (by omega)
  apply he
  rw [e2, hD.nx i hr _ hm hk.2, <- e1, h.iv, h.dc D hD]
 refine ⟨h'.dq, h'.iv, h'.dd, h'.dl, h'.dc, fun hc => ⟨(fun e => by cases e), fun k hk' h1 h2 => ?_⟩⟩;rw [List.take_succ_eq_append_getElem ht, List.mem_append, List.mem_singleton] at hk'
 rcases hk' with hk' | rfl
 ·exact (h'.pr hc).2 k hk' h1 h2
 ·exact ⟨by omega, fun e => by cases e⟩
theorem Dr.done {code : List Ic} {x : Int} {c0 : Nat} {i v d : Int} {out : List Int} {ok ch : Bool} (h : Dr code x c0 i v d (sc code i).length out ok ch) (hi : 0 <= i) : Dq code x c0 (i + 1) out ok ch := by
 refine ⟨h.dq.di, h.dq.ct, fun hc j h1 h2 h3 => ?_⟩
 by_cases e : j = i
 ·subst e
  have := h.pr hc
  rw [List.take_length] at this;exact this
 ·exact h.dq.pd hc j h1 (by omega) h3
theorem Dq.jump {code : List Ic} {x : Int} {c0 : Nat} {i : Int} {out : List Int} {ok ch : Bool} (h : Dq code x c0 i out ok ch) (hv : og out i < 0) : Dq code x c0 (i + 1) out ok ch := by
 refine ⟨h.di, h.ct, fun hc j h1 h2 h3 => ?_⟩
 by_cases e : j = i
 ·subst e; omega
 ·exact h.pd hc j h1 (by omega) h3
theorem Dq.take {code : List Ic} {x : Int} {c0 : Nat} {i : Int} {out : List Int} {ok ch : Bool} (h : Dq code x c0 i out ok ch) (hi : 0 <= i /\ i < code.length) (hv : 0 <= og out i) (hl : jan (opI code i) <= og out i) : Dr code x c0 i (og out i) (og out i - jan (opI code i) + ja6 (opI code i)) 0 out ok ch := by
 have hb := h.di.bnd hi
 have p1 := jhe (opI code i)
 have p2 := jdV (opI code i)
 exact ⟨h, rfl, ⟨by omega, by omega⟩, fun _ => ⟨hl, rfl⟩, fun D hD => rfl, fun hc => ⟨fun _ => hl, fun k hk => by rw [List.take_zero] at hk; cases hk⟩⟩
theorem Dq.under {code : List Ic} {x : Int} {c0 : Nat} {i : Int} {out : List Int} {ok ch : Bool} (h : Dq code x c0 i out ok ch) (hi : 0 <= i /\ i < code.length) (hv : 0 <= og out i) (hl : og out i < jan (opI code i)) : Dr code x c0 i (og out i) (ja6 (opI code i)) 0 out false ch := by
 have hr : Rch code x i := h.di.re i hi.1 hi.2 hv
 have hb := h.di.bnd hi
 have p2 := jdV (opI code i)
 have hno : ∀ D, ¬ jrC code x D := fun D hD => by
  have e1 := (h.di.uq D hD).2 i hi.1 hi.2 hv
  have e2 := hD.po i hr
  omega
 exact ⟨⟨h.di.no hno, h.ct, fun hc j h1 h2 h3 => ⟨(fun e => by cases e), fun k hk q1 q2 => ⟨((h.pd hc j h1 h2 h3).2 k hk q1 q2).1, fun e => by cases e⟩⟩⟩, rfl, ⟨by omega, by omega⟩, (fun e => by cases e), fun D hD => absurd hD (hno D), fun hc => ⟨(fun e => by cases e), fun k hk => by rw [List.take_zero] at hk; cases hk⟩⟩
theorem jt1 (n : Nat) : jvV n [Value.int .i64 0] = jaG (List.replicate n 0) := by
 rw [jqy, List.map_singleton, List.flatten_replicate_singleton];unfold jaG;rw [List.map_replicate];rfl
theorem jpt (code : List Ic) (a : Int) : (sc code a).length <= 2 := by
 unfold sc nxI
 repeat' split
 all_goals simp
theorem ji8 (l : List Int) : (jaG l).length = l.length := by unfold jaG; rw [List.length_map]
theorem jeO {l : List Int} {k : Nat} {v : Int} {K : List A -> Prop} (hk : k < l.length) (h : K (jaG (l.set k v))) : jgx (jaG l) (k * 1) (intA v) K := by
 rw [Nat.mul_one];refine jfl (by rw [ji8]; exact hk) ?_;rw [jpP]; exact h
theorem jen {out : List Int} {i : Int} (h : 0 <= i /\ i < out.length) : (jaG out).drop (i.toNat * 1) = intA (og out i) :: (jaG out).drop (i.toNat + 1) := by
 obtain ⟨h2, e⟩ := jqS h.1 h.2
 rw [Nat.mul_one, List.drop_eq_getElem_cons (by rw [ji8]; exact h2), e]
 congr 1
 unfold jaG;rw [List.getElem_map]
 try rfl
def ini (n j : Nat) : List Int := List.replicate j (-1) ++ List.replicate (n - j) 0
theorem jvy (n j : Nat) (h : j <= n) : (ini n j).length = n := by unfold ini; rw [List.length_append, List.length_replicate, List.length_replicate]; omega
theorem ju0 (n j : Nat) (h : j < n) : (ini n j).set j (-1) = ini n (j + 1) := by
 unfold ini;rw [List.set_append_right _ _ (by rw [List.length_replicate]; exact Nat.le_refl _), List.length_replicate, Nat.sub_self, show n - j = (n - (j + 1)) + 1 by omega, List.replicate_succ, List.set_cons_zero, List.replicate_succ', List.append_assoc];rfl
theorem jue (n : Nat) : ini n n = List.replicate n (-1) := by unfold ini; rw [Nat.sub_self]; exact List.append_nil _
def jxV (id : Nat) : Tr := match Nat.beq id 17 with
 | true => .q 0 3 (.q 1 3 (.q 2 3 (.q 4 3 (.q 5 0 (.q 6 3 (.q 7 3 (.q 8 3 (.q 9 0 (.alt 3 1 (.alt 10 1 (.q 11 3 (.q 12 3 .nil)) .nil) (.alt 10 1 (.alt 3 1 (.q 11 3 (.q 12 3 .nil)) .nil) .nil))))))))))
 | false => .nil
set_option maxHeartbeats 4000000 in
theorem jgE (code : List Ic) (e : Nat -> Int) (du vo x : Int) (hl : code.length <= 1000000) (hj : jfr code) (ho : ∀ i ∈ code, 1 <= i.1 /\ i.1 <= 23) (hx : 0 <= x /\ x < code.length) : Spec Tryz.prog 30 [] [pgA code e du vo, intA x] fun _ r => ∃ out ok, r = .tup [.sl 1 out.length (jaG out), jas ok] /\ Dp code x out ok := by
 refine ja7 (ja4 jxV xs0 0) (fun _ _ h => h) Tryz.func30 rfl (by kernel_rfl) rfl (by kernel_rfl) ?_;intro _;conv => whnf
 refine ⟨⟨by omega, rfl, by omega, by omega⟩, ?_⟩;conv => whnf
 refine ja3 [1, 2, 6] ?_;conv => whnf
 refine jad (fun j : Nat => [(7, .v (.int .i64 j))]) (fun _ => [pgL code e du vo]) (fun j => [.live 3 1 code.length (jaG (ini code.length j))]) (fun j => j <= code.length) (fun j => code.length - j) 0 ?_ (Nat.zero_le _) ?_
 ·repeat' constructor
  show Row.live _ 1 code.length (jvV code.length [Value.int .i64 0]) = _
  rw [jt1];rfl
 intro j hjn;conv => whnf
 rcases Nat.lt_or_ge j code.length with hlt | hge
 ·rw [decide_eq_true (show (j : Int) < (code.length : Int) by omega)];conv => whnf
  refine ⟨show (0 : Int) <= (j : Int) /\ (j : Int) < (code.length : Nat) from ⟨by omega, by omega⟩, ?_⟩;conv => whnf
  refine jeO (l := ini code.length j) (k := j) (v := -1) (by rw [jvy _ _ hjn]; exact hlt) ?_;rw [ju0 _ _ hlt];conv => whnf
  refine ⟨show lo .i64 <= (j : Int) + 1 /\ (j : Int) + 1 <= hi .i64 from jal (by omega), ?_⟩;conv => whnf
  refine ⟨j + 1, ja1 [0] ?_, show j + 1 <= code.length by omega, show code.length - (j + 1) < code.length - j by omega⟩;conv => whnf
  repeat' constructor
 obtain rfl : j = code.length := by omega
 rw [decide_eq_false (show ¬ (code.length : Int) < (code.length : Int) by omega)];rw [jue];conv => whnf
 rw [decide_eq_false (show ¬ x < 0 by omega)];conv => whnf
 rw [decide_eq_false (show ¬ (code.length : Int) <= x by omega)];conv => whnf
 refine ⟨show (0 : Int) <= x /\ x < (code.length : Nat) from hx, ?_⟩;conv => whnf
 refine jeO (l := List.replicate code.length (-1)) (k := x.toNat) (v := 0) (by rw [List.length_replicate]; omega) ?_
 have hini := Di.init hx
 generalize (List.replicate code.length (-1 : Int)).set x.toNat 0 = outI at hini;conv => whnf
 refine ja3 [2, 6] ?_;conv => whnf
 refine jad (fun y : List Int × Bool × Bool => [(8, jas y.2.1), (9, jas y.2.2)]) (fun _ => [pgL code e du vo]) (fun y => [.live 3 1 code.length (jaG y.1)]) (fun y => Di code x y.1 y.2.1 /\ (y.2.2 = false -> ∀ j : Int, 0 <= j -> j < code.length -> 0 <= og y.1 j -> Pds code y.1 y.2.1 j (sc code j))) (fun y => code.length - cN y.1 + (if y.2.2 = true then 1 else 0)) (outI, true, true) ?_ ⟨hini, fun h => by cases h⟩ ?_
 ·repeat' constructor
 rintro ⟨out0, ok0, ch0⟩ ⟨g1, g2⟩
 simp only at g1 g2
 cases ch0 with
 | false =>
  conv => whnf
  refine ⟨out0, ok0, ?_, Dp.of hj hx g1 (g2 rfl)⟩;rw [g1.ln]
  try rfl
 | true =>
  conv => whnf
  refine ja3 [2, 6] ?_;conv => whnf
  refine jad (fun y : Nat × List Int × Bool × Bool => [(8, jas y.2.2.1), (9, jas y.2.2.2), (10, .v (.int .i64 y.1))]) (fun _ => [pgL code e du vo]) (fun y => [.live 3 1 code.length (jaG y.2.1)]) (fun y => y.1 <= code.length /\ Dq code x (cN out0) y.1 y.2.1 y.2.2.1 y.2.2.2) (fun y => code.length - y.1) (0, out0, ok0, false) ?_ ⟨Nat.zero_le _, g1, Nat.le_refl _, fun _ j h1 h2 => by omega⟩ ?_
  ·repeat' constructor
  rintro ⟨i, out, ok, ch⟩ ⟨q1, q2⟩
  simp only at q1 q2
  have hln := q2.di.ln
  conv => whnf
  rcases Nat.lt_or_ge i code.length with hil | hig
  ·have hir : (0 : Int) <= (i : Int) /\ (i : Int) < code.length := ⟨by omega, by omega⟩
   have hbd := q2.di.bnd hir
   rw [decide_eq_true (show (i : Int) < (code.length : Int) by omega)];conv => whnf
   refine ⟨show (0 : Int) <= (i : Int) /\ (i : Int) < (code.length : Nat) from hir, ?_⟩;conv => whnf
   rw [jen (by rw [hln]; exact hir)];conv => whnf
   by_cases hv : og out i < 0
   ·rw [decide_eq_true hv];conv => whnf
    refine ⟨show lo .i64 <= (i : Int) + 1 /\ (i : Int) + 1 <= hi .i64 from jal (by omega), ?_⟩;conv => whnf
    refine ⟨(i + 1, out, ok, ch), ja1 [0] ?_, ⟨show i + 1 <= code.length by omega, q2.jump hv⟩, show code.length - (i + 1) < code.length - i by omega⟩;conv => whnf
    repeat' constructor
   rw [decide_eq_false hv]
   have hv : 0 <= og out i := by omega
   have hrow : ja2 2 i (jbp code) = icA code[i] := jcg code i hil
   have hopi : opI code i = (code[i]).1 := by unfold opI; rw [Int.toNat_natCast, List.getD_eq_getElem?_getD, List.getElem?_eq_getElem hil]; rfl
   have hoi := ho _ (List.getElem_mem hil)
   have hnx := jlt code e du vo hl i hil
   have htake := q2.take hir hv
   have hund := q2.under hir hv
   rw [hopi] at htake hund;generalize code[i] = ci at hrow htake hund hoi
   obtain ⟨op, n⟩ := ci
   unfold icA at hrow
   simp only at hrow htake hund hoi
   have hps := jaj op
   have hpu := jhh op
   unfold jvB at hps;rw [if_pos hoi] at hps
   have p1 := jhe op
   have p2 := jdV op
   have hcn := joP out
   rw [hln] at hcn;conv => whnf
   apply jmA
   ·conv => whnf
    refine ⟨hir, ?_⟩;conv => whnf
    refine ⟨hir, ?_⟩;conv => whnf
    (generalize hrq : ja2 _ _ (jbp code) = rq; obtain rfl : rq = [intA op, intA n] := hrq.symm.trans (hrow); clear hrq; conv => whnf)
    refine ⟨?_, ?_⟩
    ·conv => whnf
     rw [jen (by rw [hln]; exact hir)];conv => whnf
     refine jah [] rfl (fun _ => hps) ?_;rintro r rfl;conv => whnf
     refine ⟨show lo .i64 <= og out i - jan op /\ og out i - jan op <= hi .i64 from jal (by omega), ?_⟩;conv => whnf
    ·conv => whnf
     refine jah [] rfl (fun _ => hps) ?_;rintro r rfl;conv => whnf
     rw [jen (by rw [hln]; exact hir)];conv => whnf
     refine ⟨show lo .i64 <= og out i - jan op /\ og out i - jan op <= hi .i64 from jal (by omega), ?_⟩;conv => whnf
   conv => whnf
   by_cases hu : og out i - jan op < 0
   ·rw [decide_eq_true hu];conv => whnf
    refine ⟨show (0 : Int) <= (i : Int) /\ (i : Int) < (code.length : Nat) from hir, ?_⟩;conv => whnf
    (generalize hrq : ja2 _ _ (jbp code) = rq; obtain rfl : rq = [intA op, intA n] := hrq.symm.trans (hrow); clear hrq; conv => whnf)
    refine jah [] rfl (fun _ => hpu) ?_;rintro r rfl;conv => whnf
    refine ⟨jal (by omega), ?_⟩;conv => whnf
    refine jah [] rfl (fun _ => hnx) ?_;rintro r rfl;rw [Int.zero_add]
    have hdr0 := (hund (by omega))
    have hscl := jpt code i
    have hdb := hdr0.dd
    have hcn := joP out
    rw [hln] at hcn
    obtain ⟨d, hd⟩ : ∃ d, ja6 op = d := ⟨_, rfl⟩
    rw [hd] at hdr0 hdb ⊢;conv => whnf
    refine ja3 [2, 6, 10, 11, 12] ?_;conv => whnf
    refine jad (fun y : Nat × List Int × Bool × Bool => [(8, jas y.2.2.1), (9, jas y.2.2.2), (13, .v (.int .i64 y.1))]) (fun _ => [pgL code e du vo]) (fun y => [.live 3 1 code.length (jaG y.2.1)]) (fun y => y.1 <= (sc code i).length /\ Dr code x (cN out0) i (og out i) d y.1 y.2.1 y.2.2.1 y.2.2.2) (fun y => (sc code i).length - y.1) (0, out, false, ch) ?_ ⟨Nat.zero_le _, hdr0⟩ ?_
    ·repeat' constructor
    clear hdr0 hdb;rintro ⟨t, out1, ok1, ch1⟩ ⟨f1, f2⟩
    simp only at f1 f2
    have hln1 := f2.dq.di.ln
    conv => whnf
    rcases Nat.lt_or_ge t (sc code i).length with htl | htg
    ·have hrw := jdF (sc code i) t htl
     obtain ⟨k, hk⟩ : ∃ k, (sc code i)[t] = k := ⟨_, rfl⟩
     have hskip := f2.skip htl
     have hput := f2.put hir hv htl
     have hsame := f2.same hir htl
     have hconf := f2.conf hir hv htl
     rw [hk] at hrw hskip hput hsame hconf;rw [decide_eq_true (show (t : Int) < ((sc code i).length : Int) by omega)];conv => whnf
     refine ⟨show (0 : Int) <= (t : Int) /\ (t : Int) < ((sc code i).length : Nat) from ⟨by omega, by omega⟩, ?_⟩;conv => whnf
     (generalize hrq : ja2 _ _ (jaG (sc code i)) = rq; obtain rfl : rq = [intA k] := hrq.symm.trans (hrw); clear hrq; conv => whnf)
     by_cases hk1 : k < 0
     ·rw [decide_eq_true hk1];conv => whnf
      refine ⟨show lo .i64 <= (t : Int) + 1 /\ (t : Int) + 1 <= hi .i64 from jal (by omega), ?_⟩;conv => whnf
      refine ⟨(t + 1, out1, ok1, ch1), ja1 [0] ?_, ⟨show t + 1 <= (sc code i).length by omega, hskip (by omega)⟩, show (sc code i).length - (t + 1) < (sc code i).length - t by omega⟩;conv => whnf
      repeat' constructor
     rw [decide_eq_false hk1];conv => whnf
     refine ⟨show (0 : Int) <= (t : Int) /\ (t : Int) < ((sc code i).length : Nat) from ⟨by omega, by omega⟩, ?_⟩;conv => whnf
     (generalize hrq : ja2 _ _ (jaG (sc code i)) = rq; obtain rfl : rq = [intA k] := hrq.symm.trans (hrw); clear hrq; conv => whnf)
     by_cases hk2 : (code.length : Int) <= k
     ·rw [decide_eq_true hk2];conv => whnf
      refine ⟨show lo .i64 <= (t : Int) + 1 /\ (t : Int) + 1 <= hi .i64 from jal (by omega), ?_⟩;conv => whnf
      refine ⟨(t + 1, out1, ok1, ch1), ja1 [0] ?_, ⟨show t + 1 <= (sc code i).length by omega, hskip (by omega)⟩, show (sc code i).length - (t + 1) < (sc code i).length - t by omega⟩;conv => whnf
      repeat' constructor
     rw [decide_eq_false hk2]
     have hkr : 0 <= k /\ k < code.length := ⟨by omega, by omega⟩
     conv => whnf
     refine ⟨show (0 : Int) <= (t : Int) /\ (t : Int) < ((sc code i).length : Nat) from ⟨by omega, by omega⟩, ?_⟩;conv => whnf
     (generalize hrq : ja2 _ _ (jaG (sc code i)) = rq; obtain rfl : rq = [intA k] := hrq.symm.trans (hrw); clear hrq; conv => whnf)
     refine ⟨show (0 : Int) <= k /\ k < (code.length : Nat) from hkr, ?_⟩;conv => whnf
     rw [jen (by rw [hln1]; exact hkr)];conv => whnf
     by_cases hneg : og out1 k < 0
     ·rw [decide_eq_true hneg];conv => whnf
      refine ⟨show (0 : Int) <= (t : Int) /\ (t : Int) < ((sc code i).length : Nat) from ⟨by omega, by omega⟩, ?_⟩;conv => whnf
      (generalize hrq : ja2 _ _ (jaG (sc code i)) = rq; obtain rfl : rq = [intA k] := hrq.symm.trans (hrw); clear hrq; conv => whnf)
      refine ⟨show (0 : Int) <= k /\ k < (code.length : Nat) from hkr, ?_⟩;conv => whnf
      refine jeO (l := out1) (k := k.toNat) (v := d) (by rw [hln1]; omega) ?_;conv => whnf
      refine ⟨show lo .i64 <= (t : Int) + 1 /\ (t : Int) + 1 <= hi .i64 from jal (by omega), ?_⟩;conv => whnf
      refine ⟨(t + 1, out1.set k.toNat d, ok1, true), ja1 [0] ?_, ⟨show t + 1 <= (sc code i).length by omega, hput hkr hneg⟩, show (sc code i).length - (t + 1) < (sc code i).length - t by omega⟩;conv => whnf
      repeat' constructor
     rw [decide_eq_false hneg];conv => whnf
     refine ⟨show (0 : Int) <= (t : Int) /\ (t : Int) < ((sc code i).length : Nat) from ⟨by omega, by omega⟩, ?_⟩;conv => whnf
     (generalize hrq : ja2 _ _ (jaG (sc code i)) = rq; obtain rfl : rq = [intA k] := hrq.symm.trans (hrw); clear hrq; conv => whnf)
     refine ⟨show (0 : Int) <= k /\ k < (code.length : Nat) from hkr, ?_⟩;conv => whnf
     rw [jen (by rw [hln1]; exact hkr)];conv => whnf
     by_cases heq : og out1 k = d
     ·rw [decide_eq_true heq];conv => whnf
      refine ⟨show lo .i64 <= (t : Int) + 1 /\ (t : Int) + 1 <= hi .i64 from jal (by omega), ?_⟩;conv => whnf
      refine ⟨(t + 1, out1, ok1, ch1), ja1 [0] ?_, ⟨show t + 1 <= (sc code i).length by omega, hsame hneg heq⟩, show (sc code i).length - (t + 1) < (sc code i).length - t by omega⟩;conv => whnf
      repeat' constructor
     ·rw [decide_eq_false heq];conv => whnf
      refine ⟨show lo .i64 <= (t : Int) + 1 /\ (t : Int) + 1 <= hi .i64 from jal (by omega), ?_⟩;conv => whnf
      refine ⟨(t + 1, out1, false, ch1), ja1 [0] ?_, ⟨show t + 1 <= (sc code i).length by omega, hconf hkr hneg heq⟩, show (sc code i).length - (t + 1) < (sc code i).length - t by omega⟩;conv => whnf
      repeat' constructor
    rw [decide_eq_false (show ¬ (t : Int) < ((sc code i).length : Int) by omega)]
    have htt : t = (sc code i).length := by omega
    conv => whnf
    refine ⟨show lo .i64 <= (i : Int) + 1 /\ (i : Int) + 1 <= hi .i64 from jal (by omega), ?_⟩;conv => whnf
    refine ⟨(i + 1, out1, ok1, ch1), ja1 [0] ?_, ⟨show i + 1 <= code.length by omega, ?_⟩, show code.length - (i + 1) < code.length - i by omega⟩
    ·conv => whnf
     repeat' constructor
    ·have f3 := f2
     rw [htt] at f3;exact f3.done (by omega)
   ·rw [decide_eq_false hu];conv => whnf
    refine ⟨show (0 : Int) <= (i : Int) /\ (i : Int) < (code.length : Nat) from hir, ?_⟩;conv => whnf
    (generalize hrq : ja2 _ _ (jbp code) = rq; obtain rfl : rq = [intA op, intA n] := hrq.symm.trans (hrow); clear hrq; conv => whnf)
    refine jah [] rfl (fun _ => hpu) ?_;rintro r rfl;conv => whnf
    refine ⟨show lo .i64 <= og out i - jan op + ja6 op /\ og out i - jan op + ja6 op <= hi .i64 from jal (by omega), ?_⟩;conv => whnf
    refine jah [] rfl (fun _ => hnx) ?_;rintro r rfl
    have hdr0 := (htake (by omega))
    have hscl := jpt code i
    have hdb := hdr0.dd
    have hcn := joP out
    rw [hln] at hcn
    obtain ⟨d, hd⟩ : ∃ d, og out i - jan op + ja6 op = d := ⟨_, rfl⟩
    rw [hd] at hdr0 hdb ⊢;conv => whnf
    refine ja3 [2, 6, 10, 11, 12] ?_;conv => whnf
    refine jad (fun y : Nat × List Int × Bool × Bool => [(8, jas y.2.2.1), (9, jas y.2.2.2), (13, .v (.int .i64 y.1))]) (fun _ => [pgL code e du vo]) (fun y => [.live 3 1 code.length (jaG y.2.1)]) (fun y => y.1 <= (sc code i).length /\ Dr code x (cN out0) i (og out i) d y.1 y.2.1 y.2.2.1 y.2.2.2) (fun y => (sc code i).length - y.1) (0, out, ok, ch) ?_ ⟨Nat.zero_le _, hdr0⟩ ?_
    ·repeat' constructor
    clear hdr0 hdb;rintro ⟨t, out1, ok1, ch1⟩ ⟨f1, f2⟩
    simp only at f1 f2
    have hln1 := f2.dq.di.ln
    conv => whnf
    rcases Nat.lt_or_ge t (sc code i).length with htl | htg
    ·have hrw := jdF (sc code i) t htl
     obtain ⟨k, hk⟩ : ∃ k, (sc code i)[t] = k := ⟨_, rfl⟩
     have hskip := f2.skip htl
     have hput := f2.put hir hv htl
     have hsame := f2.same hir htl
     have hconf := f2.conf hir hv htl
     rw [hk] at hrw hskip hput hsame hconf;rw [decide_eq_true (show (t : Int) < ((sc code i).length : Int) by omega)];conv => whnf
     refine ⟨show (0 : Int) <= (t : Int) /\ (t : Int) < ((sc code i).length : Nat) from ⟨by omega, by omega⟩, ?_⟩;conv => whnf
     (generalize hrq : ja2 _ _ (jaG (sc code i)) = rq; obtain rfl : rq = [intA k] := hrq.symm.trans (hrw); clear hrq; conv => whnf)
     by_cases hk1 : k < 0
     ·rw [decide_eq_true hk1];conv => whnf
      refine ⟨show lo .i64 <= (t : Int) + 1 /\ (t : Int) + 1 <= hi .i64 from jal (by omega), ?_⟩;conv => whnf
      refine ⟨(t + 1, out1, ok1, ch1), ja1 [0] ?_, ⟨show t + 1 <= (sc code i).length by omega, hskip (by omega)⟩, show (sc code i).length - (t + 1) < (sc code i).length - t by omega⟩;conv => whnf
      repeat' constructor
     rw [decide_eq_false hk1];conv => whnf
     refine ⟨show (0 : Int) <= (t : Int) /\ (t : Int) < ((sc code i).length : Nat) from ⟨by omega, by omega⟩, ?_⟩;conv => whnf
     (generalize hrq : ja2 _ _ (jaG (sc code i)) = rq; obtain rfl : rq = [intA k] := hrq.symm.trans (hrw); clear hrq; conv => whnf)
     by_cases hk2 : (code.length : Int) <= k
     ·rw [decide_eq_true hk2];conv => whnf
      refine ⟨show lo .i64 <= (t : Int) + 1 /\ (t : Int) + 1 <= hi .i64 from jal (by omega), ?_⟩;conv => whnf
      refine ⟨(t + 1, out1, ok1, ch1), ja1 [0] ?_, ⟨show t + 1 <= (sc code i).length by omega, hskip (by omega)⟩, show (sc code i).length - (t + 1) < (sc code i).length - t by omega⟩;conv => whnf
      repeat' constructor
     rw [decide_eq_false hk2]
     have hkr : 0 <= k /\ k < code.length := ⟨by omega, by omega⟩
     conv => whnf
     refine ⟨show (0 : Int) <= (t : Int) /\ (t : Int) < ((sc code i).length : Nat) from ⟨by omega, by omega⟩, ?_⟩;conv => whnf
     (generalize hrq : ja2 _ _ (jaG (sc code i)) = rq; obtain rfl : rq = [intA k] := hrq.symm.trans (hrw); clear hrq; conv => whnf)
     refine ⟨show (0 : Int) <= k /\ k < (code.length : Nat) from hkr, ?_⟩;conv => whnf
     rw [jen (by rw [hln1]; exact hkr)];conv => whnf
     by_cases hneg : og out1 k < 0
     ·rw [decide_eq_true hneg];conv => whnf
      refine ⟨show (0 : Int) <= (t : Int) /\ (t : Int) < ((sc code i).length : Nat) from ⟨by omega, by omega⟩, ?_⟩;conv => whnf
      (generalize hrq : ja2 _ _ (jaG (sc code i)) = rq; obtain rfl : rq = [intA k] := hrq.symm.trans (hrw); clear hrq; conv => whnf)
      refine ⟨show (0 : Int) <= k /\ k < (code.length : Nat) from hkr, ?_⟩;conv => whnf
      refine jeO (l := out1) (k := k.toNat) (v := d) (by rw [hln1]; omega) ?_;conv => whnf
      refine ⟨show lo .i64 <= (t : Int) + 1 /\ (t : Int) + 1 <= hi .i64 from jal (by omega), ?_⟩;conv => whnf
      refine ⟨(t + 1, out1.set k.toNat d, ok1, true), ja1 [0] ?_, ⟨show t + 1 <= (sc code i).length by omega, hput hkr hneg⟩, show (sc code i).length - (t + 1) < (sc code i).length - t by omega⟩;conv => whnf
      repeat' constructor
     rw [decide_eq_false hneg];conv => whnf
     refine ⟨show (0 : Int) <= (t : Int) /\ (t : Int) < ((sc code i).length : Nat) from ⟨by omega, by omega⟩, ?_⟩;conv => whnf
     (generalize hrq : ja2 _ _ (jaG (sc code i)) = rq; obtain rfl : rq = [intA k] := hrq.symm.trans (hrw); clear hrq; conv => whnf)
     refine ⟨show (0 : Int) <= k /\ k < (code.length : Nat) from hkr, ?_⟩;conv => whnf
     rw [jen (by rw [hln1]; exact hkr)];conv => whnf
     by_cases heq : og out1 k = d
     ·rw [decide_eq_true heq];conv => whnf
      refine ⟨show lo .i64 <= (t : Int) + 1 /\ (t : Int) + 1 <= hi .i64 from jal (by omega), ?_⟩;conv => whnf
      refine ⟨(t + 1, out1, ok1, ch1), ja1 [0] ?_, ⟨show t + 1 <= (sc code i).length by omega, hsame hneg heq⟩, show (sc code i).length - (t + 1) < (sc code i).length - t by omega⟩;conv => whnf
      repeat' constructor
     ·rw [decide_eq_false heq];conv => whnf
      refine ⟨show lo .i64 <= (t : Int) + 1 /\ (t : Int) + 1 <= hi .i64 from jal (by omega), ?_⟩;conv => whnf
      refine ⟨(t + 1, out1, false, ch1), ja1 [0] ?_, ⟨show t + 1 <= (sc code i).length by omega, hconf hkr hneg heq⟩, show (sc code i).length - (t + 1) < (sc code i).length - t by omega⟩;conv => whnf
      repeat' constructor
    rw [decide_eq_false (show ¬ (t : Int) < ((sc code i).length : Int) by omega)]
    have htt : t = (sc code i).length := by omega
    conv => whnf
    refine ⟨show lo .i64 <= (i : Int) + 1 /\ (i : Int) + 1 <= hi .i64 from jal (by omega), ?_⟩;conv => whnf
    refine ⟨(i + 1, out1, ok1, ch1), ja1 [0] ?_, ⟨show i + 1 <= code.length by omega, ?_⟩, show code.length - (i + 1) < code.length - i by omega⟩
    ·conv => whnf
     repeat' constructor
    ·have f3 := f2
     rw [htt] at f3;exact f3.done (by omega)
  rw [decide_eq_false (show ¬ (i : Int) < (code.length : Int) by omega)]
  obtain rfl : i = code.length := by omega
  conv => whnf
  refine ⟨(out, ok, ch), ja1 [0] ?_, ⟨q2.di, fun hc j h1 h2 h3 => q2.pd hc j h1 h2 h3⟩, ?_⟩
  ·conv => whnf
   repeat' constructor
  ·have h1 := q2.ct
   have h2 := joP out
   have h3 := g1.ln
   have h4 := joP out0
   show code.length - cN out + (if ch = true then 1 else 0) < code.length - cN out0 + 1
   rw [hln] at h2
   split at h1 <;> simp_all <;> omega
section
set_option maxRecDepth 100000
end
def jys (i : Int) : Nt := .mk 12 i eB []
theorem joD (l : List Int) (a : Int) : jaG (l ++ [a]) = jaG l ++ [intA a] := by unfold jaG; rw [List.map_append]; rfl
theorem jaD {dm : List (Int × Int)} {k : Int} {K : A -> Prop} {n : Prop} (hd : dF dm k = none) (h : n) : jcv false (mkV (dmA dm)) (mvA (dmA dm)) (.int .i64 k) K n := by
 refine jaP _ _ ?_;rw [jn4, hd];exact h
theorem jar {dm : List (Int × Int)} {k d : Int} {K : A -> Prop} {n : Prop} (hd : dF dm k = some d) (h : K (intA d)) : jcv false (mkV (dmA dm)) (mvA (dmA dm)) (.int .i64 k) K n := by
 refine jaP _ _ ?_;rw [jn4, hd];exact h
theorem jbN {dm : List (Int × Int)} {k d : Int} {n : Nat} {K : List A -> List A -> Nat -> Prop} (hd : dF dm k = none) (h : K (mkA (dmA (dm ++ [(k, d)]))) (mvA (dmA (dm ++ [(k, d)]))) (n + 1)) : juh false (.int .i64 k) (.v (.int .i64 d)) (mkA (dmA dm)) (mvA (dmA dm)) n K := by
 rw [jsu] at h;refine jjS (fun p hp => ?_) h;unfold dmA at hp
 obtain ⟨q, hq, rfl⟩ := List.mem_map.1 hp
 exact jqm hd q hq
theorem jd9 (t : Nat) (dm : List (Int × Int)) (k d : Int) : Row.live t 0 (dm.length + 1) [.clo 0 (mkA (dmA (dm ++ [(k, d)]))), .clo 0 (mvA (dmA (dm ++ [(k, d)])))] = Row.live t 0 (dm ++ [(k, d)]).length [.clo 0 (mkA (dmA (dm ++ [(k, d)]))), .clo 0 (mvA (dmA (dm ++ [(k, d)])))] := by rw [List.length_append]; rfl
theorem jd6 (t : Nat) (wk : List Int) (k : Int) : Row.live t 1 (wk.length + 1) (jaG wk ++ [intA k]) = Row.live t 1 (wk ++ [k]).length (jaG (wk ++ [k])) := by rw [List.length_append, joD]; rfl
theorem jaR {α : Type} (o : Option α) : o = none ∨ ∃ a, o = some a := by cases o with
 | none => exact .inl rfl
 | some a => exact .inr ⟨a, rfl⟩
def jyB (id : Nat) : List Nat := match Nat.beq id 1000003 with | true => [1000003] | false => []
def flR (dm : List (Int × Int)) (wk : List Int) : List Row := [.live 123 0 dm.length [.clo 0 (mkA (dmA dm)), .clo 0 (mvA (dmA dm))], .live 3 1 wk.length (jaG wk)]
set_option maxHeartbeats 4000000 in
theorem jgS (code : List Ic) (e : Nat -> Int) (du vo entry : Int) (hd : -100 <= du /\ du <= 100) (hv : -100 <= vo /\ vo <= 100) (hl : code.length <= 1000000) (hj : jfr code) (ho : ∀ i ∈ code, 1 <= i.1 /\ i.1 <= 23) (he : entry < code.length) : Spec Tryz.prog 41 [] [pgA code e du vo, intA entry] fun _ r => r = intA (jb3 code entry) := by
 have hsh := jh6 code e du vo hd hv hl
 obtain ⟨R, hR⟩ : ∃ R, jb3 code entry = R := ⟨_, rfl⟩
 rw [hR];unfold jb3 at hR;refine ja7 (ja4 jaE jyB 0) (fun _ _ h => h) Tryz.func41 rfl (by kernel_rfl) rfl (by kernel_rfl) ?_;intro _;conv => whnf
 by_cases h0 : entry < 0
 ·rw [decide_eq_true h0];rw [if_pos h0] at hR;conv => whnf
  rw [<- hR]; rfl
 rw [decide_eq_false h0];rw [if_neg h0] at hR;conv => whnf
 refine jah [] rfl (fun _ => hsh) ?_;rintro r rfl;conv => whnf
 refine ja3 [2, 5, 6, 8] ?_;conv => whnf
 refine jad (fun x : Nat × Fs => [(7, intA (jp6 x.2.er))]) (fun _ => [pgL code e du vo]) (fun x => flR x.2.dm x.2.wk)
  (fun x => jiA code.length x.2 /\ x.2.wk.length + (code.length - x.2.dm.length) + 1 <= x.1 /\ x.1 <= code.length + 1 /\ jv6 code x.1 x.2 = R) (fun x => x.1) (code.length + 1, ⟨[(entry, 0)], [entry], false⟩) ?_ ⟨⟨?_, ?_, ?_, ?_⟩, ?_, Nat.le_refl _, hR⟩ ?_
 ·repeat' constructor
  unfold mkA mvA dmA;rfl
 ·intro p hp;rw [List.mem_singleton.1 hp]; exact ⟨by simp only; omega, he⟩
 ·simp
 ·intro k hk;rw [List.mem_singleton.1 hk]; exact ⟨0, List.mem_singleton.2 rfl⟩
 ·intro p hp;rw [List.mem_singleton.1 hp]; simp only [List.length_singleton]; omega
 ·simp only [List.length_singleton]; omega
 rintro ⟨m0, dm, wk, er⟩ ⟨g1, g2, g3, hR⟩
 simp only at g1 g2 g3 hR
 obtain ⟨m, rfl⟩ : ∃ m, m0 = m + 1 := ⟨m0 - 1, by omega⟩
 have hwl : wk.length <= 1000000 := by omega
 rcases List.eq_nil_or_concat wk with rfl | ⟨pre, a, hw⟩
 ·conv => whnf
  rw [jv6] at hR;simp only [List.getLast?_nil] at hR;rw [<- hR]; rfl
 rw [List.concat_eq_append] at hw;subst hw;rw [jv6] at hR;simp only [List.getLast?_append, List.getLast?_singleton, Option.some_or, List.dropLast_append_cons, List.dropLast_singleton, List.append_nil] at hR
 have hlen : (pre ++ [a]).length = pre.length + 1 := by simp
 have htk : (jaG (pre ++ [a])).take (pre.length * 1) = jaG pre := by unfold jaG; rw [List.map_append, Nat.mul_one]; exact List.take_left' (by simp)
 have hdr : (jaG (pre ++ [a])).drop ((((pre ++ [a]).length : Int) - 1).toNat * 1) = [intA a] := by
  have e1 : (((pre ++ [a]).length : Int) - 1).toNat * 1 = pre.length := by omega
  rw [e1];unfold jaG;rw [List.map_append];exact List.drop_left' (by simp)
 obtain ⟨d, hda⟩ := g1.wk a (List.mem_append_right _ List.mem_cons_self)
 have ha := g1.rng _ hda
 simp only at ha
 obtain ⟨d', hd'⟩ := jlT hda
 have hdr' := g1.dep _ (jk2 hd')
 simp only at hdr'
 have hdl := jaH g1.rng g1.nd
 simp only at hdl
 have hpp := jhe (code.getD a.toNat (0, 0)).1
 have hps := jdV (code.getD a.toNat (0, 0)).1
 have hnn := jpY hj ha
 have hst : jl4 code dm pre er a = jav code.length (d' - jan (code.getD a.toNat (0, 0)).1 + ja6 (code.getD a.toNat (0, 0)).1) (nxI a (code.getD a.toNat (0, 0))) ⟨dm, pre, er || (decide (d' < jan (code.getD a.toNat (0, 0)).1) || decide (16 < d' - jan (code.getD a.toNat (0, 0)).1 + ja6 (code.getD a.toNat (0, 0)).1))⟩ := by
  unfold jl4 jp4 afF;rw [hd']; rfl
 rw [hst] at hR
 have hil : a.toNat < code.length := by omega
 have hgi : code.getD a.toNat (0, 0) = code[a.toNat] := by rw [List.getD_eq_getElem?_getD, List.getElem?_eq_getElem hil]; rfl
 have hcr : ja2 2 a.toNat (jbp code) = icA (code.getD a.toNat (0, 0)) := by rw [hgi]; exact jcg code _ hil
 have hio : 1 <= (code.getD a.toNat (0, 0)).1 /\ (code.getD a.toNat (0, 0)).1 <= 23 := by rw [hgi]; exact ho _ (List.getElem_mem hil)
 generalize code.getD a.toNat (0, 0) = i at *
 obtain ⟨op, n⟩ := i
 simp only at hpp hps hio hR hnn
 unfold icA at hcr
 simp only at hcr
 conv => whnf
 rw [decide_eq_true (show (0 : Int) < ((pre ++ [a]).length : Int) by rw [hlen]; omega)];conv => whnf
 refine ⟨show lo .i64 <= ((pre ++ [a]).length : Int) - 1 /\ ((pre ++ [a]).length : Int) - 1 <= hi .i64 from jal (by omega), ?_⟩;conv => whnf
 refine ⟨show (0 : Int) <= ((pre ++ [a]).length : Int) - 1 /\ ((pre ++ [a]).length : Int) - 1 < ((pre ++ [a]).length : Nat) from ⟨by omega, by omega⟩, ?_⟩;conv => whnf
 rw [hdr];conv => whnf
 refine ⟨show lo .i64 <= ((pre ++ [a]).length : Int) - 1 /\ ((pre ++ [a]).length : Int) - 1 <= hi .i64 from jal (by omega), ?_⟩;conv => whnf
 refine ⟨pre.length, jaG pre, ⟨show ((pre ++ [a]).length : Int) - 1 = (pre.length : Nat) by omega, show pre.length <= (pre ++ [a]).length by omega, htk.symm⟩, ?_⟩;conv => whnf
 refine ⟨ha, ?_⟩;conv => whnf
 (generalize hrq : ja2 _ _ (jbp code) = rq; obtain rfl : rq = [intA op, intA n] := hrq.symm.trans (hcr); clear hrq; conv => whnf)
 conv => whnf
 refine joV _ _ _ hio fun slo shi => ?_
 conv => whnf
 refine jaa _ ?_;conv => whnf
 refine jar hd' ?_;conv => whnf
 refine ⟨jal (by omega), ?_⟩;conv => whnf
 refine ⟨jal (by omega), ?_⟩;conv => whnf
 refine jaa _ ?_;conv => whnf
 refine jar hd' ?_;conv => whnf
 by_cases hb1 : d' < jan op
 ·rw [decide_eq_true hb1] at hR ⊢;rw [Bool.true_or, Bool.or_true] at hR;conv => whnf
  unfold nxI at hR hnn
  simp only at hR hnn
  by_cases hc1 : op = 23
  ·rw [decide_eq_true hc1];rw [if_pos hc1] at hR hnn;unfold jav at hR
   have hF := hR
   simp only at hF
   conv => whnf
   refine ja3 [2, 5, 6, 7, 8, 88, 89, 90] ?_;conv => whnf
   refine jad (fun _ : Unit => []) (fun _ => [pgL code e du vo]) (fun _ => flR dm pre) (fun _ => True) (fun _ => 0) () ?_ trivial ?_
   ·repeat' constructor
   rintro ⟨⟩ -;conv => whnf
   refine ⟨(m, ⟨dm, pre, true⟩), ja1 [0, 1] ?_, ⟨⟨g1.rng, g1.nd, fun k hk => g1.wk k (List.mem_append_left _ hk), g1.dep⟩, show pre.length + (code.length - dm.length) + 1 <= m by omega, show m <= code.length + 1 by omega, hF⟩, show m < m + 1 by omega⟩;conv => whnf
   repeat' constructor
  rw [decide_eq_false hc1];rw [if_neg hc1] at hR hnn;conv => whnf
  by_cases hc2 : op = 15
  ·rw [decide_eq_true hc2];rw [if_pos hc2] at hR hnn;conv => whnf
   obtain ⟨F, hF⟩ : ∃ F, jav code.length (d' - jan op + ja6 op) [n] ⟨dm, pre, true⟩ = F := ⟨_, rfl⟩
   rw [hF] at hR;refine jb5 [2] ?_;conv => whnf
   refine ja3 [2, 5, 6, 8, 12, 88, 89] ?_;conv => whnf
   refine jad (fun x : Nat × Fs => [(7, intA (jp6 x.2.er)), (90, .v (.int .i64 x.1))]) (fun _ => [pgL code e du vo]) (fun x => flR x.2.dm x.2.wk ++ [.pub 1 1 ([n].map intA)])
    (fun x => x.1 <= 1 /\ jiA code.length x.2 /\ x.2.wk.length + dm.length = pre.length + x.2.dm.length /\ dm.length <= x.2.dm.length /\ jav code.length (d' - jan op + ja6 op) ([n].drop x.1) x.2 = F) (fun x => 1 - x.1) (0, ⟨dm, pre, true⟩) ?_ ⟨Nat.zero_le _, ⟨g1.rng, g1.nd, fun k hk => g1.wk k (List.mem_append_left _ hk), g1.dep⟩, rfl, Nat.le_refl _, hF⟩ ?_
   ·repeat' constructor
   clear hF;rintro ⟨j, dm1, wk1, er1⟩ ⟨f1, f2, f3, f4, hF⟩
   simp only at f1 f2 f3 f4 hF
   rcases (show j = 0 ∨ j = 1 by omega) with hj0 | hj0
   ·have hdr : [n].drop j = (n) :: [n].drop (j + 1) := by rw [hj0]; rfl
    rw [hdr] at hF;unfold jav at hF
    have hk0 : 0 <= n := hnn _ (by simp)
    have hdl1 := jaH f2.rng f2.nd
    simp only at hdl1
    by_cases hge : (code.length : Int) <= n
    ·unfold jbg at hF;rw [if_pos hge] at hF;rw [<- hF] at hR;conv => whnf
     rw [decide_eq_true (show (j : Int) < ((1 : Nat) : Int) by omega)];conv => whnf
     refine ⟨show (0 : Int) <= (j : Int) /\ (j : Int) < ((1 : Nat) : Int) from ⟨by omega, by omega⟩, ?_⟩;conv => whnf
     (generalize hrq : ja2 _ _ ([A.v (.int .i64 n)]) = rq; obtain rfl : rq = [intA (n)] := hrq.symm.trans ((by rw [hj0]; unfold ja2; rfl)); clear hrq; conv => whnf)
     rw [decide_eq_true hge];conv => whnf
     rw [<- hR]; rfl
    rcases jaR (dF dm1 (n)) with hdk | ⟨d2, hdk⟩
    ·have hkf : jbg code.length (d' - jan op + ja6 op) ⟨dm1, wk1, er1⟩ (n) = some ⟨dm1 ++ [(n, d' - jan op + ja6 op)], wk1 ++ [n], er1⟩ := by unfold jbg; rw [if_neg hge]; simp only; rw [hdk]
     obtain ⟨q1, q2, q3⟩ := jaA f2 hk0 ⟨by simp only; omega, by simp only; omega⟩ hkf
     rw [hkf] at hF
     simp only at hF
     conv => whnf
     rw [decide_eq_true (show (j : Int) < ((1 : Nat) : Int) by omega)];conv => whnf
     refine ⟨show (0 : Int) <= (j : Int) /\ (j : Int) < ((1 : Nat) : Int) from ⟨by omega, by omega⟩, ?_⟩;conv => whnf
     (generalize hrq : ja2 _ _ ([A.v (.int .i64 n)]) = rq; obtain rfl : rq = [intA (n)] := hrq.symm.trans ((by rw [hj0]; unfold ja2; rfl)); clear hrq; conv => whnf)
     rw [decide_eq_false hge];conv => whnf
     refine jaa _ ?_;conv => whnf
     refine jaD hdk ?_;conv => whnf
     refine jbN hdk ?_;conv => whnf
     refine ⟨⟨show wk1.length + 1 <= maxLen by unfold maxLen; omega, show (wk1.length + 1) * 8 <= 140737488355328 by omega⟩, ?_⟩;conv => whnf
     refine ⟨show lo .i64 <= (j : Int) + 1 /\ (j : Int) + 1 <= hi .i64 from jal (by omega), ?_⟩;conv => whnf
     refine ⟨(j + 1, ⟨dm1 ++ [(n, d' - jan op + ja6 op)], wk1 ++ [n], er1⟩), ja1 [0, 1, 2] ?_, ⟨show j + 1 <= 1 by omega, q1, show _ + _ = _ + _ by simp only at q2 ⊢; omega, show _ <= _ by simp only at q3 ⊢; omega, hF⟩, show 1 - (j + 1) < 1 - j by omega⟩;conv => whnf
     repeat' constructor
     ·exact jd9 _ _ _ _
     ·exact jd6 _ _ _
    ·have hkf : jbg code.length (d' - jan op + ja6 op) ⟨dm1, wk1, er1⟩ (n) = some ⟨dm1, wk1, er1 || decide (d2 ≠ d' - jan op + ja6 op)⟩ := by unfold jbg; rw [if_neg hge]; simp only; rw [hdk]
     obtain ⟨q1, q2, q3⟩ := jaA f2 hk0 ⟨by simp only; omega, by simp only; omega⟩ hkf
     rw [hkf] at hF
     simp only at hF
     conv => whnf
     rw [decide_eq_true (show (j : Int) < ((1 : Nat) : Int) by omega)];conv => whnf
     refine ⟨show (0 : Int) <= (j : Int) /\ (j : Int) < ((1 : Nat) : Int) from ⟨by omega, by omega⟩, ?_⟩;conv => whnf
     (generalize hrq : ja2 _ _ ([A.v (.int .i64 n)]) = rq; obtain rfl : rq = [intA (n)] := hrq.symm.trans ((by rw [hj0]; unfold ja2; rfl)); clear hrq; conv => whnf)
     rw [decide_eq_false hge];conv => whnf
     refine jaa _ ?_;conv => whnf
     refine jar hdk ?_;conv => whnf
     rcases (show d2 = d' - jan op + ja6 op ∨ d2 ≠ d' - jan op + ja6 op by omega) with heq | heq
     ·rw [decide_eq_true heq];rw [decide_eq_false (fun h => h heq), Bool.or_false] at hF q1;conv => whnf
      refine ⟨show lo .i64 <= (j : Int) + 1 /\ (j : Int) + 1 <= hi .i64 from jal (by omega), ?_⟩;conv => whnf
      refine ⟨(j + 1, ⟨dm1, wk1, er1⟩), ja1 [0, 1, 2] ?_, ⟨show j + 1 <= 1 by omega, q1, show _ + _ = _ + _ by simp only at q2 ⊢; omega, show _ <= _ by simp only at q3 ⊢; omega, hF⟩, show 1 - (j + 1) < 1 - j by omega⟩;conv => whnf
      repeat' constructor
     ·rw [decide_eq_false heq];rw [decide_eq_true heq, Bool.or_true] at hF q1;conv => whnf
      refine ⟨show lo .i64 <= (j : Int) + 1 /\ (j : Int) + 1 <= hi .i64 from jal (by omega), ?_⟩;conv => whnf
      refine ⟨(j + 1, ⟨dm1, wk1, true⟩), ja1 [0, 1, 2] ?_, ⟨show j + 1 <= 1 by omega, q1, show _ + _ = _ + _ by simp only at q2 ⊢; omega, show _ <= _ by simp only at q3 ⊢; omega, hF⟩, show 1 - (j + 1) < 1 - j by omega⟩;conv => whnf
      repeat' constructor
   ·rw [show [n].drop j = [] by rw [hj0]; rfl] at hF;unfold jav at hF;rw [<- hF] at hR
    have hdl1 := jaH f2.rng f2.nd
    simp only at hdl1 hR
    conv => whnf
    rw [decide_eq_false (show ¬ (j : Int) < ((1 : Nat) : Int) by omega)];conv => whnf
    refine ⟨(m, ⟨dm1, wk1, er1⟩), ja1 [0, 1] ?_, ⟨f2, show wk1.length + (code.length - dm1.length) + 1 <= m by omega, show m <= code.length + 1 by omega, hR⟩, show m < m + 1 by omega⟩;conv => whnf
    repeat' constructor
  rw [decide_eq_false hc2];rw [if_neg hc2] at hR hnn;conv => whnf
  by_cases hc3 : op = 16
  ·rw [decide_eq_true hc3];rw [if_pos hc3] at hR hnn;conv => whnf
   refine ⟨show lo .i64 <= a + 1 /\ a + 1 <= hi .i64 from jal (by omega), ?_⟩;conv => whnf
   obtain ⟨F, hF⟩ : ∃ F, jav code.length (d' - jan op + ja6 op) [a + 1, n] ⟨dm, pre, true⟩ = F := ⟨_, rfl⟩
   rw [hF] at hR;refine jb5 [2] ?_;conv => whnf
   refine ja3 [2, 5, 6, 8, 12, 88, 89] ?_;conv => whnf
   refine jad (fun x : Nat × Fs => [(7, intA (jp6 x.2.er)), (90, .v (.int .i64 x.1))]) (fun _ => [pgL code e du vo]) (fun x => flR x.2.dm x.2.wk ++ [.pub 1 2 ([a + 1, n].map intA)])
    (fun x => x.1 <= 2 /\ jiA code.length x.2 /\ x.2.wk.length + dm.length = pre.length + x.2.dm.length /\ dm.length <= x.2.dm.length /\ jav code.length (d' - jan op + ja6 op) ([a + 1, n].drop x.1) x.2 = F) (fun x => 2 - x.1) (0, ⟨dm, pre, true⟩) ?_ ⟨Nat.zero_le _, ⟨g1.rng, g1.nd, fun k hk => g1.wk k (List.mem_append_left _ hk), g1.dep⟩, rfl, Nat.le_refl _, hF⟩ ?_
   ·repeat' constructor
   clear hF;rintro ⟨j, dm1, wk1, er1⟩ ⟨f1, f2, f3, f4, hF⟩
   simp only at f1 f2 f3 f4 hF
   rcases (show j = 0 ∨ j = 1 ∨ j = 2 by omega) with hj0 | hj0 | hj0
   ·have hdr : [a + 1, n].drop j = (a + 1) :: [a + 1, n].drop (j + 1) := by rw [hj0]; rfl
    rw [hdr] at hF;unfold jav at hF
    have hk0 : 0 <= a + 1 := hnn _ (by simp)
    have hdl1 := jaH f2.rng f2.nd
    simp only at hdl1
    by_cases hge : (code.length : Int) <= a + 1
    ·unfold jbg at hF;rw [if_pos hge] at hF;rw [<- hF] at hR;conv => whnf
     rw [decide_eq_true (show (j : Int) < ((2 : Nat) : Int) by omega)];conv => whnf
     refine ⟨show (0 : Int) <= (j : Int) /\ (j : Int) < ((2 : Nat) : Int) from ⟨by omega, by omega⟩, ?_⟩;conv => whnf
     (generalize hrq : ja2 _ _ ([A.v (.int .i64 (a + 1)), A.v (.int .i64 n)]) = rq; obtain rfl : rq = [intA (a + 1)] := hrq.symm.trans ((by rw [hj0]; unfold ja2; rfl)); clear hrq; conv => whnf)
     rw [decide_eq_true hge];conv => whnf
     rw [<- hR]; rfl
    rcases jaR (dF dm1 (a + 1)) with hdk | ⟨d2, hdk⟩
    ·have hkf : jbg code.length (d' - jan op + ja6 op) ⟨dm1, wk1, er1⟩ (a + 1) = some ⟨dm1 ++ [(a + 1, d' - jan op + ja6 op)], wk1 ++ [a + 1], er1⟩ := by unfold jbg; rw [if_neg hge]; simp only; rw [hdk]
     obtain ⟨q1, q2, q3⟩ := jaA f2 hk0 ⟨by simp only; omega, by simp only; omega⟩ hkf
     rw [hkf] at hF
     simp only at hF
     conv => whnf
     rw [decide_eq_true (show (j : Int) < ((2 : Nat) : Int) by omega)];conv => whnf
     refine ⟨show (0 : Int) <= (j : Int) /\ (j : Int) < ((2 : Nat) : Int) from ⟨by omega, by omega⟩, ?_⟩;conv => whnf
     (generalize hrq : ja2 _ _ ([A.v (.int .i64 (a + 1)), A.v (.int .i64 n)]) = rq; obtain rfl : rq = [intA (a + 1)] := hrq.symm.trans ((by rw [hj0]; unfold ja2; rfl)); clear hrq; conv => whnf)
     rw [decide_eq_false hge];conv => whnf
     refine jaa _ ?_;conv => whnf
     refine jaD hdk ?_;conv => whnf
     refine jbN hdk ?_;conv => whnf
     refine ⟨⟨show wk1.length + 1 <= maxLen by unfold maxLen; omega, show (wk1.length + 1) * 8 <= 140737488355328 by omega⟩, ?_⟩;conv => whnf
     refine ⟨show lo .i64 <= (j : Int) + 1 /\ (j : Int) + 1 <= hi .i64 from jal (by omega), ?_⟩;conv => whnf
     refine ⟨(j + 1, ⟨dm1 ++ [(a + 1, d' - jan op + ja6 op)], wk1 ++ [a + 1], er1⟩), ja1 [0, 1, 2] ?_, ⟨show j + 1 <= 2 by omega, q1, show _ + _ = _ + _ by simp only at q2 ⊢; omega, show _ <= _ by simp only at q3 ⊢; omega, hF⟩, show 2 - (j + 1) < 2 - j by omega⟩;conv => whnf
     repeat' constructor
     ·exact jd9 _ _ _ _
     ·exact jd6 _ _ _
    ·have hkf : jbg code.length (d' - jan op + ja6 op) ⟨dm1, wk1, er1⟩ (a + 1) = some ⟨dm1, wk1, er1 || decide (d2 ≠ d' - jan op + ja6 op)⟩ := by unfold jbg; rw [if_neg hge]; simp only; rw [hdk]
     obtain ⟨q1, q2, q3⟩ := jaA f2 hk0 ⟨by simp only; omega, by simp only; omega⟩ hkf
     rw [hkf] at hF
     simp only at hF
     conv => whnf
     rw [decide_eq_true (show (j : Int) < ((2 : Nat) : Int) by omega)];conv => whnf
     refine ⟨show (0 : Int) <= (j : Int) /\ (j : Int) < ((2 : Nat) : Int) from ⟨by omega, by omega⟩, ?_⟩;conv => whnf
     (generalize hrq : ja2 _ _ ([A.v (.int .i64 (a + 1)), A.v (.int .i64 n)]) = rq; obtain rfl : rq = [intA (a + 1)] := hrq.symm.trans ((by rw [hj0]; unfold ja2; rfl)); clear hrq; conv => whnf)
     rw [decide_eq_false hge];conv => whnf
     refine jaa _ ?_;conv => whnf
     refine jar hdk ?_;conv => whnf
     rcases (show d2 = d' - jan op + ja6 op ∨ d2 ≠ d' - jan op + ja6 op by omega) with heq | heq
     ·rw [decide_eq_true heq];rw [decide_eq_false (fun h => h heq), Bool.or_false] at hF q1;conv => whnf
      refine ⟨show lo .i64 <= (j : Int) + 1 /\ (j : Int) + 1 <= hi .i64 from jal (by omega), ?_⟩;conv => whnf
      refine ⟨(j + 1, ⟨dm1, wk1, er1⟩), ja1 [0, 1, 2] ?_, ⟨show j + 1 <= 2 by omega, q1, show _ + _ = _ + _ by simp only at q2 ⊢; omega, show _ <= _ by simp only at q3 ⊢; omega, hF⟩, show 2 - (j + 1) < 2 - j by omega⟩;conv => whnf
      repeat' constructor
     ·rw [decide_eq_false heq];rw [decide_eq_true heq, Bool.or_true] at hF q1;conv => whnf
      refine ⟨show lo .i64 <= (j : Int) + 1 /\ (j : Int) + 1 <= hi .i64 from jal (by omega), ?_⟩;conv => whnf
      refine ⟨(j + 1, ⟨dm1, wk1, true⟩), ja1 [0, 1, 2] ?_, ⟨show j + 1 <= 2 by omega, q1, show _ + _ = _ + _ by simp only at q2 ⊢; omega, show _ <= _ by simp only at q3 ⊢; omega, hF⟩, show 2 - (j + 1) < 2 - j by omega⟩;conv => whnf
      repeat' constructor
   ·have hdr : [a + 1, n].drop j = (n) :: [a + 1, n].drop (j + 1) := by rw [hj0]; rfl
    rw [hdr] at hF;unfold jav at hF
    have hk0 : 0 <= n := hnn _ (by simp)
    have hdl1 := jaH f2.rng f2.nd
    simp only at hdl1
    by_cases hge : (code.length : Int) <= n
    ·unfold jbg at hF;rw [if_pos hge] at hF;rw [<- hF] at hR;conv => whnf
     rw [decide_eq_true (show (j : Int) < ((2 : Nat) : Int) by omega)];conv => whnf
     refine ⟨show (0 : Int) <= (j : Int) /\ (j : Int) < ((2 : Nat) : Int) from ⟨by omega, by omega⟩, ?_⟩;conv => whnf
     (generalize hrq : ja2 _ _ ([A.v (.int .i64 (a + 1)), A.v (.int .i64 n)]) = rq; obtain rfl : rq = [intA (n)] := hrq.symm.trans ((by rw [hj0]; unfold ja2; rfl)); clear hrq; conv => whnf)
     rw [decide_eq_true hge];conv => whnf
     rw [<- hR]; rfl
    rcases jaR (dF dm1 (n)) with hdk | ⟨d2, hdk⟩
    ·have hkf : jbg code.length (d' - jan op + ja6 op) ⟨dm1, wk1, er1⟩ (n) = some ⟨dm1 ++ [(n, d' - jan op + ja6 op)], wk1 ++ [n], er1⟩ := by unfold jbg; rw [if_neg hge]; simp only; rw [hdk]
     obtain ⟨q1, q2, q3⟩ := jaA f2 hk0 ⟨by simp only; omega, by simp only; omega⟩ hkf
     rw [hkf] at hF
     simp only at hF
     conv => whnf
     rw [decide_eq_true (show (j : Int) < ((2 : Nat) : Int) by omega)];conv => whnf
     refine ⟨show (0 : Int) <= (j : Int) /\ (j : Int) < ((2 : Nat) : Int) from ⟨by omega, by omega⟩, ?_⟩;conv => whnf
     (generalize hrq : ja2 _ _ ([A.v (.int .i64 (a + 1)), A.v (.int .i64 n)]) = rq; obtain rfl : rq = [intA (n)] := hrq.symm.trans ((by rw [hj0]; unfold ja2; rfl)); clear hrq; conv => whnf)
     rw [decide_eq_false hge];conv => whnf
     refine jaa _ ?_;conv => whnf
     refine jaD hdk ?_;conv => whnf
     refine jbN hdk ?_;conv => whnf
     refine ⟨⟨show wk1.length + 1 <= maxLen by unfold maxLen; omega, show (wk1.length + 1) * 8 <= 140737488355328 by omega⟩, ?_⟩;conv => whnf
     refine ⟨show lo .i64 <= (j : Int) + 1 /\ (j : Int) + 1 <= hi .i64 from jal (by omega), ?_⟩;conv => whnf
     refine ⟨(j + 1, ⟨dm1 ++ [(n, d' - jan op + ja6 op)], wk1 ++ [n], er1⟩), ja1 [0, 1, 2] ?_, ⟨show j + 1 <= 2 by omega, q1, show _ + _ = _ + _ by simp only at q2 ⊢; omega, show _ <= _ by simp only at q3 ⊢; omega, hF⟩, show 2 - (j + 1) < 2 - j by omega⟩;conv => whnf
     repeat' constructor
     ·exact jd9 _ _ _ _
     ·exact jd6 _ _ _
    ·have hkf : jbg code.length (d' - jan op + ja6 op) ⟨dm1, wk1, er1⟩ (n) = some ⟨dm1, wk1, er1 || decide (d2 ≠ d' - jan op + ja6 op)⟩ := by unfold jbg; rw [if_neg hge]; simp only; rw [hdk]
     obtain ⟨q1, q2, q3⟩ := jaA f2 hk0 ⟨by simp only; omega, by simp only; omega⟩ hkf
     rw [hkf] at hF
     simp only at hF
     conv => whnf
     rw [decide_eq_true (show (j : Int) < ((2 : Nat) : Int) by omega)];conv => whnf
     refine ⟨show (0 : Int) <= (j : Int) /\ (j : Int) < ((2 : Nat) : Int) from ⟨by omega, by omega⟩, ?_⟩;conv => whnf
     (generalize hrq : ja2 _ _ ([A.v (.int .i64 (a + 1)), A.v (.int .i64 n)]) = rq; obtain rfl : rq = [intA (n)] := hrq.symm.trans ((by rw [hj0]; unfold ja2; rfl)); clear hrq; conv => whnf)
     rw [decide_eq_false hge];conv => whnf
     refine jaa _ ?_;conv => whnf
     refine jar hdk ?_;conv => whnf
     rcases (show d2 = d' - jan op + ja6 op ∨ d2 ≠ d' - jan op + ja6 op by omega) with heq | heq
     ·rw [decide_eq_true heq];rw [decide_eq_false (fun h => h heq), Bool.or_false] at hF q1;conv => whnf
      refine ⟨show lo .i64 <= (j : Int) + 1 /\ (j : Int) + 1 <= hi .i64 from jal (by omega), ?_⟩;conv => whnf
      refine ⟨(j + 1, ⟨dm1, wk1, er1⟩), ja1 [0, 1, 2] ?_, ⟨show j + 1 <= 2 by omega, q1, show _ + _ = _ + _ by simp only at q2 ⊢; omega, show _ <= _ by simp only at q3 ⊢; omega, hF⟩, show 2 - (j + 1) < 2 - j by omega⟩;conv => whnf
      repeat' constructor
     ·rw [decide_eq_false heq];rw [decide_eq_true heq, Bool.or_true] at hF q1;conv => whnf
      refine ⟨show lo .i64 <= (j : Int) + 1 /\ (j : Int) + 1 <= hi .i64 from jal (by omega), ?_⟩;conv => whnf
      refine ⟨(j + 1, ⟨dm1, wk1, true⟩), ja1 [0, 1, 2] ?_, ⟨show j + 1 <= 2 by omega, q1, show _ + _ = _ + _ by simp only at q2 ⊢; omega, show _ <= _ by simp only at q3 ⊢; omega, hF⟩, show 2 - (j + 1) < 2 - j by omega⟩;conv => whnf
      repeat' constructor
   ·rw [show [a + 1, n].drop j = [] by rw [hj0]; rfl] at hF;unfold jav at hF;rw [<- hF] at hR
    have hdl1 := jaH f2.rng f2.nd
    simp only at hdl1 hR
    conv => whnf
    rw [decide_eq_false (show ¬ (j : Int) < ((2 : Nat) : Int) by omega)];conv => whnf
    refine ⟨(m, ⟨dm1, wk1, er1⟩), ja1 [0, 1] ?_, ⟨f2, show wk1.length + (code.length - dm1.length) + 1 <= m by omega, show m <= code.length + 1 by omega, hR⟩, show m < m + 1 by omega⟩;conv => whnf
    repeat' constructor
  rw [decide_eq_false hc3];rw [if_neg hc3] at hR hnn;conv => whnf
  refine ⟨show lo .i64 <= a + 1 /\ a + 1 <= hi .i64 from jal (by omega), ?_⟩;conv => whnf
  obtain ⟨F, hF⟩ : ∃ F, jav code.length (d' - jan op + ja6 op) [a + 1] ⟨dm, pre, true⟩ = F := ⟨_, rfl⟩
  rw [hF] at hR;refine jb5 [2] ?_;conv => whnf
  refine ja3 [2, 5, 6, 8, 12, 88, 89] ?_;conv => whnf
  refine jad (fun x : Nat × Fs => [(7, intA (jp6 x.2.er)), (90, .v (.int .i64 x.1))]) (fun _ => [pgL code e du vo]) (fun x => flR x.2.dm x.2.wk ++ [.pub 1 1 ([a + 1].map intA)])
   (fun x => x.1 <= 1 /\ jiA code.length x.2 /\ x.2.wk.length + dm.length = pre.length + x.2.dm.length /\ dm.length <= x.2.dm.length /\ jav code.length (d' - jan op + ja6 op) ([a + 1].drop x.1) x.2 = F) (fun x => 1 - x.1) (0, ⟨dm, pre, true⟩) ?_ ⟨Nat.zero_le _, ⟨g1.rng, g1.nd, fun k hk => g1.wk k (List.mem_append_left _ hk), g1.dep⟩, rfl, Nat.le_refl _, hF⟩ ?_
  ·repeat' constructor
  clear hF;rintro ⟨j, dm1, wk1, er1⟩ ⟨f1, f2, f3, f4, hF⟩
  simp only at f1 f2 f3 f4 hF
  rcases (show j = 0 ∨ j = 1 by omega) with hj0 | hj0
  ·have hdr : [a + 1].drop j = (a + 1) :: [a + 1].drop (j + 1) := by rw [hj0]; rfl
   rw [hdr] at hF;unfold jav at hF
   have hk0 : 0 <= a + 1 := hnn _ (by simp)
   have hdl1 := jaH f2.rng f2.nd
   simp only at hdl1
   by_cases hge : (code.length : Int) <= a + 1
   ·unfold jbg at hF;rw [if_pos hge] at hF;rw [<- hF] at hR;conv => whnf
    rw [decide_eq_true (show (j : Int) < ((1 : Nat) : Int) by omega)];conv => whnf
    refine ⟨show (0 : Int) <= (j : Int) /\ (j : Int) < ((1 : Nat) : Int) from ⟨by omega, by omega⟩, ?_⟩;conv => whnf
    (generalize hrq : ja2 _ _ ([A.v (.int .i64 (a + 1))]) = rq; obtain rfl : rq = [intA (a + 1)] := hrq.symm.trans ((by rw [hj0]; unfold ja2; rfl)); clear hrq; conv => whnf)
    rw [decide_eq_true hge];conv => whnf
    rw [<- hR]; rfl
   rcases jaR (dF dm1 (a + 1)) with hdk | ⟨d2, hdk⟩
   ·have hkf : jbg code.length (d' - jan op + ja6 op) ⟨dm1, wk1, er1⟩ (a + 1) = some ⟨dm1 ++ [(a + 1, d' - jan op + ja6 op)], wk1 ++ [a + 1], er1⟩ := by unfold jbg; rw [if_neg hge]; simp only; rw [hdk]
    obtain ⟨q1, q2, q3⟩ := jaA f2 hk0 ⟨by simp only; omega, by simp only; omega⟩ hkf
    rw [hkf] at hF
    simp only at hF
    conv => whnf
    rw [decide_eq_true (show (j : Int) < ((1 : Nat) : Int) by omega)];conv => whnf
    refine ⟨show (0 : Int) <= (j : Int) /\ (j : Int) < ((1 : Nat) : Int) from ⟨by omega, by omega⟩, ?_⟩;conv => whnf
    (generalize hrq : ja2 _ _ ([A.v (.int .i64 (a + 1))]) = rq; obtain rfl : rq = [intA (a + 1)] := hrq.symm.trans ((by rw [hj0]; unfold ja2; rfl)); clear hrq; conv => whnf)
    rw [decide_eq_false hge];conv => whnf
    refine jaa _ ?_;conv => whnf
    refine jaD hdk ?_;conv => whnf
    refine jbN hdk ?_;conv => whnf
    refine ⟨⟨show wk1.length + 1 <= maxLen by unfold maxLen; omega, show (wk1.length + 1) * 8 <= 140737488355328 by omega⟩, ?_⟩;conv => whnf
    refine ⟨show lo .i64 <= (j : Int) + 1 /\ (j : Int) + 1 <= hi .i64 from jal (by omega), ?_⟩;conv => whnf
    refine ⟨(j + 1, ⟨dm1 ++ [(a + 1, d' - jan op + ja6 op)], wk1 ++ [a + 1], er1⟩), ja1 [0, 1, 2] ?_, ⟨show j + 1 <= 1 by omega, q1, show _ + _ = _ + _ by simp only at q2 ⊢; omega, show _ <= _ by simp only at q3 ⊢; omega, hF⟩, show 1 - (j + 1) < 1 - j by omega⟩;conv => whnf
    repeat' constructor
    ·exact jd9 _ _ _ _
    ·exact jd6 _ _ _
   ·have hkf : jbg code.length (d' - jan op + ja6 op) ⟨dm1, wk1, er1⟩ (a + 1) = some ⟨dm1, wk1, er1 || decide (d2 ≠ d' - jan op + ja6 op)⟩ := by unfold jbg; rw [if_neg hge]; simp only; rw [hdk]
    obtain ⟨q1, q2, q3⟩ := jaA f2 hk0 ⟨by simp only; omega, by simp only; omega⟩ hkf
    rw [hkf] at hF
    simp only at hF
    conv => whnf
    rw [decide_eq_true (show (j : Int) < ((1 : Nat) : Int) by omega)];conv => whnf
    refine ⟨show (0 : Int) <= (j : Int) /\ (j : Int) < ((1 : Nat) : Int) from ⟨by omega, by omega⟩, ?_⟩;conv => whnf
    (generalize hrq : ja2 _ _ ([A.v (.int .i64 (a + 1))]) = rq; obtain rfl : rq = [intA (a + 1)] := hrq.symm.trans ((by rw [hj0]; unfold ja2; rfl)); clear hrq; conv => whnf)
    rw [decide_eq_false hge];conv => whnf
    refine jaa _ ?_;conv => whnf
    refine jar hdk ?_;conv => whnf
    rcases (show d2 = d' - jan op + ja6 op ∨ d2 ≠ d' - jan op + ja6 op by omega) with heq | heq
    ·rw [decide_eq_true heq];rw [decide_eq_false (fun h => h heq), Bool.or_false] at hF q1;conv => whnf
     refine ⟨show lo .i64 <= (j : Int) + 1 /\ (j : Int) + 1 <= hi .i64 from jal (by omega), ?_⟩;conv => whnf
     refine ⟨(j + 1, ⟨dm1, wk1, er1⟩), ja1 [0, 1, 2] ?_, ⟨show j + 1 <= 1 by omega, q1, show _ + _ = _ + _ by simp only at q2 ⊢; omega, show _ <= _ by simp only at q3 ⊢; omega, hF⟩, show 1 - (j + 1) < 1 - j by omega⟩;conv => whnf
     repeat' constructor
    ·rw [decide_eq_false heq];rw [decide_eq_true heq, Bool.or_true] at hF q1;conv => whnf
     refine ⟨show lo .i64 <= (j : Int) + 1 /\ (j : Int) + 1 <= hi .i64 from jal (by omega), ?_⟩;conv => whnf
     refine ⟨(j + 1, ⟨dm1, wk1, true⟩), ja1 [0, 1, 2] ?_, ⟨show j + 1 <= 1 by omega, q1, show _ + _ = _ + _ by simp only at q2 ⊢; omega, show _ <= _ by simp only at q3 ⊢; omega, hF⟩, show 1 - (j + 1) < 1 - j by omega⟩;conv => whnf
     repeat' constructor
  ·rw [show [a + 1].drop j = [] by rw [hj0]; rfl] at hF;unfold jav at hF;rw [<- hF] at hR
   have hdl1 := jaH f2.rng f2.nd
   simp only at hdl1 hR
   conv => whnf
   rw [decide_eq_false (show ¬ (j : Int) < ((1 : Nat) : Int) by omega)];conv => whnf
   refine ⟨(m, ⟨dm1, wk1, er1⟩), ja1 [0, 1] ?_, ⟨f2, show wk1.length + (code.length - dm1.length) + 1 <= m by omega, show m <= code.length + 1 by omega, hR⟩, show m < m + 1 by omega⟩;conv => whnf
   repeat' constructor
 rw [decide_eq_false hb1] at hR ⊢;conv => whnf
 by_cases hb2 : 16 < d' - jan op + ja6 op
 ·rw [decide_eq_true hb2] at hR ⊢;rw [Bool.or_true, Bool.or_true] at hR;conv => whnf
  unfold nxI at hR hnn
  simp only at hR hnn
  by_cases hc1 : op = 23
  ·rw [decide_eq_true hc1];rw [if_pos hc1] at hR hnn;unfold jav at hR
   have hF := hR
   simp only at hF
   conv => whnf
   refine ja3 [2, 5, 6, 7, 8, 88, 89, 90] ?_;conv => whnf
   refine jad (fun _ : Unit => []) (fun _ => [pgL code e du vo]) (fun _ => flR dm pre) (fun _ => True) (fun _ => 0) () ?_ trivial ?_
   ·repeat' constructor
   rintro ⟨⟩ -;conv => whnf
   refine ⟨(m, ⟨dm, pre, true⟩), ja1 [0, 1] ?_, ⟨⟨g1.rng, g1.nd, fun k hk => g1.wk k (List.mem_append_left _ hk), g1.dep⟩, show pre.length + (code.length - dm.length) + 1 <= m by omega, show m <= code.length + 1 by omega, hF⟩, show m < m + 1 by omega⟩;conv => whnf
   repeat' constructor
  rw [decide_eq_false hc1];rw [if_neg hc1] at hR hnn;conv => whnf
  by_cases hc2 : op = 15
  ·rw [decide_eq_true hc2];rw [if_pos hc2] at hR hnn;conv => whnf
   obtain ⟨F, hF⟩ : ∃ F, jav code.length (d' - jan op + ja6 op) [n] ⟨dm, pre, true⟩ = F := ⟨_, rfl⟩
   rw [hF] at hR;refine jb5 [2] ?_;conv => whnf
   refine ja3 [2, 5, 6, 8, 12, 88, 89] ?_;conv => whnf
   refine jad (fun x : Nat × Fs => [(7, intA (jp6 x.2.er)), (90, .v (.int .i64 x.1))]) (fun _ => [pgL code e du vo]) (fun x => flR x.2.dm x.2.wk ++ [.pub 1 1 ([n].map intA)])
    (fun x => x.1 <= 1 /\ jiA code.length x.2 /\ x.2.wk.length + dm.length = pre.length + x.2.dm.length /\ dm.length <= x.2.dm.length /\ jav code.length (d' - jan op + ja6 op) ([n].drop x.1) x.2 = F) (fun x => 1 - x.1) (0, ⟨dm, pre, true⟩) ?_ ⟨Nat.zero_le _, ⟨g1.rng, g1.nd, fun k hk => g1.wk k (List.mem_append_left _ hk), g1.dep⟩, rfl, Nat.le_refl _, hF⟩ ?_
   ·repeat' constructor
   clear hF;rintro ⟨j, dm1, wk1, er1⟩ ⟨f1, f2, f3, f4, hF⟩
   simp only at f1 f2 f3 f4 hF
   rcases (show j = 0 ∨ j = 1 by omega) with hj0 | hj0
   ·have hdr : [n].drop j = (n) :: [n].drop (j + 1) := by rw [hj0]; rfl
    rw [hdr] at hF;unfold jav at hF
    have hk0 : 0 <= n := hnn _ (by simp)
    have hdl1 := jaH f2.rng f2.nd
    simp only at hdl1
    by_cases hge : (code.length : Int) <= n
    ·unfold jbg at hF;rw [if_pos hge] at hF;rw [<- hF] at hR;conv => whnf
     rw [decide_eq_true (show (j : Int) < ((1 : Nat) : Int) by omega)];conv => whnf
     refine ⟨show (0 : Int) <= (j : Int) /\ (j : Int) < ((1 : Nat) : Int) from ⟨by omega, by omega⟩, ?_⟩;conv => whnf
     (generalize hrq : ja2 _ _ ([A.v (.int .i64 n)]) = rq; obtain rfl : rq = [intA (n)] := hrq.symm.trans ((by rw [hj0]; unfold ja2; rfl)); clear hrq; conv => whnf)
     rw [decide_eq_true hge];conv => whnf
     rw [<- hR]; rfl
    rcases jaR (dF dm1 (n)) with hdk | ⟨d2, hdk⟩
    ·have hkf : jbg code.length (d' - jan op + ja6 op) ⟨dm1, wk1, er1⟩ (n) = some ⟨dm1 ++ [(n, d' - jan op + ja6 op)], wk1 ++ [n], er1⟩ := by unfold jbg; rw [if_neg hge]; simp only; rw [hdk]
     obtain ⟨q1, q2, q3⟩ := jaA f2 hk0 ⟨by simp only; omega, by simp only; omega⟩ hkf
     rw [hkf] at hF
     simp only at hF
     conv => whnf
     rw [decide_eq_true (show (j : Int) < ((1 : Nat) : Int) by omega)];conv => whnf
     refine ⟨show (0 : Int) <= (j : Int) /\ (j : Int) < ((1 : Nat) : Int) from ⟨by omega, by omega⟩, ?_⟩;conv => whnf
     (generalize hrq : ja2 _ _ ([A.v (.int .i64 n)]) = rq; obtain rfl : rq = [intA (n)] := hrq.symm.trans ((by rw [hj0]; unfold ja2; rfl)); clear hrq; conv => whnf)
     rw [decide_eq_false hge];conv => whnf
     refine jaa _ ?_;conv => whnf
     refine jaD hdk ?_;conv => whnf
     refine jbN hdk ?_;conv => whnf
     refine ⟨⟨show wk1.length + 1 <= maxLen by unfold maxLen; omega, show (wk1.length + 1) * 8 <= 140737488355328 by omega⟩, ?_⟩;conv => whnf
     refine ⟨show lo .i64 <= (j : Int) + 1 /\ (j : Int) + 1 <= hi .i64 from jal (by omega), ?_⟩;conv => whnf
     refine ⟨(j + 1, ⟨dm1 ++ [(n, d' - jan op + ja6 op)], wk1 ++ [n], er1⟩), ja1 [0, 1, 2] ?_, ⟨show j + 1 <= 1 by omega, q1, show _ + _ = _ + _ by simp only at q2 ⊢; omega, show _ <= _ by simp only at q3 ⊢; omega, hF⟩, show 1 - (j + 1) < 1 - j by omega⟩;conv => whnf
     repeat' constructor
     ·exact jd9 _ _ _ _
     ·exact jd6 _ _ _
    ·have hkf : jbg code.length (d' - jan op + ja6 op) ⟨dm1, wk1, er1⟩ (n) = some ⟨dm1, wk1, er1 || decide (d2 ≠ d' - jan op + ja6 op)⟩ := by unfold jbg; rw [if_neg hge]; simp only; rw [hdk]
     obtain ⟨q1, q2, q3⟩ := jaA f2 hk0 ⟨by simp only; omega, by simp only; omega⟩ hkf
     rw [hkf] at hF
     simp only at hF
     conv => whnf
     rw [decide_eq_true (show (j : Int) < ((1 : Nat) : Int) by omega)];conv => whnf
     refine ⟨show (0 : Int) <= (j : Int) /\ (j : Int) < ((1 : Nat) : Int) from ⟨by omega, by omega⟩, ?_⟩;conv => whnf
     (generalize hrq : ja2 _ _ ([A.v (.int .i64 n)]) = rq; obtain rfl : rq = [intA (n)] := hrq.symm.trans ((by rw [hj0]; unfold ja2; rfl)); clear hrq; conv => whnf)
     rw [decide_eq_false hge];conv => whnf
     refine jaa _ ?_;conv => whnf
     refine jar hdk ?_;conv => whnf
     rcases (show d2 = d' - jan op + ja6 op ∨ d2 ≠ d' - jan op + ja6 op by omega) with heq | heq
     ·rw [decide_eq_true heq];rw [decide_eq_false (fun h => h heq), Bool.or_false] at hF q1;conv => whnf
      refine ⟨show lo .i64 <= (j : Int) + 1 /\ (j : Int) + 1 <= hi .i64 from jal (by omega), ?_⟩;conv => whnf
      refine ⟨(j + 1, ⟨dm1, wk1, er1⟩), ja1 [0, 1, 2] ?_, ⟨show j + 1 <= 1 by omega, q1, show _ + _ = _ + _ by simp only at q2 ⊢; omega, show _ <= _ by simp only at q3 ⊢; omega, hF⟩, show 1 - (j + 1) < 1 - j by omega⟩;conv => whnf
      repeat' constructor
     ·rw [decide_eq_false heq];rw [decide_eq_true heq, Bool.or_true] at hF q1;conv => whnf
      refine ⟨show lo .i64 <= (j : Int) + 1 /\ (j : Int) + 1 <= hi .i64 from jal (by omega), ?_⟩;conv => whnf
      refine ⟨(j + 1, ⟨dm1, wk1, true⟩), ja1 [0, 1, 2] ?_, ⟨show j + 1 <= 1 by omega, q1, show _ + _ = _ + _ by simp only at q2 ⊢; omega, show _ <= _ by simp only at q3 ⊢; omega, hF⟩, show 1 - (j + 1) < 1 - j by omega⟩;conv => whnf
      repeat' constructor
   ·rw [show [n].drop j = [] by rw [hj0]; rfl] at hF;unfold jav at hF;rw [<- hF] at hR
    have hdl1 := jaH f2.rng f2.nd
    simp only at hdl1 hR
    conv => whnf
    rw [decide_eq_false (show ¬ (j : Int) < ((1 : Nat) : Int) by omega)];conv => whnf
    refine ⟨(m, ⟨dm1, wk1, er1⟩), ja1 [0, 1] ?_, ⟨f2, show wk1.length + (code.length - dm1.length) + 1 <= m by omega, show m <= code.length + 1 by omega, hR⟩, show m < m + 1 by omega⟩;conv => whnf
    repeat' constructor
  rw [decide_eq_false hc2];rw [if_neg hc2] at hR hnn;conv => whnf
  by_cases hc3 : op = 16
  ·rw [decide_eq_true hc3];rw [if_pos hc3] at hR hnn;conv => whnf
   refine ⟨show lo .i64 <= a + 1 /\ a + 1 <= hi .i64 from jal (by omega), ?_⟩;conv => whnf
   obtain ⟨F, hF⟩ : ∃ F, jav code.length (d' - jan op + ja6 op) [a + 1, n] ⟨dm, pre, true⟩ = F := ⟨_, rfl⟩
   rw [hF] at hR;refine jb5 [2] ?_;conv => whnf
   refine ja3 [2, 5, 6, 8, 12, 88, 89] ?_;conv => whnf
   refine jad (fun x : Nat × Fs => [(7, intA (jp6 x.2.er)), (90, .v (.int .i64 x.1))]) (fun _ => [pgL code e du vo]) (fun x => flR x.2.dm x.2.wk ++ [.pub 1 2 ([a + 1, n].map intA)])
    (fun x => x.1 <= 2 /\ jiA code.length x.2 /\ x.2.wk.length + dm.length = pre.length + x.2.dm.length /\ dm.length <= x.2.dm.length /\ jav code.length (d' - jan op + ja6 op) ([a + 1, n].drop x.1) x.2 = F) (fun x => 2 - x.1) (0, ⟨dm, pre, true⟩) ?_ ⟨Nat.zero_le _, ⟨g1.rng, g1.nd, fun k hk => g1.wk k (List.mem_append_left _ hk), g1.dep⟩, rfl, Nat.le_refl _, hF⟩ ?_
   ·repeat' constructor
   clear hF;rintro ⟨j, dm1, wk1, er1⟩ ⟨f1, f2, f3, f4, hF⟩
   simp only at f1 f2 f3 f4 hF
   rcases (show j = 0 ∨ j = 1 ∨ j = 2 by omega) with hj0 | hj0 | hj0
   ·have hdr : [a + 1, n].drop j = (a + 1) :: [a + 1, n].drop (j + 1) := by rw [hj0]; rfl
    rw [hdr] at hF;unfold jav at hF
    have hk0 : 0 <= a + 1 := hnn _ (by simp)
    have hdl1 := jaH f2.rng f2.nd
    simp only at hdl1
    by_cases hge : (code.length : Int) <= a + 1
    ·unfold jbg at hF;rw [if_pos hge] at hF;rw [<- hF] at hR;conv => whnf
     rw [decide_eq_true (show (j : Int) < ((2 : Nat) : Int) by omega)];conv => whnf
     refine ⟨show (0 : Int) <= (j : Int) /\ (j : Int) < ((2 : Nat) : Int) from ⟨by omega, by omega⟩, ?_⟩;conv => whnf
     (generalize hrq : ja2 _ _ ([A.v (.int .i64 (a + 1)), A.v (.int .i64 n)]) = rq; obtain rfl : rq = [intA (a + 1)] := hrq.symm.trans ((by rw [hj0]; unfold ja2; rfl)); clear hrq; conv => whnf)
     rw [decide_eq_true hge];conv => whnf
     rw [<- hR]; rfl
    rcases jaR (dF dm1 (a + 1)) with hdk | ⟨d2, hdk⟩
    ·have hkf : jbg code.length (d' - jan op + ja6 op) ⟨dm1, wk1, er1⟩ (a + 1) = some ⟨dm1 ++ [(a + 1, d' - jan op + ja6 op)], wk1 ++ [a + 1], er1⟩ := by unfold jbg; rw [if_neg hge]; simp only; rw [hdk]
     obtain ⟨q1, q2, q3⟩ := jaA f2 hk0 ⟨by simp only; omega, by simp only; omega⟩ hkf
     rw [hkf] at hF
     simp only at hF
     conv => whnf
     rw [decide_eq_true (show (j : Int) < ((2 : Nat) : Int) by omega)];conv => whnf
     refine ⟨show (0 : Int) <= (j : Int) /\ (j : Int) < ((2 : Nat) : Int) from ⟨by omega, by omega⟩, ?_⟩;conv => whnf
     (generalize hrq : ja2 _ _ ([A.v (.int .i64 (a + 1)), A.v (.int .i64 n)]) = rq; obtain rfl : rq = [intA (a + 1)] := hrq.symm.trans ((by rw [hj0]; unfold ja2; rfl)); clear hrq; conv => whnf)
     rw [decide_eq_false hge];conv => whnf
     refine jaa _ ?_;conv => whnf
     refine jaD hdk ?_;conv => whnf
     refine jbN hdk ?_;conv => whnf
     refine ⟨⟨show wk1.length + 1 <= maxLen by unfold maxLen; omega, show (wk1.length + 1) * 8 <= 140737488355328 by omega⟩, ?_⟩;conv => whnf
     refine ⟨show lo .i64 <= (j : Int) + 1 /\ (j : Int) + 1 <= hi .i64 from jal (by omega), ?_⟩;conv => whnf
     refine ⟨(j + 1, ⟨dm1 ++ [(a + 1, d' - jan op + ja6 op)], wk1 ++ [a + 1], er1⟩), ja1 [0, 1, 2] ?_, ⟨show j + 1 <= 2 by omega, q1, show _ + _ = _ + _ by simp only at q2 ⊢; omega, show _ <= _ by simp only at q3 ⊢; omega, hF⟩, show 2 - (j + 1) < 2 - j by omega⟩;conv => whnf
     repeat' constructor
     ·exact jd9 _ _ _ _
     ·exact jd6 _ _ _
    ·have hkf : jbg code.length (d' - jan op + ja6 op) ⟨dm1, wk1, er1⟩ (a + 1) = some ⟨dm1, wk1, er1 || decide (d2 ≠ d' - jan op + ja6 op)⟩ := by unfold jbg; rw [if_neg hge]; simp only; rw [hdk]
     obtain ⟨q1, q2, q3⟩ := jaA f2 hk0 ⟨by simp only; omega, by simp only; omega⟩ hkf
     rw [hkf] at hF
     simp only at hF
     conv => whnf
     rw [decide_eq_true (show (j : Int) < ((2 : Nat) : Int) by omega)];conv => whnf
     refine ⟨show (0 : Int) <= (j : Int) /\ (j : Int) < ((2 : Nat) : Int) from ⟨by omega, by omega⟩, ?_⟩;conv => whnf
     (generalize hrq : ja2 _ _ ([A.v (.int .i64 (a + 1)), A.v (.int .i64 n)]) = rq; obtain rfl : rq = [intA (a + 1)] := hrq.symm.trans ((by rw [hj0]; unfold ja2; rfl)); clear hrq; conv => whnf)
     rw [decide_eq_false hge];conv => whnf
     refine jaa _ ?_;conv => whnf
     refine jar hdk ?_;conv => whnf
     rcases (show d2 = d' - jan op + ja6 op ∨ d2 ≠ d' - jan op + ja6 op by omega) with heq | heq
     ·rw [decide_eq_true heq];rw [decide_eq_false (fun h => h heq), Bool.or_false] at hF q1;conv => whnf
      refine ⟨show lo .i64 <= (j : Int) + 1 /\ (j : Int) + 1 <= hi .i64 from jal (by omega), ?_⟩;conv => whnf
      refine ⟨(j + 1, ⟨dm1, wk1, er1⟩), ja1 [0, 1, 2] ?_, ⟨show j + 1 <= 2 by omega, q1, show _ + _ = _ + _ by simp only at q2 ⊢; omega, show _ <= _ by simp only at q3 ⊢; omega, hF⟩, show 2 - (j + 1) < 2 - j by omega⟩;conv => whnf
      repeat' constructor
     ·rw [decide_eq_false heq];rw [decide_eq_true heq, Bool.or_true] at hF q1;conv => whnf
      refine ⟨show lo .i64 <= (j : Int) + 1 /\ (j : Int) + 1 <= hi .i64 from jal (by omega), ?_⟩;conv => whnf
      refine ⟨(j + 1, ⟨dm1, wk1, true⟩), ja1 [0, 1, 2] ?_, ⟨show j + 1 <= 2 by omega, q1, show _ + _ = _ + _ by simp only at q2 ⊢; omega, show _ <= _ by simp only at q3 ⊢; omega, hF⟩, show 2 - (j + 1) < 2 - j by omega⟩;conv => whnf
      repeat' constructor
   ·have hdr : [a + 1, n].drop j = (n) :: [a + 1, n].drop (j + 1) := by rw [hj0]; rfl
    rw [hdr] at hF;unfold jav at hF
    have hk0 : 0 <= n := hnn _ (by simp)
    have hdl1 := jaH f2.rng f2.nd
    simp only at hdl1
    by_cases hge : (code.length : Int) <= n
    ·unfold jbg at hF;rw [if_pos hge] at hF;rw [<- hF] at hR;conv => whnf
     rw [decide_eq_true (show (j : Int) < ((2 : Nat) : Int) by omega)];conv => whnf
     refine ⟨show (0 : Int) <= (j : Int) /\ (j : Int) < ((2 : Nat) : Int) from ⟨by omega, by omega⟩, ?_⟩;conv => whnf
     (generalize hrq : ja2 _ _ ([A.v (.int .i64 (a + 1)), A.v (.int .i64 n)]) = rq; obtain rfl : rq = [intA (n)] := hrq.symm.trans ((by rw [hj0]; unfold ja2; rfl)); clear hrq; conv => whnf)
     rw [decide_eq_true hge];conv => whnf
     rw [<- hR]; rfl
    rcases jaR (dF dm1 (n)) with hdk | ⟨d2, hdk⟩
    ·have hkf : jbg code.length (d' - jan op + ja6 op) ⟨dm1, wk1, er1⟩ (n) = some ⟨dm1 ++ [(n, d' - jan op + ja6 op)], wk1 ++ [n], er1⟩ := by unfold jbg; rw [if_neg hge]; simp only; rw [hdk]
     obtain ⟨q1, q2, q3⟩ := jaA f2 hk0 ⟨by simp only; omega, by simp only; omega⟩ hkf
     rw [hkf] at hF
     simp only at hF
     conv => whnf
     rw [decide_eq_true (show (j : Int) < ((2 : Nat) : Int) by omega)];conv => whnf
     refine ⟨show (0 : Int) <= (j : Int) /\ (j : Int) < ((2 : Nat) : Int) from ⟨by omega, by omega⟩, ?_⟩;conv => whnf
     (generalize hrq : ja2 _ _ ([A.v (.int .i64 (a + 1)), A.v (.int .i64 n)]) = rq; obtain rfl : rq = [intA (n)] := hrq.symm.trans ((by rw [hj0]; unfold ja2; rfl)); clear hrq; conv => whnf)
     rw [decide_eq_false hge];conv => whnf
     refine jaa _ ?_;conv => whnf
     refine jaD hdk ?_;conv => whnf
     refine jbN hdk ?_;conv => whnf
     refine ⟨⟨show wk1.length + 1 <= maxLen by unfold maxLen; omega, show (wk1.length + 1) * 8 <= 140737488355328 by omega⟩, ?_⟩;conv => whnf
     refine ⟨show lo .i64 <= (j : Int) + 1 /\ (j : Int) + 1 <= hi .i64 from jal (by omega), ?_⟩;conv => whnf
     refine ⟨(j + 1, ⟨dm1 ++ [(n, d' - jan op + ja6 op)], wk1 ++ [n], er1⟩), ja1 [0, 1, 2] ?_, ⟨show j + 1 <= 2 by omega, q1, show _ + _ = _ + _ by simp only at q2 ⊢; omega, show _ <= _ by simp only at q3 ⊢; omega, hF⟩, show 2 - (j + 1) < 2 - j by omega⟩;conv => whnf
     repeat' constructor
     ·exact jd9 _ _ _ _
     ·exact jd6 _ _ _
    ·have hkf : jbg code.length (d' - jan op + ja6 op) ⟨dm1, wk1, er1⟩ (n) = some ⟨dm1, wk1, er1 || decide (d2 ≠ d' - jan op + ja6 op)⟩ := by unfold jbg; rw [if_neg hge]; simp only; rw [hdk]
     obtain ⟨q1, q2, q3⟩ := jaA f2 hk0 ⟨by simp only; omega, by simp only; omega⟩ hkf
     rw [hkf] at hF
     simp only at hF
     conv => whnf
     rw [decide_eq_true (show (j : Int) < ((2 : Nat) : Int) by omega)];conv => whnf
     refine ⟨show (0 : Int) <= (j : Int) /\ (j : Int) < ((2 : Nat) : Int) from ⟨by omega, by omega⟩, ?_⟩;conv => whnf
     (generalize hrq : ja2 _ _ ([A.v (.int .i64 (a + 1)), A.v (.int .i64 n)]) = rq; obtain rfl : rq = [intA (n)] := hrq.symm.trans ((by rw [hj0]; unfold ja2; rfl)); clear hrq; conv => whnf)
     rw [decide_eq_false hge];conv => whnf
     refine jaa _ ?_;conv => whnf
     refine jar hdk ?_;conv => whnf
     rcases (show d2 = d' - jan op + ja6 op ∨ d2 ≠ d' - jan op + ja6 op by omega) with heq | heq
     ·rw [decide_eq_true heq];rw [decide_eq_false (fun h => h heq), Bool.or_false] at hF q1;conv => whnf
      refine ⟨show lo .i64 <= (j : Int) + 1 /\ (j : Int) + 1 <= hi .i64 from jal (by omega), ?_⟩;conv => whnf
      refine ⟨(j + 1, ⟨dm1, wk1, er1⟩), ja1 [0, 1, 2] ?_, ⟨show j + 1 <= 2 by omega, q1, show _ + _ = _ + _ by simp only at q2 ⊢; omega, show _ <= _ by simp only at q3 ⊢; omega, hF⟩, show 2 - (j + 1) < 2 - j by omega⟩;conv => whnf
      repeat' constructor
     ·rw [decide_eq_false heq];rw [decide_eq_true heq, Bool.or_true] at hF q1;conv => whnf
      refine ⟨show lo .i64 <= (j : Int) + 1 /\ (j : Int) + 1 <= hi .i64 from jal (by omega), ?_⟩;conv => whnf
      refine ⟨(j + 1, ⟨dm1, wk1, true⟩), ja1 [0, 1, 2] ?_, ⟨show j + 1 <= 2 by omega, q1, show _ + _ = _ + _ by simp only at q2 ⊢; omega, show _ <= _ by simp only at q3 ⊢; omega, hF⟩, show 2 - (j + 1) < 2 - j by omega⟩;conv => whnf
      repeat' constructor
   ·rw [show [a + 1, n].drop j = [] by rw [hj0]; rfl] at hF;unfold jav at hF;rw [<- hF] at hR
    have hdl1 := jaH f2.rng f2.nd
    simp only at hdl1 hR
    conv => whnf
    rw [decide_eq_false (show ¬ (j : Int) < ((2 : Nat) : Int) by omega)];conv => whnf
    refine ⟨(m, ⟨dm1, wk1, er1⟩), ja1 [0, 1] ?_, ⟨f2, show wk1.length + (code.length - dm1.length) + 1 <= m by omega, show m <= code.length + 1 by omega, hR⟩, show m < m + 1 by omega⟩;conv => whnf
    repeat' constructor
  rw [decide_eq_false hc3];rw [if_neg hc3] at hR hnn;conv => whnf
  refine ⟨show lo .i64 <= a + 1 /\ a + 1 <= hi .i64 from jal (by omega), ?_⟩;conv => whnf
  obtain ⟨F, hF⟩ : ∃ F, jav code.length (d' - jan op + ja6 op) [a + 1] ⟨dm, pre, true⟩ = F := ⟨_, rfl⟩
  rw [hF] at hR;refine jb5 [2] ?_;conv => whnf
  refine ja3 [2, 5, 6, 8, 12, 88, 89] ?_;conv => whnf
  refine jad (fun x : Nat × Fs => [(7, intA (jp6 x.2.er)), (90, .v (.int .i64 x.1))]) (fun _ => [pgL code e du vo]) (fun x => flR x.2.dm x.2.wk ++ [.pub 1 1 ([a + 1].map intA)])
   (fun x => x.1 <= 1 /\ jiA code.length x.2 /\ x.2.wk.length + dm.length = pre.length + x.2.dm.length /\ dm.length <= x.2.dm.length /\ jav code.length (d' - jan op + ja6 op) ([a + 1].drop x.1) x.2 = F) (fun x => 1 - x.1) (0, ⟨dm, pre, true⟩) ?_ ⟨Nat.zero_le _, ⟨g1.rng, g1.nd, fun k hk => g1.wk k (List.mem_append_left _ hk), g1.dep⟩, rfl, Nat.le_refl _, hF⟩ ?_
  ·repeat' constructor
  clear hF;rintro ⟨j, dm1, wk1, er1⟩ ⟨f1, f2, f3, f4, hF⟩
  simp only at f1 f2 f3 f4 hF
  rcases (show j = 0 ∨ j = 1 by omega) with hj0 | hj0
  ·have hdr : [a + 1].drop j = (a + 1) :: [a + 1].drop (j + 1) := by rw [hj0]; rfl
   rw [hdr] at hF;unfold jav at hF
   have hk0 : 0 <= a + 1 := hnn _ (by simp)
   have hdl1 := jaH f2.rng f2.nd
   simp only at hdl1
   by_cases hge : (code.length : Int) <= a + 1
   ·unfold jbg at hF;rw [if_pos hge] at hF;rw [<- hF] at hR;conv => whnf
    rw [decide_eq_true (show (j : Int) < ((1 : Nat) : Int) by omega)];conv => whnf
    refine ⟨show (0 : Int) <= (j : Int) /\ (j : Int) < ((1 : Nat) : Int) from ⟨by omega, by omega⟩, ?_⟩;conv => whnf
    (generalize hrq : ja2 _ _ ([A.v (.int .i64 (a + 1))]) = rq; obtain rfl : rq = [intA (a + 1)] := hrq.symm.trans ((by rw [hj0]; unfold ja2; rfl)); clear hrq; conv => whnf)
    rw [decide_eq_true hge];conv => whnf
    rw [<- hR]; rfl
   rcases jaR (dF dm1 (a + 1)) with hdk | ⟨d2, hdk⟩
   ·have hkf : jbg code.length (d' - jan op + ja6 op) ⟨dm1, wk1, er1⟩ (a + 1) = some ⟨dm1 ++ [(a + 1, d' - jan op + ja6 op)], wk1 ++ [a + 1], er1⟩ := by unfold jbg; rw [if_neg hge]; simp only; rw [hdk]
    obtain ⟨q1, q2, q3⟩ := jaA f2 hk0 ⟨by simp only; omega, by simp only; omega⟩ hkf
    rw [hkf] at hF
    simp only at hF
    conv => whnf
    rw [decide_eq_true (show (j : Int) < ((1 : Nat) : Int) by omega)];conv => whnf
    refine ⟨show (0 : Int) <= (j : Int) /\ (j : Int) < ((1 : Nat) : Int) from ⟨by omega, by omega⟩, ?_⟩;conv => whnf
    (generalize hrq : ja2 _ _ ([A.v (.int .i64 (a + 1))]) = rq; obtain rfl : rq = [intA (a + 1)] := hrq.symm.trans ((by rw [hj0]; unfold ja2; rfl)); clear hrq; conv => whnf)
    rw [decide_eq_false hge];conv => whnf
    refine jaa _ ?_;conv => whnf
    refine jaD hdk ?_;conv => whnf
    refine jbN hdk ?_;conv => whnf
    refine ⟨⟨show wk1.length + 1 <= maxLen by unfold maxLen; omega, show (wk1.length + 1) * 8 <= 140737488355328 by omega⟩, ?_⟩;conv => whnf
    refine ⟨show lo .i64 <= (j : Int) + 1 /\ (j : Int) + 1 <= hi .i64 from jal (by omega), ?_⟩;conv => whnf
    refine ⟨(j + 1, ⟨dm1 ++ [(a + 1, d' - jan op + ja6 op)], wk1 ++ [a + 1], er1⟩), ja1 [0, 1, 2] ?_, ⟨show j + 1 <= 1 by omega, q1, show _ + _ = _ + _ by simp only at q2 ⊢; omega, show _ <= _ by simp only at q3 ⊢; omega, hF⟩, show 1 - (j + 1) < 1 - j by omega⟩;conv => whnf
    repeat' constructor
    ·exact jd9 _ _ _ _
    ·exact jd6 _ _ _
   ·have hkf : jbg code.length (d' - jan op + ja6 op) ⟨dm1, wk1, er1⟩ (a + 1) = some ⟨dm1, wk1, er1 || decide (d2 ≠ d' - jan op + ja6 op)⟩ := by unfold jbg; rw [if_neg hge]; simp only; rw [hdk]
    obtain ⟨q1, q2, q3⟩ := jaA f2 hk0 ⟨by simp only; omega, by simp only; omega⟩ hkf
    rw [hkf] at hF
    simp only at hF
    conv => whnf
    rw [decide_eq_true (show (j : Int) < ((1 : Nat) : Int) by omega)];conv => whnf
    refine ⟨show (0 : Int) <= (j : Int) /\ (j : Int) < ((1 : Nat) : Int) from ⟨by omega, by omega⟩, ?_⟩;conv => whnf
    (generalize hrq : ja2 _ _ ([A.v (.int .i64 (a + 1))]) = rq; obtain rfl : rq = [intA (a + 1)] := hrq.symm.trans ((by rw [hj0]; unfold ja2; rfl)); clear hrq; conv => whnf)
    rw [decide_eq_false hge];conv => whnf
    refine jaa _ ?_;conv => whnf
    refine jar hdk ?_;conv => whnf
    rcases (show d2 = d' - jan op + ja6 op ∨ d2 ≠ d' - jan op + ja6 op by omega) with heq | heq
    ·rw [decide_eq_true heq];rw [decide_eq_false (fun h => h heq), Bool.or_false] at hF q1;conv => whnf
     refine ⟨show lo .i64 <= (j : Int) + 1 /\ (j : Int) + 1 <= hi .i64 from jal (by omega), ?_⟩;conv => whnf
     refine ⟨(j + 1, ⟨dm1, wk1, er1⟩), ja1 [0, 1, 2] ?_, ⟨show j + 1 <= 1 by omega, q1, show _ + _ = _ + _ by simp only at q2 ⊢; omega, show _ <= _ by simp only at q3 ⊢; omega, hF⟩, show 1 - (j + 1) < 1 - j by omega⟩;conv => whnf
     repeat' constructor
    ·rw [decide_eq_false heq];rw [decide_eq_true heq, Bool.or_true] at hF q1;conv => whnf
     refine ⟨show lo .i64 <= (j : Int) + 1 /\ (j : Int) + 1 <= hi .i64 from jal (by omega), ?_⟩;conv => whnf
     refine ⟨(j + 1, ⟨dm1, wk1, true⟩), ja1 [0, 1, 2] ?_, ⟨show j + 1 <= 1 by omega, q1, show _ + _ = _ + _ by simp only at q2 ⊢; omega, show _ <= _ by simp only at q3 ⊢; omega, hF⟩, show 1 - (j + 1) < 1 - j by omega⟩;conv => whnf
     repeat' constructor
  ·rw [show [a + 1].drop j = [] by rw [hj0]; rfl] at hF;unfold jav at hF;rw [<- hF] at hR
   have hdl1 := jaH f2.rng f2.nd
   simp only at hdl1 hR
   conv => whnf
   rw [decide_eq_false (show ¬ (j : Int) < ((1 : Nat) : Int) by omega)];conv => whnf
   refine ⟨(m, ⟨dm1, wk1, er1⟩), ja1 [0, 1] ?_, ⟨f2, show wk1.length + (code.length - dm1.length) + 1 <= m by omega, show m <= code.length + 1 by omega, hR⟩, show m < m + 1 by omega⟩;conv => whnf
   repeat' constructor
 rw [decide_eq_false hb2] at hR ⊢;rw [Bool.or_self, Bool.or_false] at hR;conv => whnf
 unfold nxI at hR hnn
 simp only at hR hnn
 by_cases hc1 : op = 23
 ·rw [decide_eq_true hc1];rw [if_pos hc1] at hR hnn;unfold jav at hR
  have hF := hR
  simp only at hF
  conv => whnf
  refine ja3 [2, 5, 6, 7, 8, 88, 89, 90] ?_;conv => whnf
  refine jad (fun _ : Unit => []) (fun _ => [pgL code e du vo]) (fun _ => flR dm pre) (fun _ => True) (fun _ => 0) () ?_ trivial ?_
  ·repeat' constructor
  rintro ⟨⟩ -;conv => whnf
  refine ⟨(m, ⟨dm, pre, er⟩), ja1 [0, 1] ?_, ⟨⟨g1.rng, g1.nd, fun k hk => g1.wk k (List.mem_append_left _ hk), g1.dep⟩, show pre.length + (code.length - dm.length) + 1 <= m by omega, show m <= code.length + 1 by omega, hF⟩, show m < m + 1 by omega⟩;conv => whnf
  repeat' constructor
 rw [decide_eq_false hc1];rw [if_neg hc1] at hR hnn;conv => whnf
 by_cases hc2 : op = 15
 ·rw [decide_eq_true hc2];rw [if_pos hc2] at hR hnn;conv => whnf
  obtain ⟨F, hF⟩ : ∃ F, jav code.length (d' - jan op + ja6 op) [n] ⟨dm, pre, er⟩ = F := ⟨_, rfl⟩
  rw [hF] at hR;refine jb5 [2] ?_;conv => whnf
  refine ja3 [2, 5, 6, 8, 12, 88, 89] ?_;conv => whnf
  refine jad (fun x : Nat × Fs => [(7, intA (jp6 x.2.er)), (90, .v (.int .i64 x.1))]) (fun _ => [pgL code e du vo]) (fun x => flR x.2.dm x.2.wk ++ [.pub 1 1 ([n].map intA)])
   (fun x => x.1 <= 1 /\ jiA code.length x.2 /\ x.2.wk.length + dm.length = pre.length + x.2.dm.length /\ dm.length <= x.2.dm.length /\ jav code.length (d' - jan op + ja6 op) ([n].drop x.1) x.2 = F) (fun x => 1 - x.1) (0, ⟨dm, pre, er⟩) ?_ ⟨Nat.zero_le _, ⟨g1.rng, g1.nd, fun k hk => g1.wk k (List.mem_append_left _ hk), g1.dep⟩, rfl, Nat.le_refl _, hF⟩ ?_
  ·repeat' constructor
  clear hF;rintro ⟨j, dm1, wk1, er1⟩ ⟨f1, f2, f3, f4, hF⟩
  simp only at f1 f2 f3 f4 hF
  rcases (show j = 0 ∨ j = 1 by omega) with hj0 | hj0
  ·have hdr : [n].drop j = (n) :: [n].drop (j + 1) := by rw [hj0]; rfl
   rw [hdr] at hF;unfold jav at hF
   have hk0 : 0 <= n := hnn _ (by simp)
   have hdl1 := jaH f2.rng f2.nd
   simp only at hdl1
   by_cases hge : (code.length : Int) <= n
   ·unfold jbg at hF;rw [if_pos hge] at hF;rw [<- hF] at hR;conv => whnf
    rw [decide_eq_true (show (j : Int) < ((1 : Nat) : Int) by omega)];conv => whnf
    refine ⟨show (0 : Int) <= (j : Int) /\ (j : Int) < ((1 : Nat) : Int) from ⟨by omega, by omega⟩, ?_⟩;conv => whnf
    (generalize hrq : ja2 _ _ ([A.v (.int .i64 n)]) = rq; obtain rfl : rq = [intA (n)] := hrq.symm.trans ((by rw [hj0]; unfold ja2; rfl)); clear hrq; conv => whnf)
    rw [decide_eq_true hge];conv => whnf
    rw [<- hR]; rfl
   rcases jaR (dF dm1 (n)) with hdk | ⟨d2, hdk⟩
   ·have hkf : jbg code.length (d' - jan op + ja6 op) ⟨dm1, wk1, er1⟩ (n) = some ⟨dm1 ++ [(n, d' - jan op + ja6 op)], wk1 ++ [n], er1⟩ := by unfold jbg; rw [if_neg hge]; simp only; rw [hdk]
    obtain ⟨q1, q2, q3⟩ := jaA f2 hk0 ⟨by simp only; omega, by simp only; omega⟩ hkf
    rw [hkf] at hF
    simp only at hF
    conv => whnf
    rw [decide_eq_true (show (j : Int) < ((1 : Nat) : Int) by omega)];conv => whnf
    refine ⟨show (0 : Int) <= (j : Int) /\ (j : Int) < ((1 : Nat) : Int) from ⟨by omega, by omega⟩, ?_⟩;conv => whnf
    (generalize hrq : ja2 _ _ ([A.v (.int .i64 n)]) = rq; obtain rfl : rq = [intA (n)] := hrq.symm.trans ((by rw [hj0]; unfold ja2; rfl)); clear hrq; conv => whnf)
    rw [decide_eq_false hge];conv => whnf
    refine jaa _ ?_;conv => whnf
    refine jaD hdk ?_;conv => whnf
    refine jbN hdk ?_;conv => whnf
    refine ⟨⟨show wk1.length + 1 <= maxLen by unfold maxLen; omega, show (wk1.length + 1) * 8 <= 140737488355328 by omega⟩, ?_⟩;conv => whnf
    refine ⟨show lo .i64 <= (j : Int) + 1 /\ (j : Int) + 1 <= hi .i64 from jal (by omega), ?_⟩;conv => whnf
    refine ⟨(j + 1, ⟨dm1 ++ [(n, d' - jan op + ja6 op)], wk1 ++ [n], er1⟩), ja1 [0, 1, 2] ?_, ⟨show j + 1 <= 1 by omega, q1, show _ + _ = _ + _ by simp only at q2 ⊢; omega, show _ <= _ by simp only at q3 ⊢; omega, hF⟩, show 1 - (j + 1) < 1 - j by omega⟩;conv => whnf
    repeat' constructor
    ·exact jd9 _ _ _ _
    ·exact jd6 _ _ _
   ·have hkf : jbg code.length (d' - jan op + ja6 op) ⟨dm1, wk1, er1⟩ (n) = some ⟨dm1, wk1, er1 || decide (d2 ≠ d' - jan op + ja6 op)⟩ := by unfold jbg; rw [if_neg hge]; simp only; rw [hdk]
    obtain ⟨q1, q2, q3⟩ := jaA f2 hk0 ⟨by simp only; omega, by simp only; omega⟩ hkf
    rw [hkf] at hF
    simp only at hF
    conv => whnf
    rw [decide_eq_true (show (j : Int) < ((1 : Nat) : Int) by omega)];conv => whnf
    refine ⟨show (0 : Int) <= (j : Int) /\ (j : Int) < ((1 : Nat) : Int) from ⟨by omega, by omega⟩, ?_⟩;conv => whnf
    (generalize hrq : ja2 _ _ ([A.v (.int .i64 n)]) = rq; obtain rfl : rq = [intA (n)] := hrq.symm.trans ((by rw [hj0]; unfold ja2; rfl)); clear hrq; conv => whnf)
    rw [decide_eq_false hge];conv => whnf
    refine jaa _ ?_;conv => whnf
    refine jar hdk ?_;conv => whnf
    rcases (show d2 = d' - jan op + ja6 op ∨ d2 ≠ d' - jan op + ja6 op by omega) with heq | heq
    ·rw [decide_eq_true heq];rw [decide_eq_false (fun h => h heq), Bool.or_false] at hF q1;conv => whnf
     refine ⟨show lo .i64 <= (j : Int) + 1 /\ (j : Int) + 1 <= hi .i64 from jal (by omega), ?_⟩;conv => whnf
     refine ⟨(j + 1, ⟨dm1, wk1, er1⟩), ja1 [0, 1, 2] ?_, ⟨show j + 1 <= 1 by omega, q1, show _ + _ = _ + _ by simp only at q2 ⊢; omega, show _ <= _ by simp only at q3 ⊢; omega, hF⟩, show 1 - (j + 1) < 1 - j by omega⟩;conv => whnf
     repeat' constructor
    ·rw [decide_eq_false heq];rw [decide_eq_true heq, Bool.or_true] at hF q1;conv => whnf
     refine ⟨show lo .i64 <= (j : Int) + 1 /\ (j : Int) + 1 <= hi .i64 from jal (by omega), ?_⟩;conv => whnf
     refine ⟨(j + 1, ⟨dm1, wk1, true⟩), ja1 [0, 1, 2] ?_, ⟨show j + 1 <= 1 by omega, q1, show _ + _ = _ + _ by simp only at q2 ⊢; omega, show _ <= _ by simp only at q3 ⊢; omega, hF⟩, show 1 - (j + 1) < 1 - j by omega⟩;conv => whnf
     repeat' constructor
  ·rw [show [n].drop j = [] by rw [hj0]; rfl] at hF;unfold jav at hF;rw [<- hF] at hR
   have hdl1 := jaH f2.rng f2.nd
   simp only at hdl1 hR
   conv => whnf
   rw [decide_eq_false (show ¬ (j : Int) < ((1 : Nat) : Int) by omega)];conv => whnf
   refine ⟨(m, ⟨dm1, wk1, er1⟩), ja1 [0, 1] ?_, ⟨f2, show wk1.length + (code.length - dm1.length) + 1 <= m by omega, show m <= code.length + 1 by omega, hR⟩, show m < m + 1 by omega⟩;conv => whnf
   repeat' constructor
 rw [decide_eq_false hc2];rw [if_neg hc2] at hR hnn;conv => whnf
 by_cases hc3 : op = 16
 ·rw [decide_eq_true hc3];rw [if_pos hc3] at hR hnn;conv => whnf
  refine ⟨show lo .i64 <= a + 1 /\ a + 1 <= hi .i64 from jal (by omega), ?_⟩;conv => whnf
  obtain ⟨F, hF⟩ : ∃ F, jav code.length (d' - jan op + ja6 op) [a + 1, n] ⟨dm, pre, er⟩ = F := ⟨_, rfl⟩
  rw [hF] at hR;refine jb5 [2] ?_;conv => whnf
  refine ja3 [2, 5, 6, 8, 12, 88, 89] ?_;conv => whnf
  refine jad (fun x : Nat × Fs => [(7, intA (jp6 x.2.er)), (90, .v (.int .i64 x.1))]) (fun _ => [pgL code e du vo]) (fun x => flR x.2.dm x.2.wk ++ [.pub 1 2 ([a + 1, n].map intA)])
   (fun x => x.1 <= 2 /\ jiA code.length x.2 /\ x.2.wk.length + dm.length = pre.length + x.2.dm.length /\ dm.length <= x.2.dm.length /\ jav code.length (d' - jan op + ja6 op) ([a + 1, n].drop x.1) x.2 = F) (fun x => 2 - x.1) (0, ⟨dm, pre, er⟩) ?_ ⟨Nat.zero_le _, ⟨g1.rng, g1.nd, fun k hk => g1.wk k (List.mem_append_left _ hk), g1.dep⟩, rfl, Nat.le_refl _, hF⟩ ?_
  ·repeat' constructor
  clear hF;rintro ⟨j, dm1, wk1, er1⟩ ⟨f1, f2, f3, f4, hF⟩
  simp only at f1 f2 f3 f4 hF
  rcases (show j = 0 ∨ j = 1 ∨ j = 2 by omega) with hj0 | hj0 | hj0
  ·have hdr : [a + 1, n].drop j = (a + 1) :: [a + 1, n].drop (j + 1) := by rw [hj0]; rfl
   rw [hdr] at hF;unfold jav at hF
   have hk0 : 0 <= a + 1 := hnn _ (by simp)
   have hdl1 := jaH f2.rng f2.nd
   simp only at hdl1
   by_cases hge : (code.length : Int) <= a + 1
   ·unfold jbg at hF;rw [if_pos hge] at hF;rw [<- hF] at hR;conv => whnf
    rw [decide_eq_true (show (j : Int) < ((2 : Nat) : Int) by omega)];conv => whnf
    refine ⟨show (0 : Int) <= (j : Int) /\ (j : Int) < ((2 : Nat) : Int) from ⟨by omega, by omega⟩, ?_⟩;conv => whnf
    (generalize hrq : ja2 _ _ ([A.v (.int .i64 (a + 1)), A.v (.int .i64 n)]) = rq; obtain rfl : rq = [intA (a + 1)] := hrq.symm.trans ((by rw [hj0]; unfold ja2; rfl)); clear hrq; conv => whnf)
    rw [decide_eq_true hge];conv => whnf
    rw [<- hR]; rfl
   rcases jaR (dF dm1 (a + 1)) with hdk | ⟨d2, hdk⟩
   ·have hkf : jbg code.length (d' - jan op + ja6 op) ⟨dm1, wk1, er1⟩ (a + 1) = some ⟨dm1 ++ [(a + 1, d' - jan op + ja6 op)], wk1 ++ [a + 1], er1⟩ := by unfold jbg; rw [if_neg hge]; simp only; rw [hdk]
    obtain ⟨q1, q2, q3⟩ := jaA f2 hk0 ⟨by simp only; omega, by simp only; omega⟩ hkf
    rw [hkf] at hF
    simp only at hF
    conv => whnf
    rw [decide_eq_true (show (j : Int) < ((2 : Nat) : Int) by omega)];conv => whnf
    refine ⟨show (0 : Int) <= (j : Int) /\ (j : Int) < ((2 : Nat) : Int) from ⟨by omega, by omega⟩, ?_⟩;conv => whnf
    (generalize hrq : ja2 _ _ ([A.v (.int .i64 (a + 1)), A.v (.int .i64 n)]) = rq; obtain rfl : rq = [intA (a + 1)] := hrq.symm.trans ((by rw [hj0]; unfold ja2; rfl)); clear hrq; conv => whnf)
    rw [decide_eq_false hge];conv => whnf
    refine jaa _ ?_;conv => whnf
    refine jaD hdk ?_;conv => whnf
    refine jbN hdk ?_;conv => whnf
    refine ⟨⟨show wk1.length + 1 <= maxLen by unfold maxLen; omega, show (wk1.length + 1) * 8 <= 140737488355328 by omega⟩, ?_⟩;conv => whnf
    refine ⟨show lo .i64 <= (j : Int) + 1 /\ (j : Int) + 1 <= hi .i64 from jal (by omega), ?_⟩;conv => whnf
    refine ⟨(j + 1, ⟨dm1 ++ [(a + 1, d' - jan op + ja6 op)], wk1 ++ [a + 1], er1⟩), ja1 [0, 1, 2] ?_, ⟨show j + 1 <= 2 by omega, q1, show _ + _ = _ + _ by simp only at q2 ⊢; omega, show _ <= _ by simp only at q3 ⊢; omega, hF⟩, show 2 - (j + 1) < 2 - j by omega⟩;conv => whnf
    repeat' constructor
    ·exact jd9 _ _ _ _
    ·exact jd6 _ _ _
   ·have hkf : jbg code.length (d' - jan op + ja6 op) ⟨dm1, wk1, er1⟩ (a + 1) = some ⟨dm1, wk1, er1 || decide (d2 ≠ d' - jan op + ja6 op)⟩ := by unfold jbg; rw [if_neg hge]; simp only; rw [hdk]
    obtain ⟨q1, q2, q3⟩ := jaA f2 hk0 ⟨by simp only; omega, by simp only; omega⟩ hkf
    rw [hkf] at hF
    simp only at hF
    conv => whnf
    rw [decide_eq_true (show (j : Int) < ((2 : Nat) : Int) by omega)];conv => whnf
    refine ⟨show (0 : Int) <= (j : Int) /\ (j : Int) < ((2 : Nat) : Int) from ⟨by omega, by omega⟩, ?_⟩;conv => whnf
    (generalize hrq : ja2 _ _ ([A.v (.int .i64 (a + 1)), A.v (.int .i64 n)]) = rq; obtain rfl : rq = [intA (a + 1)] := hrq.symm.trans ((by rw [hj0]; unfold ja2; rfl)); clear hrq; conv => whnf)
    rw [decide_eq_false hge];conv => whnf
    refine jaa _ ?_;conv => whnf
    refine jar hdk ?_;conv => whnf
    rcases (show d2 = d' - jan op + ja6 op ∨ d2 ≠ d' - jan op + ja6 op by omega) with heq | heq
    ·rw [decide_eq_true heq];rw [decide_eq_false (fun h => h heq), Bool.or_false] at hF q1;conv => whnf
     refine ⟨show lo .i64 <= (j : Int) + 1 /\ (j : Int) + 1 <= hi .i64 from jal (by omega), ?_⟩;conv => whnf
     refine ⟨(j + 1, ⟨dm1, wk1, er1⟩), ja1 [0, 1, 2] ?_, ⟨show j + 1 <= 2 by omega, q1, show _ + _ = _ + _ by simp only at q2 ⊢; omega, show _ <= _ by simp only at q3 ⊢; omega, hF⟩, show 2 - (j + 1) < 2 - j by omega⟩;conv => whnf
     repeat' constructor
    ·rw [decide_eq_false heq];rw [decide_eq_true heq, Bool.or_true] at hF q1;conv => whnf
     refine ⟨show lo .i64 <= (j : Int) + 1 /\ (j : Int) + 1 <= hi .i64 from jal (by omega), ?_⟩;conv => whnf
     refine ⟨(j + 1, ⟨dm1, wk1, true⟩), ja1 [0, 1, 2] ?_, ⟨show j + 1 <= 2 by omega, q1, show _ + _ = _ + _ by simp only at q2 ⊢; omega, show _ <= _ by simp only at q3 ⊢; omega, hF⟩, show 2 - (j + 1) < 2 - j by omega⟩;conv => whnf
     repeat' constructor
  ·have hdr : [a + 1, n].drop j = (n) :: [a + 1, n].drop (j + 1) := by rw [hj0]; rfl
   rw [hdr] at hF;unfold jav at hF
   have hk0 : 0 <= n := hnn _ (by simp)
   have hdl1 := jaH f2.rng f2.nd
   simp only at hdl1
   by_cases hge : (code.length : Int) <= n
   ·unfold jbg at hF;rw [if_pos hge] at hF;rw [<- hF] at hR;conv => whnf
    rw [decide_eq_true (show (j : Int) < ((2 : Nat) : Int) by omega)];conv => whnf
    refine ⟨show (0 : Int) <= (j : Int) /\ (j : Int) < ((2 : Nat) : Int) from ⟨by omega, by omega⟩, ?_⟩;conv => whnf
    (generalize hrq : ja2 _ _ ([A.v (.int .i64 (a + 1)), A.v (.int .i64 n)]) = rq; obtain rfl : rq = [intA (n)] := hrq.symm.trans ((by rw [hj0]; unfold ja2; rfl)); clear hrq; conv => whnf)
    rw [decide_eq_true hge];conv => whnf
    rw [<- hR]; rfl
   rcases jaR (dF dm1 (n)) with hdk | ⟨d2, hdk⟩
   ·have hkf : jbg code.length (d' - jan op + ja6 op) ⟨dm1, wk1, er1⟩ (n) = some ⟨dm1 ++ [(n, d' - jan op + ja6 op)], wk1 ++ [n], er1⟩ := by unfold jbg; rw [if_neg hge]; simp only; rw [hdk]
    obtain ⟨q1, q2, q3⟩ := jaA f2 hk0 ⟨by simp only; omega, by simp only; omega⟩ hkf
    rw [hkf] at hF
    simp only at hF
    conv => whnf
    rw [decide_eq_true (show (j : Int) < ((2 : Nat) : Int) by omega)];conv => whnf
    refine ⟨show (0 : Int) <= (j : Int) /\ (j : Int) < ((2 : Nat) : Int) from ⟨by omega, by omega⟩, ?_⟩;conv => whnf
    (generalize hrq : ja2 _ _ ([A.v (.int .i64 (a + 1)), A.v (.int .i64 n)]) = rq; obtain rfl : rq = [intA (n)] := hrq.symm.trans ((by rw [hj0]; unfold ja2; rfl)); clear hrq; conv => whnf)
    rw [decide_eq_false hge];conv => whnf
    refine jaa _ ?_;conv => whnf
    refine jaD hdk ?_;conv => whnf
    refine jbN hdk ?_;conv => whnf
    refine ⟨⟨show wk1.length + 1 <= maxLen by unfold maxLen; omega, show (wk1.length + 1) * 8 <= 140737488355328 by omega⟩, ?_⟩;conv => whnf
    refine ⟨show lo .i64 <= (j : Int) + 1 /\ (j : Int) + 1 <= hi .i64 from jal (by omega), ?_⟩;conv => whnf
    refine ⟨(j + 1, ⟨dm1 ++ [(n, d' - jan op + ja6 op)], wk1 ++ [n], er1⟩), ja1 [0, 1, 2] ?_, ⟨show j + 1 <= 2 by omega, q1, show _ + _ = _ + _ by simp only at q2 ⊢; omega, show _ <= _ by simp only at q3 ⊢; omega, hF⟩, show 2 - (j + 1) < 2 - j by omega⟩;conv => whnf
    repeat' constructor
    ·exact jd9 _ _ _ _
    ·exact jd6 _ _ _
   ·have hkf : jbg code.length (d' - jan op + ja6 op) ⟨dm1, wk1, er1⟩ (n) = some ⟨dm1, wk1, er1 || decide (d2 ≠ d' - jan op + ja6 op)⟩ := by unfold jbg; rw [if_neg hge]; simp only; rw [hdk]
    obtain ⟨q1, q2, q3⟩ := jaA f2 hk0 ⟨by simp only; omega, by simp only; omega⟩ hkf
    rw [hkf] at hF
    simp only at hF
    conv => whnf
    rw [decide_eq_true (show (j : Int) < ((2 : Nat) : Int) by omega)];conv => whnf
    refine ⟨show (0 : Int) <= (j : Int) /\ (j : Int) < ((2 : Nat) : Int) from ⟨by omega, by omega⟩, ?_⟩;conv => whnf
    (generalize hrq : ja2 _ _ ([A.v (.int .i64 (a + 1)), A.v (.int .i64 n)]) = rq; obtain rfl : rq = [intA (n)] := hrq.symm.trans ((by rw [hj0]; unfold ja2; rfl)); clear hrq; conv => whnf)
    rw [decide_eq_false hge];conv => whnf
    refine jaa _ ?_;conv => whnf
    refine jar hdk ?_;conv => whnf
    rcases (show d2 = d' - jan op + ja6 op ∨ d2 ≠ d' - jan op + ja6 op by omega) with heq | heq
    ·rw [decide_eq_true heq];rw [decide_eq_false (fun h => h heq), Bool.or_false] at hF q1;conv => whnf
     refine ⟨show lo .i64 <= (j : Int) + 1 /\ (j : Int) + 1 <= hi .i64 from jal (by omega), ?_⟩;conv => whnf
     refine ⟨(j + 1, ⟨dm1, wk1, er1⟩), ja1 [0, 1, 2] ?_, ⟨show j + 1 <= 2 by omega, q1, show _ + _ = _ + _ by simp only at q2 ⊢; omega, show _ <= _ by simp only at q3 ⊢; omega, hF⟩, show 2 - (j + 1) < 2 - j by omega⟩;conv => whnf
     repeat' constructor
    ·rw [decide_eq_false heq];rw [decide_eq_true heq, Bool.or_true] at hF q1;conv => whnf
     refine ⟨show lo .i64 <= (j : Int) + 1 /\ (j : Int) + 1 <= hi .i64 from jal (by omega), ?_⟩;conv => whnf
     refine ⟨(j + 1, ⟨dm1, wk1, true⟩), ja1 [0, 1, 2] ?_, ⟨show j + 1 <= 2 by omega, q1, show _ + _ = _ + _ by simp only at q2 ⊢; omega, show _ <= _ by simp only at q3 ⊢; omega, hF⟩, show 2 - (j + 1) < 2 - j by omega⟩;conv => whnf
     repeat' constructor
  ·rw [show [a + 1, n].drop j = [] by rw [hj0]; rfl] at hF;unfold jav at hF;rw [<- hF] at hR
   have hdl1 := jaH f2.rng f2.nd
   simp only at hdl1 hR
   conv => whnf
   rw [decide_eq_false (show ¬ (j : Int) < ((2 : Nat) : Int) by omega)];conv => whnf
   refine ⟨(m, ⟨dm1, wk1, er1⟩), ja1 [0, 1] ?_, ⟨f2, show wk1.length + (code.length - dm1.length) + 1 <= m by omega, show m <= code.length + 1 by omega, hR⟩, show m < m + 1 by omega⟩;conv => whnf
   repeat' constructor
 rw [decide_eq_false hc3];rw [if_neg hc3] at hR hnn;conv => whnf
 refine ⟨show lo .i64 <= a + 1 /\ a + 1 <= hi .i64 from jal (by omega), ?_⟩;conv => whnf
 obtain ⟨F, hF⟩ : ∃ F, jav code.length (d' - jan op + ja6 op) [a + 1] ⟨dm, pre, er⟩ = F := ⟨_, rfl⟩
 rw [hF] at hR;refine jb5 [2] ?_;conv => whnf
 refine ja3 [2, 5, 6, 8, 12, 88, 89] ?_;conv => whnf
 refine jad (fun x : Nat × Fs => [(7, intA (jp6 x.2.er)), (90, .v (.int .i64 x.1))]) (fun _ => [pgL code e du vo]) (fun x => flR x.2.dm x.2.wk ++ [.pub 1 1 ([a + 1].map intA)])
  (fun x => x.1 <= 1 /\ jiA code.length x.2 /\ x.2.wk.length + dm.length = pre.length + x.2.dm.length /\ dm.length <= x.2.dm.length /\ jav code.length (d' - jan op + ja6 op) ([a + 1].drop x.1) x.2 = F) (fun x => 1 - x.1) (0, ⟨dm, pre, er⟩) ?_ ⟨Nat.zero_le _, ⟨g1.rng, g1.nd, fun k hk => g1.wk k (List.mem_append_left _ hk), g1.dep⟩, rfl, Nat.le_refl _, hF⟩ ?_
 ·repeat' constructor
 clear hF;rintro ⟨j, dm1, wk1, er1⟩ ⟨f1, f2, f3, f4, hF⟩
 simp only at f1 f2 f3 f4 hF
 rcases (show j = 0 ∨ j = 1 by omega) with hj0 | hj0
 ·have hdr : [a + 1].drop j = (a + 1) :: [a + 1].drop (j + 1) := by rw [hj0]; rfl
  rw [hdr] at hF;unfold jav at hF
  have hk0 : 0 <= a + 1 := hnn _ (by simp)
  have hdl1 := jaH f2.rng f2.nd
  simp only at hdl1
  by_cases hge : (code.length : Int) <= a + 1
  ·unfold jbg at hF;rw [if_pos hge] at hF;rw [<- hF] at hR;conv => whnf
   rw [decide_eq_true (show (j : Int) < ((1 : Nat) : Int) by omega)];conv => whnf
   refine ⟨show (0 : Int) <= (j : Int) /\ (j : Int) < ((1 : Nat) : Int) from ⟨by omega, by omega⟩, ?_⟩;conv => whnf
   (generalize hrq : ja2 _ _ ([A.v (.int .i64 (a + 1))]) = rq; obtain rfl : rq = [intA (a + 1)] := hrq.symm.trans ((by rw [hj0]; unfold ja2; rfl)); clear hrq; conv => whnf)
   rw [decide_eq_true hge];conv => whnf
   rw [<- hR]; rfl
  rcases jaR (dF dm1 (a + 1)) with hdk | ⟨d2, hdk⟩
  ·have hkf : jbg code.length (d' - jan op + ja6 op) ⟨dm1, wk1, er1⟩ (a + 1) = some ⟨dm1 ++ [(a + 1, d' - jan op + ja6 op)], wk1 ++ [a + 1], er1⟩ := by unfold jbg; rw [if_neg hge]; simp only; rw [hdk]
   obtain ⟨q1, q2, q3⟩ := jaA f2 hk0 ⟨by simp only; omega, by simp only; omega⟩ hkf
   rw [hkf] at hF
   simp only at hF
   conv => whnf
   rw [decide_eq_true (show (j : Int) < ((1 : Nat) : Int) by omega)];conv => whnf
   refine ⟨show (0 : Int) <= (j : Int) /\ (j : Int) < ((1 : Nat) : Int) from ⟨by omega, by omega⟩, ?_⟩;conv => whnf
   (generalize hrq : ja2 _ _ ([A.v (.int .i64 (a + 1))]) = rq; obtain rfl : rq = [intA (a + 1)] := hrq.symm.trans ((by rw [hj0]; unfold ja2; rfl)); clear hrq; conv => whnf)
   rw [decide_eq_false hge];conv => whnf
   refine jaa _ ?_;conv => whnf
   refine jaD hdk ?_;conv => whnf
   refine jbN hdk ?_;conv => whnf
   refine ⟨⟨show wk1.length + 1 <= maxLen by unfold maxLen; omega, show (wk1.length + 1) * 8 <= 140737488355328 by omega⟩, ?_⟩;conv => whnf
   refine ⟨show lo .i64 <= (j : Int) + 1 /\ (j : Int) + 1 <= hi .i64 from jal (by omega), ?_⟩;conv => whnf
   refine ⟨(j + 1, ⟨dm1 ++ [(a + 1, d' - jan op + ja6 op)], wk1 ++ [a + 1], er1⟩), ja1 [0, 1, 2] ?_, ⟨show j + 1 <= 1 by omega, q1, show _ + _ = _ + _ by simp only at q2 ⊢; omega, show _ <= _ by simp only at q3 ⊢; omega, hF⟩, show 1 - (j + 1) < 1 - j by omega⟩;conv => whnf
   repeat' constructor
   ·exact jd9 _ _ _ _
   ·exact jd6 _ _ _
  ·have hkf : jbg code.length (d' - jan op + ja6 op) ⟨dm1, wk1, er1⟩ (a + 1) = some ⟨dm1, wk1, er1 || decide (d2 ≠ d' - jan op + ja6 op)⟩ := by unfold jbg; rw [if_neg hge]; simp only; rw [hdk]
   obtain ⟨q1, q2, q3⟩ := jaA f2 hk0 ⟨by simp only; omega, by simp only; omega⟩ hkf
   rw [hkf] at hF
   simp only at hF
   conv => whnf
   rw [decide_eq_true (show (j : Int) < ((1 : Nat) : Int) by omega)];conv => whnf
   refine ⟨show (0 : Int) <= (j : Int) /\ (j : Int) < ((1 : Nat) : Int) from ⟨by omega, by omega⟩, ?_⟩;conv => whnf
   (generalize hrq : ja2 _ _ ([A.v (.int .i64 (a + 1))]) = rq; obtain rfl : rq = [intA (a + 1)] := hrq.symm.trans ((by rw [hj0]; unfold ja2; rfl)); clear hrq; conv => whnf)
   rw [decide_eq_false hge];conv => whnf
   refine jaa _ ?_;conv => whnf
   refine jar hdk ?_;conv => whnf
   rcases (show d2 = d' - jan op + ja6 op ∨ d2 ≠ d' - jan op + ja6 op by omega) with heq | heq
   ·rw [decide_eq_true heq];rw [decide_eq_false (fun h => h heq), Bool.or_false] at hF q1;conv => whnf
    refine ⟨show lo .i64 <= (j : Int) + 1 /\ (j : Int) + 1 <= hi .i64 from jal (by omega), ?_⟩;conv => whnf
    refine ⟨(j + 1, ⟨dm1, wk1, er1⟩), ja1 [0, 1, 2] ?_, ⟨show j + 1 <= 1 by omega, q1, show _ + _ = _ + _ by simp only at q2 ⊢; omega, show _ <= _ by simp only at q3 ⊢; omega, hF⟩, show 1 - (j + 1) < 1 - j by omega⟩;conv => whnf
    repeat' constructor
   ·rw [decide_eq_false heq];rw [decide_eq_true heq, Bool.or_true] at hF q1;conv => whnf
    refine ⟨show lo .i64 <= (j : Int) + 1 /\ (j : Int) + 1 <= hi .i64 from jal (by omega), ?_⟩;conv => whnf
    refine ⟨(j + 1, ⟨dm1, wk1, true⟩), ja1 [0, 1, 2] ?_, ⟨show j + 1 <= 1 by omega, q1, show _ + _ = _ + _ by simp only at q2 ⊢; omega, show _ <= _ by simp only at q3 ⊢; omega, hF⟩, show 1 - (j + 1) < 1 - j by omega⟩;conv => whnf
    repeat' constructor
 ·rw [show [a + 1].drop j = [] by rw [hj0]; rfl] at hF;unfold jav at hF;rw [<- hF] at hR
  have hdl1 := jaH f2.rng f2.nd
  simp only at hdl1 hR
  conv => whnf
  rw [decide_eq_false (show ¬ (j : Int) < ((1 : Nat) : Int) by omega)];conv => whnf
  refine ⟨(m, ⟨dm1, wk1, er1⟩), ja1 [0, 1] ?_, ⟨f2, show wk1.length + (code.length - dm1.length) + 1 <= m by omega, show m <= code.length + 1 by omega, hR⟩, show m < m + 1 by omega⟩;conv => whnf
  repeat' constructor
def enL (e : Nat -> Int) : List A := (List.range 40).map fun j => intA (e j)
theorem jnF (e : Nat -> Int) (j : Nat) (hj : j < 40) : (enL e)[((j : Int)).toNat * 1]? = some (intA (e j)) := by
 rw [Int.toNat_natCast, Nat.mul_one];unfold enL;rw [List.getElem?_map, List.getElem?_range hj];rfl
theorem jq2 (c : List Ic) (e : Nat -> Int) (du vo : Int) (hl : c.length <= 1000000) : Spec Tryz.prog 16 [] [pgA c e du vo, pgA c e du vo] fun _ r => r = jas true := by
 refine ja7 (ja4 jym xs0 0) (fun _ _ h => h) Tryz.func16 rfl (by kernel_rfl) rfl (by kernel_rfl) ?_;intro _;conv => whnf
 refine ⟨by kernel_rfl, ?_⟩;conv => whnf
 generalize hq : (decide (e 0 = e 0) && _) = b
 obtain rfl : b = true := by rw [<- hq]; simp
 clear hq;conv => whnf
 rw [decide_eq_true (rfl : du = du)];conv => whnf
 rw [decide_eq_true (rfl : vo = vo)];conv => whnf
 rw [decide_eq_true (rfl : (c.length : Int) = c.length)];conv => whnf
 refine ja3 [2, 3] ?_;conv => whnf
 refine jad (fun j : Nat => [(5, .v (.int .i64 j))]) (fun _ => [pgL c e du vo, pgL c e du vo]) (fun _ => []) (fun j => j <= c.length) (fun j => c.length - j) 0 ?_ (by omega) ?_
 ·repeat' constructor
 intro j hj;conv => whnf
 rcases Nat.lt_or_ge j c.length with hlt | hge
 ·have hrow : ja2 2 j (jbp c) = icA c[j] := jcg c j hlt
  generalize c[j] = i at hrow
  obtain ⟨op, n⟩ := i
  unfold icA at hrow
  simp only at hrow
  rw [decide_eq_true (show (j : Int) < (c.length : Int) by omega)];conv => whnf
  refine ⟨show (0 : Int) <= (j : Int) /\ (j : Int) < (c.length : Nat) from ⟨by omega, by omega⟩, ?_⟩;conv => whnf
  (generalize hrq : ja2 _ _ (jbp c) = rq; obtain rfl : rq = [intA op, intA n] := hrq.symm.trans (hrow); clear hrq; conv => whnf)
  refine ⟨show (0 : Int) <= (j : Int) /\ (j : Int) < (c.length : Nat) from ⟨by omega, by omega⟩, ?_⟩;conv => whnf
  (generalize hrq : ja2 _ _ (jbp c) = rq; obtain rfl : rq = [intA op, intA n] := hrq.symm.trans (hrow); clear hrq; conv => whnf)
  refine ⟨by kernel_rfl, ?_⟩;conv => whnf
  generalize hq : (decide (op = op) && _) = b
  obtain rfl : b = true := by rw [<- hq]; simp
  clear hq;conv => whnf
  refine ⟨show lo .i64 <= (j : Int) + 1 /\ (j : Int) + 1 <= hi .i64 from jal (by omega), ?_⟩;conv => whnf
  refine ⟨j + 1, ja1 [] ?_, show j + 1 <= c.length by omega, show c.length - (j + 1) < c.length - j by omega⟩;conv => whnf
  repeat' constructor
 rw [decide_eq_false (show ¬ (j : Int) < (c.length : Int) by omega)];conv => whnf
 rfl
end Go.Proofs.YtfbifdccmabdbaaGreatDoor.Vm
namespace Go.Proofs.YtfbifdccmabdbaaGreatDoor.Vm
open Go.RowKit
set_option linter.unusedSimpArgs false
set_option linter.unusedVariables false
section
section
variable {w0 : W0} {C0 : Rd} {β0 : List Nat} {bx : List (List A)} {rw : List Row} {w : World} {E : Env}
end
section
variable {P : Program} {pan : List PanicEntry -> S -> Prop} {Xr : Nat -> Bool} {f : Nat} {s : S} {K : A -> S -> Prop} {post : List A -> A -> Prop}
end
end
end Go.Proofs.YtfbifdccmabdbaaGreatDoor.Vm
namespace Go.Proofs.YtfbifdccmabdbaaGreatDoor.Vm
open Go.RowKit Go.Shelf
set_option linter.unusedSimpArgs false
set_option linter.unusedVariables false
set_option maxRecDepth 100000
def cbx (u : Ut) : List A := utA u ++ [.own 0]
abbrev je6 (f : Nat) (ins : List (List A)) (l : List Ic) (args : List A) (post : List (List A) -> List Ic -> A -> Prop) : Prop :=
 jlM Tryz.prog f ins 52 2 l.length (jbp l) args fun o n cs r => ∃ l', n = l'.length /\ cs = jbp l' /\ post o l' r
theorem jcb (u : Ut) (l : List Ic) (op n : Int) (hl : l.length <= 1000000) : je6 40 [cbx u] l [.box 0 0, intA op, intA n] fun o l' r => o = [cbx u] /\ l' = l ++ [(op, n)] /\ r = intA l.length := by
 refine jab (ja4 jaE xs0 1) (fun _ _ h => h) Tryz.func40 rfl (by kernel_rfl) rfl (by kernel_rfl) ?_;intro _;conv => whnf
 refine ⟨⟨by unfold maxLen; omega, by omega⟩, ?_⟩;conv => whnf
 refine ⟨jal (by omega), ?_⟩;conv => whnf
 refine ⟨0, ?_⟩;conv => whnf
 refine ⟨l ++ [(op, n)], by rw [List.length_append]; rfl, ?_, rfl, rfl, ?_⟩
 ·rw [jku]; rfl
 ·show intA (((l.length + 1 : Nat) : Int) - 1) = intA l.length
  congr 1; omega
theorem jey (a : Ic) (l : List Ic) : jbp (a :: l) = icA a ++ jbp l := by rw [jeZ, List.flatMap_cons, jeZ]
theorem joe : ∀ (l : List Ic) (k : Nat) (hk : k < l.length) (v : Int), (jbp l).set (k * 2 + 1) (intA v) = jbp (l.set k (l[k].1, v))
 | [], k, hk, v => by simp at hk
 | a :: l, 0, hk, v => by rw [List.set_cons_zero, jey, jey]; rfl
 | a :: l, k + 1, hk, v => by
  rw [List.set_cons_succ, jey, jey]
  have h := joe l k (by simpa using hk) v
  rw [show (k + 1) * 2 + 1 = k * 2 + 1 + 2 by omega]
  show intA a.1 :: intA a.2 :: (jbp l).set (k * 2 + 1) (intA v) = _
  rw [h];rfl
mutual
def szN : Nt -> Nat
 | .mk _ _ _ kids => 3 + jjB kids
def jjB : List Nt -> Nat
 | [] => 0
 | f :: l => szN f + jjB l
end
theorem jkM : ∀ (l : List (Int -> List Ic)) (g : Int -> List Ic) (at' : Int), jg1 (l ++ [g]) at' = jg1 l at' ++ g (at' + (jg1 l at').length)
 | [], g, at' => by
  show g at' ++ [] = [] ++ g (at' + ((0 : Nat) : Int))
  rw [List.append_nil, List.nil_append, show at' + ((0 : Nat) : Int) = at' by omega]
 | h :: l, g, at' => by
  show h at' ++ jg1 (l ++ [g]) _ = (h at' ++ jg1 l _) ++ g _
  rw [jkM l g, List.append_assoc]
  congr 3
  show _ = at' + ((h at' ++ jg1 l _).length : Int)
  rw [List.length_append];omega
def jeD (u : Ut) (f : Nt) : Prop := (∀ at' : Int, (jaL (ixU u) f at').length <= szN f) /\ ∀ l : List Ic, l.length + szN f <= 1000000 -> je6 39 [cbx u] l [.box 0 0, .agg (ntA f)] fun o l' r => o = [cbx u] /\ l' = l ++ jaL (ixU u) f l.length /\ r = .tup []
theorem jk8 : ∀ (l : List Nt) (j : Nat) (h : j < l.length), jjB (l.take j) + szN l[j] <= jjB l
 | [], j, h => by simp at h
 | f :: l, 0, h => by show 0 + szN f <= szN f + jjB l; omega
 | f :: l, j + 1, h => by
  have hj : j < l.length := by simpa using h
  have := jk8 l j hj
  show szN f + jjB (l.take j) + szN (l[j]'hj) <= szN f + jjB l
  omega
theorem jdI {u : Ut} : ∀ (l : List Nt) (at' : Int), (∀ f ∈ l, jeD u f) -> (jg1 (jaz (ixU u) l) at').length <= jjB l
 | [], at', _ => Nat.zero_le _
 | f :: l, at', h => by
  show (jaL (ixU u) f at' ++ jg1 (jaz (ixU u) l) _).length <= szN f + jjB l
  rw [List.length_append]
  have h1 := (h f List.mem_cons_self).1 at'
  have h2 := jdI l (at' + (jaL (ixU u) f at').length) fun g hg => h g (List.mem_cons_of_mem _ hg)
  omega
theorem jf5 (u : Ut) (k n : Int) (s : ByteArray) (kids : List Nt) (hm : kids.length <= 3002) (hf : ∀ f ∈ kids, jeD u f) (l : List Ic) (hl : l.length + jjB kids <= 1000000) : je6 80 [cbx u] l [.box 0 0, .agg (ntA (.mk k n s kids))] fun o l' r => o = [cbx u] /\ l' = l ++ jg1 (jaz (ixU u) kids) l.length /\ r = .tup [] := by
 obtain ⟨S, hS⟩ : ∃ S : Nat -> List Ic, ∀ j, S j = l ++ jg1 (jaz (ixU u) (kids.take j)) l.length := ⟨_, fun _ => rfl⟩
 have hS0 : S 0 = l := by rw [hS]; exact List.append_nil l
 have hSl : l ++ jg1 (jaz (ixU u) kids) l.length = S kids.length := by rw [hS, List.take_length]
 have hSn : ∀ j (h : j < kids.length), S (j + 1) = S j ++ jaL (ixU u) kids[j] (S j).length := fun j h => by
  rw [hS, hS, List.take_succ_eq_append_getElem h, jdU, jdU, List.map_append]
  show l ++ jg1 (_ ++ [jaL (ixU u) kids[j]]) _ = _
  rw [jkM, List.append_assoc, List.length_append]
  congr 3
 have hSz : ∀ j (h : j < kids.length), (S j).length + szN kids[j] <= 1000000 := fun j h => by
  rw [hS, List.length_append]
  have h1 := jdI (kids.take j) l.length fun f hf' => hf f (List.mem_of_mem_take hf')
  have h2 := jk8 kids j h
  omega
 rw [hSl, <- hS0];simp only [ntA, Nt.k, Nt.n, Nt.s, Nt.kids];refine jab (ja4 jaE xs0 1) (fun _ _ h => h) Tryz.func80 rfl (by kernel_rfl) rfl (by kernel_rfl) ?_;intro _;conv => whnf
 refine ja3 [0, 7, 8] ?_;conv => whnf
 refine jad (fun j : Nat => [(9, .v (.int .i64 j))]) (fun _ => [cbx u, [intA k, intA n, jdc s, .sl 4 kids.length (jdZ kids)]]) (fun j => [.live 52 2 (S j).length (jbp (S j))]) (fun j => j <= kids.length) (fun j => kids.length - j) 0 ?_ (Nat.zero_le _) ?_
 ·repeat' constructor
 rintro j hj;conv => whnf
 by_cases hlt : j < kids.length
 ·rw [decide_eq_true (show (j : Int) < (kids.length : Int) by omega)]
  have hrow := jc9 kids j hlt
  have hSn := hSn j hlt
  have hSz := hSz j hlt
  have hg := hf _ (List.getElem_mem hlt)
  generalize kids[j] = g at *
  have hx := hg.2 (S j) hSz
  generalize hcd : jaL (ixU u) g (S j).length = y at *;conv => whnf
  refine ⟨by omega, ?_⟩;conv => whnf
  (generalize hrq : ja2 _ _ (jdZ kids) = rq; obtain rfl : rq = ntA g := hrq.symm.trans (hrow); clear hrq; conv => whnf)
  refine ja9 0 0 1 [] rfl rfl rfl rfl rfl rfl rfl (fun _ => hx) ?_;rintro o n' cs' r ⟨s4, rfl, rfl, ho, hs4, rfl⟩;cases ho;conv => whnf
  refine ⟨jal (by omega), ?_⟩;conv => whnf
  refine ⟨j + 1, ja1 [1] ?_, hlt, by omega⟩;conv => whnf
  rw [hs4, show S (j + 1) = _ from hSn]
  repeat' constructor
 ·rw [decide_eq_false (show ¬ (j : Int) < (kids.length : Int) by omega)];conv => whnf
  obtain rfl : j = kids.length := by omega
  refine ⟨0, ?_⟩;conv => whnf
  exact ⟨_, rfl, rfl, rfl, rfl, rfl⟩
end Go.Proofs.YtfbifdccmabdbaaGreatDoor.Vm
