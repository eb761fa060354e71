/- Texts 4 of the proof: T5, T6, T7, T12, T13, T14, T15, T16, T17, T18, T19, T20, T21, T22, T23, Ta, T24, T30, T31, T25, T26, VmH, T27, T32, T33. -/
import Derived.Test.YtpjcbadnpknncaaDoorM3
/- The parser of formulas: what it computes. No walk here. -/
namespace Go.Proofs.YtpjcbadnpknncaaDoor.Vm
open Go.RowKit Go.Shelf
set_option linter.unusedSimpArgs false
set_option linter.unusedVariables false
set_option maxRecDepth 100000
structure Pr where
  un : List Tk → Ps
  ch : List Tk → Ps
  fo : List Tk → Ps
def kNot : ByteArray := ⟨#[33]⟩
def kNext : ByteArray := ⟨#[110, 101, 120, 116]⟩
def kAlw : ByteArray := ⟨#[97, 108, 119, 97, 121, 115]⟩
def kEv : ByteArray := ⟨#[101, 118, 101, 110, 116, 117, 97, 108, 108, 121]⟩
def kTrue : ByteArray := ⟨#[116, 114, 117, 101]⟩
def kFalse : ByteArray := ⟨#[102, 97, 108, 115, 101]⟩
def kLp : ByteArray := ⟨#[40]⟩
def kRp : ByteArray := ⟨#[41]⟩
def kUntil : ByteArray := ⟨#[117, 110, 116, 105, 108]⟩
def kOr : ByteArray := ⟨#[124, 124]⟩
def kAnd : ByteArray := ⟨#[38, 38]⟩
def unKind (s : ByteArray) : Option Int := if s = kNot then some 2 else if s = kNext then some 5 else if s = kAlw then some 7 else if s = kEv then some 8 else none
def constF (b : Bool) : Fm := .mk (if b = true then 3 else 4) 0 0 0 []
def unG (low : Option Pr) (ts : List Tk) : Ps :=
  match unKind (hd ts).text with
  | some k => match low with
    | none => .bad (hd ts).pos 2
    | some p => match p.un ts.tail with
      | .ok f r => .ok (.mk k 0 0 0 [f]) r
      | .bad x e => .bad x e
  | none => if (isT kTrue ts || isT kFalse ts) = true then .ok (constF (decide ((hd ts).text = kTrue))) ts.tail else
    if isT kLp ts = true then match low with
      | none => .bad (hd ts).pos 2
      | some p => match p.fo ts.tail with
        | .ok f r => if isT kRp r = true then .ok f r.tail else .bad (hd r).pos 10
        | .bad x e => .bad x e
    else cmpF ts
def chG (un : List Tk → Ps) (low : Option Pr) (ts : List Tk) : Ps :=
  match un ts with
  | .bad x e => .bad x e
  | .ok f r => if isT kUntil r = true then match low with
      | none => .bad (hd r).pos 2
      | some p => match p.ch r.tail with
        | .ok g r' => .ok (.mk 6 0 0 0 [f, g]) r'
        | .bad x e => .bad x e
    else .ok f r
inductive Lr where
  | ok (l : List Fm) (r : List Tk)
  | bad (p e : Int)
def liGo (op : List Tk → Ps) (sign : ByteArray) : Nat → List Fm → List Tk → Lr
  | 0, acc, ts => .ok acc ts
  | n + 1, acc, ts => if isT sign ts = true then match op ts.tail with
      | .ok f r => liGo op sign n (acc ++ [f]) r
      | .bad x e => .bad x e
    else .ok acc ts
def finL (kind : Int) : Lr → Ps
  | .bad x e => .bad x e
  | .ok [f] r => .ok f r
  | .ok l r => .ok (.mk kind 0 0 0 l) r
def liF (op : List Tk → Ps) (kind : Int) (sign : ByteArray) (ts : List Tk) : Ps :=
  match op ts with
  | .bad x e => .bad x e
  | .ok f r => finL kind (liGo op sign r.length [f] r)
def foG (ch : List Tk → Ps) : List Tk → Ps := liF (liF ch 3 kAnd) 4 kOr
def prG (low : Option Pr) : Pr := ⟨unG low, chG (unG low) low, foG (chG (unG low) low)⟩
def pr : Nat → Pr
  | 0 => prG none
  | d + 1 => prG (some (pr d))
/-! ### What is left is shorter, and ends as it did -/
def TkB (ts : List Tk) : Prop := TkW ts ∧ ts.length ≤ 1000000
theorem TkB.tail {ts : List Tk} (h : TkB ts) (hk : (hd ts).kind ≠ 0) : TkB ts.tail ∧ ts.tail.length + 1 = ts.length := by
  have h1 := h.1.pos
  refine ⟨⟨h.1.tail hk, ?_⟩, ?_⟩
  · have := h.2; simp; omega
  · simp; omega
theorem TkB.is {s : ByteArray} {ts : List Tk} (h : TkB ts) (k : isT s ts = true) : TkB ts.tail ∧ ts.tail.length + 1 = ts.length := h.tail (isT_kind k)
def Goes (op : List Tk → Ps) : Prop := ∀ ts f r, TkB ts → op ts = .ok f r → TkB r ∧ r.length ≤ ts.length
theorem un_kind {ts : List Tk} {k : Int} (h : TkB ts) (hk : unKind (hd ts).text = some k) : (hd ts).kind ≠ 0 := fun h0 => by
  have := (h.1.end' h0).1
  have e : (hd ts).text = ⟨#[]⟩ := by
    generalize (hd ts).text = b at *
    cases b with
    | mk d => congr 1; exact Array.toList_eq_nil_iff.1 this
  rw [e] at hk
  have : unKind ⟨#[]⟩ = none := by decide +kernel
  rw [this] at hk; cases hk
theorem cmp_goes : Goes cmpF := fun ts f r h hc => by
  unfold cmpF at hc
  split at hc
  · cases hc
  · rename_i hF
    split at hc
    · cases hc
    · rename_i n hO
      split at hc
      · cases hc
      · split at hc
        · cases hc
        · rename_i hi
          split at hc
          · cases hc
          · rename_i hk
            simp only [Ps.ok.injEq] at hc
            obtain ⟨-, rfl⟩ := hc
            have hk0 : (hd ts).kind ≠ 0 := fun h0 => by
              have := (h.1.end' h0).1
              unfold cutF at hF
              rw [this] at hF
              exact hF rfl
            obtain ⟨h1, l1⟩ := h.tail hk0
            obtain ⟨h2, l2⟩ : TkB ts.tail.tail ∧ ts.tail.tail.length + 1 = ts.tail.length := by
              rcases idxS_rng ts.tail cmpTs 0 (by omega) with h2 | ⟨_, _, s, hs⟩
              · omega
              · exact h1.is hs
            have h3 : TkB (signF ts.tail.tail).2 ∧ (signF ts.tail.tail).2.length ≤ ts.tail.tail.length := by
              unfold signF
              split
              · rename_i hm
                obtain ⟨h3, l3⟩ := h2.is hm
                exact ⟨h3, by simp only; omega⟩
              · exact ⟨h2, Nat.le_refl _⟩
            obtain ⟨h4, l4⟩ := h3.1.tail (show (hd (signF ts.tail.tail).2).kind ≠ 0 from fun e => hk (by rw [e]; decide))
            exact ⟨h4, by omega⟩
def GoesO (low : Option Pr) : Prop := ∀ p, low = some p → Goes p.un ∧ Goes p.ch ∧ Goes p.fo
theorem un_goes {low : Option Pr} (hl : GoesO low) : Goes (unG low) := fun ts f r h hc => by
  unfold unG at hc
  split at hc
  · rename_i k hk
    obtain ⟨h1, l1⟩ := h.tail (un_kind h hk)
    split at hc
    · cases hc
    · rename_i p
      split at hc
      · rename_i f' r' he
        simp only [Ps.ok.injEq] at hc
        obtain ⟨-, rfl⟩ := hc
        obtain ⟨h2, l2⟩ := (hl p rfl).1 _ _ _ h1 he
        exact ⟨h2, by omega⟩
      · cases hc
  · split at hc
    · rename_i ht
      simp only [Ps.ok.injEq] at hc
      obtain ⟨-, rfl⟩ := hc
      have : isT kTrue ts = true ∨ isT kFalse ts = true := by simpa using ht
      obtain ⟨h1, l1⟩ : TkB ts.tail ∧ ts.tail.length + 1 = ts.length := this.elim h.is h.is
      exact ⟨h1, by omega⟩
    · split at hc
      · rename_i hp
        obtain ⟨h1, l1⟩ := h.is hp
        split at hc
        · cases hc
        · rename_i p
          split at hc
          · rename_i f' r' he
            obtain ⟨h2, l2⟩ := (hl p rfl).2.2 _ _ _ h1 he
            split at hc
            · rename_i hq
              simp only [Ps.ok.injEq] at hc
              obtain ⟨-, rfl⟩ := hc
              obtain ⟨h3, l3⟩ := h2.is hq
              exact ⟨h3, by omega⟩
            · cases hc
          · cases hc
      · exact cmp_goes ts f r h hc
theorem ch_goes {un : List Tk → Ps} {low : Option Pr} (hu : Goes un) (hl : GoesO low) : Goes (chG un low) := fun ts f r h hc => by
  unfold chG at hc
  split at hc
  · cases hc
  · rename_i f1 r1 he
    obtain ⟨h1, l1⟩ := hu _ _ _ h he
    split at hc
    · rename_i hq
      obtain ⟨h2, l2⟩ := h1.is hq
      split at hc
      · cases hc
      · rename_i p
        split at hc
        · rename_i g r2 he2
          simp only [Ps.ok.injEq] at hc
          obtain ⟨-, rfl⟩ := hc
          obtain ⟨h3, l3⟩ := (hl p rfl).2.1 _ _ _ h2 he2
          exact ⟨h3, by omega⟩
        · cases hc
    · simp only [Ps.ok.injEq] at hc
      obtain ⟨-, rfl⟩ := hc
      exact ⟨h1, l1⟩
theorem liGo_goes {op : List Tk → Ps} {sign : ByteArray} (ho : Goes op) : ∀ (n : Nat) (acc : List Fm) (ts : List Tk) (l : List Fm) (r : List Tk), TkB ts → liGo op sign n acc ts = .ok l r → TkB r ∧ r.length ≤ ts.length
  | 0, acc, ts, l, r, h, hc => by
    simp only [liGo, Lr.ok.injEq] at hc
    obtain ⟨-, rfl⟩ := hc
    exact ⟨h, Nat.le_refl _⟩
  | n + 1, acc, ts, l, r, h, hc => by
    rw [liGo] at hc
    split at hc
    · rename_i hs
      obtain ⟨h1, l1⟩ := h.is hs
      split at hc
      · rename_i f r1 he
        obtain ⟨h2, l2⟩ := ho _ _ _ h1 he
        obtain ⟨h3, l3⟩ := liGo_goes ho n _ _ _ _ h2 hc
        exact ⟨h3, by omega⟩
      · cases hc
    · simp only [Lr.ok.injEq] at hc
      obtain ⟨-, rfl⟩ := hc
      exact ⟨h, Nat.le_refl _⟩
theorem finL_ok {kind : Int} {x : Lr} {f : Fm} {r : List Tk} (h : finL kind x = .ok f r) : ∃ l, x = .ok l r := by
  unfold finL at h
  split at h
  · cases h
  · simp only [Ps.ok.injEq] at h
    obtain ⟨-, rfl⟩ := h
    exact ⟨_, rfl⟩
  · simp only [Ps.ok.injEq] at h
    obtain ⟨-, rfl⟩ := h
    exact ⟨_, rfl⟩
theorem li_goes {op : List Tk → Ps} {kind : Int} {sign : ByteArray} (ho : Goes op) : Goes (liF op kind sign) := fun ts f r h hc => by
  unfold liF at hc
  split at hc
  · cases hc
  · rename_i f1 r1 he
    obtain ⟨h1, l1⟩ := ho _ _ _ h he
    obtain ⟨l, hx⟩ := finL_ok hc
    obtain ⟨h2, l2⟩ := liGo_goes ho _ _ _ _ _ h1 hx
    exact ⟨h2, by omega⟩
theorem prG_goes {low : Option Pr} (hl : GoesO low) : Goes (prG low).un ∧ Goes (prG low).ch ∧ Goes (prG low).fo :=
  ⟨un_goes hl, ch_goes (un_goes hl) hl, li_goes (li_goes (ch_goes (un_goes hl) hl))⟩
theorem pr_goes : ∀ d, Goes (pr d).un ∧ Goes (pr d).ch ∧ Goes (pr d).fo
  | 0 => prG_goes fun p h => by cases h
  | d + 1 => prG_goes fun p h => by cases h; exact pr_goes d
end Go.Proofs.YtpjcbadnpknncaaDoor.Vm
/- The parser of formulas: lists. -/
namespace Go.Proofs.YtpjcbadnpknncaaDoor.Vm
open Go.RowKit Go.Shelf
set_option linter.unusedSimpArgs false
set_option linter.unusedVariables false
set_option maxRecDepth 100000
def zero5 : List A := [intA 0, intA 0, intA 0, intA 0, .v (.slice none 0 0)]
theorem poP_ok {p : Ps} {o : List (List A)} {r : A} (h : poP p o r) : ∃ f ts, p = .ok f ts ∧ o = [bxT ts] ∧ r = .agg (fmA f) := by
  unfold poP at h
  split at h
  · exact ⟨_, _, rfl, h.1, h.2⟩
  · exact h.elim
theorem pnP_bad {p : Ps} {ch : List PanicEntry} (h : pnP p ch) : ∃ x e, p = .bad x e ∧ ch = failCh x e := by
  unfold pnP at h
  split at h
  · exact ⟨_, _, rfl, h⟩
  · exact h.elim
theorem pnP_mk {p : Ps} {x e : Int} {ch : List PanicEntry} (h : p = .bad x e) (k : ch = failCh x e) : pnP p ch := by subst h; exact k
set_option maxHeartbeats 1000000 in
theorem list_spec (op : List Tk → Ps) (kind : Int) (sign : ByteArray) (lv : Int) (g : Nat) (hgo : Goes op) (hop : ∀ ts, TkB ts → SpecP Tryd.prog g [bxT ts] [.box 0 0, intA lv] (poP (op ts)) (pnP (op ts))) (ts : List Tk) (h : TkB ts) :
    SpecP Tryd.prog 57 [bxT ts] [.box 0 0, intA lv, intA kind, strA sign, .bm g [.box 0 0]] (poP (liF op kind sign ts)) (pnP (liF op kind sign ts)) := by
  obtain ⟨P, hP⟩ : ∃ P, liF op kind sign ts = P := ⟨_, rfl⟩
  rw [hP]
  refine specP_of (cx_okP ord0 xs0 1 (fun ch _ => (pnP P) ch)) (fun _ _ h => h) Tryd.func57 rfl (by kernel_rfl) rfl (by kernel_rfl) ?_
  intro _
  unfold liF at hP
  have hspec := hop ts h
  have hl0 := h.2
  conv => whnf
  refine callP1 0 [] rfl rfl rfl rfl (fun _ => hspec) (fun ch bx' hp => ?_) ?_
  · obtain ⟨x, e, he, hc⟩ := pnP_bad hp
    rw [he] at hP
    exact pnP_mk hP.symm hc
  rintro o r hpo
  obtain ⟨f, r1, he, ho, rfl⟩ := poP_ok hpo
  cases ho
  rw [he] at hP
  simp only at hP
  obtain ⟨h1, l1⟩ := hgo _ _ _ h he
  conv => whnf
  refine loop_keep [0, 1, 2, 3, 4, 10, 11] ?_
  conv => whnf
  refine loop_goQ (fun _ : Nat × List Fm × List Tk => []) (fun x => [bxT x.2.2, zero5]) (fun x => [.live 25 5 x.2.1.length (fmsA x.2.1)]) (fun x => TkB x.2.2 ∧ x.2.2.length ≤ x.1 ∧ 1 ≤ x.2.1.length ∧ x.2.1.length + x.2.2.length ≤ 1000001 ∧ finL kind (liGo op sign x.1 x.2.1 x.2.2) = P) (fun x => x.2.2.length) (r1.length, [f], r1) ?_ ⟨h1, Nat.le_refl _, by simp, by simp only [List.length_cons, List.length_nil]; omega, hP⟩ ?_
  · unfold headQ
    repeat' constructor
    · show [Row.live _ _ _ _] = [Row.live _ _ _ _]
      rw [fmsA_cons, fmsA_nil]; rfl
  · rintro ⟨n, acc, ts1⟩ ⟨g1, g2, g3, g4, g5⟩
    simp only at g1 g2 g3 g4 g5
    conv => whnf
    refine call1 0 [] rfl rfl rfl rfl (fun _ => is_spec ts1 g1.1.pos sign) ?_
    rintro o r ⟨ho, rfl⟩
    cases ho
    conv => whnf
    cases hq : isT sign ts1 with
    | true =>
      obtain ⟨q1, q2⟩ := g1.is hq
      obtain ⟨m, rfl⟩ : ∃ m, n = m + 1 := ⟨n - 1, by have := g1.1.pos; omega⟩
      rw [liGo, if_pos hq] at g5
      have hnx := next_spec ts1 g1.1.pos
      generalize ts1.tail = ts2 at *
      conv => whnf
      refine call1 0 [] rfl rfl rfl rfl (fun _ => hnx) ?_
      rintro o r ⟨ho, rfl⟩
      cases ho
      conv => whnf
      refine callP1 0 [] rfl rfl rfl rfl (fun _ => hop ts2 q1) (fun ch bx' hp => ?_) ?_
      · obtain ⟨x, e, he, hc⟩ := pnP_bad hp
        rw [he] at g5
        exact pnP_mk g5.symm hc
      rintro o r hpo
      obtain ⟨f2, r2, he2, ho, rfl⟩ := poP_ok hpo
      cases ho
      rw [he2] at g5
      simp only at g5
      obtain ⟨h2, l2⟩ := hgo _ _ _ q1 he2
      conv => whnf
      refine ⟨⟨by simp only; unfold maxLen; omega, by simp only; omega⟩, ?_⟩
      conv => whnf
      refine ⟨(m, acc ++ [f2], r2), le_head ?_, ⟨h2, by simp only; omega, by simp, by simp only [List.length_append, List.length_cons, List.length_nil]; omega, g5⟩, by simp only; omega⟩
      repeat' constructor
      · simp only [List.length_append, List.length_cons, List.length_nil]
        rw [fmsA_snoc]; rfl
    | false =>
      have hlg : liGo op sign n acc ts1 = .ok acc ts1 := by
        cases n with
        | zero => rfl
        | succ m => rw [liGo, if_neg (by rw [hq]; simp)]
      rw [hlg] at g5
      rcases acc with _ | ⟨f1, acc⟩
      · simp at g3
      rcases acc with _ | ⟨f2, acc⟩
      · simp only [finL] at g5
        subst g5
        have e1 : fmsA [f1] = fmA f1 := by rw [fmsA_cons, fmsA_nil, List.append_nil]
        simp only [e1]
        conv => whnf
        (refine goA ?_; try with_reducible exact trivial)
        exact ⟨rfl, rfl⟩
      · simp only [finL] at g5
        subst g5
        have hln : (f1 :: f2 :: acc).length = acc.length + 2 := by simp
        generalize f1 :: f2 :: acc = L at *
        conv => whnf
        (refine goA ?_; try with_reducible exact trivial)
        exact ⟨rfl, rfl⟩
end Go.Proofs.YtpjcbadnpknncaaDoor.Vm
/- The parser of formulas: its functions. -/
namespace Go.Proofs.YtpjcbadnpknncaaDoor.Vm
open Go.RowKit Go.Shelf
set_option linter.unusedSimpArgs false
set_option linter.unusedVariables false
set_option maxRecDepth 100000
def PSpec (g : Nat) (lv : Int) (op : List Tk → Ps) : Prop := ∀ ts, TkB ts → SpecP Tryd.prog g [bxT ts] [.box 0 0, intA lv] (poP (op ts)) (pnP (op ts))
/-- What lies deeper is known. -/
def LowOk (lv : Int) (low : Option Pr) : Prop := 0 ≤ lv ∧ ((low = none ∧ lv = 20) ∨ ∃ p, low = some p ∧ lv + 1 ≤ 20 ∧ Goes p.un ∧ Goes p.ch ∧ Goes p.fo ∧
  PSpec 78 (lv + 1) p.un ∧ PSpec 74 (lv + 1) p.ch ∧ PSpec 45 (lv + 1) p.fo)
theorem fmA_one (k a b n : Int) (f : Fm) : fmA (.mk k a b n [f]) = [intA k, intA a, intA b, intA n, .sl 5 1 (fmA f)] := by
  have e1 : fmA f = fmsA [f] := by rw [fmsA_cons, fmsA_nil, List.append_nil]
  rw [e1]; rfl
theorem fmA_two (k a b n : Int) (f g : Fm) : fmA (.mk k a b n [f, g]) = [intA k, intA a, intA b, intA n, .sl 5 2 (fmA f ++ fmA g)] := by
  have e1 : fmA f ++ fmA g = fmsA [f, g] := by rw [fmsA_cons, fmsA_cons, fmsA_nil, List.append_nil]
  rw [e1]; rfl
theorem const_raw (b : Bool) : Spec Tryd.prog 30 [] [.v (.bool b)] fun _ r => r = .agg (raw0 (constF b)) := by
  refine spec_of (cx_ok ord0 xs0 0) (fun _ _ h => h) Tryd.func30 rfl (by kernel_rfl) rfl (by kernel_rfl) ?_
  intro _
  conv => whnf
  cases b with
  | true =>
    conv => whnf
    rfl
  | false =>
    conv => whnf
    rfl
theorem const_spec (b : Bool) : Spec Tryd.prog 30 [] [.v (.bool b)] fun _ r => r = .agg (fmA (constF b)) :=
  (const_raw b).weaken fun o r k => ⟨o, _, rfl, .refl o, by rw [k]; exact .agg (raw0_wk (by unfold constF; rfl))⟩
set_option maxHeartbeats 2000000 in
theorem unary_spec {lv : Int} {low : Option Pr} (hlo : LowOk lv low) : PSpec 78 lv (unG low) := by
  intro ts h
  obtain ⟨hlv, hlo⟩ := hlo
  obtain ⟨P, hP⟩ : ∃ P, unG low ts = P := ⟨_, rfl⟩
  rw [hP]
  have hl := h.1.pos
  have hr := row_hd hl
  have hopen := fun l => open_spec ts hl l
  have hnx := next_spec ts hl
  have htl : (unKind (hd ts).text).isSome = true → TkB ts.tail ∧ ts.tail.length + 1 = ts.length := fun hk => by
    obtain ⟨k, hk⟩ := Option.isSome_iff_exists.1 hk
    exact h.tail (un_kind h hk)
  refine specP_of (cx_okP ord78 xs0 1 (fun ch _ => (pnP P) ch)) (fun _ _ h => h) Tryd.func78 rfl (by kernel_rfl) rfl (by kernel_rfl) ?_
  intro _
  unfold unG at hP
  generalize hd ts = t at *
  conv => whnf
  (refine goA ?_; try with_reducible exact trivial)
  (generalize hrq : rowOf _ _ (tksL ts) = rq; obtain rfl : rq = tkL t := hrq.symm.trans (hr); clear hrq; conv => whnf)
  (refine call0 [] rfl (fun _ => unaries_spec) ?_; rintro r rfl; conv => whnf)
  by_cases h1 : t.text = kNot
  · have hU : unKind t.text = some 2 := by unfold unKind; rw [if_pos h1]
    rw [hU] at hP
    rw [show decide (t.text = (({ data := #[33] } : ByteArray), Value.int IntKind.i64 2).fst) = true from decide_eq_true h1]
    simp only at hP
    conv => whnf
    (refine goA ?_; try with_reducible exact trivial)
    rcases hlo with ⟨rfl, rfl⟩ | ⟨p, rfl, hle, gu, gc, gf, su, sc, sf⟩
    · simp only at hP
      refine callP1 0 [] rfl rfl rfl rfl (fun _ => hopen _) (fun ch bx' hp => pnP_mk hP.symm hp.2) ?_
      rintro o r ⟨hbad, _⟩
      omega
    · simp only at hP
      refine callP1 0 [] rfl rfl rfl rfl (fun _ => hopen _) (fun ch bx' hp => absurd hp.1 (by omega)) ?_
      rintro o r ⟨_, ho, rfl⟩
      cases ho
      obtain ⟨q1, q2⟩ := htl (by rw [hU]; rfl)
      generalize ts.tail = ts1 at *
      conv => whnf
      (refine goA ?_; try with_reducible exact trivial)
      refine callP1 0 [] rfl rfl rfl rfl (fun _ => su ts1 q1) (fun ch bx' hp => ?_) ?_
      · obtain ⟨x, e, he, hc⟩ := pnP_bad hp
        rw [he] at hP
        exact pnP_mk hP.symm hc
      rintro o r hpo
      obtain ⟨f, r1, he, ho, rfl⟩ := poP_ok hpo
      cases ho
      rw [he] at hP
      simp only at hP
      subst hP
      conv => whnf
      exact ⟨rfl, by rw [fmA_one]; rfl⟩
  rw [show decide (t.text = (({ data := #[33] } : ByteArray), Value.int IntKind.i64 2).fst) = false from decide_eq_false h1]
  conv => whnf
  by_cases h2 : t.text = kNext
  · have hU : unKind t.text = some 5 := by unfold unKind; rw [if_neg h1, if_pos h2]
    rw [hU] at hP
    rw [show decide (t.text = (({ data := #[110, 101, 120, 116] } : ByteArray), Value.int IntKind.i64 5).fst) = true from decide_eq_true h2]
    simp only at hP
    conv => whnf
    (refine goA ?_; try with_reducible exact trivial)
    rcases hlo with ⟨rfl, rfl⟩ | ⟨p, rfl, hle, gu, gc, gf, su, sc, sf⟩
    · simp only at hP
      refine callP1 0 [] rfl rfl rfl rfl (fun _ => hopen _) (fun ch bx' hp => pnP_mk hP.symm hp.2) ?_
      rintro o r ⟨hbad, _⟩
      omega
    · simp only at hP
      refine callP1 0 [] rfl rfl rfl rfl (fun _ => hopen _) (fun ch bx' hp => absurd hp.1 (by omega)) ?_
      rintro o r ⟨_, ho, rfl⟩
      cases ho
      obtain ⟨q1, q2⟩ := htl (by rw [hU]; rfl)
      generalize ts.tail = ts1 at *
      conv => whnf
      (refine goA ?_; try with_reducible exact trivial)
      refine callP1 0 [] rfl rfl rfl rfl (fun _ => su ts1 q1) (fun ch bx' hp => ?_) ?_
      · obtain ⟨x, e, he, hc⟩ := pnP_bad hp
        rw [he] at hP
        exact pnP_mk hP.symm hc
      rintro o r hpo
      obtain ⟨f, r1, he, ho, rfl⟩ := poP_ok hpo
      cases ho
      rw [he] at hP
      simp only at hP
      subst hP
      conv => whnf
      exact ⟨rfl, by rw [fmA_one]; rfl⟩
  rw [show decide (t.text = (({ data := #[110, 101, 120, 116] } : ByteArray), Value.int IntKind.i64 5).fst) = false from decide_eq_false h2]
  conv => whnf
  by_cases h3 : t.text = kAlw
  · have hU : unKind t.text = some 7 := by unfold unKind; rw [if_neg h1, if_neg h2, if_pos h3]
    rw [hU] at hP
    rw [show decide (t.text = (({ data := #[97, 108, 119, 97, 121, 115] } : ByteArray), Value.int IntKind.i64 7).fst) = true from decide_eq_true h3]
    simp only at hP
    conv => whnf
    (refine goA ?_; try with_reducible exact trivial)
    rcases hlo with ⟨rfl, rfl⟩ | ⟨p, rfl, hle, gu, gc, gf, su, sc, sf⟩
    · simp only at hP
      refine callP1 0 [] rfl rfl rfl rfl (fun _ => hopen _) (fun ch bx' hp => pnP_mk hP.symm hp.2) ?_
      rintro o r ⟨hbad, _⟩
      omega
    · simp only at hP
      refine callP1 0 [] rfl rfl rfl rfl (fun _ => hopen _) (fun ch bx' hp => absurd hp.1 (by omega)) ?_
      rintro o r ⟨_, ho, rfl⟩
      cases ho
      obtain ⟨q1, q2⟩ := htl (by rw [hU]; rfl)
      generalize ts.tail = ts1 at *
      conv => whnf
      (refine goA ?_; try with_reducible exact trivial)
      refine callP1 0 [] rfl rfl rfl rfl (fun _ => su ts1 q1) (fun ch bx' hp => ?_) ?_
      · obtain ⟨x, e, he, hc⟩ := pnP_bad hp
        rw [he] at hP
        exact pnP_mk hP.symm hc
      rintro o r hpo
      obtain ⟨f, r1, he, ho, rfl⟩ := poP_ok hpo
      cases ho
      rw [he] at hP
      simp only at hP
      subst hP
      conv => whnf
      exact ⟨rfl, by rw [fmA_one]; rfl⟩
  rw [show decide (t.text = (({ data := #[97, 108, 119, 97, 121, 115] } : ByteArray), Value.int IntKind.i64 7).fst) = false from decide_eq_false h3]
  conv => whnf
  by_cases h4 : t.text = kEv
  · have hU : unKind t.text = some 8 := by unfold unKind; rw [if_neg h1, if_neg h2, if_neg h3, if_pos h4]
    rw [hU] at hP
    rw [show decide (t.text = (({ data := #[101, 118, 101, 110, 116, 117, 97, 108, 108, 121] } : ByteArray), Value.int IntKind.i64 8).fst) = true from decide_eq_true h4]
    simp only at hP
    conv => whnf
    (refine goA ?_; try with_reducible exact trivial)
    rcases hlo with ⟨rfl, rfl⟩ | ⟨p, rfl, hle, gu, gc, gf, su, sc, sf⟩
    · simp only at hP
      refine callP1 0 [] rfl rfl rfl rfl (fun _ => hopen _) (fun ch bx' hp => pnP_mk hP.symm hp.2) ?_
      rintro o r ⟨hbad, _⟩
      omega
    · simp only at hP
      refine callP1 0 [] rfl rfl rfl rfl (fun _ => hopen _) (fun ch bx' hp => absurd hp.1 (by omega)) ?_
      rintro o r ⟨_, ho, rfl⟩
      cases ho
      obtain ⟨q1, q2⟩ := htl (by rw [hU]; rfl)
      generalize ts.tail = ts1 at *
      conv => whnf
      (refine goA ?_; try with_reducible exact trivial)
      refine callP1 0 [] rfl rfl rfl rfl (fun _ => su ts1 q1) (fun ch bx' hp => ?_) ?_
      · obtain ⟨x, e, he, hc⟩ := pnP_bad hp
        rw [he] at hP
        exact pnP_mk hP.symm hc
      rintro o r hpo
      obtain ⟨f, r1, he, ho, rfl⟩ := poP_ok hpo
      cases ho
      rw [he] at hP
      simp only at hP
      subst hP
      conv => whnf
      exact ⟨rfl, by rw [fmA_one]; rfl⟩
  rw [show decide (t.text = (({ data := #[101, 118, 101, 110, 116, 117, 97, 108, 108, 121] } : ByteArray), Value.int IntKind.i64 8).fst) = false from decide_eq_false h4]
  conv => whnf
  have hU : unKind t.text = none := by unfold unKind; rw [if_neg h1, if_neg h2, if_neg h3, if_neg h4]
  rw [hU] at hP
  simp only at hP
  have his := fun s => is_spec ts hl s
  have hti := fun s (hk : isT s ts = true) => h.is hk
  clear htl
  refine call1 0 [] rfl rfl rfl rfl (fun _ => his kTrue) ?_
  rintro o r ⟨ho, rfl⟩
  cases ho
  cases hT : isT kTrue ts with
  | true =>
    rw [hT, Bool.true_or, if_pos rfl] at hP
    conv => whnf
    refine call1 0 [] rfl rfl rfl rfl (fun _ => hnx) ?_
    rintro o r ⟨ho, rfl⟩
    cases ho
    conv => whnf
    (refine call0 [] rfl (fun _ => const_spec _) ?_; rintro r rfl; conv => whnf)
    subst hP
    exact ⟨rfl, rfl⟩
  | false =>
    conv => whnf
    refine call1 0 [] rfl rfl rfl rfl (fun _ => his kFalse) ?_
    rintro o r ⟨ho, rfl⟩
    cases ho
    cases hF : isT kFalse ts with
    | true =>
      rw [hT, hF, Bool.false_or, if_pos rfl] at hP
      conv => whnf
      refine call1 0 [] rfl rfl rfl rfl (fun _ => hnx) ?_
      rintro o r ⟨ho, rfl⟩
      cases ho
      conv => whnf
      (refine call0 [] rfl (fun _ => const_spec _) ?_; rintro r rfl; conv => whnf)
      subst hP
      exact ⟨rfl, rfl⟩
    | false =>
      rw [hT, hF, Bool.false_or, if_neg (by simp)] at hP
      conv => whnf
      refine call1 0 [] rfl rfl rfl rfl (fun _ => his kLp) ?_
      rintro o r ⟨ho, rfl⟩
      cases ho
      cases hL : isT kLp ts with
      | true =>
        rw [hL, if_pos rfl] at hP
        obtain ⟨q1, q2⟩ := hti _ hL
        conv => whnf
        (refine goA ?_; try with_reducible exact trivial)
        rcases hlo with ⟨rfl, rfl⟩ | ⟨p, rfl, hle, gu, gc, gf, su, sc, sf⟩
        · simp only at hP
          refine callP1 0 [] rfl rfl rfl rfl (fun _ => hopen _) (fun ch bx' hp => pnP_mk hP.symm hp.2) ?_
          rintro o r ⟨hbad, _⟩
          omega
        · simp only at hP
          refine callP1 0 [] rfl rfl rfl rfl (fun _ => hopen _) (fun ch bx' hp => absurd hp.1 (by omega)) ?_
          rintro o r ⟨_, ho, rfl⟩
          cases ho
          generalize ts.tail = ts1 at *
          conv => whnf
          (refine goA ?_; try with_reducible exact trivial)
          refine callP1 0 [] rfl rfl rfl rfl (fun _ => sf ts1 q1) (fun ch bx' hp => ?_) ?_
          · obtain ⟨x, e, he, hc⟩ := pnP_bad hp
            rw [he] at hP
            exact pnP_mk hP.symm hc
          rintro o r hpo
          obtain ⟨f, r1, he, ho, rfl⟩ := poP_ok hpo
          cases ho
          rw [he] at hP
          simp only at hP
          obtain ⟨g1, g2⟩ := gf _ _ _ q1 he
          conv => whnf
          refine call1 0 [] rfl rfl rfl rfl (fun _ => is_spec r1 g1.1.pos kRp) ?_
          rintro o r ⟨ho, rfl⟩
          cases ho
          cases hR : isT kRp r1 with
          | true =>
            rw [hR, if_pos rfl] at hP
            have hnx1 := next_spec r1 g1.1.pos
            conv => whnf
            refine call1 0 [] rfl rfl rfl rfl (fun _ => hnx1) ?_
            rintro o r ⟨ho, rfl⟩
            cases ho
            conv => whnf
            subst hP
            exact ⟨rfl, rfl⟩
          | false =>
            rw [hR, if_neg (by simp)] at hP
            conv => whnf
            refine callP1 0 [] rfl rfl rfl rfl (fun _ => fail_spec r1 g1.1.pos 10) (fun ch bx' hp => pnP_mk hP.symm hp) ?_
            rintro o r ⟨⟩
      | false =>
        rw [hL, if_neg (by simp)] at hP
        conv => whnf
        refine callP1 0 [] rfl rfl rfl rfl (fun _ => cmp_spec ts h.1) (fun ch bx' hp => by rw [← hP]; exact hp) ?_
        rintro o r hpo
        obtain ⟨f, r1, he, ho, rfl⟩ := poP_ok hpo
        cases ho
        rw [he] at hP
        subst hP
        conv => whnf
        exact ⟨rfl, rfl⟩
end Go.Proofs.YtpjcbadnpknncaaDoor.Vm
/- Formulas: join. -/
namespace Go.Proofs.YtpjcbadnpknncaaDoor.Vm
open Go.RowKit Go.Shelf
set_option linter.unusedSimpArgs false
set_option linter.unusedVariables false
set_option maxRecDepth 100000
def isC (f : Fm) : Bool := (decide (f.k = 3) || decide (f.k = 4)) && decide (f.kids.length = 0)
theorem isC_spec (f : Fm) : Spec Tryd.prog 41 [] [.agg (fmA f)] fun _ r => r = boolA (isC f) := by
  obtain ⟨k, a, b, n, l⟩ := f
  simp only [isC, Fm.k, Fm.kids]
  refine spec_of (cx_ok ord0 xs0 0) (fun _ _ h => h) Tryd.func41 rfl (by kernel_rfl) rfl (by kernel_rfl) ?_
  intro hok
  simp only [fmA, Fm.k, Fm.a, Fm.b, Fm.n, Fm.kids]
  conv => whnf
  have e0 : ∀ m : Nat, decide ((m : Int) = 0) = decide (m = 0) := fun m => by rw [decide_eq_decide]; omega
  by_cases h3 : k = 3
  · rw [decide_eq_true h3]
    conv => whnf
    rw [e0]
    simp [boolA, h3]
  · rw [decide_eq_false h3]
    conv => whnf
    by_cases h4 : k = 4
    · rw [decide_eq_true h4]
      conv => whnf
      rw [e0]
      simp [boolA, h4]
    · rw [decide_eq_false h4]
      conv => whnf
      simp [boolA, h3, h4]
def AskF (c : Nat) (h : Fm) (p : Fm → Bool) : Prop := ∀ g, Spec Tryd.prog c [] [.agg (fmA g), .pp (fmA h)] fun _ r => r = boolA (p g)
theorem ask1 (h : Fm) : AskF 51 h fun g => eqM h g := fun g => by
  have hq := equal_spec h g
  unfold EqSpec at hq
  refine spec_of (cx_ok ord0 xs0 0) (fun _ _ h => h) Tryd.func51 rfl (by kernel_rfl) rfl (by kernel_rfl) ?_
  intro _
  conv => whnf
  (refine call0 [] rfl (fun _ => hq) ?_; rintro r rfl; conv => whnf)
  rfl
theorem ask2 (h : Fm) : AskF 53 h fun g => eqM g h := fun g => by
  have hq := equal_spec g h
  unfold EqSpec at hq
  refine spec_of (cx_ok ord0 xs0 0) (fun _ _ h => h) Tryd.func53 rfl (by kernel_rfl) rfl (by kernel_rfl) ?_
  intro _
  conv => whnf
  (refine call0 [] rfl (fun _ => hq) ?_; rintro r rfl; conv => whnf)
  rfl
def idxP (p : Fm → Bool) : List Fm → Int → Int
  | [], _ => -1
  | f :: l, i => if p f = true then i else idxP p l (i + 1)
theorem idxP_any (p : Fm → Bool) : ∀ (l : List Fm) (i : Int), 0 ≤ i → decide (0 ≤ idxP p l i) = l.any p
  | [], i, _ => rfl
  | f :: l, i, h => by
    rw [idxP, List.any_cons]
    by_cases hp : p f = true
    · rw [if_pos hp, hp, decide_eq_true h]; rfl
    · rw [if_neg hp, idxP_any p l (i + 1) (by omega)]
      simp only [Bool.not_eq_true] at hp
      rw [hp]; rfl
theorem idxF_spec (l : List Fm) (c : Nat) (h : Fm) (p : Fm → Bool) (hp : AskF c h p) : Spec Tryd.prog 60 [] [.sl 5 l.length (fmsA l), .clo c [.pp (fmA h)]] fun _ r => r = intA (idxP p l 0) := by
  refine spec_of (cx_ok ord0 xs0 0) (fun _ _ h => h) Tryd.func60 rfl (by kernel_rfl) rfl (by kernel_rfl) ?_
  intro hok
  have hl := okSl (okL_mem hok (List.mem_cons_self ..))
  unfold maxLen at hl
  conv => whnf
  refine loop_keep [0, 1, 7] ?_
  conv => whnf
  refine loop_go (fun k : Nat => [(8, .v (.int .i64 k))]) (fun _ => []) (fun _ => []) (fun k => k ≤ l.length ∧ idxP p (l.drop k) k = idxP p l 0) (fun k => l.length - k) 0 ?_ ⟨Nat.zero_le _, rfl⟩ ?_
  · repeat' constructor
  · rintro k ⟨hk, hinv⟩
    conv => whnf
    by_cases hlt : k < l.length
    · have hr := rowOf_fms l k hlt
      rw [List.drop_eq_getElem_cons hlt] at hinv
      generalize l[k] = s at *
      (refine goA ?_; try with_reducible exact trivial)
      (generalize hrq : rowOf _ _ (fmsA l) = rq; obtain rfl : rq = fmA s := hrq.symm.trans (hr); clear hrq; conv => whnf)
      (refine call0 [] rfl (fun _ => hp s) ?_; rintro r rfl; conv => whnf)
      cases hq : p s with
      | true =>
        (refine goA ?_; try with_reducible exact trivial)
        rw [idxP, if_pos hq] at hinv
        rw [← hinv]
        rfl
      | false =>
        (refine goA ?_; try with_reducible exact trivial)
        rw [idxP, if_neg (by rw [hq]; simp)] at hinv
        refine ⟨i64w (by omega), ?_⟩
        conv => whnf
        refine ⟨k + 1, le_head ?_, ⟨hlt, by push_cast; exact hinv⟩, by omega⟩
        repeat' constructor
    · (refine goA ?_; try with_reducible exact trivial)
      rw [List.drop_of_length_le (by omega)] at hinv
      rw [← hinv]
      rfl
theorem contF_spec (l : List Fm) (c : Nat) (h : Fm) (p : Fm → Bool) (hp : AskF c h p) : Spec Tryd.prog 50 [] [.sl 5 l.length (fmsA l), .clo c [.pp (fmA h)]] fun _ r => r = boolA (l.any p) := by
  have hi := idxF_spec l c h p hp
  have ha := idxP_any p l 0 (by omega)
  generalize idxP p l 0 = i at *
  refine spec_of (cx_ok ord0 xs0 0) (fun _ _ h => h) Tryd.func50 rfl (by kernel_rfl) rfl (by kernel_rfl) ?_
  intro hok
  conv => whnf
  (refine call0 [] rfl (fun _ => hi) ?_; rintro r rfl; conv => whnf)
  rw [ha]
  rfl
/-! ### join -/
def addF (acc : List Fm) (f : Fm) : List Fm := if acc.any (fun g => eqM f g) = true then acc else acc ++ [f]
def partsF (kind : Int) (f : Fm) : List Fm := if f.k = kind then f.kids else [f]
def flatJ (kind : Int) (l : List Fm) : List Fm := l.flatMap (partsF kind)
def absF (kind : Int) : Fm := constF (decide (kind = 4))
def finJ (kind : Int) (l : List Fm) : Fm := if l.any (fun g => eqM g (absF kind)) = true then absF kind else match l with
  | [f] => f
  | l => .mk kind 0 0 0 l
def joinF (kind : Int) (l : List Fm) : Fm := finJ kind ((flatJ kind l).foldl addF [])
theorem flat_drop (kind : Int) (l : List Fm) (k : Nat) (h : k < l.length) : flatJ kind (l.drop k) = partsF kind l[k] ++ flatJ kind (l.drop (k + 1)) := by
  rw [List.drop_eq_getElem_cons h]
  unfold flatJ
  rw [List.flatMap_cons]
theorem addF_len (acc : List Fm) (f : Fm) : acc.length ≤ (addF acc f).length ∧ (addF acc f).length ≤ acc.length + 1 := by
  unfold addF
  split <;> simp
theorem foldF_len : ∀ (l acc : List Fm), (l.foldl addF acc).length ≤ acc.length + l.length
  | [], acc => by simp
  | f :: l, acc => by
    have := foldF_len l (addF acc f)
    have := (addF_len acc f).2
    simp only [List.foldl_cons, List.length_cons]
    omega
theorem finJ_two (kind : Int) (f1 f2 : Fm) (l : List Fm) : (match f1 :: f2 :: l with | [f] => f | l => Fm.mk kind 0 0 0 l) = .mk kind 0 0 0 (f1 :: f2 :: l) := rfl
set_option maxHeartbeats 1000000 in
theorem join_spec (kind : Int) (kids : List Fm) (hb : (flatJ kind kids).length ≤ 1000000000000) : Spec Tryd.prog 32 [] [intA kind, .sl 5 kids.length (fmsA kids)] fun _ r => r = .agg (fmA (joinF kind kids)) := by
  have hcs := const_spec (decide (kind = 4))
  obtain ⟨L, hL⟩ : ∃ L, (flatJ kind kids).foldl addF [] = L := ⟨_, rfl⟩
  unfold joinF
  rw [hL]
  refine spec_of (cx_ok ord0 xs0 0) (fun _ _ h => h) Tryd.func32 rfl (by kernel_rfl) rfl (by kernel_rfl) ?_
  intro hok
  have hkl := okSl (okL_mem hok (show A.sl 5 kids.length (fmsA kids) ∈ _ from by simp))
  unfold maxLen at hkl
  conv => whnf
  (refine call0 [] rfl (fun _ => hcs) ?_; rintro r rfl; conv => whnf)
  refine loop_row 25 5 [6] [] ?_
  conv => whnf
  refine ⟨trivial, ?_⟩
  conv => whnf
  refine loop_keep [0, 4, 5, 15, 16] ?_
  conv => whnf
  refine loop_goQ (fun x : Nat × List Fm => [(17, .v (.int .i64 x.1)), (6, .own 0)]) (fun _ => [zero5, fmA (absF kind)]) (fun x => [.live 25 5 x.2.length (fmsA x.2)]) (fun x => x.1 ≤ kids.length ∧ (flatJ kind (kids.drop x.1)).foldl addF x.2 = L ∧ x.2.length + (flatJ kind (kids.drop x.1)).length ≤ 1000000000000) (fun x => kids.length - x.1) (0, []) ?_ ⟨Nat.zero_le _, hL, by simpa using hb⟩ ?_
  · unfold headQ
    repeat' constructor
    · show [Row.live _ _ _ _] = [Row.live _ _ _ _]
      rw [fmsA_nil]; rfl
  · rintro ⟨k, acc⟩ ⟨hk, hinv, hbd⟩
    simp only at hk hinv hbd
    conv => whnf
    by_cases hlt : k < kids.length
    · have hr := rowOf_fms kids k hlt
      rw [flat_drop kind kids k hlt, List.foldl_append] at hinv
      rw [flat_drop kind kids k hlt, List.length_append] at hbd
      generalize kids[k] = f at *
      obtain ⟨ps, hps⟩ : ∃ ps, partsF kind f = ps := ⟨_, rfl⟩
      rw [hps] at hinv hbd
      obtain ⟨acc1, ha1⟩ : ∃ acc1, ps.foldl addF acc = acc1 := ⟨_, rfl⟩
      rw [ha1] at hinv
      have hinv0 := hinv
      have hl1 := foldF_len ps acc
      rw [ha1] at hl1
      unfold partsF at hps
      (refine goA ?_; try with_reducible exact trivial)
      (generalize hrq : rowOf _ _ (fmsA kids) = rq; obtain rfl : rq = fmA f := hrq.symm.trans (hr); clear hrq; conv => whnf)
      by_cases hkk : f.k = kind
      · rw [if_pos hkk] at hps
        have hrp : ∀ j (h : j < ps.length), rowOf 5 (Int.toNat j) (fmsA f.kids) = fmA ps[j] := fun j h => by subst hps; exact rowOf_fms f.kids j h
        have hln : f.kids.length = ps.length := by rw [hps]
        (refine goA ?_; try with_reducible exact trivial)
        refine loop_pub [1] ?_
        conv => whnf
        refine loop_keep [0, 4, 5, 6, 8, 9, 15, 16, 17, 29, 30] ?_
        conv => whnf
        refine loop_goQ (fun x : Nat × List Fm => [(31, .v (.int .i64 x.1)), (6, .own 0), (29, .sl 5 f.kids.length (fmsA f.kids))]) (fun _ => [zero5, fmA (absF kind), fmA f]) (fun x => [.live 25 5 x.2.length (fmsA x.2), .pub 5 1 (fmA f)]) (fun x => x.1 ≤ ps.length ∧ ((ps.drop x.1)).foldl addF x.2 = acc1 ∧ x.2.length + (ps.length - x.1) ≤ acc.length + ps.length) (fun x => ps.length - x.1) (0, acc) ?_ ⟨Nat.zero_le _, ha1, by simp⟩ ?_
        · unfold headQ
          repeat' constructor
        · rintro ⟨j, ac⟩ ⟨hj, hinv, hbd2⟩
          simp only at hj hinv hbd2
          conv => whnf
          by_cases hjl : j < ps.length
          · have hrj := hrp j hjl
            rw [List.drop_eq_getElem_cons hjl, List.foldl_cons] at hinv
            generalize ps[j] = g at *
            (refine goA ?_; try with_reducible exact trivial)
            (generalize hrq : rowOf _ _ (fmsA f.kids) = rq; obtain rfl : rq = fmA g := hrq.symm.trans (hrj); clear hrq; conv => whnf)
            refine callL [0] rfl (fun _ => contF_spec ac 51 g _ (ask1 g)) ?_
            rintro r rfl
            refine ⟨_, rfl, ?_⟩
            conv => whnf
            unfold addF at hinv
            cases hq : ac.any (fun x => eqM g x) with
            | true =>
              rw [hq, if_pos rfl] at hinv
              conv => whnf
              refine ⟨i64w (by omega), ?_⟩
              conv => whnf
              refine ⟨(j + 1, ac), le_head ?_, ⟨hjl, hinv, by simp only; omega⟩, by simp only; omega⟩
              repeat' constructor
            | false =>
              rw [hq, if_neg (by simp)] at hinv
              conv => whnf
              refine ⟨⟨by simp only; unfold maxLen; omega, by simp only; omega⟩, ?_⟩
              conv => whnf
              refine ⟨i64w (by omega), ?_⟩
              conv => whnf
              refine ⟨(j + 1, ac ++ [g]), le_head ?_, ⟨hjl, hinv, by simp only [List.length_append, List.length_cons, List.length_nil]; omega⟩, by simp only; omega⟩
              repeat' constructor
              · simp only [List.length_append, List.length_cons, List.length_nil]
                rw [fmsA_snoc]; rfl
          · (refine goA ?_; try with_reducible exact trivial)
            rw [List.drop_of_length_le (by omega)] at hinv
            change ac = acc1 at hinv
            subst hinv
            refine ⟨(k + 1, ac), le_head ?_, ⟨hlt, hinv0, by simp only; omega⟩, by simp only; omega⟩
            repeat' constructor
      · rw [if_neg hkk] at hps
        have hrp : ∀ j (h : j < ps.length), rowOf 5 (Int.toNat j) (fmA f) = fmA ps[j] := fun j h => by
          subst hps
          have := rowOf_fms [f] j h
          rw [fmsA_cons, fmsA_nil, List.append_nil] at this
          exact this
        have hln : 1 = ps.length := by rw [← hps]; rfl
        (refine goA ?_; try with_reducible exact trivial)
        refine loop_pub [1] ?_
        conv => whnf
        refine loop_keep [0, 4, 5, 6, 8, 9, 15, 16, 17, 29, 30] ?_
        conv => whnf
        refine loop_goQ (fun x : Nat × List Fm => [(31, .v (.int .i64 x.1)), (6, .own 0), (29, .sl 5 1 (fmA f))]) (fun _ => [zero5, fmA (absF kind), fmA f]) (fun x => [.live 25 5 x.2.length (fmsA x.2), .pub 5 1 (fmA f)]) (fun x => x.1 ≤ ps.length ∧ ((ps.drop x.1)).foldl addF x.2 = acc1 ∧ x.2.length + (ps.length - x.1) ≤ acc.length + ps.length) (fun x => ps.length - x.1) (0, acc) ?_ ⟨Nat.zero_le _, ha1, by simp⟩ ?_
        · unfold headQ
          repeat' constructor
        · rintro ⟨j, ac⟩ ⟨hj, hinv, hbd2⟩
          simp only at hj hinv hbd2
          conv => whnf
          by_cases hjl : j < ps.length
          · have hrj := hrp j hjl
            rw [List.drop_eq_getElem_cons hjl, List.foldl_cons] at hinv
            generalize ps[j] = g at *
            (refine goA ?_; try with_reducible exact trivial)
            (generalize hrq : rowOf _ _ (fmA f) = rq; obtain rfl : rq = fmA g := hrq.symm.trans (hrj); clear hrq; conv => whnf)
            refine callL [0] rfl (fun _ => contF_spec ac 51 g _ (ask1 g)) ?_
            rintro r rfl
            refine ⟨_, rfl, ?_⟩
            conv => whnf
            unfold addF at hinv
            cases hq : ac.any (fun x => eqM g x) with
            | true =>
              rw [hq, if_pos rfl] at hinv
              conv => whnf
              refine ⟨i64w (by omega), ?_⟩
              conv => whnf
              refine ⟨(j + 1, ac), le_head ?_, ⟨hjl, hinv, by simp only; omega⟩, by simp only; omega⟩
              repeat' constructor
            | false =>
              rw [hq, if_neg (by simp)] at hinv
              conv => whnf
              refine ⟨⟨by simp only; unfold maxLen; omega, by simp only; omega⟩, ?_⟩
              conv => whnf
              refine ⟨i64w (by omega), ?_⟩
              conv => whnf
              refine ⟨(j + 1, ac ++ [g]), le_head ?_, ⟨hjl, hinv, by simp only [List.length_append, List.length_cons, List.length_nil]; omega⟩, by simp only; omega⟩
              repeat' constructor
              · simp only [List.length_append, List.length_cons, List.length_nil]
                rw [fmsA_snoc]; rfl
          · (refine goA ?_; try with_reducible exact trivial)
            rw [List.drop_of_length_le (by omega)] at hinv
            change ac = acc1 at hinv
            subst hinv
            refine ⟨(k + 1, ac), le_head ?_, ⟨hlt, hinv0, by simp only; omega⟩, by simp only; omega⟩
            repeat' constructor
    · rw [List.drop_of_length_le (by omega)] at hinv
      change acc = L at hinv
      subst hinv
      unfold finJ
      (refine goA ?_; try with_reducible exact trivial)
      refine callL [0] rfl (fun _ => contF_spec acc 53 (absF kind) _ (ask2 (absF kind))) ?_
      rintro r rfl
      refine ⟨_, rfl, ?_⟩
      conv => whnf
      cases hq : acc.any (fun x => eqM x (absF kind)) with
      | true =>
        rw [if_pos rfl]
        conv => whnf
        rfl
      | false =>
        rw [if_neg (by simp)]
        conv => whnf
        rcases acc with _ | ⟨f1, acc⟩
        · conv => whnf
          rfl
        rcases acc with _ | ⟨f2, acc⟩
        · have e1 : fmsA [f1] = fmA f1 := by rw [fmsA_cons, fmsA_nil, List.append_nil]
          simp only [e1]
          conv => whnf
          (refine goA ?_; try with_reducible exact trivial)
          rfl
        · have hln : (f1 :: f2 :: acc).length = acc.length + 2 := by simp
          rw [finJ_two]
          generalize f1 :: f2 :: acc = M at *
          conv => whnf
          (refine goA ?_; try with_reducible exact trivial)
          rfl
end Go.Proofs.YtpjcbadnpknncaaDoor.Vm
/- Formulas: build, simplify. -/
namespace Go.Proofs.YtpjcbadnpknncaaDoor.Vm
open Go.RowKit Go.Shelf
set_option linter.unusedSimpArgs false
set_option linter.unusedVariables false
set_option maxRecDepth 100000
def fz : Fm := .mk 0 0 0 0 []
def g0 (l : List Fm) : Fm := l.getD 0 fz
def g1 (l : List Fm) : Fm := l.getD 1 fz
def buildK (k a b n : Int) (ks : List Fm) : Fm :=
  if k = 3 ∨ k = 4 then joinF k ks
  else if k = 2 then (if isC (g0 ks) = true then constF (decide ((g0 ks).k = 4)) else if (g0 ks).k = 2 then g0 (g0 ks).kids else .mk k a b n ks)
  else if k = 6 then (if (isC (g1 ks) || eqM (g0 ks) (constF false)) = true then g1 ks else .mk k a b n ks)
  else if k = 5 ∨ k = 7 ∨ k = 8 then (if isC (g0 ks) = true then g0 ks else .mk k a b n ks)
  else .mk k a b n ks
def buildF (f : Fm) (ks : List Fm) : Fm := buildK f.k f.a f.b f.n ks
theorem mk_k (k a b n : Int) (l : List Fm) : (Fm.mk k a b n l).k = k := rfl
structure NeedK (k : Int) (ks : List Fm) : Prop where
  j : k = 3 ∨ k = 4 → (flatJ k ks).length ≤ 1000000000000
  n : k = 2 → 1 ≤ ks.length ∧ ((g0 ks).k = 2 → 1 ≤ (g0 ks).kids.length)
  u : k = 6 → 2 ≤ ks.length
  o : k = 5 ∨ k = 7 ∨ k = 8 → 1 ≤ ks.length
theorem row0 {l : List Fm} (h : 1 ≤ l.length) : rowOf 5 (Int.toNat 0) (fmsA l) = fmA (g0 l) := by
  have := rowOf_fms l 0 h
  unfold g0
  rw [List.getD_eq_getElem?_getD, List.getElem?_eq_getElem h]
  exact this
theorem row1 {l : List Fm} (h : 2 ≤ l.length) : rowOf 5 (Int.toNat 1) (fmsA l) = fmA (g1 l) := by
  have := rowOf_fms l 1 h
  unfold g1
  rw [List.getD_eq_getElem?_getD, List.getElem?_eq_getElem h]
  exact this
set_option maxHeartbeats 1000000 in
theorem build_spec (f : Fm) (ks : List Fm) (h : NeedK f.k ks) : Spec Tryd.prog 33 [] [.agg (fmA f), .sl 5 ks.length (fmsA ks)] fun _ r => r = .agg (fmA (buildF f ks)) := by
  have hjoin := fun h => join_spec f.k ks h
  obtain ⟨R, hR⟩ : ∃ R, buildF f ks = R := ⟨_, rfl⟩
  rw [hR]
  obtain ⟨k, a, b, n, l⟩ := f
  change buildK k a b n ks = R at hR
  change (flatJ k ks).length ≤ 1000000000000 → Spec Tryd.prog 32 [] [intA k, .sl 5 ks.length (fmsA ks)] (fun _ r => r = .agg (fmA (joinF k ks))) at hjoin
  change NeedK k ks at h
  unfold buildK at hR
  refine spec_of (cx_ok (fun id => match Nat.beq id 11 with | true => .q 0 7 .nil | false => ord33 id) xs0 0) (fun _ _ h => h) Tryd.func33 rfl (by kernel_rfl) rfl (by kernel_rfl) ?_
  intro hok
  simp only [fmA, Fm.k, Fm.a, Fm.b, Fm.n, Fm.kids]
  conv => whnf
  by_cases h3 : k = 3
  · rw [decide_eq_true h3]
    rw [if_pos (show k = 3 ∨ k = 4 from .inl h3)] at hR
    conv => whnf
    (refine call0 [] rfl (fun _ => hjoin (h.j (.inl h3))) ?_; rintro r rfl; conv => whnf)
    rw [hR]
    rfl
  · rw [decide_eq_false h3]
    conv => whnf
    by_cases h4 : k = 4
    · rw [decide_eq_true h4]
      rw [if_pos (show k = 3 ∨ k = 4 from .inr h4)] at hR
      conv => whnf
      (refine call0 [] rfl (fun _ => hjoin (h.j (.inr h4))) ?_; rintro r rfl; conv => whnf)
      rw [hR]
      rfl
    · rw [decide_eq_false h4]
      rw [if_neg (show ¬ (k = 3 ∨ k = 4) by omega)] at hR
      conv => whnf
      by_cases h2 : k = 2
      · obtain ⟨hn1, hn2⟩ := h.n h2
        have hr0 := row0 hn1
        rw [decide_eq_true h2]
        rw [if_pos h2] at hR
        generalize g0 ks = x at *
        have hisc := isC_spec x
        have hcs := const_spec (decide (x.k = 4))
        conv => whnf
        (refine goA ?_; try with_reducible exact trivial)
        (generalize hrq : rowOf _ _ (fmsA ks) = rq; obtain rfl : rq = fmA x := hrq.symm.trans (hr0); clear hrq; conv => whnf)
        (refine call0 [] rfl (fun _ => hisc) ?_; rintro r rfl; conv => whnf)
        cases hc : isC x with
        | true =>
          rw [if_pos hc] at hR
          conv => whnf
          (refine goA ?_; try with_reducible exact trivial)
          (generalize hrq : rowOf _ _ (fmsA ks) = rq; obtain rfl : rq = fmA x := hrq.symm.trans (hr0); clear hrq; conv => whnf)
          (refine call0 [] rfl (fun _ => hcs) ?_; rintro r rfl; conv => whnf)
          rw [hR]
          rfl
        | false =>
          rw [if_neg (show ¬ isC x = true by rw [hc]; simp)] at hR
          conv => whnf
          (refine goA ?_; try with_reducible exact trivial)
          (generalize hrq : rowOf _ _ (fmsA ks) = rq; obtain rfl : rq = fmA x := hrq.symm.trans (hr0); clear hrq; conv => whnf)
          by_cases hx2 : x.k = 2
          · rw [decide_eq_true hx2]
            rw [if_pos hx2] at hR
            have hr1 := row0 (hn2 hx2)
            generalize g0 x.kids = y at *
            have hn3 := hn2 hx2
            conv => whnf
            (refine goA ?_; try with_reducible exact trivial)
            (generalize hrq : rowOf _ _ (fmsA ks) = rq; obtain rfl : rq = fmA x := hrq.symm.trans (hr0); clear hrq; conv => whnf)
            (refine goA ?_; try with_reducible exact trivial)
            (generalize hrq : rowOf _ _ (fmsA x.kids) = rq; obtain rfl : rq = fmA y := hrq.symm.trans (hr1); clear hrq; conv => whnf)
            rw [hR]
            rfl
          · rw [decide_eq_false hx2]
            rw [if_neg hx2] at hR
            conv => whnf
            rw [← hR]
            rfl
      · rw [decide_eq_false h2]
        rw [if_neg h2] at hR
        conv => whnf
        by_cases h6 : k = 6
        · have hn := h.u h6
          have hr0 := row0 (l := ks) (by omega)
          have hr1 := row1 hn
          rw [decide_eq_true h6]
          rw [if_pos h6] at hR
          generalize g0 ks = x at *
          generalize g1 ks = y at *
          have hisc := isC_spec y
          have hcs := const_spec false
          have heq := equal_spec x (constF false)
          unfold EqSpec at heq
          conv => whnf
          (iterate 1 (apply flow_go; (focus ((conv => whnf); exact ⟨rfl, rfl, rfl⟩)); (conv => whnf)))
          (apply flow_go; (focus ((conv => whnf); refine ⟨by omega, ?_⟩; (generalize hrq : rowOf _ _ (fmsA ks) = rq; obtain rfl : rq = fmA y := hrq.symm.trans (hr1); exact ⟨rfl, rfl, rfl⟩))); (conv => whnf))
          (iterate 1 (apply flow_go; (focus ((conv => whnf); exact ⟨rfl, rfl, rfl⟩)); (conv => whnf)))
          (apply flow_go; (focus ((conv => whnf); refine call0 [] rfl (fun _ => hisc) ?_; rintro r rfl; (conv => whnf); exact ⟨rfl, rfl, rfl⟩)); (conv => whnf))
          cases hc : isC y with
          | true =>
            rw [hc, Bool.true_or, if_pos rfl] at hR
            (iterate 1 (apply flow_go; (focus ((conv => whnf); exact ⟨rfl, rfl, rfl⟩)); (conv => whnf)))
            (iterate 5 (apply flow_go; (focus ((conv => whnf); done)); (conv => whnf)))
            (iterate 1 (apply flow_go; (focus ((conv => whnf); exact ⟨rfl, rfl, rfl⟩)); (conv => whnf)))
            (refine goA ?_; try with_reducible exact trivial)
            (generalize hrq : rowOf _ _ (fmsA ks) = rq; obtain rfl : rq = fmA y := hrq.symm.trans (hr1); clear hrq; conv => whnf)
            rw [← hR]
            rfl
          | false =>
            rw [hc, Bool.false_or] at hR
            (iterate 2 (apply flow_go; (focus ((conv => whnf); exact ⟨rfl, rfl, rfl⟩)); (conv => whnf)))
            (apply flow_go; (focus ((conv => whnf); refine ⟨by omega, ?_⟩; (generalize hrq : rowOf _ _ (fmsA ks) = rq; obtain rfl : rq = fmA x := hrq.symm.trans (hr0); exact ⟨rfl, rfl, rfl⟩))); (conv => whnf))
            (iterate 1 (apply flow_go; (focus ((conv => whnf); exact ⟨rfl, rfl, rfl⟩)); (conv => whnf)))
            (apply flow_go; (focus ((conv => whnf); refine call0 [] rfl (fun _ => hcs) ?_; rintro r rfl; (conv => whnf); exact ⟨rfl, rfl, rfl⟩)); (conv => whnf))
            (apply flow_go; (focus ((conv => whnf); refine call0 [] rfl (fun _ => heq) ?_; rintro r rfl; (conv => whnf); exact ⟨rfl, rfl, rfl⟩)); (conv => whnf))
            cases he : eqM x (constF false) with
            | true =>
              rw [he, if_pos rfl] at hR
              (iterate 1 (apply flow_go; (focus ((conv => whnf); exact ⟨rfl, rfl, rfl⟩)); (conv => whnf)))
              (refine goA ?_; try with_reducible exact trivial)
              (generalize hrq : rowOf _ _ (fmsA ks) = rq; obtain rfl : rq = fmA y := hrq.symm.trans (hr1); clear hrq; conv => whnf)
              rw [← hR]
              rfl
            | false =>
              rw [he, if_neg (by simp)] at hR
              (iterate 1 (apply flow_go; (focus ((conv => whnf); exact ⟨rfl, rfl, rfl⟩)); (conv => whnf)))
              (refine goA ?_; try with_reducible exact trivial)
              rw [← hR]
              rfl
        · rw [decide_eq_false h6]
          rw [if_neg h6] at hR
          conv => whnf
          by_cases h5 : k = 5 ∨ k = 7 ∨ k = 8
          · have hn1 := h.o h5
            have hr0 := row0 hn1
            rw [if_pos h5] at hR
            generalize g0 ks = x at *
            have hisc := isC_spec x
            rcases h5 with h5 | h5 | h5
            · rw [decide_eq_true h5]
              conv => whnf
              (refine goA ?_; try with_reducible exact trivial)
              (generalize hrq : rowOf _ _ (fmsA ks) = rq; obtain rfl : rq = fmA x := hrq.symm.trans (hr0); clear hrq; conv => whnf)
              (refine call0 [] rfl (fun _ => hisc) ?_; rintro r rfl; conv => whnf)
              cases hc : isC x with
              | true =>
                rw [if_pos hc] at hR
                conv => whnf
                (refine goA ?_; try with_reducible exact trivial)
                (generalize hrq : rowOf _ _ (fmsA ks) = rq; obtain rfl : rq = fmA x := hrq.symm.trans (hr0); clear hrq; conv => whnf)
                rw [← hR]
                rfl
              | false =>
                rw [if_neg (show ¬ isC x = true by rw [hc]; simp)] at hR
                conv => whnf
                rw [← hR]
                rfl
            · rw [decide_eq_false (show ¬ k = 5 by omega)]
              conv => whnf
              rw [decide_eq_true h5]
              conv => whnf
              (refine goA ?_; try with_reducible exact trivial)
              (generalize hrq : rowOf _ _ (fmsA ks) = rq; obtain rfl : rq = fmA x := hrq.symm.trans (hr0); clear hrq; conv => whnf)
              (refine call0 [] rfl (fun _ => hisc) ?_; rintro r rfl; conv => whnf)
              cases hc : isC x with
              | true =>
                rw [if_pos hc] at hR
                conv => whnf
                (refine goA ?_; try with_reducible exact trivial)
                (generalize hrq : rowOf _ _ (fmsA ks) = rq; obtain rfl : rq = fmA x := hrq.symm.trans (hr0); clear hrq; conv => whnf)
                rw [← hR]
                rfl
              | false =>
                rw [if_neg (show ¬ isC x = true by rw [hc]; simp)] at hR
                conv => whnf
                rw [← hR]
                rfl
            · rw [decide_eq_false (show ¬ k = 5 by omega)]
              conv => whnf
              rw [decide_eq_false (show ¬ k = 7 by omega)]
              conv => whnf
              rw [decide_eq_true h5]
              conv => whnf
              (refine goA ?_; try with_reducible exact trivial)
              (generalize hrq : rowOf _ _ (fmsA ks) = rq; obtain rfl : rq = fmA x := hrq.symm.trans (hr0); clear hrq; conv => whnf)
              (refine call0 [] rfl (fun _ => hisc) ?_; rintro r rfl; conv => whnf)
              cases hc : isC x with
              | true =>
                rw [if_pos hc] at hR
                conv => whnf
                (refine goA ?_; try with_reducible exact trivial)
                (generalize hrq : rowOf _ _ (fmsA ks) = rq; obtain rfl : rq = fmA x := hrq.symm.trans (hr0); clear hrq; conv => whnf)
                rw [← hR]
                rfl
              | false =>
                rw [if_neg (show ¬ isC x = true by rw [hc]; simp)] at hR
                conv => whnf
                rw [← hR]
                rfl
          · rw [if_neg h5] at hR
            rw [decide_eq_false (show ¬ k = 5 by omega)]
            conv => whnf
            rw [decide_eq_false (show ¬ k = 7 by omega)]
            conv => whnf
            rw [decide_eq_false (show ¬ k = 8 by omega)]
            conv => whnf
            rw [← hR]
            rfl
end Go.Proofs.YtpjcbadnpknncaaDoor.Vm
/- Formulas: simplify, Progress. -/
namespace Go.Proofs.YtpjcbadnpknncaaDoor.Vm
open Go.RowKit Go.Shelf
set_option linter.unusedSimpArgs false
set_option linter.unusedVariables false
set_option maxRecDepth 100000
mutual
def simF : Fm → Fm
  | .mk k a b n l => buildK k a b n (simFs l)
def simFs : List Fm → List Fm
  | [] => []
  | f :: l => simF f :: simFs l
end
theorem simFs_map : ∀ l : List Fm, simFs l = l.map simF
  | [] => by unfold simFs; rfl
  | f :: l => by unfold simFs; rw [simFs_map l]; rfl
theorem simF_mk (k a b n : Int) (l : List Fm) : simF (.mk k a b n l) = buildK k a b n (l.map simF) := by
  rw [← simFs_map]
  conv => lhs; unfold simF
mutual
/-- simplify can be applied. -/
def FitS : Fm → Prop
  | .mk k _ _ _ l => l.length ≤ 1000000000000 ∧ NeedK k (simFs l) ∧ FitSs l
def FitSs : List Fm → Prop
  | [] => True
  | f :: l => FitS f ∧ FitSs l
end
theorem fitSs_mem : ∀ {l : List Fm} {f : Fm}, FitSs l → f ∈ l → FitS f
  | g :: l, f, h, hf => by
    unfold FitSs at h
    rcases List.mem_cons.1 hf with rfl | hf
    · exact h.1
    · exact fitSs_mem h.2 hf
theorem fitSs_mk : ∀ {l : List Fm}, (∀ f ∈ l, FitS f) → FitSs l
  | [], _ => by unfold FitSs; trivial
  | g :: l, h => by unfold FitSs; exact ⟨h g (by simp), fitSs_mk fun f hf => h f (by simp [hf])⟩
theorem fitS_mk {k a b n : Int} {l : List Fm} (h0 : l.length ≤ 1000000000000) (h1 : NeedK k (l.map simF)) (h2 : ∀ f ∈ l, FitS f) : FitS (.mk k a b n l) := by
  unfold FitS
  rw [simFs_map]
  exact ⟨h0, h1, fitSs_mk h2⟩
theorem fitS_of {k a b n : Int} {l : List Fm} (h : FitS (.mk k a b n l)) : l.length ≤ 1000000000000 ∧ NeedK k (l.map simF) ∧ ∀ f ∈ l, FitS f := by
  unfold FitS at h
  rw [simFs_map] at h
  exact ⟨h.1, h.2.1, fun f hf => fitSs_mem h.2.2 hf⟩
theorem take_map {α : Type} (g : α → Fm) (l : List α) (k : Nat) (h : k < l.length) : (l.take (k + 1)).map g = (l.take k).map g ++ [g l[k]] := by
  rw [List.take_add_one, List.getElem?_eq_getElem h, List.map_append]; rfl
set_option maxHeartbeats 1000000 in
theorem simplify_spec : ∀ (f : Fm), FitS f → Spec Tryd.prog 31 [] [.agg (fmA f)] fun _ r => r = .agg (fmA (simF f))
  | .mk k a b n l, hfit => by
    obtain ⟨hl, hneed, hfk⟩ := fitS_of hfit
    have ih : ∀ f ∈ l, Spec Tryd.prog 31 [] [.agg (fmA f)] fun _ r => r = .agg (fmA (simF f)) := fun f hf => simplify_spec f (hfk f hf)
    have hbuild := build_spec (.mk k a b n l) (l.map simF) hneed
    rw [simF_mk]
    change Spec _ _ _ _ (fun _ r => r = .agg (fmA (buildK k a b n (l.map simF)))) at hbuild
    generalize buildK k a b n (l.map simF) = R at *
    refine spec_of (cx_ok ord0 xs0 0) (fun _ _ h => h) Tryd.func31 rfl (by kernel_rfl) rfl (by kernel_rfl) ?_
    intro hok
    simp only [fmA, Fm.k, Fm.a, Fm.b, Fm.n, Fm.kids] at hbuild ⊢
    clear hfit
    conv => whnf
    refine loop_row 25 5 [3] [] ?_
    conv => whnf
    refine ⟨trivial, ?_⟩
    conv => whnf
    refine loop_keep [1, 2, 3, 7, 8] ?_
    conv => whnf
    refine loop_goQ (fun j : Nat => [(9, .v (.int .i64 j)), (3, .own 0)]) (fun _ => [[intA k, intA a, intA b, intA n, .sl 5 l.length (fmsA l)], zero5]) (fun j => [.live 25 5 j (fmsA ((l.take j).map simF))]) (fun j => j ≤ l.length) (fun j => l.length - j) 0 ?_ (Nat.zero_le _) ?_
    · unfold headQ
      repeat' constructor
      · show [Row.live _ _ _ _] = [Row.live _ _ _ _]
        rw [List.take_zero, List.map_nil, fmsA_nil]
    · rintro j hj
      conv => whnf
      by_cases hlt : j < l.length
      · have hr := rowOf_fms l j hlt
        have hih := ih l[j] (List.getElem_mem hlt)
        have htk := take_map simF l j hlt
        generalize l[j] = f at *
        (refine goA ?_; try with_reducible exact trivial)
        (generalize hrq : rowOf _ _ (fmsA l) = rq; obtain rfl : rq = fmA f := hrq.symm.trans (hr); clear hrq; conv => whnf)
        (refine call0 [] rfl (fun _ => hih) ?_; rintro r rfl; conv => whnf)
        refine ⟨⟨by unfold maxLen; omega, by omega⟩, ?_⟩
        conv => whnf
        (refine goA ?_; try with_reducible exact trivial)
        refine ⟨j + 1, le_head ?_, hlt, by omega⟩
        repeat' constructor
        · rw [htk, fmsA_snoc]; rfl
      · obtain rfl : j = l.length := by omega
        rw [List.take_length]
        have hml : (l.map simF).length = l.length := by simp
        rw [hml] at hbuild
        generalize l.map simF = M at *
        (refine goA ?_; try with_reducible exact trivial)
        (refine call0 [0] rfl (fun _ => hbuild) ?_; rintro r rfl; conv => whnf)
        rfl
termination_by f => SizeOf.sizeOf f
decreasing_by
  have := List.sizeOf_lt_of_mem hf
  simp only [Fm.mk.sizeOf_spec]
  omega
end Go.Proofs.YtpjcbadnpknncaaDoor.Vm
/- Formulas: Progress. -/
namespace Go.Proofs.YtpjcbadnpknncaaDoor.Vm
open Go.RowKit Go.Shelf
set_option linter.unusedSimpArgs false
set_option linter.unusedVariables false
set_option maxRecDepth 100000
def atV (v : List Int) (a : Int) : Int := if a < v.length then v.getD a.toNat 0 else 0
def cmpV (b x n : Int) : Bool := if b = 0 then decide (x < n) else if b = 1 then decide (x = n) else decide (n < x)
def proK (v : List Int) (k a b n : Int) (l P : List Fm) : Fm :=
  if k = 1 then constF (cmpV b (atV v a) n)
  else if k = 5 then simF (g0 l)
  else if k = 7 then joinF 3 [g0 P, simF (.mk k a b n l)]
  else if k = 8 then joinF 4 [g0 P, simF (.mk k a b n l)]
  else if k = 6 then joinF 4 [g1 P, joinF 3 [g0 P, simF (.mk k a b n l)]]
  else buildK k a b n P
mutual
def proF (v : List Int) : Fm → Fm
  | .mk k a b n l => proK v k a b n l (proFs v l)
def proFs (v : List Int) : List Fm → List Fm
  | [] => []
  | f :: l => proF v f :: proFs v l
end
theorem proFs_map (v : List Int) : ∀ l : List Fm, proFs v l = l.map (proF v)
  | [] => by unfold proFs; rfl
  | f :: l => by unfold proFs; rw [proFs_map v l]; rfl
theorem proF_mk (v : List Int) (k a b n : Int) (l : List Fm) : proF v (.mk k a b n l) = proK v k a b n l (l.map (proF v)) := by
  rw [← proFs_map]
  conv => lhs; unfold proF
def JB (k : Int) (l : List Fm) : Prop := (flatJ k l).length ≤ 1000000000000
structure NeedP (k a b n : Int) (l P : List Fm) : Prop where
  v : k = 1 → 0 ≤ a ∧ 0 ≤ b ∧ b ≤ 2
  x : k = 5 → 1 ≤ l.length ∧ FitS (g0 l)
  w : k = 7 → 1 ≤ l.length ∧ FitS (.mk k a b n l) ∧ JB 3 [g0 P, simF (.mk k a b n l)]
  e : k = 8 → 1 ≤ l.length ∧ FitS (.mk k a b n l) ∧ JB 4 [g0 P, simF (.mk k a b n l)]
  u : k = 6 → 2 ≤ l.length ∧ FitS (.mk k a b n l) ∧ JB 3 [g0 P, simF (.mk k a b n l)] ∧ JB 4 [g1 P, joinF 3 [g0 P, simF (.mk k a b n l)]]
  o : k ≠ 1 → k ≠ 5 → k ≠ 6 → k ≠ 7 → k ≠ 8 → l.length ≤ 1000000000000 ∧ NeedK k P
mutual
/-- Progress can be applied. -/
def FitP (v : List Int) : Fm → Prop
  | .mk k a b n l => NeedP k a b n l (proFs v l) ∧ FitPs v l
def FitPs (v : List Int) : List Fm → Prop
  | [] => True
  | f :: l => FitP v f ∧ FitPs v l
end
theorem fitPs_mem {v : List Int} : ∀ {l : List Fm} {f : Fm}, FitPs v l → f ∈ l → FitP v f
  | g :: l, f, h, hf => by
    unfold FitPs at h
    rcases List.mem_cons.1 hf with rfl | hf
    · exact h.1
    · exact fitPs_mem h.2 hf
theorem fitPs_mk {v : List Int} : ∀ {l : List Fm}, (∀ f ∈ l, FitP v f) → FitPs v l
  | [], _ => by unfold FitPs; trivial
  | g :: l, h => by unfold FitPs; exact ⟨h g (by simp), fitPs_mk fun f hf => h f (by simp [hf])⟩
theorem fitP_mk {v : List Int} {k a b n : Int} {l : List Fm} (h1 : NeedP k a b n l (l.map (proF v))) (h2 : ∀ f ∈ l, FitP v f) : FitP v (.mk k a b n l) := by
  unfold FitP
  rw [proFs_map]
  exact ⟨h1, fitPs_mk h2⟩
theorem fitP_of {v : List Int} {k a b n : Int} {l : List Fm} (h : FitP v (.mk k a b n l)) : NeedP k a b n l (l.map (proF v)) ∧ ∀ f ∈ l, FitP v f := by
  unfold FitP at h
  rw [proFs_map] at h
  exact ⟨h.1, fun f hf => fitPs_mem h.2 hf⟩
def PrSpec (v : List Int) (f : Fm) : Prop := Spec Tryd.prog 13 [] [.agg (fmA f), .sl 1 v.length (intsA v)] fun _ r => r = .agg (fmA (proF v f))
def bxV (v : List Int) : List A := [.sl 1 v.length (intsA v)]
theorem pro1_spec (v : List Int) (f : Fm) (i : Nat) (hi : i < f.kids.length) (h : PrSpec v f.kids[i]) : Spec Tryd.prog 29 [fmA f, bxV v] [intA i, .box 0 0, .box 1 0] fun o r => o = [fmA f, bxV v] ∧ r = .agg (fmA (proF v f.kids[i])) := by
  have hr := rowOf_fms f.kids i hi
  unfold PrSpec at h
  generalize f.kids[i] = g at *
  refine spec_of (cx_ok ord29 xs0 2) (fun _ _ h => h) Tryd.func29 rfl (by kernel_rfl) rfl (by kernel_rfl) ?_
  intro _
  conv => whnf
  (refine goA ?_; try with_reducible exact trivial)
  (generalize hrq : rowOf _ _ (fmsA f.kids) = rq; obtain rfl : rq = fmA g := hrq.symm.trans (hr); clear hrq; conv => whnf)
  (refine call0 [] rfl (fun _ => h) ?_; rintro r rfl; conv => whnf)
  exact ⟨rfl, rfl⟩
/-- The orders of Progress's regions. -/
def ordPr (id : Nat) : Tr := match Nat.beq id 11 with
  | true => .q 0 3 (.alt 1 2 (.alt 2 2 (.alt 3 2 (.alt 4 2 (.alt 5 2 (.alt 6 2 .nil .nil) .nil) .nil) .nil) .nil) (.alt 2 2 (.alt 1 2 (.alt 3 2 (.alt 4 2 (.alt 5 2 (.alt 6 2 .nil .nil) .nil) .nil) .nil) .nil) .nil))
  | false => match Nat.beq id 13 with
    | true => .q 0 3 (.alt 1 2 (.alt 2 2 (.alt 3 2 (.alt 4 2 (.alt 5 2 (.alt 6 2 .nil .nil) .nil) .nil) .nil) .nil) (.alt 2 2 (.alt 1 2 (.alt 3 2 (.alt 4 2 (.alt 5 2 (.alt 6 2 .nil .nil) .nil) .nil) .nil) .nil) .nil))
    | false => match Nat.beq id 15 with
      | true => .q 0 3 (.q 2 3 (.alt 1 2 (.alt 3 2 (.alt 4 2 (.alt 5 2 (.alt 6 2 (.alt 7 2 (.alt 8 2 (.alt 9 2 (.alt 10 2 .nil .nil) .nil) .nil) .nil) .nil) .nil) .nil) (.alt 4 2 (.alt 3 2 (.alt 5 2 (.alt 6 2 (.alt 7 2 (.alt 8 2 (.alt 9 2 (.alt 10 2 .nil .nil) .nil) .nil) .nil) .nil) .nil) .nil) .nil)) (.alt 4 2 (.alt 1 2 (.alt 3 2 (.alt 5 2 (.alt 6 2 (.alt 7 2 (.alt 8 2 (.alt 9 2 (.alt 10 2 .nil .nil) .nil) .nil) .nil) .nil) .nil) .nil) .nil) .nil)))
      | false => .nil
theorem fmA_mk (k a b n : Int) (l : List Fm) : fmA (.mk k a b n l) = [intA k, intA a, intA b, intA n, .sl 5 l.length (fmsA l)] := rfl
theorem g0_map {v : List Int} {l P : List Fm} (hP : l.map (proF v) = P) (h : 0 < l.length) : proF v l[0] = g0 P := by
  subst hP
  unfold g0
  rw [List.getD_eq_getElem?_getD, List.getElem?_map, List.getElem?_eq_getElem h]; rfl
theorem g1_map {v : List Int} {l P : List Fm} (hP : l.map (proF v) = P) (h : 1 < l.length) : proF v l[1] = g1 P := by
  subst hP
  unfold g1
  rw [List.getD_eq_getElem?_getD, List.getElem?_map, List.getElem?_eq_getElem h]; rfl
theorem fmsA_two (x y : Fm) : fmsA [x, y] = fmA x ++ fmA y := by rw [fmsA_cons, fmsA_cons, fmsA_nil, List.append_nil]
theorem cmpV0 (x n : Int) : cmpV 0 x n = decide (x < n) := by simp [cmpV]
theorem cmpV1 (x n : Int) : cmpV 1 x n = decide (x = n) := by simp [cmpV]
theorem cmpV2 (x n : Int) : cmpV 2 x n = decide (n < x) := by simp [cmpV]
theorem row3b (x y z : Bool) (b : Int) (h0 : 0 ≤ b) (h2 : b ≤ 2) : rowOf 1 b.toNat [A.v (.bool x), A.v (.bool y), A.v (.bool z)] = [A.v (.bool (if b = 0 then x else if b = 1 then y else z))] := by
  have : b = 0 ∨ b = 1 ∨ b = 2 := by omega
  rcases this with rfl | rfl | rfl
  · simp [rowOf]
  · simp [rowOf]
  · simp [rowOf]
set_option maxHeartbeats 2000000 in
theorem pro_raw (v : List Int) (k a b n : Int) (l : List Fm) (hneed : NeedP k a b n l (l.map (proF v))) (ih : ∀ (i : Nat) (h : i < l.length), Spec Tryd.prog 29 [fmA (.mk k a b n l), bxV v] [intA i, .box 0 0, .box 1 0] fun o r => o = [fmA (.mk k a b n l), bxV v] ∧ r = .agg (fmA (proF v l[i]))) : PrSpec v (.mk k a b n l) := by
  obtain ⟨R, hR⟩ : ∃ R, proF v (.mk k a b n l) = R := ⟨_, rfl⟩
  unfold PrSpec
  rw [hR]
  rw [proF_mk] at hR
  have hml : (l.map (proF v)).length = l.length := by simp
  obtain ⟨P, hP⟩ : ∃ P, l.map (proF v) = P := ⟨_, rfl⟩
  rw [hP] at hneed hR hml
  unfold proK at hR
  refine spec_of (cx_ok ordPr xs0 0) (fun _ _ h => h) Tryd.func13 rfl (by kernel_rfl) rfl (by kernel_rfl) ?_
  intro hok
  simp only [fmA_mk, bxV] at ih ⊢
  conv => whnf
  by_cases h1 : k = 1
  · obtain ⟨ha0, hb0, hb2⟩ := hneed.v h1
    have hcs := const_spec (cmpV b (atV v a) n)
    rw [if_pos h1] at hR
    rw [decide_eq_true h1]
    conv => whnf
    by_cases hav : a < v.length
    · have hrv := rowOf_ints v a.toNat (by omega)
      have hat : atV v a = v[a.toNat]'(by omega) := by
        unfold atV
        rw [if_pos hav, List.getD_eq_getElem?_getD, List.getElem?_eq_getElem (by omega)]; rfl
      rw [← hat] at hrv
      (refine goA ?_; try with_reducible exact trivial)
      (generalize hrq : rowOf _ _ (intsA v) = rq; obtain rfl : rq = [intA (atV v a)] := hrq.symm.trans (hrv); clear hrq; conv => whnf)
      rcases (show b = 0 ∨ b = 1 ∨ b = 2 by omega) with rfl | rfl | rfl
      · rw [cmpV0] at hcs hR
        (refine goA ?_; try with_reducible exact trivial)
        (refine call0 [] rfl (fun _ => hcs) ?_; rintro r rfl; conv => whnf)
        rw [← hR]
        rfl
      · rw [cmpV1] at hcs hR
        (refine goA ?_; try with_reducible exact trivial)
        (refine call0 [] rfl (fun _ => hcs) ?_; rintro r rfl; conv => whnf)
        rw [← hR]
        rfl
      · rw [cmpV2] at hcs hR
        (refine goA ?_; try with_reducible exact trivial)
        (refine call0 [] rfl (fun _ => hcs) ?_; rintro r rfl; conv => whnf)
        rw [← hR]
        rfl
    · have hat : atV v a = 0 := by unfold atV; rw [if_neg hav]
      (refine goA ?_; try with_reducible exact trivial)
      rw [hat] at hR hcs
      rcases (show b = 0 ∨ b = 1 ∨ b = 2 by omega) with rfl | rfl | rfl
      · rw [cmpV0] at hcs hR
        (refine goA ?_; try with_reducible exact trivial)
        (refine call0 [] rfl (fun _ => hcs) ?_; rintro r rfl; conv => whnf)
        rw [← hR]
        rfl
      · rw [cmpV1] at hcs hR
        (refine goA ?_; try with_reducible exact trivial)
        (refine call0 [] rfl (fun _ => hcs) ?_; rintro r rfl; conv => whnf)
        rw [← hR]
        rfl
      · rw [cmpV2] at hcs hR
        (refine goA ?_; try with_reducible exact trivial)
        (refine call0 [] rfl (fun _ => hcs) ?_; rintro r rfl; conv => whnf)
        rw [← hR]
        rfl
  · rw [if_neg h1] at hR
    rw [decide_eq_false h1]
    conv => whnf
    by_cases h5 : k = 5
    · obtain ⟨hl1, hfs⟩ := hneed.x h5
      have hsp := simplify_spec (g0 l) hfs
      have hr0 := row0 hl1
      rw [if_pos h5] at hR
      rw [decide_eq_true h5]
      generalize g0 l = x at *
      conv => whnf
      (refine goA ?_; try with_reducible exact trivial)
      (generalize hrq : rowOf _ _ (fmsA l) = rq; obtain rfl : rq = fmA x := hrq.symm.trans (hr0); clear hrq; conv => whnf)
      (refine call0 [] rfl (fun _ => hsp) ?_; rintro r rfl; conv => whnf)
      rw [← hR]
      rfl
    · rw [if_neg h5] at hR
      rw [decide_eq_false h5]
      conv => whnf
      by_cases h7 : k = 7
      · obtain ⟨hl1, hfs, hjb⟩ := hneed.w h7
        have hsp := simplify_spec _ hfs
        have hp0 := ih 0 hl1
        rw [g0_map hP hl1] at hp0
        have hj := join_spec 3 _ hjb
        rw [if_pos h7] at hR
        rw [hR, fmsA_two] at hj
        rw [decide_eq_true h7]
        generalize simF (.mk k a b n l) = y at *
        generalize g0 P = x at *
        conv => whnf
        apply join_eq
        · conv => whnf
          refine ⟨?_, ?_⟩
          · conv => whnf
            (refine goA ?_; try with_reducible exact trivial)
            refine call2 0 1 [] rfl ⟨rfl, rfl⟩ rfl rfl rfl rfl rfl (fun _ => hp0) ?_
            rintro o p r ⟨ho, rfl⟩
            cases ho
            conv => whnf
            (refine call0 [] rfl (fun _ => hsp) ?_; rintro r rfl; conv => whnf)
            (refine call0 [0] rfl (fun _ => hj) ?_; rintro r rfl; conv => whnf)
            try rfl
          · conv => whnf
            (refine goA ?_; try with_reducible exact trivial)
            refine call2 0 1 [] rfl ⟨rfl, rfl⟩ rfl rfl rfl rfl rfl (fun _ => hp0) ?_
            rintro o p r ⟨ho, rfl⟩
            cases ho
            conv => whnf
            (refine call0 [] rfl (fun _ => hsp) ?_; rintro r rfl; conv => whnf)
            (refine call0 [0] rfl (fun _ => hj) ?_; rintro r rfl; conv => whnf)
            try rfl
        conv => whnf
        rfl
      · rw [if_neg h7] at hR
        rw [decide_eq_false h7]
        conv => whnf
        by_cases h8 : k = 8
        · obtain ⟨hl1, hfs, hjb⟩ := hneed.e h8
          have hsp := simplify_spec _ hfs
          have hp0 := ih 0 hl1
          rw [g0_map hP hl1] at hp0
          have hj := join_spec 4 _ hjb
          rw [if_pos h8] at hR
          rw [hR, fmsA_two] at hj
          rw [decide_eq_true h8]
          generalize simF (.mk k a b n l) = y at *
          generalize g0 P = x at *
          conv => whnf
          apply join_eq
          · conv => whnf
            refine ⟨?_, ?_⟩
            · conv => whnf
              (refine goA ?_; try with_reducible exact trivial)
              refine call2 0 1 [] rfl ⟨rfl, rfl⟩ rfl rfl rfl rfl rfl (fun _ => hp0) ?_
              rintro o p r ⟨ho, rfl⟩
              cases ho
              conv => whnf
              (refine call0 [] rfl (fun _ => hsp) ?_; rintro r rfl; conv => whnf)
              (refine call0 [0] rfl (fun _ => hj) ?_; rintro r rfl; conv => whnf)
              try rfl
            · conv => whnf
              (refine goA ?_; try with_reducible exact trivial)
              refine call2 0 1 [] rfl ⟨rfl, rfl⟩ rfl rfl rfl rfl rfl (fun _ => hp0) ?_
              rintro o p r ⟨ho, rfl⟩
              cases ho
              conv => whnf
              (refine call0 [] rfl (fun _ => hsp) ?_; rintro r rfl; conv => whnf)
              (refine call0 [0] rfl (fun _ => hj) ?_; rintro r rfl; conv => whnf)
              try rfl
          conv => whnf
          rfl
        · rw [if_neg h8] at hR
          rw [decide_eq_false h8]
          conv => whnf
          by_cases h6 : k = 6
          · obtain ⟨hl2, hfs, hjb, hjc⟩ := hneed.u h6
            have hsp := simplify_spec _ hfs
            have hp0 := ih 0 (by omega)
            rw [g0_map hP (by omega)] at hp0
            have hp1 := ih 1 (by omega)
            rw [g1_map hP (by omega)] at hp1
            have hj := join_spec 3 _ hjb
            have hk := join_spec 4 _ hjc
            rw [if_pos h6] at hR
            rw [fmsA_two] at hj
            rw [hR, fmsA_two] at hk
            rw [decide_eq_true h6]
            generalize simF (.mk k a b n l) = y at *
            generalize g0 P = x at *
            generalize g1 P = x1 at *
            generalize joinF 3 [x, y] = z at *
            conv => whnf
            apply join_eq
            · conv => whnf
              refine ⟨?_, ?_⟩
              · conv => whnf
                (refine goA ?_; try with_reducible exact trivial)
                refine call2 0 1 [] rfl ⟨rfl, rfl⟩ rfl rfl rfl rfl rfl (fun _ => hp1) ?_
                rintro o p r ⟨ho, rfl⟩
                cases ho
                conv => whnf
                refine ⟨?_, ?_⟩
                · conv => whnf
                  (refine goA ?_; try with_reducible exact trivial)
                  refine call2 0 1 [] rfl ⟨rfl, rfl⟩ rfl rfl rfl rfl rfl (fun _ => hp0) ?_
                  rintro o p r ⟨ho, rfl⟩
                  cases ho
                  conv => whnf
                  (refine call0 [] rfl (fun _ => hsp) ?_; rintro r rfl; conv => whnf)
                  (refine call0 [0] rfl (fun _ => hj) ?_; rintro r rfl; conv => whnf)
                  (refine call0 [1] rfl (fun _ => hk) ?_; rintro r rfl; conv => whnf)
                  try rfl
                · conv => whnf
                  (refine goA ?_; try with_reducible exact trivial)
                  refine call2 0 1 [] rfl ⟨rfl, rfl⟩ rfl rfl rfl rfl rfl (fun _ => hp0) ?_
                  rintro o p r ⟨ho, rfl⟩
                  cases ho
                  conv => whnf
                  (refine call0 [] rfl (fun _ => hsp) ?_; rintro r rfl; conv => whnf)
                  (refine call0 [0] rfl (fun _ => hj) ?_; rintro r rfl; conv => whnf)
                  (refine call0 [1] rfl (fun _ => hk) ?_; rintro r rfl; conv => whnf)
                  try rfl
              · conv => whnf
                (refine goA ?_; try with_reducible exact trivial)
                refine call2 0 1 [] rfl ⟨rfl, rfl⟩ rfl rfl rfl rfl rfl (fun _ => hp1) ?_
                rintro o p r ⟨ho, rfl⟩
                cases ho
                conv => whnf
                conv => whnf
                (refine goA ?_; try with_reducible exact trivial)
                refine call2 0 1 [] rfl ⟨rfl, rfl⟩ rfl rfl rfl rfl rfl (fun _ => hp0) ?_
                rintro o p r ⟨ho, rfl⟩
                cases ho
                conv => whnf
                (refine call0 [] rfl (fun _ => hsp) ?_; rintro r rfl; conv => whnf)
                (refine call0 [0] rfl (fun _ => hj) ?_; rintro r rfl; conv => whnf)
                (refine call0 [1] rfl (fun _ => hk) ?_; rintro r rfl; conv => whnf)
                try rfl
            conv => whnf
            rfl
          · rw [if_neg h6] at hR
            rw [decide_eq_false h6]
            conv => whnf
            obtain ⟨hl, hnk⟩ := hneed.o h1 h5 h6 h7 h8
            have hbuild := build_spec (.mk k a b n l) P hnk
            change Spec _ _ _ _ (fun _ r => r = .agg (fmA (buildK k a b n P))) at hbuild
            rw [hR, fmA_mk] at hbuild
            refine loop_row 25 5 [7] [] ?_
            conv => whnf
            refine ⟨trivial, ?_⟩
            conv => whnf
            refine loop_keep [2, 3, 4, 5, 7, 79] ?_
            conv => whnf
            refine loop_goQ (fun j : Nat => [(80, .v (.int .i64 j)), (7, .own 0)]) (fun _ => [[intA k, intA a, intA b, intA n, .sl 5 l.length (fmsA l)], bxV v, zero5]) (fun j => [.live 25 5 j (fmsA ((l.take j).map (proF v)))]) (fun j => j ≤ l.length) (fun j => l.length - j) 0 ?_ (Nat.zero_le _) ?_
            · unfold headQ
              repeat' constructor
              · show [Row.live _ _ _ _] = [Row.live _ _ _ _]
                rw [List.take_zero, List.map_nil, fmsA_nil]
            · rintro j hj
              conv => whnf
              by_cases hlt : j < l.length
              · have hih := ih j hlt
                have htk := take_map (proF v) l j hlt
                generalize proF v l[j] = x at *
                (refine goA ?_; try with_reducible exact trivial)
                refine call2 0 1 [] rfl ⟨rfl, rfl⟩ rfl rfl rfl rfl rfl (fun _ => hih) ?_
                rintro o p r ⟨ho, rfl⟩
                cases ho
                conv => whnf
                refine ⟨⟨by unfold maxLen; omega, by omega⟩, ?_⟩
                conv => whnf
                (refine goA ?_; try with_reducible exact trivial)
                refine ⟨j + 1, le_head ?_, hlt, by omega⟩
                repeat' constructor
                · rw [htk, fmsA_snoc]; rfl
              · obtain rfl : j = l.length := by omega
                rw [List.take_length, hP]
                rw [hml] at hbuild
                (refine goA ?_; try with_reducible exact trivial)
                (refine call0 [0] rfl (fun _ => hbuild) ?_; rintro r rfl; conv => whnf)
                rfl
theorem pro_spec (v : List Int) : ∀ f : Fm, FitP v f → PrSpec v f
  | .mk k a b n l, h => by
    obtain ⟨h1, h2⟩ := fitP_of h
    have ihk : ∀ f ∈ l, PrSpec v f := fun f hf => pro_spec v f (h2 f hf)
    exact pro_raw v k a b n l h1 fun i hi => pro1_spec v (.mk k a b n l) i hi (ihk _ (List.getElem_mem hi))
termination_by f => SizeOf.sizeOf f
decreasing_by
  have := List.sizeOf_lt_of_mem hf
  simp only [Fm.mk.sizeOf_spec]
  omega
end Go.Proofs.YtpjcbadnpknncaaDoor.Vm
/- Check, Value. -/
namespace Go.Proofs.YtpjcbadnpknncaaDoor.Vm
open Go.RowKit Go.Shelf
set_option linter.unusedSimpArgs false
set_option linter.unusedVariables false
set_option maxRecDepth 100000
/-- Verdicts: the class; the position, if there is one. -/
structure Vd where
  cls : Int
  at' : Option Int
def ordV : Option Int → A
  | none => .v (.slice none 0 0)
  | some x => .sl 1 1 [intA x]
def vdA (v : Vd) : List A := [intA 8, intA v.cls, intA 0, ordV v.at', .v (.slice none 0 0)]
/-- The cells of a trace. -/
def trA (t : List (List Int)) : List A := t.flatMap fun v => [.sl 1 v.length (intsA v)]
/-- From a formula, at a position, through a trace. -/
def runF : Fm → Int → List (List Int) → Fm × Int
  | f, i, [] => (f, i)
  | f, i, v :: t => if isC f = true then (f, i) else runF (proF v f) (i + 1) t
def verF (r : Fm × Int) : Vd := if isC r.1 = true then ⟨if r.1.k = 3 then 0 else 13, some r.2⟩ else ⟨14, none⟩
def chkF (f : Fm) (t : List (List Int)) : Vd := verF (runF (simF f) (-1) t)
def zero5v : List A := [intA 0, intA 0, intA 0, .v (.slice none 0 0), .v (.slice none 0 0)]
/-- Check can be applied. -/
def FitR : Fm → List (List Int) → Prop
  | f, [] => True
  | f, v :: t => isC f = true ∨ (FitP v f ∧ FitR (proF v f) t)
theorem rowOf_tr (t : List (List Int)) (i : Nat) (h : i < t.length) : rowOf 1 i (trA t) = [A.sl 1 t[i].length (intsA t[i])] := rowOf_flat (k := 1) (fun v : List Int => [A.sl 1 v.length (intsA v)]) (fun _ => rfl) t i h
theorem verF_mk (g : Fm) (i : Int) : verF (g, i) = if isC g = true then ⟨if g.k = 3 then 0 else 13, some i⟩ else ⟨14, none⟩ := rfl
set_option maxHeartbeats 1000000 in
theorem check_spec (f : Fm) (t : List (List Int)) (hs : FitS f) (hr : FitR (simF f) t) (ht : t.length ≤ 1000000000) : Spec Tryd.prog 20 [] [.agg (fmA f), .sl 1 t.length (trA t)] fun _ r => r = .agg (vdA (chkF f t)) := by
  have hsp := simplify_spec f hs
  unfold chkF
  obtain ⟨R, hR⟩ : ∃ R, runF (simF f) (-1) t = R := ⟨_, rfl⟩
  rw [hR]
  generalize simF f = f0 at *
  refine spec_of (cx_ok ord0 xs0 0) (fun _ _ h => h) Tryd.func20 rfl (by kernel_rfl) rfl (by kernel_rfl) ?_
  intro hok
  conv => whnf
  (refine call0 [] rfl (fun _ => hsp) ?_; rintro r rfl; conv => whnf)
  refine loop_keep [1, 2, 4, 5, 12, 13] ?_
  conv => whnf
  refine loop_goQ (fun x : Nat × Fm => [(14, .v (.int .i64 x.1)), (6, .v (.int .i64 ((x.1 : Int) - 1)))]) (fun x => [fmA x.2, zero5v, vdA ⟨14, none⟩]) (fun _ => []) (fun x => x.1 ≤ t.length ∧ runF x.2 ((x.1 : Int) - 1) (t.drop x.1) = R ∧ FitR x.2 (t.drop x.1)) (fun x => t.length - x.1) (0, f0) ?_ ⟨Nat.zero_le _, hR, hr⟩ ?_
  · unfold headQ
    repeat' constructor
  · rintro ⟨j, g⟩ ⟨hj, hinv, hfit⟩
    simp only at hj hinv hfit
    conv => whnf
    have hisc := isC_spec g
    by_cases hlt : j < t.length
    · have hrow := rowOf_tr t j hlt
      rw [List.drop_eq_getElem_cons hlt] at hinv hfit
      generalize t[j] = v at *
      (refine goA ?_; try with_reducible exact trivial)
      (generalize hrq : rowOf _ _ (trA t) = rq; obtain rfl : rq = [.sl 1 v.length (intsA v)] := hrq.symm.trans (hrow); clear hrq; conv => whnf)
      (refine call0 [] rfl (fun _ => hisc) ?_; rintro r rfl; conv => whnf)
      rw [runF] at hinv
      rw [FitR] at hfit
      cases hc : isC g with
      | true =>
        rw [if_pos hc] at hinv
        conv => whnf
        subst hinv
        rw [verF_mk]
        (refine call0 [] rfl (fun _ => hisc) ?_; rintro r rfl; conv => whnf)
        cases hc2 : isC g with
        | true =>
          rw [if_pos rfl]
          conv => whnf
          by_cases h3 : g.k = 3
          · rw [decide_eq_true h3, if_pos h3]
            conv => whnf
            rfl
          · rw [decide_eq_false h3, if_neg h3]
            conv => whnf
            rfl
        | false =>
          rw [if_neg (by simp)]
          conv => whnf
          rfl
      | false =>
        rw [if_neg (by rw [hc]; simp)] at hinv
        obtain ⟨hf1, hf2⟩ := hfit.resolve_left (by rw [hc]; simp)
        have hpro := pro_spec v g hf1
        unfold PrSpec at hpro
        generalize proF v g = g' at *
        conv => whnf
        (refine call0 [] rfl (fun _ => hpro) ?_; rintro r rfl; conv => whnf)
        refine ⟨i64r (by omega), ?_⟩
        conv => whnf
        refine ⟨i64r (by omega), ?_⟩
        conv => whnf
        refine ⟨(j + 1, g'), le_head ?_, ⟨hlt, by rw [show (((j + 1 : Nat) : Int) - 1) = (j : Int) - 1 + 1 by omega]; exact hinv, hf2⟩, by simp only; omega⟩
        repeat' constructor
        show A.v (.int .i64 ((j : Int) - 1 + 1)) = A.v (.int .i64 (((j + 1 : Nat) : Int) - 1))
        rw [show (j : Int) - 1 + 1 = ((j + 1 : Nat) : Int) - 1 by omega]
    · rw [List.drop_of_length_le (by omega), runF] at hinv
      (refine goA ?_; try with_reducible exact trivial)
      subst hinv
      rw [verF_mk]
      (refine call0 [] rfl (fun _ => hisc) ?_; rintro r rfl; conv => whnf)
      cases hc2 : isC g with
      | true =>
        rw [if_pos rfl]
        conv => whnf
        by_cases h3 : g.k = 3
        · rw [decide_eq_true h3, if_pos h3]
          conv => whnf
          rfl
        · rw [decide_eq_false h3, if_neg h3]
          conv => whnf
          rfl
      | false =>
        rw [if_neg (by simp)]
        conv => whnf
        rfl
theorem value_spec (f : Fm) (t : List (List Int)) (hs : FitS f) (hr : FitR (simF f) t) (ht : t.length ≤ 1000000000) : Spec Tryd.prog 21 [] [.agg (fmA f), .sl 1 t.length (trA t)] fun _ r => r = intA (chkF f t).cls := by
  have hc := check_spec f t hs hr ht
  generalize chkF f t = V at *
  refine spec_of (cx_ok ord0 xs0 0) (fun _ _ h => h) Tryd.func21 rfl (by kernel_rfl) rfl (by kernel_rfl) ?_
  intro hok
  conv => whnf
  (refine call0 [] rfl (fun _ => hc) ?_; rintro r rfl; conv => whnf)
  rfl
end Go.Proofs.YtpjcbadnpknncaaDoor.Vm
/- The reference: its small functions. -/
namespace Go.Proofs.YtpjcbadnpknncaaDoor.Vm
open Go.RowKit Go.Shelf
set_option linter.unusedSimpArgs false
set_option linter.unusedVariables false
set_option maxRecDepth 100000
theorem rTrue_spec : Spec Tryd.prog 48 [] [] fun _ r => r = .agg (raw0 (constF true)) := by
  refine spec_of (cx_ok ord0 xs0 0) (fun _ _ h => h) Tryd.func48 rfl (by kernel_rfl) rfl (by kernel_rfl) ?_
  intro _
  conv => whnf
  rfl
theorem rFalse_spec : Spec Tryd.prog 39 [] [] fun _ r => r = .agg (raw0 (constF false)) := by
  refine spec_of (cx_ok ord0 xs0 0) (fun _ _ h => h) Tryd.func39 rfl (by kernel_rfl) rfl (by kernel_rfl) ?_
  intro _
  conv => whnf
  rfl
theorem toFm {P : Program} {f : Nat} {args : List A} {g : Fm} (hg : g.kids = []) (h : Spec P f [] args fun _ r => r = .agg (raw0 g)) : Spec P f [] args fun _ r => r = .agg (fmA g) :=
  h.weaken fun o r k => ⟨o, _, rfl, .refl o, by rw [k]; exact .agg (raw0_wk hg)⟩
theorem rTrue : Spec Tryd.prog 48 [] [] fun _ r => r = .agg (fmA (constF true)) := toFm rfl rTrue_spec
theorem rFalse : Spec Tryd.prog 39 [] [] fun _ r => r = .agg (fmA (constF false)) := toFm rfl rFalse_spec
theorem rBoth (k : Int) (f g : Fm) : Spec Tryd.prog 49 [] [intA k, .agg (fmA f), .agg (fmA g)] fun _ r => r = .agg (fmA (.mk k 0 0 0 [f, g])) := by
  refine spec_of (cx_ok ord0 xs0 0) (fun _ _ h => h) Tryd.func49 rfl (by kernel_rfl) rfl (by kernel_rfl) ?_
  intro _
  rw [fmA_mk, fmsA_two]
  conv => whnf
  rfl
def oppF (k : Int) : Int := if k = 3 then 4 else 3
theorem rOpp (k : Int) : Spec Tryd.prog 54 [] [intA k] fun _ r => r = intA (oppF k) := by
  refine spec_of (cx_ok ord0 xs0 0) (fun _ _ h => h) Tryd.func54 rfl (by kernel_rfl) rfl (by kernel_rfl) ?_
  intro _
  unfold oppF
  conv => whnf
  by_cases h : k = 3
  · rw [decide_eq_true h, if_pos h]
    conv => whnf
    rfl
  · rw [decide_eq_false h, if_neg h]
    conv => whnf
    rfl
theorem rConst (f : Fm) : Spec Tryd.prog 38 [] [.agg (fmA f)] fun _ r => r = boolA (isC f) := by
  obtain ⟨k, a, b, n, l⟩ := f
  simp only [isC, Fm.k, Fm.kids]
  refine spec_of (cx_ok ord0 xs0 0) (fun _ _ h => h) Tryd.func38 rfl (by kernel_rfl) rfl (by kernel_rfl) ?_
  intro hok
  simp only [fmA, Fm.k, Fm.a, Fm.b, Fm.n, Fm.kids]
  conv => whnf
  have e0 : ∀ m : Nat, decide ((m : Int) = 0) = decide (m = 0) := fun m => by rw [decide_eq_decide]; omega
  by_cases h3 : k = 3
  · rw [decide_eq_true h3]
    conv => whnf
    rw [e0]
    simp [boolA, h3]
  · rw [decide_eq_false h3]
    conv => whnf
    by_cases h4 : k = 4
    · rw [decide_eq_true h4]
      conv => whnf
      rw [e0]
      simp [boolA, h4]
    · rw [decide_eq_false h4]
      conv => whnf
      simp [boolA, h3, h4]
def fewF (k : Int) (n : Nat) : Bool := if k = 6 then decide (n < 2) else if k = 2 ∨ k = 5 ∨ k = 7 ∨ k = 8 then decide (n < 1) else false
theorem rFew (k a b n : Int) (l : List Fm) : Spec Tryd.prog 35 [] [.agg (fmA (.mk k a b n l))] fun _ r => r = boolA (fewF k l.length) := by
  rw [fmA_mk]
  unfold fewF
  refine spec_of (cx_ok ord0 xs0 0) (fun _ _ h => h) Tryd.func35 rfl (by kernel_rfl) rfl (by kernel_rfl) ?_
  intro hok
  conv => whnf
  have e2 : ∀ m : Nat, decide ((m : Int) < 2) = decide (m < 2) := fun m => by rw [decide_eq_decide]; omega
  have e1 : ∀ m : Nat, decide ((m : Int) < 1) = decide (m < 1) := fun m => by rw [decide_eq_decide]; omega
  by_cases h6 : k = 6
  · rw [decide_eq_true h6, if_pos h6]
    conv => whnf
    rw [e2]
    rfl
  · rw [decide_eq_false h6, if_neg h6]
    conv => whnf
    by_cases h2 : k = 2
    · rw [decide_eq_true h2]
      conv => whnf
      rw [if_pos (by omega), e1]
      rfl
    rw [decide_eq_false h2]
    conv => whnf
    by_cases h5 : k = 5
    · rw [decide_eq_true h5]
      conv => whnf
      rw [if_pos (by omega), e1]
      rfl
    rw [decide_eq_false h5]
    conv => whnf
    by_cases h7 : k = 7
    · rw [decide_eq_true h7]
      conv => whnf
      rw [if_pos (by omega), e1]
      rfl
    rw [decide_eq_false h7]
    conv => whnf
    by_cases h8 : k = 8
    · rw [decide_eq_true h8]
      conv => whnf
      rw [if_pos (by omega), e1]
      rfl
    rw [decide_eq_false h8]
    conv => whnf
    rw [if_neg (by omega)]
    rfl
end Go.Proofs.YtpjcbadnpknncaaDoor.Vm
/- The reference: not, value, holds, Equal, SameInts. -/
namespace Go.Proofs.YtpjcbadnpknncaaDoor.Vm
open Go.RowKit Go.Shelf
set_option linter.unusedSimpArgs false
set_option linter.unusedVariables false
set_option maxRecDepth 100000
def notF (f : Fm) : Fm := if isC f = true then .mk (oppF f.k) 0 0 0 [] else if f.k = 2 ∧ 0 < f.kids.length then g0 f.kids else .mk 2 0 0 0 [f]
theorem rNot_raw (f : Fm) : Spec Tryd.prog 36 [] [.agg (fmA f)] fun _ r => (isC f = true ∧ r = .agg (raw0 (notF f))) ∨ (isC f = false ∧ r = .agg (fmA (notF f))) := by
  have hc := rConst f
  have ho := rOpp f.k
  obtain ⟨C, hC⟩ : ∃ C, isC f = C := ⟨_, rfl⟩
  obtain ⟨R, hR⟩ : ∃ R, notF f = R := ⟨_, rfl⟩
  rw [hR]
  unfold notF at hR
  rw [hC] at hc hR
  refine spec_of (cx_ok ord0 xs0 0) (fun _ _ h => h) Tryd.func36 rfl (by kernel_rfl) rfl (by kernel_rfl) ?_
  intro hok
  conv => whnf
  (refine call0 [] rfl (fun _ => hc) ?_; rintro r rfl; conv => whnf)
  cases C with
  | true =>
    rw [if_pos rfl] at hR
    rw [hC]
    conv => whnf
    (refine call0 [] rfl (fun _ => ho) ?_; rintro r rfl; conv => whnf)
    rw [← hR]
    exact .inl ⟨rfl, rfl⟩
  | false =>
    rw [if_neg (by simp)] at hR
    rw [hC]
    conv => whnf
    by_cases h2 : f.k = 2
    · rw [decide_eq_true h2]
      conv => whnf
      by_cases hl : 0 < f.kids.length
      · rw [if_pos ⟨h2, hl⟩] at hR
        have hr := row0 (l := f.kids) (by omega)
        (refine goA ?_; try with_reducible exact trivial)
        (generalize hrq : rowOf _ _ (fmsA f.kids) = rq; obtain rfl : rq = fmA (g0 f.kids) := hrq.symm.trans (hr); clear hrq; conv => whnf)
        rw [← hR]
        exact .inr ⟨rfl, rfl⟩
      · rw [if_neg (fun h => hl h.2)] at hR
        (refine goA ?_; try with_reducible exact trivial)
        rw [← hR, fmA_one]
        exact .inr ⟨rfl, rfl⟩
    · rw [decide_eq_false h2]
      rw [if_neg (fun h => h2 h.1)] at hR
      conv => whnf
      rw [← hR, fmA_one]
      exact .inr ⟨rfl, rfl⟩
theorem rNot (f : Fm) : Spec Tryd.prog 36 [] [.agg (fmA f)] fun _ r => r = .agg (fmA (notF f)) :=
  (rNot_raw f).weaken fun o r k => ⟨o, _, rfl, .refl o, by
    rcases k with ⟨h, rfl⟩ | ⟨_, rfl⟩
    · refine .agg (raw0_wk ?_)
      unfold notF
      rw [if_pos h]; rfl
    · exact .refl _⟩
theorem rValue (v : List Int) (a : Int) (ha : 0 ≤ a) : Spec Tryd.prog 55 [] [.sl 1 v.length (intsA v), intA a] fun _ r => r = intA (atV v a) := by
  refine spec_of (cx_ok ord0 xs0 0) (fun _ _ h => h) Tryd.func55 rfl (by kernel_rfl) rfl (by kernel_rfl) ?_
  intro hok
  unfold atV
  conv => whnf
  rw [decide_eq_false (show ¬ a < 0 by omega)]
  conv => whnf
  by_cases hav : a < v.length
  · have hrv := rowOf_ints v a.toNat (by omega)
    have e : v.getD a.toNat 0 = v[a.toNat]'(by omega) := by
      rw [List.getD_eq_getElem?_getD, List.getElem?_eq_getElem (by omega)]; rfl
    rw [← e] at hrv
    rw [if_pos hav, decide_eq_false (show ¬ (v.length : Int) ≤ a by omega)]
    generalize v.getD a.toNat 0 = x at *
    conv => whnf
    (refine goA ?_; try with_reducible exact trivial)
    (generalize hrq : rowOf _ _ (intsA v) = rq; obtain rfl : rq = [intA x] := hrq.symm.trans (hrv); clear hrq; conv => whnf)
    rfl
  · rw [if_neg hav, decide_eq_true (show (v.length : Int) ≤ a by omega)]
    conv => whnf
    rfl
theorem rHolds (v : List Int) (k a b n : Int) (l : List Fm) (ha : 0 ≤ a) : Spec Tryd.prog 42 [] [.agg (fmA (.mk k a b n l)), .sl 1 v.length (intsA v)] fun _ r => r = boolA (cmpV b (atV v a) n) := by
  have hv := rValue v a ha
  rw [fmA_mk]
  generalize atV v a = x at *
  unfold cmpV
  refine spec_of (cx_ok ord0 xs0 0) (fun _ _ h => h) Tryd.func42 rfl (by kernel_rfl) rfl (by kernel_rfl) ?_
  intro hok
  conv => whnf
  (refine call0 [] rfl (fun _ => hv) ?_; rintro r rfl; conv => whnf)
  by_cases h0 : b = 0
  · rw [decide_eq_true h0, if_pos h0]
    conv => whnf
    rfl
  · rw [decide_eq_false h0, if_neg h0]
    conv => whnf
    by_cases h1 : b = 1
    · rw [decide_eq_true h1, if_pos h1]
      conv => whnf
      rfl
    · rw [decide_eq_false h1, if_neg h1]
      conv => whnf
      rfl
theorem rSameInts (l m : List Int) (hl : l.length ≤ 1000000000) : Spec Tryd.prog 40 [] [.sl 1 l.length (intsA l), .sl 1 m.length (intsA m)] fun _ r => r = boolA (decide (l = m)) := by
  refine spec_of (cx_ok ord40 xs0 0) (fun _ _ h => h) Tryd.func40 rfl (by kernel_rfl) rfl (by kernel_rfl) ?_
  intro hok
  conv => whnf
  by_cases hlen : (l.length : Int) = m.length
  · rw [decide_eq_true hlen]
    conv => whnf
    refine loop_keep [0, 1] ?_
    conv => whnf
    refine loop_go (fun k : Nat => [(5, .v (.int .i64 k))]) (fun _ => []) (fun _ => []) (fun k => k ≤ l.length ∧ l.take k = m.take k) (fun k => l.length - k) 0 ?_ ⟨Nat.zero_le _, rfl⟩ ?_
    · repeat' constructor
    · rintro k ⟨hk, hinv⟩
      conv => whnf
      by_cases hlt : k < l.length
      · have hm : k < m.length := by omega
        have hr1 := rowOf_ints l k hlt
        have hr2 := rowOf_ints m k hm
        have e1 : l.take (k + 1) = l.take k ++ [l[k]] := by rw [List.take_add_one, List.getElem?_eq_getElem hlt]; rfl
        have e2 : m.take (k + 1) = m.take k ++ [m[k]] := by rw [List.take_add_one, List.getElem?_eq_getElem hm]; rfl
        have hne : l[k] ≠ m[k] → l ≠ m := fun h e => h (by subst e; rfl)
        generalize l[k] = x at *
        generalize m[k] = y at *
        (refine goA ?_; try with_reducible exact trivial)
        (generalize hrq : rowOf _ _ (intsA l) = rq; obtain rfl : rq = [intA x] := hrq.symm.trans (hr1); clear hrq; conv => whnf)
        (refine goA ?_; try with_reducible exact trivial)
        (generalize hrq : rowOf _ _ (intsA m) = rq; obtain rfl : rq = [intA y] := hrq.symm.trans (hr2); clear hrq; conv => whnf)
        by_cases hxy : x = y
        · rw [decide_eq_true hxy]
          conv => whnf
          (refine goA ?_; try with_reducible exact trivial)
          refine ⟨k + 1, le_head ?_, ⟨hlt, by rw [e1, e2, hinv, hxy]⟩, by omega⟩
          repeat' constructor
        · rw [decide_eq_false hxy]
          conv => whnf
          rw [decide_eq_false (hne hxy)]
          rfl
      · obtain rfl : k = l.length := by omega
        have : l = m := by
          rw [List.take_length, List.take_of_length_le (by omega)] at hinv
          exact hinv
        (refine goA ?_; try with_reducible exact trivial)
        rw [decide_eq_true this]
        rfl
  · rw [decide_eq_false hlen]
    conv => whnf
    rw [decide_eq_false (fun e => hlen (by rw [e]))]
    rfl
end Go.Proofs.YtpjcbadnpknncaaDoor.Vm
/- The reference: Equal, Same, join. -/
namespace Go.Proofs.YtpjcbadnpknncaaDoor.Vm
open Go.RowKit Go.Shelf
set_option linter.unusedSimpArgs false
set_option linter.unusedVariables false
set_option maxRecDepth 100000
def REq (f g : Fm) : Prop := Spec Tryd.prog 14 [] [.agg (fmA f), .agg (fmA g)] fun _ r => r = boolA (eqM f g)
theorem rEq_raw (k a b n k' a' b' n' : Int) (l l' : List Fm) (ih : ∀ f ∈ l, ∀ g ∈ l', REq f g) : REq (.mk k a b n l) (.mk k' a' b' n' l') := by
  unfold REq eqM
  refine spec_of (cx_ok ord14 xs0 0) (fun _ _ h => h) Tryd.func14 rfl (by kernel_rfl) rfl (by kernel_rfl) ?_
  intro hok
  have hl := ok_fm (okL_mem hok (List.mem_cons_self ..))
  simp only [Fm.kids] at hl
  unfold maxLen at hl
  rw [fmA_mk, fmA_mk]
  conv => whnf
  by_cases h1 : k = k'
  · rw [decide_eq_true h1]
    conv => whnf
    by_cases h2 : a = a'
    · rw [decide_eq_true h2]
      conv => whnf
      by_cases h3 : b = b'
      · rw [decide_eq_true h3]
        conv => whnf
        by_cases h4 : n = n'
        · rw [decide_eq_true h4]
          conv => whnf
          by_cases hlen : (l.length : Int) = l'.length
          · rw [decide_eq_true hlen]
            conv => whnf
            refine loop_keep [2, 3] ?_
            conv => whnf
            refine loop_go (fun j : Nat => [(5, .v (.int .i64 j))]) (fun _ => [[intA k, intA a, intA b, intA n, .sl 5 l.length (fmsA l)], [intA k', intA a', intA b', intA n', .sl 5 l'.length (fmsA l')]]) (fun _ => []) (fun j => j ≤ l.length ∧ eqMs (l.drop j) (l'.drop j) = eqMs l l') (fun j => l.length - j) 0 ?_ ⟨Nat.zero_le _, rfl⟩ ?_
            · repeat' constructor
            · rintro j ⟨hj, hinv⟩
              conv => whnf
              by_cases hlt : j < l.length
              · have hm : j < l'.length := by omega
                have hr1 := rowOf_fms l j hlt
                have hr2 := rowOf_fms l' j hm
                have hsp := ih l[j] (List.getElem_mem hlt) l'[j] (List.getElem_mem hm)
                unfold REq at hsp
                rw [eqMs_drop l l' j hlt hm] at hinv
                generalize l[j] = f at *
                generalize l'[j] = g at *
                (refine goA ?_; try with_reducible exact trivial)
                (generalize hrq : rowOf _ _ (fmsA l) = rq; obtain rfl : rq = fmA f := hrq.symm.trans (hr1); clear hrq; conv => whnf)
                (refine goA ?_; try with_reducible exact trivial)
                (generalize hrq : rowOf _ _ (fmsA l') = rq; obtain rfl : rq = fmA g := hrq.symm.trans (hr2); clear hrq; conv => whnf)
                (refine call0 [] rfl (fun _ => hsp) ?_; rintro r rfl; conv => whnf)
                cases hq : eqM f g with
                | true =>
                  rw [hq, Bool.true_and] at hinv
                  (refine goA ?_; try with_reducible exact trivial)
                  refine ⟨i64w (by omega), ?_⟩
                  conv => whnf
                  refine ⟨j + 1, le_head ?_, ⟨hlt, hinv⟩, by omega⟩
                  repeat' constructor
                | false =>
                  rw [hq, Bool.false_and] at hinv
                  (refine goA ?_; try with_reducible exact trivial)
                  rw [← hinv]
                  rfl
              · (refine goA ?_; try with_reducible exact trivial)
                have e1 : l.drop j = [] := List.drop_of_length_le (by omega)
                have e2 : l'.drop j = [] := List.drop_of_length_le (by omega)
                rw [e1, e2] at hinv
                rw [← hinv]
                rfl
          · rw [decide_eq_false hlen]
            conv => whnf
            rw [eqMs_len (by omega)]
            rfl
        · rw [decide_eq_false h4]
          conv => whnf
          rfl
      · rw [decide_eq_false h3]
        conv => whnf
        rfl
    · rw [decide_eq_false h2]
      conv => whnf
      rfl
  · rw [decide_eq_false h1]
    conv => whnf
    rfl
theorem rEq : ∀ f g : Fm, REq f g
  | .mk k a b n l, .mk k' a' b' n' l' => by
    have hkids : ∀ f ∈ l, ∀ g ∈ l', REq f g := fun f hf g hg => rEq f g
    exact rEq_raw k a b n k' a' b' n' l l' hkids
termination_by f => SizeOf.sizeOf f
decreasing_by
  have := List.sizeOf_lt_of_mem hf
  simp only [Fm.mk.sizeOf_spec]
  omega
def ordL : Option Int → List Int
  | none => []
  | some x => [x]
theorem ordV_wk : ∀ o : Option Int, Wk (ordV o) (.sl 1 (ordL o).length (intsA (ordL o)))
  | none => .nil 1
  | some x => .refl _
theorem rSameO (o p : Option Int) : Spec Tryd.prog 40 [] [ordV o, ordV p] fun _ r => r = boolA (decide (o = p)) := by
  have h := rSameInts (ordL o) (ordL p) (by cases o <;> simp [ordL])
  have e : decide (ordL o = ordL p) = decide (o = p) := by
    rw [decide_eq_decide]
    cases o <;> cases p <;> simp [ordL]
  rw [e] at h
  exact h.wargs (.cons (ordV_wk o) (.cons (ordV_wk p) .nil)) .nil
def vdAm (c : Int) (o : A) : List A := [intA 8, intA c, intA 0, o, .v (.slice none 0 0)]
theorem rSame (c d : Int) (o p : Option Int) : Spec Tryd.prog 19 [] [.agg (vdA ⟨c, o⟩), .agg (vdA ⟨d, p⟩)] fun _ r => r = boolA (decide (c = d) && decide (o = p)) := by
  have hs := rSameO o p
  obtain ⟨Q, hQ⟩ : ∃ Q, decide (o = p) = Q := ⟨_, rfl⟩
  rw [hQ] at hs ⊢
  cases o with
  | none =>
    cases p with
    | none =>
      refine spec_of (cx_ok ord0 xs0 0) (fun _ _ h => h) Tryd.func19 rfl (by kernel_rfl) rfl (by kernel_rfl) ?_
      intro hok
      conv => whnf
      by_cases hc : c = d
      · rw [decide_eq_true hc]
        conv => whnf
        (refine call0 [] rfl (fun _ => hs) ?_; rintro r rfl; conv => whnf)
        cases Q with
        | true =>
          conv => whnf
          simp [boolA, hc]
        | false =>
          conv => whnf
          simp [boolA, hc]
      · rw [decide_eq_false hc]
        conv => whnf
        simp [boolA, hc]
    | some y =>
      refine spec_of (cx_ok ord0 xs0 0) (fun _ _ h => h) Tryd.func19 rfl (by kernel_rfl) rfl (by kernel_rfl) ?_
      intro hok
      conv => whnf
      by_cases hc : c = d
      · rw [decide_eq_true hc]
        conv => whnf
        (refine call0 [] rfl (fun _ => hs) ?_; rintro r rfl; conv => whnf)
        cases Q with
        | true =>
          conv => whnf
          simp [boolA, hc]
        | false =>
          conv => whnf
          simp [boolA, hc]
      · rw [decide_eq_false hc]
        conv => whnf
        simp [boolA, hc]
  | some x =>
    cases p with
    | none =>
      refine spec_of (cx_ok ord0 xs0 0) (fun _ _ h => h) Tryd.func19 rfl (by kernel_rfl) rfl (by kernel_rfl) ?_
      intro hok
      conv => whnf
      by_cases hc : c = d
      · rw [decide_eq_true hc]
        conv => whnf
        (refine call0 [] rfl (fun _ => hs) ?_; rintro r rfl; conv => whnf)
        cases Q with
        | true =>
          conv => whnf
          simp [boolA, hc]
        | false =>
          conv => whnf
          simp [boolA, hc]
      · rw [decide_eq_false hc]
        conv => whnf
        simp [boolA, hc]
    | some y =>
      refine spec_of (cx_ok ord0 xs0 0) (fun _ _ h => h) Tryd.func19 rfl (by kernel_rfl) rfl (by kernel_rfl) ?_
      intro hok
      conv => whnf
      by_cases hc : c = d
      · rw [decide_eq_true hc]
        conv => whnf
        (refine call0 [] rfl (fun _ => hs) ?_; rintro r rfl; conv => whnf)
        cases Q with
        | true =>
          conv => whnf
          simp [boolA, hc]
        | false =>
          conv => whnf
          simp [boolA, hc]
      · rw [decide_eq_false hc]
        conv => whnf
        simp [boolA, hc]
end Go.Proofs.YtpjcbadnpknncaaDoor.Vm
/- The reference: join. -/
namespace Go.Proofs.YtpjcbadnpknncaaDoor.Vm
open Go.RowKit Go.Shelf
set_option linter.unusedSimpArgs false
set_option linter.unusedVariables false
set_option maxRecDepth 100000
def oppC (kind : Int) (f : Fm) : Bool := decide (f.k = oppF kind) && decide (f.kids.length = 0)
def addR (out : List Fm) (f : Fm) : List Fm := if out.any (fun g => eqM g f) = true then out else out ++ [f]
def finR (kind : Int) (l : List Fm) : Fm := match l with
  | [f] => f
  | l => .mk kind 0 0 0 l
def rGo (kind : Int) : List Fm → List Fm → Fm
  | [], out => finR kind out
  | f :: r, out => if oppC kind f = true then f else rGo kind r (addR out f)
def rjoinF (kind : Int) (l : List Fm) : Fm := rGo kind (flatJ kind l) []
theorem flat_take (kind : Int) (l : List Fm) (k : Nat) (h : k < l.length) : flatJ kind (l.take (k + 1)) = flatJ kind (l.take k) ++ partsF kind l[k] := by
  rw [List.take_add_one, List.getElem?_eq_getElem h]
  unfold flatJ
  rw [List.flatMap_append]
  simp
theorem flat_le (kind : Int) (l : List Fm) (k : Nat) : (flatJ kind (l.take k)).length ≤ (flatJ kind l).length := by
  have : flatJ kind l = flatJ kind (l.take k) ++ flatJ kind (l.drop k) := by
    unfold flatJ
    rw [← List.flatMap_append, List.take_append_drop]
  rw [this, List.length_append]
  omega
theorem any_take (out : List Fm) (p : Fm → Bool) (m : Nat) (h : m < out.length) : (out.take (m + 1)).any p = ((out.take m).any p || p out[m]) := by
  rw [List.take_add_one, List.getElem?_eq_getElem h, List.any_append]
  simp
theorem fms_drop (l : List Fm) (m : Nat) (h : m < l.length) : List.drop (Int.toNat (m : Int) * 5) (fmsA l) = fmA l[m] ++ fmsA (l.drop (m + 1)) := by
  have e : l = l.take m ++ (l[m] :: l.drop (m + 1)) := by rw [← List.drop_eq_getElem_cons h, List.take_append_drop]
  conv => lhs; rw [e]
  rw [fmsA_app, List.drop_append, fmsA_cons]
  have hl : (fmsA (l.take m)).length = m * 5 := by rw [fmsA_len, List.length_take]; omega
  rw [hl, Int.toNat_natCast, Nat.sub_self, List.drop_zero, List.drop_of_length_le (by omega), List.nil_append]
/-- The orders of join's regions. -/
def ordJn (id : Nat) : Tr := match Nat.beq id 12 with
  | true => .q 0 7 .nil
  | false => match Nat.beq id 18 with
    | true => .q 0 3 (.q 1 3 (.q 2 3 (.q 3 3 (.q 4 3 (.q 6 3 (.q 7 3 (.q 8 3 (.alt 5 2 (.alt 9 2 (.alt 10 2 (.q 11 3 (.q 12 3 .nil)) .nil) .nil) (.alt 9 2 (.alt 5 2 (.alt 10 2 (.q 11 3 (.q 12 3 .nil)) .nil) .nil) .nil)))))))))
    | false => .nil
set_option maxHeartbeats 2000000 in
theorem rJoin (kind : Int) (l : List Fm) (hb : (flatJ kind l).length ≤ 1000000000000) (hl : l.length ≤ 1000000000000) : Spec Tryd.prog 37 [] [intA kind, .sl 5 l.length (fmsA l)] fun _ r => r = .agg (fmA (rjoinF kind l)) := by
  have hop := rOpp kind
  obtain ⟨R, hR⟩ : ∃ R, rjoinF kind l = R := ⟨_, rfl⟩
  rw [hR]
  unfold rjoinF at hR
  refine spec_of (cx_ok ordJn xs0 0) (fun _ _ h => h) Tryd.func37 rfl (by kernel_rfl) rfl (by kernel_rfl) ?_
  intro hok
  conv => whnf
  refine loop_row 25 5 [5] [] ?_
  conv => whnf
  refine ⟨trivial, ?_⟩
  conv => whnf
  refine loop_keep [0, 1, 4] ?_
  conv => whnf
  refine loop_goQ (fun j : Nat => [(6, .v (.int .i64 j)), (5, .own 0)]) (fun _ => [zero5]) (fun j => [.live 25 5 (flatJ kind (l.take j)).length (fmsA (flatJ kind (l.take j)))]) (fun j => j ≤ l.length) (fun j => l.length - j) 0 ?_ (Nat.zero_le _) ?_
  · unfold headQ
    repeat' constructor
    · show [Row.live _ _ _ _] = [Row.live _ _ _ _]
      rw [List.take_zero, show flatJ kind [] = [] from rfl, fmsA_nil]
      rfl
  · rintro j hj
    have hfl := flat_le kind l j
    conv => whnf
    by_cases hlt : j < l.length
    · have hr := rowOf_fms l j hlt
      have htk := flat_take kind l j hlt
      have hfl1 := flat_le kind l (j + 1)
      rw [htk, List.length_append] at hfl1
      unfold partsF at htk hfl1
      generalize l[j] = f at *
      (refine goA ?_; try with_reducible exact trivial)
      (generalize hrq : rowOf _ _ (fmsA l) = rq; obtain rfl : rq = fmA f := hrq.symm.trans (hr); clear hrq; conv => whnf)
      by_cases hk : f.k = kind
      · rw [if_pos hk] at htk hfl1
        generalize flatJ kind (l.take j) = X at *
        (refine goA ?_; try with_reducible exact trivial)
        (generalize hrq : rowOf _ _ (fmsA l) = rq; obtain rfl : rq = fmA f := hrq.symm.trans (hr); clear hrq; conv => whnf)
        refine ⟨⟨by unfold maxLen; omega, by omega⟩, ?_⟩
        conv => whnf
        (refine goA ?_; try with_reducible exact trivial)
        refine ⟨j + 1, le_head ?_, hlt, by omega⟩
        repeat' constructor
        · rw [htk, List.length_append, fmsA_app]
      · rw [if_neg hk] at htk hfl1
        generalize flatJ kind (l.take j) = X at *
        (refine goA ?_; try with_reducible exact trivial)
        (generalize hrq : rowOf _ _ (fmsA l) = rq; obtain rfl : rq = fmA f := hrq.symm.trans (hr); clear hrq; conv => whnf)
        simp only [List.length_cons, List.length_nil] at hfl1
        refine ⟨⟨by unfold maxLen; omega, by omega⟩, ?_⟩
        conv => whnf
        (refine goA ?_; try with_reducible exact trivial)
        refine ⟨j + 1, le_head ?_, hlt, by omega⟩
        repeat' constructor
        · rw [htk, List.length_append, fmsA_snoc]; rfl
    · obtain rfl : j = l.length := by omega
      rw [List.take_length]
      generalize flatJ kind l = F at *
      (refine goA ?_; try with_reducible exact trivial)
      refine loop_pub [0] ?_
      conv => whnf
      refine loop_row 25 5 [7] [] ?_
      conv => whnf
      refine ⟨trivial, ?_⟩
      conv => whnf
      refine loop_keep [0, 1, 4] ?_
      conv => whnf
      refine loop_goQ (fun x : Nat × List Fm => [(8, .v (.int .i64 x.1)), (7, .own 1), (5, .sl 5 F.length (fmsA F))]) (fun _ => [zero5]) (fun x => [.pub 5 F.length (fmsA F), .live 25 5 x.2.length (fmsA x.2)]) (fun x => x.1 ≤ F.length ∧ rGo kind (F.drop x.1) x.2 = R ∧ x.2.length ≤ x.1) (fun x => F.length - x.1) (0, []) ?_ ⟨Nat.zero_le _, hR, Nat.zero_le _⟩ ?_
      · unfold headQ
        repeat' constructor
        · show [Row.pub _ _ _, Row.live _ _ _ _] = [Row.pub _ _ _, Row.live _ _ _ _]
          rw [fmsA_nil]; rfl
      · rintro ⟨i, out⟩ ⟨hi, hinv, hol⟩
        simp only at hi hinv hol
        conv => whnf
        by_cases hif : i < F.length
        · have hrf := rowOf_fms F i hif
          rw [List.drop_eq_getElem_cons hif, rGo] at hinv
          unfold oppC at hinv
          generalize F[i] = f at *
          (refine goA ?_; try with_reducible exact trivial)
          (iterate 2 (apply flow_go; (focus ((conv => whnf); exact ⟨rfl, rfl, rfl⟩)); (conv => whnf)))
          (apply flow_go; (focus ((conv => whnf); refine ⟨by omega, ?_⟩; (generalize hrq : rowOf _ _ (fmsA F) = rq; obtain rfl : rq = fmA f := hrq.symm.trans (hrf); exact ⟨rfl, rfl, rfl⟩))); (conv => whnf))
          (iterate 3 (apply flow_go; (focus ((conv => whnf); exact ⟨rfl, rfl, rfl⟩)); (conv => whnf)))
          (apply flow_go; (focus ((conv => whnf); refine call0 [] rfl (fun _ => hop) ?_; rintro r rfl; (conv => whnf); exact ⟨rfl, rfl, rfl⟩)); (conv => whnf))
          (iterate 1 (apply flow_go; (focus ((conv => whnf); exact ⟨rfl, rfl, rfl⟩)); (conv => whnf)))
          by_cases hk : f.k = oppF kind
          · rw [decide_eq_true hk] at hinv ⊢
            (iterate 3 (apply flow_go; (focus ((conv => whnf); exact ⟨rfl, rfl, rfl⟩)); (conv => whnf)))
            (apply flow_go; (focus ((conv => whnf); refine ⟨by omega, ?_⟩; (generalize hrq : rowOf _ _ (fmsA F) = rq; obtain rfl : rq = fmA f := hrq.symm.trans (hrf); exact ⟨rfl, rfl, rfl⟩))); (conv => whnf))
            (iterate 5 (apply flow_go; (focus ((conv => whnf); exact ⟨rfl, rfl, rfl⟩)); (conv => whnf)))
            by_cases hk0 : f.kids.length = 0
            · rw [decide_eq_true hk0, Bool.true_and, if_pos rfl] at hinv
              (refine goA ?_; try with_reducible exact trivial)
              (generalize hrq : rowOf _ _ (fmsA F) = rq; obtain rfl : rq = fmA f := hrq.symm.trans (hrf); clear hrq; conv => whnf)
              rw [← hinv]
              rfl
            · rw [decide_eq_false hk0, Bool.true_and, if_neg (by simp)] at hinv
              (refine goA ?_; try with_reducible exact trivial)
              refine loop_keep [0, 1, 4, 5, 7, 8] ?_
              conv => whnf
              refine loop_goQ (fun m : Nat => [(10, .v (.int .i64 m)), (9, .v (.bool ((out.take m).any fun g => eqM g f)))]) (fun _ => [zero5]) (fun _ => [.pub 5 F.length (fmsA F), .live 25 5 out.length (fmsA out)]) (fun m => m ≤ out.length) (fun m => out.length - m) 0 ?_ (Nat.zero_le _) ?_
              · unfold headQ
                repeat' constructor
              · rintro m hm
                conv => whnf
                by_cases hmo : m < out.length
                · have hdo := fms_drop out m hmo
                  have hat := any_take out (fun g => eqM g f) m hmo
                  have hqe := rEq out[m] f
                  unfold REq at hqe
                  generalize out[m] = g at *
                  generalize (out.take m).any (fun g => eqM g f) = S at *
                  (refine goA ?_; try with_reducible exact trivial)
                  cases S with
                  | true =>
                    conv => whnf
                    apply join_eq
                    · conv => whnf
                      refine ⟨?_, ?_⟩
                      · conv => whnf
                      · conv => whnf
                    conv => whnf
                    (refine goA ?_; try with_reducible exact trivial)
                    refine ⟨m + 1, le_head ?_, hmo, by omega⟩
                    repeat' constructor
                    · rw [hat]; rfl
                  | false =>
                    conv => whnf
                    apply join_eq
                    · conv => whnf
                      (refine goA ?_; try with_reducible exact trivial)
                      refine ⟨?_, ?_⟩
                      · conv => whnf
                        rw [hdo]
                        conv => whnf
                        (generalize hrq : rowOf _ _ (fmsA F) = rq; obtain rfl : rq = fmA f := hrq.symm.trans (hrf); clear hrq; conv => whnf)
                        (refine call0 [] rfl (fun _ => hqe) ?_; rintro r rfl; conv => whnf)
                      · conv => whnf
                        (generalize hrq : rowOf _ _ (fmsA F) = rq; obtain rfl : rq = fmA f := hrq.symm.trans (hrf); clear hrq; conv => whnf)
                        rw [hdo]
                        conv => whnf
                        (refine call0 [] rfl (fun _ => hqe) ?_; rintro r rfl; conv => whnf)
                        try rfl
                    conv => whnf
                    (refine goA ?_; try with_reducible exact trivial)
                    refine ⟨m + 1, le_head ?_, hmo, by omega⟩
                    repeat' constructor
                    · rw [hat, Bool.false_or]
                · obtain rfl : m = out.length := by omega
                  rw [List.take_length]
                  unfold addR at hinv
                  (refine goA ?_; try with_reducible exact trivial)
                  cases hS : out.any (fun g => eqM g f) with
                  | true =>
                    rw [hS, if_pos rfl] at hinv
                    conv => whnf
                    (refine goA ?_; try with_reducible exact trivial)
                    refine ⟨(i + 1, out), le_head ?_, ⟨hif, hinv, by simp only; omega⟩, by simp only; omega⟩
                    repeat' constructor
                  | false =>
                    rw [hS, if_neg (by simp)] at hinv
                    conv => whnf
                    (refine goA ?_; try with_reducible exact trivial)
                    (generalize hrq : rowOf _ _ (fmsA F) = rq; obtain rfl : rq = fmA f := hrq.symm.trans (hrf); clear hrq; conv => whnf)
                    refine ⟨⟨by unfold maxLen; omega, by omega⟩, ?_⟩
                    conv => whnf
                    (refine goA ?_; try with_reducible exact trivial)
                    refine ⟨(i + 1, out ++ [f]), le_head ?_, ⟨hif, hinv, by simp only [List.length_append, List.length_cons, List.length_nil]; omega⟩, by simp only; omega⟩
                    repeat' constructor
                    · simp only [List.length_append, List.length_cons, List.length_nil]
                      rw [fmsA_snoc]; rfl
          · rw [decide_eq_false hk] at hinv ⊢
            rw [Bool.false_and, if_neg (by simp)] at hinv
            (iterate 1 (apply flow_go; (focus ((conv => whnf); exact ⟨rfl, rfl, rfl⟩)); (conv => whnf)))
            (iterate 7 (apply flow_go; (focus ((conv => whnf); done)); (conv => whnf)))
            (iterate 1 (apply flow_go; (focus ((conv => whnf); exact ⟨rfl, rfl, rfl⟩)); (conv => whnf)))
            (refine goA ?_; try with_reducible exact trivial)
            refine loop_keep [0, 1, 4, 5, 7, 8] ?_
            conv => whnf
            refine loop_goQ (fun m : Nat => [(10, .v (.int .i64 m)), (9, .v (.bool ((out.take m).any fun g => eqM g f)))]) (fun _ => [zero5]) (fun _ => [.pub 5 F.length (fmsA F), .live 25 5 out.length (fmsA out)]) (fun m => m ≤ out.length) (fun m => out.length - m) 0 ?_ (Nat.zero_le _) ?_
            · unfold headQ
              repeat' constructor
            · rintro m hm
              conv => whnf
              by_cases hmo : m < out.length
              · have hdo := fms_drop out m hmo
                have hat := any_take out (fun g => eqM g f) m hmo
                have hqe := rEq out[m] f
                unfold REq at hqe
                generalize out[m] = g at *
                generalize (out.take m).any (fun g => eqM g f) = S at *
                (refine goA ?_; try with_reducible exact trivial)
                cases S with
                | true =>
                  conv => whnf
                  apply join_eq
                  · conv => whnf
                    refine ⟨?_, ?_⟩
                    · conv => whnf
                    · conv => whnf
                  conv => whnf
                  (refine goA ?_; try with_reducible exact trivial)
                  refine ⟨m + 1, le_head ?_, hmo, by omega⟩
                  repeat' constructor
                  · rw [hat]; rfl
                | false =>
                  conv => whnf
                  apply join_eq
                  · conv => whnf
                    (refine goA ?_; try with_reducible exact trivial)
                    refine ⟨?_, ?_⟩
                    · conv => whnf
                      rw [hdo]
                      conv => whnf
                      (generalize hrq : rowOf _ _ (fmsA F) = rq; obtain rfl : rq = fmA f := hrq.symm.trans (hrf); clear hrq; conv => whnf)
                      (refine call0 [] rfl (fun _ => hqe) ?_; rintro r rfl; conv => whnf)
                    · conv => whnf
                      (generalize hrq : rowOf _ _ (fmsA F) = rq; obtain rfl : rq = fmA f := hrq.symm.trans (hrf); clear hrq; conv => whnf)
                      rw [hdo]
                      conv => whnf
                      (refine call0 [] rfl (fun _ => hqe) ?_; rintro r rfl; conv => whnf)
                      try rfl
                  conv => whnf
                  (refine goA ?_; try with_reducible exact trivial)
                  refine ⟨m + 1, le_head ?_, hmo, by omega⟩
                  repeat' constructor
                  · rw [hat, Bool.false_or]
              · obtain rfl : m = out.length := by omega
                rw [List.take_length]
                unfold addR at hinv
                (refine goA ?_; try with_reducible exact trivial)
                cases hS : out.any (fun g => eqM g f) with
                | true =>
                  rw [hS, if_pos rfl] at hinv
                  conv => whnf
                  (refine goA ?_; try with_reducible exact trivial)
                  refine ⟨(i + 1, out), le_head ?_, ⟨hif, hinv, by simp only; omega⟩, by simp only; omega⟩
                  repeat' constructor
                | false =>
                  rw [hS, if_neg (by simp)] at hinv
                  conv => whnf
                  (refine goA ?_; try with_reducible exact trivial)
                  (generalize hrq : rowOf _ _ (fmsA F) = rq; obtain rfl : rq = fmA f := hrq.symm.trans (hrf); clear hrq; conv => whnf)
                  refine ⟨⟨by unfold maxLen; omega, by omega⟩, ?_⟩
                  conv => whnf
                  (refine goA ?_; try with_reducible exact trivial)
                  refine ⟨(i + 1, out ++ [f]), le_head ?_, ⟨hif, hinv, by simp only [List.length_append, List.length_cons, List.length_nil]; omega⟩, by simp only; omega⟩
                  repeat' constructor
                  · simp only [List.length_append, List.length_cons, List.length_nil]
                    rw [fmsA_snoc]; rfl
        · rw [List.drop_of_length_le (by omega), rGo] at hinv
          unfold finR at hinv
          (refine goA ?_; try with_reducible exact trivial)
          rcases out with _ | ⟨f1, out⟩
          · conv => whnf
            rw [← hinv]
            rfl
          rcases out with _ | ⟨f2, out⟩
          · have e1 : fmsA [f1] = fmA f1 := by rw [fmsA_cons, fmsA_nil, List.append_nil]
            simp only [e1]
            conv => whnf
            (refine goA ?_; try with_reducible exact trivial)
            rw [← hinv]
            rfl
          · have hln : (f1 :: f2 :: out).length = out.length + 2 := by simp
            change Fm.mk kind 0 0 0 (f1 :: f2 :: out) = R at hinv
            generalize f1 :: f2 :: out = M at *
            (refine goA ?_; try with_reducible exact trivial)
            rw [← hinv]
            rfl
end Go.Proofs.YtpjcbadnpknncaaDoor.Vm
/- The reference: S. -/
namespace Go.Proofs.YtpjcbadnpknncaaDoor.Vm
open Go.RowKit Go.Shelf
set_option linter.unusedSimpArgs false
set_option linter.unusedVariables false
set_option maxRecDepth 100000
def sK (k a b n : Int) (ks : List Fm) : Fm :=
  if k = 2 then notF (g0 ks)
  else if k = 3 ∨ k = 4 then rjoinF k ks
  else if k = 5 ∨ k = 7 ∨ k = 8 then (if isC (g0 ks) = true then g0 ks else .mk k a b n ks)
  else if k = 6 then (if (isC (g1 ks) || eqM (g0 ks) (constF false)) = true then g1 ks else .mk k a b n ks)
  else .mk k a b n ks
mutual
def sF : Fm → Fm
  | .mk k a b n l => if fewF k l.length = true then .mk k a b n l else sK k a b n (sFs l)
def sFs : List Fm → List Fm
  | [] => []
  | f :: l => sF f :: sFs l
end
theorem sFs_map : ∀ l : List Fm, sFs l = l.map sF
  | [] => by unfold sFs; rfl
  | f :: l => by unfold sFs; rw [sFs_map l]; rfl
theorem sF_mk (k a b n : Int) (l : List Fm) : sF (.mk k a b n l) = if fewF k l.length = true then .mk k a b n l else sK k a b n (l.map sF) := by
  rw [← sFs_map]
  conv => lhs; unfold sF
mutual
/-- S can be applied. -/
def FitT : Fm → Prop
  | .mk k _ _ _ l => l.length ≤ 1000000000000 ∧ (k = 3 ∨ k = 4 → JB k (sFs l)) ∧ FitTs l
def FitTs : List Fm → Prop
  | [] => True
  | f :: l => FitT f ∧ FitTs l
end
theorem fitTs_mem : ∀ {l : List Fm} {f : Fm}, FitTs l → f ∈ l → FitT f
  | g :: l, f, h, hf => by
    unfold FitTs at h
    rcases List.mem_cons.1 hf with rfl | hf
    · exact h.1
    · exact fitTs_mem h.2 hf
theorem fitTs_mk : ∀ {l : List Fm}, (∀ f ∈ l, FitT f) → FitTs l
  | [], _ => by unfold FitTs; trivial
  | g :: l, h => by unfold FitTs; exact ⟨h g (by simp), fitTs_mk fun f hf => h f (by simp [hf])⟩
theorem fitT_mk {k a b n : Int} {l : List Fm} (h0 : l.length ≤ 1000000000000) (h1 : k = 3 ∨ k = 4 → JB k (l.map sF)) (h2 : ∀ f ∈ l, FitT f) : FitT (.mk k a b n l) := by
  unfold FitT
  rw [sFs_map]
  exact ⟨h0, h1, fitTs_mk h2⟩
theorem fitT_of {k a b n : Int} {l : List Fm} (h : FitT (.mk k a b n l)) : l.length ≤ 1000000000000 ∧ (k = 3 ∨ k = 4 → JB k (l.map sF)) ∧ ∀ f ∈ l, FitT f := by
  unfold FitT at h
  rw [sFs_map] at h
  exact ⟨h.1, h.2.1, fun f hf => fitTs_mem h.2.2 hf⟩
def SSpec (f : Fm) : Prop := Spec Tryd.prog 16 [] [.agg (fmA f)] fun _ r => r = .agg (fmA (sF f))
/-- The end of a round: rows that are appended to no more. -/
theorem le_pubK {np : Nat} {t : List A} {bx : List (List A)} {rw : List Row} {s2 : S} (ids : List Nat)
    (h : forceR (pubRows rw ids) fun rw' => mapK (subA rw') t fun t' => subBK rw' bx fun bx' => Le np ⟨t', bx', rw'⟩ s2) : Le np ⟨t, bx, rw⟩ s2 := by
  rw [forceR_iff, mapK_iff, subBK_iff] at h
  exact ((le_pub (s := ⟨t, bx, rw⟩) ids).trans le_sub).trans h
set_option maxHeartbeats 2000000 in
theorem s_raw (k a b n : Int) (l : List Fm) (hl : l.length ≤ 1000000000000) (hj : k = 3 ∨ k = 4 → JB k (l.map sF)) (ih : ∀ f ∈ l, SSpec f) : SSpec (.mk k a b n l) := by
  unfold SSpec
  have hfew := rFew k a b n l
  rw [sF_mk]
  obtain ⟨R, hR⟩ : ∃ R, (if fewF k l.length = true then Fm.mk k a b n l else sK k a b n (l.map sF)) = R := ⟨_, rfl⟩
  rw [hR]
  rw [fmA_mk] at hfew ⊢
  refine spec_of (cx_ok (fun id => match Nat.beq id 20 with | true => .q 0 7 .nil | false => ord16 id) xs0 0) (fun _ _ h => h) Tryd.func16 rfl (by kernel_rfl) rfl (by kernel_rfl) ?_
  intro hok
  conv => whnf
  (refine call0 [] rfl (fun _ => hfew) ?_; rintro r rfl; conv => whnf)
  cases hfw : fewF k l.length with
  | true =>
    rw [if_pos hfw] at hR
    conv => whnf
    rw [← hR]
    rfl
  | false =>
    rw [if_neg (by rw [hfw]; simp)] at hR
    conv => whnf
    refine loop_row 25 5 [3] [] ?_
    conv => whnf
    refine ⟨trivial, ?_⟩
    conv => whnf
    have hml : (l.map sF).length = l.length := by simp
    by_cases hl0 : l.length = 0
    · refine loop_pub [0] ?_
      conv => whnf
      refine loop_keep [1, 2] ?_
      conv => whnf
      refine loop_goQ (fun x : Option Nat => match x with | some j => [(4, .v (.int .i64 j)), (3, .own 0)] | none => [(4, .v (.int .i64 l.length)), (3, .sl 5 l.length (fmsA (l.map sF)))]) (fun _ => [[intA k, intA a, intA b, intA n, .sl 5 l.length (fmsA l)], zero5]) (fun x => match x with | some j => [.live 25 5 j (fmsA ((l.take j).map sF))] | none => [.pub 5 l.length (fmsA (l.map sF))]) (fun x => match x with | some j => j < l.length | none => True) (fun x => match x with | some j => l.length + 1 - j | none => 0) (none) ?_ (by first | trivial | (show 0 < l.length; omega)) ?_
      · obtain rfl : l = [] := List.eq_nil_of_length_eq_zero hl0
        unfold headQ
        repeat' constructor
        · show A.sl 5 0 [] = A.sl 5 0 (fmsA [])
          rw [fmsA_nil]
        · show [Row.pub _ _ _] = [Row.pub _ _ (fmsA [])]
          rw [fmsA_nil]
          rfl
      rintro x hx
      cases x with
      | some j =>
        have hlt : j < l.length := hx
        clear hx
        have hr := rowOf_fms l j hlt
        have hih := ih l[j] (List.getElem_mem hlt)
        unfold SSpec at hih
        have htk := take_map sF l j hlt
        generalize l[j] = f at *
        conv => whnf
        (refine goA ?_; try with_reducible exact trivial)
        (generalize hrq : rowOf _ _ (fmsA l) = rq; obtain rfl : rq = fmA f := hrq.symm.trans (hr); clear hrq; conv => whnf)
        (refine call0 [] rfl (fun _ => hih) ?_; rintro r rfl; conv => whnf)
        refine ⟨⟨by unfold maxLen; omega, by omega⟩, ?_⟩
        conv => whnf
        (refine goA ?_; try with_reducible exact trivial)
        by_cases h8 : j + 1 < l.length
        · refine ⟨some (j + 1), le_head ?_, h8, by simp only; omega⟩
          repeat' constructor
          · rw [htk, fmsA_snoc]; rfl
        · have e8 : j + 1 = l.length := by omega
          rw [e8, List.take_length] at htk
          refine ⟨none, le_pubK [0] ?_, trivial, by simp only; omega⟩
          conv => whnf
          refine le_head ?_
          have e9 : fmsA ((l.take j).map sF) ++ fmA (sF f) = fmsA (l.map sF) := by rw [htk, fmsA_snoc]
          repeat' constructor
          · show A.sl 5 (j + 1) (fmsA ((l.take j).map sF) ++ fmA (sF f)) = A.sl 5 l.length (fmsA (l.map sF))
            rw [e8, e9]
          · show A.v (.int .i64 ((j : Int) + 1)) = A.v (.int .i64 (l.length : Int))
            rw [show (j : Int) + 1 = (l.length : Int) by omega]
          · show Row.pub 5 (j + 1) (fmsA ((l.take j).map sF) ++ fmA (sF f)) = Row.pub 5 l.length (fmsA (l.map sF))
            rw [e8, e9]
      | none =>
        clear hx hl0
        generalize l.map sF = M at *
        unfold sK at hR
        have hfew2 : (k = 6 → 2 ≤ l.length) ∧ (k = 2 ∨ k = 5 ∨ k = 7 ∨ k = 8 → 1 ≤ l.length) := by
          unfold fewF at hfw
          refine ⟨fun h => ?_, fun h => ?_⟩
          · rw [if_pos h] at hfw
            simpa using hfw
          · rw [if_neg (by omega), if_pos h] at hfw
            have := of_decide_eq_false hfw
            omega
        conv => whnf
        (refine goA ?_; try with_reducible exact trivial)
        rw [← hml] at hfew2 ⊢
        by_cases h2 : k = 2
        · have hr0 := row0 (l := M) (hfew2.2 (.inl h2))
          rw [if_pos h2] at hR
          generalize g0 M = x at *
          have hno := rNot x
          rw [hR] at hno
          rw [decide_eq_true h2]
          conv => whnf
          (refine goA ?_; try with_reducible exact trivial)
          (generalize hrq : rowOf _ _ (fmsA M) = rq; obtain rfl : rq = fmA x := hrq.symm.trans (hr0); clear hrq; conv => whnf)
          (refine call0 [] rfl (fun _ => hno) ?_; rintro r rfl; conv => whnf)
          rfl
        rw [if_neg h2] at hR
        rw [decide_eq_false h2]
        conv => whnf
        have hjn := fun h => rJoin k M h (by omega)
        by_cases h3 : k = 3
        · rw [if_pos (show k = 3 ∨ k = 4 from .inl h3)] at hR
          rw [hR] at hjn
          rw [decide_eq_true h3]
          conv => whnf
          (refine call0 [] rfl (fun _ => hjn (hj (.inl h3))) ?_; rintro r rfl; conv => whnf)
          rfl
        rw [decide_eq_false h3]
        conv => whnf
        by_cases h4 : k = 4
        · rw [if_pos (show k = 3 ∨ k = 4 from .inr h4)] at hR
          rw [hR] at hjn
          rw [decide_eq_true h4]
          conv => whnf
          (refine call0 [] rfl (fun _ => hjn (hj (.inr h4))) ?_; rintro r rfl; conv => whnf)
          rfl
        rw [decide_eq_false h4]
        rw [if_neg (show ¬ (k = 3 ∨ k = 4) by omega)] at hR
        conv => whnf
        by_cases h5 : k = 5 ∨ k = 7 ∨ k = 8
        · have hr0 := row0 (l := M) (hfew2.2 (.inr h5))
          rw [if_pos h5] at hR
          generalize g0 M = x at *
          have hisc := rConst x
          rcases h5 with h5 | h5 | h5
          · rw [decide_eq_true h5]
            conv => whnf
            (refine goA ?_; try with_reducible exact trivial)
            (generalize hrq : rowOf _ _ (fmsA M) = rq; obtain rfl : rq = fmA x := hrq.symm.trans (hr0); clear hrq; conv => whnf)
            (refine call0 [] rfl (fun _ => hisc) ?_; rintro r rfl; conv => whnf)
            cases hc : isC x with
            | true =>
              rw [if_pos hc] at hR
              conv => whnf
              (refine goA ?_; try with_reducible exact trivial)
              (generalize hrq : rowOf _ _ (fmsA M) = rq; obtain rfl : rq = fmA x := hrq.symm.trans (hr0); clear hrq; conv => whnf)
              rw [← hR]
              rfl
            | false =>
              rw [if_neg (show ¬ isC x = true by rw [hc]; simp)] at hR
              conv => whnf
              rw [← hR]
              rfl
          · rw [decide_eq_false (show ¬ k = 5 by omega)]
            conv => whnf
            rw [decide_eq_true h5]
            conv => whnf
            (refine goA ?_; try with_reducible exact trivial)
            (generalize hrq : rowOf _ _ (fmsA M) = rq; obtain rfl : rq = fmA x := hrq.symm.trans (hr0); clear hrq; conv => whnf)
            (refine call0 [] rfl (fun _ => hisc) ?_; rintro r rfl; conv => whnf)
            cases hc : isC x with
            | true =>
              rw [if_pos hc] at hR
              conv => whnf
              (refine goA ?_; try with_reducible exact trivial)
              (generalize hrq : rowOf _ _ (fmsA M) = rq; obtain rfl : rq = fmA x := hrq.symm.trans (hr0); clear hrq; conv => whnf)
              rw [← hR]
              rfl
            | false =>
              rw [if_neg (show ¬ isC x = true by rw [hc]; simp)] at hR
              conv => whnf
              rw [← hR]
              rfl
          · rw [decide_eq_false (show ¬ k = 5 by omega)]
            conv => whnf
            rw [decide_eq_false (show ¬ k = 7 by omega)]
            conv => whnf
            rw [decide_eq_true h5]
            conv => whnf
            (refine goA ?_; try with_reducible exact trivial)
            (generalize hrq : rowOf _ _ (fmsA M) = rq; obtain rfl : rq = fmA x := hrq.symm.trans (hr0); clear hrq; conv => whnf)
            (refine call0 [] rfl (fun _ => hisc) ?_; rintro r rfl; conv => whnf)
            cases hc : isC x with
            | true =>
              rw [if_pos hc] at hR
              conv => whnf
              (refine goA ?_; try with_reducible exact trivial)
              (generalize hrq : rowOf _ _ (fmsA M) = rq; obtain rfl : rq = fmA x := hrq.symm.trans (hr0); clear hrq; conv => whnf)
              rw [← hR]
              rfl
            | false =>
              rw [if_neg (show ¬ isC x = true by rw [hc]; simp)] at hR
              conv => whnf
              rw [← hR]
              rfl
        rw [if_neg h5] at hR
        rw [decide_eq_false (show ¬ k = 5 by omega)]
        conv => whnf
        rw [decide_eq_false (show ¬ k = 7 by omega)]
        conv => whnf
        rw [decide_eq_false (show ¬ k = 8 by omega)]
        conv => whnf
        by_cases h6 : k = 6
        · have hn := hfew2.1 h6
          have hr0 := row0 (l := M) (by omega)
          have hr1 := row1 hn
          rw [decide_eq_true h6]
          rw [if_pos h6] at hR
          generalize g0 M = x at *
          generalize g1 M = y at *
          have hisc := rConst y
          have heq := rEq x (constF false)
          unfold REq at heq
          have hfa := rFalse
          conv => whnf
          (iterate 1 (apply flow_go; (focus ((conv => whnf); exact ⟨rfl, rfl, rfl⟩)); (conv => whnf)))
          (apply flow_go; (focus ((conv => whnf); refine ⟨by omega, ?_⟩; (generalize hrq : rowOf _ _ (fmsA M) = rq; obtain rfl : rq = fmA y := hrq.symm.trans (hr1); exact ⟨rfl, rfl, rfl⟩))); (conv => whnf))
          (iterate 1 (apply flow_go; (focus ((conv => whnf); exact ⟨rfl, rfl, rfl⟩)); (conv => whnf)))
          (apply flow_go; (focus ((conv => whnf); refine call0 [] rfl (fun _ => hisc) ?_; rintro r rfl; (conv => whnf); exact ⟨rfl, rfl, rfl⟩)); (conv => whnf))
          cases hc : isC y with
          | true =>
            rw [hc, Bool.true_or, if_pos rfl] at hR
            (iterate 1 (apply flow_go; (focus ((conv => whnf); exact ⟨rfl, rfl, rfl⟩)); (conv => whnf)))
            (iterate 5 (apply flow_go; (focus ((conv => whnf); done)); (conv => whnf)))
            (iterate 1 (apply flow_go; (focus ((conv => whnf); exact ⟨rfl, rfl, rfl⟩)); (conv => whnf)))
            (refine goA ?_; try with_reducible exact trivial)
            (generalize hrq : rowOf _ _ (fmsA M) = rq; obtain rfl : rq = fmA y := hrq.symm.trans (hr1); clear hrq; conv => whnf)
            rw [← hR]
            rfl
          | false =>
            rw [hc, Bool.false_or] at hR
            (iterate 2 (apply flow_go; (focus ((conv => whnf); exact ⟨rfl, rfl, rfl⟩)); (conv => whnf)))
            (apply flow_go; (focus ((conv => whnf); refine ⟨by omega, ?_⟩; (generalize hrq : rowOf _ _ (fmsA M) = rq; obtain rfl : rq = fmA x := hrq.symm.trans (hr0); exact ⟨rfl, rfl, rfl⟩))); (conv => whnf))
            (iterate 1 (apply flow_go; (focus ((conv => whnf); exact ⟨rfl, rfl, rfl⟩)); (conv => whnf)))
            (apply flow_go; (focus ((conv => whnf); refine call0 [] rfl (fun _ => hfa) ?_; rintro r rfl; (conv => whnf); exact ⟨rfl, rfl, rfl⟩)); (conv => whnf))
            (apply flow_go; (focus ((conv => whnf); refine call0 [] rfl (fun _ => heq) ?_; rintro r rfl; (conv => whnf); exact ⟨rfl, rfl, rfl⟩)); (conv => whnf))
            cases he : eqM x (constF false) with
            | true =>
              rw [he, if_pos rfl] at hR
              (iterate 1 (apply flow_go; (focus ((conv => whnf); exact ⟨rfl, rfl, rfl⟩)); (conv => whnf)))
              (refine goA ?_; try with_reducible exact trivial)
              (generalize hrq : rowOf _ _ (fmsA M) = rq; obtain rfl : rq = fmA y := hrq.symm.trans (hr1); clear hrq; conv => whnf)
              rw [← hR]
              rfl
            | false =>
              rw [he, if_neg (by simp)] at hR
              (iterate 1 (apply flow_go; (focus ((conv => whnf); exact ⟨rfl, rfl, rfl⟩)); (conv => whnf)))
              (refine goA ?_; try with_reducible exact trivial)
              rw [← hR]
              rfl
        · rw [if_neg h6] at hR
          rw [decide_eq_false h6]
          conv => whnf
          rw [← hR]
          rfl
    · refine loop_keep [1, 2] ?_
      conv => whnf
      refine loop_goQ (fun x : Option Nat => match x with | some j => [(4, .v (.int .i64 j)), (3, .own 0)] | none => [(4, .v (.int .i64 l.length)), (3, .sl 5 l.length (fmsA (l.map sF)))]) (fun _ => [[intA k, intA a, intA b, intA n, .sl 5 l.length (fmsA l)], zero5]) (fun x => match x with | some j => [.live 25 5 j (fmsA ((l.take j).map sF))] | none => [.pub 5 l.length (fmsA (l.map sF))]) (fun x => match x with | some j => j < l.length | none => True) (fun x => match x with | some j => l.length + 1 - j | none => 0) (some 0) ?_ (by first | trivial | (show 0 < l.length; omega)) ?_
      · unfold headQ
        repeat' constructor
        · show [Row.live _ _ _ _] = [Row.live _ _ _ _]
          rw [List.take_zero, List.map_nil, fmsA_nil]
      rintro x hx
      cases x with
      | some j =>
        have hlt : j < l.length := hx
        clear hx
        have hr := rowOf_fms l j hlt
        have hih := ih l[j] (List.getElem_mem hlt)
        unfold SSpec at hih
        have htk := take_map sF l j hlt
        generalize l[j] = f at *
        conv => whnf
        (refine goA ?_; try with_reducible exact trivial)
        (generalize hrq : rowOf _ _ (fmsA l) = rq; obtain rfl : rq = fmA f := hrq.symm.trans (hr); clear hrq; conv => whnf)
        (refine call0 [] rfl (fun _ => hih) ?_; rintro r rfl; conv => whnf)
        refine ⟨⟨by unfold maxLen; omega, by omega⟩, ?_⟩
        conv => whnf
        (refine goA ?_; try with_reducible exact trivial)
        by_cases h8 : j + 1 < l.length
        · refine ⟨some (j + 1), le_head ?_, h8, by simp only; omega⟩
          repeat' constructor
          · rw [htk, fmsA_snoc]; rfl
        · have e8 : j + 1 = l.length := by omega
          rw [e8, List.take_length] at htk
          refine ⟨none, le_pubK [0] ?_, trivial, by simp only; omega⟩
          conv => whnf
          refine le_head ?_
          have e9 : fmsA ((l.take j).map sF) ++ fmA (sF f) = fmsA (l.map sF) := by rw [htk, fmsA_snoc]
          repeat' constructor
          · show A.sl 5 (j + 1) (fmsA ((l.take j).map sF) ++ fmA (sF f)) = A.sl 5 l.length (fmsA (l.map sF))
            rw [e8, e9]
          · show A.v (.int .i64 ((j : Int) + 1)) = A.v (.int .i64 (l.length : Int))
            rw [show (j : Int) + 1 = (l.length : Int) by omega]
          · show Row.pub 5 (j + 1) (fmsA ((l.take j).map sF) ++ fmA (sF f)) = Row.pub 5 l.length (fmsA (l.map sF))
            rw [e8, e9]
      | none =>
        clear hx hl0
        generalize l.map sF = M at *
        unfold sK at hR
        have hfew2 : (k = 6 → 2 ≤ l.length) ∧ (k = 2 ∨ k = 5 ∨ k = 7 ∨ k = 8 → 1 ≤ l.length) := by
          unfold fewF at hfw
          refine ⟨fun h => ?_, fun h => ?_⟩
          · rw [if_pos h] at hfw
            simpa using hfw
          · rw [if_neg (by omega), if_pos h] at hfw
            have := of_decide_eq_false hfw
            omega
        conv => whnf
        (refine goA ?_; try with_reducible exact trivial)
        rw [← hml] at hfew2 ⊢
        by_cases h2 : k = 2
        · have hr0 := row0 (l := M) (hfew2.2 (.inl h2))
          rw [if_pos h2] at hR
          generalize g0 M = x at *
          have hno := rNot x
          rw [hR] at hno
          rw [decide_eq_true h2]
          conv => whnf
          (refine goA ?_; try with_reducible exact trivial)
          (generalize hrq : rowOf _ _ (fmsA M) = rq; obtain rfl : rq = fmA x := hrq.symm.trans (hr0); clear hrq; conv => whnf)
          (refine call0 [] rfl (fun _ => hno) ?_; rintro r rfl; conv => whnf)
          rfl
        rw [if_neg h2] at hR
        rw [decide_eq_false h2]
        conv => whnf
        have hjn := fun h => rJoin k M h (by omega)
        by_cases h3 : k = 3
        · rw [if_pos (show k = 3 ∨ k = 4 from .inl h3)] at hR
          rw [hR] at hjn
          rw [decide_eq_true h3]
          conv => whnf
          (refine call0 [] rfl (fun _ => hjn (hj (.inl h3))) ?_; rintro r rfl; conv => whnf)
          rfl
        rw [decide_eq_false h3]
        conv => whnf
        by_cases h4 : k = 4
        · rw [if_pos (show k = 3 ∨ k = 4 from .inr h4)] at hR
          rw [hR] at hjn
          rw [decide_eq_true h4]
          conv => whnf
          (refine call0 [] rfl (fun _ => hjn (hj (.inr h4))) ?_; rintro r rfl; conv => whnf)
          rfl
        rw [decide_eq_false h4]
        rw [if_neg (show ¬ (k = 3 ∨ k = 4) by omega)] at hR
        conv => whnf
        by_cases h5 : k = 5 ∨ k = 7 ∨ k = 8
        · have hr0 := row0 (l := M) (hfew2.2 (.inr h5))
          rw [if_pos h5] at hR
          generalize g0 M = x at *
          have hisc := rConst x
          rcases h5 with h5 | h5 | h5
          · rw [decide_eq_true h5]
            conv => whnf
            (refine goA ?_; try with_reducible exact trivial)
            (generalize hrq : rowOf _ _ (fmsA M) = rq; obtain rfl : rq = fmA x := hrq.symm.trans (hr0); clear hrq; conv => whnf)
            (refine call0 [] rfl (fun _ => hisc) ?_; rintro r rfl; conv => whnf)
            cases hc : isC x with
            | true =>
              rw [if_pos hc] at hR
              conv => whnf
              (refine goA ?_; try with_reducible exact trivial)
              (generalize hrq : rowOf _ _ (fmsA M) = rq; obtain rfl : rq = fmA x := hrq.symm.trans (hr0); clear hrq; conv => whnf)
              rw [← hR]
              rfl
            | false =>
              rw [if_neg (show ¬ isC x = true by rw [hc]; simp)] at hR
              conv => whnf
              rw [← hR]
              rfl
          · rw [decide_eq_false (show ¬ k = 5 by omega)]
            conv => whnf
            rw [decide_eq_true h5]
            conv => whnf
            (refine goA ?_; try with_reducible exact trivial)
            (generalize hrq : rowOf _ _ (fmsA M) = rq; obtain rfl : rq = fmA x := hrq.symm.trans (hr0); clear hrq; conv => whnf)
            (refine call0 [] rfl (fun _ => hisc) ?_; rintro r rfl; conv => whnf)
            cases hc : isC x with
            | true =>
              rw [if_pos hc] at hR
              conv => whnf
              (refine goA ?_; try with_reducible exact trivial)
              (generalize hrq : rowOf _ _ (fmsA M) = rq; obtain rfl : rq = fmA x := hrq.symm.trans (hr0); clear hrq; conv => whnf)
              rw [← hR]
              rfl
            | false =>
              rw [if_neg (show ¬ isC x = true by rw [hc]; simp)] at hR
              conv => whnf
              rw [← hR]
              rfl
          · rw [decide_eq_false (show ¬ k = 5 by omega)]
            conv => whnf
            rw [decide_eq_false (show ¬ k = 7 by omega)]
            conv => whnf
            rw [decide_eq_true h5]
            conv => whnf
            (refine goA ?_; try with_reducible exact trivial)
            (generalize hrq : rowOf _ _ (fmsA M) = rq; obtain rfl : rq = fmA x := hrq.symm.trans (hr0); clear hrq; conv => whnf)
            (refine call0 [] rfl (fun _ => hisc) ?_; rintro r rfl; conv => whnf)
            cases hc : isC x with
            | true =>
              rw [if_pos hc] at hR
              conv => whnf
              (refine goA ?_; try with_reducible exact trivial)
              (generalize hrq : rowOf _ _ (fmsA M) = rq; obtain rfl : rq = fmA x := hrq.symm.trans (hr0); clear hrq; conv => whnf)
              rw [← hR]
              rfl
            | false =>
              rw [if_neg (show ¬ isC x = true by rw [hc]; simp)] at hR
              conv => whnf
              rw [← hR]
              rfl
        rw [if_neg h5] at hR
        rw [decide_eq_false (show ¬ k = 5 by omega)]
        conv => whnf
        rw [decide_eq_false (show ¬ k = 7 by omega)]
        conv => whnf
        rw [decide_eq_false (show ¬ k = 8 by omega)]
        conv => whnf
        by_cases h6 : k = 6
        · have hn := hfew2.1 h6
          have hr0 := row0 (l := M) (by omega)
          have hr1 := row1 hn
          rw [decide_eq_true h6]
          rw [if_pos h6] at hR
          generalize g0 M = x at *
          generalize g1 M = y at *
          have hisc := rConst y
          have heq := rEq x (constF false)
          unfold REq at heq
          have hfa := rFalse
          conv => whnf
          (iterate 1 (apply flow_go; (focus ((conv => whnf); exact ⟨rfl, rfl, rfl⟩)); (conv => whnf)))
          (apply flow_go; (focus ((conv => whnf); refine ⟨by omega, ?_⟩; (generalize hrq : rowOf _ _ (fmsA M) = rq; obtain rfl : rq = fmA y := hrq.symm.trans (hr1); exact ⟨rfl, rfl, rfl⟩))); (conv => whnf))
          (iterate 1 (apply flow_go; (focus ((conv => whnf); exact ⟨rfl, rfl, rfl⟩)); (conv => whnf)))
          (apply flow_go; (focus ((conv => whnf); refine call0 [] rfl (fun _ => hisc) ?_; rintro r rfl; (conv => whnf); exact ⟨rfl, rfl, rfl⟩)); (conv => whnf))
          cases hc : isC y with
          | true =>
            rw [hc, Bool.true_or, if_pos rfl] at hR
            (iterate 1 (apply flow_go; (focus ((conv => whnf); exact ⟨rfl, rfl, rfl⟩)); (conv => whnf)))
            (iterate 5 (apply flow_go; (focus ((conv => whnf); done)); (conv => whnf)))
            (iterate 1 (apply flow_go; (focus ((conv => whnf); exact ⟨rfl, rfl, rfl⟩)); (conv => whnf)))
            (refine goA ?_; try with_reducible exact trivial)
            (generalize hrq : rowOf _ _ (fmsA M) = rq; obtain rfl : rq = fmA y := hrq.symm.trans (hr1); clear hrq; conv => whnf)
            rw [← hR]
            rfl
          | false =>
            rw [hc, Bool.false_or] at hR
            (iterate 2 (apply flow_go; (focus ((conv => whnf); exact ⟨rfl, rfl, rfl⟩)); (conv => whnf)))
            (apply flow_go; (focus ((conv => whnf); refine ⟨by omega, ?_⟩; (generalize hrq : rowOf _ _ (fmsA M) = rq; obtain rfl : rq = fmA x := hrq.symm.trans (hr0); exact ⟨rfl, rfl, rfl⟩))); (conv => whnf))
            (iterate 1 (apply flow_go; (focus ((conv => whnf); exact ⟨rfl, rfl, rfl⟩)); (conv => whnf)))
            (apply flow_go; (focus ((conv => whnf); refine call0 [] rfl (fun _ => hfa) ?_; rintro r rfl; (conv => whnf); exact ⟨rfl, rfl, rfl⟩)); (conv => whnf))
            (apply flow_go; (focus ((conv => whnf); refine call0 [] rfl (fun _ => heq) ?_; rintro r rfl; (conv => whnf); exact ⟨rfl, rfl, rfl⟩)); (conv => whnf))
            cases he : eqM x (constF false) with
            | true =>
              rw [he, if_pos rfl] at hR
              (iterate 1 (apply flow_go; (focus ((conv => whnf); exact ⟨rfl, rfl, rfl⟩)); (conv => whnf)))
              (refine goA ?_; try with_reducible exact trivial)
              (generalize hrq : rowOf _ _ (fmsA M) = rq; obtain rfl : rq = fmA y := hrq.symm.trans (hr1); clear hrq; conv => whnf)
              rw [← hR]
              rfl
            | false =>
              rw [he, if_neg (by simp)] at hR
              (iterate 1 (apply flow_go; (focus ((conv => whnf); exact ⟨rfl, rfl, rfl⟩)); (conv => whnf)))
              (refine goA ?_; try with_reducible exact trivial)
              rw [← hR]
              rfl
        · rw [if_neg h6] at hR
          rw [decide_eq_false h6]
          conv => whnf
          rw [← hR]
          rfl
theorem s_spec : ∀ f : Fm, FitT f → SSpec f
  | .mk k a b n l, h => by
    obtain ⟨h1, h2, h3⟩ := fitT_of h
    have ihk : ∀ f ∈ l, SSpec f := fun f hf => s_spec f (h3 f hf)
    exact s_raw k a b n l h1 h2 ihk
termination_by f => SizeOf.sizeOf f
decreasing_by
  have := List.sizeOf_lt_of_mem hf
  simp only [Fm.mk.sizeOf_spec]
  omega
end Go.Proofs.YtpjcbadnpknncaaDoor.Vm
/- The reference: step. -/
namespace Go.Proofs.YtpjcbadnpknncaaDoor.Vm
open Go.RowKit Go.Shelf
set_option linter.unusedSimpArgs false
set_option linter.unusedVariables false
set_option maxRecDepth 100000
def stK (v : List Int) (k a b n : Int) (l P : List Fm) : Fm :=
  if k = 1 then constF (cmpV b (atV v a) n)
  else if k = 5 then g0 l
  else if k = 7 then .mk 3 0 0 0 [g0 P, .mk k a b n l]
  else if k = 8 then .mk 4 0 0 0 [g0 P, .mk k a b n l]
  else if k = 6 then .mk 4 0 0 0 [g1 P, .mk 3 0 0 0 [g0 P, .mk k a b n l]]
  else .mk k 0 0 0 P
mutual
def stF (v : List Int) : Fm → Fm
  | .mk k a b n l => if fewF k l.length = true then .mk k a b n l else stK v k a b n l (stFs v l)
def stFs (v : List Int) : List Fm → List Fm
  | [] => []
  | f :: l => stF v f :: stFs v l
end
theorem stFs_map (v : List Int) : ∀ l : List Fm, stFs v l = l.map (stF v)
  | [] => by unfold stFs; rfl
  | f :: l => by unfold stFs; rw [stFs_map v l]; rfl
theorem stF_mk (v : List Int) (k a b n : Int) (l : List Fm) : stF v (.mk k a b n l) = if fewF k l.length = true then .mk k a b n l else stK v k a b n l (l.map (stF v)) := by
  rw [← stFs_map]
  conv => lhs; unfold stF
def StSpec (v : List Int) (f : Fm) : Prop := Spec Tryd.prog 34 [] [.agg (fmA f), .sl 1 v.length (intsA v)] fun _ r => r = .agg (fmA (stF v f))
theorem g0_mapS {v : List Int} {l P : List Fm} (hP : l.map (stF v) = P) (h : 0 < l.length) : stF v (g0 l) = g0 P := by
  subst hP
  unfold g0
  rw [List.getD_eq_getElem?_getD, List.getD_eq_getElem?_getD, List.getElem?_map, List.getElem?_eq_getElem h]; rfl
theorem g1_mapS {v : List Int} {l P : List Fm} (hP : l.map (stF v) = P) (h : 1 < l.length) : stF v (g1 l) = g1 P := by
  subst hP
  unfold g1
  rw [List.getD_eq_getElem?_getD, List.getD_eq_getElem?_getD, List.getElem?_map, List.getElem?_eq_getElem h]; rfl
theorem g0_mem {l : List Fm} (h : 0 < l.length) : g0 l ∈ l := by
  unfold g0
  rw [List.getD_eq_getElem?_getD, List.getElem?_eq_getElem h]
  exact List.getElem_mem h
theorem g1_mem {l : List Fm} (h : 1 < l.length) : g1 l ∈ l := by
  unfold g1
  rw [List.getD_eq_getElem?_getD, List.getElem?_eq_getElem h]
  exact List.getElem_mem h
set_option maxHeartbeats 2000000 in
theorem st_raw (v : List Int) (k a b n : Int) (l : List Fm) (hl : l.length ≤ 1000000000000) (ha : k = 1 → 0 ≤ a) (ih : ∀ f ∈ l, StSpec v f) : StSpec v (.mk k a b n l) := by
  unfold StSpec
  have hfew := rFew k a b n l
  rw [stF_mk]
  obtain ⟨P, hP⟩ : ∃ P, l.map (stF v) = P := ⟨_, rfl⟩
  rw [hP]
  obtain ⟨R, hR⟩ : ∃ R, (if fewF k l.length = true then Fm.mk k a b n l else stK v k a b n l P) = R := ⟨_, rfl⟩
  rw [hR]
  rw [fmA_mk] at hfew ⊢
  refine spec_of (cx_ok ord34 xs0 0) (fun _ _ h => h) Tryd.func34 rfl (by kernel_rfl) rfl (by kernel_rfl) ?_
  intro hok
  conv => whnf
  (refine call0 [] rfl (fun _ => hfew) ?_; rintro r rfl; conv => whnf)
  cases hfw : fewF k l.length with
  | true =>
    rw [if_pos hfw] at hR
    conv => whnf
    rw [← hR]
    rfl
  | false =>
    rw [if_neg (by rw [hfw]; simp)] at hR
    unfold stK at hR
    have hfew2 : (k = 6 → 2 ≤ l.length) ∧ (k = 2 ∨ k = 5 ∨ k = 7 ∨ k = 8 → 1 ≤ l.length) := by
      unfold fewF at hfw
      refine ⟨fun h => ?_, fun h => ?_⟩
      · rw [if_pos h] at hfw
        simpa using hfw
      · rw [if_neg (by omega), if_pos h] at hfw
        have := of_decide_eq_false hfw
        omega
    conv => whnf
    by_cases h1 : k = 1
    · have hh := rHolds v k a b n l (ha h1)
      rw [if_pos h1] at hR
      have ht := rTrue
      have hf := rFalse
      rw [decide_eq_true h1]
      conv => whnf
      (refine call0 [] rfl (fun _ => hh) ?_; rintro r rfl; conv => whnf)
      cases hc : cmpV b (atV v a) n with
      | true =>
        rw [hc] at hR
        rw [hR] at ht
        conv => whnf
        (refine call0 [] rfl (fun _ => ht) ?_; rintro r rfl; conv => whnf)
        rfl
      | false =>
        rw [hc] at hR
        rw [hR] at hf
        conv => whnf
        (refine call0 [] rfl (fun _ => hf) ?_; rintro r rfl; conv => whnf)
        rfl
    rw [if_neg h1] at hR
    rw [decide_eq_false h1]
    conv => whnf
    by_cases h5 : k = 5
    · have hl1 := hfew2.2 (by omega)
      have hr0 := row0 hl1
      rw [if_pos h5] at hR
      rw [decide_eq_true h5]
      rw [hR] at hr0
      conv => whnf
      (refine goA ?_; try with_reducible exact trivial)
      (generalize hrq : rowOf _ _ (fmsA l) = rq; obtain rfl : rq = fmA R := hrq.symm.trans (hr0); clear hrq; conv => whnf)
      rfl
    rw [if_neg h5] at hR
    rw [decide_eq_false h5]
    conv => whnf
    by_cases h7 : k = 7
    · rw [if_pos h7] at hR
      rw [decide_eq_true h7]
      have hl1 := hfew2.2 (by omega)
      have hr0 := row0 hl1
      have hs0 := ih _ (g0_mem hl1)
      unfold StSpec at hs0
      rw [g0_mapS hP hl1] at hs0
      have hbo := rBoth 3 (g0 P) (.mk k a b n l)
      rw [hR] at hbo
      generalize g0 P = y at *
      generalize g0 l = x at *
      conv => whnf
      (refine goA ?_; try with_reducible exact trivial)
      (generalize hrq : rowOf _ _ (fmsA l) = rq; obtain rfl : rq = fmA x := hrq.symm.trans (hr0); clear hrq; conv => whnf)
      (refine call0 [] rfl (fun _ => hs0) ?_; rintro r rfl; conv => whnf)
      (refine call0 [] rfl (fun _ => hbo) ?_; rintro r rfl; conv => whnf)
      rfl
    rw [if_neg h7] at hR
    rw [decide_eq_false h7]
    conv => whnf
    by_cases h8 : k = 8
    · rw [if_pos h8] at hR
      rw [decide_eq_true h8]
      have hl1 := hfew2.2 (by omega)
      have hr0 := row0 hl1
      have hs0 := ih _ (g0_mem hl1)
      unfold StSpec at hs0
      rw [g0_mapS hP hl1] at hs0
      have hbo := rBoth 4 (g0 P) (.mk k a b n l)
      rw [hR] at hbo
      generalize g0 P = y at *
      generalize g0 l = x at *
      conv => whnf
      (refine goA ?_; try with_reducible exact trivial)
      (generalize hrq : rowOf _ _ (fmsA l) = rq; obtain rfl : rq = fmA x := hrq.symm.trans (hr0); clear hrq; conv => whnf)
      (refine call0 [] rfl (fun _ => hs0) ?_; rintro r rfl; conv => whnf)
      (refine call0 [] rfl (fun _ => hbo) ?_; rintro r rfl; conv => whnf)
      rfl
    rw [if_neg h8] at hR
    rw [decide_eq_false h8]
    conv => whnf
    by_cases h6 : k = 6
    · have hl2 := hfew2.1 h6
      have hr0 := row0 (l := l) (by omega)
      have hr1 := row1 hl2
      have hs0 := ih _ (g0_mem (l := l) (by omega))
      have hs1 := ih _ (g1_mem hl2)
      unfold StSpec at hs0 hs1
      rw [g0_mapS hP (by omega)] at hs0
      rw [g1_mapS hP hl2] at hs1
      have hb3 := rBoth 3 (g0 P) (.mk k a b n l)
      have hb4 := rBoth 4 (g1 P) (.mk 3 0 0 0 [g0 P, .mk k a b n l])
      rw [if_pos h6] at hR
      rw [hR] at hb4
      rw [decide_eq_true h6]
      generalize Fm.mk 3 0 0 0 [g0 P, .mk k a b n l] = z at *
      generalize g0 P = y at *
      generalize g1 P = y1 at *
      generalize g0 l = x at *
      generalize g1 l = x1 at *
      conv => whnf
      (refine goA ?_; try with_reducible exact trivial)
      (generalize hrq : rowOf _ _ (fmsA l) = rq; obtain rfl : rq = fmA x1 := hrq.symm.trans (hr1); clear hrq; conv => whnf)
      (refine goA ?_; try with_reducible exact trivial)
      (generalize hrq : rowOf _ _ (fmsA l) = rq; obtain rfl : rq = fmA x := hrq.symm.trans (hr0); clear hrq; conv => whnf)
      (refine call0 [] rfl (fun _ => hs1) ?_; rintro r rfl; conv => whnf)
      (refine call0 [] rfl (fun _ => hs0) ?_; rintro r rfl; conv => whnf)
      (refine call0 [] rfl (fun _ => hb3) ?_; rintro r rfl; conv => whnf)
      (refine call0 [] rfl (fun _ => hb4) ?_; rintro r rfl; conv => whnf)
      rfl
    rw [if_neg h6] at hR
    rw [decide_eq_false h6]
    conv => whnf
    refine loop_row 25 5 [] [(2, 4)] ?_
    conv => whnf
    refine ⟨trivial, ?_⟩
    conv => whnf
    refine loop_keep [1, 2, 4, 5] ?_
    conv => whnf
    refine loop_goQ (fun j : Nat => [(6, .v (.int .i64 j))]) (fun _ => [[intA k, intA a, intA b, intA n, .sl 5 l.length (fmsA l)], zero5, [intA k, intA 0, intA 0, intA 0, .own 0]]) (fun j => [.live 25 5 j (fmsA ((l.take j).map (stF v)))]) (fun j => j ≤ l.length) (fun j => l.length - j) 0 ?_ (Nat.zero_le _) ?_
    · unfold headQ
      repeat' constructor
      · show [Row.live _ _ _ _] = [Row.live _ _ _ _]
        rw [List.take_zero, List.map_nil, fmsA_nil]
    · rintro j hj
      conv => whnf
      by_cases hlt : j < l.length
      · have hr := rowOf_fms l j hlt
        have hih := ih l[j] (List.getElem_mem hlt)
        unfold StSpec at hih
        have htk := take_map (stF v) l j hlt
        generalize l[j] = f at *
        (refine goA ?_; try with_reducible exact trivial)
        (generalize hrq : rowOf _ _ (fmsA l) = rq; obtain rfl : rq = fmA f := hrq.symm.trans (hr); clear hrq; conv => whnf)
        (refine call0 [] rfl (fun _ => hih) ?_; rintro r rfl; conv => whnf)
        refine ⟨⟨by unfold maxLen; omega, by omega⟩, ?_⟩
        conv => whnf
        (refine goA ?_; try with_reducible exact trivial)
        refine ⟨j + 1, le_head ?_, hlt, by omega⟩
        repeat' constructor
        · rw [htk, fmsA_snoc]; rfl
      · obtain rfl : j = l.length := by omega
        rw [List.take_length, hP]
        have hml : P.length = l.length := by rw [← hP]; simp
        (refine goA ?_; try with_reducible exact trivial)
        rw [← hR, fmA_mk, hml]
        rfl
mutual
/-- step can be applied. -/
def FitU : Fm → Prop
  | .mk k a _ _ l => l.length ≤ 1000000000000 ∧ (k = 1 → 0 ≤ a) ∧ FitUs l
def FitUs : List Fm → Prop
  | [] => True
  | f :: l => FitU f ∧ FitUs l
end
theorem fitUs_mem : ∀ {l : List Fm} {f : Fm}, FitUs l → f ∈ l → FitU f
  | g :: l, f, h, hf => by
    unfold FitUs at h
    rcases List.mem_cons.1 hf with rfl | hf
    · exact h.1
    · exact fitUs_mem h.2 hf
theorem fitUs_mk : ∀ {l : List Fm}, (∀ f ∈ l, FitU f) → FitUs l
  | [], _ => by unfold FitUs; trivial
  | g :: l, h => by unfold FitUs; exact ⟨h g (by simp), fitUs_mk fun f hf => h f (by simp [hf])⟩
theorem st_spec (v : List Int) : ∀ f : Fm, FitU f → StSpec v f
  | .mk k a b n l, h => by
    unfold FitU at h
    have ihk : ∀ f ∈ l, StSpec v f := fun f hf => st_spec v f (fitUs_mem h.2.2 hf)
    exact st_raw v k a b n l h.1 h.2.1 ihk
termination_by f => SizeOf.sizeOf f
decreasing_by
  have := List.sizeOf_lt_of_mem hf
  simp only [Fm.mk.sizeOf_spec]
  omega
theorem rProg_spec (v : List Int) (f : Fm) (h : FitU f) (h2 : FitT (stF v f)) : Spec Tryd.prog 15 [] [.agg (fmA f), .sl 1 v.length (intsA v)] fun _ r => r = .agg (fmA (sF (stF v f))) := by
  have h1 := st_spec v f h
  have h3 := s_spec _ h2
  unfold StSpec at h1
  unfold SSpec at h3
  generalize sF (stF v f) = R at *
  generalize stF v f = g at *
  refine spec_of (cx_ok ord0 xs0 0) (fun _ _ h => h) Tryd.func15 rfl (by kernel_rfl) rfl (by kernel_rfl) ?_
  intro hok
  conv => whnf
  (refine call0 [] rfl (fun _ => h1) ?_; rintro r rfl; conv => whnf)
  (refine call0 [] rfl (fun _ => h3) ?_; rintro r rfl; conv => whnf)
  rfl
end Go.Proofs.YtpjcbadnpknncaaDoor.Vm
/- The reference: Check. -/
namespace Go.Proofs.YtpjcbadnpknncaaDoor.Vm
open Go.RowKit Go.Shelf
set_option linter.unusedSimpArgs false
set_option linter.unusedVariables false
set_option maxRecDepth 100000
/-- From a formula, at a position, through a trace: the reference's. -/
def rrunF : Fm → Int → List (List Int) → Fm × Int
  | f, i, [] => (f, i)
  | f, i, v :: t => if isC f = true then (f, i) else rrunF (sF (stF v f)) (i + 1) t
def verR (r : Fm × Int) : Vd := if isC r.1 = true then ⟨if r.1.k = 4 then 13 else 0, some r.2⟩ else ⟨14, none⟩
theorem verR_mk (g : Fm) (i : Int) : verR (g, i) = if isC g = true then ⟨if g.k = 4 then 13 else 0, some i⟩ else ⟨14, none⟩ := rfl
def rchkF (f : Fm) (t : List (List Int)) : Vd := verR (rrunF (sF f) (-1) t)
/-- The reference's Check can be applied. -/
def FitQ : Fm → List (List Int) → Prop
  | f, [] => True
  | f, v :: t => isC f = true ∨ (FitU f ∧ FitT (stF v f) ∧ FitQ (sF (stF v f)) t)
set_option maxHeartbeats 1000000 in
theorem rCheck_spec (f : Fm) (t : List (List Int)) (hs : FitT f) (hr : FitQ (sF f) t) (ht : t.length ≤ 1000000000) : Spec Tryd.prog 18 [] [.agg (fmA f), .sl 1 t.length (trA t)] fun _ r => r = .agg (vdA (rchkF f t)) := by
  have hsp := s_spec f hs
  unfold SSpec at hsp
  unfold rchkF
  obtain ⟨R, hR⟩ : ∃ R, verR (rrunF (sF f) (-1) t) = R := ⟨_, rfl⟩
  rw [hR]
  generalize sF f = f0 at *
  refine spec_of (cx_ok ord18 xs0 0) (fun _ _ h => h) Tryd.func18 rfl (by kernel_rfl) rfl (by kernel_rfl) ?_
  intro hok
  conv => whnf
  (refine call0 [] rfl (fun _ => hsp) ?_; rintro r rfl; conv => whnf)
  refine loop_keep [1, 4, 5, 6] ?_
  conv => whnf
  refine loop_goQ (fun x : Nat × Fm => [(7, .v (.int .i64 x.1))]) (fun x => [fmA f, zero5v, vdA ⟨14, none⟩, fmA x.2]) (fun _ => []) (fun x => x.1 ≤ t.length + 1 ∧ (x.1 ≤ t.length → verR (rrunF x.2 ((x.1 : Int) - 1) (t.drop x.1)) = R ∧ FitQ x.2 (t.drop x.1)) ∧ (x.1 = t.length + 1 → R = ⟨14, none⟩)) (fun x => t.length + 1 - x.1) (0, f0) ?_ ⟨Nat.zero_le _, fun _ => ⟨hR, hr⟩, fun h => by simp at h⟩ ?_
  · unfold headQ
    repeat' constructor
  · rintro ⟨j, g⟩ ⟨hj, hinv, hend⟩
    simp only at hj hinv hend
    have hisc := rConst g
    conv => whnf
    by_cases hle : j ≤ t.length
    · obtain ⟨hR2, hfit⟩ := hinv hle
      (refine goA ?_; try with_reducible exact trivial)
      (refine call0 [] rfl (fun _ => hisc) ?_; rintro r rfl; conv => whnf)
      by_cases hlt : j < t.length
      · have hrow := rowOf_tr t j hlt
        rw [List.drop_eq_getElem_cons hlt] at hR2 hfit
        generalize t[j] = v at *
        rw [rrunF] at hR2
        rw [FitQ] at hfit
        cases hc : isC g with
        | true =>
          rw [if_pos hc, verR_mk] at hR2
          rw [if_pos hc] at hR2
          conv => whnf
          (refine goA ?_; try with_reducible exact trivial)
          by_cases h4 : g.k = 4
          · rw [if_pos h4] at hR2
            rw [decide_eq_true h4]
            conv => whnf
            (refine goA ?_; try with_reducible exact trivial)
            rw [← hR2]
            rfl
          · rw [if_neg h4] at hR2
            rw [decide_eq_false h4]
            conv => whnf
            (refine goA ?_; try with_reducible exact trivial)
            rw [← hR2]
            rfl
        | false =>
          rw [if_neg (by rw [hc]; simp)] at hR2
          obtain ⟨hf1, hf2, hf3⟩ := hfit.resolve_left (by rw [hc]; simp)
          have hpro := rProg_spec v g hf1 hf2
          generalize sF (stF v g) = g' at *
          conv => whnf
          (refine goA ?_; try with_reducible exact trivial)
          (generalize hrq : rowOf _ _ (trA t) = rq; obtain rfl : rq = [.sl 1 v.length (intsA v)] := hrq.symm.trans (hrow); clear hrq; conv => whnf)
          (refine call0 [] rfl (fun _ => hpro) ?_; rintro r rfl; conv => whnf)
          (refine goA ?_; try with_reducible exact trivial)
          refine ⟨(j + 1, g'), le_head ?_, ⟨by simp only; omega, fun _ => ⟨by simp only; rw [show (((j + 1 : Nat) : Int) - 1) = (j : Int) - 1 + 1 by omega]; exact hR2, hf3⟩, fun h => by simp only at h; omega⟩, by simp only; omega⟩
          repeat' constructor
      · obtain rfl : j = t.length := by omega
        rw [List.drop_length, rrunF, verR_mk] at hR2
        cases hc : isC g with
        | true =>
          rw [if_pos hc] at hR2
          conv => whnf
          (refine goA ?_; try with_reducible exact trivial)
          by_cases h4 : g.k = 4
          · rw [if_pos h4] at hR2
            rw [decide_eq_true h4]
            conv => whnf
            (refine goA ?_; try with_reducible exact trivial)
            rw [← hR2]
            rfl
          · rw [if_neg h4] at hR2
            rw [decide_eq_false h4]
            conv => whnf
            (refine goA ?_; try with_reducible exact trivial)
            rw [← hR2]
            rfl
        | false =>
          rw [if_neg (by rw [hc]; simp)] at hR2
          conv => whnf
          (refine goA ?_; try with_reducible exact trivial)
          refine ⟨(t.length + 1, g), le_head ?_, ⟨by simp only; omega, fun h => by simp only at h; omega, fun _ => hR2.symm⟩, by simp only; omega⟩
          repeat' constructor
    · have := hend (by omega)
      (refine goA ?_; try with_reducible exact trivial)
      rw [this]
      rfl
end Go.Proofs.YtpjcbadnpknncaaDoor.Vm
/- Around. -/
namespace Go.Proofs.YtpjcbadnpknncaaDoor.Vm
open Go.RowKit
set_option linter.unusedSimpArgs false
set_option linter.unusedVariables false
set_option maxRecDepth 100000
def absI (n : Int) : Int := if n < 0 then -(n + 1) else n
def aroundF (n m : Int) : Int := (absI n).tmod m
theorem absI_rng {n : Int} (hn : -9223372036854775808 ≤ n ∧ n ≤ 9223372036854775807) : 0 ≤ absI n ∧ absI n ≤ 9223372036854775807 := by unfold absI; split <;> omega
theorem aroundF_rng {n m : Int} (hn : -9223372036854775808 ≤ n ∧ n ≤ 9223372036854775807) (hm : 1 ≤ m) : 0 ≤ aroundF n m ∧ aroundF n m < m := by
  have h := absI_rng hn
  unfold aroundF
  rw [Int.tmod_eq_emod_of_nonneg h.1]
  exact ⟨Int.emod_nonneg _ (by omega), Int.emod_lt_of_pos _ (by omega)⟩
theorem around_spec (n m : Int) (hm : 1 ≤ m ∧ m ≤ 9223372036854775807) : Spec Tryd.prog 23 [] [intA n, intA m] fun _ r => (-9223372036854775808 ≤ n ∧ n ≤ 9223372036854775807) ∧ r = intA (aroundF n m) := by
  refine spec_of (cx_ok ord0 xs0 0) (fun _ _ h => h) Tryd.func23 rfl (by kernel_rfl) rfl (by kernel_rfl) ?_
  intro hok
  have hn : -9223372036854775808 ≤ n ∧ n ≤ 9223372036854775807 := okA_int.1 hok.1
  have hab := absI_rng hn
  conv => whnf
  by_cases h : n < 0
  · refine br_true (b := decide (n < 0)) (decide_eq_true h) ?_
    conv => whnf
    refine ⟨i64r (by omega), ?_⟩
    conv => whnf
    refine ⟨i64r (by omega), ?_⟩
    conv => whnf
    refine ⟨by omega, ?_⟩
    conv => whnf
    refine ⟨hn, ?_⟩
    have : 0 - (n + 1) = absI n := by unfold absI; rw [if_pos h]; omega
    rw [this]; rfl
  · refine br_false (b := decide (n < 0)) (decide_eq_false h) ?_
    conv => whnf
    refine ⟨by omega, ?_⟩
    conv => whnf
    refine ⟨hn, ?_⟩
    have : n = absI n := by unfold absI; rw [if_neg h]
    show A.v (.int .i64 (n.tmod m)) = intA ((absI n).tmod m)
    rw [← this]; rfl
end Go.Proofs.YtpjcbadnpknncaaDoor.Vm
/- The generator's choices. -/
namespace Go.Proofs.YtpjcbadnpknncaaDoor.Vm
open Go.RowKit Go.Shelf
set_option linter.unusedSimpArgs false
set_option linter.unusedVariables false
set_option maxRecDepth 100000
def pkF (l : List Int) (i : Nat) : Int := if i < l.length then aroundF (l.getD i 0) 1000000 else 0
theorem rPick (l : List Int) (i : Nat) : Spec Tryd.prog 59 [] [.sl 1 l.length (intsA l), intA i, intA 1000000] fun _ r => (0 ≤ pkF l i ∧ pkF l i < 1000000) ∧ r = intA (pkF l i) := by
  unfold pkF
  refine spec_of (cx_ok ord0 xs0 0) (fun _ _ h => h) Tryd.func59 rfl (by kernel_rfl) rfl (by kernel_rfl) ?_
  intro hok
  conv => whnf
  rw [decide_eq_false (show ¬ (i : Int) < 0 by omega)]
  conv => whnf
  by_cases hi : i < l.length
  · have hr := rowOf_ints l i hi
    have e : l.getD i 0 = l[i] := by rw [List.getD_eq_getElem?_getD, List.getElem?_eq_getElem hi]; rfl
    rw [← e] at hr
    rw [if_pos hi, decide_eq_false (show ¬ (l.length : Int) ≤ i by omega)]
    generalize l.getD i 0 = x at *
    have ha := around_spec x 1000000 (by omega)
    conv => whnf
    (refine goA ?_; try with_reducible exact trivial)
    (generalize hrq : rowOf _ _ (intsA l) = rq; obtain rfl : rq = [intA x] := hrq.symm.trans (hr); clear hrq; conv => whnf)
    refine call0 [] rfl (fun _ => ha) ?_
    rintro r ⟨hx, rfl⟩
    conv => whnf
    exact ⟨aroundF_rng hx (by omega), rfl⟩
  · rw [if_neg hi, decide_eq_true (show (l.length : Int) ≤ i by omega)]
    conv => whnf
    exact ⟨by omega, rfl⟩
end Go.Proofs.YtpjcbadnpknncaaDoor.Vm
/- The plain law of formulas: well-formed ones; simplify is S, Progress is S after step. -/
namespace Go.Proofs.YtpjcbadnpknncaaDoor.Vm
open Go.RowKit Go.Shelf
set_option linter.unusedSimpArgs false
set_option linter.unusedVariables false
set_option maxRecDepth 100000
theorem Fm.ind {P : Fm → Prop} (h : ∀ k a b n l, (∀ f ∈ l, P f) → P (.mk k a b n l)) : ∀ f, P f
  | .mk k a b n l => h k a b n l fun f hf => Fm.ind h f
termination_by f => SizeOf.sizeOf f
decreasing_by
  have := List.sizeOf_lt_of_mem hf
  simp only [Fm.mk.sizeOf_spec]
  omega
/-- Well-formed formulas. -/
inductive Wf : Fm → Prop
  | var {a b n : Int} : 0 ≤ a → 0 ≤ b → b ≤ 2 → Wf (.mk 1 a b n [])
  | un {k : Int} {f : Fm} : k = 2 ∨ k = 5 ∨ k = 7 ∨ k = 8 → Wf f → Wf (.mk k 0 0 0 [f])
  | til {f g : Fm} : Wf f → Wf g → Wf (.mk 6 0 0 0 [f, g])
  | jn {k : Int} {l : List Fm} : k = 3 ∨ k = 4 → (∀ f, f ∈ l → Wf f) → Wf (.mk k 0 0 0 l)
theorem wf_const (b : Bool) : Wf (constF b) := by
  unfold constF
  cases b
  · exact .jn (.inr rfl) (by simp)
  · exact .jn (.inl rfl) (by simp)
theorem wf_isC {f : Fm} (h : Wf f) (hc : isC f = true) : f = constF (decide (f.k = 3)) := by
  unfold isC at hc
  cases h with
  | var => simp [Fm.k] at hc
  | un h => simp [Fm.k, Fm.kids] at hc
  | til => simp [Fm.k] at hc
  | jn hk =>
    simp only [Fm.k, Fm.kids, Bool.and_eq_true, decide_eq_true_eq, List.length_eq_zero_iff] at hc
    obtain ⟨_, rfl⟩ := hc
    rcases hk with rfl | rfl <;> rfl
theorem isC_const (b : Bool) : isC (constF b) = true := by cases b <;> rfl
theorem isC_iff {f : Fm} (h : Wf f) : isC f = true ↔ f = constF true ∨ f = constF false := by
  constructor
  · intro hc
    have := wf_isC h hc
    cases hd : decide (f.k = 3) with
    | true => rw [hd] at this; exact .inl this
    | false => rw [hd] at this; exact .inr this
  · rintro (rfl | rfl) <;> rfl
theorem wf_opp {kind : Int} {f : Fm} (hk : kind = 3 ∨ kind = 4) (h : Wf f) (ho : oppC kind f = true) : f = absF kind := by
  unfold oppC oppF at ho
  unfold absF constF
  simp only [Bool.and_eq_true, decide_eq_true_eq, List.length_eq_zero_iff] at ho
  cases h with
  | var => rcases hk with rfl | rfl <;> simp [Fm.k] at ho
  | un h => simp [Fm.kids] at ho
  | til => simp [Fm.kids] at ho
  | jn hk2 =>
    obtain ⟨h1, h2⟩ := ho
    simp only [Fm.k, Fm.kids] at h1 h2
    subst h2
    rcases hk with rfl | rfl
    · simp at h1; subst h1; rfl
    · simp at h1; subst h1; rfl
theorem opp_abs {kind : Int} (hk : kind = 3 ∨ kind = 4) : oppC kind (absF kind) = true := by rcases hk with rfl | rfl <;> rfl
theorem wf_kids {f : Fm} (h : Wf f) : ∀ g ∈ f.kids, Wf g := by
  cases h with
  | var => simp [Fm.kids]
  | un _ h => simp [Fm.kids]; exact h
  | til h1 h2 => simp [Fm.kids]; exact ⟨h1, h2⟩
  | jn _ h => exact h
theorem wf_parts {kind : Int} {f : Fm} (h : Wf f) : ∀ g ∈ partsF kind f, Wf g := by
  unfold partsF
  split
  · exact wf_kids h
  · simpa using h
theorem wf_flat {kind : Int} {l : List Fm} (h : ∀ f ∈ l, Wf f) : ∀ g ∈ flatJ kind l, Wf g := by
  unfold flatJ
  intro g hg
  obtain ⟨f, hf, hg⟩ := List.mem_flatMap.1 hg
  exact wf_parts (h f hf) g hg
theorem eqM_comm (f g : Fm) : eqM f g = eqM g f := by
  have h : eqM f g = true ↔ eqM g f = true := by rw [eqM_iff, eqM_iff]; exact eq_comm
  cases h1 : eqM f g <;> cases h2 : eqM g f <;> simp_all
theorem any_iff {l : List Fm} {f : Fm} : (l.any fun g => eqM g f) = true ↔ f ∈ l := by
  rw [List.any_eq_true]
  constructor
  · rintro ⟨x, hx, he⟩; rw [eqM_iff] at he; exact he ▸ hx
  · intro h; exact ⟨f, h, (eqM_iff f f).2 rfl⟩
theorem add_same (out : List Fm) (f : Fm) : addF out f = addR out f := by
  unfold addF addR
  rw [show (fun g => eqM f g) = fun g => eqM g f from funext fun g => eqM_comm f g]
theorem addR_mem {out : List Fm} {f g : Fm} : g ∈ addR out f ↔ g ∈ out ∨ g = f := by
  unfold addR
  split
  · rename_i h
    rw [any_iff] at h
    constructor
    · exact .inl
    · rintro (h2 | rfl)
      · exact h2
      · exact h
  · simp
theorem fold_mem {l : List Fm} : ∀ {out : List Fm} {g : Fm}, g ∈ l.foldl addF out ↔ g ∈ out ∨ g ∈ l := by
  induction l with
  | nil => simp
  | cons f l ih =>
    intro out g
    rw [List.foldl_cons, ih, add_same, addR_mem, List.mem_cons]
    constructor
    · rintro ((h | h) | h)
      · exact .inl h
      · exact .inr (.inl h)
      · exact .inr (.inr h)
    · rintro (h | h | h)
      · exact .inl (.inl h)
      · exact .inl (.inr h)
      · exact .inr h
theorem rGo_eq {kind : Int} (hk : kind = 3 ∨ kind = 4) : ∀ (flat out : List Fm), (∀ f ∈ flat, Wf f) → absF kind ∉ out → rGo kind flat out = finJ kind (flat.foldl addF out)
  | [], out, _, hn => by
    unfold rGo finJ
    rw [List.foldl_nil, if_neg (by rw [any_iff]; exact hn)]
    rfl
  | f :: flat, out, hw, hn => by
    unfold rGo
    by_cases ho : oppC kind f = true
    · rw [if_pos ho]
      have hf := wf_opp hk (hw f (by simp)) ho
      unfold finJ
      rw [if_pos (by rw [any_iff, fold_mem]; right; rw [hf]; simp)]
      exact hf
    · rw [if_neg ho, rGo_eq hk flat (addR out f) (fun g hg => hw g (by simp [hg])) ?_, List.foldl_cons, add_same]
      intro h
      rcases addR_mem.1 h with h | h
      · exact hn h
      · exact ho (h ▸ opp_abs hk)
theorem join_same {kind : Int} (hk : kind = 3 ∨ kind = 4) {l : List Fm} (hw : ∀ f ∈ l, Wf f) : joinF kind l = rjoinF kind l := by
  unfold joinF rjoinF
  rw [rGo_eq hk _ _ (wf_flat hw) (by simp)]
theorem rGo_pres {Q : Fm → Prop} {kind : Int} (hm : ∀ l : List Fm, (∀ f ∈ l, Q f) → Q (.mk kind 0 0 0 l)) : ∀ (flat out : List Fm), (∀ f ∈ flat, Q f) → (∀ f ∈ out, Q f) → Q (rGo kind flat out)
  | [], out, _, ho => by
    unfold rGo finR
    split
    · exact ho _ (by simp)
    · exact hm _ ho
  | f :: flat, out, hf, ho => by
    unfold rGo
    split
    · exact hf f (by simp)
    · refine rGo_pres hm flat _ (fun g hg => hf g (by simp [hg])) fun g hg => ?_
      rcases addR_mem.1 hg with h | rfl
      · exact ho g h
      · exact hf _ (by simp)
theorem wf_rjoin {kind : Int} (hk : kind = 3 ∨ kind = 4) {l : List Fm} (hw : ∀ f ∈ l, Wf f) : Wf (rjoinF kind l) :=
  rGo_pres (fun l h => .jn hk h) _ _ (wf_flat hw) (by simp)
theorem wf_not {f : Fm} (h : Wf f) : Wf (notF f) := by
  unfold notF oppF
  split
  · split
    · exact wf_const false
    · exact wf_const true
  · split
    · rename_i h2
      cases h with
      | var => simp [Fm.kids] at h2
      | un _ hx => exact hx
      | til hx => exact hx
      | jn hk => rcases hk with rfl | rfl <;> simp [Fm.k] at h2
    · exact .un (.inl rfl) h
/-! ### The equations of S -/
theorem sF_var (a b n : Int) : sF (.mk 1 a b n []) = .mk 1 a b n [] := by rw [sF_mk]; simp [fewF, sK]
theorem sF_not (f : Fm) : sF (.mk 2 0 0 0 [f]) = notF (sF f) := by rw [sF_mk]; simp [fewF, sK, g0]
theorem sF_un {k : Int} (h : k = 5 ∨ k = 7 ∨ k = 8) (f : Fm) : sF (.mk k 0 0 0 [f]) = if isC (sF f) = true then sF f else .mk k 0 0 0 [sF f] := by
  rw [sF_mk]
  rcases h with rfl | rfl | rfl <;> simp [fewF, sK, g0]
theorem sF_til (f g : Fm) : sF (.mk 6 0 0 0 [f, g]) = if (isC (sF g) || eqM (sF f) (constF false)) = true then sF g else .mk 6 0 0 0 [sF f, sF g] := by
  rw [sF_mk]
  simp [fewF, sK, g0, g1]
theorem sF_jn {k : Int} (h : k = 3 ∨ k = 4) (l : List Fm) : sF (.mk k 0 0 0 l) = rjoinF k (l.map sF) := by
  rw [sF_mk]
  rcases h with rfl | rfl <;> simp [fewF, sK]
theorem wf_s {f : Fm} (h : Wf f) : Wf (sF f) := by
  induction h with
  | var h1 h2 h3 => rw [sF_var]; exact .var h1 h2 h3
  | un hk h ih =>
    rename_i k f
    by_cases h2 : k = 2
    · subst h2; rw [sF_not]; exact wf_not ih
    · rw [sF_un (by omega)]
      split
      · exact ih
      · exact .un hk ih
  | til h1 h2 ih1 ih2 =>
    rw [sF_til]
    split
    · exact ih2
    · exact .til ih1 ih2
  | jn hk h ih =>
    rw [sF_jn hk]
    refine wf_rjoin hk fun f hf => ?_
    obtain ⟨g, hg, rfl⟩ := List.mem_map.1 hf
    exact ih g hg
/-! ### simplify is S -/
theorem build_same {k a b n : Int} {ks : List Fm} (hw : Wf (.mk k a b n ks)) : buildK k a b n ks = sK k a b n ks := by
  cases hw with
  | var => simp [buildK, sK]
  | un hk h =>
    rename_i f
    rcases hk with rfl | rfl | rfl | rfl
    · simp only [buildK, sK, g0, notF, oppF]
      simp only [show ¬ ((2 : Int) = 3 ∨ (2 : Int) = 4) by omega, if_false, if_true, List.getD_cons_zero]
      by_cases hc : isC f = true
      · rw [if_pos hc, if_pos hc]
        rcases (isC_iff h).1 hc with rfl | rfl <;> rfl
      · rw [if_neg hc, if_neg hc]
        by_cases h2 : f.k = 2
        · rw [if_pos h2]
          cases h with
          | var => simp [Fm.k] at h2
          | un hk h => simp [Fm.k, Fm.kids] at h2 ⊢; simp [h2]
          | til => simp [Fm.k] at h2
          | jn hk => simp [Fm.k] at h2; omega
        · rw [if_neg h2, if_neg (by simp [h2])]
    · simp [buildK, sK]
    · simp [buildK, sK]
    · simp [buildK, sK]
  | til => simp [buildK, sK]
  | jn hk h =>
    unfold buildK sK
    rw [if_pos hk, if_neg (by omega), if_pos hk]
    exact join_same hk h
theorem wf_mapS {l : List Fm} (h : ∀ f ∈ l, Wf f) : ∀ f ∈ l.map sF, Wf f := fun f hf => by
  obtain ⟨g, hg, rfl⟩ := List.mem_map.1 hf
  exact wf_s (h g hg)
theorem few_wf {k a b n : Int} {l : List Fm} (hw : Wf (.mk k a b n l)) : fewF k l.length = false := by
  cases hw with
  | var => rfl
  | un hk => rcases hk with rfl | rfl | rfl | rfl <;> rfl
  | til => rfl
  | jn hk => rcases hk with rfl | rfl <;> rfl
theorem wf_map {k a b n : Int} {l : List Fm} {q : Fm → Fm} (hw : Wf (.mk k a b n l)) (hq : ∀ f ∈ l, Wf f → Wf (q f)) : Wf (.mk k a b n (l.map q)) := by
  cases hw with
  | var h1 h2 h3 => exact .var h1 h2 h3
  | un hk h => exact .un hk (hq _ (by simp) h)
  | til h1 h2 => exact .til (hq _ (by simp) h1) (hq _ (by simp) h2)
  | jn hk h =>
    refine .jn hk fun f hf => ?_
    obtain ⟨g, hg, rfl⟩ := List.mem_map.1 hf
    exact hq g hg (h g hg)
theorem sim_same : ∀ f : Fm, Wf f → simF f = sF f := Fm.ind fun k a b n l ih hw => by
  rw [simF_mk, sF_mk, if_neg (by rw [few_wf hw]; simp)]
  have e : l.map simF = l.map sF := List.map_congr_left fun f hf => ih f hf (wf_kids hw f hf)
  rw [e]
  exact build_same (wf_map hw fun f _ h => wf_s h)
/-! ### The equations of step -/
theorem st_var (v : List Int) (a b n : Int) : stF v (.mk 1 a b n []) = constF (cmpV b (atV v a) n) := by rw [stF_mk]; simp [fewF, stK]
theorem st_not (v : List Int) (f : Fm) : stF v (.mk 2 0 0 0 [f]) = .mk 2 0 0 0 [stF v f] := by rw [stF_mk]; simp [fewF, stK]
theorem st_next (v : List Int) (f : Fm) : stF v (.mk 5 0 0 0 [f]) = f := by rw [stF_mk]; simp [fewF, stK, g0]
theorem st_alw (v : List Int) (f : Fm) : stF v (.mk 7 0 0 0 [f]) = .mk 3 0 0 0 [stF v f, .mk 7 0 0 0 [f]] := by rw [stF_mk]; simp [fewF, stK, g0]
theorem st_ev (v : List Int) (f : Fm) : stF v (.mk 8 0 0 0 [f]) = .mk 4 0 0 0 [stF v f, .mk 8 0 0 0 [f]] := by rw [stF_mk]; simp [fewF, stK, g0]
theorem st_til (v : List Int) (f g : Fm) : stF v (.mk 6 0 0 0 [f, g]) = .mk 4 0 0 0 [stF v g, .mk 3 0 0 0 [stF v f, .mk 6 0 0 0 [f, g]]] := by rw [stF_mk]; simp [fewF, stK, g0, g1]
theorem st_jn {k : Int} (h : k = 3 ∨ k = 4) (v : List Int) (l : List Fm) : stF v (.mk k 0 0 0 l) = .mk k 0 0 0 (l.map (stF v)) := by
  rw [stF_mk]
  rcases h with rfl | rfl <;> simp [fewF, stK]
theorem wf_two {k : Int} (hk : k = 3 ∨ k = 4) {f g : Fm} (h1 : Wf f) (h2 : Wf g) : Wf (.mk k 0 0 0 [f, g]) := .jn hk fun x hx => by
  simp only [List.mem_cons, List.not_mem_nil, or_false] at hx
  rcases hx with rfl | rfl
  · exact h1
  · exact h2
theorem wf_st (v : List Int) {f : Fm} (h : Wf f) : Wf (stF v f) := by
  induction h with
  | var h1 h2 h3 => rw [st_var]; exact wf_const _
  | un hk h ih =>
    rename_i k f
    rcases hk with rfl | rfl | rfl | rfl
    · rw [st_not]; exact .un (.inl rfl) ih
    · rw [st_next]; exact h
    · rw [st_alw]; exact wf_two (.inl rfl) ih (.un (by simp) h)
    · rw [st_ev]; exact wf_two (.inr rfl) ih (.un (by simp) h)
  | til h1 h2 ih1 ih2 =>
    rw [st_til]
    exact wf_two (.inr rfl) ih2 (wf_two (.inl rfl) ih1 (.til h1 h2))
  | jn hk h ih =>
    rw [st_jn hk]
    refine .jn hk fun f hf => ?_
    obtain ⟨g, hg, rfl⟩ := List.mem_map.1 hf
    exact ih g hg
/-! ### Progress is S after step -/
theorem pro_same (v : List Int) : ∀ f : Fm, Wf f → proF v f = sF (stF v f) := Fm.ind fun k a b n l ih hw => by
  rw [proF_mk]
  have e : l.map (proF v) = l.map (fun f => sF (stF v f)) := List.map_congr_left fun f hf => ih f hf (wf_kids hw f hf)
  rw [e]
  have hsim := sim_same _ hw
  cases hw with
  | var =>
    rw [st_var]
    simp only [proK, if_true]
    generalize cmpV b (atV v a) n = c
    cases c <;> rfl
  | un hk h =>
    rename_i f
    rcases hk with rfl | rfl | rfl | rfl
    · rw [st_not, sF_mk, if_neg (by simp [fewF])]
      simp only [proK, List.map_cons, List.map_nil]
      rw [if_neg (by omega), if_neg (by omega), if_neg (by omega), if_neg (by omega), if_neg (by omega)]
      exact build_same (.un (.inl rfl) (wf_s (wf_st v h)))
    · rw [st_next]
      simp only [proK, g0, List.getD_cons_zero]
      rw [if_neg (by omega), if_pos trivial]
      exact sim_same f h
    · rw [st_alw, sF_jn (.inl rfl)]
      simp only [proK, g0, List.getD_cons_zero, List.map_cons, List.map_nil]
      rw [if_neg (by omega), if_neg (by omega), if_pos trivial, hsim]
      refine join_same (.inl rfl) (wf_kids (wf_two (.inl rfl) (wf_s (wf_st v h)) (wf_s (.un (by simp) h))))
    · rw [st_ev, sF_jn (.inr rfl)]
      simp only [proK, g0, List.getD_cons_zero, List.map_cons, List.map_nil]
      rw [if_neg (by omega), if_neg (by omega), if_neg (by omega), if_pos trivial, hsim]
      refine join_same (.inr rfl) (wf_kids (wf_two (.inr rfl) (wf_s (wf_st v h)) (wf_s (.un (by simp) h))))
  | til h1 h2 =>
    rename_i f g
    rw [st_til, sF_jn (.inr rfl)]
    simp only [proK, g0, g1, List.getD_cons_zero, List.getD_cons_succ, List.map_cons, List.map_nil]
    rw [if_neg (by omega), if_neg (by omega), if_neg (by omega), if_neg (by omega), if_pos trivial, hsim, sF_jn (.inl rfl)]
    simp only [List.map_cons, List.map_nil]
    have w1 := wf_s (.til h1 h2)
    have w2 := wf_s (wf_st v h1)
    have w3 : ∀ x ∈ [sF (stF v f), sF (.mk 6 0 0 0 [f, g])], Wf x := wf_kids (wf_two (.inl rfl) w2 w1)
    rw [join_same (.inl rfl) w3]
    have w4 : ∀ x ∈ [sF (stF v g), rjoinF 3 [sF (stF v f), sF (.mk 6 0 0 0 [f, g])]], Wf x := wf_kids (wf_two (.inr rfl) (wf_s (wf_st v h2)) (wf_rjoin (.inl rfl) w3))
    exact join_same (.inr rfl) w4
  | jn hk h =>
    rw [st_jn hk, sF_jn hk]
    unfold proK
    rw [if_neg (by omega), if_neg (by omega), if_neg (by omega), if_neg (by omega), if_neg (by omega)]
    unfold buildK
    rw [if_pos hk, List.map_map]
    refine join_same hk fun f hf => ?_
    obtain ⟨g, hg, rfl⟩ := List.mem_map.1 hf
    exact wf_s (wf_st v (h g hg))
end Go.Proofs.YtpjcbadnpknncaaDoor.Vm
/- The plain law: sizes; all can be applied. -/
namespace Go.Proofs.YtpjcbadnpknncaaDoor.Vm
open Go.RowKit Go.Shelf
set_option linter.unusedSimpArgs false
set_option linter.unusedVariables false
set_option maxRecDepth 100000
/-! ### Sizes -/
mutual
def nn : Fm → Nat
  | .mk _ _ _ _ l => 1 + nns l
def nns : List Fm → Nat
  | [] => 0
  | f :: l => nn f + nns l
end
mutual
def td : Fm → Nat
  | .mk k _ _ _ l => (if k = 6 ∨ k = 7 ∨ k = 8 then 1 else 0) + tds l
def tds : List Fm → Nat
  | [] => 0
  | f :: l => max (td f) (tds l)
end
theorem nn_mk (k a b n : Int) (l : List Fm) : nn (.mk k a b n l) = 1 + nns l := by
  conv => lhs; unfold nn
theorem nns_nil : nns [] = 0 := by unfold nns; rfl
theorem nns_cons (f : Fm) (l : List Fm) : nns (f :: l) = nn f + nns l := by
  conv => lhs; unfold nns
theorem td_mk (k a b n : Int) (l : List Fm) : td (.mk k a b n l) = (if k = 6 ∨ k = 7 ∨ k = 8 then 1 else 0) + tds l := by
  conv => lhs; unfold td
theorem tds_nil : tds [] = 0 := by unfold tds; rfl
theorem tds_cons (f : Fm) (l : List Fm) : tds (f :: l) = max (td f) (tds l) := by
  conv => lhs; unfold tds
theorem nn_pos (f : Fm) : 1 ≤ nn f := by cases f; rw [nn_mk]; omega
theorem nns_app (l m : List Fm) : nns (l ++ m) = nns l + nns m := by
  induction l with
  | nil => rw [nns_nil]; simp
  | cons f l ih => rw [List.cons_append, nns_cons, nns_cons, ih]; omega
theorem nns_len (l : List Fm) : l.length ≤ nns l := by
  induction l with
  | nil => simp
  | cons f l ih => rw [nns_cons, List.length_cons]; have := nn_pos f; omega
theorem nn_mem {l : List Fm} {f : Fm} (h : f ∈ l) : nn f ≤ nns l := by
  induction l with
  | nil => cases h
  | cons g l ih =>
    rw [nns_cons]
    rcases List.mem_cons.1 h with rfl | h
    · omega
    · have := ih h; omega
theorem td_mem {l : List Fm} {f : Fm} (h : f ∈ l) : td f ≤ tds l := by
  induction l with
  | nil => cases h
  | cons g l ih =>
    rw [tds_cons]
    rcases List.mem_cons.1 h with rfl | h
    · omega
    · have := ih h; omega
theorem tds_le {l : List Fm} {m : Nat} (h : ∀ f ∈ l, td f ≤ m) : tds l ≤ m := by
  induction l with
  | nil => rw [tds_nil]; omega
  | cons g l ih =>
    rw [tds_cons]
    have := h g (by simp)
    have := ih fun f hf => h f (by simp [hf])
    omega
theorem parts_nn (k : Int) (f : Fm) : nns (partsF k f) ≤ nn f := by
  unfold partsF
  split
  · cases f; rw [nn_mk]; simp only [Fm.kids]; omega
  · rw [nns_cons, nns_nil]; omega
theorem flat_nn (k : Int) (l : List Fm) : nns (flatJ k l) ≤ nns l := by
  induction l with
  | nil => unfold flatJ; simp [nns_nil]
  | cons f l ih =>
    rw [show flatJ k (f :: l) = partsF k f ++ flatJ k l from by unfold flatJ; rw [List.flatMap_cons], nns_app, nns_cons]
    have := parts_nn k f
    omega
theorem flat_lenn (k : Int) (l : List Fm) : (flatJ k l).length ≤ nns l := Nat.le_trans (nns_len _) (flat_nn k l)
theorem add_nn (out : List Fm) (f : Fm) : nns (addR out f) ≤ nns out + nn f := by
  unfold addR
  split
  · omega
  · rw [nns_app, nns_cons, nns_nil]; omega
theorem rGo_nn (k : Int) : ∀ flat out : List Fm, nn (rGo k flat out) ≤ 1 + nns flat + nns out
  | [], out => by
    unfold rGo finR
    split
    · rw [nns_cons, nns_nil]; omega
    · rw [nn_mk]; omega
  | f :: flat, out => by
    unfold rGo
    rw [nns_cons]
    split
    · omega
    · have := rGo_nn k flat (addR out f)
      have := add_nn out f
      omega
theorem rjoin_nn (k : Int) (l : List Fm) : nn (rjoinF k l) ≤ 1 + nns l := by
  unfold rjoinF
  have := rGo_nn k (flatJ k l) []
  have := flat_nn k l
  rw [nns_nil] at *
  omega
theorem parts_td (k : Int) (f g : Fm) (h : g ∈ partsF k f) : td g ≤ td f := by
  unfold partsF at h
  split at h
  · cases f; rw [td_mk]; have := td_mem h; simp only [Fm.kids] at this; omega
  · rw [List.mem_singleton.1 h]; omega
theorem rjoin_td {k : Int} (hk : k = 3 ∨ k = 4) {l : List Fm} {m : Nat} (h : ∀ f ∈ l, td f ≤ m) : td (rjoinF k l) ≤ m := by
  unfold rjoinF
  refine rGo_pres (Q := fun f => td f ≤ m) (fun l h => ?_) _ _ (fun f hf => ?_) (by simp)
  · rw [td_mk, if_neg (by omega)]
    have := tds_le h
    omega
  · unfold flatJ at hf
    obtain ⟨g, hg, hf⟩ := List.mem_flatMap.1 hf
    exact Nat.le_trans (parts_td _ _ _ hf) (h g hg)
theorem const_nn (b : Bool) : nn (constF b) = 1 := by unfold constF; rw [nn_mk, nns_nil]
theorem const_td (b : Bool) : td (constF b) = 0 := by unfold constF; rw [td_mk, tds_nil]; cases b <;> simp
theorem not_nn {f : Fm} (h : Wf f) : nn (notF f) ≤ 1 + nn f := by
  unfold notF
  split
  · rw [nn_mk, nns_nil]; omega
  · split
    · rename_i h2
      have : g0 f.kids ∈ f.kids := by
        unfold g0
        rw [List.getD_eq_getElem?_getD, List.getElem?_eq_getElem h2.2]
        exact List.getElem_mem h2.2
      have := nn_mem this
      cases f; rw [nn_mk]; simp only [Fm.kids] at *; omega
    · rw [nn_mk, nns_cons, nns_nil]; omega
theorem not_td {f : Fm} (h : Wf f) : td (notF f) ≤ td f := by
  unfold notF
  split
  · rw [td_mk, tds_nil]; unfold oppF; split <;> simp
  · split
    · rename_i h2
      have : g0 f.kids ∈ f.kids := by
        unfold g0
        rw [List.getD_eq_getElem?_getD, List.getElem?_eq_getElem h2.2]
        exact List.getElem_mem h2.2
      have := td_mem this
      cases f; rw [td_mk]; simp only [Fm.kids] at *; omega
    · rw [td_mk, tds_cons, tds_nil]; simp
theorem nns_map {l : List Fm} {q : Fm → Fm} {c : Nat} (h : ∀ f ∈ l, nn (q f) ≤ c * nn f) : nns (l.map q) ≤ c * nns l := by
  induction l with
  | nil => rw [List.map_nil, nns_nil]; omega
  | cons f l ih =>
    rw [List.map_cons, nns_cons, nns_cons, Nat.mul_add]
    have := h f (by simp)
    have := ih fun g hg => h g (by simp [hg])
    omega
theorem s_size {f : Fm} (h : Wf f) : nn (sF f) ≤ nn f ∧ td (sF f) ≤ td f := by
  induction h with
  | var h1 h2 h3 => rw [sF_var]; exact ⟨Nat.le_refl _, Nat.le_refl _⟩
  | un hk h ih =>
    rename_i k f
    by_cases h2 : k = 2
    · subst h2
      rw [sF_not]
      have := not_nn (wf_s h)
      have := not_td (wf_s h)
      rw [nn_mk, td_mk, nns_cons, nns_nil, tds_cons, tds_nil]
      simp
      omega
    · rw [sF_un (by omega)]
      split
      · rw [nn_mk, td_mk, nns_cons, nns_nil, tds_cons, tds_nil]
        omega
      · rw [nn_mk, td_mk, nns_cons, nns_nil, tds_cons, tds_nil, nn_mk, td_mk, nns_cons, nns_nil, tds_cons, tds_nil]
        omega
  | til h1 h2 ih1 ih2 =>
    rw [sF_til]
    split
    · rw [nn_mk, td_mk, nns_cons, nns_cons, nns_nil, tds_cons, tds_cons, tds_nil]
      omega
    · rw [nn_mk, td_mk, nns_cons, nns_cons, nns_nil, tds_cons, tds_cons, tds_nil, nn_mk, td_mk, nns_cons, nns_cons, nns_nil, tds_cons, tds_cons, tds_nil]
      omega
  | jn hk h ih =>
    rename_i k l
    rw [sF_jn hk]
    constructor
    · have := rjoin_nn k (l.map sF)
      have h2 := nns_map (q := sF) (c := 1) (l := l) fun f hf => by have := (ih f hf).1; omega
      rw [nn_mk]
      omega
    · rw [td_mk]
      refine Nat.le_trans (rjoin_td hk (m := tds l) fun f hf => ?_) (by omega)
      obtain ⟨g, hg, rfl⟩ := List.mem_map.1 hf
      exact Nat.le_trans (ih g hg).2 (td_mem hg)
theorem st_size (v : List Int) {f : Fm} (h : Wf f) : (td f = 0 → nn (stF v f) ≤ nn f) ∧ nn (stF v f) ≤ (2 + td f) * nn f ∧ td (stF v f) ≤ td f := by
  induction h with
  | var h1 h2 h3 => rw [st_var, const_nn, const_td, nn_mk, nns_nil, td_mk, tds_nil]; simp
  | un hk h ih =>
    rename_i k f
    obtain ⟨i1, i2, i3⟩ := ih
    have hp := nn_pos f
    rcases hk with rfl | rfl | rfl | rfl
    · rw [st_not]
      simp only [nn_mk, td_mk, nns_cons, nns_nil, tds_cons, tds_nil]
      simp
      rw [Nat.mul_add]
      omega
    · rw [st_next]
      simp only [nn_mk, td_mk, nns_cons, nns_nil, tds_cons, tds_nil]
      simp
      have := Nat.le_mul_of_pos_left (nn f) (show 0 < 2 + td f by omega)
      rw [Nat.mul_add]
      omega
    all_goals
      first | rw [st_alw] | rw [st_ev]
      simp only [nn_mk, td_mk, nns_cons, nns_nil, tds_cons, tds_nil]
      simp
      rw [show (2 + (1 + td f)) * (1 + nn f) = (2 + td f) * nn f + (2 + td f) + 1 + nn f by rw [show 2 + (1 + td f) = (2 + td f) + 1 by omega, Nat.add_mul, Nat.mul_add]; omega]
      omega
  | til h1 h2 ih1 ih2 =>
    rename_i f g
    obtain ⟨i1, i2, i3⟩ := ih1
    obtain ⟨j1, j2, j3⟩ := ih2
    rw [st_til]
    simp only [nn_mk, td_mk, nns_cons, nns_nil, tds_cons, tds_nil]
    simp
    have e1 := Nat.mul_le_mul_right (nn f) (show 2 + td f ≤ 2 + max (td f) (td g) by omega)
    have e2 := Nat.mul_le_mul_right (nn g) (show 2 + td g ≤ 2 + max (td f) (td g) by omega)
    have m1 := Nat.le_max_left (td f) (td g)
    have m2 := Nat.le_max_right (td f) (td g)
    generalize max (td f) (td g) = m at *
    rw [show (2 + (1 + m)) * (1 + (nn f + nn g)) = (2 + m) * nn f + (2 + m) * nn g + (2 + m) + 1 + (nn f + nn g) by rw [show 2 + (1 + m) = (2 + m) + 1 by omega, Nat.add_mul, Nat.mul_add, Nat.mul_add]; omega]
    omega
  | jn hk h ih =>
    rename_i k l
    rw [st_jn hk]
    simp only [nn_mk, td_mk]
    rw [if_neg (by omega)]
    refine ⟨fun h0 => ?_, ?_, ?_⟩
    · have := nns_map (q := stF v) (c := 1) (l := l) fun f hf => by
        have := (ih f hf).1 (by have := td_mem hf; omega)
        omega
      omega
    · have := nns_map (q := stF v) (c := 2 + tds l) (l := l) fun f hf => by
        refine Nat.le_trans (ih f hf).2.1 (Nat.mul_le_mul_right _ ?_)
        have := td_mem hf
        omega
      rw [Nat.mul_add]
      simp only [Nat.zero_add]
      omega
    · have : tds (l.map (stF v)) ≤ tds l := tds_le fun f hf => by
        obtain ⟨g, hg, rfl⟩ := List.mem_map.1 hf
        exact Nat.le_trans (ih g hg).2.2 (td_mem hg)
      omega
/-! ### All can be applied -/
structure Gd (N : Nat) (f : Fm) : Prop where
  w : Wf f
  t : td f ≤ 3
  n : nn f ≤ N
theorem Gd.s {N : Nat} {f : Fm} (h : Gd N f) : Gd N (sF f) := by
  have := s_size h.w
  exact ⟨wf_s h.w, by have := h.t; omega, by have := h.n; omega⟩
theorem Gd.st {N : Nat} {f : Fm} (h : Gd N f) (v : List Int) : Gd (5 * N) (stF v f) := by
  obtain ⟨_, h2, h3⟩ := st_size v h.w
  have := h.t
  have := h.n
  have := Nat.mul_le_mul_right (nn f) (show 2 + td f ≤ 5 by omega)
  exact ⟨wf_st v h.w, by omega, by omega⟩
theorem Gd.pro {N : Nat} {f : Fm} (h : Gd N f) (v : List Int) : Gd (5 * N) (proF v f) := by
  rw [pro_same v f h.w]
  exact (h.st v).s
theorem Gd.mono {N M : Nat} {f : Fm} (h : Gd N f) (hm : N ≤ M) : Gd M f := ⟨h.w, h.t, Nat.le_trans h.n hm⟩
theorem Gd.kid {N : Nat} {k a b n : Int} {l : List Fm} (h : Gd N (.mk k a b n l)) {f : Fm} (hf : f ∈ l) : Gd N f := by
  obtain ⟨w, t, n⟩ := h
  rw [td_mk] at t
  rw [nn_mk] at n
  have := td_mem hf
  have := nn_mem hf
  exact ⟨wf_kids w f hf, by omega, by omega⟩
theorem s_sum {l : List Fm} (h : ∀ f ∈ l, Wf f) : nns (l.map sF) ≤ nns l := by
  have := nns_map (q := sF) (c := 1) (l := l) fun f hf => by have := (s_size (h f hf)).1; omega
  omega
theorem fitT_gd {N : Nat} (hN : N ≤ 1000000000000) : ∀ f : Fm, Gd N f → FitT f := Fm.ind fun k a b n l ih hw => by
  have h2 := hw.n
  rw [nn_mk] at h2
  have := nns_len l
  refine fitT_mk (by omega) (fun _ => ?_) fun f hf => ih f hf (hw.kid hf)
  unfold JB
  have := flat_lenn k (l.map sF)
  have := s_sum (wf_kids hw.w)
  simp only [Fm.kids] at this
  omega
theorem need_wf {k a b n : Int} {l : List Fm} (hw : Wf (.mk k a b n l)) (hn : nns l ≤ 1000000000000) : NeedK k l := by
  refine ⟨fun _ => ?_, fun h => ?_, fun h => ?_, fun h => ?_⟩
  · have := flat_lenn k l
    omega
  · subst h
    cases hw with
    | un _ h =>
      refine ⟨by simp, fun h2 => ?_⟩
      simp only [g0, List.getD_cons_zero] at h2 ⊢
      cases h with
      | var => simp [Fm.k] at h2
      | un => simp [Fm.kids]
      | til => simp [Fm.kids]
      | jn hk => simp [Fm.k] at h2; omega
    | jn hk => omega
  · subst h
    cases hw with
    | un h => omega
    | til => simp
    | jn hk => omega
  · cases hw with
    | var => simp at h
    | un _ _ => simp
    | til => simp at h
    | jn hk => omega
theorem fitS_gd {N : Nat} (hN : N ≤ 1000000000000) : ∀ f : Fm, Gd N f → FitS f := Fm.ind fun k a b n l ih hw => by
  have h2 := hw.n
  rw [nn_mk] at h2
  have := nns_len l
  refine fitS_mk (by omega) ?_ fun f hf => ih f hf (hw.kid hf)
  have e : l.map simF = l.map sF := List.map_congr_left fun f hf => sim_same f (wf_kids hw.w f hf)
  rw [e]
  refine need_wf (wf_map hw.w fun f _ h => wf_s h) ?_
  have := s_sum (wf_kids hw.w)
  simp only [Fm.kids] at this
  omega
theorem fitU_gd {N : Nat} (hN : N ≤ 1000000000000) : ∀ f : Fm, Gd N f → FitU f := Fm.ind fun k a b n l ih hw => by
  have h2 := hw.n
  rw [nn_mk] at h2
  have := nns_len l
  unfold FitU
  refine ⟨by omega, fun h => ?_, fitUs_mk fun f hf => ih f hf (hw.kid hf)⟩
  subst h
  cases hw.w with
  | var h _ _ => exact h
  | un hk => omega
  | jn hk => omega
theorem fitP_gd {N : Nat} (hN : N ≤ 100000000000) (v : List Int) : ∀ f : Fm, Gd N f → FitP v f := Fm.ind fun k a b n l ih hw => by
  have hfs := fitS_gd (by omega) _ hw
  have hs := sim_same _ hw.w
  have hsn := (s_size hw.w).1
  have h2 := hw.n
  have h3 := hw.t
  have hW := hw.w
  have hlen := nns_len l
  have hP : ∀ f ∈ l, Gd (5 * N) (proF v f) := fun f hf => (hw.kid hf).pro v
  have hk := fun f hf => fitS_gd (by omega) f (hw.kid (f := f) hf)
  refine fitP_mk ?_ fun f hf => ih f hf (hw.kid hf)
  rw [nn_mk] at h2
  have hPn : nns (l.map (proF v)) ≤ 5 * nns l := nns_map fun f hf => by
    have h4 : Gd (nn f) f := ⟨(hw.kid hf).w, (hw.kid hf).t, Nat.le_refl _⟩
    exact (h4.pro v).n
  refine ⟨fun h => ?_, fun h => ?_, fun h => ?_, fun h => ?_, fun h => ?_, fun h1 h5 h6 h7 h8 => ⟨by omega, ?_⟩⟩
  · subst h
    cases hW with
    | var q1 q2 q3 => exact ⟨q1, q2, q3⟩
    | un hk => omega
    | jn hk => omega
  · subst h
    cases hW with
    | un _ h => exact ⟨by simp, hk _ (by simp [g0])⟩
    | jn hk => omega
  · subst h
    cases hW with
    | un _ h =>
      refine ⟨by simp, hfs, ?_⟩
      unfold JB
      rw [hs]
      have := flat_lenn 3 [g0 (List.map (proF v) [‹Fm›]), sF (.mk 7 0 0 0 [‹Fm›])]
      simp only [nns_cons, nns_nil, g0, List.map_cons, List.map_nil, List.getD_cons_zero] at this hPn h2 hsn ⊢
      rw [nn_mk, nns_cons, nns_nil] at hsn
      omega
    | jn hk => omega
  · subst h
    cases hW with
    | un _ h =>
      refine ⟨by simp, hfs, ?_⟩
      unfold JB
      rw [hs]
      have := flat_lenn 4 [g0 (List.map (proF v) [‹Fm›]), sF (.mk 8 0 0 0 [‹Fm›])]
      simp only [nns_cons, nns_nil, g0, List.map_cons, List.map_nil, List.getD_cons_zero] at this hPn h2 hsn ⊢
      rw [nn_mk, nns_cons, nns_nil] at hsn
      omega
    | jn hk => omega
  · subst h
    cases hW with
    | un hk => omega
    | til w1 w2 =>
      rename_i f g
      have wj : ∀ x ∈ [proF v f, sF (.mk 6 0 0 0 [f, g])], Wf x := wf_kids (wf_two (.inl rfl) (hP f (by simp)).w (wf_s (.til w1 w2)))
      simp only [g0, g1, List.map_cons, List.map_nil, List.getD_cons_zero, List.getD_cons_succ]
      rw [hs, join_same (.inl rfl) wj]
      have e1 := flat_lenn 3 [proF v f, sF (.mk 6 0 0 0 [f, g])]
      have e2 := flat_lenn 4 [proF v g, rjoinF 3 [proF v f, sF (.mk 6 0 0 0 [f, g])]]
      have e3 := rjoin_nn 3 [proF v f, sF (.mk 6 0 0 0 [f, g])]
      simp only [nns_cons, nns_nil, List.map_cons, List.map_nil] at e1 e2 e3 hPn h2
      rw [nn_mk, nns_cons, nns_cons, nns_nil] at hsn
      refine ⟨by simp, hfs, ?_, ?_⟩
      · unfold JB; omega
      · unfold JB; omega
    | jn hk => omega
  · exact need_wf (wf_map hW fun f hf _ => (hP f hf).w) (by omega)
end Go.Proofs.YtpjcbadnpknncaaDoor.Vm
/- The generator of formulas. -/
namespace Go.Proofs.YtpjcbadnpknncaaDoor.Vm
open Go.RowKit Go.Shelf
set_option linter.unusedSimpArgs false
set_option linter.unusedVariables false
set_option maxRecDepth 100000
def bxG (l : List Int) (i : Nat) : List A := [.sl 1 l.length (intsA l), .v (.int .i64 i)]
theorem gpick_spec (l : List Int) (i m : Nat) (hm : 1 ≤ m ∧ m ≤ 100) (hi : i ≤ 1000000000) : Spec Tryd.prog 47 [bxG l i] [.box 0 0, .v (.int .i64 m)] fun o r => ∃ n : Nat, n < m ∧ o = [bxG l (i + 1)] ∧ r = .v (.int .i64 n) := by
  refine spec_of (cx_ok ord47 xs0 1) (fun _ _ h => h) Tryd.func47 rfl (by kernel_rfl) rfl (by kernel_rfl) ?_
  intro hok
  conv => whnf
  refine call0 [] rfl (fun _ => rPick l i) ?_
  rintro r ⟨hr, rfl⟩
  obtain ⟨k, hk⟩ : ∃ k : Nat, pkF l i = (k : Int) := ⟨(pkF l i).toNat, by omega⟩
  rw [hk] at hr ⊢
  conv => whnf
  (refine goA ?_; try with_reducible exact trivial)
  have e : ((k : Int)).tmod (m : Int) = ((k % m : Nat) : Int) := by rw [Int.tmod_eq_emod_of_nonneg (by omega)]; omega
  exact ⟨k % m, Nat.mod_lt _ (by omega), rfl, by rw [e]⟩
end Go.Proofs.YtpjcbadnpknncaaDoor.Vm
/- The generator of formulas: Formula. -/
namespace Go.Proofs.YtpjcbadnpknncaaDoor.Vm
open Go.RowKit Go.Shelf
set_option linter.unusedSimpArgs false
set_option linter.unusedVariables false
set_option maxRecDepth 100000
/-- Generated formulas of a depth. -/
inductive Gf : Nat → Fm → Prop
  | var {d : Nat} {a b n : Int} : 0 ≤ a ∧ a ≤ 15 → 0 ≤ b ∧ b ≤ 2 → -2147483647 ≤ n ∧ n ≤ 2147483647 → Gf d (.mk 1 a b n [])
  | cst {d : Nat} (b : Bool) : Gf d (constF b)
  | un {d : Nat} {k : Int} {f : Fm} : k = 2 ∨ k = 5 ∨ k = 7 ∨ k = 8 → Gf d f → Gf (d + 1) (.mk k 0 0 0 [f])
  | til {d : Nat} {f g : Fm} : Gf d f → Gf d g → Gf (d + 1) (.mk 6 0 0 0 [f, g])
  | jn {d : Nat} {k : Int} {l : List Fm} : k = 3 ∨ k = 4 → 2 ≤ l.length ∧ l.length ≤ 3 → (∀ f, f ∈ l → Gf d f) → Gf (d + 1) (.mk k 0 0 0 l)
theorem gf_ok {d : Nat} {f : Fm} (h : Gf d f) : Wf f ∧ td f ≤ d ∧ nn f ≤ 4 ^ d := by
  induction h with
  | var h1 h2 h3 =>
    rename_i d a b n
    refine ⟨.var h1.1 h2.1 h2.2, ?_, ?_⟩
    · rw [td_mk, tds_nil]; simp
    · rw [nn_mk, nns_nil]; exact Nat.pos_of_ne_zero (by simp)
  | cst b =>
    rename_i d
    rw [const_td, const_nn]
    exact ⟨wf_const b, by omega, Nat.pos_of_ne_zero (by simp)⟩
  | un hk h ih =>
    rename_i d k f
    obtain ⟨i1, i2, i3⟩ := ih
    have hp : 1 ≤ 4 ^ d := Nat.pos_of_ne_zero (by simp)
    rw [td_mk, nn_mk, tds_cons, tds_nil, nns_cons, nns_nil, Nat.pow_succ]
    refine ⟨.un hk i1, ?_, by omega⟩
    split <;> omega
  | til h1 h2 ih1 ih2 =>
    rename_i d f g
    obtain ⟨i1, i2, i3⟩ := ih1
    obtain ⟨j1, j2, j3⟩ := ih2
    have hp : 1 ≤ 4 ^ d := Nat.pos_of_ne_zero (by simp)
    rw [td_mk, nn_mk, tds_cons, tds_cons, tds_nil, nns_cons, nns_cons, nns_nil, Nat.pow_succ]
    refine ⟨.til i1 j1, ?_, by omega⟩
    simp
    omega
  | jn hk hl h ih =>
    rename_i d k l
    have hp : 1 ≤ 4 ^ d := Nat.pos_of_ne_zero (by simp)
    rw [td_mk, nn_mk, if_neg (by omega), Nat.pow_succ]
    refine ⟨.jn hk fun f hf => (ih f hf).1, ?_, ?_⟩
    · have := tds_le fun f hf => (ih f hf).2.1
      omega
    · have : ∀ m : List Fm, (∀ f ∈ m, nn f ≤ 4 ^ d) → nns m ≤ m.length * 4 ^ d := fun m => by
        induction m with
        | nil => intro _; rw [nns_nil]; simp
        | cons f m ih2 =>
          intro hm
          have h1 := hm f (by simp)
          have h2 := ih2 fun g hg => hm g (by simp [hg])
          rw [nns_cons, List.length_cons, Nat.add_mul]
          omega
      have h1 := this l fun f hf => (ih f hf).2.2
      have h2 := Nat.mul_le_mul_right (4 ^ d) hl.2
      omega
def GenSpec (l : List Int) (d : Nat) : Prop := ∀ i, i + 5 * 4 ^ d ≤ 1000000 → Spec Tryd.prog 28 [bxG l i] [.box 0 0, .v (.int .i64 d)] fun o r => ∃ f i', Gf d f ∧ i ≤ i' ∧ i' ≤ i + 5 * 4 ^ d ∧ o = [bxG l i'] ∧ r = .agg (fmA f)
theorem tmod_nat (k : Nat) (m : Nat) (hm : 0 < m) : ((k : Int)).tmod (m : Int) = ((k % m : Nat) : Int) := by
  rw [Int.tmod_eq_emod_of_nonneg (by omega)]; omega
theorem tdiv_nat (k : Nat) (m : Nat) (hm : 0 < m) : ((k : Int)).tdiv (m : Int) = ((k / m : Nat) : Int) := by
  rw [Int.tdiv_eq_ediv_of_nonneg (by omega)]; omega
set_option maxHeartbeats 2000000 in
theorem gen_raw (l : List Int) (d e P Q : Nat) (hdb : d ≤ 1000) (hde : 1 ≤ d → d = e + 1) (hp1 : 1 ≤ d → P = 4 * Q) (hp2 : 1 ≤ Q) (hp3 : 1 ≤ P) (ih : 1 ≤ d → ∀ i, i + 5 * Q ≤ 1000000 → Spec Tryd.prog 28 [bxG l i] [.box 0 0, .v (.int .i64 ((d : Int) - 1))] fun o r => ∃ f i', Gf e f ∧ i ≤ i' ∧ i' ≤ i + 5 * Q ∧ o = [bxG l i'] ∧ r = .agg (fmA f)) (i : Nat) (hi : i + 5 * P ≤ 1000000) :
    Spec Tryd.prog 28 [bxG l i] [.box 0 0, .v (.int .i64 d)] fun o r => ∃ f i', Gf d f ∧ i ≤ i' ∧ i' ≤ i + 5 * P ∧ o = [bxG l i'] ∧ (r = .agg (fmA f) ∨ (f.kids = [] ∧ r = .agg (raw0 f))) := by
  refine spec_of (cx_ok ord28 (fun _ => [0]) 1) (fun _ _ h => h) Tryd.func28 rfl (by kernel_rfl) rfl (by kernel_rfl) ?_
  intro hok
  conv => whnf
  refine call1 0 [] rfl rfl rfl rfl (fun _ => gpick_spec l (i) 12 (by decide) (by omega)) ?_
  rintro o r ⟨n12, hn12, ho, rfl⟩
  cases ho
  conv => whnf
  by_cases hd0 : d = 0
  · have en : ((n12 : Int)).tmod 4 = ((n12 % 4 : Nat) : Int) := tmod_nat n12 4 (by decide)
    have hn4 : n12 % 4 < 4 := Nat.mod_lt _ (by decide)
    (refine goA ?_; try with_reducible exact trivial)
    rw [en]
    generalize n12 % 4 = n at *
    conv => whnf
    by_cases h0 : n = 0
    · (refine goA ?_; try with_reducible exact trivial)
      refine call1 0 [] rfl rfl rfl rfl (fun _ => gpick_spec l (i + 1) 3 (by decide) (by omega)) ?_
      rintro o r ⟨n3, hn3, ho, rfl⟩
      cases ho
      conv => whnf
      refine call1 0 [] rfl rfl rfl rfl (fun _ => gpick_spec l (i + 1 + 1) 3 (by decide) (by omega)) ?_
      rintro o r ⟨b3, hb3, ho, rfl⟩
      cases ho
      conv => whnf
      refine call1 0 [] rfl rfl rfl rfl (fun _ => gpick_spec l (i + 1 + 1 + 1) 4 (by decide) (by omega)) ?_
      rintro o r ⟨n4, hn4, ho, rfl⟩
      cases ho
      conv => whnf
      (refine goA ?_; try with_reducible exact trivial)
      refine ⟨.mk 1 n3 b3 ((n4 : Int) - 1) [], i + 1 + 1 + 1 + 1, .var (by omega) (by omega) (by omega), by omega, by omega, rfl, .inr ⟨rfl, rfl⟩⟩
    by_cases h1 : n = 1
    · (refine goA ?_; try with_reducible exact trivial)
      refine call1 0 [] rfl rfl rfl rfl (fun _ => gpick_spec l (i + 1) 3 (by decide) (by omega)) ?_
      rintro o r ⟨n3, hn3, ho, rfl⟩
      cases ho
      conv => whnf
      refine call1 0 [] rfl rfl rfl rfl (fun _ => gpick_spec l (i + 1 + 1) 3 (by decide) (by omega)) ?_
      rintro o r ⟨b3, hb3, ho, rfl⟩
      cases ho
      conv => whnf
      refine call1 0 [] rfl rfl rfl rfl (fun _ => gpick_spec l (i + 1 + 1 + 1) 4 (by decide) (by omega)) ?_
      rintro o r ⟨n4, hn4, ho, rfl⟩
      cases ho
      conv => whnf
      (refine goA ?_; try with_reducible exact trivial)
      refine ⟨.mk 1 n3 b3 ((n4 : Int) - 1) [], i + 1 + 1 + 1 + 1, .var (by omega) (by omega) (by omega), by omega, by omega, rfl, .inr ⟨rfl, rfl⟩⟩
    by_cases h2 : n = 2
    · (refine goA ?_; try with_reducible exact trivial)
      refine call1 0 [] rfl rfl rfl rfl (fun _ => gpick_spec l (i + 1) 3 (by decide) (by omega)) ?_
      rintro o r ⟨n3, hn3, ho, rfl⟩
      cases ho
      conv => whnf
      refine call1 0 [] rfl rfl rfl rfl (fun _ => gpick_spec l (i + 1 + 1) 3 (by decide) (by omega)) ?_
      rintro o r ⟨b3, hb3, ho, rfl⟩
      cases ho
      conv => whnf
      refine call1 0 [] rfl rfl rfl rfl (fun _ => gpick_spec l (i + 1 + 1 + 1) 4 (by decide) (by omega)) ?_
      rintro o r ⟨n4, hn4, ho, rfl⟩
      cases ho
      conv => whnf
      (refine goA ?_; try with_reducible exact trivial)
      refine ⟨.mk 1 n3 b3 ((n4 : Int) - 1) [], i + 1 + 1 + 1 + 1, .var (by omega) (by omega) (by omega), by omega, by omega, rfl, .inr ⟨rfl, rfl⟩⟩
    have h3 : n = 3 := by omega
    (refine goA ?_; try with_reducible exact trivial)
    refine call1 0 [] rfl rfl rfl rfl (fun _ => gpick_spec l (i + 1) 3 (by decide) (by omega)) ?_
    rintro o r ⟨n3, hn3, ho, rfl⟩
    cases ho
    conv => whnf
    by_cases hz : n3 = 0
    · (refine goA ?_; try with_reducible exact trivial)
      (refine call0 [] rfl (fun _ => rTrue) ?_; rintro r rfl; conv => whnf)
      (refine call0 [] rfl (fun _ => rFalse) ?_; rintro r rfl; conv => whnf)
      refine call1 0 [] rfl rfl rfl rfl (fun _ => gpick_spec l (i + 1 + 1) 2 (by decide) (by omega)) ?_
      rintro o r ⟨n2, hn2, ho, rfl⟩
      cases ho
      conv => whnf
      rcases (show n2 = 0 ∨ n2 = 1 by omega) with rfl | rfl
      · (refine goA ?_; try with_reducible exact trivial)
        exact ⟨constF true, i + 1 + 1 + 1, .cst true, by omega, by omega, rfl, .inl rfl⟩
      · (refine goA ?_; try with_reducible exact trivial)
        exact ⟨constF false, i + 1 + 1 + 1, .cst false, by omega, by omega, rfl, .inl rfl⟩
    · (refine goA ?_; try with_reducible exact trivial)
      refine call1 0 [] rfl rfl rfl rfl (fun _ => gpick_spec l (i + 1 + 1) 16 (by decide) (by omega)) ?_
      rintro o r ⟨n16, hn16, ho, rfl⟩
      cases ho
      conv => whnf
      refine call1 0 [] rfl rfl rfl rfl (fun _ => gpick_spec l (i + 1 + 1 + 1) 3 (by decide) (by omega)) ?_
      rintro o r ⟨b3, hb3, ho, rfl⟩
      cases ho
      conv => whnf
      refine call1 0 [] rfl rfl rfl rfl (fun _ => gpick_spec l (i + 1 + 1 + 1 + 1) 4 (by decide) (by omega)) ?_
      rintro o r ⟨n4, hn4, ho, rfl⟩
      cases ho
      conv => whnf
      rcases (show n4 = 0 ∨ n4 = 1 ∨ n4 = 2 ∨ n4 = 3 by omega) with rfl | rfl | rfl | rfl
      · (refine goA ?_; try with_reducible exact trivial)
        refine ⟨.mk 1 n16 b3 0 [], i + 1 + 1 + 1 + 1 + 1, .var (by omega) (by omega) (by omega), by omega, by omega, rfl, .inr ⟨rfl, rfl⟩⟩
      · (refine goA ?_; try with_reducible exact trivial)
        refine ⟨.mk 1 n16 b3 2147483647 [], i + 1 + 1 + 1 + 1 + 1, .var (by omega) (by omega) (by omega), by omega, by omega, rfl, .inr ⟨rfl, rfl⟩⟩
      · (refine goA ?_; try with_reducible exact trivial)
        refine ⟨.mk 1 n16 b3 (-2147483647) [], i + 1 + 1 + 1 + 1 + 1, .var (by omega) (by omega) (by omega), by omega, by omega, rfl, .inr ⟨rfl, rfl⟩⟩
      · (refine goA ?_; try with_reducible exact trivial)
        refine ⟨.mk 1 n16 b3 10 [], i + 1 + 1 + 1 + 1 + 1, .var (by omega) (by omega) (by omega), by omega, by omega, rfl, .inr ⟨rfl, rfl⟩⟩
  · have hde := hde (by omega)
    have hp1 := hp1 (by omega)
    have ih := ih (by omega)
    (refine goA ?_; try with_reducible exact trivial)
    generalize n12 = n at *
    by_cases h0 : n = 0
    · (refine goA ?_; try with_reducible exact trivial)
      refine call1 0 [] rfl rfl rfl rfl (fun _ => gpick_spec l (i + 1) 3 (by decide) (by omega)) ?_
      rintro o r ⟨n3, hn3, ho, rfl⟩
      cases ho
      conv => whnf
      refine call1 0 [] rfl rfl rfl rfl (fun _ => gpick_spec l (i + 1 + 1) 3 (by decide) (by omega)) ?_
      rintro o r ⟨b3, hb3, ho, rfl⟩
      cases ho
      conv => whnf
      refine call1 0 [] rfl rfl rfl rfl (fun _ => gpick_spec l (i + 1 + 1 + 1) 4 (by decide) (by omega)) ?_
      rintro o r ⟨n4, hn4, ho, rfl⟩
      cases ho
      conv => whnf
      (refine goA ?_; try with_reducible exact trivial)
      refine ⟨.mk 1 n3 b3 ((n4 : Int) - 1) [], i + 1 + 1 + 1 + 1, .var (by omega) (by omega) (by omega), by omega, by omega, rfl, .inr ⟨rfl, rfl⟩⟩
    by_cases h1 : n = 1
    · (refine goA ?_; try with_reducible exact trivial)
      refine call1 0 [] rfl rfl rfl rfl (fun _ => gpick_spec l (i + 1) 3 (by decide) (by omega)) ?_
      rintro o r ⟨n3, hn3, ho, rfl⟩
      cases ho
      conv => whnf
      refine call1 0 [] rfl rfl rfl rfl (fun _ => gpick_spec l (i + 1 + 1) 3 (by decide) (by omega)) ?_
      rintro o r ⟨b3, hb3, ho, rfl⟩
      cases ho
      conv => whnf
      refine call1 0 [] rfl rfl rfl rfl (fun _ => gpick_spec l (i + 1 + 1 + 1) 4 (by decide) (by omega)) ?_
      rintro o r ⟨n4, hn4, ho, rfl⟩
      cases ho
      conv => whnf
      (refine goA ?_; try with_reducible exact trivial)
      refine ⟨.mk 1 n3 b3 ((n4 : Int) - 1) [], i + 1 + 1 + 1 + 1, .var (by omega) (by omega) (by omega), by omega, by omega, rfl, .inr ⟨rfl, rfl⟩⟩
    by_cases h2 : n = 2
    · (refine goA ?_; try with_reducible exact trivial)
      refine call1 0 [] rfl rfl rfl rfl (fun _ => gpick_spec l (i + 1) 3 (by decide) (by omega)) ?_
      rintro o r ⟨n3, hn3, ho, rfl⟩
      cases ho
      conv => whnf
      refine call1 0 [] rfl rfl rfl rfl (fun _ => gpick_spec l (i + 1 + 1) 3 (by decide) (by omega)) ?_
      rintro o r ⟨b3, hb3, ho, rfl⟩
      cases ho
      conv => whnf
      refine call1 0 [] rfl rfl rfl rfl (fun _ => gpick_spec l (i + 1 + 1 + 1) 4 (by decide) (by omega)) ?_
      rintro o r ⟨n4, hn4, ho, rfl⟩
      cases ho
      conv => whnf
      (refine goA ?_; try with_reducible exact trivial)
      refine ⟨.mk 1 n3 b3 ((n4 : Int) - 1) [], i + 1 + 1 + 1 + 1, .var (by omega) (by omega) (by omega), by omega, by omega, rfl, .inr ⟨rfl, rfl⟩⟩
    by_cases h3 : n = 3
    · (refine goA ?_; try with_reducible exact trivial)
      refine call1 0 [] rfl rfl rfl rfl (fun _ => gpick_spec l (i + 1) 3 (by decide) (by omega)) ?_
      rintro o r ⟨n3, hn3, ho, rfl⟩
      cases ho
      conv => whnf
      by_cases hz : n3 = 0
      · (refine goA ?_; try with_reducible exact trivial)
        (refine call0 [] rfl (fun _ => rTrue) ?_; rintro r rfl; conv => whnf)
        (refine call0 [] rfl (fun _ => rFalse) ?_; rintro r rfl; conv => whnf)
        refine call1 0 [] rfl rfl rfl rfl (fun _ => gpick_spec l (i + 1 + 1) 2 (by decide) (by omega)) ?_
        rintro o r ⟨n2, hn2, ho, rfl⟩
        cases ho
        conv => whnf
        rcases (show n2 = 0 ∨ n2 = 1 by omega) with rfl | rfl
        · (refine goA ?_; try with_reducible exact trivial)
          exact ⟨constF true, i + 1 + 1 + 1, .cst true, by omega, by omega, rfl, .inl rfl⟩
        · (refine goA ?_; try with_reducible exact trivial)
          exact ⟨constF false, i + 1 + 1 + 1, .cst false, by omega, by omega, rfl, .inl rfl⟩
      · (refine goA ?_; try with_reducible exact trivial)
        refine call1 0 [] rfl rfl rfl rfl (fun _ => gpick_spec l (i + 1 + 1) 16 (by decide) (by omega)) ?_
        rintro o r ⟨n16, hn16, ho, rfl⟩
        cases ho
        conv => whnf
        refine call1 0 [] rfl rfl rfl rfl (fun _ => gpick_spec l (i + 1 + 1 + 1) 3 (by decide) (by omega)) ?_
        rintro o r ⟨b3, hb3, ho, rfl⟩
        cases ho
        conv => whnf
        refine call1 0 [] rfl rfl rfl rfl (fun _ => gpick_spec l (i + 1 + 1 + 1 + 1) 4 (by decide) (by omega)) ?_
        rintro o r ⟨n4, hn4, ho, rfl⟩
        cases ho
        conv => whnf
        rcases (show n4 = 0 ∨ n4 = 1 ∨ n4 = 2 ∨ n4 = 3 by omega) with rfl | rfl | rfl | rfl
        · (refine goA ?_; try with_reducible exact trivial)
          refine ⟨.mk 1 n16 b3 0 [], i + 1 + 1 + 1 + 1 + 1, .var (by omega) (by omega) (by omega), by omega, by omega, rfl, .inr ⟨rfl, rfl⟩⟩
        · (refine goA ?_; try with_reducible exact trivial)
          refine ⟨.mk 1 n16 b3 2147483647 [], i + 1 + 1 + 1 + 1 + 1, .var (by omega) (by omega) (by omega), by omega, by omega, rfl, .inr ⟨rfl, rfl⟩⟩
        · (refine goA ?_; try with_reducible exact trivial)
          refine ⟨.mk 1 n16 b3 (-2147483647) [], i + 1 + 1 + 1 + 1 + 1, .var (by omega) (by omega) (by omega), by omega, by omega, rfl, .inr ⟨rfl, rfl⟩⟩
        · (refine goA ?_; try with_reducible exact trivial)
          refine ⟨.mk 1 n16 b3 10 [], i + 1 + 1 + 1 + 1 + 1, .var (by omega) (by omega) (by omega), by omega, by omega, rfl, .inr ⟨rfl, rfl⟩⟩
    by_cases h4 : n = 4
    · (refine goA ?_; try with_reducible exact trivial)
      have hd1 := ih
      (refine goA ?_; try with_reducible exact trivial)
      refine call1 0 [] rfl rfl rfl rfl (fun _ => hd1 (i + 1) (by omega)) ?_
      rintro o r ⟨f, i', hf, hi1, hi2, ho, rfl⟩
      cases ho
      conv => whnf
      refine ⟨.mk 2 0 0 0 [f], i', ?_, by omega, by omega, rfl, .inl ?_⟩
      · rw [hde]; exact .un (by omega) hf
      · rw [fmA_mk, fmsA_cons, fmsA_nil, List.append_nil]; rfl
    by_cases h5 : n = 5
    · (refine goA ?_; try with_reducible exact trivial)
      have hd1 := ih
      (refine goA ?_; try with_reducible exact trivial)
      refine call1 0 [] rfl rfl rfl rfl (fun _ => hd1 (i + 1) (by omega)) ?_
      rintro o r ⟨f, i', hf, hi1, hi2, ho, rfl⟩
      cases ho
      conv => whnf
      refine ⟨.mk 5 0 0 0 [f], i', ?_, by omega, by omega, rfl, .inl ?_⟩
      · rw [hde]; exact .un (by omega) hf
      · rw [fmA_mk, fmsA_cons, fmsA_nil, List.append_nil]; rfl
    by_cases h6 : n = 6
    · (refine goA ?_; try with_reducible exact trivial)
      have hd1 := ih
      (refine goA ?_; try with_reducible exact trivial)
      refine call1 0 [] rfl rfl rfl rfl (fun _ => hd1 (i + 1) (by omega)) ?_
      rintro o r ⟨f, i', hf, hi1, hi2, ho, rfl⟩
      cases ho
      conv => whnf
      refine ⟨.mk 7 0 0 0 [f], i', ?_, by omega, by omega, rfl, .inl ?_⟩
      · rw [hde]; exact .un (by omega) hf
      · rw [fmA_mk, fmsA_cons, fmsA_nil, List.append_nil]; rfl
    by_cases h7 : n = 7
    · (refine goA ?_; try with_reducible exact trivial)
      have hd1 := ih
      (refine goA ?_; try with_reducible exact trivial)
      refine call1 0 [] rfl rfl rfl rfl (fun _ => hd1 (i + 1) (by omega)) ?_
      rintro o r ⟨f, i', hf, hi1, hi2, ho, rfl⟩
      cases ho
      conv => whnf
      refine ⟨.mk 7 0 0 0 [f], i', ?_, by omega, by omega, rfl, .inl ?_⟩
      · rw [hde]; exact .un (by omega) hf
      · rw [fmA_mk, fmsA_cons, fmsA_nil, List.append_nil]; rfl
    by_cases h8 : n = 8
    · (refine goA ?_; try with_reducible exact trivial)
      have hd1 := ih
      (refine goA ?_; try with_reducible exact trivial)
      refine call1 0 [] rfl rfl rfl rfl (fun _ => hd1 (i + 1) (by omega)) ?_
      rintro o r ⟨f, i', hf, hi1, hi2, ho, rfl⟩
      cases ho
      conv => whnf
      refine ⟨.mk 8 0 0 0 [f], i', ?_, by omega, by omega, rfl, .inl ?_⟩
      · rw [hde]; exact .un (by omega) hf
      · rw [fmA_mk, fmsA_cons, fmsA_nil, List.append_nil]; rfl
    by_cases h9 : n = 9
    · have hd1 := ih
      (refine goA ?_; try with_reducible exact trivial)
      refine call1 0 [] rfl rfl rfl rfl (fun _ => hd1 (i + 1) (by omega)) ?_
      rintro o r ⟨f, i', hf, hi1, hi2, ho, rfl⟩
      cases ho
      conv => whnf
      (refine goA ?_; try with_reducible exact trivial)
      refine call1 0 [] rfl rfl rfl rfl (fun _ => hd1 i' (by omega)) ?_
      rintro o r ⟨g, i2, hg, hi3, hi4, ho, rfl⟩
      cases ho
      conv => whnf
      (refine call0 [] rfl (fun _ => rBoth 6 f g) ?_; rintro r rfl; conv => whnf)
      refine ⟨.mk 6 0 0 0 [f, g], i2, ?_, by omega, by omega, rfl, .inl rfl⟩
      rw [hde]; exact .til hf hg
    have hd1 := ih
    have en : ((n : Int)).tmod 2 = ((n % 2 : Nat) : Int) := tmod_nat n 2 (by decide)
    (refine goA ?_; try with_reducible exact trivial)
    rw [en]
    rcases (show n % 2 = 0 ∨ n % 2 = 1 by omega) with h10 | h10
    · rw [h10]
      conv => whnf
      (refine goA ?_; try with_reducible exact trivial)
      refine call1 0 [] rfl rfl rfl rfl (fun _ => gpick_spec l (i + 1) 2 (by decide) (by omega)) ?_
      rintro o r ⟨n2, hn2, ho, rfl⟩
      cases ho
      conv => whnf
      (refine goA ?_; try with_reducible exact trivial)
      refine loop_row 25 5 [] [(2, 4)] ?_
      conv => whnf
      refine ⟨trivial, ?_⟩
      conv => whnf
      refine loop_keep [0, 1, 4, 7] ?_
      conv => whnf
      refine loop_goQ (fun x : Nat × List Fm × Nat => [(8, .v (.int .i64 x.1))]) (fun x => [bxG l x.2.2, [intA 0, intA 0, intA 0, intA 0, .v (.slice none 0 0)], [intA 3, intA 0, intA 0, intA 0, .own 1]]) (fun x => [.live 3 1 2 [intA 3, intA 4], .live 25 5 x.2.1.length (fmsA x.2.1)]) (fun x => x.1 + x.2.1.length = 2 + n2 ∧ (∀ f ∈ x.2.1, Gf e f) ∧ i ≤ x.2.2 ∧ x.2.2 ≤ i + 2 + x.2.1.length * (5 * Q)) (fun x => x.1) (2 + n2, [], i + 1 + 1) ?_ ⟨rfl, by simp, by simp only; omega, by simp only [List.length_nil]; omega⟩ ?_
      · unfold headQ
        repeat' constructor
        · show [_, Row.live _ _ _ _] = [_, Row.live _ _ _ _]
          rw [fmsA_nil]; rfl
      · rintro ⟨m, acc, i'⟩ ⟨hm, hacc, hi1, hi2⟩
        simp only at hm hacc hi1 hi2
        conv => whnf
        by_cases hm0 : m = 0
        · (refine goA ?_; try with_reducible exact trivial)
          refine ⟨.mk 3 0 0 0 acc, i', ?_, by omega, ?_, rfl, .inl rfl⟩
          · rw [hde]; exact .jn (by simp) (by omega) hacc
          · have := Nat.mul_le_mul_right (5 * Q) (show acc.length ≤ 3 by omega)
            omega
        · have hmu := Nat.mul_le_mul_right (5 * Q) (show acc.length ≤ 2 by omega)
          have hspec := hd1 i' (by omega)
          (refine goA ?_; try with_reducible exact trivial)
          refine call1 0 [] rfl rfl rfl rfl (fun _ => hspec) ?_
          rintro o r ⟨f, i2, hf, hi3, hi4, ho, rfl⟩
          cases ho
          conv => whnf
          refine ⟨⟨by simp only; unfold maxLen; omega, by simp only; omega⟩, ?_⟩
          conv => whnf
          (refine goA ?_; try with_reducible exact trivial)
          refine ⟨(m - 1, acc ++ [f], i2), le_head ?_, ⟨by simp only [List.length_append, List.length_cons, List.length_nil]; omega, ?_, by simp only; omega, ?_⟩, by simp only; omega⟩
          · repeat' constructor
            · show A.v (.int .i64 ((m : Int) - 1)) = A.v (.int .i64 ((m - 1 : Nat) : Int))
              rw [show ((m - 1 : Nat) : Int) = (m : Int) - 1 by omega]
            · simp only [List.length_append, List.length_cons, List.length_nil]
              rw [fmsA_snoc]; rfl
          · intro g hg
            rcases List.mem_append.1 hg with hg | hg
            · exact hacc g hg
            · rw [List.mem_singleton.1 hg]; exact hf
          · simp only [List.length_append, List.length_cons, List.length_nil]
            rw [Nat.add_mul]
            omega
    · rw [h10]
      conv => whnf
      (refine goA ?_; try with_reducible exact trivial)
      refine call1 0 [] rfl rfl rfl rfl (fun _ => gpick_spec l (i + 1) 2 (by decide) (by omega)) ?_
      rintro o r ⟨n2, hn2, ho, rfl⟩
      cases ho
      conv => whnf
      (refine goA ?_; try with_reducible exact trivial)
      refine loop_row 25 5 [] [(2, 4)] ?_
      conv => whnf
      refine ⟨trivial, ?_⟩
      conv => whnf
      refine loop_keep [0, 1, 4, 7] ?_
      conv => whnf
      refine loop_goQ (fun x : Nat × List Fm × Nat => [(8, .v (.int .i64 x.1))]) (fun x => [bxG l x.2.2, [intA 0, intA 0, intA 0, intA 0, .v (.slice none 0 0)], [intA 4, intA 0, intA 0, intA 0, .own 1]]) (fun x => [.live 3 1 2 [intA 3, intA 4], .live 25 5 x.2.1.length (fmsA x.2.1)]) (fun x => x.1 + x.2.1.length = 2 + n2 ∧ (∀ f ∈ x.2.1, Gf e f) ∧ i ≤ x.2.2 ∧ x.2.2 ≤ i + 2 + x.2.1.length * (5 * Q)) (fun x => x.1) (2 + n2, [], i + 1 + 1) ?_ ⟨rfl, by simp, by simp only; omega, by simp only [List.length_nil]; omega⟩ ?_
      · unfold headQ
        repeat' constructor
        · show [_, Row.live _ _ _ _] = [_, Row.live _ _ _ _]
          rw [fmsA_nil]; rfl
      · rintro ⟨m, acc, i'⟩ ⟨hm, hacc, hi1, hi2⟩
        simp only at hm hacc hi1 hi2
        conv => whnf
        by_cases hm0 : m = 0
        · (refine goA ?_; try with_reducible exact trivial)
          refine ⟨.mk 4 0 0 0 acc, i', ?_, by omega, ?_, rfl, .inl rfl⟩
          · rw [hde]; exact .jn (by simp) (by omega) hacc
          · have := Nat.mul_le_mul_right (5 * Q) (show acc.length ≤ 3 by omega)
            omega
        · have hmu := Nat.mul_le_mul_right (5 * Q) (show acc.length ≤ 2 by omega)
          have hspec := hd1 i' (by omega)
          (refine goA ?_; try with_reducible exact trivial)
          refine call1 0 [] rfl rfl rfl rfl (fun _ => hspec) ?_
          rintro o r ⟨f, i2, hf, hi3, hi4, ho, rfl⟩
          cases ho
          conv => whnf
          refine ⟨⟨by simp only; unfold maxLen; omega, by simp only; omega⟩, ?_⟩
          conv => whnf
          (refine goA ?_; try with_reducible exact trivial)
          refine ⟨(m - 1, acc ++ [f], i2), le_head ?_, ⟨by simp only [List.length_append, List.length_cons, List.length_nil]; omega, ?_, by simp only; omega, ?_⟩, by simp only; omega⟩
          · repeat' constructor
            · show A.v (.int .i64 ((m : Int) - 1)) = A.v (.int .i64 ((m - 1 : Nat) : Int))
              rw [show ((m - 1 : Nat) : Int) = (m : Int) - 1 by omega]
            · simp only [List.length_append, List.length_cons, List.length_nil]
              rw [fmsA_snoc]; rfl
          · intro g hg
            rcases List.mem_append.1 hg with hg | hg
            · exact hacc g hg
            · rw [List.mem_singleton.1 hg]; exact hf
          · simp only [List.length_append, List.length_cons, List.length_nil]
            rw [Nat.add_mul]
            omega
theorem gen_spec (l : List Int) : ∀ d, d ≤ 1000 → GenSpec l d := fun d hd i hi => by
  have h : Spec Tryd.prog 28 [bxG l i] [.box 0 0, .v (.int .i64 d)] fun o r => ∃ f i', Gf d f ∧ i ≤ i' ∧ i' ≤ i + 5 * 4 ^ d ∧ o = [bxG l i'] ∧ (r = .agg (fmA f) ∨ (f.kids = [] ∧ r = .agg (raw0 f))) := by
    match d, hd, hi with
    | 0, hd, hi => exact gen_raw l 0 0 1 1 hd (by omega) (by omega) (by omega) (by omega) (fun h => by omega) i hi
    | d + 1, hd, hi =>
      refine gen_raw l (d + 1) d (4 ^ (d + 1)) (4 ^ d) hd (by omega) (fun _ => by rw [Nat.pow_succ, Nat.mul_comm]) (Nat.pos_of_ne_zero (by simp)) (Nat.pos_of_ne_zero (by simp)) (fun _ i hi => ?_) i hi
      have := gen_spec l d (by omega) i hi
      rwa [show ((d + 1 : Nat) : Int) - 1 = (d : Int) by omega]
  refine h.weaken fun o r k => ?_
  obtain ⟨f, i', h1, h2, h3, rfl, h4⟩ := k
  rcases h4 with rfl | ⟨h4, rfl⟩
  · exact ⟨_, _, ⟨f, i', h1, h2, h3, rfl, rfl⟩, .refl _, .refl _⟩
  · exact ⟨_, _, ⟨f, i', h1, h2, h3, rfl, rfl⟩, .refl _, .agg (raw0_wk h4)⟩
end Go.Proofs.YtpjcbadnpknncaaDoor.Vm
/- A contract whose result is an own row, told as one whose row is given up. -/
namespace Go.Proofs.YtpjcbadnpknncaaDoor.Vm
open Go.RowKit
set_option linter.unusedSimpArgs false
set_option linter.unusedVariables false
mutual
def pubA (k n : Nat) (cs : List A) : A → A
  | .own _ => .sl k n cs
  | .orow _ _ => .dead
  | .clo f caps => .clo f (pubL k n cs caps)
  | .bm f fs => .bm f (pubL k n cs fs)
  | .mp ks vs => .mp ks vs
  | .agg l => .agg (pubL k n cs l)
  | .tup l => .tup (pubL k n cs l)
  | .box _ _ => .dead
  | .gp g o => .gp g o
  | .err => .err
  | .dead => .dead
  | .v x => .v x
  | .sl k n cs => .sl k n cs
  | .pp cs => .pp cs
def pubL (k n : Nat) (cs : List A) : List A → List A
  | [] => []
  | a :: r => pubA k n cs a :: pubL k n cs r
end
section
variable {C D : Rd} {y : Value} {k n : Nat} {cs : List A}
mutual
theorem pubA_rep (hs : Sub C D) (hy : (A.sl k n cs).rep ⟨D, [], []⟩ y) : ∀ (a : A) {v : Value}, a.rep ⟨C, [], [y]⟩ v → (pubA k n cs a).rep ⟨D, [], []⟩ v
  | .dead, v, h => by unfold pubA; exact A.rep_dead _ _
  | .v x, v, h => by unfold pubA; unfold A.rep at h ⊢; exact h
  | .sl k n cs, v, h => by
    unfold pubA
    have h2 : (A.sl k n cs).rep ⟨C, [], []⟩ v := by unfold A.rep at h ⊢; exact h
    exact A.rep.mono _ (E := ⟨C, [], []⟩) (F := ⟨D, [], []⟩) ⟨hs, fun _ _ h => h, fun _ _ h => h⟩ h2
  | .pp cs, v, h => by
    unfold pubA
    have h2 : (A.pp cs).rep ⟨C, [], []⟩ v := by unfold A.rep at h ⊢; exact h
    exact A.rep.mono _ (E := ⟨C, [], []⟩) (F := ⟨D, [], []⟩) ⟨hs, fun _ _ h => h, fun _ _ h => h⟩ h2
  | .own j, v, h => by
    unfold pubA
    unfold A.rep at h
    cases j with
    | zero => simp at h; subst h; exact hy
    | succ j => simp at h
  | .orow j o, v, h => by unfold pubA; exact A.rep_dead _ _
  | .box j o, v, h => by unfold pubA; exact A.rep_dead _ _
  | .gp _ _, v, h => by unfold pubA; unfold A.rep at h ⊢; exact h
  | .err, v, h => by unfold pubA; unfold A.rep at h ⊢; exact h
  | .clo f caps, v, h => by
    unfold pubA; unfold A.rep at h ⊢
    obtain ⟨us, h1, h2⟩ := h
    exact ⟨us, h1, pubL_rep hs hy caps h2⟩
  | .bm f fs, v, h => by
    unfold pubA; unfold A.rep at h ⊢
    obtain ⟨us, h1, h2⟩ := h
    exact ⟨us, h1, pubL_rep hs hy fs h2⟩
  | .mp ks vs, v, h => by
    unfold pubA
    have h2 : (A.mp ks vs).rep ⟨C, [], []⟩ v := by unfold A.rep at h ⊢; exact h
    exact A.rep.mono _ (E := ⟨C, [], []⟩) (F := ⟨D, [], []⟩) ⟨hs, fun _ _ h => h, fun _ _ h => h⟩ h2
  | .agg l, v, h => by
    unfold pubA; unfold A.rep at h ⊢
    obtain ⟨us, h1, h2⟩ := h
    exact ⟨us, h1, A.repC_mk (pubL_rep hs hy l (A.repC_L h2)) (A.repC_one h2)⟩
  | .tup l, v, h => by
    unfold pubA; unfold A.rep at h ⊢
    obtain ⟨us, h1, h2⟩ := h
    exact ⟨us, h1, pubL_rep hs hy l h2⟩
theorem pubL_rep (hs : Sub C D) (hy : (A.sl k n cs).rep ⟨D, [], []⟩ y) : ∀ (l : List A) {us : List Value}, A.repL l ⟨C, [], [y]⟩ us → A.repL (pubL k n cs l) ⟨D, [], []⟩ us
  | [], us, h => by unfold pubL; unfold A.repL at h ⊢; exact h
  | a :: r, us, h => by
    unfold pubL; unfold A.repL at h ⊢
    obtain ⟨u, us', rfl, h1, h2⟩ := h
    exact ⟨u, us', rfl, pubA_rep hs hy a h1, pubL_rep hs hy r h2⟩
end
end
theorem own_sl {w : World} {base e k n : Nat} {y : Value} {xs : List Value} {cs : List A} {D : Rd} (h : w.ownsRow base e k y n xs) (hr : A.repC cs ⟨D, [], []⟩ xs) (hD : ∀ b, y.ownBlock = some b → ∀ o u, w.cell? ⟨b, o, none⟩ = some u → D ⟨b, o, none⟩ = some u) : (A.sl k n cs).rep ⟨D, [], []⟩ y := by
  have hlen : cs.length = n * k := by rw [← A.repC_len hr, h.1]
  rcases h.2 with ⟨rfl, rfl⟩ | ⟨b, cap, cur, rfl, hb, hbb, hn, hcm, hcs, htake⟩
  · unfold A.rep
    have hcs : cs = [] := List.eq_nil_of_length_eq_zero (by simpa using hlen)
    subst hcs
    exact ⟨by simp, by simp, none, 0, 0, 0, rfl, Nat.le_refl _, .inl rfl, fun _ => rfl, by simp [A.repAt]⟩
  · unfold A.rep
    refine ⟨hlen, Nat.le_trans hn hcm, _, b, 0, cap, rfl, hn, .inr rfl, by simp, ?_⟩
    refine A.repAt_mk (E := ⟨D, [], []⟩) hr (fun j' u hu => ?_)
    have := h.cells (g := b) rfl j' u hu
    rw [add_at] at this
    exact hD b rfl _ u this
theorem SpecF.pub {P : Program} {f : Nat} {args : List A} {post : Nat → Nat → Nat → List A → A → Prop} (h : SpecF P f args post) : Spec P f [] args fun _ r => ∃ e k n cs r0, post e k n cs r0 ∧ r = pubA k n cs r0 := by
  refine ⟨h.1, fun w C β vals h0 h1 h2 h3 h4 h5 h6 => ?_⟩
  have hβ : β = [] := List.eq_nil_of_length_eq_zero (by simpa using h4.symm)
  subst hβ
  refine (h.2 w C vals h0 h1 h6).mono ?_
  rintro e w' ⟨et, k, n, cs, r, v, y, xs, C', rfl, hpost, kp, hC, hC', hnew, hnone, hown, hrep, hr⟩
  have hs : Sub C' (plus C w w') := fun ad u hc => by
    unfold plus
    split
    · rename_i hlt
      rcases hnew ad u hc with h7 | h7
      · exact h7
      · omega
    · exact hC' ad u hc
  refine ⟨[], _, v, rfl, ⟨et, k, n, cs, r, hpost, rfl⟩, kp, rfl, fun i b cs hb => by simp at hb, pubA_rep hs ?_ r hr⟩
  refine own_sl hown (A.repC.mono cs (E := ⟨C', [], []⟩) (F := ⟨plus C w w', [], []⟩) ⟨hs, fun _ _ h => h, fun _ _ h => h⟩ hrep) fun b hb o u hc => ?_
  have hlt := (hown.lt b hb).1
  show plus C w w' ⟨b, o, none⟩ = some u
  unfold plus
  rw [if_neg (by simp only; omega)]
  exact hc
end Go.Proofs.YtpjcbadnpknncaaDoor.Vm
/- The generators: Formula, Trace, Ints. -/
namespace Go.Proofs.YtpjcbadnpknncaaDoor.Vm
open Go.RowKit Go.Shelf
set_option linter.unusedSimpArgs false
set_option linter.unusedVariables false
set_option maxRecDepth 100000
theorem rFormula (l : List Int) : Spec Tryd.prog 10 [] [.sl 1 l.length (intsA l)] fun _ r => ∃ f, Gf 3 f ∧ r = .agg (fmA f) := by
  have h := gen_spec l 3 (by omega) 0 (by decide)
  unfold bxG at h
  refine spec_of (cx_ok ord0 xs0 0) (fun _ _ h => h) Tryd.func10 rfl (by kernel_rfl) rfl (by kernel_rfl) ?_
  intro hok
  conv => whnf
  refine call1 1 [] rfl rfl rfl rfl (fun _ => h) ?_
  rintro o r ⟨f, i', hf, _, _, ho, rfl⟩
  cases ho
  conv => whnf
  exact ⟨f, hf, rfl⟩
theorem trA_snoc (T : List (List Int)) (v : List Int) : trA (T ++ [v]) = trA T ++ [.sl 1 v.length (intsA v)] := by simp [trA]
set_option maxHeartbeats 1000000 in
theorem trace_specF (l : List Int) (most : Nat) (hm : most ≤ 1000) : SpecF Tryd.prog 11 [.sl 1 l.length (intsA l), .v (.int .i64 most)] fun e k n cs r => ∃ T : List (List Int), T.length ≤ most ∧ e = 22 ∧ k = 1 ∧ n = T.length ∧ cs = trA T ∧ r = .own 0 := by
  refine specF_of (cx_ok ord0 xs0 0) (fun _ _ h => h) Tryd.func11 rfl (by kernel_rfl) rfl (by kernel_rfl) ?_
  intro hok
  conv => whnf
  refine loop_row 22 1 [5] [] ?_
  conv => whnf
  refine ⟨trivial, ?_⟩
  conv => whnf
  refine loop_keep [0, 1, 5] ?_
  conv => whnf
  refine loop_goQ (fun x : Nat × List (List Int) => [(6, .v (.int .i64 x.1))]) (fun _ => []) (fun x => [.live 22 1 x.2.length (trA x.2)]) (fun x => x.1 ≤ l.length ∧ x.1 ≤ most ∧ x.2.length = x.1) (fun x => most - x.1) (0, []) ?_ ⟨Nat.zero_le _, Nat.zero_le _, rfl⟩ ?_
  · unfold headQ
    repeat' constructor
  · rintro ⟨i, T⟩ ⟨h1, h2, h3⟩
    simp only at h1 h2 h3
    conv => whnf
    by_cases hlt : i < l.length
    · (refine goA ?_; try with_reducible exact trivial)
      by_cases hlm : i < most
      · have hr := rowOf_ints l i hlt
        generalize l[i] = x at *
        (refine goA ?_; try with_reducible exact trivial)
        (generalize hrq : rowOf _ _ (intsA l) = rq; obtain rfl : rq = [intA x] := hrq.symm.trans (hr); clear hrq; conv => whnf)
        refine call0 [] rfl (fun _ => around_spec x 1000000 (by omega)) ?_
        rintro r ⟨hx, rfl⟩
        have hr := aroundF_rng hx (m := 1000000) (by omega)
        obtain ⟨k, hk⟩ : ∃ k : Nat, aroundF x 1000000 = (k : Int) := ⟨(aroundF x 1000000).toNat, by omega⟩
        rw [hk] at hr ⊢
        have e1 : ((k : Int)).tmod 4 = ((k % 4 : Nat) : Int) := tmod_nat k 4 (by decide)
        have e2 : ((k : Int)).tdiv 4 = ((k / 4 : Nat) : Int) := tdiv_nat k 4 (by decide)
        have e3 : (((k / 4 : Nat) : Int)).tmod 4 = ((k / 4 % 4 : Nat) : Int) := tmod_nat _ 4 (by decide)
        have e4 : ((k : Int)).tdiv 16 = ((k / 16 : Nat) : Int) := tdiv_nat k 16 (by decide)
        have e5 : (((k / 16 : Nat) : Int)).tmod 4 = ((k / 16 % 4 : Nat) : Int) := tmod_nat _ 4 (by decide)
        have e6 : ((k : Int)).tdiv 64 = ((k / 64 : Nat) : Int) := tdiv_nat k 64 (by decide)
        have e7 : (((k / 64 : Nat) : Int)).tmod 8 = ((k / 64 % 8 : Nat) : Int) := tmod_nat _ 8 (by decide)
        conv => whnf
        rw [e1]
        (refine goA ?_; try with_reducible exact trivial)
        rw [e2, e3]
        (refine goA ?_; try with_reducible exact trivial)
        rw [e4, e5]
        (refine goA ?_; try with_reducible exact trivial)
        rw [e6, e7]
        generalize ((k % 4 : Nat) : Int) - 1 = va at *
        generalize ((k / 4 % 4 : Nat) : Int) - 1 = vb at *
        generalize ((k / 16 % 4 : Nat) : Int) - 1 = vc at *
        generalize k / 64 % 8 = q at *
        obtain ⟨m, hm3, em⟩ : ∃ m : Nat, m ≤ 3 ∧ min (3 : Int) (q : Int) = (m : Int) := ⟨min 3 q, by omega, by omega⟩
        (refine goA ?_; try with_reducible exact trivial)
        rw [em]
        rcases (show m = 0 ∨ m = 1 ∨ m = 2 ∨ m = 3 by omega) with rfl | rfl | rfl | rfl
        · refine ⟨⟨by simp only; unfold maxLen; omega, by simp only; omega⟩, ?_⟩
          conv => whnf
          (refine goA ?_; try with_reducible exact trivial)
          refine ⟨(i + 1, T ++ [[]]), le_head ?_, ⟨by simp only; omega, by simp only; omega, by simp only [List.length_append, List.length_cons, List.length_nil]; omega⟩, by simp only; omega⟩
          repeat' constructor
          · simp only [List.length_append, List.length_cons, List.length_nil]
            rw [trA_snoc]; rfl
        · refine ⟨⟨by simp only; unfold maxLen; omega, by simp only; omega⟩, ?_⟩
          conv => whnf
          (refine goA ?_; try with_reducible exact trivial)
          refine ⟨(i + 1, T ++ [[va]]), le_head ?_, ⟨by simp only; omega, by simp only; omega, by simp only [List.length_append, List.length_cons, List.length_nil]; omega⟩, by simp only; omega⟩
          repeat' constructor
          · simp only [List.length_append, List.length_cons, List.length_nil]
            rw [trA_snoc]; rfl
        · refine ⟨⟨by simp only; unfold maxLen; omega, by simp only; omega⟩, ?_⟩
          conv => whnf
          (refine goA ?_; try with_reducible exact trivial)
          refine ⟨(i + 1, T ++ [[va, vb]]), le_head ?_, ⟨by simp only; omega, by simp only; omega, by simp only [List.length_append, List.length_cons, List.length_nil]; omega⟩, by simp only; omega⟩
          repeat' constructor
          · simp only [List.length_append, List.length_cons, List.length_nil]
            rw [trA_snoc]; rfl
        · refine ⟨⟨by simp only; unfold maxLen; omega, by simp only; omega⟩, ?_⟩
          conv => whnf
          (refine goA ?_; try with_reducible exact trivial)
          refine ⟨(i + 1, T ++ [[va, vb, vc]]), le_head ?_, ⟨by simp only; omega, by simp only; omega, by simp only [List.length_append, List.length_cons, List.length_nil]; omega⟩, by simp only; omega⟩
          repeat' constructor
          · simp only [List.length_append, List.length_cons, List.length_nil]
            rw [trA_snoc]; rfl
      · (refine goA ?_; try with_reducible exact trivial)
        refine ⟨0, ?_⟩
        conv => whnf
        exact ⟨T, by omega, rfl, rfl, rfl, rfl, rfl⟩
    · (refine goA ?_; try with_reducible exact trivial)
      refine ⟨0, ?_⟩
      conv => whnf
      exact ⟨T, by omega, rfl, rfl, rfl, rfl, rfl⟩
theorem rTrace (l : List Int) (most : Nat) (hm : most ≤ 1000) : Spec Tryd.prog 11 [] [.sl 1 l.length (intsA l), .v (.int .i64 most)] fun _ r => ∃ T : List (List Int), T.length ≤ most ∧ r = .sl 1 T.length (trA T) :=
  (SpecF.pub (trace_specF l most hm)).weaken fun o r k => by
    obtain ⟨e, k, n, cs, r0, ⟨T, h1, rfl, rfl, rfl, rfl, rfl⟩, rfl⟩ := k
    exact ⟨o, _, ⟨T, h1, rfl⟩, .refl o, .refl _⟩
theorem rInts (l : List Int) (most : Nat) (hm : most ≤ 1000) : Spec Tryd.prog 12 [] [.sl 1 l.length (intsA l), .v (.int .i64 most)] fun _ r => r = .sl 1 (l.take most).length (intsA (l.take most)) := by
  refine spec_of (cx_ok ord0 xs0 0) (fun _ _ h => h) Tryd.func12 rfl (by kernel_rfl) rfl (by kernel_rfl) ?_
  intro hok
  have e1 : (min (l.length : Int) (most : Int)).toNat - Int.toNat 0 = (l.take most).length := by rw [List.length_take]; omega
  have e2 : List.take ((l.take most).length * 1) (List.drop (Int.toNat 0 * 1) (intsA l)) = intsA (l.take most) := by
    rw [Nat.mul_one, List.length_take]
    simp only [intsA, Int.toNat_zero, Nat.zero_mul, List.drop_zero]
    rw [← List.map_take]
    congr 1
    rcases Nat.le_total most l.length with h | h
    · rw [Nat.min_eq_left h]
    · rw [Nat.min_eq_right h, List.take_of_length_le h, List.take_of_length_le (Nat.le_refl _)]
  have e3 : (l.take most).length ≤ most := by rw [List.length_take]; omega
  conv => whnf
  (refine goA ?_; try with_reducible exact trivial)
  rw [e1, e2]
  generalize l.take most = L at *
  refine ⟨⟨by unfold maxLen; omega, by omega⟩, ?_⟩
  conv => whnf
  rfl
end Go.Proofs.YtpjcbadnpknncaaDoor.Vm
/- The plain law: meanings, simplified formulas. -/
namespace Go.Proofs.YtpjcbadnpknncaaDoor.Vm
open Go.RowKit Go.Shelf
set_option linter.unusedSimpArgs false
set_option linter.unusedVariables false
set_option maxRecDepth 100000
/-! ### Meanings -/
def minL : List Int → Int
  | [] => 1
  | x :: l => min x (minL l)
def maxL : List Int → Int
  | [] => -1
  | x :: l => max x (maxL l)
theorem minL_app (l m : List Int) (hm : ∀ x ∈ l, x ≤ 1) : minL (l ++ m) = min (minL l) (minL m) := by
  induction l with
  | nil =>
    simp only [List.nil_append, minL]
    have : minL m ≤ 1 := by
      clear hm
      induction m with
      | nil => simp [minL]
      | cons x m ih => simp only [minL]; omega
    omega
  | cons x l ih =>
    have := ih fun y hy => hm y (by simp [hy])
    simp only [List.cons_append, minL]
    omega
theorem minL_le (l : List Int) : minL l ≤ 1 := by
  induction l with
  | nil => simp [minL]
  | cons x m ih => simp only [minL]; omega
theorem maxL_ge (l : List Int) : -1 ≤ maxL l := by
  induction l with
  | nil => simp [maxL]
  | cons x m ih => simp only [maxL]; omega
theorem minL_ge {l : List Int} (h : ∀ x ∈ l, -1 ≤ x) : -1 ≤ minL l := by
  induction l with
  | nil => simp [minL]
  | cons x m ih => simp only [minL]; have := h x (by simp); have := ih fun y hy => h y (by simp [hy]); omega
theorem maxL_le {l : List Int} (h : ∀ x ∈ l, x ≤ 1) : maxL l ≤ 1 := by
  induction l with
  | nil => simp [maxL]
  | cons x m ih => simp only [maxL]; have := h x (by simp); have := ih fun y hy => h y (by simp [hy]); omega
theorem minL_mem {l : List Int} {x : Int} (h : x ∈ l) : minL l ≤ x := by
  induction l with
  | nil => cases h
  | cons y m ih =>
    simp only [minL]
    rcases List.mem_cons.1 h with rfl | h
    · omega
    · have := ih h; omega
theorem maxL_mem {l : List Int} {x : Int} (h : x ∈ l) : x ≤ maxL l := by
  induction l with
  | nil => cases h
  | cons y m ih =>
    simp only [maxL]
    rcases List.mem_cons.1 h with rfl | h
    · omega
    · have := ih h; omega
theorem minL_glb {l : List Int} {c : Int} (hc : c ≤ 1) (h : ∀ x ∈ l, c ≤ x) : c ≤ minL l := by
  induction l with
  | nil => simpa [minL] using hc
  | cons y m ih => simp only [minL]; have := h y (by simp); have := ih fun x hx => h x (by simp [hx]); omega
theorem maxL_lub {l : List Int} {c : Int} (hc : -1 ≤ c) (h : ∀ x ∈ l, x ≤ c) : maxL l ≤ c := by
  induction l with
  | nil => simpa [maxL] using hc
  | cons y m ih => simp only [maxL]; have := h y (by simp); have := ih fun x hx => h x (by simp [hx]); omega
theorem minL_same {l m : List Int} (h1 : ∀ x ∈ l, minL m ≤ x) (h2 : ∀ x ∈ m, minL l ≤ x) : minL l = minL m := by
  have := minL_glb (minL_le l) h2
  have := minL_glb (minL_le m) h1
  omega
theorem maxL_same {l m : List Int} (h1 : ∀ x ∈ l, x ≤ maxL m) (h2 : ∀ x ∈ m, x ≤ maxL l) : maxL l = maxL m := by
  have := maxL_lub (maxL_ge l) h2
  have := maxL_lub (maxL_ge m) h1
  omega
/-- A meaning: of what joins and negates. -/
structure Sem (E : Fm → Int) : Prop where
  lo : ∀ f, Wf f → -1 ≤ E f
  hi : ∀ f, Wf f → E f ≤ 1
  and : ∀ l, (∀ f ∈ l, Wf f) → E (.mk 3 0 0 0 l) = minL (l.map E)
  or : ∀ l, (∀ f ∈ l, Wf f) → E (.mk 4 0 0 0 l) = maxL (l.map E)
  not : ∀ f, Wf f → E (.mk 2 0 0 0 [f]) = - E f
theorem Sem.tt {E : Fm → Int} (h : Sem E) : E (constF true) = 1 := h.and [] (by simp)
theorem Sem.ff {E : Fm → Int} (h : Sem E) : E (constF false) = -1 := h.or [] (by simp)
theorem rGo_and {E : Fm → Int} (h : Sem E) : ∀ flat out : List Fm, (∀ f ∈ flat, Wf f) → (∀ f ∈ out, Wf f) → E (rGo 3 flat out) = min (minL (out.map E)) (minL (flat.map E))
  | [], out, _, ho => by
    unfold rGo finR
    have := minL_le (out.map E)
    split
    · have := h.hi _ (ho _ (List.mem_singleton_self _))
      simp only [List.map_cons, List.map_nil, minL]; omega
    · rw [h.and _ ho, List.map_nil]
      simp only [minL]; omega
  | f :: flat, out, hf, ho => by
    unfold rGo
    have hout : -1 ≤ minL (out.map E) := minL_ge fun x hx => by
      obtain ⟨g, hg, rfl⟩ := List.mem_map.1 hx
      exact h.lo g (ho g hg)
    have hfl : -1 ≤ minL (flat.map E) := minL_ge fun x hx => by
      obtain ⟨g, hg, rfl⟩ := List.mem_map.1 hx
      exact h.lo g (hf g (by simp [hg]))
    split
    · rename_i hop
      have := wf_opp (.inl rfl) (hf f (by simp)) hop
      have e : E f = -1 := by rw [this]; exact h.ff
      simp only [List.map_cons, minL]
      omega
    · rw [rGo_and h flat (addR out f) (fun g hg => hf g (by simp [hg])) (fun g hg => by
        rcases addR_mem.1 hg with hg | rfl
        · exact ho g hg
        · exact hf _ (by simp))]
      have e : minL ((addR out f).map E) = min (minL (out.map E)) (E f) := by
        have : minL ((addR out f).map E) = minL ((f :: out).map E) := by
          refine minL_same (fun x hx => ?_) fun x hx => ?_
          · obtain ⟨g, hg, rfl⟩ := List.mem_map.1 hx
            refine minL_mem (List.mem_map.2 ⟨g, ?_, rfl⟩)
            rcases addR_mem.1 hg with hg | rfl
            · simp [hg]
            · simp
          · obtain ⟨g, hg, rfl⟩ := List.mem_map.1 hx
            refine minL_mem (List.mem_map.2 ⟨g, ?_, rfl⟩)
            rw [addR_mem]
            rcases List.mem_cons.1 hg with rfl | hg
            · exact .inr rfl
            · exact .inl hg
        rw [this]
        simp only [List.map_cons, minL]
        omega
      rw [e]
      simp only [List.map_cons, minL]
      omega
theorem rGo_or {E : Fm → Int} (h : Sem E) : ∀ flat out : List Fm, (∀ f ∈ flat, Wf f) → (∀ f ∈ out, Wf f) → E (rGo 4 flat out) = max (maxL (out.map E)) (maxL (flat.map E))
  | [], out, _, ho => by
    unfold rGo finR
    have := maxL_ge (out.map E)
    split
    · have := h.lo _ (ho _ (List.mem_singleton_self _))
      simp only [List.map_cons, List.map_nil, maxL]; omega
    · rw [h.or _ ho, List.map_nil]
      simp only [maxL]; omega
  | f :: flat, out, hf, ho => by
    unfold rGo
    have hout : maxL (out.map E) ≤ 1 := maxL_le fun x hx => by
      obtain ⟨g, hg, rfl⟩ := List.mem_map.1 hx
      exact h.hi g (ho g hg)
    have hfl : maxL (flat.map E) ≤ 1 := maxL_le fun x hx => by
      obtain ⟨g, hg, rfl⟩ := List.mem_map.1 hx
      exact h.hi g (hf g (by simp [hg]))
    split
    · rename_i hop
      have := wf_opp (.inr rfl) (hf f (by simp)) hop
      have e : E f = 1 := by rw [this]; exact h.tt
      simp only [List.map_cons, maxL]
      omega
    · rw [rGo_or h flat (addR out f) (fun g hg => hf g (by simp [hg])) (fun g hg => by
        rcases addR_mem.1 hg with hg | rfl
        · exact ho g hg
        · exact hf _ (by simp))]
      have e : maxL ((addR out f).map E) = max (maxL (out.map E)) (E f) := by
        have : maxL ((addR out f).map E) = maxL ((f :: out).map E) := by
          refine maxL_same (fun x hx => ?_) fun x hx => ?_
          · obtain ⟨g, hg, rfl⟩ := List.mem_map.1 hx
            refine maxL_mem (List.mem_map.2 ⟨g, ?_, rfl⟩)
            rcases addR_mem.1 hg with hg | rfl
            · simp [hg]
            · simp
          · obtain ⟨g, hg, rfl⟩ := List.mem_map.1 hx
            refine maxL_mem (List.mem_map.2 ⟨g, ?_, rfl⟩)
            rw [addR_mem]
            rcases List.mem_cons.1 hg with rfl | hg
            · exact .inr rfl
            · exact .inl hg
        rw [this]
        simp only [List.map_cons, maxL]
        omega
      rw [e]
      simp only [List.map_cons, maxL]
      omega
theorem wf_and_kids {f : Fm} {k : Int} (hk : k = 3 ∨ k = 4) (h : Wf f) (h3 : f.k = k) : ∃ l, f = .mk k 0 0 0 l ∧ ∀ g ∈ l, Wf g := by
  cases h with
  | var => simp [Fm.k] at h3; omega
  | un hk => simp [Fm.k] at h3; omega
  | til => simp [Fm.k] at h3; omega
  | jn _ h =>
    simp only [Fm.k] at h3
    subst h3
    exact ⟨_, rfl, h⟩
theorem Sem.join3 {E : Fm → Int} (h : Sem E) {l : List Fm} (hw : ∀ f ∈ l, Wf f) : E (rjoinF 3 l) = minL (l.map E) := by
  unfold rjoinF
  rw [rGo_and h _ _ (wf_flat hw) (by simp)]
  have e : minL ((flatJ 3 l).map E) = minL (l.map E) := by
    induction l with
    | nil => rfl
    | cons f l ih =>
      rw [show flatJ 3 (f :: l) = partsF 3 f ++ flatJ 3 l from by unfold flatJ; rw [List.flatMap_cons], List.map_append, minL_app, ih fun g hg => hw g (by simp [hg])]
      · rw [List.map_cons]
        show _ = min (E f) (minL (l.map E))
        congr 1
        unfold partsF
        split
        · rename_i hk
          obtain ⟨m, rfl, hm⟩ := wf_and_kids (.inl rfl) (hw f (by simp)) hk
          rw [h.and m hm]
          rfl
        · have := h.hi f (hw f (by simp))
          simp only [List.map_cons, List.map_nil, minL]
          omega
      · intro x hx
        obtain ⟨g, hg, rfl⟩ := List.mem_map.1 hx
        exact h.hi g (wf_parts (hw f (by simp)) g hg)
  rw [e]
  have := minL_le (l.map E)
  simp only [List.map_nil, minL]
  omega
theorem maxL_app (l m : List Int) (hm : ∀ x ∈ l, -1 ≤ x) : maxL (l ++ m) = max (maxL l) (maxL m) := by
  induction l with
  | nil =>
    have := maxL_ge m
    simp only [List.nil_append, maxL]
    omega
  | cons x l ih =>
    have := ih fun y hy => hm y (by simp [hy])
    simp only [List.cons_append, maxL]
    omega
theorem Sem.join4 {E : Fm → Int} (h : Sem E) {l : List Fm} (hw : ∀ f ∈ l, Wf f) : E (rjoinF 4 l) = maxL (l.map E) := by
  unfold rjoinF
  rw [rGo_or h _ _ (wf_flat hw) (by simp)]
  have e : maxL ((flatJ 4 l).map E) = maxL (l.map E) := by
    induction l with
    | nil => rfl
    | cons f l ih =>
      rw [show flatJ 4 (f :: l) = partsF 4 f ++ flatJ 4 l from by unfold flatJ; rw [List.flatMap_cons], List.map_append, maxL_app, ih fun g hg => hw g (by simp [hg])]
      · rw [List.map_cons]
        show _ = max (E f) (maxL (l.map E))
        congr 1
        unfold partsF
        split
        · rename_i hk
          obtain ⟨m, rfl, hm⟩ := wf_and_kids (.inr rfl) (hw f (by simp)) hk
          rw [h.or m hm]
          rfl
        · have := h.lo f (hw f (by simp))
          simp only [List.map_cons, List.map_nil, maxL]
          omega
      · intro x hx
        obtain ⟨g, hg, rfl⟩ := List.mem_map.1 hx
        exact h.lo g (wf_parts (hw f (by simp)) g hg)
  rw [e]
  have := maxL_ge (l.map E)
  simp only [List.map_nil, maxL]
  omega
theorem Sem.neg {E : Fm → Int} (h : Sem E) {f : Fm} (hw : Wf f) : E (notF f) = - E f := by
  unfold notF
  split
  · rename_i hc
    rcases (isC_iff hw).1 hc with rfl | rfl
    · show E (constF false) = - E (constF true)
      rw [h.ff, h.tt]
    · show E (constF true) = - E (constF false)
      rw [h.ff, h.tt]
      rfl
  · split
    · rename_i h2
      cases hw with
      | var => simp [Fm.kids] at h2
      | un hk hx =>
        simp only [Fm.k] at h2
        rw [h2.1, h.not _ hx]
        simp [Fm.kids, g0]
      | til => simp [Fm.k] at h2
      | jn hk => simp [Fm.k] at h2; omega
    · exact h.not f hw
/-- From one position to the next. -/
structure Stp (v : List Int) (E E' : Fm → Int) : Prop where
  var : ∀ a b n, E (.mk 1 a b n []) = if cmpV b (atV v a) n = true then 1 else -1
  nx : ∀ f, E (.mk 5 0 0 0 [f]) = E' f
  alw : ∀ f, E (.mk 7 0 0 0 [f]) = min (E f) (E' (.mk 7 0 0 0 [f]))
  ev : ∀ f, E (.mk 8 0 0 0 [f]) = max (E f) (E' (.mk 8 0 0 0 [f]))
  til : ∀ f g, E (.mk 6 0 0 0 [f, g]) = max (E g) (min (E f) (E' (.mk 6 0 0 0 [f, g])))
theorem Sem.two3 {E : Fm → Int} (h : Sem E) {f g : Fm} (w1 : Wf f) (w2 : Wf g) : E (.mk 3 0 0 0 [f, g]) = min (E f) (E g) := by
  rw [h.and [f, g] (wf_kids (wf_two (.inl rfl) w1 w2))]
  have := h.hi g w2
  simp only [List.map_cons, List.map_nil, minL]
  omega
theorem Sem.two4 {E : Fm → Int} (h : Sem E) {f g : Fm} (w1 : Wf f) (w2 : Wf g) : E (.mk 4 0 0 0 [f, g]) = max (E f) (E g) := by
  rw [h.or [f, g] (wf_kids (wf_two (.inr rfl) w1 w2))]
  have := h.lo g w2
  simp only [List.map_cons, List.map_nil, maxL]
  omega
theorem stp_eq {v : List Int} {E E' : Fm → Int} (h : Sem E) (h' : Sem E') (hs : Stp v E E') {f : Fm} (hw : Wf f) : E' (stF v f) = E f := by
  induction hw with
  | var h1 h2 h3 =>
    rw [st_var, hs.var]
    split
    · rename_i h; rw [h, h'.tt]
    · rename_i h; rw [Bool.not_eq_true] at h; rw [h, h'.ff]
  | un hk hw ih =>
    rename_i k f
    rcases hk with rfl | rfl | rfl | rfl
    · rw [st_not, h'.not _ (wf_st v hw), h.not _ hw, ih]
    · rw [st_next, hs.nx]
    · rw [st_alw, h'.two3 (wf_st v hw) (.un (by simp) hw), hs.alw, ih]
    · rw [st_ev, h'.two4 (wf_st v hw) (.un (by simp) hw), hs.ev, ih]
  | til w1 w2 ih1 ih2 =>
    rw [st_til, h'.two4 (wf_st v w2) (wf_two (.inl rfl) (wf_st v w1) (.til w1 w2)), h'.two3 (wf_st v w1) (.til w1 w2), hs.til, ih1, ih2]
  | jn hk hw ih =>
    rename_i k l
    have hw' : ∀ f ∈ l.map (stF v), Wf f := fun f hf => by
      obtain ⟨g, hg, rfl⟩ := List.mem_map.1 hf
      exact wf_st v (hw g hg)
    have e : (l.map (stF v)).map E' = l.map E := by
      rw [List.map_map]
      exact List.map_congr_left fun f hf => ih f hf
    rw [st_jn hk]
    rcases hk with rfl | rfl
    · rw [h'.and _ hw', h.and _ hw, e]
    · rw [h'.or _ hw', h.or _ hw, e]
/-! ### Simplified formulas -/
inductive Nf : Fm → Prop
  | var {a b n : Int} : 0 ≤ a → 0 ≤ b → b ≤ 2 → Nf (.mk 1 a b n [])
  | not {f : Fm} : Nf f → isC f = false → f.k ≠ 2 → Nf (.mk 2 0 0 0 [f])
  | un {k : Int} {f : Fm} : k = 5 ∨ k = 7 ∨ k = 8 → Nf f → isC f = false → Nf (.mk k 0 0 0 [f])
  | til {f g : Fm} : Nf f → Nf g → isC g = false → f ≠ constF false → Nf (.mk 6 0 0 0 [f, g])
  | jn {k : Int} {l : List Fm} : k = 3 ∨ k = 4 → l.length ≠ 1 → (∀ f, f ∈ l → Nf f) → (∀ f, f ∈ l → f.k ≠ k ∧ isC f = false) → l.Nodup → Nf (.mk k 0 0 0 l)
theorem nf_wf {f : Fm} (h : Nf f) : Wf f := by
  induction h with
  | var h1 h2 h3 => exact .var h1 h2 h3
  | not _ _ _ ih => exact .un (.inl rfl) ih
  | un hk _ _ ih => exact .un (.inr hk) ih
  | til _ _ _ _ ih1 ih2 => exact .til ih1 ih2
  | jn hk _ _ _ _ ih => exact .jn hk ih
theorem nf_const (b : Bool) : Nf (constF b) := by
  unfold constF
  cases b
  · exact .jn (.inr rfl) (by simp) (by simp) (by simp) (by simp)
  · exact .jn (.inl rfl) (by simp) (by simp) (by simp) (by simp)
theorem nf_parts {kind : Int} (hk : kind = 3 ∨ kind = 4) {f : Fm} (h : Nf f) : ∀ g ∈ partsF kind f, Nf g ∧ g.k ≠ kind ∧ (isC g = false ∨ g = absF kind) := by
  unfold partsF
  split
  · rename_i h3
    cases h with
    | var => simp [Fm.kids]
    | not => simp [Fm.k] at h3; omega
    | un hk => simp [Fm.k] at h3; omega
    | til => simp [Fm.k] at h3; omega
    | jn hk h1 h2 h4 h5 =>
      simp only [Fm.k] at h3
      subst h3
      intro g hg
      exact ⟨h2 g hg, (h4 g hg).1, .inl (h4 g hg).2⟩
  · rename_i h3
    intro g hg
    rw [List.mem_singleton.1 hg]
    refine ⟨h, h3, ?_⟩
    cases hc : isC f with
    | false => exact .inl rfl
    | true =>
      right
      rcases (isC_iff (nf_wf h)).1 hc with rfl | rfl
      · rcases hk with rfl | rfl
        · exact absurd rfl h3
        · rfl
      · rcases hk with rfl | rfl
        · rfl
        · exact absurd rfl h3
theorem add_nodup {out : List Fm} (h : out.Nodup) (f : Fm) : (addR out f).Nodup := by
  unfold addR
  split
  · exact h
  · rename_i hn
    rw [any_iff] at hn
    rw [List.nodup_append]
    refine ⟨h, by simp, fun a ha b hb => ?_⟩
    rw [List.mem_singleton.1 hb]
    rintro rfl
    exact hn ha
theorem rGo_nf {kind : Int} (hk : kind = 3 ∨ kind = 4) : ∀ flat out : List Fm, (∀ g ∈ flat, Nf g ∧ g.k ≠ kind ∧ (isC g = false ∨ g = absF kind)) → (∀ g ∈ out, Nf g ∧ g.k ≠ kind ∧ isC g = false) → out.Nodup → Nf (rGo kind flat out)
  | [], out, _, ho, hd => by
    unfold rGo finR
    split
    · exact (ho _ (by simp)).1
    · rename_i hne
      exact .jn hk (fun h1 => by
        obtain ⟨x, rfl⟩ := List.length_eq_one_iff.1 h1
        exact hne x rfl) (fun f hf => (ho f hf).1) (fun f hf => (ho f hf).2) hd
  | f :: flat, out, hf, ho, hd => by
    unfold rGo
    split
    · exact (hf f (by simp)).1
    · rename_i hop
      refine rGo_nf hk flat _ (fun g hg => hf g (by simp [hg])) (fun g hg => ?_) (add_nodup hd f)
      rcases addR_mem.1 hg with hg | rfl
      · exact ho g hg
      · obtain ⟨n1, n2, n3⟩ := hf g (by simp)
        refine ⟨n1, n2, n3.resolve_right fun e => hop (e ▸ opp_abs hk)⟩
theorem nf_join {kind : Int} (hk : kind = 3 ∨ kind = 4) {l : List Fm} (h : ∀ f ∈ l, Nf f) : Nf (rjoinF kind l) := by
  unfold rjoinF
  refine rGo_nf hk _ _ (fun g hg => ?_) (by simp) (by simp)
  unfold flatJ at hg
  obtain ⟨f, hf, hg⟩ := List.mem_flatMap.1 hg
  exact nf_parts hk (h f hf) g hg
theorem nf_not {f : Fm} (h : Nf f) : Nf (notF f) := by
  unfold notF oppF
  split
  · split
    · exact nf_const false
    · exact nf_const true
  · rename_i hc
    rw [Bool.not_eq_true] at hc
    split
    · rename_i h2
      cases h with
      | var => simp [Fm.k] at h2
      | not h => simpa [g0, Fm.kids] using h
      | un hk => simp [Fm.k] at h2; omega
      | til => simp [Fm.k] at h2
      | jn hk => simp [Fm.k] at h2; omega
    · rename_i h2
      refine .not h hc fun hk => h2 ⟨hk, ?_⟩
      cases h with
      | var => simp [Fm.k] at hk
      | not h => simp [Fm.kids]
      | un hk => simp [Fm.kids]
      | til => simp [Fm.kids]
      | jn hk2 => simp [Fm.k] at hk; omega
theorem nf_s {f : Fm} (h : Wf f) : Nf (sF f) := by
  induction h with
  | var h1 h2 h3 => rw [sF_var]; exact .var h1 h2 h3
  | un hk h ih =>
    rename_i k f
    by_cases h2 : k = 2
    · subst h2; rw [sF_not]; exact nf_not ih
    · rw [sF_un (by omega)]
      split
      · exact ih
      · rename_i hc
        rw [Bool.not_eq_true] at hc
        exact .un (by omega) ih hc
  | til h1 h2 ih1 ih2 =>
    rw [sF_til]
    split
    · exact ih2
    · rename_i hc
      rw [Bool.or_eq_true, not_or, Bool.not_eq_true, eqM_iff] at hc
      exact .til ih1 ih2 hc.1 hc.2
  | jn hk h ih =>
    rw [sF_jn hk]
    refine nf_join hk fun f hf => ?_
    obtain ⟨g, hg, rfl⟩ := List.mem_map.1 hf
    exact ih g hg
theorem rGo_id {kind : Int} (hk : kind = 3 ∨ kind = 4) : ∀ flat out : List Fm, (∀ g ∈ flat, Wf g ∧ isC g = false) → (out ++ flat).Nodup → rGo kind flat out = finR kind (out ++ flat)
  | [], out, _, _ => by unfold rGo; rw [List.append_nil]
  | f :: flat, out, hf, hd => by
    unfold rGo
    have ho : ¬ oppC kind f = true := fun ho => by
      have := wf_opp hk (hf f (by simp)).1 ho
      have h2 := (hf f (by simp)).2
      rw [this] at h2
      unfold absF at h2
      rw [isC_const] at h2
      cases h2
    rw [if_neg ho]
    have e : addR out f = out ++ [f] := by
      unfold addR
      rw [if_neg]
      rw [any_iff]
      intro hm
      rw [List.nodup_append] at hd
      exact hd.2.2 f hm f (by simp) rfl
    rw [e, rGo_id hk flat (out ++ [f]) (fun g hg => hf g (by simp [hg])) (by simpa using hd)]
    simp
theorem nf_id {f : Fm} (h : Nf f) : sF f = f := by
  induction h with
  | var => rw [sF_var]
  | not h hc h2 ih =>
    rw [sF_not, ih]
    unfold notF
    rw [if_neg (by rw [hc]; simp), if_neg (fun h => h2 h.1)]
  | un hk h hc ih =>
    rw [sF_un hk, ih, if_neg (by rw [hc]; simp)]
  | til h1 h2 hc hn ih1 ih2 =>
    rw [sF_til, ih1, ih2, if_neg]
    rw [Bool.or_eq_true, not_or, Bool.not_eq_true, eqM_iff]
    exact ⟨hc, hn⟩
  | jn hk h1 h2 h4 h5 ih =>
    rename_i k l
    rw [sF_jn hk]
    have e : l.map sF = l := by
      conv => rhs; rw [← List.map_id l]
      exact List.map_congr_left fun f hf => ih f hf
    rw [e]
    unfold rjoinF
    have e2 : flatJ k l = l := by
      unfold flatJ
      conv => rhs; rw [← List.flatMap_singleton' l]
      rw [List.flatMap_def, List.flatMap_def]
      congr 1
      refine List.map_congr_left fun f hf => ?_
      unfold partsF
      rw [if_neg (h4 f hf).1]
    rw [e2, rGo_id hk l [] (fun g hg => ⟨nf_wf (h2 g hg), (h4 g hg).2⟩) (by simpa using h5), List.nil_append]
    unfold finR
    split
    · exact absurd rfl h1
    · rfl
theorem s_idem {f : Fm} (h : Wf f) : sF (sF f) = sF f := nf_id (nf_s h)
/-! ### At the end of the trace -/
def T3 (g : Fm) : Int := if isC g = true then (if g.k = 3 then 1 else -1) else 0
theorem T3_rng (g : Fm) : -1 ≤ T3 g ∧ T3 g ≤ 1 := by
  unfold T3
  split
  · split <;> omega
  · omega
theorem T3_tt : T3 (constF true) = 1 := rfl
theorem T3_ff : T3 (constF false) = -1 := rfl
theorem T3_non {g : Fm} (h : isC g = false) : T3 g = 0 := by unfold T3; rw [if_neg (by rw [h]; simp)]
theorem T3_go {kind : Int} (hk : kind = 3 ∨ kind = 4) : ∀ flat out : List Fm, (∀ g ∈ flat, Nf g ∧ (isC g = false ∨ g = absF kind)) → (∀ g ∈ out, isC g = false) →
    T3 (rGo kind flat out) = @ite _ (absF kind ∈ flat) (Classical.propDecidable _) (T3 (absF kind)) (@ite _ (out = [] ∧ flat = []) (Classical.propDecidable _) (- T3 (absF kind)) 0)
  | [], out, _, ho => by
    unfold rGo finR
    rw [if_neg (by simp)]
    split
    · rw [T3_non (ho _ (by simp))]; simp
    · by_cases h : out = []
      · subst h
        rw [if_pos ⟨rfl, rfl⟩]
        rcases hk with rfl | rfl <;> rfl
      · rw [if_neg (fun x => h x.1)]
        refine T3_non ?_
        unfold isC
        simp [Fm.kids, h]
  | f :: flat, out, hf, ho => by
    unfold rGo
    split
    · rename_i hop
      have := wf_opp hk (nf_wf (hf f (by simp)).1) hop
      rw [if_pos (by rw [← this]; simp), this]
    · rename_i hop
      have hnf : f ≠ absF kind := fun e => hop (e ▸ opp_abs hk)
      rw [T3_go hk flat (addR out f) (fun g hg => hf g (by simp [hg])) (fun g hg => by
        rcases addR_mem.1 hg with hg | rfl
        · exact ho g hg
        · exact (hf _ (by simp)).2.resolve_right hnf)]
      have h1 : (absF kind ∈ f :: flat) ↔ absF kind ∈ flat := by simp [Ne.symm hnf]
      have h2 : ¬ (addR out f = [] ∧ flat = []) := fun h => by
        have : f ∈ addR out f := addR_mem.2 (.inr rfl)
        rw [h.1] at this
        cases this
      by_cases hm : absF kind ∈ flat
      · rw [if_pos hm, if_pos (h1.2 hm)]
      · rw [if_neg hm, if_neg (fun h => hm (h1.1 h)), if_neg h2, if_neg (by simp)]
theorem T3_min {l : List Fm} (h : ∀ f ∈ l, Nf f) : T3 (rjoinF 3 l) = minL (l.map T3) := by
  unfold rjoinF
  have hfl : ∀ g ∈ flatJ 3 l, Nf g ∧ (isC g = false ∨ g = absF 3) := fun g hg => by
    unfold flatJ at hg
    obtain ⟨f, hf, hg⟩ := List.mem_flatMap.1 hg
    have := nf_parts (.inl rfl) (h f hf) g hg
    exact ⟨this.1, this.2.2⟩
  rw [T3_go (.inl rfl) _ _ hfl (by simp)]
  have hmem : absF 3 ∈ flatJ 3 l ↔ absF 3 ∈ l := by
    unfold flatJ
    rw [List.mem_flatMap]
    constructor
    · rintro ⟨f, hf, hg⟩
      unfold partsF at hg
      split at hg
      · rename_i hk
        obtain ⟨m, rfl, hm⟩ := wf_and_kids (.inl rfl) (nf_wf (h f hf)) hk
        cases h _ hf with
        | jn _ _ _ h4 =>
          have := (h4 _ hg).2
          unfold absF at this
          rw [isC_const] at this
          cases this
        | un hk => omega
      · rw [List.mem_singleton.1 hg]; exact hf
    · intro hm
      exact ⟨_, hm, by unfold partsF absF constF; simp [Fm.k]⟩
  have hnil : flatJ 3 l = [] ↔ ∀ f ∈ l, f = constF true := by
    unfold flatJ
    rw [List.flatMap_eq_nil_iff]
    refine forall_congr' fun f => forall_congr' fun hf => ?_
    unfold partsF
    constructor
    · intro he
      split at he
      · rename_i hk
        obtain ⟨m, rfl, hm⟩ := wf_and_kids (.inl rfl) (nf_wf (h f hf)) hk
        simp only [Fm.kids] at he
        subst he
        rfl
      · cases he
    · rintro rfl
      rfl
  by_cases hm : absF 3 ∈ l
  · rw [if_pos (hmem.2 hm)]
    have h1 : minL (l.map T3) ≤ -1 := minL_mem (List.mem_map.2 ⟨_, hm, rfl⟩)
    have h2 : -1 ≤ minL (l.map T3) := minL_ge fun x hx => by
      obtain ⟨g, hg, rfl⟩ := List.mem_map.1 hx
      exact (T3_rng g).1
    show (-1 : Int) = _
    omega
  · rw [if_neg (fun h => hm (hmem.1 h))]
    have hne : ∀ f ∈ l, 0 ≤ T3 f := fun f hf => by
      unfold T3
      split
      · rename_i hc
        rcases (isC_iff (nf_wf (h f hf))).1 hc with rfl | rfl
        · decide
        · exact absurd hf hm
      · omega
    have h0 : 0 ≤ minL (l.map T3) := minL_glb (by omega) fun x hx => by
      obtain ⟨g, hg, rfl⟩ := List.mem_map.1 hx
      exact hne g hg
    by_cases hn : flatJ 3 l = []
    · rw [if_pos ⟨rfl, hn⟩]
      have := hnil.1 hn
      have : 1 ≤ minL (l.map T3) := minL_glb (by omega) fun x hx => by
        obtain ⟨g, hg, rfl⟩ := List.mem_map.1 hx
        rw [this g hg]
        decide
      have := minL_le (l.map T3)
      show (1 : Int) = _
      omega
    · rw [if_neg (fun h => hn h.2)]
      rw [hnil] at hn
      obtain ⟨f, hf, hfn⟩ : ∃ f ∈ l, f ≠ constF true := by
        refine Classical.byContradiction fun hx => hn fun f hf => Classical.byContradiction fun hy => hx ⟨f, hf, hy⟩
      have : T3 f = 0 := by
        refine T3_non ?_
        cases hc : isC f with
        | false => rfl
        | true =>
          rcases (isC_iff (nf_wf (h f hf))).1 hc with rfl | rfl
          · exact absurd rfl hfn
          · exact absurd hf hm
      have h1 : minL (l.map T3) ≤ 0 := by rw [← this]; exact minL_mem (List.mem_map.2 ⟨_, hf, rfl⟩)
      omega
theorem T3_max {l : List Fm} (h : ∀ f ∈ l, Nf f) : T3 (rjoinF 4 l) = maxL (l.map T3) := by
  unfold rjoinF
  have hfl : ∀ g ∈ flatJ 4 l, Nf g ∧ (isC g = false ∨ g = absF 4) := fun g hg => by
    unfold flatJ at hg
    obtain ⟨f, hf, hg⟩ := List.mem_flatMap.1 hg
    have := nf_parts (.inr rfl) (h f hf) g hg
    exact ⟨this.1, this.2.2⟩
  rw [T3_go (.inr rfl) _ _ hfl (by simp)]
  have hmem : absF 4 ∈ flatJ 4 l ↔ absF 4 ∈ l := by
    unfold flatJ
    rw [List.mem_flatMap]
    constructor
    · rintro ⟨f, hf, hg⟩
      unfold partsF at hg
      split at hg
      · rename_i hk
        obtain ⟨m, rfl, hm⟩ := wf_and_kids (.inr rfl) (nf_wf (h f hf)) hk
        cases h _ hf with
        | jn _ _ _ h4 =>
          have := (h4 _ hg).2
          unfold absF at this
          rw [isC_const] at this
          cases this
        | un hk => omega
      · rw [List.mem_singleton.1 hg]; exact hf
    · intro hm
      exact ⟨_, hm, by unfold partsF absF constF; simp [Fm.k]⟩
  have hnil : flatJ 4 l = [] ↔ ∀ f ∈ l, f = constF false := by
    unfold flatJ
    rw [List.flatMap_eq_nil_iff]
    refine forall_congr' fun f => forall_congr' fun hf => ?_
    unfold partsF
    constructor
    · intro he
      split at he
      · rename_i hk
        obtain ⟨m, rfl, hm⟩ := wf_and_kids (.inr rfl) (nf_wf (h f hf)) hk
        simp only [Fm.kids] at he
        subst he
        rfl
      · cases he
    · rintro rfl
      rfl
  by_cases hm : absF 4 ∈ l
  · rw [if_pos (hmem.2 hm)]
    have h1 : 1 ≤ maxL (l.map T3) := maxL_mem (List.mem_map.2 ⟨_, hm, rfl⟩)
    have h2 : maxL (l.map T3) ≤ 1 := maxL_le fun x hx => by
      obtain ⟨g, hg, rfl⟩ := List.mem_map.1 hx
      exact (T3_rng g).2
    show (1 : Int) = _
    omega
  · rw [if_neg (fun h => hm (hmem.1 h))]
    have hne : ∀ f ∈ l, T3 f ≤ 0 := fun f hf => by
      unfold T3
      split
      · rename_i hc
        rcases (isC_iff (nf_wf (h f hf))).1 hc with rfl | rfl
        · exact absurd hf hm
        · decide
      · omega
    have h0 : maxL (l.map T3) ≤ 0 := maxL_lub (by omega) fun x hx => by
      obtain ⟨g, hg, rfl⟩ := List.mem_map.1 hx
      exact hne g hg
    by_cases hn : flatJ 4 l = []
    · rw [if_pos ⟨rfl, hn⟩]
      have := hnil.1 hn
      have : maxL (l.map T3) ≤ -1 := maxL_lub (by omega) fun x hx => by
        obtain ⟨g, hg, rfl⟩ := List.mem_map.1 hx
        rw [this g hg]
        decide
      have := maxL_ge (l.map T3)
      show (-1 : Int) = _
      omega
    · rw [if_neg (fun h => hn h.2)]
      rw [hnil] at hn
      obtain ⟨f, hf, hfn⟩ : ∃ f ∈ l, f ≠ constF false := by
        refine Classical.byContradiction fun hx => hn fun f hf => Classical.byContradiction fun hy => hx ⟨f, hf, hy⟩
      have : T3 f = 0 := by
        refine T3_non ?_
        cases hc : isC f with
        | false => rfl
        | true =>
          rcases (isC_iff (nf_wf (h f hf))).1 hc with rfl | rfl
          · exact absurd hf hm
          · exact absurd rfl hfn
      have h1 : 0 ≤ maxL (l.map T3) := by rw [← this]; exact maxL_mem (List.mem_map.2 ⟨_, hf, rfl⟩)
      omega
theorem T3_not {f : Fm} (h : Nf f) : T3 (notF f) = - T3 f := by
  unfold notF
  split
  · rename_i hc
    rcases (isC_iff (nf_wf h)).1 hc with rfl | rfl <;> rfl
  · rename_i hc
    rw [Bool.not_eq_true] at hc
    rw [T3_non hc]
    split
    · rename_i h2
      cases h with
      | var => simp [Fm.k] at h2
      | not h hc2 => simpa [g0, Fm.kids] using T3_non hc2
      | un hk => simp [Fm.k] at h2; omega
      | til => simp [Fm.k] at h2
      | jn hk => simp [Fm.k] at h2; omega
    · rfl
def end3 (f : Fm) : Int := T3 (sF f)
theorem sem_end : Sem end3 where
  lo _ _ := (T3_rng _).1
  hi _ _ := (T3_rng _).2
  and l h := by
    unfold end3
    rw [sF_jn (.inl rfl), T3_min fun f hf => by
      obtain ⟨g, hg, rfl⟩ := List.mem_map.1 hf
      exact nf_s (h g hg), List.map_map]
    rfl
  or l h := by
    unfold end3
    rw [sF_jn (.inr rfl), T3_max fun f hf => by
      obtain ⟨g, hg, rfl⟩ := List.mem_map.1 hf
      exact nf_s (h g hg), List.map_map]
    rfl
  not f h := by
    unfold end3
    rw [sF_not, T3_not (nf_s h)]
end Go.Proofs.YtpjcbadnpknncaaDoor.Vm
/- The plain law: the three-valued meaning, verdicts, longer traces. -/
namespace Go.Proofs.YtpjcbadnpknncaaDoor.Vm
open Go.RowKit Go.Shelf
set_option linter.unusedSimpArgs false
set_option linter.unusedVariables false
set_option maxRecDepth 100000
/-! ### The three-valued meaning -/
def meC (v : List Int) (nx : Fm → Int) (k a b n : Int) (l : List Fm) (P : List Int) : Int :=
  if k = 1 then (if cmpV b (atV v a) n = true then 1 else -1)
  else if k = 2 then - P.getD 0 0
  else if k = 5 then nx (g0 l)
  else if k = 7 then min (P.getD 0 0) (nx (.mk k a b n l))
  else if k = 8 then max (P.getD 0 0) (nx (.mk k a b n l))
  else if k = 6 then max (P.getD 1 0) (min (P.getD 0 0) (nx (.mk k a b n l)))
  else if k = 3 then minL P
  else maxL P
mutual
def meK (v : List Int) (nx : Fm → Int) : Fm → Int
  | .mk k a b n l => meC v nx k a b n l (meKs v nx l)
def meKs (v : List Int) (nx : Fm → Int) : List Fm → List Int
  | [] => []
  | f :: l => meK v nx f :: meKs v nx l
end
theorem meKs_map (v : List Int) (nx : Fm → Int) : ∀ l : List Fm, meKs v nx l = l.map (meK v nx)
  | [] => by unfold meKs; rfl
  | f :: l => by unfold meKs; rw [meKs_map v nx l]; rfl
theorem meK_mk (v : List Int) (nx : Fm → Int) (k a b n : Int) (l : List Fm) : meK v nx (.mk k a b n l) = meC v nx k a b n l (l.map (meK v nx)) := by
  rw [← meKs_map]
  conv => lhs; unfold meK
def meF : List (List Int) → Fm → Int
  | [] => end3
  | v :: t => meK v (meF t)
theorem stp_me (v : List Int) (nx : Fm → Int) : Stp v (meK v nx) nx where
  var a b n := by rw [meK_mk]; simp [meC]
  nx f := by rw [meK_mk]; simp [meC, g0]
  alw f := by rw [meK_mk]; simp [meC]
  ev f := by rw [meK_mk]; simp [meC]
  til f g := by rw [meK_mk]; simp [meC]
theorem sem_me (v : List Int) {nx : Fm → Int} (h : Sem nx) : Sem (meK v nx) := by
  have hb : ∀ f, Wf f → -1 ≤ meK v nx f ∧ meK v nx f ≤ 1 := fun f hw => by
    induction hw with
    | var =>
      rw [(stp_me v nx).var]
      split <;> omega
    | un hk hw ih =>
      rename_i k f
      rcases hk with rfl | rfl | rfl | rfl
      · rw [meK_mk]; simp [meC]; omega
      · rw [(stp_me v nx).nx]; exact ⟨h.lo f hw, h.hi f hw⟩
      · rw [(stp_me v nx).alw]
        have := h.lo _ (.un (k := 7) (by simp) hw)
        omega
      · rw [(stp_me v nx).ev]
        have := h.hi _ (.un (k := 8) (by simp) hw)
        omega
    | til w1 w2 ih1 ih2 =>
      rw [(stp_me v nx).til]
      have := h.hi _ (.til w1 w2)
      omega
    | jn hk hw ih =>
      rename_i k l
      rw [meK_mk]
      have a1 : ∀ x ∈ l.map (meK v nx), -1 ≤ x ∧ x ≤ 1 := fun x hx => by
        obtain ⟨g, hg, rfl⟩ := List.mem_map.1 hx
        exact ih g hg
      have := minL_ge fun x hx => (a1 x hx).1
      have := maxL_le fun x hx => (a1 x hx).2
      have := minL_le (l.map (meK v nx))
      have := maxL_ge (l.map (meK v nx))
      rcases hk with rfl | rfl
      · simp [meC]; omega
      · simp [meC]; omega
  exact ⟨fun f hw => (hb f hw).1, fun f hw => (hb f hw).2, fun l _ => by rw [meK_mk]; simp [meC], fun l _ => by rw [meK_mk]; simp [meC], fun f _ => by rw [meK_mk]; simp [meC]⟩
theorem sem_meF : ∀ t, Sem (meF t)
  | [] => sem_end
  | v :: t => sem_me v (sem_meF t)
theorem cst_eq {E E' : Fm → Int} (h : Sem E) (h' : Sem E') {f : Fm} (hw : Wf f) (hc : isC f = true) : E f = E' f := by
  rcases (isC_iff hw).1 hc with rfl | rfl
  · rw [h.tt, h'.tt]
  · rw [h.ff, h'.ff]
/-- S keeps the meaning. -/
theorem me_s : ∀ (t : List (List Int)) {f : Fm}, Wf f → meF t (sF f) = meF t f
  | [], f, hw => by
    show end3 (sF f) = end3 f
    unfold end3
    rw [s_idem hw]
  | v :: t, f, hw => by
    have hS := sem_meF (v :: t)
    have hS' := sem_meF t
    have hst : Stp v (meF (v :: t)) (meF t) := stp_me v (meF t)
    induction hw with
    | var => rw [sF_var]
    | un hk hw ih =>
      rename_i k f
      have hws := wf_s hw
      rcases hk with rfl | rfl | rfl | rfl
      · rw [sF_not, hS.neg hws, ih, hS.not f hw]
      · rw [sF_un (by simp), hst.nx, ← me_s t hw]
        split
        · rename_i hc
          exact cst_eq hS hS' hws hc
        · rw [hst.nx]
      · have hn := me_s t (f := .mk 7 0 0 0 [f]) (.un (by simp) hw)
        rw [hst.alw, ← hn, sF_un (by simp), ← ih]
        split
        · rename_i hc
          have := cst_eq hS hS' hws hc
          omega
        · rw [hst.alw]
      · have hn := me_s t (f := .mk 8 0 0 0 [f]) (.un (by simp) hw)
        rw [hst.ev, ← hn, sF_un (by simp), ← ih]
        split
        · rename_i hc
          have := cst_eq hS hS' hws hc
          omega
        · rw [hst.ev]
    | til w1 w2 ih1 ih2 =>
      rename_i f g
      have hn := me_s t (f := .mk 6 0 0 0 [f, g]) (.til w1 w2)
      have hwg := wf_s w2
      rw [hst.til, ← hn, sF_til, ← ih1, ← ih2]
      split
      · rename_i hc
        rw [Bool.or_eq_true, eqM_iff] at hc
        have b1 := hS.lo _ (wf_s w1)
        have b2 := hS.hi _ (wf_s w1)
        have b3 := hS.lo _ hwg
        have b4 := hS'.lo _ hwg
        rcases hc with hc | hc
        · have := cst_eq hS hS' hwg hc
          omega
        · rw [hc, hS.ff]
          omega
      · rw [hst.til]
    | jn hk hw ih =>
      rename_i k l
      have hw' : ∀ f ∈ l.map sF, Wf f := wf_mapS hw
      have e : (l.map sF).map (meF (v :: t)) = l.map (meF (v :: t)) := by
        rw [List.map_map]
        exact List.map_congr_left fun f hf => ih f hf
      rw [sF_jn hk]
      rcases hk with rfl | rfl
      · rw [hS.join3 hw', hS.and _ hw, e]
      · rw [hS.join4 hw', hS.or _ hw, e]
theorem me_st (v : List Int) (t : List (List Int)) {f : Fm} (hw : Wf f) : meF t (stF v f) = meF (v :: t) f :=
  stp_eq (sem_meF (v :: t)) (sem_meF t) (stp_me v (meF t)) hw
theorem me_pro (v : List Int) (t : List (List Int)) {f : Fm} (hw : Wf f) : meF t (proF v f) = meF (v :: t) f := by
  rw [pro_same v f hw, me_s t (wf_st v hw), me_st v t hw]
theorem wf_pro (v : List Int) {f : Fm} (hw : Wf f) : Wf (proF v f) := by rw [pro_same v f hw]; exact wf_s (wf_st v hw)
theorem nf_pro (v : List Int) {f : Fm} (hw : Wf f) : Nf (proF v f) := by rw [pro_same v f hw]; exact nf_s (wf_st v hw)
/-! ### Verdicts -/
def cls3 (x : Int) : Int := if x = 1 then 0 else if x = -1 then 13 else 14
theorem run_cls : ∀ (t : List (List Int)) (f : Fm) (i : Int), Nf f → (verF (runF f i t)).cls = cls3 (meF t f)
  | [], f, i, hn => by
    rw [runF, show meF [] f = T3 (sF f) from rfl, nf_id hn]
    unfold verF
    split
    · rename_i hc
      rcases (isC_iff (nf_wf hn)).1 hc with rfl | rfl <;> rfl
    · rename_i hc
      rw [Bool.not_eq_true] at hc
      rw [T3_non hc]
      rfl
  | v :: t, f, i, hn => by
    rw [runF]
    split
    · rename_i hc
      have hm := sem_meF (v :: t)
      rcases (isC_iff (nf_wf hn)).1 hc with rfl | rfl
      · rw [hm.tt]; rfl
      · rw [hm.ff]; rfl
    · rw [run_cls t _ _ (nf_pro v (nf_wf hn)), me_pro v t (nf_wf hn)]
theorem chk_cls (f : Fm) (t : List (List Int)) (hw : Wf f) : (chkF f t).cls = cls3 (meF t f) := by
  unfold chkF
  rw [sim_same f hw, run_cls t _ _ (nf_s hw), me_s t hw]
/-- The reference's Check is Check. -/
theorem run_same : ∀ (t : List (List Int)) (f : Fm) (i : Int), Wf f → rrunF f i t = runF f i t
  | [], f, i, _ => rfl
  | v :: t, f, i, hw => by
    rw [rrunF, runF]
    split
    · rfl
    · rw [run_same t _ _ (wf_s (wf_st v hw)), pro_same v f hw]
theorem wf_run : ∀ (t : List (List Int)) (f : Fm) (i : Int), Wf f → Wf (runF f i t).1
  | [], f, i, h => h
  | v :: t, f, i, h => by
    rw [runF]
    split
    · exact h
    · exact wf_run t _ _ (wf_pro v h)
theorem chk_same (f : Fm) (t : List (List Int)) (hw : Wf f) : rchkF f t = chkF f t := by
  unfold rchkF chkF
  rw [sim_same f hw, run_same t _ _ (wf_s hw)]
  have hW := wf_run t (sF f) (-1) (wf_s hw)
  unfold verR verF
  by_cases hc : isC (runF (sF f) (-1) t).1 = true
  · rw [if_pos hc, if_pos hc]
    rcases (isC_iff hW).1 hc with h | h
    · rw [h]; rfl
    · rw [h]; rfl
  · rw [if_neg hc, if_neg hc]
/-! ### All can be applied -/
theorem fitR_gd : ∀ (t : List (List Int)) (f : Fm) (N : Nat), Gd N f → N * 5 ^ t.length ≤ 100000000000 → FitR f t
  | [], f, N, _, _ => by unfold FitR; trivial
  | v :: t, f, N, h, hN => by
    unfold FitR
    right
    rw [List.length_cons, Nat.pow_succ] at hN
    have hp : 1 ≤ 5 ^ t.length := Nat.pos_of_ne_zero (by simp)
    have h1 : N * 1 ≤ N * (5 ^ t.length * 5) := Nat.mul_le_mul_left N (by omega)
    refine ⟨fitP_gd (by omega) v f h, fitR_gd t _ (5 * N) (h.pro v) ?_⟩
    rw [show 5 * N * 5 ^ t.length = N * (5 ^ t.length * 5) by rw [Nat.mul_comm 5 N, Nat.mul_assoc, Nat.mul_comm 5]]
    exact hN
theorem fitQ_gd : ∀ (t : List (List Int)) (f : Fm) (N : Nat), Gd N f → N * 5 ^ t.length ≤ 100000000000 → FitQ f t
  | [], f, N, _, _ => by unfold FitQ; trivial
  | v :: t, f, N, h, hN => by
    unfold FitQ
    right
    rw [List.length_cons, Nat.pow_succ] at hN
    have hp : 1 ≤ 5 ^ t.length := Nat.pos_of_ne_zero (by simp)
    have h1 : N * 1 ≤ N * (5 ^ t.length * 5) := Nat.mul_le_mul_left N (by omega)
    refine ⟨fitU_gd (by omega) f h, fitT_gd (N := 5 * N) (by omega) _ (h.st v), fitQ_gd t _ (5 * N) (h.st v).s ?_⟩
    rw [show 5 * N * 5 ^ t.length = N * (5 ^ t.length * 5) by rw [Nat.mul_comm 5 N, Nat.mul_assoc, Nat.mul_comm 5]]
    exact hN
/-! ### Longer traces -/
/-- After the first positions. -/
def foldP : Fm → List (List Int) → Fm
  | f, [] => f
  | f, v :: t => foldP (proF v f) t
theorem foldP_app : ∀ (t u : List (List Int)) (f : Fm), foldP f (t ++ u) = foldP (foldP f t) u
  | [], u, f => rfl
  | v :: t, u, f => by rw [List.cons_append, foldP, foldP, foldP_app]
theorem gd_fold : ∀ (t : List (List Int)) (f : Fm) (N : Nat), Gd N f → Gd (N * 5 ^ t.length) (foldP f t)
  | [], f, N, h => by simpa [foldP] using h
  | v :: t, f, N, h => by
    rw [foldP, List.length_cons, Nat.pow_succ]
    have := gd_fold t _ (5 * N) (h.pro v)
    rwa [show 5 * N * 5 ^ t.length = N * (5 ^ t.length * 5) by rw [Nat.mul_comm 5 N, Nat.mul_assoc, Nat.mul_comm 5]] at this
theorem wf_fold : ∀ (t : List (List Int)) {f : Fm}, Wf f → Wf (foldP f t)
  | [], f, h => h
  | v :: t, f, h => wf_fold t (wf_pro v h)
theorem me_fold : ∀ (t u : List (List Int)) {f : Fm}, Wf f → meF u (foldP f t) = meF (t ++ u) f
  | [], u, f, _ => rfl
  | v :: t, u, f, h => by
    rw [foldP, me_fold t u (wf_pro v h), List.cons_append, me_pro v _ h]
/-- The value of the rest after the progression is the whole's. -/
theorem split_cls (f : Fm) (t u : List (List Int)) (hw : Wf f) : (chkF (foldP f t) u).cls = (chkF f (t ++ u)).cls := by
  rw [chk_cls _ _ (wf_fold t hw), chk_cls _ _ hw, me_fold t u hw]
theorem run_app : ∀ (t u : List (List Int)) (f : Fm) (i : Int), isC (runF f i t).1 = true → runF f i (t ++ u) = runF f i t
  | [], u, f, i, h => by
    rw [runF] at h
    cases u with
    | nil => rfl
    | cons v u => rw [List.nil_append, runF, runF, if_pos h]
  | v :: t, u, f, i, h => by
    rw [List.cons_append]
    rw [runF] at h ⊢
    conv => rhs; rw [runF]
    split
    · rfl
    · rename_i hc
      rw [if_neg hc] at h
      exact run_app t u _ _ h
theorem run_pos : ∀ (t : List (List Int)) (f : Fm) (i : Int), i ≤ (runF f i t).2 ∧ (runF f i t).2 ≤ i + t.length
  | [], f, i => by rw [runF]; simp
  | v :: t, f, i => by
    rw [runF]
    split
    · simp; omega
    · have := run_pos t (proF v f) (i + 1)
      rw [List.length_cons]
      omega
/-- Ahead of the certificate's position nothing is known. -/
theorem run_first : ∀ (t : List (List Int)) (f : Fm) (i : Int) (m : Nat), i + m < (runF f i t).2 → isC (runF f i (t.take m)).1 = false
  | [], f, i, m, h => by rw [runF] at h; simp at h; omega
  | v :: t, f, i, 0, h => by
    rw [List.take_zero, runF]
    rw [runF] at h
    split at h
    · simp at h
    · rename_i hc
      rwa [Bool.not_eq_true] at hc
  | v :: t, f, i, m + 1, h => by
    rw [List.take_succ_cons, runF]
    rw [runF] at h
    split at h
    · simp at h; omega
    · rename_i hc
      rw [if_neg hc]
      exact run_first t (proF v f) (i + 1) m (by omega)
structure StableAt (f : Fm) (t : List (List Int)) (k : Nat) : Prop where
  cls : (chkF f (t.take k)).cls = 0 ∨ (chkF f (t.take k)).cls = 13 ∨ ((chkF f (t.take k)).cls = 14 ∧ (chkF f (t.take k)).at' = none)
  all : (chkF f (t.take k)).cls ≠ 14 → chkF f (t.take k) = chkF f t ∧ ∃ x, (chkF f (t.take k)).at' = some x ∧ -1 ≤ x ∧ x < k ∧ (0 ≤ x → (chkF f (t.take x.toNat)).cls = 14)
theorem ver_none {r : Fm × Int} (h : isC r.1 = false) : verF r = ⟨14, none⟩ := by
  unfold verF
  rw [if_neg (by rw [h]; simp)]
theorem stable (f : Fm) (t : List (List Int)) (k : Nat) (hk : k ≤ t.length) (hw : Wf f) : StableAt f t k := by
  have hW := wf_run (t.take k) (sF f) (-1) (wf_s hw)
  have hpos := run_pos (t.take k) (sF f) (-1)
  rw [List.length_take, Nat.min_eq_left hk] at hpos
  have hfirst := run_first (t.take k) (sF f) (-1)
  have happ := run_app (t.take k) (t.drop k) (sF f) (-1)
  rw [List.take_append_drop] at happ
  unfold chkF at *
  cases hc : isC (runF (sF f) (-1) (t.take k)).1 with
  | true =>
    have happ := happ hc
    have hex : verF (runF (sF f) (-1) (t.take k)) = ⟨if (runF (sF f) (-1) (t.take k)).1.k = 3 then 0 else 13, some (runF (sF f) (-1) (t.take k)).2⟩ := by
      conv => lhs; unfold verF
      rw [if_pos hc]
    refine ⟨?_, fun _ => ⟨?_, _, ?_, hpos.1, by omega, fun h0 => ?_⟩⟩
    · unfold chkF
      rw [sim_same f hw, hex]
      simp only
      split <;> simp
    · unfold chkF
      rw [sim_same f hw, happ]
    · unfold chkF
      rw [sim_same f hw, hex]
    · unfold chkF
      rw [sim_same f hw]
      generalize (runF (sF f) (-1) (t.take k)).2 = x at *
      have h1 := hfirst x.toNat (by omega)
      rw [List.take_take, Nat.min_eq_left (by omega)] at h1
      rw [ver_none h1]
  | false =>
    refine ⟨.inr (.inr ?_), fun hn => absurd ?_ hn⟩
    · unfold chkF
      rw [sim_same f hw, ver_none hc]
      exact ⟨rfl, rfl⟩
    · unfold chkF
      rw [sim_same f hw, ver_none hc]
end Go.Proofs.YtpjcbadnpknncaaDoor.Vm
