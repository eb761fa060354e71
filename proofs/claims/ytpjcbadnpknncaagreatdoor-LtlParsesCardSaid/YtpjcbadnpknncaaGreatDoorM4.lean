/- Texts 4 of the proof: T5, T6, T7, T8, T9, VmD, T10, L0, L1, L2, T40, T11, T12, T13, T14, T15, T16, T17, T18, T41, T42, T43, T44, T19, Ta, T45, T46. -/
import Derived.Test.YtpjcbadnpknncaaGreatDoorM3
import Derived.Recover
/- The parser of formulas: what it computes. No walk here. -/
namespace Go.Proofs.YtpjcbadnpknncaaGreatDoor.Vm
open Go.RowKit Go.Shelf
set_option linter.unusedSimpArgs false
set_option linter.unusedVariables false
set_option maxRecDepth 100000
structure Pr where
  un : List Tk → Ps
  ch : List Tk → Ps
  fo : List Tk → Ps
def kNot : ByteArray := ⟨#[33]⟩
def kNext : ByteArray := ⟨#[110, 101, 120, 116]⟩
def kAlw : ByteArray := ⟨#[97, 108, 119, 97, 121, 115]⟩
def kEv : ByteArray := ⟨#[101, 118, 101, 110, 116, 117, 97, 108, 108, 121]⟩
def kTrue : ByteArray := ⟨#[116, 114, 117, 101]⟩
def kFalse : ByteArray := ⟨#[102, 97, 108, 115, 101]⟩
def kLp : ByteArray := ⟨#[40]⟩
def kRp : ByteArray := ⟨#[41]⟩
def kUntil : ByteArray := ⟨#[117, 110, 116, 105, 108]⟩
def kOr : ByteArray := ⟨#[124, 124]⟩
def kAnd : ByteArray := ⟨#[38, 38]⟩
def unKind (s : ByteArray) : Option Int := if s = kNot then some 2 else if s = kNext then some 5 else if s = kAlw then some 7 else if s = kEv then some 8 else none
def constF (b : Bool) : Fm := .mk (if b = true then 3 else 4) 0 0 0 []
def unG (low : Option Pr) (ts : List Tk) : Ps :=
  match unKind (hd ts).text with
  | some k => match low with
    | none => .bad (hd ts).pos 2
    | some p => match p.un ts.tail with
      | .ok f r => .ok (.mk k 0 0 0 [f]) r
      | .bad x e => .bad x e
  | none => if (isT kTrue ts || isT kFalse ts) = true then .ok (constF (decide ((hd ts).text = kTrue))) ts.tail else
    if isT kLp ts = true then match low with
      | none => .bad (hd ts).pos 2
      | some p => match p.fo ts.tail with
        | .ok f r => if isT kRp r = true then .ok f r.tail else .bad (hd r).pos 10
        | .bad x e => .bad x e
    else cmpF ts
def chG (un : List Tk → Ps) (low : Option Pr) (ts : List Tk) : Ps :=
  match un ts with
  | .bad x e => .bad x e
  | .ok f r => if isT kUntil r = true then match low with
      | none => .bad (hd r).pos 2
      | some p => match p.ch r.tail with
        | .ok g r' => .ok (.mk 6 0 0 0 [f, g]) r'
        | .bad x e => .bad x e
    else .ok f r
inductive Lr where
  | ok (l : List Fm) (r : List Tk)
  | bad (p e : Int)
def liGo (op : List Tk → Ps) (sign : ByteArray) : Nat → List Fm → List Tk → Lr
  | 0, acc, ts => .ok acc ts
  | n + 1, acc, ts => if isT sign ts = true then match op ts.tail with
      | .ok f r => liGo op sign n (acc ++ [f]) r
      | .bad x e => .bad x e
    else .ok acc ts
def finL (kind : Int) : Lr → Ps
  | .bad x e => .bad x e
  | .ok [f] r => .ok f r
  | .ok l r => .ok (.mk kind 0 0 0 l) r
def liF (op : List Tk → Ps) (kind : Int) (sign : ByteArray) (ts : List Tk) : Ps :=
  match op ts with
  | .bad x e => .bad x e
  | .ok f r => finL kind (liGo op sign r.length [f] r)
def foG (ch : List Tk → Ps) : List Tk → Ps := liF (liF ch 3 kAnd) 4 kOr
def prG (low : Option Pr) : Pr := ⟨unG low, chG (unG low) low, foG (chG (unG low) low)⟩
def pr : Nat → Pr
  | 0 => prG none
  | d + 1 => prG (some (pr d))
/-! ### What is left is shorter, and ends as it did -/
def TkB (ts : List Tk) : Prop := TkW ts ∧ ts.length ≤ 1000000
theorem TkB.tail {ts : List Tk} (h : TkB ts) (hk : (hd ts).kind ≠ 0) : TkB ts.tail ∧ ts.tail.length + 1 = ts.length := by
  have h1 := h.1.pos
  refine ⟨⟨h.1.tail hk, ?_⟩, ?_⟩
  · have := h.2; simp; omega
  · simp; omega
theorem TkB.is {s : ByteArray} {ts : List Tk} (h : TkB ts) (k : isT s ts = true) : TkB ts.tail ∧ ts.tail.length + 1 = ts.length := h.tail (isT_kind k)
def Goes (op : List Tk → Ps) : Prop := ∀ ts f r, TkB ts → op ts = .ok f r → TkB r ∧ r.length ≤ ts.length
theorem un_kind {ts : List Tk} {k : Int} (h : TkB ts) (hk : unKind (hd ts).text = some k) : (hd ts).kind ≠ 0 := fun h0 => by
  have := (h.1.end' h0).1
  have e : (hd ts).text = ⟨#[]⟩ := by
    generalize (hd ts).text = b at *
    cases b with
    | mk d => congr 1; exact Array.toList_eq_nil_iff.1 this
  rw [e] at hk
  have : unKind ⟨#[]⟩ = none := by decide +kernel
  rw [this] at hk; cases hk
theorem cmp_goes : Goes cmpF := fun ts f r h hc => by
  unfold cmpF at hc
  split at hc
  · cases hc
  · rename_i hF
    split at hc
    · cases hc
    · rename_i n hO
      split at hc
      · cases hc
      · split at hc
        · cases hc
        · rename_i hi
          split at hc
          · cases hc
          · rename_i hk
            simp only [Ps.ok.injEq] at hc
            obtain ⟨-, rfl⟩ := hc
            have hk0 : (hd ts).kind ≠ 0 := fun h0 => by
              have := (h.1.end' h0).1
              unfold cutF at hF
              rw [this] at hF
              exact hF rfl
            obtain ⟨h1, l1⟩ := h.tail hk0
            obtain ⟨h2, l2⟩ : TkB ts.tail.tail ∧ ts.tail.tail.length + 1 = ts.tail.length := by
              rcases idxS_rng ts.tail cmpTs 0 (by omega) with h2 | ⟨_, _, s, hs⟩
              · omega
              · exact h1.is hs
            have h3 : TkB (signF ts.tail.tail).2 ∧ (signF ts.tail.tail).2.length ≤ ts.tail.tail.length := by
              unfold signF
              split
              · rename_i hm
                obtain ⟨h3, l3⟩ := h2.is hm
                exact ⟨h3, by simp only; omega⟩
              · exact ⟨h2, Nat.le_refl _⟩
            obtain ⟨h4, l4⟩ := h3.1.tail (show (hd (signF ts.tail.tail).2).kind ≠ 0 from fun e => hk (by rw [e]; decide))
            exact ⟨h4, by omega⟩
def GoesO (low : Option Pr) : Prop := ∀ p, low = some p → Goes p.un ∧ Goes p.ch ∧ Goes p.fo
theorem un_goes {low : Option Pr} (hl : GoesO low) : Goes (unG low) := fun ts f r h hc => by
  unfold unG at hc
  split at hc
  · rename_i k hk
    obtain ⟨h1, l1⟩ := h.tail (un_kind h hk)
    split at hc
    · cases hc
    · rename_i p
      split at hc
      · rename_i f' r' he
        simp only [Ps.ok.injEq] at hc
        obtain ⟨-, rfl⟩ := hc
        obtain ⟨h2, l2⟩ := (hl p rfl).1 _ _ _ h1 he
        exact ⟨h2, by omega⟩
      · cases hc
  · split at hc
    · rename_i ht
      simp only [Ps.ok.injEq] at hc
      obtain ⟨-, rfl⟩ := hc
      have : isT kTrue ts = true ∨ isT kFalse ts = true := by simpa using ht
      obtain ⟨h1, l1⟩ : TkB ts.tail ∧ ts.tail.length + 1 = ts.length := this.elim h.is h.is
      exact ⟨h1, by omega⟩
    · split at hc
      · rename_i hp
        obtain ⟨h1, l1⟩ := h.is hp
        split at hc
        · cases hc
        · rename_i p
          split at hc
          · rename_i f' r' he
            obtain ⟨h2, l2⟩ := (hl p rfl).2.2 _ _ _ h1 he
            split at hc
            · rename_i hq
              simp only [Ps.ok.injEq] at hc
              obtain ⟨-, rfl⟩ := hc
              obtain ⟨h3, l3⟩ := h2.is hq
              exact ⟨h3, by omega⟩
            · cases hc
          · cases hc
      · exact cmp_goes ts f r h hc
theorem ch_goes {un : List Tk → Ps} {low : Option Pr} (hu : Goes un) (hl : GoesO low) : Goes (chG un low) := fun ts f r h hc => by
  unfold chG at hc
  split at hc
  · cases hc
  · rename_i f1 r1 he
    obtain ⟨h1, l1⟩ := hu _ _ _ h he
    split at hc
    · rename_i hq
      obtain ⟨h2, l2⟩ := h1.is hq
      split at hc
      · cases hc
      · rename_i p
        split at hc
        · rename_i g r2 he2
          simp only [Ps.ok.injEq] at hc
          obtain ⟨-, rfl⟩ := hc
          obtain ⟨h3, l3⟩ := (hl p rfl).2.1 _ _ _ h2 he2
          exact ⟨h3, by omega⟩
        · cases hc
    · simp only [Ps.ok.injEq] at hc
      obtain ⟨-, rfl⟩ := hc
      exact ⟨h1, l1⟩
theorem liGo_goes {op : List Tk → Ps} {sign : ByteArray} (ho : Goes op) : ∀ (n : Nat) (acc : List Fm) (ts : List Tk) (l : List Fm) (r : List Tk), TkB ts → liGo op sign n acc ts = .ok l r → TkB r ∧ r.length ≤ ts.length
  | 0, acc, ts, l, r, h, hc => by
    simp only [liGo, Lr.ok.injEq] at hc
    obtain ⟨-, rfl⟩ := hc
    exact ⟨h, Nat.le_refl _⟩
  | n + 1, acc, ts, l, r, h, hc => by
    rw [liGo] at hc
    split at hc
    · rename_i hs
      obtain ⟨h1, l1⟩ := h.is hs
      split at hc
      · rename_i f r1 he
        obtain ⟨h2, l2⟩ := ho _ _ _ h1 he
        obtain ⟨h3, l3⟩ := liGo_goes ho n _ _ _ _ h2 hc
        exact ⟨h3, by omega⟩
      · cases hc
    · simp only [Lr.ok.injEq] at hc
      obtain ⟨-, rfl⟩ := hc
      exact ⟨h, Nat.le_refl _⟩
theorem finL_ok {kind : Int} {x : Lr} {f : Fm} {r : List Tk} (h : finL kind x = .ok f r) : ∃ l, x = .ok l r := by
  unfold finL at h
  split at h
  · cases h
  · simp only [Ps.ok.injEq] at h
    obtain ⟨-, rfl⟩ := h
    exact ⟨_, rfl⟩
  · simp only [Ps.ok.injEq] at h
    obtain ⟨-, rfl⟩ := h
    exact ⟨_, rfl⟩
theorem li_goes {op : List Tk → Ps} {kind : Int} {sign : ByteArray} (ho : Goes op) : Goes (liF op kind sign) := fun ts f r h hc => by
  unfold liF at hc
  split at hc
  · cases hc
  · rename_i f1 r1 he
    obtain ⟨h1, l1⟩ := ho _ _ _ h he
    obtain ⟨l, hx⟩ := finL_ok hc
    obtain ⟨h2, l2⟩ := liGo_goes ho _ _ _ _ _ h1 hx
    exact ⟨h2, by omega⟩
theorem prG_goes {low : Option Pr} (hl : GoesO low) : Goes (prG low).un ∧ Goes (prG low).ch ∧ Goes (prG low).fo :=
  ⟨un_goes hl, ch_goes (un_goes hl) hl, li_goes (li_goes (ch_goes (un_goes hl) hl))⟩
theorem pr_goes : ∀ d, Goes (pr d).un ∧ Goes (pr d).ch ∧ Goes (pr d).fo
  | 0 => prG_goes fun p h => by cases h
  | d + 1 => prG_goes fun p h => by cases h; exact pr_goes d
end Go.Proofs.YtpjcbadnpknncaaGreatDoor.Vm
/- The parser of formulas: lists. -/
namespace Go.Proofs.YtpjcbadnpknncaaGreatDoor.Vm
open Go.RowKit Go.Shelf
set_option linter.unusedSimpArgs false
set_option linter.unusedVariables false
set_option maxRecDepth 100000
def zero5 : List A := [intA 0, intA 0, intA 0, intA 0, .v (.slice none 0 0)]
theorem poP_ok {p : Ps} {o : List (List A)} {r : A} (h : poP p o r) : ∃ f ts, p = .ok f ts ∧ o = [bxT ts] ∧ r = .agg (fmA f) := by
  unfold poP at h
  split at h
  · exact ⟨_, _, rfl, h.1, h.2⟩
  · exact h.elim
theorem pnP_bad {p : Ps} {ch : List PanicEntry} (h : pnP p ch) : ∃ x e, p = .bad x e ∧ ch = failCh x e := by
  unfold pnP at h
  split at h
  · exact ⟨_, _, rfl, h⟩
  · exact h.elim
theorem pnP_mk {p : Ps} {x e : Int} {ch : List PanicEntry} (h : p = .bad x e) (k : ch = failCh x e) : pnP p ch := by subst h; exact k
set_option maxHeartbeats 1000000 in
theorem list_spec (op : List Tk → Ps) (kind : Int) (sign : ByteArray) (lv : Int) (g : Nat) (hgo : Goes op) (hop : ∀ ts, TkB ts → SpecP Tryz.prog g [bxT ts] [.box 0 0, intA lv] (poP (op ts)) (pnP (op ts))) (ts : List Tk) (h : TkB ts) :
    SpecP Tryz.prog 47 [bxT ts] [.box 0 0, intA lv, intA kind, strA sign, .bm g [.box 0 0]] (poP (liF op kind sign ts)) (pnP (liF op kind sign ts)) := by
  obtain ⟨P, hP⟩ : ∃ P, liF op kind sign ts = P := ⟨_, rfl⟩
  rw [hP]
  refine specP_of (cx_okP ord0 xs0 1 (fun ch _ => (pnP P) ch)) (fun _ _ h => h) Tryz.func47 rfl (by kernel_rfl) rfl (by kernel_rfl) ?_
  intro _
  unfold liF at hP
  have hspec := hop ts h
  have hl0 := h.2
  conv => whnf
  refine callP1 0 [] rfl rfl rfl rfl (fun _ => hspec) (fun ch bx' hp => ?_) ?_
  · obtain ⟨x, e, he, hc⟩ := pnP_bad hp
    rw [he] at hP
    exact pnP_mk hP.symm hc
  rintro o r hpo
  obtain ⟨f, r1, he, ho, rfl⟩ := poP_ok hpo
  cases ho
  rw [he] at hP
  simp only at hP
  obtain ⟨h1, l1⟩ := hgo _ _ _ h he
  conv => whnf
  refine loop_keep [0, 1, 2, 3, 4, 10, 11] ?_
  conv => whnf
  refine loop_goQ (fun _ : Nat × List Fm × List Tk => []) (fun x => [bxT x.2.2, zero5]) (fun x => [.live 25 5 x.2.1.length (fmsA x.2.1)]) (fun x => TkB x.2.2 ∧ x.2.2.length ≤ x.1 ∧ 1 ≤ x.2.1.length ∧ x.2.1.length + x.2.2.length ≤ 1000001 ∧ finL kind (liGo op sign x.1 x.2.1 x.2.2) = P) (fun x => x.2.2.length) (r1.length, [f], r1) ?_ ⟨h1, Nat.le_refl _, by simp, by simp only [List.length_cons, List.length_nil]; omega, hP⟩ ?_
  · unfold headQ
    repeat' constructor
    · show [Row.live _ _ _ _] = [Row.live _ _ _ _]
      rw [fmsA_cons, fmsA_nil]; rfl
  · rintro ⟨n, acc, ts1⟩ ⟨g1, g2, g3, g4, g5⟩
    simp only at g1 g2 g3 g4 g5
    conv => whnf
    refine call1 0 [] rfl rfl rfl rfl (fun _ => is_spec ts1 g1.1.pos sign) ?_
    rintro o r ⟨ho, rfl⟩
    cases ho
    conv => whnf
    cases hq : isT sign ts1 with
    | true =>
      obtain ⟨q1, q2⟩ := g1.is hq
      obtain ⟨m, rfl⟩ : ∃ m, n = m + 1 := ⟨n - 1, by have := g1.1.pos; omega⟩
      rw [liGo, if_pos hq] at g5
      have hnx := next_spec ts1 g1.1.pos
      generalize ts1.tail = ts2 at *
      conv => whnf
      refine call1 0 [] rfl rfl rfl rfl (fun _ => hnx) ?_
      rintro o r ⟨ho, rfl⟩
      cases ho
      conv => whnf
      refine callP1 0 [] rfl rfl rfl rfl (fun _ => hop ts2 q1) (fun ch bx' hp => ?_) ?_
      · obtain ⟨x, e, he, hc⟩ := pnP_bad hp
        rw [he] at g5
        exact pnP_mk g5.symm hc
      rintro o r hpo
      obtain ⟨f2, r2, he2, ho, rfl⟩ := poP_ok hpo
      cases ho
      rw [he2] at g5
      simp only at g5
      obtain ⟨h2, l2⟩ := hgo _ _ _ q1 he2
      conv => whnf
      refine ⟨⟨by simp only; unfold maxLen; omega, by simp only; omega⟩, ?_⟩
      conv => whnf
      refine ⟨(m, acc ++ [f2], r2), le_head ?_, ⟨h2, by simp only; omega, by simp, by simp only [List.length_append, List.length_cons, List.length_nil]; omega, g5⟩, by simp only; omega⟩
      repeat' constructor
      · simp only [List.length_append, List.length_cons, List.length_nil]
        rw [fmsA_snoc]; rfl
    | false =>
      have hlg : liGo op sign n acc ts1 = .ok acc ts1 := by
        cases n with
        | zero => rfl
        | succ m => rw [liGo, if_neg (by rw [hq]; simp)]
      rw [hlg] at g5
      rcases acc with _ | ⟨f1, acc⟩
      · simp at g3
      rcases acc with _ | ⟨f2, acc⟩
      · simp only [finL] at g5
        subst g5
        have e1 : fmsA [f1] = fmA f1 := by rw [fmsA_cons, fmsA_nil, List.append_nil]
        simp only [e1]
        conv => whnf
        (refine goA ?_; try with_reducible exact trivial)
        exact ⟨rfl, rfl⟩
      · simp only [finL] at g5
        subst g5
        have hln : (f1 :: f2 :: acc).length = acc.length + 2 := by simp
        generalize f1 :: f2 :: acc = L at *
        conv => whnf
        (refine goA ?_; try with_reducible exact trivial)
        exact ⟨rfl, rfl⟩
end Go.Proofs.YtpjcbadnpknncaaGreatDoor.Vm
/- The parser of formulas: its functions. -/
namespace Go.Proofs.YtpjcbadnpknncaaGreatDoor.Vm
open Go.RowKit Go.Shelf
set_option linter.unusedSimpArgs false
set_option linter.unusedVariables false
set_option maxRecDepth 100000
def PSpec (g : Nat) (lv : Int) (op : List Tk → Ps) : Prop := ∀ ts, TkB ts → SpecP Tryz.prog g [bxT ts] [.box 0 0, intA lv] (poP (op ts)) (pnP (op ts))
/-- What lies deeper is known. -/
def LowOk (lv : Int) (low : Option Pr) : Prop := 0 ≤ lv ∧ ((low = none ∧ lv = 20) ∨ ∃ p, low = some p ∧ lv + 1 ≤ 20 ∧ Goes p.un ∧ Goes p.ch ∧ Goes p.fo ∧
  PSpec 95 (lv + 1) p.un ∧ PSpec 79 (lv + 1) p.ch ∧ PSpec 26 (lv + 1) p.fo)
theorem fmA_one (k a b n : Int) (f : Fm) : fmA (.mk k a b n [f]) = [intA k, intA a, intA b, intA n, .sl 5 1 (fmA f)] := by
  have e1 : fmA f = fmsA [f] := by rw [fmsA_cons, fmsA_nil, List.append_nil]
  rw [e1]; rfl
theorem fmA_two (k a b n : Int) (f g : Fm) : fmA (.mk k a b n [f, g]) = [intA k, intA a, intA b, intA n, .sl 5 2 (fmA f ++ fmA g)] := by
  have e1 : fmA f ++ fmA g = fmsA [f, g] := by rw [fmsA_cons, fmsA_cons, fmsA_nil, List.append_nil]
  rw [e1]; rfl
theorem const_raw (b : Bool) : Spec Tryz.prog 59 [] [.v (.bool b)] fun _ r => r = .agg (raw0 (constF b)) := by
  refine spec_of (cx_ok ord0 xs0 0) (fun _ _ h => h) Tryz.func59 rfl (by kernel_rfl) rfl (by kernel_rfl) ?_
  intro _
  conv => whnf
  cases b with
  | true =>
    conv => whnf
    rfl
  | false =>
    conv => whnf
    rfl
theorem const_spec (b : Bool) : Spec Tryz.prog 59 [] [.v (.bool b)] fun _ r => r = .agg (fmA (constF b)) :=
  (const_raw b).weaken fun o r k => ⟨o, _, rfl, .refl o, by rw [k]; exact .agg (raw0_wk (by unfold constF; rfl))⟩
set_option maxHeartbeats 2000000 in
theorem unary_spec {lv : Int} {low : Option Pr} (hlo : LowOk lv low) : PSpec 95 lv (unG low) := by
  intro ts h
  obtain ⟨hlv, hlo⟩ := hlo
  obtain ⟨P, hP⟩ : ∃ P, unG low ts = P := ⟨_, rfl⟩
  rw [hP]
  have hl := h.1.pos
  have hr := row_hd hl
  have hopen := fun l => open_spec ts hl l
  have hnx := next_spec ts hl
  have htl : (unKind (hd ts).text).isSome = true → TkB ts.tail ∧ ts.tail.length + 1 = ts.length := fun hk => by
    obtain ⟨k, hk⟩ := Option.isSome_iff_exists.1 hk
    exact h.tail (un_kind h hk)
  refine specP_of (cx_okP ord95 xs0 1 (fun ch _ => (pnP P) ch)) (fun _ _ h => h) Tryz.func95 rfl (by kernel_rfl) rfl (by kernel_rfl) ?_
  intro _
  unfold unG at hP
  generalize hd ts = t at *
  conv => whnf
  (refine goA ?_; try with_reducible exact trivial)
  (generalize hrq : rowOf _ _ (tksL ts) = rq; obtain rfl : rq = tkL t := hrq.symm.trans (hr); clear hrq; conv => whnf)
  (refine call0 [] rfl (fun _ => unaries_spec) ?_; rintro r rfl; conv => whnf)
  by_cases h1 : t.text = kNot
  · have hU : unKind t.text = some 2 := by unfold unKind; rw [if_pos h1]
    rw [hU] at hP
    rw [show decide (t.text = (({ data := #[33] } : ByteArray), Value.int IntKind.i64 2).fst) = true from decide_eq_true h1]
    simp only at hP
    conv => whnf
    (refine goA ?_; try with_reducible exact trivial)
    rcases hlo with ⟨rfl, rfl⟩ | ⟨p, rfl, hle, gu, gc, gf, su, sc, sf⟩
    · simp only at hP
      refine callP1 0 [] rfl rfl rfl rfl (fun _ => hopen _) (fun ch bx' hp => pnP_mk hP.symm hp.2) ?_
      rintro o r ⟨hbad, _⟩
      omega
    · simp only at hP
      refine callP1 0 [] rfl rfl rfl rfl (fun _ => hopen _) (fun ch bx' hp => absurd hp.1 (by omega)) ?_
      rintro o r ⟨_, ho, rfl⟩
      cases ho
      obtain ⟨q1, q2⟩ := htl (by rw [hU]; rfl)
      generalize ts.tail = ts1 at *
      conv => whnf
      (refine goA ?_; try with_reducible exact trivial)
      refine callP1 0 [] rfl rfl rfl rfl (fun _ => su ts1 q1) (fun ch bx' hp => ?_) ?_
      · obtain ⟨x, e, he, hc⟩ := pnP_bad hp
        rw [he] at hP
        exact pnP_mk hP.symm hc
      rintro o r hpo
      obtain ⟨f, r1, he, ho, rfl⟩ := poP_ok hpo
      cases ho
      rw [he] at hP
      simp only at hP
      subst hP
      conv => whnf
      exact ⟨rfl, by rw [fmA_one]; rfl⟩
  rw [show decide (t.text = (({ data := #[33] } : ByteArray), Value.int IntKind.i64 2).fst) = false from decide_eq_false h1]
  conv => whnf
  by_cases h2 : t.text = kNext
  · have hU : unKind t.text = some 5 := by unfold unKind; rw [if_neg h1, if_pos h2]
    rw [hU] at hP
    rw [show decide (t.text = (({ data := #[110, 101, 120, 116] } : ByteArray), Value.int IntKind.i64 5).fst) = true from decide_eq_true h2]
    simp only at hP
    conv => whnf
    (refine goA ?_; try with_reducible exact trivial)
    rcases hlo with ⟨rfl, rfl⟩ | ⟨p, rfl, hle, gu, gc, gf, su, sc, sf⟩
    · simp only at hP
      refine callP1 0 [] rfl rfl rfl rfl (fun _ => hopen _) (fun ch bx' hp => pnP_mk hP.symm hp.2) ?_
      rintro o r ⟨hbad, _⟩
      omega
    · simp only at hP
      refine callP1 0 [] rfl rfl rfl rfl (fun _ => hopen _) (fun ch bx' hp => absurd hp.1 (by omega)) ?_
      rintro o r ⟨_, ho, rfl⟩
      cases ho
      obtain ⟨q1, q2⟩ := htl (by rw [hU]; rfl)
      generalize ts.tail = ts1 at *
      conv => whnf
      (refine goA ?_; try with_reducible exact trivial)
      refine callP1 0 [] rfl rfl rfl rfl (fun _ => su ts1 q1) (fun ch bx' hp => ?_) ?_
      · obtain ⟨x, e, he, hc⟩ := pnP_bad hp
        rw [he] at hP
        exact pnP_mk hP.symm hc
      rintro o r hpo
      obtain ⟨f, r1, he, ho, rfl⟩ := poP_ok hpo
      cases ho
      rw [he] at hP
      simp only at hP
      subst hP
      conv => whnf
      exact ⟨rfl, by rw [fmA_one]; rfl⟩
  rw [show decide (t.text = (({ data := #[110, 101, 120, 116] } : ByteArray), Value.int IntKind.i64 5).fst) = false from decide_eq_false h2]
  conv => whnf
  by_cases h3 : t.text = kAlw
  · have hU : unKind t.text = some 7 := by unfold unKind; rw [if_neg h1, if_neg h2, if_pos h3]
    rw [hU] at hP
    rw [show decide (t.text = (({ data := #[97, 108, 119, 97, 121, 115] } : ByteArray), Value.int IntKind.i64 7).fst) = true from decide_eq_true h3]
    simp only at hP
    conv => whnf
    (refine goA ?_; try with_reducible exact trivial)
    rcases hlo with ⟨rfl, rfl⟩ | ⟨p, rfl, hle, gu, gc, gf, su, sc, sf⟩
    · simp only at hP
      refine callP1 0 [] rfl rfl rfl rfl (fun _ => hopen _) (fun ch bx' hp => pnP_mk hP.symm hp.2) ?_
      rintro o r ⟨hbad, _⟩
      omega
    · simp only at hP
      refine callP1 0 [] rfl rfl rfl rfl (fun _ => hopen _) (fun ch bx' hp => absurd hp.1 (by omega)) ?_
      rintro o r ⟨_, ho, rfl⟩
      cases ho
      obtain ⟨q1, q2⟩ := htl (by rw [hU]; rfl)
      generalize ts.tail = ts1 at *
      conv => whnf
      (refine goA ?_; try with_reducible exact trivial)
      refine callP1 0 [] rfl rfl rfl rfl (fun _ => su ts1 q1) (fun ch bx' hp => ?_) ?_
      · obtain ⟨x, e, he, hc⟩ := pnP_bad hp
        rw [he] at hP
        exact pnP_mk hP.symm hc
      rintro o r hpo
      obtain ⟨f, r1, he, ho, rfl⟩ := poP_ok hpo
      cases ho
      rw [he] at hP
      simp only at hP
      subst hP
      conv => whnf
      exact ⟨rfl, by rw [fmA_one]; rfl⟩
  rw [show decide (t.text = (({ data := #[97, 108, 119, 97, 121, 115] } : ByteArray), Value.int IntKind.i64 7).fst) = false from decide_eq_false h3]
  conv => whnf
  by_cases h4 : t.text = kEv
  · have hU : unKind t.text = some 8 := by unfold unKind; rw [if_neg h1, if_neg h2, if_neg h3, if_pos h4]
    rw [hU] at hP
    rw [show decide (t.text = (({ data := #[101, 118, 101, 110, 116, 117, 97, 108, 108, 121] } : ByteArray), Value.int IntKind.i64 8).fst) = true from decide_eq_true h4]
    simp only at hP
    conv => whnf
    (refine goA ?_; try with_reducible exact trivial)
    rcases hlo with ⟨rfl, rfl⟩ | ⟨p, rfl, hle, gu, gc, gf, su, sc, sf⟩
    · simp only at hP
      refine callP1 0 [] rfl rfl rfl rfl (fun _ => hopen _) (fun ch bx' hp => pnP_mk hP.symm hp.2) ?_
      rintro o r ⟨hbad, _⟩
      omega
    · simp only at hP
      refine callP1 0 [] rfl rfl rfl rfl (fun _ => hopen _) (fun ch bx' hp => absurd hp.1 (by omega)) ?_
      rintro o r ⟨_, ho, rfl⟩
      cases ho
      obtain ⟨q1, q2⟩ := htl (by rw [hU]; rfl)
      generalize ts.tail = ts1 at *
      conv => whnf
      (refine goA ?_; try with_reducible exact trivial)
      refine callP1 0 [] rfl rfl rfl rfl (fun _ => su ts1 q1) (fun ch bx' hp => ?_) ?_
      · obtain ⟨x, e, he, hc⟩ := pnP_bad hp
        rw [he] at hP
        exact pnP_mk hP.symm hc
      rintro o r hpo
      obtain ⟨f, r1, he, ho, rfl⟩ := poP_ok hpo
      cases ho
      rw [he] at hP
      simp only at hP
      subst hP
      conv => whnf
      exact ⟨rfl, by rw [fmA_one]; rfl⟩
  rw [show decide (t.text = (({ data := #[101, 118, 101, 110, 116, 117, 97, 108, 108, 121] } : ByteArray), Value.int IntKind.i64 8).fst) = false from decide_eq_false h4]
  conv => whnf
  have hU : unKind t.text = none := by unfold unKind; rw [if_neg h1, if_neg h2, if_neg h3, if_neg h4]
  rw [hU] at hP
  simp only at hP
  have his := fun s => is_spec ts hl s
  have hti := fun s (hk : isT s ts = true) => h.is hk
  clear htl
  refine call1 0 [] rfl rfl rfl rfl (fun _ => his kTrue) ?_
  rintro o r ⟨ho, rfl⟩
  cases ho
  cases hT : isT kTrue ts with
  | true =>
    rw [hT, Bool.true_or, if_pos rfl] at hP
    conv => whnf
    refine call1 0 [] rfl rfl rfl rfl (fun _ => hnx) ?_
    rintro o r ⟨ho, rfl⟩
    cases ho
    conv => whnf
    (refine call0 [] rfl (fun _ => const_spec _) ?_; rintro r rfl; conv => whnf)
    subst hP
    exact ⟨rfl, rfl⟩
  | false =>
    conv => whnf
    refine call1 0 [] rfl rfl rfl rfl (fun _ => his kFalse) ?_
    rintro o r ⟨ho, rfl⟩
    cases ho
    cases hF : isT kFalse ts with
    | true =>
      rw [hT, hF, Bool.false_or, if_pos rfl] at hP
      conv => whnf
      refine call1 0 [] rfl rfl rfl rfl (fun _ => hnx) ?_
      rintro o r ⟨ho, rfl⟩
      cases ho
      conv => whnf
      (refine call0 [] rfl (fun _ => const_spec _) ?_; rintro r rfl; conv => whnf)
      subst hP
      exact ⟨rfl, rfl⟩
    | false =>
      rw [hT, hF, Bool.false_or, if_neg (by simp)] at hP
      conv => whnf
      refine call1 0 [] rfl rfl rfl rfl (fun _ => his kLp) ?_
      rintro o r ⟨ho, rfl⟩
      cases ho
      cases hL : isT kLp ts with
      | true =>
        rw [hL, if_pos rfl] at hP
        obtain ⟨q1, q2⟩ := hti _ hL
        conv => whnf
        (refine goA ?_; try with_reducible exact trivial)
        rcases hlo with ⟨rfl, rfl⟩ | ⟨p, rfl, hle, gu, gc, gf, su, sc, sf⟩
        · simp only at hP
          refine callP1 0 [] rfl rfl rfl rfl (fun _ => hopen _) (fun ch bx' hp => pnP_mk hP.symm hp.2) ?_
          rintro o r ⟨hbad, _⟩
          omega
        · simp only at hP
          refine callP1 0 [] rfl rfl rfl rfl (fun _ => hopen _) (fun ch bx' hp => absurd hp.1 (by omega)) ?_
          rintro o r ⟨_, ho, rfl⟩
          cases ho
          generalize ts.tail = ts1 at *
          conv => whnf
          (refine goA ?_; try with_reducible exact trivial)
          refine callP1 0 [] rfl rfl rfl rfl (fun _ => sf ts1 q1) (fun ch bx' hp => ?_) ?_
          · obtain ⟨x, e, he, hc⟩ := pnP_bad hp
            rw [he] at hP
            exact pnP_mk hP.symm hc
          rintro o r hpo
          obtain ⟨f, r1, he, ho, rfl⟩ := poP_ok hpo
          cases ho
          rw [he] at hP
          simp only at hP
          obtain ⟨g1, g2⟩ := gf _ _ _ q1 he
          conv => whnf
          refine call1 0 [] rfl rfl rfl rfl (fun _ => is_spec r1 g1.1.pos kRp) ?_
          rintro o r ⟨ho, rfl⟩
          cases ho
          cases hR : isT kRp r1 with
          | true =>
            rw [hR, if_pos rfl] at hP
            have hnx1 := next_spec r1 g1.1.pos
            conv => whnf
            refine call1 0 [] rfl rfl rfl rfl (fun _ => hnx1) ?_
            rintro o r ⟨ho, rfl⟩
            cases ho
            conv => whnf
            subst hP
            exact ⟨rfl, rfl⟩
          | false =>
            rw [hR, if_neg (by simp)] at hP
            conv => whnf
            refine callP1 0 [] rfl rfl rfl rfl (fun _ => fail_spec r1 g1.1.pos 10) (fun ch bx' hp => pnP_mk hP.symm hp) ?_
            rintro o r ⟨⟩
      | false =>
        rw [hL, if_neg (by simp)] at hP
        conv => whnf
        refine callP1 0 [] rfl rfl rfl rfl (fun _ => cmp_spec ts h.1) (fun ch bx' hp => by rw [← hP]; exact hp) ?_
        rintro o r hpo
        obtain ⟨f, r1, he, ho, rfl⟩ := poP_ok hpo
        cases ho
        rw [he] at hP
        subst hP
        conv => whnf
        exact ⟨rfl, rfl⟩
end Go.Proofs.YtpjcbadnpknncaaGreatDoor.Vm
/- The parser of formulas: all its functions, at every level. -/
namespace Go.Proofs.YtpjcbadnpknncaaGreatDoor.Vm
open Go.RowKit Go.Shelf
set_option linter.unusedSimpArgs false
set_option linter.unusedVariables false
set_option maxRecDepth 100000
set_option maxHeartbeats 1000000 in
theorem chain_spec {lv : Int} {low : Option Pr} (hlo : LowOk lv low) (hgu : Goes (unG low)) : PSpec 79 lv (chG (unG low) low) := by
  intro ts h
  have hun := unary_spec hlo ts h
  obtain ⟨hlv, hlo⟩ := hlo
  obtain ⟨P, hP⟩ : ∃ P, chG (unG low) low ts = P := ⟨_, rfl⟩
  rw [hP]
  refine specP_of (cx_okP ord79 (fun _ => [0]) 1 (fun ch _ => (pnP P) ch)) (fun _ _ h => h) Tryz.func79 rfl (by kernel_rfl) rfl (by kernel_rfl) ?_
  intro _
  unfold chG at hP
  conv => whnf
  refine callP1 0 [] rfl rfl rfl rfl (fun _ => hun) (fun ch bx' hp => ?_) ?_
  · obtain ⟨x, e, he, hc⟩ := pnP_bad hp
    rw [he] at hP
    exact pnP_mk hP.symm hc
  rintro o r hpo
  obtain ⟨f, r1, he, ho, rfl⟩ := poP_ok hpo
  cases ho
  rw [he] at hP
  simp only at hP
  obtain ⟨g1, g2⟩ := hgu _ _ _ h he
  have hti := fun (hk : isT kUntil r1 = true) => g1.is hk
  have hopen := fun l => open_spec r1 g1.1.pos l
  conv => whnf
  refine call1 0 [] rfl rfl rfl rfl (fun _ => is_spec r1 g1.1.pos kUntil) ?_
  rintro o r ⟨ho, rfl⟩
  cases ho
  cases hR : isT kUntil r1 with
  | false =>
    rw [hR, if_neg (by simp)] at hP
    conv => whnf
    subst hP
    exact ⟨rfl, rfl⟩
  | true =>
    rw [hR, if_pos rfl] at hP
    conv => whnf
    (refine goA ?_; try with_reducible exact trivial)
    rcases hlo with ⟨rfl, rfl⟩ | ⟨p, rfl, hle, gu, gc, gf, su, sc, sf⟩
    · simp only at hP
      refine callP1 0 [] rfl rfl rfl rfl (fun _ => hopen _) (fun ch bx' hp => pnP_mk hP.symm hp.2) ?_
      rintro o r ⟨hbad, _⟩
      omega
    · simp only at hP
      refine callP1 0 [] rfl rfl rfl rfl (fun _ => hopen _) (fun ch bx' hp => absurd hp.1 (by omega)) ?_
      rintro o r ⟨_, ho, rfl⟩
      cases ho
      obtain ⟨q1, q2⟩ := hti hR
      generalize r1.tail = ts1 at *
      conv => whnf
      (refine goA ?_; try with_reducible exact trivial)
      refine callP1 0 [] rfl rfl rfl rfl (fun _ => sc ts1 q1) (fun ch bx' hp => ?_) ?_
      · obtain ⟨x, e, he, hc⟩ := pnP_bad hp
        rw [he] at hP
        exact pnP_mk hP.symm hc
      rintro o r hpo
      obtain ⟨f2, r2, he2, ho, rfl⟩ := poP_ok hpo
      cases ho
      rw [he2] at hP
      simp only at hP
      subst hP
      conv => whnf
      exact ⟨rfl, by rw [fmA_two]; rfl⟩
theorem conj_spec {lv : Int} {op : List Tk → Ps} (hgo : Goes op) (hop : PSpec 79 lv op) : PSpec 48 lv (liF op 3 kAnd) := by
  intro ts h
  have hls := list_spec op 3 kAnd lv 79 hgo hop ts h
  generalize liF op 3 kAnd ts = P at *
  refine specP_of (cx_okP ord0 xs0 1 (fun ch _ => (pnP P) ch)) (fun _ _ h => h) Tryz.func48 rfl (by kernel_rfl) rfl (by kernel_rfl) ?_
  intro _
  conv => whnf
  refine callP1 0 [] rfl rfl rfl rfl (fun _ => hls) (fun ch bx' hp => hp) ?_
  rintro o r hpo
  obtain ⟨f, r1, rfl, ho, rfl⟩ := poP_ok hpo
  cases ho
  conv => whnf
  exact ⟨rfl, rfl⟩
theorem form_spec {lv : Int} {op : List Tk → Ps} (hgo : Goes op) (hop : PSpec 79 lv op) : PSpec 26 lv (foG op) := by
  intro ts h
  have hls := list_spec (liF op 3 kAnd) 4 kOr lv 48 (li_goes hgo) (conj_spec hgo hop) ts h
  unfold foG
  generalize liF (liF op 3 kAnd) 4 kOr ts = P at *
  refine specP_of (cx_okP ord0 xs0 1 (fun ch _ => (pnP P) ch)) (fun _ _ h => h) Tryz.func26 rfl (by kernel_rfl) rfl (by kernel_rfl) ?_
  intro _
  conv => whnf
  refine callP1 0 [] rfl rfl rfl rfl (fun _ => hls) (fun ch bx' hp => hp) ?_
  rintro o r hpo
  obtain ⟨f, r1, rfl, ho, rfl⟩ := poP_ok hpo
  cases ho
  conv => whnf
  exact ⟨rfl, rfl⟩
theorem prG_spec {lv : Int} {low : Option Pr} (hlo : LowOk lv low) (hg : GoesO low) : PSpec 95 lv (prG low).un ∧ PSpec 79 lv (prG low).ch ∧ PSpec 26 lv (prG low).fo :=
  ⟨unary_spec hlo, chain_spec hlo (un_goes hg), form_spec (ch_goes (un_goes hg) hg) (chain_spec hlo (un_goes hg))⟩
theorem pr_spec : ∀ d : Nat, d ≤ 20 → PSpec 95 (20 - d : Int) (pr d).un ∧ PSpec 79 (20 - d : Int) (pr d).ch ∧ PSpec 26 (20 - d : Int) (pr d).fo
  | 0, _ => prG_spec ⟨by decide, .inl ⟨rfl, rfl⟩⟩ fun p h => by cases h
  | d + 1, h => by
    have ih := pr_spec d (by omega)
    have hg := pr_goes d
    rw [show ((20 : Int) - (d : Nat)) = (20 - ((d + 1 : Nat) : Int)) + 1 by omega] at ih
    exact prG_spec ⟨by omega, .inr ⟨_, rfl, by omega, hg.1, hg.2.1, hg.2.2, ih.1, ih.2.1, ih.2.2⟩⟩ fun p h => by cases h; exact hg
end Go.Proofs.YtpjcbadnpknncaaGreatDoor.Vm
/- The tokens that the lexer hands to the parser of formulas; where an error lies. No walk here. -/
namespace Go.Proofs.YtpjcbadnpknncaaGreatDoor.Vm
open Go.RowKit Go.Shelf
set_option linter.unusedSimpArgs false
set_option linter.unusedVariables false
set_option maxRecDepth 100000
theorem isD_le {c : UInt8} (h : isD c = true) : c.toNat - 48 ≤ 9 := by
  simp only [isD, Bool.and_eq_true, decide_eq_true_eq] at h
  omega
theorem numG_nil (n : Nat) : numG n [] = n := rfl
theorem numG_cons (n : Nat) (c : UInt8) (r : List UInt8) : numG n (c :: r) = numG (10 * n + (c.toNat - 48)) r := by kernel_rfl
theorem numG_le (l : List UInt8) : ∀ (n : Nat), allD l = true → numG n l + 1 ≤ (n + 1) * 10 ^ l.length := by
  induction l with
  | nil => intro n _; rw [numG_nil]; simp
  | cons c r ih =>
    intro n h
    simp only [allD, List.all_cons, Bool.and_eq_true] at h
    have := isD_le h.1
    have ih := ih (10 * n + (c.toNat - 48)) h.2
    rw [numG_cons, List.length_cons, Nat.pow_succ]
    refine Nat.le_trans ih ?_
    generalize 10 ^ r.length = p at *
    rw [show (n + 1) * (p * 10) = (10 * n + 10) * p by rw [Nat.mul_comm p 10, ← Nat.mul_assoc]; congr 1; omega]
    exact Nat.mul_le_mul_right _ (by omega)
theorem small_short {l : List UInt8} (h : l.length ≤ 10) : smallD l := fun k hk hd => by
  have h1 := numG_le _ 0 hd
  have h2 : (l.take k).length ≤ 10 := by rw [List.length_take]; omega
  have h3 : 10 ^ (l.take k).length ≤ 10 ^ 10 := Nat.pow_le_pow_right (by decide) h2
  have h4 : (10 : Nat) ^ 10 = 10000000000 := by decide
  omega
theorem small_nodig {c : UInt8} {r : List UInt8} (h : isD c = false) : smallD (c :: r) := fun k hk hd => by
  cases k with
  | zero => rw [List.take_zero, numG_nil]; decide
  | succ k =>
    simp only [List.take_succ_cons, allD, List.all_cons, h, Bool.false_and] at hd
    cases hd
theorem numG_valF : ∀ (l : List UInt8) (n : Nat) (k : Nat), 0 ≤ valF n l → allD l = true → n ≤ 2147483647 → numG n (l.take k) ≤ 2147483647
  | [], n, k, _, _, hn => by rw [List.take_nil, numG_nil]; exact hn
  | c :: r, n, k, h, hd, hn => by
    simp only [allD, List.all_cons, Bool.and_eq_true] at hd
    have hc := hd.1
    simp only [isD, Bool.and_eq_true, decide_eq_true_eq] at hc
    rw [valF] at h
    split at h
    · omega
    · rename_i hv
      cases k with
      | zero => rw [List.take_zero, numG_nil]; exact hn
      | succ k =>
        rw [List.take_succ_cons, numG_cons]
        have e : (((10 * n + (c.toNat - 48) : Nat)) : Int) = 10 * (n : Int) + c.toNat - 48 := by omega
        refine numG_valF r (10 * n + (c.toNat - 48)) k ?_ hd.2 (by omega)
        rw [e]; exact h
theorem allD_span : ∀ r : List UInt8, allD (r.take (spanN isD r)) = true
  | [] => rfl
  | c :: r => by
    rw [spanN]
    cases h : isD c with
    | false => rfl
    | true =>
      simp only [List.take_succ_cons, allD, List.all_cons, h, Bool.true_and]
      exact allD_span r
theorem isL_D {c : UInt8} (h : isL c = true) : isD c = false := by
  simp only [isL, Bool.and_eq_true, decide_eq_true_eq] at h
  simp only [isD, Bool.and_eq_false_iff, decide_eq_false_iff_not]
  right; omega
theorem cut_size (s : ByteArray) : (cutF s).1.size ≤ s.size := by
  cases h : s.data.toList with
  | nil => rw [cutF_nil h]; exact Nat.le_refl _
  | cons c r =>
    have hl := size_len s
    rw [h, List.length_cons] at hl
    by_cases hc : c = 118
    · subst hc
      rw [cutF_v h, bs_size]; omega
    · rw [cutF_no h hc]; exact Nat.le_refl _
theorem cut_short {s : ByteArray} (h : s.size ≤ 10) : smallD (cutF s).1.data.toList := by
  have h1 := cut_size s
  have h2 := size_len (cutF s).1
  exact small_short (by omega)
theorem tok_small {l : List UInt8} {k : Int} {len : Nat} {n : Int} (h : tokF l = .tok k len n) : smallD (cutF (bs (l.take len))).1.data.toList := by
  have hle := tokF_len h
  have hsz : (bs (l.take len)).size = len := take_size l len hle.2
  cases l with
  | nil => simp [tokF] at h
  | cons c r =>
    cases hL : isL c
    · cases hD : isD c
      · refine cut_short ?_
        cases h3 : hasF twos (bs ((c :: r).take 2))
        · cases h4 : hasF ones (bs [c])
          · simp only [tokF, hL, hD, h3, h4] at h
            cases h
          · simp only [tokF, hL, hD, h3, h4] at h
            cases h; omega
        · simp only [tokF, hL, hD, h3] at h
          cases h; omega
      · simp only [tokF, hL, hD] at h
        split at h
        · cases h
        · rename_i hv
          cases h
          have hc : c ≠ 118 := fun e => by subst e; simp [isD] at hD; 
          have hlist : (bs ((c :: r).take (spanN isD r + 1))).data.toList = c :: r.take (spanN isD r) := by rw [bs_list, List.take_succ_cons]
          rw [cutF_no hlist hc, hlist]
          intro j hj hd
          have h0 : allD (c :: r.take (spanN isD r)) = true := by
            simp only [allD, List.all_cons, hD, Bool.true_and]
            exact allD_span r
          have := numG_valF (c :: r.take (spanN isD r)) 0 j (by simpa using hv) h0 (by omega)
          omega
    · simp only [tokF, hL] at h
      split at h
      · cases h
      · cases h
        exact cut_short (by omega)
theorem lexG_small : ∀ (f p : Nat) (l : List UInt8), ∀ t ∈ (lexG f p l).toks, smallD (cutF t.text).1.data.toList
  | 0, p, l => by simp [lexG]
  | f + 1, p, [] => by simp [lexG]
  | f + 1, p, c :: r => by
    rw [lexG]
    split
    · exact lexG_small f _ _
    · split
      · exact lexG_small f _ _
      · cases ht : tokF (c :: r) with
        | bad e => simp
        | tok k len n =>
          intro t hm
          simp only [Lx.cons, List.mem_cons] at hm
          rcases hm with rfl | hm
          · exact tok_small ht
          · exact lexG_small f _ _ t hm
theorem tkW_mk {e : Tk} (he : tkGood e ∧ e.kind = 0 ∧ e.text.data.toList = []) : ∀ l : List Tk, (∀ t ∈ l, tkGood t ∧ t.kind ≠ 0) → TkW (l ++ [e])
  | [], _ => ⟨he.1, .inl ⟨rfl, he.2⟩⟩
  | t :: l, h => ⟨(h t (by simp)).1, .inr ⟨(h t (by simp)).2, tkW_mk he l fun x hx => h x (by simp [hx])⟩⟩
theorem row_tkB {s : ByteArray} (hs : s.size ≤ 3000) (he : (lexF' s).err = none) : TkB (rowT s) := by
  rw [rowT_none he]
  have hl := size_len s
  have hlen := (lexG_ok (s.data.toList.length + 1) 0 s.data.toList).1
  refine ⟨tkW_mk ⟨⟨?_, ?_, ?_, ?_⟩, rfl, rfl⟩ _ fun t ht => ?_, ?_⟩
  · show (⟨#[]⟩ : ByteArray).size ≤ _; decide
  · exact cut_short (by show (⟨#[]⟩ : ByteArray).size ≤ _; decide)
  · exact Nat.le_trans (cut_size _) (by show (⟨#[]⟩ : ByteArray).size ≤ _; decide)
  · exact ⟨by show (0 : Int) ≤ 0; decide, by show (0 : Int) ≤ _; decide, by show s.size ≤ _; omega⟩
  · have h1 := lexG_tk (s.data.toList.length + 1) 0 s.data.toList (by omega) t ht
    exact ⟨⟨h1.2.2.1, lexG_small _ _ _ t ht, Nat.le_trans (cut_size _) h1.2.2.1, h1.2.2.2.1, h1.2.2.2.2, h1.2.1⟩, by have := h1.1.1; omega⟩
  · have : (lexF' s).toks.length ≤ s.data.toList.length := hlen
    simp only [List.length_append, List.length_cons, List.length_nil]
    omega
/-! ### Where an error lies -/
def Sane : Ps → Prop
  | .bad x e => (0 ≤ x ∧ x ≤ 1000000000) ∧ 0 < e ∧ e ≤ 100
  | _ => True
def SaneO (op : List Tk → Ps) : Prop := ∀ ts, TkB ts → Sane (op ts)
theorem TkB.pos {ts : List Tk} (h : TkB ts) : (hd ts).pos ≤ 1000000000 := h.1.good.2.2.2.2.2
theorem sane_bad {ts : List Tk} (h : TkB ts) {e : Int} (he : 0 < e ∧ e ≤ 100) : Sane (.bad (hd ts).pos e) := ⟨⟨by omega, by have := h.pos; omega⟩, he⟩
theorem cmp_sane : SaneO cmpF := fun ts h => by
  have hb := fun (t2 : List Tk) (h2 : TkB t2) => sane_bad h2 (e := 10) (by decide)
  unfold cmpF
  split
  · exact hb _ h
  · rename_i hF
    split
    · exact hb _ h
    · split
      · exact sane_bad h (by decide)
      · have hk0 : (hd ts).kind ≠ 0 := fun h0 => by
          have := (h.1.end' h0).1
          unfold cutF at hF
          rw [this] at hF
          exact hF rfl
        obtain ⟨h1, l1⟩ := h.tail hk0
        split
        · exact hb _ h1
        · rename_i hi
          obtain ⟨h2, l2⟩ : TkB ts.tail.tail ∧ ts.tail.tail.length + 1 = ts.tail.length := by
            rcases idxS_rng ts.tail cmpTs 0 (by omega) with h2 | ⟨_, _, s, hs⟩
            · omega
            · exact h1.is hs
          have h3 : TkB (signF ts.tail.tail).2 := by
            unfold signF
            split
            · rename_i hm
              exact (h2.is hm).1
            · exact h2
          split
          · exact hb _ h3
          · trivial
def SanO (low : Option Pr) : Prop := ∀ p, low = some p → SaneO p.un ∧ SaneO p.ch ∧ SaneO p.fo
theorem un_sane {low : Option Pr} (hg : GoesO low) (hl : SanO low) : SaneO (unG low) := fun ts h => by
  unfold unG
  split
  · rename_i k hk
    obtain ⟨h1, l1⟩ := h.tail (un_kind h hk)
    split
    · exact sane_bad h (by decide)
    · rename_i p
      have := (hl p rfl).1 _ h1
      split
      · trivial
      · rename_i x e he
        rw [he] at this; exact this
  · split
    · trivial
    · split
      · rename_i hp
        obtain ⟨h1, l1⟩ := h.is hp
        split
        · exact sane_bad h (by decide)
        · rename_i p
          have := (hl p rfl).2.2 _ h1
          split
          · rename_i f' r' he
            obtain ⟨h2, l2⟩ := (hg p rfl).2.2 _ _ _ h1 he
            split
            · trivial
            · exact sane_bad h2 (by decide)
          · rename_i x e he
            rw [he] at this; exact this
      · exact cmp_sane ts h
theorem ch_sane {un : List Tk → Ps} {low : Option Pr} (hu : Goes un) (hs : SaneO un) (hl : SanO low) : SaneO (chG un low) := fun ts h => by
  unfold chG
  have h0 := hs ts h
  split
  · rename_i x e he
    rw [he] at h0; exact h0
  · rename_i f1 r1 he
    obtain ⟨h1, l1⟩ := hu _ _ _ h he
    split
    · rename_i hq
      obtain ⟨h2, l2⟩ := h1.is hq
      split
      · exact sane_bad h1 (by decide)
      · rename_i p
        have := (hl p rfl).2.1 _ h2
        split
        · trivial
        · rename_i x e he2
          rw [he2] at this; exact this
    · trivial
def SaneL : Lr → Prop
  | .bad x e => (0 ≤ x ∧ x ≤ 1000000000) ∧ 0 < e ∧ e ≤ 100
  | _ => True
theorem liGo_sane {op : List Tk → Ps} {sign : ByteArray} (hg : Goes op) (ho : SaneO op) : ∀ (n : Nat) (acc : List Fm) (ts : List Tk), TkB ts → SaneL (liGo op sign n acc ts)
  | 0, acc, ts, h => by rw [liGo]; trivial
  | n + 1, acc, ts, h => by
    rw [liGo]
    split
    · rename_i hs
      obtain ⟨h1, l1⟩ := h.is hs
      have := ho _ h1
      split
      · rename_i f r1 he
        exact liGo_sane hg ho n _ _ (hg _ _ _ h1 he).1
      · rename_i x e he
        rw [he] at this; exact this
    · trivial
theorem finL_sane {kind : Int} {x : Lr} (h : SaneL x) : Sane (finL kind x) := by
  unfold finL
  split
  · exact h
  · trivial
  · trivial
theorem li_sane {op : List Tk → Ps} {kind : Int} {sign : ByteArray} (hg : Goes op) (ho : SaneO op) : SaneO (liF op kind sign) := fun ts h => by
  unfold liF
  have h0 := ho ts h
  split
  · rename_i x e he
    rw [he] at h0; exact h0
  · rename_i f1 r1 he
    exact finL_sane (liGo_sane hg ho _ _ _ (hg _ _ _ h he).1)
theorem prG_sane {low : Option Pr} (hg : GoesO low) (hl : SanO low) : SaneO (prG low).un ∧ SaneO (prG low).ch ∧ SaneO (prG low).fo :=
  ⟨un_sane hg hl, ch_sane (un_goes hg) (un_sane hg hl) hl, li_sane (li_goes (ch_goes (un_goes hg) hg)) (li_sane (ch_goes (un_goes hg) hg) (ch_sane (un_goes hg) (un_sane hg hl) hl))⟩
theorem pr_sane : ∀ d, SaneO (pr d).un ∧ SaneO (pr d).ch ∧ SaneO (pr d).fo
  | 0 => prG_sane (fun p h => by cases h) (fun p h => by cases h)
  | d + 1 => prG_sane (fun p h => by cases h; exact pr_goes d) (fun p h => by cases h; exact pr_sane d)
end Go.Proofs.YtpjcbadnpknncaaGreatDoor.Vm
/- Deferred calls; what a recovered panic leaves. -/
namespace Go.Proofs.YtpjcbadnpknncaaGreatDoor.Vm
open Go.RowKit
set_option linter.unusedSimpArgs false
set_option linter.unusedVariables false
/-- A deferred call that finds its frame so, and leaves it so. -/
def ClD (P : Program) (f : Nat) (u u' : FrameMode) : Array Value → World → (Ending → World → Prop) → Prop := fun vs w R => CallsD P f vs u w fun e m w' => m = u' ∧ R e w'
theorem ClD.mono {P : Program} {f : Nat} {u u' : FrameMode} {vs : Array Value} {w : World} {R R' : Ending → World → Prop} (h : ∀ e w', R e w' → R' e w') (k : ClD P f u u' vs w R) : ClD P f u u' vs w R' :=
  CallsD.mono k fun e m w' ⟨h1, h2⟩ => ⟨h1, h _ _ h2⟩
@[irreducible] def DfrW (P : Program) (u u' : FrameMode) (f : Nat) (args : List A) (s : S) (K : S → Prop) : Prop :=
  (∀ vs w, (callFunc f vs).run P w = .ok (.enter f vs) w) ∧
  ∃ (X ids : List Nat) (ins : List (List A)) (args' : List A) (post : List (List A) → A → Prop), X.Nodup ∧ (∀ i ∈ X, i < s.bx.length) ∧
    renLL X (pubRows s.rw ids) (X.map fun i => s.bx.getD i []) = some ins ∧ renL X (pubRows s.rw ids) args = some args' ∧ (okL args' → SpecX (ClD P f u u') ins args' post fun _ => False) ∧
    ∀ outs r, post outs r → outs.length = X.length → outK X s.bx X outs fun bx' => force (back X r) fun _ => forceR (pubRows s.rw ids) fun rw' => withBR s bx' rw' K
/-- The way out: the deferred calls, then what is handed back. -/
def leaveK (c : Cx) (rv : List ResultVar) (post : List (List A) → A → Prop) : List (Nat × List A) → FrameMode → S → Prop
  | [], .returning, s => retK c rv post s
  | [], _, _ => False
  | (f, args) :: r, u, s => u ≠ .run ∧ ∃ u', DfrW c.P u u' f args s fun s' => leaveK c rv post r (settle u') s'
section
variable {c : Cx} {w0 : World} {C0 : Rd} {β0 : List Nat}
theorem leaves_ok {fn : Func} {post : List (List A) → A → Prop} {R : Ending → World → Prop} {tmps : Array Value} (hfin : ∀ s' w', retK c fn.results.toList post s' → Inv [] w0 C0 β0 s' { tmps := tmps, defers := [] } w' → ∃ v, (results fn tmps).run c.P w' = .ok v w' ∧ R (.returned v) w') :
    ∀ (dr : List (Nat × List A)) (ds : List Deferred) (u : FrameMode) (s : S) (E : Env) (w : World), repD dr E ds → Hp w0 C0 β0 s.bx s.rw w E → A.repL s.t E tmps.toList → leaveK c fn.results.toList post dr u s → Leaves c.P fn tmps R ds u w
  | [], ds, u, s, E, w, hd, hp, ht, h => by
    obtain rfl : ds = [] := hd
    cases u with
    | returning => exact hfin s w h ⟨E, hp, ht, rfl⟩
    | run => exact h.elim
    | panicking ch => exact h.elim
  | (f, args) :: r, ds, u, s, E, w, ⟨d, ds', cap, hds, htg, hargs, hrest⟩, hp, ht, h => by
    subst hds
    obtain ⟨hu, u', h⟩ := h
    unfold DfrW at h
    obtain ⟨hcall, X, ids, ins, args', post', hn, hX, hins, hargs', hspec, hk⟩ := h
    have hcx := call_okX (pan := fun _ _ => False) (Xr := fun _ => true) (K := fun _ s' => leaveK c fn.results.toList post r (settle u') s') (Cl := ClD c.P f u u') ClD.mono hp hargs hn (fun _ _ => rfl) hX hins hargs' hspec (fun outs r hp hl => hk outs r hp hl) (fun ch bx' h _ _ => h.elim)
    obtain ⟨t, da⟩ := d
    simp only at htg hargs hcx
    subst htg
    refine leaves_cons (f := f) (args := da ++ cap) hu (by simp [invoke, hcall]) ?_
    have hcx' : CallsD c.P f (da ++ cap) u w fun e m w' => m = u' ∧ ((∃ y, e = .returned y ∧ Left w0 C0 β0 (fun _ => true) s E w (fun _ s' => leaveK c fn.results.toList post r (settle u') s') y w') ∨ ∃ (ch : List PanicEntry) (s' : S) (E' : Env), e = .panicked ch ∧ False ∧ s'.t = s.t ∧ E.le E' ∧ Hp w0 C0 β0 s'.bx s'.rw w' E') := hcx
    refine CallsD.mono hcx' ?_
    rintro e m w' ⟨rfl, ⟨y, rfl, ⟨⟨r0, s', E', h1, h2, h3, h4, h5, _⟩⟩⟩ | ⟨ch, s', E', _, h, _⟩⟩
    · exact leaves_ok hfin r ds' _ s' E' w' (hrest.mono h3) h4 (by rw [h2]; exact A.repL.mono _ h3 ht) h1
    · exact h.elim
/-- A piece of code from which what is deferred may grow. -/
@[irreducible] def OkT (P : Program) (np : Nat) (pt : List (Nat × List A) → List PanicEntry → S → Prop) (qt : List (Nat × List A) → Exit → S → Prop) (dr : List (Nat × List A)) (x : Code) (s : S) : Prop :=
  ∀ (w0 : World) (C0 : Rd) (β0 : List Nat) (a : Act) (w : World) (Q : Exit → Act → World → Prop), β0.length = np → Inv dr w0 C0 β0 s a w → (∀ dr' ch s' a' w', pt dr' ch s' → Inv dr' w0 C0 β0 s' a' w' → Q (.panic ch) a' w') → (∀ dr' e s' a' w', qt dr' e s' → Inv dr' w0 C0 β0 s' a' w' → Q e a' w') → x.wp P Q a w
def tQ (P : Program) (np : Nat) (pt : List (Nat × List A) → List PanicEntry → S → Prop) (qt : List (Nat × List A) → Exit → S → Prop) (dr : List (Nat × List A)) (y : Code) (e : Exit) (s : S) : Prop := match e with
  | .normal => OkT P np pt qt dr y s
  | e => qt dr e s
variable {pt : List (Nat × List A) → List PanicEntry → S → Prop} {qt : List (Nat × List A) → Exit → S → Prop} {dr : List (Nat × List A)} {s : S}
theorem okT_last {x : Code} (hc : c.ok) (hdr : ∃ n, refsD n dr = true) (hl : refsD c.np dr = true ∨ noLoop x = true) (ho : ordOk c.ord x = true) (hp : ∀ ch s', c.pan ch s' → pt dr ch s') (h : awp c x s (qt dr)) : OkT c.P c.np pt qt dr x s := by
  unfold OkT
  exact fun w0 C0 β0 a w Q hn hi hx hk => awp_ok hc hn hdr x hl (fun ch s' a' w' h1 h2 => hx dr ch s' a' w' (hp ch s' h1) h2) ho hi h fun e s' a' w' h1 h2 => hk dr e s' a' w' h1 h2
theorem okT_step {x y : Code} (hc : c.ok) (hdr : ∃ n, refsD n dr = true) (hl : refsD c.np dr = true ∨ noLoop x = true) (ho : ordOk c.ord x = true) (hp : ∀ ch s', c.pan ch s' → pt dr ch s') (h : awp c x s (tQ c.P c.np pt qt dr y)) : OkT c.P c.np pt qt dr (.seq x y) s := by
  unfold OkT
  intro w0 C0 β0 a w Q hn hi hx hk
  refine wp_seq (awp_ok hc hn hdr x hl (fun ch s' a' w' h1 h2 => hx dr ch s' a' w' (hp ch s' h1) h2) ho hi h fun e s' a' w' h1 h2 => ?_)
  cases e with
  | normal =>
    have h1 : OkT c.P c.np pt qt dr y s' := h1
    unfold OkT at h1
    exact h1 w0 C0 β0 a' w' Q hn h2 hx hk
  | _ => exact hk dr _ _ _ _ h1 h2
/-- What a deferred call is called with. -/
def dfrK (s : S) (fo : Operand) (xs : List Operand) (K : Nat → List A → Prop) : Prop := match ev s fo with
  | .clo f caps => K f (xs.map (ev s) ++ caps)
  | .bm f fs => K f (fs ++ xs.map (ev s))
  | _ => False
theorem seq_ok2 {ops l2 : List Oper} {Q : Exit → Act → World → Prop} (hc : c.ok) (hdr : ∃ n, refsD n dr = true) (hx : ∀ ch s' a' w', c.pan ch s' → Inv dr w0 C0 β0 s' a' w' → Q (.panic ch) a' w') : ∀ {l : List Oper} {s : S} {a : Act} {w : World} {K : S → Prop}, Inv dr w0 C0 β0 s a w → aseq c ops l s K → (∀ s' a' w', K s' → Inv dr w0 C0 β0 s' a' w' → wpList c.P ops.toArray Q l2 a' w') → wpList c.P ops.toArray Q (l ++ l2) a w
  | [], s, a, w, K, hi, h, hk => hk s a w h hi
  | o :: r, s, a, w, K, hi, h, hk => by
    obtain ⟨E, hp, ht, hd⟩ := hi
    change wantK ops o s (ado c (fun _ => true) s o fun s' => aseq c ops r s' K) (putK s o.dst (.tup []) fun s' => aseq c ops r s' K) at h
    refine wpList_step fun Kc hKc => ?_
    rcases want_ok ht h with ⟨h1, h2⟩ | ⟨h1, h2⟩
    · rw [if_pos h1]
      exact do_ok hc hdr ⟨E, hp, ht, hd⟩ h2 hx fun s' a' w' h3 h4 => hKc _ _ (seq_ok2 hc hdr hx h4 h3 hk)
    · rw [if_neg (by rw [h1]; simp)]
      obtain ⟨s2, k1, k2, k3, k4, k5⟩ := put_ok (a := a) hp ht hd (rep_undef _) h2
      exact hKc _ _ (seq_ok2 hc hdr hx ⟨E, by rw [k2, k3]; exact hp, k4, k5⟩ k1 hk)
theorem okT_defer {id : Nat} {l : List Oper} {od : Oper} {fo : Operand} {xs : Array Operand} {ts : Array TypeId} {y : Code} (hc : c.ok) (hdr : ∃ n, refsD n dr = true) (hp : ∀ ch s', c.pan ch s' → pt dr ch s') (hop : od.op = .defer ⟨.value fo, xs, ts⟩) (hg : od.guard = none) (hd : od.dst = none)
    (h : aseq c (l ++ [od]) l s fun s' => dfrK s' fo xs.toList fun f args => OkT c.P c.np pt qt ((f, args) :: dr) y s') : OkT c.P c.np pt qt dr (.seq (.region id (l ++ [od]).toArray false) y) s := by
  unfold OkT
  intro w0 C0 β0 a w Q hn hi hx hk
  refine wp_seq (wp_region_lit (seq_ok2 (l2 := [od]) (Q := Exit.then (y.wp c.P Q) Q) hc hdr (fun ch s' a' w' h1 h2 => hx dr ch s' a' w' (hp ch s' h1) h2) hi h fun s' a' w' h1 h2 => ?_))
  refine wpList_step fun Kc hKc => ?_
  rw [if_pos (by simp [Region.wanted, hg])]
  obtain ⟨E, hpp, ht, hdd⟩ := h2
  unfold dfrK at h1
  split at h1
  · rename_i f caps hev
    have hf := ev_rep ht fo
    rw [hev] at hf
    unfold A.rep at hf
    obtain ⟨us, hf, hcaps⟩ := hf
    have hrun : (execOp a'.eval od).run c.P w' = .ok (.defer { target := .fn (.func f) us, args := xs.map a'.eval }) w' := by simp [execOp, hop, resolve, Deferred.ofValue, hf, Result.andThen]
    unfold Oper.wp
    rw [hrun, Oper.upon_defer]
    rw [hd]
    unfold OkT at h1
    refine hKc _ _ (h1 w0 C0 β0 _ w' Q hn ⟨E, hpp, ht, { target := .fn (.func f) us, args := xs.map a'.eval }, a'.defers, us, rfl, rfl, ?_, hdd⟩ hx hk)
    have := A.repL_append (caps_rep ht xs.toList) hcaps
    simpa using this
  · rename_i f fs hev
    have hf := ev_rep ht fo
    rw [hev] at hf
    unfold A.rep at hf
    obtain ⟨us, hf, hcaps⟩ := hf
    have hrun : (execOp a'.eval od).run c.P w' = .ok (.defer { target := .fn (.func f) #[], args := us ++ xs.map a'.eval }) w' := by simp [execOp, hop, resolve, Deferred.ofValue, hf, Result.andThen]
    unfold Oper.wp
    rw [hrun, Oper.upon_defer]
    rw [hd]
    unfold OkT at h1
    refine hKc _ _ (h1 w0 C0 β0 _ w' Q hn ⟨E, hpp, ht, { target := .fn (.func f) #[], args := us ++ xs.map a'.eval }, a'.defers, #[], rfl, rfl, ?_, hdd⟩ hx hk)
    have := A.repL_append hcaps (caps_rep ht xs.toList)
    simpa using this
  · exact h1.elim
/-- The beginning of a call. -/
theorem inv_begin {n : Nat} {ins : List (List A)} {args : List A} {w : World} {C : Rd} {β : List Nat} {vals : List Value} (h0 : Gok C w) (h1 : Sub C (see w)) (h2 : β.Nodup) (h3 : ∀ b ∈ β, ∀ o sp, C ⟨b, o, sp⟩ = none) (h4 : ins.length = β.length)
    (h5 : ∀ (i b : Nat) (cs : List A), β[i]? = some b → ins[i]? = some cs → boxAt w ⟨C, β, []⟩ b cs) (h6 : A.repL args ⟨C, β, []⟩ vals) :
    Inv [] w C β ⟨args ++ List.replicate (n - args.length) .dead, ins, []⟩ { tmps := vals.toArray ++ Array.replicate (n - vals.toArray.size) undef, defers := [] } w := by
  have hl := A.repL_len h6
  refine ⟨⟨C, β, []⟩, ⟨h1, Sub.refl _, fun _ _ hc => .inl hc, ⟨[], by simp, by simp⟩, h2, h3, h4, h5, rfl, fun g r y hg => by simp at hg, fun g e k n cs y b hg => by simp at hg, fun g e k n cs y h' e' k' n' cs' z b _ hg => by simp at hg, fun g y hg => by simp at hg, Keeps.refl _ _, h0⟩, ?_, rfl⟩
  have : (vals.toArray ++ Array.replicate (n - vals.toArray.size) undef).toList = vals ++ List.replicate (n - args.length) undef := by simp [hl]
  rw [this]
  exact A.repL_append h6 (rep_deads _ _)
/-- A function that defers. -/
theorem specT_of {f : Nat} {fn : Func} {x : Code} {ins : List (List A)} {args : List A} {post : List (List A) → A → Prop} (hc : c.ok) (hf : c.P.funcs[f]? = some fn) (hb : fn.body = some x) (hname : (fn.name == "runtime.NumGoroutine") = false)
    (hn : ins.length = c.np) (h : okL args → initK args (fn.ntmps - args.length) fun t => OkT c.P c.np (fun dr ch s => leaveK c fn.results.toList post dr (.panicking ch) s) (fun dr e s => (e = .normal ∨ e = .ret) ∧ leaveK c fn.results.toList post dr .returning s) [] x ⟨t, ins, []⟩) : Spec c.P f ins args post := by
  refine ⟨callable hf hb hname, fun w C β vals h0 h1 h2 h3 h4 h5 h6 => ?_⟩
  refine calls_of_wp_defers hf hb ?_
  have hinit := initK_iff.1 (h (okL_rep _ h6))
  have hinv := inv_begin (n := fn.ntmps) h0 h1 h2 h3 h4 h5 h6
  unfold OkT at hinit
  have hfin : ∀ (tmps : Array Value) (s' : S) (w' : World), retK c fn.results.toList post s' → Inv [] w C β s' { tmps := tmps, defers := [] } w' → ∃ v, (results fn tmps).run c.P w' = .ok v w' ∧ ∃ outs r v', Ending.returned v = .returned v' ∧ post outs r ∧ Keeps β w w' ∧ outs.length = β.length ∧
      (∀ (i b : Nat) (cs : List A), β[i]? = some b → outs[i]? = some cs → boxAt w' ⟨plus C w w', β, []⟩ b cs) ∧ r.rep ⟨plus C w w', β, []⟩ v' := fun tmps s' w' hr hi =>
    (fin_ok (w := w) (C := C) (β := β) (fn := fn) (post := post) hc h1 (by rw [← h4, hn]) hr hi).2
  refine hinit w C β _ w _ (by rw [← h4, hn]) hinv (fun dr ch s' a' w' hl ⟨E, hp, ht, hd⟩ => ?_) (fun dr e s' a' w' hl ⟨E, hp, ht, hd⟩ => ?_)
  · exact leaves_ok (hfin a'.tmps) dr a'.defers _ s' E w' hd hp ht hl
  · obtain ⟨he, hl⟩ := hl
    rcases he with rfl | rfl
    · exact leaves_ok (hfin a'.tmps) dr a'.defers _ s' E w' hd hp ht hl
    · exact leaves_ok (hfin a'.tmps) dr a'.defers _ s' E w' hd hp ht hl
theorem rec_returning {c0 : Frame} {cs : List Frame} (h : c0.mode = .returning) : recoverD (c0 :: cs) = none := by
  simp [recoverD, h]
theorem rec_panicking {c0 : Frame} {cs : List Frame} {v : Value} {older : List PanicEntry} (h : c0.mode = .panicking (⟨v, false, false⟩ :: older)) : recoverD (c0 :: cs) = some (v, { c0 with mode := .panicking (⟨v, true, false⟩ :: older) } :: cs) := by
  simp [recoverD, h]
/-- A deferred function that begins by recovering. -/
theorem recX_of {f id d0 d1 : Nat} {fn : Func} {o0 o1 : Oper} {ts : Array TypeId} {rest : Code} {ins : List (List A)} {args : List A} {post : List (List A) → A → Prop} {u u' : FrameMode} {rv : Value} (hc : c.ok) (hq : ∀ ch s, ¬ c.pan ch s) (hf : c.P.funcs[f]? = some fn) (hb : fn.body = some (.seq (.region id #[o0, o1] false) rest))
    (k0 : o0.op = .call ⟨.builtin .recover, #[], ts⟩ ∧ o0.guard = none ∧ o0.dst = some d0) (k1 : o1.op = .assign (.tmp d0) ∧ o1.guard = none ∧ o1.dst = some d1) (hd0 : d0 < fn.ntmps) (hv : okV rv)
    (hu : (u = .returning ∧ u' = .returning ∧ rv = .nilIface) ∨ ∃ v older, u = .panicking (⟨v, false, false⟩ :: older) ∧ u' = .panicking (⟨v, true, false⟩ :: older) ∧ rv = v)
    (hn : ins.length = c.np) (h : okL args → initK args (fn.ntmps - args.length) fun t => Ok c rest ⟨(t.set d0 (.v rv)).set d1 (.v rv), ins, []⟩ (endK c fn.results.toList post)) : SpecX (ClD c.P f u u') ins args post fun _ => False := by
  intro w C β vals h0 h1 h2 h3 h4 h5 h6
  unfold ClD
  refine callsD_of_wpS hf hb fun c0 cs hu0 => wpS_seq (wpS_region ?_)
  have hinit := initK_iff.1 (h (okL_rep _ h6))
  have hinv := inv_begin (n := fn.ntmps) h0 h1 h2 h3 h4 h5 h6
  have hnp : β.length = c.np := by rw [← h4, hn]
  generalize hA : ({ tmps := vals.toArray ++ Array.replicate (fn.ntmps - vals.toArray.size) undef, defers := [] } : Act) = a0 at *
  have hsz : d0 < a0.tmps.size := by rw [← hA]; simp; omega
  obtain ⟨E, hp, ht, hd⟩ := hinv
  have hi2 : Inv [] w C β ⟨((args ++ List.replicate (fn.ntmps - args.length) A.dead).set d0 (.v rv)).set d1 (.v rv), ins, []⟩ ((a0.put (some d0) rv).put (some d1) rv) w := by
    refine ⟨E, hp, ?_, hd⟩
    show A.repL _ E ((a0.tmps.setIfInBounds d0 rv).setIfInBounds d1 rv).toList
    rw [Array.toList_setIfInBounds, Array.toList_setIfInBounds]
    exact A.repL_set (A.repL_set ht d0 (A.rep_v hv)) d1 (A.rep_v hv)
  have e0 : (execOp a0.eval o0).run c.P w = .ok .recover w := by
    simp [execOp, k0.1, resolve, invoke, Result.andThen]
    rfl
  have ha0 : (a0.put (some d0) rv).tmps.getD d0 undef = rv := by
    show (a0.tmps.setIfInBounds d0 rv).getD d0 undef = rv
    simp [Array.getD_eq_getD_getElem?, hsz]
  have e1 : (execOp (a0.put (some d0) rv).eval o1).run c.P w = .ok (.value rv) w := by
    have : (a0.put (some d0) rv).eval (.tmp d0) = rv := ha0
    simp [execOp, k1.1, this]
  have hrange : List.range (#[o0, o1] : Array Oper).size = [0, 1] := rfl
  rw [hrange]
  have g0 : (#[o0, o1] : Array Oper)[0]? = some o0 := rfl
  have g1 : (#[o0, o1] : Array Oper)[1]? = some o1 := rfl
  have w0' : ∀ y, Region.wanted o0 y = true := fun y => by simp [Region.wanted, k0.2.1]
  have w1' : ∀ y, Region.wanted o1 y = true := fun y => by simp [Region.wanted, k1.2.1]
  simp only [wpOpsS, g0, g1, w0', w1', if_true, e0]
  unfold Ok OkD at hinit
  have fin : ∀ cs', cs' = { c0 with mode := u' } :: cs → rest.wpS c.P (bodyPostS c.P fn c0 cs fun e m w' => m = u' ∧ ((∃ outs r v, e = .returned v ∧ post outs r ∧ Keeps β w w' ∧ outs.length = β.length ∧
      (∀ (i b : Nat) (cs : List A), β[i]? = some b → outs[i]? = some cs → boxAt w' ⟨plus C w w', β, []⟩ b cs) ∧ r.rep ⟨plus C w w', β, []⟩ v) ∨
      ∃ (ch : List PanicEntry) (ns : List Nat), e = .panicked ch ∧ False ∧ Keeps β w w' ∧ ns.length = β.length ∧ ∀ (i b n : Nat), β[i]? = some b → ns[i]? = some n → boxAt w' ⟨C, β, []⟩ b (List.replicate n .dead))) ((a0.put (some d0) rv).put (some d1) rv) cs' w := fun cs' hcs => by
    subst hcs
    refine wpS_of_wp ?_
    refine hinit w C β _ w _ hnp hi2 (fun ch s' _ _ hh _ => absurd hh (hq ch s')) fun e s' a' w' he hi => ?_
    have ff := fun (hr : retK c fn.results.toList post s') => fin_ok (w := w) (C := C) (β := β) (fn := fn) (post := post) hc h1 hnp hr hi
    cases e with
    | normal => obtain ⟨q1, v, q2, q3⟩ := ff he; exact ⟨q1, u', rfl, v, q2, rfl, .inl q3⟩
    | ret => obtain ⟨q1, v, q2, q3⟩ := ff he; exact ⟨q1, u', rfl, v, q2, rfl, .inl q3⟩
    | _ => exact he.elim
  rcases hu with ⟨rfl, rfl, rfl⟩ | ⟨v, older, rfl, rfl, rfl⟩
  · rw [rec_returning hu0]
    simp only [k0.2.2, e1, Oper.upon_value, k1.2.2]
    exact fin _ (by rw [← hu0])
  · rw [rec_panicking hu0]
    simp only [k0.2.2, e1, Oper.upon_value, k1.2.2]
    exact fin _ rfl
end
end Go.Proofs.YtpjcbadnpknncaaGreatDoor.Vm
/- Parse. -/
namespace Go.Proofs.YtpjcbadnpknncaaGreatDoor.Vm
open Go.RowKit Go.Shelf
set_option linter.unusedSimpArgs false
set_option linter.unusedVariables false
set_option maxRecDepth 100000
theorem parse1_ret (f : Fm) : SpecX (ClD Tryz.prog 25 .returning .returning) [fmA f, [intA 0], [intA 0]] [.box 0 0, .box 1 0, .box 2 0] (fun o r => o = [fmA f, [intA 0], [intA 0]] ∧ r = .tup []) fun _ => False := by
  refine recX_of (cx_ok ord25 (fun _ => [0, 1, 2]) 3) (fun _ _ h => h) Tryz.func25 rfl (d0 := 5) (d1 := 3) ⟨rfl, rfl, rfl⟩ ⟨rfl, rfl, rfl⟩ (by decide) (rv := .nilIface) trivial (.inl ⟨rfl, rfl, rfl⟩) rfl ?_
  intro _
  conv => whnf
  refine ok_of_awp (cx_ok _ _ _) (by kernel_rfl) ?_
  conv => whnf
  exact ⟨rfl, rfl⟩
theorem parse1_pan (x e : Int) (hx : 0 ≤ x ∧ x ≤ 1000000000) (he : 0 < e ∧ e ≤ 100) (c0 c1 c2 c3 c4 b1 b2 : A) : SpecX (ClD Tryz.prog 25 (.panicking (failCh x e)) (.panicking [⟨.iface 65 (.agg #[.int .i64 x, .int .i64 e]), true, false⟩])) [[c0, c1, c2, c3, c4], [b1], [b2]] [.box 0 0, .box 1 0, .box 2 0]
    (fun o r => o = [zero5, [intA x], [intA e]] ∧ r = .tup []) fun _ => False := by
  refine recX_of (cx_ok ord25 (fun _ => [0, 1, 2]) 3) (fun _ _ h => h) Tryz.func25 rfl (d0 := 5) (d1 := 3) ⟨rfl, rfl, rfl⟩ ⟨rfl, rfl, rfl⟩ (by decide) (rv := .iface 65 (.agg #[.int .i64 x, .int .i64 e])) trivial (.inr ⟨_, [], rfl, rfl, rfl⟩) rfl ?_
  intro _
  conv => whnf
  refine ok_of_awp (cx_ok _ _ _) (by kernel_rfl) ?_
  conv => whnf
  refine ⟨?_, ?_⟩
  · intro u hu
    simp at hu
    rcases hu with rfl | rfl
    · exact okV_int.2 (i64r (by omega))
    · exact okV_int.2 (i64r (by omega))
  conv => whnf
  exact ⟨rfl, rfl⟩
/-- What Parse comes to. -/
inductive PR where
  | ok (f : Fm)
  | bad (p e : Int)
def parseT (ts : List Tk) : PR := match (pr 20).fo ts with
  | .bad x e => .bad x e
  | .ok f r => if (hd r).kind ≠ 0 then .bad (hd r).pos 10 else .ok f
def parseF (s : ByteArray) : PR := if 3000 < s.size then .bad 3000 2 else match (lexF' s).err with
  | some (p, e) => .bad p e
  | none => parseT (rowT s)
def parR0 : PR → A
  | .ok f => .tup [.agg (fmA f), intA 0, intA 0]
  | .bad x e => .tup [.agg zero5, intA x, intA e]
/-- A parser that fails. -/
def PanS (p : PR) (ch : List PanicEntry) (s : S) : Prop := ∃ (x e : Int) (cs : List A) (bx : List (List A)) (a b : A) (t : List A), p = .bad x e ∧ ((0 ≤ x ∧ x ≤ 1000000000) ∧ 0 < e ∧ e ≤ 100) ∧ ch = failCh x e ∧ s.bx = cs :: [intA 0] :: [intA 0] :: bx ∧ (cs = zero5 ∨ ∃ f, cs = fmA f) ∧ s.t = a :: b :: .box 0 0 :: .box 1 0 :: .box 2 0 :: t ∧ s.rw = []
theorem box4 {l : List (List A)} {a b c d : List A} (h : l.length = 4) (k : ∀ j, j ≠ 3 → l[j]? = [a, b, c, d][j]?) : ∃ d', l = [a, b, c, d'] := by
  match l, h with
  | [x, y, z, w], _ =>
    have h0 := k 0 (by decide)
    have h1 := k 1 (by decide)
    have h2 := k 2 (by decide)
    simp at h0 h1 h2
    exact ⟨w, by rw [h0, h1, h2]⟩
/-- The orders of Parse's region 5. -/
def ordP (id : Nat) : Tr := match Nat.beq id 5 with
  | true => .q 0 3 (.alt 1 2 (.alt 2 2 (.alt 3 2 (.alt 4 2 (.alt 5 2 .nil .nil) .nil) .nil) (.alt 3 2 (.alt 2 2 (.alt 4 2 (.alt 5 2 .nil .nil) .nil) (.alt 4 2 (.alt 2 2 (.alt 5 2 .nil .nil) .nil) .nil)) .nil)) (.alt 2 2 (.alt 1 2 (.alt 3 2 (.alt 4 2 (.alt 5 2 .nil .nil) .nil) .nil) (.alt 3 2 (.alt 1 2 (.alt 4 2 (.alt 5 2 .nil .nil) .nil) .nil) .nil)) (.alt 3 2 (.alt 1 2 (.alt 2 2 (.alt 4 2 (.alt 5 2 .nil .nil) .nil) (.alt 4 2 (.alt 2 2 (.alt 5 2 .nil .nil) .nil) .nil)) (.alt 2 2 (.alt 1 2 (.alt 4 2 (.alt 5 2 .nil .nil) .nil) .nil) .nil)) .nil)))
  | false => .nil
theorem parse_raw (s : ByteArray) (hs : s.size ≤ 1000000000) : Spec Tryz.prog 13 [] [strA s] fun _ r => r = parR0 (parseF s) := by
  obtain ⟨R, hR⟩ : ∃ R, parseF s = R := ⟨_, rfl⟩
  rw [hR]
  have htk := tokens_spec s hs
  have hpan : ∀ (ch : List PanicEntry) (s' : S), PanS R ch s' → leaveK ⟨Tryz.prog, tab, ordP, fun _ => [0], 0, fun _ _ => False⟩ Tryz.f13.results.toList (fun _ r => r = parR0 R) [(25, [.box 0 0, .box 1 0, .box 2 0])] (.panicking ch) s' := fun ch s' hP => by
    obtain ⟨x, e, cs, bx, a, b, t0, hRe, hran, rfl, hbx, hcs, ht, hrw⟩ := hP
    obtain ⟨t, bx', rw'⟩ := s'
    simp only at hbx hrw ht
    subst hbx hrw ht
    subst hRe
    unfold leaveK
    refine ⟨(fun h => by cases h), FrameMode.panicking [⟨.iface 65 (.agg #[.int .i64 x, .int .i64 e]), true, false⟩], ?_⟩
    unfold DfrW
    refine ⟨fun vs w => rfl, [0, 1, 2], [], [cs, [intA 0], [intA 0]], [.box 0 0, .box 1 0, .box 2 0], fun o r => o = [zero5, [intA x], [intA e]] ∧ r = .tup [], by decide, ?_, ?_, rfl, fun _ => ?_, ?_⟩
    · intro i hi
      simp only [List.length_cons]
      simp at hi
      omega
    · rcases hcs with rfl | ⟨f, rfl⟩
      · rfl
      · rfl
    · rcases hcs with rfl | ⟨f, rfl⟩
      · exact parse1_pan x e hran.1 hran.2 _ _ _ _ _ _ _
      · exact parse1_pan x e hran.1 hran.2 _ _ _ _ _ _ _
    rintro o r ⟨rfl, rfl⟩ _
    conv => whnf
    rfl
  refine specT_of (cx_ok ordP (fun _ => [0]) 0) Tryz.func13 rfl (by kernel_rfl) rfl ?_
  intro _
  conv => whnf
  refine okT_step (cx_ok ordP (fun _ => [0]) 0) (dr := []) ⟨0, rfl⟩ (.inl rfl) (by kernel_rfl) (fun _ _ h => h.elim) ?_
  conv => whnf
  refine okT_step (cx_ok ordP (fun _ => [0]) 0) (dr := []) ⟨0, rfl⟩ (.inl rfl) (by kernel_rfl) (fun _ _ h => h.elim) ?_
  conv => whnf
  unfold parseF at hR
  by_cases hbig : 3000 < s.size
  · rw [if_pos hbig] at hR
    rw [decide_eq_true (by omega)]
    conv => whnf
    refine ⟨.inr rfl, ?_⟩
    conv => whnf
    subst hR
    rfl
  rw [if_neg hbig] at hR
  rw [decide_eq_false (by omega)]
  conv => whnf
  refine okT_step (cx_ok ordP (fun _ => [0]) 0) (dr := []) ⟨0, rfl⟩ (.inl rfl) (by kernel_rfl) (fun _ _ h => h.elim) ?_
  conv => whnf
  refine call0 [] rfl (fun _ => htk) ?_
  rintro r rfl
  have htb := fun h => row_tkB (s := s) (by omega) h
  unfold lexR
  cases herr : (lexF' s).err with
  | some pe =>
    obtain ⟨p, e⟩ := pe
    rw [herr] at hR
    simp only at hR
    have hne := (lexG_ok (s.data.toList.length + 1) 0 s.data.toList).2 p e herr
    conv => whnf
    refine okT_step (cx_ok ordP (fun _ => [0]) 0) (dr := []) ⟨0, rfl⟩ (.inl rfl) (by kernel_rfl) (fun _ _ h => h.elim) ?_
    conv => whnf
    rw [decide_eq_false hne.2.1]
    conv => whnf
    apply join_eq
    · repeat' (first | (with_reducible refine And.intro ?_ ?_) | (conv => whnf))
    conv => whnf
    refine ⟨.inr rfl, ?_⟩
    conv => whnf
    subst hR
    rfl
  | none =>
    rw [herr] at hR
    simp only at hR
    have htb := htb herr
    have hrl := rowT_none herr
    rw [← hrl]
    have hln : (lexF' s).toks.length + 1 = (rowT s).length := by rw [hrl]; simp
    rw [hln]
    generalize rowT s = T at *
    conv => whnf
    refine okT_step (cx_ok ordP (fun _ => [0]) 0) (dr := []) ⟨0, rfl⟩ (.inl rfl) (by kernel_rfl) (fun _ _ h => h.elim) ?_
    conv => whnf
    refine okT_defer (cx_ok ordP (fun _ => [0]) 0) ⟨0, rfl⟩ (fun _ _ h => h.elim) (l := [_]) rfl rfl rfl ?_
    conv => whnf
    have hp0 := (pr_spec 20 (by decide)).2.2 T htb
    rw [show ((20 : Int) - (20 : Nat)) = 0 from rfl] at hp0
    have hsane := (pr_sane 20).2.2 T htb
    have hgo := (pr_goes 20).2.2 T
    have hpos := htb.1.pos
    have hT2 := htb.2
    unfold parseT at hR
    refine okT_step (c := ⟨Tryz.prog, tab, ordP, fun _ => [0], 0, PanS R⟩) (cx_okP _ _ _ _) ⟨3, rfl⟩ (.inr (by kernel_rfl)) (by kernel_rfl) hpan ?_
    conv => whnf
    refine okT_step (c := ⟨Tryz.prog, tab, ordP, fun _ => [0], 0, PanS R⟩) (cx_okP _ _ _ _) ⟨3, rfl⟩ (.inr (by kernel_rfl)) (by kernel_rfl) hpan ?_
    conv => whnf
    refine callP1x 3 [] rfl rfl rfl rfl (fun _ => hp0) (fun ch bx' hp hbl hbx => ?_) ?_
    · obtain ⟨x, e, he, hc⟩ := pnP_bad hp
      rw [he] at hR hsane
      obtain ⟨d', rfl⟩ := box4 hbl hbx
      exact ⟨x, e, _, _, _, _, _, hR.symm, hsane, hc, rfl, .inl rfl, rfl, rfl⟩
    rintro o r hpo
    obtain ⟨f, r1, he, ho, rfl⟩ := poP_ok hpo
    cases ho
    rw [he] at hR
    simp only at hR
    obtain ⟨h1, l1⟩ := hgo _ _ htb he
    have hr := row_hd h1.1.pos
    have hfail := fail_spec r1 h1.1.pos 10
    have hpos1 := h1.pos
    have hl1 := h1.1.pos
    generalize hd r1 = t at *
    conv => whnf
    refine okT_step (c := ⟨Tryz.prog, tab, ordP, fun _ => [0], 0, PanS R⟩) (cx_okP _ _ _ _) ⟨3, rfl⟩ (.inr (by kernel_rfl)) (by kernel_rfl) hpan ?_
    conv => whnf
    (refine goA ?_; try with_reducible exact trivial)
    (generalize hrq : rowOf _ _ (tksL r1) = rq; obtain rfl : rq = tkL t := hrq.symm.trans (hr); clear hrq; conv => whnf)
    by_cases hk : t.kind = 0
    · rw [decide_eq_true hk]
      rw [if_neg (by simpa using hk)] at hR
      conv => whnf
      refine okT_last (c := ⟨Tryz.prog, tab, ordP, fun _ => [0], 0, PanS R⟩) (cx_okP _ _ _ _) ⟨3, rfl⟩ (.inr (by kernel_rfl)) (by kernel_rfl) hpan ?_
      conv => whnf
      refine ⟨.inr rfl, ?_⟩
      unfold leaveK
      refine ⟨(fun h => by cases h), FrameMode.returning, ?_⟩
      unfold DfrW
      refine ⟨fun vs w => rfl, [0, 1, 2], [], [fmA f, [intA 0], [intA 0]], [.box 0 0, .box 1 0, .box 2 0], fun o r => o = [fmA f, [intA 0], [intA 0]] ∧ r = .tup [], by decide, ?_, rfl, rfl, fun _ => parse1_ret f, ?_⟩
      · intro i hi
        simp only [List.length_cons]
        simp at hi
        omega
      rintro o r ⟨rfl, rfl⟩ _
      conv => whnf
      subst hR
      rfl
    · rw [decide_eq_false hk]
      rw [if_pos hk] at hR
      conv => whnf
      refine callP1x 3 [] rfl rfl rfl rfl (fun _ => hfail) (fun ch bx' hp hbl hbx => ?_) ?_
      · obtain ⟨d', rfl⟩ := box4 hbl hbx
        exact ⟨_, _, _, _, _, _, _, hR.symm, ⟨⟨by omega, by omega⟩, by decide⟩, hp, rfl, .inr ⟨f, rfl⟩, rfl, rfl⟩
      · rintro o r ⟨⟩
end Go.Proofs.YtpjcbadnpknncaaGreatDoor.Vm
/- The reference: letters, digits, lists, white space, values. -/
namespace Go.Proofs.YtpjcbadnpknncaaGreatDoor.Vm
open Go.RowKit
set_option linter.unusedSimpArgs false
set_option linter.unusedVariables false
set_option maxRecDepth 100000
theorem letter_spec (c : UInt8) : Spec Tryz.prog 80 [] [.v (.int .u8 (c.toNat : Int))] fun _ r => r = boolA (isL c) := by
  refine spec_of (cx_ok ord0 xs0 0) (fun _ _ h => h) Tryz.func80 rfl (by kernel_rfl) rfl (by kernel_rfl) ?_
  intro _
  conv => whnf
  cases h : decide (97 ≤ (c.toNat : Int))
  · conv => whnf
    simp [boolA, isL, h]
  · conv => whnf
    simp [boolA, isL, h]
theorem digit_spec (c : UInt8) : Spec Tryz.prog 81 [] [.v (.int .u8 (c.toNat : Int))] fun _ r => r = boolA (isD c) := by
  refine spec_of (cx_ok ord0 xs0 0) (fun _ _ h => h) Tryz.func81 rfl (by kernel_rfl) rfl (by kernel_rfl) ?_
  intro _
  conv => whnf
  cases h : decide (48 ≤ (c.toNat : Int))
  · conv => whnf
    simp [boolA, isD, h]
  · conv => whnf
    simp [boolA, isD, h]
theorem has_spec (l : List ByteArray) (s : ByteArray) (hl : l.length ≤ 1000000) : Spec Tryz.prog 83 [] [.sl 1 l.length (strsA l), .v (.string s)] fun _ r => r = boolA (hasF l s) := by
  refine spec_of (cx_ok ord0 xs0 0) (fun _ _ h => h) Tryz.func83 rfl (by kernel_rfl) rfl (by kernel_rfl) ?_
  intro _
  conv => whnf
  refine loop_keep [0, 1, 4] ?_
  conv => whnf
  refine loop_go (fun k : Nat => [(5, .v (.int .i64 k))]) (fun _ => []) (fun _ => []) (fun k => k ≤ l.length ∧ hasF (l.take k) s = false) (fun k => l.length - k) 0 ?_ ⟨Nat.zero_le _, by simp [hasF]⟩ ?_
  · repeat' constructor
  · rintro k ⟨hk, hn⟩
    conv => whnf
    by_cases hlt : k < l.length
    · refine br_true (by simp; omega) ?_
      conv => whnf
      refine ⟨⟨by omega, by omega⟩, ?_⟩
      conv => whnf
      rw [show rowOf 1 (Int.toNat (k : Int)) (strsA l) = [.v (.string l[k])] from rowOf_strs l k hlt]
      conv => whnf
      cases hq : decide (l[k] = s)
      · conv => whnf
        refine ⟨i64r (by omega), ?_⟩
        conv => whnf
        refine ⟨k + 1, le_head ?_, ⟨hlt, by rw [hasF_take l s k hlt, hn, hq]; rfl⟩, by omega⟩
        repeat' constructor
      · conv => whnf
        have : hasF l s = true := List.any_eq_true.2 ⟨l[k], List.getElem_mem hlt, hq⟩
        rw [this]; rfl
    · refine br_false (by simp; omega) ?_
      obtain rfl : k = l.length := by omega
      rw [List.take_length] at hn
      conv => whnf
      rw [hn]; rfl
theorem skip_spec (s : ByteArray) (k : Nat) (hs : s.size ≤ 1000000000) (hk : k ≤ s.size) : Spec Tryz.prog 52 [] [.v (.string s), .v (.int .i64 k)] fun _ r => r = intA ((k + skipN false (s.data.toList.drop k) : Nat) : Int) := by
  have hsl := size_len s
  obtain ⟨l, hl⟩ : ∃ l, l = s.data.toList := ⟨_, rfl⟩
  refine spec_of (cx_ok ord0 xs0 0) (fun _ _ h => h) Tryz.func52 rfl (by kernel_rfl) rfl (by kernel_rfl) ?_
  intro _
  conv => whnf
  refine loop_keep [0, 4] ?_
  conv => whnf
  refine loop_go (fun j : Nat => [(1, .v (.int .i64 j))]) (fun _ => []) (fun _ => []) (fun j => k ≤ j ∧ j ≤ s.size ∧ j + skipN false (s.data.toList.drop j) = k + skipN false (s.data.toList.drop k)) (fun j => s.size - j) k ?_ ⟨Nat.le_refl _, hk, rfl⟩ ?_
  · repeat' constructor
  · rintro j ⟨hkj, hj, hinv⟩
    conv => whnf
    by_cases hlt : j < s.size
    · refine br_true (by simp; omega) ?_
      conv => whnf
      refine ⟨⟨by omega, by omega⟩, ?_⟩
      rw [show s.data.toList.getD (Int.toNat (j : Int)) 0 = s.data.toList[j] from getD_byte s j (by omega)]
      have hd := drop_cons s.data.toList j (by omega)
      generalize hc : s.data.toList[j]'(by omega) = c at *
      conv => whnf
      cases hq : decide ((c.toNat : Int) = 35)
      · have hq' : isHash c = false := hq
        conv => whnf
        cases h1 : decide ((c.toNat : Int) = 32)
        · conv => whnf
          cases h2 : decide ((c.toNat : Int) = 9)
          · conv => whnf
            cases h3 : decide ((c.toNat : Int) = 10)
            · conv => whnf
              have h4 : isSp c = false := by simp [isSp, h1, h2, h3]
              have : skipN false (s.data.toList.drop j) = 0 := by rw [hd]; simp [skipN, hq', h4]
              rw [this] at hinv
              rw [← hinv]; rfl
            · conv => whnf
              have h4 : isSp c = true := by simp [isSp, h3]
              have : skipN false (s.data.toList.drop j) = skipN false (s.data.toList.drop (j + 1)) + 1 := by rw [hd]; simp [skipN, hq', h4]
              refine ⟨i64r (by omega), ?_⟩
              conv => whnf
              refine ⟨j + 1, le_head ?_, ⟨by omega, by omega, by omega⟩, by omega⟩
              repeat' constructor
          · conv => whnf
            have h4 : isSp c = true := by simp [isSp, h2]
            have : skipN false (s.data.toList.drop j) = skipN false (s.data.toList.drop (j + 1)) + 1 := by rw [hd]; simp [skipN, hq', h4]
            refine ⟨i64r (by omega), ?_⟩
            conv => whnf
            refine ⟨j + 1, le_head ?_, ⟨by omega, by omega, by omega⟩, by omega⟩
            repeat' constructor
        · conv => whnf
          have h4 : isSp c = true := by simp [isSp, h1]
          have : skipN false (s.data.toList.drop j) = skipN false (s.data.toList.drop (j + 1)) + 1 := by rw [hd]; simp [skipN, hq', h4]
          refine ⟨i64r (by omega), ?_⟩
          conv => whnf
          refine ⟨j + 1, le_head ?_, ⟨by omega, by omega, by omega⟩, by omega⟩
          repeat' constructor
      · have hq' : isHash c = true := hq
        have h0 : skipN false (s.data.toList.drop j) = skipN true (s.data.toList.drop (j + 1)) + 1 := by rw [hd]; simp [skipN, hq']
        have h0' : skipN true (s.data.toList.drop j) = skipN true (s.data.toList.drop (j + 1)) + 1 := by
          have : noNl c = true := by
            have := of_decide_eq_true hq
            simp [noNl, this]
          rw [hd]; simp [skipN, this]
        conv => whnf
        refine loop_keep [0, 4] ?_
        conv => whnf
        refine loop_go (fun i : Nat => [(1, .v (.int .i64 i))]) (fun _ => []) (fun _ => []) (fun i => j ≤ i ∧ i ≤ s.size ∧ i + skipN true (s.data.toList.drop i) = k + skipN false (s.data.toList.drop k) ∧ (i = j → noNl c = true)) (fun i => s.size - i) j ?_ ⟨Nat.le_refl _, hj, by omega, fun _ => by
          have := of_decide_eq_true hq
          simp [noNl, this]⟩ ?_
        · repeat' constructor
        · rintro i ⟨hji, hi, hinv2, hne⟩
          conv => whnf
          cases hlt2 : decide ((i : Int) < (s.size : Int))
          · have hge := of_decide_eq_false hlt2
            conv => whnf
            refine ⟨i, le_head ?_, ⟨by omega, hi, ?_⟩, ?_⟩
            · repeat' constructor
            · rw [← hinv2]
              rw [List.drop_of_length_le (by omega)]; simp [skipN]
            · omega
          · have hlt3 := of_decide_eq_true hlt2
            conv => whnf
            refine ⟨⟨by omega, by omega⟩, ?_⟩
            rw [show s.data.toList.getD (Int.toNat (i : Int)) 0 = s.data.toList[i]'(by omega) from getD_byte s i (by omega)]
            have hd2 := drop_cons s.data.toList i (by omega)
            by_cases hij : i = j
            · subst hij
              rw [hc]
              conv => whnf
              have hn := hne rfl
              refine br_true hn ?_
              conv => whnf
              refine ⟨i64r (by omega), ?_⟩
              conv => whnf
              refine ⟨i + 1, le_head ?_, ⟨by omega, by omega, by omega, fun e => by omega⟩, by omega⟩
              repeat' constructor
            · generalize hc2 : s.data.toList[i]'(by omega) = c2 at *
              conv => whnf
              cases hn : noNl c2
              · refine br_false hn ?_
                have : skipN true (s.data.toList.drop i) = skipN false (s.data.toList.drop (i + 1)) + 1 := by rw [hd2]; simp [skipN, hn]
                have h10 : isHash c2 = false ∧ isSp c2 = true := by
                  have : (c2.toNat : Int) = 10 := by simpa [noNl] using hn
                  simp [isHash, isSp, this]
                have h5 : skipN false (s.data.toList.drop i) = skipN false (s.data.toList.drop (i + 1)) + 1 := by rw [hd2]; simp [skipN, h10.1, h10.2]
                conv => whnf
                refine ⟨i, le_head ?_, ⟨by omega, hi, by omega⟩, by omega⟩
                repeat' constructor
              · refine br_true hn ?_
                have : skipN true (s.data.toList.drop i) = skipN true (s.data.toList.drop (i + 1)) + 1 := by rw [hd2]; simp [skipN, hn]
                conv => whnf
                refine ⟨i64r (by omega), ?_⟩
                conv => whnf
                refine ⟨i + 1, le_head ?_, ⟨by omega, by omega, by omega, fun e => by omega⟩, by omega⟩
                repeat' constructor
    · refine br_false (by simp; omega) ?_
      obtain rfl : j = s.size := by omega
      have : skipN false (s.data.toList.drop s.size) = 0 := by rw [List.drop_of_length_le (by omega)]; simp [skipN]
      rw [this] at hinv
      conv => whnf
      rw [← hinv]; rfl
end Go.Proofs.YtpjcbadnpknncaaGreatDoor.Vm
/- The reference: values and tokens. -/
namespace Go.Proofs.YtpjcbadnpknncaaGreatDoor.Vm
open Go.RowKit
set_option linter.unusedSimpArgs false
set_option linter.unusedVariables false
set_option maxRecDepth 100000
theorem value_spec (s : ByteArray) (hs : s.size ≤ 1000000000) (hd : ∀ c ∈ s.data.toList, isD c = true) : Spec Tryz.prog 82 [] [.v (.string s)] fun _ r => r = intA (valF 0 s.data.toList) := by
  have hsl := size_len s
  refine spec_of (cx_ok ord0 xs0 0) (fun _ _ h => h) Tryz.func82 rfl (by kernel_rfl) rfl (by kernel_rfl) ?_
  intro _
  conv => whnf
  refine loop_keep [0, 2] ?_
  conv => whnf
  refine loop_go (fun x : Nat × Int => [(3, .v (.int .i64 x.2)), (4, .v (.int .i64 x.1))]) (fun _ => []) (fun _ => []) (fun x => x.1 ≤ s.size ∧ 0 ≤ x.2 ∧ x.2 ≤ 2147483647 ∧ valF x.2 (s.data.toList.drop x.1) = valF 0 s.data.toList) (fun x => s.size - x.1) (0, 0) ?_ ⟨Nat.zero_le _, by simp, by simp, by simp⟩ ?_
  · repeat' constructor
  · rintro ⟨j, v⟩ ⟨hj, hv0, hv1, hinv⟩
    simp only at hj hv0 hv1 hinv
    conv => whnf
    by_cases hlt : j < s.size
    · refine br_true (by simp; omega) ?_
      have hdj := hd _ (List.getElem_mem (l := s.data.toList) (n := j) (by omega))
      have hdr := drop_cons s.data.toList j (by omega)
      have hgb := getD_byte s j (by omega)
      generalize hc : s.data.toList[j]'(by omega) = c at *
      have hr := isD_rng hdj
      conv => whnf
      refine ⟨i64r (by omega), ?_⟩
      conv => whnf
      refine ⟨⟨by omega, by omega⟩, ?_⟩
      rw [show s.data.toList.getD (Int.toNat (j : Int)) 0 = c from hgb]
      conv => whnf
      refine ⟨i64r (by omega), ?_⟩
      conv => whnf
      refine ⟨i64r (by omega), ?_⟩
      conv => whnf
      refine ⟨i64r (by omega), ?_⟩
      conv => whnf
      have hst : valF v (s.data.toList.drop j) = if 2147483647 < 10 * v + (c.toNat : Int) - 48 then -1 else valF (10 * v + (c.toNat : Int) - 48) (s.data.toList.drop (j + 1)) := by rw [hdr]; rfl
      by_cases hbig : 2147483647 < 10 * v + (c.toNat : Int) - 48
      · refine br_true (by simpa using hbig) ?_
        conv => whnf
        rw [if_pos hbig] at hst
        rw [← hinv, hst]; rfl
      · refine br_false (by simpa using hbig) ?_
        conv => whnf
        rw [if_neg hbig] at hst
        refine ⟨i64r (by omega), ?_⟩
        conv => whnf
        refine ⟨(j + 1, 10 * v + (c.toNat : Int) - 48), le_head ?_, ⟨by simp only; omega, by simp only; omega, by simp only; omega, by simp only; rw [← hst, hinv]⟩, by simp only; omega⟩
        repeat' constructor
    · refine br_false (by simp; omega) ?_
      conv => whnf
      rw [List.drop_of_length_le (by omega)] at hinv
      rw [← hinv]; rfl
set_option maxHeartbeats 1000000 in
theorem token_spec (s : ByteArray) (k : Nat) (hs : s.size ≤ 1000000000) (hk : k < s.size) : Spec Tryz.prog 53 [] [.v (.string s), .v (.int .i64 k)] fun _ r => r = tokR s k := by
  have hsl := size_len s
  have hd0 := drop_cons s.data.toList k (by omega)
  have hg0 := getD_byte s k (by omega)
  obtain ⟨r, hr⟩ : ∃ r, r = s.data.toList.drop (k + 1) := ⟨_, rfl⟩
  have hrl : r.length = s.size - (k + 1) := by rw [hr, List.length_drop, hsl]
  rw [← hr] at hd0
  generalize hc : s.data.toList[k]'(by omega) = c at *
  refine spec_of (cx_ok ord0 xs0 0) (fun _ _ h => h) Tryz.func53 rfl (by kernel_rfl) rfl (by kernel_rfl) ?_
  intro _
  conv => whnf
  refine ⟨i64r (by omega), ?_⟩
  conv => whnf
  refine ⟨⟨by omega, by omega⟩, ?_⟩
  rw [show s.data.toList.getD (Int.toNat (k : Int)) 0 = c from hg0]
  conv => whnf
  refine call0 [] rfl (fun _ => letter_spec c) ?_
  rintro x rfl
  conv => whnf
  have span : ∀ (p : UInt8 → Bool) (j : Nat), k + 1 ≤ j → j < s.size → spanN p (s.data.toList.drop j) = match p (s.data.toList.getD j 0) with | true => spanN p (s.data.toList.drop (j + 1)) + 1 | false => 0 := fun p j h1 h2 => by
    rw [getD_byte s j (by omega), drop_cons s.data.toList j (by omega)]; rfl
  cases hL : isL c
  · conv => whnf
    refine ⟨⟨by omega, by omega⟩, ?_⟩
    rw [show s.data.toList.getD (Int.toNat (k : Int)) 0 = c from hg0]
    conv => whnf
    refine call0 [] rfl (fun _ => digit_spec c) ?_
    rintro x rfl
    conv => whnf
    cases hD : isD c
    · conv => whnf
      refine ⟨i64r (by omega), ?_⟩
      conv => whnf
      refine ⟨⟨by omega, by omega, by omega⟩, ?_⟩
      rw [show s.extract (Int.toNat (k : Int)) (Int.toNat (min ((k : Int) + 2) (s.size : Int))) = bs ((c :: r).take 2) from by rw [← hd0]; exact ext_take s k _ 2 (by omega) (by omega)]
      conv => whnf
      refine call0 [0] rfl (fun _ => has_spec twos (bs ((c :: r).take 2)) (by decide)) ?_
      rintro x rfl
      cases hb : hasF twos (bs ((c :: r).take 2))
      · conv => whnf
        refine ⟨⟨by omega, by omega, by omega⟩, ?_⟩
        rw [show s.extract (Int.toNat (k : Int)) (Int.toNat ((k : Int) + 1)) = bs [c] from by
          have := ext_take s k (k + 1) 1 (by omega) (by omega)
          rw [hd0] at this
          exact this]
        conv => whnf
        refine call0 [1] rfl (fun _ => has_spec ones (bs [c]) (by decide)) ?_
        rintro x rfl
        cases hb2 : hasF ones (bs [c])
        · conv => whnf
          rw [tokR_bad (e := 10) (by rw [hd0]; simp only [tokF, hL, hD, hb, hb2])]; rfl
        · conv => whnf
          rw [tokR_tok (kd := 3) (len := 1) (n := 0) (by rw [hd0]; simp only [tokF, hL, hD, hb, hb2]), hd0]; rfl
      · conv => whnf
        rw [tokR_tok (kd := 3) (len := 2) (n := 0) (by rw [hd0]; simp only [tokF, hL, hD, hb]), hd0]; rfl
    · have htok : tokF (s.data.toList.drop k) = if valF 0 (c :: r.take (spanN isD r)) < 0 then .bad 6 else .tok 2 (spanN isD r + 1) (valF 0 (c :: r.take (spanN isD r))) := by rw [hd0]; simp only [tokF, hL, hD]
      have hvd : ∀ x ∈ (bs (c :: r.take (spanN isD r))).data.toList, isD x = true := fun x hx => by
        rw [bs_list] at hx
        rcases List.mem_cons.1 hx with rfl | hx
        · exact hD
        · exact span_take isD r x hx
      have hsn := spanN_le isD r
      have hval := value_spec (bs (c :: r.take (spanN isD r))) (by rw [bs_size]; simp; omega) hvd
      rw [bs_list] at hval
      conv => whnf
      refine loop_keep [0, 1, 4, 5] ?_
      conv => whnf
      refine loop_go (fun j : Nat => [(6, .v (.int .i64 j))]) (fun _ => [noTk]) (fun _ => []) (fun j => k + 1 ≤ j ∧ j ≤ s.size ∧ (j - (k + 1)) + spanN isD (s.data.toList.drop j) = spanN isD r) (fun j => s.size - j) (k + 1) ?_ ⟨Nat.le_refl _, by omega, by rw [hr]; omega⟩ ?_
      · repeat' constructor
      · rintro j ⟨hkj, hj, hinv⟩
        conv => whnf
        cases hlt : decide ((j : Int) < (s.size : Int))
        · have hge := of_decide_eq_false hlt
          have h0 : spanN isD (s.data.toList.drop j) = 0 := by rw [List.drop_of_length_le (by omega)]; simp [spanN]
          conv => whnf
          refine ⟨⟨by omega, by omega, by omega⟩, ?_⟩
          rw [show s.extract (Int.toNat (k : Int)) (Int.toNat (j : Int)) = bs (c :: r.take (spanN isD r)) from by
            have := ext_take s k j (spanN isD r + 1) (by omega) (by omega)
            rw [hd0] at this
            exact this]
          conv => whnf
          refine call0 [] rfl (fun _ => hval) ?_
          rintro x rfl
          generalize valF 0 (c :: r.take (spanN isD r)) = v at *
          conv => whnf
          by_cases hneg : v < 0
          · refine br_true (by simpa using hneg) ?_
            conv => whnf
            rw [if_pos hneg] at htok
            rw [tokR_bad htok]; rfl
          · refine br_false (by simpa using hneg) ?_
            conv => whnf
            refine ⟨⟨by omega, by omega, by omega⟩, ?_⟩
            rw [show s.extract (Int.toNat (k : Int)) (Int.toNat (j : Int)) = bs (c :: r.take (spanN isD r)) from by
              have := ext_take s k j (spanN isD r + 1) (by omega) (by omega)
              rw [hd0] at this
              exact this]
            conv => whnf
            rw [if_neg hneg] at htok
            rw [tokR_tok htok, hd0]; rfl
        · have hlt2 := of_decide_eq_true hlt
          have hsp := span isD j hkj (by omega)
          conv => whnf
          refine ⟨⟨by omega, by omega⟩, ?_⟩
          rw [show s.data.toList.getD (Int.toNat (j : Int)) 0 = s.data.toList.getD j 0 from rfl]
          generalize s.data.toList.getD j 0 = q at *
          conv => whnf
          refine call0 [] rfl (fun _ => digit_spec q) ?_
          rintro x rfl
          conv => whnf
          cases hq : isD q
          · have h0 : spanN isD (s.data.toList.drop j) = 0 := by rw [hsp, hq]
            conv => whnf
            refine ⟨⟨by omega, by omega, by omega⟩, ?_⟩
            rw [show s.extract (Int.toNat (k : Int)) (Int.toNat (j : Int)) = bs (c :: r.take (spanN isD r)) from by
              have := ext_take s k j (spanN isD r + 1) (by omega) (by omega)
              rw [hd0] at this
              exact this]
            conv => whnf
            refine call0 [] rfl (fun _ => hval) ?_
            rintro x rfl
            generalize valF 0 (c :: r.take (spanN isD r)) = v at *
            conv => whnf
            by_cases hneg : v < 0
            · refine br_true (by simpa using hneg) ?_
              conv => whnf
              rw [if_pos hneg] at htok
              rw [tokR_bad htok]; rfl
            · refine br_false (by simpa using hneg) ?_
              conv => whnf
              refine ⟨⟨by omega, by omega, by omega⟩, ?_⟩
              rw [show s.extract (Int.toNat (k : Int)) (Int.toNat (j : Int)) = bs (c :: r.take (spanN isD r)) from by
                have := ext_take s k j (spanN isD r + 1) (by omega) (by omega)
                rw [hd0] at this
                exact this]
              conv => whnf
              rw [if_neg hneg] at htok
              rw [tokR_tok htok, hd0]; rfl
          · rw [hq] at hsp
            conv => whnf
            refine ⟨i64r (by omega), ?_⟩
            conv => whnf
            refine ⟨j + 1, le_head ?_, ⟨by omega, by omega, by simp only at hsp; omega⟩, by omega⟩
            repeat' constructor
  · have htok : tokF (s.data.toList.drop k) = if 10 < spanN isLD r + 1 then .bad 2 else .tok 1 (spanN isLD r + 1) 0 := by rw [hd0]; simp only [tokF, hL]
    conv => whnf
    refine loop_keep [0, 1, 4, 5] ?_
    conv => whnf
    refine loop_go (fun j : Nat => [(6, .v (.int .i64 j))]) (fun _ => [noTk]) (fun _ => []) (fun j => k + 1 ≤ j ∧ j ≤ s.size ∧ (j - (k + 1)) + spanN isLD (s.data.toList.drop j) = spanN isLD r) (fun j => s.size - j) (k + 1) ?_ ⟨Nat.le_refl _, by omega, by rw [hr]; omega⟩ ?_
    · repeat' constructor
    · rintro j ⟨hkj, hj, hinv⟩
      conv => whnf
      cases hlt : decide ((j : Int) < (s.size : Int))
      · have hge := of_decide_eq_false hlt
        have h0 : spanN isLD (s.data.toList.drop j) = 0 := by rw [List.drop_of_length_le (by omega)]; simp [spanN]
        conv => whnf
        refine ⟨i64r (by omega), ?_⟩
        conv => whnf
        by_cases hbig : 10 < spanN isLD r + 1
        · refine br_true (by simp; omega) ?_
          conv => whnf
          rw [if_pos hbig] at htok
          rw [tokR_bad htok]; rfl
        · refine br_false (by simp; omega) ?_
          conv => whnf
          refine ⟨⟨by omega, by omega, by omega⟩, ?_⟩
          rw [show s.extract (Int.toNat (k : Int)) (Int.toNat (j : Int)) = bs ((s.data.toList.drop k).take (spanN isLD r + 1)) from ext_take s k j _ (by omega) (by omega)]
          conv => whnf
          rw [if_neg hbig] at htok
          rw [tokR_tok htok]; rfl
      · have hlt2 := of_decide_eq_true hlt
        have hsp := span isLD j hkj (by omega)
        conv => whnf
        refine ⟨⟨by omega, by omega⟩, ?_⟩
        rw [show s.data.toList.getD (Int.toNat (j : Int)) 0 = s.data.toList.getD j 0 from rfl]
        obtain ⟨q, hqe⟩ : ∃ q, q = s.data.toList.getD j 0 := ⟨_, rfl⟩
        rw [← hqe] at hsp ⊢
        conv => whnf
        refine call0 [] rfl (fun _ => letter_spec q) ?_
        rintro x rfl
        conv => whnf
        cases hq : isL q
        · conv => whnf
          refine ⟨⟨by omega, by omega⟩, ?_⟩
          rw [show s.data.toList.getD (Int.toNat (j : Int)) 0 = q from hqe.symm]
          conv => whnf
          refine call0 [] rfl (fun _ => digit_spec q) ?_
          rintro x rfl
          conv => whnf
          cases hq2 : isD q
          · have h0 : spanN isLD (s.data.toList.drop j) = 0 := by rw [hsp, show isLD q = false from by simp [isLD, hq, hq2]]
            conv => whnf
            refine ⟨i64r (by omega), ?_⟩
            conv => whnf
            by_cases hbig : 10 < spanN isLD r + 1
            · refine br_true (by simp; omega) ?_
              conv => whnf
              rw [if_pos hbig] at htok
              rw [tokR_bad htok]; rfl
            · refine br_false (by simp; omega) ?_
              conv => whnf
              refine ⟨⟨by omega, by omega, by omega⟩, ?_⟩
              rw [show s.extract (Int.toNat (k : Int)) (Int.toNat (j : Int)) = bs ((s.data.toList.drop k).take (spanN isLD r + 1)) from ext_take s k j _ (by omega) (by omega)]
              conv => whnf
              rw [if_neg hbig] at htok
              rw [tokR_tok htok]; rfl
          · rw [show isLD q = true from by simp [isLD, hq2]] at hsp
            conv => whnf
            refine ⟨i64r (by omega), ?_⟩
            conv => whnf
            refine ⟨j + 1, le_head ?_, ⟨by omega, by omega, by simp only at hsp; omega⟩, by omega⟩
            repeat' constructor
        · rw [show isLD q = true from by simp [isLD, hq]] at hsp
          conv => whnf
          refine ⟨i64r (by omega), ?_⟩
          conv => whnf
          refine ⟨j + 1, le_head ?_, ⟨by omega, by omega, by simp only at hsp; omega⟩, by omega⟩
          repeat' constructor
end Go.Proofs.YtpjcbadnpknncaaGreatDoor.Vm
/- The plain lexer's steps; the reference's Tokens. -/
namespace Go.Proofs.YtpjcbadnpknncaaGreatDoor.Vm
open Go.RowKit
set_option linter.unusedSimpArgs false
set_option linter.unusedVariables false
set_option maxRecDepth 100000
theorem rtokens_spec (s : ByteArray) (hs : s.size ≤ 1000000000) : Spec Tryz.prog 35 [] [.v (.string s)] fun _ r => r = lexR s := by
  have hsl := size_len s
  refine spec_of (cx_ok ord0 xs0 0) (fun _ _ h => h) Tryz.func35 rfl (by kernel_rfl) rfl (by kernel_rfl) ?_
  intro _
  conv => whnf
  refine call0 [] rfl (fun _ => skip_spec s 0 hs (Nat.zero_le _)) ?_
  rintro r rfl
  have hk0 := skipN_le false s.data.toList
  rw [List.drop_zero, Nat.zero_add]
  conv => whnf
  refine loop_row 86 4 [5] [] ?_
  conv => whnf
  refine ⟨trivial, ?_⟩
  conv => whnf
  refine loop_keep [0, 5] ?_
  conv => whnf
  refine loop_go (fun x : Nat × List Tk => [(6, .v (.int .i64 x.1))]) (fun _ => []) (fun x => [.live 86 4 x.2.length (tksL x.2)]) (fun x => x.1 ≤ s.size ∧ x.2.length ≤ x.1 ∧ clean (s.data.toList.drop x.1) ∧ Lx.app x.2 (lexL x.1 (s.data.toList.drop x.1)) = lexF' s) (fun x => s.size - x.1)
    (skipN false s.data.toList, []) ?_ ⟨by simp only; omega, by simp, by have := skip_clean false s.data.toList; simpa using this, by
      have := lexL_skip 0 s.data.toList
      rw [Nat.zero_add] at this
      simp only [Lx.app, List.nil_append, lexF']
      rw [this]⟩ ?_
  · repeat' constructor
  · rintro ⟨p, ts⟩ ⟨hp, hts, hcl, hinv⟩
    simp only at hp hts hcl hinv
    conv => whnf
    by_cases hlt : p < s.size
    · refine br_true (by simp; omega) ?_
      conv => whnf
      refine call0 [] rfl (fun _ => token_spec s p hs hlt) ?_
      rintro r rfl
      have hd := drop_cons s.data.toList p (by omega)
      generalize s.data.toList[p]'(by omega) = c at *
      generalize s.data.toList.drop (p + 1) = r at *
      rw [hd] at hcl hinv
      cases ht : tokF (c :: r) with
      | bad e =>
        rw [tokR_bad (e := e) (by rw [hd]; exact ht)]
        rw [lexL_bad hcl.1 hcl.2 ht] at hinv
        have hne := tokF_bad ht
        conv => whnf
        refine br_true (by simpa using hne) ?_
        conv => whnf
        rw [lexR_err (ts := ts ++ []) (p := p) (e := e) hinv.symm]; rfl
      | tok k len n =>
        have hl := tokF_len ht
        have hrl : (c :: r).length = s.size - p := by rw [← hd, List.length_drop, hsl]
        have htx := take_size (c :: r) len hl.2
        rw [tokR_tok (k := p) (kd := k) (len := len) (n := n) (by rw [hd]; exact ht), hd]
        rw [lexL_tok hcl.1 hcl.2 ht, app_cons] at hinv
        conv => whnf
        refine ⟨⟨by unfold maxLen; simp only; omega, by simp only; omega⟩, ?_⟩
        conv => whnf
        rw [htx]
        refine ⟨i64r (by omega), ?_⟩
        conv => whnf
        refine call0 [] rfl (fun _ => skip_spec s (p + len) hs (by omega)) ?_
        rintro x rfl
        have hk2 := skipN_le false (s.data.toList.drop (p + len))
        rw [List.length_drop, hsl] at hk2
        have hcl2 := skip_clean false (s.data.toList.drop (p + len))
        have hsk := lexL_skip (p + len) (s.data.toList.drop (p + len))
        rw [List.drop_drop] at hcl2 hsk
        have hdl : (c :: r).drop len = s.data.toList.drop (p + len) := by rw [← hd, List.drop_drop]
        rw [hdl, hsk] at hinv
        generalize skipN false (s.data.toList.drop (p + len)) = q at *
        conv => whnf
        refine ⟨(p + len + q, ts ++ [⟨k, p, bs ((c :: r).take len), n⟩]), le_head ?_, ⟨by simp only; omega, by simp; omega, hcl2, hinv⟩, by simp only; omega⟩
        repeat' constructor
        · simp only [List.length_append, List.length_cons, List.length_nil, tksL_snoc]; rfl
    · refine br_false (by simp; omega) ?_
      obtain rfl : p = s.size := by omega
      rw [List.drop_of_length_le (by omega), lexL_nil] at hinv
      conv => whnf
      refine ⟨⟨by unfold maxLen; simp only; omega, by simp only; omega⟩, ?_⟩
      conv => whnf
      have hl : lexF' s = ⟨ts, none⟩ := by rw [← hinv]; simp [Lx.app]
      rw [lexR_ok hl]; rfl
end Go.Proofs.YtpjcbadnpknncaaGreatDoor.Vm
/- The reference's parser: its small functions. -/
namespace Go.Proofs.YtpjcbadnpknncaaGreatDoor.Vm
open Go.RowKit Go.Shelf
set_option linter.unusedSimpArgs false
set_option linter.unusedVariables false
set_option maxRecDepth 100000
/-- The parser's box: the tokens, the next one, the first error. -/
def bxP (T : List Tk) (i : Nat) (a e : Int) : List A := [.sl 4 T.length (tksL T), .v (.int .i64 i), intA a, intA e]
def isR (s : ByteArray) (t : Tk) : Bool := decide (t.text = s) && (decide (t.kind = 1) || decide (t.kind = 3))
theorem rowOf_tks (T : List Tk) (i : Nat) (h : i < T.length) : rowOf 4 i (tksL T) = tkL T[i] := rowOf_flat tkL (fun _ => rfl) T i h
theorem pIs_spec (T : List Tk) (i : Nat) (a e : Int) (hi : i < T.length) (s : ByteArray) : Spec Tryz.prog 55 [bxP T i a e] [.box 0 0, strA s] fun o r => o = [bxP T i a e] ∧ r = boolA (decide (e = 0) && isR s T[i]) := by
  have hr := rowOf_tks T i hi
  unfold isR
  refine spec_of (cx_ok ord55 xs0 1) (fun _ _ h => h) Tryz.func55 rfl (by kernel_rfl) rfl (by kernel_rfl) ?_
  intro _
  generalize T[i] = t at *
  conv => whnf
  (refine goA ?_; try with_reducible exact trivial)
  (generalize hrq : rowOf _ _ (tksL T) = rq; obtain rfl : rq = tkL t := hrq.symm.trans (hr); clear hrq; conv => whnf)
  by_cases h0 : e = 0
  · rw [decide_eq_true h0]
    conv => whnf
    by_cases h1 : t.text = s
    · rw [decide_eq_true h1]
      conv => whnf
      by_cases h2 : t.kind = 1
      · rw [decide_eq_true h2]
        conv => whnf
        exact ⟨rfl, rfl⟩
      · rw [decide_eq_false h2]
        conv => whnf
        exact ⟨rfl, rfl⟩
    · rw [decide_eq_false h1]
      conv => whnf
      exact ⟨rfl, rfl⟩
  · rw [decide_eq_false h0]
    conv => whnf
    exact ⟨rfl, rfl⟩
theorem pFail_spec (T : List Tk) (i : Nat) (a e : Int) (hi : i < T.length) (x : Int) : Spec Tryz.prog 37 [bxP T i a e] [.box 0 0, intA x] fun o r => o = [if e = 0 then bxP T i T[i].pos x else bxP T i a e] ∧ r = .tup [] := by
  have hr := rowOf_tks T i hi
  refine spec_of (cx_ok ord37 xs0 1) (fun _ _ h => h) Tryz.func37 rfl (by kernel_rfl) rfl (by kernel_rfl) ?_
  intro _
  generalize T[i] = t at *
  conv => whnf
  by_cases h0 : e = 0
  · rw [decide_eq_true h0, if_pos h0]
    conv => whnf
    (refine goA ?_; try with_reducible exact trivial)
    (generalize hrq : rowOf _ _ (tksL T) = rq; obtain rfl : rq = tkL t := hrq.symm.trans (hr); clear hrq; conv => whnf)
    exact ⟨rfl, rfl⟩
  · rw [decide_eq_false h0, if_neg h0]
    conv => whnf
    exact ⟨rfl, rfl⟩
theorem pTake_spec (T : List Tk) (i : Nat) (a e : Int) (hi : i < T.length) (hT : T.length ≤ 1000000) : Spec Tryz.prog 56 [bxP T i a e] [.box 0 0] fun o r => o = [bxP T (if i + 1 < T.length then i + 1 else i) a e] ∧ r = .tup [] := by
  refine spec_of (cx_ok ord56 xs0 1) (fun _ _ h => h) Tryz.func56 rfl (by kernel_rfl) rfl (by kernel_rfl) ?_
  intro _
  conv => whnf
  (refine goA ?_; try with_reducible exact trivial)
  by_cases h : i + 1 < T.length
  · rw [if_pos h]
    (refine goA ?_; try with_reducible exact trivial)
    exact ⟨rfl, rfl⟩
  · rw [if_neg h]
    (refine goA ?_; try with_reducible exact trivial)
    exact ⟨rfl, rfl⟩
/-- What open leaves behind. -/
def opnP (T : List Tk) (i : Nat) (a e : Int) (lv : Int) : List A := if e = 0 then (if 20 < lv then bxP T i (T.getD i tk0).pos 2 else bxP T (if i + 1 < T.length then i + 1 else i) a 0) else bxP T i a e
theorem pOpen_spec (T : List Tk) (i : Nat) (a e : Int) (hi : i < T.length) (hT : T.length ≤ 1000000) (lv : Int) : Spec Tryz.prog 85 [bxP T i a e] [.box 0 0, intA lv] fun o r => o = [opnP T i a e lv] ∧ r = .tup [] := by
  have hf := pFail_spec T i a e hi 2
  have htk := pTake_spec T i a e hi hT
  have eg : T[i] = T.getD i tk0 := by rw [List.getD_eq_getElem?_getD, List.getElem?_eq_getElem hi]; rfl
  rw [eg] at hf
  unfold opnP
  generalize (T.getD i tk0).pos = x at *
  generalize (if i + 1 < T.length then i + 1 else i) = j at *
  refine spec_of (cx_ok ord0 xs0 1) (fun _ _ h => h) Tryz.func85 rfl (by kernel_rfl) rfl (by kernel_rfl) ?_
  intro _
  conv => whnf
  by_cases h1 : 20 < lv
  · (refine goA ?_; try with_reducible exact trivial)
    refine call1 0 [] rfl rfl rfl rfl (fun _ => hf) ?_
    rintro o r ⟨ho, rfl⟩
    cases ho
    by_cases h0 : e = 0
    · rw [if_pos h0, if_pos h0, if_pos h1]
      conv => whnf
      (refine goA ?_; try with_reducible exact trivial)
      exact ⟨rfl, rfl⟩
    · rw [if_neg h0, if_neg h0]
      conv => whnf
      rw [decide_eq_false h0]
      conv => whnf
      exact ⟨rfl, rfl⟩
  · (refine goA ?_; try with_reducible exact trivial)
    by_cases h0 : e = 0
    · rw [if_pos h0, if_neg h1]
      subst h0
      (refine goA ?_; try with_reducible exact trivial)
      refine call1 0 [] rfl rfl rfl rfl (fun _ => htk) ?_
      rintro o r ⟨ho, rfl⟩
      cases ho
      conv => whnf
      exact ⟨rfl, rfl⟩
    · rw [if_neg h0, decide_eq_false h0]
      conv => whnf
      exact ⟨rfl, rfl⟩
/-- The reference's numbers of variables. -/
def numR (l : List UInt8) : Int := if l.length < 2 then -1 else if allD (l.drop 1) = false then -1 else if l.getD 0 0 = 118 then (numG 0 (l.drop 1) : Int) else -1
theorem allD_snoc (l : List UInt8) (c : UInt8) : allD (l ++ [c]) = (allD l && isD c) := by unfold allD; rw [List.all_append]; simp
theorem allD_bad {l : List UInt8} {k : Nat} (h : k < l.length) (hc : isD l[k] = false) : allD l = false := by
  cases ha : allD l with
  | false => rfl
  | true =>
    unfold allD at ha
    rw [List.all_eq_true] at ha
    rw [ha _ (List.getElem_mem h)] at hc
    cases hc
theorem number_spec (s : ByteArray) (hs : s.size ≤ 1000000000) (hsm : smallD (s.data.toList.drop 1)) : Spec Tryz.prog 97 [] [.v (.string s)] fun _ r => r = intA (numR s.data.toList) := by
  have hsl := size_len s
  generalize hl : s.data.toList = l at *
  unfold numR
  refine spec_of (cx_ok ord0 xs0 0) (fun _ _ h => h) Tryz.func97 rfl (by kernel_rfl) rfl (by kernel_rfl) ?_
  intro _
  conv => whnf
  by_cases h2 : l.length < 2
  · rw [if_pos h2]
    (refine goA ?_; try with_reducible exact trivial)
    rfl
  · rw [if_neg h2]
    obtain ⟨R, hR⟩ : ∃ R, (if allD (l.drop 1) = false then (-1 : Int) else if l.getD 0 0 = 118 then (numG 0 (l.drop 1) : Int) else -1) = R := ⟨_, rfl⟩
    rw [hR]
    (refine goA ?_; try with_reducible exact trivial)
    refine loop_keep [0] ?_
    conv => whnf
    refine loop_go (fun x : Nat × Nat => [(3, .v (.int .i64 x.2)), (4, .v (.int .i64 ((x.1 : Int) + 1)))]) (fun _ => []) (fun _ => []) (fun x => x.1 + 1 ≤ l.length ∧ allD ((l.drop 1).take x.1) = true ∧ x.2 = numG 0 ((l.drop 1).take x.1)) (fun x => l.length - x.1) (0, 0) ?_ ⟨by simp only; omega, rfl, rfl⟩ ?_
    · repeat' constructor
    · rintro ⟨k, n⟩ ⟨hk, ha, hn⟩
      simp only at hk ha hn
      have hsk := hsm k (by rw [List.length_drop]; omega) ha
      rw [← hn] at hsk
      conv => whnf
      by_cases hlt : k + 1 < l.length
      · have hkd : k < (l.drop 1).length := by rw [List.length_drop]; omega
        have hc : s.data.toList.getD (((k : Nat) : Int) + 1).toNat 0 = (l.drop 1)[k] := by
          rw [hl, show (((k : Nat) : Int) + 1).toNat = 1 + k by omega, List.getElem_drop, List.getD_eq_getElem?_getD, List.getElem?_eq_getElem (by omega)]; rfl
        have htk : (l.drop 1).take (k + 1) = (l.drop 1).take k ++ [(l.drop 1)[k]] := by rw [List.take_add_one, List.getElem?_eq_getElem hkd]; rfl
        have hbad := allD_bad hkd
        generalize hcc : (l.drop 1)[k] = c at *
        have hm : 0 ≤ (c.toNat : Int) ∧ (c.toNat : Int) ≤ 255 := by have := c.toNat_lt; omega
        (refine goA ?_; try with_reducible exact trivial)
        rw [show s.data.toList.getD ((((k, n) : Nat × Nat).fst : Int) + 1).toNat 0 = c from hc]
        by_cases h48 : (c.toNat : Int) < 48
        · have hD : isD c = false := by unfold isD; rw [decide_eq_false (by omega)]; rfl
          rw [if_pos (hbad hD)] at hR
          (refine goA ?_; try with_reducible exact trivial)
          rw [← hR]
          rfl
        · by_cases h57 : 57 < (c.toNat : Int)
          · have hD : isD c = false := by unfold isD; rw [decide_eq_false (show ¬ (c.toNat : Int) ≤ 57 by omega), Bool.and_false]
            rw [if_pos (hbad hD)] at hR
            (refine goA ?_; try with_reducible exact trivial)
            rw [show s.data.toList.getD ((((k, n) : Nat × Nat).fst : Int) + 1).toNat 0 = c from hc]
            (refine goA ?_; try with_reducible exact trivial)
            rw [← hR]
            rfl
          · have hD : isD c = true := by unfold isD; rw [decide_eq_true (show 48 ≤ (c.toNat : Int) by omega), decide_eq_true (show (c.toNat : Int) ≤ 57 by omega)]; rfl
            (refine goA ?_; try with_reducible exact trivial)
            rw [show s.data.toList.getD ((((k, n) : Nat × Nat).fst : Int) + 1).toNat 0 = c from hc]
            (refine goA ?_; try with_reducible exact trivial)
            rw [show s.data.toList.getD ((((k, n) : Nat × Nat).fst : Int) + 1).toNat 0 = c from hc]
            (refine goA ?_; try with_reducible exact trivial)
            have hn2 : 10 * n + (c.toNat - 48) = numG 0 ((l.drop 1).take (k + 1)) := by rw [htk, numG_snoc, hn]
            refine ⟨(k + 1, 10 * n + (c.toNat - 48)), le_head ?_, ⟨by simp only; omega, by simp only; rw [htk, allD_snoc, ha, hD]; rfl, hn2⟩, by simp only; omega⟩
            repeat' constructor
            · show A.v (.int .i64 (10 * (n : Int) + (c.toNat : Int) - 48)) = A.v (.int .i64 ((10 * n + (c.toNat - 48) : Nat) : Int))
              rw [show ((10 * n + (c.toNat - 48) : Nat) : Int) = 10 * (n : Int) + (c.toNat : Int) - 48 by omega]
      · have hk2 : k = (l.drop 1).length := by rw [List.length_drop]; omega
        rw [hk2, List.take_length] at ha hn
        rw [if_neg (by rw [ha]; simp), ← hn] at hR
        have hc : s.data.toList.getD (Int.toNat 0) 0 = l.getD 0 0 := by rw [hl]; rfl
        generalize l.getD 0 0 = c at *
        have hiff : ((c.toNat : Int) = 118) ↔ c = 118 := by
          constructor
          · intro h
            have : c.toNat = 118 := by omega
            exact UInt8.toNat_inj.1 this
          · rintro rfl; rfl
        (refine goA ?_; try with_reducible exact trivial)
        rw [hc]
        by_cases h118 : c = 118
        · rw [if_pos h118] at hR
          rw [decide_eq_true (hiff.2 h118)]
          conv => whnf
          rw [← hR]
          rfl
        · rw [if_neg h118] at hR
          rw [decide_eq_false (fun h => h118 (hiff.1 h))]
          conv => whnf
          rw [← hR]
          rfl
end Go.Proofs.YtpjcbadnpknncaaGreatDoor.Vm
/- Formulas: equality, constants. -/
namespace Go.Proofs.YtpjcbadnpknncaaGreatDoor.Vm
open Go.RowKit Go.Shelf
set_option linter.unusedSimpArgs false
set_option linter.unusedVariables false
set_option maxRecDepth 100000
theorem i64w {n : Int} (h : -9223372036854775808 ≤ n ∧ n ≤ 9223372036854775807) : lo .i64 ≤ n ∧ n ≤ hi .i64 := h
mutual
def eqM : Fm → Fm → Bool
  | .mk k a b n l, .mk k' a' b' n' l' => decide (k = k') && (decide (a = a') && (decide (b = b') && (decide (n = n') && eqMs l l')))
def eqMs : List Fm → List Fm → Bool
  | [], [] => true
  | f :: l, g :: m => eqM f g && eqMs l m
  | _, _ => false
end
mutual
theorem eqM_iff : ∀ f g : Fm, eqM f g = true ↔ f = g
  | .mk k a b n l, .mk k' a' b' n' l' => by
    unfold eqM
    simp only [Bool.and_eq_true, decide_eq_true_eq, eqMs_iff l l', Fm.mk.injEq]
theorem eqMs_iff : ∀ l m : List Fm, eqMs l m = true ↔ l = m
  | [], [] => by simp [eqMs]
  | [], _ :: _ => by simp [eqMs]
  | _ :: _, [] => by simp [eqMs]
  | f :: l, g :: m => by
    unfold eqMs
    simp only [Bool.and_eq_true, eqM_iff f g, eqMs_iff l m, List.cons.injEq]
end
theorem eqMs_len : ∀ {l m : List Fm}, l.length ≠ m.length → eqMs l m = false := fun {l m} h => by
  cases he : eqMs l m with
  | false => rfl
  | true => exact absurd (congrArg List.length ((eqMs_iff l m).1 he)) h
theorem eqMs_drop (l m : List Fm) (k : Nat) (hl : k < l.length) (hm : k < m.length) : eqMs (l.drop k) (m.drop k) = (eqM l[k] m[k] && eqMs (l.drop (k + 1)) (m.drop (k + 1))) := by
  rw [List.drop_eq_getElem_cons hl, List.drop_eq_getElem_cons hm]
  conv => lhs; unfold eqMs
def EqSpec (f g : Fm) : Prop := Spec Tryz.prog 86 [] [.agg (fmA f), .agg (fmA g)] fun _ r => r = boolA (eqM f g)
theorem eqFunc_spec (l m : List Fm) (hl : l.length ≤ maxLen) (h : ∀ f ∈ l, ∀ g ∈ m, EqSpec f g) : Spec Tryz.prog 98 [] [.sl 5 l.length (fmsA l), .sl 5 m.length (fmsA m), .clo 86 []] fun _ r => r = boolA (eqMs l m) := by
  unfold maxLen at hl
  refine spec_of (cx_ok ord0 xs0 0) (fun _ _ h => h) Tryz.func98 rfl (by kernel_rfl) rfl (by kernel_rfl) ?_
  intro _
  conv => whnf
  by_cases hlen : (l.length : Int) = m.length
  · rw [decide_eq_true hlen]
    conv => whnf
    refine loop_keep [0, 1, 2, 15, 16] ?_
    conv => whnf
    refine loop_go (fun k : Nat => [(17, .v (.int .i64 k))]) (fun _ => []) (fun _ => []) (fun k => k ≤ l.length ∧ eqMs (l.drop k) (m.drop k) = eqMs l m) (fun k => l.length - k) 0 ?_ ⟨Nat.zero_le _, rfl⟩ ?_
    · repeat' constructor
    · rintro k ⟨hk, hinv⟩
      conv => whnf
      by_cases hlt : k < l.length
      · have hm : k < m.length := by omega
        have hr1 := rowOf_fms l k hlt
        have hr2 := rowOf_fms m k hm
        have hsp := h l[k] (List.getElem_mem hlt) m[k] (List.getElem_mem hm)
        rw [eqMs_drop l m k hlt hm] at hinv
        generalize l[k] = f at *
        generalize m[k] = g at *
        (refine goA ?_; try with_reducible exact trivial)
        (generalize hrq : rowOf _ _ (fmsA l) = rq; obtain rfl : rq = fmA f := hrq.symm.trans (hr1); clear hrq; conv => whnf)
        (refine goA ?_; try with_reducible exact trivial)
        (generalize hrq : rowOf _ _ (fmsA m) = rq; obtain rfl : rq = fmA g := hrq.symm.trans (hr2); clear hrq; conv => whnf)
        (refine call0 [] rfl (fun _ => hsp) ?_; rintro r rfl; conv => whnf)
        cases hq : eqM f g with
        | true =>
          rw [hq, Bool.true_and] at hinv
          (refine goA ?_; try with_reducible exact trivial)
          refine ⟨i64w (by omega), ?_⟩
          conv => whnf
          refine ⟨k + 1, le_head ?_, ⟨hlt, hinv⟩, by omega⟩
          repeat' constructor
        | false =>
          rw [hq, Bool.false_and] at hinv
          (refine goA ?_; try with_reducible exact trivial)
          rw [← hinv]
          rfl
      · (refine goA ?_; try with_reducible exact trivial)
        have e1 : l.drop k = [] := List.drop_of_length_le (by omega)
        have e2 : m.drop k = [] := List.drop_of_length_le (by omega)
        rw [e1, e2] at hinv
        rw [← hinv]
        rfl
  · rw [decide_eq_false hlen]
    conv => whnf
    rw [eqMs_len (by omega)]
    rfl
theorem okSl {k n : Nat} {cs : List A} (h : okA (.sl k n cs)) : n ≤ maxLen := by unfold okA at h; exact h.2.1
theorem ok_fm {f : Fm} (h : okA (.agg (fmA f))) : f.kids.length ≤ maxLen := by
  unfold okA at h
  exact okSl (okL_mem h (show A.sl 5 f.kids.length (fmsA f.kids) ∈ fmA f by simp [fmA]))
theorem equal_spec : ∀ f g : Fm, EqSpec f g
  | .mk k a b n l, .mk k' a' b' n' l' => by
    have hkids : ∀ f ∈ l, ∀ g ∈ l', EqSpec f g := fun f hf g hg => equal_spec f g
    have hfn := fun hl => eqFunc_spec l l' hl hkids
    unfold EqSpec eqM
    refine spec_of (cx_ok ord0 xs0 0) (fun _ _ h => h) Tryz.func86 rfl (by kernel_rfl) rfl (by kernel_rfl) ?_
    intro hok
    have hl := ok_fm (okL_mem hok (List.mem_cons_self ..))
    simp only [Fm.kids] at hl
    replace hfn := hfn hl
    simp only [fmA, Fm.k, Fm.a, Fm.b, Fm.n, Fm.kids]
    generalize eqMs l l' = R at *
    conv => whnf
    by_cases h1 : k = k'
    · rw [decide_eq_true h1]
      conv => whnf
      by_cases h2 : a = a'
      · rw [decide_eq_true h2]
        conv => whnf
        by_cases h3 : b = b'
        · rw [decide_eq_true h3]
          conv => whnf
          by_cases h4 : n = n'
          · rw [decide_eq_true h4]
            conv => whnf
            (refine call0 [] rfl (fun _ => hfn) ?_; rintro r rfl; conv => whnf)
            rfl
          · rw [decide_eq_false h4]
            conv => whnf
            rfl
        · rw [decide_eq_false h3]
          conv => whnf
          rfl
      · rw [decide_eq_false h2]
        conv => whnf
        rfl
    · rw [decide_eq_false h1]
      conv => whnf
      rfl
termination_by f => SizeOf.sizeOf f
decreasing_by
  have := List.sizeOf_lt_of_mem hf
  simp only [Fm.mk.sizeOf_spec]
  omega
end Go.Proofs.YtpjcbadnpknncaaGreatDoor.Vm
/- Formulas: join. -/
namespace Go.Proofs.YtpjcbadnpknncaaGreatDoor.Vm
open Go.RowKit Go.Shelf
set_option linter.unusedSimpArgs false
set_option linter.unusedVariables false
set_option maxRecDepth 100000
def isC (f : Fm) : Bool := (decide (f.k = 3) || decide (f.k = 4)) && decide (f.kids.length = 0)
theorem isC_spec (f : Fm) : Spec Tryz.prog 39 [] [.agg (fmA f)] fun _ r => r = boolA (isC f) := by
  obtain ⟨k, a, b, n, l⟩ := f
  simp only [isC, Fm.k, Fm.kids]
  refine spec_of (cx_ok ord0 xs0 0) (fun _ _ h => h) Tryz.func39 rfl (by kernel_rfl) rfl (by kernel_rfl) ?_
  intro hok
  simp only [fmA, Fm.k, Fm.a, Fm.b, Fm.n, Fm.kids]
  conv => whnf
  have e0 : ∀ m : Nat, decide ((m : Int) = 0) = decide (m = 0) := fun m => by rw [decide_eq_decide]; omega
  by_cases h3 : k = 3
  · rw [decide_eq_true h3]
    conv => whnf
    rw [e0]
    simp [boolA, h3]
  · rw [decide_eq_false h3]
    conv => whnf
    by_cases h4 : k = 4
    · rw [decide_eq_true h4]
      conv => whnf
      rw [e0]
      simp [boolA, h4]
    · rw [decide_eq_false h4]
      conv => whnf
      simp [boolA, h3, h4]
def AskF (c : Nat) (h : Fm) (p : Fm → Bool) : Prop := ∀ g, Spec Tryz.prog c [] [.agg (fmA g), .pp (fmA h)] fun _ r => r = boolA (p g)
theorem ask1 (h : Fm) : AskF 88 h fun g => eqM h g := fun g => by
  have hq := equal_spec h g
  unfold EqSpec at hq
  refine spec_of (cx_ok ord0 xs0 0) (fun _ _ h => h) Tryz.func88 rfl (by kernel_rfl) rfl (by kernel_rfl) ?_
  intro _
  conv => whnf
  (refine call0 [] rfl (fun _ => hq) ?_; rintro r rfl; conv => whnf)
  rfl
theorem ask2 (h : Fm) : AskF 89 h fun g => eqM g h := fun g => by
  have hq := equal_spec g h
  unfold EqSpec at hq
  refine spec_of (cx_ok ord0 xs0 0) (fun _ _ h => h) Tryz.func89 rfl (by kernel_rfl) rfl (by kernel_rfl) ?_
  intro _
  conv => whnf
  (refine call0 [] rfl (fun _ => hq) ?_; rintro r rfl; conv => whnf)
  rfl
def idxP (p : Fm → Bool) : List Fm → Int → Int
  | [], _ => -1
  | f :: l, i => if p f = true then i else idxP p l (i + 1)
theorem idxP_any (p : Fm → Bool) : ∀ (l : List Fm) (i : Int), 0 ≤ i → decide (0 ≤ idxP p l i) = l.any p
  | [], i, _ => rfl
  | f :: l, i, h => by
    rw [idxP, List.any_cons]
    by_cases hp : p f = true
    · rw [if_pos hp, hp, decide_eq_true h]; rfl
    · rw [if_neg hp, idxP_any p l (i + 1) (by omega)]
      simp only [Bool.not_eq_true] at hp
      rw [hp]; rfl
theorem idxF_spec (l : List Fm) (c : Nat) (h : Fm) (p : Fm → Bool) (hp : AskF c h p) : Spec Tryz.prog 99 [] [.sl 5 l.length (fmsA l), .clo c [.pp (fmA h)]] fun _ r => r = intA (idxP p l 0) := by
  refine spec_of (cx_ok ord0 xs0 0) (fun _ _ h => h) Tryz.func99 rfl (by kernel_rfl) rfl (by kernel_rfl) ?_
  intro hok
  have hl := okSl (okL_mem hok (List.mem_cons_self ..))
  unfold maxLen at hl
  conv => whnf
  refine loop_keep [0, 1, 7] ?_
  conv => whnf
  refine loop_go (fun k : Nat => [(8, .v (.int .i64 k))]) (fun _ => []) (fun _ => []) (fun k => k ≤ l.length ∧ idxP p (l.drop k) k = idxP p l 0) (fun k => l.length - k) 0 ?_ ⟨Nat.zero_le _, rfl⟩ ?_
  · repeat' constructor
  · rintro k ⟨hk, hinv⟩
    conv => whnf
    by_cases hlt : k < l.length
    · have hr := rowOf_fms l k hlt
      rw [List.drop_eq_getElem_cons hlt] at hinv
      generalize l[k] = s at *
      (refine goA ?_; try with_reducible exact trivial)
      (generalize hrq : rowOf _ _ (fmsA l) = rq; obtain rfl : rq = fmA s := hrq.symm.trans (hr); clear hrq; conv => whnf)
      (refine call0 [] rfl (fun _ => hp s) ?_; rintro r rfl; conv => whnf)
      cases hq : p s with
      | true =>
        (refine goA ?_; try with_reducible exact trivial)
        rw [idxP, if_pos hq] at hinv
        rw [← hinv]
        rfl
      | false =>
        (refine goA ?_; try with_reducible exact trivial)
        rw [idxP, if_neg (by rw [hq]; simp)] at hinv
        refine ⟨i64w (by omega), ?_⟩
        conv => whnf
        refine ⟨k + 1, le_head ?_, ⟨hlt, by push_cast; exact hinv⟩, by omega⟩
        repeat' constructor
    · (refine goA ?_; try with_reducible exact trivial)
      rw [List.drop_of_length_le (by omega)] at hinv
      rw [← hinv]
      rfl
theorem contF_spec (l : List Fm) (c : Nat) (h : Fm) (p : Fm → Bool) (hp : AskF c h p) : Spec Tryz.prog 87 [] [.sl 5 l.length (fmsA l), .clo c [.pp (fmA h)]] fun _ r => r = boolA (l.any p) := by
  have hi := idxF_spec l c h p hp
  have ha := idxP_any p l 0 (by omega)
  generalize idxP p l 0 = i at *
  refine spec_of (cx_ok ord0 xs0 0) (fun _ _ h => h) Tryz.func87 rfl (by kernel_rfl) rfl (by kernel_rfl) ?_
  intro hok
  conv => whnf
  (refine call0 [] rfl (fun _ => hi) ?_; rintro r rfl; conv => whnf)
  rw [ha]
  rfl
/-! ### join -/
def addF (acc : List Fm) (f : Fm) : List Fm := if acc.any (fun g => eqM f g) = true then acc else acc ++ [f]
def partsF (kind : Int) (f : Fm) : List Fm := if f.k = kind then f.kids else [f]
def flatJ (kind : Int) (l : List Fm) : List Fm := l.flatMap (partsF kind)
def absF (kind : Int) : Fm := constF (decide (kind = 4))
def finJ (kind : Int) (l : List Fm) : Fm := if l.any (fun g => eqM g (absF kind)) = true then absF kind else match l with
  | [f] => f
  | l => .mk kind 0 0 0 l
def joinF (kind : Int) (l : List Fm) : Fm := finJ kind ((flatJ kind l).foldl addF [])
theorem flat_drop (kind : Int) (l : List Fm) (k : Nat) (h : k < l.length) : flatJ kind (l.drop k) = partsF kind l[k] ++ flatJ kind (l.drop (k + 1)) := by
  rw [List.drop_eq_getElem_cons h]
  unfold flatJ
  rw [List.flatMap_cons]
theorem addF_len (acc : List Fm) (f : Fm) : acc.length ≤ (addF acc f).length ∧ (addF acc f).length ≤ acc.length + 1 := by
  unfold addF
  split <;> simp
theorem foldF_len : ∀ (l acc : List Fm), (l.foldl addF acc).length ≤ acc.length + l.length
  | [], acc => by simp
  | f :: l, acc => by
    have := foldF_len l (addF acc f)
    have := (addF_len acc f).2
    simp only [List.foldl_cons, List.length_cons]
    omega
theorem finJ_two (kind : Int) (f1 f2 : Fm) (l : List Fm) : (match f1 :: f2 :: l with | [f] => f | l => Fm.mk kind 0 0 0 l) = .mk kind 0 0 0 (f1 :: f2 :: l) := rfl
set_option maxHeartbeats 1000000 in
theorem join_spec (kind : Int) (kids : List Fm) (hb : (flatJ kind kids).length ≤ 1000000000000) : Spec Tryz.prog 60 [] [intA kind, .sl 5 kids.length (fmsA kids)] fun _ r => r = .agg (fmA (joinF kind kids)) := by
  have hcs := const_spec (decide (kind = 4))
  obtain ⟨L, hL⟩ : ∃ L, (flatJ kind kids).foldl addF [] = L := ⟨_, rfl⟩
  unfold joinF
  rw [hL]
  refine spec_of (cx_ok ord0 xs0 0) (fun _ _ h => h) Tryz.func60 rfl (by kernel_rfl) rfl (by kernel_rfl) ?_
  intro hok
  have hkl := okSl (okL_mem hok (show A.sl 5 kids.length (fmsA kids) ∈ _ from by simp))
  unfold maxLen at hkl
  conv => whnf
  (refine call0 [] rfl (fun _ => hcs) ?_; rintro r rfl; conv => whnf)
  refine loop_row 25 5 [6] [] ?_
  conv => whnf
  refine ⟨trivial, ?_⟩
  conv => whnf
  refine loop_keep [0, 4, 5, 15, 16] ?_
  conv => whnf
  refine loop_goQ (fun x : Nat × List Fm => [(17, .v (.int .i64 x.1)), (6, .own 0)]) (fun _ => [zero5, fmA (absF kind)]) (fun x => [.live 25 5 x.2.length (fmsA x.2)]) (fun x => x.1 ≤ kids.length ∧ (flatJ kind (kids.drop x.1)).foldl addF x.2 = L ∧ x.2.length + (flatJ kind (kids.drop x.1)).length ≤ 1000000000000) (fun x => kids.length - x.1) (0, []) ?_ ⟨Nat.zero_le _, hL, by simpa using hb⟩ ?_
  · unfold headQ
    repeat' constructor
    · show [Row.live _ _ _ _] = [Row.live _ _ _ _]
      rw [fmsA_nil]; rfl
  · rintro ⟨k, acc⟩ ⟨hk, hinv, hbd⟩
    simp only at hk hinv hbd
    conv => whnf
    by_cases hlt : k < kids.length
    · have hr := rowOf_fms kids k hlt
      rw [flat_drop kind kids k hlt, List.foldl_append] at hinv
      rw [flat_drop kind kids k hlt, List.length_append] at hbd
      generalize kids[k] = f at *
      obtain ⟨ps, hps⟩ : ∃ ps, partsF kind f = ps := ⟨_, rfl⟩
      rw [hps] at hinv hbd
      obtain ⟨acc1, ha1⟩ : ∃ acc1, ps.foldl addF acc = acc1 := ⟨_, rfl⟩
      rw [ha1] at hinv
      have hinv0 := hinv
      have hl1 := foldF_len ps acc
      rw [ha1] at hl1
      unfold partsF at hps
      (refine goA ?_; try with_reducible exact trivial)
      (generalize hrq : rowOf _ _ (fmsA kids) = rq; obtain rfl : rq = fmA f := hrq.symm.trans (hr); clear hrq; conv => whnf)
      by_cases hkk : f.k = kind
      · rw [if_pos hkk] at hps
        have hrp : ∀ j (h : j < ps.length), rowOf 5 (Int.toNat j) (fmsA f.kids) = fmA ps[j] := fun j h => by subst hps; exact rowOf_fms f.kids j h
        have hln : f.kids.length = ps.length := by rw [hps]
        (refine goA ?_; try with_reducible exact trivial)
        refine loop_pub [1] ?_
        conv => whnf
        refine loop_keep [0, 4, 5, 6, 8, 9, 15, 16, 17, 29, 30] ?_
        conv => whnf
        refine loop_goQ (fun x : Nat × List Fm => [(31, .v (.int .i64 x.1)), (6, .own 0), (29, .sl 5 f.kids.length (fmsA f.kids))]) (fun _ => [zero5, fmA (absF kind), fmA f]) (fun x => [.live 25 5 x.2.length (fmsA x.2), .pub 5 1 (fmA f)]) (fun x => x.1 ≤ ps.length ∧ ((ps.drop x.1)).foldl addF x.2 = acc1 ∧ x.2.length + (ps.length - x.1) ≤ acc.length + ps.length) (fun x => ps.length - x.1) (0, acc) ?_ ⟨Nat.zero_le _, ha1, by simp⟩ ?_
        · unfold headQ
          repeat' constructor
        · rintro ⟨j, ac⟩ ⟨hj, hinv, hbd2⟩
          simp only at hj hinv hbd2
          conv => whnf
          by_cases hjl : j < ps.length
          · have hrj := hrp j hjl
            rw [List.drop_eq_getElem_cons hjl, List.foldl_cons] at hinv
            generalize ps[j] = g at *
            (refine goA ?_; try with_reducible exact trivial)
            (generalize hrq : rowOf _ _ (fmsA f.kids) = rq; obtain rfl : rq = fmA g := hrq.symm.trans (hrj); clear hrq; conv => whnf)
            refine callL [0] rfl (fun _ => contF_spec ac 88 g _ (ask1 g)) ?_
            rintro r rfl
            refine ⟨_, rfl, ?_⟩
            conv => whnf
            unfold addF at hinv
            cases hq : ac.any (fun x => eqM g x) with
            | true =>
              rw [hq, if_pos rfl] at hinv
              conv => whnf
              refine ⟨i64w (by omega), ?_⟩
              conv => whnf
              refine ⟨(j + 1, ac), le_head ?_, ⟨hjl, hinv, by simp only; omega⟩, by simp only; omega⟩
              repeat' constructor
            | false =>
              rw [hq, if_neg (by simp)] at hinv
              conv => whnf
              refine ⟨⟨by simp only; unfold maxLen; omega, by simp only; omega⟩, ?_⟩
              conv => whnf
              refine ⟨i64w (by omega), ?_⟩
              conv => whnf
              refine ⟨(j + 1, ac ++ [g]), le_head ?_, ⟨hjl, hinv, by simp only [List.length_append, List.length_cons, List.length_nil]; omega⟩, by simp only; omega⟩
              repeat' constructor
              · simp only [List.length_append, List.length_cons, List.length_nil]
                rw [fmsA_snoc]; rfl
          · (refine goA ?_; try with_reducible exact trivial)
            rw [List.drop_of_length_le (by omega)] at hinv
            change ac = acc1 at hinv
            subst hinv
            refine ⟨(k + 1, ac), le_head ?_, ⟨hlt, hinv0, by simp only; omega⟩, by simp only; omega⟩
            repeat' constructor
      · rw [if_neg hkk] at hps
        have hrp : ∀ j (h : j < ps.length), rowOf 5 (Int.toNat j) (fmA f) = fmA ps[j] := fun j h => by
          subst hps
          have := rowOf_fms [f] j h
          rw [fmsA_cons, fmsA_nil, List.append_nil] at this
          exact this
        have hln : 1 = ps.length := by rw [← hps]; rfl
        (refine goA ?_; try with_reducible exact trivial)
        refine loop_pub [1] ?_
        conv => whnf
        refine loop_keep [0, 4, 5, 6, 8, 9, 15, 16, 17, 29, 30] ?_
        conv => whnf
        refine loop_goQ (fun x : Nat × List Fm => [(31, .v (.int .i64 x.1)), (6, .own 0), (29, .sl 5 1 (fmA f))]) (fun _ => [zero5, fmA (absF kind), fmA f]) (fun x => [.live 25 5 x.2.length (fmsA x.2), .pub 5 1 (fmA f)]) (fun x => x.1 ≤ ps.length ∧ ((ps.drop x.1)).foldl addF x.2 = acc1 ∧ x.2.length + (ps.length - x.1) ≤ acc.length + ps.length) (fun x => ps.length - x.1) (0, acc) ?_ ⟨Nat.zero_le _, ha1, by simp⟩ ?_
        · unfold headQ
          repeat' constructor
        · rintro ⟨j, ac⟩ ⟨hj, hinv, hbd2⟩
          simp only at hj hinv hbd2
          conv => whnf
          by_cases hjl : j < ps.length
          · have hrj := hrp j hjl
            rw [List.drop_eq_getElem_cons hjl, List.foldl_cons] at hinv
            generalize ps[j] = g at *
            (refine goA ?_; try with_reducible exact trivial)
            (generalize hrq : rowOf _ _ (fmA f) = rq; obtain rfl : rq = fmA g := hrq.symm.trans (hrj); clear hrq; conv => whnf)
            refine callL [0] rfl (fun _ => contF_spec ac 88 g _ (ask1 g)) ?_
            rintro r rfl
            refine ⟨_, rfl, ?_⟩
            conv => whnf
            unfold addF at hinv
            cases hq : ac.any (fun x => eqM g x) with
            | true =>
              rw [hq, if_pos rfl] at hinv
              conv => whnf
              refine ⟨i64w (by omega), ?_⟩
              conv => whnf
              refine ⟨(j + 1, ac), le_head ?_, ⟨hjl, hinv, by simp only; omega⟩, by simp only; omega⟩
              repeat' constructor
            | false =>
              rw [hq, if_neg (by simp)] at hinv
              conv => whnf
              refine ⟨⟨by simp only; unfold maxLen; omega, by simp only; omega⟩, ?_⟩
              conv => whnf
              refine ⟨i64w (by omega), ?_⟩
              conv => whnf
              refine ⟨(j + 1, ac ++ [g]), le_head ?_, ⟨hjl, hinv, by simp only [List.length_append, List.length_cons, List.length_nil]; omega⟩, by simp only; omega⟩
              repeat' constructor
              · simp only [List.length_append, List.length_cons, List.length_nil]
                rw [fmsA_snoc]; rfl
          · (refine goA ?_; try with_reducible exact trivial)
            rw [List.drop_of_length_le (by omega)] at hinv
            change ac = acc1 at hinv
            subst hinv
            refine ⟨(k + 1, ac), le_head ?_, ⟨hlt, hinv0, by simp only; omega⟩, by simp only; omega⟩
            repeat' constructor
    · rw [List.drop_of_length_le (by omega)] at hinv
      change acc = L at hinv
      subst hinv
      unfold finJ
      (refine goA ?_; try with_reducible exact trivial)
      refine callL [0] rfl (fun _ => contF_spec acc 89 (absF kind) _ (ask2 (absF kind))) ?_
      rintro r rfl
      refine ⟨_, rfl, ?_⟩
      conv => whnf
      cases hq : acc.any (fun x => eqM x (absF kind)) with
      | true =>
        rw [if_pos rfl]
        conv => whnf
        rfl
      | false =>
        rw [if_neg (by simp)]
        conv => whnf
        rcases acc with _ | ⟨f1, acc⟩
        · conv => whnf
          rfl
        rcases acc with _ | ⟨f2, acc⟩
        · have e1 : fmsA [f1] = fmA f1 := by rw [fmsA_cons, fmsA_nil, List.append_nil]
          simp only [e1]
          conv => whnf
          (refine goA ?_; try with_reducible exact trivial)
          rfl
        · have hln : (f1 :: f2 :: acc).length = acc.length + 2 := by simp
          rw [finJ_two]
          generalize f1 :: f2 :: acc = M at *
          conv => whnf
          (refine goA ?_; try with_reducible exact trivial)
          rfl
end Go.Proofs.YtpjcbadnpknncaaGreatDoor.Vm
/- Formulas: build, simplify. -/
namespace Go.Proofs.YtpjcbadnpknncaaGreatDoor.Vm
open Go.RowKit Go.Shelf
set_option linter.unusedSimpArgs false
set_option linter.unusedVariables false
set_option maxRecDepth 100000
def fz : Fm := .mk 0 0 0 0 []
def g0 (l : List Fm) : Fm := l.getD 0 fz
def g1 (l : List Fm) : Fm := l.getD 1 fz
def buildK (k a b n : Int) (ks : List Fm) : Fm :=
  if k = 3 ∨ k = 4 then joinF k ks
  else if k = 2 then (if isC (g0 ks) = true then constF (decide ((g0 ks).k = 4)) else if (g0 ks).k = 2 then g0 (g0 ks).kids else .mk k a b n ks)
  else if k = 6 then (if (isC (g1 ks) || eqM (g0 ks) (constF false)) = true then g1 ks else .mk k a b n ks)
  else if k = 5 ∨ k = 7 ∨ k = 8 then (if isC (g0 ks) = true then g0 ks else .mk k a b n ks)
  else .mk k a b n ks
def buildF (f : Fm) (ks : List Fm) : Fm := buildK f.k f.a f.b f.n ks
theorem mk_k (k a b n : Int) (l : List Fm) : (Fm.mk k a b n l).k = k := rfl
structure NeedK (k : Int) (ks : List Fm) : Prop where
  j : k = 3 ∨ k = 4 → (flatJ k ks).length ≤ 1000000000000
  n : k = 2 → 1 ≤ ks.length ∧ ((g0 ks).k = 2 → 1 ≤ (g0 ks).kids.length)
  u : k = 6 → 2 ≤ ks.length
  o : k = 5 ∨ k = 7 ∨ k = 8 → 1 ≤ ks.length
theorem row0 {l : List Fm} (h : 1 ≤ l.length) : rowOf 5 (Int.toNat 0) (fmsA l) = fmA (g0 l) := by
  have := rowOf_fms l 0 h
  unfold g0
  rw [List.getD_eq_getElem?_getD, List.getElem?_eq_getElem h]
  exact this
theorem row1 {l : List Fm} (h : 2 ≤ l.length) : rowOf 5 (Int.toNat 1) (fmsA l) = fmA (g1 l) := by
  have := rowOf_fms l 1 h
  unfold g1
  rw [List.getD_eq_getElem?_getD, List.getElem?_eq_getElem h]
  exact this
set_option maxHeartbeats 1000000 in
theorem build_spec (f : Fm) (ks : List Fm) (h : NeedK f.k ks) : Spec Tryz.prog 57 [] [.agg (fmA f), .sl 5 ks.length (fmsA ks)] fun _ r => r = .agg (fmA (buildF f ks)) := by
  have hjoin := fun h => join_spec f.k ks h
  obtain ⟨R, hR⟩ : ∃ R, buildF f ks = R := ⟨_, rfl⟩
  rw [hR]
  obtain ⟨k, a, b, n, l⟩ := f
  change buildK k a b n ks = R at hR
  change (flatJ k ks).length ≤ 1000000000000 → Spec Tryz.prog 60 [] [intA k, .sl 5 ks.length (fmsA ks)] (fun _ r => r = .agg (fmA (joinF k ks))) at hjoin
  change NeedK k ks at h
  unfold buildK at hR
  refine spec_of (cx_ok (fun id => match Nat.beq id 11 with | true => .q 0 7 .nil | false => ord57 id) xs0 0) (fun _ _ h => h) Tryz.func57 rfl (by kernel_rfl) rfl (by kernel_rfl) ?_
  intro hok
  simp only [fmA, Fm.k, Fm.a, Fm.b, Fm.n, Fm.kids]
  conv => whnf
  by_cases h3 : k = 3
  · rw [decide_eq_true h3]
    rw [if_pos (show k = 3 ∨ k = 4 from .inl h3)] at hR
    conv => whnf
    (refine call0 [] rfl (fun _ => hjoin (h.j (.inl h3))) ?_; rintro r rfl; conv => whnf)
    rw [hR]
    rfl
  · rw [decide_eq_false h3]
    conv => whnf
    by_cases h4 : k = 4
    · rw [decide_eq_true h4]
      rw [if_pos (show k = 3 ∨ k = 4 from .inr h4)] at hR
      conv => whnf
      (refine call0 [] rfl (fun _ => hjoin (h.j (.inr h4))) ?_; rintro r rfl; conv => whnf)
      rw [hR]
      rfl
    · rw [decide_eq_false h4]
      rw [if_neg (show ¬ (k = 3 ∨ k = 4) by omega)] at hR
      conv => whnf
      by_cases h2 : k = 2
      · obtain ⟨hn1, hn2⟩ := h.n h2
        have hr0 := row0 hn1
        rw [decide_eq_true h2]
        rw [if_pos h2] at hR
        generalize g0 ks = x at *
        have hisc := isC_spec x
        have hcs := const_spec (decide (x.k = 4))
        conv => whnf
        (refine goA ?_; try with_reducible exact trivial)
        (generalize hrq : rowOf _ _ (fmsA ks) = rq; obtain rfl : rq = fmA x := hrq.symm.trans (hr0); clear hrq; conv => whnf)
        (refine call0 [] rfl (fun _ => hisc) ?_; rintro r rfl; conv => whnf)
        cases hc : isC x with
        | true =>
          rw [if_pos hc] at hR
          conv => whnf
          (refine goA ?_; try with_reducible exact trivial)
          (generalize hrq : rowOf _ _ (fmsA ks) = rq; obtain rfl : rq = fmA x := hrq.symm.trans (hr0); clear hrq; conv => whnf)
          (refine call0 [] rfl (fun _ => hcs) ?_; rintro r rfl; conv => whnf)
          rw [hR]
          rfl
        | false =>
          rw [if_neg (show ¬ isC x = true by rw [hc]; simp)] at hR
          conv => whnf
          (refine goA ?_; try with_reducible exact trivial)
          (generalize hrq : rowOf _ _ (fmsA ks) = rq; obtain rfl : rq = fmA x := hrq.symm.trans (hr0); clear hrq; conv => whnf)
          by_cases hx2 : x.k = 2
          · rw [decide_eq_true hx2]
            rw [if_pos hx2] at hR
            have hr1 := row0 (hn2 hx2)
            generalize g0 x.kids = y at *
            have hn3 := hn2 hx2
            conv => whnf
            (refine goA ?_; try with_reducible exact trivial)
            (generalize hrq : rowOf _ _ (fmsA ks) = rq; obtain rfl : rq = fmA x := hrq.symm.trans (hr0); clear hrq; conv => whnf)
            (refine goA ?_; try with_reducible exact trivial)
            (generalize hrq : rowOf _ _ (fmsA x.kids) = rq; obtain rfl : rq = fmA y := hrq.symm.trans (hr1); clear hrq; conv => whnf)
            rw [hR]
            rfl
          · rw [decide_eq_false hx2]
            rw [if_neg hx2] at hR
            conv => whnf
            rw [← hR]
            rfl
      · rw [decide_eq_false h2]
        rw [if_neg h2] at hR
        conv => whnf
        by_cases h6 : k = 6
        · have hn := h.u h6
          have hr0 := row0 (l := ks) (by omega)
          have hr1 := row1 hn
          rw [decide_eq_true h6]
          rw [if_pos h6] at hR
          generalize g0 ks = x at *
          generalize g1 ks = y at *
          have hisc := isC_spec y
          have hcs := const_spec false
          have heq := equal_spec x (constF false)
          unfold EqSpec at heq
          conv => whnf
          (iterate 1 (apply flow_go; (focus ((conv => whnf); exact ⟨rfl, rfl, rfl⟩)); (conv => whnf)))
          (apply flow_go; (focus ((conv => whnf); refine ⟨by omega, ?_⟩; (generalize hrq : rowOf _ _ (fmsA ks) = rq; obtain rfl : rq = fmA y := hrq.symm.trans (hr1); exact ⟨rfl, rfl, rfl⟩))); (conv => whnf))
          (iterate 1 (apply flow_go; (focus ((conv => whnf); exact ⟨rfl, rfl, rfl⟩)); (conv => whnf)))
          (apply flow_go; (focus ((conv => whnf); refine call0 [] rfl (fun _ => hisc) ?_; rintro r rfl; (conv => whnf); exact ⟨rfl, rfl, rfl⟩)); (conv => whnf))
          cases hc : isC y with
          | true =>
            rw [hc, Bool.true_or, if_pos rfl] at hR
            (iterate 1 (apply flow_go; (focus ((conv => whnf); exact ⟨rfl, rfl, rfl⟩)); (conv => whnf)))
            (iterate 5 (apply flow_go; (focus ((conv => whnf); done)); (conv => whnf)))
            (iterate 1 (apply flow_go; (focus ((conv => whnf); exact ⟨rfl, rfl, rfl⟩)); (conv => whnf)))
            (refine goA ?_; try with_reducible exact trivial)
            (generalize hrq : rowOf _ _ (fmsA ks) = rq; obtain rfl : rq = fmA y := hrq.symm.trans (hr1); clear hrq; conv => whnf)
            rw [← hR]
            rfl
          | false =>
            rw [hc, Bool.false_or] at hR
            (iterate 2 (apply flow_go; (focus ((conv => whnf); exact ⟨rfl, rfl, rfl⟩)); (conv => whnf)))
            (apply flow_go; (focus ((conv => whnf); refine ⟨by omega, ?_⟩; (generalize hrq : rowOf _ _ (fmsA ks) = rq; obtain rfl : rq = fmA x := hrq.symm.trans (hr0); exact ⟨rfl, rfl, rfl⟩))); (conv => whnf))
            (iterate 1 (apply flow_go; (focus ((conv => whnf); exact ⟨rfl, rfl, rfl⟩)); (conv => whnf)))
            (apply flow_go; (focus ((conv => whnf); refine call0 [] rfl (fun _ => hcs) ?_; rintro r rfl; (conv => whnf); exact ⟨rfl, rfl, rfl⟩)); (conv => whnf))
            (apply flow_go; (focus ((conv => whnf); refine call0 [] rfl (fun _ => heq) ?_; rintro r rfl; (conv => whnf); exact ⟨rfl, rfl, rfl⟩)); (conv => whnf))
            cases he : eqM x (constF false) with
            | true =>
              rw [he, if_pos rfl] at hR
              (iterate 1 (apply flow_go; (focus ((conv => whnf); exact ⟨rfl, rfl, rfl⟩)); (conv => whnf)))
              (refine goA ?_; try with_reducible exact trivial)
              (generalize hrq : rowOf _ _ (fmsA ks) = rq; obtain rfl : rq = fmA y := hrq.symm.trans (hr1); clear hrq; conv => whnf)
              rw [← hR]
              rfl
            | false =>
              rw [he, if_neg (by simp)] at hR
              (iterate 1 (apply flow_go; (focus ((conv => whnf); exact ⟨rfl, rfl, rfl⟩)); (conv => whnf)))
              (refine goA ?_; try with_reducible exact trivial)
              rw [← hR]
              rfl
        · rw [decide_eq_false h6]
          rw [if_neg h6] at hR
          conv => whnf
          by_cases h5 : k = 5 ∨ k = 7 ∨ k = 8
          · have hn1 := h.o h5
            have hr0 := row0 hn1
            rw [if_pos h5] at hR
            generalize g0 ks = x at *
            have hisc := isC_spec x
            rcases h5 with h5 | h5 | h5
            · rw [decide_eq_true h5]
              conv => whnf
              (refine goA ?_; try with_reducible exact trivial)
              (generalize hrq : rowOf _ _ (fmsA ks) = rq; obtain rfl : rq = fmA x := hrq.symm.trans (hr0); clear hrq; conv => whnf)
              (refine call0 [] rfl (fun _ => hisc) ?_; rintro r rfl; conv => whnf)
              cases hc : isC x with
              | true =>
                rw [if_pos hc] at hR
                conv => whnf
                (refine goA ?_; try with_reducible exact trivial)
                (generalize hrq : rowOf _ _ (fmsA ks) = rq; obtain rfl : rq = fmA x := hrq.symm.trans (hr0); clear hrq; conv => whnf)
                rw [← hR]
                rfl
              | false =>
                rw [if_neg (show ¬ isC x = true by rw [hc]; simp)] at hR
                conv => whnf
                rw [← hR]
                rfl
            · rw [decide_eq_false (show ¬ k = 5 by omega)]
              conv => whnf
              rw [decide_eq_true h5]
              conv => whnf
              (refine goA ?_; try with_reducible exact trivial)
              (generalize hrq : rowOf _ _ (fmsA ks) = rq; obtain rfl : rq = fmA x := hrq.symm.trans (hr0); clear hrq; conv => whnf)
              (refine call0 [] rfl (fun _ => hisc) ?_; rintro r rfl; conv => whnf)
              cases hc : isC x with
              | true =>
                rw [if_pos hc] at hR
                conv => whnf
                (refine goA ?_; try with_reducible exact trivial)
                (generalize hrq : rowOf _ _ (fmsA ks) = rq; obtain rfl : rq = fmA x := hrq.symm.trans (hr0); clear hrq; conv => whnf)
                rw [← hR]
                rfl
              | false =>
                rw [if_neg (show ¬ isC x = true by rw [hc]; simp)] at hR
                conv => whnf
                rw [← hR]
                rfl
            · rw [decide_eq_false (show ¬ k = 5 by omega)]
              conv => whnf
              rw [decide_eq_false (show ¬ k = 7 by omega)]
              conv => whnf
              rw [decide_eq_true h5]
              conv => whnf
              (refine goA ?_; try with_reducible exact trivial)
              (generalize hrq : rowOf _ _ (fmsA ks) = rq; obtain rfl : rq = fmA x := hrq.symm.trans (hr0); clear hrq; conv => whnf)
              (refine call0 [] rfl (fun _ => hisc) ?_; rintro r rfl; conv => whnf)
              cases hc : isC x with
              | true =>
                rw [if_pos hc] at hR
                conv => whnf
                (refine goA ?_; try with_reducible exact trivial)
                (generalize hrq : rowOf _ _ (fmsA ks) = rq; obtain rfl : rq = fmA x := hrq.symm.trans (hr0); clear hrq; conv => whnf)
                rw [← hR]
                rfl
              | false =>
                rw [if_neg (show ¬ isC x = true by rw [hc]; simp)] at hR
                conv => whnf
                rw [← hR]
                rfl
          · rw [if_neg h5] at hR
            rw [decide_eq_false (show ¬ k = 5 by omega)]
            conv => whnf
            rw [decide_eq_false (show ¬ k = 7 by omega)]
            conv => whnf
            rw [decide_eq_false (show ¬ k = 8 by omega)]
            conv => whnf
            rw [← hR]
            rfl
end Go.Proofs.YtpjcbadnpknncaaGreatDoor.Vm
/- Formulas: simplify, Progress. -/
namespace Go.Proofs.YtpjcbadnpknncaaGreatDoor.Vm
open Go.RowKit Go.Shelf
set_option linter.unusedSimpArgs false
set_option linter.unusedVariables false
set_option maxRecDepth 100000
mutual
def simF : Fm → Fm
  | .mk k a b n l => buildK k a b n (simFs l)
def simFs : List Fm → List Fm
  | [] => []
  | f :: l => simF f :: simFs l
end
theorem simFs_map : ∀ l : List Fm, simFs l = l.map simF
  | [] => by unfold simFs; rfl
  | f :: l => by unfold simFs; rw [simFs_map l]; rfl
theorem simF_mk (k a b n : Int) (l : List Fm) : simF (.mk k a b n l) = buildK k a b n (l.map simF) := by
  rw [← simFs_map]
  conv => lhs; unfold simF
mutual
/-- simplify can be applied. -/
def FitS : Fm → Prop
  | .mk k _ _ _ l => l.length ≤ 1000000000000 ∧ NeedK k (simFs l) ∧ FitSs l
def FitSs : List Fm → Prop
  | [] => True
  | f :: l => FitS f ∧ FitSs l
end
theorem fitSs_mem : ∀ {l : List Fm} {f : Fm}, FitSs l → f ∈ l → FitS f
  | g :: l, f, h, hf => by
    unfold FitSs at h
    rcases List.mem_cons.1 hf with rfl | hf
    · exact h.1
    · exact fitSs_mem h.2 hf
theorem fitSs_mk : ∀ {l : List Fm}, (∀ f ∈ l, FitS f) → FitSs l
  | [], _ => by unfold FitSs; trivial
  | g :: l, h => by unfold FitSs; exact ⟨h g (by simp), fitSs_mk fun f hf => h f (by simp [hf])⟩
theorem fitS_mk {k a b n : Int} {l : List Fm} (h0 : l.length ≤ 1000000000000) (h1 : NeedK k (l.map simF)) (h2 : ∀ f ∈ l, FitS f) : FitS (.mk k a b n l) := by
  unfold FitS
  rw [simFs_map]
  exact ⟨h0, h1, fitSs_mk h2⟩
theorem fitS_of {k a b n : Int} {l : List Fm} (h : FitS (.mk k a b n l)) : l.length ≤ 1000000000000 ∧ NeedK k (l.map simF) ∧ ∀ f ∈ l, FitS f := by
  unfold FitS at h
  rw [simFs_map] at h
  exact ⟨h.1, h.2.1, fun f hf => fitSs_mem h.2.2 hf⟩
theorem take_map {α : Type} (g : α → Fm) (l : List α) (k : Nat) (h : k < l.length) : (l.take (k + 1)).map g = (l.take k).map g ++ [g l[k]] := by
  rw [List.take_add_one, List.getElem?_eq_getElem h, List.map_append]; rfl
set_option maxHeartbeats 1000000 in
theorem simplify_spec : ∀ (f : Fm), FitS f → Spec Tryz.prog 38 [] [.agg (fmA f)] fun _ r => r = .agg (fmA (simF f))
  | .mk k a b n l, hfit => by
    obtain ⟨hl, hneed, hfk⟩ := fitS_of hfit
    have ih : ∀ f ∈ l, Spec Tryz.prog 38 [] [.agg (fmA f)] fun _ r => r = .agg (fmA (simF f)) := fun f hf => simplify_spec f (hfk f hf)
    have hbuild := build_spec (.mk k a b n l) (l.map simF) hneed
    rw [simF_mk]
    change Spec _ _ _ _ (fun _ r => r = .agg (fmA (buildK k a b n (l.map simF)))) at hbuild
    generalize buildK k a b n (l.map simF) = R at *
    refine spec_of (cx_ok ord0 xs0 0) (fun _ _ h => h) Tryz.func38 rfl (by kernel_rfl) rfl (by kernel_rfl) ?_
    intro hok
    simp only [fmA, Fm.k, Fm.a, Fm.b, Fm.n, Fm.kids] at hbuild ⊢
    clear hfit
    conv => whnf
    refine loop_row 25 5 [3] [] ?_
    conv => whnf
    refine ⟨trivial, ?_⟩
    conv => whnf
    refine loop_keep [1, 2, 3, 7, 8] ?_
    conv => whnf
    refine loop_goQ (fun j : Nat => [(9, .v (.int .i64 j)), (3, .own 0)]) (fun _ => [[intA k, intA a, intA b, intA n, .sl 5 l.length (fmsA l)], zero5]) (fun j => [.live 25 5 j (fmsA ((l.take j).map simF))]) (fun j => j ≤ l.length) (fun j => l.length - j) 0 ?_ (Nat.zero_le _) ?_
    · unfold headQ
      repeat' constructor
      · show [Row.live _ _ _ _] = [Row.live _ _ _ _]
        rw [List.take_zero, List.map_nil, fmsA_nil]
    · rintro j hj
      conv => whnf
      by_cases hlt : j < l.length
      · have hr := rowOf_fms l j hlt
        have hih := ih l[j] (List.getElem_mem hlt)
        have htk := take_map simF l j hlt
        generalize l[j] = f at *
        (refine goA ?_; try with_reducible exact trivial)
        (generalize hrq : rowOf _ _ (fmsA l) = rq; obtain rfl : rq = fmA f := hrq.symm.trans (hr); clear hrq; conv => whnf)
        (refine call0 [] rfl (fun _ => hih) ?_; rintro r rfl; conv => whnf)
        refine ⟨⟨by unfold maxLen; omega, by omega⟩, ?_⟩
        conv => whnf
        (refine goA ?_; try with_reducible exact trivial)
        refine ⟨j + 1, le_head ?_, hlt, by omega⟩
        repeat' constructor
        · rw [htk, fmsA_snoc]; rfl
      · obtain rfl : j = l.length := by omega
        rw [List.take_length]
        have hml : (l.map simF).length = l.length := by simp
        rw [hml] at hbuild
        generalize l.map simF = M at *
        (refine goA ?_; try with_reducible exact trivial)
        (refine call0 [0] rfl (fun _ => hbuild) ?_; rintro r rfl; conv => whnf)
        rfl
termination_by f => SizeOf.sizeOf f
decreasing_by
  have := List.sizeOf_lt_of_mem hf
  simp only [Fm.mk.sizeOf_spec]
  omega
end Go.Proofs.YtpjcbadnpknncaaGreatDoor.Vm
/- Formulas: Progress. -/
namespace Go.Proofs.YtpjcbadnpknncaaGreatDoor.Vm
open Go.RowKit Go.Shelf
set_option linter.unusedSimpArgs false
set_option linter.unusedVariables false
set_option maxRecDepth 100000
def atV (v : List Int) (a : Int) : Int := if a < v.length then v.getD a.toNat 0 else 0
def cmpV (b x n : Int) : Bool := if b = 0 then decide (x < n) else if b = 1 then decide (x = n) else decide (n < x)
def proK (v : List Int) (k a b n : Int) (l P : List Fm) : Fm :=
  if k = 1 then constF (cmpV b (atV v a) n)
  else if k = 5 then simF (g0 l)
  else if k = 7 then joinF 3 [g0 P, simF (.mk k a b n l)]
  else if k = 8 then joinF 4 [g0 P, simF (.mk k a b n l)]
  else if k = 6 then joinF 4 [g1 P, joinF 3 [g0 P, simF (.mk k a b n l)]]
  else buildK k a b n P
mutual
def proF (v : List Int) : Fm → Fm
  | .mk k a b n l => proK v k a b n l (proFs v l)
def proFs (v : List Int) : List Fm → List Fm
  | [] => []
  | f :: l => proF v f :: proFs v l
end
theorem proFs_map (v : List Int) : ∀ l : List Fm, proFs v l = l.map (proF v)
  | [] => by unfold proFs; rfl
  | f :: l => by unfold proFs; rw [proFs_map v l]; rfl
theorem proF_mk (v : List Int) (k a b n : Int) (l : List Fm) : proF v (.mk k a b n l) = proK v k a b n l (l.map (proF v)) := by
  rw [← proFs_map]
  conv => lhs; unfold proF
def JB (k : Int) (l : List Fm) : Prop := (flatJ k l).length ≤ 1000000000000
structure NeedP (k a b n : Int) (l P : List Fm) : Prop where
  v : k = 1 → 0 ≤ a ∧ 0 ≤ b ∧ b ≤ 2
  x : k = 5 → 1 ≤ l.length ∧ FitS (g0 l)
  w : k = 7 → 1 ≤ l.length ∧ FitS (.mk k a b n l) ∧ JB 3 [g0 P, simF (.mk k a b n l)]
  e : k = 8 → 1 ≤ l.length ∧ FitS (.mk k a b n l) ∧ JB 4 [g0 P, simF (.mk k a b n l)]
  u : k = 6 → 2 ≤ l.length ∧ FitS (.mk k a b n l) ∧ JB 3 [g0 P, simF (.mk k a b n l)] ∧ JB 4 [g1 P, joinF 3 [g0 P, simF (.mk k a b n l)]]
  o : k ≠ 1 → k ≠ 5 → k ≠ 6 → k ≠ 7 → k ≠ 8 → l.length ≤ 1000000000000 ∧ NeedK k P
mutual
/-- Progress can be applied. -/
def FitP (v : List Int) : Fm → Prop
  | .mk k a b n l => NeedP k a b n l (proFs v l) ∧ FitPs v l
def FitPs (v : List Int) : List Fm → Prop
  | [] => True
  | f :: l => FitP v f ∧ FitPs v l
end
theorem fitPs_mem {v : List Int} : ∀ {l : List Fm} {f : Fm}, FitPs v l → f ∈ l → FitP v f
  | g :: l, f, h, hf => by
    unfold FitPs at h
    rcases List.mem_cons.1 hf with rfl | hf
    · exact h.1
    · exact fitPs_mem h.2 hf
theorem fitPs_mk {v : List Int} : ∀ {l : List Fm}, (∀ f ∈ l, FitP v f) → FitPs v l
  | [], _ => by unfold FitPs; trivial
  | g :: l, h => by unfold FitPs; exact ⟨h g (by simp), fitPs_mk fun f hf => h f (by simp [hf])⟩
theorem fitP_mk {v : List Int} {k a b n : Int} {l : List Fm} (h1 : NeedP k a b n l (l.map (proF v))) (h2 : ∀ f ∈ l, FitP v f) : FitP v (.mk k a b n l) := by
  unfold FitP
  rw [proFs_map]
  exact ⟨h1, fitPs_mk h2⟩
theorem fitP_of {v : List Int} {k a b n : Int} {l : List Fm} (h : FitP v (.mk k a b n l)) : NeedP k a b n l (l.map (proF v)) ∧ ∀ f ∈ l, FitP v f := by
  unfold FitP at h
  rw [proFs_map] at h
  exact ⟨h.1, fun f hf => fitPs_mem h.2 hf⟩
def PrSpec (v : List Int) (f : Fm) : Prop := Spec Tryz.prog 40 [] [.agg (fmA f), .sl 1 v.length (intsA v)] fun _ r => r = .agg (fmA (proF v f))
def bxV (v : List Int) : List A := [.sl 1 v.length (intsA v)]
theorem pro1_spec (v : List Int) (f : Fm) (i : Nat) (hi : i < f.kids.length) (h : PrSpec v f.kids[i]) : Spec Tryz.prog 58 [fmA f, bxV v] [intA i, .box 0 0, .box 1 0] fun o r => o = [fmA f, bxV v] ∧ r = .agg (fmA (proF v f.kids[i])) := by
  have hr := rowOf_fms f.kids i hi
  unfold PrSpec at h
  generalize f.kids[i] = g at *
  refine spec_of (cx_ok ord58 xs0 2) (fun _ _ h => h) Tryz.func58 rfl (by kernel_rfl) rfl (by kernel_rfl) ?_
  intro _
  conv => whnf
  (refine goA ?_; try with_reducible exact trivial)
  (generalize hrq : rowOf _ _ (fmsA f.kids) = rq; obtain rfl : rq = fmA g := hrq.symm.trans (hr); clear hrq; conv => whnf)
  (refine call0 [] rfl (fun _ => h) ?_; rintro r rfl; conv => whnf)
  exact ⟨rfl, rfl⟩
/-- The orders of Progress's regions. -/
def ordPr (id : Nat) : Tr := match Nat.beq id 11 with
  | true => .q 0 3 (.alt 1 2 (.alt 2 2 (.alt 3 2 (.alt 4 2 (.alt 5 2 (.alt 6 2 .nil .nil) .nil) .nil) .nil) .nil) (.alt 2 2 (.alt 1 2 (.alt 3 2 (.alt 4 2 (.alt 5 2 (.alt 6 2 .nil .nil) .nil) .nil) .nil) .nil) .nil))
  | false => match Nat.beq id 13 with
    | true => .q 0 3 (.alt 1 2 (.alt 2 2 (.alt 3 2 (.alt 4 2 (.alt 5 2 (.alt 6 2 .nil .nil) .nil) .nil) .nil) .nil) (.alt 2 2 (.alt 1 2 (.alt 3 2 (.alt 4 2 (.alt 5 2 (.alt 6 2 .nil .nil) .nil) .nil) .nil) .nil) .nil))
    | false => match Nat.beq id 15 with
      | true => .q 0 3 (.q 2 3 (.alt 1 2 (.alt 3 2 (.alt 4 2 (.alt 5 2 (.alt 6 2 (.alt 7 2 (.alt 8 2 (.alt 9 2 (.alt 10 2 .nil .nil) .nil) .nil) .nil) .nil) .nil) .nil) (.alt 4 2 (.alt 3 2 (.alt 5 2 (.alt 6 2 (.alt 7 2 (.alt 8 2 (.alt 9 2 (.alt 10 2 .nil .nil) .nil) .nil) .nil) .nil) .nil) .nil) .nil)) (.alt 4 2 (.alt 1 2 (.alt 3 2 (.alt 5 2 (.alt 6 2 (.alt 7 2 (.alt 8 2 (.alt 9 2 (.alt 10 2 .nil .nil) .nil) .nil) .nil) .nil) .nil) .nil) .nil) .nil)))
      | false => .nil
theorem fmA_mk (k a b n : Int) (l : List Fm) : fmA (.mk k a b n l) = [intA k, intA a, intA b, intA n, .sl 5 l.length (fmsA l)] := rfl
theorem g0_map {v : List Int} {l P : List Fm} (hP : l.map (proF v) = P) (h : 0 < l.length) : proF v l[0] = g0 P := by
  subst hP
  unfold g0
  rw [List.getD_eq_getElem?_getD, List.getElem?_map, List.getElem?_eq_getElem h]; rfl
theorem g1_map {v : List Int} {l P : List Fm} (hP : l.map (proF v) = P) (h : 1 < l.length) : proF v l[1] = g1 P := by
  subst hP
  unfold g1
  rw [List.getD_eq_getElem?_getD, List.getElem?_map, List.getElem?_eq_getElem h]; rfl
theorem fmsA_two (x y : Fm) : fmsA [x, y] = fmA x ++ fmA y := by rw [fmsA_cons, fmsA_cons, fmsA_nil, List.append_nil]
theorem cmpV0 (x n : Int) : cmpV 0 x n = decide (x < n) := by simp [cmpV]
theorem cmpV1 (x n : Int) : cmpV 1 x n = decide (x = n) := by simp [cmpV]
theorem cmpV2 (x n : Int) : cmpV 2 x n = decide (n < x) := by simp [cmpV]
theorem row3b (x y z : Bool) (b : Int) (h0 : 0 ≤ b) (h2 : b ≤ 2) : rowOf 1 b.toNat [A.v (.bool x), A.v (.bool y), A.v (.bool z)] = [A.v (.bool (if b = 0 then x else if b = 1 then y else z))] := by
  have : b = 0 ∨ b = 1 ∨ b = 2 := by omega
  rcases this with rfl | rfl | rfl
  · simp [rowOf]
  · simp [rowOf]
  · simp [rowOf]
set_option maxHeartbeats 2000000 in
theorem pro_raw (v : List Int) (k a b n : Int) (l : List Fm) (hneed : NeedP k a b n l (l.map (proF v))) (ih : ∀ (i : Nat) (h : i < l.length), Spec Tryz.prog 58 [fmA (.mk k a b n l), bxV v] [intA i, .box 0 0, .box 1 0] fun o r => o = [fmA (.mk k a b n l), bxV v] ∧ r = .agg (fmA (proF v l[i]))) : PrSpec v (.mk k a b n l) := by
  obtain ⟨R, hR⟩ : ∃ R, proF v (.mk k a b n l) = R := ⟨_, rfl⟩
  unfold PrSpec
  rw [hR]
  rw [proF_mk] at hR
  have hml : (l.map (proF v)).length = l.length := by simp
  obtain ⟨P, hP⟩ : ∃ P, l.map (proF v) = P := ⟨_, rfl⟩
  rw [hP] at hneed hR hml
  unfold proK at hR
  refine spec_of (cx_ok ordPr xs0 0) (fun _ _ h => h) Tryz.func40 rfl (by kernel_rfl) rfl (by kernel_rfl) ?_
  intro hok
  simp only [fmA_mk, bxV] at ih ⊢
  conv => whnf
  by_cases h1 : k = 1
  · obtain ⟨ha0, hb0, hb2⟩ := hneed.v h1
    have hcs := const_spec (cmpV b (atV v a) n)
    rw [if_pos h1] at hR
    rw [decide_eq_true h1]
    conv => whnf
    by_cases hav : a < v.length
    · have hrv := rowOf_ints v a.toNat (by omega)
      have hat : atV v a = v[a.toNat]'(by omega) := by
        unfold atV
        rw [if_pos hav, List.getD_eq_getElem?_getD, List.getElem?_eq_getElem (by omega)]; rfl
      rw [← hat] at hrv
      (refine goA ?_; try with_reducible exact trivial)
      (generalize hrq : rowOf _ _ (intsA v) = rq; obtain rfl : rq = [intA (atV v a)] := hrq.symm.trans (hrv); clear hrq; conv => whnf)
      rcases (show b = 0 ∨ b = 1 ∨ b = 2 by omega) with rfl | rfl | rfl
      · rw [cmpV0] at hcs hR
        (refine goA ?_; try with_reducible exact trivial)
        (refine call0 [] rfl (fun _ => hcs) ?_; rintro r rfl; conv => whnf)
        rw [← hR]
        rfl
      · rw [cmpV1] at hcs hR
        (refine goA ?_; try with_reducible exact trivial)
        (refine call0 [] rfl (fun _ => hcs) ?_; rintro r rfl; conv => whnf)
        rw [← hR]
        rfl
      · rw [cmpV2] at hcs hR
        (refine goA ?_; try with_reducible exact trivial)
        (refine call0 [] rfl (fun _ => hcs) ?_; rintro r rfl; conv => whnf)
        rw [← hR]
        rfl
    · have hat : atV v a = 0 := by unfold atV; rw [if_neg hav]
      (refine goA ?_; try with_reducible exact trivial)
      rw [hat] at hR hcs
      rcases (show b = 0 ∨ b = 1 ∨ b = 2 by omega) with rfl | rfl | rfl
      · rw [cmpV0] at hcs hR
        (refine goA ?_; try with_reducible exact trivial)
        (refine call0 [] rfl (fun _ => hcs) ?_; rintro r rfl; conv => whnf)
        rw [← hR]
        rfl
      · rw [cmpV1] at hcs hR
        (refine goA ?_; try with_reducible exact trivial)
        (refine call0 [] rfl (fun _ => hcs) ?_; rintro r rfl; conv => whnf)
        rw [← hR]
        rfl
      · rw [cmpV2] at hcs hR
        (refine goA ?_; try with_reducible exact trivial)
        (refine call0 [] rfl (fun _ => hcs) ?_; rintro r rfl; conv => whnf)
        rw [← hR]
        rfl
  · rw [if_neg h1] at hR
    rw [decide_eq_false h1]
    conv => whnf
    by_cases h5 : k = 5
    · obtain ⟨hl1, hfs⟩ := hneed.x h5
      have hsp := simplify_spec (g0 l) hfs
      have hr0 := row0 hl1
      rw [if_pos h5] at hR
      rw [decide_eq_true h5]
      generalize g0 l = x at *
      conv => whnf
      (refine goA ?_; try with_reducible exact trivial)
      (generalize hrq : rowOf _ _ (fmsA l) = rq; obtain rfl : rq = fmA x := hrq.symm.trans (hr0); clear hrq; conv => whnf)
      (refine call0 [] rfl (fun _ => hsp) ?_; rintro r rfl; conv => whnf)
      rw [← hR]
      rfl
    · rw [if_neg h5] at hR
      rw [decide_eq_false h5]
      conv => whnf
      by_cases h7 : k = 7
      · obtain ⟨hl1, hfs, hjb⟩ := hneed.w h7
        have hsp := simplify_spec _ hfs
        have hp0 := ih 0 hl1
        rw [g0_map hP hl1] at hp0
        have hj := join_spec 3 _ hjb
        rw [if_pos h7] at hR
        rw [hR, fmsA_two] at hj
        rw [decide_eq_true h7]
        generalize simF (.mk k a b n l) = y at *
        generalize g0 P = x at *
        conv => whnf
        apply join_eq
        · conv => whnf
          refine ⟨?_, ?_⟩
          · conv => whnf
            (refine goA ?_; try with_reducible exact trivial)
            refine call2 0 1 [] rfl ⟨rfl, rfl⟩ rfl rfl rfl rfl rfl (fun _ => hp0) ?_
            rintro o p r ⟨ho, rfl⟩
            cases ho
            conv => whnf
            (refine call0 [] rfl (fun _ => hsp) ?_; rintro r rfl; conv => whnf)
            (refine call0 [0] rfl (fun _ => hj) ?_; rintro r rfl; conv => whnf)
            try rfl
          · conv => whnf
            (refine goA ?_; try with_reducible exact trivial)
            refine call2 0 1 [] rfl ⟨rfl, rfl⟩ rfl rfl rfl rfl rfl (fun _ => hp0) ?_
            rintro o p r ⟨ho, rfl⟩
            cases ho
            conv => whnf
            (refine call0 [] rfl (fun _ => hsp) ?_; rintro r rfl; conv => whnf)
            (refine call0 [0] rfl (fun _ => hj) ?_; rintro r rfl; conv => whnf)
            try rfl
        conv => whnf
        rfl
      · rw [if_neg h7] at hR
        rw [decide_eq_false h7]
        conv => whnf
        by_cases h8 : k = 8
        · obtain ⟨hl1, hfs, hjb⟩ := hneed.e h8
          have hsp := simplify_spec _ hfs
          have hp0 := ih 0 hl1
          rw [g0_map hP hl1] at hp0
          have hj := join_spec 4 _ hjb
          rw [if_pos h8] at hR
          rw [hR, fmsA_two] at hj
          rw [decide_eq_true h8]
          generalize simF (.mk k a b n l) = y at *
          generalize g0 P = x at *
          conv => whnf
          apply join_eq
          · conv => whnf
            refine ⟨?_, ?_⟩
            · conv => whnf
              (refine goA ?_; try with_reducible exact trivial)
              refine call2 0 1 [] rfl ⟨rfl, rfl⟩ rfl rfl rfl rfl rfl (fun _ => hp0) ?_
              rintro o p r ⟨ho, rfl⟩
              cases ho
              conv => whnf
              (refine call0 [] rfl (fun _ => hsp) ?_; rintro r rfl; conv => whnf)
              (refine call0 [0] rfl (fun _ => hj) ?_; rintro r rfl; conv => whnf)
              try rfl
            · conv => whnf
              (refine goA ?_; try with_reducible exact trivial)
              refine call2 0 1 [] rfl ⟨rfl, rfl⟩ rfl rfl rfl rfl rfl (fun _ => hp0) ?_
              rintro o p r ⟨ho, rfl⟩
              cases ho
              conv => whnf
              (refine call0 [] rfl (fun _ => hsp) ?_; rintro r rfl; conv => whnf)
              (refine call0 [0] rfl (fun _ => hj) ?_; rintro r rfl; conv => whnf)
              try rfl
          conv => whnf
          rfl
        · rw [if_neg h8] at hR
          rw [decide_eq_false h8]
          conv => whnf
          by_cases h6 : k = 6
          · obtain ⟨hl2, hfs, hjb, hjc⟩ := hneed.u h6
            have hsp := simplify_spec _ hfs
            have hp0 := ih 0 (by omega)
            rw [g0_map hP (by omega)] at hp0
            have hp1 := ih 1 (by omega)
            rw [g1_map hP (by omega)] at hp1
            have hj := join_spec 3 _ hjb
            have hk := join_spec 4 _ hjc
            rw [if_pos h6] at hR
            rw [fmsA_two] at hj
            rw [hR, fmsA_two] at hk
            rw [decide_eq_true h6]
            generalize simF (.mk k a b n l) = y at *
            generalize g0 P = x at *
            generalize g1 P = x1 at *
            generalize joinF 3 [x, y] = z at *
            conv => whnf
            apply join_eq
            · conv => whnf
              refine ⟨?_, ?_⟩
              · conv => whnf
                (refine goA ?_; try with_reducible exact trivial)
                refine call2 0 1 [] rfl ⟨rfl, rfl⟩ rfl rfl rfl rfl rfl (fun _ => hp1) ?_
                rintro o p r ⟨ho, rfl⟩
                cases ho
                conv => whnf
                refine ⟨?_, ?_⟩
                · conv => whnf
                  (refine goA ?_; try with_reducible exact trivial)
                  refine call2 0 1 [] rfl ⟨rfl, rfl⟩ rfl rfl rfl rfl rfl (fun _ => hp0) ?_
                  rintro o p r ⟨ho, rfl⟩
                  cases ho
                  conv => whnf
                  (refine call0 [] rfl (fun _ => hsp) ?_; rintro r rfl; conv => whnf)
                  (refine call0 [0] rfl (fun _ => hj) ?_; rintro r rfl; conv => whnf)
                  (refine call0 [1] rfl (fun _ => hk) ?_; rintro r rfl; conv => whnf)
                  try rfl
                · conv => whnf
                  (refine goA ?_; try with_reducible exact trivial)
                  refine call2 0 1 [] rfl ⟨rfl, rfl⟩ rfl rfl rfl rfl rfl (fun _ => hp0) ?_
                  rintro o p r ⟨ho, rfl⟩
                  cases ho
                  conv => whnf
                  (refine call0 [] rfl (fun _ => hsp) ?_; rintro r rfl; conv => whnf)
                  (refine call0 [0] rfl (fun _ => hj) ?_; rintro r rfl; conv => whnf)
                  (refine call0 [1] rfl (fun _ => hk) ?_; rintro r rfl; conv => whnf)
                  try rfl
              · conv => whnf
                (refine goA ?_; try with_reducible exact trivial)
                refine call2 0 1 [] rfl ⟨rfl, rfl⟩ rfl rfl rfl rfl rfl (fun _ => hp1) ?_
                rintro o p r ⟨ho, rfl⟩
                cases ho
                conv => whnf
                conv => whnf
                (refine goA ?_; try with_reducible exact trivial)
                refine call2 0 1 [] rfl ⟨rfl, rfl⟩ rfl rfl rfl rfl rfl (fun _ => hp0) ?_
                rintro o p r ⟨ho, rfl⟩
                cases ho
                conv => whnf
                (refine call0 [] rfl (fun _ => hsp) ?_; rintro r rfl; conv => whnf)
                (refine call0 [0] rfl (fun _ => hj) ?_; rintro r rfl; conv => whnf)
                (refine call0 [1] rfl (fun _ => hk) ?_; rintro r rfl; conv => whnf)
                try rfl
            conv => whnf
            rfl
          · rw [if_neg h6] at hR
            rw [decide_eq_false h6]
            conv => whnf
            obtain ⟨hl, hnk⟩ := hneed.o h1 h5 h6 h7 h8
            have hbuild := build_spec (.mk k a b n l) P hnk
            change Spec _ _ _ _ (fun _ r => r = .agg (fmA (buildK k a b n P))) at hbuild
            rw [hR, fmA_mk] at hbuild
            refine loop_row 25 5 [7] [] ?_
            conv => whnf
            refine ⟨trivial, ?_⟩
            conv => whnf
            refine loop_keep [2, 3, 4, 5, 7, 79] ?_
            conv => whnf
            refine loop_goQ (fun j : Nat => [(80, .v (.int .i64 j)), (7, .own 0)]) (fun _ => [[intA k, intA a, intA b, intA n, .sl 5 l.length (fmsA l)], bxV v, zero5]) (fun j => [.live 25 5 j (fmsA ((l.take j).map (proF v)))]) (fun j => j ≤ l.length) (fun j => l.length - j) 0 ?_ (Nat.zero_le _) ?_
            · unfold headQ
              repeat' constructor
              · show [Row.live _ _ _ _] = [Row.live _ _ _ _]
                rw [List.take_zero, List.map_nil, fmsA_nil]
            · rintro j hj
              conv => whnf
              by_cases hlt : j < l.length
              · have hih := ih j hlt
                have htk := take_map (proF v) l j hlt
                generalize proF v l[j] = x at *
                (refine goA ?_; try with_reducible exact trivial)
                refine call2 0 1 [] rfl ⟨rfl, rfl⟩ rfl rfl rfl rfl rfl (fun _ => hih) ?_
                rintro o p r ⟨ho, rfl⟩
                cases ho
                conv => whnf
                refine ⟨⟨by unfold maxLen; omega, by omega⟩, ?_⟩
                conv => whnf
                (refine goA ?_; try with_reducible exact trivial)
                refine ⟨j + 1, le_head ?_, hlt, by omega⟩
                repeat' constructor
                · rw [htk, fmsA_snoc]; rfl
              · obtain rfl : j = l.length := by omega
                rw [List.take_length, hP]
                rw [hml] at hbuild
                (refine goA ?_; try with_reducible exact trivial)
                (refine call0 [0] rfl (fun _ => hbuild) ?_; rintro r rfl; conv => whnf)
                rfl
theorem pro_spec (v : List Int) : ∀ f : Fm, FitP v f → PrSpec v f
  | .mk k a b n l, h => by
    obtain ⟨h1, h2⟩ := fitP_of h
    have ihk : ∀ f ∈ l, PrSpec v f := fun f hf => pro_spec v f (h2 f hf)
    exact pro_raw v k a b n l h1 fun i hi => pro1_spec v (.mk k a b n l) i hi (ihk _ (List.getElem_mem hi))
termination_by f => SizeOf.sizeOf f
decreasing_by
  have := List.sizeOf_lt_of_mem hf
  simp only [Fm.mk.sizeOf_spec]
  omega
end Go.Proofs.YtpjcbadnpknncaaGreatDoor.Vm
/- Check, Value. -/
namespace Go.Proofs.YtpjcbadnpknncaaGreatDoor.Vm
open Go.RowKit Go.Shelf
set_option linter.unusedSimpArgs false
set_option linter.unusedVariables false
set_option maxRecDepth 100000
/-- Verdicts: the class; the position, if there is one. -/
structure Vd where
  cls : Int
  at' : Option Int
def ordV : Option Int → A
  | none => .v (.slice none 0 0)
  | some x => .sl 1 1 [intA x]
def vdA (v : Vd) : List A := [intA 8, intA v.cls, intA 0, ordV v.at', .v (.slice none 0 0)]
/-- The cells of a trace. -/
def trA (t : List (List Int)) : List A := t.flatMap fun v => [.sl 1 v.length (intsA v)]
/-- From a formula, at a position, through a trace. -/
def runF : Fm → Int → List (List Int) → Fm × Int
  | f, i, [] => (f, i)
  | f, i, v :: t => if isC f = true then (f, i) else runF (proF v f) (i + 1) t
def verF (r : Fm × Int) : Vd := if isC r.1 = true then ⟨if r.1.k = 3 then 0 else 13, some r.2⟩ else ⟨14, none⟩
def chkF (f : Fm) (t : List (List Int)) : Vd := verF (runF (simF f) (-1) t)
def zero5v : List A := [intA 0, intA 0, intA 0, .v (.slice none 0 0), .v (.slice none 0 0)]
/-- Check can be applied. -/
def FitR : Fm → List (List Int) → Prop
  | f, [] => True
  | f, v :: t => isC f = true ∨ (FitP v f ∧ FitR (proF v f) t)
theorem rowOf_tr (t : List (List Int)) (i : Nat) (h : i < t.length) : rowOf 1 i (trA t) = [A.sl 1 t[i].length (intsA t[i])] := rowOf_flat (k := 1) (fun v : List Int => [A.sl 1 v.length (intsA v)]) (fun _ => rfl) t i h
theorem verF_mk (g : Fm) (i : Int) : verF (g, i) = if isC g = true then ⟨if g.k = 3 then 0 else 13, some i⟩ else ⟨14, none⟩ := rfl
set_option maxHeartbeats 1000000 in
theorem check_spec (f : Fm) (t : List (List Int)) (hs : FitS f) (hr : FitR (simF f) t) (ht : t.length ≤ 1000000000) : Spec Tryz.prog 19 [] [.agg (fmA f), .sl 1 t.length (trA t)] fun _ r => r = .agg (vdA (chkF f t)) := by
  have hsp := simplify_spec f hs
  unfold chkF
  obtain ⟨R, hR⟩ : ∃ R, runF (simF f) (-1) t = R := ⟨_, rfl⟩
  rw [hR]
  generalize simF f = f0 at *
  refine spec_of (cx_ok ord0 xs0 0) (fun _ _ h => h) Tryz.func19 rfl (by kernel_rfl) rfl (by kernel_rfl) ?_
  intro hok
  conv => whnf
  (refine call0 [] rfl (fun _ => hsp) ?_; rintro r rfl; conv => whnf)
  refine loop_keep [1, 2, 4, 5, 12, 13] ?_
  conv => whnf
  refine loop_goQ (fun x : Nat × Fm => [(14, .v (.int .i64 x.1)), (6, .v (.int .i64 ((x.1 : Int) - 1)))]) (fun x => [fmA x.2, zero5v, vdA ⟨14, none⟩]) (fun _ => []) (fun x => x.1 ≤ t.length ∧ runF x.2 ((x.1 : Int) - 1) (t.drop x.1) = R ∧ FitR x.2 (t.drop x.1)) (fun x => t.length - x.1) (0, f0) ?_ ⟨Nat.zero_le _, hR, hr⟩ ?_
  · unfold headQ
    repeat' constructor
  · rintro ⟨j, g⟩ ⟨hj, hinv, hfit⟩
    simp only at hj hinv hfit
    conv => whnf
    have hisc := isC_spec g
    by_cases hlt : j < t.length
    · have hrow := rowOf_tr t j hlt
      rw [List.drop_eq_getElem_cons hlt] at hinv hfit
      generalize t[j] = v at *
      (refine goA ?_; try with_reducible exact trivial)
      (generalize hrq : rowOf _ _ (trA t) = rq; obtain rfl : rq = [.sl 1 v.length (intsA v)] := hrq.symm.trans (hrow); clear hrq; conv => whnf)
      (refine call0 [] rfl (fun _ => hisc) ?_; rintro r rfl; conv => whnf)
      rw [runF] at hinv
      rw [FitR] at hfit
      cases hc : isC g with
      | true =>
        rw [if_pos hc] at hinv
        conv => whnf
        subst hinv
        rw [verF_mk]
        (refine call0 [] rfl (fun _ => hisc) ?_; rintro r rfl; conv => whnf)
        cases hc2 : isC g with
        | true =>
          rw [if_pos rfl]
          conv => whnf
          by_cases h3 : g.k = 3
          · rw [decide_eq_true h3, if_pos h3]
            conv => whnf
            rfl
          · rw [decide_eq_false h3, if_neg h3]
            conv => whnf
            rfl
        | false =>
          rw [if_neg (by simp)]
          conv => whnf
          rfl
      | false =>
        rw [if_neg (by rw [hc]; simp)] at hinv
        obtain ⟨hf1, hf2⟩ := hfit.resolve_left (by rw [hc]; simp)
        have hpro := pro_spec v g hf1
        unfold PrSpec at hpro
        generalize proF v g = g' at *
        conv => whnf
        (refine call0 [] rfl (fun _ => hpro) ?_; rintro r rfl; conv => whnf)
        refine ⟨i64r (by omega), ?_⟩
        conv => whnf
        refine ⟨i64r (by omega), ?_⟩
        conv => whnf
        refine ⟨(j + 1, g'), le_head ?_, ⟨hlt, by rw [show (((j + 1 : Nat) : Int) - 1) = (j : Int) - 1 + 1 by omega]; exact hinv, hf2⟩, by simp only; omega⟩
        repeat' constructor
        show A.v (.int .i64 ((j : Int) - 1 + 1)) = A.v (.int .i64 (((j + 1 : Nat) : Int) - 1))
        rw [show (j : Int) - 1 + 1 = ((j + 1 : Nat) : Int) - 1 by omega]
    · rw [List.drop_of_length_le (by omega), runF] at hinv
      (refine goA ?_; try with_reducible exact trivial)
      subst hinv
      rw [verF_mk]
      (refine call0 [] rfl (fun _ => hisc) ?_; rintro r rfl; conv => whnf)
      cases hc2 : isC g with
      | true =>
        rw [if_pos rfl]
        conv => whnf
        by_cases h3 : g.k = 3
        · rw [decide_eq_true h3, if_pos h3]
          conv => whnf
          rfl
        · rw [decide_eq_false h3, if_neg h3]
          conv => whnf
          rfl
      | false =>
        rw [if_neg (by simp)]
        conv => whnf
        rfl
theorem cvalue_spec (f : Fm) (t : List (List Int)) (hs : FitS f) (hr : FitR (simF f) t) (ht : t.length ≤ 1000000000) : Spec Tryz.prog 21 [] [.agg (fmA f), .sl 1 t.length (trA t)] fun _ r => r = intA (chkF f t).cls := by
  have hc := check_spec f t hs hr ht
  generalize chkF f t = V at *
  refine spec_of (cx_ok ord0 xs0 0) (fun _ _ h => h) Tryz.func21 rfl (by kernel_rfl) rfl (by kernel_rfl) ?_
  intro hok
  conv => whnf
  (refine call0 [] rfl (fun _ => hc) ?_; rintro r rfl; conv => whnf)
  rfl
end Go.Proofs.YtpjcbadnpknncaaGreatDoor.Vm
/- The reference: its small functions. -/
namespace Go.Proofs.YtpjcbadnpknncaaGreatDoor.Vm
open Go.RowKit Go.Shelf
set_option linter.unusedSimpArgs false
set_option linter.unusedVariables false
set_option maxRecDepth 100000
theorem rTrue_spec : Spec Tryz.prog 29 [] [] fun _ r => r = .agg (raw0 (constF true)) := by
  refine spec_of (cx_ok ord0 xs0 0) (fun _ _ h => h) Tryz.func29 rfl (by kernel_rfl) rfl (by kernel_rfl) ?_
  intro _
  conv => whnf
  rfl
theorem rFalse_spec : Spec Tryz.prog 30 [] [] fun _ r => r = .agg (raw0 (constF false)) := by
  refine spec_of (cx_ok ord0 xs0 0) (fun _ _ h => h) Tryz.func30 rfl (by kernel_rfl) rfl (by kernel_rfl) ?_
  intro _
  conv => whnf
  rfl
theorem toFm {P : Program} {f : Nat} {args : List A} {g : Fm} (hg : g.kids = []) (h : Spec P f [] args fun _ r => r = .agg (raw0 g)) : Spec P f [] args fun _ r => r = .agg (fmA g) :=
  h.weaken fun o r k => ⟨o, _, rfl, .refl o, by rw [k]; exact .agg (raw0_wk hg)⟩
theorem rTrue : Spec Tryz.prog 29 [] [] fun _ r => r = .agg (fmA (constF true)) := toFm rfl rTrue_spec
theorem rFalse : Spec Tryz.prog 30 [] [] fun _ r => r = .agg (fmA (constF false)) := toFm rfl rFalse_spec
theorem rBoth (k : Int) (f g : Fm) : Spec Tryz.prog 31 [] [intA k, .agg (fmA f), .agg (fmA g)] fun _ r => r = .agg (fmA (.mk k 0 0 0 [f, g])) := by
  refine spec_of (cx_ok ord0 xs0 0) (fun _ _ h => h) Tryz.func31 rfl (by kernel_rfl) rfl (by kernel_rfl) ?_
  intro _
  rw [fmA_mk, fmsA_two]
  conv => whnf
  rfl
def oppF (k : Int) : Int := if k = 3 then 4 else 3
theorem rConst (f : Fm) : Spec Tryz.prog 51 [] [.agg (fmA f)] fun _ r => r = boolA (isC f) := by
  obtain ⟨k, a, b, n, l⟩ := f
  simp only [isC, Fm.k, Fm.kids]
  refine spec_of (cx_ok ord0 xs0 0) (fun _ _ h => h) Tryz.func51 rfl (by kernel_rfl) rfl (by kernel_rfl) ?_
  intro hok
  simp only [fmA, Fm.k, Fm.a, Fm.b, Fm.n, Fm.kids]
  conv => whnf
  have e0 : ∀ m : Nat, decide ((m : Int) = 0) = decide (m = 0) := fun m => by rw [decide_eq_decide]; omega
  by_cases h3 : k = 3
  · rw [decide_eq_true h3]
    conv => whnf
    rw [e0]
    simp [boolA, h3]
  · rw [decide_eq_false h3]
    conv => whnf
    by_cases h4 : k = 4
    · rw [decide_eq_true h4]
      conv => whnf
      rw [e0]
      simp [boolA, h4]
    · rw [decide_eq_false h4]
      conv => whnf
      simp [boolA, h3, h4]
def fewF (k : Int) (n : Nat) : Bool := if k = 6 then decide (n < 2) else if k = 2 ∨ k = 5 ∨ k = 7 ∨ k = 8 then decide (n < 1) else false
end Go.Proofs.YtpjcbadnpknncaaGreatDoor.Vm
/- The reference: not, value, holds, Equal, SameInts. -/
namespace Go.Proofs.YtpjcbadnpknncaaGreatDoor.Vm
open Go.RowKit Go.Shelf
set_option linter.unusedSimpArgs false
set_option linter.unusedVariables false
set_option maxRecDepth 100000
def notF (f : Fm) : Fm := if isC f = true then .mk (oppF f.k) 0 0 0 [] else if f.k = 2 ∧ 0 < f.kids.length then g0 f.kids else .mk 2 0 0 0 [f]
theorem rSameInts (l m : List Int) (hl : l.length ≤ 1000000000) : Spec Tryz.prog 20 [] [.sl 1 l.length (intsA l), .sl 1 m.length (intsA m)] fun _ r => r = boolA (decide (l = m)) := by
  refine spec_of (cx_ok ord20 xs0 0) (fun _ _ h => h) Tryz.func20 rfl (by kernel_rfl) rfl (by kernel_rfl) ?_
  intro hok
  conv => whnf
  by_cases hlen : (l.length : Int) = m.length
  · rw [decide_eq_true hlen]
    conv => whnf
    refine loop_keep [0, 1] ?_
    conv => whnf
    refine loop_go (fun k : Nat => [(5, .v (.int .i64 k))]) (fun _ => []) (fun _ => []) (fun k => k ≤ l.length ∧ l.take k = m.take k) (fun k => l.length - k) 0 ?_ ⟨Nat.zero_le _, rfl⟩ ?_
    · repeat' constructor
    · rintro k ⟨hk, hinv⟩
      conv => whnf
      by_cases hlt : k < l.length
      · have hm : k < m.length := by omega
        have hr1 := rowOf_ints l k hlt
        have hr2 := rowOf_ints m k hm
        have e1 : l.take (k + 1) = l.take k ++ [l[k]] := by rw [List.take_add_one, List.getElem?_eq_getElem hlt]; rfl
        have e2 : m.take (k + 1) = m.take k ++ [m[k]] := by rw [List.take_add_one, List.getElem?_eq_getElem hm]; rfl
        have hne : l[k] ≠ m[k] → l ≠ m := fun h e => h (by subst e; rfl)
        generalize l[k] = x at *
        generalize m[k] = y at *
        (refine goA ?_; try with_reducible exact trivial)
        (generalize hrq : rowOf _ _ (intsA l) = rq; obtain rfl : rq = [intA x] := hrq.symm.trans (hr1); clear hrq; conv => whnf)
        (refine goA ?_; try with_reducible exact trivial)
        (generalize hrq : rowOf _ _ (intsA m) = rq; obtain rfl : rq = [intA y] := hrq.symm.trans (hr2); clear hrq; conv => whnf)
        by_cases hxy : x = y
        · rw [decide_eq_true hxy]
          conv => whnf
          (refine goA ?_; try with_reducible exact trivial)
          refine ⟨k + 1, le_head ?_, ⟨hlt, by rw [e1, e2, hinv, hxy]⟩, by omega⟩
          repeat' constructor
        · rw [decide_eq_false hxy]
          conv => whnf
          rw [decide_eq_false (hne hxy)]
          rfl
      · obtain rfl : k = l.length := by omega
        have : l = m := by
          rw [List.take_length, List.take_of_length_le (by omega)] at hinv
          exact hinv
        (refine goA ?_; try with_reducible exact trivial)
        rw [decide_eq_true this]
        rfl
  · rw [decide_eq_false hlen]
    conv => whnf
    rw [decide_eq_false (fun e => hlen (by rw [e]))]
    rfl
end Go.Proofs.YtpjcbadnpknncaaGreatDoor.Vm
/- The reference's parser: what an error does; the tokens. -/
namespace Go.Proofs.YtpjcbadnpknncaaGreatDoor.Vm
open Go.RowKit Go.Shelf
set_option linter.unusedSimpArgs false
set_option linter.unusedVariables false
set_option maxRecDepth 100000
/-- A token as the lexer makes it. -/
def KT (t : Tk) : Prop := ((t.kind = 1 ∨ t.kind = 3) ∨ (t.kind = 0 ∧ t.text.data.toList = []) ∨ (t.kind = 2 ∧ ∃ c r, t.text.data.toList = c :: r ∧ isD c = true)) ∧ (∀ r, t.text.data.toList = 118 :: r → t.kind = 1) ∧ smallD (t.text.data.toList.drop 1)
/-- Words and symbols. -/
def Wsy (s : ByteArray) : Prop := ∃ c r, s.data.toList = c :: r ∧ isD c = false
theorem isR_eq {s : ByteArray} {t : Tk} (hs : Wsy s) (ht : KT t) : isR s t = decide (t.text = s) := by
  obtain ⟨c, r, hs, hc⟩ := hs
  unfold isR
  by_cases h : t.text = s
  · rw [decide_eq_true h]
    rcases ht.1 with (h1 | h1) | h1 | h1
    · rw [decide_eq_true h1]; rfl
    · rw [decide_eq_true h1]; simp
    · rw [h, hs] at h1; exact absurd h1.2 (by simp)
    · obtain ⟨_, d, r', h2, h3⟩ := h1
      rw [h, hs] at h2
      cases h2
      rw [hc] at h3; cases h3
  · rw [decide_eq_false h]; rfl
theorem isT_eq {s : ByteArray} {ts : List Tk} (hs : Wsy s) (ht : KT (hd ts)) : isT s ts = decide ((hd ts).text = s) := by
  obtain ⟨c, r, hs, hc⟩ := hs
  unfold isT
  by_cases h : (hd ts).text = s
  · rw [decide_eq_true h]
    rcases ht.1 with (h1 | h1) | h1 | h1
    · rw [h1]; rfl
    · rw [h1]; rfl
    · rw [h, hs] at h1; exact absurd h1.2 (by simp)
    · obtain ⟨_, d, r', h2, h3⟩ := h1
      rw [h, hs] at h2
      cases h2
      rw [hc] at h3; cases h3
  · rw [decide_eq_false h]; rfl
theorem hd_drop {T : List Tk} {i : Nat} (h : i < T.length) : hd (T.drop i) = T[i] := by
  rw [List.drop_eq_getElem_cons h]; rfl
theorem tail_drop (T : List Tk) (i : Nat) : (T.drop i).tail = T.drop (i + 1) := by rw [List.tail_drop]
/-- The tokens of a source. -/
structure KTs (T : List Tk) : Prop where
  t : ∀ t ∈ T, KT t
  n : T.length ≤ 1000000
  w : TkW T
theorem tkW_drop : ∀ {T : List Tk} {i : Nat}, TkW T → i < T.length → TkW (T.drop i)
  | [], i, _, h => by simp at h
  | t :: T, 0, h, _ => h
  | t :: T, i + 1, h, hi => by
    rcases h.2 with ⟨rfl, _⟩ | ⟨_, hw⟩
    · simp at hi
    · exact tkW_drop (T := T) hw (by simpa using hi)
theorem KTs.b {T : List Tk} (h : KTs T) {i : Nat} (hi : i < T.length) : TkB (T.drop i) := ⟨tkW_drop h.w hi, by rw [List.length_drop]; have := h.n; omega⟩
theorem KTs.at {T : List Tk} (h : KTs T) {i : Nat} (hi : i < T.length) : KT T[i] := h.t _ (List.getElem_mem hi)
theorem take_ok {T : List Tk} {i : Nat} (hi : i < T.length) (h : TkB (T.drop i)) (hk : T[i].kind ≠ 0) : i + 1 < T.length ∧ TkB (T.drop (i + 1)) := by
  rw [← hd_drop hi] at hk
  obtain ⟨h1, h2⟩ := h.tail hk
  rw [tail_drop] at h1 h2
  have := h1.1.pos
  rw [List.length_drop] at this
  exact ⟨by omega, h1⟩
/-- What a parsing function comes to once there is an error. -/
def EPost (T : List Tk) (a e : Int) (o : List (List A)) (r : A) : Prop := ∃ i' g, i' < T.length ∧ o = [bxP T i' a e] ∧ r = .agg (fmA g)
def EPost0 (T : List Tk) (a e : Int) (o : List (List A)) (r : A) : Prop := ∃ i' g, i' < T.length ∧ o = [bxP T i' a e] ∧ (r = .agg (fmA g) ∨ (g.kids = [] ∧ r = .agg (raw0 g)))
theorem ePost_wk {T : List Tk} {a e : Int} {o : List (List A)} {r : A} (h : EPost0 T a e o r) : ∃ o' r', EPost T a e o' r' ∧ WkB o o' ∧ Wk r r' := by
  obtain ⟨i', g, h1, h2, h3⟩ := h
  rcases h3 with rfl | ⟨h3, rfl⟩
  · exact ⟨_, _, ⟨i', g, h1, h2, rfl⟩, .refl _, .refl _⟩
  · exact ⟨_, _, ⟨i', g, h1, h2, rfl⟩, .refl _, .agg (raw0_wk h3)⟩
theorem uErr (T : List Tk) (i : Nat) (a e lv : Int) (hi : i < T.length) (he : e ≠ 0) : Spec Tryz.prog 84 [bxP T i a e] [.box 0 0, intA lv] (EPost T a e) := by
  refine Spec.weaken (post := EPost0 T a e) ?_ fun o r k => ePost_wk k
  refine spec_of (cx_ok ord84 (fun _ => [0]) 1) (fun _ _ h => h) Tryz.func84 rfl (by kernel_rfl) rfl (by kernel_rfl) ?_
  intro _
  conv => whnf
  rw [decide_eq_false he]
  conv => whnf
  exact ⟨i, fz, hi, rfl, .inr ⟨rfl, rfl⟩⟩
theorem cErr (T : List Tk) (i : Nat) (a e lv : Int) (hi : i < T.length) (he : e ≠ 0) : Spec Tryz.prog 54 [bxP T i a e] [.box 0 0, intA lv] (EPost T a e) := by
  have hu := uErr T i a e lv hi he
  refine spec_of (cx_ok ord54 (fun _ => [0]) 1) (fun _ _ h => h) Tryz.func54 rfl (by kernel_rfl) rfl (by kernel_rfl) ?_
  intro _
  conv => whnf
  refine call1 0 [] rfl rfl rfl rfl (fun _ => hu) ?_
  rintro o r ⟨i', g, hi', ho, rfl⟩
  cases ho
  have his := pIs_spec T i' a e hi' kUntil
  rw [decide_eq_false he, Bool.false_and] at his
  conv => whnf
  refine call1 0 [] rfl rfl rfl rfl (fun _ => his) ?_
  rintro o r ⟨ho, rfl⟩
  cases ho
  conv => whnf
  exact ⟨i', g, hi', rfl, rfl⟩
theorem lErr (T : List Tk) (i : Nat) (a e lv k : Int) (s : ByteArray) (hi : i < T.length) (he : e ≠ 0) : Spec Tryz.prog 36 [bxP T i a e] [.box 0 0, intA lv, intA k, strA s] (EPost T a e) := by
  refine Spec.weaken (post := EPost0 T a e) ?_ fun o r k => ePost_wk k
  refine spec_of (cx_ok ord0 (fun _ => [0]) 1) (fun _ _ h => h) Tryz.func36 rfl (by kernel_rfl) rfl (by kernel_rfl) ?_
  intro _
  conv => whnf
  refine loop_keep [0, 2, 8, 9] ?_
  conv => whnf
  refine loop_goQ (fun _ : Unit => []) (fun _ => [bxP T i a e, zero5]) (fun _ => []) (fun _ => True) (fun _ => 0) () ?_ trivial ?_
  · unfold headQ
    repeat' constructor
  · rintro x hx
    conv => whnf
    rw [decide_eq_false he]
    conv => whnf
    (refine goA ?_; try with_reducible exact trivial)
    exact ⟨i, .mk k 0 0 0 [], hi, rfl, .inr ⟨rfl, rfl⟩⟩
end Go.Proofs.YtpjcbadnpknncaaGreatDoor.Vm
/- The reference's parser: unary. -/
namespace Go.Proofs.YtpjcbadnpknncaaGreatDoor.Vm
open Go.RowKit Go.Shelf
set_option linter.unusedSimpArgs false
set_option linter.unusedVariables false
set_option maxRecDepth 100000
/-- What a parsing function comes to where there was no error. -/
def OPost (T : List Tk) (a : Int) (p : Ps) (o : List (List A)) (r : A) : Prop := match p with
  | .ok f r' => ∃ i', i' < T.length ∧ T.drop i' = r' ∧ o = [bxP T i' a 0] ∧ r = .agg (fmA f)
  | .bad x e => e ≠ 0 ∧ EPost T x e o r
def OPost0 (T : List Tk) (a : Int) (p : Ps) (o : List (List A)) (r : A) : Prop := match p with
  | .ok f r' => ∃ i', i' < T.length ∧ T.drop i' = r' ∧ o = [bxP T i' a 0] ∧ (r = .agg (fmA f) ∨ (f.kids = [] ∧ r = .agg (raw0 f)))
  | .bad x e => e ≠ 0 ∧ EPost0 T x e o r
theorem oPost_wk {T : List Tk} {a : Int} {p : Ps} {o : List (List A)} {r : A} (h : OPost0 T a p o r) : ∃ o' r', OPost T a p o' r' ∧ WkB o o' ∧ Wk r r' := by
  cases p with
  | ok f r' =>
    obtain ⟨i', h1, h2, h3, h4⟩ := h
    rcases h4 with rfl | ⟨h4, rfl⟩
    · exact ⟨_, _, ⟨i', h1, h2, h3, rfl⟩, .refl _, .refl _⟩
    · exact ⟨_, _, ⟨i', h1, h2, h3, rfl⟩, .refl _, .agg (raw0_wk h4)⟩
  | bad x e =>
    obtain ⟨he, h⟩ := h
    obtain ⟨o', r', h1, h2, h3⟩ := ePost_wk h
    exact ⟨o', r', ⟨he, h1⟩, h2, h3⟩
theorem oBad {T : List Tk} {a x e : Int} {p : Ps} {o : List (List A)} {r : A} (hp : p = .bad x e) (he : e ≠ 0) (h : EPost0 T x e o r) : OPost0 T a p o r := by subst hp; exact ⟨he, h⟩
theorem oOk {T : List Tk} {a : Int} {p : Ps} {f : Fm} {o : List (List A)} {r : A} (i : Nat) (hp : p = .ok f (T.drop i)) (hi : i < T.length) (ho : o = [bxP T i a 0]) (h : r = .agg (fmA f) ∨ (f.kids = [] ∧ r = .agg (raw0 f))) : OPost0 T a p o r := by subst hp; exact ⟨i, hi, rfl, ho, h⟩
def OkS (T : List Tk) (g : Nat) (lv : Int) (op : List Tk → Ps) : Prop := ∀ (i : Nat) (a : Int), i < T.length → TkB (T.drop i) → Spec Tryz.prog g [bxP T i a 0] [.box 0 0, intA lv] (OPost T a (op (T.drop i)))
def OkL (T : List Tk) (lv : Int) (k : Int) (s : ByteArray) (op : List Tk → Ps) : Prop := ∀ (i : Nat) (a : Int), i < T.length → TkB (T.drop i) → Spec Tryz.prog 36 [bxP T i a 0] [.box 0 0, intA lv, intA k, strA s] (OPost T a (op (T.drop i)))
/-- What lies deeper is known. -/
def LowR (T : List Tk) (lv : Int) (low : Option Pr) : Prop := 0 ≤ lv ∧ ((low = none ∧ lv = 20) ∨ ∃ p, low = some p ∧ lv + 1 ≤ 20 ∧
  OkS T 84 (lv + 1) p.un ∧ OkS T 54 (lv + 1) p.ch ∧ OkL T (lv + 1) 4 kOr p.fo)
theorem wsy {c : UInt8} {r : List UInt8} (h : isD c = false) : Wsy (bs (c :: r)) := ⟨c, r, by rw [bs_list], h⟩
theorem pIs0 (T : List Tk) (i : Nat) (a : Int) (hi : i < T.length) (s : ByteArray) (hT : KTs T) (hs : Wsy s) : Spec Tryz.prog 55 [bxP T i a 0] [.box 0 0, strA s] fun o r => o = [bxP T i a 0] ∧ r = boolA (decide (T[i].text = s)) := by
  have h := pIs_spec T i a 0 hi s
  rwa [decide_eq_true rfl, Bool.true_and, isR_eq hs (hT.at hi)] at h
theorem kind_ne {s : ByteArray} {t : Tk} (hs : Wsy s) (ht : KT t) (h : t.text = s) : t.kind ≠ 0 := by
  obtain ⟨c, r, hs, _⟩ := hs
  rcases ht.1 with (h1 | h1) | h1 | h1
  · omega
  · omega
  · rw [h, hs] at h1; exact absurd h1.2 (by simp)
  · omega
theorem pr_none {l : List Tk} {k : Int} (h : unKind (hd l).text = some k) : unG none l = .bad (hd l).pos 2 := by unfold unG; rw [h]
theorem pr_some {l : List Tk} {k : Int} {p : Pr} (h : unKind (hd l).text = some k) : unG (some p) l = match p.un l.tail with
  | .ok f r => .ok (.mk k 0 0 0 [f]) r
  | .bad x e => .bad x e := by unfold unG; rw [h]; try rfl
theorem row4a (a b c d : A) : rowOf 1 0 [a, b, c, d] = [a] ∧ rowOf 1 1 [a, b, c, d] = [b] ∧ rowOf 1 2 [a, b, c, d] = [c] ∧ rowOf 1 3 [a, b, c, d] = [d] := by simp [rowOf]
def xsU (id : Nat) : List Nat := match Nat.beq id 10 with
  | true => [0]
  | false => []
/-! ### Comparisons -/
theorem num_cases {t : Tk} (ht : KT t) : (((cutF t.text).2 = false ∨ numO (cutF t.text).1.data.toList = none) ∧ (t.kind ≠ 1 ∨ numR t.text.data.toList < 0)) ∨ ∃ n : Nat, (cutF t.text).2 = true ∧ numO (cutF t.text).1.data.toList = some n ∧ t.kind = 1 ∧ numR t.text.data.toList = n := by
  have hv := ht.2.1
  match hl : t.text.data.toList with
  | [] => exact .inl ⟨.inl (by rw [cutF_nil hl]), .inr (by unfold numR; simp)⟩
  | c :: r =>
    by_cases hc : c = 118
    · subst hc
      rw [cutF_v hl]
      have hk := hv r hl
      simp only [bs_list]
      unfold numO numR
      by_cases h : r ≠ [] ∧ allD r = true
      · right
        refine ⟨numG 0 r, by first | rfl | trivial, by rw [if_pos h], hk, ?_⟩
        have : 1 ≤ r.length := by
          cases r with
          | nil => exact absurd rfl h.1
          | cons => simp
        rw [if_neg (by simp only [List.length_cons]; omega), if_neg (by simp [h.2])]
        rfl
      · left
        refine ⟨.inr (by rw [if_neg h]), .inr ?_⟩
        by_cases h2 : r = []
        · subst h2; simp
        · have h3 : allD r = false := by
            cases ha : allD r with
            | false => rfl
            | true => exact absurd ⟨h2, ha⟩ h
          split
          · omega
          · rw [if_pos (by simpa using h3)]; omega
    · left
      rw [cutF_no hl hc]
      refine ⟨.inl rfl, .inr ?_⟩
      unfold numR
      split
      · omega
      · split
        · omega
        · rw [if_neg (by simpa using hc)]; omega
theorem cmp_bad {ts : List Tk} (h : (cutF (hd ts).text).2 = false ∨ numO (cutF (hd ts).text).1.data.toList = none) : cmpF ts = .bad (hd ts).pos 10 := by
  unfold cmpF
  split
  · rfl
  · rename_i h1
    rw [h.resolve_left h1]
def kLt : ByteArray := ⟨#[60]⟩
def kEq : ByteArray := ⟨#[61, 61]⟩
def kGt : ByteArray := ⟨#[62]⟩
def restC (n : Nat) (us : List Tk) : Ps :=
  if idxS us cmpTs 0 < 0 then .bad (hd us).pos 10 else
  if (hd (signF us.tail).2).kind ≠ 2 then .bad (hd (signF us.tail).2).pos 10 else
  .ok (.mk 1 n (idxS us cmpTs 0) ((signF us.tail).1 * (hd (signF us.tail).2).n) []) (signF us.tail).2.tail
theorem cmp_num {ts : List Tk} {n : Nat} (h1 : (cutF (hd ts).text).2 = true) (h2 : numO (cutF (hd ts).text).1.data.toList = some n) : cmpF ts = if 15 < n then .bad (hd ts).pos 6 else restC n ts.tail := by
  unfold cmpF restC
  rw [if_neg (by rw [h1]; simp), h2]
theorem idx_eq {us : List Tk} (h : KT (hd us)) : idxS us cmpTs 0 = if (hd us).text = kLt then 0 else if (hd us).text = kEq then 1 else if (hd us).text = kGt then 2 else -1 := by
  unfold cmpTs
  rw [idxS, idxS, idxS, idxS, isT_eq (wsy (by decide)) h, isT_eq (wsy (by decide)) h, isT_eq (wsy (by decide)) h]
  simp only [decide_eq_true_eq]
  rfl
theorem take_any (T : List Tk) (i : Nat) (a e : Int) (hi : i < T.length) (hT : T.length ≤ 1000000) : ∃ j, j < T.length ∧ Spec Tryz.prog 56 [bxP T i a e] [.box 0 0] fun o r => o = [bxP T j a e] ∧ r = .tup [] :=
  ⟨_, by split <;> omega, pTake_spec T i a e hi hT⟩
set_option maxHeartbeats 4000000 in
theorem unary_ok {T : List Tk} (hT : KTs T) {lv : Int} {low : Option Pr} (hlo : LowR T lv low) : OkS T 84 lv (unG low) := by
  intro i a hi hB
  obtain ⟨hlv, hlo⟩ := hlo
  refine Spec.weaken (post := OPost0 T a (unG low (T.drop i))) ?_ fun o r k => oPost_wk k
  obtain ⟨P, hP⟩ : ∃ P, unG low (T.drop i) = P := ⟨_, rfl⟩
  rw [hP]
  have hKt := hT.at hi
  have hhd := hd_drop hi
  have hgd : T.getD i tk0 = T[i] := by rw [List.getD_eq_getElem?_getD, List.getElem?_eq_getElem hi]; rfl
  have hrow := rowOf_tks T i hi
  have hlvb : lv ≤ 20 := by
    rcases hlo with h | ⟨_, _, h, _⟩
    · omega
    · omega
  obtain ⟨t, htd⟩ : ∃ t, t = T[i] := ⟨_, rfl⟩
  rw [← htd] at hKt hhd hgd hrow
  refine spec_of (cx_ok ord84 xsU 1) (fun _ _ h => h) Tryz.func84 rfl (by kernel_rfl) rfl (by kernel_rfl) ?_
  intro _
  conv => whnf
  obtain ⟨ws, hws⟩ : ∃ ws, ws = [strA kNot, strA kNext, strA kAlw, strA kEv] := ⟨_, rfl⟩
  obtain ⟨ns, hns⟩ : ∃ ns, ns = [intA 2, intA 5, intA 7, intA 8] := ⟨_, rfl⟩
  obtain ⟨w0, w1, w2, w3⟩ := row4a (strA kNot) (strA kNext) (strA kAlw) (strA kEv)
  obtain ⟨n0, n1, n2, n3⟩ := row4a (intA 2) (intA 5) (intA 7) (intA 8)
  rw [← hws] at w0 w1 w2 w3
  rw [← hns] at n0 n1 n2 n3
  refine loop_pub [0, 1] ?_
  conv => whnf
  refine loop_keep [0, 1, 4] ?_
  conv => whnf
  refine loop_goQ (fun j : Nat => [(7, .v (.int .i64 j)), (5, .sl 1 4 ws), (6, .sl 1 4 ns)]) (fun _ => [bxP T i a 0, zero5]) (fun _ => [.pub 1 4 ws, .pub 1 4 ns]) (fun j => j ≤ 4 ∧ (0 < j → t.text ≠ kNot) ∧ (1 < j → t.text ≠ kNext) ∧ (2 < j → t.text ≠ kAlw) ∧ (3 < j → t.text ≠ kEv)) (fun j => 4 - j) 0 ?_ ⟨by decide, fun h => absurd h (by decide), fun h => absurd h (by decide), fun h => absurd h (by decide), fun h => absurd h (by decide)⟩ ?_
  · unfold headQ
    rw [hws, hns]
    repeat' constructor
  · rintro j ⟨hj, h0, h1, h2, h3⟩
    rcases (show j = 0 ∨ j = 1 ∨ j = 2 ∨ j = 3 ∨ j = 4 by omega) with rfl | rfl | rfl | rfl | rfl
    · conv => whnf
      have his := pIs0 T i a hi kNot hT (wsy (by decide))
      rw [← htd] at his
      (refine goA ?_; try with_reducible exact trivial)
      (generalize hrq : rowOf _ _ (ws) = rq; obtain rfl : rq = [strA kNot] := hrq.symm.trans (w0); clear hrq; conv => whnf)
      refine call1 0 [] rfl rfl rfl rfl (fun _ => his) ?_
      rintro o r ⟨ho, rfl⟩
      cases ho
      by_cases hw : t.text = kNot
      · have hk0 := kind_ne (wsy (by decide)) hKt hw
        have hU : unKind (hd (T.drop i)).text = some 2 := by rw [hhd, hw]; rfl
        rw [decide_eq_true hw]
        conv => whnf
        (refine goA ?_; try with_reducible exact trivial)
        rcases hlo with ⟨rfl, rfl⟩ | ⟨p, rfl, hle, su, sc, sf⟩
        · rw [pr_none hU, hhd] at hP
          have hop := pOpen_spec T i a 0 hi hT.n (20 + 1)
          rw [show opnP T i a 0 (20 + 1) = bxP T i t.pos 2 by unfold opnP; rw [if_pos rfl, if_pos (by decide), hgd]] at hop
          refine call1 0 [] rfl rfl rfl rfl (fun _ => hop) ?_
          rintro o r ⟨ho, rfl⟩
          cases ho
          conv => whnf
          (refine goA ?_; try with_reducible exact trivial)
          (generalize hrq : rowOf _ _ (ns) = rq; obtain rfl : rq = [intA 2] := hrq.symm.trans (n0); clear hrq; conv => whnf)
          (refine goA ?_; try with_reducible exact trivial)
          refine call1 0 [] rfl rfl rfl rfl (fun _ => uErr T i t.pos 2 (20 + 1) hi (by decide)) ?_
          rintro o r ⟨i', g, hi', ho, rfl⟩
          cases ho
          conv => whnf
          exact oBad hP.symm (by decide) ⟨i', .mk 2 0 0 0 [g], hi', rfl, .inl (by rw [fmA_one]; rfl)⟩
        · rw [pr_some hU, tail_drop] at hP
          obtain ⟨hi1, hB1⟩ := take_ok hi hB (by rw [← htd]; exact hk0)
          have hop := pOpen_spec T i a 0 hi hT.n (lv + 1)
          rw [show opnP T i a 0 (lv + 1) = bxP T (i + 1) a 0 by unfold opnP; rw [if_pos rfl, if_neg (by omega), if_pos hi1]] at hop
          refine call1 0 [] rfl rfl rfl rfl (fun _ => hop) ?_
          rintro o r ⟨ho, rfl⟩
          cases ho
          have hsu := su (i + 1) a hi1 hB1
          conv => whnf
          (refine goA ?_; try with_reducible exact trivial)
          (generalize hrq : rowOf _ _ (ns) = rq; obtain rfl : rq = [intA 2] := hrq.symm.trans (n0); clear hrq; conv => whnf)
          (refine goA ?_; try with_reducible exact trivial)
          refine call1 0 [] rfl rfl rfl rfl (fun _ => hsu) ?_
          rintro o r hpo
          cases hp : p.un (T.drop (i + 1)) with
          | ok f r1 =>
            rw [hp] at hP hpo
            obtain ⟨i', hi', hr1, ho, rfl⟩ := hpo
            cases ho
            subst hr1
            conv => whnf
            exact oOk i' hP.symm hi' rfl (.inl (by rw [fmA_one]; rfl))
          | bad x e =>
            rw [hp] at hP hpo
            obtain ⟨he, i', g, hi', ho, rfl⟩ := hpo
            cases ho
            conv => whnf
            exact oBad hP.symm he ⟨i', .mk 2 0 0 0 [g], hi', rfl, .inl (by rw [fmA_one]; rfl)⟩
      · rw [decide_eq_false hw]
        conv => whnf
        (refine goA ?_; try with_reducible exact trivial)
        refine ⟨1, le_head ?_, ?_, by decide⟩
        · repeat' constructor
        · refine ⟨by decide, fun h => ?_, fun h => ?_, fun h => ?_, fun h => ?_⟩ <;> first | exact hw | exact h0 (by decide) | exact h1 (by decide) | exact h2 (by decide) | exact absurd h (by decide)
    · conv => whnf
      have his := pIs0 T i a hi kNext hT (wsy (by decide))
      rw [← htd] at his
      (refine goA ?_; try with_reducible exact trivial)
      (generalize hrq : rowOf _ _ (ws) = rq; obtain rfl : rq = [strA kNext] := hrq.symm.trans (w1); clear hrq; conv => whnf)
      refine call1 0 [] rfl rfl rfl rfl (fun _ => his) ?_
      rintro o r ⟨ho, rfl⟩
      cases ho
      by_cases hw : t.text = kNext
      · have hk0 := kind_ne (wsy (by decide)) hKt hw
        have hU : unKind (hd (T.drop i)).text = some 5 := by rw [hhd, hw]; rfl
        rw [decide_eq_true hw]
        conv => whnf
        (refine goA ?_; try with_reducible exact trivial)
        rcases hlo with ⟨rfl, rfl⟩ | ⟨p, rfl, hle, su, sc, sf⟩
        · rw [pr_none hU, hhd] at hP
          have hop := pOpen_spec T i a 0 hi hT.n (20 + 1)
          rw [show opnP T i a 0 (20 + 1) = bxP T i t.pos 2 by unfold opnP; rw [if_pos rfl, if_pos (by decide), hgd]] at hop
          refine call1 0 [] rfl rfl rfl rfl (fun _ => hop) ?_
          rintro o r ⟨ho, rfl⟩
          cases ho
          conv => whnf
          (refine goA ?_; try with_reducible exact trivial)
          (generalize hrq : rowOf _ _ (ns) = rq; obtain rfl : rq = [intA 5] := hrq.symm.trans (n1); clear hrq; conv => whnf)
          (refine goA ?_; try with_reducible exact trivial)
          refine call1 0 [] rfl rfl rfl rfl (fun _ => uErr T i t.pos 2 (20 + 1) hi (by decide)) ?_
          rintro o r ⟨i', g, hi', ho, rfl⟩
          cases ho
          conv => whnf
          exact oBad hP.symm (by decide) ⟨i', .mk 5 0 0 0 [g], hi', rfl, .inl (by rw [fmA_one]; rfl)⟩
        · rw [pr_some hU, tail_drop] at hP
          obtain ⟨hi1, hB1⟩ := take_ok hi hB (by rw [← htd]; exact hk0)
          have hop := pOpen_spec T i a 0 hi hT.n (lv + 1)
          rw [show opnP T i a 0 (lv + 1) = bxP T (i + 1) a 0 by unfold opnP; rw [if_pos rfl, if_neg (by omega), if_pos hi1]] at hop
          refine call1 0 [] rfl rfl rfl rfl (fun _ => hop) ?_
          rintro o r ⟨ho, rfl⟩
          cases ho
          have hsu := su (i + 1) a hi1 hB1
          conv => whnf
          (refine goA ?_; try with_reducible exact trivial)
          (generalize hrq : rowOf _ _ (ns) = rq; obtain rfl : rq = [intA 5] := hrq.symm.trans (n1); clear hrq; conv => whnf)
          (refine goA ?_; try with_reducible exact trivial)
          refine call1 0 [] rfl rfl rfl rfl (fun _ => hsu) ?_
          rintro o r hpo
          cases hp : p.un (T.drop (i + 1)) with
          | ok f r1 =>
            rw [hp] at hP hpo
            obtain ⟨i', hi', hr1, ho, rfl⟩ := hpo
            cases ho
            subst hr1
            conv => whnf
            exact oOk i' hP.symm hi' rfl (.inl (by rw [fmA_one]; rfl))
          | bad x e =>
            rw [hp] at hP hpo
            obtain ⟨he, i', g, hi', ho, rfl⟩ := hpo
            cases ho
            conv => whnf
            exact oBad hP.symm he ⟨i', .mk 5 0 0 0 [g], hi', rfl, .inl (by rw [fmA_one]; rfl)⟩
      · rw [decide_eq_false hw]
        conv => whnf
        (refine goA ?_; try with_reducible exact trivial)
        refine ⟨2, le_head ?_, ?_, by decide⟩
        · repeat' constructor
        · refine ⟨by decide, fun h => ?_, fun h => ?_, fun h => ?_, fun h => ?_⟩ <;> first | exact hw | exact h0 (by decide) | exact h1 (by decide) | exact h2 (by decide) | exact absurd h (by decide)
    · conv => whnf
      have his := pIs0 T i a hi kAlw hT (wsy (by decide))
      rw [← htd] at his
      (refine goA ?_; try with_reducible exact trivial)
      (generalize hrq : rowOf _ _ (ws) = rq; obtain rfl : rq = [strA kAlw] := hrq.symm.trans (w2); clear hrq; conv => whnf)
      refine call1 0 [] rfl rfl rfl rfl (fun _ => his) ?_
      rintro o r ⟨ho, rfl⟩
      cases ho
      by_cases hw : t.text = kAlw
      · have hk0 := kind_ne (wsy (by decide)) hKt hw
        have hU : unKind (hd (T.drop i)).text = some 7 := by rw [hhd, hw]; rfl
        rw [decide_eq_true hw]
        conv => whnf
        (refine goA ?_; try with_reducible exact trivial)
        rcases hlo with ⟨rfl, rfl⟩ | ⟨p, rfl, hle, su, sc, sf⟩
        · rw [pr_none hU, hhd] at hP
          have hop := pOpen_spec T i a 0 hi hT.n (20 + 1)
          rw [show opnP T i a 0 (20 + 1) = bxP T i t.pos 2 by unfold opnP; rw [if_pos rfl, if_pos (by decide), hgd]] at hop
          refine call1 0 [] rfl rfl rfl rfl (fun _ => hop) ?_
          rintro o r ⟨ho, rfl⟩
          cases ho
          conv => whnf
          (refine goA ?_; try with_reducible exact trivial)
          (generalize hrq : rowOf _ _ (ns) = rq; obtain rfl : rq = [intA 7] := hrq.symm.trans (n2); clear hrq; conv => whnf)
          (refine goA ?_; try with_reducible exact trivial)
          refine call1 0 [] rfl rfl rfl rfl (fun _ => uErr T i t.pos 2 (20 + 1) hi (by decide)) ?_
          rintro o r ⟨i', g, hi', ho, rfl⟩
          cases ho
          conv => whnf
          exact oBad hP.symm (by decide) ⟨i', .mk 7 0 0 0 [g], hi', rfl, .inl (by rw [fmA_one]; rfl)⟩
        · rw [pr_some hU, tail_drop] at hP
          obtain ⟨hi1, hB1⟩ := take_ok hi hB (by rw [← htd]; exact hk0)
          have hop := pOpen_spec T i a 0 hi hT.n (lv + 1)
          rw [show opnP T i a 0 (lv + 1) = bxP T (i + 1) a 0 by unfold opnP; rw [if_pos rfl, if_neg (by omega), if_pos hi1]] at hop
          refine call1 0 [] rfl rfl rfl rfl (fun _ => hop) ?_
          rintro o r ⟨ho, rfl⟩
          cases ho
          have hsu := su (i + 1) a hi1 hB1
          conv => whnf
          (refine goA ?_; try with_reducible exact trivial)
          (generalize hrq : rowOf _ _ (ns) = rq; obtain rfl : rq = [intA 7] := hrq.symm.trans (n2); clear hrq; conv => whnf)
          (refine goA ?_; try with_reducible exact trivial)
          refine call1 0 [] rfl rfl rfl rfl (fun _ => hsu) ?_
          rintro o r hpo
          cases hp : p.un (T.drop (i + 1)) with
          | ok f r1 =>
            rw [hp] at hP hpo
            obtain ⟨i', hi', hr1, ho, rfl⟩ := hpo
            cases ho
            subst hr1
            conv => whnf
            exact oOk i' hP.symm hi' rfl (.inl (by rw [fmA_one]; rfl))
          | bad x e =>
            rw [hp] at hP hpo
            obtain ⟨he, i', g, hi', ho, rfl⟩ := hpo
            cases ho
            conv => whnf
            exact oBad hP.symm he ⟨i', .mk 7 0 0 0 [g], hi', rfl, .inl (by rw [fmA_one]; rfl)⟩
      · rw [decide_eq_false hw]
        conv => whnf
        (refine goA ?_; try with_reducible exact trivial)
        refine ⟨3, le_head ?_, ?_, by decide⟩
        · repeat' constructor
        · refine ⟨by decide, fun h => ?_, fun h => ?_, fun h => ?_, fun h => ?_⟩ <;> first | exact hw | exact h0 (by decide) | exact h1 (by decide) | exact h2 (by decide) | exact absurd h (by decide)
    · conv => whnf
      have his := pIs0 T i a hi kEv hT (wsy (by decide))
      rw [← htd] at his
      (refine goA ?_; try with_reducible exact trivial)
      (generalize hrq : rowOf _ _ (ws) = rq; obtain rfl : rq = [strA kEv] := hrq.symm.trans (w3); clear hrq; conv => whnf)
      refine call1 0 [] rfl rfl rfl rfl (fun _ => his) ?_
      rintro o r ⟨ho, rfl⟩
      cases ho
      by_cases hw : t.text = kEv
      · have hk0 := kind_ne (wsy (by decide)) hKt hw
        have hU : unKind (hd (T.drop i)).text = some 8 := by rw [hhd, hw]; rfl
        rw [decide_eq_true hw]
        conv => whnf
        (refine goA ?_; try with_reducible exact trivial)
        rcases hlo with ⟨rfl, rfl⟩ | ⟨p, rfl, hle, su, sc, sf⟩
        · rw [pr_none hU, hhd] at hP
          have hop := pOpen_spec T i a 0 hi hT.n (20 + 1)
          rw [show opnP T i a 0 (20 + 1) = bxP T i t.pos 2 by unfold opnP; rw [if_pos rfl, if_pos (by decide), hgd]] at hop
          refine call1 0 [] rfl rfl rfl rfl (fun _ => hop) ?_
          rintro o r ⟨ho, rfl⟩
          cases ho
          conv => whnf
          (refine goA ?_; try with_reducible exact trivial)
          (generalize hrq : rowOf _ _ (ns) = rq; obtain rfl : rq = [intA 8] := hrq.symm.trans (n3); clear hrq; conv => whnf)
          (refine goA ?_; try with_reducible exact trivial)
          refine call1 0 [] rfl rfl rfl rfl (fun _ => uErr T i t.pos 2 (20 + 1) hi (by decide)) ?_
          rintro o r ⟨i', g, hi', ho, rfl⟩
          cases ho
          conv => whnf
          exact oBad hP.symm (by decide) ⟨i', .mk 8 0 0 0 [g], hi', rfl, .inl (by rw [fmA_one]; rfl)⟩
        · rw [pr_some hU, tail_drop] at hP
          obtain ⟨hi1, hB1⟩ := take_ok hi hB (by rw [← htd]; exact hk0)
          have hop := pOpen_spec T i a 0 hi hT.n (lv + 1)
          rw [show opnP T i a 0 (lv + 1) = bxP T (i + 1) a 0 by unfold opnP; rw [if_pos rfl, if_neg (by omega), if_pos hi1]] at hop
          refine call1 0 [] rfl rfl rfl rfl (fun _ => hop) ?_
          rintro o r ⟨ho, rfl⟩
          cases ho
          have hsu := su (i + 1) a hi1 hB1
          conv => whnf
          (refine goA ?_; try with_reducible exact trivial)
          (generalize hrq : rowOf _ _ (ns) = rq; obtain rfl : rq = [intA 8] := hrq.symm.trans (n3); clear hrq; conv => whnf)
          (refine goA ?_; try with_reducible exact trivial)
          refine call1 0 [] rfl rfl rfl rfl (fun _ => hsu) ?_
          rintro o r hpo
          cases hp : p.un (T.drop (i + 1)) with
          | ok f r1 =>
            rw [hp] at hP hpo
            obtain ⟨i', hi', hr1, ho, rfl⟩ := hpo
            cases ho
            subst hr1
            conv => whnf
            exact oOk i' hP.symm hi' rfl (.inl (by rw [fmA_one]; rfl))
          | bad x e =>
            rw [hp] at hP hpo
            obtain ⟨he, i', g, hi', ho, rfl⟩ := hpo
            cases ho
            conv => whnf
            exact oBad hP.symm he ⟨i', .mk 8 0 0 0 [g], hi', rfl, .inl (by rw [fmA_one]; rfl)⟩
      · rw [decide_eq_false hw]
        conv => whnf
        (refine goA ?_; try with_reducible exact trivial)
        refine ⟨4, le_head ?_, ?_, by decide⟩
        · repeat' constructor
        · refine ⟨by decide, fun h => ?_, fun h => ?_, fun h => ?_, fun h => ?_⟩ <;> first | exact hw | exact h0 (by decide) | exact h1 (by decide) | exact h2 (by decide) | exact absurd h (by decide)
    · have h0 := h0 (by decide)
      have h1 := h1 (by decide)
      have h2 := h2 (by decide)
      have h3 := h3 (by decide)
      have hUn : unKind (hd (T.drop i)).text = none := by
        unfold unKind
        rw [hhd, if_neg h0, if_neg h1, if_neg h2, if_neg h3]
      have hTt := isT_eq (ts := T.drop i) (s := kTrue) (wsy (by decide)) (by rw [hhd]; exact hKt)
      have hTf := isT_eq (ts := T.drop i) (s := kFalse) (wsy (by decide)) (by rw [hhd]; exact hKt)
      have hTl := isT_eq (ts := T.drop i) (s := kLp) (wsy (by decide)) (by rw [hhd]; exact hKt)
      unfold unG at hP
      rw [hUn] at hP
      simp only at hP
      rw [hTt, hTf, hTl, hhd] at hP
      have hisT := pIs0 T i a hi kTrue hT (wsy (by decide))
      have hisF := pIs0 T i a hi kFalse hT (wsy (by decide))
      have hisL := pIs0 T i a hi kLp hT (wsy (by decide))
      rw [← htd] at hisT hisF hisL
      conv => whnf
      (refine goA ?_; try with_reducible exact trivial)
      refine call1 0 [] rfl rfl rfl rfl (fun _ => hisT) ?_
      rintro o r ⟨ho, rfl⟩
      cases ho
      by_cases hwT : t.text = kTrue
      · have hk0 := kind_ne (wsy (by decide)) hKt hwT
        obtain ⟨hi1, hB1⟩ := take_ok hi hB (by rw [← htd]; exact hk0)
        rw [decide_eq_true hwT, Bool.true_or, if_pos rfl, tail_drop] at hP
        rw [decide_eq_true hwT]
        have htk := pTake_spec T i a 0 hi hT.n
        rw [if_pos hi1] at htk
        conv => whnf
        refine call1 0 [] rfl rfl rfl rfl (fun _ => htk) ?_
        rintro o r ⟨ho, rfl⟩
        cases ho
        conv => whnf
        (refine call0 [] rfl (fun _ => rTrue) ?_; rintro r rfl; conv => whnf)
        exact oOk (i + 1) hP.symm hi1 rfl (.inl rfl)
      · rw [decide_eq_false hwT, Bool.false_or] at hP
        rw [decide_eq_false hwT]
        conv => whnf
        refine call1 0 [] rfl rfl rfl rfl (fun _ => hisF) ?_
        rintro o r ⟨ho, rfl⟩
        cases ho
        by_cases hwF : t.text = kFalse
        · have hk0 := kind_ne (wsy (by decide)) hKt hwF
          obtain ⟨hi1, hB1⟩ := take_ok hi hB (by rw [← htd]; exact hk0)
          rw [decide_eq_true hwF, if_pos rfl, tail_drop] at hP
          rw [decide_eq_true hwF]
          have htk := pTake_spec T i a 0 hi hT.n
          rw [if_pos hi1] at htk
          conv => whnf
          refine call1 0 [] rfl rfl rfl rfl (fun _ => htk) ?_
          rintro o r ⟨ho, rfl⟩
          cases ho
          conv => whnf
          (refine call0 [] rfl (fun _ => rFalse) ?_; rintro r rfl; conv => whnf)
          exact oOk (i + 1) hP.symm hi1 rfl (.inl rfl)
        · rw [decide_eq_false hwF, if_neg (by simp)] at hP
          rw [decide_eq_false hwF]
          conv => whnf
          refine call1 0 [] rfl rfl rfl rfl (fun _ => hisL) ?_
          rintro o r ⟨ho, rfl⟩
          cases ho
          by_cases hwL : t.text = kLp
          · have hk0 := kind_ne (wsy (by decide)) hKt hwL
            rw [decide_eq_true hwL, if_pos rfl] at hP
            rw [decide_eq_true hwL]
            conv => whnf
            (refine goA ?_; try with_reducible exact trivial)
            rcases hlo with ⟨rfl, rfl⟩ | ⟨p, rfl, hle, su, sc, sf⟩
            · simp only at hP
              have hop := pOpen_spec T i a 0 hi hT.n (20 + 1)
              rw [show opnP T i a 0 (20 + 1) = bxP T i t.pos 2 by unfold opnP; rw [if_pos rfl, if_pos (by decide), hgd]] at hop
              refine call1 0 [] rfl rfl rfl rfl (fun _ => hop) ?_
              rintro o r ⟨ho, rfl⟩
              cases ho
              conv => whnf
              (refine goA ?_; try with_reducible exact trivial)
              refine call1 0 [] rfl rfl rfl rfl (fun _ => lErr T i t.pos 2 (20 + 1) 4 kOr hi (by decide)) ?_
              rintro o r ⟨i', g, hi', ho, rfl⟩
              cases ho
              have hisE := pIs_spec T i' t.pos 2 hi' kRp
              rw [decide_eq_false (by decide), Bool.false_and] at hisE
              have hflE := pFail_spec T i' t.pos 2 hi' 10
              rw [if_neg (by decide)] at hflE
              obtain ⟨i2, hi2, htk⟩ := take_any T i' t.pos 2 hi' hT.n
              conv => whnf
              refine call1 0 [] rfl rfl rfl rfl (fun _ => hisE) ?_
              rintro o r ⟨ho, rfl⟩
              cases ho
              conv => whnf
              refine call1 0 [] rfl rfl rfl rfl (fun _ => hflE) ?_
              rintro o r ⟨ho, rfl⟩
              cases ho
              conv => whnf
              refine call1 0 [] rfl rfl rfl rfl (fun _ => htk) ?_
              rintro o r ⟨ho, rfl⟩
              cases ho
              conv => whnf
              exact oBad hP.symm (by decide) ⟨i2, g, hi2, rfl, .inl rfl⟩
            · simp only at hP
              rw [tail_drop] at hP
              obtain ⟨hi1, hB1⟩ := take_ok hi hB (by rw [← htd]; exact hk0)
              have hop := pOpen_spec T i a 0 hi hT.n (lv + 1)
              rw [show opnP T i a 0 (lv + 1) = bxP T (i + 1) a 0 by unfold opnP; rw [if_pos rfl, if_neg (by omega), if_pos hi1]] at hop
              refine call1 0 [] rfl rfl rfl rfl (fun _ => hop) ?_
              rintro o r ⟨ho, rfl⟩
              cases ho
              have hsf := sf (i + 1) a hi1 hB1
              conv => whnf
              (refine goA ?_; try with_reducible exact trivial)
              refine call1 0 [] rfl rfl rfl rfl (fun _ => hsf) ?_
              rintro o r hpo
              cases hp : p.fo (T.drop (i + 1)) with
              | ok f r1 =>
                rw [hp] at hP hpo
                obtain ⟨i', hi', hr1, ho, rfl⟩ := hpo
                cases ho
                subst hr1
                simp only at hP
                have hKt2 := hT.at hi'
                have hhd2 := hd_drop hi'
                have hTr := isT_eq (ts := T.drop i') (s := kRp) (wsy (by decide)) (by rw [hhd2]; exact hKt2)
                rw [hTr, hhd2, tail_drop] at hP
                have hisR := pIs0 T i' a hi' kRp hT (wsy (by decide))
                have hfl := pFail_spec T i' a 0 hi' 10
                rw [if_pos rfl] at hfl
                conv => whnf
                refine call1 0 [] rfl rfl rfl rfl (fun _ => hisR) ?_
                rintro o r ⟨ho, rfl⟩
                cases ho
                by_cases hwR : T[i'].text = kRp
                · have hk2 := kind_ne (wsy (by decide)) hKt2 hwR
                  obtain ⟨hi2, hB2⟩ := take_ok hi' (hT.b hi') hk2
                  have htk := pTake_spec T i' a 0 hi' hT.n
                  rw [if_pos hi2] at htk
                  rw [decide_eq_true hwR, if_pos rfl] at hP
                  rw [decide_eq_true hwR]
                  conv => whnf
                  refine call1 0 [] rfl rfl rfl rfl (fun _ => htk) ?_
                  rintro o r ⟨ho, rfl⟩
                  cases ho
                  conv => whnf
                  exact oOk (i' + 1) hP.symm hi2 rfl (.inl rfl)
                · rw [decide_eq_false hwR, if_neg (by simp)] at hP
                  rw [decide_eq_false hwR]
                  conv => whnf
                  refine call1 0 [] rfl rfl rfl rfl (fun _ => hfl) ?_
                  rintro o r ⟨ho, rfl⟩
                  cases ho
                  obtain ⟨i2, hi2, htk⟩ := take_any T i' T[i'].pos 10 hi' hT.n
                  conv => whnf
                  refine call1 0 [] rfl rfl rfl rfl (fun _ => htk) ?_
                  rintro o r ⟨ho, rfl⟩
                  cases ho
                  conv => whnf
                  exact oBad hP.symm (by decide) ⟨i2, f, hi2, rfl, .inl rfl⟩
              | bad x e =>
                rw [hp] at hP hpo
                obtain ⟨he, i', g, hi', ho, rfl⟩ := hpo
                cases ho
                simp only at hP
                have hisE := pIs_spec T i' x e hi' kRp
                rw [decide_eq_false he, Bool.false_and] at hisE
                have hflE := pFail_spec T i' x e hi' 10
                rw [if_neg he] at hflE
                obtain ⟨i2, hi2, htk⟩ := take_any T i' x e hi' hT.n
                conv => whnf
                refine call1 0 [] rfl rfl rfl rfl (fun _ => hisE) ?_
                rintro o r ⟨ho, rfl⟩
                cases ho
                conv => whnf
                refine call1 0 [] rfl rfl rfl rfl (fun _ => hflE) ?_
                rintro o r ⟨ho, rfl⟩
                cases ho
                conv => whnf
                refine call1 0 [] rfl rfl rfl rfl (fun _ => htk) ?_
                rintro o r ⟨ho, rfl⟩
                cases ho
                conv => whnf
                exact oBad hP.symm he ⟨i2, g, hi2, rfl, .inl rfl⟩
          · rw [decide_eq_false hwL, if_neg (by simp)] at hP
            rw [decide_eq_false hwL]
            have hsz := hB.1.good.1
            rw [hhd] at hsz
            have hnum := number_spec t.text hsz hKt.2.2
            have hfl : ∀ x, Spec Tryz.prog 37 [bxP T i a 0] [.box 0 0, intA x] fun o r => o = [bxP T i t.pos x] ∧ r = .tup [] := fun x => by
              have := pFail_spec T i a 0 hi x
              rw [if_pos rfl, ← htd] at this
              exact this
            rcases num_cases hKt with ⟨hb1, hb2⟩ | ⟨n, hc1, hc2, hk1, hnR⟩
            · rw [cmp_bad (by rw [hhd]; exact hb1), hhd] at hP
              generalize numR t.text.data.toList = N at *
              conv => whnf
              (refine goA ?_; try with_reducible exact trivial)
              (generalize hrq : rowOf _ _ (tksL T) = rq; obtain rfl : rq = tkL t := hrq.symm.trans (hrow); clear hrq; conv => whnf)
              (refine call0 [] rfl (fun _ => hnum) ?_; rintro r rfl; conv => whnf)
              by_cases hk1 : t.kind = 1
              · have hN := hb2.resolve_left (fun h => h hk1)
                (refine goA ?_; try with_reducible exact trivial)
                refine call1 0 [] rfl rfl rfl rfl (fun _ => hfl 10) ?_
                rintro o r ⟨ho, rfl⟩
                cases ho
                conv => whnf
                exact oBad hP.symm (by decide) ⟨i, .mk 1 N 0 0 [], hi, rfl, .inr ⟨rfl, rfl⟩⟩
              · (refine goA ?_; try with_reducible exact trivial)
                refine call1 0 [] rfl rfl rfl rfl (fun _ => hfl 10) ?_
                rintro o r ⟨ho, rfl⟩
                cases ho
                conv => whnf
                exact oBad hP.symm (by decide) ⟨i, .mk 1 N 0 0 [], hi, rfl, .inr ⟨rfl, rfl⟩⟩
            · rw [cmp_num (by rw [hhd]; exact hc1) (by rw [hhd]; exact hc2), hhd] at hP
              rw [hnR] at hnum
              conv => whnf
              (refine goA ?_; try with_reducible exact trivial)
              (generalize hrq : rowOf _ _ (tksL T) = rq; obtain rfl : rq = tkL t := hrq.symm.trans (hrow); clear hrq; conv => whnf)
              (refine call0 [] rfl (fun _ => hnum) ?_; rintro r rfl; conv => whnf)
              (refine goA ?_; try with_reducible exact trivial)
              by_cases hn15 : 15 < n
              · rw [if_pos hn15] at hP
                (refine goA ?_; try with_reducible exact trivial)
                refine call1 0 [] rfl rfl rfl rfl (fun _ => hfl 6) ?_
                rintro o r ⟨ho, rfl⟩
                cases ho
                conv => whnf
                exact oBad hP.symm (by decide) ⟨i, .mk 1 n 0 0 [], hi, rfl, .inr ⟨rfl, rfl⟩⟩
              · rw [if_neg hn15, tail_drop] at hP
                obtain ⟨hi1, hB1⟩ := take_ok hi hB (by rw [← htd]; omega)
                have htk := pTake_spec T i a 0 hi hT.n
                rw [if_pos hi1] at htk
                (refine goA ?_; try with_reducible exact trivial)
                refine call1 0 [] rfl rfl rfl rfl (fun _ => htk) ?_
                rintro o r ⟨ho, rfl⟩
                cases ho
                have hKu := hT.at hi1
                have hix := idx_eq (us := T.drop (i + 1)) (by rw [hd_drop hi1]; exact hKu)
                unfold restC at hP
                rw [hix, hd_drop hi1, tail_drop] at hP
                have hisE := pIs0 T (i + 1) a hi1 kEq hT (wsy (by decide))
                have hisG := pIs0 T (i + 1) a hi1 kGt hT (wsy (by decide))
                have hisL2 := pIs0 T (i + 1) a hi1 kLt hT (wsy (by decide))
                have hne1 : kEq ≠ kLt := by decide
                have hne2 : kGt ≠ kLt := by decide
                have hne3 : kGt ≠ kEq := by decide
                conv => whnf
                refine call1 0 [] rfl rfl rfl rfl (fun _ => hisE) ?_
                rintro o r ⟨ho, rfl⟩
                cases ho
                by_cases hwE : T[i + 1].text = kEq
                · have hkE := kind_ne (wsy (by decide)) hKu hwE
                  obtain ⟨hi2, hB2⟩ := take_ok hi1 hB1 hkE
                  rw [decide_eq_true hwE]
                  have hBv : (if T[i + 1].text = kLt then (0 : Int) else if T[i + 1].text = kEq then 1 else if T[i + 1].text = kGt then 2 else -1) = 1 := by rw [hwE, if_neg hne1, if_pos rfl]
                  rw [hBv, if_neg (by decide)] at hP
                  have htk2 := pTake_spec T (i + 1) a 0 hi1 hT.n
                  rw [if_pos hi2] at htk2
                  have hisM := pIs0 T (i + 1 + 1) a hi2 minus hT (wsy (by decide))
                  have hKm := hT.at hi2
                  have hTm := isT_eq (ts := T.drop (i + 1 + 1)) (s := minus) (wsy (by decide)) (by rw [hd_drop hi2]; exact hKm)
                  rw [hd_drop hi2] at hTm
                  unfold signF at hP
                  rw [hTm] at hP
                  conv => whnf
                  refine call1 0 [] rfl rfl rfl rfl (fun _ => htk2) ?_
                  rintro o r ⟨ho, rfl⟩
                  cases ho
                  conv => whnf
                  refine call1 0 [] rfl rfl rfl rfl (fun _ => hisM) ?_
                  rintro o r ⟨ho, rfl⟩
                  cases ho
                  by_cases hwM : T[i + 1 + 1].text = minus
                  · have hkM := kind_ne (wsy (by decide)) hKm hwM
                    obtain ⟨hi3, _⟩ := take_ok hi2 (hT.b hi2) hkM
                    have htk3 := pTake_spec T (i + 1 + 1) a 0 hi2 hT.n
                    rw [if_pos hi3] at htk3
                    rw [decide_eq_true hwM, if_pos rfl] at hP
                    simp only at hP
                    rw [tail_drop, hd_drop hi3, tail_drop] at hP
                    rw [decide_eq_true hwM]
                    conv => whnf
                    refine call1 0 [] rfl rfl rfl rfl (fun _ => htk3) ?_
                    rintro o r ⟨ho, rfl⟩
                    cases ho
                    generalize i + 1 + 1 + 1 = j at *
                    have hKj := hT.b hi3
                    have hgj := hKj.1.good
                    rw [hd_drop hi3] at hgj
                    have htkj := fun hk : T[j].kind ≠ 0 => take_ok hi3 hKj hk
                    have htk := pTake_spec T j a 0 hi3 hT.n
                    have hfl := pFail_spec T j a 0 hi3 10
                    rw [if_pos rfl] at hfl
                    have hrj := rowOf_tks T j hi3
                    generalize T[j] = u at *
                    conv => whnf
                    (refine goA ?_; try with_reducible exact trivial)
                    (generalize hrq : rowOf _ _ (tksL T) = rq; obtain rfl : rq = tkL u := hrq.symm.trans (hrj); clear hrq; conv => whnf)
                    by_cases hk2 : u.kind = 2
                    · obtain ⟨hj2, _⟩ := htkj (by omega)
                      rw [if_pos hj2] at htk
                      rw [if_neg (by simpa using hk2)] at hP
                      obtain ⟨_, _, _, hn1, hn2, _⟩ := hgj
                      rw [decide_eq_true hk2]
                      conv => whnf
                      (refine goA ?_; try with_reducible exact trivial)
                      (generalize hrq : rowOf _ _ (tksL T) = rq; obtain rfl : rq = tkL u := hrq.symm.trans (hrj); clear hrq; conv => whnf)
                      (refine goA ?_; try with_reducible exact trivial)
                      refine call1 0 [] rfl rfl rfl rfl (fun _ => htk) ?_
                      rintro o r ⟨ho, rfl⟩
                      cases ho
                      conv => whnf
                      exact oOk (j + 1) hP.symm hj2 rfl (.inr ⟨rfl, rfl⟩)
                    · rw [if_pos (by simpa using hk2)] at hP
                      rw [decide_eq_false hk2]
                      conv => whnf
                      refine call1 0 [] rfl rfl rfl rfl (fun _ => hfl) ?_
                      rintro o r ⟨ho, rfl⟩
                      cases ho
                      conv => whnf
                      exact oBad hP.symm (by decide) ⟨j, .mk 1 n 1 0 [], hi3, rfl, .inr ⟨rfl, rfl⟩⟩
                  · have hif : (if false = true then ((-1 : Int), (T.drop (i + 1 + 1)).tail) else (1, T.drop (i + 1 + 1))) = (1, T.drop (i + 1 + 1)) := if_neg (by simp)
                    rw [decide_eq_false hwM, hif] at hP
                    simp only at hP
                    rw [hd_drop hi2, tail_drop] at hP
                    rw [decide_eq_false hwM]
                    clear hTm hKm hwM hisM htk2
                    generalize i + 1 + 1 = j at *
                    have hKj := hT.b hi2
                    have hgj := hKj.1.good
                    rw [hd_drop hi2] at hgj
                    have htkj := fun hk : T[j].kind ≠ 0 => take_ok hi2 hKj hk
                    have htk := pTake_spec T j a 0 hi2 hT.n
                    have hfl := pFail_spec T j a 0 hi2 10
                    rw [if_pos rfl] at hfl
                    have hrj := rowOf_tks T j hi2
                    generalize T[j] = u at *
                    conv => whnf
                    (refine goA ?_; try with_reducible exact trivial)
                    (generalize hrq : rowOf _ _ (tksL T) = rq; obtain rfl : rq = tkL u := hrq.symm.trans (hrj); clear hrq; conv => whnf)
                    by_cases hk2 : u.kind = 2
                    · obtain ⟨hj2, _⟩ := htkj (by omega)
                      rw [if_pos hj2] at htk
                      rw [if_neg (by simpa using hk2)] at hP
                      obtain ⟨_, _, _, hn1, hn2, _⟩ := hgj
                      rw [decide_eq_true hk2]
                      conv => whnf
                      (refine goA ?_; try with_reducible exact trivial)
                      (generalize hrq : rowOf _ _ (tksL T) = rq; obtain rfl : rq = tkL u := hrq.symm.trans (hrj); clear hrq; conv => whnf)
                      (refine goA ?_; try with_reducible exact trivial)
                      refine call1 0 [] rfl rfl rfl rfl (fun _ => htk) ?_
                      rintro o r ⟨ho, rfl⟩
                      cases ho
                      conv => whnf
                      exact oOk (j + 1) hP.symm hj2 rfl (.inr ⟨rfl, rfl⟩)
                    · rw [if_pos (by simpa using hk2)] at hP
                      rw [decide_eq_false hk2]
                      conv => whnf
                      refine call1 0 [] rfl rfl rfl rfl (fun _ => hfl) ?_
                      rintro o r ⟨ho, rfl⟩
                      cases ho
                      conv => whnf
                      exact oBad hP.symm (by decide) ⟨j, .mk 1 n 1 0 [], hi2, rfl, .inr ⟨rfl, rfl⟩⟩
                · rw [decide_eq_false hwE]
                  conv => whnf
                  refine call1 0 [] rfl rfl rfl rfl (fun _ => hisG) ?_
                  rintro o r ⟨ho, rfl⟩
                  cases ho
                  by_cases hwG : T[i + 1].text = kGt
                  · have hkE := kind_ne (wsy (by decide)) hKu hwG
                    obtain ⟨hi2, hB2⟩ := take_ok hi1 hB1 hkE
                    rw [decide_eq_true hwG]
                    have hBv : (if T[i + 1].text = kLt then (0 : Int) else if T[i + 1].text = kEq then 1 else if T[i + 1].text = kGt then 2 else -1) = 2 := by rw [hwG, if_neg hne2, if_neg hne3, if_pos rfl]
                    rw [hBv, if_neg (by decide)] at hP
                    have htk2 := pTake_spec T (i + 1) a 0 hi1 hT.n
                    rw [if_pos hi2] at htk2
                    have hisM := pIs0 T (i + 1 + 1) a hi2 minus hT (wsy (by decide))
                    have hKm := hT.at hi2
                    have hTm := isT_eq (ts := T.drop (i + 1 + 1)) (s := minus) (wsy (by decide)) (by rw [hd_drop hi2]; exact hKm)
                    rw [hd_drop hi2] at hTm
                    unfold signF at hP
                    rw [hTm] at hP
                    conv => whnf
                    refine call1 0 [] rfl rfl rfl rfl (fun _ => htk2) ?_
                    rintro o r ⟨ho, rfl⟩
                    cases ho
                    conv => whnf
                    refine call1 0 [] rfl rfl rfl rfl (fun _ => hisM) ?_
                    rintro o r ⟨ho, rfl⟩
                    cases ho
                    by_cases hwM : T[i + 1 + 1].text = minus
                    · have hkM := kind_ne (wsy (by decide)) hKm hwM
                      obtain ⟨hi3, _⟩ := take_ok hi2 (hT.b hi2) hkM
                      have htk3 := pTake_spec T (i + 1 + 1) a 0 hi2 hT.n
                      rw [if_pos hi3] at htk3
                      rw [decide_eq_true hwM, if_pos rfl] at hP
                      simp only at hP
                      rw [tail_drop, hd_drop hi3, tail_drop] at hP
                      rw [decide_eq_true hwM]
                      conv => whnf
                      refine call1 0 [] rfl rfl rfl rfl (fun _ => htk3) ?_
                      rintro o r ⟨ho, rfl⟩
                      cases ho
                      generalize i + 1 + 1 + 1 = j at *
                      have hKj := hT.b hi3
                      have hgj := hKj.1.good
                      rw [hd_drop hi3] at hgj
                      have htkj := fun hk : T[j].kind ≠ 0 => take_ok hi3 hKj hk
                      have htk := pTake_spec T j a 0 hi3 hT.n
                      have hfl := pFail_spec T j a 0 hi3 10
                      rw [if_pos rfl] at hfl
                      have hrj := rowOf_tks T j hi3
                      generalize T[j] = u at *
                      conv => whnf
                      (refine goA ?_; try with_reducible exact trivial)
                      (generalize hrq : rowOf _ _ (tksL T) = rq; obtain rfl : rq = tkL u := hrq.symm.trans (hrj); clear hrq; conv => whnf)
                      by_cases hk2 : u.kind = 2
                      · obtain ⟨hj2, _⟩ := htkj (by omega)
                        rw [if_pos hj2] at htk
                        rw [if_neg (by simpa using hk2)] at hP
                        obtain ⟨_, _, _, hn1, hn2, _⟩ := hgj
                        rw [decide_eq_true hk2]
                        conv => whnf
                        (refine goA ?_; try with_reducible exact trivial)
                        (generalize hrq : rowOf _ _ (tksL T) = rq; obtain rfl : rq = tkL u := hrq.symm.trans (hrj); clear hrq; conv => whnf)
                        (refine goA ?_; try with_reducible exact trivial)
                        refine call1 0 [] rfl rfl rfl rfl (fun _ => htk) ?_
                        rintro o r ⟨ho, rfl⟩
                        cases ho
                        conv => whnf
                        exact oOk (j + 1) hP.symm hj2 rfl (.inr ⟨rfl, rfl⟩)
                      · rw [if_pos (by simpa using hk2)] at hP
                        rw [decide_eq_false hk2]
                        conv => whnf
                        refine call1 0 [] rfl rfl rfl rfl (fun _ => hfl) ?_
                        rintro o r ⟨ho, rfl⟩
                        cases ho
                        conv => whnf
                        exact oBad hP.symm (by decide) ⟨j, .mk 1 n 2 0 [], hi3, rfl, .inr ⟨rfl, rfl⟩⟩
                    · have hif : (if false = true then ((-1 : Int), (T.drop (i + 1 + 1)).tail) else (1, T.drop (i + 1 + 1))) = (1, T.drop (i + 1 + 1)) := if_neg (by simp)
                      rw [decide_eq_false hwM, hif] at hP
                      simp only at hP
                      rw [hd_drop hi2, tail_drop] at hP
                      rw [decide_eq_false hwM]
                      clear hTm hKm hwM hisM htk2
                      generalize i + 1 + 1 = j at *
                      have hKj := hT.b hi2
                      have hgj := hKj.1.good
                      rw [hd_drop hi2] at hgj
                      have htkj := fun hk : T[j].kind ≠ 0 => take_ok hi2 hKj hk
                      have htk := pTake_spec T j a 0 hi2 hT.n
                      have hfl := pFail_spec T j a 0 hi2 10
                      rw [if_pos rfl] at hfl
                      have hrj := rowOf_tks T j hi2
                      generalize T[j] = u at *
                      conv => whnf
                      (refine goA ?_; try with_reducible exact trivial)
                      (generalize hrq : rowOf _ _ (tksL T) = rq; obtain rfl : rq = tkL u := hrq.symm.trans (hrj); clear hrq; conv => whnf)
                      by_cases hk2 : u.kind = 2
                      · obtain ⟨hj2, _⟩ := htkj (by omega)
                        rw [if_pos hj2] at htk
                        rw [if_neg (by simpa using hk2)] at hP
                        obtain ⟨_, _, _, hn1, hn2, _⟩ := hgj
                        rw [decide_eq_true hk2]
                        conv => whnf
                        (refine goA ?_; try with_reducible exact trivial)
                        (generalize hrq : rowOf _ _ (tksL T) = rq; obtain rfl : rq = tkL u := hrq.symm.trans (hrj); clear hrq; conv => whnf)
                        (refine goA ?_; try with_reducible exact trivial)
                        refine call1 0 [] rfl rfl rfl rfl (fun _ => htk) ?_
                        rintro o r ⟨ho, rfl⟩
                        cases ho
                        conv => whnf
                        exact oOk (j + 1) hP.symm hj2 rfl (.inr ⟨rfl, rfl⟩)
                      · rw [if_pos (by simpa using hk2)] at hP
                        rw [decide_eq_false hk2]
                        conv => whnf
                        refine call1 0 [] rfl rfl rfl rfl (fun _ => hfl) ?_
                        rintro o r ⟨ho, rfl⟩
                        cases ho
                        conv => whnf
                        exact oBad hP.symm (by decide) ⟨j, .mk 1 n 2 0 [], hi2, rfl, .inr ⟨rfl, rfl⟩⟩
                  · rw [decide_eq_false hwG]
                    conv => whnf
                    refine call1 0 [] rfl rfl rfl rfl (fun _ => hisL2) ?_
                    rintro o r ⟨ho, rfl⟩
                    cases ho
                    by_cases hwl : T[i + 1].text = kLt
                    · have hkE := kind_ne (wsy (by decide)) hKu hwl
                      obtain ⟨hi2, hB2⟩ := take_ok hi1 hB1 hkE
                      rw [decide_eq_true hwl]
                      have hBv : (if T[i + 1].text = kLt then (0 : Int) else if T[i + 1].text = kEq then 1 else if T[i + 1].text = kGt then 2 else -1) = 0 := by rw [if_pos hwl]
                      rw [hBv, if_neg (by decide)] at hP
                      have htk2 := pTake_spec T (i + 1) a 0 hi1 hT.n
                      rw [if_pos hi2] at htk2
                      have hisM := pIs0 T (i + 1 + 1) a hi2 minus hT (wsy (by decide))
                      have hKm := hT.at hi2
                      have hTm := isT_eq (ts := T.drop (i + 1 + 1)) (s := minus) (wsy (by decide)) (by rw [hd_drop hi2]; exact hKm)
                      rw [hd_drop hi2] at hTm
                      unfold signF at hP
                      rw [hTm] at hP
                      conv => whnf
                      refine call1 0 [] rfl rfl rfl rfl (fun _ => htk2) ?_
                      rintro o r ⟨ho, rfl⟩
                      cases ho
                      conv => whnf
                      refine call1 0 [] rfl rfl rfl rfl (fun _ => hisM) ?_
                      rintro o r ⟨ho, rfl⟩
                      cases ho
                      by_cases hwM : T[i + 1 + 1].text = minus
                      · have hkM := kind_ne (wsy (by decide)) hKm hwM
                        obtain ⟨hi3, _⟩ := take_ok hi2 (hT.b hi2) hkM
                        have htk3 := pTake_spec T (i + 1 + 1) a 0 hi2 hT.n
                        rw [if_pos hi3] at htk3
                        rw [decide_eq_true hwM, if_pos rfl] at hP
                        simp only at hP
                        rw [tail_drop, hd_drop hi3, tail_drop] at hP
                        rw [decide_eq_true hwM]
                        conv => whnf
                        refine call1 0 [] rfl rfl rfl rfl (fun _ => htk3) ?_
                        rintro o r ⟨ho, rfl⟩
                        cases ho
                        generalize i + 1 + 1 + 1 = j at *
                        have hKj := hT.b hi3
                        have hgj := hKj.1.good
                        rw [hd_drop hi3] at hgj
                        have htkj := fun hk : T[j].kind ≠ 0 => take_ok hi3 hKj hk
                        have htk := pTake_spec T j a 0 hi3 hT.n
                        have hfl := pFail_spec T j a 0 hi3 10
                        rw [if_pos rfl] at hfl
                        have hrj := rowOf_tks T j hi3
                        generalize T[j] = u at *
                        conv => whnf
                        (refine goA ?_; try with_reducible exact trivial)
                        (generalize hrq : rowOf _ _ (tksL T) = rq; obtain rfl : rq = tkL u := hrq.symm.trans (hrj); clear hrq; conv => whnf)
                        by_cases hk2 : u.kind = 2
                        · obtain ⟨hj2, _⟩ := htkj (by omega)
                          rw [if_pos hj2] at htk
                          rw [if_neg (by simpa using hk2)] at hP
                          obtain ⟨_, _, _, hn1, hn2, _⟩ := hgj
                          rw [decide_eq_true hk2]
                          conv => whnf
                          (refine goA ?_; try with_reducible exact trivial)
                          (generalize hrq : rowOf _ _ (tksL T) = rq; obtain rfl : rq = tkL u := hrq.symm.trans (hrj); clear hrq; conv => whnf)
                          (refine goA ?_; try with_reducible exact trivial)
                          refine call1 0 [] rfl rfl rfl rfl (fun _ => htk) ?_
                          rintro o r ⟨ho, rfl⟩
                          cases ho
                          conv => whnf
                          exact oOk (j + 1) hP.symm hj2 rfl (.inr ⟨rfl, rfl⟩)
                        · rw [if_pos (by simpa using hk2)] at hP
                          rw [decide_eq_false hk2]
                          conv => whnf
                          refine call1 0 [] rfl rfl rfl rfl (fun _ => hfl) ?_
                          rintro o r ⟨ho, rfl⟩
                          cases ho
                          conv => whnf
                          exact oBad hP.symm (by decide) ⟨j, .mk 1 n 0 0 [], hi3, rfl, .inr ⟨rfl, rfl⟩⟩
                      · have hif : (if false = true then ((-1 : Int), (T.drop (i + 1 + 1)).tail) else (1, T.drop (i + 1 + 1))) = (1, T.drop (i + 1 + 1)) := if_neg (by simp)
                        rw [decide_eq_false hwM, hif] at hP
                        simp only at hP
                        rw [hd_drop hi2, tail_drop] at hP
                        rw [decide_eq_false hwM]
                        clear hTm hKm hwM hisM htk2
                        generalize i + 1 + 1 = j at *
                        have hKj := hT.b hi2
                        have hgj := hKj.1.good
                        rw [hd_drop hi2] at hgj
                        have htkj := fun hk : T[j].kind ≠ 0 => take_ok hi2 hKj hk
                        have htk := pTake_spec T j a 0 hi2 hT.n
                        have hfl := pFail_spec T j a 0 hi2 10
                        rw [if_pos rfl] at hfl
                        have hrj := rowOf_tks T j hi2
                        generalize T[j] = u at *
                        conv => whnf
                        (refine goA ?_; try with_reducible exact trivial)
                        (generalize hrq : rowOf _ _ (tksL T) = rq; obtain rfl : rq = tkL u := hrq.symm.trans (hrj); clear hrq; conv => whnf)
                        by_cases hk2 : u.kind = 2
                        · obtain ⟨hj2, _⟩ := htkj (by omega)
                          rw [if_pos hj2] at htk
                          rw [if_neg (by simpa using hk2)] at hP
                          obtain ⟨_, _, _, hn1, hn2, _⟩ := hgj
                          rw [decide_eq_true hk2]
                          conv => whnf
                          (refine goA ?_; try with_reducible exact trivial)
                          (generalize hrq : rowOf _ _ (tksL T) = rq; obtain rfl : rq = tkL u := hrq.symm.trans (hrj); clear hrq; conv => whnf)
                          (refine goA ?_; try with_reducible exact trivial)
                          refine call1 0 [] rfl rfl rfl rfl (fun _ => htk) ?_
                          rintro o r ⟨ho, rfl⟩
                          cases ho
                          conv => whnf
                          exact oOk (j + 1) hP.symm hj2 rfl (.inr ⟨rfl, rfl⟩)
                        · rw [if_pos (by simpa using hk2)] at hP
                          rw [decide_eq_false hk2]
                          conv => whnf
                          refine call1 0 [] rfl rfl rfl rfl (fun _ => hfl) ?_
                          rintro o r ⟨ho, rfl⟩
                          cases ho
                          conv => whnf
                          exact oBad hP.symm (by decide) ⟨j, .mk 1 n 0 0 [], hi2, rfl, .inr ⟨rfl, rfl⟩⟩
                    · rw [decide_eq_false hwl]
                      rw [if_neg hwl, if_neg hwE, if_neg hwG, if_pos (by decide)] at hP
                      have hfl1 := pFail_spec T (i + 1) a 0 hi1 10
                      rw [if_pos rfl] at hfl1
                      conv => whnf
                      refine call1 0 [] rfl rfl rfl rfl (fun _ => hfl1) ?_
                      rintro o r ⟨ho, rfl⟩
                      cases ho
                      conv => whnf
                      exact oBad hP.symm (by decide) ⟨i + 1, .mk 1 n 0 0 [], hi1, rfl, .inr ⟨rfl, rfl⟩⟩
end Go.Proofs.YtpjcbadnpknncaaGreatDoor.Vm
/- The reference's parser: chain, list. -/
namespace Go.Proofs.YtpjcbadnpknncaaGreatDoor.Vm
open Go.RowKit Go.Shelf
set_option linter.unusedSimpArgs false
set_option linter.unusedVariables false
set_option maxRecDepth 100000
set_option maxHeartbeats 2000000 in
theorem chain_ok {T : List Tk} (hT : KTs T) {lv : Int} {low : Option Pr} (hlo : LowR T lv low) : OkS T 54 lv (chG (unG low) low) := by
  intro i a hi hB
  have hun := unary_ok hT hlo i a hi hB
  obtain ⟨hlv, hlo⟩ := hlo
  obtain ⟨P, hP⟩ : ∃ P, chG (unG low) low (T.drop i) = P := ⟨_, rfl⟩
  rw [hP]
  unfold chG at hP
  have hlvb : lv ≤ 20 := by
    rcases hlo with h | ⟨_, _, h, _⟩
    · omega
    · omega
  refine Spec.weaken (post := OPost0 T a P) ?_ fun o r k => oPost_wk k
  refine spec_of (cx_ok ord54 (fun _ => [0]) 1) (fun _ _ h => h) Tryz.func54 rfl (by kernel_rfl) rfl (by kernel_rfl) ?_
  intro _
  conv => whnf
  refine call1 0 [] rfl rfl rfl rfl (fun _ => hun) ?_
  rintro o r hpo
  cases hp : unG low (T.drop i) with
  | bad x e =>
    rw [hp] at hP hpo
    obtain ⟨he, i', g, hi', ho, rfl⟩ := hpo
    cases ho
    have his := pIs_spec T i' x e hi' kUntil
    rw [decide_eq_false he, Bool.false_and] at his
    conv => whnf
    refine call1 0 [] rfl rfl rfl rfl (fun _ => his) ?_
    rintro o r ⟨ho, rfl⟩
    cases ho
    conv => whnf
    exact oBad hP.symm he ⟨i', g, hi', rfl, .inl rfl⟩
  | ok f r1 =>
    rw [hp] at hP hpo
    obtain ⟨j, hj, hr1, ho, rfl⟩ := hpo
    cases ho
    subst hr1
    simp only at hP
    have hKj := hT.at hj
    have hBj := hT.b hj
    have hgd : T.getD j tk0 = T[j] := by rw [List.getD_eq_getElem?_getD, List.getElem?_eq_getElem hj]; rfl
    rw [isT_eq (s := kUntil) (wsy (by decide)) (by rw [hd_drop hj]; exact hKj), hd_drop hj, tail_drop] at hP
    have his := pIs0 T j a hj kUntil hT (wsy (by decide))
    conv => whnf
    refine call1 0 [] rfl rfl rfl rfl (fun _ => his) ?_
    rintro o r ⟨ho, rfl⟩
    cases ho
    by_cases hw : T[j].text = kUntil
    · have hk := kind_ne (wsy (by decide)) hKj hw
      obtain ⟨hj1, hB1⟩ := take_ok hj hBj hk
      rw [decide_eq_true hw, if_pos rfl] at hP
      rw [decide_eq_true hw]
      conv => whnf
      (refine goA ?_; try with_reducible exact trivial)
      rcases hlo with ⟨rfl, rfl⟩ | ⟨p, rfl, hle, su, sc, sf⟩
      · simp only at hP
        have hop := pOpen_spec T j a 0 hj hT.n (20 + 1)
        rw [show opnP T j a 0 (20 + 1) = bxP T j T[j].pos 2 by unfold opnP; rw [if_pos rfl, if_pos (by decide), hgd]] at hop
        generalize (T[j].pos : Int) = tp at *
        refine call1 0 [] rfl rfl rfl rfl (fun _ => hop) ?_
        rintro o r ⟨ho, rfl⟩
        cases ho
        conv => whnf
        (refine goA ?_; try with_reducible exact trivial)
        refine call1 0 [] rfl rfl rfl rfl (fun _ => cErr T j tp 2 (20 + 1) hj (by decide)) ?_
        rintro o r ⟨i', g, hi', ho, rfl⟩
        cases ho
        conv => whnf
        (refine call0 [] rfl (fun _ => rBoth 6 f g) ?_; rintro r rfl; conv => whnf)
        exact oBad hP.symm (by decide) ⟨i', _, hi', rfl, .inl rfl⟩
      · simp only at hP
        have hop := pOpen_spec T j a 0 hj hT.n (lv + 1)
        rw [show opnP T j a 0 (lv + 1) = bxP T (j + 1) a 0 by unfold opnP; rw [if_pos rfl, if_neg (by omega), if_pos hj1]] at hop
        refine call1 0 [] rfl rfl rfl rfl (fun _ => hop) ?_
        rintro o r ⟨ho, rfl⟩
        cases ho
        have hsc := sc (j + 1) a hj1 hB1
        conv => whnf
        (refine goA ?_; try with_reducible exact trivial)
        refine call1 0 [] rfl rfl rfl rfl (fun _ => hsc) ?_
        rintro o r hpo
        cases hp2 : p.ch (T.drop (j + 1)) with
        | ok g r2 =>
          rw [hp2] at hP hpo
          obtain ⟨i', hi', hr2, ho, rfl⟩ := hpo
          cases ho
          subst hr2
          conv => whnf
          (refine call0 [] rfl (fun _ => rBoth 6 f g) ?_; rintro r rfl; conv => whnf)
          exact oOk i' hP.symm hi' rfl (.inl rfl)
        | bad x e =>
          rw [hp2] at hP hpo
          obtain ⟨he, i', g, hi', ho, rfl⟩ := hpo
          cases ho
          conv => whnf
          (refine call0 [] rfl (fun _ => rBoth 6 f g) ?_; rintro r rfl; conv => whnf)
          exact oBad hP.symm he ⟨i', _, hi', rfl, .inl rfl⟩
    · rw [decide_eq_false hw, if_neg (by simp)] at hP
      rw [decide_eq_false hw]
      conv => whnf
      exact oOk j hP.symm hj rfl (.inl rfl)
/-- The end of a list. -/
theorem finL_more (kind : Int) (f1 f : Fm) (l : List Fm) (r : List Tk) : finL kind (.ok (f1 :: l ++ [f]) r) = .ok (.mk kind 0 0 0 (f1 :: l ++ [f])) r := by cases l <;> rfl
set_option maxHeartbeats 2000000 in
theorem list3_ok {T : List Tk} (hT : KTs T) {lv : Int} {op : List Tk → Ps} (hgo : Goes op) (hop : OkS T 54 lv op) : OkL T lv 3 kAnd (liF op 3 kAnd) := by
  intro i a hi hB
  obtain ⟨P, hP⟩ : ∃ P, liF op 3 kAnd (T.drop i) = P := ⟨_, rfl⟩
  rw [hP]
  unfold liF at hP
  refine Spec.weaken (post := OPost0 T a P) ?_ fun o r k => oPost_wk k
  refine spec_of (cx_ok ord0 (fun _ => [0]) 1) (fun _ _ h => h) Tryz.func36 rfl (by kernel_rfl) rfl (by kernel_rfl) ?_
  intro _
  conv => whnf
  refine loop_row 25 5 [9] [] ?_
  conv => whnf
  refine ⟨trivial, ?_⟩
  conv => whnf
  refine loop_keep [0, 1, 2, 3, 8, 9] ?_
  conv => whnf
  obtain ⟨n0, hn0, hn1⟩ : ∃ n0, (∀ f r, op (T.drop i) = .ok f r → r.length ≤ n0 ∧ finL 3 (liGo op kAnd n0 ([] ++ [f]) r) = P) ∧ (∀ x e, op (T.drop i) = .bad x e → P = .bad x e) := by
    cases hp : op (T.drop i) with
    | ok f r =>
      rw [hp] at hP
      exact ⟨r.length, (fun f' r' h => by cases h; exact ⟨Nat.le_refl _, hP⟩), (fun x e h => by cases h)⟩
    | bad x e =>
      rw [hp] at hP
      exact ⟨0, (fun f' r' h => by cases h), (fun x e h => by cases h; exact hP.symm)⟩
  refine loop_goQ (fun _ : Nat × List Fm × Nat => []) (fun x => [bxP T x.2.2 a 0, zero5]) (fun x => [.live 25 5 x.2.1.length (fmsA x.2.1)]) (fun x => x.2.2 < T.length ∧ x.2.1.length ≤ x.2.2 ∧ (∀ f r, op (T.drop x.2.2) = .ok f r → r.length ≤ x.1 ∧ finL 3 (liGo op kAnd x.1 (x.2.1 ++ [f]) r) = P) ∧ (∀ x2 e, op (T.drop x.2.2) = .bad x2 e → P = .bad x2 e)) (fun x => T.length - x.2.2) (n0, [], i) ?_ ⟨hi, Nat.zero_le _, hn0, hn1⟩ ?_
  · unfold headQ
    repeat' constructor
    · show [Row.live _ _ _ _] = [Row.live _ _ _ _]
      rw [fmsA_nil]; rfl
  · clear hP hn0 hn1 hB
    rintro ⟨n, acc, k⟩ ⟨hk, hak, hk1, hk2⟩
    simp only at hk hak hk1 hk2
    have hTn := hT.n
    have hsp := hop k a hk (hT.b hk)
    conv => whnf
    refine call1 0 [] rfl rfl rfl rfl (fun _ => hsp) ?_
    rintro o r hpo
    cases hp : op (T.drop k) with
    | ok f r1 =>
      rw [hp] at hpo
      obtain ⟨h1, h2⟩ := hk1 f r1 hp
      obtain ⟨j, hj, hr1, ho, rfl⟩ := hpo
      cases ho
      subst hr1
      have hKj := hT.at hj
      have hBj := hT.b hj
      have his := pIs0 T j a hj kAnd hT (wsy (by decide))
      have hgl := (hgo _ _ _ (hT.b hk) hp).2
      rw [List.length_drop, List.length_drop] at hgl
      conv => whnf
      refine ⟨⟨by simp only; unfold maxLen; omega, by simp only; omega⟩, ?_⟩
      conv => whnf
      refine call1 0 [] rfl rfl rfl rfl (fun _ => his) ?_
      rintro o r ⟨ho, rfl⟩
      cases ho
      by_cases hw : T[j].text = kAnd
      · have hkn := kind_ne (wsy (by decide)) hKj hw
        obtain ⟨hj1, hB1⟩ := take_ok hj hBj hkn
        have htk := pTake_spec T j a 0 hj hT.n
        rw [if_pos hj1] at htk
        rw [decide_eq_true hw]
        conv => whnf
        refine call1 0 [] rfl rfl rfl rfl (fun _ => htk) ?_
        rintro o r ⟨ho, rfl⟩
        cases ho
        conv => whnf
        rw [List.length_drop] at h1
        obtain ⟨m, rfl⟩ : ∃ m, n = m + 1 := ⟨n - 1, by omega⟩
        rw [liGo, isT_eq (s := kAnd) (wsy (by decide)) (by rw [hd_drop hj]; exact hKj), hd_drop hj, decide_eq_true hw, if_pos rfl, tail_drop] at h2
        refine ⟨(m, acc ++ [f], j + 1), le_head ?_, ⟨hj1, ?_, fun f' r' h => ?_, fun x e h => ?_⟩, by simp only; omega⟩
        · repeat' constructor
          · simp only [List.length_append, List.length_cons, List.length_nil]
            rw [fmsA_snoc]; rfl
        · simp only [List.length_append, List.length_cons, List.length_nil]; omega
        · simp only at h
          have hg2 := (hgo _ _ _ hB1 h).2
          rw [List.length_drop] at hg2
          rw [h] at h2
          exact ⟨by simp only; omega, h2⟩
        · simp only at h
          rw [h] at h2
          exact h2.symm
      · have hlg : liGo op kAnd n (acc ++ [f]) (T.drop j) = .ok (acc ++ [f]) (T.drop j) := by
          cases n with
          | zero => rfl
          | succ m => rw [liGo, isT_eq (s := kAnd) (wsy (by decide)) (by rw [hd_drop hj]; exact hKj), hd_drop hj, decide_eq_false hw, if_neg (by simp)]
        rw [hlg] at h2
        rw [decide_eq_false hw]
        rcases acc with _ | ⟨f1, acc⟩
        · have e2 : fmsA [] ++ fmA f = fmA f := by rw [fmsA_nil]; rfl
          conv => whnf
          (refine goA ?_; try with_reducible exact trivial)
          rw [fmsA_nil]
          conv => whnf
          exact oOk j h2.symm hj rfl (.inl rfl)
        · have e3 : fmsA (f1 :: acc) ++ fmA f = fmsA (f1 :: acc ++ [f]) := by rw [fmsA_snoc]
          have e4 : (f1 :: acc ++ [f]).length = (f1 :: acc).length + 1 := by simp
          have e5 : 1 ≤ (f1 :: acc).length := by simp
          rw [finL_more] at h2
          generalize hL : f1 :: acc ++ [f] = L at *
          generalize (f1 :: acc).length = q at *
          conv => whnf
          (refine goA ?_; try with_reducible exact trivial)
          refine oOk j h2.symm hj rfl (.inl ?_)
          rw [fmA_mk, e4, ← e3]; rfl
    | bad x e =>
      rw [hp] at hpo
      have h2 := hk2 x e hp
      obtain ⟨he, j, f, hj, ho, rfl⟩ := hpo
      cases ho
      have his := pIs_spec T j x e hj kAnd
      rw [decide_eq_false he, Bool.false_and] at his
      conv => whnf
      refine ⟨⟨by simp only; unfold maxLen; omega, by simp only; omega⟩, ?_⟩
      conv => whnf
      refine call1 0 [] rfl rfl rfl rfl (fun _ => his) ?_
      rintro o r ⟨ho, rfl⟩
      cases ho
      rcases acc with _ | ⟨f1, acc⟩
      · have e2 : fmsA [] ++ fmA f = fmA f := by rw [fmsA_nil]; rfl
        conv => whnf
        (refine goA ?_; try with_reducible exact trivial)
        rw [fmsA_nil]
        conv => whnf
        exact oBad h2 he ⟨j, f, hj, rfl, .inl rfl⟩
      · have e3 : fmsA (f1 :: acc) ++ fmA f = fmsA (f1 :: acc ++ [f]) := by rw [fmsA_snoc]
        have e4 : (f1 :: acc ++ [f]).length = (f1 :: acc).length + 1 := by simp
        have e5 : 1 ≤ (f1 :: acc).length := by simp
        generalize hL : f1 :: acc ++ [f] = L at *
        generalize (f1 :: acc).length = q at *
        conv => whnf
        (refine goA ?_; try with_reducible exact trivial)
        refine oBad h2 he ⟨j, .mk 3 0 0 0 L, hj, rfl, .inl ?_⟩
        rw [fmA_mk, e4, ← e3]; rfl
set_option maxHeartbeats 2000000 in
theorem list4_ok {T : List Tk} (hT : KTs T) {lv : Int} {op : List Tk → Ps} (hgo : Goes op) (hop : OkL T lv 3 kAnd op) : OkL T lv 4 kOr (liF op 4 kOr) := by
  intro i a hi hB
  obtain ⟨P, hP⟩ : ∃ P, liF op 4 kOr (T.drop i) = P := ⟨_, rfl⟩
  rw [hP]
  unfold liF at hP
  refine Spec.weaken (post := OPost0 T a P) ?_ fun o r k => oPost_wk k
  refine spec_of (cx_ok ord0 (fun _ => [0]) 1) (fun _ _ h => h) Tryz.func36 rfl (by kernel_rfl) rfl (by kernel_rfl) ?_
  intro _
  conv => whnf
  refine loop_row 25 5 [9] [] ?_
  conv => whnf
  refine ⟨trivial, ?_⟩
  conv => whnf
  refine loop_keep [0, 1, 2, 3, 8, 9] ?_
  conv => whnf
  obtain ⟨n0, hn0, hn1⟩ : ∃ n0, (∀ f r, op (T.drop i) = .ok f r → r.length ≤ n0 ∧ finL 4 (liGo op kOr n0 ([] ++ [f]) r) = P) ∧ (∀ x e, op (T.drop i) = .bad x e → P = .bad x e) := by
    cases hp : op (T.drop i) with
    | ok f r =>
      rw [hp] at hP
      exact ⟨r.length, (fun f' r' h => by cases h; exact ⟨Nat.le_refl _, hP⟩), (fun x e h => by cases h)⟩
    | bad x e =>
      rw [hp] at hP
      exact ⟨0, (fun f' r' h => by cases h), (fun x e h => by cases h; exact hP.symm)⟩
  refine loop_goQ (fun _ : Nat × List Fm × Nat => []) (fun x => [bxP T x.2.2 a 0, zero5]) (fun x => [.live 25 5 x.2.1.length (fmsA x.2.1)]) (fun x => x.2.2 < T.length ∧ x.2.1.length ≤ x.2.2 ∧ (∀ f r, op (T.drop x.2.2) = .ok f r → r.length ≤ x.1 ∧ finL 4 (liGo op kOr x.1 (x.2.1 ++ [f]) r) = P) ∧ (∀ x2 e, op (T.drop x.2.2) = .bad x2 e → P = .bad x2 e)) (fun x => T.length - x.2.2) (n0, [], i) ?_ ⟨hi, Nat.zero_le _, hn0, hn1⟩ ?_
  · unfold headQ
    repeat' constructor
    · show [Row.live _ _ _ _] = [Row.live _ _ _ _]
      rw [fmsA_nil]; rfl
  · clear hP hn0 hn1 hB
    rintro ⟨n, acc, k⟩ ⟨hk, hak, hk1, hk2⟩
    simp only at hk hak hk1 hk2
    have hTn := hT.n
    have hsp := hop k a hk (hT.b hk)
    conv => whnf
    refine call1 0 [] rfl rfl rfl rfl (fun _ => hsp) ?_
    rintro o r hpo
    cases hp : op (T.drop k) with
    | ok f r1 =>
      rw [hp] at hpo
      obtain ⟨h1, h2⟩ := hk1 f r1 hp
      obtain ⟨j, hj, hr1, ho, rfl⟩ := hpo
      cases ho
      subst hr1
      have hKj := hT.at hj
      have hBj := hT.b hj
      have his := pIs0 T j a hj kOr hT (wsy (by decide))
      have hgl := (hgo _ _ _ (hT.b hk) hp).2
      rw [List.length_drop, List.length_drop] at hgl
      conv => whnf
      refine ⟨⟨by simp only; unfold maxLen; omega, by simp only; omega⟩, ?_⟩
      conv => whnf
      refine call1 0 [] rfl rfl rfl rfl (fun _ => his) ?_
      rintro o r ⟨ho, rfl⟩
      cases ho
      by_cases hw : T[j].text = kOr
      · have hkn := kind_ne (wsy (by decide)) hKj hw
        obtain ⟨hj1, hB1⟩ := take_ok hj hBj hkn
        have htk := pTake_spec T j a 0 hj hT.n
        rw [if_pos hj1] at htk
        rw [decide_eq_true hw]
        conv => whnf
        refine call1 0 [] rfl rfl rfl rfl (fun _ => htk) ?_
        rintro o r ⟨ho, rfl⟩
        cases ho
        conv => whnf
        rw [List.length_drop] at h1
        obtain ⟨m, rfl⟩ : ∃ m, n = m + 1 := ⟨n - 1, by omega⟩
        rw [liGo, isT_eq (s := kOr) (wsy (by decide)) (by rw [hd_drop hj]; exact hKj), hd_drop hj, decide_eq_true hw, if_pos rfl, tail_drop] at h2
        refine ⟨(m, acc ++ [f], j + 1), le_head ?_, ⟨hj1, ?_, fun f' r' h => ?_, fun x e h => ?_⟩, by simp only; omega⟩
        · repeat' constructor
          · simp only [List.length_append, List.length_cons, List.length_nil]
            rw [fmsA_snoc]; rfl
        · simp only [List.length_append, List.length_cons, List.length_nil]; omega
        · simp only at h
          have hg2 := (hgo _ _ _ hB1 h).2
          rw [List.length_drop] at hg2
          rw [h] at h2
          exact ⟨by simp only; omega, h2⟩
        · simp only at h
          rw [h] at h2
          exact h2.symm
      · have hlg : liGo op kOr n (acc ++ [f]) (T.drop j) = .ok (acc ++ [f]) (T.drop j) := by
          cases n with
          | zero => rfl
          | succ m => rw [liGo, isT_eq (s := kOr) (wsy (by decide)) (by rw [hd_drop hj]; exact hKj), hd_drop hj, decide_eq_false hw, if_neg (by simp)]
        rw [hlg] at h2
        rw [decide_eq_false hw]
        rcases acc with _ | ⟨f1, acc⟩
        · have e2 : fmsA [] ++ fmA f = fmA f := by rw [fmsA_nil]; rfl
          conv => whnf
          (refine goA ?_; try with_reducible exact trivial)
          rw [fmsA_nil]
          conv => whnf
          exact oOk j h2.symm hj rfl (.inl rfl)
        · have e3 : fmsA (f1 :: acc) ++ fmA f = fmsA (f1 :: acc ++ [f]) := by rw [fmsA_snoc]
          have e4 : (f1 :: acc ++ [f]).length = (f1 :: acc).length + 1 := by simp
          have e5 : 1 ≤ (f1 :: acc).length := by simp
          rw [finL_more] at h2
          generalize hL : f1 :: acc ++ [f] = L at *
          generalize (f1 :: acc).length = q at *
          conv => whnf
          (refine goA ?_; try with_reducible exact trivial)
          refine oOk j h2.symm hj rfl (.inl ?_)
          rw [fmA_mk, e4, ← e3]; rfl
    | bad x e =>
      rw [hp] at hpo
      have h2 := hk2 x e hp
      obtain ⟨he, j, f, hj, ho, rfl⟩ := hpo
      cases ho
      have his := pIs_spec T j x e hj kOr
      rw [decide_eq_false he, Bool.false_and] at his
      conv => whnf
      refine ⟨⟨by simp only; unfold maxLen; omega, by simp only; omega⟩, ?_⟩
      conv => whnf
      refine call1 0 [] rfl rfl rfl rfl (fun _ => his) ?_
      rintro o r ⟨ho, rfl⟩
      cases ho
      rcases acc with _ | ⟨f1, acc⟩
      · have e2 : fmsA [] ++ fmA f = fmA f := by rw [fmsA_nil]; rfl
        conv => whnf
        (refine goA ?_; try with_reducible exact trivial)
        rw [fmsA_nil]
        conv => whnf
        exact oBad h2 he ⟨j, f, hj, rfl, .inl rfl⟩
      · have e3 : fmsA (f1 :: acc) ++ fmA f = fmsA (f1 :: acc ++ [f]) := by rw [fmsA_snoc]
        have e4 : (f1 :: acc ++ [f]).length = (f1 :: acc).length + 1 := by simp
        have e5 : 1 ≤ (f1 :: acc).length := by simp
        generalize hL : f1 :: acc ++ [f] = L at *
        generalize (f1 :: acc).length = q at *
        conv => whnf
        (refine goA ?_; try with_reducible exact trivial)
        refine oBad h2 he ⟨j, .mk 4 0 0 0 L, hj, rfl, .inl ?_⟩
        rw [fmA_mk, e4, ← e3]; rfl
theorem low_ok {T : List Tk} (hT : KTs T) : ∀ (d : Nat) (lv : Int), lv + d = 20 → 0 ≤ lv → LowR T lv (match d with | 0 => none | d + 1 => some (pr d)) ∧ OkS T 84 lv (pr d).un ∧ OkS T 54 lv (pr d).ch ∧ OkL T lv 4 kOr (pr d).fo
  | 0, lv, h, h0 => by
    have hlo : LowR T lv none := ⟨h0, .inl ⟨rfl, by omega⟩⟩
    have hc := chain_ok hT hlo
    exact ⟨hlo, unary_ok hT hlo, hc, list4_ok hT (li_goes (pr_goes 0).2.1) (list3_ok hT (pr_goes 0).2.1 hc)⟩
  | d + 1, lv, h, h0 => by
    obtain ⟨_, k1, k2, k3⟩ := low_ok hT d (lv + 1) (by omega) (by omega)
    have hlo : LowR T lv (some (pr d)) := ⟨h0, .inr ⟨pr d, rfl, by omega, k1, k2, k3⟩⟩
    have hc := chain_ok hT hlo
    exact ⟨hlo, unary_ok hT hlo, hc, list4_ok hT (li_goes (pr_goes (d + 1)).2.1) (list3_ok hT (pr_goes (d + 1)).2.1 hc)⟩
end Go.Proofs.YtpjcbadnpknncaaGreatDoor.Vm
/- The reference's Parse: the same as Parse. -/
namespace Go.Proofs.YtpjcbadnpknncaaGreatDoor.Vm
open Go.RowKit Go.Shelf
set_option linter.unusedSimpArgs false
set_option linter.unusedVariables false
set_option maxRecDepth 100000
theorem numG_mono : ∀ (l : List UInt8) {n m : Nat}, n ≤ m → numG n l ≤ numG m l
  | [], n, m, h => h
  | c :: l, n, m, h => numG_mono l (by omega)
theorem drop_short {s : ByteArray} (h : s.size ≤ 10) : smallD (s.data.toList.drop 1) := by
  have h2 := size_len s
  exact small_short (by rw [List.length_drop]; omega)
theorem tok_kt {l : List UInt8} {k : Int} {len : Nat} {n : Int} {p : Nat} (h : tokF l = .tok k len n) : KT ⟨k, p, bs (l.take len), n⟩ := by
  have hle := tokF_len h
  have hsz : (bs (l.take len)).size = len := take_size l len hle.2
  unfold KT
  simp only
  cases l with
  | nil => simp [tokF] at h
  | cons c r =>
    have htx : ∀ m, len = m + 1 → (bs ((c :: r).take len)).data.toList = c :: r.take m := fun m hm => by rw [bs_list, hm, List.take_succ_cons]
    cases hL : isL c
    · have hne : c ≠ 118 := fun e => by subst e; simp [isL] at hL
      have hno : ∀ m, len = m + 1 → ∀ r', (bs ((c :: r).take len)).data.toList = 118 :: r' → k = 1 := fun m hm r' h => by
        rw [htx m hm] at h
        exact absurd (List.cons.inj h).1 hne
      cases hD : isD c
      · have h3 : k = 3 ∧ (len = 1 ∨ len = 2) := by
          cases h3 : hasF twos (bs ((c :: r).take 2))
          · cases h4 : hasF ones (bs [c])
            · simp only [tokF, hL, hD, h3, h4] at h
              cases h
            · simp only [tokF, hL, hD, h3, h4] at h
              cases h; exact ⟨rfl, .inl rfl⟩
          · simp only [tokF, hL, hD, h3] at h
            cases h; exact ⟨rfl, .inr rfl⟩
        exact ⟨.inl (.inr h3.1), hno (len - 1) (by omega), drop_short (by omega)⟩
      · simp only [tokF, hL, hD] at h
        split at h
        · cases h
        · rename_i hv
          cases h
          refine ⟨.inr (.inr ⟨rfl, c, r.take (spanN isD r), htx _ rfl, hD⟩), hno _ rfl, ?_⟩
          rw [htx _ rfl]
          intro j hj hd
          have h0 : allD (c :: r.take (spanN isD r)) = true := by
            simp only [allD, List.all_cons, hD, Bool.true_and]
            exact allD_span r
          have := numG_valF (c :: r.take (spanN isD r)) 0 (j + 1) (by simpa using hv) h0 (by omega)
          rw [List.take_succ_cons] at this
          have h2 := numG_mono ((r.take (spanN isD r)).take j) (show 0 ≤ 10 * 0 + (c.toNat - 48) by omega)
          show numG 0 ((r.take (spanN isD r)).take j) ≤ _
          exact Nat.le_trans h2 (Nat.le_trans this (by omega))
    · simp only [tokF, hL] at h
      split at h
      · cases h
      · cases h
        exact ⟨.inl (.inl rfl), fun _ _ => rfl, drop_short (by omega)⟩
theorem lexG_kt : ∀ (f p : Nat) (l : List UInt8), ∀ t ∈ (lexG f p l).toks, KT t
  | 0, p, l => by simp [lexG]
  | f + 1, p, [] => by simp [lexG]
  | f + 1, p, c :: r => by
    rw [lexG]
    split
    · exact lexG_kt f _ _
    · split
      · exact lexG_kt f _ _
      · cases ht : tokF (c :: r) with
        | bad e => simp
        | tok k len n =>
          intro t hm
          simp only [Lx.cons, List.mem_cons] at hm
          rcases hm with rfl | hm
          · exact tok_kt ht
          · exact lexG_kt f _ _ t hm
theorem row_kts {s : ByteArray} (hs : s.size ≤ 3000) (he : (lexF' s).err = none) : KTs (rowT s) := by
  have hb := row_tkB hs he
  refine ⟨fun t ht => ?_, hb.2, hb.1⟩
  rw [rowT_none he, List.mem_append] at ht
  rcases ht with ht | ht
  · exact lexG_kt _ _ _ t ht
  · rw [List.mem_singleton.1 ht]
    refine ⟨.inr (.inl ⟨rfl, rfl⟩), fun r h => ?_, drop_short (by show (⟨#[]⟩ : ByteArray).size ≤ _; decide)⟩
    simp [endTk] at h
def xsP (id : Nat) : List Nat := match Nat.beq id 11 with
  | true => [0]
  | false => []
set_option maxHeartbeats 2000000 in
theorem rParse_spec (s : ByteArray) (hs : s.size ≤ 1000000000) : Spec Tryz.prog 17 [] [strA s] fun _ r => r = parR0 (parseF s) := by
  obtain ⟨R, hR⟩ : ∃ R, parseF s = R := ⟨_, rfl⟩
  rw [hR]
  unfold parseF at hR
  have htk := rtokens_spec s hs
  refine spec_of (cx_ok ord17 xsP 0) (fun _ _ h => h) Tryz.func17 rfl (by kernel_rfl) rfl (by kernel_rfl) ?_
  intro hok
  conv => whnf
  by_cases hbig : 3000 < s.size
  · rw [if_pos hbig] at hR
    (refine goA ?_; try with_reducible exact trivial)
    subst hR
    rfl
  · rw [if_neg hbig] at hR
    unfold lexR at htk
    cases herr : (lexF' s).err with
    | some pe =>
      obtain ⟨p, e⟩ := pe
      rw [herr] at hR htk
      simp only at hR htk
      have hne := (lexG_ok (s.data.toList.length + 1) 0 s.data.toList).2 p e herr
      (refine goA ?_; try with_reducible exact trivial)
      (refine call0 [] rfl (fun _ => htk) ?_; rintro r rfl; conv => whnf)
      rw [decide_eq_false hne.2.1]
      conv => whnf
      subst hR
      rfl
    | none =>
      rw [herr] at hR htk
      simp only at hR htk
      have hK := row_kts (by omega) herr
      rw [← rowT_none herr, show (lexF' s).toks.length + 1 = (rowT s).length by rw [rowT_none herr]; simp] at htk
      unfold parseT at hR
      generalize rowT s = T at *
      have h0 : 0 < T.length := hK.w.pos
      have hl := (low_ok hK 20 0 (by omega) (by omega)).2.2.2 0 0 h0 (hK.b h0)
      rw [List.drop_zero] at hl
      (refine goA ?_; try with_reducible exact trivial)
      (refine call0 [] rfl (fun _ => htk) ?_; rintro r rfl; conv => whnf)
      refine call1 1 [] rfl rfl rfl rfl (fun _ => hl) ?_
      rintro o r hpo
      cases hp : (pr 20).fo T with
      | bad x e =>
        rw [hp] at hR hpo
        obtain ⟨he, i', g, hi', ho, rfl⟩ := hpo
        cases ho
        simp only at hR
        conv => whnf
        rw [decide_eq_false he]
        conv => whnf
        rw [decide_eq_false he]
        conv => whnf
        subst hR
        rfl
      | ok f r1 =>
        rw [hp] at hR hpo
        obtain ⟨j, hj, hr1, ho, rfl⟩ := hpo
        cases ho
        subst hr1
        simp only at hR
        have hrow := rowOf_tks T j hj
        have hfl := pFail_spec T j 0 0 hj 10
        rw [if_pos rfl] at hfl
        rw [hd_drop hj] at hR
        generalize T[j] = u at *
        conv => whnf
        (refine goA ?_; try with_reducible exact trivial)
        (generalize hrq : rowOf _ _ (tksL T) = rq; obtain rfl : rq = tkL u := hrq.symm.trans (hrow); clear hrq; conv => whnf)
        by_cases hk : u.kind = 0
        · rw [if_neg (by simpa using hk)] at hR
          rw [decide_eq_true hk]
          conv => whnf
          (refine goA ?_; try with_reducible exact trivial)
          subst hR
          rfl
        · rw [if_pos (by simpa using hk)] at hR
          rw [decide_eq_false hk]
          conv => whnf
          refine call1 1 [] rfl rfl rfl rfl (fun _ => hfl) ?_
          rintro o r ⟨ho, rfl⟩
          cases ho
          conv => whnf
          (refine goA ?_; try with_reducible exact trivial)
          subst hR
          rfl
end Go.Proofs.YtpjcbadnpknncaaGreatDoor.Vm
/- The reference: Equal, Same, join. -/
namespace Go.Proofs.YtpjcbadnpknncaaGreatDoor.Vm
open Go.RowKit Go.Shelf
set_option linter.unusedSimpArgs false
set_option linter.unusedVariables false
set_option maxRecDepth 100000
def REq (f g : Fm) : Prop := Spec Tryz.prog 14 [] [.agg (fmA f), .agg (fmA g)] fun _ r => r = boolA (eqM f g)
theorem rEq_raw (k a b n k' a' b' n' : Int) (l l' : List Fm) (ih : ∀ f ∈ l, ∀ g ∈ l', REq f g) : REq (.mk k a b n l) (.mk k' a' b' n' l') := by
  unfold REq eqM
  refine spec_of (cx_ok ord14 xs0 0) (fun _ _ h => h) Tryz.func14 rfl (by kernel_rfl) rfl (by kernel_rfl) ?_
  intro hok
  have hl := ok_fm (okL_mem hok (List.mem_cons_self ..))
  simp only [Fm.kids] at hl
  unfold maxLen at hl
  rw [fmA_mk, fmA_mk]
  conv => whnf
  by_cases h1 : k = k'
  · rw [decide_eq_true h1]
    conv => whnf
    by_cases h2 : a = a'
    · rw [decide_eq_true h2]
      conv => whnf
      by_cases h3 : b = b'
      · rw [decide_eq_true h3]
        conv => whnf
        by_cases h4 : n = n'
        · rw [decide_eq_true h4]
          conv => whnf
          by_cases hlen : (l.length : Int) = l'.length
          · rw [decide_eq_true hlen]
            conv => whnf
            refine loop_keep [2, 3] ?_
            conv => whnf
            refine loop_go (fun j : Nat => [(5, .v (.int .i64 j))]) (fun _ => [[intA k, intA a, intA b, intA n, .sl 5 l.length (fmsA l)], [intA k', intA a', intA b', intA n', .sl 5 l'.length (fmsA l')]]) (fun _ => []) (fun j => j ≤ l.length ∧ eqMs (l.drop j) (l'.drop j) = eqMs l l') (fun j => l.length - j) 0 ?_ ⟨Nat.zero_le _, rfl⟩ ?_
            · repeat' constructor
            · rintro j ⟨hj, hinv⟩
              conv => whnf
              by_cases hlt : j < l.length
              · have hm : j < l'.length := by omega
                have hr1 := rowOf_fms l j hlt
                have hr2 := rowOf_fms l' j hm
                have hsp := ih l[j] (List.getElem_mem hlt) l'[j] (List.getElem_mem hm)
                unfold REq at hsp
                rw [eqMs_drop l l' j hlt hm] at hinv
                generalize l[j] = f at *
                generalize l'[j] = g at *
                (refine goA ?_; try with_reducible exact trivial)
                (generalize hrq : rowOf _ _ (fmsA l) = rq; obtain rfl : rq = fmA f := hrq.symm.trans (hr1); clear hrq; conv => whnf)
                (refine goA ?_; try with_reducible exact trivial)
                (generalize hrq : rowOf _ _ (fmsA l') = rq; obtain rfl : rq = fmA g := hrq.symm.trans (hr2); clear hrq; conv => whnf)
                (refine call0 [] rfl (fun _ => hsp) ?_; rintro r rfl; conv => whnf)
                cases hq : eqM f g with
                | true =>
                  rw [hq, Bool.true_and] at hinv
                  (refine goA ?_; try with_reducible exact trivial)
                  refine ⟨i64w (by omega), ?_⟩
                  conv => whnf
                  refine ⟨j + 1, le_head ?_, ⟨hlt, hinv⟩, by omega⟩
                  repeat' constructor
                | false =>
                  rw [hq, Bool.false_and] at hinv
                  (refine goA ?_; try with_reducible exact trivial)
                  rw [← hinv]
                  rfl
              · (refine goA ?_; try with_reducible exact trivial)
                have e1 : l.drop j = [] := List.drop_of_length_le (by omega)
                have e2 : l'.drop j = [] := List.drop_of_length_le (by omega)
                rw [e1, e2] at hinv
                rw [← hinv]
                rfl
          · rw [decide_eq_false hlen]
            conv => whnf
            rw [eqMs_len (by omega)]
            rfl
        · rw [decide_eq_false h4]
          conv => whnf
          rfl
      · rw [decide_eq_false h3]
        conv => whnf
        rfl
    · rw [decide_eq_false h2]
      conv => whnf
      rfl
  · rw [decide_eq_false h1]
    conv => whnf
    rfl
theorem rEq : ∀ f g : Fm, REq f g
  | .mk k a b n l, .mk k' a' b' n' l' => by
    have hkids : ∀ f ∈ l, ∀ g ∈ l', REq f g := fun f hf g hg => rEq f g
    exact rEq_raw k a b n k' a' b' n' l l' hkids
termination_by f => SizeOf.sizeOf f
decreasing_by
  have := List.sizeOf_lt_of_mem hf
  simp only [Fm.mk.sizeOf_spec]
  omega
def ordL : Option Int → List Int
  | none => []
  | some x => [x]
theorem ordV_wk : ∀ o : Option Int, Wk (ordV o) (.sl 1 (ordL o).length (intsA (ordL o)))
  | none => .nil 1
  | some x => .refl _
theorem rSameO (o p : Option Int) : Spec Tryz.prog 20 [] [ordV o, ordV p] fun _ r => r = boolA (decide (o = p)) := by
  have h := rSameInts (ordL o) (ordL p) (by cases o <;> simp [ordL])
  have e : decide (ordL o = ordL p) = decide (o = p) := by
    rw [decide_eq_decide]
    cases o <;> cases p <;> simp [ordL]
  rw [e] at h
  exact h.wargs (.cons (ordV_wk o) (.cons (ordV_wk p) .nil)) .nil
def vdAm (c : Int) (o : A) : List A := [intA 8, intA c, intA 0, o, .v (.slice none 0 0)]
end Go.Proofs.YtpjcbadnpknncaaGreatDoor.Vm
/- Around. -/
namespace Go.Proofs.YtpjcbadnpknncaaGreatDoor.Vm
open Go.RowKit
set_option linter.unusedSimpArgs false
set_option linter.unusedVariables false
set_option maxRecDepth 100000
def absI (n : Int) : Int := if n < 0 then -(n + 1) else n
def aroundF (n m : Int) : Int := (absI n).tmod m
theorem absI_rng {n : Int} (hn : -9223372036854775808 ≤ n ∧ n ≤ 9223372036854775807) : 0 ≤ absI n ∧ absI n ≤ 9223372036854775807 := by unfold absI; split <;> omega
theorem aroundF_rng {n m : Int} (hn : -9223372036854775808 ≤ n ∧ n ≤ 9223372036854775807) (hm : 1 ≤ m) : 0 ≤ aroundF n m ∧ aroundF n m < m := by
  have h := absI_rng hn
  unfold aroundF
  rw [Int.tmod_eq_emod_of_nonneg h.1]
  exact ⟨Int.emod_nonneg _ (by omega), Int.emod_lt_of_pos _ (by omega)⟩
theorem around_spec (n m : Int) (hm : 1 ≤ m ∧ m ≤ 9223372036854775807) : Spec Tryz.prog 18 [] [intA n, intA m] fun _ r => (-9223372036854775808 ≤ n ∧ n ≤ 9223372036854775807) ∧ r = intA (aroundF n m) := by
  refine spec_of (cx_ok ord0 xs0 0) (fun _ _ h => h) Tryz.func18 rfl (by kernel_rfl) rfl (by kernel_rfl) ?_
  intro hok
  have hn : -9223372036854775808 ≤ n ∧ n ≤ 9223372036854775807 := okA_int.1 hok.1
  have hab := absI_rng hn
  conv => whnf
  by_cases h : n < 0
  · refine br_true (b := decide (n < 0)) (decide_eq_true h) ?_
    conv => whnf
    refine ⟨i64r (by omega), ?_⟩
    conv => whnf
    refine ⟨i64r (by omega), ?_⟩
    conv => whnf
    refine ⟨by omega, ?_⟩
    conv => whnf
    refine ⟨hn, ?_⟩
    have : 0 - (n + 1) = absI n := by unfold absI; rw [if_pos h]; omega
    rw [this]; rfl
  · refine br_false (b := decide (n < 0)) (decide_eq_false h) ?_
    conv => whnf
    refine ⟨by omega, ?_⟩
    conv => whnf
    refine ⟨hn, ?_⟩
    have : n = absI n := by unfold absI; rw [if_neg h]
    show A.v (.int .i64 (n.tmod m)) = intA ((absI n).tmod m)
    rw [← this]; rfl
end Go.Proofs.YtpjcbadnpknncaaGreatDoor.Vm
/- The law Parses: both parsers agree; the reference's texts: letters, glue, precedences, decimals. -/
namespace Go.Proofs.YtpjcbadnpknncaaGreatDoor.Vm
open Go.RowKit Go.Shelf
set_option linter.unusedSimpArgs false
set_option linter.unusedVariables false
set_option maxRecDepth 100000
theorem parses_spec (s : ByteArray) (hs : s.size ≤ 1000000000) : Spec Tryz.prog 8 [] [strA s] fun _ r => r = boolA true := by
  have h1 := parse_raw s hs
  have h2 := rParse_spec s hs
  cases hp : parseF s with
  | ok f =>
    rw [hp] at h1 h2
    unfold parR0 at h1 h2
    simp only at h1 h2
    have hq := rEq f f
    unfold REq at hq
    rw [(eqM_iff _ _).2 rfl] at hq
    refine spec_of (cx_ok ord0 xs0 0) (fun _ _ h => h) Tryz.func8 rfl (by kernel_rfl) rfl (by kernel_rfl) ?_
    intro _
    conv => whnf
    (refine call0 [] rfl (fun _ => h1) ?_; rintro r rfl; conv => whnf)
    (refine call0 [] rfl (fun _ => h2) ?_; rintro r rfl; conv => whnf)
    (refine goA ?_; try with_reducible exact trivial)
    (refine call0 [] rfl (fun _ => hq) ?_; rintro r rfl; conv => whnf)
    rfl
  | bad x e =>
    rw [hp] at h1 h2
    unfold parR0 at h1 h2
    simp only at h1 h2
    have hq := rEq fz fz
    unfold REq at hq
    rw [(eqM_iff _ _).2 rfl] at hq
    have hz : Wk (A.agg zero5) (.agg (fmA fz)) := .agg (raw0_wk (f := fz) rfl)
    have hq2 : Spec Tryz.prog 14 [] [.agg zero5, .agg zero5] fun _ r => r = boolA true := hq.wargs (.cons hz (.cons hz .nil)) .nil
    refine spec_of (cx_ok ord0 xs0 0) (fun _ _ h => h) Tryz.func8 rfl (by kernel_rfl) rfl (by kernel_rfl) ?_
    intro _
    conv => whnf
    (refine call0 [] rfl (fun _ => h1) ?_; rintro r rfl; conv => whnf)
    (refine call0 [] rfl (fun _ => h2) ?_; rintro r rfl; conv => whnf)
    rw [decide_eq_true (rfl : e = e)]
    conv => whnf
    rw [decide_eq_true (rfl : x = x)]
    conv => whnf
    (refine call0 [] rfl (fun _ => hq2) ?_; rintro r rfl; conv => whnf)
    rfl
theorem letter25_spec (c : UInt8) : Spec Tryz.prog 50 [] [.v (.int .u8 (c.toNat : Int))] fun _ r => r = boolA (isLD c) := by
  have hm : 0 ≤ (c.toNat : Int) ∧ (c.toNat : Int) ≤ 255 := by have := c.toNat_lt; omega
  unfold isLD isL isD
  generalize (c.toNat : Int) = n at *
  refine spec_of (cx_ok ord0 xs0 0) (fun _ _ h => h) Tryz.func50 rfl (by kernel_rfl) rfl (by kernel_rfl) ?_
  intro _
  conv => whnf
  by_cases h1 : 97 ≤ n
  · rw [decide_eq_true h1]
    conv => whnf
    by_cases h2 : n ≤ 122
    · rw [decide_eq_true h2]
      conv => whnf
      rfl
    · rw [decide_eq_false h2]
      conv => whnf
      rw [decide_eq_true (show 48 ≤ n by omega)]
      conv => whnf
      rw [decide_eq_false (show ¬ n ≤ 57 by omega)]
      conv => whnf
      rfl
  · rw [decide_eq_false h1]
    conv => whnf
    by_cases h3 : 48 ≤ n
    · rw [decide_eq_true h3]
      conv => whnf
      rcases Decidable.em (n ≤ 57) with h4 | h4
      · rw [decide_eq_true h4]
        conv => whnf
        rfl
      · rw [decide_eq_false h4]
        conv => whnf
        rfl
    · rw [decide_eq_false h3]
      conv => whnf
      rfl
end Go.Proofs.YtpjcbadnpknncaaGreatDoor.Vm
/- The reference's texts: glue, precedences, decimals of all integers. -/
namespace Go.Proofs.YtpjcbadnpknncaaGreatDoor.Vm
open Go.RowKit Go.Shelf
set_option linter.unusedSimpArgs false
set_option linter.unusedVariables false
set_option maxRecDepth 100000
/-- The level of a formula's text. -/
def precF (f : Fm) : Int := if (isC f || decide (f.k = 1)) = true then 5 else if f.k = 4 then 1 else if f.k = 3 then 2 else if f.k = 6 then 3 else 4
theorem prec_spec (f : Fm) : Spec Tryz.prog 34 [] [.agg (fmA f)] fun _ r => r = intA (precF f) := by
  have hc := rConst f
  unfold precF
  generalize hg : isC f = q at *
  clear hg
  refine spec_of (cx_ok ord0 xs0 0) (fun _ _ h => h) Tryz.func34 rfl (by kernel_rfl) rfl (by kernel_rfl) ?_
  intro _
  conv => whnf
  (refine call0 [] rfl (fun _ => hc) ?_; rintro r rfl; conv => whnf)
  cases q
  · conv => whnf
    by_cases h1 : f.k = 1
    · rw [decide_eq_true h1]
      conv => whnf
      rfl
    · rw [decide_eq_false h1]
      conv => whnf
      by_cases h4 : f.k = 4
      · rw [decide_eq_true h4, if_neg (by decide), if_pos h4]
        conv => whnf
        rfl
      · rw [decide_eq_false h4, if_neg (by decide), if_neg h4]
        conv => whnf
        by_cases h3 : f.k = 3
        · rw [decide_eq_true h3, if_pos h3]
          conv => whnf
          rfl
        · rw [decide_eq_false h3, if_neg h3]
          conv => whnf
          by_cases h6 : f.k = 6
          · rw [decide_eq_true h6, if_pos h6]
            conv => whnf
            rfl
          · rw [decide_eq_false h6, if_neg h6]
            conv => whnf
            rfl
  · conv => whnf
    rfl
def lastB (a : ByteArray) : UInt8 := a.data.toList.getD (a.size - 1) 0
def firstB (a : ByteArray) : UInt8 := a.data.toList.getD 0 0
/-- Two texts, one after the other, with a space where their letters meet. -/
def glueF (a b : ByteArray) : ByteArray := if a = ⟨#[]⟩ then a ++ b else if b = ⟨#[]⟩ then a ++ b else if isLD (lastB a) = false then a ++ b else if isLD (firstB b) = false then a ++ b else a ++ ⟨#[32]⟩ ++ b
theorem size_ne {a : ByteArray} (h : a ≠ ⟨#[]⟩) : 0 < a.size := by
  refine Nat.pos_of_ne_zero fun h0 => h ?_
  apply ByteArray.ext
  exact Array.eq_empty_of_size_eq_zero h0
theorem glue_spec (a b : ByteArray) (ha : a.size ≤ 500000000) (hb : b.size ≤ 400000000) : Spec Tryz.prog 33 [] [strA a, strA b] fun _ r => r = strA (glueF a b) := by
  have h1 := letter25_spec (lastB a)
  have h2 := letter25_spec (firstB b)
  unfold glueF
  refine spec_of (cx_ok ord0 xs0 0) (fun _ _ h => h) Tryz.func33 rfl (by kernel_rfl) rfl (by kernel_rfl) ?_
  intro _
  conv => whnf
  by_cases ea : a = ⟨#[]⟩
  · rw [decide_eq_true ea, if_pos ea]
    conv => whnf
    refine ⟨by show a.size + b.size ≤ maxLen; unfold maxLen; omega, ?_⟩
    conv => whnf
    rfl
  · rw [decide_eq_false ea, if_neg ea]
    conv => whnf
    by_cases eb : b = ⟨#[]⟩
    · rw [decide_eq_true eb, if_pos eb]
      conv => whnf
      refine ⟨by show a.size + b.size ≤ maxLen; unfold maxLen; omega, ?_⟩
      conv => whnf
      rfl
    · rw [decide_eq_false eb, if_neg eb]
      have sa := size_ne ea
      have sb := size_ne eb
      conv => whnf
      refine ⟨i64r (by omega), ?_⟩
      conv => whnf
      refine ⟨⟨by omega, by omega⟩, ?_⟩
      rw [show a.data.toList.getD (Int.toNat ((a.size : Int) - 1)) 0 = lastB a from by unfold lastB; congr 1; omega]
      generalize isLD (lastB a) = p at *
      (refine call0 [] rfl (fun _ => h1) ?_; rintro r rfl; conv => whnf)
      cases p
      · rw [if_pos rfl]
        conv => whnf
        refine ⟨by show a.size + b.size ≤ maxLen; unfold maxLen; omega, ?_⟩
        conv => whnf
        rfl
      · rw [if_neg (by decide)]
        conv => whnf
        refine ⟨⟨by omega, by omega⟩, ?_⟩
        rw [show b.data.toList.getD (Int.toNat 0) 0 = firstB b from rfl]
        generalize isLD (firstB b) = q at *
        (refine call0 [] rfl (fun _ => h2) ?_; rintro r rfl; conv => whnf)
        cases q
        · rw [if_pos rfl]
          conv => whnf
          refine ⟨by show a.size + b.size ≤ maxLen; unfold maxLen; omega, ?_⟩
          conv => whnf
          rfl
        · rw [if_neg (by decide)]
          conv => whnf
          refine ⟨by show a.size + 1 ≤ maxLen; unfold maxLen; omega, ?_⟩
          conv => whnf
          refine ⟨by rw [ByteArray.size_append]; show a.size + 1 + b.size ≤ maxLen; unfold maxLen; omega, ?_⟩
          conv => whnf
          rfl
end Go.Proofs.YtpjcbadnpknncaaGreatDoor.Vm
