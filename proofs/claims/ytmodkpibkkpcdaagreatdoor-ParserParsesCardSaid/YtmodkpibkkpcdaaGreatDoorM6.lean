/- Texts 6 of the proof: S2, S3, S4, S5, S6, S7, S8. -/
import Derived.Test.YtmodkpibkkpcdaaGreatDoorM5
namespace Go.Proofs.YtmodkpibkkpcdaaGreatDoor.Vm
open Go.RowKit Go.Shelf
set_option linter.unusedSimpArgs false
set_option linter.unusedVariables false
set_option maxRecDepth 100000
def parN (p req : Int) (full : Bool) (b : ByteArray) : ByteArray := if p < req then pLp ++ b ++ pRp else if full = true then (if p < 8 then pLp ++ b ++ pRp else b) else b
def noG : Int → ByteArray := fun _ => eB
def tfB (n : Int) : ByteArray := [wFalse, wTrue].getD (aroundF n 2).toNat eB
def bodyN (k n : Int) (s : ByteArray) (g : List (Int → ByteArray)) : ByteArray :=
 if k = 12 then bs (decS n.toNat)
 else if k = 13 then tfB n
 else if k = 16 then allF [wDraw, pLp, (g.getD 0 noG) 1, pRp]
 else if k = 17 then allF [s, (g.getD 0 noG) (prec6 k s)]
 else if k = 18 then allF [(g.getD 0 noG) (if prec6 k s = 4 then 5 else prec6 k s), s, (g.getD 1 noG) (prec6 k s + 1)]
 else s
mutual
def shN (full : Bool) : Nt → Int → ByteArray
 | .mk k n s kids, req => parN (prec6 k s) req full (bodyN k n s (shL full kids))
def shL (full : Bool) : List Nt → List (Int → ByteArray)
 | [] => []
 | f :: l => shN full f :: shL full l
end
theorem parN_size (p req : Int) (full : Bool) (b : ByteArray) : (parN p req full b).size ≤ b.size + 2 := by
 unfold parN
 have h1 : pLp.size = 1 := rfl
 have h2 : pRp.size = 1 := rfl
 repeat' split
 all_goals (try simp only [ByteArray.size_append]); omega
def SH (full : Bool) (m : Nat) (f : Nt) : Prop := ∀ req : Int, 0 ≤ req → req ≤ 9 → (shN full f req).size ≤ m ∧ Spec Tryz.prog 123 [] [.agg (ntA f), intA req, boolA full] fun _ r => r = strA (shN full f req)
theorem rowN1 (f : Nt) : rowOf 4 0 (ntsA [f]) = ntA f := rowOf_nts [f] 0 (by simp)
theorem rowN20 (f g : Nt) : rowOf 4 0 (ntsA [f, g]) = ntA f := rowOf_nts [f, g] 0 (by simp)
theorem rowN21 (f g : Nt) : rowOf 4 1 (ntsA [f, g]) = ntA g := rowOf_nts [f, g] 1 (by simp)
def ordSh (id : Nat) : Tr := match Nat.beq id 11 with | true => .q 0 3 (.q 1 0 (.q 2 3 (.q 3 0 (.q 4 3 (.q 5 0 (.q 6 3 (.q 7 3 (.alt 8 1 (.alt 9 1 (.alt 10 1 (.q 11 3 (.nil)) (.nil)) (.nil)) (.nil))))))))) | false => match Nat.beq id 16 with | true => .q 0 3 (.q 1 0 (.q 2 3 (.q 3 0 (.q 4 3 (.q 5 3 (.q 7 3 (.q 8 0 (.q 9 3 (.q 10 0 (.q 11 3 (.q 12 0 (.q 13 3 (.q 14 3 (.q 15 3 (.alt 6 1 (.alt 16 1 (.alt 17 1 (.alt 18 1 (.q 19 3 (.nil)) (.nil)) (.nil)) (.nil)) (.nil)))))))))))))))) | false => .nil
theorem sh_lit (full : Bool) (n : Int) (hn : 0 ≤ n ∧ n < 1000000000000) : SH full 14 (.mk 12 n eB []) := fun req h1 h2 => by
 have hsz : (bs (decS n.toNat)).size ≤ 12 := decS_size _ (by omega)
 have e : shN full (.mk 12 n eB []) req = parN 8 req full (bs (decS n.toNat)) := rfl
 rw [e]
 refine ⟨by have := parN_size 8 req full (bs (decS n.toNat)); omega, ?_⟩
 have hpr := prec_spec (.mk 12 n eB [])
 have hdc := decimal_spec n.toNat (by omega)
 rw [show ((n.toNat : Nat) : Int) = n by omega] at hdc
 rw [show prec6 (Nt.mk 12 n eB []).k (Nt.mk 12 n eB []).s = 8 from rfl] at hpr
 generalize bs (decS n.toNat) = x at *
 obtain ⟨p, hp⟩ : ∃ p : Int, p = 8 := ⟨_, rfl⟩
 rw [← hp] at hpr ⊢
 unfold parN
 refine spec_of (cx_ok ordSh xs0 0) (fun _ _ h => h) Tryz.func123 rfl (by kernel_rfl) rfl (by kernel_rfl) ?_
 intro hok
 conv => whnf
 (refine call0 [] rfl (fun _ => hpr) ?_; rintro r rfl; conv => whnf)
 (refine call0 [] rfl (fun _ => hdc) ?_; rintro r rfl; conv => whnf)
 by_cases hlt : p < req
 ·rw [if_pos hlt, decide_eq_true hlt]
  conv => whnf
  refine ⟨by (try simp only [ByteArray.size_append, Nt.s, szD, List.size_toArray, List.length_cons, List.length_nil]); unfold maxLen; omega, ?_⟩
  conv => whnf
  refine ⟨by (try simp only [ByteArray.size_append, Nt.s, szD, List.size_toArray, List.length_cons, List.length_nil]); unfold maxLen; omega, ?_⟩
  conv => whnf
  rfl
 ·rw [if_neg hlt, decide_eq_false hlt]
  cases full with
  | false =>
   conv => whnf
   rfl
  | true =>
   rw [if_pos rfl]
   conv => whnf
   by_cases h8 : p < 8
   ·rw [if_pos h8, decide_eq_true h8]
    conv => whnf
    refine ⟨by (try simp only [ByteArray.size_append, Nt.s, szD, List.size_toArray, List.length_cons, List.length_nil]); unfold maxLen; omega, ?_⟩
    conv => whnf
    refine ⟨by (try simp only [ByteArray.size_append, Nt.s, szD, List.size_toArray, List.length_cons, List.length_nil]); unfold maxLen; omega, ?_⟩
    conv => whnf
    rfl
   ·rw [if_neg h8, decide_eq_false h8]
    conv => whnf
    rfl
theorem sh_txt (full : Bool) (k : Int) (hk : k = 14 ∨ k = 15) (s : ByteArray) (hs : s.size ≤ 12) : SH full 14 (.mk k 0 s []) := fun req h1 h2 => by
 have e : shN full (.mk k 0 s []) req = parN 8 req full s := by rcases hk with rfl | rfl <;> rfl
 rw [e]
 refine ⟨by have := parN_size 8 req full s; omega, ?_⟩
 have hpr := prec_spec (.mk k 0 s [])
 rw [show prec6 (Nt.mk k 0 s []).k (Nt.mk k 0 s []).s = 8 by rcases hk with rfl | rfl <;> rfl] at hpr
 obtain ⟨p, hp⟩ : ∃ p : Int, p = 8 := ⟨_, rfl⟩
 rw [← hp] at hpr ⊢
 unfold parN
 rcases hk with rfl | rfl
 ·refine spec_of (cx_ok ordSh xs0 0) (fun _ _ h => h) Tryz.func123 rfl (by kernel_rfl) rfl (by kernel_rfl) ?_
  intro hok
  conv => whnf
  (refine call0 [] rfl (fun _ => hpr) ?_; rintro r rfl; conv => whnf)
  by_cases hlt : p < req
  ·rw [if_pos hlt, decide_eq_true hlt]
   conv => whnf
   refine ⟨by (try simp only [ByteArray.size_append, Nt.s, szD, List.size_toArray, List.length_cons, List.length_nil]); unfold maxLen; omega, ?_⟩
   conv => whnf
   refine ⟨by (try simp only [ByteArray.size_append, Nt.s, szD, List.size_toArray, List.length_cons, List.length_nil]); unfold maxLen; omega, ?_⟩
   conv => whnf
   rfl
  ·rw [if_neg hlt, decide_eq_false hlt]
   cases full with
   | false =>
    conv => whnf
    rfl
   | true =>
    rw [if_pos rfl]
    conv => whnf
    by_cases h8 : p < 8
    ·rw [if_pos h8, decide_eq_true h8]
     conv => whnf
     refine ⟨by (try simp only [ByteArray.size_append, Nt.s, szD, List.size_toArray, List.length_cons, List.length_nil]); unfold maxLen; omega, ?_⟩
     conv => whnf
     refine ⟨by (try simp only [ByteArray.size_append, Nt.s, szD, List.size_toArray, List.length_cons, List.length_nil]); unfold maxLen; omega, ?_⟩
     conv => whnf
     rfl
    ·rw [if_neg h8, decide_eq_false h8]
     conv => whnf
     rfl
 ·refine spec_of (cx_ok ordSh xs0 0) (fun _ _ h => h) Tryz.func123 rfl (by kernel_rfl) rfl (by kernel_rfl) ?_
  intro hok
  conv => whnf
  (refine call0 [] rfl (fun _ => hpr) ?_; rintro r rfl; conv => whnf)
  by_cases hlt : p < req
  ·rw [if_pos hlt, decide_eq_true hlt]
   conv => whnf
   refine ⟨by (try simp only [ByteArray.size_append, Nt.s, szD, List.size_toArray, List.length_cons, List.length_nil]); unfold maxLen; omega, ?_⟩
   conv => whnf
   refine ⟨by (try simp only [ByteArray.size_append, Nt.s, szD, List.size_toArray, List.length_cons, List.length_nil]); unfold maxLen; omega, ?_⟩
   conv => whnf
   rfl
  ·rw [if_neg hlt, decide_eq_false hlt]
   cases full with
   | false =>
    conv => whnf
    rfl
   | true =>
    rw [if_pos rfl]
    conv => whnf
    by_cases h8 : p < 8
    ·rw [if_pos h8, decide_eq_true h8]
     conv => whnf
     refine ⟨by (try simp only [ByteArray.size_append, Nt.s, szD, List.size_toArray, List.length_cons, List.length_nil]); unfold maxLen; omega, ?_⟩
     conv => whnf
     refine ⟨by (try simp only [ByteArray.size_append, Nt.s, szD, List.size_toArray, List.length_cons, List.length_nil]); unfold maxLen; omega, ?_⟩
     conv => whnf
     rfl
    ·rw [if_neg h8, decide_eq_false h8]
     conv => whnf
     rfl
theorem sh_bool (full : Bool) (n : Nat) (hn : n < 2) : SH full 14 (.mk 13 n eB []) := fun req h1 h2 => by
 have e : shN full (.mk 13 n eB []) req = parN 8 req full (tfB n) := rfl
 rw [e]
 have har := around_spec n 2 (by decide)
 have hz : aroundF n 2 = n := by rcases (by omega : n = 0 ∨ n = 1) with rfl | rfl <;> rfl
 have hsz : (tfB n).size ≤ 12 := by rcases (by omega : n = 0 ∨ n = 1) with rfl | rfl <;> decide
 refine ⟨by have := parN_size 8 req full (tfB n); omega, ?_⟩
 have hpr := prec_spec (.mk 13 n eB [])
 rw [show prec6 (Nt.mk 13 n eB []).k (Nt.mk 13 n eB []).s = 8 from rfl] at hpr
 have hr : List.drop (n * 1) ([wFalse, wTrue].map strA) = strA (tfB n) :: List.drop (n + 1) ([wFalse, wTrue].map strA) := by
  rcases (by omega : n = 0 ∨ n = 1) with rfl | rfl <;> rfl
 rw [hz] at har
 generalize tfB n = x at *
 obtain ⟨p, hp⟩ : ∃ p : Int, p = 8 := ⟨_, rfl⟩
 rw [← hp] at hpr ⊢
 unfold parN
 refine spec_of (cx_ok ordSh xs0 0) (fun _ _ h => h) Tryz.func123 rfl (by kernel_rfl) rfl (by kernel_rfl) ?_
 intro hok
 conv => whnf
 (refine call0 [] rfl (fun _ => hpr) ?_; rintro r rfl; conv => whnf)
 refine call0 [] rfl (fun _ => har) ?_
 rintro r ⟨_, rfl⟩
 conv => whnf
 refine ⟨⟨by omega, by omega⟩, ?_⟩
 conv => whnf
 generalize hrq : List.drop (Int.toNat (n : Int) * _) _ = rq
 obtain rfl : rq = _ :: _ := hrq.symm.trans hr
 clear hrq
 conv => whnf
 by_cases hlt : p < req
 ·rw [if_pos hlt, decide_eq_true hlt]
  conv => whnf
  refine ⟨by (try simp only [ByteArray.size_append, Nt.s, szD, List.size_toArray, List.length_cons, List.length_nil]); unfold maxLen; omega, ?_⟩
  conv => whnf
  refine ⟨by (try simp only [ByteArray.size_append, Nt.s, szD, List.size_toArray, List.length_cons, List.length_nil]); unfold maxLen; omega, ?_⟩
  conv => whnf
  rfl
 ·rw [if_neg hlt, decide_eq_false hlt]
  cases full with
  | false =>
   conv => whnf
   rfl
  | true =>
   rw [if_pos rfl]
   conv => whnf
   by_cases h8 : p < 8
   ·rw [if_pos h8, decide_eq_true h8]
    conv => whnf
    refine ⟨by (try simp only [ByteArray.size_append, Nt.s, szD, List.size_toArray, List.length_cons, List.length_nil]); unfold maxLen; omega, ?_⟩
    conv => whnf
    refine ⟨by (try simp only [ByteArray.size_append, Nt.s, szD, List.size_toArray, List.length_cons, List.length_nil]); unfold maxLen; omega, ?_⟩
    conv => whnf
    rfl
   ·rw [if_neg h8, decide_eq_false h8]
    conv => whnf
    rfl
theorem sh_drw (full : Bool) (m : Nat) (hm : m ≤ 1000000) (f : Nt) (hf : SH full m f) : SH full (m + 20) (.mk 16 0 eB [f]) := fun req h1 h2 => by
 obtain ⟨hs1, hsp⟩ := hf 1 (by decide) (by decide)
 have e : shN full (.mk 16 0 eB [f]) req = parN 8 req full (allF [wDraw, pLp, shN full f 1, pRp]) := rfl
 rw [e]
 have hpr := prec_spec (.mk 16 0 eB [f])
 rw [show prec6 (Nt.mk 16 0 eB [f]).k (Nt.mk 16 0 eB [f]).s = 8 from rfl] at hpr
 have ht : tsz [wDraw, pLp, shN full f 1, pRp] ≤ m + 10 := by
  rw [tsz_cons, tsz_cons, tsz_cons, tsz_cons]
  have a1 : wDraw.size = 4 := rfl
  have a2 : pLp.size = 1 := rfl
  have a3 : pRp.size = 1 := rfl
  have a4 : tsz [] = 0 := rfl
  omega
 have hal := all_spec [wDraw, pLp, shN full f 1, pRp] (by omega)
 have hsz := allF_size [wDraw, pLp, shN full f 1, pRp]
 generalize allF [wDraw, pLp, shN full f 1, pRp] = x at *
 refine ⟨by have := parN_size 8 req full x; omega, ?_⟩
 generalize shN full f 1 = y at *
 have hr := rowN1 f
 obtain ⟨p, hp⟩ : ∃ p : Int, p = 8 := ⟨_, rfl⟩
 rw [← hp] at hpr ⊢
 unfold parN
 refine spec_of (cx_ok ordSh xs0 0) (fun _ _ h => h) Tryz.func123 rfl (by kernel_rfl) rfl (by kernel_rfl) ?_
 intro hok
 conv => whnf
 (refine call0 [] rfl (fun _ => hpr) ?_; rintro r rfl; conv => whnf)
 refine ⟨by simp [Nt.kids], ?_⟩
 conv => whnf
 (generalize hrq : rowOf _ _ (ntsA (Nt.mk 16 0 eB [f]).kids) = rq; obtain rfl : rq = ntA f := hrq.symm.trans (hr); clear hrq; conv => whnf)
 (refine call0 [] rfl (fun _ => hsp) ?_; rintro r rfl; conv => whnf)
 (refine call0 [0] rfl (fun _ => hal) ?_; rintro r rfl; conv => whnf)
 by_cases hlt : p < req
 ·rw [if_pos hlt, decide_eq_true hlt]
  conv => whnf
  refine ⟨by (try simp only [ByteArray.size_append, Nt.s, szD, List.size_toArray, List.length_cons, List.length_nil]); unfold maxLen; omega, ?_⟩
  conv => whnf
  refine ⟨by (try simp only [ByteArray.size_append, Nt.s, szD, List.size_toArray, List.length_cons, List.length_nil]); unfold maxLen; omega, ?_⟩
  conv => whnf
  rfl
 ·rw [if_neg hlt, decide_eq_false hlt]
  cases full with
  | false =>
   conv => whnf
   rfl
  | true =>
   rw [if_pos rfl]
   conv => whnf
   by_cases h8 : p < 8
   ·rw [if_pos h8, decide_eq_true h8]
    conv => whnf
    refine ⟨by (try simp only [ByteArray.size_append, Nt.s, szD, List.size_toArray, List.length_cons, List.length_nil]); unfold maxLen; omega, ?_⟩
    conv => whnf
    refine ⟨by (try simp only [ByteArray.size_append, Nt.s, szD, List.size_toArray, List.length_cons, List.length_nil]); unfold maxLen; omega, ?_⟩
    conv => whnf
    rfl
   ·rw [if_neg h8, decide_eq_false h8]
    conv => whnf
    rfl
theorem sh_una (full : Bool) (m : Nat) (hm : m ≤ 1000000) (s : ByteArray) (hs : s.size ≤ 2) (f : Nt) (hf : SH full m f) : SH full (m + 20) (.mk 17 0 s [f]) := fun req h1 h2 => by
 have hp9 := prec6_rng 17 s
 have e : shN full (.mk 17 0 s [f]) req = parN (prec6 17 s) req full (allF [s, shN full f (prec6 17 s)]) := rfl
 rw [e]
 have hpr := prec_spec (.mk 17 0 s [f])
 rw [show prec6 (Nt.mk 17 0 s [f]).k (Nt.mk 17 0 s [f]).s = prec6 17 s from rfl] at hpr
 generalize prec6 17 s = p at *
 obtain ⟨hs1, hsp⟩ := hf p (by omega) (by omega)
 have ht : tsz [s, shN full f p] ≤ m + 4 := by
  rw [tsz_cons, tsz_cons]
  have a4 : tsz [] = 0 := rfl
  omega
 have hal := all_spec [s, shN full f p] (by omega)
 have hsz := allF_size [s, shN full f p]
 generalize allF [s, shN full f p] = x at *
 refine ⟨by have := parN_size p req full x; omega, ?_⟩
 generalize shN full f p = y at *
 have hr := rowN1 f
 unfold parN
 refine spec_of (cx_ok ordSh xs0 0) (fun _ _ h => h) Tryz.func123 rfl (by kernel_rfl) rfl (by kernel_rfl) ?_
 intro hok
 conv => whnf
 (refine call0 [] rfl (fun _ => hpr) ?_; rintro r rfl; conv => whnf)
 refine ⟨by simp [Nt.kids], ?_⟩
 conv => whnf
 (generalize hrq : rowOf _ _ (ntsA (Nt.mk 17 0 s [f]).kids) = rq; obtain rfl : rq = ntA f := hrq.symm.trans (hr); clear hrq; conv => whnf)
 (refine call0 [] rfl (fun _ => hsp) ?_; rintro r rfl; conv => whnf)
 (refine call0 [0] rfl (fun _ => hal) ?_; rintro r rfl; conv => whnf)
 by_cases hlt : p < req
 ·rw [if_pos hlt, decide_eq_true hlt]
  conv => whnf
  refine ⟨by (try simp only [ByteArray.size_append, Nt.s, szD, List.size_toArray, List.length_cons, List.length_nil]); unfold maxLen; omega, ?_⟩
  conv => whnf
  refine ⟨by (try simp only [ByteArray.size_append, Nt.s, szD, List.size_toArray, List.length_cons, List.length_nil]); unfold maxLen; omega, ?_⟩
  conv => whnf
  rfl
 ·rw [if_neg hlt, decide_eq_false hlt]
  cases full with
  | false =>
   conv => whnf
   rfl
  | true =>
   rw [if_pos rfl]
   conv => whnf
   by_cases h8 : p < 8
   ·rw [if_pos h8, decide_eq_true h8]
    conv => whnf
    refine ⟨by (try simp only [ByteArray.size_append, Nt.s, szD, List.size_toArray, List.length_cons, List.length_nil]); unfold maxLen; omega, ?_⟩
    conv => whnf
    refine ⟨by (try simp only [ByteArray.size_append, Nt.s, szD, List.size_toArray, List.length_cons, List.length_nil]); unfold maxLen; omega, ?_⟩
    conv => whnf
    rfl
   ·rw [if_neg h8, decide_eq_false h8]
    conv => whnf
    rfl
theorem sh_bin (full : Bool) (m : Nat) (hm : m ≤ 1000000) (s : ByteArray) (hs : s.size ≤ 2) (f g : Nt) (hf : SH full m f) (hg : SH full m g) : SH full (2 * m + 20) (.mk 18 0 s [f, g]) := fun req h1 h2 => by
 have hp9 := prec6_rng 18 s
 have hp8 : prec6 18 s ≤ 7 := by
  unfold prec6
  repeat' split
  all_goals first | decide | (rename_i h1 h2; exact absurd h2 (by decide)) | contradiction
 have e : shN full (.mk 18 0 s [f, g]) req = parN (prec6 18 s) req full (allF [shN full f (if prec6 18 s = 4 then 5 else prec6 18 s), s, shN full g (prec6 18 s + 1)]) := rfl
 rw [e]
 have hpr := prec_spec (.mk 18 0 s [f, g])
 rw [show prec6 (Nt.mk 18 0 s [f, g]).k (Nt.mk 18 0 s [f, g]).s = prec6 18 s from rfl] at hpr
 generalize prec6 18 s = p at *
 obtain ⟨q, hq⟩ : ∃ q : Int, (if p = 4 then 5 else p) = q := ⟨_, rfl⟩
 rw [hq]
 have hqr : 0 ≤ q ∧ q ≤ 9 := by split at hq <;> omega
 obtain ⟨hs1, hsp⟩ := hf q (by omega) (by omega)
 obtain ⟨hs2, hsp2⟩ := hg (p + 1) (by omega) (by omega)
 have ht : tsz [shN full f q, s, shN full g (p + 1)] ≤ 2 * m + 5 := by
  rw [tsz_cons, tsz_cons, tsz_cons]
  have a4 : tsz [] = 0 := rfl
  omega
 have hal := all_spec [shN full f q, s, shN full g (p + 1)] (by omega)
 have hsz := allF_size [shN full f q, s, shN full g (p + 1)]
 generalize allF [shN full f q, s, shN full g (p + 1)] = x at *
 refine ⟨by have := parN_size p req full x; omega, ?_⟩
 generalize shN full f q = y at *
 generalize shN full g (p + 1) = y2 at *
 have hr := rowN20 f g
 have hr2 := rowN21 f g
 unfold parN
 refine spec_of (cx_ok ordSh xs0 0) (fun _ _ h => h) Tryz.func123 rfl (by kernel_rfl) rfl (by kernel_rfl) ?_
 intro hok
 conv => whnf
 (refine call0 [] rfl (fun _ => hpr) ?_; rintro r rfl; conv => whnf)
 by_cases h4 : p = 4
 ·rw [if_pos h4] at hq
  subst hq
  rw [decide_eq_true h4]
  conv => whnf
  refine ⟨by simp [Nt.kids], ?_⟩
  conv => whnf
  (generalize hrq : rowOf _ _ (ntsA (Nt.mk 18 0 s [f, g]).kids) = rq; obtain rfl : rq = ntA f := hrq.symm.trans (hr); clear hrq; conv => whnf)
  refine ⟨by simp [Nt.kids], ?_⟩
  conv => whnf
  (generalize hrq : rowOf _ _ (ntsA (Nt.mk 18 0 s [f, g]).kids) = rq; obtain rfl : rq = ntA g := hrq.symm.trans (hr2); clear hrq; conv => whnf)
  refine ⟨i64r (by omega), ?_⟩
  conv => whnf
  (refine call0 [] rfl (fun _ => hsp) ?_; rintro r rfl; conv => whnf)
  (refine call0 [] rfl (fun _ => hsp2) ?_; rintro r rfl; conv => whnf)
  (refine call0 [0] rfl (fun _ => hal) ?_; rintro r rfl; conv => whnf)
  by_cases hlt : p < req
  ·rw [if_pos hlt, decide_eq_true hlt]
   conv => whnf
   refine ⟨by (try simp only [ByteArray.size_append, Nt.s, szD, List.size_toArray, List.length_cons, List.length_nil]); unfold maxLen; omega, ?_⟩
   conv => whnf
   refine ⟨by (try simp only [ByteArray.size_append, Nt.s, szD, List.size_toArray, List.length_cons, List.length_nil]); unfold maxLen; omega, ?_⟩
   conv => whnf
   rfl
  ·rw [if_neg hlt, decide_eq_false hlt]
   cases full with
   | false =>
    conv => whnf
    rfl
   | true =>
    rw [if_pos rfl]
    conv => whnf
    by_cases h8 : p < 8
    ·rw [if_pos h8, decide_eq_true h8]
     conv => whnf
     refine ⟨by (try simp only [ByteArray.size_append, Nt.s, szD, List.size_toArray, List.length_cons, List.length_nil]); unfold maxLen; omega, ?_⟩
     conv => whnf
     refine ⟨by (try simp only [ByteArray.size_append, Nt.s, szD, List.size_toArray, List.length_cons, List.length_nil]); unfold maxLen; omega, ?_⟩
     conv => whnf
     rfl
    ·rw [if_neg h8, decide_eq_false h8]
     conv => whnf
     rfl
 ·rw [if_neg h4] at hq
  subst hq
  rw [decide_eq_false h4]
  conv => whnf
  refine ⟨by simp [Nt.kids], ?_⟩
  conv => whnf
  (generalize hrq : rowOf _ _ (ntsA (Nt.mk 18 0 s [f, g]).kids) = rq; obtain rfl : rq = ntA f := hrq.symm.trans (hr); clear hrq; conv => whnf)
  refine ⟨by simp [Nt.kids], ?_⟩
  conv => whnf
  (generalize hrq : rowOf _ _ (ntsA (Nt.mk 18 0 s [f, g]).kids) = rq; obtain rfl : rq = ntA g := hrq.symm.trans (hr2); clear hrq; conv => whnf)
  refine ⟨i64r (by omega), ?_⟩
  conv => whnf
  (refine call0 [] rfl (fun _ => hsp) ?_; rintro r rfl; conv => whnf)
  (refine call0 [] rfl (fun _ => hsp2) ?_; rintro r rfl; conv => whnf)
  (refine call0 [0] rfl (fun _ => hal) ?_; rintro r rfl; conv => whnf)
  by_cases hlt : p < req
  ·rw [if_pos hlt, decide_eq_true hlt]
   conv => whnf
   refine ⟨by (try simp only [ByteArray.size_append, Nt.s, szD, List.size_toArray, List.length_cons, List.length_nil]); unfold maxLen; omega, ?_⟩
   conv => whnf
   refine ⟨by (try simp only [ByteArray.size_append, Nt.s, szD, List.size_toArray, List.length_cons, List.length_nil]); unfold maxLen; omega, ?_⟩
   conv => whnf
   rfl
  ·rw [if_neg hlt, decide_eq_false hlt]
   cases full with
   | false =>
    conv => whnf
    rfl
   | true =>
    rw [if_pos rfl]
    conv => whnf
    by_cases h8 : p < 8
    ·rw [if_pos h8, decide_eq_true h8]
     conv => whnf
     refine ⟨by (try simp only [ByteArray.size_append, Nt.s, szD, List.size_toArray, List.length_cons, List.length_nil]); unfold maxLen; omega, ?_⟩
     conv => whnf
     refine ⟨by (try simp only [ByteArray.size_append, Nt.s, szD, List.size_toArray, List.length_cons, List.length_nil]); unfold maxLen; omega, ?_⟩
     conv => whnf
     rfl
    ·rw [if_neg h8, decide_eq_false h8]
     conv => whnf
     rfl
def cI : Nat → Nat
 | 0 => 14
 | d + 1 => 2 * cI d + 20
theorem SH.mono {full : Bool} {m m' : Nat} {f : Nt} (h : SH full m f) (hm : m ≤ m') : SH full m' f := fun req h1 h2 => ⟨Nat.le_trans (h req h1 h2).1 hm, (h req h1 h2).2⟩
theorem cI_ge : ∀ d, 14 ≤ cI d
 | 0 => Nat.le_refl _
 | d + 1 => by unfold cI; omega
theorem varL_sz : ∀ s ∈ varL, s.size ≤ 12 := by decide
theorem builtL_sz : ∀ s ∈ builtL, s.size ≤ 12 := by decide
theorem litL_rg : ∀ n ∈ litL, 0 ≤ n ∧ n < 1000000000000 := by decide
theorem opL_sz : ∀ s ∈ opL, s.size ≤ 2 := by decide
theorem bolL_sz : ∀ s ∈ bolL, s.size ≤ 2 := by decide
theorem cmpL_sz : ∀ s ∈ cmpL, s.size ≤ 2 := by decide
theorem sh_ei (full : Bool) {d : Nat} {f : Nt} (h : EI d f) : cI d ≤ 1000000 → SH full (cI d) f := by
 induction h with
 | lit d n h => exact fun _ => (sh_lit full n (litL_rg n h)).mono (cI_ge d)
 | var d s h => exact fun _ => (sh_txt full 14 (.inl rfl) s (varL_sz s h)).mono (cI_ge d)
 | nam d s h => exact fun _ => (sh_txt full 15 (.inr rfl) s (builtL_sz s h)).mono (cI_ge d)
 | drw d f h ih => intro hc; unfold cI at hc ⊢; exact (sh_drw full (cI d) (by omega) f (ih (by omega))).mono (by omega)
 | neg d f h ih => intro hc; unfold cI at hc ⊢; exact (sh_una full (cI d) (by omega) pMinus (by decide) f (ih (by omega))).mono (by omega)
 | bin d s f g hs h1 h2 i1 i2 => intro hc; unfold cI at hc ⊢; exact sh_bin full (cI d) (by omega) s (opL_sz s hs) f g (i1 (by omega)) (i2 (by omega))
theorem sh_eb (full : Bool) {d : Nat} {f : Nt} (h : EB d f) : cI (d + 1) ≤ 1000000 → SH full (cI (d + 1)) f := by
 induction h with
 | lit d n h => exact fun _ => (sh_bool full n h).mono (cI_ge (d + 1))
 | nt d f h ih => intro hc; have e : cI (d + 1 + 1) = 2 * cI (d + 1) + 20 := rfl; rw [e] at hc ⊢; exact (sh_una full (cI (d + 1)) (by omega) pNot (by decide) f (ih (by omega))).mono (by omega)
 | bin d s f g hs h1 h2 i1 i2 => intro hc; have e : cI (d + 1 + 1) = 2 * cI (d + 1) + 20 := rfl; rw [e] at hc ⊢; exact sh_bin full (cI (d + 1)) (by omega) s (bolL_sz s hs) f g (i1 (by omega)) (i2 (by omega))
 | cmp d s f g hs h1 h2 =>
  intro hc
  have hm : cI (d - 1) ≤ cI d := by
   cases d with
   | zero => exact Nat.le_refl _
   | succ d => rw [Nat.add_sub_cancel]; have e : cI (d + 1) = 2 * cI d + 20 := rfl; omega
  have e : cI (d + 1) = 2 * cI d + 20 := rfl
  rw [e] at hc ⊢
  exact sh_bin full (cI d) (by omega) s (cmpL_sz s hs) f g ((sh_ei full h1 (by omega)).mono hm) ((sh_ei full h2 (by omega)).mono hm)
end Go.Proofs.YtmodkpibkkpcdaaGreatDoor.Vm
namespace Go.Proofs.YtmodkpibkkpcdaaGreatDoor.Vm
open Go.RowKit Go.Shelf
set_option linter.unusedSimpArgs false
set_option linter.unusedVariables false
set_option maxRecDepth 100000
def cmF (l : List ByteArray) : ByteArray := match l with
 | [] => eB
 | x :: l => l.foldl (fun a y => glueF (a ++ pComma) y) (glueF eB x)
theorem cmF_snoc (x : ByteArray) (l : List ByteArray) (y : ByteArray) : cmF (x :: l ++ [y]) = glueF (cmF (x :: l) ++ pComma) y := by
 unfold cmF
 show (l ++ [y]).foldl _ _ = _
 rw [List.foldl_append]; rfl
theorem cmF_size : ∀ (l : List ByteArray), (cmF l).size ≤ tsz l + l.length := fun l => by
 induction h : l.length generalizing l with
 | zero => rw [List.eq_nil_of_length_eq_zero h]; exact Nat.zero_le _
 | succ n ih =>
  obtain ⟨m, y, rfl⟩ : ∃ m y, l = m ++ [y] := by
   have hne : l ≠ [] := fun e => by rw [e] at h; cases h
   exact ⟨l.dropLast, l.getLast hne, (List.dropLast_concat_getLast hne).symm⟩
  have hm : m.length = n := by simpa using h
  have := ih m hm
  rw [tsz_snoc]
  cases m with
  | nil =>
   show (glueF eB y).size ≤ _
   have := glue_size eB y
   have e0 : eB.size = 0 := rfl
   omega
  | cons x m =>
   rw [cmF_snoc]
   have g := glue_size (cmF (x :: m) ++ pComma) y
   have e1 : pComma.size = 1 := rfl
   rw [ByteArray.size_append] at g
   omega
def listN (full : Bool) (l : List Nt) : ByteArray := cmF (l.map fun f => shN full f 1) ++ pSemi
theorem list_spec (full : Bool) (m : Nat) (hm : m ≤ 1000000) (l : List Nt) (hl : l.length ≤ 100) (hf : ∀ f ∈ l, SH full m f) : (listN full l).size ≤ l.length * (m + 2) + 1 ∧ Spec Tryz.prog 122 [] [.sl 4 l.length (ntsA l), boolA full] fun _ r => r = strA (listN full l) := by
 have hts : ∀ j, j ≤ l.length → (cmF ((l.take j).map fun f => shN full f 1)).size ≤ j * (m + 2) := fun j hj => by
  have h1 := cmF_size ((l.take j).map fun f => shN full f 1)
  have h2 : tsz ((l.take j).map fun f => shN full f 1) ≤ j * (m + 1) := by
   clear h1
   induction j with
   | zero => rw [List.take_zero]; exact Nat.zero_le _
   | succ j ih =>
    have := ih (by omega)
    rw [List.take_succ_eq_append_getElem (by omega), List.map_append, List.map_cons, List.map_nil, tsz_snoc, Nat.succ_mul]
    have := (hf (l[j]'(by omega)) (List.getElem_mem _) 1 (by decide) (by decide)).1
    omega
  rw [List.length_map, List.length_take, Nat.min_eq_left hj] at h1
  have e : j * (m + 2) = j * (m + 1) + j := by rw [show m + 2 = (m + 1) + 1 by omega, Nat.mul_add, Nat.mul_one]
  omega
 have hbig : l.length * (m + 2) ≤ 100 * 1000002 := Nat.mul_le_mul hl (by omega)
 have e1 : pSemi.size = 1 := rfl
 have e2 : pComma.size = 1 := rfl
 refine ⟨?_, ?_⟩
 ·unfold listN
  rw [ByteArray.size_append]
  have := hts l.length (Nat.le_refl _)
  rw [List.take_length] at this
  omega
 unfold listN
 refine spec_of (cx_ok ord0 xs0 0) (fun _ _ h => h) Tryz.func122 rfl (by kernel_rfl) rfl (by kernel_rfl) ?_
 intro _
 conv => whnf
 refine loop_keep [0, 1] ?_
 conv => whnf
 refine loop_go (fun j : Nat => [(5, strA (cmF ((l.take j).map fun f => shN full f 1))), (6, .v (.int .i64 j))]) (fun _ => []) (fun _ => []) (fun j => j ≤ l.length) (fun j => l.length - j) 0 ?_ (Nat.zero_le _) ?_
 ·repeat' constructor
 intro j hj
 have hsz := hts j hj
 have hjm : j * (m + 2) ≤ l.length * (m + 2) := Nat.mul_le_mul_right _ hj
 conv => whnf
 by_cases hlt : j < l.length
 ·rw [decide_eq_true (show (j : Int) < l.length by omega)]
  have hr := rowOf_nts l j hlt
  obtain ⟨hs1, hsp⟩ := hf l[j] (List.getElem_mem hlt) 1 (by decide) (by decide)
  have htk : l.take (j + 1) = l.take j ++ [l[j]] := List.take_succ_eq_append_getElem hlt
  generalize l[j] = f at *
  conv => whnf
  by_cases h0 : 0 < j
  ·rw [decide_eq_true (show 0 < (j : Int) by omega)]
   have e : cmF ((l.take (j + 1)).map fun f => shN full f 1) = glueF (cmF ((l.take j).map fun f => shN full f 1) ++ pComma) (shN full f 1) := by
    rw [htk, List.map_append]
    cases hq : l.take j with
    | nil =>
     have := congrArg List.length hq
     rw [List.length_take, List.length_nil] at this
     omega
    | cons a b => exact cmF_snoc _ _ _
   generalize cmF ((l.take j).map fun f => shN full f 1) = a at *
   generalize shN full f 1 = b at *
   have hg := glue_spec (a ++ pComma) b (by rw [ByteArray.size_append]; omega) (by omega)
   conv => whnf
   refine ⟨by show a.size + pComma.size ≤ maxLen; unfold maxLen; omega, ?_⟩
   conv => whnf
   refine ⟨by omega, ?_⟩
   conv => whnf
   (generalize hrq : rowOf _ _ (ntsA l) = rq; obtain rfl : rq = ntA f := hrq.symm.trans (hr); clear hrq; conv => whnf)
   (refine call0 [] rfl (fun _ => hsp) ?_; rintro r rfl; conv => whnf)
   (refine call0 [] rfl (fun _ => hg) ?_; rintro r rfl; conv => whnf)
   refine ⟨i64r (by omega), ?_⟩
   conv => whnf
   refine ⟨j + 1, le_selH [] ?_, hlt, by omega⟩
   conv => whnf
   rw [e]
   repeat' constructor
  ·rw [decide_eq_false (show ¬ 0 < (j : Int) by omega)]
   obtain rfl : j = 0 := by omega
   have e : cmF ((l.take (0 + 1)).map fun f => shN full f 1) = glueF (cmF ((l.take 0).map fun f => shN full f 1)) (shN full f 1) := by
    rw [htk]; rfl
   have hg := glue_spec (cmF ((l.take 0).map fun f => shN full f 1)) (shN full f 1) (by omega) (by omega)
   generalize cmF ((l.take 0).map fun f => shN full f 1) = a at *
   generalize shN full f 1 = b at *
   conv => whnf
   refine ⟨by omega, ?_⟩
   conv => whnf
   (generalize hrq : rowOf _ _ (ntsA l) = rq; obtain rfl : rq = ntA f := hrq.symm.trans (hr); clear hrq; conv => whnf)
   (refine call0 [] rfl (fun _ => hsp) ?_; rintro r rfl; conv => whnf)
   (refine call0 [] rfl (fun _ => hg) ?_; rintro r rfl; conv => whnf)
   refine ⟨i64r (by omega), ?_⟩
   conv => whnf
   refine ⟨0 + 1, le_selH [] ?_, hlt, by omega⟩
   conv => whnf
   rw [e]
   repeat' constructor
 ·rw [decide_eq_false (show ¬ (j : Int) < l.length by omega)]
  rw [show j = l.length by omega, List.take_length] at hsz ⊢
  conv => whnf
  refine ⟨by show (cmF _).size + pSemi.size ≤ maxLen; unfold maxLen; omega, ?_⟩
  conv => whnf
  rfl
end Go.Proofs.YtmodkpibkkpcdaaGreatDoor.Vm
namespace Go.Proofs.YtmodkpibkkpcdaaGreatDoor.Vm
open Go.RowKit Go.Shelf
set_option linter.unusedSimpArgs false
set_option linter.unusedVariables false
set_option maxRecDepth 100000
def ordSt (id : Nat) : Tr := match Nat.beq id 3 with | true => .q 0 3 (.q 1 0 (.q 2 3 (.q 3 0 (.q 4 3 (.alt 5 1 (.alt 6 1 (.alt 7 1 (.q 8 3 (.nil)) (.nil)) (.nil)) (.nil)))))) | false => match Nat.beq id 5 with | true => .q 0 3 (.q 1 0 (.q 2 3 (.q 3 0 (.q 4 3 (.q 6 3 (.q 7 0 (.q 8 3 (.q 9 0 (.q 10 3 (.alt 5 1 (.alt 11 1 (.alt 12 1 (.alt 13 1 (.q 14 3 (.nil)) (.nil)) (.nil)) (.nil)) (.nil))))))))))) | false => match Nat.beq id 7 with | true => .q 0 3 (.q 1 0 (.q 2 3 (.q 3 0 (.q 4 3 (.q 6 3 (.q 7 0 (.q 9 3 (.q 10 0 (.q 11 3 (.q 12 3 (.alt 5 1 (.alt 8 1 (.alt 13 1 (.alt 14 1 (.alt 15 1 (.q 16 3 (.nil)) (.nil)) (.nil)) (.nil)) (.nil)) (.nil)))))))))))) | false => match Nat.beq id 20 with | true => .q 0 3 (.q 1 0 (.q 2 3 (.q 3 0 (.q 4 3 (.q 6 3 (.q 7 0 (.q 8 3 (.q 9 0 (.q 10 3 (.alt 5 1 (.alt 11 1 (.alt 12 1 (.alt 13 1 (.q 14 3 (.nil)) (.nil)) (.nil)) (.nil)) (.nil))))))))))) | false => .nil
def syncB : ByteArray := ⟨#[115, 121, 110, 99, 59]⟩
def stopB : ByteArray := ⟨#[115, 116, 111, 112, 59]⟩
def kid (l : List Nt) (i : Nat) : Nt := l.getD i (.mk 0 0 eB [])
def stB (full : Bool) (k n : Int) (s : ByteArray) (kids : List Nt) (bks : List ByteArray) : ByteArray :=
 if k = 1 then allF [s, pEq, listN full kids]
 else if k = 3 then allF [wWhile, shN full (kid kids 0) 1, bks.getD 1 eB]
 else if k = 4 then allF [wSend, shN full (kid kids 0) 1, pComma, bs (decS n.toNat), pComma, listN full (kids.drop 1)]
 else if k = 5 then allF [wTimer, bs (decS n.toNat), pSemi]
 else if k = 6 then allF [wCancel, bs (decS n.toNat), pSemi]
 else if k = 7 then syncB
 else if k = 10 then stopB
 else if k = 8 then allF [wReply, listN full kids]
 else if k = 9 then allF [wFail, listN full kids]
 else if 0 < (kid kids 2).kids.length then allF [allF [wIf, shN full (kid kids 0) 1, bks.getD 1 eB], wElse, bks.getD 2 eB] else allF [wIf, shN full (kid kids 0) 1, bks.getD 1 eB]
mutual
def stP (full : Bool) : Nt → ByteArray
 | .mk k n s kids => stB full k n s kids (bksP full kids)
def bkP (full : Bool) : Nt → ByteArray
 | .mk _ _ _ kids => (stsP full kids).foldl glueF pLb ++ pRb
def stsP (full : Bool) : List Nt → List ByteArray
 | [] => []
 | f :: l => stP full f :: stsP full l
def bksP (full : Bool) : List Nt → List ByteArray
 | [] => []
 | f :: l => bkP full f :: bksP full l
end
def ST (full : Bool) (m : Nat) (f : Nt) : Prop := (stP full f).size ≤ m ∧ Spec Tryz.prog 90 [] [.agg (ntA f), boolA full] fun _ r => r = strA (stP full f)
def BK (full : Bool) (m : Nat) (f : Nt) : Prop := (bkP full f).size ≤ m ∧ Spec Tryz.prog 55 [] [.agg (ntA f), boolA full] fun _ r => r = strA (bkP full f)
theorem rowN3 (f g h : Nt) : rowOf 4 0 (ntsA [f, g, h]) = ntA f ∧ rowOf 4 1 (ntsA [f, g, h]) = ntA g ∧ rowOf 4 2 (ntsA [f, g, h]) = ntA h := ⟨rowOf_nts [f, g, h] 0 (by simp), rowOf_nts [f, g, h] 1 (by simp), rowOf_nts [f, g, h] 2 (by simp)⟩
theorem st_one (full : Bool) (k : Int) (hk : k = 1 ∨ k = 8 ∨ k = 9) (s : ByteArray) (hs : s.size ≤ 12) (m : Nat) (hm : m ≤ 1000000) (l : List Nt) (hl : l.length ≤ 2) (hf : ∀ f ∈ l, SH full m f) : ST full (2 * m + 40) (.mk k 0 s l) := by
 obtain ⟨hz, hsp⟩ := list_spec full m hm l (by omega) hf
 have hlm : l.length * (m + 2) ≤ 2 * (m + 2) := Nat.mul_le_mul_right _ hl
 have c1 : pEq.size = 1 := rfl
 have c2 : wReply.size = 5 := rfl
 have c3 : wFail.size = 4 := rfl
 rcases hk with rfl | rfl | rfl
 ·have e : stP full (.mk 1 0 s l) = allF [s, pEq, listN full l] := rfl
  unfold ST
  rw [e]
  generalize listN full l = x at *
  have ht : tsz [s, pEq, x] ≤ 2 * m + 40 := by
   simp only [tsz_cons]
   have a0 : tsz [] = 0 := rfl
   omega
  have hal := all_spec [s, pEq, x] (by omega)
  have hsz := allF_size [s, pEq, x]
  refine ⟨by omega, ?_⟩
  refine spec_of (cx_ok ordSt xs0 0) (fun _ _ h => h) Tryz.func90 rfl (by kernel_rfl) rfl (by kernel_rfl) ?_
  intro hok
  conv => whnf
  (refine call0 [] rfl (fun _ => hsp) ?_; rintro r rfl; conv => whnf)
  (refine call0 [0] rfl (fun _ => hal) ?_; rintro r rfl; conv => whnf)
  rfl
 ·have e : stP full (.mk 8 0 s l) = allF [wReply, listN full l] := rfl
  unfold ST
  rw [e]
  generalize listN full l = x at *
  have ht : tsz [wReply, x] ≤ 2 * m + 40 := by
   simp only [tsz_cons]
   have a0 : tsz [] = 0 := rfl
   omega
  have hal := all_spec [wReply, x] (by omega)
  have hsz := allF_size [wReply, x]
  refine ⟨by omega, ?_⟩
  refine spec_of (cx_ok ordSt xs0 0) (fun _ _ h => h) Tryz.func90 rfl (by kernel_rfl) rfl (by kernel_rfl) ?_
  intro hok
  conv => whnf
  (refine call0 [] rfl (fun _ => hsp) ?_; rintro r rfl; conv => whnf)
  (refine call0 [0] rfl (fun _ => hal) ?_; rintro r rfl; conv => whnf)
  rfl
 ·have e : stP full (.mk 9 0 s l) = allF [wFail, listN full l] := rfl
  unfold ST
  rw [e]
  generalize listN full l = x at *
  have ht : tsz [wFail, x] ≤ 2 * m + 40 := by
   simp only [tsz_cons]
   have a0 : tsz [] = 0 := rfl
   omega
  have hal := all_spec [wFail, x] (by omega)
  have hsz := allF_size [wFail, x]
  refine ⟨by omega, ?_⟩
  refine spec_of (cx_ok ordSt xs0 0) (fun _ _ h => h) Tryz.func90 rfl (by kernel_rfl) rfl (by kernel_rfl) ?_
  intro hok
  conv => whnf
  (refine call0 [] rfl (fun _ => hsp) ?_; rintro r rfl; conv => whnf)
  (refine call0 [0] rfl (fun _ => hal) ?_; rintro r rfl; conv => whnf)
  rfl
theorem st_num (full : Bool) (k : Int) (hk : k = 5 ∨ k = 6) (n : Nat) (hn : n < 1000) : ST full 40 (.mk k n eB []) := by
 have hdc := decimal_spec n (by omega)
 have hds := decS_size n (by omega)
 have c1 : pSemi.size = 1 := rfl
 have c2 : wTimer.size = 5 := rfl
 have c3 : wCancel.size = 6 := rfl
 rcases hk with rfl | rfl
 ·have e : stP full (.mk 5 n eB []) = allF [wTimer, bs (decS n), pSemi] := rfl
  unfold ST
  rw [e]
  generalize bs (decS n) = x at *
  have ht : tsz [wTimer, x, pSemi] ≤ 40 := by
   simp only [tsz_cons]
   have a0 : tsz [] = 0 := rfl
   omega
  have hal := all_spec [wTimer, x, pSemi] (by omega)
  have hsz := allF_size [wTimer, x, pSemi]
  refine ⟨by omega, ?_⟩
  refine spec_of (cx_ok ordSt xs0 0) (fun _ _ h => h) Tryz.func90 rfl (by kernel_rfl) rfl (by kernel_rfl) ?_
  intro hok
  conv => whnf
  (refine call0 [] rfl (fun _ => hdc) ?_; rintro r rfl; conv => whnf)
  (refine call0 [0] rfl (fun _ => hal) ?_; rintro r rfl; conv => whnf)
  rfl
 ·have e : stP full (.mk 6 n eB []) = allF [wCancel, bs (decS n), pSemi] := rfl
  unfold ST
  rw [e]
  generalize bs (decS n) = x at *
  have ht : tsz [wCancel, x, pSemi] ≤ 40 := by
   simp only [tsz_cons]
   have a0 : tsz [] = 0 := rfl
   omega
  have hal := all_spec [wCancel, x, pSemi] (by omega)
  have hsz := allF_size [wCancel, x, pSemi]
  refine ⟨by omega, ?_⟩
  refine spec_of (cx_ok ordSt xs0 0) (fun _ _ h => h) Tryz.func90 rfl (by kernel_rfl) rfl (by kernel_rfl) ?_
  intro hok
  conv => whnf
  (refine call0 [] rfl (fun _ => hdc) ?_; rintro r rfl; conv => whnf)
  (refine call0 [0] rfl (fun _ => hal) ?_; rintro r rfl; conv => whnf)
  rfl
theorem st_wrd (full : Bool) (k : Int) (hk : k = 7 ∨ k = 10) : ST full 40 (.mk k 0 eB []) := by
 rcases hk with rfl | rfl
 ·refine ⟨show syncB.size ≤ 40 by decide, ?_⟩
  refine spec_of (cx_ok ordSt xs0 0) (fun _ _ h => h) Tryz.func90 rfl (by kernel_rfl) rfl (by kernel_rfl) ?_
  intro hok
  conv => whnf
  rfl
 ·refine ⟨show stopB.size ≤ 40 by decide, ?_⟩
  refine spec_of (cx_ok ordSt xs0 0) (fun _ _ h => h) Tryz.func90 rfl (by kernel_rfl) rfl (by kernel_rfl) ?_
  intro hok
  conv => whnf
  rfl
theorem st_snd (full : Bool) (n : Nat) (hn : n < 1000) (m : Nat) (hm : m ≤ 1000000) (f g h : Nt) (hf : SH full m f) (hg : SH full m g) (hh : SH full m h) : ST full (3 * m + 80) (.mk 4 n eB [f, g, h]) := by
 obtain ⟨hz, hsp2⟩ := list_spec full m hm [g, h] (by simp) (fun x hx => by
  simp only [List.mem_cons, List.not_mem_nil, or_false] at hx
  rcases hx with rfl | rfl
  ·exact hg
  ·exact hh)
 obtain ⟨hs1, hsp⟩ := hf 1 (by decide) (by decide)
 have hdc := decimal_spec n (by omega)
 have hds := decS_size n (by omega)
 have c1 : pComma.size = 1 := rfl
 have c2 : wSend.size = 4 := rfl
 have c3 : [g, h].length = 2 := rfl
 have e : stP full (.mk 4 n eB [f, g, h]) = allF [wSend, shN full f 1, pComma, bs (decS n), pComma, listN full [g, h]] := rfl
 unfold ST
 rw [e]
 generalize listN full [g, h] = x at *
 generalize bs (decS n) = d at *
 generalize shN full f 1 = y at *
 rw [c3] at hz
 have ht : tsz [wSend, y, pComma, d, pComma, x] ≤ 3 * m + 80 := by
  simp only [tsz_cons]
  have a0 : tsz [] = 0 := rfl
  omega
 have hal := all_spec [wSend, y, pComma, d, pComma, x] (by omega)
 have hsz := allF_size [wSend, y, pComma, d, pComma, x]
 refine ⟨by omega, ?_⟩
 have hr := (rowN3 f g h).1
 have hdr : ((ntsA [f, g, h]).drop 4).take 8 = ntsA [g, h] := by
  rw [ntsA_cons f [g, h], List.drop_left' (by rfl), List.take_of_length_le (by rw [ntsA_len]; simp)]
 refine spec_of (cx_ok ordSt xs0 0) (fun _ _ h => h) Tryz.func90 rfl (by kernel_rfl) rfl (by kernel_rfl) ?_
 intro hok
 conv => whnf
 refine ⟨by simp [Nt.kids], ?_⟩
 conv => whnf
 (generalize hrq : rowOf _ _ (ntsA (Nt.mk 4 n eB [f, g, h]).kids) = rq; obtain rfl : rq = ntA f := hrq.symm.trans (hr); clear hrq; conv => whnf)
 refine ⟨by simp [Nt.kids], ?_⟩
 conv => whnf
 (refine call0 [] rfl (fun _ => hsp) ?_; rintro r rfl; conv => whnf)
 (refine call0 [] rfl (fun _ => hdc) ?_; rintro r rfl; conv => whnf)
 rw [← hdr] at hsp2
 (refine call0 [] rfl (fun _ => hsp2) ?_; rintro r rfl; conv => whnf)
 (refine call0 [0] rfl (fun _ => hal) ?_; rintro r rfl; conv => whnf)
 rfl
theorem st_whi (full : Bool) (m : Nat) (hm : m ≤ 100000000) (c b : Nt) (hc : SH full m c) (hb : BK full m b) : ST full (2 * m + 40) (.mk 3 0 eB [c, b]) := by
 obtain ⟨hs1, hsp⟩ := hc 1 (by decide) (by decide)
 obtain ⟨hs2, hsp2⟩ := hb
 have c2 : wWhile.size = 5 := rfl
 have e : stP full (.mk 3 0 eB [c, b]) = allF [wWhile, shN full c 1, bkP full b] := rfl
 unfold ST
 rw [e]
 generalize shN full c 1 = y at *
 generalize bkP full b = x at *
 have ht : tsz [wWhile, y, x] ≤ 2 * m + 40 := by
  simp only [tsz_cons]
  have a0 : tsz [] = 0 := rfl
  omega
 have hal := all_spec [wWhile, y, x] (by omega)
 have hsz := allF_size [wWhile, y, x]
 refine ⟨by omega, ?_⟩
 have hr := rowN20 c b
 have hr2 := rowN21 c b
 refine spec_of (cx_ok ordSt xs0 0) (fun _ _ h => h) Tryz.func90 rfl (by kernel_rfl) rfl (by kernel_rfl) ?_
 intro hok
 conv => whnf
 refine ⟨by simp [Nt.kids], ?_⟩
 conv => whnf
 (generalize hrq : rowOf _ _ (ntsA (Nt.mk 3 0 eB [c, b]).kids) = rq; obtain rfl : rq = ntA c := hrq.symm.trans (hr); clear hrq; conv => whnf)
 refine ⟨by simp [Nt.kids], ?_⟩
 conv => whnf
 (generalize hrq : rowOf _ _ (ntsA (Nt.mk 3 0 eB [c, b]).kids) = rq; obtain rfl : rq = ntA b := hrq.symm.trans (hr2); clear hrq; conv => whnf)
 (refine call0 [] rfl (fun _ => hsp) ?_; rintro r rfl; conv => whnf)
 (refine call0 [] rfl (fun _ => hsp2) ?_; rintro r rfl; conv => whnf)
 (refine call0 [0] rfl (fun _ => hal) ?_; rintro r rfl; conv => whnf)
 rfl
theorem st_iff (full : Bool) (m : Nat) (hm : m ≤ 50000000) (c b d : Nt) (hc : SH full m c) (hb : BK full m b) (hd : BK full m d) : ST full (3 * m + 60) (.mk 2 0 eB [c, b, d]) := by
 obtain ⟨hs1, hsp⟩ := hc 1 (by decide) (by decide)
 obtain ⟨hs2, hsp2⟩ := hb
 obtain ⟨hs3, hsp3⟩ := hd
 have c2 : wIf.size = 2 := rfl
 have c3 : wElse.size = 4 := rfl
 have e : stP full (.mk 2 0 eB [c, b, d]) = if 0 < d.kids.length then allF [allF [wIf, shN full c 1, bkP full b], wElse, bkP full d] else allF [wIf, shN full c 1, bkP full b] := rfl
 unfold ST
 rw [e]
 generalize shN full c 1 = y at *
 generalize bkP full b = x at *
 generalize bkP full d = z at *
 have ht : tsz [wIf, y, x] ≤ 2 * m + 10 := by
  simp only [tsz_cons]
  have a0 : tsz [] = 0 := rfl
  omega
 have hal := all_spec [wIf, y, x] (by omega)
 have hsz := allF_size [wIf, y, x]
 generalize allF [wIf, y, x] = v at *
 have ht2 : tsz [v, wElse, z] ≤ 3 * m + 30 := by
  simp only [tsz_cons]
  have a0 : tsz [] = 0 := rfl
  omega
 have hal2 := all_spec [v, wElse, z] (by omega)
 have hsz2 := allF_size [v, wElse, z]
 refine ⟨by split <;> omega, ?_⟩
 obtain ⟨hr, hr2, hr3⟩ := rowN3 c b d
 by_cases hl : 0 < d.kids.length
 ·rw [if_pos hl]
  refine spec_of (cx_ok ordSt xs0 0) (fun _ _ h => h) Tryz.func90 rfl (by kernel_rfl) rfl (by kernel_rfl) ?_
  intro hok
  conv => whnf
  refine ⟨by simp [Nt.kids], ?_⟩
  conv => whnf
  (generalize hrq : rowOf _ _ (ntsA (Nt.mk 2 0 eB [c, b, d]).kids) = rq; obtain rfl : rq = ntA c := hrq.symm.trans (hr); clear hrq; conv => whnf)
  refine ⟨by simp [Nt.kids], ?_⟩
  conv => whnf
  (generalize hrq : rowOf _ _ (ntsA (Nt.mk 2 0 eB [c, b, d]).kids) = rq; obtain rfl : rq = ntA b := hrq.symm.trans (hr2); clear hrq; conv => whnf)
  (refine call0 [] rfl (fun _ => hsp) ?_; rintro r rfl; conv => whnf)
  (refine call0 [] rfl (fun _ => hsp2) ?_; rintro r rfl; conv => whnf)
  (refine call0 [0] rfl (fun _ => hal) ?_; rintro r rfl; conv => whnf)
  refine ⟨by simp [Nt.kids], ?_⟩
  conv => whnf
  (generalize hrq : rowOf _ _ (ntsA (Nt.mk 2 0 eB [c, b, d]).kids) = rq; obtain rfl : rq = ntA d := hrq.symm.trans (hr3); clear hrq; conv => whnf)
  rw [decide_eq_true (show 0 < (d.kids.length : Int) by omega)]
  conv => whnf
  refine ⟨by simp [Nt.kids], ?_⟩
  conv => whnf
  (generalize hrq : rowOf _ _ (ntsA (Nt.mk 2 0 eB [c, b, d]).kids) = rq; obtain rfl : rq = ntA d := hrq.symm.trans (hr3); clear hrq; conv => whnf)
  (refine call0 [] rfl (fun _ => hsp3) ?_; rintro r rfl; conv => whnf)
  (refine call0 [1] rfl (fun _ => hal2) ?_; rintro r rfl; conv => whnf)
  rfl
 ·rw [if_neg hl]
  refine spec_of (cx_ok ordSt xs0 0) (fun _ _ h => h) Tryz.func90 rfl (by kernel_rfl) rfl (by kernel_rfl) ?_
  intro hok
  conv => whnf
  refine ⟨by simp [Nt.kids], ?_⟩
  conv => whnf
  (generalize hrq : rowOf _ _ (ntsA (Nt.mk 2 0 eB [c, b, d]).kids) = rq; obtain rfl : rq = ntA c := hrq.symm.trans (hr); clear hrq; conv => whnf)
  refine ⟨by simp [Nt.kids], ?_⟩
  conv => whnf
  (generalize hrq : rowOf _ _ (ntsA (Nt.mk 2 0 eB [c, b, d]).kids) = rq; obtain rfl : rq = ntA b := hrq.symm.trans (hr2); clear hrq; conv => whnf)
  (refine call0 [] rfl (fun _ => hsp) ?_; rintro r rfl; conv => whnf)
  (refine call0 [] rfl (fun _ => hsp2) ?_; rintro r rfl; conv => whnf)
  (refine call0 [0] rfl (fun _ => hal) ?_; rintro r rfl; conv => whnf)
  refine ⟨by simp [Nt.kids], ?_⟩
  conv => whnf
  (generalize hrq : rowOf _ _ (ntsA (Nt.mk 2 0 eB [c, b, d]).kids) = rq; obtain rfl : rq = ntA d := hrq.symm.trans (hr3); clear hrq; conv => whnf)
  rw [decide_eq_false (show ¬ 0 < (d.kids.length : Int) by omega)]
  conv => whnf
  rfl
end Go.Proofs.YtmodkpibkkpcdaaGreatDoor.Vm
namespace Go.Proofs.YtmodkpibkkpcdaaGreatDoor.Vm
open Go.RowKit Go.Shelf
set_option linter.unusedSimpArgs false
set_option linter.unusedVariables false
set_option maxRecDepth 100000
theorem stsP_map (full : Bool) : ∀ l : List Nt, stsP full l = l.map (stP full)
 | [] => rfl
 | f :: l => by rw [stsP, stsP_map full l]; rfl
def bkL (full : Bool) (l : List Nt) : ByteArray := (l.map (stP full)).foldl glueF pLb
theorem bkL_snoc (full : Bool) (l : List Nt) (f : Nt) : bkL full (l ++ [f]) = glueF (bkL full l) (stP full f) := by
 unfold bkL
 rw [List.map_append, List.foldl_append]; rfl
theorem bkP_eq (full : Bool) (k n : Int) (s : ByteArray) (l : List Nt) : bkP full (.mk k n s l) = bkL full l ++ pRb := by
 rw [bkP, stsP_map]; rfl
set_option maxHeartbeats 1000000 in
theorem bk_spec (full : Bool) (m : Nat) (hm : m ≤ 1000000) (l : List Nt) (hl : l.length ≤ 3) (hf : ∀ f ∈ l, ST full m f) : BK full (3 * m + 10) (blkN l) := by
 have hsz : ∀ j, j ≤ l.length → (bkL full (l.take j)).size ≤ j * (m + 1) + 1 := fun j hj => by
  induction j with
  | zero =>
   have : pLb.size = 1 := rfl
   rw [List.take_zero]
   show pLb.size ≤ _
   omega
  | succ j ih =>
   have := ih (by omega)
   rw [List.take_succ_eq_append_getElem (by omega), bkL_snoc, Nat.succ_mul]
   have h1 := (hf (l[j]'(by omega)) (List.getElem_mem _)).1
   have h2 := glue_size (bkL full (l.take j)) (stP full (l[j]'(by omega)))
   omega
 have e1 : pRb.size = 1 := rfl
 have hlm : l.length * (m + 1) ≤ 3 * (m + 1) := Nat.mul_le_mul_right _ hl
 unfold BK blkN
 rw [bkP_eq]
 refine ⟨?_, ?_⟩
 ·rw [ByteArray.size_append]
  have := hsz l.length (Nat.le_refl _)
  rw [List.take_length] at this
  omega
 refine spec_of (cx_ok ord0 xs0 0) (fun _ _ h => h) Tryz.func55 rfl (by kernel_rfl) rfl (by kernel_rfl) ?_
 intro _
 conv => whnf
 refine loop_keep [1, 2] ?_
 conv => whnf
 refine loop_go (fun j : Nat => [(5, strA (bkL full (l.take j))), (6, .v (.int .i64 j))]) (fun _ => [[intA 11, intA 0, strA eB, .sl 4 l.length (ntsA l)]]) (fun _ => []) (fun j => j ≤ l.length) (fun j => l.length - j) 0 ?_ (Nat.zero_le _) ?_
 ·repeat' constructor
 intro j hj
 have hs := hsz j hj
 have hjm : j * (m + 1) ≤ l.length * (m + 1) := Nat.mul_le_mul_right _ hj
 conv => whnf
 by_cases hlt : j < l.length
 ·rw [decide_eq_true (show (j : Int) < l.length by omega)]
  have hr := rowOf_nts l j hlt
  obtain ⟨hs1, hsp⟩ := hf l[j] (List.getElem_mem hlt)
  have e : bkL full (l.take (j + 1)) = glueF (bkL full (l.take j)) (stP full l[j]) := by rw [List.take_succ_eq_append_getElem hlt, bkL_snoc]
  generalize l[j] = f at *
  have hg := glue_spec (bkL full (l.take j)) (stP full f) (by omega) (by omega)
  conv => whnf
  refine ⟨by omega, ?_⟩
  conv => whnf
  (generalize hrq : rowOf _ _ (ntsA l) = rq; obtain rfl : rq = ntA f := hrq.symm.trans (hr); clear hrq; conv => whnf)
  (refine call0 [] rfl (fun _ => hsp) ?_; rintro r rfl; conv => whnf)
  (refine call0 [] rfl (fun _ => hg) ?_; rintro r rfl; conv => whnf)
  refine ⟨i64r (by omega), ?_⟩
  conv => whnf
  refine ⟨j + 1, le_selH [] ?_, hlt, by omega⟩
  conv => whnf
  rw [e]
  repeat' constructor
 ·rw [decide_eq_false (show ¬ (j : Int) < l.length by omega)]
  rw [show j = l.length by omega, List.take_length] at hs ⊢
  conv => whnf
  refine ⟨by show (bkL full l).size + pRb.size ≤ maxLen; unfold maxLen; omega, ?_⟩
  conv => whnf
  rfl
def cS : Nat → Nat
 | 0 => 900
 | d + 1 => 700 + 3 * (3 * cS d + 10)
theorem ST.mono {full : Bool} {m m' : Nat} {f : Nt} (h : ST full m f) (hm : m ≤ m') : ST full m' f := ⟨Nat.le_trans h.1 hm, h.2⟩
theorem BK.mono {full : Bool} {m m' : Nat} {f : Nt} (h : BK full m f) (hm : m ≤ m') : BK full m' f := ⟨Nat.le_trans h.1 hm, h.2⟩
theorem cS_ge : ∀ d, 900 ≤ cS d
 | 0 => Nat.le_refl _
 | d + 1 => by have := cS_ge d; unfold cS; omega
theorem st_es (full : Bool) {d : Nat} {f : Nt} (h : ES d f) : cS d ≤ 1000000 → ST full (cS d) f := by
 have i0 : cI 0 = 14 := rfl
 have i1 : cI 1 = 48 := rfl
 have i2 : cI 2 = 116 := rfl
 have i3 : cI 3 = 252 := rfl
 have hI : ∀ {e : Nat} {f : Nt}, EI e f → e ≤ 2 → SH full 252 f := fun {e f} h he => by
  rcases (by omega : e = 0 ∨ e = 1 ∨ e = 2) with rfl | rfl | rfl
  ·exact (sh_ei full h (by decide)).mono (by decide)
  ·exact (sh_ei full h (by decide)).mono (by decide)
  ·exact (sh_ei full h (by decide)).mono (by decide)
 have hB : ∀ {e : Nat} {f : Nt}, EB e f → e = 1 ∨ e = 2 → SH full 252 f := fun {e f} h he => by
  rcases he with rfl | rfl
  ·exact (sh_eb full h (by decide)).mono (by decide)
  ·exact (sh_eb full h (by decide)).mono (by decide)
 have one : ∀ {f : Nt}, SH full 252 f → ∀ x ∈ [f], SH full 252 x := fun {f} h x hx => by rw [List.mem_singleton.1 hx]; exact h
 have two : ∀ {f g : Nt}, SH full 252 f → SH full 252 g → ∀ x ∈ [f, g], SH full 252 x := fun {f g} h k x hx => by
  rcases List.mem_cons.1 hx with rfl | hx
  ·exact h
  ·rw [List.mem_singleton.1 hx]; exact k
 induction h with
 | asg d e s f hs h he => exact fun _ => (st_one full 1 (.inl rfl) s (varL_sz s hs) 252 (by decide) [f] (by simp) (one (hI h he))).mono (Nat.le_trans (by decide) (cS_ge d))
 | snd d n f g h hn h1 h2 h3 => exact fun _ => (st_snd full n (by omega) 252 (by decide) f g h (hI h1 (by decide)) (hI h2 (by decide)) (hI h3 (by decide))).mono (Nat.le_trans (by decide) (cS_ge d))
 | tim d n hn => exact fun _ => (st_num full 5 (.inl rfl) n (by omega)).mono (Nat.le_trans (by decide) (cS_ge d))
 | can d n hn => exact fun _ => (st_num full 6 (.inr rfl) n (by omega)).mono (Nat.le_trans (by decide) (cS_ge d))
 | syn d => exact fun _ => (st_wrd full 7 (.inl rfl)).mono (Nat.le_trans (by decide) (cS_ge d))
 | rep d f g h1 h2 => exact fun _ => (st_one full 8 (.inr (.inl rfl)) eB (by decide) 252 (by decide) [f, g] (by simp) (two (hI h1 (by decide)) (hI h2 (by decide)))).mono (Nat.le_trans (by decide) (cS_ge d))
 | fai d f h1 => exact fun _ => (st_one full 9 (.inr (.inr rfl)) eB (by decide) 252 (by decide) [f] (by simp) (one (hI h1 (by decide)))).mono (Nat.le_trans (by decide) (cS_ge d))
 | stp d => exact fun _ => (st_wrd full 10 (.inr rfl)).mono (Nat.le_trans (by decide) (cS_ge d))
 | whi d c l h1 h2 h3 ih =>
  intro hc
  have e : cS (d + 1) = 700 + 3 * (3 * cS d + 10) := rfl
  rw [e] at hc ⊢
  have hge := cS_ge d
  have hb := bk_spec full (cS d) (by omega) l (by omega) (fun s hs => ih s hs (by omega))
  exact (st_whi full (3 * cS d + 10) (by omega) c (blkN l) ((hB h1 (.inl rfl)).mono (by omega)) hb).mono (by omega)
 | iff d c l m h1 h2 h3 h4 h5 ih1 ih2 =>
  intro hc
  have e : cS (d + 1) = 700 + 3 * (3 * cS d + 10) := rfl
  rw [e] at hc ⊢
  have hge := cS_ge d
  have hb := bk_spec full (cS d) (by omega) l (by omega) (fun s hs => ih1 s hs (by omega))
  have hb2 := bk_spec full (cS d) (by omega) m (by omega) (fun s hs => ih2 s hs (by omega))
  exact (st_iff full (3 * cS d + 10) (by omega) c (blkN l) (blkN m) ((hB h1 (.inr rfl)).mono (by omega)) hb hb2).mono (by omega)
theorem bk_ek (full : Bool) {b : Nt} (h : EK b) : BK full 300000 b := by
 obtain ⟨k, rfl, h1, h2⟩ := h
 have e2 : cS 2 = 80200 := rfl
 exact (bk_spec full (cS 2) (by omega) k h1 (fun s hs => st_es full (h2 s hs) (by omega))).mono (by omega)
end Go.Proofs.YtmodkpibkkpcdaaGreatDoor.Vm
namespace Go.Proofs.YtmodkpibkkpcdaaGreatDoor.Vm
open Go.RowKit Go.Shelf
set_option linter.unusedSimpArgs false
set_option linter.unusedVariables false
set_option maxRecDepth 100000
def wMsgS : ByteArray := ⟨#[109, 101, 115, 115, 97, 103, 101, 32]⟩
def wTimS : ByteArray := ⟨#[116, 105, 109, 101, 114, 32]⟩
def hdW (n : Int) : ByteArray := if n = 1 then wRequest else if 10 ≤ n then wMsgS ++ bs (decS (n - 10).toNat) else if 2 ≤ n then wTimS ++ bs (decS (n - 2).toNat) else wStart
def hdN (full : Bool) (h : Int × Nt) : ByteArray := allF [wOn, hdW h.1, bkP full h.2]
def HN (full : Bool) (h : Int × Nt) : Prop := (hdN full h).size ≤ 400000 ∧ Spec Tryz.prog 32 [] [.agg (hnA h), boolA full] fun _ r => r = strA (hdN full h)
theorem hd_spec (full : Bool) (h : Int × Nt) (hn : 0 ≤ h.1 ∧ h.1 < 40) (hb : BK full 300000 h.2) : HN full h := by
 obtain ⟨hs1, hsp⟩ := hb
 have hw : (hdW h.1).size ≤ 20 := by
  unfold hdW
  have a1 : wRequest.size = 7 := rfl
  have a2 : wMsgS.size = 8 := rfl
  have a3 : wTimS.size = 6 := rfl
  have a4 : wStart.size = 5 := rfl
  have d1 := decS_size (h.1 - 10).toNat (by omega)
  have d2 := decS_size (h.1 - 2).toNat (by omega)
  repeat' split
  all_goals (try simp only [ByteArray.size_append]); omega
 have ht : tsz [wOn, hdW h.1, bkP full h.2] ≤ 350000 := by
  simp only [tsz_cons]
  have a0 : tsz [] = 0 := rfl
  have a1 : wOn.size = 2 := rfl
  omega
 have hal := all_spec [wOn, hdW h.1, bkP full h.2] (by omega)
 have hsz := allF_size [wOn, hdW h.1, bkP full h.2]
 unfold HN hdN
 refine ⟨by omega, ?_⟩
 generalize bkP full h.2 = x at *
 obtain ⟨R, hR⟩ : ∃ R, hdW h.1 = R := ⟨_, rfl⟩
 rw [hR] at hal hsz ht hw ⊢
 unfold hdW at hR
 have b2 : wMsgS.size = 8 := rfl
 have b3 : wTimS.size = 6 := rfl
 refine spec_of (cx_ok ord0 xs0 0) (fun _ _ h => h) Tryz.func32 rfl (by kernel_rfl) rfl (by kernel_rfl) ?_
 intro _
 conv => whnf
 by_cases h1 : h.1 = 1
 ·rw [if_pos h1] at hR
  subst hR
  rw [decide_eq_true h1]
  conv => whnf
  (refine call0 [] rfl (fun _ => hsp) ?_; rintro r rfl; conv => whnf)
  (refine call0 [0] rfl (fun _ => hal) ?_; rintro r rfl; conv => whnf)
  rfl
 rw [if_neg h1] at hR
 rw [decide_eq_false h1]
 conv => whnf
 by_cases h10 : 10 ≤ h.1
 ·rw [if_pos h10] at hR
  have hdc := decimal_spec (h.1 - 10).toNat (by omega)
  have d1 := decS_size (h.1 - 10).toNat (by omega)
  rw [show (((h.1 - 10).toNat : Nat) : Int) = h.1 - 10 by omega] at hdc
  generalize bs (decS (h.1 - 10).toNat) = d at *
  subst hR
  rw [decide_eq_true h10]
  conv => whnf
  refine ⟨i64r (by omega), ?_⟩
  conv => whnf
  (refine call0 [] rfl (fun _ => hdc) ?_; rintro r rfl; conv => whnf)
  refine ⟨by show wMsgS.size + d.size ≤ maxLen; unfold maxLen; omega, ?_⟩
  conv => whnf
  (refine call0 [] rfl (fun _ => hsp) ?_; rintro r rfl; conv => whnf)
  (refine call0 [0] rfl (fun _ => hal) ?_; rintro r rfl; conv => whnf)
  rfl
 rw [if_neg h10] at hR
 rw [decide_eq_false h10]
 conv => whnf
 by_cases h2 : 2 ≤ h.1
 ·rw [if_pos h2] at hR
  have hdc := decimal_spec (h.1 - 2).toNat (by omega)
  have d1 := decS_size (h.1 - 2).toNat (by omega)
  rw [show (((h.1 - 2).toNat : Nat) : Int) = h.1 - 2 by omega] at hdc
  generalize bs (decS (h.1 - 2).toNat) = d at *
  subst hR
  rw [decide_eq_true h2]
  conv => whnf
  refine ⟨i64r (by omega), ?_⟩
  conv => whnf
  (refine call0 [] rfl (fun _ => hdc) ?_; rintro r rfl; conv => whnf)
  refine ⟨by show wTimS.size + d.size ≤ maxLen; unfold maxLen; omega, ?_⟩
  conv => whnf
  (refine call0 [] rfl (fun _ => hsp) ?_; rintro r rfl; conv => whnf)
  (refine call0 [0] rfl (fun _ => hal) ?_; rintro r rfl; conv => whnf)
  rfl
 rw [if_neg h2] at hR
 subst hR
 rw [decide_eq_false h2]
 conv => whnf
 (refine call0 [] rfl (fun _ => hsp) ?_; rintro r rfl; conv => whnf)
 (refine call0 [0] rfl (fun _ => hal) ?_; rintro r rfl; conv => whnf)
 rfl
def naF (l : List ByteArray) : ByteArray := match l with
 | [] => eB
 | x :: l => l.foldl (fun a y => a ++ pComma ++ y) (eB ++ x)
theorem naF_snoc (x : ByteArray) (l : List ByteArray) (y : ByteArray) : naF (x :: l ++ [y]) = naF (x :: l) ++ pComma ++ y := by
 unfold naF
 show (l ++ [y]).foldl _ _ = _
 rw [List.foldl_append]; rfl
theorem naF_step (l : List ByteArray) (j : Nat) (h : j < l.length) : naF (l.take (j + 1)) = (if 0 < j then naF (l.take j) ++ pComma else naF (l.take j)) ++ l[j] := by
 rw [List.take_succ_eq_append_getElem h]
 by_cases h0 : 0 < j
 ·rw [if_pos h0]
  cases hq : l.take j with
  | nil =>
   have := congrArg List.length hq
   rw [List.length_take, List.length_nil] at this
   omega
  | cons a b => exact naF_snoc _ _ _
 ·rw [if_neg h0]
  obtain rfl : j = 0 := by omega
  rfl
theorem naF_size (l : List ByteArray) (hs : ∀ x ∈ l, x.size ≤ 100) : ∀ j, j ≤ l.length → (naF (l.take j)).size ≤ j * 101
 | 0, _ => by rw [List.take_zero]; exact Nat.zero_le _
 | j + 1, h => by
  have ih := naF_size l hs j (by omega)
  have := hs _ (List.getElem_mem (show j < l.length by omega))
  have e1 : pComma.size = 1 := rfl
  rw [naF_step l j (by omega), ByteArray.size_append]
  split
  ·rw [ByteArray.size_append]; omega
  ·omega
def spB : ByteArray := ⟨#[32]⟩
def nmF (w : ByteArray) (l : List ByteArray) : ByteArray := if naF l = ⟨#[]⟩ then ⟨#[]⟩ else w ++ spB ++ naF l ++ pSemi
theorem nmF_size (w : ByteArray) (l : List ByteArray) (hl : l.length ≤ 20) (hs : ∀ x ∈ l, x.size ≤ 100) (hw : w.size ≤ 20) : (nmF w l).size ≤ 2100 := by
 have h := naF_size l hs l.length (Nat.le_refl _)
 rw [List.take_length] at h
 have a1 : spB.size = 1 := rfl
 have a2 : pSemi.size = 1 := rfl
 unfold nmF
 split
 ·exact (by decide : (⟨#[]⟩ : ByteArray).size ≤ 2100)
 ·simp only [ByteArray.size_append]; omega
theorem names_spec (w : ByteArray) (l : List ByteArray) (hl : l.length ≤ 20) (hs : ∀ x ∈ l, x.size ≤ 100) (hw : w.size ≤ 20) : Spec Tryz.prog 33 [] [strA w, .sl 1 l.length (txA l)] fun _ r => r = strA (nmF w l) := by
 unfold nmF
 have a1 : spB.size = 1 := rfl
 have a2 : pSemi.size = 1 := rfl
 have a3 : pComma.size = 1 := rfl
 refine spec_of (cx_ok ord0 xs0 0) (fun _ _ h => h) Tryz.func33 rfl (by kernel_rfl) rfl (by kernel_rfl) ?_
 intro _
 conv => whnf
 refine loop_keep [0, 1] ?_
 conv => whnf
 refine loop_go (fun j : Nat => [(5, strA (naF (l.take j))), (6, .v (.int .i64 j))]) (fun _ => []) (fun _ => []) (fun j => j ≤ l.length) (fun j => l.length - j) 0 ?_ (Nat.zero_le _) ?_
 ·repeat' constructor
 intro j hj
 have hsz := naF_size l hs j hj
 conv => whnf
 by_cases hlt : j < l.length
 ·rw [decide_eq_true (show (j : Int) < l.length by omega)]
  have hr : rowOf 1 j (txA l) = [strA l[j]] := rowOf_map strA l j hlt
  have hx := hs _ (List.getElem_mem hlt)
  have e := naF_step l j hlt
  generalize l[j] = x at *
  conv => whnf
  by_cases h0 : 0 < j
  ·rw [decide_eq_true (show 0 < (j : Int) by omega)]
   rw [if_pos h0] at e
   generalize naF (l.take j) = a at *
   conv => whnf
   refine ⟨by show a.size + pComma.size ≤ maxLen; unfold maxLen; omega, ?_⟩
   conv => whnf
   refine ⟨by omega, ?_⟩
   conv => whnf
   (generalize hrq : rowOf _ _ (txA l) = rq; obtain rfl : rq = [strA x] := hrq.symm.trans (hr); clear hrq; conv => whnf)
   refine ⟨by show (a ++ pComma).size + x.size ≤ maxLen; rw [ByteArray.size_append]; unfold maxLen; omega, ?_⟩
   conv => whnf
   refine ⟨i64r (by omega), ?_⟩
   conv => whnf
   refine ⟨j + 1, le_selH [] ?_, hlt, by omega⟩
   conv => whnf
   rw [e]
   repeat' constructor
  ·rw [decide_eq_false (show ¬ 0 < (j : Int) by omega)]
   rw [if_neg h0] at e
   generalize naF (l.take j) = a at *
   conv => whnf
   refine ⟨by omega, ?_⟩
   conv => whnf
   (generalize hrq : rowOf _ _ (txA l) = rq; obtain rfl : rq = [strA x] := hrq.symm.trans (hr); clear hrq; conv => whnf)
   refine ⟨by show a.size + x.size ≤ maxLen; unfold maxLen; omega, ?_⟩
   conv => whnf
   refine ⟨i64r (by omega), ?_⟩
   conv => whnf
   refine ⟨j + 1, le_selH [] ?_, hlt, by omega⟩
   conv => whnf
   rw [e]
   repeat' constructor
 ·rw [decide_eq_false (show ¬ (j : Int) < l.length by omega)]
  rw [show j = l.length by omega, List.take_length] at hsz ⊢
  generalize naF l = a at *
  conv => whnf
  by_cases he : a = ⟨#[]⟩
  ·rw [if_pos he, decide_eq_true he]
   conv => whnf
   rfl
  ·rw [if_neg he, decide_eq_false he]
   conv => whnf
   refine ⟨by show w.size + spB.size ≤ maxLen; unfold maxLen; omega, ?_⟩
   conv => whnf
   refine ⟨by show (w ++ spB).size + a.size ≤ maxLen; rw [ByteArray.size_append]; unfold maxLen; omega, ?_⟩
   conv => whnf
   refine ⟨by show (w ++ spB ++ a).size + pSemi.size ≤ maxLen; rw [ByteArray.size_append, ByteArray.size_append]; unfold maxLen; omega, ?_⟩
   conv => whnf
   rfl
end Go.Proofs.YtmodkpibkkpcdaaGreatDoor.Vm
namespace Go.Proofs.YtmodkpibkkpcdaaGreatDoor.Vm
open Go.RowKit Go.Shelf
set_option linter.unusedSimpArgs false
set_option linter.unusedVariables false
set_option maxRecDepth 100000
def hdsF (full : Bool) (a : ByteArray) (l : List (Int × Nt)) : ByteArray := l.foldl (fun a h => glueF a (hdN full h)) a
theorem hdsF_snoc (full : Bool) (a : ByteArray) (l : List (Int × Nt)) (h : Int × Nt) : hdsF full a (l ++ [h]) = glueF (hdsF full a l) (hdN full h) := by
 unfold hdsF; rw [List.foldl_append]; rfl
theorem hdsF_size (full : Bool) (a : ByteArray) (l : List (Int × Nt)) (hl : ∀ h ∈ l, (hdN full h).size ≤ 400000) : (hdsF full a l).size ≤ a.size + l.length * 400001 := by
 induction l generalizing a with
 | nil => exact Nat.le_add_right _ _
 | cons h l ih =>
  have h1 := ih (glueF a (hdN full h)) (fun x hx => hl x (List.mem_cons_of_mem _ hx))
  have h2 := glue_size a (hdN full h)
  have h3 := hl h List.mem_cons_self
  have e : hdsF full a (h :: l) = hdsF full (glueF a (hdN full h)) l := rfl
  rw [e, List.length_cons, Nat.succ_mul]
  omega
def prF (u : Ut) : ByteArray := hdsF false (nmF wDurable u.du ++ nmF wVolatile u.vo) u.on
def loF (u : Ut) : ByteArray := hdsF true (nmF wVolatile u.vo ++ nmF wDurable u.du) u.on.reverse
structure PU6 (u : Ut) : Prop where
 du : u.du.length ≤ 20 ∧ ∀ x ∈ u.du, x.size ≤ 100
 vo : u.vo.length ≤ 20 ∧ ∀ x ∈ u.vo, x.size ≤ 100
 on : u.on.length ≤ 4
 hd : ∀ full, ∀ h ∈ u.on, HN full h
theorem GU.pu {u : Ut} (h : GU u) : PU6 u := by
 obtain ⟨h1, h2, h3, h4, h5⟩ := h
 refine ⟨by rw [h1]; decide, by rw [h2]; decide, by omega, fun full x hx => ?_⟩
 obtain ⟨g1, g2, g3⟩ := h3 x hx
 exact hd_spec full x ⟨g1, g2⟩ (bk_ek full g3)
theorem prF_size {u : Ut} (h : PU6 u) : (prF u).size ≤ 2000000 ∧ (loF u).size ≤ 2000000 := by
 have n1 := nmF_size wDurable u.du h.du.1 h.du.2 (by decide)
 have n2 := nmF_size wVolatile u.vo h.vo.1 h.vo.2 (by decide)
 have ho := h.on
 have hm : u.on.length * 400001 ≤ 4 * 400001 := Nat.mul_le_mul_right _ ho
 have s1 := hdsF_size false (nmF wDurable u.du ++ nmF wVolatile u.vo) u.on (fun x hx => (h.hd false x hx).1)
 have s2 := hdsF_size true (nmF wVolatile u.vo ++ nmF wDurable u.du) u.on.reverse (fun x hx => (h.hd true x (List.mem_reverse.1 hx)).1)
 rw [ByteArray.size_append] at s1 s2
 rw [List.length_reverse] at s2
 unfold prF loF
 omega
def ordPt (id : Nat) : Tr := match Nat.beq id 1 with | true => .q 0 3 (.q 1 0 (.q 3 3 (.q 4 0 (.alt 2 1 (.alt 5 1 (.q 6 3 (.q 7 3 (.nil))) (.nil)) (.nil))))) | false => .nil
theorem rprint {u : Ut} (h : PU6 u) : Spec Tryz.prog 12 [] [.agg (utA u)] fun _ r => r = strA (prF u) := by
 have t1 := names_spec wDurable u.du h.du.1 h.du.2 (by decide)
 have t2 := names_spec wVolatile u.vo h.vo.1 h.vo.2 (by decide)
 have n1 := nmF_size wDurable u.du h.du.1 h.du.2 (by decide)
 have n2 := nmF_size wVolatile u.vo h.vo.1 h.vo.2 (by decide)
 have hh := h.hd false
 have ho := h.on
 unfold prF
 generalize nmF wDurable u.du = x at *
 generalize nmF wVolatile u.vo = y at *
 have hsz : ∀ j, (hdsF false (x ++ y) (u.on.take j)).size ≤ 2000000 := fun j => by
  have s1 := hdsF_size false (x ++ y) (u.on.take j) (fun z hz => (hh z (List.mem_of_mem_take hz)).1)
  rw [ByteArray.size_append] at s1
  have hm : (u.on.take j).length * 400001 ≤ 4 * 400001 := Nat.mul_le_mul_right _ (by rw [List.length_take]; omega)
  omega
 refine spec_of (cx_ok ordPt xs0 0) (fun _ _ h => h) Tryz.func12 rfl (by kernel_rfl) rfl (by kernel_rfl) ?_
 intro _
 conv => whnf
 (refine call0 [] rfl (fun _ => t1) ?_; rintro r rfl; conv => whnf)
 (refine call0 [] rfl (fun _ => t2) ?_; rintro r rfl; conv => whnf)
 refine ⟨by show x.size + y.size ≤ maxLen; unfold maxLen; omega, ?_⟩
 conv => whnf
 refine loop_keep [1] ?_
 conv => whnf
 refine loop_go (fun j : Nat => [(3, strA (hdsF false (x ++ y) (u.on.take j))), (4, .v (.int .i64 j))]) (fun _ => [utA u]) (fun _ => []) (fun j => j ≤ u.on.length) (fun j => u.on.length - j) 0 ?_ (Nat.zero_le _) ?_
 ·repeat' constructor
 intro j hj
 have hs := hsz j
 conv => whnf
 by_cases hlt : j < u.on.length
 ·rw [decide_eq_true (show (j : Int) < u.on.length by omega)]
  have hr := rowOf_hns u.on j hlt
  obtain ⟨hs1, hsp⟩ := hh u.on[j] (List.getElem_mem hlt)
  have e : hdsF false (x ++ y) (u.on.take (j + 1)) = glueF (hdsF false (x ++ y) (u.on.take j)) (hdN false u.on[j]) := by rw [List.take_succ_eq_append_getElem hlt, hdsF_snoc]
  generalize u.on[j] = f at *
  have hg := glue_spec (hdsF false (x ++ y) (u.on.take j)) (hdN false f) (by omega) (by omega)
  conv => whnf
  refine ⟨by omega, ?_⟩
  conv => whnf
  (generalize hrq : rowOf _ _ (hnsA u.on) = rq; obtain rfl : rq = hnA f := hrq.symm.trans (hr); clear hrq; conv => whnf)
  (refine call0 [] rfl (fun _ => hsp) ?_; rintro r rfl; conv => whnf)
  (refine call0 [] rfl (fun _ => hg) ?_; rintro r rfl; conv => whnf)
  refine ⟨i64r (by omega), ?_⟩
  conv => whnf
  refine ⟨j + 1, le_selH [] ?_, hlt, by omega⟩
  conv => whnf
  rw [e]
  repeat' constructor
 ·rw [decide_eq_false (show ¬ (j : Int) < u.on.length by omega)]
  conv => whnf
  rw [show j = u.on.length by omega, List.take_length]
  rfl
theorem rloose {u : Ut} (h : PU6 u) : Spec Tryz.prog 17 [] [.agg (utA u)] fun _ r => r = strA (loF u) := by
 have t1 := names_spec wDurable u.du h.du.1 h.du.2 (by decide)
 have t2 := names_spec wVolatile u.vo h.vo.1 h.vo.2 (by decide)
 have n1 := nmF_size wDurable u.du h.du.1 h.du.2 (by decide)
 have n2 := nmF_size wVolatile u.vo h.vo.1 h.vo.2 (by decide)
 have hh := h.hd true
 have ho := h.on
 unfold loF
 generalize nmF wDurable u.du = x at *
 generalize nmF wVolatile u.vo = y at *
 have hsz : ∀ j, (hdsF true (y ++ x) (u.on.drop j).reverse).size ≤ 2000000 := fun j => by
  have s1 := hdsF_size true (y ++ x) (u.on.drop j).reverse (fun z hz => (hh z (List.mem_of_mem_drop (List.mem_reverse.1 hz))).1)
  rw [ByteArray.size_append, List.length_reverse, List.length_drop] at s1
  have hm : (u.on.length - j) * 400001 ≤ 4 * 400001 := Nat.mul_le_mul_right _ (by omega)
  omega
 refine spec_of (cx_ok ordPt xs0 0) (fun _ _ h => h) Tryz.func17 rfl (by kernel_rfl) rfl (by kernel_rfl) ?_
 intro _
 conv => whnf
 (refine call0 [] rfl (fun _ => t2) ?_; rintro r rfl; conv => whnf)
 (refine call0 [] rfl (fun _ => t1) ?_; rintro r rfl; conv => whnf)
 refine ⟨by show y.size + x.size ≤ maxLen; unfold maxLen; omega, ?_⟩
 conv => whnf
 refine ⟨i64r (by omega), ?_⟩
 conv => whnf
 refine loop_keep [1] ?_
 conv => whnf
 refine loop_go (fun q : Nat × ByteArray => [(3, strA q.2), (4, .v (.int .i64 ((q.1 : Int) - 1)))]) (fun _ => [utA u]) (fun _ => []) (fun q => q.1 ≤ u.on.length ∧ q.2 = hdsF true (y ++ x) (u.on.drop q.1).reverse) (fun q => q.1) (u.on.length, y ++ x) ?_ ⟨Nat.le_refl _, by simp only; rw [List.drop_length]; rfl⟩ ?_
 ·repeat' constructor
 rintro ⟨j, a⟩ ⟨hj, ha⟩
 simp only at hj ha
 have hs := hsz j
 rw [← ha] at hs
 conv => whnf
 by_cases hlt : 0 < j
 ·rw [decide_eq_true (show 0 ≤ (j : Int) - 1 by omega)]
  obtain ⟨k, rfl⟩ : ∃ k, j = k + 1 := ⟨j - 1, by omega⟩
  rw [show ((k + 1 : Nat) : Int) - 1 = (k : Int) by omega]
  have hr := rowOf_hns u.on k (by omega)
  obtain ⟨hs1, hsp⟩ := hh u.on[k] (List.getElem_mem (by omega))
  have e : hdsF true (y ++ x) (u.on.drop k).reverse = glueF (hdsF true (y ++ x) (u.on.drop (k + 1)).reverse) (hdN true u.on[k]) := by rw [List.drop_eq_getElem_cons (by omega : k < u.on.length), List.reverse_cons, hdsF_snoc]
  generalize u.on[k] = f at *
  rw [← ha] at e
  have hg := glue_spec a (hdN true f) (by omega) (by omega)
  conv => whnf
  refine ⟨by omega, ?_⟩
  conv => whnf
  (generalize hrq : rowOf _ _ (hnsA u.on) = rq; obtain rfl : rq = hnA f := hrq.symm.trans (hr); clear hrq; conv => whnf)
  (refine call0 [] rfl (fun _ => hsp) ?_; rintro r rfl; conv => whnf)
  (refine call0 [] rfl (fun _ => hg) ?_; rintro r rfl; conv => whnf)
  refine ⟨i64r (by omega), ?_⟩
  conv => whnf
  refine ⟨(k, glueF a (hdN true f)), le_selH [] ?_, ⟨by simp only; omega, e.symm⟩, by simp only; omega⟩
  conv => whnf
  repeat' constructor
 ·obtain rfl : j = 0 := by omega
  conv => whnf
  rw [ha]
  rfl
end Go.Proofs.YtmodkpibkkpcdaaGreatDoor.Vm
namespace Go.Proofs.YtmodkpibkkpcdaaGreatDoor.Vm
open Go.RowKit Go.Shelf
set_option linter.unusedSimpArgs false
set_option linter.unusedVariables false
set_option maxRecDepth 100000
theorem ex_sz (s : ByteArray) (i j : Nat) : (s.extract i j).size ≤ s.size := by rw [ByteArray.size_extract]; omega
theorem broken_spec (s : ByteArray) (hs : s.size ≤ 5000000) (at' how : Int) (c : UInt8) : Spec Tryz.prog 15 [] [strA s, intA at', intA how, byteA c] fun _ r => ∃ x : ByteArray, x.size ≤ 2 * s.size + 1 ∧ r = strA x := by
 have ec : (bs [c]).size = 1 := rfl
 refine spec_of (cx_ok ord15 xs0 0) (fun _ _ h => h) Tryz.func15 rfl (by kernel_rfl) rfl (by kernel_rfl) ?_
 intro hok
 conv => whnf
 refine ⟨i64r (by omega), ?_⟩
 conv => whnf
 refine call0 [] rfl (fun _ => around_spec at' ((s.size : Int) + 1) (by omega)) ?_
 rintro r ⟨hn, rfl⟩
 have hkr := aroundF_rng (m := (s.size : Int) + 1) hn (by omega)
 generalize aroundF at' ((s.size : Int) + 1) = k at *
 conv => whnf
 repeat ((with_reducible refine And.intro ?_ ?_); (focus (first | omega | (with_reducible refine i64r ?_; (first | omega | (simp only [List.length_append, List.length_cons, List.length_nil, List.length_map, ByteArray.size_append]; omega) | (dsimp only; omega))) | (with_reducible refine max_le ?_; (first | omega | (simp only [List.length_append, List.length_cons, List.length_nil, List.length_map, ByteArray.size_append]; omega) | (dsimp only; omega))) | ((fail_if_success (with_reducible refine max_le ?_)); decide) | (simp only [List.length_append, List.length_cons, List.length_nil, List.length_map, ByteArray.size_append]; omega) | (dsimp only; omega) | ((with_reducible refine i64r ?_); dsimp only; omega))); (conv => whnf))
 refine ⟨bs [c], rfl, ?_⟩
 conv => whnf
 by_cases h0 : k = s.size
 ·rw [decide_eq_true h0]
  conv => whnf
  refine ⟨by unfold maxLen; omega, ?_⟩
  conv => whnf
  exact ⟨_, by rw [ByteArray.size_append]; omega, rfl⟩
 ·rw [decide_eq_false h0]
  conv => whnf
  refine call0 [] rfl (fun _ => around_spec how 4 (by omega)) ?_
  rintro r ⟨_, rfl⟩
  generalize aroundF how 4 = j at *
  have e1 := ex_sz s (Int.toNat 0) k.toNat
  have e2 := ex_sz s (k + 1).toNat (Int.toNat (s.size : Int))
  have e3 := ex_sz s k.toNat (Int.toNat (s.size : Int))
  conv => whnf
  by_cases j0 : j = 0
  ·rw [decide_eq_true j0]
   conv => whnf
   refine ⟨by omega, ?_⟩
   conv => whnf
   refine ⟨by (try simp only [ByteArray.size_append]); unfold maxLen; omega, ?_⟩
   conv => whnf
   refine ⟨i64r (by omega), ?_⟩
   conv => whnf
   refine ⟨by omega, ?_⟩
   conv => whnf
   refine ⟨by (try simp only [ByteArray.size_append]); unfold maxLen; omega, ?_⟩
   conv => whnf
   exact ⟨_, by (try simp only [ByteArray.size_append]); omega, rfl⟩
  ·rw [decide_eq_false j0]
   conv => whnf
   by_cases j1 : j = 1
   ·rw [decide_eq_true j1]
    conv => whnf
    refine ⟨by omega, ?_⟩
    conv => whnf
    refine ⟨i64r (by omega), ?_⟩
    conv => whnf
    refine ⟨by omega, ?_⟩
    conv => whnf
    refine ⟨by (try simp only [ByteArray.size_append]); unfold maxLen; omega, ?_⟩
    conv => whnf
    exact ⟨_, by (try simp only [ByteArray.size_append]); omega, rfl⟩
   ·rw [decide_eq_false j1]
    conv => whnf
    by_cases j2 : j = 2
    ·rw [decide_eq_true j2]
     conv => whnf
     refine ⟨by omega, ?_⟩
     conv => whnf
     exact ⟨_, by (try simp only [ByteArray.size_append]); omega, rfl⟩
    ·rw [decide_eq_false j2]
     conv => whnf
     refine ⟨by omega, ?_⟩
     conv => whnf
     refine ⟨by (try simp only [ByteArray.size_append]); unfold maxLen; omega, ?_⟩
     conv => whnf
     refine ⟨by omega, ?_⟩
     conv => whnf
     refine ⟨by (try simp only [ByteArray.size_append]); unfold maxLen; omega, ?_⟩
     conv => whnf
     exact ⟨_, by (try simp only [ByteArray.size_append]); omega, rfl⟩
def tsm (l : List Tk) : Nat := (l.map fun t => t.text.size).sum
theorem tsm_cons (t : Tk) (l : List Tk) : tsm (t :: l) = t.text.size + tsm l := by unfold tsm; simp
theorem tsm_app (l m : List Tk) : tsm (l ++ m) = tsm l + tsm m := by unfold tsm; simp
theorem lexG_sum : ∀ (f p : Nat) (l : List UInt8), tsm (lexG f p l).toks ≤ l.length
 | 0, p, l => by simp [lexG, tsm]
 | f + 1, p, [] => by simp [lexG, tsm]
 | f + 1, p, c :: r => by
  rw [lexG]
  split
  ·have := lexG_sum f (p + 1 + spanN noNl r) (r.drop (spanN noNl r))
   rw [List.length_drop] at this
   rw [List.length_cons]
   exact Nat.le_trans this (by omega)
  ·split
   ·have := lexG_sum f (p + 1) r
    rw [List.length_cons]
    exact Nat.le_trans this (by omega)
   ·cases ht : tokF (c :: r) with
    | bad e => simp [tsm]
    | tok k len n =>
     have := lexG_sum f (p + len) ((c :: r).drop len)
     simp only [Lx.cons, tsm_cons, bs_size, List.length_take]
     rw [List.length_drop] at this
     have h2 : min len (c :: r).length + ((c :: r).length - len) ≤ (c :: r).length := by omega
     exact Nat.le_trans (Nat.add_le_add_left this _) h2
def swL : List ByteArray := [⟨#[111, 110]⟩, ⟨#[115, 116, 97, 114, 116]⟩, ⟨#[116, 105, 109, 101, 114]⟩, ⟨#[109, 101, 115, 115, 97, 103, 101]⟩, ⟨#[100, 117, 114, 97, 98, 108, 101]⟩, ⟨#[120]⟩, ⟨#[100]⟩, ⟨#[123]⟩, ⟨#[125]⟩, ⟨#[59]⟩, ⟨#[44]⟩, ⟨#[61]⟩, ⟨#[40]⟩, ⟨#[41]⟩, ⟨#[33]⟩, ⟨#[45]⟩, ⟨#[53]⟩, ⟨#[56]⟩, ⟨#[51, 48]⟩, ⟨#[97]⟩, ⟨#[100, 114, 97, 119]⟩, ⟨#[101, 108, 115, 101]⟩, ⟨#[115, 121, 110, 99]⟩, ⟨#[60]⟩]
theorem swL_sz : ∀ x ∈ swL, x.size ≤ 8 := by decide
set_option maxHeartbeats 1000000 in
theorem swapped_spec (s : ByteArray) (hs : s.size ≤ 5000000) (at' by' : Int) : Spec Tryz.prog 16 [] [strA s, intA at', intA by'] fun _ r => ∃ x : ByteArray, x.size ≤ 20 * s.size + 100 ∧ r = strA x := by
 have htk := rtokens_spec s (by omega)
 have har2 := around_spec by' 24 (by decide)
 refine spec_of (cx_ok ord0 xs0 0) (fun _ _ h => h) Tryz.func16 rfl (by kernel_rfl) rfl (by kernel_rfl) ?_
 intro hok
 conv => whnf
 refine call0 [] rfl (fun _ => htk) ?_
 rintro r rfl
 unfold lexR
 cases herr : (lexF' s).err with
 | some pe =>
  obtain ⟨p, e⟩ := pe
  have hne := (lexG_ok (s.data.toList.length + 1) 0 s.data.toList).2 p e herr
  conv => whnf
  rw [decide_eq_false hne.2.1]
  conv => whnf
  exact ⟨s, by omega, rfl⟩
 | none =>
  have hsl := size_len s
  have hc1 := (lexG_ok (s.data.toList.length + 1) 0 s.data.toList).1
  have hc2 := lexG_sum (s.data.toList.length + 1) 0 s.data.toList
  obtain ⟨T, hT⟩ : ∃ T, (lexF' s).toks ++ [endTk s] = T := ⟨_, rfl⟩
  have hln : (lexF' s).toks.length + 1 = T.length := by rw [← hT]; simp
  have hsm : tsm T ≤ s.size := by
   rw [← hT, tsm_app]
   have e0 : tsm [endTk s] = 0 := rfl
   rw [e0, ← hsl]
   exact hc2
  have hTl : T.length ≤ s.size + 1 := by
   rw [← hln, ← hsl]
   exact Nat.succ_le_succ hc1
  rw [hT, hln]
  have hTp : 0 < T.length := by omega
  clear hT hc1 hc2 htk herr hln
  have har := around_spec at' T.length (by omega)
  conv => whnf
  refine call0 [] rfl (fun _ => har) ?_
  rintro r ⟨hi, rfl⟩
  generalize aroundF at' T.length = k at *
  obtain ⟨oA, hoA⟩ : ∃ oA, strsA swL = oA := ⟨_, rfl⟩
  conv => whnf
  refine loop_pub [0] ?_
  conv => whnf
  refine loop_sel [] ?_
  conv => whnf
  refine loop_keep [2, 7, 11] ?_
  conv => whnf
  refine loop_go (fun q : Nat × ByteArray => [(10, .sl 1 24 oA), (12, strA q.2), (13, .v (.int .i64 q.1))]) (fun _ => []) (fun _ => []) (fun q => q.1 ≤ T.length ∧ q.2.size ≤ tsm (T.take q.1) + 9 * q.1) (fun q => T.length - q.1) (0, ⟨#[]⟩) ?_ ⟨Nat.zero_le _, Nat.zero_le _⟩ ?_
  ·rw [← hoA]
   repeat' constructor
  rintro ⟨j, a⟩ ⟨hj, ha⟩
  simp only at hj ha
  have htj : tsm (T.take j) ≤ tsm T := by
   have e : tsm T = tsm (T.take j) + tsm (T.drop j) := by rw [← tsm_app, List.take_append_drop]
   omega
  conv => whnf
  by_cases hlt : j < T.length
  ·rw [decide_eq_true (show (j : Int) < T.length by omega)]
   have hr : rowOf 4 j (tksL T) = tkL T[j] := rowOf_flat tkL (fun _ => rfl) T j hlt
   have htk : tsm (T.take (j + 1)) = tsm (T.take j) + T[j].text.size := by
    rw [List.take_succ_eq_append_getElem hlt, tsm_app, tsm_cons]
    exact Nat.add_zero _
   have htj2 : tsm (T.take (j + 1)) ≤ tsm T := by
    have e : tsm T = tsm (T.take (j + 1)) + tsm (T.drop (j + 1)) := by rw [← tsm_app, List.take_append_drop]
    omega
   generalize T[j] = t at *
   conv => whnf
   refine ⟨by omega, ?_⟩
   conv => whnf
   (generalize hrq : rowOf _ _ (tksL T) = rq; obtain rfl : rq = tkL t := hrq.symm.trans (hr); clear hrq; conv => whnf)
   by_cases hjk : (j : Int) = k
   ·rw [decide_eq_true hjk]
    conv => whnf
    refine call0 [] rfl (fun _ => har2) ?_
    rintro r ⟨hi2, rfl⟩
    have hz := aroundF_rng hi2 (m := 24) (by decide)
    obtain ⟨z, hzz⟩ : ∃ z : Nat, aroundF by' 24 = z := ⟨(aroundF by' 24).toNat, by omega⟩
    rw [hzz] at hz ⊢
    have hzl : z < swL.length := by show z < 24; omega
    have hr2 : rowOf 1 z oA = [strA swL[z]] := by rw [← hoA]; exact rowOf_map strA swL z hzl
    have hw := swL_sz swL[z] (List.getElem_mem hzl)
    generalize swL[z] = w at *
    have hg := glue_spec a w (by omega) (by omega)
    have hgs := glue_size a w
    conv => whnf
    refine ⟨by omega, ?_⟩
    conv => whnf
    (generalize hrq : rowOf _ _ (oA) = rq; obtain rfl : rq = [strA w] := hrq.symm.trans (hr2); clear hrq; conv => whnf)
    (refine call0 [] rfl (fun _ => hg) ?_; rintro r rfl; conv => whnf)
    refine ⟨i64r (by omega), ?_⟩
    conv => whnf
    refine ⟨(j + 1, glueF a w), le_selH [] ?_, ⟨hlt, by simp only; omega⟩, by simp only; omega⟩
    conv => whnf
    repeat' constructor
   ·rw [decide_eq_false hjk]
    have hg := glue_spec a t.text (by omega) (by omega)
    have hgs := glue_size a t.text
    conv => whnf
    (refine call0 [] rfl (fun _ => hg) ?_; rintro r rfl; conv => whnf)
    refine ⟨i64r (by omega), ?_⟩
    conv => whnf
    refine ⟨(j + 1, glueF a t.text), le_selH [] ?_, ⟨hlt, by simp only; omega⟩, by simp only; omega⟩
    conv => whnf
    repeat' constructor
  ·rw [decide_eq_false (show ¬ (j : Int) < T.length by omega)]
   conv => whnf
   exact ⟨a, by omega, rfl⟩
theorem parses_law_spec (l : List Int) (at' how : Int) (c : UInt8) (by' : Int) : Spec Tryz.prog 3 [] [.sl 1 l.length (intsA l), intA at', intA how, byteA c, intA by'] fun _ r => r = boolA true := by
 obtain ⟨u, hu, hpg⟩ := gprog l
 have hpu := hu.pu
 have hpr := rprint hpu
 have hlo := rloose hpu
 obtain ⟨hs1, hs2⟩ := prF_size hpu
 generalize prF u = s at *
 generalize loF u = t at *
 have m1 := same_spec s (by omega)
 have m2 := same_spec t (by omega)
 have hbr := broken_spec s (by omega) at' how c
 have hsw := swapped_spec s (by omega) at' by'
 have hsm := fun x h => same_spec x h
 have h0 := plives_spec
 refine spec_of (cx_ok ord0 xs0 0) (fun _ _ h => h) Tryz.func3 rfl (by kernel_rfl) rfl (by kernel_rfl) ?_
 intro hok
 conv => whnf
 (refine call0 [] rfl (fun _ => hpg) ?_; rintro r rfl; conv => whnf)
 (refine call0 [] rfl (fun _ => hpr) ?_; rintro r rfl; conv => whnf)
 (refine call0 [] rfl (fun _ => m1) ?_; rintro r rfl; conv => whnf)
 refine call0 [] rfl (fun _ => hbr) ?_
 rintro r ⟨x, hx, rfl⟩
 conv => whnf
 (refine call0 [] rfl (fun _ => hsm x (by omega)) ?_; rintro r rfl; conv => whnf)
 refine call0 [] rfl (fun _ => hsw) ?_
 rintro r ⟨x2, hx2, rfl⟩
 conv => whnf
 (refine call0 [] rfl (fun _ => hsm x2 (by omega)) ?_; rintro r rfl; conv => whnf)
 (refine call0 [] rfl (fun _ => hpg) ?_; rintro r rfl; conv => whnf)
 (refine call0 [] rfl (fun _ => hlo) ?_; rintro r rfl; conv => whnf)
 (refine call0 [] rfl (fun _ => m2) ?_; rintro r rfl; conv => whnf)
 (refine call0 [] rfl (fun _ => h0) ?_; rintro r rfl; conv => whnf)
 rfl
end Go.Proofs.YtmodkpibkkpcdaaGreatDoor.Vm
