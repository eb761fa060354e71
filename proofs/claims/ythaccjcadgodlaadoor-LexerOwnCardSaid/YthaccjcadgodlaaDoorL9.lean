/- The laws of the lexer: their helpers. -/
import Derived.Test.YthaccjcadgodlaaDoorL8
namespace Go.Proofs.YthaccjcadgodlaaDoor.Vm
open Go.RowKit
set_option linter.unusedSimpArgs false
set_option linter.unusedVariables false
set_option maxRecDepth 100000
theorem same_spec (t : Tk) : Spec Tryd.prog 19 [] [.agg (tkL t), .agg (tkL t)] fun _ r => r = boolA true := by
  refine spec_of (cx_ok ord0 xs0 0) Tryd.func19 rfl (by kernel_rfl) rfl (by kernel_rfl) ?_
  intro _
  conv => whnf
  rw [show decide (t.kind = t.kind) = true from decide_eq_true rfl]
  conv => whnf
  rw [show decide ((t.pos : Int) = (t.pos : Int)) = true from decide_eq_true rfl]
  conv => whnf
  rw [show decide (t.text = t.text) = true from decide_eq_true rfl]
  conv => whnf
  rw [show decide (t.n = t.n) = true from decide_eq_true rfl]
  conv => whnf
  rfl
theorem lexR_ok2 {s : ByteArray} (h : (lexF' s).err = none) : lexR s = .tup [.sl 4 ((lexF' s).toks ++ [endTk s]).length (tksL ((lexF' s).toks ++ [endTk s])), intA 0, intA 0] := by
  unfold lexR
  rw [h]
  simp
theorem toks_len (s : ByteArray) : ((lexF' s).toks ++ [endTk s]).length ≤ s.size + 1 := by
  have := (lexG_ok (s.data.toList.length + 1) 0 s.data.toList).1
  have hsl := size_len s
  rw [List.length_append]
  have h2 : (lexF' s).toks.length ≤ s.data.toList.length := this
  simp only [List.length_cons, List.length_nil]
  omega
theorem equal_spec (s : ByteArray) (hs : s.size ≤ 1000000000) : Spec Tryd.prog 12 [] [.v (.string s)] fun _ r => r = boolA true := by
  have htl := toks_len s
  refine spec_of (cx_ok ord12 xs0 0) Tryd.func12 rfl (by kernel_rfl) rfl (by kernel_rfl) ?_
  intro _
  conv => whnf
  refine call0 [] rfl (fun _ => tokens_spec s hs) ?_
  rintro r rfl
  cases he : (lexF' s).err with
  | some x =>
    obtain ⟨p, e⟩ := x
    have hx := (lexG_ok (s.data.toList.length + 1) 0 s.data.toList).2 p e he
    have hsl := size_len s
    have hlx : lexR s = .tup [.v (.slice none 0 0), intA p, intA e] := by unfold lexR; rw [he]
    rw [hlx]
    conv => whnf
    refine call0 [] rfl (fun _ => rtokens_spec s hs) ?_
    rintro r rfl
    rw [hlx]
    conv => whnf
    rw [show decide ((p : Int) = (p : Int)) = true from decide_eq_true rfl]
    conv => whnf
    rw [show decide (e = e) = true from decide_eq_true rfl]
    conv => whnf
    refine loop_keep [3, 6] ?_
    conv => whnf
    refine loop_go (fun _ : Unit => [(9, .v (.int .i64 0))]) (fun _ => []) (fun _ => []) (fun _ => True) (fun _ => 0) () ?_ trivial ?_
    · repeat' constructor
    · rintro _ _
      conv => whnf
      rfl
  | none =>
    have hlx := lexR_ok2 he
    rw [hlx]
    generalize (lexF' s).toks ++ [endTk s] = us at *
    conv => whnf
    refine call0 [] rfl (fun _ => rtokens_spec s hs) ?_
    rintro r rfl
    rw [hlx]
    conv => whnf
    rw [show decide ((us.length : Int) = (us.length : Int)) = true from decide_eq_true rfl]
    conv => whnf
    refine loop_keep [3, 6] ?_
    conv => whnf
    refine loop_go (fun k : Nat => [(9, .v (.int .i64 k))]) (fun _ => []) (fun _ => []) (fun k => k ≤ us.length) (fun k => us.length - k) 0 ?_ (Nat.zero_le _) ?_
    · repeat' constructor
    · rintro k hk
      conv => whnf
      by_cases hlt : k < us.length
      · refine br_true (by simp; omega) ?_
        conv => whnf
        refine ⟨⟨by omega, by omega⟩, ?_⟩
        have hrow : rowOf 4 (Int.toNat (k : Int)) (tksL us) = tkL us[k] := rowOf_flat tkL (fun _ => rfl) us k hlt
        generalize hq : rowOf _ (Int.toNat (k : Int)) (tksL us) = q
        obtain rfl : q = tkL us[k] := hq.symm.trans hrow
        conv => whnf
        refine ⟨⟨by omega, by omega⟩, ?_⟩
        generalize hq : rowOf _ (Int.toNat (k : Int)) (tksL us) = q
        obtain rfl : q = tkL us[k] := hq.symm.trans hrow
        conv => whnf
        refine call0 [] rfl (fun _ => same_spec us[k]) ?_
        rintro r rfl
        conv => whnf
        refine ⟨i64r (by omega), ?_⟩
        conv => whnf
        refine ⟨k + 1, le_head ?_, hlt, by omega⟩
        repeat' constructor
      · refine br_false (by simp; omega) ?_
        conv => whnf
        rfl
/-! ### Around, Short, Join, Text -/
def absF (n : Int) : Int := if n < 0 then -(n + 1) else n
def aroundF (n m : Int) : Int := (absF n).tmod m
theorem absF_rng {n : Int} (hn : -9223372036854775808 ≤ n ∧ n ≤ 9223372036854775807) : 0 ≤ absF n ∧ absF n ≤ 9223372036854775807 := by unfold absF; split <;> omega
theorem aroundF_rng {n m : Int} (hn : -9223372036854775808 ≤ n ∧ n ≤ 9223372036854775807) (hm : 1 ≤ m) : 0 ≤ aroundF n m ∧ aroundF n m < m := by
  have h := absF_rng hn
  unfold aroundF
  rw [Int.tmod_eq_emod_of_nonneg h.1]
  exact ⟨Int.emod_nonneg _ (by omega), Int.emod_lt_of_pos _ (by omega)⟩
theorem around_spec (n m : Int) (hm : 1 ≤ m ∧ m ≤ 9223372036854775807) : Spec Tryd.prog 11 [] [intA n, intA m] fun _ r => (-9223372036854775808 ≤ n ∧ n ≤ 9223372036854775807) ∧ r = intA (aroundF n m) := by
  refine spec_of (cx_ok ord0 xs0 0) Tryd.func11 rfl (by kernel_rfl) rfl (by kernel_rfl) ?_
  intro hok
  have hn : -9223372036854775808 ≤ n ∧ n ≤ 9223372036854775807 := okA_int.1 hok.1
  have hab := absF_rng hn
  conv => whnf
  by_cases h : n < 0
  · refine br_true (b := decide (n < 0)) (decide_eq_true h) ?_
    conv => whnf
    refine ⟨i64r (by omega), ?_⟩
    conv => whnf
    refine ⟨i64r (by omega), ?_⟩
    conv => whnf
    refine ⟨by omega, ?_⟩
    conv => whnf
    refine ⟨hn, ?_⟩
    have : 0 - (n + 1) = absF n := by unfold absF; rw [if_pos h]; omega
    rw [this]; rfl
  · refine br_false (b := decide (n < 0)) (decide_eq_false h) ?_
    conv => whnf
    refine ⟨by omega, ?_⟩
    conv => whnf
    refine ⟨hn, ?_⟩
    have : n = absF n := by unfold absF; rw [if_neg h]
    show A.v (.int .i64 (n.tmod m)) = intA ((absF n).tmod m)
    rw [← this]; rfl
theorem short_spec (b : ByteArray) (m : Nat) (hm : m ≤ 1000000000) : Spec Tryd.prog 13 [] [.v (.string b), .v (.int .i64 m)] fun _ r => ∃ x : ByteArray, x.size ≤ m ∧ r = strA x := by
  refine spec_of (cx_ok ord0 xs0 0) Tryd.func13 rfl (by kernel_rfl) rfl (by kernel_rfl) ?_
  intro hok
  conv => whnf
  by_cases h : m < b.size
  · refine br_true (b := decide ((m : Int) < (b.size : Int))) (decide_eq_true (by omega)) ?_
    conv => whnf
    refine ⟨by omega, ?_⟩
    conv => whnf
    exact ⟨_, by rw [extract_bs, bs_size, List.length_take]; simp; omega, rfl⟩
  · refine br_false (b := decide ((m : Int) < (b.size : Int))) (decide_eq_false (by omega)) ?_
    conv => whnf
    exact ⟨b, by omega, rfl⟩
/-- Whether a blank is put between two texts. -/
def sepF (x y : UInt8) : Bool := (isLD x && isLD y) || decide ((y.toNat : Int) = 61) || decide ((y.toNat : Int) = 124) || decide ((y.toNat : Int) = 38)
def lastB (a : ByteArray) : UInt8 := a.data.toList.getD (a.size - 1) 0
def headB (b : ByteArray) : UInt8 := b.data.toList.getD 0 0
def joinF (a b : ByteArray) : ByteArray := if a = ⟨#[]⟩ then a ++ b else if b = ⟨#[]⟩ then a ++ b else if sepF (lastB a) (headB b) then a ++ ⟨#[32]⟩ ++ b else a ++ b
theorem size_pos {a : ByteArray} (h : a ≠ ⟨#[]⟩) : 0 < a.size := by
  rcases Nat.eq_zero_or_pos a.size with h0 | h0
  · exfalso
    apply h
    apply ByteArray.ext
    exact Array.eq_empty_of_size_eq_zero h0
  · exact h0
theorem joinF_size (a b : ByteArray) : (joinF a b).size ≤ a.size + b.size + 1 := by
  unfold joinF
  have h : (⟨#[32]⟩ : ByteArray).size = 1 := rfl
  split
  · rw [ByteArray.size_append]; omega
  · split
    · rw [ByteArray.size_append]; omega
    · split
      · rw [ByteArray.size_append, ByteArray.size_append, h]; omega
      · rw [ByteArray.size_append]; omega
theorem join_spec (a b : ByteArray) (ha : a.size ≤ 10000000) (hb : b.size ≤ 10000000) : Spec Tryd.prog 17 [] [.v (.string a), .v (.string b)] fun _ r => r = strA (joinF a b) := by
  have hmx : a.size + b.size + 1 ≤ maxLen := by unfold maxLen; omega
  have hsz : (a ++ b).size ≤ maxLen := by rw [ByteArray.size_append]; omega
  have hsz1 : (a ++ ⟨#[32]⟩).size ≤ maxLen := by rw [ByteArray.size_append]; show a.size + 1 ≤ _; omega
  have hsz2 : (a ++ ⟨#[32]⟩ ++ b).size ≤ maxLen := by rw [ByteArray.size_append, ByteArray.size_append]; show a.size + 1 + b.size ≤ _; omega
  refine spec_of (cx_ok ord0 xs0 0) Tryd.func17 rfl (by kernel_rfl) rfl (by kernel_rfl) ?_
  intro hok
  conv => whnf
  by_cases ha0 : a = ⟨#[]⟩
  · have hj : joinF a b = a ++ b := by unfold joinF; rw [if_pos ha0]
    rw [hj, show decide (a = ⟨#[]⟩) = true from decide_eq_true ha0]
    conv => whnf
    refine ⟨by omega, ?_⟩
    conv => whnf
    rfl
  · rw [show decide (a = ⟨#[]⟩) = false from decide_eq_false ha0]
    conv => whnf
    by_cases hb0 : b = ⟨#[]⟩
    · have hj : joinF a b = a ++ b := by unfold joinF; rw [if_neg ha0, if_pos hb0]
      rw [hj, show decide (b = ⟨#[]⟩) = true from decide_eq_true hb0]
      conv => whnf
      refine ⟨by omega, ?_⟩
      conv => whnf
      rfl
    · rw [show decide (b = ⟨#[]⟩) = false from decide_eq_false hb0]
      have h1 := size_pos ha0
      have h2 := size_pos hb0
      have hj : joinF a b = if sepF (lastB a) (headB b) then a ++ ⟨#[32]⟩ ++ b else a ++ b := by unfold joinF; rw [if_neg ha0, if_neg hb0]
      rw [hj]
      conv => whnf
      refine ⟨i64r (by omega), ?_⟩
      conv => whnf
      refine ⟨⟨by omega, by omega⟩, ?_⟩
      rw [show a.data.toList.getD (Int.toNat ((a.size : Int) - 1)) 0 = lastB a from by unfold lastB; congr 1; omega]
      generalize lastB a = x
      conv => whnf
      refine ⟨⟨by omega, by omega⟩, ?_⟩
      rw [show b.data.toList.getD (Int.toNat 0) 0 = headB b from rfl]
      generalize headB b = y
      conv => whnf
      refine call0 [] rfl (fun _ => letter_spec x) ?_
      rintro r rfl
      have fin1 : ∀ t : Bool, sepF x y = true → True := fun _ _ => trivial
      cases hx : isL x with
      | true =>
        conv => whnf
        refine call0 [] rfl (fun _ => letter_spec y) ?_
        rintro r rfl
        cases hy : isL y with
        | true =>
          conv => whnf
          rw [show sepF x y = true from by simp [sepF, isLD, *], if_pos rfl]
          conv => whnf
          refine ⟨by show a.size + 1 ≤ _; omega, ?_⟩
          conv => whnf
          refine ⟨by rw [ByteArray.size_append]; show a.size + 1 + b.size ≤ _; omega, ?_⟩
          conv => whnf
          rfl
        | false =>
          conv => whnf
          refine call0 [] rfl (fun _ => digit_spec y) ?_
          rintro r rfl
          cases hy2 : isD y with
          | true =>
            conv => whnf
            rw [show sepF x y = true from by simp [sepF, isLD, *], if_pos rfl]
            conv => whnf
            refine ⟨by show a.size + 1 ≤ _; omega, ?_⟩
            conv => whnf
            refine ⟨by rw [ByteArray.size_append]; show a.size + 1 + b.size ≤ _; omega, ?_⟩
            conv => whnf
            rfl
          | false =>
            conv => whnf
            have hxy : (isLD x && isLD y) = false := by simp [isLD, hy, hy2]
            cases h61 : decide ((y.toNat : Int) = 61) with
            | true =>
              conv => whnf
              rw [show sepF x y = true from by simp [sepF, h61], if_pos rfl]
              conv => whnf
              refine ⟨by show a.size + 1 ≤ _; omega, ?_⟩
              conv => whnf
              refine ⟨by rw [ByteArray.size_append]; show a.size + 1 + b.size ≤ _; omega, ?_⟩
              conv => whnf
              rfl
            | false =>
              conv => whnf
              cases h124 : decide ((y.toNat : Int) = 124) with
              | true =>
                conv => whnf
                rw [show sepF x y = true from by simp [sepF, h124], if_pos rfl]
                conv => whnf
                refine ⟨by show a.size + 1 ≤ _; omega, ?_⟩
                conv => whnf
                refine ⟨by rw [ByteArray.size_append]; show a.size + 1 + b.size ≤ _; omega, ?_⟩
                conv => whnf
                rfl
              | false =>
                conv => whnf
                cases h38 : decide ((y.toNat : Int) = 38) with
                | true =>
                  conv => whnf
                  rw [show sepF x y = true from by simp [sepF, h38], if_pos rfl]
                  conv => whnf
                  refine ⟨by show a.size + 1 ≤ _; omega, ?_⟩
                  conv => whnf
                  refine ⟨by rw [ByteArray.size_append]; show a.size + 1 + b.size ≤ _; omega, ?_⟩
                  conv => whnf
                  rfl
                | false =>
                  conv => whnf
                  rw [show sepF x y = false from by unfold sepF; rw [hxy, h61, h124, h38]; rfl, if_neg (by simp)]
                  refine ⟨by omega, ?_⟩
                  conv => whnf
                  rfl
      | false =>
        conv => whnf
        refine call0 [] rfl (fun _ => digit_spec x) ?_
        rintro r rfl
        cases hx2 : isD x with
        | true =>
          conv => whnf
          refine call0 [] rfl (fun _ => letter_spec y) ?_
          rintro r rfl
          cases hy : isL y with
          | true =>
            conv => whnf
            rw [show sepF x y = true from by simp [sepF, isLD, *], if_pos rfl]
            conv => whnf
            refine ⟨by show a.size + 1 ≤ _; omega, ?_⟩
            conv => whnf
            refine ⟨by rw [ByteArray.size_append]; show a.size + 1 + b.size ≤ _; omega, ?_⟩
            conv => whnf
            rfl
          | false =>
            conv => whnf
            refine call0 [] rfl (fun _ => digit_spec y) ?_
            rintro r rfl
            cases hy2 : isD y with
            | true =>
              conv => whnf
              rw [show sepF x y = true from by simp [sepF, isLD, *], if_pos rfl]
              conv => whnf
              refine ⟨by show a.size + 1 ≤ _; omega, ?_⟩
              conv => whnf
              refine ⟨by rw [ByteArray.size_append]; show a.size + 1 + b.size ≤ _; omega, ?_⟩
              conv => whnf
              rfl
            | false =>
              conv => whnf
              have hxy : (isLD x && isLD y) = false := by simp [isLD, hy, hy2]
              cases h61 : decide ((y.toNat : Int) = 61) with
              | true =>
                conv => whnf
                rw [show sepF x y = true from by simp [sepF, h61], if_pos rfl]
                conv => whnf
                refine ⟨by show a.size + 1 ≤ _; omega, ?_⟩
                conv => whnf
                refine ⟨by rw [ByteArray.size_append]; show a.size + 1 + b.size ≤ _; omega, ?_⟩
                conv => whnf
                rfl
              | false =>
                conv => whnf
                cases h124 : decide ((y.toNat : Int) = 124) with
                | true =>
                  conv => whnf
                  rw [show sepF x y = true from by simp [sepF, h124], if_pos rfl]
                  conv => whnf
                  refine ⟨by show a.size + 1 ≤ _; omega, ?_⟩
                  conv => whnf
                  refine ⟨by rw [ByteArray.size_append]; show a.size + 1 + b.size ≤ _; omega, ?_⟩
                  conv => whnf
                  rfl
                | false =>
                  conv => whnf
                  cases h38 : decide ((y.toNat : Int) = 38) with
                  | true =>
                    conv => whnf
                    rw [show sepF x y = true from by simp [sepF, h38], if_pos rfl]
                    conv => whnf
                    refine ⟨by show a.size + 1 ≤ _; omega, ?_⟩
                    conv => whnf
                    refine ⟨by rw [ByteArray.size_append]; show a.size + 1 + b.size ≤ _; omega, ?_⟩
                    conv => whnf
                    rfl
                  | false =>
                    conv => whnf
                    rw [show sepF x y = false from by unfold sepF; rw [hxy, h61, h124, h38]; rfl, if_neg (by simp)]
                    refine ⟨by omega, ?_⟩
                    conv => whnf
                    rfl
        | false =>
          conv => whnf
          have hxy : (isLD x && isLD y) = false := by simp [isLD, hx, hx2]
          cases h61 : decide ((y.toNat : Int) = 61) with
          | true =>
            conv => whnf
            rw [show sepF x y = true from by simp [sepF, h61], if_pos rfl]
            conv => whnf
            refine ⟨by show a.size + 1 ≤ _; omega, ?_⟩
            conv => whnf
            refine ⟨by rw [ByteArray.size_append]; show a.size + 1 + b.size ≤ _; omega, ?_⟩
            conv => whnf
            rfl
          | false =>
            conv => whnf
            cases h124 : decide ((y.toNat : Int) = 124) with
            | true =>
              conv => whnf
              rw [show sepF x y = true from by simp [sepF, h124], if_pos rfl]
              conv => whnf
              refine ⟨by show a.size + 1 ≤ _; omega, ?_⟩
              conv => whnf
              refine ⟨by rw [ByteArray.size_append]; show a.size + 1 + b.size ≤ _; omega, ?_⟩
              conv => whnf
              rfl
            | false =>
              conv => whnf
              cases h38 : decide ((y.toNat : Int) = 38) with
              | true =>
                conv => whnf
                rw [show sepF x y = true from by simp [sepF, h38], if_pos rfl]
                conv => whnf
                refine ⟨by show a.size + 1 ≤ _; omega, ?_⟩
                conv => whnf
                refine ⟨by rw [ByteArray.size_append]; show a.size + 1 + b.size ≤ _; omega, ?_⟩
                conv => whnf
                rfl
              | false =>
                conv => whnf
                rw [show sepF x y = false from by unfold sepF; rw [hxy, h61, h124, h38]; rfl, if_neg (by simp)]
                refine ⟨by omega, ?_⟩
                conv => whnf
                rfl
def texts36 : List ByteArray := [bs [97], bs [98, 49], bs [119, 104, 105, 108, 101], bs [120, 57, 121], bs [97, 98, 99, 100, 101, 102, 103, 104, 105, 106], bs [48], bs [55], bs [52, 50], bs [50, 49, 52, 55, 52, 56, 51, 54, 52, 55], bs [48, 48, 55], bs [124, 124], bs [38, 38], bs [60, 61], bs [62, 61], bs [61, 61], bs [33, 61], bs [123], bs [125], bs [91], bs [93], bs [40], bs [41], bs [61], bs [59], bs [44], bs [60], bs [62], bs [43], bs [45], bs [42], bs [47], bs [33], bs [97, 98, 99, 100, 101, 102, 103, 104, 105, 106, 107], bs [50, 49, 52, 55, 52, 56, 51, 54, 52, 56], bs [124], bs [65]]
def seps8 : List ByteArray := [bs [], bs [], bs [], bs [32], bs [10], bs [9], bs [35, 99, 10], bs [35, 32, 125, 32, 10, 32]]
theorem texts36_ok : texts36.length = 36 ∧ ∀ x ∈ texts36, x.size ≤ 11 := by decide +kernel
theorem seps8_ok : seps8.length = 8 ∧ ∀ x ∈ seps8, x.size ≤ 7 := by decide +kernel
theorem text_spec (l : List Int) : Spec Tryd.prog 10 [] [.sl 1 l.length (intsA l)] fun _ r => ∃ x : ByteArray, x.size ≤ 10000 ∧ r = strA x := by
  refine spec_of (cx_ok ord10 xs0 0) Tryd.func10 rfl (by kernel_rfl) rfl (by kernel_rfl) ?_
  intro hok
  conv => whnf
  refine loop_pub [0, 1] ?_
  conv => whnf
  refine loop_keep [0] ?_
  conv => whnf
  refine loop_go (fun x : Nat × ByteArray => [(3, .sl 1 36 (strsA texts36)), (4, .sl 1 8 (strsA seps8)), (5, strA x.2), (6, .v (.int .i64 x.1))]) (fun _ => []) (fun _ => []) (fun x => x.1 ≤ 30 ∧ x.1 ≤ l.length ∧ x.2.size ≤ 30 * x.1) (fun x => 30 - x.1) (0, ⟨#[]⟩) ?_ ⟨Nat.zero_le _, Nat.zero_le _, Nat.le_refl 0⟩ ?_
  · repeat' constructor
  · obtain ⟨hT1, hT2⟩ := texts36_ok
    obtain ⟨hU1, hU2⟩ := seps8_ok
    generalize texts36 = T at *
    generalize seps8 = U at *
    rintro ⟨k, x⟩ ⟨hk, hkl, hx⟩
    simp only at hk hkl hx
    conv => whnf
    by_cases hlt : k < l.length
    · rw [show decide ((((k, x).1 : Nat) : Int) < (l.length : Int)) = true from decide_eq_true (by simp only; omega)]
      conv => whnf
      by_cases h30 : k < 30
      · refine br_true (b := decide ((((k, x).1 : Nat) : Int) < 30)) (decide_eq_true (by simp only; omega)) ?_
        conv => whnf
        refine ⟨⟨by omega, by simp only; omega⟩, ?_⟩
        rw [show rowOf 1 (Int.toNat (((k, x).1 : Nat) : Int)) (intsA l) = [.v (.int .i64 l[k])] from rowOf_ints l k hlt]
        generalize l[k] = v
        conv => whnf
        refine call0 [] rfl (fun _ => around_spec v 1000000 (by omega)) ?_
        rintro r ⟨hv, rfl⟩
        have hr := aroundF_rng (m := 1000000) hv (by omega)
        generalize aroundF v 1000000 = c at *
        conv => whnf
        have hd : c.tdiv 32 = c / 32 := Int.tdiv_eq_ediv_of_nonneg hr.1
        have hm : c.tmod 32 = c % 32 := Int.tmod_eq_emod_of_nonneg hr.1
        have hd4 : c.tdiv 40 = c / 40 := Int.tdiv_eq_ediv_of_nonneg hr.1
        have hd12 : c.tdiv 1280 = c / 1280 := Int.tdiv_eq_ediv_of_nonneg hr.1
        have fin : ∀ i : Int, 0 ≤ i ∧ i < 36 → True := fun _ _ => trivial
        refine ⟨by decide, ?_⟩
        conv => whnf
        refine ⟨by decide, ?_⟩
        conv => whnf
        refine ⟨i64r (by rw [hd]; omega), ?_⟩
        conv => whnf
        refine ⟨by decide, ?_⟩
        conv => whnf
        cases h39 : decide ((c.tdiv 32).tmod 40 = 39) with
        | true =>
          conv => whnf
          refine ⟨by decide, ?_⟩
          conv => whnf
          refine ⟨i64r (by rw [hd12]; omega), ?_⟩
          conv => whnf
          refine ⟨by decide, ?_⟩
          have hidx : 0 ≤ (c.tdiv 1280).tmod 36 ∧ (c.tdiv 1280).tmod 36 < 36 := by rw [hd12, Int.tmod_eq_emod_of_nonneg (by omega)]; omega
          generalize (c.tdiv 1280).tmod 36 = ix at *
          conv => whnf
          refine ⟨by omega, ?_⟩
          have hix : ix.toNat < T.length := by omega
          have hps := hT2 T[ix.toNat] (List.getElem_mem hix)
          have hrow : rowOf 1 ix.toNat (strsA T) = [.v (.string T[ix.toNat])] := rowOf_strs T _ hix
          generalize hq : rowOf _ ix.toNat (strsA T) = q
          obtain rfl : q = [.v (.string T[ix.toNat])] := hq.symm.trans hrow
          clear hrow hq
          generalize T[ix.toNat] = pc at *
          conv => whnf
          refine ⟨by decide, ?_⟩
          conv => whnf
          refine ⟨i64r (by rw [hd4]; omega), ?_⟩
          conv => whnf
          refine ⟨by decide, ?_⟩
          have hidx2 : 0 ≤ (c.tdiv 40).tmod 8 ∧ (c.tdiv 40).tmod 8 < 8 := by rw [hd4, Int.tmod_eq_emod_of_nonneg (by omega)]; omega
          generalize (c.tdiv 40).tmod 8 = iy at *
          conv => whnf
          refine ⟨by omega, ?_⟩
          have hiy : iy.toNat < U.length := by omega
          have hus := hU2 U[iy.toNat] (List.getElem_mem hiy)
          have hrow : rowOf 1 iy.toNat (strsA U) = [.v (.string U[iy.toNat])] := rowOf_strs U _ hiy
          generalize hq : rowOf _ iy.toNat (strsA U) = q
          obtain rfl : q = [.v (.string U[iy.toNat])] := hq.symm.trans hrow
          clear hrow hq
          generalize U[iy.toNat] = uc at *
          conv => whnf
          refine call0 [] rfl (fun _ => join_spec x pc (by omega) (by omega)) ?_
          rintro r rfl
          have hjs := joinF_size x pc
          generalize joinF x pc = y at *
          conv => whnf
          refine ⟨by unfold maxLen; omega, ?_⟩
          conv => whnf
          refine ⟨i64r (by simp only; omega), ?_⟩
          conv => whnf
          refine ⟨(k + 1, y ++ uc), le_head ?_, ⟨by show k + 1 ≤ 30; omega, hlt, by show (y ++ uc).size ≤ 30 * (k + 1); rw [ByteArray.size_append]; omega⟩, by show 30 - (k + 1) < 30 - k; omega⟩
          repeat' constructor
        | false =>
          have hidx : 0 ≤ c.tmod 32 ∧ c.tmod 32 < 36 := by rw [hm]; omega
          generalize c.tmod 32 = ix at *
          conv => whnf
          refine ⟨by omega, ?_⟩
          have hix : ix.toNat < T.length := by omega
          have hps := hT2 T[ix.toNat] (List.getElem_mem hix)
          have hrow : rowOf 1 ix.toNat (strsA T) = [.v (.string T[ix.toNat])] := rowOf_strs T _ hix
          generalize hq : rowOf _ ix.toNat (strsA T) = q
          obtain rfl : q = [.v (.string T[ix.toNat])] := hq.symm.trans hrow
          clear hrow hq
          generalize T[ix.toNat] = pc at *
          conv => whnf
          refine ⟨by decide, ?_⟩
          conv => whnf
          refine ⟨i64r (by rw [hd4]; omega), ?_⟩
          conv => whnf
          refine ⟨by decide, ?_⟩
          have hidx2 : 0 ≤ (c.tdiv 40).tmod 8 ∧ (c.tdiv 40).tmod 8 < 8 := by rw [hd4, Int.tmod_eq_emod_of_nonneg (by omega)]; omega
          generalize (c.tdiv 40).tmod 8 = iy at *
          conv => whnf
          refine ⟨by omega, ?_⟩
          have hiy : iy.toNat < U.length := by omega
          have hus := hU2 U[iy.toNat] (List.getElem_mem hiy)
          have hrow : rowOf 1 iy.toNat (strsA U) = [.v (.string U[iy.toNat])] := rowOf_strs U _ hiy
          generalize hq : rowOf _ iy.toNat (strsA U) = q
          obtain rfl : q = [.v (.string U[iy.toNat])] := hq.symm.trans hrow
          clear hrow hq
          generalize U[iy.toNat] = uc at *
          conv => whnf
          refine call0 [] rfl (fun _ => join_spec x pc (by omega) (by omega)) ?_
          rintro r rfl
          have hjs := joinF_size x pc
          generalize joinF x pc = y at *
          conv => whnf
          refine ⟨by unfold maxLen; omega, ?_⟩
          conv => whnf
          refine ⟨i64r (by simp only; omega), ?_⟩
          conv => whnf
          refine ⟨(k + 1, y ++ uc), le_head ?_, ⟨by show k + 1 ≤ 30; omega, hlt, by show (y ++ uc).size ≤ 30 * (k + 1); rw [ByteArray.size_append]; omega⟩, by show 30 - (k + 1) < 30 - k; omega⟩
          repeat' constructor
      · refine br_false (b := decide ((((k, x).1 : Nat) : Int) < 30)) (decide_eq_false (by simp only; omega)) ?_
        conv => whnf
        exact ⟨x, by omega, rfl⟩
    · rw [show decide ((((k, x).1 : Nat) : Int) < (l.length : Int)) = false from decide_eq_false (by simp only; omega)]
      conv => whnf
      exact ⟨x, by omega, rfl⟩
/-! ### lives -/
def liveS : ByteArray := bs [97, 49, 60, 61, 50, 48, 32, 35, 32, 120]
def liveT : List Tk := [⟨1, 0, bs [97, 49], 0⟩, ⟨3, 2, bs [60, 61], 0⟩, ⟨2, 4, bs [50, 48], 20⟩, ⟨0, 10, bs [], 0⟩]
theorem live_R : lexR liveS = .tup [.sl 4 4 (tksL liveT), intA 0, intA 0] := by
  have h : lexF' liveS = ⟨[⟨1, 0, bs [97, 49], 0⟩, ⟨3, 2, bs [60, 61], 0⟩, ⟨2, 4, bs [50, 48], 20⟩], none⟩ := by kernel_rfl
  unfold lexR
  rw [h]
  rfl
theorem lives_spec : Spec Tryd.prog 14 [] [] fun _ r => r = boolA true := by
  have hR := live_R
  refine spec_of_ok (cx_ok (fun _ => .q 0 7 .nil) xs0 0) Tryd.func14 rfl (by kernel_rfl) rfl ?_
  intro _
  conv => whnf
  refine ok_step (cx_ok _ _ _) (by kernel_rfl) ?_
  conv => whnf
  refine ok_step (cx_ok _ _ _) (by kernel_rfl) ?_
  conv => whnf
  refine call0 [] rfl (fun _ => tokens_spec liveS (by decide)) ?_
  rintro r rfl
  rw [hR]
  conv => whnf
  refine ok_step (cx_ok _ _ _) (by kernel_rfl) ?_
  conv => whnf
  refine ok_pub [0] ?_
  conv => whnf
  refine ok_le (s' := ⟨[.v (.bool false), .sl 4 4 (tksL liveT), intA 0, intA 0, .sl 4 4 (tksL liveT)] ++ List.replicate 55 .dead, [], []⟩) (le_of (by repeat' constructor)) ?_
  have hrow : ∀ i, i < 4 → rowOf 4 i (tksL liveT) = tkL (liveT.getD i ⟨0, 0, bs [], 0⟩) := fun i hi => by
    have := rowOf_flat (k := 4) tkL (fun _ => rfl) liveT i hi
    rw [List.getD_eq_getElem?_getD, List.getElem?_eq_getElem (show i < liveT.length from hi)]
    exact this
  generalize liveT = T at *
  refine (initK_iff (K := fun t => Ok _ _ ⟨t, [], []⟩ _)).1 ?_
  conv => whnf
  refine ok_of_awp (cx_ok _ _ _) (by kernel_rfl) ?_
  conv => whnf
  apply flow_go
  · conv => whnf
    exact ⟨rfl, rfl, rfl⟩
  conv => whnf
  apply flow_go
  · conv => whnf
    refine ⟨by decide, ?_⟩
    generalize hq : rowOf _ (Int.toNat 0) (tksL T) = q
    obtain rfl : q = tkL (T.getD 0 ⟨0, 0, bs [], 0⟩) := hq.symm.trans (hrow 0 (by decide))
    exact ⟨rfl, rfl, rfl⟩
  conv => whnf
  apply flow_go
  · conv => whnf
    exact ⟨rfl, rfl, rfl⟩
  conv => whnf
  apply flow_go
  · conv => whnf
    exact ⟨rfl, rfl, rfl⟩
  conv => whnf
  apply flow_go
  · conv => whnf
    refine ⟨by decide, ?_⟩
    generalize hq : rowOf _ (Int.toNat 0) (tksL T) = q
    obtain rfl : q = tkL (T.getD 0 ⟨0, 0, bs [], 0⟩) := hq.symm.trans (hrow 0 (by decide))
    exact ⟨rfl, rfl, rfl⟩
  conv => whnf
  apply flow_go
  · conv => whnf
    exact ⟨rfl, rfl, rfl⟩
  conv => whnf
  apply flow_go
  · conv => whnf
    refine call0 [] rfl (fun _ => same_spec (T.getD 0 ⟨0, 0, bs [], 0⟩)) ?_
    rintro r rfl
    conv => whnf
    exact ⟨rfl, rfl, rfl⟩
  conv => whnf
  apply flow_go
  · conv => whnf
    exact ⟨rfl, rfl, rfl⟩
  conv => whnf
  apply flow_go
  · conv => whnf
    exact ⟨rfl, rfl, rfl⟩
  conv => whnf
  apply flow_go
  · conv => whnf
    refine ⟨by decide, ?_⟩
    generalize hq : rowOf _ (Int.toNat 1) (tksL T) = q
    obtain rfl : q = tkL (T.getD 1 ⟨0, 0, bs [], 0⟩) := hq.symm.trans (hrow 1 (by decide))
    exact ⟨rfl, rfl, rfl⟩
  conv => whnf
  apply flow_go
  · conv => whnf
    exact ⟨rfl, rfl, rfl⟩
  conv => whnf
  apply flow_go
  · conv => whnf
    exact ⟨rfl, rfl, rfl⟩
  conv => whnf
  apply flow_go
  · conv => whnf
    refine ⟨by decide, ?_⟩
    generalize hq : rowOf _ (Int.toNat 1) (tksL T) = q
    obtain rfl : q = tkL (T.getD 1 ⟨0, 0, bs [], 0⟩) := hq.symm.trans (hrow 1 (by decide))
    exact ⟨rfl, rfl, rfl⟩
  conv => whnf
  apply flow_go
  · conv => whnf
    exact ⟨rfl, rfl, rfl⟩
  conv => whnf
  apply flow_go
  · conv => whnf
    refine call0 [] rfl (fun _ => same_spec (T.getD 1 ⟨0, 0, bs [], 0⟩)) ?_
    rintro r rfl
    conv => whnf
    exact ⟨rfl, rfl, rfl⟩
  conv => whnf
  apply flow_go
  · conv => whnf
    exact ⟨rfl, rfl, rfl⟩
  conv => whnf
  apply flow_go
  · conv => whnf
    exact ⟨rfl, rfl, rfl⟩
  conv => whnf
  apply flow_go
  · conv => whnf
    exact ⟨rfl, rfl, rfl⟩
  conv => whnf
  apply flow_go
  · conv => whnf
    refine ⟨by decide, ?_⟩
    generalize hq : rowOf _ (Int.toNat 2) (tksL T) = q
    obtain rfl : q = tkL (T.getD 2 ⟨0, 0, bs [], 0⟩) := hq.symm.trans (hrow 2 (by decide))
    exact ⟨rfl, rfl, rfl⟩
  conv => whnf
  apply flow_go
  · conv => whnf
    exact ⟨rfl, rfl, rfl⟩
  conv => whnf
  apply flow_go
  · conv => whnf
    exact ⟨rfl, rfl, rfl⟩
  conv => whnf
  apply flow_go
  · conv => whnf
    refine ⟨by decide, ?_⟩
    generalize hq : rowOf _ (Int.toNat 2) (tksL T) = q
    obtain rfl : q = tkL (T.getD 2 ⟨0, 0, bs [], 0⟩) := hq.symm.trans (hrow 2 (by decide))
    exact ⟨rfl, rfl, rfl⟩
  conv => whnf
  apply flow_go
  · conv => whnf
    exact ⟨rfl, rfl, rfl⟩
  conv => whnf
  apply flow_go
  · conv => whnf
    refine call0 [] rfl (fun _ => same_spec (T.getD 2 ⟨0, 0, bs [], 0⟩)) ?_
    rintro r rfl
    conv => whnf
    exact ⟨rfl, rfl, rfl⟩
  conv => whnf
  apply flow_go
  · conv => whnf
    exact ⟨rfl, rfl, rfl⟩
  conv => whnf
  apply flow_go
  · conv => whnf
    exact ⟨rfl, rfl, rfl⟩
  conv => whnf
  apply flow_go
  · conv => whnf
    exact ⟨rfl, rfl, rfl⟩
  conv => whnf
  apply flow_go
  · conv => whnf
    refine ⟨by decide, ?_⟩
    generalize hq : rowOf _ (Int.toNat 3) (tksL T) = q
    obtain rfl : q = tkL (T.getD 3 ⟨0, 0, bs [], 0⟩) := hq.symm.trans (hrow 3 (by decide))
    exact ⟨rfl, rfl, rfl⟩
  conv => whnf
  apply flow_go
  · conv => whnf
    exact ⟨rfl, rfl, rfl⟩
  conv => whnf
  apply flow_go
  · conv => whnf
    exact ⟨rfl, rfl, rfl⟩
  conv => whnf
  apply flow_go
  · conv => whnf
    refine ⟨by decide, ?_⟩
    generalize hq : rowOf _ (Int.toNat 3) (tksL T) = q
    obtain rfl : q = tkL (T.getD 3 ⟨0, 0, bs [], 0⟩) := hq.symm.trans (hrow 3 (by decide))
    exact ⟨rfl, rfl, rfl⟩
  conv => whnf
  apply flow_go
  · conv => whnf
    exact ⟨rfl, rfl, rfl⟩
  conv => whnf
  apply flow_go
  · conv => whnf
    refine call0 [] rfl (fun _ => same_spec (T.getD 3 ⟨0, 0, bs [], 0⟩)) ?_
    rintro r rfl
    conv => whnf
    exact ⟨rfl, rfl, rfl⟩
  conv => whnf
  apply flow_go
  · conv => whnf
    exact ⟨rfl, rfl, rfl⟩
  conv => whnf
  apply flow_go
  · conv => whnf
    exact ⟨rfl, rfl, rfl⟩
  conv => whnf
  rfl
end Go.Proofs.YthaccjcadgodlaaDoor.Vm
