/- The laws LexerTokens and LexerSymbols: their walks. -/
import Derived.Test.YthaccjcadgodlaaDoorL9
namespace Go.Proofs.YthaccjcadgodlaaDoor.Vm
open Go.RowKit
set_option linter.unusedSimpArgs false
set_option linter.unusedVariables false
set_option maxRecDepth 100000
theorem ext_le (x : ByteArray) (i j : Nat) : (x.extract i j).size ≤ x.size := by rw [ByteArray.size_extract]; omega
theorem tokens_law_spec (raw : ByteArray) (l : List Int) (n : Int) (c : UInt8) : Spec Tryd.prog 3 [] [.v (.string raw), .sl 1 l.length (intsA l), .v (.int .i64 n), byteA c] fun _ r => r = boolA true := by
  refine spec_of (cx_ok ord3 xs0 0) Tryd.func3 rfl (by kernel_rfl) rfl (by kernel_rfl) ?_
  intro hok
  conv => whnf
  refine call0 [] rfl (fun _ => text_spec l) ?_
  rintro r ⟨x, hx, rfl⟩
  conv => whnf
  by_cases h0 : 0 < x.size
  · refine br_true (b := decide ((0 : Int) < (x.size : Int))) (decide_eq_true (by omega)) ?_
    conv => whnf
    refine call0 [] rfl (fun _ => around_spec n x.size (by omega)) ?_
    rintro r ⟨hn, rfl⟩
    have hr := aroundF_rng (n := n) (m := x.size) hn (by omega)
    generalize aroundF n x.size = k at *
    conv => whnf
    repeat ((with_reducible refine And.intro ?_ ?_); (focus (first | omega | (with_reducible refine i64r ?_; (first | omega | (simp only [List.length_append, List.length_cons, List.length_nil, List.length_map, ByteArray.size_append]; omega))) | (with_reducible refine max_le ?_; (first | omega | (simp only [List.length_append, List.length_cons, List.length_nil, List.length_map, ByteArray.size_append]; omega))) | ((fail_if_success (with_reducible refine max_le ?_)); decide) | (simp only [List.length_append, List.length_cons, List.length_nil, List.length_map, ByteArray.size_append]; omega))); (conv => whnf))
    refine ⟨bs [c], rfl, ?_⟩
    have e1 := ext_le x (Int.toNat 0) k.toNat
    have e2 := ext_le x (k + 1).toNat (Int.toNat (x.size : Int))
    generalize x.extract (Int.toNat 0) k.toNat = y1 at *
    generalize x.extract (k + 1).toNat (Int.toNat (x.size : Int)) = y2 at *
    have e3 : (y1 ++ bs [c]).size = y1.size + 1 := by rw [ByteArray.size_append]; rfl
    have e4 : (y1 ++ bs [c] ++ y2).size = y1.size + 1 + y2.size := by rw [ByteArray.size_append, e3]
    conv => whnf
    refine ⟨by show y1.size + 1 ≤ maxLen; unfold maxLen; omega, ?_⟩
    conv => whnf
    refine ⟨by rw [e3]; unfold maxLen; omega, ?_⟩
    generalize y1 ++ bs [c] ++ y2 = y at *
    conv => whnf
    refine call0 [] rfl (fun _ => short_spec raw 100 (by decide)) ?_
    rintro r ⟨sh, hsh, rfl⟩
    conv => whnf
    refine call0 [] rfl (fun _ => equal_spec sh (by omega)) ?_
    rintro r rfl
    conv => whnf
    refine call0 [] rfl (fun _ => equal_spec x (by omega)) ?_
    rintro r rfl
    conv => whnf
    refine call0 [] rfl (fun _ => equal_spec y (by omega)) ?_
    rintro r rfl
    conv => whnf
    refine call0 [] rfl (fun _ => lives_spec) ?_
    rintro r rfl
    conv => whnf
    rfl
  · refine br_false (b := decide ((0 : Int) < (x.size : Int))) (decide_eq_false (by omega)) ?_
    conv => whnf
    refine call0 [] rfl (fun _ => short_spec raw 100 (by decide)) ?_
    rintro r ⟨sh, hsh, rfl⟩
    conv => whnf
    refine call0 [] rfl (fun _ => equal_spec sh (by omega)) ?_
    rintro r rfl
    conv => whnf
    refine call0 [] rfl (fun _ => equal_spec x (by omega)) ?_
    rintro r rfl
    conv => whnf
    refine call0 [] rfl (fun _ => equal_spec x (by omega)) ?_
    rintro r rfl
    conv => whnf
    refine call0 [] rfl (fun _ => lives_spec) ?_
    rintro r rfl
    conv => whnf
    rfl
theorem symbols_law_spec (a b : UInt8) : Spec Tryd.prog 8 [] [byteA a, byteA b] fun _ r => r = boolA true := by
  refine spec_of (cx_ok ord0 xs0 0) Tryd.func8 rfl (by kernel_rfl) rfl (by kernel_rfl) ?_
  intro hok
  conv => whnf
  repeat ((with_reducible refine And.intro ?_ ?_); (focus (first | omega | (with_reducible refine i64r ?_; (first | omega | (simp only [List.length_append, List.length_cons, List.length_nil, List.length_map, ByteArray.size_append]; omega))) | (with_reducible refine max_le ?_; (first | omega | (simp only [List.length_append, List.length_cons, List.length_nil, List.length_map, ByteArray.size_append]; omega))) | ((fail_if_success (with_reducible refine max_le ?_)); decide) | (simp only [List.length_append, List.length_cons, List.length_nil, List.length_map, ByteArray.size_append]; omega))); (conv => whnf))
  have ha : 0 ≤ (32 + ((a.toNat : Int)).tmod 95) ∧ (32 + ((a.toNat : Int)).tmod 95) < 127 := by
    have := a.toNat_lt
    rw [Int.tmod_eq_emod_of_nonneg (by omega)]; omega
  have hb : 0 ≤ (32 + ((b.toNat : Int)).tmod 95) ∧ (32 + ((b.toNat : Int)).tmod 95) < 127 := by
    have := b.toNat_lt
    rw [Int.tmod_eq_emod_of_nonneg (by omega)]; omega
  have mk : ∀ n : Int, 0 ≤ n ∧ n < 127 → ∃ c : UInt8, n = (c.toNat : Int) := fun n hn => ⟨UInt8.ofNat n.toNat, by
    rw [UInt8.toNat_ofNat']; omega⟩
  refine ⟨⟨ha.1, by show _ ≤ (255 : Int); omega⟩, ?_⟩
  obtain ⟨x, hx⟩ := mk _ ha
  rw [hx]
  conv => whnf
  repeat ((with_reducible refine And.intro ?_ ?_); (focus (first | omega | (with_reducible refine i64r ?_; (first | omega | (simp only [List.length_append, List.length_cons, List.length_nil, List.length_map, ByteArray.size_append]; omega))) | (with_reducible refine max_le ?_; (first | omega | (simp only [List.length_append, List.length_cons, List.length_nil, List.length_map, ByteArray.size_append]; omega))) | ((fail_if_success (with_reducible refine max_le ?_)); decide) | (simp only [List.length_append, List.length_cons, List.length_nil, List.length_map, ByteArray.size_append]; omega))); (conv => whnf))
  refine ⟨⟨hb.1, by show _ ≤ (255 : Int); omega⟩, ?_⟩
  obtain ⟨y, hy⟩ := mk _ hb
  rw [hy]
  conv => whnf
  refine ⟨bs [x, y], rfl, ?_⟩
  conv => whnf
  have hz : (bs [x, y]).size = 2 := rfl
  generalize bs [x, y] = z at *
  have z1 : (z ++ ⟨#[32]⟩).size = 3 := by rw [ByteArray.size_append, hz]; rfl
  have z2 : ((⟨#[97]⟩ : ByteArray) ++ z).size = 3 := by rw [ByteArray.size_append, hz]; rfl
  have z3 : (z ++ ⟨#[61]⟩).size = 3 := by rw [ByteArray.size_append, hz]; rfl
  have z4 : (z ++ ⟨#[61]⟩ ++ z).size = 5 := by rw [ByteArray.size_append, z3, hz]
  refine call0 [] rfl (fun _ => equal_spec z (by omega)) ?_
  rintro r rfl
  conv => whnf
  refine ⟨by rw [hz]; decide, ?_⟩
  conv => whnf
  refine call0 [] rfl (fun _ => equal_spec _ (by omega)) ?_
  rintro r rfl
  conv => whnf
  refine ⟨by rw [hz]; decide, ?_⟩
  conv => whnf
  refine call0 [] rfl (fun _ => equal_spec _ (by omega)) ?_
  rintro r rfl
  conv => whnf
  refine ⟨by rw [hz]; decide, ?_⟩
  conv => whnf
  refine ⟨by rw [z3, hz]; decide, ?_⟩
  conv => whnf
  refine call0 [] rfl (fun _ => equal_spec _ (by omega)) ?_
  rintro r rfl
  conv => whnf
  refine call0 [] rfl (fun _ => lives_spec) ?_
  rintro r rfl
  conv => whnf
  rfl
end Go.Proofs.YthaccjcadgodlaaDoor.Vm
