/- The law Limits: what Parse answers at its texts; Decimal, repeat. -/
import Derived.Test.YtpjcbadnpknncaaDoorM5
namespace Go.Proofs.YtpjcbadnpknncaaDoor.Vm
open Go.RowKit Go.Shelf
set_option linter.unusedSimpArgs false
set_option linter.unusedVariables false
set_option maxRecDepth 100000
/-- The digits of a number that is not 0. -/
def decD (n : Nat) : List UInt8 := if h : n = 0 then [] else decD (n / 10) ++ [UInt8.ofNat (48 + n % 10)]
decreasing_by omega
theorem decD_zero : decD 0 = [] := by unfold decD; simp
theorem decD_pos {n : Nat} (h : n ≠ 0) : decD n = decD (n / 10) ++ [UInt8.ofNat (48 + n % 10)] := by
  rw [decD]; simp [h]
def decS (n : Nat) : List UInt8 := if n = 0 then [48] else decD n
theorem decD_len : ∀ (k n : Nat), n < 10 ^ k → (decD n).length ≤ k
  | k, 0, _ => by rw [decD_zero]; simp
  | 0, n + 1, h => by simp at h
  | k + 1, n + 1, h => by
    rw [decD_pos (by omega), List.length_append]
    have := decD_len k ((n + 1) / 10) (by rw [Nat.pow_succ] at h; omega)
    simp only [List.length_cons, List.length_nil]; omega
def digB : ByteArray := ⟨#[48, 49, 50, 51, 52, 53, 54, 55, 56, 57]⟩
theorem dig_cut (k : Nat) (i j : Nat) (hi : i = k % 10) (hj : j = k % 10 + 1) : digB.extract i j = bs [UInt8.ofNat (48 + k % 10)] := by
  subst hi; subst hj
  have h : ∀ d, d < 10 → digB.extract d (d + 1) = bs [UInt8.ofNat (48 + d)] := by decide +kernel
  exact h _ (Nat.mod_lt _ (by omega))
theorem bs_app (a b : List UInt8) : bs a ++ bs b = bs (a ++ b) := by
  apply ByteArray.ext
  apply Array.toList_inj.1
  simp [bs]
theorem decimal_spec (n : Nat) (hn : n < 1000000000000) : Spec Tryd.prog 27 [] [.v (.int .i64 n)] fun _ r => r = strA (bs (decS n)) := by
  have hlen := decD_len 12 n hn
  refine spec_of (cx_ok ord0 xs0 0) (fun _ _ h => h) Tryd.func27 rfl (by kernel_rfl) rfl (by kernel_rfl) ?_
  intro hok
  conv => whnf
  by_cases h0 : n = 0
  · subst h0
    (refine goA ?_; try with_reducible exact trivial)
    rfl
  · (refine goA ?_; try with_reducible exact trivial)
    refine loop_keep [0, 3] ?_
    conv => whnf
    refine loop_go (fun x : Nat × List UInt8 => [(4, .v (.string (bs x.2))), (5, .v (.int .i64 x.1))]) (fun _ => []) (fun _ => []) (fun x => x.1 ≤ n ∧ decD x.1 ++ x.2 = decD n ∧ x.2.length ≤ 12) (fun x => x.1) (n, []) ?_ ⟨Nat.le_refl _, by simp, by simp⟩ ?_
    · repeat' constructor
    · rintro ⟨k, l⟩ ⟨hk, hd, hl⟩
      simp only at hk hd hl
      have hll : (decD k).length + l.length ≤ 12 := by
        have := congrArg List.length hd
        rw [List.length_append] at this; omega
      conv => whnf
      by_cases hk0 : k = 0
      · subst hk0
        rw [decD_zero, List.nil_append] at hd
        (refine goA ?_; try with_reducible exact trivial)
        have : decS n = l := by unfold decS; rw [if_neg h0, hd]
        rw [this]; rfl
      · have hm : (((k, l).1 : Nat) : Int).tmod 10 = ((k % 10 : Nat) : Int) := by
          show ((k : Int)).tmod 10 = _
          rw [Int.tmod_eq_emod_of_nonneg (by omega)]; omega
        have hq : (((k, l).1 : Nat) : Int).tdiv 10 = ((k / 10 : Nat) : Int) := by
          show ((k : Int)).tdiv 10 = _
          rw [Int.tdiv_eq_ediv_of_nonneg (by omega)]; omega
        (refine goA ?_; try with_reducible exact trivial)
        rw [hm]
        conv => whnf
        (refine goA ?_; try with_reducible exact trivial)
        refine ⟨⟨by omega, by omega, by show _ ≤ (10 : Int); omega⟩, ?_⟩
        rw [show (⟨#[48, 49, 50, 51, 52, 53, 54, 55, 56, 57]⟩ : ByteArray).extract (Int.toNat ((k % 10 : Nat) : Int)) (Int.toNat (((k % 10 : Nat) : Int) + 1)) = bs [UInt8.ofNat (48 + k % 10)] from dig_cut k _ _ (by omega) (by omega)]
        conv => whnf
        refine ⟨by rw [bs_size, bs_size]; show 1 + l.length ≤ maxLen; unfold maxLen; omega, ?_⟩
        rw [show bs [UInt8.ofNat (48 + k % 10)] ++ bs ((k, l).2) = bs (UInt8.ofNat (48 + k % 10) :: l) from bs_app _ _]
        conv => whnf
        (refine goA ?_; try with_reducible exact trivial)
        rw [hq]
        have hd2 : decD (k / 10) ++ UInt8.ofNat (48 + k % 10) :: l = decD n := by
          rw [← hd, decD_pos hk0]; simp
        repeat ((with_reducible refine And.intro ?_ ?_); (focus (first | omega | (with_reducible refine i64r ?_; (first | omega | (simp only [List.length_append, List.length_cons, List.length_nil, List.length_map, ByteArray.size_append]; omega) | (dsimp only; omega))) | (with_reducible refine max_le ?_; (first | omega | (simp only [List.length_append, List.length_cons, List.length_nil, List.length_map, ByteArray.size_append]; omega) | (dsimp only; omega))) | ((fail_if_success (with_reducible refine max_le ?_)); decide) | (simp only [List.length_append, List.length_cons, List.length_nil, List.length_map, ByteArray.size_append]; omega) | (dsimp only; omega) | ((with_reducible refine i64r ?_); dsimp only; omega))); (conv => whnf))
        refine ⟨(k / 10, UInt8.ofNat (48 + k % 10) :: l), le_head ?_, ⟨by show k / 10 ≤ n; omega, hd2, ?_⟩, by show k / 10 < k; omega⟩
        · repeat' constructor
        · have := congrArg List.length hd2
          rw [List.length_append] at this
          show (UInt8.ofNat (48 + k % 10) :: l).length ≤ 12
          omega
def repB (b : List UInt8) : Nat → List UInt8
  | 0 => []
  | n + 1 => b ++ repB b n
theorem repB_len (b : List UInt8) (n : Nat) : (repB b n).length = n * b.length := by
  induction n with
  | zero => simp [repB]
  | succ n ih => rw [repB, List.length_append, ih, Nat.add_mul]; omega
theorem repB_snoc (b : List UInt8) (n : Nat) : repB b n ++ b = repB b (n + 1) := by
  induction n with
  | zero => simp [repB]
  | succ n ih => rw [repB, List.append_assoc, ih]; rfl
theorem repeat_spec (b : List UInt8) (d : Nat) (hd : d ≤ 1000) (hb : b.length ≤ 1000) : Spec Tryd.prog 26 [] [strA (bs b), .v (.int .i64 d)] fun _ r => r = strA (bs (repB b d)) := by
  refine spec_of (cx_ok ord0 xs0 0) (fun _ _ h => h) Tryd.func26 rfl (by kernel_rfl) rfl (by kernel_rfl) ?_
  intro hok
  conv => whnf
  refine loop_keep [0, 1] ?_
  conv => whnf
  refine loop_go (fun j : Nat => [(5, .v (.string (bs (repB b j)))), (6, .v (.int .i64 j))]) (fun _ => []) (fun _ => []) (fun j => j ≤ d) (fun j => d - j) 0 ?_ (Nat.zero_le _) ?_
  · repeat' constructor
  · rintro j hj
    conv => whnf
    by_cases hlt : j < d
    · have hl := repB_len b j
      have hm := Nat.mul_le_mul (show j ≤ 1000 by omega) hb
      have e : bs (repB b j) ++ bs b = bs (repB b (j + 1)) := by rw [bs_app, repB_snoc]
      (refine goA ?_; try with_reducible exact trivial)
      refine ⟨by rw [bs_size, bs_size]; unfold maxLen; omega, ?_⟩
      rw [e]
      conv => whnf
      (refine goA ?_; try with_reducible exact trivial)
      refine ⟨j + 1, le_head ?_, hlt, by omega⟩
      repeat' constructor
    · obtain rfl : j = d := by omega
      (refine goA ?_; try with_reducible exact trivial)
      rfl
def opB : Nat → List UInt8
  | 0 => [40]
  | 1 => [33]
  | 2 => [110, 101, 120, 116, 32]
  | _ => [116, 114, 117, 101, 32, 117, 110, 116, 105, 108, 32]
def clB : Nat → List UInt8
  | 0 => [41]
  | _ => []
def limT (k d : Nat) : List UInt8 := repB (opB k) d ++ [118, 49, 61, 61, 50] ++ repB (clB k) d
def limOk (k d : Nat) : Bool := match parseF (bs (limT k d)) with
  | .ok f => decide (d ≤ 20) && (decide (k ≠ 0) || decide (f.k = 1))
  | .bad p e => decide (20 < d) && (decide (e = 2) && decide (p = 20 * ((opB k).length : Int) + if k = 3 then 5 else 0))
theorem lim_all : ((List.range 26).all fun d => (List.range 4).all fun k => limOk k d) = true := by kernel_rfl
theorem lim_at {k d : Nat} (hk : k < 4) (hd : d < 26) : limOk k d = true := by
  have h := lim_all
  rw [List.all_eq_true] at h
  have h2 := h d (List.mem_range.2 hd)
  rw [List.all_eq_true] at h2
  exact h2 k (List.mem_range.2 hk)
def ddB (n : Nat) : List UInt8 := if n < 10 then [UInt8.ofNat (48 + n)] else [UInt8.ofNat (48 + n / 10), UInt8.ofNat (48 + n % 10)]
theorem decS_dd {n : Nat} (h : n < 100) : decS n = ddB n := by
  unfold decS ddB
  by_cases h0 : n = 0
  · subst h0; rfl
  · rw [if_neg h0, decD_pos h0]
    by_cases h1 : n < 10
    · rw [if_pos h1, show n / 10 = 0 by omega, decD_zero, show n % 10 = n by omega]; rfl
    · rw [if_neg h1, decD_pos (show n / 10 ≠ 0 by omega), show n / 10 / 10 = 0 by omega, decD_zero, show n / 10 % 10 = n / 10 by omega]; rfl
def limV (n : Nat) : List UInt8 := [116, 114, 117, 101, 38, 38, 118] ++ ddB n ++ [62, 48]
def limVOk (n : Nat) : Bool := match parseF (bs (limV n)) with
  | .ok f => decide (n ≤ 15) && (decide (f.kids.length = 2) && (decide ((g1 f.kids).a = n) && decide ((g1 f.kids).b = 2)))
  | .bad p e => decide (15 < n) && (decide (e = 6) && decide (p = 6))
theorem limV_all : ((List.range 31).all fun n => limVOk n) = true := by kernel_rfl
theorem limV_at {n : Nat} (hn : n < 31) : limVOk n = true := by
  have h := limV_all
  rw [List.all_eq_true] at h
  exact h n (List.mem_range.2 hn)
theorem limT_len {k d : Nat} (hk : k < 4) (hd : d < 26) : (limT k d).length ≤ 1000 := by
  unfold limT
  rw [List.length_append, List.length_append, repB_len, repB_len]
  have h1 : (opB k).length ≤ 11 := by
    rcases (show k = 0 ∨ k = 1 ∨ k = 2 ∨ k = 3 by omega) with rfl | rfl | rfl | rfl <;> decide
  have h2 : (clB k).length ≤ 1 := by
    rcases (show k = 0 ∨ k = 1 ∨ k = 2 ∨ k = 3 by omega) with rfl | rfl | rfl | rfl <;> decide
  have h3 := Nat.mul_le_mul (show d ≤ 25 by omega) h1
  have h4 := Nat.mul_le_mul (show d ≤ 25 by omega) h2
  simp only [List.length_cons, List.length_nil]
  omega
end Go.Proofs.YtpjcbadnpknncaaDoor.Vm
