/- Decimal; the law LexerLimits: their walks. -/
import Derived.Test.YthaccjcadgodlaaDoorL14
namespace Go.Proofs.YthaccjcadgodlaaDoor.Vm
open Go.RowKit
set_option linter.unusedSimpArgs false
set_option linter.unusedVariables false
set_option maxRecDepth 100000
def digB : ByteArray := ⟨#[48, 49, 50, 51, 52, 53, 54, 55, 56, 57]⟩
theorem dig_cut (k : Nat) (i j : Nat) (hi : i = k % 10) (hj : j = k % 10 + 1) : digB.extract i j = bs [UInt8.ofNat (48 + k % 10)] := by
  subst hi; subst hj
  have h : ∀ d, d < 10 → digB.extract d (d + 1) = bs [UInt8.ofNat (48 + d)] := by decide +kernel
  exact h _ (Nat.mod_lt _ (by omega))
theorem bs_app (a b : List UInt8) : bs a ++ bs b = bs (a ++ b) := by
  apply ByteArray.ext
  apply Array.toList_inj.1
  simp [bs]
theorem decimal_spec (n : Nat) (hn : n < 1000000000000) : Spec Tryd.prog 16 [] [.v (.int .i64 n)] fun _ r => r = strA (bs (decS n)) := by
  have hlen := decD_len 12 n hn
  refine spec_of (cx_ok ord0 xs0 0) Tryd.func16 rfl (by kernel_rfl) rfl (by kernel_rfl) ?_
  intro hok
  conv => whnf
  by_cases h0 : n = 0
  · subst h0
    repeat (first | ((with_reducible refine And.intro ?_ ?_); (focus (first | omega | (with_reducible refine i64r ?_; (first | omega | (simp only [List.length_append, List.length_cons, List.length_nil, List.length_map, ByteArray.size_append]; omega))) | (with_reducible refine max_le ?_; (first | omega | (simp only [List.length_append, List.length_cons, List.length_nil, List.length_map, ByteArray.size_append]; omega))) | ((fail_if_success (with_reducible refine max_le ?_)); decide) | (simp only [List.length_append, List.length_cons, List.length_nil, List.length_map, ByteArray.size_append]; omega))); (conv => whnf)) | ((first | with_reducible refine isIf1 ?_ | with_reducible refine isIf2 ?_ | with_reducible refine isIf3 ?_ | with_reducible refine isIf4 ?_ | with_reducible refine isIf5 ?_ | with_reducible refine isIf6 ?_ | with_reducible refine isIf7 ?_ | with_reducible refine isIf8 ?_ | with_reducible refine ifK_id ?_); first | ((focus (rw [decide_eq_true]; rotate_left; focus (first | (first | omega | (simp only [List.length_append, List.length_cons, List.length_nil, List.length_map, ByteArray.size_append]; omega)) | ((with_reducible refine isEq ?_); rfl)))); (first | with_reducible refine br_true rfl ?_ | with_reducible refine br_false rfl ?_ | skip); (conv => whnf)) | ((focus (rw [decide_eq_false]; rotate_left; focus (first | (first | omega | (simp only [List.length_append, List.length_cons, List.length_nil, List.length_map, ByteArray.size_append]; omega)) | (intro h; cases h)))); (first | with_reducible refine br_true rfl ?_ | with_reducible refine br_false rfl ?_ | skip); (conv => whnf))))
    rfl
  · repeat (first | ((with_reducible refine And.intro ?_ ?_); (focus (first | omega | (with_reducible refine i64r ?_; (first | omega | (simp only [List.length_append, List.length_cons, List.length_nil, List.length_map, ByteArray.size_append]; omega))) | (with_reducible refine max_le ?_; (first | omega | (simp only [List.length_append, List.length_cons, List.length_nil, List.length_map, ByteArray.size_append]; omega))) | ((fail_if_success (with_reducible refine max_le ?_)); decide) | (simp only [List.length_append, List.length_cons, List.length_nil, List.length_map, ByteArray.size_append]; omega))); (conv => whnf)) | ((first | with_reducible refine isIf1 ?_ | with_reducible refine isIf2 ?_ | with_reducible refine isIf3 ?_ | with_reducible refine isIf4 ?_ | with_reducible refine isIf5 ?_ | with_reducible refine isIf6 ?_ | with_reducible refine isIf7 ?_ | with_reducible refine isIf8 ?_ | with_reducible refine ifK_id ?_); first | ((focus (rw [decide_eq_true]; rotate_left; focus (first | (first | omega | (simp only [List.length_append, List.length_cons, List.length_nil, List.length_map, ByteArray.size_append]; omega)) | ((with_reducible refine isEq ?_); rfl)))); (first | with_reducible refine br_true rfl ?_ | with_reducible refine br_false rfl ?_ | skip); (conv => whnf)) | ((focus (rw [decide_eq_false]; rotate_left; focus (first | (first | omega | (simp only [List.length_append, List.length_cons, List.length_nil, List.length_map, ByteArray.size_append]; omega)) | (intro h; cases h)))); (first | with_reducible refine br_true rfl ?_ | with_reducible refine br_false rfl ?_ | skip); (conv => whnf))))
    refine loop_keep [0, 3] ?_
    conv => whnf
    refine loop_go (fun x : Nat × List UInt8 => [(4, .v (.string (bs x.2))), (5, .v (.int .i64 x.1))]) (fun _ => []) (fun _ => []) (fun x => x.1 ≤ n ∧ decD x.1 ++ x.2 = decD n ∧ x.2.length ≤ 12) (fun x => x.1) (n, []) ?_ ⟨Nat.le_refl _, by simp, by simp⟩ ?_
    · repeat' constructor
    · rintro ⟨k, l⟩ ⟨hk, hd, hl⟩
      simp only at hk hd hl
      have hll : (decD k).length + l.length ≤ 12 := by
        have := congrArg List.length hd
        rw [List.length_append] at this; omega
      conv => whnf
      by_cases hk0 : k = 0
      · subst hk0
        rw [decD_zero, List.nil_append] at hd
        repeat (first | ((with_reducible refine And.intro ?_ ?_); (focus (first | omega | (with_reducible refine i64r ?_; (first | omega | (simp only [List.length_append, List.length_cons, List.length_nil, List.length_map, ByteArray.size_append]; omega))) | (with_reducible refine max_le ?_; (first | omega | (simp only [List.length_append, List.length_cons, List.length_nil, List.length_map, ByteArray.size_append]; omega))) | ((fail_if_success (with_reducible refine max_le ?_)); decide) | (simp only [List.length_append, List.length_cons, List.length_nil, List.length_map, ByteArray.size_append]; omega))); (conv => whnf)) | ((first | with_reducible refine isIf1 ?_ | with_reducible refine isIf2 ?_ | with_reducible refine isIf3 ?_ | with_reducible refine isIf4 ?_ | with_reducible refine isIf5 ?_ | with_reducible refine isIf6 ?_ | with_reducible refine isIf7 ?_ | with_reducible refine isIf8 ?_ | with_reducible refine ifK_id ?_); first | ((focus (rw [decide_eq_true]; rotate_left; focus (first | (first | omega | (simp only [List.length_append, List.length_cons, List.length_nil, List.length_map, ByteArray.size_append]; omega)) | ((with_reducible refine isEq ?_); rfl)))); (first | with_reducible refine br_true rfl ?_ | with_reducible refine br_false rfl ?_ | skip); (conv => whnf)) | ((focus (rw [decide_eq_false]; rotate_left; focus (first | (first | omega | (simp only [List.length_append, List.length_cons, List.length_nil, List.length_map, ByteArray.size_append]; omega)) | (intro h; cases h)))); (first | with_reducible refine br_true rfl ?_ | with_reducible refine br_false rfl ?_ | skip); (conv => whnf))))
        have : decS n = l := by unfold decS; rw [if_neg h0, hd]
        rw [this]; rfl
      · have hm : (((k, l).1 : Nat) : Int).tmod 10 = ((k % 10 : Nat) : Int) := by
          show ((k : Int)).tmod 10 = _
          rw [Int.tmod_eq_emod_of_nonneg (by omega)]; omega
        have hq : (((k, l).1 : Nat) : Int).tdiv 10 = ((k / 10 : Nat) : Int) := by
          show ((k : Int)).tdiv 10 = _
          rw [Int.tdiv_eq_ediv_of_nonneg (by omega)]; omega
        repeat (first | ((with_reducible refine And.intro ?_ ?_); (focus (first | omega | (with_reducible refine i64r ?_; (first | omega | (simp only [List.length_append, List.length_cons, List.length_nil, List.length_map, ByteArray.size_append]; omega))) | (with_reducible refine max_le ?_; (first | omega | (simp only [List.length_append, List.length_cons, List.length_nil, List.length_map, ByteArray.size_append]; omega))) | ((fail_if_success (with_reducible refine max_le ?_)); decide) | (simp only [List.length_append, List.length_cons, List.length_nil, List.length_map, ByteArray.size_append]; omega))); (conv => whnf)) | ((first | with_reducible refine isIf1 ?_ | with_reducible refine isIf2 ?_ | with_reducible refine isIf3 ?_ | with_reducible refine isIf4 ?_ | with_reducible refine isIf5 ?_ | with_reducible refine isIf6 ?_ | with_reducible refine isIf7 ?_ | with_reducible refine isIf8 ?_ | with_reducible refine ifK_id ?_); first | ((focus (rw [decide_eq_true]; rotate_left; focus (first | (first | omega | (simp only [List.length_append, List.length_cons, List.length_nil, List.length_map, ByteArray.size_append]; omega)) | ((with_reducible refine isEq ?_); rfl)))); (first | with_reducible refine br_true rfl ?_ | with_reducible refine br_false rfl ?_ | skip); (conv => whnf)) | ((focus (rw [decide_eq_false]; rotate_left; focus (first | (first | omega | (simp only [List.length_append, List.length_cons, List.length_nil, List.length_map, ByteArray.size_append]; omega)) | (intro h; cases h)))); (first | with_reducible refine br_true rfl ?_ | with_reducible refine br_false rfl ?_ | skip); (conv => whnf))))
        rw [hm]
        conv => whnf
        repeat (first | ((with_reducible refine And.intro ?_ ?_); (focus (first | omega | (with_reducible refine i64r ?_; (first | omega | (simp only [List.length_append, List.length_cons, List.length_nil, List.length_map, ByteArray.size_append]; omega))) | (with_reducible refine max_le ?_; (first | omega | (simp only [List.length_append, List.length_cons, List.length_nil, List.length_map, ByteArray.size_append]; omega))) | ((fail_if_success (with_reducible refine max_le ?_)); decide) | (simp only [List.length_append, List.length_cons, List.length_nil, List.length_map, ByteArray.size_append]; omega))); (conv => whnf)) | ((first | with_reducible refine isIf1 ?_ | with_reducible refine isIf2 ?_ | with_reducible refine isIf3 ?_ | with_reducible refine isIf4 ?_ | with_reducible refine isIf5 ?_ | with_reducible refine isIf6 ?_ | with_reducible refine isIf7 ?_ | with_reducible refine isIf8 ?_ | with_reducible refine ifK_id ?_); first | ((focus (rw [decide_eq_true]; rotate_left; focus (first | (first | omega | (simp only [List.length_append, List.length_cons, List.length_nil, List.length_map, ByteArray.size_append]; omega)) | ((with_reducible refine isEq ?_); rfl)))); (first | with_reducible refine br_true rfl ?_ | with_reducible refine br_false rfl ?_ | skip); (conv => whnf)) | ((focus (rw [decide_eq_false]; rotate_left; focus (first | (first | omega | (simp only [List.length_append, List.length_cons, List.length_nil, List.length_map, ByteArray.size_append]; omega)) | (intro h; cases h)))); (first | with_reducible refine br_true rfl ?_ | with_reducible refine br_false rfl ?_ | skip); (conv => whnf))))
        refine ⟨⟨by omega, by omega, by show _ ≤ (10 : Int); omega⟩, ?_⟩
        rw [show (⟨#[48, 49, 50, 51, 52, 53, 54, 55, 56, 57]⟩ : ByteArray).extract (Int.toNat ((k % 10 : Nat) : Int)) (Int.toNat (((k % 10 : Nat) : Int) + 1)) = bs [UInt8.ofNat (48 + k % 10)] from dig_cut k _ _ (by omega) (by omega)]
        conv => whnf
        refine ⟨by rw [bs_size, bs_size]; show 1 + l.length ≤ maxLen; unfold maxLen; omega, ?_⟩
        rw [show bs [UInt8.ofNat (48 + k % 10)] ++ bs ((k, l).2) = bs (UInt8.ofNat (48 + k % 10) :: l) from bs_app _ _]
        conv => whnf
        repeat (first | ((with_reducible refine And.intro ?_ ?_); (focus (first | omega | (with_reducible refine i64r ?_; (first | omega | (simp only [List.length_append, List.length_cons, List.length_nil, List.length_map, ByteArray.size_append]; omega))) | (with_reducible refine max_le ?_; (first | omega | (simp only [List.length_append, List.length_cons, List.length_nil, List.length_map, ByteArray.size_append]; omega))) | ((fail_if_success (with_reducible refine max_le ?_)); decide) | (simp only [List.length_append, List.length_cons, List.length_nil, List.length_map, ByteArray.size_append]; omega))); (conv => whnf)) | ((first | with_reducible refine isIf1 ?_ | with_reducible refine isIf2 ?_ | with_reducible refine isIf3 ?_ | with_reducible refine isIf4 ?_ | with_reducible refine isIf5 ?_ | with_reducible refine isIf6 ?_ | with_reducible refine isIf7 ?_ | with_reducible refine isIf8 ?_ | with_reducible refine ifK_id ?_); first | ((focus (rw [decide_eq_true]; rotate_left; focus (first | (first | omega | (simp only [List.length_append, List.length_cons, List.length_nil, List.length_map, ByteArray.size_append]; omega)) | ((with_reducible refine isEq ?_); rfl)))); (first | with_reducible refine br_true rfl ?_ | with_reducible refine br_false rfl ?_ | skip); (conv => whnf)) | ((focus (rw [decide_eq_false]; rotate_left; focus (first | (first | omega | (simp only [List.length_append, List.length_cons, List.length_nil, List.length_map, ByteArray.size_append]; omega)) | (intro h; cases h)))); (first | with_reducible refine br_true rfl ?_ | with_reducible refine br_false rfl ?_ | skip); (conv => whnf))))
        rw [hq]
        have hd2 : decD (k / 10) ++ UInt8.ofNat (48 + k % 10) :: l = decD n := by
          rw [← hd, decD_pos hk0]; simp
        repeat ((with_reducible refine And.intro ?_ ?_); (focus (first | omega | (with_reducible refine i64r ?_; (first | omega | (simp only [List.length_append, List.length_cons, List.length_nil, List.length_map, ByteArray.size_append]; omega))) | (with_reducible refine max_le ?_; (first | omega | (simp only [List.length_append, List.length_cons, List.length_nil, List.length_map, ByteArray.size_append]; omega))) | ((fail_if_success (with_reducible refine max_le ?_)); decide) | (simp only [List.length_append, List.length_cons, List.length_nil, List.length_map, ByteArray.size_append]; omega))); (conv => whnf))
        refine ⟨(k / 10, UInt8.ofNat (48 + k % 10) :: l), le_head ?_, ⟨by show k / 10 ≤ n; omega, hd2, ?_⟩, by show k / 10 < k; omega⟩
        · repeat' constructor
        · have := congrArg List.length hd2
          rw [List.length_append] at this
          show (UInt8.ofNat (48 + k % 10) :: l).length ≤ 12
          omega
/-! ### The texts of the law -/
def wch (i : Nat) : UInt8 := [97, 98, 99, 57].getD (i % 4) 0
def wordL (k : Nat) : List UInt8 := (List.range k).map wch
theorem wordL_succ (k : Nat) : wordL (k + 1) = wordL k ++ [wch k] := by unfold wordL; rw [List.range_succ, List.map_append]; rfl
theorem wordL_len (k : Nat) : (wordL k).length = k := by simp [wordL]
theorem wch_LD (i : Nat) : isLD (wch i) = true := by
  have h : ∀ d, d < 4 → isLD ([97, 98, 99, 57].getD d (0 : UInt8)) = true := by decide
  exact h _ (Nat.mod_lt _ (by omega))
theorem wordL_cons (k : Nat) : ∃ r, wordL (k + 1) = 97 :: r ∧ r.length = k ∧ ∀ c ∈ r, isLD c = true := by
  refine ⟨(List.range k).map fun i => wch (i + 1), ?_, by simp, fun c hc => ?_⟩
  · unfold wordL
    rw [List.range_succ_eq_map, List.map_cons, List.map_map]; rfl
  · obtain ⟨i, _, rfl⟩ := List.mem_map.1 hc
    exact wch_LD _
theorem wch_cut (k : Nat) (i j : Nat) (hi : i = k % 4) (hj : j = k % 4 + 1) : (⟨#[97, 98, 99, 57]⟩ : ByteArray).extract i j = bs [wch k] := by
  subst hi; subst hj
  have h : ∀ d, d < 4 → (⟨#[97, 98, 99, 57]⟩ : ByteArray).extract d (d + 1) = bs [[97, 98, 99, 57].getD d (0 : UInt8)] := by decide +kernel
  exact h _ (Nat.mod_lt _ (by omega))
theorem lex_one {p : Nat} {c : UInt8} {r : List UInt8} {k n : Int} (h1 : isHash c = false) (h2 : isSp c = false) (h : tokF (c :: r) = .tok k (c :: r).length n) : lexL p (c :: r) = ⟨[⟨k, p, bs (c :: r), n⟩], none⟩ := by
  rw [lexL_tok h1 h2 h, List.take_length, List.drop_length, lexL_nil]; rfl
theorem LD_clean {c : UInt8} (h : isLD c = true) : isHash c = false ∧ isSp c = false := by
  unfold isLD at h
  rw [Bool.or_eq_true] at h
  unfold isHash isSp
  rcases h with h | h
  · unfold isL at h
    simp only [Bool.and_eq_true, decide_eq_true_eq] at h
    rw [decide_eq_false (by omega), decide_eq_false (by omega), decide_eq_false (by omega), decide_eq_false (by omega)]; exact ⟨rfl, rfl⟩
  · have := dig_rng h
    rw [decide_eq_false (by omega), decide_eq_false (by omega), decide_eq_false (by omega), decide_eq_false (by omega)]; exact ⟨rfl, rfl⟩
theorem lex_word (k : Nat) : lexF' (bs (43 :: wordL (k + 1))) = if 10 < k + 1 then ⟨[⟨3, 0, bs [43], 0⟩], some (1, 2)⟩ else ⟨[⟨3, 0, bs [43], 0⟩, ⟨1, 1, bs (wordL (k + 1)), 0⟩], none⟩ := by
  show lexL 0 (43 :: wordL (k + 1)) = _
  rw [lexL_tok (by decide) (by decide) (tok_single (by decide) (by decide) (by decide) (by decide) _)]
  show Lx.cons ⟨3, 0, bs [43], 0⟩ (lexL 1 (wordL (k + 1))) = _
  obtain ⟨r, h1, h2, h3⟩ := wordL_cons k
  rw [h1]
  have ht := tok_word (c := 97) (r := r) (by decide) h3
  rw [List.length_cons, h2] at ht
  by_cases hx : 10 < k + 1
  · rw [if_pos hx] at ht ⊢
    rw [lexL_bad (by decide) (by decide) ht]; rfl
  · rw [if_neg hx] at ht ⊢
    rw [lex_one (by decide) (by decide) (by rw [ht, List.length_cons, h2])]; rfl
theorem horner_zeros : ∀ (z : Nat) (l : List UInt8), horner 0 (List.replicate z 48 ++ l) = horner 0 l
  | 0, l => by simp
  | z + 1, l => by
    rw [List.replicate_succ, List.cons_append]
    exact horner_zeros z l
theorem lex_num (z v : Nat) : lexF' (bs (32 :: 40 :: (List.replicate z 48 ++ decS v))) = if (2147483647 : Int) < v then ⟨[⟨3, 1, bs [40], 0⟩], some (2, 6)⟩ else ⟨[⟨3, 1, bs [40], 0⟩, ⟨2, 2, bs (List.replicate z 48 ++ decS v), v⟩], none⟩ := by
  show lexL 0 (32 :: 40 :: (List.replicate z 48 ++ decS v)) = _
  have hd : ∀ c ∈ List.replicate z 48 ++ decS v, isD c = true := fun c hc => by
    rcases List.mem_append.1 hc with h | h
    · rw [(List.mem_replicate.1 h).2]; decide
    · exact decS_isD v c h
  have hne : List.replicate z 48 ++ decS v ≠ [] := fun h => decS_ne v (List.append_eq_nil_iff.1 h).2
  have hv : horner 0 (List.replicate z 48 ++ decS v) = v := by rw [horner_zeros, decS_val]
  generalize List.replicate z 48 ++ decS v = l at *
  rw [lexL_sp (by decide) (by decide), lexL_tok (by decide) (by decide) (tok_single (by decide) (by decide) (by decide) (by decide) _)]
  show Lx.cons ⟨3, 1, bs [40], 0⟩ (lexL 2 l) = _
  have ht := tok_digits hne hd
  rw [hv] at ht
  cases l with
  | nil => exact absurd rfl hne
  | cons c r =>
    obtain ⟨c1, c2⟩ := LD_clean (c := c) (by unfold isLD; rw [hd c (by simp)]; simp)
    by_cases hx : (2147483647 : Int) < v
    · rw [if_pos hx] at ht ⊢
      rw [lexL_bad c1 c2 ht]; rfl
    · rw [if_neg hx] at ht ⊢
      rw [lex_one c1 c2 ht]; rfl
end Go.Proofs.YthaccjcadgodlaaDoor.Vm
