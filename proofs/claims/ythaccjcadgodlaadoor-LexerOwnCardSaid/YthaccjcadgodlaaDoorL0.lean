/- The reference: letters, digits, lists, white space, values. -/
import Derived.Test.YthaccjcadgodlaaDoorLf
namespace Go.Proofs.YthaccjcadgodlaaDoor.Vm
open Go.RowKit
set_option linter.unusedSimpArgs false
set_option linter.unusedVariables false
set_option maxRecDepth 100000
theorem letter_spec (c : UInt8) : Spec Tryd.prog 21 [] [.v (.int .u8 (c.toNat : Int))] fun _ r => r = boolA (isL c) := by
  refine spec_of (cx_ok ord0 xs0 0) Tryd.func21 rfl (by kernel_rfl) rfl (by kernel_rfl) ?_
  intro _
  conv => whnf
  cases h : decide (97 ≤ (c.toNat : Int))
  · conv => whnf
    simp [boolA, isL, h]
  · conv => whnf
    simp [boolA, isL, h]
theorem digit_spec (c : UInt8) : Spec Tryd.prog 22 [] [.v (.int .u8 (c.toNat : Int))] fun _ r => r = boolA (isD c) := by
  refine spec_of (cx_ok ord0 xs0 0) Tryd.func22 rfl (by kernel_rfl) rfl (by kernel_rfl) ?_
  intro _
  conv => whnf
  cases h : decide (48 ≤ (c.toNat : Int))
  · conv => whnf
    simp [boolA, isD, h]
  · conv => whnf
    simp [boolA, isD, h]
theorem hasF_take (l : List ByteArray) (s : ByteArray) (k : Nat) (hk : k < l.length) : hasF (l.take (k + 1)) s = (hasF (l.take k) s || decide (l[k] = s)) := by
  unfold hasF
  rw [List.take_succ_eq_append_getElem hk, List.any_append]; simp
theorem has_spec (l : List ByteArray) (s : ByteArray) (hl : l.length ≤ 1000000) : Spec Tryd.prog 36 [] [.sl 1 l.length (strsA l), .v (.string s)] fun _ r => r = boolA (hasF l s) := by
  refine spec_of (cx_ok ord0 xs0 0) Tryd.func36 rfl (by kernel_rfl) rfl (by kernel_rfl) ?_
  intro _
  conv => whnf
  refine loop_keep [0, 1, 4] ?_
  conv => whnf
  refine loop_go (fun k : Nat => [(5, .v (.int .i64 k))]) (fun _ => []) (fun _ => []) (fun k => k ≤ l.length ∧ hasF (l.take k) s = false) (fun k => l.length - k) 0 ?_ ⟨Nat.zero_le _, by simp [hasF]⟩ ?_
  · repeat' constructor
  · rintro k ⟨hk, hn⟩
    conv => whnf
    by_cases hlt : k < l.length
    · refine br_true (by simp; omega) ?_
      conv => whnf
      refine ⟨⟨by omega, by omega⟩, ?_⟩
      conv => whnf
      rw [show rowOf 1 (Int.toNat (k : Int)) (strsA l) = [.v (.string l[k])] from rowOf_strs l k hlt]
      conv => whnf
      cases hq : decide (l[k] = s)
      · conv => whnf
        refine ⟨i64r (by omega), ?_⟩
        conv => whnf
        refine ⟨k + 1, le_head ?_, ⟨hlt, by rw [hasF_take l s k hlt, hn, hq]; rfl⟩, by omega⟩
        repeat' constructor
      · conv => whnf
        have : hasF l s = true := List.any_eq_true.2 ⟨l[k], List.getElem_mem hlt, hq⟩
        rw [this]; rfl
    · refine br_false (by simp; omega) ?_
      obtain rfl : k = l.length := by omega
      rw [List.take_length] at hn
      conv => whnf
      rw [hn]; rfl
theorem getD_byte (s : ByteArray) (i : Nat) (hi : i < s.data.toList.length) : s.data.toList.getD i 0 = s.data.toList[i] := by rw [List.getD_eq_getElem?_getD, List.getElem?_eq_getElem hi]; rfl
theorem size_len (s : ByteArray) : s.data.toList.length = s.size := by rw [Array.length_toList]; rfl
theorem drop_cons (l : List UInt8) (i : Nat) (hi : i < l.length) : l.drop i = l[i] :: l.drop (i + 1) := List.drop_eq_getElem_cons hi
theorem skip_spec (s : ByteArray) (k : Nat) (hs : s.size ≤ 1000000000) (hk : k ≤ s.size) : Spec Tryd.prog 23 [] [.v (.string s), .v (.int .i64 k)] fun _ r => r = intA ((k + skipN false (s.data.toList.drop k) : Nat) : Int) := by
  have hsl := size_len s
  obtain ⟨l, hl⟩ : ∃ l, l = s.data.toList := ⟨_, rfl⟩
  refine spec_of (cx_ok ord0 xs0 0) Tryd.func23 rfl (by kernel_rfl) rfl (by kernel_rfl) ?_
  intro _
  conv => whnf
  refine loop_keep [0, 4] ?_
  conv => whnf
  refine loop_go (fun j : Nat => [(1, .v (.int .i64 j))]) (fun _ => []) (fun _ => []) (fun j => k ≤ j ∧ j ≤ s.size ∧ j + skipN false (s.data.toList.drop j) = k + skipN false (s.data.toList.drop k)) (fun j => s.size - j) k ?_ ⟨Nat.le_refl _, hk, rfl⟩ ?_
  · repeat' constructor
  · rintro j ⟨hkj, hj, hinv⟩
    conv => whnf
    by_cases hlt : j < s.size
    · refine br_true (by simp; omega) ?_
      conv => whnf
      refine ⟨⟨by omega, by omega⟩, ?_⟩
      rw [show s.data.toList.getD (Int.toNat (j : Int)) 0 = s.data.toList[j] from getD_byte s j (by omega)]
      have hd := drop_cons s.data.toList j (by omega)
      generalize hc : s.data.toList[j]'(by omega) = c at *
      conv => whnf
      cases hq : decide ((c.toNat : Int) = 35)
      · have hq' : isHash c = false := hq
        conv => whnf
        cases h1 : decide ((c.toNat : Int) = 32)
        · conv => whnf
          cases h2 : decide ((c.toNat : Int) = 9)
          · conv => whnf
            cases h3 : decide ((c.toNat : Int) = 10)
            · conv => whnf
              have h4 : isSp c = false := by simp [isSp, h1, h2, h3]
              have : skipN false (s.data.toList.drop j) = 0 := by rw [hd]; simp [skipN, hq', h4]
              rw [this] at hinv
              rw [← hinv]; rfl
            · conv => whnf
              have h4 : isSp c = true := by simp [isSp, h3]
              have : skipN false (s.data.toList.drop j) = skipN false (s.data.toList.drop (j + 1)) + 1 := by rw [hd]; simp [skipN, hq', h4]
              refine ⟨i64r (by omega), ?_⟩
              conv => whnf
              refine ⟨j + 1, le_head ?_, ⟨by omega, by omega, by omega⟩, by omega⟩
              repeat' constructor
          · conv => whnf
            have h4 : isSp c = true := by simp [isSp, h2]
            have : skipN false (s.data.toList.drop j) = skipN false (s.data.toList.drop (j + 1)) + 1 := by rw [hd]; simp [skipN, hq', h4]
            refine ⟨i64r (by omega), ?_⟩
            conv => whnf
            refine ⟨j + 1, le_head ?_, ⟨by omega, by omega, by omega⟩, by omega⟩
            repeat' constructor
        · conv => whnf
          have h4 : isSp c = true := by simp [isSp, h1]
          have : skipN false (s.data.toList.drop j) = skipN false (s.data.toList.drop (j + 1)) + 1 := by rw [hd]; simp [skipN, hq', h4]
          refine ⟨i64r (by omega), ?_⟩
          conv => whnf
          refine ⟨j + 1, le_head ?_, ⟨by omega, by omega, by omega⟩, by omega⟩
          repeat' constructor
      · have hq' : isHash c = true := hq
        have h0 : skipN false (s.data.toList.drop j) = skipN true (s.data.toList.drop (j + 1)) + 1 := by rw [hd]; simp [skipN, hq']
        have h0' : skipN true (s.data.toList.drop j) = skipN true (s.data.toList.drop (j + 1)) + 1 := by
          have : noNl c = true := by
            have := of_decide_eq_true hq
            simp [noNl, this]
          rw [hd]; simp [skipN, this]
        conv => whnf
        refine loop_keep [0, 4] ?_
        conv => whnf
        refine loop_go (fun i : Nat => [(1, .v (.int .i64 i))]) (fun _ => []) (fun _ => []) (fun i => j ≤ i ∧ i ≤ s.size ∧ i + skipN true (s.data.toList.drop i) = k + skipN false (s.data.toList.drop k) ∧ (i = j → noNl c = true)) (fun i => s.size - i) j ?_ ⟨Nat.le_refl _, hj, by omega, fun _ => by
          have := of_decide_eq_true hq
          simp [noNl, this]⟩ ?_
        · repeat' constructor
        · rintro i ⟨hji, hi, hinv2, hne⟩
          conv => whnf
          cases hlt2 : decide ((i : Int) < (s.size : Int))
          · have hge := of_decide_eq_false hlt2
            conv => whnf
            refine ⟨i, le_head ?_, ⟨by omega, hi, ?_⟩, ?_⟩
            · repeat' constructor
            · rw [← hinv2]
              rw [List.drop_of_length_le (by omega)]; simp [skipN]
            · omega
          · have hlt3 := of_decide_eq_true hlt2
            conv => whnf
            refine ⟨⟨by omega, by omega⟩, ?_⟩
            rw [show s.data.toList.getD (Int.toNat (i : Int)) 0 = s.data.toList[i]'(by omega) from getD_byte s i (by omega)]
            have hd2 := drop_cons s.data.toList i (by omega)
            by_cases hij : i = j
            · subst hij
              rw [hc]
              conv => whnf
              have hn := hne rfl
              refine br_true hn ?_
              conv => whnf
              refine ⟨i64r (by omega), ?_⟩
              conv => whnf
              refine ⟨i + 1, le_head ?_, ⟨by omega, by omega, by omega, fun e => by omega⟩, by omega⟩
              repeat' constructor
            · generalize hc2 : s.data.toList[i]'(by omega) = c2 at *
              conv => whnf
              cases hn : noNl c2
              · refine br_false hn ?_
                have : skipN true (s.data.toList.drop i) = skipN false (s.data.toList.drop (i + 1)) + 1 := by rw [hd2]; simp [skipN, hn]
                have h10 : isHash c2 = false ∧ isSp c2 = true := by
                  have : (c2.toNat : Int) = 10 := by simpa [noNl] using hn
                  simp [isHash, isSp, this]
                have h5 : skipN false (s.data.toList.drop i) = skipN false (s.data.toList.drop (i + 1)) + 1 := by rw [hd2]; simp [skipN, h10.1, h10.2]
                conv => whnf
                refine ⟨i, le_head ?_, ⟨by omega, hi, by omega⟩, by omega⟩
                repeat' constructor
              · refine br_true hn ?_
                have : skipN true (s.data.toList.drop i) = skipN true (s.data.toList.drop (i + 1)) + 1 := by rw [hd2]; simp [skipN, hn]
                conv => whnf
                refine ⟨i64r (by omega), ?_⟩
                conv => whnf
                refine ⟨i + 1, le_head ?_, ⟨by omega, by omega, by omega, fun e => by omega⟩, by omega⟩
                repeat' constructor
    · refine br_false (by simp; omega) ?_
      obtain rfl : j = s.size := by omega
      have : skipN false (s.data.toList.drop s.size) = 0 := by rw [List.drop_of_length_le (by omega)]; simp [skipN]
      rw [this] at hinv
      conv => whnf
      rw [← hinv]; rfl
end Go.Proofs.YthaccjcadgodlaaDoor.Vm
