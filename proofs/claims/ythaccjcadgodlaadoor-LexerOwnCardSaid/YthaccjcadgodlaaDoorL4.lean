/- Searching: the first byte that .. ; spans of bytes of some classes. -/
import Derived.Test.YthaccjcadgodlaaDoorL3
namespace Go.Proofs.YthaccjcadgodlaaDoor.Vm
open Go.RowKit
set_option linter.unusedSimpArgs false
set_option linter.unusedVariables false
set_option maxRecDepth 100000
theorem rowOf_cls (f : Nat → Int) (i : Nat) (hi : i < 256) : rowOf 1 i (clsL f) = [.v (.int .u8 (f i))] := by
  unfold clsL
  have := rowOf_map (fun j => u8A (f j)) (List.range 256) i (by simpa using hi)
  rw [this]; simp [u8A]
/-- Where the first byte is that is not so, or -1. -/
def idxF (p : UInt8 → Bool) (l : List UInt8) : Int := if spanN p l < l.length then (spanN p l : Int) else -1
theorem span_at (p : UInt8 → Bool) (l : List UInt8) (k : Nat) (hk : k < l.length) (h : spanN p l = k + spanN p (l.drop k)) (hp : p l[k] = true) : spanN p l = k + 1 + spanN p (l.drop (k + 1)) := by
  rw [h, drop_cons l k hk]
  simp only [spanN, hp]
  omega
theorem span_stop (p : UInt8 → Bool) (l : List UInt8) (k : Nat) (hk : k < l.length) (h : spanN p l = k + spanN p (l.drop k)) (hp : p l[k] = false) : spanN p l = k := by
  rw [h, drop_cons l k hk]
  simp only [spanN, hp]
  omega
theorem byte_fit (c : UInt8) : 0 ≤ (c.toNat : Int) ∧ (c.toNat : Int) < 256 := ⟨by omega, by have := c.toNat_lt; omega⟩
theorem nlIndex_spec (b : ByteArray) (hb : b.size ≤ 1000000000) : Spec Tryd.prog 30 [] [.sl 1 b.size (bytesA b), .v (.int .u8 10)] fun _ r => r = intA (idxF noNl b.data.toList) := by
  have hsl := size_len b
  refine spec_of (cx_ok ord0 xs0 0) Tryd.func30 rfl (by kernel_rfl) rfl (by kernel_rfl) ?_
  intro _
  conv => whnf
  refine loop_keep [0, 1, 4, 7] ?_
  conv => whnf
  refine loop_go (fun k : Nat => [(8, .v (.int .i64 k))]) (fun _ => []) (fun _ => []) (fun k => k ≤ b.size ∧ spanN noNl b.data.toList = k + spanN noNl (b.data.toList.drop k)) (fun k => b.size - k) 0 ?_ ⟨Nat.zero_le _, by simp⟩ ?_
  · repeat' constructor
  · rintro k ⟨hk, hinv⟩
    conv => whnf
    by_cases hlt : k < b.size
    · refine br_true (by simp; omega) ?_
      conv => whnf
      refine ⟨⟨by omega, by omega⟩, ?_⟩
      conv => whnf
      rw [show rowOf 1 (Int.toNat (k : Int)) (bytesA b) = _ from rowOf_bytes b k (by omega)]
      have h1 := span_at noNl b.data.toList k (by omega) hinv
      have h2 := span_stop noNl b.data.toList k (by omega) hinv
      generalize b.data.toList[k]'(by omega) = c at *
      conv => whnf
      cases hq : noNl c
      · have hc : (c.toNat : Int) = 10 := by simpa [noNl] using hq
        refine br_true (by simp [hc]) ?_
        conv => whnf
        have : idxF noNl b.data.toList = k := by unfold idxF; rw [h2 hq, if_pos (by omega)]
        rw [this]; rfl
      · have hc : ¬ (c.toNat : Int) = 10 := by simpa [noNl] using hq
        refine br_false (by simp; omega) ?_
        conv => whnf
        refine ⟨i64r (by omega), ?_⟩
        conv => whnf
        refine ⟨k + 1, le_head ?_, ⟨by omega, h1 hq⟩, by omega⟩
        repeat' constructor
    · refine br_false (by simp; omega) ?_
      obtain rfl : k = b.size := by omega
      conv => whnf
      rw [List.drop_of_length_le (by omega)] at hinv
      have : idxF noNl b.data.toList = -1 := by unfold idxF; rw [hinv, if_neg (by simp [spanN])]
      rw [this]; rfl
theorem strIndex_spec (l : List ByteArray) (s : ByteArray) (hl : l.length ≤ 1000000) : Spec Tryd.prog 39 [] [.sl 1 l.length (strsA l), .v (.string s)] fun _ r => ∃ n : Int, (-1 ≤ n ∧ n ≤ 1000000) ∧ decide (0 ≤ n) = hasF l s ∧ r = intA n := by
  refine spec_of (cx_ok ord0 xs0 0) Tryd.func39 rfl (by kernel_rfl) rfl (by kernel_rfl) ?_
  intro _
  conv => whnf
  refine loop_keep [0, 1, 4, 7] ?_
  conv => whnf
  refine loop_go (fun k : Nat => [(8, .v (.int .i64 k))]) (fun _ => []) (fun _ => []) (fun k => k ≤ l.length ∧ hasF (l.take k) s = false) (fun k => l.length - k) 0 ?_ ⟨Nat.zero_le _, by simp [hasF]⟩ ?_
  · repeat' constructor
  · rintro k ⟨hk, hinv⟩
    conv => whnf
    by_cases hlt : k < l.length
    · refine br_true (by simp; omega) ?_
      conv => whnf
      refine ⟨⟨by omega, by omega⟩, ?_⟩
      conv => whnf
      rw [show rowOf 1 (Int.toNat (k : Int)) (strsA l) = [.v (.string l[k])] from rowOf_strs l k hlt]
      conv => whnf
      cases hq : decide (l[k] = s)
      · refine br_false (by rw [← hq]; exact decide_eq_decide.2 eq_comm) ?_
        conv => whnf
        refine ⟨i64r (by omega), ?_⟩
        conv => whnf
        refine ⟨k + 1, le_head ?_, ⟨hlt, by rw [hasF_take l s k hlt, hinv, hq]; rfl⟩, by omega⟩
        repeat' constructor
      · refine br_true (by rw [← hq]; exact decide_eq_decide.2 eq_comm) ?_
        conv => whnf
        have : hasF l s = true := List.any_eq_true.2 ⟨l[k], List.getElem_mem hlt, hq⟩
        exact ⟨k, by omega, by rw [this]; simp, rfl⟩
    · refine br_false (by simp; omega) ?_
      obtain rfl : k = l.length := by omega
      rw [List.take_length] at hinv
      conv => whnf
      exact ⟨-1, by omega, by rw [hinv]; rfl, rfl⟩
theorem contains_spec (l : List ByteArray) (s : ByteArray) (hl : l.length ≤ 1000000) : Spec Tryd.prog 34 [] [.sl 1 l.length (strsA l), .v (.string s)] fun _ r => r = boolA (hasF l s) := by
  refine spec_of (cx_ok ord0 xs0 0) Tryd.func34 rfl (by kernel_rfl) rfl (by kernel_rfl) ?_
  intro _
  conv => whnf
  refine call0 [] rfl (fun _ => strIndex_spec l s hl) ?_
  rintro r ⟨n, hn, hq, rfl⟩
  conv => whnf
  rw [hq]; rfl
theorem isWord_spec (k : Int) : Spec Tryd.prog 31 [] [.v (.int .u8 k)] fun _ r => r = boolA (decide (k = 2) || decide (k = 3)) := by
  refine spec_of (cx_ok ord0 xs0 0) Tryd.func31 rfl (by kernel_rfl) rfl (by kernel_rfl) ?_
  intro _
  conv => whnf
  cases h : decide (k = 2)
  · conv => whnf
    simp [boolA, h]
  · conv => whnf
    simp [boolA, h]
theorem isNum_spec (k : Int) : Spec Tryd.prog 32 [] [.v (.int .u8 k)] fun _ r => r = boolA (decide (k = 3)) := by
  refine spec_of (cx_ok ord0 xs0 0) Tryd.func32 rfl (by kernel_rfl) rfl (by kernel_rfl) ?_
  intro _
  conv => whnf
  rfl
/-- The bytes of some classes. -/
def clsP (p : Int → Bool) (c : UInt8) : Bool := p (classOf c.toNat)
theorem notIn_spec (f : Nat) (p : Int → Bool) (hf : ∀ k, Spec Tryd.prog f [] [.v (.int .u8 k)] fun _ r => r = boolA (p k)) (c : UInt8) :
    Spec Tryd.prog 29 [[.clo f []]] [.v (.int .u8 (c.toNat : Int)), .box 0 0, .pp (clsL classOf)] fun outs r => outs = [[.clo f []]] ∧ r = boolA (!clsP p c) := by
  have hc := byte_fit c
  obtain ⟨L, hL⟩ : ∃ L, L = clsL classOf := ⟨_, rfl⟩
  rw [← hL]
  refine spec_of (cx_ok ord29 xs0 1) Tryd.func29 rfl (by kernel_rfl) rfl (by kernel_rfl) ?_
  intro _
  conv => whnf
  refine ⟨⟨by omega, by omega⟩, ?_⟩
  generalize hq : rowOf _ (Int.toNat (c.toNat : Int)) L = q
  obtain rfl : q = [.v (.int .u8 (classOf c.toNat))] := by rw [← hq, hL]; exact rowOf_cls classOf c.toNat (by omega)
  conv => whnf
  refine call0 [] rfl (fun _ => hf _) ?_
  rintro r rfl
  conv => whnf
  exact ⟨rfl, rfl⟩
theorem idxFunc_spec (f : Nat) (p : Int → Bool) (hf : ∀ k, Spec Tryd.prog f [] [.v (.int .u8 k)] fun _ r => r = boolA (p k)) (b : ByteArray) (hb : b.size ≤ 1000000000) :
    Spec Tryd.prog 28 [[.clo f []]] [.sl 1 b.size (bytesA b), .clo 29 [.box 0 0, .pp (clsL classOf)]] fun outs r => outs = [[.clo f []]] ∧ r = intA (idxF (clsP p) b.data.toList) := by
  have hsl := size_len b
  have hno := notIn_spec f p hf
  obtain ⟨L, hL⟩ : ∃ L, L = clsL classOf := ⟨_, rfl⟩
  rw [← hL] at hno ⊢
  refine spec_of (cx_ok ord0 xs0 1) Tryd.func28 rfl (by kernel_rfl) rfl (by kernel_rfl) ?_
  intro _
  conv => whnf
  refine loop_keep [0, 1, 4, 7] ?_
  conv => whnf
  refine loop_go (fun k : Nat => [(8, .v (.int .i64 k))]) (fun _ => [[.clo f []]]) (fun _ => []) (fun k => k ≤ b.size ∧ spanN (clsP p) b.data.toList = k + spanN (clsP p) (b.data.toList.drop k)) (fun k => b.size - k) 0 ?_ ⟨Nat.zero_le _, by simp⟩ ?_
  · repeat' constructor
  · rintro k ⟨hk, hinv⟩
    conv => whnf
    by_cases hlt : k < b.size
    · refine br_true (by simp; omega) ?_
      conv => whnf
      refine ⟨⟨by omega, by omega⟩, ?_⟩
      conv => whnf
      rw [show rowOf 1 (Int.toNat (k : Int)) (bytesA b) = _ from rowOf_bytes b k (by omega)]
      have h1 := span_at (clsP p) b.data.toList k (by omega) hinv
      have h2 := span_stop (clsP p) b.data.toList k (by omega) hinv
      generalize b.data.toList[k]'(by omega) = c at *
      conv => whnf
      refine call1 0 [] rfl rfl rfl rfl (fun _ => hno c) ?_
      rintro o r ⟨ho, rfl⟩
      obtain rfl : o = [.clo f []] := by simpa using ho
      conv => whnf
      cases hq : clsP p c
      · conv => whnf
        have : idxF (clsP p) b.data.toList = k := by unfold idxF; rw [h2 hq, if_pos (by omega)]
        rw [this]
        exact ⟨rfl, rfl⟩
      · conv => whnf
        refine ⟨i64r (by omega), ?_⟩
        conv => whnf
        refine ⟨k + 1, le_head ?_, ⟨by omega, h1 hq⟩, by omega⟩
        repeat' constructor
    · refine br_false (by simp; omega) ?_
      obtain rfl : k = b.size := by omega
      conv => whnf
      rw [List.drop_of_length_le (by omega)] at hinv
      have : idxF (clsP p) b.data.toList = -1 := by unfold idxF; rw [hinv, if_neg (by simp [spanN])]
      rw [this]
      exact ⟨rfl, rfl⟩
theorem span_spec (f : Nat) (p : Int → Bool) (hf : ∀ k, Spec Tryd.prog f [] [.v (.int .u8 k)] fun _ r => r = boolA (p k)) (b : ByteArray) (hb : b.size ≤ 1000000000) :
    Spec Tryd.prog 27 [] [.clo f [], .pp [.v (.string b)], .pp (clsL classOf)] fun _ r => r = intA (spanN (clsP p) b.data.toList : Nat) := by
  have hsl := size_len b
  have hidx := idxFunc_spec f p hf b hb
  have hle := spanN_le (clsP p) b.data.toList
  obtain ⟨L, hL⟩ : ∃ L, L = clsL classOf := ⟨_, rfl⟩
  rw [← hL] at hidx ⊢
  refine spec_of (cx_ok ord0 xs0 0) Tryd.func27 rfl (by kernel_rfl) rfl (by kernel_rfl) ?_
  intro _
  conv => whnf
  refine call1 0 [] rfl rfl rfl rfl (fun _ => hidx) ?_
  rintro o r ⟨ho, rfl⟩
  obtain rfl : o = [.clo f []] := by simpa using ho
  conv => whnf
  by_cases hlt : spanN (clsP p) b.data.toList < b.data.toList.length
  · have hv : idxF (clsP p) b.data.toList = (spanN (clsP p) b.data.toList : Nat) := by unfold idxF; rw [if_pos hlt]
    generalize idxF (clsP p) b.data.toList = v at *
    refine br_false (b := decide (v < 0)) (decide_eq_false (by omega)) ?_
    conv => whnf
    rw [hv]; rfl
  · have hv : idxF (clsP p) b.data.toList = -1 := by unfold idxF; rw [if_neg hlt]
    generalize idxF (clsP p) b.data.toList = v at *
    refine br_true (b := decide (v < 0)) (decide_eq_true (by omega)) ?_
    conv => whnf
    have : spanN (clsP p) b.data.toList = b.size := by omega
    rw [this]
    rfl
theorem clsP_word (c : UInt8) : clsP (fun k => decide (k = 2) || decide (k = 3)) c = isLD c := by
  have : ∀ n : Fin 256, (decide (classOf n.val = 2) || decide (classOf n.val = 3)) = ((decide (97 ≤ (n.val : Int)) && decide ((n.val : Int) ≤ 122)) || (decide (48 ≤ (n.val : Int)) && decide ((n.val : Int) ≤ 57))) := by decide +kernel
  exact this ⟨c.toNat, c.toNat_lt⟩
theorem clsP_num (c : UInt8) : clsP (fun k => decide (k = 3)) c = isD c := by
  have : ∀ n : Fin 256, decide (classOf n.val = 3) = (decide (48 ≤ (n.val : Int)) && decide ((n.val : Int) ≤ 57)) := by decide +kernel
  exact this ⟨c.toNat, c.toNat_lt⟩
theorem spanN_congr {p q : UInt8 → Bool} (h : ∀ c, p c = q c) (l : List UInt8) : spanN p l = spanN q l := by
  have : p = q := funext h
  rw [this]
theorem word_span (b : ByteArray) (hb : b.size ≤ 1000000000) : Spec Tryd.prog 27 [] [.clo 31 [], .pp [.v (.string b)], .pp (clsL classOf)] fun _ r => r = intA (spanN isLD b.data.toList : Nat) := by
  have := span_spec _ _ isWord_spec b hb
  rw [spanN_congr clsP_word] at this
  exact this
theorem num_span (b : ByteArray) (hb : b.size ≤ 1000000000) : Spec Tryd.prog 27 [] [.clo 32 [], .pp [.v (.string b)], .pp (clsL classOf)] fun _ r => r = intA (spanN isD b.data.toList : Nat) := by
  have := span_spec _ _ isNum_spec b hb
  rw [spanN_congr clsP_num] at this
  exact this
/-! ### What the classes say -/
theorem cls_sp (c : UInt8) : decide (classOf c.toNat = 1) = isSp c := by
  have : ∀ n : Fin 256, decide (classOf n.val = 1) = ((decide ((n.val : Int) = 32) || decide ((n.val : Int) = 9)) || decide ((n.val : Int) = 10)) := by decide +kernel
  exact this ⟨c.toNat, c.toNat_lt⟩
theorem cls_hash (c : UInt8) : decide (classOf c.toNat = 4) = isHash c := by
  have : ∀ n : Fin 256, decide (classOf n.val = 4) = decide ((n.val : Int) = 35) := by decide +kernel
  exact this ⟨c.toNat, c.toNat_lt⟩
theorem cls_L (c : UInt8) : decide (classOf c.toNat = 2) = isL c := by
  have : ∀ n : Fin 256, decide (classOf n.val = 2) = (decide (97 ≤ (n.val : Int)) && decide ((n.val : Int) ≤ 122)) := by decide +kernel
  exact this ⟨c.toNat, c.toNat_lt⟩
theorem cls_D (c : UInt8) : decide (classOf c.toNat = 3) = isD c := clsP_num c
theorem bs_inj {a b : List UInt8} (h : bs a = bs b) : a = b := by
  have := congrArg (fun x : ByteArray => x.data.toList) h
  simpa [bs] using this
theorem cls_S (c : UInt8) : decide (classOf c.toNat = 5) = hasF ones (bs [c]) := by
  have : ∀ n : Fin 256, decide (classOf n.val = 5) = hasF ones (bs [UInt8.ofNat n.val]) := by decide +kernel
  have h := this ⟨c.toNat, c.toNat_lt⟩
  simpa using h
end Go.Proofs.YthaccjcadgodlaaDoor.Vm
