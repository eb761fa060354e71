/- The reference: values and tokens. -/
import Derived.Test.YthaccjcadgodlaaDoorL0
namespace Go.Proofs.YthaccjcadgodlaaDoor.Vm
open Go.RowKit
set_option linter.unusedSimpArgs false
set_option linter.unusedVariables false
set_option maxRecDepth 100000
theorem isD_rng {c : UInt8} (h : isD c = true) : 48 ≤ (c.toNat : Int) ∧ (c.toNat : Int) ≤ 57 := by
  unfold isD at h
  rw [Bool.and_eq_true] at h
  exact ⟨of_decide_eq_true h.1, of_decide_eq_true h.2⟩
theorem value_spec (s : ByteArray) (hs : s.size ≤ 1000000000) (hd : ∀ c ∈ s.data.toList, isD c = true) : Spec Tryd.prog 35 [] [.v (.string s)] fun _ r => r = intA (valF 0 s.data.toList) := by
  have hsl := size_len s
  refine spec_of (cx_ok ord0 xs0 0) Tryd.func35 rfl (by kernel_rfl) rfl (by kernel_rfl) ?_
  intro _
  conv => whnf
  refine loop_keep [0, 2] ?_
  conv => whnf
  refine loop_go (fun x : Nat × Int => [(3, .v (.int .i64 x.2)), (4, .v (.int .i64 x.1))]) (fun _ => []) (fun _ => []) (fun x => x.1 ≤ s.size ∧ 0 ≤ x.2 ∧ x.2 ≤ 2147483647 ∧ valF x.2 (s.data.toList.drop x.1) = valF 0 s.data.toList) (fun x => s.size - x.1) (0, 0) ?_ ⟨Nat.zero_le _, by simp, by simp, by simp⟩ ?_
  · repeat' constructor
  · rintro ⟨j, v⟩ ⟨hj, hv0, hv1, hinv⟩
    simp only at hj hv0 hv1 hinv
    conv => whnf
    by_cases hlt : j < s.size
    · refine br_true (by simp; omega) ?_
      have hdj := hd _ (List.getElem_mem (l := s.data.toList) (n := j) (by omega))
      have hdr := drop_cons s.data.toList j (by omega)
      have hgb := getD_byte s j (by omega)
      generalize hc : s.data.toList[j]'(by omega) = c at *
      have hr := isD_rng hdj
      conv => whnf
      refine ⟨i64r (by omega), ?_⟩
      conv => whnf
      refine ⟨⟨by omega, by omega⟩, ?_⟩
      rw [show s.data.toList.getD (Int.toNat (j : Int)) 0 = c from hgb]
      conv => whnf
      refine ⟨i64r (by omega), ?_⟩
      conv => whnf
      refine ⟨i64r (by omega), ?_⟩
      conv => whnf
      refine ⟨i64r (by omega), ?_⟩
      conv => whnf
      have hst : valF v (s.data.toList.drop j) = if 2147483647 < 10 * v + (c.toNat : Int) - 48 then -1 else valF (10 * v + (c.toNat : Int) - 48) (s.data.toList.drop (j + 1)) := by rw [hdr]; rfl
      by_cases hbig : 2147483647 < 10 * v + (c.toNat : Int) - 48
      · refine br_true (by simpa using hbig) ?_
        conv => whnf
        rw [if_pos hbig] at hst
        rw [← hinv, hst]; rfl
      · refine br_false (by simpa using hbig) ?_
        conv => whnf
        rw [if_neg hbig] at hst
        refine ⟨i64r (by omega), ?_⟩
        conv => whnf
        refine ⟨(j + 1, 10 * v + (c.toNat : Int) - 48), le_head ?_, ⟨by simp only; omega, by simp only; omega, by simp only; omega, by simp only; rw [← hst, hinv]⟩, by simp only; omega⟩
        repeat' constructor
    · refine br_false (by simp; omega) ?_
      conv => whnf
      rw [List.drop_of_length_le (by omega)] at hinv
      rw [← hinv]; rfl
theorem extract_bs (s : ByteArray) (a b : Nat) : s.extract a b = bs ((s.data.toList.drop a).take (b - a)) := by
  apply ByteArray.ext
  rw [ByteArray.data_extract]
  apply Array.toList_inj.1
  simp [bs, Array.toList_extract, List.extract_eq_take_drop]
theorem ext_take (s : ByteArray) (a b n : Nat) (h : b = min (a + n) s.size) (ha : a ≤ s.size) : s.extract a b = bs ((s.data.toList.drop a).take n) := by
  have hsl := size_len s
  rw [extract_bs]
  congr 1
  subst h
  rcases Nat.le_total (a + n) s.size with h | h
  · rw [Nat.min_eq_left h, Nat.add_sub_cancel_left]
  · rw [Nat.min_eq_right h, List.take_of_length_le (by rw [List.length_drop]; omega), List.take_of_length_le (by rw [List.length_drop]; omega)]
theorem bs_size (l : List UInt8) : (bs l).size = l.length := by show l.toArray.size = _; exact List.size_toArray
theorem bs_list (l : List UInt8) : (bs l).data.toList = l := by simp [bs]
theorem span_take (p : UInt8 → Bool) : ∀ (l : List UInt8), ∀ c ∈ l.take (spanN p l), p c = true
  | [], c, h => by simp [spanN] at h
  | x :: r, c, h => by
    unfold spanN at h
    split at h
    · rename_i hp
      rw [List.take_succ_cons] at h
      rcases List.mem_cons.1 h with rfl | h
      · exact hp
      · exact span_take p r c h
    · simp at h
def noTk : List A := [intA 0, intA 0, strA ⟨#[]⟩, intA 0]
/-- What the reference's token hands back. -/
def tokR (s : ByteArray) (k : Nat) : A := match tokF (s.data.toList.drop k) with
  | .bad e => .tup [.agg noTk, intA e]
  | .tok kd len n => .tup [.agg (tkL ⟨kd, k, bs ((s.data.toList.drop k).take len), n⟩), intA 0]
theorem tokR_bad {s : ByteArray} {k : Nat} {e : Int} (h : tokF (s.data.toList.drop k) = .bad e) : tokR s k = .tup [.agg noTk, intA e] := by unfold tokR; rw [h]
theorem tokR_tok {s : ByteArray} {k len : Nat} {kd n : Int} (h : tokF (s.data.toList.drop k) = .tok kd len n) : tokR s k = .tup [.agg [intA kd, intA k, strA (bs ((s.data.toList.drop k).take len)), intA n], intA 0] := by unfold tokR; rw [h]; rfl
set_option maxHeartbeats 1000000 in
theorem token_spec (s : ByteArray) (k : Nat) (hs : s.size ≤ 1000000000) (hk : k < s.size) : Spec Tryd.prog 24 [] [.v (.string s), .v (.int .i64 k)] fun _ r => r = tokR s k := by
  have hsl := size_len s
  have hd0 := drop_cons s.data.toList k (by omega)
  have hg0 := getD_byte s k (by omega)
  obtain ⟨r, hr⟩ : ∃ r, r = s.data.toList.drop (k + 1) := ⟨_, rfl⟩
  have hrl : r.length = s.size - (k + 1) := by rw [hr, List.length_drop, hsl]
  rw [← hr] at hd0
  generalize hc : s.data.toList[k]'(by omega) = c at *
  refine spec_of (cx_ok ord0 xs0 0) Tryd.func24 rfl (by kernel_rfl) rfl (by kernel_rfl) ?_
  intro _
  conv => whnf
  refine ⟨i64r (by omega), ?_⟩
  conv => whnf
  refine ⟨⟨by omega, by omega⟩, ?_⟩
  rw [show s.data.toList.getD (Int.toNat (k : Int)) 0 = c from hg0]
  conv => whnf
  refine call0 [] rfl (fun _ => letter_spec c) ?_
  rintro x rfl
  conv => whnf
  have span : ∀ (p : UInt8 → Bool) (j : Nat), k + 1 ≤ j → j < s.size → spanN p (s.data.toList.drop j) = match p (s.data.toList.getD j 0) with | true => spanN p (s.data.toList.drop (j + 1)) + 1 | false => 0 := fun p j h1 h2 => by
    rw [getD_byte s j (by omega), drop_cons s.data.toList j (by omega)]; rfl
  cases hL : isL c
  · conv => whnf
    refine ⟨⟨by omega, by omega⟩, ?_⟩
    rw [show s.data.toList.getD (Int.toNat (k : Int)) 0 = c from hg0]
    conv => whnf
    refine call0 [] rfl (fun _ => digit_spec c) ?_
    rintro x rfl
    conv => whnf
    cases hD : isD c
    · conv => whnf
      refine ⟨i64r (by omega), ?_⟩
      conv => whnf
      refine ⟨⟨by omega, by omega, by omega⟩, ?_⟩
      rw [show s.extract (Int.toNat (k : Int)) (Int.toNat (min ((k : Int) + 2) (s.size : Int))) = bs ((c :: r).take 2) from by rw [← hd0]; exact ext_take s k _ 2 (by omega) (by omega)]
      conv => whnf
      refine call0 [0] rfl (fun _ => has_spec twos (bs ((c :: r).take 2)) (by decide)) ?_
      rintro x rfl
      cases hb : hasF twos (bs ((c :: r).take 2))
      · conv => whnf
        refine ⟨⟨by omega, by omega, by omega⟩, ?_⟩
        rw [show s.extract (Int.toNat (k : Int)) (Int.toNat ((k : Int) + 1)) = bs [c] from by
          have := ext_take s k (k + 1) 1 (by omega) (by omega)
          rw [hd0] at this
          exact this]
        conv => whnf
        refine call0 [1] rfl (fun _ => has_spec ones (bs [c]) (by decide)) ?_
        rintro x rfl
        cases hb2 : hasF ones (bs [c])
        · conv => whnf
          rw [tokR_bad (e := 10) (by rw [hd0]; simp only [tokF, hL, hD, hb, hb2])]; rfl
        · conv => whnf
          rw [tokR_tok (kd := 3) (len := 1) (n := 0) (by rw [hd0]; simp only [tokF, hL, hD, hb, hb2]), hd0]; rfl
      · conv => whnf
        rw [tokR_tok (kd := 3) (len := 2) (n := 0) (by rw [hd0]; simp only [tokF, hL, hD, hb]), hd0]; rfl
    · have htok : tokF (s.data.toList.drop k) = if valF 0 (c :: r.take (spanN isD r)) < 0 then .bad 6 else .tok 2 (spanN isD r + 1) (valF 0 (c :: r.take (spanN isD r))) := by rw [hd0]; simp only [tokF, hL, hD]
      have hvd : ∀ x ∈ (bs (c :: r.take (spanN isD r))).data.toList, isD x = true := fun x hx => by
        rw [bs_list] at hx
        rcases List.mem_cons.1 hx with rfl | hx
        · exact hD
        · exact span_take isD r x hx
      have hsn := spanN_le isD r
      have hval := value_spec (bs (c :: r.take (spanN isD r))) (by rw [bs_size]; simp; omega) hvd
      rw [bs_list] at hval
      conv => whnf
      refine loop_keep [0, 1, 4, 5] ?_
      conv => whnf
      refine loop_go (fun j : Nat => [(6, .v (.int .i64 j))]) (fun _ => [noTk]) (fun _ => []) (fun j => k + 1 ≤ j ∧ j ≤ s.size ∧ (j - (k + 1)) + spanN isD (s.data.toList.drop j) = spanN isD r) (fun j => s.size - j) (k + 1) ?_ ⟨Nat.le_refl _, by omega, by rw [hr]; omega⟩ ?_
      · repeat' constructor
      · rintro j ⟨hkj, hj, hinv⟩
        conv => whnf
        cases hlt : decide ((j : Int) < (s.size : Int))
        · have hge := of_decide_eq_false hlt
          have h0 : spanN isD (s.data.toList.drop j) = 0 := by rw [List.drop_of_length_le (by omega)]; simp [spanN]
          conv => whnf
          refine ⟨⟨by omega, by omega, by omega⟩, ?_⟩
          rw [show s.extract (Int.toNat (k : Int)) (Int.toNat (j : Int)) = bs (c :: r.take (spanN isD r)) from by
            have := ext_take s k j (spanN isD r + 1) (by omega) (by omega)
            rw [hd0] at this
            exact this]
          conv => whnf
          refine call0 [] rfl (fun _ => hval) ?_
          rintro x rfl
          generalize valF 0 (c :: r.take (spanN isD r)) = v at *
          conv => whnf
          by_cases hneg : v < 0
          · refine br_true (by simpa using hneg) ?_
            conv => whnf
            rw [if_pos hneg] at htok
            rw [tokR_bad htok]; rfl
          · refine br_false (by simpa using hneg) ?_
            conv => whnf
            refine ⟨⟨by omega, by omega, by omega⟩, ?_⟩
            rw [show s.extract (Int.toNat (k : Int)) (Int.toNat (j : Int)) = bs (c :: r.take (spanN isD r)) from by
              have := ext_take s k j (spanN isD r + 1) (by omega) (by omega)
              rw [hd0] at this
              exact this]
            conv => whnf
            rw [if_neg hneg] at htok
            rw [tokR_tok htok, hd0]; rfl
        · have hlt2 := of_decide_eq_true hlt
          have hsp := span isD j hkj (by omega)
          conv => whnf
          refine ⟨⟨by omega, by omega⟩, ?_⟩
          rw [show s.data.toList.getD (Int.toNat (j : Int)) 0 = s.data.toList.getD j 0 from rfl]
          generalize s.data.toList.getD j 0 = q at *
          conv => whnf
          refine call0 [] rfl (fun _ => digit_spec q) ?_
          rintro x rfl
          conv => whnf
          cases hq : isD q
          · have h0 : spanN isD (s.data.toList.drop j) = 0 := by rw [hsp, hq]
            conv => whnf
            refine ⟨⟨by omega, by omega, by omega⟩, ?_⟩
            rw [show s.extract (Int.toNat (k : Int)) (Int.toNat (j : Int)) = bs (c :: r.take (spanN isD r)) from by
              have := ext_take s k j (spanN isD r + 1) (by omega) (by omega)
              rw [hd0] at this
              exact this]
            conv => whnf
            refine call0 [] rfl (fun _ => hval) ?_
            rintro x rfl
            generalize valF 0 (c :: r.take (spanN isD r)) = v at *
            conv => whnf
            by_cases hneg : v < 0
            · refine br_true (by simpa using hneg) ?_
              conv => whnf
              rw [if_pos hneg] at htok
              rw [tokR_bad htok]; rfl
            · refine br_false (by simpa using hneg) ?_
              conv => whnf
              refine ⟨⟨by omega, by omega, by omega⟩, ?_⟩
              rw [show s.extract (Int.toNat (k : Int)) (Int.toNat (j : Int)) = bs (c :: r.take (spanN isD r)) from by
                have := ext_take s k j (spanN isD r + 1) (by omega) (by omega)
                rw [hd0] at this
                exact this]
              conv => whnf
              rw [if_neg hneg] at htok
              rw [tokR_tok htok, hd0]; rfl
          · rw [hq] at hsp
            conv => whnf
            refine ⟨i64r (by omega), ?_⟩
            conv => whnf
            refine ⟨j + 1, le_head ?_, ⟨by omega, by omega, by simp only at hsp; omega⟩, by omega⟩
            repeat' constructor
  · have htok : tokF (s.data.toList.drop k) = if 10 < spanN isLD r + 1 then .bad 2 else .tok 1 (spanN isLD r + 1) 0 := by rw [hd0]; simp only [tokF, hL]
    conv => whnf
    refine loop_keep [0, 1, 4, 5] ?_
    conv => whnf
    refine loop_go (fun j : Nat => [(6, .v (.int .i64 j))]) (fun _ => [noTk]) (fun _ => []) (fun j => k + 1 ≤ j ∧ j ≤ s.size ∧ (j - (k + 1)) + spanN isLD (s.data.toList.drop j) = spanN isLD r) (fun j => s.size - j) (k + 1) ?_ ⟨Nat.le_refl _, by omega, by rw [hr]; omega⟩ ?_
    · repeat' constructor
    · rintro j ⟨hkj, hj, hinv⟩
      conv => whnf
      cases hlt : decide ((j : Int) < (s.size : Int))
      · have hge := of_decide_eq_false hlt
        have h0 : spanN isLD (s.data.toList.drop j) = 0 := by rw [List.drop_of_length_le (by omega)]; simp [spanN]
        conv => whnf
        refine ⟨i64r (by omega), ?_⟩
        conv => whnf
        by_cases hbig : 10 < spanN isLD r + 1
        · refine br_true (by simp; omega) ?_
          conv => whnf
          rw [if_pos hbig] at htok
          rw [tokR_bad htok]; rfl
        · refine br_false (by simp; omega) ?_
          conv => whnf
          refine ⟨⟨by omega, by omega, by omega⟩, ?_⟩
          rw [show s.extract (Int.toNat (k : Int)) (Int.toNat (j : Int)) = bs ((s.data.toList.drop k).take (spanN isLD r + 1)) from ext_take s k j _ (by omega) (by omega)]
          conv => whnf
          rw [if_neg hbig] at htok
          rw [tokR_tok htok]; rfl
      · have hlt2 := of_decide_eq_true hlt
        have hsp := span isLD j hkj (by omega)
        conv => whnf
        refine ⟨⟨by omega, by omega⟩, ?_⟩
        rw [show s.data.toList.getD (Int.toNat (j : Int)) 0 = s.data.toList.getD j 0 from rfl]
        obtain ⟨q, hqe⟩ : ∃ q, q = s.data.toList.getD j 0 := ⟨_, rfl⟩
        rw [← hqe] at hsp ⊢
        conv => whnf
        refine call0 [] rfl (fun _ => letter_spec q) ?_
        rintro x rfl
        conv => whnf
        cases hq : isL q
        · conv => whnf
          refine ⟨⟨by omega, by omega⟩, ?_⟩
          rw [show s.data.toList.getD (Int.toNat (j : Int)) 0 = q from hqe.symm]
          conv => whnf
          refine call0 [] rfl (fun _ => digit_spec q) ?_
          rintro x rfl
          conv => whnf
          cases hq2 : isD q
          · have h0 : spanN isLD (s.data.toList.drop j) = 0 := by rw [hsp, show isLD q = false from by simp [isLD, hq, hq2]]
            conv => whnf
            refine ⟨i64r (by omega), ?_⟩
            conv => whnf
            by_cases hbig : 10 < spanN isLD r + 1
            · refine br_true (by simp; omega) ?_
              conv => whnf
              rw [if_pos hbig] at htok
              rw [tokR_bad htok]; rfl
            · refine br_false (by simp; omega) ?_
              conv => whnf
              refine ⟨⟨by omega, by omega, by omega⟩, ?_⟩
              rw [show s.extract (Int.toNat (k : Int)) (Int.toNat (j : Int)) = bs ((s.data.toList.drop k).take (spanN isLD r + 1)) from ext_take s k j _ (by omega) (by omega)]
              conv => whnf
              rw [if_neg hbig] at htok
              rw [tokR_tok htok]; rfl
          · rw [show isLD q = true from by simp [isLD, hq2]] at hsp
            conv => whnf
            refine ⟨i64r (by omega), ?_⟩
            conv => whnf
            refine ⟨j + 1, le_head ?_, ⟨by omega, by omega, by simp only at hsp; omega⟩, by omega⟩
            repeat' constructor
        · rw [show isLD q = true from by simp [isLD, hq]] at hsp
          conv => whnf
          refine ⟨i64r (by omega), ?_⟩
          conv => whnf
          refine ⟨j + 1, le_head ?_, ⟨by omega, by omega, by simp only at hsp; omega⟩, by omega⟩
          repeat' constructor
end Go.Proofs.YthaccjcadgodlaaDoor.Vm
