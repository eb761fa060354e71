/- Numbers: strconv.ParseUint at digits, base 10 and 31 bits. -/
import Derived.Test.YthaccjcadgodlaaDoorL4
import Derived.Shelf.Pu.ToErrorRange
import Derived.Shelf.Lay
import Derived.Ground.MpProg
namespace Go.Proofs.YthaccjcadgodlaaDoor.Vm
open Go.RowKit Go.Shelf
set_option linter.unusedSimpArgs false
set_option linter.unusedVariables false
set_option maxRecDepth 100000
/-- What the inner ParseUint hands back. -/
def puR (l : List UInt8) : A := if valF 0 l < 0 then .tup [.v (.int .u64 2147483647), .v (.iface 76 (.int .i64 1))] else .tup [.v (.int .u64 (valF 0 l)), .v .nilIface]
theorem u64r {n : Int} (h : 0 ≤ n ∧ n ≤ 18446744073709551615) : lo .u64 ≤ n ∧ n ≤ hi .u64 := h
theorem puint_spec (s : ByteArray) (hs : s.size ≤ 1000000000) (hs1 : 1 ≤ s.size) (hd : ∀ c ∈ s.data.toList, isD c = true) :
    Spec Tryd.prog 37 [] [.v (.string s), .v (.int .i64 10), .v (.int .i64 31)] fun _ r => r = puR s.data.toList := by
  have hsl := size_len s
  refine spec_of (cx_ok ord0 xs0 0) Tryd.func37 rfl (by kernel_rfl) rfl (by kernel_rfl) ?_
  intro _
  conv => whnf
  refine br_false (decide_eq_false fun e => by have h0 : s.size = 0 := (congrArg ByteArray.size e).trans rfl; omega) ?_
  conv => whnf
  refine ⟨u64r (by omega), ?_⟩
  conv => whnf
  refine ⟨⟨by omega, by decide⟩, ?_⟩
  rw [show (1 : Int) * 2 ^ (Int.toNat 31) = 2147483648 from by decide]
  conv => whnf
  refine ⟨u64r (by omega), ?_⟩
  conv => whnf
  refine ⟨u64r (by omega), ?_⟩
  conv => whnf
  refine loop_keep [0, 1, 8, 9, 10, 11, 12, 99, 100] ?_
  conv => whnf
  refine loop_go (fun x : Nat × Int => [(13, .v (.int .u64 x.2)), (101, .v (.int .i64 x.1))]) (fun _ => []) (fun _ => []) (fun x => x.1 ≤ s.size ∧ 0 ≤ x.2 ∧ x.2 ≤ 2147483647 ∧ valF x.2 (s.data.toList.drop x.1) = valF 0 s.data.toList) (fun x => s.size - x.1) (0, 0) ?_ ⟨Nat.zero_le _, by simp, by simp, by simp⟩ ?_
  · repeat' constructor
  · rintro ⟨j, v⟩ ⟨hj, hv0, hv1, hinv⟩
    simp only at hj hv0 hv1 hinv
    conv => whnf
    by_cases hlt : j < s.size
    · refine br_true (by simp; omega) ?_
      conv => whnf
      refine ⟨⟨by omega, by omega⟩, ?_⟩
      conv => whnf
      rw [show rowOf 1 (Int.toNat (j : Int)) (bytesA s) = _ from rowOf_bytes s j (by omega)]
      have hdj := hd _ (List.getElem_mem (l := s.data.toList) (n := j) (by omega))
      have hdr := drop_cons s.data.toList j (by omega)
      generalize hc : s.data.toList[j]'(by omega) = c at *
      have hr := isD_rng hdj
      conv => whnf
      rw [show decide ((c.toNat : Int) = 95) = false from decide_eq_false (by omega)]
      conv => whnf
      rw [show decide ((48 : Int) ≤ (c.toNat : Int)) = true from decide_eq_true (by omega)]
      conv => whnf
      rw [show decide ((c.toNat : Int) ≤ 57) = true from decide_eq_true (by omega)]
      conv => whnf
      refine ⟨u8r (by omega), ?_⟩
      conv => whnf
      refine ⟨u8r (by omega), ?_⟩
      conv => whnf
      rw [show decide ((10 : Int) ≤ (c.toNat : Int) - 48) = false from decide_eq_false (by omega)]
      conv => whnf
      refine br_false (b := decide ((1844674407370955162 : Int) ≤ v)) (decide_eq_false (by omega)) ?_
      conv => whnf
      refine ⟨u64r (by omega), ?_⟩
      conv => whnf
      refine ⟨u64r (by omega), ?_⟩
      conv => whnf
      refine ⟨u64r (by omega), ?_⟩
      conv => whnf
      refine ⟨u64r (by omega), ?_⟩
      conv => whnf
      rw [show decide (v * 10 + ((c.toNat : Int) - 48) < v * 10) = false from decide_eq_false (by omega)]
      conv => whnf
      have hst : valF v (s.data.toList.drop j) = if 2147483647 < 10 * v + (c.toNat : Int) - 48 then -1 else valF (10 * v + (c.toNat : Int) - 48) (s.data.toList.drop (j + 1)) := by rw [hdr]; rfl
      have hv2 : v * 10 + ((c.toNat : Int) - 48) = 10 * v + (c.toNat : Int) - 48 := by omega
      by_cases hbig : 2147483647 < 10 * v + (c.toNat : Int) - 48
      · rw [if_pos hbig] at hst
        have hf : valF 0 s.data.toList < 0 := by rw [← hinv, hst]; decide
        refine br_true (b := decide ((2147483647 : Int) < v * 10 + ((c.toNat : Int) - 48))) (decide_eq_true (by omega)) ?_
        conv => whnf
        unfold puR
        rw [if_pos hf]; rfl
      · rw [if_neg hbig] at hst
        refine br_false (b := decide ((2147483647 : Int) < v * 10 + ((c.toNat : Int) - 48))) (decide_eq_false (by omega)) ?_
        conv => whnf
        refine ⟨i64r (by omega), ?_⟩
        conv => whnf
        refine ⟨(j + 1, v * 10 + ((c.toNat : Int) - 48)), le_head ?_, ⟨by simp only; omega, by simp only; omega, by simp only; omega, by simp only; rw [hv2, ← hst, hinv]⟩, by simp only; omega⟩
        repeat' constructor
    · refine br_false (by simp; omega) ?_
      rw [List.drop_of_length_le (by omega)] at hinv
      have hf : valF 0 s.data.toList = v := by rw [← hinv]; rfl
      conv => whnf
      unfold puR
      rw [hf, if_neg (by omega)]
/-! ### The error of the public ParseUint: the kit's contract of toError, laid at this program (the numbers printed by lays.py) -/
def laysLaysPun17_ren : Go.Shelf.Ren := ⟨fun | 17 => 38 | 21 => 42 | 22 => 43 | 23 => 44 | 24 => 45 | 25 => 46 | 26 => 47 | 27 => 48 | 28 => 49 | 29 => 50 | 30 => 51 | 31 => 52 | 32 => 53 | 33 => 54 | 34 => 55 | 35 => 56 | 36 => 57 | 37 => 58 | 38 => 59 | 39 => 60 | 40 => 61 | n => n, fun | 22 => 67 | 24 => 69 | 34 => 76 | 36 => 78 | 37 => 25 | 39 => 79 | 44 => 84 | 47 => 86 | 48 => 87 | 50 => 89 | 52 => 91 | 55 => 94 | 59 => 98 | 60 => 99 | 61 => 100 | 65 => 104 | 66 => 105 | 67 => 106 | n => n, fun | n => n⟩
theorem laysLaysPun17 : LaysPu.n17 Tryd.prog laysLaysPun17_ren where
  mixed := by kernel_rfl
  f17 := Tryd.func38.trans (congrArg some (by kernel_rfl))
  f21 := Tryd.func42.trans (congrArg some (by kernel_rfl))
  f22 := Tryd.func43.trans (congrArg some (by kernel_rfl))
  f23 := Tryd.func44.trans (congrArg some (by kernel_rfl))
  f24 := Tryd.func45.trans (congrArg some (by kernel_rfl))
  f25 := Tryd.func46.trans (congrArg some (by kernel_rfl))
  f26 := Tryd.func47.trans (congrArg some (by kernel_rfl))
  f27 := Tryd.func48.trans (congrArg some (by kernel_rfl))
  f28 := Tryd.func49.trans (congrArg some (by kernel_rfl))
  f29 := Tryd.func50.trans (congrArg some (by kernel_rfl))
  f30 := Tryd.func51.trans (congrArg some (by kernel_rfl))
  f31 := Tryd.func52.trans (congrArg some (by kernel_rfl))
  f32 := Tryd.func53.trans (congrArg some (by kernel_rfl))
  f33 := Tryd.func54.trans (congrArg some (by kernel_rfl))
  f34 := Tryd.func55.trans (congrArg some (by kernel_rfl))
  f35 := Tryd.func56.trans (congrArg some (by kernel_rfl))
  f36 := Tryd.func57.trans (congrArg some (by kernel_rfl))
  f37 := Tryd.func58.trans (congrArg some (by kernel_rfl))
  f38 := Tryd.func59.trans (congrArg some (by kernel_rfl))
  f39 := Tryd.func60.trans (congrArg some (by kernel_rfl))
  f40 := Tryd.func61.trans (congrArg some (by kernel_rfl))
  t0 := Tryd.underlying0
  a0 := Tryd.isAgg0
  z0 := Tryd.sizeOf0
  v0 := Tryd.zeroValue0
  i0 := by kernel_rfl
  t2 := Tryd.underlying2
  a2 := Tryd.isAgg2
  z2 := Tryd.sizeOf2
  v2 := Tryd.zeroValue2
  i2 := by kernel_rfl
  t3 := Tryd.underlying3
  a3 := Tryd.isAgg3
  z3 := Tryd.sizeOf3
  v3 := Tryd.zeroValue3
  i3 := by kernel_rfl
  t4 := Tryd.underlying4
  a4 := Tryd.isAgg4
  z4 := Tryd.sizeOf4
  v4 := Tryd.zeroValue4
  i4 := by kernel_rfl
  t5 := Tryd.underlying5
  a5 := Tryd.isAgg5
  z5 := Tryd.sizeOf5
  v5 := Tryd.zeroValue5
  i5 := by kernel_rfl
  t9 := Tryd.underlying9
  a9 := Tryd.isAgg9
  z9 := Tryd.sizeOf9
  v9 := Tryd.zeroValue9
  i9 := by kernel_rfl
  t20 := Tryd.underlying20
  a20 := Tryd.isAgg20
  z20 := Tryd.sizeOf20
  v20 := Tryd.zeroValue20
  i20 := by kernel_rfl
  t22 := Tryd.underlying67
  a22 := Tryd.isAgg67
  z22 := Tryd.sizeOf67
  v22 := Tryd.zeroValue67
  i22 := by kernel_rfl
  t24 := Tryd.underlying69
  a24 := Tryd.isAgg69
  z24 := Tryd.sizeOf69
  v24 := Tryd.zeroValue69
  i24 := by kernel_rfl
  t34 := Tryd.underlying76
  a34 := Tryd.isAgg76
  z34 := Tryd.sizeOf76
  v34 := Tryd.zeroValue76
  i34 := by kernel_rfl
  c34 := by kernel_rfl
  t36 := Tryd.underlying78
  a36 := Tryd.isAgg78
  z36 := Tryd.sizeOf78
  v36 := Tryd.zeroValue78
  i36 := by kernel_rfl
  t37 := Tryd.underlying25
  a37 := Tryd.isAgg25
  z37 := Tryd.sizeOf25
  v37 := Tryd.zeroValue25
  i37 := by kernel_rfl
  t39 := Tryd.underlying79
  a39 := Tryd.isAgg79
  z39 := Tryd.sizeOf79
  v39 := Tryd.zeroValue79
  i39 := by kernel_rfl
  t44 := Tryd.underlying84
  a44 := Tryd.isAgg84
  z44 := Tryd.sizeOf84
  v44 := Tryd.zeroValue84
  i44 := by kernel_rfl
  t47 := Tryd.underlying86
  a47 := Tryd.isAgg86
  z47 := Tryd.sizeOf86
  v47 := Tryd.zeroValue86
  i47 := by kernel_rfl
  t48 := Tryd.underlying87
  a48 := Tryd.isAgg87
  z48 := Tryd.sizeOf87
  v48 := Tryd.zeroValue87
  i48 := by kernel_rfl
  t50 := Tryd.underlying89
  a50 := Tryd.isAgg89
  z50 := Tryd.sizeOf89
  v50 := Tryd.zeroValue89
  i50 := by kernel_rfl
  t52 := Tryd.underlying91
  a52 := Tryd.isAgg91
  z52 := Tryd.sizeOf91
  v52 := Tryd.zeroValue91
  i52 := by kernel_rfl
  t55 := Tryd.underlying94
  a55 := Tryd.isAgg94
  z55 := Tryd.sizeOf94
  v55 := Tryd.zeroValue94
  i55 := by kernel_rfl
  t59 := Tryd.underlying98
  a59 := Tryd.isAgg98
  z59 := Tryd.sizeOf98
  v59 := Tryd.zeroValue98
  i59 := by kernel_rfl
  t60 := Tryd.underlying99
  a60 := Tryd.isAgg99
  z60 := Tryd.sizeOf99
  v60 := Tryd.zeroValue99
  i60 := by kernel_rfl
  t61 := Tryd.underlying100
  a61 := Tryd.isAgg100
  z61 := Tryd.sizeOf100
  t65 := Tryd.underlying104
  a65 := Tryd.isAgg104
  z65 := Tryd.sizeOf104
  v65 := Tryd.zeroValue104
  i65 := by kernel_rfl
  t66 := Tryd.underlying105
  a66 := Tryd.isAgg105
  z66 := Tryd.sizeOf105
  v66 := Tryd.zeroValue105
  i66 := by kernel_rfl
  t67 := Tryd.underlying106
  a67 := Tryd.isAgg106
  z67 := Tryd.sizeOf106
  v67 := Tryd.zeroValue106
  i67 := by kernel_rfl
  g0 := by kernel_rfl
  m0 := by kernel_rfl
  g1 := by kernel_rfl
  m1 := by kernel_rfl
  g2 := by kernel_rfl
  m2 := by kernel_rfl
  g3 := by kernel_rfl
  m3 := by kernel_rfl
  g4 := by kernel_rfl
  m4 := by kernel_rfl

theorem repL_vs {E : Env} : ∀ {l us : List Value}, A.repL (l.map .v) E us → us = l
  | [], us, h => by unfold A.repL at h; exact h
  | x :: r, us, h => by
    simp only [List.map_cons] at h
    unfold A.repL at h
    obtain ⟨u, us', rfl, h1, h2⟩ := h
    rw [(A.rep_v_iff.1 h1).1, repL_vs h2]
theorem toError_spec (fn s : ByteArray) (hs : s.size ≤ 1000000000) : Spec Tryd.prog 38 [] [.v (.string fn), .v (.string s), .v (.int .i64 10), .v (.int .i64 31), .v (.iface 76 (.int .i64 1))] fun _ r => r = .err := by
  refine spec_ext (call_of Tryd.func38 rfl (by kernel_rfl)) fun w C vals h0 h1 h2 => ?_
  obtain rfl := repL_vs (l := [.string fn, .string s, .int .i64 10, .int .i64 31, .iface 76 (.int .i64 1)]) h2
  have hg := h0.at (g := 1) (cs := [.err]) rfl
  simp only [A.repAt, A.rep] at hg
  obtain ⟨⟨u, k1, k2, t, v, rfl⟩, -⟩ := hg
  refine (AnyPu.strconv_toError_range laysLaysPun17 fn s 10 31 _ w (by omega) (h1 _ _ k1) (.inr ⟨t, v, rfl⟩)).mono ?_
  rintro e w' ⟨n, rfl, k3, k4, k5⟩
  exact ⟨_, rfl, k5, by unfold A.rep; exact ⟨_, _, rfl⟩⟩
theorem pu_spec (s : ByteArray) (hs : s.size ≤ 1000000000) (hs1 : 1 ≤ s.size) (hd : ∀ c ∈ s.data.toList, isD c = true) :
    Spec Tryd.prog 33 [] [.v (.string s), .v (.int .i64 10), .v (.int .i64 31)] fun _ r => r = if valF 0 s.data.toList < 0 then .tup [.v (.int .u64 2147483647), .err] else .tup [.v (.int .u64 (valF 0 s.data.toList)), .v .nilIface] := by
  have hpu := puint_spec s hs hs1 hd
  unfold puR at hpu
  refine spec_of (cx_ok ord0 xs0 0) Tryd.func33 rfl (by kernel_rfl) rfl (by kernel_rfl) ?_
  intro _
  conv => whnf
  refine call0 [] rfl (fun _ => hpu) ?_
  rintro r rfl
  generalize valF 0 s.data.toList = v at *
  by_cases hv : v < 0
  · rw [if_pos hv, if_pos hv]
    conv => whnf
    refine call0 [] rfl (fun _ => toError_spec _ s hs) ?_
    rintro r rfl
    conv => whnf
  · rw [if_neg hv, if_neg hv]
    conv => whnf
end Go.Proofs.YthaccjcadgodlaaDoor.Vm
