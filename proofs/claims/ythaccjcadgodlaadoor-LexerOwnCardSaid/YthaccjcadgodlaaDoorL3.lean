/- The classes of bytes. -/
import Derived.Test.YthaccjcadgodlaaDoorL2
namespace Go.Proofs.YthaccjcadgodlaaDoor.Vm
open Go.RowKit
set_option linter.unusedSimpArgs false
set_option linter.unusedVariables false
set_option maxRecDepth 100000
def u8A (n : Int) : A := .v (.int .u8 n)
@[irreducible] def clsL (f : Nat → Int) : List A := (List.range 256).map fun j => u8A (f j)
theorem clsL_len (f : Nat → Int) : (clsL f).length = 256 := by unfold clsL; simp
theorem clsL_get (f : Nat → Int) (j : Nat) (h : j < 256) : (clsL f)[j]? = some (u8A (f j)) := by unfold clsL; simp [h]
theorem clsL_plain (f : Nat → Int) : ∀ a ∈ clsL f, ∃ x, a = .v x := fun a ha => by
  unfold clsL at ha
  obtain ⟨j, _, rfl⟩ := List.mem_map.1 ha
  exact ⟨_, rfl⟩
theorem clsL_set (f : Nat → Int) (i : Nat) (d : Int) : (clsL f).set i (u8A d) = clsL fun j => if j = i then d else f j := by
  apply List.ext_getElem?
  intro j
  rw [List.getElem?_set]
  by_cases hj : j < 256
  · rw [clsL_get _ j hj, clsL_get _ j hj, clsL_len]
    by_cases hij : i = j
    · subst hij
      rw [if_pos rfl, if_pos hj, if_pos rfl]
    · rw [if_neg hij, if_neg (fun e => hij e.symm)]
  · have h1 : ∀ f, (clsL f)[j]? = none := fun f => List.getElem?_eq_none (by rw [clsL_len]; omega)
    rw [h1, h1, clsL_len]
    split
    · rename_i h
      subst h
      rw [if_neg hj]
    · rfl
theorem clsL_congr {f g : Nat → Int} (h : ∀ j, j < 256 → f j = g j) : clsL f = clsL g := by
  unfold clsL
  exact List.map_congr_left fun j hj => by rw [h j (List.mem_range.1 hj)]
def f1 (k : Nat) (j : Nat) : Int := if 97 ≤ j ∧ j < k then 2 else 0
def f2 (k : Nat) (j : Nat) : Int := if 48 ≤ j ∧ j < k then 3 else f1 123 j
def l3 : List Int := [32, 9, 10]
def l5 : List Int := [123, 125, 91, 93, 40, 41, 61, 59, 44, 60, 62, 43, 45, 42, 47, 33]
def f3 (k : Nat) (j : Nat) : Int := if (j : Int) ∈ l3.take k then 1 else f2 58 j
def f5 (k : Nat) (j : Nat) : Int := if (j : Int) ∈ l5.take k then 5 else f3 3 j
def classOf (j : Nat) : Int := if j = 35 then 4 else f5 16 j
theorem take_mem (l : List Int) (k : Nat) (hk : k < l.length) (x : Int) : x ∈ l.take (k + 1) ↔ x ∈ l.take k ∨ x = l[k] := by
  rw [List.take_succ_eq_append_getElem hk, List.mem_append, List.mem_singleton]
theorem rowOf_u8 (l : List Int) (i : Nat) (hi : i < l.length) : rowOf 1 i (l.map u8A) = [.v (.int .u8 l[i])] := rowOf_map _ l i hi
theorem f1_set (k : Nat) (h1 : 97 ≤ k) (h2 : k < 256) : (clsL (f1 k)).set k (u8A 2) = clsL (f1 (k + 1)) := by
  rw [clsL_set]
  refine clsL_congr fun j hj => ?_
  unfold f1
  by_cases h : j = k
  · subst h; rw [if_pos rfl, if_pos (by omega)]
  · rw [if_neg h]
    by_cases h3 : 97 ≤ j ∧ j < k
    · rw [if_pos h3, if_pos (by omega)]
    · rw [if_neg h3, if_neg (by omega)]
theorem f2_set (k : Nat) (h1 : 48 ≤ k) (h2 : k < 256) : (clsL (f2 k)).set k (u8A 3) = clsL (f2 (k + 1)) := by
  rw [clsL_set]
  refine clsL_congr fun j hj => ?_
  unfold f2
  by_cases h : j = k
  · subst h; rw [if_pos rfl, if_pos (by omega)]
  · rw [if_neg h]
    by_cases h3 : 48 ≤ j ∧ j < k
    · rw [if_pos h3, if_pos (by omega)]
    · rw [if_neg h3, if_neg (by omega)]
theorem f3_set (k : Nat) (hk : k < l3.length) (i : Nat) (hi : (i : Int) = l3[k]) : (clsL (f3 k)).set i (u8A 1) = clsL (f3 (k + 1)) := by
  rw [clsL_set]
  refine clsL_congr fun j hj => ?_
  unfold f3
  by_cases h : j = i
  · subst h; rw [if_pos rfl, if_pos ((take_mem l3 k hk _).2 (.inr hi))]
  · rw [if_neg h]
    by_cases h3 : (j : Int) ∈ l3.take k
    · rw [if_pos h3, if_pos ((take_mem l3 k hk _).2 (.inl h3))]
    · rw [if_neg h3, if_neg fun e => by rcases (take_mem l3 k hk _).1 e with e | e
                                        · exact h3 e
                                        · omega]
theorem f5_set (k : Nat) (hk : k < l5.length) (i : Nat) (hi : (i : Int) = l5[k]) : (clsL (f5 k)).set i (u8A 5) = clsL (f5 (k + 1)) := by
  rw [clsL_set]
  refine clsL_congr fun j hj => ?_
  unfold f5
  by_cases h : j = i
  · subst h; rw [if_pos rfl, if_pos ((take_mem l5 k hk _).2 (.inr hi))]
  · rw [if_neg h]
    by_cases h3 : (j : Int) ∈ l5.take k
    · rw [if_pos h3, if_pos ((take_mem l5 k hk _).2 (.inl h3))]
    · rw [if_neg h3, if_neg fun e => by rcases (take_mem l5 k hk _).1 e with e | e
                                        · exact h3 e
                                        · omega]
theorem l3_rng (k : Nat) (hk : k < l3.length) : 0 ≤ l3[k] ∧ l3[k] < 256 := by
  have : ∀ x ∈ l3, 0 ≤ x ∧ x < 256 := by decide
  exact this _ (List.getElem_mem hk)
theorem l5_rng (k : Nat) (hk : k < l5.length) : 0 ≤ l5[k] ∧ l5[k] < 256 := by
  have : ∀ x ∈ l5, 0 ≤ x ∧ x < 256 := by decide
  exact this _ (List.getElem_mem hk)
theorem u8r {n : Int} (h : 0 ≤ n ∧ n ≤ 255) : lo .u8 ≤ n ∧ n ≤ hi .u8 := h
theorem zerosL : (List.range 256).map (fun _ => u8A 0) = clsL (f1 97) := by
  unfold clsL
  exact List.map_congr_left fun j hj => by unfold f1; rw [if_neg (by omega)]
theorem zerosL0 : (List.range 256).map (fun _ => u8A 0) = clsL (fun _ => 0) := by unfold clsL; rfl
set_option maxHeartbeats 4000000 in
theorem classes_spec : Spec Tryd.prog 25 [] [] fun _ r => r = .agg (clsL classOf) := by
  refine spec_of (cx_ok ord0 xs0 0) Tryd.func25 rfl (by kernel_rfl) rfl (by kernel_rfl) ?_
  intro _
  conv => whnf
  refine loop_keep [0, 1] ?_
  conv => whnf
  refine loop_goQ (fun k : Nat => [(2, .v (.int .u8 k))]) (fun k => [clsL fun _ => 0, clsL (f1 k)]) (fun _ => []) (fun k => 97 ≤ k ∧ k ≤ 123) (fun k => 123 - k) 97 ?_ ⟨by omega, by omega⟩ ?_
  · unfold headQ
    repeat' constructor
    · show _ = [clsL _, clsL _]
      rw [← zerosL, ← zerosL0]; rfl
  · rintro k ⟨hk, hk2⟩
    conv => whnf
    by_cases hlt : k ≤ 122
    · refine br_true (by simp; omega) ?_
      conv => whnf
      refine ⟨⟨by omega, by omega⟩, ?_⟩
      conv => whnf
      refine writeK_one (by rw [clsL_len]; simp; omega) ?_
      conv => whnf
      refine ⟨u8r (by omega), ?_⟩
      conv => whnf
      refine ⟨k + 1, le_headQ ?_, ⟨by omega, by omega⟩, by omega⟩
      unfold headQ
      repeat' constructor
      · exact congrArg (fun x => [clsL fun _ => 0, x]) (by
          show (clsL (f1 k)).set (0 + k * 1) (u8A 2) = _
          rw [Nat.mul_one, Nat.zero_add]; exact f1_set k (by omega) (by omega))
    · refine br_false (by simp; omega) ?_
      obtain rfl : k = 123 := by omega
      conv => whnf
      refine loop_keep [0, 1] ?_
      conv => whnf
      refine loop_goQ (fun k : Nat => [(3, .v (.int .u8 k))]) (fun k => [clsL fun _ => 0, clsL (f2 k)]) (fun _ => []) (fun k => 48 ≤ k ∧ k ≤ 58) (fun k => 58 - k) 48 ?_ ⟨by omega, by omega⟩ ?_
      · unfold headQ
        repeat' constructor
        · exact congrArg (fun x => [clsL fun _ => 0, x]) (clsL_congr fun j hj => by unfold f2; rw [if_neg (by omega)])
      · rintro k ⟨hk, hk2⟩
        conv => whnf
        by_cases hlt : k ≤ 57
        · refine br_true (by simp; omega) ?_
          conv => whnf
          refine ⟨⟨by omega, by omega⟩, ?_⟩
          conv => whnf
          refine writeK_one (by rw [clsL_len]; simp; omega) ?_
          conv => whnf
          refine ⟨u8r (by omega), ?_⟩
          conv => whnf
          refine ⟨k + 1, le_headQ ?_, ⟨by omega, by omega⟩, by omega⟩
          unfold headQ
          repeat' constructor
          · exact congrArg (fun x => [clsL fun _ => 0, x]) (by
              show (clsL (f2 k)).set (0 + k * 1) (u8A 3) = _
              rw [Nat.mul_one, Nat.zero_add]; exact f2_set k (by omega) (by omega))
        · refine br_false (by simp; omega) ?_
          obtain rfl : k = 58 := by omega
          conv => whnf
          refine loop_keep [0, 1, 22] ?_
          conv => whnf
          refine loop_goQ (fun k : Nat => [(21, .sl 1 3 (l3.map u8A)), (23, .v (.int .i64 k))]) (fun k => [clsL fun _ => 0, clsL (f3 k)]) (fun _ => [.pub 1 3 (l3.map u8A)]) (fun k => k ≤ 3) (fun k => 3 - k) 0 ?_ (by omega) ?_
          · unfold headQ
            repeat' constructor
          · rintro k hk
            conv => whnf
            by_cases hlt : k < 3
            · have hr3 := l3_rng k hlt
              refine br_true (by simp; omega) ?_
              conv => whnf
              refine ⟨⟨by omega, by omega⟩, ?_⟩
              conv => whnf
              rw [show rowOf 1 (Int.toNat (k : Int)) (List.map u8A l3) = [.v (.int .u8 l3[k])] from rowOf_u8 l3 k hlt]
              obtain ⟨m, hm⟩ : ∃ m : Nat, (m : Int) = l3[k]'hlt := ⟨(l3[k]'hlt).toNat, by omega⟩
              rw [← hm] at hr3 ⊢
              conv => whnf
              refine ⟨⟨by omega, by omega⟩, ?_⟩
              conv => whnf
              refine writeK_one (by rw [clsL_len]; simp; omega) ?_
              conv => whnf
              refine ⟨i64r (by omega), ?_⟩
              conv => whnf
              refine ⟨k + 1, le_headQ ?_, by omega, by omega⟩
              unfold headQ
              repeat' constructor
              · exact congrArg (fun x => [clsL fun _ => 0, x]) (by
                  show (clsL (f3 k)).set (0 + m * 1) (u8A 1) = _
                  rw [Nat.mul_one, Nat.zero_add]; exact f3_set k hlt m hm)
            · refine br_false (by simp; omega) ?_
              obtain rfl : k = 3 := by omega
              conv => whnf
              refine loop_keep [0, 1, 32] ?_
              conv => whnf
              refine loop_goQ (fun k : Nat => [(31, .sl 1 16 (l5.map u8A)), (33, .v (.int .i64 k))]) (fun k => [clsL fun _ => 0, clsL (f5 k)]) (fun _ => [.pub 1 3 (l3.map u8A), .pub 1 16 (l5.map u8A)]) (fun k => k ≤ 16) (fun k => 16 - k) 0 ?_ (by omega) ?_
              · unfold headQ
                repeat' constructor
              · rintro k hk
                conv => whnf
                by_cases hlt : k < 16
                · have hr5 := l5_rng k hlt
                  refine br_true (by simp; omega) ?_
                  conv => whnf
                  refine ⟨⟨by omega, by omega⟩, ?_⟩
                  conv => whnf
                  rw [show rowOf 1 (Int.toNat (k : Int)) (List.map u8A l5) = [.v (.int .u8 l5[k])] from rowOf_u8 l5 k hlt]
                  obtain ⟨m, hm⟩ : ∃ m : Nat, (m : Int) = l5[k]'hlt := ⟨(l5[k]'hlt).toNat, by omega⟩
                  rw [← hm] at hr5 ⊢
                  conv => whnf
                  refine ⟨⟨by omega, by omega⟩, ?_⟩
                  conv => whnf
                  refine writeK_one (by rw [clsL_len]; simp; omega) ?_
                  conv => whnf
                  refine ⟨i64r (by omega), ?_⟩
                  conv => whnf
                  refine ⟨k + 1, le_headQ ?_, by omega, by omega⟩
                  unfold headQ
                  repeat' constructor
                  · exact congrArg (fun x => [clsL fun _ => 0, x]) (by
                      show (clsL (f5 k)).set (0 + m * 1) (u8A 5) = _
                      rw [Nat.mul_one, Nat.zero_add]; exact f5_set k hlt m hm)
                · refine br_false (by simp; omega) ?_
                  obtain rfl : k = 16 := by omega
                  have hlen0 := clsL_len fun _ => 0
                  have hlen5 := clsL_len (f5 16)
                  have hfin : (clsL (f5 16)).set 35 (u8A 4) = clsL classOf := by rw [clsL_set]; rfl
                  have hpl := clsL_plain classOf
                  generalize clsL (fun _ => 0) = L0 at *
                  generalize clsL (f5 16) = L5 at *
                  generalize clsL classOf = Lc at *
                  conv => whnf
                  refine ⟨⟨by omega, by omega⟩, ?_⟩
                  conv => whnf
                  refine writeK_one (by rw [hlen5]; simp) ?_
                  generalize hLs : L5.set (0 + Int.toNat 35 * _) _ = Ls
                  obtain rfl : Ls = Lc := hLs.symm.trans hfin
                  have hlen : Ls.length = 256 := by rw [← hfin, List.length_set, hlen5]
                  conv => whnf
                  refine takeK_mk (cs := Ls) (n := 256) (Nat.le_of_eq hlen.symm) ?_
                  rw [List.take_of_length_le (Nat.le_of_eq hlen)]
                  conv => whnf
                  rw [hlen]
                  conv => whnf
                  refine writeK_all (ds := Ls) (cs := L0) [] (by rw [hlen, hlen0]) ?_
                  rw [List.nil_append]
                  conv => whnf
                  refine takeK_mk (cs := Ls) (n := 256) (Nat.le_of_eq hlen.symm) ?_
                  rw [List.take_of_length_le (Nat.le_of_eq hlen)]
                  conv => whnf
                  rw [ren_plain hpl]
end Go.Proofs.YthaccjcadgodlaaDoor.Vm
