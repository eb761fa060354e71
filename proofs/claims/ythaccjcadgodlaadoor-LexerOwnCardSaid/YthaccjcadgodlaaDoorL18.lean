/- The law LexerOwn: its walk. -/
import Derived.Test.YthaccjcadgodlaaDoorL10
import Derived.Test.YthaccjcadgodlaaDoorVmG
namespace Go.Proofs.YthaccjcadgodlaaDoor.Vm
open Go.RowKit
set_option linter.unusedSimpArgs false
set_option linter.unusedVariables false
set_option maxRecDepth 100000
theorem tksL_len (l : List Tk) : (tksL l).length = l.length * 4 := by
  induction l with
  | nil => rfl
  | cons t l ih => rw [show tksL (t :: l) = tkL t ++ tksL l from rfl, List.length_append, ih, List.length_cons]; simp only [tkL, List.length_cons, List.length_nil]; omega
theorem setK_go {α : Type} : ∀ {l : List α} {i : Nat} {a : α} {K : List α → Prop}, i < l.length → K (l.set i a) → setK l i a K
  | x :: l, 0, a, K, _, h => h
  | x :: l, i + 1, a, K, hi, h => by
    unfold setK
    exact setK_go (l := l) (by simpa using hi) h
  | [], i, a, K, hi, _ => by simp at hi
theorem drop_tks : ∀ {T : List Tk} {k n : Nat} (h : k < T.length), n = k * 4 → (tksL T).drop n = tkL T[k] ++ (tksL T).drop (n + 4)
  | t :: T, 0, n, _, hn => by subst hn; rfl
  | t :: T, k + 1, n, h, hn => by
    obtain ⟨m, rfl⟩ : ∃ m, n = m + 4 := ⟨k * 4, by omega⟩
    exact drop_tks (T := T) (k := k) (n := m) (by simpa using h) (by omega)
theorem kind_3 {s : ByteArray} {T : List Tk} (hT : ∀ t ∈ T, tkOk t ∨ t.kind = 0 ∧ t.pos ≤ 1000000000 ∧ t.text.size = 0 ∧ t.n = 0) {k : Nat} (h : k < T.length) : T[k].kind ≤ 3 := by
  rcases hT T[k] (List.getElem_mem h) with h1 | h1
  · have := h1.1
    omega
  · have := h1.1
    omega
set_option maxHeartbeats 4000000 in
theorem own_law_spec (l : List Int) : Spec Tryd.prog 9 [] [.sl 1 l.length (intsA l)] fun _ r => r = boolA true := by
  refine spec_of (cx_ok ord0 xs0 0) Tryd.func9 rfl (by kernel_rfl) rfl (by kernel_rfl) ?_
  intro hok
  conv => whnf
  refine call0 [] rfl (fun _ => text_spec l) ?_
  rintro r ⟨s, hs, rfl⟩
  conv => whnf
  have hT := rowT_ok s (by omega)
  have hS := tokens_specF s (by omega)
  have hTl : (rowT s).length ≤ s.size + 1 := by
    cases he : (lexF' s).err with
    | some p => rw [rowT_some he]; simp
    | none => rw [rowT_none he]; exact toks_len s
  generalize rowT s = T at *
  generalize rowP s = P at *
  obtain ⟨p, q⟩ := P
  refine callF 0 [] rfl rfl (fun _ => hS) ?_
  rintro e k n cs r ⟨rfl, rfl, rfl, rfl, rfl⟩
  conv => whnf
  refine loop_keep [3, 4, 6] ?_
  conv => whnf
  refine loop_go (fun x : Nat × List A => [(7, .v (.int .i64 x.1))]) (fun _ => []) (fun x => [.live 36 4 T.length x.2]) (fun x => x.1 ≤ T.length ∧ x.2.length = T.length * 4) (fun x => T.length - x.1) (0, tksL T) ?_ ⟨Nat.zero_le _, tksL_len T⟩ ?_
  · repeat' constructor
  · rintro ⟨i, cs⟩ ⟨hi, hcs⟩
    simp only at hi hcs
    conv => whnf
    by_cases hlt : i < T.length
    · repeat (first | ((with_reducible refine And.intro ?_ ?_); (focus (first | omega | (with_reducible refine i64r ?_; (first | omega | (simp only [List.length_append, List.length_cons, List.length_nil, List.length_map, ByteArray.size_append]; omega))) | (with_reducible refine max_le ?_; (first | omega | (simp only [List.length_append, List.length_cons, List.length_nil, List.length_map, ByteArray.size_append]; omega))) | ((fail_if_success (with_reducible refine max_le ?_)); decide) | (simp only [List.length_append, List.length_cons, List.length_nil, List.length_map, ByteArray.size_append]; omega) | (dsimp only; omega) | ((with_reducible refine i64r ?_); dsimp only; omega))); (conv => whnf)) | ((first | with_reducible refine isIf1 ?_ | with_reducible refine isIf2 ?_ | with_reducible refine isIf3 ?_ | with_reducible refine isIf4 ?_ | with_reducible refine isIf5 ?_ | with_reducible refine isIf6 ?_ | with_reducible refine isIf7 ?_ | with_reducible refine isIf8 ?_ | with_reducible refine ifK_id ?_); first | ((focus (rw [decide_eq_true]; rotate_left; focus (first | (first | omega | (simp only [List.length_append, List.length_cons, List.length_nil, List.length_map, ByteArray.size_append]; omega)) | ((with_reducible refine isEq ?_); rfl)))); (first | with_reducible refine br_true rfl ?_ | with_reducible refine br_false rfl ?_ | skip); (conv => whnf)) | ((focus (rw [decide_eq_false]; rotate_left; focus (first | (first | omega | (simp only [List.length_append, List.length_cons, List.length_nil, List.length_map, ByteArray.size_append]; omega)) | (intro h; cases h)))); (first | with_reducible refine br_true rfl ?_ | with_reducible refine br_false rfl ?_ | skip); (conv => whnf))))
      refine setK_go (by simp only; omega) ?_
      conv => whnf
      refine setK_go (by simp only [List.length_set]; omega) ?_
      conv => whnf
      refine setK_go (by simp only [List.length_set]; omega) ?_
      conv => whnf
      refine setK_go (by simp only [List.length_set]; omega) ?_
      conv => whnf
      repeat (first | ((with_reducible refine And.intro ?_ ?_); (focus (first | omega | (with_reducible refine i64r ?_; (first | omega | (simp only [List.length_append, List.length_cons, List.length_nil, List.length_map, ByteArray.size_append]; omega))) | (with_reducible refine max_le ?_; (first | omega | (simp only [List.length_append, List.length_cons, List.length_nil, List.length_map, ByteArray.size_append]; omega))) | ((fail_if_success (with_reducible refine max_le ?_)); decide) | (simp only [List.length_append, List.length_cons, List.length_nil, List.length_map, ByteArray.size_append]; omega) | (dsimp only; omega) | ((with_reducible refine i64r ?_); dsimp only; omega))); (conv => whnf)) | ((first | with_reducible refine isIf1 ?_ | with_reducible refine isIf2 ?_ | with_reducible refine isIf3 ?_ | with_reducible refine isIf4 ?_ | with_reducible refine isIf5 ?_ | with_reducible refine isIf6 ?_ | with_reducible refine isIf7 ?_ | with_reducible refine isIf8 ?_ | with_reducible refine ifK_id ?_); first | ((focus (rw [decide_eq_true]; rotate_left; focus (first | (first | omega | (simp only [List.length_append, List.length_cons, List.length_nil, List.length_map, ByteArray.size_append]; omega)) | ((with_reducible refine isEq ?_); rfl)))); (first | with_reducible refine br_true rfl ?_ | with_reducible refine br_false rfl ?_ | skip); (conv => whnf)) | ((focus (rw [decide_eq_false]; rotate_left; focus (first | (first | omega | (simp only [List.length_append, List.length_cons, List.length_nil, List.length_map, ByteArray.size_append]; omega)) | (intro h; cases h)))); (first | with_reducible refine br_true rfl ?_ | with_reducible refine br_false rfl ?_ | skip); (conv => whnf))))
      refine ⟨(i + 1, ((((cs.set ((i : Int).toNat * 4) (A.v (.int .i64 9))).set ((i : Int).toNat * 4 + 1) (A.v (.int .i64 9))).set ((i : Int).toNat * 4 + 1 + 1) (A.v (.string ⟨#[122]⟩))).set ((i : Int).toNat * 4 + 1 + 1 + 1) (A.v (.int .i64 9)))), le_head ?_, ⟨by simp only; omega, by simp only [List.length_set]; exact hcs⟩, by simp only; omega⟩
      repeat' constructor
    · obtain rfl : i = T.length := by omega
      repeat (first | ((with_reducible refine And.intro ?_ ?_); (focus (first | omega | (with_reducible refine i64r ?_; (first | omega | (simp only [List.length_append, List.length_cons, List.length_nil, List.length_map, ByteArray.size_append]; omega))) | (with_reducible refine max_le ?_; (first | omega | (simp only [List.length_append, List.length_cons, List.length_nil, List.length_map, ByteArray.size_append]; omega))) | ((fail_if_success (with_reducible refine max_le ?_)); decide) | (simp only [List.length_append, List.length_cons, List.length_nil, List.length_map, ByteArray.size_append]; omega) | (dsimp only; omega) | ((with_reducible refine i64r ?_); dsimp only; omega))); (conv => whnf)) | ((first | with_reducible refine isIf1 ?_ | with_reducible refine isIf2 ?_ | with_reducible refine isIf3 ?_ | with_reducible refine isIf4 ?_ | with_reducible refine isIf5 ?_ | with_reducible refine isIf6 ?_ | with_reducible refine isIf7 ?_ | with_reducible refine isIf8 ?_ | with_reducible refine ifK_id ?_); first | ((focus (rw [decide_eq_true]; rotate_left; focus (first | (first | omega | (simp only [List.length_append, List.length_cons, List.length_nil, List.length_map, ByteArray.size_append]; omega)) | ((with_reducible refine isEq ?_); rfl)))); (first | with_reducible refine br_true rfl ?_ | with_reducible refine br_false rfl ?_ | skip); (conv => whnf)) | ((focus (rw [decide_eq_false]; rotate_left; focus (first | (first | omega | (simp only [List.length_append, List.length_cons, List.length_nil, List.length_map, ByteArray.size_append]; omega)) | (intro h; cases h)))); (first | with_reducible refine br_true rfl ?_ | with_reducible refine br_false rfl ?_ | skip); (conv => whnf))))
      refine callF 1 [] rfl rfl (fun _ => hS) ?_
      rintro e k n cs2 r ⟨rfl, rfl, rfl, rfl, rfl⟩
      conv => whnf
      repeat (first | ((with_reducible refine And.intro ?_ ?_); (focus (first | omega | (with_reducible refine i64r ?_; (first | omega | (simp only [List.length_append, List.length_cons, List.length_nil, List.length_map, ByteArray.size_append]; omega))) | (with_reducible refine max_le ?_; (first | omega | (simp only [List.length_append, List.length_cons, List.length_nil, List.length_map, ByteArray.size_append]; omega))) | ((fail_if_success (with_reducible refine max_le ?_)); decide) | (simp only [List.length_append, List.length_cons, List.length_nil, List.length_map, ByteArray.size_append]; omega) | (dsimp only; omega) | ((with_reducible refine i64r ?_); dsimp only; omega))); (conv => whnf)) | ((first | with_reducible refine isIf1 ?_ | with_reducible refine isIf2 ?_ | with_reducible refine isIf3 ?_ | with_reducible refine isIf4 ?_ | with_reducible refine isIf5 ?_ | with_reducible refine isIf6 ?_ | with_reducible refine isIf7 ?_ | with_reducible refine isIf8 ?_ | with_reducible refine ifK_id ?_); first | ((focus (rw [decide_eq_true]; rotate_left; focus (first | (first | omega | (simp only [List.length_append, List.length_cons, List.length_nil, List.length_map, ByteArray.size_append]; omega)) | ((with_reducible refine isEq ?_); rfl)))); (first | with_reducible refine br_true rfl ?_ | with_reducible refine br_false rfl ?_ | skip); (conv => whnf)) | ((focus (rw [decide_eq_false]; rotate_left; focus (first | (first | omega | (simp only [List.length_append, List.length_cons, List.length_nil, List.length_map, ByteArray.size_append]; omega)) | (intro h; cases h)))); (first | with_reducible refine br_true rfl ?_ | with_reducible refine br_false rfl ?_ | skip); (conv => whnf))))
      refine loop_keep [3, 4, 8] ?_
      conv => whnf
      refine loop_go (fun k : Nat => [(11, .v (.int .i64 k))]) (fun _ => []) (fun _ => [.live 36 4 T.length cs, .live 36 4 T.length (tksL T)]) (fun k => k ≤ T.length) (fun k => T.length - k) 0 ?_ (Nat.zero_le _) ?_
      · repeat' constructor
      · rintro k hk
        conv => whnf
        by_cases hlt : k < T.length
        · repeat (first | ((with_reducible refine And.intro ?_ ?_); (focus (first | omega | (with_reducible refine i64r ?_; (first | omega | (simp only [List.length_append, List.length_cons, List.length_nil, List.length_map, ByteArray.size_append]; omega))) | (with_reducible refine max_le ?_; (first | omega | (simp only [List.length_append, List.length_cons, List.length_nil, List.length_map, ByteArray.size_append]; omega))) | ((fail_if_success (with_reducible refine max_le ?_)); decide) | (simp only [List.length_append, List.length_cons, List.length_nil, List.length_map, ByteArray.size_append]; omega) | (dsimp only; omega) | ((with_reducible refine i64r ?_); dsimp only; omega))); (conv => whnf)) | ((first | with_reducible refine isIf1 ?_ | with_reducible refine isIf2 ?_ | with_reducible refine isIf3 ?_ | with_reducible refine isIf4 ?_ | with_reducible refine isIf5 ?_ | with_reducible refine isIf6 ?_ | with_reducible refine isIf7 ?_ | with_reducible refine isIf8 ?_ | with_reducible refine ifK_id ?_); first | ((focus (rw [decide_eq_true]; rotate_left; focus (first | (first | omega | (simp only [List.length_append, List.length_cons, List.length_nil, List.length_map, ByteArray.size_append]; omega)) | ((with_reducible refine isEq ?_); rfl)))); (first | with_reducible refine br_true rfl ?_ | with_reducible refine br_false rfl ?_ | skip); (conv => whnf)) | ((focus (rw [decide_eq_false]; rotate_left; focus (first | (first | omega | (simp only [List.length_append, List.length_cons, List.length_nil, List.length_map, ByteArray.size_append]; omega)) | (intro h; cases h)))); (first | with_reducible refine br_true rfl ?_ | with_reducible refine br_false rfl ?_ | skip); (conv => whnf))))
          rw [drop_tks hlt (show (Int.toNat (k : Int)) * 4 + 0 = k * 4 by simp)]
          have h3 := kind_3 (s := s) hT hlt
          generalize T[k] = t at *
          conv => whnf
          repeat (first | ((with_reducible refine And.intro ?_ ?_); (focus (first | omega | (with_reducible refine i64r ?_; (first | omega | (simp only [List.length_append, List.length_cons, List.length_nil, List.length_map, ByteArray.size_append]; omega))) | (with_reducible refine max_le ?_; (first | omega | (simp only [List.length_append, List.length_cons, List.length_nil, List.length_map, ByteArray.size_append]; omega))) | ((fail_if_success (with_reducible refine max_le ?_)); decide) | (simp only [List.length_append, List.length_cons, List.length_nil, List.length_map, ByteArray.size_append]; omega) | (dsimp only; omega) | ((with_reducible refine i64r ?_); dsimp only; omega))); (conv => whnf)) | ((first | with_reducible refine isIf1 ?_ | with_reducible refine isIf2 ?_ | with_reducible refine isIf3 ?_ | with_reducible refine isIf4 ?_ | with_reducible refine isIf5 ?_ | with_reducible refine isIf6 ?_ | with_reducible refine isIf7 ?_ | with_reducible refine isIf8 ?_ | with_reducible refine ifK_id ?_); first | ((focus (rw [decide_eq_true]; rotate_left; focus (first | (first | omega | (simp only [List.length_append, List.length_cons, List.length_nil, List.length_map, ByteArray.size_append]; omega)) | ((with_reducible refine isEq ?_); rfl)))); (first | with_reducible refine br_true rfl ?_ | with_reducible refine br_false rfl ?_ | skip); (conv => whnf)) | ((focus (rw [decide_eq_false]; rotate_left; focus (first | (first | omega | (simp only [List.length_append, List.length_cons, List.length_nil, List.length_map, ByteArray.size_append]; omega)) | (intro h; cases h)))); (first | with_reducible refine br_true rfl ?_ | with_reducible refine br_false rfl ?_ | skip); (conv => whnf))))
          refine ⟨k + 1, le_head ?_, hlt, by omega⟩
          repeat' constructor
        · obtain rfl : k = T.length := by omega
          repeat (first | ((with_reducible refine And.intro ?_ ?_); (focus (first | omega | (with_reducible refine i64r ?_; (first | omega | (simp only [List.length_append, List.length_cons, List.length_nil, List.length_map, ByteArray.size_append]; omega))) | (with_reducible refine max_le ?_; (first | omega | (simp only [List.length_append, List.length_cons, List.length_nil, List.length_map, ByteArray.size_append]; omega))) | ((fail_if_success (with_reducible refine max_le ?_)); decide) | (simp only [List.length_append, List.length_cons, List.length_nil, List.length_map, ByteArray.size_append]; omega) | (dsimp only; omega) | ((with_reducible refine i64r ?_); dsimp only; omega))); (conv => whnf)) | ((first | with_reducible refine isIf1 ?_ | with_reducible refine isIf2 ?_ | with_reducible refine isIf3 ?_ | with_reducible refine isIf4 ?_ | with_reducible refine isIf5 ?_ | with_reducible refine isIf6 ?_ | with_reducible refine isIf7 ?_ | with_reducible refine isIf8 ?_ | with_reducible refine ifK_id ?_); first | ((focus (rw [decide_eq_true]; rotate_left; focus (first | (first | omega | (simp only [List.length_append, List.length_cons, List.length_nil, List.length_map, ByteArray.size_append]; omega)) | ((with_reducible refine isEq ?_); rfl)))); (first | with_reducible refine br_true rfl ?_ | with_reducible refine br_false rfl ?_ | skip); (conv => whnf)) | ((focus (rw [decide_eq_false]; rotate_left; focus (first | (first | omega | (simp only [List.length_append, List.length_cons, List.length_nil, List.length_map, ByteArray.size_append]; omega)) | (intro h; cases h)))); (first | with_reducible refine br_true rfl ?_ | with_reducible refine br_false rfl ?_ | skip); (conv => whnf))))
          refine call0 [] rfl (fun _ => equal_spec s (by omega)) ?_
          rintro r rfl
          conv => whnf
          refine call0 [] rfl (fun _ => lives_spec) ?_
          rintro r rfl
          conv => whnf
          rfl
end Go.Proofs.YthaccjcadgodlaaDoor.Vm
