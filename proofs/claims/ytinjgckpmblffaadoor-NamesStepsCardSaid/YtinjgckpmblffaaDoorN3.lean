/- Dotted numbers: dotted, parseDotted, within, the words. -/
import Derived.Test.YtinjgckpmblffaaDoorN2
namespace Go.Proofs.YtinjgckpmblffaaDoor.Vm
open Go.RowKit Go.Shelf
set_option linter.unusedSimpArgs false
set_option linter.unusedVariables false
set_option maxRecDepth 100000
/-- A word that is a number's own text. -/
def numP (w : List UInt8) : Option Int := match Lib.atoiAll w with
  | .ok v => if (0 ≤ v ∧ v ≤ 2147483647) ∧ Lib.itoa v = w then some v else none
  | _ => none
def numsP : List (List UInt8) → Option (List Int)
  | [] => some []
  | w :: r => match numP w with
    | some v => match numsP r with
      | some l => some (v :: l)
      | none => none
    | none => none
def dotP (s : List UInt8) (many : Nat) : Option (List Int) := if (splitC 46 s).length = many then numsP (splitC 46 s) else none
def dotR (o : Option (List Int)) : A := match o with
  | some l => .sl 1 l.length (intsA l)
  | none => .v (.slice none 0 0)
def dots (l : List Int) : List UInt8 := Lib.join (l.map Lib.itoa) [46]
theorem numP_some {w : List UInt8} {v : Int} (h : numP w = some v) : (0 ≤ v ∧ v ≤ 2147483647) ∧ Lib.itoa v = w := by
  unfold numP at h
  split at h
  · split at h
    · rename_i h2; cases h; exact h2
    · cases h
  · cases h
theorem numsP_len : ∀ {ws : List (List UInt8)} {l : List Int}, numsP ws = some l → l.length = ws.length
  | [], l, h => by cases h; rfl
  | w :: r, l, h => by
    unfold numsP at h
    split at h
    · split at h
      · rename_i v hv l' hl
        cases h
        simp [numsP_len hl]
      · cases h
    · cases h
theorem numsP_take : ∀ {ws : List (List UInt8)} {k : Nat} {l : List Int} {v : Int} (hk : k < ws.length), numsP (ws.take k) = some l → numP ws[k] = some v → numsP (ws.take (k + 1)) = some (l ++ [v])
  | [], k, l, v, hk, _, _ => by simp at hk
  | w :: r, 0, l, v, hk, h, hv => by
    simp only [List.take_zero, numsP] at h
    cases h
    simp only [List.getElem_cons_zero] at hv
    simp [numsP, hv]
  | w :: r, k + 1, l, v, hk, h, hv => by
    simp only [List.take_succ_cons, numsP] at h ⊢
    cases hw : numP w with
    | none => rw [hw] at h; cases h
    | some v' =>
      rw [hw] at h
      cases hl : numsP (r.take k) with
      | none => rw [hl] at h; cases h
      | some l' =>
        rw [hl] at h
        cases h
        have := numsP_take (ws := r) (k := k) (l := l') (v := v) (by simpa using hk) hl (by simpa using hv)
        rw [this]; rfl
theorem numsP_bad : ∀ {ws : List (List UInt8)} {k : Nat} (hk : k < ws.length), numP ws[k] = none → numsP ws = none
  | [], k, hk, _ => by simp at hk
  | w :: r, 0, hk, h => by
    simp only [List.getElem_cons_zero] at h
    simp [numsP, h]
  | w :: r, k + 1, hk, h => by
    have := numsP_bad (ws := r) (k := k) (by simpa using hk) (by simpa using h)
    simp only [numsP, this]
    split <;> rfl
theorem lens_le : ∀ (l : List Int), (∀ n ∈ l, -9223372036854775808 ≤ n ∧ n ≤ 9223372036854775807) → Lib.lens (l.map Lib.itoa) ≤ 21 * l.length
  | [], _ => by simp [Lib.lens]
  | n :: r, h => by
    have h1 := lens_le r fun m hm => h m (by simp [hm])
    have h2 := h n (by simp)
    have h3 := Lib.itoa_length_le n h2.1 h2.2
    simp only [Lib.lens, List.map_cons, List.sum_cons, List.length_cons] at h1 ⊢
    omega
theorem dots_len (l : List Int) (h1 : 1 ≤ l.length) (h : ∀ n ∈ l, -9223372036854775808 ≤ n ∧ n ≤ 9223372036854775807) : (dots l).length ≤ 22 * l.length := by
  cases l with
  | nil => simp at h1
  | cons n r =>
    have := lens_le (n :: r) h
    unfold dots
    rw [List.map_cons, Lib.join_length]
    simp only [List.map_cons, List.length_cons, List.length_map, List.length_singleton, List.length_nil] at this ⊢
    omega
theorem dotted_spec (l : List Int) (h1 : 1 ≤ l.length) (hl : l.length ≤ 100) : Spec Tryd.prog 41 [] [.sl 1 l.length (intsA l)] fun _ r => r = strA (bs (dots l)) := by
  refine spec_of (cx_ok ord0 xs0 0) Tryd.func41 rfl (by kernel_rfl) rfl (by kernel_rfl) ?_
  intro hok
  have hla := hok.1.2.2
  conv => whnf
  refine loop_row 9 1 [3] [] ?_
  conv => whnf
  refine ⟨trivial, ?_⟩
  conv => whnf
  refine loop_keep [3, 6, 7] ?_
  conv => whnf
  refine loop_go (fun k : Nat => [(8, .v (.int .i64 k))]) (fun _ => []) (fun k => [.live 9 1 ((l.take k).map Lib.itoa).length (strsA (((l.take k).map Lib.itoa).map bs))]) (fun k => k ≤ l.length) (fun k => l.length - k) 0 ?_ (Nat.zero_le _) ?_
  · repeat' constructor
  · rintro k hk
    have hkl : ((l.take k).map Lib.itoa).length = k := by simp; omega
    conv => whnf
    by_cases hlt : k < l.length
    · repeat (first | ((with_reducible refine And.intro ?_ ?_); (focus (first | omega | (with_reducible refine i64r ?_; (first | omega | (simp only [List.length_append, List.length_cons, List.length_nil, List.length_map, ByteArray.size_append]; omega) | (dsimp only; omega))) | (with_reducible refine max_le ?_; (first | omega | (simp only [List.length_append, List.length_cons, List.length_nil, List.length_map, ByteArray.size_append]; omega) | (dsimp only; omega))) | ((fail_if_success (with_reducible refine max_le ?_)); decide) | (simp only [List.length_append, List.length_cons, List.length_nil, List.length_map, ByteArray.size_append]; omega) | (dsimp only; omega) | ((with_reducible refine i64r ?_); dsimp only; omega))); (conv => whnf)) | ((first | with_reducible refine isIf1 ?_ | with_reducible refine isIf2 ?_ | with_reducible refine isIf3 ?_ | with_reducible refine isIf4 ?_ | with_reducible refine isIf5 ?_ | with_reducible refine isIf6 ?_ | with_reducible refine isIf7 ?_ | with_reducible refine isIf8 ?_ | with_reducible refine ifK_id ?_); first | ((focus (rw [decide_eq_true]; rotate_left; focus (first | (first | omega | (simp only [List.length_append, List.length_cons, List.length_nil, List.length_map, ByteArray.size_append]; omega) | (dsimp only; omega)) | ((with_reducible refine isEq ?_); rfl)))); (first | with_reducible refine br_true rfl ?_ | with_reducible refine br_false rfl ?_ | skip); (conv => whnf)) | ((focus (rw [decide_eq_false]; rotate_left; focus (first | (first | omega | (simp only [List.length_append, List.length_cons, List.length_nil, List.length_map, ByteArray.size_append]; omega) | (dsimp only; omega)) | (intro h; cases h; done)))); (first | with_reducible refine br_true rfl ?_ | with_reducible refine br_false rfl ?_ | skip); (conv => whnf))))
      (generalize hrq : rowOf _ _ (intsA l) = rq; obtain rfl : rq = [.v (.int .i64 l[k])] := hrq.symm.trans (rowOf_ints l k hlt); clear hrq; conv => whnf)
      refine call0 [] rfl (fun _ => itoa_spec _) ?_
      rintro r ⟨_, rfl⟩
      have hs : (l.take (k + 1)).map Lib.itoa = (l.take k).map Lib.itoa ++ [Lib.itoa l[k]] := by rw [List.take_add_one, List.getElem?_eq_getElem hlt, List.map_append]; rfl
      generalize (l.take k).map Lib.itoa = X at *
      conv => whnf
      refine ⟨⟨by unfold maxLen; omega, by omega⟩, ?_⟩
      conv => whnf
      repeat (first | ((with_reducible refine And.intro ?_ ?_); (focus (first | omega | (with_reducible refine i64r ?_; (first | omega | (simp only [List.length_append, List.length_cons, List.length_nil, List.length_map, ByteArray.size_append]; omega) | (dsimp only; omega))) | (with_reducible refine max_le ?_; (first | omega | (simp only [List.length_append, List.length_cons, List.length_nil, List.length_map, ByteArray.size_append]; omega) | (dsimp only; omega))) | ((fail_if_success (with_reducible refine max_le ?_)); decide) | (simp only [List.length_append, List.length_cons, List.length_nil, List.length_map, ByteArray.size_append]; omega) | (dsimp only; omega) | ((with_reducible refine i64r ?_); dsimp only; omega))); (conv => whnf)) | ((first | with_reducible refine isIf1 ?_ | with_reducible refine isIf2 ?_ | with_reducible refine isIf3 ?_ | with_reducible refine isIf4 ?_ | with_reducible refine isIf5 ?_ | with_reducible refine isIf6 ?_ | with_reducible refine isIf7 ?_ | with_reducible refine isIf8 ?_ | with_reducible refine ifK_id ?_); first | ((focus (rw [decide_eq_true]; rotate_left; focus (first | (first | omega | (simp only [List.length_append, List.length_cons, List.length_nil, List.length_map, ByteArray.size_append]; omega) | (dsimp only; omega)) | ((with_reducible refine isEq ?_); rfl)))); (first | with_reducible refine br_true rfl ?_ | with_reducible refine br_false rfl ?_ | skip); (conv => whnf)) | ((focus (rw [decide_eq_false]; rotate_left; focus (first | (first | omega | (simp only [List.length_append, List.length_cons, List.length_nil, List.length_map, ByteArray.size_append]; omega) | (dsimp only; omega)) | (intro h; cases h; done)))); (first | with_reducible refine br_true rfl ?_ | with_reducible refine br_false rfl ?_ | skip); (conv => whnf))))
      refine ⟨k + 1, le_head ?_, hlt, by omega⟩
      repeat' constructor
      · rw [hs]; simp only [List.length_append, List.map_append, strsA]; rfl
    · obtain rfl : k = l.length := by omega
      rw [List.take_length] at hkl ⊢
      repeat (first | ((with_reducible refine And.intro ?_ ?_); (focus (first | omega | (with_reducible refine i64r ?_; (first | omega | (simp only [List.length_append, List.length_cons, List.length_nil, List.length_map, ByteArray.size_append]; omega) | (dsimp only; omega))) | (with_reducible refine max_le ?_; (first | omega | (simp only [List.length_append, List.length_cons, List.length_nil, List.length_map, ByteArray.size_append]; omega) | (dsimp only; omega))) | ((fail_if_success (with_reducible refine max_le ?_)); decide) | (simp only [List.length_append, List.length_cons, List.length_nil, List.length_map, ByteArray.size_append]; omega) | (dsimp only; omega) | ((with_reducible refine i64r ?_); dsimp only; omega))); (conv => whnf)) | ((first | with_reducible refine isIf1 ?_ | with_reducible refine isIf2 ?_ | with_reducible refine isIf3 ?_ | with_reducible refine isIf4 ?_ | with_reducible refine isIf5 ?_ | with_reducible refine isIf6 ?_ | with_reducible refine isIf7 ?_ | with_reducible refine isIf8 ?_ | with_reducible refine ifK_id ?_); first | ((focus (rw [decide_eq_true]; rotate_left; focus (first | (first | omega | (simp only [List.length_append, List.length_cons, List.length_nil, List.length_map, ByteArray.size_append]; omega) | (dsimp only; omega)) | ((with_reducible refine isEq ?_); rfl)))); (first | with_reducible refine br_true rfl ?_ | with_reducible refine br_false rfl ?_ | skip); (conv => whnf)) | ((focus (rw [decide_eq_false]; rotate_left; focus (first | (first | omega | (simp only [List.length_append, List.length_cons, List.length_nil, List.length_map, ByteArray.size_append]; omega) | (dsimp only; omega)) | (intro h; cases h; done)))); (first | with_reducible refine br_true rfl ?_ | with_reducible refine br_false rfl ?_ | skip); (conv => whnf))))
      refine call0 [0] rfl (fun _ => join_spec (l.map Lib.itoa) 46 (by omega) (by omega) ?_) ?_
      · have := dots_len l (by omega) (fun n hn => okA_int.1 (okL_mem hla (List.mem_map.2 ⟨n, hn, rfl⟩)))
        unfold dots at this; omega
      · rintro r rfl
        conv => whnf
        rfl
theorem parse_spec (s : ByteArray) (hs : s.size ≤ 1000000) (many : Nat) (h1 : 1 ≤ many) (h2 : many ≤ 100) : Spec Tryd.prog 43 [] [strA s, intA many] fun _ r => r = dotR (dotP s.data.toList many) := by
  have hmem : ∀ w ∈ splitC 46 s.data.toList, w.length ≤ 1000000 := fun w hw => by
    have := splitC_mem 46 _ w hw
    rw [size_len] at this; omega
  have hne := List.length_pos_iff.2 (splitC_ne 46 s.data.toList)
  unfold dotP
  refine spec_of (cx_ok ord0 xs0 0) Tryd.func43 rfl (by kernel_rfl) rfl (by kernel_rfl) ?_
  intro hok
  conv => whnf
  (refine call0 [] rfl (fun _ => split_spec s 46 (by omega)) ?_; rintro r rfl; conv => whnf)
  generalize splitC 46 s.data.toList = W at *
  by_cases hm : W.length = many
  · rw [if_pos hm]
    repeat (first | ((with_reducible refine And.intro ?_ ?_); (focus (first | omega | (with_reducible refine i64r ?_; (first | omega | (simp only [List.length_append, List.length_cons, List.length_nil, List.length_map, ByteArray.size_append]; omega) | (dsimp only; omega))) | (with_reducible refine max_le ?_; (first | omega | (simp only [List.length_append, List.length_cons, List.length_nil, List.length_map, ByteArray.size_append]; omega) | (dsimp only; omega))) | ((fail_if_success (with_reducible refine max_le ?_)); decide) | (simp only [List.length_append, List.length_cons, List.length_nil, List.length_map, ByteArray.size_append]; omega) | (dsimp only; omega) | ((with_reducible refine i64r ?_); dsimp only; omega))); (conv => whnf)) | ((first | with_reducible refine isIf1 ?_ | with_reducible refine isIf2 ?_ | with_reducible refine isIf3 ?_ | with_reducible refine isIf4 ?_ | with_reducible refine isIf5 ?_ | with_reducible refine isIf6 ?_ | with_reducible refine isIf7 ?_ | with_reducible refine isIf8 ?_ | with_reducible refine ifK_id ?_); first | ((focus (rw [decide_eq_true]; rotate_left; focus (first | (first | omega | (simp only [List.length_append, List.length_cons, List.length_nil, List.length_map, ByteArray.size_append]; omega) | (dsimp only; omega)) | ((with_reducible refine isEq ?_); rfl)))); (first | with_reducible refine br_true rfl ?_ | with_reducible refine br_false rfl ?_ | skip); (conv => whnf)) | ((focus (rw [decide_eq_false]; rotate_left; focus (first | (first | omega | (simp only [List.length_append, List.length_cons, List.length_nil, List.length_map, ByteArray.size_append]; omega) | (dsimp only; omega)) | (intro h; cases h; done)))); (first | with_reducible refine br_true rfl ?_ | with_reducible refine br_false rfl ?_ | skip); (conv => whnf))))
    refine loop_row 3 1 [6] [] ?_
    conv => whnf
    refine ⟨trivial, ?_⟩
    conv => whnf
    refine loop_keep [6, 17, 18] ?_
    conv => whnf
    refine loop_go (fun x : Nat × List Int => [(19, .v (.int .i64 x.1))]) (fun _ => []) (fun x => [.live 3 1 x.2.length (intsA x.2)]) (fun x => x.1 ≤ W.length ∧ numsP (W.take x.1) = some x.2) (fun x => W.length - x.1) (0, []) ?_ ⟨Nat.zero_le _, rfl⟩ ?_
    · repeat' constructor
    · rintro ⟨k, l⟩ ⟨hk, hn⟩
      simp only at hk hn
      have hll := numsP_len hn
      conv => whnf
      by_cases hlt : k < W.length
      · repeat (first | ((with_reducible refine And.intro ?_ ?_); (focus (first | omega | (with_reducible refine i64r ?_; (first | omega | (simp only [List.length_append, List.length_cons, List.length_nil, List.length_map, ByteArray.size_append]; omega) | (dsimp only; omega))) | (with_reducible refine max_le ?_; (first | omega | (simp only [List.length_append, List.length_cons, List.length_nil, List.length_map, ByteArray.size_append]; omega) | (dsimp only; omega))) | ((fail_if_success (with_reducible refine max_le ?_)); decide) | (simp only [List.length_append, List.length_cons, List.length_nil, List.length_map, ByteArray.size_append]; omega) | (dsimp only; omega) | ((with_reducible refine i64r ?_); dsimp only; omega))); (conv => whnf)) | ((first | with_reducible refine isIf1 ?_ | with_reducible refine isIf2 ?_ | with_reducible refine isIf3 ?_ | with_reducible refine isIf4 ?_ | with_reducible refine isIf5 ?_ | with_reducible refine isIf6 ?_ | with_reducible refine isIf7 ?_ | with_reducible refine isIf8 ?_ | with_reducible refine ifK_id ?_); first | ((focus (rw [decide_eq_true]; rotate_left; focus (first | (first | omega | (simp only [List.length_append, List.length_cons, List.length_nil, List.length_map, ByteArray.size_append]; omega) | (dsimp only; omega)) | ((with_reducible refine isEq ?_); rfl)))); (first | with_reducible refine br_true rfl ?_ | with_reducible refine br_false rfl ?_ | skip); (conv => whnf)) | ((focus (rw [decide_eq_false]; rotate_left; focus (first | (first | omega | (simp only [List.length_append, List.length_cons, List.length_nil, List.length_map, ByteArray.size_append]; omega) | (dsimp only; omega)) | (intro h; cases h; done)))); (first | with_reducible refine br_true rfl ?_ | with_reducible refine br_false rfl ?_ | skip); (conv => whnf))))
        (generalize hrq : rowOf _ _ (strsA (W.map bs)) = rq; obtain rfl : rq = [.v (.string (bs W[k]))] := hrq.symm.trans ((rowOf_strs (W.map bs) k (by simpa using hlt)).trans (by rw [List.getElem_map])); clear hrq; conv => whnf)
        have hw1 := hmem _ (List.getElem_mem hlt)
        have hbl : (bs W[k]).data.toList = W[k] := bs_list _
        have hat := atoi_spec (bs W[k]) (by rw [bs_size]; omega)
        rw [hbl] at hat
        have htk := fun v => numsP_take (v := v) hlt hn
        have hbd := numsP_bad hlt
        generalize W[k] = w at *
        refine call0 [] rfl (fun _ => hat) ?_
        rintro r rfl
        unfold atoiR
        cases ha : Lib.atoiAll w with
        | range =>
          rw [hbd (by unfold numP; rw [ha])]
          conv => whnf
          rfl
        | ok v =>
          simp only
          have hvb := Lib.atoiAll_bounds ha
          have hpv : numP w = if (0 ≤ v ∧ v ≤ 2147483647) ∧ Lib.itoa v = w then some v else none := by unfold numP; rw [ha]
          conv => whnf
          by_cases h0 : v < 0
          · rw [hbd (by rw [hpv, if_neg (by omega)])]
            repeat (first | ((with_reducible refine And.intro ?_ ?_); (focus (first | omega | (with_reducible refine i64r ?_; (first | omega | (simp only [List.length_append, List.length_cons, List.length_nil, List.length_map, ByteArray.size_append]; omega) | (dsimp only; omega))) | (with_reducible refine max_le ?_; (first | omega | (simp only [List.length_append, List.length_cons, List.length_nil, List.length_map, ByteArray.size_append]; omega) | (dsimp only; omega))) | ((fail_if_success (with_reducible refine max_le ?_)); decide) | (simp only [List.length_append, List.length_cons, List.length_nil, List.length_map, ByteArray.size_append]; omega) | (dsimp only; omega) | ((with_reducible refine i64r ?_); dsimp only; omega))); (conv => whnf)) | ((first | with_reducible refine isIf1 ?_ | with_reducible refine isIf2 ?_ | with_reducible refine isIf3 ?_ | with_reducible refine isIf4 ?_ | with_reducible refine isIf5 ?_ | with_reducible refine isIf6 ?_ | with_reducible refine isIf7 ?_ | with_reducible refine isIf8 ?_ | with_reducible refine ifK_id ?_); first | ((focus (rw [decide_eq_true]; rotate_left; focus (first | (first | omega | (simp only [List.length_append, List.length_cons, List.length_nil, List.length_map, ByteArray.size_append]; omega) | (dsimp only; omega)) | ((with_reducible refine isEq ?_); rfl)))); (first | with_reducible refine br_true rfl ?_ | with_reducible refine br_false rfl ?_ | skip); (conv => whnf)) | ((focus (rw [decide_eq_false]; rotate_left; focus (first | (first | omega | (simp only [List.length_append, List.length_cons, List.length_nil, List.length_map, ByteArray.size_append]; omega) | (dsimp only; omega)) | (intro h; cases h; done)))); (first | with_reducible refine br_true rfl ?_ | with_reducible refine br_false rfl ?_ | skip); (conv => whnf))))
            rfl
          · repeat (first | ((with_reducible refine And.intro ?_ ?_); (focus (first | omega | (with_reducible refine i64r ?_; (first | omega | (simp only [List.length_append, List.length_cons, List.length_nil, List.length_map, ByteArray.size_append]; omega) | (dsimp only; omega))) | (with_reducible refine max_le ?_; (first | omega | (simp only [List.length_append, List.length_cons, List.length_nil, List.length_map, ByteArray.size_append]; omega) | (dsimp only; omega))) | ((fail_if_success (with_reducible refine max_le ?_)); decide) | (simp only [List.length_append, List.length_cons, List.length_nil, List.length_map, ByteArray.size_append]; omega) | (dsimp only; omega) | ((with_reducible refine i64r ?_); dsimp only; omega))); (conv => whnf)) | ((first | with_reducible refine isIf1 ?_ | with_reducible refine isIf2 ?_ | with_reducible refine isIf3 ?_ | with_reducible refine isIf4 ?_ | with_reducible refine isIf5 ?_ | with_reducible refine isIf6 ?_ | with_reducible refine isIf7 ?_ | with_reducible refine isIf8 ?_ | with_reducible refine ifK_id ?_); first | ((focus (rw [decide_eq_true]; rotate_left; focus (first | (first | omega | (simp only [List.length_append, List.length_cons, List.length_nil, List.length_map, ByteArray.size_append]; omega) | (dsimp only; omega)) | ((with_reducible refine isEq ?_); rfl)))); (first | with_reducible refine br_true rfl ?_ | with_reducible refine br_false rfl ?_ | skip); (conv => whnf)) | ((focus (rw [decide_eq_false]; rotate_left; focus (first | (first | omega | (simp only [List.length_append, List.length_cons, List.length_nil, List.length_map, ByteArray.size_append]; omega) | (dsimp only; omega)) | (intro h; cases h; done)))); (first | with_reducible refine br_true rfl ?_ | with_reducible refine br_false rfl ?_ | skip); (conv => whnf))))
            by_cases h3 : 2147483647 < v
            · rw [hbd (by rw [hpv, if_neg (by omega)])]
              repeat (first | ((with_reducible refine And.intro ?_ ?_); (focus (first | omega | (with_reducible refine i64r ?_; (first | omega | (simp only [List.length_append, List.length_cons, List.length_nil, List.length_map, ByteArray.size_append]; omega) | (dsimp only; omega))) | (with_reducible refine max_le ?_; (first | omega | (simp only [List.length_append, List.length_cons, List.length_nil, List.length_map, ByteArray.size_append]; omega) | (dsimp only; omega))) | ((fail_if_success (with_reducible refine max_le ?_)); decide) | (simp only [List.length_append, List.length_cons, List.length_nil, List.length_map, ByteArray.size_append]; omega) | (dsimp only; omega) | ((with_reducible refine i64r ?_); dsimp only; omega))); (conv => whnf)) | ((first | with_reducible refine isIf1 ?_ | with_reducible refine isIf2 ?_ | with_reducible refine isIf3 ?_ | with_reducible refine isIf4 ?_ | with_reducible refine isIf5 ?_ | with_reducible refine isIf6 ?_ | with_reducible refine isIf7 ?_ | with_reducible refine isIf8 ?_ | with_reducible refine ifK_id ?_); first | ((focus (rw [decide_eq_true]; rotate_left; focus (first | (first | omega | (simp only [List.length_append, List.length_cons, List.length_nil, List.length_map, ByteArray.size_append]; omega) | (dsimp only; omega)) | ((with_reducible refine isEq ?_); rfl)))); (first | with_reducible refine br_true rfl ?_ | with_reducible refine br_false rfl ?_ | skip); (conv => whnf)) | ((focus (rw [decide_eq_false]; rotate_left; focus (first | (first | omega | (simp only [List.length_append, List.length_cons, List.length_nil, List.length_map, ByteArray.size_append]; omega) | (dsimp only; omega)) | (intro h; cases h; done)))); (first | with_reducible refine br_true rfl ?_ | with_reducible refine br_false rfl ?_ | skip); (conv => whnf))))
              rfl
            · repeat (first | ((with_reducible refine And.intro ?_ ?_); (focus (first | omega | (with_reducible refine i64r ?_; (first | omega | (simp only [List.length_append, List.length_cons, List.length_nil, List.length_map, ByteArray.size_append]; omega) | (dsimp only; omega))) | (with_reducible refine max_le ?_; (first | omega | (simp only [List.length_append, List.length_cons, List.length_nil, List.length_map, ByteArray.size_append]; omega) | (dsimp only; omega))) | ((fail_if_success (with_reducible refine max_le ?_)); decide) | (simp only [List.length_append, List.length_cons, List.length_nil, List.length_map, ByteArray.size_append]; omega) | (dsimp only; omega) | ((with_reducible refine i64r ?_); dsimp only; omega))); (conv => whnf)) | ((first | with_reducible refine isIf1 ?_ | with_reducible refine isIf2 ?_ | with_reducible refine isIf3 ?_ | with_reducible refine isIf4 ?_ | with_reducible refine isIf5 ?_ | with_reducible refine isIf6 ?_ | with_reducible refine isIf7 ?_ | with_reducible refine isIf8 ?_ | with_reducible refine ifK_id ?_); first | ((focus (rw [decide_eq_true]; rotate_left; focus (first | (first | omega | (simp only [List.length_append, List.length_cons, List.length_nil, List.length_map, ByteArray.size_append]; omega) | (dsimp only; omega)) | ((with_reducible refine isEq ?_); rfl)))); (first | with_reducible refine br_true rfl ?_ | with_reducible refine br_false rfl ?_ | skip); (conv => whnf)) | ((focus (rw [decide_eq_false]; rotate_left; focus (first | (first | omega | (simp only [List.length_append, List.length_cons, List.length_nil, List.length_map, ByteArray.size_append]; omega) | (dsimp only; omega)) | (intro h; cases h; done)))); (first | with_reducible refine br_true rfl ?_ | with_reducible refine br_false rfl ?_ | skip); (conv => whnf))))
              refine call0 [] rfl (fun _ => itoa_spec _) ?_
              rintro r ⟨_, rfl⟩
              conv => whnf
              by_cases h4 : Lib.itoa v = w
              · have h5 := htk v (by rw [hpv, if_pos ⟨by omega, h4⟩])
                rw [decide_eq_true (show bs (Lib.itoa v) = bs w by rw [h4])]
                conv => whnf
                refine ⟨⟨by unfold maxLen; simp only [hll, List.length_take]; omega, by simp only [hll, List.length_take]; omega⟩, ?_⟩
                conv => whnf
                repeat (first | ((with_reducible refine And.intro ?_ ?_); (focus (first | omega | (with_reducible refine i64r ?_; (first | omega | (simp only [List.length_append, List.length_cons, List.length_nil, List.length_map, ByteArray.size_append]; omega) | (dsimp only; omega))) | (with_reducible refine max_le ?_; (first | omega | (simp only [List.length_append, List.length_cons, List.length_nil, List.length_map, ByteArray.size_append]; omega) | (dsimp only; omega))) | ((fail_if_success (with_reducible refine max_le ?_)); decide) | (simp only [List.length_append, List.length_cons, List.length_nil, List.length_map, ByteArray.size_append]; omega) | (dsimp only; omega) | ((with_reducible refine i64r ?_); dsimp only; omega))); (conv => whnf)) | ((first | with_reducible refine isIf1 ?_ | with_reducible refine isIf2 ?_ | with_reducible refine isIf3 ?_ | with_reducible refine isIf4 ?_ | with_reducible refine isIf5 ?_ | with_reducible refine isIf6 ?_ | with_reducible refine isIf7 ?_ | with_reducible refine isIf8 ?_ | with_reducible refine ifK_id ?_); first | ((focus (rw [decide_eq_true]; rotate_left; focus (first | (first | omega | (simp only [List.length_append, List.length_cons, List.length_nil, List.length_map, ByteArray.size_append]; omega) | (dsimp only; omega)) | ((with_reducible refine isEq ?_); rfl)))); (first | with_reducible refine br_true rfl ?_ | with_reducible refine br_false rfl ?_ | skip); (conv => whnf)) | ((focus (rw [decide_eq_false]; rotate_left; focus (first | (first | omega | (simp only [List.length_append, List.length_cons, List.length_nil, List.length_map, ByteArray.size_append]; omega) | (dsimp only; omega)) | (intro h; cases h; done)))); (first | with_reducible refine br_true rfl ?_ | with_reducible refine br_false rfl ?_ | skip); (conv => whnf))))
                refine ⟨(k + 1, l ++ [v]), le_head ?_, ⟨hlt, h5⟩, by simp only; omega⟩
                repeat' constructor
                · simp only [List.length_append, intsA, List.map_append]; rfl
              · rw [hbd (by rw [hpv, if_neg (fun h => h4 h.2)])]
                rw [decide_eq_false (show ¬ bs (Lib.itoa v) = bs w from fun h => h4 (by rw [← bs_list (Lib.itoa v), h, bs_list]))]
                conv => whnf
                rfl
        | _ =>
          rw [hbd (by unfold numP; rw [ha])]
          conv => whnf
          rfl
      · obtain rfl : k = W.length := by omega
        rw [List.take_length] at hn
        repeat (first | ((with_reducible refine And.intro ?_ ?_); (focus (first | omega | (with_reducible refine i64r ?_; (first | omega | (simp only [List.length_append, List.length_cons, List.length_nil, List.length_map, ByteArray.size_append]; omega) | (dsimp only; omega))) | (with_reducible refine max_le ?_; (first | omega | (simp only [List.length_append, List.length_cons, List.length_nil, List.length_map, ByteArray.size_append]; omega) | (dsimp only; omega))) | ((fail_if_success (with_reducible refine max_le ?_)); decide) | (simp only [List.length_append, List.length_cons, List.length_nil, List.length_map, ByteArray.size_append]; omega) | (dsimp only; omega) | ((with_reducible refine i64r ?_); dsimp only; omega))); (conv => whnf)) | ((first | with_reducible refine isIf1 ?_ | with_reducible refine isIf2 ?_ | with_reducible refine isIf3 ?_ | with_reducible refine isIf4 ?_ | with_reducible refine isIf5 ?_ | with_reducible refine isIf6 ?_ | with_reducible refine isIf7 ?_ | with_reducible refine isIf8 ?_ | with_reducible refine ifK_id ?_); first | ((focus (rw [decide_eq_true]; rotate_left; focus (first | (first | omega | (simp only [List.length_append, List.length_cons, List.length_nil, List.length_map, ByteArray.size_append]; omega) | (dsimp only; omega)) | ((with_reducible refine isEq ?_); rfl)))); (first | with_reducible refine br_true rfl ?_ | with_reducible refine br_false rfl ?_ | skip); (conv => whnf)) | ((focus (rw [decide_eq_false]; rotate_left; focus (first | (first | omega | (simp only [List.length_append, List.length_cons, List.length_nil, List.length_map, ByteArray.size_append]; omega) | (dsimp only; omega)) | (intro h; cases h; done)))); (first | with_reducible refine br_true rfl ?_ | with_reducible refine br_false rfl ?_ | skip); (conv => whnf))))
        rw [hn]
        have : l.length = W.length := by rw [hll, List.take_length]
        rfl
  · rw [if_neg hm]
    repeat (first | ((with_reducible refine And.intro ?_ ?_); (focus (first | omega | (with_reducible refine i64r ?_; (first | omega | (simp only [List.length_append, List.length_cons, List.length_nil, List.length_map, ByteArray.size_append]; omega) | (dsimp only; omega))) | (with_reducible refine max_le ?_; (first | omega | (simp only [List.length_append, List.length_cons, List.length_nil, List.length_map, ByteArray.size_append]; omega) | (dsimp only; omega))) | ((fail_if_success (with_reducible refine max_le ?_)); decide) | (simp only [List.length_append, List.length_cons, List.length_nil, List.length_map, ByteArray.size_append]; omega) | (dsimp only; omega) | ((with_reducible refine i64r ?_); dsimp only; omega))); (conv => whnf)) | ((first | with_reducible refine isIf1 ?_ | with_reducible refine isIf2 ?_ | with_reducible refine isIf3 ?_ | with_reducible refine isIf4 ?_ | with_reducible refine isIf5 ?_ | with_reducible refine isIf6 ?_ | with_reducible refine isIf7 ?_ | with_reducible refine isIf8 ?_ | with_reducible refine ifK_id ?_); first | ((focus (rw [decide_eq_true]; rotate_left; focus (first | (first | omega | (simp only [List.length_append, List.length_cons, List.length_nil, List.length_map, ByteArray.size_append]; omega) | (dsimp only; omega)) | ((with_reducible refine isEq ?_); rfl)))); (first | with_reducible refine br_true rfl ?_ | with_reducible refine br_false rfl ?_ | skip); (conv => whnf)) | ((focus (rw [decide_eq_false]; rotate_left; focus (first | (first | omega | (simp only [List.length_append, List.length_cons, List.length_nil, List.length_map, ByteArray.size_append]; omega) | (dsimp only; omega)) | (intro h; cases h; done)))); (first | with_reducible refine br_true rfl ?_ | with_reducible refine br_false rfl ?_ | skip); (conv => whnf))))
    rfl
def withinF (c : Cs) (n : Int) : Bool := decide (0 ≤ min c.node c.handler) && decide (c.node < 12) && decide (c.handler < n)
theorem within_spec (c : Cs) (n : Int) : Spec Tryd.prog 44 [] [.agg (csA c), intA n] fun _ r => r = boolA (withinF c n) := by
  refine spec_of (cx_ok ord0 xs0 0) Tryd.func44 rfl (by kernel_rfl) rfl (by kernel_rfl) ?_
  intro hok
  conv => whnf
  unfold withinF
  by_cases h1 : 0 ≤ min c.node c.handler
  · rw [decide_eq_true h1]
    conv => whnf
    by_cases h2 : c.node < 12
    · rw [decide_eq_true h2]
      conv => whnf
      rfl
    · rw [decide_eq_false h2]
      conv => whnf
      rfl
  · rw [decide_eq_false h1]
    conv => whnf
    rfl
def eWords : List ByteArray := [bs [], bs [115, 116, 97, 114, 116], bs [105, 110, 118, 111, 107, 101], bs [100, 101, 108, 105, 118, 101, 114], bs [116, 105, 109, 101, 114], bs [100, 114, 111, 112], bs [100, 117, 112], bs [99, 114, 97, 115, 104]]
def qWords : List ByteArray := [bs [], bs [100, 114, 97, 119], bs [116, 105, 99, 107], bs [107, 101, 101, 112]]
theorem eWords_spec : Spec Tryd.prog 39 [] [] fun _ r => r = .sl 1 8 (strsA eWords) := by
  refine spec_of (cx_ok ord0 xs0 0) Tryd.func39 rfl (by kernel_rfl) rfl (by kernel_rfl) ?_
  intro hok
  conv => whnf
  rfl
theorem qWords_spec : Spec Tryd.prog 49 [] [] fun _ r => r = .sl 1 4 (strsA qWords) := by
  refine spec_of (cx_ok ord0 xs0 0) Tryd.func49 rfl (by kernel_rfl) rfl (by kernel_rfl) ?_
  intro hok
  conv => whnf
  rfl
end Go.Proofs.YtinjgckpmblffaaDoor.Vm
