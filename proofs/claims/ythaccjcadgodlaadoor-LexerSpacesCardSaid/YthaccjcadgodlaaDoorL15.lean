/- The law LexerSpaces: its walk. -/
import Derived.Test.YthaccjcadgodlaaDoorL14
namespace Go.Proofs.YthaccjcadgodlaaDoor.Vm
open Go.RowKit
set_option linter.unusedSimpArgs false
set_option linter.unusedVariables false
set_option maxRecDepth 100000
theorem wsep_row (k : Int) (h : 0 ≤ k ∧ k < 5) : ∃ q ∈ wseps, q.length ≤ 5 ∧ rowOf 1 (Int.toNat k) [.v (.string ⟨#[32]⟩), .v (.string ⟨#[10]⟩), .v (.string ⟨#[9, 32]⟩), .v (.string ⟨#[35, 120, 61, 49, 10]⟩), .v (.string ⟨#[32, 35, 10, 35, 10]⟩)] = [.v (.string (bs q))] := by
  unfold wseps rowOf
  obtain rfl | rfl | rfl | rfl | rfl : k = 0 ∨ k = 1 ∨ k = 2 ∨ k = 3 ∨ k = 4 := by omega
  · exact ⟨[32], by simp, by simp, rfl⟩
  · exact ⟨[10], by simp, by simp, rfl⟩
  · exact ⟨[9, 32], by simp, by simp, rfl⟩
  · exact ⟨[35, 120, 61, 49, 10], by simp, by simp, rfl⟩
  · exact ⟨[32, 35, 10, 35, 10], by simp, by simp, rfl⟩
theorem good_txt : ∀ (ts : List Tk) (p : Nat) (l : List UInt8), Good p l ts → ∀ t ∈ ts, t.text.size ≤ l.length
  | [], _, _, _, t, ht => by cases ht
  | t0 :: ts, p, l, h, t, ht => by
    obtain ⟨h1, len, h2, h3, h4, h5, h6⟩ := h
    rcases List.mem_cons.1 ht with rfl | ht
    · rw [h4, bs_size, List.length_take, List.length_drop]; omega
    · have := good_txt ts _ _ h6 t ht
      rw [List.length_drop] at this; omega
theorem toks_txt (s : ByteArray) (hs : s.size ≤ 10000) {ts : List Tk} (h : Good 0 s.data.toList ts) : ∀ t ∈ ts ++ [endTk s], t.text.size ≤ 10000 := fun t ht => by
  rcases List.mem_append.1 ht with h1 | h1
  · have := good_txt _ _ _ h t h1
    rw [size_len] at this; omega
  · obtain rfl := List.mem_singleton.1 h1
    show 0 ≤ 10000; omega
set_option maxHeartbeats 4000000 in
theorem spaces_law_spec (l m : List Int) : Spec Tryd.prog 5 [] [.sl 1 l.length (intsA l), .sl 1 m.length (intsA m)] fun _ r => r = boolA true := by
  refine spec_of (cx_ok (fun id => match Nat.beq id 11 with | true => .q 0 7 .nil | false => ord5 id) xs0 0) Tryd.func5 rfl (by kernel_rfl) rfl (by kernel_rfl) ?_
  intro hok
  conv => whnf
  refine call0 [] rfl (fun _ => text_spec l) ?_
  rintro r ⟨s, hs, rfl⟩
  conv => whnf
  refine call0 [] rfl (fun _ => tokens_spec s (by omega)) ?_
  rintro r rfl
  cases he : (lexF' s).err with
  | some q =>
    obtain ⟨p, e⟩ := q
    have hx := bad_rng he
    rw [lexR_bad he]
    conv => whnf
    repeat (first | ((with_reducible refine And.intro ?_ ?_); (focus (first | omega | (with_reducible refine i64r ?_; (first | omega | (simp only [List.length_append, List.length_cons, List.length_nil, List.length_map, ByteArray.size_append]; omega))) | (with_reducible refine max_le ?_; (first | omega | (simp only [List.length_append, List.length_cons, List.length_nil, List.length_map, ByteArray.size_append]; omega))) | ((fail_if_success (with_reducible refine max_le ?_)); decide) | (simp only [List.length_append, List.length_cons, List.length_nil, List.length_map, ByteArray.size_append]; omega))); (conv => whnf)) | ((first | with_reducible refine isIf1 ?_ | with_reducible refine isIf2 ?_ | with_reducible refine isIf3 ?_ | with_reducible refine isIf4 ?_ | with_reducible refine isIf5 ?_ | with_reducible refine isIf6 ?_ | with_reducible refine isIf7 ?_ | with_reducible refine isIf8 ?_ | with_reducible refine ifK_id ?_); first | ((focus (rw [decide_eq_true]; rotate_left; focus (first | rfl | (first | omega | (simp only [List.length_append, List.length_cons, List.length_nil, List.length_map, ByteArray.size_append]; omega))))); (first | with_reducible refine br_true rfl ?_ | with_reducible refine br_false rfl ?_ | skip); (conv => whnf)) | ((focus (rw [decide_eq_false]; rotate_left; focus (first | (first | omega | (simp only [List.length_append, List.length_cons, List.length_nil, List.length_map, ByteArray.size_append]; omega)) | (intro h; cases h)))); (first | with_reducible refine br_true rfl ?_ | with_reducible refine br_false rfl ?_ | skip); (conv => whnf))))
    refine call0 [] rfl (fun _ => lives_spec) ?_
    rintro r rfl
    conv => whnf
    rfl
  | none =>
    rw [lexR_ok2 he]
    have hul := toks_len s
    have hgood := good_F he
    have htk := toks_ok s (by omega)
    have hal := good_alone _ _ _ hgood
    have htz := toks_txt s hs hgood
    generalize (lexF' s).toks = ts at *
    have husl : (ts ++ [endTk s]).length = ts.length + 1 := by simp
    have hut : (ts ++ [endTk s]).map (·.text) = ts.map (·.text) ++ [⟨#[]⟩] := by simp [endTk]
    generalize hus : ts ++ [endTk s] = us at *
    conv => whnf
    repeat (first | ((with_reducible refine And.intro ?_ ?_); (focus (first | omega | (with_reducible refine i64r ?_; (first | omega | (simp only [List.length_append, List.length_cons, List.length_nil, List.length_map, ByteArray.size_append]; omega))) | (with_reducible refine max_le ?_; (first | omega | (simp only [List.length_append, List.length_cons, List.length_nil, List.length_map, ByteArray.size_append]; omega))) | ((fail_if_success (with_reducible refine max_le ?_)); decide) | (simp only [List.length_append, List.length_cons, List.length_nil, List.length_map, ByteArray.size_append]; omega))); (conv => whnf)) | ((first | with_reducible refine isIf1 ?_ | with_reducible refine isIf2 ?_ | with_reducible refine isIf3 ?_ | with_reducible refine isIf4 ?_ | with_reducible refine isIf5 ?_ | with_reducible refine isIf6 ?_ | with_reducible refine isIf7 ?_ | with_reducible refine isIf8 ?_ | with_reducible refine ifK_id ?_); first | ((focus (rw [decide_eq_true]; rotate_left; focus (first | rfl | (first | omega | (simp only [List.length_append, List.length_cons, List.length_nil, List.length_map, ByteArray.size_append]; omega))))); (first | with_reducible refine br_true rfl ?_ | with_reducible refine br_false rfl ?_ | skip); (conv => whnf)) | ((focus (rw [decide_eq_false]; rotate_left; focus (first | (first | omega | (simp only [List.length_append, List.length_cons, List.length_nil, List.length_map, ByteArray.size_append]; omega)) | (intro h; cases h)))); (first | with_reducible refine br_true rfl ?_ | with_reducible refine br_false rfl ?_ | skip); (conv => whnf))))
    refine loop_keep [1, 5] ?_
    conv => whnf
    refine loop_go (fun x : Nat × ByteArray => [(8, .v (.string x.2)), (9, .v (.int .i64 x.1))]) (fun _ => []) (fun _ => []) (fun x => x.1 ≤ us.length ∧ x.2.size ≤ 10010 * x.1 ∧ ∃ qs : List (List UInt8), qs.length = x.1 ∧ (∀ q ∈ qs, q ∈ wseps) ∧ x.2.data.toList = spread qs ((us.map (·.text)).take x.1)) (fun x => us.length - x.1) (0, ⟨#[]⟩) ?_ ⟨Nat.zero_le _, Nat.le_refl _, [], rfl, (fun _ h => absurd h List.not_mem_nil), rfl⟩ ?_
    · repeat' constructor
    · rintro ⟨j, out⟩ ⟨hj, hsz, qs, hq1, hq2, hq3⟩
      simp only at hj hsz hq1 hq3
      conv => whnf
      by_cases hjl : j < us.length
      · have hrow : ∀ n, n = j → rowOf 4 n (tksL us) = tkL (us.getD j (endTk s)) := fun n hn => row_tkD (by omega) hn
        have ht0 : us[j]? = some (us.getD j (endTk s)) := by rw [List.getD_eq_getElem?_getD, List.getElem?_eq_getElem hjl]; rfl
        have ht1 := htz _ (List.mem_of_getElem? ht0)
        generalize us.getD j (endTk s) = t at *
        repeat (first | ((with_reducible refine And.intro ?_ ?_); (focus (first | omega | (with_reducible refine i64r ?_; (first | omega | (simp only [List.length_append, List.length_cons, List.length_nil, List.length_map, ByteArray.size_append]; omega))) | (with_reducible refine max_le ?_; (first | omega | (simp only [List.length_append, List.length_cons, List.length_nil, List.length_map, ByteArray.size_append]; omega))) | ((fail_if_success (with_reducible refine max_le ?_)); decide) | (simp only [List.length_append, List.length_cons, List.length_nil, List.length_map, ByteArray.size_append]; omega))); (conv => whnf)) | ((first | with_reducible refine isIf1 ?_ | with_reducible refine isIf2 ?_ | with_reducible refine isIf3 ?_ | with_reducible refine isIf4 ?_ | with_reducible refine isIf5 ?_ | with_reducible refine isIf6 ?_ | with_reducible refine isIf7 ?_ | with_reducible refine isIf8 ?_ | with_reducible refine ifK_id ?_); first | ((focus (rw [decide_eq_true]; rotate_left; focus (first | rfl | (first | omega | (simp only [List.length_append, List.length_cons, List.length_nil, List.length_map, ByteArray.size_append]; omega))))); (first | with_reducible refine br_true rfl ?_ | with_reducible refine br_false rfl ?_ | skip); (conv => whnf)) | ((focus (rw [decide_eq_false]; rotate_left; focus (first | (first | omega | (simp only [List.length_append, List.length_cons, List.length_nil, List.length_map, ByteArray.size_append]; omega)) | (intro h; cases h)))); (first | with_reducible refine br_true rfl ?_ | with_reducible refine br_false rfl ?_ | skip); (conv => whnf))))
        by_cases hjm : j < m.length
        · repeat (first | ((with_reducible refine And.intro ?_ ?_); (focus (first | omega | (with_reducible refine i64r ?_; (first | omega | (simp only [List.length_append, List.length_cons, List.length_nil, List.length_map, ByteArray.size_append]; omega))) | (with_reducible refine max_le ?_; (first | omega | (simp only [List.length_append, List.length_cons, List.length_nil, List.length_map, ByteArray.size_append]; omega))) | ((fail_if_success (with_reducible refine max_le ?_)); decide) | (simp only [List.length_append, List.length_cons, List.length_nil, List.length_map, ByteArray.size_append]; omega))); (conv => whnf)) | ((first | with_reducible refine isIf1 ?_ | with_reducible refine isIf2 ?_ | with_reducible refine isIf3 ?_ | with_reducible refine isIf4 ?_ | with_reducible refine isIf5 ?_ | with_reducible refine isIf6 ?_ | with_reducible refine isIf7 ?_ | with_reducible refine isIf8 ?_ | with_reducible refine ifK_id ?_); first | ((focus (rw [decide_eq_true]; rotate_left; focus (first | rfl | (first | omega | (simp only [List.length_append, List.length_cons, List.length_nil, List.length_map, ByteArray.size_append]; omega))))); (first | with_reducible refine br_true rfl ?_ | with_reducible refine br_false rfl ?_ | skip); (conv => whnf)) | ((focus (rw [decide_eq_false]; rotate_left; focus (first | (first | omega | (simp only [List.length_append, List.length_cons, List.length_nil, List.length_map, ByteArray.size_append]; omega)) | (intro h; cases h)))); (first | with_reducible refine br_true rfl ?_ | with_reducible refine br_false rfl ?_ | skip); (conv => whnf))))
          (generalize hrq : rowOf _ _ (intsA m) = rq; obtain rfl : rq = [.v (.int .i64 m[j])] := hrq.symm.trans (rowOf_ints m j hjm); clear hrq; conv => whnf)
          generalize m[j] = v
          refine call0 [] rfl (fun _ => around_spec v 5 (by omega)) ?_
          rintro r ⟨hv, rfl⟩
          have hkk := aroundF_rng (m := 5) hv (by omega)
          generalize aroundF v 5 = kk at *
          conv => whnf
          obtain ⟨q, hqw, hql, hqr⟩ := wsep_row kk (by omega)
          have hbq : (bs q).size = q.length := bs_size q
          have e3 : (out ++ bs q).size = out.size + q.length := by rw [ByteArray.size_append, hbq]
          repeat (apply flow_go; (focus ((conv => whnf); exact ⟨rfl, rfl, rfl⟩)); (conv => whnf))
          apply flow_go
          · conv => whnf
            refine ⟨by omega, ?_⟩
            generalize hrq : rowOf _ _ [A.v (Value.string ⟨#[32]⟩), A.v (Value.string ⟨#[10]⟩), A.v (Value.string ⟨#[9, 32]⟩), A.v (Value.string ⟨#[35, 120, 61, 49, 10]⟩), A.v (Value.string ⟨#[32, 35, 10, 35, 10]⟩)] = rq
            obtain rfl : rq = [A.v (Value.string (bs q))] := hrq.symm.trans hqr
            exact ⟨rfl, rfl, rfl⟩
          conv => whnf
          repeat (apply flow_go; (focus ((conv => whnf); exact ⟨rfl, rfl, rfl⟩)); (conv => whnf))
          apply flow_go
          · conv => whnf
            refine ⟨by show out.size + (bs q).size ≤ maxLen; unfold maxLen; omega, ?_⟩
            exact ⟨rfl, rfl, rfl⟩
          conv => whnf
          repeat (apply flow_go; (focus ((conv => whnf); exact ⟨rfl, rfl, rfl⟩)); (conv => whnf))
          apply flow_go
          · conv => whnf
            refine ⟨by omega, ?_⟩
            generalize hrq : rowOf _ _ (tksL us) = rq
            obtain rfl : rq = tkL t := hrq.symm.trans (hrow _ (by simp only; omega))
            exact ⟨rfl, rfl, rfl⟩
          conv => whnf
          repeat (apply flow_go; (focus ((conv => whnf); exact ⟨rfl, rfl, rfl⟩)); (conv => whnf))
          apply flow_go
          · conv => whnf
            refine ⟨by show (out ++ bs q).size + t.text.size ≤ maxLen; unfold maxLen; omega, ?_⟩
            exact ⟨rfl, rfl, rfl⟩
          conv => whnf
          repeat (apply flow_go; (focus ((conv => whnf); exact ⟨rfl, rfl, rfl⟩)); (conv => whnf))
          repeat (first | ((with_reducible refine And.intro ?_ ?_); (focus (first | omega | (with_reducible refine i64r ?_; (first | omega | (simp only [List.length_append, List.length_cons, List.length_nil, List.length_map, ByteArray.size_append]; omega))) | (with_reducible refine max_le ?_; (first | omega | (simp only [List.length_append, List.length_cons, List.length_nil, List.length_map, ByteArray.size_append]; omega))) | ((fail_if_success (with_reducible refine max_le ?_)); decide) | (simp only [List.length_append, List.length_cons, List.length_nil, List.length_map, ByteArray.size_append]; omega))); (conv => whnf)) | ((first | with_reducible refine isIf1 ?_ | with_reducible refine isIf2 ?_ | with_reducible refine isIf3 ?_ | with_reducible refine isIf4 ?_ | with_reducible refine isIf5 ?_ | with_reducible refine isIf6 ?_ | with_reducible refine isIf7 ?_ | with_reducible refine isIf8 ?_ | with_reducible refine ifK_id ?_); first | ((focus (rw [decide_eq_true]; rotate_left; focus (first | rfl | (first | omega | (simp only [List.length_append, List.length_cons, List.length_nil, List.length_map, ByteArray.size_append]; omega))))); (first | with_reducible refine br_true rfl ?_ | with_reducible refine br_false rfl ?_ | skip); (conv => whnf)) | ((focus (rw [decide_eq_false]; rotate_left; focus (first | (first | omega | (simp only [List.length_append, List.length_cons, List.length_nil, List.length_map, ByteArray.size_append]; omega)) | (intro h; cases h)))); (first | with_reducible refine br_true rfl ?_ | with_reducible refine br_false rfl ?_ | skip); (conv => whnf))))
          have e4 : (out ++ bs q ++ t.text).size = out.size + q.length + t.text.size := by rw [ByteArray.size_append, e3]
          refine ⟨(j + 1, out ++ bs q ++ t.text), le_head ?_, ⟨by show j + 1 ≤ us.length; omega, by show (out ++ bs q ++ t.text).size ≤ 10010 * (j + 1); omega, qs ++ [q], by simp [hq1], fun x hx => (List.mem_append.1 hx).elim (hq2 x) (fun h => by rw [List.mem_singleton.1 h]; exact hqw), ?_⟩, by show us.length - (j + 1) < us.length - j; omega⟩
          · repeat' constructor
          · show (out ++ bs q ++ t.text).data.toList = spread (qs ++ [q]) ((us.map (·.text)).take (j + 1))
            rw [List.take_add_one, List.getElem?_map, ht0]
            show _ = spread (qs ++ [q]) ((us.map (·.text)).take j ++ [t.text])
            rw [spread_snoc _ _ _ _ (by rw [List.length_take, List.length_map]; omega), ← hq3]
            simp [bs]
        · repeat (first | ((with_reducible refine And.intro ?_ ?_); (focus (first | omega | (with_reducible refine i64r ?_; (first | omega | (simp only [List.length_append, List.length_cons, List.length_nil, List.length_map, ByteArray.size_append]; omega))) | (with_reducible refine max_le ?_; (first | omega | (simp only [List.length_append, List.length_cons, List.length_nil, List.length_map, ByteArray.size_append]; omega))) | ((fail_if_success (with_reducible refine max_le ?_)); decide) | (simp only [List.length_append, List.length_cons, List.length_nil, List.length_map, ByteArray.size_append]; omega))); (conv => whnf)) | ((first | with_reducible refine isIf1 ?_ | with_reducible refine isIf2 ?_ | with_reducible refine isIf3 ?_ | with_reducible refine isIf4 ?_ | with_reducible refine isIf5 ?_ | with_reducible refine isIf6 ?_ | with_reducible refine isIf7 ?_ | with_reducible refine isIf8 ?_ | with_reducible refine ifK_id ?_); first | ((focus (rw [decide_eq_true]; rotate_left; focus (first | rfl | (first | omega | (simp only [List.length_append, List.length_cons, List.length_nil, List.length_map, ByteArray.size_append]; omega))))); (first | with_reducible refine br_true rfl ?_ | with_reducible refine br_false rfl ?_ | skip); (conv => whnf)) | ((focus (rw [decide_eq_false]; rotate_left; focus (first | (first | omega | (simp only [List.length_append, List.length_cons, List.length_nil, List.length_map, ByteArray.size_append]; omega)) | (intro h; cases h)))); (first | with_reducible refine br_true rfl ?_ | with_reducible refine br_false rfl ?_ | skip); (conv => whnf))))
          obtain ⟨q, hqw, hql, hqr⟩ := wsep_row 0 (by omega)
          have hbq : (bs q).size = q.length := bs_size q
          have e3 : (out ++ bs q).size = out.size + q.length := by rw [ByteArray.size_append, hbq]
          repeat (apply flow_go; (focus ((conv => whnf); exact ⟨rfl, rfl, rfl⟩)); (conv => whnf))
          apply flow_go
          · conv => whnf
            refine ⟨by omega, ?_⟩
            generalize hrq : rowOf _ _ [A.v (Value.string ⟨#[32]⟩), A.v (Value.string ⟨#[10]⟩), A.v (Value.string ⟨#[9, 32]⟩), A.v (Value.string ⟨#[35, 120, 61, 49, 10]⟩), A.v (Value.string ⟨#[32, 35, 10, 35, 10]⟩)] = rq
            obtain rfl : rq = [A.v (Value.string (bs q))] := hrq.symm.trans hqr
            exact ⟨rfl, rfl, rfl⟩
          conv => whnf
          repeat (apply flow_go; (focus ((conv => whnf); exact ⟨rfl, rfl, rfl⟩)); (conv => whnf))
          apply flow_go
          · conv => whnf
            refine ⟨by show out.size + (bs q).size ≤ maxLen; unfold maxLen; omega, ?_⟩
            exact ⟨rfl, rfl, rfl⟩
          conv => whnf
          repeat (apply flow_go; (focus ((conv => whnf); exact ⟨rfl, rfl, rfl⟩)); (conv => whnf))
          apply flow_go
          · conv => whnf
            refine ⟨by omega, ?_⟩
            generalize hrq : rowOf _ _ (tksL us) = rq
            obtain rfl : rq = tkL t := hrq.symm.trans (hrow _ (by simp only; omega))
            exact ⟨rfl, rfl, rfl⟩
          conv => whnf
          repeat (apply flow_go; (focus ((conv => whnf); exact ⟨rfl, rfl, rfl⟩)); (conv => whnf))
          apply flow_go
          · conv => whnf
            refine ⟨by show (out ++ bs q).size + t.text.size ≤ maxLen; unfold maxLen; omega, ?_⟩
            exact ⟨rfl, rfl, rfl⟩
          conv => whnf
          repeat (apply flow_go; (focus ((conv => whnf); exact ⟨rfl, rfl, rfl⟩)); (conv => whnf))
          repeat (first | ((with_reducible refine And.intro ?_ ?_); (focus (first | omega | (with_reducible refine i64r ?_; (first | omega | (simp only [List.length_append, List.length_cons, List.length_nil, List.length_map, ByteArray.size_append]; omega))) | (with_reducible refine max_le ?_; (first | omega | (simp only [List.length_append, List.length_cons, List.length_nil, List.length_map, ByteArray.size_append]; omega))) | ((fail_if_success (with_reducible refine max_le ?_)); decide) | (simp only [List.length_append, List.length_cons, List.length_nil, List.length_map, ByteArray.size_append]; omega))); (conv => whnf)) | ((first | with_reducible refine isIf1 ?_ | with_reducible refine isIf2 ?_ | with_reducible refine isIf3 ?_ | with_reducible refine isIf4 ?_ | with_reducible refine isIf5 ?_ | with_reducible refine isIf6 ?_ | with_reducible refine isIf7 ?_ | with_reducible refine isIf8 ?_ | with_reducible refine ifK_id ?_); first | ((focus (rw [decide_eq_true]; rotate_left; focus (first | rfl | (first | omega | (simp only [List.length_append, List.length_cons, List.length_nil, List.length_map, ByteArray.size_append]; omega))))); (first | with_reducible refine br_true rfl ?_ | with_reducible refine br_false rfl ?_ | skip); (conv => whnf)) | ((focus (rw [decide_eq_false]; rotate_left; focus (first | (first | omega | (simp only [List.length_append, List.length_cons, List.length_nil, List.length_map, ByteArray.size_append]; omega)) | (intro h; cases h)))); (first | with_reducible refine br_true rfl ?_ | with_reducible refine br_false rfl ?_ | skip); (conv => whnf))))
          have e4 : (out ++ bs q ++ t.text).size = out.size + q.length + t.text.size := by rw [ByteArray.size_append, e3]
          refine ⟨(j + 1, out ++ bs q ++ t.text), le_head ?_, ⟨by show j + 1 ≤ us.length; omega, by show (out ++ bs q ++ t.text).size ≤ 10010 * (j + 1); omega, qs ++ [q], by simp [hq1], fun x hx => (List.mem_append.1 hx).elim (hq2 x) (fun h => by rw [List.mem_singleton.1 h]; exact hqw), ?_⟩, by show us.length - (j + 1) < us.length - j; omega⟩
          · repeat' constructor
          · show (out ++ bs q ++ t.text).data.toList = spread (qs ++ [q]) ((us.map (·.text)).take (j + 1))
            rw [List.take_add_one, List.getElem?_map, ht0]
            show _ = spread (qs ++ [q]) ((us.map (·.text)).take j ++ [t.text])
            rw [spread_snoc _ _ _ _ (by rw [List.length_take, List.length_map]; omega), ← hq3]
            simp [bs]
      · repeat (first | ((with_reducible refine And.intro ?_ ?_); (focus (first | omega | (with_reducible refine i64r ?_; (first | omega | (simp only [List.length_append, List.length_cons, List.length_nil, List.length_map, ByteArray.size_append]; omega))) | (with_reducible refine max_le ?_; (first | omega | (simp only [List.length_append, List.length_cons, List.length_nil, List.length_map, ByteArray.size_append]; omega))) | ((fail_if_success (with_reducible refine max_le ?_)); decide) | (simp only [List.length_append, List.length_cons, List.length_nil, List.length_map, ByteArray.size_append]; omega))); (conv => whnf)) | ((first | with_reducible refine isIf1 ?_ | with_reducible refine isIf2 ?_ | with_reducible refine isIf3 ?_ | with_reducible refine isIf4 ?_ | with_reducible refine isIf5 ?_ | with_reducible refine isIf6 ?_ | with_reducible refine isIf7 ?_ | with_reducible refine isIf8 ?_ | with_reducible refine ifK_id ?_); first | ((focus (rw [decide_eq_true]; rotate_left; focus (first | rfl | (first | omega | (simp only [List.length_append, List.length_cons, List.length_nil, List.length_map, ByteArray.size_append]; omega))))); (first | with_reducible refine br_true rfl ?_ | with_reducible refine br_false rfl ?_ | skip); (conv => whnf)) | ((focus (rw [decide_eq_false]; rotate_left; focus (first | (first | omega | (simp only [List.length_append, List.length_cons, List.length_nil, List.length_map, ByteArray.size_append]; omega)) | (intro h; cases h)))); (first | with_reducible refine br_true rfl ?_ | with_reducible refine br_false rfl ?_ | skip); (conv => whnf))))
        obtain rfl : j = us.length := by omega
        have htake : (us.map (·.text)).take us.length = ts.map (·.text) ++ [⟨#[]⟩] := by rw [← hut]; exact List.take_of_length_le (by rw [List.length_map]; omega)
        obtain ⟨qs', q, rfl⟩ : ∃ qs' q, qs = qs' ++ [q] := ⟨qs.dropLast, qs.getLast (by intro h; rw [h] at hq1; simp at hq1; omega), (List.dropLast_concat_getLast _).symm⟩
        have hq1 : qs'.length + 1 = us.length := by simpa using hq1
        obtain ⟨vs, hv1, hv2, hv3⟩ := lex_spread ts qs' q 0 hal (fun x hx => hq2 x (by simp [hx])) (hq2 q (by simp)) (by omega)
        rw [htake] at hq3
        have hF : lexF' out = ⟨vs, none⟩ := by unfold lexF'; rw [hq3]; exact hv1
        refine call0 [] rfl (fun _ => tokens_spec out (by omega)) ?_
        rintro r rfl
        rw [lexR_ok2 (by rw [hF]), hF]
        have hvl : (vs ++ [endTk out]).length = us.length := by simp [hv2, husl]
        have hva : ∀ i, i < us.length → Alike3 (us.getD i (endTk s)) ((vs ++ [endTk out]).getD i (endTk out)) := fun i hi => by
          rw [List.getD_eq_getElem?_getD, List.getD_eq_getElem?_getD, ← hus]
          rcases Nat.lt_or_ge i ts.length with h | h
          · rw [List.getElem?_append_left h, List.getElem?_append_left (by omega), List.getElem?_eq_getElem h, List.getElem?_eq_getElem (by omega)]
            exact hv3 i h (by omega)
          · obtain rfl : i = ts.length := by omega
            rw [List.getElem?_append_right (Nat.le_refl _), List.getElem?_append_right (by omega), hv2, Nat.sub_self]
            exact ⟨rfl, rfl, rfl⟩
        show force (back [] (.tup [.sl 4 (vs ++ [endTk out]).length (tksL (vs ++ [endTk out])), intA 0, intA 0])) _
        generalize vs ++ [endTk out] = ws at *
        conv => whnf
        repeat (first | ((with_reducible refine And.intro ?_ ?_); (focus (first | omega | (with_reducible refine i64r ?_; (first | omega | (simp only [List.length_append, List.length_cons, List.length_nil, List.length_map, ByteArray.size_append]; omega))) | (with_reducible refine max_le ?_; (first | omega | (simp only [List.length_append, List.length_cons, List.length_nil, List.length_map, ByteArray.size_append]; omega))) | ((fail_if_success (with_reducible refine max_le ?_)); decide) | (simp only [List.length_append, List.length_cons, List.length_nil, List.length_map, ByteArray.size_append]; omega))); (conv => whnf)) | ((first | with_reducible refine isIf1 ?_ | with_reducible refine isIf2 ?_ | with_reducible refine isIf3 ?_ | with_reducible refine isIf4 ?_ | with_reducible refine isIf5 ?_ | with_reducible refine isIf6 ?_ | with_reducible refine isIf7 ?_ | with_reducible refine isIf8 ?_ | with_reducible refine ifK_id ?_); first | ((focus (rw [decide_eq_true]; rotate_left; focus (first | rfl | (first | omega | (simp only [List.length_append, List.length_cons, List.length_nil, List.length_map, ByteArray.size_append]; omega))))); (first | with_reducible refine br_true rfl ?_ | with_reducible refine br_false rfl ?_ | skip); (conv => whnf)) | ((focus (rw [decide_eq_false]; rotate_left; focus (first | (first | omega | (simp only [List.length_append, List.length_cons, List.length_nil, List.length_map, ByteArray.size_append]; omega)) | (intro h; cases h)))); (first | with_reducible refine br_true rfl ?_ | with_reducible refine br_false rfl ?_ | skip); (conv => whnf))))
        refine loop_keep [5, 11] ?_
        conv => whnf
        refine loop_go (fun k : Nat => [(14, .v (.int .i64 k))]) (fun _ => []) (fun _ => []) (fun k => k ≤ us.length) (fun k => us.length - k) 0 ?_ (Nat.zero_le _) ?_
        · repeat' constructor
        · rintro k hk
          conv => whnf
          by_cases hkl : k < us.length
          · have hrow : ∀ n, n = k → rowOf 4 n (tksL us) = tkL (us.getD k (endTk s)) := fun n hn => row_tkD (by omega) hn
            have hrow2 : ∀ n, n = k → rowOf 4 n (tksL ws) = tkL (ws.getD k (endTk out)) := fun n hn => row_tkD (by omega) hn
            have hal3 := hva k hkl
            generalize us.getD k (endTk s) = t at *
            generalize ws.getD k (endTk out) = v at *
            obtain ⟨a1, a2, a3⟩ := hal3
            repeat (first | ((with_reducible refine And.intro ?_ ?_); (focus (first | omega | (with_reducible refine i64r ?_; (first | omega | (simp only [List.length_append, List.length_cons, List.length_nil, List.length_map, ByteArray.size_append]; omega))) | (with_reducible refine max_le ?_; (first | omega | (simp only [List.length_append, List.length_cons, List.length_nil, List.length_map, ByteArray.size_append]; omega))) | ((fail_if_success (with_reducible refine max_le ?_)); decide) | (simp only [List.length_append, List.length_cons, List.length_nil, List.length_map, ByteArray.size_append]; omega))); (conv => whnf)) | ((first | with_reducible refine isIf1 ?_ | with_reducible refine isIf2 ?_ | with_reducible refine isIf3 ?_ | with_reducible refine isIf4 ?_ | with_reducible refine isIf5 ?_ | with_reducible refine isIf6 ?_ | with_reducible refine isIf7 ?_ | with_reducible refine isIf8 ?_ | with_reducible refine ifK_id ?_); first | ((focus (rw [decide_eq_true]; rotate_left; focus (first | rfl | (first | omega | (simp only [List.length_append, List.length_cons, List.length_nil, List.length_map, ByteArray.size_append]; omega))))); (first | with_reducible refine br_true rfl ?_ | with_reducible refine br_false rfl ?_ | skip); (conv => whnf)) | ((focus (rw [decide_eq_false]; rotate_left; focus (first | (first | omega | (simp only [List.length_append, List.length_cons, List.length_nil, List.length_map, ByteArray.size_append]; omega)) | (intro h; cases h)))); (first | with_reducible refine br_true rfl ?_ | with_reducible refine br_false rfl ?_ | skip); (conv => whnf))))
            (generalize hrq : rowOf _ _ (tksL ws) = rq; obtain rfl : rq = tkL v := hrq.symm.trans (hrow2 _ (by omega)); clear hrq; conv => whnf)
            repeat (first | ((with_reducible refine And.intro ?_ ?_); (focus (first | omega | (with_reducible refine i64r ?_; (first | omega | (simp only [List.length_append, List.length_cons, List.length_nil, List.length_map, ByteArray.size_append]; omega))) | (with_reducible refine max_le ?_; (first | omega | (simp only [List.length_append, List.length_cons, List.length_nil, List.length_map, ByteArray.size_append]; omega))) | ((fail_if_success (with_reducible refine max_le ?_)); decide) | (simp only [List.length_append, List.length_cons, List.length_nil, List.length_map, ByteArray.size_append]; omega))); (conv => whnf)) | ((first | with_reducible refine isIf1 ?_ | with_reducible refine isIf2 ?_ | with_reducible refine isIf3 ?_ | with_reducible refine isIf4 ?_ | with_reducible refine isIf5 ?_ | with_reducible refine isIf6 ?_ | with_reducible refine isIf7 ?_ | with_reducible refine isIf8 ?_ | with_reducible refine ifK_id ?_); first | ((focus (rw [decide_eq_true]; rotate_left; focus (first | rfl | (first | omega | (simp only [List.length_append, List.length_cons, List.length_nil, List.length_map, ByteArray.size_append]; omega))))); (first | with_reducible refine br_true rfl ?_ | with_reducible refine br_false rfl ?_ | skip); (conv => whnf)) | ((focus (rw [decide_eq_false]; rotate_left; focus (first | (first | omega | (simp only [List.length_append, List.length_cons, List.length_nil, List.length_map, ByteArray.size_append]; omega)) | (intro h; cases h)))); (first | with_reducible refine br_true rfl ?_ | with_reducible refine br_false rfl ?_ | skip); (conv => whnf))))
            (generalize hrq : rowOf _ _ (tksL us) = rq; obtain rfl : rq = tkL t := hrq.symm.trans (hrow _ (by omega)); clear hrq; conv => whnf)
            repeat (first | ((with_reducible refine And.intro ?_ ?_); (focus (first | omega | (with_reducible refine i64r ?_; (first | omega | (simp only [List.length_append, List.length_cons, List.length_nil, List.length_map, ByteArray.size_append]; omega))) | (with_reducible refine max_le ?_; (first | omega | (simp only [List.length_append, List.length_cons, List.length_nil, List.length_map, ByteArray.size_append]; omega))) | ((fail_if_success (with_reducible refine max_le ?_)); decide) | (simp only [List.length_append, List.length_cons, List.length_nil, List.length_map, ByteArray.size_append]; omega))); (conv => whnf)) | ((first | with_reducible refine isIf1 ?_ | with_reducible refine isIf2 ?_ | with_reducible refine isIf3 ?_ | with_reducible refine isIf4 ?_ | with_reducible refine isIf5 ?_ | with_reducible refine isIf6 ?_ | with_reducible refine isIf7 ?_ | with_reducible refine isIf8 ?_ | with_reducible refine ifK_id ?_); first | ((focus (rw [decide_eq_true]; rotate_left; focus (first | rfl | (first | omega | (simp only [List.length_append, List.length_cons, List.length_nil, List.length_map, ByteArray.size_append]; omega))))); (first | with_reducible refine br_true rfl ?_ | with_reducible refine br_false rfl ?_ | skip); (conv => whnf)) | ((focus (rw [decide_eq_false]; rotate_left; focus (first | (first | omega | (simp only [List.length_append, List.length_cons, List.length_nil, List.length_map, ByteArray.size_append]; omega)) | (intro h; cases h)))); (first | with_reducible refine br_true rfl ?_ | with_reducible refine br_false rfl ?_ | skip); (conv => whnf))))
            (generalize hrq : rowOf _ _ (tksL ws) = rq; obtain rfl : rq = tkL v := hrq.symm.trans (hrow2 _ (by omega)); clear hrq; conv => whnf)
            repeat (first | ((with_reducible refine And.intro ?_ ?_); (focus (first | omega | (with_reducible refine i64r ?_; (first | omega | (simp only [List.length_append, List.length_cons, List.length_nil, List.length_map, ByteArray.size_append]; omega))) | (with_reducible refine max_le ?_; (first | omega | (simp only [List.length_append, List.length_cons, List.length_nil, List.length_map, ByteArray.size_append]; omega))) | ((fail_if_success (with_reducible refine max_le ?_)); decide) | (simp only [List.length_append, List.length_cons, List.length_nil, List.length_map, ByteArray.size_append]; omega))); (conv => whnf)) | ((first | with_reducible refine isIf1 ?_ | with_reducible refine isIf2 ?_ | with_reducible refine isIf3 ?_ | with_reducible refine isIf4 ?_ | with_reducible refine isIf5 ?_ | with_reducible refine isIf6 ?_ | with_reducible refine isIf7 ?_ | with_reducible refine isIf8 ?_ | with_reducible refine ifK_id ?_); first | ((focus (rw [decide_eq_true]; rotate_left; focus (first | rfl | (first | omega | (simp only [List.length_append, List.length_cons, List.length_nil, List.length_map, ByteArray.size_append]; omega))))); (first | with_reducible refine br_true rfl ?_ | with_reducible refine br_false rfl ?_ | skip); (conv => whnf)) | ((focus (rw [decide_eq_false]; rotate_left; focus (first | (first | omega | (simp only [List.length_append, List.length_cons, List.length_nil, List.length_map, ByteArray.size_append]; omega)) | (intro h; cases h)))); (first | with_reducible refine br_true rfl ?_ | with_reducible refine br_false rfl ?_ | skip); (conv => whnf))))
            (generalize hrq : rowOf _ _ (tksL us) = rq; obtain rfl : rq = tkL t := hrq.symm.trans (hrow _ (by omega)); clear hrq; conv => whnf)
            repeat (first | ((with_reducible refine And.intro ?_ ?_); (focus (first | omega | (with_reducible refine i64r ?_; (first | omega | (simp only [List.length_append, List.length_cons, List.length_nil, List.length_map, ByteArray.size_append]; omega))) | (with_reducible refine max_le ?_; (first | omega | (simp only [List.length_append, List.length_cons, List.length_nil, List.length_map, ByteArray.size_append]; omega))) | ((fail_if_success (with_reducible refine max_le ?_)); decide) | (simp only [List.length_append, List.length_cons, List.length_nil, List.length_map, ByteArray.size_append]; omega))); (conv => whnf)) | ((first | with_reducible refine isIf1 ?_ | with_reducible refine isIf2 ?_ | with_reducible refine isIf3 ?_ | with_reducible refine isIf4 ?_ | with_reducible refine isIf5 ?_ | with_reducible refine isIf6 ?_ | with_reducible refine isIf7 ?_ | with_reducible refine isIf8 ?_ | with_reducible refine ifK_id ?_); first | ((focus (rw [decide_eq_true]; rotate_left; focus (first | rfl | (first | omega | (simp only [List.length_append, List.length_cons, List.length_nil, List.length_map, ByteArray.size_append]; omega))))); (first | with_reducible refine br_true rfl ?_ | with_reducible refine br_false rfl ?_ | skip); (conv => whnf)) | ((focus (rw [decide_eq_false]; rotate_left; focus (first | (first | omega | (simp only [List.length_append, List.length_cons, List.length_nil, List.length_map, ByteArray.size_append]; omega)) | (intro h; cases h)))); (first | with_reducible refine br_true rfl ?_ | with_reducible refine br_false rfl ?_ | skip); (conv => whnf))))
            (generalize hrq : rowOf _ _ (tksL ws) = rq; obtain rfl : rq = tkL v := hrq.symm.trans (hrow2 _ (by omega)); clear hrq; conv => whnf)
            repeat (first | ((with_reducible refine And.intro ?_ ?_); (focus (first | omega | (with_reducible refine i64r ?_; (first | omega | (simp only [List.length_append, List.length_cons, List.length_nil, List.length_map, ByteArray.size_append]; omega))) | (with_reducible refine max_le ?_; (first | omega | (simp only [List.length_append, List.length_cons, List.length_nil, List.length_map, ByteArray.size_append]; omega))) | ((fail_if_success (with_reducible refine max_le ?_)); decide) | (simp only [List.length_append, List.length_cons, List.length_nil, List.length_map, ByteArray.size_append]; omega))); (conv => whnf)) | ((first | with_reducible refine isIf1 ?_ | with_reducible refine isIf2 ?_ | with_reducible refine isIf3 ?_ | with_reducible refine isIf4 ?_ | with_reducible refine isIf5 ?_ | with_reducible refine isIf6 ?_ | with_reducible refine isIf7 ?_ | with_reducible refine isIf8 ?_ | with_reducible refine ifK_id ?_); first | ((focus (rw [decide_eq_true]; rotate_left; focus (first | rfl | (first | omega | (simp only [List.length_append, List.length_cons, List.length_nil, List.length_map, ByteArray.size_append]; omega))))); (first | with_reducible refine br_true rfl ?_ | with_reducible refine br_false rfl ?_ | skip); (conv => whnf)) | ((focus (rw [decide_eq_false]; rotate_left; focus (first | (first | omega | (simp only [List.length_append, List.length_cons, List.length_nil, List.length_map, ByteArray.size_append]; omega)) | (intro h; cases h)))); (first | with_reducible refine br_true rfl ?_ | with_reducible refine br_false rfl ?_ | skip); (conv => whnf))))
            (generalize hrq : rowOf _ _ (tksL us) = rq; obtain rfl : rq = tkL t := hrq.symm.trans (hrow _ (by omega)); clear hrq; conv => whnf)
            repeat (first | ((with_reducible refine And.intro ?_ ?_); (focus (first | omega | (with_reducible refine i64r ?_; (first | omega | (simp only [List.length_append, List.length_cons, List.length_nil, List.length_map, ByteArray.size_append]; omega))) | (with_reducible refine max_le ?_; (first | omega | (simp only [List.length_append, List.length_cons, List.length_nil, List.length_map, ByteArray.size_append]; omega))) | ((fail_if_success (with_reducible refine max_le ?_)); decide) | (simp only [List.length_append, List.length_cons, List.length_nil, List.length_map, ByteArray.size_append]; omega))); (conv => whnf)) | ((first | with_reducible refine isIf1 ?_ | with_reducible refine isIf2 ?_ | with_reducible refine isIf3 ?_ | with_reducible refine isIf4 ?_ | with_reducible refine isIf5 ?_ | with_reducible refine isIf6 ?_ | with_reducible refine isIf7 ?_ | with_reducible refine isIf8 ?_ | with_reducible refine ifK_id ?_); first | ((focus (rw [decide_eq_true]; rotate_left; focus (first | rfl | (first | omega | (simp only [List.length_append, List.length_cons, List.length_nil, List.length_map, ByteArray.size_append]; omega))))); (first | with_reducible refine br_true rfl ?_ | with_reducible refine br_false rfl ?_ | skip); (conv => whnf)) | ((focus (rw [decide_eq_false]; rotate_left; focus (first | (first | omega | (simp only [List.length_append, List.length_cons, List.length_nil, List.length_map, ByteArray.size_append]; omega)) | (intro h; cases h)))); (first | with_reducible refine br_true rfl ?_ | with_reducible refine br_false rfl ?_ | skip); (conv => whnf))))
            refine ⟨k + 1, le_head ?_, hkl, by omega⟩
            repeat' constructor
          · repeat (first | ((with_reducible refine And.intro ?_ ?_); (focus (first | omega | (with_reducible refine i64r ?_; (first | omega | (simp only [List.length_append, List.length_cons, List.length_nil, List.length_map, ByteArray.size_append]; omega))) | (with_reducible refine max_le ?_; (first | omega | (simp only [List.length_append, List.length_cons, List.length_nil, List.length_map, ByteArray.size_append]; omega))) | ((fail_if_success (with_reducible refine max_le ?_)); decide) | (simp only [List.length_append, List.length_cons, List.length_nil, List.length_map, ByteArray.size_append]; omega))); (conv => whnf)) | ((first | with_reducible refine isIf1 ?_ | with_reducible refine isIf2 ?_ | with_reducible refine isIf3 ?_ | with_reducible refine isIf4 ?_ | with_reducible refine isIf5 ?_ | with_reducible refine isIf6 ?_ | with_reducible refine isIf7 ?_ | with_reducible refine isIf8 ?_ | with_reducible refine ifK_id ?_); first | ((focus (rw [decide_eq_true]; rotate_left; focus (first | rfl | (first | omega | (simp only [List.length_append, List.length_cons, List.length_nil, List.length_map, ByteArray.size_append]; omega))))); (first | with_reducible refine br_true rfl ?_ | with_reducible refine br_false rfl ?_ | skip); (conv => whnf)) | ((focus (rw [decide_eq_false]; rotate_left; focus (first | (first | omega | (simp only [List.length_append, List.length_cons, List.length_nil, List.length_map, ByteArray.size_append]; omega)) | (intro h; cases h)))); (first | with_reducible refine br_true rfl ?_ | with_reducible refine br_false rfl ?_ | skip); (conv => whnf))))
            refine call0 [] rfl (fun _ => lives_spec) ?_
            rintro r rfl
            conv => whnf
            rfl
end Go.Proofs.YthaccjcadgodlaaDoor.Vm
