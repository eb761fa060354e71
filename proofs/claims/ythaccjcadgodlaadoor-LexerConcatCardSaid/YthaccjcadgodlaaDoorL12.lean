/- The law LexerConcat: its walk. -/
import Derived.Test.YthaccjcadgodlaaDoorL10
import Derived.Test.YthaccjcadgodlaaDoorL13
import Derived.Test.YthaccjcadgodlaaDoorVmG
namespace Go.Proofs.YthaccjcadgodlaaDoor.Vm
open Go.RowKit
set_option linter.unusedSimpArgs false
set_option linter.unusedVariables false
set_option maxRecDepth 100000
theorem lexR_tup (s : ByteArray) : ∃ x y z, lexR s = .tup [x, y, z] := by
  unfold lexR
  split <;> exact ⟨_, _, _, rfl⟩
theorem app_data (a b : ByteArray) : (a ++ b).data.toList = a.data.toList ++ b.data.toList := by simp
def moved (d : Nat) (t : Tk) : Tk := ⟨t.kind, t.pos + d, t.text, t.n⟩
theorem join_lex (a b : ByteArray) : lexF' (a ++ ⟨#[10]⟩ ++ b) = match (lexF' a).err with
    | some _ => lexF' a
    | none => Lx.app (lexF' a).toks ((lexF' b).shift (a.size + 1)) := by
  have h := lexL_join _ a.data.toList b.data.toList 0 (Nat.le_refl _)
  have e : (a ++ ⟨#[10]⟩ ++ b).data.toList = a.data.toList ++ 10 :: b.data.toList := by simp
  have h2 := lexL_shift _ b.data.toList 0 (a.size + 1) (Nat.le_refl _)
  have hsl := size_len a
  unfold lexF'
  rw [e, h]
  rw [show 0 + a.data.toList.length + 1 = 0 + (a.size + 1) by omega, h2]
  rfl
theorem ends_join (a b : ByteArray) : endTk (a ++ ⟨#[10]⟩ ++ b) = moved (a.size + 1) (endTk b) := by
  unfold endTk moved
  simp only [ByteArray.size_append]
  congr 1
  show a.size + 1 + b.size = b.size + (a.size + 1)
  omega
theorem row_tk {l : List Tk} {n i : Nat} {t : Tk} (h : i < l.length) (hn : n = i) (ht : l[i] = t) : rowOf 4 n (tksL l) = tkL t := by
  subst hn
  rw [← ht]
  exact rowOf_flat tkL (fun _ => rfl) l n h
theorem toks_pos (b : ByteArray) (hb : b.size ≤ 1000000000) : ∀ t ∈ (lexF' b).toks ++ [endTk b], t.pos ≤ 1000000000 := fun t ht => by
  rcases List.mem_append.1 ht with h | h
  · exact (lexG_tk _ 0 _ (by rw [Nat.zero_add, size_len]; exact hb) t h).2.1
  · obtain rfl := List.mem_singleton.1 h
    exact hb
set_option maxHeartbeats 4000000 in
theorem concat_law_spec (raw : ByteArray) (l m : List Int) (first : Bool) : Spec Tryd.prog 6 [] [.v (.string raw), .sl 1 l.length (intsA l), .sl 1 m.length (intsA m), .v (.bool first)] fun _ r => r = boolA true := by
  refine spec_of (cx_ok ord6 xs0 0) Tryd.func6 rfl (by kernel_rfl) rfl (by kernel_rfl) ?_
  intro hok
  conv => whnf
  refine call0 [] rfl (fun _ => text_spec l) ?_
  rintro r ⟨a0, ha0, rfl⟩
  conv => whnf
  refine call0 [] rfl (fun _ => text_spec m) ?_
  rintro r ⟨b, hb0, rfl⟩
  conv => whnf
  cases first with
  | true =>
    conv => whnf
    refine call0 [] rfl (fun _ => short_spec raw 60 (by decide)) ?_
    rintro r ⟨a, ha1, rfl⟩
    conv => whnf
    refine call0 [] rfl (fun _ => tokens_spec a (by omega)) ?_
    rintro r rfl
    cases ha : (lexF' a).err with
    | some x =>
      obtain ⟨p, e⟩ := x
      have hx := bad_rng ha
      have hc : lexF' (a ++ ⟨#[10]⟩ ++ b) = lexF' a := by rw [join_lex, ha]
      rw [lexR_bad ha]
      conv => whnf
      refine call0 [] rfl (fun _ => tokens_spec b (by omega)) ?_
      rintro r rfl
      cases hb : (lexF' b).err with
      | some y =>
        obtain ⟨p', e'⟩ := y
        rw [lexR_bad hb]
        conv => whnf
        refine ⟨by show a.size + 1 ≤ maxLen; unfold maxLen; omega, ?_⟩
        conv => whnf
        refine ⟨by rw [ByteArray.size_append]; show a.size + 1 + b.size ≤ maxLen; unfold maxLen; omega, ?_⟩
        conv => whnf
        refine call0 [] rfl (fun _ => tokens_spec _ (by rw [ByteArray.size_append, ByteArray.size_append]; show a.size + 1 + b.size ≤ 1000000000; omega)) ?_
        rintro r rfl
        rw [lexR_bad (by rw [hc]; exact ha)]
        conv => whnf
        refine br_true (by simp [hx.2.1]) ?_
        conv => whnf
        rw [show decide (e = e) = true from decide_eq_true rfl]
        conv => whnf
        rw [show decide ((p : Int) = (p : Int)) = true from decide_eq_true rfl]
        conv => whnf
        refine call0 [] rfl (fun _ => lives_spec) ?_
        rintro r rfl
        conv => whnf
        rfl
      | none =>
        rw [lexR_ok2 hb]
        conv => whnf
        refine ⟨by show a.size + 1 ≤ maxLen; unfold maxLen; omega, ?_⟩
        conv => whnf
        refine ⟨by rw [ByteArray.size_append]; show a.size + 1 + b.size ≤ maxLen; unfold maxLen; omega, ?_⟩
        conv => whnf
        refine call0 [] rfl (fun _ => tokens_spec _ (by rw [ByteArray.size_append, ByteArray.size_append]; show a.size + 1 + b.size ≤ 1000000000; omega)) ?_
        rintro r rfl
        rw [lexR_bad (by rw [hc]; exact ha)]
        conv => whnf
        refine br_true (by simp [hx.2.1]) ?_
        conv => whnf
        rw [show decide (e = e) = true from decide_eq_true rfl]
        conv => whnf
        rw [show decide ((p : Int) = (p : Int)) = true from decide_eq_true rfl]
        conv => whnf
        refine call0 [] rfl (fun _ => lives_spec) ?_
        rintro r rfl
        conv => whnf
        rfl
    | none =>
      have hc : lexF' (a ++ ⟨#[10]⟩ ++ b) = Lx.app (lexF' a).toks ((lexF' b).shift (a.size + 1)) := by rw [join_lex, ha]
      rw [lexR_ok2 ha]
      have hul := toks_len a
      have hvb := toks_len b
      have hul : (lexF' a).toks.length ≤ a.size := by simp only [List.length_append, List.length_cons, List.length_nil] at hul; omega
      generalize (lexF' a).toks = us at *
      conv => whnf
      refine call0 [] rfl (fun _ => tokens_spec b (by omega)) ?_
      rintro r rfl
      cases hb : (lexF' b).err with
      | some y =>
        obtain ⟨p, e⟩ := y
        have hx := bad_rng hb
        rw [lexR_bad hb]
        conv => whnf
        refine ⟨by show a.size + 1 ≤ maxLen; unfold maxLen; omega, ?_⟩
        conv => whnf
        refine ⟨by rw [ByteArray.size_append]; show a.size + 1 + b.size ≤ maxLen; unfold maxLen; omega, ?_⟩
        conv => whnf
        refine call0 [] rfl (fun _ => tokens_spec _ (by rw [ByteArray.size_append, ByteArray.size_append]; show a.size + 1 + b.size ≤ 1000000000; omega)) ?_
        rintro r rfl
        rw [lexR_bad (p := p + (a.size + 1)) (e := e) (by rw [hc]; simp [Lx.app, Lx.shift, hb])]
        conv => whnf
        refine br_true (by simp [hx.2.1]) ?_
        conv => whnf
        repeat (first | ((with_reducible refine And.intro ?_ ?_); (focus (first | omega | (with_reducible refine i64r ?_; (first | omega | (simp only [List.length_append, List.length_cons, List.length_nil, List.length_map, ByteArray.size_append]; omega))) | (with_reducible refine max_le ?_; (first | omega | (simp only [List.length_append, List.length_cons, List.length_nil, List.length_map, ByteArray.size_append]; omega))) | ((fail_if_success (with_reducible refine max_le ?_)); decide) | (simp only [List.length_append, List.length_cons, List.length_nil, List.length_map, ByteArray.size_append]; omega))); (conv => whnf)) | ((first | with_reducible refine isIf1 ?_ | with_reducible refine isIf2 ?_ | with_reducible refine isIf3 ?_ | with_reducible refine isIf4 ?_ | with_reducible refine isIf5 ?_ | with_reducible refine isIf6 ?_ | with_reducible refine isIf7 ?_ | with_reducible refine isIf8 ?_ | with_reducible refine ifK_id ?_); first | ((focus (rw [decide_eq_true]; rotate_left; focus (first | rfl | (first | omega | (simp only [List.length_append, List.length_cons, List.length_nil, List.length_map, ByteArray.size_append]; omega))))); (first | with_reducible refine br_true rfl ?_ | with_reducible refine br_false rfl ?_ | skip); (conv => whnf)) | ((focus (rw [decide_eq_false]; rotate_left; focus (first | (first | omega | (simp only [List.length_append, List.length_cons, List.length_nil, List.length_map, ByteArray.size_append]; omega)) | (intro h; cases h)))); (first | with_reducible refine br_true rfl ?_ | with_reducible refine br_false rfl ?_ | skip); (conv => whnf))))
        refine call0 [] rfl (fun _ => lives_spec) ?_
        rintro r rfl
        conv => whnf
        rfl
      | none =>
        rw [lexR_ok2 hb]
        conv => whnf
        refine ⟨by show a.size + 1 ≤ maxLen; unfold maxLen; omega, ?_⟩
        conv => whnf
        refine ⟨by rw [ByteArray.size_append]; show a.size + 1 + b.size ≤ maxLen; unfold maxLen; omega, ?_⟩
        conv => whnf
        refine call0 [] rfl (fun _ => tokens_spec _ (by rw [ByteArray.size_append, ByteArray.size_append]; show a.size + 1 + b.size ≤ 1000000000; omega)) ?_
        rintro r rfl
        have he := ends_join a b
        rw [lexR_ok2 (by rw [hc]; simp [Lx.app, Lx.shift, hb])]
        have hz : (lexF' (a ++ ⟨#[10]⟩ ++ b)).toks ++ [endTk (a ++ ⟨#[10]⟩ ++ b)] = us ++ ((lexF' b).toks ++ [endTk b]).map (moved (a.size + 1)) := by
          rw [hc, he]
          simp [Lx.app, Lx.shift, moved]
        rw [hz]
        have hvp : ∀ t ∈ (lexF' b).toks ++ [endTk b], t.pos ≤ 1000000000 := toks_pos b (by omega)
        generalize hvs : (lexF' b).toks ++ [endTk b] = vs at *
        have hvl : 1 ≤ vs.length := by rw [← hvs]; simp
        conv => whnf
        repeat (first | ((with_reducible refine And.intro ?_ ?_); (focus (first | omega | (with_reducible refine i64r ?_; (first | omega | (simp only [List.length_append, List.length_cons, List.length_nil, List.length_map, ByteArray.size_append]; omega))) | (with_reducible refine max_le ?_; (first | omega | (simp only [List.length_append, List.length_cons, List.length_nil, List.length_map, ByteArray.size_append]; omega))) | ((fail_if_success (with_reducible refine max_le ?_)); decide) | (simp only [List.length_append, List.length_cons, List.length_nil, List.length_map, ByteArray.size_append]; omega))); (conv => whnf)) | ((first | with_reducible refine isIf1 ?_ | with_reducible refine isIf2 ?_ | with_reducible refine isIf3 ?_ | with_reducible refine isIf4 ?_ | with_reducible refine isIf5 ?_ | with_reducible refine isIf6 ?_ | with_reducible refine isIf7 ?_ | with_reducible refine isIf8 ?_ | with_reducible refine ifK_id ?_); first | ((focus (rw [decide_eq_true]; rotate_left; focus (first | rfl | (first | omega | (simp only [List.length_append, List.length_cons, List.length_nil, List.length_map, ByteArray.size_append]; omega))))); (first | with_reducible refine br_true rfl ?_ | with_reducible refine br_false rfl ?_ | skip); (conv => whnf)) | ((focus (rw [decide_eq_false]; rotate_left; focus (first | (first | omega | (simp only [List.length_append, List.length_cons, List.length_nil, List.length_map, ByteArray.size_append]; omega)) | (intro h; cases h)))); (first | with_reducible refine br_true rfl ?_ | with_reducible refine br_false rfl ?_ | skip); (conv => whnf))))
        generalize hzs : us ++ vs.map (moved (a.size + 1)) = zs at *
        have hzl : zs.length = us.length + vs.length := by rw [← hzs]; simp
        have hxl : (us ++ [endTk a]).length = us.length + 1 := by simp
        refine loop_keep [9, 11, 14, 17] ?_
        conv => whnf
        refine loop_go (fun k : Nat => [(20, .v (.int .i64 k))]) (fun _ => []) (fun _ => []) (fun k => k ≤ zs.length) (fun k => zs.length - k) 0 ?_ (Nat.zero_le _) ?_
        · repeat' constructor
        · rintro k hk
          conv => whnf
          by_cases hlt : k < zs.length
          · have hrow : rowOf 4 (Int.toNat (k : Int)) (tksL zs) = tkL zs[k] := rowOf_flat tkL (fun _ => rfl) zs k hlt
            ((first | with_reducible refine isIf1 ?_ | with_reducible refine isIf2 ?_ | with_reducible refine isIf3 ?_ | with_reducible refine isIf4 ?_ | with_reducible refine isIf5 ?_ | with_reducible refine isIf6 ?_ | with_reducible refine isIf7 ?_ | with_reducible refine isIf8 ?_ | with_reducible refine ifK_id ?_); first | ((focus (rw [decide_eq_true]; rotate_left; focus (first | rfl | (first | omega | (simp only [List.length_append, List.length_cons, List.length_nil, List.length_map, ByteArray.size_append]; omega))))); (first | with_reducible refine br_true rfl ?_ | with_reducible refine br_false rfl ?_ | skip); (conv => whnf)) | ((focus (rw [decide_eq_false]; rotate_left; focus (first | (first | omega | (simp only [List.length_append, List.length_cons, List.length_nil, List.length_map, ByteArray.size_append]; omega)) | (intro h; cases h)))); (first | with_reducible refine br_true rfl ?_ | with_reducible refine br_false rfl ?_ | skip); (conv => whnf)))
            by_cases hku : k < us.length
            · repeat (first | ((with_reducible refine And.intro ?_ ?_); (focus (first | omega | (with_reducible refine i64r ?_; (first | omega | (simp only [List.length_append, List.length_cons, List.length_nil, List.length_map, ByteArray.size_append]; omega))) | (with_reducible refine max_le ?_; (first | omega | (simp only [List.length_append, List.length_cons, List.length_nil, List.length_map, ByteArray.size_append]; omega))) | ((fail_if_success (with_reducible refine max_le ?_)); decide) | (simp only [List.length_append, List.length_cons, List.length_nil, List.length_map, ByteArray.size_append]; omega))); (conv => whnf)) | ((first | with_reducible refine isIf1 ?_ | with_reducible refine isIf2 ?_ | with_reducible refine isIf3 ?_ | with_reducible refine isIf4 ?_ | with_reducible refine isIf5 ?_ | with_reducible refine isIf6 ?_ | with_reducible refine isIf7 ?_ | with_reducible refine isIf8 ?_ | with_reducible refine ifK_id ?_); first | ((focus (rw [decide_eq_true]; rotate_left; focus (first | rfl | (first | omega | (simp only [List.length_append, List.length_cons, List.length_nil, List.length_map, ByteArray.size_append]; omega))))); (first | with_reducible refine br_true rfl ?_ | with_reducible refine br_false rfl ?_ | skip); (conv => whnf)) | ((focus (rw [decide_eq_false]; rotate_left; focus (first | (first | omega | (simp only [List.length_append, List.length_cons, List.length_nil, List.length_map, ByteArray.size_append]; omega)) | (intro h; cases h)))); (first | with_reducible refine br_true rfl ?_ | with_reducible refine br_false rfl ?_ | skip); (conv => whnf))))
              (generalize hrq : rowOf _ _ (tksL (us ++ [endTk a])) = rq; obtain rfl : rq = tkL us[k] := hrq.symm.trans (row_tk (i := k) (by simp; omega) (by omega) (by simp [hku])); clear hrq; conv => whnf)
              repeat (first | ((with_reducible refine And.intro ?_ ?_); (focus (first | omega | (with_reducible refine i64r ?_; (first | omega | (simp only [List.length_append, List.length_cons, List.length_nil, List.length_map, ByteArray.size_append]; omega))) | (with_reducible refine max_le ?_; (first | omega | (simp only [List.length_append, List.length_cons, List.length_nil, List.length_map, ByteArray.size_append]; omega))) | ((fail_if_success (with_reducible refine max_le ?_)); decide) | (simp only [List.length_append, List.length_cons, List.length_nil, List.length_map, ByteArray.size_append]; omega))); (conv => whnf)) | ((first | with_reducible refine isIf1 ?_ | with_reducible refine isIf2 ?_ | with_reducible refine isIf3 ?_ | with_reducible refine isIf4 ?_ | with_reducible refine isIf5 ?_ | with_reducible refine isIf6 ?_ | with_reducible refine isIf7 ?_ | with_reducible refine isIf8 ?_ | with_reducible refine ifK_id ?_); first | ((focus (rw [decide_eq_true]; rotate_left; focus (first | rfl | (first | omega | (simp only [List.length_append, List.length_cons, List.length_nil, List.length_map, ByteArray.size_append]; omega))))); (first | with_reducible refine br_true rfl ?_ | with_reducible refine br_false rfl ?_ | skip); (conv => whnf)) | ((focus (rw [decide_eq_false]; rotate_left; focus (first | (first | omega | (simp only [List.length_append, List.length_cons, List.length_nil, List.length_map, ByteArray.size_append]; omega)) | (intro h; cases h)))); (first | with_reducible refine br_true rfl ?_ | with_reducible refine br_false rfl ?_ | skip); (conv => whnf))))
              (generalize hrq : rowOf _ _ (tksL zs) = rq; obtain rfl : rq = tkL us[k] := hrq.symm.trans (row_tk (i := k) hlt (by omega) (by simp [← hzs, hku])); clear hrq; conv => whnf)
              refine ⟨by kernel_rfl, ?_⟩
              conv => whnf
              repeat (first | ((with_reducible refine And.intro ?_ ?_); (focus (first | omega | (with_reducible refine i64r ?_; (first | omega | (simp only [List.length_append, List.length_cons, List.length_nil, List.length_map, ByteArray.size_append]; omega))) | (with_reducible refine max_le ?_; (first | omega | (simp only [List.length_append, List.length_cons, List.length_nil, List.length_map, ByteArray.size_append]; omega))) | ((fail_if_success (with_reducible refine max_le ?_)); decide) | (simp only [List.length_append, List.length_cons, List.length_nil, List.length_map, ByteArray.size_append]; omega))); (conv => whnf)) | ((first | with_reducible refine isIf1 ?_ | with_reducible refine isIf2 ?_ | with_reducible refine isIf3 ?_ | with_reducible refine isIf4 ?_ | with_reducible refine isIf5 ?_ | with_reducible refine isIf6 ?_ | with_reducible refine isIf7 ?_ | with_reducible refine isIf8 ?_ | with_reducible refine ifK_id ?_); first | ((focus (rw [decide_eq_true]; rotate_left; focus (first | rfl | (first | omega | (simp only [List.length_append, List.length_cons, List.length_nil, List.length_map, ByteArray.size_append]; omega))))); (first | with_reducible refine br_true rfl ?_ | with_reducible refine br_false rfl ?_ | skip); (conv => whnf)) | ((focus (rw [decide_eq_false]; rotate_left; focus (first | (first | omega | (simp only [List.length_append, List.length_cons, List.length_nil, List.length_map, ByteArray.size_append]; omega)) | (intro h; cases h)))); (first | with_reducible refine br_true rfl ?_ | with_reducible refine br_false rfl ?_ | skip); (conv => whnf))))
              refine ⟨k + 1, le_head ?_, hlt, by omega⟩
              repeat' constructor
            · have hj : k - us.length < vs.length := by omega
              repeat (first | ((with_reducible refine And.intro ?_ ?_); (focus (first | omega | (with_reducible refine i64r ?_; (first | omega | (simp only [List.length_append, List.length_cons, List.length_nil, List.length_map, ByteArray.size_append]; omega))) | (with_reducible refine max_le ?_; (first | omega | (simp only [List.length_append, List.length_cons, List.length_nil, List.length_map, ByteArray.size_append]; omega))) | ((fail_if_success (with_reducible refine max_le ?_)); decide) | (simp only [List.length_append, List.length_cons, List.length_nil, List.length_map, ByteArray.size_append]; omega))); (conv => whnf)) | ((first | with_reducible refine isIf1 ?_ | with_reducible refine isIf2 ?_ | with_reducible refine isIf3 ?_ | with_reducible refine isIf4 ?_ | with_reducible refine isIf5 ?_ | with_reducible refine isIf6 ?_ | with_reducible refine isIf7 ?_ | with_reducible refine isIf8 ?_ | with_reducible refine ifK_id ?_); first | ((focus (rw [decide_eq_true]; rotate_left; focus (first | rfl | (first | omega | (simp only [List.length_append, List.length_cons, List.length_nil, List.length_map, ByteArray.size_append]; omega))))); (first | with_reducible refine br_true rfl ?_ | with_reducible refine br_false rfl ?_ | skip); (conv => whnf)) | ((focus (rw [decide_eq_false]; rotate_left; focus (first | (first | omega | (simp only [List.length_append, List.length_cons, List.length_nil, List.length_map, ByteArray.size_append]; omega)) | (intro h; cases h)))); (first | with_reducible refine br_true rfl ?_ | with_reducible refine br_false rfl ?_ | skip); (conv => whnf))))
              (generalize hrq : rowOf _ _ (tksL vs) = rq; obtain rfl : rq = tkL vs[k - us.length] := hrq.symm.trans (row_tk hj (by simp only [List.length_append, List.length_cons, List.length_nil]; omega) rfl); clear hrq; conv => whnf)
              have hpos := hvp _ (List.getElem_mem hj)
              have hzk : zs[k] = moved (a.size + 1) vs[k - us.length] := by simp [← hzs, List.getElem_append_right (by omega : us.length ≤ k)]
              generalize vs[k - us.length] = v at *
              repeat (first | ((with_reducible refine And.intro ?_ ?_); (focus (first | omega | (with_reducible refine i64r ?_; (first | omega | (simp only [List.length_append, List.length_cons, List.length_nil, List.length_map, ByteArray.size_append]; omega))) | (with_reducible refine max_le ?_; (first | omega | (simp only [List.length_append, List.length_cons, List.length_nil, List.length_map, ByteArray.size_append]; omega))) | ((fail_if_success (with_reducible refine max_le ?_)); decide) | (simp only [List.length_append, List.length_cons, List.length_nil, List.length_map, ByteArray.size_append]; omega))); (conv => whnf)) | ((first | with_reducible refine isIf1 ?_ | with_reducible refine isIf2 ?_ | with_reducible refine isIf3 ?_ | with_reducible refine isIf4 ?_ | with_reducible refine isIf5 ?_ | with_reducible refine isIf6 ?_ | with_reducible refine isIf7 ?_ | with_reducible refine isIf8 ?_ | with_reducible refine ifK_id ?_); first | ((focus (rw [decide_eq_true]; rotate_left; focus (first | rfl | (first | omega | (simp only [List.length_append, List.length_cons, List.length_nil, List.length_map, ByteArray.size_append]; omega))))); (first | with_reducible refine br_true rfl ?_ | with_reducible refine br_false rfl ?_ | skip); (conv => whnf)) | ((focus (rw [decide_eq_false]; rotate_left; focus (first | (first | omega | (simp only [List.length_append, List.length_cons, List.length_nil, List.length_map, ByteArray.size_append]; omega)) | (intro h; cases h)))); (first | with_reducible refine br_true rfl ?_ | with_reducible refine br_false rfl ?_ | skip); (conv => whnf))))
              (generalize hrq : rowOf _ _ (tksL zs) = rq; obtain rfl : rq = tkL (moved (a.size + 1) v) := hrq.symm.trans (row_tk (i := k) hlt (by omega) hzk); clear hrq; conv => whnf)
              refine ⟨by kernel_rfl, ?_⟩
              conv => whnf
              repeat (first | ((with_reducible refine And.intro ?_ ?_); (focus (first | omega | (with_reducible refine i64r ?_; (first | omega | (simp only [List.length_append, List.length_cons, List.length_nil, List.length_map, ByteArray.size_append]; omega))) | (with_reducible refine max_le ?_; (first | omega | (simp only [List.length_append, List.length_cons, List.length_nil, List.length_map, ByteArray.size_append]; omega))) | ((fail_if_success (with_reducible refine max_le ?_)); decide) | (simp only [List.length_append, List.length_cons, List.length_nil, List.length_map, ByteArray.size_append]; omega))); (conv => whnf)) | ((first | with_reducible refine isIf1 ?_ | with_reducible refine isIf2 ?_ | with_reducible refine isIf3 ?_ | with_reducible refine isIf4 ?_ | with_reducible refine isIf5 ?_ | with_reducible refine isIf6 ?_ | with_reducible refine isIf7 ?_ | with_reducible refine isIf8 ?_ | with_reducible refine ifK_id ?_); first | ((focus (rw [decide_eq_true]; rotate_left; focus (first | rfl | (first | omega | (simp only [List.length_append, List.length_cons, List.length_nil, List.length_map, ByteArray.size_append]; omega))))); (first | with_reducible refine br_true rfl ?_ | with_reducible refine br_false rfl ?_ | skip); (conv => whnf)) | ((focus (rw [decide_eq_false]; rotate_left; focus (first | (first | omega | (simp only [List.length_append, List.length_cons, List.length_nil, List.length_map, ByteArray.size_append]; omega)) | (intro h; cases h)))); (first | with_reducible refine br_true rfl ?_ | with_reducible refine br_false rfl ?_ | skip); (conv => whnf))))
              refine ⟨k + 1, le_head ?_, hlt, by omega⟩
              repeat' constructor
          · repeat (first | ((with_reducible refine And.intro ?_ ?_); (focus (first | omega | (with_reducible refine i64r ?_; (first | omega | (simp only [List.length_append, List.length_cons, List.length_nil, List.length_map, ByteArray.size_append]; omega))) | (with_reducible refine max_le ?_; (first | omega | (simp only [List.length_append, List.length_cons, List.length_nil, List.length_map, ByteArray.size_append]; omega))) | ((fail_if_success (with_reducible refine max_le ?_)); decide) | (simp only [List.length_append, List.length_cons, List.length_nil, List.length_map, ByteArray.size_append]; omega))); (conv => whnf)) | ((first | with_reducible refine isIf1 ?_ | with_reducible refine isIf2 ?_ | with_reducible refine isIf3 ?_ | with_reducible refine isIf4 ?_ | with_reducible refine isIf5 ?_ | with_reducible refine isIf6 ?_ | with_reducible refine isIf7 ?_ | with_reducible refine isIf8 ?_ | with_reducible refine ifK_id ?_); first | ((focus (rw [decide_eq_true]; rotate_left; focus (first | rfl | (first | omega | (simp only [List.length_append, List.length_cons, List.length_nil, List.length_map, ByteArray.size_append]; omega))))); (first | with_reducible refine br_true rfl ?_ | with_reducible refine br_false rfl ?_ | skip); (conv => whnf)) | ((focus (rw [decide_eq_false]; rotate_left; focus (first | (first | omega | (simp only [List.length_append, List.length_cons, List.length_nil, List.length_map, ByteArray.size_append]; omega)) | (intro h; cases h)))); (first | with_reducible refine br_true rfl ?_ | with_reducible refine br_false rfl ?_ | skip); (conv => whnf))))
            refine call0 [] rfl (fun _ => lives_spec) ?_
            rintro r rfl
            conv => whnf
            rfl
  | false =>
    generalize a0 = a at *
    conv => whnf
    refine call0 [] rfl (fun _ => tokens_spec a (by omega)) ?_
    rintro r rfl
    cases ha : (lexF' a).err with
    | some x =>
      obtain ⟨p, e⟩ := x
      have hx := bad_rng ha
      have hc : lexF' (a ++ ⟨#[10]⟩ ++ b) = lexF' a := by rw [join_lex, ha]
      rw [lexR_bad ha]
      conv => whnf
      refine call0 [] rfl (fun _ => tokens_spec b (by omega)) ?_
      rintro r rfl
      cases hb : (lexF' b).err with
      | some y =>
        obtain ⟨p', e'⟩ := y
        rw [lexR_bad hb]
        conv => whnf
        refine ⟨by show a.size + 1 ≤ maxLen; unfold maxLen; omega, ?_⟩
        conv => whnf
        refine ⟨by rw [ByteArray.size_append]; show a.size + 1 + b.size ≤ maxLen; unfold maxLen; omega, ?_⟩
        conv => whnf
        refine call0 [] rfl (fun _ => tokens_spec _ (by rw [ByteArray.size_append, ByteArray.size_append]; show a.size + 1 + b.size ≤ 1000000000; omega)) ?_
        rintro r rfl
        rw [lexR_bad (by rw [hc]; exact ha)]
        conv => whnf
        refine br_true (by simp [hx.2.1]) ?_
        conv => whnf
        rw [show decide (e = e) = true from decide_eq_true rfl]
        conv => whnf
        rw [show decide ((p : Int) = (p : Int)) = true from decide_eq_true rfl]
        conv => whnf
        refine call0 [] rfl (fun _ => lives_spec) ?_
        rintro r rfl
        conv => whnf
        rfl
      | none =>
        rw [lexR_ok2 hb]
        conv => whnf
        refine ⟨by show a.size + 1 ≤ maxLen; unfold maxLen; omega, ?_⟩
        conv => whnf
        refine ⟨by rw [ByteArray.size_append]; show a.size + 1 + b.size ≤ maxLen; unfold maxLen; omega, ?_⟩
        conv => whnf
        refine call0 [] rfl (fun _ => tokens_spec _ (by rw [ByteArray.size_append, ByteArray.size_append]; show a.size + 1 + b.size ≤ 1000000000; omega)) ?_
        rintro r rfl
        rw [lexR_bad (by rw [hc]; exact ha)]
        conv => whnf
        refine br_true (by simp [hx.2.1]) ?_
        conv => whnf
        rw [show decide (e = e) = true from decide_eq_true rfl]
        conv => whnf
        rw [show decide ((p : Int) = (p : Int)) = true from decide_eq_true rfl]
        conv => whnf
        refine call0 [] rfl (fun _ => lives_spec) ?_
        rintro r rfl
        conv => whnf
        rfl
    | none =>
      have hc : lexF' (a ++ ⟨#[10]⟩ ++ b) = Lx.app (lexF' a).toks ((lexF' b).shift (a.size + 1)) := by rw [join_lex, ha]
      rw [lexR_ok2 ha]
      have hul := toks_len a
      have hvb := toks_len b
      have hul : (lexF' a).toks.length ≤ a.size := by simp only [List.length_append, List.length_cons, List.length_nil] at hul; omega
      generalize (lexF' a).toks = us at *
      conv => whnf
      refine call0 [] rfl (fun _ => tokens_spec b (by omega)) ?_
      rintro r rfl
      cases hb : (lexF' b).err with
      | some y =>
        obtain ⟨p, e⟩ := y
        have hx := bad_rng hb
        rw [lexR_bad hb]
        conv => whnf
        refine ⟨by show a.size + 1 ≤ maxLen; unfold maxLen; omega, ?_⟩
        conv => whnf
        refine ⟨by rw [ByteArray.size_append]; show a.size + 1 + b.size ≤ maxLen; unfold maxLen; omega, ?_⟩
        conv => whnf
        refine call0 [] rfl (fun _ => tokens_spec _ (by rw [ByteArray.size_append, ByteArray.size_append]; show a.size + 1 + b.size ≤ 1000000000; omega)) ?_
        rintro r rfl
        rw [lexR_bad (p := p + (a.size + 1)) (e := e) (by rw [hc]; simp [Lx.app, Lx.shift, hb])]
        conv => whnf
        refine br_true (by simp [hx.2.1]) ?_
        conv => whnf
        repeat (first | ((with_reducible refine And.intro ?_ ?_); (focus (first | omega | (with_reducible refine i64r ?_; (first | omega | (simp only [List.length_append, List.length_cons, List.length_nil, List.length_map, ByteArray.size_append]; omega))) | (with_reducible refine max_le ?_; (first | omega | (simp only [List.length_append, List.length_cons, List.length_nil, List.length_map, ByteArray.size_append]; omega))) | ((fail_if_success (with_reducible refine max_le ?_)); decide) | (simp only [List.length_append, List.length_cons, List.length_nil, List.length_map, ByteArray.size_append]; omega))); (conv => whnf)) | ((first | with_reducible refine isIf1 ?_ | with_reducible refine isIf2 ?_ | with_reducible refine isIf3 ?_ | with_reducible refine isIf4 ?_ | with_reducible refine isIf5 ?_ | with_reducible refine isIf6 ?_ | with_reducible refine isIf7 ?_ | with_reducible refine isIf8 ?_ | with_reducible refine ifK_id ?_); first | ((focus (rw [decide_eq_true]; rotate_left; focus (first | rfl | (first | omega | (simp only [List.length_append, List.length_cons, List.length_nil, List.length_map, ByteArray.size_append]; omega))))); (first | with_reducible refine br_true rfl ?_ | with_reducible refine br_false rfl ?_ | skip); (conv => whnf)) | ((focus (rw [decide_eq_false]; rotate_left; focus (first | (first | omega | (simp only [List.length_append, List.length_cons, List.length_nil, List.length_map, ByteArray.size_append]; omega)) | (intro h; cases h)))); (first | with_reducible refine br_true rfl ?_ | with_reducible refine br_false rfl ?_ | skip); (conv => whnf))))
        refine call0 [] rfl (fun _ => lives_spec) ?_
        rintro r rfl
        conv => whnf
        rfl
      | none =>
        rw [lexR_ok2 hb]
        conv => whnf
        refine ⟨by show a.size + 1 ≤ maxLen; unfold maxLen; omega, ?_⟩
        conv => whnf
        refine ⟨by rw [ByteArray.size_append]; show a.size + 1 + b.size ≤ maxLen; unfold maxLen; omega, ?_⟩
        conv => whnf
        refine call0 [] rfl (fun _ => tokens_spec _ (by rw [ByteArray.size_append, ByteArray.size_append]; show a.size + 1 + b.size ≤ 1000000000; omega)) ?_
        rintro r rfl
        have he := ends_join a b
        rw [lexR_ok2 (by rw [hc]; simp [Lx.app, Lx.shift, hb])]
        have hz : (lexF' (a ++ ⟨#[10]⟩ ++ b)).toks ++ [endTk (a ++ ⟨#[10]⟩ ++ b)] = us ++ ((lexF' b).toks ++ [endTk b]).map (moved (a.size + 1)) := by
          rw [hc, he]
          simp [Lx.app, Lx.shift, moved]
        rw [hz]
        have hvp : ∀ t ∈ (lexF' b).toks ++ [endTk b], t.pos ≤ 1000000000 := toks_pos b (by omega)
        generalize hvs : (lexF' b).toks ++ [endTk b] = vs at *
        have hvl : 1 ≤ vs.length := by rw [← hvs]; simp
        conv => whnf
        repeat (first | ((with_reducible refine And.intro ?_ ?_); (focus (first | omega | (with_reducible refine i64r ?_; (first | omega | (simp only [List.length_append, List.length_cons, List.length_nil, List.length_map, ByteArray.size_append]; omega))) | (with_reducible refine max_le ?_; (first | omega | (simp only [List.length_append, List.length_cons, List.length_nil, List.length_map, ByteArray.size_append]; omega))) | ((fail_if_success (with_reducible refine max_le ?_)); decide) | (simp only [List.length_append, List.length_cons, List.length_nil, List.length_map, ByteArray.size_append]; omega))); (conv => whnf)) | ((first | with_reducible refine isIf1 ?_ | with_reducible refine isIf2 ?_ | with_reducible refine isIf3 ?_ | with_reducible refine isIf4 ?_ | with_reducible refine isIf5 ?_ | with_reducible refine isIf6 ?_ | with_reducible refine isIf7 ?_ | with_reducible refine isIf8 ?_ | with_reducible refine ifK_id ?_); first | ((focus (rw [decide_eq_true]; rotate_left; focus (first | rfl | (first | omega | (simp only [List.length_append, List.length_cons, List.length_nil, List.length_map, ByteArray.size_append]; omega))))); (first | with_reducible refine br_true rfl ?_ | with_reducible refine br_false rfl ?_ | skip); (conv => whnf)) | ((focus (rw [decide_eq_false]; rotate_left; focus (first | (first | omega | (simp only [List.length_append, List.length_cons, List.length_nil, List.length_map, ByteArray.size_append]; omega)) | (intro h; cases h)))); (first | with_reducible refine br_true rfl ?_ | with_reducible refine br_false rfl ?_ | skip); (conv => whnf))))
        generalize hzs : us ++ vs.map (moved (a.size + 1)) = zs at *
        have hzl : zs.length = us.length + vs.length := by rw [← hzs]; simp
        have hxl : (us ++ [endTk a]).length = us.length + 1 := by simp
        refine loop_keep [9, 11, 14, 17] ?_
        conv => whnf
        refine loop_go (fun k : Nat => [(20, .v (.int .i64 k))]) (fun _ => []) (fun _ => []) (fun k => k ≤ zs.length) (fun k => zs.length - k) 0 ?_ (Nat.zero_le _) ?_
        · repeat' constructor
        · rintro k hk
          conv => whnf
          by_cases hlt : k < zs.length
          · have hrow : rowOf 4 (Int.toNat (k : Int)) (tksL zs) = tkL zs[k] := rowOf_flat tkL (fun _ => rfl) zs k hlt
            ((first | with_reducible refine isIf1 ?_ | with_reducible refine isIf2 ?_ | with_reducible refine isIf3 ?_ | with_reducible refine isIf4 ?_ | with_reducible refine isIf5 ?_ | with_reducible refine isIf6 ?_ | with_reducible refine isIf7 ?_ | with_reducible refine isIf8 ?_ | with_reducible refine ifK_id ?_); first | ((focus (rw [decide_eq_true]; rotate_left; focus (first | rfl | (first | omega | (simp only [List.length_append, List.length_cons, List.length_nil, List.length_map, ByteArray.size_append]; omega))))); (first | with_reducible refine br_true rfl ?_ | with_reducible refine br_false rfl ?_ | skip); (conv => whnf)) | ((focus (rw [decide_eq_false]; rotate_left; focus (first | (first | omega | (simp only [List.length_append, List.length_cons, List.length_nil, List.length_map, ByteArray.size_append]; omega)) | (intro h; cases h)))); (first | with_reducible refine br_true rfl ?_ | with_reducible refine br_false rfl ?_ | skip); (conv => whnf)))
            by_cases hku : k < us.length
            · repeat (first | ((with_reducible refine And.intro ?_ ?_); (focus (first | omega | (with_reducible refine i64r ?_; (first | omega | (simp only [List.length_append, List.length_cons, List.length_nil, List.length_map, ByteArray.size_append]; omega))) | (with_reducible refine max_le ?_; (first | omega | (simp only [List.length_append, List.length_cons, List.length_nil, List.length_map, ByteArray.size_append]; omega))) | ((fail_if_success (with_reducible refine max_le ?_)); decide) | (simp only [List.length_append, List.length_cons, List.length_nil, List.length_map, ByteArray.size_append]; omega))); (conv => whnf)) | ((first | with_reducible refine isIf1 ?_ | with_reducible refine isIf2 ?_ | with_reducible refine isIf3 ?_ | with_reducible refine isIf4 ?_ | with_reducible refine isIf5 ?_ | with_reducible refine isIf6 ?_ | with_reducible refine isIf7 ?_ | with_reducible refine isIf8 ?_ | with_reducible refine ifK_id ?_); first | ((focus (rw [decide_eq_true]; rotate_left; focus (first | rfl | (first | omega | (simp only [List.length_append, List.length_cons, List.length_nil, List.length_map, ByteArray.size_append]; omega))))); (first | with_reducible refine br_true rfl ?_ | with_reducible refine br_false rfl ?_ | skip); (conv => whnf)) | ((focus (rw [decide_eq_false]; rotate_left; focus (first | (first | omega | (simp only [List.length_append, List.length_cons, List.length_nil, List.length_map, ByteArray.size_append]; omega)) | (intro h; cases h)))); (first | with_reducible refine br_true rfl ?_ | with_reducible refine br_false rfl ?_ | skip); (conv => whnf))))
              (generalize hrq : rowOf _ _ (tksL (us ++ [endTk a])) = rq; obtain rfl : rq = tkL us[k] := hrq.symm.trans (row_tk (i := k) (by simp; omega) (by omega) (by simp [hku])); clear hrq; conv => whnf)
              repeat (first | ((with_reducible refine And.intro ?_ ?_); (focus (first | omega | (with_reducible refine i64r ?_; (first | omega | (simp only [List.length_append, List.length_cons, List.length_nil, List.length_map, ByteArray.size_append]; omega))) | (with_reducible refine max_le ?_; (first | omega | (simp only [List.length_append, List.length_cons, List.length_nil, List.length_map, ByteArray.size_append]; omega))) | ((fail_if_success (with_reducible refine max_le ?_)); decide) | (simp only [List.length_append, List.length_cons, List.length_nil, List.length_map, ByteArray.size_append]; omega))); (conv => whnf)) | ((first | with_reducible refine isIf1 ?_ | with_reducible refine isIf2 ?_ | with_reducible refine isIf3 ?_ | with_reducible refine isIf4 ?_ | with_reducible refine isIf5 ?_ | with_reducible refine isIf6 ?_ | with_reducible refine isIf7 ?_ | with_reducible refine isIf8 ?_ | with_reducible refine ifK_id ?_); first | ((focus (rw [decide_eq_true]; rotate_left; focus (first | rfl | (first | omega | (simp only [List.length_append, List.length_cons, List.length_nil, List.length_map, ByteArray.size_append]; omega))))); (first | with_reducible refine br_true rfl ?_ | with_reducible refine br_false rfl ?_ | skip); (conv => whnf)) | ((focus (rw [decide_eq_false]; rotate_left; focus (first | (first | omega | (simp only [List.length_append, List.length_cons, List.length_nil, List.length_map, ByteArray.size_append]; omega)) | (intro h; cases h)))); (first | with_reducible refine br_true rfl ?_ | with_reducible refine br_false rfl ?_ | skip); (conv => whnf))))
              (generalize hrq : rowOf _ _ (tksL zs) = rq; obtain rfl : rq = tkL us[k] := hrq.symm.trans (row_tk (i := k) hlt (by omega) (by simp [← hzs, hku])); clear hrq; conv => whnf)
              refine ⟨by kernel_rfl, ?_⟩
              conv => whnf
              repeat (first | ((with_reducible refine And.intro ?_ ?_); (focus (first | omega | (with_reducible refine i64r ?_; (first | omega | (simp only [List.length_append, List.length_cons, List.length_nil, List.length_map, ByteArray.size_append]; omega))) | (with_reducible refine max_le ?_; (first | omega | (simp only [List.length_append, List.length_cons, List.length_nil, List.length_map, ByteArray.size_append]; omega))) | ((fail_if_success (with_reducible refine max_le ?_)); decide) | (simp only [List.length_append, List.length_cons, List.length_nil, List.length_map, ByteArray.size_append]; omega))); (conv => whnf)) | ((first | with_reducible refine isIf1 ?_ | with_reducible refine isIf2 ?_ | with_reducible refine isIf3 ?_ | with_reducible refine isIf4 ?_ | with_reducible refine isIf5 ?_ | with_reducible refine isIf6 ?_ | with_reducible refine isIf7 ?_ | with_reducible refine isIf8 ?_ | with_reducible refine ifK_id ?_); first | ((focus (rw [decide_eq_true]; rotate_left; focus (first | rfl | (first | omega | (simp only [List.length_append, List.length_cons, List.length_nil, List.length_map, ByteArray.size_append]; omega))))); (first | with_reducible refine br_true rfl ?_ | with_reducible refine br_false rfl ?_ | skip); (conv => whnf)) | ((focus (rw [decide_eq_false]; rotate_left; focus (first | (first | omega | (simp only [List.length_append, List.length_cons, List.length_nil, List.length_map, ByteArray.size_append]; omega)) | (intro h; cases h)))); (first | with_reducible refine br_true rfl ?_ | with_reducible refine br_false rfl ?_ | skip); (conv => whnf))))
              refine ⟨k + 1, le_head ?_, hlt, by omega⟩
              repeat' constructor
            · have hj : k - us.length < vs.length := by omega
              repeat (first | ((with_reducible refine And.intro ?_ ?_); (focus (first | omega | (with_reducible refine i64r ?_; (first | omega | (simp only [List.length_append, List.length_cons, List.length_nil, List.length_map, ByteArray.size_append]; omega))) | (with_reducible refine max_le ?_; (first | omega | (simp only [List.length_append, List.length_cons, List.length_nil, List.length_map, ByteArray.size_append]; omega))) | ((fail_if_success (with_reducible refine max_le ?_)); decide) | (simp only [List.length_append, List.length_cons, List.length_nil, List.length_map, ByteArray.size_append]; omega))); (conv => whnf)) | ((first | with_reducible refine isIf1 ?_ | with_reducible refine isIf2 ?_ | with_reducible refine isIf3 ?_ | with_reducible refine isIf4 ?_ | with_reducible refine isIf5 ?_ | with_reducible refine isIf6 ?_ | with_reducible refine isIf7 ?_ | with_reducible refine isIf8 ?_ | with_reducible refine ifK_id ?_); first | ((focus (rw [decide_eq_true]; rotate_left; focus (first | rfl | (first | omega | (simp only [List.length_append, List.length_cons, List.length_nil, List.length_map, ByteArray.size_append]; omega))))); (first | with_reducible refine br_true rfl ?_ | with_reducible refine br_false rfl ?_ | skip); (conv => whnf)) | ((focus (rw [decide_eq_false]; rotate_left; focus (first | (first | omega | (simp only [List.length_append, List.length_cons, List.length_nil, List.length_map, ByteArray.size_append]; omega)) | (intro h; cases h)))); (first | with_reducible refine br_true rfl ?_ | with_reducible refine br_false rfl ?_ | skip); (conv => whnf))))
              (generalize hrq : rowOf _ _ (tksL vs) = rq; obtain rfl : rq = tkL vs[k - us.length] := hrq.symm.trans (row_tk hj (by simp only [List.length_append, List.length_cons, List.length_nil]; omega) rfl); clear hrq; conv => whnf)
              have hpos := hvp _ (List.getElem_mem hj)
              have hzk : zs[k] = moved (a.size + 1) vs[k - us.length] := by simp [← hzs, List.getElem_append_right (by omega : us.length ≤ k)]
              generalize vs[k - us.length] = v at *
              repeat (first | ((with_reducible refine And.intro ?_ ?_); (focus (first | omega | (with_reducible refine i64r ?_; (first | omega | (simp only [List.length_append, List.length_cons, List.length_nil, List.length_map, ByteArray.size_append]; omega))) | (with_reducible refine max_le ?_; (first | omega | (simp only [List.length_append, List.length_cons, List.length_nil, List.length_map, ByteArray.size_append]; omega))) | ((fail_if_success (with_reducible refine max_le ?_)); decide) | (simp only [List.length_append, List.length_cons, List.length_nil, List.length_map, ByteArray.size_append]; omega))); (conv => whnf)) | ((first | with_reducible refine isIf1 ?_ | with_reducible refine isIf2 ?_ | with_reducible refine isIf3 ?_ | with_reducible refine isIf4 ?_ | with_reducible refine isIf5 ?_ | with_reducible refine isIf6 ?_ | with_reducible refine isIf7 ?_ | with_reducible refine isIf8 ?_ | with_reducible refine ifK_id ?_); first | ((focus (rw [decide_eq_true]; rotate_left; focus (first | rfl | (first | omega | (simp only [List.length_append, List.length_cons, List.length_nil, List.length_map, ByteArray.size_append]; omega))))); (first | with_reducible refine br_true rfl ?_ | with_reducible refine br_false rfl ?_ | skip); (conv => whnf)) | ((focus (rw [decide_eq_false]; rotate_left; focus (first | (first | omega | (simp only [List.length_append, List.length_cons, List.length_nil, List.length_map, ByteArray.size_append]; omega)) | (intro h; cases h)))); (first | with_reducible refine br_true rfl ?_ | with_reducible refine br_false rfl ?_ | skip); (conv => whnf))))
              (generalize hrq : rowOf _ _ (tksL zs) = rq; obtain rfl : rq = tkL (moved (a.size + 1) v) := hrq.symm.trans (row_tk (i := k) hlt (by omega) hzk); clear hrq; conv => whnf)
              refine ⟨by kernel_rfl, ?_⟩
              conv => whnf
              repeat (first | ((with_reducible refine And.intro ?_ ?_); (focus (first | omega | (with_reducible refine i64r ?_; (first | omega | (simp only [List.length_append, List.length_cons, List.length_nil, List.length_map, ByteArray.size_append]; omega))) | (with_reducible refine max_le ?_; (first | omega | (simp only [List.length_append, List.length_cons, List.length_nil, List.length_map, ByteArray.size_append]; omega))) | ((fail_if_success (with_reducible refine max_le ?_)); decide) | (simp only [List.length_append, List.length_cons, List.length_nil, List.length_map, ByteArray.size_append]; omega))); (conv => whnf)) | ((first | with_reducible refine isIf1 ?_ | with_reducible refine isIf2 ?_ | with_reducible refine isIf3 ?_ | with_reducible refine isIf4 ?_ | with_reducible refine isIf5 ?_ | with_reducible refine isIf6 ?_ | with_reducible refine isIf7 ?_ | with_reducible refine isIf8 ?_ | with_reducible refine ifK_id ?_); first | ((focus (rw [decide_eq_true]; rotate_left; focus (first | rfl | (first | omega | (simp only [List.length_append, List.length_cons, List.length_nil, List.length_map, ByteArray.size_append]; omega))))); (first | with_reducible refine br_true rfl ?_ | with_reducible refine br_false rfl ?_ | skip); (conv => whnf)) | ((focus (rw [decide_eq_false]; rotate_left; focus (first | (first | omega | (simp only [List.length_append, List.length_cons, List.length_nil, List.length_map, ByteArray.size_append]; omega)) | (intro h; cases h)))); (first | with_reducible refine br_true rfl ?_ | with_reducible refine br_false rfl ?_ | skip); (conv => whnf))))
              refine ⟨k + 1, le_head ?_, hlt, by omega⟩
              repeat' constructor
          · repeat (first | ((with_reducible refine And.intro ?_ ?_); (focus (first | omega | (with_reducible refine i64r ?_; (first | omega | (simp only [List.length_append, List.length_cons, List.length_nil, List.length_map, ByteArray.size_append]; omega))) | (with_reducible refine max_le ?_; (first | omega | (simp only [List.length_append, List.length_cons, List.length_nil, List.length_map, ByteArray.size_append]; omega))) | ((fail_if_success (with_reducible refine max_le ?_)); decide) | (simp only [List.length_append, List.length_cons, List.length_nil, List.length_map, ByteArray.size_append]; omega))); (conv => whnf)) | ((first | with_reducible refine isIf1 ?_ | with_reducible refine isIf2 ?_ | with_reducible refine isIf3 ?_ | with_reducible refine isIf4 ?_ | with_reducible refine isIf5 ?_ | with_reducible refine isIf6 ?_ | with_reducible refine isIf7 ?_ | with_reducible refine isIf8 ?_ | with_reducible refine ifK_id ?_); first | ((focus (rw [decide_eq_true]; rotate_left; focus (first | rfl | (first | omega | (simp only [List.length_append, List.length_cons, List.length_nil, List.length_map, ByteArray.size_append]; omega))))); (first | with_reducible refine br_true rfl ?_ | with_reducible refine br_false rfl ?_ | skip); (conv => whnf)) | ((focus (rw [decide_eq_false]; rotate_left; focus (first | (first | omega | (simp only [List.length_append, List.length_cons, List.length_nil, List.length_map, ByteArray.size_append]; omega)) | (intro h; cases h)))); (first | with_reducible refine br_true rfl ?_ | with_reducible refine br_false rfl ?_ | skip); (conv => whnf))))
            refine call0 [] rfl (fun _ => lives_spec) ?_
            rintro r rfl
            conv => whnf
            rfl
end Go.Proofs.YthaccjcadgodlaaDoor.Vm
