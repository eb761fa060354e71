/- The laws NamesEventText, NamesQuestionText, NamesIllFormed, NamesDistinct: their walks. -/
import Derived.Test.YtinjgckpmblffaaDoorN12
namespace Go.Proofs.YtinjgckpmblffaaDoor.Vm
open Go.RowKit Go.Shelf
set_option linter.unusedSimpArgs false
set_option linter.unusedVariables false
set_option maxRecDepth 100000
noncomputable def evT (e : Ev) : List UInt8 := @ite _ (wellE e) (Classical.propDecidable _) (rawE e) []
noncomputable def qsT (q : Qs) : List UInt8 := @ite _ (wellQ q) (Classical.propDecidable _) (rawQ q) []
theorem evT_txt (e : Ev) : Txt (wellE e) (rawE e) (evT e) := by
  unfold evT Txt
  by_cases h : wellE e
  · exact .inl ⟨h, if_pos h⟩
  · exact .inr ⟨h, if_neg h⟩
theorem qsT_txt (q : Qs) : Txt (wellQ q) (rawQ q) (qsT q) := by
  unfold qsT Txt
  by_cases h : wellQ q
  · exact .inl ⟨h, if_pos h⟩
  · exact .inr ⟨h, if_neg h⟩
theorem evT_well {e : Ev} (h : wellE e) : evT e = rawE e := if_pos h
theorem qsT_well {q : Qs} (h : wellQ q) : qsT q = rawQ q := if_pos h
theorem event_det (e : Ev) : Spec Tryd.prog 18 [] [.agg (evA e)] fun _ r => r = strA (bs (evT e)) := (event_spec e).mono fun _ r ⟨t, h, k⟩ => h.trans (by rw [k.same (evT_txt e)])
theorem refEvent_det (e : Ev) : Spec Tryd.prog 20 [] [.agg (evA e)] fun _ r => r = strA (bs (evT e)) := (refEvent_spec e).mono fun _ r ⟨t, h, k⟩ => h.trans (by rw [k.same (evT_txt e)])
theorem question_det (q : Qs) : Spec Tryd.prog 30 [] [.agg (qsA q)] fun _ r => r = strA (bs (qsT q)) := (question_spec q).mono fun _ r ⟨t, h, k⟩ => h.trans (by rw [k.same (qsT_txt q)])
theorem refQuestion_det (q : Qs) : Spec Tryd.prog 21 [] [.agg (qsA q)] fun _ r => r = strA (bs (qsT q)) := (refQuestion_spec q).mono fun _ r ⟨t, h, k⟩ => h.trans (by rw [k.same (qsT_txt q)])
theorem eventText_law_spec (n m : Int) : Spec Tryd.prog 4 [] [intA n, intA m] fun _ r => r = boolA true := by
  refine spec_of (cx_ok ord0 xs0 0) Tryd.func4 rfl (by kernel_rfl) rfl (by kernel_rfl) ?_
  intro hok
  conv => whnf
  refine call0 [] rfl (fun _ => eventOf_spec n m) ?_
  rintro r ⟨e, he, rfl⟩
  have hk := well_kind he
  have hp := (parse_raw hk.1 hk.2).2 he
  have hlen := raw_len he
  have hT := evT_well he
  conv => whnf
  (refine call0 [] rfl (fun _ => event_det e) ?_; rintro r rfl; conv => whnf)
  rw [hT]
  refine call0 [] rfl (fun _ => parseE_spec (bs (rawE e)) (by rw [bs_size]; omega)) ?_
  rintro r rfl
  rw [bs_list, hp]
  conv => whnf
  (refine call0 [] rfl (fun _ => refEvent_det e) ?_; rintro r rfl; conv => whnf)
  rw [hT]
  rw [decide_eq_true rfl]
  conv => whnf
  refine ⟨by kernel_rfl, ?_⟩
  have hq := (evEq_iff e e).2 rfl
  unfold evEq at hq
  rw [hq]
  conv => whnf
  (refine call0 [] rfl (fun _ => lives_spec) ?_; rintro r rfl; conv => whnf)
  rfl
theorem questionText_law_spec (n m : Int) : Spec Tryd.prog 7 [] [intA n, intA m] fun _ r => r = boolA true := by
  refine spec_of (cx_ok ord0 xs0 0) Tryd.func7 rfl (by kernel_rfl) rfl (by kernel_rfl) ?_
  intro hok
  conv => whnf
  refine call0 [] rfl (fun _ => questionOf_spec n m) ?_
  rintro r ⟨q, hq, rfl⟩
  have hp := (parse_rawQ hq.1.1 hq.1.2).2 hq
  have hpe := parseE_rawQ hq.1.1 hq.1.2
  have hlen := rawq_len hq
  have hT := qsT_well hq
  conv => whnf
  (refine call0 [] rfl (fun _ => question_det q) ?_; rintro r rfl; conv => whnf)
  rw [hT]
  refine call0 [] rfl (fun _ => parseQ_spec (bs (rawQ q)) (by rw [bs_size]; omega)) ?_
  rintro r rfl
  rw [bs_list, hp]
  conv => whnf
  refine call0 [] rfl (fun _ => parseE_spec (bs (rawQ q)) (by rw [bs_size]; omega)) ?_
  rintro r rfl
  rw [bs_list, hpe]
  conv => whnf
  (refine call0 [] rfl (fun _ => refQuestion_det q) ?_; rintro r rfl; conv => whnf)
  rw [hT]
  rw [decide_eq_true rfl]
  conv => whnf
  refine ⟨by kernel_rfl, ?_⟩
  have hqq := (qsEq_iff q q).2 rfl
  unfold qsEq at hqq
  rw [hqq]
  conv => whnf
  (refine call0 [] rfl (fun _ => lives_spec) ?_; rintro r rfl; conv => whnf)
  rfl
set_option maxHeartbeats 4000000 in
theorem illFormed_law_spec (e : Ev) (q : Qs) (n m at' v : Int) : Spec Tryd.prog 8 [] [.agg (evA e), .agg (qsA q), intA n, intA m, intA at', intA v] fun _ r => r = boolA true := by
  refine spec_of (cx_ok (fun id => match Nat.beq id 22 with | true => .q 0 7 .nil | false => ord8 id) xs0 0) Tryd.func8 rfl (by kernel_rfl) rfl (by kernel_rfl) ?_
  intro hok
  conv => whnf
  refine call0 [] rfl (fun _ => eventOf_spec n m) ?_
  rintro r ⟨x, _, rfl⟩
  conv => whnf
  refine call0 [] rfl (fun _ => questionOf_spec n m) ?_
  rintro r ⟨y, _, rfl⟩
  conv => whnf
  refine call0 [] rfl (fun _ => around_spec at' 7 (by omega)) ?_
  rintro r ⟨_, rfl⟩
  generalize aroundF at' 7 = k at *
  conv => whnf
  by_cases h0 : k = 0
  · repeat (first | ((with_reducible refine And.intro ?_ ?_); (focus (first | omega | (with_reducible refine i64r ?_; (first | omega | (simp only [List.length_append, List.length_cons, List.length_nil, List.length_map, ByteArray.size_append]; omega) | (dsimp only; omega))) | (with_reducible refine max_le ?_; (first | omega | (simp only [List.length_append, List.length_cons, List.length_nil, List.length_map, ByteArray.size_append]; omega) | (dsimp only; omega))) | ((fail_if_success (with_reducible refine max_le ?_)); decide) | (simp only [List.length_append, List.length_cons, List.length_nil, List.length_map, ByteArray.size_append]; omega) | (dsimp only; omega) | ((with_reducible refine i64r ?_); dsimp only; omega))); (conv => whnf)) | ((first | with_reducible refine isIf1 ?_ | with_reducible refine isIf2 ?_ | with_reducible refine isIf3 ?_ | with_reducible refine isIf4 ?_ | with_reducible refine isIf5 ?_ | with_reducible refine isIf6 ?_ | with_reducible refine isIf7 ?_ | with_reducible refine isIf8 ?_ | with_reducible refine ifK_id ?_); first | ((focus (rw [decide_eq_true]; rotate_left; focus (first | (first | omega | (simp only [List.length_append, List.length_cons, List.length_nil, List.length_map, ByteArray.size_append]; omega) | (dsimp only; omega)) | ((with_reducible refine isEq ?_); rfl)))); (first | with_reducible refine br_true rfl ?_ | with_reducible refine br_false rfl ?_ | skip); (conv => whnf)) | ((focus (rw [decide_eq_false]; rotate_left; focus (first | (first | omega | (simp only [List.length_append, List.length_cons, List.length_nil, List.length_map, ByteArray.size_append]; omega) | (dsimp only; omega)) | (intro h; cases h; done)))); (first | with_reducible refine br_true rfl ?_ | with_reducible refine br_false rfl ?_ | skip); (conv => whnf))))
    conv => whnf
    (iterate 1 (apply flow_go; (focus ((conv => whnf); exact ⟨rfl, rfl, rfl⟩)); (conv => whnf)))
    (apply flow_go; (focus ((conv => whnf); refine call0 [] rfl (fun _ => event_det e) ?_; rintro r rfl; (conv => whnf); exact ⟨rfl, rfl, rfl⟩)); (conv => whnf))
    (iterate 1 (apply flow_go; (focus ((conv => whnf); exact ⟨rfl, rfl, rfl⟩)); (conv => whnf)))
    (apply flow_go; (focus ((conv => whnf); refine call0 [] rfl (fun _ => refEvent_det e) ?_; rintro r rfl; (conv => whnf); exact ⟨rfl, rfl, rfl⟩)); (conv => whnf))
    (apply flow_go; (focus ((conv => whnf); rw [decide_eq_true rfl]; exact ⟨rfl, rfl, rfl⟩)); (conv => whnf))
    (iterate 2 (apply flow_go; (focus ((conv => whnf); exact ⟨rfl, rfl, rfl⟩)); (conv => whnf)))
    (apply flow_go; (focus ((conv => whnf); refine call0 [] rfl (fun _ => event_det (⟨v, x.node, x.arg, x.msg⟩ : Ev)) ?_; rintro r rfl; (conv => whnf); exact ⟨rfl, rfl, rfl⟩)); (conv => whnf))
    (iterate 1 (apply flow_go; (focus ((conv => whnf); exact ⟨rfl, rfl, rfl⟩)); (conv => whnf)))
    (apply flow_go; (focus ((conv => whnf); refine call0 [] rfl (fun _ => refEvent_det (⟨v, x.node, x.arg, x.msg⟩ : Ev)) ?_; rintro r rfl; (conv => whnf); exact ⟨rfl, rfl, rfl⟩)); (conv => whnf))
    (apply flow_go; (focus ((conv => whnf); rw [decide_eq_true rfl]; exact ⟨rfl, rfl, rfl⟩)); (conv => whnf))
    (iterate 3 (apply flow_go; (focus ((conv => whnf); exact ⟨rfl, rfl, rfl⟩)); (conv => whnf)))
    (apply flow_go; (focus ((conv => whnf); refine call0 [] rfl (fun _ => question_det q) ?_; rintro r rfl; (conv => whnf); exact ⟨rfl, rfl, rfl⟩)); (conv => whnf))
    (iterate 1 (apply flow_go; (focus ((conv => whnf); exact ⟨rfl, rfl, rfl⟩)); (conv => whnf)))
    (apply flow_go; (focus ((conv => whnf); refine call0 [] rfl (fun _ => refQuestion_det q) ?_; rintro r rfl; (conv => whnf); exact ⟨rfl, rfl, rfl⟩)); (conv => whnf))
    (apply flow_go; (focus ((conv => whnf); rw [decide_eq_true rfl]; exact ⟨rfl, rfl, rfl⟩)); (conv => whnf))
    (iterate 3 (apply flow_go; (focus ((conv => whnf); exact ⟨rfl, rfl, rfl⟩)); (conv => whnf)))
    (apply flow_go; (focus ((conv => whnf); refine call0 [] rfl (fun _ => question_det (⟨y.c, v, y.index⟩ : Qs)) ?_; rintro r rfl; (conv => whnf); exact ⟨rfl, rfl, rfl⟩)); (conv => whnf))
    (iterate 1 (apply flow_go; (focus ((conv => whnf); exact ⟨rfl, rfl, rfl⟩)); (conv => whnf)))
    (apply flow_go; (focus ((conv => whnf); refine call0 [] rfl (fun _ => refQuestion_det (⟨y.c, v, y.index⟩ : Qs)) ?_; rintro r rfl; (conv => whnf); exact ⟨rfl, rfl, rfl⟩)); (conv => whnf))
    (apply flow_go; (focus ((conv => whnf); rw [decide_eq_true rfl]; exact ⟨rfl, rfl, rfl⟩)); (conv => whnf))
    (iterate 2 (apply flow_go; (focus ((conv => whnf); exact ⟨rfl, rfl, rfl⟩)); (conv => whnf)))
    (apply flow_go; (focus ((conv => whnf); refine call0 [] rfl (fun _ => lives_spec) ?_; rintro r rfl; (conv => whnf); exact ⟨rfl, rfl, rfl⟩)); (conv => whnf))
    (iterate 2 (apply flow_go; (focus ((conv => whnf); exact ⟨rfl, rfl, rfl⟩)); (conv => whnf)))
    rfl
  · repeat (first | ((with_reducible refine And.intro ?_ ?_); (focus (first | omega | (with_reducible refine i64r ?_; (first | omega | (simp only [List.length_append, List.length_cons, List.length_nil, List.length_map, ByteArray.size_append]; omega) | (dsimp only; omega))) | (with_reducible refine max_le ?_; (first | omega | (simp only [List.length_append, List.length_cons, List.length_nil, List.length_map, ByteArray.size_append]; omega) | (dsimp only; omega))) | ((fail_if_success (with_reducible refine max_le ?_)); decide) | (simp only [List.length_append, List.length_cons, List.length_nil, List.length_map, ByteArray.size_append]; omega) | (dsimp only; omega) | ((with_reducible refine i64r ?_); dsimp only; omega))); (conv => whnf)) | ((first | with_reducible refine isIf1 ?_ | with_reducible refine isIf2 ?_ | with_reducible refine isIf3 ?_ | with_reducible refine isIf4 ?_ | with_reducible refine isIf5 ?_ | with_reducible refine isIf6 ?_ | with_reducible refine isIf7 ?_ | with_reducible refine isIf8 ?_ | with_reducible refine ifK_id ?_); first | ((focus (rw [decide_eq_true]; rotate_left; focus (first | (first | omega | (simp only [List.length_append, List.length_cons, List.length_nil, List.length_map, ByteArray.size_append]; omega) | (dsimp only; omega)) | ((with_reducible refine isEq ?_); rfl)))); (first | with_reducible refine br_true rfl ?_ | with_reducible refine br_false rfl ?_ | skip); (conv => whnf)) | ((focus (rw [decide_eq_false]; rotate_left; focus (first | (first | omega | (simp only [List.length_append, List.length_cons, List.length_nil, List.length_map, ByteArray.size_append]; omega) | (dsimp only; omega)) | (intro h; cases h; done)))); (first | with_reducible refine br_true rfl ?_ | with_reducible refine br_false rfl ?_ | skip); (conv => whnf))))
    by_cases h1 : k = 1
    · repeat (first | ((with_reducible refine And.intro ?_ ?_); (focus (first | omega | (with_reducible refine i64r ?_; (first | omega | (simp only [List.length_append, List.length_cons, List.length_nil, List.length_map, ByteArray.size_append]; omega) | (dsimp only; omega))) | (with_reducible refine max_le ?_; (first | omega | (simp only [List.length_append, List.length_cons, List.length_nil, List.length_map, ByteArray.size_append]; omega) | (dsimp only; omega))) | ((fail_if_success (with_reducible refine max_le ?_)); decide) | (simp only [List.length_append, List.length_cons, List.length_nil, List.length_map, ByteArray.size_append]; omega) | (dsimp only; omega) | ((with_reducible refine i64r ?_); dsimp only; omega))); (conv => whnf)) | ((first | with_reducible refine isIf1 ?_ | with_reducible refine isIf2 ?_ | with_reducible refine isIf3 ?_ | with_reducible refine isIf4 ?_ | with_reducible refine isIf5 ?_ | with_reducible refine isIf6 ?_ | with_reducible refine isIf7 ?_ | with_reducible refine isIf8 ?_ | with_reducible refine ifK_id ?_); first | ((focus (rw [decide_eq_true]; rotate_left; focus (first | (first | omega | (simp only [List.length_append, List.length_cons, List.length_nil, List.length_map, ByteArray.size_append]; omega) | (dsimp only; omega)) | ((with_reducible refine isEq ?_); rfl)))); (first | with_reducible refine br_true rfl ?_ | with_reducible refine br_false rfl ?_ | skip); (conv => whnf)) | ((focus (rw [decide_eq_false]; rotate_left; focus (first | (first | omega | (simp only [List.length_append, List.length_cons, List.length_nil, List.length_map, ByteArray.size_append]; omega) | (dsimp only; omega)) | (intro h; cases h; done)))); (first | with_reducible refine br_true rfl ?_ | with_reducible refine br_false rfl ?_ | skip); (conv => whnf))))
      conv => whnf
      (iterate 1 (apply flow_go; (focus ((conv => whnf); exact ⟨rfl, rfl, rfl⟩)); (conv => whnf)))
      (apply flow_go; (focus ((conv => whnf); refine call0 [] rfl (fun _ => event_det e) ?_; rintro r rfl; (conv => whnf); exact ⟨rfl, rfl, rfl⟩)); (conv => whnf))
      (iterate 1 (apply flow_go; (focus ((conv => whnf); exact ⟨rfl, rfl, rfl⟩)); (conv => whnf)))
      (apply flow_go; (focus ((conv => whnf); refine call0 [] rfl (fun _ => refEvent_det e) ?_; rintro r rfl; (conv => whnf); exact ⟨rfl, rfl, rfl⟩)); (conv => whnf))
      (apply flow_go; (focus ((conv => whnf); rw [decide_eq_true rfl]; exact ⟨rfl, rfl, rfl⟩)); (conv => whnf))
      (iterate 2 (apply flow_go; (focus ((conv => whnf); exact ⟨rfl, rfl, rfl⟩)); (conv => whnf)))
      (apply flow_go; (focus ((conv => whnf); refine call0 [] rfl (fun _ => event_det (⟨x.kind, v, x.arg, x.msg⟩ : Ev)) ?_; rintro r rfl; (conv => whnf); exact ⟨rfl, rfl, rfl⟩)); (conv => whnf))
      (iterate 1 (apply flow_go; (focus ((conv => whnf); exact ⟨rfl, rfl, rfl⟩)); (conv => whnf)))
      (apply flow_go; (focus ((conv => whnf); refine call0 [] rfl (fun _ => refEvent_det (⟨x.kind, v, x.arg, x.msg⟩ : Ev)) ?_; rintro r rfl; (conv => whnf); exact ⟨rfl, rfl, rfl⟩)); (conv => whnf))
      (apply flow_go; (focus ((conv => whnf); rw [decide_eq_true rfl]; exact ⟨rfl, rfl, rfl⟩)); (conv => whnf))
      (iterate 3 (apply flow_go; (focus ((conv => whnf); exact ⟨rfl, rfl, rfl⟩)); (conv => whnf)))
      (apply flow_go; (focus ((conv => whnf); refine call0 [] rfl (fun _ => question_det q) ?_; rintro r rfl; (conv => whnf); exact ⟨rfl, rfl, rfl⟩)); (conv => whnf))
      (iterate 1 (apply flow_go; (focus ((conv => whnf); exact ⟨rfl, rfl, rfl⟩)); (conv => whnf)))
      (apply flow_go; (focus ((conv => whnf); refine call0 [] rfl (fun _ => refQuestion_det q) ?_; rintro r rfl; (conv => whnf); exact ⟨rfl, rfl, rfl⟩)); (conv => whnf))
      (apply flow_go; (focus ((conv => whnf); rw [decide_eq_true rfl]; exact ⟨rfl, rfl, rfl⟩)); (conv => whnf))
      (iterate 3 (apply flow_go; (focus ((conv => whnf); exact ⟨rfl, rfl, rfl⟩)); (conv => whnf)))
      (apply flow_go; (focus ((conv => whnf); refine call0 [] rfl (fun _ => question_det (⟨⟨v, y.c.handler, y.c.count⟩, y.kind, y.index⟩ : Qs)) ?_; rintro r rfl; (conv => whnf); exact ⟨rfl, rfl, rfl⟩)); (conv => whnf))
      (iterate 1 (apply flow_go; (focus ((conv => whnf); exact ⟨rfl, rfl, rfl⟩)); (conv => whnf)))
      (apply flow_go; (focus ((conv => whnf); refine call0 [] rfl (fun _ => refQuestion_det (⟨⟨v, y.c.handler, y.c.count⟩, y.kind, y.index⟩ : Qs)) ?_; rintro r rfl; (conv => whnf); exact ⟨rfl, rfl, rfl⟩)); (conv => whnf))
      (apply flow_go; (focus ((conv => whnf); rw [decide_eq_true rfl]; exact ⟨rfl, rfl, rfl⟩)); (conv => whnf))
      (iterate 2 (apply flow_go; (focus ((conv => whnf); exact ⟨rfl, rfl, rfl⟩)); (conv => whnf)))
      (apply flow_go; (focus ((conv => whnf); refine call0 [] rfl (fun _ => lives_spec) ?_; rintro r rfl; (conv => whnf); exact ⟨rfl, rfl, rfl⟩)); (conv => whnf))
      (iterate 2 (apply flow_go; (focus ((conv => whnf); exact ⟨rfl, rfl, rfl⟩)); (conv => whnf)))
      rfl
    · repeat (first | ((with_reducible refine And.intro ?_ ?_); (focus (first | omega | (with_reducible refine i64r ?_; (first | omega | (simp only [List.length_append, List.length_cons, List.length_nil, List.length_map, ByteArray.size_append]; omega) | (dsimp only; omega))) | (with_reducible refine max_le ?_; (first | omega | (simp only [List.length_append, List.length_cons, List.length_nil, List.length_map, ByteArray.size_append]; omega) | (dsimp only; omega))) | ((fail_if_success (with_reducible refine max_le ?_)); decide) | (simp only [List.length_append, List.length_cons, List.length_nil, List.length_map, ByteArray.size_append]; omega) | (dsimp only; omega) | ((with_reducible refine i64r ?_); dsimp only; omega))); (conv => whnf)) | ((first | with_reducible refine isIf1 ?_ | with_reducible refine isIf2 ?_ | with_reducible refine isIf3 ?_ | with_reducible refine isIf4 ?_ | with_reducible refine isIf5 ?_ | with_reducible refine isIf6 ?_ | with_reducible refine isIf7 ?_ | with_reducible refine isIf8 ?_ | with_reducible refine ifK_id ?_); first | ((focus (rw [decide_eq_true]; rotate_left; focus (first | (first | omega | (simp only [List.length_append, List.length_cons, List.length_nil, List.length_map, ByteArray.size_append]; omega) | (dsimp only; omega)) | ((with_reducible refine isEq ?_); rfl)))); (first | with_reducible refine br_true rfl ?_ | with_reducible refine br_false rfl ?_ | skip); (conv => whnf)) | ((focus (rw [decide_eq_false]; rotate_left; focus (first | (first | omega | (simp only [List.length_append, List.length_cons, List.length_nil, List.length_map, ByteArray.size_append]; omega) | (dsimp only; omega)) | (intro h; cases h; done)))); (first | with_reducible refine br_true rfl ?_ | with_reducible refine br_false rfl ?_ | skip); (conv => whnf))))
      by_cases h2 : k = 2
      · repeat (first | ((with_reducible refine And.intro ?_ ?_); (focus (first | omega | (with_reducible refine i64r ?_; (first | omega | (simp only [List.length_append, List.length_cons, List.length_nil, List.length_map, ByteArray.size_append]; omega) | (dsimp only; omega))) | (with_reducible refine max_le ?_; (first | omega | (simp only [List.length_append, List.length_cons, List.length_nil, List.length_map, ByteArray.size_append]; omega) | (dsimp only; omega))) | ((fail_if_success (with_reducible refine max_le ?_)); decide) | (simp only [List.length_append, List.length_cons, List.length_nil, List.length_map, ByteArray.size_append]; omega) | (dsimp only; omega) | ((with_reducible refine i64r ?_); dsimp only; omega))); (conv => whnf)) | ((first | with_reducible refine isIf1 ?_ | with_reducible refine isIf2 ?_ | with_reducible refine isIf3 ?_ | with_reducible refine isIf4 ?_ | with_reducible refine isIf5 ?_ | with_reducible refine isIf6 ?_ | with_reducible refine isIf7 ?_ | with_reducible refine isIf8 ?_ | with_reducible refine ifK_id ?_); first | ((focus (rw [decide_eq_true]; rotate_left; focus (first | (first | omega | (simp only [List.length_append, List.length_cons, List.length_nil, List.length_map, ByteArray.size_append]; omega) | (dsimp only; omega)) | ((with_reducible refine isEq ?_); rfl)))); (first | with_reducible refine br_true rfl ?_ | with_reducible refine br_false rfl ?_ | skip); (conv => whnf)) | ((focus (rw [decide_eq_false]; rotate_left; focus (first | (first | omega | (simp only [List.length_append, List.length_cons, List.length_nil, List.length_map, ByteArray.size_append]; omega) | (dsimp only; omega)) | (intro h; cases h; done)))); (first | with_reducible refine br_true rfl ?_ | with_reducible refine br_false rfl ?_ | skip); (conv => whnf))))
        conv => whnf
        (iterate 1 (apply flow_go; (focus ((conv => whnf); exact ⟨rfl, rfl, rfl⟩)); (conv => whnf)))
        (apply flow_go; (focus ((conv => whnf); refine call0 [] rfl (fun _ => event_det e) ?_; rintro r rfl; (conv => whnf); exact ⟨rfl, rfl, rfl⟩)); (conv => whnf))
        (iterate 1 (apply flow_go; (focus ((conv => whnf); exact ⟨rfl, rfl, rfl⟩)); (conv => whnf)))
        (apply flow_go; (focus ((conv => whnf); refine call0 [] rfl (fun _ => refEvent_det e) ?_; rintro r rfl; (conv => whnf); exact ⟨rfl, rfl, rfl⟩)); (conv => whnf))
        (apply flow_go; (focus ((conv => whnf); rw [decide_eq_true rfl]; exact ⟨rfl, rfl, rfl⟩)); (conv => whnf))
        (iterate 2 (apply flow_go; (focus ((conv => whnf); exact ⟨rfl, rfl, rfl⟩)); (conv => whnf)))
        (apply flow_go; (focus ((conv => whnf); refine call0 [] rfl (fun _ => event_det (⟨x.kind, x.node, v, x.msg⟩ : Ev)) ?_; rintro r rfl; (conv => whnf); exact ⟨rfl, rfl, rfl⟩)); (conv => whnf))
        (iterate 1 (apply flow_go; (focus ((conv => whnf); exact ⟨rfl, rfl, rfl⟩)); (conv => whnf)))
        (apply flow_go; (focus ((conv => whnf); refine call0 [] rfl (fun _ => refEvent_det (⟨x.kind, x.node, v, x.msg⟩ : Ev)) ?_; rintro r rfl; (conv => whnf); exact ⟨rfl, rfl, rfl⟩)); (conv => whnf))
        (apply flow_go; (focus ((conv => whnf); rw [decide_eq_true rfl]; exact ⟨rfl, rfl, rfl⟩)); (conv => whnf))
        (iterate 3 (apply flow_go; (focus ((conv => whnf); exact ⟨rfl, rfl, rfl⟩)); (conv => whnf)))
        (apply flow_go; (focus ((conv => whnf); refine call0 [] rfl (fun _ => question_det q) ?_; rintro r rfl; (conv => whnf); exact ⟨rfl, rfl, rfl⟩)); (conv => whnf))
        (iterate 1 (apply flow_go; (focus ((conv => whnf); exact ⟨rfl, rfl, rfl⟩)); (conv => whnf)))
        (apply flow_go; (focus ((conv => whnf); refine call0 [] rfl (fun _ => refQuestion_det q) ?_; rintro r rfl; (conv => whnf); exact ⟨rfl, rfl, rfl⟩)); (conv => whnf))
        (apply flow_go; (focus ((conv => whnf); rw [decide_eq_true rfl]; exact ⟨rfl, rfl, rfl⟩)); (conv => whnf))
        (iterate 3 (apply flow_go; (focus ((conv => whnf); exact ⟨rfl, rfl, rfl⟩)); (conv => whnf)))
        (apply flow_go; (focus ((conv => whnf); refine call0 [] rfl (fun _ => question_det (⟨⟨y.c.node, v, y.c.count⟩, y.kind, y.index⟩ : Qs)) ?_; rintro r rfl; (conv => whnf); exact ⟨rfl, rfl, rfl⟩)); (conv => whnf))
        (iterate 1 (apply flow_go; (focus ((conv => whnf); exact ⟨rfl, rfl, rfl⟩)); (conv => whnf)))
        (apply flow_go; (focus ((conv => whnf); refine call0 [] rfl (fun _ => refQuestion_det (⟨⟨y.c.node, v, y.c.count⟩, y.kind, y.index⟩ : Qs)) ?_; rintro r rfl; (conv => whnf); exact ⟨rfl, rfl, rfl⟩)); (conv => whnf))
        (apply flow_go; (focus ((conv => whnf); rw [decide_eq_true rfl]; exact ⟨rfl, rfl, rfl⟩)); (conv => whnf))
        (iterate 2 (apply flow_go; (focus ((conv => whnf); exact ⟨rfl, rfl, rfl⟩)); (conv => whnf)))
        (apply flow_go; (focus ((conv => whnf); refine call0 [] rfl (fun _ => lives_spec) ?_; rintro r rfl; (conv => whnf); exact ⟨rfl, rfl, rfl⟩)); (conv => whnf))
        (iterate 2 (apply flow_go; (focus ((conv => whnf); exact ⟨rfl, rfl, rfl⟩)); (conv => whnf)))
        rfl
      · repeat (first | ((with_reducible refine And.intro ?_ ?_); (focus (first | omega | (with_reducible refine i64r ?_; (first | omega | (simp only [List.length_append, List.length_cons, List.length_nil, List.length_map, ByteArray.size_append]; omega) | (dsimp only; omega))) | (with_reducible refine max_le ?_; (first | omega | (simp only [List.length_append, List.length_cons, List.length_nil, List.length_map, ByteArray.size_append]; omega) | (dsimp only; omega))) | ((fail_if_success (with_reducible refine max_le ?_)); decide) | (simp only [List.length_append, List.length_cons, List.length_nil, List.length_map, ByteArray.size_append]; omega) | (dsimp only; omega) | ((with_reducible refine i64r ?_); dsimp only; omega))); (conv => whnf)) | ((first | with_reducible refine isIf1 ?_ | with_reducible refine isIf2 ?_ | with_reducible refine isIf3 ?_ | with_reducible refine isIf4 ?_ | with_reducible refine isIf5 ?_ | with_reducible refine isIf6 ?_ | with_reducible refine isIf7 ?_ | with_reducible refine isIf8 ?_ | with_reducible refine ifK_id ?_); first | ((focus (rw [decide_eq_true]; rotate_left; focus (first | (first | omega | (simp only [List.length_append, List.length_cons, List.length_nil, List.length_map, ByteArray.size_append]; omega) | (dsimp only; omega)) | ((with_reducible refine isEq ?_); rfl)))); (first | with_reducible refine br_true rfl ?_ | with_reducible refine br_false rfl ?_ | skip); (conv => whnf)) | ((focus (rw [decide_eq_false]; rotate_left; focus (first | (first | omega | (simp only [List.length_append, List.length_cons, List.length_nil, List.length_map, ByteArray.size_append]; omega) | (dsimp only; omega)) | (intro h; cases h; done)))); (first | with_reducible refine br_true rfl ?_ | with_reducible refine br_false rfl ?_ | skip); (conv => whnf))))
        by_cases h3 : k = 3
        · repeat (first | ((with_reducible refine And.intro ?_ ?_); (focus (first | omega | (with_reducible refine i64r ?_; (first | omega | (simp only [List.length_append, List.length_cons, List.length_nil, List.length_map, ByteArray.size_append]; omega) | (dsimp only; omega))) | (with_reducible refine max_le ?_; (first | omega | (simp only [List.length_append, List.length_cons, List.length_nil, List.length_map, ByteArray.size_append]; omega) | (dsimp only; omega))) | ((fail_if_success (with_reducible refine max_le ?_)); decide) | (simp only [List.length_append, List.length_cons, List.length_nil, List.length_map, ByteArray.size_append]; omega) | (dsimp only; omega) | ((with_reducible refine i64r ?_); dsimp only; omega))); (conv => whnf)) | ((first | with_reducible refine isIf1 ?_ | with_reducible refine isIf2 ?_ | with_reducible refine isIf3 ?_ | with_reducible refine isIf4 ?_ | with_reducible refine isIf5 ?_ | with_reducible refine isIf6 ?_ | with_reducible refine isIf7 ?_ | with_reducible refine isIf8 ?_ | with_reducible refine ifK_id ?_); first | ((focus (rw [decide_eq_true]; rotate_left; focus (first | (first | omega | (simp only [List.length_append, List.length_cons, List.length_nil, List.length_map, ByteArray.size_append]; omega) | (dsimp only; omega)) | ((with_reducible refine isEq ?_); rfl)))); (first | with_reducible refine br_true rfl ?_ | with_reducible refine br_false rfl ?_ | skip); (conv => whnf)) | ((focus (rw [decide_eq_false]; rotate_left; focus (first | (first | omega | (simp only [List.length_append, List.length_cons, List.length_nil, List.length_map, ByteArray.size_append]; omega) | (dsimp only; omega)) | (intro h; cases h; done)))); (first | with_reducible refine br_true rfl ?_ | with_reducible refine br_false rfl ?_ | skip); (conv => whnf))))
          conv => whnf
          (iterate 1 (apply flow_go; (focus ((conv => whnf); exact ⟨rfl, rfl, rfl⟩)); (conv => whnf)))
          (apply flow_go; (focus ((conv => whnf); refine call0 [] rfl (fun _ => event_det e) ?_; rintro r rfl; (conv => whnf); exact ⟨rfl, rfl, rfl⟩)); (conv => whnf))
          (iterate 1 (apply flow_go; (focus ((conv => whnf); exact ⟨rfl, rfl, rfl⟩)); (conv => whnf)))
          (apply flow_go; (focus ((conv => whnf); refine call0 [] rfl (fun _ => refEvent_det e) ?_; rintro r rfl; (conv => whnf); exact ⟨rfl, rfl, rfl⟩)); (conv => whnf))
          (apply flow_go; (focus ((conv => whnf); rw [decide_eq_true rfl]; exact ⟨rfl, rfl, rfl⟩)); (conv => whnf))
          (iterate 2 (apply flow_go; (focus ((conv => whnf); exact ⟨rfl, rfl, rfl⟩)); (conv => whnf)))
          (apply flow_go; (focus ((conv => whnf); refine call0 [] rfl (fun _ => event_det (⟨x.kind, x.node, x.arg, ⟨⟨v, x.msg.c.handler, x.msg.c.count⟩, x.msg.index, x.msg.copy⟩⟩ : Ev)) ?_; rintro r rfl; (conv => whnf); exact ⟨rfl, rfl, rfl⟩)); (conv => whnf))
          (iterate 1 (apply flow_go; (focus ((conv => whnf); exact ⟨rfl, rfl, rfl⟩)); (conv => whnf)))
          (apply flow_go; (focus ((conv => whnf); refine call0 [] rfl (fun _ => refEvent_det (⟨x.kind, x.node, x.arg, ⟨⟨v, x.msg.c.handler, x.msg.c.count⟩, x.msg.index, x.msg.copy⟩⟩ : Ev)) ?_; rintro r rfl; (conv => whnf); exact ⟨rfl, rfl, rfl⟩)); (conv => whnf))
          (apply flow_go; (focus ((conv => whnf); rw [decide_eq_true rfl]; exact ⟨rfl, rfl, rfl⟩)); (conv => whnf))
          (iterate 3 (apply flow_go; (focus ((conv => whnf); exact ⟨rfl, rfl, rfl⟩)); (conv => whnf)))
          (apply flow_go; (focus ((conv => whnf); refine call0 [] rfl (fun _ => question_det q) ?_; rintro r rfl; (conv => whnf); exact ⟨rfl, rfl, rfl⟩)); (conv => whnf))
          (iterate 1 (apply flow_go; (focus ((conv => whnf); exact ⟨rfl, rfl, rfl⟩)); (conv => whnf)))
          (apply flow_go; (focus ((conv => whnf); refine call0 [] rfl (fun _ => refQuestion_det q) ?_; rintro r rfl; (conv => whnf); exact ⟨rfl, rfl, rfl⟩)); (conv => whnf))
          (apply flow_go; (focus ((conv => whnf); rw [decide_eq_true rfl]; exact ⟨rfl, rfl, rfl⟩)); (conv => whnf))
          (iterate 3 (apply flow_go; (focus ((conv => whnf); exact ⟨rfl, rfl, rfl⟩)); (conv => whnf)))
          (apply flow_go; (focus ((conv => whnf); refine call0 [] rfl (fun _ => question_det (⟨⟨y.c.node, y.c.handler, v⟩, y.kind, y.index⟩ : Qs)) ?_; rintro r rfl; (conv => whnf); exact ⟨rfl, rfl, rfl⟩)); (conv => whnf))
          (iterate 1 (apply flow_go; (focus ((conv => whnf); exact ⟨rfl, rfl, rfl⟩)); (conv => whnf)))
          (apply flow_go; (focus ((conv => whnf); refine call0 [] rfl (fun _ => refQuestion_det (⟨⟨y.c.node, y.c.handler, v⟩, y.kind, y.index⟩ : Qs)) ?_; rintro r rfl; (conv => whnf); exact ⟨rfl, rfl, rfl⟩)); (conv => whnf))
          (apply flow_go; (focus ((conv => whnf); rw [decide_eq_true rfl]; exact ⟨rfl, rfl, rfl⟩)); (conv => whnf))
          (iterate 2 (apply flow_go; (focus ((conv => whnf); exact ⟨rfl, rfl, rfl⟩)); (conv => whnf)))
          (apply flow_go; (focus ((conv => whnf); refine call0 [] rfl (fun _ => lives_spec) ?_; rintro r rfl; (conv => whnf); exact ⟨rfl, rfl, rfl⟩)); (conv => whnf))
          (iterate 2 (apply flow_go; (focus ((conv => whnf); exact ⟨rfl, rfl, rfl⟩)); (conv => whnf)))
          rfl
        · repeat (first | ((with_reducible refine And.intro ?_ ?_); (focus (first | omega | (with_reducible refine i64r ?_; (first | omega | (simp only [List.length_append, List.length_cons, List.length_nil, List.length_map, ByteArray.size_append]; omega) | (dsimp only; omega))) | (with_reducible refine max_le ?_; (first | omega | (simp only [List.length_append, List.length_cons, List.length_nil, List.length_map, ByteArray.size_append]; omega) | (dsimp only; omega))) | ((fail_if_success (with_reducible refine max_le ?_)); decide) | (simp only [List.length_append, List.length_cons, List.length_nil, List.length_map, ByteArray.size_append]; omega) | (dsimp only; omega) | ((with_reducible refine i64r ?_); dsimp only; omega))); (conv => whnf)) | ((first | with_reducible refine isIf1 ?_ | with_reducible refine isIf2 ?_ | with_reducible refine isIf3 ?_ | with_reducible refine isIf4 ?_ | with_reducible refine isIf5 ?_ | with_reducible refine isIf6 ?_ | with_reducible refine isIf7 ?_ | with_reducible refine isIf8 ?_ | with_reducible refine ifK_id ?_); first | ((focus (rw [decide_eq_true]; rotate_left; focus (first | (first | omega | (simp only [List.length_append, List.length_cons, List.length_nil, List.length_map, ByteArray.size_append]; omega) | (dsimp only; omega)) | ((with_reducible refine isEq ?_); rfl)))); (first | with_reducible refine br_true rfl ?_ | with_reducible refine br_false rfl ?_ | skip); (conv => whnf)) | ((focus (rw [decide_eq_false]; rotate_left; focus (first | (first | omega | (simp only [List.length_append, List.length_cons, List.length_nil, List.length_map, ByteArray.size_append]; omega) | (dsimp only; omega)) | (intro h; cases h; done)))); (first | with_reducible refine br_true rfl ?_ | with_reducible refine br_false rfl ?_ | skip); (conv => whnf))))
          by_cases h4 : k = 4
          · repeat (first | ((with_reducible refine And.intro ?_ ?_); (focus (first | omega | (with_reducible refine i64r ?_; (first | omega | (simp only [List.length_append, List.length_cons, List.length_nil, List.length_map, ByteArray.size_append]; omega) | (dsimp only; omega))) | (with_reducible refine max_le ?_; (first | omega | (simp only [List.length_append, List.length_cons, List.length_nil, List.length_map, ByteArray.size_append]; omega) | (dsimp only; omega))) | ((fail_if_success (with_reducible refine max_le ?_)); decide) | (simp only [List.length_append, List.length_cons, List.length_nil, List.length_map, ByteArray.size_append]; omega) | (dsimp only; omega) | ((with_reducible refine i64r ?_); dsimp only; omega))); (conv => whnf)) | ((first | with_reducible refine isIf1 ?_ | with_reducible refine isIf2 ?_ | with_reducible refine isIf3 ?_ | with_reducible refine isIf4 ?_ | with_reducible refine isIf5 ?_ | with_reducible refine isIf6 ?_ | with_reducible refine isIf7 ?_ | with_reducible refine isIf8 ?_ | with_reducible refine ifK_id ?_); first | ((focus (rw [decide_eq_true]; rotate_left; focus (first | (first | omega | (simp only [List.length_append, List.length_cons, List.length_nil, List.length_map, ByteArray.size_append]; omega) | (dsimp only; omega)) | ((with_reducible refine isEq ?_); rfl)))); (first | with_reducible refine br_true rfl ?_ | with_reducible refine br_false rfl ?_ | skip); (conv => whnf)) | ((focus (rw [decide_eq_false]; rotate_left; focus (first | (first | omega | (simp only [List.length_append, List.length_cons, List.length_nil, List.length_map, ByteArray.size_append]; omega) | (dsimp only; omega)) | (intro h; cases h; done)))); (first | with_reducible refine br_true rfl ?_ | with_reducible refine br_false rfl ?_ | skip); (conv => whnf))))
            conv => whnf
            (iterate 1 (apply flow_go; (focus ((conv => whnf); exact ⟨rfl, rfl, rfl⟩)); (conv => whnf)))
            (apply flow_go; (focus ((conv => whnf); refine call0 [] rfl (fun _ => event_det e) ?_; rintro r rfl; (conv => whnf); exact ⟨rfl, rfl, rfl⟩)); (conv => whnf))
            (iterate 1 (apply flow_go; (focus ((conv => whnf); exact ⟨rfl, rfl, rfl⟩)); (conv => whnf)))
            (apply flow_go; (focus ((conv => whnf); refine call0 [] rfl (fun _ => refEvent_det e) ?_; rintro r rfl; (conv => whnf); exact ⟨rfl, rfl, rfl⟩)); (conv => whnf))
            (apply flow_go; (focus ((conv => whnf); rw [decide_eq_true rfl]; exact ⟨rfl, rfl, rfl⟩)); (conv => whnf))
            (iterate 2 (apply flow_go; (focus ((conv => whnf); exact ⟨rfl, rfl, rfl⟩)); (conv => whnf)))
            (apply flow_go; (focus ((conv => whnf); refine call0 [] rfl (fun _ => event_det (⟨x.kind, x.node, x.arg, ⟨⟨x.msg.c.node, v, x.msg.c.count⟩, x.msg.index, x.msg.copy⟩⟩ : Ev)) ?_; rintro r rfl; (conv => whnf); exact ⟨rfl, rfl, rfl⟩)); (conv => whnf))
            (iterate 1 (apply flow_go; (focus ((conv => whnf); exact ⟨rfl, rfl, rfl⟩)); (conv => whnf)))
            (apply flow_go; (focus ((conv => whnf); refine call0 [] rfl (fun _ => refEvent_det (⟨x.kind, x.node, x.arg, ⟨⟨x.msg.c.node, v, x.msg.c.count⟩, x.msg.index, x.msg.copy⟩⟩ : Ev)) ?_; rintro r rfl; (conv => whnf); exact ⟨rfl, rfl, rfl⟩)); (conv => whnf))
            (apply flow_go; (focus ((conv => whnf); rw [decide_eq_true rfl]; exact ⟨rfl, rfl, rfl⟩)); (conv => whnf))
            (iterate 3 (apply flow_go; (focus ((conv => whnf); exact ⟨rfl, rfl, rfl⟩)); (conv => whnf)))
            (apply flow_go; (focus ((conv => whnf); refine call0 [] rfl (fun _ => question_det q) ?_; rintro r rfl; (conv => whnf); exact ⟨rfl, rfl, rfl⟩)); (conv => whnf))
            (iterate 1 (apply flow_go; (focus ((conv => whnf); exact ⟨rfl, rfl, rfl⟩)); (conv => whnf)))
            (apply flow_go; (focus ((conv => whnf); refine call0 [] rfl (fun _ => refQuestion_det q) ?_; rintro r rfl; (conv => whnf); exact ⟨rfl, rfl, rfl⟩)); (conv => whnf))
            (apply flow_go; (focus ((conv => whnf); rw [decide_eq_true rfl]; exact ⟨rfl, rfl, rfl⟩)); (conv => whnf))
            (iterate 3 (apply flow_go; (focus ((conv => whnf); exact ⟨rfl, rfl, rfl⟩)); (conv => whnf)))
            (apply flow_go; (focus ((conv => whnf); refine call0 [] rfl (fun _ => question_det (⟨y.c, y.kind, v⟩ : Qs)) ?_; rintro r rfl; (conv => whnf); exact ⟨rfl, rfl, rfl⟩)); (conv => whnf))
            (iterate 1 (apply flow_go; (focus ((conv => whnf); exact ⟨rfl, rfl, rfl⟩)); (conv => whnf)))
            (apply flow_go; (focus ((conv => whnf); refine call0 [] rfl (fun _ => refQuestion_det (⟨y.c, y.kind, v⟩ : Qs)) ?_; rintro r rfl; (conv => whnf); exact ⟨rfl, rfl, rfl⟩)); (conv => whnf))
            (apply flow_go; (focus ((conv => whnf); rw [decide_eq_true rfl]; exact ⟨rfl, rfl, rfl⟩)); (conv => whnf))
            (iterate 2 (apply flow_go; (focus ((conv => whnf); exact ⟨rfl, rfl, rfl⟩)); (conv => whnf)))
            (apply flow_go; (focus ((conv => whnf); refine call0 [] rfl (fun _ => lives_spec) ?_; rintro r rfl; (conv => whnf); exact ⟨rfl, rfl, rfl⟩)); (conv => whnf))
            (iterate 2 (apply flow_go; (focus ((conv => whnf); exact ⟨rfl, rfl, rfl⟩)); (conv => whnf)))
            rfl
          · repeat (first | ((with_reducible refine And.intro ?_ ?_); (focus (first | omega | (with_reducible refine i64r ?_; (first | omega | (simp only [List.length_append, List.length_cons, List.length_nil, List.length_map, ByteArray.size_append]; omega) | (dsimp only; omega))) | (with_reducible refine max_le ?_; (first | omega | (simp only [List.length_append, List.length_cons, List.length_nil, List.length_map, ByteArray.size_append]; omega) | (dsimp only; omega))) | ((fail_if_success (with_reducible refine max_le ?_)); decide) | (simp only [List.length_append, List.length_cons, List.length_nil, List.length_map, ByteArray.size_append]; omega) | (dsimp only; omega) | ((with_reducible refine i64r ?_); dsimp only; omega))); (conv => whnf)) | ((first | with_reducible refine isIf1 ?_ | with_reducible refine isIf2 ?_ | with_reducible refine isIf3 ?_ | with_reducible refine isIf4 ?_ | with_reducible refine isIf5 ?_ | with_reducible refine isIf6 ?_ | with_reducible refine isIf7 ?_ | with_reducible refine isIf8 ?_ | with_reducible refine ifK_id ?_); first | ((focus (rw [decide_eq_true]; rotate_left; focus (first | (first | omega | (simp only [List.length_append, List.length_cons, List.length_nil, List.length_map, ByteArray.size_append]; omega) | (dsimp only; omega)) | ((with_reducible refine isEq ?_); rfl)))); (first | with_reducible refine br_true rfl ?_ | with_reducible refine br_false rfl ?_ | skip); (conv => whnf)) | ((focus (rw [decide_eq_false]; rotate_left; focus (first | (first | omega | (simp only [List.length_append, List.length_cons, List.length_nil, List.length_map, ByteArray.size_append]; omega) | (dsimp only; omega)) | (intro h; cases h; done)))); (first | with_reducible refine br_true rfl ?_ | with_reducible refine br_false rfl ?_ | skip); (conv => whnf))))
            by_cases h5 : k = 5
            · repeat (first | ((with_reducible refine And.intro ?_ ?_); (focus (first | omega | (with_reducible refine i64r ?_; (first | omega | (simp only [List.length_append, List.length_cons, List.length_nil, List.length_map, ByteArray.size_append]; omega) | (dsimp only; omega))) | (with_reducible refine max_le ?_; (first | omega | (simp only [List.length_append, List.length_cons, List.length_nil, List.length_map, ByteArray.size_append]; omega) | (dsimp only; omega))) | ((fail_if_success (with_reducible refine max_le ?_)); decide) | (simp only [List.length_append, List.length_cons, List.length_nil, List.length_map, ByteArray.size_append]; omega) | (dsimp only; omega) | ((with_reducible refine i64r ?_); dsimp only; omega))); (conv => whnf)) | ((first | with_reducible refine isIf1 ?_ | with_reducible refine isIf2 ?_ | with_reducible refine isIf3 ?_ | with_reducible refine isIf4 ?_ | with_reducible refine isIf5 ?_ | with_reducible refine isIf6 ?_ | with_reducible refine isIf7 ?_ | with_reducible refine isIf8 ?_ | with_reducible refine ifK_id ?_); first | ((focus (rw [decide_eq_true]; rotate_left; focus (first | (first | omega | (simp only [List.length_append, List.length_cons, List.length_nil, List.length_map, ByteArray.size_append]; omega) | (dsimp only; omega)) | ((with_reducible refine isEq ?_); rfl)))); (first | with_reducible refine br_true rfl ?_ | with_reducible refine br_false rfl ?_ | skip); (conv => whnf)) | ((focus (rw [decide_eq_false]; rotate_left; focus (first | (first | omega | (simp only [List.length_append, List.length_cons, List.length_nil, List.length_map, ByteArray.size_append]; omega) | (dsimp only; omega)) | (intro h; cases h; done)))); (first | with_reducible refine br_true rfl ?_ | with_reducible refine br_false rfl ?_ | skip); (conv => whnf))))
              conv => whnf
              (iterate 1 (apply flow_go; (focus ((conv => whnf); exact ⟨rfl, rfl, rfl⟩)); (conv => whnf)))
              (apply flow_go; (focus ((conv => whnf); refine call0 [] rfl (fun _ => event_det e) ?_; rintro r rfl; (conv => whnf); exact ⟨rfl, rfl, rfl⟩)); (conv => whnf))
              (iterate 1 (apply flow_go; (focus ((conv => whnf); exact ⟨rfl, rfl, rfl⟩)); (conv => whnf)))
              (apply flow_go; (focus ((conv => whnf); refine call0 [] rfl (fun _ => refEvent_det e) ?_; rintro r rfl; (conv => whnf); exact ⟨rfl, rfl, rfl⟩)); (conv => whnf))
              (apply flow_go; (focus ((conv => whnf); rw [decide_eq_true rfl]; exact ⟨rfl, rfl, rfl⟩)); (conv => whnf))
              (iterate 2 (apply flow_go; (focus ((conv => whnf); exact ⟨rfl, rfl, rfl⟩)); (conv => whnf)))
              (apply flow_go; (focus ((conv => whnf); refine call0 [] rfl (fun _ => event_det (⟨x.kind, x.node, x.arg, ⟨x.msg.c, v, x.msg.copy⟩⟩ : Ev)) ?_; rintro r rfl; (conv => whnf); exact ⟨rfl, rfl, rfl⟩)); (conv => whnf))
              (iterate 1 (apply flow_go; (focus ((conv => whnf); exact ⟨rfl, rfl, rfl⟩)); (conv => whnf)))
              (apply flow_go; (focus ((conv => whnf); refine call0 [] rfl (fun _ => refEvent_det (⟨x.kind, x.node, x.arg, ⟨x.msg.c, v, x.msg.copy⟩⟩ : Ev)) ?_; rintro r rfl; (conv => whnf); exact ⟨rfl, rfl, rfl⟩)); (conv => whnf))
              (apply flow_go; (focus ((conv => whnf); rw [decide_eq_true rfl]; exact ⟨rfl, rfl, rfl⟩)); (conv => whnf))
              (iterate 3 (apply flow_go; (focus ((conv => whnf); exact ⟨rfl, rfl, rfl⟩)); (conv => whnf)))
              (apply flow_go; (focus ((conv => whnf); refine call0 [] rfl (fun _ => question_det q) ?_; rintro r rfl; (conv => whnf); exact ⟨rfl, rfl, rfl⟩)); (conv => whnf))
              (iterate 1 (apply flow_go; (focus ((conv => whnf); exact ⟨rfl, rfl, rfl⟩)); (conv => whnf)))
              (apply flow_go; (focus ((conv => whnf); refine call0 [] rfl (fun _ => refQuestion_det q) ?_; rintro r rfl; (conv => whnf); exact ⟨rfl, rfl, rfl⟩)); (conv => whnf))
              (apply flow_go; (focus ((conv => whnf); rw [decide_eq_true rfl]; exact ⟨rfl, rfl, rfl⟩)); (conv => whnf))
              (iterate 3 (apply flow_go; (focus ((conv => whnf); exact ⟨rfl, rfl, rfl⟩)); (conv => whnf)))
              (apply flow_go; (focus ((conv => whnf); refine call0 [] rfl (fun _ => question_det y) ?_; rintro r rfl; (conv => whnf); exact ⟨rfl, rfl, rfl⟩)); (conv => whnf))
              (iterate 1 (apply flow_go; (focus ((conv => whnf); exact ⟨rfl, rfl, rfl⟩)); (conv => whnf)))
              (apply flow_go; (focus ((conv => whnf); refine call0 [] rfl (fun _ => refQuestion_det y) ?_; rintro r rfl; (conv => whnf); exact ⟨rfl, rfl, rfl⟩)); (conv => whnf))
              (apply flow_go; (focus ((conv => whnf); rw [decide_eq_true rfl]; exact ⟨rfl, rfl, rfl⟩)); (conv => whnf))
              (iterate 2 (apply flow_go; (focus ((conv => whnf); exact ⟨rfl, rfl, rfl⟩)); (conv => whnf)))
              (apply flow_go; (focus ((conv => whnf); refine call0 [] rfl (fun _ => lives_spec) ?_; rintro r rfl; (conv => whnf); exact ⟨rfl, rfl, rfl⟩)); (conv => whnf))
              (iterate 2 (apply flow_go; (focus ((conv => whnf); exact ⟨rfl, rfl, rfl⟩)); (conv => whnf)))
              rfl
            · repeat (first | ((with_reducible refine And.intro ?_ ?_); (focus (first | omega | (with_reducible refine i64r ?_; (first | omega | (simp only [List.length_append, List.length_cons, List.length_nil, List.length_map, ByteArray.size_append]; omega) | (dsimp only; omega))) | (with_reducible refine max_le ?_; (first | omega | (simp only [List.length_append, List.length_cons, List.length_nil, List.length_map, ByteArray.size_append]; omega) | (dsimp only; omega))) | ((fail_if_success (with_reducible refine max_le ?_)); decide) | (simp only [List.length_append, List.length_cons, List.length_nil, List.length_map, ByteArray.size_append]; omega) | (dsimp only; omega) | ((with_reducible refine i64r ?_); dsimp only; omega))); (conv => whnf)) | ((first | with_reducible refine isIf1 ?_ | with_reducible refine isIf2 ?_ | with_reducible refine isIf3 ?_ | with_reducible refine isIf4 ?_ | with_reducible refine isIf5 ?_ | with_reducible refine isIf6 ?_ | with_reducible refine isIf7 ?_ | with_reducible refine isIf8 ?_ | with_reducible refine ifK_id ?_); first | ((focus (rw [decide_eq_true]; rotate_left; focus (first | (first | omega | (simp only [List.length_append, List.length_cons, List.length_nil, List.length_map, ByteArray.size_append]; omega) | (dsimp only; omega)) | ((with_reducible refine isEq ?_); rfl)))); (first | with_reducible refine br_true rfl ?_ | with_reducible refine br_false rfl ?_ | skip); (conv => whnf)) | ((focus (rw [decide_eq_false]; rotate_left; focus (first | (first | omega | (simp only [List.length_append, List.length_cons, List.length_nil, List.length_map, ByteArray.size_append]; omega) | (dsimp only; omega)) | (intro h; cases h; done)))); (first | with_reducible refine br_true rfl ?_ | with_reducible refine br_false rfl ?_ | skip); (conv => whnf))))
              conv => whnf
              (iterate 1 (apply flow_go; (focus ((conv => whnf); exact ⟨rfl, rfl, rfl⟩)); (conv => whnf)))
              (apply flow_go; (focus ((conv => whnf); refine call0 [] rfl (fun _ => event_det e) ?_; rintro r rfl; (conv => whnf); exact ⟨rfl, rfl, rfl⟩)); (conv => whnf))
              (iterate 1 (apply flow_go; (focus ((conv => whnf); exact ⟨rfl, rfl, rfl⟩)); (conv => whnf)))
              (apply flow_go; (focus ((conv => whnf); refine call0 [] rfl (fun _ => refEvent_det e) ?_; rintro r rfl; (conv => whnf); exact ⟨rfl, rfl, rfl⟩)); (conv => whnf))
              (apply flow_go; (focus ((conv => whnf); rw [decide_eq_true rfl]; exact ⟨rfl, rfl, rfl⟩)); (conv => whnf))
              (iterate 2 (apply flow_go; (focus ((conv => whnf); exact ⟨rfl, rfl, rfl⟩)); (conv => whnf)))
              (apply flow_go; (focus ((conv => whnf); refine call0 [] rfl (fun _ => event_det (⟨x.kind, x.node, x.arg, ⟨x.msg.c, x.msg.index, v⟩⟩ : Ev)) ?_; rintro r rfl; (conv => whnf); exact ⟨rfl, rfl, rfl⟩)); (conv => whnf))
              (iterate 1 (apply flow_go; (focus ((conv => whnf); exact ⟨rfl, rfl, rfl⟩)); (conv => whnf)))
              (apply flow_go; (focus ((conv => whnf); refine call0 [] rfl (fun _ => refEvent_det (⟨x.kind, x.node, x.arg, ⟨x.msg.c, x.msg.index, v⟩⟩ : Ev)) ?_; rintro r rfl; (conv => whnf); exact ⟨rfl, rfl, rfl⟩)); (conv => whnf))
              (apply flow_go; (focus ((conv => whnf); rw [decide_eq_true rfl]; exact ⟨rfl, rfl, rfl⟩)); (conv => whnf))
              (iterate 3 (apply flow_go; (focus ((conv => whnf); exact ⟨rfl, rfl, rfl⟩)); (conv => whnf)))
              (apply flow_go; (focus ((conv => whnf); refine call0 [] rfl (fun _ => question_det q) ?_; rintro r rfl; (conv => whnf); exact ⟨rfl, rfl, rfl⟩)); (conv => whnf))
              (iterate 1 (apply flow_go; (focus ((conv => whnf); exact ⟨rfl, rfl, rfl⟩)); (conv => whnf)))
              (apply flow_go; (focus ((conv => whnf); refine call0 [] rfl (fun _ => refQuestion_det q) ?_; rintro r rfl; (conv => whnf); exact ⟨rfl, rfl, rfl⟩)); (conv => whnf))
              (apply flow_go; (focus ((conv => whnf); rw [decide_eq_true rfl]; exact ⟨rfl, rfl, rfl⟩)); (conv => whnf))
              (iterate 3 (apply flow_go; (focus ((conv => whnf); exact ⟨rfl, rfl, rfl⟩)); (conv => whnf)))
              (apply flow_go; (focus ((conv => whnf); refine call0 [] rfl (fun _ => question_det y) ?_; rintro r rfl; (conv => whnf); exact ⟨rfl, rfl, rfl⟩)); (conv => whnf))
              (iterate 1 (apply flow_go; (focus ((conv => whnf); exact ⟨rfl, rfl, rfl⟩)); (conv => whnf)))
              (apply flow_go; (focus ((conv => whnf); refine call0 [] rfl (fun _ => refQuestion_det y) ?_; rintro r rfl; (conv => whnf); exact ⟨rfl, rfl, rfl⟩)); (conv => whnf))
              (apply flow_go; (focus ((conv => whnf); rw [decide_eq_true rfl]; exact ⟨rfl, rfl, rfl⟩)); (conv => whnf))
              (iterate 2 (apply flow_go; (focus ((conv => whnf); exact ⟨rfl, rfl, rfl⟩)); (conv => whnf)))
              (apply flow_go; (focus ((conv => whnf); refine call0 [] rfl (fun _ => lives_spec) ?_; rintro r rfl; (conv => whnf); exact ⟨rfl, rfl, rfl⟩)); (conv => whnf))
              (iterate 2 (apply flow_go; (focus ((conv => whnf); exact ⟨rfl, rfl, rfl⟩)); (conv => whnf)))
              rfl
end Go.Proofs.YtinjgckpmblffaaDoor.Vm
