/- The reference's Question, QuestionOf, Broken; lives. -/
import Derived.Test.YtinjgckpmblffaaDoorN11
namespace Go.Proofs.YtinjgckpmblffaaDoor.Vm
open Go.RowKit Go.Shelf
set_option linter.unusedSimpArgs false
set_option linter.unusedVariables false
set_option maxRecDepth 100000
theorem questionOf_spec (n m : Int) : Spec Tryd.prog 22 [] [intA n, intA m] fun _ r => ∃ q, wellQ q ∧ r = .agg (qsA q) := by
  refine spec_of (cx_ok ord0 xs0 0) Tryd.func22 rfl (by kernel_rfl) rfl (by kernel_rfl) ?_
  intro hok
  conv => whnf
  refine call0 [] rfl (fun _ => around_spec n 1000000000 (by omega)) ?_
  rintro r ⟨hn, rfl⟩
  have hkr := aroundF_rng (m := 1000000000) hn (by omega)
  obtain ⟨k, hk⟩ : ∃ k : Nat, aroundF n 1000000000 = (k : Int) := ⟨(aroundF n 1000000000).toNat, by omega⟩
  rw [hk] at hkr ⊢
  have e1 : ((k : Int)).tmod 3 = ((k % 3 : Nat) : Int) := tmod_nat k 3 (by decide)
  have e2 : ((k : Int)).tdiv 3 = ((k / 3 : Nat) : Int) := tdiv_nat k 3 (by decide)
  conv => whnf
  refine call0 [] rfl (fun _ => causeOf_spec m) ?_
  rintro r ⟨c, hc, rfl⟩
  unfold causeOk at hc
  conv => whnf
  refine ⟨by decide, ?_⟩
  rw [e1]
  conv => whnf
  repeat (first | ((with_reducible refine And.intro ?_ ?_); (focus (first | omega | (with_reducible refine i64r ?_; (first | omega | (simp only [List.length_append, List.length_cons, List.length_nil, List.length_map, ByteArray.size_append]; omega) | (dsimp only; omega))) | (with_reducible refine max_le ?_; (first | omega | (simp only [List.length_append, List.length_cons, List.length_nil, List.length_map, ByteArray.size_append]; omega) | (dsimp only; omega))) | ((fail_if_success (with_reducible refine max_le ?_)); decide) | (simp only [List.length_append, List.length_cons, List.length_nil, List.length_map, ByteArray.size_append]; omega) | (dsimp only; omega) | ((with_reducible refine i64r ?_); dsimp only; omega))); (conv => whnf)) | ((first | with_reducible refine isIf1 ?_ | with_reducible refine isIf2 ?_ | with_reducible refine isIf3 ?_ | with_reducible refine isIf4 ?_ | with_reducible refine isIf5 ?_ | with_reducible refine isIf6 ?_ | with_reducible refine isIf7 ?_ | with_reducible refine isIf8 ?_ | with_reducible refine ifK_id ?_); first | ((focus (rw [decide_eq_true]; rotate_left; focus (first | (first | omega | (simp only [List.length_append, List.length_cons, List.length_nil, List.length_map, ByteArray.size_append]; omega) | (dsimp only; omega)) | ((with_reducible refine isEq ?_); rfl)))); (first | with_reducible refine br_true rfl ?_ | with_reducible refine br_false rfl ?_ | skip); (conv => whnf)) | ((focus (rw [decide_eq_false]; rotate_left; focus (first | (first | omega | (simp only [List.length_append, List.length_cons, List.length_nil, List.length_map, ByteArray.size_append]; omega) | (dsimp only; omega)) | (intro h; cases h; done)))); (first | with_reducible refine br_true rfl ?_ | with_reducible refine br_false rfl ?_ | skip); (conv => whnf))))
  rw [e2]
  repeat (first | ((with_reducible refine And.intro ?_ ?_); (focus (first | omega | (with_reducible refine i64r ?_; (first | omega | (simp only [List.length_append, List.length_cons, List.length_nil, List.length_map, ByteArray.size_append]; omega) | (dsimp only; omega))) | (with_reducible refine max_le ?_; (first | omega | (simp only [List.length_append, List.length_cons, List.length_nil, List.length_map, ByteArray.size_append]; omega) | (dsimp only; omega))) | ((fail_if_success (with_reducible refine max_le ?_)); decide) | (simp only [List.length_append, List.length_cons, List.length_nil, List.length_map, ByteArray.size_append]; omega) | (dsimp only; omega) | ((with_reducible refine i64r ?_); dsimp only; omega))); (conv => whnf)) | ((first | with_reducible refine isIf1 ?_ | with_reducible refine isIf2 ?_ | with_reducible refine isIf3 ?_ | with_reducible refine isIf4 ?_ | with_reducible refine isIf5 ?_ | with_reducible refine isIf6 ?_ | with_reducible refine isIf7 ?_ | with_reducible refine isIf8 ?_ | with_reducible refine ifK_id ?_); first | ((focus (rw [decide_eq_true]; rotate_left; focus (first | (first | omega | (simp only [List.length_append, List.length_cons, List.length_nil, List.length_map, ByteArray.size_append]; omega) | (dsimp only; omega)) | ((with_reducible refine isEq ?_); rfl)))); (first | with_reducible refine br_true rfl ?_ | with_reducible refine br_false rfl ?_ | skip); (conv => whnf)) | ((focus (rw [decide_eq_false]; rotate_left; focus (first | (first | omega | (simp only [List.length_append, List.length_cons, List.length_nil, List.length_map, ByteArray.size_append]; omega) | (dsimp only; omega)) | (intro h; cases h; done)))); (first | with_reducible refine br_true rfl ?_ | with_reducible refine br_false rfl ?_ | skip); (conv => whnf))))
  refine call0 [] rfl (fun _ => small_spec _) ?_
  rintro r ⟨v, hv, rfl⟩
  conv => whnf
  have hkd : (1 : Int) ≤ 1 + ((k % 3 : Nat) : Int) ∧ (1 : Int) + ((k % 3 : Nat) : Int) ≤ 3 := by omega
  generalize (1 : Int) + ((k % 3 : Nat) : Int) = kd at *
  by_cases k3 : kd = 3
  · repeat (first | ((with_reducible refine And.intro ?_ ?_); (focus (first | omega | (with_reducible refine i64r ?_; (first | omega | (simp only [List.length_append, List.length_cons, List.length_nil, List.length_map, ByteArray.size_append]; omega) | (dsimp only; omega))) | (with_reducible refine max_le ?_; (first | omega | (simp only [List.length_append, List.length_cons, List.length_nil, List.length_map, ByteArray.size_append]; omega) | (dsimp only; omega))) | ((fail_if_success (with_reducible refine max_le ?_)); decide) | (simp only [List.length_append, List.length_cons, List.length_nil, List.length_map, ByteArray.size_append]; omega) | (dsimp only; omega) | ((with_reducible refine i64r ?_); dsimp only; omega))); (conv => whnf)) | ((first | with_reducible refine isIf1 ?_ | with_reducible refine isIf2 ?_ | with_reducible refine isIf3 ?_ | with_reducible refine isIf4 ?_ | with_reducible refine isIf5 ?_ | with_reducible refine isIf6 ?_ | with_reducible refine isIf7 ?_ | with_reducible refine isIf8 ?_ | with_reducible refine ifK_id ?_); first | ((focus (rw [decide_eq_true]; rotate_left; focus (first | (first | omega | (simp only [List.length_append, List.length_cons, List.length_nil, List.length_map, ByteArray.size_append]; omega) | (dsimp only; omega)) | ((with_reducible refine isEq ?_); rfl)))); (first | with_reducible refine br_true rfl ?_ | with_reducible refine br_false rfl ?_ | skip); (conv => whnf)) | ((focus (rw [decide_eq_false]; rotate_left; focus (first | (first | omega | (simp only [List.length_append, List.length_cons, List.length_nil, List.length_map, ByteArray.size_append]; omega) | (dsimp only; omega)) | (intro h; cases h; done)))); (first | with_reducible refine br_true rfl ?_ | with_reducible refine br_false rfl ?_ | skip); (conv => whnf))))
    exact ⟨⟨⟨c.node, 40, c.count⟩, kd, v⟩, ⟨hkd, ⟨hc.1, ⟨by show (0 : Int) ≤ 40; omega, by show (40 : Int) < 41; omega⟩, hc.2.2⟩, hv⟩, rfl⟩
  · repeat (first | ((with_reducible refine And.intro ?_ ?_); (focus (first | omega | (with_reducible refine i64r ?_; (first | omega | (simp only [List.length_append, List.length_cons, List.length_nil, List.length_map, ByteArray.size_append]; omega) | (dsimp only; omega))) | (with_reducible refine max_le ?_; (first | omega | (simp only [List.length_append, List.length_cons, List.length_nil, List.length_map, ByteArray.size_append]; omega) | (dsimp only; omega))) | ((fail_if_success (with_reducible refine max_le ?_)); decide) | (simp only [List.length_append, List.length_cons, List.length_nil, List.length_map, ByteArray.size_append]; omega) | (dsimp only; omega) | ((with_reducible refine i64r ?_); dsimp only; omega))); (conv => whnf)) | ((first | with_reducible refine isIf1 ?_ | with_reducible refine isIf2 ?_ | with_reducible refine isIf3 ?_ | with_reducible refine isIf4 ?_ | with_reducible refine isIf5 ?_ | with_reducible refine isIf6 ?_ | with_reducible refine isIf7 ?_ | with_reducible refine isIf8 ?_ | with_reducible refine ifK_id ?_); first | ((focus (rw [decide_eq_true]; rotate_left; focus (first | (first | omega | (simp only [List.length_append, List.length_cons, List.length_nil, List.length_map, ByteArray.size_append]; omega) | (dsimp only; omega)) | ((with_reducible refine isEq ?_); rfl)))); (first | with_reducible refine br_true rfl ?_ | with_reducible refine br_false rfl ?_ | skip); (conv => whnf)) | ((focus (rw [decide_eq_false]; rotate_left; focus (first | (first | omega | (simp only [List.length_append, List.length_cons, List.length_nil, List.length_map, ByteArray.size_append]; omega) | (dsimp only; omega)) | (intro h; cases h; done)))); (first | with_reducible refine br_true rfl ?_ | with_reducible refine br_false rfl ?_ | skip); (conv => whnf))))
    exact ⟨⟨c, kd, v⟩, ⟨hkd, ⟨hc.1, ⟨hc.2.1.1, by show c.handler < 41; omega⟩, hc.2.2⟩, hv⟩, rfl⟩
theorem qsI_well {q : Qs} (h : wellQ q) : qsI q := by
  unfold wellQ causeOk numOk at h
  unfold qsI
  exact ⟨⟨by omega, by omega⟩, ⟨by omega, by omega⟩, ⟨by omega, by omega⟩, ⟨by omega, by omega⟩, ⟨by omega, by omega⟩⟩
theorem rawq_len {q : Qs} (h : wellQ q) : (rawQ q).length ≤ 1000 := by
  have hI := qsI_well h
  have hwl := (wordq_len h.1.1 h.1.2).1
  have hil := Lib.itoa_length_le q.index hI.2.2.2.2.1 hI.2.2.2.2.2
  have hdl := dotsC_len hI.1 hI.2.1 hI.2.2.1
  unfold rawQ
  simp only [List.length_append, List.length_cons]; omega
set_option maxHeartbeats 2000000 in
theorem refQuestion_spec (q : Qs) : Spec Tryd.prog 21 [] [.agg (qsA q)] fun _ r => ∃ t, r = strA (bs t) ∧ Txt (wellQ q) (rawQ q) t := by
  refine spec_of (cx_ok (fun id => match Nat.beq id 5 with | true => .q 0 7 .nil | false => ord21 id) xs0 0) Tryd.func21 rfl (by kernel_rfl) rfl (by kernel_rfl) ?_
  intro hok
  conv => whnf
  refine call0 [] rfl (fun _ => wellQ_spec q) ?_
  rintro r ⟨b, rfl, hb⟩
  cases b with
  | false =>
    conv => whnf
    exact ⟨[], rfl, .inr ⟨fun h => (by have := hb.2 h; cases this), rfl⟩⟩
  | true =>
    have hwell := hb.1 rfl
    have hI := qsI_well hwell
    have hw := qwords_at hwell.1.1 hwell.1.2
    have hwl := (wordq_len hwell.1.1 hwell.1.2).1
    have hil := Lib.itoa_length_le q.index hI.2.2.2.2.1 hI.2.2.2.2.2
    have hdl := dotsC_len hI.1 hI.2.1 hI.2.2.1
    have hraw : rawQ q = wordQ q.kind ++ 32 :: (dots (cDots q.c) ++ 32 :: Lib.itoa q.index) := rfl
    have hws : strsA qWords = [A.v (.string ⟨#[]⟩), A.v (.string ⟨#[100, 114, 97, 119]⟩), A.v (.string ⟨#[116, 105, 99, 107]⟩), A.v (.string ⟨#[107, 101, 101, 112]⟩)] := rfl
    rw [hws] at hw
    have hall : ∀ n ∈ cDots q.c, numOk n := fun n hn => by
      have h2 := hwell.2.1
      unfold causeOk numOk at h2
      simp only [cDots, List.mem_cons, List.not_mem_nil, or_false] at hn
      unfold numOk
      rcases hn with rfl | rfl | rfl <;> omega
    have hX : bs (wordQ q.kind) ++ ⟨#[32]⟩ ++ bs (dots (cDots q.c)) ++ ⟨#[32]⟩ ++ bs (Lib.itoa q.index) = bs (rawQ q) := by
      rw [hraw, show (⟨#[32]⟩ : ByteArray) = bs [32] from rfl, bs_app, bs_app, bs_app, bs_app]
      simp
    have hkr := hwell.1
    generalize wordQ q.kind = wd at *
    conv => whnf
    (refine call0 [0] rfl (fun _ => refDots_spec (cDots q.c) (by simp [cDots]) hall) ?_; rintro r rfl; conv => whnf)
    repeat (apply flow_go; (focus ((conv => whnf); exact ⟨rfl, rfl, rfl⟩)); (conv => whnf))
    apply flow_go
    · conv => whnf
      refine ⟨by omega, ?_⟩
      generalize hrq : rowOf _ _ _ = rq
      obtain rfl : rq = [A.v (.string (bs wd))] := hrq.symm.trans hw
      exact ⟨rfl, rfl, rfl⟩
    conv => whnf
    repeat (apply flow_go; (focus ((conv => whnf); exact ⟨rfl, rfl, rfl⟩)); (conv => whnf))
    apply flow_go
    · conv => whnf
      refine ⟨sz_max (by rw [bs_size, sp_size]; omega), ?_⟩
      exact ⟨rfl, rfl, rfl⟩
    conv => whnf
    repeat (apply flow_go; (focus ((conv => whnf); exact ⟨rfl, rfl, rfl⟩)); (conv => whnf))
    apply flow_go
    · conv => whnf
      refine ⟨sz_max (by simp only [ByteArray.size_append, bs_size, sp_size]; omega), ?_⟩
      exact ⟨rfl, rfl, rfl⟩
    conv => whnf
    repeat (apply flow_go; (focus ((conv => whnf); exact ⟨rfl, rfl, rfl⟩)); (conv => whnf))
    apply flow_go
    · conv => whnf
      refine ⟨sz_max (by simp only [ByteArray.size_append, bs_size, sp_size]; omega), ?_⟩
      exact ⟨rfl, rfl, rfl⟩
    conv => whnf
    repeat (apply flow_go; (focus ((conv => whnf); exact ⟨rfl, rfl, rfl⟩)); (conv => whnf))
    (apply flow_go; (focus ((conv => whnf); refine call0 [] rfl (fun _ => dec_spec q.index hwell.2.2) ?_; rintro r rfl; (conv => whnf); exact ⟨rfl, rfl, rfl⟩)); (conv => whnf))
    repeat (apply flow_go; (focus ((conv => whnf); exact ⟨rfl, rfl, rfl⟩)); (conv => whnf))
    apply flow_go
    · conv => whnf
      refine ⟨sz_max (by simp only [ByteArray.size_append, bs_size, sp_size]; omega), ?_⟩
      exact ⟨rfl, rfl, rfl⟩
    conv => whnf
    repeat (apply flow_go; (focus ((conv => whnf); exact ⟨rfl, rfl, rfl⟩)); (conv => whnf))
    exact ⟨rawQ q, by rw [← hX]; rfl, .inl ⟨hwell, rfl⟩⟩
/-! ### lives -/
def liveE : Ev := ⟨3, 2, 0, ⟨⟨1, 12, 0⟩, 3, 0⟩⟩
def liveQ : Qs := ⟨⟨0, 1, 2⟩, 1, 3⟩
theorem itoa_one (n : Nat) (h : n < 10) : Lib.itoa (n : Int) = [UInt8.ofNat (48 + n)] := by
  unfold Lib.itoa
  rw [if_neg (by omega), Lib.decDigits, dif_pos (by omega)]; rfl
theorem itoa_12 : Lib.itoa 12 = [49, 50] := by
  unfold Lib.itoa
  rw [if_neg (by decide), Lib.decDigits, dif_neg (by decide), show Int.toNat 12 / 10 = 1 from rfl, Lib.decDigits, dif_pos (by decide)]; rfl
theorem liveE_well : wellE liveE := by
  unfold wellE liveE msgOk causeOk numOk
  simp
theorem liveE_raw : bs (rawE liveE) = ⟨#[100, 101, 108, 105, 118, 101, 114, 32, 50, 32, 49, 46, 49, 50, 46, 48, 46, 51, 46, 48]⟩ := by
  have h : rawE liveE = wordE 3 ++ 32 :: (Lib.itoa 2 ++ 32 :: dots [1, 12, 0, 3, 0]) := rfl
  rw [h, dots_join]
  simp only [List.map_cons, List.map_nil, joinC, itoa_12, show Lib.itoa 1 = [49] from itoa_one 1 (by decide), show Lib.itoa 0 = [48] from itoa_one 0 (by decide), show Lib.itoa 2 = [50] from itoa_one 2 (by decide), show Lib.itoa 3 = [51] from itoa_one 3 (by decide)]
  decide +kernel
theorem liveQ_raw : rawQ liveQ = [100, 114, 97, 119, 32, 48, 46, 49, 46, 50, 32, 51] := by
  have h : rawQ liveQ = wordQ 1 ++ 32 :: (dots [0, 1, 2] ++ 32 :: Lib.itoa 3) := rfl
  rw [h, dots_join]
  simp only [List.map_cons, List.map_nil, joinC, show Lib.itoa 1 = [49] from itoa_one 1 (by decide), show Lib.itoa 0 = [48] from itoa_one 0 (by decide), show Lib.itoa 2 = [50] from itoa_one 2 (by decide), show Lib.itoa 3 = [51] from itoa_one 3 (by decide)]
  decide +kernel
theorem liveQ_well : wellQ liveQ := by
  unfold wellQ liveQ causeOk numOk
  simp
theorem crash_bad : parseE [99, 114, 97, 115, 104, 32, 48, 50] = none := by
  cases h : parseE [99, 114, 97, 115, 104, 32, 48, 50] with
  | none => rfl
  | some e =>
    exfalso
    obtain ⟨h1, h2⟩ := parse_back h
    have hs := split_raw (well_kind h1).1 (well_kind h1).2
    rw [h2] at hs
    have hsp : splitC 32 [99, 114, 97, 115, 104, 32, 48, 50] = [[99, 114, 97, 115, 104], [48, 50]] := by decide +kernel
    rw [hsp] at hs
    have key : Lib.itoa e.node = [48, 50] := by
      split at hs
      · have := congrArg List.length hs
        simp at this
      · split at hs
        · exact ((List.cons.inj (List.cons.inj hs).2).1).symm
        · have := congrArg List.length hs
          simp at this
    have hv := numP_itoa e.node
    rw [if_pos ⟨h1.1.1, by have := h1.1.2; omega⟩] at hv
    have hd := digs_val e.node.toNat e.node.toNat (Nat.le_refl _)
    have e1 : Lib.itoa e.node = Lib.decDigits e.node.toNat := by unfold Lib.itoa; rw [if_neg (by have := h1.1.1; omega)]
    rw [← e1, key] at hd
    have hn : e.node = 2 := by
      have : horner 0 [48, 50] = 2 := by decide
      rw [this] at hd
      have := h1.1.1
      omega
    rw [hn, show Lib.itoa 2 = [50] from itoa_one 2 (by decide)] at key
    exact absurd key (by decide)
set_option maxHeartbeats 2000000 in
theorem lives_spec : Spec Tryd.prog 16 [] [] fun _ r => r = boolA true := by
  refine spec_of (cx_ok ord0 xs0 0) Tryd.func16 rfl (by kernel_rfl) rfl (by kernel_rfl) ?_
  intro hok
  conv => whnf
  refine call0 [] rfl (fun _ => parseE_spec ⟨#[99, 114, 97, 115, 104, 32, 48, 50]⟩ (by decide)) ?_
  rintro r rfl
  rw [show (⟨#[99, 114, 97, 115, 104, 32, 48, 50]⟩ : ByteArray).data.toList = [99, 114, 97, 115, 104, 32, 48, 50] from rfl, crash_bad]
  conv => whnf
  have hq := (parse_rawQ (q := liveQ) (by decide) (by decide)).2 liveQ_well
  rw [liveQ_raw] at hq
  refine call0 [] rfl (fun _ => parseQ_spec ⟨#[100, 114, 97, 119, 32, 48, 46, 49, 46, 50, 32, 51]⟩ (by decide)) ?_
  rintro r rfl
  rw [show (⟨#[100, 114, 97, 119, 32, 48, 46, 49, 46, 50, 32, 51]⟩ : ByteArray).data.toList = [100, 114, 97, 119, 32, 48, 46, 49, 46, 50, 32, 51] from rfl, hq]
  conv => whnf
  refine call0 [] rfl (fun _ => event_spec liveE) ?_
  rintro r ⟨t, rfl, ht⟩
  obtain rfl : t = rawE liveE := by
    rcases ht with h | h
    · exact h.2
    · exact absurd liveE_well h.1
  rw [liveE_raw]
  conv => whnf
  refine ⟨by kernel_rfl, ?_⟩
  conv => whnf
  refine call0 [] rfl (fun _ => evt_spec liveE ev0) ?_
  rintro r rfl
  rw [show cmpL (eKey liveE) (eKey ev0) = 1 from by decide]
  conv => whnf
  rfl
end Go.Proofs.YtinjgckpmblffaaDoor.Vm
