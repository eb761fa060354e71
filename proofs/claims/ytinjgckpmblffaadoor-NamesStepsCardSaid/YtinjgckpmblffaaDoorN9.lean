/- Event and Question of the program: their walks. -/
import Derived.Test.YtinjgckpmblffaaDoorN8
namespace Go.Proofs.YtinjgckpmblffaaDoor.Vm
open Go.RowKit Go.Shelf
set_option linter.unusedSimpArgs false
set_option linter.unusedVariables false
set_option maxRecDepth 100000
def Txt (p : Prop) (x t : List UInt8) : Prop := (p ∧ t = x) ∨ (¬ p ∧ t = [])
theorem Txt.same {p : Prop} {x t u : List UInt8} (h : Txt p x t) (k : Txt p x u) : t = u := by
  rcases h with ⟨h1, rfl⟩ | ⟨h1, rfl⟩ <;> rcases k with ⟨k1, rfl⟩ | ⟨k1, rfl⟩
  · rfl
  · exact absurd h1 k1
  · exact absurd k1 h1
  · rfl
theorem bs_app' (a b : List UInt8) : bs a ++ bs b = bs (a ++ b) := bs_app a b
theorem word_len {k : Int} (h1 : 1 ≤ k) (h7 : k ≤ 7) : (wordE k).length ≤ 10 ∧ eWords.getD k.toNat ⟨#[]⟩ = bs (wordE k) := by
  have : ∀ i : Nat, i < 8 → (eWords.getD i ⟨#[]⟩).data.toList.length ≤ 10 := by decide +kernel
  exact ⟨this k.toNat (by omega), rfl⟩
theorem wordq_len {k : Int} (h1 : 1 ≤ k) (h7 : k ≤ 3) : (wordQ k).length ≤ 10 ∧ qWords.getD k.toNat ⟨#[]⟩ = bs (wordQ k) := by
  have : ∀ i : Nat, i < 4 → (qWords.getD i ⟨#[]⟩).data.toList.length ≤ 10 := by decide +kernel
  exact ⟨this k.toNat (by omega), rfl⟩
theorem itoa_eq (n : Int) : Spec Tryd.prog 40 [] [intA n] fun _ r => r = strA (bs (Lib.itoa n)) := (itoa_spec n).mono fun _ _ h => h.2
theorem sz_max {n : Nat} (h : n ≤ 1000000) : n ≤ maxLen := by unfold maxLen; omega
theorem sp_size : (⟨#[32]⟩ : ByteArray).size = 1 := rfl
def i64 (n : Int) : Prop := -9223372036854775808 ≤ n ∧ n ≤ 9223372036854775807
def evI (e : Ev) : Prop := i64 e.kind ∧ i64 e.node ∧ i64 e.arg ∧ i64 e.msg.c.node ∧ i64 e.msg.c.handler ∧ i64 e.msg.c.count ∧ i64 e.msg.index ∧ i64 e.msg.copy
theorem evI_of {e : Ev} (h : okL (evA e)) : evI e := by
  have g : ∀ n : Int, intA n ∈ evA e → i64 n := fun n hn => okA_int.1 (okL_mem h hn)
  exact ⟨g _ (by simp [evA]), g _ (by simp [evA]), g _ (by simp [evA]), g _ (by simp [evA]), g _ (by simp [evA]), g _ (by simp [evA]), g _ (by simp [evA]), g _ (by simp [evA])⟩
theorem dotsM_len {m : Ms} (h1 : i64 m.c.node) (h2 : i64 m.c.handler) (h3 : i64 m.c.count) (h4 : i64 m.index) (h5 : i64 m.copy) : (dots (mDots m)).length ≤ 200 := by
  have := dots_len (mDots m) (by simp [mDots]) (fun n hn => by
    simp only [mDots, List.mem_cons, List.not_mem_nil, or_false] at hn
    rcases hn with rfl | rfl | rfl | rfl | rfl <;> assumption)
  simp only [mDots, List.length_cons, List.length_nil] at this
  unfold mDots; omega
theorem words_at {k : Int} (h1 : 1 ≤ k) (h7 : k ≤ 7) : rowOf 1 (Int.toNat k) (strsA eWords) = [A.v (.string (bs (wordE k)))] := by
  have hl : k.toNat < eWords.length := by show k.toNat < 8; omega
  rw [rowOf_strs eWords k.toNat hl, ← (word_len h1 h7).2, List.getD_eq_getElem?_getD, List.getElem?_eq_getElem hl]; rfl
set_option maxHeartbeats 2000000 in
theorem event_spec (e : Ev) : Spec Tryd.prog 18 [] [.agg (evA e)] fun _ r => ∃ t, r = strA (bs t) ∧ Txt (wellE e) (rawE e) t := by
  refine spec_of (cx_ok (fun id => match Nat.beq id 4 with | true => .q 0 7 .nil | false => ord18 id) xs0 0) Tryd.func18 rfl (by kernel_rfl) rfl (by kernel_rfl) ?_
  intro hok
  have hI : evI e := evI_of (by have := hok.1; unfold okA at this; exact this)
  conv => whnf
  by_cases h1 : e.kind < 1
  · have hn : ¬ wellE e := fun h => by have := h.2; omega
    repeat (first | ((with_reducible refine And.intro ?_ ?_); (focus (first | omega | (with_reducible refine i64r ?_; (first | omega | (simp only [List.length_append, List.length_cons, List.length_nil, List.length_map, ByteArray.size_append]; omega) | (dsimp only; omega))) | (with_reducible refine max_le ?_; (first | omega | (simp only [List.length_append, List.length_cons, List.length_nil, List.length_map, ByteArray.size_append]; omega) | (dsimp only; omega))) | ((fail_if_success (with_reducible refine max_le ?_)); decide) | (simp only [List.length_append, List.length_cons, List.length_nil, List.length_map, ByteArray.size_append]; omega) | (dsimp only; omega) | ((with_reducible refine i64r ?_); dsimp only; omega))); (conv => whnf)) | ((first | with_reducible refine isIf1 ?_ | with_reducible refine isIf2 ?_ | with_reducible refine isIf3 ?_ | with_reducible refine isIf4 ?_ | with_reducible refine isIf5 ?_ | with_reducible refine isIf6 ?_ | with_reducible refine isIf7 ?_ | with_reducible refine isIf8 ?_ | with_reducible refine ifK_id ?_); first | ((focus (rw [decide_eq_true]; rotate_left; focus (first | (first | omega | (simp only [List.length_append, List.length_cons, List.length_nil, List.length_map, ByteArray.size_append]; omega) | (dsimp only; omega)) | ((with_reducible refine isEq ?_); rfl)))); (first | with_reducible refine br_true rfl ?_ | with_reducible refine br_false rfl ?_ | skip); (conv => whnf)) | ((focus (rw [decide_eq_false]; rotate_left; focus (first | (first | omega | (simp only [List.length_append, List.length_cons, List.length_nil, List.length_map, ByteArray.size_append]; omega) | (dsimp only; omega)) | (intro h; cases h; done)))); (first | with_reducible refine br_true rfl ?_ | with_reducible refine br_false rfl ?_ | skip); (conv => whnf))))
    exact ⟨[], rfl, .inr ⟨hn, rfl⟩⟩
  · by_cases h7 : 7 < e.kind
    · have hn : ¬ wellE e := fun h => by have := h.2; omega
      repeat (first | ((with_reducible refine And.intro ?_ ?_); (focus (first | omega | (with_reducible refine i64r ?_; (first | omega | (simp only [List.length_append, List.length_cons, List.length_nil, List.length_map, ByteArray.size_append]; omega) | (dsimp only; omega))) | (with_reducible refine max_le ?_; (first | omega | (simp only [List.length_append, List.length_cons, List.length_nil, List.length_map, ByteArray.size_append]; omega) | (dsimp only; omega))) | ((fail_if_success (with_reducible refine max_le ?_)); decide) | (simp only [List.length_append, List.length_cons, List.length_nil, List.length_map, ByteArray.size_append]; omega) | (dsimp only; omega) | ((with_reducible refine i64r ?_); dsimp only; omega))); (conv => whnf)) | ((first | with_reducible refine isIf1 ?_ | with_reducible refine isIf2 ?_ | with_reducible refine isIf3 ?_ | with_reducible refine isIf4 ?_ | with_reducible refine isIf5 ?_ | with_reducible refine isIf6 ?_ | with_reducible refine isIf7 ?_ | with_reducible refine isIf8 ?_ | with_reducible refine ifK_id ?_); first | ((focus (rw [decide_eq_true]; rotate_left; focus (first | (first | omega | (simp only [List.length_append, List.length_cons, List.length_nil, List.length_map, ByteArray.size_append]; omega) | (dsimp only; omega)) | ((with_reducible refine isEq ?_); rfl)))); (first | with_reducible refine br_true rfl ?_ | with_reducible refine br_false rfl ?_ | skip); (conv => whnf)) | ((focus (rw [decide_eq_false]; rotate_left; focus (first | (first | omega | (simp only [List.length_append, List.length_cons, List.length_nil, List.length_map, ByteArray.size_append]; omega) | (dsimp only; omega)) | (intro h; cases h; done)))); (first | with_reducible refine br_true rfl ?_ | with_reducible refine br_false rfl ?_ | skip); (conv => whnf))))
      exact ⟨[], rfl, .inr ⟨hn, rfl⟩⟩
    · have hw := words_at (k := e.kind) (by omega) (by omega)
      have hwl := (word_len (k := e.kind) (by omega) (by omega)).1
      have hpr := parse_raw (e := e) (by omega) (by omega)
      have hnl := Lib.itoa_length_le e.node hI.2.1.1 hI.2.1.2
      have hal := Lib.itoa_length_le e.arg hI.2.2.1.1 hI.2.2.1.2
      have hdl := dotsM_len hI.2.2.2.1 hI.2.2.2.2.1 hI.2.2.2.2.2.1 hI.2.2.2.2.2.2.1 hI.2.2.2.2.2.2.2
      repeat (first | ((with_reducible refine And.intro ?_ ?_); (focus (first | omega | (with_reducible refine i64r ?_; (first | omega | (simp only [List.length_append, List.length_cons, List.length_nil, List.length_map, ByteArray.size_append]; omega) | (dsimp only; omega))) | (with_reducible refine max_le ?_; (first | omega | (simp only [List.length_append, List.length_cons, List.length_nil, List.length_map, ByteArray.size_append]; omega) | (dsimp only; omega))) | ((fail_if_success (with_reducible refine max_le ?_)); decide) | (simp only [List.length_append, List.length_cons, List.length_nil, List.length_map, ByteArray.size_append]; omega) | (dsimp only; omega) | ((with_reducible refine i64r ?_); dsimp only; omega))); (conv => whnf)) | ((first | with_reducible refine isIf1 ?_ | with_reducible refine isIf2 ?_ | with_reducible refine isIf3 ?_ | with_reducible refine isIf4 ?_ | with_reducible refine isIf5 ?_ | with_reducible refine isIf6 ?_ | with_reducible refine isIf7 ?_ | with_reducible refine isIf8 ?_ | with_reducible refine ifK_id ?_); first | ((focus (rw [decide_eq_true]; rotate_left; focus (first | (first | omega | (simp only [List.length_append, List.length_cons, List.length_nil, List.length_map, ByteArray.size_append]; omega) | (dsimp only; omega)) | ((with_reducible refine isEq ?_); rfl)))); (first | with_reducible refine br_true rfl ?_ | with_reducible refine br_false rfl ?_ | skip); (conv => whnf)) | ((focus (rw [decide_eq_false]; rotate_left; focus (first | (first | omega | (simp only [List.length_append, List.length_cons, List.length_nil, List.length_map, ByteArray.size_append]; omega) | (dsimp only; omega)) | (intro h; cases h; done)))); (first | with_reducible refine br_true rfl ?_ | with_reducible refine br_false rfl ?_ | skip); (conv => whnf))))
      have hraw : rawE e = wordE e.kind ++ 32 :: (Lib.itoa e.node ++ restE e) := rfl
      (apply flow_go; (focus ((conv => whnf); refine call0 [] rfl (fun _ => eWords_spec) ?_; rintro r rfl; (conv => whnf); exact ⟨rfl, rfl, rfl⟩)); (conv => whnf))
      generalize wordE e.kind = wd at *
      generalize eWords = ws at *
      repeat (apply flow_go; (focus ((conv => whnf); exact ⟨rfl, rfl, rfl⟩)); (conv => whnf))
      (apply flow_go; (focus ((conv => whnf); refine ⟨by omega, ?_⟩; (generalize hrq : rowOf _ _ (strsA ws) = rq; obtain rfl : rq = [.v (.string (bs wd))] := hrq.symm.trans (hw); exact ⟨rfl, rfl, rfl⟩))); (conv => whnf))
      repeat (apply flow_go; (focus ((conv => whnf); exact ⟨rfl, rfl, rfl⟩)); (conv => whnf))
      apply flow_go
      · conv => whnf
        refine ⟨sz_max (by rw [bs_size, sp_size]; omega), ?_⟩
        exact ⟨rfl, rfl, rfl⟩
      conv => whnf
      repeat (apply flow_go; (focus ((conv => whnf); exact ⟨rfl, rfl, rfl⟩)); (conv => whnf))
      (apply flow_go; (focus ((conv => whnf); refine call0 [] rfl (fun _ => itoa_eq e.node) ?_; rintro r rfl; (conv => whnf); exact ⟨rfl, rfl, rfl⟩)); (conv => whnf))
      repeat (apply flow_go; (focus ((conv => whnf); exact ⟨rfl, rfl, rfl⟩)); (conv => whnf))
      apply flow_go
      · conv => whnf
        refine ⟨sz_max (by rw [ByteArray.size_append, bs_size, bs_size, sp_size]; omega), ?_⟩
        exact ⟨rfl, rfl, rfl⟩
      conv => whnf
      repeat (apply flow_go; (focus ((conv => whnf); exact ⟨rfl, rfl, rfl⟩)); (conv => whnf))
      by_cases h3 : e.kind = 3
      · repeat (first | ((with_reducible refine And.intro ?_ ?_); (focus (first | omega | (with_reducible refine i64r ?_; (first | omega | (simp only [List.length_append, List.length_cons, List.length_nil, List.length_map, ByteArray.size_append]; omega) | (dsimp only; omega))) | (with_reducible refine max_le ?_; (first | omega | (simp only [List.length_append, List.length_cons, List.length_nil, List.length_map, ByteArray.size_append]; omega) | (dsimp only; omega))) | ((fail_if_success (with_reducible refine max_le ?_)); decide) | (simp only [List.length_append, List.length_cons, List.length_nil, List.length_map, ByteArray.size_append]; omega) | (dsimp only; omega) | ((with_reducible refine i64r ?_); dsimp only; omega))); (conv => whnf)) | ((first | with_reducible refine isIf1 ?_ | with_reducible refine isIf2 ?_ | with_reducible refine isIf3 ?_ | with_reducible refine isIf4 ?_ | with_reducible refine isIf5 ?_ | with_reducible refine isIf6 ?_ | with_reducible refine isIf7 ?_ | with_reducible refine isIf8 ?_ | with_reducible refine ifK_id ?_); first | ((focus (rw [decide_eq_true]; rotate_left; focus (first | (first | omega | (simp only [List.length_append, List.length_cons, List.length_nil, List.length_map, ByteArray.size_append]; omega) | (dsimp only; omega)) | ((with_reducible refine isEq ?_); rfl)))); (first | with_reducible refine br_true rfl ?_ | with_reducible refine br_false rfl ?_ | skip); (conv => whnf)) | ((focus (rw [decide_eq_false]; rotate_left; focus (first | (first | omega | (simp only [List.length_append, List.length_cons, List.length_nil, List.length_map, ByteArray.size_append]; omega) | (dsimp only; omega)) | (intro h; cases h; done)))); (first | with_reducible refine br_true rfl ?_ | with_reducible refine br_false rfl ?_ | skip); (conv => whnf))))
        (refine call0 [0] rfl (fun _ => dotted_spec (mDots e.msg) (by simp [mDots]) (by simp [mDots])) ?_; rintro r rfl; conv => whnf)
        refine ⟨sz_max (by rw [bs_size, sp_size]; omega), ?_⟩
        conv => whnf
        refine ⟨sz_max (by simp only [ByteArray.size_append, bs_size, sp_size]; omega), ?_⟩
        conv => whnf
        have hX : bs wd ++ ⟨#[32]⟩ ++ bs (Lib.itoa e.node) ++ (⟨#[32]⟩ ++ bs (dots (mDots e.msg))) = bs (rawE e) := by
          rw [hraw, show (⟨#[32]⟩ : ByteArray) = bs [32] from rfl, bs_app, bs_app, bs_app, bs_app]
          unfold restE
          rw [if_pos (by omega)]
          simp
        have hlen : (rawE e).length ≤ 1000 := by
          have := congrArg ByteArray.size hX
          simp only [ByteArray.size_append, bs_size, sp_size] at this
          omega
        rw [show bs wd ++ ⟨#[32]⟩ ++ bs (Lib.itoa e.node) ++ (⟨#[32]⟩ ++ bs (dots (mDots e.msg))) = bs (rawE e) from hX]
        refine call0 [] rfl (fun _ => parseE_spec (bs (rawE e)) (by rw [bs_size]; omega)) ?_
        rintro r rfl
        rw [bs_list]
        cases hp : parseE (rawE e) with
        | none =>
          conv => whnf
          exact ⟨[], rfl, .inr ⟨fun h => (by rw [hpr.2 h] at hp; cases hp), rfl⟩⟩
        | some b =>
          conv => whnf
          refine ⟨by kernel_rfl, ?_⟩
          conv => whnf
          generalize hg : (decide (b.kind = e.kind) && _) = g
          have hg : evEq b e = g := hg
          cases g with
          | true =>
            have := (evEq_iff b e).1 hg
            subst this
            conv => whnf
            exact ⟨rawE b, rfl, .inl ⟨hpr.1 hp, rfl⟩⟩
          | false =>
            conv => whnf
            refine ⟨[], rfl, .inr ⟨fun h => ?_, rfl⟩⟩
            rw [hpr.2 h] at hp
            cases hp
            rw [(evEq_iff e e).2 rfl] at hg
            cases hg
      · repeat (first | ((with_reducible refine And.intro ?_ ?_); (focus (first | omega | (with_reducible refine i64r ?_; (first | omega | (simp only [List.length_append, List.length_cons, List.length_nil, List.length_map, ByteArray.size_append]; omega) | (dsimp only; omega))) | (with_reducible refine max_le ?_; (first | omega | (simp only [List.length_append, List.length_cons, List.length_nil, List.length_map, ByteArray.size_append]; omega) | (dsimp only; omega))) | ((fail_if_success (with_reducible refine max_le ?_)); decide) | (simp only [List.length_append, List.length_cons, List.length_nil, List.length_map, ByteArray.size_append]; omega) | (dsimp only; omega) | ((with_reducible refine i64r ?_); dsimp only; omega))); (conv => whnf)) | ((first | with_reducible refine isIf1 ?_ | with_reducible refine isIf2 ?_ | with_reducible refine isIf3 ?_ | with_reducible refine isIf4 ?_ | with_reducible refine isIf5 ?_ | with_reducible refine isIf6 ?_ | with_reducible refine isIf7 ?_ | with_reducible refine isIf8 ?_ | with_reducible refine ifK_id ?_); first | ((focus (rw [decide_eq_true]; rotate_left; focus (first | (first | omega | (simp only [List.length_append, List.length_cons, List.length_nil, List.length_map, ByteArray.size_append]; omega) | (dsimp only; omega)) | ((with_reducible refine isEq ?_); rfl)))); (first | with_reducible refine br_true rfl ?_ | with_reducible refine br_false rfl ?_ | skip); (conv => whnf)) | ((focus (rw [decide_eq_false]; rotate_left; focus (first | (first | omega | (simp only [List.length_append, List.length_cons, List.length_nil, List.length_map, ByteArray.size_append]; omega) | (dsimp only; omega)) | (intro h; cases h; done)))); (first | with_reducible refine br_true rfl ?_ | with_reducible refine br_false rfl ?_ | skip); (conv => whnf))))
        by_cases h5 : e.kind = 5
        · repeat (first | ((with_reducible refine And.intro ?_ ?_); (focus (first | omega | (with_reducible refine i64r ?_; (first | omega | (simp only [List.length_append, List.length_cons, List.length_nil, List.length_map, ByteArray.size_append]; omega) | (dsimp only; omega))) | (with_reducible refine max_le ?_; (first | omega | (simp only [List.length_append, List.length_cons, List.length_nil, List.length_map, ByteArray.size_append]; omega) | (dsimp only; omega))) | ((fail_if_success (with_reducible refine max_le ?_)); decide) | (simp only [List.length_append, List.length_cons, List.length_nil, List.length_map, ByteArray.size_append]; omega) | (dsimp only; omega) | ((with_reducible refine i64r ?_); dsimp only; omega))); (conv => whnf)) | ((first | with_reducible refine isIf1 ?_ | with_reducible refine isIf2 ?_ | with_reducible refine isIf3 ?_ | with_reducible refine isIf4 ?_ | with_reducible refine isIf5 ?_ | with_reducible refine isIf6 ?_ | with_reducible refine isIf7 ?_ | with_reducible refine isIf8 ?_ | with_reducible refine ifK_id ?_); first | ((focus (rw [decide_eq_true]; rotate_left; focus (first | (first | omega | (simp only [List.length_append, List.length_cons, List.length_nil, List.length_map, ByteArray.size_append]; omega) | (dsimp only; omega)) | ((with_reducible refine isEq ?_); rfl)))); (first | with_reducible refine br_true rfl ?_ | with_reducible refine br_false rfl ?_ | skip); (conv => whnf)) | ((focus (rw [decide_eq_false]; rotate_left; focus (first | (first | omega | (simp only [List.length_append, List.length_cons, List.length_nil, List.length_map, ByteArray.size_append]; omega) | (dsimp only; omega)) | (intro h; cases h; done)))); (first | with_reducible refine br_true rfl ?_ | with_reducible refine br_false rfl ?_ | skip); (conv => whnf))))
          (refine call0 [0] rfl (fun _ => dotted_spec (mDots e.msg) (by simp [mDots]) (by simp [mDots])) ?_; rintro r rfl; conv => whnf)
          refine ⟨sz_max (by rw [bs_size, sp_size]; omega), ?_⟩
          conv => whnf
          refine ⟨sz_max (by simp only [ByteArray.size_append, bs_size, sp_size]; omega), ?_⟩
          conv => whnf
          have hX : bs wd ++ ⟨#[32]⟩ ++ bs (Lib.itoa e.node) ++ (⟨#[32]⟩ ++ bs (dots (mDots e.msg))) = bs (rawE e) := by
            rw [hraw, show (⟨#[32]⟩ : ByteArray) = bs [32] from rfl, bs_app, bs_app, bs_app, bs_app]
            unfold restE
            rw [if_pos (by omega)]
            simp
          have hlen : (rawE e).length ≤ 1000 := by
            have := congrArg ByteArray.size hX
            simp only [ByteArray.size_append, bs_size, sp_size] at this
            omega
          rw [show bs wd ++ ⟨#[32]⟩ ++ bs (Lib.itoa e.node) ++ (⟨#[32]⟩ ++ bs (dots (mDots e.msg))) = bs (rawE e) from hX]
          refine call0 [] rfl (fun _ => parseE_spec (bs (rawE e)) (by rw [bs_size]; omega)) ?_
          rintro r rfl
          rw [bs_list]
          cases hp : parseE (rawE e) with
          | none =>
            conv => whnf
            exact ⟨[], rfl, .inr ⟨fun h => (by rw [hpr.2 h] at hp; cases hp), rfl⟩⟩
          | some b =>
            conv => whnf
            refine ⟨by kernel_rfl, ?_⟩
            conv => whnf
            generalize hg : (decide (b.kind = e.kind) && _) = g
            have hg : evEq b e = g := hg
            cases g with
            | true =>
              have := (evEq_iff b e).1 hg
              subst this
              conv => whnf
              exact ⟨rawE b, rfl, .inl ⟨hpr.1 hp, rfl⟩⟩
            | false =>
              conv => whnf
              refine ⟨[], rfl, .inr ⟨fun h => ?_, rfl⟩⟩
              rw [hpr.2 h] at hp
              cases hp
              rw [(evEq_iff e e).2 rfl] at hg
              cases hg
        · repeat (first | ((with_reducible refine And.intro ?_ ?_); (focus (first | omega | (with_reducible refine i64r ?_; (first | omega | (simp only [List.length_append, List.length_cons, List.length_nil, List.length_map, ByteArray.size_append]; omega) | (dsimp only; omega))) | (with_reducible refine max_le ?_; (first | omega | (simp only [List.length_append, List.length_cons, List.length_nil, List.length_map, ByteArray.size_append]; omega) | (dsimp only; omega))) | ((fail_if_success (with_reducible refine max_le ?_)); decide) | (simp only [List.length_append, List.length_cons, List.length_nil, List.length_map, ByteArray.size_append]; omega) | (dsimp only; omega) | ((with_reducible refine i64r ?_); dsimp only; omega))); (conv => whnf)) | ((first | with_reducible refine isIf1 ?_ | with_reducible refine isIf2 ?_ | with_reducible refine isIf3 ?_ | with_reducible refine isIf4 ?_ | with_reducible refine isIf5 ?_ | with_reducible refine isIf6 ?_ | with_reducible refine isIf7 ?_ | with_reducible refine isIf8 ?_ | with_reducible refine ifK_id ?_); first | ((focus (rw [decide_eq_true]; rotate_left; focus (first | (first | omega | (simp only [List.length_append, List.length_cons, List.length_nil, List.length_map, ByteArray.size_append]; omega) | (dsimp only; omega)) | ((with_reducible refine isEq ?_); rfl)))); (first | with_reducible refine br_true rfl ?_ | with_reducible refine br_false rfl ?_ | skip); (conv => whnf)) | ((focus (rw [decide_eq_false]; rotate_left; focus (first | (first | omega | (simp only [List.length_append, List.length_cons, List.length_nil, List.length_map, ByteArray.size_append]; omega) | (dsimp only; omega)) | (intro h; cases h; done)))); (first | with_reducible refine br_true rfl ?_ | with_reducible refine br_false rfl ?_ | skip); (conv => whnf))))
          by_cases h6 : e.kind = 6
          · repeat (first | ((with_reducible refine And.intro ?_ ?_); (focus (first | omega | (with_reducible refine i64r ?_; (first | omega | (simp only [List.length_append, List.length_cons, List.length_nil, List.length_map, ByteArray.size_append]; omega) | (dsimp only; omega))) | (with_reducible refine max_le ?_; (first | omega | (simp only [List.length_append, List.length_cons, List.length_nil, List.length_map, ByteArray.size_append]; omega) | (dsimp only; omega))) | ((fail_if_success (with_reducible refine max_le ?_)); decide) | (simp only [List.length_append, List.length_cons, List.length_nil, List.length_map, ByteArray.size_append]; omega) | (dsimp only; omega) | ((with_reducible refine i64r ?_); dsimp only; omega))); (conv => whnf)) | ((first | with_reducible refine isIf1 ?_ | with_reducible refine isIf2 ?_ | with_reducible refine isIf3 ?_ | with_reducible refine isIf4 ?_ | with_reducible refine isIf5 ?_ | with_reducible refine isIf6 ?_ | with_reducible refine isIf7 ?_ | with_reducible refine isIf8 ?_ | with_reducible refine ifK_id ?_); first | ((focus (rw [decide_eq_true]; rotate_left; focus (first | (first | omega | (simp only [List.length_append, List.length_cons, List.length_nil, List.length_map, ByteArray.size_append]; omega) | (dsimp only; omega)) | ((with_reducible refine isEq ?_); rfl)))); (first | with_reducible refine br_true rfl ?_ | with_reducible refine br_false rfl ?_ | skip); (conv => whnf)) | ((focus (rw [decide_eq_false]; rotate_left; focus (first | (first | omega | (simp only [List.length_append, List.length_cons, List.length_nil, List.length_map, ByteArray.size_append]; omega) | (dsimp only; omega)) | (intro h; cases h; done)))); (first | with_reducible refine br_true rfl ?_ | with_reducible refine br_false rfl ?_ | skip); (conv => whnf))))
            (refine call0 [0] rfl (fun _ => dotted_spec (mDots e.msg) (by simp [mDots]) (by simp [mDots])) ?_; rintro r rfl; conv => whnf)
            refine ⟨sz_max (by rw [bs_size, sp_size]; omega), ?_⟩
            conv => whnf
            refine ⟨sz_max (by simp only [ByteArray.size_append, bs_size, sp_size]; omega), ?_⟩
            conv => whnf
            have hX : bs wd ++ ⟨#[32]⟩ ++ bs (Lib.itoa e.node) ++ (⟨#[32]⟩ ++ bs (dots (mDots e.msg))) = bs (rawE e) := by
              rw [hraw, show (⟨#[32]⟩ : ByteArray) = bs [32] from rfl, bs_app, bs_app, bs_app, bs_app]
              unfold restE
              rw [if_pos (by omega)]
              simp
            have hlen : (rawE e).length ≤ 1000 := by
              have := congrArg ByteArray.size hX
              simp only [ByteArray.size_append, bs_size, sp_size] at this
              omega
            rw [show bs wd ++ ⟨#[32]⟩ ++ bs (Lib.itoa e.node) ++ (⟨#[32]⟩ ++ bs (dots (mDots e.msg))) = bs (rawE e) from hX]
            refine call0 [] rfl (fun _ => parseE_spec (bs (rawE e)) (by rw [bs_size]; omega)) ?_
            rintro r rfl
            rw [bs_list]
            cases hp : parseE (rawE e) with
            | none =>
              conv => whnf
              exact ⟨[], rfl, .inr ⟨fun h => (by rw [hpr.2 h] at hp; cases hp), rfl⟩⟩
            | some b =>
              conv => whnf
              refine ⟨by kernel_rfl, ?_⟩
              conv => whnf
              generalize hg : (decide (b.kind = e.kind) && _) = g
              have hg : evEq b e = g := hg
              cases g with
              | true =>
                have := (evEq_iff b e).1 hg
                subst this
                conv => whnf
                exact ⟨rawE b, rfl, .inl ⟨hpr.1 hp, rfl⟩⟩
              | false =>
                conv => whnf
                refine ⟨[], rfl, .inr ⟨fun h => ?_, rfl⟩⟩
                rw [hpr.2 h] at hp
                cases hp
                rw [(evEq_iff e e).2 rfl] at hg
                cases hg
          · repeat (first | ((with_reducible refine And.intro ?_ ?_); (focus (first | omega | (with_reducible refine i64r ?_; (first | omega | (simp only [List.length_append, List.length_cons, List.length_nil, List.length_map, ByteArray.size_append]; omega) | (dsimp only; omega))) | (with_reducible refine max_le ?_; (first | omega | (simp only [List.length_append, List.length_cons, List.length_nil, List.length_map, ByteArray.size_append]; omega) | (dsimp only; omega))) | ((fail_if_success (with_reducible refine max_le ?_)); decide) | (simp only [List.length_append, List.length_cons, List.length_nil, List.length_map, ByteArray.size_append]; omega) | (dsimp only; omega) | ((with_reducible refine i64r ?_); dsimp only; omega))); (conv => whnf)) | ((first | with_reducible refine isIf1 ?_ | with_reducible refine isIf2 ?_ | with_reducible refine isIf3 ?_ | with_reducible refine isIf4 ?_ | with_reducible refine isIf5 ?_ | with_reducible refine isIf6 ?_ | with_reducible refine isIf7 ?_ | with_reducible refine isIf8 ?_ | with_reducible refine ifK_id ?_); first | ((focus (rw [decide_eq_true]; rotate_left; focus (first | (first | omega | (simp only [List.length_append, List.length_cons, List.length_nil, List.length_map, ByteArray.size_append]; omega) | (dsimp only; omega)) | ((with_reducible refine isEq ?_); rfl)))); (first | with_reducible refine br_true rfl ?_ | with_reducible refine br_false rfl ?_ | skip); (conv => whnf)) | ((focus (rw [decide_eq_false]; rotate_left; focus (first | (first | omega | (simp only [List.length_append, List.length_cons, List.length_nil, List.length_map, ByteArray.size_append]; omega) | (dsimp only; omega)) | (intro h; cases h; done)))); (first | with_reducible refine br_true rfl ?_ | with_reducible refine br_false rfl ?_ | skip); (conv => whnf))))
            by_cases h77 : e.kind = 7
            · repeat (first | ((with_reducible refine And.intro ?_ ?_); (focus (first | omega | (with_reducible refine i64r ?_; (first | omega | (simp only [List.length_append, List.length_cons, List.length_nil, List.length_map, ByteArray.size_append]; omega) | (dsimp only; omega))) | (with_reducible refine max_le ?_; (first | omega | (simp only [List.length_append, List.length_cons, List.length_nil, List.length_map, ByteArray.size_append]; omega) | (dsimp only; omega))) | ((fail_if_success (with_reducible refine max_le ?_)); decide) | (simp only [List.length_append, List.length_cons, List.length_nil, List.length_map, ByteArray.size_append]; omega) | (dsimp only; omega) | ((with_reducible refine i64r ?_); dsimp only; omega))); (conv => whnf)) | ((first | with_reducible refine isIf1 ?_ | with_reducible refine isIf2 ?_ | with_reducible refine isIf3 ?_ | with_reducible refine isIf4 ?_ | with_reducible refine isIf5 ?_ | with_reducible refine isIf6 ?_ | with_reducible refine isIf7 ?_ | with_reducible refine isIf8 ?_ | with_reducible refine ifK_id ?_); first | ((focus (rw [decide_eq_true]; rotate_left; focus (first | (first | omega | (simp only [List.length_append, List.length_cons, List.length_nil, List.length_map, ByteArray.size_append]; omega) | (dsimp only; omega)) | ((with_reducible refine isEq ?_); rfl)))); (first | with_reducible refine br_true rfl ?_ | with_reducible refine br_false rfl ?_ | skip); (conv => whnf)) | ((focus (rw [decide_eq_false]; rotate_left; focus (first | (first | omega | (simp only [List.length_append, List.length_cons, List.length_nil, List.length_map, ByteArray.size_append]; omega) | (dsimp only; omega)) | (intro h; cases h; done)))); (first | with_reducible refine br_true rfl ?_ | with_reducible refine br_false rfl ?_ | skip); (conv => whnf))))
              have hX : bs wd ++ ⟨#[32]⟩ ++ bs (Lib.itoa e.node) = bs (rawE e) := by
                rw [hraw, show (⟨#[32]⟩ : ByteArray) = bs [32] from rfl, bs_app, bs_app]
                unfold restE
                rw [if_neg (by omega), if_pos h77]
                simp
              have hlen : (rawE e).length ≤ 1000 := by
                have := congrArg ByteArray.size hX
                simp only [ByteArray.size_append, bs_size, sp_size] at this
                omega
              rw [show bs wd ++ ⟨#[32]⟩ ++ bs (Lib.itoa e.node) = bs (rawE e) from hX]
              refine call0 [] rfl (fun _ => parseE_spec (bs (rawE e)) (by rw [bs_size]; omega)) ?_
              rintro r rfl
              rw [bs_list]
              cases hp : parseE (rawE e) with
              | none =>
                conv => whnf
                exact ⟨[], rfl, .inr ⟨fun h => (by rw [hpr.2 h] at hp; cases hp), rfl⟩⟩
              | some b =>
                conv => whnf
                refine ⟨by kernel_rfl, ?_⟩
                conv => whnf
                generalize hg : (decide (b.kind = e.kind) && _) = g
                have hg : evEq b e = g := hg
                cases g with
                | true =>
                  have := (evEq_iff b e).1 hg
                  subst this
                  conv => whnf
                  exact ⟨rawE b, rfl, .inl ⟨hpr.1 hp, rfl⟩⟩
                | false =>
                  conv => whnf
                  refine ⟨[], rfl, .inr ⟨fun h => ?_, rfl⟩⟩
                  rw [hpr.2 h] at hp
                  cases hp
                  rw [(evEq_iff e e).2 rfl] at hg
                  cases hg
            · repeat (first | ((with_reducible refine And.intro ?_ ?_); (focus (first | omega | (with_reducible refine i64r ?_; (first | omega | (simp only [List.length_append, List.length_cons, List.length_nil, List.length_map, ByteArray.size_append]; omega) | (dsimp only; omega))) | (with_reducible refine max_le ?_; (first | omega | (simp only [List.length_append, List.length_cons, List.length_nil, List.length_map, ByteArray.size_append]; omega) | (dsimp only; omega))) | ((fail_if_success (with_reducible refine max_le ?_)); decide) | (simp only [List.length_append, List.length_cons, List.length_nil, List.length_map, ByteArray.size_append]; omega) | (dsimp only; omega) | ((with_reducible refine i64r ?_); dsimp only; omega))); (conv => whnf)) | ((first | with_reducible refine isIf1 ?_ | with_reducible refine isIf2 ?_ | with_reducible refine isIf3 ?_ | with_reducible refine isIf4 ?_ | with_reducible refine isIf5 ?_ | with_reducible refine isIf6 ?_ | with_reducible refine isIf7 ?_ | with_reducible refine isIf8 ?_ | with_reducible refine ifK_id ?_); first | ((focus (rw [decide_eq_true]; rotate_left; focus (first | (first | omega | (simp only [List.length_append, List.length_cons, List.length_nil, List.length_map, ByteArray.size_append]; omega) | (dsimp only; omega)) | ((with_reducible refine isEq ?_); rfl)))); (first | with_reducible refine br_true rfl ?_ | with_reducible refine br_false rfl ?_ | skip); (conv => whnf)) | ((focus (rw [decide_eq_false]; rotate_left; focus (first | (first | omega | (simp only [List.length_append, List.length_cons, List.length_nil, List.length_map, ByteArray.size_append]; omega) | (dsimp only; omega)) | (intro h; cases h; done)))); (first | with_reducible refine br_true rfl ?_ | with_reducible refine br_false rfl ?_ | skip); (conv => whnf))))
              (refine call0 [] rfl (fun _ => itoa_eq e.arg) ?_; rintro r rfl; conv => whnf)
              refine ⟨sz_max (by rw [bs_size, sp_size]; omega), ?_⟩
              conv => whnf
              refine ⟨sz_max (by simp only [ByteArray.size_append, bs_size, sp_size]; omega), ?_⟩
              conv => whnf
              have hX : bs wd ++ ⟨#[32]⟩ ++ bs (Lib.itoa e.node) ++ (⟨#[32]⟩ ++ bs (Lib.itoa e.arg)) = bs (rawE e) := by
                rw [hraw, show (⟨#[32]⟩ : ByteArray) = bs [32] from rfl, bs_app, bs_app, bs_app, bs_app]
                unfold restE
                rw [if_neg (by omega), if_neg h77]
                simp
              have hlen : (rawE e).length ≤ 1000 := by
                have := congrArg ByteArray.size hX
                simp only [ByteArray.size_append, bs_size, sp_size] at this
                omega
              rw [show bs wd ++ ⟨#[32]⟩ ++ bs (Lib.itoa e.node) ++ (⟨#[32]⟩ ++ bs (Lib.itoa e.arg)) = bs (rawE e) from hX]
              refine call0 [] rfl (fun _ => parseE_spec (bs (rawE e)) (by rw [bs_size]; omega)) ?_
              rintro r rfl
              rw [bs_list]
              cases hp : parseE (rawE e) with
              | none =>
                conv => whnf
                exact ⟨[], rfl, .inr ⟨fun h => (by rw [hpr.2 h] at hp; cases hp), rfl⟩⟩
              | some b =>
                conv => whnf
                refine ⟨by kernel_rfl, ?_⟩
                conv => whnf
                generalize hg : (decide (b.kind = e.kind) && _) = g
                have hg : evEq b e = g := hg
                cases g with
                | true =>
                  have := (evEq_iff b e).1 hg
                  subst this
                  conv => whnf
                  exact ⟨rawE b, rfl, .inl ⟨hpr.1 hp, rfl⟩⟩
                | false =>
                  conv => whnf
                  refine ⟨[], rfl, .inr ⟨fun h => ?_, rfl⟩⟩
                  rw [hpr.2 h] at hp
                  cases hp
                  rw [(evEq_iff e e).2 rfl] at hg
                  cases hg
end Go.Proofs.YtinjgckpmblffaaDoor.Vm
