/- Texts 5 of the proof: T10, T35, T46, T47, T48, T49, T50, T51, T52, VmX, T60, T61, T62, T63, T64, T65, T66, T67, T68, T69, T70, T71, T72. -/
import Derived.Test.YtndflafkigldmaaGreatDoorM4
import Derived.Shelf.Lay
import Derived.Shelf.Strconv.Itoa3
import Derived.Ground.NamesProg
import Derived.Lib.ItoaLen
import Derived.Lib.AppendIntMem
namespace Go.Proofs.YtndflafkigldmaaGreatDoor.Vm
open Go.RowKit Go.Shelf
set_option linter.unusedSimpArgs false
set_option linter.unusedVariables false
set_option maxRecDepth 100000
theorem parse1_ret (f : Fm) : SpecX (ClD Tryz.prog 15 .returning .returning) [fmA f, [intA 0], [intA 0]] [.box 0 0, .box 1 0, .box 2 0] (fun o r => o = [fmA f, [intA 0], [intA 0]] ∧ r = .tup []) fun _ => False := by
  refine recX_of (cx_ok ord15 (fun _ => [0, 1, 2]) 3) (fun _ _ h => h) Tryz.func15 rfl (d0 := 5) (d1 := 3) ⟨rfl, rfl, rfl⟩ ⟨rfl, rfl, rfl⟩ (by decide) (rv := .nilIface) trivial (.inl ⟨rfl, rfl, rfl⟩) rfl ?_
  intro _
  conv => whnf
  refine ok_of_awp (cx_ok _ _ _) (by kernel_rfl) ?_
  conv => whnf
  exact ⟨rfl, rfl⟩
theorem parse1_pan (x e : Int) (hx : 0 ≤ x ∧ x ≤ 1000000000) (he : 0 < e ∧ e ≤ 100) (c0 c1 c2 c3 c4 b1 b2 : A) : SpecX (ClD Tryz.prog 15 (.panicking (failCh x e)) (.panicking [⟨.iface 50 (.agg #[.int .i64 x, .int .i64 e]), true, false⟩])) [[c0, c1, c2, c3, c4], [b1], [b2]] [.box 0 0, .box 1 0, .box 2 0]
    (fun o r => o = [zero5, [intA x], [intA e]] ∧ r = .tup []) fun _ => False := by
  refine recX_of (cx_ok ord15 (fun _ => [0, 1, 2]) 3) (fun _ _ h => h) Tryz.func15 rfl (d0 := 5) (d1 := 3) ⟨rfl, rfl, rfl⟩ ⟨rfl, rfl, rfl⟩ (by decide) (rv := .iface 50 (.agg #[.int .i64 x, .int .i64 e])) trivial (.inr ⟨_, [], rfl, rfl, rfl⟩) rfl ?_
  intro _
  conv => whnf
  refine ok_of_awp (cx_ok _ _ _) (by kernel_rfl) ?_
  conv => whnf
  refine ⟨?_, ?_⟩
  · intro u hu
    simp at hu
    rcases hu with rfl | rfl
    · exact okV_int.2 (i64r (by omega))
    · exact okV_int.2 (i64r (by omega))
  conv => whnf
  exact ⟨rfl, rfl⟩
inductive PR where
  | ok (f : Fm)
  | bad (p e : Int)
def parseT (ts : List Tk) : PR := match (pr 20).fo ts with
  | .bad x e => .bad x e
  | .ok f r => if (hd r).kind ≠ 0 then .bad (hd r).pos 10 else .ok f
def parseF (s : ByteArray) : PR := if 3000 < s.size then .bad 3000 2 else match (lexF' s).err with
  | some (p, e) => .bad p e
  | none => parseT (rowT s)
def parR0 : PR → A
  | .ok f => .tup [.agg (fmA f), intA 0, intA 0]
  | .bad x e => .tup [.agg zero5, intA x, intA e]
def PanS (p : PR) (ch : List PanicEntry) (s : S) : Prop := ∃ (x e : Int) (cs : List A) (bx : List (List A)) (a b : A) (t : List A), p = .bad x e ∧ ((0 ≤ x ∧ x ≤ 1000000000) ∧ 0 < e ∧ e ≤ 100) ∧ ch = failCh x e ∧ s.bx = cs :: [intA 0] :: [intA 0] :: bx ∧ (cs = zero5 ∨ ∃ f, cs = fmA f) ∧ s.t = a :: b :: .box 0 0 :: .box 1 0 :: .box 2 0 :: t ∧ s.rw = []
theorem box4 {l : List (List A)} {a b c d : List A} (h : l.length = 4) (k : ∀ j, j ≠ 3 → l[j]? = [a, b, c, d][j]?) : ∃ d', l = [a, b, c, d'] := by
  match l, h with
  | [x, y, z, w], _ =>
    have h0 := k 0 (by decide)
    have h1 := k 1 (by decide)
    have h2 := k 2 (by decide)
    simp at h0 h1 h2
    exact ⟨w, by rw [h0, h1, h2]⟩
def ordP (id : Nat) : Tr := match Nat.beq id 5 with
  | true => .q 0 3 (.alt 1 2 (.alt 2 2 (.alt 3 2 (.alt 4 2 (.alt 5 2 .nil .nil) .nil) .nil) (.alt 3 2 (.alt 2 2 (.alt 4 2 (.alt 5 2 .nil .nil) .nil) (.alt 4 2 (.alt 2 2 (.alt 5 2 .nil .nil) .nil) .nil)) .nil)) (.alt 2 2 (.alt 1 2 (.alt 3 2 (.alt 4 2 (.alt 5 2 .nil .nil) .nil) .nil) (.alt 3 2 (.alt 1 2 (.alt 4 2 (.alt 5 2 .nil .nil) .nil) .nil) .nil)) (.alt 3 2 (.alt 1 2 (.alt 2 2 (.alt 4 2 (.alt 5 2 .nil .nil) .nil) (.alt 4 2 (.alt 2 2 (.alt 5 2 .nil .nil) .nil) .nil)) (.alt 2 2 (.alt 1 2 (.alt 4 2 (.alt 5 2 .nil .nil) .nil) .nil) .nil)) .nil)))
  | false => .nil
theorem parse_raw (s : ByteArray) (hs : s.size ≤ 1000000000) : Spec Tryz.prog 6 [] [strA s] fun _ r => r = parR0 (parseF s) := by
  obtain ⟨R, hR⟩ : ∃ R, parseF s = R := ⟨_, rfl⟩
  rw [hR]
  have htk := tokens_spec s hs
  have hpan : ∀ (ch : List PanicEntry) (s' : S), PanS R ch s' → leaveK ⟨Tryz.prog, tab, ordP, fun _ => [0], 0, fun _ _ => False⟩ Tryz.f6.results.toList (fun _ r => r = parR0 R) [(15, [.box 0 0, .box 1 0, .box 2 0])] (.panicking ch) s' := fun ch s' hP => by
    obtain ⟨x, e, cs, bx, a, b, t0, hRe, hran, rfl, hbx, hcs, ht, hrw⟩ := hP
    obtain ⟨t, bx', rw'⟩ := s'
    simp only at hbx hrw ht
    subst hbx hrw ht
    subst hRe
    unfold leaveK
    refine ⟨(fun h => by cases h), FrameMode.panicking [⟨.iface 50 (.agg #[.int .i64 x, .int .i64 e]), true, false⟩], ?_⟩
    unfold DfrW
    refine ⟨fun vs w => rfl, [0, 1, 2], [], [cs, [intA 0], [intA 0]], [.box 0 0, .box 1 0, .box 2 0], fun o r => o = [zero5, [intA x], [intA e]] ∧ r = .tup [], by decide, ?_, ?_, rfl, fun _ => ?_, ?_⟩
    · intro i hi
      simp only [List.length_cons]
      simp at hi
      omega
    · rcases hcs with rfl | ⟨f, rfl⟩
      · rfl
      · rfl
    · rcases hcs with rfl | ⟨f, rfl⟩
      · exact parse1_pan x e hran.1 hran.2 _ _ _ _ _ _ _
      · exact parse1_pan x e hran.1 hran.2 _ _ _ _ _ _ _
    rintro o r ⟨rfl, rfl⟩ _
    conv => whnf
    rfl
  refine specT_of (cx_ok ordP (fun _ => [0]) 0) Tryz.func6 rfl (by kernel_rfl) rfl ?_
  intro _
  conv => whnf
  refine okT_step (cx_ok ordP (fun _ => [0]) 0) (dr := []) ⟨0, rfl⟩ (.inl rfl) (by kernel_rfl) (fun _ _ h => h.elim) ?_
  conv => whnf
  refine okT_step (cx_ok ordP (fun _ => [0]) 0) (dr := []) ⟨0, rfl⟩ (.inl rfl) (by kernel_rfl) (fun _ _ h => h.elim) ?_
  conv => whnf
  unfold parseF at hR
  by_cases hbig : 3000 < s.size
  · rw [if_pos hbig] at hR
    rw [decide_eq_true (by omega)]
    conv => whnf
    refine ⟨.inr rfl, ?_⟩
    conv => whnf
    subst hR
    rfl
  rw [if_neg hbig] at hR
  rw [decide_eq_false (by omega)]
  conv => whnf
  refine okT_step (cx_ok ordP (fun _ => [0]) 0) (dr := []) ⟨0, rfl⟩ (.inl rfl) (by kernel_rfl) (fun _ _ h => h.elim) ?_
  conv => whnf
  refine call0 [] rfl (fun _ => htk) ?_
  rintro r rfl
  have htb := fun h => row_tkB (s := s) (by omega) h
  unfold lexR
  cases herr : (lexF' s).err with
  | some pe =>
    obtain ⟨p, e⟩ := pe
    rw [herr] at hR
    simp only at hR
    have hne := (lexG_ok (s.data.toList.length + 1) 0 s.data.toList).2 p e herr
    conv => whnf
    refine okT_step (cx_ok ordP (fun _ => [0]) 0) (dr := []) ⟨0, rfl⟩ (.inl rfl) (by kernel_rfl) (fun _ _ h => h.elim) ?_
    conv => whnf
    rw [decide_eq_false hne.2.1]
    conv => whnf
    apply join_eq
    · repeat' (first | (with_reducible refine And.intro ?_ ?_) | (conv => whnf))
    conv => whnf
    refine ⟨.inr rfl, ?_⟩
    conv => whnf
    subst hR
    rfl
  | none =>
    rw [herr] at hR
    simp only at hR
    have htb := htb herr
    have hrl := rowT_none herr
    rw [← hrl]
    have hln : (lexF' s).toks.length + 1 = (rowT s).length := by rw [hrl]; simp
    rw [hln]
    generalize rowT s = T at *
    conv => whnf
    refine okT_step (cx_ok ordP (fun _ => [0]) 0) (dr := []) ⟨0, rfl⟩ (.inl rfl) (by kernel_rfl) (fun _ _ h => h.elim) ?_
    conv => whnf
    refine okT_defer (cx_ok ordP (fun _ => [0]) 0) ⟨0, rfl⟩ (fun _ _ h => h.elim) (l := [_]) rfl rfl rfl ?_
    conv => whnf
    have hp0 := (pr_spec 20 (by decide)).2.2 T htb
    rw [show ((20 : Int) - (20 : Nat)) = 0 from rfl] at hp0
    have hsane := (pr_sane 20).2.2 T htb
    have hgo := (pr_goes 20).2.2 T
    have hpos := htb.1.pos
    have hT2 := htb.2
    unfold parseT at hR
    refine okT_step (c := ⟨Tryz.prog, tab, ordP, fun _ => [0], 0, PanS R⟩) (cx_okP _ _ _ _) ⟨3, rfl⟩ (.inr (by kernel_rfl)) (by kernel_rfl) hpan ?_
    conv => whnf
    refine okT_step (c := ⟨Tryz.prog, tab, ordP, fun _ => [0], 0, PanS R⟩) (cx_okP _ _ _ _) ⟨3, rfl⟩ (.inr (by kernel_rfl)) (by kernel_rfl) hpan ?_
    conv => whnf
    refine callP1x 3 [] rfl rfl rfl rfl (fun _ => hp0) (fun ch bx' hp hbl hbx => ?_) ?_
    · obtain ⟨x, e, he, hc⟩ := pnP_bad hp
      rw [he] at hR hsane
      obtain ⟨d', rfl⟩ := box4 hbl hbx
      exact ⟨x, e, _, _, _, _, _, hR.symm, hsane, hc, rfl, .inl rfl, rfl, rfl⟩
    rintro o r hpo
    obtain ⟨f, r1, he, ho, rfl⟩ := poP_ok hpo
    cases ho
    rw [he] at hR
    simp only at hR
    obtain ⟨h1, l1⟩ := hgo _ _ htb he
    have hr := row_hd h1.1.pos
    have hfail := fail_spec r1 h1.1.pos 10
    have hpos1 := h1.pos
    have hl1 := h1.1.pos
    generalize hd r1 = t at *
    conv => whnf
    refine okT_step (c := ⟨Tryz.prog, tab, ordP, fun _ => [0], 0, PanS R⟩) (cx_okP _ _ _ _) ⟨3, rfl⟩ (.inr (by kernel_rfl)) (by kernel_rfl) hpan ?_
    conv => whnf
    (refine goA ?_; try with_reducible exact trivial)
    (generalize hrq : rowOf _ _ (tksL r1) = rq; obtain rfl : rq = tkL t := hrq.symm.trans (hr); clear hrq; conv => whnf)
    by_cases hk : t.kind = 0
    · rw [decide_eq_true hk]
      rw [if_neg (by simpa using hk)] at hR
      conv => whnf
      refine okT_last (c := ⟨Tryz.prog, tab, ordP, fun _ => [0], 0, PanS R⟩) (cx_okP _ _ _ _) ⟨3, rfl⟩ (.inr (by kernel_rfl)) (by kernel_rfl) hpan ?_
      conv => whnf
      refine ⟨.inr rfl, ?_⟩
      unfold leaveK
      refine ⟨(fun h => by cases h), FrameMode.returning, ?_⟩
      unfold DfrW
      refine ⟨fun vs w => rfl, [0, 1, 2], [], [fmA f, [intA 0], [intA 0]], [.box 0 0, .box 1 0, .box 2 0], fun o r => o = [fmA f, [intA 0], [intA 0]] ∧ r = .tup [], by decide, ?_, rfl, rfl, fun _ => parse1_ret f, ?_⟩
      · intro i hi
        simp only [List.length_cons]
        simp at hi
        omega
      rintro o r ⟨rfl, rfl⟩ _
      conv => whnf
      subst hR
      rfl
    · rw [decide_eq_false hk]
      rw [if_pos hk] at hR
      conv => whnf
      refine callP1x 3 [] rfl rfl rfl rfl (fun _ => hfail) (fun ch bx' hp hbl hbx => ?_) ?_
      · obtain ⟨d', rfl⟩ := box4 hbl hbx
        exact ⟨_, _, _, _, _, _, _, hR.symm, ⟨⟨by omega, by omega⟩, by decide⟩, hp, rfl, .inr ⟨f, rfl⟩, rfl, rfl⟩
      · rintro o r ⟨⟩
end Go.Proofs.YtndflafkigldmaaGreatDoor.Vm
namespace Go.Proofs.YtndflafkigldmaaGreatDoor.Vm
open Go.RowKit Go.Shelf
set_option linter.unusedSimpArgs false
set_option linter.unusedVariables false
set_option maxRecDepth 100000
def lvA : Fm := .mk 7 0 0 0 [.mk 1 0 0 3 []]
def lvB : Fm := .mk 8 0 0 0 [.mk 1 0 2 2 []]
def lvT : List (List Int) := [[1], [2], [3]]
theorem lvA_parse : parseF ⟨#[97, 108, 119, 97, 121, 115, 32, 118, 48, 60, 51]⟩ = .ok lvA := by kernel_rfl
theorem lvB_parse : parseF ⟨#[101, 118, 101, 110, 116, 117, 97, 108, 108, 121, 32, 118, 48, 62, 50]⟩ = .ok lvB := by kernel_rfl
theorem lvA_chk : chkF lvA lvT = ⟨13, some 2⟩ := by kernel_rfl
theorem lvB_chk : chkF lvB lvT = ⟨0, some 2⟩ := by kernel_rfl
theorem lvA_pen : (chkF lvA (lvT.take 2)).cls = 14 := by kernel_rfl
theorem lvB_pen : (chkF lvB (lvT.take 2)).cls = 14 := by kernel_rfl
theorem lvA_gd : Gd 2 lvA := ⟨.un (by simp) (.var (by omega) (by omega) (by omega)), by unfold td tds td tds; decide, by unfold nn nns nn nns nns; decide⟩
theorem lvB_gd : Gd 2 lvB := ⟨.un (by simp) (.var (by omega) (by omega) (by omega)), by unfold td tds td tds; decide, by unfold nn nns nn nns nns; decide⟩
set_option maxHeartbeats 2000000 in
theorem lives_spec : Spec Tryz.prog 10 [] [] fun _ r => r = boolA true := by
  have cA := check_spec lvA lvT (fitS_gd (N := 2) (by omega) _ lvA_gd) (by rw [sim_same _ lvA_gd.w]; exact fitR_gd _ _ 2 lvA_gd.s (by decide)) (by decide)
  have cB := check_spec lvB lvT (fitS_gd (N := 2) (by omega) _ lvB_gd) (by rw [sim_same _ lvB_gd.w]; exact fitR_gd _ _ 2 lvB_gd.s (by decide)) (by decide)
  have vA := cvalue_spec lvA (lvT.take 2) (fitS_gd (N := 2) (by omega) _ lvA_gd) (by rw [sim_same _ lvA_gd.w]; exact fitR_gd _ _ 2 lvA_gd.s (by decide)) (by decide)
  have vB := cvalue_spec lvB (lvT.take 2) (fitS_gd (N := 2) (by omega) _ lvB_gd) (by rw [sim_same _ lvB_gd.w]; exact fitR_gd _ _ 2 lvB_gd.s (by decide)) (by decide)
  rw [lvA_chk] at cA
  rw [lvB_chk] at cB
  rw [lvA_pen] at vA
  rw [lvB_pen] at vB
  have pA := parse_raw ⟨#[97, 108, 119, 97, 121, 115, 32, 118, 48, 60, 51]⟩ (by decide)
  have pB := parse_raw ⟨#[101, 118, 101, 110, 116, 117, 97, 108, 108, 121, 32, 118, 48, 62, 50]⟩ (by decide)
  rw [lvA_parse] at pA
  rw [lvB_parse] at pB
  have hs := rSameInts [2] [2] (by decide)
  rw [decide_eq_true rfl] at hs
  unfold parR0 at pA pB
  generalize lvA = fa at *
  generalize lvB = fb at *
  refine spec_of (cx_ok (fun id => match Nat.beq id 8 with | true => .q 0 7 .nil | false => ord10 id) xs0 0) (fun _ _ h => h) Tryz.func10 rfl (by kernel_rfl) rfl (by kernel_rfl) ?_
  intro hok
  conv => whnf
  (refine call0 [] rfl (fun _ => pA) ?_; rintro r rfl; conv => whnf)
  (refine call0 [] rfl (fun _ => pB) ?_; rintro r rfl; conv => whnf)
  (refine call0 [3] rfl (fun _ => cA) ?_; rintro r rfl; conv => whnf)
  (refine call0 [] rfl (fun _ => cB) ?_; rintro r rfl; conv => whnf)
  repeat (apply flow_go; (focus ((conv => whnf); exact ⟨rfl, rfl, rfl⟩)); (conv => whnf))
  (apply flow_go; (focus ((conv => whnf); refine call0 [] rfl (fun _ => hs) ?_; rintro r rfl; (conv => whnf); exact ⟨rfl, rfl, rfl⟩)); (conv => whnf))
  repeat (apply flow_go; (focus ((conv => whnf); exact ⟨rfl, rfl, rfl⟩)); (conv => whnf))
  (apply flow_go; (focus ((conv => whnf); refine call0 [] rfl (fun _ => hs) ?_; rintro r rfl; (conv => whnf); exact ⟨rfl, rfl, rfl⟩)); (conv => whnf))
  repeat (apply flow_go; (focus ((conv => whnf); exact ⟨rfl, rfl, rfl⟩)); (conv => whnf))
  (apply flow_go; (focus ((conv => whnf); (refine ⟨by first | omega | (simp only [List.length_cons, List.length_nil]; omega) | (dsimp only; omega), ?_⟩); exact ⟨rfl, rfl, rfl⟩)); (conv => whnf))
  repeat (apply flow_go; (focus ((conv => whnf); exact ⟨rfl, rfl, rfl⟩)); (conv => whnf))
  (apply flow_go; (focus ((conv => whnf); refine call0 [] rfl (fun _ => vA) ?_; rintro r rfl; (conv => whnf); exact ⟨rfl, rfl, rfl⟩)); (conv => whnf))
  repeat (apply flow_go; (focus ((conv => whnf); exact ⟨rfl, rfl, rfl⟩)); (conv => whnf))
  (apply flow_go; (focus ((conv => whnf); (refine ⟨by first | omega | (simp only [List.length_cons, List.length_nil]; omega) | (dsimp only; omega), ?_⟩); exact ⟨rfl, rfl, rfl⟩)); (conv => whnf))
  repeat (apply flow_go; (focus ((conv => whnf); exact ⟨rfl, rfl, rfl⟩)); (conv => whnf))
  (apply flow_go; (focus ((conv => whnf); refine call0 [] rfl (fun _ => vB) ?_; rintro r rfl; (conv => whnf); exact ⟨rfl, rfl, rfl⟩)); (conv => whnf))
  repeat (apply flow_go; (focus ((conv => whnf); exact ⟨rfl, rfl, rfl⟩)); (conv => whnf))
  rfl
end Go.Proofs.YtndflafkigldmaaGreatDoor.Vm
namespace Go.Proofs.YtndflafkigldmaaGreatDoor.Vm
open Go.RowKit Go.Shelf
set_option linter.unusedSimpArgs false
set_option linter.unusedVariables false
set_option maxRecDepth 100000
theorem letter25_spec (c : UInt8) : Spec Tryz.prog 61 [] [.v (.int .u8 (c.toNat : Int))] fun _ r => r = boolA (isLD c) := by
  have hm : 0 ≤ (c.toNat : Int) ∧ (c.toNat : Int) ≤ 255 := by have := c.toNat_lt; omega
  unfold isLD isL isD
  generalize (c.toNat : Int) = n at *
  refine spec_of (cx_ok ord0 xs0 0) (fun _ _ h => h) Tryz.func61 rfl (by kernel_rfl) rfl (by kernel_rfl) ?_
  intro _
  conv => whnf
  by_cases h1 : 97 ≤ n
  · rw [decide_eq_true h1]
    conv => whnf
    by_cases h2 : n ≤ 122
    · rw [decide_eq_true h2]
      conv => whnf
      rfl
    · rw [decide_eq_false h2]
      conv => whnf
      rw [decide_eq_true (show 48 ≤ n by omega)]
      conv => whnf
      rw [decide_eq_false (show ¬ n ≤ 57 by omega)]
      conv => whnf
      rfl
  · rw [decide_eq_false h1]
    conv => whnf
    by_cases h3 : 48 ≤ n
    · rw [decide_eq_true h3]
      conv => whnf
      rcases Decidable.em (n ≤ 57) with h4 | h4
      · rw [decide_eq_true h4]
        conv => whnf
        rfl
      · rw [decide_eq_false h4]
        conv => whnf
        rfl
    · rw [decide_eq_false h3]
      conv => whnf
      rfl
def precF (f : Fm) : Int := if (isC f || decide (f.k = 1)) = true then 5 else if f.k = 4 then 1 else if f.k = 3 then 2 else if f.k = 6 then 3 else 4
theorem prec_spec (f : Fm) : Spec Tryz.prog 37 [] [.agg (fmA f)] fun _ r => r = intA (precF f) := by
  have hc := rConst f
  unfold precF
  generalize hg : isC f = q at *
  clear hg
  refine spec_of (cx_ok ord0 xs0 0) (fun _ _ h => h) Tryz.func37 rfl (by kernel_rfl) rfl (by kernel_rfl) ?_
  intro _
  conv => whnf
  (refine call0 [] rfl (fun _ => hc) ?_; rintro r rfl; conv => whnf)
  cases q
  · conv => whnf
    by_cases h1 : f.k = 1
    · rw [decide_eq_true h1]
      conv => whnf
      rfl
    · rw [decide_eq_false h1]
      conv => whnf
      by_cases h4 : f.k = 4
      · rw [decide_eq_true h4, if_neg (by decide), if_pos h4]
        conv => whnf
        rfl
      · rw [decide_eq_false h4, if_neg (by decide), if_neg h4]
        conv => whnf
        by_cases h3 : f.k = 3
        · rw [decide_eq_true h3, if_pos h3]
          conv => whnf
          rfl
        · rw [decide_eq_false h3, if_neg h3]
          conv => whnf
          by_cases h6 : f.k = 6
          · rw [decide_eq_true h6, if_pos h6]
            conv => whnf
            rfl
          · rw [decide_eq_false h6, if_neg h6]
            conv => whnf
            rfl
  · conv => whnf
    rfl
def lastB (a : ByteArray) : UInt8 := a.data.toList.getD (a.size - 1) 0
def firstB (a : ByteArray) : UInt8 := a.data.toList.getD 0 0
def glueF (a b : ByteArray) : ByteArray := if a = ⟨#[]⟩ then a ++ b else if b = ⟨#[]⟩ then a ++ b else if isLD (lastB a) = false then a ++ b else if isLD (firstB b) = false then a ++ b else a ++ ⟨#[32]⟩ ++ b
theorem size_ne {a : ByteArray} (h : a ≠ ⟨#[]⟩) : 0 < a.size := by
  refine Nat.pos_of_ne_zero fun h0 => h ?_
  apply ByteArray.ext
  exact Array.eq_empty_of_size_eq_zero h0
theorem glue_spec (a b : ByteArray) (ha : a.size ≤ 500000000) (hb : b.size ≤ 400000000) : Spec Tryz.prog 36 [] [strA a, strA b] fun _ r => r = strA (glueF a b) := by
  have h1 := letter25_spec (lastB a)
  have h2 := letter25_spec (firstB b)
  unfold glueF
  refine spec_of (cx_ok ord0 xs0 0) (fun _ _ h => h) Tryz.func36 rfl (by kernel_rfl) rfl (by kernel_rfl) ?_
  intro _
  conv => whnf
  by_cases ea : a = ⟨#[]⟩
  · rw [decide_eq_true ea, if_pos ea]
    conv => whnf
    refine ⟨by show a.size + b.size ≤ maxLen; unfold maxLen; omega, ?_⟩
    conv => whnf
    rfl
  · rw [decide_eq_false ea, if_neg ea]
    conv => whnf
    by_cases eb : b = ⟨#[]⟩
    · rw [decide_eq_true eb, if_pos eb]
      conv => whnf
      refine ⟨by show a.size + b.size ≤ maxLen; unfold maxLen; omega, ?_⟩
      conv => whnf
      rfl
    · rw [decide_eq_false eb, if_neg eb]
      have sa := size_ne ea
      have sb := size_ne eb
      conv => whnf
      refine ⟨i64r (by omega), ?_⟩
      conv => whnf
      refine ⟨⟨by omega, by omega⟩, ?_⟩
      rw [show a.data.toList.getD (Int.toNat ((a.size : Int) - 1)) 0 = lastB a from by unfold lastB; congr 1; omega]
      generalize isLD (lastB a) = p at *
      (refine call0 [] rfl (fun _ => h1) ?_; rintro r rfl; conv => whnf)
      cases p
      · rw [if_pos rfl]
        conv => whnf
        refine ⟨by show a.size + b.size ≤ maxLen; unfold maxLen; omega, ?_⟩
        conv => whnf
        rfl
      · rw [if_neg (by decide)]
        conv => whnf
        refine ⟨⟨by omega, by omega⟩, ?_⟩
        rw [show b.data.toList.getD (Int.toNat 0) 0 = firstB b from rfl]
        generalize isLD (firstB b) = q at *
        (refine call0 [] rfl (fun _ => h2) ?_; rintro r rfl; conv => whnf)
        cases q
        · rw [if_pos rfl]
          conv => whnf
          refine ⟨by show a.size + b.size ≤ maxLen; unfold maxLen; omega, ?_⟩
          conv => whnf
          rfl
        · rw [if_neg (by decide)]
          conv => whnf
          refine ⟨by show a.size + 1 ≤ maxLen; unfold maxLen; omega, ?_⟩
          conv => whnf
          refine ⟨by rw [ByteArray.size_append]; show a.size + 1 + b.size ≤ maxLen; unfold maxLen; omega, ?_⟩
          conv => whnf
          rfl
end Go.Proofs.YtndflafkigldmaaGreatDoor.Vm
namespace Go.Proofs.YtndflafkigldmaaGreatDoor.Vm
open Go.RowKit Go.Shelf
set_option linter.unusedSimpArgs false
set_option linter.unusedVariables false
set_option maxRecDepth 100000
def decD (n : Nat) : List UInt8 := if h : n = 0 then [] else decD (n / 10) ++ [UInt8.ofNat (48 + n % 10)]
decreasing_by omega
theorem decD_zero : decD 0 = [] := by unfold decD; simp
theorem decD_pos {n : Nat} (h : n ≠ 0) : decD n = decD (n / 10) ++ [UInt8.ofNat (48 + n % 10)] := by
  rw [decD]; simp [h]
def decS (n : Nat) : List UInt8 := if n = 0 then [48] else decD n
theorem decD_len : ∀ (k n : Nat), n < 10 ^ k → (decD n).length ≤ k
  | k, 0, _ => by rw [decD_zero]; simp
  | 0, n + 1, h => by simp at h
  | k + 1, n + 1, h => by
    rw [decD_pos (by omega), List.length_append]
    have := decD_len k ((n + 1) / 10) (by rw [Nat.pow_succ] at h; omega)
    simp only [List.length_cons, List.length_nil]; omega
def digB : ByteArray := ⟨#[48, 49, 50, 51, 52, 53, 54, 55, 56, 57]⟩
theorem dig_cut (k : Nat) (i j : Nat) (hi : i = k % 10) (hj : j = k % 10 + 1) : digB.extract i j = bs [UInt8.ofNat (48 + k % 10)] := by
  subst hi; subst hj
  have h : ∀ d, d < 10 → digB.extract d (d + 1) = bs [UInt8.ofNat (48 + d)] := by decide +kernel
  exact h _ (Nat.mod_lt _ (by omega))
theorem bs_app (a b : List UInt8) : bs a ++ bs b = bs (a ++ b) := by
  apply ByteArray.ext
  apply Array.toList_inj.1
  simp [bs]
theorem decimal_spec (n : Nat) (hn : n < 1000000000000) : Spec Tryz.prog 34 [] [.v (.int .i64 n)] fun _ r => r = strA (bs (decS n)) := by
  have hlen := decD_len 12 n hn
  refine spec_of (cx_ok ord0 xs0 0) (fun _ _ h => h) Tryz.func34 rfl (by kernel_rfl) rfl (by kernel_rfl) ?_
  intro hok
  conv => whnf
  by_cases h0 : n = 0
  · subst h0
    (refine goA ?_; try with_reducible exact trivial)
    rfl
  · (refine goA ?_; try with_reducible exact trivial)
    refine loop_keep [0, 3] ?_
    conv => whnf
    refine loop_go (fun x : Nat × List UInt8 => [(4, .v (.string (bs x.2))), (5, .v (.int .i64 x.1))]) (fun _ => []) (fun _ => []) (fun x => x.1 ≤ n ∧ decD x.1 ++ x.2 = decD n ∧ x.2.length ≤ 12) (fun x => x.1) (n, []) ?_ ⟨Nat.le_refl _, by simp, by simp⟩ ?_
    · repeat' constructor
    · rintro ⟨k, l⟩ ⟨hk, hd, hl⟩
      simp only at hk hd hl
      have hll : (decD k).length + l.length ≤ 12 := by
        have := congrArg List.length hd
        rw [List.length_append] at this; omega
      conv => whnf
      by_cases hk0 : k = 0
      · subst hk0
        rw [decD_zero, List.nil_append] at hd
        (refine goA ?_; try with_reducible exact trivial)
        have : decS n = l := by unfold decS; rw [if_neg h0, hd]
        rw [this]; rfl
      · have hm : (((k, l).1 : Nat) : Int).tmod 10 = ((k % 10 : Nat) : Int) := by
          show ((k : Int)).tmod 10 = _
          rw [Int.tmod_eq_emod_of_nonneg (by omega)]; omega
        have hq : (((k, l).1 : Nat) : Int).tdiv 10 = ((k / 10 : Nat) : Int) := by
          show ((k : Int)).tdiv 10 = _
          rw [Int.tdiv_eq_ediv_of_nonneg (by omega)]; omega
        (refine goA ?_; try with_reducible exact trivial)
        rw [hm]
        conv => whnf
        (refine goA ?_; try with_reducible exact trivial)
        refine ⟨⟨by omega, by omega, by show _ ≤ (10 : Int); omega⟩, ?_⟩
        rw [show (⟨#[48, 49, 50, 51, 52, 53, 54, 55, 56, 57]⟩ : ByteArray).extract (Int.toNat ((k % 10 : Nat) : Int)) (Int.toNat (((k % 10 : Nat) : Int) + 1)) = bs [UInt8.ofNat (48 + k % 10)] from dig_cut k _ _ (by omega) (by omega)]
        conv => whnf
        refine ⟨by rw [bs_size, bs_size]; show 1 + l.length ≤ maxLen; unfold maxLen; omega, ?_⟩
        rw [show bs [UInt8.ofNat (48 + k % 10)] ++ bs ((k, l).2) = bs (UInt8.ofNat (48 + k % 10) :: l) from bs_app _ _]
        conv => whnf
        (refine goA ?_; try with_reducible exact trivial)
        rw [hq]
        have hd2 : decD (k / 10) ++ UInt8.ofNat (48 + k % 10) :: l = decD n := by
          rw [← hd, decD_pos hk0]; simp
        repeat ((with_reducible refine And.intro ?_ ?_); (focus (first | omega | (with_reducible refine i64r ?_; (first | omega | (simp only [List.length_append, List.length_cons, List.length_nil, List.length_map, ByteArray.size_append]; omega) | (dsimp only; omega))) | (with_reducible refine max_le ?_; (first | omega | (simp only [List.length_append, List.length_cons, List.length_nil, List.length_map, ByteArray.size_append]; omega) | (dsimp only; omega))) | ((fail_if_success (with_reducible refine max_le ?_)); decide) | (simp only [List.length_append, List.length_cons, List.length_nil, List.length_map, ByteArray.size_append]; omega) | (dsimp only; omega) | ((with_reducible refine i64r ?_); dsimp only; omega))); (conv => whnf))
        refine ⟨(k / 10, UInt8.ofNat (48 + k % 10) :: l), le_head ?_, ⟨by show k / 10 ≤ n; omega, hd2, ?_⟩, by show k / 10 < k; omega⟩
        · repeat' constructor
        · have := congrArg List.length hd2
          rw [List.length_append] at this
          show (UInt8.ofNat (48 + k % 10) :: l).length ≤ 12
          omega
theorem decimal_neg (n : Nat) (h0 : n ≠ 0) (hn : n < 1000000000000) : Spec Tryz.prog 34 [] [.v (.int .i64 (-(n : Int)))] fun _ r => r = strA (bs (45 :: decD n)) := by
  have hlen := decD_len 12 n hn
  refine spec_of (cx_ok ord0 xs0 0) (fun _ _ h => h) Tryz.func34 rfl (by kernel_rfl) rfl (by kernel_rfl) ?_
  intro hok
  conv => whnf
  rw [decide_eq_false (show ¬ -(n : Int) = 0 by omega)]
  (refine goA ?_; try with_reducible exact trivial)
  refine loop_keep [0, 3] ?_
  conv => whnf
  refine loop_go (fun x : Nat × List UInt8 => [(4, .v (.string (bs x.2))), (5, .v (.int .i64 (-(x.1 : Int))))]) (fun _ => []) (fun _ => []) (fun x => x.1 ≤ n ∧ decD x.1 ++ x.2 = decD n ∧ x.2.length ≤ 12) (fun x => x.1) (n, []) ?_ ⟨Nat.le_refl _, by simp, by simp⟩ ?_
  · repeat' constructor
  · rintro ⟨k, l⟩ ⟨hk, hd, hl⟩
    simp only at hk hd hl
    have hll : (decD k).length + l.length ≤ 12 := by
      have := congrArg List.length hd
      rw [List.length_append] at this; omega
    conv => whnf
    by_cases hk0 : k = 0
    · subst hk0
      rw [decD_zero, List.nil_append] at hd
      (refine goA ?_; try with_reducible exact trivial)
      refine ⟨by rw [show (bs (0, l).snd).size = l.length from bs_size _]; show 1 + l.length ≤ maxLen; unfold maxLen; omega, ?_⟩
      rw [show (⟨#[45]⟩ : ByteArray) ++ bs ((0, l).2) = bs (45 :: l) from bs_app [45] _, hd]
      (refine goA ?_; try with_reducible exact trivial)
      rfl
    · have hm : (-(((k, l).1 : Nat) : Int)).tmod 10 = -((k % 10 : Nat) : Int) := by
        show (-(k : Int)).tmod 10 = _
        rw [Int.neg_tmod, Int.tmod_eq_emod_of_nonneg (by omega)]; omega
      have hq : (-(((k, l).1 : Nat) : Int)).tdiv 10 = -((k / 10 : Nat) : Int) := by
        show (-(k : Int)).tdiv 10 = _
        rw [Int.neg_tdiv, Int.tdiv_eq_ediv_of_nonneg (by omega)]; omega
      (refine goA ?_; try with_reducible exact trivial)
      rw [hm]
      have hcut : (⟨#[48, 49, 50, 51, 52, 53, 54, 55, 56, 57]⟩ : ByteArray).extract (Int.toNat ((k % 10 : Nat) : Int)) (Int.toNat (((k % 10 : Nat) : Int) + 1)) = bs [UInt8.ofNat (48 + k % 10)] := dig_cut k _ _ (by omega) (by omega)
      have hd2 : decD (k / 10) ++ UInt8.ofNat (48 + k % 10) :: l = decD n := by
        rw [← hd, decD_pos hk0]; simp
      have hln : (UInt8.ofNat (48 + k % 10) :: l).length ≤ 12 := by
        have := congrArg List.length hd2
        rw [List.length_append] at this
        omega
      have hm9 : k % 10 < 10 := Nat.mod_lt _ (by omega)
      have hcut0 : k % 10 = 0 → (⟨#[48, 49, 50, 51, 52, 53, 54, 55, 56, 57]⟩ : ByteArray).extract (Int.toNat (-((k % 10 : Nat) : Int))) (Int.toNat (-((k % 10 : Nat) : Int) + 1)) = bs [UInt8.ofNat (48 + k % 10)] := fun h => dig_cut k _ _ (by omega) (by omega)
      generalize k % 10 = r at *
      by_cases hr : r = 0
      · rw [decide_eq_false (show ¬ -(r : Int) < 0 by omega)]
        conv => whnf
        (refine goA ?_; try with_reducible exact trivial)
        refine ⟨⟨by omega, by omega, by show _ ≤ (10 : Int); omega⟩, ?_⟩
        rw [hcut0 hr]
        conv => whnf
        refine ⟨by rw [bs_size, bs_size]; show 1 + l.length ≤ maxLen; unfold maxLen; omega, ?_⟩
        rw [show bs [UInt8.ofNat (48 + r)] ++ bs ((k, l).2) = bs (UInt8.ofNat (48 + r) :: l) from bs_app _ _]
        conv => whnf
        (refine goA ?_; try with_reducible exact trivial)
        rw [hq]
        repeat ((with_reducible refine And.intro ?_ ?_); (focus (first | omega | (with_reducible refine i64r ?_; (first | omega | (simp only [List.length_append, List.length_cons, List.length_nil, List.length_map, ByteArray.size_append]; omega) | (dsimp only; omega))) | (with_reducible refine max_le ?_; (first | omega | (simp only [List.length_append, List.length_cons, List.length_nil, List.length_map, ByteArray.size_append]; omega) | (dsimp only; omega))) | ((fail_if_success (with_reducible refine max_le ?_)); decide) | (simp only [List.length_append, List.length_cons, List.length_nil, List.length_map, ByteArray.size_append]; omega) | (dsimp only; omega) | ((with_reducible refine i64r ?_); dsimp only; omega))); (conv => whnf))
        refine ⟨(k / 10, UInt8.ofNat (48 + r) :: l), le_head ?_, ⟨by show k / 10 ≤ n; omega, hd2, hln⟩, by show k / 10 < k; omega⟩
        repeat' constructor
      · rw [decide_eq_true (show -(r : Int) < 0 by omega)]
        conv => whnf
        (refine goA ?_; try with_reducible exact trivial)
        refine ⟨⟨by omega, by omega, by show _ ≤ (10 : Int); omega⟩, ?_⟩
        rw [show (0 - -(r : Int)) = r by omega, hcut]
        conv => whnf
        refine ⟨by rw [bs_size, bs_size]; show 1 + l.length ≤ maxLen; unfold maxLen; omega, ?_⟩
        rw [show bs [UInt8.ofNat (48 + r)] ++ bs ((k, l).2) = bs (UInt8.ofNat (48 + r) :: l) from bs_app _ _]
        conv => whnf
        (refine goA ?_; try with_reducible exact trivial)
        rw [hq]
        repeat ((with_reducible refine And.intro ?_ ?_); (focus (first | omega | (with_reducible refine i64r ?_; (first | omega | (simp only [List.length_append, List.length_cons, List.length_nil, List.length_map, ByteArray.size_append]; omega) | (dsimp only; omega))) | (with_reducible refine max_le ?_; (first | omega | (simp only [List.length_append, List.length_cons, List.length_nil, List.length_map, ByteArray.size_append]; omega) | (dsimp only; omega))) | ((fail_if_success (with_reducible refine max_le ?_)); decide) | (simp only [List.length_append, List.length_cons, List.length_nil, List.length_map, ByteArray.size_append]; omega) | (dsimp only; omega) | ((with_reducible refine i64r ?_); dsimp only; omega))); (conv => whnf))
        refine ⟨(k / 10, UInt8.ofNat (48 + r) :: l), le_head ?_, ⟨by show k / 10 ≤ n; omega, hd2, hln⟩, by show k / 10 < k; omega⟩
        repeat' constructor
def decZ (z : Int) : List UInt8 := if z < 0 then 45 :: decD z.natAbs else decS z.natAbs
theorem decZ_spec (z : Int) (h1 : -1000000000000 < z) (h2 : z < 1000000000000) : Spec Tryz.prog 34 [] [.v (.int .i64 z)] fun _ r => r = strA (bs (decZ z)) := by
  unfold decZ
  by_cases h : z < 0
  · rw [if_pos h]
    have := decimal_neg z.natAbs (by omega) (by omega)
    rw [show -((z.natAbs : Nat) : Int) = z by omega] at this
    exact this
  · rw [if_neg h]
    have := decimal_spec z.natAbs (by omega)
    rw [show ((z.natAbs : Nat) : Int) = z by omega] at this
    exact this
theorem decZ_len (z : Int) (h1 : -1000000000000 < z) (h2 : z < 1000000000000) : (decZ z).length ≤ 13 := by
  unfold decZ decS
  have := decD_len 12 z.natAbs (by omega)
  split
  · simp only [List.length_cons]; omega
  · split
    · simp
    · omega
end Go.Proofs.YtndflafkigldmaaGreatDoor.Vm
namespace Go.Proofs.YtndflafkigldmaaGreatDoor.Vm
open Go.RowKit Go.Shelf
set_option linter.unusedSimpArgs false
set_option linter.unusedVariables false
set_option maxRecDepth 100000
def opB (b : Int) : ByteArray := if b = 0 then ⟨#[60]⟩ else if b = 1 then ⟨#[61, 61]⟩ else ⟨#[62]⟩
def parF (p lv : Int) (fu : Bool) (b : ByteArray) : ByteArray := if p < lv then ⟨#[40]⟩ ++ b ++ ⟨#[41]⟩ else if fu = false then b else if p < 5 then ⟨#[40]⟩ ++ b ++ ⟨#[41]⟩ else b
def joinB (sep : ByteArray) (e : ByteArray) : List ByteArray → ByteArray
  | [] => e
  | x :: l => l.foldl (fun a y => a ++ sep ++ y) x
def sepB (k : Int) : ByteArray := if k = 4 then ⟨#[124, 124]⟩ else ⟨#[38, 38]⟩
def empB (k : Int) : ByteArray := if k = 4 then ⟨#[102, 97, 108, 115, 101]⟩ else ⟨#[116, 114, 117, 101]⟩
def nextB : ByteArray := ⟨#[110, 101, 120, 116]⟩
def alwaysB : ByteArray := ⟨#[97, 108, 119, 97, 121, 115]⟩
def evB : ByteArray := ⟨#[101, 118, 101, 110, 116, 117, 97, 108, 108, 121]⟩
def untilB : ByteArray := ⟨#[117, 110, 116, 105, 108]⟩
def bodyF (k a b n : Int) (s4 s3 sj : List ByteArray) : ByteArray :=
  if k = 1 then ⟨#[118]⟩ ++ bs (decZ a) ++ opB b ++ bs (decZ n)
  else if k = 2 then ⟨#[33]⟩ ++ s4.getD 0 ⟨#[]⟩
  else if k = 5 then glueF nextB (s4.getD 0 ⟨#[]⟩)
  else if k = 7 then glueF alwaysB (s4.getD 0 ⟨#[]⟩)
  else if k = 8 then glueF evB (s4.getD 0 ⟨#[]⟩)
  else if k = 6 then glueF (glueF (s4.getD 0 ⟨#[]⟩) untilB) (s3.getD 1 ⟨#[]⟩)
  else joinB (sepB k) (empB k) sj
mutual
def showF : Fm → Int → Bool → ByteArray
  | .mk k a b n l, lv, fu => parF (precF (.mk k a b n l)) lv fu (bodyF k a b n (showsF l 4 fu) (showsF l 3 fu) (showsF l (precF (.mk k a b n l) + 1) fu))
def showsF : List Fm → Int → Bool → List ByteArray
  | [], _, _ => []
  | f :: l, lv, fu => showF f lv fu :: showsF l lv fu
end
theorem showF_mk (k a b n : Int) (l : List Fm) (lv : Int) (fu : Bool) : showF (.mk k a b n l) lv fu = parF (precF (.mk k a b n l)) lv fu (bodyF k a b n (showsF l 4 fu) (showsF l 3 fu) (showsF l (precF (.mk k a b n l) + 1) fu)) := by
  rw [showF]
theorem showsF_map (l : List Fm) (lv : Int) (fu : Bool) : showsF l lv fu = l.map fun f => showF f lv fu := by
  induction l with
  | nil => rw [showsF]; rfl
  | cons f l ih => rw [showsF, ih]; rfl
def ShSpec (f : Fm) : Prop := ∀ lv fu, Spec Tryz.prog 18 [] [.agg (fmA f), intA lv, boolA fu] fun _ r => r = strA (showF f lv fu)
theorem aro3 (b : Int) (h2 : 0 ≤ b ∧ b ≤ 2) : Spec Tryz.prog 35 [] [intA b, intA 3] fun _ r => r = intA b := by
  have hR := around_spec b 3 (by omega)
  rw [show aroundF b 3 = b by rcases (show b = 0 ∨ b = 1 ∨ b = 2 by omega) with rfl | rfl | rfl <;> decide] at hR
  exact hR.mono fun _ _ h => h.2
theorem sh_var (a b n : Int) (h1 : 0 ≤ a ∧ a ≤ 15) (h2 : 0 ≤ b ∧ b ≤ 2) (h3 : -2147483647 ≤ n ∧ n ≤ 2147483647) : ShSpec (.mk 1 a b n []) := fun lv fu => by
  have hp := prec_spec (.mk 1 a b n [])
  have hA := decZ_spec a (by omega) (by omega)
  have hN := decZ_spec n (by omega) (by omega)
  have zA : (bs (decZ a)).size ≤ 13 := by rw [bs_size]; exact decZ_len a (by omega) (by omega)
  have zN : (bs (decZ n)).size ≤ 13 := by rw [bs_size]; exact decZ_len n (by omega) (by omega)
  have hR := aro3 b h2
  have z1 : (⟨#[118]⟩ : ByteArray).size = 1 := rfl
  have z2 : (⟨#[60]⟩ : ByteArray).size = 1 := rfl
  have z3 : (⟨#[61, 61]⟩ : ByteArray).size = 2 := rfl
  have z4 : (⟨#[62]⟩ : ByteArray).size = 1 := rfl
  rw [showF_mk]
  generalize precF (.mk 1 a b n []) = p at *
  unfold bodyF
  rw [if_pos rfl]
  generalize bs (decZ a) = A at *
  generalize bs (decZ n) = N at *
  simp only [fmA, Fm.k, Fm.a, Fm.b, Fm.n, Fm.kids] at *
  rcases (show b = 0 ∨ b = 1 ∨ b = 2 by omega) with rfl | rfl | rfl
  · refine spec_of (cx_ok (fun id => match Nat.beq id 16 with | true => .q 0 7 .nil | false => match Nat.beq id 26 with | true => .q 0 7 .nil | false => match Nat.beq id 11 with | true => .q 0 7 .nil | false => ord18 id) xs0 0) (fun _ _ h => h) Tryz.func18 rfl (by kernel_rfl) rfl (by kernel_rfl) ?_
    intro _
    conv => whnf
    repeat (apply flow_go; (focus ((conv => whnf); exact ⟨rfl, rfl, rfl⟩)); (conv => whnf))
    (apply flow_go; (focus ((conv => whnf); refine call0 [] rfl (fun _ => hA) ?_; rintro r rfl; (conv => whnf); exact ⟨rfl, rfl, rfl⟩)); (conv => whnf))
    repeat (apply flow_go; (focus ((conv => whnf); exact ⟨rfl, rfl, rfl⟩)); (conv => whnf))
    (apply flow_go; (focus ((conv => whnf); (refine ⟨by (try simp only [ByteArray.size_append]); unfold maxLen; omega, ?_⟩); exact ⟨rfl, rfl, rfl⟩)); (conv => whnf))
    repeat (apply flow_go; (focus ((conv => whnf); exact ⟨rfl, rfl, rfl⟩)); (conv => whnf))
    (apply flow_go; (focus ((conv => whnf); refine call0 [] rfl (fun _ => hR) ?_; rintro r rfl; (conv => whnf); exact ⟨rfl, rfl, rfl⟩)); (conv => whnf))
    (apply flow_go; (focus ((conv => whnf); refine ⟨by omega, ?_⟩; (generalize hrq : rowOf _ _ _ = rq; obtain rfl : rq = [strA ⟨#[60]⟩] := hrq.symm.trans (by unfold rowOf; rfl); exact ⟨rfl, rfl, rfl⟩))); (conv => whnf))
    repeat (apply flow_go; (focus ((conv => whnf); exact ⟨rfl, rfl, rfl⟩)); (conv => whnf))
    (apply flow_go; (focus ((conv => whnf); (refine ⟨by (try simp only [ByteArray.size_append]); unfold maxLen; omega, ?_⟩); exact ⟨rfl, rfl, rfl⟩)); (conv => whnf))
    repeat (apply flow_go; (focus ((conv => whnf); exact ⟨rfl, rfl, rfl⟩)); (conv => whnf))
    (apply flow_go; (focus ((conv => whnf); refine call0 [] rfl (fun _ => hN) ?_; rintro r rfl; (conv => whnf); exact ⟨rfl, rfl, rfl⟩)); (conv => whnf))
    repeat (apply flow_go; (focus ((conv => whnf); exact ⟨rfl, rfl, rfl⟩)); (conv => whnf))
    (apply flow_go; (focus ((conv => whnf); (refine ⟨by (try simp only [ByteArray.size_append]); unfold maxLen; omega, ?_⟩); exact ⟨rfl, rfl, rfl⟩)); (conv => whnf))
    repeat (apply flow_go; (focus ((conv => whnf); exact ⟨rfl, rfl, rfl⟩)); (conv => whnf))
    unfold parF
    (refine call0 [] rfl (fun _ => hp) ?_; rintro r rfl; conv => whnf)
    by_cases g1 : p < lv
    · rw [decide_eq_true g1, if_pos g1]
      conv => whnf
      refine ⟨by show 1 + _ ≤ maxLen; (try simp only [ByteArray.size_append]); unfold maxLen; omega, ?_⟩
      conv => whnf
      refine ⟨by rw [ByteArray.size_append]; show 1 + _ + 1 ≤ maxLen; (try simp only [ByteArray.size_append]); unfold maxLen; omega, ?_⟩
      conv => whnf
      rfl
    · rw [decide_eq_false g1, if_neg g1]
      conv => whnf
      cases fu
      · rw [if_pos rfl]
        conv => whnf
        rfl
      · rw [if_neg (by decide)]
        conv => whnf
        (refine call0 [] rfl (fun _ => hp) ?_; rintro r rfl; conv => whnf)
        by_cases g2 : p < 5
        · rw [decide_eq_true g2, if_pos g2]
          conv => whnf
          refine ⟨by show 1 + _ ≤ maxLen; (try simp only [ByteArray.size_append]); unfold maxLen; omega, ?_⟩
          conv => whnf
          refine ⟨by rw [ByteArray.size_append]; show 1 + _ + 1 ≤ maxLen; (try simp only [ByteArray.size_append]); unfold maxLen; omega, ?_⟩
          conv => whnf
          rfl
        · rw [decide_eq_false g2, if_neg g2]
          conv => whnf
          rfl
  · refine spec_of (cx_ok (fun id => match Nat.beq id 16 with | true => .q 0 7 .nil | false => match Nat.beq id 26 with | true => .q 0 7 .nil | false => match Nat.beq id 11 with | true => .q 0 7 .nil | false => ord18 id) xs0 0) (fun _ _ h => h) Tryz.func18 rfl (by kernel_rfl) rfl (by kernel_rfl) ?_
    intro _
    conv => whnf
    repeat (apply flow_go; (focus ((conv => whnf); exact ⟨rfl, rfl, rfl⟩)); (conv => whnf))
    (apply flow_go; (focus ((conv => whnf); refine call0 [] rfl (fun _ => hA) ?_; rintro r rfl; (conv => whnf); exact ⟨rfl, rfl, rfl⟩)); (conv => whnf))
    repeat (apply flow_go; (focus ((conv => whnf); exact ⟨rfl, rfl, rfl⟩)); (conv => whnf))
    (apply flow_go; (focus ((conv => whnf); (refine ⟨by (try simp only [ByteArray.size_append]); unfold maxLen; omega, ?_⟩); exact ⟨rfl, rfl, rfl⟩)); (conv => whnf))
    repeat (apply flow_go; (focus ((conv => whnf); exact ⟨rfl, rfl, rfl⟩)); (conv => whnf))
    (apply flow_go; (focus ((conv => whnf); refine call0 [] rfl (fun _ => hR) ?_; rintro r rfl; (conv => whnf); exact ⟨rfl, rfl, rfl⟩)); (conv => whnf))
    (apply flow_go; (focus ((conv => whnf); refine ⟨by omega, ?_⟩; (generalize hrq : rowOf _ _ _ = rq; obtain rfl : rq = [strA ⟨#[61, 61]⟩] := hrq.symm.trans (by unfold rowOf; rfl); exact ⟨rfl, rfl, rfl⟩))); (conv => whnf))
    repeat (apply flow_go; (focus ((conv => whnf); exact ⟨rfl, rfl, rfl⟩)); (conv => whnf))
    (apply flow_go; (focus ((conv => whnf); (refine ⟨by (try simp only [ByteArray.size_append]); unfold maxLen; omega, ?_⟩); exact ⟨rfl, rfl, rfl⟩)); (conv => whnf))
    repeat (apply flow_go; (focus ((conv => whnf); exact ⟨rfl, rfl, rfl⟩)); (conv => whnf))
    (apply flow_go; (focus ((conv => whnf); refine call0 [] rfl (fun _ => hN) ?_; rintro r rfl; (conv => whnf); exact ⟨rfl, rfl, rfl⟩)); (conv => whnf))
    repeat (apply flow_go; (focus ((conv => whnf); exact ⟨rfl, rfl, rfl⟩)); (conv => whnf))
    (apply flow_go; (focus ((conv => whnf); (refine ⟨by (try simp only [ByteArray.size_append]); unfold maxLen; omega, ?_⟩); exact ⟨rfl, rfl, rfl⟩)); (conv => whnf))
    repeat (apply flow_go; (focus ((conv => whnf); exact ⟨rfl, rfl, rfl⟩)); (conv => whnf))
    unfold parF
    (refine call0 [] rfl (fun _ => hp) ?_; rintro r rfl; conv => whnf)
    by_cases g1 : p < lv
    · rw [decide_eq_true g1, if_pos g1]
      conv => whnf
      refine ⟨by show 1 + _ ≤ maxLen; (try simp only [ByteArray.size_append]); unfold maxLen; omega, ?_⟩
      conv => whnf
      refine ⟨by rw [ByteArray.size_append]; show 1 + _ + 1 ≤ maxLen; (try simp only [ByteArray.size_append]); unfold maxLen; omega, ?_⟩
      conv => whnf
      rfl
    · rw [decide_eq_false g1, if_neg g1]
      conv => whnf
      cases fu
      · rw [if_pos rfl]
        conv => whnf
        rfl
      · rw [if_neg (by decide)]
        conv => whnf
        (refine call0 [] rfl (fun _ => hp) ?_; rintro r rfl; conv => whnf)
        by_cases g2 : p < 5
        · rw [decide_eq_true g2, if_pos g2]
          conv => whnf
          refine ⟨by show 1 + _ ≤ maxLen; (try simp only [ByteArray.size_append]); unfold maxLen; omega, ?_⟩
          conv => whnf
          refine ⟨by rw [ByteArray.size_append]; show 1 + _ + 1 ≤ maxLen; (try simp only [ByteArray.size_append]); unfold maxLen; omega, ?_⟩
          conv => whnf
          rfl
        · rw [decide_eq_false g2, if_neg g2]
          conv => whnf
          rfl
  · refine spec_of (cx_ok (fun id => match Nat.beq id 16 with | true => .q 0 7 .nil | false => match Nat.beq id 26 with | true => .q 0 7 .nil | false => match Nat.beq id 11 with | true => .q 0 7 .nil | false => ord18 id) xs0 0) (fun _ _ h => h) Tryz.func18 rfl (by kernel_rfl) rfl (by kernel_rfl) ?_
    intro _
    conv => whnf
    repeat (apply flow_go; (focus ((conv => whnf); exact ⟨rfl, rfl, rfl⟩)); (conv => whnf))
    (apply flow_go; (focus ((conv => whnf); refine call0 [] rfl (fun _ => hA) ?_; rintro r rfl; (conv => whnf); exact ⟨rfl, rfl, rfl⟩)); (conv => whnf))
    repeat (apply flow_go; (focus ((conv => whnf); exact ⟨rfl, rfl, rfl⟩)); (conv => whnf))
    (apply flow_go; (focus ((conv => whnf); (refine ⟨by (try simp only [ByteArray.size_append]); unfold maxLen; omega, ?_⟩); exact ⟨rfl, rfl, rfl⟩)); (conv => whnf))
    repeat (apply flow_go; (focus ((conv => whnf); exact ⟨rfl, rfl, rfl⟩)); (conv => whnf))
    (apply flow_go; (focus ((conv => whnf); refine call0 [] rfl (fun _ => hR) ?_; rintro r rfl; (conv => whnf); exact ⟨rfl, rfl, rfl⟩)); (conv => whnf))
    (apply flow_go; (focus ((conv => whnf); refine ⟨by omega, ?_⟩; (generalize hrq : rowOf _ _ _ = rq; obtain rfl : rq = [strA ⟨#[62]⟩] := hrq.symm.trans (by unfold rowOf; rfl); exact ⟨rfl, rfl, rfl⟩))); (conv => whnf))
    repeat (apply flow_go; (focus ((conv => whnf); exact ⟨rfl, rfl, rfl⟩)); (conv => whnf))
    (apply flow_go; (focus ((conv => whnf); (refine ⟨by (try simp only [ByteArray.size_append]); unfold maxLen; omega, ?_⟩); exact ⟨rfl, rfl, rfl⟩)); (conv => whnf))
    repeat (apply flow_go; (focus ((conv => whnf); exact ⟨rfl, rfl, rfl⟩)); (conv => whnf))
    (apply flow_go; (focus ((conv => whnf); refine call0 [] rfl (fun _ => hN) ?_; rintro r rfl; (conv => whnf); exact ⟨rfl, rfl, rfl⟩)); (conv => whnf))
    repeat (apply flow_go; (focus ((conv => whnf); exact ⟨rfl, rfl, rfl⟩)); (conv => whnf))
    (apply flow_go; (focus ((conv => whnf); (refine ⟨by (try simp only [ByteArray.size_append]); unfold maxLen; omega, ?_⟩); exact ⟨rfl, rfl, rfl⟩)); (conv => whnf))
    repeat (apply flow_go; (focus ((conv => whnf); exact ⟨rfl, rfl, rfl⟩)); (conv => whnf))
    unfold parF
    (refine call0 [] rfl (fun _ => hp) ?_; rintro r rfl; conv => whnf)
    by_cases g1 : p < lv
    · rw [decide_eq_true g1, if_pos g1]
      conv => whnf
      refine ⟨by show 1 + _ ≤ maxLen; (try simp only [ByteArray.size_append]); unfold maxLen; omega, ?_⟩
      conv => whnf
      refine ⟨by rw [ByteArray.size_append]; show 1 + _ + 1 ≤ maxLen; (try simp only [ByteArray.size_append]); unfold maxLen; omega, ?_⟩
      conv => whnf
      rfl
    · rw [decide_eq_false g1, if_neg g1]
      conv => whnf
      cases fu
      · rw [if_pos rfl]
        conv => whnf
        rfl
      · rw [if_neg (by decide)]
        conv => whnf
        (refine call0 [] rfl (fun _ => hp) ?_; rintro r rfl; conv => whnf)
        by_cases g2 : p < 5
        · rw [decide_eq_true g2, if_pos g2]
          conv => whnf
          refine ⟨by show 1 + _ ≤ maxLen; (try simp only [ByteArray.size_append]); unfold maxLen; omega, ?_⟩
          conv => whnf
          refine ⟨by rw [ByteArray.size_append]; show 1 + _ + 1 ≤ maxLen; (try simp only [ByteArray.size_append]); unfold maxLen; omega, ?_⟩
          conv => whnf
          rfl
        · rw [decide_eq_false g2, if_neg g2]
          conv => whnf
          rfl
end Go.Proofs.YtndflafkigldmaaGreatDoor.Vm
namespace Go.Proofs.YtndflafkigldmaaGreatDoor.Vm
open Go.RowKit Go.Shelf
set_option linter.unusedSimpArgs false
set_option linter.unusedVariables false
set_option maxRecDepth 100000
theorem glue_size (a b : ByteArray) : (glueF a b).size ≤ a.size + b.size + 1 := by
  have h : (⟨#[32]⟩ : ByteArray).size = 1 := rfl
  unfold glueF
  repeat' split
  all_goals (simp only [ByteArray.size_append]; omega)
theorem sh_not (f : Fm) (ih : ShSpec f) (hz : ∀ lv fu, (showF f lv fu).size ≤ 10000000) : ShSpec (.mk 2 0 0 0 [f]) := fun lv fu => by
  have hp := prec_spec (.mk 2 0 0 0 [f])
  have i4 := ih 4 fu
  have z4 := hz 4 fu
  have hr0 : rowOf 5 (Int.toNat 0) (fmsA [f]) = fmA f := rowOf_fms [f] 0 (by simp)
  have y1 : (⟨#[33]⟩ : ByteArray).size = 1 := rfl
  rw [showF_mk, showsF_map, showsF_map, showsF_map]
  generalize precF (.mk 2 0 0 0 [f]) = p at *
  rw [show ∀ l m, bodyF 2 0 0 0 ([f].map fun f => showF f 4 fu) l m = HAppend.hAppend (⟨#[33]⟩ : ByteArray) (showF f 4 fu) from fun _ _ => rfl]
  generalize showF f 4 fu = x at *
  rw [fmA_mk] at hp ⊢
  refine spec_of (cx_ok (fun id => match Nat.beq id 16 with | true => .q 0 7 .nil | false => match Nat.beq id 26 with | true => .q 0 7 .nil | false => match Nat.beq id 11 with | true => .q 0 7 .nil | false => ord18 id) xs0 0) (fun _ _ h => h) Tryz.func18 rfl (by kernel_rfl) rfl (by kernel_rfl) ?_
  intro _
  conv => whnf
  (refine goA ?_; try with_reducible exact trivial)
  (generalize hrq : rowOf _ _ (fmsA [f]) = rq; obtain rfl : rq = fmA f := hrq.symm.trans (hr0); clear hrq; conv => whnf)
  (refine call0 [] rfl (fun _ => i4) ?_; rintro r rfl; conv => whnf)
  refine ⟨by unfold maxLen; omega, ?_⟩
  conv => whnf
  unfold parF
  (refine call0 [] rfl (fun _ => hp) ?_; rintro r rfl; conv => whnf)
  by_cases g1 : p < lv
  · rw [decide_eq_true g1, if_pos g1]
    conv => whnf
    refine ⟨by show 1 + _ ≤ maxLen; (try simp only [ByteArray.size_append]); unfold maxLen; omega, ?_⟩
    conv => whnf
    refine ⟨by rw [ByteArray.size_append]; show 1 + _ + 1 ≤ maxLen; (try simp only [ByteArray.size_append]); unfold maxLen; omega, ?_⟩
    conv => whnf
    rfl
  · rw [decide_eq_false g1, if_neg g1]
    conv => whnf
    cases fu
    · rw [if_pos rfl]
      conv => whnf
      rfl
    · rw [if_neg (by decide)]
      conv => whnf
      (refine call0 [] rfl (fun _ => hp) ?_; rintro r rfl; conv => whnf)
      by_cases g2 : p < 5
      · rw [decide_eq_true g2, if_pos g2]
        conv => whnf
        refine ⟨by show 1 + _ ≤ maxLen; (try simp only [ByteArray.size_append]); unfold maxLen; omega, ?_⟩
        conv => whnf
        refine ⟨by rw [ByteArray.size_append]; show 1 + _ + 1 ≤ maxLen; (try simp only [ByteArray.size_append]); unfold maxLen; omega, ?_⟩
        conv => whnf
        rfl
      · rw [decide_eq_false g2, if_neg g2]
        conv => whnf
        rfl
theorem sh_next (f : Fm) (ih : ShSpec f) (hz : ∀ lv fu, (showF f lv fu).size ≤ 10000000) : ShSpec (.mk 5 0 0 0 [f]) := fun lv fu => by
  have hp := prec_spec (.mk 5 0 0 0 [f])
  have i4 := ih 4 fu
  have z4 := hz 4 fu
  have hr0 : rowOf 5 (Int.toNat 0) (fmsA [f]) = fmA f := rowOf_fms [f] 0 (by simp)
  have y1 : (⟨#[33]⟩ : ByteArray).size = 1 := rfl
  rw [showF_mk, showsF_map, showsF_map, showsF_map]
  generalize precF (.mk 5 0 0 0 [f]) = p at *
  rw [show ∀ l m, bodyF 5 0 0 0 ([f].map fun f => showF f 4 fu) l m = glueF nextB (showF f 4 fu) from fun _ _ => rfl]
  generalize showF f 4 fu = x at *
  rw [fmA_mk] at hp ⊢
  refine spec_of (cx_ok (fun id => match Nat.beq id 16 with | true => .q 0 7 .nil | false => match Nat.beq id 26 with | true => .q 0 7 .nil | false => match Nat.beq id 11 with | true => .q 0 7 .nil | false => ord18 id) xs0 0) (fun _ _ h => h) Tryz.func18 rfl (by kernel_rfl) rfl (by kernel_rfl) ?_
  intro _
  conv => whnf
  (refine goA ?_; try with_reducible exact trivial)
  (generalize hrq : rowOf _ _ (fmsA [f]) = rq; obtain rfl : rq = fmA f := hrq.symm.trans (hr0); clear hrq; conv => whnf)
  (refine call0 [] rfl (fun _ => i4) ?_; rintro r rfl; conv => whnf)
  have hg := glue_spec nextB x (by decide) (by omega)
  have zg := glue_size nextB x
  have y2 : (nextB).size ≤ 10 := by decide
  generalize glueF nextB x = y at *
  unfold nextB at hg
  (refine call0 [] rfl (fun _ => hg) ?_; rintro r rfl; conv => whnf)
  unfold parF
  (refine call0 [] rfl (fun _ => hp) ?_; rintro r rfl; conv => whnf)
  by_cases g1 : p < lv
  · rw [decide_eq_true g1, if_pos g1]
    conv => whnf
    refine ⟨by show 1 + _ ≤ maxLen; (try simp only [ByteArray.size_append]); unfold maxLen; omega, ?_⟩
    conv => whnf
    refine ⟨by rw [ByteArray.size_append]; show 1 + _ + 1 ≤ maxLen; (try simp only [ByteArray.size_append]); unfold maxLen; omega, ?_⟩
    conv => whnf
    rfl
  · rw [decide_eq_false g1, if_neg g1]
    conv => whnf
    cases fu
    · rw [if_pos rfl]
      conv => whnf
      rfl
    · rw [if_neg (by decide)]
      conv => whnf
      (refine call0 [] rfl (fun _ => hp) ?_; rintro r rfl; conv => whnf)
      by_cases g2 : p < 5
      · rw [decide_eq_true g2, if_pos g2]
        conv => whnf
        refine ⟨by show 1 + _ ≤ maxLen; (try simp only [ByteArray.size_append]); unfold maxLen; omega, ?_⟩
        conv => whnf
        refine ⟨by rw [ByteArray.size_append]; show 1 + _ + 1 ≤ maxLen; (try simp only [ByteArray.size_append]); unfold maxLen; omega, ?_⟩
        conv => whnf
        rfl
      · rw [decide_eq_false g2, if_neg g2]
        conv => whnf
        rfl
theorem sh_always (f : Fm) (ih : ShSpec f) (hz : ∀ lv fu, (showF f lv fu).size ≤ 10000000) : ShSpec (.mk 7 0 0 0 [f]) := fun lv fu => by
  have hp := prec_spec (.mk 7 0 0 0 [f])
  have i4 := ih 4 fu
  have z4 := hz 4 fu
  have hr0 : rowOf 5 (Int.toNat 0) (fmsA [f]) = fmA f := rowOf_fms [f] 0 (by simp)
  have y1 : (⟨#[33]⟩ : ByteArray).size = 1 := rfl
  rw [showF_mk, showsF_map, showsF_map, showsF_map]
  generalize precF (.mk 7 0 0 0 [f]) = p at *
  rw [show ∀ l m, bodyF 7 0 0 0 ([f].map fun f => showF f 4 fu) l m = glueF alwaysB (showF f 4 fu) from fun _ _ => rfl]
  generalize showF f 4 fu = x at *
  rw [fmA_mk] at hp ⊢
  refine spec_of (cx_ok (fun id => match Nat.beq id 16 with | true => .q 0 7 .nil | false => match Nat.beq id 26 with | true => .q 0 7 .nil | false => match Nat.beq id 11 with | true => .q 0 7 .nil | false => ord18 id) xs0 0) (fun _ _ h => h) Tryz.func18 rfl (by kernel_rfl) rfl (by kernel_rfl) ?_
  intro _
  conv => whnf
  (refine goA ?_; try with_reducible exact trivial)
  (generalize hrq : rowOf _ _ (fmsA [f]) = rq; obtain rfl : rq = fmA f := hrq.symm.trans (hr0); clear hrq; conv => whnf)
  (refine call0 [] rfl (fun _ => i4) ?_; rintro r rfl; conv => whnf)
  have hg := glue_spec alwaysB x (by decide) (by omega)
  have zg := glue_size alwaysB x
  have y2 : (alwaysB).size ≤ 10 := by decide
  generalize glueF alwaysB x = y at *
  unfold alwaysB at hg
  (refine call0 [] rfl (fun _ => hg) ?_; rintro r rfl; conv => whnf)
  unfold parF
  (refine call0 [] rfl (fun _ => hp) ?_; rintro r rfl; conv => whnf)
  by_cases g1 : p < lv
  · rw [decide_eq_true g1, if_pos g1]
    conv => whnf
    refine ⟨by show 1 + _ ≤ maxLen; (try simp only [ByteArray.size_append]); unfold maxLen; omega, ?_⟩
    conv => whnf
    refine ⟨by rw [ByteArray.size_append]; show 1 + _ + 1 ≤ maxLen; (try simp only [ByteArray.size_append]); unfold maxLen; omega, ?_⟩
    conv => whnf
    rfl
  · rw [decide_eq_false g1, if_neg g1]
    conv => whnf
    cases fu
    · rw [if_pos rfl]
      conv => whnf
      rfl
    · rw [if_neg (by decide)]
      conv => whnf
      (refine call0 [] rfl (fun _ => hp) ?_; rintro r rfl; conv => whnf)
      by_cases g2 : p < 5
      · rw [decide_eq_true g2, if_pos g2]
        conv => whnf
        refine ⟨by show 1 + _ ≤ maxLen; (try simp only [ByteArray.size_append]); unfold maxLen; omega, ?_⟩
        conv => whnf
        refine ⟨by rw [ByteArray.size_append]; show 1 + _ + 1 ≤ maxLen; (try simp only [ByteArray.size_append]); unfold maxLen; omega, ?_⟩
        conv => whnf
        rfl
      · rw [decide_eq_false g2, if_neg g2]
        conv => whnf
        rfl
theorem sh_ev (f : Fm) (ih : ShSpec f) (hz : ∀ lv fu, (showF f lv fu).size ≤ 10000000) : ShSpec (.mk 8 0 0 0 [f]) := fun lv fu => by
  have hp := prec_spec (.mk 8 0 0 0 [f])
  have i4 := ih 4 fu
  have z4 := hz 4 fu
  have hr0 : rowOf 5 (Int.toNat 0) (fmsA [f]) = fmA f := rowOf_fms [f] 0 (by simp)
  have y1 : (⟨#[33]⟩ : ByteArray).size = 1 := rfl
  rw [showF_mk, showsF_map, showsF_map, showsF_map]
  generalize precF (.mk 8 0 0 0 [f]) = p at *
  rw [show ∀ l m, bodyF 8 0 0 0 ([f].map fun f => showF f 4 fu) l m = glueF evB (showF f 4 fu) from fun _ _ => rfl]
  generalize showF f 4 fu = x at *
  rw [fmA_mk] at hp ⊢
  refine spec_of (cx_ok (fun id => match Nat.beq id 16 with | true => .q 0 7 .nil | false => match Nat.beq id 26 with | true => .q 0 7 .nil | false => match Nat.beq id 11 with | true => .q 0 7 .nil | false => ord18 id) xs0 0) (fun _ _ h => h) Tryz.func18 rfl (by kernel_rfl) rfl (by kernel_rfl) ?_
  intro _
  conv => whnf
  (refine goA ?_; try with_reducible exact trivial)
  (generalize hrq : rowOf _ _ (fmsA [f]) = rq; obtain rfl : rq = fmA f := hrq.symm.trans (hr0); clear hrq; conv => whnf)
  (refine call0 [] rfl (fun _ => i4) ?_; rintro r rfl; conv => whnf)
  have hg := glue_spec evB x (by decide) (by omega)
  have zg := glue_size evB x
  have y2 : (evB).size ≤ 10 := by decide
  generalize glueF evB x = y at *
  unfold evB at hg
  (refine call0 [] rfl (fun _ => hg) ?_; rintro r rfl; conv => whnf)
  unfold parF
  (refine call0 [] rfl (fun _ => hp) ?_; rintro r rfl; conv => whnf)
  by_cases g1 : p < lv
  · rw [decide_eq_true g1, if_pos g1]
    conv => whnf
    refine ⟨by show 1 + _ ≤ maxLen; (try simp only [ByteArray.size_append]); unfold maxLen; omega, ?_⟩
    conv => whnf
    refine ⟨by rw [ByteArray.size_append]; show 1 + _ + 1 ≤ maxLen; (try simp only [ByteArray.size_append]); unfold maxLen; omega, ?_⟩
    conv => whnf
    rfl
  · rw [decide_eq_false g1, if_neg g1]
    conv => whnf
    cases fu
    · rw [if_pos rfl]
      conv => whnf
      rfl
    · rw [if_neg (by decide)]
      conv => whnf
      (refine call0 [] rfl (fun _ => hp) ?_; rintro r rfl; conv => whnf)
      by_cases g2 : p < 5
      · rw [decide_eq_true g2, if_pos g2]
        conv => whnf
        refine ⟨by show 1 + _ ≤ maxLen; (try simp only [ByteArray.size_append]); unfold maxLen; omega, ?_⟩
        conv => whnf
        refine ⟨by rw [ByteArray.size_append]; show 1 + _ + 1 ≤ maxLen; (try simp only [ByteArray.size_append]); unfold maxLen; omega, ?_⟩
        conv => whnf
        rfl
      · rw [decide_eq_false g2, if_neg g2]
        conv => whnf
        rfl
end Go.Proofs.YtndflafkigldmaaGreatDoor.Vm
namespace Go.Proofs.YtndflafkigldmaaGreatDoor.Vm
open Go.RowKit Go.Shelf
set_option linter.unusedSimpArgs false
set_option linter.unusedVariables false
set_option maxRecDepth 100000
theorem sh_til (f g : Fm) (ih : ShSpec f) (ih2 : ShSpec g) (hz : ∀ lv fu, (showF f lv fu).size ≤ 10000000) (hz2 : ∀ lv fu, (showF g lv fu).size ≤ 10000000) : ShSpec (.mk 6 0 0 0 [f, g]) := fun lv fu => by
  have hp := prec_spec (.mk 6 0 0 0 [f, g])
  have i4 := ih 4 fu
  have i3 := ih2 3 fu
  have z4 := hz 4 fu
  have z3 := hz2 3 fu
  have hr0 : rowOf 5 (Int.toNat 0) (fmsA [f, g]) = fmA f := rowOf_fms [f, g] 0 (by simp)
  have hr1 : rowOf 5 (Int.toNat 1) (fmsA [f, g]) = fmA g := rowOf_fms [f, g] 1 (by simp)
  rw [showF_mk, showsF_map, showsF_map, showsF_map]
  generalize precF (.mk 6 0 0 0 [f, g]) = p at *
  rw [show ∀ m, bodyF 6 0 0 0 ([f, g].map fun f => showF f 4 fu) ([f, g].map fun f => showF f 3 fu) m = glueF (glueF (showF f 4 fu) untilB) (showF g 3 fu) from fun _ => rfl]
  generalize showF f 4 fu = x at *
  generalize showF g 3 fu = x2 at *
  have ln : [f, g].length = 2 := rfl
  have y2 : untilB.size ≤ 10 := by decide
  have zg := glue_size x untilB
  have hg := glue_spec x untilB (by omega) (by omega)
  have hg2 := glue_spec (glueF x untilB) x2 (by omega) (by omega)
  have zg2 := glue_size (glueF x untilB) x2
  generalize glueF (glueF x untilB) x2 = y at *
  generalize glueF x untilB = u at *
  unfold untilB at hg
  rw [fmA_mk] at hp ⊢
  refine spec_of (cx_ok (fun id => match Nat.beq id 16 with | true => .q 0 7 .nil | false => match Nat.beq id 26 with | true => .q 0 7 .nil | false => match Nat.beq id 11 with | true => .q 0 7 .nil | false => ord18 id) xs0 0) (fun _ _ h => h) Tryz.func18 rfl (by kernel_rfl) rfl (by kernel_rfl) ?_
  intro _
  conv => whnf
  repeat (apply flow_go; (focus ((conv => whnf); exact ⟨rfl, rfl, rfl⟩)); (conv => whnf))
  (apply flow_go; (focus ((conv => whnf); refine ⟨by omega, ?_⟩; (generalize hrq : rowOf _ _ (fmsA [f, g]) = rq; obtain rfl : rq = fmA f := hrq.symm.trans (hr0); exact ⟨rfl, rfl, rfl⟩))); (conv => whnf))
  repeat (apply flow_go; (focus ((conv => whnf); exact ⟨rfl, rfl, rfl⟩)); (conv => whnf))
  (apply flow_go; (focus ((conv => whnf); refine call0 [] rfl (fun _ => i4) ?_; rintro r rfl; (conv => whnf); exact ⟨rfl, rfl, rfl⟩)); (conv => whnf))
  repeat (apply flow_go; (focus ((conv => whnf); exact ⟨rfl, rfl, rfl⟩)); (conv => whnf))
  (apply flow_go; (focus ((conv => whnf); refine call0 [] rfl (fun _ => hg) ?_; rintro r rfl; (conv => whnf); exact ⟨rfl, rfl, rfl⟩)); (conv => whnf))
  repeat (apply flow_go; (focus ((conv => whnf); exact ⟨rfl, rfl, rfl⟩)); (conv => whnf))
  (apply flow_go; (focus ((conv => whnf); refine ⟨by omega, ?_⟩; (generalize hrq : rowOf _ _ (fmsA [f, g]) = rq; obtain rfl : rq = fmA g := hrq.symm.trans (hr1); exact ⟨rfl, rfl, rfl⟩))); (conv => whnf))
  repeat (apply flow_go; (focus ((conv => whnf); exact ⟨rfl, rfl, rfl⟩)); (conv => whnf))
  (apply flow_go; (focus ((conv => whnf); refine call0 [] rfl (fun _ => i3) ?_; rintro r rfl; (conv => whnf); exact ⟨rfl, rfl, rfl⟩)); (conv => whnf))
  repeat (apply flow_go; (focus ((conv => whnf); exact ⟨rfl, rfl, rfl⟩)); (conv => whnf))
  (apply flow_go; (focus ((conv => whnf); refine call0 [] rfl (fun _ => hg2) ?_; rintro r rfl; (conv => whnf); exact ⟨rfl, rfl, rfl⟩)); (conv => whnf))
  repeat (apply flow_go; (focus ((conv => whnf); exact ⟨rfl, rfl, rfl⟩)); (conv => whnf))
  unfold parF
  (refine call0 [] rfl (fun _ => hp) ?_; rintro r rfl; conv => whnf)
  by_cases g1 : p < lv
  · rw [decide_eq_true g1, if_pos g1]
    conv => whnf
    refine ⟨by show 1 + _ ≤ maxLen; (try simp only [ByteArray.size_append]); unfold maxLen; omega, ?_⟩
    conv => whnf
    refine ⟨by rw [ByteArray.size_append]; show 1 + _ + 1 ≤ maxLen; (try simp only [ByteArray.size_append]); unfold maxLen; omega, ?_⟩
    conv => whnf
    rfl
  · rw [decide_eq_false g1, if_neg g1]
    conv => whnf
    cases fu
    · rw [if_pos rfl]
      conv => whnf
      rfl
    · rw [if_neg (by decide)]
      conv => whnf
      (refine call0 [] rfl (fun _ => hp) ?_; rintro r rfl; conv => whnf)
      by_cases g2 : p < 5
      · rw [decide_eq_true g2, if_pos g2]
        conv => whnf
        refine ⟨by show 1 + _ ≤ maxLen; (try simp only [ByteArray.size_append]); unfold maxLen; omega, ?_⟩
        conv => whnf
        refine ⟨by rw [ByteArray.size_append]; show 1 + _ + 1 ≤ maxLen; (try simp only [ByteArray.size_append]); unfold maxLen; omega, ?_⟩
        conv => whnf
        rfl
      · rw [decide_eq_false g2, if_neg g2]
        conv => whnf
        rfl
end Go.Proofs.YtndflafkigldmaaGreatDoor.Vm
namespace Go.Proofs.YtndflafkigldmaaGreatDoor.Vm
open Go.RowKit Go.Shelf
set_option linter.unusedSimpArgs false
set_option linter.unusedVariables false
set_option maxRecDepth 100000
theorem joinB_one (s e y : ByteArray) : joinB s e [y] = y := rfl
theorem joinB_snoc (s e y : ByteArray) (l : List ByteArray) (h : l ≠ []) : joinB s e (l ++ [y]) = joinB s e l ++ s ++ y := by
  cases l with
  | nil => exact absurd rfl h
  | cons x l => simp only [joinB, List.cons_append, List.foldl_append, List.foldl_cons, List.foldl_nil]
theorem fold_size (s : ByteArray) (B : Nat) : ∀ (l : List ByteArray) (a : ByteArray), (∀ y ∈ l, y.size ≤ B) → (l.foldl (fun a y => a ++ s ++ y) a).size ≤ a.size + l.length * (B + s.size)
  | [], a, _ => by simp
  | y :: l, a, h => by
    have h1 := fold_size s B l (a ++ s ++ y) fun z hz => h z (by simp [hz])
    have h2 := h y (by simp)
    rw [List.foldl_cons, List.length_cons, Nat.add_mul]
    simp only [ByteArray.size_append] at h1
    omega
theorem joinB_size (s e : ByteArray) (B : Nat) (l : List ByteArray) (h : ∀ y ∈ l, y.size ≤ B) : (joinB s e l).size ≤ e.size + l.length * (B + s.size) := by
  cases l with
  | nil => simp [joinB]
  | cons x l =>
    have h1 := fold_size s B l x fun z hz => h z (by simp [hz])
    have h2 := h x (by simp)
    show (l.foldl (fun a y => a ++ s ++ y) x).size ≤ _
    rw [List.length_cons, Nat.add_mul]
    omega
theorem prec_le (f : Fm) : 0 ≤ precF f ∧ precF f ≤ 5 := by unfold precF; repeat' split <;> omega
def accB (s e : ByteArray) (T : Fm → ByteArray) (l : List Fm) (j : Nat) : ByteArray := joinB s e ((l.take j).map T)
theorem accB_succ (s e : ByteArray) (T : Fm → ByteArray) (l : List Fm) (j : Nat) (h : j < l.length) : (j = 0 → T l[j] = accB s e T l (j + 1)) ∧ (j ≠ 0 → accB s e T l j ++ s ++ T l[j] = accB s e T l (j + 1)) := by
  unfold accB
  rw [List.take_succ_eq_append_getElem h, List.map_append]
  refine ⟨fun h0 => by subst h0; rfl, fun h0 => ?_⟩
  rw [show [l[j]].map T = [T l[j]] from rfl, joinB_snoc]
  intro h1
  have := congrArg List.length h1
  rw [List.length_map, List.length_take] at this
  simp only [List.length_nil] at this
  omega
theorem sh_and (l : List Fm) (hl : l.length ≤ 3) (ih : ∀ f ∈ l, ShSpec f) (hz : ∀ f ∈ l, ∀ lv fu, (showF f lv fu).size ≤ 10000000) : ShSpec (.mk 3 0 0 0 l) := fun lv fu => by
  have hp := prec_spec (.mk 3 0 0 0 l)
  have hpl := prec_le (.mk 3 0 0 0 l)
  rw [showF_mk, showsF_map, showsF_map, showsF_map]
  generalize precF (.mk 3 0 0 0 l) = p at *
  rw [show ∀ x y z, bodyF 3 0 0 0 x y z = joinB ⟨#[38, 38]⟩ ⟨#[116, 114, 117, 101]⟩ z from fun _ _ _ => rfl]
  have hT : ∀ f ∈ l, Spec Tryz.prog 18 [] [.agg (fmA f), intA (p + 1), boolA fu] fun _ r => r = strA (showF f (p + 1) fu) := fun f hf => ih f hf (p + 1) fu
  have hZ : ∀ f ∈ l, (showF f (p + 1) fu).size ≤ 10000000 := fun f hf => hz f hf (p + 1) fu
  generalize hTT : (fun f => showF f (p + 1) fu) = T
  have hT2 : ∀ f ∈ l, Spec Tryz.prog 18 [] [.agg (fmA f), intA (p + 1), boolA fu] fun _ r => r = strA (T f) := fun f hf => by rw [← hTT]; exact hT f hf
  have hZ2 : ∀ f ∈ l, (T f).size ≤ 10000000 := fun f hf => by rw [← hTT]; exact hZ f hf
  clear hT hZ hTT
  have hacc : ∀ j, (accB ⟨#[38, 38]⟩ ⟨#[116, 114, 117, 101]⟩ T l j).size ≤ 40000000 := fun j => by
    unfold accB
    have h := joinB_size ⟨#[38, 38]⟩ ⟨#[116, 114, 117, 101]⟩ 10000000 ((l.take j).map T) fun y hy => by
      obtain ⟨f, hf, rfl⟩ := List.mem_map.1 hy
      exact hZ2 f (List.mem_of_mem_take hf)
    have h1 : (⟨#[38, 38]⟩ : ByteArray).size = 2 := rfl
    have h2 : (⟨#[116, 114, 117, 101]⟩ : ByteArray).size ≤ 5 := by decide
    rw [List.length_map, List.length_take, h1] at h
    have : min j l.length ≤ 3 := by omega
    omega
  have hs : (⟨#[38, 38]⟩ : ByteArray).size = 2 := rfl
  have hfull := hacc l.length
  unfold accB at hfull
  rw [List.take_length] at hfull
  rw [fmA_mk] at hp ⊢
  refine spec_of (cx_ok (fun id => match Nat.beq id 16 with | true => .q 0 7 .nil | false => match Nat.beq id 26 with | true => .q 0 7 .nil | false => match Nat.beq id 11 with | true => .q 0 7 .nil | false => ord18 id) xs0 0) (fun _ _ h => h) Tryz.func18 rfl (by kernel_rfl) rfl (by kernel_rfl) ?_
  intro _
  conv => whnf
  refine loop_keep [1, 2, 3, 8] ?_
  conv => whnf
  refine loop_go (fun j : Nat => [(7, .v (.string (accB ⟨#[38, 38]⟩ ⟨#[116, 114, 117, 101]⟩ T l j))), (9, .v (.int .i64 j))]) (fun _ => [[intA 3, intA 0, intA 0, intA 0, .sl 5 l.length (fmsA l)]]) (fun _ => []) (fun j => j ≤ l.length) (fun j => l.length - j) 0 ?_ (Nat.zero_le _) ?_
  · repeat' constructor
  · rintro j hj
    conv => whnf
    by_cases hlt : j < l.length
    · rw [decide_eq_true (show (j : Int) < (l.length : Int) by omega)]
      conv => whnf
      have hs2 := hT2 l[j] (List.getElem_mem hlt)
      have hz2 := hZ2 l[j] (List.getElem_mem hlt)
      have hrow := rowOf_fms l j hlt
      have hnext := accB_succ ⟨#[38, 38]⟩ ⟨#[116, 114, 117, 101]⟩ T l j hlt
      have ha := hacc j
      generalize l[j] = g at *
      generalize T g = x at *
      repeat (apply flow_go; (focus ((conv => whnf); exact ⟨rfl, rfl, rfl⟩)); (conv => whnf))
      (apply flow_go; (focus ((conv => whnf); refine ⟨by omega, ?_⟩; (generalize hrq : rowOf _ _ (fmsA l) = rq; obtain rfl : rq = fmA g := hrq.symm.trans (hrow); exact ⟨rfl, rfl, rfl⟩))); (conv => whnf))
      repeat (apply flow_go; (focus ((conv => whnf); exact ⟨rfl, rfl, rfl⟩)); (conv => whnf))
      (apply flow_go; (focus ((conv => whnf); refine call0 [] rfl (fun _ => hp) ?_; rintro r rfl; (conv => whnf); exact ⟨rfl, rfl, rfl⟩)); (conv => whnf))
      (apply flow_go; (focus ((conv => whnf); (refine ⟨i64r (by omega), ?_⟩); exact ⟨rfl, rfl, rfl⟩)); (conv => whnf))
      repeat (apply flow_go; (focus ((conv => whnf); exact ⟨rfl, rfl, rfl⟩)); (conv => whnf))
      (apply flow_go; (focus ((conv => whnf); refine call0 [] rfl (fun _ => hs2) ?_; rintro r rfl; (conv => whnf); exact ⟨rfl, rfl, rfl⟩)); (conv => whnf))
      repeat (apply flow_go; (focus ((conv => whnf); exact ⟨rfl, rfl, rfl⟩)); (conv => whnf))
      by_cases hj0 : j = 0
      · subst hj0
        rw [hnext.1 rfl]
        conv => whnf
        refine ⟨i64r (by omega), ?_⟩
        conv => whnf
        refine ⟨1, le_head ?_, hlt, by omega⟩
        repeat' constructor
      · rw [decide_eq_false (show ¬ (j : Int) = 0 by omega)]
        conv => whnf
        refine ⟨by unfold maxLen; omega, ?_⟩
        conv => whnf
        refine ⟨by (try simp only [ByteArray.size_append]); unfold maxLen; omega, ?_⟩
        rw [hnext.2 hj0]
        conv => whnf
        refine ⟨i64r (by omega), ?_⟩
        conv => whnf
        refine ⟨j + 1, le_head ?_, hlt, by omega⟩
        repeat' constructor
    · rw [decide_eq_false (show ¬ (j : Int) < (l.length : Int) by omega)]
      obtain rfl : j = l.length := by omega
      rw [show accB ⟨#[38, 38]⟩ ⟨#[116, 114, 117, 101]⟩ T l l.length = joinB ⟨#[38, 38]⟩ ⟨#[116, 114, 117, 101]⟩ (l.map T) by unfold accB; rw [List.take_length]]
      generalize joinB ⟨#[38, 38]⟩ ⟨#[116, 114, 117, 101]⟩ (l.map T) = y at *
      conv => whnf
      unfold parF
      (refine call0 [] rfl (fun _ => hp) ?_; rintro r rfl; conv => whnf)
      by_cases g1 : p < lv
      · rw [decide_eq_true g1, if_pos g1]
        conv => whnf
        refine ⟨by show 1 + _ ≤ maxLen; (try simp only [ByteArray.size_append]); unfold maxLen; omega, ?_⟩
        conv => whnf
        refine ⟨by rw [ByteArray.size_append]; show 1 + _ + 1 ≤ maxLen; (try simp only [ByteArray.size_append]); unfold maxLen; omega, ?_⟩
        conv => whnf
        rfl
      · rw [decide_eq_false g1, if_neg g1]
        conv => whnf
        cases fu
        · rw [if_pos rfl]
          conv => whnf
          rfl
        · rw [if_neg (by decide)]
          conv => whnf
          (refine call0 [] rfl (fun _ => hp) ?_; rintro r rfl; conv => whnf)
          by_cases g2 : p < 5
          · rw [decide_eq_true g2, if_pos g2]
            conv => whnf
            refine ⟨by show 1 + _ ≤ maxLen; (try simp only [ByteArray.size_append]); unfold maxLen; omega, ?_⟩
            conv => whnf
            refine ⟨by rw [ByteArray.size_append]; show 1 + _ + 1 ≤ maxLen; (try simp only [ByteArray.size_append]); unfold maxLen; omega, ?_⟩
            conv => whnf
            rfl
          · rw [decide_eq_false g2, if_neg g2]
            conv => whnf
            rfl
theorem sh_or (l : List Fm) (hl : l.length ≤ 3) (ih : ∀ f ∈ l, ShSpec f) (hz : ∀ f ∈ l, ∀ lv fu, (showF f lv fu).size ≤ 10000000) : ShSpec (.mk 4 0 0 0 l) := fun lv fu => by
  have hp := prec_spec (.mk 4 0 0 0 l)
  have hpl := prec_le (.mk 4 0 0 0 l)
  rw [showF_mk, showsF_map, showsF_map, showsF_map]
  generalize precF (.mk 4 0 0 0 l) = p at *
  rw [show ∀ x y z, bodyF 4 0 0 0 x y z = joinB ⟨#[124, 124]⟩ ⟨#[102, 97, 108, 115, 101]⟩ z from fun _ _ _ => rfl]
  have hT : ∀ f ∈ l, Spec Tryz.prog 18 [] [.agg (fmA f), intA (p + 1), boolA fu] fun _ r => r = strA (showF f (p + 1) fu) := fun f hf => ih f hf (p + 1) fu
  have hZ : ∀ f ∈ l, (showF f (p + 1) fu).size ≤ 10000000 := fun f hf => hz f hf (p + 1) fu
  generalize hTT : (fun f => showF f (p + 1) fu) = T
  have hT2 : ∀ f ∈ l, Spec Tryz.prog 18 [] [.agg (fmA f), intA (p + 1), boolA fu] fun _ r => r = strA (T f) := fun f hf => by rw [← hTT]; exact hT f hf
  have hZ2 : ∀ f ∈ l, (T f).size ≤ 10000000 := fun f hf => by rw [← hTT]; exact hZ f hf
  clear hT hZ hTT
  have hacc : ∀ j, (accB ⟨#[124, 124]⟩ ⟨#[102, 97, 108, 115, 101]⟩ T l j).size ≤ 40000000 := fun j => by
    unfold accB
    have h := joinB_size ⟨#[124, 124]⟩ ⟨#[102, 97, 108, 115, 101]⟩ 10000000 ((l.take j).map T) fun y hy => by
      obtain ⟨f, hf, rfl⟩ := List.mem_map.1 hy
      exact hZ2 f (List.mem_of_mem_take hf)
    have h1 : (⟨#[124, 124]⟩ : ByteArray).size = 2 := rfl
    have h2 : (⟨#[102, 97, 108, 115, 101]⟩ : ByteArray).size ≤ 5 := by decide
    rw [List.length_map, List.length_take, h1] at h
    have : min j l.length ≤ 3 := by omega
    omega
  have hs : (⟨#[124, 124]⟩ : ByteArray).size = 2 := rfl
  have hfull := hacc l.length
  unfold accB at hfull
  rw [List.take_length] at hfull
  rw [fmA_mk] at hp ⊢
  refine spec_of (cx_ok (fun id => match Nat.beq id 16 with | true => .q 0 7 .nil | false => match Nat.beq id 26 with | true => .q 0 7 .nil | false => match Nat.beq id 11 with | true => .q 0 7 .nil | false => ord18 id) xs0 0) (fun _ _ h => h) Tryz.func18 rfl (by kernel_rfl) rfl (by kernel_rfl) ?_
  intro _
  conv => whnf
  refine loop_keep [1, 2, 3, 8] ?_
  conv => whnf
  refine loop_go (fun j : Nat => [(7, .v (.string (accB ⟨#[124, 124]⟩ ⟨#[102, 97, 108, 115, 101]⟩ T l j))), (9, .v (.int .i64 j))]) (fun _ => [[intA 4, intA 0, intA 0, intA 0, .sl 5 l.length (fmsA l)]]) (fun _ => []) (fun j => j ≤ l.length) (fun j => l.length - j) 0 ?_ (Nat.zero_le _) ?_
  · repeat' constructor
  · rintro j hj
    conv => whnf
    by_cases hlt : j < l.length
    · rw [decide_eq_true (show (j : Int) < (l.length : Int) by omega)]
      conv => whnf
      have hs2 := hT2 l[j] (List.getElem_mem hlt)
      have hz2 := hZ2 l[j] (List.getElem_mem hlt)
      have hrow := rowOf_fms l j hlt
      have hnext := accB_succ ⟨#[124, 124]⟩ ⟨#[102, 97, 108, 115, 101]⟩ T l j hlt
      have ha := hacc j
      generalize l[j] = g at *
      generalize T g = x at *
      repeat (apply flow_go; (focus ((conv => whnf); exact ⟨rfl, rfl, rfl⟩)); (conv => whnf))
      (apply flow_go; (focus ((conv => whnf); refine ⟨by omega, ?_⟩; (generalize hrq : rowOf _ _ (fmsA l) = rq; obtain rfl : rq = fmA g := hrq.symm.trans (hrow); exact ⟨rfl, rfl, rfl⟩))); (conv => whnf))
      repeat (apply flow_go; (focus ((conv => whnf); exact ⟨rfl, rfl, rfl⟩)); (conv => whnf))
      (apply flow_go; (focus ((conv => whnf); refine call0 [] rfl (fun _ => hp) ?_; rintro r rfl; (conv => whnf); exact ⟨rfl, rfl, rfl⟩)); (conv => whnf))
      (apply flow_go; (focus ((conv => whnf); (refine ⟨i64r (by omega), ?_⟩); exact ⟨rfl, rfl, rfl⟩)); (conv => whnf))
      repeat (apply flow_go; (focus ((conv => whnf); exact ⟨rfl, rfl, rfl⟩)); (conv => whnf))
      (apply flow_go; (focus ((conv => whnf); refine call0 [] rfl (fun _ => hs2) ?_; rintro r rfl; (conv => whnf); exact ⟨rfl, rfl, rfl⟩)); (conv => whnf))
      repeat (apply flow_go; (focus ((conv => whnf); exact ⟨rfl, rfl, rfl⟩)); (conv => whnf))
      by_cases hj0 : j = 0
      · subst hj0
        rw [hnext.1 rfl]
        conv => whnf
        refine ⟨i64r (by omega), ?_⟩
        conv => whnf
        refine ⟨1, le_head ?_, hlt, by omega⟩
        repeat' constructor
      · rw [decide_eq_false (show ¬ (j : Int) = 0 by omega)]
        conv => whnf
        refine ⟨by unfold maxLen; omega, ?_⟩
        conv => whnf
        refine ⟨by (try simp only [ByteArray.size_append]); unfold maxLen; omega, ?_⟩
        rw [hnext.2 hj0]
        conv => whnf
        refine ⟨i64r (by omega), ?_⟩
        conv => whnf
        refine ⟨j + 1, le_head ?_, hlt, by omega⟩
        repeat' constructor
    · rw [decide_eq_false (show ¬ (j : Int) < (l.length : Int) by omega)]
      obtain rfl : j = l.length := by omega
      rw [show accB ⟨#[124, 124]⟩ ⟨#[102, 97, 108, 115, 101]⟩ T l l.length = joinB ⟨#[124, 124]⟩ ⟨#[102, 97, 108, 115, 101]⟩ (l.map T) by unfold accB; rw [List.take_length]]
      generalize joinB ⟨#[124, 124]⟩ ⟨#[102, 97, 108, 115, 101]⟩ (l.map T) = y at *
      conv => whnf
      unfold parF
      (refine call0 [] rfl (fun _ => hp) ?_; rintro r rfl; conv => whnf)
      by_cases g1 : p < lv
      · rw [decide_eq_true g1, if_pos g1]
        conv => whnf
        refine ⟨by show 1 + _ ≤ maxLen; (try simp only [ByteArray.size_append]); unfold maxLen; omega, ?_⟩
        conv => whnf
        refine ⟨by rw [ByteArray.size_append]; show 1 + _ + 1 ≤ maxLen; (try simp only [ByteArray.size_append]); unfold maxLen; omega, ?_⟩
        conv => whnf
        rfl
      · rw [decide_eq_false g1, if_neg g1]
        conv => whnf
        cases fu
        · rw [if_pos rfl]
          conv => whnf
          rfl
        · rw [if_neg (by decide)]
          conv => whnf
          (refine call0 [] rfl (fun _ => hp) ?_; rintro r rfl; conv => whnf)
          by_cases g2 : p < 5
          · rw [decide_eq_true g2, if_pos g2]
            conv => whnf
            refine ⟨by show 1 + _ ≤ maxLen; (try simp only [ByteArray.size_append]); unfold maxLen; omega, ?_⟩
            conv => whnf
            refine ⟨by rw [ByteArray.size_append]; show 1 + _ + 1 ≤ maxLen; (try simp only [ByteArray.size_append]); unfold maxLen; omega, ?_⟩
            conv => whnf
            rfl
          · rw [decide_eq_false g2, if_neg g2]
            conv => whnf
            rfl
end Go.Proofs.YtndflafkigldmaaGreatDoor.Vm
namespace Go.Proofs.YtndflafkigldmaaGreatDoor.Vm
open Go.RowKit Go.Shelf
set_option linter.unusedSimpArgs false
set_option linter.unusedVariables false
set_option maxRecDepth 100000
theorem par_size (p lv : Int) (fu : Bool) (b : ByteArray) : (parF p lv fu b).size ≤ b.size + 2 := by
  have h1 : (⟨#[40]⟩ : ByteArray).size = 1 := rfl
  have h2 : (⟨#[41]⟩ : ByteArray).size = 1 := rfl
  unfold parF
  repeat' split
  all_goals (try simp only [ByteArray.size_append]); omega
theorem sz_un (k : Int) (hk : k = 2 ∨ k = 5 ∨ k = 7 ∨ k = 8) (f : Fm) (N : Nat) (h : ∀ lv fu, (showF f lv fu).size ≤ N) (lv : Int) (fu : Bool) : (showF (.mk k 0 0 0 [f]) lv fu).size ≤ N + 13 := by
  have h1 := h 4 fu
  rw [showF_mk, showsF_map]
  have hp := par_size (precF (.mk k 0 0 0 [f])) lv fu (bodyF k 0 0 0 ([f].map fun f => showF f 4 fu) (showsF [f] 3 fu) (showsF [f] (precF (.mk k 0 0 0 [f]) + 1) fu))
  refine Nat.le_trans hp ?_
  have e1 : (⟨#[33]⟩ : ByteArray).size = 1 := rfl
  rcases hk with rfl | rfl | rfl | rfl
  · show ((⟨#[33]⟩ : ByteArray) ++ showF f 4 fu).size + 2 ≤ _
    rw [ByteArray.size_append]; omega
  · show (glueF nextB (showF f 4 fu)).size + 2 ≤ _
    have := glue_size nextB (showF f 4 fu)
    have : nextB.size ≤ 10 := by decide
    omega
  · show (glueF alwaysB (showF f 4 fu)).size + 2 ≤ _
    have := glue_size alwaysB (showF f 4 fu)
    have : alwaysB.size ≤ 10 := by decide
    omega
  · show (glueF evB (showF f 4 fu)).size + 2 ≤ _
    have := glue_size evB (showF f 4 fu)
    have : evB.size ≤ 10 := by decide
    omega
theorem sz_til (f g : Fm) (N : Nat) (h : ∀ lv fu, (showF f lv fu).size ≤ N) (h2 : ∀ lv fu, (showF g lv fu).size ≤ N) (lv : Int) (fu : Bool) : (showF (.mk 6 0 0 0 [f, g]) lv fu).size ≤ 2 * N + 13 := by
  have a1 := h 4 fu
  have a2 := h2 3 fu
  rw [showF_mk, showsF_map, showsF_map]
  refine Nat.le_trans (par_size _ _ _ _) ?_
  show (glueF (glueF (showF f 4 fu) untilB) (showF g 3 fu)).size + 2 ≤ _
  have := glue_size (showF f 4 fu) untilB
  have := glue_size (glueF (showF f 4 fu) untilB) (showF g 3 fu)
  have : untilB.size ≤ 5 := by decide
  omega
theorem sz_jn (k : Int) (hk : k = 3 ∨ k = 4) (l : List Fm) (hl : l.length ≤ 3) (N : Nat) (h : ∀ f ∈ l, ∀ lv fu, (showF f lv fu).size ≤ N) (lv : Int) (fu : Bool) : (showF (.mk k 0 0 0 l) lv fu).size ≤ 3 * N + 13 := by
  rw [showF_mk, showsF_map, showsF_map, showsF_map]
  refine Nat.le_trans (par_size _ _ _ _) ?_
  generalize precF (.mk k 0 0 0 l) = p
  have hb := fun s e => joinB_size s e N (l.map fun f => showF f (p + 1) fu) fun y hy => by
    obtain ⟨f, hf, rfl⟩ := List.mem_map.1 hy
    exact h f hf _ _
  have hm : l.length * (N + 2) ≤ 3 * (N + 2) := Nat.mul_le_mul_right _ hl
  rw [List.length_map] at hb
  rcases hk with rfl | rfl
  · have h1 := hb ⟨#[38, 38]⟩ ⟨#[116, 114, 117, 101]⟩
    have e1 : (⟨#[38, 38]⟩ : ByteArray).size = 2 := rfl
    have e2 : (⟨#[116, 114, 117, 101]⟩ : ByteArray).size ≤ 5 := by decide
    rw [e1] at h1
    show (joinB ⟨#[38, 38]⟩ ⟨#[116, 114, 117, 101]⟩ (l.map fun f => showF f (p + 1) fu)).size + 2 ≤ _
    omega
  · have h1 := hb ⟨#[124, 124]⟩ ⟨#[102, 97, 108, 115, 101]⟩
    have e1 : (⟨#[124, 124]⟩ : ByteArray).size = 2 := rfl
    have e2 : (⟨#[102, 97, 108, 115, 101]⟩ : ByteArray).size ≤ 5 := by decide
    rw [e1] at h1
    show (joinB ⟨#[124, 124]⟩ ⟨#[102, 97, 108, 115, 101]⟩ (l.map fun f => showF f (p + 1) fu)).size + 2 ≤ _
    omega
theorem sz_var (a b n : Int) (h1 : 0 ≤ a ∧ a ≤ 15) (h3 : -2147483647 ≤ n ∧ n ≤ 2147483647) (lv : Int) (fu : Bool) : (showF (.mk 1 a b n []) lv fu).size ≤ 60 := by
  rw [showF_mk]
  refine Nat.le_trans (par_size _ _ _ _) ?_
  show ((⟨#[118]⟩ : ByteArray) ++ bs (decZ a) ++ opB b ++ bs (decZ n)).size + 2 ≤ _
  have zA := decZ_len a (by omega) (by omega)
  have zN := decZ_len n (by omega) (by omega)
  have e1 : (⟨#[118]⟩ : ByteArray).size = 1 := rfl
  have e2 : (opB b).size ≤ 2 := by unfold opB; split; decide; split <;> decide
  simp only [ByteArray.size_append, bs_size]
  omega
theorem sz_gf {d : Nat} {f : Fm} (h : Gf d f) : ∀ lv fu, (showF f lv fu).size ≤ 60 * 4 ^ d := by
  induction h with
  | var h1 h2 h3 =>
    rename_i d a b n
    have hp : 1 ≤ 4 ^ d := Nat.pos_of_ne_zero (by simp)
    intro lv fu
    have := sz_var a b n h1 h3 lv fu
    omega
  | cst b =>
    rename_i d
    have hp : 1 ≤ 4 ^ d := Nat.pos_of_ne_zero (by simp)
    intro lv fu
    cases b
    · have := sz_jn 4 (.inr rfl) [] (by simp) 0 (by simp) lv fu
      exact Nat.le_trans this (by omega)
    · have := sz_jn 3 (.inl rfl) [] (by simp) 0 (by simp) lv fu
      exact Nat.le_trans this (by omega)
  | un hk h ih =>
    rename_i d k f
    have hp : 1 ≤ 4 ^ d := Nat.pos_of_ne_zero (by simp)
    intro lv fu
    have := sz_un k hk f _ ih lv fu
    rw [Nat.pow_succ]; omega
  | til h1 h2 ih1 ih2 =>
    rename_i d f g
    have hp : 1 ≤ 4 ^ d := Nat.pos_of_ne_zero (by simp)
    intro lv fu
    have := sz_til f g _ ih1 ih2 lv fu
    rw [Nat.pow_succ]; omega
  | jn hk hl h ih =>
    rename_i d k l
    have hp : 1 ≤ 4 ^ d := Nat.pos_of_ne_zero (by simp)
    intro lv fu
    have := sz_jn k hk l hl.2 _ ih lv fu
    rw [Nat.pow_succ]; omega
theorem sz_big {d : Nat} {f : Fm} (h : Gf d f) (hd : d ≤ 6) (lv : Int) (fu : Bool) : (showF f lv fu).size ≤ 10000000 := by
  have h1 := sz_gf h lv fu
  have h2 : 4 ^ d ≤ 4 ^ 6 := Nat.pow_le_pow_right (by omega) hd
  have h3 : (4 : Nat) ^ 6 = 4096 := by decide
  omega
theorem sh_gf {d : Nat} {f : Fm} (h : Gf d f) : d ≤ 6 → ShSpec f := by
  induction h with
  | var h1 h2 h3 => exact fun _ => sh_var _ _ _ h1 h2 h3
  | cst b =>
    intro _
    cases b
    · exact sh_or [] (by simp) (by simp) (by simp)
    · exact sh_and [] (by simp) (by simp) (by simp)
  | un hk h ih =>
    intro hd
    have i := ih (by omega)
    have z := sz_big h (by omega)
    rcases hk with rfl | rfl | rfl | rfl
    · exact sh_not _ i z
    · exact sh_next _ i z
    · exact sh_always _ i z
    · exact sh_ev _ i z
  | til h1 h2 ih1 ih2 => exact fun hd => sh_til _ _ (ih1 (by omega)) (ih2 (by omega)) (sz_big h1 (by omega)) (sz_big h2 (by omega))
  | jn hk hl h ih =>
    intro hd
    rcases hk with rfl | rfl
    · exact sh_and _ hl.2 (fun f hf => ih f hf (by omega)) fun f hf => sz_big (h f hf) (by omega)
    · exact sh_or _ hl.2 (fun f hf => ih f hf (by omega)) fun f hf => sz_big (h f hf) (by omega)
theorem rPrint (f : Fm) (h : Gf 3 f) : Spec Tryz.prog 8 [] [.agg (fmA f)] fun _ r => r = strA (showF f 1 false) := by
  have hs := sh_gf h (by omega) 1 false
  generalize showF f 1 false = x at *
  refine spec_of (cx_ok ord0 xs0 0) (fun _ _ h => h) Tryz.func8 rfl (by kernel_rfl) rfl (by kernel_rfl) ?_
  intro _
  conv => whnf
  (refine call0 [] rfl (fun _ => hs) ?_; rintro r rfl; conv => whnf)
  rfl
theorem rFull (f : Fm) (h : Gf 3 f) : Spec Tryz.prog 7 [] [.agg (fmA f)] fun _ r => r = strA (showF f 1 true) := by
  have hs := sh_gf h (by omega) 1 true
  generalize showF f 1 true = x at *
  refine spec_of (cx_ok ord0 xs0 0) (fun _ _ h => h) Tryz.func7 rfl (by kernel_rfl) rfl (by kernel_rfl) ?_
  intro _
  conv => whnf
  (refine call0 [] rfl (fun _ => hs) ?_; rintro r rfl; conv => whnf)
  rfl
end Go.Proofs.YtndflafkigldmaaGreatDoor.Vm
namespace Go.Proofs.YtndflafkigldmaaGreatDoor.Vm
open Go.RowKit
set_option linter.unusedSimpArgs false
set_option linter.unusedVariables false
structure SpecRD (P : Program) (f : Nat) (ins : List (List A)) (e k n : Nat) (cs args : List A) (post : List (List A) → Nat → List A → A → Prop) : Prop where
  r : SpecR P f ins e k n cs args post
  d : ∀ u, SpecXR (ClD P f u u) ins e k n cs args post fun _ => False
section
variable {c : Cx} {s : S}
theorem specRD_of {f : Nat} {fn : Func} {x : Code} {ins : List (List A)} {e k n : Nat} {cs args : List A} {post : List (List A) → Nat → List A → A → Prop} (hc : c.ok) (hq : ∀ ch s, ¬ c.pan ch s) (hf : c.P.funcs[f]? = some fn) (hb : fn.body = some x) (hname : (fn.name == "runtime.NumGoroutine") = false)
    (hn : ins.length = c.np) (hord : ordOk c.ord x = true) (h : okL args → initK args (fn.ntmps - args.length) fun t => awp c x ⟨t, ins, [.live e k n cs]⟩ (endR c e k fn.results.toList post)) : SpecRD c.P f ins e k n cs args post := by
  refine ⟨specR_of hc (fun ch s h => hq ch s h) hf hb hname hn hord h, fun u w C β vals y xs h0 h1 h2 h3 h4 h5 h6 h7 h8 h9 => ?_⟩
  unfold ClD
  refine CallsD.mono (callsD_of_wp hf hb (R := fun e' w' => (∃ (outs : List (List A)) (n' : Nat) (cs' : List A) (r : A) (v y' : Value) (xs' : List Value) (C' : Rd), e' = .returned v ∧ post outs n' cs' r ∧ Keeps (β ++ (blk y).toList) w w' ∧ Sub C C' ∧ Sub C' (see w') ∧ (∀ ad u, C' ad = some u → C ad = some u ∨ w.heap.size ≤ ad.block ∨ blk y = some ad.block) ∧ outs.length = β.length ∧
      (∀ (i b : Nat) (cs : List A), β[i]? = some b → outs[i]? = some cs → boxAt w' ⟨C', β, [y']⟩ b cs) ∧ owR w' e k y' n' xs' ∧ A.repC cs' ⟨C', [], []⟩ xs' ∧ (∀ b, blk y' = some b → (∀ o sp, C' ⟨b, o, sp⟩ = none) ∧ (w.heap.size ≤ b ∨ blk y = some b)) ∧ r.rep ⟨C', β, [y']⟩ v) ∨
      ∃ (ch : List PanicEntry) (ns : List Nat), e' = .panicked ch ∧ False ∧ Keeps (β ++ (blk y).toList) w w' ∧ ns.length = β.length ∧ ∀ (i b n : Nat), β[i]? = some b → ns[i]? = some n → boxAt w' ⟨C, β, []⟩ b (List.replicate n .dead)) ?_) fun e m w' hh => hh
  have hinit := initK_iff.1 (h (okL_rep _ h9))
  have hinit := ok_of_awp hc hord hinit
  have hinv := invR_begin (nt := fn.ntmps) h0 h1 h2 h3 h4 h5 h6 h7 h8 h9
  unfold Ok OkD at hinit
  refine hinit ⟨w, (blk y).toList⟩ C β _ w _ (by rw [← h4, hn]) hinv (fun ch s' a' w' hpan hi => absurd hpan (hq ch s')) ?_
  have fin : ∀ (s' : S) (a' : Act) (w' : World), (∃ g, retR c e k g fn.results.toList post s') → Inv [] ⟨w, (blk y).toList⟩ C β s' a' w' → _ := fun s' a' w' ⟨g, hr⟩ hi => finR_ok (w := w) (C := C) (β := β) (s' := s') (a' := a') (w' := w') (fn := fn) (post := post) (y := y) hc (by rw [← h4, hn]) hr hi
  intro e1 s' a' w' hq hi
  cases e1 with
  | normal => obtain ⟨k1, v, k2, k3⟩ := fin s' a' w' hq hi; exact ⟨k1, v, k2, .inl k3⟩
  | ret => obtain ⟨k1, v, k2, k3⟩ := fin s' a' w' hq hi; exact ⟨k1, v, k2, .inl k3⟩
  | _ => exact hq.elim
@[irreducible] def DfrR (P : Program) (f : Nat) (args : List A) (s : S) (K : S → Prop) : Prop :=
  (∀ vs w, (callFunc f vs).run P w = .ok (.enter f vs) w) ∧
  ∃ (X ids : List Nat) (g e k n : Nat) (cs : List A) (ins : List (List A)) (args' : List A) (post : List (List A) → Nat → List A → A → Prop), X.Nodup ∧ (∀ i ∈ X, i < s.bx.length) ∧ (pubRows s.rw ids)[g]? = some (.live e k n cs) ∧
    renGLL X g (pubRows s.rw ids) (X.map fun i => s.bx.getD i []) = some ins ∧ renGL X g (pubRows s.rw ids) args = some args' ∧ (okL args' → SpecXR (ClD P f .returning .returning) ins e k n cs args' post fun _ => False) ∧
    ∀ outs n' cs' r, post outs n' cs' r → outs.length = X.length → outGK X s.rw.length s.bx X outs fun bx' => force (backG X s.rw.length r) fun r' => forceR ((pubRows s.rw ids).set g .gone ++ [.live e k n' cs']) fun rw' => withBR s bx' rw' K
def leaveR (c : Cx) (e k : Nat) (rv : List ResultVar) (post : List (List A) → Nat → List A → A → Prop) : List (Nat × List A) → S → Prop
  | [], s => ∃ g, retR c e k g rv post s
  | (f, args) :: r, s => DfrR c.P f args s fun s' => leaveR c e k rv post r s'
theorem leavesR_ok {w0 : W0} {C0 : Rd} {β0 : List Nat} {e k : Nat} {fn : Func} {post : List (List A) → Nat → List A → A → Prop} {R : Ending → World → Prop} {tmps : Array Value} (hfin : ∀ s' w', (∃ g, retR c e k g fn.results.toList post s') → Inv [] w0 C0 β0 s' { tmps := tmps, defers := [] } w' → ∃ v, (results fn tmps).run c.P w' = .ok v w' ∧ R (.returned v) w') :
    ∀ (dr : List (Nat × List A)) (ds : List Deferred) (s : S) (E : Env) (w : World), repD dr E ds → Hp w0 C0 β0 s.bx s.rw w E → A.repL s.t E tmps.toList → leaveR c e k fn.results.toList post dr s → Leaves c.P fn tmps R ds .returning w
  | [], ds, s, E, w, hd, hp, ht, h => by
    obtain rfl : ds = [] := hd
    exact hfin s w h ⟨E, hp, ht, rfl⟩
  | (f, args) :: r, ds, s, E, w, ⟨d, ds', cap, hds, htg, hargs, hrest⟩, hp, ht, h => by
    subst hds
    unfold leaveR DfrR at h
    obtain ⟨hcall, X, ids, g, e0, k0, n0, cs0, ins, args', post', hn, hX, hg, hins, hargs', hspec, hk⟩ := h
    obtain ⟨-, hcx⟩ := call_okR (pan := fun _ _ => False) (Xr := fun _ => true) (K := fun _ s' => leaveR c e k fn.results.toList post r s') (Cl := ClD c.P f .returning .returning) ClD.mono hp hargs rfl hn (fun _ _ => rfl) hX hg hins hargs' hspec (fun outs n' cs' r hp hl => hk outs n' cs' r hp hl) (fun ch bx' h _ _ => h.elim)
    obtain ⟨t, da⟩ := d
    simp only at htg hargs hcx
    subst htg
    refine leaves_cons (f := f) (args := da ++ cap) (by simp) (by simp [invoke, hcall]) ?_
    have hcx' : CallsD c.P f (da ++ cap) .returning w fun e' m w' => m = .returning ∧ ((∃ y, e' = .returned y ∧ Left w0 C0 β0 (fun _ => true) s E w (fun _ s' => leaveR c e k fn.results.toList post r s') y w') ∨ ∃ (ch : List PanicEntry) (s' : S) (E' : Env), e' = .panicked ch ∧ False ∧ s'.t = s.t ∧ E.le E' ∧ Hp w0 C0 β0 s'.bx s'.rw w' E') := hcx
    refine CallsD.mono hcx' ?_
    rintro e' m w' ⟨rfl, ⟨y, rfl, ⟨⟨r0, s', E', h1, h2, h3, h4, h5, _⟩⟩⟩ | ⟨ch, s', E', _, h, _⟩⟩
    · exact leavesR_ok hfin r ds' s' E' w' (hrest.mono h3) h4 (by rw [h2]; exact A.repL.mono _ h3 ht) h1
    · exact h.elim
theorem specRT_of {f : Nat} {fn : Func} {x : Code} {ins : List (List A)} {e k n : Nat} {cs args : List A} {post : List (List A) → Nat → List A → A → Prop} (hc : c.ok) (hf : c.P.funcs[f]? = some fn) (hb : fn.body = some x) (hname : (fn.name == "runtime.NumGoroutine") = false)
    (hn : ins.length = c.np) (h : okL args → initK args (fn.ntmps - args.length) fun t => OkT c.P c.np (fun _ _ _ => False) (fun dr ex s => (ex = .normal ∨ ex = .ret) ∧ leaveR c e k fn.results.toList post dr s) [] x ⟨t, ins, [.live e k n cs]⟩) : SpecR c.P f ins e k n cs args post := by
  refine ⟨callable hf hb hname, fun w C β vals y xs h0 h1 h2 h3 h4 h5 h6 h7 h8 h9 => ?_⟩
  refine calls_of_wp_defers hf hb ?_
  have hinit := initK_iff.1 (h (okL_rep _ h9))
  have hinv := invR_begin (nt := fn.ntmps) h0 h1 h2 h3 h4 h5 h6 h7 h8 h9
  unfold OkT at hinit
  refine hinit ⟨w, (blk y).toList⟩ C β _ w _ (by rw [← h4, hn]) hinv (fun dr ch s' a' w' hl _ => hl.elim) (fun dr ex s' a' w' hl ⟨E, hp, ht, hd⟩ => ?_)
  have key := leavesR_ok (c := c) (e := e) (k := k) (fn := fn) (post := post) (tmps := a'.tmps) (R := fun e' w' => (∃ (outs : List (List A)) (n' : Nat) (cs' : List A) (r : A) (v y' : Value) (xs' : List Value) (C' : Rd), e' = .returned v ∧ post outs n' cs' r ∧ Keeps (β ++ (blk y).toList) w w' ∧ Sub C C' ∧ Sub C' (see w') ∧ (∀ ad u, C' ad = some u → C ad = some u ∨ w.heap.size ≤ ad.block ∨ blk y = some ad.block) ∧ outs.length = β.length ∧
      (∀ (i b : Nat) (cs : List A), β[i]? = some b → outs[i]? = some cs → boxAt w' ⟨C', β, [y']⟩ b cs) ∧ owR w' e k y' n' xs' ∧ A.repC cs' ⟨C', [], []⟩ xs' ∧ (∀ b, blk y' = some b → (∀ o sp, C' ⟨b, o, sp⟩ = none) ∧ (w.heap.size ≤ b ∨ blk y = some b)) ∧ r.rep ⟨C', β, [y']⟩ v) ∨
      ∃ (ch : List PanicEntry) (ns : List Nat), e' = .panicked ch ∧ False ∧ Keeps (β ++ (blk y).toList) w w' ∧ ns.length = β.length ∧ ∀ (i b n : Nat), β[i]? = some b → ns[i]? = some n → boxAt w' ⟨C, β, []⟩ b (List.replicate n .dead))
    (fun s2 w2 ⟨g, hr⟩ hi => by
      obtain ⟨-, v, q1, q2⟩ := finR_ok (w := w) (C := C) (β := β) (fn := fn) (post := post) (y := y) hc (by rw [← h4, hn]) hr hi
      exact ⟨v, q1, .inl q2⟩) dr a'.defers s' E w' hd hp ht hl.2
  rcases hl.1 with rfl | rfl
  · exact key
  · exact key
end
section
variable {c : Cx} {P : Program} {np : Nat} {pt : List (Nat × List A) → List PanicEntry → S → Prop} {qt : List (Nat × List A) → Exit → S → Prop} {dr : List (Nat × List A)} {s : S}
theorem okT_seq {x y : Code} (h : OkT P np pt (fun dr' e s' => tQ P np pt qt dr' y e s') dr x s) : OkT P np pt qt dr (.seq x y) s := by
  unfold OkT at h ⊢
  intro w0 C0 β0 a w Q hn hi hx hk
  refine wp_seq (h w0 C0 β0 a w _ hn hi (fun dr' ch s' a' w' h1 h2 => hx dr' ch s' a' w' h1 h2) fun dr' e s' a' w' h1 h2 => ?_)
  cases e with
  | normal =>
    have h1 : OkT P np pt qt dr' y s' := h1
    unfold OkT at h1
    exact h1 w0 C0 β0 a' w' Q hn h2 hx hk
  | _ => exact hk dr' _ _ _ _ h1 h2
theorem okT_true {b : Operand} {x y : Code} (hb : ev s b = .v (.bool true)) (h : OkT P np pt qt dr x s) : OkT P np pt qt dr (.cond b x y) s := by
  unfold OkT at h ⊢
  rintro w0 C0 β0 a w Q hn ⟨E, hp, ht, hd⟩ hx hk
  have hv := (of_v ht hb).1
  exact wp_cond_split hv (fun _ => h w0 C0 β0 a w Q hn ⟨E, hp, ht, hd⟩ hx hk) (fun e => by cases e)
def dfrPK (s : S) (ids : List Nat) (fo : Operand) (xs : List Operand) (K : Nat → List A → S → Prop) : Prop :=
  match s with
  | ⟨t, bx, rw⟩ => forceR (pubRows rw ids) fun rw' => mapK (subA rw') t fun t' => subBK rw' bx fun bx' => match ev ⟨t', bx', rw'⟩ fo with
    | .clo f caps => mapK (ev ⟨t', bx', rw'⟩) xs fun l => K f (l ++ caps) ⟨t', bx', rw'⟩
    | _ => False
theorem okT_deferP {id : Nat} {l : List Oper} {od : Oper} {fo : Operand} {xs : Array Operand} {ts : Array TypeId} (ids : List Nat) (hc : c.ok) (hdr : ∃ n, refsD n dr = true) (hp : ∀ ch s', c.pan ch s' → pt dr ch s') (hop : od.op = .defer ⟨.value fo, xs, ts⟩) (hg : od.guard = none) (hd : od.dst = none)
    (h : aseq c (l ++ [od]) l s fun s' => dfrPK s' ids fo xs.toList fun f args s'' => qt ((f, args) :: dr) .normal s'') : OkT c.P c.np pt qt dr (.region id (l ++ [od]).toArray false) s := by
  unfold OkT
  intro w0 C0 β0 a w Q hn hi hx hk
  refine wp_region_lit (seq_ok2 (l2 := [od]) (Q := Q) hc hdr (fun ch s' a' w' h1 h2 => hx dr ch s' a' w' (hp ch s' h1) h2) hi h fun s' a' w' h1 h2 => ?_)
  refine wpList_step fun Kc hKc => ?_
  rw [if_pos (by simp [Region.wanted, hg])]
  obtain ⟨t, bx, rw'⟩ := s'
  unfold dfrPK at h1
  simp only at h1
  rw [forceR_iff, mapK_iff, subBK_iff] at h1
  have hle : Le (β0.length) ⟨t, bx, rw'⟩ _ := (le_pub (np := β0.length) (s := ⟨t, bx, rw'⟩) ids).trans le_sub
  -- publishing keeps what is deferred
  obtain ⟨E, hpp, ht, hdd⟩ := h2
  obtain ⟨C', hp1, le1⟩ := hpp.pubs ids
  have ht1 := subL_rep (E := ⟨C', E.β, E.ρ⟩) hp1 (A.repL.mono _ le1 ht)
  have hd1 := hdd.mono le1
  have hp2 : Hp w0 C0 β0 (bx.map fun c => c.map (subA (pubRows rw' ids))) (pubRows rw' ids) w' ⟨C', E.β, E.ρ⟩ := by
    refine ⟨hp1.sub, hp1.base, hp1.fresh, hp1.bp, hp1.bnd, hp1.bC, by simpa using hp1.bl, fun i b cs h1 h2 => ?_, hp1.rl, hp1.rws, hp1.rC, hp1.rd, hp1.rs, hp1.keep, hp1.gk⟩
    rw [List.getElem?_map, Option.map_eq_some_iff] at h2
    obtain ⟨c0, h2, rfl⟩ := h2
    obtain ⟨T', arr, h3, h4⟩ := hp1.bxs i b c0 h1 h2
    exact ⟨T', arr, h3, h4.map (subA (pubRows rw' ids)) (fun l us k => subL_rep (E := ⟨C', E.β, E.ρ⟩) hp1 k) rfl (fun t => rfl) fun a t e => by
      unfold subA at e
      split at e
      · split at e <;> cases e
      · exact e⟩
  split at h1
  · rename_i f caps hev
    rw [mapK_iff] at h1
    have hf := ev_rep (s := ⟨t.map (subA (pubRows rw' ids)), bx.map fun c => c.map (subA (pubRows rw' ids)), pubRows rw' ids⟩) ht1 fo
    rw [hev] at hf
    unfold A.rep at hf
    obtain ⟨us, hf, hcaps⟩ := hf
    have hrun : (execOp a'.eval od).run c.P w' = .ok (.defer { target := .fn (.func f) us, args := xs.map a'.eval }) w' := by simp [execOp, hop, resolve, Deferred.ofValue, hf, Result.andThen]
    unfold Oper.wp
    rw [hrun, Oper.upon_defer]
    rw [hd]
    refine hKc _ _ (hk _ _ _ _ _ h1 ⟨⟨C', E.β, E.ρ⟩, hp2, ht1, { target := .fn (.func f) us, args := xs.map a'.eval }, a'.defers, us, rfl, rfl, ?_, hd1⟩)
    have := A.repL_append (caps_rep (s := ⟨t.map (subA (pubRows rw' ids)), bx.map fun c => c.map (subA (pubRows rw' ids)), pubRows rw' ids⟩) ht1 xs.toList) hcaps
    simpa using this
  · exact h1.elim
end
theorem dfrR1 {P : Program} {f : Nat} {args args' : List A} {s : S} {K : S → Prop} {post : List (List A) → Nat → List A → A → Prop} (i g m : Nat) (ids : List Nat) (hm : s.rw.length = m) {e k n : Nat} {cs c0 c1 : List A} (hi : s.bx[i]? = some c0) (hg : (pubRows s.rw ids)[g]? = some (.live e k n cs)) (h1 : renGL [i] g (pubRows s.rw ids) c0 = some c1) (h2 : renGL [i] g (pubRows s.rw ids) args = some args') (hs : SpecRD P f [c1] e k n cs args' post)
    (hk : ∀ o n' cs' r, post [o] n' cs' r → outGK [i] m s.bx [i] [o] fun bx' => force (backG [i] m r) fun r' => forceR ((pubRows s.rw ids).set g .gone ++ [.live e k n' cs']) fun rw' => withBR s bx' rw' K) : DfrR P f args s K := by
  subst hm
  unfold DfrR
  have hil := (List.getElem?_eq_some_iff.1 hi).1
  refine ⟨hs.r.1, [i], ids, g, e, k, n, cs, [c1], args', post, by simp, by simpa using hil, hg, ?_, h2, fun _ => hs.d .returning, fun outs n' cs' r hp hl => ?_⟩
  · have : s.bx.getD i [] = c0 := by simp [List.getD_eq_getElem?_getD, hi]
    simp only [List.map_cons, List.map_nil, this, renGLL, h1]
  · obtain ⟨o, rfl⟩ : ∃ o, outs = [o] := List.length_eq_one_iff.1 (by simpa using hl)
    exact hk o n' cs' r hp
end Go.Proofs.YtndflafkigldmaaGreatDoor.Vm
namespace Go.Proofs.YtndflafkigldmaaGreatDoor.Vm
open Go.RowKit Go.Shelf
set_option linter.unusedSimpArgs false
set_option linter.unusedVariables false
set_option maxRecDepth 100000
def txA (l : List ByteArray) : List A := l.map strA
theorem word_spec (c : UInt8) : Spec Tryz.prog 42 [] [.v (.int .u8 (c.toNat : Int))] fun _ r => r = boolA (isLD c) := by
  have hm : 0 ≤ (c.toNat : Int) ∧ (c.toNat : Int) ≤ 255 := by have := c.toNat_lt; omega
  unfold isLD isL isD
  generalize (c.toNat : Int) = n at *
  refine spec_of (cx_ok ord0 xs0 0) (fun _ _ h => h) Tryz.func42 rfl (by kernel_rfl) rfl (by kernel_rfl) ?_
  intro _
  conv => whnf
  by_cases h1 : 97 ≤ n
  · rw [decide_eq_true h1]
    conv => whnf
    by_cases h2 : n ≤ 122
    · rw [decide_eq_true h2]
      conv => whnf
      rfl
    · rw [decide_eq_false h2]
      conv => whnf
      rw [decide_eq_true (show 48 ≤ n by omega)]
      conv => whnf
      rw [decide_eq_false (show ¬ n ≤ 57 by omega)]
      conv => whnf
      rfl
  · rw [decide_eq_false h1]
    conv => whnf
    by_cases h3 : 48 ≤ n
    · rw [decide_eq_true h3]
      conv => whnf
      rcases Decidable.em (n ≤ 57) with h4 | h4
      · rw [decide_eq_true h4]
        conv => whnf
        rfl
      · rw [decide_eq_false h4]
        conv => whnf
        rfl
    · rw [decide_eq_false h3]
      conv => whnf
      rfl
def PrT : Nat := 43
theorem pr_lies : liesAt Tryz.prog Tryz.prog.depth PrT (2 / Tryz.prog.cellsOf PrT) 0 41 1 = true := by kernel_rfl
abbrev SpecBD (f : Nat) (ins : List (List A)) (s : ByteArray) (args : List A) (post : List (List A) → ByteArray → A → Prop) : Prop :=
  SpecRD Tryz.prog f ins 5 0 s.size [.v (.string s)] args fun o n cs r => ∃ s', n = s'.size ∧ cs = [.v (.string s')] ∧ post o s' r
def putF (s : ByteArray) (l : List ByteArray) : ByteArray := l.foldl glueF s
theorem putF_succ (s : ByteArray) (l : List ByteArray) (j : Nat) (h : j < l.length) : putF s (l.take (j + 1)) = glueF (putF s (l.take j)) l[j] := by
  unfold putF
  rw [List.take_succ_eq_append_getElem h, List.foldl_append]; rfl
set_option maxHeartbeats 1000000 in
theorem put_spec (s : ByteArray) (l : List ByteArray) (hll : l.length ≤ 1000000) (hne : ∀ x ∈ l, 0 < x.size) (hz : ∀ j, (putF s (l.take j)).size ≤ 1000000000) : SpecBD 27 [[.adr PrT, .own 0]] s [.box 0 0, .sl 1 l.length (txA l)] fun o s' r => o = [[.adr PrT, .own 0]] ∧ s' = putF s l ∧ r = .tup [] := by
  obtain ⟨S, hS⟩ : ∃ S : Nat → ByteArray, ∀ j, S j = putF s (l.take j) := ⟨_, fun _ => rfl⟩
  have hS0 : S 0 = s := by rw [hS]; rfl
  have hSl : S l.length = putF s l := by rw [hS, List.take_length]
  have hSz : ∀ j, (S j).size ≤ 1000000000 := fun j => by rw [hS]; exact hz j
  rw [← hSl, ← hS0]
  refine specRD_of (cx_ok ord0 xs0 1) (fun _ _ h => h) Tryz.func27 rfl (by kernel_rfl) rfl (by kernel_rfl) ?_
  intro _
  conv => whnf
  refine loop_keep [0, 1, 4, 8, 9] ?_
  conv => whnf
  refine loop_go (fun j : Nat => [(10, .v (.int .i64 j))]) (fun _ => [[.adr PrT, .own 0]]) (fun j => [.live 5 0 (S j).size [.v (.string (S j))]]) (fun j => j ≤ l.length) (fun j => l.length - j) 0 ?_ (Nat.zero_le _) ?_
  · repeat' constructor
  rintro j hj
  conv => whnf
  by_cases hlt : j < l.length
  · rw [decide_eq_true (show (j : Int) < (l.length : Int) by omega)]
    have hrow : rowOf 1 j (txA l) = [strA l[j]] := rowOf_map strA l j hlt
    have hx := hne l[j] (List.getElem_mem hlt)
    have hSn : S (j + 1) = glueF (S j) l[j] := by rw [hS, hS]; exact putF_succ s l j hlt
    have hz1 := hSz j
    have hz2 := hSz (j + 1)
    rw [hSn] at hz2
    generalize l[j] = x at *
    conv => whnf
    refine ⟨by omega, ?_⟩
    conv => whnf
    (generalize hrq : rowOf _ _ (txA l) = rq; obtain rfl : rq = [strA x] := hrq.symm.trans (hrow); clear hrq; conv => whnf)
    refine callR1 0 0 1 [] rfl rfl rfl rfl rfl rfl rfl (fun _ => blen_spec PrT (S j)) ?_
    rintro o n' cs' r ⟨s', rfl, rfl, ho, rfl, rfl⟩
    cases ho
    conv => whnf
    by_cases e0 : S j = ⟨#[]⟩
    · have hg : glueF (S j) x = S j ++ x := by unfold glueF; rw [if_pos e0]
      have hs0 : (S j).size = 0 := by rw [e0]; rfl
      rw [decide_eq_false (show ¬ (0 : Int) < ((S j).size : Int) by omega)]
      rw [hg, ByteArray.size_append] at hz2
      rw [hg] at hSn
      conv => whnf
      refine callR1 0 1 2 [] rfl rfl rfl rfl rfl rfl rfl (fun _ => bwrites_spec PrT pr_lies _ x (by omega)) ?_
      rintro o n' cs' r ⟨s', rfl, rfl, ho, hs', rfl⟩
      cases ho
      conv => whnf
      refine ⟨i64r (by omega), ?_⟩
      conv => whnf
      refine ⟨j + 1, le_selH [2] ?_, hlt, by omega⟩
      conv => whnf
      subst hs'
      rw [show S (j + 1) = _ from hSn]
      repeat' constructor
    · have hs0 := size_ne e0
      have h1 := word_spec (lastB (S j))
      have h2 := word_spec (firstB x)
      rw [decide_eq_true (show (0 : Int) < ((S j).size : Int) by omega)]
      have hgl : glueF (S j) x = if isLD (lastB (S j)) = false then S j ++ x else if isLD (firstB x) = false then S j ++ x else S j ++ ⟨#[32]⟩ ++ x := by
        unfold glueF
        rw [if_neg e0, if_neg (fun e => by rw [e] at hx; exact absurd hx (by decide))]
      conv => whnf
      refine callR1 0 1 2 [] rfl rfl rfl rfl rfl rfl rfl (fun _ => bstring_spec PrT (S j) hs0) ?_
      rintro o n' cs' r ⟨s', rfl, rfl, ho, rfl, rfl⟩
      cases ho
      conv => whnf
      refine ⟨i64r (by omega), ?_⟩
      conv => whnf
      refine ⟨⟨by omega, by omega⟩, ?_⟩
      rw [show (S j).data.toList.getD (Int.toNat (((S j).size : Int) - 1)) 0 = lastB (S j) from by unfold lastB; congr 1; omega]
      generalize isLD (lastB (S j)) = p at *
      (refine call0 [] rfl (fun _ => h1) ?_; rintro r rfl; conv => whnf)
      cases p
      · rw [if_pos rfl] at hgl
        rw [hgl, ByteArray.size_append] at hz2
        rw [hgl] at hSn
        conv => whnf
        refine callR1 0 2 3 [] rfl rfl rfl rfl rfl rfl rfl (fun _ => bwrites_spec PrT pr_lies _ x (by omega)) ?_
        rintro o n' cs' r ⟨s', rfl, rfl, ho, hs', rfl⟩
        cases ho
        conv => whnf
        refine ⟨i64r (by omega), ?_⟩
        conv => whnf
        refine ⟨j + 1, le_selH [3] ?_, hlt, by omega⟩
        conv => whnf
        subst hs'
        rw [show S (j + 1) = _ from hSn]
        repeat' constructor
      · rw [if_neg (by decide)] at hgl
        conv => whnf
        refine ⟨⟨by omega, by omega⟩, ?_⟩
        rw [show x.data.toList.getD (Int.toNat 0) 0 = firstB x from rfl]
        generalize isLD (firstB x) = q at *
        (refine call0 [] rfl (fun _ => h2) ?_; rintro r rfl; conv => whnf)
        cases q
        · rw [if_pos rfl] at hgl
          rw [hgl, ByteArray.size_append] at hz2
          rw [hgl] at hSn
          conv => whnf
          refine callR1 0 2 3 [] rfl rfl rfl rfl rfl rfl rfl (fun _ => bwrites_spec PrT pr_lies _ x (by omega)) ?_
          rintro o n' cs' r ⟨s', rfl, rfl, ho, hs', rfl⟩
          cases ho
          conv => whnf
          refine ⟨i64r (by omega), ?_⟩
          conv => whnf
          refine ⟨j + 1, le_selH [3] ?_, hlt, by omega⟩
          conv => whnf
          subst hs'
          rw [show S (j + 1) = _ from hSn]
          repeat' constructor
        · rw [if_neg (by decide)] at hgl
          rw [hgl, ByteArray.size_append, ByteArray.size_append] at hz2
          have hsp : (⟨#[32]⟩ : ByteArray).size = 1 := rfl
          rw [hsp] at hz2
          rw [hgl] at hSn
          conv => whnf
          refine callR1 0 2 3 [] rfl rfl rfl rfl rfl rfl rfl (fun _ => bwriteb_spec PrT pr_lies (S j) 32 (by omega) (by omega)) ?_
          rintro o n' cs' r ⟨s', rfl, rfl, ho, hs', rfl⟩
          obtain rfl : s' = S j ++ ⟨#[32]⟩ := hs'
          cases ho
          conv => whnf
          refine callR1 0 3 4 [] rfl rfl rfl rfl rfl rfl rfl (fun _ => bwrites_spec PrT pr_lies _ x (by rw [ByteArray.size_append, hsp]; omega)) ?_
          rintro o n' cs' r ⟨s', rfl, rfl, ho, hs', rfl⟩
          cases ho
          conv => whnf
          refine ⟨i64r (by omega), ?_⟩
          conv => whnf
          refine ⟨j + 1, le_selH [4] ?_, hlt, by omega⟩
          conv => whnf
          subst hs'
          rw [show S (j + 1) = _ from hSn]
          repeat' constructor
  · rw [decide_eq_false (show ¬ (j : Int) < (l.length : Int) by omega)]
    obtain rfl : j = l.length := by omega
    conv => whnf
    refine ⟨0, ?_⟩
    conv => whnf
    exact ⟨_, rfl, rfl, rfl, rfl, rfl⟩
theorem lprec_spec (f : Fm) : Spec Tryz.prog 26 [] [.agg (fmA f)] fun _ r => r = intA (precF f) := by
  have hc := isC_spec f
  unfold precF
  generalize hg : isC f = q at *
  clear hg
  refine spec_of (cx_ok ord0 xs0 0) (fun _ _ h => h) Tryz.func26 rfl (by kernel_rfl) rfl (by kernel_rfl) ?_
  intro _
  conv => whnf
  (refine call0 [] rfl (fun _ => hc) ?_; rintro r rfl; conv => whnf)
  cases q
  · conv => whnf
    by_cases h1 : f.k = 1
    · rw [decide_eq_true h1]
      conv => whnf
      rfl
    · rw [decide_eq_false h1]
      conv => whnf
      by_cases h4 : f.k = 4
      · rw [decide_eq_true h4, if_neg (by decide), if_pos h4]
        conv => whnf
        rfl
      · rw [decide_eq_false h4, if_neg (by decide), if_neg h4]
        conv => whnf
        by_cases h3 : f.k = 3
        · rw [decide_eq_true h3, if_pos h3]
          conv => whnf
          rfl
        · rw [decide_eq_false h3, if_neg h3]
          conv => whnf
          by_cases h6 : f.k = 6
          · rw [decide_eq_true h6, if_pos h6]
            conv => whnf
            rfl
          · rw [decide_eq_false h6, if_neg h6]
            conv => whnf
            rfl
  · conv => whnf
    rfl
end Go.Proofs.YtndflafkigldmaaGreatDoor.Vm
namespace Go.Proofs.YtndflafkigldmaaGreatDoor.Vm
open Go.RowKit Go.Shelf
set_option linter.unusedSimpArgs false
set_option linter.unusedVariables false
set_option maxRecDepth 100000
def laysLaysMn171_ren : Go.Shelf.Ren := ⟨fun | 129 => 93 | 171 => 28 | 243 => 46 | 246 => 68 | 283 => 79 | 284 => 80 | 285 => 81 | 286 => 82 | 317 => 92 | 318 => 94 | 319 => 95 | 320 => 96 | 337 => 101 | 338 => 102 | n => n, fun | 37 => 39 | 46 => 131 | 51 => 140 | 53 => 107 | 171 => 124 | 173 => 127 | 212 => 139 | 213 => 141 | 232 => 155 | 233 => 156 | n => n, fun | 17 => 0 | 18 => 3 | 19 => 4 | n => n⟩
theorem laysLaysMn171 : LaysM.n171 Tryz.prog laysLaysMn171_ren where
  mixed := by kernel_rfl
  f129 := Tryz.func93.trans (congrArg some (by kernel_rfl))
  f171 := Tryz.func28.trans (congrArg some (by kernel_rfl))
  f243 := Tryz.func46.trans (congrArg some (by kernel_rfl))
  f246 := Tryz.func68.trans (congrArg some (by kernel_rfl))
  f283 := Tryz.func79.trans (congrArg some (by kernel_rfl))
  f284 := Tryz.func80.trans (congrArg some (by kernel_rfl))
  f285 := Tryz.func81.trans (congrArg some (by kernel_rfl))
  f286 := Tryz.func82.trans (congrArg some (by kernel_rfl))
  f317 := Tryz.func92.trans (congrArg some (by kernel_rfl))
  f318 := Tryz.func94.trans (congrArg some (by kernel_rfl))
  f319 := Tryz.func95.trans (congrArg some (by kernel_rfl))
  f320 := Tryz.func96.trans (congrArg some (by kernel_rfl))
  f337 := Tryz.func101.trans (congrArg some (by kernel_rfl))
  f338 := Tryz.func102.trans (congrArg some (by kernel_rfl))
  t0 := Tryz.underlying0
  a0 := Tryz.isAgg0
  z0 := Tryz.sizeOf0
  v0 := Tryz.zeroValue0
  t2 := Tryz.underlying2
  a2 := Tryz.isAgg2
  z2 := Tryz.sizeOf2
  v2 := Tryz.zeroValue2
  t3 := Tryz.underlying3
  a3 := Tryz.isAgg3
  z3 := Tryz.sizeOf3
  v3 := Tryz.zeroValue3
  t4 := Tryz.underlying4
  a4 := Tryz.isAgg4
  z4 := Tryz.sizeOf4
  v4 := Tryz.zeroValue4
  t5 := Tryz.underlying5
  a5 := Tryz.isAgg5
  z5 := Tryz.sizeOf5
  v5 := Tryz.zeroValue5
  t9 := Tryz.underlying9
  a9 := Tryz.isAgg9
  z9 := Tryz.sizeOf9
  v9 := Tryz.zeroValue9
  t20 := Tryz.underlying20
  a20 := Tryz.isAgg20
  z20 := Tryz.sizeOf20
  v20 := Tryz.zeroValue20
  t37 := Tryz.underlying39
  a37 := Tryz.isAgg39
  z37 := Tryz.sizeOf39
  v37 := Tryz.zeroValue39
  t46 := Tryz.underlying131
  a46 := Tryz.isAgg131
  z46 := Tryz.sizeOf131
  v46 := Tryz.zeroValue131
  t51 := Tryz.underlying140
  a51 := Tryz.isAgg140
  z51 := Tryz.sizeOf140
  v51 := Tryz.zeroValue140
  t53 := Tryz.underlying107
  a53 := Tryz.isAgg107
  z53 := Tryz.sizeOf107
  v53 := Tryz.zeroValue107
  t171 := Tryz.underlying124
  a171 := Tryz.isAgg124
  z171 := Tryz.sizeOf124
  v171 := Tryz.zeroValue124
  t173 := Tryz.underlying127
  a173 := Tryz.isAgg127
  z173 := Tryz.sizeOf127
  v173 := Tryz.zeroValue127
  t212 := Tryz.underlying139
  a212 := Tryz.isAgg139
  z212 := Tryz.sizeOf139
  v212 := Tryz.zeroValue139
  t213 := Tryz.underlying141
  a213 := Tryz.isAgg141
  z213 := Tryz.sizeOf141
  t232 := Tryz.underlying155
  a232 := Tryz.isAgg155
  z232 := Tryz.sizeOf155
  v232 := Tryz.zeroValue155
  t233 := Tryz.underlying156
  a233 := Tryz.isAgg156
  z233 := Tryz.sizeOf156
  v233 := Tryz.zeroValue156
  g17 := by kernel_rfl
  g18 := by kernel_rfl
  g19 := by kernel_rfl
  i0 := by kernel_rfl
  i2 := by kernel_rfl
  i3 := by kernel_rfl
  i4 := by kernel_rfl
  i5 := by kernel_rfl
  i9 := by kernel_rfl
  i20 := by kernel_rfl
  i37 := by kernel_rfl
  i46 := by kernel_rfl
  i51 := by kernel_rfl
  i53 := by kernel_rfl
  i171 := by kernel_rfl
  i173 := by kernel_rfl
  i212 := by kernel_rfl
  i232 := by kernel_rfl
  i233 := by kernel_rfl
  m17 := by kernel_rfl
  m18 := by kernel_rfl
  m19 := by kernel_rfl

theorem tab_is {w : World} {C : Rd} (h : Gok C w) (hs : Sub C (see w)) : Lib.TabIs Tryz.prog w "internal/strconv.uint64pow10" .u64 Lib.pow10Tab := by
  have hm : (0, (List.range 20).map fun i => A.v (.int .u64 ((10 ^ i : Nat) : Int))) ∈ globs := by unfold globs; exact List.mem_cons_self
  obtain ⟨cs, T, sp, h1, h2⟩ := h.sz _ hm
  obtain ⟨us, k1, k2⟩ := A.repAt_vals (h.cs _ hm).2
  unfold Lib.TabIs World.var?
  rw [show Tryz.prog.globalNamed "internal/strconv.uint64pow10" = some 0 by kernel_rfl, Option.bind_some]
  have h1 : w.heap[0]? = some (.cells cs T sp) := h1
  rw [h1]
  have hv : us = (Lib.pow10Tab.map fun z => Value.int .u64 z) := by
    have e : ((List.range 20).map fun i => A.v (.int .u64 ((10 ^ i : Nat) : Int))) = (Lib.pow10Tab.map fun z => Value.int .u64 z).map A.v := by unfold Lib.pow10Tab; rw [List.map_map, List.map_map]; rfl
    have k1 := A.repC_L k1
    rw [e] at k1
    exact repL_vs k1
  subst hv
  show some cs = _
  refine congrArg some ?_
  apply Array.ext_getElem?
  intro i
  by_cases hi : i < cs.size
  · have hi2 : i < 20 := by rw [h2] at hi; simpa using hi
    obtain ⟨u, hu⟩ : ∃ u, (Lib.pow10Tab.map fun z => Value.int .u64 z)[i]? = some u := ⟨_, List.getElem?_eq_getElem (by simp [Lib.pow10Tab, hi2])⟩
    have := hs _ _ (k2 i u hu)
    change w.cell? _ = _ at this
    have e2 : (List.map (fun z => Value.int IntKind.u64 z) Lib.pow10Tab).toArray[i]? = some u := by rw [List.getElem?_toArray]; exact hu
    refine Eq.trans ?_ e2.symm
    rw [← this]
    simp [World.cell?, h1]
  · rw [Array.getElem?_eq_none (by omega), List.getElem?_toArray, List.getElem?_eq_none (by rw [h2] at hi; simp [Lib.pow10Tab] at hi ⊢; exact hi)]
theorem itoa_spec (n : Int) : Spec Tryz.prog 28 [] [intA n] fun _ r => (-9223372036854775808 ≤ n ∧ n ≤ 9223372036854775807) ∧ r = strA (bs (Lib.itoa n)) := by
  refine ⟨call_of Tryz.func28 rfl (by kernel_rfl), ?_⟩
  intro w C β vals hg hsub h2 h3 h4 h5 hv
  obtain ⟨u, us, rfl, h6, h7⟩ := hv
  have e1 := (A.rep_v_iff.1 h6).1
  have hn := okV_int.1 (A.rep_v_iff.1 h6).2
  obtain rfl : us = [] := h7
  subst e1
  have hβ : β = [] := List.eq_nil_of_length_eq_zero (by simpa using h4.symm)
  subst hβ
  refine (Any.strconv_Itoa laysLaysMn171 n hn.1 hn.2 w (tab_is hg hsub)).mono ?_
  rintro e w' ⟨rfl, k, os, rfl⟩
  exact ⟨[], strA (bs (Lib.itoa n)), _, rfl, ⟨hn, rfl⟩, Keeps.of_ext (Lib.below_grow _ _ (Nat.le_refl _) k os), rfl, fun i b cs hb => by simp at hb, A.rep_v (by show (bs (Lib.itoa n)).size ≤ maxLen; rw [bs_size]; have := Lib.itoa_length_le n hn.1 hn.2; unfold maxLen; omega)⟩
theorem decS_eq : ∀ (u : Nat), Lib.decDigits u = decS u := fun u => by
  induction u using Nat.strongRecOn with
  | _ u ih =>
    rw [Lib.decDigits]
    unfold decS
    split
    · by_cases h0 : u = 0
      · subst h0; rfl
      · rw [if_neg h0, decD_pos h0, show u / 10 = 0 by omega, decD_zero, List.nil_append, show u % 10 = u by omega]
    · rw [ih (u / 10) (by omega), if_neg (by omega), decD_pos (by omega)]
      unfold decS
      rw [if_neg (by omega)]
theorem itoa_decZ (n : Int) : Lib.itoa n = decZ n := by
  unfold Lib.itoa decZ
  split
  · rw [decS_eq]; unfold decS; rw [if_neg (by omega)]
  · rw [decS_eq, show n.toNat = n.natAbs by omega]
theorem litoa_spec (n : Int) : Spec Tryz.prog 28 [] [intA n] fun _ r => r = strA (bs (decZ n)) := by
  rw [← itoa_decZ]
  exact (itoa_spec n).mono fun _ _ h => h.2
def boolB (b : Bool) : ByteArray := if b = true then ⟨#[116, 114, 117, 101]⟩ else ⟨#[102, 97, 108, 115, 101]⟩
theorem ifmtb_spec (b : Bool) : Spec Tryz.prog 47 [] [boolA b] fun _ r => r = strA (boolB b) := by
  refine spec_of (cx_ok ord0 xs0 0) (fun _ _ h => h) Tryz.func47 rfl (by kernel_rfl) rfl (by kernel_rfl) ?_
  intro _
  conv => whnf
  cases b
  · conv => whnf
    rfl
  · conv => whnf
    rfl
theorem fmtb_spec (b : Bool) : Spec Tryz.prog 29 [] [boolA b] fun _ r => r = strA (boolB b) := by
  have h := ifmtb_spec b
  refine spec_of (cx_ok ord0 xs0 0) (fun _ _ h => h) Tryz.func29 rfl (by kernel_rfl) rfl (by kernel_rfl) ?_
  intro _
  conv => whnf
  (refine call0 [] rfl (fun _ => h) ?_; rintro r rfl; conv => whnf)
  conv => whnf
  rfl
end Go.Proofs.YtndflafkigldmaaGreatDoor.Vm
namespace Go.Proofs.YtndflafkigldmaaGreatDoor.Vm
open Go.RowKit Go.Shelf
set_option linter.unusedSimpArgs false
set_option linter.unusedVariables false
set_option maxRecDepth 100000
def gapF (a b : ByteArray) : ByteArray := if a = ⟨#[]⟩ ∨ b = ⟨#[]⟩ ∨ isLD (lastB a) = false ∨ isLD (firstB b) = false then ⟨#[]⟩ else ⟨#[32]⟩
theorem ba_list {a b : ByteArray} (h : a.data.toList = b.data.toList) : a = b := ByteArray.ext (Array.toList_inj.1 h)
theorem ba_app (a b : ByteArray) : (a ++ b).data.toList = a.data.toList ++ b.data.toList := by simp
theorem ba_nil (a : ByteArray) : a ++ ⟨#[]⟩ = a := ba_list (by simp)
theorem nil_ba (a : ByteArray) : ⟨#[]⟩ ++ a = a := ba_list (by simp)
theorem ba_ne {a : ByteArray} : a ≠ ⟨#[]⟩ ↔ a.data.toList ≠ [] := by
  constructor
  · intro h e; exact h (ba_list e)
  · rintro h rfl; exact h rfl
theorem ba_assoc (a b c : ByteArray) : a ++ b ++ c = a ++ (b ++ c) := ba_list (by simp)
theorem glue_gap (a b : ByteArray) : glueF a b = a ++ gapF a b ++ b := by
  unfold glueF gapF
  split
  · rename_i h; rw [if_pos (.inl h), ba_nil]
  split
  · rename_i h; rw [if_pos (.inr (.inl h)), ba_nil]
  split
  · rename_i h; rw [if_pos (.inr (.inr (.inl h))), ba_nil]
  split
  · rename_i h; rw [if_pos (.inr (.inr (.inr h))), ba_nil]
  · rename_i h1 h2 h3 h4
    rw [if_neg (by rintro (h | h | h | h) <;> contradiction)]
theorem app_ne_r {a b : ByteArray} (h : b ≠ ⟨#[]⟩) : a ++ b ≠ ⟨#[]⟩ := by
  rw [ba_ne] at h ⊢
  rw [ba_app]
  intro e
  exact h (List.append_eq_nil_iff.1 e).2
theorem app_ne_l {a b : ByteArray} (h : a ≠ ⟨#[]⟩) : a ++ b ≠ ⟨#[]⟩ := by
  rw [ba_ne] at h ⊢
  rw [ba_app]
  intro e
  exact h (List.append_eq_nil_iff.1 e).1
theorem sz_list (a : ByteArray) : a.size = a.data.toList.length := by rw [Array.length_toList]; rfl
theorem last_app_r (a : ByteArray) {b : ByteArray} (h : b ≠ ⟨#[]⟩) : lastB (a ++ b) = lastB b := by
  have hb := size_ne h
  unfold lastB
  rw [sz_list] at hb
  rw [sz_list, sz_list, ba_app, List.getD_eq_getElem?_getD, List.getD_eq_getElem?_getD, List.length_append, List.getElem?_append_right (by omega)]
  congr 2
  omega
theorem first_app_l {a : ByteArray} (b : ByteArray) (h : a ≠ ⟨#[]⟩) : firstB (a ++ b) = firstB a := by
  have ha := size_ne h
  unfold firstB
  rw [sz_list] at ha
  rw [ba_app, List.getD_eq_getElem?_getD, List.getD_eq_getElem?_getD, List.getElem?_append_left ha]
theorem glue_ne_r {a b : ByteArray} (h : b ≠ ⟨#[]⟩) : glueF a b ≠ ⟨#[]⟩ := by rw [glue_gap]; exact app_ne_r h
theorem glue_ne_l {a b : ByteArray} (h : a ≠ ⟨#[]⟩) : glueF a b ≠ ⟨#[]⟩ := by rw [glue_gap, ba_assoc]; exact app_ne_l h
theorem glue_assoc (a b c : ByteArray) (hb : b ≠ ⟨#[]⟩) : glueF (glueF a b) c = glueF a (glueF b c) := by
  have e1 : gapF (glueF a b) c = gapF b c := by
    have h1 : lastB (glueF a b) = lastB b := by rw [glue_gap]; exact last_app_r _ hb
    unfold gapF
    rw [h1]
    simp only [glue_ne_r (a := a) hb, hb, false_or]
  have e2 : gapF a (glueF b c) = gapF a b := by
    have h1 : firstB (glueF b c) = firstB b := by rw [glue_gap, ba_assoc]; exact first_app_l _ hb
    unfold gapF
    rw [h1]
    simp only [glue_ne_l (b := c) hb, hb, false_or]
  rw [glue_gap (glueF a b) c, e1, glue_gap a (glueF b c), e2, glue_gap a b, glue_gap b c]
  simp only [ba_assoc]
theorem glue_sym_r (a b : ByteArray) (h : isLD (firstB b) = false) : glueF a b = a ++ b := by
  rw [glue_gap]
  unfold gapF
  rw [if_pos (.inr (.inr (.inr h))), ba_nil]
theorem glue_sym_l (a b : ByteArray) (h : isLD (lastB a) = false) : glueF a b = a ++ b := by
  rw [glue_gap]
  unfold gapF
  rw [if_pos (.inr (.inr (.inl h))), ba_nil]
theorem glue_par (s b : ByteArray) : glueF (glueF (glueF s ⟨#[40]⟩) b) ⟨#[41]⟩ = glueF s (⟨#[40]⟩ ++ b ++ ⟨#[41]⟩) := by
  rw [glue_assoc s _ b (by decide), glue_assoc s _ _ (glue_ne_l (by decide)), glue_sym_l ⟨#[40]⟩ b (by decide), glue_sym_r _ ⟨#[41]⟩ (by decide)]
theorem putF_one (s x : ByteArray) : putF s [x] = glueF s x := rfl
theorem putF_two (s x y : ByteArray) : putF s [x, y] = glueF (glueF s x) y := rfl
theorem glue_var (s v o n : ByteArray) (hv : v ≠ ⟨#[]⟩) (h1 : isLD (firstB o) = false) (h2 : isLD (lastB o) = false) (h3 : o ≠ ⟨#[]⟩) : glueF (glueF (glueF s v) o) n = glueF s (v ++ o ++ n) := by
  rw [glue_assoc s v o hv, glue_sym_r v o h1, glue_assoc s _ n (app_ne_l hv), glue_sym_l (v ++ o) n (by rw [last_app_r _ h3]; exact h2)]
theorem glue_neg (s v o n : ByteArray) (hv : v ≠ ⟨#[]⟩) (h1 : isLD (firstB o) = false) (h2 : isLD (lastB o) = false) (h3 : o ≠ ⟨#[]⟩) : glueF (glueF (glueF (glueF s v) o) ⟨#[45]⟩) n = glueF s (v ++ o ++ (⟨#[45]⟩ ++ n)) := by
  rw [glue_assoc s v o hv, glue_sym_r v o h1, glue_assoc s _ _ (app_ne_l hv), glue_sym_r _ ⟨#[45]⟩ (by decide), glue_assoc s _ n (app_ne_l (app_ne_l hv)), glue_sym_l _ n (by rw [last_app_r _ (by decide)]; decide), ba_assoc (v ++ o)]
theorem glue_til (s x u y : ByteArray) (hx : x ≠ ⟨#[]⟩) (hu : u ≠ ⟨#[]⟩) : glueF (glueF (glueF s x) u) y = glueF s (glueF (glueF x u) y) := by
  rw [glue_assoc s x u hx, glue_assoc s _ y (glue_ne_r hu)]
theorem opB_facts (b : Int) : isLD (firstB (opB b)) = false ∧ isLD (lastB (opB b)) = false ∧ opB b ≠ ⟨#[]⟩ := by
  unfold opB
  repeat' split
  all_goals decide
theorem sepB_facts (k : Int) : isLD (firstB (sepB k)) = false ∧ isLD (lastB (sepB k)) = false ∧ sepB k ≠ ⟨#[]⟩ ∧ (sepB k).size = 2 := by
  unfold sepB
  split <;> decide
theorem empB_ne (k : Int) : empB k ≠ ⟨#[]⟩ := by
  unfold empB
  split <;> decide
theorem joinB_ne (sep e : ByteArray) (he : e ≠ ⟨#[]⟩) : ∀ l : List ByteArray, (∀ x ∈ l, x ≠ ⟨#[]⟩) → joinB sep e l ≠ ⟨#[]⟩
  | [], _ => he
  | x :: l, h => by
    unfold joinB
    suffices ∀ (l : List ByteArray) (a : ByteArray), a ≠ ⟨#[]⟩ → l.foldl (fun a y => a ++ sep ++ y) a ≠ ⟨#[]⟩ from this l x (h x List.mem_cons_self)
    intro l
    induction l with
    | nil => exact fun a h => h
    | cons y l ih => exact fun a h => ih _ (app_ne_l (app_ne_l h))
theorem glue_sep (s a sep y : ByteArray) (ha : a ≠ ⟨#[]⟩) (h1 : isLD (firstB sep) = false) (h2 : isLD (lastB sep) = false) (h3 : sep ≠ ⟨#[]⟩) : glueF (glueF (glueF s a) sep) y = glueF s (a ++ sep ++ y) := glue_var s a sep y ha h1 h2 h3
theorem parF_ne {p lv : Int} {fu : Bool} {b : ByteArray} (h : b ≠ ⟨#[]⟩) : parF p lv fu b ≠ ⟨#[]⟩ := by
  unfold parF
  repeat' split
  all_goals first | exact h | exact app_ne_r (by decide)
theorem showF_ne {d : Nat} {f : Fm} (h : Gf d f) : ∀ lv fu, showF f lv fu ≠ ⟨#[]⟩ := by
  induction h with
  | var h1 h2 h3 => intro lv fu; rw [showF_mk]; refine parF_ne ?_; unfold bodyF; rw [if_pos rfl]; exact app_ne_l (app_ne_l (app_ne_l (by decide)))
  | cst b =>
    intro lv fu
    cases b
    · unfold constF; rw [showF_mk]; refine parF_ne ?_; rw [showsF_map, showsF_map, showsF_map]
      exact empB_ne 4
    · unfold constF; rw [showF_mk]; refine parF_ne ?_; rw [showsF_map, showsF_map, showsF_map]
      exact empB_ne 3
  | un hk h ih =>
    intro lv fu
    rw [showF_mk]; refine parF_ne ?_; rw [showsF_map, showsF_map, showsF_map]; unfold bodyF
    rcases hk with rfl | rfl | rfl | rfl
    · exact app_ne_l (a := ⟨#[33]⟩) (by decide)
    · exact glue_ne_l (a := nextB) (by decide)
    · exact glue_ne_l (a := alwaysB) (by decide)
    · exact glue_ne_l (a := evB) (by decide)
  | til h1 h2 ih1 ih2 =>
    intro lv fu
    rw [showF_mk]; refine parF_ne ?_; rw [showsF_map, showsF_map, showsF_map]; unfold bodyF
    exact glue_ne_l (glue_ne_r (b := untilB) (by decide))
  | jn hk hl h ih =>
    intro lv fu
    rw [showF_mk]; refine parF_ne ?_; rw [showsF_map, showsF_map, showsF_map]; unfold bodyF
    rcases hk with rfl | rfl
    · refine joinB_ne _ _ (empB_ne _) _ fun x hx => ?_
      obtain ⟨g, hg, rfl⟩ := List.mem_map.1 hx
      exact ih g hg _ _
    · refine joinB_ne _ _ (empB_ne _) _ fun x hx => ?_
      obtain ⟨g, hg, rfl⟩ := List.mem_map.1 hx
      exact ih g hg _ _
end Go.Proofs.YtndflafkigldmaaGreatDoor.Vm
namespace Go.Proofs.YtndflafkigldmaaGreatDoor.Vm
open Go.RowKit Go.Shelf
set_option linter.unusedSimpArgs false
set_option linter.unusedVariables false
set_option maxRecDepth 100000
def ordPF (id : Nat) : Tr := match Nat.beq id 13 with
  | true => .q 0 8 .nil
  | false => .nil
def PfSpec (d : Nat) (f : Fm) : Prop := ∀ (s : ByteArray) (lv : Int), s.size + 1000 * 4 ^ d ≤ 500000000 → SpecB 12 [[.adr PrT, .own 0]] s [.box 0 0, .agg (fmA f), intA lv] fun o s' r => o = [[.adr PrT, .own 0]] ∧ s' = glueF s (showF f lv false) ∧ r = .tup []
def mu4 (sn : List Nat) : Nat := (if 0 ∈ sn then 0 else 1) + (if 1 ∈ sn then 0 else 1) + (if 2 ∈ sn then 0 else 1) + (if 3 ∈ sn then 0 else 1)
theorem mu4_lt {sn : List Nat} {j : Nat} (hj : j < 4) (h : j ∉ sn) : mu4 (j :: sn) < mu4 sn := by
  unfold mu4
  have hc : j = 0 ∨ j = 1 ∨ j = 2 ∨ j = 3 := by omega
  rcases hc with rfl | rfl | rfl | rfl <;> simp [h] <;> (repeat' split) <;> omega
def idxA (sn : List Nat) : List A := sn.map fun j : Nat => .v (.int .i64 (j : Int))
theorem idx_mem {sn : List Nat} {j : Nat} : A.v (.int .i64 (j : Int)) ∈ idxA sn ↔ j ∈ sn := by
  unfold idxA
  rw [List.mem_map]
  constructor
  · rintro ⟨i, h, e⟩
    injection e with e; injection e with e1 e2
    obtain rfl : i = j := by omega
    exact h
  · exact fun h => ⟨j, h, rfl⟩
theorem put1_spec (s x : ByteArray) (hx : 0 < x.size) (hz : s.size + x.size + 1 ≤ 1000000000) : SpecBD 27 [[.adr PrT, .own 0]] s [.box 0 0, .sl 1 1 [strA x]] fun o s' r => o = [[.adr PrT, .own 0]] ∧ s' = glueF s x ∧ r = .tup [] := by
  refine put_spec s [x] (by simp) (by simpa using hx) fun j => ?_
  have := glue_size s x
  match j with
  | 0 => show s.size ≤ _; omega
  | j + 1 => show (putF s ([x].take (j + 1))).size ≤ _; rw [show [x].take (j + 1) = [x] by simp, putF_one]; omega
theorem parF_no {p lv : Int} {b : ByteArray} (h : ¬ p < lv) : parF p lv false b = b := by unfold parF; rw [if_neg h, if_pos rfl]
theorem parF_yes {p lv : Int} {fu : Bool} {b : ByteArray} (h : p < lv) : parF p lv fu b = ⟨#[40]⟩ ++ b ++ ⟨#[41]⟩ := by unfold parF; rw [if_pos h]
theorem glue_bang (s x : ByteArray) : glueF (glueF s ⟨#[33]⟩) x = glueF s (⟨#[33]⟩ ++ x) := by rw [glue_assoc s _ x (by decide), glue_sym_l ⟨#[33]⟩ x (by decide)]
theorem z1c (n : UInt8) : (⟨#[n]⟩ : ByteArray).size = 1 := rfl
theorem pf_un2 (d : Nat) (f : Fm) (hg : Gf d f) (ih : PfSpec d f) : PfSpec (d + 1) (.mk 2 0 0 0 [f]) := fun s lv hs => by
  have hbd : ⟨#[33]⟩ ++ showF f 4 false = glueF ⟨#[33]⟩ (showF f 4 false) := (glue_sym_l ⟨#[33]⟩ _ (by decide)).symm
  have hp := lprec_spec (.mk 2 0 0 0 [f])
  rw [show precF (.mk 2 0 0 0 [f]) = 4 from rfl] at hp
  have hr0 : rowOf 5 (Int.toNat 0) (fmsA [f]) = fmA f := rowOf_fms [f] 0 (by simp)
  rw [showF_mk, showsF_map, showsF_map, showsF_map, show precF (.mk 2 0 0 0 [f]) = 4 from rfl]
  rw [show ∀ l m, bodyF 2 0 0 0 ([f].map fun f => showF f 4 false) l m = glueF ⟨#[33]⟩ (showF f 4 false) from fun _ _ => hbd]
  have hun := unaries_spec
  rw [fmA_mk] at hp ⊢
  have hz := sz_gf hg 4 false
  have htk : 0 < (⟨#[33]⟩ : ByteArray).size ∧ (⟨#[33]⟩ : ByteArray).size ≤ 10 := by decide
  have hne : (⟨#[33]⟩ : ByteArray) ≠ ⟨#[]⟩ := by decide
  have hpow : 1 ≤ 4 ^ d := Nat.pos_of_ne_zero (by simp)
  by_cases hlv : 4 < lv
  · refine specRT_of (cx_ok ordPF xs0 1) Tryz.func12 rfl (by kernel_rfl) rfl ?_
    intro _
    conv => whnf
    refine okT_step (cx_ok ordPF xs0 1) (dr := []) ⟨0, rfl⟩ (.inl rfl) (by kernel_rfl) (fun _ _ h => h.elim) ?_
    conv => whnf
    refine okT_step (cx_ok ordPF xs0 1) (dr := []) ⟨0, rfl⟩ (.inl rfl) (by kernel_rfl) (fun _ _ h => h.elim) ?_
    conv => whnf
    (refine call0 [] rfl (fun _ => hp) ?_; rintro r rfl; conv => whnf)
    conv => whnf
    refine okT_seq ?_
    refine okT_step (cx_ok ordPF xs0 1) (dr := []) ⟨0, rfl⟩ (.inl rfl) (by kernel_rfl) (fun _ _ h => h.elim) ?_
    conv => whnf
    refine okT_true (congrArg (fun b => A.v (.bool b)) (decide_eq_true hlv)) ?_
    refine okT_step (cx_ok ordPF xs0 1) (dr := []) ⟨0, rfl⟩ (.inl rfl) (by kernel_rfl) (fun _ _ h => h.elim) ?_
    conv => whnf
    refine callR1 0 0 2 [1] rfl rfl rfl rfl rfl rfl rfl (fun _ => (put1_spec s ⟨#[40]⟩ (by decide) (by rw [z1c]; omega)).r) ?_
    rintro o n' cs' r ⟨s1, rfl, rfl, ho, hs1, rfl⟩
    cases ho
    conv => whnf
    refine okT_deferP (l := [_, _]) [3] (cx_ok ordPF xs0 1) ⟨0, rfl⟩ (fun _ _ h => h.elim) rfl rfl rfl ?_
    conv => whnf
    refine okT_last (cx_ok ordPF xs0 1) ⟨1, rfl⟩ (.inl rfl) (by kernel_rfl) (fun _ _ h => h.elim) ?_
    conv => whnf
    have hz1 : s1.size ≤ s.size + 2 := by
      have := glue_size s ⟨#[40]⟩
      rw [z1c] at this
      rw [hs1]; omega
    obtain ⟨s0, h0⟩ : ∃ s0, s0 = s1 := ⟨_, rfl⟩
    obtain ⟨S, hS⟩ : ∃ S : List Nat → ByteArray, ∀ sn, S sn = if 0 ∈ sn then glueF s0 ⟨#[33]⟩ else s0 := ⟨_, fun _ => rfl⟩
    have hS0 : S [] = s1 := by rw [hS, h0]; rfl
    have hgs := glue_size s0 ⟨#[33]⟩
    have hz0 : s0.size + 1000 * 4 ^ (d + 1) ≤ 500000002 := by rw [h0]; omega
    subst hS0
    (refine call0 [] rfl (fun _ => hun) ?_; rintro r rfl; conv => whnf)
    conv => whnf
    refine loop_sel [2, 4] ?_
    conv => whnf
    refine loop_keep [0, 4, 6, 24] ?_
    conv => whnf
    refine loop_go (fun _ : List Nat => []) (fun _ => [[.adr PrT, .own 0], [intA 2, intA 0, intA 0, intA 0, .sl 5 1 (fmsA [f])]]) (fun sn => [.live 5 0 (S sn).size [.v (.string (S sn))], .live 0 0 sn.length [unA, .clo 0 (idxA sn), .v (.int .i64 4)]]) (fun sn => ∀ i ∈ sn, i < 4) mu4 [] ?_ (by simp) ?_
    · repeat' constructor
    rintro sn hsn
    conv => whnf
    refine ⟨rfl, fun x hx => ?_, fun hall => ?_, fun j hj hnew => ?_⟩
    · unfold idxA at hx
      obtain ⟨i, -, rfl⟩ := List.mem_map.1 hx
      exact ⟨_, rfl⟩
    rotate_left
    · have hns : j ∉ sn := fun h => hnew (idx_mem.2 h)
      have hj4 : j = 0 ∨ j = 1 ∨ j = 2 ∨ j = 3 := by have : j < 4 := hj; omega
      have hsn2 : ∀ i ∈ j :: sn, i < 4 := by
        intro i hi
        rcases List.mem_cons.1 hi with rfl | hi
        · exact hj
        · exact hsn i hi
      rcases hj4 with rfl | rfl | rfl | rfl
      · conv => whnf
        refine ⟨⟨rfl, by decide, by decide⟩, ?_⟩
        conv => whnf
        refine callR1 0 0 3 [2] rfl rfl rfl rfl rfl rfl rfl (fun _ => (put1_spec (S sn) ⟨#[33]⟩ htk.1 (by rw [hS, if_neg hns]; omega)).r) ?_
        rintro o n' cs' r ⟨s', rfl, rfl, ho, hs', rfl⟩
        cases ho
        conv => whnf
        refine ⟨0 :: sn, le_selH [3, 1] ?_, hsn2, mu4_lt (by decide) hns⟩
        conv => whnf
        rw [hs', show S (0 :: sn) = glueF (S sn) ⟨#[33]⟩ by rw [hS, hS, if_pos List.mem_cons_self, if_neg hns]]
        repeat' constructor
      · conv => whnf
        refine ⟨⟨rfl, by decide, by decide⟩, ?_⟩
        conv => whnf
        refine ⟨1 :: sn, le_head ?_, hsn2, mu4_lt (by decide) hns⟩
        conv => whnf
        rw [show S (1 :: sn) = S sn by rw [hS, hS]; simp]
        repeat' constructor
      · conv => whnf
        refine ⟨⟨rfl, by decide, by decide⟩, ?_⟩
        conv => whnf
        refine ⟨2 :: sn, le_head ?_, hsn2, mu4_lt (by decide) hns⟩
        conv => whnf
        rw [show S (2 :: sn) = S sn by rw [hS, hS]; simp]
        repeat' constructor
      · conv => whnf
        refine ⟨⟨rfl, by decide, by decide⟩, ?_⟩
        conv => whnf
        refine ⟨3 :: sn, le_head ?_, hsn2, mu4_lt (by decide) hns⟩
        conv => whnf
        rw [show S (3 :: sn) = S sn by rw [hS, hS]; simp]
        repeat' constructor
    have hm : 0 ∈ sn := idx_mem.1 (hall 0 (by decide))
    have hSf : S sn = glueF s0 ⟨#[33]⟩ := by rw [hS, if_pos hm]
    rw [hSf]
    conv => whnf
    refine ⟨by omega, ?_⟩
    conv => whnf
    (generalize hrq : rowOf _ _ (fmsA [f]) = rq; obtain rfl : rq = fmA f := hrq.symm.trans (hr0); clear hrq; conv => whnf)
    refine callR1 0 0 2 [] rfl rfl rfl rfl rfl rfl rfl (fun _ => ih (glueF s0 ⟨#[33]⟩) 4 (by omega)) ?_
    rintro o n' cs' r ⟨s', rfl, rfl, ho, hs', rfl⟩
    cases ho
    have hz' := glue_size (glueF s0 ⟨#[33]⟩) (showF f 4 false)
    rw [← hs'] at hz'
    conv => whnf
    refine ⟨.inl rfl, ?_⟩
    unfold leaveR
    refine dfrR1 0 2 3 [] rfl rfl rfl rfl rfl (put1_spec s' ⟨#[41]⟩ (by decide) (by rw [z1c]; omega)) ?_
    rintro o n' cs' r ⟨s9, rfl, rfl, ho, hs9, rfl⟩
    cases ho
    conv => whnf
    refine ⟨3, ?_⟩
    conv => whnf
    exact ⟨_, rfl, rfl, rfl, by rw [parF_yes hlv, hs9, hs', h0, hs1, glue_assoc _ _ _ hne, glue_par], rfl⟩
  · refine specR_of (cx_ok ordPF xs0 1) (fun _ _ h => h) Tryz.func12 rfl (by kernel_rfl) rfl (by kernel_rfl) ?_
    intro _
    conv => whnf
    (refine call0 [] rfl (fun _ => hp) ?_; rintro r rfl; conv => whnf)
    conv => whnf
    rw [decide_eq_false hlv]
    conv => whnf
    obtain ⟨s0, h0⟩ : ∃ s0, s0 = s := ⟨_, rfl⟩
    obtain ⟨S, hS⟩ : ∃ S : List Nat → ByteArray, ∀ sn, S sn = if 0 ∈ sn then glueF s0 ⟨#[33]⟩ else s0 := ⟨_, fun _ => rfl⟩
    have hS0 : S [] = s := by rw [hS, h0]; rfl
    have hgs := glue_size s0 ⟨#[33]⟩
    have hz0 : s0.size + 1000 * 4 ^ (d + 1) ≤ 500000002 := by rw [h0]; omega
    subst hS0
    (refine call0 [] rfl (fun _ => hun) ?_; rintro r rfl; conv => whnf)
    conv => whnf
    refine loop_sel [0, 1] ?_
    conv => whnf
    refine loop_keep [0, 4, 6, 24] ?_
    conv => whnf
    refine loop_go (fun _ : List Nat => []) (fun _ => [[.adr PrT, .own 0], [intA 2, intA 0, intA 0, intA 0, .sl 5 1 (fmsA [f])]]) (fun sn => [.live 5 0 (S sn).size [.v (.string (S sn))], .live 0 0 sn.length [unA, .clo 0 (idxA sn), .v (.int .i64 4)]]) (fun sn => ∀ i ∈ sn, i < 4) mu4 [] ?_ (by simp) ?_
    · repeat' constructor
    rintro sn hsn
    conv => whnf
    refine ⟨rfl, fun x hx => ?_, fun hall => ?_, fun j hj hnew => ?_⟩
    · unfold idxA at hx
      obtain ⟨i, -, rfl⟩ := List.mem_map.1 hx
      exact ⟨_, rfl⟩
    rotate_left
    · have hns : j ∉ sn := fun h => hnew (idx_mem.2 h)
      have hj4 : j = 0 ∨ j = 1 ∨ j = 2 ∨ j = 3 := by have : j < 4 := hj; omega
      have hsn2 : ∀ i ∈ j :: sn, i < 4 := by
        intro i hi
        rcases List.mem_cons.1 hi with rfl | hi
        · exact hj
        · exact hsn i hi
      rcases hj4 with rfl | rfl | rfl | rfl
      · conv => whnf
        refine ⟨⟨rfl, by decide, by decide⟩, ?_⟩
        conv => whnf
        refine callR1 0 0 3 [2] rfl rfl rfl rfl rfl rfl rfl (fun _ => (put1_spec (S sn) ⟨#[33]⟩ htk.1 (by rw [hS, if_neg hns]; omega)).r) ?_
        rintro o n' cs' r ⟨s', rfl, rfl, ho, hs', rfl⟩
        cases ho
        conv => whnf
        refine ⟨0 :: sn, le_selH [3, 1] ?_, hsn2, mu4_lt (by decide) hns⟩
        conv => whnf
        rw [hs', show S (0 :: sn) = glueF (S sn) ⟨#[33]⟩ by rw [hS, hS, if_pos List.mem_cons_self, if_neg hns]]
        repeat' constructor
      · conv => whnf
        refine ⟨⟨rfl, by decide, by decide⟩, ?_⟩
        conv => whnf
        refine ⟨1 :: sn, le_head ?_, hsn2, mu4_lt (by decide) hns⟩
        conv => whnf
        rw [show S (1 :: sn) = S sn by rw [hS, hS]; simp]
        repeat' constructor
      · conv => whnf
        refine ⟨⟨rfl, by decide, by decide⟩, ?_⟩
        conv => whnf
        refine ⟨2 :: sn, le_head ?_, hsn2, mu4_lt (by decide) hns⟩
        conv => whnf
        rw [show S (2 :: sn) = S sn by rw [hS, hS]; simp]
        repeat' constructor
      · conv => whnf
        refine ⟨⟨rfl, by decide, by decide⟩, ?_⟩
        conv => whnf
        refine ⟨3 :: sn, le_head ?_, hsn2, mu4_lt (by decide) hns⟩
        conv => whnf
        rw [show S (3 :: sn) = S sn by rw [hS, hS]; simp]
        repeat' constructor
    have hm : 0 ∈ sn := idx_mem.1 (hall 0 (by decide))
    have hSf : S sn = glueF s0 ⟨#[33]⟩ := by rw [hS, if_pos hm]
    rw [hSf]
    conv => whnf
    refine ⟨by omega, ?_⟩
    conv => whnf
    (generalize hrq : rowOf _ _ (fmsA [f]) = rq; obtain rfl : rq = fmA f := hrq.symm.trans (hr0); clear hrq; conv => whnf)
    refine callR1 0 0 2 [] rfl rfl rfl rfl rfl rfl rfl (fun _ => ih (glueF s0 ⟨#[33]⟩) 4 (by omega)) ?_
    rintro o n' cs' r ⟨s', rfl, rfl, ho, hs', rfl⟩
    cases ho
    have hz' := glue_size (glueF s0 ⟨#[33]⟩) (showF f 4 false)
    rw [← hs'] at hz'
    conv => whnf
    refine ⟨2, ?_⟩
    conv => whnf
    exact ⟨_, rfl, rfl, rfl, by rw [parF_no hlv, hs', h0, glue_assoc _ _ _ hne], rfl⟩
theorem pf_un5 (d : Nat) (f : Fm) (hg : Gf d f) (ih : PfSpec d f) : PfSpec (d + 1) (.mk 5 0 0 0 [f]) := fun s lv hs => by
  have hbd : glueF nextB (showF f 4 false) = glueF nextB (showF f 4 false) := rfl
  have hp := lprec_spec (.mk 5 0 0 0 [f])
  rw [show precF (.mk 5 0 0 0 [f]) = 4 from rfl] at hp
  have hr0 : rowOf 5 (Int.toNat 0) (fmsA [f]) = fmA f := rowOf_fms [f] 0 (by simp)
  rw [showF_mk, showsF_map, showsF_map, showsF_map, show precF (.mk 5 0 0 0 [f]) = 4 from rfl]
  rw [show ∀ l m, bodyF 5 0 0 0 ([f].map fun f => showF f 4 false) l m = glueF nextB (showF f 4 false) from fun _ _ => hbd]
  have hun := unaries_spec
  rw [fmA_mk] at hp ⊢
  have hz := sz_gf hg 4 false
  have htk : 0 < (nextB : ByteArray).size ∧ (nextB : ByteArray).size ≤ 10 := by decide
  have hne : (nextB : ByteArray) ≠ ⟨#[]⟩ := by decide
  have hpow : 1 ≤ 4 ^ d := Nat.pos_of_ne_zero (by simp)
  by_cases hlv : 4 < lv
  · refine specRT_of (cx_ok ordPF xs0 1) Tryz.func12 rfl (by kernel_rfl) rfl ?_
    intro _
    conv => whnf
    refine okT_step (cx_ok ordPF xs0 1) (dr := []) ⟨0, rfl⟩ (.inl rfl) (by kernel_rfl) (fun _ _ h => h.elim) ?_
    conv => whnf
    refine okT_step (cx_ok ordPF xs0 1) (dr := []) ⟨0, rfl⟩ (.inl rfl) (by kernel_rfl) (fun _ _ h => h.elim) ?_
    conv => whnf
    (refine call0 [] rfl (fun _ => hp) ?_; rintro r rfl; conv => whnf)
    conv => whnf
    refine okT_seq ?_
    refine okT_step (cx_ok ordPF xs0 1) (dr := []) ⟨0, rfl⟩ (.inl rfl) (by kernel_rfl) (fun _ _ h => h.elim) ?_
    conv => whnf
    refine okT_true (congrArg (fun b => A.v (.bool b)) (decide_eq_true hlv)) ?_
    refine okT_step (cx_ok ordPF xs0 1) (dr := []) ⟨0, rfl⟩ (.inl rfl) (by kernel_rfl) (fun _ _ h => h.elim) ?_
    conv => whnf
    refine callR1 0 0 2 [1] rfl rfl rfl rfl rfl rfl rfl (fun _ => (put1_spec s ⟨#[40]⟩ (by decide) (by rw [z1c]; omega)).r) ?_
    rintro o n' cs' r ⟨s1, rfl, rfl, ho, hs1, rfl⟩
    cases ho
    conv => whnf
    refine okT_deferP (l := [_, _]) [3] (cx_ok ordPF xs0 1) ⟨0, rfl⟩ (fun _ _ h => h.elim) rfl rfl rfl ?_
    conv => whnf
    refine okT_last (cx_ok ordPF xs0 1) ⟨1, rfl⟩ (.inl rfl) (by kernel_rfl) (fun _ _ h => h.elim) ?_
    conv => whnf
    have hz1 : s1.size ≤ s.size + 2 := by
      have := glue_size s ⟨#[40]⟩
      rw [z1c] at this
      rw [hs1]; omega
    obtain ⟨s0, h0⟩ : ∃ s0, s0 = s1 := ⟨_, rfl⟩
    obtain ⟨S, hS⟩ : ∃ S : List Nat → ByteArray, ∀ sn, S sn = if 1 ∈ sn then glueF s0 nextB else s0 := ⟨_, fun _ => rfl⟩
    have hS0 : S [] = s1 := by rw [hS, h0]; rfl
    have hgs := glue_size s0 nextB
    have hz0 : s0.size + 1000 * 4 ^ (d + 1) ≤ 500000002 := by rw [h0]; omega
    subst hS0
    (refine call0 [] rfl (fun _ => hun) ?_; rintro r rfl; conv => whnf)
    conv => whnf
    refine loop_sel [2, 4] ?_
    conv => whnf
    refine loop_keep [0, 4, 6, 24] ?_
    conv => whnf
    refine loop_go (fun _ : List Nat => []) (fun _ => [[.adr PrT, .own 0], [intA 5, intA 0, intA 0, intA 0, .sl 5 1 (fmsA [f])]]) (fun sn => [.live 5 0 (S sn).size [.v (.string (S sn))], .live 0 0 sn.length [unA, .clo 0 (idxA sn), .v (.int .i64 4)]]) (fun sn => ∀ i ∈ sn, i < 4) mu4 [] ?_ (by simp) ?_
    · repeat' constructor
    rintro sn hsn
    conv => whnf
    refine ⟨rfl, fun x hx => ?_, fun hall => ?_, fun j hj hnew => ?_⟩
    · unfold idxA at hx
      obtain ⟨i, -, rfl⟩ := List.mem_map.1 hx
      exact ⟨_, rfl⟩
    rotate_left
    · have hns : j ∉ sn := fun h => hnew (idx_mem.2 h)
      have hj4 : j = 0 ∨ j = 1 ∨ j = 2 ∨ j = 3 := by have : j < 4 := hj; omega
      have hsn2 : ∀ i ∈ j :: sn, i < 4 := by
        intro i hi
        rcases List.mem_cons.1 hi with rfl | hi
        · exact hj
        · exact hsn i hi
      rcases hj4 with rfl | rfl | rfl | rfl
      · conv => whnf
        refine ⟨⟨rfl, by decide, by decide⟩, ?_⟩
        conv => whnf
        refine ⟨0 :: sn, le_head ?_, hsn2, mu4_lt (by decide) hns⟩
        conv => whnf
        rw [show S (0 :: sn) = S sn by rw [hS, hS]; simp]
        repeat' constructor
      · conv => whnf
        refine ⟨⟨rfl, by decide, by decide⟩, ?_⟩
        conv => whnf
        refine callR1 0 0 3 [2] rfl rfl rfl rfl rfl rfl rfl (fun _ => (put1_spec (S sn) nextB htk.1 (by rw [hS, if_neg hns]; omega)).r) ?_
        rintro o n' cs' r ⟨s', rfl, rfl, ho, hs', rfl⟩
        cases ho
        conv => whnf
        refine ⟨1 :: sn, le_selH [3, 1] ?_, hsn2, mu4_lt (by decide) hns⟩
        conv => whnf
        rw [hs', show S (1 :: sn) = glueF (S sn) nextB by rw [hS, hS, if_pos List.mem_cons_self, if_neg hns]]
        repeat' constructor
      · conv => whnf
        refine ⟨⟨rfl, by decide, by decide⟩, ?_⟩
        conv => whnf
        refine ⟨2 :: sn, le_head ?_, hsn2, mu4_lt (by decide) hns⟩
        conv => whnf
        rw [show S (2 :: sn) = S sn by rw [hS, hS]; simp]
        repeat' constructor
      · conv => whnf
        refine ⟨⟨rfl, by decide, by decide⟩, ?_⟩
        conv => whnf
        refine ⟨3 :: sn, le_head ?_, hsn2, mu4_lt (by decide) hns⟩
        conv => whnf
        rw [show S (3 :: sn) = S sn by rw [hS, hS]; simp]
        repeat' constructor
    have hm : 1 ∈ sn := idx_mem.1 (hall 1 (by decide))
    have hSf : S sn = glueF s0 nextB := by rw [hS, if_pos hm]
    rw [hSf]
    conv => whnf
    refine ⟨by omega, ?_⟩
    conv => whnf
    (generalize hrq : rowOf _ _ (fmsA [f]) = rq; obtain rfl : rq = fmA f := hrq.symm.trans (hr0); clear hrq; conv => whnf)
    refine callR1 0 0 2 [] rfl rfl rfl rfl rfl rfl rfl (fun _ => ih (glueF s0 nextB) 4 (by omega)) ?_
    rintro o n' cs' r ⟨s', rfl, rfl, ho, hs', rfl⟩
    cases ho
    have hz' := glue_size (glueF s0 nextB) (showF f 4 false)
    rw [← hs'] at hz'
    conv => whnf
    refine ⟨.inl rfl, ?_⟩
    unfold leaveR
    refine dfrR1 0 2 3 [] rfl rfl rfl rfl rfl (put1_spec s' ⟨#[41]⟩ (by decide) (by rw [z1c]; omega)) ?_
    rintro o n' cs' r ⟨s9, rfl, rfl, ho, hs9, rfl⟩
    cases ho
    conv => whnf
    refine ⟨3, ?_⟩
    conv => whnf
    exact ⟨_, rfl, rfl, rfl, by rw [parF_yes hlv, hs9, hs', h0, hs1, glue_assoc _ _ _ hne, glue_par], rfl⟩
  · refine specR_of (cx_ok ordPF xs0 1) (fun _ _ h => h) Tryz.func12 rfl (by kernel_rfl) rfl (by kernel_rfl) ?_
    intro _
    conv => whnf
    (refine call0 [] rfl (fun _ => hp) ?_; rintro r rfl; conv => whnf)
    conv => whnf
    rw [decide_eq_false hlv]
    conv => whnf
    obtain ⟨s0, h0⟩ : ∃ s0, s0 = s := ⟨_, rfl⟩
    obtain ⟨S, hS⟩ : ∃ S : List Nat → ByteArray, ∀ sn, S sn = if 1 ∈ sn then glueF s0 nextB else s0 := ⟨_, fun _ => rfl⟩
    have hS0 : S [] = s := by rw [hS, h0]; rfl
    have hgs := glue_size s0 nextB
    have hz0 : s0.size + 1000 * 4 ^ (d + 1) ≤ 500000002 := by rw [h0]; omega
    subst hS0
    (refine call0 [] rfl (fun _ => hun) ?_; rintro r rfl; conv => whnf)
    conv => whnf
    refine loop_sel [0, 1] ?_
    conv => whnf
    refine loop_keep [0, 4, 6, 24] ?_
    conv => whnf
    refine loop_go (fun _ : List Nat => []) (fun _ => [[.adr PrT, .own 0], [intA 5, intA 0, intA 0, intA 0, .sl 5 1 (fmsA [f])]]) (fun sn => [.live 5 0 (S sn).size [.v (.string (S sn))], .live 0 0 sn.length [unA, .clo 0 (idxA sn), .v (.int .i64 4)]]) (fun sn => ∀ i ∈ sn, i < 4) mu4 [] ?_ (by simp) ?_
    · repeat' constructor
    rintro sn hsn
    conv => whnf
    refine ⟨rfl, fun x hx => ?_, fun hall => ?_, fun j hj hnew => ?_⟩
    · unfold idxA at hx
      obtain ⟨i, -, rfl⟩ := List.mem_map.1 hx
      exact ⟨_, rfl⟩
    rotate_left
    · have hns : j ∉ sn := fun h => hnew (idx_mem.2 h)
      have hj4 : j = 0 ∨ j = 1 ∨ j = 2 ∨ j = 3 := by have : j < 4 := hj; omega
      have hsn2 : ∀ i ∈ j :: sn, i < 4 := by
        intro i hi
        rcases List.mem_cons.1 hi with rfl | hi
        · exact hj
        · exact hsn i hi
      rcases hj4 with rfl | rfl | rfl | rfl
      · conv => whnf
        refine ⟨⟨rfl, by decide, by decide⟩, ?_⟩
        conv => whnf
        refine ⟨0 :: sn, le_head ?_, hsn2, mu4_lt (by decide) hns⟩
        conv => whnf
        rw [show S (0 :: sn) = S sn by rw [hS, hS]; simp]
        repeat' constructor
      · conv => whnf
        refine ⟨⟨rfl, by decide, by decide⟩, ?_⟩
        conv => whnf
        refine callR1 0 0 3 [2] rfl rfl rfl rfl rfl rfl rfl (fun _ => (put1_spec (S sn) nextB htk.1 (by rw [hS, if_neg hns]; omega)).r) ?_
        rintro o n' cs' r ⟨s', rfl, rfl, ho, hs', rfl⟩
        cases ho
        conv => whnf
        refine ⟨1 :: sn, le_selH [3, 1] ?_, hsn2, mu4_lt (by decide) hns⟩
        conv => whnf
        rw [hs', show S (1 :: sn) = glueF (S sn) nextB by rw [hS, hS, if_pos List.mem_cons_self, if_neg hns]]
        repeat' constructor
      · conv => whnf
        refine ⟨⟨rfl, by decide, by decide⟩, ?_⟩
        conv => whnf
        refine ⟨2 :: sn, le_head ?_, hsn2, mu4_lt (by decide) hns⟩
        conv => whnf
        rw [show S (2 :: sn) = S sn by rw [hS, hS]; simp]
        repeat' constructor
      · conv => whnf
        refine ⟨⟨rfl, by decide, by decide⟩, ?_⟩
        conv => whnf
        refine ⟨3 :: sn, le_head ?_, hsn2, mu4_lt (by decide) hns⟩
        conv => whnf
        rw [show S (3 :: sn) = S sn by rw [hS, hS]; simp]
        repeat' constructor
    have hm : 1 ∈ sn := idx_mem.1 (hall 1 (by decide))
    have hSf : S sn = glueF s0 nextB := by rw [hS, if_pos hm]
    rw [hSf]
    conv => whnf
    refine ⟨by omega, ?_⟩
    conv => whnf
    (generalize hrq : rowOf _ _ (fmsA [f]) = rq; obtain rfl : rq = fmA f := hrq.symm.trans (hr0); clear hrq; conv => whnf)
    refine callR1 0 0 2 [] rfl rfl rfl rfl rfl rfl rfl (fun _ => ih (glueF s0 nextB) 4 (by omega)) ?_
    rintro o n' cs' r ⟨s', rfl, rfl, ho, hs', rfl⟩
    cases ho
    have hz' := glue_size (glueF s0 nextB) (showF f 4 false)
    rw [← hs'] at hz'
    conv => whnf
    refine ⟨2, ?_⟩
    conv => whnf
    exact ⟨_, rfl, rfl, rfl, by rw [parF_no hlv, hs', h0, glue_assoc _ _ _ hne], rfl⟩
theorem pf_un7 (d : Nat) (f : Fm) (hg : Gf d f) (ih : PfSpec d f) : PfSpec (d + 1) (.mk 7 0 0 0 [f]) := fun s lv hs => by
  have hbd : glueF alwaysB (showF f 4 false) = glueF alwaysB (showF f 4 false) := rfl
  have hp := lprec_spec (.mk 7 0 0 0 [f])
  rw [show precF (.mk 7 0 0 0 [f]) = 4 from rfl] at hp
  have hr0 : rowOf 5 (Int.toNat 0) (fmsA [f]) = fmA f := rowOf_fms [f] 0 (by simp)
  rw [showF_mk, showsF_map, showsF_map, showsF_map, show precF (.mk 7 0 0 0 [f]) = 4 from rfl]
  rw [show ∀ l m, bodyF 7 0 0 0 ([f].map fun f => showF f 4 false) l m = glueF alwaysB (showF f 4 false) from fun _ _ => hbd]
  have hun := unaries_spec
  rw [fmA_mk] at hp ⊢
  have hz := sz_gf hg 4 false
  have htk : 0 < (alwaysB : ByteArray).size ∧ (alwaysB : ByteArray).size ≤ 10 := by decide
  have hne : (alwaysB : ByteArray) ≠ ⟨#[]⟩ := by decide
  have hpow : 1 ≤ 4 ^ d := Nat.pos_of_ne_zero (by simp)
  by_cases hlv : 4 < lv
  · refine specRT_of (cx_ok ordPF xs0 1) Tryz.func12 rfl (by kernel_rfl) rfl ?_
    intro _
    conv => whnf
    refine okT_step (cx_ok ordPF xs0 1) (dr := []) ⟨0, rfl⟩ (.inl rfl) (by kernel_rfl) (fun _ _ h => h.elim) ?_
    conv => whnf
    refine okT_step (cx_ok ordPF xs0 1) (dr := []) ⟨0, rfl⟩ (.inl rfl) (by kernel_rfl) (fun _ _ h => h.elim) ?_
    conv => whnf
    (refine call0 [] rfl (fun _ => hp) ?_; rintro r rfl; conv => whnf)
    conv => whnf
    refine okT_seq ?_
    refine okT_step (cx_ok ordPF xs0 1) (dr := []) ⟨0, rfl⟩ (.inl rfl) (by kernel_rfl) (fun _ _ h => h.elim) ?_
    conv => whnf
    refine okT_true (congrArg (fun b => A.v (.bool b)) (decide_eq_true hlv)) ?_
    refine okT_step (cx_ok ordPF xs0 1) (dr := []) ⟨0, rfl⟩ (.inl rfl) (by kernel_rfl) (fun _ _ h => h.elim) ?_
    conv => whnf
    refine callR1 0 0 2 [1] rfl rfl rfl rfl rfl rfl rfl (fun _ => (put1_spec s ⟨#[40]⟩ (by decide) (by rw [z1c]; omega)).r) ?_
    rintro o n' cs' r ⟨s1, rfl, rfl, ho, hs1, rfl⟩
    cases ho
    conv => whnf
    refine okT_deferP (l := [_, _]) [3] (cx_ok ordPF xs0 1) ⟨0, rfl⟩ (fun _ _ h => h.elim) rfl rfl rfl ?_
    conv => whnf
    refine okT_last (cx_ok ordPF xs0 1) ⟨1, rfl⟩ (.inl rfl) (by kernel_rfl) (fun _ _ h => h.elim) ?_
    conv => whnf
    have hz1 : s1.size ≤ s.size + 2 := by
      have := glue_size s ⟨#[40]⟩
      rw [z1c] at this
      rw [hs1]; omega
    obtain ⟨s0, h0⟩ : ∃ s0, s0 = s1 := ⟨_, rfl⟩
    obtain ⟨S, hS⟩ : ∃ S : List Nat → ByteArray, ∀ sn, S sn = if 2 ∈ sn then glueF s0 alwaysB else s0 := ⟨_, fun _ => rfl⟩
    have hS0 : S [] = s1 := by rw [hS, h0]; rfl
    have hgs := glue_size s0 alwaysB
    have hz0 : s0.size + 1000 * 4 ^ (d + 1) ≤ 500000002 := by rw [h0]; omega
    subst hS0
    (refine call0 [] rfl (fun _ => hun) ?_; rintro r rfl; conv => whnf)
    conv => whnf
    refine loop_sel [2, 4] ?_
    conv => whnf
    refine loop_keep [0, 4, 6, 24] ?_
    conv => whnf
    refine loop_go (fun _ : List Nat => []) (fun _ => [[.adr PrT, .own 0], [intA 7, intA 0, intA 0, intA 0, .sl 5 1 (fmsA [f])]]) (fun sn => [.live 5 0 (S sn).size [.v (.string (S sn))], .live 0 0 sn.length [unA, .clo 0 (idxA sn), .v (.int .i64 4)]]) (fun sn => ∀ i ∈ sn, i < 4) mu4 [] ?_ (by simp) ?_
    · repeat' constructor
    rintro sn hsn
    conv => whnf
    refine ⟨rfl, fun x hx => ?_, fun hall => ?_, fun j hj hnew => ?_⟩
    · unfold idxA at hx
      obtain ⟨i, -, rfl⟩ := List.mem_map.1 hx
      exact ⟨_, rfl⟩
    rotate_left
    · have hns : j ∉ sn := fun h => hnew (idx_mem.2 h)
      have hj4 : j = 0 ∨ j = 1 ∨ j = 2 ∨ j = 3 := by have : j < 4 := hj; omega
      have hsn2 : ∀ i ∈ j :: sn, i < 4 := by
        intro i hi
        rcases List.mem_cons.1 hi with rfl | hi
        · exact hj
        · exact hsn i hi
      rcases hj4 with rfl | rfl | rfl | rfl
      · conv => whnf
        refine ⟨⟨rfl, by decide, by decide⟩, ?_⟩
        conv => whnf
        refine ⟨0 :: sn, le_head ?_, hsn2, mu4_lt (by decide) hns⟩
        conv => whnf
        rw [show S (0 :: sn) = S sn by rw [hS, hS]; simp]
        repeat' constructor
      · conv => whnf
        refine ⟨⟨rfl, by decide, by decide⟩, ?_⟩
        conv => whnf
        refine ⟨1 :: sn, le_head ?_, hsn2, mu4_lt (by decide) hns⟩
        conv => whnf
        rw [show S (1 :: sn) = S sn by rw [hS, hS]; simp]
        repeat' constructor
      · conv => whnf
        refine ⟨⟨rfl, by decide, by decide⟩, ?_⟩
        conv => whnf
        refine callR1 0 0 3 [2] rfl rfl rfl rfl rfl rfl rfl (fun _ => (put1_spec (S sn) alwaysB htk.1 (by rw [hS, if_neg hns]; omega)).r) ?_
        rintro o n' cs' r ⟨s', rfl, rfl, ho, hs', rfl⟩
        cases ho
        conv => whnf
        refine ⟨2 :: sn, le_selH [3, 1] ?_, hsn2, mu4_lt (by decide) hns⟩
        conv => whnf
        rw [hs', show S (2 :: sn) = glueF (S sn) alwaysB by rw [hS, hS, if_pos List.mem_cons_self, if_neg hns]]
        repeat' constructor
      · conv => whnf
        refine ⟨⟨rfl, by decide, by decide⟩, ?_⟩
        conv => whnf
        refine ⟨3 :: sn, le_head ?_, hsn2, mu4_lt (by decide) hns⟩
        conv => whnf
        rw [show S (3 :: sn) = S sn by rw [hS, hS]; simp]
        repeat' constructor
    have hm : 2 ∈ sn := idx_mem.1 (hall 2 (by decide))
    have hSf : S sn = glueF s0 alwaysB := by rw [hS, if_pos hm]
    rw [hSf]
    conv => whnf
    refine ⟨by omega, ?_⟩
    conv => whnf
    (generalize hrq : rowOf _ _ (fmsA [f]) = rq; obtain rfl : rq = fmA f := hrq.symm.trans (hr0); clear hrq; conv => whnf)
    refine callR1 0 0 2 [] rfl rfl rfl rfl rfl rfl rfl (fun _ => ih (glueF s0 alwaysB) 4 (by omega)) ?_
    rintro o n' cs' r ⟨s', rfl, rfl, ho, hs', rfl⟩
    cases ho
    have hz' := glue_size (glueF s0 alwaysB) (showF f 4 false)
    rw [← hs'] at hz'
    conv => whnf
    refine ⟨.inl rfl, ?_⟩
    unfold leaveR
    refine dfrR1 0 2 3 [] rfl rfl rfl rfl rfl (put1_spec s' ⟨#[41]⟩ (by decide) (by rw [z1c]; omega)) ?_
    rintro o n' cs' r ⟨s9, rfl, rfl, ho, hs9, rfl⟩
    cases ho
    conv => whnf
    refine ⟨3, ?_⟩
    conv => whnf
    exact ⟨_, rfl, rfl, rfl, by rw [parF_yes hlv, hs9, hs', h0, hs1, glue_assoc _ _ _ hne, glue_par], rfl⟩
  · refine specR_of (cx_ok ordPF xs0 1) (fun _ _ h => h) Tryz.func12 rfl (by kernel_rfl) rfl (by kernel_rfl) ?_
    intro _
    conv => whnf
    (refine call0 [] rfl (fun _ => hp) ?_; rintro r rfl; conv => whnf)
    conv => whnf
    rw [decide_eq_false hlv]
    conv => whnf
    obtain ⟨s0, h0⟩ : ∃ s0, s0 = s := ⟨_, rfl⟩
    obtain ⟨S, hS⟩ : ∃ S : List Nat → ByteArray, ∀ sn, S sn = if 2 ∈ sn then glueF s0 alwaysB else s0 := ⟨_, fun _ => rfl⟩
    have hS0 : S [] = s := by rw [hS, h0]; rfl
    have hgs := glue_size s0 alwaysB
    have hz0 : s0.size + 1000 * 4 ^ (d + 1) ≤ 500000002 := by rw [h0]; omega
    subst hS0
    (refine call0 [] rfl (fun _ => hun) ?_; rintro r rfl; conv => whnf)
    conv => whnf
    refine loop_sel [0, 1] ?_
    conv => whnf
    refine loop_keep [0, 4, 6, 24] ?_
    conv => whnf
    refine loop_go (fun _ : List Nat => []) (fun _ => [[.adr PrT, .own 0], [intA 7, intA 0, intA 0, intA 0, .sl 5 1 (fmsA [f])]]) (fun sn => [.live 5 0 (S sn).size [.v (.string (S sn))], .live 0 0 sn.length [unA, .clo 0 (idxA sn), .v (.int .i64 4)]]) (fun sn => ∀ i ∈ sn, i < 4) mu4 [] ?_ (by simp) ?_
    · repeat' constructor
    rintro sn hsn
    conv => whnf
    refine ⟨rfl, fun x hx => ?_, fun hall => ?_, fun j hj hnew => ?_⟩
    · unfold idxA at hx
      obtain ⟨i, -, rfl⟩ := List.mem_map.1 hx
      exact ⟨_, rfl⟩
    rotate_left
    · have hns : j ∉ sn := fun h => hnew (idx_mem.2 h)
      have hj4 : j = 0 ∨ j = 1 ∨ j = 2 ∨ j = 3 := by have : j < 4 := hj; omega
      have hsn2 : ∀ i ∈ j :: sn, i < 4 := by
        intro i hi
        rcases List.mem_cons.1 hi with rfl | hi
        · exact hj
        · exact hsn i hi
      rcases hj4 with rfl | rfl | rfl | rfl
      · conv => whnf
        refine ⟨⟨rfl, by decide, by decide⟩, ?_⟩
        conv => whnf
        refine ⟨0 :: sn, le_head ?_, hsn2, mu4_lt (by decide) hns⟩
        conv => whnf
        rw [show S (0 :: sn) = S sn by rw [hS, hS]; simp]
        repeat' constructor
      · conv => whnf
        refine ⟨⟨rfl, by decide, by decide⟩, ?_⟩
        conv => whnf
        refine ⟨1 :: sn, le_head ?_, hsn2, mu4_lt (by decide) hns⟩
        conv => whnf
        rw [show S (1 :: sn) = S sn by rw [hS, hS]; simp]
        repeat' constructor
      · conv => whnf
        refine ⟨⟨rfl, by decide, by decide⟩, ?_⟩
        conv => whnf
        refine callR1 0 0 3 [2] rfl rfl rfl rfl rfl rfl rfl (fun _ => (put1_spec (S sn) alwaysB htk.1 (by rw [hS, if_neg hns]; omega)).r) ?_
        rintro o n' cs' r ⟨s', rfl, rfl, ho, hs', rfl⟩
        cases ho
        conv => whnf
        refine ⟨2 :: sn, le_selH [3, 1] ?_, hsn2, mu4_lt (by decide) hns⟩
        conv => whnf
        rw [hs', show S (2 :: sn) = glueF (S sn) alwaysB by rw [hS, hS, if_pos List.mem_cons_self, if_neg hns]]
        repeat' constructor
      · conv => whnf
        refine ⟨⟨rfl, by decide, by decide⟩, ?_⟩
        conv => whnf
        refine ⟨3 :: sn, le_head ?_, hsn2, mu4_lt (by decide) hns⟩
        conv => whnf
        rw [show S (3 :: sn) = S sn by rw [hS, hS]; simp]
        repeat' constructor
    have hm : 2 ∈ sn := idx_mem.1 (hall 2 (by decide))
    have hSf : S sn = glueF s0 alwaysB := by rw [hS, if_pos hm]
    rw [hSf]
    conv => whnf
    refine ⟨by omega, ?_⟩
    conv => whnf
    (generalize hrq : rowOf _ _ (fmsA [f]) = rq; obtain rfl : rq = fmA f := hrq.symm.trans (hr0); clear hrq; conv => whnf)
    refine callR1 0 0 2 [] rfl rfl rfl rfl rfl rfl rfl (fun _ => ih (glueF s0 alwaysB) 4 (by omega)) ?_
    rintro o n' cs' r ⟨s', rfl, rfl, ho, hs', rfl⟩
    cases ho
    have hz' := glue_size (glueF s0 alwaysB) (showF f 4 false)
    rw [← hs'] at hz'
    conv => whnf
    refine ⟨2, ?_⟩
    conv => whnf
    exact ⟨_, rfl, rfl, rfl, by rw [parF_no hlv, hs', h0, glue_assoc _ _ _ hne], rfl⟩
theorem pf_un8 (d : Nat) (f : Fm) (hg : Gf d f) (ih : PfSpec d f) : PfSpec (d + 1) (.mk 8 0 0 0 [f]) := fun s lv hs => by
  have hbd : glueF evB (showF f 4 false) = glueF evB (showF f 4 false) := rfl
  have hp := lprec_spec (.mk 8 0 0 0 [f])
  rw [show precF (.mk 8 0 0 0 [f]) = 4 from rfl] at hp
  have hr0 : rowOf 5 (Int.toNat 0) (fmsA [f]) = fmA f := rowOf_fms [f] 0 (by simp)
  rw [showF_mk, showsF_map, showsF_map, showsF_map, show precF (.mk 8 0 0 0 [f]) = 4 from rfl]
  rw [show ∀ l m, bodyF 8 0 0 0 ([f].map fun f => showF f 4 false) l m = glueF evB (showF f 4 false) from fun _ _ => hbd]
  have hun := unaries_spec
  rw [fmA_mk] at hp ⊢
  have hz := sz_gf hg 4 false
  have htk : 0 < (evB : ByteArray).size ∧ (evB : ByteArray).size ≤ 10 := by decide
  have hne : (evB : ByteArray) ≠ ⟨#[]⟩ := by decide
  have hpow : 1 ≤ 4 ^ d := Nat.pos_of_ne_zero (by simp)
  by_cases hlv : 4 < lv
  · refine specRT_of (cx_ok ordPF xs0 1) Tryz.func12 rfl (by kernel_rfl) rfl ?_
    intro _
    conv => whnf
    refine okT_step (cx_ok ordPF xs0 1) (dr := []) ⟨0, rfl⟩ (.inl rfl) (by kernel_rfl) (fun _ _ h => h.elim) ?_
    conv => whnf
    refine okT_step (cx_ok ordPF xs0 1) (dr := []) ⟨0, rfl⟩ (.inl rfl) (by kernel_rfl) (fun _ _ h => h.elim) ?_
    conv => whnf
    (refine call0 [] rfl (fun _ => hp) ?_; rintro r rfl; conv => whnf)
    conv => whnf
    refine okT_seq ?_
    refine okT_step (cx_ok ordPF xs0 1) (dr := []) ⟨0, rfl⟩ (.inl rfl) (by kernel_rfl) (fun _ _ h => h.elim) ?_
    conv => whnf
    refine okT_true (congrArg (fun b => A.v (.bool b)) (decide_eq_true hlv)) ?_
    refine okT_step (cx_ok ordPF xs0 1) (dr := []) ⟨0, rfl⟩ (.inl rfl) (by kernel_rfl) (fun _ _ h => h.elim) ?_
    conv => whnf
    refine callR1 0 0 2 [1] rfl rfl rfl rfl rfl rfl rfl (fun _ => (put1_spec s ⟨#[40]⟩ (by decide) (by rw [z1c]; omega)).r) ?_
    rintro o n' cs' r ⟨s1, rfl, rfl, ho, hs1, rfl⟩
    cases ho
    conv => whnf
    refine okT_deferP (l := [_, _]) [3] (cx_ok ordPF xs0 1) ⟨0, rfl⟩ (fun _ _ h => h.elim) rfl rfl rfl ?_
    conv => whnf
    refine okT_last (cx_ok ordPF xs0 1) ⟨1, rfl⟩ (.inl rfl) (by kernel_rfl) (fun _ _ h => h.elim) ?_
    conv => whnf
    have hz1 : s1.size ≤ s.size + 2 := by
      have := glue_size s ⟨#[40]⟩
      rw [z1c] at this
      rw [hs1]; omega
    obtain ⟨s0, h0⟩ : ∃ s0, s0 = s1 := ⟨_, rfl⟩
    obtain ⟨S, hS⟩ : ∃ S : List Nat → ByteArray, ∀ sn, S sn = if 3 ∈ sn then glueF s0 evB else s0 := ⟨_, fun _ => rfl⟩
    have hS0 : S [] = s1 := by rw [hS, h0]; rfl
    have hgs := glue_size s0 evB
    have hz0 : s0.size + 1000 * 4 ^ (d + 1) ≤ 500000002 := by rw [h0]; omega
    subst hS0
    (refine call0 [] rfl (fun _ => hun) ?_; rintro r rfl; conv => whnf)
    conv => whnf
    refine loop_sel [2, 4] ?_
    conv => whnf
    refine loop_keep [0, 4, 6, 24] ?_
    conv => whnf
    refine loop_go (fun _ : List Nat => []) (fun _ => [[.adr PrT, .own 0], [intA 8, intA 0, intA 0, intA 0, .sl 5 1 (fmsA [f])]]) (fun sn => [.live 5 0 (S sn).size [.v (.string (S sn))], .live 0 0 sn.length [unA, .clo 0 (idxA sn), .v (.int .i64 4)]]) (fun sn => ∀ i ∈ sn, i < 4) mu4 [] ?_ (by simp) ?_
    · repeat' constructor
    rintro sn hsn
    conv => whnf
    refine ⟨rfl, fun x hx => ?_, fun hall => ?_, fun j hj hnew => ?_⟩
    · unfold idxA at hx
      obtain ⟨i, -, rfl⟩ := List.mem_map.1 hx
      exact ⟨_, rfl⟩
    rotate_left
    · have hns : j ∉ sn := fun h => hnew (idx_mem.2 h)
      have hj4 : j = 0 ∨ j = 1 ∨ j = 2 ∨ j = 3 := by have : j < 4 := hj; omega
      have hsn2 : ∀ i ∈ j :: sn, i < 4 := by
        intro i hi
        rcases List.mem_cons.1 hi with rfl | hi
        · exact hj
        · exact hsn i hi
      rcases hj4 with rfl | rfl | rfl | rfl
      · conv => whnf
        refine ⟨⟨rfl, by decide, by decide⟩, ?_⟩
        conv => whnf
        refine ⟨0 :: sn, le_head ?_, hsn2, mu4_lt (by decide) hns⟩
        conv => whnf
        rw [show S (0 :: sn) = S sn by rw [hS, hS]; simp]
        repeat' constructor
      · conv => whnf
        refine ⟨⟨rfl, by decide, by decide⟩, ?_⟩
        conv => whnf
        refine ⟨1 :: sn, le_head ?_, hsn2, mu4_lt (by decide) hns⟩
        conv => whnf
        rw [show S (1 :: sn) = S sn by rw [hS, hS]; simp]
        repeat' constructor
      · conv => whnf
        refine ⟨⟨rfl, by decide, by decide⟩, ?_⟩
        conv => whnf
        refine ⟨2 :: sn, le_head ?_, hsn2, mu4_lt (by decide) hns⟩
        conv => whnf
        rw [show S (2 :: sn) = S sn by rw [hS, hS]; simp]
        repeat' constructor
      · conv => whnf
        refine ⟨⟨rfl, by decide, by decide⟩, ?_⟩
        conv => whnf
        refine callR1 0 0 3 [2] rfl rfl rfl rfl rfl rfl rfl (fun _ => (put1_spec (S sn) evB htk.1 (by rw [hS, if_neg hns]; omega)).r) ?_
        rintro o n' cs' r ⟨s', rfl, rfl, ho, hs', rfl⟩
        cases ho
        conv => whnf
        refine ⟨3 :: sn, le_selH [3, 1] ?_, hsn2, mu4_lt (by decide) hns⟩
        conv => whnf
        rw [hs', show S (3 :: sn) = glueF (S sn) evB by rw [hS, hS, if_pos List.mem_cons_self, if_neg hns]]
        repeat' constructor
    have hm : 3 ∈ sn := idx_mem.1 (hall 3 (by decide))
    have hSf : S sn = glueF s0 evB := by rw [hS, if_pos hm]
    rw [hSf]
    conv => whnf
    refine ⟨by omega, ?_⟩
    conv => whnf
    (generalize hrq : rowOf _ _ (fmsA [f]) = rq; obtain rfl : rq = fmA f := hrq.symm.trans (hr0); clear hrq; conv => whnf)
    refine callR1 0 0 2 [] rfl rfl rfl rfl rfl rfl rfl (fun _ => ih (glueF s0 evB) 4 (by omega)) ?_
    rintro o n' cs' r ⟨s', rfl, rfl, ho, hs', rfl⟩
    cases ho
    have hz' := glue_size (glueF s0 evB) (showF f 4 false)
    rw [← hs'] at hz'
    conv => whnf
    refine ⟨.inl rfl, ?_⟩
    unfold leaveR
    refine dfrR1 0 2 3 [] rfl rfl rfl rfl rfl (put1_spec s' ⟨#[41]⟩ (by decide) (by rw [z1c]; omega)) ?_
    rintro o n' cs' r ⟨s9, rfl, rfl, ho, hs9, rfl⟩
    cases ho
    conv => whnf
    refine ⟨3, ?_⟩
    conv => whnf
    exact ⟨_, rfl, rfl, rfl, by rw [parF_yes hlv, hs9, hs', h0, hs1, glue_assoc _ _ _ hne, glue_par], rfl⟩
  · refine specR_of (cx_ok ordPF xs0 1) (fun _ _ h => h) Tryz.func12 rfl (by kernel_rfl) rfl (by kernel_rfl) ?_
    intro _
    conv => whnf
    (refine call0 [] rfl (fun _ => hp) ?_; rintro r rfl; conv => whnf)
    conv => whnf
    rw [decide_eq_false hlv]
    conv => whnf
    obtain ⟨s0, h0⟩ : ∃ s0, s0 = s := ⟨_, rfl⟩
    obtain ⟨S, hS⟩ : ∃ S : List Nat → ByteArray, ∀ sn, S sn = if 3 ∈ sn then glueF s0 evB else s0 := ⟨_, fun _ => rfl⟩
    have hS0 : S [] = s := by rw [hS, h0]; rfl
    have hgs := glue_size s0 evB
    have hz0 : s0.size + 1000 * 4 ^ (d + 1) ≤ 500000002 := by rw [h0]; omega
    subst hS0
    (refine call0 [] rfl (fun _ => hun) ?_; rintro r rfl; conv => whnf)
    conv => whnf
    refine loop_sel [0, 1] ?_
    conv => whnf
    refine loop_keep [0, 4, 6, 24] ?_
    conv => whnf
    refine loop_go (fun _ : List Nat => []) (fun _ => [[.adr PrT, .own 0], [intA 8, intA 0, intA 0, intA 0, .sl 5 1 (fmsA [f])]]) (fun sn => [.live 5 0 (S sn).size [.v (.string (S sn))], .live 0 0 sn.length [unA, .clo 0 (idxA sn), .v (.int .i64 4)]]) (fun sn => ∀ i ∈ sn, i < 4) mu4 [] ?_ (by simp) ?_
    · repeat' constructor
    rintro sn hsn
    conv => whnf
    refine ⟨rfl, fun x hx => ?_, fun hall => ?_, fun j hj hnew => ?_⟩
    · unfold idxA at hx
      obtain ⟨i, -, rfl⟩ := List.mem_map.1 hx
      exact ⟨_, rfl⟩
    rotate_left
    · have hns : j ∉ sn := fun h => hnew (idx_mem.2 h)
      have hj4 : j = 0 ∨ j = 1 ∨ j = 2 ∨ j = 3 := by have : j < 4 := hj; omega
      have hsn2 : ∀ i ∈ j :: sn, i < 4 := by
        intro i hi
        rcases List.mem_cons.1 hi with rfl | hi
        · exact hj
        · exact hsn i hi
      rcases hj4 with rfl | rfl | rfl | rfl
      · conv => whnf
        refine ⟨⟨rfl, by decide, by decide⟩, ?_⟩
        conv => whnf
        refine ⟨0 :: sn, le_head ?_, hsn2, mu4_lt (by decide) hns⟩
        conv => whnf
        rw [show S (0 :: sn) = S sn by rw [hS, hS]; simp]
        repeat' constructor
      · conv => whnf
        refine ⟨⟨rfl, by decide, by decide⟩, ?_⟩
        conv => whnf
        refine ⟨1 :: sn, le_head ?_, hsn2, mu4_lt (by decide) hns⟩
        conv => whnf
        rw [show S (1 :: sn) = S sn by rw [hS, hS]; simp]
        repeat' constructor
      · conv => whnf
        refine ⟨⟨rfl, by decide, by decide⟩, ?_⟩
        conv => whnf
        refine ⟨2 :: sn, le_head ?_, hsn2, mu4_lt (by decide) hns⟩
        conv => whnf
        rw [show S (2 :: sn) = S sn by rw [hS, hS]; simp]
        repeat' constructor
      · conv => whnf
        refine ⟨⟨rfl, by decide, by decide⟩, ?_⟩
        conv => whnf
        refine callR1 0 0 3 [2] rfl rfl rfl rfl rfl rfl rfl (fun _ => (put1_spec (S sn) evB htk.1 (by rw [hS, if_neg hns]; omega)).r) ?_
        rintro o n' cs' r ⟨s', rfl, rfl, ho, hs', rfl⟩
        cases ho
        conv => whnf
        refine ⟨3 :: sn, le_selH [3, 1] ?_, hsn2, mu4_lt (by decide) hns⟩
        conv => whnf
        rw [hs', show S (3 :: sn) = glueF (S sn) evB by rw [hS, hS, if_pos List.mem_cons_self, if_neg hns]]
        repeat' constructor
    have hm : 3 ∈ sn := idx_mem.1 (hall 3 (by decide))
    have hSf : S sn = glueF s0 evB := by rw [hS, if_pos hm]
    rw [hSf]
    conv => whnf
    refine ⟨by omega, ?_⟩
    conv => whnf
    (generalize hrq : rowOf _ _ (fmsA [f]) = rq; obtain rfl : rq = fmA f := hrq.symm.trans (hr0); clear hrq; conv => whnf)
    refine callR1 0 0 2 [] rfl rfl rfl rfl rfl rfl rfl (fun _ => ih (glueF s0 evB) 4 (by omega)) ?_
    rintro o n' cs' r ⟨s', rfl, rfl, ho, hs', rfl⟩
    cases ho
    have hz' := glue_size (glueF s0 evB) (showF f 4 false)
    rw [← hs'] at hz'
    conv => whnf
    refine ⟨2, ?_⟩
    conv => whnf
    exact ⟨_, rfl, rfl, rfl, by rw [parF_no hlv, hs', h0, glue_assoc _ _ _ hne], rfl⟩
end Go.Proofs.YtndflafkigldmaaGreatDoor.Vm
namespace Go.Proofs.YtndflafkigldmaaGreatDoor.Vm
open Go.RowKit Go.Shelf
set_option linter.unusedSimpArgs false
set_option linter.unusedVariables false
set_option maxRecDepth 100000
theorem pf_til (d : Nat) (f k : Fm) (hg : Gf d f) (hg2 : Gf d k) (ih : PfSpec d f) (ih2 : PfSpec d k) : PfSpec (d + 1) (.mk 6 0 0 0 [f, k]) := fun s lv hs => by
  have hp := lprec_spec (.mk 6 0 0 0 [f, k])
  rw [show precF (.mk 6 0 0 0 [f, k]) = 3 from rfl] at hp
  have hr0 : rowOf 5 (Int.toNat 0) (fmsA [f, k]) = fmA f := rowOf_fms [f, k] 0 (by simp)
  have hr1 : rowOf 5 (Int.toNat 1) (fmsA [f, k]) = fmA k := rowOf_fms [f, k] 1 (by simp)
  rw [showF_mk, showsF_map, showsF_map, showsF_map, show precF (.mk 6 0 0 0 [f, k]) = 3 from rfl]
  rw [show ∀ l, bodyF 6 0 0 0 ([f, k].map fun f => showF f 4 false) ([f, k].map fun f => showF f 3 false) l = glueF (glueF (showF f 4 false) untilB) (showF k 3 false) from fun _ => rfl]
  rw [fmA_mk] at hp ⊢
  have hz := sz_gf hg 4 false
  have hzk := sz_gf hg2 3 false
  have hne := showF_ne hg 4 false
  have hu : untilB.size = 5 := rfl
  have hue : untilB ≠ ⟨#[]⟩ := by decide
  have hpow : 1 ≤ 4 ^ d := Nat.pos_of_ne_zero (by simp)
  by_cases hlv : 3 < lv
  · refine specRT_of (cx_ok ordPF xs0 1) Tryz.func12 rfl (by kernel_rfl) rfl ?_
    intro _
    conv => whnf
    refine okT_step (cx_ok ordPF xs0 1) (dr := []) ⟨0, rfl⟩ (.inl rfl) (by kernel_rfl) (fun _ _ h => h.elim) ?_
    conv => whnf
    refine okT_step (cx_ok ordPF xs0 1) (dr := []) ⟨0, rfl⟩ (.inl rfl) (by kernel_rfl) (fun _ _ h => h.elim) ?_
    conv => whnf
    (refine call0 [] rfl (fun _ => hp) ?_; rintro r rfl; conv => whnf)
    conv => whnf
    refine okT_seq ?_
    refine okT_step (cx_ok ordPF xs0 1) (dr := []) ⟨0, rfl⟩ (.inl rfl) (by kernel_rfl) (fun _ _ h => h.elim) ?_
    conv => whnf
    refine okT_true (congrArg (fun b => A.v (.bool b)) (decide_eq_true hlv)) ?_
    refine okT_step (cx_ok ordPF xs0 1) (dr := []) ⟨0, rfl⟩ (.inl rfl) (by kernel_rfl) (fun _ _ h => h.elim) ?_
    conv => whnf
    refine callR1 0 0 2 [1] rfl rfl rfl rfl rfl rfl rfl (fun _ => (put1_spec s ⟨#[40]⟩ (by decide) (by rw [z1c]; omega)).r) ?_
    rintro o n' cs' r ⟨s1, rfl, rfl, ho, hs1, rfl⟩
    cases ho
    conv => whnf
    refine okT_deferP (l := [_, _]) [3] (cx_ok ordPF xs0 1) ⟨0, rfl⟩ (fun _ _ h => h.elim) rfl rfl rfl ?_
    conv => whnf
    refine okT_last (cx_ok ordPF xs0 1) ⟨1, rfl⟩ (.inl rfl) (by kernel_rfl) (fun _ _ h => h.elim) ?_
    conv => whnf
    have hz1 : s1.size ≤ s.size + 2 := by
      have := glue_size s ⟨#[40]⟩
      rw [z1c] at this
      rw [hs1]; omega
    conv => whnf
    refine ⟨by simp, ?_⟩
    conv => whnf
    (generalize hrq : rowOf _ _ (fmsA [f, k]) = rq; obtain rfl : rq = fmA f := hrq.symm.trans (hr0); clear hrq; conv => whnf)
    refine ⟨i64r (by omega), ?_⟩
    conv => whnf
    refine callR1 0 2 4 [] rfl rfl rfl rfl rfl rfl rfl (fun _ => ih s1 4 (by omega)) ?_
    rintro o n' cs' r ⟨s2, rfl, rfl, ho, hs2, rfl⟩
    cases ho
    have hz2 := glue_size s1 (showF f 4 false)
    rw [← hs2] at hz2
    conv => whnf
    refine callR1 0 4 6 [5] rfl rfl rfl rfl rfl rfl rfl (fun _ => (put1_spec s2 untilB (by decide) (by rw [hu]; omega)).r) ?_
    rintro o n' cs' r ⟨s3, rfl, rfl, ho, hs3, rfl⟩
    cases ho
    have hz3 := glue_size s2 untilB
    rw [← hs3, hu] at hz3
    conv => whnf
    refine ⟨by simp, ?_⟩
    conv => whnf
    (generalize hrq : rowOf _ _ (fmsA [f, k]) = rq; obtain rfl : rq = fmA k := hrq.symm.trans (hr1); clear hrq; conv => whnf)
    refine callR1 0 6 7 [] rfl rfl rfl rfl rfl rfl rfl (fun _ => ih2 s3 3 (by omega)) ?_
    rintro o n' cs' r ⟨s4, rfl, rfl, ho, hs4, rfl⟩
    cases ho
    have hz4 := glue_size s3 (showF k 3 false)
    rw [← hs4] at hz4
    conv => whnf
    refine ⟨.inl rfl, ?_⟩
    unfold leaveR
    refine dfrR1 0 7 8 [] rfl rfl rfl rfl rfl (put1_spec s4 ⟨#[41]⟩ (by decide) (by rw [z1c]; omega)) ?_
    rintro o n' cs' r ⟨s9, rfl, rfl, ho, hs9, rfl⟩
    cases ho
    conv => whnf
    refine ⟨8, ?_⟩
    conv => whnf
    exact ⟨_, rfl, rfl, rfl, by rw [parF_yes hlv, hs9, hs4, hs3, hs2, hs1, glue_til _ _ _ _ hne hue, glue_par], rfl⟩
  · refine specR_of (cx_ok ordPF xs0 1) (fun _ _ h => h) Tryz.func12 rfl (by kernel_rfl) rfl (by kernel_rfl) ?_
    intro _
    conv => whnf
    (refine call0 [] rfl (fun _ => hp) ?_; rintro r rfl; conv => whnf)
    conv => whnf
    rw [decide_eq_false hlv]
    conv => whnf
    conv => whnf
    refine ⟨by simp, ?_⟩
    conv => whnf
    (generalize hrq : rowOf _ _ (fmsA [f, k]) = rq; obtain rfl : rq = fmA f := hrq.symm.trans (hr0); clear hrq; conv => whnf)
    refine ⟨i64r (by omega), ?_⟩
    conv => whnf
    refine callR1 0 0 1 [] rfl rfl rfl rfl rfl rfl rfl (fun _ => ih s 4 (by omega)) ?_
    rintro o n' cs' r ⟨s2, rfl, rfl, ho, hs2, rfl⟩
    cases ho
    have hz2 := glue_size s (showF f 4 false)
    rw [← hs2] at hz2
    conv => whnf
    refine callR1 0 1 3 [2] rfl rfl rfl rfl rfl rfl rfl (fun _ => (put1_spec s2 untilB (by decide) (by rw [hu]; omega)).r) ?_
    rintro o n' cs' r ⟨s3, rfl, rfl, ho, hs3, rfl⟩
    cases ho
    have hz3 := glue_size s2 untilB
    rw [← hs3, hu] at hz3
    conv => whnf
    refine ⟨by simp, ?_⟩
    conv => whnf
    (generalize hrq : rowOf _ _ (fmsA [f, k]) = rq; obtain rfl : rq = fmA k := hrq.symm.trans (hr1); clear hrq; conv => whnf)
    refine callR1 0 3 4 [] rfl rfl rfl rfl rfl rfl rfl (fun _ => ih2 s3 3 (by omega)) ?_
    rintro o n' cs' r ⟨s4, rfl, rfl, ho, hs4, rfl⟩
    cases ho
    have hz4 := glue_size s3 (showF k 3 false)
    rw [← hs4] at hz4
    conv => whnf
    refine ⟨4, ?_⟩
    conv => whnf
    exact ⟨_, rfl, rfl, rfl, by rw [parF_no hlv, hs4, hs3, hs2, glue_til _ _ _ _ hne hue], rfl⟩
end Go.Proofs.YtndflafkigldmaaGreatDoor.Vm
namespace Go.Proofs.YtndflafkigldmaaGreatDoor.Vm
open Go.RowKit Go.Shelf
set_option linter.unusedSimpArgs false
set_option linter.unusedVariables false
set_option maxRecDepth 100000
theorem put2_spec (s x y : ByteArray) (hx : 0 < x.size) (hy : 0 < y.size) (hz : s.size + x.size + y.size + 2 ≤ 1000000000) : SpecBD 27 [[.adr PrT, .own 0]] s [.box 0 0, .sl 1 2 [strA x, strA y]] fun o s' r => o = [[.adr PrT, .own 0]] ∧ s' = glueF (glueF s x) y ∧ r = .tup [] := by
  refine put_spec s [x, y] (by simp) (fun z hz => by rcases List.mem_cons.1 hz with rfl | hz; exact hx; rw [List.mem_singleton.1 hz]; exact hy) fun j => ?_
  have h1 := glue_size s x
  have h2 := glue_size (glueF s x) y
  match j with
  | 0 => show s.size ≤ _; omega
  | 1 => show (glueF s x).size ≤ _; omega
  | j + 2 => show (putF s ([x, y].take (j + 2))).size ≤ _; rw [show [x, y].take (j + 2) = [x, y] by simp, putF_two]; omega
theorem decZ_ne (z : Int) : 0 < (bs (decZ z)).size := by
  rw [bs_size]
  unfold decZ decS
  repeat' split
  all_goals first | (simp only [List.length_cons]; omega) | skip
  rename_i h1 h2
  rw [decD_pos h2, List.length_append]; simp
theorem decZ_neg {n : Int} (h : n < 0) : bs (decZ n) = ⟨#[45]⟩ ++ bs (decZ (-n)) := by
  rw [show (⟨#[45]⟩ : ByteArray) = bs [45] from rfl, bs_app]
  unfold decZ
  rw [if_pos h, if_neg (by omega)]
  unfold decS
  rw [if_neg (by omega), show (-n).natAbs = n.natAbs by omega]; rfl
theorem pf_var (d : Nat) (a b n : Int) (h1 : 0 ≤ a ∧ a ≤ 15) (h2 : 0 ≤ b ∧ b ≤ 2) (h3 : -2147483647 ≤ n ∧ n ≤ 2147483647) : PfSpec d (.mk 1 a b n []) := fun s lv hs => by
  have hp := lprec_spec (.mk 1 a b n [])
  have hA := litoa_spec a
  have zA : (bs (decZ a)).size ≤ 13 := by rw [bs_size]; exact decZ_len a (by omega) (by omega)
  have z1 : (⟨#[118]⟩ : ByteArray).size = 1 := rfl
  rw [showF_mk, showsF_map, showsF_map, showsF_map]
  rw [show precF (.mk 1 a b n []) = 5 from rfl] at hp ⊢
  rw [show ∀ l l2 l3, bodyF 1 a b n l l2 l3 = ⟨#[118]⟩ ++ bs (decZ a) ++ opB b ++ bs (decZ n) from fun _ _ _ => rfl]
  rw [fmA_mk] at hp ⊢
  have hpow : 1 ≤ 4 ^ d := Nat.pos_of_ne_zero (by simp)
  by_cases hlv : 5 < lv
  · refine specRT_of (cx_ok ordPF xs0 1) Tryz.func12 rfl (by kernel_rfl) rfl ?_
    intro _
    conv => whnf
    refine okT_step (cx_ok ordPF xs0 1) (dr := []) ⟨0, rfl⟩ (.inl rfl) (by kernel_rfl) (fun _ _ h => h.elim) ?_
    conv => whnf
    refine okT_step (cx_ok ordPF xs0 1) (dr := []) ⟨0, rfl⟩ (.inl rfl) (by kernel_rfl) (fun _ _ h => h.elim) ?_
    conv => whnf
    (refine call0 [] rfl (fun _ => hp) ?_; rintro r rfl; conv => whnf)
    conv => whnf
    refine okT_seq ?_
    refine okT_step (cx_ok ordPF xs0 1) (dr := []) ⟨0, rfl⟩ (.inl rfl) (by kernel_rfl) (fun _ _ h => h.elim) ?_
    conv => whnf
    refine okT_true (congrArg (fun b => A.v (.bool b)) (decide_eq_true hlv)) ?_
    refine okT_step (cx_ok ordPF xs0 1) (dr := []) ⟨0, rfl⟩ (.inl rfl) (by kernel_rfl) (fun _ _ h => h.elim) ?_
    conv => whnf
    refine callR1 0 0 2 [1] rfl rfl rfl rfl rfl rfl rfl (fun _ => (put1_spec s ⟨#[40]⟩ (by decide) (by rw [z1c]; omega)).r) ?_
    rintro o n' cs' r ⟨s1, rfl, rfl, ho, hs1, rfl⟩
    cases ho
    conv => whnf
    refine okT_deferP (l := [_, _]) [3] (cx_ok ordPF xs0 1) ⟨0, rfl⟩ (fun _ _ h => h.elim) rfl rfl rfl ?_
    conv => whnf
    refine okT_last (cx_ok ordPF xs0 1) ⟨1, rfl⟩ (.inl rfl) (by kernel_rfl) (fun _ _ h => h.elim) ?_
    conv => whnf
    have hz1 : s1.size ≤ s.size + 2 := by
      have := glue_size s ⟨#[40]⟩
      rw [z1c] at this
      rw [hs1]; omega
    repeat (apply flow_go; (focus ((conv => whnf); exact ⟨rfl, rfl, rfl⟩)); (conv => whnf))
    (apply flow_go; (focus ((conv => whnf); refine call0 [] rfl (fun _ => hA) ?_; rintro r rfl; (conv => whnf); exact ⟨rfl, rfl, rfl⟩)); (conv => whnf))
    repeat (apply flow_go; (focus ((conv => whnf); exact ⟨rfl, rfl, rfl⟩)); (conv => whnf))
    (apply flow_go; (focus ((conv => whnf); (refine ⟨by (try simp only [ByteArray.size_append]); unfold maxLen; omega, ?_⟩); exact ⟨rfl, rfl, rfl⟩)); (conv => whnf))
    repeat (apply flow_go; (focus ((conv => whnf); exact ⟨rfl, rfl, rfl⟩)); (conv => whnf))
    rcases (show b = 0 ∨ b = 1 ∨ b = 2 by omega) with rfl | rfl | rfl
    · (apply flow_go; (focus ((conv => whnf); refine ⟨by omega, ?_⟩; (generalize hrq : rowOf _ _ _ = rq; obtain rfl : rq = [strA ⟨#[60]⟩] := hrq.symm.trans (by unfold rowOf; rfl); exact ⟨rfl, rfl, rfl⟩))); (conv => whnf))
      repeat (apply flow_go; (focus ((conv => whnf); exact ⟨rfl, rfl, rfl⟩)); (conv => whnf))
      have ho1 : 0 < (⟨#[60]⟩ : ByteArray).size ∧ (⟨#[60]⟩ : ByteArray).size ≤ 2 := by decide
      rw [show opB 0 = ⟨#[60]⟩ from rfl]
      refine callR1 0 2 4 [] rfl rfl rfl rfl rfl rfl rfl (fun _ => (put2_spec s1 ((⟨#[118]⟩ : ByteArray) ++ bs (decZ a)) ⟨#[60]⟩ (by rw [ByteArray.size_append]; omega) ho1.1 (by rw [ByteArray.size_append]; omega)).r) ?_
      rintro o n' cs' r ⟨s2, rfl, rfl, ho, hs2, rfl⟩
      cases ho
      have hz2 := glue_size s1 ((⟨#[118]⟩ : ByteArray) ++ bs (decZ a))
      have hz3 := glue_size (glueF s1 ((⟨#[118]⟩ : ByteArray) ++ bs (decZ a))) ⟨#[60]⟩
      rw [← hs2] at hz3
      rw [ByteArray.size_append] at hz2
      conv => whnf
      by_cases hn : n < 0
      · rw [decide_eq_true hn]
        have hN := litoa_spec (-n)
        have zN : (bs (decZ (-n))).size ≤ 13 := by rw [bs_size]; exact decZ_len (-n) (by omega) (by omega)
        conv => whnf
        refine callR1 0 4 6 [5] rfl rfl rfl rfl rfl rfl rfl (fun _ => (put1_spec s2 ⟨#[45]⟩ (by decide) (by rw [z1c]; omega)).r) ?_
        rintro o n' cs' r ⟨s3, rfl, rfl, ho, hs3, rfl⟩
        cases ho
        have hz4 := glue_size s2 ⟨#[45]⟩
        rw [← hs3, z1c] at hz4
        conv => whnf
        refine ⟨i64r (by omega), ?_⟩
        conv => whnf
        rw [show max n (0 - n) = -n by omega]
        (refine call0 [] rfl (fun _ => hN) ?_; rintro r rfl; conv => whnf)
        conv => whnf
        refine callR1 0 6 8 [7] rfl rfl rfl rfl rfl rfl rfl (fun _ => (put1_spec s3 (bs (decZ (-n))) (decZ_ne _) (by omega)).r) ?_
        rintro o n' cs' r ⟨s4, rfl, rfl, ho, hs4, rfl⟩
        cases ho
        have hz5 := glue_size s3 (bs (decZ (-n)))
        rw [← hs4] at hz5
        have hlaw : s4 = glueF s1 ((⟨#[118]⟩ : ByteArray) ++ bs (decZ a) ++ ⟨#[60]⟩ ++ bs (decZ n)) := by
          rw [hs4, hs3, hs2, glue_neg _ _ _ _ (app_ne_l (by decide)) (by decide) (by decide) (by decide), ← decZ_neg hn]
        conv => whnf
        refine ⟨.inl rfl, ?_⟩
        unfold leaveR
        refine dfrR1 0 8 (8 + 1) [] rfl rfl rfl rfl rfl (put1_spec s4 ⟨#[41]⟩ (by decide) (by rw [z1c]; omega)) ?_
        rintro o n' cs' r ⟨s9, rfl, rfl, ho, hs9, rfl⟩
        cases ho
        conv => whnf
        refine ⟨(8 + 1), ?_⟩
        conv => whnf
        exact ⟨_, rfl, rfl, rfl, by rw [parF_yes hlv, hs9, hlaw, hs1, glue_par], rfl⟩
      · rw [decide_eq_false hn]
        have hN := litoa_spec n
        have zN : (bs (decZ n)).size ≤ 13 := by rw [bs_size]; exact decZ_len n (by omega) (by omega)
        conv => whnf
        refine ⟨i64r (by omega), ?_⟩
        conv => whnf
        rw [show max n (0 - n) = n by omega]
        (refine call0 [] rfl (fun _ => hN) ?_; rintro r rfl; conv => whnf)
        conv => whnf
        refine callR1 0 4 6 [5] rfl rfl rfl rfl rfl rfl rfl (fun _ => (put1_spec s2 (bs (decZ n)) (decZ_ne _) (by omega)).r) ?_
        rintro o n' cs' r ⟨s4, rfl, rfl, ho, hs4, rfl⟩
        cases ho
        have hz5 := glue_size s2 (bs (decZ n))
        rw [← hs4] at hz5
        have hlaw : s4 = glueF s1 ((⟨#[118]⟩ : ByteArray) ++ bs (decZ a) ++ ⟨#[60]⟩ ++ bs (decZ n)) := by
          rw [hs4, hs2, glue_var _ _ _ _ (app_ne_l (by decide)) (by decide) (by decide) (by decide)]
        conv => whnf
        refine ⟨.inl rfl, ?_⟩
        unfold leaveR
        refine dfrR1 0 6 (6 + 1) [] rfl rfl rfl rfl rfl (put1_spec s4 ⟨#[41]⟩ (by decide) (by rw [z1c]; omega)) ?_
        rintro o n' cs' r ⟨s9, rfl, rfl, ho, hs9, rfl⟩
        cases ho
        conv => whnf
        refine ⟨(6 + 1), ?_⟩
        conv => whnf
        exact ⟨_, rfl, rfl, rfl, by rw [parF_yes hlv, hs9, hlaw, hs1, glue_par], rfl⟩
    · (apply flow_go; (focus ((conv => whnf); refine ⟨by omega, ?_⟩; (generalize hrq : rowOf _ _ _ = rq; obtain rfl : rq = [strA ⟨#[61, 61]⟩] := hrq.symm.trans (by unfold rowOf; rfl); exact ⟨rfl, rfl, rfl⟩))); (conv => whnf))
      repeat (apply flow_go; (focus ((conv => whnf); exact ⟨rfl, rfl, rfl⟩)); (conv => whnf))
      have ho1 : 0 < (⟨#[61, 61]⟩ : ByteArray).size ∧ (⟨#[61, 61]⟩ : ByteArray).size ≤ 2 := by decide
      rw [show opB 1 = ⟨#[61, 61]⟩ from rfl]
      refine callR1 0 2 4 [] rfl rfl rfl rfl rfl rfl rfl (fun _ => (put2_spec s1 ((⟨#[118]⟩ : ByteArray) ++ bs (decZ a)) ⟨#[61, 61]⟩ (by rw [ByteArray.size_append]; omega) ho1.1 (by rw [ByteArray.size_append]; omega)).r) ?_
      rintro o n' cs' r ⟨s2, rfl, rfl, ho, hs2, rfl⟩
      cases ho
      have hz2 := glue_size s1 ((⟨#[118]⟩ : ByteArray) ++ bs (decZ a))
      have hz3 := glue_size (glueF s1 ((⟨#[118]⟩ : ByteArray) ++ bs (decZ a))) ⟨#[61, 61]⟩
      rw [← hs2] at hz3
      rw [ByteArray.size_append] at hz2
      conv => whnf
      by_cases hn : n < 0
      · rw [decide_eq_true hn]
        have hN := litoa_spec (-n)
        have zN : (bs (decZ (-n))).size ≤ 13 := by rw [bs_size]; exact decZ_len (-n) (by omega) (by omega)
        conv => whnf
        refine callR1 0 4 6 [5] rfl rfl rfl rfl rfl rfl rfl (fun _ => (put1_spec s2 ⟨#[45]⟩ (by decide) (by rw [z1c]; omega)).r) ?_
        rintro o n' cs' r ⟨s3, rfl, rfl, ho, hs3, rfl⟩
        cases ho
        have hz4 := glue_size s2 ⟨#[45]⟩
        rw [← hs3, z1c] at hz4
        conv => whnf
        refine ⟨i64r (by omega), ?_⟩
        conv => whnf
        rw [show max n (0 - n) = -n by omega]
        (refine call0 [] rfl (fun _ => hN) ?_; rintro r rfl; conv => whnf)
        conv => whnf
        refine callR1 0 6 8 [7] rfl rfl rfl rfl rfl rfl rfl (fun _ => (put1_spec s3 (bs (decZ (-n))) (decZ_ne _) (by omega)).r) ?_
        rintro o n' cs' r ⟨s4, rfl, rfl, ho, hs4, rfl⟩
        cases ho
        have hz5 := glue_size s3 (bs (decZ (-n)))
        rw [← hs4] at hz5
        have hlaw : s4 = glueF s1 ((⟨#[118]⟩ : ByteArray) ++ bs (decZ a) ++ ⟨#[61, 61]⟩ ++ bs (decZ n)) := by
          rw [hs4, hs3, hs2, glue_neg _ _ _ _ (app_ne_l (by decide)) (by decide) (by decide) (by decide), ← decZ_neg hn]
        conv => whnf
        refine ⟨.inl rfl, ?_⟩
        unfold leaveR
        refine dfrR1 0 8 (8 + 1) [] rfl rfl rfl rfl rfl (put1_spec s4 ⟨#[41]⟩ (by decide) (by rw [z1c]; omega)) ?_
        rintro o n' cs' r ⟨s9, rfl, rfl, ho, hs9, rfl⟩
        cases ho
        conv => whnf
        refine ⟨(8 + 1), ?_⟩
        conv => whnf
        exact ⟨_, rfl, rfl, rfl, by rw [parF_yes hlv, hs9, hlaw, hs1, glue_par], rfl⟩
      · rw [decide_eq_false hn]
        have hN := litoa_spec n
        have zN : (bs (decZ n)).size ≤ 13 := by rw [bs_size]; exact decZ_len n (by omega) (by omega)
        conv => whnf
        refine ⟨i64r (by omega), ?_⟩
        conv => whnf
        rw [show max n (0 - n) = n by omega]
        (refine call0 [] rfl (fun _ => hN) ?_; rintro r rfl; conv => whnf)
        conv => whnf
        refine callR1 0 4 6 [5] rfl rfl rfl rfl rfl rfl rfl (fun _ => (put1_spec s2 (bs (decZ n)) (decZ_ne _) (by omega)).r) ?_
        rintro o n' cs' r ⟨s4, rfl, rfl, ho, hs4, rfl⟩
        cases ho
        have hz5 := glue_size s2 (bs (decZ n))
        rw [← hs4] at hz5
        have hlaw : s4 = glueF s1 ((⟨#[118]⟩ : ByteArray) ++ bs (decZ a) ++ ⟨#[61, 61]⟩ ++ bs (decZ n)) := by
          rw [hs4, hs2, glue_var _ _ _ _ (app_ne_l (by decide)) (by decide) (by decide) (by decide)]
        conv => whnf
        refine ⟨.inl rfl, ?_⟩
        unfold leaveR
        refine dfrR1 0 6 (6 + 1) [] rfl rfl rfl rfl rfl (put1_spec s4 ⟨#[41]⟩ (by decide) (by rw [z1c]; omega)) ?_
        rintro o n' cs' r ⟨s9, rfl, rfl, ho, hs9, rfl⟩
        cases ho
        conv => whnf
        refine ⟨(6 + 1), ?_⟩
        conv => whnf
        exact ⟨_, rfl, rfl, rfl, by rw [parF_yes hlv, hs9, hlaw, hs1, glue_par], rfl⟩
    · (apply flow_go; (focus ((conv => whnf); refine ⟨by omega, ?_⟩; (generalize hrq : rowOf _ _ _ = rq; obtain rfl : rq = [strA ⟨#[62]⟩] := hrq.symm.trans (by unfold rowOf; rfl); exact ⟨rfl, rfl, rfl⟩))); (conv => whnf))
      repeat (apply flow_go; (focus ((conv => whnf); exact ⟨rfl, rfl, rfl⟩)); (conv => whnf))
      have ho1 : 0 < (⟨#[62]⟩ : ByteArray).size ∧ (⟨#[62]⟩ : ByteArray).size ≤ 2 := by decide
      rw [show opB 2 = ⟨#[62]⟩ from rfl]
      refine callR1 0 2 4 [] rfl rfl rfl rfl rfl rfl rfl (fun _ => (put2_spec s1 ((⟨#[118]⟩ : ByteArray) ++ bs (decZ a)) ⟨#[62]⟩ (by rw [ByteArray.size_append]; omega) ho1.1 (by rw [ByteArray.size_append]; omega)).r) ?_
      rintro o n' cs' r ⟨s2, rfl, rfl, ho, hs2, rfl⟩
      cases ho
      have hz2 := glue_size s1 ((⟨#[118]⟩ : ByteArray) ++ bs (decZ a))
      have hz3 := glue_size (glueF s1 ((⟨#[118]⟩ : ByteArray) ++ bs (decZ a))) ⟨#[62]⟩
      rw [← hs2] at hz3
      rw [ByteArray.size_append] at hz2
      conv => whnf
      by_cases hn : n < 0
      · rw [decide_eq_true hn]
        have hN := litoa_spec (-n)
        have zN : (bs (decZ (-n))).size ≤ 13 := by rw [bs_size]; exact decZ_len (-n) (by omega) (by omega)
        conv => whnf
        refine callR1 0 4 6 [5] rfl rfl rfl rfl rfl rfl rfl (fun _ => (put1_spec s2 ⟨#[45]⟩ (by decide) (by rw [z1c]; omega)).r) ?_
        rintro o n' cs' r ⟨s3, rfl, rfl, ho, hs3, rfl⟩
        cases ho
        have hz4 := glue_size s2 ⟨#[45]⟩
        rw [← hs3, z1c] at hz4
        conv => whnf
        refine ⟨i64r (by omega), ?_⟩
        conv => whnf
        rw [show max n (0 - n) = -n by omega]
        (refine call0 [] rfl (fun _ => hN) ?_; rintro r rfl; conv => whnf)
        conv => whnf
        refine callR1 0 6 8 [7] rfl rfl rfl rfl rfl rfl rfl (fun _ => (put1_spec s3 (bs (decZ (-n))) (decZ_ne _) (by omega)).r) ?_
        rintro o n' cs' r ⟨s4, rfl, rfl, ho, hs4, rfl⟩
        cases ho
        have hz5 := glue_size s3 (bs (decZ (-n)))
        rw [← hs4] at hz5
        have hlaw : s4 = glueF s1 ((⟨#[118]⟩ : ByteArray) ++ bs (decZ a) ++ ⟨#[62]⟩ ++ bs (decZ n)) := by
          rw [hs4, hs3, hs2, glue_neg _ _ _ _ (app_ne_l (by decide)) (by decide) (by decide) (by decide), ← decZ_neg hn]
        conv => whnf
        refine ⟨.inl rfl, ?_⟩
        unfold leaveR
        refine dfrR1 0 8 (8 + 1) [] rfl rfl rfl rfl rfl (put1_spec s4 ⟨#[41]⟩ (by decide) (by rw [z1c]; omega)) ?_
        rintro o n' cs' r ⟨s9, rfl, rfl, ho, hs9, rfl⟩
        cases ho
        conv => whnf
        refine ⟨(8 + 1), ?_⟩
        conv => whnf
        exact ⟨_, rfl, rfl, rfl, by rw [parF_yes hlv, hs9, hlaw, hs1, glue_par], rfl⟩
      · rw [decide_eq_false hn]
        have hN := litoa_spec n
        have zN : (bs (decZ n)).size ≤ 13 := by rw [bs_size]; exact decZ_len n (by omega) (by omega)
        conv => whnf
        refine ⟨i64r (by omega), ?_⟩
        conv => whnf
        rw [show max n (0 - n) = n by omega]
        (refine call0 [] rfl (fun _ => hN) ?_; rintro r rfl; conv => whnf)
        conv => whnf
        refine callR1 0 4 6 [5] rfl rfl rfl rfl rfl rfl rfl (fun _ => (put1_spec s2 (bs (decZ n)) (decZ_ne _) (by omega)).r) ?_
        rintro o n' cs' r ⟨s4, rfl, rfl, ho, hs4, rfl⟩
        cases ho
        have hz5 := glue_size s2 (bs (decZ n))
        rw [← hs4] at hz5
        have hlaw : s4 = glueF s1 ((⟨#[118]⟩ : ByteArray) ++ bs (decZ a) ++ ⟨#[62]⟩ ++ bs (decZ n)) := by
          rw [hs4, hs2, glue_var _ _ _ _ (app_ne_l (by decide)) (by decide) (by decide) (by decide)]
        conv => whnf
        refine ⟨.inl rfl, ?_⟩
        unfold leaveR
        refine dfrR1 0 6 (6 + 1) [] rfl rfl rfl rfl rfl (put1_spec s4 ⟨#[41]⟩ (by decide) (by rw [z1c]; omega)) ?_
        rintro o n' cs' r ⟨s9, rfl, rfl, ho, hs9, rfl⟩
        cases ho
        conv => whnf
        refine ⟨(6 + 1), ?_⟩
        conv => whnf
        exact ⟨_, rfl, rfl, rfl, by rw [parF_yes hlv, hs9, hlaw, hs1, glue_par], rfl⟩
  · refine specR_of (cx_ok ordPF xs0 1) (fun _ _ h => h) Tryz.func12 rfl (by kernel_rfl) rfl (by kernel_rfl) ?_
    intro _
    conv => whnf
    (refine call0 [] rfl (fun _ => hp) ?_; rintro r rfl; conv => whnf)
    conv => whnf
    rw [decide_eq_false hlv]
    conv => whnf
    repeat (apply flow_go; (focus ((conv => whnf); exact ⟨rfl, rfl, rfl⟩)); (conv => whnf))
    (apply flow_go; (focus ((conv => whnf); refine call0 [] rfl (fun _ => hA) ?_; rintro r rfl; (conv => whnf); exact ⟨rfl, rfl, rfl⟩)); (conv => whnf))
    repeat (apply flow_go; (focus ((conv => whnf); exact ⟨rfl, rfl, rfl⟩)); (conv => whnf))
    (apply flow_go; (focus ((conv => whnf); (refine ⟨by (try simp only [ByteArray.size_append]); unfold maxLen; omega, ?_⟩); exact ⟨rfl, rfl, rfl⟩)); (conv => whnf))
    repeat (apply flow_go; (focus ((conv => whnf); exact ⟨rfl, rfl, rfl⟩)); (conv => whnf))
    rcases (show b = 0 ∨ b = 1 ∨ b = 2 by omega) with rfl | rfl | rfl
    · (apply flow_go; (focus ((conv => whnf); refine ⟨by omega, ?_⟩; (generalize hrq : rowOf _ _ _ = rq; obtain rfl : rq = [strA ⟨#[60]⟩] := hrq.symm.trans (by unfold rowOf; rfl); exact ⟨rfl, rfl, rfl⟩))); (conv => whnf))
      repeat (apply flow_go; (focus ((conv => whnf); exact ⟨rfl, rfl, rfl⟩)); (conv => whnf))
      have ho1 : 0 < (⟨#[60]⟩ : ByteArray).size ∧ (⟨#[60]⟩ : ByteArray).size ≤ 2 := by decide
      rw [show opB 0 = ⟨#[60]⟩ from rfl]
      refine callR1 0 0 1 [] rfl rfl rfl rfl rfl rfl rfl (fun _ => (put2_spec s ((⟨#[118]⟩ : ByteArray) ++ bs (decZ a)) ⟨#[60]⟩ (by rw [ByteArray.size_append]; omega) ho1.1 (by rw [ByteArray.size_append]; omega)).r) ?_
      rintro o n' cs' r ⟨s2, rfl, rfl, ho, hs2, rfl⟩
      cases ho
      have hz2 := glue_size s ((⟨#[118]⟩ : ByteArray) ++ bs (decZ a))
      have hz3 := glue_size (glueF s ((⟨#[118]⟩ : ByteArray) ++ bs (decZ a))) ⟨#[60]⟩
      rw [← hs2] at hz3
      rw [ByteArray.size_append] at hz2
      conv => whnf
      by_cases hn : n < 0
      · rw [decide_eq_true hn]
        have hN := litoa_spec (-n)
        have zN : (bs (decZ (-n))).size ≤ 13 := by rw [bs_size]; exact decZ_len (-n) (by omega) (by omega)
        conv => whnf
        refine callR1 0 1 3 [2] rfl rfl rfl rfl rfl rfl rfl (fun _ => (put1_spec s2 ⟨#[45]⟩ (by decide) (by rw [z1c]; omega)).r) ?_
        rintro o n' cs' r ⟨s3, rfl, rfl, ho, hs3, rfl⟩
        cases ho
        have hz4 := glue_size s2 ⟨#[45]⟩
        rw [← hs3, z1c] at hz4
        conv => whnf
        refine ⟨i64r (by omega), ?_⟩
        conv => whnf
        rw [show max n (0 - n) = -n by omega]
        (refine call0 [] rfl (fun _ => hN) ?_; rintro r rfl; conv => whnf)
        conv => whnf
        refine callR1 0 3 5 [4] rfl rfl rfl rfl rfl rfl rfl (fun _ => (put1_spec s3 (bs (decZ (-n))) (decZ_ne _) (by omega)).r) ?_
        rintro o n' cs' r ⟨s4, rfl, rfl, ho, hs4, rfl⟩
        cases ho
        have hz5 := glue_size s3 (bs (decZ (-n)))
        rw [← hs4] at hz5
        have hlaw : s4 = glueF s ((⟨#[118]⟩ : ByteArray) ++ bs (decZ a) ++ ⟨#[60]⟩ ++ bs (decZ n)) := by
          rw [hs4, hs3, hs2, glue_neg _ _ _ _ (app_ne_l (by decide)) (by decide) (by decide) (by decide), ← decZ_neg hn]
        conv => whnf
        refine ⟨5, ?_⟩
        conv => whnf
        exact ⟨_, rfl, rfl, rfl, by rw [parF_no hlv]; exact hlaw, rfl⟩
      · rw [decide_eq_false hn]
        have hN := litoa_spec n
        have zN : (bs (decZ n)).size ≤ 13 := by rw [bs_size]; exact decZ_len n (by omega) (by omega)
        conv => whnf
        refine ⟨i64r (by omega), ?_⟩
        conv => whnf
        rw [show max n (0 - n) = n by omega]
        (refine call0 [] rfl (fun _ => hN) ?_; rintro r rfl; conv => whnf)
        conv => whnf
        refine callR1 0 1 3 [2] rfl rfl rfl rfl rfl rfl rfl (fun _ => (put1_spec s2 (bs (decZ n)) (decZ_ne _) (by omega)).r) ?_
        rintro o n' cs' r ⟨s4, rfl, rfl, ho, hs4, rfl⟩
        cases ho
        have hz5 := glue_size s2 (bs (decZ n))
        rw [← hs4] at hz5
        have hlaw : s4 = glueF s ((⟨#[118]⟩ : ByteArray) ++ bs (decZ a) ++ ⟨#[60]⟩ ++ bs (decZ n)) := by
          rw [hs4, hs2, glue_var _ _ _ _ (app_ne_l (by decide)) (by decide) (by decide) (by decide)]
        conv => whnf
        refine ⟨3, ?_⟩
        conv => whnf
        exact ⟨_, rfl, rfl, rfl, by rw [parF_no hlv]; exact hlaw, rfl⟩
    · (apply flow_go; (focus ((conv => whnf); refine ⟨by omega, ?_⟩; (generalize hrq : rowOf _ _ _ = rq; obtain rfl : rq = [strA ⟨#[61, 61]⟩] := hrq.symm.trans (by unfold rowOf; rfl); exact ⟨rfl, rfl, rfl⟩))); (conv => whnf))
      repeat (apply flow_go; (focus ((conv => whnf); exact ⟨rfl, rfl, rfl⟩)); (conv => whnf))
      have ho1 : 0 < (⟨#[61, 61]⟩ : ByteArray).size ∧ (⟨#[61, 61]⟩ : ByteArray).size ≤ 2 := by decide
      rw [show opB 1 = ⟨#[61, 61]⟩ from rfl]
      refine callR1 0 0 1 [] rfl rfl rfl rfl rfl rfl rfl (fun _ => (put2_spec s ((⟨#[118]⟩ : ByteArray) ++ bs (decZ a)) ⟨#[61, 61]⟩ (by rw [ByteArray.size_append]; omega) ho1.1 (by rw [ByteArray.size_append]; omega)).r) ?_
      rintro o n' cs' r ⟨s2, rfl, rfl, ho, hs2, rfl⟩
      cases ho
      have hz2 := glue_size s ((⟨#[118]⟩ : ByteArray) ++ bs (decZ a))
      have hz3 := glue_size (glueF s ((⟨#[118]⟩ : ByteArray) ++ bs (decZ a))) ⟨#[61, 61]⟩
      rw [← hs2] at hz3
      rw [ByteArray.size_append] at hz2
      conv => whnf
      by_cases hn : n < 0
      · rw [decide_eq_true hn]
        have hN := litoa_spec (-n)
        have zN : (bs (decZ (-n))).size ≤ 13 := by rw [bs_size]; exact decZ_len (-n) (by omega) (by omega)
        conv => whnf
        refine callR1 0 1 3 [2] rfl rfl rfl rfl rfl rfl rfl (fun _ => (put1_spec s2 ⟨#[45]⟩ (by decide) (by rw [z1c]; omega)).r) ?_
        rintro o n' cs' r ⟨s3, rfl, rfl, ho, hs3, rfl⟩
        cases ho
        have hz4 := glue_size s2 ⟨#[45]⟩
        rw [← hs3, z1c] at hz4
        conv => whnf
        refine ⟨i64r (by omega), ?_⟩
        conv => whnf
        rw [show max n (0 - n) = -n by omega]
        (refine call0 [] rfl (fun _ => hN) ?_; rintro r rfl; conv => whnf)
        conv => whnf
        refine callR1 0 3 5 [4] rfl rfl rfl rfl rfl rfl rfl (fun _ => (put1_spec s3 (bs (decZ (-n))) (decZ_ne _) (by omega)).r) ?_
        rintro o n' cs' r ⟨s4, rfl, rfl, ho, hs4, rfl⟩
        cases ho
        have hz5 := glue_size s3 (bs (decZ (-n)))
        rw [← hs4] at hz5
        have hlaw : s4 = glueF s ((⟨#[118]⟩ : ByteArray) ++ bs (decZ a) ++ ⟨#[61, 61]⟩ ++ bs (decZ n)) := by
          rw [hs4, hs3, hs2, glue_neg _ _ _ _ (app_ne_l (by decide)) (by decide) (by decide) (by decide), ← decZ_neg hn]
        conv => whnf
        refine ⟨5, ?_⟩
        conv => whnf
        exact ⟨_, rfl, rfl, rfl, by rw [parF_no hlv]; exact hlaw, rfl⟩
      · rw [decide_eq_false hn]
        have hN := litoa_spec n
        have zN : (bs (decZ n)).size ≤ 13 := by rw [bs_size]; exact decZ_len n (by omega) (by omega)
        conv => whnf
        refine ⟨i64r (by omega), ?_⟩
        conv => whnf
        rw [show max n (0 - n) = n by omega]
        (refine call0 [] rfl (fun _ => hN) ?_; rintro r rfl; conv => whnf)
        conv => whnf
        refine callR1 0 1 3 [2] rfl rfl rfl rfl rfl rfl rfl (fun _ => (put1_spec s2 (bs (decZ n)) (decZ_ne _) (by omega)).r) ?_
        rintro o n' cs' r ⟨s4, rfl, rfl, ho, hs4, rfl⟩
        cases ho
        have hz5 := glue_size s2 (bs (decZ n))
        rw [← hs4] at hz5
        have hlaw : s4 = glueF s ((⟨#[118]⟩ : ByteArray) ++ bs (decZ a) ++ ⟨#[61, 61]⟩ ++ bs (decZ n)) := by
          rw [hs4, hs2, glue_var _ _ _ _ (app_ne_l (by decide)) (by decide) (by decide) (by decide)]
        conv => whnf
        refine ⟨3, ?_⟩
        conv => whnf
        exact ⟨_, rfl, rfl, rfl, by rw [parF_no hlv]; exact hlaw, rfl⟩
    · (apply flow_go; (focus ((conv => whnf); refine ⟨by omega, ?_⟩; (generalize hrq : rowOf _ _ _ = rq; obtain rfl : rq = [strA ⟨#[62]⟩] := hrq.symm.trans (by unfold rowOf; rfl); exact ⟨rfl, rfl, rfl⟩))); (conv => whnf))
      repeat (apply flow_go; (focus ((conv => whnf); exact ⟨rfl, rfl, rfl⟩)); (conv => whnf))
      have ho1 : 0 < (⟨#[62]⟩ : ByteArray).size ∧ (⟨#[62]⟩ : ByteArray).size ≤ 2 := by decide
      rw [show opB 2 = ⟨#[62]⟩ from rfl]
      refine callR1 0 0 1 [] rfl rfl rfl rfl rfl rfl rfl (fun _ => (put2_spec s ((⟨#[118]⟩ : ByteArray) ++ bs (decZ a)) ⟨#[62]⟩ (by rw [ByteArray.size_append]; omega) ho1.1 (by rw [ByteArray.size_append]; omega)).r) ?_
      rintro o n' cs' r ⟨s2, rfl, rfl, ho, hs2, rfl⟩
      cases ho
      have hz2 := glue_size s ((⟨#[118]⟩ : ByteArray) ++ bs (decZ a))
      have hz3 := glue_size (glueF s ((⟨#[118]⟩ : ByteArray) ++ bs (decZ a))) ⟨#[62]⟩
      rw [← hs2] at hz3
      rw [ByteArray.size_append] at hz2
      conv => whnf
      by_cases hn : n < 0
      · rw [decide_eq_true hn]
        have hN := litoa_spec (-n)
        have zN : (bs (decZ (-n))).size ≤ 13 := by rw [bs_size]; exact decZ_len (-n) (by omega) (by omega)
        conv => whnf
        refine callR1 0 1 3 [2] rfl rfl rfl rfl rfl rfl rfl (fun _ => (put1_spec s2 ⟨#[45]⟩ (by decide) (by rw [z1c]; omega)).r) ?_
        rintro o n' cs' r ⟨s3, rfl, rfl, ho, hs3, rfl⟩
        cases ho
        have hz4 := glue_size s2 ⟨#[45]⟩
        rw [← hs3, z1c] at hz4
        conv => whnf
        refine ⟨i64r (by omega), ?_⟩
        conv => whnf
        rw [show max n (0 - n) = -n by omega]
        (refine call0 [] rfl (fun _ => hN) ?_; rintro r rfl; conv => whnf)
        conv => whnf
        refine callR1 0 3 5 [4] rfl rfl rfl rfl rfl rfl rfl (fun _ => (put1_spec s3 (bs (decZ (-n))) (decZ_ne _) (by omega)).r) ?_
        rintro o n' cs' r ⟨s4, rfl, rfl, ho, hs4, rfl⟩
        cases ho
        have hz5 := glue_size s3 (bs (decZ (-n)))
        rw [← hs4] at hz5
        have hlaw : s4 = glueF s ((⟨#[118]⟩ : ByteArray) ++ bs (decZ a) ++ ⟨#[62]⟩ ++ bs (decZ n)) := by
          rw [hs4, hs3, hs2, glue_neg _ _ _ _ (app_ne_l (by decide)) (by decide) (by decide) (by decide), ← decZ_neg hn]
        conv => whnf
        refine ⟨5, ?_⟩
        conv => whnf
        exact ⟨_, rfl, rfl, rfl, by rw [parF_no hlv]; exact hlaw, rfl⟩
      · rw [decide_eq_false hn]
        have hN := litoa_spec n
        have zN : (bs (decZ n)).size ≤ 13 := by rw [bs_size]; exact decZ_len n (by omega) (by omega)
        conv => whnf
        refine ⟨i64r (by omega), ?_⟩
        conv => whnf
        rw [show max n (0 - n) = n by omega]
        (refine call0 [] rfl (fun _ => hN) ?_; rintro r rfl; conv => whnf)
        conv => whnf
        refine callR1 0 1 3 [2] rfl rfl rfl rfl rfl rfl rfl (fun _ => (put1_spec s2 (bs (decZ n)) (decZ_ne _) (by omega)).r) ?_
        rintro o n' cs' r ⟨s4, rfl, rfl, ho, hs4, rfl⟩
        cases ho
        have hz5 := glue_size s2 (bs (decZ n))
        rw [← hs4] at hz5
        have hlaw : s4 = glueF s ((⟨#[118]⟩ : ByteArray) ++ bs (decZ a) ++ ⟨#[62]⟩ ++ bs (decZ n)) := by
          rw [hs4, hs2, glue_var _ _ _ _ (app_ne_l (by decide)) (by decide) (by decide) (by decide)]
        conv => whnf
        refine ⟨3, ?_⟩
        conv => whnf
        exact ⟨_, rfl, rfl, rfl, by rw [parF_no hlv]; exact hlaw, rfl⟩
end Go.Proofs.YtndflafkigldmaaGreatDoor.Vm
namespace Go.Proofs.YtndflafkigldmaaGreatDoor.Vm
open Go.RowKit Go.Shelf
set_option linter.unusedSimpArgs false
set_option linter.unusedVariables false
set_option maxRecDepth 100000
theorem pf_true (d : Nat) : PfSpec d (.mk 3 0 0 0 []) := fun s lv hs => by
  have hp := lprec_spec (.mk 3 0 0 0 [])
  rw [show precF (.mk 3 0 0 0 []) = 5 from rfl] at hp
  have hb := fmtb_spec true
  have hbz : (boolB true).size ≤ 5 := by decide
  rw [showF_mk, showsF_map, showsF_map, showsF_map, show precF (.mk 3 0 0 0 []) = 5 from rfl]
  rw [show ∀ l m n, bodyF 3 0 0 0 l m (List.map n []) = boolB true from fun _ _ _ => rfl]
  rw [fmA_mk] at hp ⊢
  have hpow : 1 ≤ 4 ^ d := Nat.pos_of_ne_zero (by simp)
  by_cases hlv : 5 < lv
  · refine specRT_of (cx_ok ordPF xs0 1) Tryz.func12 rfl (by kernel_rfl) rfl ?_
    intro _
    conv => whnf
    refine okT_step (cx_ok ordPF xs0 1) (dr := []) ⟨0, rfl⟩ (.inl rfl) (by kernel_rfl) (fun _ _ h => h.elim) ?_
    conv => whnf
    refine okT_step (cx_ok ordPF xs0 1) (dr := []) ⟨0, rfl⟩ (.inl rfl) (by kernel_rfl) (fun _ _ h => h.elim) ?_
    conv => whnf
    (refine call0 [] rfl (fun _ => hp) ?_; rintro r rfl; conv => whnf)
    conv => whnf
    refine okT_seq ?_
    refine okT_step (cx_ok ordPF xs0 1) (dr := []) ⟨0, rfl⟩ (.inl rfl) (by kernel_rfl) (fun _ _ h => h.elim) ?_
    conv => whnf
    refine okT_true (congrArg (fun b => A.v (.bool b)) (decide_eq_true hlv)) ?_
    refine okT_step (cx_ok ordPF xs0 1) (dr := []) ⟨0, rfl⟩ (.inl rfl) (by kernel_rfl) (fun _ _ h => h.elim) ?_
    conv => whnf
    refine callR1 0 0 2 [1] rfl rfl rfl rfl rfl rfl rfl (fun _ => (put1_spec s ⟨#[40]⟩ (by decide) (by rw [z1c]; omega)).r) ?_
    rintro o n' cs' r ⟨s1, rfl, rfl, ho, hs1, rfl⟩
    cases ho
    conv => whnf
    refine okT_deferP (l := [_, _]) [3] (cx_ok ordPF xs0 1) ⟨0, rfl⟩ (fun _ _ h => h.elim) rfl rfl rfl ?_
    conv => whnf
    refine okT_last (cx_ok ordPF xs0 1) ⟨1, rfl⟩ (.inl rfl) (by kernel_rfl) (fun _ _ h => h.elim) ?_
    conv => whnf
    have hz1 : s1.size ≤ s.size + 2 := by
      have := glue_size s ⟨#[40]⟩
      rw [z1c] at this
      rw [hs1]; omega
    (refine call0 [] rfl (fun _ => hb) ?_; rintro r rfl; conv => whnf)
    conv => whnf
    refine callR1 0 2 5 [4] rfl rfl rfl rfl rfl rfl rfl (fun _ => (put1_spec s1 (boolB true) (by decide) (by omega)).r) ?_
    rintro o n' cs' r ⟨s4, rfl, rfl, ho, hs4, rfl⟩
    cases ho
    have hz5 := glue_size s1 (boolB true)
    rw [← hs4] at hz5
    conv => whnf
    refine loop_sel [5] ?_
    conv => whnf
    refine loop_keep [0, 4, 6, 111] ?_
    conv => whnf
    refine loop_go (fun _ : Unit => [(112, .v (.int .i64 0))]) (fun _ => [[.adr PrT, .own 0], [intA 3, intA 0, intA 0, intA 0, .sl 5 0 (fmsA [])]]) (fun _ => [.live 5 0 s4.size [.v (.string s4)]]) (fun _ => True) (fun _ => 0) () ?_ trivial ?_
    · repeat' constructor
    rintro _ _
    conv => whnf
    refine ⟨.inl rfl, ?_⟩
    unfold leaveR
    refine dfrR1 0 0 1 [] rfl rfl rfl rfl rfl (put1_spec s4 ⟨#[41]⟩ (by decide) (by rw [z1c]; omega)) ?_
    rintro o n' cs' r ⟨s9, rfl, rfl, ho, hs9, rfl⟩
    cases ho
    conv => whnf
    refine ⟨1, ?_⟩
    conv => whnf
    exact ⟨_, rfl, rfl, rfl, by rw [parF_yes hlv, hs9, hs4, hs1, glue_par], rfl⟩
  · refine specR_of (cx_ok ordPF xs0 1) (fun _ _ h => h) Tryz.func12 rfl (by kernel_rfl) rfl (by kernel_rfl) ?_
    intro _
    conv => whnf
    (refine call0 [] rfl (fun _ => hp) ?_; rintro r rfl; conv => whnf)
    conv => whnf
    rw [decide_eq_false hlv]
    conv => whnf
    (refine call0 [] rfl (fun _ => hb) ?_; rintro r rfl; conv => whnf)
    conv => whnf
    refine callR1 0 0 2 [1] rfl rfl rfl rfl rfl rfl rfl (fun _ => (put1_spec s (boolB true) (by decide) (by omega)).r) ?_
    rintro o n' cs' r ⟨s4, rfl, rfl, ho, hs4, rfl⟩
    cases ho
    have hz5 := glue_size s (boolB true)
    rw [← hs4] at hz5
    conv => whnf
    refine loop_sel [2] ?_
    conv => whnf
    refine loop_keep [0, 4, 6, 111] ?_
    conv => whnf
    refine loop_go (fun _ : Unit => [(112, .v (.int .i64 0))]) (fun _ => [[.adr PrT, .own 0], [intA 3, intA 0, intA 0, intA 0, .sl 5 0 (fmsA [])]]) (fun _ => [.live 5 0 s4.size [.v (.string s4)]]) (fun _ => True) (fun _ => 0) () ?_ trivial ?_
    · repeat' constructor
    rintro _ _
    conv => whnf
    refine ⟨0, ?_⟩
    conv => whnf
    exact ⟨_, rfl, rfl, rfl, by rw [parF_no hlv, hs4], rfl⟩
theorem pf_false (d : Nat) : PfSpec d (.mk 4 0 0 0 []) := fun s lv hs => by
  have hp := lprec_spec (.mk 4 0 0 0 [])
  rw [show precF (.mk 4 0 0 0 []) = 5 from rfl] at hp
  have hb := fmtb_spec false
  have hbz : (boolB false).size ≤ 5 := by decide
  rw [showF_mk, showsF_map, showsF_map, showsF_map, show precF (.mk 4 0 0 0 []) = 5 from rfl]
  rw [show ∀ l m n, bodyF 4 0 0 0 l m (List.map n []) = boolB false from fun _ _ _ => rfl]
  rw [fmA_mk] at hp ⊢
  have hpow : 1 ≤ 4 ^ d := Nat.pos_of_ne_zero (by simp)
  by_cases hlv : 5 < lv
  · refine specRT_of (cx_ok ordPF xs0 1) Tryz.func12 rfl (by kernel_rfl) rfl ?_
    intro _
    conv => whnf
    refine okT_step (cx_ok ordPF xs0 1) (dr := []) ⟨0, rfl⟩ (.inl rfl) (by kernel_rfl) (fun _ _ h => h.elim) ?_
    conv => whnf
    refine okT_step (cx_ok ordPF xs0 1) (dr := []) ⟨0, rfl⟩ (.inl rfl) (by kernel_rfl) (fun _ _ h => h.elim) ?_
    conv => whnf
    (refine call0 [] rfl (fun _ => hp) ?_; rintro r rfl; conv => whnf)
    conv => whnf
    refine okT_seq ?_
    refine okT_step (cx_ok ordPF xs0 1) (dr := []) ⟨0, rfl⟩ (.inl rfl) (by kernel_rfl) (fun _ _ h => h.elim) ?_
    conv => whnf
    refine okT_true (congrArg (fun b => A.v (.bool b)) (decide_eq_true hlv)) ?_
    refine okT_step (cx_ok ordPF xs0 1) (dr := []) ⟨0, rfl⟩ (.inl rfl) (by kernel_rfl) (fun _ _ h => h.elim) ?_
    conv => whnf
    refine callR1 0 0 2 [1] rfl rfl rfl rfl rfl rfl rfl (fun _ => (put1_spec s ⟨#[40]⟩ (by decide) (by rw [z1c]; omega)).r) ?_
    rintro o n' cs' r ⟨s1, rfl, rfl, ho, hs1, rfl⟩
    cases ho
    conv => whnf
    refine okT_deferP (l := [_, _]) [3] (cx_ok ordPF xs0 1) ⟨0, rfl⟩ (fun _ _ h => h.elim) rfl rfl rfl ?_
    conv => whnf
    refine okT_last (cx_ok ordPF xs0 1) ⟨1, rfl⟩ (.inl rfl) (by kernel_rfl) (fun _ _ h => h.elim) ?_
    conv => whnf
    have hz1 : s1.size ≤ s.size + 2 := by
      have := glue_size s ⟨#[40]⟩
      rw [z1c] at this
      rw [hs1]; omega
    (refine call0 [] rfl (fun _ => hb) ?_; rintro r rfl; conv => whnf)
    conv => whnf
    refine callR1 0 2 5 [4] rfl rfl rfl rfl rfl rfl rfl (fun _ => (put1_spec s1 (boolB false) (by decide) (by omega)).r) ?_
    rintro o n' cs' r ⟨s4, rfl, rfl, ho, hs4, rfl⟩
    cases ho
    have hz5 := glue_size s1 (boolB false)
    rw [← hs4] at hz5
    conv => whnf
    refine loop_sel [5] ?_
    conv => whnf
    refine loop_keep [0, 4, 6, 111] ?_
    conv => whnf
    refine loop_go (fun _ : Unit => [(112, .v (.int .i64 0))]) (fun _ => [[.adr PrT, .own 0], [intA 4, intA 0, intA 0, intA 0, .sl 5 0 (fmsA [])]]) (fun _ => [.live 5 0 s4.size [.v (.string s4)]]) (fun _ => True) (fun _ => 0) () ?_ trivial ?_
    · repeat' constructor
    rintro _ _
    conv => whnf
    refine ⟨.inl rfl, ?_⟩
    unfold leaveR
    refine dfrR1 0 0 1 [] rfl rfl rfl rfl rfl (put1_spec s4 ⟨#[41]⟩ (by decide) (by rw [z1c]; omega)) ?_
    rintro o n' cs' r ⟨s9, rfl, rfl, ho, hs9, rfl⟩
    cases ho
    conv => whnf
    refine ⟨1, ?_⟩
    conv => whnf
    exact ⟨_, rfl, rfl, rfl, by rw [parF_yes hlv, hs9, hs4, hs1, glue_par], rfl⟩
  · refine specR_of (cx_ok ordPF xs0 1) (fun _ _ h => h) Tryz.func12 rfl (by kernel_rfl) rfl (by kernel_rfl) ?_
    intro _
    conv => whnf
    (refine call0 [] rfl (fun _ => hp) ?_; rintro r rfl; conv => whnf)
    conv => whnf
    rw [decide_eq_false hlv]
    conv => whnf
    (refine call0 [] rfl (fun _ => hb) ?_; rintro r rfl; conv => whnf)
    conv => whnf
    refine callR1 0 0 2 [1] rfl rfl rfl rfl rfl rfl rfl (fun _ => (put1_spec s (boolB false) (by decide) (by omega)).r) ?_
    rintro o n' cs' r ⟨s4, rfl, rfl, ho, hs4, rfl⟩
    cases ho
    have hz5 := glue_size s (boolB false)
    rw [← hs4] at hz5
    conv => whnf
    refine loop_sel [2] ?_
    conv => whnf
    refine loop_keep [0, 4, 6, 111] ?_
    conv => whnf
    refine loop_go (fun _ : Unit => [(112, .v (.int .i64 0))]) (fun _ => [[.adr PrT, .own 0], [intA 4, intA 0, intA 0, intA 0, .sl 5 0 (fmsA [])]]) (fun _ => [.live 5 0 s4.size [.v (.string s4)]]) (fun _ => True) (fun _ => 0) () ?_ trivial ?_
    · repeat' constructor
    rintro _ _
    conv => whnf
    refine ⟨0, ?_⟩
    conv => whnf
    exact ⟨_, rfl, rfl, rfl, by rw [parF_no hlv, hs4], rfl⟩
end Go.Proofs.YtndflafkigldmaaGreatDoor.Vm
namespace Go.Proofs.YtndflafkigldmaaGreatDoor.Vm
open Go.RowKit Go.Shelf
set_option linter.unusedSimpArgs false
set_option linter.unusedVariables false
set_option maxRecDepth 100000
def jnS (t sep : ByteArray) (xs : List ByteArray) : Nat → ByteArray
  | 0 => t
  | j + 1 => glueF (if j = 0 then jnS t sep xs j else glueF (jnS t sep xs j) sep) (xs.getD j ⟨#[]⟩)
theorem jnS_law (t sep e : ByteArray) (h1 : isLD (firstB sep) = false) (h2 : isLD (lastB sep) = false) (h3 : sep ≠ ⟨#[]⟩) (xs : List ByteArray) (hx : ∀ x ∈ xs, x ≠ ⟨#[]⟩) : ∀ j, j < xs.length → jnS t sep xs (j + 1) = glueF t (joinB sep e (xs.take (j + 1)))
  | 0, hj => by
    cases xs with
    | nil => simp at hj
    | cons x r => rfl
  | j + 1, hj => by
    have hg : xs.getD (j + 1) ⟨#[]⟩ = xs[j + 1] := by simp [List.getD_eq_getElem?_getD, hj]
    have hne : xs.take (j + 1) ≠ [] := by
      intro e
      have := congrArg List.length e
      rw [List.length_take, List.length_nil] at this; omega
    have hj2 : joinB sep e (xs.take (j + 1)) ≠ ⟨#[]⟩ := by
      cases h : xs.take (j + 1) with
      | nil => exact absurd h hne
      | cons y r =>
        have hy : ∀ z ∈ y :: r, z ≠ ⟨#[]⟩ := fun z hz => hx z (List.mem_of_mem_take (h ▸ hz))
        unfold joinB
        suffices ∀ (l : List ByteArray) (a : ByteArray), a ≠ ⟨#[]⟩ → l.foldl (fun a y => a ++ sep ++ y) a ≠ ⟨#[]⟩ from this r y (hy y List.mem_cons_self)
        intro l
        induction l with
        | nil => exact fun a h => h
        | cons y l ih => exact fun a h => ih _ (app_ne_l (app_ne_l h))
    have key : jnS t sep xs (j + 2) = glueF (glueF (jnS t sep xs (j + 1)) sep) (xs.getD (j + 1) ⟨#[]⟩) := by rw [jnS, if_neg (by omega)]
    rw [key, jnS_law t sep e h1 h2 h3 xs hx j (by omega), glue_sep _ _ _ _ hj2 h1 h2 h3, hg, List.take_succ_eq_append_getElem hj, joinB_snoc _ _ _ _ hne]
theorem pf_and (d : Nat) (l : List Fm) (hl : 2 ≤ l.length ∧ l.length ≤ 3) (hG : ∀ f ∈ l, Gf d f) (ih : ∀ f ∈ l, PfSpec d f) : PfSpec (d + 1) (.mk 3 0 0 0 l) := fun s lv hs => by
  have hp := lprec_spec (.mk 3 0 0 0 l)
  have hpv : precF (.mk 3 0 0 0 l) = 2 := by
    cases l with
    | nil => simp at hl
    | cons a r => rfl
  rw [hpv] at hp
  rw [showF_mk, showsF_map, showsF_map, showsF_map, hpv]
  rw [show ∀ m n, bodyF 3 0 0 0 m n (l.map fun f => showF f (2 + 1) false) = joinB ⟨#[38, 38]⟩ (empB 3) (l.map fun f => showF f 3 false) from fun _ _ => rfl]
  rw [fmA_mk] at hp ⊢
  have hpow : 1 ≤ 4 ^ d := Nat.pos_of_ne_zero (by simp)
  by_cases hlv : 2 < lv
  · refine specRT_of (cx_ok ordPF xs0 1) Tryz.func12 rfl (by kernel_rfl) rfl ?_
    intro _
    conv => whnf
    refine okT_step (cx_ok ordPF xs0 1) (dr := []) ⟨0, rfl⟩ (.inl rfl) (by kernel_rfl) (fun _ _ h => h.elim) ?_
    conv => whnf
    refine okT_step (cx_ok ordPF xs0 1) (dr := []) ⟨0, rfl⟩ (.inl rfl) (by kernel_rfl) (fun _ _ h => h.elim) ?_
    conv => whnf
    (refine call0 [] rfl (fun _ => hp) ?_; rintro r rfl; conv => whnf)
    conv => whnf
    refine okT_seq ?_
    refine okT_step (cx_ok ordPF xs0 1) (dr := []) ⟨0, rfl⟩ (.inl rfl) (by kernel_rfl) (fun _ _ h => h.elim) ?_
    conv => whnf
    refine okT_true (congrArg (fun b => A.v (.bool b)) (decide_eq_true hlv)) ?_
    refine okT_step (cx_ok ordPF xs0 1) (dr := []) ⟨0, rfl⟩ (.inl rfl) (by kernel_rfl) (fun _ _ h => h.elim) ?_
    conv => whnf
    refine callR1 0 0 2 [1] rfl rfl rfl rfl rfl rfl rfl (fun _ => (put1_spec s ⟨#[40]⟩ (by decide) (by rw [z1c]; omega)).r) ?_
    rintro o n' cs' r ⟨s1, rfl, rfl, ho, hs1, rfl⟩
    cases ho
    conv => whnf
    refine okT_deferP (l := [_, _]) [3] (cx_ok ordPF xs0 1) ⟨0, rfl⟩ (fun _ _ h => h.elim) rfl rfl rfl ?_
    conv => whnf
    refine okT_last (cx_ok ordPF xs0 1) ⟨1, rfl⟩ (.inl rfl) (by kernel_rfl) (fun _ _ h => h.elim) ?_
    conv => whnf
    have hz1 : s1.size ≤ s.size + 2 := by
      have := glue_size s ⟨#[40]⟩
      rw [z1c] at this
      rw [hs1]; omega
    obtain ⟨S, hS⟩ : ∃ S : Nat → ByteArray, ∀ j, S j = jnS s1 ⟨#[38, 38]⟩ (l.map fun f => showF f 3 false) j := ⟨_, fun _ => rfl⟩
    have hS0 : S 0 = s1 := by rw [hS]; rfl
    have hSl : S l.length = glueF s1 (joinB ⟨#[38, 38]⟩ (empB 3) (l.map fun f => showF f 3 false)) := by
      have := jnS_law s1 ⟨#[38, 38]⟩ (empB 3) (by decide) (by decide) (by decide) (l.map fun f => showF f 3 false) (fun x hx => by obtain ⟨g, hg, rfl⟩ := List.mem_map.1 hx; exact showF_ne (hG g hg) _ _) (l.length - 1) (by rw [List.length_map]; omega)
      rw [show l.length - 1 + 1 = (l.map fun f => showF f 3 false).length by rw [List.length_map]; omega, List.take_length, List.length_map] at this
      rw [hS, this]
    have hSn : ∀ j (h : j < l.length), S (j + 1) = glueF (if j = 0 then S j else glueF (S j) ⟨#[38, 38]⟩) (showF l[j] 3 false) := fun j h => by
      rw [hS, hS]
      show glueF _ _ = _
      congr 1
      simp [List.getD_eq_getElem?_getD, h]
    have hzt : (s1).size + 1000 * 4 ^ (d + 1) ≤ 500000002 := by omega
    generalize htt : s1 = t0 at *
    subst hS0
    rw [decide_eq_false (show ¬ (l.length : Int) = 0 by omega)]
    conv => whnf
    refine loop_sel [2] ?_
    conv => whnf
    refine loop_keep [0, 4, 6, 110, 111] ?_
    conv => whnf
    refine loop_go (fun j : Nat => [(112, .v (.int .i64 j))]) (fun _ => [[.adr PrT, .own 0], [intA 3, intA 0, intA 0, intA 0, .sl 5 l.length (fmsA l)]]) (fun j => [.live 5 0 (S j).size [.v (.string (S j))]]) (fun j => j ≤ l.length ∧ (S j).size ≤ (S 0).size + j * (60 * 4 ^ d + 8)) (fun j => l.length - j) 0 ?_ ⟨Nat.zero_le _, by omega⟩ ?_
    · repeat' constructor
    rintro j ⟨hj, hjz⟩
    conv => whnf
    by_cases hlt : j < l.length
    · rw [decide_eq_true (show (j : Int) < (l.length : Int) by omega)]
      have hrow := rowOf_fms l j hlt
      have hSn := hSn j hlt
      have hgm := List.getElem_mem hlt
      have hg := hG _ hgm
      have ihg := ih _ hgm
      have hz := sz_gf hg 3 false
      generalize l[j] = g at *
      have hmul : (j + 1) * (60 * 4 ^ d + 8) = j * (60 * 4 ^ d + 8) + (60 * 4 ^ d + 8) := Nat.succ_mul _ _
      have hle : j * (60 * 4 ^ d + 8) ≤ 2 * (60 * 4 ^ d + 8) := Nat.mul_le_mul_right _ (by omega)
      generalize j * (60 * 4 ^ d + 8) = w at *
      conv => whnf
      refine ⟨by omega, ?_⟩
      conv => whnf
      (generalize hrq : rowOf _ _ (fmsA l) = rq; obtain rfl : rq = fmA g := hrq.symm.trans (hrow); clear hrq; conv => whnf)
      by_cases hj0 : j = 0
      · subst hj0
        rw [if_pos rfl] at hSn
        have hz5 := glue_size (S 0) (showF g 3 false)
        conv => whnf
        refine ⟨i64r (by omega), ?_⟩
        conv => whnf
        refine callR1 0 0 1 [] rfl rfl rfl rfl rfl rfl rfl (fun _ => ihg (S 0) 3 (by omega)) ?_
        rintro o n' cs' r ⟨s4, rfl, rfl, ho, hs4, rfl⟩
        cases ho
        conv => whnf
        refine ⟨i64r (by omega), ?_⟩
        conv => whnf
        refine ⟨0 + 1, le_selH [1] ?_, ⟨hlt, by rw [hSn, hmul]; omega⟩, by omega⟩
        conv => whnf
        rw [hs4, show S (0 + 1) = _ from hSn]
        repeat' constructor
      · rw [if_neg hj0] at hSn
        have hz5 := glue_size (S j) ⟨#[38, 38]⟩
        have hz6 := glue_size (glueF (S j) ⟨#[38, 38]⟩) (showF g 3 false)
        have hsz : (⟨#[38, 38]⟩ : ByteArray).size = 2 := by decide
        rw [hsz] at hz5
        conv => whnf
        rw [decide_eq_true (show (0 : Int) < (j : Int) by omega)]
        conv => whnf
        refine callR1 0 0 3 [2] rfl rfl rfl rfl rfl rfl rfl (fun _ => (put1_spec (S j) ⟨#[38, 38]⟩ (by decide) (by omega)).r) ?_
        rintro o n' cs' r ⟨s3, rfl, rfl, ho, hs3, rfl⟩
        cases ho
        conv => whnf
        refine ⟨i64r (by omega), ?_⟩
        conv => whnf
        refine callR1 0 3 4 [] rfl rfl rfl rfl rfl rfl rfl (fun _ => ihg s3 3 (by rw [hs3]; omega)) ?_
        rintro o n' cs' r ⟨s4, rfl, rfl, ho, hs4, rfl⟩
        cases ho
        conv => whnf
        refine ⟨i64r (by omega), ?_⟩
        conv => whnf
        refine ⟨j + 1, le_selH [4] ?_, ⟨hlt, by rw [hSn, hmul]; omega⟩, by omega⟩
        conv => whnf
        rw [hs4, hs3, show S (j + 1) = _ from hSn]
        repeat' constructor
    · rw [decide_eq_false (show ¬ (j : Int) < (l.length : Int) by omega)]
      obtain rfl : j = l.length := by omega
      have hle : l.length * (60 * 4 ^ d + 8) ≤ 3 * (60 * 4 ^ d + 8) := Nat.mul_le_mul_right _ (by omega)
      conv => whnf
      refine ⟨.inl rfl, ?_⟩
      unfold leaveR
      refine dfrR1 0 0 1 [] rfl rfl rfl rfl rfl (put1_spec (S l.length) ⟨#[41]⟩ (by decide) (by rw [z1c]; omega)) ?_
      rintro o n' cs' r ⟨s9, rfl, rfl, ho, hs9, rfl⟩
      cases ho
      conv => whnf
      refine ⟨1, ?_⟩
      conv => whnf
      exact ⟨_, rfl, rfl, rfl, by rw [parF_yes hlv, hs9, hSl, hs1, glue_par], rfl⟩
  · refine specR_of (cx_ok ordPF xs0 1) (fun _ _ h => h) Tryz.func12 rfl (by kernel_rfl) rfl (by kernel_rfl) ?_
    intro _
    conv => whnf
    (refine call0 [] rfl (fun _ => hp) ?_; rintro r rfl; conv => whnf)
    conv => whnf
    rw [decide_eq_false hlv]
    conv => whnf
    obtain ⟨S, hS⟩ : ∃ S : Nat → ByteArray, ∀ j, S j = jnS s ⟨#[38, 38]⟩ (l.map fun f => showF f 3 false) j := ⟨_, fun _ => rfl⟩
    have hS0 : S 0 = s := by rw [hS]; rfl
    have hSl : S l.length = glueF s (joinB ⟨#[38, 38]⟩ (empB 3) (l.map fun f => showF f 3 false)) := by
      have := jnS_law s ⟨#[38, 38]⟩ (empB 3) (by decide) (by decide) (by decide) (l.map fun f => showF f 3 false) (fun x hx => by obtain ⟨g, hg, rfl⟩ := List.mem_map.1 hx; exact showF_ne (hG g hg) _ _) (l.length - 1) (by rw [List.length_map]; omega)
      rw [show l.length - 1 + 1 = (l.map fun f => showF f 3 false).length by rw [List.length_map]; omega, List.take_length, List.length_map] at this
      rw [hS, this]
    have hSn : ∀ j (h : j < l.length), S (j + 1) = glueF (if j = 0 then S j else glueF (S j) ⟨#[38, 38]⟩) (showF l[j] 3 false) := fun j h => by
      rw [hS, hS]
      show glueF _ _ = _
      congr 1
      simp [List.getD_eq_getElem?_getD, h]
    have hzt : (s).size + 1000 * 4 ^ (d + 1) ≤ 500000002 := by omega
    generalize htt : s = t0 at *
    subst hS0
    rw [decide_eq_false (show ¬ (l.length : Int) = 0 by omega)]
    conv => whnf
    refine loop_sel [0] ?_
    conv => whnf
    refine loop_keep [0, 4, 6, 110, 111] ?_
    conv => whnf
    refine loop_go (fun j : Nat => [(112, .v (.int .i64 j))]) (fun _ => [[.adr PrT, .own 0], [intA 3, intA 0, intA 0, intA 0, .sl 5 l.length (fmsA l)]]) (fun j => [.live 5 0 (S j).size [.v (.string (S j))]]) (fun j => j ≤ l.length ∧ (S j).size ≤ (S 0).size + j * (60 * 4 ^ d + 8)) (fun j => l.length - j) 0 ?_ ⟨Nat.zero_le _, by omega⟩ ?_
    · repeat' constructor
    rintro j ⟨hj, hjz⟩
    conv => whnf
    by_cases hlt : j < l.length
    · rw [decide_eq_true (show (j : Int) < (l.length : Int) by omega)]
      have hrow := rowOf_fms l j hlt
      have hSn := hSn j hlt
      have hgm := List.getElem_mem hlt
      have hg := hG _ hgm
      have ihg := ih _ hgm
      have hz := sz_gf hg 3 false
      generalize l[j] = g at *
      have hmul : (j + 1) * (60 * 4 ^ d + 8) = j * (60 * 4 ^ d + 8) + (60 * 4 ^ d + 8) := Nat.succ_mul _ _
      have hle : j * (60 * 4 ^ d + 8) ≤ 2 * (60 * 4 ^ d + 8) := Nat.mul_le_mul_right _ (by omega)
      generalize j * (60 * 4 ^ d + 8) = w at *
      conv => whnf
      refine ⟨by omega, ?_⟩
      conv => whnf
      (generalize hrq : rowOf _ _ (fmsA l) = rq; obtain rfl : rq = fmA g := hrq.symm.trans (hrow); clear hrq; conv => whnf)
      by_cases hj0 : j = 0
      · subst hj0
        rw [if_pos rfl] at hSn
        have hz5 := glue_size (S 0) (showF g 3 false)
        conv => whnf
        refine ⟨i64r (by omega), ?_⟩
        conv => whnf
        refine callR1 0 0 1 [] rfl rfl rfl rfl rfl rfl rfl (fun _ => ihg (S 0) 3 (by omega)) ?_
        rintro o n' cs' r ⟨s4, rfl, rfl, ho, hs4, rfl⟩
        cases ho
        conv => whnf
        refine ⟨i64r (by omega), ?_⟩
        conv => whnf
        refine ⟨0 + 1, le_selH [1] ?_, ⟨hlt, by rw [hSn, hmul]; omega⟩, by omega⟩
        conv => whnf
        rw [hs4, show S (0 + 1) = _ from hSn]
        repeat' constructor
      · rw [if_neg hj0] at hSn
        have hz5 := glue_size (S j) ⟨#[38, 38]⟩
        have hz6 := glue_size (glueF (S j) ⟨#[38, 38]⟩) (showF g 3 false)
        have hsz : (⟨#[38, 38]⟩ : ByteArray).size = 2 := by decide
        rw [hsz] at hz5
        conv => whnf
        rw [decide_eq_true (show (0 : Int) < (j : Int) by omega)]
        conv => whnf
        refine callR1 0 0 3 [2] rfl rfl rfl rfl rfl rfl rfl (fun _ => (put1_spec (S j) ⟨#[38, 38]⟩ (by decide) (by omega)).r) ?_
        rintro o n' cs' r ⟨s3, rfl, rfl, ho, hs3, rfl⟩
        cases ho
        conv => whnf
        refine ⟨i64r (by omega), ?_⟩
        conv => whnf
        refine callR1 0 3 4 [] rfl rfl rfl rfl rfl rfl rfl (fun _ => ihg s3 3 (by rw [hs3]; omega)) ?_
        rintro o n' cs' r ⟨s4, rfl, rfl, ho, hs4, rfl⟩
        cases ho
        conv => whnf
        refine ⟨i64r (by omega), ?_⟩
        conv => whnf
        refine ⟨j + 1, le_selH [4] ?_, ⟨hlt, by rw [hSn, hmul]; omega⟩, by omega⟩
        conv => whnf
        rw [hs4, hs3, show S (j + 1) = _ from hSn]
        repeat' constructor
    · rw [decide_eq_false (show ¬ (j : Int) < (l.length : Int) by omega)]
      obtain rfl : j = l.length := by omega
      have hle : l.length * (60 * 4 ^ d + 8) ≤ 3 * (60 * 4 ^ d + 8) := Nat.mul_le_mul_right _ (by omega)
      conv => whnf
      refine ⟨0, ?_⟩
      conv => whnf
      exact ⟨_, rfl, rfl, rfl, by rw [parF_no hlv]; exact hSl, rfl⟩
theorem pf_or (d : Nat) (l : List Fm) (hl : 2 ≤ l.length ∧ l.length ≤ 3) (hG : ∀ f ∈ l, Gf d f) (ih : ∀ f ∈ l, PfSpec d f) : PfSpec (d + 1) (.mk 4 0 0 0 l) := fun s lv hs => by
  have hp := lprec_spec (.mk 4 0 0 0 l)
  have hpv : precF (.mk 4 0 0 0 l) = 1 := by
    cases l with
    | nil => simp at hl
    | cons a r => rfl
  rw [hpv] at hp
  rw [showF_mk, showsF_map, showsF_map, showsF_map, hpv]
  rw [show ∀ m n, bodyF 4 0 0 0 m n (l.map fun f => showF f (1 + 1) false) = joinB ⟨#[124, 124]⟩ (empB 4) (l.map fun f => showF f 2 false) from fun _ _ => rfl]
  rw [fmA_mk] at hp ⊢
  have hpow : 1 ≤ 4 ^ d := Nat.pos_of_ne_zero (by simp)
  by_cases hlv : 1 < lv
  · refine specRT_of (cx_ok ordPF xs0 1) Tryz.func12 rfl (by kernel_rfl) rfl ?_
    intro _
    conv => whnf
    refine okT_step (cx_ok ordPF xs0 1) (dr := []) ⟨0, rfl⟩ (.inl rfl) (by kernel_rfl) (fun _ _ h => h.elim) ?_
    conv => whnf
    refine okT_step (cx_ok ordPF xs0 1) (dr := []) ⟨0, rfl⟩ (.inl rfl) (by kernel_rfl) (fun _ _ h => h.elim) ?_
    conv => whnf
    (refine call0 [] rfl (fun _ => hp) ?_; rintro r rfl; conv => whnf)
    conv => whnf
    refine okT_seq ?_
    refine okT_step (cx_ok ordPF xs0 1) (dr := []) ⟨0, rfl⟩ (.inl rfl) (by kernel_rfl) (fun _ _ h => h.elim) ?_
    conv => whnf
    refine okT_true (congrArg (fun b => A.v (.bool b)) (decide_eq_true hlv)) ?_
    refine okT_step (cx_ok ordPF xs0 1) (dr := []) ⟨0, rfl⟩ (.inl rfl) (by kernel_rfl) (fun _ _ h => h.elim) ?_
    conv => whnf
    refine callR1 0 0 2 [1] rfl rfl rfl rfl rfl rfl rfl (fun _ => (put1_spec s ⟨#[40]⟩ (by decide) (by rw [z1c]; omega)).r) ?_
    rintro o n' cs' r ⟨s1, rfl, rfl, ho, hs1, rfl⟩
    cases ho
    conv => whnf
    refine okT_deferP (l := [_, _]) [3] (cx_ok ordPF xs0 1) ⟨0, rfl⟩ (fun _ _ h => h.elim) rfl rfl rfl ?_
    conv => whnf
    refine okT_last (cx_ok ordPF xs0 1) ⟨1, rfl⟩ (.inl rfl) (by kernel_rfl) (fun _ _ h => h.elim) ?_
    conv => whnf
    have hz1 : s1.size ≤ s.size + 2 := by
      have := glue_size s ⟨#[40]⟩
      rw [z1c] at this
      rw [hs1]; omega
    obtain ⟨S, hS⟩ : ∃ S : Nat → ByteArray, ∀ j, S j = jnS s1 ⟨#[124, 124]⟩ (l.map fun f => showF f 2 false) j := ⟨_, fun _ => rfl⟩
    have hS0 : S 0 = s1 := by rw [hS]; rfl
    have hSl : S l.length = glueF s1 (joinB ⟨#[124, 124]⟩ (empB 4) (l.map fun f => showF f 2 false)) := by
      have := jnS_law s1 ⟨#[124, 124]⟩ (empB 4) (by decide) (by decide) (by decide) (l.map fun f => showF f 2 false) (fun x hx => by obtain ⟨g, hg, rfl⟩ := List.mem_map.1 hx; exact showF_ne (hG g hg) _ _) (l.length - 1) (by rw [List.length_map]; omega)
      rw [show l.length - 1 + 1 = (l.map fun f => showF f 2 false).length by rw [List.length_map]; omega, List.take_length, List.length_map] at this
      rw [hS, this]
    have hSn : ∀ j (h : j < l.length), S (j + 1) = glueF (if j = 0 then S j else glueF (S j) ⟨#[124, 124]⟩) (showF l[j] 2 false) := fun j h => by
      rw [hS, hS]
      show glueF _ _ = _
      congr 1
      simp [List.getD_eq_getElem?_getD, h]
    have hzt : (s1).size + 1000 * 4 ^ (d + 1) ≤ 500000002 := by omega
    generalize htt : s1 = t0 at *
    subst hS0
    rw [decide_eq_false (show ¬ (l.length : Int) = 0 by omega)]
    conv => whnf
    refine loop_sel [2] ?_
    conv => whnf
    refine loop_keep [0, 4, 6, 110, 111] ?_
    conv => whnf
    refine loop_go (fun j : Nat => [(112, .v (.int .i64 j))]) (fun _ => [[.adr PrT, .own 0], [intA 4, intA 0, intA 0, intA 0, .sl 5 l.length (fmsA l)]]) (fun j => [.live 5 0 (S j).size [.v (.string (S j))]]) (fun j => j ≤ l.length ∧ (S j).size ≤ (S 0).size + j * (60 * 4 ^ d + 8)) (fun j => l.length - j) 0 ?_ ⟨Nat.zero_le _, by omega⟩ ?_
    · repeat' constructor
    rintro j ⟨hj, hjz⟩
    conv => whnf
    by_cases hlt : j < l.length
    · rw [decide_eq_true (show (j : Int) < (l.length : Int) by omega)]
      have hrow := rowOf_fms l j hlt
      have hSn := hSn j hlt
      have hgm := List.getElem_mem hlt
      have hg := hG _ hgm
      have ihg := ih _ hgm
      have hz := sz_gf hg 2 false
      generalize l[j] = g at *
      have hmul : (j + 1) * (60 * 4 ^ d + 8) = j * (60 * 4 ^ d + 8) + (60 * 4 ^ d + 8) := Nat.succ_mul _ _
      have hle : j * (60 * 4 ^ d + 8) ≤ 2 * (60 * 4 ^ d + 8) := Nat.mul_le_mul_right _ (by omega)
      generalize j * (60 * 4 ^ d + 8) = w at *
      conv => whnf
      refine ⟨by omega, ?_⟩
      conv => whnf
      (generalize hrq : rowOf _ _ (fmsA l) = rq; obtain rfl : rq = fmA g := hrq.symm.trans (hrow); clear hrq; conv => whnf)
      by_cases hj0 : j = 0
      · subst hj0
        rw [if_pos rfl] at hSn
        have hz5 := glue_size (S 0) (showF g 2 false)
        conv => whnf
        refine ⟨i64r (by omega), ?_⟩
        conv => whnf
        refine callR1 0 0 1 [] rfl rfl rfl rfl rfl rfl rfl (fun _ => ihg (S 0) 2 (by omega)) ?_
        rintro o n' cs' r ⟨s4, rfl, rfl, ho, hs4, rfl⟩
        cases ho
        conv => whnf
        refine ⟨i64r (by omega), ?_⟩
        conv => whnf
        refine ⟨0 + 1, le_selH [1] ?_, ⟨hlt, by rw [hSn, hmul]; omega⟩, by omega⟩
        conv => whnf
        rw [hs4, show S (0 + 1) = _ from hSn]
        repeat' constructor
      · rw [if_neg hj0] at hSn
        have hz5 := glue_size (S j) ⟨#[124, 124]⟩
        have hz6 := glue_size (glueF (S j) ⟨#[124, 124]⟩) (showF g 2 false)
        have hsz : (⟨#[124, 124]⟩ : ByteArray).size = 2 := by decide
        rw [hsz] at hz5
        conv => whnf
        rw [decide_eq_true (show (0 : Int) < (j : Int) by omega)]
        conv => whnf
        refine callR1 0 0 3 [2] rfl rfl rfl rfl rfl rfl rfl (fun _ => (put1_spec (S j) ⟨#[124, 124]⟩ (by decide) (by omega)).r) ?_
        rintro o n' cs' r ⟨s3, rfl, rfl, ho, hs3, rfl⟩
        cases ho
        conv => whnf
        refine ⟨i64r (by omega), ?_⟩
        conv => whnf
        refine callR1 0 3 4 [] rfl rfl rfl rfl rfl rfl rfl (fun _ => ihg s3 2 (by rw [hs3]; omega)) ?_
        rintro o n' cs' r ⟨s4, rfl, rfl, ho, hs4, rfl⟩
        cases ho
        conv => whnf
        refine ⟨i64r (by omega), ?_⟩
        conv => whnf
        refine ⟨j + 1, le_selH [4] ?_, ⟨hlt, by rw [hSn, hmul]; omega⟩, by omega⟩
        conv => whnf
        rw [hs4, hs3, show S (j + 1) = _ from hSn]
        repeat' constructor
    · rw [decide_eq_false (show ¬ (j : Int) < (l.length : Int) by omega)]
      obtain rfl : j = l.length := by omega
      have hle : l.length * (60 * 4 ^ d + 8) ≤ 3 * (60 * 4 ^ d + 8) := Nat.mul_le_mul_right _ (by omega)
      conv => whnf
      refine ⟨.inl rfl, ?_⟩
      unfold leaveR
      refine dfrR1 0 0 1 [] rfl rfl rfl rfl rfl (put1_spec (S l.length) ⟨#[41]⟩ (by decide) (by rw [z1c]; omega)) ?_
      rintro o n' cs' r ⟨s9, rfl, rfl, ho, hs9, rfl⟩
      cases ho
      conv => whnf
      refine ⟨1, ?_⟩
      conv => whnf
      exact ⟨_, rfl, rfl, rfl, by rw [parF_yes hlv, hs9, hSl, hs1, glue_par], rfl⟩
  · refine specR_of (cx_ok ordPF xs0 1) (fun _ _ h => h) Tryz.func12 rfl (by kernel_rfl) rfl (by kernel_rfl) ?_
    intro _
    conv => whnf
    (refine call0 [] rfl (fun _ => hp) ?_; rintro r rfl; conv => whnf)
    conv => whnf
    rw [decide_eq_false hlv]
    conv => whnf
    obtain ⟨S, hS⟩ : ∃ S : Nat → ByteArray, ∀ j, S j = jnS s ⟨#[124, 124]⟩ (l.map fun f => showF f 2 false) j := ⟨_, fun _ => rfl⟩
    have hS0 : S 0 = s := by rw [hS]; rfl
    have hSl : S l.length = glueF s (joinB ⟨#[124, 124]⟩ (empB 4) (l.map fun f => showF f 2 false)) := by
      have := jnS_law s ⟨#[124, 124]⟩ (empB 4) (by decide) (by decide) (by decide) (l.map fun f => showF f 2 false) (fun x hx => by obtain ⟨g, hg, rfl⟩ := List.mem_map.1 hx; exact showF_ne (hG g hg) _ _) (l.length - 1) (by rw [List.length_map]; omega)
      rw [show l.length - 1 + 1 = (l.map fun f => showF f 2 false).length by rw [List.length_map]; omega, List.take_length, List.length_map] at this
      rw [hS, this]
    have hSn : ∀ j (h : j < l.length), S (j + 1) = glueF (if j = 0 then S j else glueF (S j) ⟨#[124, 124]⟩) (showF l[j] 2 false) := fun j h => by
      rw [hS, hS]
      show glueF _ _ = _
      congr 1
      simp [List.getD_eq_getElem?_getD, h]
    have hzt : (s).size + 1000 * 4 ^ (d + 1) ≤ 500000002 := by omega
    generalize htt : s = t0 at *
    subst hS0
    rw [decide_eq_false (show ¬ (l.length : Int) = 0 by omega)]
    conv => whnf
    refine loop_sel [0] ?_
    conv => whnf
    refine loop_keep [0, 4, 6, 110, 111] ?_
    conv => whnf
    refine loop_go (fun j : Nat => [(112, .v (.int .i64 j))]) (fun _ => [[.adr PrT, .own 0], [intA 4, intA 0, intA 0, intA 0, .sl 5 l.length (fmsA l)]]) (fun j => [.live 5 0 (S j).size [.v (.string (S j))]]) (fun j => j ≤ l.length ∧ (S j).size ≤ (S 0).size + j * (60 * 4 ^ d + 8)) (fun j => l.length - j) 0 ?_ ⟨Nat.zero_le _, by omega⟩ ?_
    · repeat' constructor
    rintro j ⟨hj, hjz⟩
    conv => whnf
    by_cases hlt : j < l.length
    · rw [decide_eq_true (show (j : Int) < (l.length : Int) by omega)]
      have hrow := rowOf_fms l j hlt
      have hSn := hSn j hlt
      have hgm := List.getElem_mem hlt
      have hg := hG _ hgm
      have ihg := ih _ hgm
      have hz := sz_gf hg 2 false
      generalize l[j] = g at *
      have hmul : (j + 1) * (60 * 4 ^ d + 8) = j * (60 * 4 ^ d + 8) + (60 * 4 ^ d + 8) := Nat.succ_mul _ _
      have hle : j * (60 * 4 ^ d + 8) ≤ 2 * (60 * 4 ^ d + 8) := Nat.mul_le_mul_right _ (by omega)
      generalize j * (60 * 4 ^ d + 8) = w at *
      conv => whnf
      refine ⟨by omega, ?_⟩
      conv => whnf
      (generalize hrq : rowOf _ _ (fmsA l) = rq; obtain rfl : rq = fmA g := hrq.symm.trans (hrow); clear hrq; conv => whnf)
      by_cases hj0 : j = 0
      · subst hj0
        rw [if_pos rfl] at hSn
        have hz5 := glue_size (S 0) (showF g 2 false)
        conv => whnf
        refine ⟨i64r (by omega), ?_⟩
        conv => whnf
        refine callR1 0 0 1 [] rfl rfl rfl rfl rfl rfl rfl (fun _ => ihg (S 0) 2 (by omega)) ?_
        rintro o n' cs' r ⟨s4, rfl, rfl, ho, hs4, rfl⟩
        cases ho
        conv => whnf
        refine ⟨i64r (by omega), ?_⟩
        conv => whnf
        refine ⟨0 + 1, le_selH [1] ?_, ⟨hlt, by rw [hSn, hmul]; omega⟩, by omega⟩
        conv => whnf
        rw [hs4, show S (0 + 1) = _ from hSn]
        repeat' constructor
      · rw [if_neg hj0] at hSn
        have hz5 := glue_size (S j) ⟨#[124, 124]⟩
        have hz6 := glue_size (glueF (S j) ⟨#[124, 124]⟩) (showF g 2 false)
        have hsz : (⟨#[124, 124]⟩ : ByteArray).size = 2 := by decide
        rw [hsz] at hz5
        conv => whnf
        rw [decide_eq_true (show (0 : Int) < (j : Int) by omega)]
        conv => whnf
        refine callR1 0 0 3 [2] rfl rfl rfl rfl rfl rfl rfl (fun _ => (put1_spec (S j) ⟨#[124, 124]⟩ (by decide) (by omega)).r) ?_
        rintro o n' cs' r ⟨s3, rfl, rfl, ho, hs3, rfl⟩
        cases ho
        conv => whnf
        refine ⟨i64r (by omega), ?_⟩
        conv => whnf
        refine callR1 0 3 4 [] rfl rfl rfl rfl rfl rfl rfl (fun _ => ihg s3 2 (by rw [hs3]; omega)) ?_
        rintro o n' cs' r ⟨s4, rfl, rfl, ho, hs4, rfl⟩
        cases ho
        conv => whnf
        refine ⟨i64r (by omega), ?_⟩
        conv => whnf
        refine ⟨j + 1, le_selH [4] ?_, ⟨hlt, by rw [hSn, hmul]; omega⟩, by omega⟩
        conv => whnf
        rw [hs4, hs3, show S (j + 1) = _ from hSn]
        repeat' constructor
    · rw [decide_eq_false (show ¬ (j : Int) < (l.length : Int) by omega)]
      obtain rfl : j = l.length := by omega
      have hle : l.length * (60 * 4 ^ d + 8) ≤ 3 * (60 * 4 ^ d + 8) := Nat.mul_le_mul_right _ (by omega)
      conv => whnf
      refine ⟨0, ?_⟩
      conv => whnf
      exact ⟨_, rfl, rfl, rfl, by rw [parF_no hlv]; exact hSl, rfl⟩
theorem pf_all {d : Nat} {f : Fm} (h : Gf d f) : PfSpec d f := by
  induction h with
  | var h1 h2 h3 => exact pf_var _ _ _ _ h1 h2 h3
  | cst b => cases b; exact pf_false _; exact pf_true _
  | un hk h ih =>
    rcases hk with rfl | rfl | rfl | rfl
    · exact pf_un2 _ _ h ih
    · exact pf_un5 _ _ h ih
    · exact pf_un7 _ _ h ih
    · exact pf_un8 _ _ h ih
  | til h1 h2 ih1 ih2 => exact pf_til _ _ _ h1 h2 ih1 ih2
  | jn hk hl h ih =>
    rcases hk with rfl | rfl
    · exact pf_and _ _ hl h ih
    · exact pf_or _ _ hl h ih
end Go.Proofs.YtndflafkigldmaaGreatDoor.Vm
namespace Go.Proofs.YtndflafkigldmaaGreatDoor.Vm
open Go.RowKit Go.Shelf
set_option linter.unusedSimpArgs false
set_option linter.unusedVariables false
set_option maxRecDepth 100000
theorem rep_e {E : Env} : (A.v (.string ⟨#[]⟩)).rep E (.string ⟨#[]⟩) := A.rep_v (by show (0 : Nat) ≤ maxLen; unfold maxLen; omega)
theorem Hp.nilBufRow {w0 : W0} {w : World} {C0 : Rd} {β0 : List Nat} {bx : List (List A)} {rw : List Row} {E : Env} (h : Hp w0 C0 β0 bx rw w E) (e : Nat) : Hp w0 C0 β0 bx (rw ++ [.live e 0 0 [.v (.string ⟨#[]⟩)]]) w ⟨E.C, E.β, E.ρ ++ [.slice none 0 0]⟩ ∧ E.le ⟨E.C, E.β, E.ρ ++ [.slice none 0 0]⟩ := by
  have le : E.le ⟨E.C, E.β, E.ρ ++ [.slice none 0 0]⟩ := ⟨Sub.refl _, fun _ _ h => h, fun i b hb => by
    have := (List.getElem?_eq_some_iff.1 hb).1
    rw [List.getElem?_append_left this]; exact hb⟩
  have part : ∀ (g : Nat) (r : Row) (y : Value), (rw ++ [Row.live e 0 0 [.v (.string ⟨#[]⟩)]])[g]? = some r → (E.ρ ++ [Value.slice none 0 0])[g]? = some y → (rw[g]? = some r ∧ E.ρ[g]? = some y) ∨ (r = .live e 0 0 [.v (.string ⟨#[]⟩)] ∧ y = .slice none 0 0 ∧ g = rw.length) := fun g r y h1 h2 => by
    by_cases hg : g < rw.length
    · rw [List.getElem?_append_left hg] at h1
      rw [List.getElem?_append_left (by rw [← h.rl]; exact hg)] at h2
      exact .inl ⟨h1, h2⟩
    · rw [List.getElem?_append_right (by omega)] at h1
      rw [List.getElem?_append_right (by rw [← h.rl]; omega)] at h2
      have hi0 : g - rw.length = 0 := by
        have := (List.getElem?_eq_some_iff.1 h1).1
        simp at this; omega
      rw [hi0] at h1
      rw [← h.rl, hi0] at h2
      simp at h1 h2
      exact .inr ⟨h1.symm, h2.symm, by omega⟩
  refine ⟨⟨h.sub, h.base, h.fresh, h.bp, h.bnd, h.bC, h.bl, fun i b cs h1 h2 => (h.bxs i b cs h1 h2).mono le, by simp [h.rl], fun g r y h1 h2 => ?_, fun g e' k' n cs y b h1 h2 h3 => ?_, fun g e1 k1 n1 cs1 y g' e2 k2 n2 cs2 z b hne h1 h2 h3 h4 h5 => ?_, fun g y h1 => snoc_slices h.rs (.inl ⟨_, _, _, rfl⟩) g y h1, h.keep, h.gk⟩, le⟩
  · rcases part g r y h1 h2 with ⟨h3, h4⟩ | ⟨rfl, rfl, _⟩
    · exact (h.rws g r y h3 h4).mono le (fun _ _ _ _ _ _ _ => rfl)
    · exact ⟨[.string ⟨#[]⟩], ⟨owR.nilBuf _ _, fun b hb => by simp [blk] at hb⟩, by unfold A.repC; exact ⟨_, [], rfl, rfl, rep_e, by unfold A.repC; rfl⟩⟩
  · rcases part g _ y h1 h2 with ⟨h4, h5⟩ | ⟨_, rfl, _⟩
    · exact h.rC g e' k' n cs y b h4 h5 h3
    · simp [blk] at h3
  · rcases part g _ y h1 h2 with ⟨k3, k4⟩ | ⟨_, rfl, _⟩
    · rcases part g' _ z h3 h4 with ⟨k5, k6⟩ | ⟨_, rfl, _⟩
      · exact h.rd g e1 k1 n1 cs1 y g' e2 k2 n2 cs2 z b hne k3 k4 k5 k6 h5
      · simp [blk]
    · simp [blk] at h5
theorem le_nilB {np : Nat} {s : S} {t : List A} {bx : List (List A)} (e : Nat) (ht : NilL s.rw.length s.t t) (hb : NilB s.rw.length s.bx bx) : Le np s ⟨t, bx, s.rw ++ [.live e 0 0 [.v (.string ⟨#[]⟩)]]⟩ := by
  rintro dr w0 C0 β0 a w _ _ ⟨E, hp, hrep, hd⟩
  obtain ⟨h1, le⟩ := hp.nilBufRow e
  have hg : (E.ρ ++ [Value.slice none 0 0])[s.rw.length]? = some (.slice none 0 0) := by rw [hp.rl]; simp
  refine ⟨⟨E.C, E.β, E.ρ ++ [.slice none 0 0]⟩, ?_, NilL_rep hg ht (A.repL.mono _ le hrep), hd.mono le⟩
  exact ⟨h1.sub, h1.base, h1.fresh, h1.bp, h1.bnd, h1.bC, by rw [NilB_len hb]; exact h1.bl, fun i b cs h2 h3 => by
    obtain ⟨c0, h4, h5⟩ := NilB_get hb h3
    obtain ⟨T', arr, h6, h7⟩ := h1.bxs i b c0 h2 h4
    exact ⟨T', arr, h6, h7.rel (NilL s.rw.length) h5 (fun l m us e k => NilL_rep hg e k) (fun l m e => NilL_unH e) fun l t r e => NilL_head e⟩, h1.rl, h1.rws, h1.rC, h1.rd, h1.rs, h1.keep, h1.gk⟩
theorem ok_buf {c : Cx} {x : Code} {t : List A} {bx : List (List A)} {rw : List Row} {q : Exit → S → Prop} (e : Nat) (ts : List Nat) (cs : List (Nat × Nat))
    (h : snocK rw (.live e 0 0 [.v (.string ⟨#[]⟩)]) 0 fun g rw' => nilK g ts t fun t' => nilBK g cs bx fun bx' => Ok c x ⟨t', bx', rw'⟩ q) : Ok c x ⟨t, bx, rw⟩ q := by
  rw [snocK_iff, Nat.zero_add] at h
  obtain ⟨t', h1, h⟩ := nilK_iff h
  obtain ⟨bx', h2, h⟩ := nilBK_iff h
  exact ok_le (le_nilB (s := ⟨t, bx, rw⟩) e h1 h2) h
theorem print_spec {d : Nat} {f : Fm} (h : Gf d f) (hd : d ≤ 6) : Spec Tryz.prog 5 [] [.agg (fmA f)] fun _ r => r = strA (showF f 1 false) := by
  have hpf := pf_all h
  have hne := showF_ne h 1 false
  refine spec_of_ok (cx_ok ord0 xs0 0) (fun _ _ h => h) Tryz.func5 rfl (by kernel_rfl) rfl ?_
  intro _
  refine ok_step (cx_ok _ _ _) (by kernel_rfl) ?_
  conv => whnf
  refine ok_step (cx_ok _ _ _) (by kernel_rfl) ?_
  conv => whnf
  refine ok_buf 5 [] [(1, 1)] ?_
  conv => whnf
  refine ⟨trivial, ?_⟩
  conv => whnf
  have hz := sz_gf h 1 false
  have hpow : 4 ^ d ≤ 4 ^ 6 := Nat.pow_le_pow_right (by decide) hd
  have h46 : 4 ^ 6 = 4096 := rfl
  have hg0 : glueF ⟨#[]⟩ (showF f 1 false) = showF f 1 false := by unfold glueF; rw [if_pos rfl, nil_ba]
  have he : (⟨#[]⟩ : ByteArray).size = 0 := rfl
  refine ok_of_awp (cx_ok _ _ _) (by kernel_rfl) ?_
  conv => whnf
  refine callR1 1 0 1 [] rfl rfl rfl rfl rfl rfl rfl (fun _ => hpf ⟨#[]⟩ 1 (by rw [he]; omega)) ?_
  rintro o n' cs' r ⟨s4, rfl, rfl, ho, hs4, rfl⟩
  rw [hg0] at hs4
  subst hs4
  cases ho
  conv => whnf
  refine callR1 1 1 2 [] rfl rfl rfl rfl rfl rfl rfl (fun _ => bstring_spec PrT (showF f 1 false) (size_ne hne)) ?_
  rintro o n' cs' r ⟨s5, rfl, rfl, ho, rfl, rfl⟩
  cases ho
  conv => whnf
  rfl
end Go.Proofs.YtndflafkigldmaaGreatDoor.Vm
namespace Go.Proofs.YtndflafkigldmaaGreatDoor.Vm
open Go.RowKit Go.Shelf
set_option linter.unusedSimpArgs false
set_option linter.unusedVariables false
set_option maxRecDepth 100000
def horner : Int → List UInt8 → Int
  | n, [] => n
  | n, c :: r => horner (10 * n + (c.toNat : Int) - 48) r
theorem dig_rng {c : UInt8} (h : isD c = true) : 48 ≤ (c.toNat : Int) ∧ (c.toNat : Int) ≤ 57 := by
  unfold isD at h
  simp only [Bool.and_eq_true, decide_eq_true_eq] at h
  exact h
theorem horner_ge : ∀ (l : List UInt8) (n : Int), 0 ≤ n → (∀ c ∈ l, isD c = true) → n ≤ horner n l
  | [], n, _, _ => Int.le_refl n
  | c :: r, n, h0, h => by
    have hc := dig_rng (h c (by simp))
    have := horner_ge r (10 * n + (c.toNat : Int) - 48) (by omega) (fun c hc => h c (by simp [hc]))
    show n ≤ horner (10 * n + (c.toNat : Int) - 48) r
    omega
theorem valF_horner : ∀ (l : List UInt8) (n : Int), 0 ≤ n → n ≤ 2147483647 → (∀ c ∈ l, isD c = true) → valF n l = if 2147483647 < horner n l then -1 else horner n l
  | [], n, _, h, _ => by
    show n = if 2147483647 < n then -1 else n
    rw [if_neg (by omega)]
  | c :: r, n, h0, h1, h => by
    have hc := dig_rng (h c (by simp))
    have hr : ∀ c ∈ r, isD c = true := fun c hc => h c (by simp [hc])
    show (if 2147483647 < 10 * n + (c.toNat : Int) - 48 then -1 else valF (10 * n + (c.toNat : Int) - 48) r) = if 2147483647 < horner (10 * n + (c.toNat : Int) - 48) r then -1 else horner (10 * n + (c.toNat : Int) - 48) r
    have hg := horner_ge r (10 * n + (c.toNat : Int) - 48) (by omega) hr
    by_cases hx : 2147483647 < 10 * n + (c.toNat : Int) - 48
    · rw [if_pos hx, if_pos (by omega)]
    · rw [if_neg hx, valF_horner r _ (by omega) (by omega) hr]
theorem horner_app : ∀ (l m : List UInt8) (n : Int), horner n (l ++ m) = horner (horner n l) m
  | [], m, n => rfl
  | c :: r, m, n => horner_app r m _
theorem dig_nat (n : Nat) : ((UInt8.ofNat (48 + n % 10)).toNat : Int) = 48 + n % 10 := by
  rw [UInt8.toNat_ofNat']; omega
theorem decD_isD : ∀ (f n : Nat), n ≤ f → ∀ c ∈ decD n, isD c = true
  | f, 0, _, c, hc => by rw [decD_zero] at hc; cases hc
  | 0, n + 1, h, _, _ => by omega
  | f + 1, n + 1, h, c, hc => by
    rw [decD_pos (by omega)] at hc
    rcases List.mem_append.1 hc with hc | hc
    · exact decD_isD f ((n + 1) / 10) (by omega) c hc
    · obtain rfl := List.mem_singleton.1 hc
      unfold isD
      rw [dig_nat]
      simp only [Bool.and_eq_true, decide_eq_true_eq]
      omega
theorem decD_val : ∀ (f n : Nat), n ≤ f → horner 0 (decD n) = n
  | f, 0, _ => by rw [decD_zero]; rfl
  | 0, n + 1, h => by omega
  | f + 1, n + 1, h => by
    rw [decD_pos (by omega), horner_app, decD_val f ((n + 1) / 10) (by omega)]
    show 10 * (((n + 1) / 10 : Nat) : Int) + ((UInt8.ofNat (48 + (n + 1) % 10)).toNat : Int) - 48 = _
    rw [dig_nat]; omega
theorem decS_isD (n : Nat) : ∀ c ∈ decS n, isD c = true := by
  unfold decS
  split
  · intro c hc; obtain rfl := List.mem_singleton.1 hc; decide
  · exact decD_isD n n (Nat.le_refl _)
theorem decS_val (n : Nat) : horner 0 (decS n) = n := by
  unfold decS
  split
  · rename_i h; subst h; rfl
  · exact decD_val n n (Nat.le_refl _)
theorem decS_ne (n : Nat) : decS n ≠ [] := by
  unfold decS
  split
  · simp
  · rename_i h; rw [decD_pos h]; simp
structure Co where
  kind : Int
  text : List UInt8
  n : Int
def core (t : Tk) : Co := ⟨t.kind, t.text.data.toList, t.n⟩
def glR : List Co → ByteArray
  | [] => ⟨#[]⟩
  | x :: l => glueF (bs x.text) (glR l)
def okN (x : List UInt8) (y : UInt8) : Prop := (isLD (lastB (bs x)) = true → isLD y = false) ∧ (isLD (lastB (bs x)) = false → y ≠ 61)
structure LexT (c : Co) : Prop where
  ne : c.text ≠ []
  st : ∀ y r, c.text = y :: r → isHash y = false ∧ isSp y = false
  go : ∀ rest, (∀ y r, rest = y :: r → okN c.text y) → tokF (c.text ++ rest) = .tok c.kind c.text.length c.n
def Fine : Bool → List Co → Prop
  | _, [] => True
  | b, c :: l => (b = false → firstB (bs c.text) ≠ 61) ∧ Fine (isLD (lastB (bs c.text))) l
theorem Fine.more {b : Bool} : ∀ {l : List Co}, Fine false l → Fine b l
  | [], _ => trivial
  | c :: l, h => ⟨fun _ => h.1 rfl, h.2⟩
theorem Fine.app : ∀ {l m : List Co} {b : Bool}, Fine b l → Fine false m → Fine b (l ++ m)
  | [], m, b, _, h => h.more
  | c :: l, m, b, h, k => ⟨h.1, h.2.app k⟩
theorem bs_ne {l : List UInt8} (h : l ≠ []) : bs l ≠ ⟨#[]⟩ := by
  rw [ba_ne, bs_list]; exact h
theorem glR_ne {c : Co} {l : List Co} (h : c.text ≠ []) : glR (c :: l) ≠ ⟨#[]⟩ := glue_ne_l (bs_ne h)
theorem glR_first {c : Co} {l : List Co} (h : c.text ≠ []) : firstB (glR (c :: l)) = firstB (bs c.text) := by
  show firstB (glueF _ _) = _
  rw [glue_gap, ba_assoc]; exact first_app_l _ (bs_ne h)
theorem lex_tok {c : Co} (h : LexT c) (p : Nat) (rest : List UInt8) (hr : ∀ y r, rest = y :: r → okN c.text y) : lexL p (c.text ++ rest) = Lx.cons ⟨c.kind, p, bs c.text, c.n⟩ (lexL (p + c.text.length) rest) := by
  obtain ⟨h1, h2, h3⟩ := h
  have h3 := h3 rest hr
  cases hc : c.text with
  | nil => exact absurd hc h1
  | cons y r =>
    obtain ⟨g1, g2⟩ := h2 y r hc
    rw [hc] at h3
    have e := lexL_tok (p := p) g1 g2 (r := r ++ rest) h3
    rw [show y :: r ++ rest = y :: (r ++ rest) from rfl, e]
    congr 2
    · congr 1
      rw [show y :: (r ++ rest) = (y :: r) ++ rest from rfl, List.take_left']
      rfl
    · rw [show y :: (r ++ rest) = (y :: r) ++ rest from rfl, List.drop_left']
      rfl
theorem lex_glR : ∀ (l : List Co) (b : Bool) (p : Nat), (∀ c ∈ l, LexT c) → Fine b l → ∃ ts, lexL p (glR l).data.toList = ⟨ts, none⟩ ∧ ts.map core = l
  | [], b, p, _, _ => ⟨[], rfl, rfl⟩
  | c :: l, b, p, hl, hf => by
    have hc := hl c List.mem_cons_self
    have step : ∀ q, ∃ ts, lexL q (glR l).data.toList = ⟨ts, none⟩ ∧ ts.map core = l := fun q => lex_glR l _ q (fun d hd => hl d (List.mem_cons_of_mem _ hd)) hf.2
    have e : (glR (c :: l)).data.toList = c.text ++ ((gapF (bs c.text) (glR l)).data.toList ++ (glR l).data.toList) := by
      show (glueF _ _).data.toList = _
      rw [glue_gap, ba_app, ba_app, bs_list, List.append_assoc]
    have hg : gapF (bs c.text) (glR l) = ⟨#[]⟩ ∨ (gapF (bs c.text) (glR l) = ⟨#[32]⟩) := by
      unfold gapF; split; exact .inl rfl; exact .inr rfl
    have fin : ∀ ts : List Tk, ts.map core = l → (⟨c.kind, p, bs c.text, c.n⟩ :: ts : List Tk).map core = c :: l := fun ts h => by
      rw [List.map_cons, h]
      rfl
    rcases hg with hg | hg
    · obtain ⟨ts, h1, h2⟩ := step (p + c.text.length)
      refine ⟨⟨c.kind, p, bs c.text, c.n⟩ :: ts, ?_, fin ts h2⟩
      rw [e, hg]
      rw [show ((⟨#[]⟩ : ByteArray).data.toList ++ (glR l).data.toList) = (glR l).data.toList from rfl]
      rw [lex_tok hc p _ fun y r hy => ?_, h1]
      · rfl
      · cases l with
        | nil => cases hy
        | cons d l =>
          have hd := (hl d (by simp)).ne
          have hfy : firstB (glR (d :: l)) = y := by unfold firstB; rw [hy]; rfl
          rw [glR_first hd] at hfy
          refine ⟨fun hx => ?_, fun hx => ?_⟩
          · unfold gapF at hg
            split at hg
            · rename_i hh
              rcases hh with hh | hh | hh | hh
              · exact absurd hh (bs_ne hc.ne)
              · exact absurd hh (glR_ne hd)
              · rw [hx] at hh; cases hh
              · rw [glR_first hd, hfy] at hh; exact hh
            · exact absurd hg (by decide)
          · rw [← hfy]; exact hf.2.1 hx
    · obtain ⟨ts, h1, h2⟩ := step (p + c.text.length + 1)
      refine ⟨⟨c.kind, p, bs c.text, c.n⟩ :: ts, ?_, fin ts h2⟩
      rw [e, hg]
      rw [show ((⟨#[32]⟩ : ByteArray).data.toList ++ (glR l).data.toList) = 32 :: (glR l).data.toList from rfl]
      rw [lex_tok hc p _ fun y r hy => ?_, lexL_sp (by decide) (by decide), h1]
      · rfl
      · cases hy
        exact ⟨fun _ => by decide, fun _ => by decide⟩
theorem glR_app : ∀ (l m : List Co), (∀ c ∈ l, c.text ≠ []) → (∀ c ∈ m, c.text ≠ []) → glR (l ++ m) = glueF (glR l) (glR m)
  | [], m, _, _ => by show glR m = glueF ⟨#[]⟩ _; unfold glueF; rw [if_pos rfl, nil_ba]
  | [c], m, _, _ => by
    show glueF (bs c.text) (glR m) = glueF (glueF (bs c.text) ⟨#[]⟩) (glR m)
    rw [show glueF (bs c.text) ⟨#[]⟩ = bs c.text by rw [glue_gap]; unfold gapF; rw [if_pos (.inr (.inl rfl)), ba_nil, ba_nil]]
  | c :: d :: l, m, h, k => by
    show glueF (bs c.text) (glR (d :: l ++ m)) = glueF (glueF (bs c.text) (glR (d :: l))) (glR m)
    rw [glR_app (d :: l) m (fun x hx => h x (List.mem_cons_of_mem _ hx)) k, glue_assoc _ _ _ (glR_ne (h d (by simp)))]
theorem span_stopped {q : UInt8 → Bool} : ∀ (r rest : List UInt8), (∀ c ∈ r, q c = true) → (∀ y t, rest = y :: t → q y = false) → spanN q (r ++ rest) = r.length
  | [], [], _, _ => rfl
  | [], y :: t, _, h => by
    show spanN q (y :: t) = 0
    unfold spanN; rw [h y t rfl]
  | c :: r, rest, h, k => by
    show spanN q (c :: (r ++ rest)) = _
    unfold spanN
    rw [h c List.mem_cons_self]
    show spanN q (r ++ rest) + 1 = _
    rw [span_stopped r rest (fun x hx => h x (List.mem_cons_of_mem _ hx)) k]; rfl
theorem lastB_mem {l : List UInt8} (h : l ≠ []) : lastB (bs l) ∈ l := by
  unfold lastB
  rw [bs_list, bs_size]
  have hl : l.length - 1 < l.length := by have := List.length_pos_iff.2 h; omega
  rw [List.getD_eq_getElem?_getD, List.getElem?_eq_getElem hl]
  exact List.getElem_mem hl
theorem isL_clean {y : UInt8} (h : isLD y = true) : isHash y = false ∧ isSp y = false := by
  have : ∀ c : Fin 256, isLD (UInt8.ofNat c.val) = true → isHash (UInt8.ofNat c.val) = false ∧ isSp (UInt8.ofNat c.val) = false := by decide +kernel
  have h2 := this ⟨y.toNat, y.toNat_lt⟩
  simp only [UInt8.ofNat_toNat] at h2
  exact h2 h
theorem lexT_word (c : UInt8) (r : List UInt8) (h1 : isL c = true) (h2 : ∀ x ∈ c :: r, isLD x = true) (h3 : r.length + 1 ≤ 10) : LexT ⟨1, c :: r, 0⟩ where
  ne := by simp
  st := fun y t e => by cases e; exact isL_clean (h2 _ List.mem_cons_self)
  go := fun rest hr => by
    show tokF (c :: (r ++ rest)) = .tok 1 (r.length + 1) 0
    rw [tokF]
    have hs : spanN isLD (r ++ rest) = r.length := span_stopped r rest (fun x hx => h2 x (List.mem_cons_of_mem _ hx)) fun y t e => (hr y t e).1 (h2 _ (lastB_mem (by simp)))
    rw [h1]
    simp only
    rw [hs, if_neg (by omega)]
theorem isD_LD {c : UInt8} (h : isD c = true) : isLD c = true ∧ isL c = false := by
  refine ⟨by unfold isLD; rw [h, Bool.or_true], ?_⟩
  have := dig_rng h
  unfold isL
  rw [decide_eq_false (by omega)]; rfl
theorem lexT_num (c : UInt8) (r : List UInt8) (h : ∀ x ∈ c :: r, isD x = true) (hv : horner 0 (c :: r) ≤ 2147483647) : LexT ⟨2, c :: r, horner 0 (c :: r)⟩ where
  ne := by simp
  st := fun y t e => by cases e; exact isL_clean (isD_LD (h _ List.mem_cons_self)).1
  go := fun rest hr => by
    show tokF (c :: (r ++ rest)) = .tok 2 (r.length + 1) _
    rw [tokF]
    have hs : spanN isD (r ++ rest) = r.length := span_stopped r rest (fun x hx => h x (List.mem_cons_of_mem _ hx)) fun y t e => by
      have := (hr y t e).1 (isD_LD (h _ (lastB_mem (by simp)))).1
      unfold isLD at this
      simp only [Bool.or_eq_false_iff] at this
      exact this.2
    have hc := isD_LD (h c List.mem_cons_self)
    have hvf := valF_horner (c :: r) 0 (by omega) (by omega) h
    rw [if_neg (by omega)] at hvf
    have hge := horner_ge (c :: r) 0 (by omega) h
    rw [hc.2, h c List.mem_cons_self]
    simp only
    rw [hs, List.take_left', hvf, if_neg (by omega)]
    rfl
theorem twos_snd {c y : UInt8} (h : hasF twos (bs [c, y]) = true) : y = 61 ∨ (c = 124 ∧ y = 124) ∨ (c = 38 ∧ y = 38) := by
  unfold hasF twos at h
  simp only [List.any_cons, List.any_nil, Bool.or_eq_true, decide_eq_true_eq, Bool.or_false] at h
  rcases h with h | h | h | h | h | h <;> (have := bs_inj h; simp at this; simp [← this.1, ← this.2])
theorem lexT_sym1 (c : UInt8) (hc : c = 40 ∨ c = 41 ∨ c = 33 ∨ c = 60 ∨ c = 62 ∨ c = 45) : LexT ⟨3, [c], 0⟩ where
  ne := by simp
  st := fun y t e => by cases e; rcases hc with rfl | rfl | rfl | rfl | rfl | rfl <;> decide
  go := fun rest hr => by
    show tokF (c :: rest) = .tok 3 1 0
    have hld : isLD (lastB (bs [c])) = false := by rcases hc with rfl | rfl | rfl | rfl | rfl | rfl <;> decide
    have h1 : isL c = false ∧ isD c = false ∧ hasF ones (bs [c]) = true := by rcases hc with rfl | rfl | rfl | rfl | rfl | rfl <;> decide
    have h2 : hasF twos (bs ((c :: rest).take 2)) = false := by
      cases rest with
      | nil => rcases hc with rfl | rfl | rfl | rfl | rfl | rfl <;> decide
      | cons y t =>
        have hy := (hr y t rfl).2 hld
        show hasF twos (bs [c, y]) = false
        cases hq : hasF twos (bs [c, y]) with
        | false => rfl
        | true =>
          rcases twos_snd hq with h | ⟨h, -⟩ | ⟨h, -⟩
          · exact absurd h hy
          · subst h; exact absurd hc (by decide)
          · subst h; exact absurd hc (by decide)
    rw [tokF]
    rw [h1.1, h1.2.1, h2, h1.2.2]
theorem lexT_sym2 (c d : UInt8) (hc : (c = 124 ∧ d = 124) ∨ (c = 38 ∧ d = 38) ∨ (c = 61 ∧ d = 61)) : LexT ⟨3, [c, d], 0⟩ where
  ne := by simp
  st := fun y t e => by cases e; rcases hc with ⟨rfl, rfl⟩ | ⟨rfl, rfl⟩ | ⟨rfl, rfl⟩ <;> decide
  go := fun rest hr => by
    show tokF (c :: d :: rest) = .tok 3 2 0
    have h1 : isL c = false ∧ isD c = false ∧ hasF twos (bs [c, d]) = true := by rcases hc with ⟨rfl, rfl⟩ | ⟨rfl, rfl⟩ | ⟨rfl, rfl⟩ <;> decide
    rw [tokF]
    rw [h1.1, h1.2.1]
    simp only
    rw [show (c :: d :: rest).take 2 = [c, d] from rfl, h1.2.2]
end Go.Proofs.YtndflafkigldmaaGreatDoor.Vm
namespace Go.Proofs.YtndflafkigldmaaGreatDoor.Vm
open Go.RowKit Go.Shelf
set_option linter.unusedSimpArgs false
set_option linter.unusedVariables false
set_option maxRecDepth 100000
def wC (l : List UInt8) : Co := ⟨1, l, 0⟩
def sC (l : List UInt8) : Co := ⟨3, l, 0⟩
def nC (n : Nat) : Co := ⟨2, decS n, n⟩
def opC (b : Int) : Co := if b = 0 then sC [60] else if b = 1 then sC [61, 61] else sC [62]
def numC (n : Int) : List Co := if n < 0 then [sC [45], nC n.natAbs] else [nC n.natAbs]
def parC (p lv : Int) (fu : Bool) (b : List Co) : List Co := if p < lv then sC [40] :: b ++ [sC [41]] else if fu = false then b else if p < 5 then sC [40] :: b ++ [sC [41]] else b
def joinC (sep : Co) (e : Co) : List (List Co) → List Co
  | [] => [e]
  | x :: l => l.foldl (fun a y => a ++ sep :: y) x
def sepC (k : Int) : Co := if k = 4 then sC [124, 124] else sC [38, 38]
def empC (k : Int) : Co := if k = 4 then wC [102, 97, 108, 115, 101] else wC [116, 114, 117, 101]
def nextC : Co := wC [110, 101, 120, 116]
def alwaysC : Co := wC [97, 108, 119, 97, 121, 115]
def evC : Co := wC [101, 118, 101, 110, 116, 117, 97, 108, 108, 121]
def untilC : Co := wC [117, 110, 116, 105, 108]
def unC (k : Int) : Co := if k = 2 then sC [33] else if k = 5 then nextC else if k = 7 then alwaysC else evC
def bodyC (k a b n : Int) (s4 s3 sj : List (List Co)) : List Co :=
  if k = 1 then wC (118 :: decS a.natAbs) :: opC b :: numC n
  else if k = 2 ∨ k = 5 ∨ k = 7 ∨ k = 8 then unC k :: s4.getD 0 []
  else if k = 6 then s4.getD 0 [] ++ untilC :: s3.getD 1 []
  else joinC (sepC k) (empC k) sj
mutual
def toksF : Fm → Int → Bool → List Co
  | .mk k a b n l, lv, fu => parC (precF (.mk k a b n l)) lv fu (bodyC k a b n (toksFs l 4 fu) (toksFs l 3 fu) (toksFs l (precF (.mk k a b n l) + 1) fu))
def toksFs : List Fm → Int → Bool → List (List Co)
  | [], _, _ => []
  | f :: l, lv, fu => toksF f lv fu :: toksFs l lv fu
end
theorem toksF_mk (k a b n : Int) (l : List Fm) (lv : Int) (fu : Bool) : toksF (.mk k a b n l) lv fu = parC (precF (.mk k a b n l)) lv fu (bodyC k a b n (toksFs l 4 fu) (toksFs l 3 fu) (toksFs l (precF (.mk k a b n l) + 1) fu)) := by
  rw [toksF]
theorem toksFs_map (l : List Fm) (lv : Int) (fu : Bool) : toksFs l lv fu = l.map fun f => toksF f lv fu := by
  induction l with
  | nil => rw [toksFs]; rfl
  | cons f l ih => rw [toksFs, ih]; rfl
structure Toks (l : List Co) : Prop where
  lex : ∀ c ∈ l, LexT c
  fine : Fine false l
  ne : l ≠ []
theorem Toks.nes {l : List Co} (h : Toks l) : ∀ c ∈ l, c.text ≠ [] := fun c hc => (h.lex c hc).ne
theorem Toks.app {l m : List Co} (h : Toks l) (k : Toks m) : Toks (l ++ m) := ⟨fun c hc => (List.mem_append.1 hc).elim (h.lex c) (k.lex c), h.fine.app k.fine, fun e => h.ne (List.append_eq_nil_iff.1 e).1⟩
theorem toks_one {c : Co} (h : LexT c) (k : firstB (bs c.text) ≠ 61) : Toks [c] := ⟨fun d hd => by rw [List.mem_singleton.1 hd]; exact h, ⟨fun _ => k, trivial⟩, by simp⟩
theorem Toks.cons {c : Co} {m : List Co} (h : LexT c) (k : firstB (bs c.text) ≠ 61) (hm : Toks m) : Toks (c :: m) := (toks_one h k).app hm
theorem toks_lp : Toks [sC [40]] := toks_one (lexT_sym1 40 (by decide)) (by decide)
theorem toks_rp : Toks [sC [41]] := toks_one (lexT_sym1 41 (by decide)) (by decide)
theorem toks_par {p lv : Int} {fu : Bool} {b : List Co} (h : Toks b) : Toks (parC p lv fu b) := by
  unfold parC
  have := (toks_lp.app h).app toks_rp
  repeat' split
  all_goals first | exact h | exact this
theorem glR_one (c : Co) : glR [c] = bs c.text := by
  show glueF (bs c.text) ⟨#[]⟩ = _
  rw [glue_gap]; unfold gapF; rw [if_pos (.inr (.inl rfl)), ba_nil, ba_nil]
theorem glR_par {p lv : Int} {fu : Bool} {b : List Co} (h : Toks b) : glR (parC p lv fu b) = parF p lv fu (glR b) := by
  have key : glR (sC [40] :: b ++ [sC [41]]) = ⟨#[40]⟩ ++ glR b ++ ⟨#[41]⟩ := by
    rw [glR_app (sC [40] :: b) [sC [41]] (toks_lp.app h).nes toks_rp.nes, glR_one, show bs (sC [41]).text = bs [41] from rfl, glue_sym_r _ (bs [41]) (by decide)]
    show glueF (bs [40]) (glR b) ++ bs [41] = _
    rw [glue_sym_l (bs [40]) _ (by decide)]; rfl
  unfold parC parF
  repeat' split
  all_goals first | rfl | exact key
theorem decS_ld (n : Nat) : ∀ c ∈ decS n, isLD c = true := fun c hc => (isD_LD (decS_isD n c hc)).1
theorem lexT_nC (n : Nat) (h : n ≤ 2147483647) : LexT (nC n) := by
  unfold nC
  have hv := decS_val n
  cases hd : decS n with
  | nil => exact absurd hd (by unfold decS; split; simp; rename_i h; rw [decD_pos h]; simp)
  | cons c r =>
    rw [hd] at hv
    have := lexT_num c r (fun x hx => decS_isD n x (hd ▸ hx)) (by rw [hv]; omega)
    rw [hv] at this
    exact this
theorem decS_first (n : Nat) : firstB (bs (decS n)) ≠ 61 := by
  have hne : decS n ≠ [] := by unfold decS; split; simp; rename_i h; rw [decD_pos h]; simp
  cases hd : decS n with
  | nil => exact absurd hd hne
  | cons c r =>
    intro e
    have hc := dig_rng (decS_isD n c (by rw [hd]; exact List.mem_cons_self))
    have : c = 61 := e
    subst this
    exact absurd hc (by decide)
theorem toks_num (n : Int) (h : -2147483647 ≤ n ∧ n ≤ 2147483647) : Toks (numC n) := by
  have hn : Toks [nC n.natAbs] := toks_one (lexT_nC _ (by omega)) (decS_first _)
  unfold numC
  split
  · exact Toks.cons (lexT_sym1 45 (by decide)) (by decide) hn
  · exact hn
theorem glR_num (n : Int) (h : -2147483647 ≤ n ∧ n ≤ 2147483647) : glR (numC n) = bs (decZ n) := by
  unfold numC decZ
  split
  · rename_i hn
    show glueF (bs [45]) (glR [nC n.natAbs]) = _
    rw [glR_one, glue_sym_l (bs [45]) _ (by decide), bs_app]
    show bs (45 :: decS n.natAbs) = _
    unfold decS
    rw [if_neg (by omega)]
  · rw [glR_one]; rfl
theorem lastB_vd (n : Nat) : isLD (lastB (bs (118 :: decS n))) = true := by
  have : ∀ x ∈ 118 :: decS n, isLD x = true := fun x hx => by
    rcases List.mem_cons.1 hx with rfl | hx
    · decide
    · exact decS_ld n x hx
  exact this _ (lastB_mem (by simp))
theorem lexT_op (b : Int) : LexT (opC b) := by
  unfold opC
  repeat' split
  · exact lexT_sym1 60 (by decide)
  · exact lexT_sym2 61 61 (by decide)
  · exact lexT_sym1 62 (by decide)
theorem opC_text (b : Int) : bs (opC b).text = opB b := by
  unfold opC opB
  repeat' split
  all_goals rfl
theorem toks_var (a b n : Int) (h1 : 0 ≤ a ∧ a ≤ 15) (h3 : -2147483647 ≤ n ∧ n ≤ 2147483647) : Toks (wC (118 :: decS a.natAbs) :: opC b :: numC n) := by
  have hn := toks_num n h3
  have hl : (decS a.natAbs).length ≤ 3 := by
    unfold decS
    split
    · simp
    · exact decD_len 3 _ (by omega)
  refine ⟨fun c hc => ?_, ⟨fun _ => (by decide : (118 : UInt8) ≠ 61), ⟨fun hb => ?_, hn.fine.more⟩⟩, by simp⟩
  · rcases List.mem_cons.1 hc with rfl | hc
    · refine lexT_word 118 _ (by decide) (fun x hx => ?_) (by omega)
      rcases List.mem_cons.1 hx with rfl | hx
      · decide
      · exact decS_ld _ x hx
    · rcases List.mem_cons.1 hc with rfl | hc
      · exact lexT_op b
      · exact hn.lex c hc
  · exact absurd (lastB_vd a.natAbs) (by rw [show (wC (118 :: decS a.natAbs)).text = 118 :: decS a.natAbs from rfl] at hb; rw [hb]; decide)
theorem glR_var (a b n : Int) (h1 : 0 ≤ a ∧ a ≤ 15) (h3 : -2147483647 ≤ n ∧ n ≤ 2147483647) : glR (wC (118 :: decS a.natAbs) :: opC b :: numC n) = ⟨#[118]⟩ ++ bs (decZ a) ++ opB b ++ bs (decZ n) := by
  show glueF (bs (118 :: decS a.natAbs)) (glueF (bs (opC b).text) (glR (numC n))) = _
  rw [opC_text, glR_num n h3]
  obtain ⟨o1, o2, o3⟩ := opB_facts b
  rw [glue_sym_l (opB b) _ o2, glue_sym_r _ _ (by rw [first_app_l _ o3]; exact o1)]
  rw [show (⟨#[118]⟩ : ByteArray) = bs [118] from rfl, bs_app, show decZ a = decS a.natAbs by unfold decZ; rw [if_neg (by omega)], ba_assoc (bs _)]
  rfl
end Go.Proofs.YtndflafkigldmaaGreatDoor.Vm
namespace Go.Proofs.YtndflafkigldmaaGreatDoor.Vm
open Go.RowKit Go.Shelf
set_option linter.unusedSimpArgs false
set_option linter.unusedVariables false
set_option maxRecDepth 100000
theorem joinC_toks (sep e : Co) (hs : LexT sep) (hsf : firstB (bs sep.text) ≠ 61) (he : LexT e) (hef : firstB (bs e.text) ≠ 61) : ∀ l : List (List Co), (∀ x ∈ l, Toks x) → Toks (joinC sep e l)
  | [], _ => toks_one he hef
  | x :: l, h => by
    unfold joinC
    suffices ∀ (l : List (List Co)) (a : List Co), Toks a → (∀ y ∈ l, Toks y) → Toks (l.foldl (fun a y => a ++ sep :: y) a) from this l x (h x List.mem_cons_self) fun y hy => h y (List.mem_cons_of_mem _ hy)
    intro l
    induction l with
    | nil => exact fun a h _ => h
    | cons y l ih => exact fun a ha hl => ih _ (ha.app (Toks.cons hs hsf (hl y List.mem_cons_self))) fun z hz => hl z (List.mem_cons_of_mem _ hz)
theorem joinC_glR (sep e : Co) (hs : LexT sep) (h1 : isLD (firstB (bs sep.text)) = false) (h2 : isLD (lastB (bs sep.text)) = false) (hsf : firstB (bs sep.text) ≠ 61) : ∀ l : List (List Co), (∀ x ∈ l, Toks x) → glR (joinC sep e l) = joinB (bs sep.text) (bs e.text) (l.map glR)
  | [], _ => glR_one e
  | x :: l, h => by
    unfold joinC joinB
    simp only [List.map_cons]
    suffices ∀ (l : List (List Co)) (a : List Co), Toks a → (∀ y ∈ l, Toks y) → glR (l.foldl (fun a y => a ++ sep :: y) a) = (l.map glR).foldl (fun a y => a ++ bs sep.text ++ y) (glR a) from this l x (h x List.mem_cons_self) fun y hy => h y (List.mem_cons_of_mem _ hy)
    intro l
    induction l with
    | nil => exact fun a h _ => rfl
    | cons y l ih =>
      intro a ha hl
      have hy := hl y List.mem_cons_self
      rw [List.foldl_cons, ih _ (ha.app (Toks.cons hs hsf hy)) fun z hz => hl z (List.mem_cons_of_mem _ hz), List.map_cons, List.foldl_cons]
      congr 1
      rw [glR_app a (sep :: y) ha.nes (Toks.cons hs hsf hy).nes]
      show glueF (glR a) (glueF (bs sep.text) (glR y)) = _
      rw [glue_sym_l _ _ h2, glue_sym_r _ _ (by rw [first_app_l _ (bs_ne hs.ne)]; exact h1), ba_assoc]
theorem lexT_un (k : Int) (hk : k = 2 ∨ k = 5 ∨ k = 7 ∨ k = 8) : LexT (unC k) ∧ firstB (bs (unC k).text) ≠ 61 := by
  rcases hk with rfl | rfl | rfl | rfl
  · exact ⟨lexT_sym1 33 (by decide), by decide⟩
  · exact ⟨lexT_word 110 _ (by decide) (by decide) (by decide), by decide⟩
  · exact ⟨lexT_word 97 _ (by decide) (by decide) (by decide), by decide⟩
  · exact ⟨lexT_word 101 _ (by decide) (by decide) (by decide), by decide⟩
theorem lexT_until : LexT untilC ∧ firstB (bs untilC.text) ≠ 61 := ⟨lexT_word 117 _ (by decide) (by decide) (by decide), by decide⟩
theorem lexT_emp (k : Int) : LexT (empC k) ∧ firstB (bs (empC k).text) ≠ 61 := by
  unfold empC
  split
  · exact ⟨lexT_word 102 _ (by decide) (by decide) (by decide), by decide⟩
  · exact ⟨lexT_word 116 _ (by decide) (by decide) (by decide), by decide⟩
theorem lexT_sep (k : Int) : LexT (sepC k) ∧ firstB (bs (sepC k).text) ≠ 61 ∧ isLD (firstB (bs (sepC k).text)) = false ∧ isLD (lastB (bs (sepC k).text)) = false := by
  unfold sepC
  split
  · exact ⟨lexT_sym2 124 124 (by decide), by decide, by decide, by decide⟩
  · exact ⟨lexT_sym2 38 38 (by decide), by decide, by decide, by decide⟩
theorem sepC_text (k : Int) : bs (sepC k).text = sepB k := by
  unfold sepC sepB
  split <;> rfl
theorem empC_text (k : Int) : bs (empC k).text = empB k := by
  unfold empC empB
  split <;> rfl
theorem toks_gf {d : Nat} {f : Fm} (h : Gf d f) : ∀ lv fu, Toks (toksF f lv fu) ∧ glR (toksF f lv fu) = showF f lv fu := by
  induction h with
  | var h1 h2 h3 =>
    rename_i d a b n
    intro lv fu
    rw [toksF_mk, showF_mk]
    have ht : Toks (bodyC 1 a b n (toksFs [] 4 fu) (toksFs [] 3 fu) (toksFs [] (precF (.mk 1 a b n []) + 1) fu)) := toks_var a b n h1 h3
    exact ⟨toks_par ht, (glR_par ht).trans (congrArg _ (glR_var a b n h1 h3))⟩
  | cst b =>
    rename_i d
    intro lv fu
    have key : ∀ k, k = 3 ∨ k = 4 → Toks (toksF (.mk k 0 0 0 []) lv fu) ∧ glR (toksF (.mk k 0 0 0 []) lv fu) = showF (.mk k 0 0 0 []) lv fu := fun k hk => by
      rw [toksF_mk, showF_mk, toksFs_map, toksFs_map, toksFs_map, showsF_map, showsF_map, showsF_map]
      have ht : Toks [empC k] := toks_one (lexT_emp k).1 (lexT_emp k).2
      rcases hk with rfl | rfl
      · exact ⟨toks_par ht, (glR_par ht).trans (congrArg _ ((glR_one _).trans (empC_text 3)))⟩
      · exact ⟨toks_par ht, (glR_par ht).trans (congrArg _ ((glR_one _).trans (empC_text 4)))⟩
    cases b
    · exact key 4 (.inr rfl)
    · exact key 3 (.inl rfl)
  | un hk h ih =>
    rename_i d k f
    intro lv fu
    rw [toksF_mk, showF_mk, toksFs_map, toksFs_map, toksFs_map, showsF_map, showsF_map, showsF_map]
    obtain ⟨i1, i2⟩ := ih 4 fu
    have hu := lexT_un k hk
    have ht : Toks (unC k :: toksF f 4 fu) := Toks.cons hu.1 hu.2 i1
    have hg : glR (unC k :: toksF f 4 fu) = glueF (bs (unC k).text) (showF f 4 fu) := by
      show glueF _ (glR _) = _
      rw [i2]
    rcases hk with rfl | rfl | rfl | rfl
    · exact ⟨toks_par ht, (glR_par ht).trans (congrArg _ (hg.trans (glue_sym_l (bs [33]) _ (by decide))))⟩
    · exact ⟨toks_par ht, (glR_par ht).trans (congrArg _ hg)⟩
    · exact ⟨toks_par ht, (glR_par ht).trans (congrArg _ hg)⟩
    · exact ⟨toks_par ht, (glR_par ht).trans (congrArg _ hg)⟩
  | til h1 h2 ih1 ih2 =>
    rename_i d f g
    intro lv fu
    rw [toksF_mk, showF_mk, toksFs_map, toksFs_map, toksFs_map, showsF_map, showsF_map, showsF_map]
    obtain ⟨i1, i2⟩ := ih1 4 fu
    obtain ⟨j1, j2⟩ := ih2 3 fu
    have hr : Toks (untilC :: toksF g 3 fu) := Toks.cons lexT_until.1 lexT_until.2 j1
    have ht := i1.app hr
    have hg : glR (toksF f 4 fu ++ untilC :: toksF g 3 fu) = glueF (glueF (showF f 4 fu) untilB) (showF g 3 fu) := by
      rw [glR_app _ _ i1.nes hr.nes, i2]
      show glueF _ (glueF (bs untilC.text) (glR _)) = _
      rw [j2, glue_assoc _ untilB _ (by decide)]; rfl
    exact ⟨toks_par ht, (glR_par ht).trans (congrArg _ hg)⟩
  | jn hk hl h ih =>
    rename_i d k l
    intro lv fu
    rw [toksF_mk, showF_mk, toksFs_map, toksFs_map, toksFs_map, showsF_map, showsF_map, showsF_map]
    generalize precF (.mk k 0 0 0 l) = p
    have hs := lexT_sep k
    have he := lexT_emp k
    have hall : ∀ x ∈ l.map (fun f => toksF f (p + 1) fu), Toks x := fun x hx => by
      obtain ⟨f, hf, rfl⟩ := List.mem_map.1 hx
      exact (ih f hf _ _).1
    have hm : (l.map fun f => toksF f (p + 1) fu).map glR = l.map fun f => showF f (p + 1) fu := by
      rw [List.map_map]
      exact List.map_congr_left fun f hf => (ih f hf _ _).2
    have ht := joinC_toks (sepC k) (empC k) hs.1 hs.2.1 he.1 he.2 _ hall
    have hg := joinC_glR (sepC k) (empC k) hs.1 hs.2.2.1 hs.2.2.2 hs.2.1 _ hall
    rw [hm, sepC_text, empC_text] at hg
    rcases hk with rfl | rfl
    · exact ⟨toks_par ht, (glR_par ht).trans (congrArg _ hg)⟩
    · exact ⟨toks_par ht, (glR_par ht).trans (congrArg _ hg)⟩
end Go.Proofs.YtndflafkigldmaaGreatDoor.Vm
namespace Go.Proofs.YtndflafkigldmaaGreatDoor.Vm
open Go.RowKit Go.Shelf
set_option linter.unusedSimpArgs false
set_option linter.unusedVariables false
set_option maxRecDepth 100000
def Beg (q : List Co) (ts r : List Tk) : Prop := ∃ m, ts = m ++ r ∧ m.map core = q
theorem Beg.nil {ts r : List Tk} (h : Beg [] ts r) : ts = r := by
  obtain ⟨m, rfl, h⟩ := h
  rw [List.map_eq_nil_iff] at h
  subst h; rfl
theorem Beg.cons {c : Co} {q : List Co} {ts r : List Tk} (h : Beg (c :: q) ts r) : core (hd ts) = c ∧ Beg q ts.tail r ∧ ts ≠ [] := by
  obtain ⟨m, rfl, h⟩ := h
  cases m with
  | nil => cases h
  | cons t m =>
    rw [List.map_cons, List.cons.injEq] at h
    exact ⟨h.1, ⟨m, rfl, h.2⟩, by simp⟩
theorem Beg.app {p q : List Co} {ts r : List Tk} (h : Beg (p ++ q) ts r) : ∃ s, Beg p ts s ∧ Beg q s r := by
  obtain ⟨m, rfl, h⟩ := h
  rw [List.map_eq_append_iff] at h
  obtain ⟨a, b, rfl, h1, h2⟩ := h
  exact ⟨b ++ r, ⟨a, List.append_assoc _ _ _, h1⟩, ⟨b, rfl, h2⟩⟩
theorem Beg.len {q : List Co} {ts r : List Tk} (h : Beg q ts r) : ts.length = q.length + r.length := by
  obtain ⟨m, rfl, h⟩ := h
  rw [← h]; simp
theorem hd_text {ts : List Tk} {c : Co} (h : core (hd ts) = c) : (hd ts).text = bs c.text := by
  subst h
  exact ba_list (by rw [bs_list]; rfl)
theorem hd_kind {ts : List Tk} {c : Co} (h : core (hd ts) = c) : (hd ts).kind = c.kind ∧ (hd ts).n = c.n := by
  subst h; exact ⟨rfl, rfl⟩
theorem isT_hd {ts : List Tk} {c : Co} (h : core (hd ts) = c) (s : ByteArray) : isT s ts = (decide (bs c.text = s) && (!decide (c.kind = 2) && !decide (c.kind = 0))) := by
  unfold isT
  rw [hd_text h, (hd_kind h).1]
def lowP : Nat → Option Pr
  | 0 => none
  | d + 1 => some (pr d)
theorem pr_low (D : Nat) : pr D = prG (lowP D) := by cases D <;> rfl
def opAt (D : Nat) : Nat → List Tk → Ps
  | 1 => (pr D).fo
  | 2 => liF (pr D).ch 3 kAnd
  | 3 => (pr D).ch
  | _ => (pr D).un
def St : Nat → List Tk → Prop
  | 1, r => (isT kUntil r = false ∧ isT kAnd r = false) ∧ isT kOr r = false
  | 2, r => isT kUntil r = false ∧ isT kAnd r = false
  | 3, r => isT kUntil r = false
  | _, _ => True
def PAt (D lv : Nat) (b : List Co) (f : Fm) : Prop := ∀ ts r, Beg b ts r → St lv r → opAt D lv ts = .ok f r
theorem liF_one {op : List Tk → Ps} {k : Int} {s : ByteArray} {ts r : List Tk} {f : Fm} (h : op ts = .ok f r) (hs : isT s r = false) : liF op k s ts = .ok f r := by
  unfold liF
  rw [h]
  simp only
  have : liGo op s r.length [f] r = .ok [f] r := by
    cases hl : r.length with
    | zero => rfl
    | succ n => rw [liGo, hs]; rfl
  rw [this]; rfl
theorem lift3 {D : Nat} {b : List Co} {f : Fm} (h : PAt D 4 b f) : PAt D 3 b f := fun ts r hb hs => by
  have h := h ts r hb trivial
  have hs : isT kUntil r = false := hs
  show (pr D).ch ts = _
  have h : (pr D).un ts = .ok f r := h
  rw [pr_low] at h ⊢
  show chG (unG _) _ ts = _
  have h : unG (lowP D) ts = .ok f r := h
  unfold chG
  rw [h]
  simp only
  rw [hs]; rfl
theorem lift2 {D : Nat} {b : List Co} {f : Fm} (h : PAt D 3 b f) : PAt D 2 b f := fun ts r hb hs => liF_one (h ts r hb hs.1) hs.2
theorem fo_eq (D : Nat) : (pr D).fo = liF (liF (pr D).ch 3 kAnd) 4 kOr := by rw [pr_low]; rfl
theorem lift1 {D : Nat} {b : List Co} {f : Fm} (h : PAt D 2 b f) : PAt D 1 b f := fun ts r hb hs => by
  show (pr D).fo ts = _
  rw [fo_eq]
  exact liF_one (h ts r hb hs.1) hs.2
theorem lift {D : Nat} {b : List Co} {f : Fm} : ∀ {m lv : Nat}, PAt D m b f → 1 ≤ lv → lv ≤ m → m ≤ 4 → PAt D lv b f := fun {m lv} h h1 h2 h3 => by
  have hm : m = 1 ∨ m = 2 ∨ m = 3 ∨ m = 4 := by omega
  rcases hm with rfl | rfl | rfl | rfl
  · obtain rfl : lv = 1 := by omega
    exact h
  · rcases (show lv = 1 ∨ lv = 2 by omega) with rfl | rfl
    · exact lift1 h
    · exact h
  · rcases (show lv = 1 ∨ lv = 2 ∨ lv = 3 by omega) with rfl | rfl | rfl
    · exact lift1 (lift2 h)
    · exact lift2 h
    · exact h
  · rcases (show lv = 1 ∨ lv = 2 ∨ lv = 3 ∨ lv = 4 by omega) with rfl | rfl | rfl | rfl
    · exact lift1 (lift2 (lift3 h))
    · exact lift2 (lift3 h)
    · exact lift3 h
    · exact h
theorem un_par {D : Nat} {b : List Co} {f : Fm} (h : PAt D 1 b f) : PAt (D + 1) 4 (sC [40] :: b ++ [sC [41]]) f := fun ts r hb _ => by
  obtain ⟨c1, hb, -⟩ := Beg.cons (q := b ++ [sC [41]]) hb
  obtain ⟨s, b1, b2⟩ := hb.app
  obtain ⟨c2, b3, -⟩ := b2.cons
  have hr := b3.nil
  show unG (some (pr D)) ts = _
  unfold unG
  rw [hd_text c1]
  rw [show unKind (bs (sC [40]).text) = none by decide]
  simp only
  rw [isT_hd c1, isT_hd c1, isT_hd c1]
  rw [if_neg (by decide), if_pos (by decide)]
  have hst : St 1 s := ⟨⟨by rw [isT_hd c2]; decide, by rw [isT_hd c2]; decide⟩, by rw [isT_hd c2]; decide⟩
  have := h ts.tail s b1 hst
  rw [show (pr D).fo ts.tail = .ok f s from this]
  simp only
  rw [isT_hd c2, if_pos (by decide), hr]
theorem wrap {D m : Nat} {p : Int} {b : List Co} {f : Fm} (hm : 1 ≤ m ∧ m ≤ 4) (hp : p = m ∨ (m = 4 ∧ 4 ≤ p)) (h : ∀ D', D ≤ D' → PAt D' m b f) (lv : Nat) (h1 : 1 ≤ lv) (h2 : lv ≤ 4) (fu : Bool) : PAt (D + 1) lv (parC p lv fu b) f := by
  have hpar : PAt (D + 1) lv (sC [40] :: b ++ [sC [41]]) f := lift (un_par (lift (h D (Nat.le_refl _)) (by omega) hm.1 hm.2)) h1 h2 (by omega)
  unfold parC
  split
  · exact hpar
  · split
    · exact lift (h (D + 1) (by omega)) h1 (by omega) hm.2
    · split
      · exact hpar
      · exact lift (h (D + 1) (by omega)) h1 (by omega) hm.2
theorem joinC_eq (sep e : Co) (x : List Co) (l : List (List Co)) : joinC sep e (x :: l) = x ++ l.flatMap (sep :: ·) := by
  unfold joinC
  suffices ∀ (l : List (List Co)) (a : List Co), l.foldl (fun a y => a ++ sep :: y) a = a ++ l.flatMap (sep :: ·) from this l x
  intro l
  induction l with
  | nil => intro a; simp
  | cons y l ih => intro a; rw [List.foldl_cons, ih, List.flatMap_cons, ← List.append_assoc]
theorem liGo_ok {op : List Tk → Ps} {s : ByteArray} {sep : Co} {Stp : List Tk → Prop} {T : Fm → List Co} (hsep : ∀ ts, core (hd ts) = sep → isT s ts = true ∧ Stp ts) : ∀ (l : List Fm) (acc : List Fm) (n : Nat) (ts r : List Tk), (∀ f ∈ l, ∀ ts r, Beg (T f) ts r → Stp r → op ts = .ok f r) → Beg ((l.map T).flatMap (sep :: ·)) ts r → ts.length ≤ n → isT s r = false → Stp r → liGo op s n acc ts = .ok (acc ++ l) r
  | [], acc, n, ts, r, _, hb, hn, hr, hs => by
    have := hb.nil
    subst this
    rw [List.append_nil]
    cases n with
    | zero => rfl
    | succ n => rw [liGo, hr]; rfl
  | f :: l, acc, n, ts, r, hl, hb, hn, hr, hs => by
    rw [List.map_cons, List.flatMap_cons] at hb
    obtain ⟨c1, hb, hne⟩ := Beg.cons (q := T f ++ (l.map T).flatMap (sep :: ·)) hb
    obtain ⟨s1, b1, b2⟩ := hb.app
    obtain ⟨m, rfl⟩ : ∃ m, n = m + 1 := ⟨n - 1, by have := List.length_pos_iff.2 hne; omega⟩
    have hst : Stp s1 := by
      cases l with
      | nil => have := b2.nil; subst this; exact hs
      | cons g l =>
        rw [List.map_cons, List.flatMap_cons] at b2
        exact (hsep s1 (Beg.cons (q := T g ++ (l.map T).flatMap (sep :: ·)) b2).1).2
    rw [liGo, if_pos (hsep ts c1).1, hl f List.mem_cons_self ts.tail s1 b1 hst]
    simp only
    rw [liGo_ok hsep l (acc ++ [f]) m s1 r (fun g hg => hl g (List.mem_cons_of_mem _ hg)) b2 (by have := b1.len; have := List.length_tail (l := ts); omega) hr hs]
    simp
theorem liF_many {op : List Tk → Ps} {s : ByteArray} {sep e : Co} {k : Int} {Stp : List Tk → Prop} {T : Fm → List Co} (hsep : ∀ ts, core (hd ts) = sep → isT s ts = true ∧ Stp ts) (l : List Fm) (h2 : 2 ≤ l.length) (hl : ∀ f ∈ l, ∀ ts r, Beg (T f) ts r → Stp r → op ts = .ok f r) (ts r : List Tk) (hb : Beg (joinC sep e (l.map T)) ts r) (hr : isT s r = false) (hs : Stp r) : liF op k s ts = .ok (.mk k 0 0 0 l) r := by
  match l, h2 with
  | f :: g :: l, _ =>
    rw [List.map_cons, joinC_eq] at hb
    obtain ⟨s1, b1, b2⟩ := hb.app
    have hst : Stp s1 := by
      rw [List.map_cons, List.flatMap_cons] at b2
      exact (hsep s1 (Beg.cons (q := T g ++ (l.map T).flatMap (sep :: ·)) b2).1).2
    unfold liF
    rw [hl f List.mem_cons_self ts s1 b1 hst]
    simp only
    rw [liGo_ok hsep (g :: l) [f] s1.length s1 r (fun x hx => hl x (List.mem_cons_of_mem _ hx)) b2 (Nat.le_refl _) hr hs]
    rfl
end Go.Proofs.YtndflafkigldmaaGreatDoor.Vm
