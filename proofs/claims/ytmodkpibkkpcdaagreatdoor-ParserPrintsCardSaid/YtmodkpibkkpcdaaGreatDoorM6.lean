/- Texts 6 of the proof: U11, U12. -/
import Derived.Test.YtmodkpibkkpcdaaGreatDoorM5
namespace Go.Proofs.YtmodkpibkkpcdaaGreatDoor.Vm
open Go.RowKit Go.Shelf
set_option linter.unusedSimpArgs false
set_option linter.unusedVariables false
set_option maxRecDepth 100000
theorem rep_e {E : Env} : (A.v (.string ⟨#[]⟩)).rep E (.string ⟨#[]⟩) := A.rep_v (by show (0 : Nat) ≤ maxLen; unfold maxLen; omega)
theorem Hp.nilBufRow {w0 : W0} {w : World} {C0 : Rd} {β0 : List Nat} {bx : List (List A)} {rw : List Row} {E : Env} (h : Hp w0 C0 β0 bx rw w E) (e : Nat) : Hp w0 C0 β0 bx (rw ++ [.live e 0 0 [.v (.string ⟨#[]⟩)]]) w ⟨E.C, E.β, E.ρ ++ [.slice none 0 0]⟩ ∧ E.le ⟨E.C, E.β, E.ρ ++ [.slice none 0 0]⟩ := by
 have le : E.le ⟨E.C, E.β, E.ρ ++ [.slice none 0 0]⟩ := ⟨Sub.refl _, fun _ _ h => h, fun i b hb => by
  have := (List.getElem?_eq_some_iff.1 hb).1
  rw [List.getElem?_append_left this]; exact hb⟩
 have part : ∀ (g : Nat) (r : Row) (y : Value), (rw ++ [Row.live e 0 0 [.v (.string ⟨#[]⟩)]])[g]? = some r → (E.ρ ++ [Value.slice none 0 0])[g]? = some y → (rw[g]? = some r ∧ E.ρ[g]? = some y) ∨ (r = .live e 0 0 [.v (.string ⟨#[]⟩)] ∧ y = .slice none 0 0 ∧ g = rw.length) := fun g r y h1 h2 => by
  by_cases hg : g < rw.length
  ·rw [List.getElem?_append_left hg] at h1
   rw [List.getElem?_append_left (by rw [← h.rl]; exact hg)] at h2
   exact .inl ⟨h1, h2⟩
  ·rw [List.getElem?_append_right (by omega)] at h1
   rw [List.getElem?_append_right (by rw [← h.rl]; omega)] at h2
   have hi0 : g - rw.length = 0 := by
    have := (List.getElem?_eq_some_iff.1 h1).1
    simp at this; omega
   rw [hi0] at h1
   rw [← h.rl, hi0] at h2
   simp at h1 h2
   exact .inr ⟨h1.symm, h2.symm, by omega⟩
 refine ⟨⟨h.sub, h.base, h.fresh, h.bp, h.bnd, h.bC, h.bl, fun i b cs h1 h2 => (h.bxs i b cs h1 h2).mono le, by simp [h.rl], fun g r y h1 h2 => ?_, fun g e' k' n cs y b h1 h2 h3 => ?_, fun g e1 k1 n1 cs1 y g' e2 k2 n2 cs2 z b hne h1 h2 h3 h4 h5 => ?_, fun g y h1 => snoc_slices h.rs (.inl ⟨_, _, _, rfl⟩) g y h1, h.keep, h.gk⟩, le⟩
 ·rcases part g r y h1 h2 with ⟨h3, h4⟩ | ⟨rfl, rfl, _⟩
  ·exact (h.rws g r y h3 h4).mono le (fun _ _ _ _ _ _ _ => rfl)
  ·exact ⟨[.string ⟨#[]⟩], ⟨owR.nilBuf _ _, fun b hb => by simp [blk] at hb⟩, by unfold A.repC; exact ⟨_, [], rfl, rfl, rep_e, by unfold A.repC; rfl⟩⟩
 ·rcases part g _ y h1 h2 with ⟨h4, h5⟩ | ⟨_, rfl, _⟩
  ·exact h.rC g e' k' n cs y b h4 h5 h3
  ·simp [blk] at h3
 ·rcases part g _ y h1 h2 with ⟨k3, k4⟩ | ⟨_, rfl, _⟩
  ·rcases part g' _ z h3 h4 with ⟨k5, k6⟩ | ⟨_, rfl, _⟩
   ·exact h.rd g e1 k1 n1 cs1 y g' e2 k2 n2 cs2 z b hne k3 k4 k5 k6 h5
   ·simp [blk]
  ·simp [blk] at h5
theorem le_nilB {np : Nat} {s : S} {t : List A} {bx : List (List A)} (e : Nat) (ht : NilL s.rw.length s.t t) (hb : NilB s.rw.length s.bx bx) : Le np s ⟨t, bx, s.rw ++ [.live e 0 0 [.v (.string ⟨#[]⟩)]]⟩ := by
 rintro dr w0 C0 β0 a w _ _ ⟨E, hp, hrep, hd⟩
 obtain ⟨h1, le⟩ := hp.nilBufRow e
 have hg : (E.ρ ++ [Value.slice none 0 0])[s.rw.length]? = some (.slice none 0 0) := by rw [hp.rl]; simp
 refine ⟨⟨E.C, E.β, E.ρ ++ [.slice none 0 0]⟩, ?_, NilL_rep hg ht (A.repL.mono _ le hrep), hd.mono le⟩
 exact ⟨h1.sub, h1.base, h1.fresh, h1.bp, h1.bnd, h1.bC, by rw [NilB_len hb]; exact h1.bl, fun i b cs h2 h3 => by
  obtain ⟨c0, h4, h5⟩ := NilB_get hb h3
  obtain ⟨T', arr, h6, h7⟩ := h1.bxs i b c0 h2 h4
  exact ⟨T', arr, h6, h7.rel (NilL s.rw.length) h5 (fun l m us e k => NilL_rep hg e k) (fun l m e => NilL_unH e) fun l t r e => NilL_head e⟩, h1.rl, h1.rws, h1.rC, h1.rd, h1.rs, h1.keep, h1.gk⟩
theorem ok_buf {c : Cx} {x : Code} {t : List A} {bx : List (List A)} {rw : List Row} {q : Exit → S → Prop} (e : Nat) (ts : List Nat) (cs : List (Nat × Nat))
  (h : snocK rw (.live e 0 0 [.v (.string ⟨#[]⟩)]) 0 fun g rw' => nilK g ts t fun t' => nilBK g cs bx fun bx' => Ok c x ⟨t', bx', rw'⟩ q) : Ok c x ⟨t, bx, rw⟩ q := by
 rw [snocK_iff, Nat.zero_add] at h
 obtain ⟨t', h1, h⟩ := nilK_iff h
 obtain ⟨bx', h2, h⟩ := nilBK_iff h
 exact ok_le (le_nilB (s := ⟨t, bx, rw⟩) e h1 h2) h
def dJ : ByteArray := ⟨#[100, 44, 100, 100, 49]⟩
def vJ : ByteArray := ⟨#[118, 44, 119, 50]⟩
theorem join_du : Spec Tryz.prog 50 [] [.sl 1 2 (txA duL), strA pComma] fun _ r => r = strA dJ := join_spec [[100], [100, 100, 49]] 44 (by decide) (by decide) (by decide)
theorem join_vo : Spec Tryz.prog 50 [] [.sl 1 2 (txA voL), strA pComma] fun _ r => r = strA vJ := join_spec [[118], [119, 50]] 44 (by decide) (by decide) (by decide)
def pT1 : ByteArray := nmF wDurable duL
def pT2 : ByteArray := nmF wDurable duL ++ nmF wVolatile voL
theorem pT1_eq : glueF (glueF (glueF ⟨#[]⟩ wDurable) dJ) pSemi = pT1 := by decide
theorem pT2_eq : glueF (glueF (glueF pT1 wVolatile) vJ) pSemi = pT2 := by decide
theorem pT_sz : pT1.size ≤ 100 ∧ pT2.size ≤ 100 := by decide
theorem hdsF_pos (full : Bool) (l : List (Int × Nt)) : ∀ (a : ByteArray), 0 < a.size → 0 < (hdsF full a l).size := by
 induction l with
 | nil => exact fun a h => h
 | cons h l ih => exact fun a ha => ih _ (size_ne (glue_ne_l (size_ne2 ha)))
theorem pprint {u : Ut} (h : GU u) : Spec Tryz.prog 31 [] [.agg (utA u)] fun _ r => r = strA (prF u) := by
 have hpu := h.pu
 have hsz := (prF_size hpu).1
 obtain ⟨h1, h2, h3, h4, h5⟩ := h
 obtain ⟨du, vo, hs⟩ := u
 simp only at h1 h2 h3 h4 h5
 subst h1
 subst h2
 have jd := join_du
 have jv := join_vo
 have e1 := pT1_eq
 have e2 := pT2_eq
 have e3 := pT_sz
 have e4 : 0 < pT2.size := by decide
 have z0 : (⟨#[]⟩ : ByteArray).size = 0 := rfl
 have z1 : wDurable.size = 7 := rfl
 have z2 : wVolatile.size = 8 := rfl
 have z3 : pSemi.size = 1 := rfl
 have z4 : dJ.size = 5 := rfl
 have z5 : vJ.size = 4 := rfl
 have z6 : 0 < dJ.size := by decide
 have z7 : 0 < vJ.size := by decide
 have epr : prF ⟨duL, voL, hs⟩ = hdsF false pT2 hs := rfl
 rw [epr] at hsz ⊢
 refine spec_of_ok (cx_ok ord0 xs0 0) (fun _ _ h => h) Tryz.func31 rfl (by kernel_rfl) rfl ?_
 intro _
 refine ok_step (cx_ok _ _ _) (by kernel_rfl) ?_
 conv => whnf
 refine ok_step (cx_ok _ _ _) (by kernel_rfl) ?_
 conv => whnf
 refine ok_buf 5 [] [(1, 1)] ?_
 conv => whnf
 refine ⟨trivial, ?_⟩
 conv => whnf
 refine ok_of_awp (cx_ok _ _ _) (by kernel_rfl) ?_
 conv => whnf
 generalize pT1 = T1 at *
 generalize pT2 = T2 at *
 obtain ⟨S, hS0, hS1, hS2⟩ : ∃ S : Nat → ByteArray, S 0 = ⟨#[]⟩ ∧ S 1 = T1 ∧ S 2 = T2 := ⟨fun j => [⟨#[]⟩, T1, T2].getD j ⟨#[]⟩, rfl, rfl, rfl⟩
 have zS0 : (S 0).size = 0 := by rw [hS0]; rfl
 have zS1 : (S 1).size ≤ 100 := by rw [hS1]; exact e3.1
 refine loop_keep [1, 3, 12, 13] ?_
 conv => whnf
 refine loop_go (fun j : Nat => [(14, .v (.int .i64 j))]) (fun _ => [[.sl 1 2 (txA duL), .sl 1 2 (txA voL), .sl 5 hs.length (hnsA hs)], [.adr PrT, .own 0]]) (fun j => [.live 5 0 (S j).size [.v (.string (S j))], .live 24 1 2 [.sl 1 2 (txA duL), .sl 1 2 (txA voL)]]) (fun j => j ≤ 2) (fun j => 2 - j) 0 ?_ (by decide) ?_
 ·repeat' constructor
  all_goals (rw [hS0]; rfl)
 rintro j hj
 conv => whnf
 by_cases hlt : j < 2
 ·rw [decide_eq_true (show (j : Int) < ((2 : Nat) : Int) by omega)]
  rcases (by omega : j = 0 ∨ j = 1) with rfl | rfl
  ·conv => whnf
   refine ⟨by decide, ?_⟩
   conv => whnf
   refine ⟨by decide, ?_⟩
   conv => whnf
   refine callR1 1 0 4 [3] rfl rfl rfl rfl rfl rfl rfl (fun _ => (put1_spec (S 0) wDurable (by decide) (by omega)).r) ?_
   rintro o n' cs' r ⟨s', rfl, rfl, ho, hs', rfl⟩
   cases ho
   conv => whnf
   have hz2 := glue_size (S 0) wDurable
   rw [← hs'] at hz2
   have hs2 := hs'
   clear hs'
   generalize s' = s2 at *
   (refine call0 [] rfl (fun _ => jd) ?_; rintro r rfl; conv => whnf)
   refine callR1 1 4 6 [5] rfl rfl rfl rfl rfl rfl rfl (fun _ => (put2_spec s2 dJ pSemi (by decide) (by decide) (by omega)).r) ?_
   rintro o n' cs' r ⟨s', rfl, rfl, ho, hs', rfl⟩
   cases ho
   conv => whnf
   refine ⟨i64r (by omega), ?_⟩
   conv => whnf
   refine ⟨0 + 1, le_selH [6, 1] ?_, by decide, by decide⟩
   conv => whnf
   rw [show S (0 + 1) = _ from hS1, ← e1, ← hS0, ← hs2, ← hs']
   repeat' constructor
  ·conv => whnf
   refine ⟨by decide, ?_⟩
   conv => whnf
   refine ⟨by decide, ?_⟩
   conv => whnf
   refine callR1 1 0 4 [3] rfl rfl rfl rfl rfl rfl rfl (fun _ => (put1_spec (S 1) wVolatile (by decide) (by omega)).r) ?_
   rintro o n' cs' r ⟨s', rfl, rfl, ho, hs', rfl⟩
   cases ho
   conv => whnf
   have hz2 := glue_size (S 1) wVolatile
   rw [← hs'] at hz2
   have hs2 := hs'
   clear hs'
   generalize s' = s2 at *
   (refine call0 [] rfl (fun _ => jv) ?_; rintro r rfl; conv => whnf)
   refine callR1 1 4 6 [5] rfl rfl rfl rfl rfl rfl rfl (fun _ => (put2_spec s2 vJ pSemi (by decide) (by decide) (by omega)).r) ?_
   rintro o n' cs' r ⟨s', rfl, rfl, ho, hs', rfl⟩
   cases ho
   conv => whnf
   refine ⟨i64r (by omega), ?_⟩
   conv => whnf
   refine ⟨1 + 1, le_selH [6, 1] ?_, by decide, by decide⟩
   conv => whnf
   rw [show S (1 + 1) = _ from hS2, ← e2, ← hS1, ← hs2, ← hs']
   repeat' constructor
 rw [decide_eq_false (show ¬ (j : Int) < ((2 : Nat) : Int) by omega)]
 obtain rfl : j = 2 := by omega
 rw [hS2]
 conv => whnf
 obtain ⟨V, hV⟩ : ∃ V : Nat → ByteArray, ∀ j, V j = hdsF false T2 (hs.take j) := ⟨_, fun _ => rfl⟩
 have hV0 : V 0 = T2 := by rw [hV, List.take_zero]; rfl
 have hVl : V hs.length = hdsF false T2 hs := by rw [hV, List.take_length]
 have hVn : ∀ j (h : j < hs.length), V (j + 1) = glueF (V j) (hdN false hs[j]) := fun j h => by rw [hV, hV, List.take_succ_eq_append_getElem h, hdsF_snoc]
 have hVz : ∀ j, (V j).size ≤ 2000000 := fun j => by
  rw [hV]
  have s1 := hdsF_size false T2 (hs.take j) (fun z hz => (hpu.hd false z (List.mem_of_mem_take hz)).1)
  have hm : (hs.take j).length * 400001 ≤ 4 * 400001 := Nat.mul_le_mul_right _ (by rw [List.length_take]; omega)
  omega
 rw [← hVl, ← hV0]
 refine loop_sel [0] ?_
 conv => whnf
 refine loop_keep [3, 34, 35] ?_
 conv => whnf
 refine loop_go (fun j : Nat => [(36, .v (.int .i64 j))]) (fun _ => [[.sl 1 2 (txA duL), .sl 1 2 (txA voL), .sl 5 hs.length (hnsA hs)], [.adr PrT, .own 0]]) (fun j => [.live 5 0 (V j).size [.v (.string (V j))]]) (fun j => j ≤ hs.length) (fun j => hs.length - j) 0 ?_ (Nat.zero_le _) ?_
 ·repeat' constructor
 rintro j hj
 conv => whnf
 have hz := hVz j
 by_cases hlt : j < hs.length
 ·rw [decide_eq_true (show (j : Int) < (hs.length : Int) by omega)]
  have hr := rowOf_hns hs j hlt
  have hg := h3 _ (List.getElem_mem hlt)
  have hVn := hVn j hlt
  generalize hs[j] = g at *
  obtain ⟨n, b⟩ := g
  obtain ⟨g1, g2, g3⟩ := hg
  have g1 : 0 ≤ n := g1
  have g2 : n < 40 := g2
  have hb := pb_ek g3
  have hbk := hb.2.2
  have hbz := hb.1.1
  have hbp := hb.2.1
  have hdn : hdN false (n, b) = allF [wOn, hdW n, bkP false b] := rfl
  have hwp : 0 < (hdW n).size := by
   unfold hdW
   have a2 : wMsgS.size = 8 := rfl
   have a3 : wTimS.size = 6 := rfl
   repeat' split
   all_goals first | decide | (rw [ByteArray.size_append]; omega)
  have hpf := putF_all (V j) 3 [wOn, hdW n, bkP false b] rfl (by
   intro x hx
   simp only [List.mem_cons, List.not_mem_nil, or_false] at hx
   rcases hx with rfl | rfl | rfl
   ·decide
   ·exact hwp
   ·exact hbp)
  rw [hdn, ← hpf] at hVn
  have hVn : V (j + 1) = glueF (glueF (glueF (V j) wOn) (hdW n)) (bkP false b) := hVn
  clear hpf hdn
  generalize bkP false b = y at *
  have y1 : wOn.size = 2 := rfl
  have y2 : wStart.size = 5 := rfl
  have y3 : wRequest.size = 7 := rfl
  have y4 : wTimer.size = 5 := rfl
  have y5 : wMessage.size = 7 := rfl
  conv => whnf
  refine ⟨by omega, ?_⟩
  conv => whnf
  (generalize hrq : rowOf _ _ (hnsA hs) = rq; obtain rfl : rq = hnA (n, b) := hrq.symm.trans (hr); clear hrq; conv => whnf)
  refine callR1 1 0 2 [1] rfl rfl rfl rfl rfl rfl rfl (fun _ => (put1_spec (V j) wOn (by decide) (by omega)).r) ?_
  rintro o n' cs' r ⟨s', rfl, rfl, ho, hs', rfl⟩
  cases ho
  conv => whnf
  have hz2 := glue_size (V j) wOn
  rw [← hs'] at hz2
  rw [← hs'] at hVn
  clear hs'
  generalize s' = s2 at *
  by_cases n0 : n = 0
  ·subst n0
   rw [show hdW 0 = wStart from rfl] at hVn
   conv => whnf
   refine callR1 1 2 4 [3] rfl rfl rfl rfl rfl rfl rfl (fun _ => (put1_spec s2 wStart (by decide) (by omega)).r) ?_
   rintro o n' cs' r ⟨s', rfl, rfl, ho, hs', rfl⟩
   cases ho
   conv => whnf
   have hz3 := glue_size s2 wStart
   rw [← hs'] at hz3
   rw [← hs'] at hVn
   clear hs'
   generalize s' = s3 at *
   refine callR1 1 4 5 [] rfl rfl rfl rfl rfl rfl rfl (fun _ => hbk s3 (by omega)) ?_
   rintro o n' cs' r ⟨s', rfl, rfl, ho, hs', rfl⟩
   cases ho
   conv => whnf
   refine ⟨i64r (by omega), ?_⟩
   conv => whnf
   refine ⟨j + 1, le_selH [5] ?_, hlt, by omega⟩
   conv => whnf
   rw [hVn, ← hs']
   repeat' constructor
  rw [decide_eq_false n0]
  conv => whnf
  by_cases n1 : n = 1
  ·subst n1
   rw [show hdW 1 = wRequest from rfl] at hVn
   conv => whnf
   refine callR1 1 2 4 [3] rfl rfl rfl rfl rfl rfl rfl (fun _ => (put1_spec s2 wRequest (by decide) (by omega)).r) ?_
   rintro o n' cs' r ⟨s', rfl, rfl, ho, hs', rfl⟩
   cases ho
   conv => whnf
   have hz3 := glue_size s2 wRequest
   rw [← hs'] at hz3
   rw [← hs'] at hVn
   clear hs'
   generalize s' = s3 at *
   refine callR1 1 4 5 [] rfl rfl rfl rfl rfl rfl rfl (fun _ => hbk s3 (by omega)) ?_
   rintro o n' cs' r ⟨s', rfl, rfl, ho, hs', rfl⟩
   cases ho
   conv => whnf
   refine ⟨i64r (by omega), ?_⟩
   conv => whnf
   refine ⟨j + 1, le_selH [5] ?_, hlt, by omega⟩
   conv => whnf
   rw [hVn, ← hs']
   repeat' constructor
  rw [decide_eq_false n1]
  conv => whnf
  by_cases n9 : n < 10
  ·rw [show hdW n = wTimS ++ bs (decS (n - 2).toNat) by unfold hdW; rw [if_neg n1, if_neg (by omega), if_pos (by omega)]] at hVn
   have hdc := litoa_spec (n - 2) (by omega)
   have d1 := decS_size (n - 2).toNat (by omega)
   have d2 := decS_pos (n - 2).toNat
   have d3 : wTimS ++ bs (decS (n - 2).toNat) = glueF wTimer (bs (decS (n - 2).toNat)) := (glue_dec wTimer (by decide) (by decide) _).symm
   rw [d3, ← glue_assoc _ _ _ (by decide)] at hVn
   clear d3 hwp
   generalize bs (decS (n - 2).toNat) = d at *
   rw [decide_eq_true n9]
   conv => whnf
   refine ⟨i64r (by omega), ?_⟩
   conv => whnf
   (refine call0 [] rfl (fun _ => hdc) ?_; rintro r rfl; conv => whnf)
   refine callR1 1 2 4 [3] rfl rfl rfl rfl rfl rfl rfl (fun _ => (put2_spec s2 wTimer d (by decide) d2 (by omega)).r) ?_
   rintro o n' cs' r ⟨s', rfl, rfl, ho, hs', rfl⟩
   cases ho
   conv => whnf
   have hz3 : (glueF (glueF s2 wTimer) d).size ≤ s2.size + 20 := by
    have q1 := glue_size s2 wTimer
    have q2 := glue_size (glueF s2 wTimer) d
    omega
   rw [← hs'] at hz3
   rw [← hs'] at hVn
   clear hs'
   generalize s' = s3 at *
   refine callR1 1 4 5 [] rfl rfl rfl rfl rfl rfl rfl (fun _ => hbk s3 (by omega)) ?_
   rintro o n' cs' r ⟨s', rfl, rfl, ho, hs', rfl⟩
   cases ho
   conv => whnf
   refine ⟨i64r (by omega), ?_⟩
   conv => whnf
   refine ⟨j + 1, le_selH [5] ?_, hlt, by omega⟩
   conv => whnf
   rw [hVn, ← hs']
   repeat' constructor
  ·rw [show hdW n = wMsgS ++ bs (decS (n - 10).toNat) by unfold hdW; rw [if_neg n1, if_pos (by omega)]] at hVn
   have hdc := litoa_spec (n - 10) (by omega)
   have d1 := decS_size (n - 10).toNat (by omega)
   have d2 := decS_pos (n - 10).toNat
   have d3 : wMsgS ++ bs (decS (n - 10).toNat) = glueF wMessage (bs (decS (n - 10).toNat)) := (glue_dec wMessage (by decide) (by decide) _).symm
   rw [d3, ← glue_assoc _ _ _ (by decide)] at hVn
   clear d3 hwp
   generalize bs (decS (n - 10).toNat) = d at *
   rw [decide_eq_false n9]
   conv => whnf
   refine ⟨i64r (by omega), ?_⟩
   conv => whnf
   (refine call0 [] rfl (fun _ => hdc) ?_; rintro r rfl; conv => whnf)
   refine callR1 1 2 4 [3] rfl rfl rfl rfl rfl rfl rfl (fun _ => (put2_spec s2 wMessage d (by decide) d2 (by omega)).r) ?_
   rintro o n' cs' r ⟨s', rfl, rfl, ho, hs', rfl⟩
   cases ho
   conv => whnf
   have hz3 : (glueF (glueF s2 wMessage) d).size ≤ s2.size + 22 := by
    have q1 := glue_size s2 wMessage
    have q2 := glue_size (glueF s2 wMessage) d
    omega
   rw [← hs'] at hz3
   rw [← hs'] at hVn
   clear hs'
   generalize s' = s3 at *
   refine callR1 1 4 5 [] rfl rfl rfl rfl rfl rfl rfl (fun _ => hbk s3 (by omega)) ?_
   rintro o n' cs' r ⟨s', rfl, rfl, ho, hs', rfl⟩
   cases ho
   conv => whnf
   refine ⟨i64r (by omega), ?_⟩
   conv => whnf
   refine ⟨j + 1, le_selH [5] ?_, hlt, by omega⟩
   conv => whnf
   rw [hVn, ← hs']
   repeat' constructor
 ·rw [decide_eq_false (show ¬ (j : Int) < (hs.length : Int) by omega)]
  obtain rfl : j = hs.length := by omega
  have hne : 0 < (V hs.length).size := by
   rw [hVl]
   exact hdsF_pos false hs T2 e4
  conv => whnf
  refine callR1 1 0 1 [] rfl rfl rfl rfl rfl rfl rfl (fun _ => bstring_spec PrT (V hs.length) hne) ?_
  rintro o n' cs' r ⟨s5, rfl, rfl, ho, rfl, rfl⟩
  cases ho
  conv => whnf
  rfl
end Go.Proofs.YtmodkpibkkpcdaaGreatDoor.Vm
namespace Go.Proofs.YtmodkpibkkpcdaaGreatDoor.Vm
open Go.RowKit Go.Shelf
set_option linter.unusedSimpArgs false
set_option linter.unusedVariables false
set_option maxRecDepth 100000
theorem prints_law_spec (l : List Int) : Spec Tryz.prog 8 [] [.sl 1 l.length (intsA l)] fun _ r => r = boolA true := by
 obtain ⟨u, hu, hpg⟩ := gprog l
 have hpu := hu.pu
 have hpr := rprint hpu
 have hpp := pprint hu
 generalize prF u = s at *
 have h0 := plives_spec
 refine spec_of (cx_ok ord8 xs0 0) (fun _ _ h => h) Tryz.func8 rfl (by kernel_rfl) rfl (by kernel_rfl) ?_
 intro hok
 conv => whnf
 (refine call0 [] rfl (fun _ => hpg) ?_; rintro r rfl; conv => whnf)
 (refine call0 [] rfl (fun _ => hpp) ?_; rintro r rfl; conv => whnf)
 (refine call0 [] rfl (fun _ => hpr) ?_; rintro r rfl; conv => whnf)
 rw [decide_eq_true (show s = s from rfl)]
 conv => whnf
 (refine call0 [] rfl (fun _ => h0) ?_; rintro r rfl; conv => whnf)
 rfl
end Go.Proofs.YtmodkpibkkpcdaaGreatDoor.Vm
