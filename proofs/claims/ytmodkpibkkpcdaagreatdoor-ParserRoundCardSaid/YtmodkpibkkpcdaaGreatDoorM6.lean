/- Texts 6 of the proof: U9, U10, U11, U12, U13, U14, U15, U16, U17, U18, U19, U20, U21, U22, U23, U24, U25. -/
import Derived.Test.YtmodkpibkkpcdaaGreatDoorM5
import Derived.Shelf.Strings.OnBuilder
import Derived.Ground.NamesProg
namespace Go.Proofs.YtmodkpibkkpcdaaGreatDoor.Vm
open Go.RowKit Go.Shelf
set_option linter.unusedSimpArgs false
set_option linter.unusedVariables false
set_option maxRecDepth 100000
theorem jzC {d : Nat} {f : Nt} (h : ES d f) : cS d <= 1000000 -> PT (cS d) f := by
 have i0 : cI 0 = 14 := rfl
 have i1 : cI 1 = 48 := rfl
 have i2 : cI 2 = 116 := rfl
 have i3 : cI 3 = 252 := rfl
 have hI : ∀ {e : Nat} {f : Nt}, EI e f -> e <= 2 -> PX 252 f := fun {e f} h he => by
  rcases (by omega : e = 0 ∨ e = 1 ∨ e = 2) with rfl | rfl | rfl
  ·exact (jpQ h (by decide)).mono (by decide)
  ·exact (jpQ h (by decide)).mono (by decide)
  ·exact (jpQ h (by decide)).mono (by decide)
 have hB : ∀ {e : Nat} {f : Nt}, EB e f -> e = 1 ∨ e = 2 -> PX 252 f := fun {e f} h he => by
  rcases he with rfl | rfl
  ·exact (jyH h (by decide)).mono (by decide)
  ·exact (jyH h (by decide)).mono (by decide)
 have one : ∀ {f : Nt}, PX 252 f -> ∀ x ∈ [f], PX 252 x := fun {f} h x hx => by rw [List.mem_singleton.1 hx]; exact h
 have two : ∀ {f g : Nt}, PX 252 f -> PX 252 g -> ∀ x ∈ [f, g], PX 252 x := fun {f g} h k x hx => by
  rcases List.mem_cons.1 hx with rfl | hx
  ·exact h
  ·rw [List.mem_singleton.1 hx]; exact k
 induction h with
 | asg d e s f hs h he => exact fun _ => (jpM 1 (.inl rfl) s (jjC s hs) (fun _ => jqG s hs) 252 (by decide) [f] (by simp) (one (hI h he))).mono (Nat.le_trans (by decide) (jcV d))
 | snd d n f g h hn h1 h2 h3 => exact fun _ => (jxj n (by omega) 252 (by decide) f g h (hI h1 (by decide)) (hI h2 (by decide)) (hI h3 (by decide))).mono (Nat.le_trans (by decide) (jcV d))
 | tim d n hn => exact fun _ => (juj 5 (.inl rfl) n (by omega)).mono (Nat.le_trans (by decide) (jcV d))
 | can d n hn => exact fun _ => (juj 6 (.inr rfl) n (by omega)).mono (Nat.le_trans (by decide) (jcV d))
 | syn d => exact fun _ => (juU 7 (.inl rfl)).mono (Nat.le_trans (by decide) (jcV d))
 | rep d f g h1 h2 => exact fun _ => (jpM 8 (.inr (.inl rfl)) eB (by decide) (fun h => absurd h (by decide)) 252 (by decide) [f, g] (by simp) (two (hI h1 (by decide)) (hI h2 (by decide)))).mono (Nat.le_trans (by decide) (jcV d))
 | fai d f h1 => exact fun _ => (jpM 9 (.inr (.inr rfl)) eB (by decide) (fun h => absurd h (by decide)) 252 (by decide) [f] (by simp) (one (hI h1 (by decide)))).mono (Nat.le_trans (by decide) (jcV d))
 | stp d => exact fun _ => (juU 10 (.inr rfl)).mono (Nat.le_trans (by decide) (jcV d))
 | whi d c l h1 h2 h3 ih =>
  intro hc
  have e : cS (d + 1) = 700 + 3 * (3 * cS d + 10) := rfl
  rw [e] at hc ⊢
  have hge := jcV d
  have hb := jjx (cS d) (by omega) l (by omega) (fun s hs => ih s hs (by omega))
  exact (jyf (3 * cS d + 10) (by omega) c (jbg l) ((hB h1 (.inl rfl)).mono (by omega)) hb).mono (by omega)
 | iff d c l m h1 h2 h3 h4 h5 ih1 ih2 =>
  intro hc
  have e : cS (d + 1) = 700 + 3 * (3 * cS d + 10) := rfl
  rw [e] at hc ⊢
  have hge := jcV d
  have hb := jjx (cS d) (by omega) l (by omega) (fun s hs => ih1 s hs (by omega))
  have hb2 := jjx (cS d) (by omega) m (by omega) (fun s hs => ih2 s hs (by omega))
  exact (jyc (3 * cS d + 10) (by omega) c (jbg l) (jbg m) ((hB h1 (.inr rfl)).mono (by omega)) hb hb2).mono (by omega)
theorem jzt {b : Nt} (h : EK b) : PB 300000 b := by
 obtain ⟨k, rfl, h1, h2⟩ := h
 have e2 : cS 2 = 80200 := rfl
 exact (jjx (cS 2) (by omega) k h1 (fun s hs => jzC (h2 s hs) (by omega))).mono (by omega)
theorem jyK : ∀ k < 10, jc0 (UInt8.ofNat (48 + k)) = true := by decide
theorem jp8 : ∀ (n : Nat), n ≠ 0 -> ∃ c l, jlY n = c :: l /\ jc0 c = true := fun n => by
 induction n using Nat.strongRecOn with
 | _ n ih =>
  intro h
  rw [jcj h]
  by_cases h0 : n / 10 = 0
  ·rw [h0, jdo]
   exact ⟨_, _, rfl, jyK _ (Nat.mod_lt _ (by decide))⟩
  ·obtain ⟨c, l, e, hc⟩ := ih (n / 10) (by omega) h0
   rw [e]
   exact ⟨c, _, rfl, hc⟩
theorem jfZ (n : Nat) : jc0 (jaw (bs (jb1 n))) = true := by
 unfold jb1
 split
 ·decide
 ·obtain ⟨c, l, e, hc⟩ := jp8 n (by assumption)
  rw [e]
  exact hc
theorem jgD (w : ByteArray) (hw : w ≠ ⟨#[]⟩) (hl : jc0 (jcS w) = true) (n : Nat) : ja2 w (bs (jb1 n)) = w ++ ⟨#[32]⟩ ++ bs (jb1 n) := by
 have h1 := jgy (jem n)
 have h2 := jfZ n
 unfold ja2
 rw [if_neg hw, if_neg h1, if_neg (by rw [hl]; decide), if_neg (by rw [h2]; decide)]
def jdz : Go.Shelf.Ren := ⟨fun | 156 => 50 | 165 => 87 | 166 => 86 | 169 => 53 | 240 => 117 | 241 => 118 | 276 => 139 | 277 => 140 | n => n, fun | 31 => 24 | 37 => 69 | 70 => 90 | 72 => 92 | 75 => 130 | 76 => 137 | 80 => 99 | 127 => 140 | 164 => 169 | n => n, fun | n => n⟩
theorem jkn : Lays.n156 Tryz.prog jdz where
 mixed := by kernel_rfl
 f156 := Tryz.func50.trans (congrArg some (by kernel_rfl))
 f165 := Tryz.func87.trans (congrArg some (by kernel_rfl))
 f166 := Tryz.func86.trans (congrArg some (by kernel_rfl))
 f169 := Tryz.func53.trans (congrArg some (by kernel_rfl))
 f240 := Tryz.func117.trans (congrArg some (by kernel_rfl))
 f241 := Tryz.func118.trans (congrArg some (by kernel_rfl))
 f276 := Tryz.func139.trans (congrArg some (by kernel_rfl))
 f277 := Tryz.func140.trans (congrArg some (by kernel_rfl))
 t0 := Tryz.underlying0
 a0 := Tryz.isAgg0
 z0 := Tryz.sizeOf0
 v0 := Tryz.zeroValue0
 t3 := Tryz.underlying3
 a3 := Tryz.isAgg3
 z3 := Tryz.sizeOf3
 v3 := Tryz.zeroValue3
 t4 := Tryz.underlying4
 a4 := Tryz.isAgg4
 z4 := Tryz.sizeOf4
 v4 := Tryz.zeroValue4
 t9 := Tryz.underlying9
 a9 := Tryz.isAgg9
 z9 := Tryz.sizeOf9
 v9 := Tryz.zeroValue9
 t20 := Tryz.underlying20
 a20 := Tryz.isAgg20
 z20 := Tryz.sizeOf20
 v20 := Tryz.zeroValue20
 t31 := Tryz.underlying24
 a31 := Tryz.isAgg24
 z31 := Tryz.sizeOf24
 v31 := Tryz.zeroValue24
 t37 := Tryz.underlying69
 a37 := Tryz.isAgg69
 z37 := Tryz.sizeOf69
 v37 := Tryz.zeroValue69
 t70 := Tryz.underlying90
 a70 := Tryz.isAgg90
 z70 := Tryz.sizeOf90
 v70 := Tryz.zeroValue90
 t72 := Tryz.underlying92
 a72 := Tryz.isAgg92
 z72 := Tryz.sizeOf92
 v72 := Tryz.zeroValue92
 t75 := Tryz.underlying130
 a75 := Tryz.isAgg130
 z75 := Tryz.sizeOf130
 v75 := Tryz.zeroValue130
 t76 := Tryz.underlying137
 a76 := Tryz.isAgg137
 z76 := Tryz.sizeOf137
 v76 := Tryz.zeroValue137
 t127 := Tryz.underlying140
 a127 := Tryz.isAgg140
 z127 := Tryz.sizeOf140
 v127 := Tryz.zeroValue140
 t164 := Tryz.underlying169
 a164 := Tryz.isAgg169
 z164 := Tryz.sizeOf169
 v164 := Tryz.zeroValue169

theorem jjZ : Builder.Extra Tryz.prog jdz where
 sizeBuilder := by kernel_rfl
 liesBuilder := by kernel_rfl
 t5 := by kernel_rfl
 a5 := Tryz.isAgg5
 z5 := Tryz.sizeOf5
 v5 := Tryz.zeroValue5
 infoByte := by kernel_rfl
 cellsByte := by kernel_rfl
 sizeByte := by kernel_rfl
 neB5 := by decide
theorem jlE (l : List (List UInt8)) (c : UInt8) (h1 : 1 <= l.length) (hl : l.length <= 1000) (hs : (Lib.join l [c]).length <= 1000000000) : Spec Tryz.prog 50 [] [.sl 1 l.length (jdE (l.map bs)), jaM ⟨#[c]⟩] fun _ r => r = jaM (bs (Lib.join l [c])) := by
 refine jgz (jeJ Tryz.func50 rfl (by kernel_rfl)) fun w C vals hg hsub hv => ?_
 obtain ⟨u, us, rfl, k1, k2⟩ := hv
 obtain rfl := jfE (l := [.string ⟨#[c]⟩]) k2
 unfold A.rep at k1
 obtain ⟨j1, j2, p, b, off, cap, rfl, j3, j4, j5, j6⟩ := k1
 obtain ⟨us, m1, m2⟩ := A.repAt_vals j6
 have hus : us = (l.map bs).map Value.string := by
  have := A.repC_L m1
  have e : jdE (l.map bs) = ((l.map bs).map Value.string).map A.v := by simp [jdE, jaM, Function.comp_def]
  rw [e] at this
  exact jfE this
 subst hus
 obtain rfl : p = some ⟨b, off, none⟩ := by
  rcases j4 with h | h
  ·omega
  ·exact h
 have hcells : ∀ (j : Nat) x, (l.map bs)[j]? = some x -> w.cell? ⟨b, off + j, none⟩ = some (.string x) := fun j x hx => by
  have := hsub _ _ (m2 j _ (by rw [List.getElem?_map, hx]; rfl))
  change w.cell? _ = _ at this
  exact this
 have hb : b < w.heap.size := by
  have := hcells 0 (bs l[0]) (by rw [List.getElem?_map, List.getElem?_eq_getElem (by omega)]; rfl)
  exact World.block_lt_of_cell? w _ this
 have ej : (l.map bs).map (·.data.toList) = l := by rw [List.map_map]; exact List.map_id'' (fun x => jba x) _
 have hlen : (l.map bs).length = l.length := by simp
 have := Any.strings_Join jkn jjZ b off cap (l.map bs) ⟨#[c]⟩ w hcells hb (by rw [hlen]; omega) (by rw [hlen]; exact j3) (by rw [ej]; show (Lib.join l [c]).length <= _; omega)
 rw [hlen, ej] at this
 refine this.mono ?_
 rintro e w' ⟨rfl, hw⟩
 exact ⟨_, rfl, hw, A.rep_v (by show (bs (Lib.join l [c])).size <= maxLen; rw [jbR]; unfold maxLen; omega)⟩
theorem jzQ {E : Env} : (A.v (.string ⟨#[]⟩)).rep E (.string ⟨#[]⟩) := A.rep_v (by show (0 : Nat) <= maxLen; unfold maxLen; omega)
theorem Hp.nilBufRow {w0 : W0} {w : World} {C0 : Rd} {β0 : List Nat} {bx : List (List A)} {rw : List Row} {E : Env} (h : Hp w0 C0 β0 bx rw w E) (e : Nat) : Hp w0 C0 β0 bx (rw ++ [.live e 0 0 [.v (.string ⟨#[]⟩)]]) w ⟨E.C, E.β, E.ρ ++ [.slice none 0 0]⟩ /\ E.le ⟨E.C, E.β, E.ρ ++ [.slice none 0 0]⟩ := by
 have le : E.le ⟨E.C, E.β, E.ρ ++ [.slice none 0 0]⟩ := ⟨Sub.refl _, fun _ _ h => h, fun i b hb => by
  have := (List.getElem?_eq_some_iff.1 hb).1
  rw [List.getElem?_append_left this]; exact hb⟩
 have part : ∀ (g : Nat) (r : Row) (y : Value), (rw ++ [Row.live e 0 0 [.v (.string ⟨#[]⟩)]])[g]? = some r -> (E.ρ ++ [Value.slice none 0 0])[g]? = some y -> (rw[g]? = some r /\ E.ρ[g]? = some y) ∨ (r = .live e 0 0 [.v (.string ⟨#[]⟩)] /\ y = .slice none 0 0 /\ g = rw.length) := fun g r y h1 h2 => by
  by_cases hg : g < rw.length
  ·rw [List.getElem?_append_left hg] at h1
   rw [List.getElem?_append_left (by rw [<- h.rl]; exact hg)] at h2
   exact .inl ⟨h1, h2⟩
  ·rw [List.getElem?_append_right (by omega)] at h1
   rw [List.getElem?_append_right (by rw [<- h.rl]; omega)] at h2
   have hi0 : g - rw.length = 0 := by
    have := (List.getElem?_eq_some_iff.1 h1).1
    simp at this; omega
   rw [hi0] at h1
   rw [<- h.rl, hi0] at h2
   simp at h1 h2
   exact .inr ⟨h1.symm, h2.symm, by omega⟩
 refine ⟨⟨h.sub, h.base, h.fresh, h.bp, h.bnd, h.bC, h.bl, fun i b cs h1 h2 => (h.bxs i b cs h1 h2).mono le, by simp [h.rl], fun g r y h1 h2 => ?_, fun g e' k' n cs y b h1 h2 h3 => ?_, fun g e1 k1 n1 cs1 y g' e2 k2 n2 cs2 z b hne h1 h2 h3 h4 h5 => ?_, fun g y h1 => jbT h.rs (.inl ⟨_, _, _, rfl⟩) g y h1, h.keep, h.gk⟩, le⟩
 ·rcases part g r y h1 h2 with ⟨h3, h4⟩ | ⟨rfl, rfl, _⟩
  ·exact (h.rws g r y h3 h4).mono le (fun _ _ _ _ _ _ _ => rfl)
  ·exact ⟨[.string ⟨#[]⟩], ⟨owR.nilBuf _ _, fun b hb => by simp [blk] at hb⟩, by unfold A.repC; exact ⟨_, [], rfl, rfl, jzQ, by unfold A.repC; rfl⟩⟩
 ·rcases part g _ y h1 h2 with ⟨h4, h5⟩ | ⟨_, rfl, _⟩
  ·exact h.rC g e' k' n cs y b h4 h5 h3
  ·simp [blk] at h3
 ·rcases part g _ y h1 h2 with ⟨k3, k4⟩ | ⟨_, rfl, _⟩
  ·rcases part g' _ z h3 h4 with ⟨k5, k6⟩ | ⟨_, rfl, _⟩
   ·exact h.rd g e1 k1 n1 cs1 y g' e2 k2 n2 cs2 z b hne k3 k4 k5 k6 h5
   ·simp [blk]
  ·simp [blk] at h5
theorem jvR {np : Nat} {s : S} {t : List A} {bx : List (List A)} (e : Nat) (ht : jpu s.rw.length s.t t) (hb : jwO s.rw.length s.bx bx) : Le np s ⟨t, bx, s.rw ++ [.live e 0 0 [.v (.string ⟨#[]⟩)]]⟩ := by
 rintro dr w0 C0 β0 a w _ _ ⟨E, hp, hrep, hd⟩
 obtain ⟨h1, le⟩ := hp.nilBufRow e
 have hg : (E.ρ ++ [Value.slice none 0 0])[s.rw.length]? = some (.slice none 0 0) := by rw [hp.rl]; simp
 refine ⟨⟨E.C, E.β, E.ρ ++ [.slice none 0 0]⟩, ?_, jf3 hg ht (A.repL.mono _ le hrep), hd.mono le⟩
 exact ⟨h1.sub, h1.base, h1.fresh, h1.bp, h1.bnd, h1.bC, by rw [jj3 hb]; exact h1.bl, fun i b cs h2 h3 => by
  obtain ⟨c0, h4, h5⟩ := jk8 hb h3
  obtain ⟨T', arr, h6, h7⟩ := h1.bxs i b c0 h2 h4
  exact ⟨T', arr, h6, h7.rel (jpu s.rw.length) h5 (fun l m us e k => jf3 hg e k) (fun l m e => joB e) fun l t r e => jkG e⟩, h1.rl, h1.rws, h1.rC, h1.rd, h1.rs, h1.keep, h1.gk⟩
theorem jyv {c : Cx} {x : Code} {t : List A} {bx : List (List A)} {rw : List Row} {q : Exit -> S -> Prop} (e : Nat) (ts : List Nat) (cs : List (Nat × Nat))
  (h : jdG rw (.live e 0 0 [.v (.string ⟨#[]⟩)]) 0 fun g rw' => jv9 g ts t fun t' => jrU g cs bx fun bx' => Ok c x ⟨t', bx', rw'⟩ q) : Ok c x ⟨t, bx, rw⟩ q := by
 rw [jaQ, Nat.zero_add] at h
 obtain ⟨t', h1, h⟩ := jfi h
 obtain ⟨bx', h2, h⟩ := jhp h
 exact jwm (jvR (s := ⟨t, bx, rw⟩) e h1 h2) h
def dJ : ByteArray := ⟨#[100, 44, 100, 100, 49]⟩
def vJ : ByteArray := ⟨#[118, 44, 119, 50]⟩
theorem jv2 : Spec Tryz.prog 50 [] [.sl 1 2 (txA duL), jaM pComma] fun _ r => r = jaM dJ := jlE [[100], [100, 100, 49]] 44 (by decide) (by decide) (by decide)
theorem jw9 : Spec Tryz.prog 50 [] [.sl 1 2 (txA voL), jaM pComma] fun _ r => r = jaM vJ := jlE [[118], [119, 50]] 44 (by decide) (by decide) (by decide)
def pT1 : ByteArray := nmF wDurable duL
def pT2 : ByteArray := nmF wDurable duL ++ nmF wVolatile voL
theorem jxb : ja2 (ja2 (ja2 ⟨#[]⟩ wDurable) dJ) pSemi = pT1 := by decide
theorem jxq : ja2 (ja2 (ja2 pT1 wVolatile) vJ) pSemi = pT2 := by decide
theorem jAl : pT1.size <= 100 /\ pT2.size <= 100 := by decide
theorem jsI (full : Bool) (l : List (Int × Nt)) : ∀ (a : ByteArray), 0 < a.size -> 0 < (jp3 full a l).size := by
 induction l with
 | nil => exact fun a h => h
 | cons h l ih => exact fun a ha => ih _ (jbd (jfz (jgy ha)))
theorem jx0 {u : Ut} (h : GU u) : Spec Tryz.prog 31 [] [.agg (utA u)] fun _ r => r = jaM (prF u) := by
 have hpu := h.pu
 have hsz := (jty hpu).1
 obtain ⟨h1, h2, h3, h4, h5⟩ := h
 obtain ⟨du, vo, hs⟩ := u
 simp only at h1 h2 h3 h4 h5
 subst h1
 subst h2
 have jd := jv2
 have jv := jw9
 have e1 := jxb
 have e2 := jxq
 have e3 := jAl
 have e4 : 0 < pT2.size := by decide
 have z0 : (⟨#[]⟩ : ByteArray).size = 0 := rfl
 have z1 : wDurable.size = 7 := rfl
 have z2 : wVolatile.size = 8 := rfl
 have z3 : pSemi.size = 1 := rfl
 have z4 : dJ.size = 5 := rfl
 have z5 : vJ.size = 4 := rfl
 have z6 : 0 < dJ.size := by decide
 have z7 : 0 < vJ.size := by decide
 have epr : prF ⟨duL, voL, hs⟩ = jp3 false pT2 hs := rfl
 rw [epr] at hsz ⊢
 refine jdi (ja1 jaj xs0 0) (fun _ _ h => h) Tryz.func31 rfl (by kernel_rfl) rfl ?_
 intro _
 refine jbS (ja1 _ _ _) (by kernel_rfl) ?_
 conv => whnf
 refine jbS (ja1 _ _ _) (by kernel_rfl) ?_
 conv => whnf
 refine jyv 5 [] [(1, 1)] ?_
 conv => whnf
 refine ⟨trivial, ?_⟩
 conv => whnf
 refine jb4 (ja1 _ _ _) (by kernel_rfl) ?_
 conv => whnf
 generalize pT1 = T1 at *
 generalize pT2 = T2 at *
 obtain ⟨S, hS0, hS1, hS2⟩ : ∃ S : Nat -> ByteArray, S 0 = ⟨#[]⟩ /\ S 1 = T1 /\ S 2 = T2 := ⟨fun j => [⟨#[]⟩, T1, T2].getD j ⟨#[]⟩, rfl, rfl, rfl⟩
 have zS0 : (S 0).size = 0 := by rw [hS0]; rfl
 have zS1 : (S 1).size <= 100 := by rw [hS1]; exact e3.1
 refine jah [1, 3, 12, 13] ?_
 conv => whnf
 refine jaA (fun j : Nat => [(14, .v (.int .i64 j))]) (fun _ => [[.sl 1 2 (txA duL), .sl 1 2 (txA voL), .sl 5 hs.length (ji7 hs)], [.adr PrT, .own 0]]) (fun j => [.live 5 0 (S j).size [.v (.string (S j))], .live 24 1 2 [.sl 1 2 (txA duL), .sl 1 2 (txA voL)]]) (fun j => j <= 2) (fun j => 2 - j) 0 ?_ (by decide) ?_
 ·repeat' constructor
  all_goals (rw [hS0]; rfl)
 rintro j hj
 conv => whnf
 by_cases hlt : j < 2
 ·rw [decide_eq_true (show (j : Int) < ((2 : Nat) : Int) by omega)]
  rcases (by omega : j = 0 ∨ j = 1) with rfl | rfl
  ·conv => whnf
   refine ⟨by decide, ?_⟩
   conv => whnf
   refine ⟨by decide, ?_⟩
   conv => whnf
   refine ja7 1 0 4 [3] rfl rfl rfl rfl rfl rfl rfl (fun _ => (ja6 (S 0) wDurable (by decide) (by omega)).r) ?_
   rintro o n' cs' r ⟨s', rfl, rfl, ho, hs', rfl⟩
   cases ho
   conv => whnf
   have hz2 := ja0 (S 0) wDurable
   rw [<- hs'] at hz2
   have hs2 := hs'
   clear hs'
   generalize s' = s2 at *
   (refine jaa [] rfl (fun _ => jd) ?_; rintro r rfl; conv => whnf)
   refine ja7 1 4 6 [5] rfl rfl rfl rfl rfl rfl rfl (fun _ => (jbN s2 dJ pSemi (by decide) (by decide) (by omega)).r) ?_
   rintro o n' cs' r ⟨s', rfl, rfl, ho, hs', rfl⟩
   cases ho
   conv => whnf
   refine ⟨jax (by omega), ?_⟩
   conv => whnf
   refine ⟨0 + 1, jas [6, 1] ?_, by decide, by decide⟩
   conv => whnf
   rw [show S (0 + 1) = _ from hS1, <- e1, <- hS0, <- hs2, <- hs']
   repeat' constructor
  ·conv => whnf
   refine ⟨by decide, ?_⟩
   conv => whnf
   refine ⟨by decide, ?_⟩
   conv => whnf
   refine ja7 1 0 4 [3] rfl rfl rfl rfl rfl rfl rfl (fun _ => (ja6 (S 1) wVolatile (by decide) (by omega)).r) ?_
   rintro o n' cs' r ⟨s', rfl, rfl, ho, hs', rfl⟩
   cases ho
   conv => whnf
   have hz2 := ja0 (S 1) wVolatile
   rw [<- hs'] at hz2
   have hs2 := hs'
   clear hs'
   generalize s' = s2 at *
   (refine jaa [] rfl (fun _ => jv) ?_; rintro r rfl; conv => whnf)
   refine ja7 1 4 6 [5] rfl rfl rfl rfl rfl rfl rfl (fun _ => (jbN s2 vJ pSemi (by decide) (by decide) (by omega)).r) ?_
   rintro o n' cs' r ⟨s', rfl, rfl, ho, hs', rfl⟩
   cases ho
   conv => whnf
   refine ⟨jax (by omega), ?_⟩
   conv => whnf
   refine ⟨1 + 1, jas [6, 1] ?_, by decide, by decide⟩
   conv => whnf
   rw [show S (1 + 1) = _ from hS2, <- e2, <- hS1, <- hs2, <- hs']
   repeat' constructor
 rw [decide_eq_false (show ¬ (j : Int) < ((2 : Nat) : Int) by omega)]
 obtain rfl : j = 2 := by omega
 rw [hS2]
 conv => whnf
 obtain ⟨V, hV⟩ : ∃ V : Nat -> ByteArray, ∀ j, V j = jp3 false T2 (hs.take j) := ⟨_, fun _ => rfl⟩
 have hV0 : V 0 = T2 := by rw [hV, List.take_zero]; rfl
 have hVl : V hs.length = jp3 false T2 hs := by rw [hV, List.take_length]
 have hVn : ∀ j (h : j < hs.length), V (j + 1) = ja2 (V j) (hdN false hs[j]) := fun j h => by rw [hV, hV, List.take_succ_eq_append_getElem h, jpy]
 have hVz : ∀ j, (V j).size <= 2000000 := fun j => by
  rw [hV]
  have s1 := jgQ false T2 (hs.take j) (fun z hz => (hpu.hd false z (List.mem_of_mem_take hz)).1)
  have hm : (hs.take j).length * 400001 <= 4 * 400001 := Nat.mul_le_mul_right _ (by rw [List.length_take]; omega)
  omega
 rw [<- hVl, <- hV0]
 refine jgG [0] ?_
 conv => whnf
 refine jah [3, 34, 35] ?_
 conv => whnf
 refine jaA (fun j : Nat => [(36, .v (.int .i64 j))]) (fun _ => [[.sl 1 2 (txA duL), .sl 1 2 (txA voL), .sl 5 hs.length (ji7 hs)], [.adr PrT, .own 0]]) (fun j => [.live 5 0 (V j).size [.v (.string (V j))]]) (fun j => j <= hs.length) (fun j => hs.length - j) 0 ?_ (Nat.zero_le _) ?_
 ·repeat' constructor
 rintro j hj
 conv => whnf
 have hz := hVz j
 by_cases hlt : j < hs.length
 ·rw [decide_eq_true (show (j : Int) < (hs.length : Int) by omega)]
  have hr := jh5 hs j hlt
  have hg := h3 _ (List.getElem_mem hlt)
  have hVn := hVn j hlt
  generalize hs[j] = g at *
  obtain ⟨n, b⟩ := g
  obtain ⟨g1, g2, g3⟩ := hg
  have g1 : 0 <= n := g1
  have g2 : n < 40 := g2
  have hb := jzt g3
  have hbk := hb.2.2
  have hbz := hb.1.1
  have hbp := hb.2.1
  have hdn : hdN false (n, b) = jb2 [wOn, hdW n, bkP false b] := rfl
  have hwp : 0 < (hdW n).size := by
   unfold hdW
   have a2 : wMsgS.size = 8 := rfl
   have a3 : wTimS.size = 6 := rfl
   repeat' split
   all_goals first | decide | (rw [ByteArray.size_append]; omega)
  have hpf := jaU (V j) 3 [wOn, hdW n, bkP false b] rfl (by
   intro x hx
   simp only [List.mem_cons, List.not_mem_nil, or_false] at hx
   rcases hx with rfl | rfl | rfl
   ·decide
   ·exact hwp
   ·exact hbp)
  rw [hdn, <- hpf] at hVn
  have hVn : V (j + 1) = ja2 (ja2 (ja2 (V j) wOn) (hdW n)) (bkP false b) := hVn
  clear hpf hdn
  generalize bkP false b = y at *
  have y1 : wOn.size = 2 := rfl
  have y2 : wStart.size = 5 := rfl
  have y3 : wRequest.size = 7 := rfl
  have y4 : wTimer.size = 5 := rfl
  have y5 : wMessage.size = 7 := rfl
  conv => whnf
  refine ⟨by omega, ?_⟩
  conv => whnf
  (generalize hrq : jac _ _ (ji7 hs) = rq; obtain rfl : rq = hnA (n, b) := hrq.symm.trans (hr); clear hrq; conv => whnf)
  refine ja7 1 0 2 [1] rfl rfl rfl rfl rfl rfl rfl (fun _ => (ja6 (V j) wOn (by decide) (by omega)).r) ?_
  rintro o n' cs' r ⟨s', rfl, rfl, ho, hs', rfl⟩
  cases ho
  conv => whnf
  have hz2 := ja0 (V j) wOn
  rw [<- hs'] at hz2
  rw [<- hs'] at hVn
  clear hs'
  generalize s' = s2 at *
  by_cases n0 : n = 0
  ·subst n0
   rw [show hdW 0 = wStart from rfl] at hVn
   conv => whnf
   refine ja7 1 2 4 [3] rfl rfl rfl rfl rfl rfl rfl (fun _ => (ja6 s2 wStart (by decide) (by omega)).r) ?_
   rintro o n' cs' r ⟨s', rfl, rfl, ho, hs', rfl⟩
   cases ho
   conv => whnf
   have hz3 := ja0 s2 wStart
   rw [<- hs'] at hz3
   rw [<- hs'] at hVn
   clear hs'
   generalize s' = s3 at *
   refine ja7 1 4 5 [] rfl rfl rfl rfl rfl rfl rfl (fun _ => hbk s3 (by omega)) ?_
   rintro o n' cs' r ⟨s', rfl, rfl, ho, hs', rfl⟩
   cases ho
   conv => whnf
   refine ⟨jax (by omega), ?_⟩
   conv => whnf
   refine ⟨j + 1, jas [5] ?_, hlt, by omega⟩
   conv => whnf
   rw [hVn, <- hs']
   repeat' constructor
  rw [decide_eq_false n0]
  conv => whnf
  by_cases n1 : n = 1
  ·subst n1
   rw [show hdW 1 = wRequest from rfl] at hVn
   conv => whnf
   refine ja7 1 2 4 [3] rfl rfl rfl rfl rfl rfl rfl (fun _ => (ja6 s2 wRequest (by decide) (by omega)).r) ?_
   rintro o n' cs' r ⟨s', rfl, rfl, ho, hs', rfl⟩
   cases ho
   conv => whnf
   have hz3 := ja0 s2 wRequest
   rw [<- hs'] at hz3
   rw [<- hs'] at hVn
   clear hs'
   generalize s' = s3 at *
   refine ja7 1 4 5 [] rfl rfl rfl rfl rfl rfl rfl (fun _ => hbk s3 (by omega)) ?_
   rintro o n' cs' r ⟨s', rfl, rfl, ho, hs', rfl⟩
   cases ho
   conv => whnf
   refine ⟨jax (by omega), ?_⟩
   conv => whnf
   refine ⟨j + 1, jas [5] ?_, hlt, by omega⟩
   conv => whnf
   rw [hVn, <- hs']
   repeat' constructor
  rw [decide_eq_false n1]
  conv => whnf
  by_cases n9 : n < 10
  ·rw [show hdW n = wTimS ++ bs (jb1 (n - 2).toNat) by unfold hdW; rw [if_neg n1, if_neg (by omega), if_pos (by omega)]] at hVn
   have hdc := jdc (n - 2) (by omega)
   have d1 := jb7 (n - 2).toNat (by omega)
   have d2 := jem (n - 2).toNat
   have d3 : wTimS ++ bs (jb1 (n - 2).toNat) = ja2 wTimer (bs (jb1 (n - 2).toNat)) := (jgD wTimer (by decide) (by decide) _).symm
   rw [d3, <- jaJ _ _ _ (by decide)] at hVn
   clear d3 hwp
   generalize bs (jb1 (n - 2).toNat) = d at *
   rw [decide_eq_true n9]
   conv => whnf
   refine ⟨jax (by omega), ?_⟩
   conv => whnf
   (refine jaa [] rfl (fun _ => hdc) ?_; rintro r rfl; conv => whnf)
   refine ja7 1 2 4 [3] rfl rfl rfl rfl rfl rfl rfl (fun _ => (jbN s2 wTimer d (by decide) d2 (by omega)).r) ?_
   rintro o n' cs' r ⟨s', rfl, rfl, ho, hs', rfl⟩
   cases ho
   conv => whnf
   have hz3 : (ja2 (ja2 s2 wTimer) d).size <= s2.size + 20 := by
    have q1 := ja0 s2 wTimer
    have q2 := ja0 (ja2 s2 wTimer) d
    omega
   rw [<- hs'] at hz3
   rw [<- hs'] at hVn
   clear hs'
   generalize s' = s3 at *
   refine ja7 1 4 5 [] rfl rfl rfl rfl rfl rfl rfl (fun _ => hbk s3 (by omega)) ?_
   rintro o n' cs' r ⟨s', rfl, rfl, ho, hs', rfl⟩
   cases ho
   conv => whnf
   refine ⟨jax (by omega), ?_⟩
   conv => whnf
   refine ⟨j + 1, jas [5] ?_, hlt, by omega⟩
   conv => whnf
   rw [hVn, <- hs']
   repeat' constructor
  ·rw [show hdW n = wMsgS ++ bs (jb1 (n - 10).toNat) by unfold hdW; rw [if_neg n1, if_pos (by omega)]] at hVn
   have hdc := jdc (n - 10) (by omega)
   have d1 := jb7 (n - 10).toNat (by omega)
   have d2 := jem (n - 10).toNat
   have d3 : wMsgS ++ bs (jb1 (n - 10).toNat) = ja2 wMessage (bs (jb1 (n - 10).toNat)) := (jgD wMessage (by decide) (by decide) _).symm
   rw [d3, <- jaJ _ _ _ (by decide)] at hVn
   clear d3 hwp
   generalize bs (jb1 (n - 10).toNat) = d at *
   rw [decide_eq_false n9]
   conv => whnf
   refine ⟨jax (by omega), ?_⟩
   conv => whnf
   (refine jaa [] rfl (fun _ => hdc) ?_; rintro r rfl; conv => whnf)
   refine ja7 1 2 4 [3] rfl rfl rfl rfl rfl rfl rfl (fun _ => (jbN s2 wMessage d (by decide) d2 (by omega)).r) ?_
   rintro o n' cs' r ⟨s', rfl, rfl, ho, hs', rfl⟩
   cases ho
   conv => whnf
   have hz3 : (ja2 (ja2 s2 wMessage) d).size <= s2.size + 22 := by
    have q1 := ja0 s2 wMessage
    have q2 := ja0 (ja2 s2 wMessage) d
    omega
   rw [<- hs'] at hz3
   rw [<- hs'] at hVn
   clear hs'
   generalize s' = s3 at *
   refine ja7 1 4 5 [] rfl rfl rfl rfl rfl rfl rfl (fun _ => hbk s3 (by omega)) ?_
   rintro o n' cs' r ⟨s', rfl, rfl, ho, hs', rfl⟩
   cases ho
   conv => whnf
   refine ⟨jax (by omega), ?_⟩
   conv => whnf
   refine ⟨j + 1, jas [5] ?_, hlt, by omega⟩
   conv => whnf
   rw [hVn, <- hs']
   repeat' constructor
 ·rw [decide_eq_false (show ¬ (j : Int) < (hs.length : Int) by omega)]
  obtain rfl : j = hs.length := by omega
  have hne : 0 < (V hs.length).size := by
   rw [hVl]
   exact jsI false hs T2 e4
  conv => whnf
  refine ja7 1 0 1 [] rfl rfl rfl rfl rfl rfl rfl (fun _ => jgi PrT (V hs.length) hne) ?_
  rintro o n' cs' r ⟨s5, rfl, rfl, ho, rfl, rfl⟩
  cases ho
  conv => whnf
  rfl
section
set_option maxRecDepth 100000
end
def jcM : Int -> List UInt8 -> Int
 | n, [] => n
 | n, c :: r => jcM (10 * n + (c.toNat : Int) - 48) r
theorem jmX {c : UInt8} (h : isD c = true) : 48 <= (c.toNat : Int) /\ (c.toNat : Int) <= 57 := by
 unfold isD at h
 simp only [Bool.and_eq_true, decide_eq_true_eq] at h
 exact h
theorem jhv : ∀ (l : List UInt8) (n : Int), 0 <= n -> (∀ c ∈ l, isD c = true) -> n <= jcM n l
 | [], n, _, _ => Int.le_refl n
 | c :: r, n, h0, h => by
  have hc := jmX (h c (by simp))
  have := jhv r (10 * n + (c.toNat : Int) - 48) (by omega) (fun c hc => h c (by simp [hc]))
  show n <= jcM (10 * n + (c.toNat : Int) - 48) r
  omega
theorem jh9 : ∀ (l : List UInt8) (n : Int), 0 <= n -> n <= 2147483647 -> (∀ c ∈ l, isD c = true) -> jgm n l = if 2147483647 < jcM n l then -1 else jcM n l
 | [], n, _, h, _ => by
  show n = if 2147483647 < n then -1 else n
  rw [if_neg (by omega)]
 | c :: r, n, h0, h1, h => by
  have hc := jmX (h c (by simp))
  have hr : ∀ c ∈ r, isD c = true := fun c hc => h c (by simp [hc])
  show (if 2147483647 < 10 * n + (c.toNat : Int) - 48 then -1 else jgm (10 * n + (c.toNat : Int) - 48) r) = if 2147483647 < jcM (10 * n + (c.toNat : Int) - 48) r then -1 else jcM (10 * n + (c.toNat : Int) - 48) r
  have hg := jhv r (10 * n + (c.toNat : Int) - 48) (by omega) hr
  by_cases hx : 2147483647 < 10 * n + (c.toNat : Int) - 48
  ·rw [if_pos hx, if_pos (by omega)]
  ·rw [if_neg hx, jh9 r _ (by omega) (by omega) hr]
theorem jim : ∀ (l m : List UInt8) (n : Int), jcM n (l ++ m) = jcM (jcM n l) m
 | [], m, n => rfl
 | c :: r, m, n => jim r m _
theorem jrg (n : Nat) : ((UInt8.ofNat (48 + n % 10)).toNat : Int) = 48 + n % 10 := by
 rw [UInt8.toNat_ofNat']; omega
theorem jos : ∀ (f n : Nat), n <= f -> ∀ c ∈ jlY n, isD c = true
 | f, 0, _, c, hc => by rw [jdo] at hc; cases hc
 | 0, n + 1, h, _, _ => by omega
 | f + 1, n + 1, h, c, hc => by
  rw [jcj (by omega)] at hc
  rcases List.mem_append.1 hc with hc | hc
  ·exact jos f ((n + 1) / 10) (by omega) c hc
  ·obtain rfl := List.mem_singleton.1 hc
   unfold isD
   rw [jrg]
   simp only [Bool.and_eq_true, decide_eq_true_eq]
   omega
theorem jnW : ∀ (f n : Nat), n <= f -> jcM 0 (jlY n) = n
 | f, 0, _ => by rw [jdo]; rfl
 | 0, n + 1, h => by omega
 | f + 1, n + 1, h => by
  rw [jcj (by omega), jim, jnW f ((n + 1) / 10) (by omega)]
  show 10 * (((n + 1) / 10 : Nat) : Int) + ((UInt8.ofNat (48 + (n + 1) % 10)).toNat : Int) - 48 = _
  rw [jrg]; omega
theorem jnz (n : Nat) : ∀ c ∈ jb1 n, isD c = true := by
 unfold jb1
 split
 ·intro c hc; obtain rfl := List.mem_singleton.1 hc; decide
 ·exact jos n n (Nat.le_refl _)
theorem jta (n : Nat) : jcM 0 (jb1 n) = n := by
 unfold jb1
 split
 ·rename_i h; subst h; rfl
 ·exact jnW n n (Nat.le_refl _)
theorem jw1 (n : Nat) : jb1 n ≠ [] := by
 unfold jb1
 split
 ·simp
 ·rename_i h; rw [jcj h]; simp
structure Co where
 kind : Int
 text : List UInt8
 n : Int
def jqy (t : Tk) : Co := ⟨t.kind, t.text.data.toList, t.n⟩
def glR : List Co -> ByteArray
 | [] => ⟨#[]⟩
 | x :: l => ja2 (bs x.text) (glR l)
def jfm (x : List UInt8) : Bool := !(decide (x = [60]) || decide (x = [62]) || decide (x = [61]) || decide (x = [33]))
def okN (x : List UInt8) (y : UInt8) : Prop := (jc0 (jcS (bs x)) = true -> jc0 y = false) /\ (jfm x = false -> y ≠ 61)
structure LexT (c : Co) : Prop where
 ne : c.text ≠ []
 st : ∀ y r, c.text = y :: r -> jcd y = false /\ joT y = false
 go : ∀ rest, (∀ y r, rest = y :: r -> okN c.text y) -> jbh (c.text ++ rest) = .tok c.kind c.text.length c.n
def Fine : Bool -> List Co -> Prop
 | _, [] => True
 | b, c :: l => (b = false -> jaw (bs c.text) ≠ 61) /\ Fine (jfm c.text) l
theorem Fine.more {b : Bool} : ∀ {l : List Co}, Fine false l -> Fine b l
 | [], _ => trivial
 | c :: l, h => ⟨fun _ => h.1 rfl, h.2⟩
theorem Fine.app : ∀ {l m : List Co} {b : Bool}, Fine b l -> Fine false m -> Fine b (l ++ m)
 | [], m, b, _, h => h.more
 | c :: l, m, b, h, k => ⟨h.1, h.2.app k⟩
def EndS : List Co -> Prop
 | [] => False
 | [c] => jfm c.text = true
 | _ :: l => EndS l
theorem Fine.app2 : ∀ {l m : List Co} {b : Bool}, Fine b l -> EndS l -> Fine true m -> Fine b (l ++ m)
 | [], m, b, _, h, _ => h.elim
 | [c], m, b, h, e, k => ⟨h.1, by rw [show jfm c.text = true from e]; exact k⟩
 | c :: d :: l, m, b, h, e, k => ⟨h.1, Fine.app2 (l := d :: l) h.2 e k⟩
theorem EndS.app : ∀ {l m : List Co}, EndS m -> EndS (l ++ m)
 | [], m, h => h
 | [c], m, h => by
  cases m with
  | nil => exact h.elim
  | cons d m => exact h
 | c :: d :: l, m, h => EndS.app (l := d :: l) h
theorem jtc {l : List UInt8} (h : l ≠ []) : bs l ≠ ⟨#[]⟩ := by
 rw [jwt, jba]; exact h
theorem jqI {c : Co} {l : List Co} (h : c.text ≠ []) : glR (c :: l) ≠ ⟨#[]⟩ := jfz (jtc h)
theorem jlT {c : Co} {l : List Co} (h : c.text ≠ []) : jaw (glR (c :: l)) = jaw (bs c.text) := by
 show jaw (ja2 _ _) = _
 rw [jbi, jgA]; exact jhN _ (jtc h)
theorem jrM {c : Co} (h : LexT c) (p : Nat) (rest : List UInt8) (hr : ∀ y r, rest = y :: r -> okN c.text y) : jiF p (c.text ++ rest) = Lx.cons ⟨c.kind, p, bs c.text, c.n⟩ (jiF (p + c.text.length) rest) := by
 obtain ⟨h1, h2, h3⟩ := h
 have h3 := h3 rest hr
 cases hc : c.text with
 | nil => exact absurd hc h1
 | cons y r =>
  obtain ⟨g1, g2⟩ := h2 y r hc
  rw [hc] at h3
  have e := jjT (p := p) g1 g2 (r := r ++ rest) h3
  rw [show y :: r ++ rest = y :: (r ++ rest) from rfl, e]
  congr 2
  ·congr 1
   rw [show y :: (r ++ rest) = (y :: r) ++ rest from rfl, List.take_left']
   rfl
  ·rw [show y :: (r ++ rest) = (y :: r) ++ rest from rfl, List.drop_left']
   rfl
theorem jpS : ∀ (l : List Co) (b : Bool) (p : Nat), (∀ c ∈ l, LexT c) -> Fine b l -> ∃ ts, jiF p (glR l).data.toList = ⟨ts, none⟩ /\ ts.map jqy = l
 | [], b, p, _, _ => ⟨[], rfl, rfl⟩
 | c :: l, b, p, hl, hf => by
  have hc := hl c List.mem_cons_self
  have step : ∀ q, ∃ ts, jiF q (glR l).data.toList = ⟨ts, none⟩ /\ ts.map jqy = l := fun q => jpS l _ q (fun d hd => hl d (List.mem_cons_of_mem _ hd)) hf.2
  have e : (glR (c :: l)).data.toList = c.text ++ ((jke (bs c.text) (glR l)).data.toList ++ (glR l).data.toList) := by
   show (ja2 _ _).data.toList = _
   rw [jbi, jiK, jiK, jba, List.append_assoc]
  have hg : jke (bs c.text) (glR l) = ⟨#[]⟩ ∨ (jke (bs c.text) (glR l) = ⟨#[32]⟩) := by
   unfold jke; split; exact .inl rfl; exact .inr rfl
  have fin : ∀ ts : List Tk, ts.map jqy = l -> (⟨c.kind, p, bs c.text, c.n⟩ :: ts : List Tk).map jqy = c :: l := fun ts h => by
   rw [List.map_cons, h]
   rfl
  rcases hg with hg | hg
  ·obtain ⟨ts, h1, h2⟩ := step (p + c.text.length)
   refine ⟨⟨c.kind, p, bs c.text, c.n⟩ :: ts, ?_, fin ts h2⟩
   rw [e, hg]
   rw [show ((⟨#[]⟩ : ByteArray).data.toList ++ (glR l).data.toList) = (glR l).data.toList from rfl]
   rw [jrM hc p _ fun y r hy => ?_, h1]
   ·rfl
   ·cases l with
    | nil => cases hy
    | cons d l =>
     have hd := (hl d (by simp)).ne
     have hfy : jaw (glR (d :: l)) = y := by unfold jaw; rw [hy]; rfl
     rw [jlT hd] at hfy
     refine ⟨fun hx => ?_, fun hx => ?_⟩
     ·unfold jke at hg
      split at hg
      ·rename_i hh
       rcases hh with hh | hh | hh | hh
       ·exact absurd hh (jtc hc.ne)
       ·exact absurd hh (jqI hd)
       ·rw [hx] at hh; cases hh
       ·rw [jlT hd, hfy] at hh; exact hh
      ·exact absurd hg (by decide)
     ·rw [<- hfy]; exact hf.2.1 hx
  ·obtain ⟨ts, h1, h2⟩ := step (p + c.text.length + 1)
   refine ⟨⟨c.kind, p, bs c.text, c.n⟩ :: ts, ?_, fin ts h2⟩
   rw [e, hg]
   rw [show ((⟨#[32]⟩ : ByteArray).data.toList ++ (glR l).data.toList) = 32 :: (glR l).data.toList from rfl]
   rw [jrM hc p _ fun y r hy => ?_, jqT (by decide) (by decide), h1]
   ·rfl
   ·cases hy
    exact ⟨fun _ => by decide, fun _ => by decide⟩
theorem jmU : ∀ (l m : List Co), (∀ c ∈ l, c.text ≠ []) -> (∀ c ∈ m, c.text ≠ []) -> glR (l ++ m) = ja2 (glR l) (glR m)
 | [], m, _, _ => by show glR m = ja2 ⟨#[]⟩ _; unfold ja2; rw [if_pos rfl, juZ]
 | [c], m, _, _ => by
  show ja2 (bs c.text) (glR m) = ja2 (ja2 (bs c.text) ⟨#[]⟩) (glR m)
  rw [show ja2 (bs c.text) ⟨#[]⟩ = bs c.text by rw [jbi]; unfold jke; rw [if_pos (.inr (.inl rfl)), jew, jew]]
 | c :: d :: l, m, h, k => by
  show ja2 (bs c.text) (glR (d :: l ++ m)) = ja2 (ja2 (bs c.text) (glR (d :: l))) (glR m)
  rw [jmU (d :: l) m (fun x hx => h x (List.mem_cons_of_mem _ hx)) k, jaJ _ _ _ (jqI (h d (by simp)))]
theorem jdI {q : UInt8 -> Bool} : ∀ (r rest : List UInt8), (∀ c ∈ r, q c = true) -> (∀ y t, rest = y :: t -> q y = false) -> jae q (r ++ rest) = r.length
 | [], [], _, _ => rfl
 | [], y :: t, _, h => by
  show jae q (y :: t) = 0
  unfold jae; rw [h y t rfl]
 | c :: r, rest, h, k => by
  show jae q (c :: (r ++ rest)) = _
  unfold jae
  rw [h c List.mem_cons_self]
  show jae q (r ++ rest) + 1 = _
  rw [jdI r rest (fun x hx => h x (List.mem_cons_of_mem _ hx)) k]; rfl
theorem jlG {l : List UInt8} (h : l ≠ []) : jcS (bs l) ∈ l := by
 unfold jcS
 rw [jba, jbR]
 have hl : l.length - 1 < l.length := by have := List.length_pos_iff.2 h; omega
 rw [List.getD_eq_getElem?_getD, List.getElem?_eq_getElem hl]
 exact List.getElem_mem hl
theorem jlw {y : UInt8} (h : jc0 y = true) : jcd y = false /\ joT y = false := by
 have : ∀ c : Fin 256, jc0 (UInt8.ofNat c.val) = true -> jcd (UInt8.ofNat c.val) = false /\ joT (UInt8.ofNat c.val) = false := by decide +kernel
 have h2 := this ⟨y.toNat, y.toNat_lt⟩
 simp only [UInt8.ofNat_toNat] at h2
 exact h2 h
theorem jra (c : UInt8) (r : List UInt8) (h1 : isL c = true) (h2 : ∀ x ∈ c :: r, jc0 x = true) (h3 : r.length + 1 <= 10) : LexT ⟨1, c :: r, 0⟩ where
 ne := by simp
 st := fun y t e => by cases e; exact jlw (h2 _ List.mem_cons_self)
 go := fun rest hr => by
  show jbh (c :: (r ++ rest)) = .tok 1 (r.length + 1) 0
  rw [jbh]
  have hs : jae jc0 (r ++ rest) = r.length := jdI r rest (fun x hx => h2 x (List.mem_cons_of_mem _ hx)) fun y t e => (hr y t e).1 (h2 _ (jlG (by simp)))
  rw [h1]
  simp only
  rw [hs, if_neg (by omega)]
theorem jpC {c : UInt8} (h : isD c = true) : jc0 c = true /\ isL c = false := by
 refine ⟨by unfold jc0; rw [h, Bool.or_true], ?_⟩
 have := jmX h
 unfold isL
 rw [decide_eq_false (by omega)]; rfl
theorem jsD (c : UInt8) (r : List UInt8) (h : ∀ x ∈ c :: r, isD x = true) (hv : jcM 0 (c :: r) <= 2147483647) : LexT ⟨2, c :: r, jcM 0 (c :: r)⟩ where
 ne := by simp
 st := fun y t e => by cases e; exact jlw (jpC (h _ List.mem_cons_self)).1
 go := fun rest hr => by
  show jbh (c :: (r ++ rest)) = .tok 2 (r.length + 1) _
  rw [jbh]
  have hs : jae isD (r ++ rest) = r.length := jdI r rest (fun x hx => h x (List.mem_cons_of_mem _ hx)) fun y t e => by
   have := (hr y t e).1 (jpC (h _ (jlG (by simp)))).1
   unfold jc0 at this
   simp only [Bool.or_eq_false_iff] at this
   exact this.2
  have hc := jpC (h c List.mem_cons_self)
  have hvf := jh9 (c :: r) 0 (by omega) (by omega) h
  rw [if_neg (by omega)] at hvf
  have hge := jhv (c :: r) 0 (by omega) h
  rw [hc.2, h c List.mem_cons_self]
  simp only
  rw [hs, List.take_left', hvf, if_neg (by omega)]
  rfl
theorem jtP {c y : UInt8} (h : jcC jhZ (bs [c, y]) = true) : y = 61 ∨ (c = 124 /\ y = 124) ∨ (c = 38 /\ y = 38) := by
 unfold jcC jhZ at h
 simp only [List.any_cons, List.any_nil, Bool.or_eq_true, decide_eq_true_eq, Bool.or_false] at h
 rcases h with h | h | h | h | h | h <;> (have := jxF h; simp at this; simp [<- this.1, <- this.2])
def jsy : List UInt8 := [40, 41, 33, 60, 62, 45, 43, 42, 47, 44, 59, 123, 125, 61]
theorem jj9 : ∀ c ∈ jsy, jcd c = false /\ joT c = false /\ isL c = false /\ isD c = false /\ jcC jpw (bs [c]) = true /\ jcC jhZ (bs [c]) = false := by decide
theorem js6 (c : UInt8) (hc : c ∈ jsy) : LexT ⟨3, [c], 0⟩ where
 ne := by simp
 st := fun y t e => by cases e; exact ⟨(jj9 c hc).1, (jj9 c hc).2.1⟩
 go := fun rest hr => by
  show jbh (c :: rest) = .tok 3 1 0
  obtain ⟨_, _, h1, h2, h3, h4⟩ := jj9 c hc
  have h5 : jcC jhZ (bs ((c :: rest).take 2)) = false := by
   cases rest with
   | nil => exact h4
   | cons y t =>
    show jcC jhZ (bs [c, y]) = false
    cases hq : jcC jhZ (bs [c, y]) with
    | false => rfl
    | true =>
     have hy := (hr y t rfl).2
     rcases jtP hq with h | ⟨h, -⟩ | ⟨h, -⟩
     ·subst h
      exfalso
      refine hy ?_ rfl
      have hall : ∀ c ∈ jsy, jcC jhZ (bs [c, 61]) = true -> jfm [c] = false := by decide
      exact hall c hc hq
     ·subst h; exact absurd hc (by decide)
     ·subst h; exact absurd hc (by decide)
  rw [jbh]
  rw [h1, h2, h5, h3]
def jvL : List (UInt8 × UInt8) := [(124, 124), (38, 38), (61, 61), (60, 61), (62, 61), (33, 61)]
theorem jjE : ∀ q ∈ jvL, jcd q.1 = false /\ joT q.1 = false /\ isL q.1 = false /\ isD q.1 = false /\ jcC jhZ (bs [q.1, q.2]) = true := by decide
theorem jrV (c d : UInt8) (hc : (c, d) ∈ jvL) : LexT ⟨3, [c, d], 0⟩ where
 ne := by simp
 st := fun y t e => by cases e; exact ⟨(jjE _ hc).1, (jjE _ hc).2.1⟩
 go := fun rest hr => by
  show jbh (c :: d :: rest) = .tok 3 2 0
  obtain ⟨_, _, h1, h2, h3⟩ := jjE _ hc
  rw [jbh]
  rw [h1, h2]
  simp only
  rw [show (c :: d :: rest).take 2 = [c, d] from rfl, h3]
section
def jaf (s : ByteArray) : Co := ⟨3, s.data.toList, 0⟩
def jap (s : ByteArray) : Co := ⟨1, s.data.toList, 0⟩
def jg6 (n : Nat) : Co := ⟨2, jb1 n, n⟩
theorem jbc (s : ByteArray) : bs s.data.toList = s := jg1 (jba _)
theorem jwu (c : Co) : glR [c] = bs c.text := by
 show ja2 (bs c.text) ⟨#[]⟩ = _
 exact jgZ _
theorem LexT.num (n : Nat) (hn : n <= 2147483647) : LexT (jg6 n) := by
 have h1 := jnz n
 have h2 := jta n
 have h3 := jw1 n
 unfold jg6
 generalize jb1 n = l at *
 cases l with
 | nil => exact absurd rfl h3
 | cons c r =>
  have := jsD c r h1 (by rw [h2]; omega)
  rw [h2] at this
  exact this
structure TN (b : ByteArray) (l : List Co) : Prop where
 eq : b = glR l
 lx : ∀ c ∈ l, LexT c
 fi : Fine false l
 en : EndS l
theorem TN.one {c : Co} (h : LexT c) (hs : jfm c.text = true) (hf : jaw (bs c.text) ≠ 61) : TN (bs c.text) [c] where
 eq := (jwu c).symm
 lx := fun x hx => by rw [List.mem_singleton.1 hx]; exact h
 fi := ⟨fun _ => hf, trivial⟩
 en := hs
theorem TN.cat {b1 b2 : ByteArray} {l1 l2 : List Co} (h1 : TN b1 l1) (h2 : TN b2 l2) : TN (ja2 b1 b2) (l1 ++ l2) where
 eq := by rw [h1.eq, h2.eq, jmU _ _ (fun c hc => (h1.lx c hc).ne) (fun c hc => (h2.lx c hc).ne)]
 lx := fun x hx => by
  rcases List.mem_append.1 hx with hx | hx
  ·exact h1.lx x hx
  ·exact h2.lx x hx
 fi := h1.fi.app h2.fi
 en := h2.en.app
theorem TN.pre {b : ByteArray} {l : List Co} {o : Co} (ho : LexT o) (hf : jaw (bs o.text) ≠ 61) (h : TN b l) : TN (ja2 (bs o.text) b) (o :: l) where
 eq := by rw [h.eq]; rfl
 lx := fun x hx => by
  rcases List.mem_cons.1 hx with rfl | hx
  ·exact ho
  ·exact h.lx x hx
 fi := ⟨fun _ => hf, h.fi.more⟩
 en := EndS.app (l := [o]) h.en
theorem TN.mid {b1 b2 : ByteArray} {l1 l2 : List Co} {o : Co} (h1 : TN b1 l1) (ho : LexT o) (h2 : TN b2 l2) : TN (ja2 (ja2 b1 (bs o.text)) b2) (l1 ++ o :: l2) where
 eq := by
  rw [h1.eq, h2.eq, jaJ _ _ _ (jtc ho.ne), jmU _ _ (fun c hc => (h1.lx c hc).ne) (fun c hc => by
   rcases List.mem_cons.1 hc with rfl | hc
   ·exact ho.ne
   ·exact (h2.lx c hc).ne)]
  rfl
 lx := fun x hx => by
  rcases List.mem_append.1 hx with hx | hx
  ·exact h1.lx x hx
  ·rcases List.mem_cons.1 hx with rfl | hx
   ·exact ho
   ·exact h2.lx x hx
 fi := h1.fi.app2 h1.en ⟨(fun h => by cases h), h2.fi.more⟩
 en := EndS.app (EndS.app (l := [o]) h2.en)
theorem TN.ne {b : ByteArray} {l : List Co} (h : TN b l) : b ≠ ⟨#[]⟩ := by
 have he := h.en
 rw [h.eq]
 cases l with
 | nil => exact he.elim
 | cons c l => exact jqI (h.lx c List.mem_cons_self).ne
theorem jmb (s : ByteArray) (c : UInt8) (hs : s.data.toList = [c]) (hc : c ∈ jsy) : LexT (jaf s) := by
 unfold jaf; rw [hs]; exact js6 c hc
theorem joS (s : ByteArray) (c d : UInt8) (hs : s.data.toList = [c, d]) (hc : (c, d) ∈ jvL) : LexT (jaf s) := by
 unfold jaf; rw [hs]; exact jrV c d hc
def jyV : List UInt8 -> Bool
 | [] => false
 | c :: r => isL c && (c :: r).all jc0 && decide (r.length + 1 <= 10)
theorem jg7 (s : ByteArray) (h : jyV s.data.toList = true) : LexT (jap s) := by
 unfold jap
 generalize s.data.toList = l at *
 cases l with
 | nil => cases h
 | cons c r =>
  unfold jyV at h
  simp only [Bool.and_eq_true, decide_eq_true_eq] at h
  exact jra c r h.1.1 (fun x hx => List.all_eq_true.1 h.1.2 x hx) h.2
def jd2 (p lv : Int) (fu : Bool) (l : List Co) : List Co := if p < lv then jaf pLp :: l ++ [jaf pRp] else if fu = true then (if p < 8 then jaf pLp :: l ++ [jaf pRp] else l) else l
theorem jyY : LexT (jaf pLp) := jmb pLp 40 rfl (by decide)
theorem jyu : LexT (jaf pRp) := jmb pRp 41 rfl (by decide)
theorem TN.par {b : ByteArray} {l : List Co} (h : TN b l) (p lv : Int) (fu : Bool) : TN (jev p lv fu b) (jd2 p lv fu l) := by
 have h1 := (h.pre jyY (by decide)).cat (TN.one jyu (by decide) (by decide))
 have e : pLp ++ b ++ pRp = ja2 (ja2 (bs (jaf pLp).text) b) (bs (jaf pRp).text) := by
  rw [show bs (jaf pLp).text = pLp from rfl, show bs (jaf pRp).text = pRp from rfl, jiC pLp b (by decide), jbD _ pRp (by decide)]
 rw [<- e] at h1
 unfold jd2 jev
 by_cases hp : p < lv
 ·rw [if_pos hp, if_pos hp]; exact h1
 ·rw [if_neg hp, if_neg hp]
  cases fu with
  | false => exact h
  | true =>
   rw [if_pos rfl, if_pos rfl]
   by_cases hp8 : p < 8
   ·rw [if_pos hp8, if_pos hp8]; exact h1
   ·rw [if_neg hp8, if_neg hp8]; exact h
def noT : Int -> List Co := fun _ => []
def jzA (k n : Int) (s : ByteArray) (g : List (Int -> List Co)) : List Co :=
 if k = 12 then [jg6 n.toNat]
 else if k = 13 then [jap (tfB n)]
 else if k = 16 then jap wDraw :: jaf pLp :: (g.getD 0 noT) 1 ++ [jaf pRp]
 else if k = 17 then jaf s :: (g.getD 0 noT) (jab k s)
 else if k = 18 then (g.getD 0 noT) (if jab k s = 4 then 5 else jab k s) ++ jaf s :: (g.getD 1 noT) (jab k s + 1)
 else [jap s]
mutual
def tkN (fu : Bool) : Nt -> Int -> List Co
 | .mk k n s kids, req => jd2 (jab k s) req fu (jzA k n s (jAK fu kids))
def jAK (fu : Bool) : List Nt -> List (Int -> List Co)
 | [] => []
 | f :: l => tkN fu f :: jAK fu l
end
variable {fu : Bool}
def TE (fu : Bool) (f : Nt) : Prop := ∀ lv, TN (shN fu f lv) (tkN fu f lv)
theorem juh (n : Nat) (hn : n <= 2147483647) : TE fu (.mk 12 n eB []) := fun lv => by
 have h := TN.one (LexT.num n hn) (by
  have h1 := jnz n
  show jfm (jb1 n) = true
  unfold jfm
  rw [decide_eq_false (fun e => by rw [e] at h1; exact absurd (h1 60 (by simp)) (by decide)), decide_eq_false (fun e => by rw [e] at h1; exact absurd (h1 62 (by simp)) (by decide)), decide_eq_false (fun e => by rw [e] at h1; exact absurd (h1 61 (by simp)) (by decide)), decide_eq_false (fun e => by rw [e] at h1; exact absurd (h1 33 (by simp)) (by decide))]
  rfl) (by
  have h2 := jfZ n
  show jaw (bs (jb1 n)) ≠ 61
  intro e
  rw [e] at h2
  exact absurd h2 (by decide))
 exact h.par 8 lv fu
theorem jud (k : Int) (hk : k = 14 ∨ k = 15) (s : ByteArray) (hw : LexT (jap s)) (h1 : jfm s.data.toList = true) (h2 : jaw s ≠ 61) : TE fu (.mk k 0 s []) := fun lv => by
 have h := TN.one hw h1 (by rw [show (jap s).text = s.data.toList from rfl, jbc]; exact h2)
 rw [show (jap s).text = s.data.toList from rfl, jbc] at h
 rcases hk with rfl | rfl
 ·exact h.par 8 lv fu
 ·exact h.par 8 lv fu
theorem jv3 (n : Nat) (hn : n < 2) : TE fu (.mk 13 n eB []) := fun lv => by
 have hw : LexT (jap (tfB n)) /\ jfm (tfB n).data.toList = true /\ jaw (tfB n) ≠ 61 := by
  rcases (by omega : n = 0 ∨ n = 1) with rfl | rfl
  ·exact ⟨jg7 _ (by decide), by decide, by decide⟩
  ·exact ⟨jg7 _ (by decide), by decide, by decide⟩
 have h := TN.one hw.1 hw.2.1 (by rw [show (jap (tfB n)).text = (tfB n).data.toList from rfl, jbc]; exact hw.2.2)
 rw [show (jap (tfB n)).text = (tfB n).data.toList from rfl, jbc] at h
 exact h.par 8 lv fu
theorem jxI (f : Nt) (hf : TE fu f) : TE fu (.mk 16 0 eB [f]) := fun lv => by
 have hd : LexT (jap wDraw) := jg7 _ (by decide)
 have h := (((hf 1).pre jyY (by decide)).pre hd (by decide)).cat (TN.one jyu (by decide) (by decide))
 have e : shN fu (.mk 16 0 eB [f]) lv = jev 8 lv fu (jb2 [wDraw, pLp, shN fu f 1, pRp]) := rfl
 have e2 : jb2 [wDraw, pLp, shN fu f 1, pRp] = ja2 (ja2 (bs (jap wDraw).text) (ja2 (bs (jaf pLp).text) (shN fu f 1))) (bs (jaf pRp).text) := by
  show ja2 (ja2 (ja2 (ja2 eB wDraw) pLp) (shN fu f 1)) pRp = _
  rw [jbt, jaJ wDraw pLp _ (by decide)]
  rfl
 rw [e, e2]
 exact h.par 8 lv fu
theorem jum (s : ByteArray) (hs : LexT (jaf s)) (h2 : jaw s ≠ 61) (f : Nt) (hf : TE fu f) : TE fu (.mk 17 0 s [f]) := fun lv => by
 have h := (hf (jab 17 s)).pre hs (by rw [show (jaf s).text = s.data.toList from rfl, jbc]; exact h2)
 rw [show (jaf s).text = s.data.toList from rfl, jbc] at h
 have e : shN fu (.mk 17 0 s [f]) lv = jev (jab 17 s) lv fu (jb2 [s, shN fu f (jab 17 s)]) := rfl
 have e2 : jb2 [s, shN fu f (jab 17 s)] = ja2 s (shN fu f (jab 17 s)) := by
  show ja2 (ja2 eB s) _ = _
  rw [jbt]
 rw [e, e2]
 exact h.par (jab 17 s) lv fu
theorem jqD (s : ByteArray) (hs : LexT (jaf s)) (f g : Nt) (hf : TE fu f) (hg : TE fu g) : TE fu (.mk 18 0 s [f, g]) := fun lv => by
 have h := (hf (if jab 18 s = 4 then 5 else jab 18 s)).mid hs (hg (jab 18 s + 1))
 rw [show (jaf s).text = s.data.toList from rfl, jbc] at h
 have e : shN fu (.mk 18 0 s [f, g]) lv = jev (jab 18 s) lv fu (jb2 [shN fu f (if jab 18 s = 4 then 5 else jab 18 s), s, shN fu g (jab 18 s + 1)]) := rfl
 have e2 : jb2 [shN fu f (if jab 18 s = 4 then 5 else jab 18 s), s, shN fu g (jab 18 s + 1)] = ja2 (ja2 (shN fu f (if jab 18 s = 4 then 5 else jab 18 s)) s) (shN fu g (jab 18 s + 1)) := by
  show ja2 (ja2 (ja2 eB _) s) _ = _
  rw [jbt]
 rw [e, e2]
 exact h.par (jab 18 s) lv fu
theorem jwd : ∀ s ∈ opL, LexT (jaf s) := fun s hs => by
 unfold opL at hs
 simp only [List.mem_cons, List.not_mem_nil, or_false] at hs
 rcases hs with rfl | rfl | rfl | rfl
 ·exact jmb _ 43 rfl (by decide)
 ·exact jmb _ 45 rfl (by decide)
 ·exact jmb _ 42 rfl (by decide)
 ·exact jmb _ 47 rfl (by decide)
theorem jtU : ∀ s ∈ bolL, LexT (jaf s) := fun s hs => by
 unfold bolL at hs
 simp only [List.mem_cons, List.not_mem_nil, or_false] at hs
 rcases hs with rfl | rfl
 ·exact joS _ 38 38 rfl (by decide)
 ·exact joS _ 124 124 rfl (by decide)
theorem jtQ : ∀ s ∈ cmpL, LexT (jaf s) := fun s hs => by
 unfold cmpL at hs
 simp only [List.mem_cons, List.not_mem_nil, or_false] at hs
 rcases hs with rfl | rfl | rfl | rfl | rfl | rfl
 ·exact jmb _ 60 rfl (by decide)
 ·exact joS _ 60 61 rfl (by decide)
 ·exact jmb _ 62 rfl (by decide)
 ·exact joS _ 62 61 rfl (by decide)
 ·exact joS _ 61 61 rfl (by decide)
 ·exact joS _ 33 61 rfl (by decide)
theorem jup : ∀ s ∈ varL, LexT (jap s) /\ jfm s.data.toList = true /\ jaw s ≠ 61 := fun s hs => by
 unfold varL at hs
 simp only [List.mem_cons, List.not_mem_nil, or_false] at hs
 rcases hs with rfl | rfl | rfl | rfl <;> exact ⟨jg7 _ (by decide), by decide, by decide⟩
theorem jtO : ∀ s ∈ builtL, LexT (jap s) /\ jfm s.data.toList = true /\ jaw s ≠ 61 := fun s hs => by
 unfold builtL at hs
 simp only [List.mem_cons, List.not_mem_nil, or_false] at hs
 rcases hs with rfl | rfl | rfl | rfl | rfl | rfl | rfl | rfl | rfl <;> exact ⟨jg7 _ (by decide), by decide, by decide⟩
theorem juv : ∀ n ∈ litL, ∃ m : Nat, n = m /\ m <= 2147483647 := fun n hn => by
 have h : ∀ n ∈ litL, 0 <= n /\ n <= 2147483647 := by decide
 have := h n hn
 exact ⟨n.toNat, by omega, by omega⟩
theorem jj4 {d : Nat} {f : Nt} (h : EI d f) : TE fu f := by
 induction h with
 | lit d n h => obtain ⟨m, rfl, hm⟩ := juv n h; exact juh m hm
 | var d s h => obtain ⟨a, b, c⟩ := jup s h; exact jud 14 (.inl rfl) s a b c
 | nam d s h => obtain ⟨a, b, c⟩ := jtO s h; exact jud 15 (.inr rfl) s a b c
 | drw d f h ih => exact jxI f ih
 | neg d f h ih => exact jum pMinus (jmb _ 45 rfl (by decide)) (by decide) f ih
 | bin d s f g hs h1 h2 i1 i2 => exact jqD s (jwd s hs) f g i1 i2
theorem jyB {d : Nat} {f : Nt} (h : EB d f) : TE fu f := by
 induction h with
 | lit d n h => exact jv3 n h
 | nt d f h ih => exact jum pNot (jmb _ 33 rfl (by decide)) (by decide) f ih
 | bin d s f g hs h1 h2 i1 i2 => exact jqD s (jtU s hs) f g i1 i2
 | cmp d s f g hs h1 h2 => exact jqD s (jtQ s hs) f g (jj4 h1) (jj4 h2)
end
section
variable {fu : Bool}
def cmT : List (List Co) -> List Co
 | [] => []
 | x :: l => x ++ l.flatMap fun y => jaf pComma :: y
theorem jsZ (x : List Co) (l : List (List Co)) (y : List Co) : cmT (x :: l ++ [y]) = cmT (x :: l) ++ jaf pComma :: y := by
 unfold cmT
 show x ++ (l ++ [y]).flatMap _ = _
 rw [List.flatMap_append, List.flatMap_cons, List.flatMap_nil, List.append_nil, List.append_assoc]
theorem jpD : LexT (jaf pComma) := jmb pComma 44 rfl (by decide)
theorem jy0 : LexT (jaf pSemi) := jmb pSemi 59 rfl (by decide)
theorem jzH : LexT (jaf pEq) := jmb pEq 61 rfl (by decide)
theorem jzz : LexT (jaf pLb) := jmb pLb 123 rfl (by decide)
theorem jzk : LexT (jaf pRb) := jmb pRb 125 rfl (by decide)
theorem jxh : ∀ (n : Nat) (l : List Nt), l.length = n + 1 -> (∀ f ∈ l, TE fu f) -> TN (cmF (l.map fun f => shN fu f 1)) (cmT (l.map fun f => tkN fu f 1))
 | 0, l, hl, h => by
  obtain ⟨f, rfl⟩ := List.length_eq_one_iff.1 hl
  have h1 := h f List.mem_cons_self 1
  show TN (ja2 eB (shN fu f 1)) (tkN fu f 1 ++ [])
  rw [jbt, List.append_nil]
  exact h1
 | n + 1, l, hl, h => by
  have hne : l ≠ [] := fun e => by rw [e] at hl; cases hl
  have e := List.dropLast_concat_getLast hne
  have hy := h _ (List.getLast_mem hne) 1
  have ih := jxh n l.dropLast (by rw [List.length_dropLast]; omega) fun f hf => h f (List.dropLast_subset l hf)
  generalize l.getLast hne = y at *
  have hd : l.dropLast ≠ [] := fun e0 => by rw [e0] at e; rw [<- e] at hl; simp at hl
  generalize l.dropLast = m at *
  subst e
  cases m with
  | nil => exact absurd rfl hd
  | cons x m =>
   rw [List.map_append, List.map_append]
   show TN (cmF ((shN fu x 1 :: m.map fun f => shN fu f 1) ++ [shN fu y 1])) (cmT ((tkN fu x 1 :: m.map fun f => tkN fu f 1) ++ [tkN fu y 1]))
   rw [jfd, jsZ]
   have h1 := ih.mid jpD hy
   have e1 : bs (jaf pComma).text = pComma := rfl
   rw [e1, jbD _ pComma (by decide)] at h1
   exact h1
def lsT (fu : Bool) (l : List Nt) : List Co := cmT (l.map fun f => tkN fu f 1) ++ [jaf pSemi]
theorem jvb (l : List Nt) (hl : l ≠ []) (h : ∀ f ∈ l, TE fu f) : TN (jaY fu l) (lsT fu l) := by
 have h1 := jxh (l.length - 1) l (by have := List.length_pos_iff.2 hl; omega) h
 have h2 := h1.cat (TN.one jy0 (by decide) (by decide))
 rw [show bs (jaf pSemi).text = pSemi from rfl, jbD _ pSemi (by decide)] at h2
 exact h2
def jB2 (fu : Bool) (k n : Int) (s : ByteArray) (kids : List Nt) (bks : List (List Co)) : List Co :=
 if k = 1 then jap s :: jaf pEq :: lsT fu kids
 else if k = 3 then jap wWhile :: tkN fu (kid kids 0) 1 ++ bks.getD 1 []
 else if k = 4 then jap wSend :: tkN fu (kid kids 0) 1 ++ jaf pComma :: jg6 n.toNat :: jaf pComma :: lsT fu (kids.drop 1)
 else if k = 5 then [jap wTimer, jg6 n.toNat, jaf pSemi]
 else if k = 6 then [jap wCancel, jg6 n.toNat, jaf pSemi]
 else if k = 7 then [jap wSync, jaf pSemi]
 else if k = 10 then [jap wStop, jaf pSemi]
 else if k = 8 then jap wReply :: lsT fu kids
 else if k = 9 then jap wFail :: lsT fu kids
 else if 0 < (kid kids 2).kids.length then jap wIf :: tkN fu (kid kids 0) 1 ++ bks.getD 1 [] ++ jap wElse :: bks.getD 2 [] else jap wIf :: tkN fu (kid kids 0) 1 ++ bks.getD 1 []
mutual
def tkS (fu : Bool) : Nt -> List Co
 | .mk k n s kids => jB2 fu k n s kids (jAR fu kids)
def tkB (fu : Bool) : Nt -> List Co
 | .mk _ _ _ kids => jaf pLb :: (jz5 fu kids).flatten ++ [jaf pRb]
def jz5 (fu : Bool) : List Nt -> List (List Co)
 | [] => []
 | f :: l => tkS fu f :: jz5 fu l
def jAR (fu : Bool) : List Nt -> List (List Co)
 | [] => []
 | f :: l => tkB fu f :: jAR fu l
end
theorem jgE : ∀ l : List Nt, jz5 fu l = l.map (tkS fu)
 | [] => rfl
 | f :: l => by rw [jz5, jgE l]; rfl
def TS (fu : Bool) (f : Nt) : Prop := TN (stP fu f) (tkS fu f)
def TB (fu : Bool) (f : Nt) : Prop := TN (bkP fu f) (tkB fu f)
theorem jns (l : List Nt) (h : ∀ f ∈ l, TS fu f) : TB fu (jbg l) := by
 have key : ∀ (m : List Nt) (b : ByteArray) (t : List Co), TN b t -> (∀ f ∈ m, TS fu f) -> TN ((m.map (stP fu)).foldl ja2 b) (t ++ (m.map (tkS fu)).flatten) := fun m => by
  induction m with
  | nil => intro b t h _; rw [List.map_nil, List.map_nil, List.flatten_nil, List.append_nil]; exact h
  | cons f m ih =>
   intro b t h1 h2
   have h3 := ih (ja2 b (stP fu f)) (t ++ tkS fu f) (h1.cat (h2 f List.mem_cons_self)) fun g hg => h2 g (List.mem_cons_of_mem _ hg)
   rw [List.map_cons, List.map_cons, List.flatten_cons, <- List.append_assoc]
   exact h3
 have h1 := key l pLb [jaf pLb] (TN.one jzz (by decide) (by decide)) h
 have h2 := h1.cat (TN.one jzk (by decide) (by decide))
 unfold TB
 have e : bkP fu (jbg l) = bkL fu l ++ pRb := jrO _ _ _ _ _
 have e2 : tkB fu (jbg l) = jaf pLb :: (l.map (tkS fu)).flatten ++ [jaf pRb] := by
  unfold jbg
  rw [tkB, jgE]
 rw [e, e2]
 rw [show bs (jaf pRb).text = pRb from rfl, jbD _ pRb (by decide)] at h2
 exact h2
theorem jxr (s : ByteArray) (hw : LexT (jap s) /\ jfm s.data.toList = true /\ jaw s ≠ 61) (l : List Nt) (hl : l ≠ []) (h : ∀ f ∈ l, TE fu f) : TS fu (.mk 1 0 s l) := by
 have h0 := TN.one hw.1 hw.2.1 (by rw [show (jap s).text = s.data.toList from rfl, jbc]; exact hw.2.2)
 rw [show (jap s).text = s.data.toList from rfl, jbc] at h0
 have h1 := h0.mid jzH (jvb l hl h)
 have e : stP fu (.mk 1 0 s l) = ja2 (ja2 s pEq) (jaY fu l) := by
  show ja2 (ja2 (ja2 eB s) pEq) (jaY fu l) = _
  rw [jbt]
 show TN (stP fu (.mk 1 0 s l)) _
 rw [e]
 exact h1
theorem ju1 (w : ByteArray) (hw : LexT (jap w)) (hf : jaw w ≠ 61) (l : List Nt) (hl : l ≠ []) (h : ∀ f ∈ l, TE fu f) : TN (jb2 [w, jaY fu l]) (jap w :: lsT fu l) := by
 have h1 := (jvb l hl h).pre hw (by rw [show (jap w).text = w.data.toList from rfl, jbc]; exact hf)
 rw [show (jap w).text = w.data.toList from rfl, jbc] at h1
 show TN (ja2 (ja2 eB w) (jaY fu l)) _
 rw [jbt]
 exact h1
theorem jy2 (l : List Nt) (hl : l ≠ []) (h : ∀ f ∈ l, TE fu f) : TS fu (.mk 8 0 eB l) := ju1 wReply (jg7 _ (by decide)) (by decide) l hl h
theorem jxt (l : List Nt) (hl : l ≠ []) (h : ∀ f ∈ l, TE fu f) : TS fu (.mk 9 0 eB l) := ju1 wFail (jg7 _ (by decide)) (by decide) l hl h
end
section
variable {fu : Bool}
theorem jo2 (n : Nat) (hn : n <= 2147483647) : TN (bs (jb1 n)) [jg6 n] := juh (fu := false) n hn 0
theorem TN.wrd {b : ByteArray} {l : List Co} (w : ByteArray) (hw : LexT (jap w)) (hf : jaw w ≠ 61) (h : TN b l) : TN (ja2 w b) (jap w :: l) := by
 have h1 := h.pre hw (by rw [show (jap w).text = w.data.toList from rfl, jbc]; exact hf)
 rw [show (jap w).text = w.data.toList from rfl, jbc] at h1
 exact h1
theorem TN.end {b : ByteArray} {l : List Co} (h : TN b l) : TN (ja2 b pSemi) (l ++ [jaf pSemi]) := h.cat (TN.one jy0 (by decide) (by decide))
theorem jdO (w : ByteArray) (hw : LexT (jap w)) (hs : jfm w.data.toList = true) (hf : jaw w ≠ 61) : TN w [jap w] := by
 have h0 := TN.one hw hs (by rw [show (jap w).text = w.data.toList from rfl, jbc]; exact hf)
 rw [show (jap w).text = w.data.toList from rfl, jbc] at h0
 exact h0
theorem ju2 (k : Int) (hk : k = 5 ∨ k = 6) (n : Nat) (hn : n < 1000) : TS fu (.mk k n eB []) := by
 have hd := jo2 n (by omega)
 rcases hk with rfl | rfl
 ·have h := (hd.wrd wTimer (jg7 _ (by decide)) (by decide)).end
  have e : stP fu (.mk 5 n eB []) = ja2 (ja2 wTimer (bs (jb1 n))) pSemi := by
   show ja2 (ja2 (ja2 eB wTimer) (bs (jb1 n))) pSemi = _
   rw [jbt]
  show TN (stP fu (.mk 5 n eB [])) _
  rw [e]
  exact h
 ·have h := (hd.wrd wCancel (jg7 _ (by decide)) (by decide)).end
  have e : stP fu (.mk 6 n eB []) = ja2 (ja2 wCancel (bs (jb1 n))) pSemi := by
   show ja2 (ja2 (ja2 eB wCancel) (bs (jb1 n))) pSemi = _
   rw [jbt]
  show TN (stP fu (.mk 6 n eB [])) _
  rw [e]
  exact h
theorem juE (k : Int) (hk : k = 7 ∨ k = 10) : TS fu (.mk k 0 eB []) := by
 rcases hk with rfl | rfl
 ·have h := (jdO wSync (jg7 _ (by decide)) (by decide) (by decide)).end
  show TN (stP fu (.mk 7 0 eB [])) _
  rw [show stP fu (.mk 7 0 eB []) = ja2 wSync pSemi by (show syncB = _); decide]
  exact h
 ·have h := (jdO wStop (jg7 _ (by decide)) (by decide) (by decide)).end
  show TN (stP fu (.mk 10 0 eB [])) _
  rw [show stP fu (.mk 10 0 eB []) = ja2 wStop pSemi by (show stopB = _); decide]
  exact h
theorem jyO (n : Nat) (hn : n < 1000) (f g h : Nt) (hf : TE fu f) (hg : TE fu g) (hh : TE fu h) : TS fu (.mk 4 n eB [f, g, h]) := by
 have hl := jvb [g, h] (by simp) fun x hx => by
  simp only [List.mem_cons, List.not_mem_nil, or_false] at hx
  rcases hx with rfl | rfl
  ·exact hg
  ·exact hh
 have h1 := (((hf 1).wrd wSend (jg7 _ (by decide)) (by decide)).mid jpD (jo2 n (by omega))).mid jpD hl
 have e : stP fu (.mk 4 n eB [f, g, h]) = ja2 (ja2 (ja2 (ja2 (ja2 wSend (shN fu f 1)) pComma) (bs (jb1 n))) pComma) (jaY fu [g, h]) := by
  show ja2 (ja2 (ja2 (ja2 (ja2 (ja2 eB wSend) (shN fu f 1)) pComma) (bs (jb1 n))) pComma) (jaY fu [g, h]) = _
  rw [jbt]
 have e2 : tkS fu (.mk 4 n eB [f, g, h]) = (jap wSend :: tkN fu f 1 ++ jaf pComma :: [jg6 n]) ++ jaf pComma :: lsT fu [g, h] := by
  show jap wSend :: tkN fu f 1 ++ jaf pComma :: jg6 n :: jaf pComma :: lsT fu [g, h] = _
  simp
 show TN _ _
 rw [e, e2]
 exact h1
theorem jxp (c b : Nt) (hc : TE fu c) (hb : TB fu b) : TS fu (.mk 3 0 eB [c, b]) := by
 have h1 := ((hc 1).wrd wWhile (jg7 _ (by decide)) (by decide)).cat hb
 have e : stP fu (.mk 3 0 eB [c, b]) = ja2 (ja2 wWhile (shN fu c 1)) (bkP fu b) := by
  show ja2 (ja2 (ja2 eB wWhile) (shN fu c 1)) (bkP fu b) = _
  rw [jbt]
 show TN (stP fu (.mk 3 0 eB [c, b])) _
 rw [e]
 exact h1
theorem jwY (c b d : Nt) (hc : TE fu c) (hb : TB fu b) (hd : TB fu d) : TS fu (.mk 2 0 eB [c, b, d]) := by
 have h1 := ((hc 1).wrd wIf (jg7 _ (by decide)) (by decide)).cat hb
 have e : stP fu (.mk 2 0 eB [c, b, d]) = if 0 < d.kids.length then jb2 [jb2 [wIf, shN fu c 1, bkP fu b], wElse, bkP fu d] else jb2 [wIf, shN fu c 1, bkP fu b] := rfl
 have e3 : jb2 [wIf, shN fu c 1, bkP fu b] = ja2 (ja2 wIf (shN fu c 1)) (bkP fu b) := by
  show ja2 (ja2 (ja2 eB wIf) (shN fu c 1)) (bkP fu b) = _
  rw [jbt]
 have e2 : tkS fu (.mk 2 0 eB [c, b, d]) = if 0 < d.kids.length then jap wIf :: tkN fu c 1 ++ tkB fu b ++ jap wElse :: tkB fu d else jap wIf :: tkN fu c 1 ++ tkB fu b := rfl
 show TN _ _
 rw [e, e2, e3]
 by_cases hl : 0 < d.kids.length
 ·rw [if_pos hl, if_pos hl]
  have h2 := h1.cat (hd.wrd wElse (jg7 _ (by decide)) (by decide))
  show TN (ja2 (ja2 (ja2 eB (ja2 (ja2 wIf (shN fu c 1)) (bkP fu b))) wElse) (bkP fu d)) _
  rw [jbt, jaJ _ _ _ (by decide)]
  exact h2
 ·rw [if_neg hl, if_neg hl]
  exact h1
theorem jzX {d : Nat} {f : Nt} (h : ES d f) : TS fu f := by
 induction h with
 | asg d e s f hs h he => exact jxr s (jup s hs) [f] (by simp) fun x hx => by rw [List.mem_singleton.1 hx]; exact jj4 h
 | snd d n f g h hn h1 h2 h3 => exact jyO n (by omega) f g h (jj4 h1) (jj4 h2) (jj4 h3)
 | tim d n hn => exact ju2 5 (.inl rfl) n (by omega)
 | can d n hn => exact ju2 6 (.inr rfl) n (by omega)
 | syn d => exact juE 7 (.inl rfl)
 | rep d f g h1 h2 =>
  refine jy2 [f, g] (by simp) ?_
  intro x hx
  simp only [List.mem_cons, List.not_mem_nil, or_false] at hx
  rcases hx with rfl | rfl
  ·exact jj4 h1
  ·exact jj4 h2
 | fai d f h1 => exact jxt [f] (by simp) fun x hx => by rw [List.mem_singleton.1 hx]; exact jj4 h1
 | stp d => exact juE 10 (.inr rfl)
 | whi d c l h1 h2 h3 ih => exact jxp c (jbg l) (jyB h1) (jns l ih)
 | iff d c l m h1 h2 h3 h4 h5 ih1 ih2 => exact jwY c (jbg l) (jbg m) (jyB h1) (jns l ih1) (jns m ih2)
theorem jAn {b : Nt} (h : EK b) : TB fu b := by
 obtain ⟨k, rfl, h1, h2⟩ := h
 exact jns k fun s hs => jzX (h2 s hs)
def jpt (n : Int) : List Co := if n = 1 then [jap wRequest] else if 10 <= n then [jap wMessage, jg6 (n - 10).toNat] else if 2 <= n then [jap wTimer, jg6 (n - 2).toNat] else [jap wStart]
theorem jyE (n : Int) (hn : n < 40) : TN (hdW n) (jpt n) := by
 unfold hdW jpt
 repeat' split
 ·exact jdO _ (jg7 _ (by decide)) (by decide) (by decide)
 ·rw [show wMsgS = wMessage ++ ⟨#[32]⟩ by decide, <- jgD wMessage (by decide) (by decide)]
  exact (jo2 _ (by omega)).wrd wMessage (jg7 _ (by decide)) (by decide)
 ·rw [show wTimS = wTimer ++ ⟨#[32]⟩ by decide, <- jgD wTimer (by decide) (by decide)]
  exact (jo2 _ (by omega)).wrd wTimer (jg7 _ (by decide)) (by decide)
 ·exact jdO _ (jg7 _ (by decide)) (by decide) (by decide)
def jfI (fu : Bool) (h : Int × Nt) : List Co := jap wOn :: jpt h.1 ++ tkB fu h.2
theorem jAy (h : Int × Nt) (hn : h.1 < 40) (hb : TB fu h.2) : TN (hdN fu h) (jfI fu h) := by
 have h1 := ((jyE h.1 hn).wrd wOn (jg7 _ (by decide)) (by decide)).cat hb
 show TN (ja2 (ja2 (ja2 eB wOn) (hdW h.1)) (bkP fu h.2)) _
 rw [jbt]
 exact h1
def dcTk : List Co := [jap wDurable, jap ⟨#[100]⟩, jaf pComma, jap ⟨#[100, 100, 49]⟩, jaf pSemi, jap wVolatile, jap ⟨#[118]⟩, jaf pComma, jap ⟨#[119, 50]⟩, jaf pSemi]
theorem jzD : TN pT2 dcTk := by
 have h1 := ((((jdO ⟨#[100]⟩ (jg7 _ (by decide)) (by decide) (by decide)).mid jpD (jdO ⟨#[100, 100, 49]⟩ (jg7 _ (by decide)) (by decide) (by decide))).wrd wDurable (jg7 _ (by decide)) (by decide)).end)
 have h2 := ((((jdO ⟨#[118]⟩ (jg7 _ (by decide)) (by decide) (by decide)).mid jpD (jdO ⟨#[119, 50]⟩ (jg7 _ (by decide)) (by decide) (by decide))).wrd wVolatile (jg7 _ (by decide)) (by decide)).end)
 have h3 := h1.cat h2
 have e : pT2 = ja2 (ja2 (ja2 wDurable (ja2 (ja2 ⟨#[100]⟩ (bs (jaf pComma).text)) ⟨#[100, 100, 49]⟩)) pSemi) (ja2 (ja2 wVolatile (ja2 (ja2 ⟨#[118]⟩ (bs (jaf pComma).text)) ⟨#[119, 50]⟩)) pSemi) := by decide
 rw [e]
 exact h3
def jyR (u : Ut) : List Co := dcTk ++ (u.on.map (jfI false)).flatten
theorem jyW (m : List (Int × Nt)) (b : ByteArray) (t : List Co) (h : TN b t) (hm : ∀ x ∈ m, TN (hdN fu x) (jfI fu x)) : TN (jp3 fu b m) (t ++ (m.map (jfI fu)).flatten) := by
 induction m generalizing b t with
 | nil => rw [List.map_nil, List.flatten_nil, List.append_nil]; exact h
 | cons f m ih =>
  have q3 := ih (ja2 b (hdN fu f)) (t ++ jfI fu f) (h.cat (hm f List.mem_cons_self)) fun g hg => hm g (List.mem_cons_of_mem _ hg)
  rw [List.map_cons, List.flatten_cons, <- List.append_assoc]
  exact q3
theorem GU.hd {u : Ut} (h : GU u) (x : Int × Nt) (hx : x ∈ u.on) : TN (hdN fu x) (jfI fu x) := by
 obtain ⟨h1, h2, h3, h4, h5⟩ := h
 exact jAy x (h3 x hx).2.1 (jAn (h3 x hx).2.2)
theorem jyI {u : Ut} (h : GU u) : TN (prF u) (jyR u) := by
 have h6 := jyW u.on pT2 dcTk jzD fun x hx => h.hd (fu := false) x hx
 unfold prF
 rw [h.1, h.2.1]
 exact h6
def jzP : List Co := [jap wVolatile, jap ⟨#[118]⟩, jaf pComma, jap ⟨#[119, 50]⟩, jaf pSemi, jap wDurable, jap ⟨#[100]⟩, jaf pComma, jap ⟨#[100, 100, 49]⟩, jaf pSemi]
def jAL (u : Ut) : List Co := jzP ++ (u.on.reverse.map (jfI true)).flatten
end
def Beg (q : List Co) (ts r : List Tk) : Prop := ∃ m, ts = m ++ r /\ m.map jqy = q
theorem Beg.nil {ts r : List Tk} (h : Beg [] ts r) : ts = r := by
 obtain ⟨m, rfl, h⟩ := h
 rw [List.map_eq_nil_iff] at h
 subst h; rfl
theorem Beg.cons {c : Co} {q : List Co} {ts r : List Tk} (h : Beg (c :: q) ts r) : jqy (hd ts) = c /\ Beg q ts.tail r /\ ts ≠ [] := by
 obtain ⟨m, rfl, h⟩ := h
 cases m with
 | nil => cases h
 | cons t m =>
  rw [List.map_cons, List.cons.injEq] at h
  exact ⟨h.1, ⟨m, rfl, h.2⟩, by simp⟩
theorem Beg.app {p q : List Co} {ts r : List Tk} (h : Beg (p ++ q) ts r) : ∃ s, Beg p ts s /\ Beg q s r := by
 obtain ⟨m, rfl, h⟩ := h
 rw [List.map_eq_append_iff] at h
 obtain ⟨a, b, rfl, h1, h2⟩ := h
 exact ⟨b ++ r, ⟨a, List.append_assoc _ _ _, h1⟩, ⟨b, rfl, h2⟩⟩
theorem Beg.len {q : List Co} {ts r : List Tk} (h : Beg q ts r) : ts.length = q.length + r.length := by
 obtain ⟨m, rfl, h⟩ := h
 rw [<- h]; simp
theorem jhB {ts : List Tk} {c : Co} (h : jqy (hd ts) = c) : (hd ts).text = bs c.text := by
 subst h
 exact jg1 (by rw [jba]; rfl)
theorem jcr {ts : List Tk} {c : Co} (h : jqy (hd ts) = c) : (hd ts).kind = c.kind /\ (hd ts).n = c.n := by
 subst h; exact ⟨rfl, rfl⟩
theorem jod {ts : List Tk} {c : Co} (h : jqy (hd ts) = c) (s : ByteArray) : isP s ts = (decide (bs c.text = s) && (decide (c.kind = 1) || decide (c.kind = 3))) := by
 unfold isP
 rw [jhB h, (jcr h).1]
theorem jvX {ts : List Tk} {c : Co} (h : jqy (hd ts) = c) : jfC ts = (decide (c.kind = 1) && !(keyL ++ builtL).any fun s => decide (bs c.text = s)) := by
 unfold jfC
 rw [jhB h, (jcr h).1]
theorem jv7 {ts : List Tk} {c : Co} (h : jqy (hd ts) = c) : jwM ts = (decide (c.kind = 1) && builtL.any fun s => decide (bs c.text = s)) := by
 unfold jwM
 rw [jhB h, (jcr h).1]
def noS (l : List ByteArray) (r : List Tk) : Prop := ji5 l r = false
def opE (low : Option Pa) : Nat -> List Tk -> Pn
 | 1 => jpq low
 | 2 => jcD (ntG low) [jee]
 | 3 => ntG low
 | 4 => ntG low
 | 5 => jsf low
 | 6 => jcD (jfN low) [jbH, jaL]
 | 7 => jfN low
 | _ => jcl low
def StE : Nat -> List Tk -> Prop
 | 1, r => noS [jbH, jaL] r /\ noS [jcF, pMinus] r /\ noS cmpL r /\ noS [jee] r /\ noS [pOr] r
 | 2, r => noS [jbH, jaL] r /\ noS [jcF, pMinus] r /\ noS cmpL r /\ noS [jee] r
 | 3, r => noS [jbH, jaL] r /\ noS [jcF, pMinus] r /\ noS cmpL r
 | 4, r => noS [jbH, jaL] r /\ noS [jcF, pMinus] r /\ noS cmpL r
 | 5, r => noS [jbH, jaL] r /\ noS [jcF, pMinus] r
 | 6, r => noS [jbH, jaL] r
 | _, _ => True
theorem jgw {op : List Tk -> Pn} {l : List ByteArray} {ts r : List Tk} {f : Nt} (h : op ts = .ok f r) (hs : noS l r) : jcD op l ts = .ok f r := by
 unfold jcD
 rw [h]
 show jeM op l r.length f r = _
 cases hl : r.length with
 | zero => rfl
 | succ n =>
  unfold jeM
  rw [show ji5 l r = false from hs]
  rfl
def PE (low : Option Pa) (lv : Nat) (b : List Co) (f : Nt) : Prop := ∀ ts r, Beg b ts r -> StE lv r -> opE low lv ts = .ok f r
theorem jrt {low : Option Pa} {b : List Co} {f : Nt} (h : PE low 2 b f) : PE low 1 b f := fun ts r hb hs => jgw (h ts r hb ⟨hs.1, hs.2.1, hs.2.2.1, hs.2.2.2.1⟩) hs.2.2.2.2
theorem jtl {low : Option Pa} {b : List Co} {f : Nt} (h : PE low 3 b f) : PE low 2 b f := fun ts r hb hs => jgw (h ts r hb ⟨hs.1, hs.2.1, hs.2.2.1⟩) hs.2.2.2
theorem jwi {low : Option Pa} {b : List Co} {f : Nt} (h : PE low 6 b f) : PE low 5 b f := fun ts r hb hs => jgw (h ts r hb hs.1) hs.2
theorem jyQ {low : Option Pa} {b : List Co} {f : Nt} (h : PE low 7 b f) : PE low 6 b f := fun ts r hb hs => jgw (h ts r hb trivial) hs
def jg8 (s : ByteArray) : List Co -> Prop
 | [] => False
 | c :: _ => bs c.text ≠ s
theorem jmu {s : ByteArray} {b : List Co} {ts r : List Tk} (h : jg8 s b) (hb : Beg b ts r) : isP s ts = false := by
 cases b with
 | nil => exact h.elim
 | cons c b =>
  rw [jod hb.cons.1, decide_eq_false (show ¬ bs c.text = s from h)]
  rfl
theorem jym {low : Option Pa} {b : List Co} {f : Nt} (h : PE low 5 b f) (hn : jg8 pNot b) : PE low 4 b f := fun ts r hb hs => by
 have h1 : jsf low ts = .ok f r := h ts r hb ⟨hs.1, hs.2.1⟩
 show ntG low ts = _
 unfold ntG
 rw [if_neg (by rw [jmu hn hb]; decide), h1]
 show (if ji5 cmpL r = true then _ else Pn.ok f r) = _
 rw [if_neg (by rw [show ji5 cmpL r = false from hs.2.2]; decide)]
theorem jvj {low : Option Pa} {b : List Co} {f : Nt} (h : PE low 4 b f) : PE low 3 b f := fun ts r hb hs => h ts r hb hs
theorem jzM {low : Option Pa} {b : List Co} {f : Nt} (h : PE low 8 b f) (hn : jg8 pMinus b) : PE low 7 b f := fun ts r hb hs => by
 have h1 : jcl low ts = .ok f r := h ts r hb trivial
 show jfN low ts = _
 unfold jfN
 rw [if_neg (by rw [jmu hn hb]; decide)]
 exact h1
theorem jhA {low : Option Pa} {b : List Co} {f : Nt} (h : PE low 8 b f) (h1 : jg8 pNot b) (h2 : jg8 pMinus b) : ∀ lv : Nat, 1 <= lv -> lv <= 8 -> PE low lv b f := fun lv a c => by
 have g7 := jzM h h2
 have g6 := jyQ g7
 have g5 := jwi g6
 have g4 := jym g5 h1
 have g3 := jvj g4
 have g2 := jtl g3
 have g1 := jrt g2
 rcases (by omega : lv = 1 ∨ lv = 2 ∨ lv = 3 ∨ lv = 4 ∨ lv = 5 ∨ lv = 6 ∨ lv = 7 ∨ lv = 8) with rfl | rfl | rfl | rfl | rfl | rfl | rfl | rfl <;> assumption
theorem jxa (low : Option Pa) (n : Nat) : PE low 8 [jg6 n] (.mk 12 n eB []) := fun ts r hb hs => by
 obtain ⟨hc, hr, _⟩ := hb.cons
 have hr := hr.nil
 have hk := (jcr hc).1
 have hn := (jcr hc).2
 have p : ∀ s, isP s ts = false := fun s => by
  rw [jod hc]
  show (_ && (decide ((2 : Int) = 1) || decide ((2 : Int) = 3))) = false
  rw [Bool.and_eq_false_iff]
  exact .inr (by decide)
 show jcl low ts = _
 unfold jcl
 rw [if_neg (by rw [p]; decide), if_neg (by rw [p]; decide), if_pos (show (hd ts).kind = 2 from hk), show (hd ts).n = n from hn, hr]
theorem jaN {s : ByteArray} {ts r : List Tk} {b : List Co} (hb : Beg (jap s :: b) ts r) : (∀ x, isP x ts = decide (s = x)) /\ jfC ts = (!(keyL ++ builtL).any fun x => decide (s = x)) /\ jwM ts = (builtL.any fun x => decide (s = x)) /\ (hd ts).text = s /\ (hd ts).kind = 1 /\ Beg b ts.tail r := by
 obtain ⟨hc, hr, _⟩ := hb.cons
 have e : bs (jap s).text = s := jbc s
 refine ⟨fun x => ?_, ?_, ?_, ?_, (jcr hc).1, hr⟩
 ·rw [jod hc, e, show (decide ((jap s).kind = 1) || decide ((jap s).kind = 3)) = true from rfl, Bool.and_true]
 ·rw [jvX hc, e, show decide ((jap s).kind = 1) = true from rfl, Bool.true_and]
 ·rw [jv7 hc, e, show decide ((jap s).kind = 1) = true from rfl, Bool.true_and]
 ·rw [jhB hc, e]
theorem jdb {s : ByteArray} {ts r : List Tk} {b : List Co} (hb : Beg (jaf s :: b) ts r) : (∀ x, isP x ts = decide (s = x)) /\ (hd ts).text = s /\ (hd ts).kind = 3 /\ Beg b ts.tail r := by
 obtain ⟨hc, hr, _⟩ := hb.cons
 have e : bs (jaf s).text = s := jbc s
 refine ⟨fun x => ?_, ?_, (jcr hc).1, hr⟩
 ·rw [jod hc, e, show (decide ((jaf s).kind = 1) || decide ((jaf s).kind = 3)) = true from rfl, Bool.and_true]
 ·rw [jhB hc, e]
theorem jpF : ∀ s ∈ varL, decide (s = pLp) = false /\ decide (s = wDraw) = false /\ decide (s = ji2) = false /\ decide (s = jes) = false /\ ((keyL ++ builtL).any fun x => decide (s = x)) = false := by decide
theorem jqg : ∀ s ∈ builtL, decide (s = pLp) = false /\ decide (s = wDraw) = false /\ decide (s = ji2) = false /\ decide (s = jes) = false /\ ((keyL ++ builtL).any fun x => decide (s = x)) = true /\ (builtL.any fun x => decide (s = x)) = true := by decide
theorem jyi (low : Option Pa) (s : ByteArray) (h : s ∈ varL) : PE low 8 [jap s] (.mk 14 0 s []) := fun ts r hb hs => by
 obtain ⟨p, q, _, t, k, hr⟩ := jaN hb
 have hr := hr.nil
 obtain ⟨a1, a2, a3, a4, a5⟩ := jpF s h
 show jcl low ts = _
 unfold jcl
 rw [p, p, p, p, a1, a2, a3, a4, q, a5, k, t, hr]
 rfl
theorem jxn (low : Option Pa) (s : ByteArray) (h : s ∈ builtL) : PE low 8 [jap s] (.mk 15 0 s []) := fun ts r hb hs => by
 obtain ⟨p, q, u, t, k, hr⟩ := jaN hb
 have hr := hr.nil
 obtain ⟨a1, a2, a3, a4, a5, a6⟩ := jqg s h
 show jcl low ts = _
 unfold jcl
 rw [p, p, p, p, a1, a2, a3, a4, q, a5, k, u, a6, t, hr]
 rfl
theorem jaX {s : ByteArray} {ts r : List Tk} {b : List Co} (hb : Beg (jaf s :: b) ts r) (l : List ByteArray) (h : (l.any fun x => decide (s = x)) = false) : noS l ts := by
 obtain ⟨p, _⟩ := jdb hb
 unfold noS ji5
 rw [show (fun x => isP x ts) = fun x => decide (s = x) from funext p]
 exact h
theorem jsa (p : Pa) (low : Option Pa) (hp : p.ex = jpq low) (b : List Co) (f : Nt) (h : PE low 1 b f) : ∀ ts r, Beg (jaf pLp :: b ++ [jaf pRp]) ts r -> jhf (some p) ts = .ok f r := fun ts r hb => by
 have hb : Beg (jaf pLp :: (b ++ [jaf pRp])) ts r := hb
 obtain ⟨q, _, _, hr⟩ := jdb hb
 obtain ⟨u, h1, h2⟩ := hr.app
 have h3 : jpq low ts.tail = .ok f u := h ts.tail u h1 ⟨jaX h2 _ (by decide), jaX h2 _ (by decide), jaX h2 _ (by decide), jaX h2 _ (by decide), jaX h2 _ (by decide)⟩
 obtain ⟨q2, _, _, hr2⟩ := jdb h2
 have hr2 := hr2.nil
 unfold jhf
 rw [q, if_pos (by decide)]
 show (p.ex ts.tail).andThen _ = _
 rw [hp, h3]
 show xpt pRp u _ = _
 unfold xpt
 rw [q2, if_pos (by decide), hr2]
theorem jyl (p : Pa) (low : Option Pa) (hp : p.ex = jpq low) (b : List Co) (f : Nt) (h : PE low 1 b f) : PE (some p) 8 (jaf pLp :: b ++ [jaf pRp]) f := fun ts r hb hs => by
 have h1 := jsa p low hp b f h ts r hb
 obtain ⟨q, _⟩ := jdb (b := b ++ [jaf pRp]) hb
 show jcl (some p) ts = _
 unfold jcl
 rw [q, if_pos (by decide)]
 exact h1
theorem jxP (p : Pa) (low : Option Pa) (hp : p.ex = jpq low) (b : List Co) (f : Nt) (h : PE low 1 b f) : PE (some p) 8 (jap wDraw :: jaf pLp :: b ++ [jaf pRp]) (.mk 16 0 eB [f]) := fun ts r hb hs => by
 obtain ⟨q, _, _, _, k, hr⟩ := jaN (b := jaf pLp :: b ++ [jaf pRp]) hb
 have h1 := jsa p low hp b f h ts.tail r hr
 show jcl (some p) ts = _
 unfold jcl
 rw [q, q, if_neg (by decide), if_pos (by decide), h1]
 rfl
theorem jvi (low : Option Pa) (n : Nat) (hn : n < 2) : PE low 8 [jap (tfB n)] (.mk 13 n eB []) := fun ts r hb hs => by
 rcases (by omega : n = 0 ∨ n = 1) with rfl | rfl
 ·have hb : Beg [jap jes] ts r := hb
  obtain ⟨p, _, _, t, k, hr⟩ := jaN hb
  have hr := hr.nil
  show jcl low ts = _
  unfold jcl
  rw [p, p, p, p, if_neg (by decide), if_neg (by decide), if_neg (by rw [k]; decide), if_neg (by decide), if_pos (by decide), hr]
  rfl
 ·have hb : Beg [jap ji2] ts r := hb
  obtain ⟨p, _, _, t, k, hr⟩ := jaN hb
  have hr := hr.nil
  show jcl low ts = _
  unfold jcl
  rw [p, p, p, if_neg (by decide), if_neg (by decide), if_neg (by rw [k]; decide), if_pos (by decide), hr]
  rfl
theorem jyg (p : Pa) (low : Option Pa) (hp : p.un = jfN low) (b : List Co) (f : Nt) (h : PE low 7 b f) : PE (some p) 7 (jaf pMinus :: b) (.mk 17 0 pMinus [f]) := fun ts r hb hs => by
 obtain ⟨q, _, _, hr⟩ := jdb hb
 have h1 : jfN low ts.tail = .ok f r := h ts.tail r hr trivial
 show jfN (some p) ts = _
 unfold jfN jql
 rw [q, if_pos (by decide)]
 show (p.un ts.tail).andThen _ = _
 rw [hp, h1]
 rfl
theorem jyZ (p : Pa) (low : Option Pa) (hp : p.no = ntG low) (b : List Co) (f : Nt) (h : PE low 3 b f) : PE (some p) 3 (jaf pNot :: b) (.mk 17 0 pNot [f]) := fun ts r hb hs => by
 obtain ⟨q, _, _, hr⟩ := jdb hb
 have h1 : ntG low ts.tail = .ok f r := h ts.tail r hr hs
 show ntG (some p) ts = _
 unfold ntG jql
 rw [q, if_pos (by decide)]
 show (p.no ts.tail).andThen _ = _
 rw [hp, h1]
 rfl
def CH (op : List Tk -> Pn) (signs : List ByteArray) (stop : List Tk -> Prop) (b : List Co) (f : Nt) : Prop := ∀ ts r, Beg b ts r -> stop r -> ∃ n, r.length <= n /\ jcD op signs ts = jeM op signs n f r
theorem jyr {op : List Tk -> Pn} {signs : List ByteArray} {stop : List Tk -> Prop} {b : List Co} {f : Nt} (h : ∀ ts r, Beg b ts r -> stop r -> op ts = .ok f r) : CH op signs stop b f := fun ts r hb hs => ⟨r.length, Nat.le_refl _, by unfold jcD; rw [h ts r hb hs]; rfl⟩
theorem jjc {op : List Tk -> Pn} {signs : List ByteArray} {stop : List Tk -> Prop} {b b2 : List Co} {f g : Nt} (o : ByteArray) (hf : CH op signs stop b f) (ho : (signs.any fun x => decide (o = x)) = true) (hst : ∀ ts r, Beg (jaf o :: b2) ts r -> stop ts) (hg : ∀ ts r, Beg b2 ts r -> stop r -> op ts = .ok g r) : CH op signs stop (b ++ jaf o :: b2) (.mk 18 0 o [f, g]) := fun ts r hb hs => by
 obtain ⟨u, h1, h2⟩ := hb.app
 obtain ⟨n, hn, e⟩ := hf ts u h1 (hst u r h2)
 obtain ⟨q, t, _, hr⟩ := jdb h2
 have hl := h2.len
 have hl2 := hr.len
 have ha : ji5 signs u = true := by
  unfold ji5
  rw [show (fun x => isP x u) = fun x => decide (o = x) from funext q]
  exact ho
 obtain ⟨m, rfl⟩ : ∃ m, n = m + 1 := ⟨n - 1, by simp at hl; omega⟩
 refine ⟨m, by simp at hl; omega, ?_⟩
 rw [e, jeM, if_pos ha, hg _ r hr hs, t]
 rfl
theorem jnh {op : List Tk -> Pn} {signs : List ByteArray} {stop : List Tk -> Prop} {b : List Co} {f : Nt} (h : CH op signs stop b f) : ∀ ts r, Beg b ts r -> stop r -> noS signs r -> jcD op signs ts = .ok f r := fun ts r hb hs hn => by
 obtain ⟨n, _, e⟩ := h ts r hb hs
 rw [e]
 cases n with
 | zero => rfl
 | succ n => rw [jeM, if_neg (by rw [show ji5 signs r = false from hn]; decide)]
section
def jav : Nat -> Option Pa
 | 0 => none
 | d + 1 => some (pa d)
theorem jf6 : ∀ d, pa d = paG (jav d)
 | 0 => rfl
 | _ + 1 => rfl
def CE (low : Option Pa) (lv : Nat) (signs : List ByteArray) (b : List Co) (f : Nt) : Prop := CH (opE low (lv + 1)) signs (StE (lv + 1)) b f
structure XI (low : Option Pa) (t : Int -> List Co) (f : Nt) : Prop where
 pe : ∀ lv : Nat, 1 <= lv -> lv <= 8 -> PE low lv (t lv) f
 c6 : CE low 6 [jbH, jaL] (t 6) f
 c5 : CE low 5 [jcF, pMinus] (t 5) f
 nn : ∀ lv : Int, jg8 pNot (t lv)
structure XB (low : Option Pa) (t : Int -> List Co) (f : Nt) : Prop where
 pe : ∀ lv : Nat, 1 <= lv -> lv <= 8 -> PE low lv (t lv) f
 c2 : CE low 2 [jee] (t 2) f
 c1 : CE low 1 [pOr] (t 1) f
def mulL : List ByteArray := [jbH, jaL]
def addL : List ByteArray := [jcF, pMinus]
theorem jx4 {low : Option Pa} {b : List Co} {f : Nt} (h : CE low 6 [jbH, jaL] b f) : PE low 6 b f := fun ts r hb hs => jnh h ts r hb trivial hs
theorem jA7 {low : Option Pa} {b : List Co} {f : Nt} (h : CE low 5 [jcF, pMinus] b f) : PE low 5 b f := fun ts r hb hs => jnh h ts r hb hs.1 hs.2
theorem jAv {low : Option Pa} {b : List Co} {f : Nt} (h : CE low 2 [jee] b f) : PE low 2 b f := fun ts r hb hs => jnh h ts r hb ⟨hs.1, hs.2.1, hs.2.2.1⟩ hs.2.2.2
theorem jzT {low : Option Pa} {b : List Co} {f : Nt} (h : CE low 1 [pOr] b f) : PE low 1 b f := fun ts r hb hs => jnh h ts r hb ⟨hs.1, hs.2.1, hs.2.2.1, hs.2.2.2.1⟩ hs.2.2.2.2
theorem jdy {low : Option Pa} {lv : Nat} {signs : List ByteArray} {b : List Co} {f : Nt} (h : PE low (lv + 1) b f) : CE low lv signs b f := jyr h
theorem jmZ {low : Option Pa} {b : List Co} {f : Nt} (hn : jg8 pNot b) (h : PE low 5 b f) : ∀ lv : Nat, 1 <= lv -> lv <= 5 -> PE low lv b f := fun lv a c => by
 have g4 := jym h hn
 have g3 := jvj g4
 have g2 := jtl g3
 have g1 := jrt g2
 rcases (by omega : lv = 1 ∨ lv = 2 ∨ lv = 3 ∨ lv = 4 ∨ lv = 5) with rfl | rfl | rfl | rfl | rfl <;> assumption
theorem jbC (p lv : Int) (fu : Bool) (l : List Co) (hl : lv <= 8) : (jd2 p lv fu l = l /\ lv <= p) ∨ (jd2 p lv fu l = jaf pLp :: l ++ [jaf pRp] /\ p < 8) := by
 unfold jd2
 by_cases h : p < lv
 ·rw [if_pos h]; exact .inr ⟨rfl, by omega⟩
 ·rw [if_neg h]
  cases fu with
  | false => exact .inl ⟨rfl, by omega⟩
  | true =>
   rw [if_pos rfl]
   by_cases h8 : p < 8
   ·rw [if_pos h8]; exact .inr ⟨rfl, h8⟩
   ·rw [if_neg h8]; exact .inl ⟨rfl, by omega⟩
theorem joy {n : Nat} {b : List Co} {f : Nt} (h : PE (jav n) 1 b f) : ∀ lv : Nat, 1 <= lv -> lv <= 8 -> PE (jav (n + 1)) lv (jaf pLp :: b ++ [jaf pRp]) f := by
 have h1 := jyl (pa n) (jav n) (by rw [jf6]; rfl) b f h
 exact jhA h1 (by show bs (jaf pLp).text ≠ pNot; decide) (by show bs (jaf pLp).text ≠ pMinus; decide)
theorem XI.leaf {low : Option Pa} {t : Int -> List Co} {b : List Co} {f : Nt} (ht : ∀ lv, lv <= 8 -> t lv = b) (h : PE low 8 b f) (h1 : jg8 pNot b) (h2 : jg8 pMinus b) (hnn : ∀ lv, jg8 pNot (t lv)) : XI low t f where
 pe := fun lv a c => by rw [ht lv (by omega)]; exact jhA h h1 h2 lv a c
 c6 := by rw [ht 6 (by omega)]; exact jdy (jhA h h1 h2 7 (by omega) (by omega))
 c5 := by rw [ht 5 (by omega)]; exact jdy (jhA h h1 h2 6 (by omega) (by omega))
 nn := hnn
theorem XB.leaf {low : Option Pa} {t : Int -> List Co} {b : List Co} {f : Nt} (ht : ∀ lv, lv <= 8 -> t lv = b) (h : PE low 8 b f) (h1 : jg8 pNot b) (h2 : jg8 pMinus b) : XB low t f where
 pe := fun lv a c => by rw [ht lv (by omega)]; exact jhA h h1 h2 lv a c
 c2 := by rw [ht 2 (by omega)]; exact jdy (jhA h h1 h2 3 (by omega) (by omega))
 c1 := by rw [ht 1 (by omega)]; exact jdy (jhA h h1 h2 2 (by omega) (by omega))
theorem jeZ {p lv : Int} {fu : Bool} {b : List Co} (h : jg8 pNot b) : jg8 pNot (jd2 p lv fu b) := by
 have h1 : jg8 pNot (jaf pLp :: b ++ [jaf pRp]) := by show bs (jaf pLp).text ≠ pNot; decide
 unfold jd2
 split
 ·exact h1
 ·split
  ·split
   ·exact h1
   ·exact h
  ·exact h
theorem jo4 {s : ByteArray} {b c : List Co} (h : jg8 s b) : jg8 s (b ++ c) := by
 cases b with
 | nil => exact h.elim
 | cons x b => exact h
theorem XI.node {n : Nat} {p : Nat} {fu : Bool} {b : List Co} {f : Nt} (hp : 5 <= p /\ p <= 8) (hlow : PE (jav n) 1 b f) (hb : ∀ lv : Nat, 1 <= lv -> lv <= p -> PE (jav (n + 1)) lv b f) (h6 : p = 6 -> CE (jav (n + 1)) 6 [jbH, jaL] b f) (h5 : p = 5 -> CE (jav (n + 1)) 5 [jcF, pMinus] b f) (hn : jg8 pNot b) : XI (jav (n + 1)) (fun lv => jd2 p lv fu b) f := by
 have hq := joy hlow
 have hpe : ∀ lv : Nat, 1 <= lv -> lv <= 8 -> PE (jav (n + 1)) lv (jd2 p lv fu b) f := fun lv a c => by
  rcases jbC p lv fu b (by omega) with ⟨e, h⟩ | ⟨e, h⟩
  ·rw [e]; exact hb lv a (by omega)
  ·rw [e]; exact hq lv a c
 refine ⟨hpe, ?_, ?_, fun lv => jeZ hn⟩
 ·show CE _ 6 _ (jd2 p 6 fu b) f
  rcases jbC p 6 fu b (by omega) with ⟨e, h⟩ | ⟨e, h⟩
  ·rw [e]
   by_cases h0 : p = 6
   ·exact h6 h0
   ·exact jdy (hb 7 (by omega) (by omega))
  ·rw [e]; exact jdy (hq 7 (by omega) (by omega))
 ·show CE _ 5 _ (jd2 p 5 fu b) f
  rcases jbC p 5 fu b (by omega) with ⟨e, h⟩ | ⟨e, h⟩
  ·rw [e]
   by_cases h0 : p = 5
   ·exact h5 h0
   ·exact jdy (hb 6 (by omega) (by omega))
  ·rw [e]; exact jdy (hq 6 (by omega) (by omega))
theorem XB.node {n : Nat} {p : Nat} {fu : Bool} {b : List Co} {f : Nt} (hp : 1 <= p /\ p <= 4) (hlow : PE (jav n) 1 b f) (hb : ∀ lv : Nat, 1 <= lv -> lv <= p -> PE (jav (n + 1)) lv b f) (h2 : p = 2 -> CE (jav (n + 1)) 2 [jee] b f) (h1 : p = 1 -> CE (jav (n + 1)) 1 [pOr] b f) : XB (jav (n + 1)) (fun lv => jd2 p lv fu b) f := by
 have hq := joy hlow
 have hpe : ∀ lv : Nat, 1 <= lv -> lv <= 8 -> PE (jav (n + 1)) lv (jd2 p lv fu b) f := fun lv a c => by
  rcases jbC p lv fu b (by omega) with ⟨e, h⟩ | ⟨e, h⟩
  ·rw [e]; exact hb lv a (by omega)
  ·rw [e]; exact hq lv a c
 refine ⟨hpe, ?_, ?_⟩
 ·show CE _ 2 _ (jd2 p 2 fu b) f
  rcases jbC p 2 fu b (by omega) with ⟨e, h⟩ | ⟨e, h⟩
  ·rw [e]
   by_cases h0 : p = 2
   ·exact h2 h0
   ·exact jdy (hb 3 (by omega) (by omega))
  ·rw [e]; exact jdy (hq 3 (by omega) (by omega))
 ·show CE _ 1 _ (jd2 p 1 fu b) f
  rcases jbC p 1 fu b (by omega) with ⟨e, h⟩ | ⟨e, h⟩
  ·rw [e]
   by_cases h0 : p = 1
   ·exact h1 h0
   ·exact jdy (hb 2 (by omega) (by omega))
  ·rw [e]; exact jdy (hq 2 (by omega) (by omega))
theorem jez {lv : Int} {fu : Bool} {b : List Co} (h : lv <= 8) : jd2 8 lv fu b = b := by
 rcases jbC 8 lv fu b h with ⟨e, _⟩ | ⟨_, h⟩
 ·exact e
 ·omega
variable {fu : Bool}
theorem leaf_no {n : Nat} : jg8 pNot [jg6 n] /\ jg8 pMinus [jg6 n] := by
 have h : ∀ s : ByteArray, jaw s ≠ jaw (bs (jb1 n)) -> bs (jb1 n) ≠ s := fun s h e => h (by rw [e])
 have hf := jfZ n
 constructor
 ·refine h pNot ?_
  intro e; rw [<- e] at hf; exact absurd hf (by decide)
 ·refine h pMinus ?_
  intro e; rw [<- e] at hf; exact absurd hf (by decide)
theorem jga {s : ByteArray} (h : s ≠ pNot /\ s ≠ pMinus) : jg8 pNot [jap s] /\ jg8 pMinus [jap s] := by
 have e : bs (jap s).text = s := jbc s
 exact ⟨by show bs (jap s).text ≠ _; rw [e]; exact h.1, by show bs (jap s).text ≠ _; rw [e]; exact h.2⟩
theorem jyo (n m : Nat) : XI (jav m) (tkN fu (.mk 12 n eB [])) (.mk 12 n eB []) :=
 XI.leaf (b := [jg6 n]) (fun lv h => jez h) (jxa _ n) leaf_no.1 leaf_no.2 fun lv => jeZ leaf_no.1
theorem juC (s : ByteArray) (m : Nat) (k : Int) (hk : k = 14 ∨ k = 15) (h : PE (jav m) 8 [jap s] (.mk k 0 s [])) (hs : s ≠ pNot /\ s ≠ pMinus) : XI (jav m) (tkN fu (.mk k 0 s [])) (.mk k 0 s []) := by
 rcases hk with rfl | rfl
 ·exact XI.leaf (b := [jap s]) (fun lv h => jez h) h (jga hs).1 (jga hs).2 fun lv => jeZ (jga hs).1
 ·exact XI.leaf (b := [jap s]) (fun lv h => jez h) h (jga hs).1 (jga hs).2 fun lv => jeZ (jga hs).1
theorem jx1 : ∀ s ∈ varL, s ≠ pNot /\ s ≠ pMinus := by decide
theorem jsS : ∀ s ∈ builtL, s ≠ pNot /\ s ≠ pMinus := by decide
theorem jmm {n : Nat} (h : 1 <= n) : jav n = some (pa (n - 1)) := by
 obtain ⟨k, rfl⟩ : ∃ k, n = k + 1 := ⟨n - 1, by omega⟩
 rfl
theorem jwD {d : Nat} {f : Nt} (h : EI d f) : ∀ n, 2 * d <= n -> XI (jav n) (tkN fu f) f := by
 induction h with
 | lit d n h => intro m _; obtain ⟨k, rfl, _⟩ := juv n h; exact jyo k m
 | var d s h => intro m _; exact juC s m 14 (.inl rfl) (jyi _ s h) (jx1 s h)
 | nam d s h => intro m _; exact juC s m 15 (.inr rfl) (jxn _ s h) (jsS s h)
 | drw d f h ih =>
  intro n hn
  have h1 := (ih (n - 1) (by omega)).pe 1 (by omega) (by omega)
  have h2 := jxP (pa (n - 1)) (jav (n - 1)) (by rw [jf6]; rfl) (tkN fu f 1) f h1
  rw [<- jmm (by omega)] at h2
  have q1 : ∀ s, s = pNot ∨ s = pMinus -> jg8 s (jap wDraw :: jaf pLp :: tkN fu f 1 ++ [jaf pRp]) := fun s hs => by
   show bs (jap wDraw).text ≠ s
   rcases hs with rfl | rfl <;> decide
  exact XI.leaf (fun lv h => jez h) h2 (q1 _ (.inl rfl)) (q1 _ (.inr rfl)) fun lv => jeZ (q1 _ (.inl rfl))
 | neg d f h ih =>
  intro n hn
  have key : ∀ m, 2 * d + 1 <= m -> PE (jav m) 7 (jaf pMinus :: tkN fu f 7) (.mk 17 0 pMinus [f]) := fun m hm => by
   have h2 := jyg (pa (m - 1)) (jav (m - 1)) (by rw [jf6]; rfl) (tkN fu f 7) f ((ih (m - 1) (by omega)).pe 7 (by omega) (by omega))
   rw [<- jmm (by omega)] at h2
   exact h2
  have hno : jg8 pNot (jaf pMinus :: tkN fu f 7) := by show bs (jaf pMinus).text ≠ pNot; decide
  have all : ∀ m, 2 * d + 1 <= m -> ∀ lv : Nat, 1 <= lv -> lv <= 7 -> PE (jav m) lv (jaf pMinus :: tkN fu f 7) (.mk 17 0 pMinus [f]) := fun m hm lv a c => by
   have g7 := key m hm
   have g6 := jyQ g7
   by_cases h5 : lv <= 5
   ·exact jmZ hno (jwi g6) lv a h5
   ·rcases (by omega : lv = 6 ∨ lv = 7) with rfl | rfl <;> assumption
  obtain ⟨m, rfl⟩ : ∃ m, n = m + 1 := ⟨n - 1, by omega⟩
  exact XI.node (p := 7) (by omega) (all m (by omega) 1 (by omega) (by omega)) (all (m + 1) (by omega)) (by omega) (by omega) hno
 | bin d s f g hs h1 h2 i1 i2 =>
  intro n hn
  obtain ⟨m, rfl⟩ : ∃ m, n = m + 1 := ⟨n - 1, by omega⟩
  have hop : (jab 18 s = 6 /\ (s = jbH ∨ s = jaL)) ∨ (jab 18 s = 5 /\ (s = jcF ∨ s = pMinus)) := by
   unfold opL at hs
   simp only [List.mem_cons, List.not_mem_nil, or_false] at hs
   rcases hs with rfl | rfl | rfl | rfl <;> decide
  rcases hop with ⟨hp, ho⟩ | ⟨hp, ho⟩
  ·have e : ∀ lv, tkN fu (.mk 18 0 s [f, g]) lv = jd2 6 lv fu (tkN fu f 6 ++ jaf s :: tkN fu g 7) := fun lv => by
    show jd2 (jab 18 s) lv fu (tkN fu f (if jab 18 s = 4 then 5 else jab 18 s) ++ jaf s :: tkN fu g (jab 18 s + 1)) = _
    rw [hp]; rfl
   have hno : jg8 pNot (tkN fu f 6 ++ jaf s :: tkN fu g 7) := jo4 ((i1 (2 * d) (Nat.le_refl _)).nn 6)
   have hc : ∀ m, 2 * d <= m -> CE (jav m) 6 [jbH, jaL] (tkN fu f 6 ++ jaf s :: tkN fu g 7) (.mk 18 0 s [f, g]) := fun m hm =>
    jjc s (i1 m hm).c6 (by rcases ho with rfl | rfl <;> decide) (fun _ _ _ => trivial) ((i2 m hm).pe 7 (by omega) (by omega))
   have all : ∀ m, 2 * d <= m -> ∀ lv : Nat, 1 <= lv -> lv <= 6 -> PE (jav m) lv (tkN fu f 6 ++ jaf s :: tkN fu g 7) (.mk 18 0 s [f, g]) := fun m hm lv a c => by
    have g6 := jx4 (hc m hm)
    by_cases h5 : lv <= 5
    ·exact jmZ hno (jwi g6) lv a h5
    ·rcases (by omega : lv = 6) with rfl; exact g6
   rw [show tkN fu (.mk 18 0 s [f, g]) = fun lv => jd2 6 lv fu (tkN fu f 6 ++ jaf s :: tkN fu g 7) from funext e]
   exact XI.node (p := 6) (by omega) (all m (by omega) 1 (by omega) (by omega)) (all (m + 1) (by omega)) (fun _ => hc (m + 1) (by omega)) (by omega) hno
  ·have e : ∀ lv, tkN fu (.mk 18 0 s [f, g]) lv = jd2 5 lv fu (tkN fu f 5 ++ jaf s :: tkN fu g 6) := fun lv => by
    show jd2 (jab 18 s) lv fu (tkN fu f (if jab 18 s = 4 then 5 else jab 18 s) ++ jaf s :: tkN fu g (jab 18 s + 1)) = _
    rw [hp]; rfl
   have hno : jg8 pNot (tkN fu f 5 ++ jaf s :: tkN fu g 6) := jo4 ((i1 (2 * d) (Nat.le_refl _)).nn 5)
   have hc : ∀ m, 2 * d <= m -> CE (jav m) 5 [jcF, pMinus] (tkN fu f 5 ++ jaf s :: tkN fu g 6) (.mk 18 0 s [f, g]) := fun m hm =>
    jjc s (i1 m hm).c5 (by rcases ho with rfl | rfl <;> decide) (fun ts r hb => jaX hb _ (by rcases ho with rfl | rfl <;> decide)) ((i2 m hm).pe 6 (by omega) (by omega))
   have all : ∀ m, 2 * d <= m -> ∀ lv : Nat, 1 <= lv -> lv <= 5 -> PE (jav m) lv (tkN fu f 5 ++ jaf s :: tkN fu g 6) (.mk 18 0 s [f, g]) := fun m hm lv a c => jmZ hno (jA7 (hc m hm)) lv a c
   rw [show tkN fu (.mk 18 0 s [f, g]) = fun lv => jd2 5 lv fu (tkN fu f 5 ++ jaf s :: tkN fu g 6) from funext e]
   exact XI.node (p := 5) (by omega) (all m (by omega) 1 (by omega) (by omega)) (all (m + 1) (by omega)) (by omega) (fun _ => hc (m + 1) (by omega)) hno
theorem jAc {d : Nat} {f : Nt} (h : EB d f) : ∀ n, 2 * d + 1 <= n -> XB (jav n) (tkN fu f) f := by
 induction h with
 | lit d n h =>
  intro m _
  have hs : tfB n ≠ pNot /\ tfB n ≠ pMinus := by
   rcases (by omega : n = 0 ∨ n = 1) with rfl | rfl <;> decide
  exact XB.leaf (b := [jap (tfB n)]) (fun lv h => jez h) (jvi _ n h) (jga hs).1 (jga hs).2
 | nt d f h ih =>
  intro n hn
  have key : ∀ m, 2 * d + 2 <= m -> PE (jav m) 3 (jaf pNot :: tkN fu f 3) (.mk 17 0 pNot [f]) := fun m hm => by
   have h2 := jyZ (pa (m - 1)) (jav (m - 1)) (by rw [jf6]; rfl) (tkN fu f 3) f ((ih (m - 1) (by omega)).pe 3 (by omega) (by omega))
   rw [<- jmm (by omega)] at h2
   exact h2
  have all : ∀ m, 2 * d + 2 <= m -> ∀ lv : Nat, 1 <= lv -> lv <= 3 -> PE (jav m) lv (jaf pNot :: tkN fu f 3) (.mk 17 0 pNot [f]) := fun m hm lv a c => by
   have g3 := key m hm
   have g2 := jtl g3
   have g1 := jrt g2
   rcases (by omega : lv = 1 ∨ lv = 2 ∨ lv = 3) with rfl | rfl | rfl <;> assumption
  obtain ⟨m, rfl⟩ : ∃ m, n = m + 1 := ⟨n - 1, by omega⟩
  exact XB.node (p := 3) (by omega) (all m (by omega) 1 (by omega) (by omega)) (all (m + 1) (by omega)) (by omega) (by omega)
 | bin d s f g hs h1 h2 i1 i2 =>
  intro n hn
  obtain ⟨m, rfl⟩ : ∃ m, n = m + 1 := ⟨n - 1, by omega⟩
  have hop : s = jee ∨ s = pOr := by
   unfold bolL at hs
   simpa only [List.mem_cons, List.not_mem_nil, or_false] using hs
  rcases hop with rfl | rfl
  ·have e : ∀ lv, tkN fu (.mk 18 0 jee [f, g]) lv = jd2 2 lv fu (tkN fu f 2 ++ jaf jee :: tkN fu g 3) := fun lv => rfl
   have hc : ∀ m, 2 * d + 1 <= m -> CE (jav m) 2 [jee] (tkN fu f 2 ++ jaf jee :: tkN fu g 3) (.mk 18 0 jee [f, g]) := fun m hm =>
    jjc jee (i1 m hm).c2 (by decide) (fun ts r hb => ⟨jaX hb _ (by decide), jaX hb _ (by decide), jaX hb _ (by decide)⟩) ((i2 m hm).pe 3 (by omega) (by omega))
   have all : ∀ m, 2 * d + 1 <= m -> ∀ lv : Nat, 1 <= lv -> lv <= 2 -> PE (jav m) lv (tkN fu f 2 ++ jaf jee :: tkN fu g 3) (.mk 18 0 jee [f, g]) := fun m hm lv a c => by
    have g2 := jAv (hc m hm)
    have g1 := jrt g2
    rcases (by omega : lv = 1 ∨ lv = 2) with rfl | rfl <;> assumption
   rw [show tkN fu (.mk 18 0 jee [f, g]) = fun lv => jd2 2 lv fu (tkN fu f 2 ++ jaf jee :: tkN fu g 3) from funext e]
   exact XB.node (p := 2) (by omega) (all m (by omega) 1 (by omega) (by omega)) (all (m + 1) (by omega)) (fun _ => hc (m + 1) (by omega)) (by omega)
  ·have e : ∀ lv, tkN fu (.mk 18 0 pOr [f, g]) lv = jd2 1 lv fu (tkN fu f 1 ++ jaf pOr :: tkN fu g 2) := fun lv => rfl
   have hc : ∀ m, 2 * d + 1 <= m -> CE (jav m) 1 [pOr] (tkN fu f 1 ++ jaf pOr :: tkN fu g 2) (.mk 18 0 pOr [f, g]) := fun m hm =>
    jjc pOr (i1 m hm).c1 (by decide) (fun ts r hb => ⟨jaX hb _ (by decide), jaX hb _ (by decide), jaX hb _ (by decide), jaX hb _ (by decide)⟩) ((i2 m hm).pe 2 (by omega) (by omega))
   have all : ∀ m, 2 * d + 1 <= m -> ∀ lv : Nat, 1 <= lv -> lv <= 1 -> PE (jav m) lv (tkN fu f 1 ++ jaf pOr :: tkN fu g 2) (.mk 18 0 pOr [f, g]) := fun m hm lv a c => by
    obtain rfl : lv = 1 := by omega
    exact jzT (hc m hm)
   rw [show tkN fu (.mk 18 0 pOr [f, g]) = fun lv => jd2 1 lv fu (tkN fu f 1 ++ jaf pOr :: tkN fu g 2) from funext e]
   exact XB.node (p := 1) (by omega) (all m (by omega) 1 (by omega) (by omega)) (all (m + 1) (by omega)) (by omega) (fun _ => hc (m + 1) (by omega))
 | cmp d s f g hs h1 h2 =>
  intro n hn
  obtain ⟨m, rfl⟩ : ∃ m, n = m + 1 := ⟨n - 1, by omega⟩
  have hp : jab 18 s = 4 /\ (cmpL.any fun x => decide (s = x)) = true /\ (mulL.any fun x => decide (s = x)) = false /\ (addL.any fun x => decide (s = x)) = false := by
   unfold cmpL at hs
   simp only [List.mem_cons, List.not_mem_nil, or_false] at hs
   rcases hs with rfl | rfl | rfl | rfl | rfl | rfl <;> decide
  have e : ∀ lv, tkN fu (.mk 18 0 s [f, g]) lv = jd2 4 lv fu (tkN fu f 5 ++ jaf s :: tkN fu g 5) := fun lv => by
   show jd2 (jab 18 s) lv fu (tkN fu f (if jab 18 s = 4 then 5 else jab 18 s) ++ jaf s :: tkN fu g (jab 18 s + 1)) = _
   rw [hp.1]; rfl
  have key : ∀ m, 2 * d <= m -> PE (jav m) 4 (tkN fu f 5 ++ jaf s :: tkN fu g 5) (.mk 18 0 s [f, g]) := fun m hm ts r hb hs => by
   obtain ⟨u, q1, q2⟩ := hb.app
   have x1 := jwD (fu := fu) h1 m (by omega)
   have x2 := jwD (fu := fu) h2 m (by omega)
   have hno := jmu (x1.nn 5) q1
   have y1 : jsf (jav m) ts = .ok f u := x1.pe 5 (by omega) (by omega) ts u q1 ⟨jaX q2 _ hp.2.2.1, jaX q2 _ hp.2.2.2⟩
   obtain ⟨p, t, _, hr⟩ := jdb q2
   have y2 : jsf (jav m) u.tail = .ok g r := x2.pe 5 (by omega) (by omega) u.tail r hr ⟨hs.1, hs.2.1⟩
   show ntG (jav m) ts = _
   unfold ntG
   rw [if_neg (by rw [hno]; decide), y1]
   show (if ji5 cmpL u = true then _ else _) = _
   rw [if_pos (by unfold ji5; rw [show (fun x => isP x u) = fun x => decide (s = x) from funext p]; exact hp.2.1), y2, t]
   rfl
  have all : ∀ m, 2 * d <= m -> ∀ lv : Nat, 1 <= lv -> lv <= 4 -> PE (jav m) lv (tkN fu f 5 ++ jaf s :: tkN fu g 5) (.mk 18 0 s [f, g]) := fun m hm lv a c => by
   have g4 := key m hm
   have g3 := jvj g4
   have g2 := jtl g3
   have g1 := jrt g2
   rcases (by omega : lv = 1 ∨ lv = 2 ∨ lv = 3 ∨ lv = 4) with rfl | rfl | rfl | rfl <;> assumption
  rw [show tkN fu (.mk 18 0 s [f, g]) = fun lv => jd2 4 lv fu (tkN fu f 5 ++ jaf s :: tkN fu g 5) from funext e]
  exact XB.node (p := 4) (by omega) (all m (by omega) 1 (by omega) (by omega)) (all (m + 1) (by omega)) (by omega) (by omega)
end
section
theorem jmA (f : Nt) (r : List Tk) (k : Nt -> List Tk -> Pn) : (Pn.ok f r).andThen k = k f r := rfl
def stL (n : Nat) : List Tk -> Pn := stG (jpq (jav n)) (jwU (jav n))
theorem jo5 (n : Nat) : jwU (jav (n + 1)) = bkF (stL n) := by
 show (pa n).bl = _
 rw [jf6]; rfl
theorem jAb (n : Nat) : (pa n).bl = bkF (stL n) := jo5 n
theorem jcY {low : Option Pa} {f : Nt} {t : List Co} (h : PE low 1 t f) {s : ByteArray} (hs : s = pSemi ∨ s = pComma ∨ s = pLb) {b : List Co} {ts r : List Tk} (hb : Beg (t ++ jaf s :: b) ts r) : ∃ u, jpq low ts = .ok f u /\ Beg (jaf s :: b) u r := by
 obtain ⟨u, h1, h2⟩ := hb.app
 refine ⟨u, h ts u h1 ?_, h2⟩
 rcases hs with rfl | rfl | rfl <;> exact ⟨jaX h2 _ (by decide), jaX h2 _ (by decide), jaX h2 _ (by decide), jaX h2 _ (by decide), jaX h2 _ (by decide)⟩
theorem jgh {s : ByteArray} {b : List Co} {ts r : List Tk} (hb : Beg (jaf s :: b) ts r) (k : List Tk -> Pn) : xpt s ts k = k ts.tail /\ Beg b ts.tail r := by
 obtain ⟨p, _, _, hr⟩ := jdb hb
 refine ⟨?_, hr⟩
 unfold xpt
 rw [p, if_pos (decide_eq_true rfl)]
theorem jwL {n : Nat} {b : List Co} {ts r : List Tk} (hb : Beg (jg6 n :: b) ts r) (limit : Int) (hl : (n : Int) < limit) (k : Int -> List Tk -> Pn) : jkd limit ts k = k n ts.tail /\ Beg b ts.tail r := by
 obtain ⟨hc, hr, _⟩ := hb.cons
 have hk := (jcr hc).1
 have hn := (jcr hc).2
 refine ⟨?_, hr⟩
 unfold jkd
 rw [show (hd ts).kind = 2 from hk, show (hd ts).n = n from hn, if_neg (by decide), if_neg (by omega)]
variable {fu : Bool}
def PS (n : Nat) (t : List Co) (f : Nt) : Prop := ∀ ts r, Beg t ts r -> isP wElse r = false -> stL n ts = .ok f r
theorem PS.eq {n : Nat} {t t2 : List Co} {f : Nt} (h : PS n t f) (e : t2 = t) : PS n t2 f := by rw [e]; exact h
theorem jnc (f : Nt) : lsT fu [f] = tkN fu f 1 ++ [jaf pSemi] := by
 show (tkN fu f 1 ++ []) ++ [jaf pSemi] = _
 rw [List.append_nil]
theorem joC (f g : Nt) : lsT fu [f, g] = tkN fu f 1 ++ jaf pComma :: (tkN fu g 1 ++ [jaf pSemi]) := by
 show (tkN fu f 1 ++ (jaf pComma :: tkN fu g 1 ++ [])) ++ [jaf pSemi] = _
 simp
theorem jv8 {n d : Nat} {f : Nt} (h : EI d f) (hd : 2 * d <= n) : PE (jav n) 1 (tkN fu f 1) f := (jwD h n hd).pe 1 (by omega) (by omega)
theorem jAV {n d : Nat} {f : Nt} (h : EB d f) (hd : 2 * d + 1 <= n) : PE (jav n) 1 (tkN fu f 1) f := (jAc h n hd).pe 1 (by omega) (by omega)
theorem jx8 {n : Nat} {s : ByteArray} (hs : s ∈ varL) {f : Nt} (hf : PE (jav n) 1 (tkN fu f 1) f) : PS n (tkS fu (.mk 1 0 s [f])) (.mk 1 0 s [f]) := by
 refine PS.eq (t := jap s :: jaf pEq :: (tkN fu f 1 ++ [jaf pSemi])) ?_ (by rw [<- jnc]; rfl)
 intro ts r hb he
 obtain ⟨p, q, _, t, k, h1⟩ := jaN hb
 obtain ⟨e1, h2⟩ := jgh h1 fun r => (jpq (jav n) r).andThen fun e r => xpt pSemi r fun r => .ok (.mk 1 0 (hd ts).text [e]) r
 obtain ⟨u, e2, h3⟩ := jcY hf (.inl rfl) h2
 obtain ⟨e3, h4⟩ := jgh h3 fun r => .ok (.mk 1 0 (hd ts).text [f]) r
 have h4 := h4.nil
 show stG _ _ ts = _
 unfold stG
 rw [if_pos (by rw [q, (jpF s hs).2.2.2.2]; rfl), e1, e2]
 rw [jmA]
 rw [e3, h4, t]
theorem jz1 {n m : Nat} (hm : m < 30) {f g h : Nt} (hf : PE (jav n) 1 (tkN fu f 1) f) (hg : PE (jav n) 1 (tkN fu g 1) g) (hh : PE (jav n) 1 (tkN fu h 1) h) : PS n (tkS fu (.mk 4 m eB [f, g, h])) (.mk 4 m eB [f, g, h]) := by
 refine PS.eq (t := jap wSend :: (tkN fu f 1 ++ jaf pComma :: jg6 m :: jaf pComma :: (tkN fu g 1 ++ jaf pComma :: (tkN fu h 1 ++ [jaf pSemi])))) ?_ (by rw [<- joC]; rfl)
 intro ts r hb he
 obtain ⟨p, q, _, t, k, h1⟩ := jaN hb
 show stG _ _ ts = _
 unfold stG
 rw [if_neg (by rw [q]; decide), if_neg (by rw [k]; decide), t]
 obtain ⟨u, e2, h2⟩ := jcY hf (.inr (.inl rfl)) h1
 rw [if_neg (by decide), if_neg (by decide), if_pos rfl, e2]
 rw [jmA]
 obtain ⟨_, h3⟩ := jgh h2 fun r => .ok f r
 rw [(jgh h2 _).1]
 obtain ⟨_, h4⟩ := jwL h3 30 (by omega) fun _ r => .ok f r
 rw [(jwL h3 30 (by omega) _).1]
 obtain ⟨_, h5⟩ := jgh h4 fun r => .ok f r
 rw [(jgh h4 _).1]
 obtain ⟨u2, e3, h6⟩ := jcY hg (.inr (.inl rfl)) h5
 rw [e3]
 rw [jmA]
 obtain ⟨_, h7⟩ := jgh h6 fun r => .ok f r
 rw [(jgh h6 _).1]
 obtain ⟨u3, e4, h8⟩ := jcY hh (.inl rfl) h7
 rw [e4]
 rw [jmA]
 obtain ⟨_, h9⟩ := jgh h8 fun r => .ok f r
 rw [(jgh h8 _).1, h9.nil]
theorem jy9 {n m : Nat} (hm : m < 8) : PS n (tkS fu (.mk 5 m eB [])) (.mk 5 m eB []) := by
 refine PS.eq (t := [jap wTimer, jg6 m, jaf pSemi]) ?_ rfl
 intro ts r hb he
 obtain ⟨p, q, _, t, k, h1⟩ := jaN hb
 show stG _ _ ts = _
 unfold stG
 rw [if_neg (by rw [q]; decide), if_neg (by rw [k]; decide), t]
 rw [if_neg (by decide), if_neg (by decide), if_neg (by decide), if_pos rfl]
 obtain ⟨_, h4⟩ := jwL h1 8 (by omega) fun _ r => .ok (.mk 0 0 eB []) r
 rw [(jwL h1 8 (by omega) _).1]
 obtain ⟨_, h9⟩ := jgh h4 fun r => .ok (.mk 0 0 eB []) r
 rw [(jgh h4 _).1, h9.nil]
theorem jxR {n m : Nat} (hm : m < 8) : PS n (tkS fu (.mk 6 m eB [])) (.mk 6 m eB []) := by
 refine PS.eq (t := [jap wCancel, jg6 m, jaf pSemi]) ?_ rfl
 intro ts r hb he
 obtain ⟨p, q, _, t, k, h1⟩ := jaN hb
 show stG _ _ ts = _
 unfold stG
 rw [if_neg (by rw [q]; decide), if_neg (by rw [k]; decide), t]
 rw [if_neg (by decide), if_neg (by decide), if_neg (by decide), if_neg (by decide), if_pos rfl]
 obtain ⟨_, h4⟩ := jwL h1 8 (by omega) fun _ r => .ok (.mk 0 0 eB []) r
 rw [(jwL h1 8 (by omega) _).1]
 obtain ⟨_, h9⟩ := jgh h4 fun r => .ok (.mk 0 0 eB []) r
 rw [(jgh h4 _).1, h9.nil]
theorem jz4 {n : Nat} : PS n (tkS fu (.mk 7 0 eB [])) (.mk 7 0 eB []) := by
 refine PS.eq (t := [jap wSync, jaf pSemi]) ?_ rfl
 intro ts r hb he
 obtain ⟨p, q, _, t, k, h1⟩ := jaN hb
 show stG _ _ ts = _
 unfold stG
 rw [if_neg (by rw [q]; decide), if_neg (by rw [k]; decide), t]
 rw [if_neg (by decide), if_neg (by decide), if_neg (by decide), if_neg (by decide), if_neg (by decide), if_pos rfl]
 obtain ⟨_, h9⟩ := jgh h1 fun r => .ok (.mk 0 0 eB []) r
 rw [(jgh h1 _).1, h9.nil]
theorem jya {n : Nat} {f g : Nt} (hf : PE (jav n) 1 (tkN fu f 1) f) (hg : PE (jav n) 1 (tkN fu g 1) g) : PS n (tkS fu (.mk 8 0 eB [f, g])) (.mk 8 0 eB [f, g]) := by
 refine PS.eq (t := jap wReply :: (tkN fu f 1 ++ jaf pComma :: (tkN fu g 1 ++ [jaf pSemi]))) ?_ (by rw [<- joC]; rfl)
 intro ts r hb he
 obtain ⟨p, q, _, t, k, h1⟩ := jaN hb
 show stG _ _ ts = _
 unfold stG
 rw [if_neg (by rw [q]; decide), if_neg (by rw [k]; decide), t]
 obtain ⟨u2, e3, h6⟩ := jcY hf (.inr (.inl rfl)) h1
 rw [if_neg (by decide), if_neg (by decide), if_neg (by decide), if_neg (by decide), if_neg (by decide), if_neg (by decide), if_pos rfl, e3]
 rw [jmA]
 obtain ⟨_, h7⟩ := jgh h6 fun r => .ok f r
 rw [(jgh h6 _).1]
 obtain ⟨u3, e4, h8⟩ := jcY hg (.inl rfl) h7
 rw [e4]
 rw [jmA]
 obtain ⟨_, h9⟩ := jgh h8 fun r => .ok f r
 rw [(jgh h8 _).1, h9.nil]
theorem jxN {n : Nat} {f : Nt} (hf : PE (jav n) 1 (tkN fu f 1) f) : PS n (tkS fu (.mk 9 0 eB [f])) (.mk 9 0 eB [f]) := by
 refine PS.eq (t := jap wFail :: (tkN fu f 1 ++ [jaf pSemi])) ?_ (by rw [<- jnc]; rfl)
 intro ts r hb he
 obtain ⟨p, q, _, t, k, h1⟩ := jaN hb
 show stG _ _ ts = _
 unfold stG
 rw [if_neg (by rw [q]; decide), if_neg (by rw [k]; decide), t]
 obtain ⟨u3, e4, h8⟩ := jcY hf (.inl rfl) h1
 rw [if_neg (by decide), if_neg (by decide), if_neg (by decide), if_neg (by decide), if_neg (by decide), if_neg (by decide), if_neg (by decide), if_pos rfl, e4]
 rw [jmA]
 obtain ⟨_, h9⟩ := jgh h8 fun r => .ok f r
 rw [(jgh h8 _).1, h9.nil]
theorem jxC {n : Nat} : PS n (tkS fu (.mk 10 0 eB [])) (.mk 10 0 eB []) := by
 refine PS.eq (t := [jap wStop, jaf pSemi]) ?_ rfl
 intro ts r hb he
 obtain ⟨p, q, _, t, k, h1⟩ := jaN hb
 show stG _ _ ts = _
 unfold stG
 rw [if_neg (by rw [q]; decide), if_neg (by rw [k]; decide), t]
 rw [if_neg (by decide), if_neg (by decide), if_neg (by decide), if_neg (by decide), if_neg (by decide), if_neg (by decide), if_neg (by decide), if_neg (by decide), if_pos rfl]
 obtain ⟨_, h9⟩ := jgh h1 fun r => .ok (.mk 0 0 eB []) r
 rw [(jgh h1 _).1, h9.nil]
def StS (t : List Co) : Prop := ∃ s l, t = jap s :: l /\ s ≠ wElse /\ s ≠ pRb
theorem jA3 {n : Nat} (m : List Nt) (hm : ∀ f ∈ m, PS n (tkS fu f) f /\ StS (tkS fu f)) : ∀ (acc : List Nt) (ts r : List Tk) (k : Nat), Beg ((m.map (tkS fu)).flatten ++ [jaf pRb]) ts r -> m.length + 1 <= k -> jpv (stL n) k acc ts = .ok (jbg (acc ++ m)) r := by
 induction m with
 | nil =>
  intro acc ts r k hb hk
  obtain ⟨j, rfl⟩ : ∃ j, k = j + 1 := ⟨k - 1, by simp at hk; omega⟩
  have hb : Beg [jaf pRb] ts r := hb
  obtain ⟨p, _, _, hr⟩ := jdb hb
  rw [jpv, if_pos (by rw [p]; decide), List.append_nil, hr.nil]
 | cons f m ih =>
  intro acc ts r k hb hk
  obtain ⟨j, rfl⟩ : ∃ j, k = j + 1 := ⟨k - 1, by simp at hk; omega⟩
  rw [List.map_cons, List.flatten_cons, List.append_assoc] at hb
  obtain ⟨hf, s, l, hs, hs1, hs2⟩ := hm f List.mem_cons_self
  obtain ⟨u, h1, h2⟩ := hb.app
  have hel : isP wElse u = false := by
   cases m with
   | nil =>
    have h2 : Beg [jaf pRb] u r := h2
    obtain ⟨p, _⟩ := jdb h2
    rw [p]; decide
   | cons g m =>
    obtain ⟨_, s2, l2, hs2, hs3, _⟩ := hm g (by simp)
    rw [List.map_cons, List.flatten_cons, hs2] at h2
    obtain ⟨p, _⟩ := jaN (b := l2 ++ (m.map (tkS fu)).flatten ++ [jaf pRb]) (ts := u) (r := r) (by simpa using h2)
    rw [p, decide_eq_false hs3]
  have h3 := hf ts u h1 hel
  have hrb : isP pRb ts = false := by
   rw [hs] at h1
   obtain ⟨p, _⟩ := jaN h1
   rw [p, decide_eq_false hs2]
  rw [jpv, if_neg (by rw [hrb]; decide), h3]
  show jpv (stL n) j (acc ++ [f]) u = _
  rw [ih (fun g hg => hm g (List.mem_cons_of_mem _ hg)) (acc ++ [f]) u r j h2 (by simp at hk; omega), List.append_assoc]
  rfl
def PBk (n : Nat) (t : List Co) (f : Nt) : Prop := ∀ ts r, Beg t ts r -> bkF (stL n) ts = .ok f r
theorem jow {n : Nat} (m : List Nt) (hm : ∀ f ∈ m, PS n (tkS fu f) f /\ StS (tkS fu f)) : PBk n (tkB fu (jbg m)) (jbg m) := fun ts r hb => by
 have e2 : tkB fu (jbg m) = jaf pLb :: ((m.map (tkS fu)).flatten ++ [jaf pRb]) := by
  unfold jbg
  rw [tkB, jgE]; rfl
 rw [e2] at hb
 obtain ⟨_, h1⟩ := jgh hb fun r => .ok (.mk 0 0 eB []) r
 unfold bkF
 rw [(jgh hb _).1]
 have hlen : m.length <= (m.map (tkS fu)).flatten.length := by
  have : ∀ l : List Nt, (∀ f ∈ l, StS (tkS fu f)) -> l.length <= (l.map (tkS fu)).flatten.length := fun l => by
   induction l with
   | nil => intro _; exact Nat.zero_le _
   | cons f l ih =>
    intro h
    have h1 := ih fun g hg => h g (List.mem_cons_of_mem _ hg)
    obtain ⟨s, l2, hs, _⟩ := h f List.mem_cons_self
    rw [List.map_cons, List.flatten_cons, List.length_append, hs, List.length_cons, List.length_cons]
    omega
  exact this m fun f hf => (hm f hf).2
 have hl := h1.len
 rw [List.length_append] at hl
 simp only [List.length_cons, List.length_nil] at hl
 rw [jA3 m hm [] ts.tail r _ h1 (by omega)]
 rfl
theorem jyb {n : Nat} {c b : Nt} (hc : PE (jav (n + 1)) 1 (tkN fu c 1) c) (hb : PBk n (tkB fu b) b) (hl : ∃ l, tkB fu b = jaf pLb :: l) : PS (n + 1) (tkS fu (.mk 3 0 eB [c, b])) (.mk 3 0 eB [c, b]) := by
 refine PS.eq (t := jap wWhile :: (tkN fu c 1 ++ tkB fu b)) ?_ rfl
 intro ts r h0 he
 obtain ⟨l, hl⟩ := hl
 obtain ⟨p, q, _, t, k, h1⟩ := jaN h0
 show stG _ _ ts = _
 unfold stG
 rw [if_neg (by rw [q]; decide), if_neg (by rw [k]; decide), t]
 rw [hl] at h1
 obtain ⟨u, e2, h2⟩ := jcY hc (.inr (.inr rfl)) h1
 rw [<- hl] at h2
 have h3 := hb u r h2
 rw [jo5, if_neg (by decide), if_pos rfl, e2]
 show (bkF (stL n) u).andThen _ = _
 rw [h3]
 rfl
theorem jxd {n : Nat} {c b d : Nt} (hc : PE (jav (n + 1)) 1 (tkN fu c 1) c) (hb : PBk n (tkB fu b) b) (hl : ∃ l, tkB fu b = jaf pLb :: l) (hd : PBk n (tkB fu d) d) (hd0 : d.kids.length = 0 -> d = jbg []) : PS (n + 1) (tkS fu (.mk 2 0 eB [c, b, d])) (.mk 2 0 eB [c, b, d]) := by
 have e2 : tkS fu (.mk 2 0 eB [c, b, d]) = if 0 < d.kids.length then jap wIf :: tkN fu c 1 ++ tkB fu b ++ jap wElse :: tkB fu d else jap wIf :: tkN fu c 1 ++ tkB fu b := rfl
 obtain ⟨l, hl⟩ := hl
 by_cases hz : 0 < d.kids.length
 ·rw [if_pos hz] at e2
  refine PS.eq (t := jap wIf :: (tkN fu c 1 ++ (tkB fu b ++ jap wElse :: tkB fu d))) ?_ (by rw [e2]; simp)
  intro ts r h0 he
  obtain ⟨p, q, _, t, k, h1⟩ := jaN h0
  show stG _ _ ts = _
  unfold stG
  rw [if_neg (by rw [q]; decide), if_neg (by rw [k]; decide), t]
  rw [hl] at h1
  obtain ⟨u, e2, h2⟩ := jcY hc (.inr (.inr rfl)) h1
  have h2 : Beg ((jaf pLb :: l) ++ jap wElse :: tkB fu d) u r := h2
  rw [<- hl] at h2
  obtain ⟨v, h4, h5⟩ := h2.app
  have h3 := hb u v h4
  obtain ⟨p, _, _, _, _, h6⟩ := jaN h5
  have h7 := hd v.tail r h6
  rw [jo5, if_pos rfl, e2]
  show (bkF (stL n) u).andThen _ = _
  rw [h3]
  show (if isP wElse v = true then _ else _) = _
  rw [p, if_pos (by decide), h7]
  rfl
 ·rw [if_neg hz] at e2
  refine PS.eq (t := jap wIf :: (tkN fu c 1 ++ tkB fu b)) ?_ (by rw [e2]; rfl)
  intro ts r h0 he
  obtain ⟨p, q, _, t, k, h1⟩ := jaN h0
  show stG _ _ ts = _
  unfold stG
  rw [if_neg (by rw [q]; decide), if_neg (by rw [k]; decide), t]
  rw [hl] at h1
  obtain ⟨u, e2, h2⟩ := jcY hc (.inr (.inr rfl)) h1
  rw [<- hl] at h2
  have h3 := hb u r h2
  rw [jo5, if_pos rfl, e2]
  show (bkF (stL n) u).andThen _ = _
  rw [h3]
  show (if isP wElse r = true then _ else _) = _
  rw [he, if_neg (by decide), hd0 (by omega)]
theorem juP (m : List Nt) : ∃ l, tkB fu (jbg m) = jaf pLb :: l := by
 unfold jbg
 rw [tkB]
 exact ⟨_, rfl⟩
theorem jox {d : Nat} {f : Nt} (h : ES d f) : StS (tkS fu f) := by
 have kw : ∀ (s : ByteArray) (l : List Co), (s ≠ wElse /\ s ≠ pRb) -> StS (jap s :: l) := fun s l h => ⟨s, l, rfl, h.1, h.2⟩
 have hv : ∀ s ∈ varL, s ≠ wElse /\ s ≠ pRb := by decide
 cases h with
 | asg d e s f hs h he => exact kw s _ (hv s hs)
 | snd d n f g h hn h1 h2 h3 => exact kw wSend _ (by decide)
 | tim d n hn => exact kw wTimer _ (by decide)
 | can d n hn => exact kw wCancel _ (by decide)
 | syn d => exact kw wSync _ (by decide)
 | rep d f g h1 h2 => exact kw wReply _ (by decide)
 | fai d f h1 => exact kw wFail _ (by decide)
 | stp d => exact kw wStop _ (by decide)
 | whi d c l h1 h2 h3 => exact kw wWhile _ (by decide)
 | iff d c l m h1 h2 h3 h4 h5 =>
  have e2 : tkS fu (.mk 2 0 eB [c, jbg l, jbg m]) = if 0 < (jbg m).kids.length then jap wIf :: (tkN fu c 1 ++ tkB fu (jbg l) ++ jap wElse :: tkB fu (jbg m)) else jap wIf :: (tkN fu c 1 ++ tkB fu (jbg l)) := rfl
  rw [e2]
  split
  ·exact kw wIf _ (by decide)
  ·exact kw wIf _ (by decide)
theorem jAi {d : Nat} {f : Nt} (h : ES d f) : ∀ n, d + 6 <= n -> PS n (tkS fu f) f := by
 induction h with
 | asg d e s f hs h he => intro n hn; exact jx8 hs (jv8 h (by omega))
 | snd d m f g h hm h1 h2 h3 => intro n hn; exact jz1 (by omega) (jv8 h1 (by omega)) (jv8 h2 (by omega)) (jv8 h3 (by omega))
 | tim d m hm => intro n hn; exact jy9 (by omega)
 | can d m hm => intro n hn; exact jxR (by omega)
 | syn d => intro n hn; exact jz4
 | rep d f g h1 h2 => intro n hn; exact jya (jv8 h1 (by omega)) (jv8 h2 (by omega))
 | fai d f h1 => intro n hn; exact jxN (jv8 h1 (by omega))
 | stp d => intro n hn; exact jxC
 | whi d c l h1 h2 h3 ih =>
  intro n hn
  obtain ⟨k, rfl⟩ : ∃ k, n = k + 1 := ⟨n - 1, by omega⟩
  exact jyb (jAV h1 (by omega)) (jow l fun f hf => ⟨ih f hf k (by omega), jox (h3 f hf)⟩) (juP l)
 | iff d c l m h1 h2 h3 h4 h5 ih1 ih2 =>
  intro n hn
  obtain ⟨k, rfl⟩ : ∃ k, n = k + 1 := ⟨n - 1, by omega⟩
  refine jxd (jAV h1 (by omega)) (jow l fun f hf => ⟨ih1 f hf k (by omega), jox (h3 f hf)⟩) (juP l) (jow m fun f hf => ⟨ih2 f hf k (by omega), jox (h5 f hf)⟩) fun hz => ?_
  have hz : m.length = 0 := hz
  rw [List.length_eq_zero_iff.1 hz]
theorem jyp {b : Nt} (h : EK b) (n : Nat) (hn : 8 <= n) : PBk n (tkB fu b) b := by
 obtain ⟨k, rfl, h1, h2⟩ := h
 exact jow k fun f hf => ⟨jAi (h2 f hf) n (by omega), jox (h2 f hf)⟩
end
section
theorem joe : ∀ (l : List (Int × Nt)), l.Pairwise (fun a b => a.1 < b.1) -> jfD l = l
 | [], _ => rfl
 | x :: l, h => by
  have h1 := joe l (List.pairwise_cons.1 h).2
  show jt2 x (jfD l) = _
  rw [h1]
  cases l with
  | nil => rfl
  | cons y l =>
   have := (List.pairwise_cons.1 h).1 y List.mem_cons_self
   rw [jt2, if_pos (by omega)]
theorem jzn {n : Int} (h0 : 0 <= n) (h1 : n < 40) {b : List Co} {ts r : List Tk} (hb : Beg (jpt n ++ b) ts r) : ∃ u, hnF ts = .ok n u /\ Beg b u r := by
 have num : ∀ (m : Nat) (limit off : Int) (q s : List Tk), (m : Int) < limit -> Beg (jg6 m :: b) q s -> jps limit off q = .ok (off + m) q.tail /\ Beg b q.tail s := fun m limit off q s hl hq => by
  obtain ⟨hc, hr, _⟩ := hq.cons
  refine ⟨?_, hr⟩
  unfold jps
  rw [show (hd q).kind = 2 from (jcr hc).1, show (hd q).n = m from (jcr hc).2, if_neg (by decide), if_neg (by omega)]
 unfold jpt at hb
 by_cases e1 : n = 1
 ·subst e1
  rw [if_pos rfl] at hb
  obtain ⟨p, _, _, _, _, hr⟩ := jaN (b := b) hb
  refine ⟨ts.tail, ?_, hr⟩
  unfold hnF
  rw [p, p, if_neg (by decide), if_pos (by decide)]
 rw [if_neg e1] at hb
 by_cases e10 : 10 <= n
 ·rw [if_pos e10] at hb
  obtain ⟨p, _, _, _, _, hr⟩ := jaN (b := jg6 (n - 10).toNat :: b) hb
  obtain ⟨q1, q2⟩ := num (n - 10).toNat 30 10 ts.tail r (by omega) hr
  refine ⟨_, ?_, q2⟩
  unfold hnF
  rw [p, p, p, p, if_neg (by decide), if_neg (by decide), if_neg (by decide), if_pos (by decide), q1]
  congr 1; omega
 rw [if_neg e10] at hb
 by_cases e2 : 2 <= n
 ·rw [if_pos e2] at hb
  obtain ⟨p, _, _, _, _, hr⟩ := jaN (b := jg6 (n - 2).toNat :: b) hb
  obtain ⟨q1, q2⟩ := num (n - 2).toNat 8 2 ts.tail r (by omega) hr
  refine ⟨_, ?_, q2⟩
  unfold hnF
  rw [p, p, p, if_neg (by decide), if_neg (by decide), if_pos (by decide), q1]
  congr 1; omega
 rw [if_neg e2] at hb
 obtain ⟨p, _, _, _, _, hr⟩ := jaN (b := b) hb
 refine ⟨ts.tail, ?_, hr⟩
 unfold hnF
 rw [p, if_pos (by decide)]
 congr 1; omega
variable {fu : Bool}
def HO (fu : Bool) (x : Int × Nt) : Prop := 0 <= x.1 /\ x.1 < 40 /\ PBk 19 (tkB fu x.2) x.2
theorem jxW (l : List (Int × Nt)) (k : Int) (h : ∀ x ∈ l, x.1 ≠ k) : l.any (fun h => decide (h.1 = k)) = false := by
 rw [List.any_eq_false]
 intro x hx
 simpa using h x hx
theorem jys (du vo : List ByteArray) : ∀ (l acc : List (Int × Nt)) (ts r : List Tk) (k : Nat), (∀ x ∈ l, HO fu x) -> (acc ++ l).Pairwise (fun a b => a.1 ≠ b.1) -> Beg ((l.map (jfI fu)).flatten) ts r -> l.length + 1 <= k -> (hd r).kind = 0 -> jrb du vo k acc ts = .ok ⟨du, vo, jfD (acc ++ l)⟩
 | [], acc, ts, r, k, _, _, hb, hk, hr => by
  obtain ⟨j, rfl⟩ : ∃ j, k = j + 1 := ⟨k - 1, by simp at hk; omega⟩
  have e : ts = r := hb.nil
  rw [jrb, e, if_pos hr, List.append_nil]
 | x :: l, acc, ts, r, k, hl, hp, hb, hk, hr => by
  obtain ⟨j, rfl⟩ : ∃ j, k = j + 1 := ⟨k - 1, by simp at hk; omega⟩
  obtain ⟨h0, h1, hbk⟩ := hl x List.mem_cons_self
  rw [List.map_cons, List.flatten_cons] at hb
  have hb : Beg (jap wOn :: (jpt x.1 ++ (tkB fu x.2 ++ (l.map (jfI fu)).flatten))) ts r := by
   have e : jfI fu x ++ (l.map (jfI fu)).flatten = jap wOn :: (jpt x.1 ++ (tkB fu x.2 ++ (l.map (jfI fu)).flatten)) := by
    unfold jfI
    simp
   rw [<- e]; exact hb
  obtain ⟨p, _, _, _, q, h2⟩ := jaN hb
  obtain ⟨u, h3, h4⟩ := jzn h0 h1 h2
  obtain ⟨v, h5, h6⟩ := h4.app
  have h7 := hbk u v h5
  have hne : ∀ y ∈ acc, y.1 ≠ x.1 := fun y hy => (List.pairwise_append.1 hp).2.2 y hy x List.mem_cons_self
  rw [jrb, if_neg (by rw [q]; decide), if_neg (by rw [p]; decide), h3]
  show (if acc.any (fun h => decide (h.1 = x.1)) = true then _ else _) = _
  rw [jxW acc x.1 hne, if_neg (by decide), jAb, h7]
  show jrb du vo j (acc ++ [(x.1, x.2)]) v = _
  have ih := jys du vo l (acc ++ [x]) v r j (fun y hy => hl y (List.mem_cons_of_mem _ hy)) (by rw [List.append_assoc]; exact hp) h6 (by simp at hk; omega) hr
  rw [show acc ++ [(x.1, x.2)] = acc ++ [x] from rfl, ih, List.append_assoc]
  rfl
theorem jw6 (l : List (Int × Nt)) : l.length <= ((l.map (jfI fu)).flatten).length := by
 induction l with
 | nil => exact Nat.zero_le _
 | cons x l ih =>
  rw [List.map_cons, List.flatten_cons, List.length_append, List.length_cons]
  have : 1 <= (jfI fu x).length := by unfold jfI; simp
  omega
def jy7 (a : ByteArray) : Bool := !(keyL ++ builtL).any fun x => decide (a = x)
theorem juu {w a b : ByteArray} {names out : List ByteArray} {q : List Co} {ts r : List Tk} (hb : Beg (jap w :: jap a :: jaf pComma :: jap b :: jaf pSemi :: q) ts r) (ha : jy7 a = true) (hf : jy7 b = true) (h1 : names.any (fun s => decide (s = a)) = false) (h2 : (names ++ [a]).any (fun s => decide (s = b)) = false) (hl : names.length + 2 <= 16) : ∃ u, jlW ts.length names out ts = .ok (names ++ [a] ++ [b]) (out ++ [a] ++ [b]) u /\ Beg q u r := by
 have hlen := hb.len
 simp only [List.length_cons] at hlen
 obtain ⟨n, hn⟩ : ∃ n, ts.length = n + 2 := ⟨ts.length - 2, by omega⟩
 rw [hn]
 obtain ⟨_, _, _, _, _, g1⟩ := jaN hb
 obtain ⟨_, n1, _, t1, _, g2⟩ := jaN g1
 obtain ⟨p2, _, _, g3⟩ := jdb g2
 obtain ⟨_, n3, _, t3, _, g4⟩ := jaN g3
 obtain ⟨p4, _, _, g5⟩ := jdb g4
 refine ⟨ts.tail.tail.tail.tail.tail, ?_, g5⟩
 have n1 : jfC ts.tail = true := by rw [n1]; exact ha
 have n3 : jfC ts.tail.tail.tail = true := by rw [n3]; exact hf
 rw [jlW, if_neg (by rw [n1]; decide), t1, if_neg (by rw [h1]; decide), if_neg (by omega), p2, if_pos (by decide), jlW, if_neg (by rw [n3]; decide), t3, if_neg (by rw [h2]; decide), if_neg (by rw [List.length_append]; simp only [List.length_cons, List.length_nil]; omega), p4, if_neg (by decide), p4, if_pos (by decide)]
def jz9 (r : List Tk) : Prop := (hd r).kind = 0 /\ isP wDurable r = false /\ isP wVolatile r = false
theorem GU.ho {u : Ut} (h : GU u) : ∀ x ∈ u.on, HO fu x := fun x hx => by
 obtain ⟨h1, h2, h3, h4, h5⟩ := h
 obtain ⟨g1, g2, g3⟩ := h3 x hx
 exact ⟨g1, g2, jyp g3 19 (by decide)⟩
theorem jyz {l : List (Int × Nt)} {ts r : List Tk} (hb : Beg ((l.map (jfI fu)).flatten) ts r) (hr : jz9 r) : isP wDurable ts = false /\ isP wVolatile ts = false := by
 cases l with
 | nil => have e : ts = r := hb.nil; rw [e]; exact hr.2
 | cons x l =>
  have hb : Beg (jap wOn :: (jpt x.1 ++ (tkB fu x.2 ++ (l.map (jfI fu)).flatten))) ts r := by
   have e : ((x :: l).map (jfI fu)).flatten = jap wOn :: (jpt x.1 ++ (tkB fu x.2 ++ (l.map (jfI fu)).flatten)) := by
    rw [List.map_cons, List.flatten_cons]
    unfold jfI
    simp
   rw [<- e]; exact hb
  obtain ⟨p, _⟩ := jaN hb
  rw [p, p]
  decide
theorem jyG {names du vo : List ByteArray} {l : List (Int × Nt)} {ts r : List Tk} {k : Nat} (hb : Beg ((l.map (jfI fu)).flatten) ts r) (hr : jz9 r) (hl : ∀ x ∈ l, HO fu x) (hp : l.Pairwise (fun a b => a.1 ≠ b.1)) : joY (k + 1) names du vo ts = .ok ⟨du, vo, jfD l⟩ := by
 obtain ⟨n1, n2⟩ := jyz hb hr
 have hlen := hb.len
 have hh := jw6 (fu := fu) l
 rw [joY, if_neg (by rw [n1]; decide), if_neg (by rw [n2]; decide), jys du vo l [] ts r _ hl hp hb (by omega) hr.1]
 rfl
theorem jxQ {u : Ut} (h : GU u) {ts r : List Tk} (hb : Beg (jyR u) ts r) (hr : jz9 r) : juo ts = .ok u := by
 have hho := h.ho (fu := false)
 obtain ⟨h1, h2, h3, h4, h5⟩ := h
 have hb : Beg (jap wDurable :: jap ⟨#[100]⟩ :: jaf pComma :: jap ⟨#[100, 100, 49]⟩ :: jaf pSemi :: jap wVolatile :: jap ⟨#[118]⟩ :: jaf pComma :: jap ⟨#[119, 50]⟩ :: jaf pSemi :: (u.on.map (jfI false)).flatten) ts r := hb
 obtain ⟨v, e1, g1⟩ := juu (names := []) (out := []) hb (by decide) (by decide) (by decide) (by decide) (by decide)
 obtain ⟨w, e2, g2⟩ := juu (names := duL) (out := []) g1 (by decide) (by decide) (by decide) (by decide) (by decide)
 obtain ⟨p1, _⟩ := jaN hb
 obtain ⟨p2, _⟩ := jaN g1
 have hlen := hb.len
 simp only [List.length_cons] at hlen
 obtain ⟨n, hn⟩ : ∃ n, ts.length + 1 = n + 3 := ⟨ts.length - 2, by omega⟩
 unfold juo
 rw [hn, joY, if_pos (by rw [p1]; decide), e1]
 show joY (n + 2) duL ([] ++ duL) [] v = _
 rw [joY, if_neg (by rw [p2]; decide), if_pos (by rw [p2]; decide), e2]
 show joY (n + 1) _ duL voL w = _
 rw [jyG g2 hr hho (h4.imp fun hab => by omega), joe _ h4, <- h1, <- h2]
theorem TN.row {s : ByteArray} {l : List Co} (h : TN s l) : (jbb s).err = none /\ Beg l (jn7 s) [jhL s] := by
 obtain ⟨ts, h1, h2⟩ := jpS l false 0 h.lx h.fi
 rw [<- h.eq] at h1
 have h3 : jbb s = ⟨ts, none⟩ := h1
 rw [jdM (by rw [h3]), h3]
 exact ⟨rfl, ts, rfl, h2⟩
theorem jyF (s x : ByteArray) : isP x [jhL s] = false := by
 show (decide ((⟨#[]⟩ : ByteArray) = x) && (decide ((0 : Int) = 1) || decide ((0 : Int) = 3))) = false
 rw [Bool.and_eq_false_iff]
 exact .inr rfl
theorem jwI (s : ByteArray) : jz9 [jhL s] := ⟨rfl, jyF s _, jyF s _⟩
theorem jt5 {s : ByteArray} (hs : s.size <= 3000) (he : (jbb s).err = none) : jgV s = juo (jn7 s) := by
 unfold jgV
 rw [if_neg (by omega), he]
theorem jwG {u : Ut} (h : GU u) (hs : (prF u).size <= 3000) : jgV (prF u) = .ok u := by
 obtain ⟨h1, h2⟩ := (jyI h).row
 rw [jt5 hs h1]
 exact jxQ h h2 (jwI _)
end
section
def tW (κ : Nat) : List Co -> Nat
 | [] => 0
 | c :: l => c.text.length + κ + tW κ l
theorem jbf (κ : Nat) (l m : List Co) : tW κ (l ++ m) = tW κ l + tW κ m := by
 induction l with
 | nil => show tW κ m = 0 + _; omega
 | cons c l ih => show c.text.length + κ + tW κ (l ++ m) = c.text.length + κ + tW κ l + tW κ m; omega
theorem jad (κ : Nat) (c : Co) (l : List Co) : tW κ (c :: l) = c.text.length + κ + tW κ l := rfl
theorem jbE (κ : Nat) : tW κ [] = 0 := rfl
theorem jo9 : ∀ (l : List Co), (glR l).size <= tW 1 l
 | [] => Nat.zero_le _
 | c :: l => by
  have h1 := jo9 l
  have h2 := ja0 (bs c.text) (glR l)
  have h3 : (bs c.text).size = c.text.length := jbR _
  show (ja2 _ _).size <= c.text.length + 1 + tW 1 l
  omega
theorem jcx (s : ByteArray) : (jaf s).text.length = s.size := rfl
theorem jcE (s : ByteArray) : (jap s).text.length = s.size := rfl
theorem jpl (n : Nat) : (jg6 n).text.length = (jb1 n).length := rfl
theorem jq3 (κ : Nat) (p lv : Int) (fu : Bool) (l : List Co) (hl : lv <= 8) : tW κ (jd2 p lv fu l) <= tW κ l + (if p = 8 then 0 else 2 + 2 * κ) := by
 rcases jbC p lv fu l hl with ⟨e, h⟩ | ⟨e, h⟩
 ·rw [e]; omega
 ·rw [e, if_neg (by omega), jbf, jad, jad, jcx, jcx, jbE]
  have e1 : pLp.size = 1 := rfl
  have e2 : pRp.size = 1 := rfl
  omega
variable {fu : Bool} (κ : Nat)
theorem jyS : ∀ n ∈ litL, (jb1 n.toNat).length <= dgN n := by decide +kernel
theorem jzs : ∀ s ∈ opL, jab 18 s <= 6 /\ 5 <= jab 18 s := by decide
theorem jj2 {d : Nat} {f : Nt} (h : EI d f) : ∀ lv : Int, lv <= 8 -> tW κ (tkN fu f lv) <= wN κ f := by
 induction h with
 | lit d n h =>
  intro lv hl
  have h1 := jyS n h
  rw [show tkN fu (.mk 12 n eB []) lv = jd2 8 lv fu [jg6 n.toNat] from rfl, jez hl, jad, jpl, jbE, juI]
  omega
 | var d s h =>
  intro lv hl
  rw [show tkN fu (.mk 14 0 s []) lv = jd2 8 lv fu [jap s] from rfl, jez hl, jad, jcE, jbE, juw]
  omega
 | nam d s h =>
  intro lv hl
  rw [show tkN fu (.mk 15 0 s []) lv = jd2 8 lv fu [jap s] from rfl, jez hl, jad, jcE, jbE, jun]
  omega
 | drw d f h ih =>
  intro lv hl
  have h1 := ih 1 (by omega)
  have e1 : wDraw.size = 4 := rfl
  have e2 : pLp.size = 1 := rfl
  have e3 : pRp.size = 1 := rfl
  rw [show tkN fu (.mk 16 0 eB [f]) lv = jd2 8 lv fu (jap wDraw :: jaf pLp :: (tkN fu f 1 ++ [jaf pRp])) from rfl, jez hl, jad, jad, jbf, jad, jbE, jcE, jcx, jcx, juc]
  omega
 | neg d f h ih =>
  intro lv hl
  have h1 := ih 7 (by omega)
  have e1 : pMinus.size = 1 := rfl
  have hp := jq3 κ 7 lv fu (jaf pMinus :: tkN fu f 7) hl
  rw [jad, jcx, if_neg (by decide)] at hp
  rw [show tkN fu (.mk 17 0 pMinus [f]) lv = jd2 7 lv fu (jaf pMinus :: tkN fu f 7) from rfl, jnK]
  omega
 | bin d s f g hs h1 h2 i1 i2 =>
  intro lv hl
  have hp6 := jzs s hs
  have hp := jq3 κ (jab 18 s) lv fu (tkN fu f (if jab 18 s = 4 then 5 else jab 18 s) ++ jaf s :: tkN fu g (jab 18 s + 1)) hl
  rw [jbf, jad, jcx, if_neg (by omega), if_neg (by omega)] at hp
  have a1 := i1 (jab 18 s) (by omega)
  have a2 := i2 (jab 18 s + 1) (by omega)
  rw [show tkN fu (.mk 18 0 s [f, g]) lv = jd2 (jab 18 s) lv fu (tkN fu f (if jab 18 s = 4 then 5 else jab 18 s) ++ jaf s :: tkN fu g (jab 18 s + 1)) from rfl, if_neg (by omega), jip]
  omega
theorem jxK : ∀ s ∈ bolL, jab 18 s <= 2 := by decide
theorem jxG : ∀ s ∈ cmpL, jab 18 s = 4 := by decide
theorem jy3 {d : Nat} {f : Nt} (h : EB d f) : ∀ lv : Int, lv <= 8 -> tW κ (tkN fu f lv) <= wN κ f := by
 induction h with
 | lit d n h =>
  intro lv hl
  have h1 : (tfB n).size <= 5 := by rcases (by omega : n = 0 ∨ n = 1) with rfl | rfl <;> decide
  rw [show tkN fu (.mk 13 n eB []) lv = jd2 8 lv fu [jap (tfB n)] from rfl, jez hl, jad, jcE, jbE, jrL]
  omega
 | nt d f h ih =>
  intro lv hl
  have h1 := ih 3 (by omega)
  have e1 : pNot.size = 1 := rfl
  have hp := jq3 κ 3 lv fu (jaf pNot :: tkN fu f 3) hl
  rw [jad, jcx, if_neg (by decide)] at hp
  rw [show tkN fu (.mk 17 0 pNot [f]) lv = jd2 3 lv fu (jaf pNot :: tkN fu f 3) from rfl, jnK]
  omega
 | bin d s f g hs h1 h2 i1 i2 =>
  intro lv hl
  have hp6 := jxK s hs
  have hp := jq3 κ (jab 18 s) lv fu (tkN fu f (if jab 18 s = 4 then 5 else jab 18 s) ++ jaf s :: tkN fu g (jab 18 s + 1)) hl
  rw [jbf, jad, jcx, if_neg (by omega), if_neg (by omega)] at hp
  have a1 := i1 (jab 18 s) (by omega)
  have a2 := i2 (jab 18 s + 1) (by omega)
  rw [show tkN fu (.mk 18 0 s [f, g]) lv = jd2 (jab 18 s) lv fu (tkN fu f (if jab 18 s = 4 then 5 else jab 18 s) ++ jaf s :: tkN fu g (jab 18 s + 1)) from rfl, if_neg (by omega), jip]
  omega
 | cmp d s f g hs h1 h2 =>
  intro lv hl
  have hp6 := jxG s hs
  have hp := jq3 κ 4 lv fu (tkN fu f 5 ++ jaf s :: tkN fu g 5) hl
  rw [jbf, jad, jcx, if_neg (by omega)] at hp
  have a1 := jj2 (fu := fu) κ h1 5 (by omega)
  have a2 := jj2 (fu := fu) κ h2 5 (by omega)
  rw [show tkN fu (.mk 18 0 s [f, g]) lv = jd2 (jab 18 s) lv fu (tkN fu f (if jab 18 s = 4 then 5 else jab 18 s) ++ jaf s :: tkN fu g (jab 18 s + 1)) from rfl, hp6, jip]
  show tW κ (jd2 4 lv fu (tkN fu f 5 ++ jaf s :: tkN fu g 5)) <= _
  omega
theorem jhw : ∀ n, n < 10 -> (jb1 n).length <= 1 := by decide +kernel
theorem jpE : ∀ n, n < 40 -> (jb1 n).length <= 2 := by decide +kernel
theorem jn5 (l : List Nt) (h : ∀ f ∈ l, tW κ (tkS fu f) <= wS κ f) : tW κ (tkB fu (jbg l)) <= wB κ (jbg l) := by
 have e1 : pLb.size = 1 := rfl
 have e2 : pRb.size = 1 := rfl
 have e : tkB fu (jbg l) = jaf pLb :: (l.map (tkS fu)).flatten ++ [jaf pRb] := by
  unfold jbg
  rw [tkB, jgE]
 have key : tW κ (l.map (tkS fu)).flatten <= wSs κ l := by
  clear e
  induction l with
  | nil => exact Nat.zero_le _
  | cons f l ih =>
   have h1 := h f List.mem_cons_self
   have h2 := ih fun g hg => h g (List.mem_cons_of_mem _ hg)
   rw [List.map_cons, List.flatten_cons, jbf, wSs]
   omega
 rw [e, jle, jbf, jad, jad, jcx, jcx, jbE]
 omega
theorem jA2 {d : Nat} {f : Nt} (h : ES d f) : tW κ (tkS fu f) <= wS κ f := by
 have z1 : pSemi.size = 1 := rfl
 have z2 : pComma.size = 1 := rfl
 have z3 : pEq.size = 1 := rfl
 have z4 : wSend.size = 4 := rfl
 have z5 : wTimer.size = 5 := rfl
 have z6 : wCancel.size = 6 := rfl
 have z7 : wSync.size = 4 := rfl
 have z8 : wReply.size = 5 := rfl
 have z9 : wFail.size = 4 := rfl
 have z10 : wStop.size = 4 := rfl
 have z11 : wWhile.size = 5 := rfl
 have z12 : wIf.size = 2 := rfl
 have z13 : wElse.size = 4 := rfl
 induction h with
 | asg d e s f hs h he =>
  have a := jj2 (fu := fu) κ h 1 (by omega)
  rw [show tkS fu (.mk 1 0 s [f]) = jap s :: jaf pEq :: lsT fu [f] from rfl, jnc, jad, jad, jbf, jad, jbE, jcE, jcx, jcx, jqY]
  omega
 | snd d n f g h hn h1 h2 h3 =>
  have a1 := jj2 (fu := fu) κ h1 1 (by omega)
  have a2 := jj2 (fu := fu) κ h2 1 (by omega)
  have a3 := jj2 (fu := fu) κ h3 1 (by omega)
  have d1 := jhw n (by omega)
  rw [show tkS fu (.mk 4 n eB [f, g, h]) = jap wSend :: (tkN fu f 1 ++ jaf pComma :: jg6 n :: jaf pComma :: lsT fu [g, h]) from rfl, joC, jad, jbf, jad, jad, jad, jbf, jad, jbf, jad, jbE, jcE, jcx, jcx, jpl, jul]
  omega
 | tim d n hn =>
  have d1 := jhw n (by omega)
  rw [show tkS fu (.mk 5 n eB []) = [jap wTimer, jg6 n, jaf pSemi] from rfl, jad, jad, jad, jbE, jcE, jcx, jpl, juA]
  omega
 | can d n hn =>
  have d1 := jhw n (by omega)
  rw [show tkS fu (.mk 6 n eB []) = [jap wCancel, jg6 n, jaf pSemi] from rfl, jad, jad, jad, jbE, jcE, jcx, jpl, juT]
  omega
 | syn d =>
  rw [show tkS fu (.mk 7 0 eB []) = [jap wSync, jaf pSemi] from rfl, jad, jad, jbE, jcE, jcx, juW]
  omega
 | rep d f g h1 h2 =>
  have a1 := jj2 (fu := fu) κ h1 1 (by omega)
  have a2 := jj2 (fu := fu) κ h2 1 (by omega)
  rw [show tkS fu (.mk 8 0 eB [f, g]) = jap wReply :: lsT fu [f, g] from rfl, joC, jad, jbf, jad, jbf, jad, jbE, jcE, jcx, jcx, juy]
  omega
 | fai d f h1 =>
  have a1 := jj2 (fu := fu) κ h1 1 (by omega)
  rw [show tkS fu (.mk 9 0 eB [f]) = jap wFail :: lsT fu [f] from rfl, jnc, jad, jbf, jad, jbE, jcE, jcx, juR]
  omega
 | stp d =>
  rw [show tkS fu (.mk 10 0 eB []) = [jap wStop, jaf pSemi] from rfl, jad, jad, jbE, jcE, jcx, juL]
  omega
 | whi d c l h1 h2 h3 ih =>
  have a1 := jy3 (fu := fu) κ h1 1 (by omega)
  have a2 := jn5 (fu := fu) κ l ih
  rw [show tkS fu (.mk 3 0 eB [c, jbg l]) = jap wWhile :: (tkN fu c 1 ++ tkB fu (jbg l)) from rfl, jad, jbf, jcE, juf]
  omega
 | iff d c l m h1 h2 h3 h4 h5 ih1 ih2 =>
  have a1 := jy3 (fu := fu) κ h1 1 (by omega)
  have a2 := jn5 (fu := fu) κ l ih1
  have a3 := jn5 (fu := fu) κ m ih2
  rw [show tkS fu (.mk 2 0 eB [c, jbg l, jbg m]) = (if 0 < (jbg m).kids.length then jap wIf :: (tkN fu c 1 ++ tkB fu (jbg l) ++ jap wElse :: tkB fu (jbg m)) else jap wIf :: (tkN fu c 1 ++ tkB fu (jbg l))) from rfl, jug]
  split
  ·rw [jad, jbf, jbf, jad, jcE, jcE]
   omega
  ·rw [jad, jbf, jcE]
   omega
theorem jzO {b : Nt} (h : EK b) : tW κ (tkB fu b) <= wB κ b := by
 obtain ⟨k, rfl, h1, h2⟩ := h
 exact jn5 κ k fun f hf => jA2 κ (h2 f hf)
theorem jAq {x : Int × Nt} (h0 : 0 <= x.1) (h1 : x.1 < 40) (hb : EK x.2) : tW κ (jfI fu x) <= 11 + 3 * κ + wB κ x.2 := by
 have a := jzO (fu := fu) κ hb
 have hw : tW κ (jpt x.1) <= 9 + 2 * κ := by
  have z1 : wRequest.size = 7 := rfl
  have z2 : wMessage.size = 7 := rfl
  have z3 : wTimer.size = 5 := rfl
  have z4 : wStart.size = 5 := rfl
  have d1 := jpE (x.1 - 10).toNat (by omega)
  have d2 := jpE (x.1 - 2).toNat (by omega)
  unfold jpt
  split
  ·rw [jad, jbE, jcE]; omega
  ·split
   ·rw [jad, jad, jbE, jcE, jpl]; omega
   ·split
    ·rw [jad, jad, jbE, jcE, jpl]; omega
    ·rw [jad, jbE, jcE]; omega
 have z : wOn.size = 2 := rfl
 rw [show jfI fu x = jap wOn :: (jpt x.1 ++ tkB fu x.2) from rfl, jad, jbf, jcE]
 omega
theorem jqe : ∀ (l : List (Int × Nt)), (∀ x ∈ l, 0 <= x.1 /\ x.1 < 40 /\ EK x.2) -> tW κ ((l.map (jfI fu)).flatten) <= wHs κ l
 | [], _ => Nat.zero_le _
 | x :: l, h => by
  obtain ⟨a, b, c⟩ := h x List.mem_cons_self
  have h1 := jAq (fu := fu) κ a b c
  have h2 := jqe l fun y hy => h y (List.mem_cons_of_mem _ hy)
  rw [List.map_cons, List.flatten_cons, jbf, wHs]
  omega
theorem jvW (l m : List (Int × Nt)) : wHs κ (l ++ m) = wHs κ l + wHs κ m := by
 induction l with
 | nil => show wHs κ m = 0 + _; omega
 | cons x l ih => show 11 + 3 * κ + wB κ x.2 + wHs κ (l ++ m) = 11 + 3 * κ + wB κ x.2 + wHs κ l + _; omega
theorem jvG (l : List (Int × Nt)) : wHs κ l.reverse = wHs κ l := by
 induction l with
 | nil => rfl
 | cons x l ih => rw [List.reverse_cons, jvW, ih]; show wHs κ l + (11 + 3 * κ + wB κ x.2 + 0) = 11 + 3 * κ + wB κ x.2 + wHs κ l; omega
theorem jzB : tW κ dcTk = 26 + 10 * κ /\ tW κ jzP = 26 + 10 * κ := by
 unfold dcTk jzP
 simp only [jad, jbE, jcx, jcE]
 have z1 : wDurable.size = 7 := rfl
 have z2 : wVolatile.size = 8 := rfl
 have z3 : pComma.size = 1 := rfl
 have z4 : pSemi.size = 1 := rfl
 have z5 : (⟨#[100]⟩ : ByteArray).size = 1 := rfl
 have z6 : (⟨#[100, 100, 49]⟩ : ByteArray).size = 3 := rfl
 have z7 : (⟨#[118]⟩ : ByteArray).size = 1 := rfl
 have z8 : (⟨#[119, 50]⟩ : ByteArray).size = 2 := rfl
 omega
theorem GW.twK {u : Ut} (h : GW u) (ka : 1 <= κ) (kb : κ <= 7) : tW κ (jyR u) <= 884 + 296 * κ /\ tW κ (jAL u) <= 884 + 296 * κ /\ ∀ x ∈ u.on, tW κ (jfI false x) <= 858 + 286 * κ := by
 obtain ⟨⟨h1, h2, h3, h4, h5⟩, hw⟩ := h
 have hw := hw κ ka kb
 have a := jqe (fu := false) κ u.on h3
 have b := jqe (fu := true) κ u.on.reverse fun x hx => h3 x (List.mem_reverse.1 hx)
 have c := jzB κ
 rw [jvG] at b
 refine ⟨by unfold jyR; rw [jbf]; omega, by unfold jAL; rw [jbf]; omega, fun x hx => ?_⟩
 obtain ⟨l, r, hl⟩ := List.append_of_mem hx
 rw [hl] at a hw
 rw [List.map_append, List.map_cons, List.flatten_append, List.flatten_cons, jbf, jbf] at a
 omega
theorem GW.size {u : Ut} (h : GW u) : (prF u).size <= 1180 := by
 have h1 := (jyI h.1).eq
 have h2 := jo9 (jyR u)
 have h3 := (h.twK 1 (by omega) (by omega)).1
 rw [h1]; omega
theorem round_law_spec (l : List Int) : Spec Tryz.prog 11 [] [.sl 1 l.length (jf2 l)] fun _ r => r = jbj true := by
 obtain ⟨u, hu, hpg⟩ := jxe l
 have hpp := jx0 hu.1
 have hz := hu.size
 have hup := jwG hu.1 (by omega)
 have hps := jef (prF u) (by omega)
 rw [hup, show jth (.ok u) = .tup [.agg (utA u), jao 0, jao 0] from rfl] at hps
 have hsm := jzI u u
 rw [(jvM _ _).2 rfl] at hsm
 generalize prF u = s at *
 have h0 := jmd
 refine ja3 (ja1 jaj xs0 0) (fun _ _ h => h) Tryz.func11 rfl (by kernel_rfl) rfl (by kernel_rfl) ?_
 intro hok
 conv => whnf
 (refine jaa [] rfl (fun _ => hpg) ?_; rintro r rfl; conv => whnf)
 (refine jaa [] rfl (fun _ => hpp) ?_; rintro r rfl; conv => whnf)
 (refine jaa [] rfl (fun _ => hps) ?_; rintro r rfl; conv => whnf)
 conv => whnf
 (refine jaa [] rfl (fun _ => hsm) ?_; rintro r rfl; conv => whnf)
 conv => whnf
 (refine jaa [] rfl (fun _ => hpp) ?_; rintro r rfl; conv => whnf)
 conv => whnf
 rw [decide_eq_true (show s = s from rfl)]
 conv => whnf
 (refine jaa [] rfl (fun _ => h0) ?_; rintro r rfl; conv => whnf)
 rfl
end
end Go.Proofs.YtmodkpibkkpcdaaGreatDoor.Vm
