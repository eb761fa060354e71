/- Texts 6 of the proof: U23, U24, U25, U26, U27. -/
import Derived.Test.YtmodkpibkkpcdaaGreatDoorM5
namespace Go.Proofs.YtmodkpibkkpcdaaGreatDoor.Vm
open Go.RowKit Go.Shelf
set_option linter.unusedSimpArgs false
set_option linter.unusedVariables false
set_option maxRecDepth 100000
theorem at_ok (f : Nt) (r : List Tk) (k : Nt → List Tk → Pn) : (Pn.ok f r).andThen k = k f r := rfl
def stL (n : Nat) : List Tk → Pn := stG (expG (lowOf n)) (lowB (lowOf n))
theorem low_bl (n : Nat) : lowB (lowOf (n + 1)) = bkF (stL n) := by
 show (pa n).bl = _
 rw [pa_lowOf]; rfl
theorem pa_bl (n : Nat) : (pa n).bl = bkF (stL n) := low_bl n
theorem ex_then {low : Option Pa} {f : Nt} {t : List Co} (h : PE low 1 t f) {s : ByteArray} (hs : s = pSemi ∨ s = pComma ∨ s = pLb) {b : List Co} {ts r : List Tk} (hb : Beg (t ++ symC s :: b) ts r) : ∃ u, expG low ts = .ok f u ∧ Beg (symC s :: b) u r := by
 obtain ⟨u, h1, h2⟩ := hb.app
 refine ⟨u, h ts u h1 ?_, h2⟩
 rcases hs with rfl | rfl | rfl <;> exact ⟨noS_sym h2 _ (by decide), noS_sym h2 _ (by decide), noS_sym h2 _ (by decide), noS_sym h2 _ (by decide), noS_sym h2 _ (by decide)⟩
theorem xptB {s : ByteArray} {b : List Co} {ts r : List Tk} (hb : Beg (symC s :: b) ts r) (k : List Tk → Pn) : xpt s ts k = k ts.tail ∧ Beg b ts.tail r := by
 obtain ⟨p, _, _, hr⟩ := sym_hd hb
 refine ⟨?_, hr⟩
 unfold xpt
 rw [p, if_pos (decide_eq_true rfl)]
theorem numB {n : Nat} {b : List Co} {ts r : List Tk} (hb : Beg (numC n :: b) ts r) (limit : Int) (hl : (n : Int) < limit) (k : Int → List Tk → Pn) : numP limit ts k = k n ts.tail ∧ Beg b ts.tail r := by
 obtain ⟨hc, hr, _⟩ := hb.cons
 have hk := (hd_kind hc).1
 have hn := (hd_kind hc).2
 refine ⟨?_, hr⟩
 unfold numP
 rw [show (hd ts).kind = 2 from hk, show (hd ts).n = n from hn, if_neg (by decide), if_neg (by omega)]
variable {fu : Bool}
def PS (n : Nat) (t : List Co) (f : Nt) : Prop := ∀ ts r, Beg t ts r → isP wElse r = false → stL n ts = .ok f r
theorem PS.eq {n : Nat} {t t2 : List Co} {f : Nt} (h : PS n t f) (e : t2 = t) : PS n t2 f := by rw [e]; exact h
theorem ls_one (f : Nt) : lsT fu [f] = tkN fu f 1 ++ [symC pSemi] := by
 show (tkN fu f 1 ++ []) ++ [symC pSemi] = _
 rw [List.append_nil]
theorem ls_two (f g : Nt) : lsT fu [f, g] = tkN fu f 1 ++ symC pComma :: (tkN fu g 1 ++ [symC pSemi]) := by
 show (tkN fu f 1 ++ (symC pComma :: tkN fu g 1 ++ [])) ++ [symC pSemi] = _
 simp
theorem ex_i {n d : Nat} {f : Nt} (h : EI d f) (hd : 2 * d ≤ n) : PE (lowOf n) 1 (tkN fu f 1) f := (xi_ei h n hd).pe 1 (by omega) (by omega)
theorem ex_b {n d : Nat} {f : Nt} (h : EB d f) (hd : 2 * d + 1 ≤ n) : PE (lowOf n) 1 (tkN fu f 1) f := (xb_eb h n hd).pe 1 (by omega) (by omega)
theorem ps_asg {n : Nat} {s : ByteArray} (hs : s ∈ varL) {f : Nt} (hf : PE (lowOf n) 1 (tkN fu f 1) f) : PS n (tkS fu (.mk 1 0 s [f])) (.mk 1 0 s [f]) := by
 refine PS.eq (t := wrdC s :: symC pEq :: (tkN fu f 1 ++ [symC pSemi])) ?_ (by rw [← ls_one]; rfl)
 intro ts r hb he
 obtain ⟨p, q, _, t, k, h1⟩ := wrd_hd hb
 obtain ⟨e1, h2⟩ := xptB h1 fun r => (expG (lowOf n) r).andThen fun e r => xpt pSemi r fun r => .ok (.mk 1 0 (hd ts).text [e]) r
 obtain ⟨u, e2, h3⟩ := ex_then hf (.inl rfl) h2
 obtain ⟨e3, h4⟩ := xptB h3 fun r => .ok (.mk 1 0 (hd ts).text [f]) r
 have h4 := h4.nil
 show stG _ _ ts = _
 unfold stG
 rw [if_pos (by rw [q, (varL_no s hs).2.2.2.2]; rfl), e1, e2]
 rw [at_ok]
 rw [e3, h4, t]
theorem ps_snd {n m : Nat} (hm : m < 30) {f g h : Nt} (hf : PE (lowOf n) 1 (tkN fu f 1) f) (hg : PE (lowOf n) 1 (tkN fu g 1) g) (hh : PE (lowOf n) 1 (tkN fu h 1) h) : PS n (tkS fu (.mk 4 m eB [f, g, h])) (.mk 4 m eB [f, g, h]) := by
 refine PS.eq (t := wrdC wSend :: (tkN fu f 1 ++ symC pComma :: numC m :: symC pComma :: (tkN fu g 1 ++ symC pComma :: (tkN fu h 1 ++ [symC pSemi])))) ?_ (by rw [← ls_two]; rfl)
 intro ts r hb he
 obtain ⟨p, q, _, t, k, h1⟩ := wrd_hd hb
 show stG _ _ ts = _
 unfold stG
 rw [if_neg (by rw [q]; decide), if_neg (by rw [k]; decide), t]
 obtain ⟨u, e2, h2⟩ := ex_then hf (.inr (.inl rfl)) h1
 rw [if_neg (by decide), if_neg (by decide), if_pos rfl, e2]
 rw [at_ok]
 obtain ⟨_, h3⟩ := xptB h2 fun r => .ok f r
 rw [(xptB h2 _).1]
 obtain ⟨_, h4⟩ := numB h3 30 (by omega) fun _ r => .ok f r
 rw [(numB h3 30 (by omega) _).1]
 obtain ⟨_, h5⟩ := xptB h4 fun r => .ok f r
 rw [(xptB h4 _).1]
 obtain ⟨u2, e3, h6⟩ := ex_then hg (.inr (.inl rfl)) h5
 rw [e3]
 rw [at_ok]
 obtain ⟨_, h7⟩ := xptB h6 fun r => .ok f r
 rw [(xptB h6 _).1]
 obtain ⟨u3, e4, h8⟩ := ex_then hh (.inl rfl) h7
 rw [e4]
 rw [at_ok]
 obtain ⟨_, h9⟩ := xptB h8 fun r => .ok f r
 rw [(xptB h8 _).1, h9.nil]
theorem ps_tim {n m : Nat} (hm : m < 8) : PS n (tkS fu (.mk 5 m eB [])) (.mk 5 m eB []) := by
 refine PS.eq (t := [wrdC wTimer, numC m, symC pSemi]) ?_ rfl
 intro ts r hb he
 obtain ⟨p, q, _, t, k, h1⟩ := wrd_hd hb
 show stG _ _ ts = _
 unfold stG
 rw [if_neg (by rw [q]; decide), if_neg (by rw [k]; decide), t]
 rw [if_neg (by decide), if_neg (by decide), if_neg (by decide), if_pos rfl]
 obtain ⟨_, h4⟩ := numB h1 8 (by omega) fun _ r => .ok (.mk 0 0 eB []) r
 rw [(numB h1 8 (by omega) _).1]
 obtain ⟨_, h9⟩ := xptB h4 fun r => .ok (.mk 0 0 eB []) r
 rw [(xptB h4 _).1, h9.nil]
theorem ps_can {n m : Nat} (hm : m < 8) : PS n (tkS fu (.mk 6 m eB [])) (.mk 6 m eB []) := by
 refine PS.eq (t := [wrdC wCancel, numC m, symC pSemi]) ?_ rfl
 intro ts r hb he
 obtain ⟨p, q, _, t, k, h1⟩ := wrd_hd hb
 show stG _ _ ts = _
 unfold stG
 rw [if_neg (by rw [q]; decide), if_neg (by rw [k]; decide), t]
 rw [if_neg (by decide), if_neg (by decide), if_neg (by decide), if_neg (by decide), if_pos rfl]
 obtain ⟨_, h4⟩ := numB h1 8 (by omega) fun _ r => .ok (.mk 0 0 eB []) r
 rw [(numB h1 8 (by omega) _).1]
 obtain ⟨_, h9⟩ := xptB h4 fun r => .ok (.mk 0 0 eB []) r
 rw [(xptB h4 _).1, h9.nil]
theorem ps_syn {n : Nat} : PS n (tkS fu (.mk 7 0 eB [])) (.mk 7 0 eB []) := by
 refine PS.eq (t := [wrdC wSync, symC pSemi]) ?_ rfl
 intro ts r hb he
 obtain ⟨p, q, _, t, k, h1⟩ := wrd_hd hb
 show stG _ _ ts = _
 unfold stG
 rw [if_neg (by rw [q]; decide), if_neg (by rw [k]; decide), t]
 rw [if_neg (by decide), if_neg (by decide), if_neg (by decide), if_neg (by decide), if_neg (by decide), if_pos rfl]
 obtain ⟨_, h9⟩ := xptB h1 fun r => .ok (.mk 0 0 eB []) r
 rw [(xptB h1 _).1, h9.nil]
theorem ps_rep {n : Nat} {f g : Nt} (hf : PE (lowOf n) 1 (tkN fu f 1) f) (hg : PE (lowOf n) 1 (tkN fu g 1) g) : PS n (tkS fu (.mk 8 0 eB [f, g])) (.mk 8 0 eB [f, g]) := by
 refine PS.eq (t := wrdC wReply :: (tkN fu f 1 ++ symC pComma :: (tkN fu g 1 ++ [symC pSemi]))) ?_ (by rw [← ls_two]; rfl)
 intro ts r hb he
 obtain ⟨p, q, _, t, k, h1⟩ := wrd_hd hb
 show stG _ _ ts = _
 unfold stG
 rw [if_neg (by rw [q]; decide), if_neg (by rw [k]; decide), t]
 obtain ⟨u2, e3, h6⟩ := ex_then hf (.inr (.inl rfl)) h1
 rw [if_neg (by decide), if_neg (by decide), if_neg (by decide), if_neg (by decide), if_neg (by decide), if_neg (by decide), if_pos rfl, e3]
 rw [at_ok]
 obtain ⟨_, h7⟩ := xptB h6 fun r => .ok f r
 rw [(xptB h6 _).1]
 obtain ⟨u3, e4, h8⟩ := ex_then hg (.inl rfl) h7
 rw [e4]
 rw [at_ok]
 obtain ⟨_, h9⟩ := xptB h8 fun r => .ok f r
 rw [(xptB h8 _).1, h9.nil]
theorem ps_fai {n : Nat} {f : Nt} (hf : PE (lowOf n) 1 (tkN fu f 1) f) : PS n (tkS fu (.mk 9 0 eB [f])) (.mk 9 0 eB [f]) := by
 refine PS.eq (t := wrdC wFail :: (tkN fu f 1 ++ [symC pSemi])) ?_ (by rw [← ls_one]; rfl)
 intro ts r hb he
 obtain ⟨p, q, _, t, k, h1⟩ := wrd_hd hb
 show stG _ _ ts = _
 unfold stG
 rw [if_neg (by rw [q]; decide), if_neg (by rw [k]; decide), t]
 obtain ⟨u3, e4, h8⟩ := ex_then hf (.inl rfl) h1
 rw [if_neg (by decide), if_neg (by decide), if_neg (by decide), if_neg (by decide), if_neg (by decide), if_neg (by decide), if_neg (by decide), if_pos rfl, e4]
 rw [at_ok]
 obtain ⟨_, h9⟩ := xptB h8 fun r => .ok f r
 rw [(xptB h8 _).1, h9.nil]
theorem ps_stp {n : Nat} : PS n (tkS fu (.mk 10 0 eB [])) (.mk 10 0 eB []) := by
 refine PS.eq (t := [wrdC wStop, symC pSemi]) ?_ rfl
 intro ts r hb he
 obtain ⟨p, q, _, t, k, h1⟩ := wrd_hd hb
 show stG _ _ ts = _
 unfold stG
 rw [if_neg (by rw [q]; decide), if_neg (by rw [k]; decide), t]
 rw [if_neg (by decide), if_neg (by decide), if_neg (by decide), if_neg (by decide), if_neg (by decide), if_neg (by decide), if_neg (by decide), if_neg (by decide), if_pos rfl]
 obtain ⟨_, h9⟩ := xptB h1 fun r => .ok (.mk 0 0 eB []) r
 rw [(xptB h1 _).1, h9.nil]
def StS (t : List Co) : Prop := ∃ s l, t = wrdC s :: l ∧ s ≠ wElse ∧ s ≠ pRb
theorem bk_go {n : Nat} (m : List Nt) (hm : ∀ f ∈ m, PS n (tkS fu f) f ∧ StS (tkS fu f)) : ∀ (acc : List Nt) (ts r : List Tk) (k : Nat), Beg ((m.map (tkS fu)).flatten ++ [symC pRb]) ts r → m.length + 1 ≤ k → bkGo (stL n) k acc ts = .ok (blkN (acc ++ m)) r := by
 induction m with
 | nil =>
  intro acc ts r k hb hk
  obtain ⟨j, rfl⟩ : ∃ j, k = j + 1 := ⟨k - 1, by simp at hk; omega⟩
  have hb : Beg [symC pRb] ts r := hb
  obtain ⟨p, _, _, hr⟩ := sym_hd hb
  rw [bkGo, if_pos (by rw [p]; decide), List.append_nil, hr.nil]
 | cons f m ih =>
  intro acc ts r k hb hk
  obtain ⟨j, rfl⟩ : ∃ j, k = j + 1 := ⟨k - 1, by simp at hk; omega⟩
  rw [List.map_cons, List.flatten_cons, List.append_assoc] at hb
  obtain ⟨hf, s, l, hs, hs1, hs2⟩ := hm f List.mem_cons_self
  obtain ⟨u, h1, h2⟩ := hb.app
  have hel : isP wElse u = false := by
   cases m with
   | nil =>
    have h2 : Beg [symC pRb] u r := h2
    obtain ⟨p, _⟩ := sym_hd h2
    rw [p]; decide
   | cons g m =>
    obtain ⟨_, s2, l2, hs2, hs3, _⟩ := hm g (by simp)
    rw [List.map_cons, List.flatten_cons, hs2] at h2
    obtain ⟨p, _⟩ := wrd_hd (b := l2 ++ (m.map (tkS fu)).flatten ++ [symC pRb]) (ts := u) (r := r) (by simpa using h2)
    rw [p, decide_eq_false hs3]
  have h3 := hf ts u h1 hel
  have hrb : isP pRb ts = false := by
   rw [hs] at h1
   obtain ⟨p, _⟩ := wrd_hd h1
   rw [p, decide_eq_false hs2]
  rw [bkGo, if_neg (by rw [hrb]; decide), h3]
  show bkGo (stL n) j (acc ++ [f]) u = _
  rw [ih (fun g hg => hm g (List.mem_cons_of_mem _ hg)) (acc ++ [f]) u r j h2 (by simp at hk; omega), List.append_assoc]
  rfl
def PBk (n : Nat) (t : List Co) (f : Nt) : Prop := ∀ ts r, Beg t ts r → bkF (stL n) ts = .ok f r
theorem pb_blk {n : Nat} (m : List Nt) (hm : ∀ f ∈ m, PS n (tkS fu f) f ∧ StS (tkS fu f)) : PBk n (tkB fu (blkN m)) (blkN m) := fun ts r hb => by
 have e2 : tkB fu (blkN m) = symC pLb :: ((m.map (tkS fu)).flatten ++ [symC pRb]) := by
  unfold blkN
  rw [tkB, tkSs_map]; rfl
 rw [e2] at hb
 obtain ⟨_, h1⟩ := xptB hb fun r => .ok (.mk 0 0 eB []) r
 unfold bkF
 rw [(xptB hb _).1]
 have hlen : m.length ≤ (m.map (tkS fu)).flatten.length := by
  have : ∀ l : List Nt, (∀ f ∈ l, StS (tkS fu f)) → l.length ≤ (l.map (tkS fu)).flatten.length := fun l => by
   induction l with
   | nil => intro _; exact Nat.zero_le _
   | cons f l ih =>
    intro h
    have h1 := ih fun g hg => h g (List.mem_cons_of_mem _ hg)
    obtain ⟨s, l2, hs, _⟩ := h f List.mem_cons_self
    rw [List.map_cons, List.flatten_cons, List.length_append, hs, List.length_cons, List.length_cons]
    omega
  exact this m fun f hf => (hm f hf).2
 have hl := h1.len
 rw [List.length_append] at hl
 simp only [List.length_cons, List.length_nil] at hl
 rw [bk_go m hm [] ts.tail r _ h1 (by omega)]
 rfl
theorem ps_whi {n : Nat} {c b : Nt} (hc : PE (lowOf (n + 1)) 1 (tkN fu c 1) c) (hb : PBk n (tkB fu b) b) (hl : ∃ l, tkB fu b = symC pLb :: l) : PS (n + 1) (tkS fu (.mk 3 0 eB [c, b])) (.mk 3 0 eB [c, b]) := by
 refine PS.eq (t := wrdC wWhile :: (tkN fu c 1 ++ tkB fu b)) ?_ rfl
 intro ts r h0 he
 obtain ⟨l, hl⟩ := hl
 obtain ⟨p, q, _, t, k, h1⟩ := wrd_hd h0
 show stG _ _ ts = _
 unfold stG
 rw [if_neg (by rw [q]; decide), if_neg (by rw [k]; decide), t]
 rw [hl] at h1
 obtain ⟨u, e2, h2⟩ := ex_then hc (.inr (.inr rfl)) h1
 rw [← hl] at h2
 have h3 := hb u r h2
 rw [low_bl, if_neg (by decide), if_pos rfl, e2]
 show (bkF (stL n) u).andThen _ = _
 rw [h3]
 rfl
theorem ps_iff {n : Nat} {c b d : Nt} (hc : PE (lowOf (n + 1)) 1 (tkN fu c 1) c) (hb : PBk n (tkB fu b) b) (hl : ∃ l, tkB fu b = symC pLb :: l) (hd : PBk n (tkB fu d) d) (hd0 : d.kids.length = 0 → d = blkN []) : PS (n + 1) (tkS fu (.mk 2 0 eB [c, b, d])) (.mk 2 0 eB [c, b, d]) := by
 have e2 : tkS fu (.mk 2 0 eB [c, b, d]) = if 0 < d.kids.length then wrdC wIf :: tkN fu c 1 ++ tkB fu b ++ wrdC wElse :: tkB fu d else wrdC wIf :: tkN fu c 1 ++ tkB fu b := rfl
 obtain ⟨l, hl⟩ := hl
 by_cases hz : 0 < d.kids.length
 ·rw [if_pos hz] at e2
  refine PS.eq (t := wrdC wIf :: (tkN fu c 1 ++ (tkB fu b ++ wrdC wElse :: tkB fu d))) ?_ (by rw [e2]; simp)
  intro ts r h0 he
  obtain ⟨p, q, _, t, k, h1⟩ := wrd_hd h0
  show stG _ _ ts = _
  unfold stG
  rw [if_neg (by rw [q]; decide), if_neg (by rw [k]; decide), t]
  rw [hl] at h1
  obtain ⟨u, e2, h2⟩ := ex_then hc (.inr (.inr rfl)) h1
  have h2 : Beg ((symC pLb :: l) ++ wrdC wElse :: tkB fu d) u r := h2
  rw [← hl] at h2
  obtain ⟨v, h4, h5⟩ := h2.app
  have h3 := hb u v h4
  obtain ⟨p, _, _, _, _, h6⟩ := wrd_hd h5
  have h7 := hd v.tail r h6
  rw [low_bl, if_pos rfl, e2]
  show (bkF (stL n) u).andThen _ = _
  rw [h3]
  show (if isP wElse v = true then _ else _) = _
  rw [p, if_pos (by decide), h7]
  rfl
 ·rw [if_neg hz] at e2
  refine PS.eq (t := wrdC wIf :: (tkN fu c 1 ++ tkB fu b)) ?_ (by rw [e2]; rfl)
  intro ts r h0 he
  obtain ⟨p, q, _, t, k, h1⟩ := wrd_hd h0
  show stG _ _ ts = _
  unfold stG
  rw [if_neg (by rw [q]; decide), if_neg (by rw [k]; decide), t]
  rw [hl] at h1
  obtain ⟨u, e2, h2⟩ := ex_then hc (.inr (.inr rfl)) h1
  rw [← hl] at h2
  have h3 := hb u r h2
  rw [low_bl, if_pos rfl, e2]
  show (bkF (stL n) u).andThen _ = _
  rw [h3]
  show (if isP wElse r = true then _ else _) = _
  rw [he, if_neg (by decide), hd0 (by omega)]
theorem tkB_lb (m : List Nt) : ∃ l, tkB fu (blkN m) = symC pLb :: l := by
 unfold blkN
 rw [tkB]
 exact ⟨_, rfl⟩
theorem sts_es {d : Nat} {f : Nt} (h : ES d f) : StS (tkS fu f) := by
 have kw : ∀ (s : ByteArray) (l : List Co), (s ≠ wElse ∧ s ≠ pRb) → StS (wrdC s :: l) := fun s l h => ⟨s, l, rfl, h.1, h.2⟩
 have hv : ∀ s ∈ varL, s ≠ wElse ∧ s ≠ pRb := by decide
 cases h with
 | asg d e s f hs h he => exact kw s _ (hv s hs)
 | snd d n f g h hn h1 h2 h3 => exact kw wSend _ (by decide)
 | tim d n hn => exact kw wTimer _ (by decide)
 | can d n hn => exact kw wCancel _ (by decide)
 | syn d => exact kw wSync _ (by decide)
 | rep d f g h1 h2 => exact kw wReply _ (by decide)
 | fai d f h1 => exact kw wFail _ (by decide)
 | stp d => exact kw wStop _ (by decide)
 | whi d c l h1 h2 h3 => exact kw wWhile _ (by decide)
 | iff d c l m h1 h2 h3 h4 h5 =>
  have e2 : tkS fu (.mk 2 0 eB [c, blkN l, blkN m]) = if 0 < (blkN m).kids.length then wrdC wIf :: (tkN fu c 1 ++ tkB fu (blkN l) ++ wrdC wElse :: tkB fu (blkN m)) else wrdC wIf :: (tkN fu c 1 ++ tkB fu (blkN l)) := rfl
  rw [e2]
  split
  ·exact kw wIf _ (by decide)
  ·exact kw wIf _ (by decide)
theorem ps_es {d : Nat} {f : Nt} (h : ES d f) : ∀ n, d + 6 ≤ n → PS n (tkS fu f) f := by
 induction h with
 | asg d e s f hs h he => intro n hn; exact ps_asg hs (ex_i h (by omega))
 | snd d m f g h hm h1 h2 h3 => intro n hn; exact ps_snd (by omega) (ex_i h1 (by omega)) (ex_i h2 (by omega)) (ex_i h3 (by omega))
 | tim d m hm => intro n hn; exact ps_tim (by omega)
 | can d m hm => intro n hn; exact ps_can (by omega)
 | syn d => intro n hn; exact ps_syn
 | rep d f g h1 h2 => intro n hn; exact ps_rep (ex_i h1 (by omega)) (ex_i h2 (by omega))
 | fai d f h1 => intro n hn; exact ps_fai (ex_i h1 (by omega))
 | stp d => intro n hn; exact ps_stp
 | whi d c l h1 h2 h3 ih =>
  intro n hn
  obtain ⟨k, rfl⟩ : ∃ k, n = k + 1 := ⟨n - 1, by omega⟩
  exact ps_whi (ex_b h1 (by omega)) (pb_blk l fun f hf => ⟨ih f hf k (by omega), sts_es (h3 f hf)⟩) (tkB_lb l)
 | iff d c l m h1 h2 h3 h4 h5 ih1 ih2 =>
  intro n hn
  obtain ⟨k, rfl⟩ : ∃ k, n = k + 1 := ⟨n - 1, by omega⟩
  refine ps_iff (ex_b h1 (by omega)) (pb_blk l fun f hf => ⟨ih1 f hf k (by omega), sts_es (h3 f hf)⟩) (tkB_lb l) (pb_blk m fun f hf => ⟨ih2 f hf k (by omega), sts_es (h5 f hf)⟩) fun hz => ?_
  have hz : m.length = 0 := hz
  rw [List.length_eq_zero_iff.1 hz]
theorem pbk_ek {b : Nt} (h : EK b) (n : Nat) (hn : 8 ≤ n) : PBk n (tkB fu b) b := by
 obtain ⟨k, rfl, h1, h2⟩ := h
 exact pb_blk k fun f hf => ⟨ps_es (h2 f hf) n (by omega), sts_es (h2 f hf)⟩
end Go.Proofs.YtmodkpibkkpcdaaGreatDoor.Vm
namespace Go.Proofs.YtmodkpibkkpcdaaGreatDoor.Vm
open Go.RowKit Go.Shelf
set_option linter.unusedSimpArgs false
set_option linter.unusedVariables false
set_option maxRecDepth 100000
theorem sort_inc : ∀ (l : List (Int × Nt)), l.Pairwise (fun a b => a.1 < b.1) → sortH l = l
 | [], _ => rfl
 | x :: l, h => by
  have h1 := sort_inc l (List.pairwise_cons.1 h).2
  show insH x (sortH l) = _
  rw [h1]
  cases l with
  | nil => rfl
  | cons y l =>
   have := (List.pairwise_cons.1 h).1 y List.mem_cons_self
   rw [insH, if_pos (by omega)]
theorem ins_last (x : Int × Nt) : ∀ (l : List (Int × Nt)), (∀ y ∈ l, y.1 < x.1) → insH x l = l ++ [x]
 | [], _ => rfl
 | y :: l, h => by
  have h1 := h y List.mem_cons_self
  rw [insH, if_neg (by omega), ins_last x l fun z hz => h z (List.mem_cons_of_mem _ hz)]
  rfl
theorem sort_rev (l : List (Int × Nt)) (h : l.Pairwise (fun a b => a.1 < b.1)) : sortH l.reverse = l := by
 have key : ∀ (l acc : List (Int × Nt)), (acc ++ l).Pairwise (fun a b => a.1 < b.1) → l.foldl (fun a x => insH x a) acc = acc ++ l := fun l => by
  induction l with
  | nil => intro acc _; rw [List.append_nil]; rfl
  | cons x l ih =>
   intro acc h
   have h2 := (List.pairwise_append.1 h).2.2
   show l.foldl _ (insH x acc) = _
   rw [ins_last x acc fun y hy => h2 y hy x List.mem_cons_self, ih (acc ++ [x]) (by rw [List.append_assoc]; exact h), List.append_assoc]
   rfl
 unfold sortH
 rw [List.foldr_reverse]
 exact key l [] h
theorem hn_ok {n : Int} (h0 : 0 ≤ n) (h1 : n < 40) {b : List Co} {ts r : List Tk} (hb : Beg (hdWT n ++ b) ts r) : ∃ u, hnF ts = .ok n u ∧ Beg b u r := by
 have num : ∀ (m : Nat) (limit off : Int) (q s : List Tk), (m : Int) < limit → Beg (numC m :: b) q s → numH limit off q = .ok (off + m) q.tail ∧ Beg b q.tail s := fun m limit off q s hl hq => by
  obtain ⟨hc, hr, _⟩ := hq.cons
  refine ⟨?_, hr⟩
  unfold numH
  rw [show (hd q).kind = 2 from (hd_kind hc).1, show (hd q).n = m from (hd_kind hc).2, if_neg (by decide), if_neg (by omega)]
 unfold hdWT at hb
 by_cases e1 : n = 1
 ·subst e1
  rw [if_pos rfl] at hb
  obtain ⟨p, _, _, _, _, hr⟩ := wrd_hd (b := b) hb
  refine ⟨ts.tail, ?_, hr⟩
  unfold hnF
  rw [p, p, if_neg (by decide), if_pos (by decide)]
 rw [if_neg e1] at hb
 by_cases e10 : 10 ≤ n
 ·rw [if_pos e10] at hb
  obtain ⟨p, _, _, _, _, hr⟩ := wrd_hd (b := numC (n - 10).toNat :: b) hb
  obtain ⟨q1, q2⟩ := num (n - 10).toNat 30 10 ts.tail r (by omega) hr
  refine ⟨_, ?_, q2⟩
  unfold hnF
  rw [p, p, p, p, if_neg (by decide), if_neg (by decide), if_neg (by decide), if_pos (by decide), q1]
  congr 1; omega
 rw [if_neg e10] at hb
 by_cases e2 : 2 ≤ n
 ·rw [if_pos e2] at hb
  obtain ⟨p, _, _, _, _, hr⟩ := wrd_hd (b := numC (n - 2).toNat :: b) hb
  obtain ⟨q1, q2⟩ := num (n - 2).toNat 8 2 ts.tail r (by omega) hr
  refine ⟨_, ?_, q2⟩
  unfold hnF
  rw [p, p, p, if_neg (by decide), if_neg (by decide), if_pos (by decide), q1]
  congr 1; omega
 rw [if_neg e2] at hb
 obtain ⟨p, _, _, _, _, hr⟩ := wrd_hd (b := b) hb
 refine ⟨ts.tail, ?_, hr⟩
 unfold hnF
 rw [p, if_pos (by decide)]
 congr 1; omega
variable {fu : Bool}
def HO (fu : Bool) (x : Int × Nt) : Prop := 0 ≤ x.1 ∧ x.1 < 40 ∧ PBk 19 (tkB fu x.2) x.2
theorem any_ne (l : List (Int × Nt)) (k : Int) (h : ∀ x ∈ l, x.1 ≠ k) : l.any (fun h => decide (h.1 = k)) = false := by
 rw [List.any_eq_false]
 intro x hx
 simpa using h x hx
theorem ha_go (du vo : List ByteArray) : ∀ (l acc : List (Int × Nt)) (ts r : List Tk) (k : Nat), (∀ x ∈ l, HO fu x) → (acc ++ l).Pairwise (fun a b => a.1 ≠ b.1) → Beg ((l.map (hdTk fu)).flatten) ts r → l.length + 1 ≤ k → (hd r).kind = 0 → haGo du vo k acc ts = .ok ⟨du, vo, sortH (acc ++ l)⟩
 | [], acc, ts, r, k, _, _, hb, hk, hr => by
  obtain ⟨j, rfl⟩ : ∃ j, k = j + 1 := ⟨k - 1, by simp at hk; omega⟩
  have e : ts = r := hb.nil
  rw [haGo, e, if_pos hr, List.append_nil]
 | x :: l, acc, ts, r, k, hl, hp, hb, hk, hr => by
  obtain ⟨j, rfl⟩ : ∃ j, k = j + 1 := ⟨k - 1, by simp at hk; omega⟩
  obtain ⟨h0, h1, hbk⟩ := hl x List.mem_cons_self
  rw [List.map_cons, List.flatten_cons] at hb
  have hb : Beg (wrdC wOn :: (hdWT x.1 ++ (tkB fu x.2 ++ (l.map (hdTk fu)).flatten))) ts r := by
   have e : hdTk fu x ++ (l.map (hdTk fu)).flatten = wrdC wOn :: (hdWT x.1 ++ (tkB fu x.2 ++ (l.map (hdTk fu)).flatten)) := by
    unfold hdTk
    simp
   rw [← e]; exact hb
  obtain ⟨p, _, _, _, q, h2⟩ := wrd_hd hb
  obtain ⟨u, h3, h4⟩ := hn_ok h0 h1 h2
  obtain ⟨v, h5, h6⟩ := h4.app
  have h7 := hbk u v h5
  have hne : ∀ y ∈ acc, y.1 ≠ x.1 := fun y hy => (List.pairwise_append.1 hp).2.2 y hy x List.mem_cons_self
  rw [haGo, if_neg (by rw [q]; decide), if_neg (by rw [p]; decide), h3]
  show (if acc.any (fun h => decide (h.1 = x.1)) = true then _ else _) = _
  rw [any_ne acc x.1 hne, if_neg (by decide), pa_bl, h7]
  show haGo du vo j (acc ++ [(x.1, x.2)]) v = _
  have ih := ha_go du vo l (acc ++ [x]) v r j (fun y hy => hl y (List.mem_cons_of_mem _ hy)) (by rw [List.append_assoc]; exact hp) h6 (by simp at hk; omega) hr
  rw [show acc ++ [(x.1, x.2)] = acc ++ [x] from rfl, ih, List.append_assoc]
  rfl
theorem hds_len (l : List (Int × Nt)) : l.length ≤ ((l.map (hdTk fu)).flatten).length := by
 induction l with
 | nil => exact Nat.zero_le _
 | cons x l ih =>
  rw [List.map_cons, List.flatten_cons, List.length_append, List.length_cons]
  have : 1 ≤ (hdTk fu x).length := by unfold hdTk; simp
  omega
def freeN (a : ByteArray) : Bool := !(keyL ++ builtL).any fun x => decide (a = x)
theorem de_two {w a b : ByteArray} {names out : List ByteArray} {q : List Co} {ts r : List Tk} (hb : Beg (wrdC w :: wrdC a :: symC pComma :: wrdC b :: symC pSemi :: q) ts r) (ha : freeN a = true) (hf : freeN b = true) (h1 : names.any (fun s => decide (s = a)) = false) (h2 : (names ++ [a]).any (fun s => decide (s = b)) = false) (hl : names.length + 2 ≤ 16) : ∃ u, deGo ts.length names out ts = .ok (names ++ [a] ++ [b]) (out ++ [a] ++ [b]) u ∧ Beg q u r := by
 have hlen := hb.len
 simp only [List.length_cons] at hlen
 obtain ⟨n, hn⟩ : ∃ n, ts.length = n + 2 := ⟨ts.length - 2, by omega⟩
 rw [hn]
 obtain ⟨_, _, _, _, _, g1⟩ := wrd_hd hb
 obtain ⟨_, n1, _, t1, _, g2⟩ := wrd_hd g1
 obtain ⟨p2, _, _, g3⟩ := sym_hd g2
 obtain ⟨_, n3, _, t3, _, g4⟩ := wrd_hd g3
 obtain ⟨p4, _, _, g5⟩ := sym_hd g4
 refine ⟨ts.tail.tail.tail.tail.tail, ?_, g5⟩
 have n1 : isNm ts.tail = true := by rw [n1]; exact ha
 have n3 : isNm ts.tail.tail.tail = true := by rw [n3]; exact hf
 rw [deGo, if_neg (by rw [n1]; decide), t1, if_neg (by rw [h1]; decide), if_neg (by omega), p2, if_pos (by decide), deGo, if_neg (by rw [n3]; decide), t3, if_neg (by rw [h2]; decide), if_neg (by rw [List.length_append]; simp only [List.length_cons, List.length_nil]; omega), p4, if_neg (by decide), p4, if_pos (by decide)]
def EndR (r : List Tk) : Prop := (hd r).kind = 0 ∧ isP wDurable r = false ∧ isP wVolatile r = false
theorem GU.ho {u : Ut} (h : GU u) : ∀ x ∈ u.on, HO fu x := fun x hx => by
 obtain ⟨h1, h2, h3, h4, h5⟩ := h
 obtain ⟨g1, g2, g3⟩ := h3 x hx
 exact ⟨g1, g2, pbk_ek g3 19 (by decide)⟩
theorem no_dec {l : List (Int × Nt)} {ts r : List Tk} (hb : Beg ((l.map (hdTk fu)).flatten) ts r) (hr : EndR r) : isP wDurable ts = false ∧ isP wVolatile ts = false := by
 cases l with
 | nil => have e : ts = r := hb.nil; rw [e]; exact hr.2
 | cons x l =>
  have hb : Beg (wrdC wOn :: (hdWT x.1 ++ (tkB fu x.2 ++ (l.map (hdTk fu)).flatten))) ts r := by
   have e : ((x :: l).map (hdTk fu)).flatten = wrdC wOn :: (hdWT x.1 ++ (tkB fu x.2 ++ (l.map (hdTk fu)).flatten)) := by
    rw [List.map_cons, List.flatten_cons]
    unfold hdTk
    simp
   rw [← e]; exact hb
  obtain ⟨p, _⟩ := wrd_hd hb
  rw [p, p]
  decide
theorem dc_end {names du vo : List ByteArray} {l : List (Int × Nt)} {ts r : List Tk} {k : Nat} (hb : Beg ((l.map (hdTk fu)).flatten) ts r) (hr : EndR r) (hl : ∀ x ∈ l, HO fu x) (hp : l.Pairwise (fun a b => a.1 ≠ b.1)) : dcGo (k + 1) names du vo ts = .ok ⟨du, vo, sortH l⟩ := by
 obtain ⟨n1, n2⟩ := no_dec hb hr
 have hlen := hb.len
 have hh := hds_len (fu := fu) l
 rw [dcGo, if_neg (by rw [n1]; decide), if_neg (by rw [n2]; decide), ha_go du vo l [] ts r _ hl hp hb (by omega) hr.1]
 rfl
theorem pro_pr {u : Ut} (h : GU u) {ts r : List Tk} (hb : Beg (prTk u) ts r) (hr : EndR r) : proF ts = .ok u := by
 have hho := h.ho (fu := false)
 obtain ⟨h1, h2, h3, h4, h5⟩ := h
 have hb : Beg (wrdC wDurable :: wrdC ⟨#[100]⟩ :: symC pComma :: wrdC ⟨#[100, 100, 49]⟩ :: symC pSemi :: wrdC wVolatile :: wrdC ⟨#[118]⟩ :: symC pComma :: wrdC ⟨#[119, 50]⟩ :: symC pSemi :: (u.on.map (hdTk false)).flatten) ts r := hb
 obtain ⟨v, e1, g1⟩ := de_two (names := []) (out := []) hb (by decide) (by decide) (by decide) (by decide) (by decide)
 obtain ⟨w, e2, g2⟩ := de_two (names := duL) (out := []) g1 (by decide) (by decide) (by decide) (by decide) (by decide)
 obtain ⟨p1, _⟩ := wrd_hd hb
 obtain ⟨p2, _⟩ := wrd_hd g1
 have hlen := hb.len
 simp only [List.length_cons] at hlen
 obtain ⟨n, hn⟩ : ∃ n, ts.length + 1 = n + 3 := ⟨ts.length - 2, by omega⟩
 unfold proF
 rw [hn, dcGo, if_pos (by rw [p1]; decide), e1]
 show dcGo (n + 2) duL ([] ++ duL) [] v = _
 rw [dcGo, if_neg (by rw [p2]; decide), if_pos (by rw [p2]; decide), e2]
 show dcGo (n + 1) _ duL voL w = _
 rw [dc_end g2 hr hho (h4.imp fun hab => by omega), sort_inc _ h4, ← h1, ← h2]
theorem pro_lo {u : Ut} (h : GU u) {ts r : List Tk} (hb : Beg (loTk u) ts r) (hr : EndR r) : proF ts = .ok u := by
 have hho := h.ho (fu := true)
 obtain ⟨h1, h2, h3, h4, h5⟩ := h
 have hb : Beg (wrdC wVolatile :: wrdC ⟨#[118]⟩ :: symC pComma :: wrdC ⟨#[119, 50]⟩ :: symC pSemi :: wrdC wDurable :: wrdC ⟨#[100]⟩ :: symC pComma :: wrdC ⟨#[100, 100, 49]⟩ :: symC pSemi :: (u.on.reverse.map (hdTk true)).flatten) ts r := hb
 obtain ⟨v, e1, g1⟩ := de_two (names := []) (out := []) hb (by decide) (by decide) (by decide) (by decide) (by decide)
 obtain ⟨w, e2, g2⟩ := de_two (names := voL) (out := []) g1 (by decide) (by decide) (by decide) (by decide) (by decide)
 obtain ⟨p1, _⟩ := wrd_hd hb
 obtain ⟨p2, _⟩ := wrd_hd g1
 have hlen := hb.len
 simp only [List.length_cons] at hlen
 obtain ⟨n, hn⟩ : ∃ n, ts.length + 1 = n + 3 := ⟨ts.length - 2, by omega⟩
 unfold proF
 rw [hn, dcGo, if_neg (by rw [p1]; decide), if_pos (by rw [p1]; decide), e1]
 show dcGo (n + 2) voL [] ([] ++ voL) v = _
 rw [dcGo, if_pos (by rw [p2]; decide), e2]
 show dcGo (n + 1) _ duL voL w = _
 rw [dc_end g2 hr (fun x hx => hho x (List.mem_reverse.1 hx)) (List.pairwise_reverse.2 (h4.imp fun hab => by omega)), sort_rev _ h4, ← h1, ← h2]
theorem TN.row {s : ByteArray} {l : List Co} (h : TN s l) : (lexF' s).err = none ∧ Beg l (rowT s) [endTk s] := by
 obtain ⟨ts, h1, h2⟩ := lex_glR l false 0 h.lx h.fi
 rw [← h.eq] at h1
 have h3 : lexF' s = ⟨ts, none⟩ := h1
 rw [rowT_none (by rw [h3]), h3]
 exact ⟨rfl, ts, rfl, h2⟩
theorem end_p (s x : ByteArray) : isP x [endTk s] = false := by
 show (decide ((⟨#[]⟩ : ByteArray) = x) && (decide ((0 : Int) = 1) || decide ((0 : Int) = 3))) = false
 rw [Bool.and_eq_false_iff]
 exact .inr rfl
theorem end_end (s : ByteArray) : EndR [endTk s] := ⟨rfl, end_p s _, end_p s _⟩
theorem upar_row {s : ByteArray} (hs : s.size ≤ 3000) (he : (lexF' s).err = none) : uparF s = proF (rowT s) := by
 unfold uparF
 rw [if_neg (by omega), he]
end Go.Proofs.YtmodkpibkkpcdaaGreatDoor.Vm
namespace Go.Proofs.YtmodkpibkkpcdaaGreatDoor.Vm
open Go.RowKit Go.Shelf
set_option linter.unusedSimpArgs false
set_option linter.unusedVariables false
set_option maxRecDepth 100000
def tW (κ : Nat) : List Co → Nat
 | [] => 0
 | c :: l => c.text.length + κ + tW κ l
theorem tW_app (κ : Nat) (l m : List Co) : tW κ (l ++ m) = tW κ l + tW κ m := by
 induction l with
 | nil => show tW κ m = 0 + _; omega
 | cons c l ih => show c.text.length + κ + tW κ (l ++ m) = c.text.length + κ + tW κ l + tW κ m; omega
theorem tW_cons (κ : Nat) (c : Co) (l : List Co) : tW κ (c :: l) = c.text.length + κ + tW κ l := rfl
theorem tW_nil (κ : Nat) : tW κ [] = 0 := rfl
theorem glR_size : ∀ (l : List Co), (glR l).size ≤ tW 1 l
 | [] => Nat.zero_le _
 | c :: l => by
  have h1 := glR_size l
  have h2 := glue_size (bs c.text) (glR l)
  have h3 : (bs c.text).size = c.text.length := bs_size _
  show (glueF _ _).size ≤ c.text.length + 1 + tW 1 l
  omega
theorem sym_w (s : ByteArray) : (symC s).text.length = s.size := rfl
theorem wrd_w (s : ByteArray) : (wrdC s).text.length = s.size := rfl
theorem num_w (n : Nat) : (numC n).text.length = (decS n).length := rfl
theorem par_w (κ : Nat) (p lv : Int) (fu : Bool) (l : List Co) (hl : lv ≤ 8) : tW κ (parT p lv fu l) ≤ tW κ l + (if p = 8 then 0 else 2 + 2 * κ) := by
 rcases parT_cases p lv fu l hl with ⟨e, h⟩ | ⟨e, h⟩
 ·rw [e]; omega
 ·rw [e, if_neg (by omega), tW_app, tW_cons, tW_cons, sym_w, sym_w, tW_nil]
  have e1 : pLp.size = 1 := rfl
  have e2 : pRp.size = 1 := rfl
  omega
variable {fu : Bool} (κ : Nat)
theorem lit_dg : ∀ n ∈ litL, (decS n.toNat).length ≤ dgN n := by decide +kernel
theorem opL_p : ∀ s ∈ opL, prec6 18 s ≤ 6 ∧ 5 ≤ prec6 18 s := by decide
theorem tw_ei {d : Nat} {f : Nt} (h : EI d f) : ∀ lv : Int, lv ≤ 8 → tW κ (tkN fu f lv) ≤ wN κ f := by
 induction h with
 | lit d n h =>
  intro lv hl
  have h1 := lit_dg n h
  rw [show tkN fu (.mk 12 n eB []) lv = parT 8 lv fu [numC n.toNat] from rfl, parT_8 hl, tW_cons, num_w, tW_nil, wN_int]
  omega
 | var d s h =>
  intro lv hl
  rw [show tkN fu (.mk 14 0 s []) lv = parT 8 lv fu [wrdC s] from rfl, parT_8 hl, tW_cons, wrd_w, tW_nil, wN_var]
  omega
 | nam d s h =>
  intro lv hl
  rw [show tkN fu (.mk 15 0 s []) lv = parT 8 lv fu [wrdC s] from rfl, parT_8 hl, tW_cons, wrd_w, tW_nil, wN_nam]
  omega
 | drw d f h ih =>
  intro lv hl
  have h1 := ih 1 (by omega)
  have e1 : wDraw.size = 4 := rfl
  have e2 : pLp.size = 1 := rfl
  have e3 : pRp.size = 1 := rfl
  rw [show tkN fu (.mk 16 0 eB [f]) lv = parT 8 lv fu (wrdC wDraw :: symC pLp :: (tkN fu f 1 ++ [symC pRp])) from rfl, parT_8 hl, tW_cons, tW_cons, tW_app, tW_cons, tW_nil, wrd_w, sym_w, sym_w, wN_drw]
  omega
 | neg d f h ih =>
  intro lv hl
  have h1 := ih 7 (by omega)
  have e1 : pMinus.size = 1 := rfl
  have hp := par_w κ 7 lv fu (symC pMinus :: tkN fu f 7) hl
  rw [tW_cons, sym_w, if_neg (by decide)] at hp
  rw [show tkN fu (.mk 17 0 pMinus [f]) lv = parT 7 lv fu (symC pMinus :: tkN fu f 7) from rfl, wN_una]
  omega
 | bin d s f g hs h1 h2 i1 i2 =>
  intro lv hl
  have hp6 := opL_p s hs
  have hp := par_w κ (prec6 18 s) lv fu (tkN fu f (if prec6 18 s = 4 then 5 else prec6 18 s) ++ symC s :: tkN fu g (prec6 18 s + 1)) hl
  rw [tW_app, tW_cons, sym_w, if_neg (by omega), if_neg (by omega)] at hp
  have a1 := i1 (prec6 18 s) (by omega)
  have a2 := i2 (prec6 18 s + 1) (by omega)
  rw [show tkN fu (.mk 18 0 s [f, g]) lv = parT (prec6 18 s) lv fu (tkN fu f (if prec6 18 s = 4 then 5 else prec6 18 s) ++ symC s :: tkN fu g (prec6 18 s + 1)) from rfl, if_neg (by omega), wN_bin]
  omega
theorem bolL_p : ∀ s ∈ bolL, prec6 18 s ≤ 2 := by decide
theorem cmpL_p : ∀ s ∈ cmpL, prec6 18 s = 4 := by decide
theorem tw_eb {d : Nat} {f : Nt} (h : EB d f) : ∀ lv : Int, lv ≤ 8 → tW κ (tkN fu f lv) ≤ wN κ f := by
 induction h with
 | lit d n h =>
  intro lv hl
  have h1 : (tfB n).size ≤ 5 := by rcases (by omega : n = 0 ∨ n = 1) with rfl | rfl <;> decide
  rw [show tkN fu (.mk 13 n eB []) lv = parT 8 lv fu [wrdC (tfB n)] from rfl, parT_8 hl, tW_cons, wrd_w, tW_nil, wN_bool]
  omega
 | nt d f h ih =>
  intro lv hl
  have h1 := ih 3 (by omega)
  have e1 : pNot.size = 1 := rfl
  have hp := par_w κ 3 lv fu (symC pNot :: tkN fu f 3) hl
  rw [tW_cons, sym_w, if_neg (by decide)] at hp
  rw [show tkN fu (.mk 17 0 pNot [f]) lv = parT 3 lv fu (symC pNot :: tkN fu f 3) from rfl, wN_una]
  omega
 | bin d s f g hs h1 h2 i1 i2 =>
  intro lv hl
  have hp6 := bolL_p s hs
  have hp := par_w κ (prec6 18 s) lv fu (tkN fu f (if prec6 18 s = 4 then 5 else prec6 18 s) ++ symC s :: tkN fu g (prec6 18 s + 1)) hl
  rw [tW_app, tW_cons, sym_w, if_neg (by omega), if_neg (by omega)] at hp
  have a1 := i1 (prec6 18 s) (by omega)
  have a2 := i2 (prec6 18 s + 1) (by omega)
  rw [show tkN fu (.mk 18 0 s [f, g]) lv = parT (prec6 18 s) lv fu (tkN fu f (if prec6 18 s = 4 then 5 else prec6 18 s) ++ symC s :: tkN fu g (prec6 18 s + 1)) from rfl, if_neg (by omega), wN_bin]
  omega
 | cmp d s f g hs h1 h2 =>
  intro lv hl
  have hp6 := cmpL_p s hs
  have hp := par_w κ 4 lv fu (tkN fu f 5 ++ symC s :: tkN fu g 5) hl
  rw [tW_app, tW_cons, sym_w, if_neg (by omega)] at hp
  have a1 := tw_ei (fu := fu) κ h1 5 (by omega)
  have a2 := tw_ei (fu := fu) κ h2 5 (by omega)
  rw [show tkN fu (.mk 18 0 s [f, g]) lv = parT (prec6 18 s) lv fu (tkN fu f (if prec6 18 s = 4 then 5 else prec6 18 s) ++ symC s :: tkN fu g (prec6 18 s + 1)) from rfl, hp6, wN_bin]
  show tW κ (parT 4 lv fu (tkN fu f 5 ++ symC s :: tkN fu g 5)) ≤ _
  omega
theorem dig_small : ∀ n, n < 10 → (decS n).length ≤ 1 := by decide +kernel
theorem dig_two : ∀ n, n < 40 → (decS n).length ≤ 2 := by decide +kernel
theorem tw_blk (l : List Nt) (h : ∀ f ∈ l, tW κ (tkS fu f) ≤ wS κ f) : tW κ (tkB fu (blkN l)) ≤ wB κ (blkN l) := by
 have e1 : pLb.size = 1 := rfl
 have e2 : pRb.size = 1 := rfl
 have e : tkB fu (blkN l) = symC pLb :: (l.map (tkS fu)).flatten ++ [symC pRb] := by
  unfold blkN
  rw [tkB, tkSs_map]
 have key : tW κ (l.map (tkS fu)).flatten ≤ wSs κ l := by
  clear e
  induction l with
  | nil => exact Nat.zero_le _
  | cons f l ih =>
   have h1 := h f List.mem_cons_self
   have h2 := ih fun g hg => h g (List.mem_cons_of_mem _ hg)
   rw [List.map_cons, List.flatten_cons, tW_app, wSs]
   omega
 rw [e, wB_blk, tW_app, tW_cons, tW_cons, sym_w, sym_w, tW_nil]
 omega
theorem tw_es {d : Nat} {f : Nt} (h : ES d f) : tW κ (tkS fu f) ≤ wS κ f := by
 have z1 : pSemi.size = 1 := rfl
 have z2 : pComma.size = 1 := rfl
 have z3 : pEq.size = 1 := rfl
 have z4 : wSend.size = 4 := rfl
 have z5 : wTimer.size = 5 := rfl
 have z6 : wCancel.size = 6 := rfl
 have z7 : wSync.size = 4 := rfl
 have z8 : wReply.size = 5 := rfl
 have z9 : wFail.size = 4 := rfl
 have z10 : wStop.size = 4 := rfl
 have z11 : wWhile.size = 5 := rfl
 have z12 : wIf.size = 2 := rfl
 have z13 : wElse.size = 4 := rfl
 induction h with
 | asg d e s f hs h he =>
  have a := tw_ei (fu := fu) κ h 1 (by omega)
  rw [show tkS fu (.mk 1 0 s [f]) = wrdC s :: symC pEq :: lsT fu [f] from rfl, ls_one, tW_cons, tW_cons, tW_app, tW_cons, tW_nil, wrd_w, sym_w, sym_w, wS_asg]
  omega
 | snd d n f g h hn h1 h2 h3 =>
  have a1 := tw_ei (fu := fu) κ h1 1 (by omega)
  have a2 := tw_ei (fu := fu) κ h2 1 (by omega)
  have a3 := tw_ei (fu := fu) κ h3 1 (by omega)
  have d1 := dig_small n (by omega)
  rw [show tkS fu (.mk 4 n eB [f, g, h]) = wrdC wSend :: (tkN fu f 1 ++ symC pComma :: numC n :: symC pComma :: lsT fu [g, h]) from rfl, ls_two, tW_cons, tW_app, tW_cons, tW_cons, tW_cons, tW_app, tW_cons, tW_app, tW_cons, tW_nil, wrd_w, sym_w, sym_w, num_w, wS_snd]
  omega
 | tim d n hn =>
  have d1 := dig_small n (by omega)
  rw [show tkS fu (.mk 5 n eB []) = [wrdC wTimer, numC n, symC pSemi] from rfl, tW_cons, tW_cons, tW_cons, tW_nil, wrd_w, sym_w, num_w, wS_tim]
  omega
 | can d n hn =>
  have d1 := dig_small n (by omega)
  rw [show tkS fu (.mk 6 n eB []) = [wrdC wCancel, numC n, symC pSemi] from rfl, tW_cons, tW_cons, tW_cons, tW_nil, wrd_w, sym_w, num_w, wS_can]
  omega
 | syn d =>
  rw [show tkS fu (.mk 7 0 eB []) = [wrdC wSync, symC pSemi] from rfl, tW_cons, tW_cons, tW_nil, wrd_w, sym_w, wS_syn]
  omega
 | rep d f g h1 h2 =>
  have a1 := tw_ei (fu := fu) κ h1 1 (by omega)
  have a2 := tw_ei (fu := fu) κ h2 1 (by omega)
  rw [show tkS fu (.mk 8 0 eB [f, g]) = wrdC wReply :: lsT fu [f, g] from rfl, ls_two, tW_cons, tW_app, tW_cons, tW_app, tW_cons, tW_nil, wrd_w, sym_w, sym_w, wS_rep]
  omega
 | fai d f h1 =>
  have a1 := tw_ei (fu := fu) κ h1 1 (by omega)
  rw [show tkS fu (.mk 9 0 eB [f]) = wrdC wFail :: lsT fu [f] from rfl, ls_one, tW_cons, tW_app, tW_cons, tW_nil, wrd_w, sym_w, wS_fai]
  omega
 | stp d =>
  rw [show tkS fu (.mk 10 0 eB []) = [wrdC wStop, symC pSemi] from rfl, tW_cons, tW_cons, tW_nil, wrd_w, sym_w, wS_stp]
  omega
 | whi d c l h1 h2 h3 ih =>
  have a1 := tw_eb (fu := fu) κ h1 1 (by omega)
  have a2 := tw_blk (fu := fu) κ l ih
  rw [show tkS fu (.mk 3 0 eB [c, blkN l]) = wrdC wWhile :: (tkN fu c 1 ++ tkB fu (blkN l)) from rfl, tW_cons, tW_app, wrd_w, wS_whi]
  omega
 | iff d c l m h1 h2 h3 h4 h5 ih1 ih2 =>
  have a1 := tw_eb (fu := fu) κ h1 1 (by omega)
  have a2 := tw_blk (fu := fu) κ l ih1
  have a3 := tw_blk (fu := fu) κ m ih2
  rw [show tkS fu (.mk 2 0 eB [c, blkN l, blkN m]) = (if 0 < (blkN m).kids.length then wrdC wIf :: (tkN fu c 1 ++ tkB fu (blkN l) ++ wrdC wElse :: tkB fu (blkN m)) else wrdC wIf :: (tkN fu c 1 ++ tkB fu (blkN l))) from rfl, wS_iff]
  split
  ·rw [tW_cons, tW_app, tW_app, tW_cons, wrd_w, wrd_w]
   omega
  ·rw [tW_cons, tW_app, wrd_w]
   omega
theorem tw_ek {b : Nt} (h : EK b) : tW κ (tkB fu b) ≤ wB κ b := by
 obtain ⟨k, rfl, h1, h2⟩ := h
 exact tw_blk κ k fun f hf => tw_es κ (h2 f hf)
theorem tw_hd {x : Int × Nt} (h0 : 0 ≤ x.1) (h1 : x.1 < 40) (hb : EK x.2) : tW κ (hdTk fu x) ≤ 11 + 3 * κ + wB κ x.2 := by
 have a := tw_ek (fu := fu) κ hb
 have hw : tW κ (hdWT x.1) ≤ 9 + 2 * κ := by
  have z1 : wRequest.size = 7 := rfl
  have z2 : wMessage.size = 7 := rfl
  have z3 : wTimer.size = 5 := rfl
  have z4 : wStart.size = 5 := rfl
  have d1 := dig_two (x.1 - 10).toNat (by omega)
  have d2 := dig_two (x.1 - 2).toNat (by omega)
  unfold hdWT
  split
  ·rw [tW_cons, tW_nil, wrd_w]; omega
  ·split
   ·rw [tW_cons, tW_cons, tW_nil, wrd_w, num_w]; omega
   ·split
    ·rw [tW_cons, tW_cons, tW_nil, wrd_w, num_w]; omega
    ·rw [tW_cons, tW_nil, wrd_w]; omega
 have z : wOn.size = 2 := rfl
 rw [show hdTk fu x = wrdC wOn :: (hdWT x.1 ++ tkB fu x.2) from rfl, tW_cons, tW_app, wrd_w]
 omega
theorem tw_hds : ∀ (l : List (Int × Nt)), (∀ x ∈ l, 0 ≤ x.1 ∧ x.1 < 40 ∧ EK x.2) → tW κ ((l.map (hdTk fu)).flatten) ≤ wHs κ l
 | [], _ => Nat.zero_le _
 | x :: l, h => by
  obtain ⟨a, b, c⟩ := h x List.mem_cons_self
  have h1 := tw_hd (fu := fu) κ a b c
  have h2 := tw_hds l fun y hy => h y (List.mem_cons_of_mem _ hy)
  rw [List.map_cons, List.flatten_cons, tW_app, wHs]
  omega
theorem wHs_app (l m : List (Int × Nt)) : wHs κ (l ++ m) = wHs κ l + wHs κ m := by
 induction l with
 | nil => show wHs κ m = 0 + _; omega
 | cons x l ih => show 11 + 3 * κ + wB κ x.2 + wHs κ (l ++ m) = 11 + 3 * κ + wB κ x.2 + wHs κ l + _; omega
theorem wHs_rev (l : List (Int × Nt)) : wHs κ l.reverse = wHs κ l := by
 induction l with
 | nil => rfl
 | cons x l ih => rw [List.reverse_cons, wHs_app, ih]; show wHs κ l + (11 + 3 * κ + wB κ x.2 + 0) = 11 + 3 * κ + wB κ x.2 + wHs κ l; omega
theorem tw_dc : tW κ dcTk = 26 + 10 * κ ∧ tW κ dcTl = 26 + 10 * κ := by
 unfold dcTk dcTl
 simp only [tW_cons, tW_nil, sym_w, wrd_w]
 have z1 : wDurable.size = 7 := rfl
 have z2 : wVolatile.size = 8 := rfl
 have z3 : pComma.size = 1 := rfl
 have z4 : pSemi.size = 1 := rfl
 have z5 : (⟨#[100]⟩ : ByteArray).size = 1 := rfl
 have z6 : (⟨#[100, 100, 49]⟩ : ByteArray).size = 3 := rfl
 have z7 : (⟨#[118]⟩ : ByteArray).size = 1 := rfl
 have z8 : (⟨#[119, 50]⟩ : ByteArray).size = 2 := rfl
 omega
theorem GW.twK {u : Ut} (h : GW u) (ka : 1 ≤ κ) (kb : κ ≤ 7) : tW κ (prTk u) ≤ 884 + 296 * κ ∧ tW κ (loTk u) ≤ 884 + 296 * κ ∧ ∀ x ∈ u.on, tW κ (hdTk false x) ≤ 858 + 286 * κ := by
 obtain ⟨⟨h1, h2, h3, h4, h5⟩, hw⟩ := h
 have hw := hw κ ka kb
 have a := tw_hds (fu := false) κ u.on h3
 have b := tw_hds (fu := true) κ u.on.reverse fun x hx => h3 x (List.mem_reverse.1 hx)
 have c := tw_dc κ
 rw [wHs_rev] at b
 refine ⟨by unfold prTk; rw [tW_app]; omega, by unfold loTk; rw [tW_app]; omega, fun x hx => ?_⟩
 obtain ⟨l, r, hl⟩ := List.append_of_mem hx
 rw [hl] at a hw
 rw [List.map_append, List.map_cons, List.flatten_append, List.flatten_cons, tW_app, tW_app] at a
 omega
theorem GW.tw {u : Ut} (h : GW u) : tW 7 (prTk u) ≤ 2956 ∧ tW 7 (loTk u) ≤ 2956 := by
 have := h.twK 7 (by omega) (by omega)
 omega
theorem GW.size {u : Ut} (h : GW u) : (prF u).size ≤ 1180 := by
 have h1 := (tn_pr h.1).eq
 have h2 := glR_size (prTk u)
 have h3 := (h.twK 1 (by omega) (by omega)).1
 rw [h1]; omega
end Go.Proofs.YtmodkpibkkpcdaaGreatDoor.Vm
namespace Go.Proofs.YtmodkpibkkpcdaaGreatDoor.Vm
open Go.RowKit Go.Shelf
set_option linter.unusedSimpArgs false
set_option linter.unusedVariables false
set_option maxRecDepth 100000
def sep6 : List ByteArray := [⟨#[32]⟩, ⟨#[10]⟩, ⟨#[32, 32, 9]⟩, ⟨#[35, 97, 123, 10]⟩, ⟨#[10, 35, 32, 111, 110, 10, 32]⟩, ⟨#[32]⟩]
theorem sep_white {b : ByteArray} (hq : b ∈ sep6) (p : Nat) (m : List UInt8) : lexL p (b.data.toList ++ m) = lexL (p + b.data.toList.length) m := by
 unfold sep6 at hq
 simp only [List.mem_cons, List.not_mem_nil, or_false] at hq
 have nl : ∀ p, lexL p (10 :: m) = lexL (p + 1) m := fun p => lexL_sp (by decide) (by decide)
 have one : ∀ p, lexL p (32 :: m) = lexL (p + 1) m := fun p => lexL_sp (by decide) (by decide)
 rcases hq with rfl | rfl | rfl | rfl | rfl | rfl
 ·exact one p
 ·exact nl p
 ·show lexL p (32 :: 32 :: 9 :: m) = _
  rw [lexL_sp (by decide) (by decide), lexL_sp (by decide) (by decide), lexL_sp (by decide) (by decide)]; rfl
 ·show lexL p (35 :: 97 :: 123 :: 10 :: m) = _
  rw [lexL_hash (by decide)]
  have e : spanN noNl (97 :: 123 :: 10 :: m) = 2 := by rfl
  rw [e]
  exact nl _
 ·show lexL p (10 :: 35 :: 32 :: 111 :: 110 :: 10 :: 32 :: m) = _
  rw [lexL_sp (by decide) (by decide), lexL_hash (by decide)]
  have e : spanN noNl (32 :: 111 :: 110 :: 10 :: 32 :: m) = 3 := by rfl
  rw [e]
  show lexL (p + 1 + 1 + 3) (10 :: 32 :: m) = _
  rw [lexL_sp (by decide) (by decide)]
  exact one _
 ·exact one p
theorem sep_first {b : ByteArray} (hq : b ∈ sep6) : ∃ y r, b.data.toList = y :: r ∧ ∀ x, okN x y := by
 unfold sep6 at hq
 simp only [List.mem_cons, List.not_mem_nil, or_false] at hq
 rcases hq with rfl | rfl | rfl | rfl | rfl | rfl <;> exact ⟨_, _, rfl, fun x => ⟨fun _ => by decide, fun _ => by decide⟩⟩
theorem sep_size : ∀ b ∈ sep6, b.size ≤ 7 := by decide
def spF (q : Nat → ByteArray) : Nat → List ByteArray → ByteArray
 | _, [] => ⟨#[]⟩
 | i, x :: l => q i ++ x ++ spF q (i + 1) l
theorem spF_snoc (q : Nat → ByteArray) : ∀ (l : List ByteArray) (i : Nat) (x : ByteArray), spF q i (l ++ [x]) = spF q i l ++ q (i + l.length) ++ x
 | [], i, x => by
  show q i ++ x ++ ⟨#[]⟩ = ⟨#[]⟩ ++ q (i + 0) ++ x
  rw [ba_nil, nil_ba]; rfl
 | y :: l, i, x => by
  show q i ++ y ++ spF q (i + 1) (l ++ [x]) = q i ++ y ++ spF q (i + 1) l ++ q (i + (l.length + 1)) ++ x
  rw [spF_snoc q l (i + 1) x, show i + 1 + l.length = i + (l.length + 1) by omega, ← ba_assoc, ← ba_assoc]
theorem lex_spF (q : Nat → ByteArray) (hq : ∀ i, q i ∈ sep6) : ∀ (l : List Co) (i p : Nat), (∀ c ∈ l, LexT c) → ∃ ts, lexL p (spF q i (l.map (fun c => bs c.text) ++ [⟨#[]⟩])).data.toList = ⟨ts, none⟩ ∧ ts.map core = l
 | [], i, p, _ => by
  refine ⟨[], ?_, rfl⟩
  show lexL p (q i ++ ⟨#[]⟩ ++ ⟨#[]⟩).data.toList = _
  rw [ba_nil, ba_nil, ← List.append_nil (q i).data.toList, sep_white (hq i)]
  rfl
 | c :: l, i, p, hl => by
  have hc := hl c List.mem_cons_self
  obtain ⟨ts, h1, h2⟩ := lex_spF q hq l (i + 1) (p + (q i).data.toList.length + c.text.length) fun d hd => hl d (List.mem_cons_of_mem _ hd)
  refine ⟨⟨c.kind, p + (q i).data.toList.length, bs c.text, c.n⟩ :: ts, ?_, by rw [List.map_cons, h2]; rfl⟩
  show lexL p (q i ++ bs c.text ++ spF q (i + 1) (l.map (fun c => bs c.text) ++ [⟨#[]⟩])).data.toList = _
  rw [ba_app, ba_app, bs_list, List.append_assoc, sep_white (hq i), lex_tok hc, h1]
  ·rfl
  ·intro y r hy
   obtain ⟨y2, r2, e1, e2⟩ := sep_first (hq (i + 1))
   have e : ∃ z, (spF q (i + 1) (l.map (fun c => bs c.text) ++ [⟨#[]⟩])).data.toList = (q (i + 1)).data.toList ++ z := by
    cases l with
    | nil => exact ⟨[], by show (q (i + 1) ++ ⟨#[]⟩ ++ ⟨#[]⟩).data.toList = _; rw [ba_nil, ba_nil, List.append_nil]⟩
    | cons d l => exact ⟨_, by show (q (i + 1) ++ bs d.text ++ _).data.toList = _; rw [ba_app, ba_app, List.append_assoc]⟩
   obtain ⟨z, hz⟩ := e
   rw [hz, e1] at hy
   cases hy
   exact e2 _
theorem spF_size (q : Nat → ByteArray) (hq : ∀ i, q i ∈ sep6) : ∀ (l : List Co) (i : Nat), (spF q i (l.map (fun c => bs c.text) ++ [⟨#[]⟩])).size ≤ tW 7 l + 7
 | [], i => by
  show (q i ++ ⟨#[]⟩ ++ ⟨#[]⟩).size ≤ _
  rw [ba_nil, ba_nil]
  have := sep_size _ (hq i)
  omega
 | c :: l, i => by
  have h1 := spF_size q hq l (i + 1)
  have h2 := sep_size _ (hq i)
  show (q i ++ bs c.text ++ spF q (i + 1) (l.map (fun c => bs c.text) ++ [⟨#[]⟩])).size ≤ _
  rw [ByteArray.size_append, ByteArray.size_append, bs_size, tW_cons]
  omega
def clK (m : Nat) (x : Int) : Int := if 0 ≤ x ∧ x < m then x else 0
theorem clK_eq {m : Nat} {x : Int} (h : 0 ≤ x ∧ x < m) : clK m x = x := if_pos h
def pkM (l : List Int) (i m : Nat) : Int := clK m (if i < l.length then aroundF (l.getD i 0) m else 0)
theorem pkM_rng (l : List Int) (i : Nat) {m : Nat} (hm : 1 ≤ m) : 0 ≤ pkM l i m ∧ pkM l i m < m := by
 unfold pkM
 generalize (if i < l.length then aroundF (l.getD i 0) m else 0) = x
 unfold clK
 split
 ·assumption
 ·omega
theorem rPickM (l : List Int) (i m : Nat) (hi : i ≤ 1000000000) (hm : 1 ≤ m ∧ m ≤ 1000) : Spec Tryz.prog 45 [] [.sl 1 l.length (intsA l), intA i, intA m] fun _ r => r = intA (pkM l i m) := by
 unfold pkM
 refine spec_of (cx_ok ord0 xs0 0) (fun _ _ h => h) Tryz.func45 rfl (by kernel_rfl) rfl (by kernel_rfl) ?_
 intro hok
 conv => whnf
 rw [decide_eq_false (show ¬ (i : Int) < 0 by omega)]
 conv => whnf
 by_cases hi : i < l.length
 ·have hr := rowOf_ints l i hi
  have e : l.getD i 0 = l[i] := by rw [List.getD_eq_getElem?_getD, List.getElem?_eq_getElem hi]; rfl
  rw [← e] at hr
  rw [if_pos hi, decide_eq_false (show ¬ (l.length : Int) ≤ i by omega)]
  generalize l.getD i 0 = x at *
  have ha := around_spec x m (by omega)
  conv => whnf
  (refine goA ?_; try with_reducible exact trivial)
  (generalize hrq : rowOf _ _ (intsA l) = rq; obtain rfl : rq = [intA x] := hrq.symm.trans (hr); clear hrq; conv => whnf)
  refine call0 [] rfl (fun _ => ha) ?_
  rintro r ⟨hx, rfl⟩
  conv => whnf
  rw [clK_eq (aroundF_rng hx (by omega))]
  rfl
 ·rw [if_neg hi, decide_eq_true (show (l.length : Int) ≤ i by omega), clK_eq (by omega)]
  conv => whnf
  rfl
def sepQ (l : List Int) (i : Nat) : ByteArray := sep6.getD (pkM l i 6).toNat ⟨#[32]⟩
theorem sepQ_mem (l : List Int) (i : Nat) : sepQ l i ∈ sep6 := by
 unfold sepQ
 generalize (pkM l i 6).toNat = k
 by_cases h : k < sep6.length
 ·rw [List.getD_eq_getElem?_getD, List.getElem?_eq_getElem h]
  exact List.getElem_mem h
 ·rw [List.getD_eq_getElem?_getD, List.getElem?_eq_none (by omega)]
  exact List.mem_cons_self
theorem sep_row (k : Int) (h : 0 ≤ k ∧ k < 6) : rowOf 1 (Int.toNat k) [.v (.string ⟨#[32]⟩), .v (.string ⟨#[10]⟩), .v (.string ⟨#[32, 32, 9]⟩), .v (.string ⟨#[35, 97, 123, 10]⟩), .v (.string ⟨#[10, 35, 32, 111, 110, 10, 32]⟩), .v (.string ⟨#[32]⟩)] = [strA (sep6.getD k.toNat ⟨#[32]⟩)] := by
 unfold sep6 rowOf
 obtain rfl | rfl | rfl | rfl | rfl | rfl : k = 0 ∨ k = 1 ∨ k = 2 ∨ k = 3 ∨ k = 4 ∨ k = 5 := by omega
 all_goals rfl
theorem spF_pre (q : Nat → ByteArray) : ∀ (l : List ByteArray) (i j : Nat), (spF q i (l.take j)).size ≤ (spF q i l).size
 | [], i, j => by rw [List.take_nil]; exact Nat.le_refl _
 | x :: l, i, 0 => Nat.zero_le _
 | x :: l, i, j + 1 => by
  have h := spF_pre q l (i + 1) j
  show (q i ++ x ++ spF q (i + 1) (l.take j)).size ≤ (q i ++ x ++ spF q (i + 1) l).size
  simp only [ByteArray.size_append]
  omega
theorem rowTk {l : List Tk} {i : Nat} {d : Tk} (h : i < l.length) : rowOf 4 i (tksL l) = tkL (l.getD i d) := by
 have h1 : rowOf 4 i (l.flatMap tkL) = tkL l[i] := rowOf_flat tkL (fun _ => rfl) l i h
 unfold tksL
 rw [h1, List.getD_eq_getElem?_getD, List.getElem?_eq_getElem h]
 rfl
def txs (us : List Tk) : List ByteArray := us.map (·.text)
theorem rspaced (l : List Int) (s : ByteArray) (hs : s.size ≤ 1000000000) (he : (lexF' s).err = none) (hn : (rowT s).length ≤ 1000000000) (hz : (spF (sepQ l) 0 (txs (rowT s))).size ≤ 1000000000) : Spec Tryz.prog 28 [] [strA s, .sl 1 l.length (intsA l)] fun _ r => r = strA (spF (sepQ l) 0 (txs (rowT s))) := by
 have hlx : lexR s = .tup [.sl 4 (rowT s).length (tksL (rowT s)), intA 0, intA 0] := by
  have h1 : lexF' s = ⟨(lexF' s).toks, none⟩ := by rw [← he]
  rw [lexR_ok h1, rowT_none he, List.length_append, tksL_snoc]
  rfl
 have htk := rtokens_spec s hs
 rw [hlx] at htk
 have hrow : ∀ j, j < (rowT s).length → rowOf 4 j (tksL (rowT s)) = tkL ((rowT s).getD j (endTk s)) := fun j hj => rowTk hj
 generalize rowT s = us at *
 have hpre := fun j => spF_pre (sepQ l) (txs us) 0 j
 refine spec_of (cx_ok (fun id => match Nat.beq id 8 with | true => .q 0 7 .nil | false => ord28 id) xs0 0) (fun _ _ h => h) Tryz.func28 rfl (by kernel_rfl) rfl (by kernel_rfl) ?_
 intro hok
 conv => whnf
 (refine call0 [] rfl (fun _ => htk) ?_; rintro r rfl; conv => whnf)
 refine loop_keep [1, 5] ?_
 conv => whnf
 refine loop_go (fun x : Nat × ByteArray => [(8, strA x.2), (9, .v (.int .i64 x.1))]) (fun _ => []) (fun _ => []) (fun x => x.1 ≤ us.length ∧ x.2 = spF (sepQ l) 0 ((txs us).take x.1)) (fun x => us.length - x.1) (0, ⟨#[]⟩) ?_ ⟨Nat.zero_le _, rfl⟩ ?_
 ·repeat' constructor
 rintro ⟨j, out⟩ ⟨hj, ho⟩
 simp only at hj ho
 have hz1 := hpre j
 rw [← ho] at hz1
 conv => whnf
 by_cases hlt : j < us.length
 ·rw [decide_eq_true (show (j : Int) < us.length by omega)]
  have hr := hrow j hlt
  have e : spF (sepQ l) 0 ((txs us).take (j + 1)) = out ++ sepQ l j ++ (us.getD j (endTk s)).text := by
   have hlt2 : j < (txs us).length := by unfold txs; rw [List.length_map]; exact hlt
   rw [List.take_succ_eq_append_getElem hlt2, spF_snoc, ← ho, List.length_take, Nat.zero_add, Nat.min_eq_left (by omega)]
   have e0 : (txs us)[j]? = some (us.getD j (endTk s)).text := by
    unfold txs
    rw [List.getElem?_map, List.getD_eq_getElem?_getD, List.getElem?_eq_getElem hlt]
    rfl
   have e1 : (txs us)[j]'hlt2 = (us.getD j (endTk s)).text := Option.some.inj (by rw [← List.getElem?_eq_getElem hlt2]; exact e0)
   rw [e1]
  have hz2 := hpre (j + 1)
  rw [e] at hz2
  have hz2 := Nat.le_trans hz2 hz
  have hpk := rPickM l j 6 (by omega) (by decide)
  have hsr := sep_row (pkM l j 6)
  have hkk := pkM_rng l j (m := 6) (by decide)
  generalize us.getD j (endTk s) = t at *
  unfold sepQ at e hz2
  generalize sep6.getD (pkM l j 6).toNat ⟨#[32]⟩ = b at *
  generalize pkM l j 6 = k at *
  rw [ByteArray.size_append, ByteArray.size_append] at hz2
  have ez : (out ++ b).size = out.size + b.size := ByteArray.size_append
  clear htk hrow hpre
  conv => whnf
  (iterate 4 (apply flow_go; (focus ((conv => whnf); exact ⟨rfl, rfl, rfl⟩)); (conv => whnf)))
  (apply flow_go; (focus ((conv => whnf); refine call0 [] rfl (fun _ => hpk) ?_; rintro r rfl; (conv => whnf); exact ⟨rfl, rfl, rfl⟩)); (conv => whnf))
  apply flow_go
  ·conv => whnf
   refine ⟨by omega, ?_⟩
   generalize hrq : rowOf _ _ [A.v (Value.string ⟨#[32]⟩), A.v (Value.string ⟨#[10]⟩), A.v (Value.string ⟨#[32, 32, 9]⟩), A.v (Value.string ⟨#[35, 97, 123, 10]⟩), A.v (Value.string ⟨#[10, 35, 32, 111, 110, 10, 32]⟩), A.v (Value.string ⟨#[32]⟩)] = rq
   obtain rfl : rq = [strA b] := hrq.symm.trans (hsr hkk)
   exact ⟨rfl, rfl, rfl⟩
  conv => whnf
  repeat (apply flow_go; (focus ((conv => whnf); exact ⟨rfl, rfl, rfl⟩)); (conv => whnf))
  apply flow_go
  ·conv => whnf
   refine ⟨by show out.size + b.size ≤ maxLen; unfold maxLen; omega, ?_⟩
   exact ⟨rfl, rfl, rfl⟩
  conv => whnf
  repeat (apply flow_go; (focus ((conv => whnf); exact ⟨rfl, rfl, rfl⟩)); (conv => whnf))
  apply flow_go
  ·conv => whnf
   refine ⟨by omega, ?_⟩
   generalize hrq : rowOf _ _ (tksL us) = rq
   obtain rfl : rq = tkL t := hrq.symm.trans hr
   exact ⟨rfl, rfl, rfl⟩
  conv => whnf
  repeat (apply flow_go; (focus ((conv => whnf); exact ⟨rfl, rfl, rfl⟩)); (conv => whnf))
  apply flow_go
  ·conv => whnf
   refine ⟨by show (out ++ b).size + t.text.size ≤ maxLen; unfold maxLen; omega, ?_⟩
   exact ⟨rfl, rfl, rfl⟩
  conv => whnf
  repeat (apply flow_go; (focus ((conv => whnf); exact ⟨rfl, rfl, rfl⟩)); (conv => whnf))
  refine ⟨i64r (by omega), ?_⟩
  conv => whnf
  refine ⟨(j + 1, out ++ b ++ t.text), le_selH [] ?_, ⟨hlt, e.symm⟩, by simp only; omega⟩
  conv => whnf
  repeat' constructor
 ·rw [decide_eq_false (show ¬ (j : Int) < us.length by omega)]
  conv => whnf
  rw [ho, List.take_of_length_le (by unfold txs; rw [List.length_map]; omega)]
  rfl
end Go.Proofs.YtmodkpibkkpcdaaGreatDoor.Vm
namespace Go.Proofs.YtmodkpibkkpcdaaGreatDoor.Vm
open Go.RowKit Go.Shelf
set_option linter.unusedSimpArgs false
set_option linter.unusedVariables false
set_option maxRecDepth 100000
theorem row_split {s : ByteArray} {l : List Co} (h : TN s l) : ∃ ms, rowT s = ms ++ [endTk s] ∧ ms.map core = l ∧ (lexF' s).err = none := by
 obtain ⟨h1, ts, h2, h3⟩ := h.row
 exact ⟨ts, h2, h3, h1⟩
theorem txs_core (ms : List Tk) (e : Tk) (he : e.text = ⟨#[]⟩) : txs (ms ++ [e]) = (ms.map core).map (fun c => bs c.text) ++ [⟨#[]⟩] := by
 unfold txs
 rw [List.map_append, List.map_map, List.map_cons, List.map_nil, he]
 rfl
theorem len_tW : ∀ l : List Co, l.length ≤ tW 1 l
 | [] => Nat.zero_le _
 | c :: l => by have := len_tW l; rw [tW_cons, List.length_cons]; omega
theorem spaced_row {s : ByteArray} {l : List Co} (h : TN s l) (q : Nat → ByteArray) (hq : ∀ i, q i ∈ sep6) : (spF q 0 (txs (rowT s))).size ≤ tW 7 l + 7 ∧ ∃ ts, rowT (spF q 0 (txs (rowT s))) = ts ++ [endTk (spF q 0 (txs (rowT s)))] ∧ ts.map core = l ∧ (lexF' (spF q 0 (txs (rowT s)))).err = none := by
 obtain ⟨ms, h1, h2, h3⟩ := row_split h
 have e : txs (rowT s) = l.map (fun c => bs c.text) ++ [⟨#[]⟩] := by rw [h1, txs_core _ _ rfl, h2]
 rw [e]
 refine ⟨spF_size q hq l 0, ?_⟩
 obtain ⟨ts, g1, g2⟩ := lex_spF q hq l 0 0 h.lx
 generalize spF q 0 (l.map (fun c => bs c.text) ++ [⟨#[]⟩]) = t at *
 have g3 : lexF' t = ⟨ts, none⟩ := g1
 have g4 : (lexF' t).err = none := by rw [g3]
 exact ⟨ts, by rw [rowT_none g4, g3], g2, g4⟩
theorem lexR_row {s : ByteArray} (he : (lexF' s).err = none) : lexR s = .tup [.sl 4 (rowT s).length (tksL (rowT s)), intA 0, intA 0] := by
 have h1 : lexF' s = ⟨(lexF' s).toks, none⟩ := by rw [← he]
 rw [lexR_ok h1, rowT_none he, List.length_append, tksL_snoc]
 rfl
theorem row_alike {X Y : List Tk} {a b : Tk} (ha : a.kind = 0 ∧ a.text = ⟨#[]⟩ ∧ a.n = 0) (hb : b.kind = 0 ∧ b.text = ⟨#[]⟩ ∧ b.n = 0) (h : X.map core = Y.map core) (k : Nat) : tkL ((Y ++ [b]).getD k b) = [intA ((X ++ [a]).getD k a).kind, intA ((Y ++ [b]).getD k b).pos, strA ((X ++ [a]).getD k a).text, intA ((X ++ [a]).getD k a).n] := by
 have hc : core ((X ++ [a]).getD k a) = core ((Y ++ [b]).getD k b) := by
  have hl : X.length = Y.length := by have := congrArg List.length h; simpa using this
  rw [List.getD_eq_getElem?_getD, List.getD_eq_getElem?_getD]
  have hab : core a = core b := by unfold core; rw [ha.1, hb.1, ha.2.1, hb.2.1, ha.2.2, hb.2.2]
  rcases Nat.lt_trichotomy k X.length with hk | hk | hk
  ·rw [List.getElem?_append_left hk, List.getElem?_append_left (by omega)]
   have h2 : (X.map core)[k]? = (Y.map core)[k]? := by rw [h]
   rw [List.getElem?_map, List.getElem?_map, List.getElem?_eq_getElem hk, List.getElem?_eq_getElem (by omega)] at h2
   rw [List.getElem?_eq_getElem hk, List.getElem?_eq_getElem (by omega)]
   exact Option.some.inj h2
  ·subst hk
   rw [List.getElem?_append_right (Nat.le_refl _), List.getElem?_append_right (by omega), Nat.sub_self, hl, Nat.sub_self]
   exact hab
  ·rw [List.getElem?_eq_none (by simp; omega), List.getElem?_eq_none (by simp; omega)]
   exact hab
 generalize (X ++ [a]).getD k a = x at *
 generalize (Y ++ [b]).getD k b = y at *
 have e1 : x.kind = y.kind := congrArg Co.kind hc
 have e2 : x.n = y.n := congrArg Co.n hc
 have e3 : x.text = y.text := ba_list (congrArg Co.text hc)
 unfold tkL
 rw [e1, e2, e3]
set_option maxHeartbeats 1000000 in
theorem spaced_law_spec (l m : List Int) : Spec Tryz.prog 7 [] [.sl 1 l.length (intsA l), .sl 1 m.length (intsA m)] fun _ r => r = boolA true := by
 obtain ⟨u, hu, hpg⟩ := gprogW l
 have hpu := hu.1.pu
 have hpr := rprint hpu
 have hlo := rloose hpu
 have t1 := tn_pr hu.1
 have t2 := tn_lo hu.1
 obtain ⟨w1, w2⟩ := hu.tw
 obtain ⟨w3, w4, _⟩ := hu.twK 1 (by omega) (by omega)
 have hq := sepQ_mem m
 obtain ⟨x1, x2, x3, x4⟩ := row_split t1
 obtain ⟨y1, y2, y3, y4⟩ := row_split t2
 obtain ⟨z1, ts, a2, a3, a4⟩ := spaced_row t1 (sepQ m) hq
 obtain ⟨z2, us, b2, b3, b4⟩ := spaced_row t2 (sepQ m) hq
 have g1 := glR_size (prTk u)
 have g2 := glR_size (loTk u)
 rw [← t1.eq] at g1
 rw [← t2.eq] at g2
 have n1 := len_tW (prTk u)
 have n2 := len_tW (loTk u)
 have hx2 : (rowT (prF u)).length ≤ 10000 := by rw [x2, List.length_append, ← List.length_map (f := core), x3, List.length_singleton]; omega
 have hy2 : (rowT (loF u)).length ≤ 10000 := by rw [y2, List.length_append, ← List.length_map (f := core), y3, List.length_singleton]; omega
 have s1 := rspaced m (prF u) (by omega) x4 (by omega) (by omega)
 have s2 := rspaced m (loF u) (by omega) y4 (by omega) (by omega)
 have k1 := tokens_spec (prF u) (by omega)
 rw [lexR_row x4] at k1
 have u1 : uparF (spF (sepQ m) 0 (txs (rowT (prF u)))) = .ok u := by
  rw [upar_row (by omega) a4]
  exact pro_pr hu.1 ⟨ts, a2, a3⟩ (end_end _)
 have u2 : uparF (spF (sepQ m) 0 (txs (rowT (loF u)))) = .ok u := by
  rw [upar_row (by omega) b4]
  exact pro_lo hu.1 ⟨us, b2, b3⟩ (end_end _)
 have hal := fun k => row_alike (X := x1) (Y := ts) (a := endTk (prF u)) (b := endTk (spF (sepQ m) 0 (txs (rowT (prF u))))) ⟨rfl, rfl, rfl⟩ ⟨rfl, rfl, rfl⟩ (x3.trans a3.symm) k
 rw [← x2, ← a2] at hal
 have hln : (rowT (spF (sepQ m) 0 (txs (rowT (prF u))))).length = (rowT (prF u)).length := by
  rw [a2, x2, List.length_append, List.length_append]
  have := congrArg List.length (x3.trans a3.symm)
  rw [List.length_map, List.length_map] at this
  simp only [List.length_singleton]
  omega
 have p1 := pparse_raw (spF (sepQ m) 0 (txs (rowT (prF u)))) (by omega)
 have p2 := pparse_raw (spF (sepQ m) 0 (txs (rowT (loF u)))) (by omega)
 rw [u1, show parU0 (.ok u) = .tup [.agg (utA u), intA 0, intA 0] from rfl] at p1
 rw [u2, show parU0 (.ok u) = .tup [.agg (utA u), intA 0, intA 0] from rfl] at p2
 have k2 := tokens_spec (spF (sepQ m) 0 (txs (rowT (prF u)))) (by omega)
 rw [lexR_row a4, hln] at k2
 have hsm := psame u u
 rw [(eqU_iff _ _).2 rfl] at hsm
 have h0 := plives_spec
 have r1 : ∀ k, k < (rowT (prF u)).length → rowOf 4 k (tksL (rowT (prF u))) = tkL ((rowT (prF u)).getD k (endTk (prF u))) := fun k hk => rowTk hk
 have r2 : ∀ k, k < (rowT (prF u)).length → rowOf 4 k (tksL (rowT (spF (sepQ m) 0 (txs (rowT (prF u)))))) = _ := fun k hk => (rowTk (by omega)).trans (hal k)
 generalize loF u = lo at *
 generalize spF (sepQ m) 0 (txs (rowT lo)) = lo2 at *
 generalize hg2 : spF (sepQ m) 0 (txs (rowT (prF u))) = sp at *
 generalize hg1 : prF u = s at *
 generalize rowT sp = Y at *
 generalize rowT s = X at *
 clear hal hg1 hg2 x2 x3 x4 y2 y3 y4 a2 a3 a4 b2 b3 b4 t1 t2 g1 g2
 refine spec_of (cx_ok (fun id => match Nat.beq id 15 with | true => .q 0 7 .nil | false => ord7 id) xs0 0) (fun _ _ h => h) Tryz.func7 rfl (by kernel_rfl) rfl (by kernel_rfl) ?_
 intro hok
 conv => whnf
 (refine call0 [] rfl (fun _ => hpg) ?_; rintro r rfl; conv => whnf)
 (refine call0 [] rfl (fun _ => hpr) ?_; rintro r rfl; conv => whnf)
 (refine call0 [] rfl (fun _ => s1) ?_; rintro r rfl; conv => whnf)
 (refine call0 [] rfl (fun _ => p1) ?_; rintro r rfl; conv => whnf)
 (refine call0 [] rfl (fun _ => hlo) ?_; rintro r rfl; conv => whnf)
 (refine call0 [] rfl (fun _ => s2) ?_; rintro r rfl; conv => whnf)
 (refine call0 [] rfl (fun _ => p2) ?_; rintro r rfl; conv => whnf)
 (refine call0 [] rfl (fun _ => hsm) ?_; rintro r rfl; conv => whnf)
 (refine call0 [] rfl (fun _ => hsm) ?_; rintro r rfl; conv => whnf)
 (refine call0 [] rfl (fun _ => k1) ?_; rintro r rfl; conv => whnf)
 (refine call0 [] rfl (fun _ => k2) ?_; rintro r rfl; conv => whnf)
 rw [decide_eq_true (show (X.length : Int) = X.length from rfl)]
 conv => whnf
 refine loop_keep [14, 17] ?_
 conv => whnf
 refine loop_go (fun k : Nat => [(20, .v (.int .i64 k))]) (fun _ => [utA u, utA u, utA u]) (fun _ => []) (fun k => k ≤ X.length) (fun k => X.length - k) 0 ?_ (Nat.zero_le _) ?_
 ·repeat' constructor
 intro k hk
 conv => whnf
 by_cases hlt : k < X.length
 ·rw [decide_eq_true (show (k : Int) < X.length by omega)]
  have q1 := r1 k hlt
  have q2 := r2 k hlt
  generalize X.getD k (endTk s) = x at *
  generalize Y.getD k (endTk sp) = y at *
  conv => whnf
  (iterate 2 (apply flow_go; (focus ((conv => whnf); exact ⟨rfl, rfl, rfl⟩)); (conv => whnf)))
  (apply flow_go; (focus ((conv => whnf); refine ⟨by omega, ?_⟩; (generalize hrq : rowOf _ _ (tksL X) = rq; obtain rfl : rq = tkL x := hrq.symm.trans (q1); exact ⟨rfl, rfl, rfl⟩))); (conv => whnf))
  (iterate 4 (apply flow_go; (focus ((conv => whnf); exact ⟨rfl, rfl, rfl⟩)); (conv => whnf)))
  (apply flow_go; (focus ((conv => whnf); refine ⟨by omega, ?_⟩; (generalize hrq : rowOf _ _ (tksL Y) = rq; obtain rfl : rq = [intA x.kind, intA y.pos, strA x.text, intA x.n] := hrq.symm.trans (q2); exact ⟨rfl, rfl, rfl⟩))); (conv => whnf))
  (iterate 2 (apply flow_go; (focus ((conv => whnf); exact ⟨rfl, rfl, rfl⟩)); (conv => whnf)))
  (apply flow_go; (focus ((conv => whnf); rw [decide_eq_true rfl]; exact ⟨rfl, rfl, rfl⟩)); (conv => whnf))
  (iterate 3 (apply flow_go; (focus ((conv => whnf); exact ⟨rfl, rfl, rfl⟩)); (conv => whnf)))
  (apply flow_go; (focus ((conv => whnf); refine ⟨by omega, ?_⟩; (generalize hrq : rowOf _ _ (tksL X) = rq; obtain rfl : rq = tkL x := hrq.symm.trans (q1); exact ⟨rfl, rfl, rfl⟩))); (conv => whnf))
  (iterate 4 (apply flow_go; (focus ((conv => whnf); exact ⟨rfl, rfl, rfl⟩)); (conv => whnf)))
  (apply flow_go; (focus ((conv => whnf); refine ⟨by omega, ?_⟩; (generalize hrq : rowOf _ _ (tksL Y) = rq; obtain rfl : rq = [intA x.kind, intA y.pos, strA x.text, intA x.n] := hrq.symm.trans (q2); exact ⟨rfl, rfl, rfl⟩))); (conv => whnf))
  (iterate 2 (apply flow_go; (focus ((conv => whnf); exact ⟨rfl, rfl, rfl⟩)); (conv => whnf)))
  (apply flow_go; (focus ((conv => whnf); rw [decide_eq_true rfl]; exact ⟨rfl, rfl, rfl⟩)); (conv => whnf))
  (iterate 4 (apply flow_go; (focus ((conv => whnf); exact ⟨rfl, rfl, rfl⟩)); (conv => whnf)))
  (apply flow_go; (focus ((conv => whnf); refine ⟨by omega, ?_⟩; (generalize hrq : rowOf _ _ (tksL X) = rq; obtain rfl : rq = tkL x := hrq.symm.trans (q1); exact ⟨rfl, rfl, rfl⟩))); (conv => whnf))
  (iterate 4 (apply flow_go; (focus ((conv => whnf); exact ⟨rfl, rfl, rfl⟩)); (conv => whnf)))
  (apply flow_go; (focus ((conv => whnf); refine ⟨by omega, ?_⟩; (generalize hrq : rowOf _ _ (tksL Y) = rq; obtain rfl : rq = [intA x.kind, intA y.pos, strA x.text, intA x.n] := hrq.symm.trans (q2); exact ⟨rfl, rfl, rfl⟩))); (conv => whnf))
  (iterate 2 (apply flow_go; (focus ((conv => whnf); exact ⟨rfl, rfl, rfl⟩)); (conv => whnf)))
  (apply flow_go; (focus ((conv => whnf); rw [decide_eq_true rfl]; exact ⟨rfl, rfl, rfl⟩)); (conv => whnf))
  (iterate 1 (apply flow_go; (focus ((conv => whnf); exact ⟨rfl, rfl, rfl⟩)); (conv => whnf)))
  refine ⟨i64r (by omega), ?_⟩
  conv => whnf
  refine ⟨k + 1, le_selH [] ?_, hlt, by omega⟩
  conv => whnf
  repeat' constructor
 ·rw [decide_eq_false (show ¬ (k : Int) < X.length by omega)]
  conv => whnf
  (refine call0 [] rfl (fun _ => h0) ?_; rintro r rfl; conv => whnf)
  rfl
end Go.Proofs.YtmodkpibkkpcdaaGreatDoor.Vm
