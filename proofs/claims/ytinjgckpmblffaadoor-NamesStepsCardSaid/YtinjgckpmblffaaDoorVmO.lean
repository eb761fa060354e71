/- Stores into own rows. -/
import Derived.Test.YtinjgckpmblffaaDoorVm11
namespace Go.Proofs.YtinjgckpmblffaaDoor.Vm
open Go.RowKit
set_option linter.unusedSimpArgs false
set_option linter.unusedVariables false
def arstore (T : List (Nat × Te)) (s : S) (t : Nat) (g off : Nat) (y : Operand) (K : A → S → Prop) : Prop :=
  match Tab.get T t with
  | some e => match s.rw[g]? with
    | some (.live e' k n cs) => cellsK (ev s y) fun ds => match Nat.beq ds.length e.z.length with
      | true => match refsL 0 0 ds with
        | true => writeK cs off ds fun cs' => setK s.rw g (.live e' k n cs') fun rw' => withR s rw' (K .dead)
        | false => False
      | false => False
    | _ => False
  | none => False
def astore2 (T : List (Nat × Te)) (s : S) (t : Nat) (x y : Operand) (K : A → S → Prop) : Prop :=
  match ev s x with
  | .orow g off => arstore T s t g off y K
  | _ => astore T s t x y K
section
variable {P : Program} {T : List (Nat × Te)} {w0 w : World} {C0 : Rd} {β0 : List Nat} {s : S} {a : Act} {E : Env} {o : Oper}
theorem owns_set {base e k n b off cap : Nat} {xs : List Value} {u : Value} (h : w.ownsRow base e k (.slice (some ⟨b, 0, none⟩) n cap) n xs) (hoff : off < xs.length) : (w.setCell ⟨b, off, none⟩ u).ownsRow base e k (.slice (some ⟨b, 0, none⟩) n cap) n (xs.set off u) := by
  obtain ⟨h1, h2⟩ := h
  refine ⟨by simpa using h1, .inr ?_⟩
  rcases h2 with ⟨h2, _⟩ | ⟨g, cap', cur, h2, h3, h4, h5, h6, h7, h8⟩
  · cases h2
  · cases h2
    refine ⟨b, cap, cur.setIfInBounds off u, rfl, h3, set_blk h4 off u, h5, h6, by simpa using h7, ?_⟩
    rw [Array.toList_setIfInBounds, List.take_set, h8]
theorem Hp.storeRow {bx : List (List A)} {rw : List Row} (h : Hp w0 C0 β0 bx rw w E) {g e k n b cap off : Nat} {cs : List A} (hg : rw[g]? = some (.live e k n cs)) (hy : E.ρ[g]? = some (.slice (some ⟨b, 0, none⟩) n cap)) (hoff : off < cs.length) {a : A} {u : Value} (ha : a.rep E.per u) (h1 : u.oneCell' = true) :
    Hp w0 C0 β0 bx (rw.set g (.live e k n (cs.set off a))) (w.setCell ⟨b, off, none⟩ u) E := by
  have hgl := (List.getElem?_eq_some_iff.1 hg).1
  obtain ⟨hbn, hbC⟩ := h.rC g e k n cs _ b hg hy rfl
  have kp := Keeps.set w b off u
  have part : ∀ (j e1 k1 n1 : Nat) (cs1 : List A), (rw.set g (.live e k n (cs.set off a)))[j]? = some (.live e1 k1 n1 cs1) → ∃ cs2, rw[j]? = some (.live e1 k1 n1 cs2) := fun j e1 k1 n1 cs1 h2 => by
    by_cases hj : g = j
    · subst hj
      rw [List.getElem?_set_self hgl] at h2
      cases h2
      exact ⟨cs, hg⟩
    · rw [List.getElem?_set_ne hj] at h2
      exact ⟨cs1, h2⟩
  refine ⟨fun ad v hc => kp.cell (h.sub ad v hc) (fun hm => ?_), h.base, h.fresh, h.bp, h.bnd, h.bC, h.bl, fun i b' cs' h2 h3 => ?_, by simpa using h.rl, fun j r y h2 h3 => ?_, fun j e1 k1 n1 cs1 y b' h2 h3 h4 => ?_, fun j e1 k1 n1 cs1 y j' e2 k2 n2 cs2 z b' hne h2 h3 h4 h5 h6 => ?_, h.rs, ?_, h.gk⟩
  · simp at hm
    have hn := hbC ad.off ad.spot
    rw [← hm] at hn
    have : E.C ad = none := hn
    rw [this] at hc; cases hc
  · refine (h.bxs i b' cs' h2 h3).same (kp.block b' (h.blt (List.mem_iff_getElem?.2 ⟨i, h2⟩)) (fun hm => ?_))
    simp at hm
    subst hm
    exact hbn (List.mem_iff_getElem?.2 ⟨i, h2⟩)
  · by_cases hj : g = j
    · subst hj
      rw [List.getElem?_set_self hgl] at h2
      cases h2
      obtain rfl : y = _ := Option.some.inj (h3.symm.trans hy)
      obtain ⟨xs, k1, k2⟩ := h.rws g _ _ hg hy
      refine ⟨xs.set off u, owns_set k1 (by rw [A.repC_len k2]; exact hoff), A.repC_set k2 off ha h1⟩
    · rw [List.getElem?_set_ne hj] at h2
      refine (h.rws j r y h2 h3).mono (Env.le.refl E) (fun e1 k1 n1 cs1 hr b' hb' => ?_)
      subst hr
      refine kp.block b' (h.rlt h2 h3 hb').2 (fun hm => ?_)
      simp at hm
      subst hm
      exact h.rd g e k n cs _ j e1 k1 n1 cs1 y b' hj hg hy h2 h3 rfl hb'
  · obtain ⟨cs2, h5⟩ := part j e1 k1 n1 cs1 h2
    exact h.rC j e1 k1 n1 cs2 y b' h5 h3 h4
  · obtain ⟨cs3, h7⟩ := part j e1 k1 n1 cs1 h2
    obtain ⟨cs4, h8⟩ := part j' e2 k2 n2 cs2 h4
    exact h.rd j e1 k1 n1 cs3 y j' e2 k2 n2 cs4 z b' hne h7 h3 h8 h5 h6
  · refine h.keep.step kp (fun b' hb' => ?_)
    simp at hb'
    subst hb'
    exact .inr (h.rlt hg hy rfl).1
theorem rstores_ok {g e k n b cap : Nat} : ∀ {ds : List A} {vs : List Value} {bx : List (List A)} {rw : List Row} {w : World} {cs : List A} {off : Nat} {K : List A → Prop}, Hp w0 C0 β0 bx rw w E → rw[g]? = some (.live e k n cs) → E.ρ[g]? = some (.slice (some ⟨b, 0, none⟩) n cap) → writeK cs off ds K → A.repC ds E.per vs →
    ∃ cs', K cs' ∧ Hp w0 C0 β0 bx (rw.set g (.live e k n cs')) (w.setCells b off vs) E
  | [], vs, bx, rw, w, cs, off, K, hp, h1, h2, h, hd => by
    unfold A.repC at hd
    subst hd
    refine ⟨cs, h, ?_⟩
    have e : rw.set g (.live e k n cs) = rw := by
      apply List.ext_getElem?
      intro j
      rw [List.getElem?_set]
      by_cases hj : g = j
      · subst hj
        have e2 := List.getElem?_eq_some_iff.1 h1
        simp [e2.1, e2.2]
      · simp [hj]
    rw [e]; exact hp
  | d :: ds, vs, bx, rw, w, cs, off, K, hp, h1, h2, h, hd => by
    unfold A.repC at hd
    obtain ⟨v, vs', rfl, k1, k2, k3⟩ := hd
    unfold writeK at h
    obtain ⟨h4, h5⟩ := setK_iff h
    have hp1 := hp.storeRow (off := off) h1 h2 h4 k2 k1
    have hi := (List.getElem?_eq_some_iff.1 h1).1
    obtain ⟨cs', h6, h7⟩ := rstores_ok (rw := rw.set g (.live e k n (cs.set off d))) hp1 (List.getElem?_set_self hi) h2 h5 k3
    refine ⟨cs', h6, ?_⟩
    rw [List.set_set] at h7
    exact h7
theorem rstore_ok {t g off : Nat} {x y : Operand} {K : A → S → Prop} (hT : Tab.ok P T) (hp : Hp w0 C0 β0 s.bx s.rw w E) (ht : A.repL s.t E a.tmps.toList) (ho : o.op = .store t x y) (hev : ev s x = .orow g off) (h : arstore T s t g off y K) :
    ∃ w' rw', (execOp a.eval o).run P w = .ok .skip w' ∧ K .dead ⟨s.t, s.bx, rw'⟩ ∧ Hp w0 C0 β0 s.bx rw' w' E := by
  unfold arstore at h
  split at h
  · rename_i e htab
    have hx := ev_rep ht x
    rw [hev] at hx
    unfold A.rep at hx
    obtain ⟨b, n', cap, hb, hv⟩ := hx
    split at h
    · rename_i e' k n cs hg
      obtain ⟨ds, h1, h2⟩ := cellsK_rep hp h (ev_rep ht y)
      split at h1
      · rename_i hbeq
        split at h1
        · rename_i hrefs
          have hlen : ds.length = e.z.length := Nat.eq_of_beq_eq_true hbeq
          obtain ⟨xs, k1, k2⟩ := hp.rws g _ _ hg hb
          have hper : A.repC ds E.per (a.eval y).cells.toList := by
            have := refs_repL (nb := 0) (nr := 0) ds hrefs (A.repC_L h2)
            exact A.repC_mk (by simpa [Env.per] using this) (A.repC_one h2)
          have hn : n' = n := by
            rcases k1.2 with ⟨h', _⟩ | ⟨g', cap', cur, h', _⟩
            · cases h'
            · cases h'; rfl
          subst hn
          obtain ⟨k3, -⟩ := writeK_rep h1 k2 hper
          obtain ⟨cs', k4, k5⟩ := rstores_ok hp hg hb h1 hper
          obtain ⟨k6, k7⟩ := setK_iff k4
          rw [withR_iff] at k7
          have hdl := A.repC_len h2
          have hxl := A.repC_len k2
          obtain ⟨cur, hcur, hsz', htake⟩ : ∃ cur, w.heap[b]? = some (.cells cur e' (0, 0)) ∧ n' * k ≤ cur.size ∧ cur.toList.take (n' * k) = xs := by
            rcases k1.2 with ⟨h', _⟩ | ⟨g', cap', cur, h', _, q1, q2, q3, q4, q5⟩
            · cases h'
            · cases h'
              exact ⟨cur, q1, by rw [q4]; exact Nat.mul_le_mul_right k q2, q5⟩
          refine ⟨_, _, ?_, k7, k5⟩
          have hst := run_storeCells_cells (P := P) b off (a.eval y).cells.toList 0 w (fun j hj => by
              have h9 := k3 j (by omega)
              have h10 := k1.1
              simp only [World.cell?, hcur, Nat.add_zero]
              simp at hxl ⊢
              omega) (fun j hj => by simp [World.frozen?, hcur]) (A.repC_one h2)
          have hsz := hT.size htab w
          have hss : (a.eval y).cells.size = e.z.length := by rw [← hlen, ← hdl]; simp
          simp only [Nat.add_zero] at hst
          simp [execOp, ho, hv, Instr.storeAt, Instr.sureAddr, storeVar, hsz, hss, hst, Result.andThen]
        · exact h1.elim
      · exact h1.elim
    · exact h.elim
  · exact h.elim
end
end Go.Proofs.YtinjgckpmblffaaDoor.Vm
