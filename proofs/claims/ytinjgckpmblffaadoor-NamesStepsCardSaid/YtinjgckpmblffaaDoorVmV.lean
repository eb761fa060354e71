/- Conversions: of ints, of strings to bytes and back, of a row of bytes to itself. -/
import Derived.Test.YtinjgckpmblffaaDoorVmP
import Derived.Test.YtinjgckpmblffaaDoorVm10
import Derived.Laws.IdiomStrings
import Derived.Laws.BytesArg
namespace Go.Proofs.YtinjgckpmblffaaDoor.Vm
open Go.RowKit
set_option linter.unusedSimpArgs false
set_option linter.unusedVariables false
def byteA (c : UInt8) : A := .v (.int .u8 (c.toNat : Int))
def bytesA (b : ByteArray) : List A := b.data.toList.map byteA
theorem bytesA_len (b : ByteArray) : (bytesA b).length = b.size := by simp [bytesA]
def aconv (T : List (Nat × Te)) (s : S) (src dst : Nat) (x : Operand) (K : A → S → Prop) : Prop :=
  match Tab.get T dst with
  | some ⟨.int _, _, _⟩ => apure2 T s (.convert src dst x) fun r => K r s
  | some ⟨.slice e, _, _⟩ => match Tab.get T e with
    | some ⟨.int .u8, _, _⟩ => match Tab.get T src with
      | some ⟨.str, _, _⟩ => match ev s x with
        | .v (.string b) => K (.sl 1 b.size (bytesA b)) s
        | _ => False
      | _ => False
    | _ => False
  | some ⟨.str, _, _⟩ => match Tab.get T src with
    | some ⟨.slice e, _, _⟩ => match Tab.get T e with
      | some ⟨.int .u8, _, _⟩ => srcK s 1 (ev s x) fun m ds => ∃ b : ByteArray, ds = bytesA b ∧ K (.v (.string b)) s
      | _ => False
    | some ⟨.int _, _, _⟩ => apure2 T s (.convert src dst x) fun r => K r s
    | _ => False
  | _ => False
def isMark (T : List (Nat × Te)) (src dst : Nat) : Bool := match Tab.get T src with
  | some ⟨.slice _, _, _⟩ => match Tab.get T dst with
    | some ⟨.slice _, _, _⟩ => true
    | _ => false
  | _ => false
/-- A row of bytes is said to be one of bytes: it is marked, and appended to no more. -/
def amark (T : List (Nat × Te)) (s : S) (src dst : Nat) (x : Operand) (K : A → S → Prop) : Prop :=
  match Nat.beq src dst with
  | true => match Tab.get T dst with
    | some ⟨.slice e, _, _⟩ => match Tab.get T e with
      | some ⟨.int .u8, _, _⟩ => match ev s x with
        | .own g => match s.rw[g]? with
          | some (.live _ k (n + 1) cs) => setK s.rw g (.pub k (n + 1) cs) fun rw => withR s rw (K (.sl k (n + 1) cs))
          | _ => False
        | _ => False
      | _ => False
    | _ => False
  | false => False
section
variable {P : Program} {T : List (Nat × Te)} {w0 w : World} {C0 : Rd} {β0 : List Nat} {s : S} {a : Act} {E : Env} {o : Oper}
theorem plus_new {C : Rd} {w w' : World} {b o : Nat} (h : w.heap.size ≤ b) : plus C w w' ⟨b, o, none⟩ = w'.cell? ⟨b, o, none⟩ := by
  unfold plus
  rw [if_neg (by simp; omega)]
theorem freeze_cell (w : World) (b n : Nat) (ad : Addr) : (w.freeze ⟨b, n, none⟩ 1).cell? ad = w.cell? ad := by
  unfold World.freeze
  rw [if_neg (by decide)]
  unfold World.cell?
  simp only [Array.getElem?_modify]
  by_cases hb : b = ad.block
  · subst hb
    simp only [if_pos]
    cases w.heap[ad.block]? with
    | none => rfl
    | some o => cases o <;> rfl
  · simp only [if_neg hb]
theorem freeze_block (w : World) (b n : Nat) (i : Nat) (hi : i ≠ b) : (w.freeze ⟨b, n, none⟩ 1).heap[i]? = w.heap[i]? := by
  unfold World.freeze
  rw [if_neg (by decide)]
  simp only [Array.getElem?_modify]
  rw [if_neg (fun e => hi e.symm)]
theorem freeze_size (w : World) (b n : Nat) : (w.freeze ⟨b, n, none⟩ 1).heap.size = w.heap.size := by
  unfold World.freeze
  rw [if_neg (by decide)]
  simp
theorem freeze_rest (w : World) (b n : Nat) : (w.freeze ⟨b, n, none⟩ 1).os = w.os ∧ (w.freeze ⟨b, n, none⟩ 1).tape = w.tape ∧ (w.freeze ⟨b, n, none⟩ 1).output = w.output := by
  unfold World.freeze
  rw [if_neg (by decide)]
  exact ⟨rfl, rfl, rfl⟩
/-- A block of the call's own that holds nothing but what is told for good has been marked. -/
theorem Hp.mark {bx : List (List A)} {rw : List Row} (h : Hp w0 C0 β0 bx rw w E) {b : Nat} (hb : w0.heap.size ≤ b) (hβ : b ∉ E.β) (hr : ∀ (g e k n : Nat) (cs : List A) (y : Value), rw[g]? = some (.live e k n cs) → E.ρ[g]? = some y → y.ownBlock ≠ some b) (n : Nat) :
    Hp w0 C0 β0 bx rw (w.freeze ⟨b, n, none⟩ 1) E := by
  have same : ∀ i, i ≠ b → (w.freeze ⟨b, n, none⟩ 1).heap[i]? = w.heap[i]? := fun i hi => freeze_block w b n i hi
  refine ⟨fun ad u hc => by rw [freeze_cell]; exact h.sub ad u hc, h.base, h.fresh, h.bp, h.bnd, h.bC, h.bl, fun i b' cs h1 h2 => (h.bxs i b' cs h1 h2).same (same b' fun e => hβ (by rw [← e]; exact List.mem_iff_getElem?.2 ⟨i, h1⟩)), h.rl, fun g r y h1 h2 => (h.rws g r y h1 h2).mono (Env.le.refl E) fun e k n' cs hrr b' hb' => ?_, h.rC, h.rd, h.rs, ?_, h.gk⟩
  · subst hrr
    exact same b' fun e' => hr g e k n' cs y h1 h2 (by rw [hb', e'])
  · obtain ⟨r1, r2, r3⟩ := freeze_rest w b n
    refine h.keep.step (Y := [b]) ⟨r1, r2, r3, by rw [freeze_size]; exact Nat.le_refl _, fun i hi hn => same i (by simpa using hn)⟩ fun y hy => ?_
    obtain rfl := List.mem_singleton.1 hy
    exact .inr hb
theorem bytesA_vals (b : ByteArray) : (bytesA b).map (fun a => match a with | .v x => x | _ => undef) = b.data.toList.map fun c => Value.int .u8 c.toNat := by
  unfold bytesA
  rw [List.map_map]
  rfl
theorem byte_fits (c : UInt8) : lo .u8 ≤ (c.toNat : Int) ∧ (c.toNat : Int) ≤ hi .u8 := ⟨by simp [lo], by have := c.toNat_lt; show _ ≤ (255 : Int); omega⟩
theorem bytesA_at {E : Env} {b off : Nat} {s : ByteArray} (h : ∀ j (hj : j < s.data.toList.length), E.C ⟨b, off + j, none⟩ = some (.int .u8 (s.data.toList[j].toNat : Int))) : A.repAt (bytesA s) E b off := by
  have key : ∀ (l : List UInt8) (off : Nat), (∀ j (hj : j < l.length), E.C ⟨b, off + j, none⟩ = some (.int .u8 (l[j].toNat : Int))) → A.repAt (l.map byteA) E b off := fun l => by
    induction l with
    | nil => intro off _; simp [A.repAt]
    | cons c l ih =>
      intro off hl
      simp only [List.map_cons, A.repAt]
      refine ⟨⟨.int .u8 (c.toNat : Int), by have := hl 0 (by simp); rw [Nat.add_zero] at this; exact this, rfl, rep_int (byte_fits c)⟩, ih (off + 1) fun j hj => ?_⟩
      have := hl (j + 1) (by simpa using hj)
      rw [show off + 1 + j = off + (j + 1) by omega]; simpa using this
  exact key _ off h
theorem at_bytesA {E : Env} {b off : Nat} {s : ByteArray} (h : A.repAt (bytesA s) E b off) : ∀ j (hj : j < s.data.toList.length), E.C ⟨b, off + j, none⟩ = some (.int .u8 (s.data.toList[j].toNat : Int)) := by
  have key : ∀ (l : List UInt8) (off : Nat), A.repAt (l.map byteA) E b off → ∀ j (hj : j < l.length), E.C ⟨b, off + j, none⟩ = some (.int .u8 (l[j].toNat : Int)) := fun l => by
    induction l with
    | nil => intro off _ j hj; simp at hj
    | cons c l ih =>
      intro off hl j hj
      simp only [List.map_cons, A.repAt] at hl
      obtain ⟨⟨u, h1, h2, h3⟩, h4⟩ := hl
      have e := (A.rep_v_iff.1 h3).1
      subst e
      cases j with
      | zero => simpa using h1
      | succ j =>
        have := ih (off + 1) h4 j (by simpa using hj)
        rw [show off + (j + 1) = off + 1 + j by omega]; simpa using this
  exact key _ off h
theorem srcK_bytes {y : A} {v : Value} {K : Nat → List A → Prop} (hp : Hp w0 C0 β0 s.bx s.rw w E) (h : srcK s 1 y K) (hy : y.rep E v) :
    ∃ m ds, K m ds ∧ ds.length ≤ maxLen ∧ ∀ b : ByteArray, ds = bytesA b → ∀ (src dst e : TypeId), P.underlying src = some (.slice e) → P.underlying e = some (.int .u8) → P.underlying dst = some .string → (convert src dst v).run P w = .ok (.string b) w := by
  have fin : ∀ (b off n cap : Nat) (t : ByteArray) (us : List Value), A.repC (bytesA t) E us → n = us.length → (∀ j u, us[j]? = some u → w.cell? ⟨b, off + j, none⟩ = some u) → ∀ (src dst e : TypeId), P.underlying src = some (.slice e) → P.underlying e = some (.int .u8) → P.underlying dst = some .string →
      (convert src dst (.slice (some ⟨b, off, none⟩) n cap)).run P w = .ok (.string t) w := fun b off n cap t us hr hn hc src dst e h1 h2 h3 => by
    have hus : us = t.data.toList.map fun c => Value.int .u8 c.toNat := by
      have key : ∀ (l : List UInt8) (us : List Value), A.repC (l.map byteA) E us → us = l.map fun c => Value.int .u8 c.toNat := fun l => by
        induction l with
        | nil => intro us h; simpa [A.repC] using h
        | cons c l ih =>
          intro us h
          simp only [List.map_cons, A.repC] at h
          obtain ⟨u, us', rfl, _, h3, h4⟩ := h
          rw [(A.rep_v_iff.1 h3).1, ih us' h4]; rfl
      exact key _ us hr
    have := run_convert_bytes_arg (P := P) w src e h1 h2 b off n cap (t.data.toList.map fun c => (c.toNat : Int)) (by rw [hn, hus]; simp) (fun i hi => by
      have hil : i < t.data.toList.length := by rw [hn, hus] at hi; simpa using hi
      have hg : us[i]? = some (.int .u8 (t.data.toList[i].toNat : Int)) := by rw [hus, List.getElem?_map, List.getElem?_eq_getElem hil]; rfl
      rw [hc i _ hg]
      rw [List.getD_eq_getElem?_getD, List.getElem?_map, List.getElem?_eq_getElem hil]; rfl) dst h3
    rw [this]
    congr 2
    unfold strOfNums
    simp [List.map_map, Function.comp_def]
  have nilc : ∀ (l c : Nat), ∀ (src dst e : TypeId), P.underlying src = some (.slice e) → P.underlying e = some (.int .u8) → P.underlying dst = some .string → (convert src dst (.slice none l c)).run P w = .ok (.string ByteArray.empty) w := fun l c src dst e h1 h2 h3 => run_convert_bytes_nil (P := P) w src e h1 h2 l c dst h3
  have e0 : ∀ b : ByteArray, bytesA b = [] → b = ByteArray.empty := fun b hb => by
    have h1 : b.data.toList = [] := by simpa [bytesA] using hb
    have h2 : b.data = #[] := Array.toList_eq_nil_iff.1 h1
    cases b; simp at h2; subst h2; rfl
  have slc : ∀ (n : Nat) (cs : List A) (v : Value), (A.sl 1 n cs).rep E v → ∀ b : ByteArray, cs = bytesA b → ∀ (src dst e : TypeId), P.underlying src = some (.slice e) → P.underlying e = some (.int .u8) → P.underlying dst = some .string → (convert src dst v).run P w = .ok (.string b) w := fun n cs v hr b hb src dst e h1 h2 h3 => by
    obtain ⟨hl, hm, p, bb, off, cap, rfl, hc, hpn, hn, hat⟩ := sl_parts hr
    subst hb
    cases p with
    | none =>
      have hn0 : n = 0 := hpn.resolve_right (by simp)
      subst hn0
      have hb0 : bytesA b = [] := List.eq_nil_of_length_eq_zero (by simpa using hl)
      rw [nilc 0 cap src dst e h1 h2 h3, e0 b hb0]
    | some ad =>
      obtain ⟨us, k1, k2⟩ := A.repAt_vals hat
      have hlen := A.repC_len k1
      by_cases hn0 : n = 0
      · subst hn0
        have hb0 : bytesA b = [] := List.eq_nil_of_length_eq_zero (by simpa using hl)
        obtain ⟨b', off', sp⟩ := ad
        have := run_convert_bytes_string (P := P) w src dst e (some ⟨b', off', sp⟩) 0 cap h1 h2 h3
        rw [this, e0 b hb0]
        simp [Conv.bytesToString, loadCells]
        rfl
      · have had := hpn.resolve_left hn0
        cases had
        exact fin bb off n cap b us (A.repC.mono _ E.per_le k1) (by rw [hlen, hl, Nat.mul_one]) (fun j u hj => hp.sub _ _ (k2 j u hj)) src dst e h1 h2 h3
  unfold srcK at h
  split at h
  · rename_i k' m ds
    split at h
    · rename_i hk
      obtain rfl := Nat.eq_of_beq_eq_true hk
      have hq := sl_parts hy
      exact ⟨m, ds, h, by rw [hq.1, Nat.mul_one]; exact hq.2.1, slc m ds v hy⟩
    · exact h.elim
  · rename_i g
    have hy2 := hy
    unfold A.rep at hy2
    split at h
    · rename_i e' k' m ds hg
      split at h
      · rename_i hk
        obtain rfl := Nat.eq_of_beq_eq_true hk
        obtain ⟨xs, hown, hr⟩ := hp.rws g _ v hg hy2
        obtain ⟨q1, q2, q3⟩ := own_parts hown
        have hlen := A.repC_len hr
        refine ⟨m, ds, h, by rw [← hlen, q1, Nat.mul_one]; exact q2, fun b hb src dst e h1 h2 h3 => ?_⟩
        subst hb
        rcases q3 with ⟨rfl, rfl⟩ | ⟨bb, cap, rfl, hle, hcell⟩
        · have hb0 : bytesA b = [] := List.eq_nil_of_length_eq_zero (by rw [← hlen, q1])
          rw [nilc 0 0 src dst e h1 h2 h3, e0 b hb0]
        · refine fin bb 0 m cap b xs (A.repC.mono _ E.per_le hr) (by rw [q1, Nat.mul_one]) (fun j u hj => by rw [Nat.zero_add]; exact hcell j u hj) src dst e h1 h2 h3
      · exact h.elim
    · rename_i k' m ds hg
      split at h
      · rename_i hk
        obtain rfl := Nat.eq_of_beq_eq_true hk
        have hq := sl_parts (hp.rws g _ v hg hy2)
        exact ⟨m, ds, h, by rw [hq.1, Nat.mul_one]; exact hq.2.1, slc m ds v (hp.rws g _ v hg hy2)⟩
      · exact h.elim
    · exact h.elim
  · have hv := (A.rep_v_iff.1 hy).1
    subst hv
    refine ⟨0, [], h, by simp, fun b hb src dst e h1 h2 h3 => ?_⟩
    rw [nilc 0 0 src dst e h1 h2 h3, e0 b hb.symm]
  · exact h.elim
theorem conv_ok {Xr : Nat → Bool} {K : A → S → Prop} {Kc : Act → World → Prop} {Q : Exit → Act → World → Prop} {src dst : Nat} {x : Operand} (hT : Tab.ok P T) (hp : Hp w0 C0 β0 s.bx s.rw w E) (ht : A.repL s.t E a.tmps.toList) (ho : o.op = .convert src dst x) (h : aconv T s src dst x K)
    (hk : ∀ y w', Left w0 C0 β0 Xr s E w K y w' → Kc (a.put o.dst y) w') : o.wp P a w Kc Q := by
  unfold aconv at h
  split at h
  · obtain ⟨r, y, h1, h2, h3⟩ := apure2_ok (o := o) (K := fun r => K r s) hT hp ht (by rw [ho]; exact h)
    unfold Oper.wp
    rw [h3]
    exact hk y w ⟨r, s, E, h1, rfl, Env.le.refl E, hp, h2, Same.refl _ _ _, Nat.le_refl _⟩
  · rename_i e z b' hdst
    split at h
    · rename_i z2 b2 hel
      split at h
      · rename_i z3 b3 hsrc
        split at h
        · rename_i t hx
          obtain ⟨hx, okx⟩ := of_v ht hx
          have hu1 := hT.strs hsrc
          have hu2 := hT.slice hdst
          have hu3 := hT.int hel
          have hrun := run_bytes_of_string (P := P) w src dst e t hu1 hu2 hu3
          obtain ⟨cap, hcap⟩ : ∃ cap, cap = grownCap w t.size 0 e := ⟨_, rfl⟩
          rw [← hcap] at hrun
          obtain ⟨ob, hob⟩ : ∃ ob : Obj, ob = .cells (bytesRow t cap) e ((bytesRow t cap).size, (bytesRow t cap).size + 1) := ⟨_, rfl⟩
          rw [← hob] at hrun
          have kp : Keeps [] w (w.drew.alloc ob) := Keeps.of_ext (((Ext.refl w).drew).alloc ob)
          have hcall := hp.call (Y := []) (by simp) kp (C' := plus E.C w (w.drew.alloc ob)) (sub_plus hp.sub) (plus_sub (Y := []) hp.sub (by simp) kp) (fun ad u hc => by
            unfold plus at hc
            split at hc
            · exact .inl hc
            · exact .inr (by omega)) rfl (fun i b cs _ h2 => .inr ⟨by simp, h2⟩)
          have hle : t.size ≤ cap := by rw [hcap]; exact grownCap_ge w t.size 0 e
          unfold Oper.wp
          have hx2 : (execOp a.eval o).run P w = .ok (.value (.slice (some ⟨w.heap.size, 0, none⟩) t.size cap)) (w.drew.alloc ob) := by
            simp [execOp, ho, hx, hrun]
          rw [hx2]
          refine hk _ _ ⟨_, s, _, h, rfl, hcall.2, hcall.1, ?_, fun b hb _ => kp.block b hb (by simp), kp.size⟩
          unfold A.rep
          refine ⟨by rw [bytesA_len, Nat.mul_one], okx, _, w.heap.size, 0, cap, rfl, hle, .inr rfl, by simp, ?_⟩
          refine bytesA_at fun j hj => ?_
          show plus E.C w (w.drew.alloc ob) _ = _
          rw [Nat.zero_add, plus_new (Nat.le_refl _)]
          have hnew : (w.drew.alloc ob).heap[w.heap.size]? = some ob := heap_alloc_new w.drew ob
          have hjs : j < t.data.size := by simpa using hj
          have : (bytesRow t cap)[j]? = some (Value.int .u8 (t.data.toList[j].toNat : Int)) := by
            unfold bytesRow
            rw [Array.getElem?_append_left (by simpa using hjs), Array.getElem?_map, Array.getElem?_eq_getElem hjs]
            simp
          unfold World.cell?
          show (match (w.drew.alloc ob).heap[w.heap.size]? with | some (.cells c _ _) => if (none : Option Nat).isSome = true then none else c[j]? | _ => none) = _
          rw [hnew, hob]
          simpa using this
        · exact h.elim
      · exact h.elim
    · exact h.elim
  · rename_i z b' hdst
    split at h
    · rename_i e z2 b2 hsrc
      split at h
      · rename_i z3 b3 hel
        obtain ⟨m, ds, ⟨b, h1, h2⟩, hm, h3⟩ := srcK_bytes hp h (ev_rep ht x)
        have hrun := h3 b h1 src dst e (hT.slice hsrc) (hT.int hel) (hT.strs hdst)
        have okb : okV (.string b) := by
          have hb : (bytesA b).length ≤ maxLen := by rw [← h1]; exact hm
          rw [bytesA_len] at hb
          exact hb
        unfold Oper.wp
        have hx2 : (execOp a.eval o).run P w = .ok (.value (.string b)) w := by simp [execOp, ho, hrun]
        rw [hx2]
        exact hk _ w ⟨_, s, E, h2, rfl, Env.le.refl E, hp, A.rep_v okb, Same.refl _ _ _, Nat.le_refl _⟩
      · exact h.elim
    · obtain ⟨r, y, h1, h2, h3⟩ := apure2_ok (o := o) (K := fun r => K r s) hT hp ht (by rw [ho]; exact h)
      unfold Oper.wp
      rw [h3]
      exact hk y w ⟨r, s, E, h1, rfl, Env.le.refl E, hp, h2, Same.refl _ _ _, Nat.le_refl _⟩
    · exact h.elim
  · exact h.elim
theorem mark_ok {K : A → S → Prop} {src dst : Nat} {x : Operand} (hT : Tab.ok P T) (hp : Hp w0 C0 β0 s.bx s.rw w E) (ht : A.repL s.t E a.tmps.toList) (ho : o.op = .convert src dst x) (h : amark T s src dst x K) :
    ∃ y w' r s' E', (execOp a.eval o).run P w = .ok (.value y) w' ∧ K r s' ∧ s'.t = s.t ∧ E.le E' ∧ Hp w0 C0 β0 s'.bx s'.rw w' E' ∧ r.rep E' y := by
  unfold amark at h
  split at h
  · rename_i hsd
    obtain rfl := Nat.eq_of_beq_eq_true hsd
    split at h
    · rename_i e z b' hdst
      split at h
      · rename_i z2 b2 hel
        split at h
        · rename_i g hx
          split at h
          · rename_i e' k n cs hg
            obtain ⟨hgl, h⟩ := setK_iff h
            rw [withR_iff] at h
            obtain ⟨hy, xs, hown, hr⟩ := row_parts hp ht hx hg
            obtain ⟨q1, q2, q3⟩ := own_parts hown
            rcases q3 with ⟨-, q3⟩ | ⟨b, cap, hv, hle, hcell⟩
            · omega
            have hblk : (a.eval x).ownBlock = some b := by rw [hv]; rfl
            obtain ⟨C', hp1, le1⟩ := hp.pub hg
            have hrl := (hp.rlt hg hy hblk).1
            have hbb := hp.rC g _ _ _ _ _ b hg hy hblk
            obtain ⟨ob, hob⟩ : ∃ ob, w.heap[b]? = some ob := ⟨_, Array.getElem?_eq_getElem (hp.rlt hg hy hblk).2⟩
            have hshape : ∃ N, w.shape? b = some (e', N) := by
              rcases hown.2 with ⟨-, q4⟩ | ⟨b2, cap2, cur, q4, q5, q6, -⟩
              · omega
              · rw [hv] at q4
                cases q4
                exact ⟨cur.size, by unfold World.shape?; rw [q6]⟩
            obtain ⟨N, hN⟩ := hshape
            refine ⟨a.eval x, w.freeze ⟨b, N, none⟩ 1, _, _, ⟨C', E.β, E.ρ⟩, ?_, h, rfl, le1, hp1.mark hrl hbb.1 (fun g' e2 k2 n2 cs2 y2 h1 h2 h3 => ?_) N, ?_⟩
            · have hu := hT.slice hdst
              have hi := hT.int hel
              simp only [execOp, ho]
              rw [hv]
              simp [convert, run_underlying hu, run_underlying hi, markStringish, hN]
            · have hgg : g' ≠ g := fun e => by
                subst e
                rw [List.getElem?_set_self hgl] at h1
                cases h1
              rw [List.getElem?_set_ne (fun e => hgg e.symm)] at h1
              exact hp.rd g _ _ _ _ _ g' _ _ _ _ y2 b (fun e => hgg e.symm) hg hy h1 h2 hblk h3
            · exact hp1.rws g (.pub k (n + 1) cs) _ (by rw [List.getElem?_set_self hgl]) hy
          · exact h.elim
        · exact h.elim
      · exact h.elim
    · exact h.elim
  · exact h.elim
end
end Go.Proofs.YtinjgckpmblffaaDoor.Vm
