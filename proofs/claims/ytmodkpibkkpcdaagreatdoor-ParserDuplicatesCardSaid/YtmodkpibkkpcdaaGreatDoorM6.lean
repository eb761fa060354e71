/- Texts 6 of the proof: U13, U14, U15, U16, U17, U18, U19, U20, U21, U22, U23, U24, U25, U26, U27, U28, U29, U30, U31, U32, U33, U34. -/
import Derived.Test.YtmodkpibkkpcdaaGreatDoorM5
namespace Go.Proofs.YtmodkpibkkpcdaaGreatDoor.Vm
open Go.RowKit Go.Shelf
set_option linter.unusedSimpArgs false
set_option linter.unusedVariables false
set_option maxRecDepth 100000
def jcT : Int -> List UInt8 -> Int
 | n, [] => n
 | n, c :: r => jcT (10 * n + (c.toNat : Int) - 48) r
theorem jmF {c : UInt8} (h : isD c = true) : 48 <= (c.toNat : Int) /\ (c.toNat : Int) <= 57 := by
 unfold isD at h;simp only [Bool.and_eq_true, decide_eq_true_eq] at h;exact h
theorem jhR : ∀ (l : List UInt8) (n : Int), 0 <= n -> (∀ c ∈ l, isD c = true) -> n <= jcT n l
 | [], n, _, _ => Int.le_refl n
 | c :: r, n, h0, h => by
  have hc := jmF (h c (by simp))
  have := jhR r (10 * n + (c.toNat : Int) - 48) (by omega) (fun c hc => h c (by simp [hc]))
  show n <= jcT (10 * n + (c.toNat : Int) - 48) r
  omega
theorem jhQ : ∀ (l : List UInt8) (n : Int), 0 <= n -> n <= 2147483647 -> (∀ c ∈ l, isD c = true) -> jgz n l = if 2147483647 < jcT n l then -1 else jcT n l
 | [], n, _, h, _ => by
  show n = if 2147483647 < n then -1 else n
  rw [if_neg (by omega)]
 | c :: r, n, h0, h1, h => by
  have hc := jmF (h c (by simp))
  have hr : ∀ c ∈ r, isD c = true := fun c hc => h c (by simp [hc])
  show (if 2147483647 < 10 * n + (c.toNat : Int) - 48 then -1 else jgz (10 * n + (c.toNat : Int) - 48) r) = if 2147483647 < jcT (10 * n + (c.toNat : Int) - 48) r then -1 else jcT (10 * n + (c.toNat : Int) - 48) r
  have hg := jhR r (10 * n + (c.toNat : Int) - 48) (by omega) hr
  by_cases hx : 2147483647 < 10 * n + (c.toNat : Int) - 48
  ·rw [if_pos hx, if_pos (by omega)]
  ·rw [if_neg hx, jhQ r _ (by omega) (by omega) hr]
theorem jiH : ∀ (l m : List UInt8) (n : Int), jcT n (l ++ m) = jcT (jcT n l) m
 | [], m, n => rfl
 | c :: r, m, n => jiH r m _
theorem jqu (n : Nat) : ((UInt8.ofNat (48 + n % 10)).toNat : Int) = 48 + n % 10 := by
 rw [UInt8.toNat_ofNat']; omega
theorem jox : ∀ (f n : Nat), n <= f -> ∀ c ∈ jmb n, isD c = true
 | f, 0, _, c, hc => by rw [jdd] at hc; cases hc
 | 0, n + 1, h, _, _ => by omega
 | f + 1, n + 1, h, c, hc => by
  rw [jci (by omega)] at hc
  rcases List.mem_append.1 hc with hc | hc
  ·exact jox f ((n + 1) / 10) (by omega) c hc
  ·obtain rfl := List.mem_singleton.1 hc
   unfold isD;rw [jqu];simp only [Bool.and_eq_true, decide_eq_true_eq];omega
theorem joh : ∀ (f n : Nat), n <= f -> jcT 0 (jmb n) = n
 | f, 0, _ => by rw [jdd]; rfl
 | 0, n + 1, h => by omega
 | f + 1, n + 1, h => by
  rw [jci (by omega), jiH, joh f ((n + 1) / 10) (by omega)]
  show 10 * (((n + 1) / 10 : Nat) : Int) + ((UInt8.ofNat (48 + (n + 1) % 10)).toNat : Int) - 48 = _
  rw [jqu]; omega
theorem jos (n : Nat) : ∀ c ∈ jb1 n, isD c = true := by
 unfold jb1
 split
 ·intro c hc; obtain rfl := List.mem_singleton.1 hc; decide
 ·exact jox n n (Nat.le_refl _)
theorem jsO (n : Nat) : jcT 0 (jb1 n) = n := by
 unfold jb1
 split
 ·rename_i h; subst h; rfl
 ·exact joh n n (Nat.le_refl _)
theorem jwj (n : Nat) : jb1 n ≠ [] := by
 unfold jb1
 split
 ·simp
 ·rename_i h; rw [jci h]; simp
structure Co where
 kind : Int
 text : List UInt8
 n : Int
def jmz (t : Tk) : Co := ⟨t.kind, t.text.data.toList, t.n⟩
def glR : List Co -> ByteArray
 | [] => ⟨#[]⟩
 | x :: l => ja1 (bs x.text) (glR l)
def jfD (x : List UInt8) : Bool := !(decide (x = [60]) || decide (x = [62]) || decide (x = [61]) || decide (x = [33]))
def okN (x : List UInt8) (y : UInt8) : Prop := (jbv (jbB (bs x)) = true -> jbv y = false) /\ (jfD x = false -> y ≠ 61)
structure LexT (c : Co) : Prop where
 ne : c.text ≠ []
 st : ∀ y r, c.text = y :: r -> jcg y = false /\ jp6 y = false
 go : ∀ rest, (∀ y r, rest = y :: r -> okN c.text y) -> jbh (c.text ++ rest) = .tok c.kind c.text.length c.n
def Fine : Bool -> List Co -> Prop
 | _, [] => True
 | b, c :: l => (b = false -> jaq (bs c.text) ≠ 61) /\ Fine (jfD c.text) l
theorem Fine.more {b : Bool} : ∀ {l : List Co}, Fine false l -> Fine b l
 | [], _ => trivial
 | c :: l, h => ⟨fun _ => h.1 rfl, h.2⟩
theorem Fine.app : ∀ {l m : List Co} {b : Bool}, Fine b l -> Fine false m -> Fine b (l ++ m)
 | [], m, b, _, h => h.more
 | c :: l, m, b, h, k => ⟨h.1, h.2.app k⟩
def EndS : List Co -> Prop
 | [] => False
 | [c] => jfD c.text = true
 | _ :: l => EndS l
theorem Fine.app2 : ∀ {l m : List Co} {b : Bool}, Fine b l -> EndS l -> Fine true m -> Fine b (l ++ m)
 | [], m, b, _, h, _ => h.elim
 | [c], m, b, h, e, k => ⟨h.1, by rw [show jfD c.text = true from e]; exact k⟩
 | c :: d :: l, m, b, h, e, k => ⟨h.1, Fine.app2 (l := d :: l) h.2 e k⟩
theorem EndS.app : ∀ {l m : List Co}, EndS m -> EndS (l ++ m)
 | [], m, h => h
 | [c], m, h => by
  cases m with
  | nil => exact h.elim
  | cons d m => exact h
 | c :: d :: l, m, h => EndS.app (l := d :: l) h
theorem jpY {l : List UInt8} (h : l ≠ []) : bs l ≠ ⟨#[]⟩ := by
 rw [jwC, jb3]; exact h
theorem jdM {c : Co} {l : List Co} (h : c.text ≠ []) : glR (c :: l) ≠ ⟨#[]⟩ := jf2 (jpY h)
theorem jc5 {c : Co} {l : List Co} (h : c.text ≠ []) : jaq (glR (c :: l)) = jaq (bs c.text) := by
 show jaq (ja1 _ _) = _
 rw [jaK, jgB]; exact jhB _ (jpY h)
theorem jj9 {c : Co} (h : LexT c) (p : Nat) (rest : List UInt8) (hr : ∀ y r, rest = y :: r -> okN c.text y) : ji5 p (c.text ++ rest) = Lx.cons ⟨c.kind, p, bs c.text, c.n⟩ (ji5 (p + c.text.length) rest) := by
 obtain ⟨h1, h2, h3⟩ := h
 have h3 := h3 rest hr
 cases hc : c.text with
 | nil => exact absurd hc h1
 | cons y r =>
  obtain ⟨g1, g2⟩ := h2 y r hc
  rw [hc] at h3
  have e := jjU (p := p) g1 g2 (r := r ++ rest) h3
  rw [show y :: r ++ rest = y :: (r ++ rest) from rfl, e]
  congr 2
  ·congr 1
   rw [show y :: (r ++ rest) = (y :: r) ++ rest from rfl, List.take_left'];rfl
  ·rw [show y :: (r ++ rest) = (y :: r) ++ rest from rfl, List.drop_left'];rfl
theorem jry : ∀ (l : List Co) (b : Bool) (p : Nat), (∀ c ∈ l, LexT c) -> Fine b l -> ∃ ts, ji5 p (glR l).data.toList = ⟨ts, none⟩ /\ ts.map jmz = l
 | [], b, p, _, _ => ⟨[], rfl, rfl⟩
 | c :: l, b, p, hl, hf => by
  have hc := hl c List.mem_cons_self
  have step : ∀ q, ∃ ts, ji5 q (glR l).data.toList = ⟨ts, none⟩ /\ ts.map jmz = l := fun q => jry l _ q (fun d hd => hl d (List.mem_cons_of_mem _ hd)) hf.2
  have e : (glR (c :: l)).data.toList = c.text ++ ((jct (bs c.text) (glR l)).data.toList ++ (glR l).data.toList) := by
   show (ja1 _ _).data.toList = _
   rw [jaK, jgj, jgj, jb3, List.append_assoc]
  have hg : jct (bs c.text) (glR l) = ⟨#[]⟩ ∨ (jct (bs c.text) (glR l) = ⟨#[32]⟩) := by
   unfold jct; split; exact .inl rfl; exact .inr rfl
  have fin : ∀ ts : List Tk, ts.map jmz = l -> (⟨c.kind, p, bs c.text, c.n⟩ :: ts : List Tk).map jmz = c :: l := fun ts h => by
   rw [List.map_cons, h];rfl
  rcases hg with hg | hg
  ·obtain ⟨ts, h1, h2⟩ := step (p + c.text.length)
   refine ⟨⟨c.kind, p, bs c.text, c.n⟩ :: ts, ?_, fin ts h2⟩;rw [e, hg];rw [show ((⟨#[]⟩ : ByteArray).data.toList ++ (glR l).data.toList) = (glR l).data.toList from rfl];rw [jj9 hc p _ fun y r hy => ?_, h1]
   ·rfl
   ·cases l with
    | nil => cases hy
    | cons d l =>
     have hd := (hl d (by simp)).ne
     have hfy : jaq (glR (d :: l)) = y := by unfold jaq; rw [hy]; rfl
     rw [jc5 hd] at hfy;refine ⟨fun hx => ?_, fun hx => ?_⟩
     ·unfold jct at hg
      split at hg
      ·rename_i hh
       rcases hh with hh | hh | hh | hh
       ·exact absurd hh (jpY hc.ne)
       ·exact absurd hh (jdM hd)
       ·rw [hx] at hh; cases hh
       ·rw [jc5 hd, hfy] at hh; exact hh
      ·exact absurd hg (by decide)
     ·rw [<- hfy]; exact hf.2.1 hx
  ·obtain ⟨ts, h1, h2⟩ := step (p + c.text.length + 1)
   refine ⟨⟨c.kind, p, bs c.text, c.n⟩ :: ts, ?_, fin ts h2⟩;rw [e, hg];rw [show ((⟨#[32]⟩ : ByteArray).data.toList ++ (glR l).data.toList) = 32 :: (glR l).data.toList from rfl];rw [jj9 hc p _ fun y r hy => ?_, jn6 (by decide) (by decide), h1]
   ·rfl
   ·cases hy
    exact ⟨fun _ => by decide, fun _ => by decide⟩
theorem jjL : ∀ (l m : List Co), (∀ c ∈ l, c.text ≠ []) -> (∀ c ∈ m, c.text ≠ []) -> glR (l ++ m) = ja1 (glR l) (glR m)
 | [], m, _, _ => by show glR m = ja1 ⟨#[]⟩ _; unfold ja1; rw [if_pos rfl, jva]
 | [c], m, _, _ => by
  show ja1 (bs c.text) (glR m) = ja1 (ja1 (bs c.text) ⟨#[]⟩) (glR m)
  rw [show ja1 (bs c.text) ⟨#[]⟩ = bs c.text by rw [jaK]; unfold jct; rw [if_pos (.inr (.inl rfl)), jez, jez]]
 | c :: d :: l, m, h, k => by
  show ja1 (bs c.text) (glR (d :: l ++ m)) = ja1 (ja1 (bs c.text) (glR (d :: l))) (glR m)
  rw [jjL (d :: l) m (fun x hx => h x (List.mem_cons_of_mem _ hx)) k, jaH _ _ _ (jdM (h d (by simp)))]
theorem je0 {q : UInt8 -> Bool} : ∀ (r rest : List UInt8), (∀ c ∈ r, q c = true) -> (∀ y t, rest = y :: t -> q y = false) -> jaf q (r ++ rest) = r.length
 | [], [], _, _ => rfl
 | [], y :: t, _, h => by
  show jaf q (y :: t) = 0
  unfold jaf; rw [h y t rfl]
 | c :: r, rest, h, k => by
  show jaf q (c :: (r ++ rest)) = _
  unfold jaf;rw [h c List.mem_cons_self]
  show jaf q (r ++ rest) + 1 = _
  rw [je0 r rest (fun x hx => h x (List.mem_cons_of_mem _ hx)) k]; rfl
theorem jkM {l : List UInt8} (h : l ≠ []) : jbB (bs l) ∈ l := by
 unfold jbB;rw [jb3, jby]
 have hl : l.length - 1 < l.length := by have := List.length_pos_iff.2 h; omega
 rw [List.getD_eq_getElem?_getD, List.getElem?_eq_getElem hl];exact List.getElem_mem hl
theorem jli {y : UInt8} (h : jbv y = true) : jcg y = false /\ jp6 y = false := by
 have : ∀ c : Fin 256, jbv (UInt8.ofNat c.val) = true -> jcg (UInt8.ofNat c.val) = false /\ jp6 (UInt8.ofNat c.val) = false := by decide +kernel
 have h2 := this ⟨y.toNat, y.toNat_lt⟩
 simp only [UInt8.ofNat_toNat] at h2;exact h2 h
theorem jpQ (c : UInt8) (r : List UInt8) (h1 : isL c = true) (h2 : ∀ x ∈ c :: r, jbv x = true) (h3 : r.length + 1 <= 10) : LexT ⟨1, c :: r, 0⟩ where
 ne := by simp
 st := fun y t e => by cases e; exact jli (h2 _ List.mem_cons_self)
 go := fun rest hr => by
  show jbh (c :: (r ++ rest)) = .tok 1 (r.length + 1) 0
  rw [jbh]
  have hs : jaf jbv (r ++ rest) = r.length := je0 r rest (fun x hx => h2 x (List.mem_cons_of_mem _ hx)) fun y t e => (hr y t e).1 (h2 _ (jkM (by simp)))
  rw [h1]
  simp only
  rw [hs, if_neg (by omega)]
theorem jqv {c : UInt8} (h : isD c = true) : jbv c = true /\ isL c = false := by
 refine ⟨by unfold jbv; rw [h, Bool.or_true], ?_⟩
 have := jmF h
 unfold isL;rw [decide_eq_false (by omega)]; rfl
theorem jub (c : UInt8) (r : List UInt8) (h : ∀ x ∈ c :: r, isD x = true) (hv : jcT 0 (c :: r) <= 2147483647) : LexT ⟨2, c :: r, jcT 0 (c :: r)⟩ where
 ne := by simp
 st := fun y t e => by cases e; exact jli (jqv (h _ List.mem_cons_self)).1
 go := fun rest hr => by
  show jbh (c :: (r ++ rest)) = .tok 2 (r.length + 1) _
  rw [jbh]
  have hs : jaf isD (r ++ rest) = r.length := je0 r rest (fun x hx => h x (List.mem_cons_of_mem _ hx)) fun y t e => by
   have := (hr y t e).1 (jqv (h _ (jkM (by simp)))).1
   unfold jbv at this;simp only [Bool.or_eq_false_iff] at this;exact this.2
  have hc := jqv (h c List.mem_cons_self)
  have hvf := jhQ (c :: r) 0 (by omega) (by omega) h
  rw [if_neg (by omega)] at hvf
  have hge := jhR (c :: r) 0 (by omega) h
  rw [hc.2, h c List.mem_cons_self]
  simp only
  rw [hs, List.take_left', hvf, if_neg (by omega)];rfl
theorem jtl {c y : UInt8} (h : jcG ji8 (bs [c, y]) = true) : y = 61 ∨ (c = 124 /\ y = 124) ∨ (c = 38 /\ y = 38) := by
 unfold jcG ji8 at h;simp only [List.any_cons, List.any_nil, Bool.or_eq_true, decide_eq_true_eq, Bool.or_false] at h
 rcases h with h | h | h | h | h | h <;> (have := jxm h; simp at this; simp [<- this.1, <- this.2])
def jt9 : List UInt8 := [40, 41, 33, 60, 62, 45, 43, 42, 47, 44, 59, 123, 125, 61]
theorem jke : ∀ c ∈ jt9, jcg c = false /\ jp6 c = false /\ isL c = false /\ isD c = false /\ jcG jpJ (bs [c]) = true /\ jcG ji8 (bs [c]) = false := by decide
theorem jr4 (c : UInt8) (hc : c ∈ jt9) : LexT ⟨3, [c], 0⟩ where
 ne := by simp
 st := fun y t e => by cases e; exact ⟨(jke c hc).1, (jke c hc).2.1⟩
 go := fun rest hr => by
  show jbh (c :: rest) = .tok 3 1 0
  obtain ⟨_, _, h1, h2, h3, h4⟩ := jke c hc
  have h5 : jcG ji8 (bs ((c :: rest).take 2)) = false := by
   cases rest with
   | nil => exact h4
   | cons y t =>
    show jcG ji8 (bs [c, y]) = false
    cases hq : jcG ji8 (bs [c, y]) with
    | false => rfl
    | true =>
     have hy := (hr y t rfl).2
     rcases jtl hq with h | ⟨h, -⟩ | ⟨h, -⟩
     ·subst h
      exfalso
      refine hy ?_ rfl
      have hall : ∀ c ∈ jt9, jcG ji8 (bs [c, 61]) = true -> jfD [c] = false := by decide
      exact hall c hc hq
     ·subst h; exact absurd hc (by decide)
     ·subst h; exact absurd hc (by decide)
  rw [jbh];rw [h1, h2, h5, h3]
def jvs : List (UInt8 × UInt8) := [(124, 124), (38, 38), (61, 61), (60, 61), (62, 61), (33, 61)]
theorem jjI : ∀ q ∈ jvs, jcg q.1 = false /\ jp6 q.1 = false /\ isL q.1 = false /\ isD q.1 = false /\ jcG ji8 (bs [q.1, q.2]) = true := by decide
theorem jpV (c d : UInt8) (hc : (c, d) ∈ jvs) : LexT ⟨3, [c, d], 0⟩ where
 ne := by simp
 st := fun y t e => by cases e; exact ⟨(jjI _ hc).1, (jjI _ hc).2.1⟩
 go := fun rest hr => by
  show jbh (c :: d :: rest) = .tok 3 2 0
  obtain ⟨_, _, h1, h2, h3⟩ := jjI _ hc
  rw [jbh];rw [h1, h2]
  simp only
  rw [show (c :: d :: rest).take 2 = [c, d] from rfl, h3]
section
def jad (s : ByteArray) : Co := ⟨3, s.data.toList, 0⟩
def jai (s : ByteArray) : Co := ⟨1, s.data.toList, 0⟩
def jg8 (n : Nat) : Co := ⟨2, jb1 n, n⟩
theorem jb2 (s : ByteArray) : bs s.data.toList = s := jge (jb3 _)
theorem jrj (c : Co) : glR [c] = bs c.text := by
 show ja1 (bs c.text) ⟨#[]⟩ = _
 exact jhO _
theorem LexT.num (n : Nat) (hn : n <= 2147483647) : LexT (jg8 n) := by
 have h1 := jos n
 have h2 := jsO n
 have h3 := jwj n
 unfold jg8;generalize jb1 n = l at *
 cases l with
 | nil => exact absurd rfl h3
 | cons c r =>
  have := jub c r h1 (by rw [h2]; omega)
  rw [h2] at this;exact this
structure TN (b : ByteArray) (l : List Co) : Prop where
 eq : b = glR l
 lx : ∀ c ∈ l, LexT c
 fi : Fine false l
 en : EndS l
theorem TN.one {c : Co} (h : LexT c) (hs : jfD c.text = true) (hf : jaq (bs c.text) ≠ 61) : TN (bs c.text) [c] where
 eq := (jrj c).symm
 lx := fun x hx => by rw [List.mem_singleton.1 hx]; exact h
 fi := ⟨fun _ => hf, trivial⟩
 en := hs
theorem TN.cat {b1 b2 : ByteArray} {l1 l2 : List Co} (h1 : TN b1 l1) (h2 : TN b2 l2) : TN (ja1 b1 b2) (l1 ++ l2) where
 eq := by rw [h1.eq, h2.eq, jjL _ _ (fun c hc => (h1.lx c hc).ne) (fun c hc => (h2.lx c hc).ne)]
 lx := fun x hx => by
  rcases List.mem_append.1 hx with hx | hx
  ·exact h1.lx x hx
  ·exact h2.lx x hx
 fi := h1.fi.app h2.fi
 en := h2.en.app
theorem TN.pre {b : ByteArray} {l : List Co} {o : Co} (ho : LexT o) (hf : jaq (bs o.text) ≠ 61) (h : TN b l) : TN (ja1 (bs o.text) b) (o :: l) where
 eq := by rw [h.eq]; rfl
 lx := fun x hx => by
  rcases List.mem_cons.1 hx with rfl | hx
  ·exact ho
  ·exact h.lx x hx
 fi := ⟨fun _ => hf, h.fi.more⟩
 en := EndS.app (l := [o]) h.en
theorem TN.mid {b1 b2 : ByteArray} {l1 l2 : List Co} {o : Co} (h1 : TN b1 l1) (ho : LexT o) (h2 : TN b2 l2) : TN (ja1 (ja1 b1 (bs o.text)) b2) (l1 ++ o :: l2) where
 eq := by
  rw [h1.eq, h2.eq, jaH _ _ _ (jpY ho.ne), jjL _ _ (fun c hc => (h1.lx c hc).ne) (fun c hc => by
   rcases List.mem_cons.1 hc with rfl | hc
   ·exact ho.ne
   ·exact (h2.lx c hc).ne)]
  rfl
 lx := fun x hx => by
  rcases List.mem_append.1 hx with hx | hx
  ·exact h1.lx x hx
  ·rcases List.mem_cons.1 hx with rfl | hx
   ·exact ho
   ·exact h2.lx x hx
 fi := h1.fi.app2 h1.en ⟨(fun h => by cases h), h2.fi.more⟩
 en := EndS.app (EndS.app (l := [o]) h2.en)
theorem TN.ne {b : ByteArray} {l : List Co} (h : TN b l) : b ≠ ⟨#[]⟩ := by
 have he := h.en
 rw [h.eq]
 cases l with
 | nil => exact he.elim
 | cons c l => exact jdM (h.lx c List.mem_cons_self).ne
theorem jnd (s : ByteArray) (c : UInt8) (hs : s.data.toList = [c]) (hc : c ∈ jt9) : LexT (jad s) := by
 unfold jad; rw [hs]; exact jr4 c hc
theorem jp0 (s : ByteArray) (c d : UInt8) (hs : s.data.toList = [c, d]) (hc : (c, d) ∈ jvs) : LexT (jad s) := by
 unfold jad; rw [hs]; exact jpV c d hc
def jxj : List UInt8 -> Bool
 | [] => false
 | c :: r => isL c && (c :: r).all jbv && decide (r.length + 1 <= 10)
theorem jfL (s : ByteArray) (h : jxj s.data.toList = true) : LexT (jai s) := by
 unfold jai;generalize s.data.toList = l at *
 cases l with
 | nil => cases h
 | cons c r =>
  unfold jxj at h;simp only [Bool.and_eq_true, decide_eq_true_eq] at h;exact jpQ c r h.1.1 (fun x hx => List.all_eq_true.1 h.1.2 x hx) h.2
def jd4 (p lv : Int) (fu : Bool) (l : List Co) : List Co := if p < lv then jad pLp :: l ++ [jad pRp] else if fu = true then (if p < 8 then jad pLp :: l ++ [jad pRp] else l) else l
theorem jxK : LexT (jad pLp) := jnd pLp 40 rfl (by decide)
theorem jyk : LexT (jad pRp) := jnd pRp 41 rfl (by decide)
theorem TN.par {b : ByteArray} {l : List Co} (h : TN b l) (p lv : Int) (fu : Bool) : TN (jeF p lv fu b) (jd4 p lv fu l) := by
 have h1 := (h.pre jxK (by decide)).cat (TN.one jyk (by decide) (by decide))
 have e : pLp ++ b ++ pRp = ja1 (ja1 (bs (jad pLp).text) b) (bs (jad pRp).text) := by
  rw [show bs (jad pLp).text = pLp from rfl, show bs (jad pRp).text = pRp from rfl, jem pLp b (by decide), jbF _ pRp (by decide)]
 rw [<- e] at h1;unfold jd4 jeF
 by_cases hp : p < lv
 ·rw [if_pos hp, if_pos hp]; exact h1
 ·rw [if_neg hp, if_neg hp]
  cases fu with
  | false => exact h
  | true =>
   rw [if_pos rfl, if_pos rfl]
   by_cases hp8 : p < 8
   ·rw [if_pos hp8, if_pos hp8]; exact h1
   ·rw [if_neg hp8, if_neg hp8]; exact h
def noT : Int -> List Co := fun _ => []
def jAE (k n : Int) (s : ByteArray) (g : List (Int -> List Co)) : List Co :=
 if k = 12 then [jg8 n.toNat]
 else if k = 13 then [jai (tfB n)]
 else if k = 16 then jai wDraw :: jad pLp :: (g.getD 0 noT) 1 ++ [jad pRp]
 else if k = 17 then jad s :: (g.getD 0 noT) (jab k s)
 else if k = 18 then (g.getD 0 noT) (if jab k s = 4 then 5 else jab k s) ++ jad s :: (g.getD 1 noT) (jab k s + 1)
 else [jai s]
mutual
def tkN (fu : Bool) : Nt -> Int -> List Co
 | .mk k n s kids, req => jd4 (jab k s) req fu (jAE k n s (jAU fu kids))
def jAU (fu : Bool) : List Nt -> List (Int -> List Co)
 | [] => []
 | f :: l => tkN fu f :: jAU fu l
end
variable {fu : Bool}
def TE (fu : Bool) (f : Nt) : Prop := ∀ lv, TN (shN fu f lv) (tkN fu f lv)
theorem juO (n : Nat) (hn : n <= 2147483647) : TE fu (.mk 12 n eB []) := fun lv => by
 have h := TN.one (LexT.num n hn) (by
  have h1 := jos n
  show jfD (jb1 n) = true
  unfold jfD;rw [decide_eq_false (fun e => by rw [e] at h1; exact absurd (h1 60 (by simp)) (by decide)), decide_eq_false (fun e => by rw [e] at h1; exact absurd (h1 62 (by simp)) (by decide)), decide_eq_false (fun e => by rw [e] at h1; exact absurd (h1 61 (by simp)) (by decide)), decide_eq_false (fun e => by rw [e] at h1; exact absurd (h1 33 (by simp)) (by decide))]
  rfl) (by
  have h2 := jgf n
  show jaq (bs (jb1 n)) ≠ 61
  intro e;rw [e] at h2
  exact absurd h2 (by decide))
 exact h.par 8 lv fu
theorem juZ (k : Int) (hk : k = 14 ∨ k = 15) (s : ByteArray) (hw : LexT (jai s)) (h1 : jfD s.data.toList = true) (h2 : jaq s ≠ 61) : TE fu (.mk k 0 s []) := fun lv => by
 have h := TN.one hw h1 (by rw [show (jai s).text = s.data.toList from rfl, jb2]; exact h2)
 rw [show (jai s).text = s.data.toList from rfl, jb2] at h
 rcases hk with rfl | rfl
 ·exact h.par 8 lv fu
 ·exact h.par 8 lv fu
theorem jvM (n : Nat) (hn : n < 2) : TE fu (.mk 13 n eB []) := fun lv => by
 have hw : LexT (jai (tfB n)) /\ jfD (tfB n).data.toList = true /\ jaq (tfB n) ≠ 61 := by
  rcases (by omega : n = 0 ∨ n = 1) with rfl | rfl
  ·exact ⟨jfL _ (by decide), by decide, by decide⟩
  ·exact ⟨jfL _ (by decide), by decide, by decide⟩
 have h := TN.one hw.1 hw.2.1 (by rw [show (jai (tfB n)).text = (tfB n).data.toList from rfl, jb2]; exact hw.2.2)
 rw [show (jai (tfB n)).text = (tfB n).data.toList from rfl, jb2] at h;exact h.par 8 lv fu
theorem jxU (f : Nt) (hf : TE fu f) : TE fu (.mk 16 0 eB [f]) := fun lv => by
 have hd : LexT (jai wDraw) := jfL _ (by decide)
 have h := (((hf 1).pre jxK (by decide)).pre hd (by decide)).cat (TN.one jyk (by decide) (by decide))
 have e : shN fu (.mk 16 0 eB [f]) lv = jeF 8 lv fu (jb5 [wDraw, pLp, shN fu f 1, pRp]) := rfl
 have e2 : jb5 [wDraw, pLp, shN fu f 1, pRp] = ja1 (ja1 (bs (jai wDraw).text) (ja1 (bs (jad pLp).text) (shN fu f 1))) (bs (jad pRp).text) := by
  show ja1 (ja1 (ja1 (ja1 eB wDraw) pLp) (shN fu f 1)) pRp = _
  rw [jbp, jaH wDraw pLp _ (by decide)];rfl
 rw [e, e2];exact h.par 8 lv fu
theorem juk (s : ByteArray) (hs : LexT (jad s)) (h2 : jaq s ≠ 61) (f : Nt) (hf : TE fu f) : TE fu (.mk 17 0 s [f]) := fun lv => by
 have h := (hf (jab 17 s)).pre hs (by rw [show (jad s).text = s.data.toList from rfl, jb2]; exact h2)
 rw [show (jad s).text = s.data.toList from rfl, jb2] at h
 have e : shN fu (.mk 17 0 s [f]) lv = jeF (jab 17 s) lv fu (jb5 [s, shN fu f (jab 17 s)]) := rfl
 have e2 : jb5 [s, shN fu f (jab 17 s)] = ja1 s (shN fu f (jab 17 s)) := by
  show ja1 (ja1 eB s) _ = _
  rw [jbp]
 rw [e, e2];exact h.par (jab 17 s) lv fu
theorem jqg (s : ByteArray) (hs : LexT (jad s)) (f g : Nt) (hf : TE fu f) (hg : TE fu g) : TE fu (.mk 18 0 s [f, g]) := fun lv => by
 have h := (hf (if jab 18 s = 4 then 5 else jab 18 s)).mid hs (hg (jab 18 s + 1))
 rw [show (jad s).text = s.data.toList from rfl, jb2] at h
 have e : shN fu (.mk 18 0 s [f, g]) lv = jeF (jab 18 s) lv fu (jb5 [shN fu f (if jab 18 s = 4 then 5 else jab 18 s), s, shN fu g (jab 18 s + 1)]) := rfl
 have e2 : jb5 [shN fu f (if jab 18 s = 4 then 5 else jab 18 s), s, shN fu g (jab 18 s + 1)] = ja1 (ja1 (shN fu f (if jab 18 s = 4 then 5 else jab 18 s)) s) (shN fu g (jab 18 s + 1)) := by
  show ja1 (ja1 (ja1 eB _) s) _ = _
  rw [jbp]
 rw [e, e2];exact h.par (jab 18 s) lv fu
theorem jvQ : ∀ s ∈ opL, LexT (jad s) := fun s hs => by
 unfold opL at hs;simp only [List.mem_cons, List.not_mem_nil, or_false] at hs
 rcases hs with rfl | rfl | rfl | rfl
 ·exact jnd _ 43 rfl (by decide)
 ·exact jnd _ 45 rfl (by decide)
 ·exact jnd _ 42 rfl (by decide)
 ·exact jnd _ 47 rfl (by decide)
theorem jtW : ∀ s ∈ bolL, LexT (jad s) := fun s hs => by
 unfold bolL at hs;simp only [List.mem_cons, List.not_mem_nil, or_false] at hs
 rcases hs with rfl | rfl
 ·exact jp0 _ 38 38 rfl (by decide)
 ·exact jp0 _ 124 124 rfl (by decide)
theorem jtZ : ∀ s ∈ cmpL, LexT (jad s) := fun s hs => by
 unfold cmpL at hs;simp only [List.mem_cons, List.not_mem_nil, or_false] at hs
 rcases hs with rfl | rfl | rfl | rfl | rfl | rfl
 ·exact jnd _ 60 rfl (by decide)
 ·exact jp0 _ 60 61 rfl (by decide)
 ·exact jnd _ 62 rfl (by decide)
 ·exact jp0 _ 62 61 rfl (by decide)
 ·exact jp0 _ 61 61 rfl (by decide)
 ·exact jp0 _ 33 61 rfl (by decide)
theorem juc : ∀ s ∈ varL, LexT (jai s) /\ jfD s.data.toList = true /\ jaq s ≠ 61 := fun s hs => by
 unfold varL at hs;simp only [List.mem_cons, List.not_mem_nil, or_false] at hs
 rcases hs with rfl | rfl | rfl | rfl <;> exact ⟨jfL _ (by decide), by decide, by decide⟩
theorem jtm : ∀ s ∈ builtL, LexT (jai s) /\ jfD s.data.toList = true /\ jaq s ≠ 61 := fun s hs => by
 unfold builtL at hs;simp only [List.mem_cons, List.not_mem_nil, or_false] at hs
 rcases hs with rfl | rfl | rfl | rfl | rfl | rfl | rfl | rfl | rfl <;> exact ⟨jfL _ (by decide), by decide, by decide⟩
theorem jut : ∀ n ∈ litL, ∃ m : Nat, n = m /\ m <= 2147483647 := fun n hn => by
 have h : ∀ n ∈ litL, 0 <= n /\ n <= 2147483647 := by decide
 have := h n hn
 exact ⟨n.toNat, by omega, by omega⟩
theorem jkl {d : Nat} {f : Nt} (h : EI d f) : TE fu f := by
 induction h with
 | lit d n h => obtain ⟨m, rfl, hm⟩ := jut n h; exact juO m hm
 | var d s h => obtain ⟨a, b, c⟩ := juc s h; exact juZ 14 (.inl rfl) s a b c
 | nam d s h => obtain ⟨a, b, c⟩ := jtm s h; exact juZ 15 (.inr rfl) s a b c
 | drw d f h ih => exact jxU f ih
 | neg d f h ih => exact juk pMinus (jnd _ 45 rfl (by decide)) (by decide) f ih
 | bin d s f g hs h1 h2 i1 i2 => exact jqg s (jvQ s hs) f g i1 i2
theorem jxF {d : Nat} {f : Nt} (h : EB d f) : TE fu f := by
 induction h with
 | lit d n h => exact jvM n h
 | nt d f h ih => exact juk pNot (jnd _ 33 rfl (by decide)) (by decide) f ih
 | bin d s f g hs h1 h2 i1 i2 => exact jqg s (jtW s hs) f g i1 i2
 | cmp d s f g hs h1 h2 => exact jqg s (jtZ s hs) f g (jkl h1) (jkl h2)
end
section
variable {fu : Bool}
def cmT : List (List Co) -> List Co
 | [] => []
 | x :: l => x ++ l.flatMap fun y => jad pComma :: y
theorem jtq (x : List Co) (l : List (List Co)) (y : List Co) : cmT (x :: l ++ [y]) = cmT (x :: l) ++ jad pComma :: y := by
 unfold cmT
 show x ++ (l ++ [y]).flatMap _ = _
 rw [List.flatMap_append, List.flatMap_cons, List.flatMap_nil, List.append_nil, List.append_assoc]
theorem jrp : LexT (jad pComma) := jnd pComma 44 rfl (by decide)
theorem jxz : LexT (jad pSemi) := jnd pSemi 59 rfl (by decide)
theorem jAs : LexT (jad pEq) := jnd pEq 61 rfl (by decide)
theorem jzQ : LexT (jad pLb) := jnd pLb 123 rfl (by decide)
theorem jzA : LexT (jad pRb) := jnd pRb 125 rfl (by decide)
theorem jz4 : ∀ (n : Nat) (l : List Nt), l.length = n + 1 -> (∀ f ∈ l, TE fu f) -> TN (cmF (l.map fun f => shN fu f 1)) (cmT (l.map fun f => tkN fu f 1))
 | 0, l, hl, h => by
  obtain ⟨f, rfl⟩ := List.length_eq_one_iff.1 hl
  have h1 := h f List.mem_cons_self 1
  show TN (ja1 eB (shN fu f 1)) (tkN fu f 1 ++ [])
  rw [jbp, List.append_nil];exact h1
 | n + 1, l, hl, h => by
  have hne : l ≠ [] := fun e => by rw [e] at hl; cases hl
  have e := List.dropLast_concat_getLast hne
  have hy := h _ (List.getLast_mem hne) 1
  have ih := jz4 n l.dropLast (by rw [List.length_dropLast]; omega) fun f hf => h f (List.dropLast_subset l hf)
  generalize l.getLast hne = y at *
  have hd : l.dropLast ≠ [] := fun e0 => by rw [e0] at e; rw [<- e] at hl; simp at hl
  generalize l.dropLast = m at *;subst e
  cases m with
  | nil => exact absurd rfl hd
  | cons x m =>
   rw [List.map_append, List.map_append]
   show TN (cmF ((shN fu x 1 :: m.map fun f => shN fu f 1) ++ [shN fu y 1])) (cmT ((tkN fu x 1 :: m.map fun f => tkN fu f 1) ++ [tkN fu y 1]))
   rw [jfy, jtq]
   have h1 := ih.mid jrp hy
   have e1 : bs (jad pComma).text = pComma := rfl
   rw [e1, jbF _ pComma (by decide)] at h1;exact h1
def lsT (fu : Bool) (l : List Nt) : List Co := cmT (l.map fun f => tkN fu f 1) ++ [jad pSemi]
theorem jwQ (l : List Nt) (hl : l ≠ []) (h : ∀ f ∈ l, TE fu f) : TN (jaY fu l) (lsT fu l) := by
 have h1 := jz4 (l.length - 1) l (by have := List.length_pos_iff.2 hl; omega) h
 have h2 := h1.cat (TN.one jxz (by decide) (by decide))
 rw [show bs (jad pSemi).text = pSemi from rfl, jbF _ pSemi (by decide)] at h2;exact h2
def jBf (fu : Bool) (k n : Int) (s : ByteArray) (kids : List Nt) (bks : List (List Co)) : List Co :=
 if k = 1 then jai s :: jad pEq :: lsT fu kids
 else if k = 3 then jai wWhile :: tkN fu (kid kids 0) 1 ++ bks.getD 1 []
 else if k = 4 then jai wSend :: tkN fu (kid kids 0) 1 ++ jad pComma :: jg8 n.toNat :: jad pComma :: lsT fu (kids.drop 1)
 else if k = 5 then [jai wTimer, jg8 n.toNat, jad pSemi]
 else if k = 6 then [jai wCancel, jg8 n.toNat, jad pSemi]
 else if k = 7 then [jai wSync, jad pSemi]
 else if k = 10 then [jai wStop, jad pSemi]
 else if k = 8 then jai wReply :: lsT fu kids
 else if k = 9 then jai wFail :: lsT fu kids
 else if 0 < (kid kids 2).kids.length then jai wIf :: tkN fu (kid kids 0) 1 ++ bks.getD 1 [] ++ jai wElse :: bks.getD 2 [] else jai wIf :: tkN fu (kid kids 0) 1 ++ bks.getD 1 []
mutual
def tkS (fu : Bool) : Nt -> List Co
 | .mk k n s kids => jBf fu k n s kids (jB4 fu kids)
def tkB (fu : Bool) : Nt -> List Co
 | .mk _ _ _ kids => jad pLb :: (jx5 fu kids).flatten ++ [jad pRb]
def jx5 (fu : Bool) : List Nt -> List (List Co)
 | [] => []
 | f :: l => tkS fu f :: jx5 fu l
def jB4 (fu : Bool) : List Nt -> List (List Co)
 | [] => []
 | f :: l => tkB fu f :: jB4 fu l
end
theorem jgJ : ∀ l : List Nt, jx5 fu l = l.map (tkS fu)
 | [] => rfl
 | f :: l => by rw [jx5, jgJ l]; rfl
def TS (fu : Bool) (f : Nt) : Prop := TN (stP fu f) (tkS fu f)
def TB (fu : Bool) (f : Nt) : Prop := TN (bkP fu f) (tkB fu f)
theorem jnV (l : List Nt) (h : ∀ f ∈ l, TS fu f) : TB fu (jbb l) := by
 have key : ∀ (m : List Nt) (b : ByteArray) (t : List Co), TN b t -> (∀ f ∈ m, TS fu f) -> TN ((m.map (stP fu)).foldl ja1 b) (t ++ (m.map (tkS fu)).flatten) := fun m => by
  induction m with
  | nil => intro b t h _; rw [List.map_nil, List.map_nil, List.flatten_nil, List.append_nil]; exact h
  | cons f m ih =>
   intro b t h1 h2
   have h3 := ih (ja1 b (stP fu f)) (t ++ tkS fu f) (h1.cat (h2 f List.mem_cons_self)) fun g hg => h2 g (List.mem_cons_of_mem _ hg)
   rw [List.map_cons, List.map_cons, List.flatten_cons, <- List.append_assoc];exact h3
 have h1 := key l pLb [jad pLb] (TN.one jzQ (by decide) (by decide)) h
 have h2 := h1.cat (TN.one jzA (by decide) (by decide))
 unfold TB
 have e : bkP fu (jbb l) = bkL fu l ++ pRb := jqP _ _ _ _ _
 have e2 : tkB fu (jbb l) = jad pLb :: (l.map (tkS fu)).flatten ++ [jad pRb] := by
  unfold jbb;rw [tkB, jgJ]
 rw [e, e2];rw [show bs (jad pRb).text = pRb from rfl, jbF _ pRb (by decide)] at h2;exact h2
theorem jyQ (s : ByteArray) (hw : LexT (jai s) /\ jfD s.data.toList = true /\ jaq s ≠ 61) (l : List Nt) (hl : l ≠ []) (h : ∀ f ∈ l, TE fu f) : TS fu (.mk 1 0 s l) := by
 have h0 := TN.one hw.1 hw.2.1 (by rw [show (jai s).text = s.data.toList from rfl, jb2]; exact hw.2.2)
 rw [show (jai s).text = s.data.toList from rfl, jb2] at h0
 have h1 := h0.mid jAs (jwQ l hl h)
 have e : stP fu (.mk 1 0 s l) = ja1 (ja1 s pEq) (jaY fu l) := by
  show ja1 (ja1 (ja1 eB s) pEq) (jaY fu l) = _
  rw [jbp]
 show TN (stP fu (.mk 1 0 s l)) _
 rw [e];exact h1
theorem juL (w : ByteArray) (hw : LexT (jai w)) (hf : jaq w ≠ 61) (l : List Nt) (hl : l ≠ []) (h : ∀ f ∈ l, TE fu f) : TN (jb5 [w, jaY fu l]) (jai w :: lsT fu l) := by
 have h1 := (jwQ l hl h).pre hw (by rw [show (jai w).text = w.data.toList from rfl, jb2]; exact hf)
 rw [show (jai w).text = w.data.toList from rfl, jb2] at h1
 show TN (ja1 (ja1 eB w) (jaY fu l)) _
 rw [jbp];exact h1
theorem jxY (l : List Nt) (hl : l ≠ []) (h : ∀ f ∈ l, TE fu f) : TS fu (.mk 8 0 eB l) := juL wReply (jfL _ (by decide)) (by decide) l hl h
theorem jyp (l : List Nt) (hl : l ≠ []) (h : ∀ f ∈ l, TE fu f) : TS fu (.mk 9 0 eB l) := juL wFail (jfL _ (by decide)) (by decide) l hl h
end
section
variable {fu : Bool}
theorem jnv (n : Nat) (hn : n <= 2147483647) : TN (bs (jb1 n)) [jg8 n] := juO (fu := false) n hn 0
theorem TN.wrd {b : ByteArray} {l : List Co} (w : ByteArray) (hw : LexT (jai w)) (hf : jaq w ≠ 61) (h : TN b l) : TN (ja1 w b) (jai w :: l) := by
 have h1 := h.pre hw (by rw [show (jai w).text = w.data.toList from rfl, jb2]; exact hf)
 rw [show (jai w).text = w.data.toList from rfl, jb2] at h1;exact h1
theorem TN.end {b : ByteArray} {l : List Co} (h : TN b l) : TN (ja1 b pSemi) (l ++ [jad pSemi]) := h.cat (TN.one jxz (by decide) (by decide))
theorem jdC (w : ByteArray) (hw : LexT (jai w)) (hs : jfD w.data.toList = true) (hf : jaq w ≠ 61) : TN w [jai w] := by
 have h0 := TN.one hw hs (by rw [show (jai w).text = w.data.toList from rfl, jb2]; exact hf)
 rw [show (jai w).text = w.data.toList from rfl, jb2] at h0;exact h0
theorem juK (k : Int) (hk : k = 5 ∨ k = 6) (n : Nat) (hn : n < 1000) : TS fu (.mk k n eB []) := by
 have hd := jnv n (by omega)
 rcases hk with rfl | rfl
 ·have h := (hd.wrd wTimer (jfL _ (by decide)) (by decide)).end
  have e : stP fu (.mk 5 n eB []) = ja1 (ja1 wTimer (bs (jb1 n))) pSemi := by
   show ja1 (ja1 (ja1 eB wTimer) (bs (jb1 n))) pSemi = _
   rw [jbp]
  show TN (stP fu (.mk 5 n eB [])) _
  rw [e];exact h
 ·have h := (hd.wrd wCancel (jfL _ (by decide)) (by decide)).end
  have e : stP fu (.mk 6 n eB []) = ja1 (ja1 wCancel (bs (jb1 n))) pSemi := by
   show ja1 (ja1 (ja1 eB wCancel) (bs (jb1 n))) pSemi = _
   rw [jbp]
  show TN (stP fu (.mk 6 n eB [])) _
  rw [e];exact h
theorem juC (k : Int) (hk : k = 7 ∨ k = 10) : TS fu (.mk k 0 eB []) := by
 rcases hk with rfl | rfl
 ·have h := (jdC wSync (jfL _ (by decide)) (by decide) (by decide)).end
  show TN (stP fu (.mk 7 0 eB [])) _
  rw [show stP fu (.mk 7 0 eB []) = ja1 wSync pSemi by (show syncB = _); decide];exact h
 ·have h := (jdC wStop (jfL _ (by decide)) (by decide) (by decide)).end
  show TN (stP fu (.mk 10 0 eB [])) _
  rw [show stP fu (.mk 10 0 eB []) = ja1 wStop pSemi by (show stopB = _); decide];exact h
theorem jyu (n : Nat) (hn : n < 1000) (f g h : Nt) (hf : TE fu f) (hg : TE fu g) (hh : TE fu h) : TS fu (.mk 4 n eB [f, g, h]) := by
 have hl := jwQ [g, h] (by simp) fun x hx => by
  simp only [List.mem_cons, List.not_mem_nil, or_false] at hx
  rcases hx with rfl | rfl
  ·exact hg
  ·exact hh
 have h1 := (((hf 1).wrd wSend (jfL _ (by decide)) (by decide)).mid jrp (jnv n (by omega))).mid jrp hl
 have e : stP fu (.mk 4 n eB [f, g, h]) = ja1 (ja1 (ja1 (ja1 (ja1 wSend (shN fu f 1)) pComma) (bs (jb1 n))) pComma) (jaY fu [g, h]) := by
  show ja1 (ja1 (ja1 (ja1 (ja1 (ja1 eB wSend) (shN fu f 1)) pComma) (bs (jb1 n))) pComma) (jaY fu [g, h]) = _
  rw [jbp]
 have e2 : tkS fu (.mk 4 n eB [f, g, h]) = (jai wSend :: tkN fu f 1 ++ jad pComma :: [jg8 n]) ++ jad pComma :: lsT fu [g, h] := by
  show jai wSend :: tkN fu f 1 ++ jad pComma :: jg8 n :: jad pComma :: lsT fu [g, h] = _
  simp
 show TN _ _
 rw [e, e2];exact h1
theorem jxS (c b : Nt) (hc : TE fu c) (hb : TB fu b) : TS fu (.mk 3 0 eB [c, b]) := by
 have h1 := ((hc 1).wrd wWhile (jfL _ (by decide)) (by decide)).cat hb
 have e : stP fu (.mk 3 0 eB [c, b]) = ja1 (ja1 wWhile (shN fu c 1)) (bkP fu b) := by
  show ja1 (ja1 (ja1 eB wWhile) (shN fu c 1)) (bkP fu b) = _
  rw [jbp]
 show TN (stP fu (.mk 3 0 eB [c, b])) _
 rw [e];exact h1
theorem jyg (c b d : Nt) (hc : TE fu c) (hb : TB fu b) (hd : TB fu d) : TS fu (.mk 2 0 eB [c, b, d]) := by
 have h1 := ((hc 1).wrd wIf (jfL _ (by decide)) (by decide)).cat hb
 have e : stP fu (.mk 2 0 eB [c, b, d]) = if 0 < d.kids.length then jb5 [jb5 [wIf, shN fu c 1, bkP fu b], wElse, bkP fu d] else jb5 [wIf, shN fu c 1, bkP fu b] := rfl
 have e3 : jb5 [wIf, shN fu c 1, bkP fu b] = ja1 (ja1 wIf (shN fu c 1)) (bkP fu b) := by
  show ja1 (ja1 (ja1 eB wIf) (shN fu c 1)) (bkP fu b) = _
  rw [jbp]
 have e2 : tkS fu (.mk 2 0 eB [c, b, d]) = if 0 < d.kids.length then jai wIf :: tkN fu c 1 ++ tkB fu b ++ jai wElse :: tkB fu d else jai wIf :: tkN fu c 1 ++ tkB fu b := rfl
 show TN _ _
 rw [e, e2, e3]
 by_cases hl : 0 < d.kids.length
 ·rw [if_pos hl, if_pos hl]
  have h2 := h1.cat (hd.wrd wElse (jfL _ (by decide)) (by decide))
  show TN (ja1 (ja1 (ja1 eB (ja1 (ja1 wIf (shN fu c 1)) (bkP fu b))) wElse) (bkP fu d)) _
  rw [jbp, jaH _ _ _ (by decide)];exact h2
 ·rw [if_neg hl, if_neg hl];exact h1
theorem jA8 {d : Nat} {f : Nt} (h : ES d f) : TS fu f := by
 induction h with
 | asg d e s f hs h he => exact jyQ s (juc s hs) [f] (by simp) fun x hx => by rw [List.mem_singleton.1 hx]; exact jkl h
 | snd d n f g h hn h1 h2 h3 => exact jyu n (by omega) f g h (jkl h1) (jkl h2) (jkl h3)
 | tim d n hn => exact juK 5 (.inl rfl) n (by omega)
 | can d n hn => exact juK 6 (.inr rfl) n (by omega)
 | syn d => exact juC 7 (.inl rfl)
 | rep d f g h1 h2 =>
  refine jxY [f, g] (by simp) ?_;intro x hx;simp only [List.mem_cons, List.not_mem_nil, or_false] at hx
  rcases hx with rfl | rfl
  ·exact jkl h1
  ·exact jkl h2
 | fai d f h1 => exact jyp [f] (by simp) fun x hx => by rw [List.mem_singleton.1 hx]; exact jkl h1
 | stp d => exact juC 10 (.inr rfl)
 | whi d c l h1 h2 h3 ih => exact jxS c (jbb l) (jxF h1) (jnV l ih)
 | iff d c l m h1 h2 h3 h4 h5 ih1 ih2 => exact jyg c (jbb l) (jbb m) (jxF h1) (jnV l ih1) (jnV m ih2)
theorem jAz {b : Nt} (h : EK b) : TB fu b := by
 obtain ⟨k, rfl, h1, h2⟩ := h
 exact jnV k fun s hs => jA8 (h2 s hs)
def jnM (n : Int) : List Co := if n = 1 then [jai wRequest] else if 10 <= n then [jai wMessage, jg8 (n - 10).toNat] else if 2 <= n then [jai wTimer, jg8 (n - 2).toNat] else [jai wStart]
theorem jxf (n : Int) (hn : n < 40) : TN (hdW n) (jnM n) := by
 unfold hdW jnM
 repeat' split
 ·exact jdC _ (jfL _ (by decide)) (by decide) (by decide)
 ·rw [show wMsgS = wMessage ++ ⟨#[32]⟩ by decide, <- jgG wMessage (by decide) (by decide)];exact (jnv _ (by omega)).wrd wMessage (jfL _ (by decide)) (by decide)
 ·rw [show wTimS = wTimer ++ ⟨#[32]⟩ by decide, <- jgG wTimer (by decide) (by decide)];exact (jnv _ (by omega)).wrd wTimer (jfL _ (by decide)) (by decide)
 ·exact jdC _ (jfL _ (by decide)) (by decide) (by decide)
def jdt (fu : Bool) (h : Int × Nt) : List Co := jai wOn :: jnM h.1 ++ tkB fu h.2
theorem jAQ (h : Int × Nt) (hn : h.1 < 40) (hb : TB fu h.2) : TN (hdN fu h) (jdt fu h) := by
 have h1 := ((jxf h.1 hn).wrd wOn (jfL _ (by decide)) (by decide)).cat hb
 show TN (ja1 (ja1 (ja1 eB wOn) (hdW h.1)) (bkP fu h.2)) _
 rw [jbp];exact h1
def dcTk : List Co := [jai wDurable, jai ⟨#[100]⟩, jad pComma, jai ⟨#[100, 100, 49]⟩, jad pSemi, jai wVolatile, jai ⟨#[118]⟩, jad pComma, jai ⟨#[119, 50]⟩, jad pSemi]
theorem jAj : TN pT2 dcTk := by
 have h1 := ((((jdC ⟨#[100]⟩ (jfL _ (by decide)) (by decide) (by decide)).mid jrp (jdC ⟨#[100, 100, 49]⟩ (jfL _ (by decide)) (by decide) (by decide))).wrd wDurable (jfL _ (by decide)) (by decide)).end)
 have h2 := ((((jdC ⟨#[118]⟩ (jfL _ (by decide)) (by decide) (by decide)).mid jrp (jdC ⟨#[119, 50]⟩ (jfL _ (by decide)) (by decide) (by decide))).wrd wVolatile (jfL _ (by decide)) (by decide)).end)
 have h3 := h1.cat h2
 have e : pT2 = ja1 (ja1 (ja1 wDurable (ja1 (ja1 ⟨#[100]⟩ (bs (jad pComma).text)) ⟨#[100, 100, 49]⟩)) pSemi) (ja1 (ja1 wVolatile (ja1 (ja1 ⟨#[118]⟩ (bs (jad pComma).text)) ⟨#[119, 50]⟩)) pSemi) := by decide
 rw [e];exact h3
def jmc (u : Ut) : List Co := dcTk ++ (u.on.map (jdt false)).flatten
theorem jyR (m : List (Int × Nt)) (b : ByteArray) (t : List Co) (h : TN b t) (hm : ∀ x ∈ m, TN (hdN fu x) (jdt fu x)) : TN (jpp fu b m) (t ++ (m.map (jdt fu)).flatten) := by
 induction m generalizing b t with
 | nil => rw [List.map_nil, List.flatten_nil, List.append_nil]; exact h
 | cons f m ih =>
  have q3 := ih (ja1 b (hdN fu f)) (t ++ jdt fu f) (h.cat (hm f List.mem_cons_self)) fun g hg => hm g (List.mem_cons_of_mem _ hg)
  rw [List.map_cons, List.flatten_cons, <- List.append_assoc];exact q3
theorem GU.hd {u : Ut} (h : GU u) (x : Int × Nt) (hx : x ∈ u.on) : TN (hdN fu x) (jdt fu x) := by
 obtain ⟨h1, h2, h3, h4, h5⟩ := h
 exact jAQ x (h3 x hx).2.1 (jAz (h3 x hx).2.2)
theorem ju4 {u : Ut} (h : GU u) : TN (prF u) (jmc u) := by
 have h6 := jyR u.on pT2 dcTk jAj fun x hx => h.hd (fu := false) x hx
 unfold prF;rw [h.1, h.2.1];exact h6
def jzR : List Co := [jai wVolatile, jai ⟨#[118]⟩, jad pComma, jai ⟨#[119, 50]⟩, jad pSemi, jai wDurable, jai ⟨#[100]⟩, jad pComma, jai ⟨#[100, 100, 49]⟩, jad pSemi]
def jB3 (u : Ut) : List Co := jzR ++ (u.on.reverse.map (jdt true)).flatten
end
def Beg (q : List Co) (ts r : List Tk) : Prop := ∃ m, ts = m ++ r /\ m.map jmz = q
theorem Beg.nil {ts r : List Tk} (h : Beg [] ts r) : ts = r := by
 obtain ⟨m, rfl, h⟩ := h
 rw [List.map_eq_nil_iff] at h;subst h; rfl
theorem Beg.cons {c : Co} {q : List Co} {ts r : List Tk} (h : Beg (c :: q) ts r) : jmz (hd ts) = c /\ Beg q ts.tail r /\ ts ≠ [] := by
 obtain ⟨m, rfl, h⟩ := h
 cases m with
 | nil => cases h
 | cons t m =>
  rw [List.map_cons, List.cons.injEq] at h;exact ⟨h.1, ⟨m, rfl, h.2⟩, by simp⟩
theorem Beg.app {p q : List Co} {ts r : List Tk} (h : Beg (p ++ q) ts r) : ∃ s, Beg p ts s /\ Beg q s r := by
 obtain ⟨m, rfl, h⟩ := h
 rw [List.map_eq_append_iff] at h
 obtain ⟨a, b, rfl, h1, h2⟩ := h
 exact ⟨b ++ r, ⟨a, List.append_assoc _ _ _, h1⟩, ⟨b, rfl, h2⟩⟩
theorem Beg.len {q : List Co} {ts r : List Tk} (h : Beg q ts r) : ts.length = q.length + r.length := by
 obtain ⟨m, rfl, h⟩ := h
 rw [<- h]; simp
theorem jhU {ts : List Tk} {c : Co} (h : jmz (hd ts) = c) : (hd ts).text = bs c.text := by
 subst h;exact jge (by rw [jb3]; rfl)
theorem jcA {ts : List Tk} {c : Co} (h : jmz (hd ts) = c) : (hd ts).kind = c.kind /\ (hd ts).n = c.n := by
 subst h; exact ⟨rfl, rfl⟩
theorem jno {ts : List Tk} {c : Co} (h : jmz (hd ts) = c) (s : ByteArray) : isP s ts = (decide (bs c.text = s) && (decide (c.kind = 1) || decide (c.kind = 3))) := by
 unfold isP;rw [jhU h, (jcA h).1]
theorem jvl {ts : List Tk} {c : Co} (h : jmz (hd ts) = c) : jeS ts = (decide (c.kind = 1) && !(keyL ++ builtL).any fun s => decide (bs c.text = s)) := by
 unfold jeS;rw [jhU h, (jcA h).1]
theorem jvy {ts : List Tk} {c : Co} (h : jmz (hd ts) = c) : jx0 ts = (decide (c.kind = 1) && builtL.any fun s => decide (bs c.text = s)) := by
 unfold jx0;rw [jhU h, (jcA h).1]
def noS (l : List ByteArray) (r : List Tk) : Prop := jfI l r = false
def opE (low : Option Pa) : Nat -> List Tk -> Pn
 | 1 => jnl low
 | 2 => jcF (ntG low) [jep]
 | 3 => ntG low
 | 4 => ntG low
 | 5 => jp4 low
 | 6 => jcF (jfJ low) [jbH, jaM]
 | 7 => jfJ low
 | _ => jce low
def StE : Nat -> List Tk -> Prop
 | 1, r => noS [jbH, jaM] r /\ noS [jcJ, pMinus] r /\ noS cmpL r /\ noS [jep] r /\ noS [pOr] r
 | 2, r => noS [jbH, jaM] r /\ noS [jcJ, pMinus] r /\ noS cmpL r /\ noS [jep] r
 | 3, r => noS [jbH, jaM] r /\ noS [jcJ, pMinus] r /\ noS cmpL r
 | 4, r => noS [jbH, jaM] r /\ noS [jcJ, pMinus] r /\ noS cmpL r
 | 5, r => noS [jbH, jaM] r /\ noS [jcJ, pMinus] r
 | 6, r => noS [jbH, jaM] r
 | _, _ => True
theorem jgR {op : List Tk -> Pn} {l : List ByteArray} {ts r : List Tk} {f : Nt} (h : op ts = .ok f r) (hs : noS l r) : jcF op l ts = .ok f r := by
 unfold jcF;rw [h]
 show jc8 op l r.length f r = _
 cases hl : r.length with
 | zero => rfl
 | succ n =>
  unfold jc8;rw [show jfI l r = false from hs];rfl
def PE (low : Option Pa) (lv : Nat) (b : List Co) (f : Nt) : Prop := ∀ ts r, Beg b ts r -> StE lv r -> opE low lv ts = .ok f r
theorem jqX {low : Option Pa} {b : List Co} {f : Nt} (h : PE low 2 b f) : PE low 1 b f := fun ts r hb hs => jgR (h ts r hb ⟨hs.1, hs.2.1, hs.2.2.1, hs.2.2.2.1⟩) hs.2.2.2.2
theorem jtt {low : Option Pa} {b : List Co} {f : Nt} (h : PE low 3 b f) : PE low 2 b f := fun ts r hb hs => jgR (h ts r hb ⟨hs.1, hs.2.1, hs.2.2.1⟩) hs.2.2.2
theorem jvt {low : Option Pa} {b : List Co} {f : Nt} (h : PE low 6 b f) : PE low 5 b f := fun ts r hb hs => jgR (h ts r hb hs.1) hs.2
theorem jxc {low : Option Pa} {b : List Co} {f : Nt} (h : PE low 7 b f) : PE low 6 b f := fun ts r hb hs => jgR (h ts r hb trivial) hs
def jgl (s : ByteArray) : List Co -> Prop
 | [] => False
 | c :: _ => bs c.text ≠ s
theorem jn9 {s : ByteArray} {b : List Co} {ts r : List Tk} (h : jgl s b) (hb : Beg b ts r) : isP s ts = false := by
 cases b with
 | nil => exact h.elim
 | cons c b =>
  rw [jno hb.cons.1, decide_eq_false (show ¬ bs c.text = s from h)];rfl
theorem jyw {low : Option Pa} {b : List Co} {f : Nt} (h : PE low 5 b f) (hn : jgl pNot b) : PE low 4 b f := fun ts r hb hs => by
 have h1 : jp4 low ts = .ok f r := h ts r hb ⟨hs.1, hs.2.1⟩
 show ntG low ts = _
 unfold ntG;rw [if_neg (by rw [jn9 hn hb]; decide), h1]
 show (if jfI cmpL r = true then _ else Pn.ok f r) = _
 rw [if_neg (by rw [show jfI cmpL r = false from hs.2.2]; decide)]
theorem jvZ {low : Option Pa} {b : List Co} {f : Nt} (h : PE low 4 b f) : PE low 3 b f := fun ts r hb hs => h ts r hb hs
theorem jzM {low : Option Pa} {b : List Co} {f : Nt} (h : PE low 8 b f) (hn : jgl pMinus b) : PE low 7 b f := fun ts r hb hs => by
 have h1 : jce low ts = .ok f r := h ts r hb trivial
 show jfJ low ts = _
 unfold jfJ;rw [if_neg (by rw [jn9 hn hb]; decide)];exact h1
theorem jhP {low : Option Pa} {b : List Co} {f : Nt} (h : PE low 8 b f) (h1 : jgl pNot b) (h2 : jgl pMinus b) : ∀ lv : Nat, 1 <= lv -> lv <= 8 -> PE low lv b f := fun lv a c => by
 have g7 := jzM h h2
 have g6 := jxc g7
 have g5 := jvt g6
 have g4 := jyw g5 h1
 have g3 := jvZ g4
 have g2 := jtt g3
 have g1 := jqX g2
 rcases (by omega : lv = 1 ∨ lv = 2 ∨ lv = 3 ∨ lv = 4 ∨ lv = 5 ∨ lv = 6 ∨ lv = 7 ∨ lv = 8) with rfl | rfl | rfl | rfl | rfl | rfl | rfl | rfl <;> assumption
theorem jz6 (low : Option Pa) (n : Nat) : PE low 8 [jg8 n] (.mk 12 n eB []) := fun ts r hb hs => by
 obtain ⟨hc, hr, _⟩ := hb.cons
 have hr := hr.nil
 have hk := (jcA hc).1
 have hn := (jcA hc).2
 have p : ∀ s, isP s ts = false := fun s => by
  rw [jno hc]
  show (_ && (decide ((2 : Int) = 1) || decide ((2 : Int) = 3))) = false
  rw [Bool.and_eq_false_iff];exact .inr (by decide)
 show jce low ts = _
 unfold jce;rw [if_neg (by rw [p]; decide), if_neg (by rw [p]; decide), if_pos (show (hd ts).kind = 2 from hk), show (hd ts).n = n from hn, hr]
theorem jav {s : ByteArray} {ts r : List Tk} {b : List Co} (hb : Beg (jai s :: b) ts r) : (∀ x, isP x ts = decide (s = x)) /\ jeS ts = (!(keyL ++ builtL).any fun x => decide (s = x)) /\ jx0 ts = (builtL.any fun x => decide (s = x)) /\ (hd ts).text = s /\ (hd ts).kind = 1 /\ Beg b ts.tail r := by
 obtain ⟨hc, hr, _⟩ := hb.cons
 have e : bs (jai s).text = s := jb2 s
 refine ⟨fun x => ?_, ?_, ?_, ?_, (jcA hc).1, hr⟩
 ·rw [jno hc, e, show (decide ((jai s).kind = 1) || decide ((jai s).kind = 3)) = true from rfl, Bool.and_true]
 ·rw [jvl hc, e, show decide ((jai s).kind = 1) = true from rfl, Bool.true_and]
 ·rw [jvy hc, e, show decide ((jai s).kind = 1) = true from rfl, Bool.true_and]
 ·rw [jhU hc, e]
theorem jcM {s : ByteArray} {ts r : List Tk} {b : List Co} (hb : Beg (jad s :: b) ts r) : (∀ x, isP x ts = decide (s = x)) /\ (hd ts).text = s /\ (hd ts).kind = 3 /\ Beg b ts.tail r := by
 obtain ⟨hc, hr, _⟩ := hb.cons
 have e : bs (jad s).text = s := jb2 s
 refine ⟨fun x => ?_, ?_, (jcA hc).1, hr⟩
 ·rw [jno hc, e, show (decide ((jad s).kind = 1) || decide ((jad s).kind = 3)) = true from rfl, Bool.and_true]
 ·rw [jhU hc, e]
theorem jrr : ∀ s ∈ varL, decide (s = pLp) = false /\ decide (s = wDraw) = false /\ decide (s = jhf) = false /\ decide (s = je1) = false /\ ((keyL ++ builtL).any fun x => decide (s = x)) = false := by decide
theorem jrI : ∀ s ∈ builtL, decide (s = pLp) = false /\ decide (s = wDraw) = false /\ decide (s = jhf) = false /\ decide (s = je1) = false /\ ((keyL ++ builtL).any fun x => decide (s = x)) = true /\ (builtL.any fun x => decide (s = x)) = true := by decide
theorem jyW (low : Option Pa) (s : ByteArray) (h : s ∈ varL) : PE low 8 [jai s] (.mk 14 0 s []) := fun ts r hb hs => by
 obtain ⟨p, q, _, t, k, hr⟩ := jav hb
 have hr := hr.nil
 obtain ⟨a1, a2, a3, a4, a5⟩ := jrr s h
 show jce low ts = _
 unfold jce;rw [p, p, p, p, a1, a2, a3, a4, q, a5, k, t, hr];rfl
theorem jxq (low : Option Pa) (s : ByteArray) (h : s ∈ builtL) : PE low 8 [jai s] (.mk 15 0 s []) := fun ts r hb hs => by
 obtain ⟨p, q, u, t, k, hr⟩ := jav hb
 have hr := hr.nil
 obtain ⟨a1, a2, a3, a4, a5, a6⟩ := jrI s h
 show jce low ts = _
 unfold jce;rw [p, p, p, p, a1, a2, a3, a4, q, a5, k, u, a6, t, hr];rfl
theorem jb0 {s : ByteArray} {ts r : List Tk} {b : List Co} (hb : Beg (jad s :: b) ts r) (l : List ByteArray) (h : (l.any fun x => decide (s = x)) = false) : noS l ts := by
 obtain ⟨p, _⟩ := jcM hb
 unfold noS jfI;rw [show (fun x => isP x ts) = fun x => decide (s = x) from funext p];exact h
theorem jqL (p : Pa) (low : Option Pa) (hp : p.ex = jnl low) (b : List Co) (f : Nt) (h : PE low 1 b f) : ∀ ts r, Beg (jad pLp :: b ++ [jad pRp]) ts r -> jfQ (some p) ts = .ok f r := fun ts r hb => by
 have hb : Beg (jad pLp :: (b ++ [jad pRp])) ts r := hb
 obtain ⟨q, _, _, hr⟩ := jcM hb
 obtain ⟨u, h1, h2⟩ := hr.app
 have h3 : jnl low ts.tail = .ok f u := h ts.tail u h1 ⟨jb0 h2 _ (by decide), jb0 h2 _ (by decide), jb0 h2 _ (by decide), jb0 h2 _ (by decide), jb0 h2 _ (by decide)⟩
 obtain ⟨q2, _, _, hr2⟩ := jcM h2
 have hr2 := hr2.nil
 unfold jfQ;rw [q, if_pos (by decide)]
 show (p.ex ts.tail).andThen _ = _
 rw [hp, h3]
 show xpt pRp u _ = _
 unfold xpt;rw [q2, if_pos (by decide), hr2]
theorem jyP (p : Pa) (low : Option Pa) (hp : p.ex = jnl low) (b : List Co) (f : Nt) (h : PE low 1 b f) : PE (some p) 8 (jad pLp :: b ++ [jad pRp]) f := fun ts r hb hs => by
 have h1 := jqL p low hp b f h ts r hb
 obtain ⟨q, _⟩ := jcM (b := b ++ [jad pRp]) hb
 show jce (some p) ts = _
 unfold jce;rw [q, if_pos (by decide)];exact h1
theorem jyr (p : Pa) (low : Option Pa) (hp : p.ex = jnl low) (b : List Co) (f : Nt) (h : PE low 1 b f) : PE (some p) 8 (jai wDraw :: jad pLp :: b ++ [jad pRp]) (.mk 16 0 eB [f]) := fun ts r hb hs => by
 obtain ⟨q, _, _, _, k, hr⟩ := jav (b := jad pLp :: b ++ [jad pRp]) hb
 have h1 := jqL p low hp b f h ts.tail r hr
 show jce (some p) ts = _
 unfold jce;rw [q, q, if_neg (by decide), if_pos (by decide), h1];rfl
theorem jvX (low : Option Pa) (n : Nat) (hn : n < 2) : PE low 8 [jai (tfB n)] (.mk 13 n eB []) := fun ts r hb hs => by
 rcases (by omega : n = 0 ∨ n = 1) with rfl | rfl
 ·have hb : Beg [jai je1] ts r := hb
  obtain ⟨p, _, _, t, k, hr⟩ := jav hb
  have hr := hr.nil
  show jce low ts = _
  unfold jce;rw [p, p, p, p, if_neg (by decide), if_neg (by decide), if_neg (by rw [k]; decide), if_neg (by decide), if_pos (by decide), hr];rfl
 ·have hb : Beg [jai jhf] ts r := hb
  obtain ⟨p, _, _, t, k, hr⟩ := jav hb
  have hr := hr.nil
  show jce low ts = _
  unfold jce;rw [p, p, p, if_neg (by decide), if_neg (by decide), if_neg (by rw [k]; decide), if_pos (by decide), hr];rfl
theorem jxM (p : Pa) (low : Option Pa) (hp : p.un = jfJ low) (b : List Co) (f : Nt) (h : PE low 7 b f) : PE (some p) 7 (jad pMinus :: b) (.mk 17 0 pMinus [f]) := fun ts r hb hs => by
 obtain ⟨q, _, _, hr⟩ := jcM hb
 have h1 : jfJ low ts.tail = .ok f r := h ts.tail r hr trivial
 show jfJ (some p) ts = _
 unfold jfJ jpH;rw [q, if_pos (by decide)]
 show (p.un ts.tail).andThen _ = _
 rw [hp, h1];rfl
theorem jyS (p : Pa) (low : Option Pa) (hp : p.no = ntG low) (b : List Co) (f : Nt) (h : PE low 3 b f) : PE (some p) 3 (jad pNot :: b) (.mk 17 0 pNot [f]) := fun ts r hb hs => by
 obtain ⟨q, _, _, hr⟩ := jcM hb
 have h1 : ntG low ts.tail = .ok f r := h ts.tail r hr hs
 show ntG (some p) ts = _
 unfold ntG jpH;rw [q, if_pos (by decide)]
 show (p.no ts.tail).andThen _ = _
 rw [hp, h1];rfl
def CH (op : List Tk -> Pn) (signs : List ByteArray) (stop : List Tk -> Prop) (b : List Co) (f : Nt) : Prop := ∀ ts r, Beg b ts r -> stop r -> ∃ n, r.length <= n /\ jcF op signs ts = jc8 op signs n f r
theorem jxp {op : List Tk -> Pn} {signs : List ByteArray} {stop : List Tk -> Prop} {b : List Co} {f : Nt} (h : ∀ ts r, Beg b ts r -> stop r -> op ts = .ok f r) : CH op signs stop b f := fun ts r hb hs => ⟨r.length, Nat.le_refl _, by unfold jcF; rw [h ts r hb hs]; rfl⟩
theorem jk1 {op : List Tk -> Pn} {signs : List ByteArray} {stop : List Tk -> Prop} {b b2 : List Co} {f g : Nt} (o : ByteArray) (hf : CH op signs stop b f) (ho : (signs.any fun x => decide (o = x)) = true) (hst : ∀ ts r, Beg (jad o :: b2) ts r -> stop ts) (hg : ∀ ts r, Beg b2 ts r -> stop r -> op ts = .ok g r) : CH op signs stop (b ++ jad o :: b2) (.mk 18 0 o [f, g]) := fun ts r hb hs => by
 obtain ⟨u, h1, h2⟩ := hb.app
 obtain ⟨n, hn, e⟩ := hf ts u h1 (hst u r h2)
 obtain ⟨q, t, _, hr⟩ := jcM h2
 have hl := h2.len
 have hl2 := hr.len
 have ha : jfI signs u = true := by
  unfold jfI;rw [show (fun x => isP x u) = fun x => decide (o = x) from funext q];exact ho
 obtain ⟨m, rfl⟩ : ∃ m, n = m + 1 := ⟨n - 1, by simp at hl; omega⟩
 refine ⟨m, by simp at hl; omega, ?_⟩;rw [e, jc8, if_pos ha, hg _ r hr hs, t];rfl
theorem joQ {op : List Tk -> Pn} {signs : List ByteArray} {stop : List Tk -> Prop} {b : List Co} {f : Nt} (h : CH op signs stop b f) : ∀ ts r, Beg b ts r -> stop r -> noS signs r -> jcF op signs ts = .ok f r := fun ts r hb hs hn => by
 obtain ⟨n, _, e⟩ := h ts r hb hs
 rw [e]
 cases n with
 | zero => rfl
 | succ n => rw [jc8, if_neg (by rw [show jfI signs r = false from hn]; decide)]
section
def jaw : Nat -> Option Pa
 | 0 => none
 | d + 1 => some (pa d)
theorem jfr : ∀ d, pa d = paG (jaw d)
 | 0 => rfl
 | _ + 1 => rfl
def CE (low : Option Pa) (lv : Nat) (signs : List ByteArray) (b : List Co) (f : Nt) : Prop := CH (opE low (lv + 1)) signs (StE (lv + 1)) b f
structure XI (low : Option Pa) (t : Int -> List Co) (f : Nt) : Prop where
 pe : ∀ lv : Nat, 1 <= lv -> lv <= 8 -> PE low lv (t lv) f
 c6 : CE low 6 [jbH, jaM] (t 6) f
 c5 : CE low 5 [jcJ, pMinus] (t 5) f
 nn : ∀ lv : Int, jgl pNot (t lv)
structure XB (low : Option Pa) (t : Int -> List Co) (f : Nt) : Prop where
 pe : ∀ lv : Nat, 1 <= lv -> lv <= 8 -> PE low lv (t lv) f
 c2 : CE low 2 [jep] (t 2) f
 c1 : CE low 1 [pOr] (t 1) f
def mulL : List ByteArray := [jbH, jaM]
def addL : List ByteArray := [jcJ, pMinus]
theorem jya {low : Option Pa} {b : List Co} {f : Nt} (h : CE low 6 [jbH, jaM] b f) : PE low 6 b f := fun ts r hb hs => joQ h ts r hb trivial hs
theorem jAM {low : Option Pa} {b : List Co} {f : Nt} (h : CE low 5 [jcJ, pMinus] b f) : PE low 5 b f := fun ts r hb hs => joQ h ts r hb hs.1 hs.2
theorem jAI {low : Option Pa} {b : List Co} {f : Nt} (h : CE low 2 [jep] b f) : PE low 2 b f := fun ts r hb hs => joQ h ts r hb ⟨hs.1, hs.2.1, hs.2.2.1⟩ hs.2.2.2
theorem jzO {low : Option Pa} {b : List Co} {f : Nt} (h : CE low 1 [pOr] b f) : PE low 1 b f := fun ts r hb hs => joQ h ts r hb ⟨hs.1, hs.2.1, hs.2.2.1, hs.2.2.2.1⟩ hs.2.2.2.2
theorem jdE {low : Option Pa} {lv : Nat} {signs : List ByteArray} {b : List Co} {f : Nt} (h : PE low (lv + 1) b f) : CE low lv signs b f := jxp h
theorem jmm {low : Option Pa} {b : List Co} {f : Nt} (hn : jgl pNot b) (h : PE low 5 b f) : ∀ lv : Nat, 1 <= lv -> lv <= 5 -> PE low lv b f := fun lv a c => by
 have g4 := jyw h hn
 have g3 := jvZ g4
 have g2 := jtt g3
 have g1 := jqX g2
 rcases (by omega : lv = 1 ∨ lv = 2 ∨ lv = 3 ∨ lv = 4 ∨ lv = 5) with rfl | rfl | rfl | rfl | rfl <;> assumption
theorem jbC (p lv : Int) (fu : Bool) (l : List Co) (hl : lv <= 8) : (jd4 p lv fu l = l /\ lv <= p) ∨ (jd4 p lv fu l = jad pLp :: l ++ [jad pRp] /\ p < 8) := by
 unfold jd4
 by_cases h : p < lv
 ·rw [if_pos h]; exact .inr ⟨rfl, by omega⟩
 ·rw [if_neg h]
  cases fu with
  | false => exact .inl ⟨rfl, by omega⟩
  | true =>
   rw [if_pos rfl]
   by_cases h8 : p < 8
   ·rw [if_pos h8]; exact .inr ⟨rfl, h8⟩
   ·rw [if_neg h8]; exact .inl ⟨rfl, by omega⟩
theorem jon {n : Nat} {b : List Co} {f : Nt} (h : PE (jaw n) 1 b f) : ∀ lv : Nat, 1 <= lv -> lv <= 8 -> PE (jaw (n + 1)) lv (jad pLp :: b ++ [jad pRp]) f := by
 have h1 := jyP (pa n) (jaw n) (by rw [jfr]; rfl) b f h
 exact jhP h1 (by show bs (jad pLp).text ≠ pNot; decide) (by show bs (jad pLp).text ≠ pMinus; decide)
theorem XI.leaf {low : Option Pa} {t : Int -> List Co} {b : List Co} {f : Nt} (ht : ∀ lv, lv <= 8 -> t lv = b) (h : PE low 8 b f) (h1 : jgl pNot b) (h2 : jgl pMinus b) (hnn : ∀ lv, jgl pNot (t lv)) : XI low t f where
 pe := fun lv a c => by rw [ht lv (by omega)]; exact jhP h h1 h2 lv a c
 c6 := by rw [ht 6 (by omega)]; exact jdE (jhP h h1 h2 7 (by omega) (by omega))
 c5 := by rw [ht 5 (by omega)]; exact jdE (jhP h h1 h2 6 (by omega) (by omega))
 nn := hnn
theorem XB.leaf {low : Option Pa} {t : Int -> List Co} {b : List Co} {f : Nt} (ht : ∀ lv, lv <= 8 -> t lv = b) (h : PE low 8 b f) (h1 : jgl pNot b) (h2 : jgl pMinus b) : XB low t f where
 pe := fun lv a c => by rw [ht lv (by omega)]; exact jhP h h1 h2 lv a c
 c2 := by rw [ht 2 (by omega)]; exact jdE (jhP h h1 h2 3 (by omega) (by omega))
 c1 := by rw [ht 1 (by omega)]; exact jdE (jhP h h1 h2 2 (by omega) (by omega))
theorem jfn {p lv : Int} {fu : Bool} {b : List Co} (h : jgl pNot b) : jgl pNot (jd4 p lv fu b) := by
 have h1 : jgl pNot (jad pLp :: b ++ [jad pRp]) := by show bs (jad pLp).text ≠ pNot; decide
 unfold jd4
 split
 ·exact h1
 ·split
  ·split
   ·exact h1
   ·exact h
  ·exact h
theorem jny {s : ByteArray} {b c : List Co} (h : jgl s b) : jgl s (b ++ c) := by
 cases b with
 | nil => exact h.elim
 | cons x b => exact h
theorem XI.node {n : Nat} {p : Nat} {fu : Bool} {b : List Co} {f : Nt} (hp : 5 <= p /\ p <= 8) (hlow : PE (jaw n) 1 b f) (hb : ∀ lv : Nat, 1 <= lv -> lv <= p -> PE (jaw (n + 1)) lv b f) (h6 : p = 6 -> CE (jaw (n + 1)) 6 [jbH, jaM] b f) (h5 : p = 5 -> CE (jaw (n + 1)) 5 [jcJ, pMinus] b f) (hn : jgl pNot b) : XI (jaw (n + 1)) (fun lv => jd4 p lv fu b) f := by
 have hq := jon hlow
 have hpe : ∀ lv : Nat, 1 <= lv -> lv <= 8 -> PE (jaw (n + 1)) lv (jd4 p lv fu b) f := fun lv a c => by
  rcases jbC p lv fu b (by omega) with ⟨e, h⟩ | ⟨e, h⟩
  ·rw [e]; exact hb lv a (by omega)
  ·rw [e]; exact hq lv a c
 refine ⟨hpe, ?_, ?_, fun lv => jfn hn⟩
 ·show CE _ 6 _ (jd4 p 6 fu b) f
  rcases jbC p 6 fu b (by omega) with ⟨e, h⟩ | ⟨e, h⟩
  ·rw [e]
   by_cases h0 : p = 6
   ·exact h6 h0
   ·exact jdE (hb 7 (by omega) (by omega))
  ·rw [e]; exact jdE (hq 7 (by omega) (by omega))
 ·show CE _ 5 _ (jd4 p 5 fu b) f
  rcases jbC p 5 fu b (by omega) with ⟨e, h⟩ | ⟨e, h⟩
  ·rw [e]
   by_cases h0 : p = 5
   ·exact h5 h0
   ·exact jdE (hb 6 (by omega) (by omega))
  ·rw [e]; exact jdE (hq 6 (by omega) (by omega))
theorem XB.node {n : Nat} {p : Nat} {fu : Bool} {b : List Co} {f : Nt} (hp : 1 <= p /\ p <= 4) (hlow : PE (jaw n) 1 b f) (hb : ∀ lv : Nat, 1 <= lv -> lv <= p -> PE (jaw (n + 1)) lv b f) (h2 : p = 2 -> CE (jaw (n + 1)) 2 [jep] b f) (h1 : p = 1 -> CE (jaw (n + 1)) 1 [pOr] b f) : XB (jaw (n + 1)) (fun lv => jd4 p lv fu b) f := by
 have hq := jon hlow
 have hpe : ∀ lv : Nat, 1 <= lv -> lv <= 8 -> PE (jaw (n + 1)) lv (jd4 p lv fu b) f := fun lv a c => by
  rcases jbC p lv fu b (by omega) with ⟨e, h⟩ | ⟨e, h⟩
  ·rw [e]; exact hb lv a (by omega)
  ·rw [e]; exact hq lv a c
 refine ⟨hpe, ?_, ?_⟩
 ·show CE _ 2 _ (jd4 p 2 fu b) f
  rcases jbC p 2 fu b (by omega) with ⟨e, h⟩ | ⟨e, h⟩
  ·rw [e]
   by_cases h0 : p = 2
   ·exact h2 h0
   ·exact jdE (hb 3 (by omega) (by omega))
  ·rw [e]; exact jdE (hq 3 (by omega) (by omega))
 ·show CE _ 1 _ (jd4 p 1 fu b) f
  rcases jbC p 1 fu b (by omega) with ⟨e, h⟩ | ⟨e, h⟩
  ·rw [e]
   by_cases h0 : p = 1
   ·exact h1 h0
   ·exact jdE (hb 2 (by omega) (by omega))
  ·rw [e]; exact jdE (hq 2 (by omega) (by omega))
theorem jex {lv : Int} {fu : Bool} {b : List Co} (h : lv <= 8) : jd4 8 lv fu b = b := by
 rcases jbC 8 lv fu b h with ⟨e, _⟩ | ⟨_, h⟩
 ·exact e
 ·omega
variable {fu : Bool}
theorem leaf_no {n : Nat} : jgl pNot [jg8 n] /\ jgl pMinus [jg8 n] := by
 have h : ∀ s : ByteArray, jaq s ≠ jaq (bs (jb1 n)) -> bs (jb1 n) ≠ s := fun s h e => h (by rw [e])
 have hf := jgf n
 constructor
 ·refine h pNot ?_;intro e; rw [<- e] at hf; exact absurd hf (by decide)
 ·refine h pMinus ?_;intro e; rw [<- e] at hf; exact absurd hf (by decide)
theorem jgq {s : ByteArray} (h : s ≠ pNot /\ s ≠ pMinus) : jgl pNot [jai s] /\ jgl pMinus [jai s] := by
 have e : bs (jai s).text = s := jb2 s
 exact ⟨by show bs (jai s).text ≠ _; rw [e]; exact h.1, by show bs (jai s).text ≠ _; rw [e]; exact h.2⟩
theorem jyK (n m : Nat) : XI (jaw m) (tkN fu (.mk 12 n eB [])) (.mk 12 n eB []) :=
 XI.leaf (b := [jg8 n]) (fun lv h => jex h) (jz6 _ n) leaf_no.1 leaf_no.2 fun lv => jfn leaf_no.1
theorem juT (s : ByteArray) (m : Nat) (k : Int) (hk : k = 14 ∨ k = 15) (h : PE (jaw m) 8 [jai s] (.mk k 0 s [])) (hs : s ≠ pNot /\ s ≠ pMinus) : XI (jaw m) (tkN fu (.mk k 0 s [])) (.mk k 0 s []) := by
 rcases hk with rfl | rfl
 ·exact XI.leaf (b := [jai s]) (fun lv h => jex h) h (jgq hs).1 (jgq hs).2 fun lv => jfn (jgq hs).1
 ·exact XI.leaf (b := [jai s]) (fun lv h => jex h) h (jgq hs).1 (jgq hs).2 fun lv => jfn (jgq hs).1
theorem jxg : ∀ s ∈ varL, s ≠ pNot /\ s ≠ pMinus := by decide
theorem jsZ : ∀ s ∈ builtL, s ≠ pNot /\ s ≠ pMinus := by decide
theorem jmR {n : Nat} (h : 1 <= n) : jaw n = some (pa (n - 1)) := by
 obtain ⟨k, rfl⟩ : ∃ k, n = k + 1 := ⟨n - 1, by omega⟩
 rfl
theorem jwJ {d : Nat} {f : Nt} (h : EI d f) : ∀ n, 2 * d <= n -> XI (jaw n) (tkN fu f) f := by
 induction h with
 | lit d n h => intro m _; obtain ⟨k, rfl, _⟩ := jut n h; exact jyK k m
 | var d s h => intro m _; exact juT s m 14 (.inl rfl) (jyW _ s h) (jxg s h)
 | nam d s h => intro m _; exact juT s m 15 (.inr rfl) (jxq _ s h) (jsZ s h)
 | drw d f h ih =>
  intro n hn
  have h1 := (ih (n - 1) (by omega)).pe 1 (by omega) (by omega)
  have h2 := jyr (pa (n - 1)) (jaw (n - 1)) (by rw [jfr]; rfl) (tkN fu f 1) f h1
  rw [<- jmR (by omega)] at h2
  have q1 : ∀ s, s = pNot ∨ s = pMinus -> jgl s (jai wDraw :: jad pLp :: tkN fu f 1 ++ [jad pRp]) := fun s hs => by
   show bs (jai wDraw).text ≠ s
   rcases hs with rfl | rfl <;> decide
  exact XI.leaf (fun lv h => jex h) h2 (q1 _ (.inl rfl)) (q1 _ (.inr rfl)) fun lv => jfn (q1 _ (.inl rfl))
 | neg d f h ih =>
  intro n hn
  have key : ∀ m, 2 * d + 1 <= m -> PE (jaw m) 7 (jad pMinus :: tkN fu f 7) (.mk 17 0 pMinus [f]) := fun m hm => by
   have h2 := jxM (pa (m - 1)) (jaw (m - 1)) (by rw [jfr]; rfl) (tkN fu f 7) f ((ih (m - 1) (by omega)).pe 7 (by omega) (by omega))
   rw [<- jmR (by omega)] at h2;exact h2
  have hno : jgl pNot (jad pMinus :: tkN fu f 7) := by show bs (jad pMinus).text ≠ pNot; decide
  have all : ∀ m, 2 * d + 1 <= m -> ∀ lv : Nat, 1 <= lv -> lv <= 7 -> PE (jaw m) lv (jad pMinus :: tkN fu f 7) (.mk 17 0 pMinus [f]) := fun m hm lv a c => by
   have g7 := key m hm
   have g6 := jxc g7
   by_cases h5 : lv <= 5
   ·exact jmm hno (jvt g6) lv a h5
   ·rcases (by omega : lv = 6 ∨ lv = 7) with rfl | rfl <;> assumption
  obtain ⟨m, rfl⟩ : ∃ m, n = m + 1 := ⟨n - 1, by omega⟩
  exact XI.node (p := 7) (by omega) (all m (by omega) 1 (by omega) (by omega)) (all (m + 1) (by omega)) (by omega) (by omega) hno
 | bin d s f g hs h1 h2 i1 i2 =>
  intro n hn
  obtain ⟨m, rfl⟩ : ∃ m, n = m + 1 := ⟨n - 1, by omega⟩
  have hop : (jab 18 s = 6 /\ (s = jbH ∨ s = jaM)) ∨ (jab 18 s = 5 /\ (s = jcJ ∨ s = pMinus)) := by
   unfold opL at hs;simp only [List.mem_cons, List.not_mem_nil, or_false] at hs
   rcases hs with rfl | rfl | rfl | rfl <;> decide
  rcases hop with ⟨hp, ho⟩ | ⟨hp, ho⟩
  ·have e : ∀ lv, tkN fu (.mk 18 0 s [f, g]) lv = jd4 6 lv fu (tkN fu f 6 ++ jad s :: tkN fu g 7) := fun lv => by
    show jd4 (jab 18 s) lv fu (tkN fu f (if jab 18 s = 4 then 5 else jab 18 s) ++ jad s :: tkN fu g (jab 18 s + 1)) = _
    rw [hp]; rfl
   have hno : jgl pNot (tkN fu f 6 ++ jad s :: tkN fu g 7) := jny ((i1 (2 * d) (Nat.le_refl _)).nn 6)
   have hc : ∀ m, 2 * d <= m -> CE (jaw m) 6 [jbH, jaM] (tkN fu f 6 ++ jad s :: tkN fu g 7) (.mk 18 0 s [f, g]) := fun m hm =>
    jk1 s (i1 m hm).c6 (by rcases ho with rfl | rfl <;> decide) (fun _ _ _ => trivial) ((i2 m hm).pe 7 (by omega) (by omega))
   have all : ∀ m, 2 * d <= m -> ∀ lv : Nat, 1 <= lv -> lv <= 6 -> PE (jaw m) lv (tkN fu f 6 ++ jad s :: tkN fu g 7) (.mk 18 0 s [f, g]) := fun m hm lv a c => by
    have g6 := jya (hc m hm)
    by_cases h5 : lv <= 5
    ·exact jmm hno (jvt g6) lv a h5
    ·rcases (by omega : lv = 6) with rfl; exact g6
   rw [show tkN fu (.mk 18 0 s [f, g]) = fun lv => jd4 6 lv fu (tkN fu f 6 ++ jad s :: tkN fu g 7) from funext e];exact XI.node (p := 6) (by omega) (all m (by omega) 1 (by omega) (by omega)) (all (m + 1) (by omega)) (fun _ => hc (m + 1) (by omega)) (by omega) hno
  ·have e : ∀ lv, tkN fu (.mk 18 0 s [f, g]) lv = jd4 5 lv fu (tkN fu f 5 ++ jad s :: tkN fu g 6) := fun lv => by
    show jd4 (jab 18 s) lv fu (tkN fu f (if jab 18 s = 4 then 5 else jab 18 s) ++ jad s :: tkN fu g (jab 18 s + 1)) = _
    rw [hp]; rfl
   have hno : jgl pNot (tkN fu f 5 ++ jad s :: tkN fu g 6) := jny ((i1 (2 * d) (Nat.le_refl _)).nn 5)
   have hc : ∀ m, 2 * d <= m -> CE (jaw m) 5 [jcJ, pMinus] (tkN fu f 5 ++ jad s :: tkN fu g 6) (.mk 18 0 s [f, g]) := fun m hm =>
    jk1 s (i1 m hm).c5 (by rcases ho with rfl | rfl <;> decide) (fun ts r hb => jb0 hb _ (by rcases ho with rfl | rfl <;> decide)) ((i2 m hm).pe 6 (by omega) (by omega))
   have all : ∀ m, 2 * d <= m -> ∀ lv : Nat, 1 <= lv -> lv <= 5 -> PE (jaw m) lv (tkN fu f 5 ++ jad s :: tkN fu g 6) (.mk 18 0 s [f, g]) := fun m hm lv a c => jmm hno (jAM (hc m hm)) lv a c
   rw [show tkN fu (.mk 18 0 s [f, g]) = fun lv => jd4 5 lv fu (tkN fu f 5 ++ jad s :: tkN fu g 6) from funext e];exact XI.node (p := 5) (by omega) (all m (by omega) 1 (by omega) (by omega)) (all (m + 1) (by omega)) (by omega) (fun _ => hc (m + 1) (by omega)) hno
theorem jAD {d : Nat} {f : Nt} (h : EB d f) : ∀ n, 2 * d + 1 <= n -> XB (jaw n) (tkN fu f) f := by
 induction h with
 | lit d n h =>
  intro m _
  have hs : tfB n ≠ pNot /\ tfB n ≠ pMinus := by
   rcases (by omega : n = 0 ∨ n = 1) with rfl | rfl <;> decide
  exact XB.leaf (b := [jai (tfB n)]) (fun lv h => jex h) (jvX _ n h) (jgq hs).1 (jgq hs).2
 | nt d f h ih =>
  intro n hn
  have key : ∀ m, 2 * d + 2 <= m -> PE (jaw m) 3 (jad pNot :: tkN fu f 3) (.mk 17 0 pNot [f]) := fun m hm => by
   have h2 := jyS (pa (m - 1)) (jaw (m - 1)) (by rw [jfr]; rfl) (tkN fu f 3) f ((ih (m - 1) (by omega)).pe 3 (by omega) (by omega))
   rw [<- jmR (by omega)] at h2;exact h2
  have all : ∀ m, 2 * d + 2 <= m -> ∀ lv : Nat, 1 <= lv -> lv <= 3 -> PE (jaw m) lv (jad pNot :: tkN fu f 3) (.mk 17 0 pNot [f]) := fun m hm lv a c => by
   have g3 := key m hm
   have g2 := jtt g3
   have g1 := jqX g2
   rcases (by omega : lv = 1 ∨ lv = 2 ∨ lv = 3) with rfl | rfl | rfl <;> assumption
  obtain ⟨m, rfl⟩ : ∃ m, n = m + 1 := ⟨n - 1, by omega⟩
  exact XB.node (p := 3) (by omega) (all m (by omega) 1 (by omega) (by omega)) (all (m + 1) (by omega)) (by omega) (by omega)
 | bin d s f g hs h1 h2 i1 i2 =>
  intro n hn
  obtain ⟨m, rfl⟩ : ∃ m, n = m + 1 := ⟨n - 1, by omega⟩
  have hop : s = jep ∨ s = pOr := by
   unfold bolL at hs
   simpa only [List.mem_cons, List.not_mem_nil, or_false] using hs
  rcases hop with rfl | rfl
  ·have e : ∀ lv, tkN fu (.mk 18 0 jep [f, g]) lv = jd4 2 lv fu (tkN fu f 2 ++ jad jep :: tkN fu g 3) := fun lv => rfl
   have hc : ∀ m, 2 * d + 1 <= m -> CE (jaw m) 2 [jep] (tkN fu f 2 ++ jad jep :: tkN fu g 3) (.mk 18 0 jep [f, g]) := fun m hm =>
    jk1 jep (i1 m hm).c2 (by decide) (fun ts r hb => ⟨jb0 hb _ (by decide), jb0 hb _ (by decide), jb0 hb _ (by decide)⟩) ((i2 m hm).pe 3 (by omega) (by omega))
   have all : ∀ m, 2 * d + 1 <= m -> ∀ lv : Nat, 1 <= lv -> lv <= 2 -> PE (jaw m) lv (tkN fu f 2 ++ jad jep :: tkN fu g 3) (.mk 18 0 jep [f, g]) := fun m hm lv a c => by
    have g2 := jAI (hc m hm)
    have g1 := jqX g2
    rcases (by omega : lv = 1 ∨ lv = 2) with rfl | rfl <;> assumption
   rw [show tkN fu (.mk 18 0 jep [f, g]) = fun lv => jd4 2 lv fu (tkN fu f 2 ++ jad jep :: tkN fu g 3) from funext e];exact XB.node (p := 2) (by omega) (all m (by omega) 1 (by omega) (by omega)) (all (m + 1) (by omega)) (fun _ => hc (m + 1) (by omega)) (by omega)
  ·have e : ∀ lv, tkN fu (.mk 18 0 pOr [f, g]) lv = jd4 1 lv fu (tkN fu f 1 ++ jad pOr :: tkN fu g 2) := fun lv => rfl
   have hc : ∀ m, 2 * d + 1 <= m -> CE (jaw m) 1 [pOr] (tkN fu f 1 ++ jad pOr :: tkN fu g 2) (.mk 18 0 pOr [f, g]) := fun m hm =>
    jk1 pOr (i1 m hm).c1 (by decide) (fun ts r hb => ⟨jb0 hb _ (by decide), jb0 hb _ (by decide), jb0 hb _ (by decide), jb0 hb _ (by decide)⟩) ((i2 m hm).pe 2 (by omega) (by omega))
   have all : ∀ m, 2 * d + 1 <= m -> ∀ lv : Nat, 1 <= lv -> lv <= 1 -> PE (jaw m) lv (tkN fu f 1 ++ jad pOr :: tkN fu g 2) (.mk 18 0 pOr [f, g]) := fun m hm lv a c => by
    obtain rfl : lv = 1 := by omega
    exact jzO (hc m hm)
   rw [show tkN fu (.mk 18 0 pOr [f, g]) = fun lv => jd4 1 lv fu (tkN fu f 1 ++ jad pOr :: tkN fu g 2) from funext e];exact XB.node (p := 1) (by omega) (all m (by omega) 1 (by omega) (by omega)) (all (m + 1) (by omega)) (by omega) (fun _ => hc (m + 1) (by omega))
 | cmp d s f g hs h1 h2 =>
  intro n hn
  obtain ⟨m, rfl⟩ : ∃ m, n = m + 1 := ⟨n - 1, by omega⟩
  have hp : jab 18 s = 4 /\ (cmpL.any fun x => decide (s = x)) = true /\ (mulL.any fun x => decide (s = x)) = false /\ (addL.any fun x => decide (s = x)) = false := by
   unfold cmpL at hs;simp only [List.mem_cons, List.not_mem_nil, or_false] at hs
   rcases hs with rfl | rfl | rfl | rfl | rfl | rfl <;> decide
  have e : ∀ lv, tkN fu (.mk 18 0 s [f, g]) lv = jd4 4 lv fu (tkN fu f 5 ++ jad s :: tkN fu g 5) := fun lv => by
   show jd4 (jab 18 s) lv fu (tkN fu f (if jab 18 s = 4 then 5 else jab 18 s) ++ jad s :: tkN fu g (jab 18 s + 1)) = _
   rw [hp.1]; rfl
  have key : ∀ m, 2 * d <= m -> PE (jaw m) 4 (tkN fu f 5 ++ jad s :: tkN fu g 5) (.mk 18 0 s [f, g]) := fun m hm ts r hb hs => by
   obtain ⟨u, q1, q2⟩ := hb.app
   have x1 := jwJ (fu := fu) h1 m (by omega)
   have x2 := jwJ (fu := fu) h2 m (by omega)
   have hno := jn9 (x1.nn 5) q1
   have y1 : jp4 (jaw m) ts = .ok f u := x1.pe 5 (by omega) (by omega) ts u q1 ⟨jb0 q2 _ hp.2.2.1, jb0 q2 _ hp.2.2.2⟩
   obtain ⟨p, t, _, hr⟩ := jcM q2
   have y2 : jp4 (jaw m) u.tail = .ok g r := x2.pe 5 (by omega) (by omega) u.tail r hr ⟨hs.1, hs.2.1⟩
   show ntG (jaw m) ts = _
   unfold ntG;rw [if_neg (by rw [hno]; decide), y1]
   show (if jfI cmpL u = true then _ else _) = _
   rw [if_pos (by unfold jfI; rw [show (fun x => isP x u) = fun x => decide (s = x) from funext p]; exact hp.2.1), y2, t];rfl
  have all : ∀ m, 2 * d <= m -> ∀ lv : Nat, 1 <= lv -> lv <= 4 -> PE (jaw m) lv (tkN fu f 5 ++ jad s :: tkN fu g 5) (.mk 18 0 s [f, g]) := fun m hm lv a c => by
   have g4 := key m hm
   have g3 := jvZ g4
   have g2 := jtt g3
   have g1 := jqX g2
   rcases (by omega : lv = 1 ∨ lv = 2 ∨ lv = 3 ∨ lv = 4) with rfl | rfl | rfl | rfl <;> assumption
  rw [show tkN fu (.mk 18 0 s [f, g]) = fun lv => jd4 4 lv fu (tkN fu f 5 ++ jad s :: tkN fu g 5) from funext e];exact XB.node (p := 4) (by omega) (all m (by omega) 1 (by omega) (by omega)) (all (m + 1) (by omega)) (by omega) (by omega)
end
section
theorem jmg (f : Nt) (r : List Tk) (k : Nt -> List Tk -> Pn) : (Pn.ok f r).andThen k = k f r := rfl
def stL (n : Nat) : List Tk -> Pn := stG (jnl (jaw n)) (jx6 (jaw n))
theorem jo8 (n : Nat) : jx6 (jaw (n + 1)) = bkF (stL n) := by
 show (pa n).bl = _
 rw [jfr]; rfl
theorem jAB (n : Nat) : (pa n).bl = bkF (stL n) := jo8 n
theorem jcY {low : Option Pa} {f : Nt} {t : List Co} (h : PE low 1 t f) {s : ByteArray} (hs : s = pSemi ∨ s = pComma ∨ s = pLb) {b : List Co} {ts r : List Tk} (hb : Beg (t ++ jad s :: b) ts r) : ∃ u, jnl low ts = .ok f u /\ Beg (jad s :: b) u r := by
 obtain ⟨u, h1, h2⟩ := hb.app
 refine ⟨u, h ts u h1 ?_, h2⟩
 rcases hs with rfl | rfl | rfl <;> exact ⟨jb0 h2 _ (by decide), jb0 h2 _ (by decide), jb0 h2 _ (by decide), jb0 h2 _ (by decide), jb0 h2 _ (by decide)⟩
theorem jgk {s : ByteArray} {b : List Co} {ts r : List Tk} (hb : Beg (jad s :: b) ts r) (k : List Tk -> Pn) : xpt s ts k = k ts.tail /\ Beg b ts.tail r := by
 obtain ⟨p, _, _, hr⟩ := jcM hb
 refine ⟨?_, hr⟩;unfold xpt;rw [p, if_pos (decide_eq_true rfl)]
theorem jx4 {n : Nat} {b : List Co} {ts r : List Tk} (hb : Beg (jg8 n :: b) ts r) (limit : Int) (hl : (n : Int) < limit) (k : Int -> List Tk -> Pn) : jgC limit ts k = k n ts.tail /\ Beg b ts.tail r := by
 obtain ⟨hc, hr, _⟩ := hb.cons
 have hk := (jcA hc).1
 have hn := (jcA hc).2
 refine ⟨?_, hr⟩;unfold jgC;rw [show (hd ts).kind = 2 from hk, show (hd ts).n = n from hn, if_neg (by decide), if_neg (by omega)]
variable {fu : Bool}
def PS (n : Nat) (t : List Co) (f : Nt) : Prop := ∀ ts r, Beg t ts r -> isP wElse r = false -> stL n ts = .ok f r
theorem PS.eq {n : Nat} {t t2 : List Co} {f : Nt} (h : PS n t f) (e : t2 = t) : PS n t2 f := by rw [e]; exact h
theorem jo3 (f : Nt) : lsT fu [f] = tkN fu f 1 ++ [jad pSemi] := by
 show (tkN fu f 1 ++ []) ++ [jad pSemi] = _
 rw [List.append_nil]
theorem jo1 (f g : Nt) : lsT fu [f, g] = tkN fu f 1 ++ jad pComma :: (tkN fu g 1 ++ [jad pSemi]) := by
 show (tkN fu f 1 ++ (jad pComma :: tkN fu g 1 ++ [])) ++ [jad pSemi] = _
 simp
theorem jvv {n d : Nat} {f : Nt} (h : EI d f) (hd : 2 * d <= n) : PE (jaw n) 1 (tkN fu f 1) f := (jwJ h n hd).pe 1 (by omega) (by omega)
theorem jAS {n d : Nat} {f : Nt} (h : EB d f) (hd : 2 * d + 1 <= n) : PE (jaw n) 1 (tkN fu f 1) f := (jAD h n hd).pe 1 (by omega) (by omega)
theorem jxI {n : Nat} {s : ByteArray} (hs : s ∈ varL) {f : Nt} (hf : PE (jaw n) 1 (tkN fu f 1) f) : PS n (tkS fu (.mk 1 0 s [f])) (.mk 1 0 s [f]) := by
 refine PS.eq (t := jai s :: jad pEq :: (tkN fu f 1 ++ [jad pSemi])) ?_ (by rw [<- jo3]; rfl);intro ts r hb he
 obtain ⟨p, q, _, t, k, h1⟩ := jav hb
 obtain ⟨e1, h2⟩ := jgk h1 fun r => (jnl (jaw n) r).andThen fun e r => xpt pSemi r fun r => .ok (.mk 1 0 (hd ts).text [e]) r
 obtain ⟨u, e2, h3⟩ := jcY hf (.inl rfl) h2
 obtain ⟨e3, h4⟩ := jgk h3 fun r => .ok (.mk 1 0 (hd ts).text [f]) r
 have h4 := h4.nil
 show stG _ _ ts = _
 unfold stG;rw [if_pos (by rw [q, (jrr s hs).2.2.2.2]; rfl), e1, e2];rw [jmg];rw [e3, h4, t]
theorem jzh {n m : Nat} (hm : m < 30) {f g h : Nt} (hf : PE (jaw n) 1 (tkN fu f 1) f) (hg : PE (jaw n) 1 (tkN fu g 1) g) (hh : PE (jaw n) 1 (tkN fu h 1) h) : PS n (tkS fu (.mk 4 m eB [f, g, h])) (.mk 4 m eB [f, g, h]) := by
 refine PS.eq (t := jai wSend :: (tkN fu f 1 ++ jad pComma :: jg8 m :: jad pComma :: (tkN fu g 1 ++ jad pComma :: (tkN fu h 1 ++ [jad pSemi])))) ?_ (by rw [<- jo1]; rfl);intro ts r hb he
 obtain ⟨p, q, _, t, k, h1⟩ := jav hb
 show stG _ _ ts = _
 unfold stG;rw [if_neg (by rw [q]; decide), if_neg (by rw [k]; decide), t]
 obtain ⟨u, e2, h2⟩ := jcY hf (.inr (.inl rfl)) h1
 rw [if_neg (by decide), if_neg (by decide), if_pos rfl, e2];rw [jmg]
 obtain ⟨_, h3⟩ := jgk h2 fun r => .ok f r
 rw [(jgk h2 _).1]
 obtain ⟨_, h4⟩ := jx4 h3 30 (by omega) fun _ r => .ok f r
 rw [(jx4 h3 30 (by omega) _).1]
 obtain ⟨_, h5⟩ := jgk h4 fun r => .ok f r
 rw [(jgk h4 _).1]
 obtain ⟨u2, e3, h6⟩ := jcY hg (.inr (.inl rfl)) h5
 rw [e3];rw [jmg]
 obtain ⟨_, h7⟩ := jgk h6 fun r => .ok f r
 rw [(jgk h6 _).1]
 obtain ⟨u3, e4, h8⟩ := jcY hh (.inl rfl) h7
 rw [e4];rw [jmg]
 obtain ⟨_, h9⟩ := jgk h8 fun r => .ok f r
 rw [(jgk h8 _).1, h9.nil]
theorem jxt {n m : Nat} (hm : m < 8) : PS n (tkS fu (.mk 5 m eB [])) (.mk 5 m eB []) := by
 refine PS.eq (t := [jai wTimer, jg8 m, jad pSemi]) ?_ rfl;intro ts r hb he
 obtain ⟨p, q, _, t, k, h1⟩ := jav hb
 show stG _ _ ts = _
 unfold stG;rw [if_neg (by rw [q]; decide), if_neg (by rw [k]; decide), t];rw [if_neg (by decide), if_neg (by decide), if_neg (by decide), if_pos rfl]
 obtain ⟨_, h4⟩ := jx4 h1 8 (by omega) fun _ r => .ok (.mk 0 0 eB []) r
 rw [(jx4 h1 8 (by omega) _).1]
 obtain ⟨_, h9⟩ := jgk h4 fun r => .ok (.mk 0 0 eB []) r
 rw [(jgk h4 _).1, h9.nil]
theorem jxA {n m : Nat} (hm : m < 8) : PS n (tkS fu (.mk 6 m eB [])) (.mk 6 m eB []) := by
 refine PS.eq (t := [jai wCancel, jg8 m, jad pSemi]) ?_ rfl;intro ts r hb he
 obtain ⟨p, q, _, t, k, h1⟩ := jav hb
 show stG _ _ ts = _
 unfold stG;rw [if_neg (by rw [q]; decide), if_neg (by rw [k]; decide), t];rw [if_neg (by decide), if_neg (by decide), if_neg (by decide), if_neg (by decide), if_pos rfl]
 obtain ⟨_, h4⟩ := jx4 h1 8 (by omega) fun _ r => .ok (.mk 0 0 eB []) r
 rw [(jx4 h1 8 (by omega) _).1]
 obtain ⟨_, h9⟩ := jgk h4 fun r => .ok (.mk 0 0 eB []) r
 rw [(jgk h4 _).1, h9.nil]
theorem jxB {n : Nat} : PS n (tkS fu (.mk 7 0 eB [])) (.mk 7 0 eB []) := by
 refine PS.eq (t := [jai wSync, jad pSemi]) ?_ rfl;intro ts r hb he
 obtain ⟨p, q, _, t, k, h1⟩ := jav hb
 show stG _ _ ts = _
 unfold stG;rw [if_neg (by rw [q]; decide), if_neg (by rw [k]; decide), t];rw [if_neg (by decide), if_neg (by decide), if_neg (by decide), if_neg (by decide), if_neg (by decide), if_pos rfl]
 obtain ⟨_, h9⟩ := jgk h1 fun r => .ok (.mk 0 0 eB []) r
 rw [(jgk h1 _).1, h9.nil]
theorem jy6 {n : Nat} {f g : Nt} (hf : PE (jaw n) 1 (tkN fu f 1) f) (hg : PE (jaw n) 1 (tkN fu g 1) g) : PS n (tkS fu (.mk 8 0 eB [f, g])) (.mk 8 0 eB [f, g]) := by
 refine PS.eq (t := jai wReply :: (tkN fu f 1 ++ jad pComma :: (tkN fu g 1 ++ [jad pSemi]))) ?_ (by rw [<- jo1]; rfl);intro ts r hb he
 obtain ⟨p, q, _, t, k, h1⟩ := jav hb
 show stG _ _ ts = _
 unfold stG;rw [if_neg (by rw [q]; decide), if_neg (by rw [k]; decide), t]
 obtain ⟨u2, e3, h6⟩ := jcY hf (.inr (.inl rfl)) h1
 rw [if_neg (by decide), if_neg (by decide), if_neg (by decide), if_neg (by decide), if_neg (by decide), if_neg (by decide), if_pos rfl, e3];rw [jmg]
 obtain ⟨_, h7⟩ := jgk h6 fun r => .ok f r
 rw [(jgk h6 _).1]
 obtain ⟨u3, e4, h8⟩ := jcY hg (.inl rfl) h7
 rw [e4];rw [jmg]
 obtain ⟨_, h9⟩ := jgk h8 fun r => .ok f r
 rw [(jgk h8 _).1, h9.nil]
theorem jzc {n : Nat} {f : Nt} (hf : PE (jaw n) 1 (tkN fu f 1) f) : PS n (tkS fu (.mk 9 0 eB [f])) (.mk 9 0 eB [f]) := by
 refine PS.eq (t := jai wFail :: (tkN fu f 1 ++ [jad pSemi])) ?_ (by rw [<- jo3]; rfl);intro ts r hb he
 obtain ⟨p, q, _, t, k, h1⟩ := jav hb
 show stG _ _ ts = _
 unfold stG;rw [if_neg (by rw [q]; decide), if_neg (by rw [k]; decide), t]
 obtain ⟨u3, e4, h8⟩ := jcY hf (.inl rfl) h1
 rw [if_neg (by decide), if_neg (by decide), if_neg (by decide), if_neg (by decide), if_neg (by decide), if_neg (by decide), if_neg (by decide), if_pos rfl, e4];rw [jmg]
 obtain ⟨_, h9⟩ := jgk h8 fun r => .ok f r
 rw [(jgk h8 _).1, h9.nil]
theorem jzg {n : Nat} : PS n (tkS fu (.mk 10 0 eB [])) (.mk 10 0 eB []) := by
 refine PS.eq (t := [jai wStop, jad pSemi]) ?_ rfl;intro ts r hb he
 obtain ⟨p, q, _, t, k, h1⟩ := jav hb
 show stG _ _ ts = _
 unfold stG;rw [if_neg (by rw [q]; decide), if_neg (by rw [k]; decide), t];rw [if_neg (by decide), if_neg (by decide), if_neg (by decide), if_neg (by decide), if_neg (by decide), if_neg (by decide), if_neg (by decide), if_neg (by decide), if_pos rfl]
 obtain ⟨_, h9⟩ := jgk h1 fun r => .ok (.mk 0 0 eB []) r
 rw [(jgk h1 _).1, h9.nil]
def StS (t : List Co) : Prop := ∃ s l, t = jai s :: l /\ s ≠ wElse /\ s ≠ pRb
theorem jzJ {n : Nat} (m : List Nt) (hm : ∀ f ∈ m, PS n (tkS fu f) f /\ StS (tkS fu f)) : ∀ (acc : List Nt) (ts r : List Tk) (k : Nat), Beg ((m.map (tkS fu)).flatten ++ [jad pRb]) ts r -> m.length + 1 <= k -> ji3 (stL n) k acc ts = .ok (jbb (acc ++ m)) r := by
 induction m with
 | nil =>
  intro acc ts r k hb hk
  obtain ⟨j, rfl⟩ : ∃ j, k = j + 1 := ⟨k - 1, by simp at hk; omega⟩
  have hb : Beg [jad pRb] ts r := hb
  obtain ⟨p, _, _, hr⟩ := jcM hb
  rw [ji3, if_pos (by rw [p]; decide), List.append_nil, hr.nil]
 | cons f m ih =>
  intro acc ts r k hb hk
  obtain ⟨j, rfl⟩ : ∃ j, k = j + 1 := ⟨k - 1, by simp at hk; omega⟩
  rw [List.map_cons, List.flatten_cons, List.append_assoc] at hb
  obtain ⟨hf, s, l, hs, hs1, hs2⟩ := hm f List.mem_cons_self
  obtain ⟨u, h1, h2⟩ := hb.app
  have hel : isP wElse u = false := by
   cases m with
   | nil =>
    have h2 : Beg [jad pRb] u r := h2
    obtain ⟨p, _⟩ := jcM h2
    rw [p]; decide
   | cons g m =>
    obtain ⟨_, s2, l2, hs2, hs3, _⟩ := hm g (by simp)
    rw [List.map_cons, List.flatten_cons, hs2] at h2
    obtain ⟨p, _⟩ := jav (b := l2 ++ (m.map (tkS fu)).flatten ++ [jad pRb]) (ts := u) (r := r) (by simpa using h2)
    rw [p, decide_eq_false hs3]
  have h3 := hf ts u h1 hel
  have hrb : isP pRb ts = false := by
   rw [hs] at h1
   obtain ⟨p, _⟩ := jav h1
   rw [p, decide_eq_false hs2]
  rw [ji3, if_neg (by rw [hrb]; decide), h3]
  show ji3 (stL n) j (acc ++ [f]) u = _
  rw [ih (fun g hg => hm g (List.mem_cons_of_mem _ hg)) (acc ++ [f]) u r j h2 (by simp at hk; omega), List.append_assoc];rfl
def PBk (n : Nat) (t : List Co) (f : Nt) : Prop := ∀ ts r, Beg t ts r -> bkF (stL n) ts = .ok f r
theorem joF {n : Nat} (m : List Nt) (hm : ∀ f ∈ m, PS n (tkS fu f) f /\ StS (tkS fu f)) : PBk n (tkB fu (jbb m)) (jbb m) := fun ts r hb => by
 have e2 : tkB fu (jbb m) = jad pLb :: ((m.map (tkS fu)).flatten ++ [jad pRb]) := by
  unfold jbb;rw [tkB, jgJ]; rfl
 rw [e2] at hb
 obtain ⟨_, h1⟩ := jgk hb fun r => .ok (.mk 0 0 eB []) r
 unfold bkF;rw [(jgk hb _).1]
 have hlen : m.length <= (m.map (tkS fu)).flatten.length := by
  have : ∀ l : List Nt, (∀ f ∈ l, StS (tkS fu f)) -> l.length <= (l.map (tkS fu)).flatten.length := fun l => by
   induction l with
   | nil => intro _; exact Nat.zero_le _
   | cons f l ih =>
    intro h
    have h1 := ih fun g hg => h g (List.mem_cons_of_mem _ hg)
    obtain ⟨s, l2, hs, _⟩ := h f List.mem_cons_self
    rw [List.map_cons, List.flatten_cons, List.length_append, hs, List.length_cons, List.length_cons];omega
  exact this m fun f hf => (hm f hf).2
 have hl := h1.len
 rw [List.length_append] at hl;simp only [List.length_cons, List.length_nil] at hl;rw [jzJ m hm [] ts.tail r _ h1 (by omega)];rfl
theorem jxv {n : Nat} {c b : Nt} (hc : PE (jaw (n + 1)) 1 (tkN fu c 1) c) (hb : PBk n (tkB fu b) b) (hl : ∃ l, tkB fu b = jad pLb :: l) : PS (n + 1) (tkS fu (.mk 3 0 eB [c, b])) (.mk 3 0 eB [c, b]) := by
 refine PS.eq (t := jai wWhile :: (tkN fu c 1 ++ tkB fu b)) ?_ rfl;intro ts r h0 he
 obtain ⟨l, hl⟩ := hl
 obtain ⟨p, q, _, t, k, h1⟩ := jav h0
 show stG _ _ ts = _
 unfold stG;rw [if_neg (by rw [q]; decide), if_neg (by rw [k]; decide), t];rw [hl] at h1
 obtain ⟨u, e2, h2⟩ := jcY hc (.inr (.inr rfl)) h1
 rw [<- hl] at h2
 have h3 := hb u r h2
 rw [jo8, if_neg (by decide), if_pos rfl, e2]
 show (bkF (stL n) u).andThen _ = _
 rw [h3];rfl
theorem jz2 {n : Nat} {c b d : Nt} (hc : PE (jaw (n + 1)) 1 (tkN fu c 1) c) (hb : PBk n (tkB fu b) b) (hl : ∃ l, tkB fu b = jad pLb :: l) (hd : PBk n (tkB fu d) d) (hd0 : d.kids.length = 0 -> d = jbb []) : PS (n + 1) (tkS fu (.mk 2 0 eB [c, b, d])) (.mk 2 0 eB [c, b, d]) := by
 have e2 : tkS fu (.mk 2 0 eB [c, b, d]) = if 0 < d.kids.length then jai wIf :: tkN fu c 1 ++ tkB fu b ++ jai wElse :: tkB fu d else jai wIf :: tkN fu c 1 ++ tkB fu b := rfl
 obtain ⟨l, hl⟩ := hl
 by_cases hz : 0 < d.kids.length
 ·rw [if_pos hz] at e2;refine PS.eq (t := jai wIf :: (tkN fu c 1 ++ (tkB fu b ++ jai wElse :: tkB fu d))) ?_ (by rw [e2]; simp);intro ts r h0 he
  obtain ⟨p, q, _, t, k, h1⟩ := jav h0
  show stG _ _ ts = _
  unfold stG;rw [if_neg (by rw [q]; decide), if_neg (by rw [k]; decide), t];rw [hl] at h1
  obtain ⟨u, e2, h2⟩ := jcY hc (.inr (.inr rfl)) h1
  have h2 : Beg ((jad pLb :: l) ++ jai wElse :: tkB fu d) u r := h2
  rw [<- hl] at h2
  obtain ⟨v, h4, h5⟩ := h2.app
  have h3 := hb u v h4
  obtain ⟨p, _, _, _, _, h6⟩ := jav h5
  have h7 := hd v.tail r h6
  rw [jo8, if_pos rfl, e2]
  show (bkF (stL n) u).andThen _ = _
  rw [h3]
  show (if isP wElse v = true then _ else _) = _
  rw [p, if_pos (by decide), h7];rfl
 ·rw [if_neg hz] at e2;refine PS.eq (t := jai wIf :: (tkN fu c 1 ++ tkB fu b)) ?_ (by rw [e2]; rfl);intro ts r h0 he
  obtain ⟨p, q, _, t, k, h1⟩ := jav h0
  show stG _ _ ts = _
  unfold stG;rw [if_neg (by rw [q]; decide), if_neg (by rw [k]; decide), t];rw [hl] at h1
  obtain ⟨u, e2, h2⟩ := jcY hc (.inr (.inr rfl)) h1
  rw [<- hl] at h2
  have h3 := hb u r h2
  rw [jo8, if_pos rfl, e2]
  show (bkF (stL n) u).andThen _ = _
  rw [h3]
  show (if isP wElse r = true then _ else _) = _
  rw [he, if_neg (by decide), hd0 (by omega)]
theorem juy (m : List Nt) : ∃ l, tkB fu (jbb m) = jad pLb :: l := by
 unfold jbb;rw [tkB];exact ⟨_, rfl⟩
theorem jog {d : Nat} {f : Nt} (h : ES d f) : StS (tkS fu f) := by
 have kw : ∀ (s : ByteArray) (l : List Co), (s ≠ wElse /\ s ≠ pRb) -> StS (jai s :: l) := fun s l h => ⟨s, l, rfl, h.1, h.2⟩
 have hv : ∀ s ∈ varL, s ≠ wElse /\ s ≠ pRb := by decide
 cases h with
 | asg d e s f hs h he => exact kw s _ (hv s hs)
 | snd d n f g h hn h1 h2 h3 => exact kw wSend _ (by decide)
 | tim d n hn => exact kw wTimer _ (by decide)
 | can d n hn => exact kw wCancel _ (by decide)
 | syn d => exact kw wSync _ (by decide)
 | rep d f g h1 h2 => exact kw wReply _ (by decide)
 | fai d f h1 => exact kw wFail _ (by decide)
 | stp d => exact kw wStop _ (by decide)
 | whi d c l h1 h2 h3 => exact kw wWhile _ (by decide)
 | iff d c l m h1 h2 h3 h4 h5 =>
  have e2 : tkS fu (.mk 2 0 eB [c, jbb l, jbb m]) = if 0 < (jbb m).kids.length then jai wIf :: (tkN fu c 1 ++ tkB fu (jbb l) ++ jai wElse :: tkB fu (jbb m)) else jai wIf :: (tkN fu c 1 ++ tkB fu (jbb l)) := rfl
  rw [e2]
  split
  ·exact kw wIf _ (by decide)
  ·exact kw wIf _ (by decide)
theorem jA6 {d : Nat} {f : Nt} (h : ES d f) : ∀ n, d + 6 <= n -> PS n (tkS fu f) f := by
 induction h with
 | asg d e s f hs h he => intro n hn; exact jxI hs (jvv h (by omega))
 | snd d m f g h hm h1 h2 h3 => intro n hn; exact jzh (by omega) (jvv h1 (by omega)) (jvv h2 (by omega)) (jvv h3 (by omega))
 | tim d m hm => intro n hn; exact jxt (by omega)
 | can d m hm => intro n hn; exact jxA (by omega)
 | syn d => intro n hn; exact jxB
 | rep d f g h1 h2 => intro n hn; exact jy6 (jvv h1 (by omega)) (jvv h2 (by omega))
 | fai d f h1 => intro n hn; exact jzc (jvv h1 (by omega))
 | stp d => intro n hn; exact jzg
 | whi d c l h1 h2 h3 ih =>
  intro n hn
  obtain ⟨k, rfl⟩ : ∃ k, n = k + 1 := ⟨n - 1, by omega⟩
  exact jxv (jAS h1 (by omega)) (joF l fun f hf => ⟨ih f hf k (by omega), jog (h3 f hf)⟩) (juy l)
 | iff d c l m h1 h2 h3 h4 h5 ih1 ih2 =>
  intro n hn
  obtain ⟨k, rfl⟩ : ∃ k, n = k + 1 := ⟨n - 1, by omega⟩
  refine jz2 (jAS h1 (by omega)) (joF l fun f hf => ⟨ih1 f hf k (by omega), jog (h3 f hf)⟩) (juy l) (joF m fun f hf => ⟨ih2 f hf k (by omega), jog (h5 f hf)⟩) fun hz => ?_
  have hz : m.length = 0 := hz
  rw [List.length_eq_zero_iff.1 hz]
theorem jyV {b : Nt} (h : EK b) (n : Nat) (hn : 8 <= n) : PBk n (tkB fu b) b := by
 obtain ⟨k, rfl, h1, h2⟩ := h
 exact joF k fun f hf => ⟨jA6 (h2 f hf) n (by omega), jog (h2 f hf)⟩
end
section
theorem jxD {n : Int} (h0 : 0 <= n) (h1 : n < 40) {b : List Co} {ts r : List Tk} (hb : Beg (jnM n ++ b) ts r) : ∃ u, hnF ts = .ok n u /\ Beg b u r := by
 have num : ∀ (m : Nat) (limit off : Int) (q s : List Tk), (m : Int) < limit -> Beg (jg8 m :: b) q s -> jpG limit off q = .ok (off + m) q.tail /\ Beg b q.tail s := fun m limit off q s hl hq => by
  obtain ⟨hc, hr, _⟩ := hq.cons
  refine ⟨?_, hr⟩;unfold jpG;rw [show (hd q).kind = 2 from (jcA hc).1, show (hd q).n = m from (jcA hc).2, if_neg (by decide), if_neg (by omega)]
 unfold jnM at hb
 by_cases e1 : n = 1
 ·subst e1;rw [if_pos rfl] at hb
  obtain ⟨p, _, _, _, _, hr⟩ := jav (b := b) hb
  refine ⟨ts.tail, ?_, hr⟩;unfold hnF;rw [p, p, if_neg (by decide), if_pos (by decide)]
 rw [if_neg e1] at hb
 by_cases e10 : 10 <= n
 ·rw [if_pos e10] at hb
  obtain ⟨p, _, _, _, _, hr⟩ := jav (b := jg8 (n - 10).toNat :: b) hb
  obtain ⟨q1, q2⟩ := num (n - 10).toNat 30 10 ts.tail r (by omega) hr
  refine ⟨_, ?_, q2⟩;unfold hnF;rw [p, p, p, p, if_neg (by decide), if_neg (by decide), if_neg (by decide), if_pos (by decide), q1]
  congr 1; omega
 rw [if_neg e10] at hb
 by_cases e2 : 2 <= n
 ·rw [if_pos e2] at hb
  obtain ⟨p, _, _, _, _, hr⟩ := jav (b := jg8 (n - 2).toNat :: b) hb
  obtain ⟨q1, q2⟩ := num (n - 2).toNat 8 2 ts.tail r (by omega) hr
  refine ⟨_, ?_, q2⟩;unfold hnF;rw [p, p, p, if_neg (by decide), if_neg (by decide), if_pos (by decide), q1]
  congr 1; omega
 rw [if_neg e2] at hb
 obtain ⟨p, _, _, _, _, hr⟩ := jav (b := b) hb
 refine ⟨ts.tail, ?_, hr⟩;unfold hnF;rw [p, if_pos (by decide)]
 congr 1; omega
variable {fu : Bool}
def HO (fu : Bool) (x : Int × Nt) : Prop := 0 <= x.1 /\ x.1 < 40 /\ PBk 19 (tkB fu x.2) x.2
theorem jz7 (l : List (Int × Nt)) (k : Int) (h : ∀ x ∈ l, x.1 ≠ k) : l.any (fun h => decide (h.1 = k)) = false := by
 rw [List.any_eq_false];intro x hx
 simpa using h x hx
theorem jwR (l : List (Int × Nt)) : l.length <= ((l.map (jdt fu)).flatten).length := by
 induction l with
 | nil => exact Nat.zero_le _
 | cons x l ih =>
  rw [List.map_cons, List.flatten_cons, List.length_append, List.length_cons]
  have : 1 <= (jdt fu x).length := by unfold jdt; simp
  omega
def jsV (a : ByteArray) : Bool := !(keyL ++ builtL).any fun x => decide (a = x)
theorem GU.ho {u : Ut} (h : GU u) : ∀ x ∈ u.on, HO fu x := fun x hx => by
 obtain ⟨h1, h2, h3, h4, h5⟩ := h
 obtain ⟨g1, g2, g3⟩ := h3 x hx
 exact ⟨g1, g2, jyV g3 19 (by decide)⟩
theorem TN.row {s : ByteArray} {l : List Co} (h : TN s l) : (jb4 s).err = none /\ Beg l (jko s) [jfF s] := by
 obtain ⟨ts, h1, h2⟩ := jry l false 0 h.lx h.fi
 rw [<- h.eq] at h1
 have h3 : jb4 s = ⟨ts, none⟩ := h1
 rw [jda (by rw [h3]), h3];exact ⟨rfl, ts, rfl, h2⟩
theorem jnL {s : ByteArray} (hs : s.size <= 3000) (he : (jb4 s).err = none) : jgw s = jsu (jko s) := by
 unfold jgw;rw [if_neg (by omega), he]
end
section
def tW (κ : Nat) : List Co -> Nat
 | [] => 0
 | c :: l => c.text.length + κ + tW κ l
theorem jbg (κ : Nat) (l m : List Co) : tW κ (l ++ m) = tW κ l + tW κ m := by
 induction l with
 | nil => show tW κ m = 0 + _; omega
 | cons c l ih => show c.text.length + κ + tW κ (l ++ m) = c.text.length + κ + tW κ l + tW κ m; omega
theorem jac (κ : Nat) (c : Co) (l : List Co) : tW κ (c :: l) = c.text.length + κ + tW κ l := rfl
theorem jbD (κ : Nat) : tW κ [] = 0 := rfl
theorem jjP : ∀ (l : List Co), (glR l).size <= tW 1 l
 | [] => Nat.zero_le _
 | c :: l => by
  have h1 := jjP l
  have h2 := ja0 (bs c.text) (glR l)
  have h3 : (bs c.text).size = c.text.length := jby _
  show (ja1 _ _).size <= c.text.length + 1 + tW 1 l
  omega
theorem jcC (s : ByteArray) : (jad s).text.length = s.size := rfl
theorem jcH (s : ByteArray) : (jai s).text.length = s.size := rfl
theorem joV (n : Nat) : (jg8 n).text.length = (jb1 n).length := rfl
theorem jrU (κ : Nat) (p lv : Int) (fu : Bool) (l : List Co) (hl : lv <= 8) : tW κ (jd4 p lv fu l) <= tW κ l + (if p = 8 then 0 else 2 + 2 * κ) := by
 rcases jbC p lv fu l hl with ⟨e, h⟩ | ⟨e, h⟩
 ·rw [e]; omega
 ·rw [e, if_neg (by omega), jbg, jac, jac, jcC, jcC, jbD]
  have e1 : pLp.size = 1 := rfl
  have e2 : pRp.size = 1 := rfl
  omega
variable {fu : Bool} (κ : Nat)
theorem jz8 : ∀ n ∈ litL, (jb1 n.toNat).length <= dgN n := by decide +kernel
theorem jzD : ∀ s ∈ opL, jab 18 s <= 6 /\ 5 <= jab 18 s := by decide
theorem jk5 {d : Nat} {f : Nt} (h : EI d f) : ∀ lv : Int, lv <= 8 -> tW κ (tkN fu f lv) <= wN κ f := by
 induction h with
 | lit d n h =>
  intro lv hl
  have h1 := jz8 n h
  rw [show tkN fu (.mk 12 n eB []) lv = jd4 8 lv fu [jg8 n.toNat] from rfl, jex hl, jac, joV, jbD, juV];omega
 | var d s h =>
  intro lv hl;rw [show tkN fu (.mk 14 0 s []) lv = jd4 8 lv fu [jai s] from rfl, jex hl, jac, jcH, jbD, jup];omega
 | nam d s h =>
  intro lv hl;rw [show tkN fu (.mk 15 0 s []) lv = jd4 8 lv fu [jai s] from rfl, jex hl, jac, jcH, jbD, jv3];omega
 | drw d f h ih =>
  intro lv hl
  have h1 := ih 1 (by omega)
  have e1 : wDraw.size = 4 := rfl
  have e2 : pLp.size = 1 := rfl
  have e3 : pRp.size = 1 := rfl
  rw [show tkN fu (.mk 16 0 eB [f]) lv = jd4 8 lv fu (jai wDraw :: jad pLp :: (tkN fu f 1 ++ [jad pRp])) from rfl, jex hl, jac, jac, jbg, jac, jbD, jcH, jcC, jcC, jv0];omega
 | neg d f h ih =>
  intro lv hl
  have h1 := ih 7 (by omega)
  have e1 : pMinus.size = 1 := rfl
  have hp := jrU κ 7 lv fu (jad pMinus :: tkN fu f 7) hl
  rw [jac, jcC, if_neg (by decide)] at hp;rw [show tkN fu (.mk 17 0 pMinus [f]) lv = jd4 7 lv fu (jad pMinus :: tkN fu f 7) from rfl, joD];omega
 | bin d s f g hs h1 h2 i1 i2 =>
  intro lv hl
  have hp6 := jzD s hs
  have hp := jrU κ (jab 18 s) lv fu (tkN fu f (if jab 18 s = 4 then 5 else jab 18 s) ++ jad s :: tkN fu g (jab 18 s + 1)) hl
  rw [jbg, jac, jcC, if_neg (by omega), if_neg (by omega)] at hp
  have a1 := i1 (jab 18 s) (by omega)
  have a2 := i2 (jab 18 s + 1) (by omega)
  rw [show tkN fu (.mk 18 0 s [f, g]) lv = jd4 (jab 18 s) lv fu (tkN fu f (if jab 18 s = 4 then 5 else jab 18 s) ++ jad s :: tkN fu g (jab 18 s + 1)) from rfl, if_neg (by omega), jiJ];omega
theorem jyl : ∀ s ∈ bolL, jab 18 s <= 2 := by decide
theorem jyd : ∀ s ∈ cmpL, jab 18 s = 4 := by decide
theorem jyT {d : Nat} {f : Nt} (h : EB d f) : ∀ lv : Int, lv <= 8 -> tW κ (tkN fu f lv) <= wN κ f := by
 induction h with
 | lit d n h =>
  intro lv hl
  have h1 : (tfB n).size <= 5 := by rcases (by omega : n = 0 ∨ n = 1) with rfl | rfl <;> decide
  rw [show tkN fu (.mk 13 n eB []) lv = jd4 8 lv fu [jai (tfB n)] from rfl, jex hl, jac, jcH, jbD, jqa];omega
 | nt d f h ih =>
  intro lv hl
  have h1 := ih 3 (by omega)
  have e1 : pNot.size = 1 := rfl
  have hp := jrU κ 3 lv fu (jad pNot :: tkN fu f 3) hl
  rw [jac, jcC, if_neg (by decide)] at hp;rw [show tkN fu (.mk 17 0 pNot [f]) lv = jd4 3 lv fu (jad pNot :: tkN fu f 3) from rfl, joD];omega
 | bin d s f g hs h1 h2 i1 i2 =>
  intro lv hl
  have hp6 := jyl s hs
  have hp := jrU κ (jab 18 s) lv fu (tkN fu f (if jab 18 s = 4 then 5 else jab 18 s) ++ jad s :: tkN fu g (jab 18 s + 1)) hl
  rw [jbg, jac, jcC, if_neg (by omega), if_neg (by omega)] at hp
  have a1 := i1 (jab 18 s) (by omega)
  have a2 := i2 (jab 18 s + 1) (by omega)
  rw [show tkN fu (.mk 18 0 s [f, g]) lv = jd4 (jab 18 s) lv fu (tkN fu f (if jab 18 s = 4 then 5 else jab 18 s) ++ jad s :: tkN fu g (jab 18 s + 1)) from rfl, if_neg (by omega), jiJ];omega
 | cmp d s f g hs h1 h2 =>
  intro lv hl
  have hp6 := jyd s hs
  have hp := jrU κ 4 lv fu (tkN fu f 5 ++ jad s :: tkN fu g 5) hl
  rw [jbg, jac, jcC, if_neg (by omega)] at hp
  have a1 := jk5 (fu := fu) κ h1 5 (by omega)
  have a2 := jk5 (fu := fu) κ h2 5 (by omega)
  rw [show tkN fu (.mk 18 0 s [f, g]) lv = jd4 (jab 18 s) lv fu (tkN fu f (if jab 18 s = 4 then 5 else jab 18 s) ++ jad s :: tkN fu g (jab 18 s + 1)) from rfl, hp6, jiJ]
  show tW κ (jd4 4 lv fu (tkN fu f 5 ++ jad s :: tkN fu g 5)) <= _
  omega
theorem jgX : ∀ n, n < 10 -> (jb1 n).length <= 1 := by decide +kernel
theorem jrs : ∀ n, n < 40 -> (jb1 n).length <= 2 := by decide +kernel
theorem jnw (l : List Nt) (h : ∀ f ∈ l, tW κ (tkS fu f) <= wS κ f) : tW κ (tkB fu (jbb l)) <= wB κ (jbb l) := by
 have e1 : pLb.size = 1 := rfl
 have e2 : pRb.size = 1 := rfl
 have e : tkB fu (jbb l) = jad pLb :: (l.map (tkS fu)).flatten ++ [jad pRb] := by
  unfold jbb;rw [tkB, jgJ]
 have key : tW κ (l.map (tkS fu)).flatten <= wSs κ l := by
  clear e
  induction l with
  | nil => exact Nat.zero_le _
  | cons f l ih =>
   have h1 := h f List.mem_cons_self
   have h2 := ih fun g hg => h g (List.mem_cons_of_mem _ hg)
   rw [List.map_cons, List.flatten_cons, jbg, wSs];omega
 rw [e, jlY, jbg, jac, jac, jcC, jcC, jbD];omega
theorem jAN {d : Nat} {f : Nt} (h : ES d f) : tW κ (tkS fu f) <= wS κ f := by
 have z1 : pSemi.size = 1 := rfl
 have z2 : pComma.size = 1 := rfl
 have z3 : pEq.size = 1 := rfl
 have z4 : wSend.size = 4 := rfl
 have z5 : wTimer.size = 5 := rfl
 have z6 : wCancel.size = 6 := rfl
 have z7 : wSync.size = 4 := rfl
 have z8 : wReply.size = 5 := rfl
 have z9 : wFail.size = 4 := rfl
 have z10 : wStop.size = 4 := rfl
 have z11 : wWhile.size = 5 := rfl
 have z12 : wIf.size = 2 := rfl
 have z13 : wElse.size = 4 := rfl
 induction h with
 | asg d e s f hs h he =>
  have a := jk5 (fu := fu) κ h 1 (by omega)
  rw [show tkS fu (.mk 1 0 s [f]) = jai s :: jad pEq :: lsT fu [f] from rfl, jo3, jac, jac, jbg, jac, jbD, jcH, jcC, jcC, jrM];omega
 | snd d n f g h hn h1 h2 h3 =>
  have a1 := jk5 (fu := fu) κ h1 1 (by omega)
  have a2 := jk5 (fu := fu) κ h2 1 (by omega)
  have a3 := jk5 (fu := fu) κ h3 1 (by omega)
  have d1 := jgX n (by omega)
  rw [show tkS fu (.mk 4 n eB [f, g, h]) = jai wSend :: (tkN fu f 1 ++ jad pComma :: jg8 n :: jad pComma :: lsT fu [g, h]) from rfl, jo1, jac, jbg, jac, jac, jac, jbg, jac, jbg, jac, jbD, jcH, jcC, jcC, joV, juw];omega
 | tim d n hn =>
  have d1 := jgX n (by omega)
  rw [show tkS fu (.mk 5 n eB []) = [jai wTimer, jg8 n, jad pSemi] from rfl, jac, jac, jac, jbD, jcH, jcC, joV, juX];omega
 | can d n hn =>
  have d1 := jgX n (by omega)
  rw [show tkS fu (.mk 6 n eB []) = [jai wCancel, jg8 n, jad pSemi] from rfl, jac, jac, jac, jbD, jcH, jcC, joV, jvb];omega
 | syn d =>
  rw [show tkS fu (.mk 7 0 eB []) = [jai wSync, jad pSemi] from rfl, jac, jac, jbD, jcH, jcC, juu];omega
 | rep d f g h1 h2 =>
  have a1 := jk5 (fu := fu) κ h1 1 (by omega)
  have a2 := jk5 (fu := fu) κ h2 1 (by omega)
  rw [show tkS fu (.mk 8 0 eB [f, g]) = jai wReply :: lsT fu [f, g] from rfl, jo1, jac, jbg, jac, jbg, jac, jbD, jcH, jcC, jcC, jun];omega
 | fai d f h1 =>
  have a1 := jk5 (fu := fu) κ h1 1 (by omega)
  rw [show tkS fu (.mk 9 0 eB [f]) = jai wFail :: lsT fu [f] from rfl, jo3, jac, jbg, jac, jbD, jcH, jcC, juM];omega
 | stp d =>
  rw [show tkS fu (.mk 10 0 eB []) = [jai wStop, jad pSemi] from rfl, jac, jac, jbD, jcH, jcC, juA];omega
 | whi d c l h1 h2 h3 ih =>
  have a1 := jyT (fu := fu) κ h1 1 (by omega)
  have a2 := jnw (fu := fu) κ l ih
  rw [show tkS fu (.mk 3 0 eB [c, jbb l]) = jai wWhile :: (tkN fu c 1 ++ tkB fu (jbb l)) from rfl, jac, jbg, jcH, jv4];omega
 | iff d c l m h1 h2 h3 h4 h5 ih1 ih2 =>
  have a1 := jyT (fu := fu) κ h1 1 (by omega)
  have a2 := jnw (fu := fu) κ l ih1
  have a3 := jnw (fu := fu) κ m ih2
  rw [show tkS fu (.mk 2 0 eB [c, jbb l, jbb m]) = (if 0 < (jbb m).kids.length then jai wIf :: (tkN fu c 1 ++ tkB fu (jbb l) ++ jai wElse :: tkB fu (jbb m)) else jai wIf :: (tkN fu c 1 ++ tkB fu (jbb l))) from rfl, jui]
  split
  ·rw [jac, jbg, jbg, jac, jcH, jcH];omega
  ·rw [jac, jbg, jcH];omega
theorem jAh {b : Nt} (h : EK b) : tW κ (tkB fu b) <= wB κ b := by
 obtain ⟨k, rfl, h1, h2⟩ := h
 exact jnw κ k fun f hf => jAN κ (h2 f hf)
theorem jAx {x : Int × Nt} (h0 : 0 <= x.1) (h1 : x.1 < 40) (hb : EK x.2) : tW κ (jdt fu x) <= 11 + 3 * κ + wB κ x.2 := by
 have a := jAh (fu := fu) κ hb
 have hw : tW κ (jnM x.1) <= 9 + 2 * κ := by
  have z1 : wRequest.size = 7 := rfl
  have z2 : wMessage.size = 7 := rfl
  have z3 : wTimer.size = 5 := rfl
  have z4 : wStart.size = 5 := rfl
  have d1 := jrs (x.1 - 10).toNat (by omega)
  have d2 := jrs (x.1 - 2).toNat (by omega)
  unfold jnM
  split
  ·rw [jac, jbD, jcH]; omega
  ·split
   ·rw [jac, jac, jbD, jcH, joV]; omega
   ·split
    ·rw [jac, jac, jbD, jcH, joV]; omega
    ·rw [jac, jbD, jcH]; omega
 have z : wOn.size = 2 := rfl
 rw [show jdt fu x = jai wOn :: (jnM x.1 ++ tkB fu x.2) from rfl, jac, jbg, jcH];omega
theorem jse : ∀ (l : List (Int × Nt)), (∀ x ∈ l, 0 <= x.1 /\ x.1 < 40 /\ EK x.2) -> tW κ ((l.map (jdt fu)).flatten) <= wHs κ l
 | [], _ => Nat.zero_le _
 | x :: l, h => by
  obtain ⟨a, b, c⟩ := h x List.mem_cons_self
  have h1 := jAx (fu := fu) κ a b c
  have h2 := jse l fun y hy => h y (List.mem_cons_of_mem _ hy)
  rw [List.map_cons, List.flatten_cons, jbg, wHs];omega
theorem jvW (l m : List (Int × Nt)) : wHs κ (l ++ m) = wHs κ l + wHs κ m := by
 induction l with
 | nil => show wHs κ m = 0 + _; omega
 | cons x l ih => show 11 + 3 * κ + wB κ x.2 + wHs κ (l ++ m) = 11 + 3 * κ + wB κ x.2 + wHs κ l + _; omega
theorem jwA (l : List (Int × Nt)) : wHs κ l.reverse = wHs κ l := by
 induction l with
 | nil => rfl
 | cons x l ih => rw [List.reverse_cons, jvW, ih]; show wHs κ l + (11 + 3 * κ + wB κ x.2 + 0) = 11 + 3 * κ + wB κ x.2 + wHs κ l; omega
theorem jA3 : tW κ dcTk = 26 + 10 * κ /\ tW κ jzR = 26 + 10 * κ := by
 unfold dcTk jzR;simp only [jac, jbD, jcC, jcH]
 have z1 : wDurable.size = 7 := rfl
 have z2 : wVolatile.size = 8 := rfl
 have z3 : pComma.size = 1 := rfl
 have z4 : pSemi.size = 1 := rfl
 have z5 : (⟨#[100]⟩ : ByteArray).size = 1 := rfl
 have z6 : (⟨#[100, 100, 49]⟩ : ByteArray).size = 3 := rfl
 have z7 : (⟨#[118]⟩ : ByteArray).size = 1 := rfl
 have z8 : (⟨#[119, 50]⟩ : ByteArray).size = 2 := rfl
 omega
theorem GW.twK {u : Ut} (h : GW u) (ka : 1 <= κ) (kb : κ <= 7) : tW κ (jmc u) <= 884 + 296 * κ /\ tW κ (jB3 u) <= 884 + 296 * κ /\ ∀ x ∈ u.on, tW κ (jdt false x) <= 858 + 286 * κ := by
 obtain ⟨⟨h1, h2, h3, h4, h5⟩, hw⟩ := h
 have hw := hw κ ka kb
 have a := jse (fu := false) κ u.on h3
 have b := jse (fu := true) κ u.on.reverse fun x hx => h3 x (List.mem_reverse.1 hx)
 have c := jA3 κ
 rw [jwA] at b;refine ⟨by unfold jmc; rw [jbg]; omega, by unfold jB3; rw [jbg]; omega, fun x hx => ?_⟩
 obtain ⟨l, r, hl⟩ := List.append_of_mem hx
 rw [hl] at a hw;rw [List.map_append, List.map_cons, List.flatten_append, List.flatten_cons, jbg, jbg] at a;omega
theorem GW.size {u : Ut} (h : GW u) : (prF u).size <= 1180 := by
 have h1 := (ju4 h.1).eq
 have h2 := jjP (jmc u)
 have h3 := (h.twK 1 (by omega) (by omega)).1
 rw [h1]; omega
end
section
set_option maxRecDepth 100000
end
section
set_option maxRecDepth 100000
end
section
def IsEnd (e : Tk) : Prop := e.kind = 0 /\ e.text = ⟨#[]⟩
def EnO (e : Tk) (p : Pn) : Prop := p = .bad e.pos 10 ∨ ∃ f, p = .ok f [e]
def jzk (e : Tk) (p : Pn) (m q : List Tk) (f : Nt) (r : List Tk) : Prop := (∃ a s, m = a ++ s /\ s ≠ [] /\ r = s ++ q /\ p = .ok f (s ++ [e])) ∨ ((∃ a, q = a ++ r) /\ EnO e p)
structure VS (e : Tk) (op : List Tk -> Pn) : Prop where
 su : ∀ ts f r, op ts = .ok f r -> ∃ a, ts = a ++ r
 v : ∀ m q f r, op (m ++ q) = .ok f r -> jzk e (op (m ++ [e])) m q f r
structure VP (e : Tk) (op : List Tk -> Pn) : Prop extends VS e op where
 en : EnO e (op [e])
variable {e : Tk}
theorem VS.okT (f : Nt) : VP e (fun r => .ok f r) where
 su := fun ts f r h => by cases h; exact ⟨[], rfl⟩
 v := fun m q f r h => by
  cases h
  cases m with
  | nil => exact .inr ⟨⟨[], rfl⟩, .inr ⟨f, rfl⟩⟩
  | cons t m => exact .inl ⟨[], t :: m, rfl, by simp, rfl, rfl⟩
 en := .inr ⟨f, rfl⟩
theorem VS.bad (x y : Int) : VS e (fun _ => .bad x y) where
 su := fun ts f r h => by cases h
 v := fun m q f r h => by cases h
theorem VP.syn : VP e synE where
 su := fun ts f r h => by cases h
 v := fun m q f r h => by cases h
 en := .inl rfl
theorem VS.andThen {op : List Tk -> Pn} {k : Nt -> List Tk -> Pn} (h1 : VS e op) (h2 : ∀ f, VP e (k f)) : VS e (fun ts => (op ts).andThen k) where
 su := fun ts f r h => by
  cases ho : op ts with
  | bad x y => rw [ho] at h; cases h
  | ok g u =>
   rw [ho] at h
   obtain ⟨a, ha⟩ := h1.su ts g u ho
   obtain ⟨b, hb⟩ := (h2 g).su u f r h
   exact ⟨a ++ b, by rw [ha, hb, List.append_assoc]⟩
 v := fun m q f r h => by
  cases ho : op (m ++ q) with
  | bad x y => rw [ho] at h; cases h
  | ok g u =>
   rw [ho] at h
   have h : k g u = .ok f r := h
   rcases h1.v m q g u ho with ⟨a, s, e1, e2, e3, e4⟩ | ⟨⟨a, ha⟩, h3⟩
   ·rw [e4]
    show jzk e (k g (s ++ [e])) m q f r
    rw [e3] at h
    rcases (h2 g).v s q f r h with ⟨b, s2, g1, g2, g3, g4⟩ | ⟨g1, g2⟩
    ·exact .inl ⟨a ++ b, s2, by rw [e1, g1, List.append_assoc], g2, g3, g4⟩
    ·exact .inr ⟨g1, g2⟩
   ·obtain ⟨b, hb⟩ := (h2 g).su u f r h
    refine .inr ⟨⟨a ++ b, by rw [ha, hb, List.append_assoc]⟩, ?_⟩
    rcases h3 with h3 | ⟨f2, h3⟩
    ·rw [h3]; exact .inl rfl
    ·rw [h3]; exact (h2 f2).en
theorem VP.andThen {op : List Tk -> Pn} {k : Nt -> List Tk -> Pn} (h1 : VP e op) (h2 : ∀ f, VP e (k f)) : VP e (fun ts => (op ts).andThen k) where
 toVS := h1.toVS.andThen h2
 en := by
  show EnO e ((op [e]).andThen k)
  rcases h1.en with h3 | ⟨f2, h3⟩
  ·rw [h3]; exact .inl rfl
  ·rw [h3]; exact (h2 f2).en
theorem VP.ite (g : Tk -> Prop) [DecidablePred g] {op1 : Tk -> List Tk -> Pn} {op2 : List Tk -> Pn} (hg : ¬ g e) (hn : ¬ g (hd [])) (h1 : ∀ t, VS e (op1 t)) (h2 : VP e op2) : VP e (fun ts => if g (hd ts) then op1 (hd ts) ts.tail else op2 ts) where
 su := fun ts f r h => by
  cases ts with
  | nil => rw [if_neg hn] at h; exact h2.su _ f r h
  | cons t ts =>
   by_cases ht : g t
   ·rw [if_pos (show g (hd (t :: ts)) from ht)] at h
    obtain ⟨a, ha⟩ := (h1 t).su ts f r h
    exact ⟨t :: a, by rw [ha]; rfl⟩
   ·rw [if_neg (show ¬ g (hd (t :: ts)) from ht)] at h;exact h2.su _ f r h
 v := fun m q f r h => by
  cases m with
  | nil =>
   have hs : ∃ a, q = a ++ r := by
    cases q with
    | nil =>
     rw [if_neg (show ¬ g (hd ([] ++ [])) from hn)] at h;exact h2.su [] f r h
    | cons t q =>
     by_cases ht : g t
     ·rw [if_pos (show g (hd ([] ++ t :: q)) from ht)] at h
      obtain ⟨a, ha⟩ := (h1 t).su q f r h
      exact ⟨t :: a, by rw [ha]; rfl⟩
     ·rw [if_neg (show ¬ g (hd ([] ++ t :: q)) from ht)] at h;exact h2.su _ f r h
   rw [if_neg (show ¬ g (hd ([] ++ [e])) from hg)];exact .inr ⟨hs, h2.en⟩
  | cons t m =>
   by_cases ht : g t
   ·rw [if_pos (show g (hd (t :: m ++ q)) from ht)] at h;rw [if_pos (show g (hd (t :: m ++ [e])) from ht)]
    rcases (h1 t).v m q f r h with ⟨a, s, e1, e2, e3, e4⟩ | h3
    ·exact .inl ⟨t :: a, s, by rw [e1]; rfl, e2, e3, e4⟩
    ·exact .inr h3
   ·rw [if_neg (show ¬ g (hd (t :: m ++ q)) from ht)] at h;rw [if_neg (show ¬ g (hd (t :: m ++ [e])) from ht)];exact h2.v (t :: m) q f r h
 en := by
  show EnO e (if g (hd [e]) then _ else _)
  rw [if_neg (show ¬ g (hd [e]) from hg)];exact h2.en
theorem VP.sel (g : Tk -> Prop) [DecidablePred g] {op1 op2 : List Tk -> Pn} (h1 : VP e op1) (h2 : VP e op2) : VP e (fun ts => if g (hd ts) then op1 ts else op2 ts) where
 su := fun ts f r h => by
  split at h
  ·exact h1.su _ f r h
  ·exact h2.su _ f r h
 v := fun m q f r h => by
  cases m with
  | nil =>
   have hs : ∃ a, q = a ++ r := by
    split at h
    ·exact h1.su _ f r h
    ·exact h2.su _ f r h
   refine .inr ⟨hs, ?_⟩
   show EnO e (if g (hd [e]) then op1 [e] else op2 [e])
   split
   ·exact h1.en
   ·exact h2.en
  | cons t m =>
   by_cases ht : g t
   ·rw [if_pos (show g (hd (t :: m ++ q)) from ht)] at h;rw [if_pos (show g (hd (t :: m ++ [e])) from ht)];exact h1.v (t :: m) q f r h
   ·rw [if_neg (show ¬ g (hd (t :: m ++ q)) from ht)] at h;rw [if_neg (show ¬ g (hd (t :: m ++ [e])) from ht)];exact h2.v (t :: m) q f r h
 en := by
  show EnO e (if g (hd [e]) then op1 [e] else op2 [e])
  split
  ·exact h1.en
  ·exact h2.en
def jif (s : ByteArray) (t : Tk) : Bool := decide (t.text = s) && (decide (t.kind = 1) || decide (t.kind = 3))
def ji6 (l : List ByteArray) (t : Tk) : Bool := l.any fun s => jif s t
def jtX (t : Tk) : Bool := decide (t.kind = 1) && !(keyL ++ builtL).any fun s => decide (t.text = s)
def jvz (t : Tk) : Bool := decide (t.kind = 1) && builtL.any fun s => decide (t.text = s)
theorem IsEnd.p (he : IsEnd e) (s : ByteArray) : ¬ jif s e = true := by
 unfold jif; rw [he.1];intro h;rw [Bool.and_eq_true] at h;exact absurd h.2 (by decide)
theorem end_hd : IsEnd (hd []) := ⟨rfl, rfl⟩
theorem IsEnd.any (he : IsEnd e) (l : List ByteArray) : ¬ ji6 l e = true := by
 unfold ji6;rw [List.any_eq_true];rintro ⟨s, _, h⟩;exact he.p s h
theorem IsEnd.nm (he : IsEnd e) : ¬ jtX e = true := by
 unfold jtX; rw [he.1];intro h;rw [Bool.and_eq_true] at h;exact absurd h.1 (by decide)
theorem IsEnd.bi (he : IsEnd e) : ¬ jvz e = true := by
 unfold jvz; rw [he.1];intro h;rw [Bool.and_eq_true] at h;exact absurd h.1 (by decide)
theorem VP.xpt (he : IsEnd e) (s : ByteArray) {k : List Tk -> Pn} (h : VS e k) : VP e (fun ts => Vm.xpt s ts k) :=
 VP.ite (fun t => jif s t = true) (op1 := fun _ => k) (op2 := synE) (he.p s) (end_hd.p s) (fun _ => h) VP.syn
theorem VP.num (he : IsEnd e) (limit : Int) {k : Int -> List Tk -> Pn} (h : ∀ n, VS e (k n)) : VP e (fun ts => jgC limit ts k) := by
 have h1 : VP e (fun ts => if (hd ts).kind = 2 then (fun t ts => if limit <= t.n then Pn.bad t.pos 6 else k t.n ts) (hd ts) ts.tail else synE ts) :=
  VP.ite (fun t => t.kind = 2) (op1 := fun t ts => if limit <= t.n then Pn.bad t.pos 6 else k t.n ts) (op2 := synE) (by rw [he.1]; decide) (by decide) (fun t => by
   by_cases hl : limit <= t.n
   ·simp only [if_pos hl]; exact VS.bad _ _
   ·simp only [if_neg hl]; exact h t.n) VP.syn
 have e1 : (fun ts => jgC limit ts k) = (fun ts => if (hd ts).kind = 2 then (fun t ts => if limit <= t.n then Pn.bad t.pos 6 else k t.n ts) (hd ts) ts.tail else synE ts) := by
  funext ts
  unfold jgC
  by_cases h2 : (hd ts).kind = 2
  ·rw [if_neg (by simp [h2]), if_pos h2]
  ·rw [if_pos h2, if_neg h2]
 rw [e1]; exact h1
structure VPa (e : Tk) (p : Pa) : Prop where
 no : VP e p.no
 un : VP e p.un
 ex : VP e p.ex
 bl : VP e p.bl
def jw1 (e : Tk) (low : Option Pa) : Prop := ∀ p, low = some p -> VPa e p
theorem VP.nest (he : IsEnd e) {low : Option Pa} (hl : jw1 e low) : VP e (jfQ low) := by
 cases low with
 | none => exact VP.ite (fun t => jif pLp t = true) (op1 := fun t _ => .bad t.pos 2) (op2 := synE) (he.p _) (end_hd.p _) (fun _ => VS.bad _ _) VP.syn
 | some p =>
  have h := hl p rfl
  exact VP.ite (fun t => jif pLp t = true) (op1 := fun t ts => (p.ex ts).andThen fun n r => Vm.xpt pRp r fun r' => .ok n r') (op2 := synE) (he.p _) (end_hd.p _) (fun _ => (h.ex.andThen fun f => VP.xpt he pRp (VS.okT f).toVS).toVS) VP.syn
theorem VP.prim (he : IsEnd e) {low : Option Pa} (hl : jw1 e low) : VP e (jce low) :=
 VP.sel (fun t => jif pLp t = true) (VP.nest he hl) <|
 VP.ite (fun t => jif wDraw t = true) (op1 := fun _ ts => (jfQ low ts).andThen fun n r => .ok (.mk 16 0 eB [n]) r) (he.p _) (end_hd.p _) (fun _ => ((VP.nest he hl).andThen fun f => VS.okT _).toVS) <|
 VP.ite (fun t => t.kind = 2) (op1 := fun t ts => .ok (.mk 12 t.n eB []) ts) (by rw [he.1]; decide) (by decide) (fun _ => (VS.okT _).toVS) <|
 VP.ite (fun t => jif jhf t = true) (op1 := fun t ts => .ok (.mk 13 1 eB []) ts) (he.p _) (end_hd.p _) (fun _ => (VS.okT _).toVS) <|
 VP.ite (fun t => jif je1 t = true) (op1 := fun t ts => .ok (.mk 13 0 eB []) ts) (he.p _) (end_hd.p _) (fun _ => (VS.okT _).toVS) <|
 VP.ite (fun t => jtX t = true) (op1 := fun t ts => .ok (.mk 14 0 t.text []) ts) he.nm end_hd.nm (fun _ => (VS.okT _).toVS) <|
 VP.ite (fun t => jvz t = true) (op1 := fun t ts => .ok (.mk 15 0 t.text []) ts) he.bi end_hd.bi (fun _ => (VS.okT _).toVS) VP.syn
theorem VP.pre (he : IsEnd e) (s : ByteArray) {op : Option (List Tk -> Pn)} (h : ∀ f, op = some f -> VP e f) {op2 : List Tk -> Pn} (h2 : VP e op2) : VP e (fun ts => if isP s ts = true then jpH s op ts else op2 ts) := by
 cases op with
 | none => exact VP.ite (fun t => jif s t = true) (op1 := fun t _ => .bad t.pos 2) (he.p _) (end_hd.p _) (fun _ => VS.bad _ _) h2
 | some f => exact VP.ite (fun t => jif s t = true) (op1 := fun t ts => (f ts).andThen fun n r => .ok (.mk 17 0 s [n]) r) (he.p _) (end_hd.p _) (fun _ => ((h f rfl).andThen fun f => VS.okT _).toVS) h2
theorem VP.una (he : IsEnd e) {low : Option Pa} (hl : jw1 e low) : VP e (jfJ low) :=
 VP.pre he pMinus (op := low.map fun p : Pa => p.un) (fun f hf => by
  cases low with
  | none => cases hf
  | some p => cases hf; exact (hl p rfl).un) (VP.prim he hl)
def chnL (op : List Tk -> Pn) (signs : List ByteArray) (l : Nt) (ts : List Tk) : Pn := jc8 op signs ts.length l ts
theorem jkj {op : List Tk -> Pn} {signs : List ByteArray} (hs : ∀ ts f r, op ts = .ok f r -> ∃ a, ts = a ++ r) : ∀ (n k : Nat) (l : Nt) (ts : List Tk), ts.length <= n -> ts.length <= k -> jc8 op signs n l ts = jc8 op signs k l ts
 | 0, 0, _, _, _, _ => rfl
 | 0, k + 1, l, ts, hn, hk => by
  obtain rfl : ts = [] := List.length_eq_zero_iff.1 (by omega)
  have h : jfI signs [] = false := Bool.eq_false_iff.2 (end_hd.any signs)
  rw [jc8, jc8, h, if_neg (by decide)]
 | n + 1, 0, l, ts, hn, hk => by
  obtain rfl : ts = [] := List.length_eq_zero_iff.1 (by omega)
  have h : jfI signs [] = false := Bool.eq_false_iff.2 (end_hd.any signs)
  rw [jc8, jc8, h, if_neg (by decide)]
 | n + 1, k + 1, l, ts, hn, hk => by
  rw [jc8, jc8]
  by_cases h : jfI signs ts = true
  ·rw [if_pos h, if_pos h]
   cases ho : op ts.tail with
   | bad x y => rfl
   | ok f r =>
    obtain ⟨a, ha⟩ := hs _ _ _ ho
    have hl : r.length <= ts.tail.length := by rw [ha, List.length_append]; omega
    have ht : ts ≠ [] := fun e0 => by
     rw [e0] at h;exact end_hd.any signs h
    have htl : ts.tail.length + 1 = ts.length := by
     cases ts with
     | nil => exact absurd rfl ht
     | cons t ts => rfl
    exact jkj hs n k _ r (by omega) (by omega)
  ·rw [if_neg h, if_neg h]
theorem jkd {op : List Tk -> Pn} {signs : List ByteArray} (hs : ∀ ts f r, op ts = .ok f r -> ∃ a, ts = a ++ r) (l : Nt) (ts : List Tk) : chnL op signs l ts = if ji6 signs (hd ts) = true then (fun t ts => (op ts).andThen fun f r => chnL op signs (.mk 18 0 t.text [l, f]) r) (hd ts) ts.tail else .ok l ts := by
 unfold chnL;rw [jkj hs ts.length (ts.length + 1) l ts (Nat.le_refl _) (by omega), jc8]
 show (if jfI signs ts = true then _ else _) = if jfI signs ts = true then _ else _
 by_cases h : jfI signs ts = true
 ·rw [if_pos h, if_pos h]
  simp only
  cases ho : op ts.tail with
  | bad x y => rfl
  | ok f r =>
   obtain ⟨a, ha⟩ := hs _ _ _ ho
   have hl : r.length <= ts.tail.length := by rw [ha, List.length_append]; omega
   have htl : ts.tail.length <= ts.length := by rw [List.length_tail]; omega
   exact jkj hs _ _ _ r (by omega) (Nat.le_refl _)
 ·rw [if_neg h, if_neg h]
theorem VP.chnL (he : IsEnd e) {op : List Tk -> Pn} {signs : List ByteArray} (h : VP e op) : ∀ l, VP e (Vm.chnL op signs l) := by
 have en : ∀ l, Vm.chnL op signs l [e] = .ok l [e] := fun l => by
  rw [jkd h.su, if_neg (show ¬ ji6 signs (hd [e]) = true from he.any signs)]
 have su : ∀ (n : Nat) (l : Nt) (ts : List Tk) (f : Nt) (r : List Tk), ts.length <= n -> Vm.chnL op signs l ts = .ok f r -> ∃ a, ts = a ++ r := fun n => by
  induction n with
  | zero =>
   intro l ts f r hn ho
   obtain rfl : ts = [] := List.length_eq_zero_iff.1 (by omega)
   rw [jkd h.su, if_neg (end_hd.any signs)] at ho
   cases ho; exact ⟨[], rfl⟩
  | succ n ih =>
   intro l ts f r hn ho;rw [jkd h.su] at ho
   split at ho
   ·cases ts with
    | nil =>
     rename_i h0
     exact absurd h0 (end_hd.any signs)
    | cons t ts =>
     simp only [List.tail_cons] at ho
     cases hq : op ts with
     | bad x y => rw [hq] at ho; cases ho
     | ok g u =>
      rw [hq] at ho
      obtain ⟨a, ha⟩ := h.su _ _ _ hq
      have hul : u.length <= n := by
       have := congrArg List.length ha
       rw [List.length_append] at this;rw [List.length_cons] at hn;omega
      obtain ⟨b, hb⟩ := ih _ u f r hul ho
      exact ⟨t :: (a ++ b), by rw [ha, hb]; simp⟩
   ·cases ho; exact ⟨[], rfl⟩
 have v : ∀ (n : Nat) (l : Nt) (m q : List Tk) (f : Nt) (r : List Tk), m.length <= n -> Vm.chnL op signs l (m ++ q) = .ok f r -> jzk e (Vm.chnL op signs l (m ++ [e])) m q f r := fun n => by
  induction n with
  | zero =>
   intro l m q f r hn ho
   obtain rfl : m = [] := List.length_eq_zero_iff.1 (by omega)
   exact .inr ⟨su _ l q f r (Nat.le_refl _) ho, .inr ⟨l, en l⟩⟩
  | succ n ih =>
   intro l m q f r hn ho
   cases m with
   | nil => exact .inr ⟨su _ l q f r (Nat.le_refl _) ho, .inr ⟨l, en l⟩⟩
   | cons t m =>
    rw [jkd h.su] at ho ⊢
    by_cases ht : ji6 signs t = true
    ·rw [if_pos (show ji6 signs (hd (t :: m ++ q)) = true from ht)] at ho;rw [if_pos (show ji6 signs (hd (t :: m ++ [e])) = true from ht)]
     have ho : (op (m ++ q)).andThen (fun f r => Vm.chnL op signs (.mk 18 0 t.text [l, f]) r) = .ok f r := ho
     show jzk e ((op (m ++ [e])).andThen (fun f r => Vm.chnL op signs (.mk 18 0 t.text [l, f]) r)) _ _ _ _
     cases hq : op (m ++ q) with
     | bad x y => rw [hq] at ho; cases ho
     | ok g u =>
      rw [hq] at ho
      have ho : Vm.chnL op signs (.mk 18 0 t.text [l, g]) u = .ok f r := ho
      rcases h.v m q g u hq with ⟨a, s, e1, e2, e3, e4⟩ | ⟨⟨a, ha⟩, h3⟩
      ·rw [e4];rw [e3] at ho
       have hsl : s.length <= n := by
        have := congrArg List.length e1
        rw [List.length_append] at this;rw [List.length_cons] at hn;omega
       rcases ih _ s q f r hsl ho with ⟨b, s2, g1, g2, g3, g4⟩ | ⟨g1, g2⟩
       ·exact .inl ⟨t :: (a ++ b), s2, by rw [e1, g1]; simp, g2, g3, g4⟩
       ·exact .inr ⟨g1, g2⟩
      ·obtain ⟨b, hb⟩ := su _ _ u f r (Nat.le_refl _) ho
       refine .inr ⟨⟨a ++ b, by rw [ha, hb, List.append_assoc]⟩, ?_⟩
       rcases h3 with h3 | ⟨f2, h3⟩
       ·rw [h3]; exact .inl rfl
       ·rw [h3]; exact .inr ⟨_, en _⟩
    ·rw [if_neg (show ¬ ji6 signs (hd (t :: m ++ q)) = true from ht)] at ho;rw [if_neg (show ¬ ji6 signs (hd (t :: m ++ [e])) = true from ht)];cases ho;exact .inl ⟨[], t :: m, rfl, by simp, rfl, rfl⟩
 exact fun l => ⟨⟨fun ts f r ho => su _ l ts f r (Nat.le_refl _) ho, fun m q f r ho => v _ l m q f r (Nat.le_refl _) ho⟩, .inr ⟨l, en l⟩⟩
theorem VP.chn (he : IsEnd e) {op : List Tk -> Pn} (signs : List ByteArray) (h : VP e op) : VP e (jcF op signs) := h.andThen (k := fun f r => Vm.chnL op signs f r) fun f => VP.chnL he h f
theorem VP.sum (he : IsEnd e) {low : Option Pa} (hl : jw1 e low) : VP e (jp4 low) := VP.chn he _ (VP.chn he _ (VP.una he hl))
theorem VP.nt (he : IsEnd e) {low : Option Pa} (hl : jw1 e low) : VP e (ntG low) :=
 VP.pre he pNot (op := low.map fun p : Pa => p.no) (fun f hf => by
  cases low with
  | none => cases hf
  | some p => cases hf; exact (hl p rfl).no) <| (VP.sum he hl).andThen (k := fun l r => if jfI cmpL r = true then (jp4 low r.tail).andThen fun m r' => .ok (.mk 18 0 (hd r).text [l, m]) r' else .ok l r) fun l =>
  VP.ite (fun t => ji6 cmpL t = true) (op1 := fun t ts => (jp4 low ts).andThen fun m r' => .ok (.mk 18 0 t.text [l, m]) r') (he.any _) (end_hd.any _) (fun _ => ((VP.sum he hl).andThen fun _ => VS.okT _).toVS) (VS.okT l)
theorem VP.exp (he : IsEnd e) {low : Option Pa} (hl : jw1 e low) : VP e (jnl low) := VP.chn he _ (VP.chn he _ (VP.nt he hl))
end
section
variable {e : Tk}
structure VX (e : Tk) (op : List Tk -> Pn) : Prop extends VP e op where
 st : ∀ ts f r, op ts = .ok f r -> r.length < ts.length
theorem VX.syn : VX e synE := ⟨VP.syn, fun ts f r h => by cases h⟩
theorem VX.ite (g : Tk -> Prop) [DecidablePred g] {op1 : Tk -> List Tk -> Pn} {op2 : List Tk -> Pn} (hg : ¬ g e) (hn : ¬ g (hd [])) (h1 : ∀ t, VS e (op1 t)) (h2 : VX e op2) : VX e (fun ts => if g (hd ts) then op1 (hd ts) ts.tail else op2 ts) := ⟨VP.ite g hg hn h1 h2.toVP, fun ts f r h => by
 cases ts with
 | nil => rw [if_neg hn] at h; exact h2.st _ f r h
 | cons t ts =>
  by_cases ht : g t
  ·rw [if_pos (show g (hd (t :: ts)) from ht)] at h
   obtain ⟨a, ha⟩ := (h1 t).su ts f r h
   have := congrArg List.length ha
   rw [List.length_append] at this;rw [List.length_cons]; omega
  ·rw [if_neg (show ¬ g (hd (t :: ts)) from ht)] at h
   exact h2.st _ f r h⟩
theorem VX.sel (g : Tk -> Prop) [DecidablePred g] {op1 op2 : List Tk -> Pn} (h1 : VX e op1) (h2 : VX e op2) : VX e (fun ts => if g (hd ts) then op1 ts else op2 ts) := ⟨VP.sel g h1.toVP h2.toVP, fun ts f r h => by
 split at h
 ·exact h1.st _ f r h
 ·exact h2.st _ f r h⟩
theorem IsEnd.tx (he : IsEnd e) {s : ByteArray} (hs : s ≠ ⟨#[]⟩) : ¬ e.text = s := fun h => hs (h.symm.trans he.2)
theorem VX.stm (he : IsEnd e) {ex bl : List Tk -> Pn} (hx : VP e ex) (hb : VP e bl) : VX e (stG ex bl) := by
 have ok : ∀ f : Nt, VS e (fun r => .ok f r) := fun f => (VS.okT f).toVS
 have semi : ∀ f : Nt, VP e (fun r => Vm.xpt pSemi r fun r => .ok f r) := fun f => VP.xpt he pSemi (ok f)
 have n0 : ∀ s : ByteArray, s ≠ ⟨#[]⟩ -> ¬ (hd []).text = s := fun s hs => end_hd.tx hs
 exact VX.ite (fun t => jtX t = true) (op1 := fun t ts => Vm.xpt pEq ts fun r => (ex r).andThen fun e r => Vm.xpt pSemi r fun r => .ok (.mk 1 0 t.text [e]) r) he.nm end_hd.nm (fun t => (VP.xpt he pEq (hx.toVS.andThen fun f => semi _)).toVS) <|
  VX.sel (fun t => t.kind ≠ 1) VX.syn <|
  VX.ite (fun t => t.text = wIf) (op1 := fun t ts => (ex ts).andThen fun c r => (bl r).andThen fun b r => if isP wElse r = true then (bl r.tail).andThen fun o r => .ok (.mk 2 0 eB [c, b, o]) r else .ok (.mk 2 0 eB [c, b, jbb []]) r) (he.tx (by decide)) (n0 _ (by decide)) (fun t => (hx.andThen fun c => hb.andThen fun b => VP.ite (fun t => jif wElse t = true) (op1 := fun t ts => (bl ts).andThen fun o r => .ok (.mk 2 0 eB [c, b, o]) r) (he.p _) (end_hd.p _) (fun _ => (hb.andThen fun o => VS.okT _).toVS) (VS.okT _)).toVS) <|
  VX.ite (fun t => t.text = wWhile) (op1 := fun t ts => (ex ts).andThen fun c r => (bl r).andThen fun b r => .ok (.mk 3 0 eB [c, b]) r) (he.tx (by decide)) (n0 _ (by decide)) (fun t => (hx.andThen fun c => hb.andThen fun b => VS.okT _).toVS) <|
  VX.ite (fun t => t.text = wSend) (op1 := fun t ts => (ex ts).andThen fun t r => Vm.xpt pComma r fun r => jgC 30 r fun n r => Vm.xpt pComma r fun r => (ex r).andThen fun a r => Vm.xpt pComma r fun r => (ex r).andThen fun b r => Vm.xpt pSemi r fun r => .ok (.mk 4 n eB [t, a, b]) r) (he.tx (by decide)) (n0 _ (by decide)) (fun t => (hx.andThen fun c => VP.xpt he pComma (VP.num he 30 fun n => (VP.xpt he pComma (hx.andThen fun a => VP.xpt he pComma (hx.andThen fun b => semi _).toVS).toVS).toVS).toVS).toVS) <|
  VX.ite (fun t => t.text = wTimer) (op1 := fun t ts => jgC 8 ts fun n r => Vm.xpt pSemi r fun r => .ok (.mk 5 n eB []) r) (he.tx (by decide)) (n0 _ (by decide)) (fun t => (VP.num he 8 fun n => (semi _).toVS).toVS) <|
  VX.ite (fun t => t.text = wCancel) (op1 := fun t ts => jgC 8 ts fun n r => Vm.xpt pSemi r fun r => .ok (.mk 6 n eB []) r) (he.tx (by decide)) (n0 _ (by decide)) (fun t => (VP.num he 8 fun n => (semi _).toVS).toVS) <|
  VX.ite (fun t => t.text = wSync) (op1 := fun t ts => Vm.xpt pSemi ts fun r => .ok (.mk 7 0 eB []) r) (he.tx (by decide)) (n0 _ (by decide)) (fun t => (semi _).toVS) <|
  VX.ite (fun t => t.text = wReply) (op1 := fun t ts => (ex ts).andThen fun a r => Vm.xpt pComma r fun r => (ex r).andThen fun b r => Vm.xpt pSemi r fun r => .ok (.mk 8 0 eB [a, b]) r) (he.tx (by decide)) (n0 _ (by decide)) (fun t => (hx.andThen fun c => VP.xpt he pComma (hx.andThen fun b => semi _).toVS).toVS) <|
  VX.ite (fun t => t.text = wFail) (op1 := fun t ts => (ex ts).andThen fun a r => Vm.xpt pSemi r fun r => .ok (.mk 9 0 eB [a]) r) (he.tx (by decide)) (n0 _ (by decide)) (fun t => (hx.andThen fun c => semi _).toVS) <|
  VX.ite (fun t => t.text = wStop) (op1 := fun t ts => Vm.xpt pSemi ts fun r => .ok (.mk 10 0 eB []) r) (he.tx (by decide)) (n0 _ (by decide)) (fun t => (semi _).toVS) VX.syn
def bkQ (st : List Tk -> Pn) (acc : List Nt) (ts : List Tk) : Pn := ji3 st ts.length acc ts
theorem jmZ {st : List Tk -> Pn} (h : VX e st) (h0 : st [] = synE []) : ∀ (n k : Nat) (acc : List Nt) (ts : List Tk), ts.length <= n -> ts.length <= k -> ji3 st n acc ts = ji3 st k acc ts
 | 0, 0, _, _, _, _ => rfl
 | 0, k + 1, acc, ts, hn, hk => by
  obtain rfl : ts = [] := List.length_eq_zero_iff.1 (by omega)
  rw [ji3, ji3, if_neg (show ¬ isP pRb [] = true from end_hd.p _), h0];rfl
 | n + 1, 0, acc, ts, hn, hk => by
  obtain rfl : ts = [] := List.length_eq_zero_iff.1 (by omega)
  rw [ji3, ji3, if_neg (show ¬ isP pRb [] = true from end_hd.p _), h0];rfl
 | n + 1, k + 1, acc, ts, hn, hk => by
  rw [ji3, ji3]
  by_cases hp : isP pRb ts = true
  ·rw [if_pos hp, if_pos hp]
  ·rw [if_neg hp, if_neg hp]
   cases ho : st ts with
   | bad x y => rfl
   | ok f r =>
    have hl := h.st _ _ _ ho
    exact jmZ h h0 n k _ r (by omega) (by omega)
theorem jnU {st : List Tk -> Pn} (h : VX e st) (h0 : st [] = synE []) (acc : List Nt) (ts : List Tk) : bkQ st acc ts = if jif pRb (hd ts) = true then .ok (jbb acc) ts.tail else (st ts).andThen fun s r => bkQ st (acc ++ [s]) r := by
 unfold bkQ;rw [jmZ h h0 ts.length (ts.length + 1) acc ts (Nat.le_refl _) (by omega), ji3]
 show (if isP pRb ts = true then _ else _) = if isP pRb ts = true then _ else _
 by_cases hp : isP pRb ts = true
 ·rw [if_pos hp, if_pos hp]
 ·rw [if_neg hp, if_neg hp]
  cases ho : st ts with
  | bad x y => rfl
  | ok f r =>
   have hl := h.st _ _ _ ho
   exact jmZ h h0 _ _ _ r (by omega) (Nat.le_refl _)
theorem jrm {st : List Tk -> Pn} (h : VX e st) (h0 : st [] = synE []) : ∀ (n : Nat) (acc : List Nt) (ts : List Tk) (f : Nt) (r : List Tk), ts.length <= n -> bkQ st acc ts = .ok f r -> ∃ a, ts = a ++ r := fun n => by
 induction n with
 | zero =>
  intro acc ts f r hn ho
  obtain rfl : ts = [] := List.length_eq_zero_iff.1 (by omega)
  rw [jnU h h0, if_neg (end_hd.p _), h0] at ho;cases ho
 | succ n ih =>
  intro acc ts f r hn ho;rw [jnU h h0] at ho
  split at ho
  ·cases ho
   cases ts with
   | nil => exact ⟨[], rfl⟩
   | cons t ts => exact ⟨[t], rfl⟩
  ·cases hq : st ts with
   | bad x y => rw [hq] at ho; cases ho
   | ok g u =>
    rw [hq] at ho
    have hl := h.st _ _ _ hq
    obtain ⟨a, ha⟩ := h.su _ _ _ hq
    obtain ⟨b, hb⟩ := ih _ u f r (by omega) ho
    exact ⟨a ++ b, by rw [ha, hb, List.append_assoc]⟩
theorem jr9 {st : List Tk -> Pn} (he : IsEnd e) (h : VX e st) (h0 : st [] = synE []) (acc : List Nt) : bkQ st acc [e] = .bad e.pos 10 := by
 rw [jnU h h0, if_neg (show ¬ jif pRb (hd [e]) = true from he.p _)]
 rcases h.en with h3 | ⟨f, h3⟩
 ·rw [h3]; rfl
 ·have := h.st _ _ _ h3
  exact absurd this (Nat.lt_irrefl _)
theorem jwH {st : List Tk -> Pn} (he : IsEnd e) (h : VX e st) (h0 : st [] = synE []) : ∀ (n : Nat) (acc : List Nt) (m q : List Tk) (f : Nt) (r : List Tk), m.length <= n -> bkQ st acc (m ++ q) = .ok f r -> (∃ a s, m = a ++ s /\ r = s ++ q /\ bkQ st acc (m ++ [e]) = .ok f (s ++ [e])) ∨ ((∃ a, q = a ++ r) /\ bkQ st acc (m ++ [e]) = .bad e.pos 10) := fun n => by
 have nil : ∀ (acc : List Nt) (q : List Tk) (f : Nt) (r : List Tk), bkQ st acc ([] ++ q) = .ok f r -> ((∃ a, q = a ++ r) /\ bkQ st acc ([] ++ [e]) = .bad e.pos 10) := fun acc q f r ho => ⟨jrm h h0 _ acc q f r (Nat.le_refl _) ho, jr9 he h h0 acc⟩
 induction n with
 | zero =>
  intro acc m q f r hn ho
  obtain rfl : m = [] := List.length_eq_zero_iff.1 (by omega)
  exact .inr (nil acc q f r ho)
 | succ n ih =>
  intro acc m q f r hn ho
  cases m with
  | nil => exact .inr (nil acc q f r ho)
  | cons t m =>
   rw [jnU h h0] at ho ⊢
   by_cases ht : jif pRb t = true
   ·rw [if_pos (show jif pRb (hd (t :: m ++ q)) = true from ht)] at ho;rw [if_pos (show jif pRb (hd (t :: m ++ [e])) = true from ht)];cases ho;exact .inl ⟨[t], m, rfl, rfl, rfl⟩
   ·rw [if_neg (show ¬ jif pRb (hd (t :: m ++ q)) = true from ht)] at ho;rw [if_neg (show ¬ jif pRb (hd (t :: m ++ [e])) = true from ht)]
    cases hq : st (t :: m ++ q) with
    | bad x y => rw [hq] at ho; cases ho
    | ok g u =>
     rw [hq] at ho
     have ho : bkQ st (acc ++ [g]) u = .ok f r := ho
     have hl := h.st _ _ _ hq
     rcases h.v (t :: m) q g u hq with ⟨a, s, e1, e2, e3, e4⟩ | ⟨⟨a, ha⟩, h3⟩
     ·rw [e4]
      show (∃ a s, _) ∨ (_ /\ bkQ st (acc ++ [g]) (s ++ [e]) = _)
      rw [e3] at ho hl;rw [List.length_append, List.length_append, List.length_cons] at hl;rw [List.length_cons] at hn
      rcases ih (acc ++ [g]) s q f r (by omega) ho with ⟨b, s2, g1, g3, g4⟩ | ⟨g1, g2⟩
      ·exact .inl ⟨a ++ b, s2, by rw [e1, g1, List.append_assoc], g3, g4⟩
      ·exact .inr ⟨g1, g2⟩
     ·obtain ⟨b, hb⟩ := jrm h h0 _ _ u f r (Nat.le_refl _) ho
      refine .inr ⟨⟨a ++ b, by rw [ha, hb, List.append_assoc]⟩, ?_⟩
      rcases h3 with h3 | ⟨f2, h3⟩
      ·rw [h3]; rfl
      ·rw [h3];exact jr9 he h h0 _
theorem VS.bkQ (he : IsEnd e) {st : List Tk -> Pn} (h : VX e st) (h0 : st [] = synE []) (acc : List Nt) : VS e (Vm.bkQ st acc) where
 su := fun ts f r ho => jrm h h0 _ acc ts f r (Nat.le_refl _) ho
 v := fun m q f r ho => by
  rcases jwH he h h0 _ acc m q f r (Nat.le_refl _) ho with ⟨a, s, e1, e2, e3⟩ | ⟨e1, e2⟩
  ·cases s with
   | nil => exact .inr ⟨⟨[], e2.symm⟩, .inr ⟨f, e3⟩⟩
   | cons t s => exact .inl ⟨a, t :: s, e1, by simp, e2, e3⟩
  ·exact .inr ⟨e1, .inl e2⟩
theorem VP.bk (he : IsEnd e) {st : List Tk -> Pn} (h : VX e st) (h0 : st [] = synE []) : VP e (bkF st) := VP.xpt he pLb (VS.bkQ he h h0 [])
theorem jz9 (ex bl : List Tk -> Pn) : stG ex bl [] = synE [] := by
 unfold stG;rw [if_neg (show ¬ jeS [] = true from end_hd.nm), if_pos (show (hd []).kind ≠ 1 by decide)]
theorem VP.bkN (he : IsEnd e) : VP e bkN := VP.ite (fun t => jif pLb t = true) (op1 := fun t _ => .bad t.pos 2) (op2 := synE) (he.p _) (end_hd.p _) (fun _ => VS.bad _ _) VP.syn
theorem VPa.pa (he : IsEnd e) {low : Option Pa} (hl : jw1 e low) : VPa e (paG low) where
 no := VP.nt he hl
 un := VP.una he hl
 ex := VP.exp he hl
 bl := VP.bk he (VX.stm he (VP.exp he hl) (by
  cases low with
  | none => exact VP.bkN he
  | some p => exact (hl p rfl).bl)) (jz9 _ _)
end
def jkn : Nat -> List Co -> List Tk
 | _, [] => []
 | p, c :: l => ⟨c.kind, p, bs c.text, c.n⟩ :: jkn (p + c.text.length + (jct (bs c.text) (glR l)).size) l
theorem jfu : ∀ (l : List Co) (p : Nat), (jkn p l).map jmz = l
 | [], _ => rfl
 | c :: l, p => by
  show jmz ⟨c.kind, p, bs c.text, c.n⟩ :: (jkn _ l).map jmz = _
  rw [jfu l];rfl
theorem jrV : ∀ (l : List Co) (b : Bool) (p : Nat), (∀ c ∈ l, LexT c) -> Fine b l -> ji5 p (glR l).data.toList = ⟨jkn p l, none⟩
 | [], b, p, _, _ => rfl
 | c :: l, b, p, hl, hf => by
  have hc := hl c List.mem_cons_self
  have step : ∀ q, ji5 q (glR l).data.toList = ⟨jkn q l, none⟩ := fun q => jrV l _ q (fun d hd => hl d (List.mem_cons_of_mem _ hd)) hf.2
  have e : (glR (c :: l)).data.toList = c.text ++ ((jct (bs c.text) (glR l)).data.toList ++ (glR l).data.toList) := by
   show (ja1 _ _).data.toList = _
   rw [jaK, jgj, jgj, jb3, List.append_assoc]
  have hg : jct (bs c.text) (glR l) = ⟨#[]⟩ ∨ (jct (bs c.text) (glR l) = ⟨#[32]⟩) := by
   unfold jct; split; exact .inl rfl; exact .inr rfl
  rcases hg with hg | hg
  ·rw [e, jkn, hg];rw [show ((⟨#[]⟩ : ByteArray).data.toList ++ (glR l).data.toList) = (glR l).data.toList from rfl];rw [jj9 hc p _ fun y r hy => ?_, step]
   ·rfl
   ·cases l with
    | nil => cases hy
    | cons d l =>
     have hd := (hl d (by simp)).ne
     have hfy : jaq (glR (d :: l)) = y := by unfold jaq; rw [hy]; rfl
     rw [jc5 hd] at hfy;refine ⟨fun hx => ?_, fun hx => ?_⟩
     ·unfold jct at hg
      split at hg
      ·rename_i hh
       rcases hh with hh | hh | hh | hh
       ·exact absurd hh (jpY hc.ne)
       ·exact absurd hh (jdM hd)
       ·rw [hx] at hh; cases hh
       ·rw [jc5 hd, hfy] at hh; exact hh
      ·exact absurd hg (by decide)
     ·rw [<- hfy]; exact hf.2.1 hx
  ·rw [e, jkn, hg];rw [show ((⟨#[32]⟩ : ByteArray).data.toList ++ (glR l).data.toList) = 32 :: (glR l).data.toList from rfl];rw [jj9 hc p _ fun y r hy => ?_, jn6 (by decide) (by decide), step]
   ·rfl
   ·cases hy
    exact ⟨fun _ => by decide, fun _ => by decide⟩
theorem TN.pos {s : ByteArray} {l : List Co} (h : TN s l) : jb4 s = ⟨jkn 0 l, none⟩ /\ jko s = jkn 0 l ++ [jfF s] := by
 have h1 := jrV l false 0 h.lx h.fi
 rw [<- h.eq] at h1
 have h2 : jb4 s = ⟨jkn 0 l, none⟩ := h1
 exact ⟨h2, by rw [jda (by rw [h2]), h2]⟩
theorem jpP {a b c : ByteArray} (hb : b ≠ ⟨#[]⟩) (hc : c ≠ ⟨#[]⟩) (h : jaq b = jaq c) : jct a b = jct a c := by
 unfold jct;rw [h]
 by_cases ha : a = ⟨#[]⟩
 ·rw [if_pos (.inl ha), if_pos (.inl ha)]
 ·by_cases h2 : jbv (jbB a) = false ∨ jbv (jaq c) = false
  ·rw [if_pos (.inr (.inr h2)), if_pos (.inr (.inr h2))]
  ·rw [if_neg, if_neg]
   ·rintro (h3 | h3 | h3)
    ·exact ha h3
    ·exact hc h3
    ·exact h2 h3
   ·rintro (h3 | h3 | h3)
    ·exact ha h3
    ·exact hb h3
    ·exact h2 h3
theorem jtU {a b c : ByteArray} (hb : b ≠ ⟨#[]⟩) (hc : c ≠ ⟨#[]⟩) (h : jbB b = jbB c) : jct b a = jct c a := by
 unfold jct;rw [h]
 by_cases ha : a = ⟨#[]⟩ ∨ jbv (jbB c) = false ∨ jbv (jaq a) = false
 ·rw [if_pos (.inr ha), if_pos (.inr ha)]
 ·rw [if_neg, if_neg]
  ·rintro (h3 | h3)
   ·exact hc h3
   ·exact ha h3
  ·rintro (h3 | h3)
   ·exact hb h3
   ·exact ha h3
theorem jtL {c : Co} : ∀ {l : List Co}, (∀ d ∈ l, d.text ≠ []) -> l ≠ [] -> jbB (glR (c :: l)) = jbB (glR l)
 | [], _, h => absurd rfl h
 | d :: l, h, _ => by
  show jbB (ja1 (bs c.text) (glR (d :: l))) = _
  rw [jaK];exact jfZ _ (jdM (h d List.mem_cons_self))
theorem jjR : ∀ (l m : List Co) (p : Nat), (∀ c ∈ l, c.text ≠ []) -> (∀ c ∈ m, c.text ≠ []) -> jkn p (l ++ m) = jkn p l ++ jkn (p + (glR l).size + (jct (glR l) (glR m)).size) m
 | [], m, p, _, _ => by
  have e : jct (glR []) (glR m) = ⟨#[]⟩ := by unfold jct; rw [if_pos (.inl rfl)]
  rw [e];rfl
 | [c], m, p, h, _ => by
  show _ :: jkn _ m = [_] ++ jkn _ m
  rw [jrj];rw [show (bs c.text).size = c.text.length from jby _];rfl
 | c :: d :: l, m, p, h, hm => by
  have hd : d.text ≠ [] := h d (by simp)
  have hc : c.text ≠ [] := h c (by simp)
  have hl : ∀ x ∈ d :: l, x.text ≠ [] := fun x hx => h x (List.mem_cons_of_mem _ hx)
  have ih := jjR (d :: l) m (p + c.text.length + (jct (bs c.text) (glR (d :: l ++ m))).size) hl hm
  show _ :: jkn (p + c.text.length + (jct (bs c.text) (glR (d :: l ++ m))).size) (d :: l ++ m) = _ :: (jkn _ (d :: l) ++ _)
  rw [ih]
  have e1 : jct (bs c.text) (glR (d :: l ++ m)) = jct (bs c.text) (glR (d :: l)) := jpP (jdM hd) (jdM hd) (by
   show jaq (glR (d :: (l ++ m))) = _
   rw [jc5 hd, jc5 hd])
  have e2 : jct (glR (c :: d :: l)) (glR m) = jct (glR (d :: l)) (glR m) := jtU (jdM hc) (jdM hd) (jtL hl (by simp))
  have e3 : (glR (c :: d :: l)).size = c.text.length + (jct (bs c.text) (glR (d :: l))).size + (glR (d :: l)).size := by
   show (ja1 (bs c.text) (glR (d :: l))).size = _
   rw [jaK, ByteArray.size_append, ByteArray.size_append, jby]
  rw [e1, e2, e3]
  congr 3
  omega
theorem Fine.left : ∀ {l m : List Co} {b : Bool}, Fine b (l ++ m) -> Fine b l
 | [], _, _, _ => trivial
 | c :: l, m, b, h => ⟨h.1, h.2.left⟩
section
variable {fu : Bool} {e : Tk}
theorem jn0 (x : Int × Nt) (q : List Co) : jdt fu x ++ q = jai wOn :: (jnM x.1 ++ (tkB fu x.2 ++ q)) := by
 unfold jdt
 simp
theorem juY (du vo : List ByteArray) : ∀ (l acc : List (Int × Nt)) (ts r : List Tk) (k : Nat), (∀ x ∈ l, HO fu x) -> (acc ++ l).Pairwise (fun a b => a.1 ≠ b.1) -> Beg ((l.map (jdt fu)).flatten) ts r -> jpl du vo (k + l.length) acc ts = jpl du vo k (acc ++ l) r
 | [], acc, ts, r, k, _, _, hb => by
  have e : ts = r := hb.nil
  rw [e, List.append_nil]; rfl
 | x :: l, acc, ts, r, k, hl, hp, hb => by
  obtain ⟨h0, h1, hbk⟩ := hl x List.mem_cons_self
  rw [List.map_cons, List.flatten_cons, jn0] at hb
  obtain ⟨p, _, _, _, q, h2⟩ := jav hb
  obtain ⟨u, h3, h4⟩ := jxD h0 h1 h2
  obtain ⟨v, h5, h6⟩ := h4.app
  have h7 := hbk u v h5
  have hne : ∀ y ∈ acc, y.1 ≠ x.1 := fun y hy => (List.pairwise_append.1 hp).2.2 y hy x List.mem_cons_self
  rw [List.length_cons, show k + (l.length + 1) = (k + l.length) + 1 by omega, jpl, if_neg (by rw [q]; decide), if_neg (by rw [p]; decide), h3]
  show (if acc.any (fun h => decide (h.1 = x.1)) = true then _ else _) = _
  rw [jz7 acc x.1 hne, if_neg (by decide), jAB, h7]
  show jpl du vo (k + l.length) (acc ++ [(x.1, x.2)]) v = _
  have ih := juY du vo l (acc ++ [x]) v r k (fun y hy => hl y (List.mem_cons_of_mem _ hy)) (by rw [List.append_assoc]; exact hp) h6
  rw [show acc ++ [(x.1, x.2)] = acc ++ [x] from rfl, ih, List.append_assoc];rfl
end
theorem jrx {u : Ut} {l : List (Int × Nt)} {x : Int × Nt} (ho : u.on = l ++ [x]) : jmc u = (dcTk ++ (l.map (jdt false)).flatten) ++ jdt false x := by
 unfold jmc;rw [ho, List.map_append, List.flatten_append, <- List.append_assoc]
 simp
def pDv : ByteArray := ⟨#[100, 117, 114, 97, 98, 108, 101, 32, 118, 59]⟩
def nV : ByteArray := ⟨#[118]⟩
def dpTk : List Co := [jai wDurable, jai nV, jad pSemi]
theorem tn_dp : TN pDv dpTk := by
 have h := (((jdC nV (jfL _ (by decide)) (by decide) (by decide)).wrd wDurable (jfL _ (by decide)) (by decide)).end)
 have e : pDv = ja1 (ja1 wDurable nV) pSemi := by decide
 rw [e];exact h
theorem jxL {w a : ByteArray} {names out : List ByteArray} {q : List Co} {ts r : List Tk} (hb : Beg (jai w :: jai a :: jad pSemi :: q) ts r) (ha : jsV a = true) (h1 : names.any (fun s => decide (s = a)) = false) (hl : names.length + 1 <= 16) : jiM ts.length names out ts = .ok (names ++ [a]) (out ++ [a]) ts.tail.tail.tail /\ Beg q ts.tail.tail.tail r := by
 have hlen := hb.len
 simp only [List.length_cons] at hlen
 obtain ⟨n, hn⟩ : ∃ n, ts.length = n + 1 := ⟨ts.length - 1, by omega⟩
 rw [hn]
 obtain ⟨_, _, _, _, _, g1⟩ := jav hb
 obtain ⟨_, n1, _, t1, _, g2⟩ := jav g1
 obtain ⟨p2, _, _, g3⟩ := jcM g2
 refine ⟨?_, g3⟩
 have n1 : jeS ts.tail = true := by rw [n1]; exact ha
 rw [jiM, if_neg (by rw [n1]; decide), t1, if_neg (by rw [h1]; decide), if_neg (by omega), p2, if_neg (by decide), p2, if_pos (by decide)]
theorem jmY {w a b : ByteArray} {names out : List ByteArray} {q : List Co} {ts r : List Tk} (hb : Beg (jai w :: jai a :: jad pComma :: jai b :: jad pSemi :: q) ts r) (ha : jsV a = true) (hf : jsV b = true) (h1 : names.any (fun s => decide (s = a)) = false) (h2 : (names ++ [a]).any (fun s => decide (s = b)) = false) (hl : names.length + 2 <= 16) : jiM ts.length names out ts = .ok (names ++ [a] ++ [b]) (out ++ [a] ++ [b]) ts.tail.tail.tail.tail.tail /\ Beg q ts.tail.tail.tail.tail.tail r := by
 have hlen := hb.len
 simp only [List.length_cons] at hlen
 obtain ⟨n, hn⟩ : ∃ n, ts.length = n + 2 := ⟨ts.length - 2, by omega⟩
 rw [hn]
 obtain ⟨_, _, _, _, _, g1⟩ := jav hb
 obtain ⟨_, n1, _, t1, _, g2⟩ := jav g1
 obtain ⟨p2, _, _, g3⟩ := jcM g2
 obtain ⟨_, n3, _, t3, _, g4⟩ := jav g3
 obtain ⟨p4, _, _, g5⟩ := jcM g4
 refine ⟨?_, g5⟩
 have n1 : jeS ts.tail = true := by rw [n1]; exact ha
 have n3 : jeS ts.tail.tail.tail = true := by rw [n3]; exact hf
 rw [jiM, if_neg (by rw [n1]; decide), t1, if_neg (by rw [h1]; decide), if_neg (by omega), p2, if_pos (by decide), jiM, if_neg (by rw [n3]; decide), t3, if_neg (by rw [h2]; decide), if_neg (by rw [List.length_append]; simp only [List.length_cons, List.length_nil]; omega), p4, if_neg (by decide), p4, if_pos (by decide)]
theorem jyN {w a : ByteArray} {names out : List ByteArray} {q : List Co} {ts r : List Tk} (hb : Beg (jai w :: jai a :: q) ts r) (ha : jsV a = true) (h1 : names.any (fun s => decide (s = a)) = true) : jiM ts.length names out ts = .bad (hd ts.tail).pos 4 := by
 have hlen := hb.len
 simp only [List.length_cons] at hlen
 obtain ⟨n, hn⟩ : ∃ n, ts.length = n + 1 := ⟨ts.length - 1, by omega⟩
 rw [hn]
 obtain ⟨_, _, _, _, _, g1⟩ := jav hb
 obtain ⟨_, n1, _, t1, _, g2⟩ := jav g1
 have n1 : jeS ts.tail = true := by rw [n1]; exact ha
 rw [jiM, if_neg (by rw [n1]; decide), t1, if_pos h1]
def jx9 : List Co := dpTk ++ [jai wDurable, jai ⟨#[100]⟩, jad pComma, jai ⟨#[100, 100, 49]⟩, jad pSemi, jai wVolatile]
theorem js8 (u : Ut) : dpTk ++ jmc u = jx9 ++ jai nV :: ([jad pComma, jai ⟨#[119, 50]⟩, jad pSemi] ++ (u.on.map (jdt false)).flatten) := by
 unfold jmc jx9 dcTk;simp only [List.append_assoc, List.cons_append, List.nil_append];rfl
theorem jrG : (glR jx9).size = 32 := by decide +kernel
theorem jtz : jbv (jbB (glR jx9)) = true := by decide +kernel
theorem jsd {a b : ByteArray} (ha : a ≠ ⟨#[]⟩) (hb : b ≠ ⟨#[]⟩) (h1 : jbv (jbB a) = true) (h2 : jbv (jaq b) = true) : jct a b = ⟨#[32]⟩ := by
 unfold jct;rw [if_neg];rintro (h | h | h | h)
 ·exact ha h
 ·exact hb h
 ·rw [h1] at h; cases h
 ·rw [h2] at h; cases h
theorem jvV {u : Ut} (hu : GW u) : jgw (pDv ++ prF u) = .bad 33 4 := by
 have hz := hu.size
 have tn : TN (pDv ++ prF u) (dpTk ++ jmc u) := by
  have h := tn_dp.cat (ju4 hu.1)
  rw [jem pDv _ (by decide)] at h;exact h
 obtain ⟨p1, p2⟩ := tn.pos
 have lx := tn.lx
 have hsz : (pDv ++ prF u).size <= 3000 := by
  rw [ByteArray.size_append]
  have : pDv.size = 10 := rfl
  omega
 rw [jnL hsz (by rw [p1])]
 have hb : Beg (dpTk ++ jmc u) (jko (pDv ++ prF u)) [jfF (pDv ++ prF u)] := ⟨_, p2, jfu _ _⟩
 generalize jfF (pDv ++ prF u) = e at *;generalize jko (pDv ++ prF u) = T at *;rw [js8] at hb lx p2
 have hgap : jct (glR jx9) (glR (jai nV :: ([jad pComma, jai ⟨#[119, 50]⟩, jad pSemi] ++ (u.on.map (jdt false)).flatten))) = ⟨#[32]⟩ :=
  jsd (fun h => by have := jrG; rw [h] at this; cases this) (jdM (c := jai nV) (by decide)) jtz (by rw [jc5 (c := jai nV) (by decide)]; decide)
 have hh : (hd T.tail.tail.tail.tail.tail.tail.tail.tail.tail).pos = 33 := by
  rw [p2, jjR jx9 _ 0 (fun c hc => (lx c (List.mem_append_left _ hc)).ne) (fun c hc => (lx c (List.mem_append_right _ hc)).ne), hgap, jrG];rfl
 generalize [jad pComma, jai ⟨#[119, 50]⟩, jad pSemi] ++ (u.on.map (jdt false)).flatten = Z at *
 have hb : Beg (jai wDurable :: jai nV :: jad pSemi :: jai wDurable :: jai ⟨#[100]⟩ :: jad pComma :: jai ⟨#[100, 100, 49]⟩ :: jad pSemi :: jai wVolatile :: jai nV :: Z) T [e] := hb
 obtain ⟨e1, g1⟩ := jxL (names := []) (out := []) hb (by decide) (by decide) (by decide)
 obtain ⟨e2, g2⟩ := jmY (names := [nV]) (out := []) g1 (by decide) (by decide) (by decide) (by decide) (by decide)
 have e3 := jyN (names := [nV] ++ [⟨#[100]⟩] ++ [⟨#[100, 100, 49]⟩]) (out := []) g2 (by decide) (by decide)
 obtain ⟨p3, _⟩ := jav hb
 obtain ⟨p4, _⟩ := jav g1
 obtain ⟨p5, _⟩ := jav g2
 have hlen := hb.len
 simp only [List.length_cons] at hlen
 obtain ⟨n, hn⟩ : ∃ n, T.length + 1 = n + 3 := ⟨T.length - 2, by omega⟩
 unfold jsu;rw [hn, jlg, if_pos (by rw [p3]; decide), e1]
 show jlg (n + 2) [nV] ([] ++ [nV]) [] T.tail.tail.tail = _
 rw [jlg, if_pos (by rw [p4]; decide), e2]
 show jlg (n + 1) ([nV] ++ [⟨#[100]⟩] ++ [⟨#[100, 100, 49]⟩]) _ [] T.tail.tail.tail.tail.tail.tail.tail.tail = _
 rw [jlg, if_neg (by rw [p5]; decide), if_pos (by rw [p5]; decide), e3]
 show PU.bad (hd T.tail.tail.tail.tail.tail.tail.tail.tail.tail).pos 4 = _
 rw [hh];rfl
section
variable {fu : Bool}
theorem jzd (du vo : List ByteArray) {x : Int × Nt} (hx : HO fu x) {acc : List (Int × Nt)} (hd0 : acc.any (fun h => decide (h.1 = x.1)) = true) {q : List Co} {ts r : List Tk} (ht : Beg (jdt fu x ++ q) ts r) (k : Nat) : jpl du vo (k + 1) acc ts = .bad (hd ts.tail).pos 4 := by
 obtain ⟨h0, h1, hbk⟩ := hx
 rw [jn0] at ht
 obtain ⟨p, _, _, _, q, h2⟩ := jav ht
 obtain ⟨v, h3, h4⟩ := jxD h0 h1 h2
 rw [jpl, if_neg (by rw [q]; decide), if_neg (by rw [p]; decide), h3]
 show (if acc.any (fun h => decide (h.1 = x.1)) = true then _ else _) = _
 rw [if_pos hd0]
theorem Beg.suf {q : List Co} {ts r : List Tk} (h : Beg q ts r) : ∃ m, ts = m ++ r := by
 obtain ⟨m, h1, _⟩ := h
 exact ⟨m, h1⟩
theorem jwO {u : Ut} (h : GU u) {x : Int × Nt} (hx : x ∈ u.on) {ts r : List Tk} (ht : Beg (jmc u ++ jdt false x) ts r) : ∃ m z, ts = m ++ z /\ z.length = (jdt false x).length + r.length /\ jsu ts = .bad (hd z.tail).pos 4 := by
 have hho := h.ho (fu := false)
 have h4 := h.2.2.2.1
 have hp : u.on.Pairwise (fun a b => a.1 ≠ b.1) := h4.imp fun hab => by omega
 have ht : Beg (jai wDurable :: jai ⟨#[100]⟩ :: jad pComma :: jai ⟨#[100, 100, 49]⟩ :: jad pSemi :: jai wVolatile :: jai ⟨#[118]⟩ :: jad pComma :: jai ⟨#[119, 50]⟩ :: jad pSemi :: ((u.on.map (jdt false)).flatten ++ jdt false x)) ts r := by
  have e : jmc u ++ jdt false x = jai wDurable :: jai ⟨#[100]⟩ :: jad pComma :: jai ⟨#[100, 100, 49]⟩ :: jad pSemi :: jai wVolatile :: jai ⟨#[118]⟩ :: jad pComma :: jai ⟨#[119, 50]⟩ :: jad pSemi :: ((u.on.map (jdt false)).flatten ++ jdt false x) := by
   unfold jmc dcTk;rw [List.append_assoc];rfl
  rw [<- e]; exact ht
 obtain ⟨e1, g1⟩ := jmY (names := []) (out := []) ht (by decide) (by decide) (by decide) (by decide) (by decide)
 obtain ⟨e2, g2⟩ := jmY (names := duL) (out := []) g1 (by decide) (by decide) (by decide) (by decide) (by decide)
 obtain ⟨p1, _⟩ := jav ht
 obtain ⟨p2, _⟩ := jav g1
 have hlen := ht.len
 simp only [List.length_cons] at hlen
 obtain ⟨n, hn⟩ : ∃ n, ts.length + 1 = n + 3 := ⟨ts.length - 2, by omega⟩
 obtain ⟨w, hw⟩ : ∃ w, ts.tail.tail.tail.tail.tail.tail.tail.tail.tail.tail = w := ⟨_, rfl⟩
 have hts : ∃ m, ts = m ++ w := by
  refine ⟨ts.take 10, ?_⟩;rw [<- hw];simp only [<- List.drop_one, List.drop_drop];exact (List.take_append_drop 10 ts).symm
 rw [hw] at g2
 have hon : isP wDurable w = false /\ isP wVolatile w = false := by
  cases hl : u.on with
  | nil => rw [hl] at hx; cases hx
  | cons y l =>
   rw [hl, List.map_cons, List.flatten_cons, List.append_assoc, jn0] at g2
   obtain ⟨p, _⟩ := jav g2
   rw [p, p]; decide
 obtain ⟨z, g3, g4⟩ := g2.app
 obtain ⟨m1, hm1⟩ := g3.suf
 obtain ⟨m0, hm0⟩ := hts
 refine ⟨m0 ++ m1, z, by rw [hm0, hm1, List.append_assoc], g4.len, ?_⟩
 have hzl : 1 <= z.length := by
  have := g4.len
  have : 1 <= (jdt false x).length := by unfold jdt; simp
  omega
 have hwl := g3.len
 have hll := jwR (fu := false) u.on
 unfold jsu;rw [hn, jlg, if_pos (by rw [p1]; decide), e1]
 show jlg (n + 2) duL ([] ++ duL) [] ts.tail.tail.tail.tail.tail = _
 rw [jlg, if_neg (by rw [p2]; decide), if_pos (by rw [p2]; decide), e2]
 show jlg (n + 1) _ duL voL ts.tail.tail.tail.tail.tail.tail.tail.tail.tail.tail = _
 rw [hw, jlg, if_neg (by rw [hon.1]; decide), if_neg (by rw [hon.2]; decide)]
 obtain ⟨k, hk⟩ : ∃ k, w.length + 1 = k + 1 + u.on.length := ⟨w.length - u.on.length, by omega⟩
 rw [hk, juY duL voL u.on [] w z (k + 1) hho hp g3];refine jzd duL voL (hho x hx) (acc := [] ++ u.on) ?_ (q := []) (by rw [List.append_nil]; exact g4) k;rw [List.any_eq_true];exact ⟨x, hx, by simp⟩
theorem jwv (n : Int) : ∃ w l, jnM n = jai w :: l /\ jbv (jaq w) = true /\ w.data.toList ≠ [] := by
 unfold jnM
 repeat' split
 all_goals exact ⟨_, _, rfl, by decide, by decide⟩
theorem jvg {u : Ut} (h : GU u) (hn : u.on ≠ []) : jbv (jbB (prF u)) = false := by
 have tn := ju4 h
 obtain ⟨l, y, ho⟩ : ∃ l y, u.on = l ++ [y] := ⟨u.on.dropLast, u.on.getLast hn, (List.dropLast_concat_getLast _).symm⟩
 have hek : EK y.2 := (h.2.2.1 y (by rw [ho]; simp)).2.2
 obtain ⟨k, hk, _⟩ := hek
 obtain ⟨Q, hQ⟩ : ∃ Q, jmc u = Q ++ [jad pRb] := by
  rw [jrx ho];refine ⟨(dcTk ++ (l.map (jdt false)).flatten) ++ (jai wOn :: (jnM y.1 ++ jad pLb :: (jx5 false k).flatten)), ?_⟩
  have e : jdt false y = (jai wOn :: (jnM y.1 ++ jad pLb :: (jx5 false k).flatten)) ++ [jad pRb] := by
   unfold jdt;rw [hk];unfold jbb;rw [tkB];simp only [List.append_assoc, List.cons_append]
  rw [e]; simp only [List.append_assoc]
 have lx := tn.lx
 rw [tn.eq, hQ];rw [hQ] at lx;rw [jjL Q [jad pRb] (fun c hc => (lx c (List.mem_append_left _ hc)).ne) (fun c hc => (lx c (List.mem_append_right _ hc)).ne), jaK, jfZ _ (by decide)];decide
theorem jxP {u : Ut} (hu : GW u) {x : Int × Nt} (hx : x ∈ u.on) : (prF u ++ hdN false x).size <= 3000 /\ jgw (prF u ++ hdN false x) = .bad (((prF u).size + 3 : Nat) : Int) 4 := by
 have hz := hu.size
 have hl := jvg hu.1 (fun h => by rw [h] at hx; cases hx)
 have th := hu.1.hd (fu := false) x hx
 have tp := ju4 hu.1
 have tn : TN (prF u ++ hdN false x) (jmc u ++ jdt false x) := by
  have h := tp.cat th
  rw [jem (prF u) _ hl] at h;exact h
 obtain ⟨p1, p2⟩ := tn.pos
 have hsz : (prF u ++ hdN false x).size <= 3000 := by
  rw [ByteArray.size_append]
  have h1 := jjP (jdt false x)
  rw [<- th.eq] at h1
  have h2 := (hu.twK 1 (by omega) (by omega)).2.2 x hx
  omega
 refine ⟨hsz, ?_⟩;rw [jnL hsz (by rw [p1])]
 obtain ⟨m, z, e1, e2, e3⟩ := jwO hu.1 hx (ts := jko (prF u ++ hdN false x)) (r := [jfF (prF u ++ hdN false x)]) ⟨_, p2, jfu _ _⟩
 rw [e3]
 have lx := tn.lx
 rw [p2, jjR _ _ 0 (fun c hc => (lx c (List.mem_append_left _ hc)).ne) (fun c hc => (lx c (List.mem_append_right _ hc)).ne), List.append_assoc] at e1
 have hgap : jct (glR (jmc u)) (glR (jdt false x)) = ⟨#[]⟩ := by
  rw [<- tp.eq];unfold jct;rw [if_pos (.inr (.inr (.inl hl)))]
 rw [hgap, <- tp.eq] at e1
 have hzz : jkn (0 + (prF u).size + (⟨#[]⟩ : ByteArray).size) (jdt false x) ++ [jfF (prF u ++ hdN false x)] = z := by
  refine List.append_inj_right' e1 ?_;rw [e2, List.length_append, <- List.length_map (f := jmz), jfu]
 rw [<- hzz]
 obtain ⟨w, l, hw, hw2, hw3⟩ := jwv x.1
 have e4 : jdt false x = jai wOn :: jai w :: (l ++ tkB false x.2) := by
  show jai wOn :: (jnM x.1 ++ tkB false x.2) = _
  rw [hw]; rfl
 rw [e4]
 have hg2 : jct (bs (jai wOn).text) (glR (jai w :: (l ++ tkB false x.2))) = ⟨#[32]⟩ := by
  refine jsd (by decide) (jdM (c := jai w) hw3) (by decide) ?_;rw [jc5 (c := jai w) hw3]
  show jbv (jaq (bs w.data.toList)) = true
  rw [jb2];exact hw2
 show PU.bad ((0 + (prF u).size + 0 + 2 + (jct (bs (jai wOn).text) (glR (jai w :: (l ++ tkB false x.2)))).size : Nat) : Int) 4 = _
 rw [hg2]
 show PU.bad ((0 + (prF u).size + 0 + 2 + 1 : Nat) : Int) 4 = _
 congr 2
 omega
set_option maxHeartbeats 1000000 in
theorem dup_law_spec (l : List Int) (c : Int) : Spec Tryz.prog 10 [] [.sl 1 l.length (jeR l), jao c] fun _ r => r = jbG true := by
 obtain ⟨u, hu, hpg⟩ := jyy l
 have h0 := jmI
 have hpp := jyf hu.1
 have hz := hu.size
 have hdv := jvV hu
 have ps1 := jdk (pDv ++ prF u) (by rw [ByteArray.size_append]; have : pDv.size = 10 := rfl; omega)
 rw [hdv, show jrP (.bad 33 4) = .tup [.agg jhK, jao 33, jao 4] from rfl] at ps1
 by_cases hon : u.on.length = 0
 ·generalize prF u = s at *;refine ja5 (ja2 (fun id => match Nat.beq id 9 with | true => .q 0 7 .nil | false => jyJ id) xs0 0) (fun _ _ h => h) Tryz.func10 rfl (by kernel_rfl) rfl (by kernel_rfl) ?_;intro hok;conv => whnf
  (refine ja9 [] rfl (fun _ => hpg) ?_; rintro r rfl; conv => whnf)
  (refine ja9 [] rfl (fun _ => hpp) ?_; rintro r rfl; conv => whnf)
  refine ⟨by show pDv.size + s.size <= maxLen; have : pDv.size = 10 := rfl; unfold maxLen; omega, ?_⟩;conv => whnf
  (refine ja9 [] rfl (fun _ => ps1) ?_; rintro r rfl; conv => whnf)
  rw [decide_eq_true (show (u.on.length : Int) = 0 by omega)];conv => whnf
  (refine ja9 [] rfl (fun _ => h0) ?_; rintro r rfl; conv => whnf)
  rfl
 have ho4 := hu.1.pu.on
 have hhd := fun x hx => hu.1.pu.hd false x hx
 have hdd := fun x hx => jxP hu (x := x) hx
 generalize prF u = s at *;refine ja5 (ja2 (fun id => match Nat.beq id 9 with | true => .q 0 7 .nil | false => jyJ id) xs0 0) (fun _ _ h => h) Tryz.func10 rfl (by kernel_rfl) rfl (by kernel_rfl) ?_;intro hok;conv => whnf
 (refine ja9 [] rfl (fun _ => hpg) ?_; rintro r rfl; conv => whnf)
 (refine ja9 [] rfl (fun _ => hpp) ?_; rintro r rfl; conv => whnf)
 refine ⟨by show pDv.size + s.size <= maxLen; have : pDv.size = 10 := rfl; unfold maxLen; omega, ?_⟩;conv => whnf
 (refine ja9 [] rfl (fun _ => ps1) ?_; rintro r rfl; conv => whnf)
 rw [decide_eq_false (show ¬ (u.on.length : Int) = 0 by omega)];conv => whnf
 have hrg : 0 <= jca c u.on.length /\ jca c u.on.length < u.on.length := jhu (okA_int.1 (jqs hok (show jao c ∈ [A.sl 1 l.length (jeR l), jao c] by simp))) (by omega)
 have har : Spec Tryz.prog 20 [] [jao c, jao u.on.length] fun _ r => r = jao (jca c u.on.length) := Spec.mono (jeU c u.on.length (by omega)) fun o r h => h.2
 obtain ⟨k, hk⟩ : ∃ k : Nat, jca c u.on.length = (k : Int) := ⟨(jca c u.on.length).toNat, by omega⟩
 rw [hk] at hrg har
 have hklt : k < u.on.length := by omega
 have hr := jkO u.on k hklt
 obtain ⟨hhz, hhs⟩ := hhd u.on[k] (List.getElem_mem hklt)
 obtain ⟨hd1, hd2⟩ := hdd u.on[k] (List.getElem_mem hklt)
 generalize u.on[k] = x at *;generalize hdN false x = h at *
 have ps2 := jdk (s ++ h) (by omega)
 rw [hd2, show jrP (.bad ((s.size + 3 : Nat) : Int) 4) = .tup [.agg jhK, jao ((s.size + 3 : Nat) : Int), jao 4] from rfl] at ps2
 (iterate 6 (apply jg9; (focus ((conv => whnf); exact ⟨rfl, rfl, rfl⟩)); (conv => whnf)))
 (apply jg9; (focus ((conv => whnf); refine ja9 [] rfl (fun _ => har) ?_; rintro r rfl; (conv => whnf); exact ⟨rfl, rfl, rfl⟩)); (conv => whnf))
 (apply jg9; (focus ((conv => whnf); refine ⟨by omega, ?_⟩; (generalize hrq : jae _ _ (jlN u.on) = rq; obtain rfl : rq = hnA x := hrq.symm.trans (hr); exact ⟨rfl, rfl, rfl⟩))); (conv => whnf))
 (iterate 1 (apply jg9; (focus ((conv => whnf); exact ⟨rfl, rfl, rfl⟩)); (conv => whnf)))
 (apply jg9; (focus ((conv => whnf); refine ja9 [] rfl (fun _ => hhs) ?_; rintro r rfl; (conv => whnf); exact ⟨rfl, rfl, rfl⟩)); (conv => whnf))
 (iterate 1 (apply jg9; (focus ((conv => whnf); exact ⟨rfl, rfl, rfl⟩)); (conv => whnf)))
 refine ⟨by show s.size + h.size <= maxLen; unfold maxLen; omega, ?_⟩;conv => whnf
 (refine ja9 [] rfl (fun _ => ps2) ?_; rintro r rfl; conv => whnf)
 refine ⟨jaL (by omega), ?_⟩;conv => whnf;rw [decide_eq_true (show ((s.size + 3 : Nat) : Int) = (s.size : Int) + 3 by omega)];conv => whnf
 (refine ja9 [] rfl (fun _ => h0) ?_; rintro r rfl; conv => whnf)
 rfl
end
end Go.Proofs.YtmodkpibkkpcdaaGreatDoor.Vm
