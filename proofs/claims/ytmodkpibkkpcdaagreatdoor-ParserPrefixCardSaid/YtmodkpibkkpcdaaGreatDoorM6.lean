/- Texts 6 of the proof: U13, U14, U15, U16, U17, U18, U19, U20, U21, U22, U23, U24, U25, U26, U27, U28, U29, U30, U31, U32. -/
import Derived.Test.YtmodkpibkkpcdaaGreatDoorM5
namespace Go.Proofs.YtmodkpibkkpcdaaGreatDoor.Vm
open Go.RowKit Go.Shelf
set_option linter.unusedSimpArgs false
set_option linter.unusedVariables false
set_option maxRecDepth 100000
def jcP : Int -> List UInt8 -> Int
 | n, [] => n
 | n, c :: r => jcP (10 * n + (c.toNat : Int) - 48) r
theorem jn2 {c : UInt8} (h : isD c = true) : 48 <= (c.toNat : Int) /\ (c.toNat : Int) <= 57 := by
 unfold isD at h;simp only [Bool.and_eq_true, decide_eq_true_eq] at h;exact h
theorem jhb : ∀ (l : List UInt8) (n : Int), 0 <= n -> (∀ c ∈ l, isD c = true) -> n <= jcP n l
 | [], n, _, _ => Int.le_refl n
 | c :: r, n, h0, h => by
  have hc := jn2 (h c (by simp))
  have := jhb r (10 * n + (c.toNat : Int) - 48) (by omega) (fun c hc => h c (by simp [hc]))
  show n <= jcP (10 * n + (c.toNat : Int) - 48) r
  omega
theorem jh8 : ∀ (l : List UInt8) (n : Int), 0 <= n -> n <= 2147483647 -> (∀ c ∈ l, isD c = true) -> jgA n l = if 2147483647 < jcP n l then -1 else jcP n l
 | [], n, _, h, _ => by
  show n = if 2147483647 < n then -1 else n
  rw [if_neg (by omega)]
 | c :: r, n, h0, h1, h => by
  have hc := jn2 (h c (by simp))
  have hr : ∀ c ∈ r, isD c = true := fun c hc => h c (by simp [hc])
  show (if 2147483647 < 10 * n + (c.toNat : Int) - 48 then -1 else jgA (10 * n + (c.toNat : Int) - 48) r) = if 2147483647 < jcP (10 * n + (c.toNat : Int) - 48) r then -1 else jcP (10 * n + (c.toNat : Int) - 48) r
  have hg := jhb r (10 * n + (c.toNat : Int) - 48) (by omega) hr
  by_cases hx : 2147483647 < 10 * n + (c.toNat : Int) - 48
  ·rw [if_pos hx, if_pos (by omega)]
  ·rw [if_neg hx, jh8 r _ (by omega) (by omega) hr]
theorem jiX : ∀ (l m : List UInt8) (n : Int), jcP n (l ++ m) = jcP (jcP n l) m
 | [], m, n => rfl
 | c :: r, m, n => jiX r m _
theorem jrQ (n : Nat) : ((UInt8.ofNat (48 + n % 10)).toNat : Int) = 48 + n % 10 := by
 rw [UInt8.toNat_ofNat']; omega
theorem joH : ∀ (f n : Nat), n <= f -> ∀ c ∈ jmb n, isD c = true
 | f, 0, _, c, hc => by rw [jdd] at hc; cases hc
 | 0, n + 1, h, _, _ => by omega
 | f + 1, n + 1, h, c, hc => by
  rw [jcl (by omega)] at hc
  rcases List.mem_append.1 hc with hc | hc
  ·exact joH f ((n + 1) / 10) (by omega) c hc
  ·obtain rfl := List.mem_singleton.1 hc
   unfold isD;rw [jrQ];simp only [Bool.and_eq_true, decide_eq_true_eq];omega
theorem joh : ∀ (f n : Nat), n <= f -> jcP 0 (jmb n) = n
 | f, 0, _ => by rw [jdd]; rfl
 | 0, n + 1, h => by omega
 | f + 1, n + 1, h => by
  rw [jcl (by omega), jiX, joh f ((n + 1) / 10) (by omega)]
  show 10 * (((n + 1) / 10 : Nat) : Int) + ((UInt8.ofNat (48 + (n + 1) % 10)).toNat : Int) - 48 = _
  rw [jrQ]; omega
theorem jnS (n : Nat) : ∀ c ∈ jb3 n, isD c = true := by
 unfold jb3
 split
 ·intro c hc; obtain rfl := List.mem_singleton.1 hc; decide
 ·exact joH n n (Nat.le_refl _)
theorem jtC (n : Nat) : jcP 0 (jb3 n) = n := by
 unfold jb3
 split
 ·rename_i h; subst h; rfl
 ·exact joh n n (Nat.le_refl _)
theorem jwi (n : Nat) : jb3 n ≠ [] := by
 unfold jb3
 split
 ·simp
 ·rename_i h; rw [jcl h]; simp
structure Co where
 kind : Int
 text : List UInt8
 n : Int
def jib (t : Tk) : Co := ⟨t.kind, t.text.data.toList, t.n⟩
def glR : List Co -> ByteArray
 | [] => ⟨#[]⟩
 | x :: l => ja1 (bs x.text) (glR l)
def jfw (x : List UInt8) : Bool := !(decide (x = [60]) || decide (x = [62]) || decide (x = [61]) || decide (x = [33]))
def okN (x : List UInt8) (y : UInt8) : Prop := (jbP (jbQ (bs x)) = true -> jbP y = false) /\ (jfw x = false -> y ≠ 61)
structure LexT (c : Co) : Prop where
 ne : c.text ≠ []
 st : ∀ y r, c.text = y :: r -> jce y = false /\ jp9 y = false
 go : ∀ rest, (∀ y r, rest = y :: r -> okN c.text y) -> jbh (c.text ++ rest) = .tok c.kind c.text.length c.n
def Fine : Bool -> List Co -> Prop
 | _, [] => True
 | b, c :: l => (b = false -> jaq (bs c.text) ≠ 61) /\ Fine (jfw c.text) l
theorem Fine.more {b : Bool} : ∀ {l : List Co}, Fine false l -> Fine b l
 | [], _ => trivial
 | c :: l, h => ⟨fun _ => h.1 rfl, h.2⟩
theorem Fine.app : ∀ {l m : List Co} {b : Bool}, Fine b l -> Fine false m -> Fine b (l ++ m)
 | [], m, b, _, h => h.more
 | c :: l, m, b, h, k => ⟨h.1, h.2.app k⟩
def EndS : List Co -> Prop
 | [] => False
 | [c] => jfw c.text = true
 | _ :: l => EndS l
theorem Fine.app2 : ∀ {l m : List Co} {b : Bool}, Fine b l -> EndS l -> Fine true m -> Fine b (l ++ m)
 | [], m, b, _, h, _ => h.elim
 | [c], m, b, h, e, k => ⟨h.1, by rw [show jfw c.text = true from e]; exact k⟩
 | c :: d :: l, m, b, h, e, k => ⟨h.1, Fine.app2 (l := d :: l) h.2 e k⟩
theorem EndS.app : ∀ {l m : List Co}, EndS m -> EndS (l ++ m)
 | [], m, h => h
 | [c], m, h => by
  cases m with
  | nil => exact h.elim
  | cons d m => exact h
 | c :: d :: l, m, h => EndS.app (l := d :: l) h
theorem jpP {l : List UInt8} (h : l ≠ []) : bs l ≠ ⟨#[]⟩ := by
 rw [jwT, jaY]; exact h
theorem jfq {c : Co} {l : List Co} (h : c.text ≠ []) : glR (c :: l) ≠ ⟨#[]⟩ := jft (jpP h)
theorem jdb {c : Co} {l : List Co} (h : c.text ≠ []) : jaq (glR (c :: l)) = jaq (bs c.text) := by
 show jaq (ja1 _ _) = _
 rw [jaB, jfh]; exact jhZ _ (jpP h)
theorem jjJ {c : Co} (h : LexT c) (p : Nat) (rest : List UInt8) (hr : ∀ y r, rest = y :: r -> okN c.text y) : ji5 p (c.text ++ rest) = Lx.cons ⟨c.kind, p, bs c.text, c.n⟩ (ji5 (p + c.text.length) rest) := by
 obtain ⟨h1, h2, h3⟩ := h
 have h3 := h3 rest hr
 cases hc : c.text with
 | nil => exact absurd hc h1
 | cons y r =>
  obtain ⟨g1, g2⟩ := h2 y r hc
  rw [hc] at h3
  have e := jk1 (p := p) g1 g2 (r := r ++ rest) h3
  rw [show y :: r ++ rest = y :: (r ++ rest) from rfl, e]
  congr 2
  ·congr 1
   rw [show y :: (r ++ rest) = (y :: r) ++ rest from rfl, List.take_left'];rfl
  ·rw [show y :: (r ++ rest) = (y :: r) ++ rest from rfl, List.drop_left'];rfl
theorem js3 : ∀ (l : List Co) (b : Bool) (p : Nat), (∀ c ∈ l, LexT c) -> Fine b l -> ∃ ts, ji5 p (glR l).data.toList = ⟨ts, none⟩ /\ ts.map jib = l
 | [], b, p, _, _ => ⟨[], rfl, rfl⟩
 | c :: l, b, p, hl, hf => by
  have hc := hl c List.mem_cons_self
  have step : ∀ q, ∃ ts, ji5 q (glR l).data.toList = ⟨ts, none⟩ /\ ts.map jib = l := fun q => js3 l _ q (fun d hd => hl d (List.mem_cons_of_mem _ hd)) hf.2
  have e : (glR (c :: l)).data.toList = c.text ++ ((jda (bs c.text) (glR l)).data.toList ++ (glR l).data.toList) := by
   show (ja1 _ _).data.toList = _
   rw [jaB, jfy, jfy, jaY, List.append_assoc]
  have hg : jda (bs c.text) (glR l) = ⟨#[]⟩ ∨ (jda (bs c.text) (glR l) = ⟨#[32]⟩) := by
   unfold jda; split; exact .inl rfl; exact .inr rfl
  have fin : ∀ ts : List Tk, ts.map jib = l -> (⟨c.kind, p, bs c.text, c.n⟩ :: ts : List Tk).map jib = c :: l := fun ts h => by
   rw [List.map_cons, h];rfl
  rcases hg with hg | hg
  ·obtain ⟨ts, h1, h2⟩ := step (p + c.text.length)
   refine ⟨⟨c.kind, p, bs c.text, c.n⟩ :: ts, ?_, fin ts h2⟩;rw [e, hg];rw [show ((⟨#[]⟩ : ByteArray).data.toList ++ (glR l).data.toList) = (glR l).data.toList from rfl];rw [jjJ hc p _ fun y r hy => ?_, h1]
   ·rfl
   ·cases l with
    | nil => cases hy
    | cons d l =>
     have hd := (hl d (by simp)).ne
     have hfy : jaq (glR (d :: l)) = y := by unfold jaq; rw [hy]; rfl
     rw [jdb hd] at hfy;refine ⟨fun hx => ?_, fun hx => ?_⟩
     ·unfold jda at hg
      split at hg
      ·rename_i hh
       rcases hh with hh | hh | hh | hh
       ·exact absurd hh (jpP hc.ne)
       ·exact absurd hh (jfq hd)
       ·rw [hx] at hh; cases hh
       ·rw [jdb hd, hfy] at hh; exact hh
      ·exact absurd hg (by decide)
     ·rw [<- hfy]; exact hf.2.1 hx
  ·obtain ⟨ts, h1, h2⟩ := step (p + c.text.length + 1)
   refine ⟨⟨c.kind, p, bs c.text, c.n⟩ :: ts, ?_, fin ts h2⟩;rw [e, hg];rw [show ((⟨#[32]⟩ : ByteArray).data.toList ++ (glR l).data.toList) = 32 :: (glR l).data.toList from rfl];rw [jjJ hc p _ fun y r hy => ?_, jmf (by decide) (by decide), h1]
   ·rfl
   ·cases hy
    exact ⟨fun _ => by decide, fun _ => by decide⟩
theorem jhq : ∀ (l m : List Co), (∀ c ∈ l, c.text ≠ []) -> (∀ c ∈ m, c.text ≠ []) -> glR (l ++ m) = ja1 (glR l) (glR m)
 | [], m, _, _ => by show glR m = ja1 ⟨#[]⟩ _; unfold ja1; rw [if_pos rfl, jug]
 | [c], m, _, _ => by
  show ja1 (bs c.text) (glR m) = ja1 (ja1 (bs c.text) ⟨#[]⟩) (glR m)
  rw [show ja1 (bs c.text) ⟨#[]⟩ = bs c.text by rw [jaB]; unfold jda; rw [if_pos (.inr (.inl rfl)), jeD, jeD]]
 | c :: d :: l, m, h, k => by
  show ja1 (bs c.text) (glR (d :: l ++ m)) = ja1 (ja1 (bs c.text) (glR (d :: l))) (glR m)
  rw [jhq (d :: l) m (fun x hx => h x (List.mem_cons_of_mem _ hx)) k, jaJ _ _ _ (jfq (h d (by simp)))]
theorem jdZ {q : UInt8 -> Bool} : ∀ (r rest : List UInt8), (∀ c ∈ r, q c = true) -> (∀ y t, rest = y :: t -> q y = false) -> jae q (r ++ rest) = r.length
 | [], [], _, _ => rfl
 | [], y :: t, _, h => by
  show jae q (y :: t) = 0
  unfold jae; rw [h y t rfl]
 | c :: r, rest, h, k => by
  show jae q (c :: (r ++ rest)) = _
  unfold jae;rw [h c List.mem_cons_self]
  show jae q (r ++ rest) + 1 = _
  rw [jdZ r rest (fun x hx => h x (List.mem_cons_of_mem _ hx)) k]; rfl
theorem jkA {l : List UInt8} (h : l ≠ []) : jbQ (bs l) ∈ l := by
 unfold jbQ;rw [jaY, jbz]
 have hl : l.length - 1 < l.length := by have := List.length_pos_iff.2 h; omega
 rw [List.getD_eq_getElem?_getD, List.getElem?_eq_getElem hl];exact List.getElem_mem hl
theorem jlv {y : UInt8} (h : jbP y = true) : jce y = false /\ jp9 y = false := by
 have : ∀ c : Fin 256, jbP (UInt8.ofNat c.val) = true -> jce (UInt8.ofNat c.val) = false /\ jp9 (UInt8.ofNat c.val) = false := by decide +kernel
 have h2 := this ⟨y.toNat, y.toNat_lt⟩
 simp only [UInt8.ofNat_toNat] at h2;exact h2 h
theorem jqL (c : UInt8) (r : List UInt8) (h1 : isL c = true) (h2 : ∀ x ∈ c :: r, jbP x = true) (h3 : r.length + 1 <= 10) : LexT ⟨1, c :: r, 0⟩ where
 ne := by simp
 st := fun y t e => by cases e; exact jlv (h2 _ List.mem_cons_self)
 go := fun rest hr => by
  show jbh (c :: (r ++ rest)) = .tok 1 (r.length + 1) 0
  rw [jbh]
  have hs : jae jbP (r ++ rest) = r.length := jdZ r rest (fun x hx => h2 x (List.mem_cons_of_mem _ hx)) fun y t e => (hr y t e).1 (h2 _ (jkA (by simp)))
  rw [h1]
  simp only
  rw [hs, if_neg (by omega)]
theorem js9 {c : UInt8} (h : isD c = true) : jbP c = true /\ isL c = false := by
 refine ⟨by unfold jbP; rw [h, Bool.or_true], ?_⟩
 have := jn2 h
 unfold isL;rw [decide_eq_false (by omega)]; rfl
theorem jta (c : UInt8) (r : List UInt8) (h : ∀ x ∈ c :: r, isD x = true) (hv : jcP 0 (c :: r) <= 2147483647) : LexT ⟨2, c :: r, jcP 0 (c :: r)⟩ where
 ne := by simp
 st := fun y t e => by cases e; exact jlv (js9 (h _ List.mem_cons_self)).1
 go := fun rest hr => by
  show jbh (c :: (r ++ rest)) = .tok 2 (r.length + 1) _
  rw [jbh]
  have hs : jae isD (r ++ rest) = r.length := jdZ r rest (fun x hx => h x (List.mem_cons_of_mem _ hx)) fun y t e => by
   have := (hr y t e).1 (js9 (h _ (jkA (by simp)))).1
   unfold jbP at this;simp only [Bool.or_eq_false_iff] at this;exact this.2
  have hc := js9 (h c List.mem_cons_self)
  have hvf := jh8 (c :: r) 0 (by omega) (by omega) h
  rw [if_neg (by omega)] at hvf
  have hge := jhb (c :: r) 0 (by omega) h
  rw [hc.2, h c List.mem_cons_self]
  simp only
  rw [hs, List.take_left', hvf, if_neg (by omega)];rfl
theorem ju7 {c y : UInt8} (h : jcE jia (bs [c, y]) = true) : y = 61 ∨ (c = 124 /\ y = 124) ∨ (c = 38 /\ y = 38) := by
 unfold jcE jia at h;simp only [List.any_cons, List.any_nil, Bool.or_eq_true, decide_eq_true_eq, Bool.or_false] at h
 rcases h with h | h | h | h | h | h <;> (have := jyd h; simp at this; simp [<- this.1, <- this.2])
def jtA : List UInt8 := [40, 41, 33, 60, 62, 45, 43, 42, 47, 44, 59, 123, 125, 61]
theorem jjd : ∀ c ∈ jtA, jce c = false /\ jp9 c = false /\ isL c = false /\ isD c = false /\ jcE jpH (bs [c]) = true /\ jcE jia (bs [c]) = false := by decide
theorem jqm (c : UInt8) (hc : c ∈ jtA) : LexT ⟨3, [c], 0⟩ where
 ne := by simp
 st := fun y t e => by cases e; exact ⟨(jjd c hc).1, (jjd c hc).2.1⟩
 go := fun rest hr => by
  show jbh (c :: rest) = .tok 3 1 0
  obtain ⟨_, _, h1, h2, h3, h4⟩ := jjd c hc
  have h5 : jcE jia (bs ((c :: rest).take 2)) = false := by
   cases rest with
   | nil => exact h4
   | cons y t =>
    show jcE jia (bs [c, y]) = false
    cases hq : jcE jia (bs [c, y]) with
    | false => rfl
    | true =>
     have hy := (hr y t rfl).2
     rcases ju7 hq with h | ⟨h, -⟩ | ⟨h, -⟩
     ·subst h
      exfalso
      refine hy ?_ rfl
      have hall : ∀ c ∈ jtA, jcE jia (bs [c, 61]) = true -> jfw [c] = false := by decide
      exact hall c hc hq
     ·subst h; exact absurd hc (by decide)
     ·subst h; exact absurd hc (by decide)
  rw [jbh];rw [h1, h2, h5, h3]
def jvu : List (UInt8 × UInt8) := [(124, 124), (38, 38), (61, 61), (60, 61), (62, 61), (33, 61)]
theorem jjY : ∀ q ∈ jvu, jce q.1 = false /\ jp9 q.1 = false /\ isL q.1 = false /\ isD q.1 = false /\ jcE jia (bs [q.1, q.2]) = true := by decide
theorem jqI (c d : UInt8) (hc : (c, d) ∈ jvu) : LexT ⟨3, [c, d], 0⟩ where
 ne := by simp
 st := fun y t e => by cases e; exact ⟨(jjY _ hc).1, (jjY _ hc).2.1⟩
 go := fun rest hr => by
  show jbh (c :: d :: rest) = .tok 3 2 0
  obtain ⟨_, _, h1, h2, h3⟩ := jjY _ hc
  rw [jbh];rw [h1, h2]
  simp only
  rw [show (c :: d :: rest).take 2 = [c, d] from rfl, h3]
section
def jaf (s : ByteArray) : Co := ⟨3, s.data.toList, 0⟩
def jap (s : ByteArray) : Co := ⟨1, s.data.toList, 0⟩
def jfP (n : Nat) : Co := ⟨2, jb3 n, n⟩
theorem jbd (s : ByteArray) : bs s.data.toList = s := jeP (jaY _)
theorem jmN (c : Co) : glR [c] = bs c.text := by
 show ja1 (bs c.text) ⟨#[]⟩ = _
 exact jhH _
theorem LexT.num (n : Nat) (hn : n <= 2147483647) : LexT (jfP n) := by
 have h1 := jnS n
 have h2 := jtC n
 have h3 := jwi n
 unfold jfP;generalize jb3 n = l at *
 cases l with
 | nil => exact absurd rfl h3
 | cons c r =>
  have := jta c r h1 (by rw [h2]; omega)
  rw [h2] at this;exact this
structure TN (b : ByteArray) (l : List Co) : Prop where
 eq : b = glR l
 lx : ∀ c ∈ l, LexT c
 fi : Fine false l
 en : EndS l
theorem TN.one {c : Co} (h : LexT c) (hs : jfw c.text = true) (hf : jaq (bs c.text) ≠ 61) : TN (bs c.text) [c] where
 eq := (jmN c).symm
 lx := fun x hx => by rw [List.mem_singleton.1 hx]; exact h
 fi := ⟨fun _ => hf, trivial⟩
 en := hs
theorem TN.cat {b1 b2 : ByteArray} {l1 l2 : List Co} (h1 : TN b1 l1) (h2 : TN b2 l2) : TN (ja1 b1 b2) (l1 ++ l2) where
 eq := by rw [h1.eq, h2.eq, jhq _ _ (fun c hc => (h1.lx c hc).ne) (fun c hc => (h2.lx c hc).ne)]
 lx := fun x hx => by
  rcases List.mem_append.1 hx with hx | hx
  ·exact h1.lx x hx
  ·exact h2.lx x hx
 fi := h1.fi.app h2.fi
 en := h2.en.app
theorem TN.pre {b : ByteArray} {l : List Co} {o : Co} (ho : LexT o) (hf : jaq (bs o.text) ≠ 61) (h : TN b l) : TN (ja1 (bs o.text) b) (o :: l) where
 eq := by rw [h.eq]; rfl
 lx := fun x hx => by
  rcases List.mem_cons.1 hx with rfl | hx
  ·exact ho
  ·exact h.lx x hx
 fi := ⟨fun _ => hf, h.fi.more⟩
 en := EndS.app (l := [o]) h.en
theorem TN.mid {b1 b2 : ByteArray} {l1 l2 : List Co} {o : Co} (h1 : TN b1 l1) (ho : LexT o) (h2 : TN b2 l2) : TN (ja1 (ja1 b1 (bs o.text)) b2) (l1 ++ o :: l2) where
 eq := by
  rw [h1.eq, h2.eq, jaJ _ _ _ (jpP ho.ne), jhq _ _ (fun c hc => (h1.lx c hc).ne) (fun c hc => by
   rcases List.mem_cons.1 hc with rfl | hc
   ·exact ho.ne
   ·exact (h2.lx c hc).ne)]
  rfl
 lx := fun x hx => by
  rcases List.mem_append.1 hx with hx | hx
  ·exact h1.lx x hx
  ·rcases List.mem_cons.1 hx with rfl | hx
   ·exact ho
   ·exact h2.lx x hx
 fi := h1.fi.app2 h1.en ⟨(fun h => by cases h), h2.fi.more⟩
 en := EndS.app (EndS.app (l := [o]) h2.en)
theorem TN.ne {b : ByteArray} {l : List Co} (h : TN b l) : b ≠ ⟨#[]⟩ := by
 have he := h.en
 rw [h.eq]
 cases l with
 | nil => exact he.elim
 | cons c l => exact jfq (h.lx c List.mem_cons_self).ne
theorem jmW (s : ByteArray) (c : UInt8) (hs : s.data.toList = [c]) (hc : c ∈ jtA) : LexT (jaf s) := by
 unfold jaf; rw [hs]; exact jqm c hc
theorem jpu (s : ByteArray) (c d : UInt8) (hs : s.data.toList = [c, d]) (hc : (c, d) ∈ jvu) : LexT (jaf s) := by
 unfold jaf; rw [hs]; exact jqI c d hc
def jz0 : List UInt8 -> Bool
 | [] => false
 | c :: r => isL c && (c :: r).all jbP && decide (r.length + 1 <= 10)
theorem jgl (s : ByteArray) (h : jz0 s.data.toList = true) : LexT (jap s) := by
 unfold jap;generalize s.data.toList = l at *
 cases l with
 | nil => cases h
 | cons c r =>
  unfold jz0 at h;simp only [Bool.and_eq_true, decide_eq_true_eq] at h;exact jqL c r h.1.1 (fun x hx => List.all_eq_true.1 h.1.2 x hx) h.2
def jd5 (p lv : Int) (fu : Bool) (l : List Co) : List Co := if p < lv then jaf pLp :: l ++ [jaf pRp] else if fu = true then (if p < 8 then jaf pLp :: l ++ [jaf pRp] else l) else l
theorem jyn : LexT (jaf pLp) := jmW pLp 40 rfl (by decide)
theorem jyF : LexT (jaf pRp) := jmW pRp 41 rfl (by decide)
theorem TN.par {b : ByteArray} {l : List Co} (h : TN b l) (p lv : Int) (fu : Bool) : TN (jeF p lv fu b) (jd5 p lv fu l) := by
 have h1 := (h.pre jyn (by decide)).cat (TN.one jyF (by decide) (by decide))
 have e : pLp ++ b ++ pRp = ja1 (ja1 (bs (jaf pLp).text) b) (bs (jaf pRp).text) := by
  rw [show bs (jaf pLp).text = pLp from rfl, show bs (jaf pRp).text = pRp from rfl, jiQ pLp b (by decide), jbC _ pRp (by decide)]
 rw [<- e] at h1;unfold jd5 jeF
 by_cases hp : p < lv
 ·rw [if_pos hp, if_pos hp]; exact h1
 ·rw [if_neg hp, if_neg hp]
  cases fu with
  | false => exact h
  | true =>
   rw [if_pos rfl, if_pos rfl]
   by_cases hp8 : p < 8
   ·rw [if_pos hp8, if_pos hp8]; exact h1
   ·rw [if_neg hp8, if_neg hp8]; exact h
def noT : Int -> List Co := fun _ => []
def jAc (k n : Int) (s : ByteArray) (g : List (Int -> List Co)) : List Co :=
 if k = 12 then [jfP n.toNat]
 else if k = 13 then [jap (tfB n)]
 else if k = 16 then jap wDraw :: jaf pLp :: (g.getD 0 noT) 1 ++ [jaf pRp]
 else if k = 17 then jaf s :: (g.getD 0 noT) (jab k s)
 else if k = 18 then (g.getD 0 noT) (if jab k s = 4 then 5 else jab k s) ++ jaf s :: (g.getD 1 noT) (jab k s + 1)
 else [jap s]
mutual
def tkN (fu : Bool) : Nt -> Int -> List Co
 | .mk k n s kids, req => jd5 (jab k s) req fu (jAc k n s (jB4 fu kids))
def jB4 (fu : Bool) : List Nt -> List (Int -> List Co)
 | [] => []
 | f :: l => tkN fu f :: jB4 fu l
end
variable {fu : Bool}
def TE (fu : Bool) (f : Nt) : Prop := ∀ lv, TN (shN fu f lv) (tkN fu f lv)
theorem jun (n : Nat) (hn : n <= 2147483647) : TE fu (.mk 12 n eB []) := fun lv => by
 have h := TN.one (LexT.num n hn) (by
  have h1 := jnS n
  show jfw (jb3 n) = true
  unfold jfw;rw [decide_eq_false (fun e => by rw [e] at h1; exact absurd (h1 60 (by simp)) (by decide)), decide_eq_false (fun e => by rw [e] at h1; exact absurd (h1 62 (by simp)) (by decide)), decide_eq_false (fun e => by rw [e] at h1; exact absurd (h1 61 (by simp)) (by decide)), decide_eq_false (fun e => by rw [e] at h1; exact absurd (h1 33 (by simp)) (by decide))]
  rfl) (by
  have h2 := jg3 n
  show jaq (bs (jb3 n)) ≠ 61
  intro e;rw [e] at h2
  exact absurd h2 (by decide))
 exact h.par 8 lv fu
theorem juX (k : Int) (hk : k = 14 ∨ k = 15) (s : ByteArray) (hw : LexT (jap s)) (h1 : jfw s.data.toList = true) (h2 : jaq s ≠ 61) : TE fu (.mk k 0 s []) := fun lv => by
 have h := TN.one hw h1 (by rw [show (jap s).text = s.data.toList from rfl, jbd]; exact h2)
 rw [show (jap s).text = s.data.toList from rfl, jbd] at h
 rcases hk with rfl | rfl
 ·exact h.par 8 lv fu
 ·exact h.par 8 lv fu
theorem jwS (n : Nat) (hn : n < 2) : TE fu (.mk 13 n eB []) := fun lv => by
 have hw : LexT (jap (tfB n)) /\ jfw (tfB n).data.toList = true /\ jaq (tfB n) ≠ 61 := by
  rcases (by omega : n = 0 ∨ n = 1) with rfl | rfl
  ·exact ⟨jgl _ (by decide), by decide, by decide⟩
  ·exact ⟨jgl _ (by decide), by decide, by decide⟩
 have h := TN.one hw.1 hw.2.1 (by rw [show (jap (tfB n)).text = (tfB n).data.toList from rfl, jbd]; exact hw.2.2)
 rw [show (jap (tfB n)).text = (tfB n).data.toList from rfl, jbd] at h;exact h.par 8 lv fu
theorem jz6 (f : Nt) (hf : TE fu f) : TE fu (.mk 16 0 eB [f]) := fun lv => by
 have hd : LexT (jap wDraw) := jgl _ (by decide)
 have h := (((hf 1).pre jyn (by decide)).pre hd (by decide)).cat (TN.one jyF (by decide) (by decide))
 have e : shN fu (.mk 16 0 eB [f]) lv = jeF 8 lv fu (jb4 [wDraw, pLp, shN fu f 1, pRp]) := rfl
 have e2 : jb4 [wDraw, pLp, shN fu f 1, pRp] = ja1 (ja1 (bs (jap wDraw).text) (ja1 (bs (jaf pLp).text) (shN fu f 1))) (bs (jaf pRp).text) := by
  show ja1 (ja1 (ja1 (ja1 eB wDraw) pLp) (shN fu f 1)) pRp = _
  rw [jbq, jaJ wDraw pLp _ (by decide)];rfl
 rw [e, e2];exact h.par 8 lv fu
theorem jvf (s : ByteArray) (hs : LexT (jaf s)) (h2 : jaq s ≠ 61) (f : Nt) (hf : TE fu f) : TE fu (.mk 17 0 s [f]) := fun lv => by
 have h := (hf (jab 17 s)).pre hs (by rw [show (jaf s).text = s.data.toList from rfl, jbd]; exact h2)
 rw [show (jaf s).text = s.data.toList from rfl, jbd] at h
 have e : shN fu (.mk 17 0 s [f]) lv = jeF (jab 17 s) lv fu (jb4 [s, shN fu f (jab 17 s)]) := rfl
 have e2 : jb4 [s, shN fu f (jab 17 s)] = ja1 s (shN fu f (jab 17 s)) := by
  show ja1 (ja1 eB s) _ = _
  rw [jbq]
 rw [e, e2];exact h.par (jab 17 s) lv fu
theorem jsh (s : ByteArray) (hs : LexT (jaf s)) (f g : Nt) (hf : TE fu f) (hg : TE fu g) : TE fu (.mk 18 0 s [f, g]) := fun lv => by
 have h := (hf (if jab 18 s = 4 then 5 else jab 18 s)).mid hs (hg (jab 18 s + 1))
 rw [show (jaf s).text = s.data.toList from rfl, jbd] at h
 have e : shN fu (.mk 18 0 s [f, g]) lv = jeF (jab 18 s) lv fu (jb4 [shN fu f (if jab 18 s = 4 then 5 else jab 18 s), s, shN fu g (jab 18 s + 1)]) := rfl
 have e2 : jb4 [shN fu f (if jab 18 s = 4 then 5 else jab 18 s), s, shN fu g (jab 18 s + 1)] = ja1 (ja1 (shN fu f (if jab 18 s = 4 then 5 else jab 18 s)) s) (shN fu g (jab 18 s + 1)) := by
  show ja1 (ja1 (ja1 eB _) s) _ = _
  rw [jbq]
 rw [e, e2];exact h.par (jab 18 s) lv fu
theorem jvv : ∀ s ∈ opL, LexT (jaf s) := fun s hs => by
 unfold opL at hs;simp only [List.mem_cons, List.not_mem_nil, or_false] at hs
 rcases hs with rfl | rfl | rfl | rfl
 ·exact jmW _ 43 rfl (by decide)
 ·exact jmW _ 45 rfl (by decide)
 ·exact jmW _ 42 rfl (by decide)
 ·exact jmW _ 47 rfl (by decide)
theorem ju8 : ∀ s ∈ bolL, LexT (jaf s) := fun s hs => by
 unfold bolL at hs;simp only [List.mem_cons, List.not_mem_nil, or_false] at hs
 rcases hs with rfl | rfl
 ·exact jpu _ 38 38 rfl (by decide)
 ·exact jpu _ 124 124 rfl (by decide)
theorem jt7 : ∀ s ∈ cmpL, LexT (jaf s) := fun s hs => by
 unfold cmpL at hs;simp only [List.mem_cons, List.not_mem_nil, or_false] at hs
 rcases hs with rfl | rfl | rfl | rfl | rfl | rfl
 ·exact jmW _ 60 rfl (by decide)
 ·exact jpu _ 60 61 rfl (by decide)
 ·exact jmW _ 62 rfl (by decide)
 ·exact jpu _ 62 61 rfl (by decide)
 ·exact jpu _ 61 61 rfl (by decide)
 ·exact jpu _ 33 61 rfl (by decide)
theorem juo : ∀ s ∈ varL, LexT (jap s) /\ jfw s.data.toList = true /\ jaq s ≠ 61 := fun s hs => by
 unfold varL at hs;simp only [List.mem_cons, List.not_mem_nil, or_false] at hs
 rcases hs with rfl | rfl | rfl | rfl <;> exact ⟨jgl _ (by decide), by decide, by decide⟩
theorem jtW : ∀ s ∈ builtL, LexT (jap s) /\ jfw s.data.toList = true /\ jaq s ≠ 61 := fun s hs => by
 unfold builtL at hs;simp only [List.mem_cons, List.not_mem_nil, or_false] at hs
 rcases hs with rfl | rfl | rfl | rfl | rfl | rfl | rfl | rfl | rfl <;> exact ⟨jgl _ (by decide), by decide, by decide⟩
theorem jvb : ∀ n ∈ litL, ∃ m : Nat, n = m /\ m <= 2147483647 := fun n hn => by
 have h : ∀ n ∈ litL, 0 <= n /\ n <= 2147483647 := by decide
 have := h n hn
 exact ⟨n.toNat, by omega, by omega⟩
theorem jk0 {d : Nat} {f : Nt} (h : EI d f) : TE fu f := by
 induction h with
 | lit d n h => obtain ⟨m, rfl, hm⟩ := jvb n h; exact jun m hm
 | var d s h => obtain ⟨a, b, c⟩ := juo s h; exact juX 14 (.inl rfl) s a b c
 | nam d s h => obtain ⟨a, b, c⟩ := jtW s h; exact juX 15 (.inr rfl) s a b c
 | drw d f h ih => exact jz6 f ih
 | neg d f h ih => exact jvf pMinus (jmW _ 45 rfl (by decide)) (by decide) f ih
 | bin d s f g hs h1 h2 i1 i2 => exact jsh s (jvv s hs) f g i1 i2
theorem jyT {d : Nat} {f : Nt} (h : EB d f) : TE fu f := by
 induction h with
 | lit d n h => exact jwS n h
 | nt d f h ih => exact jvf pNot (jmW _ 33 rfl (by decide)) (by decide) f ih
 | bin d s f g hs h1 h2 i1 i2 => exact jsh s (ju8 s hs) f g i1 i2
 | cmp d s f g hs h1 h2 => exact jsh s (jt7 s hs) f g (jk0 h1) (jk0 h2)
end
section
variable {fu : Bool}
def cmT : List (List Co) -> List Co
 | [] => []
 | x :: l => x ++ l.flatMap fun y => jaf pComma :: y
theorem jsH (x : List Co) (l : List (List Co)) (y : List Co) : cmT (x :: l ++ [y]) = cmT (x :: l) ++ jaf pComma :: y := by
 unfold cmT
 show x ++ (l ++ [y]).flatMap _ = _
 rw [List.flatMap_append, List.flatMap_cons, List.flatMap_nil, List.append_nil, List.append_assoc]
theorem jsd : LexT (jaf pComma) := jmW pComma 44 rfl (by decide)
theorem jy4 : LexT (jaf pSemi) := jmW pSemi 59 rfl (by decide)
theorem jzR : LexT (jaf pEq) := jmW pEq 61 rfl (by decide)
theorem jAa : LexT (jaf pLb) := jmW pLb 123 rfl (by decide)
theorem jA1 : LexT (jaf pRb) := jmW pRb 125 rfl (by decide)
theorem jyi : ∀ (n : Nat) (l : List Nt), l.length = n + 1 -> (∀ f ∈ l, TE fu f) -> TN (cmF (l.map fun f => shN fu f 1)) (cmT (l.map fun f => tkN fu f 1))
 | 0, l, hl, h => by
  obtain ⟨f, rfl⟩ := List.length_eq_one_iff.1 hl
  have h1 := h f List.mem_cons_self 1
  show TN (ja1 eB (shN fu f 1)) (tkN fu f 1 ++ [])
  rw [jbq, List.append_nil];exact h1
 | n + 1, l, hl, h => by
  have hne : l ≠ [] := fun e => by rw [e] at hl; cases hl
  have e := List.dropLast_concat_getLast hne
  have hy := h _ (List.getLast_mem hne) 1
  have ih := jyi n l.dropLast (by rw [List.length_dropLast]; omega) fun f hf => h f (List.dropLast_subset l hf)
  generalize l.getLast hne = y at *
  have hd : l.dropLast ≠ [] := fun e0 => by rw [e0] at e; rw [<- e] at hl; simp at hl
  generalize l.dropLast = m at *;subst e
  cases m with
  | nil => exact absurd rfl hd
  | cons x m =>
   rw [List.map_append, List.map_append]
   show TN (cmF ((shN fu x 1 :: m.map fun f => shN fu f 1) ++ [shN fu y 1])) (cmT ((tkN fu x 1 :: m.map fun f => tkN fu f 1) ++ [tkN fu y 1]))
   rw [jfD, jsH]
   have h1 := ih.mid jsd hy
   have e1 : bs (jaf pComma).text = pComma := rfl
   rw [e1, jbC _ pComma (by decide)] at h1;exact h1
def lsT (fu : Bool) (l : List Nt) : List Co := cmT (l.map fun f => tkN fu f 1) ++ [jaf pSemi]
theorem jvD (l : List Nt) (hl : l ≠ []) (h : ∀ f ∈ l, TE fu f) : TN (jb1 fu l) (lsT fu l) := by
 have h1 := jyi (l.length - 1) l (by have := List.length_pos_iff.2 hl; omega) h
 have h2 := h1.cat (TN.one jy4 (by decide) (by decide))
 rw [show bs (jaf pSemi).text = pSemi from rfl, jbC _ pSemi (by decide)] at h2;exact h2
def jBb (fu : Bool) (k n : Int) (s : ByteArray) (kids : List Nt) (bks : List (List Co)) : List Co :=
 if k = 1 then jap s :: jaf pEq :: lsT fu kids
 else if k = 3 then jap wWhile :: tkN fu (kid kids 0) 1 ++ bks.getD 1 []
 else if k = 4 then jap wSend :: tkN fu (kid kids 0) 1 ++ jaf pComma :: jfP n.toNat :: jaf pComma :: lsT fu (kids.drop 1)
 else if k = 5 then [jap wTimer, jfP n.toNat, jaf pSemi]
 else if k = 6 then [jap wCancel, jfP n.toNat, jaf pSemi]
 else if k = 7 then [jap wSync, jaf pSemi]
 else if k = 10 then [jap wStop, jaf pSemi]
 else if k = 8 then jap wReply :: lsT fu kids
 else if k = 9 then jap wFail :: lsT fu kids
 else if 0 < (kid kids 2).kids.length then jap wIf :: tkN fu (kid kids 0) 1 ++ bks.getD 1 [] ++ jap wElse :: bks.getD 2 [] else jap wIf :: tkN fu (kid kids 0) 1 ++ bks.getD 1 []
mutual
def tkS (fu : Bool) : Nt -> List Co
 | .mk k n s kids => jBb fu k n s kids (jAR fu kids)
def tkB (fu : Bool) : Nt -> List Co
 | .mk _ _ _ kids => jaf pLb :: (jzu fu kids).flatten ++ [jaf pRb]
def jzu (fu : Bool) : List Nt -> List (List Co)
 | [] => []
 | f :: l => tkS fu f :: jzu fu l
def jAR (fu : Bool) : List Nt -> List (List Co)
 | [] => []
 | f :: l => tkB fu f :: jAR fu l
end
theorem jgX : ∀ l : List Nt, jzu fu l = l.map (tkS fu)
 | [] => rfl
 | f :: l => by rw [jzu, jgX l]; rfl
def TS (fu : Bool) (f : Nt) : Prop := TN (stP fu f) (tkS fu f)
def TB (fu : Bool) (f : Nt) : Prop := TN (bkP fu f) (tkB fu f)
theorem jnu (l : List Nt) (h : ∀ f ∈ l, TS fu f) : TB fu (jba l) := by
 have key : ∀ (m : List Nt) (b : ByteArray) (t : List Co), TN b t -> (∀ f ∈ m, TS fu f) -> TN ((m.map (stP fu)).foldl ja1 b) (t ++ (m.map (tkS fu)).flatten) := fun m => by
  induction m with
  | nil => intro b t h _; rw [List.map_nil, List.map_nil, List.flatten_nil, List.append_nil]; exact h
  | cons f m ih =>
   intro b t h1 h2
   have h3 := ih (ja1 b (stP fu f)) (t ++ tkS fu f) (h1.cat (h2 f List.mem_cons_self)) fun g hg => h2 g (List.mem_cons_of_mem _ hg)
   rw [List.map_cons, List.map_cons, List.flatten_cons, <- List.append_assoc];exact h3
 have h1 := key l pLb [jaf pLb] (TN.one jAa (by decide) (by decide)) h
 have h2 := h1.cat (TN.one jA1 (by decide) (by decide))
 unfold TB
 have e : bkP fu (jba l) = bkL fu l ++ pRb := jrO _ _ _ _ _
 have e2 : tkB fu (jba l) = jaf pLb :: (l.map (tkS fu)).flatten ++ [jaf pRb] := by
  unfold jba;rw [tkB, jgX]
 rw [e, e2];rw [show bs (jaf pRb).text = pRb from rfl, jbC _ pRb (by decide)] at h2;exact h2
theorem jxd (s : ByteArray) (hw : LexT (jap s) /\ jfw s.data.toList = true /\ jaq s ≠ 61) (l : List Nt) (hl : l ≠ []) (h : ∀ f ∈ l, TE fu f) : TS fu (.mk 1 0 s l) := by
 have h0 := TN.one hw.1 hw.2.1 (by rw [show (jap s).text = s.data.toList from rfl, jbd]; exact hw.2.2)
 rw [show (jap s).text = s.data.toList from rfl, jbd] at h0
 have h1 := h0.mid jzR (jvD l hl h)
 have e : stP fu (.mk 1 0 s l) = ja1 (ja1 s pEq) (jb1 fu l) := by
  show ja1 (ja1 (ja1 eB s) pEq) (jb1 fu l) = _
  rw [jbq]
 show TN (stP fu (.mk 1 0 s l)) _
 rw [e];exact h1
theorem jub (w : ByteArray) (hw : LexT (jap w)) (hf : jaq w ≠ 61) (l : List Nt) (hl : l ≠ []) (h : ∀ f ∈ l, TE fu f) : TN (jb4 [w, jb1 fu l]) (jap w :: lsT fu l) := by
 have h1 := (jvD l hl h).pre hw (by rw [show (jap w).text = w.data.toList from rfl, jbd]; exact hf)
 rw [show (jap w).text = w.data.toList from rfl, jbd] at h1
 show TN (ja1 (ja1 eB w) (jb1 fu l)) _
 rw [jbq];exact h1
theorem jxR (l : List Nt) (hl : l ≠ []) (h : ∀ f ∈ l, TE fu f) : TS fu (.mk 8 0 eB l) := jub wReply (jgl _ (by decide)) (by decide) l hl h
theorem jz2 (l : List Nt) (hl : l ≠ []) (h : ∀ f ∈ l, TE fu f) : TS fu (.mk 9 0 eB l) := jub wFail (jgl _ (by decide)) (by decide) l hl h
end
section
variable {fu : Bool}
theorem jo4 (n : Nat) (hn : n <= 2147483647) : TN (bs (jb3 n)) [jfP n] := jun (fu := false) n hn 0
theorem TN.wrd {b : ByteArray} {l : List Co} (w : ByteArray) (hw : LexT (jap w)) (hf : jaq w ≠ 61) (h : TN b l) : TN (ja1 w b) (jap w :: l) := by
 have h1 := h.pre hw (by rw [show (jap w).text = w.data.toList from rfl, jbd]; exact hf)
 rw [show (jap w).text = w.data.toList from rfl, jbd] at h1;exact h1
theorem TN.end {b : ByteArray} {l : List Co} (h : TN b l) : TN (ja1 b pSemi) (l ++ [jaf pSemi]) := h.cat (TN.one jy4 (by decide) (by decide))
theorem je2 (w : ByteArray) (hw : LexT (jap w)) (hs : jfw w.data.toList = true) (hf : jaq w ≠ 61) : TN w [jap w] := by
 have h0 := TN.one hw hs (by rw [show (jap w).text = w.data.toList from rfl, jbd]; exact hf)
 rw [show (jap w).text = w.data.toList from rfl, jbd] at h0;exact h0
theorem jv5 (k : Int) (hk : k = 5 ∨ k = 6) (n : Nat) (hn : n < 1000) : TS fu (.mk k n eB []) := by
 have hd := jo4 n (by omega)
 rcases hk with rfl | rfl
 ·have h := (hd.wrd wTimer (jgl _ (by decide)) (by decide)).end
  have e : stP fu (.mk 5 n eB []) = ja1 (ja1 wTimer (bs (jb3 n))) pSemi := by
   show ja1 (ja1 (ja1 eB wTimer) (bs (jb3 n))) pSemi = _
   rw [jbq]
  show TN (stP fu (.mk 5 n eB [])) _
  rw [e];exact h
 ·have h := (hd.wrd wCancel (jgl _ (by decide)) (by decide)).end
  have e : stP fu (.mk 6 n eB []) = ja1 (ja1 wCancel (bs (jb3 n))) pSemi := by
   show ja1 (ja1 (ja1 eB wCancel) (bs (jb3 n))) pSemi = _
   rw [jbq]
  show TN (stP fu (.mk 6 n eB [])) _
  rw [e];exact h
theorem juH (k : Int) (hk : k = 7 ∨ k = 10) : TS fu (.mk k 0 eB []) := by
 rcases hk with rfl | rfl
 ·have h := (je2 wSync (jgl _ (by decide)) (by decide) (by decide)).end
  show TN (stP fu (.mk 7 0 eB [])) _
  rw [show stP fu (.mk 7 0 eB []) = ja1 wSync pSemi by (show syncB = _); decide];exact h
 ·have h := (je2 wStop (jgl _ (by decide)) (by decide) (by decide)).end
  show TN (stP fu (.mk 10 0 eB [])) _
  rw [show stP fu (.mk 10 0 eB []) = ja1 wStop pSemi by (show stopB = _); decide];exact h
theorem jxj (n : Nat) (hn : n < 1000) (f g h : Nt) (hf : TE fu f) (hg : TE fu g) (hh : TE fu h) : TS fu (.mk 4 n eB [f, g, h]) := by
 have hl := jvD [g, h] (by simp) fun x hx => by
  simp only [List.mem_cons, List.not_mem_nil, or_false] at hx
  rcases hx with rfl | rfl
  ·exact hg
  ·exact hh
 have h1 := (((hf 1).wrd wSend (jgl _ (by decide)) (by decide)).mid jsd (jo4 n (by omega))).mid jsd hl
 have e : stP fu (.mk 4 n eB [f, g, h]) = ja1 (ja1 (ja1 (ja1 (ja1 wSend (shN fu f 1)) pComma) (bs (jb3 n))) pComma) (jb1 fu [g, h]) := by
  show ja1 (ja1 (ja1 (ja1 (ja1 (ja1 eB wSend) (shN fu f 1)) pComma) (bs (jb3 n))) pComma) (jb1 fu [g, h]) = _
  rw [jbq]
 have e2 : tkS fu (.mk 4 n eB [f, g, h]) = (jap wSend :: tkN fu f 1 ++ jaf pComma :: [jfP n]) ++ jaf pComma :: lsT fu [g, h] := by
  show jap wSend :: tkN fu f 1 ++ jaf pComma :: jfP n :: jaf pComma :: lsT fu [g, h] = _
  simp
 show TN _ _
 rw [e, e2];exact h1
theorem jyK (c b : Nt) (hc : TE fu c) (hb : TB fu b) : TS fu (.mk 3 0 eB [c, b]) := by
 have h1 := ((hc 1).wrd wWhile (jgl _ (by decide)) (by decide)).cat hb
 have e : stP fu (.mk 3 0 eB [c, b]) = ja1 (ja1 wWhile (shN fu c 1)) (bkP fu b) := by
  show ja1 (ja1 (ja1 eB wWhile) (shN fu c 1)) (bkP fu b) = _
  rw [jbq]
 show TN (stP fu (.mk 3 0 eB [c, b])) _
 rw [e];exact h1
theorem jy2 (c b d : Nt) (hc : TE fu c) (hb : TB fu b) (hd : TB fu d) : TS fu (.mk 2 0 eB [c, b, d]) := by
 have h1 := ((hc 1).wrd wIf (jgl _ (by decide)) (by decide)).cat hb
 have e : stP fu (.mk 2 0 eB [c, b, d]) = if 0 < d.kids.length then jb4 [jb4 [wIf, shN fu c 1, bkP fu b], wElse, bkP fu d] else jb4 [wIf, shN fu c 1, bkP fu b] := rfl
 have e3 : jb4 [wIf, shN fu c 1, bkP fu b] = ja1 (ja1 wIf (shN fu c 1)) (bkP fu b) := by
  show ja1 (ja1 (ja1 eB wIf) (shN fu c 1)) (bkP fu b) = _
  rw [jbq]
 have e2 : tkS fu (.mk 2 0 eB [c, b, d]) = if 0 < d.kids.length then jap wIf :: tkN fu c 1 ++ tkB fu b ++ jap wElse :: tkB fu d else jap wIf :: tkN fu c 1 ++ tkB fu b := rfl
 show TN _ _
 rw [e, e2, e3]
 by_cases hl : 0 < d.kids.length
 ·rw [if_pos hl, if_pos hl]
  have h2 := h1.cat (hd.wrd wElse (jgl _ (by decide)) (by decide))
  show TN (ja1 (ja1 (ja1 eB (ja1 (ja1 wIf (shN fu c 1)) (bkP fu b))) wElse) (bkP fu d)) _
  rw [jbq, jaJ _ _ _ (by decide)];exact h2
 ·rw [if_neg hl, if_neg hl];exact h1
theorem jzx {d : Nat} {f : Nt} (h : ES d f) : TS fu f := by
 induction h with
 | asg d e s f hs h he => exact jxd s (juo s hs) [f] (by simp) fun x hx => by rw [List.mem_singleton.1 hx]; exact jk0 h
 | snd d n f g h hn h1 h2 h3 => exact jxj n (by omega) f g h (jk0 h1) (jk0 h2) (jk0 h3)
 | tim d n hn => exact jv5 5 (.inl rfl) n (by omega)
 | can d n hn => exact jv5 6 (.inr rfl) n (by omega)
 | syn d => exact juH 7 (.inl rfl)
 | rep d f g h1 h2 =>
  refine jxR [f, g] (by simp) ?_;intro x hx;simp only [List.mem_cons, List.not_mem_nil, or_false] at hx
  rcases hx with rfl | rfl
  ·exact jk0 h1
  ·exact jk0 h2
 | fai d f h1 => exact jz2 [f] (by simp) fun x hx => by rw [List.mem_singleton.1 hx]; exact jk0 h1
 | stp d => exact juH 10 (.inr rfl)
 | whi d c l h1 h2 h3 ih => exact jyK c (jba l) (jyT h1) (jnu l ih)
 | iff d c l m h1 h2 h3 h4 h5 ih1 ih2 => exact jy2 c (jba l) (jba m) (jyT h1) (jnu l ih1) (jnu m ih2)
theorem jzW {b : Nt} (h : EK b) : TB fu b := by
 obtain ⟨k, rfl, h1, h2⟩ := h
 exact jnu k fun s hs => jzx (h2 s hs)
def jme (n : Int) : List Co := if n = 1 then [jap wRequest] else if 10 <= n then [jap wMessage, jfP (n - 10).toNat] else if 2 <= n then [jap wTimer, jfP (n - 2).toNat] else [jap wStart]
theorem jy6 (n : Int) (hn : n < 40) : TN (hdW n) (jme n) := by
 unfold hdW jme
 repeat' split
 ·exact je2 _ (jgl _ (by decide)) (by decide) (by decide)
 ·rw [show wMsgS = wMessage ++ ⟨#[32]⟩ by decide, <- jgD wMessage (by decide) (by decide)];exact (jo4 _ (by omega)).wrd wMessage (jgl _ (by decide)) (by decide)
 ·rw [show wTimS = wTimer ++ ⟨#[32]⟩ by decide, <- jgD wTimer (by decide) (by decide)];exact (jo4 _ (by omega)).wrd wTimer (jgl _ (by decide)) (by decide)
 ·exact je2 _ (jgl _ (by decide)) (by decide) (by decide)
def jcK (fu : Bool) (h : Int × Nt) : List Co := jap wOn :: jme h.1 ++ tkB fu h.2
theorem jzS (h : Int × Nt) (hn : h.1 < 40) (hb : TB fu h.2) : TN (hdN fu h) (jcK fu h) := by
 have h1 := ((jy6 h.1 hn).wrd wOn (jgl _ (by decide)) (by decide)).cat hb
 show TN (ja1 (ja1 (ja1 eB wOn) (hdW h.1)) (bkP fu h.2)) _
 rw [jbq];exact h1
def dcTk : List Co := [jap wDurable, jap ⟨#[100]⟩, jaf pComma, jap ⟨#[100, 100, 49]⟩, jaf pSemi, jap wVolatile, jap ⟨#[118]⟩, jaf pComma, jap ⟨#[119, 50]⟩, jaf pSemi]
theorem jzY : TN pT2 dcTk := by
 have h1 := ((((je2 ⟨#[100]⟩ (jgl _ (by decide)) (by decide) (by decide)).mid jsd (je2 ⟨#[100, 100, 49]⟩ (jgl _ (by decide)) (by decide) (by decide))).wrd wDurable (jgl _ (by decide)) (by decide)).end)
 have h2 := ((((je2 ⟨#[118]⟩ (jgl _ (by decide)) (by decide) (by decide)).mid jsd (je2 ⟨#[119, 50]⟩ (jgl _ (by decide)) (by decide) (by decide))).wrd wVolatile (jgl _ (by decide)) (by decide)).end)
 have h3 := h1.cat h2
 have e : pT2 = ja1 (ja1 (ja1 wDurable (ja1 (ja1 ⟨#[100]⟩ (bs (jaf pComma).text)) ⟨#[100, 100, 49]⟩)) pSemi) (ja1 (ja1 wVolatile (ja1 (ja1 ⟨#[118]⟩ (bs (jaf pComma).text)) ⟨#[119, 50]⟩)) pSemi) := by decide
 rw [e];exact h3
def jmA (u : Ut) : List Co := dcTk ++ (u.on.map (jcK false)).flatten
theorem jxf (m : List (Int × Nt)) (b : ByteArray) (t : List Co) (h : TN b t) (hm : ∀ x ∈ m, TN (hdN fu x) (jcK fu x)) : TN (joZ fu b m) (t ++ (m.map (jcK fu)).flatten) := by
 induction m generalizing b t with
 | nil => rw [List.map_nil, List.flatten_nil, List.append_nil]; exact h
 | cons f m ih =>
  have q3 := ih (ja1 b (hdN fu f)) (t ++ jcK fu f) (h.cat (hm f List.mem_cons_self)) fun g hg => hm g (List.mem_cons_of_mem _ hg)
  rw [List.map_cons, List.flatten_cons, <- List.append_assoc];exact q3
theorem GU.hd {u : Ut} (h : GU u) (x : Int × Nt) (hx : x ∈ u.on) : TN (hdN fu x) (jcK fu x) := by
 obtain ⟨h1, h2, h3, h4, h5⟩ := h
 exact jzS x (h3 x hx).2.1 (jzW (h3 x hx).2.2)
theorem jwI {u : Ut} (h : GU u) : TN (prF u) (jmA u) := by
 have h6 := jxf u.on pT2 dcTk jzY fun x hx => h.hd (fu := false) x hx
 unfold prF;rw [h.1, h.2.1];exact h6
def jzK : List Co := [jap wVolatile, jap ⟨#[118]⟩, jaf pComma, jap ⟨#[119, 50]⟩, jaf pSemi, jap wDurable, jap ⟨#[100]⟩, jaf pComma, jap ⟨#[100, 100, 49]⟩, jaf pSemi]
def jAV (u : Ut) : List Co := jzK ++ (u.on.reverse.map (jcK true)).flatten
end
def Beg (q : List Co) (ts r : List Tk) : Prop := ∃ m, ts = m ++ r /\ m.map jib = q
theorem Beg.nil {ts r : List Tk} (h : Beg [] ts r) : ts = r := by
 obtain ⟨m, rfl, h⟩ := h
 rw [List.map_eq_nil_iff] at h;subst h; rfl
theorem Beg.cons {c : Co} {q : List Co} {ts r : List Tk} (h : Beg (c :: q) ts r) : jib (hd ts) = c /\ Beg q ts.tail r /\ ts ≠ [] := by
 obtain ⟨m, rfl, h⟩ := h
 cases m with
 | nil => cases h
 | cons t m =>
  rw [List.map_cons, List.cons.injEq] at h;exact ⟨h.1, ⟨m, rfl, h.2⟩, by simp⟩
theorem Beg.app {p q : List Co} {ts r : List Tk} (h : Beg (p ++ q) ts r) : ∃ s, Beg p ts s /\ Beg q s r := by
 obtain ⟨m, rfl, h⟩ := h
 rw [List.map_eq_append_iff] at h
 obtain ⟨a, b, rfl, h1, h2⟩ := h
 exact ⟨b ++ r, ⟨a, List.append_assoc _ _ _, h1⟩, ⟨b, rfl, h2⟩⟩
theorem Beg.len {q : List Co} {ts r : List Tk} (h : Beg q ts r) : ts.length = q.length + r.length := by
 obtain ⟨m, rfl, h⟩ := h
 rw [<- h]; simp
theorem jhu {ts : List Tk} {c : Co} (h : jib (hd ts) = c) : (hd ts).text = bs c.text := by
 subst h;exact jeP (by rw [jaY]; rfl)
theorem jcA {ts : List Tk} {c : Co} (h : jib (hd ts) = c) : (hd ts).kind = c.kind /\ (hd ts).n = c.n := by
 subst h; exact ⟨rfl, rfl⟩
theorem joF {ts : List Tk} {c : Co} (h : jib (hd ts) = c) (s : ByteArray) : isP s ts = (decide (bs c.text = s) && (decide (c.kind = 1) || decide (c.kind = 3))) := by
 unfold isP;rw [jhu h, (jcA h).1]
theorem jwX {ts : List Tk} {c : Co} (h : jib (hd ts) = c) : jfC ts = (decide (c.kind = 1) && !(keyL ++ builtL).any fun s => decide (bs c.text = s)) := by
 unfold jfC;rw [jhu h, (jcA h).1]
theorem jvG {ts : List Tk} {c : Co} (h : jib (hd ts) = c) : jxc ts = (decide (c.kind = 1) && builtL.any fun s => decide (bs c.text = s)) := by
 unfold jxc;rw [jhu h, (jcA h).1]
def noS (l : List ByteArray) (r : List Tk) : Prop := jfN l r = false
def opE (low : Option Pa) : Nat -> List Tk -> Pn
 | 1 => jnl low
 | 2 => jcG (ntG low) [jec]
 | 3 => ntG low
 | 4 => ntG low
 | 5 => jpj low
 | 6 => jcG (jfM low) [jbG, jaM]
 | 7 => jfM low
 | _ => jc9 low
def StE : Nat -> List Tk -> Prop
 | 1, r => noS [jbG, jaM] r /\ noS [jcJ, pMinus] r /\ noS cmpL r /\ noS [jec] r /\ noS [pOr] r
 | 2, r => noS [jbG, jaM] r /\ noS [jcJ, pMinus] r /\ noS cmpL r /\ noS [jec] r
 | 3, r => noS [jbG, jaM] r /\ noS [jcJ, pMinus] r /\ noS cmpL r
 | 4, r => noS [jbG, jaM] r /\ noS [jcJ, pMinus] r /\ noS cmpL r
 | 5, r => noS [jbG, jaM] r /\ noS [jcJ, pMinus] r
 | 6, r => noS [jbG, jaM] r
 | _, _ => True
theorem jgW {op : List Tk -> Pn} {l : List ByteArray} {ts r : List Tk} {f : Nt} (h : op ts = .ok f r) (hs : noS l r) : jcG op l ts = .ok f r := by
 unfold jcG;rw [h]
 show jc8 op l r.length f r = _
 cases hl : r.length with
 | zero => rfl
 | succ n =>
  unfold jc8;rw [show jfN l r = false from hs];rfl
def PE (low : Option Pa) (lv : Nat) (b : List Co) (f : Nt) : Prop := ∀ ts r, Beg b ts r -> StE lv r -> opE low lv ts = .ok f r
theorem jqh {low : Option Pa} {b : List Co} {f : Nt} (h : PE low 2 b f) : PE low 1 b f := fun ts r hb hs => jgW (h ts r hb ⟨hs.1, hs.2.1, hs.2.2.1, hs.2.2.2.1⟩) hs.2.2.2.2
theorem jsz {low : Option Pa} {b : List Co} {f : Nt} (h : PE low 3 b f) : PE low 2 b f := fun ts r hb hs => jgW (h ts r hb ⟨hs.1, hs.2.1, hs.2.2.1⟩) hs.2.2.2
theorem jvq {low : Option Pa} {b : List Co} {f : Nt} (h : PE low 6 b f) : PE low 5 b f := fun ts r hb hs => jgW (h ts r hb hs.1) hs.2
theorem jxs {low : Option Pa} {b : List Co} {f : Nt} (h : PE low 7 b f) : PE low 6 b f := fun ts r hb hs => jgW (h ts r hb trivial) hs
def jgt (s : ByteArray) : List Co -> Prop
 | [] => False
 | c :: _ => bs c.text ≠ s
theorem jn6 {s : ByteArray} {b : List Co} {ts r : List Tk} (h : jgt s b) (hb : Beg b ts r) : isP s ts = false := by
 cases b with
 | nil => exact h.elim
 | cons c b =>
  rw [joF hb.cons.1, decide_eq_false (show ¬ bs c.text = s from h)];rfl
theorem jxJ {low : Option Pa} {b : List Co} {f : Nt} (h : PE low 5 b f) (hn : jgt pNot b) : PE low 4 b f := fun ts r hb hs => by
 have h1 : jpj low ts = .ok f r := h ts r hb ⟨hs.1, hs.2.1⟩
 show ntG low ts = _
 unfold ntG;rw [if_neg (by rw [jn6 hn hb]; decide), h1]
 show (if jfN cmpL r = true then _ else Pn.ok f r) = _
 rw [if_neg (by rw [show jfN cmpL r = false from hs.2.2]; decide)]
theorem jwt {low : Option Pa} {b : List Co} {f : Nt} (h : PE low 4 b f) : PE low 3 b f := fun ts r hb hs => h ts r hb hs
theorem jAj {low : Option Pa} {b : List Co} {f : Nt} (h : PE low 8 b f) (hn : jgt pMinus b) : PE low 7 b f := fun ts r hb hs => by
 have h1 : jc9 low ts = .ok f r := h ts r hb trivial
 show jfM low ts = _
 unfold jfM;rw [if_neg (by rw [jn6 hn hb]; decide)];exact h1
theorem jhj {low : Option Pa} {b : List Co} {f : Nt} (h : PE low 8 b f) (h1 : jgt pNot b) (h2 : jgt pMinus b) : ∀ lv : Nat, 1 <= lv -> lv <= 8 -> PE low lv b f := fun lv a c => by
 have g7 := jAj h h2
 have g6 := jxs g7
 have g5 := jvq g6
 have g4 := jxJ g5 h1
 have g3 := jwt g4
 have g2 := jsz g3
 have g1 := jqh g2
 rcases (by omega : lv = 1 ∨ lv = 2 ∨ lv = 3 ∨ lv = 4 ∨ lv = 5 ∨ lv = 6 ∨ lv = 7 ∨ lv = 8) with rfl | rfl | rfl | rfl | rfl | rfl | rfl | rfl <;> assumption
theorem jxw (low : Option Pa) (n : Nat) : PE low 8 [jfP n] (.mk 12 n eB []) := fun ts r hb hs => by
 obtain ⟨hc, hr, _⟩ := hb.cons
 have hr := hr.nil
 have hk := (jcA hc).1
 have hn := (jcA hc).2
 have p : ∀ s, isP s ts = false := fun s => by
  rw [joF hc]
  show (_ && (decide ((2 : Int) = 1) || decide ((2 : Int) = 3))) = false
  rw [Bool.and_eq_false_iff];exact .inr (by decide)
 show jc9 low ts = _
 unfold jc9;rw [if_neg (by rw [p]; decide), if_neg (by rw [p]; decide), if_pos (show (hd ts).kind = 2 from hk), show (hd ts).n = n from hn, hr]
theorem jaA {s : ByteArray} {ts r : List Tk} {b : List Co} (hb : Beg (jap s :: b) ts r) : (∀ x, isP x ts = decide (s = x)) /\ jfC ts = (!(keyL ++ builtL).any fun x => decide (s = x)) /\ jxc ts = (builtL.any fun x => decide (s = x)) /\ (hd ts).text = s /\ (hd ts).kind = 1 /\ Beg b ts.tail r := by
 obtain ⟨hc, hr, _⟩ := hb.cons
 have e : bs (jap s).text = s := jbd s
 refine ⟨fun x => ?_, ?_, ?_, ?_, (jcA hc).1, hr⟩
 ·rw [joF hc, e, show (decide ((jap s).kind = 1) || decide ((jap s).kind = 3)) = true from rfl, Bool.and_true]
 ·rw [jwX hc, e, show decide ((jap s).kind = 1) = true from rfl, Bool.true_and]
 ·rw [jvG hc, e, show decide ((jap s).kind = 1) = true from rfl, Bool.true_and]
 ·rw [jhu hc, e]
theorem jdo {s : ByteArray} {ts r : List Tk} {b : List Co} (hb : Beg (jaf s :: b) ts r) : (∀ x, isP x ts = decide (s = x)) /\ (hd ts).text = s /\ (hd ts).kind = 3 /\ Beg b ts.tail r := by
 obtain ⟨hc, hr, _⟩ := hb.cons
 have e : bs (jaf s).text = s := jbd s
 refine ⟨fun x => ?_, ?_, (jcA hc).1, hr⟩
 ·rw [joF hc, e, show (decide ((jaf s).kind = 1) || decide ((jaf s).kind = 3)) = true from rfl, Bool.and_true]
 ·rw [jhu hc, e]
theorem jqu : ∀ s ∈ varL, decide (s = pLp) = false /\ decide (s = wDraw) = false /\ decide (s = jh7) = false /\ decide (s = jdO) = false /\ ((keyL ++ builtL).any fun x => decide (s = x)) = false := by decide
theorem jqB : ∀ s ∈ builtL, decide (s = pLp) = false /\ decide (s = wDraw) = false /\ decide (s = jh7) = false /\ decide (s = jdO) = false /\ ((keyL ++ builtL).any fun x => decide (s = x)) = true /\ (builtL.any fun x => decide (s = x)) = true := by decide
theorem jyb (low : Option Pa) (s : ByteArray) (h : s ∈ varL) : PE low 8 [jap s] (.mk 14 0 s []) := fun ts r hb hs => by
 obtain ⟨p, q, _, t, k, hr⟩ := jaA hb
 have hr := hr.nil
 obtain ⟨a1, a2, a3, a4, a5⟩ := jqu s h
 show jc9 low ts = _
 unfold jc9;rw [p, p, p, p, a1, a2, a3, a4, q, a5, k, t, hr];rfl
theorem jxK (low : Option Pa) (s : ByteArray) (h : s ∈ builtL) : PE low 8 [jap s] (.mk 15 0 s []) := fun ts r hb hs => by
 obtain ⟨p, q, u, t, k, hr⟩ := jaA hb
 have hr := hr.nil
 obtain ⟨a1, a2, a3, a4, a5, a6⟩ := jqB s h
 show jc9 low ts = _
 unfold jc9;rw [p, p, p, p, a1, a2, a3, a4, q, a5, k, u, a6, t, hr];rfl
theorem jaZ {s : ByteArray} {ts r : List Tk} {b : List Co} (hb : Beg (jaf s :: b) ts r) (l : List ByteArray) (h : (l.any fun x => decide (s = x)) = false) : noS l ts := by
 obtain ⟨p, _⟩ := jdo hb
 unfold noS jfN;rw [show (fun x => isP x ts) = fun x => decide (s = x) from funext p];exact h
theorem jpR (p : Pa) (low : Option Pa) (hp : p.ex = jnl low) (b : List Co) (f : Nt) (h : PE low 1 b f) : ∀ ts r, Beg (jaf pLp :: b ++ [jaf pRp]) ts r -> jg8 (some p) ts = .ok f r := fun ts r hb => by
 have hb : Beg (jaf pLp :: (b ++ [jaf pRp])) ts r := hb
 obtain ⟨q, _, _, hr⟩ := jdo hb
 obtain ⟨u, h1, h2⟩ := hr.app
 have h3 : jnl low ts.tail = .ok f u := h ts.tail u h1 ⟨jaZ h2 _ (by decide), jaZ h2 _ (by decide), jaZ h2 _ (by decide), jaZ h2 _ (by decide), jaZ h2 _ (by decide)⟩
 obtain ⟨q2, _, _, hr2⟩ := jdo h2
 have hr2 := hr2.nil
 unfold jg8;rw [q, if_pos (by decide)]
 show (p.ex ts.tail).andThen _ = _
 rw [hp, h3]
 show xpt pRp u _ = _
 unfold xpt;rw [q2, if_pos (by decide), hr2]
theorem jyt (p : Pa) (low : Option Pa) (hp : p.ex = jnl low) (b : List Co) (f : Nt) (h : PE low 1 b f) : PE (some p) 8 (jaf pLp :: b ++ [jaf pRp]) f := fun ts r hb hs => by
 have h1 := jpR p low hp b f h ts r hb
 obtain ⟨q, _⟩ := jdo (b := b ++ [jaf pRp]) hb
 show jc9 (some p) ts = _
 unfold jc9;rw [q, if_pos (by decide)];exact h1
theorem jxk (p : Pa) (low : Option Pa) (hp : p.ex = jnl low) (b : List Co) (f : Nt) (h : PE low 1 b f) : PE (some p) 8 (jap wDraw :: jaf pLp :: b ++ [jaf pRp]) (.mk 16 0 eB [f]) := fun ts r hb hs => by
 obtain ⟨q, _, _, _, k, hr⟩ := jaA (b := jaf pLp :: b ++ [jaf pRp]) hb
 have h1 := jpR p low hp b f h ts.tail r hr
 show jc9 (some p) ts = _
 unfold jc9;rw [q, q, if_neg (by decide), if_pos (by decide), h1];rfl
theorem jwL (low : Option Pa) (n : Nat) (hn : n < 2) : PE low 8 [jap (tfB n)] (.mk 13 n eB []) := fun ts r hb hs => by
 rcases (by omega : n = 0 ∨ n = 1) with rfl | rfl
 ·have hb : Beg [jap jdO] ts r := hb
  obtain ⟨p, _, _, t, k, hr⟩ := jaA hb
  have hr := hr.nil
  show jc9 low ts = _
  unfold jc9;rw [p, p, p, p, if_neg (by decide), if_neg (by decide), if_neg (by rw [k]; decide), if_neg (by decide), if_pos (by decide), hr];rfl
 ·have hb : Beg [jap jh7] ts r := hb
  obtain ⟨p, _, _, t, k, hr⟩ := jaA hb
  have hr := hr.nil
  show jc9 low ts = _
  unfold jc9;rw [p, p, p, if_neg (by decide), if_neg (by decide), if_neg (by rw [k]; decide), if_pos (by decide), hr];rfl
theorem jxn (p : Pa) (low : Option Pa) (hp : p.un = jfM low) (b : List Co) (f : Nt) (h : PE low 7 b f) : PE (some p) 7 (jaf pMinus :: b) (.mk 17 0 pMinus [f]) := fun ts r hb hs => by
 obtain ⟨q, _, _, hr⟩ := jdo hb
 have h1 : jfM low ts.tail = .ok f r := h ts.tail r hr trivial
 show jfM (some p) ts = _
 unfold jfM jpJ;rw [q, if_pos (by decide)]
 show (p.un ts.tail).andThen _ = _
 rw [hp, h1];rfl
theorem jy1 (p : Pa) (low : Option Pa) (hp : p.no = ntG low) (b : List Co) (f : Nt) (h : PE low 3 b f) : PE (some p) 3 (jaf pNot :: b) (.mk 17 0 pNot [f]) := fun ts r hb hs => by
 obtain ⟨q, _, _, hr⟩ := jdo hb
 have h1 : ntG low ts.tail = .ok f r := h ts.tail r hr hs
 show ntG (some p) ts = _
 unfold ntG jpJ;rw [q, if_pos (by decide)]
 show (p.no ts.tail).andThen _ = _
 rw [hp, h1];rfl
def CH (op : List Tk -> Pn) (signs : List ByteArray) (stop : List Tk -> Prop) (b : List Co) (f : Nt) : Prop := ∀ ts r, Beg b ts r -> stop r -> ∃ n, r.length <= n /\ jcG op signs ts = jc8 op signs n f r
theorem jyy {op : List Tk -> Pn} {signs : List ByteArray} {stop : List Tk -> Prop} {b : List Co} {f : Nt} (h : ∀ ts r, Beg b ts r -> stop r -> op ts = .ok f r) : CH op signs stop b f := fun ts r hb hs => ⟨r.length, Nat.le_refl _, by unfold jcG; rw [h ts r hb hs]; rfl⟩
theorem jjI {op : List Tk -> Pn} {signs : List ByteArray} {stop : List Tk -> Prop} {b b2 : List Co} {f g : Nt} (o : ByteArray) (hf : CH op signs stop b f) (ho : (signs.any fun x => decide (o = x)) = true) (hst : ∀ ts r, Beg (jaf o :: b2) ts r -> stop ts) (hg : ∀ ts r, Beg b2 ts r -> stop r -> op ts = .ok g r) : CH op signs stop (b ++ jaf o :: b2) (.mk 18 0 o [f, g]) := fun ts r hb hs => by
 obtain ⟨u, h1, h2⟩ := hb.app
 obtain ⟨n, hn, e⟩ := hf ts u h1 (hst u r h2)
 obtain ⟨q, t, _, hr⟩ := jdo h2
 have hl := h2.len
 have hl2 := hr.len
 have ha : jfN signs u = true := by
  unfold jfN;rw [show (fun x => isP x u) = fun x => decide (o = x) from funext q];exact ho
 obtain ⟨m, rfl⟩ : ∃ m, n = m + 1 := ⟨n - 1, by simp at hl; omega⟩
 refine ⟨m, by simp at hl; omega, ?_⟩;rw [e, jc8, if_pos ha, hg _ r hr hs, t];rfl
theorem joc {op : List Tk -> Pn} {signs : List ByteArray} {stop : List Tk -> Prop} {b : List Co} {f : Nt} (h : CH op signs stop b f) : ∀ ts r, Beg b ts r -> stop r -> noS signs r -> jcG op signs ts = .ok f r := fun ts r hb hs hn => by
 obtain ⟨n, _, e⟩ := h ts r hb hs
 rw [e]
 cases n with
 | zero => rfl
 | succ n => rw [jc8, if_neg (by rw [show jfN signs r = false from hn]; decide)]
section
def jav : Nat -> Option Pa
 | 0 => none
 | d + 1 => some (pa d)
theorem jf1 : ∀ d, pa d = paG (jav d)
 | 0 => rfl
 | _ + 1 => rfl
def CE (low : Option Pa) (lv : Nat) (signs : List ByteArray) (b : List Co) (f : Nt) : Prop := CH (opE low (lv + 1)) signs (StE (lv + 1)) b f
structure XI (low : Option Pa) (t : Int -> List Co) (f : Nt) : Prop where
 pe : ∀ lv : Nat, 1 <= lv -> lv <= 8 -> PE low lv (t lv) f
 c6 : CE low 6 [jbG, jaM] (t 6) f
 c5 : CE low 5 [jcJ, pMinus] (t 5) f
 nn : ∀ lv : Int, jgt pNot (t lv)
structure XB (low : Option Pa) (t : Int -> List Co) (f : Nt) : Prop where
 pe : ∀ lv : Nat, 1 <= lv -> lv <= 8 -> PE low lv (t lv) f
 c2 : CE low 2 [jec] (t 2) f
 c1 : CE low 1 [pOr] (t 1) f
def mulL : List ByteArray := [jbG, jaM]
def addL : List ByteArray := [jcJ, pMinus]
theorem jze {low : Option Pa} {b : List Co} {f : Nt} (h : CE low 6 [jbG, jaM] b f) : PE low 6 b f := fun ts r hb hs => joc h ts r hb trivial hs
theorem jzM {low : Option Pa} {b : List Co} {f : Nt} (h : CE low 5 [jcJ, pMinus] b f) : PE low 5 b f := fun ts r hb hs => joc h ts r hb hs.1 hs.2
theorem jzG {low : Option Pa} {b : List Co} {f : Nt} (h : CE low 2 [jec] b f) : PE low 2 b f := fun ts r hb hs => joc h ts r hb ⟨hs.1, hs.2.1, hs.2.2.1⟩ hs.2.2.2
theorem jAh {low : Option Pa} {b : List Co} {f : Nt} (h : CE low 1 [pOr] b f) : PE low 1 b f := fun ts r hb hs => joc h ts r hb ⟨hs.1, hs.2.1, hs.2.2.1, hs.2.2.2.1⟩ hs.2.2.2.2
theorem jdF {low : Option Pa} {lv : Nat} {signs : List ByteArray} {b : List Co} {f : Nt} (h : PE low (lv + 1) b f) : CE low lv signs b f := jyy h
theorem jmB {low : Option Pa} {b : List Co} {f : Nt} (hn : jgt pNot b) (h : PE low 5 b f) : ∀ lv : Nat, 1 <= lv -> lv <= 5 -> PE low lv b f := fun lv a c => by
 have g4 := jxJ h hn
 have g3 := jwt g4
 have g2 := jsz g3
 have g1 := jqh g2
 rcases (by omega : lv = 1 ∨ lv = 2 ∨ lv = 3 ∨ lv = 4 ∨ lv = 5) with rfl | rfl | rfl | rfl | rfl <;> assumption
theorem jbB (p lv : Int) (fu : Bool) (l : List Co) (hl : lv <= 8) : (jd5 p lv fu l = l /\ lv <= p) ∨ (jd5 p lv fu l = jaf pLp :: l ++ [jaf pRp] /\ p < 8) := by
 unfold jd5
 by_cases h : p < lv
 ·rw [if_pos h]; exact .inr ⟨rfl, by omega⟩
 ·rw [if_neg h]
  cases fu with
  | false => exact .inl ⟨rfl, by omega⟩
  | true =>
   rw [if_pos rfl]
   by_cases h8 : p < 8
   ·rw [if_pos h8]; exact .inr ⟨rfl, h8⟩
   ·rw [if_neg h8]; exact .inl ⟨rfl, by omega⟩
theorem joG {n : Nat} {b : List Co} {f : Nt} (h : PE (jav n) 1 b f) : ∀ lv : Nat, 1 <= lv -> lv <= 8 -> PE (jav (n + 1)) lv (jaf pLp :: b ++ [jaf pRp]) f := by
 have h1 := jyt (pa n) (jav n) (by rw [jf1]; rfl) b f h
 exact jhj h1 (by show bs (jaf pLp).text ≠ pNot; decide) (by show bs (jaf pLp).text ≠ pMinus; decide)
theorem XI.leaf {low : Option Pa} {t : Int -> List Co} {b : List Co} {f : Nt} (ht : ∀ lv, lv <= 8 -> t lv = b) (h : PE low 8 b f) (h1 : jgt pNot b) (h2 : jgt pMinus b) (hnn : ∀ lv, jgt pNot (t lv)) : XI low t f where
 pe := fun lv a c => by rw [ht lv (by omega)]; exact jhj h h1 h2 lv a c
 c6 := by rw [ht 6 (by omega)]; exact jdF (jhj h h1 h2 7 (by omega) (by omega))
 c5 := by rw [ht 5 (by omega)]; exact jdF (jhj h h1 h2 6 (by omega) (by omega))
 nn := hnn
theorem XB.leaf {low : Option Pa} {t : Int -> List Co} {b : List Co} {f : Nt} (ht : ∀ lv, lv <= 8 -> t lv = b) (h : PE low 8 b f) (h1 : jgt pNot b) (h2 : jgt pMinus b) : XB low t f where
 pe := fun lv a c => by rw [ht lv (by omega)]; exact jhj h h1 h2 lv a c
 c2 := by rw [ht 2 (by omega)]; exact jdF (jhj h h1 h2 3 (by omega) (by omega))
 c1 := by rw [ht 1 (by omega)]; exact jdF (jhj h h1 h2 2 (by omega) (by omega))
theorem jfI {p lv : Int} {fu : Bool} {b : List Co} (h : jgt pNot b) : jgt pNot (jd5 p lv fu b) := by
 have h1 : jgt pNot (jaf pLp :: b ++ [jaf pRp]) := by show bs (jaf pLp).text ≠ pNot; decide
 unfold jd5
 split
 ·exact h1
 ·split
  ·split
   ·exact h1
   ·exact h
  ·exact h
theorem jnY {s : ByteArray} {b c : List Co} (h : jgt s b) : jgt s (b ++ c) := by
 cases b with
 | nil => exact h.elim
 | cons x b => exact h
theorem XI.node {n : Nat} {p : Nat} {fu : Bool} {b : List Co} {f : Nt} (hp : 5 <= p /\ p <= 8) (hlow : PE (jav n) 1 b f) (hb : ∀ lv : Nat, 1 <= lv -> lv <= p -> PE (jav (n + 1)) lv b f) (h6 : p = 6 -> CE (jav (n + 1)) 6 [jbG, jaM] b f) (h5 : p = 5 -> CE (jav (n + 1)) 5 [jcJ, pMinus] b f) (hn : jgt pNot b) : XI (jav (n + 1)) (fun lv => jd5 p lv fu b) f := by
 have hq := joG hlow
 have hpe : ∀ lv : Nat, 1 <= lv -> lv <= 8 -> PE (jav (n + 1)) lv (jd5 p lv fu b) f := fun lv a c => by
  rcases jbB p lv fu b (by omega) with ⟨e, h⟩ | ⟨e, h⟩
  ·rw [e]; exact hb lv a (by omega)
  ·rw [e]; exact hq lv a c
 refine ⟨hpe, ?_, ?_, fun lv => jfI hn⟩
 ·show CE _ 6 _ (jd5 p 6 fu b) f
  rcases jbB p 6 fu b (by omega) with ⟨e, h⟩ | ⟨e, h⟩
  ·rw [e]
   by_cases h0 : p = 6
   ·exact h6 h0
   ·exact jdF (hb 7 (by omega) (by omega))
  ·rw [e]; exact jdF (hq 7 (by omega) (by omega))
 ·show CE _ 5 _ (jd5 p 5 fu b) f
  rcases jbB p 5 fu b (by omega) with ⟨e, h⟩ | ⟨e, h⟩
  ·rw [e]
   by_cases h0 : p = 5
   ·exact h5 h0
   ·exact jdF (hb 6 (by omega) (by omega))
  ·rw [e]; exact jdF (hq 6 (by omega) (by omega))
theorem XB.node {n : Nat} {p : Nat} {fu : Bool} {b : List Co} {f : Nt} (hp : 1 <= p /\ p <= 4) (hlow : PE (jav n) 1 b f) (hb : ∀ lv : Nat, 1 <= lv -> lv <= p -> PE (jav (n + 1)) lv b f) (h2 : p = 2 -> CE (jav (n + 1)) 2 [jec] b f) (h1 : p = 1 -> CE (jav (n + 1)) 1 [pOr] b f) : XB (jav (n + 1)) (fun lv => jd5 p lv fu b) f := by
 have hq := joG hlow
 have hpe : ∀ lv : Nat, 1 <= lv -> lv <= 8 -> PE (jav (n + 1)) lv (jd5 p lv fu b) f := fun lv a c => by
  rcases jbB p lv fu b (by omega) with ⟨e, h⟩ | ⟨e, h⟩
  ·rw [e]; exact hb lv a (by omega)
  ·rw [e]; exact hq lv a c
 refine ⟨hpe, ?_, ?_⟩
 ·show CE _ 2 _ (jd5 p 2 fu b) f
  rcases jbB p 2 fu b (by omega) with ⟨e, h⟩ | ⟨e, h⟩
  ·rw [e]
   by_cases h0 : p = 2
   ·exact h2 h0
   ·exact jdF (hb 3 (by omega) (by omega))
  ·rw [e]; exact jdF (hq 3 (by omega) (by omega))
 ·show CE _ 1 _ (jd5 p 1 fu b) f
  rcases jbB p 1 fu b (by omega) with ⟨e, h⟩ | ⟨e, h⟩
  ·rw [e]
   by_cases h0 : p = 1
   ·exact h1 h0
   ·exact jdF (hb 2 (by omega) (by omega))
  ·rw [e]; exact jdF (hq 2 (by omega) (by omega))
theorem jeE {lv : Int} {fu : Bool} {b : List Co} (h : lv <= 8) : jd5 8 lv fu b = b := by
 rcases jbB 8 lv fu b h with ⟨e, _⟩ | ⟨_, h⟩
 ·exact e
 ·omega
variable {fu : Bool}
theorem leaf_no {n : Nat} : jgt pNot [jfP n] /\ jgt pMinus [jfP n] := by
 have h : ∀ s : ByteArray, jaq s ≠ jaq (bs (jb3 n)) -> bs (jb3 n) ≠ s := fun s h e => h (by rw [e])
 have hf := jg3 n
 constructor
 ·refine h pNot ?_;intro e; rw [<- e] at hf; exact absurd hf (by decide)
 ·refine h pMinus ?_;intro e; rw [<- e] at hf; exact absurd hf (by decide)
theorem jgu {s : ByteArray} (h : s ≠ pNot /\ s ≠ pMinus) : jgt pNot [jap s] /\ jgt pMinus [jap s] := by
 have e : bs (jap s).text = s := jbd s
 exact ⟨by show bs (jap s).text ≠ _; rw [e]; exact h.1, by show bs (jap s).text ≠ _; rw [e]; exact h.2⟩
theorem jxF (n m : Nat) : XI (jav m) (tkN fu (.mk 12 n eB [])) (.mk 12 n eB []) :=
 XI.leaf (b := [jfP n]) (fun lv h => jeE h) (jxw _ n) leaf_no.1 leaf_no.2 fun lv => jfI leaf_no.1
theorem juI (s : ByteArray) (m : Nat) (k : Int) (hk : k = 14 ∨ k = 15) (h : PE (jav m) 8 [jap s] (.mk k 0 s [])) (hs : s ≠ pNot /\ s ≠ pMinus) : XI (jav m) (tkN fu (.mk k 0 s [])) (.mk k 0 s []) := by
 rcases hk with rfl | rfl
 ·exact XI.leaf (b := [jap s]) (fun lv h => jeE h) h (jgu hs).1 (jgu hs).2 fun lv => jfI (jgu hs).1
 ·exact XI.leaf (b := [jap s]) (fun lv h => jeE h) h (jgu hs).1 (jgu hs).2 fun lv => jfI (jgu hs).1
theorem jy8 : ∀ s ∈ varL, s ≠ pNot /\ s ≠ pMinus := by decide
theorem jtE : ∀ s ∈ builtL, s ≠ pNot /\ s ≠ pMinus := by decide
theorem jmu {n : Nat} (h : 1 <= n) : jav n = some (pa (n - 1)) := by
 obtain ⟨k, rfl⟩ : ∃ k, n = k + 1 := ⟨n - 1, by omega⟩
 rfl
theorem jvX {d : Nat} {f : Nt} (h : EI d f) : ∀ n, 2 * d <= n -> XI (jav n) (tkN fu f) f := by
 induction h with
 | lit d n h => intro m _; obtain ⟨k, rfl, _⟩ := jvb n h; exact jxF k m
 | var d s h => intro m _; exact juI s m 14 (.inl rfl) (jyb _ s h) (jy8 s h)
 | nam d s h => intro m _; exact juI s m 15 (.inr rfl) (jxK _ s h) (jtE s h)
 | drw d f h ih =>
  intro n hn
  have h1 := (ih (n - 1) (by omega)).pe 1 (by omega) (by omega)
  have h2 := jxk (pa (n - 1)) (jav (n - 1)) (by rw [jf1]; rfl) (tkN fu f 1) f h1
  rw [<- jmu (by omega)] at h2
  have q1 : ∀ s, s = pNot ∨ s = pMinus -> jgt s (jap wDraw :: jaf pLp :: tkN fu f 1 ++ [jaf pRp]) := fun s hs => by
   show bs (jap wDraw).text ≠ s
   rcases hs with rfl | rfl <;> decide
  exact XI.leaf (fun lv h => jeE h) h2 (q1 _ (.inl rfl)) (q1 _ (.inr rfl)) fun lv => jfI (q1 _ (.inl rfl))
 | neg d f h ih =>
  intro n hn
  have key : ∀ m, 2 * d + 1 <= m -> PE (jav m) 7 (jaf pMinus :: tkN fu f 7) (.mk 17 0 pMinus [f]) := fun m hm => by
   have h2 := jxn (pa (m - 1)) (jav (m - 1)) (by rw [jf1]; rfl) (tkN fu f 7) f ((ih (m - 1) (by omega)).pe 7 (by omega) (by omega))
   rw [<- jmu (by omega)] at h2;exact h2
  have hno : jgt pNot (jaf pMinus :: tkN fu f 7) := by show bs (jaf pMinus).text ≠ pNot; decide
  have all : ∀ m, 2 * d + 1 <= m -> ∀ lv : Nat, 1 <= lv -> lv <= 7 -> PE (jav m) lv (jaf pMinus :: tkN fu f 7) (.mk 17 0 pMinus [f]) := fun m hm lv a c => by
   have g7 := key m hm
   have g6 := jxs g7
   by_cases h5 : lv <= 5
   ·exact jmB hno (jvq g6) lv a h5
   ·rcases (by omega : lv = 6 ∨ lv = 7) with rfl | rfl <;> assumption
  obtain ⟨m, rfl⟩ : ∃ m, n = m + 1 := ⟨n - 1, by omega⟩
  exact XI.node (p := 7) (by omega) (all m (by omega) 1 (by omega) (by omega)) (all (m + 1) (by omega)) (by omega) (by omega) hno
 | bin d s f g hs h1 h2 i1 i2 =>
  intro n hn
  obtain ⟨m, rfl⟩ : ∃ m, n = m + 1 := ⟨n - 1, by omega⟩
  have hop : (jab 18 s = 6 /\ (s = jbG ∨ s = jaM)) ∨ (jab 18 s = 5 /\ (s = jcJ ∨ s = pMinus)) := by
   unfold opL at hs;simp only [List.mem_cons, List.not_mem_nil, or_false] at hs
   rcases hs with rfl | rfl | rfl | rfl <;> decide
  rcases hop with ⟨hp, ho⟩ | ⟨hp, ho⟩
  ·have e : ∀ lv, tkN fu (.mk 18 0 s [f, g]) lv = jd5 6 lv fu (tkN fu f 6 ++ jaf s :: tkN fu g 7) := fun lv => by
    show jd5 (jab 18 s) lv fu (tkN fu f (if jab 18 s = 4 then 5 else jab 18 s) ++ jaf s :: tkN fu g (jab 18 s + 1)) = _
    rw [hp]; rfl
   have hno : jgt pNot (tkN fu f 6 ++ jaf s :: tkN fu g 7) := jnY ((i1 (2 * d) (Nat.le_refl _)).nn 6)
   have hc : ∀ m, 2 * d <= m -> CE (jav m) 6 [jbG, jaM] (tkN fu f 6 ++ jaf s :: tkN fu g 7) (.mk 18 0 s [f, g]) := fun m hm =>
    jjI s (i1 m hm).c6 (by rcases ho with rfl | rfl <;> decide) (fun _ _ _ => trivial) ((i2 m hm).pe 7 (by omega) (by omega))
   have all : ∀ m, 2 * d <= m -> ∀ lv : Nat, 1 <= lv -> lv <= 6 -> PE (jav m) lv (tkN fu f 6 ++ jaf s :: tkN fu g 7) (.mk 18 0 s [f, g]) := fun m hm lv a c => by
    have g6 := jze (hc m hm)
    by_cases h5 : lv <= 5
    ·exact jmB hno (jvq g6) lv a h5
    ·rcases (by omega : lv = 6) with rfl; exact g6
   rw [show tkN fu (.mk 18 0 s [f, g]) = fun lv => jd5 6 lv fu (tkN fu f 6 ++ jaf s :: tkN fu g 7) from funext e];exact XI.node (p := 6) (by omega) (all m (by omega) 1 (by omega) (by omega)) (all (m + 1) (by omega)) (fun _ => hc (m + 1) (by omega)) (by omega) hno
  ·have e : ∀ lv, tkN fu (.mk 18 0 s [f, g]) lv = jd5 5 lv fu (tkN fu f 5 ++ jaf s :: tkN fu g 6) := fun lv => by
    show jd5 (jab 18 s) lv fu (tkN fu f (if jab 18 s = 4 then 5 else jab 18 s) ++ jaf s :: tkN fu g (jab 18 s + 1)) = _
    rw [hp]; rfl
   have hno : jgt pNot (tkN fu f 5 ++ jaf s :: tkN fu g 6) := jnY ((i1 (2 * d) (Nat.le_refl _)).nn 5)
   have hc : ∀ m, 2 * d <= m -> CE (jav m) 5 [jcJ, pMinus] (tkN fu f 5 ++ jaf s :: tkN fu g 6) (.mk 18 0 s [f, g]) := fun m hm =>
    jjI s (i1 m hm).c5 (by rcases ho with rfl | rfl <;> decide) (fun ts r hb => jaZ hb _ (by rcases ho with rfl | rfl <;> decide)) ((i2 m hm).pe 6 (by omega) (by omega))
   have all : ∀ m, 2 * d <= m -> ∀ lv : Nat, 1 <= lv -> lv <= 5 -> PE (jav m) lv (tkN fu f 5 ++ jaf s :: tkN fu g 6) (.mk 18 0 s [f, g]) := fun m hm lv a c => jmB hno (jzM (hc m hm)) lv a c
   rw [show tkN fu (.mk 18 0 s [f, g]) = fun lv => jd5 5 lv fu (tkN fu f 5 ++ jaf s :: tkN fu g 6) from funext e];exact XI.node (p := 5) (by omega) (all m (by omega) 1 (by omega) (by omega)) (all (m + 1) (by omega)) (by omega) (fun _ => hc (m + 1) (by omega)) hno
theorem jAy {d : Nat} {f : Nt} (h : EB d f) : ∀ n, 2 * d + 1 <= n -> XB (jav n) (tkN fu f) f := by
 induction h with
 | lit d n h =>
  intro m _
  have hs : tfB n ≠ pNot /\ tfB n ≠ pMinus := by
   rcases (by omega : n = 0 ∨ n = 1) with rfl | rfl <;> decide
  exact XB.leaf (b := [jap (tfB n)]) (fun lv h => jeE h) (jwL _ n h) (jgu hs).1 (jgu hs).2
 | nt d f h ih =>
  intro n hn
  have key : ∀ m, 2 * d + 2 <= m -> PE (jav m) 3 (jaf pNot :: tkN fu f 3) (.mk 17 0 pNot [f]) := fun m hm => by
   have h2 := jy1 (pa (m - 1)) (jav (m - 1)) (by rw [jf1]; rfl) (tkN fu f 3) f ((ih (m - 1) (by omega)).pe 3 (by omega) (by omega))
   rw [<- jmu (by omega)] at h2;exact h2
  have all : ∀ m, 2 * d + 2 <= m -> ∀ lv : Nat, 1 <= lv -> lv <= 3 -> PE (jav m) lv (jaf pNot :: tkN fu f 3) (.mk 17 0 pNot [f]) := fun m hm lv a c => by
   have g3 := key m hm
   have g2 := jsz g3
   have g1 := jqh g2
   rcases (by omega : lv = 1 ∨ lv = 2 ∨ lv = 3) with rfl | rfl | rfl <;> assumption
  obtain ⟨m, rfl⟩ : ∃ m, n = m + 1 := ⟨n - 1, by omega⟩
  exact XB.node (p := 3) (by omega) (all m (by omega) 1 (by omega) (by omega)) (all (m + 1) (by omega)) (by omega) (by omega)
 | bin d s f g hs h1 h2 i1 i2 =>
  intro n hn
  obtain ⟨m, rfl⟩ : ∃ m, n = m + 1 := ⟨n - 1, by omega⟩
  have hop : s = jec ∨ s = pOr := by
   unfold bolL at hs
   simpa only [List.mem_cons, List.not_mem_nil, or_false] using hs
  rcases hop with rfl | rfl
  ·have e : ∀ lv, tkN fu (.mk 18 0 jec [f, g]) lv = jd5 2 lv fu (tkN fu f 2 ++ jaf jec :: tkN fu g 3) := fun lv => rfl
   have hc : ∀ m, 2 * d + 1 <= m -> CE (jav m) 2 [jec] (tkN fu f 2 ++ jaf jec :: tkN fu g 3) (.mk 18 0 jec [f, g]) := fun m hm =>
    jjI jec (i1 m hm).c2 (by decide) (fun ts r hb => ⟨jaZ hb _ (by decide), jaZ hb _ (by decide), jaZ hb _ (by decide)⟩) ((i2 m hm).pe 3 (by omega) (by omega))
   have all : ∀ m, 2 * d + 1 <= m -> ∀ lv : Nat, 1 <= lv -> lv <= 2 -> PE (jav m) lv (tkN fu f 2 ++ jaf jec :: tkN fu g 3) (.mk 18 0 jec [f, g]) := fun m hm lv a c => by
    have g2 := jzG (hc m hm)
    have g1 := jqh g2
    rcases (by omega : lv = 1 ∨ lv = 2) with rfl | rfl <;> assumption
   rw [show tkN fu (.mk 18 0 jec [f, g]) = fun lv => jd5 2 lv fu (tkN fu f 2 ++ jaf jec :: tkN fu g 3) from funext e];exact XB.node (p := 2) (by omega) (all m (by omega) 1 (by omega) (by omega)) (all (m + 1) (by omega)) (fun _ => hc (m + 1) (by omega)) (by omega)
  ·have e : ∀ lv, tkN fu (.mk 18 0 pOr [f, g]) lv = jd5 1 lv fu (tkN fu f 1 ++ jaf pOr :: tkN fu g 2) := fun lv => rfl
   have hc : ∀ m, 2 * d + 1 <= m -> CE (jav m) 1 [pOr] (tkN fu f 1 ++ jaf pOr :: tkN fu g 2) (.mk 18 0 pOr [f, g]) := fun m hm =>
    jjI pOr (i1 m hm).c1 (by decide) (fun ts r hb => ⟨jaZ hb _ (by decide), jaZ hb _ (by decide), jaZ hb _ (by decide), jaZ hb _ (by decide)⟩) ((i2 m hm).pe 2 (by omega) (by omega))
   have all : ∀ m, 2 * d + 1 <= m -> ∀ lv : Nat, 1 <= lv -> lv <= 1 -> PE (jav m) lv (tkN fu f 1 ++ jaf pOr :: tkN fu g 2) (.mk 18 0 pOr [f, g]) := fun m hm lv a c => by
    obtain rfl : lv = 1 := by omega
    exact jAh (hc m hm)
   rw [show tkN fu (.mk 18 0 pOr [f, g]) = fun lv => jd5 1 lv fu (tkN fu f 1 ++ jaf pOr :: tkN fu g 2) from funext e];exact XB.node (p := 1) (by omega) (all m (by omega) 1 (by omega) (by omega)) (all (m + 1) (by omega)) (by omega) (fun _ => hc (m + 1) (by omega))
 | cmp d s f g hs h1 h2 =>
  intro n hn
  obtain ⟨m, rfl⟩ : ∃ m, n = m + 1 := ⟨n - 1, by omega⟩
  have hp : jab 18 s = 4 /\ (cmpL.any fun x => decide (s = x)) = true /\ (mulL.any fun x => decide (s = x)) = false /\ (addL.any fun x => decide (s = x)) = false := by
   unfold cmpL at hs;simp only [List.mem_cons, List.not_mem_nil, or_false] at hs
   rcases hs with rfl | rfl | rfl | rfl | rfl | rfl <;> decide
  have e : ∀ lv, tkN fu (.mk 18 0 s [f, g]) lv = jd5 4 lv fu (tkN fu f 5 ++ jaf s :: tkN fu g 5) := fun lv => by
   show jd5 (jab 18 s) lv fu (tkN fu f (if jab 18 s = 4 then 5 else jab 18 s) ++ jaf s :: tkN fu g (jab 18 s + 1)) = _
   rw [hp.1]; rfl
  have key : ∀ m, 2 * d <= m -> PE (jav m) 4 (tkN fu f 5 ++ jaf s :: tkN fu g 5) (.mk 18 0 s [f, g]) := fun m hm ts r hb hs => by
   obtain ⟨u, q1, q2⟩ := hb.app
   have x1 := jvX (fu := fu) h1 m (by omega)
   have x2 := jvX (fu := fu) h2 m (by omega)
   have hno := jn6 (x1.nn 5) q1
   have y1 : jpj (jav m) ts = .ok f u := x1.pe 5 (by omega) (by omega) ts u q1 ⟨jaZ q2 _ hp.2.2.1, jaZ q2 _ hp.2.2.2⟩
   obtain ⟨p, t, _, hr⟩ := jdo q2
   have y2 : jpj (jav m) u.tail = .ok g r := x2.pe 5 (by omega) (by omega) u.tail r hr ⟨hs.1, hs.2.1⟩
   show ntG (jav m) ts = _
   unfold ntG;rw [if_neg (by rw [hno]; decide), y1]
   show (if jfN cmpL u = true then _ else _) = _
   rw [if_pos (by unfold jfN; rw [show (fun x => isP x u) = fun x => decide (s = x) from funext p]; exact hp.2.1), y2, t];rfl
  have all : ∀ m, 2 * d <= m -> ∀ lv : Nat, 1 <= lv -> lv <= 4 -> PE (jav m) lv (tkN fu f 5 ++ jaf s :: tkN fu g 5) (.mk 18 0 s [f, g]) := fun m hm lv a c => by
   have g4 := key m hm
   have g3 := jwt g4
   have g2 := jsz g3
   have g1 := jqh g2
   rcases (by omega : lv = 1 ∨ lv = 2 ∨ lv = 3 ∨ lv = 4) with rfl | rfl | rfl | rfl <;> assumption
  rw [show tkN fu (.mk 18 0 s [f, g]) = fun lv => jd5 4 lv fu (tkN fu f 5 ++ jaf s :: tkN fu g 5) from funext e];exact XB.node (p := 4) (by omega) (all m (by omega) 1 (by omega) (by omega)) (all (m + 1) (by omega)) (by omega) (by omega)
end
section
theorem jmK (f : Nt) (r : List Tk) (k : Nt -> List Tk -> Pn) : (Pn.ok f r).andThen k = k f r := rfl
def stL (n : Nat) : List Tk -> Pn := stG (jnl (jav n)) (jx7 (jav n))
theorem joJ (n : Nat) : jx7 (jav (n + 1)) = bkF (stL n) := by
 show (pa n).bl = _
 rw [jf1]; rfl
theorem jyz (n : Nat) : (pa n).bl = bkF (stL n) := joJ n
theorem jcX {low : Option Pa} {f : Nt} {t : List Co} (h : PE low 1 t f) {s : ByteArray} (hs : s = pSemi ∨ s = pComma ∨ s = pLb) {b : List Co} {ts r : List Tk} (hb : Beg (t ++ jaf s :: b) ts r) : ∃ u, jnl low ts = .ok f u /\ Beg (jaf s :: b) u r := by
 obtain ⟨u, h1, h2⟩ := hb.app
 refine ⟨u, h ts u h1 ?_, h2⟩
 rcases hs with rfl | rfl | rfl <;> exact ⟨jaZ h2 _ (by decide), jaZ h2 _ (by decide), jaZ h2 _ (by decide), jaZ h2 _ (by decide), jaZ h2 _ (by decide)⟩
theorem jgk {s : ByteArray} {b : List Co} {ts r : List Tk} (hb : Beg (jaf s :: b) ts r) (k : List Tk -> Pn) : xpt s ts k = k ts.tail /\ Beg b ts.tail r := by
 obtain ⟨p, _, _, hr⟩ := jdo hb
 refine ⟨?_, hr⟩;unfold xpt;rw [p, if_pos (decide_eq_true rfl)]
theorem jx8 {n : Nat} {b : List Co} {ts r : List Tk} (hb : Beg (jfP n :: b) ts r) (limit : Int) (hl : (n : Int) < limit) (k : Int -> List Tk -> Pn) : jgH limit ts k = k n ts.tail /\ Beg b ts.tail r := by
 obtain ⟨hc, hr, _⟩ := hb.cons
 have hk := (jcA hc).1
 have hn := (jcA hc).2
 refine ⟨?_, hr⟩;unfold jgH;rw [show (hd ts).kind = 2 from hk, show (hd ts).n = n from hn, if_neg (by decide), if_neg (by omega)]
variable {fu : Bool}
def PS (n : Nat) (t : List Co) (f : Nt) : Prop := ∀ ts r, Beg t ts r -> isP wElse r = false -> stL n ts = .ok f r
theorem PS.eq {n : Nat} {t t2 : List Co} {f : Nt} (h : PS n t f) (e : t2 = t) : PS n t2 f := by rw [e]; exact h
theorem jod (f : Nt) : lsT fu [f] = tkN fu f 1 ++ [jaf pSemi] := by
 show (tkN fu f 1 ++ []) ++ [jaf pSemi] = _
 rw [List.append_nil]
theorem joa (f g : Nt) : lsT fu [f, g] = tkN fu f 1 ++ jaf pComma :: (tkN fu g 1 ++ [jaf pSemi]) := by
 show (tkN fu f 1 ++ (jaf pComma :: tkN fu g 1 ++ [])) ++ [jaf pSemi] = _
 simp
theorem jvw {n d : Nat} {f : Nt} (h : EI d f) (hd : 2 * d <= n) : PE (jav n) 1 (tkN fu f 1) f := (jvX h n hd).pe 1 (by omega) (by omega)
theorem jB5 {n d : Nat} {f : Nt} (h : EB d f) (hd : 2 * d + 1 <= n) : PE (jav n) 1 (tkN fu f 1) f := (jAy h n hd).pe 1 (by omega) (by omega)
theorem jyc {n : Nat} {s : ByteArray} (hs : s ∈ varL) {f : Nt} (hf : PE (jav n) 1 (tkN fu f 1) f) : PS n (tkS fu (.mk 1 0 s [f])) (.mk 1 0 s [f]) := by
 refine PS.eq (t := jap s :: jaf pEq :: (tkN fu f 1 ++ [jaf pSemi])) ?_ (by rw [<- jod]; rfl);intro ts r hb he
 obtain ⟨p, q, _, t, k, h1⟩ := jaA hb
 obtain ⟨e1, h2⟩ := jgk h1 fun r => (jnl (jav n) r).andThen fun e r => xpt pSemi r fun r => .ok (.mk 1 0 (hd ts).text [e]) r
 obtain ⟨u, e2, h3⟩ := jcX hf (.inl rfl) h2
 obtain ⟨e3, h4⟩ := jgk h3 fun r => .ok (.mk 1 0 (hd ts).text [f]) r
 have h4 := h4.nil
 show stG _ _ ts = _
 unfold stG;rw [if_pos (by rw [q, (jqu s hs).2.2.2.2]; rfl), e1, e2];rw [jmK];rw [e3, h4, t]
theorem jyE {n m : Nat} (hm : m < 30) {f g h : Nt} (hf : PE (jav n) 1 (tkN fu f 1) f) (hg : PE (jav n) 1 (tkN fu g 1) g) (hh : PE (jav n) 1 (tkN fu h 1) h) : PS n (tkS fu (.mk 4 m eB [f, g, h])) (.mk 4 m eB [f, g, h]) := by
 refine PS.eq (t := jap wSend :: (tkN fu f 1 ++ jaf pComma :: jfP m :: jaf pComma :: (tkN fu g 1 ++ jaf pComma :: (tkN fu h 1 ++ [jaf pSemi])))) ?_ (by rw [<- joa]; rfl);intro ts r hb he
 obtain ⟨p, q, _, t, k, h1⟩ := jaA hb
 show stG _ _ ts = _
 unfold stG;rw [if_neg (by rw [q]; decide), if_neg (by rw [k]; decide), t]
 obtain ⟨u, e2, h2⟩ := jcX hf (.inr (.inl rfl)) h1
 rw [if_neg (by decide), if_neg (by decide), if_pos rfl, e2];rw [jmK]
 obtain ⟨_, h3⟩ := jgk h2 fun r => .ok f r
 rw [(jgk h2 _).1]
 obtain ⟨_, h4⟩ := jx8 h3 30 (by omega) fun _ r => .ok f r
 rw [(jx8 h3 30 (by omega) _).1]
 obtain ⟨_, h5⟩ := jgk h4 fun r => .ok f r
 rw [(jgk h4 _).1]
 obtain ⟨u2, e3, h6⟩ := jcX hg (.inr (.inl rfl)) h5
 rw [e3];rw [jmK]
 obtain ⟨_, h7⟩ := jgk h6 fun r => .ok f r
 rw [(jgk h6 _).1]
 obtain ⟨u3, e4, h8⟩ := jcX hh (.inl rfl) h7
 rw [e4];rw [jmK]
 obtain ⟨_, h9⟩ := jgk h8 fun r => .ok f r
 rw [(jgk h8 _).1, h9.nil]
theorem jxQ {n m : Nat} (hm : m < 8) : PS n (tkS fu (.mk 5 m eB [])) (.mk 5 m eB []) := by
 refine PS.eq (t := [jap wTimer, jfP m, jaf pSemi]) ?_ rfl;intro ts r hb he
 obtain ⟨p, q, _, t, k, h1⟩ := jaA hb
 show stG _ _ ts = _
 unfold stG;rw [if_neg (by rw [q]; decide), if_neg (by rw [k]; decide), t];rw [if_neg (by decide), if_neg (by decide), if_neg (by decide), if_pos rfl]
 obtain ⟨_, h4⟩ := jx8 h1 8 (by omega) fun _ r => .ok (.mk 0 0 eB []) r
 rw [(jx8 h1 8 (by omega) _).1]
 obtain ⟨_, h9⟩ := jgk h4 fun r => .ok (.mk 0 0 eB []) r
 rw [(jgk h4 _).1, h9.nil]
theorem jyj {n m : Nat} (hm : m < 8) : PS n (tkS fu (.mk 6 m eB [])) (.mk 6 m eB []) := by
 refine PS.eq (t := [jap wCancel, jfP m, jaf pSemi]) ?_ rfl;intro ts r hb he
 obtain ⟨p, q, _, t, k, h1⟩ := jaA hb
 show stG _ _ ts = _
 unfold stG;rw [if_neg (by rw [q]; decide), if_neg (by rw [k]; decide), t];rw [if_neg (by decide), if_neg (by decide), if_neg (by decide), if_neg (by decide), if_pos rfl]
 obtain ⟨_, h4⟩ := jx8 h1 8 (by omega) fun _ r => .ok (.mk 0 0 eB []) r
 rw [(jx8 h1 8 (by omega) _).1]
 obtain ⟨_, h9⟩ := jgk h4 fun r => .ok (.mk 0 0 eB []) r
 rw [(jgk h4 _).1, h9.nil]
theorem jxT {n : Nat} : PS n (tkS fu (.mk 7 0 eB [])) (.mk 7 0 eB []) := by
 refine PS.eq (t := [jap wSync, jaf pSemi]) ?_ rfl;intro ts r hb he
 obtain ⟨p, q, _, t, k, h1⟩ := jaA hb
 show stG _ _ ts = _
 unfold stG;rw [if_neg (by rw [q]; decide), if_neg (by rw [k]; decide), t];rw [if_neg (by decide), if_neg (by decide), if_neg (by decide), if_neg (by decide), if_neg (by decide), if_pos rfl]
 obtain ⟨_, h9⟩ := jgk h1 fun r => .ok (.mk 0 0 eB []) r
 rw [(jgk h1 _).1, h9.nil]
theorem jxU {n : Nat} {f g : Nt} (hf : PE (jav n) 1 (tkN fu f 1) f) (hg : PE (jav n) 1 (tkN fu g 1) g) : PS n (tkS fu (.mk 8 0 eB [f, g])) (.mk 8 0 eB [f, g]) := by
 refine PS.eq (t := jap wReply :: (tkN fu f 1 ++ jaf pComma :: (tkN fu g 1 ++ [jaf pSemi]))) ?_ (by rw [<- joa]; rfl);intro ts r hb he
 obtain ⟨p, q, _, t, k, h1⟩ := jaA hb
 show stG _ _ ts = _
 unfold stG;rw [if_neg (by rw [q]; decide), if_neg (by rw [k]; decide), t]
 obtain ⟨u2, e3, h6⟩ := jcX hf (.inr (.inl rfl)) h1
 rw [if_neg (by decide), if_neg (by decide), if_neg (by decide), if_neg (by decide), if_neg (by decide), if_neg (by decide), if_pos rfl, e3];rw [jmK]
 obtain ⟨_, h7⟩ := jgk h6 fun r => .ok f r
 rw [(jgk h6 _).1]
 obtain ⟨u3, e4, h8⟩ := jcX hg (.inl rfl) h7
 rw [e4];rw [jmK]
 obtain ⟨_, h9⟩ := jgk h8 fun r => .ok f r
 rw [(jgk h8 _).1, h9.nil]
theorem jyO {n : Nat} {f : Nt} (hf : PE (jav n) 1 (tkN fu f 1) f) : PS n (tkS fu (.mk 9 0 eB [f])) (.mk 9 0 eB [f]) := by
 refine PS.eq (t := jap wFail :: (tkN fu f 1 ++ [jaf pSemi])) ?_ (by rw [<- jod]; rfl);intro ts r hb he
 obtain ⟨p, q, _, t, k, h1⟩ := jaA hb
 show stG _ _ ts = _
 unfold stG;rw [if_neg (by rw [q]; decide), if_neg (by rw [k]; decide), t]
 obtain ⟨u3, e4, h8⟩ := jcX hf (.inl rfl) h1
 rw [if_neg (by decide), if_neg (by decide), if_neg (by decide), if_neg (by decide), if_neg (by decide), if_neg (by decide), if_neg (by decide), if_pos rfl, e4];rw [jmK]
 obtain ⟨_, h9⟩ := jgk h8 fun r => .ok f r
 rw [(jgk h8 _).1, h9.nil]
theorem jxP {n : Nat} : PS n (tkS fu (.mk 10 0 eB [])) (.mk 10 0 eB []) := by
 refine PS.eq (t := [jap wStop, jaf pSemi]) ?_ rfl;intro ts r hb he
 obtain ⟨p, q, _, t, k, h1⟩ := jaA hb
 show stG _ _ ts = _
 unfold stG;rw [if_neg (by rw [q]; decide), if_neg (by rw [k]; decide), t];rw [if_neg (by decide), if_neg (by decide), if_neg (by decide), if_neg (by decide), if_neg (by decide), if_neg (by decide), if_neg (by decide), if_neg (by decide), if_pos rfl]
 obtain ⟨_, h9⟩ := jgk h1 fun r => .ok (.mk 0 0 eB []) r
 rw [(jgk h1 _).1, h9.nil]
def StS (t : List Co) : Prop := ∃ s l, t = jap s :: l /\ s ≠ wElse /\ s ≠ pRb
theorem jAg {n : Nat} (m : List Nt) (hm : ∀ f ∈ m, PS n (tkS fu f) f /\ StS (tkS fu f)) : ∀ (acc : List Nt) (ts r : List Tk) (k : Nat), Beg ((m.map (tkS fu)).flatten ++ [jaf pRb]) ts r -> m.length + 1 <= k -> ji8 (stL n) k acc ts = .ok (jba (acc ++ m)) r := by
 induction m with
 | nil =>
  intro acc ts r k hb hk
  obtain ⟨j, rfl⟩ : ∃ j, k = j + 1 := ⟨k - 1, by simp at hk; omega⟩
  have hb : Beg [jaf pRb] ts r := hb
  obtain ⟨p, _, _, hr⟩ := jdo hb
  rw [ji8, if_pos (by rw [p]; decide), List.append_nil, hr.nil]
 | cons f m ih =>
  intro acc ts r k hb hk
  obtain ⟨j, rfl⟩ : ∃ j, k = j + 1 := ⟨k - 1, by simp at hk; omega⟩
  rw [List.map_cons, List.flatten_cons, List.append_assoc] at hb
  obtain ⟨hf, s, l, hs, hs1, hs2⟩ := hm f List.mem_cons_self
  obtain ⟨u, h1, h2⟩ := hb.app
  have hel : isP wElse u = false := by
   cases m with
   | nil =>
    have h2 : Beg [jaf pRb] u r := h2
    obtain ⟨p, _⟩ := jdo h2
    rw [p]; decide
   | cons g m =>
    obtain ⟨_, s2, l2, hs2, hs3, _⟩ := hm g (by simp)
    rw [List.map_cons, List.flatten_cons, hs2] at h2
    obtain ⟨p, _⟩ := jaA (b := l2 ++ (m.map (tkS fu)).flatten ++ [jaf pRb]) (ts := u) (r := r) (by simpa using h2)
    rw [p, decide_eq_false hs3]
  have h3 := hf ts u h1 hel
  have hrb : isP pRb ts = false := by
   rw [hs] at h1
   obtain ⟨p, _⟩ := jaA h1
   rw [p, decide_eq_false hs2]
  rw [ji8, if_neg (by rw [hrb]; decide), h3]
  show ji8 (stL n) j (acc ++ [f]) u = _
  rw [ih (fun g hg => hm g (List.mem_cons_of_mem _ hg)) (acc ++ [f]) u r j h2 (by simp at hk; omega), List.append_assoc];rfl
def PBk (n : Nat) (t : List Co) (f : Nt) : Prop := ∀ ts r, Beg t ts r -> bkF (stL n) ts = .ok f r
theorem jnK {n : Nat} (m : List Nt) (hm : ∀ f ∈ m, PS n (tkS fu f) f /\ StS (tkS fu f)) : PBk n (tkB fu (jba m)) (jba m) := fun ts r hb => by
 have e2 : tkB fu (jba m) = jaf pLb :: ((m.map (tkS fu)).flatten ++ [jaf pRb]) := by
  unfold jba;rw [tkB, jgX]; rfl
 rw [e2] at hb
 obtain ⟨_, h1⟩ := jgk hb fun r => .ok (.mk 0 0 eB []) r
 unfold bkF;rw [(jgk hb _).1]
 have hlen : m.length <= (m.map (tkS fu)).flatten.length := by
  have : ∀ l : List Nt, (∀ f ∈ l, StS (tkS fu f)) -> l.length <= (l.map (tkS fu)).flatten.length := fun l => by
   induction l with
   | nil => intro _; exact Nat.zero_le _
   | cons f l ih =>
    intro h
    have h1 := ih fun g hg => h g (List.mem_cons_of_mem _ hg)
    obtain ⟨s, l2, hs, _⟩ := h f List.mem_cons_self
    rw [List.map_cons, List.flatten_cons, List.length_append, hs, List.length_cons, List.length_cons];omega
  exact this m fun f hf => (hm f hf).2
 have hl := h1.len
 rw [List.length_append] at hl;simp only [List.length_cons, List.length_nil] at hl;rw [jAg m hm [] ts.tail r _ h1 (by omega)];rfl
theorem jxg {n : Nat} {c b : Nt} (hc : PE (jav (n + 1)) 1 (tkN fu c 1) c) (hb : PBk n (tkB fu b) b) (hl : ∃ l, tkB fu b = jaf pLb :: l) : PS (n + 1) (tkS fu (.mk 3 0 eB [c, b])) (.mk 3 0 eB [c, b]) := by
 refine PS.eq (t := jap wWhile :: (tkN fu c 1 ++ tkB fu b)) ?_ rfl;intro ts r h0 he
 obtain ⟨l, hl⟩ := hl
 obtain ⟨p, q, _, t, k, h1⟩ := jaA h0
 show stG _ _ ts = _
 unfold stG;rw [if_neg (by rw [q]; decide), if_neg (by rw [k]; decide), t];rw [hl] at h1
 obtain ⟨u, e2, h2⟩ := jcX hc (.inr (.inr rfl)) h1
 rw [<- hl] at h2
 have h3 := hb u r h2
 rw [joJ, if_neg (by decide), if_pos rfl, e2]
 show (bkF (stL n) u).andThen _ = _
 rw [h3];rfl
theorem jyf {n : Nat} {c b d : Nt} (hc : PE (jav (n + 1)) 1 (tkN fu c 1) c) (hb : PBk n (tkB fu b) b) (hl : ∃ l, tkB fu b = jaf pLb :: l) (hd : PBk n (tkB fu d) d) (hd0 : d.kids.length = 0 -> d = jba []) : PS (n + 1) (tkS fu (.mk 2 0 eB [c, b, d])) (.mk 2 0 eB [c, b, d]) := by
 have e2 : tkS fu (.mk 2 0 eB [c, b, d]) = if 0 < d.kids.length then jap wIf :: tkN fu c 1 ++ tkB fu b ++ jap wElse :: tkB fu d else jap wIf :: tkN fu c 1 ++ tkB fu b := rfl
 obtain ⟨l, hl⟩ := hl
 by_cases hz : 0 < d.kids.length
 ·rw [if_pos hz] at e2;refine PS.eq (t := jap wIf :: (tkN fu c 1 ++ (tkB fu b ++ jap wElse :: tkB fu d))) ?_ (by rw [e2]; simp);intro ts r h0 he
  obtain ⟨p, q, _, t, k, h1⟩ := jaA h0
  show stG _ _ ts = _
  unfold stG;rw [if_neg (by rw [q]; decide), if_neg (by rw [k]; decide), t];rw [hl] at h1
  obtain ⟨u, e2, h2⟩ := jcX hc (.inr (.inr rfl)) h1
  have h2 : Beg ((jaf pLb :: l) ++ jap wElse :: tkB fu d) u r := h2
  rw [<- hl] at h2
  obtain ⟨v, h4, h5⟩ := h2.app
  have h3 := hb u v h4
  obtain ⟨p, _, _, _, _, h6⟩ := jaA h5
  have h7 := hd v.tail r h6
  rw [joJ, if_pos rfl, e2]
  show (bkF (stL n) u).andThen _ = _
  rw [h3]
  show (if isP wElse v = true then _ else _) = _
  rw [p, if_pos (by decide), h7];rfl
 ·rw [if_neg hz] at e2;refine PS.eq (t := jap wIf :: (tkN fu c 1 ++ tkB fu b)) ?_ (by rw [e2]; rfl);intro ts r h0 he
  obtain ⟨p, q, _, t, k, h1⟩ := jaA h0
  show stG _ _ ts = _
  unfold stG;rw [if_neg (by rw [q]; decide), if_neg (by rw [k]; decide), t];rw [hl] at h1
  obtain ⟨u, e2, h2⟩ := jcX hc (.inr (.inr rfl)) h1
  rw [<- hl] at h2
  have h3 := hb u r h2
  rw [joJ, if_pos rfl, e2]
  show (bkF (stL n) u).andThen _ = _
  rw [h3]
  show (if isP wElse r = true then _ else _) = _
  rw [he, if_neg (by decide), hd0 (by omega)]
theorem juS (m : List Nt) : ∃ l, tkB fu (jba m) = jaf pLb :: l := by
 unfold jba;rw [tkB];exact ⟨_, rfl⟩
theorem jow {d : Nat} {f : Nt} (h : ES d f) : StS (tkS fu f) := by
 have kw : ∀ (s : ByteArray) (l : List Co), (s ≠ wElse /\ s ≠ pRb) -> StS (jap s :: l) := fun s l h => ⟨s, l, rfl, h.1, h.2⟩
 have hv : ∀ s ∈ varL, s ≠ wElse /\ s ≠ pRb := by decide
 cases h with
 | asg d e s f hs h he => exact kw s _ (hv s hs)
 | snd d n f g h hn h1 h2 h3 => exact kw wSend _ (by decide)
 | tim d n hn => exact kw wTimer _ (by decide)
 | can d n hn => exact kw wCancel _ (by decide)
 | syn d => exact kw wSync _ (by decide)
 | rep d f g h1 h2 => exact kw wReply _ (by decide)
 | fai d f h1 => exact kw wFail _ (by decide)
 | stp d => exact kw wStop _ (by decide)
 | whi d c l h1 h2 h3 => exact kw wWhile _ (by decide)
 | iff d c l m h1 h2 h3 h4 h5 =>
  have e2 : tkS fu (.mk 2 0 eB [c, jba l, jba m]) = if 0 < (jba m).kids.length then jap wIf :: (tkN fu c 1 ++ tkB fu (jba l) ++ jap wElse :: tkB fu (jba m)) else jap wIf :: (tkN fu c 1 ++ tkB fu (jba l)) := rfl
  rw [e2]
  split
  ·exact kw wIf _ (by decide)
  ·exact kw wIf _ (by decide)
theorem jzF {d : Nat} {f : Nt} (h : ES d f) : ∀ n, d + 6 <= n -> PS n (tkS fu f) f := by
 induction h with
 | asg d e s f hs h he => intro n hn; exact jyc hs (jvw h (by omega))
 | snd d m f g h hm h1 h2 h3 => intro n hn; exact jyE (by omega) (jvw h1 (by omega)) (jvw h2 (by omega)) (jvw h3 (by omega))
 | tim d m hm => intro n hn; exact jxQ (by omega)
 | can d m hm => intro n hn; exact jyj (by omega)
 | syn d => intro n hn; exact jxT
 | rep d f g h1 h2 => intro n hn; exact jxU (jvw h1 (by omega)) (jvw h2 (by omega))
 | fai d f h1 => intro n hn; exact jyO (jvw h1 (by omega))
 | stp d => intro n hn; exact jxP
 | whi d c l h1 h2 h3 ih =>
  intro n hn
  obtain ⟨k, rfl⟩ : ∃ k, n = k + 1 := ⟨n - 1, by omega⟩
  exact jxg (jB5 h1 (by omega)) (jnK l fun f hf => ⟨ih f hf k (by omega), jow (h3 f hf)⟩) (juS l)
 | iff d c l m h1 h2 h3 h4 h5 ih1 ih2 =>
  intro n hn
  obtain ⟨k, rfl⟩ : ∃ k, n = k + 1 := ⟨n - 1, by omega⟩
  refine jyf (jB5 h1 (by omega)) (jnK l fun f hf => ⟨ih1 f hf k (by omega), jow (h3 f hf)⟩) (juS l) (jnK m fun f hf => ⟨ih2 f hf k (by omega), jow (h5 f hf)⟩) fun hz => ?_
  have hz : m.length = 0 := hz
  rw [List.length_eq_zero_iff.1 hz]
theorem jyL {b : Nt} (h : EK b) (n : Nat) (hn : 8 <= n) : PBk n (tkB fu b) b := by
 obtain ⟨k, rfl, h1, h2⟩ := h
 exact jnK k fun f hf => ⟨jzF (h2 f hf) n (by omega), jow (h2 f hf)⟩
end
section
theorem jvR {n : Int} (h0 : 0 <= n) (h1 : n < 40) {b : List Co} {ts r : List Tk} (hb : Beg (jme n ++ b) ts r) : ∃ u, hnF ts = .ok n u /\ Beg b u r := by
 have num : ∀ (m : Nat) (limit off : Int) (q s : List Tk), (m : Int) < limit -> Beg (jfP m :: b) q s -> jok limit off q = .ok (off + m) q.tail /\ Beg b q.tail s := fun m limit off q s hl hq => by
  obtain ⟨hc, hr, _⟩ := hq.cons
  refine ⟨?_, hr⟩;unfold jok;rw [show (hd q).kind = 2 from (jcA hc).1, show (hd q).n = m from (jcA hc).2, if_neg (by decide), if_neg (by omega)]
 unfold jme at hb
 by_cases e1 : n = 1
 ·subst e1;rw [if_pos rfl] at hb
  obtain ⟨p, _, _, _, _, hr⟩ := jaA (b := b) hb
  refine ⟨ts.tail, ?_, hr⟩;unfold hnF;rw [p, p, if_neg (by decide), if_pos (by decide)]
 rw [if_neg e1] at hb
 by_cases e10 : 10 <= n
 ·rw [if_pos e10] at hb
  obtain ⟨p, _, _, _, _, hr⟩ := jaA (b := jfP (n - 10).toNat :: b) hb
  obtain ⟨q1, q2⟩ := num (n - 10).toNat 30 10 ts.tail r (by omega) hr
  refine ⟨_, ?_, q2⟩;unfold hnF;rw [p, p, p, p, if_neg (by decide), if_neg (by decide), if_neg (by decide), if_pos (by decide), q1]
  congr 1; omega
 rw [if_neg e10] at hb
 by_cases e2 : 2 <= n
 ·rw [if_pos e2] at hb
  obtain ⟨p, _, _, _, _, hr⟩ := jaA (b := jfP (n - 2).toNat :: b) hb
  obtain ⟨q1, q2⟩ := num (n - 2).toNat 8 2 ts.tail r (by omega) hr
  refine ⟨_, ?_, q2⟩;unfold hnF;rw [p, p, p, if_neg (by decide), if_neg (by decide), if_pos (by decide), q1]
  congr 1; omega
 rw [if_neg e2] at hb
 obtain ⟨p, _, _, _, _, hr⟩ := jaA (b := b) hb
 refine ⟨ts.tail, ?_, hr⟩;unfold hnF;rw [p, if_pos (by decide)]
 congr 1; omega
variable {fu : Bool}
def HO (fu : Bool) (x : Int × Nt) : Prop := 0 <= x.1 /\ x.1 < 40 /\ PBk 19 (tkB fu x.2) x.2
theorem jrp (l : List (Int × Nt)) (k : Int) (h : ∀ x ∈ l, x.1 ≠ k) : l.any (fun h => decide (h.1 = k)) = false := by
 rw [List.any_eq_false];intro x hx
 simpa using h x hx
theorem jwV (l : List (Int × Nt)) : l.length <= ((l.map (jcK fu)).flatten).length := by
 induction l with
 | nil => exact Nat.zero_le _
 | cons x l ih =>
  rw [List.map_cons, List.flatten_cons, List.length_append, List.length_cons]
  have : 1 <= (jcK fu x).length := by unfold jcK; simp
  omega
def jyD (a : ByteArray) : Bool := !(keyL ++ builtL).any fun x => decide (a = x)
theorem jus {w a b : ByteArray} {names out : List ByteArray} {q : List Co} {ts r : List Tk} (hb : Beg (jap w :: jap a :: jaf pComma :: jap b :: jaf pSemi :: q) ts r) (ha : jyD a = true) (hf : jyD b = true) (h1 : names.any (fun s => decide (s = a)) = false) (h2 : (names ++ [a]).any (fun s => decide (s = b)) = false) (hl : names.length + 2 <= 16) : ∃ u, jmc ts.length names out ts = .ok (names ++ [a] ++ [b]) (out ++ [a] ++ [b]) u /\ Beg q u r := by
 have hlen := hb.len
 simp only [List.length_cons] at hlen
 obtain ⟨n, hn⟩ : ∃ n, ts.length = n + 2 := ⟨ts.length - 2, by omega⟩
 rw [hn]
 obtain ⟨_, _, _, _, _, g1⟩ := jaA hb
 obtain ⟨_, n1, _, t1, _, g2⟩ := jaA g1
 obtain ⟨p2, _, _, g3⟩ := jdo g2
 obtain ⟨_, n3, _, t3, _, g4⟩ := jaA g3
 obtain ⟨p4, _, _, g5⟩ := jdo g4
 refine ⟨ts.tail.tail.tail.tail.tail, ?_, g5⟩
 have n1 : jfC ts.tail = true := by rw [n1]; exact ha
 have n3 : jfC ts.tail.tail.tail = true := by rw [n3]; exact hf
 rw [jmc, if_neg (by rw [n1]; decide), t1, if_neg (by rw [h1]; decide), if_neg (by omega), p2, if_pos (by decide), jmc, if_neg (by rw [n3]; decide), t3, if_neg (by rw [h2]; decide), if_neg (by rw [List.length_append]; simp only [List.length_cons, List.length_nil]; omega), p4, if_neg (by decide), p4, if_pos (by decide)]
theorem GU.ho {u : Ut} (h : GU u) : ∀ x ∈ u.on, HO fu x := fun x hx => by
 obtain ⟨h1, h2, h3, h4, h5⟩ := h
 obtain ⟨g1, g2, g3⟩ := h3 x hx
 exact ⟨g1, g2, jyL g3 19 (by decide)⟩
theorem TN.row {s : ByteArray} {l : List Co} (h : TN s l) : (jaN s).err = none /\ Beg l (jgo s) [jdK s] := by
 obtain ⟨ts, h1, h2⟩ := js3 l false 0 h.lx h.fi
 rw [<- h.eq] at h1
 have h3 : jaN s = ⟨ts, none⟩ := h1
 rw [jc3 (by rw [h3]), h3];exact ⟨rfl, ts, rfl, h2⟩
theorem jsW {s : ByteArray} (hs : s.size <= 3000) (he : (jaN s).err = none) : jhc s = juF (jgo s) := by
 unfold jhc;rw [if_neg (by omega), he]
end
section
def tW (κ : Nat) : List Co -> Nat
 | [] => 0
 | c :: l => c.text.length + κ + tW κ l
theorem jbg (κ : Nat) (l m : List Co) : tW κ (l ++ m) = tW κ l + tW κ m := by
 induction l with
 | nil => show tW κ m = 0 + _; omega
 | cons c l ih => show c.text.length + κ + tW κ (l ++ m) = c.text.length + κ + tW κ l + tW κ m; omega
theorem jad (κ : Nat) (c : Co) (l : List Co) : tW κ (c :: l) = c.text.length + κ + tW κ l := rfl
theorem jbD (κ : Nat) : tW κ [] = 0 := rfl
theorem jol : ∀ (l : List Co), (glR l).size <= tW 1 l
 | [] => Nat.zero_le _
 | c :: l => by
  have h1 := jol l
  have h2 := ja0 (bs c.text) (glR l)
  have h3 : (bs c.text).size = c.text.length := jbz _
  show (ja1 _ _).size <= c.text.length + 1 + tW 1 l
  omega
theorem jcs (s : ByteArray) : (jaf s).text.length = s.size := rfl
theorem jcH (s : ByteArray) : (jap s).text.length = s.size := rfl
theorem joW (n : Nat) : (jfP n).text.length = (jb3 n).length := rfl
theorem jql (κ : Nat) (p lv : Int) (fu : Bool) (l : List Co) (hl : lv <= 8) : tW κ (jd5 p lv fu l) <= tW κ l + (if p = 8 then 0 else 2 + 2 * κ) := by
 rcases jbB p lv fu l hl with ⟨e, h⟩ | ⟨e, h⟩
 ·rw [e]; omega
 ·rw [e, if_neg (by omega), jbg, jad, jad, jcs, jcs, jbD]
  have e1 : pLp.size = 1 := rfl
  have e2 : pRp.size = 1 := rfl
  omega
variable {fu : Bool} (κ : Nat)
theorem jxI : ∀ n ∈ litL, (jb3 n.toNat).length <= dgN n := by decide +kernel
theorem jA7 : ∀ s ∈ opL, jab 18 s <= 6 /\ 5 <= jab 18 s := by decide
theorem jkh {d : Nat} {f : Nt} (h : EI d f) : ∀ lv : Int, lv <= 8 -> tW κ (tkN fu f lv) <= wN κ f := by
 induction h with
 | lit d n h =>
  intro lv hl
  have h1 := jxI n h
  rw [show tkN fu (.mk 12 n eB []) lv = jd5 8 lv fu [jfP n.toNat] from rfl, jeE hl, jad, joW, jbD, juL];omega
 | var d s h =>
  intro lv hl;rw [show tkN fu (.mk 14 0 s []) lv = jd5 8 lv fu [jap s] from rfl, jeE hl, jad, jcH, jbD, jv1];omega
 | nam d s h =>
  intro lv hl;rw [show tkN fu (.mk 15 0 s []) lv = jd5 8 lv fu [jap s] from rfl, jeE hl, jad, jcH, jbD, juN];omega
 | drw d f h ih =>
  intro lv hl
  have h1 := ih 1 (by omega)
  have e1 : wDraw.size = 4 := rfl
  have e2 : pLp.size = 1 := rfl
  have e3 : pRp.size = 1 := rfl
  rw [show tkN fu (.mk 16 0 eB [f]) lv = jd5 8 lv fu (jap wDraw :: jaf pLp :: (tkN fu f 1 ++ [jaf pRp])) from rfl, jeE hl, jad, jad, jbg, jad, jbD, jcH, jcs, jcs, jv6];omega
 | neg d f h ih =>
  intro lv hl
  have h1 := ih 7 (by omega)
  have e1 : pMinus.size = 1 := rfl
  have hp := jql κ 7 lv fu (jaf pMinus :: tkN fu f 7) hl
  rw [jad, jcs, if_neg (by decide)] at hp;rw [show tkN fu (.mk 17 0 pMinus [f]) lv = jd5 7 lv fu (jaf pMinus :: tkN fu f 7) from rfl, joI];omega
 | bin d s f g hs h1 h2 i1 i2 =>
  intro lv hl
  have hp6 := jA7 s hs
  have hp := jql κ (jab 18 s) lv fu (tkN fu f (if jab 18 s = 4 then 5 else jab 18 s) ++ jaf s :: tkN fu g (jab 18 s + 1)) hl
  rw [jbg, jad, jcs, if_neg (by omega), if_neg (by omega)] at hp
  have a1 := i1 (jab 18 s) (by omega)
  have a2 := i2 (jab 18 s + 1) (by omega)
  rw [show tkN fu (.mk 18 0 s [f, g]) lv = jd5 (jab 18 s) lv fu (tkN fu f (if jab 18 s = 4 then 5 else jab 18 s) ++ jaf s :: tkN fu g (jab 18 s + 1)) from rfl, if_neg (by omega), jiZ];omega
theorem jxW : ∀ s ∈ bolL, jab 18 s <= 2 := by decide
theorem jz1 : ∀ s ∈ cmpL, jab 18 s = 4 := by decide
theorem jyv {d : Nat} {f : Nt} (h : EB d f) : ∀ lv : Int, lv <= 8 -> tW κ (tkN fu f lv) <= wN κ f := by
 induction h with
 | lit d n h =>
  intro lv hl
  have h1 : (tfB n).size <= 5 := by rcases (by omega : n = 0 ∨ n = 1) with rfl | rfl <;> decide
  rw [show tkN fu (.mk 13 n eB []) lv = jd5 8 lv fu [jap (tfB n)] from rfl, jeE hl, jad, jcH, jbD, jqz];omega
 | nt d f h ih =>
  intro lv hl
  have h1 := ih 3 (by omega)
  have e1 : pNot.size = 1 := rfl
  have hp := jql κ 3 lv fu (jaf pNot :: tkN fu f 3) hl
  rw [jad, jcs, if_neg (by decide)] at hp;rw [show tkN fu (.mk 17 0 pNot [f]) lv = jd5 3 lv fu (jaf pNot :: tkN fu f 3) from rfl, joI];omega
 | bin d s f g hs h1 h2 i1 i2 =>
  intro lv hl
  have hp6 := jxW s hs
  have hp := jql κ (jab 18 s) lv fu (tkN fu f (if jab 18 s = 4 then 5 else jab 18 s) ++ jaf s :: tkN fu g (jab 18 s + 1)) hl
  rw [jbg, jad, jcs, if_neg (by omega), if_neg (by omega)] at hp
  have a1 := i1 (jab 18 s) (by omega)
  have a2 := i2 (jab 18 s + 1) (by omega)
  rw [show tkN fu (.mk 18 0 s [f, g]) lv = jd5 (jab 18 s) lv fu (tkN fu f (if jab 18 s = 4 then 5 else jab 18 s) ++ jaf s :: tkN fu g (jab 18 s + 1)) from rfl, if_neg (by omega), jiZ];omega
 | cmp d s f g hs h1 h2 =>
  intro lv hl
  have hp6 := jz1 s hs
  have hp := jql κ 4 lv fu (tkN fu f 5 ++ jaf s :: tkN fu g 5) hl
  rw [jbg, jad, jcs, if_neg (by omega)] at hp
  have a1 := jkh (fu := fu) κ h1 5 (by omega)
  have a2 := jkh (fu := fu) κ h2 5 (by omega)
  rw [show tkN fu (.mk 18 0 s [f, g]) lv = jd5 (jab 18 s) lv fu (tkN fu f (if jab 18 s = 4 then 5 else jab 18 s) ++ jaf s :: tkN fu g (jab 18 s + 1)) from rfl, hp6, jiZ]
  show tW κ (jd5 4 lv fu (tkN fu f 5 ++ jaf s :: tkN fu g 5)) <= _
  omega
theorem jhX : ∀ n, n < 10 -> (jb3 n).length <= 1 := by decide +kernel
theorem jqN : ∀ n, n < 40 -> (jb3 n).length <= 2 := by decide +kernel
theorem job (l : List Nt) (h : ∀ f ∈ l, tW κ (tkS fu f) <= wS κ f) : tW κ (tkB fu (jba l)) <= wB κ (jba l) := by
 have e1 : pLb.size = 1 := rfl
 have e2 : pRb.size = 1 := rfl
 have e : tkB fu (jba l) = jaf pLb :: (l.map (tkS fu)).flatten ++ [jaf pRb] := by
  unfold jba;rw [tkB, jgX]
 have key : tW κ (l.map (tkS fu)).flatten <= wSs κ l := by
  clear e
  induction l with
  | nil => exact Nat.zero_le _
  | cons f l ih =>
   have h1 := h f List.mem_cons_self
   have h2 := ih fun g hg => h g (List.mem_cons_of_mem _ hg)
   rw [List.map_cons, List.flatten_cons, jbg, wSs];omega
 rw [e, jm3, jbg, jad, jad, jcs, jcs, jbD];omega
theorem jAz {d : Nat} {f : Nt} (h : ES d f) : tW κ (tkS fu f) <= wS κ f := by
 have z1 : pSemi.size = 1 := rfl
 have z2 : pComma.size = 1 := rfl
 have z3 : pEq.size = 1 := rfl
 have z4 : wSend.size = 4 := rfl
 have z5 : wTimer.size = 5 := rfl
 have z6 : wCancel.size = 6 := rfl
 have z7 : wSync.size = 4 := rfl
 have z8 : wReply.size = 5 := rfl
 have z9 : wFail.size = 4 := rfl
 have z10 : wStop.size = 4 := rfl
 have z11 : wWhile.size = 5 := rfl
 have z12 : wIf.size = 2 := rfl
 have z13 : wElse.size = 4 := rfl
 induction h with
 | asg d e s f hs h he =>
  have a := jkh (fu := fu) κ h 1 (by omega)
  rw [show tkS fu (.mk 1 0 s [f]) = jap s :: jaf pEq :: lsT fu [f] from rfl, jod, jad, jad, jbg, jad, jbD, jcH, jcs, jcs, jrr];omega
 | snd d n f g h hn h1 h2 h3 =>
  have a1 := jkh (fu := fu) κ h1 1 (by omega)
  have a2 := jkh (fu := fu) κ h2 1 (by omega)
  have a3 := jkh (fu := fu) κ h3 1 (by omega)
  have d1 := jhX n (by omega)
  rw [show tkS fu (.mk 4 n eB [f, g, h]) = jap wSend :: (tkN fu f 1 ++ jaf pComma :: jfP n :: jaf pComma :: lsT fu [g, h]) from rfl, joa, jad, jbg, jad, jad, jad, jbg, jad, jbg, jad, jbD, jcH, jcs, jcs, joW, juE];omega
 | tim d n hn =>
  have d1 := jhX n (by omega)
  rw [show tkS fu (.mk 5 n eB []) = [jap wTimer, jfP n, jaf pSemi] from rfl, jad, jad, jad, jbD, jcH, jcs, joW, juz];omega
 | can d n hn =>
  have d1 := jhX n (by omega)
  rw [show tkS fu (.mk 6 n eB []) = [jap wCancel, jfP n, jaf pSemi] from rfl, jad, jad, jad, jbD, jcH, jcs, joW, jvd];omega
 | syn d =>
  rw [show tkS fu (.mk 7 0 eB []) = [jap wSync, jaf pSemi] from rfl, jad, jad, jbD, jcH, jcs, juh];omega
 | rep d f g h1 h2 =>
  have a1 := jkh (fu := fu) κ h1 1 (by omega)
  have a2 := jkh (fu := fu) κ h2 1 (by omega)
  rw [show tkS fu (.mk 8 0 eB [f, g]) = jap wReply :: lsT fu [f, g] from rfl, joa, jad, jbg, jad, jbg, jad, jbD, jcH, jcs, jcs, jva];omega
 | fai d f h1 =>
  have a1 := jkh (fu := fu) κ h1 1 (by omega)
  rw [show tkS fu (.mk 9 0 eB [f]) = jap wFail :: lsT fu [f] from rfl, jod, jad, jbg, jad, jbD, jcH, jcs, juV];omega
 | stp d =>
  rw [show tkS fu (.mk 10 0 eB []) = [jap wStop, jaf pSemi] from rfl, jad, jad, jbD, jcH, jcs, jue];omega
 | whi d c l h1 h2 h3 ih =>
  have a1 := jyv (fu := fu) κ h1 1 (by omega)
  have a2 := job (fu := fu) κ l ih
  rw [show tkS fu (.mk 3 0 eB [c, jba l]) = jap wWhile :: (tkN fu c 1 ++ tkB fu (jba l)) from rfl, jad, jbg, jcH, jum];omega
 | iff d c l m h1 h2 h3 h4 h5 ih1 ih2 =>
  have a1 := jyv (fu := fu) κ h1 1 (by omega)
  have a2 := job (fu := fu) κ l ih1
  have a3 := job (fu := fu) κ m ih2
  rw [show tkS fu (.mk 2 0 eB [c, jba l, jba m]) = (if 0 < (jba m).kids.length then jap wIf :: (tkN fu c 1 ++ tkB fu (jba l) ++ jap wElse :: tkB fu (jba m)) else jap wIf :: (tkN fu c 1 ++ tkB fu (jba l))) from rfl, juB]
  split
  ·rw [jad, jbg, jbg, jad, jcH, jcH];omega
  ·rw [jad, jbg, jcH];omega
theorem jAB {b : Nt} (h : EK b) : tW κ (tkB fu b) <= wB κ b := by
 obtain ⟨k, rfl, h1, h2⟩ := h
 exact job κ k fun f hf => jAz κ (h2 f hf)
theorem jA2 {x : Int × Nt} (h0 : 0 <= x.1) (h1 : x.1 < 40) (hb : EK x.2) : tW κ (jcK fu x) <= 11 + 3 * κ + wB κ x.2 := by
 have a := jAB (fu := fu) κ hb
 have hw : tW κ (jme x.1) <= 9 + 2 * κ := by
  have z1 : wRequest.size = 7 := rfl
  have z2 : wMessage.size = 7 := rfl
  have z3 : wTimer.size = 5 := rfl
  have z4 : wStart.size = 5 := rfl
  have d1 := jqN (x.1 - 10).toNat (by omega)
  have d2 := jqN (x.1 - 2).toNat (by omega)
  unfold jme
  split
  ·rw [jad, jbD, jcH]; omega
  ·split
   ·rw [jad, jad, jbD, jcH, joW]; omega
   ·split
    ·rw [jad, jad, jbD, jcH, joW]; omega
    ·rw [jad, jbD, jcH]; omega
 have z : wOn.size = 2 := rfl
 rw [show jcK fu x = jap wOn :: (jme x.1 ++ tkB fu x.2) from rfl, jad, jbg, jcH];omega
theorem jqE : ∀ (l : List (Int × Nt)), (∀ x ∈ l, 0 <= x.1 /\ x.1 < 40 /\ EK x.2) -> tW κ ((l.map (jcK fu)).flatten) <= wHs κ l
 | [], _ => Nat.zero_le _
 | x :: l, h => by
  obtain ⟨a, b, c⟩ := h x List.mem_cons_self
  have h1 := jA2 (fu := fu) κ a b c
  have h2 := jqE l fun y hy => h y (List.mem_cons_of_mem _ hy)
  rw [List.map_cons, List.flatten_cons, jbg, wHs];omega
theorem jvg (l m : List (Int × Nt)) : wHs κ (l ++ m) = wHs κ l + wHs κ m := by
 induction l with
 | nil => show wHs κ m = 0 + _; omega
 | cons x l ih => show 11 + 3 * κ + wB κ x.2 + wHs κ (l ++ m) = 11 + 3 * κ + wB κ x.2 + wHs κ l + _; omega
theorem jx0 (l : List (Int × Nt)) : wHs κ l.reverse = wHs κ l := by
 induction l with
 | nil => rfl
 | cons x l ih => rw [List.reverse_cons, jvg, ih]; show wHs κ l + (11 + 3 * κ + wB κ x.2 + 0) = 11 + 3 * κ + wB κ x.2 + wHs κ l; omega
theorem jAQ : tW κ dcTk = 26 + 10 * κ /\ tW κ jzK = 26 + 10 * κ := by
 unfold dcTk jzK;simp only [jad, jbD, jcs, jcH]
 have z1 : wDurable.size = 7 := rfl
 have z2 : wVolatile.size = 8 := rfl
 have z3 : pComma.size = 1 := rfl
 have z4 : pSemi.size = 1 := rfl
 have z5 : (⟨#[100]⟩ : ByteArray).size = 1 := rfl
 have z6 : (⟨#[100, 100, 49]⟩ : ByteArray).size = 3 := rfl
 have z7 : (⟨#[118]⟩ : ByteArray).size = 1 := rfl
 have z8 : (⟨#[119, 50]⟩ : ByteArray).size = 2 := rfl
 omega
theorem GW.twK {u : Ut} (h : GW u) (ka : 1 <= κ) (kb : κ <= 7) : tW κ (jmA u) <= 884 + 296 * κ /\ tW κ (jAV u) <= 884 + 296 * κ /\ ∀ x ∈ u.on, tW κ (jcK false x) <= 858 + 286 * κ := by
 obtain ⟨⟨h1, h2, h3, h4, h5⟩, hw⟩ := h
 have hw := hw κ ka kb
 have a := jqE (fu := false) κ u.on h3
 have b := jqE (fu := true) κ u.on.reverse fun x hx => h3 x (List.mem_reverse.1 hx)
 have c := jAQ κ
 rw [jx0] at b;refine ⟨by unfold jmA; rw [jbg]; omega, by unfold jAV; rw [jbg]; omega, fun x hx => ?_⟩
 obtain ⟨l, r, hl⟩ := List.append_of_mem hx
 rw [hl] at a hw;rw [List.map_append, List.map_cons, List.flatten_append, List.flatten_cons, jbg, jbg] at a;omega
theorem GW.size {u : Ut} (h : GW u) : (prF u).size <= 1180 := by
 have h1 := (jwI h.1).eq
 have h2 := jol (jmA u)
 have h3 := (h.twK 1 (by omega) (by omega)).1
 rw [h1]; omega
end
theorem jA3 {l : List Tk} {i : Nat} {d : Tk} (h : i < l.length) : jac 4 i (jcF l) = tkL (l.getD i d) := by
 have h1 : jac 4 i (l.flatMap tkL) = tkL l[i] := jcn tkL (fun _ => rfl) l i h
 unfold jcF;rw [h1, List.getD_eq_getElem?_getD, List.getElem?_eq_getElem h];rfl
theorem jv7 : ∀ l : List Co, l.length <= tW 1 l
 | [] => Nat.zero_le _
 | c :: l => by have := jv7 l; rw [jad, List.length_cons]; omega
theorem joL {s : ByteArray} (he : (jaN s).err = none) : jsr s = .tup [.sl 4 (jgo s).length (jcF (jgo s)), jao 0, jao 0] := by
 have h1 : jaN s = ⟨(jaN s).toks, none⟩ := by rw [<- he]
 rw [jwW h1, jc3 he, List.length_append, jrS];rfl
section
def IsEnd (e : Tk) : Prop := e.kind = 0 /\ e.text = ⟨#[]⟩
def EnO (e : Tk) (p : Pn) : Prop := p = .bad e.pos 10 ∨ ∃ f, p = .ok f [e]
def jzl (e : Tk) (p : Pn) (m q : List Tk) (f : Nt) (r : List Tk) : Prop := (∃ a s, m = a ++ s /\ s ≠ [] /\ r = s ++ q /\ p = .ok f (s ++ [e])) ∨ ((∃ a, q = a ++ r) /\ EnO e p)
structure VS (e : Tk) (op : List Tk -> Pn) : Prop where
 su : ∀ ts f r, op ts = .ok f r -> ∃ a, ts = a ++ r
 v : ∀ m q f r, op (m ++ q) = .ok f r -> jzl e (op (m ++ [e])) m q f r
structure VP (e : Tk) (op : List Tk -> Pn) : Prop extends VS e op where
 en : EnO e (op [e])
variable {e : Tk}
theorem VS.okT (f : Nt) : VP e (fun r => .ok f r) where
 su := fun ts f r h => by cases h; exact ⟨[], rfl⟩
 v := fun m q f r h => by
  cases h
  cases m with
  | nil => exact .inr ⟨⟨[], rfl⟩, .inr ⟨f, rfl⟩⟩
  | cons t m => exact .inl ⟨[], t :: m, rfl, by simp, rfl, rfl⟩
 en := .inr ⟨f, rfl⟩
theorem VS.bad (x y : Int) : VS e (fun _ => .bad x y) where
 su := fun ts f r h => by cases h
 v := fun m q f r h => by cases h
theorem VP.syn : VP e synE where
 su := fun ts f r h => by cases h
 v := fun m q f r h => by cases h
 en := .inl rfl
theorem VS.andThen {op : List Tk -> Pn} {k : Nt -> List Tk -> Pn} (h1 : VS e op) (h2 : ∀ f, VP e (k f)) : VS e (fun ts => (op ts).andThen k) where
 su := fun ts f r h => by
  cases ho : op ts with
  | bad x y => rw [ho] at h; cases h
  | ok g u =>
   rw [ho] at h
   obtain ⟨a, ha⟩ := h1.su ts g u ho
   obtain ⟨b, hb⟩ := (h2 g).su u f r h
   exact ⟨a ++ b, by rw [ha, hb, List.append_assoc]⟩
 v := fun m q f r h => by
  cases ho : op (m ++ q) with
  | bad x y => rw [ho] at h; cases h
  | ok g u =>
   rw [ho] at h
   have h : k g u = .ok f r := h
   rcases h1.v m q g u ho with ⟨a, s, e1, e2, e3, e4⟩ | ⟨⟨a, ha⟩, h3⟩
   ·rw [e4]
    show jzl e (k g (s ++ [e])) m q f r
    rw [e3] at h
    rcases (h2 g).v s q f r h with ⟨b, s2, g1, g2, g3, g4⟩ | ⟨g1, g2⟩
    ·exact .inl ⟨a ++ b, s2, by rw [e1, g1, List.append_assoc], g2, g3, g4⟩
    ·exact .inr ⟨g1, g2⟩
   ·obtain ⟨b, hb⟩ := (h2 g).su u f r h
    refine .inr ⟨⟨a ++ b, by rw [ha, hb, List.append_assoc]⟩, ?_⟩
    rcases h3 with h3 | ⟨f2, h3⟩
    ·rw [h3]; exact .inl rfl
    ·rw [h3]; exact (h2 f2).en
theorem VP.andThen {op : List Tk -> Pn} {k : Nt -> List Tk -> Pn} (h1 : VP e op) (h2 : ∀ f, VP e (k f)) : VP e (fun ts => (op ts).andThen k) where
 toVS := h1.toVS.andThen h2
 en := by
  show EnO e ((op [e]).andThen k)
  rcases h1.en with h3 | ⟨f2, h3⟩
  ·rw [h3]; exact .inl rfl
  ·rw [h3]; exact (h2 f2).en
theorem VP.ite (g : Tk -> Prop) [DecidablePred g] {op1 : Tk -> List Tk -> Pn} {op2 : List Tk -> Pn} (hg : ¬ g e) (hn : ¬ g (hd [])) (h1 : ∀ t, VS e (op1 t)) (h2 : VP e op2) : VP e (fun ts => if g (hd ts) then op1 (hd ts) ts.tail else op2 ts) where
 su := fun ts f r h => by
  cases ts with
  | nil => rw [if_neg hn] at h; exact h2.su _ f r h
  | cons t ts =>
   by_cases ht : g t
   ·rw [if_pos (show g (hd (t :: ts)) from ht)] at h
    obtain ⟨a, ha⟩ := (h1 t).su ts f r h
    exact ⟨t :: a, by rw [ha]; rfl⟩
   ·rw [if_neg (show ¬ g (hd (t :: ts)) from ht)] at h;exact h2.su _ f r h
 v := fun m q f r h => by
  cases m with
  | nil =>
   have hs : ∃ a, q = a ++ r := by
    cases q with
    | nil =>
     rw [if_neg (show ¬ g (hd ([] ++ [])) from hn)] at h;exact h2.su [] f r h
    | cons t q =>
     by_cases ht : g t
     ·rw [if_pos (show g (hd ([] ++ t :: q)) from ht)] at h
      obtain ⟨a, ha⟩ := (h1 t).su q f r h
      exact ⟨t :: a, by rw [ha]; rfl⟩
     ·rw [if_neg (show ¬ g (hd ([] ++ t :: q)) from ht)] at h;exact h2.su _ f r h
   rw [if_neg (show ¬ g (hd ([] ++ [e])) from hg)];exact .inr ⟨hs, h2.en⟩
  | cons t m =>
   by_cases ht : g t
   ·rw [if_pos (show g (hd (t :: m ++ q)) from ht)] at h;rw [if_pos (show g (hd (t :: m ++ [e])) from ht)]
    rcases (h1 t).v m q f r h with ⟨a, s, e1, e2, e3, e4⟩ | h3
    ·exact .inl ⟨t :: a, s, by rw [e1]; rfl, e2, e3, e4⟩
    ·exact .inr h3
   ·rw [if_neg (show ¬ g (hd (t :: m ++ q)) from ht)] at h;rw [if_neg (show ¬ g (hd (t :: m ++ [e])) from ht)];exact h2.v (t :: m) q f r h
 en := by
  show EnO e (if g (hd [e]) then _ else _)
  rw [if_neg (show ¬ g (hd [e]) from hg)];exact h2.en
theorem VP.sel (g : Tk -> Prop) [DecidablePred g] {op1 op2 : List Tk -> Pn} (h1 : VP e op1) (h2 : VP e op2) : VP e (fun ts => if g (hd ts) then op1 ts else op2 ts) where
 su := fun ts f r h => by
  split at h
  ·exact h1.su _ f r h
  ·exact h2.su _ f r h
 v := fun m q f r h => by
  cases m with
  | nil =>
   have hs : ∃ a, q = a ++ r := by
    split at h
    ·exact h1.su _ f r h
    ·exact h2.su _ f r h
   refine .inr ⟨hs, ?_⟩
   show EnO e (if g (hd [e]) then op1 [e] else op2 [e])
   split
   ·exact h1.en
   ·exact h2.en
  | cons t m =>
   by_cases ht : g t
   ·rw [if_pos (show g (hd (t :: m ++ q)) from ht)] at h;rw [if_pos (show g (hd (t :: m ++ [e])) from ht)];exact h1.v (t :: m) q f r h
   ·rw [if_neg (show ¬ g (hd (t :: m ++ q)) from ht)] at h;rw [if_neg (show ¬ g (hd (t :: m ++ [e])) from ht)];exact h2.v (t :: m) q f r h
 en := by
  show EnO e (if g (hd [e]) then op1 [e] else op2 [e])
  split
  ·exact h1.en
  ·exact h2.en
def ji7 (s : ByteArray) (t : Tk) : Bool := decide (t.text = s) && (decide (t.kind = 1) || decide (t.kind = 3))
def jim (l : List ByteArray) (t : Tk) : Bool := l.any fun s => ji7 s t
def jto (t : Tk) : Bool := decide (t.kind = 1) && !(keyL ++ builtL).any fun s => decide (t.text = s)
def jvh (t : Tk) : Bool := decide (t.kind = 1) && builtL.any fun s => decide (t.text = s)
theorem IsEnd.p (he : IsEnd e) (s : ByteArray) : ¬ ji7 s e = true := by
 unfold ji7; rw [he.1];intro h;rw [Bool.and_eq_true] at h;exact absurd h.2 (by decide)
theorem end_hd : IsEnd (hd []) := ⟨rfl, rfl⟩
theorem IsEnd.any (he : IsEnd e) (l : List ByteArray) : ¬ jim l e = true := by
 unfold jim;rw [List.any_eq_true];rintro ⟨s, _, h⟩;exact he.p s h
theorem IsEnd.nm (he : IsEnd e) : ¬ jto e = true := by
 unfold jto; rw [he.1];intro h;rw [Bool.and_eq_true] at h;exact absurd h.1 (by decide)
theorem IsEnd.bi (he : IsEnd e) : ¬ jvh e = true := by
 unfold jvh; rw [he.1];intro h;rw [Bool.and_eq_true] at h;exact absurd h.1 (by decide)
theorem VP.xpt (he : IsEnd e) (s : ByteArray) {k : List Tk -> Pn} (h : VS e k) : VP e (fun ts => Vm.xpt s ts k) :=
 VP.ite (fun t => ji7 s t = true) (op1 := fun _ => k) (op2 := synE) (he.p s) (end_hd.p s) (fun _ => h) VP.syn
theorem VP.num (he : IsEnd e) (limit : Int) {k : Int -> List Tk -> Pn} (h : ∀ n, VS e (k n)) : VP e (fun ts => jgH limit ts k) := by
 have h1 : VP e (fun ts => if (hd ts).kind = 2 then (fun t ts => if limit <= t.n then Pn.bad t.pos 6 else k t.n ts) (hd ts) ts.tail else synE ts) :=
  VP.ite (fun t => t.kind = 2) (op1 := fun t ts => if limit <= t.n then Pn.bad t.pos 6 else k t.n ts) (op2 := synE) (by rw [he.1]; decide) (by decide) (fun t => by
   by_cases hl : limit <= t.n
   ·simp only [if_pos hl]; exact VS.bad _ _
   ·simp only [if_neg hl]; exact h t.n) VP.syn
 have e1 : (fun ts => jgH limit ts k) = (fun ts => if (hd ts).kind = 2 then (fun t ts => if limit <= t.n then Pn.bad t.pos 6 else k t.n ts) (hd ts) ts.tail else synE ts) := by
  funext ts
  unfold jgH
  by_cases h2 : (hd ts).kind = 2
  ·rw [if_neg (by simp [h2]), if_pos h2]
  ·rw [if_pos h2, if_neg h2]
 rw [e1]; exact h1
structure VPa (e : Tk) (p : Pa) : Prop where
 no : VP e p.no
 un : VP e p.un
 ex : VP e p.ex
 bl : VP e p.bl
def juK (e : Tk) (low : Option Pa) : Prop := ∀ p, low = some p -> VPa e p
theorem VP.nest (he : IsEnd e) {low : Option Pa} (hl : juK e low) : VP e (jg8 low) := by
 cases low with
 | none => exact VP.ite (fun t => ji7 pLp t = true) (op1 := fun t _ => .bad t.pos 2) (op2 := synE) (he.p _) (end_hd.p _) (fun _ => VS.bad _ _) VP.syn
 | some p =>
  have h := hl p rfl
  exact VP.ite (fun t => ji7 pLp t = true) (op1 := fun t ts => (p.ex ts).andThen fun n r => Vm.xpt pRp r fun r' => .ok n r') (op2 := synE) (he.p _) (end_hd.p _) (fun _ => (h.ex.andThen fun f => VP.xpt he pRp (VS.okT f).toVS).toVS) VP.syn
theorem VP.prim (he : IsEnd e) {low : Option Pa} (hl : juK e low) : VP e (jc9 low) :=
 VP.sel (fun t => ji7 pLp t = true) (VP.nest he hl) <|
 VP.ite (fun t => ji7 wDraw t = true) (op1 := fun _ ts => (jg8 low ts).andThen fun n r => .ok (.mk 16 0 eB [n]) r) (he.p _) (end_hd.p _) (fun _ => ((VP.nest he hl).andThen fun f => VS.okT _).toVS) <|
 VP.ite (fun t => t.kind = 2) (op1 := fun t ts => .ok (.mk 12 t.n eB []) ts) (by rw [he.1]; decide) (by decide) (fun _ => (VS.okT _).toVS) <|
 VP.ite (fun t => ji7 jh7 t = true) (op1 := fun t ts => .ok (.mk 13 1 eB []) ts) (he.p _) (end_hd.p _) (fun _ => (VS.okT _).toVS) <|
 VP.ite (fun t => ji7 jdO t = true) (op1 := fun t ts => .ok (.mk 13 0 eB []) ts) (he.p _) (end_hd.p _) (fun _ => (VS.okT _).toVS) <|
 VP.ite (fun t => jto t = true) (op1 := fun t ts => .ok (.mk 14 0 t.text []) ts) he.nm end_hd.nm (fun _ => (VS.okT _).toVS) <|
 VP.ite (fun t => jvh t = true) (op1 := fun t ts => .ok (.mk 15 0 t.text []) ts) he.bi end_hd.bi (fun _ => (VS.okT _).toVS) VP.syn
theorem VP.pre (he : IsEnd e) (s : ByteArray) {op : Option (List Tk -> Pn)} (h : ∀ f, op = some f -> VP e f) {op2 : List Tk -> Pn} (h2 : VP e op2) : VP e (fun ts => if isP s ts = true then jpJ s op ts else op2 ts) := by
 cases op with
 | none => exact VP.ite (fun t => ji7 s t = true) (op1 := fun t _ => .bad t.pos 2) (he.p _) (end_hd.p _) (fun _ => VS.bad _ _) h2
 | some f => exact VP.ite (fun t => ji7 s t = true) (op1 := fun t ts => (f ts).andThen fun n r => .ok (.mk 17 0 s [n]) r) (he.p _) (end_hd.p _) (fun _ => ((h f rfl).andThen fun f => VS.okT _).toVS) h2
theorem VP.una (he : IsEnd e) {low : Option Pa} (hl : juK e low) : VP e (jfM low) :=
 VP.pre he pMinus (op := low.map fun p : Pa => p.un) (fun f hf => by
  cases low with
  | none => cases hf
  | some p => cases hf; exact (hl p rfl).un) (VP.prim he hl)
def chnL (op : List Tk -> Pn) (signs : List ByteArray) (l : Nt) (ts : List Tk) : Pn := jc8 op signs ts.length l ts
theorem jjW {op : List Tk -> Pn} {signs : List ByteArray} (hs : ∀ ts f r, op ts = .ok f r -> ∃ a, ts = a ++ r) : ∀ (n k : Nat) (l : Nt) (ts : List Tk), ts.length <= n -> ts.length <= k -> jc8 op signs n l ts = jc8 op signs k l ts
 | 0, 0, _, _, _, _ => rfl
 | 0, k + 1, l, ts, hn, hk => by
  obtain rfl : ts = [] := List.length_eq_zero_iff.1 (by omega)
  have h : jfN signs [] = false := Bool.eq_false_iff.2 (end_hd.any signs)
  rw [jc8, jc8, h, if_neg (by decide)]
 | n + 1, 0, l, ts, hn, hk => by
  obtain rfl : ts = [] := List.length_eq_zero_iff.1 (by omega)
  have h : jfN signs [] = false := Bool.eq_false_iff.2 (end_hd.any signs)
  rw [jc8, jc8, h, if_neg (by decide)]
 | n + 1, k + 1, l, ts, hn, hk => by
  rw [jc8, jc8]
  by_cases h : jfN signs ts = true
  ·rw [if_pos h, if_pos h]
   cases ho : op ts.tail with
   | bad x y => rfl
   | ok f r =>
    obtain ⟨a, ha⟩ := hs _ _ _ ho
    have hl : r.length <= ts.tail.length := by rw [ha, List.length_append]; omega
    have ht : ts ≠ [] := fun e0 => by
     rw [e0] at h;exact end_hd.any signs h
    have htl : ts.tail.length + 1 = ts.length := by
     cases ts with
     | nil => exact absurd rfl ht
     | cons t ts => rfl
    exact jjW hs n k _ r (by omega) (by omega)
  ·rw [if_neg h, if_neg h]
theorem jkc {op : List Tk -> Pn} {signs : List ByteArray} (hs : ∀ ts f r, op ts = .ok f r -> ∃ a, ts = a ++ r) (l : Nt) (ts : List Tk) : chnL op signs l ts = if jim signs (hd ts) = true then (fun t ts => (op ts).andThen fun f r => chnL op signs (.mk 18 0 t.text [l, f]) r) (hd ts) ts.tail else .ok l ts := by
 unfold chnL;rw [jjW hs ts.length (ts.length + 1) l ts (Nat.le_refl _) (by omega), jc8]
 show (if jfN signs ts = true then _ else _) = if jfN signs ts = true then _ else _
 by_cases h : jfN signs ts = true
 ·rw [if_pos h, if_pos h]
  simp only
  cases ho : op ts.tail with
  | bad x y => rfl
  | ok f r =>
   obtain ⟨a, ha⟩ := hs _ _ _ ho
   have hl : r.length <= ts.tail.length := by rw [ha, List.length_append]; omega
   have htl : ts.tail.length <= ts.length := by rw [List.length_tail]; omega
   exact jjW hs _ _ _ r (by omega) (Nat.le_refl _)
 ·rw [if_neg h, if_neg h]
theorem VP.chnL (he : IsEnd e) {op : List Tk -> Pn} {signs : List ByteArray} (h : VP e op) : ∀ l, VP e (Vm.chnL op signs l) := by
 have en : ∀ l, Vm.chnL op signs l [e] = .ok l [e] := fun l => by
  rw [jkc h.su, if_neg (show ¬ jim signs (hd [e]) = true from he.any signs)]
 have su : ∀ (n : Nat) (l : Nt) (ts : List Tk) (f : Nt) (r : List Tk), ts.length <= n -> Vm.chnL op signs l ts = .ok f r -> ∃ a, ts = a ++ r := fun n => by
  induction n with
  | zero =>
   intro l ts f r hn ho
   obtain rfl : ts = [] := List.length_eq_zero_iff.1 (by omega)
   rw [jkc h.su, if_neg (end_hd.any signs)] at ho
   cases ho; exact ⟨[], rfl⟩
  | succ n ih =>
   intro l ts f r hn ho;rw [jkc h.su] at ho
   split at ho
   ·cases ts with
    | nil =>
     rename_i h0
     exact absurd h0 (end_hd.any signs)
    | cons t ts =>
     simp only [List.tail_cons] at ho
     cases hq : op ts with
     | bad x y => rw [hq] at ho; cases ho
     | ok g u =>
      rw [hq] at ho
      obtain ⟨a, ha⟩ := h.su _ _ _ hq
      have hul : u.length <= n := by
       have := congrArg List.length ha
       rw [List.length_append] at this;rw [List.length_cons] at hn;omega
      obtain ⟨b, hb⟩ := ih _ u f r hul ho
      exact ⟨t :: (a ++ b), by rw [ha, hb]; simp⟩
   ·cases ho; exact ⟨[], rfl⟩
 have v : ∀ (n : Nat) (l : Nt) (m q : List Tk) (f : Nt) (r : List Tk), m.length <= n -> Vm.chnL op signs l (m ++ q) = .ok f r -> jzl e (Vm.chnL op signs l (m ++ [e])) m q f r := fun n => by
  induction n with
  | zero =>
   intro l m q f r hn ho
   obtain rfl : m = [] := List.length_eq_zero_iff.1 (by omega)
   exact .inr ⟨su _ l q f r (Nat.le_refl _) ho, .inr ⟨l, en l⟩⟩
  | succ n ih =>
   intro l m q f r hn ho
   cases m with
   | nil => exact .inr ⟨su _ l q f r (Nat.le_refl _) ho, .inr ⟨l, en l⟩⟩
   | cons t m =>
    rw [jkc h.su] at ho ⊢
    by_cases ht : jim signs t = true
    ·rw [if_pos (show jim signs (hd (t :: m ++ q)) = true from ht)] at ho;rw [if_pos (show jim signs (hd (t :: m ++ [e])) = true from ht)]
     have ho : (op (m ++ q)).andThen (fun f r => Vm.chnL op signs (.mk 18 0 t.text [l, f]) r) = .ok f r := ho
     show jzl e ((op (m ++ [e])).andThen (fun f r => Vm.chnL op signs (.mk 18 0 t.text [l, f]) r)) _ _ _ _
     cases hq : op (m ++ q) with
     | bad x y => rw [hq] at ho; cases ho
     | ok g u =>
      rw [hq] at ho
      have ho : Vm.chnL op signs (.mk 18 0 t.text [l, g]) u = .ok f r := ho
      rcases h.v m q g u hq with ⟨a, s, e1, e2, e3, e4⟩ | ⟨⟨a, ha⟩, h3⟩
      ·rw [e4];rw [e3] at ho
       have hsl : s.length <= n := by
        have := congrArg List.length e1
        rw [List.length_append] at this;rw [List.length_cons] at hn;omega
       rcases ih _ s q f r hsl ho with ⟨b, s2, g1, g2, g3, g4⟩ | ⟨g1, g2⟩
       ·exact .inl ⟨t :: (a ++ b), s2, by rw [e1, g1]; simp, g2, g3, g4⟩
       ·exact .inr ⟨g1, g2⟩
      ·obtain ⟨b, hb⟩ := su _ _ u f r (Nat.le_refl _) ho
       refine .inr ⟨⟨a ++ b, by rw [ha, hb, List.append_assoc]⟩, ?_⟩
       rcases h3 with h3 | ⟨f2, h3⟩
       ·rw [h3]; exact .inl rfl
       ·rw [h3]; exact .inr ⟨_, en _⟩
    ·rw [if_neg (show ¬ jim signs (hd (t :: m ++ q)) = true from ht)] at ho;rw [if_neg (show ¬ jim signs (hd (t :: m ++ [e])) = true from ht)];cases ho;exact .inl ⟨[], t :: m, rfl, by simp, rfl, rfl⟩
 exact fun l => ⟨⟨fun ts f r ho => su _ l ts f r (Nat.le_refl _) ho, fun m q f r ho => v _ l m q f r (Nat.le_refl _) ho⟩, .inr ⟨l, en l⟩⟩
theorem VP.chn (he : IsEnd e) {op : List Tk -> Pn} (signs : List ByteArray) (h : VP e op) : VP e (jcG op signs) := h.andThen (k := fun f r => Vm.chnL op signs f r) fun f => VP.chnL he h f
theorem VP.sum (he : IsEnd e) {low : Option Pa} (hl : juK e low) : VP e (jpj low) := VP.chn he _ (VP.chn he _ (VP.una he hl))
theorem VP.nt (he : IsEnd e) {low : Option Pa} (hl : juK e low) : VP e (ntG low) :=
 VP.pre he pNot (op := low.map fun p : Pa => p.no) (fun f hf => by
  cases low with
  | none => cases hf
  | some p => cases hf; exact (hl p rfl).no) <| (VP.sum he hl).andThen (k := fun l r => if jfN cmpL r = true then (jpj low r.tail).andThen fun m r' => .ok (.mk 18 0 (hd r).text [l, m]) r' else .ok l r) fun l =>
  VP.ite (fun t => jim cmpL t = true) (op1 := fun t ts => (jpj low ts).andThen fun m r' => .ok (.mk 18 0 t.text [l, m]) r') (he.any _) (end_hd.any _) (fun _ => ((VP.sum he hl).andThen fun _ => VS.okT _).toVS) (VS.okT l)
theorem VP.exp (he : IsEnd e) {low : Option Pa} (hl : juK e low) : VP e (jnl low) := VP.chn he _ (VP.chn he _ (VP.nt he hl))
end
section
variable {e : Tk}
structure VX (e : Tk) (op : List Tk -> Pn) : Prop extends VP e op where
 st : ∀ ts f r, op ts = .ok f r -> r.length < ts.length
theorem VX.syn : VX e synE := ⟨VP.syn, fun ts f r h => by cases h⟩
theorem VX.ite (g : Tk -> Prop) [DecidablePred g] {op1 : Tk -> List Tk -> Pn} {op2 : List Tk -> Pn} (hg : ¬ g e) (hn : ¬ g (hd [])) (h1 : ∀ t, VS e (op1 t)) (h2 : VX e op2) : VX e (fun ts => if g (hd ts) then op1 (hd ts) ts.tail else op2 ts) := ⟨VP.ite g hg hn h1 h2.toVP, fun ts f r h => by
 cases ts with
 | nil => rw [if_neg hn] at h; exact h2.st _ f r h
 | cons t ts =>
  by_cases ht : g t
  ·rw [if_pos (show g (hd (t :: ts)) from ht)] at h
   obtain ⟨a, ha⟩ := (h1 t).su ts f r h
   have := congrArg List.length ha
   rw [List.length_append] at this;rw [List.length_cons]; omega
  ·rw [if_neg (show ¬ g (hd (t :: ts)) from ht)] at h
   exact h2.st _ f r h⟩
theorem VX.sel (g : Tk -> Prop) [DecidablePred g] {op1 op2 : List Tk -> Pn} (h1 : VX e op1) (h2 : VX e op2) : VX e (fun ts => if g (hd ts) then op1 ts else op2 ts) := ⟨VP.sel g h1.toVP h2.toVP, fun ts f r h => by
 split at h
 ·exact h1.st _ f r h
 ·exact h2.st _ f r h⟩
theorem IsEnd.tx (he : IsEnd e) {s : ByteArray} (hs : s ≠ ⟨#[]⟩) : ¬ e.text = s := fun h => hs (h.symm.trans he.2)
theorem VX.stm (he : IsEnd e) {ex bl : List Tk -> Pn} (hx : VP e ex) (hb : VP e bl) : VX e (stG ex bl) := by
 have ok : ∀ f : Nt, VS e (fun r => .ok f r) := fun f => (VS.okT f).toVS
 have semi : ∀ f : Nt, VP e (fun r => Vm.xpt pSemi r fun r => .ok f r) := fun f => VP.xpt he pSemi (ok f)
 have n0 : ∀ s : ByteArray, s ≠ ⟨#[]⟩ -> ¬ (hd []).text = s := fun s hs => end_hd.tx hs
 exact VX.ite (fun t => jto t = true) (op1 := fun t ts => Vm.xpt pEq ts fun r => (ex r).andThen fun e r => Vm.xpt pSemi r fun r => .ok (.mk 1 0 t.text [e]) r) he.nm end_hd.nm (fun t => (VP.xpt he pEq (hx.toVS.andThen fun f => semi _)).toVS) <|
  VX.sel (fun t => t.kind ≠ 1) VX.syn <|
  VX.ite (fun t => t.text = wIf) (op1 := fun t ts => (ex ts).andThen fun c r => (bl r).andThen fun b r => if isP wElse r = true then (bl r.tail).andThen fun o r => .ok (.mk 2 0 eB [c, b, o]) r else .ok (.mk 2 0 eB [c, b, jba []]) r) (he.tx (by decide)) (n0 _ (by decide)) (fun t => (hx.andThen fun c => hb.andThen fun b => VP.ite (fun t => ji7 wElse t = true) (op1 := fun t ts => (bl ts).andThen fun o r => .ok (.mk 2 0 eB [c, b, o]) r) (he.p _) (end_hd.p _) (fun _ => (hb.andThen fun o => VS.okT _).toVS) (VS.okT _)).toVS) <|
  VX.ite (fun t => t.text = wWhile) (op1 := fun t ts => (ex ts).andThen fun c r => (bl r).andThen fun b r => .ok (.mk 3 0 eB [c, b]) r) (he.tx (by decide)) (n0 _ (by decide)) (fun t => (hx.andThen fun c => hb.andThen fun b => VS.okT _).toVS) <|
  VX.ite (fun t => t.text = wSend) (op1 := fun t ts => (ex ts).andThen fun t r => Vm.xpt pComma r fun r => jgH 30 r fun n r => Vm.xpt pComma r fun r => (ex r).andThen fun a r => Vm.xpt pComma r fun r => (ex r).andThen fun b r => Vm.xpt pSemi r fun r => .ok (.mk 4 n eB [t, a, b]) r) (he.tx (by decide)) (n0 _ (by decide)) (fun t => (hx.andThen fun c => VP.xpt he pComma (VP.num he 30 fun n => (VP.xpt he pComma (hx.andThen fun a => VP.xpt he pComma (hx.andThen fun b => semi _).toVS).toVS).toVS).toVS).toVS) <|
  VX.ite (fun t => t.text = wTimer) (op1 := fun t ts => jgH 8 ts fun n r => Vm.xpt pSemi r fun r => .ok (.mk 5 n eB []) r) (he.tx (by decide)) (n0 _ (by decide)) (fun t => (VP.num he 8 fun n => (semi _).toVS).toVS) <|
  VX.ite (fun t => t.text = wCancel) (op1 := fun t ts => jgH 8 ts fun n r => Vm.xpt pSemi r fun r => .ok (.mk 6 n eB []) r) (he.tx (by decide)) (n0 _ (by decide)) (fun t => (VP.num he 8 fun n => (semi _).toVS).toVS) <|
  VX.ite (fun t => t.text = wSync) (op1 := fun t ts => Vm.xpt pSemi ts fun r => .ok (.mk 7 0 eB []) r) (he.tx (by decide)) (n0 _ (by decide)) (fun t => (semi _).toVS) <|
  VX.ite (fun t => t.text = wReply) (op1 := fun t ts => (ex ts).andThen fun a r => Vm.xpt pComma r fun r => (ex r).andThen fun b r => Vm.xpt pSemi r fun r => .ok (.mk 8 0 eB [a, b]) r) (he.tx (by decide)) (n0 _ (by decide)) (fun t => (hx.andThen fun c => VP.xpt he pComma (hx.andThen fun b => semi _).toVS).toVS) <|
  VX.ite (fun t => t.text = wFail) (op1 := fun t ts => (ex ts).andThen fun a r => Vm.xpt pSemi r fun r => .ok (.mk 9 0 eB [a]) r) (he.tx (by decide)) (n0 _ (by decide)) (fun t => (hx.andThen fun c => semi _).toVS) <|
  VX.ite (fun t => t.text = wStop) (op1 := fun t ts => Vm.xpt pSemi ts fun r => .ok (.mk 10 0 eB []) r) (he.tx (by decide)) (n0 _ (by decide)) (fun t => (semi _).toVS) VX.syn
def bkQ (st : List Tk -> Pn) (acc : List Nt) (ts : List Tk) : Pn := ji8 st ts.length acc ts
theorem jmJ {st : List Tk -> Pn} (h : VX e st) (h0 : st [] = synE []) : ∀ (n k : Nat) (acc : List Nt) (ts : List Tk), ts.length <= n -> ts.length <= k -> ji8 st n acc ts = ji8 st k acc ts
 | 0, 0, _, _, _, _ => rfl
 | 0, k + 1, acc, ts, hn, hk => by
  obtain rfl : ts = [] := List.length_eq_zero_iff.1 (by omega)
  rw [ji8, ji8, if_neg (show ¬ isP pRb [] = true from end_hd.p _), h0];rfl
 | n + 1, 0, acc, ts, hn, hk => by
  obtain rfl : ts = [] := List.length_eq_zero_iff.1 (by omega)
  rw [ji8, ji8, if_neg (show ¬ isP pRb [] = true from end_hd.p _), h0];rfl
 | n + 1, k + 1, acc, ts, hn, hk => by
  rw [ji8, ji8]
  by_cases hp : isP pRb ts = true
  ·rw [if_pos hp, if_pos hp]
  ·rw [if_neg hp, if_neg hp]
   cases ho : st ts with
   | bad x y => rfl
   | ok f r =>
    have hl := h.st _ _ _ ho
    exact jmJ h h0 n k _ r (by omega) (by omega)
theorem jou {st : List Tk -> Pn} (h : VX e st) (h0 : st [] = synE []) (acc : List Nt) (ts : List Tk) : bkQ st acc ts = if ji7 pRb (hd ts) = true then .ok (jba acc) ts.tail else (st ts).andThen fun s r => bkQ st (acc ++ [s]) r := by
 unfold bkQ;rw [jmJ h h0 ts.length (ts.length + 1) acc ts (Nat.le_refl _) (by omega), ji8]
 show (if isP pRb ts = true then _ else _) = if isP pRb ts = true then _ else _
 by_cases hp : isP pRb ts = true
 ·rw [if_pos hp, if_pos hp]
 ·rw [if_neg hp, if_neg hp]
  cases ho : st ts with
  | bad x y => rfl
  | ok f r =>
   have hl := h.st _ _ _ ho
   exact jmJ h h0 _ _ _ r (by omega) (Nat.le_refl _)
theorem jrX {st : List Tk -> Pn} (h : VX e st) (h0 : st [] = synE []) : ∀ (n : Nat) (acc : List Nt) (ts : List Tk) (f : Nt) (r : List Tk), ts.length <= n -> bkQ st acc ts = .ok f r -> ∃ a, ts = a ++ r := fun n => by
 induction n with
 | zero =>
  intro acc ts f r hn ho
  obtain rfl : ts = [] := List.length_eq_zero_iff.1 (by omega)
  rw [jou h h0, if_neg (end_hd.p _), h0] at ho;cases ho
 | succ n ih =>
  intro acc ts f r hn ho;rw [jou h h0] at ho
  split at ho
  ·cases ho
   cases ts with
   | nil => exact ⟨[], rfl⟩
   | cons t ts => exact ⟨[t], rfl⟩
  ·cases hq : st ts with
   | bad x y => rw [hq] at ho; cases ho
   | ok g u =>
    rw [hq] at ho
    have hl := h.st _ _ _ hq
    obtain ⟨a, ha⟩ := h.su _ _ _ hq
    obtain ⟨b, hb⟩ := ih _ u f r (by omega) ho
    exact ⟨a ++ b, by rw [ha, hb, List.append_assoc]⟩
theorem jqC {st : List Tk -> Pn} (he : IsEnd e) (h : VX e st) (h0 : st [] = synE []) (acc : List Nt) : bkQ st acc [e] = .bad e.pos 10 := by
 rw [jou h h0, if_neg (show ¬ ji7 pRb (hd [e]) = true from he.p _)]
 rcases h.en with h3 | ⟨f, h3⟩
 ·rw [h3]; rfl
 ·have := h.st _ _ _ h3
  exact absurd this (Nat.lt_irrefl _)
theorem jpS {st : List Tk -> Pn} (he : IsEnd e) (h : VX e st) (h0 : st [] = synE []) : ∀ (n : Nat) (acc : List Nt) (m q : List Tk) (f : Nt) (r : List Tk), m.length <= n -> bkQ st acc (m ++ q) = .ok f r -> (∃ a s, m = a ++ s /\ r = s ++ q /\ bkQ st acc (m ++ [e]) = .ok f (s ++ [e])) ∨ ((∃ a, q = a ++ r) /\ bkQ st acc (m ++ [e]) = .bad e.pos 10) := fun n => by
 have nil : ∀ (acc : List Nt) (q : List Tk) (f : Nt) (r : List Tk), bkQ st acc ([] ++ q) = .ok f r -> ((∃ a, q = a ++ r) /\ bkQ st acc ([] ++ [e]) = .bad e.pos 10) := fun acc q f r ho => ⟨jrX h h0 _ acc q f r (Nat.le_refl _) ho, jqC he h h0 acc⟩
 induction n with
 | zero =>
  intro acc m q f r hn ho
  obtain rfl : m = [] := List.length_eq_zero_iff.1 (by omega)
  exact .inr (nil acc q f r ho)
 | succ n ih =>
  intro acc m q f r hn ho
  cases m with
  | nil => exact .inr (nil acc q f r ho)
  | cons t m =>
   rw [jou h h0] at ho ⊢
   by_cases ht : ji7 pRb t = true
   ·rw [if_pos (show ji7 pRb (hd (t :: m ++ q)) = true from ht)] at ho;rw [if_pos (show ji7 pRb (hd (t :: m ++ [e])) = true from ht)];cases ho;exact .inl ⟨[t], m, rfl, rfl, rfl⟩
   ·rw [if_neg (show ¬ ji7 pRb (hd (t :: m ++ q)) = true from ht)] at ho;rw [if_neg (show ¬ ji7 pRb (hd (t :: m ++ [e])) = true from ht)]
    cases hq : st (t :: m ++ q) with
    | bad x y => rw [hq] at ho; cases ho
    | ok g u =>
     rw [hq] at ho
     have ho : bkQ st (acc ++ [g]) u = .ok f r := ho
     have hl := h.st _ _ _ hq
     rcases h.v (t :: m) q g u hq with ⟨a, s, e1, e2, e3, e4⟩ | ⟨⟨a, ha⟩, h3⟩
     ·rw [e4]
      show (∃ a s, _) ∨ (_ /\ bkQ st (acc ++ [g]) (s ++ [e]) = _)
      rw [e3] at ho hl;rw [List.length_append, List.length_append, List.length_cons] at hl;rw [List.length_cons] at hn
      rcases ih (acc ++ [g]) s q f r (by omega) ho with ⟨b, s2, g1, g3, g4⟩ | ⟨g1, g2⟩
      ·exact .inl ⟨a ++ b, s2, by rw [e1, g1, List.append_assoc], g3, g4⟩
      ·exact .inr ⟨g1, g2⟩
     ·obtain ⟨b, hb⟩ := jrX h h0 _ _ u f r (Nat.le_refl _) ho
      refine .inr ⟨⟨a ++ b, by rw [ha, hb, List.append_assoc]⟩, ?_⟩
      rcases h3 with h3 | ⟨f2, h3⟩
      ·rw [h3]; rfl
      ·rw [h3];exact jqC he h h0 _
theorem VS.bkQ (he : IsEnd e) {st : List Tk -> Pn} (h : VX e st) (h0 : st [] = synE []) (acc : List Nt) : VS e (Vm.bkQ st acc) where
 su := fun ts f r ho => jrX h h0 _ acc ts f r (Nat.le_refl _) ho
 v := fun m q f r ho => by
  rcases jpS he h h0 _ acc m q f r (Nat.le_refl _) ho with ⟨a, s, e1, e2, e3⟩ | ⟨e1, e2⟩
  ·cases s with
   | nil => exact .inr ⟨⟨[], e2.symm⟩, .inr ⟨f, e3⟩⟩
   | cons t s => exact .inl ⟨a, t :: s, e1, by simp, e2, e3⟩
  ·exact .inr ⟨e1, .inl e2⟩
theorem VP.bk (he : IsEnd e) {st : List Tk -> Pn} (h : VX e st) (h0 : st [] = synE []) : VP e (bkF st) := VP.xpt he pLb (VS.bkQ he h h0 [])
theorem jwd (he : IsEnd e) {st : List Tk -> Pn} (h : VX e st) (h0 : st [] = synE []) {m q : List Tk} {f : Nt} (hq : q ≠ []) (ho : bkF st (m ++ q) = .ok f []) : bkF st (m ++ [e]) = .bad e.pos 10 := by
 cases m with
 | nil =>
  show Vm.xpt pLb [e] _ = _
  unfold Vm.xpt;rw [if_neg (show ¬ isP pLb [e] = true from he.p _)];rfl
 | cons t m =>
  have ho : Vm.xpt pLb (t :: (m ++ q)) (bkQ st []) = .ok f [] := ho
  show Vm.xpt pLb (t :: (m ++ [e])) (bkQ st []) = _
  unfold Vm.xpt at ho ⊢
  by_cases ht : ji7 pLb t = true
  ·rw [if_pos (show isP pLb (t :: (m ++ q)) = true from ht)] at ho;rw [if_pos (show isP pLb (t :: (m ++ [e])) = true from ht)]
   rcases jpS he h h0 _ [] m q f [] (Nat.le_refl _) ho with ⟨a, s, e1, e2, e3⟩ | ⟨e1, e2⟩
   ·have h2 := (List.append_eq_nil_iff.1 e2.symm).2
    exact absurd h2 hq
   ·exact e2
  ·rw [if_neg (show ¬ isP pLb (t :: (m ++ q)) = true from ht)] at ho;cases ho
theorem juO (ex bl : List Tk -> Pn) : stG ex bl [] = synE [] := by
 unfold stG;rw [if_neg (show ¬ jfC [] = true from end_hd.nm), if_pos (show (hd []).kind ≠ 1 by decide)]
theorem VP.bkN (he : IsEnd e) : VP e bkN := VP.ite (fun t => ji7 pLb t = true) (op1 := fun t _ => .bad t.pos 2) (op2 := synE) (he.p _) (end_hd.p _) (fun _ => VS.bad _ _) VP.syn
theorem VPa.pa (he : IsEnd e) {low : Option Pa} (hl : juK e low) : VPa e (paG low) where
 no := VP.nt he hl
 un := VP.una he hl
 ex := VP.exp he hl
 bl := VP.bk he (VX.stm he (VP.exp he hl) (by
  cases low with
  | none => exact VP.bkN he
  | some p => exact (hl p rfl).bl)) (juO _ _)
theorem vpa (he : IsEnd e) : ∀ n, VPa e (pa n)
 | 0 => VPa.pa he fun p h => by cases h
 | n + 1 => VPa.pa he fun p h => by cases h; exact vpa he n
theorem jBc (he : IsEnd e) : ∀ n, juK e (jav n)
 | 0 => fun p h => by cases h
 | n + 1 => fun p h => by cases h; exact vpa he n
theorem jzO (he : IsEnd e) (n : Nat) : VX e (stL n) := VX.stm he (VP.exp he (jBc he n)) (by
 cases n with
 | zero => exact VP.bkN he
 | succ n => exact (vpa he n).bl)
theorem jv3 (he : IsEnd e) {n : Nat} {t : List Co} {b : Nt} (h : PBk n t b) {m q : List Tk} (hq : q ≠ []) (hm : (m ++ q).map jib = t) : (pa n).bl (m ++ [e]) = .bad e.pos 10 := by
 rw [jyz];exact jwd he (jzO he n) (juO _ _) hq (h (m ++ q) [] ⟨m ++ q, (List.append_nil _).symm, hm⟩)
end
def jgy : Nat -> List Co -> List Tk
 | _, [] => []
 | p, c :: l => ⟨c.kind, p, bs c.text, c.n⟩ :: jgy (p + c.text.length + (jda (bs c.text) (glR l)).size) l
theorem jd9 : ∀ (l : List Co) (p : Nat), (jgy p l).map jib = l
 | [], _ => rfl
 | c :: l, p => by
  show jib ⟨c.kind, p, bs c.text, c.n⟩ :: (jgy _ l).map jib = _
  rw [jd9 l];rfl
theorem jn8 : ∀ (l : List Co) (b : Bool) (p : Nat), (∀ c ∈ l, LexT c) -> Fine b l -> ji5 p (glR l).data.toList = ⟨jgy p l, none⟩
 | [], b, p, _, _ => rfl
 | c :: l, b, p, hl, hf => by
  have hc := hl c List.mem_cons_self
  have step : ∀ q, ji5 q (glR l).data.toList = ⟨jgy q l, none⟩ := fun q => jn8 l _ q (fun d hd => hl d (List.mem_cons_of_mem _ hd)) hf.2
  have e : (glR (c :: l)).data.toList = c.text ++ ((jda (bs c.text) (glR l)).data.toList ++ (glR l).data.toList) := by
   show (ja1 _ _).data.toList = _
   rw [jaB, jfy, jfy, jaY, List.append_assoc]
  have hg : jda (bs c.text) (glR l) = ⟨#[]⟩ ∨ (jda (bs c.text) (glR l) = ⟨#[32]⟩) := by
   unfold jda; split; exact .inl rfl; exact .inr rfl
  rcases hg with hg | hg
  ·rw [e, jgy, hg];rw [show ((⟨#[]⟩ : ByteArray).data.toList ++ (glR l).data.toList) = (glR l).data.toList from rfl];rw [jjJ hc p _ fun y r hy => ?_, step]
   ·rfl
   ·cases l with
    | nil => cases hy
    | cons d l =>
     have hd := (hl d (by simp)).ne
     have hfy : jaq (glR (d :: l)) = y := by unfold jaq; rw [hy]; rfl
     rw [jdb hd] at hfy;refine ⟨fun hx => ?_, fun hx => ?_⟩
     ·unfold jda at hg
      split at hg
      ·rename_i hh
       rcases hh with hh | hh | hh | hh
       ·exact absurd hh (jpP hc.ne)
       ·exact absurd hh (jfq hd)
       ·rw [hx] at hh; cases hh
       ·rw [jdb hd, hfy] at hh; exact hh
      ·exact absurd hg (by decide)
     ·rw [<- hfy]; exact hf.2.1 hx
  ·rw [e, jgy, hg];rw [show ((⟨#[32]⟩ : ByteArray).data.toList ++ (glR l).data.toList) = 32 :: (glR l).data.toList from rfl];rw [jjJ hc p _ fun y r hy => ?_, jmf (by decide) (by decide), step]
   ·rfl
   ·cases hy
    exact ⟨fun _ => by decide, fun _ => by decide⟩
theorem TN.pos {s : ByteArray} {l : List Co} (h : TN s l) : jaN s = ⟨jgy 0 l, none⟩ /\ jgo s = jgy 0 l ++ [jdK s] := by
 have h1 := jn8 l false 0 h.lx h.fi
 rw [<- h.eq] at h1
 have h2 : jaN s = ⟨jgy 0 l, none⟩ := h1
 exact ⟨h2, by rw [jc3 (by rw [h2]), h2]⟩
theorem js4 {a b c : ByteArray} (hb : b ≠ ⟨#[]⟩) (hc : c ≠ ⟨#[]⟩) (h : jaq b = jaq c) : jda a b = jda a c := by
 unfold jda;rw [h]
 by_cases ha : a = ⟨#[]⟩
 ·rw [if_pos (.inl ha), if_pos (.inl ha)]
 ·by_cases h2 : jbP (jbQ a) = false ∨ jbP (jaq c) = false
  ·rw [if_pos (.inr (.inr h2)), if_pos (.inr (.inr h2))]
  ·rw [if_neg, if_neg]
   ·rintro (h3 | h3 | h3)
    ·exact ha h3
    ·exact hc h3
    ·exact h2 h3
   ·rintro (h3 | h3 | h3)
    ·exact ha h3
    ·exact hb h3
    ·exact h2 h3
theorem jt0 {a b c : ByteArray} (hb : b ≠ ⟨#[]⟩) (hc : c ≠ ⟨#[]⟩) (h : jbQ b = jbQ c) : jda b a = jda c a := by
 unfold jda;rw [h]
 by_cases ha : a = ⟨#[]⟩ ∨ jbP (jbQ c) = false ∨ jbP (jaq a) = false
 ·rw [if_pos (.inr ha), if_pos (.inr ha)]
 ·rw [if_neg, if_neg]
  ·rintro (h3 | h3)
   ·exact hc h3
   ·exact ha h3
  ·rintro (h3 | h3)
   ·exact hb h3
   ·exact ha h3
theorem jsy {c : Co} : ∀ {l : List Co}, (∀ d ∈ l, d.text ≠ []) -> l ≠ [] -> jbQ (glR (c :: l)) = jbQ (glR l)
 | [], _, h => absurd rfl h
 | d :: l, h, _ => by
  show jbQ (ja1 (bs c.text) (glR (d :: l))) = _
  rw [jaB];exact jiS _ (jfq (h d List.mem_cons_self))
theorem jjl : ∀ (l m : List Co) (p : Nat), (∀ c ∈ l, c.text ≠ []) -> (∀ c ∈ m, c.text ≠ []) -> jgy p (l ++ m) = jgy p l ++ jgy (p + (glR l).size + (jda (glR l) (glR m)).size) m
 | [], m, p, _, _ => by
  have e : jda (glR []) (glR m) = ⟨#[]⟩ := by unfold jda; rw [if_pos (.inl rfl)]
  rw [e];rfl
 | [c], m, p, h, _ => by
  show _ :: jgy _ m = [_] ++ jgy _ m
  rw [jmN];rw [show (bs c.text).size = c.text.length from jbz _];rfl
 | c :: d :: l, m, p, h, hm => by
  have hd : d.text ≠ [] := h d (by simp)
  have hc : c.text ≠ [] := h c (by simp)
  have hl : ∀ x ∈ d :: l, x.text ≠ [] := fun x hx => h x (List.mem_cons_of_mem _ hx)
  have ih := jjl (d :: l) m (p + c.text.length + (jda (bs c.text) (glR (d :: l ++ m))).size) hl hm
  show _ :: jgy (p + c.text.length + (jda (bs c.text) (glR (d :: l ++ m))).size) (d :: l ++ m) = _ :: (jgy _ (d :: l) ++ _)
  rw [ih]
  have e1 : jda (bs c.text) (glR (d :: l ++ m)) = jda (bs c.text) (glR (d :: l)) := js4 (jfq hd) (jfq hd) (by
   show jaq (glR (d :: (l ++ m))) = _
   rw [jdb hd, jdb hd])
  have e2 : jda (glR (c :: d :: l)) (glR m) = jda (glR (d :: l)) (glR m) := jt0 (jfq hc) (jfq hd) (jsy hl (by simp))
  have e3 : (glR (c :: d :: l)).size = c.text.length + (jda (bs c.text) (glR (d :: l))).size + (glR (d :: l)).size := by
   show (ja1 (bs c.text) (glR (d :: l))).size = _
   rw [jaB, ByteArray.size_append, ByteArray.size_append, jbz]
  rw [e1, e2, e3]
  congr 3
  omega
theorem jsf (l : List Co) (hl : l ≠ []) (h : ∀ c ∈ l, c.text ≠ []) (p : Nat) (d : Tk) : ((jgy p l).getD (l.length - 1) d).pos + ((jgy p l).getD (l.length - 1) d).text.size = p + (glR l).size := by
 have e := List.dropLast_concat_getLast hl
 generalize l.getLast hl = c at *;generalize l.dropLast = m at *;subst e
 have hc : c.text ≠ [] := h c (by simp)
 rw [jjl m [c] p (fun x hx => h x (by simp [hx])) (fun x hx => h x (by simp at hx; simp [hx]))]
 have hlen : (jgy p m).length = m.length := by rw [<- List.length_map (f := jib), jd9]
 rw [List.length_append, List.length_singleton, Nat.add_sub_cancel, List.getD_eq_getElem?_getD, List.getElem?_append_right (by omega), hlen, Nat.sub_self, jhq m [c] (fun x hx => h x (by simp [hx])) (fun x hx => h x (by simp at hx; simp [hx])), jaB, ByteArray.size_append, ByteArray.size_append, jmN]
 show p + (glR m).size + (jda (glR m) (bs c.text)).size + (bs c.text).size = _
 omega
theorem Fine.left : ∀ {l m : List Co} {b : Bool}, Fine b (l ++ m) -> Fine b l
 | [], _, _, _ => trivial
 | c :: l, m, b, h => ⟨h.1, h.2.left⟩
theorem jwD {a b : List Co} (hl : ∀ c ∈ a ++ b, LexT c) (hf : Fine false (a ++ b)) : (jaN (glR a)).err = none /\ jgo (glR a) = jgy 0 a ++ [jdK (glR a)] /\ (glR (a ++ b)).extract 0 (glR a).size = glR a /\ (glR a).size <= (glR (a ++ b)).size := by
 have h1 := jn8 a false 0 (fun c hc => hl c (List.mem_append_left _ hc)) hf.left
 have h2 : jaN (glR a) = ⟨jgy 0 a, none⟩ := h1
 have e := jhq a b (fun c hc => (hl c (List.mem_append_left _ hc)).ne) (fun c hc => (hl c (List.mem_append_right _ hc)).ne)
 refine ⟨by rw [h2], by rw [jc3 (by rw [h2]), h2], ?_, ?_⟩
 ·rw [e, jaB, jfh];refine jeP ?_;rw [jg5, jaY, List.drop_zero, Nat.sub_zero, jfy, <- jbm, List.take_left]
 ·rw [e, jaB, ByteArray.size_append, ByteArray.size_append];omega
section
variable {fu : Bool} {e : Tk}
theorem jrR (x : Int × Nt) (q : List Co) : jcK fu x ++ q = jap wOn :: (jme x.1 ++ (tkB fu x.2 ++ q)) := by
 unfold jcK
 simp
theorem juR (du vo : List ByteArray) : ∀ (l acc : List (Int × Nt)) (ts r : List Tk) (k : Nat), (∀ x ∈ l, HO fu x) -> (acc ++ l).Pairwise (fun a b => a.1 ≠ b.1) -> Beg ((l.map (jcK fu)).flatten) ts r -> jp3 du vo (k + l.length) acc ts = jp3 du vo k (acc ++ l) r
 | [], acc, ts, r, k, _, _, hb => by
  have e : ts = r := hb.nil
  rw [e, List.append_nil]; rfl
 | x :: l, acc, ts, r, k, hl, hp, hb => by
  obtain ⟨h0, h1, hbk⟩ := hl x List.mem_cons_self
  rw [List.map_cons, List.flatten_cons, jrR] at hb
  obtain ⟨p, _, _, _, q, h2⟩ := jaA hb
  obtain ⟨u, h3, h4⟩ := jvR h0 h1 h2
  obtain ⟨v, h5, h6⟩ := h4.app
  have h7 := hbk u v h5
  have hne : ∀ y ∈ acc, y.1 ≠ x.1 := fun y hy => (List.pairwise_append.1 hp).2.2 y hy x List.mem_cons_self
  rw [List.length_cons, show k + (l.length + 1) = (k + l.length) + 1 by omega, jp3, if_neg (by rw [q]; decide), if_neg (by rw [p]; decide), h3]
  show (if acc.any (fun h => decide (h.1 = x.1)) = true then _ else _) = _
  rw [jrp acc x.1 hne, if_neg (by decide), jyz, h7]
  show jp3 du vo (k + l.length) (acc ++ [(x.1, x.2)]) v = _
  have ih := juR du vo l (acc ++ [x]) v r k (fun y hy => hl y (List.mem_cons_of_mem _ hy)) (by rw [List.append_assoc]; exact hp) h6
  rw [show acc ++ [(x.1, x.2)] = acc ++ [x] from rfl, ih, List.append_assoc];rfl
theorem jyV (he : IsEnd e) {n : Int} {a b : List Co} {ts : List Tk} (h : jme n = a ++ b) (hb : b ≠ []) (ht : Beg a ts [e]) : hnF ts = .bad e.pos 10 := by
 have nil : ∀ w2 : ByteArray, isP w2 [e] = false := fun w2 => Bool.eq_false_iff.2 (he.p w2)
 have hnil : a = [] -> hnF ts = .bad e.pos 10 := fun ha => by
  subst ha
  have e1 : ts = [e] := ht.nil
  rw [e1];unfold hnF;rw [nil, nil, nil, nil];rfl
 have num : ∀ limit off : Int, jok limit off [e] = .bad e.pos 10 := fun limit off => by
  unfold jok;rw [if_pos (show (hd [e]).kind ≠ 2 by show e.kind ≠ 2; rw [he.1]; decide)];rfl
 cases a with
 | nil => exact hnil rfl
 | cons c a =>
  have two : ∀ (w : ByteArray) (m : Nat), [jap w, jfP m] = c :: a ++ b -> c = jap w /\ a = [] := fun w m h => by
   cases a with
   | nil => cases h; exact ⟨rfl, rfl⟩
   | cons d a =>
    cases a with
    | nil => cases b with
     | nil => exact absurd rfl hb
     | cons => cases h
    | cons => cases h
  have one : ∀ w : ByteArray, [jap w] = c :: a ++ b -> False := fun w h => by
   cases a with
   | nil => cases b with
    | nil => exact hb rfl
    | cons => cases h
   | cons => cases h
  unfold jme at h
  split at h
  ·exact (one _ h).elim
  ·split at h
   ·obtain ⟨rfl, rfl⟩ := two _ _ h
    obtain ⟨p, _, _, _, _, hr⟩ := jaA ht
    have e1 := hr.nil
    unfold hnF;rw [p, p, p, p, if_neg (by decide), if_neg (by decide), if_neg (by decide), if_pos (by decide), e1];exact num _ _
   ·split at h
    ·obtain ⟨rfl, rfl⟩ := two _ _ h
     obtain ⟨p, _, _, _, _, hr⟩ := jaA ht
     have e1 := hr.nil
     unfold hnF;rw [p, p, p, if_neg (by decide), if_neg (by decide), if_pos (by decide), e1];exact num _ _
    ·exact (one _ h).elim
theorem jyB (he : IsEnd e) (du vo : List ByteArray) {x : Int × Nt} (hx : HO fu x) {acc : List (Int × Nt)} (hne : ∀ y ∈ acc, y.1 ≠ x.1) {a b : List Co} (hab : jcK fu x = a ++ b) (ha : a ≠ []) (hb : b ≠ []) {ts : List Tk} (ht : Beg a ts [e]) (k : Nat) : jp3 du vo (k + 1) acc ts = .bad e.pos 10 := by
 obtain ⟨h0, h1, hbk⟩ := hx
 cases a with
 | nil => exact absurd rfl ha
 | cons c a =>
  have hab : jap wOn :: (jme x.1 ++ tkB fu x.2) = c :: (a ++ b) := hab
  obtain ⟨rfl, hab2⟩ := List.cons.inj hab
  obtain ⟨p, _, _, _, q, h2⟩ := jaA ht
  rw [jp3, if_neg (by rw [q]; decide), if_neg (by rw [p]; decide)]
  rcases List.append_eq_append_iff.1 hab2 with ⟨a2, e1, e2⟩ | ⟨b2, e1, e2⟩
  ·rw [e1] at h2
   obtain ⟨v, h3, h4⟩ := jvR h0 h1 h2
   rw [h3]
   show (if acc.any (fun h => decide (h.1 = x.1)) = true then _ else _) = _
   rw [jrp acc x.1 hne, if_neg (by decide)]
   obtain ⟨m, rfl, hm⟩ := h4
   obtain ⟨q2, hq2⟩ : ∃ q2 : List Tk, q2.map jib = b := by
    refine ⟨b.map fun c => ⟨c.kind, 0, bs c.text, c.n⟩, ?_⟩;rw [List.map_map]
    conv => rhs; rw [<- List.map_id b]
    rfl
   have hc := jv3 he (n := 19) hbk (m := m) (q := q2) (fun h => hb (by rw [<- hq2, h]; rfl)) (by rw [List.map_append, hm, hq2, e2])
   rw [hc]
  ·by_cases hb2 : b2 = []
   ·subst hb2;rw [List.append_nil] at e1;rw [List.nil_append] at e2
    have h2 : Beg (jme x.1 ++ []) ts.tail [e] := by rw [List.append_nil, e1]; exact h2
    obtain ⟨v, h3, h4⟩ := jvR h0 h1 h2
    rw [h3]
    show (if acc.any (fun h => decide (h.1 = x.1)) = true then _ else _) = _
    rw [jrp acc x.1 hne, if_neg (by decide)]
    have e3 := h4.nil
    subst e3
    obtain ⟨q2, hq2⟩ : ∃ q2 : List Tk, q2.map jib = b := by
     refine ⟨b.map fun c => ⟨c.kind, 0, bs c.text, c.n⟩, ?_⟩;rw [List.map_map]
     conv => rhs; rw [<- List.map_id b]
     rfl
    have hc := jv3 he (n := 19) hbk (m := []) (q := q2) (fun h => hb (by rw [<- hq2, h]; rfl)) (by rw [List.nil_append, hq2, e2])
    rw [List.nil_append] at hc;rw [hc]
   ·rw [jyV he e1 hb2 h2]
theorem jwQ (he : IsEnd e) {u : Ut} (h : GU u) {l : List (Int × Nt)} {x : Int × Nt} (ho : u.on = l ++ [x]) {a b : List Co} (hab : jcK false x = a ++ b) (ha : a ≠ []) (hb : b ≠ []) {ts : List Tk} (ht : Beg (dcTk ++ ((l.map (jcK false)).flatten ++ a)) ts [e]) : juF ts = .bad e.pos 10 := by
 have hho := h.ho (fu := false)
 obtain ⟨h1, h2, h3, h4, h5⟩ := h
 rw [ho] at hho h4
 have hp : (l ++ [x]).Pairwise (fun a b => a.1 ≠ b.1) := h4.imp fun hab => by omega
 have ht : Beg (jap wDurable :: jap ⟨#[100]⟩ :: jaf pComma :: jap ⟨#[100, 100, 49]⟩ :: jaf pSemi :: jap wVolatile :: jap ⟨#[118]⟩ :: jaf pComma :: jap ⟨#[119, 50]⟩ :: jaf pSemi :: ((l.map (jcK false)).flatten ++ a)) ts [e] := ht
 obtain ⟨v, e1, g1⟩ := jus (names := []) (out := []) ht (by decide) (by decide) (by decide) (by decide) (by decide)
 obtain ⟨w, e2, g2⟩ := jus (names := duL) (out := []) g1 (by decide) (by decide) (by decide) (by decide) (by decide)
 obtain ⟨p1, _⟩ := jaA ht
 obtain ⟨p2, _⟩ := jaA g1
 have hlen := ht.len
 simp only [List.length_cons] at hlen
 obtain ⟨n, hn⟩ : ∃ n, ts.length + 1 = n + 3 := ⟨ts.length - 2, by omega⟩
 have hon : isP wDurable w = false /\ isP wVolatile w = false := by
  cases l with
  | nil =>
   cases a with
   | nil => exact absurd rfl ha
   | cons c a =>
    have hab : jap wOn :: (jme x.1 ++ tkB false x.2) = c :: (a ++ b) := hab
    obtain ⟨rfl, _⟩ := List.cons.inj hab
    obtain ⟨p, _⟩ := jaA (b := a) g2
    rw [p, p]; decide
  | cons y l =>
   rw [List.map_cons, List.flatten_cons, List.append_assoc, jrR] at g2
   obtain ⟨p, _⟩ := jaA g2
   rw [p, p]; decide
 obtain ⟨z, g3, g4⟩ := g2.app
 have hzl : 1 <= z.length := by
  have := g4.len
  simp only [List.length_singleton] at this;omega
 have hwl := g3.len
 have hll := jwV (fu := false) l
 unfold juF;rw [hn, jpK, if_pos (by rw [p1]; decide), e1]
 show jpK (n + 2) duL ([] ++ duL) [] v = _
 rw [jpK, if_neg (by rw [p2]; decide), if_pos (by rw [p2]; decide), e2]
 show jpK (n + 1) _ duL voL w = _
 rw [jpK, if_neg (by rw [hon.1]; decide), if_neg (by rw [hon.2]; decide)]
 obtain ⟨k, hk⟩ : ∃ k, w.length + 1 = k + 1 + l.length := ⟨w.length - l.length, by omega⟩
 rw [hk, juR duL voL l [] w z (k + 1) (fun y hy => hho y (List.mem_append_left _ hy)) (List.pairwise_append.1 hp).1 g3];exact jyB he duL voL (hho x (by simp)) (acc := [] ++ l) (fun y hy => (List.pairwise_append.1 hp).2.2 y (by simpa using hy) x (by simp)) hab ha hb g4 k
end
theorem jtt {x : Int × Nt} (h : EK x.2) : 4 <= (jcK false x).length := by
 obtain ⟨k, hk, _⟩ := h
 have h1 : 1 <= (jme x.1).length := by
  unfold jme
  repeat' split
  all_goals simp
 have h2 : 2 <= (tkB false x.2).length := by
  rw [hk];unfold jba;rw [tkB, List.length_append, List.length_cons, List.length_singleton];omega
 unfold jcK;simp only [List.length_append, List.length_cons];omega
theorem jkO {u : Ut} {l : List (Int × Nt)} {x : Int × Nt} (ho : u.on = l ++ [x]) : jmA u = (dcTk ++ (l.map (jcK false)).flatten) ++ jcK false x := by
 unfold jmA;rw [ho, List.map_append, List.flatten_append, <- List.append_assoc]
 simp
theorem jwa {u : Ut} (hu : GW u) {l : List (Int × Nt)} {x : Int × Nt} (ho : u.on = l ++ [x]) (j : Nat) (hj : j + 1 < (jcK false x).length) :
  ∃ t : Tk, (jgo (prF u)).getD ((jmA u).length - (jcK false x).length + j) (jdK (prF u)) = t /\ t.pos + t.text.size <= (prF u).size /\ jhc ((prF u).extract 0 (t.pos + t.text.size)) = .bad ((t.pos + t.text.size : Nat) : Int) 10 := by
 have tn := jwI hu.1
 have hz := hu.size
 have e1 := jkO ho
 have ht := List.take_append_drop (j + 1) (jcK false x)
 have hl1 : ((jcK false x).take (j + 1)).length = j + 1 := by rw [List.length_take]; omega
 have hl2 : ((jcK false x).drop (j + 1)).length ≠ 0 := by rw [List.length_drop]; omega
 have hp := fun (ts : List Tk) => jwQ (ts := ts) (e := jdK (glR ((dcTk ++ (l.map (jcK false)).flatten) ++ (jcK false x).take (j + 1)))) ⟨rfl, rfl⟩ hu.1 ho ht.symm (fun h => by rw [h] at hl1; simp at hl1) (fun h => hl2 (by rw [h]; rfl))
 generalize (jcK false x).take (j + 1) = a at *;generalize (jcK false x).drop (j + 1) = b at *
 have e2 : jmA u = ((dcTk ++ (l.map (jcK false)).flatten) ++ a) ++ b := by rw [e1, <- ht]; simp only [List.append_assoc]
 have hn : (jmA u).length - (jcK false x).length + j = ((dcTk ++ (l.map (jcK false)).flatten) ++ a).length - 1 := by
  rw [e1, List.length_append, List.length_append (bs := a), hl1];omega
 have hne : (dcTk ++ (l.map (jcK false)).flatten) ++ a ≠ [] := fun h => by
  have := (List.append_eq_nil_iff.1 h).2
  rw [this] at hl1; simp at hl1
 rw [<- List.append_assoc] at hp;rw [hn]
 obtain ⟨p1, p2⟩ := tn.pos
 have lx := tn.lx
 have fi := tn.fi
 have eq := tn.eq
 rw [e2] at lx fi eq p2;generalize (dcTk ++ (l.map (jcK false)).flatten) ++ a = A at *
 obtain ⟨c1, c2, c3, c4⟩ := jwD lx fi
 have lxn : ∀ c ∈ A, c.text ≠ [] := fun c hc => (lx c (List.mem_append_left _ hc)).ne
 have lxm : ∀ c ∈ b, c.text ≠ [] := fun c hc => (lx c (List.mem_append_right _ hc)).ne
 have hlast := jsf A hne lxn 0 (jdK (prF u))
 have hlen : (jgy 0 A).length = A.length := by rw [<- List.length_map (f := jib), jd9]
 have hAl : 0 < A.length := List.length_pos_iff.2 hne
 have hrow : (jgo (prF u)).getD (A.length - 1) (jdK (prF u)) = (jgy 0 A).getD (A.length - 1) (jdK (prF u)) := by
  rw [p2, jjl A b 0 lxn lxm, List.append_assoc, List.getD_eq_getElem?_getD, List.getD_eq_getElem?_getD, List.getElem?_append_left (by omega)]
 refine ⟨_, rfl, ?_, ?_⟩
 ·rw [hrow, hlast, Nat.zero_add, eq]; exact c4
 ·rw [hrow, hlast, Nat.zero_add]
  have ex : (prF u).extract 0 (glR A).size = glR A := by rw [eq]; exact c3
  have hsz : (glR A).size <= 3000 := by rw [<- eq] at c4; omega
  rw [ex, jsW hsz c1];exact hp _ ⟨jgy 0 A, c2, jd9 _ _⟩
set_option maxHeartbeats 1000000 in
theorem prefix_law_spec (l : List Int) (c : Int) : Spec Tryz.prog 9 [] [.sl 1 l.length (jfs l), jao c] fun _ r => r = jbE true := by
 obtain ⟨u, hu, hpg⟩ := jxi l
 have h0 := jmH
 by_cases hon : u.on.length = 0
 ·refine ja5 (ja2 (fun id => match Nat.beq id 10 with | true => .q 0 7 .nil | false => jB7 id) xs0 0) (fun _ _ h => h) Tryz.func9 rfl (by kernel_rfl) rfl (by kernel_rfl) ?_;intro hok;conv => whnf
  (refine ja9 [] rfl (fun _ => hpg) ?_; rintro r rfl; conv => whnf)
  rw [decide_eq_true (show (u.on.length : Int) = 0 by omega)];conv => whnf
  (refine ja9 [] rfl (fun _ => h0) ?_; rintro r rfl; conv => whnf)
  rfl
 have hon : 0 < u.on.length := by omega
 obtain ⟨li, x, ho⟩ : ∃ li x, u.on = li ++ [x] := ⟨u.on.dropLast, u.on.getLast (fun h => by rw [h] at hon; cases hon), (List.dropLast_concat_getLast _).symm⟩
 have hx : x ∈ u.on := by rw [ho]; simp
 have ho4 := hu.1.pu.on
 have hpp := jy9 hu.1
 have hz := hu.size
 have tn := jwI hu.1
 have th := hu.1.hd (fu := false) x hx
 have hek : EK x.2 := (hu.1.2.2.1 x hx).2.2
 have hH := jtt hek
 obtain ⟨hhz, hhs⟩ := hu.1.pu.hd false x hx
 have k1 := jeI (prF u) (by omega)
 have k2 := jeI (hdN false x) (by omega)
 obtain ⟨a1, a2⟩ := tn.pos
 obtain ⟨b1, b2⟩ := th.pos
 have hT : (jmA u).length = (dcTk ++ (li.map (jcK false)).flatten).length + (jcK false x).length := by rw [jkO ho, List.length_append]
 have hl1 : (jgo (prF u)).length = (jmA u).length + 1 := by rw [a2, List.length_append, <- List.length_map (f := jib), jd9]; rfl
 have hl2 : (jgo (hdN false x)).length = (jcK false x).length + 1 := by rw [b2, List.length_append, <- List.length_map (f := jib), jd9]; rfl
 rw [joL (by rw [a1]), hl1] at k1;rw [joL (by rw [b1]), hl2] at k2
 have hT2 : (jmA u).length <= 1000000 := by
  have := jv7 (jmA u)
  have := (hu.twK 1 (by omega) (by omega)).1
  omega
 have hr : jac 5 (Int.toNat ((u.on.length : Int) - 1)) (jkr u.on) = hnA x := by
  rw [show Int.toNat ((u.on.length : Int) - 1) = u.on.length - 1 by omega, jlU u.on (u.on.length - 1) (by omega)]
  congr 1
  simp [ho]
 have hcut := fun j hj => jwa hu ho j hj
 have hrow : ∀ i, i < (jmA u).length + 1 -> jac 4 i (jcF (jgo (prF u))) = tkL ((jgo (prF u)).getD i (jdK (prF u))) := fun i hi => jA3 (by omega)
 generalize (dcTk ++ (li.map (jcK false)).flatten).length = dl at *;generalize (jcK false x).length = hl at *;generalize (jmA u).length = tl at *;generalize jgo (hdN false x) = R2 at *;generalize jgo (prF u) = R1 at *;generalize hdN false x = hs at *;clear a1 a2 b1 b2 tn th;refine ja5 (ja2 (fun id => match Nat.beq id 10 with | true => .q 0 7 .nil | false => jB7 id) xs0 0) (fun _ _ h => h) Tryz.func9 rfl (by kernel_rfl) rfl (by kernel_rfl) ?_;intro hok;conv => whnf
 (refine ja9 [] rfl (fun _ => hpg) ?_; rintro r rfl; conv => whnf)
 rw [decide_eq_false (show ¬ (u.on.length : Int) = 0 by omega)];conv => whnf
 (refine ja9 [] rfl (fun _ => hpp) ?_; rintro r rfl; conv => whnf)
 (refine ja9 [] rfl (fun _ => k1) ?_; rintro r rfl; conv => whnf)
 refine ⟨jaI (by omega), ?_⟩;conv => whnf
 refine ⟨by omega, ?_⟩;conv => whnf
 (generalize hrq : jac _ _ (jkr u.on) = rq; obtain rfl : rq = hnA x := hrq.symm.trans (hr); clear hrq; conv => whnf)
 (refine ja9 [] rfl (fun _ => hhs) ?_; rintro r rfl; conv => whnf)
 (refine ja9 [] rfl (fun _ => k2) ?_; rintro r rfl; conv => whnf)
 rw [decide_eq_false (show ¬ ((hl + 1 : Nat) : Int) < 4 by omega)];conv => whnf
 rw [decide_eq_false (show ¬ ((tl + 1 : Nat) : Int) < ((hl + 1 : Nat) : Int) by omega)];conv => whnf
 refine ⟨jaI (by omega), ?_⟩;conv => whnf
 refine ⟨jaI (by omega), ?_⟩;conv => whnf
 refine ⟨jaI (by omega), ?_⟩;conv => whnf
 have har := jeW c (((hl + 1 : Nat) : Int) - 2) (by omega)
 refine ja9 [] rfl (fun _ => har) ?_;rintro r ⟨hc, rfl⟩
 have hrg := jhn hc (m := ((hl + 1 : Nat) : Int) - 2) (by omega)
 obtain ⟨j, hj⟩ : ∃ j : Nat, jdz c (((hl + 1 : Nat) : Int) - 2) = (j : Int) := ⟨(jdz c (((hl + 1 : Nat) : Int) - 2)).toNat, by omega⟩
 rw [hj] at hrg ⊢
 obtain ⟨t, ht, g1, g2⟩ := hcut j (by omega)
 have hrw : ∀ n, n = tl - hl + j -> jac 4 n (jcF R1) = tkL t := fun n hn => by rw [hn, hrow _ (by omega), ht]
 have hps := je7 ((prF u).extract 0 (t.pos + t.text.size)) (by rw [ByteArray.size_extract]; omega)
 rw [g2, show ju1 (.bad ((t.pos + t.text.size : Nat) : Int) 10) = .tup [.agg jiq, jao ((t.pos + t.text.size : Nat) : Int), jao 10] from rfl] at hps;generalize prF u = s at *;clear hcut hrow;conv => whnf
 refine ⟨jaI (by omega), ?_⟩;conv => whnf
 (iterate 2 (apply jdA; (focus ((conv => whnf); exact ⟨rfl, rfl, rfl⟩)); (conv => whnf)))
 apply jdA
 ·conv => whnf
  refine ⟨jaI (by omega), ?_⟩;exact ⟨rfl, rfl, rfl⟩
 conv => whnf
 (apply jdA; (focus ((conv => whnf); refine ⟨by omega, ?_⟩; (generalize hrq : jac _ _ (jcF R1) = rq; obtain rfl : rq = tkL t := hrq.symm.trans (hrw _ (by omega)); exact ⟨rfl, rfl, rfl⟩))); (conv => whnf))
 (iterate 4 (apply jdA; (focus ((conv => whnf); exact ⟨rfl, rfl, rfl⟩)); (conv => whnf)))
 apply jdA
 ·conv => whnf
  refine ⟨jaI (by omega), ?_⟩;exact ⟨rfl, rfl, rfl⟩
 conv => whnf
 (apply jdA; (focus ((conv => whnf); refine ⟨by omega, ?_⟩; (generalize hrq : jac _ _ (jcF R1) = rq; obtain rfl : rq = tkL t := hrq.symm.trans (hrw _ (by omega)); exact ⟨rfl, rfl, rfl⟩))); (conv => whnf))
 (iterate 3 (apply jdA; (focus ((conv => whnf); exact ⟨rfl, rfl, rfl⟩)); (conv => whnf)))
 apply jdA
 ·conv => whnf
  refine ⟨jaI (by omega), ?_⟩;exact ⟨rfl, rfl, rfl⟩
 conv => whnf
 (iterate 1 (apply jdA; (focus ((conv => whnf); exact ⟨rfl, rfl, rfl⟩)); (conv => whnf)))
 rw [decide_eq_false (show ¬ (s.size : Int) < (t.pos : Int) + (t.text.size : Int) by omega)];conv => whnf
 have e : s.extract 0 (t.pos + t.text.size) = s.extract (Int.toNat 0) (Int.toNat ((t.pos : Int) + (t.text.size : Int))) := by congr 1
 rw [e] at hps;refine ⟨by omega, ?_⟩;conv => whnf
 (refine ja9 [] rfl (fun _ => hps) ?_; rintro r rfl; conv => whnf)
 rw [decide_eq_true (show ((t.pos + t.text.size : Nat) : Int) = (t.pos : Int) + (t.text.size : Int) by omega)];conv => whnf
 (refine ja9 [] rfl (fun _ => h0) ?_; rintro r rfl; conv => whnf)
 rfl
end Go.Proofs.YtmodkpibkkpcdaaGreatDoor.Vm
