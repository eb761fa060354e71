/- Texts 6 of the proof: U13, U14, U15, U16, U17, U18, U19, U20, U21, U22, U23, U24, U25, U26, U27, U28, U29, U30, U31, U32, U33, U34. -/
import Derived.Test.YtmodkpibkkpcdaaGreatDoorM5
namespace Go.Proofs.YtmodkpibkkpcdaaGreatDoor.Vm
open Go.RowKit Go.Shelf
set_option linter.unusedSimpArgs false
set_option linter.unusedVariables false
set_option maxRecDepth 100000
def jcL : Int -> List UInt8 -> Int
 | n, [] => n
 | n, c :: r => jcL (10 * n + (c.toNat : Int) - 48) r
theorem jni {c : UInt8} (h : isD c = true) : 48 <= (c.toNat : Int) /\ (c.toNat : Int) <= 57 := by
 unfold isD at h;simp only [Bool.and_eq_true, decide_eq_true_eq] at h;exact h
theorem jhp : ∀ (l : List UInt8) (n : Int), 0 <= n -> (∀ c ∈ l, isD c = true) -> n <= jcL n l
 | [], n, _, _ => Int.le_refl n
 | c :: r, n, h0, h => by
  have hc := jni (h c (by simp))
  have := jhp r (10 * n + (c.toNat : Int) - 48) (by omega) (fun c hc => h c (by simp [hc]))
  show n <= jcL (10 * n + (c.toNat : Int) - 48) r
  omega
theorem jhb : ∀ (l : List UInt8) (n : Int), 0 <= n -> n <= 2147483647 -> (∀ c ∈ l, isD c = true) -> jgy n l = if 2147483647 < jcL n l then -1 else jcL n l
 | [], n, _, h, _ => by
  show n = if 2147483647 < n then -1 else n
  rw [if_neg (by omega)]
 | c :: r, n, h0, h1, h => by
  have hc := jni (h c (by simp))
  have hr : ∀ c ∈ r, isD c = true := fun c hc => h c (by simp [hc])
  show (if 2147483647 < 10 * n + (c.toNat : Int) - 48 then -1 else jgy (10 * n + (c.toNat : Int) - 48) r) = if 2147483647 < jcL (10 * n + (c.toNat : Int) - 48) r then -1 else jcL (10 * n + (c.toNat : Int) - 48) r
  have hg := jhp r (10 * n + (c.toNat : Int) - 48) (by omega) hr
  by_cases hx : 2147483647 < 10 * n + (c.toNat : Int) - 48
  ·rw [if_pos hx, if_pos (by omega)]
  ·rw [if_neg hx, jhb r _ (by omega) (by omega) hr]
theorem jiE : ∀ (l m : List UInt8) (n : Int), jcL n (l ++ m) = jcL (jcL n l) m
 | [], m, n => rfl
 | c :: r, m, n => jiE r m _
theorem jrM (n : Nat) : ((UInt8.ofNat (48 + n % 10)).toNat : Int) = 48 + n % 10 := by
 rw [UInt8.toNat_ofNat']; omega
theorem joE : ∀ (f n : Nat), n <= f -> ∀ c ∈ jmd n, isD c = true
 | f, 0, _, c, hc => by rw [jdb] at hc; cases hc
 | 0, n + 1, h, _, _ => by omega
 | f + 1, n + 1, h, c, hc => by
  rw [jcj (by omega)] at hc
  rcases List.mem_append.1 hc with hc | hc
  ·exact joE f ((n + 1) / 10) (by omega) c hc
  ·obtain rfl := List.mem_singleton.1 hc
   unfold isD;rw [jrM];simp only [Bool.and_eq_true, decide_eq_true_eq];omega
theorem jo3 : ∀ (f n : Nat), n <= f -> jcL 0 (jmd n) = n
 | f, 0, _ => by rw [jdb]; rfl
 | 0, n + 1, h => by omega
 | f + 1, n + 1, h => by
  rw [jcj (by omega), jiE, jo3 f ((n + 1) / 10) (by omega)]
  show 10 * (((n + 1) / 10 : Nat) : Int) + ((UInt8.ofNat (48 + (n + 1) % 10)).toNat : Int) - 48 = _
  rw [jrM]; omega
theorem jnJ (n : Nat) : ∀ c ∈ jb1 n, isD c = true := by
 unfold jb1
 split
 ·intro c hc; obtain rfl := List.mem_singleton.1 hc; decide
 ·exact joE n n (Nat.le_refl _)
theorem jt9 (n : Nat) : jcL 0 (jb1 n) = n := by
 unfold jb1
 split
 ·rename_i h; subst h; rfl
 ·exact jo3 n n (Nat.le_refl _)
theorem jwr (n : Nat) : jb1 n ≠ [] := by
 unfold jb1
 split
 ·simp
 ·rename_i h; rw [jcj h]; simp
structure Co where
 kind : Int
 text : List UInt8
 n : Int
def jn4 (t : Tk) : Co := ⟨t.kind, t.text.data.toList, t.n⟩
def glR : List Co -> ByteArray
 | [] => ⟨#[]⟩
 | x :: l => ja1 (bs x.text) (glR l)
def jf5 (x : List UInt8) : Bool := !(decide (x = [60]) || decide (x = [62]) || decide (x = [61]) || decide (x = [33]))
def okN (x : List UInt8) (y : UInt8) : Prop := (jbu (jby (bs x)) = true -> jbu y = false) /\ (jf5 x = false -> y ≠ 61)
structure LexT (c : Co) : Prop where
 ne : c.text ≠ []
 st : ∀ y r, c.text = y :: r -> jcf y = false /\ jpz y = false
 go : ∀ rest, (∀ y r, rest = y :: r -> okN c.text y) -> jbh (c.text ++ rest) = .tok c.kind c.text.length c.n
def Fine : Bool -> List Co -> Prop
 | _, [] => True
 | b, c :: l => (b = false -> jaq (bs c.text) ≠ 61) /\ Fine (jf5 c.text) l
theorem Fine.more {b : Bool} : ∀ {l : List Co}, Fine false l -> Fine b l
 | [], _ => trivial
 | c :: l, h => ⟨fun _ => h.1 rfl, h.2⟩
theorem Fine.app : ∀ {l m : List Co} {b : Bool}, Fine b l -> Fine false m -> Fine b (l ++ m)
 | [], m, b, _, h => h.more
 | c :: l, m, b, h, k => ⟨h.1, h.2.app k⟩
def EndS : List Co -> Prop
 | [] => False
 | [c] => jf5 c.text = true
 | _ :: l => EndS l
theorem Fine.app2 : ∀ {l m : List Co} {b : Bool}, Fine b l -> EndS l -> Fine true m -> Fine b (l ++ m)
 | [], m, b, _, h, _ => h.elim
 | [c], m, b, h, e, k => ⟨h.1, by rw [show jf5 c.text = true from e]; exact k⟩
 | c :: d :: l, m, b, h, e, k => ⟨h.1, Fine.app2 (l := d :: l) h.2 e k⟩
theorem EndS.app : ∀ {l m : List Co}, EndS m -> EndS (l ++ m)
 | [], m, h => h
 | [c], m, h => by
  cases m with
  | nil => exact h.elim
  | cons d m => exact h
 | c :: d :: l, m, h => EndS.app (l := d :: l) h
theorem jrs {l : List UInt8} (h : l ≠ []) : bs l ≠ ⟨#[]⟩ := by
 rw [jwW, jb3]; exact h
theorem jdL {c : Co} {l : List Co} (h : c.text ≠ []) : glR (c :: l) ≠ ⟨#[]⟩ := jf6 (jrs h)
theorem jc2 {c : Co} {l : List Co} (h : c.text ≠ []) : jaq (glR (c :: l)) = jaq (bs c.text) := by
 show jaq (ja1 _ _) = _
 rw [jaK, jgT]; exact jhz _ (jrs h)
theorem jjh {c : Co} (h : LexT c) (p : Nat) (rest : List UInt8) (hr : ∀ y r, rest = y :: r -> okN c.text y) : ji4 p (c.text ++ rest) = Lx.cons ⟨c.kind, p, bs c.text, c.n⟩ (ji4 (p + c.text.length) rest) := by
 obtain ⟨h1, h2, h3⟩ := h
 have h3 := h3 rest hr
 cases hc : c.text with
 | nil => exact absurd hc h1
 | cons y r =>
  obtain ⟨g1, g2⟩ := h2 y r hc
  rw [hc] at h3
  have e := jjb (p := p) g1 g2 (r := r ++ rest) h3
  rw [show y :: r ++ rest = y :: (r ++ rest) from rfl, e]
  congr 2
  ·congr 1
   rw [show y :: (r ++ rest) = (y :: r) ++ rest from rfl, List.take_left'];rfl
  ·rw [show y :: (r ++ rest) = (y :: r) ++ rest from rfl, List.drop_left'];rfl
theorem jqt : ∀ (l : List Co) (b : Bool) (p : Nat), (∀ c ∈ l, LexT c) -> Fine b l -> ∃ ts, ji4 p (glR l).data.toList = ⟨ts, none⟩ /\ ts.map jn4 = l
 | [], b, p, _, _ => ⟨[], rfl, rfl⟩
 | c :: l, b, p, hl, hf => by
  have hc := hl c List.mem_cons_self
  have step : ∀ q, ∃ ts, ji4 q (glR l).data.toList = ⟨ts, none⟩ /\ ts.map jn4 = l := fun q => jqt l _ q (fun d hd => hl d (List.mem_cons_of_mem _ hd)) hf.2
  have e : (glR (c :: l)).data.toList = c.text ++ ((jcs (bs c.text) (glR l)).data.toList ++ (glR l).data.toList) := by
   show (ja1 _ _).data.toList = _
   rw [jaK, jgp, jgp, jb3, List.append_assoc]
  have hg : jcs (bs c.text) (glR l) = ⟨#[]⟩ ∨ (jcs (bs c.text) (glR l) = ⟨#[32]⟩) := by
   unfold jcs; split; exact .inl rfl; exact .inr rfl
  have fin : ∀ ts : List Tk, ts.map jn4 = l -> (⟨c.kind, p, bs c.text, c.n⟩ :: ts : List Tk).map jn4 = c :: l := fun ts h => by
   rw [List.map_cons, h];rfl
  rcases hg with hg | hg
  ·obtain ⟨ts, h1, h2⟩ := step (p + c.text.length)
   refine ⟨⟨c.kind, p, bs c.text, c.n⟩ :: ts, ?_, fin ts h2⟩;rw [e, hg];rw [show ((⟨#[]⟩ : ByteArray).data.toList ++ (glR l).data.toList) = (glR l).data.toList from rfl];rw [jjh hc p _ fun y r hy => ?_, h1]
   ·rfl
   ·cases l with
    | nil => cases hy
    | cons d l =>
     have hd := (hl d (by simp)).ne
     have hfy : jaq (glR (d :: l)) = y := by unfold jaq; rw [hy]; rfl
     rw [jc2 hd] at hfy;refine ⟨fun hx => ?_, fun hx => ?_⟩
     ·unfold jcs at hg
      split at hg
      ·rename_i hh
       rcases hh with hh | hh | hh | hh
       ·exact absurd hh (jrs hc.ne)
       ·exact absurd hh (jdL hd)
       ·rw [hx] at hh; cases hh
       ·rw [jc2 hd, hfy] at hh; exact hh
      ·exact absurd hg (by decide)
     ·rw [<- hfy]; exact hf.2.1 hx
  ·obtain ⟨ts, h1, h2⟩ := step (p + c.text.length + 1)
   refine ⟨⟨c.kind, p, bs c.text, c.n⟩ :: ts, ?_, fin ts h2⟩;rw [e, hg];rw [show ((⟨#[32]⟩ : ByteArray).data.toList ++ (glR l).data.toList) = 32 :: (glR l).data.toList from rfl];rw [jjh hc p _ fun y r hy => ?_, jmZ (by decide) (by decide), h1]
   ·rfl
   ·cases hy
    exact ⟨fun _ => by decide, fun _ => by decide⟩
theorem jjJ : ∀ (l m : List Co), (∀ c ∈ l, c.text ≠ []) -> (∀ c ∈ m, c.text ≠ []) -> glR (l ++ m) = ja1 (glR l) (glR m)
 | [], m, _, _ => by show glR m = ja1 ⟨#[]⟩ _; unfold ja1; rw [if_pos rfl, juu]
 | [c], m, _, _ => by
  show ja1 (bs c.text) (glR m) = ja1 (ja1 (bs c.text) ⟨#[]⟩) (glR m)
  rw [show ja1 (bs c.text) ⟨#[]⟩ = bs c.text by rw [jaK]; unfold jcs; rw [if_pos (.inr (.inl rfl)), jeC, jeC]]
 | c :: d :: l, m, h, k => by
  show ja1 (bs c.text) (glR (d :: l ++ m)) = ja1 (ja1 (bs c.text) (glR (d :: l))) (glR m)
  rw [jjJ (d :: l) m (fun x hx => h x (List.mem_cons_of_mem _ hx)) k, jaH _ _ _ (jdL (h d (by simp)))]
theorem jdY {q : UInt8 -> Bool} : ∀ (r rest : List UInt8), (∀ c ∈ r, q c = true) -> (∀ y t, rest = y :: t -> q y = false) -> jaf q (r ++ rest) = r.length
 | [], [], _, _ => rfl
 | [], y :: t, _, h => by
  show jaf q (y :: t) = 0
  unfold jaf; rw [h y t rfl]
 | c :: r, rest, h, k => by
  show jaf q (c :: (r ++ rest)) = _
  unfold jaf;rw [h c List.mem_cons_self]
  show jaf q (r ++ rest) + 1 = _
  rw [jdY r rest (fun x hx => h x (List.mem_cons_of_mem _ hx)) k]; rfl
theorem jli {l : List UInt8} (h : l ≠ []) : jby (bs l) ∈ l := by
 unfold jby;rw [jb3, jbB]
 have hl : l.length - 1 < l.length := by have := List.length_pos_iff.2 h; omega
 rw [List.getD_eq_getElem?_getD, List.getElem?_eq_getElem hl];exact List.getElem_mem hl
theorem jlZ {y : UInt8} (h : jbu y = true) : jcf y = false /\ jpz y = false := by
 have : ∀ c : Fin 256, jbu (UInt8.ofNat c.val) = true -> jcf (UInt8.ofNat c.val) = false /\ jpz (UInt8.ofNat c.val) = false := by decide +kernel
 have h2 := this ⟨y.toNat, y.toNat_lt⟩
 simp only [UInt8.ofNat_toNat] at h2;exact h2 h
theorem jrA (c : UInt8) (r : List UInt8) (h1 : isL c = true) (h2 : ∀ x ∈ c :: r, jbu x = true) (h3 : r.length + 1 <= 10) : LexT ⟨1, c :: r, 0⟩ where
 ne := by simp
 st := fun y t e => by cases e; exact jlZ (h2 _ List.mem_cons_self)
 go := fun rest hr => by
  show jbh (c :: (r ++ rest)) = .tok 1 (r.length + 1) 0
  rw [jbh]
  have hs : jaf jbu (r ++ rest) = r.length := jdY r rest (fun x hx => h2 x (List.mem_cons_of_mem _ hx)) fun y t e => (hr y t e).1 (h2 _ (jli (by simp)))
  rw [h1]
  simp only
  rw [hs, if_neg (by omega)]
theorem jsd {c : UInt8} (h : isD c = true) : jbu c = true /\ isL c = false := by
 refine ⟨by unfold jbu; rw [h, Bool.or_true], ?_⟩
 have := jni h
 unfold isL;rw [decide_eq_false (by omega)]; rfl
theorem jsw (c : UInt8) (r : List UInt8) (h : ∀ x ∈ c :: r, isD x = true) (hv : jcL 0 (c :: r) <= 2147483647) : LexT ⟨2, c :: r, jcL 0 (c :: r)⟩ where
 ne := by simp
 st := fun y t e => by cases e; exact jlZ (jsd (h _ List.mem_cons_self)).1
 go := fun rest hr => by
  show jbh (c :: (r ++ rest)) = .tok 2 (r.length + 1) _
  rw [jbh]
  have hs : jaf isD (r ++ rest) = r.length := jdY r rest (fun x hx => h x (List.mem_cons_of_mem _ hx)) fun y t e => by
   have := (hr y t e).1 (jsd (h _ (jli (by simp)))).1
   unfold jbu at this;simp only [Bool.or_eq_false_iff] at this;exact this.2
  have hc := jsd (h c List.mem_cons_self)
  have hvf := jhb (c :: r) 0 (by omega) (by omega) h
  rw [if_neg (by omega)] at hvf
  have hge := jhp (c :: r) 0 (by omega) h
  rw [hc.2, h c List.mem_cons_self]
  simp only
  rw [hs, List.take_left', hvf, if_neg (by omega)];rfl
theorem jt0 {c y : UInt8} (h : jcF jia (bs [c, y]) = true) : y = 61 ∨ (c = 124 /\ y = 124) ∨ (c = 38 /\ y = 38) := by
 unfold jcF jia at h;simp only [List.any_cons, List.any_nil, Bool.or_eq_true, decide_eq_true_eq, Bool.or_false] at h
 rcases h with h | h | h | h | h | h <;> (have := jxu h; simp at this; simp [<- this.1, <- this.2])
def jtG : List UInt8 := [40, 41, 33, 60, 62, 45, 43, 42, 47, 44, 59, 123, 125, 61]
theorem jjP : ∀ c ∈ jtG, jcf c = false /\ jpz c = false /\ isL c = false /\ isD c = false /\ jcF jpH (bs [c]) = true /\ jcF jia (bs [c]) = false := by decide
theorem jqd (c : UInt8) (hc : c ∈ jtG) : LexT ⟨3, [c], 0⟩ where
 ne := by simp
 st := fun y t e => by cases e; exact ⟨(jjP c hc).1, (jjP c hc).2.1⟩
 go := fun rest hr => by
  show jbh (c :: rest) = .tok 3 1 0
  obtain ⟨_, _, h1, h2, h3, h4⟩ := jjP c hc
  have h5 : jcF jia (bs ((c :: rest).take 2)) = false := by
   cases rest with
   | nil => exact h4
   | cons y t =>
    show jcF jia (bs [c, y]) = false
    cases hq : jcF jia (bs [c, y]) with
    | false => rfl
    | true =>
     have hy := (hr y t rfl).2
     rcases jt0 hq with h | ⟨h, -⟩ | ⟨h, -⟩
     ·subst h
      exfalso
      refine hy ?_ rfl
      have hall : ∀ c ∈ jtG, jcF jia (bs [c, 61]) = true -> jf5 [c] = false := by decide
      exact hall c hc hq
     ·subst h; exact absurd hc (by decide)
     ·subst h; exact absurd hc (by decide)
  rw [jbh];rw [h1, h2, h5, h3]
def jwe : List (UInt8 × UInt8) := [(124, 124), (38, 38), (61, 61), (60, 61), (62, 61), (33, 61)]
theorem jjV : ∀ q ∈ jwe, jcf q.1 = false /\ jpz q.1 = false /\ isL q.1 = false /\ isD q.1 = false /\ jcF jia (bs [q.1, q.2]) = true := by decide
theorem jsk (c d : UInt8) (hc : (c, d) ∈ jwe) : LexT ⟨3, [c, d], 0⟩ where
 ne := by simp
 st := fun y t e => by cases e; exact ⟨(jjV _ hc).1, (jjV _ hc).2.1⟩
 go := fun rest hr => by
  show jbh (c :: d :: rest) = .tok 3 2 0
  obtain ⟨_, _, h1, h2, h3⟩ := jjV _ hc
  rw [jbh];rw [h1, h2]
  simp only
  rw [show (c :: d :: rest).take 2 = [c, d] from rfl, h3]
section
def jac (s : ByteArray) : Co := ⟨3, s.data.toList, 0⟩
def jai (s : ByteArray) : Co := ⟨1, s.data.toList, 0⟩
def jge (n : Nat) : Co := ⟨2, jb1 n, n⟩
theorem jb2 (s : ByteArray) : bs s.data.toList = s := jfS (jb3 _)
theorem jrp (c : Co) : glR [c] = bs c.text := by
 show ja1 (bs c.text) ⟨#[]⟩ = _
 exact jhe _
theorem LexT.num (n : Nat) (hn : n <= 2147483647) : LexT (jge n) := by
 have h1 := jnJ n
 have h2 := jt9 n
 have h3 := jwr n
 unfold jge;generalize jb1 n = l at *
 cases l with
 | nil => exact absurd rfl h3
 | cons c r =>
  have := jsw c r h1 (by rw [h2]; omega)
  rw [h2] at this;exact this
structure TN (b : ByteArray) (l : List Co) : Prop where
 eq : b = glR l
 lx : ∀ c ∈ l, LexT c
 fi : Fine false l
 en : EndS l
theorem TN.one {c : Co} (h : LexT c) (hs : jf5 c.text = true) (hf : jaq (bs c.text) ≠ 61) : TN (bs c.text) [c] where
 eq := (jrp c).symm
 lx := fun x hx => by rw [List.mem_singleton.1 hx]; exact h
 fi := ⟨fun _ => hf, trivial⟩
 en := hs
theorem TN.cat {b1 b2 : ByteArray} {l1 l2 : List Co} (h1 : TN b1 l1) (h2 : TN b2 l2) : TN (ja1 b1 b2) (l1 ++ l2) where
 eq := by rw [h1.eq, h2.eq, jjJ _ _ (fun c hc => (h1.lx c hc).ne) (fun c hc => (h2.lx c hc).ne)]
 lx := fun x hx => by
  rcases List.mem_append.1 hx with hx | hx
  ·exact h1.lx x hx
  ·exact h2.lx x hx
 fi := h1.fi.app h2.fi
 en := h2.en.app
theorem TN.pre {b : ByteArray} {l : List Co} {o : Co} (ho : LexT o) (hf : jaq (bs o.text) ≠ 61) (h : TN b l) : TN (ja1 (bs o.text) b) (o :: l) where
 eq := by rw [h.eq]; rfl
 lx := fun x hx => by
  rcases List.mem_cons.1 hx with rfl | hx
  ·exact ho
  ·exact h.lx x hx
 fi := ⟨fun _ => hf, h.fi.more⟩
 en := EndS.app (l := [o]) h.en
theorem TN.mid {b1 b2 : ByteArray} {l1 l2 : List Co} {o : Co} (h1 : TN b1 l1) (ho : LexT o) (h2 : TN b2 l2) : TN (ja1 (ja1 b1 (bs o.text)) b2) (l1 ++ o :: l2) where
 eq := by
  rw [h1.eq, h2.eq, jaH _ _ _ (jrs ho.ne), jjJ _ _ (fun c hc => (h1.lx c hc).ne) (fun c hc => by
   rcases List.mem_cons.1 hc with rfl | hc
   ·exact ho.ne
   ·exact (h2.lx c hc).ne)]
  rfl
 lx := fun x hx => by
  rcases List.mem_append.1 hx with hx | hx
  ·exact h1.lx x hx
  ·rcases List.mem_cons.1 hx with rfl | hx
   ·exact ho
   ·exact h2.lx x hx
 fi := h1.fi.app2 h1.en ⟨(fun h => by cases h), h2.fi.more⟩
 en := EndS.app (EndS.app (l := [o]) h2.en)
theorem TN.ne {b : ByteArray} {l : List Co} (h : TN b l) : b ≠ ⟨#[]⟩ := by
 have he := h.en
 rw [h.eq]
 cases l with
 | nil => exact he.elim
 | cons c l => exact jdL (h.lx c List.mem_cons_self).ne
theorem jmf (s : ByteArray) (c : UInt8) (hs : s.data.toList = [c]) (hc : c ∈ jtG) : LexT (jac s) := by
 unfold jac; rw [hs]; exact jqd c hc
theorem jpr (s : ByteArray) (c d : UInt8) (hs : s.data.toList = [c, d]) (hc : (c, d) ∈ jwe) : LexT (jac s) := by
 unfold jac; rw [hs]; exact jsk c d hc
def jxN : List UInt8 -> Bool
 | [] => false
 | c :: r => isL c && (c :: r).all jbu && decide (r.length + 1 <= 10)
theorem jfJ (s : ByteArray) (h : jxN s.data.toList = true) : LexT (jai s) := by
 unfold jai;generalize s.data.toList = l at *
 cases l with
 | nil => cases h
 | cons c r =>
  unfold jxN at h;simp only [Bool.and_eq_true, decide_eq_true_eq] at h;exact jrA c r h.1.1 (fun x hx => List.all_eq_true.1 h.1.2 x hx) h.2
def jd5 (p lv : Int) (fu : Bool) (l : List Co) : List Co := if p < lv then jac pLp :: l ++ [jac pRp] else if fu = true then (if p < 8 then jac pLp :: l ++ [jac pRp] else l) else l
theorem jxp : LexT (jac pLp) := jmf pLp 40 rfl (by decide)
theorem jxV : LexT (jac pRp) := jmf pRp 41 rfl (by decide)
theorem TN.par {b : ByteArray} {l : List Co} (h : TN b l) (p lv : Int) (fu : Bool) : TN (jeD p lv fu b) (jd5 p lv fu l) := by
 have h1 := (h.pre jxp (by decide)).cat (TN.one jxV (by decide) (by decide))
 have e : pLp ++ b ++ pRp = ja1 (ja1 (bs (jac pLp).text) b) (bs (jac pRp).text) := by
  rw [show bs (jac pLp).text = pLp from rfl, show bs (jac pRp).text = pRp from rfl, jed pLp b (by decide), jbD _ pRp (by decide)]
 rw [<- e] at h1;unfold jd5 jeD
 by_cases hp : p < lv
 ·rw [if_pos hp, if_pos hp]; exact h1
 ·rw [if_neg hp, if_neg hp]
  cases fu with
  | false => exact h
  | true =>
   rw [if_pos rfl, if_pos rfl]
   by_cases hp8 : p < 8
   ·rw [if_pos hp8, if_pos hp8]; exact h1
   ·rw [if_neg hp8, if_neg hp8]; exact h
def noT : Int -> List Co := fun _ => []
def jAn (k n : Int) (s : ByteArray) (g : List (Int -> List Co)) : List Co :=
 if k = 12 then [jge n.toNat]
 else if k = 13 then [jai (tfB n)]
 else if k = 16 then jai wDraw :: jac pLp :: (g.getD 0 noT) 1 ++ [jac pRp]
 else if k = 17 then jac s :: (g.getD 0 noT) (jab k s)
 else if k = 18 then (g.getD 0 noT) (if jab k s = 4 then 5 else jab k s) ++ jac s :: (g.getD 1 noT) (jab k s + 1)
 else [jai s]
mutual
def tkN (fu : Bool) : Nt -> Int -> List Co
 | .mk k n s kids, req => jd5 (jab k s) req fu (jAn k n s (jB0 fu kids))
def jB0 (fu : Bool) : List Nt -> List (Int -> List Co)
 | [] => []
 | f :: l => tkN fu f :: jB0 fu l
end
variable {fu : Bool}
def TE (fu : Bool) (f : Nt) : Prop := ∀ lv, TN (shN fu f lv) (tkN fu f lv)
theorem juU (n : Nat) (hn : n <= 2147483647) : TE fu (.mk 12 n eB []) := fun lv => by
 have h := TN.one (LexT.num n hn) (by
  have h1 := jnJ n
  show jf5 (jb1 n) = true
  unfold jf5;rw [decide_eq_false (fun e => by rw [e] at h1; exact absurd (h1 60 (by simp)) (by decide)), decide_eq_false (fun e => by rw [e] at h1; exact absurd (h1 62 (by simp)) (by decide)), decide_eq_false (fun e => by rw [e] at h1; exact absurd (h1 61 (by simp)) (by decide)), decide_eq_false (fun e => by rw [e] at h1; exact absurd (h1 33 (by simp)) (by decide))]
  rfl) (by
  have h2 := jg4 n
  show jaq (bs (jb1 n)) ≠ 61
  intro e;rw [e] at h2
  exact absurd h2 (by decide))
 exact h.par 8 lv fu
theorem jux (k : Int) (hk : k = 14 ∨ k = 15) (s : ByteArray) (hw : LexT (jai s)) (h1 : jf5 s.data.toList = true) (h2 : jaq s ≠ 61) : TE fu (.mk k 0 s []) := fun lv => by
 have h := TN.one hw h1 (by rw [show (jai s).text = s.data.toList from rfl, jb2]; exact h2)
 rw [show (jai s).text = s.data.toList from rfl, jb2] at h
 rcases hk with rfl | rfl
 ·exact h.par 8 lv fu
 ·exact h.par 8 lv fu
theorem jvW (n : Nat) (hn : n < 2) : TE fu (.mk 13 n eB []) := fun lv => by
 have hw : LexT (jai (tfB n)) /\ jf5 (tfB n).data.toList = true /\ jaq (tfB n) ≠ 61 := by
  rcases (by omega : n = 0 ∨ n = 1) with rfl | rfl
  ·exact ⟨jfJ _ (by decide), by decide, by decide⟩
  ·exact ⟨jfJ _ (by decide), by decide, by decide⟩
 have h := TN.one hw.1 hw.2.1 (by rw [show (jai (tfB n)).text = (tfB n).data.toList from rfl, jb2]; exact hw.2.2)
 rw [show (jai (tfB n)).text = (tfB n).data.toList from rfl, jb2] at h;exact h.par 8 lv fu
theorem jyX (f : Nt) (hf : TE fu f) : TE fu (.mk 16 0 eB [f]) := fun lv => by
 have hd : LexT (jai wDraw) := jfJ _ (by decide)
 have h := (((hf 1).pre jxp (by decide)).pre hd (by decide)).cat (TN.one jxV (by decide) (by decide))
 have e : shN fu (.mk 16 0 eB [f]) lv = jeD 8 lv fu (jb5 [wDraw, pLp, shN fu f 1, pRp]) := rfl
 have e2 : jb5 [wDraw, pLp, shN fu f 1, pRp] = ja1 (ja1 (bs (jai wDraw).text) (ja1 (bs (jac pLp).text) (shN fu f 1))) (bs (jac pRp).text) := by
  show ja1 (ja1 (ja1 (ja1 eB wDraw) pLp) (shN fu f 1)) pRp = _
  rw [jbp, jaH wDraw pLp _ (by decide)];rfl
 rw [e, e2];exact h.par 8 lv fu
theorem juB (s : ByteArray) (hs : LexT (jac s)) (h2 : jaq s ≠ 61) (f : Nt) (hf : TE fu f) : TE fu (.mk 17 0 s [f]) := fun lv => by
 have h := (hf (jab 17 s)).pre hs (by rw [show (jac s).text = s.data.toList from rfl, jb2]; exact h2)
 rw [show (jac s).text = s.data.toList from rfl, jb2] at h
 have e : shN fu (.mk 17 0 s [f]) lv = jeD (jab 17 s) lv fu (jb5 [s, shN fu f (jab 17 s)]) := rfl
 have e2 : jb5 [s, shN fu f (jab 17 s)] = ja1 s (shN fu f (jab 17 s)) := by
  show ja1 (ja1 eB s) _ = _
  rw [jbp]
 rw [e, e2];exact h.par (jab 17 s) lv fu
theorem jqk (s : ByteArray) (hs : LexT (jac s)) (f g : Nt) (hf : TE fu f) (hg : TE fu g) : TE fu (.mk 18 0 s [f, g]) := fun lv => by
 have h := (hf (if jab 18 s = 4 then 5 else jab 18 s)).mid hs (hg (jab 18 s + 1))
 rw [show (jac s).text = s.data.toList from rfl, jb2] at h
 have e : shN fu (.mk 18 0 s [f, g]) lv = jeD (jab 18 s) lv fu (jb5 [shN fu f (if jab 18 s = 4 then 5 else jab 18 s), s, shN fu g (jab 18 s + 1)]) := rfl
 have e2 : jb5 [shN fu f (if jab 18 s = 4 then 5 else jab 18 s), s, shN fu g (jab 18 s + 1)] = ja1 (ja1 (shN fu f (if jab 18 s = 4 then 5 else jab 18 s)) s) (shN fu g (jab 18 s + 1)) := by
  show ja1 (ja1 (ja1 eB _) s) _ = _
  rw [jbp]
 rw [e, e2];exact h.par (jab 18 s) lv fu
theorem jw5 : ∀ s ∈ opL, LexT (jac s) := fun s hs => by
 unfold opL at hs;simp only [List.mem_cons, List.not_mem_nil, or_false] at hs
 rcases hs with rfl | rfl | rfl | rfl
 ·exact jmf _ 43 rfl (by decide)
 ·exact jmf _ 45 rfl (by decide)
 ·exact jmf _ 42 rfl (by decide)
 ·exact jmf _ 47 rfl (by decide)
theorem jtA : ∀ s ∈ bolL, LexT (jac s) := fun s hs => by
 unfold bolL at hs;simp only [List.mem_cons, List.not_mem_nil, or_false] at hs
 rcases hs with rfl | rfl
 ·exact jpr _ 38 38 rfl (by decide)
 ·exact jpr _ 124 124 rfl (by decide)
theorem jsW : ∀ s ∈ cmpL, LexT (jac s) := fun s hs => by
 unfold cmpL at hs;simp only [List.mem_cons, List.not_mem_nil, or_false] at hs
 rcases hs with rfl | rfl | rfl | rfl | rfl | rfl
 ·exact jmf _ 60 rfl (by decide)
 ·exact jpr _ 60 61 rfl (by decide)
 ·exact jmf _ 62 rfl (by decide)
 ·exact jpr _ 62 61 rfl (by decide)
 ·exact jpr _ 61 61 rfl (by decide)
 ·exact jpr _ 33 61 rfl (by decide)
theorem juY : ∀ s ∈ varL, LexT (jai s) /\ jf5 s.data.toList = true /\ jaq s ≠ 61 := fun s hs => by
 unfold varL at hs;simp only [List.mem_cons, List.not_mem_nil, or_false] at hs
 rcases hs with rfl | rfl | rfl | rfl <;> exact ⟨jfJ _ (by decide), by decide, by decide⟩
theorem jtP : ∀ s ∈ builtL, LexT (jai s) /\ jf5 s.data.toList = true /\ jaq s ≠ 61 := fun s hs => by
 unfold builtL at hs;simp only [List.mem_cons, List.not_mem_nil, or_false] at hs
 rcases hs with rfl | rfl | rfl | rfl | rfl | rfl | rfl | rfl | rfl <;> exact ⟨jfJ _ (by decide), by decide, by decide⟩
theorem juS : ∀ n ∈ litL, ∃ m : Nat, n = m /\ m <= 2147483647 := fun n hn => by
 have h : ∀ n ∈ litL, 0 <= n /\ n <= 2147483647 := by decide
 have := h n hn
 exact ⟨n.toNat, by omega, by omega⟩
theorem jjG {d : Nat} {f : Nt} (h : EI d f) : TE fu f := by
 induction h with
 | lit d n h => obtain ⟨m, rfl, hm⟩ := juS n h; exact juU m hm
 | var d s h => obtain ⟨a, b, c⟩ := juY s h; exact jux 14 (.inl rfl) s a b c
 | nam d s h => obtain ⟨a, b, c⟩ := jtP s h; exact jux 15 (.inr rfl) s a b c
 | drw d f h ih => exact jyX f ih
 | neg d f h ih => exact juB pMinus (jmf _ 45 rfl (by decide)) (by decide) f ih
 | bin d s f g hs h1 h2 i1 i2 => exact jqk s (jw5 s hs) f g i1 i2
theorem jyj {d : Nat} {f : Nt} (h : EB d f) : TE fu f := by
 induction h with
 | lit d n h => exact jvW n h
 | nt d f h ih => exact juB pNot (jmf _ 33 rfl (by decide)) (by decide) f ih
 | bin d s f g hs h1 h2 i1 i2 => exact jqk s (jtA s hs) f g i1 i2
 | cmp d s f g hs h1 h2 => exact jqk s (jsW s hs) f g (jjG h1) (jjG h2)
end
section
variable {fu : Bool}
def cmT : List (List Co) -> List Co
 | [] => []
 | x :: l => x ++ l.flatMap fun y => jac pComma :: y
theorem jtq (x : List Co) (l : List (List Co)) (y : List Co) : cmT (x :: l ++ [y]) = cmT (x :: l) ++ jac pComma :: y := by
 unfold cmT
 show x ++ (l ++ [y]).flatMap _ = _
 rw [List.flatMap_append, List.flatMap_cons, List.flatMap_nil, List.append_nil, List.append_assoc]
theorem jqy : LexT (jac pComma) := jmf pComma 44 rfl (by decide)
theorem jze : LexT (jac pSemi) := jmf pSemi 59 rfl (by decide)
theorem jAF : LexT (jac pEq) := jmf pEq 61 rfl (by decide)
theorem jAt : LexT (jac pLb) := jmf pLb 123 rfl (by decide)
theorem jzP : LexT (jac pRb) := jmf pRb 125 rfl (by decide)
theorem jxh : ∀ (n : Nat) (l : List Nt), l.length = n + 1 -> (∀ f ∈ l, TE fu f) -> TN (cmF (l.map fun f => shN fu f 1)) (cmT (l.map fun f => tkN fu f 1))
 | 0, l, hl, h => by
  obtain ⟨f, rfl⟩ := List.length_eq_one_iff.1 hl
  have h1 := h f List.mem_cons_self 1
  show TN (ja1 eB (shN fu f 1)) (tkN fu f 1 ++ [])
  rw [jbp, List.append_nil];exact h1
 | n + 1, l, hl, h => by
  have hne : l ≠ [] := fun e => by rw [e] at hl; cases hl
  have e := List.dropLast_concat_getLast hne
  have hy := h _ (List.getLast_mem hne) 1
  have ih := jxh n l.dropLast (by rw [List.length_dropLast]; omega) fun f hf => h f (List.dropLast_subset l hf)
  generalize l.getLast hne = y at *
  have hd : l.dropLast ≠ [] := fun e0 => by rw [e0] at e; rw [<- e] at hl; simp at hl
  generalize l.dropLast = m at *;subst e
  cases m with
  | nil => exact absurd rfl hd
  | cons x m =>
   rw [List.map_append, List.map_append]
   show TN (cmF ((shN fu x 1 :: m.map fun f => shN fu f 1) ++ [shN fu y 1])) (cmT ((tkN fu x 1 :: m.map fun f => tkN fu f 1) ++ [tkN fu y 1]))
   rw [jfc, jtq]
   have h1 := ih.mid jqy hy
   have e1 : bs (jac pComma).text = pComma := rfl
   rw [e1, jbD _ pComma (by decide)] at h1;exact h1
def lsT (fu : Bool) (l : List Nt) : List Co := cmT (l.map fun f => tkN fu f 1) ++ [jac pSemi]
theorem jve (l : List Nt) (hl : l ≠ []) (h : ∀ f ∈ l, TE fu f) : TN (jb0 fu l) (lsT fu l) := by
 have h1 := jxh (l.length - 1) l (by have := List.length_pos_iff.2 hl; omega) h
 have h2 := h1.cat (TN.one jze (by decide) (by decide))
 rw [show bs (jac pSemi).text = pSemi from rfl, jbD _ pSemi (by decide)] at h2;exact h2
def jBd (fu : Bool) (k n : Int) (s : ByteArray) (kids : List Nt) (bks : List (List Co)) : List Co :=
 if k = 1 then jai s :: jac pEq :: lsT fu kids
 else if k = 3 then jai wWhile :: tkN fu (kid kids 0) 1 ++ bks.getD 1 []
 else if k = 4 then jai wSend :: tkN fu (kid kids 0) 1 ++ jac pComma :: jge n.toNat :: jac pComma :: lsT fu (kids.drop 1)
 else if k = 5 then [jai wTimer, jge n.toNat, jac pSemi]
 else if k = 6 then [jai wCancel, jge n.toNat, jac pSemi]
 else if k = 7 then [jai wSync, jac pSemi]
 else if k = 10 then [jai wStop, jac pSemi]
 else if k = 8 then jai wReply :: lsT fu kids
 else if k = 9 then jai wFail :: lsT fu kids
 else if 0 < (kid kids 2).kids.length then jai wIf :: tkN fu (kid kids 0) 1 ++ bks.getD 1 [] ++ jai wElse :: bks.getD 2 [] else jai wIf :: tkN fu (kid kids 0) 1 ++ bks.getD 1 []
mutual
def tkS (fu : Bool) : Nt -> List Co
 | .mk k n s kids => jBd fu k n s kids (jB7 fu kids)
def tkB (fu : Bool) : Nt -> List Co
 | .mk _ _ _ kids => jac pLb :: (jx6 fu kids).flatten ++ [jac pRb]
def jx6 (fu : Bool) : List Nt -> List (List Co)
 | [] => []
 | f :: l => tkS fu f :: jx6 fu l
def jB7 (fu : Bool) : List Nt -> List (List Co)
 | [] => []
 | f :: l => tkB fu f :: jB7 fu l
end
theorem jgS : ∀ l : List Nt, jx6 fu l = l.map (tkS fu)
 | [] => rfl
 | f :: l => by rw [jx6, jgS l]; rfl
def TS (fu : Bool) (f : Nt) : Prop := TN (stP fu f) (tkS fu f)
def TB (fu : Bool) (f : Nt) : Prop := TN (bkP fu f) (tkB fu f)
theorem jnk (l : List Nt) (h : ∀ f ∈ l, TS fu f) : TB fu (jbc l) := by
 have key : ∀ (m : List Nt) (b : ByteArray) (t : List Co), TN b t -> (∀ f ∈ m, TS fu f) -> TN ((m.map (stP fu)).foldl ja1 b) (t ++ (m.map (tkS fu)).flatten) := fun m => by
  induction m with
  | nil => intro b t h _; rw [List.map_nil, List.map_nil, List.flatten_nil, List.append_nil]; exact h
  | cons f m ih =>
   intro b t h1 h2
   have h3 := ih (ja1 b (stP fu f)) (t ++ tkS fu f) (h1.cat (h2 f List.mem_cons_self)) fun g hg => h2 g (List.mem_cons_of_mem _ hg)
   rw [List.map_cons, List.map_cons, List.flatten_cons, <- List.append_assoc];exact h3
 have h1 := key l pLb [jac pLb] (TN.one jAt (by decide) (by decide)) h
 have h2 := h1.cat (TN.one jzP (by decide) (by decide))
 unfold TB
 have e : bkP fu (jbc l) = bkL fu l ++ pRb := jsh _ _ _ _ _
 have e2 : tkB fu (jbc l) = jac pLb :: (l.map (tkS fu)).flatten ++ [jac pRb] := by
  unfold jbc;rw [tkB, jgS]
 rw [e, e2];rw [show bs (jac pRb).text = pRb from rfl, jbD _ pRb (by decide)] at h2;exact h2
theorem jz8 (s : ByteArray) (hw : LexT (jai s) /\ jf5 s.data.toList = true /\ jaq s ≠ 61) (l : List Nt) (hl : l ≠ []) (h : ∀ f ∈ l, TE fu f) : TS fu (.mk 1 0 s l) := by
 have h0 := TN.one hw.1 hw.2.1 (by rw [show (jai s).text = s.data.toList from rfl, jb2]; exact hw.2.2)
 rw [show (jai s).text = s.data.toList from rfl, jb2] at h0
 have h1 := h0.mid jAF (jve l hl h)
 have e : stP fu (.mk 1 0 s l) = ja1 (ja1 s pEq) (jb0 fu l) := by
  show ja1 (ja1 (ja1 eB s) pEq) (jb0 fu l) = _
  rw [jbp]
 show TN (stP fu (.mk 1 0 s l)) _
 rw [e];exact h1
theorem jv3 (w : ByteArray) (hw : LexT (jai w)) (hf : jaq w ≠ 61) (l : List Nt) (hl : l ≠ []) (h : ∀ f ∈ l, TE fu f) : TN (jb5 [w, jb0 fu l]) (jai w :: lsT fu l) := by
 have h1 := (jve l hl h).pre hw (by rw [show (jai w).text = w.data.toList from rfl, jb2]; exact hf)
 rw [show (jai w).text = w.data.toList from rfl, jb2] at h1
 show TN (ja1 (ja1 eB w) (jb0 fu l)) _
 rw [jbp];exact h1
theorem jyB (l : List Nt) (hl : l ≠ []) (h : ∀ f ∈ l, TE fu f) : TS fu (.mk 8 0 eB l) := jv3 wReply (jfJ _ (by decide)) (by decide) l hl h
theorem jz6 (l : List Nt) (hl : l ≠ []) (h : ∀ f ∈ l, TE fu f) : TS fu (.mk 9 0 eB l) := jv3 wFail (jfJ _ (by decide)) (by decide) l hl h
end
section
variable {fu : Bool}
theorem joK (n : Nat) (hn : n <= 2147483647) : TN (bs (jb1 n)) [jge n] := juU (fu := false) n hn 0
theorem TN.wrd {b : ByteArray} {l : List Co} (w : ByteArray) (hw : LexT (jai w)) (hf : jaq w ≠ 61) (h : TN b l) : TN (ja1 w b) (jai w :: l) := by
 have h1 := h.pre hw (by rw [show (jai w).text = w.data.toList from rfl, jb2]; exact hf)
 rw [show (jai w).text = w.data.toList from rfl, jb2] at h1;exact h1
theorem TN.end {b : ByteArray} {l : List Co} (h : TN b l) : TN (ja1 b pSemi) (l ++ [jac pSemi]) := h.cat (TN.one jze (by decide) (by decide))
theorem jdC (w : ByteArray) (hw : LexT (jai w)) (hs : jf5 w.data.toList = true) (hf : jaq w ≠ 61) : TN w [jai w] := by
 have h0 := TN.one hw hs (by rw [show (jai w).text = w.data.toList from rfl, jb2]; exact hf)
 rw [show (jai w).text = w.data.toList from rfl, jb2] at h0;exact h0
theorem jul (k : Int) (hk : k = 5 ∨ k = 6) (n : Nat) (hn : n < 1000) : TS fu (.mk k n eB []) := by
 have hd := joK n (by omega)
 rcases hk with rfl | rfl
 ·have h := (hd.wrd wTimer (jfJ _ (by decide)) (by decide)).end
  have e : stP fu (.mk 5 n eB []) = ja1 (ja1 wTimer (bs (jb1 n))) pSemi := by
   show ja1 (ja1 (ja1 eB wTimer) (bs (jb1 n))) pSemi = _
   rw [jbp]
  show TN (stP fu (.mk 5 n eB [])) _
  rw [e];exact h
 ·have h := (hd.wrd wCancel (jfJ _ (by decide)) (by decide)).end
  have e : stP fu (.mk 6 n eB []) = ja1 (ja1 wCancel (bs (jb1 n))) pSemi := by
   show ja1 (ja1 (ja1 eB wCancel) (bs (jb1 n))) pSemi = _
   rw [jbp]
  show TN (stP fu (.mk 6 n eB [])) _
  rw [e];exact h
theorem juz (k : Int) (hk : k = 7 ∨ k = 10) : TS fu (.mk k 0 eB []) := by
 rcases hk with rfl | rfl
 ·have h := (jdC wSync (jfJ _ (by decide)) (by decide) (by decide)).end
  show TN (stP fu (.mk 7 0 eB [])) _
  rw [show stP fu (.mk 7 0 eB []) = ja1 wSync pSemi by (show syncB = _); decide];exact h
 ·have h := (jdC wStop (jfJ _ (by decide)) (by decide) (by decide)).end
  show TN (stP fu (.mk 10 0 eB [])) _
  rw [show stP fu (.mk 10 0 eB []) = ja1 wStop pSemi by (show stopB = _); decide];exact h
theorem jyV (n : Nat) (hn : n < 1000) (f g h : Nt) (hf : TE fu f) (hg : TE fu g) (hh : TE fu h) : TS fu (.mk 4 n eB [f, g, h]) := by
 have hl := jve [g, h] (by simp) fun x hx => by
  simp only [List.mem_cons, List.not_mem_nil, or_false] at hx
  rcases hx with rfl | rfl
  ·exact hg
  ·exact hh
 have h1 := (((hf 1).wrd wSend (jfJ _ (by decide)) (by decide)).mid jqy (joK n (by omega))).mid jqy hl
 have e : stP fu (.mk 4 n eB [f, g, h]) = ja1 (ja1 (ja1 (ja1 (ja1 wSend (shN fu f 1)) pComma) (bs (jb1 n))) pComma) (jb0 fu [g, h]) := by
  show ja1 (ja1 (ja1 (ja1 (ja1 (ja1 eB wSend) (shN fu f 1)) pComma) (bs (jb1 n))) pComma) (jb0 fu [g, h]) = _
  rw [jbp]
 have e2 : tkS fu (.mk 4 n eB [f, g, h]) = (jai wSend :: tkN fu f 1 ++ jac pComma :: [jge n]) ++ jac pComma :: lsT fu [g, h] := by
  show jai wSend :: tkN fu f 1 ++ jac pComma :: jge n :: jac pComma :: lsT fu [g, h] = _
  simp
 show TN _ _
 rw [e, e2];exact h1
theorem jxT (c b : Nt) (hc : TE fu c) (hb : TB fu b) : TS fu (.mk 3 0 eB [c, b]) := by
 have h1 := ((hc 1).wrd wWhile (jfJ _ (by decide)) (by decide)).cat hb
 have e : stP fu (.mk 3 0 eB [c, b]) = ja1 (ja1 wWhile (shN fu c 1)) (bkP fu b) := by
  show ja1 (ja1 (ja1 eB wWhile) (shN fu c 1)) (bkP fu b) = _
  rw [jbp]
 show TN (stP fu (.mk 3 0 eB [c, b])) _
 rw [e];exact h1
theorem jxq (c b d : Nt) (hc : TE fu c) (hb : TB fu b) (hd : TB fu d) : TS fu (.mk 2 0 eB [c, b, d]) := by
 have h1 := ((hc 1).wrd wIf (jfJ _ (by decide)) (by decide)).cat hb
 have e : stP fu (.mk 2 0 eB [c, b, d]) = if 0 < d.kids.length then jb5 [jb5 [wIf, shN fu c 1, bkP fu b], wElse, bkP fu d] else jb5 [wIf, shN fu c 1, bkP fu b] := rfl
 have e3 : jb5 [wIf, shN fu c 1, bkP fu b] = ja1 (ja1 wIf (shN fu c 1)) (bkP fu b) := by
  show ja1 (ja1 (ja1 eB wIf) (shN fu c 1)) (bkP fu b) = _
  rw [jbp]
 have e2 : tkS fu (.mk 2 0 eB [c, b, d]) = if 0 < d.kids.length then jai wIf :: tkN fu c 1 ++ tkB fu b ++ jai wElse :: tkB fu d else jai wIf :: tkN fu c 1 ++ tkB fu b := rfl
 show TN _ _
 rw [e, e2, e3]
 by_cases hl : 0 < d.kids.length
 ·rw [if_pos hl, if_pos hl]
  have h2 := h1.cat (hd.wrd wElse (jfJ _ (by decide)) (by decide))
  show TN (ja1 (ja1 (ja1 eB (ja1 (ja1 wIf (shN fu c 1)) (bkP fu b))) wElse) (bkP fu d)) _
  rw [jbp, jaH _ _ _ (by decide)];exact h2
 ·rw [if_neg hl, if_neg hl];exact h1
theorem jAC {d : Nat} {f : Nt} (h : ES d f) : TS fu f := by
 induction h with
 | asg d e s f hs h he => exact jz8 s (juY s hs) [f] (by simp) fun x hx => by rw [List.mem_singleton.1 hx]; exact jjG h
 | snd d n f g h hn h1 h2 h3 => exact jyV n (by omega) f g h (jjG h1) (jjG h2) (jjG h3)
 | tim d n hn => exact jul 5 (.inl rfl) n (by omega)
 | can d n hn => exact jul 6 (.inr rfl) n (by omega)
 | syn d => exact juz 7 (.inl rfl)
 | rep d f g h1 h2 =>
  refine jyB [f, g] (by simp) ?_;intro x hx;simp only [List.mem_cons, List.not_mem_nil, or_false] at hx
  rcases hx with rfl | rfl
  ·exact jjG h1
  ·exact jjG h2
 | fai d f h1 => exact jz6 [f] (by simp) fun x hx => by rw [List.mem_singleton.1 hx]; exact jjG h1
 | stp d => exact juz 10 (.inr rfl)
 | whi d c l h1 h2 h3 ih => exact jxT c (jbc l) (jyj h1) (jnk l ih)
 | iff d c l m h1 h2 h3 h4 h5 ih1 ih2 => exact jxq c (jbc l) (jbc m) (jyj h1) (jnk l ih1) (jnk m ih2)
theorem jAl {b : Nt} (h : EK b) : TB fu b := by
 obtain ⟨k, rfl, h1, h2⟩ := h
 exact jnk k fun s hs => jAC (h2 s hs)
def jno (n : Int) : List Co := if n = 1 then [jai wRequest] else if 10 <= n then [jai wMessage, jge (n - 10).toNat] else if 2 <= n then [jai wTimer, jge (n - 2).toNat] else [jai wStart]
theorem jyN (n : Int) (hn : n < 40) : TN (hdW n) (jno n) := by
 unfold hdW jno
 repeat' split
 ·exact jdC _ (jfJ _ (by decide)) (by decide) (by decide)
 ·rw [show wMsgS = wMessage ++ ⟨#[32]⟩ by decide, <- jgW wMessage (by decide) (by decide)];exact (joK _ (by omega)).wrd wMessage (jfJ _ (by decide)) (by decide)
 ·rw [show wTimS = wTimer ++ ⟨#[32]⟩ by decide, <- jgW wTimer (by decide) (by decide)];exact (joK _ (by omega)).wrd wTimer (jfJ _ (by decide)) (by decide)
 ·exact jdC _ (jfJ _ (by decide)) (by decide) (by decide)
def jdt (fu : Bool) (h : Int × Nt) : List Co := jai wOn :: jno h.1 ++ tkB fu h.2
theorem jAe (h : Int × Nt) (hn : h.1 < 40) (hb : TB fu h.2) : TN (hdN fu h) (jdt fu h) := by
 have h1 := ((jyN h.1 hn).wrd wOn (jfJ _ (by decide)) (by decide)).cat hb
 show TN (ja1 (ja1 (ja1 eB wOn) (hdW h.1)) (bkP fu h.2)) _
 rw [jbp];exact h1
def dcTk : List Co := [jai wDurable, jai ⟨#[100]⟩, jac pComma, jai ⟨#[100, 100, 49]⟩, jac pSemi, jai wVolatile, jai ⟨#[118]⟩, jac pComma, jai ⟨#[119, 50]⟩, jac pSemi]
theorem jzO : TN pT2 dcTk := by
 have h1 := ((((jdC ⟨#[100]⟩ (jfJ _ (by decide)) (by decide) (by decide)).mid jqy (jdC ⟨#[100, 100, 49]⟩ (jfJ _ (by decide)) (by decide) (by decide))).wrd wDurable (jfJ _ (by decide)) (by decide)).end)
 have h2 := ((((jdC ⟨#[118]⟩ (jfJ _ (by decide)) (by decide) (by decide)).mid jqy (jdC ⟨#[119, 50]⟩ (jfJ _ (by decide)) (by decide) (by decide))).wrd wVolatile (jfJ _ (by decide)) (by decide)).end)
 have h3 := h1.cat h2
 have e : pT2 = ja1 (ja1 (ja1 wDurable (ja1 (ja1 ⟨#[100]⟩ (bs (jac pComma).text)) ⟨#[100, 100, 49]⟩)) pSemi) (ja1 (ja1 wVolatile (ja1 (ja1 ⟨#[118]⟩ (bs (jac pComma).text)) ⟨#[119, 50]⟩)) pSemi) := by decide
 rw [e];exact h3
def jmc (u : Ut) : List Co := dcTk ++ (u.on.map (jdt false)).flatten
theorem jxy (m : List (Int × Nt)) (b : ByteArray) (t : List Co) (h : TN b t) (hm : ∀ x ∈ m, TN (hdN fu x) (jdt fu x)) : TN (jpe fu b m) (t ++ (m.map (jdt fu)).flatten) := by
 induction m generalizing b t with
 | nil => rw [List.map_nil, List.flatten_nil, List.append_nil]; exact h
 | cons f m ih =>
  have q3 := ih (ja1 b (hdN fu f)) (t ++ jdt fu f) (h.cat (hm f List.mem_cons_self)) fun g hg => hm g (List.mem_cons_of_mem _ hg)
  rw [List.map_cons, List.flatten_cons, <- List.append_assoc];exact q3
theorem GU.hd {u : Ut} (h : GU u) (x : Int × Nt) (hx : x ∈ u.on) : TN (hdN fu x) (jdt fu x) := by
 obtain ⟨h1, h2, h3, h4, h5⟩ := h
 exact jAe x (h3 x hx).2.1 (jAl (h3 x hx).2.2)
theorem jsY {u : Ut} (h : GU u) : TN (prF u) (jmc u) := by
 have h6 := jxy u.on pT2 dcTk jzO fun x hx => h.hd (fu := false) x hx
 unfold prF;rw [h.1, h.2.1];exact h6
def jAx : List Co := [jai wVolatile, jai ⟨#[118]⟩, jac pComma, jai ⟨#[119, 50]⟩, jac pSemi, jai wDurable, jai ⟨#[100]⟩, jac pComma, jai ⟨#[100, 100, 49]⟩, jac pSemi]
def jAS (u : Ut) : List Co := jAx ++ (u.on.reverse.map (jdt true)).flatten
end
def Beg (q : List Co) (ts r : List Tk) : Prop := ∃ m, ts = m ++ r /\ m.map jn4 = q
theorem Beg.nil {ts r : List Tk} (h : Beg [] ts r) : ts = r := by
 obtain ⟨m, rfl, h⟩ := h
 rw [List.map_eq_nil_iff] at h;subst h; rfl
theorem Beg.cons {c : Co} {q : List Co} {ts r : List Tk} (h : Beg (c :: q) ts r) : jn4 (hd ts) = c /\ Beg q ts.tail r /\ ts ≠ [] := by
 obtain ⟨m, rfl, h⟩ := h
 cases m with
 | nil => cases h
 | cons t m =>
  rw [List.map_cons, List.cons.injEq] at h;exact ⟨h.1, ⟨m, rfl, h.2⟩, by simp⟩
theorem Beg.app {p q : List Co} {ts r : List Tk} (h : Beg (p ++ q) ts r) : ∃ s, Beg p ts s /\ Beg q s r := by
 obtain ⟨m, rfl, h⟩ := h
 rw [List.map_eq_append_iff] at h
 obtain ⟨a, b, rfl, h1, h2⟩ := h
 exact ⟨b ++ r, ⟨a, List.append_assoc _ _ _, h1⟩, ⟨b, rfl, h2⟩⟩
theorem Beg.len {q : List Co} {ts r : List Tk} (h : Beg q ts r) : ts.length = q.length + r.length := by
 obtain ⟨m, rfl, h⟩ := h
 rw [<- h]; simp
theorem jh1 {ts : List Tk} {c : Co} (h : jn4 (hd ts) = c) : (hd ts).text = bs c.text := by
 subst h;exact jfS (by rw [jb3]; rfl)
theorem jcu {ts : List Tk} {c : Co} (h : jn4 (hd ts) = c) : (hd ts).kind = c.kind /\ (hd ts).n = c.n := by
 subst h; exact ⟨rfl, rfl⟩
theorem jo5 {ts : List Tk} {c : Co} (h : jn4 (hd ts) = c) (s : ByteArray) : isP s ts = (decide (bs c.text = s) && (decide (c.kind = 1) || decide (c.kind = 3))) := by
 unfold isP;rw [jh1 h, (jcu h).1]
theorem jwa {ts : List Tk} {c : Co} (h : jn4 (hd ts) = c) : jeL ts = (decide (c.kind = 1) && !(keyL ++ builtL).any fun s => decide (bs c.text = s)) := by
 unfold jeL;rw [jh1 h, (jcu h).1]
theorem jvH {ts : List Tk} {c : Co} (h : jn4 (hd ts) = c) : jx7 ts = (decide (c.kind = 1) && builtL.any fun s => decide (bs c.text = s)) := by
 unfold jx7;rw [jh1 h, (jcu h).1]
def noS (l : List ByteArray) (r : List Tk) : Prop := jfI l r = false
def opE (low : Option Pa) : Nat -> List Tk -> Pn
 | 1 => jnU low
 | 2 => jcG (ntG low) [jep]
 | 3 => ntG low
 | 4 => ntG low
 | 5 => jp3 low
 | 6 => jcG (jfK low) [jbG, jaM]
 | 7 => jfK low
 | _ => jca low
def StE : Nat -> List Tk -> Prop
 | 1, r => noS [jbG, jaM] r /\ noS [jcH, pMinus] r /\ noS cmpL r /\ noS [jep] r /\ noS [pOr] r
 | 2, r => noS [jbG, jaM] r /\ noS [jcH, pMinus] r /\ noS cmpL r /\ noS [jep] r
 | 3, r => noS [jbG, jaM] r /\ noS [jcH, pMinus] r /\ noS cmpL r
 | 4, r => noS [jbG, jaM] r /\ noS [jcH, pMinus] r /\ noS cmpL r
 | 5, r => noS [jbG, jaM] r /\ noS [jcH, pMinus] r
 | 6, r => noS [jbG, jaM] r
 | _, _ => True
theorem jgN {op : List Tk -> Pn} {l : List ByteArray} {ts r : List Tk} {f : Nt} (h : op ts = .ok f r) (hs : noS l r) : jcG op l ts = .ok f r := by
 unfold jcG;rw [h]
 show jcb op l r.length f r = _
 cases hl : r.length with
 | zero => rfl
 | succ n =>
  unfold jcb;rw [show jfI l r = false from hs];rfl
def PE (low : Option Pa) (lv : Nat) (b : List Co) (f : Nt) : Prop := ∀ ts r, Beg b ts r -> StE lv r -> opE low lv ts = .ok f r
theorem jrQ {low : Option Pa} {b : List Co} {f : Nt} (h : PE low 2 b f) : PE low 1 b f := fun ts r hb hs => jgN (h ts r hb ⟨hs.1, hs.2.1, hs.2.2.1, hs.2.2.2.1⟩) hs.2.2.2.2
theorem jtv {low : Option Pa} {b : List Co} {f : Nt} (h : PE low 3 b f) : PE low 2 b f := fun ts r hb hs => jgN (h ts r hb ⟨hs.1, hs.2.1, hs.2.2.1⟩) hs.2.2.2
theorem jwC {low : Option Pa} {b : List Co} {f : Nt} (h : PE low 6 b f) : PE low 5 b f := fun ts r hb hs => jgN (h ts r hb hs.1) hs.2
theorem jxe {low : Option Pa} {b : List Co} {f : Nt} (h : PE low 7 b f) : PE low 6 b f := fun ts r hb hs => jgN (h ts r hb trivial) hs
def jgt (s : ByteArray) : List Co -> Prop
 | [] => False
 | c :: _ => bs c.text ≠ s
theorem jmn {s : ByteArray} {b : List Co} {ts r : List Tk} (h : jgt s b) (hb : Beg b ts r) : isP s ts = false := by
 cases b with
 | nil => exact h.elim
 | cons c b =>
  rw [jo5 hb.cons.1, decide_eq_false (show ¬ bs c.text = s from h)];rfl
theorem jz4 {low : Option Pa} {b : List Co} {f : Nt} (h : PE low 5 b f) (hn : jgt pNot b) : PE low 4 b f := fun ts r hb hs => by
 have h1 : jp3 low ts = .ok f r := h ts r hb ⟨hs.1, hs.2.1⟩
 show ntG low ts = _
 unfold ntG;rw [if_neg (by rw [jmn hn hb]; decide), h1]
 show (if jfI cmpL r = true then _ else Pn.ok f r) = _
 rw [if_neg (by rw [show jfI cmpL r = false from hs.2.2]; decide)]
theorem jwq {low : Option Pa} {b : List Co} {f : Nt} (h : PE low 4 b f) : PE low 3 b f := fun ts r hb hs => h ts r hb hs
theorem jAN {low : Option Pa} {b : List Co} {f : Nt} (h : PE low 8 b f) (hn : jgt pMinus b) : PE low 7 b f := fun ts r hb hs => by
 have h1 : jca low ts = .ok f r := h ts r hb trivial
 show jfK low ts = _
 unfold jfK;rw [if_neg (by rw [jmn hn hb]; decide)];exact h1
theorem jhd {low : Option Pa} {b : List Co} {f : Nt} (h : PE low 8 b f) (h1 : jgt pNot b) (h2 : jgt pMinus b) : ∀ lv : Nat, 1 <= lv -> lv <= 8 -> PE low lv b f := fun lv a c => by
 have g7 := jAN h h2
 have g6 := jxe g7
 have g5 := jwC g6
 have g4 := jz4 g5 h1
 have g3 := jwq g4
 have g2 := jtv g3
 have g1 := jrQ g2
 rcases (by omega : lv = 1 ∨ lv = 2 ∨ lv = 3 ∨ lv = 4 ∨ lv = 5 ∨ lv = 6 ∨ lv = 7 ∨ lv = 8) with rfl | rfl | rfl | rfl | rfl | rfl | rfl | rfl <;> assumption
theorem jyS (low : Option Pa) (n : Nat) : PE low 8 [jge n] (.mk 12 n eB []) := fun ts r hb hs => by
 obtain ⟨hc, hr, _⟩ := hb.cons
 have hr := hr.nil
 have hk := (jcu hc).1
 have hn := (jcu hc).2
 have p : ∀ s, isP s ts = false := fun s => by
  rw [jo5 hc]
  show (_ && (decide ((2 : Int) = 1) || decide ((2 : Int) = 3))) = false
  rw [Bool.and_eq_false_iff];exact .inr (by decide)
 show jca low ts = _
 unfold jca;rw [if_neg (by rw [p]; decide), if_neg (by rw [p]; decide), if_pos (show (hd ts).kind = 2 from hk), show (hd ts).n = n from hn, hr]
theorem jav {s : ByteArray} {ts r : List Tk} {b : List Co} (hb : Beg (jai s :: b) ts r) : (∀ x, isP x ts = decide (s = x)) /\ jeL ts = (!(keyL ++ builtL).any fun x => decide (s = x)) /\ jx7 ts = (builtL.any fun x => decide (s = x)) /\ (hd ts).text = s /\ (hd ts).kind = 1 /\ Beg b ts.tail r := by
 obtain ⟨hc, hr, _⟩ := hb.cons
 have e : bs (jai s).text = s := jb2 s
 refine ⟨fun x => ?_, ?_, ?_, ?_, (jcu hc).1, hr⟩
 ·rw [jo5 hc, e, show (decide ((jai s).kind = 1) || decide ((jai s).kind = 3)) = true from rfl, Bool.and_true]
 ·rw [jwa hc, e, show decide ((jai s).kind = 1) = true from rfl, Bool.true_and]
 ·rw [jvH hc, e, show decide ((jai s).kind = 1) = true from rfl, Bool.true_and]
 ·rw [jh1 hc, e]
theorem jcN {s : ByteArray} {ts r : List Tk} {b : List Co} (hb : Beg (jac s :: b) ts r) : (∀ x, isP x ts = decide (s = x)) /\ (hd ts).text = s /\ (hd ts).kind = 3 /\ Beg b ts.tail r := by
 obtain ⟨hc, hr, _⟩ := hb.cons
 have e : bs (jac s).text = s := jb2 s
 refine ⟨fun x => ?_, ?_, (jcu hc).1, hr⟩
 ·rw [jo5 hc, e, show (decide ((jac s).kind = 1) || decide ((jac s).kind = 3)) = true from rfl, Bool.and_true]
 ·rw [jh1 hc, e]
theorem jqA : ∀ s ∈ varL, decide (s = pLp) = false /\ decide (s = wDraw) = false /\ decide (s = jhu) = false /\ decide (s = jdT) = false /\ ((keyL ++ builtL).any fun x => decide (s = x)) = false := by decide
theorem jrq : ∀ s ∈ builtL, decide (s = pLp) = false /\ decide (s = wDraw) = false /\ decide (s = jhu) = false /\ decide (s = jdT) = false /\ ((keyL ++ builtL).any fun x => decide (s = x)) = true /\ (builtL.any fun x => decide (s = x)) = true := by decide
theorem jzh (low : Option Pa) (s : ByteArray) (h : s ∈ varL) : PE low 8 [jai s] (.mk 14 0 s []) := fun ts r hb hs => by
 obtain ⟨p, q, _, t, k, hr⟩ := jav hb
 have hr := hr.nil
 obtain ⟨a1, a2, a3, a4, a5⟩ := jqA s h
 show jca low ts = _
 unfold jca;rw [p, p, p, p, a1, a2, a3, a4, q, a5, k, t, hr];rfl
theorem jxD (low : Option Pa) (s : ByteArray) (h : s ∈ builtL) : PE low 8 [jai s] (.mk 15 0 s []) := fun ts r hb hs => by
 obtain ⟨p, q, u, t, k, hr⟩ := jav hb
 have hr := hr.nil
 obtain ⟨a1, a2, a3, a4, a5, a6⟩ := jrq s h
 show jca low ts = _
 unfold jca;rw [p, p, p, p, a1, a2, a3, a4, q, a5, k, u, a6, t, hr];rfl
theorem jaY {s : ByteArray} {ts r : List Tk} {b : List Co} (hb : Beg (jac s :: b) ts r) (l : List ByteArray) (h : (l.any fun x => decide (s = x)) = false) : noS l ts := by
 obtain ⟨p, _⟩ := jcN hb
 unfold noS jfI;rw [show (fun x => isP x ts) = fun x => decide (s = x) from funext p];exact h
theorem jqo (p : Pa) (low : Option Pa) (hp : p.ex = jnU low) (b : List Co) (f : Nt) (h : PE low 1 b f) : ∀ ts r, Beg (jac pLp :: b ++ [jac pRp]) ts r -> jfZ (some p) ts = .ok f r := fun ts r hb => by
 have hb : Beg (jac pLp :: (b ++ [jac pRp])) ts r := hb
 obtain ⟨q, _, _, hr⟩ := jcN hb
 obtain ⟨u, h1, h2⟩ := hr.app
 have h3 : jnU low ts.tail = .ok f u := h ts.tail u h1 ⟨jaY h2 _ (by decide), jaY h2 _ (by decide), jaY h2 _ (by decide), jaY h2 _ (by decide), jaY h2 _ (by decide)⟩
 obtain ⟨q2, _, _, hr2⟩ := jcN h2
 have hr2 := hr2.nil
 unfold jfZ;rw [q, if_pos (by decide)]
 show (p.ex ts.tail).andThen _ = _
 rw [hp, h3]
 show xpt pRp u _ = _
 unfold xpt;rw [q2, if_pos (by decide), hr2]
theorem jyG (p : Pa) (low : Option Pa) (hp : p.ex = jnU low) (b : List Co) (f : Nt) (h : PE low 1 b f) : PE (some p) 8 (jac pLp :: b ++ [jac pRp]) f := fun ts r hb hs => by
 have h1 := jqo p low hp b f h ts r hb
 obtain ⟨q, _⟩ := jcN (b := b ++ [jac pRp]) hb
 show jca (some p) ts = _
 unfold jca;rw [q, if_pos (by decide)];exact h1
theorem jxi (p : Pa) (low : Option Pa) (hp : p.ex = jnU low) (b : List Co) (f : Nt) (h : PE low 1 b f) : PE (some p) 8 (jai wDraw :: jac pLp :: b ++ [jac pRp]) (.mk 16 0 eB [f]) := fun ts r hb hs => by
 obtain ⟨q, _, _, _, k, hr⟩ := jav (b := jac pLp :: b ++ [jac pRp]) hb
 have h1 := jqo p low hp b f h ts.tail r hr
 show jca (some p) ts = _
 unfold jca;rw [q, q, if_neg (by decide), if_pos (by decide), h1];rfl
theorem jvS (low : Option Pa) (n : Nat) (hn : n < 2) : PE low 8 [jai (tfB n)] (.mk 13 n eB []) := fun ts r hb hs => by
 rcases (by omega : n = 0 ∨ n = 1) with rfl | rfl
 ·have hb : Beg [jai jdT] ts r := hb
  obtain ⟨p, _, _, t, k, hr⟩ := jav hb
  have hr := hr.nil
  show jca low ts = _
  unfold jca;rw [p, p, p, p, if_neg (by decide), if_neg (by decide), if_neg (by rw [k]; decide), if_neg (by decide), if_pos (by decide), hr];rfl
 ·have hb : Beg [jai jhu] ts r := hb
  obtain ⟨p, _, _, t, k, hr⟩ := jav hb
  have hr := hr.nil
  show jca low ts = _
  unfold jca;rw [p, p, p, if_neg (by decide), if_neg (by decide), if_neg (by rw [k]; decide), if_pos (by decide), hr];rfl
theorem jy4 (p : Pa) (low : Option Pa) (hp : p.un = jfK low) (b : List Co) (f : Nt) (h : PE low 7 b f) : PE (some p) 7 (jac pMinus :: b) (.mk 17 0 pMinus [f]) := fun ts r hb hs => by
 obtain ⟨q, _, _, hr⟩ := jcN hb
 have h1 : jfK low ts.tail = .ok f r := h ts.tail r hr trivial
 show jfK (some p) ts = _
 unfold jfK jpJ;rw [q, if_pos (by decide)]
 show (p.un ts.tail).andThen _ = _
 rw [hp, h1];rfl
theorem jyc (p : Pa) (low : Option Pa) (hp : p.no = ntG low) (b : List Co) (f : Nt) (h : PE low 3 b f) : PE (some p) 3 (jac pNot :: b) (.mk 17 0 pNot [f]) := fun ts r hb hs => by
 obtain ⟨q, _, _, hr⟩ := jcN hb
 have h1 : ntG low ts.tail = .ok f r := h ts.tail r hr hs
 show ntG (some p) ts = _
 unfold ntG jpJ;rw [q, if_pos (by decide)]
 show (p.no ts.tail).andThen _ = _
 rw [hp, h1];rfl
def CH (op : List Tk -> Pn) (signs : List ByteArray) (stop : List Tk -> Prop) (b : List Co) (f : Nt) : Prop := ∀ ts r, Beg b ts r -> stop r -> ∃ n, r.length <= n /\ jcG op signs ts = jcb op signs n f r
theorem jxU {op : List Tk -> Pn} {signs : List ByteArray} {stop : List Tk -> Prop} {b : List Co} {f : Nt} (h : ∀ ts r, Beg b ts r -> stop r -> op ts = .ok f r) : CH op signs stop b f := fun ts r hb hs => ⟨r.length, Nat.le_refl _, by unfold jcG; rw [h ts r hb hs]; rfl⟩
theorem jjY {op : List Tk -> Pn} {signs : List ByteArray} {stop : List Tk -> Prop} {b b2 : List Co} {f g : Nt} (o : ByteArray) (hf : CH op signs stop b f) (ho : (signs.any fun x => decide (o = x)) = true) (hst : ∀ ts r, Beg (jac o :: b2) ts r -> stop ts) (hg : ∀ ts r, Beg b2 ts r -> stop r -> op ts = .ok g r) : CH op signs stop (b ++ jac o :: b2) (.mk 18 0 o [f, g]) := fun ts r hb hs => by
 obtain ⟨u, h1, h2⟩ := hb.app
 obtain ⟨n, hn, e⟩ := hf ts u h1 (hst u r h2)
 obtain ⟨q, t, _, hr⟩ := jcN h2
 have hl := h2.len
 have hl2 := hr.len
 have ha : jfI signs u = true := by
  unfold jfI;rw [show (fun x => isP x u) = fun x => decide (o = x) from funext q];exact ho
 obtain ⟨m, rfl⟩ : ∃ m, n = m + 1 := ⟨n - 1, by simp at hl; omega⟩
 refine ⟨m, by simp at hl; omega, ?_⟩;rw [e, jcb, if_pos ha, hg _ r hr hs, t];rfl
theorem joc {op : List Tk -> Pn} {signs : List ByteArray} {stop : List Tk -> Prop} {b : List Co} {f : Nt} (h : CH op signs stop b f) : ∀ ts r, Beg b ts r -> stop r -> noS signs r -> jcG op signs ts = .ok f r := fun ts r hb hs hn => by
 obtain ⟨n, _, e⟩ := h ts r hb hs
 rw [e]
 cases n with
 | zero => rfl
 | succ n => rw [jcb, if_neg (by rw [show jfI signs r = false from hn]; decide)]
section
def jaw : Nat -> Option Pa
 | 0 => none
 | d + 1 => some (pa d)
theorem jfx : ∀ d, pa d = paG (jaw d)
 | 0 => rfl
 | _ + 1 => rfl
def CE (low : Option Pa) (lv : Nat) (signs : List ByteArray) (b : List Co) (f : Nt) : Prop := CH (opE low (lv + 1)) signs (StE (lv + 1)) b f
structure XI (low : Option Pa) (t : Int -> List Co) (f : Nt) : Prop where
 pe : ∀ lv : Nat, 1 <= lv -> lv <= 8 -> PE low lv (t lv) f
 c6 : CE low 6 [jbG, jaM] (t 6) f
 c5 : CE low 5 [jcH, pMinus] (t 5) f
 nn : ∀ lv : Int, jgt pNot (t lv)
structure XB (low : Option Pa) (t : Int -> List Co) (f : Nt) : Prop where
 pe : ∀ lv : Nat, 1 <= lv -> lv <= 8 -> PE low lv (t lv) f
 c2 : CE low 2 [jep] (t 2) f
 c1 : CE low 1 [pOr] (t 1) f
def mulL : List ByteArray := [jbG, jaM]
def addL : List ByteArray := [jcH, pMinus]
theorem jyZ {low : Option Pa} {b : List Co} {f : Nt} (h : CE low 6 [jbG, jaM] b f) : PE low 6 b f := fun ts r hb hs => joc h ts r hb trivial hs
theorem jAA {low : Option Pa} {b : List Co} {f : Nt} (h : CE low 5 [jcH, pMinus] b f) : PE low 5 b f := fun ts r hb hs => joc h ts r hb hs.1 hs.2
theorem jzC {low : Option Pa} {b : List Co} {f : Nt} (h : CE low 2 [jep] b f) : PE low 2 b f := fun ts r hb hs => joc h ts r hb ⟨hs.1, hs.2.1, hs.2.2.1⟩ hs.2.2.2
theorem jA1 {low : Option Pa} {b : List Co} {f : Nt} (h : CE low 1 [pOr] b f) : PE low 1 b f := fun ts r hb hs => joc h ts r hb ⟨hs.1, hs.2.1, hs.2.2.1, hs.2.2.2.1⟩ hs.2.2.2.2
theorem jdF {low : Option Pa} {lv : Nat} {signs : List ByteArray} {b : List Co} {f : Nt} (h : PE low (lv + 1) b f) : CE low lv signs b f := jxU h
theorem jne {low : Option Pa} {b : List Co} {f : Nt} (hn : jgt pNot b) (h : PE low 5 b f) : ∀ lv : Nat, 1 <= lv -> lv <= 5 -> PE low lv b f := fun lv a c => by
 have g4 := jz4 h hn
 have g3 := jwq g4
 have g2 := jtv g3
 have g1 := jrQ g2
 rcases (by omega : lv = 1 ∨ lv = 2 ∨ lv = 3 ∨ lv = 4 ∨ lv = 5) with rfl | rfl | rfl | rfl | rfl <;> assumption
theorem jbC (p lv : Int) (fu : Bool) (l : List Co) (hl : lv <= 8) : (jd5 p lv fu l = l /\ lv <= p) ∨ (jd5 p lv fu l = jac pLp :: l ++ [jac pRp] /\ p < 8) := by
 unfold jd5
 by_cases h : p < lv
 ·rw [if_pos h]; exact .inr ⟨rfl, by omega⟩
 ·rw [if_neg h]
  cases fu with
  | false => exact .inl ⟨rfl, by omega⟩
  | true =>
   rw [if_pos rfl]
   by_cases h8 : p < 8
   ·rw [if_pos h8]; exact .inr ⟨rfl, h8⟩
   ·rw [if_neg h8]; exact .inl ⟨rfl, by omega⟩
theorem jnn {n : Nat} {b : List Co} {f : Nt} (h : PE (jaw n) 1 b f) : ∀ lv : Nat, 1 <= lv -> lv <= 8 -> PE (jaw (n + 1)) lv (jac pLp :: b ++ [jac pRp]) f := by
 have h1 := jyG (pa n) (jaw n) (by rw [jfx]; rfl) b f h
 exact jhd h1 (by show bs (jac pLp).text ≠ pNot; decide) (by show bs (jac pLp).text ≠ pMinus; decide)
theorem XI.leaf {low : Option Pa} {t : Int -> List Co} {b : List Co} {f : Nt} (ht : ∀ lv, lv <= 8 -> t lv = b) (h : PE low 8 b f) (h1 : jgt pNot b) (h2 : jgt pMinus b) (hnn : ∀ lv, jgt pNot (t lv)) : XI low t f where
 pe := fun lv a c => by rw [ht lv (by omega)]; exact jhd h h1 h2 lv a c
 c6 := by rw [ht 6 (by omega)]; exact jdF (jhd h h1 h2 7 (by omega) (by omega))
 c5 := by rw [ht 5 (by omega)]; exact jdF (jhd h h1 h2 6 (by omega) (by omega))
 nn := hnn
theorem XB.leaf {low : Option Pa} {t : Int -> List Co} {b : List Co} {f : Nt} (ht : ∀ lv, lv <= 8 -> t lv = b) (h : PE low 8 b f) (h1 : jgt pNot b) (h2 : jgt pMinus b) : XB low t f where
 pe := fun lv a c => by rw [ht lv (by omega)]; exact jhd h h1 h2 lv a c
 c2 := by rw [ht 2 (by omega)]; exact jdF (jhd h h1 h2 3 (by omega) (by omega))
 c1 := by rw [ht 1 (by omega)]; exact jdF (jhd h h1 h2 2 (by omega) (by omega))
theorem jfn {p lv : Int} {fu : Bool} {b : List Co} (h : jgt pNot b) : jgt pNot (jd5 p lv fu b) := by
 have h1 : jgt pNot (jac pLp :: b ++ [jac pRp]) := by show bs (jac pLp).text ≠ pNot; decide
 unfold jd5
 split
 ·exact h1
 ·split
  ·split
   ·exact h1
   ·exact h
  ·exact h
theorem jot {s : ByteArray} {b c : List Co} (h : jgt s b) : jgt s (b ++ c) := by
 cases b with
 | nil => exact h.elim
 | cons x b => exact h
theorem XI.node {n : Nat} {p : Nat} {fu : Bool} {b : List Co} {f : Nt} (hp : 5 <= p /\ p <= 8) (hlow : PE (jaw n) 1 b f) (hb : ∀ lv : Nat, 1 <= lv -> lv <= p -> PE (jaw (n + 1)) lv b f) (h6 : p = 6 -> CE (jaw (n + 1)) 6 [jbG, jaM] b f) (h5 : p = 5 -> CE (jaw (n + 1)) 5 [jcH, pMinus] b f) (hn : jgt pNot b) : XI (jaw (n + 1)) (fun lv => jd5 p lv fu b) f := by
 have hq := jnn hlow
 have hpe : ∀ lv : Nat, 1 <= lv -> lv <= 8 -> PE (jaw (n + 1)) lv (jd5 p lv fu b) f := fun lv a c => by
  rcases jbC p lv fu b (by omega) with ⟨e, h⟩ | ⟨e, h⟩
  ·rw [e]; exact hb lv a (by omega)
  ·rw [e]; exact hq lv a c
 refine ⟨hpe, ?_, ?_, fun lv => jfn hn⟩
 ·show CE _ 6 _ (jd5 p 6 fu b) f
  rcases jbC p 6 fu b (by omega) with ⟨e, h⟩ | ⟨e, h⟩
  ·rw [e]
   by_cases h0 : p = 6
   ·exact h6 h0
   ·exact jdF (hb 7 (by omega) (by omega))
  ·rw [e]; exact jdF (hq 7 (by omega) (by omega))
 ·show CE _ 5 _ (jd5 p 5 fu b) f
  rcases jbC p 5 fu b (by omega) with ⟨e, h⟩ | ⟨e, h⟩
  ·rw [e]
   by_cases h0 : p = 5
   ·exact h5 h0
   ·exact jdF (hb 6 (by omega) (by omega))
  ·rw [e]; exact jdF (hq 6 (by omega) (by omega))
theorem XB.node {n : Nat} {p : Nat} {fu : Bool} {b : List Co} {f : Nt} (hp : 1 <= p /\ p <= 4) (hlow : PE (jaw n) 1 b f) (hb : ∀ lv : Nat, 1 <= lv -> lv <= p -> PE (jaw (n + 1)) lv b f) (h2 : p = 2 -> CE (jaw (n + 1)) 2 [jep] b f) (h1 : p = 1 -> CE (jaw (n + 1)) 1 [pOr] b f) : XB (jaw (n + 1)) (fun lv => jd5 p lv fu b) f := by
 have hq := jnn hlow
 have hpe : ∀ lv : Nat, 1 <= lv -> lv <= 8 -> PE (jaw (n + 1)) lv (jd5 p lv fu b) f := fun lv a c => by
  rcases jbC p lv fu b (by omega) with ⟨e, h⟩ | ⟨e, h⟩
  ·rw [e]; exact hb lv a (by omega)
  ·rw [e]; exact hq lv a c
 refine ⟨hpe, ?_, ?_⟩
 ·show CE _ 2 _ (jd5 p 2 fu b) f
  rcases jbC p 2 fu b (by omega) with ⟨e, h⟩ | ⟨e, h⟩
  ·rw [e]
   by_cases h0 : p = 2
   ·exact h2 h0
   ·exact jdF (hb 3 (by omega) (by omega))
  ·rw [e]; exact jdF (hq 3 (by omega) (by omega))
 ·show CE _ 1 _ (jd5 p 1 fu b) f
  rcases jbC p 1 fu b (by omega) with ⟨e, h⟩ | ⟨e, h⟩
  ·rw [e]
   by_cases h0 : p = 1
   ·exact h1 h0
   ·exact jdF (hb 2 (by omega) (by omega))
  ·rw [e]; exact jdF (hq 2 (by omega) (by omega))
theorem jeB {lv : Int} {fu : Bool} {b : List Co} (h : lv <= 8) : jd5 8 lv fu b = b := by
 rcases jbC 8 lv fu b h with ⟨e, _⟩ | ⟨_, h⟩
 ·exact e
 ·omega
variable {fu : Bool}
theorem leaf_no {n : Nat} : jgt pNot [jge n] /\ jgt pMinus [jge n] := by
 have h : ∀ s : ByteArray, jaq s ≠ jaq (bs (jb1 n)) -> bs (jb1 n) ≠ s := fun s h e => h (by rw [e])
 have hf := jg4 n
 constructor
 ·refine h pNot ?_;intro e; rw [<- e] at hf; exact absurd hf (by decide)
 ·refine h pMinus ?_;intro e; rw [<- e] at hf; exact absurd hf (by decide)
theorem jgr {s : ByteArray} (h : s ≠ pNot /\ s ≠ pMinus) : jgt pNot [jai s] /\ jgt pMinus [jai s] := by
 have e : bs (jai s).text = s := jb2 s
 exact ⟨by show bs (jai s).text ≠ _; rw [e]; exact h.1, by show bs (jai s).text ≠ _; rw [e]; exact h.2⟩
theorem jz5 (n m : Nat) : XI (jaw m) (tkN fu (.mk 12 n eB [])) (.mk 12 n eB []) :=
 XI.leaf (b := [jge n]) (fun lv h => jeB h) (jyS _ n) leaf_no.1 leaf_no.2 fun lv => jfn leaf_no.1
theorem juH (s : ByteArray) (m : Nat) (k : Int) (hk : k = 14 ∨ k = 15) (h : PE (jaw m) 8 [jai s] (.mk k 0 s [])) (hs : s ≠ pNot /\ s ≠ pMinus) : XI (jaw m) (tkN fu (.mk k 0 s [])) (.mk k 0 s []) := by
 rcases hk with rfl | rfl
 ·exact XI.leaf (b := [jai s]) (fun lv h => jeB h) h (jgr hs).1 (jgr hs).2 fun lv => jfn (jgr hs).1
 ·exact XI.leaf (b := [jai s]) (fun lv h => jeB h) h (jgr hs).1 (jgr hs).2 fun lv => jfn (jgr hs).1
theorem jya : ∀ s ∈ varL, s ≠ pNot /\ s ≠ pMinus := by decide
theorem jsC : ∀ s ∈ builtL, s ≠ pNot /\ s ≠ pMinus := by decide
theorem jmN {n : Nat} (h : 1 <= n) : jaw n = some (pa (n - 1)) := by
 obtain ⟨k, rfl⟩ : ∃ k, n = k + 1 := ⟨n - 1, by omega⟩
 rfl
theorem jvu {d : Nat} {f : Nt} (h : EI d f) : ∀ n, 2 * d <= n -> XI (jaw n) (tkN fu f) f := by
 induction h with
 | lit d n h => intro m _; obtain ⟨k, rfl, _⟩ := juS n h; exact jz5 k m
 | var d s h => intro m _; exact juH s m 14 (.inl rfl) (jzh _ s h) (jya s h)
 | nam d s h => intro m _; exact juH s m 15 (.inr rfl) (jxD _ s h) (jsC s h)
 | drw d f h ih =>
  intro n hn
  have h1 := (ih (n - 1) (by omega)).pe 1 (by omega) (by omega)
  have h2 := jxi (pa (n - 1)) (jaw (n - 1)) (by rw [jfx]; rfl) (tkN fu f 1) f h1
  rw [<- jmN (by omega)] at h2
  have q1 : ∀ s, s = pNot ∨ s = pMinus -> jgt s (jai wDraw :: jac pLp :: tkN fu f 1 ++ [jac pRp]) := fun s hs => by
   show bs (jai wDraw).text ≠ s
   rcases hs with rfl | rfl <;> decide
  exact XI.leaf (fun lv h => jeB h) h2 (q1 _ (.inl rfl)) (q1 _ (.inr rfl)) fun lv => jfn (q1 _ (.inl rfl))
 | neg d f h ih =>
  intro n hn
  have key : ∀ m, 2 * d + 1 <= m -> PE (jaw m) 7 (jac pMinus :: tkN fu f 7) (.mk 17 0 pMinus [f]) := fun m hm => by
   have h2 := jy4 (pa (m - 1)) (jaw (m - 1)) (by rw [jfx]; rfl) (tkN fu f 7) f ((ih (m - 1) (by omega)).pe 7 (by omega) (by omega))
   rw [<- jmN (by omega)] at h2;exact h2
  have hno : jgt pNot (jac pMinus :: tkN fu f 7) := by show bs (jac pMinus).text ≠ pNot; decide
  have all : ∀ m, 2 * d + 1 <= m -> ∀ lv : Nat, 1 <= lv -> lv <= 7 -> PE (jaw m) lv (jac pMinus :: tkN fu f 7) (.mk 17 0 pMinus [f]) := fun m hm lv a c => by
   have g7 := key m hm
   have g6 := jxe g7
   by_cases h5 : lv <= 5
   ·exact jne hno (jwC g6) lv a h5
   ·rcases (by omega : lv = 6 ∨ lv = 7) with rfl | rfl <;> assumption
  obtain ⟨m, rfl⟩ : ∃ m, n = m + 1 := ⟨n - 1, by omega⟩
  exact XI.node (p := 7) (by omega) (all m (by omega) 1 (by omega) (by omega)) (all (m + 1) (by omega)) (by omega) (by omega) hno
 | bin d s f g hs h1 h2 i1 i2 =>
  intro n hn
  obtain ⟨m, rfl⟩ : ∃ m, n = m + 1 := ⟨n - 1, by omega⟩
  have hop : (jab 18 s = 6 /\ (s = jbG ∨ s = jaM)) ∨ (jab 18 s = 5 /\ (s = jcH ∨ s = pMinus)) := by
   unfold opL at hs;simp only [List.mem_cons, List.not_mem_nil, or_false] at hs
   rcases hs with rfl | rfl | rfl | rfl <;> decide
  rcases hop with ⟨hp, ho⟩ | ⟨hp, ho⟩
  ·have e : ∀ lv, tkN fu (.mk 18 0 s [f, g]) lv = jd5 6 lv fu (tkN fu f 6 ++ jac s :: tkN fu g 7) := fun lv => by
    show jd5 (jab 18 s) lv fu (tkN fu f (if jab 18 s = 4 then 5 else jab 18 s) ++ jac s :: tkN fu g (jab 18 s + 1)) = _
    rw [hp]; rfl
   have hno : jgt pNot (tkN fu f 6 ++ jac s :: tkN fu g 7) := jot ((i1 (2 * d) (Nat.le_refl _)).nn 6)
   have hc : ∀ m, 2 * d <= m -> CE (jaw m) 6 [jbG, jaM] (tkN fu f 6 ++ jac s :: tkN fu g 7) (.mk 18 0 s [f, g]) := fun m hm =>
    jjY s (i1 m hm).c6 (by rcases ho with rfl | rfl <;> decide) (fun _ _ _ => trivial) ((i2 m hm).pe 7 (by omega) (by omega))
   have all : ∀ m, 2 * d <= m -> ∀ lv : Nat, 1 <= lv -> lv <= 6 -> PE (jaw m) lv (tkN fu f 6 ++ jac s :: tkN fu g 7) (.mk 18 0 s [f, g]) := fun m hm lv a c => by
    have g6 := jyZ (hc m hm)
    by_cases h5 : lv <= 5
    ·exact jne hno (jwC g6) lv a h5
    ·rcases (by omega : lv = 6) with rfl; exact g6
   rw [show tkN fu (.mk 18 0 s [f, g]) = fun lv => jd5 6 lv fu (tkN fu f 6 ++ jac s :: tkN fu g 7) from funext e];exact XI.node (p := 6) (by omega) (all m (by omega) 1 (by omega) (by omega)) (all (m + 1) (by omega)) (fun _ => hc (m + 1) (by omega)) (by omega) hno
  ·have e : ∀ lv, tkN fu (.mk 18 0 s [f, g]) lv = jd5 5 lv fu (tkN fu f 5 ++ jac s :: tkN fu g 6) := fun lv => by
    show jd5 (jab 18 s) lv fu (tkN fu f (if jab 18 s = 4 then 5 else jab 18 s) ++ jac s :: tkN fu g (jab 18 s + 1)) = _
    rw [hp]; rfl
   have hno : jgt pNot (tkN fu f 5 ++ jac s :: tkN fu g 6) := jot ((i1 (2 * d) (Nat.le_refl _)).nn 5)
   have hc : ∀ m, 2 * d <= m -> CE (jaw m) 5 [jcH, pMinus] (tkN fu f 5 ++ jac s :: tkN fu g 6) (.mk 18 0 s [f, g]) := fun m hm =>
    jjY s (i1 m hm).c5 (by rcases ho with rfl | rfl <;> decide) (fun ts r hb => jaY hb _ (by rcases ho with rfl | rfl <;> decide)) ((i2 m hm).pe 6 (by omega) (by omega))
   have all : ∀ m, 2 * d <= m -> ∀ lv : Nat, 1 <= lv -> lv <= 5 -> PE (jaw m) lv (tkN fu f 5 ++ jac s :: tkN fu g 6) (.mk 18 0 s [f, g]) := fun m hm lv a c => jne hno (jAA (hc m hm)) lv a c
   rw [show tkN fu (.mk 18 0 s [f, g]) = fun lv => jd5 5 lv fu (tkN fu f 5 ++ jac s :: tkN fu g 6) from funext e];exact XI.node (p := 5) (by omega) (all m (by omega) 1 (by omega) (by omega)) (all (m + 1) (by omega)) (by omega) (fun _ => hc (m + 1) (by omega)) hno
theorem jAq {d : Nat} {f : Nt} (h : EB d f) : ∀ n, 2 * d + 1 <= n -> XB (jaw n) (tkN fu f) f := by
 induction h with
 | lit d n h =>
  intro m _
  have hs : tfB n ≠ pNot /\ tfB n ≠ pMinus := by
   rcases (by omega : n = 0 ∨ n = 1) with rfl | rfl <;> decide
  exact XB.leaf (b := [jai (tfB n)]) (fun lv h => jeB h) (jvS _ n h) (jgr hs).1 (jgr hs).2
 | nt d f h ih =>
  intro n hn
  have key : ∀ m, 2 * d + 2 <= m -> PE (jaw m) 3 (jac pNot :: tkN fu f 3) (.mk 17 0 pNot [f]) := fun m hm => by
   have h2 := jyc (pa (m - 1)) (jaw (m - 1)) (by rw [jfx]; rfl) (tkN fu f 3) f ((ih (m - 1) (by omega)).pe 3 (by omega) (by omega))
   rw [<- jmN (by omega)] at h2;exact h2
  have all : ∀ m, 2 * d + 2 <= m -> ∀ lv : Nat, 1 <= lv -> lv <= 3 -> PE (jaw m) lv (jac pNot :: tkN fu f 3) (.mk 17 0 pNot [f]) := fun m hm lv a c => by
   have g3 := key m hm
   have g2 := jtv g3
   have g1 := jrQ g2
   rcases (by omega : lv = 1 ∨ lv = 2 ∨ lv = 3) with rfl | rfl | rfl <;> assumption
  obtain ⟨m, rfl⟩ : ∃ m, n = m + 1 := ⟨n - 1, by omega⟩
  exact XB.node (p := 3) (by omega) (all m (by omega) 1 (by omega) (by omega)) (all (m + 1) (by omega)) (by omega) (by omega)
 | bin d s f g hs h1 h2 i1 i2 =>
  intro n hn
  obtain ⟨m, rfl⟩ : ∃ m, n = m + 1 := ⟨n - 1, by omega⟩
  have hop : s = jep ∨ s = pOr := by
   unfold bolL at hs
   simpa only [List.mem_cons, List.not_mem_nil, or_false] using hs
  rcases hop with rfl | rfl
  ·have e : ∀ lv, tkN fu (.mk 18 0 jep [f, g]) lv = jd5 2 lv fu (tkN fu f 2 ++ jac jep :: tkN fu g 3) := fun lv => rfl
   have hc : ∀ m, 2 * d + 1 <= m -> CE (jaw m) 2 [jep] (tkN fu f 2 ++ jac jep :: tkN fu g 3) (.mk 18 0 jep [f, g]) := fun m hm =>
    jjY jep (i1 m hm).c2 (by decide) (fun ts r hb => ⟨jaY hb _ (by decide), jaY hb _ (by decide), jaY hb _ (by decide)⟩) ((i2 m hm).pe 3 (by omega) (by omega))
   have all : ∀ m, 2 * d + 1 <= m -> ∀ lv : Nat, 1 <= lv -> lv <= 2 -> PE (jaw m) lv (tkN fu f 2 ++ jac jep :: tkN fu g 3) (.mk 18 0 jep [f, g]) := fun m hm lv a c => by
    have g2 := jzC (hc m hm)
    have g1 := jrQ g2
    rcases (by omega : lv = 1 ∨ lv = 2) with rfl | rfl <;> assumption
   rw [show tkN fu (.mk 18 0 jep [f, g]) = fun lv => jd5 2 lv fu (tkN fu f 2 ++ jac jep :: tkN fu g 3) from funext e];exact XB.node (p := 2) (by omega) (all m (by omega) 1 (by omega) (by omega)) (all (m + 1) (by omega)) (fun _ => hc (m + 1) (by omega)) (by omega)
  ·have e : ∀ lv, tkN fu (.mk 18 0 pOr [f, g]) lv = jd5 1 lv fu (tkN fu f 1 ++ jac pOr :: tkN fu g 2) := fun lv => rfl
   have hc : ∀ m, 2 * d + 1 <= m -> CE (jaw m) 1 [pOr] (tkN fu f 1 ++ jac pOr :: tkN fu g 2) (.mk 18 0 pOr [f, g]) := fun m hm =>
    jjY pOr (i1 m hm).c1 (by decide) (fun ts r hb => ⟨jaY hb _ (by decide), jaY hb _ (by decide), jaY hb _ (by decide), jaY hb _ (by decide)⟩) ((i2 m hm).pe 2 (by omega) (by omega))
   have all : ∀ m, 2 * d + 1 <= m -> ∀ lv : Nat, 1 <= lv -> lv <= 1 -> PE (jaw m) lv (tkN fu f 1 ++ jac pOr :: tkN fu g 2) (.mk 18 0 pOr [f, g]) := fun m hm lv a c => by
    obtain rfl : lv = 1 := by omega
    exact jA1 (hc m hm)
   rw [show tkN fu (.mk 18 0 pOr [f, g]) = fun lv => jd5 1 lv fu (tkN fu f 1 ++ jac pOr :: tkN fu g 2) from funext e];exact XB.node (p := 1) (by omega) (all m (by omega) 1 (by omega) (by omega)) (all (m + 1) (by omega)) (by omega) (fun _ => hc (m + 1) (by omega))
 | cmp d s f g hs h1 h2 =>
  intro n hn
  obtain ⟨m, rfl⟩ : ∃ m, n = m + 1 := ⟨n - 1, by omega⟩
  have hp : jab 18 s = 4 /\ (cmpL.any fun x => decide (s = x)) = true /\ (mulL.any fun x => decide (s = x)) = false /\ (addL.any fun x => decide (s = x)) = false := by
   unfold cmpL at hs;simp only [List.mem_cons, List.not_mem_nil, or_false] at hs
   rcases hs with rfl | rfl | rfl | rfl | rfl | rfl <;> decide
  have e : ∀ lv, tkN fu (.mk 18 0 s [f, g]) lv = jd5 4 lv fu (tkN fu f 5 ++ jac s :: tkN fu g 5) := fun lv => by
   show jd5 (jab 18 s) lv fu (tkN fu f (if jab 18 s = 4 then 5 else jab 18 s) ++ jac s :: tkN fu g (jab 18 s + 1)) = _
   rw [hp.1]; rfl
  have key : ∀ m, 2 * d <= m -> PE (jaw m) 4 (tkN fu f 5 ++ jac s :: tkN fu g 5) (.mk 18 0 s [f, g]) := fun m hm ts r hb hs => by
   obtain ⟨u, q1, q2⟩ := hb.app
   have x1 := jvu (fu := fu) h1 m (by omega)
   have x2 := jvu (fu := fu) h2 m (by omega)
   have hno := jmn (x1.nn 5) q1
   have y1 : jp3 (jaw m) ts = .ok f u := x1.pe 5 (by omega) (by omega) ts u q1 ⟨jaY q2 _ hp.2.2.1, jaY q2 _ hp.2.2.2⟩
   obtain ⟨p, t, _, hr⟩ := jcN q2
   have y2 : jp3 (jaw m) u.tail = .ok g r := x2.pe 5 (by omega) (by omega) u.tail r hr ⟨hs.1, hs.2.1⟩
   show ntG (jaw m) ts = _
   unfold ntG;rw [if_neg (by rw [hno]; decide), y1]
   show (if jfI cmpL u = true then _ else _) = _
   rw [if_pos (by unfold jfI; rw [show (fun x => isP x u) = fun x => decide (s = x) from funext p]; exact hp.2.1), y2, t];rfl
  have all : ∀ m, 2 * d <= m -> ∀ lv : Nat, 1 <= lv -> lv <= 4 -> PE (jaw m) lv (tkN fu f 5 ++ jac s :: tkN fu g 5) (.mk 18 0 s [f, g]) := fun m hm lv a c => by
   have g4 := key m hm
   have g3 := jwq g4
   have g2 := jtv g3
   have g1 := jrQ g2
   rcases (by omega : lv = 1 ∨ lv = 2 ∨ lv = 3 ∨ lv = 4) with rfl | rfl | rfl | rfl <;> assumption
  rw [show tkN fu (.mk 18 0 s [f, g]) = fun lv => jd5 4 lv fu (tkN fu f 5 ++ jac s :: tkN fu g 5) from funext e];exact XB.node (p := 4) (by omega) (all m (by omega) 1 (by omega) (by omega)) (all (m + 1) (by omega)) (by omega) (by omega)
end
section
theorem jmi (f : Nt) (r : List Tk) (k : Nt -> List Tk -> Pn) : (Pn.ok f r).andThen k = k f r := rfl
def stL (n : Nat) : List Tk -> Pn := stG (jnU (jaw n)) (jx5 (jaw n))
theorem joI (n : Nat) : jx5 (jaw (n + 1)) = bkF (stL n) := by
 show (pa n).bl = _
 rw [jfx]; rfl
theorem jAI (n : Nat) : (pa n).bl = bkF (stL n) := joI n
theorem jd1 {low : Option Pa} {f : Nt} {t : List Co} (h : PE low 1 t f) {s : ByteArray} (hs : s = pSemi ∨ s = pComma ∨ s = pLb) {b : List Co} {ts r : List Tk} (hb : Beg (t ++ jac s :: b) ts r) : ∃ u, jnU low ts = .ok f u /\ Beg (jac s :: b) u r := by
 obtain ⟨u, h1, h2⟩ := hb.app
 refine ⟨u, h ts u h1 ?_, h2⟩
 rcases hs with rfl | rfl | rfl <;> exact ⟨jaY h2 _ (by decide), jaY h2 _ (by decide), jaY h2 _ (by decide), jaY h2 _ (by decide), jaY h2 _ (by decide)⟩
theorem jgu {s : ByteArray} {b : List Co} {ts r : List Tk} (hb : Beg (jac s :: b) ts r) (k : List Tk -> Pn) : xpt s ts k = k ts.tail /\ Beg b ts.tail r := by
 obtain ⟨p, _, _, hr⟩ := jcN hb
 refine ⟨?_, hr⟩;unfold xpt;rw [p, if_pos (decide_eq_true rfl)]
theorem jwZ {n : Nat} {b : List Co} {ts r : List Tk} (hb : Beg (jge n :: b) ts r) (limit : Int) (hl : (n : Int) < limit) (k : Int -> List Tk -> Pn) : jgL limit ts k = k n ts.tail /\ Beg b ts.tail r := by
 obtain ⟨hc, hr, _⟩ := hb.cons
 have hk := (jcu hc).1
 have hn := (jcu hc).2
 refine ⟨?_, hr⟩;unfold jgL;rw [show (hd ts).kind = 2 from hk, show (hd ts).n = n from hn, if_neg (by decide), if_neg (by omega)]
variable {fu : Bool}
def PS (n : Nat) (t : List Co) (f : Nt) : Prop := ∀ ts r, Beg t ts r -> isP wElse r = false -> stL n ts = .ok f r
theorem PS.eq {n : Nat} {t t2 : List Co} {f : Nt} (h : PS n t f) (e : t2 = t) : PS n t2 f := by rw [e]; exact h
theorem jop (f : Nt) : lsT fu [f] = tkN fu f 1 ++ [jac pSemi] := by
 show (tkN fu f 1 ++ []) ++ [jac pSemi] = _
 rw [List.append_nil]
theorem jo0 (f g : Nt) : lsT fu [f, g] = tkN fu f 1 ++ jac pComma :: (tkN fu g 1 ++ [jac pSemi]) := by
 show (tkN fu f 1 ++ (jac pComma :: tkN fu g 1 ++ [])) ++ [jac pSemi] = _
 simp
theorem jw0 {n d : Nat} {f : Nt} (h : EI d f) (hd : 2 * d <= n) : PE (jaw n) 1 (tkN fu f 1) f := (jvu h n hd).pe 1 (by omega) (by omega)
theorem jB2 {n d : Nat} {f : Nt} (h : EB d f) (hd : 2 * d + 1 <= n) : PE (jaw n) 1 (tkN fu f 1) f := (jAq h n hd).pe 1 (by omega) (by omega)
theorem jyw {n : Nat} {s : ByteArray} (hs : s ∈ varL) {f : Nt} (hf : PE (jaw n) 1 (tkN fu f 1) f) : PS n (tkS fu (.mk 1 0 s [f])) (.mk 1 0 s [f]) := by
 refine PS.eq (t := jai s :: jac pEq :: (tkN fu f 1 ++ [jac pSemi])) ?_ (by rw [<- jop]; rfl);intro ts r hb he
 obtain ⟨p, q, _, t, k, h1⟩ := jav hb
 obtain ⟨e1, h2⟩ := jgu h1 fun r => (jnU (jaw n) r).andThen fun e r => xpt pSemi r fun r => .ok (.mk 1 0 (hd ts).text [e]) r
 obtain ⟨u, e2, h3⟩ := jd1 hf (.inl rfl) h2
 obtain ⟨e3, h4⟩ := jgu h3 fun r => .ok (.mk 1 0 (hd ts).text [f]) r
 have h4 := h4.nil
 show stG _ _ ts = _
 unfold stG;rw [if_pos (by rw [q, (jqA s hs).2.2.2.2]; rfl), e1, e2];rw [jmi];rw [e3, h4, t]
theorem jz3 {n m : Nat} (hm : m < 30) {f g h : Nt} (hf : PE (jaw n) 1 (tkN fu f 1) f) (hg : PE (jaw n) 1 (tkN fu g 1) g) (hh : PE (jaw n) 1 (tkN fu h 1) h) : PS n (tkS fu (.mk 4 m eB [f, g, h])) (.mk 4 m eB [f, g, h]) := by
 refine PS.eq (t := jai wSend :: (tkN fu f 1 ++ jac pComma :: jge m :: jac pComma :: (tkN fu g 1 ++ jac pComma :: (tkN fu h 1 ++ [jac pSemi])))) ?_ (by rw [<- jo0]; rfl);intro ts r hb he
 obtain ⟨p, q, _, t, k, h1⟩ := jav hb
 show stG _ _ ts = _
 unfold stG;rw [if_neg (by rw [q]; decide), if_neg (by rw [k]; decide), t]
 obtain ⟨u, e2, h2⟩ := jd1 hf (.inr (.inl rfl)) h1
 rw [if_neg (by decide), if_neg (by decide), if_pos rfl, e2];rw [jmi]
 obtain ⟨_, h3⟩ := jgu h2 fun r => .ok f r
 rw [(jgu h2 _).1]
 obtain ⟨_, h4⟩ := jwZ h3 30 (by omega) fun _ r => .ok f r
 rw [(jwZ h3 30 (by omega) _).1]
 obtain ⟨_, h5⟩ := jgu h4 fun r => .ok f r
 rw [(jgu h4 _).1]
 obtain ⟨u2, e3, h6⟩ := jd1 hg (.inr (.inl rfl)) h5
 rw [e3];rw [jmi]
 obtain ⟨_, h7⟩ := jgu h6 fun r => .ok f r
 rw [(jgu h6 _).1]
 obtain ⟨u3, e4, h8⟩ := jd1 hh (.inl rfl) h7
 rw [e4];rw [jmi]
 obtain ⟨_, h9⟩ := jgu h8 fun r => .ok f r
 rw [(jgu h8 _).1, h9.nil]
theorem jyC {n m : Nat} (hm : m < 8) : PS n (tkS fu (.mk 5 m eB [])) (.mk 5 m eB []) := by
 refine PS.eq (t := [jai wTimer, jge m, jac pSemi]) ?_ rfl;intro ts r hb he
 obtain ⟨p, q, _, t, k, h1⟩ := jav hb
 show stG _ _ ts = _
 unfold stG;rw [if_neg (by rw [q]; decide), if_neg (by rw [k]; decide), t];rw [if_neg (by decide), if_neg (by decide), if_neg (by decide), if_pos rfl]
 obtain ⟨_, h4⟩ := jwZ h1 8 (by omega) fun _ r => .ok (.mk 0 0 eB []) r
 rw [(jwZ h1 8 (by omega) _).1]
 obtain ⟨_, h9⟩ := jgu h4 fun r => .ok (.mk 0 0 eB []) r
 rw [(jgu h4 _).1, h9.nil]
theorem jxZ {n m : Nat} (hm : m < 8) : PS n (tkS fu (.mk 6 m eB [])) (.mk 6 m eB []) := by
 refine PS.eq (t := [jai wCancel, jge m, jac pSemi]) ?_ rfl;intro ts r hb he
 obtain ⟨p, q, _, t, k, h1⟩ := jav hb
 show stG _ _ ts = _
 unfold stG;rw [if_neg (by rw [q]; decide), if_neg (by rw [k]; decide), t];rw [if_neg (by decide), if_neg (by decide), if_neg (by decide), if_neg (by decide), if_pos rfl]
 obtain ⟨_, h4⟩ := jwZ h1 8 (by omega) fun _ r => .ok (.mk 0 0 eB []) r
 rw [(jwZ h1 8 (by omega) _).1]
 obtain ⟨_, h9⟩ := jgu h4 fun r => .ok (.mk 0 0 eB []) r
 rw [(jgu h4 _).1, h9.nil]
theorem jyJ {n : Nat} : PS n (tkS fu (.mk 7 0 eB [])) (.mk 7 0 eB []) := by
 refine PS.eq (t := [jai wSync, jac pSemi]) ?_ rfl;intro ts r hb he
 obtain ⟨p, q, _, t, k, h1⟩ := jav hb
 show stG _ _ ts = _
 unfold stG;rw [if_neg (by rw [q]; decide), if_neg (by rw [k]; decide), t];rw [if_neg (by decide), if_neg (by decide), if_neg (by decide), if_neg (by decide), if_neg (by decide), if_pos rfl]
 obtain ⟨_, h9⟩ := jgu h1 fun r => .ok (.mk 0 0 eB []) r
 rw [(jgu h1 _).1, h9.nil]
theorem jxO {n : Nat} {f g : Nt} (hf : PE (jaw n) 1 (tkN fu f 1) f) (hg : PE (jaw n) 1 (tkN fu g 1) g) : PS n (tkS fu (.mk 8 0 eB [f, g])) (.mk 8 0 eB [f, g]) := by
 refine PS.eq (t := jai wReply :: (tkN fu f 1 ++ jac pComma :: (tkN fu g 1 ++ [jac pSemi]))) ?_ (by rw [<- jo0]; rfl);intro ts r hb he
 obtain ⟨p, q, _, t, k, h1⟩ := jav hb
 show stG _ _ ts = _
 unfold stG;rw [if_neg (by rw [q]; decide), if_neg (by rw [k]; decide), t]
 obtain ⟨u2, e3, h6⟩ := jd1 hf (.inr (.inl rfl)) h1
 rw [if_neg (by decide), if_neg (by decide), if_neg (by decide), if_neg (by decide), if_neg (by decide), if_neg (by decide), if_pos rfl, e3];rw [jmi]
 obtain ⟨_, h7⟩ := jgu h6 fun r => .ok f r
 rw [(jgu h6 _).1]
 obtain ⟨u3, e4, h8⟩ := jd1 hg (.inl rfl) h7
 rw [e4];rw [jmi]
 obtain ⟨_, h9⟩ := jgu h8 fun r => .ok f r
 rw [(jgu h8 _).1, h9.nil]
theorem jy9 {n : Nat} {f : Nt} (hf : PE (jaw n) 1 (tkN fu f 1) f) : PS n (tkS fu (.mk 9 0 eB [f])) (.mk 9 0 eB [f]) := by
 refine PS.eq (t := jai wFail :: (tkN fu f 1 ++ [jac pSemi])) ?_ (by rw [<- jop]; rfl);intro ts r hb he
 obtain ⟨p, q, _, t, k, h1⟩ := jav hb
 show stG _ _ ts = _
 unfold stG;rw [if_neg (by rw [q]; decide), if_neg (by rw [k]; decide), t]
 obtain ⟨u3, e4, h8⟩ := jd1 hf (.inl rfl) h1
 rw [if_neg (by decide), if_neg (by decide), if_neg (by decide), if_neg (by decide), if_neg (by decide), if_neg (by decide), if_neg (by decide), if_pos rfl, e4];rw [jmi]
 obtain ⟨_, h9⟩ := jgu h8 fun r => .ok f r
 rw [(jgu h8 _).1, h9.nil]
theorem jxt {n : Nat} : PS n (tkS fu (.mk 10 0 eB [])) (.mk 10 0 eB []) := by
 refine PS.eq (t := [jai wStop, jac pSemi]) ?_ rfl;intro ts r hb he
 obtain ⟨p, q, _, t, k, h1⟩ := jav hb
 show stG _ _ ts = _
 unfold stG;rw [if_neg (by rw [q]; decide), if_neg (by rw [k]; decide), t];rw [if_neg (by decide), if_neg (by decide), if_neg (by decide), if_neg (by decide), if_neg (by decide), if_neg (by decide), if_neg (by decide), if_neg (by decide), if_pos rfl]
 obtain ⟨_, h9⟩ := jgu h1 fun r => .ok (.mk 0 0 eB []) r
 rw [(jgu h1 _).1, h9.nil]
def StS (t : List Co) : Prop := ∃ s l, t = jai s :: l /\ s ≠ wElse /\ s ≠ pRb
theorem jAr {n : Nat} (m : List Nt) (hm : ∀ f ∈ m, PS n (tkS fu f) f /\ StS (tkS fu f)) : ∀ (acc : List Nt) (ts r : List Tk) (k : Nat), Beg ((m.map (tkS fu)).flatten ++ [jac pRb]) ts r -> m.length + 1 <= k -> ji3 (stL n) k acc ts = .ok (jbc (acc ++ m)) r := by
 induction m with
 | nil =>
  intro acc ts r k hb hk
  obtain ⟨j, rfl⟩ : ∃ j, k = j + 1 := ⟨k - 1, by simp at hk; omega⟩
  have hb : Beg [jac pRb] ts r := hb
  obtain ⟨p, _, _, hr⟩ := jcN hb
  rw [ji3, if_pos (by rw [p]; decide), List.append_nil, hr.nil]
 | cons f m ih =>
  intro acc ts r k hb hk
  obtain ⟨j, rfl⟩ : ∃ j, k = j + 1 := ⟨k - 1, by simp at hk; omega⟩
  rw [List.map_cons, List.flatten_cons, List.append_assoc] at hb
  obtain ⟨hf, s, l, hs, hs1, hs2⟩ := hm f List.mem_cons_self
  obtain ⟨u, h1, h2⟩ := hb.app
  have hel : isP wElse u = false := by
   cases m with
   | nil =>
    have h2 : Beg [jac pRb] u r := h2
    obtain ⟨p, _⟩ := jcN h2
    rw [p]; decide
   | cons g m =>
    obtain ⟨_, s2, l2, hs2, hs3, _⟩ := hm g (by simp)
    rw [List.map_cons, List.flatten_cons, hs2] at h2
    obtain ⟨p, _⟩ := jav (b := l2 ++ (m.map (tkS fu)).flatten ++ [jac pRb]) (ts := u) (r := r) (by simpa using h2)
    rw [p, decide_eq_false hs3]
  have h3 := hf ts u h1 hel
  have hrb : isP pRb ts = false := by
   rw [hs] at h1
   obtain ⟨p, _⟩ := jav h1
   rw [p, decide_eq_false hs2]
  rw [ji3, if_neg (by rw [hrb]; decide), h3]
  show ji3 (stL n) j (acc ++ [f]) u = _
  rw [ih (fun g hg => hm g (List.mem_cons_of_mem _ hg)) (acc ++ [f]) u r j h2 (by simp at hk; omega), List.append_assoc];rfl
def PBk (n : Nat) (t : List Co) (f : Nt) : Prop := ∀ ts r, Beg t ts r -> bkF (stL n) ts = .ok f r
theorem jnK {n : Nat} (m : List Nt) (hm : ∀ f ∈ m, PS n (tkS fu f) f /\ StS (tkS fu f)) : PBk n (tkB fu (jbc m)) (jbc m) := fun ts r hb => by
 have e2 : tkB fu (jbc m) = jac pLb :: ((m.map (tkS fu)).flatten ++ [jac pRb]) := by
  unfold jbc;rw [tkB, jgS]; rfl
 rw [e2] at hb
 obtain ⟨_, h1⟩ := jgu hb fun r => .ok (.mk 0 0 eB []) r
 unfold bkF;rw [(jgu hb _).1]
 have hlen : m.length <= (m.map (tkS fu)).flatten.length := by
  have : ∀ l : List Nt, (∀ f ∈ l, StS (tkS fu f)) -> l.length <= (l.map (tkS fu)).flatten.length := fun l => by
   induction l with
   | nil => intro _; exact Nat.zero_le _
   | cons f l ih =>
    intro h
    have h1 := ih fun g hg => h g (List.mem_cons_of_mem _ hg)
    obtain ⟨s, l2, hs, _⟩ := h f List.mem_cons_self
    rw [List.map_cons, List.flatten_cons, List.length_append, hs, List.length_cons, List.length_cons];omega
  exact this m fun f hf => (hm f hf).2
 have hl := h1.len
 rw [List.length_append] at hl;simp only [List.length_cons, List.length_nil] at hl;rw [jAr m hm [] ts.tail r _ h1 (by omega)];rfl
theorem jyU {n : Nat} {c b : Nt} (hc : PE (jaw (n + 1)) 1 (tkN fu c 1) c) (hb : PBk n (tkB fu b) b) (hl : ∃ l, tkB fu b = jac pLb :: l) : PS (n + 1) (tkS fu (.mk 3 0 eB [c, b])) (.mk 3 0 eB [c, b]) := by
 refine PS.eq (t := jai wWhile :: (tkN fu c 1 ++ tkB fu b)) ?_ rfl;intro ts r h0 he
 obtain ⟨l, hl⟩ := hl
 obtain ⟨p, q, _, t, k, h1⟩ := jav h0
 show stG _ _ ts = _
 unfold stG;rw [if_neg (by rw [q]; decide), if_neg (by rw [k]; decide), t];rw [hl] at h1
 obtain ⟨u, e2, h2⟩ := jd1 hc (.inr (.inr rfl)) h1
 rw [<- hl] at h2
 have h3 := hb u r h2
 rw [joI, if_neg (by decide), if_pos rfl, e2]
 show (bkF (stL n) u).andThen _ = _
 rw [h3];rfl
theorem jxk {n : Nat} {c b d : Nt} (hc : PE (jaw (n + 1)) 1 (tkN fu c 1) c) (hb : PBk n (tkB fu b) b) (hl : ∃ l, tkB fu b = jac pLb :: l) (hd : PBk n (tkB fu d) d) (hd0 : d.kids.length = 0 -> d = jbc []) : PS (n + 1) (tkS fu (.mk 2 0 eB [c, b, d])) (.mk 2 0 eB [c, b, d]) := by
 have e2 : tkS fu (.mk 2 0 eB [c, b, d]) = if 0 < d.kids.length then jai wIf :: tkN fu c 1 ++ tkB fu b ++ jai wElse :: tkB fu d else jai wIf :: tkN fu c 1 ++ tkB fu b := rfl
 obtain ⟨l, hl⟩ := hl
 by_cases hz : 0 < d.kids.length
 ·rw [if_pos hz] at e2;refine PS.eq (t := jai wIf :: (tkN fu c 1 ++ (tkB fu b ++ jai wElse :: tkB fu d))) ?_ (by rw [e2]; simp);intro ts r h0 he
  obtain ⟨p, q, _, t, k, h1⟩ := jav h0
  show stG _ _ ts = _
  unfold stG;rw [if_neg (by rw [q]; decide), if_neg (by rw [k]; decide), t];rw [hl] at h1
  obtain ⟨u, e2, h2⟩ := jd1 hc (.inr (.inr rfl)) h1
  have h2 : Beg ((jac pLb :: l) ++ jai wElse :: tkB fu d) u r := h2
  rw [<- hl] at h2
  obtain ⟨v, h4, h5⟩ := h2.app
  have h3 := hb u v h4
  obtain ⟨p, _, _, _, _, h6⟩ := jav h5
  have h7 := hd v.tail r h6
  rw [joI, if_pos rfl, e2]
  show (bkF (stL n) u).andThen _ = _
  rw [h3]
  show (if isP wElse v = true then _ else _) = _
  rw [p, if_pos (by decide), h7];rfl
 ·rw [if_neg hz] at e2;refine PS.eq (t := jai wIf :: (tkN fu c 1 ++ tkB fu b)) ?_ (by rw [e2]; rfl);intro ts r h0 he
  obtain ⟨p, q, _, t, k, h1⟩ := jav h0
  show stG _ _ ts = _
  unfold stG;rw [if_neg (by rw [q]; decide), if_neg (by rw [k]; decide), t];rw [hl] at h1
  obtain ⟨u, e2, h2⟩ := jd1 hc (.inr (.inr rfl)) h1
  rw [<- hl] at h2
  have h3 := hb u r h2
  rw [joI, if_pos rfl, e2]
  show (bkF (stL n) u).andThen _ = _
  rw [h3]
  show (if isP wElse r = true then _ else _) = _
  rw [he, if_neg (by decide), hd0 (by omega)]
theorem jut (m : List Nt) : ∃ l, tkB fu (jbc m) = jac pLb :: l := by
 unfold jbc;rw [tkB];exact ⟨_, rfl⟩
theorem jnP {d : Nat} {f : Nt} (h : ES d f) : StS (tkS fu f) := by
 have kw : ∀ (s : ByteArray) (l : List Co), (s ≠ wElse /\ s ≠ pRb) -> StS (jai s :: l) := fun s l h => ⟨s, l, rfl, h.1, h.2⟩
 have hv : ∀ s ∈ varL, s ≠ wElse /\ s ≠ pRb := by decide
 cases h with
 | asg d e s f hs h he => exact kw s _ (hv s hs)
 | snd d n f g h hn h1 h2 h3 => exact kw wSend _ (by decide)
 | tim d n hn => exact kw wTimer _ (by decide)
 | can d n hn => exact kw wCancel _ (by decide)
 | syn d => exact kw wSync _ (by decide)
 | rep d f g h1 h2 => exact kw wReply _ (by decide)
 | fai d f h1 => exact kw wFail _ (by decide)
 | stp d => exact kw wStop _ (by decide)
 | whi d c l h1 h2 h3 => exact kw wWhile _ (by decide)
 | iff d c l m h1 h2 h3 h4 h5 =>
  have e2 : tkS fu (.mk 2 0 eB [c, jbc l, jbc m]) = if 0 < (jbc m).kids.length then jai wIf :: (tkN fu c 1 ++ tkB fu (jbc l) ++ jai wElse :: tkB fu (jbc m)) else jai wIf :: (tkN fu c 1 ++ tkB fu (jbc l)) := rfl
  rw [e2]
  split
  ·exact kw wIf _ (by decide)
  ·exact kw wIf _ (by decide)
theorem jAh {d : Nat} {f : Nt} (h : ES d f) : ∀ n, d + 6 <= n -> PS n (tkS fu f) f := by
 induction h with
 | asg d e s f hs h he => intro n hn; exact jyw hs (jw0 h (by omega))
 | snd d m f g h hm h1 h2 h3 => intro n hn; exact jz3 (by omega) (jw0 h1 (by omega)) (jw0 h2 (by omega)) (jw0 h3 (by omega))
 | tim d m hm => intro n hn; exact jyC (by omega)
 | can d m hm => intro n hn; exact jxZ (by omega)
 | syn d => intro n hn; exact jyJ
 | rep d f g h1 h2 => intro n hn; exact jxO (jw0 h1 (by omega)) (jw0 h2 (by omega))
 | fai d f h1 => intro n hn; exact jy9 (jw0 h1 (by omega))
 | stp d => intro n hn; exact jxt
 | whi d c l h1 h2 h3 ih =>
  intro n hn
  obtain ⟨k, rfl⟩ : ∃ k, n = k + 1 := ⟨n - 1, by omega⟩
  exact jyU (jB2 h1 (by omega)) (jnK l fun f hf => ⟨ih f hf k (by omega), jnP (h3 f hf)⟩) (jut l)
 | iff d c l m h1 h2 h3 h4 h5 ih1 ih2 =>
  intro n hn
  obtain ⟨k, rfl⟩ : ∃ k, n = k + 1 := ⟨n - 1, by omega⟩
  refine jxk (jB2 h1 (by omega)) (jnK l fun f hf => ⟨ih1 f hf k (by omega), jnP (h3 f hf)⟩) (jut l) (jnK m fun f hf => ⟨ih2 f hf k (by omega), jnP (h5 f hf)⟩) fun hz => ?_
  have hz : m.length = 0 := hz
  rw [List.length_eq_zero_iff.1 hz]
theorem jxR {b : Nt} (h : EK b) (n : Nat) (hn : 8 <= n) : PBk n (tkB fu b) b := by
 obtain ⟨k, rfl, h1, h2⟩ := h
 exact jnK k fun f hf => ⟨jAh (h2 f hf) n (by omega), jnP (h2 f hf)⟩
end
section
theorem jzd {n : Int} (h0 : 0 <= n) (h1 : n < 40) {b : List Co} {ts r : List Tk} (hb : Beg (jno n ++ b) ts r) : ∃ u, hnF ts = .ok n u /\ Beg b u r := by
 have num : ∀ (m : Nat) (limit off : Int) (q s : List Tk), (m : Int) < limit -> Beg (jge m :: b) q s -> jpI limit off q = .ok (off + m) q.tail /\ Beg b q.tail s := fun m limit off q s hl hq => by
  obtain ⟨hc, hr, _⟩ := hq.cons
  refine ⟨?_, hr⟩;unfold jpI;rw [show (hd q).kind = 2 from (jcu hc).1, show (hd q).n = m from (jcu hc).2, if_neg (by decide), if_neg (by omega)]
 unfold jno at hb
 by_cases e1 : n = 1
 ·subst e1;rw [if_pos rfl] at hb
  obtain ⟨p, _, _, _, _, hr⟩ := jav (b := b) hb
  refine ⟨ts.tail, ?_, hr⟩;unfold hnF;rw [p, p, if_neg (by decide), if_pos (by decide)]
 rw [if_neg e1] at hb
 by_cases e10 : 10 <= n
 ·rw [if_pos e10] at hb
  obtain ⟨p, _, _, _, _, hr⟩ := jav (b := jge (n - 10).toNat :: b) hb
  obtain ⟨q1, q2⟩ := num (n - 10).toNat 30 10 ts.tail r (by omega) hr
  refine ⟨_, ?_, q2⟩;unfold hnF;rw [p, p, p, p, if_neg (by decide), if_neg (by decide), if_neg (by decide), if_pos (by decide), q1]
  congr 1; omega
 rw [if_neg e10] at hb
 by_cases e2 : 2 <= n
 ·rw [if_pos e2] at hb
  obtain ⟨p, _, _, _, _, hr⟩ := jav (b := jge (n - 2).toNat :: b) hb
  obtain ⟨q1, q2⟩ := num (n - 2).toNat 8 2 ts.tail r (by omega) hr
  refine ⟨_, ?_, q2⟩;unfold hnF;rw [p, p, p, if_neg (by decide), if_neg (by decide), if_pos (by decide), q1]
  congr 1; omega
 rw [if_neg e2] at hb
 obtain ⟨p, _, _, _, _, hr⟩ := jav (b := b) hb
 refine ⟨ts.tail, ?_, hr⟩;unfold hnF;rw [p, if_pos (by decide)]
 congr 1; omega
variable {fu : Bool}
def HO (fu : Bool) (x : Int × Nt) : Prop := 0 <= x.1 /\ x.1 < 40 /\ PBk 19 (tkB fu x.2) x.2
theorem jxM (l : List (Int × Nt)) (k : Int) (h : ∀ x ∈ l, x.1 ≠ k) : l.any (fun h => decide (h.1 = k)) = false := by
 rw [List.any_eq_false];intro x hx
 simpa using h x hx
theorem jwo (l : List (Int × Nt)) : l.length <= ((l.map (jdt fu)).flatten).length := by
 induction l with
 | nil => exact Nat.zero_le _
 | cons x l ih =>
  rw [List.map_cons, List.flatten_cons, List.length_append, List.length_cons]
  have : 1 <= (jdt fu x).length := by unfold jdt; simp
  omega
def ju3 (a : ByteArray) : Bool := !(keyL ++ builtL).any fun x => decide (a = x)
theorem GU.ho {u : Ut} (h : GU u) : ∀ x ∈ u.on, HO fu x := fun x hx => by
 obtain ⟨h1, h2, h3, h4, h5⟩ := h
 obtain ⟨g1, g2, g3⟩ := h3 x hx
 exact ⟨g1, g2, jxR g3 19 (by decide)⟩
theorem TN.row {s : ByteArray} {l : List Co} (h : TN s l) : (jb4 s).err = none /\ Beg l (jko s) [jf1 s] := by
 obtain ⟨ts, h1, h2⟩ := jqt l false 0 h.lx h.fi
 rw [<- h.eq] at h1
 have h3 : jb4 s = ⟨ts, none⟩ := h1
 rw [jda (by rw [h3]), h3];exact ⟨rfl, ts, rfl, h2⟩
theorem jnz {s : ByteArray} (hs : s.size <= 3000) (he : (jb4 s).err = none) : jgx s = jtw (jko s) := by
 unfold jgx;rw [if_neg (by omega), he]
end
section
def tW (κ : Nat) : List Co -> Nat
 | [] => 0
 | c :: l => c.text.length + κ + tW κ l
theorem jbg (κ : Nat) (l m : List Co) : tW κ (l ++ m) = tW κ l + tW κ m := by
 induction l with
 | nil => show tW κ m = 0 + _; omega
 | cons c l ih => show c.text.length + κ + tW κ (l ++ m) = c.text.length + κ + tW κ l + tW κ m; omega
theorem jad (κ : Nat) (c : Co) (l : List Co) : tW κ (c :: l) = c.text.length + κ + tW κ l := rfl
theorem jbE (κ : Nat) : tW κ [] = 0 := rfl
theorem jkg : ∀ (l : List Co), (glR l).size <= tW 1 l
 | [] => Nat.zero_le _
 | c :: l => by
  have h1 := jkg l
  have h2 := ja0 (bs c.text) (glR l)
  have h3 : (bs c.text).size = c.text.length := jbB _
  show (ja1 _ _).size <= c.text.length + 1 + tW 1 l
  omega
theorem jcD (s : ByteArray) : (jac s).text.length = s.size := rfl
theorem jcJ (s : ByteArray) : (jai s).text.length = s.size := rfl
theorem jp8 (n : Nat) : (jge n).text.length = (jb1 n).length := rfl
theorem jra (κ : Nat) (p lv : Int) (fu : Bool) (l : List Co) (hl : lv <= 8) : tW κ (jd5 p lv fu l) <= tW κ l + (if p = 8 then 0 else 2 + 2 * κ) := by
 rcases jbC p lv fu l hl with ⟨e, h⟩ | ⟨e, h⟩
 ·rw [e]; omega
 ·rw [e, if_neg (by omega), jbg, jad, jad, jcD, jcD, jbE]
  have e1 : pLp.size = 1 := rfl
  have e2 : pRp.size = 1 := rfl
  omega
variable {fu : Bool} (κ : Nat)
theorem jy1 : ∀ n ∈ litL, (jb1 n.toNat).length <= dgN n := by decide +kernel
theorem jAE : ∀ s ∈ opL, jab 18 s <= 6 /\ 5 <= jab 18 s := by decide
theorem jkb {d : Nat} {f : Nt} (h : EI d f) : ∀ lv : Int, lv <= 8 -> tW κ (tkN fu f lv) <= wN κ f := by
 induction h with
 | lit d n h =>
  intro lv hl
  have h1 := jy1 n h
  rw [show tkN fu (.mk 12 n eB []) lv = jd5 8 lv fu [jge n.toNat] from rfl, jeB hl, jad, jp8, jbE, juj];omega
 | var d s h =>
  intro lv hl;rw [show tkN fu (.mk 14 0 s []) lv = jd5 8 lv fu [jai s] from rfl, jeB hl, jad, jcJ, jbE, jv1];omega
 | nam d s h =>
  intro lv hl;rw [show tkN fu (.mk 15 0 s []) lv = jd5 8 lv fu [jai s] from rfl, jeB hl, jad, jcJ, jbE, jus];omega
 | drw d f h ih =>
  intro lv hl
  have h1 := ih 1 (by omega)
  have e1 : wDraw.size = 4 := rfl
  have e2 : pLp.size = 1 := rfl
  have e3 : pRp.size = 1 := rfl
  rw [show tkN fu (.mk 16 0 eB [f]) lv = jd5 8 lv fu (jai wDraw :: jac pLp :: (tkN fu f 1 ++ [jac pRp])) from rfl, jeB hl, jad, jad, jbg, jad, jbE, jcJ, jcD, jcD, jue];omega
 | neg d f h ih =>
  intro lv hl
  have h1 := ih 7 (by omega)
  have e1 : pMinus.size = 1 := rfl
  have hp := jra κ 7 lv fu (jac pMinus :: tkN fu f 7) hl
  rw [jad, jcD, if_neg (by decide)] at hp;rw [show tkN fu (.mk 17 0 pMinus [f]) lv = jd5 7 lv fu (jac pMinus :: tkN fu f 7) from rfl, jns];omega
 | bin d s f g hs h1 h2 i1 i2 =>
  intro lv hl
  have hp6 := jAE s hs
  have hp := jra κ (jab 18 s) lv fu (tkN fu f (if jab 18 s = 4 then 5 else jab 18 s) ++ jac s :: tkN fu g (jab 18 s + 1)) hl
  rw [jbg, jad, jcD, if_neg (by omega), if_neg (by omega)] at hp
  have a1 := i1 (jab 18 s) (by omega)
  have a2 := i2 (jab 18 s + 1) (by omega)
  rw [show tkN fu (.mk 18 0 s [f, g]) lv = jd5 (jab 18 s) lv fu (tkN fu f (if jab 18 s = 4 then 5 else jab 18 s) ++ jac s :: tkN fu g (jab 18 s + 1)) from rfl, if_neg (by omega), jiq];omega
theorem jyu : ∀ s ∈ bolL, jab 18 s <= 2 := by decide
theorem jyF : ∀ s ∈ cmpL, jab 18 s = 4 := by decide
theorem jy7 {d : Nat} {f : Nt} (h : EB d f) : ∀ lv : Int, lv <= 8 -> tW κ (tkN fu f lv) <= wN κ f := by
 induction h with
 | lit d n h =>
  intro lv hl
  have h1 : (tfB n).size <= 5 := by rcases (by omega : n = 0 ∨ n = 1) with rfl | rfl <;> decide
  rw [show tkN fu (.mk 13 n eB []) lv = jd5 8 lv fu [jai (tfB n)] from rfl, jeB hl, jad, jcJ, jbE, jq7];omega
 | nt d f h ih =>
  intro lv hl
  have h1 := ih 3 (by omega)
  have e1 : pNot.size = 1 := rfl
  have hp := jra κ 3 lv fu (jac pNot :: tkN fu f 3) hl
  rw [jad, jcD, if_neg (by decide)] at hp;rw [show tkN fu (.mk 17 0 pNot [f]) lv = jd5 3 lv fu (jac pNot :: tkN fu f 3) from rfl, jns];omega
 | bin d s f g hs h1 h2 i1 i2 =>
  intro lv hl
  have hp6 := jyu s hs
  have hp := jra κ (jab 18 s) lv fu (tkN fu f (if jab 18 s = 4 then 5 else jab 18 s) ++ jac s :: tkN fu g (jab 18 s + 1)) hl
  rw [jbg, jad, jcD, if_neg (by omega), if_neg (by omega)] at hp
  have a1 := i1 (jab 18 s) (by omega)
  have a2 := i2 (jab 18 s + 1) (by omega)
  rw [show tkN fu (.mk 18 0 s [f, g]) lv = jd5 (jab 18 s) lv fu (tkN fu f (if jab 18 s = 4 then 5 else jab 18 s) ++ jac s :: tkN fu g (jab 18 s + 1)) from rfl, if_neg (by omega), jiq];omega
 | cmp d s f g hs h1 h2 =>
  intro lv hl
  have hp6 := jyF s hs
  have hp := jra κ 4 lv fu (tkN fu f 5 ++ jac s :: tkN fu g 5) hl
  rw [jbg, jad, jcD, if_neg (by omega)] at hp
  have a1 := jkb (fu := fu) κ h1 5 (by omega)
  have a2 := jkb (fu := fu) κ h2 5 (by omega)
  rw [show tkN fu (.mk 18 0 s [f, g]) lv = jd5 (jab 18 s) lv fu (tkN fu f (if jab 18 s = 4 then 5 else jab 18 s) ++ jac s :: tkN fu g (jab 18 s + 1)) from rfl, hp6, jiq]
  show tW κ (jd5 4 lv fu (tkN fu f 5 ++ jac s :: tkN fu g 5)) <= _
  omega
theorem jh0 : ∀ n, n < 10 -> (jb1 n).length <= 1 := by decide +kernel
theorem jrx : ∀ n, n < 40 -> (jb1 n).length <= 2 := by decide +kernel
theorem jof (l : List Nt) (h : ∀ f ∈ l, tW κ (tkS fu f) <= wS κ f) : tW κ (tkB fu (jbc l)) <= wB κ (jbc l) := by
 have e1 : pLb.size = 1 := rfl
 have e2 : pRb.size = 1 := rfl
 have e : tkB fu (jbc l) = jac pLb :: (l.map (tkS fu)).flatten ++ [jac pRb] := by
  unfold jbc;rw [tkB, jgS]
 have key : tW κ (l.map (tkS fu)).flatten <= wSs κ l := by
  clear e
  induction l with
  | nil => exact Nat.zero_le _
  | cons f l ih =>
   have h1 := h f List.mem_cons_self
   have h2 := ih fun g hg => h g (List.mem_cons_of_mem _ hg)
   rw [List.map_cons, List.flatten_cons, jbg, wSs];omega
 rw [e, jlW, jbg, jad, jad, jcD, jcD, jbE];omega
theorem jAK {d : Nat} {f : Nt} (h : ES d f) : tW κ (tkS fu f) <= wS κ f := by
 have z1 : pSemi.size = 1 := rfl
 have z2 : pComma.size = 1 := rfl
 have z3 : pEq.size = 1 := rfl
 have z4 : wSend.size = 4 := rfl
 have z5 : wTimer.size = 5 := rfl
 have z6 : wCancel.size = 6 := rfl
 have z7 : wSync.size = 4 := rfl
 have z8 : wReply.size = 5 := rfl
 have z9 : wFail.size = 4 := rfl
 have z10 : wStop.size = 4 := rfl
 have z11 : wWhile.size = 5 := rfl
 have z12 : wIf.size = 2 := rfl
 have z13 : wElse.size = 4 := rfl
 induction h with
 | asg d e s f hs h he =>
  have a := jkb (fu := fu) κ h 1 (by omega)
  rw [show tkS fu (.mk 1 0 s [f]) = jai s :: jac pEq :: lsT fu [f] from rfl, jop, jad, jad, jbg, jad, jbE, jcJ, jcD, jcD, jpR];omega
 | snd d n f g h hn h1 h2 h3 =>
  have a1 := jkb (fu := fu) κ h1 1 (by omega)
  have a2 := jkb (fu := fu) κ h2 1 (by omega)
  have a3 := jkb (fu := fu) κ h3 1 (by omega)
  have d1 := jh0 n (by omega)
  rw [show tkS fu (.mk 4 n eB [f, g, h]) = jai wSend :: (tkN fu f 1 ++ jac pComma :: jge n :: jac pComma :: lsT fu [g, h]) from rfl, jo0, jad, jbg, jad, jad, jad, jbg, jad, jbg, jad, jbE, jcJ, jcD, jcD, jp8, jup];omega
 | tim d n hn =>
  have d1 := jh0 n (by omega)
  rw [show tkS fu (.mk 5 n eB []) = [jai wTimer, jge n, jac pSemi] from rfl, jad, jad, jad, jbE, jcJ, jcD, jp8, juh];omega
 | can d n hn =>
  have d1 := jh0 n (by omega)
  rw [show tkS fu (.mk 6 n eB []) = [jai wCancel, jge n, jac pSemi] from rfl, jad, jad, jad, jbE, jcJ, jcD, jp8, juI];omega
 | syn d =>
  rw [show tkS fu (.mk 7 0 eB []) = [jai wSync, jac pSemi] from rfl, jad, jad, jbE, jcJ, jcD, juN];omega
 | rep d f g h1 h2 =>
  have a1 := jkb (fu := fu) κ h1 1 (by omega)
  have a2 := jkb (fu := fu) κ h2 1 (by omega)
  rw [show tkS fu (.mk 8 0 eB [f, g]) = jai wReply :: lsT fu [f, g] from rfl, jo0, jad, jbg, jad, jbg, jad, jbE, jcJ, jcD, jcD, juF];omega
 | fai d f h1 =>
  have a1 := jkb (fu := fu) κ h1 1 (by omega)
  rw [show tkS fu (.mk 9 0 eB [f]) = jai wFail :: lsT fu [f] from rfl, jop, jad, jbg, jad, jbE, jcJ, jcD, juG];omega
 | stp d =>
  rw [show tkS fu (.mk 10 0 eB []) = [jai wStop, jac pSemi] from rfl, jad, jad, jbE, jcJ, jcD, juc];omega
 | whi d c l h1 h2 h3 ih =>
  have a1 := jy7 (fu := fu) κ h1 1 (by omega)
  have a2 := jof (fu := fu) κ l ih
  rw [show tkS fu (.mk 3 0 eB [c, jbc l]) = jai wWhile :: (tkN fu c 1 ++ tkB fu (jbc l)) from rfl, jad, jbg, jcJ, juy];omega
 | iff d c l m h1 h2 h3 h4 h5 ih1 ih2 =>
  have a1 := jy7 (fu := fu) κ h1 1 (by omega)
  have a2 := jof (fu := fu) κ l ih1
  have a3 := jof (fu := fu) κ m ih2
  rw [show tkS fu (.mk 2 0 eB [c, jbc l, jbc m]) = (if 0 < (jbc m).kids.length then jai wIf :: (tkN fu c 1 ++ tkB fu (jbc l) ++ jai wElse :: tkB fu (jbc m)) else jai wIf :: (tkN fu c 1 ++ tkB fu (jbc l))) from rfl, juK]
  split
  ·rw [jad, jbg, jbg, jad, jcJ, jcJ];omega
  ·rw [jad, jbg, jcJ];omega
theorem jzx {b : Nt} (h : EK b) : tW κ (tkB fu b) <= wB κ b := by
 obtain ⟨k, rfl, h1, h2⟩ := h
 exact jof κ k fun f hf => jAK κ (h2 f hf)
theorem jAk {x : Int × Nt} (h0 : 0 <= x.1) (h1 : x.1 < 40) (hb : EK x.2) : tW κ (jdt fu x) <= 11 + 3 * κ + wB κ x.2 := by
 have a := jzx (fu := fu) κ hb
 have hw : tW κ (jno x.1) <= 9 + 2 * κ := by
  have z1 : wRequest.size = 7 := rfl
  have z2 : wMessage.size = 7 := rfl
  have z3 : wTimer.size = 5 := rfl
  have z4 : wStart.size = 5 := rfl
  have d1 := jrx (x.1 - 10).toNat (by omega)
  have d2 := jrx (x.1 - 2).toNat (by omega)
  unfold jno
  split
  ·rw [jad, jbE, jcJ]; omega
  ·split
   ·rw [jad, jad, jbE, jcJ, jp8]; omega
   ·split
    ·rw [jad, jad, jbE, jcJ, jp8]; omega
    ·rw [jad, jbE, jcJ]; omega
 have z : wOn.size = 2 := rfl
 rw [show jdt fu x = jai wOn :: (jno x.1 ++ tkB fu x.2) from rfl, jad, jbg, jcJ];omega
theorem jqb : ∀ (l : List (Int × Nt)), (∀ x ∈ l, 0 <= x.1 /\ x.1 < 40 /\ EK x.2) -> tW κ ((l.map (jdt fu)).flatten) <= wHs κ l
 | [], _ => Nat.zero_le _
 | x :: l, h => by
  obtain ⟨a, b, c⟩ := h x List.mem_cons_self
  have h1 := jAk (fu := fu) κ a b c
  have h2 := jqb l fun y hy => h y (List.mem_cons_of_mem _ hy)
  rw [List.map_cons, List.flatten_cons, jbg, wHs];omega
theorem jvR (l m : List (Int × Nt)) : wHs κ (l ++ m) = wHs κ l + wHs κ m := by
 induction l with
 | nil => show wHs κ m = 0 + _; omega
 | cons x l ih => show 11 + 3 * κ + wB κ x.2 + wHs κ (l ++ m) = 11 + 3 * κ + wB κ x.2 + wHs κ l + _; omega
theorem jw9 (l : List (Int × Nt)) : wHs κ l.reverse = wHs κ l := by
 induction l with
 | nil => rfl
 | cons x l ih => rw [List.reverse_cons, jvR, ih]; show wHs κ l + (11 + 3 * κ + wB κ x.2 + 0) = 11 + 3 * κ + wB κ x.2 + wHs κ l; omega
theorem jzY : tW κ dcTk = 26 + 10 * κ /\ tW κ jAx = 26 + 10 * κ := by
 unfold dcTk jAx;simp only [jad, jbE, jcD, jcJ]
 have z1 : wDurable.size = 7 := rfl
 have z2 : wVolatile.size = 8 := rfl
 have z3 : pComma.size = 1 := rfl
 have z4 : pSemi.size = 1 := rfl
 have z5 : (⟨#[100]⟩ : ByteArray).size = 1 := rfl
 have z6 : (⟨#[100, 100, 49]⟩ : ByteArray).size = 3 := rfl
 have z7 : (⟨#[118]⟩ : ByteArray).size = 1 := rfl
 have z8 : (⟨#[119, 50]⟩ : ByteArray).size = 2 := rfl
 omega
theorem GW.twK {u : Ut} (h : GW u) (ka : 1 <= κ) (kb : κ <= 7) : tW κ (jmc u) <= 884 + 296 * κ /\ tW κ (jAS u) <= 884 + 296 * κ /\ ∀ x ∈ u.on, tW κ (jdt false x) <= 858 + 286 * κ := by
 obtain ⟨⟨h1, h2, h3, h4, h5⟩, hw⟩ := h
 have hw := hw κ ka kb
 have a := jqb (fu := false) κ u.on h3
 have b := jqb (fu := true) κ u.on.reverse fun x hx => h3 x (List.mem_reverse.1 hx)
 have c := jzY κ
 rw [jw9] at b;refine ⟨by unfold jmc; rw [jbg]; omega, by unfold jAS; rw [jbg]; omega, fun x hx => ?_⟩
 obtain ⟨l, r, hl⟩ := List.append_of_mem hx
 rw [hl] at a hw;rw [List.map_append, List.map_cons, List.flatten_append, List.flatten_cons, jbg, jbg] at a;omega
theorem GW.size {u : Ut} (h : GW u) : (prF u).size <= 1180 := by
 have h1 := (jsY h.1).eq
 have h2 := jkg (jmc u)
 have h3 := (h.twK 1 (by omega) (by omega)).1
 rw [h1]; omega
end
section
set_option maxRecDepth 100000
end
section
set_option maxRecDepth 100000
end
section
def IsEnd (e : Tk) : Prop := e.kind = 0 /\ e.text = ⟨#[]⟩
def EnO (e : Tk) (p : Pn) : Prop := p = .bad e.pos 10 ∨ ∃ f, p = .ok f [e]
def jzl (e : Tk) (p : Pn) (m q : List Tk) (f : Nt) (r : List Tk) : Prop := (∃ a s, m = a ++ s /\ s ≠ [] /\ r = s ++ q /\ p = .ok f (s ++ [e])) ∨ ((∃ a, q = a ++ r) /\ EnO e p)
structure VS (e : Tk) (op : List Tk -> Pn) : Prop where
 su : ∀ ts f r, op ts = .ok f r -> ∃ a, ts = a ++ r
 v : ∀ m q f r, op (m ++ q) = .ok f r -> jzl e (op (m ++ [e])) m q f r
structure VP (e : Tk) (op : List Tk -> Pn) : Prop extends VS e op where
 en : EnO e (op [e])
variable {e : Tk}
theorem VS.okT (f : Nt) : VP e (fun r => .ok f r) where
 su := fun ts f r h => by cases h; exact ⟨[], rfl⟩
 v := fun m q f r h => by
  cases h
  cases m with
  | nil => exact .inr ⟨⟨[], rfl⟩, .inr ⟨f, rfl⟩⟩
  | cons t m => exact .inl ⟨[], t :: m, rfl, by simp, rfl, rfl⟩
 en := .inr ⟨f, rfl⟩
theorem VS.bad (x y : Int) : VS e (fun _ => .bad x y) where
 su := fun ts f r h => by cases h
 v := fun m q f r h => by cases h
theorem VP.syn : VP e synE where
 su := fun ts f r h => by cases h
 v := fun m q f r h => by cases h
 en := .inl rfl
theorem VS.andThen {op : List Tk -> Pn} {k : Nt -> List Tk -> Pn} (h1 : VS e op) (h2 : ∀ f, VP e (k f)) : VS e (fun ts => (op ts).andThen k) where
 su := fun ts f r h => by
  cases ho : op ts with
  | bad x y => rw [ho] at h; cases h
  | ok g u =>
   rw [ho] at h
   obtain ⟨a, ha⟩ := h1.su ts g u ho
   obtain ⟨b, hb⟩ := (h2 g).su u f r h
   exact ⟨a ++ b, by rw [ha, hb, List.append_assoc]⟩
 v := fun m q f r h => by
  cases ho : op (m ++ q) with
  | bad x y => rw [ho] at h; cases h
  | ok g u =>
   rw [ho] at h
   have h : k g u = .ok f r := h
   rcases h1.v m q g u ho with ⟨a, s, e1, e2, e3, e4⟩ | ⟨⟨a, ha⟩, h3⟩
   ·rw [e4]
    show jzl e (k g (s ++ [e])) m q f r
    rw [e3] at h
    rcases (h2 g).v s q f r h with ⟨b, s2, g1, g2, g3, g4⟩ | ⟨g1, g2⟩
    ·exact .inl ⟨a ++ b, s2, by rw [e1, g1, List.append_assoc], g2, g3, g4⟩
    ·exact .inr ⟨g1, g2⟩
   ·obtain ⟨b, hb⟩ := (h2 g).su u f r h
    refine .inr ⟨⟨a ++ b, by rw [ha, hb, List.append_assoc]⟩, ?_⟩
    rcases h3 with h3 | ⟨f2, h3⟩
    ·rw [h3]; exact .inl rfl
    ·rw [h3]; exact (h2 f2).en
theorem VP.andThen {op : List Tk -> Pn} {k : Nt -> List Tk -> Pn} (h1 : VP e op) (h2 : ∀ f, VP e (k f)) : VP e (fun ts => (op ts).andThen k) where
 toVS := h1.toVS.andThen h2
 en := by
  show EnO e ((op [e]).andThen k)
  rcases h1.en with h3 | ⟨f2, h3⟩
  ·rw [h3]; exact .inl rfl
  ·rw [h3]; exact (h2 f2).en
theorem VP.ite (g : Tk -> Prop) [DecidablePred g] {op1 : Tk -> List Tk -> Pn} {op2 : List Tk -> Pn} (hg : ¬ g e) (hn : ¬ g (hd [])) (h1 : ∀ t, VS e (op1 t)) (h2 : VP e op2) : VP e (fun ts => if g (hd ts) then op1 (hd ts) ts.tail else op2 ts) where
 su := fun ts f r h => by
  cases ts with
  | nil => rw [if_neg hn] at h; exact h2.su _ f r h
  | cons t ts =>
   by_cases ht : g t
   ·rw [if_pos (show g (hd (t :: ts)) from ht)] at h
    obtain ⟨a, ha⟩ := (h1 t).su ts f r h
    exact ⟨t :: a, by rw [ha]; rfl⟩
   ·rw [if_neg (show ¬ g (hd (t :: ts)) from ht)] at h;exact h2.su _ f r h
 v := fun m q f r h => by
  cases m with
  | nil =>
   have hs : ∃ a, q = a ++ r := by
    cases q with
    | nil =>
     rw [if_neg (show ¬ g (hd ([] ++ [])) from hn)] at h;exact h2.su [] f r h
    | cons t q =>
     by_cases ht : g t
     ·rw [if_pos (show g (hd ([] ++ t :: q)) from ht)] at h
      obtain ⟨a, ha⟩ := (h1 t).su q f r h
      exact ⟨t :: a, by rw [ha]; rfl⟩
     ·rw [if_neg (show ¬ g (hd ([] ++ t :: q)) from ht)] at h;exact h2.su _ f r h
   rw [if_neg (show ¬ g (hd ([] ++ [e])) from hg)];exact .inr ⟨hs, h2.en⟩
  | cons t m =>
   by_cases ht : g t
   ·rw [if_pos (show g (hd (t :: m ++ q)) from ht)] at h;rw [if_pos (show g (hd (t :: m ++ [e])) from ht)]
    rcases (h1 t).v m q f r h with ⟨a, s, e1, e2, e3, e4⟩ | h3
    ·exact .inl ⟨t :: a, s, by rw [e1]; rfl, e2, e3, e4⟩
    ·exact .inr h3
   ·rw [if_neg (show ¬ g (hd (t :: m ++ q)) from ht)] at h;rw [if_neg (show ¬ g (hd (t :: m ++ [e])) from ht)];exact h2.v (t :: m) q f r h
 en := by
  show EnO e (if g (hd [e]) then _ else _)
  rw [if_neg (show ¬ g (hd [e]) from hg)];exact h2.en
theorem VP.sel (g : Tk -> Prop) [DecidablePred g] {op1 op2 : List Tk -> Pn} (h1 : VP e op1) (h2 : VP e op2) : VP e (fun ts => if g (hd ts) then op1 ts else op2 ts) where
 su := fun ts f r h => by
  split at h
  ·exact h1.su _ f r h
  ·exact h2.su _ f r h
 v := fun m q f r h => by
  cases m with
  | nil =>
   have hs : ∃ a, q = a ++ r := by
    split at h
    ·exact h1.su _ f r h
    ·exact h2.su _ f r h
   refine .inr ⟨hs, ?_⟩
   show EnO e (if g (hd [e]) then op1 [e] else op2 [e])
   split
   ·exact h1.en
   ·exact h2.en
  | cons t m =>
   by_cases ht : g t
   ·rw [if_pos (show g (hd (t :: m ++ q)) from ht)] at h;rw [if_pos (show g (hd (t :: m ++ [e])) from ht)];exact h1.v (t :: m) q f r h
   ·rw [if_neg (show ¬ g (hd (t :: m ++ q)) from ht)] at h;rw [if_neg (show ¬ g (hd (t :: m ++ [e])) from ht)];exact h2.v (t :: m) q f r h
 en := by
  show EnO e (if g (hd [e]) then op1 [e] else op2 [e])
  split
  ·exact h1.en
  ·exact h2.en
def ji8 (s : ByteArray) (t : Tk) : Bool := decide (t.text = s) && (decide (t.kind = 1) || decide (t.kind = 3))
def jii (l : List ByteArray) (t : Tk) : Bool := l.any fun s => ji8 s t
def ju2 (t : Tk) : Bool := decide (t.kind = 1) && !(keyL ++ builtL).any fun s => decide (t.text = s)
def jvq (t : Tk) : Bool := decide (t.kind = 1) && builtL.any fun s => decide (t.text = s)
theorem IsEnd.p (he : IsEnd e) (s : ByteArray) : ¬ ji8 s e = true := by
 unfold ji8; rw [he.1];intro h;rw [Bool.and_eq_true] at h;exact absurd h.2 (by decide)
theorem end_hd : IsEnd (hd []) := ⟨rfl, rfl⟩
theorem IsEnd.any (he : IsEnd e) (l : List ByteArray) : ¬ jii l e = true := by
 unfold jii;rw [List.any_eq_true];rintro ⟨s, _, h⟩;exact he.p s h
theorem IsEnd.nm (he : IsEnd e) : ¬ ju2 e = true := by
 unfold ju2; rw [he.1];intro h;rw [Bool.and_eq_true] at h;exact absurd h.1 (by decide)
theorem IsEnd.bi (he : IsEnd e) : ¬ jvq e = true := by
 unfold jvq; rw [he.1];intro h;rw [Bool.and_eq_true] at h;exact absurd h.1 (by decide)
theorem VP.xpt (he : IsEnd e) (s : ByteArray) {k : List Tk -> Pn} (h : VS e k) : VP e (fun ts => Vm.xpt s ts k) :=
 VP.ite (fun t => ji8 s t = true) (op1 := fun _ => k) (op2 := synE) (he.p s) (end_hd.p s) (fun _ => h) VP.syn
theorem VP.num (he : IsEnd e) (limit : Int) {k : Int -> List Tk -> Pn} (h : ∀ n, VS e (k n)) : VP e (fun ts => jgL limit ts k) := by
 have h1 : VP e (fun ts => if (hd ts).kind = 2 then (fun t ts => if limit <= t.n then Pn.bad t.pos 6 else k t.n ts) (hd ts) ts.tail else synE ts) :=
  VP.ite (fun t => t.kind = 2) (op1 := fun t ts => if limit <= t.n then Pn.bad t.pos 6 else k t.n ts) (op2 := synE) (by rw [he.1]; decide) (by decide) (fun t => by
   by_cases hl : limit <= t.n
   ·simp only [if_pos hl]; exact VS.bad _ _
   ·simp only [if_neg hl]; exact h t.n) VP.syn
 have e1 : (fun ts => jgL limit ts k) = (fun ts => if (hd ts).kind = 2 then (fun t ts => if limit <= t.n then Pn.bad t.pos 6 else k t.n ts) (hd ts) ts.tail else synE ts) := by
  funext ts
  unfold jgL
  by_cases h2 : (hd ts).kind = 2
  ·rw [if_neg (by simp [h2]), if_pos h2]
  ·rw [if_pos h2, if_neg h2]
 rw [e1]; exact h1
structure VPa (e : Tk) (p : Pa) : Prop where
 no : VP e p.no
 un : VP e p.un
 ex : VP e p.ex
 bl : VP e p.bl
def jvn (e : Tk) (low : Option Pa) : Prop := ∀ p, low = some p -> VPa e p
theorem VP.nest (he : IsEnd e) {low : Option Pa} (hl : jvn e low) : VP e (jfZ low) := by
 cases low with
 | none => exact VP.ite (fun t => ji8 pLp t = true) (op1 := fun t _ => .bad t.pos 2) (op2 := synE) (he.p _) (end_hd.p _) (fun _ => VS.bad _ _) VP.syn
 | some p =>
  have h := hl p rfl
  exact VP.ite (fun t => ji8 pLp t = true) (op1 := fun t ts => (p.ex ts).andThen fun n r => Vm.xpt pRp r fun r' => .ok n r') (op2 := synE) (he.p _) (end_hd.p _) (fun _ => (h.ex.andThen fun f => VP.xpt he pRp (VS.okT f).toVS).toVS) VP.syn
theorem VP.prim (he : IsEnd e) {low : Option Pa} (hl : jvn e low) : VP e (jca low) :=
 VP.sel (fun t => ji8 pLp t = true) (VP.nest he hl) <|
 VP.ite (fun t => ji8 wDraw t = true) (op1 := fun _ ts => (jfZ low ts).andThen fun n r => .ok (.mk 16 0 eB [n]) r) (he.p _) (end_hd.p _) (fun _ => ((VP.nest he hl).andThen fun f => VS.okT _).toVS) <|
 VP.ite (fun t => t.kind = 2) (op1 := fun t ts => .ok (.mk 12 t.n eB []) ts) (by rw [he.1]; decide) (by decide) (fun _ => (VS.okT _).toVS) <|
 VP.ite (fun t => ji8 jhu t = true) (op1 := fun t ts => .ok (.mk 13 1 eB []) ts) (he.p _) (end_hd.p _) (fun _ => (VS.okT _).toVS) <|
 VP.ite (fun t => ji8 jdT t = true) (op1 := fun t ts => .ok (.mk 13 0 eB []) ts) (he.p _) (end_hd.p _) (fun _ => (VS.okT _).toVS) <|
 VP.ite (fun t => ju2 t = true) (op1 := fun t ts => .ok (.mk 14 0 t.text []) ts) he.nm end_hd.nm (fun _ => (VS.okT _).toVS) <|
 VP.ite (fun t => jvq t = true) (op1 := fun t ts => .ok (.mk 15 0 t.text []) ts) he.bi end_hd.bi (fun _ => (VS.okT _).toVS) VP.syn
theorem VP.pre (he : IsEnd e) (s : ByteArray) {op : Option (List Tk -> Pn)} (h : ∀ f, op = some f -> VP e f) {op2 : List Tk -> Pn} (h2 : VP e op2) : VP e (fun ts => if isP s ts = true then jpJ s op ts else op2 ts) := by
 cases op with
 | none => exact VP.ite (fun t => ji8 s t = true) (op1 := fun t _ => .bad t.pos 2) (he.p _) (end_hd.p _) (fun _ => VS.bad _ _) h2
 | some f => exact VP.ite (fun t => ji8 s t = true) (op1 := fun t ts => (f ts).andThen fun n r => .ok (.mk 17 0 s [n]) r) (he.p _) (end_hd.p _) (fun _ => ((h f rfl).andThen fun f => VS.okT _).toVS) h2
theorem VP.una (he : IsEnd e) {low : Option Pa} (hl : jvn e low) : VP e (jfK low) :=
 VP.pre he pMinus (op := low.map fun p : Pa => p.un) (fun f hf => by
  cases low with
  | none => cases hf
  | some p => cases hf; exact (hl p rfl).un) (VP.prim he hl)
def chnL (op : List Tk -> Pn) (signs : List ByteArray) (l : Nt) (ts : List Tk) : Pn := jcb op signs ts.length l ts
theorem jk1 {op : List Tk -> Pn} {signs : List ByteArray} (hs : ∀ ts f r, op ts = .ok f r -> ∃ a, ts = a ++ r) : ∀ (n k : Nat) (l : Nt) (ts : List Tk), ts.length <= n -> ts.length <= k -> jcb op signs n l ts = jcb op signs k l ts
 | 0, 0, _, _, _, _ => rfl
 | 0, k + 1, l, ts, hn, hk => by
  obtain rfl : ts = [] := List.length_eq_zero_iff.1 (by omega)
  have h : jfI signs [] = false := Bool.eq_false_iff.2 (end_hd.any signs)
  rw [jcb, jcb, h, if_neg (by decide)]
 | n + 1, 0, l, ts, hn, hk => by
  obtain rfl : ts = [] := List.length_eq_zero_iff.1 (by omega)
  have h : jfI signs [] = false := Bool.eq_false_iff.2 (end_hd.any signs)
  rw [jcb, jcb, h, if_neg (by decide)]
 | n + 1, k + 1, l, ts, hn, hk => by
  rw [jcb, jcb]
  by_cases h : jfI signs ts = true
  ·rw [if_pos h, if_pos h]
   cases ho : op ts.tail with
   | bad x y => rfl
   | ok f r =>
    obtain ⟨a, ha⟩ := hs _ _ _ ho
    have hl : r.length <= ts.tail.length := by rw [ha, List.length_append]; omega
    have ht : ts ≠ [] := fun e0 => by
     rw [e0] at h;exact end_hd.any signs h
    have htl : ts.tail.length + 1 = ts.length := by
     cases ts with
     | nil => exact absurd rfl ht
     | cons t ts => rfl
    exact jk1 hs n k _ r (by omega) (by omega)
  ·rw [if_neg h, if_neg h]
theorem jjX {op : List Tk -> Pn} {signs : List ByteArray} (hs : ∀ ts f r, op ts = .ok f r -> ∃ a, ts = a ++ r) (l : Nt) (ts : List Tk) : chnL op signs l ts = if jii signs (hd ts) = true then (fun t ts => (op ts).andThen fun f r => chnL op signs (.mk 18 0 t.text [l, f]) r) (hd ts) ts.tail else .ok l ts := by
 unfold chnL;rw [jk1 hs ts.length (ts.length + 1) l ts (Nat.le_refl _) (by omega), jcb]
 show (if jfI signs ts = true then _ else _) = if jfI signs ts = true then _ else _
 by_cases h : jfI signs ts = true
 ·rw [if_pos h, if_pos h]
  simp only
  cases ho : op ts.tail with
  | bad x y => rfl
  | ok f r =>
   obtain ⟨a, ha⟩ := hs _ _ _ ho
   have hl : r.length <= ts.tail.length := by rw [ha, List.length_append]; omega
   have htl : ts.tail.length <= ts.length := by rw [List.length_tail]; omega
   exact jk1 hs _ _ _ r (by omega) (Nat.le_refl _)
 ·rw [if_neg h, if_neg h]
theorem VP.chnL (he : IsEnd e) {op : List Tk -> Pn} {signs : List ByteArray} (h : VP e op) : ∀ l, VP e (Vm.chnL op signs l) := by
 have en : ∀ l, Vm.chnL op signs l [e] = .ok l [e] := fun l => by
  rw [jjX h.su, if_neg (show ¬ jii signs (hd [e]) = true from he.any signs)]
 have su : ∀ (n : Nat) (l : Nt) (ts : List Tk) (f : Nt) (r : List Tk), ts.length <= n -> Vm.chnL op signs l ts = .ok f r -> ∃ a, ts = a ++ r := fun n => by
  induction n with
  | zero =>
   intro l ts f r hn ho
   obtain rfl : ts = [] := List.length_eq_zero_iff.1 (by omega)
   rw [jjX h.su, if_neg (end_hd.any signs)] at ho
   cases ho; exact ⟨[], rfl⟩
  | succ n ih =>
   intro l ts f r hn ho;rw [jjX h.su] at ho
   split at ho
   ·cases ts with
    | nil =>
     rename_i h0
     exact absurd h0 (end_hd.any signs)
    | cons t ts =>
     simp only [List.tail_cons] at ho
     cases hq : op ts with
     | bad x y => rw [hq] at ho; cases ho
     | ok g u =>
      rw [hq] at ho
      obtain ⟨a, ha⟩ := h.su _ _ _ hq
      have hul : u.length <= n := by
       have := congrArg List.length ha
       rw [List.length_append] at this;rw [List.length_cons] at hn;omega
      obtain ⟨b, hb⟩ := ih _ u f r hul ho
      exact ⟨t :: (a ++ b), by rw [ha, hb]; simp⟩
   ·cases ho; exact ⟨[], rfl⟩
 have v : ∀ (n : Nat) (l : Nt) (m q : List Tk) (f : Nt) (r : List Tk), m.length <= n -> Vm.chnL op signs l (m ++ q) = .ok f r -> jzl e (Vm.chnL op signs l (m ++ [e])) m q f r := fun n => by
  induction n with
  | zero =>
   intro l m q f r hn ho
   obtain rfl : m = [] := List.length_eq_zero_iff.1 (by omega)
   exact .inr ⟨su _ l q f r (Nat.le_refl _) ho, .inr ⟨l, en l⟩⟩
  | succ n ih =>
   intro l m q f r hn ho
   cases m with
   | nil => exact .inr ⟨su _ l q f r (Nat.le_refl _) ho, .inr ⟨l, en l⟩⟩
   | cons t m =>
    rw [jjX h.su] at ho ⊢
    by_cases ht : jii signs t = true
    ·rw [if_pos (show jii signs (hd (t :: m ++ q)) = true from ht)] at ho;rw [if_pos (show jii signs (hd (t :: m ++ [e])) = true from ht)]
     have ho : (op (m ++ q)).andThen (fun f r => Vm.chnL op signs (.mk 18 0 t.text [l, f]) r) = .ok f r := ho
     show jzl e ((op (m ++ [e])).andThen (fun f r => Vm.chnL op signs (.mk 18 0 t.text [l, f]) r)) _ _ _ _
     cases hq : op (m ++ q) with
     | bad x y => rw [hq] at ho; cases ho
     | ok g u =>
      rw [hq] at ho
      have ho : Vm.chnL op signs (.mk 18 0 t.text [l, g]) u = .ok f r := ho
      rcases h.v m q g u hq with ⟨a, s, e1, e2, e3, e4⟩ | ⟨⟨a, ha⟩, h3⟩
      ·rw [e4];rw [e3] at ho
       have hsl : s.length <= n := by
        have := congrArg List.length e1
        rw [List.length_append] at this;rw [List.length_cons] at hn;omega
       rcases ih _ s q f r hsl ho with ⟨b, s2, g1, g2, g3, g4⟩ | ⟨g1, g2⟩
       ·exact .inl ⟨t :: (a ++ b), s2, by rw [e1, g1]; simp, g2, g3, g4⟩
       ·exact .inr ⟨g1, g2⟩
      ·obtain ⟨b, hb⟩ := su _ _ u f r (Nat.le_refl _) ho
       refine .inr ⟨⟨a ++ b, by rw [ha, hb, List.append_assoc]⟩, ?_⟩
       rcases h3 with h3 | ⟨f2, h3⟩
       ·rw [h3]; exact .inl rfl
       ·rw [h3]; exact .inr ⟨_, en _⟩
    ·rw [if_neg (show ¬ jii signs (hd (t :: m ++ q)) = true from ht)] at ho;rw [if_neg (show ¬ jii signs (hd (t :: m ++ [e])) = true from ht)];cases ho;exact .inl ⟨[], t :: m, rfl, by simp, rfl, rfl⟩
 exact fun l => ⟨⟨fun ts f r ho => su _ l ts f r (Nat.le_refl _) ho, fun m q f r ho => v _ l m q f r (Nat.le_refl _) ho⟩, .inr ⟨l, en l⟩⟩
theorem VP.chn (he : IsEnd e) {op : List Tk -> Pn} (signs : List ByteArray) (h : VP e op) : VP e (jcG op signs) := h.andThen (k := fun f r => Vm.chnL op signs f r) fun f => VP.chnL he h f
theorem VP.sum (he : IsEnd e) {low : Option Pa} (hl : jvn e low) : VP e (jp3 low) := VP.chn he _ (VP.chn he _ (VP.una he hl))
theorem VP.nt (he : IsEnd e) {low : Option Pa} (hl : jvn e low) : VP e (ntG low) :=
 VP.pre he pNot (op := low.map fun p : Pa => p.no) (fun f hf => by
  cases low with
  | none => cases hf
  | some p => cases hf; exact (hl p rfl).no) <| (VP.sum he hl).andThen (k := fun l r => if jfI cmpL r = true then (jp3 low r.tail).andThen fun m r' => .ok (.mk 18 0 (hd r).text [l, m]) r' else .ok l r) fun l =>
  VP.ite (fun t => jii cmpL t = true) (op1 := fun t ts => (jp3 low ts).andThen fun m r' => .ok (.mk 18 0 t.text [l, m]) r') (he.any _) (end_hd.any _) (fun _ => ((VP.sum he hl).andThen fun _ => VS.okT _).toVS) (VS.okT l)
theorem VP.exp (he : IsEnd e) {low : Option Pa} (hl : jvn e low) : VP e (jnU low) := VP.chn he _ (VP.chn he _ (VP.nt he hl))
end
section
variable {e : Tk}
structure VX (e : Tk) (op : List Tk -> Pn) : Prop extends VP e op where
 st : ∀ ts f r, op ts = .ok f r -> r.length < ts.length
theorem VX.syn : VX e synE := ⟨VP.syn, fun ts f r h => by cases h⟩
theorem VX.ite (g : Tk -> Prop) [DecidablePred g] {op1 : Tk -> List Tk -> Pn} {op2 : List Tk -> Pn} (hg : ¬ g e) (hn : ¬ g (hd [])) (h1 : ∀ t, VS e (op1 t)) (h2 : VX e op2) : VX e (fun ts => if g (hd ts) then op1 (hd ts) ts.tail else op2 ts) := ⟨VP.ite g hg hn h1 h2.toVP, fun ts f r h => by
 cases ts with
 | nil => rw [if_neg hn] at h; exact h2.st _ f r h
 | cons t ts =>
  by_cases ht : g t
  ·rw [if_pos (show g (hd (t :: ts)) from ht)] at h
   obtain ⟨a, ha⟩ := (h1 t).su ts f r h
   have := congrArg List.length ha
   rw [List.length_append] at this;rw [List.length_cons]; omega
  ·rw [if_neg (show ¬ g (hd (t :: ts)) from ht)] at h
   exact h2.st _ f r h⟩
theorem VX.sel (g : Tk -> Prop) [DecidablePred g] {op1 op2 : List Tk -> Pn} (h1 : VX e op1) (h2 : VX e op2) : VX e (fun ts => if g (hd ts) then op1 ts else op2 ts) := ⟨VP.sel g h1.toVP h2.toVP, fun ts f r h => by
 split at h
 ·exact h1.st _ f r h
 ·exact h2.st _ f r h⟩
theorem IsEnd.tx (he : IsEnd e) {s : ByteArray} (hs : s ≠ ⟨#[]⟩) : ¬ e.text = s := fun h => hs (h.symm.trans he.2)
theorem VX.stm (he : IsEnd e) {ex bl : List Tk -> Pn} (hx : VP e ex) (hb : VP e bl) : VX e (stG ex bl) := by
 have ok : ∀ f : Nt, VS e (fun r => .ok f r) := fun f => (VS.okT f).toVS
 have semi : ∀ f : Nt, VP e (fun r => Vm.xpt pSemi r fun r => .ok f r) := fun f => VP.xpt he pSemi (ok f)
 have n0 : ∀ s : ByteArray, s ≠ ⟨#[]⟩ -> ¬ (hd []).text = s := fun s hs => end_hd.tx hs
 exact VX.ite (fun t => ju2 t = true) (op1 := fun t ts => Vm.xpt pEq ts fun r => (ex r).andThen fun e r => Vm.xpt pSemi r fun r => .ok (.mk 1 0 t.text [e]) r) he.nm end_hd.nm (fun t => (VP.xpt he pEq (hx.toVS.andThen fun f => semi _)).toVS) <|
  VX.sel (fun t => t.kind ≠ 1) VX.syn <|
  VX.ite (fun t => t.text = wIf) (op1 := fun t ts => (ex ts).andThen fun c r => (bl r).andThen fun b r => if isP wElse r = true then (bl r.tail).andThen fun o r => .ok (.mk 2 0 eB [c, b, o]) r else .ok (.mk 2 0 eB [c, b, jbc []]) r) (he.tx (by decide)) (n0 _ (by decide)) (fun t => (hx.andThen fun c => hb.andThen fun b => VP.ite (fun t => ji8 wElse t = true) (op1 := fun t ts => (bl ts).andThen fun o r => .ok (.mk 2 0 eB [c, b, o]) r) (he.p _) (end_hd.p _) (fun _ => (hb.andThen fun o => VS.okT _).toVS) (VS.okT _)).toVS) <|
  VX.ite (fun t => t.text = wWhile) (op1 := fun t ts => (ex ts).andThen fun c r => (bl r).andThen fun b r => .ok (.mk 3 0 eB [c, b]) r) (he.tx (by decide)) (n0 _ (by decide)) (fun t => (hx.andThen fun c => hb.andThen fun b => VS.okT _).toVS) <|
  VX.ite (fun t => t.text = wSend) (op1 := fun t ts => (ex ts).andThen fun t r => Vm.xpt pComma r fun r => jgL 30 r fun n r => Vm.xpt pComma r fun r => (ex r).andThen fun a r => Vm.xpt pComma r fun r => (ex r).andThen fun b r => Vm.xpt pSemi r fun r => .ok (.mk 4 n eB [t, a, b]) r) (he.tx (by decide)) (n0 _ (by decide)) (fun t => (hx.andThen fun c => VP.xpt he pComma (VP.num he 30 fun n => (VP.xpt he pComma (hx.andThen fun a => VP.xpt he pComma (hx.andThen fun b => semi _).toVS).toVS).toVS).toVS).toVS) <|
  VX.ite (fun t => t.text = wTimer) (op1 := fun t ts => jgL 8 ts fun n r => Vm.xpt pSemi r fun r => .ok (.mk 5 n eB []) r) (he.tx (by decide)) (n0 _ (by decide)) (fun t => (VP.num he 8 fun n => (semi _).toVS).toVS) <|
  VX.ite (fun t => t.text = wCancel) (op1 := fun t ts => jgL 8 ts fun n r => Vm.xpt pSemi r fun r => .ok (.mk 6 n eB []) r) (he.tx (by decide)) (n0 _ (by decide)) (fun t => (VP.num he 8 fun n => (semi _).toVS).toVS) <|
  VX.ite (fun t => t.text = wSync) (op1 := fun t ts => Vm.xpt pSemi ts fun r => .ok (.mk 7 0 eB []) r) (he.tx (by decide)) (n0 _ (by decide)) (fun t => (semi _).toVS) <|
  VX.ite (fun t => t.text = wReply) (op1 := fun t ts => (ex ts).andThen fun a r => Vm.xpt pComma r fun r => (ex r).andThen fun b r => Vm.xpt pSemi r fun r => .ok (.mk 8 0 eB [a, b]) r) (he.tx (by decide)) (n0 _ (by decide)) (fun t => (hx.andThen fun c => VP.xpt he pComma (hx.andThen fun b => semi _).toVS).toVS) <|
  VX.ite (fun t => t.text = wFail) (op1 := fun t ts => (ex ts).andThen fun a r => Vm.xpt pSemi r fun r => .ok (.mk 9 0 eB [a]) r) (he.tx (by decide)) (n0 _ (by decide)) (fun t => (hx.andThen fun c => semi _).toVS) <|
  VX.ite (fun t => t.text = wStop) (op1 := fun t ts => Vm.xpt pSemi ts fun r => .ok (.mk 10 0 eB []) r) (he.tx (by decide)) (n0 _ (by decide)) (fun t => (semi _).toVS) VX.syn
def bkQ (st : List Tk -> Pn) (acc : List Nt) (ts : List Tk) : Pn := ji3 st ts.length acc ts
theorem jmg {st : List Tk -> Pn} (h : VX e st) (h0 : st [] = synE []) : ∀ (n k : Nat) (acc : List Nt) (ts : List Tk), ts.length <= n -> ts.length <= k -> ji3 st n acc ts = ji3 st k acc ts
 | 0, 0, _, _, _, _ => rfl
 | 0, k + 1, acc, ts, hn, hk => by
  obtain rfl : ts = [] := List.length_eq_zero_iff.1 (by omega)
  rw [ji3, ji3, if_neg (show ¬ isP pRb [] = true from end_hd.p _), h0];rfl
 | n + 1, 0, acc, ts, hn, hk => by
  obtain rfl : ts = [] := List.length_eq_zero_iff.1 (by omega)
  rw [ji3, ji3, if_neg (show ¬ isP pRb [] = true from end_hd.p _), h0];rfl
 | n + 1, k + 1, acc, ts, hn, hk => by
  rw [ji3, ji3]
  by_cases hp : isP pRb ts = true
  ·rw [if_pos hp, if_pos hp]
  ·rw [if_neg hp, if_neg hp]
   cases ho : st ts with
   | bad x y => rfl
   | ok f r =>
    have hl := h.st _ _ _ ho
    exact jmg h h0 n k _ r (by omega) (by omega)
theorem jnT {st : List Tk -> Pn} (h : VX e st) (h0 : st [] = synE []) (acc : List Nt) (ts : List Tk) : bkQ st acc ts = if ji8 pRb (hd ts) = true then .ok (jbc acc) ts.tail else (st ts).andThen fun s r => bkQ st (acc ++ [s]) r := by
 unfold bkQ;rw [jmg h h0 ts.length (ts.length + 1) acc ts (Nat.le_refl _) (by omega), ji3]
 show (if isP pRb ts = true then _ else _) = if isP pRb ts = true then _ else _
 by_cases hp : isP pRb ts = true
 ·rw [if_pos hp, if_pos hp]
 ·rw [if_neg hp, if_neg hp]
  cases ho : st ts with
  | bad x y => rfl
  | ok f r =>
   have hl := h.st _ _ _ ho
   exact jmg h h0 _ _ _ r (by omega) (Nat.le_refl _)
theorem jpY {st : List Tk -> Pn} (h : VX e st) (h0 : st [] = synE []) : ∀ (n : Nat) (acc : List Nt) (ts : List Tk) (f : Nt) (r : List Tk), ts.length <= n -> bkQ st acc ts = .ok f r -> ∃ a, ts = a ++ r := fun n => by
 induction n with
 | zero =>
  intro acc ts f r hn ho
  obtain rfl : ts = [] := List.length_eq_zero_iff.1 (by omega)
  rw [jnT h h0, if_neg (end_hd.p _), h0] at ho;cases ho
 | succ n ih =>
  intro acc ts f r hn ho;rw [jnT h h0] at ho
  split at ho
  ·cases ho
   cases ts with
   | nil => exact ⟨[], rfl⟩
   | cons t ts => exact ⟨[t], rfl⟩
  ·cases hq : st ts with
   | bad x y => rw [hq] at ho; cases ho
   | ok g u =>
    rw [hq] at ho
    have hl := h.st _ _ _ hq
    obtain ⟨a, ha⟩ := h.su _ _ _ hq
    obtain ⟨b, hb⟩ := ih _ u f r (by omega) ho
    exact ⟨a ++ b, by rw [ha, hb, List.append_assoc]⟩
theorem jr3 {st : List Tk -> Pn} (he : IsEnd e) (h : VX e st) (h0 : st [] = synE []) (acc : List Nt) : bkQ st acc [e] = .bad e.pos 10 := by
 rw [jnT h h0, if_neg (show ¬ ji8 pRb (hd [e]) = true from he.p _)]
 rcases h.en with h3 | ⟨f, h3⟩
 ·rw [h3]; rfl
 ·have := h.st _ _ _ h3
  exact absurd this (Nat.lt_irrefl _)
theorem jwF {st : List Tk -> Pn} (he : IsEnd e) (h : VX e st) (h0 : st [] = synE []) : ∀ (n : Nat) (acc : List Nt) (m q : List Tk) (f : Nt) (r : List Tk), m.length <= n -> bkQ st acc (m ++ q) = .ok f r -> (∃ a s, m = a ++ s /\ r = s ++ q /\ bkQ st acc (m ++ [e]) = .ok f (s ++ [e])) ∨ ((∃ a, q = a ++ r) /\ bkQ st acc (m ++ [e]) = .bad e.pos 10) := fun n => by
 have nil : ∀ (acc : List Nt) (q : List Tk) (f : Nt) (r : List Tk), bkQ st acc ([] ++ q) = .ok f r -> ((∃ a, q = a ++ r) /\ bkQ st acc ([] ++ [e]) = .bad e.pos 10) := fun acc q f r ho => ⟨jpY h h0 _ acc q f r (Nat.le_refl _) ho, jr3 he h h0 acc⟩
 induction n with
 | zero =>
  intro acc m q f r hn ho
  obtain rfl : m = [] := List.length_eq_zero_iff.1 (by omega)
  exact .inr (nil acc q f r ho)
 | succ n ih =>
  intro acc m q f r hn ho
  cases m with
  | nil => exact .inr (nil acc q f r ho)
  | cons t m =>
   rw [jnT h h0] at ho ⊢
   by_cases ht : ji8 pRb t = true
   ·rw [if_pos (show ji8 pRb (hd (t :: m ++ q)) = true from ht)] at ho;rw [if_pos (show ji8 pRb (hd (t :: m ++ [e])) = true from ht)];cases ho;exact .inl ⟨[t], m, rfl, rfl, rfl⟩
   ·rw [if_neg (show ¬ ji8 pRb (hd (t :: m ++ q)) = true from ht)] at ho;rw [if_neg (show ¬ ji8 pRb (hd (t :: m ++ [e])) = true from ht)]
    cases hq : st (t :: m ++ q) with
    | bad x y => rw [hq] at ho; cases ho
    | ok g u =>
     rw [hq] at ho
     have ho : bkQ st (acc ++ [g]) u = .ok f r := ho
     have hl := h.st _ _ _ hq
     rcases h.v (t :: m) q g u hq with ⟨a, s, e1, e2, e3, e4⟩ | ⟨⟨a, ha⟩, h3⟩
     ·rw [e4]
      show (∃ a s, _) ∨ (_ /\ bkQ st (acc ++ [g]) (s ++ [e]) = _)
      rw [e3] at ho hl;rw [List.length_append, List.length_append, List.length_cons] at hl;rw [List.length_cons] at hn
      rcases ih (acc ++ [g]) s q f r (by omega) ho with ⟨b, s2, g1, g3, g4⟩ | ⟨g1, g2⟩
      ·exact .inl ⟨a ++ b, s2, by rw [e1, g1, List.append_assoc], g3, g4⟩
      ·exact .inr ⟨g1, g2⟩
     ·obtain ⟨b, hb⟩ := jpY h h0 _ _ u f r (Nat.le_refl _) ho
      refine .inr ⟨⟨a ++ b, by rw [ha, hb, List.append_assoc]⟩, ?_⟩
      rcases h3 with h3 | ⟨f2, h3⟩
      ·rw [h3]; rfl
      ·rw [h3];exact jr3 he h h0 _
theorem VS.bkQ (he : IsEnd e) {st : List Tk -> Pn} (h : VX e st) (h0 : st [] = synE []) (acc : List Nt) : VS e (Vm.bkQ st acc) where
 su := fun ts f r ho => jpY h h0 _ acc ts f r (Nat.le_refl _) ho
 v := fun m q f r ho => by
  rcases jwF he h h0 _ acc m q f r (Nat.le_refl _) ho with ⟨a, s, e1, e2, e3⟩ | ⟨e1, e2⟩
  ·cases s with
   | nil => exact .inr ⟨⟨[], e2.symm⟩, .inr ⟨f, e3⟩⟩
   | cons t s => exact .inl ⟨a, t :: s, e1, by simp, e2, e3⟩
  ·exact .inr ⟨e1, .inl e2⟩
theorem VP.bk (he : IsEnd e) {st : List Tk -> Pn} (h : VX e st) (h0 : st [] = synE []) : VP e (bkF st) := VP.xpt he pLb (VS.bkQ he h h0 [])
theorem jxv (ex bl : List Tk -> Pn) : stG ex bl [] = synE [] := by
 unfold stG;rw [if_neg (show ¬ jeL [] = true from end_hd.nm), if_pos (show (hd []).kind ≠ 1 by decide)]
theorem VP.bkN (he : IsEnd e) : VP e bkN := VP.ite (fun t => ji8 pLb t = true) (op1 := fun t _ => .bad t.pos 2) (op2 := synE) (he.p _) (end_hd.p _) (fun _ => VS.bad _ _) VP.syn
theorem VPa.pa (he : IsEnd e) {low : Option Pa} (hl : jvn e low) : VPa e (paG low) where
 no := VP.nt he hl
 un := VP.una he hl
 ex := VP.exp he hl
 bl := VP.bk he (VX.stm he (VP.exp he hl) (by
  cases low with
  | none => exact VP.bkN he
  | some p => exact (hl p rfl).bl)) (jxv _ _)
end
def jkq : Nat -> List Co -> List Tk
 | _, [] => []
 | p, c :: l => ⟨c.kind, p, bs c.text, c.n⟩ :: jkq (p + c.text.length + (jcs (bs c.text) (glR l)).size) l
theorem jfg : ∀ (l : List Co) (p : Nat), (jkq p l).map jn4 = l
 | [], _ => rfl
 | c :: l, p => by
  show jn4 ⟨c.kind, p, bs c.text, c.n⟩ :: (jkq _ l).map jn4 = _
  rw [jfg l];rfl
theorem js3 : ∀ (l : List Co) (b : Bool) (p : Nat), (∀ c ∈ l, LexT c) -> Fine b l -> ji4 p (glR l).data.toList = ⟨jkq p l, none⟩
 | [], b, p, _, _ => rfl
 | c :: l, b, p, hl, hf => by
  have hc := hl c List.mem_cons_self
  have step : ∀ q, ji4 q (glR l).data.toList = ⟨jkq q l, none⟩ := fun q => js3 l _ q (fun d hd => hl d (List.mem_cons_of_mem _ hd)) hf.2
  have e : (glR (c :: l)).data.toList = c.text ++ ((jcs (bs c.text) (glR l)).data.toList ++ (glR l).data.toList) := by
   show (ja1 _ _).data.toList = _
   rw [jaK, jgp, jgp, jb3, List.append_assoc]
  have hg : jcs (bs c.text) (glR l) = ⟨#[]⟩ ∨ (jcs (bs c.text) (glR l) = ⟨#[32]⟩) := by
   unfold jcs; split; exact .inl rfl; exact .inr rfl
  rcases hg with hg | hg
  ·rw [e, jkq, hg];rw [show ((⟨#[]⟩ : ByteArray).data.toList ++ (glR l).data.toList) = (glR l).data.toList from rfl];rw [jjh hc p _ fun y r hy => ?_, step]
   ·rfl
   ·cases l with
    | nil => cases hy
    | cons d l =>
     have hd := (hl d (by simp)).ne
     have hfy : jaq (glR (d :: l)) = y := by unfold jaq; rw [hy]; rfl
     rw [jc2 hd] at hfy;refine ⟨fun hx => ?_, fun hx => ?_⟩
     ·unfold jcs at hg
      split at hg
      ·rename_i hh
       rcases hh with hh | hh | hh | hh
       ·exact absurd hh (jrs hc.ne)
       ·exact absurd hh (jdL hd)
       ·rw [hx] at hh; cases hh
       ·rw [jc2 hd, hfy] at hh; exact hh
      ·exact absurd hg (by decide)
     ·rw [<- hfy]; exact hf.2.1 hx
  ·rw [e, jkq, hg];rw [show ((⟨#[32]⟩ : ByteArray).data.toList ++ (glR l).data.toList) = 32 :: (glR l).data.toList from rfl];rw [jjh hc p _ fun y r hy => ?_, jmZ (by decide) (by decide), step]
   ·rfl
   ·cases hy
    exact ⟨fun _ => by decide, fun _ => by decide⟩
theorem TN.pos {s : ByteArray} {l : List Co} (h : TN s l) : jb4 s = ⟨jkq 0 l, none⟩ /\ jko s = jkq 0 l ++ [jf1 s] := by
 have h1 := js3 l false 0 h.lx h.fi
 rw [<- h.eq] at h1
 have h2 : jb4 s = ⟨jkq 0 l, none⟩ := h1
 exact ⟨h2, by rw [jda (by rw [h2]), h2]⟩
theorem jq0 {a b c : ByteArray} (hb : b ≠ ⟨#[]⟩) (hc : c ≠ ⟨#[]⟩) (h : jaq b = jaq c) : jcs a b = jcs a c := by
 unfold jcs;rw [h]
 by_cases ha : a = ⟨#[]⟩
 ·rw [if_pos (.inl ha), if_pos (.inl ha)]
 ·by_cases h2 : jbu (jby a) = false ∨ jbu (jaq c) = false
  ·rw [if_pos (.inr (.inr h2)), if_pos (.inr (.inr h2))]
  ·rw [if_neg, if_neg]
   ·rintro (h3 | h3 | h3)
    ·exact ha h3
    ·exact hc h3
    ·exact h2 h3
   ·rintro (h3 | h3 | h3)
    ·exact ha h3
    ·exact hb h3
    ·exact h2 h3
theorem jsK {a b c : ByteArray} (hb : b ≠ ⟨#[]⟩) (hc : c ≠ ⟨#[]⟩) (h : jby b = jby c) : jcs b a = jcs c a := by
 unfold jcs;rw [h]
 by_cases ha : a = ⟨#[]⟩ ∨ jbu (jby c) = false ∨ jbu (jaq a) = false
 ·rw [if_pos (.inr ha), if_pos (.inr ha)]
 ·rw [if_neg, if_neg]
  ·rintro (h3 | h3)
   ·exact hc h3
   ·exact ha h3
  ·rintro (h3 | h3)
   ·exact hb h3
   ·exact ha h3
theorem jtZ {c : Co} : ∀ {l : List Co}, (∀ d ∈ l, d.text ≠ []) -> l ≠ [] -> jby (glR (c :: l)) = jby (glR l)
 | [], _, h => absurd rfl h
 | d :: l, h, _ => by
  show jby (ja1 (bs c.text) (glR (d :: l))) = _
  rw [jaK];exact jfM _ (jdL (h d List.mem_cons_self))
theorem jjn : ∀ (l m : List Co) (p : Nat), (∀ c ∈ l, c.text ≠ []) -> (∀ c ∈ m, c.text ≠ []) -> jkq p (l ++ m) = jkq p l ++ jkq (p + (glR l).size + (jcs (glR l) (glR m)).size) m
 | [], m, p, _, _ => by
  have e : jcs (glR []) (glR m) = ⟨#[]⟩ := by unfold jcs; rw [if_pos (.inl rfl)]
  rw [e];rfl
 | [c], m, p, h, _ => by
  show _ :: jkq _ m = [_] ++ jkq _ m
  rw [jrp];rw [show (bs c.text).size = c.text.length from jbB _];rfl
 | c :: d :: l, m, p, h, hm => by
  have hd : d.text ≠ [] := h d (by simp)
  have hc : c.text ≠ [] := h c (by simp)
  have hl : ∀ x ∈ d :: l, x.text ≠ [] := fun x hx => h x (List.mem_cons_of_mem _ hx)
  have ih := jjn (d :: l) m (p + c.text.length + (jcs (bs c.text) (glR (d :: l ++ m))).size) hl hm
  show _ :: jkq (p + c.text.length + (jcs (bs c.text) (glR (d :: l ++ m))).size) (d :: l ++ m) = _ :: (jkq _ (d :: l) ++ _)
  rw [ih]
  have e1 : jcs (bs c.text) (glR (d :: l ++ m)) = jcs (bs c.text) (glR (d :: l)) := jq0 (jdL hd) (jdL hd) (by
   show jaq (glR (d :: (l ++ m))) = _
   rw [jc2 hd, jc2 hd])
  have e2 : jcs (glR (c :: d :: l)) (glR m) = jcs (glR (d :: l)) (glR m) := jsK (jdL hc) (jdL hd) (jtZ hl (by simp))
  have e3 : (glR (c :: d :: l)).size = c.text.length + (jcs (bs c.text) (glR (d :: l))).size + (glR (d :: l)).size := by
   show (ja1 (bs c.text) (glR (d :: l))).size = _
   rw [jaK, ByteArray.size_append, ByteArray.size_append, jbB]
  rw [e1, e2, e3]
  congr 3
  omega
theorem Fine.left : ∀ {l m : List Co} {b : Bool}, Fine b (l ++ m) -> Fine b l
 | [], _, _, _ => trivial
 | c :: l, m, b, h => ⟨h.1, h.2.left⟩
section
variable {fu : Bool} {e : Tk}
theorem jmp (x : Int × Nt) (q : List Co) : jdt fu x ++ q = jai wOn :: (jno x.1 ++ (tkB fu x.2 ++ q)) := by
 unfold jdt
 simp
theorem juV (du vo : List ByteArray) : ∀ (l acc : List (Int × Nt)) (ts r : List Tk) (k : Nat), (∀ x ∈ l, HO fu x) -> (acc ++ l).Pairwise (fun a b => a.1 ≠ b.1) -> Beg ((l.map (jdt fu)).flatten) ts r -> jp1 du vo (k + l.length) acc ts = jp1 du vo k (acc ++ l) r
 | [], acc, ts, r, k, _, _, hb => by
  have e : ts = r := hb.nil
  rw [e, List.append_nil]; rfl
 | x :: l, acc, ts, r, k, hl, hp, hb => by
  obtain ⟨h0, h1, hbk⟩ := hl x List.mem_cons_self
  rw [List.map_cons, List.flatten_cons, jmp] at hb
  obtain ⟨p, _, _, _, q, h2⟩ := jav hb
  obtain ⟨u, h3, h4⟩ := jzd h0 h1 h2
  obtain ⟨v, h5, h6⟩ := h4.app
  have h7 := hbk u v h5
  have hne : ∀ y ∈ acc, y.1 ≠ x.1 := fun y hy => (List.pairwise_append.1 hp).2.2 y hy x List.mem_cons_self
  rw [List.length_cons, show k + (l.length + 1) = (k + l.length) + 1 by omega, jp1, if_neg (by rw [q]; decide), if_neg (by rw [p]; decide), h3]
  show (if acc.any (fun h => decide (h.1 = x.1)) = true then _ else _) = _
  rw [jxM acc x.1 hne, if_neg (by decide), jAI, h7]
  show jp1 du vo (k + l.length) (acc ++ [(x.1, x.2)]) v = _
  have ih := juV du vo l (acc ++ [x]) v r k (fun y hy => hl y (List.mem_cons_of_mem _ hy)) (by rw [List.append_assoc]; exact hp) h6
  rw [show acc ++ [(x.1, x.2)] = acc ++ [x] from rfl, ih, List.append_assoc];rfl
end
theorem jqB {u : Ut} {l : List (Int × Nt)} {x : Int × Nt} (ho : u.on = l ++ [x]) : jmc u = (dcTk ++ (l.map (jdt false)).flatten) ++ jdt false x := by
 unfold jmc;rw [ho, List.map_append, List.flatten_append, <- List.append_assoc]
 simp
def pDv : ByteArray := ⟨#[100, 117, 114, 97, 98, 108, 101, 32, 118, 59]⟩
def nV : ByteArray := ⟨#[118]⟩
def dpTk : List Co := [jai wDurable, jai nV, jac pSemi]
theorem tn_dp : TN pDv dpTk := by
 have h := (((jdC nV (jfJ _ (by decide)) (by decide) (by decide)).wrd wDurable (jfJ _ (by decide)) (by decide)).end)
 have e : pDv = ja1 (ja1 wDurable nV) pSemi := by decide
 rw [e];exact h
theorem jyx {w a : ByteArray} {names out : List ByteArray} {q : List Co} {ts r : List Tk} (hb : Beg (jai w :: jai a :: jac pSemi :: q) ts r) (ha : ju3 a = true) (h1 : names.any (fun s => decide (s = a)) = false) (hl : names.length + 1 <= 16) : jit ts.length names out ts = .ok (names ++ [a]) (out ++ [a]) ts.tail.tail.tail /\ Beg q ts.tail.tail.tail r := by
 have hlen := hb.len
 simp only [List.length_cons] at hlen
 obtain ⟨n, hn⟩ : ∃ n, ts.length = n + 1 := ⟨ts.length - 1, by omega⟩
 rw [hn]
 obtain ⟨_, _, _, _, _, g1⟩ := jav hb
 obtain ⟨_, n1, _, t1, _, g2⟩ := jav g1
 obtain ⟨p2, _, _, g3⟩ := jcN g2
 refine ⟨?_, g3⟩
 have n1 : jeL ts.tail = true := by rw [n1]; exact ha
 rw [jit, if_neg (by rw [n1]; decide), t1, if_neg (by rw [h1]; decide), if_neg (by omega), p2, if_neg (by decide), p2, if_pos (by decide)]
theorem jmh {w a b : ByteArray} {names out : List ByteArray} {q : List Co} {ts r : List Tk} (hb : Beg (jai w :: jai a :: jac pComma :: jai b :: jac pSemi :: q) ts r) (ha : ju3 a = true) (hf : ju3 b = true) (h1 : names.any (fun s => decide (s = a)) = false) (h2 : (names ++ [a]).any (fun s => decide (s = b)) = false) (hl : names.length + 2 <= 16) : jit ts.length names out ts = .ok (names ++ [a] ++ [b]) (out ++ [a] ++ [b]) ts.tail.tail.tail.tail.tail /\ Beg q ts.tail.tail.tail.tail.tail r := by
 have hlen := hb.len
 simp only [List.length_cons] at hlen
 obtain ⟨n, hn⟩ : ∃ n, ts.length = n + 2 := ⟨ts.length - 2, by omega⟩
 rw [hn]
 obtain ⟨_, _, _, _, _, g1⟩ := jav hb
 obtain ⟨_, n1, _, t1, _, g2⟩ := jav g1
 obtain ⟨p2, _, _, g3⟩ := jcN g2
 obtain ⟨_, n3, _, t3, _, g4⟩ := jav g3
 obtain ⟨p4, _, _, g5⟩ := jcN g4
 refine ⟨?_, g5⟩
 have n1 : jeL ts.tail = true := by rw [n1]; exact ha
 have n3 : jeL ts.tail.tail.tail = true := by rw [n3]; exact hf
 rw [jit, if_neg (by rw [n1]; decide), t1, if_neg (by rw [h1]; decide), if_neg (by omega), p2, if_pos (by decide), jit, if_neg (by rw [n3]; decide), t3, if_neg (by rw [h2]; decide), if_neg (by rw [List.length_append]; simp only [List.length_cons, List.length_nil]; omega), p4, if_neg (by decide), p4, if_pos (by decide)]
theorem jyE {w a : ByteArray} {names out : List ByteArray} {q : List Co} {ts r : List Tk} (hb : Beg (jai w :: jai a :: q) ts r) (ha : ju3 a = true) (h1 : names.any (fun s => decide (s = a)) = true) : jit ts.length names out ts = .bad (hd ts.tail).pos 4 := by
 have hlen := hb.len
 simp only [List.length_cons] at hlen
 obtain ⟨n, hn⟩ : ∃ n, ts.length = n + 1 := ⟨ts.length - 1, by omega⟩
 rw [hn]
 obtain ⟨_, _, _, _, _, g1⟩ := jav hb
 obtain ⟨_, n1, _, t1, _, g2⟩ := jav g1
 have n1 : jeL ts.tail = true := by rw [n1]; exact ha
 rw [jit, if_neg (by rw [n1]; decide), t1, if_pos h1]
def jx0 : List Co := dpTk ++ [jai wDurable, jai ⟨#[100]⟩, jac pComma, jai ⟨#[100, 100, 49]⟩, jac pSemi, jai wVolatile]
theorem jro (u : Ut) : dpTk ++ jmc u = jx0 ++ jai nV :: ([jac pComma, jai ⟨#[119, 50]⟩, jac pSemi] ++ (u.on.map (jdt false)).flatten) := by
 unfold jmc jx0 dcTk;simp only [List.append_assoc, List.cons_append, List.nil_append];rfl
theorem jqR : (glR jx0).size = 32 := by decide +kernel
theorem jtM : jbu (jby (glR jx0)) = true := by decide +kernel
theorem jqZ {a b : ByteArray} (ha : a ≠ ⟨#[]⟩) (hb : b ≠ ⟨#[]⟩) (h1 : jbu (jby a) = true) (h2 : jbu (jaq b) = true) : jcs a b = ⟨#[32]⟩ := by
 unfold jcs;rw [if_neg];rintro (h | h | h | h)
 ·exact ha h
 ·exact hb h
 ·rw [h1] at h; cases h
 ·rw [h2] at h; cases h
theorem jwJ {u : Ut} (hu : GW u) : jgx (pDv ++ prF u) = .bad 33 4 := by
 have hz := hu.size
 have tn : TN (pDv ++ prF u) (dpTk ++ jmc u) := by
  have h := tn_dp.cat (jsY hu.1)
  rw [jed pDv _ (by decide)] at h;exact h
 obtain ⟨p1, p2⟩ := tn.pos
 have lx := tn.lx
 have hsz : (pDv ++ prF u).size <= 3000 := by
  rw [ByteArray.size_append]
  have : pDv.size = 10 := rfl
  omega
 rw [jnz hsz (by rw [p1])]
 have hb : Beg (dpTk ++ jmc u) (jko (pDv ++ prF u)) [jf1 (pDv ++ prF u)] := ⟨_, p2, jfg _ _⟩
 generalize jf1 (pDv ++ prF u) = e at *;generalize jko (pDv ++ prF u) = T at *;rw [jro] at hb lx p2
 have hgap : jcs (glR jx0) (glR (jai nV :: ([jac pComma, jai ⟨#[119, 50]⟩, jac pSemi] ++ (u.on.map (jdt false)).flatten))) = ⟨#[32]⟩ :=
  jqZ (fun h => by have := jqR; rw [h] at this; cases this) (jdL (c := jai nV) (by decide)) jtM (by rw [jc2 (c := jai nV) (by decide)]; decide)
 have hh : (hd T.tail.tail.tail.tail.tail.tail.tail.tail.tail).pos = 33 := by
  rw [p2, jjn jx0 _ 0 (fun c hc => (lx c (List.mem_append_left _ hc)).ne) (fun c hc => (lx c (List.mem_append_right _ hc)).ne), hgap, jqR];rfl
 generalize [jac pComma, jai ⟨#[119, 50]⟩, jac pSemi] ++ (u.on.map (jdt false)).flatten = Z at *
 have hb : Beg (jai wDurable :: jai nV :: jac pSemi :: jai wDurable :: jai ⟨#[100]⟩ :: jac pComma :: jai ⟨#[100, 100, 49]⟩ :: jac pSemi :: jai wVolatile :: jai nV :: Z) T [e] := hb
 obtain ⟨e1, g1⟩ := jyx (names := []) (out := []) hb (by decide) (by decide) (by decide)
 obtain ⟨e2, g2⟩ := jmh (names := [nV]) (out := []) g1 (by decide) (by decide) (by decide) (by decide) (by decide)
 have e3 := jyE (names := [nV] ++ [⟨#[100]⟩] ++ [⟨#[100, 100, 49]⟩]) (out := []) g2 (by decide) (by decide)
 obtain ⟨p3, _⟩ := jav hb
 obtain ⟨p4, _⟩ := jav g1
 obtain ⟨p5, _⟩ := jav g2
 have hlen := hb.len
 simp only [List.length_cons] at hlen
 obtain ⟨n, hn⟩ : ∃ n, T.length + 1 = n + 3 := ⟨T.length - 2, by omega⟩
 unfold jtw;rw [hn, jlf, if_pos (by rw [p3]; decide), e1]
 show jlf (n + 2) [nV] ([] ++ [nV]) [] T.tail.tail.tail = _
 rw [jlf, if_pos (by rw [p4]; decide), e2]
 show jlf (n + 1) ([nV] ++ [⟨#[100]⟩] ++ [⟨#[100, 100, 49]⟩]) _ [] T.tail.tail.tail.tail.tail.tail.tail.tail = _
 rw [jlf, if_neg (by rw [p5]; decide), if_pos (by rw [p5]; decide), e3]
 show PU.bad (hd T.tail.tail.tail.tail.tail.tail.tail.tail.tail).pos 4 = _
 rw [hh];rfl
section
variable {fu : Bool}
theorem jxQ (du vo : List ByteArray) {x : Int × Nt} (hx : HO fu x) {acc : List (Int × Nt)} (hd0 : acc.any (fun h => decide (h.1 = x.1)) = true) {q : List Co} {ts r : List Tk} (ht : Beg (jdt fu x ++ q) ts r) (k : Nat) : jp1 du vo (k + 1) acc ts = .bad (hd ts.tail).pos 4 := by
 obtain ⟨h0, h1, hbk⟩ := hx
 rw [jmp] at ht
 obtain ⟨p, _, _, _, q, h2⟩ := jav ht
 obtain ⟨v, h3, h4⟩ := jzd h0 h1 h2
 rw [jp1, if_neg (by rw [q]; decide), if_neg (by rw [p]; decide), h3]
 show (if acc.any (fun h => decide (h.1 = x.1)) = true then _ else _) = _
 rw [if_pos hd0]
theorem Beg.suf {q : List Co} {ts r : List Tk} (h : Beg q ts r) : ∃ m, ts = m ++ r := by
 obtain ⟨m, h1, _⟩ := h
 exact ⟨m, h1⟩
theorem jwu {u : Ut} (h : GU u) {x : Int × Nt} (hx : x ∈ u.on) {ts r : List Tk} (ht : Beg (jmc u ++ jdt false x) ts r) : ∃ m z, ts = m ++ z /\ z.length = (jdt false x).length + r.length /\ jtw ts = .bad (hd z.tail).pos 4 := by
 have hho := h.ho (fu := false)
 have h4 := h.2.2.2.1
 have hp : u.on.Pairwise (fun a b => a.1 ≠ b.1) := h4.imp fun hab => by omega
 have ht : Beg (jai wDurable :: jai ⟨#[100]⟩ :: jac pComma :: jai ⟨#[100, 100, 49]⟩ :: jac pSemi :: jai wVolatile :: jai ⟨#[118]⟩ :: jac pComma :: jai ⟨#[119, 50]⟩ :: jac pSemi :: ((u.on.map (jdt false)).flatten ++ jdt false x)) ts r := by
  have e : jmc u ++ jdt false x = jai wDurable :: jai ⟨#[100]⟩ :: jac pComma :: jai ⟨#[100, 100, 49]⟩ :: jac pSemi :: jai wVolatile :: jai ⟨#[118]⟩ :: jac pComma :: jai ⟨#[119, 50]⟩ :: jac pSemi :: ((u.on.map (jdt false)).flatten ++ jdt false x) := by
   unfold jmc dcTk;rw [List.append_assoc];rfl
  rw [<- e]; exact ht
 obtain ⟨e1, g1⟩ := jmh (names := []) (out := []) ht (by decide) (by decide) (by decide) (by decide) (by decide)
 obtain ⟨e2, g2⟩ := jmh (names := duL) (out := []) g1 (by decide) (by decide) (by decide) (by decide) (by decide)
 obtain ⟨p1, _⟩ := jav ht
 obtain ⟨p2, _⟩ := jav g1
 have hlen := ht.len
 simp only [List.length_cons] at hlen
 obtain ⟨n, hn⟩ : ∃ n, ts.length + 1 = n + 3 := ⟨ts.length - 2, by omega⟩
 obtain ⟨w, hw⟩ : ∃ w, ts.tail.tail.tail.tail.tail.tail.tail.tail.tail.tail = w := ⟨_, rfl⟩
 have hts : ∃ m, ts = m ++ w := by
  refine ⟨ts.take 10, ?_⟩;rw [<- hw];simp only [<- List.drop_one, List.drop_drop];exact (List.take_append_drop 10 ts).symm
 rw [hw] at g2
 have hon : isP wDurable w = false /\ isP wVolatile w = false := by
  cases hl : u.on with
  | nil => rw [hl] at hx; cases hx
  | cons y l =>
   rw [hl, List.map_cons, List.flatten_cons, List.append_assoc, jmp] at g2
   obtain ⟨p, _⟩ := jav g2
   rw [p, p]; decide
 obtain ⟨z, g3, g4⟩ := g2.app
 obtain ⟨m1, hm1⟩ := g3.suf
 obtain ⟨m0, hm0⟩ := hts
 refine ⟨m0 ++ m1, z, by rw [hm0, hm1, List.append_assoc], g4.len, ?_⟩
 have hzl : 1 <= z.length := by
  have := g4.len
  have : 1 <= (jdt false x).length := by unfold jdt; simp
  omega
 have hwl := g3.len
 have hll := jwo (fu := false) u.on
 unfold jtw;rw [hn, jlf, if_pos (by rw [p1]; decide), e1]
 show jlf (n + 2) duL ([] ++ duL) [] ts.tail.tail.tail.tail.tail = _
 rw [jlf, if_neg (by rw [p2]; decide), if_pos (by rw [p2]; decide), e2]
 show jlf (n + 1) _ duL voL ts.tail.tail.tail.tail.tail.tail.tail.tail.tail.tail = _
 rw [hw, jlf, if_neg (by rw [hon.1]; decide), if_neg (by rw [hon.2]; decide)]
 obtain ⟨k, hk⟩ : ∃ k, w.length + 1 = k + 1 + u.on.length := ⟨w.length - u.on.length, by omega⟩
 rw [hk, juV duL voL u.on [] w z (k + 1) hho hp g3];refine jxQ duL voL (hho x hx) (acc := [] ++ u.on) ?_ (q := []) (by rw [List.append_nil]; exact g4) k;rw [List.any_eq_true];exact ⟨x, hx, by simp⟩
theorem jwg (n : Int) : ∃ w l, jno n = jai w :: l /\ jbu (jaq w) = true /\ w.data.toList ≠ [] := by
 unfold jno
 repeat' split
 all_goals exact ⟨_, _, rfl, by decide, by decide⟩
theorem jwI {u : Ut} (h : GU u) (hn : u.on ≠ []) : jbu (jby (prF u)) = false := by
 have tn := jsY h
 obtain ⟨l, y, ho⟩ : ∃ l y, u.on = l ++ [y] := ⟨u.on.dropLast, u.on.getLast hn, (List.dropLast_concat_getLast _).symm⟩
 have hek : EK y.2 := (h.2.2.1 y (by rw [ho]; simp)).2.2
 obtain ⟨k, hk, _⟩ := hek
 obtain ⟨Q, hQ⟩ : ∃ Q, jmc u = Q ++ [jac pRb] := by
  rw [jqB ho];refine ⟨(dcTk ++ (l.map (jdt false)).flatten) ++ (jai wOn :: (jno y.1 ++ jac pLb :: (jx6 false k).flatten)), ?_⟩
  have e : jdt false y = (jai wOn :: (jno y.1 ++ jac pLb :: (jx6 false k).flatten)) ++ [jac pRb] := by
   unfold jdt;rw [hk];unfold jbc;rw [tkB];simp only [List.append_assoc, List.cons_append]
  rw [e]; simp only [List.append_assoc]
 have lx := tn.lx
 rw [tn.eq, hQ];rw [hQ] at lx;rw [jjJ Q [jac pRb] (fun c hc => (lx c (List.mem_append_left _ hc)).ne) (fun c hc => (lx c (List.mem_append_right _ hc)).ne), jaK, jfM _ (by decide)];decide
theorem jxI {u : Ut} (hu : GW u) {x : Int × Nt} (hx : x ∈ u.on) : (prF u ++ hdN false x).size <= 3000 /\ jgx (prF u ++ hdN false x) = .bad (((prF u).size + 3 : Nat) : Int) 4 := by
 have hz := hu.size
 have hl := jwI hu.1 (fun h => by rw [h] at hx; cases hx)
 have th := hu.1.hd (fu := false) x hx
 have tp := jsY hu.1
 have tn : TN (prF u ++ hdN false x) (jmc u ++ jdt false x) := by
  have h := tp.cat th
  rw [jed (prF u) _ hl] at h;exact h
 obtain ⟨p1, p2⟩ := tn.pos
 have hsz : (prF u ++ hdN false x).size <= 3000 := by
  rw [ByteArray.size_append]
  have h1 := jkg (jdt false x)
  rw [<- th.eq] at h1
  have h2 := (hu.twK 1 (by omega) (by omega)).2.2 x hx
  omega
 refine ⟨hsz, ?_⟩;rw [jnz hsz (by rw [p1])]
 obtain ⟨m, z, e1, e2, e3⟩ := jwu hu.1 hx (ts := jko (prF u ++ hdN false x)) (r := [jf1 (prF u ++ hdN false x)]) ⟨_, p2, jfg _ _⟩
 rw [e3]
 have lx := tn.lx
 rw [p2, jjn _ _ 0 (fun c hc => (lx c (List.mem_append_left _ hc)).ne) (fun c hc => (lx c (List.mem_append_right _ hc)).ne), List.append_assoc] at e1
 have hgap : jcs (glR (jmc u)) (glR (jdt false x)) = ⟨#[]⟩ := by
  rw [<- tp.eq];unfold jcs;rw [if_pos (.inr (.inr (.inl hl)))]
 rw [hgap, <- tp.eq] at e1
 have hzz : jkq (0 + (prF u).size + (⟨#[]⟩ : ByteArray).size) (jdt false x) ++ [jf1 (prF u ++ hdN false x)] = z := by
  refine List.append_inj_right' e1 ?_;rw [e2, List.length_append, <- List.length_map (f := jn4), jfg]
 rw [<- hzz]
 obtain ⟨w, l, hw, hw2, hw3⟩ := jwg x.1
 have e4 : jdt false x = jai wOn :: jai w :: (l ++ tkB false x.2) := by
  show jai wOn :: (jno x.1 ++ tkB false x.2) = _
  rw [hw]; rfl
 rw [e4]
 have hg2 : jcs (bs (jai wOn).text) (glR (jai w :: (l ++ tkB false x.2))) = ⟨#[32]⟩ := by
  refine jqZ (by decide) (jdL (c := jai w) hw3) (by decide) ?_;rw [jc2 (c := jai w) hw3]
  show jbu (jaq (bs w.data.toList)) = true
  rw [jb2];exact hw2
 show PU.bad ((0 + (prF u).size + 0 + 2 + (jcs (bs (jai wOn).text) (glR (jai w :: (l ++ tkB false x.2)))).size : Nat) : Int) 4 = _
 rw [hg2]
 show PU.bad ((0 + (prF u).size + 0 + 2 + 1 : Nat) : Int) 4 = _
 congr 2
 omega
set_option maxHeartbeats 1000000 in
theorem dup_law_spec (l : List Int) (c : Int) : Spec Tryz.prog 10 [] [.sl 1 l.length (jeJ l), jao c] fun _ r => r = jbI true := by
 obtain ⟨u, hu, hpg⟩ := jxx l
 have h0 := jmI
 have hpp := jyt hu.1
 have hz := hu.size
 have hdv := jwJ hu
 have ps1 := jdq (pDv ++ prF u) (by rw [ByteArray.size_append]; have : pDv.size = 10 := rfl; omega)
 rw [hdv, show jr9 (.bad 33 4) = .tup [.agg jhJ, jao 33, jao 4] from rfl] at ps1
 by_cases hon : u.on.length = 0
 ·generalize prF u = s at *;refine ja5 (ja2 (fun id => match Nat.beq id 9 with | true => .q 0 7 .nil | false => jxd id) xs0 0) (fun _ _ h => h) Tryz.func10 rfl (by kernel_rfl) rfl (by kernel_rfl) ?_;intro hok;conv => whnf
  (refine ja9 [] rfl (fun _ => hpg) ?_; rintro r rfl; conv => whnf)
  (refine ja9 [] rfl (fun _ => hpp) ?_; rintro r rfl; conv => whnf)
  refine ⟨by show pDv.size + s.size <= maxLen; have : pDv.size = 10 := rfl; unfold maxLen; omega, ?_⟩;conv => whnf
  (refine ja9 [] rfl (fun _ => ps1) ?_; rintro r rfl; conv => whnf)
  rw [decide_eq_true (show (u.on.length : Int) = 0 by omega)];conv => whnf
  (refine ja9 [] rfl (fun _ => h0) ?_; rintro r rfl; conv => whnf)
  rfl
 have ho4 := hu.1.pu.on
 have hhd := fun x hx => hu.1.pu.hd false x hx
 have hdd := fun x hx => jxI hu (x := x) hx
 generalize prF u = s at *;refine ja5 (ja2 (fun id => match Nat.beq id 9 with | true => .q 0 7 .nil | false => jxd id) xs0 0) (fun _ _ h => h) Tryz.func10 rfl (by kernel_rfl) rfl (by kernel_rfl) ?_;intro hok;conv => whnf
 (refine ja9 [] rfl (fun _ => hpg) ?_; rintro r rfl; conv => whnf)
 (refine ja9 [] rfl (fun _ => hpp) ?_; rintro r rfl; conv => whnf)
 refine ⟨by show pDv.size + s.size <= maxLen; have : pDv.size = 10 := rfl; unfold maxLen; omega, ?_⟩;conv => whnf
 (refine ja9 [] rfl (fun _ => ps1) ?_; rintro r rfl; conv => whnf)
 rw [decide_eq_false (show ¬ (u.on.length : Int) = 0 by omega)];conv => whnf
 have hrg : 0 <= jc8 c u.on.length /\ jc8 c u.on.length < u.on.length := jhD (okA_int.1 (js6 hok (show jao c ∈ [A.sl 1 l.length (jeJ l), jao c] by simp))) (by omega)
 have har : Spec Tryz.prog 20 [] [jao c, jao u.on.length] fun _ r => r = jao (jc8 c u.on.length) := Spec.mono (jeI c u.on.length (by omega)) fun o r h => h.2
 obtain ⟨k, hk⟩ : ∃ k : Nat, jc8 c u.on.length = (k : Int) := ⟨(jc8 c u.on.length).toNat, by omega⟩
 rw [hk] at hrg har
 have hklt : k < u.on.length := by omega
 have hr := jld u.on k hklt
 obtain ⟨hhz, hhs⟩ := hhd u.on[k] (List.getElem_mem hklt)
 obtain ⟨hd1, hd2⟩ := hdd u.on[k] (List.getElem_mem hklt)
 generalize u.on[k] = x at *;generalize hdN false x = h at *
 have ps2 := jdq (s ++ h) (by omega)
 rw [hd2, show jr9 (.bad ((s.size + 3 : Nat) : Int) 4) = .tup [.agg jhJ, jao ((s.size + 3 : Nat) : Int), jao 4] from rfl] at ps2
 (iterate 6 (apply jfP; (focus ((conv => whnf); exact ⟨rfl, rfl, rfl⟩)); (conv => whnf)))
 (apply jfP; (focus ((conv => whnf); refine ja9 [] rfl (fun _ => har) ?_; rintro r rfl; (conv => whnf); exact ⟨rfl, rfl, rfl⟩)); (conv => whnf))
 (apply jfP; (focus ((conv => whnf); refine ⟨by omega, ?_⟩; (generalize hrq : jae _ _ (jm1 u.on) = rq; obtain rfl : rq = hnA x := hrq.symm.trans (hr); exact ⟨rfl, rfl, rfl⟩))); (conv => whnf))
 (iterate 1 (apply jfP; (focus ((conv => whnf); exact ⟨rfl, rfl, rfl⟩)); (conv => whnf)))
 (apply jfP; (focus ((conv => whnf); refine ja9 [] rfl (fun _ => hhs) ?_; rintro r rfl; (conv => whnf); exact ⟨rfl, rfl, rfl⟩)); (conv => whnf))
 (iterate 1 (apply jfP; (focus ((conv => whnf); exact ⟨rfl, rfl, rfl⟩)); (conv => whnf)))
 refine ⟨by show s.size + h.size <= maxLen; unfold maxLen; omega, ?_⟩;conv => whnf
 (refine ja9 [] rfl (fun _ => ps2) ?_; rintro r rfl; conv => whnf)
 refine ⟨jaL (by omega), ?_⟩;conv => whnf
 rw [decide_eq_true (show ((s.size + 3 : Nat) : Int) = (s.size : Int) + 3 by omega)];conv => whnf
 (refine ja9 [] rfl (fun _ => h0) ?_; rintro r rfl; conv => whnf)
 rfl
end
end Go.Proofs.YtmodkpibkkpcdaaGreatDoor.Vm
