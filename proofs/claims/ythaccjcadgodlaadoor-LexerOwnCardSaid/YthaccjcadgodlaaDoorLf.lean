/- The plain lexer: what both texts are shown to compute. No program is named here. -/
import Derived.Test.YthaccjcadgodlaaDoorVmU
namespace Go.Proofs.YthaccjcadgodlaaDoor.Vm
open Go.RowKit
set_option linter.unusedSimpArgs false
set_option linter.unusedVariables false
def isL (c : UInt8) : Bool := decide (97 ≤ (c.toNat : Int)) && decide ((c.toNat : Int) ≤ 122)
def isD (c : UInt8) : Bool := decide (48 ≤ (c.toNat : Int)) && decide ((c.toNat : Int) ≤ 57)
def isLD (c : UInt8) : Bool := isL c || isD c
def isSp (c : UInt8) : Bool := (decide ((c.toNat : Int) = 32) || decide ((c.toNat : Int) = 9)) || decide ((c.toNat : Int) = 10)
def noNl (c : UInt8) : Bool := !decide ((c.toNat : Int) = 10)
def isHash (c : UInt8) : Bool := decide ((c.toNat : Int) = 35)
def spanN (p : UInt8 → Bool) : List UInt8 → Nat
  | [] => 0
  | c :: r => match p c with | true => spanN p r + 1 | false => 0
/-- How many bytes of white space and comments there are; in a comment, or not. -/
def skipN : Bool → List UInt8 → Nat
  | _, [] => 0
  | true, c :: r => match noNl c with | true => skipN true r + 1 | false => skipN false r + 1
  | false, c :: r => match isHash c with
    | true => skipN true r + 1
    | false => match isSp c with
      | true => skipN false r + 1
      | false => 0
/-- The value of digits, behind some; -1: too great. -/
def valF : Int → List UInt8 → Int
  | n, [] => n
  | n, c :: r => if 2147483647 < 10 * n + (c.toNat : Int) - 48 then -1 else valF (10 * n + (c.toNat : Int) - 48) r
def bs (l : List UInt8) : ByteArray := ⟨l.toArray⟩
def twos : List ByteArray := [bs [124, 124], bs [38, 38], bs [60, 61], bs [62, 61], bs [61, 61], bs [33, 61]]
def ones : List ByteArray := [bs [123], bs [125], bs [91], bs [93], bs [40], bs [41], bs [61], bs [59], bs [44], bs [60], bs [62], bs [43], bs [45], bs [42], bs [47], bs [33]]
def hasF (l : List ByteArray) (s : ByteArray) : Bool := l.any fun x => decide (x = s)
inductive T1 where
  | bad (e : Int)
  | tok (kind : Int) (len : Nat) (n : Int)
/-- The token at the beginning of some bytes. -/
def tokF : List UInt8 → T1
  | [] => .bad 10
  | c :: r => match isL c with
    | true => if 10 < spanN isLD r + 1 then .bad 2 else .tok 1 (spanN isLD r + 1) 0
    | false => match isD c with
      | true => if valF 0 (c :: r.take (spanN isD r)) < 0 then .bad 6 else .tok 2 (spanN isD r + 1) (valF 0 (c :: r.take (spanN isD r)))
      | false => match hasF twos (bs ((c :: r).take 2)) with
        | true => .tok 3 2 0
        | false => match hasF ones (bs [c]) with
          | true => .tok 3 1 0
          | false => .bad 10
structure Tk where
  kind : Int
  pos : Nat
  text : ByteArray
  n : Int
structure Lx where
  toks : List Tk
  err : Option (Nat × Int)
def Lx.cons (t : Tk) (x : Lx) : Lx := ⟨t :: x.toks, x.err⟩
/-- The tokens of some bytes, the first of them at pos. -/
def lexG : Nat → Nat → List UInt8 → Lx
  | 0, _, _ => ⟨[], none⟩
  | f + 1, pos, [] => ⟨[], none⟩
  | f + 1, pos, c :: r => match isHash c with
    | true => lexG f (pos + 1 + spanN noNl r) (r.drop (spanN noNl r))
    | false => match isSp c with
      | true => lexG f (pos + 1) r
      | false => match tokF (c :: r) with
        | .bad e => ⟨[], some (pos, e)⟩
        | .tok k len n => Lx.cons ⟨k, pos, bs ((c :: r).take len), n⟩ (lexG f (pos + len) ((c :: r).drop len))
def lexF (s : ByteArray) : Lx := lexG (s.data.toList.length + 1) 0 s.data.toList
def tkL (t : Tk) : List A := [intA t.kind, intA t.pos, strA t.text, intA t.n]
def tksL (l : List Tk) : List A := l.flatMap tkL
def endTk (s : ByteArray) : Tk := ⟨0, s.size, ⟨#[]⟩, 0⟩
theorem spanN_le (p : UInt8 → Bool) : ∀ l : List UInt8, spanN p l ≤ l.length
  | [] => by simp [spanN]
  | c :: r => by
    have := spanN_le p r
    unfold spanN
    split <;> simp <;> omega
theorem skipN_le : ∀ (b : Bool) (l : List UInt8), skipN b l ≤ l.length
  | b, [] => by cases b <;> simp [skipN]
  | true, c :: r => by
    have h1 := skipN_le true r
    have h2 := skipN_le false r
    unfold skipN
    split <;> simp <;> omega
  | false, c :: r => by
    have h1 := skipN_le true r
    have h2 := skipN_le false r
    unfold skipN
    split
    · simp; omega
    · split <;> simp; omega
end Go.Proofs.YthaccjcadgodlaaDoor.Vm
