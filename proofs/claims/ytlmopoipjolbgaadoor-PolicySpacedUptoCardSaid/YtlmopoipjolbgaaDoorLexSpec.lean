/-
  Plain words of layer 5 (lex), on lists of bytes: no program in sight.
-/
import Derived.WalkKit
namespace Go.Proofs.YtlmopoipjolbgaaDoor.LexS
set_option linter.unusedVariables false
set_option linter.unusedSimpArgs false

def blankB (c : UInt8) : Bool := c == 9 || c == 10 || c == 13 || c == 32
def letterB (c : UInt8) : Bool := (97 ≤ c && c ≤ 122) || ((65 ≤ c && c ≤ 90) || c == 95)
def digitB (c : UInt8) : Bool := 48 ≤ c && c ≤ 57
def wordB (c : UInt8) : Bool := letterB c || digitB c
def hexB (c : UInt8) : Bool := digitB c || (97 ≤ c && c ≤ 102)

/-- what is left behind blanks and remarks; true: within a remark -/
def skipS : Bool → List UInt8 → List UInt8
  | _, [] => []
  | true, c :: r => if c == 10 then skipS false r else skipS true r
  | false, c :: r => if blankB c then skipS false r else if c == 35 then skipS true r else c :: r

/-- how many bytes the sign has -/
def signL : List UInt8 → Nat
  | [] => 0
  | c :: r =>
    if (c == 61 || c == 33 || c == 60 || c == 62) && r.head? == some 61 then 2
    else if c == 59 || c == 44 || c == 40 || c == 41 || c == 38 || c == 60 || c == 62 then 1 else 0

def digV (c : UInt8) : Nat := c.toNat - 48
def hexV (c : UInt8) : Nat := if c ≤ 57 then c.toNat - 48 else c.toNat - 87
def valL (b : Nat) (d : UInt8 → Nat) : Nat → List UInt8 → Nat
  | n, [] => n
  | n, c :: r => valL b d (b * n + d c) r

/-- what is a number -/
def numL (l : List UInt8) : Option Nat :=
  if l.take 2 = [48, 120] then
    if 1 ≤ (l.drop 2).length ∧ (l.drop 2).length ≤ 16 ∧ (l.drop 2).all hexB = true then some (valL 16 hexV 0 (l.drop 2)) else none
  else if 1 ≤ l.length ∧ ¬ (1 < l.length ∧ l.head? = some 48) ∧ l.all digitB = true ∧ valL 10 digV 0 l < 18446744073709551616 then some (valL 10 digV 0 l) else none

/-- what is a word -/
def wordL (l : List UInt8) : Bool := decide (1 ≤ l.length ∧ l.length ≤ 32 ∧ (∃ c, l.head? = some c ∧ letterB c = true) ∧ l.all wordB = true)

structure Tok where
  kind : Nat
  text : List UInt8
  num : Nat
  at_ : Nat

/-- the token that begins here (the place is p, what is left is l), or the error -/
def tokAt (p : Nat) (l : List UInt8) : Except Nat Tok :=
  match l with
  | [] => .ok ⟨1, [], 0, p⟩
  | c :: _ =>
    if letterB c then (if 32 < (l.takeWhile wordB).length then .error 52 else .ok ⟨2, l.takeWhile wordB, 0, p⟩)
    else if digitB c then (match numL (l.takeWhile wordB) with | some n => .ok ⟨3, l.takeWhile wordB, n, p⟩ | none => .error 53)
    else if signL l = 0 then .error 51 else .ok ⟨4, l.take (signL l), 0, p⟩

theorem skipS_length (b : Bool) (l : List UInt8) : (skipS b l).length ≤ l.length := by
  induction l generalizing b with
  | nil => simp [skipS]
  | cons c r ih =>
    cases b
    · simp only [skipS]; split
      · have := ih false; simp; omega
      · split
        · have := ih true; simp; omega
        · simp
    · simp only [skipS]; split
      · have := ih false; simp; omega
      · have := ih true; simp; omega

end Go.Proofs.YtlmopoipjolbgaaDoor.LexS
