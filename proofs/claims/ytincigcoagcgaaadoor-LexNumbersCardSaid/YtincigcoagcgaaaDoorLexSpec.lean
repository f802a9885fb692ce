/- What package lex's Tokens gives, as a plain function on lists of bytes. -/
import Derived.Test.YtincigcoagcgaaaDoorPr0
namespace Go.Proofs.YtincigcoagcgaaaDoor.Pr
set_option linter.unusedVariables false
set_option linter.unusedSimpArgs false
open Go.RowKit Go.Proofs.YtincigcoagcgaaaDoorW.PrintWords Go.Proofs.YtincigcoagcgaaaDoorW.PrintLast Go.Proofs.YtincigcoagcgaaaDoorW.PrintMore

/-- How many from the head on are of a kind. -/
def lead (p : Int → Bool) : List Int → Nat
  | [] => 0
  | x :: xs => if p x then lead p xs + 1 else 0

theorem lead_le (p : Int → Bool) (xs : List Int) : lead p xs ≤ xs.length := by
  induction xs with
  | nil => simp [lead]
  | cons x xs ih => unfold lead; split <;> simp <;> omega

theorem lead_drop (p : Int → Bool) (xs : List Int) (k : Nat) (h : k ≤ xs.length) :
    lead p (xs.drop k) = if k < xs.length then (if p (rd xs k) then lead p (xs.drop (k + 1)) + 1 else 0) else 0 := by
  by_cases hk : k < xs.length
  · rw [if_pos hk, List.drop_eq_getElem_cons hk]
    have e : rd xs (k : Int) = xs[k] := by unfold rd; simp [hk]
    rw [e]; rfl
  · rw [if_neg hk, List.drop_eq_nil_of_le (by omega)]; rfl

/-- The kinds of bytes. -/
def isDigit (c : Int) : Bool := decide (48 ≤ c) && decide (c ≤ 57)
def isLower (c : Int) : Bool := decide (97 ≤ c) && decide (c ≤ 122)
def isUpper (c : Int) : Bool := decide (65 ≤ c) && decide (c ≤ 90)
def isBlank (c : Int) : Bool := c == 32 || c == 10 || c == 9 || c == 13
def isWithin (c : Int) : Bool := isLower c || isUpper c || isDigit c || c == 39
def isNote (c : Int) : Bool := c != 10
def isSym (c : Int) : Bool := c == 95 || c == 43 || c == 45 || c == 42 || c == 47 || c == 37 || c == 61 || c == 60

/-- What comes of the byte at the head: blanks or a note, a token of a kind and a length, a number, or nothing. -/
inductive Step where
  | skip (m : Nat)
  | tok (kd : Int) (n : Nat)
  | num (n : Nat)
  | bad

def lexStep : List Int → Step
  | [] => .bad
  | c :: r =>
    if isBlank c = true then .skip 1
    else if (c == 59) = true then .skip (lead isNote (c :: r))
    else if (c == 40) = true then .tok 0 1
    else if (c == 41) = true then .tok 1 1
    else if (c == 45) = true ∧ 1 ≤ r.length ∧ (rd r 0 == 62) = true then .tok 5 2
    else if isDigit c = true ∨ ((c == 45) = true ∧ 1 ≤ r.length ∧ isDigit (rd r 0) = true) then .num (1 + lead isDigit r)
    else if isLower c = true then .tok 3 (lead isWithin (c :: r))
    else if isUpper c = true then .tok 4 (lead isWithin (c :: r))
    else if isSym c = true then .tok 5 1
    else .bad

/-- Is a number of so many bytes none? -/
def numBad (rest : List Int) (n : Nat) : Bool :=
  decide (19 < n) || (decide (18 < n) && rd rest 0 != 45) || (decide (n < rest.length) && isWithin (rd rest n))

/-- The number of digits. -/
def digitsVal (ds : List Int) : Int := ds.foldl (fun a d => 10 * a + (d - 48)) 0
def numVal (t : List Int) : Int := if (rd t 0 == 45) = true then -digitsVal (t.drop 1) else digitsVal t

/-- The tokens of what is left, from a place on, behind those that there are; a place or -1; the error. -/
def lexGo : Nat → List Int → Int → List S33 → List S33 × Int × Int
  | 0, _, _, _ => ([], 0, 0)
  | k + 1, rest, at_, out =>
    if rest.length = 0 then (out, -1, 0)
    else match lexStep rest with
      | .skip m => lexGo k (rest.drop m) (at_ + m) out
      | .tok kd n => lexGo k (rest.drop n) (at_ + n) (out ++ [⟨kd, at_, strOfNums (rest.take n), 0⟩])
      | .num n => if numBad rest n = true then ([], at_, 2) else lexGo k (rest.drop n) (at_ + n) (out ++ [⟨2, at_, strOfNums (rest.take n), numVal (rest.take n)⟩])
      | .bad => ([], at_, 2)

/-- A text's tokens. -/
def lex_Tokens.f (l0 : List Int) : Option (List S33 × Int × Int) :=
  if 4096 < l0.length then some ([], 4096, 2) else some (lexGo (l0.length + 1) l0 0 [])
end Go.Proofs.YtincigcoagcgaaaDoor.Pr
