/- What the functions of package script compute, said over lists of bytes: numbers, hexadecimal digits, words, lines, steps. No program in it. -/
import Derived.Lib.AtoiAllCases
import Derived.Lib.Itoa
import Derived.Lib.ItoaNum
import Derived.Lib.ItoaLen
import Derived.Lib.Bytealg
import Derived.Lib.SplitLaws
namespace Go.Proofs.YtnollfnjidbdcaaDoor.X
open Go

/-- The hexadecimal digits. -/
def dgs : List UInt8 := [48, 49, 50, 51, 52, 53, 54, 55, 56, 57, 97, 98, 99, 100, 101, 102]
/-- A digit's value; -1: it is none. -/
def nib (c : UInt8) : Int := Lib.indexByte dgs c
def hexL (l : List UInt8) : List UInt8 := l.flatMap fun c => [dgs.getD (c.toNat / 16) 0, dgs.getD (c.toNat % 16) 0]
def pairsL : List UInt8 → Option (List UInt8)
  | [] => some []
  | [_] => none
  | a :: b :: r => if nib a < 0 ∨ nib b < 0 then none else (pairsL r).map fun t => UInt8.ofNat (nib a * 16 + nib b).toNat :: t
def unhexL : List UInt8 → Option (List UInt8)
  | c :: r => if c = 120 then pairsL r else none
  | [] => none

/-- What 'number' hands back. -/
def numV (l : List UInt8) : Int × Bool :=
  match Lib.atoiAll l with
  | .ok n => (n, Lib.itoa n == l)
  | .range => (Lib.atoiSat l, false)
  | _ => (0, false)
/-- The number that is written so, as it should be. -/
def numL (l : List UInt8) : Option Int := if (numV l).2 = true then some (numV l).1 else none

/-- The words between blanks. -/
def splitL : List UInt8 → List (List UInt8)
  | [] => [[]]
  | c :: r => if c = 32 then [] :: splitL r else match splitL r with
    | [] => [[c]]
    | h :: t => (c :: h) :: t
theorem splitL_ne (l : List UInt8) : splitL l ≠ [] := by
  cases l with
  | nil => simp [splitL]
  | cons c r => unfold splitL; split; simp; split <;> simp

/-- A step. -/
structure St where
  k : Int
  a : Int
  b : Int
  d : List UInt8

def numsL : List (List UInt8) → Option (List Int)
  | [] => some []
  | w :: r => match numL w, numsL r with
    | some n, some t => some (n :: t)
    | _, _ => none

/-- The step of a line, without its end. -/
def oneL (l : List UInt8) : Option St :=
  match unhexL ((splitL l).getLastD []), numsL (splitL l).dropLast with
  | some d, some [k, a, b] => some ⟨k, a, b, d⟩
  | _, _ => none

/-- A word of a line. -/
inductive Wd where
  | num (n : Int)
  | bytes (l : List UInt8)
def Wd.text : Wd → List UInt8
  | .num n => Lib.itoa n
  | .bytes l => 120 :: hexL l
def wordsL : List Wd → List UInt8
  | [] => []
  | [x] => x.text
  | x :: r => x.text ++ 32 :: wordsL r
def lineL (ws : List Wd) : List UInt8 := wordsL ws ++ [10]
def St.words (x : St) : List Wd := [.num x.k, .num x.a, .num x.b, .bytes x.d]
def printL (l : List St) : List UInt8 := l.flatMap fun x => lineL x.words

/-- The lines of a text, each with its end. -/
def linesL : List UInt8 → List (List UInt8)
  | [] => []
  | c :: r => if c = 10 then [10] :: linesL r else match linesL r with
    | [] => [[c]]
    | h :: t => (c :: h) :: t
/-- One line, with its end. -/
def stepOf (s : List UInt8) : Option St := if Lib.hasSuffix s [10] = true then oneL (Lib.trimSuffix s [10]) else none
/-- The steps of lines; n lines lie ahead. -/
def parseGo : Nat → List St → List (List UInt8) → List St × Int × Int
  | _, out, [] => (out, 0, 0)
  | n, out, s :: r => match stepOf s with
    | some x => parseGo (n + 1) (out ++ [x]) r
    | none => ([], n + 1, 8)
def parseL (l : List UInt8) : List St × Int × Int := parseGo 0 [] (linesL l)

/-- A setting's numbers, as a line; a line, as a setting's numbers. -/
def settingL (ns : List Int) : List UInt8 := lineL (ns.map .num)
def setL (l : List UInt8) : Option (List Int) :=
  if Lib.hasSuffix l [10] = true then
    match numsL (splitL (Lib.trimSuffix l [10])) with
    | some ns => if ns.length = 18 then some ns else none
    | none => none
  else none
end Go.Proofs.YtnollfnjidbdcaaDoor.X
