/- The pure words of reading: bytes, lines' kinds, spans, blocks. No program in it. -/
import Derived.Test.YtlcfijkegdlfcaaGreatDoorTree
import Derived.Test.YtlcfijkegdlfcaaGreatDoorBl
import Derived.Lib.IndexMore
import Derived.Lib.Bytealg
import Derived.Lib.SlTrimSet
import Derived.Lib.ValidU
namespace Go.Proofs.YtlcfijkegdlfcaaGreatDoor
set_option linter.all false
set_option linter.deprecated false
/-- A Space. -/
def spB (c : UInt8) : Bool := c == 32 || c == 9
/-- A line without spaces at its ends. -/
def trimL (s : Ln) : Ln := Lib.trimS s [32, 9]
/-- How often a byte stands at a line's beginning. -/
def runL (c : UInt8) (s : Ln) : Nat := (s.takeWhile (· == c)).length
def headL (s : Ln) : Nat := if 6 < runL 35 s ∨ (runL 35 s < s.length ∧ s.getD (runL 35 s) 0 ≠ 32) then 0 else runL 35 s
def openL (s : Ln) : Nat := if runL 96 s < 3 ∨ (96 : UInt8) ∈ s.drop (runL 96 s) then 0 else runL 96 s
/-- A byte that a place to go to may have. -/
def lettersL : List UInt8 := [97, 98, 99, 100, 101, 102, 103, 104, 105, 106, 107, 108, 109, 110, 111, 112, 113, 114, 115, 116, 117, 118, 119, 120, 121, 122, 65, 66, 67, 68, 69, 70, 71, 72, 73, 74, 75, 76, 77, 78, 79, 80, 81, 82, 83, 84, 85, 86, 87, 88, 89, 90, 48, 49, 50, 51, 52, 53, 54, 55, 56, 57, 46, 47, 95, 45, 35, 63, 38, 58, 37]
def letterB (c : UInt8) : Bool := lettersL.contains c
def destL (s : Ln) : Bool := !s.isEmpty && s.all letterB
/-- What keeps bytes from being a text: the error's number. -/
def checkL (s : Ln) : Nat := if 1048576 < s.length then 4 else if (0 : UInt8) ∈ s then 3 else if Lib.validD s = true then 0 else 2
def lineL (s : Ln) : Bool := checkL s == 0 && !s.any (([13, 10] : List UInt8).contains ·)
def labelL (s : Ln) : Bool := !s.isEmpty && lineL s && trimL s == s && !s.any (([91, 93, 92] : List UInt8).contains ·)
/-- A definition's label and place. -/
def defineL (s : Ln) : Option (Ln × Ln) :=
  if (Lib.cut s [93, 58, 32]).2.2 = true ∧ (Lib.cut s [93, 58, 32]).1.head? = some 91 ∧ labelL ((Lib.cut s [93, 58, 32]).1.drop 1) = true ∧ destL (Lib.cut s [93, 58, 32]).2.1 = true
  then some ((Lib.cut s [93, 58, 32]).1.drop 1, (Lib.cut s [93, 58, 32]).2.1) else none
/-- A line's kind. -/
def kindL (s : Ln) : Nat :=
  if trimL s = [] then 1 else if 0 < headL s then 2 else if 3 ≤ s.length ∧ runL 45 s = s.length then 3 else if 0 < openL s then 4 else if s.head? = some 62 then 5 else
    if s = [45] ∨ [45, 32].isPrefixOf s = true then 6 else if (defineL s).isSome = true then 7 else 8
def closesL (n : Nat) (s : Ln) : Bool := !s.isEmpty && decide (n ≤ s.length) && runL 96 s == s.length
/-- Without a space with which it begins. -/
def unspL (s : Ln) : Ln := if s.head? = some 32 then s.drop 1 else s
/-- Without the mark. -/
def unmarkL (s : Ln) : Ln := unspL (s.drop 1)
def innerL (s : Ln) : Option Ln := if [32, 32].isPrefixOf s = true then some (s.drop 2) else if trimL s = [] then some [] else none

/-- Text behind spans. -/
def putS (l : List Sp) (t : Ln) : List Sp :=
  match l.getLast? with
  | some (.mk 1 s k) => l.dropLast ++ [.mk 1 (ba (bl s ++ t)) k]
  | _ => l ++ [.mk 1 (ba t) []]
/-- A code's text, without one space at each end. -/
def stripL (s : Ln) : Ln := if 2 < s.length ∧ s.head? = some 32 ∧ s.getLast? = some 32 ∧ s.any (· != 32) = true then (s.drop 1).dropLast else s
/-- A byte that a backslash makes a plain one. -/
def markB (c : UInt8) : Bool := (32 < c && c < 48) || (57 < c && c < 65) || (90 < c && c < 97) || (122 < c && c ≤ 126)
/-- The code behind n backticks: what was gone over, and what stands there. -/
def codeG : Nat → Nat → Ln → Ln → Option (Sp × Ln)
  | 0, _, _, _ => none
  | _ + 1, _, _, [] => none
  | f + 1, n, pre, c :: t => if c = 10 then none else if runL 96 (c :: t) = n then some (.mk 2 (ba (stripL pre)) [], (c :: t).drop n) else codeG f n (pre ++ (c :: t).take (max 1 (runL 96 (c :: t)))) ((c :: t).drop (max 1 (runL 96 (c :: t))))
/-- Where a link goes to, and what stands behind that. -/
def destG (s : Ln) : Option (Ln × Ln) :=
  if s.head? = some 40 ∧ (s.drop 1).takeWhile letterB ≠ [] ∧ ((s.drop 1).dropWhile letterB).head? = some 41 then some ((s.drop 1).takeWhile letterB, ((s.drop 1).dropWhile letterB).drop 1) else none
/-- What begins with a byte that means something, by a reading of what it encloses. -/
def enclG (rd : Ln → Bool → Bool → List Sp × Ln) (s : Ln) (emph link : Bool) : Option (Sp × Ln) :=
  if s.head? = some 42 then
    (if (rd (s.drop 1) true link).2.head? = some 42 ∧ (rd (s.drop 1) true link).1 ≠ [] then some (.mk 3 (ba []) (rd (s.drop 1) true link).1, (rd (s.drop 1) true link).2.drop 1) else none)
  else if s.head? = some 91 ∧ link = false then
    (if (rd (s.drop 1) emph true).2.head? = some 93 ∧ (rd (s.drop 1) emph true).1 ≠ [] then (destG ((rd (s.drop 1) emph true).2.drop 1)).map fun x => (.mk 4 (ba x.1) (rd (s.drop 1) emph true).1, x.2) else none)
  else if s.head? = some 96 then codeG (s.length + 1) (runL 96 s) [] (s.drop (runL 96 s)) else none
/-- Reading spans: what came so far, and the rest. -/
def readG : Nat → Ln → List Sp → Bool → Bool → List Sp × Ln
  | 0, s, out, _, _ => (out, s)
  | f + 1, s, out, emph, link =>
    if s = [] then (out, s)
    else if (s.head? = some 42 ∧ emph = true) ∨ (s.head? = some 93 ∧ link = true) then (out, s)
    else if s.head? = some 92 ∧ ((s.drop 1).head?.any markB) = true then readG f (s.drop 2) (putS out ((s.drop 1).take 1)) emph link
    else match enclG (fun t e l => readG f t [] e l) s emph link with
      | some x => readG f x.2 (out ++ [x.1]) emph link
      | none => readG f (s.drop (max 1 (runL 96 s))) (putS out (s.take (max 1 (runL 96 s)))) emph link
/-- The spans that a text tells. -/
def spansL (s : Ln) : List Sp := (readG (s.length + 1) s [] false false).1

/-- Lines as a text. -/
def joinL (l : List Ln) : Ln := ([10] : Ln).intercalate l
/-- An item's lines, and what is behind. -/
def itemSeq (t : List Ln) : List Ln := ((t.takeWhile fun x => (innerL x).isSome).reverse.dropWhile fun x => kindL x == 1).reverse
def itemG (s : Ln) (t : List Ln) : List Ln × List Ln := (unmarkL s :: (itemSeq t).map (fun x => (innerL x).getD []), t.drop (itemSeq t).length)
def dropBlank (l : List Ln) : List Ln := l.dropWhile fun x => kindL x == 1
/-- A list's items' lines, and what is behind. -/
def itemsG : Nat → Ln → List Ln → List (List Ln) × List Ln
  | 0, s, t => ([(itemG s t).1], (itemG s t).2)
  | f + 1, s, t =>
    if (dropBlank (itemG s t).2).head?.any (fun x => kindL x == 6) = true then
      ((itemG s t).1 :: (itemsG f ((dropBlank (itemG s t).2).headD []) ((dropBlank (itemG s t).2).drop 1)).1, (itemsG f ((dropBlank (itemG s t).2).headD []) ((dropBlank (itemG s t).2).drop 1)).2)
    else ([(itemG s t).1], (itemG s t).2)
/-- A block that a line begins: the block (none: too deep), and the lines behind it. -/
def paraB (l : List Ln) : Bl := .mk 1 0 (ba []) [] (spansL (joinL (l.map trimL))) []
def headB (s : Ln) : Bl := .mk 2 (headL s) (ba []) [] (spansL (trimL (s.drop (headL s)))) []
def ruleB : Bl := .mk 3 0 (ba []) [] [] []
def fenceB (s : Ln) (l : List Ln) : Bl := .mk 4 0 (ba (trimL (s.drop (openL s)))) (l.map ba) [] []
def defB (s : Ln) : Bl := .mk 8 0 (ba ((defineL s).getD ([], [])).1) [ba ((defineL s).getD ([], [])).2] [] []
def quoteB (l : List Bl) : Bl := .mk 5 0 (ba []) [] [] l
def itemB (l : List Bl) : Bl := .mk 7 0 (ba []) [] [] l
def listB (l : List (List Bl)) : Bl := .mk 6 0 (ba []) [] [] (l.map itemB)
def blockG (in1 in2 : List Ln → Option (List Bl)) (s : Ln) (t : List Ln) : Option Bl × List Ln :=
  if kindL s = 4 then (some (fenceB s (t.takeWhile fun x => !closesL (openL s) x)), (t.dropWhile fun x => !closesL (openL s) x).drop 1)
  else if kindL s = 5 then ((in1 ((s :: t.takeWhile fun x => kindL x == 5).map unmarkL)).map quoteB, t.dropWhile fun x => kindL x == 5)
  else if kindL s = 6 then (((itemsG t.length s t).1.mapM in2).map listB, (itemsG t.length s t).2)
  else if kindL s = 8 then (some (paraB (s :: t.takeWhile fun x => kindL x == 8)), t.dropWhile fun x => kindL x == 8)
  else if kindL s = 2 then (some (headB s), t)
  else if kindL s = 3 then (some ruleB, t)
  else (some (defB s), t)
/-- Blocks, one behind the other. -/
def blocksG (in1 in2 : List Ln → Option (List Bl)) : Nat → List Ln → Option (List Bl)
  | 0, _ => some []
  | f + 1, l =>
    match dropBlank l with
    | [] => some []
    | s :: t =>
      match (blockG in1 in2 s t).1 with
      | none => none
      | some b => (blocksG in1 in2 f (blockG in1 in2 s t).2).map (b :: ·)
/-- All blocks of lines, with so much room for containers. -/
def allG : Nat → List Ln → Option (List Bl)
  | 0, _ => none
  | 1, l => blocksG (fun _ => none) (fun _ => none) l.length l
  | r + 2, l => blocksG (allG (r + 1)) (allG r) l.length l
/-- What lines tell. -/
def linesG (l : List Ln) : Option (List Bl) := allG 17 l
/-- A text's lines. -/
def splitG : Nat → Ln → List Ln
  | 0, _ => []
  | f + 1, s =>
    if s = [] then [] else
    match s.dropWhile (fun c => c != 10 && c != 13) with
    | [] => [s]
    | 13 :: 10 :: t => s.takeWhile (fun c => c != 10 && c != 13) :: splitG f t
    | _ :: t => s.takeWhile (fun c => c != 10 && c != 13) :: splitG f t
def splitL (s : Ln) : List Ln := splitG s.length s
/-- What a text tells: blocks, or the error's number. -/
def docG (s : Ln) : Except Nat (List Bl) := if checkL s ≠ 0 then .error (checkL s) else match linesG (splitL s) with | none => .error 5 | some l => .ok l
/-- Where blocks lie. -/
def spreadG : Nat → Nat → List Ln → List (Nat × Nat)
  | 0, _, _ => []
  | f + 1, at_, l =>
    match dropBlank l with
    | [] => []
    | s :: t => (at_ + (l.length - t.length - 1), at_ + (l.length - (blockG (fun _ => none) (fun _ => none) s t).2.length)) :: spreadG f (at_ + (l.length - (blockG (fun _ => none) (fun _ => none) s t).2.length)) (blockG (fun _ => none) (fun _ => none) s t).2
end Go.Proofs.YtlcfijkegdlfcaaGreatDoor
