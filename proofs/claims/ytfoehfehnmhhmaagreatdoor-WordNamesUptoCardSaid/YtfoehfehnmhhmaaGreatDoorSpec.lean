/-
  What package word computes, as plain functions on lists of bytes. No program in sight.
  No condition: definitions alone.
-/
import Derived.Lib.Small
import Derived.Lib.Bytealg
import Derived.Laws.Bits
namespace Go.Proofs.YtfoehfehnmhhmaaGreatDoor.Wd
open Go

abbrev Bytes := List UInt8

def within (c a b : UInt8) : Bool := a ≤ c && c ≤ b
def head (c : UInt8) : Bool := within c 97 122 || within c 65 90 || c == 95
def digit (c : UInt8) : Bool := within c 48 57
/-- How long a name a text begins with. -/
def named : Bytes → Nat
  | [] => 0
  | c :: r => if head c then 1 + (r.takeWhile fun c => head c || digit c).length else 0
/-- Where a byte first stands. -/
def idx (d : UInt8) : Bytes → Option Nat
  | [] => none
  | c :: r => if c = d then some 0 else (idx d r).map (· + 1)
def pre (t s : Bytes) : Bool := t.isPrefixOf s

/-- Given up with: a text of the shell that may not be; that can't be. -/
abbrev syntaxE : Int := 24
abbrev invalE : Int := 16
/-- Not told: the steps did not reach, or a set stands in a pattern. -/
abbrev notTold : Int := -1

mutual
/-- How long a piece is that a text begins with. -/
def piece : Nat → Bytes → Bool → Except Int Nat
  | 0, _, _ => .error notTold
  | f + 1, s, inq => match s with
    | [] => .error syntaxE
    | c :: r =>
      if c = 92 then .ok (min 2 s.length)
      else if c = 39 ∧ inq = false then match idx 39 r with
        | none => .error syntaxE
        | some n => .ok (n + 2)
      else if c = 34 ∧ inq = false then match upto f r 34 true with
        | .error e => .error e
        | .ok n => .ok (1 + n)
      else if pre [36, 123] s then match upto f (s.drop 2) 125 false with
        | .error e => .error e
        | .ok n => .ok (2 + n)
      else if c = 96 ∨ pre [36, 40] s then .error syntaxE
      else .ok 1
/-- How long pieces are, up to a byte, and it. -/
def upto : Nat → Bytes → UInt8 → Bool → Except Int Nat
  | 0, _, _, _ => .error notTold
  | f + 1, s, d, inq => match s with
    | [] => .error syntaxE
    | c :: _ =>
      if c = d then .ok 1
      else match piece f s inq with
        | .error e => .error e
        | .ok n => match upto f (s.drop n) d inq with
          | .error e => .error e
          | .ok m => .ok (n + m)
end
def pieceN (s : Bytes) (inq : Bool) : Except Int Nat := piece (2 * s.length + 2) s inq

/-- Variables. -/
def place (vars : List Bytes) (name : Bytes) : Option Nat := vars.findIdx? fun v => pre (name ++ [61]) v
def get (vars : List Bytes) (name : Bytes) : Option Bytes := (place vars name).map fun n => (vars.getD n []).drop (name.length + 1)
def set (vars : List Bytes) (name value : Bytes) : List Bytes := match place vars name with
  | some n => vars.set n (name ++ [61] ++ value)
  | none => vars ++ [name ++ [61] ++ value]
def cutAt (d : UInt8) (s : Bytes) : Option (Bytes × Bytes) := (idx d s).map fun n => (s.take n, s.drop (n + 1))
def assign (w : Bytes) : Option (Bytes × Bytes) := match cutAt 61 w with
  | none => none
  | some (n, v) => if n = [] ∨ named n ≠ n.length then none else some (n, v)
def plainly (w s : Bytes) : Bool := w == s && !(w.any fun c => c == 39 || c == 34 || c == 92 || c == 36)

/-- One of what a word stands for. -/
inductive Un where
  | char (c : UInt8) (quoted soft : Bool)
  | mark
  | gap
def Un.told : Un → Bytes
  | .char c _ _ => [c]
  | _ => []

/-- No list of units here is longer, by far. -/
abbrev lim : Nat := 1073741824

/-- An expander. -/
structure Ex where
  vars : List Bytes
  args : List Bytes
  status : Nat
  l : List Un
  one : Bool

def Ex.add (x : Ex) (u : List Un) : Ex := ⟨x.vars, x.args, x.status, x.l ++ u, x.one⟩
def chars (s : Bytes) (quoted soft : Bool) : List Un := s.map fun c => .char c quoted soft
def Ex.put (x : Ex) (s : Bytes) (quoted soft : Bool) : Ex := x.add (chars s quoted soft)
def Ex.result (x : Ex) (s : Bytes) (inq : Bool) : Ex := x.put s inq (!inq)
def Ex.own (x : Ex) : List Bytes := x.args.drop 1

def digitsF : Nat → Nat → Bytes
  | 0, _ => []
  | f + 1, n => (if n / 10 = 0 then [] else digitsF f (n / 10)) ++ [UInt8.ofNat (48 + n % 10)]
def digits (n : Nat) : Bytes := digitsF 20 n

def special (s : Bytes) : Bool := match s with
  | [] => false
  | c :: _ => c == 63 || c == 35 || c == 64 || c == 42
/-- A parameter's value; none: it is not told here. -/
def Ex.value (x : Ex) (p : Bytes) : Option (Bytes × Bool) :=
  if 0 < named p then match get x.vars p with
    | some v => some (v, true)
    | none => some ([], false)
  else if p = [35] ∧ x.own.length < 256 then some (digits x.own.length, true)
  else none
/-- The arguments, each of its own. -/
def eachF : Bool → List Bytes → List Un
  | _, [] => []
  | first, a :: r => (if first then [] else [.gap]) ++ [.mark] ++ chars a true false ++ eachF false r
def Ex.plain (x : Ex) (p : Bytes) (inq : Bool) : Option Ex :=
  if p = [64] ∧ inq = true ∧ x.one = false then if lim < (eachF true x.own).length then none else some (x.add (eachF true x.own))
  else (x.value p).map fun v => x.result v.1 inq

def joined (l : List Un) : Bytes := l.flatMap Un.told
def patternOf : Un → Bytes
  | .char c true _ => [92, c]
  | u => u.told
def pattern (l : List Un) : Bytes := l.flatMap patternOf

/-- One byte, by a pattern's beginning: a set is told by 'none' (no word here has one). -/
def oneOf (p : Bytes) (c : UInt8) : Option (Bool × Bytes) := match p with
  | [] => none
  | d :: r =>
    if d = 63 then some (true, r)
    else if d = 91 then none
    else if d = 92 then match r with
      | [] => some (d == c, r)
      | d2 :: r2 => some (d2 == c, r2)
    else some (d == c, r)
/-- walk.Glob, as it goes: none: a set stands in it. -/
def globF : Nat → Bytes → Bytes → Bytes → Bytes → Bool → Option Bool
  | 0, _, _, _, _, _ => none
  | f + 1, p, s, back, from_, star =>
    let fails : Option Bool := if star = false ∨ from_ = [] then some false else globF f back from_.tail back from_.tail star
    match p with
    | [] => if s = [] then some true else fails
    | d :: r =>
      if d = 42 then globF f r s r s true
      else match s with
        | [] => fails
        | c :: s2 => match oneOf p c with
          | none => none
          | some (true, rest) => globF f rest s2 back from_ star
          | some (false, _) => fails

/-- Glob, of so many steps that it ends. -/
def glob (p s : Bytes) : Option Bool := globF ((s.length + 1) * (p.length + s.length + 2)) p s [] [] false
/-- A value without what a pattern tells of, of some lengths. -/
def cutF (p v : Bytes) (back : Bool) : List Nat → Option Bytes
  | [] => some v
  | n :: r => match glob p (if back then v.drop (v.length - n) else v.take n) with
    | none => none
    | some true => some (if back then v.take (v.length - n) else v.drop n)
    | some false => cutF p v back r

/-- How long the parameter is that stands here, told of those that are one byte or a name. -/
def sizeOf (rest : Bytes) : Nat := if named rest = 0 ∧ (special rest || (match rest with
  | [] => false
  | c :: _ => digit c)) = true then 1 else named rest

mutual
/-- Goes through pieces; none: what stands there is not told here. -/
def run : Nat → Ex → Bytes → Bool → Option Ex
  | 0, _, _, _ => none
  | f + 1, x, s, inq => match s with
    | [] => some x
    | c :: r => if lim < x.l.length then none else match pieceN (c :: r) inq with
      | .error _ => none
      | .ok n =>
        if c = 92 then none
        else if c = 39 ∧ inq = false then if n < 2 then none else run f ((x.add [.mark]).put (((c :: r).take (n - 1)).drop 1) true false) ((c :: r).drop n) inq
        else if c = 34 ∧ inq = false then if n < 2 then none else match double f x (((c :: r).take (n - 1)).drop 1) with
          | none => none
          | some x2 => run f x2 ((c :: r).drop n) inq
        else if c = 36 then match dollar f x (c :: r) ((c :: r).take n) inq with
          | none => none
          | some (x2, m) => if m ≤ (c :: r).length then run f x2 ((c :: r).drop m) inq else none
        else run f (x.put ((c :: r).take n) inq false) ((c :: r).drop n) inq
/-- What stands within double quotes. -/
def double : Nat → Ex → Bytes → Option Ex
  | 0, _, _ => none
  | f + 1, x, s => run f (if 0 < x.own.length ∨ (s ≠ [36, 64] ∧ s ≠ [36, 123, 64, 125]) then x.add [.mark] else x) s true
/-- A parameter; how long it was. -/
def dollar : Nat → Ex → Bytes → Bytes → Bool → Option (Ex × Nat)
  | 0, _, _, _, _ => none
  | f + 1, x, s, p, inq =>
    if 1 < p.length then if p.length < 3 then none else match braced f x ((p.take (p.length - 1)).drop 2) inq with
      | none => none
      | some x2 => some (x2, p.length)
    else if sizeOf (s.drop 1) = 0 then none
    else match x.plain ((s.drop 1).take (sizeOf (s.drop 1))) inq with
      | none => none
      | some x2 => some (x2, sizeOf (s.drop 1) + 1)
/-- What stands within braces. -/
def braced : Nat → Ex → Bytes → Bool → Option Ex
  | 0, _, _, _ => none
  | f + 1, x, s, inq => match s with
    | [] => none
    | c :: r =>
      if c = 35 then
        if 0 < named r ∧ named r = r.length then match x.value r with
          | none => none
          | some v => if v.1.length < 256 then some (x.result (digits v.1.length) inq) else none
        else none
      else if named (c :: r) = 0 then none
      else match (c :: r).drop (named (c :: r)) with
        | [] => none
        | o :: w =>
          if o = 37 ∨ o = 35 then match get x.vars ((c :: r).take (named (c :: r))) with
            | none => none
            | some v => match inner f x (if pre [o] w = true then w.drop 1 else w) with
              | none => none
              | some l => match cutF (pattern l) v (o == 37) (if pre [o] w = true then (List.range (v.length + 1)).reverse else List.range (v.length + 1)) with
                | none => none
                | some u => some (x.result u inq)
          else if o = 58 then match w with
            | [] => none
            | k :: t => if k = 45 then match get x.vars ((c :: r).take (named (c :: r))) with
              | some _ => none
              | none => match inner f x t with
                | none => none
                | some l => some (x.result (joined l) inq)
              else none
          else none
/-- What a word within braces stands for. -/
def inner : Nat → Ex → Bytes → Option (List Un)
  | 0, _, _ => none
  | f + 1, x, s => match run f ⟨x.vars, x.args, x.status, [], true⟩ s false with
    | none => none
    | some y => if lim < y.l.length then none else some y.l
end

def fuelOf (s : Bytes) : Nat := 4 * s.length + 8
def begun (vars args : List Bytes) (status : Nat) (one : Bool) : Ex := ⟨vars, args, status, [], one⟩

/-- Fields of units: those that are over, the bytes of the one at hand, is there one? -/
def fieldsF : List Un → List Bytes → Bytes → Bool → List Bytes
  | [], done, b, there => if there then done ++ [b] else done
  | .gap :: r, done, b, there => fieldsF r (if there then done ++ [b] else done) [] false
  | .mark :: r, done, b, _ => fieldsF r done b true
  | .char c _ soft :: r, done, b, there =>
    if (soft && (c == 32 || c == 9 || c == 10)) = true then fieldsF r (if there then done ++ [b] else done) [] false
    else fieldsF r done (b ++ [c]) true
def expand (vars args : List Bytes) (status : Nat) (w : Bytes) : Option (List Bytes) := (run (fuelOf w) (begun vars args status false) w false).bind fun x => if lim < x.l.length then none else some (fieldsF x.l [] [] false)
def valueOf (vars args : List Bytes) (status : Nat) (w : Bytes) : Option Bytes := (run (fuelOf w) (begun vars args status true) w false).bind fun x => if lim < x.l.length then none else some (joined x.l)

/-- A word's bytes, and what stands behind it. -/
def stops (c : UInt8) : Bool := ([32, 9, 10, 59, 124, 38, 60, 62, 40, 41] : Bytes).contains c
def wordF : Nat → Bytes → Bytes → Option (Bytes × Bytes)
  | 0, _, _ => none
  | f + 1, b, s => match s with
    | [] => some (b, [])
    | c :: r =>
      if stops c = true then some (b, c :: r)
      else if pre [92, 10] (c :: r) then none
      else match pieceN (c :: r) false with
        | .error _ => none
        | .ok n => wordF f (b ++ (c :: r).take n) ((c :: r).drop n)
/-- The first of some texts that stands here. -/
def takes (s : Bytes) : List Bytes → Option Bytes
  | [] => none
  | t :: r => if pre t s then some t else takes s r
def signs : List Bytes := [[38, 38], [124, 124], [59], [124], [10]]
def moves : List Bytes := [[62, 62], [62, 38], [60, 38], [62], [60]]
/-- One token, or what is passed over. -/
def token (l : List (Nat × Bytes)) (s : Bytes) : Option (List (Nat × Bytes) × Bytes) := match s with
  | [] => none
  | c :: r =>
    if c = 32 ∨ c = 9 then some (l, r)
    else if pre [92, 10] (c :: r) = true then none
    else if c = 35 then match idx 10 (c :: r) with
      | none => some (l, [])
      | some _ => none
    else if (pre [59, 59] (c :: r) || pre [60, 60] (c :: r)) = true then none
    else match takes (c :: r) signs with
      | some t => some (l ++ [(2, t)], (c :: r).drop t.length)
      | none => match takes (c :: r) moves with
        | some t => some (l ++ [(3, t)], (c :: r).drop t.length)
        | none =>
          if (within c 48 50 && (match r with
            | [] => false
            | d :: _ => d == 60 || d == 62)) = true then some (l ++ [(4, [c])], r)
          else if c = 38 ∨ c = 40 ∨ c = 41 then none
          else match wordF ((c :: r).length + 1) [] (c :: r) with
            | none => none
            | some (b, s2) => if b = [] then none else some (l ++ [(1, b)], s2)
def lexF : Nat → List (Nat × Bytes) → Bytes → Option (List (Nat × Bytes))
  | 0, _, _ => none
  | f + 1, l, s => match s with
    | [] => some l
    | c :: r => match token l (c :: r) with
      | none => none
      | some (l2, s2) => lexF f l2 s2
def lex (s : Bytes) : Option (List (Nat × Bytes)) := lexF (s.length + 1) [] s

end Go.Proofs.YtfoehfehnmhhmaaGreatDoor.Wd
