/-
  What package order computes, as plain functions on lists of bytes. No program in sight.
  No condition: definitions and lemmas alone.
-/
import Derived.Lib.Small
import Derived.Lib.Bytealg
import Derived.Lib.ParseIntBTie
import Derived.Laws.Bits
namespace Go.Proofs.YtnhopkjichgckaaDoor.Ord
open Go

abbrev Bytes := List UInt8

def blank (c : UInt8) : Bool := c == 32 || c == 9

/-- The flag of a letter; b: what the letter b stands for. -/
def flag (c : UInt8) (b : Int) : Int :=
  if c == 98 then b else if c == 100 then 4 else if c == 102 then 8 else if c == 105 then 16
  else if c == 110 then 32 else if c == 114 then 64 else 0

def orI (a b : Int) : Int := bits .or .i64 a b
def has (fl b : Int) : Bool := bits .and .i64 fl b != 0

def digit (c : UInt8) : Bool := 48 ≤ c && c ≤ 57
def value (s : Bytes) : Nat := s.foldl (fun n c => n * 10 + (c.toNat - 48)) 0
/-- text.Number. -/
def number (s : Bytes) (most : Int) : Option Int :=
  if !s.isEmpty && s.all digit && decide ((value s : Int) ≤ most) then some (value s) else none

structure Place where
  f : Int
  c : Int
  deriving DecidableEq, Inhabited

/-- The letters behind a place. -/
def letters (b : Int) : Bytes → Int → Option Int
  | [], fl => some fl
  | c :: r, fl => if flag c b = 0 then none else letters b r (orI fl (flag c b))

/-- The C of F.C, and what stands behind it. -/
def readC (s : Bytes) (leastC : Int) : Option (Int × Bytes) :=
  match s with
  | 46 :: t => match number (t.takeWhile digit) 2147483647 with
    | none => none
    | some c => if c < leastC then none else some (c, t.dropWhile digit)
  | _ => some (0, s)

/-- order.read -/
def read (s : Bytes) (b leastC : Int) : Option (Place × Int) :=
  match number (s.takeWhile digit) 2147483647 with
  | none => none
  | some f => if f < 1 then none else
    match readC (s.dropWhile digit) leastC with
    | none => none
    | some (c, r) => match letters b r 0 with
      | none => none
      | some fl => some (⟨f, c⟩, fl)

structure Key where
  from_ : Place
  to_ : Place
  fl : Int
  deriving DecidableEq, Inhabited

/-- What stands ahead of the first comma; what stands behind it, if there is one. -/
def cutComma : Bytes → Bytes × Option Bytes
  | [] => ([], none)
  | c :: r => if c = 44 then ([], some r) else ((c :: (cutComma r).1), (cutComma r).2)

/-- order.keyed -/
def keyed (s : Bytes) (whole : Int) : Option Key :=
  match read (cutComma s).1 1 1 with
  | none => none
  | some (p, fl) =>
    match (cutComma s).2 with
    | none => some ⟨p, ⟨0, 0⟩, if fl = 0 then whole else fl⟩
    | some b => match read b 2 0 with
      | none => none
      | some (q, fl2) => some ⟨p, q, if orI fl fl2 = 0 then whole else orI fl fl2⟩

structure Ordr where
  fl : Int
  sep : Int
  keys : List Key
  deriving DecidableEq, Inhabited

abbrev Opt := UInt8 × Bytes

def wholeFlags (l : List Opt) : Int := l.foldl (fun fl x => orI fl (flag x.1 3)) 0

/-- The second loop of Read: the separator and the keys. -/
def readOpts (whole : Int) : List Opt → Int → List Key → Option (Int × List Key)
  | [], sep, ks => some (sep, ks)
  | x :: r, sep, ks =>
    if x.1 = 116 then readOpts whole r (match x.2 with | [c] => (c.toNat : Int) | _ => -2) ks
    else if x.1 = 107 then
      match keyed x.2 whole with
      | none => none
      | some k => readOpts whole r sep (ks ++ [k])
    else readOpts whole r sep ks

/-- order.Read -/
def readAll (l : List Opt) : Option Ordr :=
  match readOpts (wholeFlags l) l (-1) [] with
  | none => none
  | some (sep, ks) =>
    if sep = -2 then none
    else some ⟨wholeFlags l, sep, if ks.isEmpty then [⟨⟨1, 0⟩, ⟨0, 0⟩, wholeFlags l⟩] else ks⟩

/-- Where the field that begins at 'at' ends. -/
def fieldEnd (sep : Int) (b : Bytes) (at_ : Nat) : Nat :=
  if 0 ≤ sep then at_ + ((b.drop at_).takeWhile (fun c => !((c.toNat : Int) == sep))).length
  else
    let e := at_ + ((b.drop at_).takeWhile blank).length
    e + ((b.drop e).takeWhile (fun c => !blank c)).length

/-- The n-th field, one of them beginning at 'at'. -/
def field (sep : Int) (b : Bytes) : Nat → Nat → Option (Nat × Nat)
  | 0, _ => none
  | n + 1, at_ =>
    if n = 0 then some (at_, fieldEnd sep b at_)
    else if fieldEnd sep b at_ = b.length then none
    else field sep b n (if 0 ≤ sep then fieldEnd sep b at_ + 1 else fieldEnd sep b at_)

/-- A field's first byte that is no blank. -/
def inner (b : Bytes) (f t : Nat) : Nat := f + (((b.take t).drop f).takeWhile blank).length

/-- From where on a key's bytes are. -/
def pieceFrom (sep : Int) (b : Bytes) (k : Key) : Int :=
  match field sep b k.from_.f.toNat 0 with
  | none => b.length
  | some (a, e) => (if has k.fl 1 then inner b a e else a : Nat) + max 0 (k.from_.c - 1)
/-- And up to where. -/
def pieceTo (sep : Int) (b : Bytes) (k : Key) : Int :=
  if 0 < k.to_.f then
    match field sep b k.to_.f.toNat 0 with
    | none => b.length
    | some (a, e) => if 0 < k.to_.c then min (b.length : Int) ((if has k.fl 2 then inner b a e else a : Nat) + k.to_.c) else e
  else b.length

/-- A key's bytes. -/
def piece (sep : Int) (b : Bytes) (k : Key) : Bytes :=
  if pieceTo sep b k ≤ pieceFrom sep b k then [] else (b.take (pieceTo sep b k).toNat).drop (pieceFrom sep b k).toNat

def low (c : UInt8) : Bool := 97 ≤ c && c ≤ 122
/-- does a byte count? -/
def counts (fl : Int) (c : UInt8) : Bool :=
  (!has fl 4 || (digit c || low (c ||| 32) || blank c)) && (!has fl 16 || (32 ≤ c && c ≤ 126))
def folded (fl : Int) (c : UInt8) : UInt8 := if has fl 8 && low c then c - 32 else c
def kept (fl : Int) (b : Bytes) : Bytes := (b.filter (counts fl)).map (folded fl)

/-- -1, 0, 1: by bytes. -/
abbrev cmpBytes : Bytes → Bytes → Int := Lib.compareBytes

/-- Whether a number is below nought, and its digits without noughts ahead. -/
def numOf (b : Bytes) : Int × Bytes :=
  let s := b.dropWhile blank
  let less := s.head? == some 45
  let d := ((if less then s.tail else s).takeWhile digit).dropWhile (· == 48)
  if less && !d.isEmpty then (-1, d) else (1, d)

abbrev cmpInt (a b : Int) : Int := Lib.compareInt a b

def numbers (a b : Bytes) : Int :=
  let x := numOf a
  let y := numOf b
  if x.1 ≠ y.1 then cmpInt x.1 y.1
  else if x.2.length ≠ y.2.length then x.1 * cmpInt x.2.length y.2.length
  else x.1 * cmpBytes x.2 y.2

def texts (fl : Int) (a b : Bytes) : Int := cmpBytes (kept fl a) (kept fl b)

/-- Two lines by one key. -/
def byKey (sep : Int) (k : Key) (a b : Bytes) : Int :=
  let n := if has k.fl 32 then numbers (piece sep a k) (piece sep b k) else texts k.fl (piece sep a k) (piece sep b k)
  if has k.fl 64 then -n else n

/-- Order.Keys -/
def keysCmp (sep : Int) (a b : Bytes) : List Key → Int
  | [] => 0
  | k :: r => if byKey sep k a b ≠ 0 then byKey sep k a b else keysCmp sep a b r

/-- Order.Compare -/
def compare (o : Ordr) (a b : Bytes) : Int :=
  if keysCmp o.sep a b o.keys ≠ 0 then keysCmp o.sep a b o.keys
  else if has o.fl 64 then - cmpBytes a b else cmpBytes a b

def sign (n : Int) : Int := if n < 0 then -1 else if 0 < n then 1 else 0

theorem drop_take_cons (b : Bytes) (k t : Nat) (hk : k < t) (ht : t ≤ b.length) : (b.take t).drop k = b.getD k 0 :: (b.take t).drop (k + 1) := by
  have h : k < (b.take t).length := by simp; omega
  rw [List.drop_eq_getElem_cons h]
  congr 1
  simp [List.getD_eq_getElem?_getD, List.getElem?_eq_getElem (show k < b.length by omega)]

theorem drop_cons' (b : Bytes) (k : Nat) (hk : k < b.length) : b.drop k = b.getD k 0 :: b.drop (k + 1) := by
  rw [List.drop_eq_getElem_cons hk]
  simp [List.getD_eq_getElem?_getD, List.getElem?_eq_getElem hk]

theorem inner_end (b : Bytes) (t : Nat) : inner b t t = t := by
  have : (b.take t).drop t = [] := List.drop_eq_nil_of_le (by simp; omega)
  simp [inner, this]
theorem inner_yes (b : Bytes) (k t : Nat) (hk : k < t) (ht : t ≤ b.length) (h : blank (b.getD k 0) = true) : inner b (k + 1) t = inner b k t := by
  unfold inner
  rw [drop_take_cons b k t hk ht, List.takeWhile_cons, if_pos h]
  simp; omega
theorem inner_no (b : Bytes) (k t : Nat) (hk : k < t) (ht : t ≤ b.length) (h : blank (b.getD k 0) = false) : inner b k t = k := by
  unfold inner
  rw [drop_take_cons b k t hk ht, List.takeWhile_cons, if_neg (by rw [h]; decide)]
  simp
theorem inner_ge (b : Bytes) (f t : Nat) : f ≤ inner b f t := by unfold inner; omega
theorem inner_le (b : Bytes) (f t : Nat) (h : f ≤ t) : inner b f t ≤ t := by
  unfold inner
  have := (List.takeWhile_sublist (p := blank) (l := (b.take t).drop f)).length_le
  simp at this; omega

/-! ParseInt of digits alone. -/
def valueFrom (a : Nat) (s : Bytes) : Nat := s.foldl (fun n c => n * 10 + (c.toNat - 48)) a

theorem valueFrom_ge (s : Bytes) : ∀ a, a ≤ valueFrom a s := by
  induction s with
  | nil => intro a; exact Nat.le_refl _
  | cons c r ih => intro a; have := ih (a * 10 + (c.toNat - 48)); simp only [valueFrom, List.foldl_cons] at this ⊢; omega

theorem digit_nat {c : UInt8} (h : digit c = true) : 48 ≤ c.toNat ∧ c.toNat ≤ 57 := by
  simpa [digit, UInt8.le_iff_toNat_le] using h

theorem parseUintM_digits (s : Bytes) : ∀ a, s.all digit = true → a ≤ 18446744073709551615 →
    Lib.parseUintM 18446744073709551615 a s = if valueFrom a s ≤ 18446744073709551615 then .ok (valueFrom a s) else .range := by
  induction s with
  | nil => intro a _ ha; simp [Lib.parseUintM, valueFrom, ha]
  | cons c r ih =>
    intro a hs ha
    simp only [List.all_cons, Bool.and_eq_true] at hs
    have hd := digit_nat hs.1
    have hv := valueFrom_ge r (a * 10 + (c.toNat - 48))
    have e : valueFrom a (c :: r) = valueFrom (a * 10 + (c.toNat - 48)) r := rfl
    simp only [Lib.parseUintM, if_pos hd]
    rw [e]
    by_cases h1 : 1844674407370955162 ≤ a
    · rw [if_pos h1, if_neg (by omega)]
    · rw [if_neg h1]
      by_cases h2 : 18446744073709551615 < a * 10 + (c.toNat - 48)
      · rw [if_pos h2, if_neg (by omega)]
      · rw [if_neg h2]; exact ih _ hs.2 (by omega)

theorem parseIntB_digits (s : Bytes) (hs : s.all digit = true) (h0 : s ≠ []) :
    Lib.parseIntB 64 s = if value s < 9223372036854775808 then .ok (value s : Int) else .range := by
  match s, hs, h0 with
  | c :: r, hs, _ =>
    have hd := digit_nat (by simp only [List.all_cons, Bool.and_eq_true] at hs; exact hs.1)
    have hu : Lib.parseUintB 64 (c :: r) = if value (c :: r) ≤ 18446744073709551615 then .ok (value (c :: r)) else .range := by
      unfold Lib.parseUintB
      rw [if_neg (by simp)]
      exact parseUintM_digits (c :: r) 0 hs (by omega)
    have hu' : Lib.parseUintB 64 (if c.toNat = 43 ∨ c.toNat = 45 then r else c :: r) = if value (c :: r) ≤ 18446744073709551615 then .ok (value (c :: r)) else .range := by
      rw [if_neg (by omega)]; exact hu
    simp only [Lib.parseIntB, hu']
    have h45 : ¬ c.toNat = 45 := by omega
    by_cases h1 : value (c :: r) ≤ 18446744073709551615
    · rw [if_pos h1]
      by_cases h2 : value (c :: r) < 9223372036854775808
      · rw [if_pos h2]; simp [h45]; omega
      · rw [if_neg h2]; simp [h45]; omega
    · rw [if_neg h1, if_neg (by omega)]

theorem number_none_of (s : Bytes) (most : Int) (h : s = [] ∨ s.all digit = false ∨ most < value s) : number s most = none := by
  unfold number
  rcases h with h | h | h
  · simp [h]
  · simp [h]
  · rw [if_neg]; simp; intro _ _; omega
theorem number_some_of (s : Bytes) (most : Int) (h0 : s ≠ []) (h : s.all digit = true) (hv : (value s : Int) ≤ most) : number s most = some (value s : Int) := by
  unfold number
  rw [if_pos]
  simp [h0, h, hv]

end Go.Proofs.YtnhopkjichgckaaDoor.Ord
