/-
  Texts of this seat put together: GSpec.
-/
import Derived.Lib.Small
import Derived.Lib.Bytealg
import Derived.Laws.Bits

/-
  What package regex computes, as plain functions on lists of bytes. No program in sight.
  No condition: definitions alone.
-/
namespace Go.Proofs.YtefpcacnblaokaaGreatDoor.Rg.Rx
open Go
abbrev Bytes:=List UInt8
abbrev Has:=UInt8→Bool
inductive Nd where
 | empty
 | set (h:Has)
 | beg
 | fin
 | cat (l:List Nd)
 | alt (l:List Nd)
 | rep (m:Nat) (most:Int) (k:Nd)
 deriving Inhabited
def within (c a b:UInt8):Bool:=a≤c && c≤b
def letter (c:UInt8):Bool:=within (c ||| 0x20) 97 122 && c < 128
def digit (c:UInt8):Bool:=within c 48 57
def alnum (c:UInt8):Bool:=letter c || digit c
def graph (c:UInt8):Bool:=within c 33 126
def classOf (n:Bytes):Option Has:=
 if n=[97,108,112,104,97] then some letter
 else if n=[100,105,103,105,116] then some digit
 else if n=[97,108,110,117,109] then some alnum
 else if n=[103,114,97,112,104] then some graph
 else if n=[117,112,112,101,114] then some (fun c=>within c 65 90)
 else if n=[108,111,119,101,114] then some (fun c=>within c 97 122)
 else if n=[98,108,97,110,107] then some (fun c=>c == 32 || c == 9)
 else if n=[115,112,97,99,101] then some (fun c=>c == 32 || within c 9 13)
 else if n=[99,110,116,114,108] then some (fun c=>c < 32 || c == 127)
 else if n=[112,114,105,110,116] then some (fun c=>within c 32 126)
 else if n=[112,117,110,99,116] then some (fun c=>graph c && !alnum c)
 else if n=[120,100,105,103,105,116] then some (fun c=>digit c || within (c ||| 0x20) 97 102)
 else none
def take (t s:Bytes):Option Bytes:=if t.isPrefixOf s then some (s.drop t.length) else none
def folds (fold:Bool) (h:Has):Has:=fun c=>
 if fold && within c 65 90 then h c || h (c+32)
 else if fold && within c 97 122 then h c || h (c - 32)
 else h c
def one (fold:Bool) (c:UInt8):Nd:=.set (folds fold fun d=>d == c)
def dot:Nd:=.set fun _=>true
def named (k:UInt8) (s:Bytes):Option (UInt8 × Bytes):=match s with
 | a :: b :: c :: d :: e :: r=>if a=91∧b=k∧d=k∧e=93 then some (c,r) else none
 | _=>none
def cutShut:Bytes→Option (Bytes × Bytes)
 | []=>none
 | c :: r=>if c=58∧r.head?=some 93 then some ([],r.tail) else (cutShut r).map fun x=>(c :: x.1,x.2)
def cls (h:Has) (s:Bytes):Option (Option (Has × Bytes)):=
 match take [91,58] s with
 | none=>some none
 | some t=>match cutShut t with
  | none=>some none
  | some (n,rest)=>match classOf n with
   | none=>none
   | some k=>some (some (fun c=>h c || k c,rest))
def upper (s:Bytes):Option (UInt8 × Bytes):=
 match named 46 s with
 | some x=>some x
 | none=>match named 61 s with
  | some x=>some x
  | none=>match s with
   | []=>none
   | c :: r=>some (c,r)
def lower (s:Bytes):Option (UInt8 × Bytes):=match named 46 s with
 | some x=>some x
 | none=>match s with
  | []=>none
  | c :: r=>some (c,r)
def isRange (r:Bytes):Bool:=decide (1 < r.length) && (r.head? == some 45 && r.tail.head? != some 93)
def rangeOf (c:UInt8) (r:Bytes):Option (UInt8 × Bytes):=if isRange r then (match upper r.tail with
 | none=>none
 | some (d,r2)=>if d < c then none else some (d,r2)) else some (c,r)
def part (h:Has) (s:Bytes):Option (Has × Bytes):=
 match cls h s with
 | none=>none
 | some (some x)=>some x
 | some none=>
  match named 61 s with
  | some (c,r)=>some (fun d=>h d || d == c,r)
  | none=>
   match lower s with
   | none=>none
   | some (c,r)=>match rangeOf c r with
    | none=>none
    | some (d,r2)=>some (fun e=>h e || within e c d,r2)
def parts:Nat→Bool→Has→Bytes→Option (Has × Bytes)
 | 0,_,_,_=>none
 | f+1,first,h,s=>
  if !first && s.head? == some 93 then some (h,s)
  else if s=[] then none
  else match part h s with
   | none=>none
   | some (h2,s2)=>parts f false h2 s2
def bracket (fold:Bool) (s:Bytes):Option (Nd × Bytes):=
 let not:=s.head? == some 94
 let s1:=if not then s.tail else s
 match parts (s1.length+1) true (fun _=>false) s1 with
 | none=>none
 | some (h,s2)=>match take [93] s2 with
  | none=>none
  | some s3=>some (.set fun c=>folds fold h c != not,s3)
def value (s:Bytes):Nat:=s.foldl (fun n c=>n * 10+(c.toNat - 48)) 0
def number (s:Bytes):Option (Nat × Bytes):=
 let d:=s.takeWhile digit
 if !d.isEmpty && decide (value d≤255) then some (value d,s.dropWhile digit) else none
def times (ext:Bool) (s:Bytes):Option (Option (Nat × Int) × Bytes):=
 let open_:Bytes:=if ext then [123] else [92,123]
 let shut:Bytes:=if ext then [125] else [92,125]
 match take [42] s with
 | some r=>some (some (0,-1),r)
 | none=>
 match (if ext then take [43] s else none) with
 | some r=>some (some (1,-1),r)
 | none=>
 match (if ext then take [63] s else none) with
 | some r=>some (some (0,1),r)
 | none=>
 match take open_ s with
 | none=>some (none,s)
 | some r=>
 match number r with
 | none=>none
 | some (m,r1)=>
 match take [44] r1 with
 | none=>(take shut r1).map fun r2=>(some (m,(m:Int)),r2)
 | some r2=>
  if shut.isPrefixOf r2 then (take shut r2).map fun r3=>(some (m,(-1:Int)),r3)
  else match number r2 with
   | none=>none
   | some (n,r3)=>if n < m then none else (take shut r3).map fun r4=>(some (m,(n:Int)),r4)
def piece (ext:Bool) (n:Nd) (anchor:Bool) (s:Bytes):Option (Nd × Bytes):=
 match times ext s with
 | none=>none
 | some (none,s1)=>some (n,s1)
 | some (some (m,most),s1)=>match times ext s1 with
  | some (none,s2)=>if anchor then none else some (.rep m most n,s2)
  | _=>none
def joinN (mk:List Nd→Nd):List Nd→Nd
 | []=>.empty
 | [x]=>x
 | l=>mk l
def escaped (fold:Bool) (no:Bytes) (s:Bytes):Option (Nd × Bytes):=
 match s with
 | []=>none
 | c :: r=>if alnum c || no.contains c then none else some (one fold c,r)
mutual
def branches (fold:Bool):Nat→Bytes→Option (List Nd × Bytes)
 | 0,_=>none
 | f+1,s=>match branch fold f s with
  | none=>none
  | some ([],_)=>none
  | some (l,s1)=>match take [124] s1 with
   | none=>some ([joinN .cat l],s1)
   | some s2=>(branches fold f s2).map fun x=>(joinN .cat l :: x.1,x.2)
def branch (fold:Bool):Nat→Bytes→Option (List Nd × Bytes)
 | 0,_=>none
 | f+1,s=>
  if s=[]∨s.head?=some 124∨s.head?=some 41 then some ([],s)
  else match atom fold f s with
   | none=>none
   | some (a,s1)=>match piece true a (s.head? == some 94 || s.head? == some 36) s1 with
    | none=>none
    | some (p,s2)=>(branch fold f s2).map fun x=>(p :: x.1,x.2)
def atom (fold:Bool):Nat→Bytes→Option (Nd × Bytes)
 | 0,_=>none
 | f+1,s=>match s with
  | []=>none
  | c :: r=>
   if c=40 then match branches fold f r with
    | none=>none
    | some (l,s1)=>(take [41] s1).map fun s2=>(joinN .alt l,s2)
   else if c=91 then bracket fold r
   else if c=46 then some (dot,r)
   else if c=94 then some (.beg,r)
   else if c=36 then some (.fin,r)
   else if c=92 then escaped fold [] r
   else if c=42∨c=43∨c=63∨c=123 then none
   else some (one fold c,r)
end
mutual
def pieces (fold:Bool):Nat→Bool→Bytes→Option (List Nd × Bytes)
 | 0,_,_=>none
 | f+1,free,s=>
  if s=[]∨([92,41]:Bytes).isPrefixOf s then some ([],s)
  else if s=[36]∨([36,92,41]:Bytes).isPrefixOf s then (pieces fold f false s.tail).map fun x=>(.fin :: x.1,x.2)
  else if s.head?=some 42∧free=false then none
  else match plain fold f s with
   | none=>none
   | some (a,s1)=>match piece false a false s1 with
    | none=>none
    | some (p,s2)=>(pieces fold f false s2).map fun x=>(p :: x.1,x.2)
def basic (fold:Bool):Nat→Bytes→Option (Nd × Bytes)
 | 0,_=>none
 | f+1,s=>match take [94] s with
  | some r=>(pieces fold f true r).map fun x=>(joinN .cat (.beg :: x.1),x.2)
  | none=>(pieces fold f true s).map fun x=>(joinN .cat x.1,x.2)
def plain (fold:Bool):Nat→Bytes→Option (Nd × Bytes)
 | 0,_=>none
 | f+1,s=>
  match take [92,40] s with
  | some r=>match basic fold f r with
   | none=>none
   | some (n,s1)=>(take [92,41] s1).map fun s2=>(n,s2)
  | none=>
  match take [91] s with
  | some r=>bracket fold r
  | none=>
  match take [46] s with
  | some r=>some (dot,r)
  | none=>
  match take [92] s with
  | some r=>escaped fold [41,123,125] r
  | none=>match s with
   | []=>none
   | c :: r=>some (one fold c,r)
end
def read (s:Bytes) (ext fold:Bool):Option Nd:=
 match (if ext then (branches fold (3 * s.length+4) s).map fun x=>(joinN .alt x.1,x.2) else basic fold (3 * s.length+4) s) with
 | some (n,[])=>some n
 | _=>none
mutual
def Nd.size:Nd→Nat
 | .cat l=>min 20000 (sizes l 0+1)
 | .alt l=>min 20000 (sizes l 0+1)
 | .rep m most k=>min 20000 (min 20000 k.size * max 1 (if most < 0 then m else most.toNat)+1)
 | _=>1
def sizes:List Nd→Nat→Nat
 | [],a=>a
 | k :: r,a=>sizes r (min 20000 (a+k.size))
end
def digitsF (b:Nat):Nat→Nat→Bytes
 | 0,_=>[]
 | f+1,n=>(if n / b=0 then [] else digitsF b f (n / b)) ++ [let d:=n % b;UInt8.ofNat (if d < 10 then 48+d else 87+d)]
def two (c:Nat):Bytes:=let d:=digitsF 16 3 c;if d.length=1 then 48 :: d else d
def runEnd (h:Has):Nat→Nat→Nat
 | 0,k=>k
 | f+1,k=>if k < 255∧h (UInt8.ofNat (k+1)) then runEnd h f (k+1) else k
def rangesF (h:Has):Nat→Nat→List Bytes
 | 0,_=>[]
 | f+1,c=>if 256≤c then [] else if h (UInt8.ofNat c) then
   (if c < runEnd h 256 c then two c ++ 45 :: two (runEnd h 256 c) else two c) :: rangesF h f (runEnd h 256 c+1)
  else rangesF h f (c+1)
def sepBy (t:Bytes):List Bytes→Bytes
 | []=>[]
 | [x]=>x
 | x :: r=>x ++ t ++ sepBy t r
def ranges (h:Has):Bytes:=60 :: sepBy [44] (rangesF h 257 0) ++ [62]
mutual
def Nd.told:Nd→Bytes
 | .empty=>[40,41]
 | .beg=>[94]
 | .fin=>[36]
 | .set h=>ranges h
 | .rep m most k=>k.told ++ 123 :: digitsF 10 20 m ++ 44 :: (if 0≤most then digitsF 10 20 most.toNat else []) ++ [125]
 | .cat l=>40 :: sepBy [] (tolds l) ++ [41]
 | .alt l=>40 :: sepBy [124] (tolds l) ++ [41]
def tolds:List Nd→List Bytes
 | []=>[]
 | k :: r=>k.told :: tolds r
end
end Go.Proofs.YtefpcacnblaokaaGreatDoor.Rg.Rx
