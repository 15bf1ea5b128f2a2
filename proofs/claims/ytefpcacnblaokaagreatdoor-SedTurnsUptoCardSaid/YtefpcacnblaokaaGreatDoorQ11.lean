/-
  Texts of this seat put together: SdSpec, SdRun, GBase, GW1, GW2, GW3, GW4.
-/
import Derived.Test.YtefpcacnblaokaaGreatDoorQ6
import Derived.Test.YtefpcacnblaokaaGreatDoorQ8
import Derived.Test.YtefpcacnblaokaaGreatDoorQ10
import Derived.Test.YtefpcacnblaokaaGreatDoorQ9
import Derived.Test.YtefpcacnblaokaaGreatDoorProg
import Derived.Test.YtefpcacnblaokaaGreatDoorQ1
import Derived.Shelf.Strings.SlTrimAscii
import Derived.WalkKit
import Derived.WalkSpells
import Derived.WalkLawsBesides
import Derived.Handy
import Derived.Lib.Hide
import Derived.BigQuiet
import Derived.OneCell
import Derived.BigGuardPart
import Derived.Deep.DeepCutAuto
import Derived.Deep.LoopGhost
import Derived.BigRegion

/-
  sed's scripts, as plain functions on bytes: what read reads of the scripts that are told here (off: not told here). No program in sight.
  No condition: definitions alone.
-/
namespace Go.Proofs.YtefpcacnblaokaaGreatDoor.Sd
open Go
abbrev Bytes:=List UInt8
inductive Ans (T:Type) where
 | off
 | bad (e:Nat)
 | ok (a:T)
inductive Adr where
 | num (n:Nat)
 | fin
 | rx (b:Bytes)
 deriving Inhabited
structure Pc where
 found:Bool
 c:UInt8
 deriving Inhabited
def tab0:List UInt8:=List.replicate 256 0
structure Cmd where
 c:UInt8
 ads:List Adr
 neg:Bool
 dest:Nat
 lab:Bytes
 tab:List UInt8
 rx:Option Bytes
 rep:List Pc
 all:Bool
 prt:Bool
 deriving Inhabited
def Cmd.new:Cmd:=⟨0,[],false,0,[],tab0,none,[],false,false⟩
def blank (c:UInt8):Bool:=c == 32 || c == 9
def gap (c:UInt8):Bool:=c == 32 || (c == 9 || (c == 10 || c == 59))
def blanks (s:Bytes):Bytes:=s.dropWhile blank
def isIn (l s:Bytes):Bool:=match s with
 | []=>false
 | c :: _=>l.contains c
def number (least most:Nat) (s:Bytes):Option (Nat × Bytes):=
 let d:=s.takeWhile Ord.digit
 if !d.isEmpty && (decide (Ord.value d≤most) && (decide (least≤Ord.value d) && decide (s.length≤1000000))) then some (Ord.value d,s.dropWhile Ord.digit) else none
def rxNode (b:Bytes):Rg.Rx.Nd:=(Rg.Rx.read b false false).getD .empty
def rxGood (b:Bytes):Bool:=match Rg.Rx.read b false false with
 | none=>false
 | some n=>decide (n.size≤10000) && decide ((Rg.Mx.lay n 0 [⟨4,Rg.Mx.no,0,0⟩]).2.length≤1000000)
def rxText (d:UInt8):Nat→Bytes→Bytes→Option (Option (Bytes × Bytes))
 | 0,_,_=>none
 | _+1,_,[]=>some none
 | f+1,acc,c :: r=>
  if c=d then some (some (acc,r))
  else if c=10 then none
  else if c≠92 then rxText d f (acc ++ [c]) r
  else match r with
   | []=>some none
   | c2 :: r2=>
    if c2=10 then none
    else if c2=d then rxText d f (acc ++ [c2]) r2
    else if c2=110 then rxText d f (acc ++ [10]) r2
    else rxText d f (acc ++ [92,c2]) r2
def regex (d:UInt8) (s:Bytes):Ans (Bytes × Bytes):=if 1000000 < s.length then .off else match rxText d (s.length+1) [] s with
 | none=>.off
 | some none=>.bad 21
 | some (some (b,r))=>if rxGood b && !b.isEmpty && decide (b.length≤1000000) then .ok (b,r) else .off
def adr (s:Bytes):Option (Option Adr × Bytes):=
 if isIn [48,49,50,51,52,53,54,55,56,57] s then (number 1 2147483647 s).map fun x=>(some (.num x.1),x.2)
 else match s with
  | []=>some (none,[])
  | c :: r=>if c=36 then some (some .fin,r)
   else if c=47 then (match regex 47 r with
    | .ok (b,r2)=>some (some (.rx b),r2)
    | _=>none)
   else if c=92 then none
   else some (none,s)
def after (s:Bytes):Option Bytes:=
 let t:=blanks s
 if t.isEmpty || isIn [10,59,125] t then some t else none
def stop (c:UInt8):Bool:=c == 10 || c == 59
def trim (s:Bytes):Bytes:=(s.reverse.dropWhile blank).reverse.dropWhile blank
def name (s:Bytes):Bytes × Bytes:=(trim (s.takeWhile fun c=>!stop c),s.dropWhile fun c=>!stop c)
def side (d:UInt8) (rep:Bool):Bytes→List Pc→Option (List Pc × Bytes)
 | [],_=>none
 | c :: r,acc=>
  if c=d then some (acc,r)
  else if c=10∨c=92 then none
  else if c=38∧rep=true then side d rep r (acc ++ [⟨true,0⟩])
  else side d rep r (acc ++ [⟨false,c⟩])
def tabOf:List Pc→List Pc→List UInt8→List UInt8
 | p :: r,q :: s,t=>tabOf r s (t.set p.c.toNat q.c)
 | _,_,t=>t
def distinct:List Pc→Bool
 | []=>true
 | p :: r=>!(r.any fun q=>q.c == p.c) && distinct r
def ident:List UInt8:=(List.range 256).map UInt8.ofNat
def letters (s:Bytes):Option (List UInt8 × Bytes):=match s with
 | []=>none
 | d :: r=>if d=92∨d=10∨1000000 < r.length then none else match side d false r [] with
  | none=>none
  | some (a,r1)=>if 1000000 < r1.length then none else match side d false r1 [] with
   | none=>none
   | some (b,r2)=>if a.length=b.length∧distinct a=true then some (tabOf a b ident,r2) else none
def flags:Nat→Cmd→Bytes→Option (Cmd × Bytes)
 | 0,_,_=>none
 | _+1,x,[]=>some (x,[])
 | f+1,x,c :: r=>
  if c=103∧x.all=false then flags f { x with all:=true } r
  else if c=112∧x.prt=false then flags f { x with prt:=true } r
  else if Ord.digit c then none
  else some (x,c :: r)
def most (c:UInt8):Int:=
 if ([125,58,35]:Bytes).contains c then 0
 else if ([61,97,105,113]:Bytes).contains c then 1
 else if ([123,99,100,68,103,71,104,72,110,78,112,80,120,98,116,121,115]:Bytes).contains c then 2
 else -1
def ads (s:Bytes):Option (List Adr × Bytes):=match adr s with
 | none=>none
 | some (none,r)=>some ([],r)
 | some (some a,r)=>match r with
  | 44 :: r1=>(match adr (blanks r1) with
   | some (some b,r2)=>some ([a,b],r2)
   | _=>none)
  | _=>some ([a],r)
def bangs:Nat→Bool→Bytes→Option (Bool × Bytes)
 | 0,_,_=>none
 | f+1,neg,s=>match s with
  | 33 :: r=>bangs f true (blanks r)
  | _=>some (neg,s)
def whereF (s:Bytes):Option (Cmd × Bytes):=match ads s with
 | none=>none
 | some (l,r)=>match bangs (r.length+1) false (blanks r) with
  | none=>none
  | some (neg,r1)=>match r1 with
   | []=>none
   | c :: r2=>if most c < l.length∨neg=true∧most c=0 then none else some (⟨c,l,neg,0,[],tab0,none,[],false,false⟩,r2)
def place (n:Bytes):List Cmd→Option Nat
 | []=>none
 | x :: r=>if x.c=58∧x.lab=n then some 0 else (place n r).map (·+1)
inductive Opn where
 | no
 | at_ (i:Nat)
 | shut
structure RS where
 s:Bytes
 l:List Cmd
 opn:Opn
def setDest (l:List Cmd) (i k:Nat):List Cmd:=l.modify i fun y=>{ y with dest:=k }
def subst (x:Cmd) (s:Bytes):Ans (Cmd × Bytes):=match s with
 | []=>.off
 | d :: r=>if d=92∨d=10 then .off else match regex d r with
  | .off=>.off
  | .bad e=>.bad e
  | .ok (b,r1)=>if 1000000 < r1.length then .off else match side d true r1 [] with
   | none=>.off
   | some (p,r2)=>match flags (r2.length+1) { x with rx:=some b,rep:=p } r2 with
    | none=>.off
    | some (y,r3)=>match after r3 with
     | none=>.off
     | some r4=>.ok (y,r4)
def lone (c:UInt8):Bool:=([61,100,68,103,71,104,72,110,78,112,80,120,113]:Bytes).contains c
def cmd (q:RS):Ans RS:=match whereF q.s with
 | none=>.off
 | some (x,s)=>
  if x.c=125 then (match q.opn with
   | .at_ i=>(match after s with
    | none=>.off
    | some s1=>.ok ⟨s1,setDest q.l i q.l.length,.shut⟩)
   | _=>.off)
  else if x.c=123 then (match q.opn with
   | .no=>.ok ⟨s,q.l ++ [x],.at_ q.l.length⟩
   | _=>.off)
  else if x.c=98∨x.c=58 then
   (let y:Cmd:={ x with lab:=(name s).1 }
    if 1000000 < s.length∨s.all (fun b=>decide (b.toNat < 128))=false then .off
    else if x.c=58∧((name s).1=[]∨place (name s).1 (q.l ++ [y])≠some q.l.length) then .off
    else .ok ⟨(name s).2,q.l ++ [y],q.opn⟩)
  else if x.c=121 then (match letters s with
   | none=>.off
   | some (t,s1)=>match after s1 with
    | none=>.off
    | some s2=>.ok ⟨s2,q.l ++ [{ x with tab:=t }],q.opn⟩)
  else if x.c=115 then (match subst x s with
   | .off=>.off
   | .bad e=>.bad e
   | .ok (y,s1)=>.ok ⟨s1,q.l ++ [y],q.opn⟩)
  else if lone x.c then (match after s with
   | none=>.off
   | some s1=>.ok ⟨s1,q.l ++ [x],q.opn⟩)
  else .off
def readF:Nat→RS→Ans RS
 | 0,_=>.off
 | f+1,q=>match q.s.dropWhile gap with
  | []=>.ok ⟨[],q.l,q.opn⟩
  | c :: r=>match cmd ⟨c :: r,q.l,q.opn⟩ with
   | .off=>.off
   | .bad e=>.bad e
   | .ok q2=>readF f q2
def linkOne (l:List Cmd) (x:Cmd):Option Cmd:=
 if x.c=98 then (if x.lab=[] then some { x with dest:=l.length } else (place x.lab l).map fun i=>{ x with dest:=i })
 else if x.c=116 then none
 else some x
def linkAll (l:List Cmd):List Cmd→Option (List Cmd)
 | []=>some []
 | x :: r=>match linkOne l x with
  | none=>none
  | some y=>(linkAll l r).map (y :: ·)
def read (s:Bytes):Ans (List Cmd):=match readF (s.length+1) ⟨s,[],.no⟩ with
 | .off=>.off
 | .bad e=>.bad e
 | .ok q=>(match q.opn with
  | .at_ _=>.off
  | _=>match linkAll q.l q.l with
   | none=>.off
   | some l=>.ok l)
end Go.Proofs.YtefpcacnblaokaaGreatDoor.Sd

/-
  What sed does with lines, as plain functions (none: not told here). No program in sight. No condition: definitions alone.
-/
namespace Go.Proofs.YtefpcacnblaokaaGreatDoor.Sd
open Go
def rxProg (b:Bytes):Nat × List Rg.Mx.St:=Rg.Mx.lay (rxNode b) 0 [⟨4,Rg.Mx.no,0,0⟩]
def rxFind (b pat:Bytes) (at_:Nat):Option (Nat × Nat):=Rg.Mx.find (rxProg b).2 (rxProg b).1 pat at_
structure St where
 pat:Bytes
 hold:Bytes
 joined:Bool
 done:Bool
 over:Bool
 n:Nat
 jumps:Nat
 opens:List Bool
 inp:Bytes
 out:Bytes
 failed:Bool
def tell (t:Bytes) (q:St):Option St:=if q.out.length+t.length≤4294967296 then some { q with out:=q.out ++ t } else none
def readL (line:Nat) (q:St):Option Bytes × St:=
 if q.inp.isEmpty then (none,q)
 else if line < (Wi.lineOf q.inp).1.length then (none,{ q with inp:=[],failed:=true })
 else (some (Wi.lineOf q.inp).1,{ q with inp:=(Wi.lineOf q.inp).2.2,n:=q.n+1,jumps:=0 })
def fits (q:St):Adr→Bool
 | .num k=>q.n == k
 | .fin=>q.inp.isEmpty
 | .rx b=>(rxFind b q.pat 0).isSome
def gone (n:Nat):Adr→Bool
 | .num k=>decide (k < n)
 | _=>false
def reached (n:Nat):Adr→Bool
 | .num k=>decide (k≤n)
 | _=>false
def chosen (i:Nat) (x:Cmd) (q:St):Option (Bool × St):=match x.ads with
 | []=>some (!x.neg,q)
 | [a]=>some (fits q a != x.neg,q)
 | [a,b]=>
  if q.opens.length≠1 then none
  else if !(q.opens.getD i false && !gone q.n b) then
   (if !fits q a then some (x.neg,{ q with opens:=q.opens.set i false })
    else some (!x.neg,{ q with opens:=q.opens.set i (!reached q.n b) }))
  else some (!x.neg,{ q with opens:=q.opens.set i (!fits q b) })
 | _=>none
inductive What where
 | on
 | toEnd
 | dropped
def replaced (found:Bytes):List Pc→Bytes
 | []=>[]
 | p :: r=>(if p.found then found else [p.c]) ++ replaced found r
def subs (b pat:Bytes) (x:Cmd):Nat→Nat→Nat→Nat→Bytes→Bool→Option (Nat × Bytes × Bool)
 | 0,_,_,_,_,_=>none
 | f+1,fr,at_,n,acc,sm=>
  if fr≤pat.length∧acc.length≤65536 then
   (match rxFind b pat fr with
   | none=>some (at_,acc,sm)
   | some (i,k)=>
    if i=k∧i=at_∧0 < n then subs b pat x f (i+1) at_ n acc sm
    else if n=0∨x.all=true then subs b pat x f (if i=k then k+1 else k) k (n+1) (acc ++ (pat.drop at_).take (i - at_) ++ replaced ((pat.drop i).take (k - i)) x.rep) true
    else subs b pat x f (if i=k then k+1 else k) k (n+1) (acc ++ (pat.drop at_).take (i - at_) ++ (pat.drop i).take (k - i)) sm)
  else some (at_,acc,sm)
def verb (line:Nat) (x:Cmd) (q:St):Option (What × St):=
 if x.c=123∨x.c=58 then some (.on,q)
 else if x.c=100 then some (.dropped,q)
 else if x.c=112 then (tell (q.pat ++ [10]) q).map fun t=>(.on,t)
 else if x.c=71 then (if q.pat.length+1+q.hold.length≤8192 then some (.on,{ q with pat:=q.pat ++ [10] ++ q.hold }) else none)
 else if x.c=72 then (if q.hold.length+1+q.pat.length≤8192 then some (.on,{ q with hold:=q.hold ++ [10] ++ q.pat }) else none)
 else if x.c=104 then some (.on,{ q with hold:=q.pat })
 else if x.c=120 then some (.on,{ q with pat:=q.hold,hold:=q.pat })
 else if x.c=78 then (match readL line q with
  | (none,t)=>some (.dropped,{ t with over:=true })
  | (some b,t)=>if q.pat.length+1+b.length≤8192 then some (.on,{ t with pat:=q.pat ++ [10] ++ b,joined:=true }) else none)
 else if x.c=98 then (if q.jumps+1≤1000 then some (.on,{ q with jumps:=q.jumps+1 }) else none)
 else if x.c=121 then some (.on,{ q with pat:=q.pat.map fun c=>x.tab.getD c.toNat 0 })
 else if x.c=115 then (match x.rx with
  | none=>none
  | some b=>match subs b q.pat x (q.pat.length+2) 0 0 0 [] false with
   | none=>none
   | some (_,_,false)=>some (.on,q)
   | some (at_,acc,true)=>
    if acc.length+(q.pat.length - at_)≤8192 then
     (if x.prt then (tell (acc ++ q.pat.drop at_ ++ [10]) { q with pat:=acc ++ q.pat.drop at_,done:=true }).map fun t=>(.on,t)
      else some (.on,{ q with pat:=acc ++ q.pat.drop at_,done:=true }))
    else none)
 else none
def cycle (line:Nat) (cs:List Cmd):Nat→Nat→St→Option (Bool × St)
 | 0,_,_=>none
 | f+1,i,q=>match cs[i]? with
  | none=>some (true,q)
  | some x=>match chosen i x q with
   | none=>none
   | some (false,q1)=>cycle line cs f (if x.c=123 then x.dest else i+1) q1
   | some (true,q1)=>match verb line x q1 with
    | none=>none
    | some (.on,q2)=>cycle line cs f (if q1.jumps < q2.jumps then x.dest else i+1) q2
    | some (.toEnd,q2)=>some (true,q2)
    | some (.dropped,q2)=>some (false,q2)
def run (line:Nat) (quiet:Bool) (cs:List Cmd) (g:Nat):Nat→St→Option St
 | 0,_=>none
 | f+1,q=>if q.over then some q else match readL line q with
  | (none,q1)=>some q1
  | (some b,q1)=>match cycle line cs g 0 { q1 with pat:=b,joined:=false,done:=false } with
    | none=>none
    | some (e,q2)=>if e && !quiet then (match tell (q2.pat ++ [10]) q2 with
      | none=>none
      | some q3=>run line quiet cs g f q3)
     else run line quiet cs g f q2
def begun (cs:List Cmd) (inp:Bytes):St:=⟨[],[],false,false,false,0,0,cs.map fun _=>false,inp,[],false⟩
def sed (line:Nat) (quiet:Bool) (script inp:Bytes) (g f:Nat):Option (Nat × Bytes):=match read script with
 | .ok cs=>(run line quiet cs g f (begun cs inp)).map fun q=>(if q.failed then 1 else 0,q.out)
 | .bad _=>some (1,[])
 | .off=>none
end Go.Proofs.YtefpcacnblaokaaGreatDoor.Sd

/-
  What the walks of this seat lean on: a slice of bytes in memory, and facts that outlive new blocks.
  No condition.
-/
namespace Go.Proofs.YtefpcacnblaokaaGreatDoor.Rg
open Go.RowKit
def Bs (w:World) (p:Option Addr) (xs:List UInt8):Prop:=
 0 < xs.length→∃ b o,p=some ⟨b,o,none⟩∧∀ i,i < xs.length→w.cell? ⟨b,o+i,none⟩=some (.int .u8 (xs.getD i 0).toNat)
theorem Bs.nil (w:World) (p:Option Addr):Bs w p []:=fun h=>absurd h (Nat.lt_irrefl 0)
theorem Bs.below {B:Nat} {w w':World} {p:Option Addr} {xs:List UInt8} (h:Bs w p xs) (hb:Below B w w') (hB:w.heap.size≤B):Bs w' p xs:=by
 intro hl
 obtain ⟨b,o,hp,hc⟩:=h hl
 refine ⟨b,o,hp,fun i hi=>?_⟩
 have hlt:b < w.heap.size:=World.block_lt_of_cell? _ _ (hc i hi)
 rw [hb.cell (p:=⟨b,o+i,none⟩) (by simp;omega)]
 exact hc i hi
theorem Bs.at {w:World} {b o:Nat} {xs:List UInt8} (h:Bs w (some ⟨b,o,none⟩) xs) (i:Nat) (hi:i < xs.length):w.cell? ⟨b,o+i,none⟩=some (.int .u8 (xs.getD i 0).toNat):=by
 obtain ⟨b',o',hp,hc⟩:=h (by omega)
 simp at hp
 obtain ⟨rfl,rfl⟩:=hp
 exact hc i hi
theorem below_new {w w1:World} {o:Obj} (h:Below (w.alloc o).heap.size (w.alloc o) w1):Below w.heap.size w w1:=
 ((Below.refl _ _).alloc (Nat.le_refl _) _).trans (h.mono (by simp))
theorem new_cell {w:World} {b o:Nat} {v:Value} (h:w.cell? ⟨b,o,none⟩=some v):∀ x,(w.alloc x).cell? ⟨b,o,none⟩=some v:=
 fun x=>by rw [World.cell?_alloc_lt _ _ _ (World.block_lt_of_cell? _ _ h)];exact h
theorem new_frozen {w:World} {b o:Nat} {v:Value} (hc:w.cell? ⟨b,o,none⟩=some v) (h:w.frozen? ⟨b,o,none⟩=false):∀ x,(w.alloc x).frozen? ⟨b,o,none⟩=false:=
 fun x=>by rw [World.frozen?_alloc_old _ _ _ (Nat.ne_of_lt (World.block_lt_of_cell? _ _ hc))];exact h
theorem Bs.drew {w:World} {p:Option Addr} {xs:List UInt8} (h:Bs w p xs) (n:Nat):Bs (w.drewN n) p xs:=by
 intro hl
 obtain ⟨b,o,hp,hc⟩:=h hl
 exact ⟨b,o,hp,fun i hi=>hc i hi⟩
def Blk (w:World) (b:Nat) (cs:Array Value) (t:TypeId):Prop:=w.heap[b]?=some (.cells cs t (0,0))
theorem Blk.lt {w:World} {b:Nat} {cs:Array Value} {t:TypeId} (h:Blk w b cs t):b < w.heap.size:=lt_of_block h
theorem Blk.cell {w:World} {b:Nat} {cs:Array Value} {t:TypeId} (h:Blk w b cs t) (i:Nat) {v:Value} (hv:cs[i]?=some v):w.cell? ⟨b,i,none⟩=some v:=by
 unfold Blk at h;simp [World.cell?,h,hv]
theorem Blk.free {w:World} {b:Nat} {cs:Array Value} {t:TypeId} (h:Blk w b cs t) (i:Nat):w.frozen? ⟨b,i,none⟩=false:=by
 unfold Blk at h;simp [World.frozen?,h]
theorem Blk.keep {w w':World} {b:Nat} {cs:Array Value} {t:TypeId} (h:Blk w b cs t) {B:Nat} (hb:Below B w w') (hB:b < B):Blk w' b cs t:=(hb.block b hB).trans h
theorem Blk.new (w:World) (cs:Array Value) (t:TypeId):Blk (w.alloc (.cells cs t)) w.heap.size cs t:=heap_alloc_new w _
theorem Blk.alloc {w:World} {b:Nat} {cs:Array Value} {t:TypeId} (h:Blk w b cs t) (o:Obj):Blk (w.alloc o) b cs t:=(Below.heap_alloc w o b h.lt).trans h
theorem Blk.drew {w:World} {b:Nat} {cs:Array Value} {t:TypeId} (h:Blk w b cs t):Blk w.drew b cs t:=h
theorem Blk.drewN {w:World} {b:Nat} {cs:Array Value} {t:TypeId} (h:Blk w b cs t) (n:Nat):Blk (w.drewN n) b cs t:=h
theorem Blk.set {w:World} {b:Nat} {cs:Array Value} {t:TypeId} (h:Blk w b cs t) (i:Nat) (v:Value):Blk (w.setCell ⟨b,i,none⟩ v) b (cs.setIfInBounds i v) t:=by
 have hlt:=h.lt
 have h':w.heap[b]=.cells cs t (0,0):=by have:=h;unfold Blk at this;simpa [Array.getElem?_eq_getElem hlt] using this
 show (w.heap.modify b _)[b]?=_
 rw [Array.getElem?_eq_getElem (by simpa using hlt),Array.getElem_modify_self,h']
 rfl
theorem Blk.setOther {w:World} {b:Nat} {cs:Array Value} {t:TypeId} (h:Blk w b cs t) {a:Addr} (ha:b≠a.block) (v:Value):Blk (w.setCell a v) b cs t:=
 (Below.heap_setCell w a v b ha).trans h
theorem extract_take (l:List UInt8) (k:Nat):(⟨l.toArray⟩:ByteArray).extract 0 k=⟨(l.take k).toArray⟩:=by
 apply ByteArray.ext;simp [ByteArray.data_extract]
theorem extract_drop (l:List UInt8) (k:Nat):(⟨l.toArray⟩:ByteArray).extract k l.length=⟨(l.drop k).toArray⟩:=by
 apply ByteArray.ext;simp [ByteArray.data_extract]
 exact List.take_of_length_le (by simp)
theorem ret_int {k:IntKind} {a b:Int} (h:a=b):Ending.returned (.int k a)=Ending.returned (.int k b):=by rw [h]
theorem ret_bool {a b:Bool} (h:a=b):Ending.returned (.bool a)=Ending.returned (.bool b):=by rw [h]
theorem u8_beq (a b:UInt8):(a == b)=((a.toNat:Int) == (b.toNat:Int)):=by
 rw [Bool.eq_iff_iff];simp only [beq_iff_eq];constructor
 ·rintro rfl;rfl
 ·intro h;exact UInt8.toNat_inj.1 (by omega)
theorem u8_eq (a b:UInt8):(a=b)=((a.toNat:Int)=(b.toNat:Int)):=by
 apply propext;constructor
 ·rintro rfl;rfl
 ·intro h;exact UInt8.toNat_inj.1 (by omega)
theorem u8_le (a b:UInt8):(a≤b)=((a.toNat:Int)≤(b.toNat:Int)):=by
 apply propext;rw [UInt8.le_iff_toNat_le];omega
theorem u8_lt (a b:UInt8):(a < b)=((a.toNat:Int) < (b.toNat:Int)):=by
 apply propext;rw [UInt8.lt_iff_toNat_lt];omega
theorem u8_or (a b:UInt8):bits .or .u8 (a.toNat:Int) (b.toNat:Int)=((a ||| b).toNat:Int):=by
 rw [Go.u8_or_nat _ _ a.toNat_lt b.toNat_lt,UInt8.toNat_or]
theorem u8_bd (a:UInt8):(0:Int)≤(a.toNat:Int)∧(a.toNat:Int) < 256:=⟨by omega,by have:=a.toNat_lt;omega⟩
end Go.Proofs.YtefpcacnblaokaaGreatDoor.Rg

/-
  The walks of regex's small functions: classes of bytes, fail. No condition.
-/
namespace Go.Proofs.YtefpcacnblaokaaGreatDoor.Rg
open Go.RowKit
def brokenV:Value:=.iface 345 (.agg #[])
theorem fail_any (w:World):Calls Tryz.prog 232 #[] w fun e w'=>e=.panicked [{ v:=brokenV,recovered:=false }]∧w=w':=by
 go_enter Tryz.func232,Tryz.ntmps232
 go_wp2
 exact ⟨rfl,rfl,rfl⟩
theorem in_any (c a b:UInt8) (w:World):Calls Tryz.prog 365 #[.int .u8 c.toNat,.int .u8 a.toNat,.int .u8 b.toNat] w fun e w'=>e=.returned (.bool (Rx.within c a b))∧w=w':=by
 have HV:Hid (Rx.within c a b=(decide ((a.toNat:Int)≤c.toNat) && decide ((c.toNat:Int)≤b.toNat))):=by
  show _=_
  simp only [Rx.within,u8_le]
 go_enter Tryz.func365,Tryz.ntmps365
 go_wp2
 all_goals
  go_ret
  refine ⟨ret_bool ?_,rfl⟩
  rw [HV.out]
  first | (simp [*];done) | (simp [*];omega)
theorem digit_any (c:UInt8) (w:World):Calls Tryz.prog 353 #[.int .u8 c.toNat] w fun e w'=>e=.returned (.bool (Rx.digit c))∧w=w':=by
 have h:=in_any c 48 57
 go_enter Tryz.func353,Tryz.ntmps353
 go_wp2_with fail
 refine (h _).mono ?_
 rintro e w' ⟨rfl,rfl⟩
 go_wp2_with fail
 go_ret
 exact ⟨rfl,rfl⟩
theorem graph_any (c:UInt8) (w:World):Calls Tryz.prog 368 #[.int .u8 c.toNat] w fun e w'=>e=.returned (.bool (Rx.graph c))∧w=w':=by
 have h:=in_any c 33 126
 go_enter Tryz.func368,Tryz.ntmps368
 go_wp2_with fail
 refine (h _).mono ?_
 rintro e w' ⟨rfl,rfl⟩
 go_wp2_with fail
 go_ret
 exact ⟨rfl,rfl⟩
theorem or32 (c:UInt8):bits .or .u8 (c.toNat:Int) 32=((c ||| 0x20).toNat:Int):=u8_or c 0x20
theorem letter_any (c:UInt8) (w:World):Calls Tryz.prog 352 #[.int .u8 c.toNat] w fun e w'=>e=.returned (.bool (Rx.letter c))∧w=w':=by
 have h:=in_any (c ||| 0x20) 97 122
 rw [← or32] at h
 have HV:Hid (Rx.letter c=(Rx.within (c ||| 0x20) 97 122 && decide ((c.toNat:Int) < 128))):=by
  show _=_
  unfold Rx.letter
  simp only [u8_lt];rfl
 generalize Rx.within (c ||| 0x20) 97 122=x at *
 go_enter Tryz.func352,Tryz.ntmps352
 go_wp2_with fail
 refine (h _).mono ?_
 rintro e w' ⟨rfl,rfl⟩
 go_wp2_with fail
 all_goals
  go_ret
  refine ⟨ret_bool ?_,rfl⟩
  rw [HV.out]
  first | (simp [*];done) | (simp [*];omega)
theorem alnum_any (c:UInt8) (w:World):Calls Tryz.prog 336 #[.int .u8 c.toNat] w fun e w'=>e=.returned (.bool (Rx.alnum c))∧w=w':=by
 have h1:=letter_any c
 have h2:=digit_any c
 have HV:Hid (Rx.alnum c=(Rx.letter c || Rx.digit c)):=rfl
 generalize Rx.letter c=x at *
 generalize Rx.digit c=y at *
 go_enter Tryz.func336,Tryz.ntmps336
 go_wp2_with fail
 refine (h1 _).mono ?_
 rintro e w' ⟨rfl,rfl⟩
 cases x with
 | true=>
  go_wp2_with fail
  go_ret
  exact ⟨ret_bool (by rw [HV.out];rfl),rfl⟩
 | false=>
  go_wp2_with fail
  refine (h2 _).mono ?_
  rintro e w' ⟨rfl,rfl⟩
  go_wp2_with fail
  go_ret
  exact ⟨ret_bool (by rw [HV.out];rfl),rfl⟩
theorem upper_any (c:UInt8) (w:World):Calls Tryz.prog 369 #[.int .u8 c.toNat] w fun e w'=>e=.returned (.bool (Rx.within c 65 90))∧w=w':=by
 have h:=in_any c 65 90
 go_enter Tryz.func369,Tryz.ntmps369
 go_wp2_with fail
 refine (h _).mono ?_
 rintro e w' ⟨rfl,rfl⟩
 go_wp2_with fail
 go_ret
 exact ⟨rfl,rfl⟩
theorem lower_any (c:UInt8) (w:World):Calls Tryz.prog 370 #[.int .u8 c.toNat] w fun e w'=>e=.returned (.bool (Rx.within c 97 122))∧w=w':=by
 have h:=in_any c 97 122
 go_enter Tryz.func370,Tryz.ntmps370
 go_wp2_with fail
 refine (h _).mono ?_
 rintro e w' ⟨rfl,rfl⟩
 go_wp2_with fail
 go_ret
 exact ⟨rfl,rfl⟩
theorem blank_any (c:UInt8) (w:World):Calls Tryz.prog 371 #[.int .u8 c.toNat] w fun e w'=>e=.returned (.bool (c == 32 || c == 9))∧w=w':=by
 have HV:Hid ((c == 32 || c == 9)=(decide ((c.toNat:Int)=32) || decide ((c.toNat:Int)=9))):=by
  show _=_
  rw [u8_beq,u8_beq];rfl
 go_enter Tryz.func371,Tryz.ntmps371
 go_wp2
 all_goals
  go_ret
  refine ⟨ret_bool ?_,rfl⟩
  rw [HV.out,Bool.eq_iff_iff]
  simp
  omega
theorem space_any (c:UInt8) (w:World):Calls Tryz.prog 372 #[.int .u8 c.toNat] w fun e w'=>e=.returned (.bool (c == 32 || Rx.within c 9 13))∧w=w':=by
 have h:=in_any c 9 13
 have HV:Hid ((c == 32 || Rx.within c 9 13)=(decide ((c.toNat:Int)=32) || Rx.within c 9 13)):=by
  show _=_
  rw [u8_beq];rfl
 generalize Rx.within c 9 13=x at *
 by_cases h32:(c.toNat:Int)=32
 ·have h32':((c.toNat:Int) == 32)=true:=by simpa using h32
  have H32:=Lib.hid h32;clear h32
  go_enter Tryz.func372,Tryz.ntmps372
  go_wp2_with fail
  go_ret
  exact ⟨ret_bool (by rw [HV.out];simp [H32.out]),rfl⟩
 ·have h32':((c.toNat:Int) == 32)=false:=by simpa using h32
  have H32:=Lib.hid h32;clear h32
  go_enter Tryz.func372,Tryz.ntmps372
  go_wp2_with fail
  refine (h _).mono ?_
  rintro e w' ⟨rfl,rfl⟩
  go_wp2_with fail
  go_ret
  exact ⟨ret_bool (by rw [HV.out];simp [H32.out]),rfl⟩
theorem cntrl_any (c:UInt8) (w:World):Calls Tryz.prog 373 #[.int .u8 c.toNat] w fun e w'=>e=.returned (.bool (decide (c < 32) || c == 127))∧w=w':=by
 have HV:Hid ((decide (c < 32) || c == 127)=(decide ((c.toNat:Int) < 32) || decide ((c.toNat:Int)=127))):=by
  show _=_
  simp only [u8_beq,u8_lt];rfl
 go_enter Tryz.func373,Tryz.ntmps373
 go_wp2
 all_goals
  go_ret
  refine ⟨ret_bool ?_,rfl⟩
  rw [HV.out,Bool.eq_iff_iff]
  simp
  omega
theorem print_any (c:UInt8) (w:World):Calls Tryz.prog 374 #[.int .u8 c.toNat] w fun e w'=>e=.returned (.bool (Rx.within c 32 126))∧w=w':=by
 have h:=in_any c 32 126
 go_enter Tryz.func374,Tryz.ntmps374
 go_wp2_with fail
 refine (h _).mono ?_
 rintro e w' ⟨rfl,rfl⟩
 go_wp2_with fail
 go_ret
 exact ⟨rfl,rfl⟩
theorem punct_any (c:UInt8) (w:World):Calls Tryz.prog 375 #[.int .u8 c.toNat] w fun e w'=>e=.returned (.bool (Rx.graph c && !Rx.alnum c))∧w=w':=by
 have h1:=graph_any c
 have h2:=alnum_any c
 generalize Rx.graph c=x at *
 generalize Rx.alnum c=y at *
 go_enter Tryz.func375,Tryz.ntmps375
 go_wp2_with fail
 refine (h1 _).mono ?_
 rintro e w' ⟨rfl,rfl⟩
 cases x with
 | false=>
  go_wp2_with fail
  go_ret
  exact ⟨rfl,rfl⟩
 | true=>
  go_wp2_with fail
  refine (h2 _).mono ?_
  rintro e w' ⟨rfl,rfl⟩
  go_wp2_with fail
  go_ret
  exact ⟨rfl,rfl⟩
theorem xdigit_any (c:UInt8) (w:World):Calls Tryz.prog 376 #[.int .u8 c.toNat] w fun e w'=>e=.returned (.bool (Rx.digit c || Rx.within (c ||| 0x20) 97 102))∧w=w':=by
 have h1:=digit_any c
 have h2:=in_any (c ||| 0x20) 97 102
 rw [← or32] at h2
 generalize Rx.digit c=x at *
 generalize Rx.within (c ||| 0x20) 97 102=y at *
 go_enter Tryz.func376,Tryz.ntmps376
 go_wp2_with fail
 refine (h1 _).mono ?_
 rintro e w' ⟨rfl,rfl⟩
 cases x with
 | true=>
  go_wp2_with fail
  go_ret
  exact ⟨rfl,rfl⟩
 | false=>
  go_wp2_with fail
  refine (h2 _).mono ?_
  rintro e w' ⟨rfl,rfl⟩
  go_wp2_with fail
  go_ret
  exact ⟨rfl,rfl⟩
end Go.Proofs.YtefpcacnblaokaaGreatDoor.Rg

/-
  What a reader leaves alone; the walks of take, must, next. Condition: the reader lies in memory as it is told.
-/
namespace Go.Proofs.YtefpcacnblaokaaGreatDoor.Rg
open Go.RowKit Go.Shelf
structure Kept (S:Nat→Prop) (w w':World):Prop where
 os:w'.os=w.os
 tape:w'.tape=w.tape
 output:w'.output=w.output
 size:w.heap.size≤w'.heap.size
 block:∀ k,k < w.heap.size→¬ S k→w'.heap[k]?=w.heap[k]?
theorem Kept.refl (S:Nat→Prop) (w:World):Kept S w w:=⟨rfl,rfl,rfl,Nat.le_refl _,fun _ _ _=>rfl⟩
theorem Kept.of_below {S:Nat→Prop} {w w':World} (h:Below w.heap.size w w'):Kept S w w':=⟨h.os,h.tape,h.output,h.size,fun k hk _=>h.block k hk⟩
theorem Kept.trans {S:Nat→Prop} {w w' w'':World} (h:Kept S w w') (h2:Kept S w' w''):Kept S w w'':=
 ⟨h2.os.trans h.os,h2.tape.trans h.tape,h2.output.trans h.output,Nat.le_trans h.size h2.size,fun k hk hs=>(h2.block k (Nat.lt_of_lt_of_le hk h.size) hs).trans (h.block k hk hs)⟩
theorem Kept.trans' {S T:Nat→Prop} {w w' w'':World} (h:Kept S w w') (h2:Kept T w' w'') (hT:∀ k,k < w.heap.size→T k→S k):Kept S w w'':=
 ⟨h2.os.trans h.os,h2.tape.trans h.tape,h2.output.trans h.output,Nat.le_trans h.size h2.size,fun k hk hs=>(h2.block k (Nat.lt_of_lt_of_le hk h.size) fun ht=>hs (hT k hk ht)).trans (h.block k hk hs)⟩
theorem Kept.mono {S T:Nat→Prop} {w w':World} (h:Kept S w w') (hT:∀ k,k < w.heap.size→S k→T k):Kept T w w':=
 ⟨h.os,h.tape,h.output,h.size,fun k hk hs=>h.block k hk fun ht=>hs (hT k hk ht)⟩
theorem Kept.alloc {S:Nat→Prop} {w w':World} (h:Kept S w w') (o:Obj):Kept S w (w'.alloc o):=
 h.trans (Kept.of_below ((Below.refl _ _).alloc (Nat.le_refl _) _))
theorem Kept.drew {S:Nat→Prop} {w w':World} (h:Kept S w w'):Kept S w w'.drew:=⟨h.os,h.tape,h.output,h.size,h.block⟩
theorem Kept.below {w w':World} (h:Kept (fun _=>False) w w'):Below w.heap.size w w':=⟨h.os,h.tape,h.output,h.size,fun k hk=>h.block k hk id⟩
theorem Blk.kept {S:Nat→Prop} {w w':World} {b:Nat} {cs:Array Value} {t:TypeId} (h:Blk w b cs t) (hk:Kept S w w') (hS:¬ S b):Blk w' b cs t:=(hk.block b h.lt hS).trans h
theorem Kept.setCell {S:Nat→Prop} {w w':World} (h:Kept S w w') {b:Nat} (hb:S b∨w.heap.size≤b) (i:Nat) (v:Value):Kept S w (w'.setCell ⟨b,i,none⟩ v):=
 ⟨h.os,h.tape,h.output,by simpa [World.setCell] using h.size,fun k hk hs=>(Below.heap_setCell w' ⟨b,i,none⟩ v k (by
  rintro rfl
  rcases hb with hb | hb
  ·exact hs hb
  ·have hb':w.heap.size≤k:=hb
   omega)).trans (h.block k hk hs)⟩
def RdAt (w:World) (r:Nat) (s:Rx.Bytes) (ext fold:Bool):Prop:=Blk w r #[.string ⟨s.toArray⟩,.bool ext,.bool fold] 275
def TakePost (r:Nat) (t s:Rx.Bytes) (ext fold:Bool) (e:Ending) (w':World):Prop:=match Rx.take t s with
 | some s'=>e=.returned (.bool true)∧RdAt w' r s' ext fold
 | none=>e=.returned (.bool false)∧RdAt w' r s ext fold
theorem take_any (r:Nat) (t s:Rx.Bytes) (ext fold:Bool) (w:World) (h:RdAt w r s ext fold) :
  Calls Tryz.prog 273 #[.pointer (some ⟨r,0,none⟩),.string ⟨t.toArray⟩] w fun e w'=>TakePost r t s ext fold e w'∧Kept (·=r) w w':=by
 have hcp:=Any.strings_CutPrefix Tryz.lays103 ⟨s.toArray⟩ ⟨t.toArray⟩
 have c0:w.cell? ⟨r,0,none⟩=some (.string ⟨s.toArray⟩):=Blk.cell h 0 rfl
 have f0:=h.free 0
 go_enter Tryz.func273,Tryz.ntmps273
 go_wp2_with fail
 refine (hcp _).mono ?_
 rintro e w' ⟨rfl,rfl⟩
 clear hcp
 have hv:∀ e w',TakePost r t s ext fold e w'=if Lib.hasPrefix s t=true then e=.returned (.bool true)∧RdAt w' r (Lib.trimPrefix s t) ext fold else e=.returned (.bool false)∧RdAt w' r s ext fold:=by
  intro e w'
  unfold TakePost Rx.take Lib.trimPrefix Lib.hasPrefix
  cases t.isPrefixOf s <;> rfl
 have HV:=Lib.hid hv;clear hv
 have H:=Lib.hid h;clear h
 generalize Lib.hasPrefix s t=is at *
 generalize Lib.trimPrefix s t=u at *
 cases is with
 | true=>
  go_wp2_with fail
  go_ret
  refine ⟨?_,(Kept.refl (·=r) _).setCell (.inl rfl) 0 _⟩
  rw [HV.out,if_pos (by trivial)]
  exact ⟨rfl,H.out.set 0 _⟩
 | false=>
  go_wp2_with fail
  go_ret
  refine ⟨?_,Kept.refl _ _⟩
  rw [HV.out,if_neg (by decide)]
  exact ⟨rfl,H.out⟩
def MustPost (r:Nat) (t s:Rx.Bytes) (ext fold:Bool) (e:Ending) (w':World):Prop:=match Rx.take t s with
 | some s'=>e=.returned (.tuple #[])∧RdAt w' r s' ext fold
 | none=>e=.panicked [{ v:=brokenV,recovered:=false }]
theorem must_any (r:Nat) (t s:Rx.Bytes) (ext fold:Bool) (w:World) (h:RdAt w r s ext fold) :
  Calls Tryz.prog 305 #[.pointer (some ⟨r,0,none⟩),.string ⟨t.toArray⟩] w fun e w'=>MustPost r t s ext fold e w'∧Kept (·=r) w w':=by
 have ht:=take_any r t s ext fold w h
 unfold TakePost at ht
 unfold MustPost
 cases hx:Rx.take t s with
 | some s'=>
  rw [hx] at ht
  go_enter Tryz.func305,Tryz.ntmps305
  go_wp2_with fail
  refine ht.mono ?_
  rintro e w' ⟨⟨rfl,hr⟩,hk⟩
  go_wp2_with fail
  go_end0
  exact ⟨⟨rfl,hr⟩,hk⟩
 | none=>
  rw [hx] at ht
  go_enter Tryz.func305,Tryz.ntmps305
  go_wp2_with fail
  refine ht.mono ?_
  rintro e w' ⟨⟨rfl,hr⟩,hk⟩
  go_wp2_with fail
  refine (fail_any _).mono ?_
  rintro e w'' ⟨rfl,rfl⟩
  go_wp2_with fail
  exact ⟨rfl,rfl,hk⟩
def NextPost (r:Nat) (s:Rx.Bytes) (ext fold:Bool) (e:Ending) (w':World):Prop:=match s with
 | c :: s'=>e=.returned (.int .u8 c.toNat)∧RdAt w' r s' ext fold
 | []=>e=.panicked [{ v:=brokenV,recovered:=false }]
theorem next_any (r:Nat) (s:Rx.Bytes) (ext fold:Bool) (w:World) (h:RdAt w r s ext fold) :
  Calls Tryz.prog 275 #[.pointer (some ⟨r,0,none⟩)] w fun e w'=>NextPost r s ext fold e w'∧Kept (·=r) w w':=by
 have c0:w.cell? ⟨r,0,none⟩=some (.string ⟨s.toArray⟩):=Blk.cell h 0 rfl
 have f0:=h.free 0
 unfold NextPost
 cases s with
 | nil=>
  go_enter Tryz.func275,Tryz.ntmps275
  go_wp2_with fail
  refine (fail_any _).mono ?_
  rintro e w'' ⟨rfl,rfl⟩
  go_wp2_with fail
  exact ⟨rfl,rfl,Kept.refl _ _⟩
 | cons c s'=>
  go_enter Tryz.func275,Tryz.ntmps275
  go_wp2_with fail
  go_ret
  refine ⟨⟨rfl, ?_⟩,(Kept.refl (·=r) _).setCell (.inl rfl) 0 _⟩
  have hs:=Blk.set h 0 (.string ⟨s'.toArray⟩)
  rw [show (⟨(c :: s').toArray⟩:ByteArray).extract 1 (s'.length+1)=⟨s'.toArray⟩ from extract_drop (c :: s') 1]
  exact hs
end Go.Proofs.YtefpcacnblaokaaGreatDoor.Rg

/-
  Nodes in memory; the walks of folds, one, dot. Condition: what is told lies in memory.
-/
set_option maxRecDepth 100000
set_option maxHeartbeats 1600000
namespace Go.Proofs.YtefpcacnblaokaaGreatDoor.Rg
open Go.RowKit Go.Shelf
def hasCells (h:Rx.Has):List Value:=(List.range 256).map fun i=>.bool (h (UInt8.ofNat i))
def ndCells (kind:Int) (h:Rx.Has) (mn mx:Int) (kids:Value):Array Value:=(.int .i64 kind :: hasCells h ++ [.int .i64 mn,.int .i64 mx,kids]).toArray
theorem hasCells_len (h:Rx.Has):(hasCells h).length=256:=by simp [hasCells]
theorem nd_kind (kind:Int) (h:Rx.Has) (mn mx:Int) (kids:Value):(ndCells kind h mn mx kids)[0]?=some (.int .i64 kind):=rfl
theorem nd_has (kind:Int) (h:Rx.Has) (mn mx:Int) (kids:Value) (i:Nat) (hi:i < 256):(ndCells kind h mn mx kids)[1+i]?=some (.bool (h (UInt8.ofNat i))):=by
 unfold ndCells
 rw [List.getElem?_toArray,Nat.add_comm,List.cons_append,List.getElem?_cons_succ,List.getElem?_append_left (by rw [hasCells_len];exact hi)]
 simp [hasCells,List.getElem?_range hi]
theorem nd_min (kind:Int) (h:Rx.Has) (mn mx:Int) (kids:Value):(ndCells kind h mn mx kids)[257]?=some (.int .i64 mn):=by
 unfold ndCells
 rw [List.getElem?_toArray,List.cons_append,List.getElem?_cons_succ,List.getElem?_append_right (by rw [hasCells_len];omega),hasCells_len];rfl
theorem nd_max (kind:Int) (h:Rx.Has) (mn mx:Int) (kids:Value):(ndCells kind h mn mx kids)[258]?=some (.int .i64 mx):=by
 unfold ndCells
 rw [List.getElem?_toArray,List.cons_append,List.getElem?_cons_succ,List.getElem?_append_right (by rw [hasCells_len];omega),hasCells_len];rfl
theorem nd_kids (kind:Int) (h:Rx.Has) (mn mx:Int) (kids:Value):(ndCells kind h mn mx kids)[259]?=some kids:=by
 unfold ndCells
 rw [List.getElem?_toArray,List.cons_append,List.getElem?_cons_succ,List.getElem?_append_right (by rw [hasCells_len];omega),hasCells_len];rfl
theorem nd_set (kind:Int) (h:Rx.Has) (mn mx:Int) (kids:Value) (i:Nat) (hi:i < 256) (v:Bool) :
  (ndCells kind h mn mx kids).setIfInBounds (1+i) (.bool v)=ndCells kind (fun c=>if c.toNat=i then v else h c) mn mx kids:=by
 apply Array.ext'
 unfold ndCells
 rw [Array.toList_setIfInBounds,Nat.add_comm,List.cons_append,List.cons_append,List.set_cons_succ,List.set_append_left _ _ (by rw [hasCells_len];exact hi)]
 congr 2
 apply List.ext_getElem
 ·simp [hasCells]
 ·intro j h1 h2
  rw [hasCells_len] at h2
  rw [List.getElem_set]
  simp only [hasCells,List.getElem_map,List.getElem_range]
  have e:(UInt8.ofNat j).toNat=j:=by simp [UInt8.toNat_ofNat'];omega
  rw [e]
  by_cases hij:i=j
  ·rw [if_pos hij,if_pos hij.symm]
  ·rw [if_neg hij,if_neg (fun h=>hij h.symm)]
theorem nd_new (k:Int):Tryz.zeroCells349.setIfInBounds 0 (.int .i64 k)=ndCells k (fun _=>false) 0 0 (.slice none 0 0):=by
 kernel_rfl
theorem dot_any (w:World):Calls Tryz.prog 307 #[] w fun e w'=>e=.returned (.pointer (some ⟨w.heap.size,0,none⟩))∧Blk w' w.heap.size (ndCells 1 (fun _=>true) 0 0 (.slice none 0 0)) 349∧Below w.heap.size w w':=by
 go_enter Tryz.func307,Tryz.ntmps307
 go_upto_region 2 with fail
 rw [nd_new]
 have hb:=Blk.new w (ndCells 1 (fun _=>false) 0 0 (.slice none 0 0)) 349
 have hbw:Below w.heap.size w (w.alloc (.cells (ndCells 1 (fun _=>false) 0 0 (.slice none 0 0)) 349)):=(Below.refl _ _).alloc (Nat.le_refl _) _
 generalize w.alloc (.cells (ndCells 1 (fun _=>false) 0 0 (.slice none 0 0)) 349)=w1 at *
 go_wp2_with fail
 go_loopw [2,5] (fun _x2 x5 wr=>∃ k:Nat,k≤256∧x5=.int .i64 k∧Blk wr w.heap.size (ndCells 1 (fun c=>decide (c.toNat < k)) 0 0 (.slice none 0 0)) 349∧Below w.heap.size w wr) (fun _ x5 _=>256 - (intOf x5).toNat)
 case atStart=>exact ⟨0,Nat.zero_le _,rfl,by simpa using hb,hbw⟩
 case round=>
  clear hb hbw
  obtain ⟨k,hk,rfl,hb,hbw⟩:=hrel
  have hlr:=hb.lt
  by_cases hlt:k < 256
  ·have c0:=hb.cell (1+k) (nd_has _ _ _ _ _ k hlt)
   have f0:=hb.free (1+k)
   go_wp2_with fail
   refine ⟨⟨k+1,by omega,by go_num, ?_,hbw.setCell (Nat.le_refl _) _⟩, ?_⟩
   ·have:=hb.set (1+k) (.bool true)
    rw [nd_set _ _ _ _ _ k hlt] at this
    have e:(fun c:UInt8=>if c.toNat=k then true else decide (c.toNat < k))=fun c=>decide (c.toNat < k+1):=by
     funext c
     by_cases h:c.toNat=k
     ·rw [if_pos h];simp;omega
     ·rw [if_neg h];simp;omega
    rw [e] at this
    exact this
   ·show 256 - ((k:Int)+1).toNat < 256 - (k:Int).toNat
    omega
  ·obtain rfl:k=256:=by omega
   go_wp2_with fail
   go_ret
   refine ⟨rfl, ?_,hbw⟩
   have e:(fun c:UInt8=>decide (c.toNat < 256))=fun _=>true:=by
    funext c
    have:=c.toNat_lt
    simp only [decide_eq_true_eq]
    omega
   rw [e] at hb
   exact hb
end Go.Proofs.YtefpcacnblaokaaGreatDoor.Rg

/-
  The walks of folds, one. Condition: what is told lies in memory.
-/
set_option maxHeartbeats 1600000
namespace Go.Proofs.YtefpcacnblaokaaGreatDoor.Rg
open Go.RowKit Go.Shelf
def foldsTo (k:Nat) (h:Rx.Has):Rx.Has:=fun c=>
 if 65≤c.toNat∧c.toNat < k then h c || h (c+32)
 else if 97≤c.toNat∧c.toNat < k+32 then h c || h (c - 32)
 else h c
theorem foldsTo_start (h:Rx.Has):foldsTo 65 h=h:=by
 funext c;unfold foldsTo
 rw [if_neg (by omega),if_neg (by omega)]
theorem foldsTo_end (h:Rx.Has):foldsTo 91 h=Rx.folds true h:=by
 funext c;unfold foldsTo Rx.folds Rx.within
 have e1:(65≤c.toNat∧c.toNat < 91)↔((true && (decide ((65:UInt8)≤c) && decide (c≤90)))=true):=by
  simp only [Bool.true_and,Bool.and_eq_true,decide_eq_true_eq,UInt8.le_iff_toNat_le]
  show _↔(65≤c.toNat∧c.toNat≤90)
  omega
 have e2:(97≤c.toNat∧c.toNat < 91+32)↔((true && (decide ((97:UInt8)≤c) && decide (c≤122)))=true):=by
  simp only [Bool.true_and,Bool.and_eq_true,decide_eq_true_eq,UInt8.le_iff_toNat_le]
  show _↔(97≤c.toNat∧c.toNat≤122)
  omega
 simp only [e1,e2]
theorem foldsTo_step (h:Rx.Has) (k:Nat) (h1:65≤k) (h2:k < 91) (both:Bool)
  (hb:(foldsTo k h (UInt8.ofNat k) || foldsTo k h (UInt8.ofNat (k+32)))=both) :
  (fun c:UInt8=>if c.toNat=k+32 then both else if c.toNat=k then both else foldsTo k h c)=foldsTo (k+1) h:=by
 funext c
 have ek:(UInt8.ofNat k).toNat=k:=by simp [UInt8.toNat_ofNat'];omega
 have ek2:(UInt8.ofNat (k+32)).toNat=k+32:=by simp [UInt8.toNat_ofNat'];omega
 have hb':both=(h (UInt8.ofNat k) || h (UInt8.ofNat (k+32))):=by
  rw [← hb];unfold foldsTo
  rw [ek,ek2,if_neg (by omega),if_neg (by omega),if_neg (by omega),if_neg (by omega)]
 by_cases hc:c.toNat=k+32
 ·rw [if_pos hc]
  unfold foldsTo
  rw [if_neg (by omega),if_pos (by omega),hb']
  have e:c=UInt8.ofNat (k+32):=UInt8.toNat_inj.1 (by rw [ek2,hc])
  have e2:c - 32=UInt8.ofNat k:=by
   apply UInt8.toNat_inj.1
   rw [ek,UInt8.toNat_sub_of_le _ _ (by rw [UInt8.le_iff_toNat_le];show 32≤c.toNat;omega)]
   show c.toNat - 32=k
   omega
  rw [← e,e2,Bool.or_comm]
 ·rw [if_neg hc]
  by_cases hc2:c.toNat=k
  ·rw [if_pos hc2]
   unfold foldsTo
   rw [if_pos (by omega),hb']
   have e:c=UInt8.ofNat k:=UInt8.toNat_inj.1 (by rw [ek,hc2])
   have e2:c+32=UInt8.ofNat (k+32):=by
    apply UInt8.toNat_inj.1
    rw [ek2,UInt8.toNat_add]
    show (c.toNat+32) % 256=k+32
    omega
   rw [← e,e2]
  ·rw [if_neg hc2]
   unfold foldsTo
   by_cases q1:65≤c.toNat∧c.toNat < k
   ·rw [if_pos q1,if_pos (by omega)]
   ·rw [if_neg q1,if_neg (c:=65≤c.toNat∧c.toNat < k+1) (by omega)]
    by_cases q2:97≤c.toNat∧c.toNat < k+32
    ·rw [if_pos q2,if_pos (by omega)]
    ·rw [if_neg q2,if_neg (by omega)]
theorem or_32:∀ k:Nat,k < 91→65≤k→bits .or .i32 (k:Int) 32=(k:Int)+32:=by decide +kernel
theorem rd_ne {w:World} {r b:Nat} {s:Rx.Bytes} {ext fold:Bool} {cs:Array Value} (h:RdAt w r s ext fold) (hb:Blk w b cs 349):r≠b:=by
 rintro rfl
 unfold RdAt Blk at h
 unfold Blk at hb
 rw [h] at hb
 simp at hb
theorem folds_any (r b:Nat) (kind mn mx:Int) (kids:Value) (h:Rx.Has) (s:Rx.Bytes) (ext fold:Bool) (w:World) (hr:RdAt w r s ext fold) (hb:Blk w b (ndCells kind h mn mx kids) 349) :
  Calls Tryz.prog 335 #[.pointer (some ⟨r,0,none⟩),.pointer (some ⟨b,0,none⟩)] w fun e w'=>e=.returned (.pointer (some ⟨b,0,none⟩))∧Blk w' b (ndCells kind (Rx.folds fold h) mn mx kids) 349∧Kept (·=b) w w':=by
 have hne:=rd_ne hr hb
 cases fold with
 | false=>
  have c2:w.cell? ⟨r,2,none⟩=some (.bool false):=Blk.cell hr 2 rfl
  go_enter Tryz.func335,Tryz.ntmps335
  go_wp2_with fail
  go_loopw [5,6] (fun x5 _x6 wr=>x5=.int .i32 65∧wr=w) (fun _ _ _=>0)
  case atStart=>exact ⟨rfl,rfl⟩
  case round=>
   obtain ⟨rfl,rfl⟩:=hrel
   go_wp2_with fail
   go_ret
   refine ⟨rfl, ?_,Kept.refl _ _⟩
   have e:Rx.folds false h=h:=by funext c;simp [Rx.folds]
   rw [e];exact hb
 | true=>
  go_enter Tryz.func335,Tryz.ntmps335
  go_wp2_with fail
  go_loopw [5,6] (fun x5 _x6 wr=>∃ k:Nat,65≤k∧k≤91∧x5=.int .i32 k∧Blk wr b (ndCells kind (foldsTo k h) mn mx kids) 349∧RdAt wr r s ext true∧Kept (·=b) w wr) (fun x5 _ _=>91 - (intOf x5).toNat)
  case atStart=>exact ⟨65,by omega,by omega,rfl,by rw [foldsTo_start];exact hb,hr,Kept.refl _ _⟩
  case round=>
   clear hb hr
   obtain ⟨k,hk1,hk,rfl,hb,hr,hK⟩:=hrel
   have c2:wr.cell? ⟨r,2,none⟩=some (.bool true):=Blk.cell hr 2 rfl
   by_cases hlt:k < 91
   ·have c0:=hb.cell (1+k) (nd_has _ _ _ _ _ k (by omega))
    have f0:=hb.free (1+k)
    have c1:=hb.cell (1+(k+32)) (nd_has _ _ _ _ _ (k+32) (by omega))
    have f1:=hb.free (1+(k+32))
    have ho:=or_32 k hlt hk1
    have HS:=Lib.hid (foldsTo_step h k hk1 hlt)
    generalize foldsTo k h (UInt8.ofNat k)=x at *
    generalize foldsTo k h (UInt8.ofNat (k+32))=y at *
    go_wp2_with fail
    all_goals
     go_region
     go_wp2_with fail
     rename_i hx
     refine ⟨⟨k+1,by omega,by omega,by go_num, ?_, ?_, ?_⟩, ?_⟩
     ·rw [← HS.out _ rfl,← nd_set _ _ _ _ _ _ (by omega),← nd_set _ _ _ _ _ _ (by omega),hx]
      exact ((hb.set (1+k) _).set (1+(k+32)) _).drew
     ·exact ((hr.setOther (a:=⟨b,1+k,none⟩) hne _).setOther (a:=⟨b,1+(k+32),none⟩) hne _).drew
     ·exact ((hK.setCell (.inl rfl) _ _).setCell (.inl rfl) _ _).drew
     ·show 91 - ((k:Int)+1).toNat < 91 - (k:Int).toNat
      omega
   ·obtain rfl:k=91:=by omega
    go_wp2_with fail
    go_ret
    refine ⟨rfl, ?_,hK⟩
    rw [← foldsTo_end];exact hb
theorem one_any (r:Nat) (c:UInt8) (s:Rx.Bytes) (ext fold:Bool) (w:World) (hr:RdAt w r s ext fold) :
  Calls Tryz.prog 309 #[.pointer (some ⟨r,0,none⟩),.int .u8 c.toNat] w fun e w'=>e=.returned (.pointer (some ⟨w.heap.size,0,none⟩))∧Blk w' w.heap.size (ndCells 1 (Rx.folds fold fun d=>d == c) 0 0 (.slice none 0 0)) 349∧Below w.heap.size w w':=by
 have hc:=c.toNat_lt
 have H:=Lib.hid hr
 clear hr
 go_enter Tryz.func309,Tryz.ntmps309
 go_upto_region 2 with fail
 rw [nd_new]
 have hb:=Blk.new w (ndCells 1 (fun _=>false) 0 0 (.slice none 0 0)) 349
 have hbw:Below w.heap.size w (w.alloc (.cells (ndCells 1 (fun _=>false) 0 0 (.slice none 0 0)) 349)):=(Below.refl _ _).alloc (Nat.le_refl _) _
 have hr:=H.out.alloc (.cells (ndCells 1 (fun _=>false) 0 0 (.slice none 0 0)) 349)
 generalize w.alloc (.cells (ndCells 1 (fun _=>false) 0 0 (.slice none 0 0)) 349)=w1 at *
 have hlr:=hb.lt
 have c0:=hb.cell (1+c.toNat) (nd_has _ _ _ _ _ c.toNat hc)
 have f0:=hb.free (1+c.toNat)
 have hne:=rd_ne hr hb
 go_upto_region 3 with fail
 have hb2:=hb.set (1+c.toNat) (.bool true)
 rw [nd_set _ _ _ _ _ _ hc] at hb2
 have hr2:RdAt _ r s ext fold:=hr.setOther (a:=⟨w.heap.size,1+c.toNat,none⟩) hne (.bool true)
 have hbw2:=hbw.setCell (p:=⟨w.heap.size,1+c.toNat,none⟩) (Nat.le_refl _) (.bool true)
 clear hb hr hbw c0 f0 hlr
 generalize w1.setCell ⟨w.heap.size,1+c.toNat,none⟩ (.bool true)=w2 at *
 have hf:=folds_any r w.heap.size 1 0 0 (.slice none 0 0) _ s ext fold w2 hr2 hb2
 have hlr:=hb2.lt
 go_wp2_with fail
 refine hf.mono ?_
 rintro e w' ⟨rfl,hb3,hk⟩
 go_wp2_with fail
 go_ret
 have e:(fun d:UInt8=>if d.toNat=c.toNat then true else false)=fun d=>d == c:=by
  funext d
  by_cases h:d=c
  ·subst h;simp
  ·rw [if_neg (fun h2=>h (UInt8.toNat_inj.1 h2))];simp [h]
 rw [e] at hb3
 refine ⟨rfl,hb3, ?_⟩
 exact ((Kept.of_below hbw2).trans' (S:=fun _=>False) hk (fun k hk he=>by omega)).below
end Go.Proofs.YtefpcacnblaokaaGreatDoor.Rg
