/-
  Texts of this seat put together: GMx.
-/
import Derived.Test.YtefpcacnblaokaaGreatDoorQ9

/-
  What package match computes, as plain functions: states, the set of states that a place reaches, the longest place, the first one. No program in sight.
  No condition: definitions, and laws of them.
-/
namespace Go.Proofs.YtefpcacnblaokaaGreatDoor.Rg.Mx
open Go
abbrev Bytes:=Rx.Bytes
abbrev Has:=Rx.Has
structure St where
 kind:Nat
 has:Has
 to:Nat
 or:Nat
def no:Has:=fun _=>false
instance:Inhabited St:=⟨⟨4,no,0,0⟩⟩
def setTo (L:List St) (i to:Nat):List St:=L.modify i fun s=>{ s with to:=to }
def timesF (f:Nat→List St→Nat × List St):Nat→Nat→List St→Nat × List St
 | 0,at_,L=>(at_,L)
 | i+1,at_,L=>timesF f i (f at_ L).1 (f at_ L).2
def splitsF (f:Nat→List St→Nat × List St):Nat→Nat→Nat→List St→Nat × List St
 | 0,at_,_,L=>(at_,L)
 | i+1,at_,to,L=>splitsF f i (f at_ L).2.length to ((f at_ L).2 ++ [⟨1,no,(f at_ L).1,to⟩])
mutual
def lay:Rx.Nd→Nat→List St→Nat × List St
 | .empty,to,L=>(to,L)
 | .set h,to,L=>(L.length,L ++ [⟨0,h,to,0⟩])
 | .beg,to,L=>(L.length,L ++ [⟨2,no,to,0⟩])
 | .fin,to,L=>(L.length,L ++ [⟨3,no,to,0⟩])
 | .cat l,to,L=>layCat l to L
 | .alt l,to,L=>layAlt l to L
 | .rep m most k,to,L=>
  if most < 0 then
   let a:=lay k L.length (L ++ [⟨1,no,0,to⟩])
   let L3:=setTo a.2 L.length a.1
   if 0 < m then timesF (lay k) (m - 1) a.1 L3 else (L.length,L3)
  else
   let a:=splitsF (lay k) (most.toNat - m) to to L
   timesF (lay k) m a.1 a.2
def layCat:List Rx.Nd→Nat→List St→Nat × List St
 | [],to,L=>(to,L)
 | k :: r,to,L=>lay k (layCat r to L).1 (layCat r to L).2
def layAlt:List Rx.Nd→Nat→List St→Nat × List St
 | [],to,L=>(to,L)
 | k :: r,to,L=>match r with
  | []=>lay k to L
  | _ :: _=>
   let a:=layAlt r to L
   let c:=lay k to a.2
   (c.2.length,c.2 ++ [⟨1,no,c.1,a.1⟩])
end
def times (k:Rx.Nd):Nat→Nat→List St→Nat × List St:=timesF (lay k)
def splits (k:Rx.Nd):Nat→Nat→Nat→List St→Nat × List St:=splitsF (lay k)
theorem times_zero (k:Rx.Nd) (at_:Nat) (L:List St):times k 0 at_ L=(at_,L):=rfl
theorem times_succ (k:Rx.Nd) (i at_:Nat) (L:List St):times k (i+1) at_ L=times k i (lay k at_ L).1 (lay k at_ L).2:=rfl
theorem splits_zero (k:Rx.Nd) (at_ to:Nat) (L:List St):splits k 0 at_ to L=(at_,L):=rfl
theorem splits_succ (k:Rx.Nd) (i at_ to:Nat) (L:List St):splits k (i+1) at_ to L=splits k i (lay k at_ L).2.length to ((lay k at_ L).2 ++ [⟨1,no,(lay k at_ L).1,to⟩]):=rfl
theorem layAlt_nil (to:Nat) (L:List St):layAlt [] to L=(to,L):=by rw [layAlt]
theorem layAlt_one (k:Rx.Nd) (to:Nat) (L:List St):layAlt [k] to L=lay k to L:=by rw [layAlt]
theorem layAlt_two (k k2:Rx.Nd) (r:List Rx.Nd) (to:Nat) (L:List St):layAlt (k :: k2 :: r) to L=((lay k to (layAlt (k2 :: r) to L).2).2.length,(lay k to (layAlt (k2 :: r) to L).2).2 ++ [⟨1,no,(lay k to (layAlt (k2 :: r) to L).2).1,(layAlt (k2 :: r) to L).1⟩]):=by rw [layAlt]
theorem lay_rep (m:Nat) (most:Int) (k:Rx.Nd) (to:Nat) (L:List St):lay (.rep m most k) to L =
  if most < 0 then
   if 0 < m then times k (m - 1) (lay k L.length (L ++ [⟨1,no,0,to⟩])).1 (setTo (lay k L.length (L ++ [⟨1,no,0,to⟩])).2 L.length (lay k L.length (L ++ [⟨1,no,0,to⟩])).1)
   else (L.length,setTo (lay k L.length (L ++ [⟨1,no,0,to⟩])).2 L.length (lay k L.length (L ++ [⟨1,no,0,to⟩])).1)
  else times k m (splits k (most.toNat - m) to to L).1 (splits k (most.toNat - m) to to L).2:=by rw [lay];rfl
structure Run where
 l:List Nat
 has:List Nat
def onto (s:St) (at_ size:Nat) (todo:List Nat):List Nat:=
 if s.kind=1 then s.to :: s.or :: todo
 else if s.kind=2 then (if at_=0 then s.to :: todo else todo)
 else if s.kind=3 then (if at_=size then s.to :: todo else todo)
 else todo
def stays (s:St):Bool:=s.kind≠1 && s.kind≠2 && s.kind≠3
def putF (P:List St) (at_ size:Nat):Nat→List Nat→Run→Option Run
 | _,[],x=>some x
 | 0,_ :: _,_=>none
 | f+1,n :: todo,x=>
  if x.has.getD n 0=at_+1 then putF P at_ size f todo x
  else putF P at_ size f (onto (P.getD n default) at_ size todo) ⟨if stays (P.getD n default) then x.l ++ [n] else x.l,x.has.set n (at_+1)⟩
def left (at_:Nat) (h:List Nat):Nat:=h.countP (fun a=>a≠at_+1)
def fuel (P:List St):Nat:=2 * P.length+2
def put (P:List St) (x:Run) (first at_ size:Nat):Run:=(putF P at_ size (fuel P) [first] x).getD ⟨[],[]⟩
def round (P:List St) (b:Bytes) (at_:Nat):List Nat→Run→Option Nat→Run × Option Nat
 | [],x,last=>(x,last)
 | n :: r,x,last=>
  if (P.getD n default).kind=4 then round P b at_ r x (some at_)
  else if h:at_ < b.length then
   (if (P.getD n default).has b[at_] then round P b at_ r (put P x (P.getD n default).to (at_+1) b.length) last else round P b at_ r x last)
  else round P b at_ r x last
def run (P:List St) (b:Bytes):Nat→Nat→Run→Run→Option Nat→Option Nat
 | 0,_,_,_,last=>last
 | f+1,at_,now,next,last=>
  if now.l=[] then last
  else
   let a:=round P b at_ now.l ⟨[],next.has⟩ last
   if at_=b.length then a.2 else run P b f (at_+1) a.1 now a.2
def zero (P:List St):Run:=⟨[],List.replicate P.length 0⟩
def longest (P:List St) (start:Nat) (b:Bytes) (at_:Nat):Option Nat:=
 run P b (b.length - at_+1) at_ (put P (zero P) start at_ b.length) (zero P) none
def findF (P:List St) (start:Nat) (b:Bytes):Nat→Nat→Option (Nat × Nat)
 | 0,_=>none
 | f+1,at_=>if b.length < at_ then none else match longest P start b at_ with
  | some to=>some (at_,to)
  | none=>findF P start b f (at_+1)
def find (P:List St) (start:Nat) (b:Bytes) (at_:Nat):Option (Nat × Nat):=findF P start b (b.length+1) at_
def Good (P:List St):Prop:=∀ s ∈ P,s.to < P.length∧s.or < P.length
def Fits (P:List St) (x:Run):Prop:=x.has.length=P.length∧∀ n ∈ x.l,n < P.length∧stays (P.getD n default)=true
theorem good_get {P:List St} (h:Good P) {n:Nat} (hn:n < P.length):(P.getD n default).to < P.length∧(P.getD n default).or < P.length:=by
 rw [List.getD_eq_getElem?_getD,List.getElem?_eq_getElem hn]
 exact h _ (List.getElem_mem _)
theorem onto_lt {P:List St} (h:Good P) {n at_ size:Nat} (hn:n < P.length) {todo:List Nat} (ht:∀ m ∈ todo,m < P.length):∀ m ∈ onto (P.getD n default) at_ size todo,m < P.length:=by
 have hg:=good_get h hn
 intro m hm
 unfold onto at hm
 split at hm
 ·rcases List.mem_cons.1 hm with rfl | hm
  ·exact hg.1
  ·rcases List.mem_cons.1 hm with rfl | hm
   ·exact hg.2
   ·exact ht _ hm
 ·split at hm
  ·split at hm
   ·rcases List.mem_cons.1 hm with rfl | hm
    ·exact hg.1
    ·exact ht _ hm
   ·exact ht _ hm
  ·split at hm
   ·split at hm
    ·rcases List.mem_cons.1 hm with rfl | hm
     ·exact hg.1
     ·exact ht _ hm
    ·exact ht _ hm
   ·exact ht _ hm
theorem onto_len (s:St) (at_ size:Nat) (todo:List Nat):(onto s at_ size todo).length≤todo.length+2:=by
 unfold onto
 repeat' split
 all_goals simp
theorem left_set (at_:Nat):∀ (h:List Nat) (n:Nat),n < h.length→h.getD n 0≠at_+1→left at_ (h.set n (at_+1))+1=left at_ h
 | [],n,hn,_=>absurd hn (Nat.not_lt_zero _)
 | a :: r,0,_,hne=>by
  have:a≠at_+1:=hne
  simp [left,this]
 | a :: r,n+1,hn,hne=>by
  have ih:=left_set at_ r n (by simpa using hn) (by simpa using hne)
  simp only [left,List.set_cons_succ,List.countP_cons] at ih ⊢
  omega
theorem putF_ok (P:List St) (hP:Good P) (at_ size:Nat):∀ (f:Nat) (todo:List Nat) (x:Run),(∀ m ∈ todo,m < P.length)→Fits P x→2 * left at_ x.has+todo.length≤f →
  ∃ y,putF P at_ size f todo x=some y∧Fits P y:=by
 intro f
 induction f with
 | zero=>
  intro todo x _ hx hf
  cases todo with
  | nil=>exact ⟨x,by simp [putF],hx⟩
  | cons n r=>simp at hf
 | succ f ih=>
  intro todo x ht hx hf
  cases todo with
  | nil=>exact ⟨x,by simp [putF],hx⟩
  | cons n r=>
   have hn:=ht n (by simp)
   have hr:∀ m ∈ r,m < P.length:=fun m hm=>ht m (by simp [hm])
   unfold putF
   split
   ·exact ih r x hr hx (by simp at hf;omega)
   ·rename_i hne
    have hl:=left_set at_ x.has n (by rw [hx.1];exact hn) hne
    refine ih _ _ (onto_lt hP hn hr) ⟨by simp [hx.1], ?_⟩ ?_
    ·intro m hm
     split at hm
     ·rename_i hs
      rcases List.mem_append.1 hm with hm | hm
      ·exact hx.2 m hm
      ·obtain rfl:m=n:=by simpa using hm
       exact ⟨hn,hs⟩
     ·exact hx.2 m hm
    ·have:=onto_len (P.getD n default) at_ size r
     simp only [List.length_cons] at hf
     simp only
     omega
theorem left_le (at_:Nat) (h:List Nat):left at_ h≤h.length:=List.countP_le_length
theorem put_ok (P:List St) (hP:Good P) (x:Run) (first at_ size:Nat) (hf:first < P.length) (hx:Fits P x):putF P at_ size (fuel P) [first] x=some (put P x first at_ size)∧Fits P (put P x first at_ size):=by
 obtain ⟨y,hy,hfy⟩:=putF_ok P hP at_ size (fuel P) [first] x (by simpa using hf) hx (by
  have:=left_le at_ x.has
  rw [hx.1] at this
  simp only [fuel,List.length_cons,List.length_nil]
  omega)
 unfold put
 rw [hy]
 exact ⟨rfl,hfy⟩
theorem Fits.clear {P:List St} {x:Run} (h:Fits P x):Fits P ⟨[],x.has⟩:=⟨h.1,fun n hn=>by simp at hn⟩
theorem Fits.zero (P:List St):Fits P (zero P):=⟨by simp [Mx.zero],fun n hn=>by simp [Mx.zero] at hn⟩
def Plain (P:List St):Prop:=∀ s ∈ P,s.kind≠2∧s.kind≠3
theorem round_ge (P:List St) (b:Bytes) (at_:Nat):∀ (l:List Nat) (x:Run) (last:Option Nat),(round P b at_ l x last).2=some at_∨(round P b at_ l x last).2=last:=by
 intro l
 induction l with
 | nil=>intro x last;exact .inr rfl
 | cons n r ih=>
  intro x last
  unfold round
  split
  ·rcases ih x (some at_) with h | h
   ·exact .inl h
   ·exact .inl h
  ·split
   ·split
    ·exact ih _ _
    ·exact ih _ _
   ·exact ih _ _
end Go.Proofs.YtefpcacnblaokaaGreatDoor.Rg.Mx
