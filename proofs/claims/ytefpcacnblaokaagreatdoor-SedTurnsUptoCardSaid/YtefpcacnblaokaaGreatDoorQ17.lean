/-
  Texts of this seat put together: GMy.
-/
import Derived.Test.YtefpcacnblaokaaGreatDoorQ10

/-
  What package match lays: its targets are there, its states are as many as twice its size, and without anchors if it has none. No program in sight.
  Condition: a node is smaller than 20000.
-/
namespace Go.Proofs.YtefpcacnblaokaaGreatDoor.Rg.Mx
open Go
def enter (P:List St) (at_ n:Nat) (x:Run):Run:=⟨if stays (P.getD n default) then x.l ++ [n] else x.l,x.has.set n (at_+1)⟩
theorem putF_old (P:List St) (at_ size f n:Nat) (todo:List Nat) (x:Run) (h:x.has.getD n 0=at_+1):putF P at_ size (f+1) (n :: todo) x=putF P at_ size f todo x:=by
 rw [putF,if_pos h]
theorem putF_new (P:List St) (at_ size f n:Nat) (todo:List Nat) (x:Run) (h:x.has.getD n 0≠at_+1):putF P at_ size (f+1) (n :: todo) x=putF P at_ size f (onto (P.getD n default) at_ size todo) (enter P at_ n x):=by
 rw [putF,if_neg h];rfl
theorem putF_nil (P:List St) (at_ size f:Nat) (x:Run):putF P at_ size f [] x=some x:=by
 cases f <;> rfl
theorem enter_fits {P:List St} {at_ n:Nat} {x:Run} (hx:Fits P x) (hn:n < P.length):Fits P (enter P at_ n x):=by
 refine ⟨by simp [enter,hx.1],fun m hm=>?_⟩
 unfold enter at hm
 simp only at hm
 split at hm
 ·rename_i hs
  rcases List.mem_append.1 hm with hm | hm
  ·exact hx.2 m hm
  ·obtain rfl:m=n:=by simpa using hm
   exact ⟨hn,hs⟩
 ·exact hx.2 m hm
def Room (P:List St) (at_:Nat) (x:Run):Prop:=x.l.length+left at_ x.has≤P.length
theorem enter_room {P:List St} {at_ n:Nat} {x:Run} (hf:Fits P x) (hx:Room P at_ x) (hn:n < P.length) (hne:x.has.getD n 0≠at_+1):Room P at_ (enter P at_ n x):=by
 have hl:=left_set at_ x.has n (by rw [hf.1];exact hn) hne
 unfold Room enter at *
 simp only
 split
 ·simp only [List.length_append,List.length_singleton];omega
 ·omega
theorem room_clear (P:List St) (at_:Nat) (x:Run) (h:Fits P x):Room P at_ ⟨[],x.has⟩:=by
 have:=left_le at_ x.has
 rw [h.1] at this
 unfold Room
 simpa using this
theorem putF_room (P:List St) (hP:Good P) (at_ size:Nat):∀ (f:Nat) (todo:List Nat) (x y:Run),(∀ m ∈ todo,m < P.length)→Fits P x→Room P at_ x→putF P at_ size f todo x=some y→Room P at_ y:=by
 intro f
 induction f with
 | zero=>
  intro todo x y _ _ hr h
  cases todo with
  | nil=>rw [putF_nil] at h;obtain rfl:=Option.some.inj h;exact hr
  | cons n r=>simp [putF] at h
 | succ f ih=>
  intro todo x y ht hx hr h
  cases todo with
  | nil=>rw [putF_nil] at h;obtain rfl:=Option.some.inj h;exact hr
  | cons n r=>
   have hn:=ht n (by simp)
   have hrr:∀ m ∈ r,m < P.length:=fun m hm=>ht m (by simp [hm])
   by_cases he:x.has.getD n 0=at_+1
   ·rw [putF_old _ _ _ _ _ _ _ he] at h
    exact ih _ _ _ hrr hx hr h
   ·rw [putF_new _ _ _ _ _ _ _ he] at h
    exact ih _ _ _ (onto_lt hP hn hrr) (enter_fits hx hn) (enter_room hx hr hn he) h
theorem put_room (P:List St) (hP:Good P) (x:Run) (first at_ size:Nat) (hf:first < P.length) (hx:Fits P x) (hr:Room P at_ x):Room P at_ (put P x first at_ size):=
 putF_room P hP at_ size _ _ _ _ (by simpa using hf) hx hr (put_ok P hP x first at_ size hf hx).1
theorem enter_left {P:List St} {at_ n:Nat} {x:Run} (hf:Fits P x) (hn:n < P.length) (hne:x.has.getD n 0≠at_+1):left at_ (enter P at_ n x).has+1=left at_ x.has:=
 left_set at_ x.has n (by rw [hf.1];exact hn) hne
theorem round_over (P:List St) (b:Bytes) (at_ n:Nat) (r:List Nat) (x:Run) (last:Option Nat) (h:(P.getD n default).kind=4):round P b at_ (n :: r) x last=round P b at_ r x (some at_):=by
 rw [round,if_pos h]
theorem round_put (P:List St) (b:Bytes) (at_ n:Nat) (r:List Nat) (x:Run) (last:Option Nat) (h:(P.getD n default).kind≠4) (h2:(decide (at_ < b.length) && (P.getD n default).has (b.getD at_ 0))=true) :
  round P b at_ (n :: r) x last=round P b at_ r (put P x (P.getD n default).to (at_+1) b.length) last:=by
 rw [Bool.and_eq_true,decide_eq_true_eq] at h2
 rw [round,if_neg h,dif_pos h2.1,if_pos]
 have:=h2.2
 rwa [show b.getD at_ 0=b[at_] by simp [List.getD_eq_getElem?_getD,List.getElem?_eq_getElem h2.1]] at this
theorem round_no (P:List St) (b:Bytes) (at_ n:Nat) (r:List Nat) (x:Run) (last:Option Nat) (h:(P.getD n default).kind≠4) (h2:(decide (at_ < b.length) && (P.getD n default).has (b.getD at_ 0))=false) :
  round P b at_ (n :: r) x last=round P b at_ r x last:=by
 rw [round,if_neg h]
 split
 ·rename_i hl
  rw [if_neg]
  rw [decide_eq_true hl,Bool.true_and,show b.getD at_ 0=b[at_] by simp [List.getD_eq_getElem?_getD,List.getElem?_eq_getElem hl]] at h2
  rw [h2]
  decide
 ·rfl
def Kinds (P:List St):Prop:=∀ s ∈ P,s.kind≤4
theorem kinds_get {P:List St} (h:Kinds P) (n:Nat):(P.getD n default).kind≤4:=by
 rw [List.getD_eq_getElem?_getD]
 rcases Nat.lt_or_ge n P.length with hn | hn
 ·rw [List.getElem?_eq_getElem hn]
  exact h _ (List.getElem_mem _)
 ·rw [List.getElem?_eq_none hn]
  decide
structure LayOk (L:List St) (a:Nat × List St):Prop where
 good:Good a.2
 lt:a.1 < a.2.length
 pre:∃ X,a.2=L ++ X
theorem LayOk.refl {L:List St} {to:Nat} (h:Good L) (ht:to < L.length):LayOk L (to,L):=⟨h,ht,[],by simp⟩
theorem LayOk.le {L:List St} {a:Nat × List St} (h:LayOk L a):L.length≤a.2.length:=by
 obtain ⟨X,hX⟩:=h.pre
 rw [hX];simp
theorem LayOk.trans {L:List St} {a b:Nat × List St} (h:LayOk L a) (h2:LayOk a.2 b):LayOk L b:=by
 obtain ⟨X,hX⟩:=h.pre
 obtain ⟨Y,hY⟩:=h2.pre
 exact ⟨h2.good,h2.lt,X ++ Y,by rw [hY,hX,List.append_assoc]⟩
theorem good_push {L:List St} (h:Good L) (s:St) (h1:s.to < L.length+1) (h2:s.or < L.length+1):Good (L ++ [s]):=by
 intro t ht
 rw [List.length_append,List.length_singleton]
 rcases List.mem_append.1 ht with ht | ht
 ·have:=h t ht
  omega
 ·obtain rfl:t=s:=by simpa using ht
  exact ⟨h1,h2⟩
theorem layOk_push {L:List St} (h:Good L) (s:St) (h1:s.to < L.length+1) (h2:s.or < L.length+1):LayOk L (L.length,L ++ [s]):=
 ⟨good_push h s h1 h2,by simp,[s],rfl⟩
theorem setTo_len (L:List St) (i to:Nat):(setTo L i to).length=L.length:=by simp [setTo]
theorem setTo_mem {L:List St} {i to:Nat} {s:St} (h:s ∈ setTo L i to):s ∈ L∨∃ t ∈ L,s={ t with to:=to }:=by
 obtain ⟨j,hj,rfl⟩:=List.mem_iff_getElem.1 h
 simp only [setTo,List.getElem_modify]
 have hj2:j < L.length:=by simpa [setTo] using hj
 split
 ·exact .inr ⟨L[j],List.getElem_mem _,rfl⟩
 ·exact .inl (List.getElem_mem _)
theorem setTo_good {L:List St} (h:Good L) (i to:Nat) (ht:to < L.length):Good (setTo L i to):=by
 intro s hs
 rw [setTo_len]
 rcases setTo_mem hs with hs | ⟨t,h2,rfl⟩
 ·exact h s hs
 ·exact ⟨ht,(h t h2).2⟩
theorem setTo_pre (L X:List St) (to:Nat):setTo (L ++ X) L.length to=L ++ setTo X 0 to:=by
 induction L with
 | nil=>rfl
 | cons a r ih=>simpa [setTo] using ih
theorem times_ok (k:Rx.Nd) (h:∀ to L,Good L→to < L.length→LayOk L (lay k to L)):∀ i to L,Good L→to < L.length→LayOk L (times k i to L):=by
 intro i
 induction i with
 | zero=>intro to L hg ht;rw [times_zero];exact .refl hg ht
 | succ i ih=>
  intro to L hg ht
  rw [times_succ]
  have h1:=h to L hg ht
  exact h1.trans (ih _ _ h1.good h1.lt)
theorem splits_ok (k:Rx.Nd) (h:∀ to L,Good L→to < L.length→LayOk L (lay k to L)):∀ i at_ to L,Good L→at_ < L.length→to < L.length→LayOk L (splits k i at_ to L):=by
 intro i
 induction i with
 | zero=>intro at_ to L hg ha _;rw [splits_zero];exact .refl hg ha
 | succ i ih=>
  intro at_ to L hg ha ht
  rw [splits_succ]
  have h1:=h at_ L hg ha
  have hle:=h1.le
  have h2:=layOk_push h1.good ⟨1,no,(lay k at_ L).1,to⟩ (Nat.lt_succ_of_lt h1.lt) (by simp;omega)
  exact h1.trans (h2.trans (ih _ _ _ h2.good h2.lt (by simp;omega)))
mutual
theorem lay_ok:(n:Rx.Nd)→∀ to L,Good L→to < L.length→LayOk L (lay n to L)
 | .empty,to,L,hg,ht=>by rw [lay];exact .refl hg ht
 | .set h,to,L,hg,ht=>by rw [lay];exact layOk_push hg _ (Nat.lt_succ_of_lt ht) (Nat.succ_pos _)
 | .beg,to,L,hg,ht=>by rw [lay];exact layOk_push hg _ (Nat.lt_succ_of_lt ht) (Nat.succ_pos _)
 | .fin,to,L,hg,ht=>by rw [lay];exact layOk_push hg _ (Nat.lt_succ_of_lt ht) (Nat.succ_pos _)
 | .cat l,to,L,hg,ht=>by rw [lay];exact layCat_ok l to L hg ht
 | .alt l,to,L,hg,ht=>by rw [lay];exact layAlt_ok l to L hg ht
 | .rep m most k,to,L,hg,ht=>by
  have hk:=lay_ok k
  rw [lay_rep]
  split
  ·have h1:=layOk_push hg ⟨1,no,0,to⟩ (Nat.succ_pos _) (Nat.lt_succ_of_lt ht)
   have h2:=hk L.length (L ++ [⟨1,no,0,to⟩]) h1.good (by simp)
   have h3:LayOk L ((lay k L.length (L ++ [⟨1,no,0,to⟩])).1,setTo (lay k L.length (L ++ [⟨1,no,0,to⟩])).2 L.length (lay k L.length (L ++ [⟨1,no,0,to⟩])).1):=by
    obtain ⟨X,hX⟩:=(h1.trans h2).pre
    refine ⟨setTo_good h2.good _ _ h2.lt,by rw [setTo_len];exact h2.lt,setTo X 0 (lay k L.length (L ++ [⟨1,no,0,to⟩])).1, ?_⟩
    show setTo (lay k L.length (L ++ [⟨1,no,0,to⟩])).2 L.length _=_
    rw [hX,setTo_pre]
   show LayOk L (if 0 < m then _ else _)
   split
   ·exact h3.trans (times_ok k hk _ _ _ h3.good h3.lt)
   ·refine ⟨h3.good, ?_,h3.pre⟩
    show L.length < _
    rw [setTo_len]
    have:=h2.le
    simp at this
    omega
  ·have h1:=splits_ok k hk (most.toNat - m) to to L hg ht ht
   exact h1.trans (times_ok k hk _ _ _ h1.good h1.lt)
theorem layCat_ok:(l:List Rx.Nd)→∀ to L,Good L→to < L.length→LayOk L (layCat l to L)
 | [],to,L,hg,ht=>by rw [layCat];exact .refl hg ht
 | k :: r,to,L,hg,ht=>by
  have h1:=layCat_ok r to L hg ht
  rw [layCat]
  exact h1.trans (lay_ok k _ _ h1.good h1.lt)
theorem layAlt_ok:(l:List Rx.Nd)→∀ to L,Good L→to < L.length→LayOk L (layAlt l to L)
 | [],to,L,hg,ht=>by rw [layAlt_nil];exact .refl hg ht
 | [k],to,L,hg,ht=>by rw [layAlt_one];exact lay_ok k to L hg ht
 | k :: k2 :: r,to,L,hg,ht=>by
  have h1:=layAlt_ok (k2 :: r) to L hg ht
  have h2:=lay_ok k to (layAlt (k2 :: r) to L).2 h1.good (Nat.lt_of_lt_of_le ht h1.le)
  have hle:=h2.le
  have hlt:=h1.lt
  rw [layAlt_two]
  exact h1.trans (h2.trans (layOk_push h2.good _ (Nat.lt_succ_of_lt h2.lt) (by simp only;omega)))
end
structure Each (Q:St→Prop):Prop where
 tgt:∀ s t,Q s→Q ⟨s.kind,s.has,t,s.or⟩
 split:∀ a b,Q ⟨1,no,a,b⟩
theorem each_setTo {Q:St→Prop} (hQ:Each Q) {L:List St} (h:∀ s ∈ L,Q s) (i t:Nat):∀ s ∈ setTo L i t,Q s:=by
 intro s hs
 rcases setTo_mem hs with hs | ⟨u,hu,rfl⟩
 ·exact h s hs
 ·exact hQ.tgt u t (h u hu)
theorem each_push {Q:St→Prop} {L:List St} (h:∀ s ∈ L,Q s) {t:St} (ht:Q t):∀ s ∈ L ++ [t],Q s:=by
 intro s hs
 rcases List.mem_append.1 hs with hs | hs
 ·exact h s hs
 ·obtain rfl:s=t:=by simpa using hs
  exact ht
theorem each_times {Q:St→Prop} (k:Rx.Nd) (h:∀ to L,(∀ s ∈ L,Q s)→∀ s ∈ (lay k to L).2,Q s):∀ i to L,(∀ s ∈ L,Q s)→∀ s ∈ (times k i to L).2,Q s:=by
 intro i
 induction i with
 | zero=>intro to L hL;rw [times_zero];exact hL
 | succ i ih=>intro to L hL;rw [times_succ];exact ih _ _ (h to L hL)
theorem each_splits {Q:St→Prop} (hQ:Each Q) (k:Rx.Nd) (h:∀ to L,(∀ s ∈ L,Q s)→∀ s ∈ (lay k to L).2,Q s):∀ i at_ to L,(∀ s ∈ L,Q s)→∀ s ∈ (splits k i at_ to L).2,Q s:=by
 intro i
 induction i with
 | zero=>intro at_ to L hL;rw [splits_zero];exact hL
 | succ i ih=>intro at_ to L hL;rw [splits_succ];exact ih _ _ _ (each_push (h at_ L hL) (hQ.split _ _))
mutual
def Leaves (Q:St→Prop):Rx.Nd→Prop
 | .empty=>True
 | .set h=>∀ t,Q ⟨0,h,t,0⟩
 | .beg=>∀ t,Q ⟨2,no,t,0⟩
 | .fin=>∀ t,Q ⟨3,no,t,0⟩
 | .cat l=>Leavess Q l
 | .alt l=>Leavess Q l
 | .rep _ _ k=>Leaves Q k
def Leavess (Q:St→Prop):List Rx.Nd→Prop
 | []=>True
 | k :: r=>Leaves Q k∧Leavess Q r
end
mutual
theorem lay_each {Q:St→Prop} (hQ:Each Q):(n:Rx.Nd)→Leaves Q n→∀ to L,(∀ s ∈ L,Q s)→∀ s ∈ (lay n to L).2,Q s
 | .empty,_,to,L,hL=>by rw [lay];exact hL
 | .set h,hn,to,L,hL=>by rw [lay];exact each_push hL (by rw [Leaves] at hn;exact hn to)
 | .beg,hn,to,L,hL=>by rw [lay];exact each_push hL (by rw [Leaves] at hn;exact hn to)
 | .fin,hn,to,L,hL=>by rw [lay];exact each_push hL (by rw [Leaves] at hn;exact hn to)
 | .cat l,hn,to,L,hL=>by rw [lay];rw [Leaves] at hn;exact layCat_each hQ l hn to L hL
 | .alt l,hn,to,L,hL=>by rw [lay];rw [Leaves] at hn;exact layAlt_each hQ l hn to L hL
 | .rep m most k,hn,to,L,hL=>by
  rw [Leaves] at hn
  have hk:=lay_each hQ k hn
  rw [lay_rep]
  split
  ·have h1:=each_setTo hQ (hk L.length (L ++ [⟨1,no,0,to⟩]) (each_push hL (hQ.split _ _))) L.length (lay k L.length (L ++ [⟨1,no,0,to⟩])).1
   show ∀ s ∈ (if 0 < m then _ else _:Nat × List St).2,Q s
   split
   ·exact each_times k hk _ _ _ h1
   ·exact h1
  ·exact each_times k hk _ _ _ (each_splits hQ k hk _ _ _ _ hL)
theorem layCat_each {Q:St→Prop} (hQ:Each Q):(l:List Rx.Nd)→Leavess Q l→∀ to L,(∀ s ∈ L,Q s)→∀ s ∈ (layCat l to L).2,Q s
 | [],_,to,L,hL=>by rw [layCat];exact hL
 | k :: r,hn,to,L,hL=>by
  rw [Leavess] at hn
  rw [layCat]
  exact lay_each hQ k hn.1 _ _ (layCat_each hQ r hn.2 to L hL)
theorem layAlt_each {Q:St→Prop} (hQ:Each Q):(l:List Rx.Nd)→Leavess Q l→∀ to L,(∀ s ∈ L,Q s)→∀ s ∈ (layAlt l to L).2,Q s
 | [],_,to,L,hL=>by rw [layAlt_nil];exact hL
 | [k],hn,to,L,hL=>by
  rw [Leavess] at hn
  rw [layAlt_one]
  exact lay_each hQ k hn.1 to L hL
 | k :: k2 :: r,hn,to,L,hL=>by
  rw [Leavess] at hn
  rw [layAlt_two]
  exact each_push (lay_each hQ k hn.1 _ _ (layAlt_each hQ (k2 :: r) hn.2 to L hL)) (hQ.split _ _)
end
mutual
theorem leaves_all {Q:St→Prop} (h0:∀ h t,Q ⟨0,h,t,0⟩) (h2:∀ t,Q ⟨2,no,t,0⟩) (h3:∀ t,Q ⟨3,no,t,0⟩):(n:Rx.Nd)→Leaves Q n
 | .empty=>by rw [Leaves];trivial
 | .set h=>by rw [Leaves];exact h0 h
 | .beg=>by rw [Leaves];exact h2
 | .fin=>by rw [Leaves];exact h3
 | .cat l=>by rw [Leaves];exact leavess_all h0 h2 h3 l
 | .alt l=>by rw [Leaves];exact leavess_all h0 h2 h3 l
 | .rep _ _ k=>by rw [Leaves];exact leaves_all h0 h2 h3 k
theorem leavess_all {Q:St→Prop} (h0:∀ h t,Q ⟨0,h,t,0⟩) (h2:∀ t,Q ⟨2,no,t,0⟩) (h3:∀ t,Q ⟨3,no,t,0⟩):(l:List Rx.Nd)→Leavess Q l
 | []=>by rw [Leavess];trivial
 | k :: r=>by rw [Leavess];exact ⟨leaves_all h0 h2 h3 k,leavess_all h0 h2 h3 r⟩
end
theorem lay_kinds (n:Rx.Nd) (to:Nat) (L:List St) (h:Kinds L):Kinds (lay n to L).2:=
 lay_each (Q:=fun s=>s.kind≤4) ⟨fun s _ h=>h,fun _ _=>by show 1≤4;decide⟩ n (leaves_all (fun _ _=>by show 0≤4;decide) (fun _=>by show 2≤4;decide) (fun _=>by show 3≤4;decide) n) to L h
theorem times_len (k:Rx.Nd) (s:Nat) (h:∀ to L,(lay k to L).2.length+1≤L.length+2 * s):∀ i to L,(times k i to L).2.length+i≤L.length+2 * (s * i):=by
 intro i
 induction i with
 | zero=>intro to L;rw [times_zero];simp
 | succ i ih=>
  intro to L
  rw [times_succ]
  have h1:=h to L
  have h2:=ih (lay k to L).1 (lay k to L).2
  rw [Nat.mul_succ]
  omega
end Go.Proofs.YtefpcacnblaokaaGreatDoor.Rg.Mx
