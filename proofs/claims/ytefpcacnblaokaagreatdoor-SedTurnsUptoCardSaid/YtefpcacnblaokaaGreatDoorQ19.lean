/-
  Texts of this seat put together: GM6.
-/
import Derived.Test.YtefpcacnblaokaaGreatDoorQ18

/-
  Sets of states in memory; the walk of put. Condition: the states and the set lie in memory, apart.
-/
set_option maxRecDepth 100000
set_option maxHeartbeats 3200000
namespace Go.Proofs.YtefpcacnblaokaaGreatDoor.Rg
open Go.RowKit Go.Shelf Go.Maps
variable {lo:Nat}
def ints (l:List Nat):List Value:=l.map fun (n:Nat)=>.int .i64 n
structure RunAt (w:World) (M:Nat→Prop) (x:Nat) (v:Value) (hk:Nat) (r:Mx.Run):Prop where
 blk:Blk w x #[v,.slice (some ⟨hk,0,none⟩) r.has.length r.has.length] 424
 l:w.ownsRow 0 3 1 v r.l.length (ints r.l)
 has:w.ownsRow 0 3 1 (.slice (some ⟨hk,0,none⟩) r.has.length r.has.length) r.has.length (ints r.has)
 mx:M x
 mh:M hk
 ml:∀ b,v.ownBlock=some b→M b
 xh:x≠hk
 xl:v.ownBlock≠some x
 lh:v.ownBlock≠some hk
theorem RunAt.kept {S M:Nat→Prop} {w w':World} {x hk:Nat} {v:Value} {r:Mx.Run} (h:RunAt w M x v hk r) (hs:Kept S w w') (hS:∀ b,M b→¬ S b):RunAt w' M x v hk r:=
 ⟨h.blk.kept hs (hS _ h.mx),own_kept h.l hs fun k e=>hS k (h.ml k e),own_kept h.has hs fun k e=>by
  obtain rfl:hk=k:=Option.some.inj e
  exact hS _ h.mh,h.mx,h.mh,h.ml,h.xh,h.xl,h.lh⟩
theorem RunAt.mono {M M':Nat→Prop} {w:World} {x hk:Nat} {v:Value} {r:Mx.Run} (h:RunAt w M x v hk r) (hM:∀ b,M b→M' b):RunAt w M' x v hk r:=
 ⟨h.blk,h.l,h.has,hM _ h.mx,hM _ h.mh,fun b e=>hM _ (h.ml b e),h.xh,h.xl,h.lh⟩
def RunIn (w:World) (M:Nat→Prop) (x:Nat) (r:Mx.Run):Prop:=∃ v hk,RunAt w M x v hk r
theorem row_at:∀ (L:Sts) (n:Nat),n < L.length→∃ s h,L[n]?=some (s,h)∧(row L)[n * 4]?=some (.int .i64 s.kind)∧(row L)[n * 4+1]?=some (.pointer (h.map fun b=>⟨b,1,none⟩))∧(row L)[n * 4+2]?=some (.int .i64 s.to)∧(row L)[n * 4+3]?=some (.int .i64 s.or)
 | [],n,hn=>absurd hn (Nat.not_lt_zero _)
 | x :: r,0,_=>⟨x.1,x.2,rfl,rfl,rfl,rfl,rfl⟩
 | x :: r,n+1,hn=>by
  obtain ⟨s,h,h0,h1,h2,h3,h4⟩:=row_at r n (by simpa using hn)
  refine ⟨s,h,by simpa using h0, ?_, ?_, ?_, ?_⟩
  ·rw [show (n+1) * 4=n * 4+1+1+1+1 by omega];simpa [row,stV] using h1
  ·rw [show (n+1) * 4+1=(n * 4+1)+1+1+1+1 by omega];simpa [row,stV] using h2
  ·rw [show (n+1) * 4+2=(n * 4+2)+1+1+1+1 by omega];simpa [row,stV] using h3
  ·rw [show (n+1) * 4+3=(n * 4+3)+1+1+1+1 by omega];simpa [row,stV] using h4
structure StAt (w:World) (g n:Nat) (s:Mx.St) (h:Option Nat):Prop where
 kind:w.cell? ⟨g,n * 4,none⟩=some (.int .i64 s.kind)
 has:w.cell? ⟨g,n * 4+1,none⟩=some (.pointer (h.map fun b=>⟨b,1,none⟩))
 to_:w.cell? ⟨g,n * 4+2,none⟩=some (.int .i64 s.to)
 or_:w.cell? ⟨g,n * 4+3,none⟩=some (.int .i64 s.or)
theorem Pg.form {w:World} {q:Nat} {v:Value} {st:Int} {L:Sts} (h:Pg lo w q v st L) (h0:0 < L.length):∃ g c,v=.slice (some ⟨g,0,none⟩) L.length c∧q < g∧L.length≤c:=by
 rcases own_form' h.own with ⟨-,h1⟩ | ⟨g,c,e,hg,hc⟩
 ·omega
 ·exact ⟨g,c,e,hg,hc⟩
theorem Pg.at_ {w:World} {q g c:Nat} {st:Int} {L:Sts} (h:Pg lo w q (.slice (some ⟨g,0,none⟩) L.length c) st L) (n:Nat) (hn:n < L.length):∃ hp,StAt w g n ((sts L).getD n default) hp∧L[n]?=some ((sts L).getD n default,hp):=by
 obtain ⟨s,hp,h0,h1,h2,h3,h4⟩:=row_at L n hn
 have e:(sts L).getD n default=s:=by simp [sts,List.getD_eq_getElem?_getD,List.getElem?_map,h0]
 rw [e]
 refine ⟨hp,⟨?_, ?_, ?_, ?_⟩,h0⟩
 ·rw [World.ownsRow.cellAt h.own _ (by omega)];exact h1
 ·rw [World.ownsRow.cellAt h.own _ (by omega)];exact h2
 ·rw [World.ownsRow.cellAt h.own _ (by omega)];exact h3
 ·rw [World.ownsRow.cellAt h.own _ (by omega)];exact h4
theorem Pg.kept {S:Nat→Prop} {w w':World} {q:Nat} {v:Value} {st:Int} {L:Sts} (h:Pg lo w q v st L) (hk:Kept S w w') (hS:∀ b,S b→q < b∧v.ownBlock≠some b):Pg lo w' q v st L:=
 ⟨h.blk.kept hk fun e=>Nat.lt_irrefl _ (hS _ e).1,own_kept h.own hk fun k e h2=>(hS k h2).2 e,fun x hx h0=>by
  obtain ⟨b,e,hb,hh⟩:=h.has x hx h0
  exact ⟨b,e,hb,hh.kept hk fun h2=>by have:=(hS b h2).1;omega⟩⟩
theorem ints_len (l:List Nat):(ints l).length=l.length:=by simp [ints]
theorem ints_app (l k:List Nat):ints (l ++ k)=ints l ++ ints k:=by simp [ints]
theorem ints_get (l:List Nat) (i:Nat) (hi:i < l.length):(ints l)[i]?=some (.int .i64 (l.getD i 0)):=by
 simp [ints,List.getD_eq_getElem?_getD,List.getElem?_eq_getElem hi]
theorem own_pop {w:World} {B g n c:Nat} {t:TypeId} {xs:List Value} {y:Value} (h:w.ownsRow B t 1 (.slice (some ⟨g,0,none⟩) (n+1) c) (n+1) (xs ++ [y])):w.ownsRow B t 1 (.slice (some ⟨g,0,none⟩) n c) n xs:=by
 obtain ⟨h1,⟨h2,-⟩ | ⟨g',cap,cur,e,hg,hb,hc,hm,hs,ht⟩⟩:=h
 ·simp at h2
 ·simp only [Value.slice.injEq,Option.some.injEq,Addr.mk.injEq,and_true,true_and] at e
  obtain ⟨rfl,rfl⟩:=e
  have hx:xs.length=n:=by simpa using h1
  refine ⟨by omega,.inr ⟨g,c,cur,rfl,hg,hb,by omega,hm,hs, ?_⟩⟩
  have:=congrArg (List.take n) ht
  rw [List.take_take,Nat.min_eq_left (by omega),List.take_append_of_le_length (by omega)] at this
  rw [Nat.mul_one,this,List.take_of_length_le (by omega)]
theorem RunAt.lt {M:Nat→Prop} {w:World} {x hk:Nat} {v:Value} {r:Mx.Run} (h:RunAt w M x v hk r):RunAt w (fun b=>M b∧b < w.heap.size) x v hk r:=
 ⟨h.blk,h.l,h.has,⟨h.mx,h.blk.lt⟩,⟨h.mh,(h.has.lt hk rfl).2⟩,fun b e=>⟨h.ml b e,(h.l.lt b e).2⟩,h.xh,h.xl,h.lh⟩
theorem ints_set (l:List Nat) (n a:Nat):ints (l.set n a)=(ints l).set n (.int .i64 a):=by simp [ints,List.map_set]
theorem RunAt.stamp {M:Nat→Prop} {w:World} {x hk:Nat} {v:Value} {l h:List Nat} (hr:RunAt w M x v hk ⟨l,h⟩) (n a:Nat):RunAt (w.setCell ⟨hk,n,none⟩ (.int .i64 a)) M x v hk ⟨l,h.set n a⟩:=by
 have hs:Kept (·=hk) w (w.setCell ⟨hk,n,none⟩ (.int .i64 a)):=(Kept.refl (·=hk) w).setCell (.inl rfl) _ _
 refine ⟨?_,own_kept hr.l hs fun k e e2=>hr.lh (e2 ▸ e), ?_,hr.mx,hr.mh,hr.ml,hr.xh,hr.xl,hr.lh⟩
 ·have:=hr.blk.kept hs hr.xh
  simpa using this
 ·have:=(World.ownsRow.stored hr.has n (.int .i64 a)).1
  simp only [List.length_set,ints_set]
  exact this
theorem RunAt.todo {M:Nat→Prop} {w W w5:World} {x hk:Nat} {v tv tv':Value} {r:Mx.Run} {o:Obj} {t:TypeId} {n:Nat} {xs:List Value} (h:RunAt W (fun b=>(M b∨w.heap.size≤b)∧tv.ownBlock≠some b) x v hk r) (hk0:Kept M w W)
  (ho:W.ownsRow w.heap.size t 1 tv n xs) (hg:(W.alloc o).grownBy w5 tv.ownBlock) (hv:tv'.ownBlock=tv.ownBlock∨tv'.ownBlock=some (W.alloc o).heap.size) :
  RunAt w5 (fun b=>(M b∨w.heap.size≤b)∧tv'.ownBlock≠some b) x v hk r∧Kept M w w5:=by
 have hs:=kept_grown ((Kept.refl (fun _=>False) W).alloc o) hg
 refine ⟨(h.lt.kept hs fun b hb e=>hb.1.2 e).mono fun b hb=>⟨hb.1.1,fun e=>?_⟩,hk0.trans' hs fun k hk e=>?_⟩
 ·rcases hv with hv | hv
  ·exact hb.1.2 (hv ▸ e)
  ·rw [hv] at e
   have h1:=Option.some.inj e
   have h2:(W.alloc o).heap.size=W.heap.size+1:=by simp
   have:=hb.2
   omega
 ·have:=(ho.lt k e).1
  omega
theorem RunAt.more {M:Nat→Prop} {W W2 w5:World} {x hk n:Nat} {v v':Value} {l h:List Nat} (hr:RunAt W M x v hk ⟨l,h⟩) (h2:Kept (fun _=>False) W W2) (hg:W2.grownBy w5 v.ownBlock)
  (hown:w5.ownsRow 0 3 1 v' (l.length+1) (ints l ++ [.int .i64 n])) (hv:v'.ownBlock=v.ownBlock∨∃ k,v'.ownBlock=some k∧W.heap.size≤k) :
  RunAt (w5.setCell ⟨x,0,none⟩ v') (fun b=>M b∨W.heap.size≤b) x v' hk ⟨l ++ [n],h⟩∧Kept M W (w5.setCell ⟨x,0,none⟩ v'):=by
 have hs:=kept_grown h2 hg
 have hx:=hr.blk.lt
 have hh:=(hr.has.lt hk rfl).2
 have hxl:v'.ownBlock≠some x:=by
  rcases hv with hv | ⟨k,hv,hk'⟩
  ·rw [hv];exact hr.xl
  ·rw [hv];intro e;have:=Option.some.inj e;omega
 have hlh:v'.ownBlock≠some hk:=by
  rcases hv with hv | ⟨k,hv,hk'⟩
  ·rw [hv];exact hr.lh
  ·rw [hv];intro e;have:=Option.some.inj e;omega
 have h5:Kept (·=x) w5 (w5.setCell ⟨x,0,none⟩ v'):=(Kept.refl (·=x) w5).setCell (.inl rfl) _ _
 refine ⟨⟨?_, ?_, ?_,.inl hr.mx,.inl hr.mh,fun b e=>?_,hr.xh,hxl,hlh⟩, ?_⟩
 ·have:=(hr.blk.kept hs hr.xl).set 0 v'
  simpa using this
 ·rw [List.length_append,ints_app]
  exact own_kept hown h5 fun k e e2=>hxl (e2 ▸ e)
 ·exact own_kept (own_kept hr.has hs fun k e e2=>by
   obtain rfl:hk=k:=Option.some.inj e
   exact hr.lh e2) h5 fun k e e2=>by
   obtain rfl:hk=k:=Option.some.inj e
   exact hr.xh e2.symm
 ·rcases hv with hv | ⟨k,hv,hk'⟩
  ·exact .inl (hr.ml b (hv ▸ e))
  ·rw [hv] at e
   obtain rfl:=Option.some.inj e
   exact .inr hk'
 ·exact (hs.mono fun k _ e=>hr.ml k e).trans (h5.mono fun k _ e=>e ▸ hr.mx)
theorem info_int:(Tryz.prog.info? 3).map (fun i=>(i.zero,i.size,i.bytes))=some (some (.int .i64 0),1,8):=by kernel_rfl
theorem blk_grown {w w1:World} {o:Option Nat} {b:Nat} {cs:Array Value} {t:TypeId} (h:Blk w b cs t) (hg:w.grownBy w1 o) (hne:o≠some b):Blk w1 b cs t:=
 (hg.block b h.lt fun e=>hne e.symm).trans h
theorem own_form1 {w:World} {base:Nat} {e:TypeId} {size:Nat} {v:Value} {n:Nat} {xs:List Value} (h:w.ownsRow base e size v (n+1) xs):∃ g c,v=.slice (some ⟨g,0,none⟩) (n+1) c:=by
 rcases own_form' h with ⟨-,h0⟩ | ⟨g,c,e,-,-⟩
 ·omega
 ·exact ⟨g,c,e⟩
theorem alloc_two (w:World) (a b:Obj) (n:Nat) (h:n=w.heap.size+1):((w.alloc a).alloc b).heap[n]?=some b:=by
 subst h
 have:=heap_alloc_new (w.alloc a) b
 simpa using this
structure PutIn (P:List Mx.St) (R:Mx.Run) (M:Nat→Prop) (w wr:World) (x at_ size f:Nat) (tv:Value) (todo:List Nat) (r:Mx.Run):Prop where
 eq:Hid (Mx.putF P at_ size f todo r=some R)
 todo_:wr.ownsRow w.heap.size 3 1 tv todo.length (ints todo.reverse)
 run:∃ v hk,RunAt wr (fun b=>(M b∨w.heap.size≤b)∧tv.ownBlock≠some b) x v hk r
 kept:Kept M w wr
 lt:∀ m ∈ todo,m < P.length
 fits:Mx.Fits P r
 room:Mx.Room P at_ r
 fuel:2 * Mx.left at_ r.has+todo.length≤f
 max:f≤2 * P.length+2
theorem putIn_more {P:List Mx.St} {R r2:Mx.Run} {M:Nat→Prop} {w W W3 w5:World} {x at_ size f n rk:Nat} {tv rv v':Value} {l h todo':List Nat} (heq:Hid (Mx.putF P at_ size f todo' r2=some R))
  (hra:RunAt W (fun b=>(M b∨w.heap.size≤b)∧tv.ownBlock≠some b) x rv rk ⟨l,h⟩) (he:r2=⟨l ++ [n],h⟩) (hkp:Kept M w W) (ho:W.ownsRow w.heap.size 3 1 tv todo'.length (ints todo'.reverse)) (h3:Kept (fun _=>False) W W3) (hg:W3.grownBy w5 rv.ownBlock)
  (hown:w5.ownsRow 0 3 1 v' (l.length+1) (ints l ++ [.int .i64 n])) (hv:v'.ownBlock=rv.ownBlock∨v'.ownBlock=some W3.heap.size)
  (hlt:∀ m ∈ todo',m < P.length) (hfi:Mx.Fits P r2) (hro:Mx.Room P at_ r2) (hfu:2 * Mx.left at_ r2.has+todo'.length≤f) (hmx:f≤2 * P.length+2):PutIn P R M w (w5.setCell ⟨x,0,none⟩ v') x at_ size f tv todo' r2:=by
 have h:=hra.more h3 hg hown (hv.imp id fun e=>⟨_,e,h3.size⟩)
 rw [← he] at h
 have htl:=fun k e=>(ho.lt k e).2
 refine ⟨heq,own_kept ho h.2 fun k e hk=>hk.2 e,⟨v',rk,h.1.mono fun b hb=>?_⟩,hkp.trans' h.2 fun k hk hb=>?_,hlt,hfi,hro,hfu,hmx⟩
 ·rcases hb with hb | hb
  ·exact hb
  ·refine ⟨.inr (Nat.le_trans hkp.size hb),fun e=>?_⟩
   have:=htl b e
   omega
 ·rcases hb.1 with hb | hb
  ·exact hb
  ·omega
theorem putIn_push {P:List Mx.St} {R r2:Mx.Run} {M:Nat→Prop} {w W w5:World} {x at_ size f n rk:Nat} {tv tv' rv:Value} {todo':List Nat} {xs:List Value} {O o2:Obj} (heq:Hid (Mx.putF P at_ size f todo' r2=some R))
  (hra:RunAt W (fun b=>(M b∨w.heap.size≤b)∧tv.ownBlock≠some b) x rv rk r2) (hkp:Kept M w W) (ho:W.ownsRow w.heap.size 3 1 tv n xs) (hg:((W.alloc O).alloc o2).grownBy w5 tv.ownBlock)
  (hv:tv'.ownBlock=tv.ownBlock∨tv'.ownBlock=some ((W.alloc O).alloc o2).heap.size) (hown:w5.ownsRow w.heap.size 3 1 tv' todo'.length (ints todo'.reverse))
  (hlt:∀ m ∈ todo',m < P.length) (hfi:Mx.Fits P r2) (hro:Mx.Room P at_ r2) (hfu:2 * Mx.left at_ r2.has+todo'.length≤f) (hmx:f≤2 * P.length+2):PutIn P R M w w5 x at_ size f tv' todo' r2:=by
 have h:=RunAt.todo (tv':=tv') (hra.kept (S:=fun _=>False) ((Kept.refl _ W).alloc O) fun _ _ h=>h) (hkp.alloc O) (ho.alloc O) hg hv
 exact ⟨heq,hown,⟨rv,rk,h.1⟩,h.2,hlt,hfi,hro,hfu,hmx⟩
theorem putIn_same {P:List Mx.St} {R r2:Mx.Run} {M:Nat→Prop} {w W:World} {x at_ size f rk:Nat} {tv rv:Value} {todo':List Nat} {O:Obj} (heq:Hid (Mx.putF P at_ size f todo' r2=some R))
  (hra:RunAt W (fun b=>(M b∨w.heap.size≤b)∧tv.ownBlock≠some b) x rv rk r2) (hkp:Kept M w W) (ho:W.ownsRow w.heap.size 3 1 tv todo'.length (ints todo'.reverse))
  (hlt:∀ m ∈ todo',m < P.length) (hfi:Mx.Fits P r2) (hro:Mx.Room P at_ r2) (hfu:2 * Mx.left at_ r2.has+todo'.length≤f) (hmx:f≤2 * P.length+2):PutIn P R M w (W.alloc O) x at_ size f tv todo' r2:=
 ⟨heq,ho.alloc O,⟨rv,rk,hra.kept (S:=fun _=>False) ((Kept.refl _ W).alloc O) fun _ _ h=>h⟩,hkp.alloc O,hlt,hfi,hro,hfu,hmx⟩
theorem put_any (q x first at_ size:Nat) (v:Value) (st:Int) (L:Sts) (M:Nat→Prop) (r:Mx.Run) (w:World) (hpg:Pg lo w q v st L) (hgo:Mx.Good (sts L)) (hL:L.length≤1000000) (hfi:first < L.length)
  (hrun:RunIn w M x r) (hM:∀ b,M b→q < b∧v.ownBlock≠some b∧b < w.heap.size) (hf:Mx.Fits (sts L) r) (hr:Mx.Room (sts L) at_ r) (hb:at_≤2000000000∧size≤2000000000) :
  Calls Tryz.prog 332 #[.pointer (some ⟨q,0,none⟩),.pointer (some ⟨x,0,none⟩),.int .i64 first,.int .i64 at_,.int .i64 size] w fun e w'=>
   (e=.returned (.tuple #[])∧RunIn w' (fun b=>M b∨w.heap.size≤b) x (Mx.put (sts L) r first at_ size))∧Kept M w w':=by
 have hput:=(Mx.put_ok (sts L) hgo r first at_ size (by rw [sts_len];exact hfi) hf).1
 obtain ⟨g,c,rfl,hqg,hgc⟩:=hpg.form (by omega)
 generalize hR:Mx.put (sts L) r first at_ size=R at hput ⊢
 have HPUT:=Lib.hid hput
 have HPG:=Lib.hid hpg
 have HGO:=Lib.hid hgo
 have HRUN:=Lib.hid hrun
 have HM:=Lib.hid hM
 have HF:=Lib.hid hf
 have HR:=Lib.hid hr
 clear hput hpg hgo hrun hM hf hr hR
 obtain ⟨i0,hi,hz0,hz1,hz2⟩:=info_parts info_int
 go_enter Tryz.func332,Tryz.ntmps332
 go_wp2_with fail
 go_loopg [10] (2 * (sts L).length+2) (fun f x10 wr=>∃ (todo:List Nat) (r':Mx.Run),PutIn (sts L) R M w wr x at_ size f x10 todo r')
 case atStart=>
  obtain ⟨rv,rk,hra⟩:=HRUN.out
  refine ⟨[first],r,HPUT.out,World.ownsRow_lit w #[.int .i64 first] 1 (Nat.le_refl _) (by unfold maxLen;omega) rfl,⟨rv,rk,(hra.kept (S:=fun _=>False) ((Kept.refl _ w).alloc _) fun _ _ h=>h).mono fun b hb=>⟨.inl hb,fun e=>?_⟩⟩,(Kept.refl M w).alloc _,by simpa [sts_len] using hfi,HF.out,HR.out, ?_,Nat.le_refl _⟩
  ·obtain rfl:w.heap.size=b:=Option.some.inj e
   exact absurd (HM.out _ hb).2.2 (Nat.lt_irrefl _)
  ·have:=Mx.left_le at_ r.has
   rw [HF.out.1] at this
   simp only [List.length_singleton]
   omega
 case round=>
  obtain ⟨todo,r',hin⟩:=hrel
  cases todo with
  | nil=>
   have HE:Hid (r'=R):=by
    have h:=hin.eq.out
    unfold Hid at h
    rw [Mx.putF_nil] at h
    exact Option.some.inj h
   have HIN:=Lib.hid hin
   rcases own_form' hin.todo_ with ⟨rfl,-⟩ | ⟨tg,tc,rfl,-,-⟩
   ·clear hin
    go_wp2_with fail
    go_end0
    rw [← HE.out]
    obtain ⟨rv,rk,hra⟩:=HIN.out.run
    exact ⟨⟨rfl,rv,rk,hra.mono fun b hb=>hb.1⟩,HIN.out.kept⟩
   ·clear hin
    go_wp2_with fail
    go_end0
    rw [← HE.out]
    obtain ⟨rv,rk,hra⟩:=HIN.out.run
    exact ⟨⟨rfl,rv,rk,hra.mono fun b hb=>hb.1⟩,HIN.out.kept⟩
  | cons n rest=>
   have hn:=hin.lt n (by simp)
   rw [sts_len] at hn
   obtain ⟨rv,rk,hra⟩:=hin.run
   rcases own_form' hin.todo_ with ⟨-,h0⟩ | ⟨tg,tc,rfl,htg,htc⟩
   ·simp at h0
   have ct:wr.cell? ⟨tg,rest.length,none⟩=some (.int .i64 n):=by
    rw [World.ownsRow.cellAt hin.todo_ _ (by simp),List.reverse_cons,ints_app,List.getElem?_append_right (by simp [ints_len])]
    simp [ints]
   have cx1:wr.cell? ⟨x,1,none⟩=some (.slice (some ⟨rk,0,none⟩) r'.has.length r'.has.length):=hra.blk.cell 1 rfl
   have hhl:=hin.fits.1
   rw [sts_len] at hhl
   have chn:wr.cell? ⟨rk,n,none⟩=some (.int .i64 (r'.has.getD n 0)):=by
    rw [World.ownsRow.cellAt hra.has n (by omega),ints_get _ _ (by omega)]
   have fhn:=World.ownsRow.frozenAt hra.has n
   have HIN:=Lib.hid hin
   have HRA:=Lib.hid hra
   have n1:(n:Int) < (r'.has.length:Int):=by omega
   have hrl:rest.length≤3000000:=by
    have h1:=hin.fuel
    have h2:=hin.max
    rw [List.length_cons] at h1
    rw [sts_len] at h2
    omega
   rw [List.length_cons] at htc ⊢
   clear hin hra
   by_cases he:r'.has.getD n 0=at_+1
   ·have HOLD:Hid (Mx.putF (sts L) at_ size gk (n :: rest) r'=Mx.putF (sts L) at_ size (gk - 1) rest r'):=by
     have hfu:=HIN.out.fuel
     rw [List.length_cons] at hfu
     obtain ⟨k,rfl⟩:∃ k,gk=k+1:=⟨gk - 1,by omega⟩
     exact Mx.putF_old _ _ _ _ _ _ _ he
    have hei:((r'.has.getD n 0:Nat):Int)=(at_:Int)+1:=by omega
    generalize r'.has.getD n 0=hv at *
    clear he
    go_wp2_with fail
    have hfu:=HIN.out.fuel
    rw [List.length_cons] at hfu
    go_roundg (gk - 1)
    case measure=>omega
    case rel=>
     have htd:=HIN.out.todo_
     rw [List.length_cons,List.reverse_cons,ints_app] at htd
     refine ⟨rest,r',by show _=_;rw [← HOLD.out];exact HIN.out.eq.out,own_pop htd,⟨rv,rk,HRA.out⟩,HIN.out.kept,fun m hm=>HIN.out.lt m (by simp [hm]),HIN.out.fits,HIN.out.room,by omega,by have:=HIN.out.max;omega⟩
   ·have HNEW:Hid (Mx.putF (sts L) at_ size gk (n :: rest) r'=Mx.putF (sts L) at_ size (gk - 1) (Mx.onto ((sts L).getD n default) at_ size rest) (Mx.enter (sts L) at_ n r')):=by
     have hfu:=HIN.out.fuel
     rw [List.length_cons] at hfu
     obtain ⟨k,rfl⟩:∃ k,gk=k+1:=⟨gk - 1,by omega⟩
     exact Mx.putF_new _ _ _ _ _ _ _ he
    have HSUB:Hid (∀ b,(M b∨w.heap.size≤b)→q < b∧g≠b):=by
     intro b hb
     have h1:=HPG.out.blk.lt
     have h2:=(HPG.out.own.lt g rfl).2
     rcases hb with hb | hb
     ·have:=HM.out b hb
      exact ⟨this.1,fun e=>this.2.1 (by rw [e];rfl)⟩
     ·exact ⟨by omega,by omega⟩
    have hpgr:Pg lo wr q (.slice (some ⟨g,0,none⟩) L.length c) st L:=HPG.out.kept HIN.out.kept fun b hb=>⟨(HSUB.out b (.inl hb)).1,fun e=>(HSUB.out b (.inl hb)).2 (Option.some.inj e)⟩
    have hpg2:Pg lo (wr.setCell ⟨rk,n,none⟩ (.int .i64 ((at_:Int)+1))) q (.slice (some ⟨g,0,none⟩) L.length c) st L:=
     hpgr.kept (S:=(·=rk)) ((Kept.refl (·=rk) wr).setCell (.inl rfl) _ _) fun b hb=>by
      subst hb
      have:=HSUB.out b HRA.out.mh.1
      exact ⟨this.1,fun e=>this.2 (Option.some.inj e)⟩
    have hra2:RunAt (wr.setCell ⟨rk,n,none⟩ (.int .i64 ((at_:Int)+1))) (fun b=>(M b∨w.heap.size≤b)∧(Value.slice (some ⟨tg,0,none⟩) rest.length tc).ownBlock≠some b) x rv rk ⟨r'.l,r'.has.set n (at_+1)⟩:=
     RunAt.stamp (l:=r'.l) (h:=r'.has) HRA.out n (at_+1)
    have htd2:(wr.setCell ⟨rk,n,none⟩ (.int .i64 ((at_:Int)+1))).ownsRow w.heap.size 3 1 (.slice (some ⟨tg,0,none⟩) rest.length tc) rest.length (ints rest.reverse):=by
     have htd:=HIN.out.todo_
     rw [List.length_cons,List.reverse_cons,ints_app] at htd
     refine own_kept (S:=(·=rk)) (own_pop htd) ((Kept.refl (·=rk) wr).setCell (.inl rfl) _ _) fun k e e2=>?_
     obtain rfl:tg=k:=Option.some.inj e
     exact HRA.out.mh.2 (by rw [e2];rfl)
    have hkp2:Kept M w (wr.setCell ⟨rk,n,none⟩ (.int .i64 ((at_:Int)+1))):=by
     refine HIN.out.kept.setCell ?_ _ _
     rcases HRA.out.mh.1 with h | h
     ·exact .inl h
     ·exact .inr h
    obtain ⟨hp,hst,-⟩:=hpg2.at_ n hn
    have s0:=hst.kind
    have s1:=hst.has
    have s2:=hst.to_
    have s3:=hst.or_
    have q0:(wr.setCell ⟨rk,n,none⟩ (.int .i64 ((at_:Int)+1))).cell? ⟨q,0,none⟩=some (.slice (some ⟨g,0,none⟩) L.length c):=hpg2.blk.cell 0 rfl
    have x0:(wr.setCell ⟨rk,n,none⟩ (.int .i64 ((at_:Int)+1))).cell? ⟨x,0,none⟩=some rv:=hra2.blk.cell 0 rfl
    have fx0:=hra2.blk.free 0
    have hgn:=Mx.good_get HGO.out (n:=n) (by rw [sts_len];exact hn)
    have HS:Hid (∃ s,(sts L).getD n default=s):=⟨_,rfl⟩
    have hfits:=Mx.enter_fits (at_:=at_) HIN.out.fits (n:=n) (by rw [sts_len];exact hn)
    have hroom:=Mx.enter_room HIN.out.fits HIN.out.room (n:=n) (by rw [sts_len];exact hn) he
    have hleft:=Mx.enter_left HIN.out.fits (n:=n) (by rw [sts_len];exact hn) he
    have hlt:=Mx.onto_lt HGO.out (n:=n) (at_:=at_) (size:=size) (todo:=rest) (by rw [sts_len];exact hn) (fun m hm=>HIN.out.lt m (by simp [hm]))
    have HPUTF:=HIN.out.eq.out
    unfold Hid at HPUTF
    have HEQ:Hid (Mx.putF (sts L) at_ size (gk - 1) (Mx.onto ((sts L).getD n default) at_ size rest) (Mx.enter (sts L) at_ n r')=some R):=by show _=_;rw [← HNEW.out];exact HPUTF
    have HENT:Hid (Mx.enter (sts L) at_ n r'=⟨if Mx.stays ((sts L).getD n default) then r'.l ++ [n] else r'.l,r'.has.set n (at_+1)⟩):=rfl
    clear HPUTF HNEW hpgr hpg2 hst HS
    generalize Mx.enter (sts L) at_ n r'=r2 at *
    generalize (sts L).getD n default=s at *
    have HRA2:=Lib.hid hra2
    have HTD2:=Lib.hid htd2
    have HKP2:=Lib.hid hkp2
    have HLT:=Lib.hid hlt
    have HFI:=Lib.hid hfits
    have HRO:=Lib.hid hroom
    have hfu:=HIN.out.fuel
    rw [List.length_cons] at hfu
    have HMX:Hid (gk - 1≤2 * (sts L).length+2):=by have:=HIN.out.max;show _≤_;omega
    have HGN:=Lib.hid hgn
    have HLEFT:=Lib.hid hleft
    have HFU:=Lib.hid hfu
    have hei:¬ ((r'.has.getD n 0:Nat):Int)=(at_:Int)+1:=by omega
    clear hra2 htd2 hkp2 hlt hfits hroom he hgn hleft hfu HIN HRA
    generalize r'.has.getD n 0=hv at *
    by_cases k1:s.kind=1
    ·have HON:Hid (Mx.onto s at_ size rest=s.to :: s.or :: rest):=by show _=_;unfold Mx.onto;rw [if_pos k1]
     have HR2:Hid (r2=⟨r'.l,r'.has.set n (at_+1)⟩):=by
      show _=_
      rw [HENT.out,if_neg (by simp [Mx.stays,k1])]
     rw [k1] at s0
     clear k1 HENT
     go_wp2_with (at_builtin;refine wpList_append_own_at _ rfl _ _ 30 rfl w.heap.size 3 i0 (.int .i64 0) 1 8 Tryz.underlying30 hi hz0 hz1 hz2 rfl (by decide) _ _ _ rfl ((HTD2.out.alloc _).alloc _) ⟨wr.heap.size+1,0,none⟩ 2 2 [.int .i64 s.or,.int .i64 s.to] (by rfl) rfl (World.news_of_block (cs:=#[.int .i64 s.or,.int .i64 s.to]) (t:=3) (fr:=(0,0)) (alloc_two _ _ _ _ (by simp))) (by simp [Value.oneCell']) (by unfold maxLen;omega) (by omega) (by have:=HKP2.out.size;simp at this ⊢;omega) ?_;intro v' w5 hown' hgrow _ hv')
     have hpi:=putIn_push (tv':=v') (todo':=s.to :: s.or :: rest) (r2:=r2) (by show _=_;rw [← HON.out];exact HEQ.out) (by rw [HR2.out];exact HRA2.out) HKP2.out HTD2.out hgrow hv' (by simpa [ints] using hown') (by rw [← HON.out];exact HLT.out) HFI.out HRO.out (by have h1:=HLEFT.out;have h2:=HFU.out;unfold Hid at h1 h2;simp only [List.length_cons];omega) HMX.out
     have HPI:=Lib.hid hpi
     clear hpi hown' hgrow hv'
     go_roundg (gk - 1)
     case measure=>have h2:=HFU.out;unfold Hid at h2;omega
     case rel=>exact ⟨_,_,HPI.out⟩
    by_cases k2:s.kind=2
    ·have HR2:Hid (r2=⟨r'.l,r'.has.set n (at_+1)⟩):=by
      show _=_
      rw [HENT.out,if_neg (by simp [Mx.stays,k2])]
     by_cases h0:at_=0
     ·have HON:Hid (Mx.onto s at_ size rest=s.to :: rest):=by show _=_;unfold Mx.onto;simp [k2,h0]
      rw [k2] at s0
      have hat0:(((at_:Nat):Int) == 0)=true:=by simp;omega
      clear k1 k2 HENT  h0
      go_wp2_with (at_builtin;refine wpList_append_own_at _ rfl _ _ 30 rfl w.heap.size 3 i0 (.int .i64 0) 1 8 Tryz.underlying30 hi hz0 hz1 hz2 rfl (by decide) _ _ _ rfl ((HTD2.out.alloc _).alloc _) ⟨wr.heap.size+1,0,none⟩ 1 1 [.int .i64 s.to] (by rfl) rfl (World.news_of_block (cs:=#[.int .i64 s.to]) (t:=3) (fr:=(0,0)) (alloc_two _ _ _ _ (by simp))) (by simp [Value.oneCell']) (by unfold maxLen;omega) (by omega) (by have:=HKP2.out.size;simp at this ⊢;omega) ?_;intro v' w5 hown' hgrow _ hv')
      have hpi:=putIn_push (tv':=v') (todo':=s.to :: rest) (r2:=r2) (by show _=_;rw [← HON.out];exact HEQ.out) (by rw [HR2.out];exact HRA2.out) HKP2.out HTD2.out hgrow hv' (by simpa [ints] using hown') (by rw [← HON.out];exact HLT.out) HFI.out HRO.out (by have h1:=HLEFT.out;have h2:=HFU.out;unfold Hid at h1 h2;simp only [List.length_cons];omega) HMX.out
      have HPI:=Lib.hid hpi
      clear hpi hown' hgrow hv'
      go_roundg (gk - 1)
      case measure=>have h2:=HFU.out;unfold Hid at h2;omega
      case rel=>exact ⟨_,_,HPI.out⟩
     ·have HON:Hid (Mx.onto s at_ size rest=rest):=by show _=_;unfold Mx.onto;simp [k2,h0]
      rw [k2] at s0
      have hat0:¬ ((at_:Nat):Int)=0:=by omega
      clear k1 k2 HENT  h0
      have hpi:=fun O=>putIn_same (O:=O) (todo':=rest) (r2:=r2) (tv:=.slice (some ⟨tg,0,none⟩) rest.length tc) (by show _=_;rw [← HON.out];exact HEQ.out) (by rw [HR2.out];exact HRA2.out) HKP2.out HTD2.out (by rw [← HON.out];exact HLT.out) HFI.out HRO.out (by have h1:=HLEFT.out;have h2:=HFU.out;unfold Hid at h1 h2;omega) HMX.out
      have HPI:=Lib.hid hpi
      clear hpi
      go_wp2_with fail
      go_roundg (gk - 1)
      case measure=>have h2:=HFU.out;unfold Hid at h2;omega
      case rel=>exact ⟨_,_,HPI.out _⟩
    by_cases k3:s.kind=3
    ·have HR2:Hid (r2=⟨r'.l,r'.has.set n (at_+1)⟩):=by
      show _=_
      rw [HENT.out,if_neg (by simp [Mx.stays,k3])]
     by_cases h0:at_=size
     ·have HON:Hid (Mx.onto s at_ size rest=s.to :: rest):=by show _=_;unfold Mx.onto;simp [k3,h0]
      rw [k3] at s0
      have hat1:(((at_:Nat):Int) == ((size:Nat):Int))=true:=by simp;omega
      clear k1 k3 HENT k2 h0
      go_wp2_with (at_builtin;refine wpList_append_own_at _ rfl _ _ 30 rfl w.heap.size 3 i0 (.int .i64 0) 1 8 Tryz.underlying30 hi hz0 hz1 hz2 rfl (by decide) _ _ _ rfl ((HTD2.out.alloc _).alloc _) ⟨wr.heap.size+1,0,none⟩ 1 1 [.int .i64 s.to] (by rfl) rfl (World.news_of_block (cs:=#[.int .i64 s.to]) (t:=3) (fr:=(0,0)) (alloc_two _ _ _ _ (by simp))) (by simp [Value.oneCell']) (by unfold maxLen;omega) (by omega) (by have:=HKP2.out.size;simp at this ⊢;omega) ?_;intro v' w5 hown' hgrow _ hv')
      have hpi:=putIn_push (tv':=v') (todo':=s.to :: rest) (r2:=r2) (by show _=_;rw [← HON.out];exact HEQ.out) (by rw [HR2.out];exact HRA2.out) HKP2.out HTD2.out hgrow hv' (by simpa [ints] using hown') (by rw [← HON.out];exact HLT.out) HFI.out HRO.out (by have h1:=HLEFT.out;have h2:=HFU.out;unfold Hid at h1 h2;simp only [List.length_cons];omega) HMX.out
      have HPI:=Lib.hid hpi
      clear hpi hown' hgrow hv'
      go_roundg (gk - 1)
      case measure=>have h2:=HFU.out;unfold Hid at h2;omega
      case rel=>exact ⟨_,_,HPI.out⟩
     ·have HON:Hid (Mx.onto s at_ size rest=rest):=by show _=_;unfold Mx.onto;simp [k3,h0]
      rw [k3] at s0
      have hat1:¬ ((at_:Nat):Int)=(size:Nat):=by omega
      clear k1 k3 HENT k2 h0
      have hpi:=fun O=>putIn_same (O:=O) (todo':=rest) (r2:=r2) (tv:=.slice (some ⟨tg,0,none⟩) rest.length tc) (by show _=_;rw [← HON.out];exact HEQ.out) (by rw [HR2.out];exact HRA2.out) HKP2.out HTD2.out (by rw [← HON.out];exact HLT.out) HFI.out HRO.out (by have h1:=HLEFT.out;have h2:=HFU.out;unfold Hid at h1 h2;omega) HMX.out
      have HPI:=Lib.hid hpi
      clear hpi
      go_wp2_with fail
      go_roundg (gk - 1)
      case measure=>have h2:=HFU.out;unfold Hid at h2;omega
      case rel=>exact ⟨_,_,HPI.out _⟩
    have HR2:Hid (r2=⟨r'.l ++ [n],r'.has.set n (at_+1)⟩):=by
     show _=_
     rw [HENT.out,if_pos (by simp [Mx.stays,k1,k2,k3])]
    have HON:Hid (Mx.onto s at_ size rest=rest):=by show _=_;unfold Mx.onto;simp [k1,k2,k3]
    have k1':¬ ((s.kind:Nat):Int)=1:=by omega
    have k2':¬ ((s.kind:Nat):Int)=2:=by omega
    have k3':¬ ((s.kind:Nat):Int)=3:=by omega
    clear k1 k2 k3 HENT
    have x3:=new_cell x0
    have fx3:=new_frozen x0 fx0
    have hll:r'.l.length≤1000000:=by
     have h1:=HRO.out
     rw [HR2.out] at h1
     unfold Mx.Room at h1
     rw [sts_len] at h1
     simp only [List.length_append,List.length_singleton] at h1
     omega
    have hown:=HRA2.out.l
    simp only at hown
    go_wp2_with (at_builtin;refine wpList_append_own_at _ rfl _ _ 30 rfl 0 3 i0 (.int .i64 0) 1 8 Tryz.underlying30 hi hz0 hz1 hz2 rfl (by decide) _ _ _ rfl ((hown.alloc _).alloc _) ⟨wr.heap.size+1,0,none⟩ 1 1 [.int .i64 n] (by rfl) rfl (World.news_of_block (cs:=#[.int .i64 n]) (t:=3) (fr:=(0,0)) (alloc_two _ _ _ _ (by simp))) (by simp [Value.oneCell']) (by unfold maxLen;omega) (by omega) (Nat.zero_le _) ?_;intro v' w5 hown' hgrow _ hv';obtain ⟨g5,c5,rfl⟩:=own_form1 hown';have hgrow2:World.grownBy _ w5 rv.ownBlock:=hgrow;have hbk:=blk_grown ((HRA2.out.blk.alloc _).alloc _) hgrow2 HRA2.out.xl;have y5:w5.cell? ⟨x,0,none⟩=some rv:=hbk.cell 0 rfl;have z5:=hbk.free 0;clear hbk hgrow)
    have hpi:=putIn_more (tv:=.slice (some ⟨tg,0,none⟩) rest.length tc) (todo':=rest) (r2:=r2) (by show _=_;rw [← HON.out];exact HEQ.out) HRA2.out HR2.out HKP2.out HTD2.out (((Kept.refl _ _).alloc _).alloc _) hgrow2 hown' hv' (by rw [← HON.out];exact HLT.out) HFI.out HRO.out (by have h1:=HLEFT.out;have h2:=HFU.out;unfold Hid at h1 h2;omega) HMX.out
    have HPI:=Lib.hid hpi
    clear hpi hown' hgrow2 hv'
    go_roundg (gk - 1)
    case measure=>have h2:=HFU.out;unfold Hid at h2;omega
    case rel=>exact ⟨_,_,HPI.out⟩
end Go.Proofs.YtefpcacnblaokaaGreatDoor.Rg
