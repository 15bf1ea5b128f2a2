/-
  Texts of this seat put together: GM7, GM8, GM9, Sd1, Sd2, Sd3.
-/
import Derived.Test.YtefpcacnblaokaaGreatDoorQ19
import Derived.Deep.OwnRows
import Derived.WalkMore
import Derived.BigRegion
import Derived.Lib.ConvBytes
import Derived.Test.YtefpcacnblaokaaGreatDoorQ11
import Derived.Test.YtefpcacnblaokaaGreatDoorQ4
import Derived.Shelf.Strings.SlTrimAscii
import Derived.Shelf.Strings.IndexAnyAll
import Derived.Lib.QuietBelow

/-
  The walk of longest. Condition: the states and the bytes lie in memory.
-/
set_option maxRecDepth 100000
set_option maxHeartbeats 6400000
namespace Go.Proofs.YtefpcacnblaokaaGreatDoor.Rg
open Go.RowKit Go.Shelf Go.Maps
variable {lo:Nat}
def longVal:Option Nat→Value
 | some z=>.tuple #[.int .i64 z,.bool true]
 | none=>.tuple #[.int .i64 0,.bool false]
theorem run_zero (w:World) (n:Nat) (hn:n≤1000000):RunAt ((w.alloc (.cells (madeCells #[.int .i64 0] n) 3)).alloc (.cells #[.slice none 0 0,.slice (some ⟨w.heap.size,0,none⟩) n n] 424))
  (fun b=>b=w.heap.size∨b=w.heap.size+1) (w.heap.size+1) (.slice none 0 0) w.heap.size ⟨[],List.replicate n 0⟩:=by
 have hsz:(w.alloc (.cells (madeCells #[.int .i64 0] n) 3)).heap.size=w.heap.size+1:=by simp
 have hb:=Blk.new (w.alloc (.cells (madeCells #[.int .i64 0] n) 3)) #[.slice none 0 0,.slice (some ⟨w.heap.size,0,none⟩) n n] 424
 rw [hsz] at hb
 have ho:=World.ownsRow_lit (base:=0) (size:=1) (e:=3) w (madeCells #[.int .i64 0] n) n (Nat.zero_le _) (by unfold maxLen;omega) (by rw [size_madeCells];simp)
 rw [toList_madeCells_one] at ho
 have hl:(List.replicate n 0).length=n:=by simp
 refine ⟨by simpa using hb,World.ownsRow_nil _ _ _ _, ?_,.inr rfl,.inl rfl,fun b e=>by simp [Value.ownBlock] at e,by omega,by simp [Value.ownBlock],by simp [Value.ownBlock]⟩
 simp only [List.length_replicate]
 have h2:=ho.alloc (.cells #[.slice none 0 0,.slice (some ⟨w.heap.size,0,none⟩) n n] 424)
 have e:ints (List.replicate n 0)=List.replicate n (.int .i64 0):=by simp [ints]
 rw [e]
 exact h2
theorem RunAt.clear {M:Nat→Prop} {w:World} {x hk:Nat} {v v':Value} {r:Mx.Run} (h:RunAt w M x v hk r) (hv:v'=.slice none 0 0∨∃ g n c,v=.slice (some ⟨g,0,none⟩) n c∧v'=.slice (some ⟨g,0,none⟩) 0 c) :
  RunAt (w.setCell ⟨x,0,none⟩ v') M x v' hk ⟨[],r.has⟩∧Kept M w (w.setCell ⟨x,0,none⟩ v'):=by
 have hs:Kept (·=x) w (w.setCell ⟨x,0,none⟩ v'):=(Kept.refl (·=x) w).setCell (.inl rfl) _ _
 have hob:∀ k,v'.ownBlock=some k→v.ownBlock=some k:=by
  intro k e
  rcases hv with rfl | ⟨g,n,c,rfl,rfl⟩
  ·simp [Value.ownBlock] at e
  ·exact e
 have hown:w.ownsRow 0 3 1 v' 0 []:=by
  rcases hv with rfl | ⟨g,n,c,rfl,rfl⟩
  ·exact World.ownsRow_nil _ _ _ _
  ·obtain ⟨h1,⟨h2,-⟩ | ⟨g',cap,cur,e,hg,hb,hc,hm,hs,-⟩⟩:=h.l
   ·simp at h2
   ·simp only [Value.slice.injEq,Option.some.injEq,Addr.mk.injEq,and_true] at e
    obtain ⟨rfl,-,rfl⟩:=e
    exact ⟨rfl,.inr ⟨g,c,cur,rfl,hg,hb,Nat.zero_le _,hm,hs,by simp⟩⟩
 refine ⟨⟨h.blk.set 0 v',own_kept hown hs fun k e e2=>h.xl (e2 ▸ hob k e),own_kept h.has hs fun k e e2=>?_,h.mx,h.mh,fun k e=>h.ml k (hob k e),h.xh,fun e=>h.xl (hob _ e),fun e=>h.lh (hob _ e)⟩,hs.mono fun k _ e=>e ▸ h.mx⟩
 obtain rfl:hk=k:=Option.some.inj e
 exact h.xh e2.symm
structure LgIn (P:List Mx.St) (b:Rx.Bytes) (R:Option Nat) (w wr:World) (at_:Nat) (x1 x2:Nat) (now next:Mx.Run) (last:Option Nat):Prop where
 eq:Hid (Mx.run P b (b.length - at_+1) at_ now next last=R)
 runs:∃ M1 M2:Nat→Prop,RunIn wr M1 x1 now∧RunIn wr M2 x2 next∧(∀ k,M1 k→¬ M2 k)∧(∀ k,M1 k→w.heap.size≤k∧k < wr.heap.size)∧(∀ k,M2 k→w.heap.size≤k∧k < wr.heap.size)
 le:at_≤b.length
 bel:Below w.heap.size w wr
 f1:Mx.Fits P now
 f2:Mx.Fits P next
 l1:now.l.length≤P.length
structure PlIn (P:List Mx.St) (b:Rx.Bytes) (A:Mx.Run × Option Nat) (w wr:World) (at_ x1 x2 rk1 i:Nat) (rv1:Value) (now nx:Mx.Run) (last:Option Nat):Prop where
 eq:Hid (Mx.round P b at_ (now.l.drop i) nx last=A)
 runs:∃ M1 M2:Nat→Prop,RunAt wr M1 x1 rv1 rk1 now∧RunIn wr M2 x2 nx∧(∀ k,M1 k→¬ M2 k)∧(∀ k,M1 k→w.heap.size≤k∧k < wr.heap.size)∧(∀ k,M2 k→w.heap.size≤k∧k < wr.heap.size)
 bel:Below w.heap.size w wr
 fits:Mx.Fits P nx
 room:Mx.Room P (at_+1) nx
 le:i≤now.l.length
theorem PlIn.next {P:List Mx.St} {b:Rx.Bytes} {A A':Mx.Run × Option Nat} {w wr W:World} {at_ x1 x2 rk1 i:Nat} {rv1:Value} {now nx:Mx.Run} {l2 l3:Option Nat} (h:PlIn P b A w wr at_ x1 x2 rk1 i rv1 now nx l2)
  (heq:Hid (Mx.round P b at_ (now.l.drop (i+1)) nx l3=A')) (hi:i < now.l.length) (hk:Kept (fun _=>False) wr W):PlIn P b A' w W at_ x1 x2 rk1 (i+1) rv1 now nx l3:=by
 obtain ⟨T1,T2,t1,⟨v2,k2,t2⟩,td,tm1,tm2⟩:=h.runs
 exact ⟨heq,⟨T1,T2,t1.kept hk fun _ _ h=>h,⟨v2,k2,t2.kept hk fun _ _ h=>h⟩,td,fun k hk'=>⟨(tm1 k hk').1,Nat.lt_of_lt_of_le (tm1 k hk').2 hk.size⟩,fun k hk'=>⟨(tm2 k hk').1,Nat.lt_of_lt_of_le (tm2 k hk').2 hk.size⟩⟩,
  h.bel.trans (hk.below.mono h.bel.size),h.fits,h.room,hi⟩
theorem drop_nat (l:List Nat) (i:Nat) (hi:i < l.length):l.drop i=l.getD i 0 :: l.drop (i+1):=by
 rw [List.drop_eq_getElem_cons hi]
 simp [List.getD_eq_getElem?_getD,List.getElem?_eq_getElem hi]
def foundV (last:Option Nat):Value:=.bool last.isSome
def lastV (last:Option Nat):Value:=.int .i64 (last.getD 0:Nat)
theorem longVal_eq (last:Option Nat):longVal last=.tuple #[lastV last,foundV last]:=by cases last <;> rfl
theorem run_step (P:List Mx.St) (b:Rx.Bytes) (at_:Nat) (now next nx:Mx.Run) (last l2 R:Option Nat) (hn:now.l≠[]) (hle:at_≤b.length) (h:Mx.run P b (b.length - at_+1) at_ now next last=R) (hr:Mx.round P b at_ now.l ⟨[],next.has⟩ last=(nx,l2)) :
  (at_=b.length→l2=R)∧(at_≠b.length→Mx.run P b (b.length - (at_+1)+1) (at_+1) nx now l2=R):=by
 rw [Mx.run,if_neg hn] at h
 simp only [hr] at h
 constructor
 ·intro e
  rwa [if_pos e] at h
 ·intro e
  rw [if_neg e] at h
  rwa [show b.length - at_=b.length - (at_+1)+1 by omega] at h
theorem longest_any (q start from_ bc:Nat) (v:Value) (L:Sts) (b:Rx.Bytes) (bp:Option Addr) (w:World) (hpg:Pg lo w q v start L) (hgo:Mx.Good (sts L)) (hkd:Mx.Kinds (sts L)) (hL:L.length≤1000000) (hst:start < L.length)
  (hbs:Bs w bp b) (hbl:b.length≤1000000000) (hfr:from_≤b.length) :
  Calls Tryz.prog 302 #[.pointer (some ⟨q,0,none⟩),.slice bp b.length bc,.int .i64 from_] w fun e w'=>e=.returned (longVal (Mx.longest (sts L) start b from_))∧Below w.heap.size w w':=by
 generalize hR:Mx.longest (sts L) start b from_=R
 have HRUN:Hid (Mx.run (sts L) b (b.length - from_+1) from_ (Mx.put (sts L) (Mx.zero (sts L)) start from_ b.length) (Mx.zero (sts L)) none=R):=hR
 clear hR
 obtain ⟨g,c,rfl,hqg,hgc⟩:=hpg.form (by omega)
 have q0:w.cell? ⟨q,0,none⟩=some (.slice (some ⟨g,0,none⟩) L.length c):=hpg.blk.cell 0 rfl
 have q1:w.cell? ⟨q,1,none⟩=some (.int .i64 start):=hpg.blk.cell 1 rfl
 have r0:∀ x y,((w.alloc x).alloc y).cell? ⟨q,0,none⟩=some (.slice (some ⟨g,0,none⟩) L.length c):=fun x y=>((hpg.blk.alloc x).alloc y).cell 0 rfl
 have r1:∀ x y z u,((((w.alloc x).alloc y).alloc z).alloc u).cell? ⟨q,1,none⟩=some (.int .i64 start):=fun x y z u=>((((hpg.blk.alloc x).alloc y).alloc z).alloc u).cell 1 rfl
 have HPG:=Lib.hid hpg
 have HGO:=Lib.hid hgo
 have HBS:=Lib.hid hbs
 have HKD:=Lib.hid hkd
 clear hpg hgo hbs hkd
 obtain ⟨i0,hi,hz0,hz1,hz2⟩:=info_parts info_int
 go_enter Tryz.func302,Tryz.ntmps302
 go_wp2_with fail
 go_step3
 go_wp2_with (refine wpList_make_row _ rfl _ _ 30 rfl 3 i0 (.int .i64 0) Tryz.underlying30 hi hz0 hz1 rfl .i64 .i64 L.length rfl rfl (by rw [hz2];omega) (by omega) ?_)
 have hA:=run_zero w L.length hL
 have hs2:((w.alloc (.cells (madeCells #[.int .i64 0] L.length) 3)).alloc (.cells #[.slice none 0 0,.slice (some ⟨w.heap.size,0,none⟩) L.length L.length] 424)).heap.size=w.heap.size+1+1:=by simp
 have hB:=run_zero ((w.alloc (.cells (madeCells #[.int .i64 0] L.length) 3)).alloc (.cells #[.slice none 0 0,.slice (some ⟨w.heap.size,0,none⟩) L.length L.length] 424)) L.length hL
 rw [hs2] at hB
 have hA4:=hA.kept (S:=fun _=>False) (((Kept.refl _ _).alloc (.cells (madeCells #[.int .i64 0] L.length) 3)).alloc (.cells #[.slice none 0 0,.slice (some ⟨w.heap.size+1+1,0,none⟩) L.length L.length] 424)) (fun _ _ h=>h)
 have hk4:Kept (fun _=>False) w ((((w.alloc (.cells (madeCells #[.int .i64 0] L.length) 3)).alloc (.cells #[.slice none 0 0,.slice (some ⟨w.heap.size,0,none⟩) L.length L.length] 424)).alloc (.cells (madeCells #[.int .i64 0] L.length) 3)).alloc (.cells #[.slice none 0 0,.slice (some ⟨w.heap.size+1+1,0,none⟩) L.length L.length] 424)):=((((Kept.refl _ w).alloc _).alloc _).alloc _).alloc _
 have hs4:((((w.alloc (.cells (madeCells #[.int .i64 0] L.length) 3)).alloc (.cells #[.slice none 0 0,.slice (some ⟨w.heap.size,0,none⟩) L.length L.length] 424)).alloc (.cells (madeCells #[.int .i64 0] L.length) 3)).alloc (.cells #[.slice none 0 0,.slice (some ⟨w.heap.size+1+1,0,none⟩) L.length L.length] 424)).heap.size=w.heap.size+4:=by simp
 clear r0 r1 hs2 hA
 generalize ((((w.alloc (.cells (madeCells #[.int .i64 0] L.length) 3)).alloc (.cells #[.slice none 0 0,.slice (some ⟨w.heap.size,0,none⟩) L.length L.length] 424)).alloc (.cells (madeCells #[.int .i64 0] L.length) 3)).alloc (.cells #[.slice none 0 0,.slice (some ⟨w.heap.size+1+1,0,none⟩) L.length L.length] 424))=w4 at *
 have hqw:=HPG.out.blk.lt
 have hgw:=(HPG.out.own.lt g rfl).2
 have hpg4:=HPG.out.kept hk4 fun b hb=>hb.elim
 have hz:(⟨[],List.replicate L.length 0⟩:Mx.Run)=Mx.zero (sts L):=by simp [Mx.zero,sts_len]
 rw [hz] at hA4 hB
 have hput:=put_any q (w.heap.size+1) start from_ b.length _ start L _ (Mx.zero (sts L)) w4 hpg4 HGO.out hL hst ⟨_,_,hA4⟩ (by
  rintro k (rfl | rfl)
  ·exact ⟨hqw,fun e=>by have:=Option.some.inj e;simp at this;omega,by omega⟩
  ·exact ⟨by omega,fun e=>by have:=Option.some.inj e;simp at this;omega,by omega⟩) (Mx.Fits.zero _) (Mx.room_clear _ _ _ (Mx.Fits.zero _)) ⟨by omega,by omega⟩
 have hok:=Mx.put_ok (sts L) HGO.out (Mx.zero (sts L)) start from_ b.length (by rw [sts_len];exact hst) (Mx.Fits.zero _)
 have hro:=Mx.put_room (sts L) HGO.out (Mx.zero (sts L)) start from_ b.length (by rw [sts_len];exact hst) (Mx.Fits.zero _) (Mx.room_clear _ _ _ (Mx.Fits.zero _))
 have HFI:=Lib.hid hok.2
 have HRO:=Lib.hid hro
 have HB:=Lib.hid hB
 have HK4:=Lib.hid hk4
 clear hA4 hB hk4 hpg4 hok hro hz
 generalize Mx.put (sts L) (Mx.zero (sts L)) start from_ b.length=now0 at *
 refine hput.mono ?_
 rintro e w5 ⟨⟨rfl,hrun5⟩,hk5⟩
 have hs5:=hk5.size
 have hb5:Below w.heap.size w w5:=(HK4.out.trans' hk5 (fun k hk e=>by
  rcases e with rfl | rfl <;> omega)).below
 obtain ⟨rv5,rk5,hra5⟩:=hrun5
 have hlg:LgIn (sts L) b R w w5 from_ (w.heap.size+1) (w.heap.size+1+1+1) now0 (Mx.zero (sts L)) none:=by
  refine ⟨HRUN.out,⟨_,_,⟨_,_,hra5.lt⟩,⟨_,_,(HB.out.kept hk5 ?_).lt⟩, ?_, ?_, ?_⟩,hfr,hb5,HFI.out,Mx.Fits.zero _,by have:=HRO.out;unfold Mx.Room at this;omega⟩
  ·rintro k (rfl | rfl) h
   ·rcases h with h | h <;> omega
   ·rcases h with h | h <;> omega
  ·rintro k ⟨(h | h),-⟩ ⟨h2,-⟩
   ·rcases h with rfl | rfl <;> rcases h2 with h2 | h2 <;> omega
   ·rcases h2 with rfl | rfl <;> omega
  ·rintro k ⟨(h | h),h3⟩
   ·rcases h with rfl | rfl
    ·exact ⟨Nat.le_refl _,h3⟩
    ·exact ⟨by omega,h3⟩
   ·exact ⟨by omega,h3⟩
  ·rintro k ⟨h,h3⟩
   rcases h with rfl | rfl
   ·exact ⟨by omega,h3⟩
   ·exact ⟨by omega,h3⟩
 have HLG:=Lib.hid hlg
 clear hlg hra5 hb5 hk5 HB HRO HFI HK4 HRUN hput hs5 hs4 q0 q1
 go_wp2_with fail
 go_step3
 go_wp2_with fail
 have HST:Hid (∃ n:Nat,n=now0.l.length):=⟨_,rfl⟩
 go_loopw [8,9,10,11,12] (fun x8 x9 x10 x11 x12 wr=>∃ (at_ x1 x2:Nat) (now next:Mx.Run) (last:Option Nat),x8=.pointer (some ⟨x1,0,none⟩)∧x9=.pointer (some ⟨x2,0,none⟩)∧x10=lastV last∧x11=foundV last∧x12=.int .i64 at_∧LgIn (sts L) b R w wr at_ x1 x2 now next last) (fun _ _ _ _ x12 _=>b.length+1 - (intOf x12).toNat)
 case atStart=>exact ⟨from_,_,_,now0,_,none,rfl,rfl,rfl,rfl,rfl,HLG.out⟩
 case round=>
  clear HLG HST
  obtain ⟨at_,x1,x2,now,next,last,rfl,rfl,rfl,rfl,rfl,hin⟩:=hrel
  have hle:=hin.le
  obtain ⟨M1,M2,⟨rv1,rk1,h1⟩,⟨rv2,rk2,h2⟩,hd,hm1,hm2⟩:=hin.runs
  have c1:wr.cell? ⟨x1,0,none⟩=some rv1:=h1.blk.cell 0 rfl
  have c2:wr.cell? ⟨x2,0,none⟩=some rv2:=h2.blk.cell 0 rfl
  have f2:=h2.blk.free 0
  have HIN:=Lib.hid hin
  have H1:=Lib.hid h1
  have H2:=Lib.hid h2
  have HD:=Lib.hid hd
  have HM1:=Lib.hid hm1
  have HM2:=Lib.hid hm2
  by_cases hn:now.l=[]
  ·have HR:Hid (last=R):=by
    have h:=hin.eq.out
    unfold Hid at h
    rw [Mx.run,if_pos hn] at h
    exact h
   have hz:now.l.length=0:=by rw [hn];rfl
   have hown:=h1.l
   clear hin h1 h2 hd hm1 hm2 hn
   rcases own_form' hown with ⟨rfl,-⟩ | ⟨g1,c1',rfl,-,-⟩
   ·clear hown hz
    go_wp2_with fail
    rw [Exit.noGoto_ret]
    go_ret2
    rw [← HR.out,longVal_eq]
    exact ⟨rfl,HIN.out.bel⟩
   ·rw [hz] at c1
    clear hown hz
    go_wp2_with fail
    rw [Exit.noGoto_ret]
    go_ret2
    rw [← HR.out,longVal_eq]
    exact ⟨rfl,HIN.out.bel⟩
  ·obtain ⟨N,hN⟩:∃ N,now.l.length=N+1:=⟨now.l.length - 1,by have:=List.length_pos_iff.2 hn;omega⟩
   have hNb:N≤1000000:=by have:=hin.l1;rw [sts_len] at this;omega
   have hown1:=h1.l
   have hown2:=h2.l
   rw [hN] at hown1
   obtain ⟨g1,c1',rfl⟩:=own_form1 hown1
   clear hin h1 h2 hd hm1 hm2 hown1
   go_upto_region 8 with fail
   go_cut [55,56] (fun _ _ wx=>∃ v',RunAt wx M2 x2 v' rk2 ⟨[],next.has⟩∧Kept M2 wr wx)
   case first=>
    rcases own_form' hown2 with ⟨rfl,-⟩ | ⟨g2,c2',rfl,-,hgc2⟩
    ·go_wp2_with fail
     go_meet
     exact ⟨_,H2.out.clear (.inl rfl)⟩
    ·go_wp2_with fail
     go_meet
     exact ⟨_,H2.out.clear (.inr ⟨g2,_,c2',rfl,rfl⟩)⟩
   case rest=>
    obtain ⟨v',h2c,hkc⟩:=hcut
    have h1c:=H1.out.kept hkc fun k hk h=>HD.out k hk h
    have hsz:=hkc.size
    have hin:PlIn (sts L) b (Mx.round (sts L) b at_ now.l ⟨[],next.has⟩ last) w wc at_ x1 x2 rk1 0 (.slice (some ⟨g1,0,none⟩) (N+1) c1') now ⟨[],next.has⟩ last:=by
     refine ⟨rfl,⟨M1,M2,h1c,⟨v',rk2,h2c⟩,HD.out,fun k hk=>⟨(HM1.out k hk).1,Nat.lt_of_lt_of_le (HM1.out k hk).2 hsz⟩,fun k hk=>⟨(HM2.out k hk).1,Nat.lt_of_lt_of_le (HM2.out k hk).2 hsz⟩⟩, ?_,HIN.out.f2.clear,Mx.room_clear _ _ _ HIN.out.f2,Nat.zero_le _⟩
     exact ((Kept.of_below (S:=fun _=>False) HIN.out.bel).trans' hkc fun k hk h=>by have:=(HM2.out k h).1;omega).below
    have d1:wc.cell? ⟨x1,0,none⟩=some (.slice (some ⟨g1,0,none⟩) (N+1) c1'):=h1c.blk.cell 0 rfl
    have HPL:=Lib.hid hin
    clear hin h2c hkc h1c c1 c2 f2 hown2
    go_wp2_with fail
    obtain ⟨A,hA⟩:∃ A,Mx.round (sts L) b at_ now.l ⟨[],next.has⟩ last=A:=⟨_,rfl⟩
    rw [hA] at HPL
    have HA:=Lib.hid hA
    clear hA
    go_loopw [10,11,14,15,64] (fun x10 x11 _x14 _x15 x64 wx=>∃ (i:Nat) (nx:Mx.Run) (l2:Option Nat),x10=lastV l2∧x11=foundV l2∧x64=.int .i64 i∧PlIn (sts L) b A w wx at_ x1 x2 rk1 i (.slice (some ⟨g1,0,none⟩) (N+1) c1') now nx l2) (fun _ _ _ _ x64 _=>N+1 - (intOf x64).toNat)
    case atStart=>exact ⟨0,_,last,rfl,rfl,rfl,HPL.out⟩
    case round=>
     clear HPL d1
     obtain ⟨i,nx,l2,rfl,rfl,rfl,hpl⟩:=hrel
     have hile:=hpl.le
     obtain ⟨T1,T2,t1,t2,td,tm1,tm2⟩:=hpl.runs
     by_cases hlt:i < N+1
     ·have ci:wr.cell? ⟨g1,i,none⟩=some (.int .i64 (now.l.getD i 0)):=by
       have:=World.ownsRow.cellAt (n:=N+1) (hN ▸ t1.l) i (by omega)
       rw [this,ints_get _ _ (by omega)]
      have hdrop:=drop_nat now.l i (by omega)
      have hmem:now.l.getD i 0 ∈ now.l:=by
       rw [List.getD_eq_getElem?_getD,List.getElem?_eq_getElem (show i < now.l.length by omega)]
       exact List.getElem_mem _
      have hfit:=HIN.out.f1.2 _ hmem
      have HEQ:=hpl.eq.out
      unfold Hid at HEQ
      rw [hdrop] at HEQ
      generalize now.l.getD i 0=n at *
      have hnl:n < L.length:=by rw [← sts_len];exact hfit.1
      have hpgr:=HPG.out.kept (Kept.of_below (S:=fun _=>False) hpl.bel) fun b hb=>hb.elim
      have r0:wr.cell? ⟨q,0,none⟩=some (.slice (some ⟨g,0,none⟩) L.length c):=hpgr.blk.cell 0 rfl
      obtain ⟨hp,hsa,hget⟩:=hpgr.at_ n hnl
      have s0:=hsa.kind
      have s1:=hsa.has
      have s2:=hsa.to_
      have s3:=hsa.or_
      have hstay:=hfit.2
      have hk4:=Mx.kinds_get HKD.out n
      have hgn:=(Mx.good_get HGO.out (n:=n) hfit.1).1
      rw [sts_len] at hgn
      have hhas:=hpgr.has _ (List.mem_of_getElem? hget)
      have HOV:Hid (∀ (last:Option Nat),((sts L).getD n default).kind=4→Mx.round (sts L) b at_ (n :: now.l.drop (i+1)) nx last=Mx.round (sts L) b at_ (now.l.drop (i+1)) nx (some at_)):=fun last h=>Mx.round_over _ _ _ _ _ _ _ h
      have HPU:=Lib.hid (Mx.round_put (sts L) b at_ n (now.l.drop (i+1)) nx l2)
      have HNO:=Lib.hid (Mx.round_no (sts L) b at_ n (now.l.drop (i+1)) nx l2)
      simp only at hhas
      generalize (sts L).getD n default=sn at *
      have HPL:=Lib.hid hpl
      have HE:=Lib.hid HEQ
      have i1:(n:Int) < (L.length:Int):=by omega
      have i2:(i:Int) < ((N+1:Nat):Int):=by omega
      clear hpl t1 t2 td tm1 tm2 hdrop hmem hfit HEQ hpgr hsa hget
      by_cases h4:sn.kind=4
      ·have HEQ2:Hid (Mx.round (sts L) b at_ (now.l.drop (i+1)) nx (some at_)=A):=by show _=_;rw [← HOV.out l2 h4];exact HE.out
       rw [h4] at s0
       clear h4 hstay hk4 hgn hhas
       go_wp2_with fail
       refine ⟨⟨i+1,nx,some at_,rfl,rfl,by go_num,HPL.out.next HEQ2 (by omega) ((Kept.refl _ _).alloc _)⟩, ?_⟩
       show N+1 - ((i:Int)+1).toNat < N+1 - (i:Int).toNat
       omega
      ·have k0:sn.kind=0:=by
        simp [Mx.stays] at hstay
        omega
       obtain ⟨hb,rfl,hbq,hha⟩:=hhas k0
       have HPU2:=Lib.hid (HPU.out h4)
       have HNO2:=Lib.hid (HNO.out h4)
       have h0:¬ ((sn.kind:Nat):Int)=4:=by omega
       clear hstay hk4 h4 k0 hhas HPU HNO HOV
       go_upto_region 15 with fail
       go_cut [79,80,81,82,83,84,85,86,87,88,89,90,91,92,93] (fun _ _ _ _ _ _ _ _ _ _ _ _ _ _ s93 wx=>s93=.bool (decide (at_ < b.length) && sn.has (b.getD at_ 0))∧Kept (fun _=>False) (wr.alloc (.cells #[.int .i64 sn.kind,.pointer (some ⟨hb,1,none⟩),.int .i64 sn.to,.int .i64 sn.or] 287)) wx)
       case first=>
        have d0:=Blk.new wr #[.int .i64 sn.kind,.pointer (some ⟨hb,1,none⟩),.int .i64 sn.to,.int .i64 sn.or] 287
        have d1:(wr.alloc (.cells #[.int .i64 sn.kind,.pointer (some ⟨hb,1,none⟩),.int .i64 sn.to,.int .i64 sn.or] 287)).cell? ⟨wr.heap.size,1,none⟩=some (.pointer (some ⟨hb,1,none⟩)):=d0.cell 1 rfl
        by_cases hal:at_ < b.length
        ·have hb2:=HBS.out.below HPL.out.bel (Nat.le_refl _)
         obtain ⟨bb,bo,rfl,hbc⟩:=hb2 (by omega)
         have cb:=new_cell (hbc at_ hal)
         have ch:=new_cell (hha (b.getD at_ 0).toNat (by have:=(b.getD at_ 0).toNat_lt;omega))
         rw [show UInt8.ofNat (b.getD at_ 0).toNat=b.getD at_ 0 by simp] at ch
         have HD:Hid (decide (at_ < b.length)=true):=decide_eq_true hal
         have y1:((b.getD at_ 0).toNat:Int) < 256:=by have:=(b.getD at_ 0).toNat_lt;omega
         have y2:(at_:Int) < (b.length:Int):=by omega
         generalize b.getD at_ 0=y at *
         clear hbc hha hb2
         go_wp2_with fail
         go_region
         go_wp2_with fail
         go_meet
         exact ⟨by rw [HD.out,Bool.true_and],(Kept.refl _ _).drew⟩
        ·have HD:Hid (decide (at_ < b.length)=false):=decide_eq_false hal
         go_wp2_with fail
         go_region
         go_wp2_with fail
         go_meet
         exact ⟨by rw [HD.out,Bool.false_and],(Kept.refl _ _).drew⟩
       case rest=>
        obtain ⟨rfl,hkw⟩:=hcut
        have hk0:Kept (fun _=>False) wr wc:=((Kept.refl _ wr).alloc _).trans hkw
        have e2:wc.cell? ⟨wr.heap.size,2,none⟩=some (.int .i64 sn.to):=((Blk.new wr #[.int .i64 sn.kind,.pointer (some ⟨hb,1,none⟩),.int .i64 sn.to,.int .i64 sn.or] 287).kept hkw id).cell 2 rfl
        have HK0:=Lib.hid hk0
        clear hkw hk0 ci r0 s0 s1 s2 s3 hha
        cases hon:decide (at_ < b.length) && sn.has (b.getD at_ 0) with
        | false=>
         have HEQ2:Hid (Mx.round (sts L) b at_ (now.l.drop (i+1)) nx l2=A):=by show _=_;rw [← HNO2.out hon];exact HE.out
         clear hon
         go_wp2_with fail
         refine ⟨⟨i+1,nx,l2,rfl,rfl,by go_num,HPL.out.next HEQ2 (by omega) HK0.out⟩, ?_⟩
         show N+1 - ((i:Int)+1).toNat < N+1 - (i:Int).toNat
         omega
        | true=>
         have HEQ2:Hid (Mx.round (sts L) b at_ (now.l.drop (i+1)) (Mx.put (sts L) nx sn.to (at_+1) b.length) l2=A):=by show _=_;rw [← HPU2.out hon];exact HE.out
         have hpc:=HPL.out.next (l3:=l2) (A':=Mx.round (sts L) b at_ (now.l.drop (i+1)) nx l2) rfl (by omega) HK0.out
         obtain ⟨T1,T2,t1,t2,td,tm1,tm2⟩:=hpc.runs
         have hpgc:=HPG.out.kept (Kept.of_below (S:=fun _=>False) hpc.bel) fun b hb=>hb.elim
         have hput:=put_any q x2 sn.to (at_+1) b.length _ start L T2 nx wc hpgc HGO.out hL hgn t2 (fun k hk=>⟨by have:=(tm2 k hk).1;omega,fun e=>by have:=Option.some.inj e;have:=(tm2 k hk).1;simp at *;omega,(tm2 k hk).2⟩) hpc.fits hpc.room ⟨by omega,by omega⟩
         have HPC:=Lib.hid hpc
         have HT1:=Lib.hid t1
         have HTD:=Lib.hid td
         have HTM1:=Lib.hid tm1
         have HTM2:=Lib.hid tm2
         have HFIT:=Lib.hid (Mx.put_ok (sts L) HGO.out nx sn.to (at_+1) b.length (by rw [sts_len];exact hgn) hpc.fits).2
         have HROOM:=Lib.hid (Mx.put_room (sts L) HGO.out nx sn.to (at_+1) b.length (by rw [sts_len];exact hgn) hpc.fits hpc.room)
         generalize Mx.put (sts L) nx sn.to (at_+1) b.length=nx2 at *
         clear hon hpc t1 t2 td tm1 tm2 hpgc
         go_wp2_with fail
         refine hput.mono ?_
         rintro e w5 ⟨⟨rfl,v5,k5,hr5⟩,hk5⟩
         have HPL5:Hid (PlIn (sts L) b A w w5 at_ x1 x2 rk1 (i+1) (.slice (some ⟨g1,0,none⟩) (N+1) c1') now nx2 l2):=by
          have hs5:=hk5.size
          refine ⟨HEQ2.out,⟨T1,_,HT1.out.kept hk5 fun k hk h=>HTD.out k hk h,⟨v5,k5,hr5.lt⟩, ?_, ?_, ?_⟩, ?_,HFIT.out,HROOM.out,by omega⟩
          ·rintro k hk ⟨h | h,-⟩
           ·exact HTD.out k hk h
           ·have:=(HTM1.out k hk).2;omega
          ·intro k hk
           exact ⟨(HTM1.out k hk).1,Nat.lt_of_lt_of_le (HTM1.out k hk).2 hs5⟩
          ·rintro k ⟨h | h,h2⟩
           ·exact ⟨(HTM2.out k h).1,h2⟩
           ·exact ⟨Nat.le_trans HPC.out.bel.size h,h2⟩
          ·exact ((Kept.of_below (S:=fun _=>False) HPC.out.bel).trans' hk5 fun k hk h=>by have:=(HTM2.out k h).1;omega).below
         clear hr5 hk5 hput e2
         go_wp2_with fail
         refine ⟨⟨i+1,nx2,l2,rfl,rfl,by go_num,HPL5.out⟩, ?_⟩
         show N+1 - ((i:Int)+1).toNat < N+1 - (i:Int).toNat
         omega
     ·obtain rfl:i=N+1:=by omega
      have HAE:Hid ((nx,l2)=A):=by
       have h:=hpl.eq.out
       unfold Hid at h
       rw [List.drop_eq_nil_of_le (by omega),Mx.round] at h
       exact h
      have HPL:=Lib.hid hpl
      clear hpl t1 t2 td tm1 tm2 hile hlt
      have hstep:=run_step (sts L) b at_ now next nx last l2 R hn hle HIN.out.eq.out (by rw [HA.out];exact HAE.out.symm)
      have HST:=Lib.hid hstep
      clear hstep hn
      by_cases hat:at_=b.length
      ·have HR:Hid (l2=R):=HST.out.1 hat
       have hat2:(((at_:Nat):Int) == ((b.length:Nat):Int))=true:=by simp;omega
       clear hat
       go_wp2_with fail
       rw [Exit.noGoto_ret]
       go_ret2
       rw [← HR.out,longVal_eq]
       exact ⟨rfl,HPL.out.bel⟩
      ·have HLG2:Hid (LgIn (sts L) b R w wr (at_+1) x2 x1 nx now l2):=by
        obtain ⟨T1,T2,t1,t2,td,tm1,tm2⟩:=HPL.out.runs
        exact ⟨HST.out.2 hat,⟨T2,T1,t2,⟨_,_,t1⟩,fun k h1 h2=>td k h2 h1,tm2,tm1⟩,by omega,HPL.out.bel,HPL.out.fits,HIN.out.f1,by have:=HPL.out.room;unfold Mx.Room at this;omega⟩
       have hat2:(((at_:Nat):Int) == ((b.length:Nat):Int))=false:=by simp;omega
       have hlt2:at_ < b.length:=by omega
       clear hat
       go_wp2_with fail
       refine ⟨⟨at_+1,x2,x1,nx,now,l2,rfl,rfl,rfl,rfl,by go_num,HLG2.out⟩, ?_⟩
       show b.length+1 - ((at_:Int)+1).toNat < b.length+1 - (at_:Int).toNat
       omega
end Go.Proofs.YtefpcacnblaokaaGreatDoor.Rg

/-
  The walk of Find. Condition: the states and the bytes lie in memory.
-/
set_option maxRecDepth 100000
set_option maxHeartbeats 1600000
namespace Go.Proofs.YtefpcacnblaokaaGreatDoor.Rg
open Go.RowKit Go.Shelf Go.Maps
variable {lo:Nat}
def findVal:Option (Nat × Nat)→Value
 | some (x,y)=>.tuple #[.int .i64 x,.int .i64 y,.bool true]
 | none=>.tuple #[.int .i64 0,.int .i64 0,.bool false]
theorem findF_past (P:List Mx.St) (start:Nat) (b:Rx.Bytes) (f a:Nat) (h:b.length < a):Mx.findF P start b f a=none:=by
 cases f with
 | zero=>rfl
 | succ f=>rw [Mx.findF,if_pos h]
theorem Find_any (q start bc:Nat) (from_:Int) (v:Value) (L:Sts) (b:Rx.Bytes) (bp:Option Addr) (w:World) (hpg:Pg lo w q v start L) (hgo:Mx.Good (sts L)) (hkd:Mx.Kinds (sts L)) (hL:L.length≤1000000) (hst:start < L.length)
  (hbs:Bs w bp b) (hbl:b.length≤1000000000) :
  Calls Tryz.prog 269 #[.pointer (some ⟨q,0,none⟩),.slice bp b.length bc,.int .i64 from_] w fun e w'=>e=.returned (findVal (Mx.find (sts L) start b from_.toNat))∧Below w.heap.size w w':=by
 have hlong:Hid (∀ (w':World) (a:Nat),Below w.heap.size w w'→a≤b.length→Calls Tryz.prog 302 #[.pointer (some ⟨q,0,none⟩),.slice bp b.length bc,.int .i64 a] w' fun e w2=>e=.returned (longVal (Mx.longest (sts L) start b a))∧Below w'.heap.size w' w2):=fun w' a hb ha=>
  longest_any q start a bc v L b bp w' (hpg.kept (Kept.of_below (S:=fun _=>False) hb) fun k hk=>hk.elim) hgo hkd hL hst (hbs.below hb (Nat.le_refl _)) hbl ha
 generalize hR:Mx.find (sts L) start b from_.toNat=R
 have HR:=Lib.hid hR
 clear hR hpg hgo hkd hbs
 go_enter Tryz.func269,Tryz.ntmps269
 go_wp2_with fail
 go_loopw [9,10,11] (fun x9 _x10 _x11 wr=>∃ a f:Nat,x9=.int .i64 a∧b.length < a+f∧Hid (Mx.findF (sts L) start b f a=R)∧Below w.heap.size w wr) (fun x9 _ _ _=>b.length+1 - (intOf x9).toNat)
 case atStart=>exact ⟨from_.toNat,b.length+1,by congr 1;omega,by omega,HR.out,Below.refl _ _⟩
 case round=>
  obtain ⟨a,f,rfl,hf,hq,hbw⟩:=hrel
  by_cases hle:a≤b.length
  ·obtain ⟨f,rfl⟩:∃ g,f=g+1:=⟨f - 1,by omega⟩
   have hcall:=hlong.out wr a hbw hle
   have HQ:=Lib.hid hq
   have HBW:=Lib.hid hbw
   have hle2:(a:Int)≤(b.length:Int):=by omega
   unfold Hid at hq
   rw [Mx.findF,if_neg (by omega)] at hq
   cases hx:Mx.longest (sts L) start b a with
   | some z=>
    rw [hx] at hcall hq
    have HQ2:Hid (some (a,z)=R):=hq
    clear hq hx hbw HQ
    unfold longVal at hcall
    go_wp2_with fail
    refine hcall.mono ?_
    rintro e w2 ⟨rfl,hb2⟩
    go_wp2_with fail
    go_ret3
    rw [← HQ2.out]
    exact ⟨rfl,HBW.out.trans (hb2.mono HBW.out.size)⟩
   | none=>
    rw [hx] at hcall hq
    have HQ2:Hid (Mx.findF (sts L) start b f (a+1)=R):=hq
    clear hq hx hbw HQ
    unfold longVal at hcall
    go_wp2_with fail
    refine hcall.mono ?_
    rintro e w2 ⟨rfl,hb2⟩
    have HB2:Hid (Below w.heap.size w w2):=HBW.out.trans (hb2.mono HBW.out.size)
    clear hb2 hcall
    go_wp2_with fail
    refine ⟨⟨a+1,f,by go_num,by omega,HQ2,HB2.out⟩, ?_⟩
    show b.length+1 - ((a:Int)+1).toNat < b.length+1 - (a:Int).toNat
    omega
  ·have HQ2:Hid (none=R):=by
    unfold Hid at hq
    rw [findF_past _ _ _ _ _ (by omega)] at hq
    exact hq
   have HBW:=Lib.hid hbw
   clear hq hbw
   go_wp2_with fail
   go_ret3
   rw [← HQ2.out]
   exact ⟨rfl,HBW.out⟩
end Go.Proofs.YtefpcacnblaokaaGreatDoor.Rg

/-
  The walks of the law's prog, finds and awake. Conditions: the texts are short; the library's variables hold what they hold.
-/
namespace Go.Proofs.YtefpcacnblaokaaGreatDoor.Rg
open Go.RowKit Go.Shelf Go.Maps
variable {lo:Nat}
theorem conv_facts (l:Rx.Bytes) (w:World):∃ c w1,(convert 9 22 (.string ⟨l.toArray⟩)).run Tryz.prog w=.ok (.slice (some ⟨w.heap.size,0,none⟩) l.length c) w1∧l.length≤c∧Below w.heap.size w w1∧Bs w1 (some ⟨w.heap.size,0,none⟩) l:=by
 have hsz:(⟨l.toArray⟩:ByteArray).size=l.length:=by simp [ByteArray.size]
 have h:=Lib.run_convert_string_bytes (P:=Tryz.prog) w 9 22 5 ⟨l.toArray⟩ Tryz.underlying9 Tryz.underlying22 Tryz.underlying5
 rw [hsz] at h
 refine ⟨_,_,h, ?_,Lib.bytesWorld_below w 5 ⟨l.toArray⟩,fun hl=>⟨_,0,rfl,fun i hi=>?_⟩⟩
 ·exact grownCap_ge _ _ _ _
 ·rw [Nat.zero_add]
  exact Lib.bytesWorld_cell w 5 ⟨l.toArray⟩ i (by rw [hsz];exact hi)
structure Ready (lo:Nat) (w:World) (q:Nat) (n:Rx.Nd):Prop where
 pg:∃ v L,Pg lo w q v (progOf n).1 L∧sts L=(progOf n).2
 len:(progOf n).2.length≤1000000
theorem ready_ok (n:Rx.Nd):Mx.LayOk [⟨4,Mx.no,0,0⟩] (progOf n)∧Mx.Kinds (progOf n).2:=by
 have hg:Mx.Good [⟨4,Mx.no,0,0⟩]:=fun s hs=>by
  obtain rfl:s=⟨4,Mx.no,0,0⟩:=by simpa using hs
  exact ⟨by simp,by simp⟩
 exact ⟨Mx.lay_ok n 0 _ hg (by simp),Mx.lay_kinds n 0 _ fun s hs=>by
  obtain rfl:s=⟨4,Mx.no,0,0⟩:=by simpa using hs
  exact Nat.le_refl _⟩
theorem Ready.kept {w w':World} {q:Nat} {n:Rx.Nd} (h:Ready lo w q n) (hk:Below w.heap.size w w'):Ready lo w' q n:=by
 obtain ⟨v,L,hpg,e⟩:=h.pg
 exact ⟨⟨v,L,hpg.kept (Kept.of_below (S:=fun _=>False) hk) fun b hb=>hb.elim,e⟩,h.len⟩
theorem find_ready (q bc:Nat) (n:Rx.Nd) (from_:Int) (b:Rx.Bytes) (bp:Option Addr) (w:World) (h:Ready lo w q n) (hbs:Bs w bp b) (hbl:b.length≤1000000000) :
  Calls Tryz.prog 269 #[.pointer (some ⟨q,0,none⟩),.slice bp b.length bc,.int .i64 from_] w fun e w'=>e=.returned (findVal (Mx.find (progOf n).2 (progOf n).1 b from_.toNat))∧Below w.heap.size w w':=by
 obtain ⟨v,L,hpg,e⟩:=h.pg
 have hl:=h.len
 obtain ⟨hok,hkd⟩:=ready_ok n
 have hlt:=hok.lt
 rw [← e] at hl hkd hlt ⊢
 rw [sts_len] at hl hlt
 have hgo:=hok.good
 rw [← e] at hgo
 exact Find_any q _ bc from_ v L b bp w hpg hgo hkd hl hlt hbs hbl
end Go.Proofs.YtefpcacnblaokaaGreatDoor.Rg

/-
  A script's command in memory: its cells. No condition but that its table has 256 bytes.
-/
namespace Go.Proofs.YtefpcacnblaokaaGreatDoor
open Go.RowKit Go.Shelf Go.Maps
def cmCells (c:UInt8) (av:Value) (neg:Bool) (dest:Int) (lab:Bts) (tab:List UInt8) (re rv:Value) (all prt:Bool):Array Value:=
 ((.int .u8 c.toNat :: av :: .bool neg :: .int .i64 dest :: .string ⟨lab.toArray⟩ :: .string ⟨#[]⟩ :: tab.map u8V) ++ [re,rv,.bool all,.bool prt,.int .i64 0]).toArray
variable {c c':UInt8} {av av':Value} {neg:Bool} {dest:Int} {lab:Bts} {tab:List UInt8} {re rv:Value} {all prt:Bool}
theorem cm_c:(cmCells c av neg dest lab tab re rv all prt)[0]?=some (.int .u8 c.toNat):=rfl
theorem cm_at:(cmCells c av neg dest lab tab re rv all prt)[1]?=some av:=rfl
theorem cm_neg:(cmCells c av neg dest lab tab re rv all prt)[2]?=some (.bool neg):=rfl
theorem cm_dest:(cmCells c av neg dest lab tab re rv all prt)[3]?=some (.int .i64 dest):=rfl
theorem cm_lab:(cmCells c av neg dest lab tab re rv all prt)[4]?=some (.string ⟨lab.toArray⟩):=rfl
theorem cm_tail (ht:tab.length=256) (k:Nat):(cmCells c av neg dest lab tab re rv all prt)[262+k]?=[re,rv,.bool all,.bool prt,.int .i64 0][k]?:=by
 unfold cmCells
 rw [List.getElem?_toArray,List.getElem?_append_right (by simp [ht])]
 congr 1
 simp [ht]
theorem cm_tab (i:Nat) (hi:i < tab.length):(cmCells c av neg dest lab tab re rv all prt)[6+i]?=some (.int .u8 (tab.getD i 0).toNat):=by
 unfold cmCells
 rw [List.getElem?_toArray,List.getElem?_append_left (by simp;omega),show 6+i=i+1+1+1+1+1+1 by omega]
 simp only [List.getElem?_cons_succ,List.getElem?_map,List.getD_eq_getElem?_getD,List.getElem?_eq_getElem hi]
 rfl
theorem cm_re (ht:tab.length=256):(cmCells c av neg dest lab tab re rv all prt)[262]?=some re:=cm_tail ht 0
theorem cm_rep (ht:tab.length=256):(cmCells c av neg dest lab tab re rv all prt)[263]?=some rv:=cm_tail ht 1
theorem cm_all (ht:tab.length=256):(cmCells c av neg dest lab tab re rv all prt)[264]?=some (.bool all):=cm_tail ht 2
theorem cm_prt (ht:tab.length=256):(cmCells c av neg dest lab tab re rv all prt)[265]?=some (.bool prt):=cm_tail ht 3
theorem cm_nth (ht:tab.length=256):(cmCells c av neg dest lab tab re rv all prt)[266]?=some (.int .i64 0):=cm_tail ht 4
theorem cm_set_c (x:UInt8):(cmCells c av neg dest lab tab re rv all prt).setIfInBounds 0 (.int .u8 x.toNat)=cmCells x av neg dest lab tab re rv all prt:=by
 apply Array.ext'
 rw [Array.toList_setIfInBounds]
 rfl
theorem cm_set_at (x:Value):(cmCells c av neg dest lab tab re rv all prt).setIfInBounds 1 x=cmCells c x neg dest lab tab re rv all prt:=by
 apply Array.ext'
 rw [Array.toList_setIfInBounds]
 rfl
theorem cm_set_neg (x:Bool):(cmCells c av neg dest lab tab re rv all prt).setIfInBounds 2 (.bool x)=cmCells c av x dest lab tab re rv all prt:=by
 apply Array.ext'
 rw [Array.toList_setIfInBounds]
 rfl
theorem cm_set_dest (x:Int):(cmCells c av neg dest lab tab re rv all prt).setIfInBounds 3 (.int .i64 x)=cmCells c av neg x lab tab re rv all prt:=by
 apply Array.ext'
 rw [Array.toList_setIfInBounds]
 rfl
theorem cm_set_lab (x:Bts):(cmCells c av neg dest lab tab re rv all prt).setIfInBounds 4 (.string ⟨x.toArray⟩)=cmCells c av neg dest x tab re rv all prt:=by
 apply Array.ext'
 rw [Array.toList_setIfInBounds]
 rfl
theorem cm_set_tab (i:Nat) (hi:i < tab.length) (x:UInt8):(cmCells c av neg dest lab tab re rv all prt).setIfInBounds (6+i) (.int .u8 x.toNat)=cmCells c av neg dest lab (tab.set i x) re rv all prt:=by
 apply Array.ext'
 rw [Array.toList_setIfInBounds,show 6+i=i+1+1+1+1+1+1 by omega]
 unfold cmCells
 simp only [List.cons_append,List.set_cons_succ]
 rw [List.set_append_left _ _ (by simpa using hi),List.map_set]
 rfl
theorem cm_set_tail (ht:tab.length=256) (k:Nat) (x:Value):((cmCells c av neg dest lab tab re rv all prt).setIfInBounds (262+k) x).toList=(.int .u8 c.toNat :: av :: .bool neg :: .int .i64 dest :: .string ⟨lab.toArray⟩ :: .string ⟨#[]⟩ :: tab.map u8V) ++ [re,rv,.bool all,.bool prt,.int .i64 0].set k x:=by
 rw [Array.toList_setIfInBounds]
 unfold cmCells
 rw [List.set_append_right _ _ (by simp [ht])]
 congr 2
 simp [ht]
theorem cm_set_re (ht:tab.length=256) (x:Value):(cmCells c av neg dest lab tab re rv all prt).setIfInBounds 262 x=cmCells c av neg dest lab tab x rv all prt:=by
 apply Array.ext'
 exact (cm_set_tail ht 0 x).trans rfl
theorem cm_set_rep (ht:tab.length=256) (x:Value):(cmCells c av neg dest lab tab re rv all prt).setIfInBounds 263 x=cmCells c av neg dest lab tab re x all prt:=by
 apply Array.ext'
 exact (cm_set_tail ht 1 x).trans rfl
theorem cm_set_all (ht:tab.length=256) (x:Bool):(cmCells c av neg dest lab tab re rv all prt).setIfInBounds 264 (.bool x)=cmCells c av neg dest lab tab re rv x prt:=by
 apply Array.ext'
 exact (cm_set_tail ht 2 (.bool x)).trans rfl
theorem cm_set_prt (ht:tab.length=256) (x:Bool):(cmCells c av neg dest lab tab re rv all prt).setIfInBounds 265 (.bool x)=cmCells c av neg dest lab tab re rv all x:=by
 apply Array.ext'
 exact (cm_set_tail ht 3 (.bool x)).trans rfl
end Go.Proofs.YtefpcacnblaokaaGreatDoor

/-
  A script's parts in memory: expressions that are ready, addresses, pieces, commands; what keeps them. No condition.
-/
namespace Go.Proofs.YtefpcacnblaokaaGreatDoor
open Go.RowKit Go.Shelf Go.Maps
theorem Kept.rg {S:Nat→Prop} {W W':World} (h:Kept S W W'):Rg.Kept S W W':=⟨h.os,h.tape,h.output,h.size,h.block⟩
structure RdyK (W:World) (K:Nat→Prop) (q:Nat) (b:Bts):Prop where
 good:Sd.rxGood b=true
 rdy:∃ lo v L,Rg.Pg lo W q v (Sd.rxProg b).1 L∧Rg.sts L=(Sd.rxProg b).2∧(∀ k,lo≤k→k≤q→K k)∧∀ g,v.ownBlock=some g→K g
 own:K q
theorem RdyK.kept {S K:Nat→Prop} {W W':World} {q:Nat} {b:Bts} (h:RdyK W K q b) (hk:Kept S W W') (hS:∀ k,K k→¬ S k):RdyK W' K q b:=by
 obtain ⟨hg,⟨lo,v,L,hpg,he,h1,h2⟩,h3⟩:=h
 exact ⟨hg,⟨lo,v,L,⟨Rg.Blk.kept hpg.blk hk.rg (hS q h3),Rg.own_kept hpg.own hk.rg fun k e=>hS k (h2 k e),fun x hx h0=>by
  obtain ⟨c,e,hc,hh⟩:=hpg.has x hx h0
  exact ⟨c,e,hc,hh.kept hk.rg (hS c (h1 c hc.1 (by omega)))⟩⟩,he,h1,h2⟩,h3⟩
theorem RdyK.mono {K K':Nat→Prop} {W:World} {q:Nat} {b:Bts} (h:RdyK W K q b) (hK:∀ k,K k→K' k):RdyK W K' q b:=by
 obtain ⟨hg,⟨lo,v,L,hpg,he,h1,h2⟩,h3⟩:=h
 exact ⟨hg,⟨lo,v,L,hpg,he,fun k a b=>hK k (h1 k a b),fun g e=>hK g (h2 g e)⟩,hK q h3⟩
def adCells (a:Sd.Adr) (q:Option Nat):List Value:=match a with
 | .num n=>[.int .i64 1,.int .i64 n,.pointer none]
 | .fin=>[.int .i64 2,.int .i64 0,.pointer none]
 | .rx _=>[.int .i64 3,.int .i64 0,.pointer (q.map fun b=>⟨b,0,none⟩)]
def adOk (W:World) (K:Nat→Prop) (a:Sd.Adr) (q:Option Nat):Prop:=match a with
 | .rx b=>∃ p,q=some p∧RdyK W K p b
 | _=>True
theorem adOk.kept {S K:Nat→Prop} {W W':World} {a:Sd.Adr} {q:Option Nat} (h:adOk W K a q) (hk:Kept S W W') (hS:∀ k,K k→¬ S k):adOk W' K a q:=by
 cases a with
 | rx b=>
  obtain ⟨p,e,hp⟩:=h
  exact ⟨p,e,hp.kept hk hS⟩
 | _=>trivial
theorem adOk.mono {K K':Nat→Prop} {W:World} {a:Sd.Adr} {q:Option Nat} (h:adOk W K a q) (hK:∀ k,K k→K' k):adOk W K' a q:=by
 cases a with
 | rx b=>
  obtain ⟨p,e,hp⟩:=h
  exact ⟨p,e,hp.mono hK⟩
 | _=>trivial
theorem adCells_len (a:Sd.Adr) (q:Option Nat):(adCells a q).length=3:=by cases a <;> rfl
def AdsAt (W:World) (K:Nat→Prop) (v:Value) (l:List Sd.Adr):Prop:=∃ L:List (Sd.Adr × Option Nat),L.map (·.1)=l∧W.ownsRow 0 224 3 v L.length (L.flatMap fun x=>adCells x.1 x.2)∧(∀ x ∈ L,adOk W K x.1 x.2)∧∀ g,v.ownBlock=some g→K g
theorem AdsAt.kept {S K:Nat→Prop} {W W':World} {v:Value} {l:List Sd.Adr} (h:AdsAt W K v l) (hk:Kept S W W') (hS:∀ k,K k→¬ S k):AdsAt W' K v l:=by
 obtain ⟨L,h1,h2,h3,h4⟩:=h
 exact ⟨L,h1,own_kept h2 hk fun g e=>hS g (h4 g e),fun x hx=>(h3 x hx).kept hk hS,h4⟩
theorem AdsAt.mono {K K':Nat→Prop} {W:World} {v:Value} {l:List Sd.Adr} (h:AdsAt W K v l) (hK:∀ k,K k→K' k):AdsAt W K' v l:=by
 obtain ⟨L,h1,h2,h3,h4⟩:=h
 exact ⟨L,h1,h2,fun x hx=>(h3 x hx).mono hK,fun g e=>hK g (h4 g e)⟩
def pcCells (p:Sd.Pc):List Value:=[.bool p.found,.int .u8 p.c.toNat]
def PcsAt (W:World) (K:Nat→Prop) (v:Value) (l:List Sd.Pc):Prop:=W.ownsRow 0 229 2 v l.length (l.flatMap pcCells)∧∀ g,v.ownBlock=some g→K g
theorem PcsAt.kept {S K:Nat→Prop} {W W':World} {v:Value} {l:List Sd.Pc} (h:PcsAt W K v l) (hk:Kept S W W') (hS:∀ k,K k→¬ S k):PcsAt W' K v l:=⟨own_kept h.1 hk fun g e=>hS g (h.2 g e),h.2⟩
theorem PcsAt.mono {K K':Nat→Prop} {W:World} {v:Value} {l:List Sd.Pc} (h:PcsAt W K v l) (hK:∀ k,K k→K' k):PcsAt W K' v l:=⟨h.1,fun g e=>hK g (h.2 g e)⟩
def RxAt (W:World) (K:Nat→Prop) (v:Value) (x:Option Bts):Prop:=match x with
 | none=>v=.pointer none
 | some b=>∃ q,v=.pointer (some ⟨q,0,none⟩)∧RdyK W K q b
theorem RxAt.kept {S K:Nat→Prop} {W W':World} {v:Value} {x:Option Bts} (h:RxAt W K v x) (hk:Kept S W W') (hS:∀ k,K k→¬ S k):RxAt W' K v x:=by
 cases x with
 | none=>exact h
 | some b=>
  obtain ⟨q,e,hq⟩:=h
  exact ⟨q,e,hq.kept hk hS⟩
theorem RxAt.mono {K K':Nat→Prop} {W:World} {v:Value} {x:Option Bts} (h:RxAt W K v x) (hK:∀ k,K k→K' k):RxAt W K' v x:=by
 cases x with
 | none=>exact h
 | some b=>
  obtain ⟨q,e,hq⟩:=h
  exact ⟨q,e,hq.mono hK⟩
def CmBlk (W:World) (q:Nat) (x:Sd.Cmd) (av re rv:Value):Prop:=Blk W q (cmCells x.c av x.neg x.dest x.lab x.tab re rv x.all x.prt) 88
def CmdAt (W:World) (K:Nat→Prop) (q:Nat) (x:Sd.Cmd):Prop:=∃ av re rv,CmBlk W q x av re rv∧AdsAt W K av x.ads∧RxAt W K re x.rx∧PcsAt W K rv x.rep∧x.tab.length=256
theorem CmdAt.kept {S K:Nat→Prop} {W W':World} {q:Nat} {x:Sd.Cmd} (h:CmdAt W K q x) (hk:Kept S W W') (hq:¬ S q) (hS:∀ k,K k→¬ S k):CmdAt W' K q x:=by
 obtain ⟨av,re,rv,h1,h2,h3,h4,h5⟩:=h
 exact ⟨av,re,rv,Blk.kept h1 hk hq,h2.kept hk hS,h3.kept hk hS,h4.kept hk hS,h5⟩
theorem CmdAt.mono {K K':Nat→Prop} {W:World} {q:Nat} {x:Sd.Cmd} (h:CmdAt W K q x) (hK:∀ k,K k→K' k):CmdAt W K' q x:=by
 obtain ⟨av,re,rv,h1,h2,h3,h4,h5⟩:=h
 exact ⟨av,re,rv,h1,h2.mono hK,h3.mono hK,h4.mono hK,h5⟩
theorem CmdAt.lt {K:Nat→Prop} {W:World} {q:Nat} {x:Sd.Cmd} (h:CmdAt W K q x):q < W.heap.size:=by
 obtain ⟨av,re,rv,h1,-⟩:=h
 exact Blk.lt h1
def ptrC (q:Nat):Value:=.pointer (some ⟨q,0,none⟩)
end Go.Proofs.YtefpcacnblaokaaGreatDoor

/-
  The walks of the script reader's small functions: fail, blanks, is, take, mark, after. Condition: the reader lies in memory as it is told.
-/
set_option maxRecDepth 100000
namespace Go.Proofs.YtefpcacnblaokaaGreatDoor
open Go.RowKit Go.Shelf Go.Maps Go.Sort
def brokV (e:Int):Value:=.iface 75 (.agg #[.int .i64 e])
theorem sfail_any (e:Int) (w:World):Calls Tryz.prog 32 #[.int .i64 e] w fun x w'=>x=.panicked [{ v:=brokV e,recovered:=false }]∧Below w.heap.size w w':=by
 go_enter Tryz.func32,Tryz.ntmps32
 go_wp2
 exact ⟨rfl,rfl,Below.refl _ _⟩
def RdB (W:World) (r:Nat) (s:Bts) (lv ov:Value):Prop:=Blk W r #[.string ⟨s.toArray⟩,lv,ov] 79
theorem RdB.s {W:World} {r:Nat} {s:Bts} {lv ov:Value} (h:RdB W r s lv ov):W.cell? ⟨r,0,none⟩=some (.string ⟨s.toArray⟩):=Blk.cell h 0 rfl
theorem RdB.set {W:World} {r:Nat} {s:Bts} {lv ov:Value} (h:RdB W r s lv ov) (t:Bts):RdB (W.setCell ⟨r,0,none⟩ (.string ⟨t.toArray⟩)) r t lv ov:=Blk.set h 0 _
theorem RdB.kept {S:Nat→Prop} {W W':World} {r:Nat} {s:Bts} {lv ov:Value} (h:RdB W r s lv ov) (hk:Kept S W W') (hS:¬ S r):RdB W' r s lv ov:=Blk.kept h hk hS
theorem RdB.below {W W':World} {r:Nat} {s:Bts} {lv ov:Value} (h:RdB W r s lv ov) (hb:Below W.heap.size W W'):RdB W' r s lv ov:=Blk.keep h hb (Blk.lt h)
theorem trimL_any (l cs:Bts) (q:UInt8→Bool) (hq:∀ c,List.contains cs c=q c) (hcs:cs.all (fun b=>decide (b.toNat < 128))=true) (hl:cs.length < 4294967281) (w:World) :
  Calls Tryz.prog 30 #[.string ⟨l.toArray⟩,.string ⟨cs.toArray⟩] w fun e w'=>e=.returned (.string ⟨(l.dropWhile q).toArray⟩)∧Below w.heap.size w w':=by
 have h:Calls Tryz.prog 30 _ w _:=Any.strings_TrimLeft_laid Tryz.lays161 (by kernel_rfl) ⟨l.toArray⟩ ⟨cs.toArray⟩ w (by simpa [ByteArray.size] using hl) (ascii_of_all hcs)
 obtain rfl:(cs.contains ·)=q:=funext hq
 exact h
theorem blank_contains (c:UInt8):List.contains [32,9] c=Sd.blank c:=by
 rw [Bool.eq_iff_iff]
 simp [Sd.blank]
theorem gap_contains (c:UInt8):List.contains [32,9,10,59] c=Sd.gap c:=by
 rw [Bool.eq_iff_iff]
 simp [Sd.gap]
theorem sdigit_contains (c:UInt8):List.contains [48,49,50,51,52,53,54,55,56,57] c=Ord.digit c:=by
 rw [Bool.eq_iff_iff]
 simp [Ord.digit,u8_eq,u8_le]
 omega
theorem idxS_any (s:Bts) (c:UInt8) (w:World):Calls Tryz.prog 58 #[.string ⟨s.toArray⟩,.int .u8 c.toNat] w fun e w'=>e=.returned (.int .i64 (Lib.indexByte s c))∧w'=w:=by
 refine (Any.strings_IndexByte Tryz.lays137 ⟨s.toArray⟩ c.toNat w).mono ?_
 rintro e w' ⟨rfl,rfl⟩
 refine ⟨?_,rfl⟩
 have e:((c.toNat:Int).toNat.toUInt8)=c:=by
  apply UInt8.toNat_inj.1
  simp
 rw [e]
theorem idx_contains (l:Bts) (c:UInt8):decide (0≤Lib.indexByte l c)=l.contains c:=by
 induction l with
 | nil=>rfl
 | cons b r ih=>
  have hge:=Lib.indexByte_ge r c
  unfold Lib.indexByte
  rw [List.contains_cons]
  by_cases h:b=c
  ·subst h;simp
  ·have h1:(b == c)=false:=by simpa using h
   have h2:(c == b)=false:=by simpa using fun e=>h e.symm
   rw [h1,h2,Bool.false_or,← ih]
   simp only [Bool.false_eq_true,if_false]
   by_cases h3:Lib.indexByte r c=-1
   ·rw [h3];rfl
   ·have h4:(Lib.indexByte r c == -1)=false:=by simpa using h3
    rw [h4]
    simp only [Bool.false_eq_true,if_false]
    congr 1
    apply propext
    omega
theorem sblanks_any (r:Nat) (s:Bts) (lv ov:Value) (w:World) (h:RdB w r s lv ov) :
  Calls Tryz.prog 100 #[.pointer (some ⟨r,0,none⟩)] w fun e w'=>e=.returned (.tuple #[])∧RdB w' r (Sd.blanks s) lv ov∧Kept (·=r) w w':=by
 have c0:=h.s
 have htl:=trimL_any s [32,9] Sd.blank blank_contains (by decide) (by decide) w
 have H:=Lib.hid h
 clear h
 go_enter Tryz.func100,Tryz.ntmps100
 go_wp2_with fail
 refine htl.mono ?_
 rintro e w1 ⟨rfl,hb1⟩
 have h1:=H.out.below hb1
 have f0:=Blk.free h1 0
 have c1:=h1.s
 have H1:=Lib.hid h1
 have HB:=Lib.hid hb1
 clear htl hb1 h1 c0
 go_wp2_with fail
 go_end0
 exact ⟨rfl,H1.out.set _,(Kept.of_below (S:=(·=r)) HB.out).setCell (.inl rfl) 0 _⟩
theorem sis_any (r:Nat) (l s:Bts) (lv ov:Value) (w:World) (h:RdB w r s lv ov) :
  Calls Tryz.prog 98 #[.pointer (some ⟨r,0,none⟩),.string ⟨l.toArray⟩] w fun e w'=>e=.returned (.bool (Sd.isIn l s))∧w'=w:=by
 have c0:=h.s
 clear h
 cases s with
 | nil=>
  go_enter Tryz.func98,Tryz.ntmps98
  go_wp2_with fail
  go_ret
  exact ⟨rfl,rfl⟩
 | cons c t=>
  have i0:∀ h,(⟨(c :: t).toArray⟩:ByteArray)[0]'h=c:=fun _=>rfl
  have hx:=idxS_any l c w
  have HV:=Lib.hid (idx_contains l c)
  go_enter Tryz.func98,Tryz.ntmps98
  go_wp2_with fail
  refine hx.mono ?_
  rintro e w1 ⟨rfl,rfl⟩
  clear hx
  go_wp2_with fail
  go_ret
  exact ⟨ret_bool HV.out,rfl⟩
def TakePost (r:Nat) (s:Bts) (lv ov:Value) (e:Ending) (w':World):Prop:=match s with
 | c :: t=>e=.returned (.int .u8 c.toNat)∧RdB w' r t lv ov
 | []=>e=.panicked [{ v:=brokV 21,recovered:=false }]
theorem stake_any (r:Nat) (s:Bts) (lv ov:Value) (w:World) (h:RdB w r s lv ov) :
  Calls Tryz.prog 99 #[.pointer (some ⟨r,0,none⟩)] w fun e w'=>TakePost r s lv ov e w'∧Kept (·=r) w w':=by
 have c0:=h.s
 have f0:=Blk.free h 0
 have H:=Lib.hid h
 clear h
 unfold TakePost
 cases s with
 | nil=>
  go_enter Tryz.func99,Tryz.ntmps99
  go_wp2_with fail
  refine (sfail_any _ _).mono ?_
  rintro e w1 ⟨rfl,hb⟩
  go_wp2_with fail
  exact ⟨rfl,rfl,Kept.of_below hb⟩
 | cons c t=>
  go_enter Tryz.func99,Tryz.ntmps99
  go_wp2_with fail
  go_ret
  refine ⟨⟨rfl, ?_⟩,(Kept.refl (·=r) _).setCell (.inl rfl) 0 _⟩
  rw [show (⟨(c :: t).toArray⟩:ByteArray).extract 1 (t.length+1)=⟨t.toArray⟩ from extract_drop (c :: t) 1]
  exact H.out.set t
theorem smark_any (r:Nat) (d:UInt8) (t:Bts) (hd:d≠92∧d≠10) (lv ov:Value) (w:World) (h:RdB w r (d :: t) lv ov) :
  Calls Tryz.prog 62 #[.pointer (some ⟨r,0,none⟩)] w fun e w'=>(e=.returned (.int .u8 d.toNat)∧RdB w' r t lv ov)∧Kept (·=r) w w':=by
 have ht:=stake_any r (d :: t) lv ov w h
 have e1:((d.toNat:Int) == 92)=false:=by
  have:=hd.1
  rw [Ne,u8_eq] at this
  simpa using this
 have e2:((d.toNat:Int) == 10)=false:=by
  have:=hd.2
  rw [Ne,u8_eq] at this
  simpa using this
 clear h hd
 unfold TakePost at ht
 go_enter Tryz.func62,Tryz.ntmps62
 go_wp2_with fail
 refine ht.mono ?_
 rintro e w1 ⟨⟨rfl,hr⟩,hk⟩
 have HR:=Lib.hid hr
 have HK:=Lib.hid hk
 clear ht hr hk
 go_wp2_with fail
 go_ret
 exact ⟨⟨rfl,HR.out⟩,HK.out⟩
theorem safter_any (r:Nat) (s t:Bts) (ha:Sd.after s=some t) (lv ov:Value) (w:World) (h:RdB w r s lv ov) :
  Calls Tryz.prog 66 #[.pointer (some ⟨r,0,none⟩)] w fun e w'=>(e=.returned (.tuple #[])∧RdB w' r t lv ov)∧Kept (·=r) w w':=by
 have hb:=sblanks_any r s lv ov w h
 unfold Sd.after at ha
 simp only at ha
 generalize Sd.blanks s=u at *
 split at ha
 ·rename_i hu
  injection ha with ha
  subst ha
  clear h
  go_enter Tryz.func66,Tryz.ntmps66
  go_wp2_with fail
  refine hb.mono ?_
  rintro e w1 ⟨rfl,hr,hk⟩
  have c0:=hr.s
  have HR:=Lib.hid hr
  have HK:=Lib.hid hk
  have hi:=sis_any r [10,59,125] u lv ov w1 hr
  clear hb hr hk
  cases u with
  | nil=>
   clear hi
   go_wp2_with fail
   go_end0
   exact ⟨⟨rfl,HR.out⟩,HK.out⟩
  | cons x y=>
   have hx:Sd.isIn [10,59,125] (x :: y)=true:=by simpa using hu
   rw [hx] at hi
   clear hu hx
   go_wp2_with fail
   refine hi.mono ?_
   rintro e w2 ⟨rfl,rfl⟩
   clear hi
   go_wp2_with fail
   go_end0
   exact ⟨⟨rfl,HR.out⟩,HK.out⟩
 ·cases ha
end Go.Proofs.YtefpcacnblaokaaGreatDoor
