/-
  Texts of this seat put together: T1, T2, T3, P1, K1, K2, K3, K4, K5, K6, K7.
-/
import Derived.Test.YtefpcacnblaokaaGreatDoorQ1
import Derived.RangeFuncNested
import Derived.RangeFuncBound
import Derived.RangeFuncCalls
import Derived.RangeFuncLeaves
import Derived.Shelf.Abstract
import Derived.Shelf.RegionOpen
import Derived.OwnWalkIn
import Derived.TacticsInMore
import Derived.LoopNIn
import Derived.LoopIn
import Derived.Maps.OwnSet
import Derived.ChangeMaps
import Derived.Deep.QuietTactic

/-
  The walk of tree.leads, from, look, Stat at a path that has no parts. Conditions: the path is empty or one slash.
-/
set_option maxRecDepth 100000
set_option maxHeartbeats 2000000
namespace Go.Proofs.YtefpcacnblaokaaGreatDoor
open Go.RowKit Go.Shelf
attribute [local go_sem] Oper.semAt_some
def NoParts (s:ByteArray) (n:Nat):Prop:=Lib.countB s ⟨#[47]⟩+1=n∧Lib.splitB ⟨#[47]⟩ 0 (Lib.countB s ⟨#[47]⟩) s=List.replicate n ByteArray.empty∧s.size < 2∧n≤2∧1≤n
theorem noParts_nil:NoParts ⟨#[]⟩ 1:=by unfold NoParts;decide +kernel
theorem noParts_slash:NoParts ⟨#[47]⟩ 2:=by unfold NoParts;decide +kernel
theorem i9:(Tryz.prog.info? 9).map (fun i=>(i.zero,i.size,i.bytes))=some (some (.string ByteArray.empty),1,16):=by kernel_rfl
theorem split_none (s:ByteArray) (n:Nat) (hs:NoParts s n) (m:Int) (W:World) (hm:W.cell? ⟨2,0,none⟩=some (.int .i64 m)) :
  Calls Tryz.prog 178 #[.string s,.string ⟨#[47]⟩] W fun e w'=>e=.returned (.slice (some ⟨W.heap.size,0,none⟩) n n)∧Below W.heap.size W w'∧(∃ o,w'=W.alloc o)∧∀ j,j < n→w'.cell? ⟨W.heap.size,j,none⟩=some (.string ⟨#[]⟩):=by
 obtain ⟨h1,h2,h3,h4,h5⟩:=hs
 refine (Any.strings_Split Tryz.lays146 i9 s ⟨#[47]⟩ m W (by omega) hm (by decide)).mono ?_
 rintro e w1 ⟨rfl,rfl⟩
 rw [h2,h1]
 refine ⟨rfl,(Below.refl _ W).alloc (Nat.le_refl _) _,⟨_,rfl⟩, ?_⟩
 intro j hj
 rw [World.cell?,heap_alloc_new]
 simp [hj]
 rfl
theorem parts1_calls (l Bn n:Nat) (s:ByteArray) (hs:NoParts s n) (J:World→Prop) (m:Int) (W:World) (hB:W.cell? ⟨Bn,0,none⟩=some (.string s)) (hm:W.cell? ⟨2,0,none⟩=some (.int .i64 m))
  (hJ:∀ o,J (W.alloc o)) :
  Calls Tryz.prog 282 #[.func (.yield l) #[] #[],.pointer (some ⟨Bn,0,none⟩)] W fun e W'=>(∃ v,e=.returned v)∧J W':=by
 have c:=split_none s n hs m W hm
 have hn2:n≤2:=hs.2.2.2.1
 clear hs
 go_enter Tryz.func282,Tryz.ntmps282
 go_wp2_with fail
 refine c.mono ?_
 rintro e w1 ⟨rfl,hb,⟨o,ho⟩,hc⟩
 have H:J w1:=by rw [ho];exact hJ o
 clear hJ ho o
 go_wp2_with fail
 go_loopw [8] (fun p wr=>∃ k:Nat,k≤n∧p=.int .i64 k∧wr=w1) (fun p _=>n - (intOf p).toNat)
 case atStart=>exact ⟨0,Nat.zero_le _,rfl,rfl⟩
 case round=>
  obtain ⟨k,hk,rfl,rfl⟩:=hrel
  by_cases hlt:k < n
  ·have hck:=hc k hlt
   clear hc
   go_wp2_with fail
   exact ⟨⟨k+1,by omega,by simp,trivial⟩,by simp [intOf];omega⟩
  ·obtain rfl:k=n:=by omega
   go_wp2_with fail
   go_end0
   exact ⟨⟨_,rfl⟩,H⟩
theorem parts1_stops (k n n₀ Bn:Nat) (s:ByteArray) (hs:NoParts s n) (m:Int) (w:World) (hB:w.cell? ⟨Bn,0,none⟩=some (.string s)) (hm:w.cell? ⟨2,0,none⟩=some (.int .i64 m)) :
  SeqStopsK Fence.wide k Tryz.prog 282 #[.pointer (some ⟨Bn,0,none⟩)] (fun v:ByteArray=>#[Value.string v]) (Below n₀) (fun xs=>xs=[]) (fun _=>False) 0 w:=by
 intro l J Jx W hW hJ _ _ h0
 have hl1:Bn < w.heap.size:=World.block_lt_of_cell? _ _ hB
 have hl2:2 < w.heap.size:=World.block_lt_of_cell? _ _ hm
 refine callsIn_wide.2 ((parts1_calls l Bn n s hs (J []) m W ((hW.cell (p:=⟨Bn,0,none⟩) hl1).trans hB) ((hW.cell (p:=⟨2,0,none⟩) hl2).trans hm) ?_).mono ?_)
 ·intro o
  exact hJ _ _ _ none h0 (World.grownBy_alloc _ _ none) (fun r e=>by cases e)
 ·rintro e W' ⟨he,hj⟩
  exact ⟨he,.inl ⟨[],rfl,hj⟩⟩
theorem parts_any (s:ByteArray) (W:World):Calls Tryz.prog 240 #[.string s] W fun e w'=>e=.returned (.func (.func 282) #[] #[.pointer (some ⟨W.heap.size,0,none⟩)])∧w'=W.alloc (.cells #[.string s] 9):=by
 go_enter Tryz.func240,Tryz.ntmps240
 go_wp2_with fail
 go_ret
 exact ⟨rfl,rfl⟩
theorem one_new (W:World) (v:Value) (t:TypeId):(W.alloc (.cells #[v] t)).cell? ⟨W.heap.size,0,none⟩=some v∧(W.alloc (.cells #[v] t)).frozen? ⟨W.heap.size,0,none⟩=false:=by
 constructor
 ·rw [World.cell?,heap_alloc_new];rfl
 ·rw [World.frozen?,heap_alloc_new];rfl
theorem leads_none (t x:Option Addr) (s:ByteArray) (n:Nat) (hs:NoParts s n) (m:Int) (w:World) (hm:w.cell? ⟨2,0,none⟩=some (.int .i64 m)) :
  Calls Tryz.prog 183 #[.pointer t,.pointer x,.string s] w fun e w'=>e=.returned (.tuple #[.pointer x,.int .i64 0])∧Below w.heap.size w w':=by
 refine callsIn_wide.1 (callsIn_of_wp_marks (n:=3) Tryz.func183 rfl trivial ?_ rfl)
 simp only [Tryz.ntmps183,List.size_toArray,List.length_cons,List.length_nil,Nat.reduceAdd,Nat.reduceSub,Array.replicate_succ,Array.replicate_zero,List.push_toArray,List.append_toArray,List.nil_append,List.cons_append]
 gi_wp2_with (refine ⟨trivial, ?_⟩;gi_at_call 240;refine (callsIn_wide.2 (parts_any s _)).mono ?_;rintro e w' ⟨rfl,rfl⟩)
 have hx0:=one_new w (.pointer x) 183
 have hx1:=one_new (w.alloc (.cells #[.pointer x] 183)) (.pointer none) 183
 have hx2:=one_new ((w.alloc (.cells #[.pointer x] 183)).alloc (.cells #[.pointer none] 183)) (.int .i64 0) 44
 have hx3:=one_new (((w.alloc (.cells #[.pointer x] 183)).alloc (.cells #[.pointer none] 183)).alloc (.cells #[.int .i64 0] 44)) (.string s) 9
 simp only [World.size_alloc] at hx1 hx2 hx3
 have a0:=new_cell (new_cell (new_cell hx0.1 (.cells #[.pointer none] 183)) (.cells #[.int .i64 0] 44)) (.cells #[.string s] 9)
 have a1:=new_cell (new_cell hx1.1 (.cells #[.int .i64 0] 44)) (.cells #[.string s] 9)
 have b1:=new_frozen (new_cell hx1.1 (.cells #[.int .i64 0] 44)) (new_frozen hx1.1 hx1.2 (.cells #[.int .i64 0] 44)) (.cells #[.string s] 9)
 have a2:=new_cell hx2.1 (.cells #[.string s] 9)
 have b2:=new_frozen hx2.1 hx2.2 (.cells #[.string s] 9)
 have hB0:Below w.heap.size w ((((w.alloc (.cells #[.pointer x] 183)).alloc (.cells #[.pointer none] 183)).alloc (.cells #[.int .i64 0] 44)).alloc (.cells #[.string s] 9)):=((((Below.refl _ w).alloc (Nat.le_refl _) _).alloc (by simp) _).alloc (by simp;omega) _).alloc (by simp;omega) _
 have hlm:2 < w.heap.size:=World.block_lt_of_cell? _ _ hm
 have am:=(hB0.cell (p:=⟨2,0,none⟩) hlm).trans hm
 refine wpIn_rangeFunc_ownF rfl (by decide) (gf:=282) (lb:=#[.pointer (some ⟨w.heap.size+1+1+1,0,none⟩)]) rfl trivial (enters_of Tryz.func282 (by kernel_rfl) rfl)
  (parts1_stops 2 n w.heap.size (w.heap.size+1+1+1) s hs m _ hx3.1 am) belowK_t (belowK_b (by simp;omega)) (Below.refl _ _) (fun _=>rfl)
  (fun pre W=>(W.cell? ⟨w.heap.size,0,none⟩=some (.pointer x)∧W.cell? ⟨w.heap.size+1,0,none⟩=some (.pointer none)∧W.frozen? ⟨w.heap.size+1,0,none⟩=false∧W.cell? ⟨w.heap.size+1+1,0,none⟩=some (.int .i64 0)∧W.frozen? ⟨w.heap.size+1+1,0,none⟩=false)∧Below w.heap.size w W)
  (fun _ _ _=>False)
  (OwnFrom.and (Own.from (fun s A B row hs hg hr=>⟨cell_kept hs.1 hg hr,cell_kept hs.2.1 hg hr,(frozen_kept hs.2.1 hg hr).trans hs.2.2.1,cell_kept hs.2.2.2.1 hg hr,(frozen_kept hs.2.2.2.1 hg hr).trans hs.2.2.2.2⟩) _) (ownFrom_below (Nat.le_refl _) (by simp;omega)))
  (fun _ _ _ _ _ hs _ _=>hs)
  ⟨⟨a0,a1,b1,a2,b2⟩,hB0⟩
  (fun v=>{ tmps:=#[.pointer t,.pointer x,.string s,undef,.pointer (some ⟨w.heap.size,0,none⟩),undef,.pointer (some ⟨w.heap.size+1,0,none⟩),.pointer (some ⟨w.heap.size+1+1,0,none⟩),.string v,undef,undef,.string s,.func (.func 282) #[] #[.pointer (some ⟨w.heap.size+1+1+1,0,none⟩)],.string v,undef,undef,undef,undef,undef,undef,undef,undef,undef,undef,undef,undef,undef,undef,undef,undef,undef,undef,undef,undef,undef,undef,undef,undef,undef,undef,undef,undef,undef,undef,undef,undef,undef],defers:=[] }) ?assign ?body ?done ?stop
 case assign=>
  intro l v W K hK
  gi_wp2
  exact hK
 case body=>
  intro l pre v W _ hl
  exact absurd hl (Nat.not_lt_zero _)
 case done=>
  rintro D ys W hD rfl ⟨⟨c0,c1,d1,c2,d2⟩,hB⟩ hK
  gi_wp2
  have hb1:(W.setCell ⟨w.heap.size+1,0,none⟩ (.pointer x)).cell? ⟨w.heap.size+1+1,0,none⟩=some (.int .i64 0):=(World.cell?_of_block (Below.heap_setCell W ⟨w.heap.size+1,0,none⟩ _ (w.heap.size+1+1) (by show w.heap.size+1+1≠w.heap.size+1;omega))).trans c2
  have hK':=((KeepsOthers.setCell W ⟨w.heap.size+1,0,none⟩ (.pointer x)).trans (KeepsOthers.setCell _ ⟨w.heap.size+1+1,0,none⟩ (.int .i64 0))).same D _ hK rfl
  refine ⟨by simp,.inl ⟨_,_,rfl,run_takeDeferred hK', ?_⟩⟩
  have hk5:=cell_kept ((World.cell?_of_block (Below.heap_setCell (W.setCell ⟨w.heap.size+1,0,none⟩ (.pointer x)) ⟨w.heap.size+1+1,0,none⟩ (.int .i64 0) (w.heap.size+1) (by show w.heap.size+1≠w.heap.size+1+1;omega))).trans (World.cell?_setCell_same' W ⟨w.heap.size+1,0,none⟩ (.pointer x) (by rw [c1];rfl))) (grownBy_putObj' _ D (.deferred none)) (fun r e=>by cases e;exact ⟨_,hK',rfl⟩)
  have hb5:=cell_kept (World.cell?_setCell_same' (W.setCell ⟨w.heap.size+1,0,none⟩ (.pointer x)) ⟨w.heap.size+1+1,0,none⟩ (.int .i64 0) (by rw [hb1];rfl)) (grownBy_putObj' _ D (.deferred none)) (fun r e=>by cases e;exact ⟨_,hK',rfl⟩)
  have hB2:=(hB.setCell (p:=⟨w.heap.size+1,0,none⟩) (by simp) (.pointer x)).setCell (p:=⟨w.heap.size+1+1,0,none⟩) (by simp;omega) (.int .i64 0)
  refine ⟨.tuple #[.pointer x,.int .i64 0], ?_,rfl,hB2.trans (belowK_b (w:=w) (Nat.le_refl _) _ D _ _ (by simp at hD;omega) hK' rfl rfl)⟩
  simp [results,Tryz.results183,go_sem,hk5,hb5]
 case stop=>
  rintro D c pre W _ h _ _
  exact h.elim
def RootAt (W:World) (t r:Nat):Prop:=W.cell? ⟨t,0,none⟩=some (.pointer (some ⟨r,0,none⟩))∧W.cell? ⟨r,3,none⟩=some (.bool true)
theorem from_root (t r:Nat) (m:Int) (w:World) (h:RootAt w t r) (hm:w.cell? ⟨2,0,none⟩=some (.int .i64 m)) :
  Calls Tryz.prog 182 #[.pointer (some ⟨t,0,none⟩),.string ⟨#[]⟩,.string ⟨#[47]⟩] w fun e w'=>e=.returned (.tuple #[.pointer (some ⟨r,0,none⟩),.int .i64 0])∧Below w.heap.size w w':=by
 obtain ⟨h0,h3⟩:=h
 have lt:=World.block_lt_of_cell? _ _ h0
 have lr:=World.block_lt_of_cell? _ _ h3
 have c:=leads_none (some ⟨t,0,none⟩) (some ⟨r,0,none⟩) ⟨#[]⟩ 1 noParts_nil m w hm
 go_enter Tryz.func182,Tryz.ntmps182
 go_wp2_with fail
 refine c.mono ?_
 rintro e w1 ⟨rfl,hb⟩
 clear c
 have k0:=(hb.cell (p:=⟨t,0,none⟩) lt).trans h0
 have k3:=(hb.cell (p:=⟨r,3,none⟩) lr).trans h3
 go_wp2_with fail
 refine bodyPost_ret (results_tmp2 rfl _ _ _) rfl ?_
 exact ⟨rfl,hb⟩
theorem look_root (t r:Nat) (m:Int) (w:World) (h:RootAt w t r) (hm:w.cell? ⟨2,0,none⟩=some (.int .i64 m)) :
  Calls Tryz.prog 113 #[.pointer (some ⟨t,0,none⟩),.string ⟨#[]⟩,.string ⟨#[47]⟩] w fun e w'=>e=.returned (.tuple #[.pointer (some ⟨r,0,none⟩),.int .i64 0])∧Below w.heap.size w w':=by
 have c:=from_root t r m w h hm
 obtain ⟨h0,h3⟩:=h
 have lt:=World.block_lt_of_cell? _ _ h0
 have lr:=World.block_lt_of_cell? _ _ h3
 have lm:=World.block_lt_of_cell? _ _ hm
 have hsfx:∀ w:World,Calls Tryz.prog 184 #[.string ⟨#[47]⟩,.string ⟨#[47]⟩] w fun e w'=>e=.returned (.bool true)∧w'=w:=fun w=>(Any.strings_HasSuffix Tryz.lays100 ⟨#[47]⟩ ⟨#[47]⟩ w (by decide)).mono fun e w' h=>h
 go_enter Tryz.func113,Tryz.ntmps113
 go_wp2_with fail
 refine c.mono ?_
 rintro e w1 ⟨rfl,hb⟩
 clear c
 have k0:=(hb.cell (p:=⟨t,0,none⟩) lt).trans h0
 have k3:=(hb.cell (p:=⟨r,3,none⟩) lr).trans h3
 have km:=(hb.cell (p:=⟨2,0,none⟩) lm).trans hm
 go_wp2_with fail
 refine (leads_none (some ⟨t,0,none⟩) (some ⟨r,0,none⟩) ⟨#[47]⟩ 2 noParts_slash m w1 km).mono ?_
 rintro e w2 ⟨rfl,hb2⟩
 have hb3:=hb2.mono hb.size
 have k3:=(hb3.cell (p:=⟨r,3,none⟩) lr).trans k3
 go_wp2_with fail
 refine (hsfx w2).mono ?_
 rintro e w3 ⟨rfl,rfl⟩
 go_wp2_with fail
 refine bodyPost_ret (results_tmp2 rfl _ _ _) rfl ?_
 exact ⟨rfl,hb.trans hb3⟩
end Go.Proofs.YtefpcacnblaokaaGreatDoor

/-
  The walk of tree.Stat at the root. Condition: the tree has a root that is a directory.
-/
set_option maxRecDepth 100000
set_option maxHeartbeats 2000000
namespace Go.Proofs.YtefpcacnblaokaaGreatDoor
open Go.RowKit
def rootStat (W:World) (r:Nat):Prop:=∃ mode tick ino:Int,W.cell? ⟨r,0,none⟩=some (.int .i64 ino)∧W.cell? ⟨r,1,none⟩=some (.int .i64 mode)∧W.cell? ⟨r,2,none⟩=some (.int .i64 tick)∧W.cell? ⟨r,4,none⟩=some (.slice none 0 0)
theorem stat_root (t r:Nat) (m:Int) (w:World) (h:RootAt w t r) (hr:rootStat w r) (hm:w.cell? ⟨2,0,none⟩=some (.int .i64 m)) :
  Calls Tryz.prog 73 #[.pointer (some ⟨t,0,none⟩),.string ⟨#[]⟩,.string ⟨#[47]⟩] w fun e w'=>(∃ i md tk sz lk:Int,e=.returned (.tuple #[.agg #[.int .i64 i,.bool true,.int .i64 md,.int .i64 tk,.int .i64 sz,.int .i64 lk],.int .i64 0]))∧Below w.heap.size w w':=by
 have c:=fun o=>look_root t r m (w.alloc o) ⟨new_cell h.1 o,new_cell h.2 o⟩ (new_cell hm o)
 obtain ⟨h0,h3⟩:=h
 obtain ⟨mode,tick,ino,q0,q1,q2,q4⟩:=hr
 have lr:=World.block_lt_of_cell? _ _ h3
 go_enter Tryz.func73,Tryz.ntmps73
 go_wp2_with fail
 refine (c _).mono ?_
 rintro e w1 ⟨rfl,hb⟩
 clear c
 have hb1:=below_new hb
 have k0:=(hb1.cell (p:=⟨r,0,none⟩) lr).trans q0
 have k1:=(hb1.cell (p:=⟨r,1,none⟩) lr).trans q1
 have k2:=(hb1.cell (p:=⟨r,2,none⟩) lr).trans q2
 have k3:=(hb1.cell (p:=⟨r,3,none⟩) lr).trans h3
 have k4:=(hb1.cell (p:=⟨r,4,none⟩) lr).trans q4
 have hn:=cells_new w #[.int .i64 0,.bool false,.int .i64 0,.int .i64 0,.int .i64 0,.int .i64 0] 145
 clear q0 q1 q2 q4 h0 h3 hm
 go_wp2_with fail
 have a0:=new_cell k0 (.cells #[.int .i64 0,.bool false,.int .i64 0,.int .i64 0,.int .i64 0,.int .i64 0] 145)
 have a1:=new_cell k1 (.cells #[.int .i64 0,.bool false,.int .i64 0,.int .i64 0,.int .i64 0,.int .i64 0] 145)
 have a2:=new_cell k2 (.cells #[.int .i64 0,.bool false,.int .i64 0,.int .i64 0,.int .i64 0,.int .i64 0] 145)
 have a3:=new_cell k3 (.cells #[.int .i64 0,.bool false,.int .i64 0,.int .i64 0,.int .i64 0,.int .i64 0] 145)
 have a4:=new_cell k4 (.cells #[.int .i64 0,.bool false,.int .i64 0,.int .i64 0,.int .i64 0,.int .i64 0] 145)
 go_region
 obtain ⟨w2,hw2⟩:∃ w2,(w1.alloc (.cells #[.int .i64 ino,.bool true,.int .i64 mode,.int .i64 tick,.int .i64 0,.int .i64 1] 145)).drew=w2:=⟨_,rfl⟩
 rw [hw2]
 have b3:w2.cell? ⟨r,3,none⟩=some (.bool true):=by rw [← hw2];exact new_cell k3 _
 have hblk2:Blk w2 w1.heap.size #[.int .i64 ino,.bool true,.int .i64 mode,.int .i64 tick,.int .i64 0,.int .i64 1] 145:=by
  rw [← hw2]
  exact Blk.drew (Blk.new w1 _ _)
 have g0:=hblk2.cell 0 rfl
 have g1:=hblk2.cell 1 rfl
 have g2:=hblk2.cell 2 rfl
 have g3:=hblk2.cell 3 rfl
 have g4:=hblk2.cell 4 rfl
 have g5:=hblk2.cell 5 rfl
 have hlt:w.heap.size < w1.heap.size:=by have:=hb.size;simp at this;omega
 have hblk:Blk w2 w.heap.size #[.int .i64 0,.bool false,.int .i64 0,.int .i64 0,.int .i64 0,.int .i64 0] 145:=by
  rw [← hw2]
  exact Blk.drew (Blk.alloc ((Blk.new w _ _).keep hb (by simp)) _)
 have hb2:Below w.heap.size w w2:=by
  rw [← hw2]
  exact (hb1.alloc hb1.size _).drew
 have e0:=hblk.cell 0 rfl
 have f0:=hblk.free 0
 have e1:=hblk.cell 1 rfl
 have f1:=hblk.free 1
 have e2:=hblk.cell 2 rfl
 have f2:=hblk.free 2
 have e3:=hblk.cell 3 rfl
 have f3:=hblk.free 3
 have e4:=hblk.cell 4 rfl
 have f4:=hblk.free 4
 have e5:=hblk.cell 5 rfl
 have f5:=hblk.free 5
 have HB:=Lib.hid hblk
 clear hblk hblk2 hw2 hn a0 a1 a2 a3 a4 k0 k1 k2 k3 k4
 go_wp2_with fail
 have HS:=((((((HB.out.set 0 (.int .i64 ino)).set 1 (.bool true)).set 2 (.int .i64 mode)).set 3 (.int .i64 tick)).set 4 (.int .i64 0)).set 5 (.int .i64 1))
 have r0:=HS.cell 0 rfl
 have r1:=HS.cell 1 rfl
 have r2:=HS.cell 2 rfl
 have r3:=HS.cell 3 rfl
 have r4:=HS.cell 4 rfl
 have r5:=HS.cell 5 rfl
 refine bodyPost_ret (v:=.tuple #[.agg #[.int .i64 ino,.bool true,.int .i64 mode,.int .i64 tick,.int .i64 0,.int .i64 1],.int .i64 0]) ?_ rfl ⟨⟨ino,mode,tick,0,1,rfl⟩, ?_⟩
 ·simp [results,Tryz.results73,go_sem,r0,r1,r2,r3,r4,r5]
 ·refine hb2.trans ?_
  exact ((((((Below.refl w.heap.size w2).setCell (p:=⟨w.heap.size,0,none⟩) (Nat.le_refl _) _).setCell (p:=⟨w.heap.size,1,none⟩) (Nat.le_refl _) _).setCell (p:=⟨w.heap.size,2,none⟩) (Nat.le_refl _) _).setCell (p:=⟨w.heap.size,3,none⟩) (Nat.le_refl _) _).setCell (p:=⟨w.heap.size,4,none⟩) (Nat.le_refl _) _).setCell (p:=⟨w.heap.size,5,none⟩) (Nat.le_refl _) _
end Go.Proofs.YtefpcacnblaokaaGreatDoor

/-
  The walks of tree.New and of tree.Load of no nodes. No condition.
-/
set_option maxRecDepth 100000
set_option maxHeartbeats 2000000
namespace Go.Proofs.YtefpcacnblaokaaGreatDoor
open Go.RowKit
def TreeAt (W:World) (t r a b:Nat):Prop:=
 Blk W t #[.pointer (some ⟨r,0,none⟩),.map (some b),.int .i64 2,.int .i64 0] 186 ∧
 Blk W r #[.int .i64 1,.int .i64 493,.int .i64 0,.bool true,.slice none 0 0,.map (some a),.pointer (some ⟨r,0,none⟩),.int .i64 0,.int .i64 0] 196 ∧
 W.heap[a]?=some (.map #[] 0)∧W.heap[b]?=some (.map #[] 0)
theorem lt_of_heap {W:World} {k:Nat} {o:Obj} (h:W.heap[k]?=some o):k < W.heap.size:=(Array.getElem?_eq_some_iff.1 h).1
theorem TreeAt.keep {W W':World} {t r a b B:Nat} (h:TreeAt W t r a b) (hb:Below B W W') (h1:t < B) (h2:r < B) (h3:a < B) (h4:b < B):TreeAt W' t r a b:=
 ⟨h.1.keep hb h1,h.2.1.keep hb h2,(hb.block a h3).trans h.2.2.1,(hb.block b h4).trans h.2.2.2⟩
theorem TreeAt.below {W W':World} {t r a b:Nat} (h:TreeAt W t r a b) (hb:Below W.heap.size W W'):TreeAt W' t r a b:=
 h.keep hb h.1.lt h.2.1.lt (lt_of_heap h.2.2.1) (lt_of_heap h.2.2.2)
theorem TreeAt.root {W:World} {t r a b:Nat} (h:TreeAt W t r a b):RootAt W t r∧rootStat W r:=
 ⟨⟨h.1.cell 0 rfl,h.2.1.cell 3 rfl⟩,⟨_,_,_,h.2.1.cell 0 rfl,h.2.1.cell 1 rfl,h.2.1.cell 2 rfl,h.2.1.cell 4 rfl⟩⟩
theorem new_any (w:World) :
  Calls Tryz.prog 108 #[] w fun e w'=>e=.returned (.pointer (some ⟨w.heap.size+1+1+1,0,none⟩))∧TreeAt w' (w.heap.size+1+1+1) (w.heap.size+1) w.heap.size (w.heap.size+1+1)∧Below w.heap.size w w':=by
 have hmm:=@run_makeMap Tryz.prog
 go_enter Tryz.func108,Tryz.ntmps108
 go_wp2_with fail
 go_ret
 have k1:=heap_alloc_new w (.map #[] 0)
 refine ⟨rfl,⟨?_, ?_, ?_, ?_⟩, ?_⟩
 ·have:=Blk.new (((w.alloc (.map #[] 0)).alloc (.cells #[.int .i64 1,.int .i64 493,.int .i64 0,.bool true,.slice none 0 0,.map (some w.heap.size),.pointer (some ⟨w.heap.size+1,0,none⟩),.int .i64 0,.int .i64 0] 196)).alloc (.map #[] 0)) #[.pointer (some ⟨w.heap.size+1,0,none⟩),.map (some (w.heap.size+1+1)),.int .i64 2,.int .i64 0] 186
  simpa only [World.size_alloc] using this
 ·have:=Blk.new (w.alloc (.map #[] 0)) #[.int .i64 1,.int .i64 493,.int .i64 0,.bool true,.slice none 0 0,.map (some w.heap.size),.pointer (some ⟨w.heap.size+1,0,none⟩),.int .i64 0,.int .i64 0] 196
  simp only [World.size_alloc] at this
  exact (this.alloc _).alloc _
 ·exact (Below.heap_alloc _ _ _ (by simp;omega)).trans ((Below.heap_alloc _ _ _ (by simp;omega)).trans ((Below.heap_alloc _ _ _ (by simp)).trans k1))
 ·have:=heap_alloc_new ((w.alloc (.map #[] 0)).alloc (.cells #[.int .i64 1,.int .i64 493,.int .i64 0,.bool true,.slice none 0 0,.map (some w.heap.size),.pointer (some ⟨w.heap.size+1,0,none⟩),.int .i64 0,.int .i64 0] 196)) (.map #[] 0)
  simp only [World.size_alloc] at this
  exact (Below.heap_alloc _ _ _ (by simp)).trans this
 ·exact ((((Below.refl _ w).alloc (Nat.le_refl _) _).alloc (by simp) _).alloc (by simp;omega) _).alloc (by simp;omega) _
theorem load_none (w:World) :
  Calls Tryz.prog 72 #[.slice none 0 0] w fun e w'=>∃ t r a b,e=.returned (.tuple #[.pointer (some ⟨t,0,none⟩),.int .i64 0])∧TreeAt w' t r a b∧w.heap.size≤t∧w.heap.size≤r∧w.heap.size≤a∧w.heap.size≤b∧Below w.heap.size w w':=by
 have hmm:=@run_makeMap Tryz.prog
 go_enter Tryz.func72,Tryz.ntmps72
 go_wp2_with fail
 refine (new_any w).mono ?_
 rintro e w1 ⟨rfl,ht,hb⟩
 go_wp2_with fail
 go_loopw [16] (fun p wr=>p=.int .i64 0∧wr=w1.alloc (.map #[] 0)) (fun _ _=>0)
 case atStart=>exact ⟨rfl,rfl⟩
 case round=>
  obtain ⟨rfl,rfl⟩:=hrel
  go_wp2_with fail
  go_ret2
  refine ⟨_,_,_,_,rfl,ht.below ((Below.refl _ _).alloc (Nat.le_refl _) _), ?_, ?_, ?_, ?_,hb.alloc hb.size _⟩ <;> omega
end Go.Proofs.YtefpcacnblaokaaGreatDoor

/-
  The walk of proc.may at a job of no nodes. Condition: Cwd is empty.
-/
set_option maxRecDepth 100000
set_option maxHeartbeats 2000000
namespace Go.Proofs.YtefpcacnblaokaaGreatDoor
open Go.RowKit
def jobV (args inp:Value) (buf line run:Int):Value:=.agg #[args,.slice none 0 0,.string ⟨#[]⟩,inp,.slice none 0 0,.int .i64 buf,.int .i64 line,.int .i64 run,.slice none 0 0,.int .i64 0,.slice none 0 0]
theorem may_yes (pa:Option Addr) (na ca:Nat) (pi:Option Addr) (ni ci:Nat) (buf line run:Int) (m:Int) (w:World) (hna:1≤na) (h1:1≤buf) (h2:1≤line) (h3:line≤run) (h4:run≤1099511627776) (h5:buf≤1099511627776) (hm:w.cell? ⟨2,0,none⟩=some (.int .i64 m)) :
  Calls Tryz.prog 39 #[jobV (.slice pa na ca) (.slice pi ni ci) buf line run] w fun e w'=>∃ t r a b,e=.returned (.tuple #[.pointer (some ⟨t,0,none⟩),.bool true])∧TreeAt w' t r a b∧w.heap.size≤t∧w.heap.size≤r∧w.heap.size≤a∧w.heap.size≤b∧Below w.heap.size w w':=by
 unfold jobV
 go_enter Tryz.func39,Tryz.ntmps39
 go_wp2_with fail
 refine (load_none _).mono ?_
 rintro e w1 ⟨t,r,a,b,rfl,ht,u1,u2,u3,u4,hb⟩
 have hblk:Blk w1 w.heap.size #[.slice pa na ca,.slice none 0 0,.string ⟨#[]⟩,.slice pi ni ci,.slice none 0 0,.int .i64 buf,.int .i64 line,.int .i64 run,.slice none 0 0,.int .i64 0,.slice none 0 0] 32:=(Blk.new w _ _).keep hb (by simp)
 have lm:=World.block_lt_of_cell? _ _ hm
 have hb1:=below_new hb
 have hm1:=(hb1.cell (p:=⟨2,0,none⟩) lm).trans hm
 have e0:=hblk.cell 0 rfl
 have e2:=hblk.cell 2 rfl
 have e5:=hblk.cell 5 rfl
 have e6:=hblk.cell 6 rfl
 have e7:=hblk.cell 7 rfl
 have e9:=hblk.cell 9 rfl
 have hA:decide ((na:Int) < 1)=false:=by simp;omega
 have hB:decide (buf < 1)=false:=by simp;omega
 have hC:decide (line < 1)=false:=by simp;omega
 have hD:decide (run < line)=false:=by simp;omega
 have hE:decide (1099511627776 < max buf run)=false:=by simp;omega
 have hst:=stat_root t r m w1 ht.root.1 ht.root.2 hm1
 simp only [World.size_alloc] at u1 u2 u3 u4
 clear hblk hm hna h1 h2 h3 h4 h5 hb
 go_wp2_with fail
 rw [show ((⟨#[47]⟩:ByteArray) ++ ⟨#[]⟩)=⟨#[47]⟩ from rfl]
 refine hst.mono ?_
 rintro e w2 ⟨⟨i,md,tk,sz,lk,rfl⟩,hb2⟩
 clear hst e0 e2 e5 e6 e7 e9
 go_wp2_with fail
 have ht2:=ht.below hb2
 have hb3:=hb1.trans (hb2.mono hb1.size)
 obtain ⟨w3,hw3⟩:∃ w3,w2.alloc (.cells #[.int .i64 i,.bool true,.int .i64 md,.int .i64 tk,.int .i64 sz,.int .i64 lk] 145)=w3:=⟨_,rfl⟩
 have hblk3:Blk w3 w2.heap.size #[.int .i64 i,.bool true,.int .i64 md,.int .i64 tk,.int .i64 sz,.int .i64 lk] 145:=by rw [← hw3];exact Blk.new _ _ _
 have q1:=hblk3.cell 1 rfl
 have ht3:TreeAt w3 t r a b:=by rw [← hw3];exact ht2.below ((Below.refl _ _).alloc (Nat.le_refl _) _)
 have hb4:Below w.heap.size w w3:=by rw [← hw3];exact hb3.alloc hb3.size _
 try rw [hw3]
 go_region
 go_wp2_with fail
 go_ret2
 refine ⟨t,r,a,b,rfl,⟨Blk.drew ht3.1,Blk.drew ht3.2.1,ht3.2.2.1,ht3.2.2.2⟩, ?_, ?_, ?_, ?_,hb4.drew⟩ <;> omega
end Go.Proofs.YtefpcacnblaokaaGreatDoor

/-
  The walks of kern.New without faults and of Table. No condition.
-/
set_option maxRecDepth 100000
set_option maxHeartbeats 2000000
namespace Go.Proofs.YtefpcacnblaokaaGreatDoor
open Go.RowKit
theorem faults_nil (w:World):Calls Tryz.prog 74 #[.slice none 0 0] w fun e w'=>e=.returned (.slice none 0 0)∧w'=w:=by
 have q24:∀ (w:World) (a:Option Addr) (n c n' c':Nat),(binOp .eql 29 (.slice a n c) (.slice none n' c')).run Tryz.prog w=.ok (.bool a.isNone) w:=fun w a n c n' c'=>Lib.run_eql_slice_nil w _ _ a n c n' c' Tryz.underlying29
 go_enter Tryz.func74,Tryz.ntmps74
 go_wp2_with fail
 go_ret
 exact ⟨rfl,rfl⟩
def KernAt (W:World) (k t:Nat) (last:Int) (m:Nat):Prop:=
 Blk W k #[.pointer (some ⟨t,0,none⟩),.int .i64 0,.slice none 0 0,.int .i64 0,.int .i64 last,.map (some m)] 158
def TabAt (W:World) (tb k:Nat) (v0 v1 v2:Value):Prop:=
 Blk W tb #[.pointer (some ⟨k,0,none⟩),v0,v1,v2,.nilIface,.nilIface,.nilIface,.nilIface,.nilIface,.nilIface,.nilIface,.nilIface,.nilIface,.nilIface,.nilIface,.nilIface,.nilIface] 166
theorem kernNew_any (t:Nat) (w:World):Calls Tryz.prog 40 #[.pointer (some ⟨t,0,none⟩),.slice none 0 0,.int .i64 0] w fun e w'=>∃ k m,e=.returned (.pointer (some ⟨k,0,none⟩))∧KernAt w' k t 0 m∧w'.heap[m]?=some (.map #[] 0)∧w.heap.size≤k∧w.heap.size≤m∧k≠m∧Below w.heap.size w w':=by
 have hmm:=@run_makeMap Tryz.prog
 go_enter Tryz.func40,Tryz.ntmps40
 go_wp2_with fail
 refine (faults_nil _).mono ?_
 rintro e w' ⟨rfl,rfl⟩
 go_wp2_with fail
 go_ret
 refine ⟨_,_,rfl, ?_, ?_, ?_,Nat.le_refl _, ?_,((Below.refl _ _).alloc (Nat.le_refl _) _).alloc (by simp) _⟩
 ·have:=Blk.new (w'.alloc (.map #[] 0)) #[.pointer (some ⟨t,0,none⟩),.int .i64 0,.slice none 0 0,.int .i64 0,.int .i64 0,.map (some w'.heap.size)] 158
  simp only [World.size_alloc] at this
  exact this
 ·exact (Below.heap_alloc _ _ _ (by simp)).trans (heap_alloc_new w' _)
 ·omega
 ·omega
theorem table_any (k:Nat) (w:World):Calls Tryz.prog 75 #[.pointer (some ⟨k,0,none⟩)] w fun e w'=>e=.returned (.pointer (some ⟨w.heap.size,0,none⟩))∧TabAt w' w.heap.size k .nilIface .nilIface .nilIface∧Below w.heap.size w w':=by
 go_enter Tryz.func75,Tryz.ntmps75
 go_wp2_with fail
 go_ret
 exact ⟨rfl,Blk.new _ _ _,(Below.refl _ _).alloc (Nat.le_refl _) _⟩
theorem fh:Tryz.prog.funcs[186]?=some Tryz.f186:=by kernel_rfl
theorem atomicAdd (b:Nat) (off:Nat) (x:Int) (hx0:0≤x) (hx1:x < 1000000) (w:World) (hc:w.cell? ⟨b,off,none⟩=some (.int .i64 x)) (hf:w.frozen? ⟨b,off,none⟩=false) :
  Calls Tryz.prog 116 #[.pointer (some ⟨b,off,none⟩),.int .i64 1] w fun e w'=>e=.returned (.int .i64 (x+1))∧w'=w.setCell ⟨b,off,none⟩ (.int .i64 (x+1)):=by
 have hd:=run_call_add (P:=Tryz.prog) (f:=186) fh (by kernel_rfl) rfl (by kernel_rfl) .i64 (by kernel_rfl) (y:=1) (s:=x+1) hc hf (by simp [go_sem,IntKind.wrap_i64];omega)
 go_enter Tryz.func116,Tryz.ntmps116
 go_wp2_with fail
 go_ret
 exact ⟨rfl,rfl⟩
end Go.Proofs.YtefpcacnblaokaaGreatDoor

/-
  The map of a kernel's things; the walks of add, Source, Sink. Condition: fewer things than a million.
-/
set_option maxRecDepth 100000
set_option maxHeartbeats 2000000
namespace Go.Proofs.YtefpcacnblaokaaGreatDoor
open Go.RowKit Go.Shelf Go.Maps
def thV (t:TypeId) (b:Nat):Value:=.iface t (.pointer (some ⟨b,0,none⟩))
def thD (t:TypeId) (b:Nat):DataW Unit:=.agg [.lit (.int .i64 t),.lit (.int .i64 b)]
def thElem:Value→Option (DataW Unit × List MemPlace)
 | .iface t (.pointer (some ⟨b,0,none⟩))=>some (thD t b,[])
 | .nilIface=>some (.agg [],[])
 | _=>none
theorem thElem_of (t:TypeId) (b:Nat):thElem (thV t b)=some (thD t b,[]):=rfl
theorem kInt:Keyed Tryz.prog 3:=Maps.int_keyed Tryz.underlying3
theorem wf_small (last:Nat) (hl:last < 1000):(Lit.int .i64 ((last:Int)+1)).wf=true:=by
 have e:wrap64 ((last:Int)+1)=(last:Int)+1:=by unfold wrap64;omega
 have:=wrap64_wf ((last:Int)+1)
 generalize wrap64 ((last:Int)+1)=z at e this
 subst e
 exact this
theorem add_any (k t last m:Nat) (D:DataW Unit) (ty:TypeId) (b:Nat) (w:World) (hk:KernAt w k t last m) (ho:w.ownsMap Tryz.prog 3 thElem m last D) (hl:last < 1000) (hkm:k≠m) :
  Calls Tryz.prog 78 #[.pointer (some ⟨k,0,none⟩),thV ty b] w fun e w'=>e=.returned (.int .i64 (last+1:Nat))∧KernAt w' k t (last+1:Nat) m∧w'.ownsMap Tryz.prog 3 thElem m (last+1) (D.put (.int .i64 (last+1:Nat)) (thD ty b))∧Kept (fun j=>j=k∨j=m) w w':=by
 have c:=atomicAdd k 4 last (by omega) (by omega) w (hk.cell 4 rfl) (hk.free 4)
 obtain ⟨w1,hw1⟩:∃ w1,w.setCell ⟨k,4,none⟩ (.int .i64 ((last:Int)+1))=w1:=⟨_,rfl⟩
 rw [hw1] at c
 have hk1:KernAt w1 k t (last+1:Nat) m:=by
  rw [← hw1]
  exact Blk.set hk 4 _
 have ho1:w1.ownsMap Tryz.prog 3 thElem m last D:=by
  rw [← hw1]
  exact ho.setCell (fun e=>hkm e.symm) _
 have hK1:Kept (fun j=>j=k∨j=m) w w1:=by
  rw [← hw1]
  exact (Kept.refl _ _).setCell (.inl (.inl rfl)) 4 _
 have q5:w1.cell? ⟨k,5,none⟩=some (.map (some m)):=hk1.cell 5 rfl
 have hwf:=wf_small last hl
 have hkey:keyOf Tryz.prog 3 (.int .i64 ((last:Int)+1))=some (.int .i64 ((last:Int)+1)):=keyOf_int_mk Tryz.underlying3 hwf
 obtain ⟨w2,hrun,ho2,hg2⟩:=ho1.update kInt (t:=151) Tryz.underlying151 (show last < maxLen from Nat.lt_trans hl (by decide)) hkey (thElem_of ty b)
 have hk2:KernAt w2 k t (last+1:Nat) m:=(hg2.block k hk1.lt (by simp [hkm])).trans hk1
 have hK2:Kept (fun j=>j=k∨j=m) w w2:=hK1.trans ⟨hg2.os,hg2.tape,hg2.output,hg2.size,fun j hj hs=>hg2.block j hj (by simp;exact fun e=>hs (.inr e))⟩
 have HO:=Lib.hid ho2
 have HK:=Lib.hid hk2
 have HX:=Lib.hid hK2
 clear ho hk ho1 hk1 hw1 ho2 hk2 hg2 hK1 hK2 hkey hwf
 unfold thV at *
 go_enter Tryz.func78,Tryz.ntmps78
 go_wp2_with fail
 refine c.mono ?_
 rintro e w3 ⟨rfl,rfl⟩
 go_wp2_with fail
 go_ret
 exact ⟨rfl,HK.out,HO.out,HX.out⟩
end Go.Proofs.YtefpcacnblaokaaGreatDoor

/-
  The walks of Sink, Source. Condition: fewer things than a thousand.
-/
set_option maxRecDepth 100000
set_option maxHeartbeats 2000000
namespace Go.Proofs.YtefpcacnblaokaaGreatDoor
open Go.RowKit Go.Shelf Go.Maps
theorem sink_any (k t last m:Nat) (D:DataW Unit) (w:World) (hk:KernAt w k t last m) (ho:w.ownsMap Tryz.prog 3 thElem m last D) (hl:last < 1000) (hkm:k≠m) :
  Calls Tryz.prog 45 #[.pointer (some ⟨k,0,none⟩)] w fun e w'=>e=.returned (.int .i64 (last+1:Nat))∧KernAt w' k t (last+1:Nat) m∧w'.ownsMap Tryz.prog 3 thElem m (last+1) (D.put (.int .i64 (last+1:Nat)) (thD 177 w.heap.size))∧Blk w' w.heap.size #[.slice none 0 0] 178∧Kept (fun j=>j=k∨j=m) w w':=by
 have hlk:=hk.lt
 have hlm:=ho.lt
 obtain ⟨w1,hw1⟩:∃ w1,w.alloc (.cells #[.slice none 0 0] 178)=w1:=⟨_,rfl⟩
 have hk1:KernAt w1 k t last m:=by rw [← hw1];exact Blk.alloc hk _
 have ho1:w1.ownsMap Tryz.prog 3 thElem m last D:=by rw [← hw1];exact ho.kept (World.grownBy_alloc _ _ none) (by simp)
 have hb1:Blk w1 w.heap.size #[.slice none 0 0] 178:=by rw [← hw1];exact Blk.new _ _ _
 have hK1:Kept (fun j=>j=k∨j=m) w w1:=by rw [← hw1];exact (Kept.refl _ _).alloc _
 have c:=add_any k t last m D 177 w.heap.size w1 hk1 ho1 hl hkm
 unfold thV at c
 have HB:=Lib.hid hb1
 have HX:=Lib.hid hK1
 clear hk ho hk1 ho1 hb1 hK1
 go_enter Tryz.func45,Tryz.ntmps45
 go_wp2_with fail
 try rw [hw1]
 refine c.mono ?_
 rintro e w2 ⟨rfl,hk2,ho2,hK2⟩
 have HY:=Lib.hid hk2
 have HZ:=Lib.hid ho2
 have HW:=Lib.hid hK2
 clear hk2 ho2 hK2
 go_wp2_with fail
 go_ret
 refine ⟨rfl,HY.out,HZ.out,HB.out.kept HW.out (by rintro (h | h) <;> omega),HX.out.trans HW.out⟩
end Go.Proofs.YtefpcacnblaokaaGreatDoor

/-
  The walks of taken, left at a source or a sink. No condition.
-/
set_option maxRecDepth 100000
set_option maxHeartbeats 2000000
namespace Go.Proofs.YtefpcacnblaokaaGreatDoor
open Go.RowKit Go.Shelf Go.Maps
def Plain (t:TypeId):Prop:=t=173∨t=177
theorem ta_out_source (v:Value) (w:World):(Instr.typeAssert (.iface 173 v) 162 299 true).run Tryz.prog w=.ok (.tuple #[(.agg #[.pointer none]),.bool false]) w:=by kernel_rfl
theorem ta_out_sink (v:Value) (w:World):(Instr.typeAssert (.iface 177 v) 162 299 true).run Tryz.prog w=.ok (.tuple #[(.agg #[.pointer none]),.bool false]) w:=by kernel_rfl
theorem ta_in_source (v:Value) (w:World):(Instr.typeAssert (.iface 173 v) 162 302 true).run Tryz.prog w=.ok (.tuple #[(.agg #[.pointer none]),.bool false]) w:=by kernel_rfl
theorem ta_in_sink (v:Value) (w:World):(Instr.typeAssert (.iface 177 v) 162 302 true).run Tryz.prog w=.ok (.tuple #[(.agg #[.pointer none]),.bool false]) w:=by kernel_rfl
theorem ta_file_source (v:Value) (w:World):(Instr.typeAssert (.iface 173 v) 162 167 true).run Tryz.prog w=.ok (.tuple #[(.pointer none),.bool false]) w:=by kernel_rfl
theorem ta_file_sink (v:Value) (w:World):(Instr.typeAssert (.iface 177 v) 162 167 true).run Tryz.prog w=.ok (.tuple #[(.pointer none),.bool false]) w:=by kernel_rfl
theorem taken_any (k:Option Addr) (ty:TypeId) (hty:Plain ty) (b:Nat) (w:World):Calls Tryz.prog 114 #[.pointer k,thV ty b] w fun e w'=>(∃ v,e=.returned v)∧w'=w:=by
 unfold thV
 rcases hty with rfl | rfl
 all_goals
  have h1:=ta_out_source
  have h2:=ta_out_sink
  have h3:=ta_in_source
  have h4:=ta_in_sink
  have h5:=ta_file_source
  have h6:=ta_file_sink
  go_enter Tryz.func114,Tryz.ntmps114
  go_wp2_with fail
  refine bodyPost_end (results_none rfl _ _ _) rfl ?_
  exact ⟨⟨_,rfl⟩,rfl⟩
theorem left_any (k:Option Addr) (ty:TypeId) (hty:Plain ty) (b:Nat) (w:World):Calls Tryz.prog 115 #[.pointer k,thV ty b] w fun e w'=>(∃ v,e=.returned v)∧w'=w:=by
 unfold thV
 rcases hty with rfl | rfl
 all_goals
  have h1:=ta_out_source
  have h2:=ta_out_sink
  have h3:=ta_in_source
  have h4:=ta_in_sink
  have h5:=ta_file_source
  have h6:=ta_file_sink
  go_enter Tryz.func115,Tryz.ntmps115
  go_wp2_with fail
  refine bodyPost_end (results_none rfl _ _ _) rfl ?_
  exact ⟨⟨_,rfl⟩,rfl⟩
end Go.Proofs.YtefpcacnblaokaaGreatDoor

/-
  The walk of Table.set, where the descriptor had nothing. Condition: the descriptor is one of sixteen.
-/
set_option maxRecDepth 100000
set_option maxHeartbeats 2000000
namespace Go.Proofs.YtefpcacnblaokaaGreatDoor
open Go.RowKit Go.Shelf Go.Maps
theorem set_any (tb k:Nat) (fd:Nat) (hfd:fd < 16) (ty:TypeId) (hty:Plain ty) (b:Nat) (w:World) (hk:w.cell? ⟨tb,0,none⟩=some (.pointer (some ⟨k,0,none⟩))) (hc:w.cell? ⟨tb,1+fd,none⟩=some .nilIface) (hf:w.frozen? ⟨tb,1+fd,none⟩=false) :
  Calls Tryz.prog 77 #[.pointer (some ⟨tb,0,none⟩),.int .i64 fd,thV ty b] w fun e w'=>(∃ v,e=.returned v)∧w'=w.setCell ⟨tb,1+fd,none⟩ (thV ty b):=by
 have c:=taken_any (some ⟨k,0,none⟩) ty hty b w
 unfold thV at *
 go_enter Tryz.func77,Tryz.ntmps77
 go_wp2_with fail
 refine c.mono ?_
 rintro e w1 ⟨⟨v,rfl⟩,rfl⟩
 go_wp2_with fail
 refine bodyPost_end (results_none rfl _ _ _) rfl ?_
 exact ⟨⟨_,rfl⟩,rfl⟩
end Go.Proofs.YtefpcacnblaokaaGreatDoor

/-
  The walk of Table.Put. Condition: the thing is there, a source or a sink; the descriptor had nothing.
-/
set_option maxRecDepth 100000
set_option maxHeartbeats 2000000
namespace Go.Proofs.YtefpcacnblaokaaGreatDoor
open Go.RowKit Go.Shelf Go.Maps
theorem thElem_inv {v:Value} {t:TypeId} {b:Nat} {ps:List MemPlace} (h:thElem v=some (thD t b,ps)):v=thV t b:=by
 unfold thElem at h
 split at h
 ·simp only [thD,Option.some.injEq,Prod.mk.injEq,DataW.agg.injEq,List.cons.injEq,DataW.lit.injEq,Lit.int.injEq,true_and,and_true] at h
  obtain ⟨⟨h1,h2⟩,-⟩:=h
  obtain rfl:=Int.ofNat.inj h1
  obtain rfl:=Int.ofNat.inj h2
  rfl
 ·simp [thD] at h
 ·cases h
theorem put_any (tb k t last m:Nat) (D:DataW Unit) (fd:Nat) (hfd:fd < 16) (n:Nat) (hn:n < 1000) (ty:TypeId) (hty:Plain ty) (b:Nat) (w:World) (hkn:KernAt w k t last m) (ho:w.ownsMap Tryz.prog 3 thElem m last D)
  (hat:D.atKey (.int .i64 (n+1:Nat)) (.agg [])=thD ty b) (hhas:Maps.has D (.int .i64 (n+1:Nat))=true)
  (hk:w.cell? ⟨tb,0,none⟩=some (.pointer (some ⟨k,0,none⟩))) (hc:w.cell? ⟨tb,1+fd,none⟩=some .nilIface) (hf:w.frozen? ⟨tb,1+fd,none⟩=false) :
  Calls Tryz.prog 43 #[.pointer (some ⟨tb,0,none⟩),.int .i64 fd,.int .i64 ((n:Int)+1)] w fun e w'=>(∃ v,e=.returned v)∧w'=w.setCell ⟨tb,1+fd,none⟩ (thV ty b):=by
 have hkey:keyOf Tryz.prog 3 (.int .i64 ((n:Int)+1))=some (.int .i64 ((n:Int)+1)):=keyOf_int_mk Tryz.underlying3 (wf_small n hn)
 obtain ⟨v,ps,hrun,hv⟩:=ho.look_ok kInt (t:=151) Tryz.underlying151 (z:=.nilIface) (by kernel_rfl) (zd:=.agg []) (zp:=[]) rfl hkey
 rw [show ((n:Int)+1)=((n+1:Nat):Int) from rfl,hat] at hv
 rw [show ((n:Int)+1)=((n+1:Nat):Int) from rfl,hhas,show (((n+1:Nat):Int))=(n:Int)+1 from rfl] at hrun
 obtain rfl:=thElem_inv hv
 have c:=set_any tb k fd hfd ty hty b w hk hc hf
 have q5:w.cell? ⟨k,5,none⟩=some (.map (some m)):=hkn.cell 5 rfl
 have h5:=ta_file_source
 have h6:=ta_file_sink
 clear hkn ho hv hat hhas hkey hc hf
 unfold thV at *
 rcases hty with rfl | rfl
 all_goals
  go_enter Tryz.func43,Tryz.ntmps43
  go_wp2_with fail
  refine c.mono ?_
  rintro e w1 ⟨⟨v,rfl⟩,rfl⟩
  go_wp2_with fail
  go_ret
  exact ⟨⟨_,rfl⟩,rfl⟩
end Go.Proofs.YtefpcacnblaokaaGreatDoor

/-
  The walks of bytes.Clone, Source and Said. Conditions: fewer things than a thousand; lengths below 2^47.
-/
set_option maxRecDepth 100000
set_option maxHeartbeats 2000000
namespace Go.Proofs.YtefpcacnblaokaaGreatDoor
open Go.RowKit Go.Shelf Go.Maps
def Sl (w:World) (N:Nat→Prop) (v:Value) (xs:Bts):Prop:=
 (xs=[]∧v=.slice none 0 0)∨∃ g o c,v=.slice (some ⟨g,o,none⟩) xs.length c∧xs.length≤c∧g < w.heap.size∧N g∧∀ i,i < xs.length→w.cell? ⟨g,o+i,none⟩=some (.int .u8 (xs.getD i 0).toNat)
theorem Sl.nil (w:World) (N:Nat→Prop):Sl w N (.slice none 0 0) []:=.inl ⟨rfl,rfl⟩
theorem Sl.mono {w:World} {N M:Nat→Prop} {v:Value} {xs:Bts} (h:Sl w N v xs) (hM:∀ g,g < w.heap.size→N g→M g):Sl w M v xs:=by
 rcases h with h | ⟨g,o,c,h1,h2,h3,h4,h5⟩
 ·exact .inl h
 ·exact .inr ⟨g,o,c,h1,h2,h3,hM g h3 h4,h5⟩
theorem Sl.kept {w w':World} {N S:Nat→Prop} {v:Value} {xs:Bts} (h:Sl w N v xs) (hk:Kept S w w') (hS:∀ g,g < w.heap.size→N g→¬ S g):Sl w' N v xs:=by
 rcases h with h | ⟨g,o,c,h1,h2,h3,h4,h5⟩
 ·exact .inl h
 ·exact .inr ⟨g,o,c,h1,h2,Nat.lt_of_lt_of_le h3 hk.size,h4,fun i hi=>(World.cell?_of_block (hk.block g h3 (hS g h3 h4))).trans (h5 i hi)⟩
theorem Sl.below {w w':World} {N:Nat→Prop} {v:Value} {xs:Bts} (h:Sl w N v xs) (hb:Below w.heap.size w w'):Sl w' N v xs:=h.kept (Kept.of_below (S:=fun _=>False) hb) fun _ _ _=>id
theorem Sl.mono' {w w0:World} {N M:Nat→Prop} {v:Value} {xs:Bts} (h:Sl w N v xs) (h0:Sl w0 N v xs) (hM:∀ g,g < w0.heap.size→N g→M g):Sl w M v xs:=by
 rcases h with h | ⟨g,o,c,h1,h2,h3,h4,h5⟩
 ·exact .inl h
 ·rcases h0 with h0 | ⟨g',o',c',e1,e2,e3,e4,e5⟩
  ·exact .inl h0
  ·rw [h1] at e1
   injection e1 with e1
   injection e1 with e1
   injection e1 with e1
   subst e1
   exact .inr ⟨g,o,c,h1,h2,h3,hM g e3 h4,h5⟩
theorem Sl.bs {w:World} {N:Nat→Prop} {v:Value} {xs:Bts} (h:Sl w N v xs):∃ p c,v=.slice p xs.length c∧Bs w p xs∧xs.length≤c:=by
 rcases h with ⟨rfl,rfl⟩ | ⟨g,o,c,h1,h2,h3,h4,h5⟩
 ·exact ⟨none,0,rfl,Bs.nil _ _,Nat.le_refl _⟩
 ·exact ⟨_,c,h1,fun _=>⟨g,o,rfl,h5⟩,h2⟩
theorem Sl.own {w:World} {B:Nat} {v:Value} {xs:Bts} (h:w.ownsRow B 5 1 v xs.length (xs.map u8V)):Sl w (fun g=>B≤g∧v.ownBlock=some g) v xs:=by
 rcases h.2 with ⟨h1,h2⟩ | ⟨g,cap,cs,rfl,hg,hb,hcap,-⟩
 ·exact .inl ⟨List.eq_nil_of_length_eq_zero h2,h1⟩
 ·refine .inr ⟨g,0,cap,rfl,hcap,lt_of_block hb,⟨hg,rfl⟩,fun i hi=>?_⟩
  have:=h.cellAt i (by omega)
  rw [Nat.zero_add,this]
  simp [List.getD_eq_getElem?_getD,hi,u8V]
theorem getD_take (xs:Bts) (n i:Nat) (h:i < n):(xs.take n).getD i 0=xs.getD i 0:=by
 simp [List.getD_eq_getElem?_getD,h]
theorem getD_drop (xs:Bts) (n i:Nat):(xs.drop n).getD i 0=xs.getD (n+i) 0:=by
 simp [List.getD_eq_getElem?_getD,List.getElem?_drop]
theorem Sl.part {w:World} {N:Nat→Prop} {g o c:Nat} {xs:Bts} (hc:∀ i,i < xs.length→w.cell? ⟨g,o+i,none⟩=some (.int .u8 (xs.getD i 0).toNat)) (hg:g < w.heap.size) (hN:N g) (a n:Nat) (han:a+n≤xs.length) (hcap:n≤c) :
  Sl w N (.slice (some ⟨g,o+a,none⟩) n c) ((xs.drop a).take n):=by
 have hl:((xs.drop a).take n).length=n:=by simp;omega
 refine .inr ⟨g,o+a,c,by rw [hl],by rw [hl];exact hcap,hg,hN,fun i hi=>?_⟩
 rw [hl] at hi
 rw [getD_take _ _ _ hi,getD_drop,Nat.add_assoc]
 exact hc (a+i) (by omega)
def SrcAt (W:World) (N:Nat→Prop) (b:Nat) (inp:Bts):Prop:=∃ v,Blk W b #[v] 176∧Sl W N v inp
theorem clone_bytes (q:Option Addr) (xs:Bts) (c:Nat) (w:World) (hx:Bs w q xs) (hbig:xs.length≤140737488355328) :
  Calls Tryz.prog 79 #[.slice q xs.length c] w fun e w'=>∃ v',e=.returned v'∧w'.ownsRow w.heap.size 5 1 v' xs.length (xs.map u8V)∧Below w.heap.size w w':=by
 have hmap:(nums xs).map (Value.int .u8)=xs.map u8V:=by
  unfold nums
  rw [List.map_map]
  rfl
 cases q with
 | none=>
  have h0:xs.length=0:=by
   rcases Nat.eq_zero_or_pos xs.length with h | h
   ·exact h
   ·obtain ⟨b,o,e,-⟩:=hx h
    cases e
  obtain rfl:xs=[]:=List.eq_nil_of_length_eq_zero h0
  refine (Any.bytes_Clone_nil Tryz.laysSlK4 0 c w).mono ?_
  rintro e w' ⟨rfl,rfl⟩
  exact ⟨_,rfl,World.ownsRow_nil _ _ _ _,Below.refl _ _⟩
 | some a=>
  refine (Any.bytes_Clone_at Tryz.laysSlK4 a xs.length c (nums xs) w (nums_length xs) hbig fun i hi=>?_).mono ?_
  ·obtain ⟨b,o,e,hc⟩:=hx (by omega)
   obtain rfl:=Option.some.inj e
   rw [nums_getD xs i hi]
   rw [show ((⟨b,o,none⟩:Addr).add i)=⟨b,o+i,none⟩ by simp only [Addr.add];split <;> simp_all]
   exact hc i hi
  ·rintro e w' ⟨v',rfl,hown,-,hb⟩
   rw [hmap] at hown
   exact ⟨v',rfl,hown,hb⟩
theorem map_same {w w':World} {m n:Nat} {D:DataW Unit} (h:w.ownsMap Tryz.prog 3 thElem m n D) (e:w'.heap[m]?=w.heap[m]?):w'.ownsMap Tryz.prog 3 thElem m n D:=by
 obtain ⟨es,clock,hb,F,hs,hD⟩:=h
 exact ⟨es,clock,e.trans hb,F,hs,hD⟩
theorem source_any (k t last m:Nat) (D:DataW Unit) (q:Option Addr) (xs:Bts) (c:Nat) (w:World) (hk:KernAt w k t last m) (ho:w.ownsMap Tryz.prog 3 thElem m last D) (hl:last < 1000) (hkm:k≠m) (hx:Bs w q xs) (hbig:xs.length≤140737488355328) :
  Calls Tryz.prog 44 #[.pointer (some ⟨k,0,none⟩),.slice q xs.length c] w fun e w'=>∃ b,e=.returned (.int .i64 (last+1:Nat))∧KernAt w' k t (last+1:Nat) m∧w'.ownsMap Tryz.prog 3 thElem m (last+1) (D.put (.int .i64 (last+1:Nat)) (thD 173 b))∧SrcAt w' (fun g=>w.heap.size≤g∧g < b) b xs∧w.heap.size≤b∧Kept (fun j=>j=k∨j=m) w w':=by
 have hlk:=hk.lt
 have hlm:=ho.lt
 have cc:=clone_bytes q xs c w hx hbig
 clear hx
 go_enter Tryz.func44,Tryz.ntmps44
 go_wp2_with fail
 refine cc.mono ?_
 rintro e w0 ⟨v',rfl,hown,hb0⟩
 have hsl:=(Sl.own hown).mono (M:=fun g=>w.heap.size≤g∧g < w0.heap.size) fun g hg h=>⟨h.1,hg⟩
 obtain ⟨q',c',hv',-⟩:=hsl.bs
 obtain ⟨w1,hw1⟩:∃ w1,w0.alloc (.cells #[v'] 176)=w1:=⟨_,rfl⟩
 have hb1:Below w.heap.size w w1:=by rw [← hw1];exact hb0.alloc hb0.size _
 have hk1:KernAt w1 k t last m:=Blk.keep hk hb1 hlk
 have ho1:w1.ownsMap Tryz.prog 3 thElem m last D:=by
  have:w0.ownsMap Tryz.prog 3 thElem m last D:=map_same ho (hb0.block m hlm)
  rw [← hw1];exact this.kept (World.grownBy_alloc _ _ none) (by simp)
 have hblk1:Blk w1 w0.heap.size #[v'] 176:=by rw [← hw1];exact Blk.new _ _ _
 have hbs1:Sl w1 (fun g=>w.heap.size≤g∧g < w0.heap.size) v' xs:=by rw [← hw1];exact hsl.below ((Below.refl _ _).alloc (Nat.le_refl _) _)
 have hsz:w.heap.size≤w0.heap.size:=hb0.size
 have ca:=add_any k t last m D 173 w0.heap.size w1 hk1 ho1 hl hkm
 unfold thV at ca
 subst hv'
 have H1:=Lib.hid hb1
 have H2:=Lib.hid hblk1
 have H3:=Lib.hid hbs1
 clear hk ho hk1 ho1 hb0 hb1 hblk1 hbs1 hsl hown cc
 go_wp2_with fail
 try rw [hw1]
 refine ca.mono ?_
 rintro e w2 ⟨rfl,hk2,ho2,hK2⟩
 have HY:=Lib.hid hk2
 have HZ:=Lib.hid ho2
 have HW:=Lib.hid hK2
 clear hk2 ho2 hK2 ca
 go_wp2_with fail
 go_ret
 exact ⟨w0.heap.size,rfl,HY.out,HZ.out,⟨_,H2.out.kept HW.out (by rintro (h | h) <;> omega),H3.out.kept HW.out fun g hg hN=>by rintro (h | h) <;> omega⟩,hsz,(Kept.of_below H1.out).trans HW.out⟩
theorem ta_sink_sink (v:Value) (w:World):(Instr.typeAssert (.iface 177 v) 162 177 true).run Tryz.prog w=.ok (.tuple #[v,.bool true]) w:=by kernel_rfl
theorem said_any (k t last m:Nat) (D:DataW Unit) (n:Nat) (hn:n < 1000) (b:Nat) (q:Option Addr) (xs:Bts) (c:Nat) (w:World) (hk:KernAt w k t last m) (ho:w.ownsMap Tryz.prog 3 thElem m last D)
  (hat:D.atKey (.int .i64 (n+1:Nat)) (.agg [])=thD 177 b) (hb:w.cell? ⟨b,0,none⟩=some (.slice q xs.length c)) (hx:Bs w q xs) (hbig:xs.length≤140737488355328) :
  Calls Tryz.prog 47 #[.pointer (some ⟨k,0,none⟩),.int .i64 ((n:Int)+1)] w fun e w'=>∃ v',e=.returned v'∧w'.ownsRow w.heap.size 5 1 v' xs.length (xs.map u8V)∧Below w.heap.size w w':=by
 have hkey:keyOf Tryz.prog 3 (.int .i64 ((n:Int)+1))=some (.int .i64 ((n:Int)+1)):=keyOf_int_mk Tryz.underlying3 (wf_small n hn)
 obtain ⟨v,ps,hrun,hv⟩:=ho.lookup kInt (t:=151) Tryz.underlying151 (z:=.nilIface) (by kernel_rfl) (zd:=.agg []) (zp:=[]) rfl hkey
 rw [show ((n:Int)+1)=((n+1:Nat):Int) from rfl,hat] at hv
 obtain rfl:=thElem_inv hv
 have q5:w.cell? ⟨k,5,none⟩=some (.map (some m)):=hk.cell 5 rfl
 have cc:=clone_bytes q xs c w hx hbig
 have h5:=ta_sink_sink
 clear hk ho hv hat hkey hx
 unfold thV at *
 go_enter Tryz.func47,Tryz.ntmps47
 go_wp2_with fail
 refine cc.mono ?_
 rintro e w1 ⟨v',rfl,hown,hb1⟩
 have H1:=Lib.hid hown
 have H2:=Lib.hid hb1
 clear hown hb1 cc
 go_wp2_with fail
 go_ret
 exact ⟨_,rfl,H1.out,H2.out⟩
end Go.Proofs.YtefpcacnblaokaaGreatDoor
