/-
  Texts of this seat put together: Sd0, SdIn, SdIn2, SdIn3, Num.
-/
import Derived.Test.YtefpcacnblaokaaGreatDoorQ7
import Derived.Maps.AppendAt
import Derived.Deep.RegionLaw
import Derived.Deep.AppendLies
import Derived.Test.YtefpcacnblaokaaGreatDoorQ1
import Derived.Lib.ParseIntBTie

/-
  The walks of Hold and Drop of any number, and of a reader's More. Conditions: a process that runs; a reader in memory.
-/
set_option maxRecDepth 100000
set_option maxHeartbeats 4000000
namespace Go.Proofs.YtefpcacnblaokaaGreatDoor
open Go.RowKit Go.Shelf Go.Maps
theorem holdZ_any (F:Fx) (M:Nat→Prop) (inp out err:Bts) (w:World) (h:PrAt w F M inp out err) (n:Int) :
  Calls Tryz.prog 223 #[.pointer (some ⟨F.p,0,none⟩),.int .i64 n] w fun e w'=>(∃ v,e=.returned v)∧PrAt w' F M inp out err∧Kept M w w':=by
 obtain ⟨hd,pk,st,hp⟩:=h.proc
 have c8:=hp.cell 8 (v:=.int .i64 hd) rfl
 have f8:=hp.free 8
 have H:=Lib.hid h
 have HP:=Lib.hid hp
 clear h hp
 go_enter Tryz.func223,Tryz.ntmps223
 go_wp2_with fail
 obtain ⟨w1,hw1⟩:∃ w1,(w.setCell ⟨F.p,8,none⟩ (.int .i64 (wrap64 (hd+max 0 n))))=w1:=⟨_,rfl⟩
 have hp1:ProcAt w1 F.p F.k F.tb F.av F.buf F.line F.run (wrap64 (hd+max 0 n)) pk true true st F.al:=by rw [← hw1];exact HP.out.set 8 _
 have hk1:Kept (fun j=>j=F.p) w w1:=by rw [← hw1];exact (Kept.refl (fun j=>j=F.p) _).setCell (.inl rfl) 8 _
 rw [hw1]
 clear hw1
 generalize wrap64 (hd+max 0 n)=hd1 at *
 have d8:=hp1.cell 8 (v:=.int .i64 hd1) rfl
 have d9:=hp1.cell 9 (v:=.int .i64 pk) rfl
 have g9:=hp1.free 9
 have e9:=hp1.drew.free 9
 have HP1:=Lib.hid hp1
 have HK1:=Lib.hid hk1
 clear hp1 hk1
 have b8:=HP1.out.drew.cell 8 (v:=.int .i64 hd1) rfl
 have b9:=HP1.out.drew.cell 9 (v:=.int .i64 pk) rfl
 go_region
 refine bodyPost_end (results_none rfl _ _ _) rfl ⟨⟨_,rfl⟩, ?_, ?_⟩
 ·exact H.out.turn ((HK1.out.drew).setCell (.inl rfl) 9 _) (HP1.out.drew.set 9 _)
 ·exact (HK1.out.drew.mono fun k _ e=>e ▸ H.out.mp).setCell (.inl H.out.mp) 9 _
theorem dropZ_any (F:Fx) (M:Nat→Prop) (inp out err:Bts) (w:World) (h:PrAt w F M inp out err) (n:Int) :
  Calls Tryz.prog 208 #[.pointer (some ⟨F.p,0,none⟩),.int .i64 n] w fun e w'=>(∃ v,e=.returned v)∧PrAt w' F M inp out err∧Kept M w w':=by
 obtain ⟨hd,pk,st,hp⟩:=h.proc
 have c8:=hp.cell 8 (v:=.int .i64 hd) rfl
 have f8:=hp.free 8
 have b8:=hp.drew.cell 8 (v:=.int .i64 hd) rfl
 have g8:=hp.drew.free 8
 have H:=Lib.hid h
 have HP:=Lib.hid hp
 clear h hp
 by_cases hn:0 < n
 ·have hn1:decide ((0:Int) < n)=true:=by simpa using hn
  go_enter Tryz.func208,Tryz.ntmps208
  go_wp2_with fail
  go_region
  refine bodyPost_end (results_none rfl _ _ _) rfl ⟨⟨_,rfl⟩, ?_, ?_⟩
  ·exact H.out.turn (((Kept.refl (fun j=>j=F.p) _).drew).setCell (.inl rfl) 8 _) (HP.out.drew.set 8 _)
  ·exact (Kept.refl M _).drew.setCell (.inl H.out.mp) 8 _
 ·have hn1:decide ((0:Int) < n)=false:=by simpa using hn
  go_enter Tryz.func208,Tryz.ntmps208
  go_wp2_with fail
  exact bodyPost_end (results_none rfl _ _ _) rfl ⟨⟨_,rfl⟩,H.out,Kept.refl _ _⟩
theorem buf_is {w w1:World} {rd:Nat} {xs:Bts} (h:w1.cell? ⟨rd,2,none⟩=w.cell? ⟨rd,2,none⟩∨∃ v,w1.cell? ⟨rd,2,none⟩=some v∧Sl w1 (fun g=>w.heap.size≤g) v xs):∀ a n c,w1.cell? ⟨rd,2,none⟩=some (.slice (some a) n c)→BufIs w rd a.block:=fun a n c e=>by
 rcases h with h | ⟨v,h1,hs⟩
 ·exact .inr ⟨a,n,c,h ▸ e,rfl⟩
 ·rw [h1] at e
  obtain rfl:=Option.some.inj e
  rcases hs with hs | ⟨g,o,c2,hs,-,-,hg,-⟩
  ·cases hs.2
  ·injection hs with e1 e2 e3
   injection e1 with e1
   subst e1
   exact .inl hg
def MorePost (w:World) (F:Fx) (M:Nat→Prop) (rd:Nat) (tot out err:Bts) (e:Ending) (w':World):Prop:=
 e=.returned (.tuple #[.bool (!tot.isEmpty),.int .i64 0])∧MvR M M rd w w'∧(∀ a n c,w'.cell? ⟨rd,2,none⟩=some (.slice (some a) n c)→BufIs w rd a.block)∧∃ o feed over' buf' inp',Rdr w' F M rd buf' o feed over' inp' out err∧buf' ++ inp'=tot
theorem rdMore_any (F:Fx) (M:Nat→Prop) (rd:Nat) (buf:Bts) (o:Nat) (feed over:Bool) (inp out err:Bts) (w:World) (h:Rdr w F M rd buf o feed over inp out err) :
  Calls Tryz.prog 266 #[.pointer (some ⟨rd,0,none⟩)] w fun e w'=>MorePost w F M rd (buf ++ inp) out err e w':=by
 obtain ⟨v,hb,hs⟩:=h.blk
 obtain ⟨p,c,rfl,-⟩:=hs.bs
 have c2:=hb.cell 2 (v:=.slice p buf.length c) rfl
 cases buf with
 | cons x r=>
  have hl:0 < (x :: r).length:=by simp
  have H:=Lib.hid h
  clear h hb hs
  generalize (x :: r).length=n at *
  go_enter Tryz.func266,Tryz.ntmps266
  go_wp2_with fail
  go_ret2
  exact ⟨rfl,⟨Kept.refl _ _,fun _ h=>.inl h⟩,fun a n c e=>.inr ⟨a,n,c,e,rfl⟩,_,_,_,_,_,H.out,rfl⟩
 | nil=>
  have hfill:=rdFill_any F M rd o feed over inp out err w h
  have hbl:=h.pr.lims.1
  have H:=Lib.hid h
  simp only [List.length_nil] at c2
  clear h hb hs
  go_enter Tryz.func266,Tryz.ntmps266
  go_wp2_with fail
  refine hfill.mono ?_
  rintro e w1 ⟨rfl,⟨over',hr1⟩,hq1,hm1⟩
  have HBF:=Lib.hid (buf_is hq1)
  clear hq1
  obtain ⟨v1,hb1,hs1⟩:=hr1.blk
  obtain ⟨p1,c1,rfl,-⟩:=hs1.bs
  have d2:=hb1.cell 2 (v:=.slice p1 (inp.take F.buf).length c1) rfl
  have HR:=Lib.hid hr1
  have HM:=Lib.hid hm1
  have hie:decide (0 < (inp.take F.buf).length)=!inp.isEmpty:=by
   cases inp with
   | nil=>simp
   | cons x r=>simp;omega
  have HIE:=Lib.hid hie
  clear hfill hr1 hm1 hb1 hs1 c2 hie
  generalize (inp.take F.buf).length=n at *
  go_wp2_with fail
  go_ret2
  exact ⟨by rw [← HIE.out];rfl,HM.out,HBF.out,_,_,_,_,_,HR.out,List.take_append_drop _ _⟩
end Go.Proofs.YtefpcacnblaokaaGreatDoor

/-
  sed's inputs in memory: the process's own alone; what keeps them. No condition.
-/
namespace Go.Proofs.YtefpcacnblaokaaGreatDoor
open Go.RowKit Go.Shelf Go.Maps
def tagSed:Bts:=[115,101,100]
def errF (failed:Bool):Bts:=if failed then diagOf tagSed [45] 18 else []
def InBlk (W:World) (p ib:Nat) (names:Value) (name:Bts) (rv old:Value) (failed:Bool):Prop:=Blk W ib #[.pointer (some ⟨p,0,none⟩),names,.string ⟨name.toArray⟩,rv,.int .i64 0,old,.bool failed] 213
structure InAt (W:World) (F:Fx) (U R:Nat→Prop) (ib k:Nat) (tot out:Bts) (failed:Bool):Prop where
 st:(k=2∧failed=false∧(∃ g c,InBlk W F.p ib (.slice (some ⟨g,0,none⟩) 1 c) [] (.pointer none) (.slice none 0 0) false∧1≤c∧W.cell? ⟨g,0,none⟩=some (.string ⟨#[45]⟩)∧¬ R g∧g≠ib∧¬ U g)∧∃ M,(∀ j,M j→R j)∧PrAt W F M tot out []) ∨
  (k=1∧failed=false∧∃ rd M,R rd∧(∀ j,M j→R j)∧(∃ p c,InBlk W F.p ib (.slice p 0 c) [45] (.pointer (some ⟨rd,0,none⟩)) (.slice none 0 0) false)∧(∀ a n c,W.cell? ⟨rd,2,none⟩=some (.slice (some a) n c)→¬ U a.block)∧∃ buf o feed over inp,Rdr W F M rd buf o feed over inp out []∧buf ++ inp=tot) ∨
  (k=0∧tot=[]∧(∃ p c old,InBlk W F.p ib (.slice p 0 c) [45] (.pointer none) old failed)∧∃ M inp,(∀ j,M j→R j)∧PrAt W F M inp out (errF failed))
 own:¬ R ib∧F.n0≤ib
 lt:∀ j,R j→j < W.heap.size
 r0:∀ j,R j→F.w0.heap.size≤j
 u0:∀ j,U j→F.n0≤j∧¬ R j∧j≠ib∧j < W.heap.size
def MvI (R R':Nat→Prop) (ib:Nat) (W W':World):Prop:=Kept (fun j=>R j∨j=ib) W W'∧∀ j,R' j→R j∨W.heap.size≤j
theorem MvI.trans {R R' R'':Nat→Prop} {ib:Nat} {W W' W'':World} (h:MvI R R' ib W W') (h2:MvI R' R'' ib W' W''):MvI R R'' ib W W'':=
 ⟨h.1.trans' h2.1 fun k hk hm=>by
  rcases hm with hm | hm
  ·rcases h.2 k hm with h1 | h1
   ·exact .inl h1
   ·omega
  ·exact .inr hm,fun j hj=>by
  rcases h2.2 j hj with h1 | h1
  ·exact h.2 j h1
  ·exact .inr (Nat.le_trans h.1.size h1)⟩
theorem MvI.refl (R:Nat→Prop) (ib:Nat) (W:World):MvI R R ib W W:=⟨Kept.refl _ _,fun _ h=>.inl h⟩
theorem MvI.below {R:Nat→Prop} {ib:Nat} {W W':World} (h:Below W.heap.size W W'):MvI R R ib W W':=⟨Kept.of_below h,fun _ h=>.inl h⟩
theorem MvI.kept {R:Nat→Prop} {ib:Nat} {W W':World} {S:Nat→Prop} (h:Kept S W W') (hS:∀ j,S j→R j∨j=ib):MvI R R ib W W':=⟨h.mono fun j _ hj=>hS j hj,fun _ h=>.inl h⟩
variable {W W':World} {F:Fx} {U R:Nat→Prop} {ib k:Nat} {tot out:Bts} {failed:Bool}
theorem InAt.ibLt (h:InAt W F U R ib k tot out failed):ib < W.heap.size:=by
 rcases h.st with ⟨-,-,⟨g,c,hb,-⟩,-⟩ | ⟨-,-,rd,M,-,-,⟨p,c,hb⟩,-⟩ | ⟨-,-,⟨p,c,old,hb⟩,-⟩ <;> exact Blk.lt hb
theorem InAt.pr (h:InAt W F U R ib k tot out failed):∃ M inp,(∀ j,M j→R j)∧PrAt W F M inp out (errF failed):=by
 rcases h.st with ⟨-,rfl,-,M,hM,hp⟩ | ⟨-,rfl,rd,M,-,hM,-,-,buf,o,feed,over,inp,hr,-⟩ | ⟨-,-,-,hp⟩
 ·exact ⟨M,tot,hM,hp⟩
 ·exact ⟨M,inp,hM,hr.pr⟩
 ·exact hp
theorem InAt.grow (h:InAt W F U R ib k tot out failed) {M M':Nat→Prop} (hM:∀ j,M j→R j) (hm:Mv M M' W W') {inp out' err':Bts} (hp:PrAt W' F M' inp out' err') :
  MvI R (fun j=>R j∨M' j) ib W W'∧¬ (R ib∨M' ib)∧(∀ j,R j∨M' j→j < W'.heap.size)∧(∀ j,R j∨M' j→F.w0.heap.size≤j)∧∀ j,U j→F.n0≤j∧¬ (R j∨M' j)∧j≠ib∧j < W'.heap.size:=by
 have hn:∀ j,M' j→R j∨W.heap.size≤j:=fun j hj=>(hm.new j hj).imp (hM j) id
 refine ⟨⟨hm.kept.mono fun j _ hj=>.inl (hM j hj),fun j hj=>hj.elim .inl (hn j)⟩,fun hj=>?_,fun j hj=>?_,fun j hj=>?_,fun j hj=>?_⟩
 ·rcases hj with hj | hj
  ·exact h.own.1 hj
  ·rcases hn ib hj with h1 | h1
   ·exact h.own.1 h1
   ·have:=h.ibLt;omega
 ·rcases hj with hj | hj
  ·exact Nat.lt_of_lt_of_le (h.lt j hj) hm.kept.size
  ·exact hp.lt j hj
 ·rcases hj with hj | hj
  ·exact h.r0 j hj
  ·exact hp.fix.oldW j hj
 ·obtain ⟨a,b,c,d⟩:=h.u0 j hj
  refine ⟨a,fun hr=>?_,c,Nat.lt_of_lt_of_le d hm.kept.size⟩
  rcases hr with hr | hr
  ·exact b hr
  ·rcases hn j hr with h1 | h1
   ·exact b h1
   ·omega
theorem InAt.pass (h:InAt W F U R ib k tot out failed) {out':Bts}
  (hp:∀ M inp,(∀ j,M j→R j)→PrAt W F M inp out (errF failed)→∃ M',PrAt W' F M' inp out' (errF failed)∧Mv M M' W W'):∃ R',InAt W' F U R' ib k tot out' failed∧MvI R R' ib W W':=by
 rcases h.st with ⟨hk,hf,⟨g,c,hb,h1,h2,h3,h4,h5⟩,M,hM,h0⟩ | ⟨hk,hf,rd,M,hrd,hM,⟨p,c,hb⟩,hU,buf,o,feed,over,inp,hr,ht⟩ | ⟨hk,ht,⟨p,c,old,hb⟩,M,inp,hM,h0⟩
 ·obtain ⟨M',hp',hm⟩:=hp M tot hM (by subst hf;exact h0)
  obtain ⟨hmv,hib,hlt,h00,hu⟩:=h.grow hM hm hp'
  have hgl:g < W.heap.size:=World.block_lt_of_cell? _ _ h2
  refine ⟨_,⟨.inl ⟨hk,hf,⟨g,c,Blk.kept hb hm.kept (fun e=>h.own.1 (hM _ e)),h1,(World.cell?_of_block (hm.kept.block g hgl fun e=>h3 (hM g e))).trans h2,fun e=>?_,h4,h5⟩,M',fun j hj=>.inr hj,by subst hf;exact hp'⟩,⟨hib,h.own.2⟩,hlt,h00,hu⟩,hmv⟩
  rcases e with e | e
  ·exact h3 e
  ·rcases hm.new g e with e | e
   ·exact h3 (hM g e)
   ·omega
 ·obtain ⟨M',hp',hm⟩:=hp M inp hM (by subst hf;exact hr.pr)
  obtain ⟨hmv,hib,hlt,h00,hu⟩:=h.grow hM hm hp'
  obtain ⟨v,hrb,-⟩:=hr.blk
  refine ⟨_,⟨.inr (.inl ⟨hk,hf,rd,M',.inl hrd,fun j hj=>.inr hj,⟨p,c,Blk.kept hb hm.kept (fun e=>h.own.1 (hM _ e))⟩,fun a n c e=>hU a n c ?_,buf,o,feed,over,inp,⟨hr.toRdrW.pass (by subst hf;exact hp') hm,hr.over_⟩,ht⟩),⟨hib,h.own.2⟩,hlt,h00,hu⟩,hmv⟩
  rw [← e]
  exact (World.cell?_of_block (hm.kept.block rd (Blk.lt hrb) hr.own)).symm
 ·obtain ⟨M',hp',hm⟩:=hp M inp hM h0
  obtain ⟨hmv,hib,hlt,h00,hu⟩:=h.grow hM hm hp'
  exact ⟨_,⟨.inr (.inr ⟨hk,ht,⟨p,c,old,Blk.kept hb hm.kept (fun e=>h.own.1 (hM _ e))⟩,M',inp,fun j hj=>.inr hj,hp'⟩),⟨hib,h.own.2⟩,hlt,h00,hu⟩,hmv⟩
theorem InAt.kept {S:Nat→Prop} (h:InAt W F U R ib k tot out failed) (hk:Kept S W W') (hS:∀ j,S j→U j):InAt W' F U R ib k tot out failed:=by
 refine ⟨?_,h.own,fun j hj=>Nat.lt_of_lt_of_le (h.lt j hj) hk.size,h.r0,fun j hj=>⟨(h.u0 j hj).1,(h.u0 j hj).2.1,(h.u0 j hj).2.2.1,Nat.lt_of_lt_of_le (h.u0 j hj).2.2.2 hk.size⟩⟩
 have hib:¬ S ib:=fun e=>(h.u0 ib (hS ib e)).2.2.1 rfl
 have hM2:∀ {M:Nat→Prop},(∀ j,M j→R j)→∀ j,S j→F.n0≤j∧¬ M j:=fun hM j hj=>⟨(h.u0 j (hS j hj)).1,fun hm=>(h.u0 j (hS j hj)).2.1 (hM j hm)⟩
 rcases h.st with ⟨hk2,hf,⟨g,c,hb,h1,h2,h3,h4,h5⟩,M,hM,h0⟩ | ⟨hk1,hf,rd,M,hrd,hM,⟨p,c,hb⟩,hU,buf,o,feed,over,inp,hr,ht⟩ | ⟨hk0,ht,⟨p,c,old,hb⟩,M,inp,hM,h0⟩
 ·exact .inl ⟨hk2,hf,⟨g,c,Blk.kept hb hk hib,h1,(World.cell?_of_block (hk.block g (World.block_lt_of_cell? _ _ h2) fun e=>h5 (hS g e))).trans h2,h3,h4,h5⟩,M,hM,h0.kept hk (hM2 hM)⟩
 ·have hrS:¬ S rd:=fun e=>(h.u0 rd (hS rd e)).2.1 hrd
  obtain ⟨v0,hrb,-⟩:=hr.blk
  refine .inr (.inl ⟨hk1,hf,rd,M,hrd,hM,⟨p,c,Blk.kept hb hk hib⟩,fun a n c e=>hU a n c ?_,buf,o,feed,over,inp,⟨hr.toRdrW.kept hk (fun j hj=>⟨(hM2 hM j hj).1,(hM2 hM j hj).2,fun e=>hrS (e ▸ hj)⟩) (fun v hv j hj a n c e hab=>?_),hr.over_⟩,ht⟩)
  ·rw [← e]
   exact (World.cell?_of_block (hk.block rd (Blk.lt hrb) hrS)).symm
  ·subst e
   exact hU a n c hv (hS _ (hab ▸ hj))
 ·exact .inr (.inr ⟨hk0,ht,⟨p,c,old,Blk.kept hb hk hib⟩,M,inp,hM,h0.kept hk (hM2 hM)⟩)
theorem InAt.below (h:InAt W F U R ib k tot out failed) (hb:Below W.heap.size W W'):InAt W' F U R ib k tot out failed:=
 h.kept (Kept.of_below (S:=fun _=>False) hb) (fun _ h=>h.elim)
end Go.Proofs.YtefpcacnblaokaaGreatDoor

/-
  The walks of the inputs' leave and fails. Conditions: the inputs lie in memory; a process that runs, called sed.
-/
set_option maxRecDepth 100000
set_option maxHeartbeats 4000000
namespace Go.Proofs.YtefpcacnblaokaaGreatDoor
open Go.RowKit Go.Shelf Go.Maps
theorem info_prd:(Tryz.prog.info? 210).map (fun i=>(i.zero,i.size,i.bytes))=some (some (.pointer none),1,8):=by kernel_rfl
theorem close0e_any (p:Option Addr) (w:World) :
  Calls Tryz.prog 133 #[.pointer p,.int .i64 0] w fun e w'=>e=.returned (.tuple #[])∧w'=w:=by
 go_enter Tryz.func133,Tryz.ntmps133
 go_wp2_with fail
 go_end0
 exact ⟨rfl,rfl⟩
theorem leave_any (p ib rd:Nat) (q:Option Addr) (c:Nat) (name:Bts) (failed:Bool) (w:World) (h:InBlk w p ib (.slice q 0 c) name (.pointer (some ⟨rd,0,none⟩)) (.slice none 0 0) failed) :
  Calls Tryz.prog 268 #[.pointer (some ⟨ib,0,none⟩)] w fun e w'=>(∃ v,e=.returned v)∧(∃ old,InBlk w' p ib (.slice q 0 c) name (.pointer none) old failed)∧Kept (fun j=>j=ib) w w':=by
 obtain ⟨i0,hi,hz0,hz1,hz2⟩:=info_parts info_prd
 have c3:=Blk.cell h 3 (v:=.pointer (some ⟨rd,0,none⟩)) rfl
 have c5:=Blk.cell h 5 (v:=.slice none 0 0) rfl
 have f5:=Blk.free h 5
 have hl:=Blk.lt h
 have H:=Lib.hid h
 clear h
 go_enter Tryz.func268,Tryz.ntmps268
 go_wp2_with fail
 obtain ⟨O,hO⟩:∃ O:Obj,O=.cells #[.pointer (some ⟨rd,0,none⟩)] 210:=⟨_,rfl⟩
 have d5:((w.alloc O).drew).heap[w.heap.size]?=some O:=heap_alloc_new w O
 have hown:((w.alloc O).drew).ownsRow 0 210 1 (.slice none 0 0) 0 []:=World.ownsRow_nil _ _ _ _
 have hsz:((w.alloc O).drew).heap.size=w.heap.size+1:=by simp
 have k0:InBlk ((w.alloc O).drew) p ib (.slice q 0 c) name (.pointer (some ⟨rd,0,none⟩)) (.slice none 0 0) failed:=(Blk.alloc H.out O).drew
 have c5d:=Blk.cell k0 5 (v:=.slice none 0 0) rfl
 have f5d:=Blk.free k0 5
 have hob:(Value.slice none 0 0).ownBlock≠some ib:=fun e=>by cases e
 have K0:=Lib.hid k0
 clear k0
 subst hO
 go_region_law
  ((refine step_append_lies _ (by rfl) _ _ _ (by rfl) 0 210 i0 _ 1 8 Tryz.underlying211 hi hz0 hz1 hz2 rfl (by decide) (.slice none 0 0) 0 [] (by rfl) hown
     ⟨w.heap.size,0,none⟩ 1 1 [.pointer (some ⟨rd,0,none⟩)] (by rfl) (by rfl) (World.news_of_block d5) (by simp [Value.oneCell']) (by decide) (by unfold maxLen;omega) (by omega) (Nat.zero_le _) (w.heap.size+1) hsz ?_;intro gg cap w1 hown1 hgrow hat hlt;have fq:=hgrow.frozen_far (a:=⟨ib,5,none⟩) (by rw [hsz];show ib < _;omega) (Ne.symm hob);rw [f5d] at fq;have cq:=hgrow.cell_far ⟨ib,5,none⟩ (by rw [hsz];show ib < _;omega) (Ne.symm hob);rw [c5d] at cq))
 all_goals
  have hk:Kept (fun k=>(Value.slice none 0 0).ownBlock=some k) w w1:=kept_grown (((Kept.refl (fun _=>False) w).alloc _).drew) hgrow
  have hk0:Kept (fun j=>j=ib) w w1:=hk.mono fun k _ e=>by cases e
  have k1:InBlk w1 p ib (.slice q 0 c) name (.pointer (some ⟨rd,0,none⟩)) (.slice none 0 0) failed:=Blk.kept H.out hk (fun e=>by cases e)
  obtain ⟨old,hold⟩:∃ old,Value.slice (some ⟨gg,0,none⟩) 1 cap=old:=⟨_,rfl⟩
  have k2:InBlk (w1.setCell ⟨ib,5,none⟩ (.slice (some ⟨gg,0,none⟩) 1 cap)) p ib (.slice q 0 c) name (.pointer (some ⟨rd,0,none⟩)) (.slice (some ⟨gg,0,none⟩) 1 cap) failed:=Blk.set k1 5 _
  have hk2:Kept (fun j=>j=ib) w (w1.setCell ⟨ib,5,none⟩ (.slice (some ⟨gg,0,none⟩) 1 cap)):=hk0.setCell (.inl rfl) 5 _
  have c3b:=Blk.cell k2 3 (v:=.pointer (some ⟨rd,0,none⟩)) rfl
  have f3b:=Blk.free k2 3
  have k3:InBlk ((w1.setCell ⟨ib,5,none⟩ (.slice (some ⟨gg,0,none⟩) 1 cap)).setCell ⟨ib,3,none⟩ (.pointer none)) p ib (.slice q 0 c) name (.pointer none) (.slice (some ⟨gg,0,none⟩) 1 cap) failed:=Blk.set k2 3 _
  have hk3:=hk2.setCell (b:=ib) (.inl rfl) 3 (.pointer none)
  have K2:=Lib.hid k2
  have K3:=Lib.hid k3
  have HK3:=Lib.hid hk3
  clear k1 k2 k3 hk hk0 hk2 hk3 hgrow hown1 hat hlt hold
  go_upto_region 2 with fail
  obtain ⟨w3,hw3⟩:∃ w3,(w1.setCell ⟨ib,5,none⟩ (.slice (some ⟨gg,0,none⟩) 1 cap)).setCell ⟨ib,3,none⟩ (.pointer none)=w3:=⟨_,rfl⟩
  rw [hw3] at K3 HK3 ⊢
  have d0:=Blk.cell K3.out 0 (v:=.pointer (some ⟨p,0,none⟩)) rfl
  have d4:=Blk.cell K3.out 4 (v:=.int .i64 0) rfl
  have hcl:=fun k=>close0e_any (some ⟨p,0,none⟩) (w3.drewN k)
  clear hw3 c3 c5 f5 d5 hown hsz c5d f5d fq cq c3b f3b
  go_quiet ((go_at_call 133;exact Calls.quiet_of_same (hcl _)))
  go_wp2_with fail
  refine bodyPost_end (results_none rfl _ _ _) rfl ⟨⟨_,rfl⟩,⟨_,Blk.drewN K3.out nq⟩,HK3.out.trans (Kept.of_below ⟨rfl,rfl,rfl,Nat.le_refl _,fun _ _=>rfl⟩)⟩
theorem fails_any (F:Fx) (M:Nat→Prop) (inp out err:Bts) (rest:List Bts) (ha:F.args=tagSed :: rest) (ib:Nat) (names rv old:Value) (hbig:err.length≤1000000) (w:World) (hp:PrAt w F M inp out err) (hM:¬ M ib) (h0:F.n0≤ib) (h:InBlk w F.p ib names [45] rv old false) :
  Calls Tryz.prog 267 #[.pointer (some ⟨ib,0,none⟩),.int .i64 18] w fun e w'=>(∃ v,e=.returned v)∧∃ M',PrAt w' F M' inp out (err ++ diagOf tagSed [45] 18)∧InBlk w' F.p ib names [45] rv old true∧Kept (fun j=>M j∨j=ib) w w'∧∀ j,M' j→M j∨w.heap.size≤j:=by
 have c0:=Blk.cell h 0 (v:=.pointer (some ⟨F.p,0,none⟩)) rfl
 have c2:=Blk.cell h 2 (v:=.string ⟨#[45]⟩) rfl
 have hdl:(diagOf tagSed [45] 18).length≤1000:=by decide +kernel
 have hsay:=fun W (hW:PrAt W F M inp out err)=>say_any F M inp out err tagSed [45] rest 18 (by decide) W hW ha (by decide) (by decide) (by omega)
 have HSAY:=Lib.hid hsay
 have HP:=Lib.hid hp
 have H:=Lib.hid h
 have HM:=Lib.hid hM
 clear hp h hM hsay
 go_enter Tryz.func267,Tryz.ntmps267
 go_wp2_with fail
 go_region_held3 (fun w'=>w'.cell? ⟨ib,0,none⟩=some (.pointer (some ⟨F.p,0,none⟩))∧w'.cell? ⟨ib,2,none⟩=some (.string ⟨#[45]⟩)) (first | go_keep | exact HC.out)
  ((go_at_call 88;refine (HSAY.out w.drew (HP.out.below (below_drew2 w))).mono ?_;rintro e w1 ⟨⟨u,rfl⟩,M',hp1,hm1⟩;have HC:=Lib.hid (show w1.cell? ⟨ib,0,none⟩=some (.pointer (some ⟨F.p,0,none⟩))∧w1.cell? ⟨ib,2,none⟩=some (.string ⟨#[45]⟩) from by
   have hk:=(Kept.of_below (S:=M) (below_drew2 w)).trans hm1.kept
   exact ⟨(World.cell?_of_block (hk.block ib (Blk.lt H.out) HM.out)).trans c0,(World.cell?_of_block (hk.block ib (Blk.lt H.out) HM.out)).trans c2⟩);have HP1:=Lib.hid hp1;have HM1:=Lib.hid ((Mv.below (M:=M) (below_drew2 w)).trans hm1);clear hp1 hm1))
 have k1:InBlk w1 F.p ib names [45] rv old false:=Blk.kept H.out HM1.out.kept HM.out
 have f6:=Blk.free k1 6
 have c6:=Blk.cell k1 6 (v:=.bool false) rfl
 have k2:InBlk (w1.setCell ⟨ib,6,none⟩ (.bool true)) F.p ib names [45] rv old true:=Blk.set k1 6 _
 have hk2:Kept (fun j=>j=ib) w1 (w1.setCell ⟨ib,6,none⟩ (.bool true)):=(Kept.refl (fun j=>j=ib) _).setCell (.inl rfl) 6 _
 have K2:=Lib.hid k2
 have HK2:=Lib.hid hk2
 clear k1 k2 hk2
 go_wp2_with fail
 refine bodyPost_end (results_none rfl _ _ _) rfl ⟨⟨_,rfl⟩,M',HP1.out.kept HK2.out (fun j e=>by subst e;exact ⟨h0,HM1.out.not (Blk.lt H.out) HM.out⟩),K2.out,(HM1.out.kept.mono fun _ _ e=>.inl e).trans (HK2.out.mono fun _ _ e=>.inr e),HM1.out.new⟩
end Go.Proofs.YtefpcacnblaokaaGreatDoor

/-
  The inputs as they turn: reading, ended; room for the machine's own. The walk of more. Conditions: the inputs lie in memory; a process that runs, called sed.
-/
set_option maxRecDepth 100000
set_option maxHeartbeats 8000000
namespace Go.Proofs.YtefpcacnblaokaaGreatDoor
open Go.RowKit Go.Shelf Go.Maps
variable {W W':World} {F:Fx} {U R:Nat→Prop} {ib k:Nat} {tot out:Bts} {failed:Bool}
theorem InAt.more_ {W2:World} (h:InAt W F U R ib k tot out failed) (hb:Below W.heap.size W W2) {g:Nat} (h1:W.heap.size≤g) (h2:g < W2.heap.size):InAt W2 F (fun j=>U j∨j=g) R ib k tot out failed:=by
 have hib:=h.ibLt
 have hn:F.n0≤W.heap.size:=Nat.le_trans h.own.2 (Nat.le_of_lt hib)
 have h3:=h.below hb
 refine ⟨?_,h3.own,h3.lt,h3.r0,fun j hj=>?_⟩
 ·rcases h.st with ⟨hk,hf,⟨g',c,hb',a1,a2,a3,a4,a5⟩,-⟩ | ⟨hk,hf,rd,M,hrd,hM,hib',hU,buf,o,feed,over,inp,hr,ht⟩ | ⟨hk,-⟩
  ·rcases h3.st with ⟨-,-,⟨g2,c2,b1,b2,b3,b4,b5,b6⟩,b7⟩ | ⟨hk2,-⟩ | ⟨hk2,-⟩
   ·refine .inl ⟨hk,hf,⟨g',c,Blk.keep hb' hb (Blk.lt hb'),a1,(World.cell?_of_block (hb.block g' (World.block_lt_of_cell? _ _ a2))).trans a2,a3,a4,fun e=>?_⟩,b7⟩
    rcases e with e | e
    ·exact a5 e
    ·have:=World.block_lt_of_cell? _ _ a2
     simp only at this
     omega
   ·omega
   ·omega
  ·obtain ⟨p,c,hb'⟩:=hib'
   refine .inr (.inl ⟨hk,hf,rd,M,hrd,hM,⟨p,c,Blk.keep hb' hb (Blk.lt hb')⟩,fun a n c e=>?_,buf,o,feed,over,inp,hr.below hb,ht⟩)
   obtain ⟨v0,hrb,hsl⟩:=hr.blk
   have e2:W.cell? ⟨rd,2,none⟩=some (.slice (some a) n c):=by
    rw [← e]
    exact (World.cell?_of_block (hb.block rd (Blk.lt hrb))).symm
   intro e3
   rcases e3 with e3 | e3
   ·exact hU a n c e2 e3
   ·have e4:=Blk.cell hrb 2 (v:=v0) rfl
    rw [e2] at e4
    obtain rfl:=Option.some.inj e4
    rcases hsl with hsl | ⟨g',o',c',e5,-,e6,-⟩
    ·cases hsl.2
    ·injection e5 with e7 e8 e9
     injection e7 with e7
     subst e7
     simp only at e3
     omega
  ·rcases h3.st with ⟨hk2,-⟩ | ⟨hk2,-⟩ | h4
   ·omega
   ·omega
   ·exact .inr (.inr h4)
 ·rcases hj with hj | hj
  ·exact h3.u0 j hj
  ·subst hj
   exact ⟨by omega,fun e=>by have:=h.lt _ e;omega,by omega,h2⟩
theorem InAt.reading (h:InAt W F U R ib k tot out failed) {rd:Nat} {M:Nat→Prop} {p:Option Addr} {c:Nat} (hrd:R rd) (hM:∀ j,M j→R j) (hb:InBlk W F.p ib (.slice p 0 c) [45] (.pointer (some ⟨rd,0,none⟩)) (.slice none 0 0) false) (hU:∀ a n c,W.cell? ⟨rd,2,none⟩=some (.slice (some a) n c)→¬ U a.block) (hmv:MvR M M rd W W') (hbf:∀ a n c,W'.cell? ⟨rd,2,none⟩=some (.slice (some a) n c)→BufIs W rd a.block) {buf tot':Bts} {o:Nat} {feed over:Bool} {inp:Bts} (hr:Rdr W' F M rd buf o feed over inp out []) (ht:buf ++ inp=tot'):InAt W' F U R ib 1 tot' out false∧MvI R R ib W W':=by
 have hS:∀ j,(M j∨j=rd)→R j:=fun j hj=>by
  rcases hj with hj | hj
  ·exact hM j hj
  ·exact hj ▸ hrd
 refine ⟨⟨.inr (.inl ⟨rfl,rfl,rd,M,hrd,hM,⟨p,c,Blk.kept hb hmv.1 (fun e=>h.own.1 (hS _ e))⟩,fun a n c e hu=>?_,buf,o,feed,over,inp,hr,ht⟩),h.own,fun j hj=>Nat.lt_of_lt_of_le (h.lt j hj) hmv.1.size,h.r0,fun j hj=>⟨(h.u0 j hj).1,(h.u0 j hj).2.1,(h.u0 j hj).2.2.1,Nat.lt_of_lt_of_le (h.u0 j hj).2.2.2 hmv.1.size⟩⟩,MvI.kept hmv.1 fun j hj=>.inl (hS j hj)⟩
 rcases hbf a n c e with h1 | ⟨a2,n2,c2,h1,h2⟩
 ·have:=(h.u0 _ hu).2.2.2
  omega
 ·exact hU a2 n2 c2 h1 (h2 ▸ hu)
theorem InAt.ended (h:InAt W F U R ib k tot out failed) {M:Nat→Prop} {inp:Bts} {p:Option Addr} {c:Nat} {old:Value} {failed':Bool} (hb:InBlk W' F.p ib (.slice p 0 c) [45] (.pointer none) old failed') (hp:PrAt W' F M inp out (errF failed')) (hk:Kept (fun j=>R j∨j=ib) W W') (hn:∀ j,M j→R j∨W.heap.size≤j):∃ R',InAt W' F U R' ib 0 [] out failed'∧MvI R R' ib W W':=by
 refine ⟨fun j=>R j∨M j,⟨.inr (.inr ⟨rfl,rfl,⟨p,c,old,hb⟩,M,inp,fun j hj=>.inr hj,hp⟩),⟨fun e=>?_,h.own.2⟩,fun j hj=>?_,fun j hj=>?_,fun j hj=>?_⟩,hk,fun j hj=>?_⟩
 ·rcases e with e | e
  ·exact h.own.1 e
  ·rcases hn ib e with e | e
   ·exact h.own.1 e
   ·have:=h.ibLt;omega
 ·rcases hj with hj | hj
  ·exact Nat.lt_of_lt_of_le (h.lt j hj) hk.size
  ·exact hp.lt j hj
 ·rcases hj with hj | hj
  ·exact h.r0 j hj
  ·exact hp.fix.oldW j hj
 ·obtain ⟨a,b,c,d⟩:=h.u0 j hj
  refine ⟨a,fun e=>?_,c,Nat.lt_of_lt_of_le d hk.size⟩
  rcases e with e | e
  ·exact b e
  ·rcases hn j e with e | e
   ·exact b e
   ·omega
 ·rcases hj with hj | hj
  ·exact .inl hj
  ·exact hn j hj
theorem rdNew2_any (F:Fx) (M:Nat→Prop) (inp out err:Bts) (w:World) (h:PrAt w F M inp out err) :
  Calls Tryz.prog 130 #[.pointer (some ⟨F.p,0,none⟩),.int .i64 0] w fun e w'=>e=.returned (.pointer (some ⟨w.heap.size,0,none⟩))∧Rdr w' F M w.heap.size [] 0 false false inp out err∧w'.cell? ⟨w.heap.size,2,none⟩=some (.slice none 0 0)∧Below w.heap.size w w':=by
 go_enter Tryz.func130,Tryz.ntmps130
 go_wp2_with fail
 go_ret
 exact ⟨rfl,⟨⟨h.below ((Below.refl _ _).alloc (Nat.le_refl _) _),⟨.slice none 0 0,Blk.new _ _ _,Sl.nil _ _⟩,h.n0,fun e=>by have:=h.lt _ e;omega⟩,fun e=>by cases e⟩,(Blk.new _ _ _).cell 2 rfl,(Below.refl _ _).alloc (Nat.le_refl _) _⟩
def MoreIn (w:World) (F:Fx) (U R:Nat→Prop) (ib:Nat) (tot out:Bts) (failed:Bool) (e:Ending) (w':World):Prop:=
 e=.returned (.bool (!tot.isEmpty))∧∃ R' k',InAt w' F U R' ib k' tot out failed∧(k'=if tot.isEmpty then 0 else 1)∧MvI R R' ib w w'
theorem more_any (F:Fx) (U R:Nat→Prop) (ib k:Nat) (tot out:Bts) (failed:Bool) (w:World) (h:InAt w F U R ib k tot out failed) :
  Calls Tryz.prog 219 #[.pointer (some ⟨ib,0,none⟩)] w fun e w'=>MoreIn w F U R ib tot out failed e w':=by
 have hk3:k < 3:=by
  rcases h.st with ⟨rfl,-⟩ | ⟨rfl,-⟩ | ⟨rfl,-⟩ <;> omega
 have H:=Lib.hid h
 clear h
 go_enter Tryz.func219,Tryz.ntmps219
 go_wp2_with fail
 go_loopg [2,3,4,5,6,11,12,20,22,33,51,64] 3 (fun f _x2 _x3 _x4 _x5 _x6 _x11 _x12 _x20 _x22 _x33 _x51 _x64 wr=>∃ (R1:Nat→Prop) (k1:Nat),k1 < f∧Hid (InAt wr F U R1 ib k1 tot out failed)∧Hid (MvI R R1 ib w wr))
 case atStart=>exact ⟨R,k,hk3,H,Lib.hid (MvI.refl _ _ _)⟩
 case round=>
  obtain ⟨R1,k1,hk1,HI,HM⟩:=hrel
  obtain ⟨g0,rfl⟩:∃ g,gk=g+1:=⟨gk - 1,by omega⟩
  rcases HI.out.st with ⟨rfl,rfl,⟨g,c,hb,hc1,hcg,hRg,hgi,hUg⟩,M,hM,hp⟩ | ⟨rfl,rfl,rd,M,hrd,hM,⟨p,c,hb⟩,hU,buf,o,feed,over,inp,hr,ht⟩ | ⟨rfl,rfl,⟨p,c,old,hb⟩,M,inp,hM,hp⟩
  ·
   have c1:=Blk.cell hb 1 (v:=.slice (some ⟨g,0,none⟩) 1 c) rfl
   have c3:=Blk.cell hb 3 (v:=.pointer none) rfl
   have d1:=Blk.cell (Blk.drew hb) 1 (v:=.slice (some ⟨g,0,none⟩) 1 c) rfl
   have d2:=Blk.cell (Blk.drew hb) 2 (v:=.string ⟨#[]⟩) rfl
   have f1:=Blk.free (Blk.drew hb) 1
   have f2:=Blk.free (Blk.drew hb) 2
   have hcgd:wr.drew.cell? ⟨g,0,none⟩=some (.string ⟨#[45]⟩):=hcg
   have kb:InBlk (wr.drew.setCell ⟨ib,2,none⟩ (.string ⟨#[45]⟩)) F.p ib (.slice (some ⟨g,0,none⟩) 1 c) [45] (.pointer none) (.slice none 0 0) false:=Blk.set (Blk.drew hb) 2 _
   have d1b:=Blk.cell kb 1 (v:=.slice (some ⟨g,0,none⟩) 1 c) rfl
   have f1b:=Blk.free kb 1
   have hgl:g < wr.heap.size:=World.block_lt_of_cell? _ _ hcg
   have hgib:g≠ib:=hgi
   have HK:=Lib.hid kb
   have HP:=Lib.hid hp
   have HMM:=Lib.hid hM
   have HB:=Lib.hid hb
   have e1:=Blk.free hb 1
   have e2:=Blk.free hb 2
   clear hb kb hp hM
   go_upto_region 10 with fail
   go_region
   obtain ⟨pn,hpn⟩:∃ pn,(if c=1 then some (⟨g,0,none⟩:Addr) else some ⟨g,1,none⟩)=pn:=⟨_,rfl⟩
   rw [hpn]
   obtain ⟨w1,hw1⟩:∃ w1,((wr.setCell ⟨ib,2,none⟩ (.string ⟨#[45]⟩)).setCell ⟨ib,1,none⟩ (.slice pn 0 (c - 1))).drew=w1:=⟨_,rfl⟩
   rw [hw1]
   have kb1:InBlk w1 F.p ib (.slice pn 0 (c - 1)) [45] (.pointer none) (.slice none 0 0) false:=by
    rw [← hw1]
    exact Blk.drew (Blk.set (Blk.set HB.out 2 (.string ⟨#[45]⟩)) 1 (.slice pn 0 (c - 1)))
   have kk1:Kept (fun j=>j=ib) wr w1:=by rw [← hw1];exact (((Kept.refl (fun j=>j=ib) wr).setCell (.inl rfl) 2 _).setCell (.inl rfl) 1 _).drew
   clear hw1 d1 d2 f1 f2 hcgd d1b f1b c1 c3 e1 e2 hcg hpn
   have y0:=Blk.cell kb1 0 (v:=.pointer (some ⟨F.p,0,none⟩)) rfl
   have y2:=Blk.cell kb1 2 (v:=.string ⟨#[45]⟩) rfl
   have hop:=fun n=>openDash_any (some ⟨F.p,0,none⟩) (w1.drewN n)
   have KB1:=Lib.hid kb1
   have KK1:=Lib.hid kk1
   clear kb1 kk1
   go_upto_region 11 with fail
   go_quiet ((go_at_call 129;exact Calls.quiet_of_same (hop _)))
   obtain ⟨w2,hw2⟩:∃ w2,w1.drewN nq=w2:=⟨_,rfl⟩
   rw [hw2]
   have kb2:InBlk w2 F.p ib (.slice pn 0 (c - 1)) [45] (.pointer none) (.slice none 0 0) false:=by rw [← hw2];exact Blk.drewN KB1.out nq
   have kk2:Kept (fun j=>j=ib) wr w2:=by
    have hq:Below w1.heap.size w1 (w1.drewN nq):=⟨rfl,rfl,rfl,Nat.le_refl _,fun _ _=>rfl⟩
    rw [← hw2]
    exact KK1.out.trans (Kept.of_below hq)
   have hiM:¬ M ib:=fun e=>HI.out.own.1 (HMM.out _ e)
   have hp2:PrAt w2 F M tot out []:=HP.out.kept kk2 fun j e=>by
    have h5:j=ib:=e
    subst h5
    exact ⟨HI.out.own.2,hiM⟩
   have hnw:=rdNew2_any F M tot out [] w2 hp2
   have z0:=Blk.cell kb2 0 (v:=.pointer (some ⟨F.p,0,none⟩)) rfl
   have KB2:=Lib.hid kb2
   have KK2:=Lib.hid kk2
   have HP2:=Lib.hid hp2
   clear hw2 kb2 kk2 hp2 hop y0 y2
   go_wp2_with fail
   refine hnw.mono ?_
   rintro e w3 ⟨rfl,hr3,hn3,hb3⟩
   have kb3:InBlk w3 F.p ib (.slice pn 0 (c - 1)) [45] (.pointer none) (.slice none 0 0) false:=Blk.keep KB2.out hb3 (Blk.lt KB2.out)
   have kb4:InBlk (w3.setCell ⟨ib,4,none⟩ (.int .i64 0)) F.p ib (.slice pn 0 (c - 1)) [45] (.pointer none) (.slice none 0 0) false:=Blk.set kb3 4 _
   obtain ⟨w5,hw5⟩:∃ w5,(w3.setCell ⟨ib,4,none⟩ (.int .i64 0)).setCell ⟨ib,3,none⟩ (.pointer (some ⟨w2.heap.size,0,none⟩))=w5:=⟨_,rfl⟩
   have kb5:InBlk w5 F.p ib (.slice pn 0 (c - 1)) [45] (.pointer (some ⟨w2.heap.size,0,none⟩)) (.slice none 0 0) false:=by rw [← hw5];exact Blk.set kb4 3 _
   have kk35:Kept (fun j=>j=ib) w3 w5:=by rw [← hw5];exact ((Kept.refl (fun j=>j=ib) w3).setCell (.inl rfl) 4 _).setCell (.inl rfl) 3 _
   have kk5:Kept (fun j=>j=ib) wr w5:=(KK2.out.trans (Kept.of_below hb3)).trans kk35
   have hil:ib < w2.heap.size:=Blk.lt KB2.out
   have hiw:=HI.out.ibLt
   have hws:=KK2.out.size
   have hrl:w2.heap.size < w3.heap.size:=World.block_lt_of_cell? _ _ hn3
   have hr5:Rdr w5 F M w2.heap.size [] 0 false false tot out []:=⟨hr3.toRdrW.kept kk35 (fun j e=>by
    have h5:j=ib:=e
    subst h5
    exact ⟨HI.out.own.2,hiM,by omega⟩) (fun v hv j _ a n c e _=>by rw [hn3] at hv;rw [e] at hv;cases hv),hr3.over_⟩
   have hn5:w5.cell? ⟨w2.heap.size,2,none⟩=some (.slice none 0 0):=(World.cell?_of_block (kk35.block _ hrl (by show w2.heap.size≠ib;omega))).trans hn3
   have hin5:InAt w5 F U (fun j=>R1 j∨j=w2.heap.size) ib 1 tot out false:=by
    refine ⟨.inr (.inl ⟨rfl,rfl,_,M,.inr rfl,fun j hj=>.inl (HMM.out j hj),⟨_,_,kb5⟩,fun a n c e=>?_,[],0,false,false,tot,hr5,rfl⟩),⟨fun e=>?_,HI.out.own.2⟩,fun j hj=>?_,fun j hj=>?_,fun j hj=>?_⟩
    ·rw [hn5] at e
     cases e
    ·rcases e with e | e
     ·exact HI.out.own.1 e
     ·omega
    ·have h1:=kk5.size
     have h2:=kk35.size
     rcases hj with hj | hj
     ·have:=HI.out.lt j hj;omega
     ·omega
    ·rcases hj with hj | hj
     ·exact HI.out.r0 j hj
     ·have h1:=HP2.out.fix.oldN
      have h2:=HP2.out.n0
      omega
    ·obtain ⟨a,b,c,d⟩:=HI.out.u0 j hj
     have h1:=kk5.size
     exact ⟨a,fun e=>by rcases e with e | e;(· exact b e);(· omega),c,by omega⟩
   have hmv5:MvI R1 (fun j=>R1 j∨j=w2.heap.size) ib wr w5:=⟨kk5.mono fun _ _ e=>.inr e,fun j hj=>by rcases hj with hj | hj;(· exact .inl hj);(· exact .inr (by omega))⟩
   have HIN5:=Lib.hid hin5
   have HMV5:=Lib.hid hmv5
   have HW5:=Lib.hid hw5
   have x4:=Blk.cell kb3 4 (v:=.int .i64 0) rfl
   have g4:=Blk.free kb3 4
   have x3:=Blk.cell kb4 3 (v:=.pointer none) rfl
   have g3:=Blk.free kb4 3
   have x3b:=Blk.cell kb3 3 (v:=.pointer none) rfl
   have g3b:=Blk.free kb3 3
   clear hnw hr3 hn3 hb3 kb3 kb4 kb5 kk35 kk5 hr5 hn5 hin5 hmv5 hw5
   go_wp2_with fail
   go_roundg g0
   case measure=>omega
   case rel=>
    rw [HW5.out]
    exact ⟨_,1,by omega,HIN5,Lib.hid (HM.out.trans HMV5.out)⟩
  ·
   have hmo:=rdMore_any F M rd buf o feed over inp out [] wr hr
   unfold MorePost at hmo
   rw [ht] at hmo
   have c3:=Blk.cell hb 3 (v:=.pointer (some ⟨rd,0,none⟩)) rfl
   have HBK:=Lib.hid hb
   have HU:=Lib.hid hU
   have HMM:=Lib.hid hM
   have HRD:=Lib.hid hrd
   clear hb hU hM hrd hr ht
   cases tot with
   | cons x t=>
    go_wp2_with fail
    refine hmo.mono ?_
    rintro e w1 ⟨rfl,hmv,hbf,o1,feed1,over1,buf1,inp1,hr1,ht1⟩
    have hin:=HI.out.reading HRD.out HMM.out HBK.out HU.out hmv hbf hr1 ht1
    have HIN:=Lib.hid hin
    clear hmo hmv hbf hr1 ht1 hin
    go_wp2_with fail
    go_ret
    exact ⟨rfl,R1,_,HIN.out.1,rfl,HM.out.trans HIN.out.2⟩
   | nil=>
    go_wp2_with fail
    refine hmo.mono ?_
    rintro e w1 ⟨rfl,hmv,hbf,o1,feed1,over1,buf1,inp1,hr1,ht1⟩
    have hMR:∀ j,(M j∨j=rd)→R1 j:=fun j hj=>by
     rcases hj with hj | hj
     ·exact HMM.out j hj
     ·exact hj ▸ HRD.out
    have hb1:InBlk w1 F.p ib (.slice p 0 c) [45] (.pointer (some ⟨rd,0,none⟩)) (.slice none 0 0) false:=Blk.kept HBK.out hmv.1 (fun e=>HI.out.own.1 (hMR _ e))
    have hlv:=leave_any F.p ib rd p c [45] false w1 hb1
    have HMV:=Lib.hid (hmv.1.mono fun j _ e=>hMR j e)
    have HR1:=Lib.hid hr1
    clear hmo hmv hbf hr1 ht1 hMR hb1
    go_wp2_with fail
    refine hlv.mono ?_
    rintro e w2 ⟨⟨v,rfl⟩,⟨old,hb2⟩,hk2⟩
    have hp2:PrAt w2 F M inp1 out (errF false):=HR1.out.pr.kept hk2 fun j e=>by
     have h5:j=ib:=e
     subst h5
     exact ⟨HI.out.own.2,fun e=>HI.out.own.1 (HMM.out _ e)⟩
    have hen:=HI.out.ended hb2 hp2 ((HMV.out.mono fun _ _ e=>.inl e).trans (hk2.mono fun _ _ e=>.inr e)) fun j hj=>.inl (HMM.out j hj)
    have c1:=Blk.cell hb2 1 (v:=.slice p 0 c) rfl
    have HEN:=Lib.hid hen
    clear hlv hb2 hk2 hp2 hen
    go_wp2_with fail
    go_ret
    obtain ⟨R2,h1,h2⟩:=HEN.out
    exact ⟨rfl,R2,_,h1,rfl,HM.out.trans h2⟩
  ·
   have c1:=Blk.cell hb 1 (v:=.slice p 0 c) rfl
   have c3:=Blk.cell hb 3 (v:=.pointer none) rfl
   clear hb hp hM
   go_wp2_with fail
   go_ret
   exact ⟨rfl,R1,_,HI.out,rfl,HM.out⟩
end Go.Proofs.YtefpcacnblaokaaGreatDoor

/-
  The walk of text.Number; the plain law of digits' values. Conditions: the strings are no longer than memory allows; the library's variables hold errors.
-/
set_option maxRecDepth 100000
namespace Go.Proofs.YtefpcacnblaokaaGreatDoor.Ord
open Go
abbrev Bytes:=List UInt8
def digit (c:UInt8):Bool:=48≤c && c≤57
def value (s:Bytes):Nat:=s.foldl (fun n c=>n * 10+(c.toNat - 48)) 0
def number (s:Bytes) (most:Int):Option Int:=
 if !s.isEmpty && s.all digit && decide ((value s:Int)≤most) then some (value s) else none
def valueFrom (a:Nat) (s:Bytes):Nat:=s.foldl (fun n c=>n * 10+(c.toNat - 48)) a
theorem valueFrom_ge (s:Bytes):∀ a,a≤valueFrom a s:=by
 induction s with
 | nil=>intro a;exact Nat.le_refl _
 | cons c r ih=>intro a;have:=ih (a * 10+(c.toNat - 48));simp only [valueFrom,List.foldl_cons] at this ⊢;omega
theorem digit_nat {c:UInt8} (h:digit c=true):48≤c.toNat∧c.toNat≤57:=by
 simpa [digit,UInt8.le_iff_toNat_le] using h
theorem parseUintM_digits (s:Bytes):∀ a,s.all digit=true→a≤18446744073709551615 →
  Lib.parseUintM 18446744073709551615 a s=if valueFrom a s≤18446744073709551615 then .ok (valueFrom a s) else .range:=by
 induction s with
 | nil=>intro a _ ha;simp [Lib.parseUintM,valueFrom,ha]
 | cons c r ih=>
  intro a hs ha
  simp only [List.all_cons,Bool.and_eq_true] at hs
  have hd:=digit_nat hs.1
  have hv:=valueFrom_ge r (a * 10+(c.toNat - 48))
  have e:valueFrom a (c :: r)=valueFrom (a * 10+(c.toNat - 48)) r:=rfl
  simp only [Lib.parseUintM,if_pos hd]
  rw [e]
  by_cases h1:1844674407370955162≤a
  ·rw [if_pos h1,if_neg (by omega)]
  ·rw [if_neg h1]
   by_cases h2:18446744073709551615 < a * 10+(c.toNat - 48)
   ·rw [if_pos h2,if_neg (by omega)]
   ·rw [if_neg h2];exact ih _ hs.2 (by omega)
theorem parseIntB_digits (s:Bytes) (hs:s.all digit=true) (h0:s≠[]) :
  Lib.parseIntB 64 s=if value s < 9223372036854775808 then .ok (value s:Int) else .range:=by
 match s,hs,h0 with
 | c :: r,hs,_=>
  have hd:=digit_nat (by simp only [List.all_cons,Bool.and_eq_true] at hs;exact hs.1)
  have hu:Lib.parseUintB 64 (c :: r)=if value (c :: r)≤18446744073709551615 then .ok (value (c :: r)) else .range:=by
   unfold Lib.parseUintB
   rw [if_neg (by simp)]
   exact parseUintM_digits (c :: r) 0 hs (by omega)
  have hu':Lib.parseUintB 64 (if c.toNat=43∨c.toNat=45 then r else c :: r)=if value (c :: r)≤18446744073709551615 then .ok (value (c :: r)) else .range:=by
   rw [if_neg (by omega)];exact hu
  simp only [Lib.parseIntB,hu']
  have h45:¬ c.toNat=45:=by omega
  by_cases h1:value (c :: r)≤18446744073709551615
  ·rw [if_pos h1]
   by_cases h2:value (c :: r) < 9223372036854775808
   ·rw [if_pos h2];simp [h45];omega
   ·rw [if_neg h2];simp [h45];omega
  ·rw [if_neg h1,if_neg (by omega)]
theorem number_none_of (s:Bytes) (most:Int) (h:s=[]∨s.all digit=false∨most < value s):number s most=none:=by
 unfold number
 rcases h with h | h | h
 ·simp [h]
 ·simp [h]
 ·rw [if_neg];simp;intro _ _;omega
theorem number_some_of (s:Bytes) (most:Int) (h0:s≠[]) (h:s.all digit=true) (hv:(value s:Int)≤most):number s most=some (value s:Int):=by
 unfold number
 rw [if_pos]
 simp [h0,h,hv]
end Go.Proofs.YtefpcacnblaokaaGreatDoor.Ord
namespace Go.Proofs.YtefpcacnblaokaaGreatDoor
open Go.RowKit Go.Shelf
theorem digit_int (c:UInt8):Ord.digit c=(decide ((48:Int)≤c.toNat) && decide ((c.toNat:Int)≤57)):=by
 simp only [Ord.digit,u8_le];rfl
theorem digit_no {c:UInt8} (h:(c.toNat:Int) < 48∨57 < (c.toNat:Int)):Ord.digit c=false:=by
 rw [digit_int];simp;omega
theorem digit_yes {c:UInt8} (h:(48:Int)≤c.toNat) (h':(c.toNat:Int)≤57):Ord.digit c=true:=by
 rw [digit_int];simp;omega
def numVal (l:Ord.Bytes) (most:Int):Value:=match Ord.number l most with
 | none=>.tuple #[.int .i64 0,.bool false]
 | some v=>.tuple #[.int .i64 v,.bool true]
theorem parseInt_bad (l:Ord.Bytes) (hl:l.length≤140737488351232) (h:l=[]∨(l.all Ord.digit=true∧9223372036854775808≤Ord.value l)) (w:World) (hg:Glo w) :
  Calls Tryz.prog 278 #[.string ⟨l.toArray⟩,.int .i64 10,.int .i64 64] w fun e w'=>(∃ n t a,e=.returned (.tuple #[.int .i64 n,.iface t (.pointer (some a))]))∧Below w.heap.size w w':=by
 obtain ⟨⟨t1,p1,h1⟩,⟨t2,p2,h2⟩,-⟩:=hg
 by_cases h0:l=[]
 ·subst h0
  exact (Any.strconv_ParseInt_10_at64_syntax_var Tryz.laysC174 ⟨#[]⟩ (by decide) rfl t1 p1 w h1).mono fun e w' ⟨N,he,_,_,hb⟩=>⟨⟨_,_,_,he⟩,hb⟩
 ·rcases h with h | ⟨ha,hv⟩
  ·exact absurd h h0
  ·exact (Any.strconv_ParseInt_10_at64_range_var Tryz.laysC174 ⟨l.toArray⟩ (by simp [ByteArray.size];omega) (by rw [Ord.parseIntB_digits l ha h0,if_neg (by omega)]) t2 p2 w h2).mono fun e w' ⟨N,he,_,_,hb⟩=>⟨⟨_,_,_,he⟩,hb⟩
theorem parseInt_good (l:Ord.Bytes) (hl:l.length≤140737488351232) (h0:l≠[]) (ha:l.all Ord.digit=true) (hv:Ord.value l < 9223372036854775808) (w:World) :
  Calls Tryz.prog 278 #[.string ⟨l.toArray⟩,.int .i64 10,.int .i64 64] w fun e w'=>e=.returned (.tuple #[.int .i64 (Ord.value l),.nilIface])∧Below w.heap.size w w':=by
 refine (Any.strconv_ParseInt_10_at64_ok Tryz.laysC174 ⟨l.toArray⟩ (by simp [ByteArray.size];omega) (Ord.value l) (by rw [Ord.parseIntB_digits l ha h0,if_pos hv]) w).mono fun e w' ⟨he,hw⟩=>⟨he, ?_⟩
 rcases hw with rfl | ⟨t,rfl⟩
 ·exact Below.refl _ _
 ·exact Lib.bytesWorld_below _ _ _
theorem all_take (l:Ord.Bytes) (k:Nat) (hk:k < l.length):(l.take (k+1)).all Ord.digit=((l.take k).all Ord.digit && Ord.digit (l.getD k 0)):=by
 rw [List.take_succ_eq_append_getElem hk,List.all_append]
 simp [List.getD_eq_getElem?_getD,List.getElem?_eq_getElem hk]
theorem all_false_at (l:Ord.Bytes) (k:Nat) (hk:k < l.length) (h:Ord.digit (l.getD k 0)=false):l.all Ord.digit=false:=by
 rw [List.all_eq_false]
 exact ⟨l.getD k 0,by rw [List.getD_eq_getElem?_getD,List.getElem?_eq_getElem hk];exact List.getElem_mem hk,by rw [h];decide⟩
theorem numVal_none {l:Ord.Bytes} {most:Int} (h:l=[]∨l.all Ord.digit=false∨most < Ord.value l):numVal l most=.tuple #[.int .i64 0,.bool false]:=by
 unfold numVal;rw [Ord.number_none_of l most h]
theorem numVal_some {l:Ord.Bytes} {most:Int} (h0:l≠[]) (h:l.all Ord.digit=true) (hv:(Ord.value l:Int)≤most):numVal l most=.tuple #[.int .i64 (Ord.value l),.bool true]:=by
 unfold numVal;rw [Ord.number_some_of l most h0 h hv]
theorem based_any (l:Ord.Bytes) (most:Int) (hl:l.length≤140737488351232) (hm0:0≤most) (hm:most≤2147483647) (w:World) (hg:Glo w) :
  Calls Tryz.prog 234 #[.string ⟨l.toArray⟩,.int .i64 most,.int .i64 10] w fun e w'=>e=.returned (numVal l most)∧Below w.heap.size w w':=by
 have hconv:=fun w=>Lib.run_convert_string_bytes (P:=Tryz.prog) w 9 22 5 ⟨l.toArray⟩ Tryz.underlying9 Tryz.underlying22 Tryz.underlying5
 have hsz:(⟨l.toArray⟩:ByteArray).size=l.length:=by simp [ByteArray.size]
 simp only [hsz] at hconv
 have hbel:=Lib.bytesWorld_below w 5 ⟨l.toArray⟩
 have hcell:∀ j,j < l.length→(Lib.bytesWorld w 5 ⟨l.toArray⟩).cell? ⟨w.heap.size,j,none⟩=some (.int .u8 (l.getD j 0).toNat):=fun j hj=>Lib.bytesWorld_cell w 5 ⟨l.toArray⟩ j (by rw [hsz];exact hj)
 have hsize:=Lib.bytesWorld_size w 5 ⟨l.toArray⟩
 go_enter Tryz.func234,Tryz.ntmps234
 go_wp2_with fail
 clear hconv
 generalize Lib.bytesWorld w 5 ⟨l.toArray⟩=w1 at *
 have hg1:=hg.below hbel
 go_loop [15] (fun i=>∃ k:Nat,k≤l.length∧(l.take k).all Ord.digit=true∧i=.int .i64 k) (fun i=>l.length - (intOf i).toNat)
 case atStart=>exact ⟨0,Nat.zero_le _,rfl,rfl⟩
 case round=>
  obtain ⟨k,hk,hall,rfl⟩:=hrel
  have HA:=Lib.hid hall;clear hall
  by_cases hlt:k < l.length
  ·have hc:=hcell k hlt
   have hbd:=u8_bd (l.getD k 0)
   have eg:l[k]=l.getD k 0:=by simp [List.getD_eq_getElem?_getD,List.getElem?_eq_getElem hlt]
   have EG:=Lib.hid eg;clear eg
   go_wp2_with fail
   ·have h1:(l[k].toNat:Int) < 48:=by assumption
    rw [EG.out] at h1
    go_ret2
    refine ⟨?_,hbel⟩
    rw [numVal_none (.inr (.inl (all_false_at l k hlt (digit_no (by omega)))))];rfl
   ·have h1:10≤((l[k].toNat:Int) - 48) % 256:=by assumption
    rw [EG.out] at h1
    go_ret2
    refine ⟨?_,hbel⟩
    rw [numVal_none (.inr (.inl (all_false_at l k hlt (digit_no (by omega)))))];rfl
   ·have h1:((l[k].toNat:Int) - 48) % 256 < 10:=by assumption
    have h2:¬ (l[k].toNat:Int) < 48:=by assumption
    rw [EG.out] at h1 h2
    go_round
    case rel=>exact ⟨k+1,by omega,by rw [all_take l k hlt,HA.out,digit_yes (by omega) (by omega)];rfl,by go_num⟩
    case measure=>simp [intOf];omega
  ·obtain rfl:k=l.length:=by omega
   have hall:l.all Ord.digit=true:=by simpa using HA.out
   have HA2:=Lib.hid hall;clear hall HA
   by_cases h0:l=[]∨9223372036854775808≤Ord.value l
   ·have HN:=Lib.hid (show numVal l most=.tuple #[.int .i64 0,.bool false] from numVal_none (by rcases h0 with h | h;exact .inl h;exact .inr (.inr (by omega))))
    have hbad:=fun w=>parseInt_bad l hl (h0.imp id fun h=>⟨HA2.out,h⟩) w
    clear h0
    go_wp2_with (go_at_call 278;refine (hbad _ hg1).mono ?_;rintro e w2 ⟨⟨n,t,a,rfl⟩,hb2⟩)
    go_ret2
    exact ⟨by rw [HN.out];rfl,hbel.trans (hb2.mono (by omega))⟩
   ·have hn0:l≠[]:=fun h=>h0 (.inl h)
    have hv:Ord.value l < 9223372036854775808:=by rcases Nat.lt_or_ge (Ord.value l) 9223372036854775808 with h | h;exact h;exact absurd (.inr h) h0
    have hgood:=fun w=>parseInt_good l hl hn0 HA2.out hv w
    clear h0
    by_cases hv2:(Ord.value l:Int)≤most
    ·have HN:=Lib.hid (numVal_some (most:=most) hn0 HA2.out hv2)
     clear hn0
     go_wp2_with (go_at_call 278;refine (hgood _).mono ?_;rintro e w2 ⟨rfl,hb2⟩)
     go_ret2
     exact ⟨by rw [HN.out];rfl,hbel.trans (hb2.mono (by omega))⟩
    ·have HN:=Lib.hid (show numVal l most=.tuple #[.int .i64 0,.bool false] from numVal_none (.inr (.inr (by omega))))
     clear hn0
     go_wp2_with (go_at_call 278;refine (hgood _).mono ?_;rintro e w2 ⟨rfl,hb2⟩)
     go_ret2
     exact ⟨by rw [HN.out];rfl,hbel.trans (hb2.mono (by omega))⟩
theorem number_any (l:Ord.Bytes) (most:Int) (hl:l.length≤140737488351232) (hm0:0≤most) (hm:most≤2147483647) (w:World) (hg:Glo w) :
  Calls Tryz.prog 176 #[.string ⟨l.toArray⟩,.int .i64 most] w fun e w'=>e=.returned (numVal l most)∧Below w.heap.size w w':=by
 have hb:=fun w' hg'=>based_any l most hl hm0 hm w' hg'
 have hx:∃ n b,numVal l most=.tuple #[.int .i64 n,.bool b]:=by
  unfold numVal;split <;> exact ⟨_,_,rfl⟩
 obtain ⟨n,b,hx⟩:=hx
 rw [hx] at hb ⊢
 clear hx
 go_enter Tryz.func176,Tryz.ntmps176
 go_wp2_with (go_at_call 234;refine (hb _ hg).mono ?_;rintro e w1 ⟨rfl,hb1⟩)
 go_ret2
 exact ⟨rfl,hb1⟩
end Go.Proofs.YtefpcacnblaokaaGreatDoor
