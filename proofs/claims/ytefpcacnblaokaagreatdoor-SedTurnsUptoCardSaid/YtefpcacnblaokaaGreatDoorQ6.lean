/-
  Texts of this seat put together: S1, S2, S3, Io, S4, App2.
-/
import Derived.Test.YtefpcacnblaokaaGreatDoorQ5
import Derived.Lib.Small

/-
  A reader of descriptor 0 in memory; the walks of New, drop, fill, Free. Condition: a process that runs.
-/
set_option maxRecDepth 100000
set_option maxHeartbeats 4000000
namespace Go.Proofs.YtefpcacnblaokaaGreatDoor
open Go.RowKit Go.Shelf Go.Maps
def RdBlk (W:World) (p rd:Nat) (v:Value) (o:Nat) (feed over:Bool):Prop:=Blk W rd #[.pointer (some ⟨p,0,none⟩),.int .i64 0,v,.int .i64 o,.bool feed,.bool over] 327
structure RdrW (W:World) (F:Fx) (M:Nat→Prop) (rd:Nat) (buf:Bts) (o:Nat) (feed over:Bool) (inp out err:Bts):Prop where
 pr:PrAt W F M inp out err
 blk:∃ v,RdBlk W F.p rd v o feed over∧Sl W (fun g=>F.n0≤g∧¬ M g∧g≠rd) v buf
 n0:F.n0≤rd
 own:¬ M rd
structure Rdr (W:World) (F:Fx) (M:Nat→Prop) (rd:Nat) (buf:Bts) (o:Nat) (feed over:Bool) (inp out err:Bts):Prop extends RdrW W F M rd buf o feed over inp out err where
 over_:over=true→inp=[]
theorem RdrW.kept {W W':World} {F:Fx} {M S:Nat→Prop} {rd o:Nat} {buf inp out err:Bts} {feed over:Bool} (h:RdrW W F M rd buf o feed over inp out err) (hk:Kept S W W') (hS:∀ j,S j→F.n0≤j∧¬ M j∧j≠rd) (hSb:∀ v,W.cell? ⟨rd,2,none⟩=some v→∀ j,S j→∀ a n c,v=.slice (some a) n c→a.block≠j):RdrW W' F M rd buf o feed over inp out err:=by
 obtain ⟨hp,⟨v,hb,hs⟩,n0,ow⟩:=h
 refine ⟨hp.kept hk fun j hj=>⟨(hS j hj).1,(hS j hj).2.1⟩,⟨v,Blk.kept hb hk fun h=>(hS _ h).2.2 rfl, ?_⟩,n0,ow⟩
 rcases hs with h | ⟨g,o,c,h1,h2,h3,h4,h5⟩
 ·exact .inl h
 ·have hg:¬ S g:=fun hg=>(hSb v (hb.cell 2 rfl) g hg) _ _ _ h1 rfl
  exact .inr ⟨g,o,c,h1,h2,Nat.lt_of_lt_of_le h3 hk.size,h4,fun i hi=>(World.cell?_of_block (hk.block g h3 hg)).trans (h5 i hi)⟩
theorem RdrW.below {W W':World} {F:Fx} {M:Nat→Prop} {rd o:Nat} {buf inp out err:Bts} {feed over:Bool} (h:RdrW W F M rd buf o feed over inp out err) (hb:Below W.heap.size W W'):RdrW W' F M rd buf o feed over inp out err:=
 h.kept (Kept.of_below (S:=fun _=>False) hb) (fun _ h=>h.elim) fun _ _ _ h=>h.elim
theorem Rdr.below {W W':World} {F:Fx} {M:Nat→Prop} {rd o:Nat} {buf inp out err:Bts} {feed over:Bool} (h:Rdr W F M rd buf o feed over inp out err) (hb:Below W.heap.size W W'):Rdr W' F M rd buf o feed over inp out err:=⟨h.toRdrW.below hb,h.over_⟩
def MvR (M M':Nat→Prop) (rd:Nat) (W W':World):Prop:=Kept (fun j=>M j∨j=rd) W W'∧∀ j,M' j→M j∨W.heap.size≤j
theorem MvR.trans {M M' M'':Nat→Prop} {rd:Nat} {W W' W'':World} (h:MvR M M' rd W W') (h2:MvR M' M'' rd W' W''):MvR M M'' rd W W'':=
 ⟨h.1.trans' h2.1 fun k hk hm=>by
  rcases hm with hm | hm
  ·rcases h.2 k hm with h1 | h1
   ·exact .inl h1
   ·omega
  ·exact .inr hm,fun j hj=>by
  rcases h2.2 j hj with h1 | h1
  ·exact h.2 j h1
  ·exact .inr (Nat.le_trans h.1.size h1)⟩
theorem Mv.rd {M M':Nat→Prop} {W W':World} (h:Mv M M' W W') (rd:Nat):MvR M M' rd W W':=⟨h.kept.mono fun _ _ h=>.inl h,h.new⟩
theorem Kept.rd {M:Nat→Prop} {W W':World} (h:Kept M W W') (rd:Nat):MvR M M rd W W':=⟨h.mono fun _ _ h=>.inl h,fun _ h=>.inl h⟩
theorem RdrW.turn {W W':World} {F:Fx} {M:Nat→Prop} {rd o o':Nat} {buf buf' inp out err:Bts} {feed over feed' over':Bool} (h:RdrW W F M rd buf o feed over inp out err) (hk:Kept (fun j=>j=rd) W W') {v':Value} (hb:RdBlk W' F.p rd v' o' feed' over') (hs:Sl W (fun g=>F.n0≤g∧¬ M g∧g≠rd) v' buf'):RdrW W' F M rd buf' o' feed' over' inp out err:=
 ⟨h.pr.kept hk fun j hj=>by subst hj;exact ⟨h.n0,h.own⟩,⟨v',hb,hs.kept hk fun g _ hN e=>hN.2.2 e⟩,h.n0,h.own⟩
theorem RdrW.pass {W W':World} {F:Fx} {M M':Nat→Prop} {rd o:Nat} {buf inp out err inp' out' err':Bts} {feed over:Bool} (h:RdrW W F M rd buf o feed over inp out err) (hp:PrAt W' F M' inp' out' err') (hm:Mv M M' W W'):RdrW W' F M' rd buf o feed over inp' out' err':=by
 obtain ⟨-,⟨v,hb,hs⟩,n0,ow⟩:=h
 exact ⟨hp,⟨v,Blk.kept hb hm.kept ow,(hs.kept hm.kept fun g _ hN=>hN.2.1).mono' hs fun g hg hN=>⟨hN.1,hm.not hg hN.2.1,hN.2.2⟩⟩,n0,hm.not hb.lt ow⟩
theorem rdDrop_any (F:Fx) (M:Nat→Prop) (rd:Nat) (buf:Bts) (o:Nat) (feed over:Bool) (inp out err:Bts) (w:World) (h:RdrW w F M rd buf o feed over inp out err) :
  Calls Tryz.prog 204 #[.pointer (some ⟨rd,0,none⟩)] w fun e w'=>(∃ v,e=.returned v)∧RdrW w' F M rd buf 0 feed over inp out err∧w'.cell? ⟨rd,2,none⟩=w.cell? ⟨rd,2,none⟩∧MvR M M rd w w':=by
 obtain ⟨v,hb,hs⟩:=h.blk
 have c0:=hb.cell 0 (v:=.pointer (some ⟨F.p,0,none⟩)) rfl
 have c3:=hb.cell 3 (v:=.int .i64 o) rfl
 have HD:=Lib.hid (drop_any F M inp out err w.drew (h.pr.below (below_drew2 w)) o)
 have HB:=Lib.hid hb
 have HS:=Lib.hid hs
 have HR:=Lib.hid h
 clear h hb hs
 go_enter Tryz.func204,Tryz.ntmps204
 go_wp2_with fail
 go_region_held3 (fun w'=>w'.cell? ⟨rd,0,none⟩=some (.pointer (some ⟨F.p,0,none⟩))∧w'.cell? ⟨rd,3,none⟩=some (.int .i64 o)) (first | go_keep | exact HC.out)
  ((go_at_call 208;refine HD.out.mono ?_;rintro e w1 ⟨⟨u,rfl⟩,hp1,hk1⟩;have HC:=Lib.hid (show w1.cell? ⟨rd,0,none⟩=some (.pointer (some ⟨F.p,0,none⟩))∧w1.cell? ⟨rd,3,none⟩=some (.int .i64 o) from by
   have hk:=(Kept.of_below (S:=M) (below_drew2 w)).trans hk1
   exact ⟨(World.cell?_of_block (hk.block rd HB.out.lt HR.out.own)).trans c0,(World.cell?_of_block (hk.block rd HB.out.lt HR.out.own)).trans c3⟩);have HP1:=Lib.hid hp1;have HK1:=Lib.hid ((Kept.of_below (S:=M) (below_drew2 w)).trans hk1);clear hp1 hk1))
 have hb1:=Blk.kept HB.out HK1.out HR.out.own
 have f3:=hb1.free 3
 have d3:=hb1.cell 3 (v:=.int .i64 o) rfl
 have HB1:=Lib.hid hb1
 clear hb1
 go_wp2_with fail
 have hR1:RdrW w1 F M rd buf o feed over inp out err:=⟨HP1.out,⟨v,HB1.out,HS.out.kept HK1.out fun g _ hN=>hN.2.1⟩,HR.out.n0,HR.out.own⟩
 have hk2:Kept (fun j=>j=rd) w1 (w1.setCell ⟨rd,3,none⟩ (.int .i64 0)):=(Kept.refl (fun j=>j=rd) _).setCell (.inl rfl) 3 _
 refine bodyPost_end (results_none rfl _ _ _) rfl ⟨⟨_,rfl⟩,hR1.turn hk2 (HB1.out.set 3 _) (HS.out.kept HK1.out fun g _ hN=>hN.2.1),((Blk.set HB1.out 3 (.int .i64 0)).cell 2 (v:=v) rfl).trans (HB.out.cell 2 (v:=v) rfl).symm, ?_⟩
 exact (HK1.out.rd rd).trans ⟨hk2.mono fun _ _ h=>.inr h,fun _ h=>.inl h⟩
end Go.Proofs.YtefpcacnblaokaaGreatDoor

/-
  The walks of a reader's fill and Free. Condition: a reader in memory.
-/
set_option maxRecDepth 100000
set_option maxHeartbeats 4000000
namespace Go.Proofs.YtefpcacnblaokaaGreatDoor
open Go.RowKit Go.Shelf Go.Maps
theorem limBuf (a b c:Value) (w:World):(Instr.field 24 (.agg #[a,b,c]) 0).run Tryz.prog w=.ok a w:=by kernel_rfl
theorem limLine (a b c:Value) (w:World):(Instr.field 24 (.agg #[a,b,c]) 1).run Tryz.prog w=.ok b w:=by kernel_rfl
theorem rdFill_any (F:Fx) (M:Nat→Prop) (rd:Nat) (o:Nat) (feed over:Bool) (inp out err:Bts) (w:World) (h:Rdr w F M rd [] o feed over inp out err) :
  Calls Tryz.prog 209 #[.pointer (some ⟨rd,0,none⟩)] w fun e w'=>e=.returned (.int .i64 0)∧(∃ over',Rdr w' F M rd (inp.take F.buf) o feed over' (inp.drop F.buf) out err)∧(w'.cell? ⟨rd,2,none⟩=w.cell? ⟨rd,2,none⟩∨∃ v,w'.cell? ⟨rd,2,none⟩=some v∧Sl w' (fun g=>w.heap.size≤g) v (inp.take F.buf))∧MvR M M rd w w':=by
 obtain ⟨v,hb,hs⟩:=h.blk
 have c5:=hb.cell 5 (v:=.bool over) rfl
 cases over with
 | true=>
  have H:=Lib.hid h
  clear h hb hs
  go_enter Tryz.func209,Tryz.ntmps209
  go_wp2_with fail
  go_loopw [3,4,28,31,38] (fun _x3 _x4 _x28 _x31 _x38 wr=>wr=w) (fun _ _ _ _ _ _=>0)
  case atStart=>rfl
  case round=>
   obtain rfl:=hrel
   go_wp2_with fail
   go_ret
   have hi:=H.out.over_ rfl
   subst hi
   refine ⟨rfl,⟨true, ?_⟩,.inl rfl,Kept.refl _ _,fun _ h=>.inl h⟩
   simpa using H.out
 | false=>
  have c0:=hb.cell 0 (v:=.pointer (some ⟨F.p,0,none⟩)) rfl
  have c1:=hb.cell 1 (v:=.int .i64 0) rfl
  have HLIM:=Lib.hid (lim_any F M inp out err w.drew (h.pr.below (below_drew2 w)))
  have HRD:=Lib.hid (fun W (hW:Below w.heap.size w W)=>read_any F M inp out err W (h.pr.below hW) F.buf h.pr.lims.1 (by have:=h.pr.lims.2.2.1;omega))
  have HB:=Lib.hid hb
  have HS:=Lib.hid hs
  have HR:=Lib.hid h
  clear h hb hs
  go_enter Tryz.func209,Tryz.ntmps209
  go_wp2_with fail
  go_loopw [3,4,28,31,38] (fun _x3 _x4 _x28 _x31 _x38 wr=>wr=w) (fun _ _ _ _ _ _=>0)
  case atStart=>rfl
  case round=>
   obtain rfl:=hrel
   have hfl:=limBuf
   go_wp2_with fail
   go_region_held3 (fun w'=>w'.cell? ⟨rd,0,none⟩=some (.pointer (some ⟨F.p,0,none⟩))∧w'.cell? ⟨rd,1,none⟩=some (.int .i64 0)) (first | go_keep | exact HC1.out | exact HC2.out)
    ((first
     | (go_at_call 207;refine HLIM.out.mono ?_;rintro e w1 ⟨rfl,hb1⟩;have HW1:=Lib.hid ((below_drew2 wr).trans (hb1.mono (Nat.le_refl _)));have HC1:=Lib.hid (show w1.cell? ⟨rd,0,none⟩=some (.pointer (some ⟨F.p,0,none⟩))∧w1.cell? ⟨rd,1,none⟩=some (.int .i64 0) from ⟨(HW1.out.cell (p:=⟨rd,0,none⟩) HB.out.lt).trans c0,(HW1.out.cell (p:=⟨rd,1,none⟩) HB.out.lt).trans c1⟩);clear hb1)
     | (go_at_call 257;refine (HRD.out w1 HW1.out).mono ?_;rintro e w2 ⟨vb,rfl,hsl2,hp2,hk2⟩;obtain ⟨qb,cb,rfl,-⟩:=hsl2.bs;have hK:=(Kept.of_below (S:=M) HW1.out).trans hk2;have HC2:=Lib.hid (show w2.cell? ⟨rd,0,none⟩=some (.pointer (some ⟨F.p,0,none⟩))∧w2.cell? ⟨rd,1,none⟩=some (.int .i64 0) from ⟨(World.cell?_of_block (hK.block rd HB.out.lt HR.out.own)).trans c0,(World.cell?_of_block (hK.block rd HB.out.lt HR.out.own)).trans c1⟩);have HSL2:=Lib.hid hsl2;have HP2:=Lib.hid hp2;have HK2:=Lib.hid hK;clear hsl2 hp2 hk2 hK)))
   obtain ⟨L,hL⟩:∃ L,min F.buf inp.length=L:=⟨_,rfl⟩
   have hl:(inp.take F.buf).length=L:=by simpa using hL
   rw [hL]
   have hsl:=HSL2.out
   rw [hl] at hsl
   have hsl3:Sl w2 (fun g=>F.n0≤g∧¬ M g∧g≠rd) (.slice qb L cb) (inp.take F.buf):=hsl.mono fun g _ hg=>by
    have h1:w1.heap.size≤g:=hg
    have h2:=HW1.out.size
    have h3:=HR.out.pr.n0
    have h4:=HB.out.lt
    exact ⟨by omega,fun e=>by have:=HR.out.pr.lt g e;omega,by omega⟩
   have hbl0:=HR.out.pr.lims.1
   have hb2:RdBlk w2 F.p rd v o feed false:=Blk.kept HB.out HK2.out HR.out.own
   have hsl4:=hsl3
   have hslC:Sl w2 (fun g=>wr.heap.size≤g∧¬ M g∧g≠rd) (.slice qb L cb) (inp.take F.buf):=hsl.mono fun g _ hg=>by
    have h1:w1.heap.size≤g:=hg
    have h2:=HW1.out.size
    have h4:=HB.out.lt
    exact ⟨by omega,fun e=>by have:=HR.out.pr.lt g e;omega,by omega⟩
   have hslB:∀ {wa wb wc:World},Kept (fun j=>j=rd) w2 wa→Kept M wa wb→Kept (fun j=>j=rd) wb wc→Sl wc (fun g=>wr.heap.size≤g) (.slice qb L cb) (inp.take F.buf):=fun ha hb hc=>
    (((hslC.kept ha fun g _ hN e=>hN.2.2 e).kept hb fun g _ hN=>hN.2.1).kept hc (fun g _ hN e=>hN.2.2 e)).mono fun g _ hN=>hN.1
   have HH:∀ w3 ov,Kept (fun j=>j=rd) w2 w3→RdBlk w3 F.p rd v o feed ov→(ov=true→inp.drop F.buf=[]) →
     Calls Tryz.prog 223 #[.pointer (some ⟨F.p,0,none⟩),.int .i64 L] w3 fun e w4=>(∃ u,e=.returned u)∧RdBlk w4 F.p rd v o feed ov∧((∃ over',Rdr (w4.setCell ⟨rd,2,none⟩ (.slice qb L cb)) F M rd (inp.take F.buf) o feed over' (inp.drop F.buf) out err)∧((w4.setCell ⟨rd,2,none⟩ (.slice qb L cb)).cell? ⟨rd,2,none⟩=wr.cell? ⟨rd,2,none⟩∨∃ v,(w4.setCell ⟨rd,2,none⟩ (.slice qb L cb)).cell? ⟨rd,2,none⟩=some v∧Sl (w4.setCell ⟨rd,2,none⟩ (.slice qb L cb)) (fun g=>wr.heap.size≤g) v (inp.take F.buf))∧MvR M M rd wr (w4.setCell ⟨rd,2,none⟩ (.slice qb L cb))):=by
    intro w3 ov hk3 hb3 hov
    have hp3:PrAt w3 F M (inp.drop F.buf) out err:=HP2.out.kept hk3 fun j hj=>by subst hj;exact ⟨HR.out.n0,HR.out.own⟩
    refine (hold_any F M (inp.drop F.buf) out err w3 hp3 L).mono ?_
    rintro e w4 ⟨hu,hp4,hk4⟩
    have hb4:RdBlk w4 F.p rd v o feed ov:=Blk.kept hb3 hk4 HR.out.own
    have hk5:Kept (fun j=>j=rd) w4 (w4.setCell ⟨rd,2,none⟩ (.slice qb L cb)):=(Kept.refl (fun j=>j=rd) _).setCell (.inl rfl) 2 _
    refine ⟨hu,hb4,⟨ov,⟨⟨hp4.kept hk5 fun j hj=>by subst hj;exact ⟨HR.out.n0,HR.out.own⟩,⟨_,Blk.set hb4 2 _,((hsl4.kept hk3 fun g _ hN e=>hN.2.2 e).kept hk4 fun g _ hN=>hN.2.1).kept hk5 fun g _ hN e=>hN.2.2 e⟩,HR.out.n0,HR.out.own⟩,hov⟩⟩,.inr ⟨_,(Blk.set hb4 2 (.slice qb L cb)).cell 2 rfl,hslB hk3 hk4 hk5⟩, ?_⟩
    have h1:MvR M M rd wr w2:=HK2.out.rd rd
    have h2:MvR M M rd w2 w3:=⟨hk3.mono fun _ _ h=>.inr h,fun _ h=>.inl h⟩
    have h3:MvR M M rd w3 w4:=hk4.rd rd
    exact ((h1.trans h2).trans h3).trans ⟨hk5.mono fun _ _ h=>.inr h,fun _ h=>.inl h⟩
   have HHH:=Lib.hid HH
   have f5:=hb2.free 5
   have e5:=hb2.cell 5 (v:=.bool false) rfl
   have e0:=hb2.cell 0 (v:=.pointer (some ⟨F.p,0,none⟩)) rfl
   have HB2:=Lib.hid hb2
   have HL:=Lib.hid hL
   clear hL hl hsl hsl3 hsl4 hslC hslB hb2 c5 hfl HH
   by_cases hi:inp=[]
   ·obtain rfl:L=0:=by have:=HL.out;subst hi;simp at this;omega
    have hb3:RdBlk (w2.setCell ⟨rd,5,none⟩ (.bool true)) F.p rd v o feed true:=Blk.set HB2.out 5 _
    have d0:=hb3.cell 0 (v:=.pointer (some ⟨F.p,0,none⟩)) rfl
    have hc:=HHH.out _ true ((Kept.refl (fun j=>j=rd) _).setCell (.inl rfl) 5 _) hb3 (fun _=>by subst hi;simp)
    clear hb3
    go_wp2_with fail
    refine hc.mono ?_
    rintro e w4 ⟨⟨u,rfl⟩,hb4,hfin⟩
    have f2:=hb4.free 2
    have x2:=hb4.cell 2 (v:=v) rfl
    have HF:=Lib.hid hfin
    clear hb4 hfin hc
    go_wp2_with fail
    go_ret
    exact ⟨rfl,HF.out⟩
   ·have hL0:((L:Int) == 0)=false:=by
     have:=HL.out
     have:=List.length_pos_iff.2 hi
     simp;omega
    have hc:=HHH.out w2 false (Kept.refl _ _) HB2.out (fun e=>by cases e)
    go_wp2_with fail
    refine hc.mono ?_
    rintro e w4 ⟨⟨u,rfl⟩,hb4,hfin⟩
    have f2:=hb4.free 2
    have x2:=hb4.cell 2 (v:=v) rfl
    have HF:=Lib.hid hfin
    clear hb4 hfin hc
    go_wp2_with fail
    go_ret
    exact ⟨rfl,HF.out⟩
end Go.Proofs.YtefpcacnblaokaaGreatDoor

/-
  The walks of a reader's Free, of Line's closure that fails. Condition: a reader in memory.
-/
set_option maxRecDepth 100000
set_option maxHeartbeats 4000000
namespace Go.Proofs.YtefpcacnblaokaaGreatDoor
open Go.RowKit Go.Shelf Go.Maps
theorem rdFree_any (F:Fx) (M:Nat→Prop) (rd:Nat) (buf:Bts) (o:Nat) (feed over:Bool) (inp out err:Bts) (w:World) (h:RdrW w F M rd buf o feed over inp out err) :
  Calls Tryz.prog 132 #[.pointer (some ⟨rd,0,none⟩)] w fun e w'=>(∃ v,e=.returned v)∧RdrW w' F M rd [] 0 feed over inp out err∧MvR M M rd w w':=by
 have hdr:=rdDrop_any F M rd buf o feed over inp out err w h
 clear h
 go_enter Tryz.func132,Tryz.ntmps132
 go_wp2_with fail
 refine hdr.mono ?_
 rintro e w1 ⟨⟨u,rfl⟩,hr1,-,hm1⟩
 obtain ⟨v,hb,hs⟩:=hr1.blk
 obtain ⟨q,c,rfl,-⟩:=hs.bs
 have c0:=hb.cell 0 (v:=.pointer (some ⟨F.p,0,none⟩)) rfl
 have c2:=hb.cell 2 (v:=.slice q buf.length c) rfl
 have HD:=Lib.hid (drop_any F M inp out err w1.drew (hr1.pr.below (below_drew2 w1)) buf.length)
 have HB:=Lib.hid hb
 have HS:=Lib.hid hs
 have HR:=Lib.hid hr1
 have HM:=Lib.hid hm1
 clear hb hs hr1 hm1 hdr
 go_wp2_with fail
 go_region_held3 (fun w'=>w'.cell? ⟨rd,0,none⟩=some (.pointer (some ⟨F.p,0,none⟩))∧w'.cell? ⟨rd,2,none⟩=some (.slice q buf.length c)) (first | go_keep | exact HC.out)
  ((go_at_call 208;refine HD.out.mono ?_;rintro e w2 ⟨⟨u,rfl⟩,hp2,hk2⟩;have HC:=Lib.hid (show w2.cell? ⟨rd,0,none⟩=some (.pointer (some ⟨F.p,0,none⟩))∧w2.cell? ⟨rd,2,none⟩=some (.slice q buf.length c) from by
   have hk:=(Kept.of_below (S:=M) (below_drew2 w1)).trans hk2
   exact ⟨(World.cell?_of_block (hk.block rd HB.out.lt HR.out.own)).trans c0,(World.cell?_of_block (hk.block rd HB.out.lt HR.out.own)).trans c2⟩);have HP2:=Lib.hid hp2;have HK2:=Lib.hid ((Kept.of_below (S:=M) (below_drew2 w1)).trans hk2);clear hp2 hk2))
 have hb2:=Blk.kept HB.out HK2.out HR.out.own
 have f2:=hb2.free 2
 have d2:=hb2.cell 2 (v:=.slice q buf.length c) rfl
 have HB2:=Lib.hid hb2
 clear hb2
 go_wp2_with fail
 have hR2:=HR.out.pass HP2.out ⟨HK2.out,fun _ h=>.inl h⟩
 have hk3:Kept (fun j=>j=rd) w2 (w2.setCell ⟨rd,2,none⟩ (.slice none 0 0)):=(Kept.refl (fun j=>j=rd) _).setCell (.inl rfl) 2 _
 refine bodyPost_end (results_none rfl _ _ _) rfl ⟨⟨_,rfl⟩,hR2.turn hk3 (Blk.set HB2.out 2 _) (Sl.nil _ _), ?_⟩
 exact (HM.out.trans (HK2.out.rd rd)).trans ⟨hk3.mono fun _ _ h=>.inr h,fun _ h=>.inl h⟩
theorem lineFails_any (F:Fx) (M:Nat→Prop) (rd:Nat) (buf:Bts) (o:Nat) (feed over:Bool) (inp out err:Bts) (w:World) (h:RdrW w F M rd buf o feed over inp out err) (er:Int) (lb rb:Nat) (q:Option Addr) (n c:Nat) (hl:w.cell? ⟨lb,0,none⟩=some (.slice q n c)) (hr:w.cell? ⟨rb,0,none⟩=some (.pointer (some ⟨rd,0,none⟩))) (hlr:lb≠rd) (hrr:rb≠rd) :
  Calls Tryz.prog 205 #[.int .i64 er,.pointer (some ⟨lb,0,none⟩),.pointer (some ⟨rb,0,none⟩)] w fun e w'=>e=.returned (.tuple #[.slice none 0 0,.bool false,.int .i64 er])∧RdrW w' F M rd [] 0 feed true inp out err∧MvR M M rd w w':=by
 obtain ⟨v,hb,hs⟩:=h.blk
 have f5:=hb.drew.free 5
 have c5:=hb.drew.cell 5 (v:=.bool over) rfl
 have f3:=hb.drew.free 3
 have c3:=hb.drew.cell 3 (v:=.int .i64 o) rfl
 have g5:=hb.free 5
 have e5:=hb.cell 5 (v:=.bool over) rfl
 have g3:=hb.free 3
 have e3:=hb.cell 3 (v:=.int .i64 o) rfl
 have HB:=Lib.hid hb
 have HS:=Lib.hid hs
 have HR:=Lib.hid h
 have n1:rd≠lb:=hlr.symm
 have n2:rd≠rb:=hrr.symm
 clear hb hs h
 go_enter Tryz.func205,Tryz.ntmps205
 go_wp2_with fail
 go_region_held3 (fun w'=>w'.cell? ⟨lb,0,none⟩=some (.slice q n c)∧w'.cell? ⟨rb,0,none⟩=some (.pointer (some ⟨rd,0,none⟩))) (first | go_keep) (fail)
 have hkk:Kept (fun j=>j=rd) w ((w.setCell ⟨rd,5,none⟩ (.bool true)).setCell ⟨rd,3,none⟩ (.int .i64 n)).drew:=(((Kept.refl (fun j=>j=rd) _).setCell (.inl rfl) 5 _).setCell (.inl rfl) 3 _).drew
 have hbb:RdBlk ((w.setCell ⟨rd,5,none⟩ (.bool true)).setCell ⟨rd,3,none⟩ (.int .i64 n)).drew F.p rd v n feed true:=((Blk.set HB.out 5 _).set 3 _).drew
 have hrb:((w.setCell ⟨rd,5,none⟩ (.bool true)).setCell ⟨rd,3,none⟩ (.int .i64 n)).drew.cell? ⟨rb,0,none⟩=some (.pointer (some ⟨rd,0,none⟩)):=(World.cell?_of_block (hkk.block rb (World.block_lt_of_cell? _ _ hr) hrr)).trans hr
 have hR2:=HR.out.turn hkk hbb HS.out
 have HKK:=Lib.hid hkk
 clear hkk hbb c5 f5 f3 c3 g5 e5 g3 e3
 generalize ((w.setCell ⟨rd,5,none⟩ (.bool true)).setCell ⟨rd,3,none⟩ (.int .i64 n)).drew=w2 at *
 have hf:=rdFree_any F M rd buf n feed true inp out err w2 hR2
 clear hR2
 go_wp2_with fail
 refine hf.mono ?_
 rintro e w3 ⟨⟨u,rfl⟩,hr3,hm3⟩
 have HR3:=Lib.hid hr3
 have HM3:=Lib.hid hm3
 clear hr3 hm3 hf
 go_wp2_with fail
 go_ret3
 exact ⟨rfl,HR3.out,MvR.trans ⟨HKK.out.mono fun _ _ h=>.inr h,fun _ h=>.inl h⟩ HM3.out⟩
end Go.Proofs.YtefpcacnblaokaaGreatDoor

/-
  Lines of bytes, as plain functions. No program in sight. No condition: definitions and their laws.
-/
namespace Go.Proofs.YtefpcacnblaokaaGreatDoor.Wi
open Go
abbrev Bytes:=List UInt8
def lineOf:Bytes→Bytes × Bool × Bytes
 | []=>([],false,[])
 | c :: r=>if c=10 then ([],true,r) else (c :: (lineOf r).1,(lineOf r).2.1,(lineOf r).2.2)
theorem lineOf_skip (L t:Bytes) (h:∀ c ∈ L,c≠10):lineOf (L ++ t)=(L ++ (lineOf t).1,(lineOf t).2.1,(lineOf t).2.2):=by
 induction L with
 | nil=>rfl
 | cons c r ih=>
  rw [List.cons_append,lineOf,if_neg (h c (by simp)),ih fun x hx=>h x (by simp [hx])]
  rfl
theorem lineOf_feed (t:Bytes):lineOf (10 :: t)=([],true,t):=by rw [lineOf,if_pos rfl]
end Go.Proofs.YtefpcacnblaokaaGreatDoor.Wi

/-
  The walk of bytes.IndexByte at a line feed; a line that is being read (LnSt). Condition: a reader in memory.
-/
namespace Go.Proofs.YtefpcacnblaokaaGreatDoor
open Go.RowKit Go.Shelf Go.Maps
theorem bytesOf_nums (xs:Bts):Lib.bytesOf (nums xs)=xs:=by
 unfold Lib.bytesOf nums
 rw [List.map_map]
 conv=>rhs;rw [← List.map_id xs]
 apply List.map_congr_left
 intro c _
 simp
theorem idx_sl (w:World) (N:Nat→Prop) (v:Value) (xs:Bts) (h:Sl w N v xs) :
  Calls Tryz.prog 206 #[v,.int .u8 10] w fun e w'=>e=.returned (.int .i64 (Lib.indexByte xs 10))∧w'=w:=by
 rcases h with ⟨rfl,rfl⟩ | ⟨g,o,c,rfl,-,-,-,hc⟩
 ·exact Any.bytes_IndexByte_nil Tryz.lays187 10 w
 ·have h:=Any.bytes_IndexByte_at Tryz.lays187 ⟨g,o,none⟩ xs.length c (nums xs) 10 w (nums_length xs) fun i hi=>by
   rw [show ((⟨g,o,none⟩:Addr).add i)=⟨g,o+i,none⟩ by simp only [Addr.add];split <;> simp_all,nums_getD xs i hi]
   exact hc i hi
  rw [bytesOf_nums] at h
  exact h
theorem idx_cases (xs:Bts):(Lib.indexByte xs 10=-1∧∀ c ∈ xs,c≠10)∨∃ i:Nat,i < xs.length∧Lib.indexByte xs 10=i∧xs=xs.take i ++ 10 :: xs.drop (i+1)∧∀ c ∈ xs.take i,c≠10:=by
 induction xs with
 | nil=>exact .inl ⟨rfl,by simp⟩
 | cons b l ih=>
  by_cases hb:b=10
  ·subst hb
   exact .inr ⟨0,by simp,by simp [Lib.indexByte],by simp,by simp⟩
  ·have hb':(b == 10)=false:=by simpa using hb
   rcases ih with ⟨h1,h2⟩ | ⟨i,h0,h1,h2,h3⟩
   ·refine .inl ⟨by simp [Lib.indexByte,hb',h1], ?_⟩
    intro c hc
    rcases List.mem_cons.1 hc with rfl | hc
    ·exact hb
    ·exact h2 c hc
   ·refine .inr ⟨i+1,by simp;omega, ?_, ?_, ?_⟩
    ·have:¬ ((i:Int)=-1):=by omega
     simp [Lib.indexByte,hb',h1,this]
    ·simpa using h2
    ·intro c hc
     rw [List.take_succ_cons] at hc
     rcases List.mem_cons.1 hc with rfl | hc
     ·exact hb
     ·exact h3 c hc
def BufIs (w:World) (rd g:Nat):Prop:=w.heap.size≤g∨∃ a n c,w.cell? ⟨rd,2,none⟩=some (.slice (some a) n c)∧a.block=g
structure LnSt (w wr:World) (F:Fx) (M:Nat→Prop) (rd lb rb:Nat) (lv:Value) (L buf:Bts) (o:Nat) (feed over:Bool) (inp out err:Bts):Prop where
 r:Rdr wr F M rd buf o feed over inp out err
 lb_:Blk wr lb #[lv] 22
 rb_:Blk wr rb #[.pointer (some ⟨rd,0,none⟩)] 210
 row:wr.ownsRow w.heap.size 5 1 lv L.length (L.map u8V)
 rowN:∀ j,lv.ownBlock=some j→j≠lb∧j≠rb
 buf_:∀ v,wr.cell? ⟨rd,2,none⟩=some v→∀ a n c,v=.slice (some a) n c→lv.ownBlock≠some a.block∧a.block≠lb∧a.block≠rb∧BufIs w rd a.block
 mv:Kept (fun j=>M j∨j=rd) w wr
 base:w.heap.size≤lb∧w.heap.size≤rb∧lb≠rb∧rd < w.heap.size
 new:∀ j,M j→j < w.heap.size
theorem LnSt.sl {w wr:World} {F:Fx} {M:Nat→Prop} {rd lb rb:Nat} {lv:Value} {L buf:Bts} {o:Nat} {feed over:Bool} {inp out err:Bts} (h:LnSt w wr F M rd lb rb lv L buf o feed over inp out err):∃ v,RdBlk wr F.p rd v o feed over∧Sl wr (fun g=>(F.n0≤g∧¬ M g∧g≠rd)∧lv.ownBlock≠some g∧g≠lb∧g≠rb∧BufIs w rd g) v buf:=by
 obtain ⟨v,hb,hs⟩:=h.r.blk
 refine ⟨v,hb, ?_⟩
 rcases hs with h1 | ⟨g,o,c,h1,h2,h3,h4,h5⟩
 ·exact .inl h1
 ·exact .inr ⟨g,o,c,h1,h2,h3,⟨h4,h.buf_ v (hb.cell 2 rfl) _ _ _ h1⟩,h5⟩
theorem LnSt.turn {w wr W':World} {F:Fx} {M:Nat→Prop} {rd lb rb:Nat} {lv:Value} {L buf buf':Bts} {o o':Nat} {feed over feed' over':Bool} {inp out err:Bts} (h:LnSt w wr F M rd lb rb lv L buf o feed over inp out err)
  (hk:Kept (fun j=>j=rd) wr W') {v':Value} (hb:RdBlk W' F.p rd v' o' feed' over') (hs:Sl wr (fun g=>(F.n0≤g∧¬ M g∧g≠rd)∧lv.ownBlock≠some g∧g≠lb∧g≠rb∧BufIs w rd g) v' buf') (ho:over'=true→inp=[]):LnSt w W' F M rd lb rb lv L buf' o' feed' over' inp out err:=by
 have hlb:lb≠rd:=by have:=h.base;omega
 have hrb:rb≠rd:=by have:=h.base;omega
 refine ⟨⟨h.r.toRdrW.turn hk hb (hs.mono fun g _ hN=>hN.1),ho⟩,h.lb_.kept hk hlb,h.rb_.kept hk hrb,own_kept h.row hk fun j hj e=>?_,h.rowN, ?_,h.mv.trans (hk.mono fun _ _ h=>.inr h),h.base,h.new⟩
 ·have:=(h.row.lt j hj).1
  have:=h.base
  omega
 ·intro v hv a n c e
  have hv':some v=some v':=hv.symm.trans (hb.cell 2 rfl)
  obtain rfl:=Option.some.inj hv'
  rcases hs with ⟨-,h1⟩ | ⟨g,o,c',h1,h2,h3,h4,h5⟩
  ·rw [h1] at e;cases e
  ·rw [h1] at e
   injection e with e
   injection e with e
   subst e
   exact h4.2
theorem LnSt.pass {w wr W':World} {F:Fx} {M:Nat→Prop} {rd lb rb:Nat} {lv:Value} {L buf:Bts} {o:Nat} {feed over:Bool} {inp out err:Bts} (h:LnSt w wr F M rd lb rb lv L buf o feed over inp out err)
  (hp:PrAt W' F M inp out err) (hk:Kept M wr W'):LnSt w W' F M rd lb rb lv L buf o feed over inp out err:=by
 have hN:∀ j,w.heap.size≤j→¬ M j:=fun j hj e=>by have:=h.new j e;omega
 refine ⟨⟨h.r.toRdrW.pass hp ⟨hk,fun _ h=>.inl h⟩,h.r.over_⟩,h.lb_.kept hk (hN _ h.base.1),h.rb_.kept hk (hN _ h.base.2.1),own_kept h.row hk fun j hj=>hN _ (h.row.lt j hj).1,h.rowN, ?_,h.mv.trans (hk.mono fun _ _ h=>.inl h),h.base,h.new⟩
 intro v hv
 obtain ⟨v0,hb,-⟩:=h.r.blk
 exact h.buf_ v ((World.cell?_of_block (hk.block rd hb.lt h.r.own)).symm.trans hv)
theorem LnSt.below {w wr W':World} {F:Fx} {M:Nat→Prop} {rd lb rb:Nat} {lv:Value} {L buf:Bts} {o:Nat} {feed over:Bool} {inp out err:Bts} (h:LnSt w wr F M rd lb rb lv L buf o feed over inp out err) (hb:Below wr.heap.size wr W'):LnSt w W' F M rd lb rb lv L buf o feed over inp out err:=
 h.pass (h.r.pr.below hb) (Kept.of_below hb)
theorem LnSt.grow {w wr w1:World} {F:Fx} {M:Nat→Prop} {rd lb rb:Nat} {lv lv':Value} {L buf xs:Bts} {o:Nat} {feed over:Bool} {inp out err:Bts} (h:LnSt w wr F M rd lb rb lv L buf o feed over inp out err)
  (hown:w1.ownsRow w.heap.size 5 1 lv' (L.length+xs.length) (L.map u8V ++ xs.map u8V)) (hg:wr.grownBy w1 lv.ownBlock) (ho:lv'.ownBlock=lv.ownBlock∨lv'.ownBlock=some wr.heap.size) :
  LnSt w (w1.setCell ⟨lb,0,none⟩ lv') F M rd lb rb lv' (L ++ xs) buf o feed over inp out err:=by
 obtain ⟨v0,hb0,hs0⟩:=h.sl
 have hlv:∀ j,lv.ownBlock=some j→w.heap.size≤j∧j < wr.heap.size:=fun j hj=>h.row.lt j hj
 have hk1:Kept (fun j=>lv.ownBlock=some j) wr w1:=⟨hg.os,hg.tape,hg.output,hg.size,fun j hj hs=>hg.block j hj fun e=>hs e.symm⟩
 have hk:Kept (fun j=>lv.ownBlock=some j∨j=lb) wr (w1.setCell ⟨lb,0,none⟩ lv'):=(hk1.mono fun _ _ h=>.inl h).setCell (.inl (.inr rfl)) 0 _
 have hnew:∀ j,w.heap.size≤j→¬ M j∧F.n0≤j:=fun j hj=>⟨fun e=>by have:=h.new j e;omega,by have:=h.r.n0;have:=h.base;omega⟩
 have hS:∀ j,(lv.ownBlock=some j∨j=lb)→w.heap.size≤j:=fun j hj=>by
  rcases hj with hj | rfl
  ·exact (hlv j hj).1
  ·exact h.base.1
 have hlb1:Blk w1 lb #[lv] 22:=h.lb_.kept hk1 fun e=>(h.rowN _ e).1 rfl
 have hrdlt:=hb0.lt
 have hlt:=h.lb_.lt
 have hrt:=h.rb_.lt
 refine ⟨⟨h.r.toRdrW.kept hk (fun j hj=>⟨(hnew j (hS j hj)).2,(hnew j (hS j hj)).1,by have:=hS j hj;have:=h.base;omega⟩) fun v hv j hj a n c e=>?_,h.r.over_⟩,hlb1.set 0 _,h.rb_.kept hk fun e=>?_, ?_,fun j hj=>?_,fun v hv a n c e=>?_,h.mv.trans' hk fun k hk' e=>by have:=hS k e;omega,h.base,h.new⟩
 ·have:=h.buf_ v hv a n c e
  rcases hj with hj | rfl
  ·exact fun e2=>this.1 (e2 ▸ hj)
  ·exact this.2.1
 ·rcases e with e | e
  ·exact (h.rowN _ e).2 rfl
  ·exact h.base.2.2.1 e.symm
 ·rw [List.length_append,List.map_append]
  refine own_kept hown ((Kept.refl (fun j=>j=lb) _).setCell (.inl rfl) 0 _) fun j hj e=>?_
  subst e
  rcases ho with ho | ho
  ·exact (h.rowN _ (ho ▸ hj)).1 rfl
  ·rw [ho] at hj;have:=Option.some.inj hj;omega
 ·rcases ho with ho | ho
  ·exact h.rowN j (ho ▸ hj)
  ·rw [ho] at hj;have:=Option.some.inj hj;exact ⟨by omega,by omega⟩
 ·have hv0:wr.cell? ⟨rd,2,none⟩=some v:=by
   rw [← hv]
   exact (World.cell?_of_block (hk.block rd hrdlt fun e=>by have:=hS rd e;have:=h.base;omega)).symm
  have h0:=h.buf_ v hv0 a n c e
  refine ⟨fun e2=>?_,h0.2⟩
  rcases ho with ho | ho
  ·exact h0.1 (ho ▸ e2)
  ·rw [ho] at e2
   have e3:=Option.some.inj e2
   have e4:some v0=some v:=(hb0.cell 2 rfl).symm.trans hv0
   obtain rfl:=Option.some.inj e4
   rcases hs0 with ⟨-,h1⟩ | ⟨g,o,c',h1,h2,h3,-⟩
   ·rw [h1] at e;cases e
   ·rw [h1] at e
    injection e with e
    injection e with e
    subst e
    simp at e3
    omega
theorem LnSt.grow2 {w wr w1:World} {F:Fx} {M:Nat→Prop} {rd lb rb:Nat} {lv lv':Value} {L buf xs:Bts} {o m:Nat} {feed over:Bool} {inp out err:Bts} (h:LnSt w wr F M rd lb rb lv L buf o feed over inp out err) (hm:xs.length=m)
  (hown:w1.ownsRow w.heap.size 5 1 lv' (L.length+m) (L.map u8V ++ xs.map u8V)) (hg:wr.grownBy w1 lv.ownBlock) (ho:lv'.ownBlock=lv.ownBlock∨lv'.ownBlock=some wr.heap.size) :
  LnSt w (w1.setCell ⟨lb,0,none⟩ lv') F M rd lb rb lv' (L ++ xs) buf o feed over inp out err:=by
 subst hm
 exact h.grow hown hg ho
def lenAt (W:World) (b o:Nat):Nat:=match W.cell? ⟨b,o,none⟩ with
 | some (.slice _ n _)=>n
 | _=>0
theorem lenAt_of {W:World} {b o:Nat} {p:Option Addr} {n c:Nat} (h:W.cell? ⟨b,o,none⟩=some (.slice p n c)):lenAt W b o=n:=by unfold lenAt;rw [h]
theorem RdrW.lens {W:World} {F:Fx} {M:Nat→Prop} {rd o:Nat} {buf inp out err:Bts} {feed over:Bool} (h:RdrW W F M rd buf o feed over inp out err):lenAt W F.s0 0=inp.length∧lenAt W rd 2=buf.length:=by
 obtain ⟨v,hb,hs⟩:=h.pr.src
 obtain ⟨p,c,rfl,-⟩:=hs.bs
 obtain ⟨v2,hb2,hs2⟩:=h.blk
 obtain ⟨p2,c2,rfl,-⟩:=hs2.bs
 exact ⟨lenAt_of (hb.cell 0 rfl),lenAt_of (hb2.cell 2 rfl)⟩
theorem LnSt.filled {w wr W':World} {F:Fx} {M:Nat→Prop} {rd lb rb:Nat} {lv:Value} {L buf buf':Bts} {o:Nat} {feed over over':Bool} {inp inp' out err:Bts} (h:LnSt w wr F M rd lb rb lv L buf o feed over inp out err)
  (hr:Rdr W' F M rd buf' o feed over' inp' out err) (hc:(W'.cell? ⟨rd,2,none⟩=wr.cell? ⟨rd,2,none⟩∧wr.cell? ⟨rd,2,none⟩=some (.slice none 0 0))∨∃ v,W'.cell? ⟨rd,2,none⟩=some v∧Sl W' (fun g=>wr.heap.size≤g) v buf') (hm:MvR M M rd wr W'):LnSt w W' F M rd lb rb lv L buf' o feed over' inp' out err:=by
 have hN:∀ j,w.heap.size≤j→¬ (M j∨j=rd):=fun j hj e=>by
  have hb:=h.base
  rcases e with e | e
  ·have:=h.new j e;omega
  ·omega
 refine ⟨hr,h.lb_.kept hm.1 (hN _ h.base.1),h.rb_.kept hm.1 (hN _ h.base.2.1),own_kept h.row hm.1 fun j hj=>hN _ (h.row.lt j hj).1,h.rowN, ?_,h.mv.trans hm.1,h.base,h.new⟩
 intro v hv a n c e
 rcases hc with ⟨hc,hc2⟩ | ⟨v2,hc,hs⟩
 ·rw [hv,hc2] at hc
  obtain rfl:=Option.some.inj hc
  cases e
 ·rw [hv] at hc
  obtain rfl:=Option.some.inj hc
  have hlb:=h.lb_.lt
  have hrb:=h.rb_.lt
  rcases hs with ⟨-,h1⟩ | ⟨g,o,c',h1,h2,h3,h4,h5⟩
  ·rw [h1] at e;cases e
  ·rw [h1] at e
   injection e with e
   injection e with e
   subst e
   have h4':wr.heap.size≤g:=h4
   exact ⟨fun e=>by have:=(h.row.lt g e).2;omega,by show g≠lb;omega,by show g≠rb;omega,.inl (Nat.le_trans h.mv.size h4')⟩
theorem Bs.take {w:World} {p:Option Addr} {xs:Bts} (h:Bs w p xs) (n:Nat):Bs w p (xs.take n):=by
 intro hl
 have hl':0 < xs.length:=by simp at hl;omega
 obtain ⟨b,o,hp,hc⟩:=h hl'
 refine ⟨b,o,hp,fun i hi=>?_⟩
 simp at hi
 rw [getD_take _ _ _ (by omega)]
 exact hc i (by omega)
end Go.Proofs.YtefpcacnblaokaaGreatDoor

/-
  append of bytes in a region that draws its order. Condition: the bytes are known, in memory.
-/
set_option maxRecDepth 100000
namespace Go.Proofs.YtefpcacnblaokaaGreatDoor
open Go.RowKit Go.Shelf Go.Maps
theorem wp_append_bytes {o:Oper} {a:Act} {w:World} {K:Act→World→Prop} {Q:Exit→Act→World→Prop} (s x:Operand)
  (ho:o.op=.call { callee:=.builtin .append,args:=#[s,x],argTypes:=#[22,22] }) (base:Nat) (v:Value) (n:Nat) (xs:List Value) (hs:a.eval s=v) (hown:w.ownsRow base 5 1 v n xs)
  (xp:Option Addr) (xb:Bts) (c:Nat) (hx:a.eval x=.slice xp xb.length c) (hbs:Bs w xp xb) (h63:n+xb.length≤4294967296) (hbase:base≤w.heap.size)
  (h:∀ p c' w',w'.ownsRow base 5 1 (.slice p (n+xb.length) c') (n+xb.length) (xs ++ xb.map u8V)→w.grownBy w' v.ownBlock→((Value.slice p (n+xb.length) c').ownBlock=v.ownBlock∨(Value.slice p (n+xb.length) c').ownBlock=some w.heap.size)→K (a.put o.dst (.slice p (n+xb.length) c')) w'):Oper.wp Tryz.prog o a w K Q:=by
 obtain ⟨i0,hi,hz0,hz1,hz2⟩:=info_parts info_byte
 have shape:∀ {w':World} {v':Value} {ys:List Value},w'.ownsRow base 5 1 v' (n+xb.length) ys→∃ p c',v'=.slice p (n+xb.length) c':=fun hh=>by
  rcases hh.2 with ⟨h1,h2⟩ | ⟨g,cap,cur,e,-⟩
  ·exact ⟨none,0,by rw [h2];exact h1⟩
  ·exact ⟨_,_,e⟩
 have own (ad:Addr) (hxp:xp=some ad) (hc:∀ j u,(xb.map u8V)[j]?=some u→w.cell? (ad.add j)=some u):Oper.wp Tryz.prog o a w K Q:=by
  subst hxp
  obtain ⟨v',w',hr,h1,h2,-,h4⟩:=run_append_own_at (P:=Tryz.prog) w base 22 o.type 5 i0 (.int .u8 0) 1 1 Tryz.underlying22 hi hz0 hz1 hz2 rfl (by decide) v n xs hown ad xb.length c (xb.map u8V) (by simp) hc (by simp [u8V,Value.oneCell']) (by unfold maxLen;omega) (by omega) hbase
  obtain ⟨p,c',rfl⟩:=shape h1
  unfold Oper.wp execOp
  simp only [ho,resolve,invoke,builtin,Sem.run_bind,Sem.run_pure,Result.andThen_ok,List.map_toArray,List.map_cons,List.map_nil,hs,hx,hr]
  exact h p c' w' h1 h2 h4
 cases xb with
 | nil=>
  cases xp with
  | some ad=>exact own ad rfl fun j u hu=>by simp at hu
  | none=>
   have hsrc:Src Tryz.prog i0.size 22 (.slice none 0 c) 0 [] w:=Src.ofNil w Tryz.underlying22 c
   have hle:∃ bb sl sc,v=.slice bb sl sc∧sl≤sc∧sl=n:=by
    rcases hown.2 with ⟨h1,h2⟩ | ⟨g,cap,cur,e,-,-,hc,-⟩
    ·exact ⟨_,_,_,h1,Nat.le_refl _,h2.symm⟩
    ·exact ⟨_,_,_,e,hc,rfl⟩
   obtain ⟨bb,sl,sc,rfl,hle,rfl⟩:=hle
   have hr:=run_append_nothing (P:=Tryz.prog) w 22 22 o.type 5 i0 Tryz.underlying22 hi bb sl sc hle (.slice none 0 c) hsrc
   unfold Oper.wp execOp
   have hx':a.eval x=.slice none 0 c:=hx
   simp only [ho,resolve,invoke,builtin,Sem.run_bind,Sem.run_pure,Result.andThen_ok,List.map_toArray,List.map_cons,List.map_nil,hs,hx',hr]
   exact h bb sc _ (by simpa using hown) ⟨rfl,rfl,rfl,Nat.le_refl _,fun _ _ _=>rfl⟩ (.inl rfl)
 | cons z r=>
  obtain ⟨bb,bo,hp,hc⟩:=hbs (by simp)
  refine own _ hp fun j u hu=>?_
  rw [List.getElem?_map] at hu
  have hj:j < (z :: r).length:=by
   rcases Nat.lt_or_ge j (z :: r).length with h1 | h1
   ·exact h1
   ·rw [List.getElem?_eq_none h1] at hu;cases hu
  rw [List.getElem?_eq_getElem hj] at hu
  simp only [Option.map_some,Option.some.injEq] at hu
  have:=hc j hj
  rw [show ((⟨bb,bo,none⟩:Addr).add j)=⟨bb,bo+j,none⟩ by simp only [Addr.add];split <;> simp_all,this,← hu]
  simp [u8V,List.getD_eq_getElem?_getD,List.getElem?_eq_getElem hj]
theorem step_append_bytes {ops:Array Oper} {o:Oper} {a:Act} {w:World} {K:Act→World→Prop} {Q:Exit→Act→World→Prop} {E:Prop} (hgd:o.guard=none) (s x:Operand)
  (ho:o.op=.call { callee:=.builtin .append,args:=#[s,x],argTypes:=#[22,22] }) (base:Nat) (v:Value) (n:Nat) (xs:List Value) (hs:a.eval s=v) (hown:w.ownsRow base 5 1 v n xs)
  (xp:Option Addr) (xb:Bts) (c:Nat) (hx:a.eval x=.slice xp xb.length c) (hbs:Bs w xp xb) (h63:n+xb.length≤4294967296) (hbase:base≤w.heap.size)
  (h:∀ p c' w',w'.ownsRow base 5 1 (.slice p (n+xb.length) c') (n+xb.length) (xs ++ xb.map u8V)→w.grownBy w' v.ownBlock→((Value.slice p (n+xb.length) c').ownBlock=v.ownBlock∨(Value.slice p (n+xb.length) c').ownBlock=some w.heap.size)→K (a.put o.dst (.slice p (n+xb.length) c')) w') :
  if Region.wanted o (yielded ops a.tmps)=true then Oper.wp Tryz.prog o a w K Q else E:=by
 have hw:Region.wanted o (yielded ops a.tmps)=true:=by simp [Region.wanted,hgd]
 rw [if_pos hw]
 exact wp_append_bytes s x ho base v n xs hs hown xp xb c hx hbs h63 hbase h
end Go.Proofs.YtefpcacnblaokaaGreatDoor
