/-
  Texts of this seat put together: K13, K14, K15, K16.
-/
import Derived.Test.YtefpcacnblaokaaGreatDoorQ4
import Derived.Shelf.Slices.Clone

/-
  The walks of Read's closure and of Proc.Read, from descriptor 0. Condition: a process that runs.
-/
set_option maxRecDepth 100000
set_option maxHeartbeats 4000000
namespace Go.Proofs.YtefpcacnblaokaaGreatDoor
open Go.RowKit Go.Shelf Go.Maps
theorem PrAt.read {W W':World} {F:Fx} {M:Nat→Prop} {inp inp' out err:Bts} (h:PrAt W F M inp out err) (hk:Kept (fun j=>j=F.s0) W W') (hs:SrcAt W' (fun g=>g < F.n0∧¬ M g) F.s0 inp') (hl:inp'.length≤inp.length):PrAt W' F M inp' out err:=by
 obtain ⟨hf,-,⟨v1,v2,b1,b2,o1,o2,d1,d2⟩,⟨hd,pk,st,hp⟩,mp,m0,m1,m2,di,lt,n0,li,bg⟩:=h
 refine ⟨hf.kept hk fun j _ hj e=>hj (e ▸ m0),hs,⟨v1,v2,b1.kept hk fun e=>di.2.2.2.1 e.symm,b2.kept hk fun e=>di.2.2.2.2.1 e.symm,own_kept o1 hk fun j hj=>(d1 j hj).2.2.1,own_kept o2 hk fun j hj=>(d2 j hj).2.2.1,d1,d2⟩,⟨hd,pk,st,Blk.kept hp hk di.1⟩,mp,m0,m1,m2,di,fun j hj=>Nat.lt_of_lt_of_le (lt j hj) hk.size,Nat.le_trans n0 hk.size,li,by omega⟩
theorem PrAt.turn {W W':World} {F:Fx} {M:Nat→Prop} {inp out err:Bts} (h:PrAt W F M inp out err) (hk:Kept (fun j=>j=F.p) W W') {hd pk st:Int} (hp:ProcAt W' F.p F.k F.tb F.av F.buf F.line F.run hd pk true true st F.al):PrAt W' F M inp out err:=by
 obtain ⟨hf,⟨v,hb,hsl⟩,⟨v1,v2,b1,b2,o1,o2,d1,d2⟩,-,mp,m0,m1,m2,di,lt,n0,li,bg⟩:=h
 exact ⟨hf.kept hk fun j _ hj e=>hj (e ▸ mp),⟨v,hb.kept hk fun e=>di.1 e.symm,hsl.kept hk fun g _ hN e=>hN.2 (e ▸ mp)⟩,⟨v1,v2,b1.kept hk fun e=>di.2.1 e.symm,b2.kept hk fun e=>di.2.2.1 e.symm,own_kept o1 hk fun j hj=>(d1 j hj).2.1,own_kept o2 hk fun j hj=>(d2 j hj).2.1,d1,d2⟩,⟨hd,pk,st,hp⟩,mp,m0,m1,m2,di,fun j hj=>Nat.lt_of_lt_of_le (lt j hj) hk.size,Nat.le_trans n0 hk.size,li,bg⟩
theorem read1_any (F:Fx) (M:Nat→Prop) (inp out err:Bts) (w:World) (h:PrAt w F M inp out err) (most:Nat) (hm:1≤most) (hm2:most < 9223372036854775808) (q0 q1 q2:Nat) (h0:w.cell? ⟨q0,0,none⟩=some (.pointer (some ⟨F.p,0,none⟩))) (h1:w.cell? ⟨q1,0,none⟩=some (.int .i64 0)) (h2:w.cell? ⟨q2,0,none⟩=some (.int .i64 most))
  (n0:¬ M q0) (n1:¬ M q1) (n2:¬ M q2) :
  Calls Tryz.prog 295 #[.pointer (some ⟨q0,0,none⟩),.pointer (some ⟨q1,0,none⟩),.pointer (some ⟨q2,0,none⟩)] w fun e w'=>∃ q l c,e=.returned (.agg (replyC 0 q l c 0))∧Sl w' (fun g=>w.heap.size≤g) (.slice q l c) (inp.take most)∧PrAt w' F M (inp.drop most) out err∧Kept M w w':=by
 obtain ⟨w1,hw1⟩:∃ w1,(w.alloc (.cells (replyC 0 none 0 0 0) 365))=w1:=⟨_,rfl⟩
 have hb1:Below w.heap.size w w1:=by rw [← hw1];exact (Below.refl _ _).alloc (Nat.le_refl _) _
 have hr1:Blk w1 w.heap.size (replyC 0 none 0 0 0) 365:=by rw [← hw1];exact Blk.new _ _ _
 have hp1:=h.below hb1
 obtain ⟨hd,pk,st,hpp⟩:=hp1.proc
 have a0:=(hb1.cell (p:=⟨q0,0,none⟩) (World.block_lt_of_cell? _ _ h0)).trans h0
 have a1:=(hb1.cell (p:=⟨q1,0,none⟩) (World.block_lt_of_cell? _ _ h1)).trans h1
 have a2:=(hb1.cell (p:=⟨q2,0,none⟩) (World.block_lt_of_cell? _ _ h2)).trans h2
 have a3:=hpp.cell 1 (v:=.pointer (some ⟨F.tb,0,none⟩)) rfl
 have hl:w.heap.size < w1.heap.size:=hr1.lt
 have ht:=tabRead_any F.tb 0 F.k F.t 3 F.m (by decide) F.s0 (fun g=>g < F.n0∧¬ M g) inp most hm hm2 w1.drew (Blk.drew hp1.fix.kern) (hp1.fix.tab.cell 0 rfl) (hp1.fix.tab.cell 1 rfl) (by
  obtain ⟨v,hv,hs⟩:=hp1.src
  exact ⟨v,hv.drew,hs.below (below_drew2 _)⟩) (fun hh=>hh.2 hp1.m0) hp1.big
 have m0:=World.new_ne w ⟨q0,0,none⟩ h0
 have m1:=World.new_ne w ⟨q1,0,none⟩ h1
 have m2:=World.new_ne w ⟨q2,0,none⟩ h2
 have m3:w.heap.size≠F.p:=fun e=>by have:=h.lt F.p h.mp;omega
 have H:=Lib.hid h
 have HB:=Lib.hid hb1
 have HR:=Lib.hid hr1
 have HP:=Lib.hid hp1
 have HT:=Lib.hid ht
 clear h hb1 hr1 hp1 hpp h0 h1 h2 ht
 unfold replyC at hw1
 go_enter Tryz.func295,Tryz.ntmps295
 go_wp2_with fail
 try rw [hw1]
 clear hw1
 have hne:∀ q,¬ M q→q≠F.s0:=fun q hq e=>hq (e ▸ HP.out.m0)
 have hps:F.p≠F.s0:=HP.out.dist.1
 have hrs:w.heap.size≠F.s0:=fun e=>by have:=H.out.lt F.s0 H.out.m0;omega
 go_region_held3 (fun w'=>w'.cell? ⟨q0,0,none⟩=some (.pointer (some ⟨F.p,0,none⟩))∧w'.cell? ⟨q1,0,none⟩=some (.int .i64 0)∧w'.cell? ⟨q2,0,none⟩=some (.int .i64 most)∧w'.cell? ⟨F.p,1,none⟩=some (.pointer (some ⟨F.tb,0,none⟩))) (first | go_keep | exact HS.out)
  ((go_at_call 296;refine HT.out.mono ?_;rintro e w4 ⟨v,rfl,hs4,hsrc4,hk4⟩;obtain ⟨q,c,rfl,-⟩:=hs4.bs;have hK1:=(Kept.of_below (S:=fun j=>j=F.s0) (below_drew2 w1)).trans hk4;have HS:=Lib.hid (show w4.cell? ⟨q0,0,none⟩=some (.pointer (some ⟨F.p,0,none⟩))∧w4.cell? ⟨q1,0,none⟩=some (.int .i64 0)∧w4.cell? ⟨q2,0,none⟩=some (.int .i64 most)∧w4.cell? ⟨F.p,1,none⟩=some (.pointer (some ⟨F.tb,0,none⟩)) from ⟨(World.cell?_of_block (hK1.block q0 (World.block_lt_of_cell? _ _ a0) (hne q0 n0))).trans a0,(World.cell?_of_block (hK1.block q1 (World.block_lt_of_cell? _ _ a1) (hne q1 n1))).trans a1,(World.cell?_of_block (hK1.block q2 (World.block_lt_of_cell? _ _ a2) (hne q2 n2))).trans a2,(World.cell?_of_block (hK1.block F.p (World.block_lt_of_cell? _ _ a3) hps)).trans a3⟩);have hr4:=HR.out.kept hK1 hrs;have e2:=hr4.cell 2 (v:=.slice none 0 0) rfl;have f2:=hr4.free 2;have e10:=hr4.cell 10 (v:=.int .i64 0) rfl;have f10:=hr4.free 10;have HR4:=Lib.hid hr4;have HK1:=Lib.hid hK1;have HS4:=Lib.hid hs4;have HSRC:=Lib.hid hsrc4;clear hr4 hK1 hs4 hsrc4 hk4))
 have hr5:Blk ((w4.setCell ⟨w.heap.size,2,none⟩ (.slice q (min most inp.length) c)).setCell ⟨w.heap.size,10,none⟩ (.int .i64 0)) w.heap.size (replyC 0 q (min most inp.length) c 0) 365:=(HR4.out.set 2 _).set 10 _
 have hown:Kept (fun j=>j=w.heap.size) w4 ((w4.setCell ⟨w.heap.size,2,none⟩ (.slice q (min most inp.length) c)).setCell ⟨w.heap.size,10,none⟩ (.int .i64 0)):=((Kept.refl (fun j=>j=w.heap.size) _).setCell (.inl rfl) 2 _).setCell (.inl rfl) 10 _
 obtain ⟨⟨r0,r1,r2,r3,r4,r5,r6,r7,r8,r9,r10⟩,-⟩:=reply_cells hr5
 have hlen:(inp.take most).length=min most inp.length:=by simp
 have HLEN:=Lib.hid hlen
 have HOWN:=Lib.hid hown
 clear hr5 hown hlen
 generalize ((w4.setCell ⟨w.heap.size,2,none⟩ (.slice q (min most inp.length) c)).setCell ⟨w.heap.size,10,none⟩ (.int .i64 0))=w5 at *
 go_wp2_with fail
 have hp4:=HP.out.read HK1.out HSRC.out (by simp)
 have hM:¬ M w.heap.size:=fun e=>by have:=H.out.lt _ e;omega
 refine bodyPost_ret (v:=.agg (replyC 0 q (min most inp.length) c 0)) ?_ rfl ⟨q,_,c,rfl, ?_,hp4.kept HOWN.out fun j hj=>by subst hj;exact ⟨H.out.n0,hM⟩, ?_⟩
 ·unfold replyC
  simp [results,Tryz.results295,go_sem,r0,r1,r2,r3,r4,r5,r6,r7,r8,r9,r10]
 ·have h4:=HS4.out
  rw [HLEN.out] at h4
  refine (h4.kept HOWN.out fun g hg hN e=>?_).mono fun g hg hN=>?_
  ·have:w1.heap.size≤g:=hN
   omega
  ·have:w1.heap.size≤g:=hN
   exact (by omega:w.heap.size≤g)
 ·have h1:Kept M w w4:=(Kept.of_below HB.out).trans (HK1.out.mono fun k _ e=>e ▸ H.out.m0)
  exact h1.trans' HOWN.out fun k hk e=>by omega
theorem read_any (F:Fx) (M:Nat→Prop) (inp out err:Bts) (w:World) (h:PrAt w F M inp out err) (most:Nat) (hm:1≤most) (hm2:most < 9223372036854775808) :
  Calls Tryz.prog 257 #[.pointer (some ⟨F.p,0,none⟩),.int .i64 0,.int .i64 most] w fun e w'=>∃ v,e=.returned (.tuple #[v,.int .i64 0])∧Sl w' (fun g=>w.heap.size≤g) v (inp.take most)∧PrAt w' F M (inp.drop most) out err∧Kept M w w':=by
 have hent:∀ (args:Array Value) (w:World),(callFunc 295 args).run Tryz.prog w=.ok (.enter 295 args) w:=enters_of Tryz.func295 (by kernel_rfl) rfl
 obtain ⟨w1,hw1⟩:∃ w1,((w.alloc (.cells #[.pointer (some ⟨F.p,0,none⟩)] 101)).alloc (.cells #[.int .i64 0] 3)).alloc (.cells #[.int .i64 most] 3)=w1:=⟨_,rfl⟩
 have hb1:Below w.heap.size w w1:=by rw [← hw1];exact (((Below.refl _ _).alloc (Nat.le_refl _) _).alloc (by simp) _).alloc (by simp;omega) _
 have hs1:w1.heap.size=w.heap.size+1+1+1:=by rw [← hw1];simp
 have k0:Blk w1 w.heap.size #[.pointer (some ⟨F.p,0,none⟩)] 101:=by rw [← hw1];exact ((Blk.new _ _ _).alloc _).alloc _
 have k1:Blk w1 (w.heap.size+1) #[.int .i64 0] 3:=by
  rw [← hw1]
  have:=Blk.new (w.alloc (.cells #[.pointer (some ⟨F.p,0,none⟩)] 101)) #[.int .i64 0] 3
  simp only [World.size_alloc] at this
  exact this.alloc _
 have k2:Blk w1 (w.heap.size+1+1) #[.int .i64 most] 3:=by
  rw [← hw1]
  have:=Blk.new ((w.alloc (.cells #[.pointer (some ⟨F.p,0,none⟩)] 101)).alloc (.cells #[.int .i64 0] 3)) #[.int .i64 most] 3
  simpa only [World.size_alloc] using this
 have hp1:=h.below hb1
 obtain ⟨hd,pk,st,hpp⟩:=hp1.proc
 have hM:∀ k,w.heap.size≤k→¬ M k:=fun k hk e=>by have:=h.lt k e;omega
 have hmf:∀ (fn:Fn) (first cap:Array Value) (w:World),(Instr.makeFunc fn first cap).run Tryz.prog w=.ok (.func fn first cap) w:=fun _ _ _ _=>rfl
 have c:=call_any 295 hent #[.pointer (some ⟨w.heap.size,0,none⟩),.pointer (some ⟨w.heap.size+1,0,none⟩),.pointer (some ⟨w.heap.size+1+1,0,none⟩)] F.p F.k F.tb F.al F.av F.buf F.line F.run hd pk st w1 hpp
  (fun _ q l c er w2=>er=0∧Sl w2 (fun g=>w1.heap.size < g) (.slice q l c) (inp.take most)∧PrAt w2 F M (inp.drop most) out err∧Kept M w w2) (by
   intro w2 s hk2 hs2 hp2
   have hpr2:=hp1.turn hk2 hp2
   have hK2:Kept M w w2:=(Kept.of_below hb1).trans (hk2.mono fun k _ e=>e ▸ h.mp)
   have hne:∀ k,w.heap.size≤k→k≠F.p:=fun k hk e=>by have:=h.lt F.p h.mp;omega
   refine (read1_any F M inp out err w2 hpr2 most hm hm2 w.heap.size (w.heap.size+1) (w.heap.size+1+1) ((k0.kept hk2 (hne _ (by omega))).cell 0 rfl) ((k1.kept hk2 (hne _ (by omega))).cell 0 rfl) ((k2.kept hk2 (hne _ (by omega))).cell 0 rfl) (hM _ (by omega)) (hM _ (by omega)) (hM _ (by omega))).mono ?_
   rintro e w3 ⟨q,l,c,rfl,hsl,hp3,hK3⟩
   obtain ⟨hd',pk',st',hpp3⟩:=hp3.proc
   refine ⟨0,q,l,c,0,hd',pk',st',rfl,by decide,hpp3,hK3.size,hK3.block _ hs2 (hM _ (by omega)),rfl,hsl.mono fun g _ hg=>Nat.lt_of_lt_of_le hs2 hg,hp3,hK2.trans hK3⟩)
 have c0:=k0.cell 0 (v:=.pointer (some ⟨F.p,0,none⟩)) rfl
 have H:=Lib.hid h
 have HM:=Lib.hid hM
 have HS1:=Lib.hid hs1
 clear h hb1 hs1 k0 k1 k2 hp1 hpp hM hent
 go_enter Tryz.func257,Tryz.ntmps257
 go_wp2_with fail
 try rw [hw1]
 refine c.mono ?_
 rintro e w5 ⟨n,q,l,c',er,w4,rfl,⟨rfl,hsl,hp4,hK4⟩,hs4,hk5⟩
 clear c c0 hw1 hmf
 have hn:=Blk.new w5 (replyC n q l c' 0) 365
 have x2:=hn.cell 2 (v:=.slice q l c') rfl
 have x10:=hn.cell 10 (v:=.int .i64 0) rfl
 have y2:=hn.drew.cell 2 (v:=.slice q l c') rfl
 have y10:=hn.drew.cell 10 (v:=.int .i64 0) rfl
 have hlw:w1.heap.size < w5.heap.size:=Nat.lt_of_lt_of_le hs4 hk5.size
 have FIN:∀ W,Below w5.heap.size w5 W→∃ v,Ending.returned (.tuple #[.slice q l c',.int .i64 0])=.returned (.tuple #[v,.int .i64 0])∧Sl W (fun g=>w.heap.size≤g) v (inp.take most)∧PrAt W F M (inp.drop most) out err∧Kept M w W:=by
  intro W hW
  have hs1:=HS1.out
  refine ⟨_,rfl,((hsl.kept hk5 fun g _ hN e=>?_).below hW).mono fun g _ hN=>?_,(hp4.kept hk5 fun j hj=>?_).below hW, ?_⟩
  ·have:w1.heap.size < g:=hN
   omega
  ·have:w1.heap.size < g:=hN
   exact (by omega:w.heap.size≤g)
  ·subst hj
   exact ⟨by have:=H.out.n0;omega,HM.out _ (by omega)⟩
  ·have h5:Kept M w w5:=hK4.trans' hk5 fun k hk e=>by omega
   exact h5.trans' (Kept.of_below (S:=fun _=>False) hW) fun _ _ h=>h.elim
 have HF:=Lib.hid FIN
 clear hn FIN hk5 hs4 hK4 hp4 hsl
 unfold replyC at *
 go_wp2_with fail
 go_region
 go_wp2_with fail
 go_ret2
 exact HF.out _ ((Below.refl _ _).alloc (Nat.le_refl _) _).drew
end Go.Proofs.YtefpcacnblaokaaGreatDoor

/-
  The walks of Write's closure and of Proc.Write, to descriptor 1. Condition: a process that runs; lengths.
-/
set_option maxRecDepth 100000
set_option maxHeartbeats 4000000
namespace Go.Proofs.YtefpcacnblaokaaGreatDoor
open Go.RowKit Go.Shelf Go.Maps
theorem PrAt.wrote1 {W W':World} {F:Fx} {M:Nat→Prop} {inp out err xs:Bts} (h:PrAt W F M inp out err) {v1 v2 v':Value} (_b1:Blk W F.s1 #[v1] 178) (b2:Blk W F.s2 #[v2] 178) (_o1:W.ownsRow 0 5 1 v1 out.length (out.map u8V)) (o2:W.ownsRow 0 5 1 v2 err.length (err.map u8V))
  (d1:∀ j,v1.ownBlock=some j→M j∧j≠F.p∧j≠F.s0∧j≠F.s1∧j≠F.s2∧v2.ownBlock≠some j) (d2:∀ j,v2.ownBlock=some j→M j∧j≠F.p∧j≠F.s0∧j≠F.s1∧j≠F.s2)
  (hk:Kept (fun j=>j=F.s1∨v1.ownBlock=some j) W W') (b':Blk W' F.s1 #[v'] 178) (o':W'.ownsRow 0 5 1 v' (out ++ xs).length ((out ++ xs).map u8V)) (hn:∀ j,v'.ownBlock=some j→v1.ownBlock=some j∨W.heap.size≤j) :
  PrAt W' F (fun j=>M j∨v'.ownBlock=some j) inp (out ++ xs) err∧Mv M (fun j=>M j∨v'.ownBlock=some j) W W':=by
 obtain ⟨hf,⟨v,hb,hsl⟩,-,⟨hd,pk,st,hp⟩,mp,m0,m1,m2,di,lt,n0,li,bg⟩:=h
 have hM:∀ j,j < W.heap.size→v'.ownBlock=some j→M j:=fun j hj h=>by
  rcases hn j h with h1 | h1
  ·exact (d1 j h1).1
  ·omega
 have hT:∀ j,¬ M j→¬ (j=F.s1∨v1.ownBlock=some j):=fun j hj h=>by
  rcases h with rfl | h
  ·exact hj m1
  ·exact hj (d1 j h).1
 have hnew:∀ j,v'.ownBlock=some j→j≠F.p∧j≠F.s0∧j≠F.s1∧j≠F.s2:=fun j hj=>by
  rcases hn j hj with h1 | h1
  ·have:=d1 j h1;exact ⟨this.2.1,this.2.2.1,this.2.2.2.1,this.2.2.2.2.1⟩
  ·have:=lt _ mp;have:=lt _ m0;have:=lt _ m1;have:=lt _ m2
   exact ⟨by omega,by omega,by omega,by omega⟩
 refine ⟨⟨(hf.kept hk fun j _ hj=>hT j hj).more fun j hj h=>h.elim id fun h=>hM j (by omega) h,⟨v,hb.kept hk fun h=>?_,(hsl.kept hk fun g _ hN=>hT g hN.2).mono fun g _ hN=>⟨hN.1,fun h=>hN.2 (h.elim id fun h=>hM g (by omega) h)⟩⟩,⟨v',v2,b',b2.kept hk fun h=>?_,o',own_kept o2 hk fun j hj h=>?_,fun j hj=>⟨.inr hj,(hnew j hj).1,(hnew j hj).2.1,(hnew j hj).2.2.1,(hnew j hj).2.2.2,fun h=>?_⟩,fun j hj=>⟨.inl (d2 j hj).1,(d2 j hj).2⟩⟩,⟨hd,pk,st,Blk.kept hp hk fun h=>?_⟩,.inl mp,.inl m0,.inl m1,.inl m2,di,fun j hj=>?_,Nat.le_trans n0 hk.size,li,bg⟩,hk.mono fun j _ h=>?_,fun j hj=>?_⟩
 ·rcases h with h | h
  ·exact di.2.2.2.1 h
  ·exact (d1 _ h).2.2.1 rfl
 ·rcases h with h | h
  ·exact di.2.2.2.2.2 h.symm
  ·exact (d1 _ h).2.2.2.2.1 rfl
 ·rcases h with rfl | h
  ·exact (d2 _ hj).2.2.2.1 rfl
  ·exact (d1 j h).2.2.2.2.2 hj
 ·rcases hn j hj with h1 | h1
  ·exact (d1 j h1).2.2.2.2.2 h
  ·have:=(o2.lt j h).2;omega
 ·rcases h with h | h
  ·exact di.2.1 h
  ·exact (d1 _ h).2.1 rfl
 ·rcases hj with h | h
  ·exact Nat.lt_of_lt_of_le (lt j h) hk.size
  ·exact (o'.lt j h).2
 ·rcases h with rfl | h
  ·exact m1
  ·exact (d1 j h).1
 ·rcases hj with h | h
  ·exact .inl h
  ·rcases hn j h with h1 | h1
   ·exact .inl (d1 j h1).1
   ·exact .inr h1
theorem write1_any1 (F:Fx) (M:Nat→Prop) (inp out err xs:Bts) (q:Option Addr) (c:Nat) (w:World) (h:PrAt w F M inp out err) (hx:Bs w q xs) (hcap:xs.length≤c) (hx0:xs≠[]) (hbig:out.length+xs.length≤4294967296) (q0 q1 q2:Nat) (h0:w.cell? ⟨q0,0,none⟩=some (.pointer (some ⟨F.p,0,none⟩))) (h1:w.cell? ⟨q1,0,none⟩=some (.int .i64 1)) (h2:w.cell? ⟨q2,0,none⟩=some (.slice q xs.length c))
  (n0:¬ M q0) (n1:¬ M q1) (n2:¬ M q2) :
  Calls Tryz.prog 252 #[.pointer (some ⟨q0,0,none⟩),.pointer (some ⟨q1,0,none⟩),.pointer (some ⟨q2,0,none⟩)] w fun e w'=>e=.returned (.agg (replyC xs.length none 0 0 0))∧∃ M',PrAt w' F M' inp (out ++ xs) err∧Mv M M' w w':=by
 obtain ⟨w1,hw1⟩:∃ w1,(w.alloc (.cells (replyC 0 none 0 0 0) 365))=w1:=⟨_,rfl⟩
 have hb1:Below w.heap.size w w1:=by rw [← hw1];exact (Below.refl _ _).alloc (Nat.le_refl _) _
 have hr1:Blk w1 w.heap.size (replyC 0 none 0 0 0) 365:=by rw [← hw1];exact Blk.new _ _ _
 have hp1:=h.below hb1
 obtain ⟨hd,pk,st,hpp⟩:=hp1.proc
 obtain ⟨v1,v2,b1,b2,o1,o2,d1,d2⟩:=hp1.snk
 have a0:=(hb1.cell (p:=⟨q0,0,none⟩) (World.block_lt_of_cell? _ _ h0)).trans h0
 have a1:=(hb1.cell (p:=⟨q1,0,none⟩) (World.block_lt_of_cell? _ _ h1)).trans h1
 have a2:=(hb1.cell (p:=⟨q2,0,none⟩) (World.block_lt_of_cell? _ _ h2)).trans h2
 have a3:=hpp.cell 1 (v:=.pointer (some ⟨F.tb,0,none⟩)) rfl
 have hl:w.heap.size < w1.heap.size:=hr1.lt
 have ht:=tabWrite_any F.tb 1 F.k F.t 3 F.m (by decide) F.s1 v1 out q xs c w1.drew (Blk.drew hp1.fix.kern) (hp1.fix.tab.cell 0 rfl) (hp1.fix.tab.cell 2 rfl) b1.drew o1 ((hx.below hb1 (Nat.le_refl _)).drew 1) hx0 (fun e=>(d1 _ e).2.2.2.1 rfl) hbig hcap (fun e=>hp1.fix.oldTb.2 (e ▸ hp1.m1)) (fun e=>hp1.fix.oldTb.2 (d1 _ e).1)
 have m0:=World.new_ne w ⟨q0,0,none⟩ h0
 have m1:=World.new_ne w ⟨q1,0,none⟩ h1
 have m2:=World.new_ne w ⟨q2,0,none⟩ h2
 have m3:w.heap.size≠F.p:=fun e=>by have:=h.lt F.p h.mp;omega
 have hnx:∀ k,¬ M k→¬ (k=F.s1∨v1.ownBlock=some k):=fun k hk hh=>by
  rcases hh with rfl | hh
  ·exact hk h.m1
  ·exact hk (d1 _ hh).1
 have hps:¬ (F.p=F.s1∨v1.ownBlock=some F.p):=fun hh=>by
  rcases hh with hh | hh
  ·exact h.dist.2.1 hh
  ·exact (d1 _ hh).2.1 rfl
 have hM:¬ M w.heap.size:=fun e=>by have:=h.lt _ e;omega
 have H:=Lib.hid h
 have HB:=Lib.hid hb1
 have HR:=Lib.hid hr1
 have HP:=Lib.hid hp1
 have HT:=Lib.hid ht
 have HNX:=Lib.hid hnx
 have HPS:=Lib.hid hps
 have HD:=Lib.hid (And.intro b1 (And.intro b2 (And.intro o1 (And.intro o2 (And.intro d1 d2)))))
 clear h hb1 hr1 hp1 hpp h0 h1 h2 ht hx hnx hps b1 b2 o1 o2 d1 d2
 unfold replyC at hw1
 go_enter Tryz.func252,Tryz.ntmps252
 go_wp2_with fail
 try rw [hw1]
 clear hw1
 go_region_held3 (fun w'=>w'.cell? ⟨q0,0,none⟩=some (.pointer (some ⟨F.p,0,none⟩))∧w'.cell? ⟨q1,0,none⟩=some (.int .i64 1)∧w'.cell? ⟨q2,0,none⟩=some (.slice q xs.length c)∧w'.cell? ⟨F.p,1,none⟩=some (.pointer (some ⟨F.tb,0,none⟩))) (first | go_keep | exact HS.out)
  ((go_at_call 253;refine HT.out.mono ?_;rintro e w4 ⟨rfl,v',hb4,ho4,hn4,hk4⟩;have hK1:=(Kept.of_below (S:=fun j=>j=F.s1∨v1.ownBlock=some j) (below_drew2 w1)).trans hk4;have HS:=Lib.hid (show w4.cell? ⟨q0,0,none⟩=some (.pointer (some ⟨F.p,0,none⟩))∧w4.cell? ⟨q1,0,none⟩=some (.int .i64 1)∧w4.cell? ⟨q2,0,none⟩=some (.slice q xs.length c)∧w4.cell? ⟨F.p,1,none⟩=some (.pointer (some ⟨F.tb,0,none⟩)) from ⟨(World.cell?_of_block (hK1.block q0 (World.block_lt_of_cell? _ _ a0) (HNX.out q0 n0))).trans a0,(World.cell?_of_block (hK1.block q1 (World.block_lt_of_cell? _ _ a1) (HNX.out q1 n1))).trans a1,(World.cell?_of_block (hK1.block q2 (World.block_lt_of_cell? _ _ a2) (HNX.out q2 n2))).trans a2,(World.cell?_of_block (hK1.block F.p (World.block_lt_of_cell? _ _ a3) HPS.out)).trans a3⟩);have hr4:=HR.out.kept hK1 (HNX.out _ hM);have e0:=hr4.cell 0 (v:=.int .i64 0) rfl;have f0:=hr4.free 0;have e10:=hr4.cell 10 (v:=.int .i64 0) rfl;have f10:=hr4.free 10;have HR4:=Lib.hid hr4;have HK1:=Lib.hid hK1;have HB4:=Lib.hid hb4;have HO4:=Lib.hid ho4;have HN4:=Lib.hid hn4;clear hr4 hK1 hb4 ho4 hn4 hk4))
 have hr5:Blk ((w4.setCell ⟨w.heap.size,0,none⟩ (.int .i64 xs.length)).setCell ⟨w.heap.size,10,none⟩ (.int .i64 0)) w.heap.size (replyC xs.length none 0 0 0) 365:=(HR4.out.set 0 _).set 10 _
 have hown:Kept (fun j=>j=w.heap.size) w4 ((w4.setCell ⟨w.heap.size,0,none⟩ (.int .i64 xs.length)).setCell ⟨w.heap.size,10,none⟩ (.int .i64 0)):=((Kept.refl (fun j=>j=w.heap.size) _).setCell (.inl rfl) 0 _).setCell (.inl rfl) 10 _
 obtain ⟨⟨r0,r1,r2,r3,r4,r5,r6,r7,r8,r9,r10⟩,-⟩:=reply_cells hr5
 have HOWN:=Lib.hid hown
 clear hr5 hown
 generalize ((w4.setCell ⟨w.heap.size,0,none⟩ (.int .i64 xs.length)).setCell ⟨w.heap.size,10,none⟩ (.int .i64 0))=w5 at *
 go_wp2_with fail
 obtain ⟨b1,b2,o1,o2,d1,d2⟩:=HD.out
 obtain ⟨hp4,hmv⟩:=HP.out.wrote1 b1 b2 o1 o2 d1 d2 HK1.out HB4.out HO4.out HN4.out
 have hM4:¬ (M w.heap.size∨v'.ownBlock=some w.heap.size):=fun hh=>by
  rcases hh with hh | hh
  ·exact hM hh
  ·rcases HN4.out _ hh with h1 | h1
   ·exact hM (d1 _ h1).1
   ·have:w1.heap.size≤w.heap.size:=h1
    omega
 refine bodyPost_ret (v:=.agg (replyC xs.length none 0 0 0)) ?_ rfl ⟨rfl,_,hp4.kept HOWN.out fun j hj=>by subst hj;exact ⟨H.out.n0,hM4⟩, ?_,fun j hj=>?_⟩
 ·unfold replyC
  simp [results,Tryz.results252,go_sem,r0,r1,r2,r3,r4,r5,r6,r7,r8,r9,r10]
 ·exact ((Kept.of_below HB.out).trans hmv.kept).trans' HOWN.out fun k hk e=>by omega
 ·rcases hmv.new j hj with h1 | h1
  ·exact .inl h1
  ·exact .inr (Nat.le_trans HB.out.size h1)
theorem write_any1 (F:Fx) (M:Nat→Prop) (inp out err xs:Bts) (q:Option Addr) (c:Nat) (w:World) (h:PrAt w F M inp out err) (hx:Bs w q xs) (hxM:∀ a,q=some a→¬ M a.block) (hcap:xs.length≤c) (hx0:xs≠[]) (hbig:out.length+xs.length≤4294967296) :
  Calls Tryz.prog 201 #[.pointer (some ⟨F.p,0,none⟩),.int .i64 1,.slice q xs.length c] w fun e w'=>e=.returned (.tuple #[.int .i64 xs.length,.int .i64 0])∧∃ M',PrAt w' F M' inp (out ++ xs) err∧Mv M M' w w':=by
 have hent:∀ (args:Array Value) (w:World),(callFunc 252 args).run Tryz.prog w=.ok (.enter 252 args) w:=enters_of Tryz.func252 (by kernel_rfl) rfl
 obtain ⟨w1,hw1⟩:∃ w1,((w.alloc (.cells #[.pointer (some ⟨F.p,0,none⟩)] 101)).alloc (.cells #[.int .i64 1] 3)).alloc (.cells #[.slice q xs.length c] 22)=w1:=⟨_,rfl⟩
 have hb1:Below w.heap.size w w1:=by rw [← hw1];exact (((Below.refl _ _).alloc (Nat.le_refl _) _).alloc (by simp) _).alloc (by simp;omega) _
 have hs1:w1.heap.size=w.heap.size+1+1+1:=by rw [← hw1];simp
 have k0:Blk w1 w.heap.size #[.pointer (some ⟨F.p,0,none⟩)] 101:=by rw [← hw1];exact ((Blk.new _ _ _).alloc _).alloc _
 have k1:Blk w1 (w.heap.size+1) #[.int .i64 1] 3:=by
  rw [← hw1]
  have:=Blk.new (w.alloc (.cells #[.pointer (some ⟨F.p,0,none⟩)] 101)) #[.int .i64 1] 3
  simp only [World.size_alloc] at this
  exact this.alloc _
 have k2:Blk w1 (w.heap.size+1+1) #[.slice q xs.length c] 22:=by
  rw [← hw1]
  have:=Blk.new ((w.alloc (.cells #[.pointer (some ⟨F.p,0,none⟩)] 101)).alloc (.cells #[.int .i64 1] 3)) #[.slice q xs.length c] 22
  simpa only [World.size_alloc] using this
 have hp1:=h.below hb1
 obtain ⟨hd,pk,st,hpp⟩:=hp1.proc
 have hM:∀ k,w.heap.size≤k→¬ M k:=fun k hk e=>by have:=h.lt k e;omega
 have hmf:∀ (fn:Fn) (first cap:Array Value) (w:World),(Instr.makeFunc fn first cap).run Tryz.prog w=.ok (.func fn first cap) w:=fun _ _ _ _=>rfl
 have hx1:Bs w1 q xs:=hx.below hb1 (Nat.le_refl _)
 have cc:=call_any 252 hent #[.pointer (some ⟨w.heap.size,0,none⟩),.pointer (some ⟨w.heap.size+1,0,none⟩),.pointer (some ⟨w.heap.size+1+1,0,none⟩)] F.p F.k F.tb F.al F.av F.buf F.line F.run hd pk st w1 hpp
  (fun n q' l c er w2=>(n=xs.length∧q'=none∧l=0∧c=0∧er=0)∧(w2.heap[w.heap.size]?=w1.heap[w.heap.size]?)∧∃ M',PrAt w2 F M' inp (out ++ xs) err∧Mv M M' w w2∧¬ M' w1.heap.size) (by
   intro w2 s hk2 hs2 hp2
   have hpr2:=hp1.turn hk2 hp2
   have hK2:Kept M w w2:=(Kept.of_below hb1).trans (hk2.mono fun k _ e=>e ▸ h.mp)
   have hne:∀ k,w.heap.size≤k→k≠F.p:=fun k hk e=>by have:=h.lt F.p h.mp;omega
   have hx2:Bs w2 q xs:=by
    intro hl
    obtain ⟨b,o,hq,hc⟩:=hx1 hl
    exact ⟨b,o,hq,fun i hi=>(World.cell?_of_block (hk2.block b (World.block_lt_of_cell? _ _ (hc i hi)) fun e=>hxM _ hq (by have:=h.mp;rw [← e] at this;exact this))).trans (hc i hi)⟩
   refine (write1_any1 F M inp out err xs q c w2 hpr2 hx2 hcap hx0 hbig w.heap.size (w.heap.size+1) (w.heap.size+1+1) ((k0.kept hk2 (hne _ (by omega))).cell 0 rfl) ((k1.kept hk2 (hne _ (by omega))).cell 0 rfl) ((k2.kept hk2 (hne _ (by omega))).cell 0 rfl) (hM _ (by omega)) (hM _ (by omega)) (hM _ (by omega))).mono ?_
   rintro e w3 ⟨rfl,M',hp3,hmv⟩
   obtain ⟨hd',pk',st',hpp3⟩:=hp3.proc
   refine ⟨xs.length,none,0,0,0,hd',pk',st',rfl,by decide,hpp3,hmv.kept.size,hmv.kept.block _ hs2 (hM _ (by omega)),⟨rfl,rfl,rfl,rfl,rfl⟩,(hmv.kept.block _ (by omega) (hM _ (by omega))).trans (hk2.block _ (by omega) (hne _ (by omega))),M',hp3,Mv.trans ⟨hK2,fun _ h=>.inl h⟩ hmv,hmv.not hs2 (hM _ (by omega))⟩)
 have c0:=k0.cell 0 (v:=.pointer (some ⟨F.p,0,none⟩)) rfl
 have H:=Lib.hid h
 have HS1:=Lib.hid hs1
 clear h hb1 hs1 k0 k1 k2 hp1 hpp hM hent hx hx1
 go_enter Tryz.func201,Tryz.ntmps201
 go_wp2_with fail
 try rw [hw1]
 refine cc.mono ?_
 rintro e w5 ⟨n,q',l,c',er,w4,rfl,⟨⟨rfl,rfl,rfl,rfl,rfl⟩,hbl4,M',hp4,hK4,hM4⟩,hs4,hk5⟩
 have hn:=Blk.new w5 (replyC xs.length none 0 0 0) 365
 have x0:=hn.cell 0 (v:=.int .i64 xs.length) rfl
 have x10:=hn.cell 10 (v:=.int .i64 0) rfl
 have y0:=hn.drew.cell 0 (v:=.int .i64 xs.length) rfl
 have y10:=hn.drew.cell 10 (v:=.int .i64 0) rfl
 have hlw:w1.heap.size < w5.heap.size:=Nat.lt_of_lt_of_le hs4 hk5.size
 have hp5:PrAt w5 F M' inp (out ++ xs) err:=hp4.kept hk5 fun j hj=>by
  subst hj
  exact ⟨by have:=H.out.n0;have:=HS1.out;omega,hM4⟩
 have hq0:w1.cell? ⟨w.heap.size,0,none⟩=some (.pointer (some ⟨F.p,0,none⟩)):=c0
 have hq5:w5.cell? ⟨w.heap.size,0,none⟩=some (.pointer (some ⟨F.p,0,none⟩)):=by
  have hs1:=HS1.out
  exact (World.cell?_of_block ((hk5.block w.heap.size (by omega) (by omega)).trans hbl4)).trans hq0
 obtain ⟨hd5,pk5,st5,hpp5⟩:=hp5.proc
 have c14:=(Blk.alloc hpp5 (.cells (replyC xs.length none 0 0 0) 365)).cell 14 (v:=.bool false) rfl
 have z0:=new_cell hq5 (.cells (replyC xs.length none 0 0 0) 365)
 have FIN:∀ W,Below w5.heap.size w5 W→∃ M',PrAt W F M' inp (out ++ xs) err∧Mv M M' w W:=by
  intro W hW
  have hs1:=HS1.out
  refine ⟨M',hp5.below hW,(hK4.kept.trans' hk5 fun k hk e=>by omega).trans' (Kept.of_below (S:=fun _=>False) hW) fun _ _ h=>h.elim,hK4.new⟩
 have HF:=Lib.hid FIN
 clear cc c0 hw1 hmf hn FIN hk5 hs4 hK4 hp4 hp5 hpp5 hq0 hq5
 unfold replyC at *
 go_wp2_with fail
 go_region
 go_wp2_with fail
 go_ret2
 refine ⟨rfl,HF.out _ ?_⟩
 exact ((Below.refl _ _).alloc (Nat.le_refl _) _).drew
end Go.Proofs.YtefpcacnblaokaaGreatDoor

/-
  The walks of Write's closure and of Proc.Write, to descriptor 2. Condition: a process that runs; lengths.
-/
set_option maxRecDepth 100000
set_option maxHeartbeats 4000000
namespace Go.Proofs.YtefpcacnblaokaaGreatDoor
open Go.RowKit Go.Shelf Go.Maps
theorem PrAt.wrote2 {W W':World} {F:Fx} {M:Nat→Prop} {inp out err xs:Bts} (h:PrAt W F M inp out err) {v1 v2 v':Value} (b1:Blk W F.s1 #[v1] 178) (_b2:Blk W F.s2 #[v2] 178) (o1:W.ownsRow 0 5 1 v1 out.length (out.map u8V)) (_o2:W.ownsRow 0 5 1 v2 err.length (err.map u8V))
  (d1:∀ j,v1.ownBlock=some j→M j∧j≠F.p∧j≠F.s0∧j≠F.s1∧j≠F.s2∧v2.ownBlock≠some j) (d2:∀ j,v2.ownBlock=some j→M j∧j≠F.p∧j≠F.s0∧j≠F.s1∧j≠F.s2)
  (hk:Kept (fun j=>j=F.s2∨v2.ownBlock=some j) W W') (b':Blk W' F.s2 #[v'] 178) (o':W'.ownsRow 0 5 1 v' (err ++ xs).length ((err ++ xs).map u8V)) (hn:∀ j,v'.ownBlock=some j→v2.ownBlock=some j∨W.heap.size≤j) :
  PrAt W' F (fun j=>M j∨v'.ownBlock=some j) inp out (err ++ xs)∧Mv M (fun j=>M j∨v'.ownBlock=some j) W W':=by
 obtain ⟨hf,⟨v,hb,hsl⟩,-,⟨hd,pk,st,hp⟩,mp,m0,m1,m2,di,lt,n0,li,bg⟩:=h
 have hM:∀ j,j < W.heap.size→v'.ownBlock=some j→M j:=fun j hj h=>by
  rcases hn j h with h1 | h1
  ·exact (d2 j h1).1
  ·omega
 have hT:∀ j,¬ M j→¬ (j=F.s2∨v2.ownBlock=some j):=fun j hj h=>by
  rcases h with rfl | h
  ·exact hj m2
  ·exact hj (d2 j h).1
 have hnew:∀ j,v'.ownBlock=some j→j≠F.p∧j≠F.s0∧j≠F.s1∧j≠F.s2:=fun j hj=>by
  rcases hn j hj with h1 | h1
  ·have:=d2 j h1;exact ⟨this.2.1,this.2.2.1,this.2.2.2.1,this.2.2.2.2⟩
  ·have:=lt _ mp;have:=lt _ m0;have:=lt _ m1;have:=lt _ m2
   exact ⟨by omega,by omega,by omega,by omega⟩
 refine ⟨⟨(hf.kept hk fun j _ hj=>hT j hj).more fun j hj h=>h.elim id fun h=>hM j (by omega) h,⟨v,hb.kept hk fun h=>?_,(hsl.kept hk fun g _ hN=>hT g hN.2).mono fun g _ hN=>⟨hN.1,fun h=>hN.2 (h.elim id fun h=>hM g (by omega) h)⟩⟩,⟨v1,v',b1.kept hk fun h=>?_,b',own_kept o1 hk fun j hj h=>?_,o',fun j hj=>⟨.inl (d1 j hj).1,(d1 j hj).2.1,(d1 j hj).2.2.1,(d1 j hj).2.2.2.1,(d1 j hj).2.2.2.2.1,fun h=>?_⟩,fun j hj=>⟨.inr hj,hnew j hj⟩⟩,⟨hd,pk,st,Blk.kept hp hk fun h=>?_⟩,.inl mp,.inl m0,.inl m1,.inl m2,di,fun j hj=>?_,Nat.le_trans n0 hk.size,li,bg⟩,hk.mono fun j _ h=>?_,fun j hj=>?_⟩
 ·rcases h with h | h
  ·exact di.2.2.2.2.1 h
  ·exact (d2 _ h).2.2.1 rfl
 ·rcases h with h | h
  ·exact di.2.2.2.2.2 h
  ·exact (d2 _ h).2.2.2.1 rfl
 ·rcases h with rfl | h
  ·exact (d1 _ hj).2.2.2.2.1 rfl
  ·exact (d1 j hj).2.2.2.2.2 h
 ·rcases hn j h with h1 | h1
  ·exact (d1 j hj).2.2.2.2.2 h1
  ·have:=(o1.lt j hj).2;omega
 ·rcases h with h | h
  ·exact di.2.2.1 h
  ·exact (d2 _ h).2.1 rfl
 ·rcases hj with h | h
  ·exact Nat.lt_of_lt_of_le (lt j h) hk.size
  ·exact (o'.lt j h).2
 ·rcases h with rfl | h
  ·exact m2
  ·exact (d2 j h).1
 ·rcases hj with h | h
  ·exact .inl h
  ·rcases hn j h with h1 | h1
   ·exact .inl (d2 j h1).1
   ·exact .inr h1
theorem write1_any2 (F:Fx) (M:Nat→Prop) (inp out err xs:Bts) (q:Option Addr) (c:Nat) (w:World) (h:PrAt w F M inp out err) (hx:Bs w q xs) (hcap:xs.length≤c) (hx0:xs≠[]) (hbig:err.length+xs.length≤4294967296) (q0 q1 q2:Nat) (h0:w.cell? ⟨q0,0,none⟩=some (.pointer (some ⟨F.p,0,none⟩))) (h1:w.cell? ⟨q1,0,none⟩=some (.int .i64 2)) (h2:w.cell? ⟨q2,0,none⟩=some (.slice q xs.length c))
  (n0:¬ M q0) (n1:¬ M q1) (n2:¬ M q2) :
  Calls Tryz.prog 252 #[.pointer (some ⟨q0,0,none⟩),.pointer (some ⟨q1,0,none⟩),.pointer (some ⟨q2,0,none⟩)] w fun e w'=>e=.returned (.agg (replyC xs.length none 0 0 0))∧∃ M',PrAt w' F M' inp out (err ++ xs)∧Mv M M' w w':=by
 obtain ⟨w1,hw1⟩:∃ w1,(w.alloc (.cells (replyC 0 none 0 0 0) 365))=w1:=⟨_,rfl⟩
 have hb1:Below w.heap.size w w1:=by rw [← hw1];exact (Below.refl _ _).alloc (Nat.le_refl _) _
 have hr1:Blk w1 w.heap.size (replyC 0 none 0 0 0) 365:=by rw [← hw1];exact Blk.new _ _ _
 have hp1:=h.below hb1
 obtain ⟨hd,pk,st,hpp⟩:=hp1.proc
 obtain ⟨v1,v2,b1,b2,o1,o2,d1,d2⟩:=hp1.snk
 have a0:=(hb1.cell (p:=⟨q0,0,none⟩) (World.block_lt_of_cell? _ _ h0)).trans h0
 have a1:=(hb1.cell (p:=⟨q1,0,none⟩) (World.block_lt_of_cell? _ _ h1)).trans h1
 have a2:=(hb1.cell (p:=⟨q2,0,none⟩) (World.block_lt_of_cell? _ _ h2)).trans h2
 have a3:=hpp.cell 1 (v:=.pointer (some ⟨F.tb,0,none⟩)) rfl
 have hl:w.heap.size < w1.heap.size:=hr1.lt
 have ht:=tabWrite_any F.tb 2 F.k F.t 3 F.m (by decide) F.s2 v2 err q xs c w1.drew (Blk.drew hp1.fix.kern) (hp1.fix.tab.cell 0 rfl) (hp1.fix.tab.cell 3 rfl) b2.drew o2 ((hx.below hb1 (Nat.le_refl _)).drew 1) hx0 (fun e=>(d2 _ e).2.2.2.2 rfl) hbig hcap (fun e=>hp1.fix.oldTb.2 (e ▸ hp1.m2)) (fun e=>hp1.fix.oldTb.2 (d2 _ e).1)
 have m0:=World.new_ne w ⟨q0,0,none⟩ h0
 have m1:=World.new_ne w ⟨q1,0,none⟩ h1
 have m2:=World.new_ne w ⟨q2,0,none⟩ h2
 have m3:w.heap.size≠F.p:=fun e=>by have:=h.lt F.p h.mp;omega
 have hnx:∀ k,¬ M k→¬ (k=F.s2∨v2.ownBlock=some k):=fun k hk hh=>by
  rcases hh with rfl | hh
  ·exact hk h.m2
  ·exact hk (d2 _ hh).1
 have hps:¬ (F.p=F.s2∨v2.ownBlock=some F.p):=fun hh=>by
  rcases hh with hh | hh
  ·exact h.dist.2.2.1 hh
  ·exact (d2 _ hh).2.1 rfl
 have hM:¬ M w.heap.size:=fun e=>by have:=h.lt _ e;omega
 have H:=Lib.hid h
 have HB:=Lib.hid hb1
 have HR:=Lib.hid hr1
 have HP:=Lib.hid hp1
 have HT:=Lib.hid ht
 have HNX:=Lib.hid hnx
 have HPS:=Lib.hid hps
 have HD:=Lib.hid (And.intro b1 (And.intro b2 (And.intro o1 (And.intro o2 (And.intro d1 d2)))))
 clear h hb1 hr1 hp1 hpp h0 h1 h2 ht hx hnx hps b1 b2 o1 o2 d1 d2
 unfold replyC at hw1
 go_enter Tryz.func252,Tryz.ntmps252
 go_wp2_with fail
 try rw [hw1]
 clear hw1
 go_region_held3 (fun w'=>w'.cell? ⟨q0,0,none⟩=some (.pointer (some ⟨F.p,0,none⟩))∧w'.cell? ⟨q1,0,none⟩=some (.int .i64 2)∧w'.cell? ⟨q2,0,none⟩=some (.slice q xs.length c)∧w'.cell? ⟨F.p,1,none⟩=some (.pointer (some ⟨F.tb,0,none⟩))) (first | go_keep | exact HS.out)
  ((go_at_call 253;refine HT.out.mono ?_;rintro e w4 ⟨rfl,v',hb4,ho4,hn4,hk4⟩;have hK1:=(Kept.of_below (S:=fun j=>j=F.s2∨v2.ownBlock=some j) (below_drew2 w1)).trans hk4;have HS:=Lib.hid (show w4.cell? ⟨q0,0,none⟩=some (.pointer (some ⟨F.p,0,none⟩))∧w4.cell? ⟨q1,0,none⟩=some (.int .i64 2)∧w4.cell? ⟨q2,0,none⟩=some (.slice q xs.length c)∧w4.cell? ⟨F.p,1,none⟩=some (.pointer (some ⟨F.tb,0,none⟩)) from ⟨(World.cell?_of_block (hK1.block q0 (World.block_lt_of_cell? _ _ a0) (HNX.out q0 n0))).trans a0,(World.cell?_of_block (hK1.block q1 (World.block_lt_of_cell? _ _ a1) (HNX.out q1 n1))).trans a1,(World.cell?_of_block (hK1.block q2 (World.block_lt_of_cell? _ _ a2) (HNX.out q2 n2))).trans a2,(World.cell?_of_block (hK1.block F.p (World.block_lt_of_cell? _ _ a3) HPS.out)).trans a3⟩);have hr4:=HR.out.kept hK1 (HNX.out _ hM);have e0:=hr4.cell 0 (v:=.int .i64 0) rfl;have f0:=hr4.free 0;have e10:=hr4.cell 10 (v:=.int .i64 0) rfl;have f10:=hr4.free 10;have HR4:=Lib.hid hr4;have HK1:=Lib.hid hK1;have HB4:=Lib.hid hb4;have HO4:=Lib.hid ho4;have HN4:=Lib.hid hn4;clear hr4 hK1 hb4 ho4 hn4 hk4))
 have hr5:Blk ((w4.setCell ⟨w.heap.size,0,none⟩ (.int .i64 xs.length)).setCell ⟨w.heap.size,10,none⟩ (.int .i64 0)) w.heap.size (replyC xs.length none 0 0 0) 365:=(HR4.out.set 0 _).set 10 _
 have hown:Kept (fun j=>j=w.heap.size) w4 ((w4.setCell ⟨w.heap.size,0,none⟩ (.int .i64 xs.length)).setCell ⟨w.heap.size,10,none⟩ (.int .i64 0)):=((Kept.refl (fun j=>j=w.heap.size) _).setCell (.inl rfl) 0 _).setCell (.inl rfl) 10 _
 obtain ⟨⟨r0,r1,r2,r3,r4,r5,r6,r7,r8,r9,r10⟩,-⟩:=reply_cells hr5
 have HOWN:=Lib.hid hown
 clear hr5 hown
 generalize ((w4.setCell ⟨w.heap.size,0,none⟩ (.int .i64 xs.length)).setCell ⟨w.heap.size,10,none⟩ (.int .i64 0))=w5 at *
 go_wp2_with fail
 obtain ⟨b1,b2,o1,o2,d1,d2⟩:=HD.out
 obtain ⟨hp4,hmv⟩:=HP.out.wrote2 b1 b2 o1 o2 d1 d2 HK1.out HB4.out HO4.out HN4.out
 have hM4:¬ (M w.heap.size∨v'.ownBlock=some w.heap.size):=fun hh=>by
  rcases hh with hh | hh
  ·exact hM hh
  ·rcases HN4.out _ hh with h1 | h1
   ·exact hM (d2 _ h1).1
   ·have:w1.heap.size≤w.heap.size:=h1
    omega
 refine bodyPost_ret (v:=.agg (replyC xs.length none 0 0 0)) ?_ rfl ⟨rfl,_,hp4.kept HOWN.out fun j hj=>by subst hj;exact ⟨H.out.n0,hM4⟩, ?_,fun j hj=>?_⟩
 ·unfold replyC
  simp [results,Tryz.results252,go_sem,r0,r1,r2,r3,r4,r5,r6,r7,r8,r9,r10]
 ·exact ((Kept.of_below HB.out).trans hmv.kept).trans' HOWN.out fun k hk e=>by omega
 ·rcases hmv.new j hj with h1 | h1
  ·exact .inl h1
  ·exact .inr (Nat.le_trans HB.out.size h1)
theorem write_any2 (F:Fx) (M:Nat→Prop) (inp out err xs:Bts) (q:Option Addr) (c:Nat) (w:World) (h:PrAt w F M inp out err) (hx:Bs w q xs) (hxM:∀ a,q=some a→¬ M a.block) (hcap:xs.length≤c) (hx0:xs≠[]) (hbig:err.length+xs.length≤4294967296) :
  Calls Tryz.prog 201 #[.pointer (some ⟨F.p,0,none⟩),.int .i64 2,.slice q xs.length c] w fun e w'=>e=.returned (.tuple #[.int .i64 xs.length,.int .i64 0])∧∃ M',PrAt w' F M' inp out (err ++ xs)∧Mv M M' w w':=by
 have hent:∀ (args:Array Value) (w:World),(callFunc 252 args).run Tryz.prog w=.ok (.enter 252 args) w:=enters_of Tryz.func252 (by kernel_rfl) rfl
 obtain ⟨w1,hw1⟩:∃ w1,((w.alloc (.cells #[.pointer (some ⟨F.p,0,none⟩)] 101)).alloc (.cells #[.int .i64 2] 3)).alloc (.cells #[.slice q xs.length c] 22)=w1:=⟨_,rfl⟩
 have hb1:Below w.heap.size w w1:=by rw [← hw1];exact (((Below.refl _ _).alloc (Nat.le_refl _) _).alloc (by simp) _).alloc (by simp;omega) _
 have hs1:w1.heap.size=w.heap.size+1+1+1:=by rw [← hw1];simp
 have k0:Blk w1 w.heap.size #[.pointer (some ⟨F.p,0,none⟩)] 101:=by rw [← hw1];exact ((Blk.new _ _ _).alloc _).alloc _
 have k1:Blk w1 (w.heap.size+1) #[.int .i64 2] 3:=by
  rw [← hw1]
  have:=Blk.new (w.alloc (.cells #[.pointer (some ⟨F.p,0,none⟩)] 101)) #[.int .i64 2] 3
  simp only [World.size_alloc] at this
  exact this.alloc _
 have k2:Blk w1 (w.heap.size+1+1) #[.slice q xs.length c] 22:=by
  rw [← hw1]
  have:=Blk.new ((w.alloc (.cells #[.pointer (some ⟨F.p,0,none⟩)] 101)).alloc (.cells #[.int .i64 2] 3)) #[.slice q xs.length c] 22
  simpa only [World.size_alloc] using this
 have hp1:=h.below hb1
 obtain ⟨hd,pk,st,hpp⟩:=hp1.proc
 have hM:∀ k,w.heap.size≤k→¬ M k:=fun k hk e=>by have:=h.lt k e;omega
 have hmf:∀ (fn:Fn) (first cap:Array Value) (w:World),(Instr.makeFunc fn first cap).run Tryz.prog w=.ok (.func fn first cap) w:=fun _ _ _ _=>rfl
 have hx1:Bs w1 q xs:=hx.below hb1 (Nat.le_refl _)
 have cc:=call_any 252 hent #[.pointer (some ⟨w.heap.size,0,none⟩),.pointer (some ⟨w.heap.size+1,0,none⟩),.pointer (some ⟨w.heap.size+1+1,0,none⟩)] F.p F.k F.tb F.al F.av F.buf F.line F.run hd pk st w1 hpp
  (fun n q' l c er w2=>(n=xs.length∧q'=none∧l=0∧c=0∧er=0)∧(w2.heap[w.heap.size]?=w1.heap[w.heap.size]?)∧∃ M',PrAt w2 F M' inp out (err ++ xs)∧Mv M M' w w2∧¬ M' w1.heap.size) (by
   intro w2 s hk2 hs2 hp2
   have hpr2:=hp1.turn hk2 hp2
   have hK2:Kept M w w2:=(Kept.of_below hb1).trans (hk2.mono fun k _ e=>e ▸ h.mp)
   have hne:∀ k,w.heap.size≤k→k≠F.p:=fun k hk e=>by have:=h.lt F.p h.mp;omega
   have hx2:Bs w2 q xs:=by
    intro hl
    obtain ⟨b,o,hq,hc⟩:=hx1 hl
    exact ⟨b,o,hq,fun i hi=>(World.cell?_of_block (hk2.block b (World.block_lt_of_cell? _ _ (hc i hi)) fun e=>hxM _ hq (by have:=h.mp;rw [← e] at this;exact this))).trans (hc i hi)⟩
   refine (write1_any2 F M inp out err xs q c w2 hpr2 hx2 hcap hx0 hbig w.heap.size (w.heap.size+1) (w.heap.size+1+1) ((k0.kept hk2 (hne _ (by omega))).cell 0 rfl) ((k1.kept hk2 (hne _ (by omega))).cell 0 rfl) ((k2.kept hk2 (hne _ (by omega))).cell 0 rfl) (hM _ (by omega)) (hM _ (by omega)) (hM _ (by omega))).mono ?_
   rintro e w3 ⟨rfl,M',hp3,hmv⟩
   obtain ⟨hd',pk',st',hpp3⟩:=hp3.proc
   refine ⟨xs.length,none,0,0,0,hd',pk',st',rfl,by decide,hpp3,hmv.kept.size,hmv.kept.block _ hs2 (hM _ (by omega)),⟨rfl,rfl,rfl,rfl,rfl⟩,(hmv.kept.block _ (by omega) (hM _ (by omega))).trans (hk2.block _ (by omega) (hne _ (by omega))),M',hp3,Mv.trans ⟨hK2,fun _ h=>.inl h⟩ hmv,hmv.not hs2 (hM _ (by omega))⟩)
 have c0:=k0.cell 0 (v:=.pointer (some ⟨F.p,0,none⟩)) rfl
 have H:=Lib.hid h
 have HS1:=Lib.hid hs1
 clear h hb1 hs1 k0 k1 k2 hp1 hpp hM hent hx hx1
 go_enter Tryz.func201,Tryz.ntmps201
 go_wp2_with fail
 try rw [hw1]
 refine cc.mono ?_
 rintro e w5 ⟨n,q',l,c',er,w4,rfl,⟨⟨rfl,rfl,rfl,rfl,rfl⟩,hbl4,M',hp4,hK4,hM4⟩,hs4,hk5⟩
 have hn:=Blk.new w5 (replyC xs.length none 0 0 0) 365
 have x0:=hn.cell 0 (v:=.int .i64 xs.length) rfl
 have x10:=hn.cell 10 (v:=.int .i64 0) rfl
 have y0:=hn.drew.cell 0 (v:=.int .i64 xs.length) rfl
 have y10:=hn.drew.cell 10 (v:=.int .i64 0) rfl
 have hlw:w1.heap.size < w5.heap.size:=Nat.lt_of_lt_of_le hs4 hk5.size
 have hp5:PrAt w5 F M' inp out (err ++ xs):=hp4.kept hk5 fun j hj=>by
  subst hj
  exact ⟨by have:=H.out.n0;have:=HS1.out;omega,hM4⟩
 have hq0:w1.cell? ⟨w.heap.size,0,none⟩=some (.pointer (some ⟨F.p,0,none⟩)):=c0
 have hq5:w5.cell? ⟨w.heap.size,0,none⟩=some (.pointer (some ⟨F.p,0,none⟩)):=by
  have hs1:=HS1.out
  exact (World.cell?_of_block ((hk5.block w.heap.size (by omega) (by omega)).trans hbl4)).trans hq0
 obtain ⟨hd5,pk5,st5,hpp5⟩:=hp5.proc
 have c14:=(Blk.alloc hpp5 (.cells (replyC xs.length none 0 0 0) 365)).cell 14 (v:=.bool false) rfl
 have z0:=new_cell hq5 (.cells (replyC xs.length none 0 0 0) 365)
 have FIN:∀ W,Below w5.heap.size w5 W→∃ M',PrAt W F M' inp out (err ++ xs)∧Mv M M' w W:=by
  intro W hW
  have hs1:=HS1.out
  refine ⟨M',hp5.below hW,(hK4.kept.trans' hk5 fun k hk e=>by omega).trans' (Kept.of_below (S:=fun _=>False) hW) fun _ _ h=>h.elim,hK4.new⟩
 have HF:=Lib.hid FIN
 clear cc c0 hw1 hmf hn FIN hk5 hs4 hK4 hp4 hp5 hpp5 hq0 hq5
 unfold replyC at *
 go_wp2_with fail
 go_region
 go_wp2_with fail
 go_ret2
 refine ⟨rfl,HF.out _ ?_⟩
 exact ((Below.refl _ _).alloc (Nat.le_refl _) _).drew
end Go.Proofs.YtefpcacnblaokaaGreatDoor

/-
  The walks of Hold, Drop, Lim, Args. Condition: a process that runs.
-/
set_option maxRecDepth 100000
set_option maxHeartbeats 4000000
namespace Go.Proofs.YtefpcacnblaokaaGreatDoor
open Go.RowKit Go.Shelf Go.Maps
theorem hold_any (F:Fx) (M:Nat→Prop) (inp out err:Bts) (w:World) (h:PrAt w F M inp out err) (n:Nat) :
  Calls Tryz.prog 223 #[.pointer (some ⟨F.p,0,none⟩),.int .i64 n] w fun e w'=>(∃ v,e=.returned v)∧PrAt w' F M inp out err∧Kept M w w':=by
 obtain ⟨hd,pk,st,hp⟩:=h.proc
 have c8:=hp.cell 8 (v:=.int .i64 hd) rfl
 have f8:=hp.free 8
 have H:=Lib.hid h
 have HP:=Lib.hid hp
 clear h hp
 go_enter Tryz.func223,Tryz.ntmps223
 go_wp2_with fail
 obtain ⟨w1,hw1⟩:∃ w1,(w.setCell ⟨F.p,8,none⟩ (.int .i64 (wrap64 (hd+n))))=w1:=⟨_,rfl⟩
 have hp1:ProcAt w1 F.p F.k F.tb F.av F.buf F.line F.run (wrap64 (hd+n)) pk true true st F.al:=by rw [← hw1];exact HP.out.set 8 _
 have hk1:Kept (fun j=>j=F.p) w w1:=by rw [← hw1];exact (Kept.refl (fun j=>j=F.p) _).setCell (.inl rfl) 8 _
 rw [hw1]
 clear hw1
 generalize wrap64 (hd+n)=hd1 at *
 have d8:=hp1.cell 8 (v:=.int .i64 hd1) rfl
 have d9:=hp1.cell 9 (v:=.int .i64 pk) rfl
 have g9:=hp1.free 9
 have e9:=hp1.drew.free 9
 have HP1:=Lib.hid hp1
 have HK1:=Lib.hid hk1
 clear hp1 hk1
 have b8:=HP1.out.drew.cell 8 (v:=.int .i64 hd1) rfl
 have b9:=HP1.out.drew.cell 9 (v:=.int .i64 pk) rfl
 go_region
 refine bodyPost_end (results_none rfl _ _ _) rfl ⟨⟨_,rfl⟩, ?_, ?_⟩
 ·exact H.out.turn ((HK1.out.drew).setCell (.inl rfl) 9 _) (HP1.out.drew.set 9 _)
 ·exact (HK1.out.drew.mono fun k _ e=>e ▸ H.out.mp).setCell (.inl H.out.mp) 9 _
theorem lim_any (F:Fx) (M:Nat→Prop) (inp out err:Bts) (w:World) (h:PrAt w F M inp out err) :
  Calls Tryz.prog 207 #[.pointer (some ⟨F.p,0,none⟩)] w fun e w'=>e=.returned (.agg #[.int .i64 F.buf,.int .i64 F.line,.int .i64 F.run])∧Below w.heap.size w w':=by
 obtain ⟨hd,pk,st,hp⟩:=h.proc
 have c5:=new_cell (hp.cell 5 (v:=.int .i64 F.buf) rfl) (.cells #[.int .i64 0,.int .i64 0,.int .i64 0] 24)
 have c6:=new_cell (hp.cell 6 (v:=.int .i64 F.line) rfl) (.cells #[.int .i64 0,.int .i64 0,.int .i64 0] 24)
 have c7:=new_cell (hp.cell 7 (v:=.int .i64 F.run) rfl) (.cells #[.int .i64 0,.int .i64 0,.int .i64 0] 24)
 have hn:=Blk.new w #[.int .i64 0,.int .i64 0,.int .i64 0] 24
 have n0:=hn.cell 0 (v:=.int .i64 0) rfl
 have n1:=hn.cell 1 (v:=.int .i64 0) rfl
 have n2:=hn.cell 2 (v:=.int .i64 0) rfl
 have f0:=hn.free 0
 have f1:=hn.free 1
 have f2:=hn.free 2
 clear h hp hn
 go_enter Tryz.func207,Tryz.ntmps207
 go_wp2_with fail
 have hs:=Blk.new w #[.int .i64 F.buf,.int .i64 F.line,.int .i64 F.run] 24
 have r0:=hs.cell 0 (v:=.int .i64 F.buf) rfl
 have r1:=hs.cell 1 (v:=.int .i64 F.line) rfl
 have r2:=hs.cell 2 (v:=.int .i64 F.run) rfl
 refine bodyPost_ret (v:=.agg #[.int .i64 F.buf,.int .i64 F.line,.int .i64 F.run]) ?_ rfl ⟨rfl,(Below.refl w.heap.size w).alloc (Nat.le_refl _) _⟩
 simp [results,Tryz.results207,go_sem,r0,r1,r2]
theorem drop_any (F:Fx) (M:Nat→Prop) (inp out err:Bts) (w:World) (h:PrAt w F M inp out err) (n:Nat) :
  Calls Tryz.prog 208 #[.pointer (some ⟨F.p,0,none⟩),.int .i64 n] w fun e w'=>(∃ v,e=.returned v)∧PrAt w' F M inp out err∧Kept M w w':=by
 obtain ⟨hd,pk,st,hp⟩:=h.proc
 have c8:=hp.cell 8 (v:=.int .i64 hd) rfl
 have f8:=hp.free 8
 have b8:=hp.drew.cell 8 (v:=.int .i64 hd) rfl
 have g8:=hp.drew.free 8
 have H:=Lib.hid h
 have HP:=Lib.hid hp
 clear h hp
 by_cases hn:n=0
 ·subst hn
  go_enter Tryz.func208,Tryz.ntmps208
  go_wp2_with fail
  exact bodyPost_end (results_none rfl _ _ _) rfl ⟨⟨_,rfl⟩,H.out,Kept.refl _ _⟩
 ·have hn1:decide ((0:Int) < n)=true:=by simp;omega
  go_enter Tryz.func208,Tryz.ntmps208
  go_wp2_with fail
  go_region
  refine bodyPost_end (results_none rfl _ _ _) rfl ⟨⟨_,rfl⟩, ?_, ?_⟩
  ·exact H.out.turn (((Kept.refl (fun j=>j=F.p) _).drew).setCell (.inl rfl) 8 _) (HP.out.drew.set 8 _)
  ·exact (Kept.refl M _).drew.setCell (.inl H.out.mp) 8 _
def StrsOwn (w:World) (B:Nat) (v:Value) (l:List Bts):Prop:=w.ownsRow B 9 1 v l.length (l.map strV)
theorem clone_own (w:World) (B:Nat) (v:Value) (l:List Bts) (h:StrsOwn w B v l) (hl:l.length < 1073741824) :
  Calls Tryz.prog 76 #[v] w fun e w'=>∃ v',e=.returned v'∧StrsOwn w' w.heap.size v' l∧Below w.heap.size w w':=by
 rcases h.2 with ⟨h1,h2⟩ | ⟨g,cap,cur,rfl,hb,hblk,hc,r⟩
 ·obtain rfl:l=[]:=List.eq_nil_of_length_eq_zero h2
  rw [h1]
  refine (Any.slices_Clone_string_nil Tryz.laysNm216 0 0 w).mono ?_
  rintro e w' ⟨rfl,rfl⟩
  exact ⟨_,rfl,World.ownsRow_nil _ _ _ _,Below.refl _ _⟩
 ·refine (Any.slices_Clone_string Tryz.laysNm216 g 0 l.length cap (l.map fun s=>⟨s.toArray⟩) w (by simp) (by omega) fun j hj=>?_).mono ?_
  ·rw [List.length_map] at hj
   have:=h.cellAt j (by omega)
   rw [Nat.zero_add,this]
   simp [List.getD_eq_getElem?_getD,hj,strV]
  ·rintro e w' ⟨v',rfl,hown,-,hb⟩
   refine ⟨v',rfl, ?_,hb⟩
   have e2:((l.map fun s=>(⟨s.toArray⟩:ByteArray)).take l.length).map Value.string=l.map strV:=by
    rw [List.take_of_length_le (by simp),List.map_map];rfl
   rw [e2] at hown
   exact hown
theorem args_any (F:Fx) (M:Nat→Prop) (inp out err:Bts) (w:World) (h:PrAt w F M inp out err) :
  Calls Tryz.prog 50 #[.pointer (some ⟨F.p,0,none⟩)] w fun e w'=>∃ v,e=.returned v∧StrsOwn w' w.heap.size v F.args∧Below w.heap.size w w':=by
 obtain ⟨hd,pk,st,hp⟩:=h.proc
 have c2:=hp.cell 2 (v:=F.av) rfl
 have c:=clone_own w 0 F.av F.args h.fix.args h.fix.argsLen
 obtain ⟨pv,nv,kv,hav⟩:∃ p n k,F.av=.slice p n k:=by
  rcases h.fix.args.2 with ⟨h1,-⟩ | ⟨g,cap,cur,e,-⟩
  ·exact ⟨_,_,_,h1⟩
  ·exact ⟨_,_,_,e⟩
 rw [hav] at c2 c
 clear h hp hav
 go_enter Tryz.func50,Tryz.ntmps50
 go_wp2_with fail
 refine c.mono ?_
 rintro e w1 ⟨v,rfl,ho,hb⟩
 have H1:=Lib.hid ho
 have H2:=Lib.hid hb
 clear ho hb c
 go_wp2_with fail
 go_ret
 exact ⟨v,rfl,H1.out,H2.out⟩
end Go.Proofs.YtefpcacnblaokaaGreatDoor
