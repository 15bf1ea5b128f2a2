/-
  Texts of this seat put together: Sd32, Sd33, Sd34, Sd35.
-/
import Derived.Test.YtefpcacnblaokaaGreatDoorQ28

/-
  The walk of a machine's chosen, of a command with two addresses, the range open. Conditions: the machine lies in memory; small numbers; the command is the script's one.
-/
set_option maxRecDepth 100000
set_option maxHeartbeats 4000000
namespace Go.Proofs.YtefpcacnblaokaaGreatDoor
open Go.RowKit Go.Shelf Go.Maps
variable {F:Fx} {m:Mfx}
theorem chosen2_b0 {q:Sd.St} (w:World) (h:Mst w F m q) (hi:0 < m.cs.length) {x:Sd.Cmd} (hx:m.cs.getD 0 default=x) {a:Nat} {b:Sd.Adr} (ha:x.ads=[.num a,b]) (has:a≤1000000000) (hol:q.opens.length=1) (hB:opV q.opens=1) (hkd:kdOf b=1) (hg:nOf b < q.n) (hf:q.n≠a) :
  Calls Tryz.prog 224 #[.pointer (some ⟨m.mb,0,none⟩),.pointer (some ⟨m.qs.getD 0 0,0,none⟩)] w fun e w'=>e=.returned (.bool x.neg)∧Mst w' F m { q with opens:=q.opens.set 0 false }:=by
 have h1:=h.fin_ true
 obtain ⟨⟨b15,c15⟩,f15⟩:=h.cell15
 generalize hwq:w.setCell ⟨m.mb,15,none⟩ (.bool true)=w1 at *
 have h2:=h1.fin_ false
 obtain ⟨⟨b16,c16⟩,f16⟩:=h1.cell15
 generalize hwq2:w1.setCell ⟨m.mb,15,none⟩ (.bool false)=w2 at *
 obtain ⟨qi,hqi⟩:∃ qi,m.qs.getD 0 0=qi:=⟨_,rfl⟩
 obtain ⟨g0,cp0,po0,qa0,c1,-⟩:=h1.two hi hx ha hqi
 obtain ⟨g,cp,po,qa,c1b,-,-,-,-,d3,d4,d5,hac,hok⟩:=h2.two hi hx ha hqi
 obtain ⟨w3,hw3⟩:∃ w3,w2.alloc (.cells #[.int .i64 (kdOf b),.int .i64 (nOf b),.pointer po] 224)=w3:=⟨_,rfl⟩
 have hb3:Below w2.heap.size w2 w3:=by rw [← hw3];exact (Below.refl _ _).alloc (Nat.le_refl _) _
 have sk:Blk w3 w2.heap.size #[.int .i64 (kdOf b),.int .i64 (nOf b),.pointer po] 224:=by rw [← hw3];exact Blk.new _ _ _
 have hm3:=h2.below hb3
 have hok4:adOk w3 m.S b qa:=hok.kept (Kept.of_below (S:=fun _=>False) hb3) fun _ _ h=>h
 obtain ⟨m3,m6⟩:=hm3.cells
 have m3b:w3.drew.cell? ⟨m.mb,3,none⟩=some (.map (some m.mo)):=m3
 have m6b:w3.drew.cell? ⟨m.mb,6,none⟩=some (.int .i64 q.n):=m6
 have s0:=sk.cell 0 (v:=.int .i64 (kdOf b)) rfl
 have s1:=sk.cell 1 (v:=.int .i64 (nOf b)) rfl
 have t0:w3.drew.cell? ⟨w2.heap.size,0,none⟩=some (.int .i64 (kdOf b)):=s0
 have t1:w3.drew.cell? ⟨w2.heap.size,1,none⟩=some (.int .i64 (nOf b)):=s1
 have hmbl:=h2.mbmo
 have lk3:=open_look hm3
 have lk4:=fun k=>open_look (hm3.below (below_drewN w3 k))
 rw [hB] at lk3
 simp only [hB] at lk4
 rw [hqi] at lk3
 simp only [hqi] at lk4
 rw [hkd] at s0 t0
 have hgt:((nOf b:Nat):Int) < (q.n:Int):=by omega
 have HF:=Lib.hid hf
 clear hf
 have HKD:=Lib.hid hkd
 clear hkd
 have HQW:=Lib.hid hwq
 have HQW2:=Lib.hid hwq2
 have HW3:=Lib.hid hw3
 have HM4:=Lib.hid hm3
 have HSK:=Lib.hid sk
 have HOK:=Lib.hid hok4
 have HAC:=Lib.hid hac
 have HX:=Lib.hid hx
 have HA:=Lib.hid ha
 have HQI:=Lib.hid hqi
 have HB:=Lib.hid hB
 have HMB:=Lib.hid hmbl
 rw [hqi]
 clear h h1 h2 hm3 hb3 sk hok hok4 hac hx ha hwq hwq2 hw3 hqi hB hmbl
 go_enter Tryz.func224,Tryz.ntmps224
 go_upto_region 2 with fail
 rw [HQW.out]
 go_upto_region 8 with fail
 rw [HQW2.out]
 go_upto_region 9 with fail
 rw [HW3.out]
 go_quiet (fail)
 all_goals
  clear c15 f15 c16 f16 c1 c1b d3 d4 d5 m3 m3b m6 m6b s0 s1 t0 t1 lk3 lk4
  obtain ⟨w4,hw4⟩:∃ w4,w3.drewN nq=w4:=⟨_,rfl⟩
  have hm4:=HM4.out.below (below_drewN w3 nq)
  have sk4:=HSK.out.drewN nq
  have hok4:=HOK.out.kept (Kept.of_below (S:=fun _=>False) (below_drewN w3 nq)) fun _ _ h=>h
  rw [hw4] at hm4 sk4 hok4
  first | rw [hw4] | skip
  clear hw4
  obtain ⟨w5,hp5,hm5,hk5⟩:=open_put hm4 hol false
  simp only [if_false,Bool.false_eq_true] at hp5
  rw [HQI.out] at hp5
  have m34:=hm4.cells.1
  have sk5:=Blk.kept sk4 hk5 (fun e=>by have:=HMB.out.2.2;omega)
  have HM5:=Lib.hid hm5
  have HSK5:=Lib.hid sk5
  clear hm4 sk4 hk5 hm5 sk5
  go_upto_region 11 with fail
  clear hp5 m34
  have hm4:=HM5.out
  have sk4:=HSK5.out
  clear HM4 HSK HM5 HSK5
  have m3c:=hm4.cells.1
  have lkc:=open_look hm4
  rw [(show opV (q.opens.set 0 false)=0 from opV_set hol false),HQI.out] at lkc
  obtain ⟨g1,cp1,po1,qa1,e1,-,e2,e3,e4,-⟩:=hm4.two hi HX.out HA.out HQI.out
  have hfit:=fits_st (F:=F) (m:=m) w5 hm4 (.num a) none trivial (fun n e=>by cases e;exact has)
  rw [show Sd.fits { q with opens:=q.opens.set 0 false } (.num a)=false from by unfold Sd.fits;simpa using HF.out,show (Value.agg (adCells (.num a) none).toArray)=.agg #[.int .i64 1,.int .i64 a,.pointer none] from rfl] at hfit
  have HSK4:=Lib.hid sk4
  have HLT:=Lib.hid sk4.lt
  clear hm4 sk4 hok4
  go_wp2_with fail
  refine hfit.mono ?_
  rintro e w6 ⟨rfl,hm6,hb6⟩
  clear hfit m3c lkc e1 e2 e3 e4
  obtain ⟨g2,cp2,po2,qa2,-,e5,-⟩:=hm6.two hi HX.out HA.out HQI.out
  have HM6:=Lib.hid hm6
  clear hm6 hb6
  go_wp2_with fail
  go_ret
  exact ⟨rfl,HM6.out⟩
theorem chosen2_b1 {q:Sd.St} (w:World) (h:Mst w F m q) (hi:0 < m.cs.length) {x:Sd.Cmd} (hx:m.cs.getD 0 default=x) {a:Nat} {b:Sd.Adr} (ha:x.ads=[.num a,b]) (has:a≤1000000000) (hol:q.opens.length=1) (hB:opV q.opens=1) (hkd:kdOf b=1) (hg:nOf b < q.n) (hf:q.n=a) :
  Calls Tryz.prog 224 #[.pointer (some ⟨m.mb,0,none⟩),.pointer (some ⟨m.qs.getD 0 0,0,none⟩)] w fun e w'=>e=.returned (.bool !x.neg)∧Mst w' F m { q with opens:=q.opens.set 0 false }:=by
 have h1:=h.fin_ true
 obtain ⟨⟨b15,c15⟩,f15⟩:=h.cell15
 generalize hwq:w.setCell ⟨m.mb,15,none⟩ (.bool true)=w1 at *
 have h2:=h1.fin_ false
 obtain ⟨⟨b16,c16⟩,f16⟩:=h1.cell15
 generalize hwq2:w1.setCell ⟨m.mb,15,none⟩ (.bool false)=w2 at *
 obtain ⟨qi,hqi⟩:∃ qi,m.qs.getD 0 0=qi:=⟨_,rfl⟩
 obtain ⟨g0,cp0,po0,qa0,c1,-⟩:=h1.two hi hx ha hqi
 obtain ⟨g,cp,po,qa,c1b,-,-,-,-,d3,d4,d5,hac,hok⟩:=h2.two hi hx ha hqi
 obtain ⟨w3,hw3⟩:∃ w3,w2.alloc (.cells #[.int .i64 (kdOf b),.int .i64 (nOf b),.pointer po] 224)=w3:=⟨_,rfl⟩
 have hb3:Below w2.heap.size w2 w3:=by rw [← hw3];exact (Below.refl _ _).alloc (Nat.le_refl _) _
 have sk:Blk w3 w2.heap.size #[.int .i64 (kdOf b),.int .i64 (nOf b),.pointer po] 224:=by rw [← hw3];exact Blk.new _ _ _
 have hm3:=h2.below hb3
 have hok4:adOk w3 m.S b qa:=hok.kept (Kept.of_below (S:=fun _=>False) hb3) fun _ _ h=>h
 obtain ⟨m3,m6⟩:=hm3.cells
 have m3b:w3.drew.cell? ⟨m.mb,3,none⟩=some (.map (some m.mo)):=m3
 have m6b:w3.drew.cell? ⟨m.mb,6,none⟩=some (.int .i64 q.n):=m6
 have s0:=sk.cell 0 (v:=.int .i64 (kdOf b)) rfl
 have s1:=sk.cell 1 (v:=.int .i64 (nOf b)) rfl
 have t0:w3.drew.cell? ⟨w2.heap.size,0,none⟩=some (.int .i64 (kdOf b)):=s0
 have t1:w3.drew.cell? ⟨w2.heap.size,1,none⟩=some (.int .i64 (nOf b)):=s1
 have hmbl:=h2.mbmo
 have lk3:=open_look hm3
 have lk4:=fun k=>open_look (hm3.below (below_drewN w3 k))
 rw [hB] at lk3
 simp only [hB] at lk4
 rw [hqi] at lk3
 simp only [hqi] at lk4
 rw [hkd] at s0 t0
 have hgt:((nOf b:Nat):Int) < (q.n:Int):=by omega
 have HF:=Lib.hid hf
 clear hf
 have HKD:=Lib.hid hkd
 clear hkd
 have HQW:=Lib.hid hwq
 have HQW2:=Lib.hid hwq2
 have HW3:=Lib.hid hw3
 have HM4:=Lib.hid hm3
 have HSK:=Lib.hid sk
 have HOK:=Lib.hid hok4
 have HAC:=Lib.hid hac
 have HX:=Lib.hid hx
 have HA:=Lib.hid ha
 have HQI:=Lib.hid hqi
 have HB:=Lib.hid hB
 have HMB:=Lib.hid hmbl
 rw [hqi]
 clear h h1 h2 hm3 hb3 sk hok hok4 hac hx ha hwq hwq2 hw3 hqi hB hmbl
 go_enter Tryz.func224,Tryz.ntmps224
 go_upto_region 2 with fail
 rw [HQW.out]
 go_upto_region 8 with fail
 rw [HQW2.out]
 go_upto_region 9 with fail
 rw [HW3.out]
 go_quiet (fail)
 all_goals
  clear c15 f15 c16 f16 c1 c1b d3 d4 d5 m3 m3b m6 m6b s0 s1 t0 t1 lk3 lk4
  obtain ⟨w4,hw4⟩:∃ w4,w3.drewN nq=w4:=⟨_,rfl⟩
  have hm4:=HM4.out.below (below_drewN w3 nq)
  have sk4:=HSK.out.drewN nq
  have hok4:=HOK.out.kept (Kept.of_below (S:=fun _=>False) (below_drewN w3 nq)) fun _ _ h=>h
  rw [hw4] at hm4 sk4 hok4
  first | rw [hw4] | skip
  clear hw4
  have hn2:((nOf b:Nat):Int)≤(q.n:Int):=by omega
  obtain ⟨w5,hp5,hm5,hk5⟩:=open_put hm4 hol false
  simp only [if_false,Bool.false_eq_true] at hp5
  rw [HQI.out] at hp5
  have m34:=hm4.cells.1
  have sk5:=Blk.kept sk4 hk5 (fun e=>by have:=HMB.out.2.2;omega)
  have HM5:=Lib.hid hm5
  have HSK5:=Lib.hid sk5
  clear hm4 sk4 hk5 hm5 sk5
  go_upto_region 11 with fail
  clear hp5 m34
  have hm4:=HM5.out
  have sk4:=HSK5.out
  clear HM4 HSK HM5 HSK5
  have m3c:=hm4.cells.1
  have lkc:=open_look hm4
  rw [(show opV (q.opens.set 0 false)=0 from opV_set hol false),HQI.out] at lkc
  obtain ⟨g1,cp1,po1,qa1,e1,-,e2,e3,e4,-⟩:=hm4.two hi HX.out HA.out HQI.out
  have hfit:=fits_st (F:=F) (m:=m) w5 hm4 (.num a) none trivial (fun n e=>by cases e;exact has)
  rw [show Sd.fits { q with opens:=q.opens.set 0 false } (.num a)=true from by unfold Sd.fits;simpa using HF.out,show (Value.agg (adCells (.num a) none).toArray)=.agg #[.int .i64 1,.int .i64 a,.pointer none] from rfl] at hfit
  have HSK4:=Lib.hid sk4
  have HLT:=Lib.hid sk4.lt
  clear hm4 sk4 hok4
  go_wp2_with fail
  refine hfit.mono ?_
  rintro e w6 ⟨rfl,hm6,hb6⟩
  clear hfit m3c lkc e1 e2 e3 e4
  have hm7:=hm6.fin_ true
  have c15s:=Lib.hid (hm6.set15 true)
  obtain ⟨⟨b17,c17⟩,f17⟩:=hm6.cell15
  have c17b:w6.drew.cell? ⟨m.mb,15,none⟩=some (.bool b17):=c17
  have f17b:w6.drew.frozen? ⟨m.mb,15,none⟩=false:=f17
  have sk6:=HSK4.out.keep (hb6 a rfl) HLT.out
  have s0:=sk6.cell 0 (v:=.int .i64 (kdOf b)) rfl
  have s1:=sk6.cell 1 (v:=.int .i64 (nOf b)) rfl
  have t0:w6.drew.cell? ⟨w2.heap.size,0,none⟩=some (.int .i64 (kdOf b)):=s0
  have t1:w6.drew.cell? ⟨w2.heap.size,1,none⟩=some (.int .i64 (nOf b)):=s1
  have m6c:=hm6.cells.2
  have m6d:w6.drew.cell? ⟨m.mb,6,none⟩=some (.int .i64 q.n):=m6c
  rw [HKD.out] at s0 t0
  have HM7:=Lib.hid hm7
  clear hm6 hm7 hb6 sk6
  go_upto_region 14 with fail
  go_region
  all_goals
   clear c17 f17 c17b f17b s0 s1 t0 t1 m6c m6d
   obtain ⟨w8,hw8⟩:∃ w8,(w6.setCell ⟨m.mb,15,none⟩ (.bool true)).drew=w8:=⟨_,rfl⟩
   have hm8:=HM7.out.below (below_drew2 _)
   have c15:w8.cell? ⟨m.mb,15,none⟩=some (.bool true):=by
    rw [← hw8]
    exact c15s.out
   rw [hw8] at hm8
   first | rw [hw8] | skip
   clear hw8
   obtain ⟨w9,hp9,hm9,hk9⟩:=open_put hm8 (by rw [List.length_set];exact hol) true
   simp only [if_true] at hp9
   rw [HQI.out] at hp9
   have m38:=hm8.cells.1
   have m39:=hm9.cells.1
   have c15b:w9.cell? ⟨m.mb,15,none⟩=some (.bool true):=(World.cell?_of_block (hk9.block m.mb hm8.mbmo.2.1 HMB.out.1)).trans c15
   obtain ⟨wA,hpA,hmA,-⟩:=open_put hm9 (by rw [List.length_set];exact (by rw [List.length_set];exact hol)) false
   simp only [if_false,Bool.false_eq_true] at hpA
   rw [HQI.out] at hpA
   obtain ⟨g3,cp3,po3,qa3,-,e7,-⟩:=hmA.two hi HX.out HA.out HQI.out
   have HMA:=Lib.hid hmA
   clear hm8 hm9 hk9 hmA
   go_wp2_with fail
   go_ret
   exact ⟨rfl,HMA.out.opens_ (by simp [opV,List.getD_eq_getElem?_getD])⟩
theorem chosen2_ct {q:Sd.St} (w:World) (h:Mst w F m q) (hi:0 < m.cs.length) {x:Sd.Cmd} (hx:m.cs.getD 0 default=x) {a:Nat} {b:Sd.Adr} (ha:x.ads=[.num a,b]) (hbs:AdrS b) (hol:q.opens.length=1) (hB:opV q.opens=1) (hkd:kdOf b=1) (hg:¬ nOf b < q.n) (hE:Sd.fits q b=true) :
  Calls Tryz.prog 224 #[.pointer (some ⟨m.mb,0,none⟩),.pointer (some ⟨m.qs.getD 0 0,0,none⟩)] w fun e w'=>e=.returned (.bool !x.neg)∧Mst w' F m { q with opens:=q.opens.set 0 false }:=by
 have h1:=h.fin_ true
 obtain ⟨⟨b15,c15⟩,f15⟩:=h.cell15
 generalize hwq:w.setCell ⟨m.mb,15,none⟩ (.bool true)=w1 at *
 have h2:=h1.fin_ false
 obtain ⟨⟨b16,c16⟩,f16⟩:=h1.cell15
 generalize hwq2:w1.setCell ⟨m.mb,15,none⟩ (.bool false)=w2 at *
 obtain ⟨qi,hqi⟩:∃ qi,m.qs.getD 0 0=qi:=⟨_,rfl⟩
 obtain ⟨g0,cp0,po0,qa0,c1,-⟩:=h1.two hi hx ha hqi
 obtain ⟨g,cp,po,qa,c1b,-,-,-,-,d3,d4,d5,hac,hok⟩:=h2.two hi hx ha hqi
 obtain ⟨w3,hw3⟩:∃ w3,w2.alloc (.cells #[.int .i64 (kdOf b),.int .i64 (nOf b),.pointer po] 224)=w3:=⟨_,rfl⟩
 have hb3:Below w2.heap.size w2 w3:=by rw [← hw3];exact (Below.refl _ _).alloc (Nat.le_refl _) _
 have sk:Blk w3 w2.heap.size #[.int .i64 (kdOf b),.int .i64 (nOf b),.pointer po] 224:=by rw [← hw3];exact Blk.new _ _ _
 have hm3:=h2.below hb3
 have hok4:adOk w3 m.S b qa:=hok.kept (Kept.of_below (S:=fun _=>False) hb3) fun _ _ h=>h
 obtain ⟨m3,m6⟩:=hm3.cells
 have m3b:w3.drew.cell? ⟨m.mb,3,none⟩=some (.map (some m.mo)):=m3
 have m6b:w3.drew.cell? ⟨m.mb,6,none⟩=some (.int .i64 q.n):=m6
 have s0:=sk.cell 0 (v:=.int .i64 (kdOf b)) rfl
 have s1:=sk.cell 1 (v:=.int .i64 (nOf b)) rfl
 have t0:w3.drew.cell? ⟨w2.heap.size,0,none⟩=some (.int .i64 (kdOf b)):=s0
 have t1:w3.drew.cell? ⟨w2.heap.size,1,none⟩=some (.int .i64 (nOf b)):=s1
 have hmbl:=h2.mbmo
 have lk3:=open_look hm3
 have lk4:=fun k=>open_look (hm3.below (below_drewN w3 k))
 rw [hB] at lk3
 simp only [hB] at lk4
 rw [hqi] at lk3
 simp only [hqi] at lk4
 rw [hkd] at s0 t0
 have hgt:¬ ((nOf b:Nat):Int) < (q.n:Int):=by omega
 have HKD:=Lib.hid hkd
 clear hkd
 have HQW:=Lib.hid hwq
 have HQW2:=Lib.hid hwq2
 have HW3:=Lib.hid hw3
 have HM4:=Lib.hid hm3
 have HSK:=Lib.hid sk
 have HOK:=Lib.hid hok4
 have HAC:=Lib.hid hac
 have HX:=Lib.hid hx
 have HA:=Lib.hid ha
 have HQI:=Lib.hid hqi
 have HB:=Lib.hid hB
 have HMB:=Lib.hid hmbl
 rw [hqi]
 clear h h1 h2 hm3 hb3 sk hok hok4 hac hx ha hwq hwq2 hw3 hqi hB hmbl
 go_enter Tryz.func224,Tryz.ntmps224
 go_upto_region 2 with fail
 rw [HQW.out]
 go_upto_region 8 with fail
 rw [HQW2.out]
 go_upto_region 9 with fail
 rw [HW3.out]
 go_quiet (fail)
 all_goals
  clear c15 f15 c16 f16 c1 c1b d3 d4 d5 m3 m3b m6 m6b s0 s1 t0 t1 lk3 lk4
  obtain ⟨w4,hw4⟩:∃ w4,w3.drewN nq=w4:=⟨_,rfl⟩
  have hm4:=HM4.out.below (below_drewN w3 nq)
  have sk4:=HSK.out.drewN nq
  have hok4:=HOK.out.kept (Kept.of_below (S:=fun _=>False) (below_drewN w3 nq)) fun _ _ h=>h
  rw [hw4] at hm4 sk4 hok4
  first | rw [hw4] | skip
  clear hw4
  have m3c:=hm4.cells.1
  have lkc:=open_look hm4
  rw [HB.out,HQI.out] at lkc
  have hfit:=fits_st (F:=F) (m:=m) w4 hm4 b qa hok4 (fun n e=>by subst e;exact hbs)
  rw [hE,show (Value.agg (adCells b qa).toArray)=.agg #[.int .i64 (kdOf b),.int .i64 (nOf b),.pointer po] from by rw [HAC.out]] at hfit
  have s0:=sk4.cell 0 (v:=.int .i64 (kdOf b)) rfl
  have s1:=sk4.cell 1 (v:=.int .i64 (nOf b)) rfl
  have s2:=sk4.cell 2 (v:=.pointer po) rfl
  clear hm4 sk4 hok4
  go_wp2_with fail
  refine hfit.mono ?_
  rintro e w6 ⟨rfl,hm6,-⟩
  have hm7:=hm6.fin_ true
  have c15s:=Lib.hid (hm6.set15 true)
  obtain ⟨⟨b17,c17⟩,f17⟩:=hm6.cell15
  have HM7:=Lib.hid hm7
  clear hfit m3c lkc s0 s1 s2 hm6 hm7
  go_upto_region 16 with fail
  clear c17 f17
  obtain ⟨w8,hw8⟩:∃ w8,w6.setCell ⟨m.mb,15,none⟩ (.bool true)=w8:=⟨_,rfl⟩
  have hm8:=HM7.out
  have c15:w8.cell? ⟨m.mb,15,none⟩=some (.bool true):=by
   rw [← hw8]
   exact c15s.out
  rw [hw8] at hm8
  first | rw [hw8] | skip
  clear hw8
  obtain ⟨w9,hp9,hm9,hk9⟩:=open_put hm8 hol true
  simp only [if_true] at hp9
  rw [HQI.out] at hp9
  have m38:=hm8.cells.1
  have m39:=hm9.cells.1
  have c15b:w9.cell? ⟨m.mb,15,none⟩=some (.bool true):=(World.cell?_of_block (hk9.block m.mb hm8.mbmo.2.1 HMB.out.1)).trans c15
  obtain ⟨wA,hpA,hmA,-⟩:=open_put hm9 (by rw [List.length_set];exact hol) false
  simp only [if_false,Bool.false_eq_true] at hpA
  rw [HQI.out] at hpA
  obtain ⟨g3,cp3,po3,qa3,-,e7,-⟩:=hmA.two hi HX.out HA.out HQI.out
  have HMA:=Lib.hid hmA
  clear hm8 hm9 hk9 hmA
  go_wp2_with fail
  go_ret
  exact ⟨rfl,HMA.out.opens_ (by simp [opV,List.getD_eq_getElem?_getD])⟩
theorem chosen2_dt {q:Sd.St} (w:World) (h:Mst w F m q) (hi:0 < m.cs.length) {x:Sd.Cmd} (hx:m.cs.getD 0 default=x) {a:Nat} {b:Sd.Adr} (ha:x.ads=[.num a,b]) (hbs:AdrS b) (hol:q.opens.length=1) (hB:opV q.opens=1) (hkd:kdOf b=3) (hE:Sd.fits q b=true) :
  Calls Tryz.prog 224 #[.pointer (some ⟨m.mb,0,none⟩),.pointer (some ⟨m.qs.getD 0 0,0,none⟩)] w fun e w'=>e=.returned (.bool !x.neg)∧Mst w' F m { q with opens:=q.opens.set 0 false }:=by
 have h1:=h.fin_ true
 obtain ⟨⟨b15,c15⟩,f15⟩:=h.cell15
 generalize hwq:w.setCell ⟨m.mb,15,none⟩ (.bool true)=w1 at *
 have h2:=h1.fin_ false
 obtain ⟨⟨b16,c16⟩,f16⟩:=h1.cell15
 generalize hwq2:w1.setCell ⟨m.mb,15,none⟩ (.bool false)=w2 at *
 obtain ⟨qi,hqi⟩:∃ qi,m.qs.getD 0 0=qi:=⟨_,rfl⟩
 obtain ⟨g0,cp0,po0,qa0,c1,-⟩:=h1.two hi hx ha hqi
 obtain ⟨g,cp,po,qa,c1b,-,-,-,-,d3,d4,d5,hac,hok⟩:=h2.two hi hx ha hqi
 obtain ⟨w3,hw3⟩:∃ w3,w2.alloc (.cells #[.int .i64 (kdOf b),.int .i64 (nOf b),.pointer po] 224)=w3:=⟨_,rfl⟩
 have hb3:Below w2.heap.size w2 w3:=by rw [← hw3];exact (Below.refl _ _).alloc (Nat.le_refl _) _
 have sk:Blk w3 w2.heap.size #[.int .i64 (kdOf b),.int .i64 (nOf b),.pointer po] 224:=by rw [← hw3];exact Blk.new _ _ _
 have hm3:=h2.below hb3
 have hok4:adOk w3 m.S b qa:=hok.kept (Kept.of_below (S:=fun _=>False) hb3) fun _ _ h=>h
 obtain ⟨m3,m6⟩:=hm3.cells
 have m3b:w3.drew.cell? ⟨m.mb,3,none⟩=some (.map (some m.mo)):=m3
 have m6b:w3.drew.cell? ⟨m.mb,6,none⟩=some (.int .i64 q.n):=m6
 have s0:=sk.cell 0 (v:=.int .i64 (kdOf b)) rfl
 have s1:=sk.cell 1 (v:=.int .i64 (nOf b)) rfl
 have t0:w3.drew.cell? ⟨w2.heap.size,0,none⟩=some (.int .i64 (kdOf b)):=s0
 have t1:w3.drew.cell? ⟨w2.heap.size,1,none⟩=some (.int .i64 (nOf b)):=s1
 have hmbl:=h2.mbmo
 have lk3:=open_look hm3
 have lk4:=fun k=>open_look (hm3.below (below_drewN w3 k))
 rw [hB] at lk3
 simp only [hB] at lk4
 rw [hqi] at lk3
 simp only [hqi] at lk4
 rw [hkd] at s0 t0
 have HKD:=Lib.hid hkd
 clear hkd
 have HQW:=Lib.hid hwq
 have HQW2:=Lib.hid hwq2
 have HW3:=Lib.hid hw3
 have HM4:=Lib.hid hm3
 have HSK:=Lib.hid sk
 have HOK:=Lib.hid hok4
 have HAC:=Lib.hid hac
 have HX:=Lib.hid hx
 have HA:=Lib.hid ha
 have HQI:=Lib.hid hqi
 have HB:=Lib.hid hB
 have HMB:=Lib.hid hmbl
 rw [hqi]
 clear h h1 h2 hm3 hb3 sk hok hok4 hac hx ha hwq hwq2 hw3 hqi hB hmbl
 go_enter Tryz.func224,Tryz.ntmps224
 go_upto_region 2 with fail
 rw [HQW.out]
 go_upto_region 8 with fail
 rw [HQW2.out]
 go_upto_region 9 with fail
 rw [HW3.out]
 go_quiet (fail)
 all_goals
  clear c15 f15 c16 f16 c1 c1b d3 d4 d5 m3 m3b m6 m6b s0 s1 t0 t1 lk3 lk4
  obtain ⟨w4,hw4⟩:∃ w4,w3.drewN nq=w4:=⟨_,rfl⟩
  have hm4:=HM4.out.below (below_drewN w3 nq)
  have sk4:=HSK.out.drewN nq
  have hok4:=HOK.out.kept (Kept.of_below (S:=fun _=>False) (below_drewN w3 nq)) fun _ _ h=>h
  rw [hw4] at hm4 sk4 hok4
  first | rw [hw4] | skip
  clear hw4
  have m3c:=hm4.cells.1
  have lkc:=open_look hm4
  rw [HB.out,HQI.out] at lkc
  have hfit:=fits_st (F:=F) (m:=m) w4 hm4 b qa hok4 (fun n e=>by subst e;exact hbs)
  rw [hE,show (Value.agg (adCells b qa).toArray)=.agg #[.int .i64 (kdOf b),.int .i64 (nOf b),.pointer po] from by rw [HAC.out]] at hfit
  have s0:=sk4.cell 0 (v:=.int .i64 (kdOf b)) rfl
  have s1:=sk4.cell 1 (v:=.int .i64 (nOf b)) rfl
  have s2:=sk4.cell 2 (v:=.pointer po) rfl
  clear hm4 sk4 hok4
  go_wp2_with fail
  refine hfit.mono ?_
  rintro e w6 ⟨rfl,hm6,-⟩
  have hm7:=hm6.fin_ true
  have c15s:=Lib.hid (hm6.set15 true)
  obtain ⟨⟨b17,c17⟩,f17⟩:=hm6.cell15
  have HM7:=Lib.hid hm7
  clear hfit m3c lkc s0 s1 s2 hm6 hm7
  go_upto_region 16 with fail
  clear c17 f17
  obtain ⟨w8,hw8⟩:∃ w8,w6.setCell ⟨m.mb,15,none⟩ (.bool true)=w8:=⟨_,rfl⟩
  have hm8:=HM7.out
  have c15:w8.cell? ⟨m.mb,15,none⟩=some (.bool true):=by
   rw [← hw8]
   exact c15s.out
  rw [hw8] at hm8
  first | rw [hw8] | skip
  clear hw8
  obtain ⟨w9,hp9,hm9,hk9⟩:=open_put hm8 hol true
  simp only [if_true] at hp9
  rw [HQI.out] at hp9
  have m38:=hm8.cells.1
  have m39:=hm9.cells.1
  have c15b:w9.cell? ⟨m.mb,15,none⟩=some (.bool true):=(World.cell?_of_block (hk9.block m.mb hm8.mbmo.2.1 HMB.out.1)).trans c15
  obtain ⟨wA,hpA,hmA,-⟩:=open_put hm9 (by rw [List.length_set];exact hol) false
  simp only [if_false,Bool.false_eq_true] at hpA
  rw [HQI.out] at hpA
  obtain ⟨g3,cp3,po3,qa3,-,e7,-⟩:=hmA.two hi HX.out HA.out HQI.out
  have HMA:=Lib.hid hmA
  clear hm8 hm9 hk9 hmA
  go_wp2_with fail
  go_ret
  exact ⟨rfl,HMA.out.opens_ (by simp [opV,List.getD_eq_getElem?_getD])⟩
theorem chosen2_cf {q:Sd.St} (w:World) (h:Mst w F m q) (hi:0 < m.cs.length) {x:Sd.Cmd} (hx:m.cs.getD 0 default=x) {a:Nat} {b:Sd.Adr} (ha:x.ads=[.num a,b]) (hbs:AdrS b) (hol:q.opens.length=1) (hB:opV q.opens=1) (hkd:kdOf b=1) (hg:¬ nOf b < q.n) (hE:Sd.fits q b=false) :
  Calls Tryz.prog 224 #[.pointer (some ⟨m.mb,0,none⟩),.pointer (some ⟨m.qs.getD 0 0,0,none⟩)] w fun e w'=>e=.returned (.bool !x.neg)∧Mst w' F m { q with opens:=q.opens.set 0 true }:=by
 have h1:=h.fin_ true
 obtain ⟨⟨b15,c15⟩,f15⟩:=h.cell15
 generalize hwq:w.setCell ⟨m.mb,15,none⟩ (.bool true)=w1 at *
 have h2:=h1.fin_ false
 obtain ⟨⟨b16,c16⟩,f16⟩:=h1.cell15
 generalize hwq2:w1.setCell ⟨m.mb,15,none⟩ (.bool false)=w2 at *
 obtain ⟨qi,hqi⟩:∃ qi,m.qs.getD 0 0=qi:=⟨_,rfl⟩
 obtain ⟨g0,cp0,po0,qa0,c1,-⟩:=h1.two hi hx ha hqi
 obtain ⟨g,cp,po,qa,c1b,-,-,-,-,d3,d4,d5,hac,hok⟩:=h2.two hi hx ha hqi
 obtain ⟨w3,hw3⟩:∃ w3,w2.alloc (.cells #[.int .i64 (kdOf b),.int .i64 (nOf b),.pointer po] 224)=w3:=⟨_,rfl⟩
 have hb3:Below w2.heap.size w2 w3:=by rw [← hw3];exact (Below.refl _ _).alloc (Nat.le_refl _) _
 have sk:Blk w3 w2.heap.size #[.int .i64 (kdOf b),.int .i64 (nOf b),.pointer po] 224:=by rw [← hw3];exact Blk.new _ _ _
 have hm3:=h2.below hb3
 have hok4:adOk w3 m.S b qa:=hok.kept (Kept.of_below (S:=fun _=>False) hb3) fun _ _ h=>h
 obtain ⟨m3,m6⟩:=hm3.cells
 have m3b:w3.drew.cell? ⟨m.mb,3,none⟩=some (.map (some m.mo)):=m3
 have m6b:w3.drew.cell? ⟨m.mb,6,none⟩=some (.int .i64 q.n):=m6
 have s0:=sk.cell 0 (v:=.int .i64 (kdOf b)) rfl
 have s1:=sk.cell 1 (v:=.int .i64 (nOf b)) rfl
 have t0:w3.drew.cell? ⟨w2.heap.size,0,none⟩=some (.int .i64 (kdOf b)):=s0
 have t1:w3.drew.cell? ⟨w2.heap.size,1,none⟩=some (.int .i64 (nOf b)):=s1
 have hmbl:=h2.mbmo
 have lk3:=open_look hm3
 have lk4:=fun k=>open_look (hm3.below (below_drewN w3 k))
 rw [hB] at lk3
 simp only [hB] at lk4
 rw [hqi] at lk3
 simp only [hqi] at lk4
 rw [hkd] at s0 t0
 have hgt:¬ ((nOf b:Nat):Int) < (q.n:Int):=by omega
 have HKD:=Lib.hid hkd
 clear hkd
 have HQW:=Lib.hid hwq
 have HQW2:=Lib.hid hwq2
 have HW3:=Lib.hid hw3
 have HM4:=Lib.hid hm3
 have HSK:=Lib.hid sk
 have HOK:=Lib.hid hok4
 have HAC:=Lib.hid hac
 have HX:=Lib.hid hx
 have HA:=Lib.hid ha
 have HQI:=Lib.hid hqi
 have HB:=Lib.hid hB
 have HMB:=Lib.hid hmbl
 rw [hqi]
 clear h h1 h2 hm3 hb3 sk hok hok4 hac hx ha hwq hwq2 hw3 hqi hB hmbl
 go_enter Tryz.func224,Tryz.ntmps224
 go_upto_region 2 with fail
 rw [HQW.out]
 go_upto_region 8 with fail
 rw [HQW2.out]
 go_upto_region 9 with fail
 rw [HW3.out]
 go_quiet (fail)
 all_goals
  clear c15 f15 c16 f16 c1 c1b d3 d4 d5 m3 m3b m6 m6b s0 s1 t0 t1 lk3 lk4
  obtain ⟨w4,hw4⟩:∃ w4,w3.drewN nq=w4:=⟨_,rfl⟩
  have hm4:=HM4.out.below (below_drewN w3 nq)
  have sk4:=HSK.out.drewN nq
  have hok4:=HOK.out.kept (Kept.of_below (S:=fun _=>False) (below_drewN w3 nq)) fun _ _ h=>h
  rw [hw4] at hm4 sk4 hok4
  first | rw [hw4] | skip
  clear hw4
  have m3c:=hm4.cells.1
  have lkc:=open_look hm4
  rw [HB.out,HQI.out] at lkc
  have hfit:=fits_st (F:=F) (m:=m) w4 hm4 b qa hok4 (fun n e=>by subst e;exact hbs)
  rw [hE,show (Value.agg (adCells b qa).toArray)=.agg #[.int .i64 (kdOf b),.int .i64 (nOf b),.pointer po] from by rw [HAC.out]] at hfit
  have s0:=sk4.cell 0 (v:=.int .i64 (kdOf b)) rfl
  have s1:=sk4.cell 1 (v:=.int .i64 (nOf b)) rfl
  have s2:=sk4.cell 2 (v:=.pointer po) rfl
  clear hm4 sk4 hok4
  go_wp2_with fail
  refine hfit.mono ?_
  rintro e w6 ⟨rfl,hm6,-⟩
  have hm7:=hm6.fin_ false
  have c15s:=Lib.hid (hm6.set15 false)
  obtain ⟨⟨b17,c17⟩,f17⟩:=hm6.cell15
  have HM7:=Lib.hid hm7
  clear hfit m3c lkc s0 s1 s2 hm6 hm7
  go_upto_region 16 with fail
  clear c17 f17
  obtain ⟨w8,hw8⟩:∃ w8,w6.setCell ⟨m.mb,15,none⟩ (.bool false)=w8:=⟨_,rfl⟩
  have hm8:=HM7.out
  have c15:w8.cell? ⟨m.mb,15,none⟩=some (.bool false):=by
   rw [← hw8]
   exact c15s.out
  rw [hw8] at hm8
  first | rw [hw8] | skip
  clear hw8
  obtain ⟨w9,hp9,hm9,hk9⟩:=open_put hm8 hol true
  simp only [if_true] at hp9
  rw [HQI.out] at hp9
  have m38:=hm8.cells.1
  have m39:=hm9.cells.1
  have c15b:w9.cell? ⟨m.mb,15,none⟩=some (.bool false):=(World.cell?_of_block (hk9.block m.mb hm8.mbmo.2.1 HMB.out.1)).trans c15
  obtain ⟨g3,cp3,po3,qa3,-,e7,-⟩:=hm9.two hi HX.out HA.out HQI.out
  have HMA:=Lib.hid hm9
  clear hm8 hm9 hk9
  go_wp2_with fail
  go_ret
  exact ⟨rfl,HMA.out.opens_ (by simp [opV,List.getD_eq_getElem?_getD])⟩
theorem chosen2_df {q:Sd.St} (w:World) (h:Mst w F m q) (hi:0 < m.cs.length) {x:Sd.Cmd} (hx:m.cs.getD 0 default=x) {a:Nat} {b:Sd.Adr} (ha:x.ads=[.num a,b]) (hbs:AdrS b) (hol:q.opens.length=1) (hB:opV q.opens=1) (hkd:kdOf b=3) (hE:Sd.fits q b=false) :
  Calls Tryz.prog 224 #[.pointer (some ⟨m.mb,0,none⟩),.pointer (some ⟨m.qs.getD 0 0,0,none⟩)] w fun e w'=>e=.returned (.bool !x.neg)∧Mst w' F m { q with opens:=q.opens.set 0 true }:=by
 have h1:=h.fin_ true
 obtain ⟨⟨b15,c15⟩,f15⟩:=h.cell15
 generalize hwq:w.setCell ⟨m.mb,15,none⟩ (.bool true)=w1 at *
 have h2:=h1.fin_ false
 obtain ⟨⟨b16,c16⟩,f16⟩:=h1.cell15
 generalize hwq2:w1.setCell ⟨m.mb,15,none⟩ (.bool false)=w2 at *
 obtain ⟨qi,hqi⟩:∃ qi,m.qs.getD 0 0=qi:=⟨_,rfl⟩
 obtain ⟨g0,cp0,po0,qa0,c1,-⟩:=h1.two hi hx ha hqi
 obtain ⟨g,cp,po,qa,c1b,-,-,-,-,d3,d4,d5,hac,hok⟩:=h2.two hi hx ha hqi
 obtain ⟨w3,hw3⟩:∃ w3,w2.alloc (.cells #[.int .i64 (kdOf b),.int .i64 (nOf b),.pointer po] 224)=w3:=⟨_,rfl⟩
 have hb3:Below w2.heap.size w2 w3:=by rw [← hw3];exact (Below.refl _ _).alloc (Nat.le_refl _) _
 have sk:Blk w3 w2.heap.size #[.int .i64 (kdOf b),.int .i64 (nOf b),.pointer po] 224:=by rw [← hw3];exact Blk.new _ _ _
 have hm3:=h2.below hb3
 have hok4:adOk w3 m.S b qa:=hok.kept (Kept.of_below (S:=fun _=>False) hb3) fun _ _ h=>h
 obtain ⟨m3,m6⟩:=hm3.cells
 have m3b:w3.drew.cell? ⟨m.mb,3,none⟩=some (.map (some m.mo)):=m3
 have m6b:w3.drew.cell? ⟨m.mb,6,none⟩=some (.int .i64 q.n):=m6
 have s0:=sk.cell 0 (v:=.int .i64 (kdOf b)) rfl
 have s1:=sk.cell 1 (v:=.int .i64 (nOf b)) rfl
 have t0:w3.drew.cell? ⟨w2.heap.size,0,none⟩=some (.int .i64 (kdOf b)):=s0
 have t1:w3.drew.cell? ⟨w2.heap.size,1,none⟩=some (.int .i64 (nOf b)):=s1
 have hmbl:=h2.mbmo
 have lk3:=open_look hm3
 have lk4:=fun k=>open_look (hm3.below (below_drewN w3 k))
 rw [hB] at lk3
 simp only [hB] at lk4
 rw [hqi] at lk3
 simp only [hqi] at lk4
 rw [hkd] at s0 t0
 have HKD:=Lib.hid hkd
 clear hkd
 have HQW:=Lib.hid hwq
 have HQW2:=Lib.hid hwq2
 have HW3:=Lib.hid hw3
 have HM4:=Lib.hid hm3
 have HSK:=Lib.hid sk
 have HOK:=Lib.hid hok4
 have HAC:=Lib.hid hac
 have HX:=Lib.hid hx
 have HA:=Lib.hid ha
 have HQI:=Lib.hid hqi
 have HB:=Lib.hid hB
 have HMB:=Lib.hid hmbl
 rw [hqi]
 clear h h1 h2 hm3 hb3 sk hok hok4 hac hx ha hwq hwq2 hw3 hqi hB hmbl
 go_enter Tryz.func224,Tryz.ntmps224
 go_upto_region 2 with fail
 rw [HQW.out]
 go_upto_region 8 with fail
 rw [HQW2.out]
 go_upto_region 9 with fail
 rw [HW3.out]
 go_quiet (fail)
 all_goals
  clear c15 f15 c16 f16 c1 c1b d3 d4 d5 m3 m3b m6 m6b s0 s1 t0 t1 lk3 lk4
  obtain ⟨w4,hw4⟩:∃ w4,w3.drewN nq=w4:=⟨_,rfl⟩
  have hm4:=HM4.out.below (below_drewN w3 nq)
  have sk4:=HSK.out.drewN nq
  have hok4:=HOK.out.kept (Kept.of_below (S:=fun _=>False) (below_drewN w3 nq)) fun _ _ h=>h
  rw [hw4] at hm4 sk4 hok4
  first | rw [hw4] | skip
  clear hw4
  have m3c:=hm4.cells.1
  have lkc:=open_look hm4
  rw [HB.out,HQI.out] at lkc
  have hfit:=fits_st (F:=F) (m:=m) w4 hm4 b qa hok4 (fun n e=>by subst e;exact hbs)
  rw [hE,show (Value.agg (adCells b qa).toArray)=.agg #[.int .i64 (kdOf b),.int .i64 (nOf b),.pointer po] from by rw [HAC.out]] at hfit
  have s0:=sk4.cell 0 (v:=.int .i64 (kdOf b)) rfl
  have s1:=sk4.cell 1 (v:=.int .i64 (nOf b)) rfl
  have s2:=sk4.cell 2 (v:=.pointer po) rfl
  clear hm4 sk4 hok4
  go_wp2_with fail
  refine hfit.mono ?_
  rintro e w6 ⟨rfl,hm6,-⟩
  have hm7:=hm6.fin_ false
  have c15s:=Lib.hid (hm6.set15 false)
  obtain ⟨⟨b17,c17⟩,f17⟩:=hm6.cell15
  have HM7:=Lib.hid hm7
  clear hfit m3c lkc s0 s1 s2 hm6 hm7
  go_upto_region 16 with fail
  clear c17 f17
  obtain ⟨w8,hw8⟩:∃ w8,w6.setCell ⟨m.mb,15,none⟩ (.bool false)=w8:=⟨_,rfl⟩
  have hm8:=HM7.out
  have c15:w8.cell? ⟨m.mb,15,none⟩=some (.bool false):=by
   rw [← hw8]
   exact c15s.out
  rw [hw8] at hm8
  first | rw [hw8] | skip
  clear hw8
  obtain ⟨w9,hp9,hm9,hk9⟩:=open_put hm8 hol true
  simp only [if_true] at hp9
  rw [HQI.out] at hp9
  have m38:=hm8.cells.1
  have m39:=hm9.cells.1
  have c15b:w9.cell? ⟨m.mb,15,none⟩=some (.bool false):=(World.cell?_of_block (hk9.block m.mb hm8.mbmo.2.1 HMB.out.1)).trans c15
  obtain ⟨g3,cp3,po3,qa3,-,e7,-⟩:=hm9.two hi HX.out HA.out HQI.out
  have HMA:=Lib.hid hm9
  clear hm8 hm9 hk9
  go_wp2_with fail
  go_ret
  exact ⟨rfl,HMA.out.opens_ (by simp [opV,List.getD_eq_getElem?_getD])⟩
end Go.Proofs.YtefpcacnblaokaaGreatDoor

/-
  The walk of a machine's chosen, of any command; of the letter y. Conditions: the machine lies in memory; small numbers; a range is the script's one command, its first address a number.
-/
namespace Go.Proofs.YtefpcacnblaokaaGreatDoor
open Go.RowKit Go.Shelf Go.Maps
variable {F:Fx} {m:Mfx}
def CmdOk (i:Nat) (x:Sd.Cmd):Prop:=match x.ads with
 | []=>True
 | [a]=>AdrS a
 | [.num a,b]=>i=0∧a≤1000000000∧AdrS b∧b≠.fin
 | _=>False
theorem opV_getD {l:List Bool}:opV l=if l.getD 0 false then 1 else 0:=rfl
theorem chosen_st {q q1:Sd.St} (w:World) (h:Mst w F m q) {i:Nat} (hi:i < m.cs.length) {x:Sd.Cmd} (hx:m.cs.getD i default=x) (ho:CmdOk i x) {r:Bool} (hc:Sd.chosen i x q=some (r,q1)) :
  Calls Tryz.prog 224 #[.pointer (some ⟨m.mb,0,none⟩),.pointer (some ⟨m.qs.getD i 0,0,none⟩)] w fun e w'=>e=.returned (.bool r)∧Mst w' F m q1:=by
 unfold CmdOk at ho
 unfold Sd.chosen at hc
 split at ho
 ·rename_i e
  rw [e] at hc
  simp only [Option.some.injEq,Prod.mk.injEq] at hc
  obtain ⟨rfl,rfl⟩:=hc
  exact chosen0_st w h hi hx e
 ·rename_i a e
  rw [e] at hc
  simp only [Option.some.injEq,Prod.mk.injEq] at hc
  obtain ⟨rfl,rfl⟩:=hc
  exact chosen1_st w h hi hx e ho
 ·rename_i a b e
  obtain ⟨rfl,ha,hb,hnf⟩:=ho
  rw [e] at hc
  simp only at hc
  split at hc
  ·cases hc
  ·rename_i hl
   have hl:q.opens.length=1:=by omega
   by_cases hB:q.opens.getD 0 false=true
   ·have hB1:opV q.opens=1:=by rw [opV_getD,if_pos hB]
    rw [hB] at hc
    cases b with
    | fin=>exact absurd rfl hnf
    | num k=>
     by_cases hg:k < q.n
     ·have e1:(!(true && !Sd.gone q.n (.num k)))=true:=by simp [Sd.gone,hg]
      rw [if_pos e1] at hc
      by_cases hf:q.n=a
      ·have e2:¬ (!Sd.fits q (.num a))=true:=by simp [Sd.fits,hf]
       have e3:(!Sd.reached q.n (.num k))=false:=by simp [Sd.reached];omega
       rw [if_neg e2,e3] at hc
       simp only [Option.some.injEq,Prod.mk.injEq] at hc
       obtain ⟨rfl,rfl⟩:=hc
       exact chosen2_b1 w h hi hx e ha hl hB1 rfl hg hf
      ·have e2:(!Sd.fits q (.num a))=true:=by simp [Sd.fits,hf]
       rw [if_pos e2] at hc
       simp only [Option.some.injEq,Prod.mk.injEq] at hc
       obtain ⟨rfl,rfl⟩:=hc
       exact chosen2_b0 w h hi hx e ha hl hB1 rfl hg hf
     ·have e1:¬ (!(true && !Sd.gone q.n (.num k)))=true:=by simp [Sd.gone,hg]
      rw [if_neg e1] at hc
      simp only [Option.some.injEq,Prod.mk.injEq] at hc
      obtain ⟨rfl,rfl⟩:=hc
      cases hE:Sd.fits q (.num k) with
      | true=>exact chosen2_ct w h hi hx e hb hl hB1 rfl hg hE
      | false=>exact chosen2_cf w h hi hx e hb hl hB1 rfl hg hE
    | rx k=>
     have e1:¬ (!(true && !Sd.gone q.n (.rx k)))=true:=by simp [Sd.gone]
     rw [if_neg e1] at hc
     simp only [Option.some.injEq,Prod.mk.injEq] at hc
     obtain ⟨rfl,rfl⟩:=hc
     cases hE:Sd.fits q (.rx k) with
     | true=>exact chosen2_dt w h hi hx e hb hl hB1 rfl hE
     | false=>exact chosen2_df w h hi hx e hb hl hB1 rfl hE
   ·have hB2:q.opens.getD 0 false=false:=by simpa using hB
    have hB1:opV q.opens=0:=by rw [opV_getD,if_neg hB]
    rw [hB2] at hc
    have e1:(!(false && !Sd.gone q.n b))=true:=by simp
    rw [if_pos e1] at hc
    by_cases hf:q.n=a
    ·have e2:¬ (!Sd.fits q (.num a))=true:=by simp [Sd.fits,hf]
     rw [if_neg e2] at hc
     simp only [Option.some.injEq,Prod.mk.injEq] at hc
     obtain ⟨rfl,rfl⟩:=hc
     cases b with
     | fin=>exact absurd rfl hnf
     | num k=>
      by_cases hr:k≤q.n
      ·have e3:(!Sd.reached q.n (.num k))=false:=by simp [Sd.reached,hr]
       rw [e3]
       exact chosen2_a1 w h hi hx e ha hl hB1 hf rfl hr
      ·have e3:(!Sd.reached q.n (.num k))=true:=by simp [Sd.reached];omega
       rw [e3]
       exact chosen2_a2 w h hi hx e ha hl hB1 hf rfl hr
     | rx k=>
      have e3:(!Sd.reached q.n (.rx k))=true:=rfl
      rw [e3]
      exact chosen2_a3 w h hi hx e ha hl hB1 hf rfl
    ·have e2:(!Sd.fits q (.num a))=true:=by simp [Sd.fits,hf]
     rw [if_pos e2] at hc
     simp only [Option.some.injEq,Prod.mk.injEq] at hc
     obtain ⟨rfl,rfl⟩:=hc
     refine (chosen2_a0 w h hi hx e ha hB1 hf).mono ?_
     rintro e' w' ⟨rfl,hm⟩
     exact ⟨rfl,Mst.opens_ (q:=q) (l:=q.opens) hm (by rw [opV_set hl,hB1];rfl)⟩
 ·exact ho.elim
end Go.Proofs.YtefpcacnblaokaaGreatDoor

/-
  The walks of the letters y, H and N. Conditions: the machine lies in memory; a process called sed.
-/
set_option maxRecDepth 100000
set_option maxHeartbeats 4000000
namespace Go.Proofs.YtefpcacnblaokaaGreatDoor
open Go.RowKit Go.Shelf Go.Maps
variable {F:Fx} {m:Mfx}
theorem map_upto (f:UInt8→UInt8) (xs:Bts) (i:Nat) (hi:i < xs.length):(((xs.take i).map f ++ xs.drop i).map u8V).set i (u8V (f (xs.getD i 0)))=((xs.take (i+1)).map f ++ xs.drop (i+1)).map u8V:=by
 apply List.ext_getElem?
 intro j
 have hd:xs.getD i 0=xs[i]:=by rw [List.getD_eq_getElem?_getD,List.getElem?_eq_getElem hi];rfl
 rw [List.getElem?_set]
 simp only [List.length_map,List.length_append,List.length_take,List.length_drop,List.getElem?_map,List.getElem?_append,List.getElem?_take,List.getElem?_drop]
 by_cases h1:j < i
 ·have e1:¬ i=j:=by omega
  have e2:j < min i xs.length:=by omega
  have e3:j < min (i+1) xs.length:=by omega
  have e4:j < i+1:=by omega
  simp [e1,e2,e3,e4,h1]
 ·by_cases h2:j=i
  ·subst h2
   have e1:j < min j xs.length+(xs.length - j):=by omega
   have e3:j < min (j+1) xs.length:=by omega
   simp only [if_true,e1,e3,Nat.lt_succ_self,hd,List.getElem?_eq_getElem hi,Option.map_some]
  ·have e1:¬ i=j:=by omega
   have e2:¬ j < min i xs.length:=by omega
   have e3:¬ j < min (i+1) xs.length:=by omega
   simp only [e1,e2,e3,if_false]
   congr 2
   omega
theorem letters_st {q:Sd.St} (w:World) (h:Mst w F m q) {i:Nat} (hi:i < m.cs.length) {x:Sd.Cmd} (hx:m.cs.getD i default=x) :
  Calls Tryz.prog 157 #[.pointer (some ⟨m.mb,0,none⟩),.pointer (some ⟨m.qs.getD i 0,0,none⟩)] w fun e w'=>e=.returned (.int .i64 0)∧Mst w' F m { q with pat:=q.pat.map fun c=>x.tab.getD c.toNat 0 }:=by
 generalize hqi:m.qs.getD i 0=qi
 have hcm:=h.cmd hi
 rw [hqi,hx] at hcm
 obtain ⟨U,R,k,c,o,hm,hp,hh,h1,h2,h3,h4,h5,h6,h7,h8,h9,h10,h11⟩:=h
 have c7:=Blk.cell hm.blk 7 (v:=c.pv) rfl
 obtain ⟨p,cp,hpv,hbs,-⟩:=hp.bs
 rw [hpv] at c7
 have hcl:=clone_bytes p q.pat cp w hbs (by omega)
 have fin:∀ (v:Value) (w2:World),w2.ownsRow w.heap.size 5 1 v (q.pat.map fun c=>x.tab.getD c.toNat 0).length ((q.pat.map fun c=>x.tab.getD c.toNat 0).map u8V)→Below w.heap.size w w2→Mst (w2.setCell ⟨m.mb,7,none⟩ v) F m { q with pat:=q.pat.map fun c=>x.tab.getD c.toNat 0 }:=fun v w2 ho hb=>by
  obtain ⟨hm2,hv2⟩:=joined_own hm ho hb
  exact ⟨_,R,k,{ c with pv:=v },o,hm2.set 7 v rfl,hv2.stored 7 v,((hh.below hb).grow fun _ h=>.inl h).stored 7 v,h1,h2,h3,h4,h5,h6,h7,h8,by simpa using h9,h10,h11⟩
 have FIN:=Lib.hid fin
 have f7:∀ w2:World,Below w.heap.size w w2→w2.cell? ⟨m.mb,7,none⟩=some (.slice p q.pat.length cp)∧w2.frozen? ⟨m.mb,7,none⟩=false:=fun w2 hb=>by
  refine ⟨?_,Blk.free (hm.below hb).blk 7⟩
  rw [← hpv]
  exact Blk.cell (hm.below hb).blk 7 rfl
 have F7:=Lib.hid f7
 have HCM:=Lib.hid hcm
 have hlen:=h9
 clear hm hp hh h1 h2 h3 h4 h5 h6 h7 h8 h9 h10 h11 hpv hbs fin f7 hcm hx hqi
 go_enter Tryz.func157,Tryz.ntmps157
 go_wp2_with fail
 refine hcl.mono ?_
 rintro e w1 ⟨v,rfl,ho1,hb1⟩
 clear hcl
 obtain ⟨av,re,rv,hcb,-,-,-,htl⟩:=HCM.out
 rcases Nat.eq_zero_or_pos q.pat.length with hz | hpos
 ·have hsh:∃ p2 c2,v=.slice p2 0 c2:=by
   rw [hz] at ho1
   rcases ho1.2 with ⟨e,-⟩ | ⟨g,cap,cs,e,-⟩
   ·exact ⟨_,_,e⟩
   ·exact ⟨_,_,e⟩
  obtain ⟨p2,c2,rfl⟩:=hsh
  have hnil:q.pat=[]:=List.eq_nil_of_length_eq_zero hz
  obtain ⟨e7,g7⟩:=F7.out w1 hb1
  have hf:=FIN.out _ w1 (by rw [hnil] at ho1 ⊢;exact ho1) hb1
  have HF:=Lib.hid hf
  clear ho1 hb1 c7 hf
  go_wp2_with fail
  go_loopw [6,7,15] (fun _ _ x15 wr=>x15=.int .i64 0∧wr=w1) (fun _ _ _ _=>0)
  case atStart=>exact ⟨rfl,rfl⟩
  case round=>
   obtain ⟨rfl,hwr⟩:=hrel
   rw [hwr]
   clear hwr
   go_wp2_with fail
   go_ret
   exact ⟨rfl,HF.out⟩
 ·obtain ⟨n,hn⟩:∃ n,q.pat.length=n+1:=⟨q.pat.length - 1,by omega⟩
  have hsh:∃ g c2,v=.slice (some ⟨g,0,none⟩) q.pat.length c2:=by
   have ho2:=ho1
   rw [hn] at ho2 ⊢
   exact own_slice ho2
  obtain ⟨g,c2,rfl⟩:=hsh
  clear hn
  have HO1:=Lib.hid ho1
  have HB1:=Lib.hid hb1
  have hgl:w.heap.size≤g:=(ho1.lt g rfl).1
  have hqil:=Blk.lt hcb
  clear ho1 hb1 c7
  go_wp2_with fail
  go_loopw [6,7,15] (fun _ _ x15 wr=>∃ j:Nat,x15=.int .i64 j∧j≤q.pat.length∧Hid (wr.ownsRow w.heap.size 5 1 (.slice (some ⟨g,0,none⟩) q.pat.length c2) q.pat.length (((q.pat.take j).map (fun c=>x.tab.getD c.toNat 0) ++ q.pat.drop j).map u8V))∧Hid (Below w.heap.size w wr)) (fun _ _ x15 _=>q.pat.length - (intOf x15).toNat)
  case atStart=>exact ⟨0,rfl,Nat.zero_le _,HO1,HB1⟩
  case round=>
   obtain ⟨j,rfl,hj,HO,HB⟩:=hrel
   by_cases hlt:j < q.pat.length
   ·have hge:=HO.out.cellAt j (by omega)
    have hxj:(((q.pat.take j).map (fun c=>x.tab.getD c.toNat 0) ++ q.pat.drop j).map u8V)[j]?=some (u8V (q.pat.getD j 0)):=by
     rw [List.getElem?_map,List.getElem?_append_right (by simp;omega)]
     simp only [List.length_map,List.length_take,List.getElem?_drop]
     rw [show j+(j - min j q.pat.length)=j by omega,List.getElem?_eq_getElem hlt,List.getD_eq_getElem?_getD,List.getElem?_eq_getElem hlt]
     rfl
    rw [hxj] at hge
    have hfr:=HO.out.frozenAt j
    obtain ⟨hst,hgw⟩:=HO.out.stored j (u8V (x.tab.getD (q.pat.getD j 0).toNat 0))
    rw [map_upto (fun c=>x.tab.getD c.toNat 0) q.pat j hlt] at hst
    have hbw:Below w.heap.size w (wr.setCell ⟨g,j,none⟩ (u8V (x.tab.getD (q.pat.getD j 0).toNat 0))):=HB.out.grown hgw HB.out.size fun k e=>by have:=Option.some.inj e;omega
    have hc8:(q.pat.getD j 0).toNat < 256:=UInt8.toNat_lt _
    have htb:=(hcb.keep HB.out hqil).cell (6+(q.pat.getD j 0).toNat) (cm_tab (q.pat.getD j 0).toNat (by rw [htl];exact hc8))
    generalize hcj:q.pat.getD j 0=cj at *
    generalize htj:x.tab.getD cj.toNat 0=tj at *
    unfold u8V at hge hst hbw
    have hlt2:(j:Int) < (q.pat.length:Int):=by omega
    have hc9:((cj.toNat:Nat):Int) < 256:=by omega
    have hw1:IntKind.i64.wrap ((j:Int)+1)=(j:Int)+1:=wrap_i64 (by omega) (by omega)
    clear hcj htj
    have HST:=Lib.hid hst
    have HBW:=Lib.hid hbw
    clear hst hbw hxj hgw
    go_wp2_with fail
    exact ⟨⟨j+1,by go_num,by omega,HST,HBW⟩,by show q.pat.length - ((j:Int)+1).toNat < q.pat.length - (j:Int).toNat;omega⟩
   ·obtain rfl:j=q.pat.length:=by omega
    obtain ⟨e7,g7⟩:=F7.out wr HB.out
    have ho:=HO.out
    rw [List.take_length,List.drop_length,List.append_nil] at ho
    have hf:=FIN.out _ wr (by rw [List.length_map];exact ho) HB.out
    have HF:=Lib.hid hf
    clear ho hf
    go_wp2_with fail
    go_ret
    exact ⟨rfl,HF.out⟩
end Go.Proofs.YtefpcacnblaokaaGreatDoor

/-
  The walks of the letters H and N. Conditions: the machine lies in memory; a process called sed.
-/
set_option maxRecDepth 100000
set_option maxHeartbeats 2000000
namespace Go.Proofs.YtefpcacnblaokaaGreatDoor
open Go.RowKit Go.Shelf Go.Maps
variable {F:Fx} {m:Mfx}
theorem putMore_st {q:Sd.St} (x:Value) (w:World) (h:Mst w F m q) (hl:q.hold.length+1+q.pat.length≤8192) :
  Calls Tryz.prog 148 #[.pointer (some ⟨m.mb,0,none⟩),x] w fun e w'=>e=.returned (.int .i64 0)∧Mst w' F m { q with hold:=q.hold ++ [10] ++ q.pat }:=by
 obtain ⟨U,R,k,c,o,hm,hp,hh,h1,h2,h3,h4,h5,h6,h7,h8,h9,h10,h11⟩:=h
 have c7:=Blk.cell hm.blk 7 (v:=c.pv) rfl
 have c8:=Blk.cell hm.blk 8 (v:=c.hv) rfl
 obtain ⟨p,cp,hpv,hbs,-⟩:=hp.bs
 obtain ⟨p2,cp2,hpv2,hbs2,-⟩:=hh.bs
 have HM:=Lib.hid hm
 have hall:∀ w2:World,Below w.heap.size w w2→w2.cell? ⟨m.mb,7,none⟩=some (.slice p q.pat.length cp)∧w2.cell? ⟨m.mb,8,none⟩=some (.slice p2 q.hold.length cp2)∧w2.frozen? ⟨m.mb,8,none⟩=false:=fun w2 hb=>by
  rw [← hpv,← hpv2]
  exact ⟨(hm.below hb).blk.cell 7 rfl,(hm.below hb).blk.cell 8 rfl,(hm.below hb).blk.free 8⟩
 have HALL:=Lib.hid hall
 have HJ:Hid (∀ w2:World,Below w.heap.size w w2→Calls Tryz.prog 217 #[.slice p2 q.hold.length cp2,.slice p q.pat.length cp] w2 fun e w'=>∃ v,e=.returned v∧w'.ownsRow w.heap.size 5 1 v (q.hold ++ [10] ++ q.pat).length ((q.hold ++ [10] ++ q.pat).map u8V)∧Below w.heap.size w w'):=Lib.hid fun w2 hb2=>by
  have hj:=joinedBy_any (PatB U m) c.hv c.pv q.hold q.pat w2 (hh.below hb2) (hp.below hb2) (by omega)
  rw [hpv,hpv2] at hj
  refine hj.mono ?_
  rintro e w' ⟨v,rfl,ho,hb⟩
  exact ⟨v,rfl,own_mono ho hb2.size,hb2.trans (hb.mono hb2.size)⟩
 have HF:Hid (∀ (v:Value) (w1:World),w1.ownsRow w.heap.size 5 1 v (q.hold ++ [10] ++ q.pat).length ((q.hold ++ [10] ++ q.pat).map u8V)→Below w.heap.size w w1→Mst (w1.setCell ⟨m.mb,8,none⟩ v) F m { q with hold:=q.hold ++ [10] ++ q.pat }):=Lib.hid fun v w1 ho hb=>by
  obtain ⟨hm1,hv1⟩:=joined_own hm ho hb
  exact ⟨_,R,k,{ c with hv:=v },o,hm1.set 8 v rfl,((hp.below hb).grow fun _ h=>.inl h).stored 8 v,hv1.stored 8 v,h1,h2,h3,h4,h5,h6,h7,h8,h9,by simp;omega,h11⟩
 rw [hpv] at c7
 rw [hpv2] at c8
 have hw1:IntKind.i64.wrap ((q.hold.length:Int)+1)=(q.hold.length:Int)+1:=wrap_i64 (by omega) (by omega)
 have hw2:IntKind.i64.wrap ((q.hold.length:Int)+1+(q.pat.length:Int))=(q.hold.length:Int)+1+(q.pat.length:Int):=wrap_i64 (by omega) (by omega)
 have hgt:¬ (8192:Int) < (q.hold.length:Int)+1+(q.pat.length:Int):=by omega
 have c7k:=fun k=>(HALL.out (w.drewN k) (below_drewN w k)).1
 have c8k:=fun k=>(HALL.out (w.drewN k) (below_drewN w k)).2.1
 clear hm hp hh h1 h2 h3 h4 h5 h6 h7 h8 h9 h10 h11 hpv hbs hpv2 hbs2 hl hall
 go_enter Tryz.func148,Tryz.ntmps148
 go_upto_region 1 with fail
 go_quiet (fail)
 obtain ⟨w2,hw2⟩:∃ w2,w.drewN nq=w2:=⟨_,rfl⟩
 have hb2:Below w.heap.size w w2.drew:=by rw [← hw2];exact (below_drewN w nq).trans ((below_drew2 _).mono (Nat.le_refl _))
 obtain ⟨d7,d8,-⟩:=HALL.out w2.drew hb2
 have hb3:Below w.heap.size w w2:=by rw [← hw2];exact below_drewN w nq
 obtain ⟨e7,e8,-⟩:=HALL.out w2 hb3
 first | rw [hw2] | skip
 have hj:=HJ.out w2.drew hb2
 clear c7 c8 c7k c8k hw1 hw2 hgt hb2 hb3
 go_upto_region 3 with fail
 go_region_with ((go_at_call 217;refine hj.mono ?_;rintro e w1 ⟨v,rfl,ho,hb⟩;obtain ⟨p9,c9,rfl,-⟩:=id (Sl.own ho).bs;obtain ⟨g7,g8,f8⟩:=HALL.out w1 hb;have HO:=Lib.hid ho;have HB:=Lib.hid hb;clear ho hb))
 all_goals
  have hf:=HF.out _ w1 HO.out HB.out
  have hlx:(q.hold ++ [10] ++ q.pat:Bts).length=q.hold.length+(q.pat.length+1):=by
   simp only [List.length_append,List.length_cons,List.length_nil]
   omega
  rw [hlx] at hf
  clear hlx
  clear d7 d8 e7 e8 g7 g8 f8 hj
  go_wp2_with fail
  go_ret
  exact ⟨rfl,hf⟩
theorem nextMore_none (rest:List Bts) (ha:F.args=tagSed :: rest) {q t:Sd.St} (x:Value) (w:World) (h:Mst w F m q) (hr:Sd.readL F.line q=(none,t)) :
  Calls Tryz.prog 151 #[.pointer (some ⟨m.mb,0,none⟩),x] w fun e w'=>e=.returned (.int .i64 2)∧Mst w' F m { t with over:=true }:=by
 have hfl:=flush_st w h
 have hrd:Hid (∀ w1:World,Mst w1 F m q→Calls Tryz.prog 159 #[.pointer (some ⟨m.mb,0,none⟩)] w1 fun e w'=>e=.returned (.tuple #[.slice none 0 0,.bool false])∧Mst w' F m t):=Lib.hid fun w1 h1=>by
  have:=mread_st rest ha w1 h1
  unfold ReadIn at this
  rw [hr] at this
  exact this
 clear h hr
 go_enter Tryz.func151,Tryz.ntmps151
 go_wp2_with fail
 refine hfl.mono ?_
 rintro e w1 ⟨rfl,hm1⟩
 have hrd1:=hrd.out w1 hm1
 clear hfl hm1
 go_wp2_with fail
 refine hrd1.mono ?_
 rintro e w2 ⟨rfl,hm2⟩
 have hf:Mst (w2.setCell ⟨m.mb,16,none⟩ (.bool true)) F m { t with over:=true }:=by
  obtain ⟨U,R,k,c,o,hm,hp,hh,h1,h2,h3,h4,h5,h6⟩:=hm2
  exact ⟨U,R,k,{ c with over:=true },o,hm.set 16 _ rfl,hp.stored 16 _,hh.stored 16 _,h1,h2,h3,h4,rfl,h6⟩
 have hc:(∃ b,w2.cell? ⟨m.mb,16,none⟩=some (.bool b))∧w2.frozen? ⟨m.mb,16,none⟩=false:=by
  obtain ⟨U,R,k,c,o,hm,-⟩:=hm2
  exact ⟨⟨c.over,Blk.cell hm.blk 16 rfl⟩,Blk.free hm.blk 16⟩
 obtain ⟨⟨b16,c16⟩,f16⟩:=hc
 have HF:=Lib.hid hf
 clear hrd1 hm2 hf
 go_wp2_with fail
 go_ret
 exact ⟨rfl,HF.out⟩
theorem nextMore_some (rest:List Bts) (ha:F.args=tagSed :: rest) {q t:Sd.St} {b:Bts} (x:Value) (w:World) (h:Mst w F m q) (hr:Sd.readL F.line q=(some b,t)) (hl:q.pat.length+1+b.length≤8192) :
  Calls Tryz.prog 151 #[.pointer (some ⟨m.mb,0,none⟩),x] w fun e w'=>e=.returned (.int .i64 0)∧Mst w' F m { t with pat:=q.pat ++ [10] ++ b,joined:=true }:=by
 have hfl:=flush_st w h
 have ht:t.hold=q.hold∧t.jumps=0∧t.done=q.done∧t.over=q.over∧t.opens=q.opens:=by
  unfold Sd.readL at hr
  split at hr
  ·cases hr
  ·split at hr
   ·cases hr
   ·simp only [Prod.mk.injEq,Option.some.injEq] at hr
    obtain ⟨-,rfl⟩:=hr
    exact ⟨rfl,rfl,rfl,rfl,rfl⟩
 have hrd:Hid (∀ w1:World,Mst w1 F m q→Calls Tryz.prog 159 #[.pointer (some ⟨m.mb,0,none⟩)] w1 fun e w'=>ReadIn F m q e w'):=Lib.hid fun w1 h1=>mread_st rest ha w1 h1
 have HT:=Lib.hid ht
 have HR:=Lib.hid hr
 clear h hr ht
 go_enter Tryz.func151,Tryz.ntmps151
 go_wp2_with fail
 refine hfl.mono ?_
 rintro e w1 ⟨rfl,hm1⟩
 have hrd1:=hrd.out w1 hm1
 unfold ReadIn at hrd1
 rw [HR.out] at hrd1
 clear hfl hm1
 go_wp2_with fail
 refine hrd1.mono ?_
 rintro e w2 ⟨v,rfl,U,R,k,c,o,hm,hv,hp,hh,h1,h2,h3,h4,h5,h6,h7,h8,h9,h10,h11,h12⟩
 have hs:=hm.set (c':={ c with joined:=true }) 9 (.bool true) rfl
 have c9:=Blk.cell hm.blk 9 (v:=.bool c.joined) rfl
 have f9:=Blk.free hm.blk 9
 have hv2:=hv.stored 9 (.bool true)
 have hp2:=hp.stored 9 (.bool true)
 have hh2:=hh.stored 9 (.bool true)
 generalize hw3:w2.setCell ⟨m.mb,9,none⟩ (.bool true)=w3 at *
 have d7:=Blk.cell hs.blk 7 (v:=c.pv) rfl
 obtain ⟨p,cp,hpv,-,-⟩:=hp2.bs
 obtain ⟨pv,cv,rfl,-,-⟩:=id hv2.bs
 have hj:=joinedBy_any (PatB U m) c.pv _ q.pat b w3 hp2 hv2 (by omega)
 have HSP:Hid (∀ (v:Value) (w4:World),w4.ownsRow w3.heap.size 5 1 v (q.pat ++ [10] ++ b).length ((q.pat ++ [10] ++ b).map u8V)→Below w3.heap.size w3 w4 →
   Calls Tryz.prog 216 #[.pointer (some ⟨m.mb,0,none⟩),v] w4 fun e w'=>e=.returned (.int .i64 0)∧Mst w' F m { t with pat:=q.pat ++ [10] ++ b,joined:=true }):=Lib.hid fun v w4 ho hb=>by
  obtain ⟨hm1,hv1⟩:=joined_own hs ho hb
  obtain ⟨t1,t2,t3,t4,t5⟩:=HT.out
  exact space_st (q:={ t with joined:=true }) w4 ⟨_,R,k,_,o,hm1,hv1,by rw [t1];exact (hh2.below hb).grow fun _ h=>.inl h,h1,by show c.jumps=t.jumps;rw [t2,h2];rfl,rfl,h4.trans t3.symm,h5.trans t4.symm,by show _=opV t.opens;rw [t5];exact h6,h7,h8,by rw [t1];exact h10,by show t.jumps≤2000;omega,h12⟩ (by simp;omega)
 rw [hpv] at d7 hj
 have HW3:=Lib.hid hw3
 clear hrd1 hm hv hp hh h1 h2 h3 h4 h5 h6 h7 h8 h9 h10 h11 h12 hs hv2 hp2 hh2 hpv hw3
 go_upto_region 8 with fail
 rw [HW3.out]
 clear c9 f9
 go_wp2_with fail
 refine hj.mono ?_
 rintro e w4 ⟨v,rfl,ho,hb⟩
 have hsp:=HSP.out v w4 ho hb
 clear hj ho hb
 go_wp2_with fail
 refine hsp.mono ?_
 rintro e w5 ⟨rfl,hm5⟩
 have HM5:=Lib.hid hm5
 clear hsp hm5
 go_wp2_with fail
 go_ret
 exact ⟨rfl,HM5.out⟩
end Go.Proofs.YtefpcacnblaokaaGreatDoor
