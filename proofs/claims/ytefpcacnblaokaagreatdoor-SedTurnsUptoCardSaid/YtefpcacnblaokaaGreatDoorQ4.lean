/-
  Texts of this seat put together: K8, App, K9, K10, K11, K12, Pr.
-/
import Derived.Test.YtefpcacnblaokaaGreatDoorQ3
import Derived.Deep.Upon
import Derived.Deep.MidRow

/-
  The walks of Fds, of set to nothing, of Free. Condition: the table has a source and two sinks.
-/
set_option maxRecDepth 100000
set_option maxHeartbeats 4000000
namespace Go.Proofs.YtefpcacnblaokaaGreatDoor
open Go.RowKit Go.Shelf Go.Maps
theorem info_int:(Tryz.prog.info? 3).map (fun i=>(i.zero,i.size,i.bytes))=some (some (.int .i64 0),1,8):=by kernel_rfl
def intV (i:Int):Value:=.int .i64 i
theorem setNil_any (tb k:Nat) (fd:Nat) (hfd:fd < 16) (ty:TypeId) (hty:Plain ty) (b:Nat) (w:World) (hk:w.cell? ⟨tb,0,none⟩=some (.pointer (some ⟨k,0,none⟩))) (hc:w.cell? ⟨tb,1+fd,none⟩=some (thV ty b)) (hf:w.frozen? ⟨tb,1+fd,none⟩=false) :
  Calls Tryz.prog 77 #[.pointer (some ⟨tb,0,none⟩),.int .i64 fd,.nilIface] w fun e w'=>(∃ v,e=.returned v)∧w'=w.setCell ⟨tb,1+fd,none⟩ .nilIface:=by
 have c:=fun w'=>left_any (some ⟨k,0,none⟩) ty hty b w'
 have hk2:(w.setCell ⟨tb,1+fd,none⟩ .nilIface).cell? ⟨tb,0,none⟩=some (.pointer (some ⟨k,0,none⟩)):=by
  exact (World.cell?_setCell_other w ⟨tb,1+fd,none⟩ ⟨tb,0,none⟩ _ (by simp)).trans hk
 unfold thV at *
 go_enter Tryz.func77,Tryz.ntmps77
 go_wp2_with fail
 refine (c _).mono ?_
 rintro e w1 ⟨⟨v,rfl⟩,rfl⟩
 go_wp2_with fail
 refine bodyPost_end (results_none rfl _ _ _) rfl ?_
 exact ⟨⟨_,rfl⟩,rfl⟩
def atArr (v0 v1 v2:Value) (i:Nat):Value:=if i=0 then v0 else if i=1 then v1 else if i=2 then v2 else .nilIface
theorem arr_at (v0 v1 v2:Value) (i:Nat) (hi:i < 16) (w:World) :
  (Instr.index 164 (.agg #[v0,v1,v2,.nilIface,.nilIface,.nilIface,.nilIface,.nilIface,.nilIface,.nilIface,.nilIface,.nilIface,.nilIface,.nilIface,.nilIface,.nilIface]) (.int .i64 i)).run Tryz.prog w=.ok (atArr v0 v1 v2 i) w:=by
 obtain rfl | rfl | rfl | rfl | rfl | rfl | rfl | rfl | rfl | rfl | rfl | rfl | rfl | rfl | rfl | rfl:i=0∨i=1∨i=2∨i=3∨i=4∨i=5∨i=6∨i=7∨i=8∨i=9∨i=10∨i=11∨i=12∨i=13∨i=14∨i=15:=by omega
 all_goals kernel_rfl
theorem fds_push {w wr w5:World} {base:Nat} {v v':Value} {k:Nat} (hk:k < 3)
  (h2:wr.ownsRow base 3 1 v (min k 3) ((([0,1,2]:List Int).take k).map intV)) (hb:Below base w wr) (hB:base≤wr.heap.size) {o:Obj}
  (hown:w5.ownsRow base 3 1 v' (min k 3+1) ((([0,1,2]:List Int).take k).map intV ++ [.int .i64 (k:Nat)])) (hg:(wr.alloc o).grownBy w5 v.ownBlock) :
  w5.ownsRow base 3 1 v' (min (k+1) 3) ((([0,1,2]:List Int).take (k+1)).map intV)∧Below base w w5:=by
 refine ⟨?_,(hb.alloc hB o).grown hg (by simp;omega) fun j hj=>(h2.lt j hj).1⟩
 obtain rfl | rfl | rfl:k=0∨k=1∨k=2:=by omega
 all_goals simpa [intV] using hown
theorem fds_any (tb k:Nat) (t0 t1 t2:TypeId) (b0 b1 b2:Nat) (w:World) (ht:TabAt w tb k (thV t0 b0) (thV t1 b1) (thV t2 b2)) :
  Calls Tryz.prog 187 #[.pointer (some ⟨tb,0,none⟩)] w fun e w'=>∃ v,e=.returned v∧w'.ownsRow w.heap.size 3 1 v 3 (([0,1,2]:List Int).map intV)∧Below w.heap.size w w':=by
 have a1:=ht.cell 1 rfl
 have a2:=ht.cell 2 rfl
 have a3:=ht.cell 3 rfl
 have a4:=ht.cell 4 rfl
 have a5:=ht.cell 5 rfl
 have a6:=ht.cell 6 rfl
 have a7:=ht.cell 7 rfl
 have a8:=ht.cell 8 rfl
 have a9:=ht.cell 9 rfl
 have a10:=ht.cell 10 rfl
 have a11:=ht.cell 11 rfl
 have a12:=ht.cell 12 rfl
 have a13:=ht.cell 13 rfl
 have a14:=ht.cell 14 rfl
 have a15:=ht.cell 15 rfl
 have a16:=ht.cell 16 rfl
 clear ht
 obtain ⟨i0,hi,hz0,hz1,hz2⟩:=info_parts info_int
 unfold thV at *
 go_enter Tryz.func187,Tryz.ntmps187
 go_wp2_with fail
 go_loopw [3,4,5,10] (fun v _x4 _x5 i wr=>∃ k:Nat,k≤16∧i=.int .i64 k∧wr.ownsRow w.heap.size 3 1 v (min k 3) ((([0,1,2]:List Int).take k).map intV)∧Below w.heap.size w wr) (fun _ _ _ i _=>16 - (intOf i).toNat)
 case atStart=>exact ⟨0,Nat.zero_le _,rfl,World.ownsRow_nil _ _ _ _,Below.refl _ _⟩
 case round=>
  obtain ⟨k,hkl,rfl,hown,hbw⟩:=hrel
  have hzw:=hbw.size
  by_cases h16:k=16
  ·subst h16
   go_wp2_with fail
   go_ret
   exact ⟨_,rfl,hown,hbw⟩
  have hk16:k < 16:=by omega
  by_cases h3:k < 3
  ·obtain ⟨ty,b,hx⟩:∃ ty b,atArr (thV t0 b0) (thV t1 b1) (thV t2 b2) k=thV ty b:=by
    obtain rfl | rfl | rfl:k=0∨k=1∨k=2:=by omega
    ·exact ⟨t0,b0,rfl⟩
    ·exact ⟨t1,b1,rfl⟩
    ·exact ⟨t2,b2,rfl⟩
   have hidx:=arr_at (thV t0 b0) (thV t1 b1) (thV t2 b2) k hk16
   rw [hx] at hidx
   unfold thV at hidx
   clear hx
   go_wp2_with (at_builtin;refine wpList_append_own _ rfl _ _ 30 rfl w.heap.size 3 i0 (.int .i64 0) 1 8 Tryz.underlying30 hi hz0 hz1 hz2 rfl (by decide) _ _ _ rfl (hown.alloc _) ⟨wr.heap.size,0,none⟩ 1 1 [.int .i64 k] rfl rfl (cell_one_new _ _ _) (by simp [Value.oneCell']) (by unfold maxLen;omega) (by omega) (by simp;omega) ?_;intro v' w5 hown' hgrow _)
   obtain ⟨hown5,hbw5⟩:=fds_push h3 hown hbw hzw hown' hgrow
   go_roundw
   case rel=>exact ⟨k+1,by omega,by go_num,hown5,hbw5⟩
   case measure=>simp [intOf];omega
  ·have e1:min k 3=min (k+1) 3:=by omega
   have e2:([0,1,2]:List Int).take k=([0,1,2]:List Int).take (k+1):=by rw [List.take_of_length_le (by simp;omega),List.take_of_length_le (by simp;omega)]
   rw [e1,e2] at hown
   have HO:=Lib.hid hown
   clear hown
   have hidx:=arr_at (thV t0 b0) (thV t1 b1) (thV t2 b2) k hk16
   rw [show atArr (thV t0 b0) (thV t1 b1) (thV t2 b2) k=.nilIface by unfold atArr;rw [if_neg (by omega),if_neg (by omega),if_neg (by omega)]] at hidx
   unfold thV at hidx
   go_wp2_with fail
   go_roundw
   case rel=>exact ⟨k+1,by omega,by go_num,HO.out,hbw⟩
   case measure=>simp [intOf];omega
end Go.Proofs.YtefpcacnblaokaaGreatDoor

/-
  append of bytes onto a slice of one's own, whatever is appended lies where it may. Condition: the bytes are known, in memory.
-/
set_option maxRecDepth 100000
namespace Go.Proofs.YtefpcacnblaokaaGreatDoor
open Go.RowKit Go.Shelf Go.Maps
theorem append_bytes {ops:Array Oper} {rest:List Oper} {o:Oper} {a:Act} {w:World} {Q:Exit→Act→World→Prop} (hgd:o.guard=none) (s x:Operand)
  (ho:o.op=.call { callee:=.builtin .append,args:=#[s,x],argTypes:=#[22,22] }) (base:Nat) (v:Value) (n:Nat) (xs:List Value) (hs:a.eval s=v) (hown:w.ownsRow base 5 1 v n xs)
  (xp:Option Addr) (xb:Bts) (c:Nat) (hx:a.eval x=.slice xp xb.length c) (hbs:Bs w xp xb) (h63:n+xb.length≤4294967296) (hbase:base≤w.heap.size)
  (h:∀ v' w',w'.ownsRow base 5 1 v' (n+xb.length) (xs ++ xb.map u8V)→w.grownBy w' v.ownBlock→(v'.ownBlock=v.ownBlock∨v'.ownBlock=some w.heap.size)→wpList Tryz.prog ops Q rest (a.put o.dst v') w'):wpList Tryz.prog ops Q (o :: rest) a w:=by
 obtain ⟨i0,hi,hz0,hz1,hz2⟩:=info_parts info_byte
 have own (ad:Addr) (hxp:xp=some ad) (hc:∀ j u,(xb.map u8V)[j]?=some u→w.cell? (ad.add j)=some u):wpList Tryz.prog ops Q (o :: rest) a w:=by
  subst hxp
  exact wpList_append_own_at w hgd s x _ ho base 5 i0 (.int .u8 0) 1 1 Tryz.underlying22 hi hz0 hz1 hz2 rfl (by decide) v n xs hs hown ad xb.length c (xb.map u8V) hx (by simp) hc (by simp [u8V,Value.oneCell']) (by unfold maxLen;omega) (by omega) hbase fun v' w' h1 h2 _ h4=>h v' w' h1 h2 h4
 cases xb with
 | nil=>
  cases xp with
  | some ad=>exact own ad rfl fun j u hu=>by simp at hu
  | none=>
   have hsrc:Src Tryz.prog i0.size 22 (.slice none 0 c) 0 [] w:=Src.ofNil w Tryz.underlying22 c
   have hle:∃ bb sl sc,v=.slice bb sl sc∧sl≤sc:=by
    rcases hown.2 with ⟨h1,-⟩ | ⟨g,cap,cur,e,-,-,hc,-⟩
    ·exact ⟨_,_,_,h1,Nat.le_refl _⟩
    ·exact ⟨_,_,_,e,hc⟩
   obtain ⟨bb,sl,sc,rfl,hle⟩:=hle
   have hr:=run_append_nothing (P:=Tryz.prog) w 22 22 o.type 5 i0 Tryz.underlying22 hi bb sl sc hle (.slice none 0 c) hsrc
   refine wpList_plain hgd fun K hK=>?_
   unfold Oper.wp execOp
   have hx':a.eval x=.slice none 0 c:=hx
   simp only [ho,resolve,invoke,builtin,Sem.run_bind,Sem.run_pure,Result.andThen_ok,List.map_toArray,List.map_cons,List.map_nil,hs,hx',hr]
   exact hK _ _ (h _ _ (by simpa using hown) ⟨rfl,rfl,rfl,Nat.le_refl _,fun _ _ _=>rfl⟩ (.inl rfl))
 | cons z r=>
  obtain ⟨bb,bo,hp,hc⟩:=hbs (by simp)
  refine own _ hp fun j u hu=>?_
  rw [List.getElem?_map] at hu
  have hj:j < (z :: r).length:=by
   rcases Nat.lt_or_ge j (z :: r).length with h1 | h1
   ·exact h1
   ·rw [List.getElem?_eq_none h1] at hu;cases hu
  rw [List.getElem?_eq_getElem hj] at hu
  simp only [Option.map_some,Option.some.injEq] at hu
  have:=hc j hj
  rw [show ((⟨bb,bo,none⟩:Addr).add j)=⟨bb,bo+j,none⟩ by simp only [Addr.add];split <;> simp_all,this,← hu]
  simp [u8V,List.getD_eq_getElem?_getD,List.getElem?_eq_getElem hj]
theorem bs_own {w:World} {base:Nat} {v:Value} {b:Bts} {n:Nat} (h:w.ownsRow base 5 1 v n (b.map u8V)) (hn:n=b.length):∃ p c,v=.slice p b.length c∧Bs w p b:=by
 subst hn
 rcases h.2 with ⟨h1,h2⟩ | ⟨g,cap,cur,e,-⟩
 ·have:b=[]:=List.length_eq_zero_iff.1 h2
  subst this
  exact ⟨none,0,h1,Bs.nil _ _⟩
 ·refine ⟨_,_,e,fun _=>⟨g,0,rfl,fun i hi=>?_⟩⟩
  have:=h.cells (g:=g) (by rw [e];rfl) i (u8V (b.getD i 0)) (by rw [List.getElem?_map,List.getElem?_eq_getElem hi];simp [List.getD_eq_getElem?_getD,List.getElem?_eq_getElem hi])
  rw [show ((⟨g,0,none⟩:Addr).add i)=⟨g,0+i,none⟩ by simp only [Addr.add];split <;> simp_all] at this
  exact this
end Go.Proofs.YtefpcacnblaokaaGreatDoor

/-
  The walks of has, fault (there is none), short, land (at a sink), Write (at a sink), Read (from a source). Conditions: lengths.
-/
set_option maxRecDepth 100000
set_option maxHeartbeats 2000000
namespace Go.Proofs.YtefpcacnblaokaaGreatDoor
open Go.RowKit Go.Shelf Go.Maps
theorem has_any (tb:Nat) (fd:Nat) (hfd:fd < 16) (x:Value) (w:World) (hc:w.cell? ⟨tb,1+fd,none⟩=some x) (_hx:x.oneCell'=true) :
  Calls Tryz.prog 287 #[.pointer (some ⟨tb,0,none⟩),.int .i64 fd] w fun e w'=>e=.returned x∧w'=w:=by
 go_enter Tryz.func287,Tryz.ntmps287
 go_wp2_with fail
 go_ret
 exact ⟨rfl,rfl⟩
def noFault:Value:=.agg #[.int .i64 0,.int .i64 0]
theorem fault_none (k t last m:Nat) (w:World) (hk:KernAt w k t last m):Calls Tryz.prog 289 #[.pointer (some ⟨k,0,none⟩)] w fun e w'=>e=.returned noFault∧Below w.heap.size w w':=by
 have q2:=new_cell (hk.cell 2 (v:=.slice none 0 0) rfl) (.cells #[.int .i64 0,.int .i64 0] 150)
 have q3:=new_cell (hk.cell 3 (v:=.int .i64 0) rfl) (.cells #[.int .i64 0,.int .i64 0] 150)
 clear hk
 unfold noFault
 go_enter Tryz.func289,Tryz.ntmps289
 go_wp2_with fail
 go_region
 have hn:=Blk.drew (Blk.new w #[.int .i64 0,.int .i64 0] 150)
 have c0:=hn.cell 0 rfl
 have c1:=hn.cell 1 rfl
 have f0:=hn.free 0
 have f1:=hn.free 1
 go_wp2_with fail
 refine bodyPost_ret (v:=.agg #[.int .i64 0,.int .i64 0]) ?_ rfl ⟨rfl,((Below.refl w.heap.size w).alloc (Nat.le_refl _) _).drew⟩
 simp [results,Tryz.results289,go_sem,c0,c1]
theorem short_none (n:Int) (w:World):Calls Tryz.prog 290 #[.int .i64 n,noFault] w fun e w'=>e=.returned (.int .i64 n)∧Below w.heap.size w w':=by
 unfold noFault
 go_enter Tryz.func290,Tryz.ntmps290
 go_wp2_with fail
 have hn:=Blk.new w #[.int .i64 0,.int .i64 0] 150
 have c0:=hn.cell 0 (v:=.int .i64 0) rfl
 go_wp2_with fail
 go_ret
 exact ⟨rfl,(Below.refl _ _).alloc (Nat.le_refl _) _⟩
theorem land_sink (k:Option Addr) (b:Nat) (v:Value) (out:Bts) (q:Option Addr) (xs:Bts) (c:Nat) (w:World) (hb:Blk w b #[v] 178) (ho:w.ownsRow 0 5 1 v out.length (out.map u8V)) (hx:Bs w q xs) (h0:xs≠[]) (hv:v.ownBlock≠some b)
  (hbig:out.length+xs.length≤4294967296) :
  Calls Tryz.prog 291 #[.pointer k,thV 177 b,.slice q xs.length c] w fun e w'=>(∃ u,e=.returned u)∧∃ v',Blk w' b #[v'] 178∧w'.ownsRow 0 5 1 v' (out ++ xs).length ((out ++ xs).map u8V)∧(v'.ownBlock=v.ownBlock∨v'.ownBlock=some w.heap.size)∧Kept (fun j=>j=b∨v.ownBlock=some j) w w':=by
 have h5:=ta_sink_sink
 have hblt:=hb.lt
 obtain ⟨z,hz⟩:∃ z,xs.length=z+1:=⟨xs.length - 1,by have:=List.length_pos_iff.2 h0;omega⟩
 have c0:=hb.cell 0 (v:=v) rfl
 have hsv:∃ p n c,v=.slice p n c:=by
  rcases ho.2 with ⟨h1,h2⟩ | ⟨g,cap,cur,e,-⟩
  ·exact ⟨_,_,_,h1⟩
  ·exact ⟨_,_,_,e⟩
 obtain ⟨p0,n0,k0,rfl⟩:=hsv
 unfold thV at *
 go_enter Tryz.func291,Tryz.ntmps291
 go_wp2_with (refine append_bytes rfl _ _ rfl 0 _ _ _ rfl ho q xs c rfl hx hbig (Nat.zero_le _) ?_;intro v' w1 hown1 hg1 hob1;rw [hz,← Nat.add_assoc] at hown1;obtain ⟨g1,cap1,rfl⟩:=own_slice hown1;have hb1:Blk w1 b #[.slice p0 n0 k0] 178:=(hg1.block b hblt (fun e=>hv e.symm)).trans hb;have d0:=hb1.cell 0 rfl;have e0:=hb1.free 0)
 refine bodyPost_end (results_none rfl _ _ _) rfl ?_
 refine ⟨⟨_,rfl⟩,_,hb1.set 0 _, ?_,hob1, ?_⟩
 ·have hl:(out ++ xs).length=out.length+z+1:=by rw [List.length_append,hz];omega
  rw [hl,List.map_append]
  refine own_kept hown1 ((Kept.refl (fun j=>j=b) _).setCell (.inl rfl) 0 _) fun j hj=>?_
  rintro rfl
  rcases hob1 with h | h
  ·exact hv (h.symm.trans hj)
  ·rw [h] at hj
   have:=Option.some.inj hj
   omega
 ·have hk1:Kept (fun j=>j=b∨(Value.slice p0 n0 k0).ownBlock=some j) w w1:=⟨hg1.os,hg1.tape,hg1.output,hg1.size,fun j hj hs=>hg1.block j hj fun e=>hs (.inr e.symm)⟩
  exact hk1.setCell (.inl (.inl rfl)) 0 _
end Go.Proofs.YtefpcacnblaokaaGreatDoor

/-
  The walks of Table.Write at a sink, Table.Read from a source. Conditions: lengths.
-/
set_option maxRecDepth 100000
set_option maxHeartbeats 4000000
namespace Go.Proofs.YtefpcacnblaokaaGreatDoor
open Go.RowKit Go.Shelf Go.Maps
theorem tabWrite_any (tb fd k t last m:Nat) (hfd:fd < 16) (b:Nat) (v:Value) (out:Bts) (q:Option Addr) (xs:Bts) (c:Nat) (w:World) (hk:KernAt w k t last m) (hc0:w.cell? ⟨tb,0,none⟩=some (.pointer (some ⟨k,0,none⟩))) (hc:w.cell? ⟨tb,1+fd,none⟩=some (thV 177 b))
  (hb:Blk w b #[v] 178) (ho:w.ownsRow 0 5 1 v out.length (out.map u8V)) (hx:Bs w q xs) (h0:xs≠[]) (hv:v.ownBlock≠some b) (hbig:out.length+xs.length≤4294967296) (hcap:xs.length≤c) (hbt:b≠tb) (hvt:v.ownBlock≠some tb) :
  Calls Tryz.prog 253 #[.pointer (some ⟨tb,0,none⟩),.int .i64 fd,.slice q xs.length c] w fun e w'=>e=.returned (.tuple #[.int .i64 xs.length,.int .i64 0])∧∃ v',Blk w' b #[v'] 178∧w'.ownsRow 0 5 1 v' (out ++ xs).length ((out ++ xs).map u8V)∧(∀ j,v'.ownBlock=some j→v.ownBlock=some j∨w.heap.size≤j)∧Kept (fun j=>j=b∨v.ownBlock=some j) w w':=by
 have h5:=ta_sink_sink
 have hh:=has_any tb fd hfd (thV 177 b) w hc rfl
 have hpos:0 < xs.length:=List.length_pos_iff.2 h0
 have hn0:((xs.length:Int) == 0)=false:=by simp;omega
 have hblt:=hb.lt
 have htl:=World.block_lt_of_cell? _ _ hc0
 have hvl:∀ j,v.ownBlock=some j→j < w.heap.size:=fun j hj=>(ho.lt j hj).2
 obtain ⟨bx,ox,rfl,hxc⟩:=hx hpos
 have hxl:bx < w.heap.size:=World.block_lt_of_cell? _ _ (hxc 0 hpos)
 have HC:=Lib.hid hxc
 have HX0:=Lib.hid hx
 have HK:=Lib.hid hk
 have HB:=Lib.hid hb
 have HO:=Lib.hid ho
 clear hxc hx hk hb ho
 have hfn:=fault_none k t last m w HK.out
 have hsn:=short_none
 unfold thV at *
 unfold noFault at hfn hsn
 go_enter Tryz.func253,Tryz.ntmps253
 go_wp2_with fail
 refine hh.mono ?_
 rintro e w' ⟨rfl,rfl⟩
 clear hh
 go_wp2_with fail
 refine hfn.mono ?_
 rintro e w1 ⟨rfl,hb1⟩
 have hb2:Below w'.heap.size w' (w1.alloc (.cells #[.int .i64 0,.int .i64 0] 150)):=hb1.alloc hb1.size _
 have hn:=Blk.new w1 #[.int .i64 0,.int .i64 0] 150
 have n0:=hn.cell 0 (v:=.int .i64 0) rfl
 have n1:=hn.cell 1 (v:=.int .i64 0) rfl
 have f0:=hn.free 0
 have f1:=hn.free 1
 have HB2:=Lib.hid hb2
 clear hn hb2
 go_wp2_with fail
 refine (hsn _ _).mono ?_
 rintro e w3 ⟨rfl,hb3⟩
 have hb4:=HB2.out.trans (hb3.mono HB2.out.size)
 have t3:=(hb4.cell (p:=⟨tb,0,none⟩) htl).trans hc0
 have hB3:Blk w3 b #[v] 178:=HB.out.keep hb4 hblt
 have hO3:w3.ownsRow 0 5 1 v out.length (out.map u8V):=own_kept HO.out (Kept.of_below (S:=fun _=>False) hb4) fun _ _ h=>h
 have hX3:Bs w3 (some ⟨bx,ox,none⟩) xs:=HX0.out.below hb4 (Nat.le_refl _)
 have HL:=fun W (h:Below w3.heap.size w3 W)=>land_sink (some ⟨k,0,none⟩) b v out (some ⟨bx,ox,none⟩) xs c W (hB3.keep h hB3.lt) (own_kept hO3 (Kept.of_below (S:=fun _=>False) h) fun _ _ h=>h) (hX3.below h (Nat.le_refl _)) h0 hv hbig
 have HLL:=Lib.hid HL
 have HB4:=Lib.hid hb4
 have HX3:=Lib.hid hX3
 clear HL hB3 hO3 hX3 hb4 hb3
 unfold thV at HLL
 have hle:(xs.length:Int)≤c:=by omega
 have hle0:(0:Int)≤xs.length:=by omega
 go_wp2_with fail
 go_region_held3 (fun w'=>w'.cell? ⟨tb,0,none⟩=some (.pointer (some ⟨k,0,none⟩))) (first | go_keep | exact HT4.out)
  ((go_at_call 291;refine (HLL.out _ ((Below.refl _ _).drew)).mono ?_;rintro e w4 ⟨⟨u,rfl⟩,v',hB5,hO5,hv5,hK5⟩;have HT4:=Lib.hid (show w4.cell? ⟨tb,0,none⟩=some (.pointer (some ⟨k,0,none⟩)) from (World.cell?_of_block (hK5.block tb (World.block_lt_of_cell? _ _ t3) (by rintro (h | h);exact hbt h.symm;exact hvt h))).trans t3);have HY1:=Lib.hid hB5;have HY2:=Lib.hid hO5;have HY3:=Lib.hid hv5;have HY4:=Lib.hid hK5;clear hB5 hO5 hv5 hK5))
 go_wp2_with fail
 go_ret2
 have hk4:Kept (fun j=>j=b∨v.ownBlock=some j) w' w4:=((Kept.of_below HB4.out).trans (Kept.of_below (below_drew2 w3))).trans HY4.out
 refine ⟨rfl,v',HY1.out,HY2.out, ?_,hk4⟩
 intro j hj
 rcases HY3.out with h | h
 ·exact .inl (h ▸ hj)
 ·rw [h] at hj
  have:=Option.some.inj hj
  have:=HB4.out.size
  right
  simp at *
  omega
end Go.Proofs.YtefpcacnblaokaaGreatDoor

/-
  The walk of Table.Read from a source. Conditions: lengths; at least one byte is asked for.
-/
set_option maxRecDepth 100000
set_option maxHeartbeats 4000000
namespace Go.Proofs.YtefpcacnblaokaaGreatDoor
open Go.RowKit Go.Shelf Go.Maps
theorem ta_dir_source (v:Value) (w:World):(Instr.typeAssert (.iface 173 v) 162 398 true).run Tryz.prog w=.ok (.tuple #[.agg #[],.bool false]) w:=by kernel_rfl
theorem ta_source_source (v:Value) (w:World):(Instr.typeAssert (.iface 173 v) 162 173 true).run Tryz.prog w=.ok (.tuple #[v,.bool true]) w:=by kernel_rfl
theorem tabRead_any (tb fd k t last m:Nat) (hfd:fd < 16) (b:Nat) (N:Nat→Prop) (inp:Bts) (most:Nat) (hm:1≤most) (hm2:most < 9223372036854775808) (w:World) (hk:KernAt w k t last m) (hc0:w.cell? ⟨tb,0,none⟩=some (.pointer (some ⟨k,0,none⟩))) (hc:w.cell? ⟨tb,1+fd,none⟩=some (thV 173 b))
  (hs:SrcAt w N b inp) (hNb:¬ N b) (hbig:inp.length≤4294967296) :
  Calls Tryz.prog 296 #[.pointer (some ⟨tb,0,none⟩),.int .i64 fd,.int .i64 most] w fun e w'=>∃ v,e=.returned (.tuple #[v,.int .i64 0])∧Sl w' (fun g=>w.heap.size≤g) v (inp.take most)∧SrcAt w' N b (inp.drop most)∧Kept (fun j=>j=b) w w':=by
 have h5:=ta_dir_source
 have h6:=ta_source_source
 have hh:=has_any tb fd hfd (thV 173 b) w hc rfl
 have hm1:decide ((1:Int)≤most)=true:=by simp;omega
 have hm3:decide ((most:Int) < 1)=false:=by simp;omega
 obtain ⟨v,hb,hsl⟩:=hs
 have hblt:=hb.lt
 have htl:=World.block_lt_of_cell? _ _ hc0
 have hfn:=fault_none k t last m w hk
 have hsn:=short_none
 unfold thV at *
 unfold noFault at hfn hsn
 rcases hsl with ⟨rfl,rfl⟩ | ⟨g,o,c,rfl,hcap,hg,hN,hcell⟩
 ·have hmin:min (most:Int) 0=0:=by omega
  have HB:=Lib.hid hb
  have HK:=Lib.hid hk
  clear hb hk
  go_enter Tryz.func296,Tryz.ntmps296
  go_wp2_with fail
  refine hh.mono ?_
  rintro e w' ⟨rfl,rfl⟩
  clear hh
  go_wp2_with fail
  refine hfn.mono ?_
  rintro e w1 ⟨rfl,hb1⟩
  have hb2:Below w'.heap.size w' (w1.alloc (.cells #[.int .i64 0,.int .i64 0] 150)):=hb1.alloc hb1.size _
  have hn:=Blk.new w1 #[.int .i64 0,.int .i64 0] 150
  have n0:=hn.cell 0 (v:=.int .i64 0) rfl
  have n1:=hn.cell 1 (v:=.int .i64 0) rfl
  have f0:=hn.free 0
  have f1:=hn.free 1
  have hB2:=HB.out.keep hb2 hblt
  have c0:=hB2.cell 0 (v:=.slice none 0 0) rfl
  have HB2:=Lib.hid hB2
  have HBB:=Lib.hid hb2
  have hlb:=hb1.size
  clear hb2 hB2
  go_wp2_with fail
  obtain ⟨w2,hw2⟩:∃ w2,(w1.alloc (.cells #[.int .i64 0,.int .i64 0] 150))=w2:=⟨_,rfl⟩
  rw [hw2] at n0 n1 c0 HB2 HBB hn ⊢
  have hsz:w1.heap.size < w2.heap.size:=hn.lt
  have HN:=Lib.hid hn
  clear hn f0 f1 hw2
  go_region_held3 (fun w'=>w'.cell? ⟨b,0,none⟩=some (.slice none 0 0)∧w'.cell? ⟨w1.heap.size,0,none⟩=some (.int .i64 0)∧w'.cell? ⟨w1.heap.size,1,none⟩=some (.int .i64 0)) (first | go_keep | (exact ⟨HT0.out,HT1.out,HT2.out⟩))
   ((go_at_call 290;refine (hsn _ _).mono ?_;rintro e w4 ⟨rfl,hb4⟩;have HT0:=Lib.hid ((hb4.cell (p:=⟨b,0,none⟩) HB2.out.lt).trans c0);have HT1:=Lib.hid ((hb4.cell (p:=⟨w1.heap.size,0,none⟩) hsz).trans n0);have HT2:=Lib.hid ((hb4.cell (p:=⟨w1.heap.size,1,none⟩) hsz).trans n1);have HB4:=Lib.hid hb4;clear hb4))
  have HB5:=Lib.hid (HB2.out.drew.keep HB4.out HB2.out.drew.lt)
  have h00:=HT0.out
  go_wp2_with fail
  refine (Any.bytes_Clone_nil Tryz.laysSlK4 0 0 _).mono ?_
  rintro e w5 ⟨rfl,rfl⟩
  have z0:=HB5.out.free 0
  go_wp2_with fail
  go_ret2
  refine ⟨_,rfl,.inl ⟨by simp,rfl⟩,⟨_,HB5.out.set 0 (.slice none 0 0),.inl ⟨by simp,rfl⟩⟩, ?_⟩
  exact Kept.setCell (S:=fun j=>j=b) ((Kept.of_below HBB.out).trans ((Kept.of_below (below_drew2 w2)).trans (Kept.of_below HB4.out))) (.inl rfl) 0 _
 ·obtain ⟨n,hn,hmin⟩:∃ n:Nat,n=min most inp.length∧min (most:Int) inp.length=n:=⟨_,rfl,by omega⟩
  have hnl0:n≤inp.length:=by omega
  have hnl:(n:Int)≤c:=by omega
  have hn0:(0:Int)≤n:=by omega
  have hnn:(n:Int)≤inp.length:=by omega
  have HB:=Lib.hid hb
  have HK:=Lib.hid hk
  have HC:=Lib.hid hcell
  have HN:=Lib.hid hn
  clear hb hk hcell hn
  go_enter Tryz.func296,Tryz.ntmps296
  go_wp2_with fail
  refine hh.mono ?_
  rintro e w' ⟨rfl,rfl⟩
  clear hh
  go_wp2_with fail
  refine hfn.mono ?_
  rintro e w1 ⟨rfl,hb1⟩
  have hb2:Below w'.heap.size w' (w1.alloc (.cells #[.int .i64 0,.int .i64 0] 150)):=hb1.alloc hb1.size _
  have hN1:=Blk.new w1 #[.int .i64 0,.int .i64 0] 150
  have n0:=hN1.cell 0 (v:=.int .i64 0) rfl
  have n1:=hN1.cell 1 (v:=.int .i64 0) rfl
  have f0:=hN1.free 0
  have f1:=hN1.free 1
  have hB2:=HB.out.keep hb2 hblt
  have c0:=hB2.cell 0 (v:=.slice (some ⟨g,o,none⟩) inp.length c) rfl
  have HB2:=Lib.hid hB2
  have HBB:=Lib.hid hb2
  have hlb:=hb1.size
  clear hb2 hB2
  go_wp2_with fail
  obtain ⟨w2,hw2⟩:∃ w2,(w1.alloc (.cells #[.int .i64 0,.int .i64 0] 150))=w2:=⟨_,rfl⟩
  rw [hw2] at n0 n1 c0 HB2 HBB hN1 ⊢
  have hsz:w1.heap.size < w2.heap.size:=hN1.lt
  clear hN1 f0 f1 hw2
  go_region_held3 (fun w'=>w'.cell? ⟨b,0,none⟩=some (.slice (some ⟨g,o,none⟩) inp.length c)∧w'.cell? ⟨w1.heap.size,0,none⟩=some (.int .i64 0)∧w'.cell? ⟨w1.heap.size,1,none⟩=some (.int .i64 0)) (first | go_keep | (exact ⟨HT0.out,HT1.out,HT2.out⟩))
   ((go_at_call 290;refine (hsn _ _).mono ?_;rintro e w4 ⟨rfl,hb4⟩;have HT0:=Lib.hid ((hb4.cell (p:=⟨b,0,none⟩) HB2.out.lt).trans c0);have HT1:=Lib.hid ((hb4.cell (p:=⟨w1.heap.size,0,none⟩) hsz).trans n0);have HT2:=Lib.hid ((hb4.cell (p:=⟨w1.heap.size,1,none⟩) hsz).trans n1);have HB4:=Lib.hid hb4;clear hb4))
  have HB5:=Lib.hid (HB2.out.drew.keep HB4.out HB2.out.drew.lt)
  have hb6:Below w'.heap.size w' w4:=HBB.out.trans (((below_drew2 w2).mono HBB.out.size).trans (HB4.out.mono (by have:=HBB.out.size;simpa using this)))
  have hcell4:∀ i,i < inp.length→w4.cell? ⟨g,o+i,none⟩=some (.int .u8 (inp.getD i 0).toNat):=fun i hi=>(hb6.cell (p:=⟨g,o+i,none⟩) hg).trans (HC.out i hi)
  have hg4:g < w4.heap.size:=Nat.lt_of_lt_of_le hg hb6.size
  have hbs:Bs w4 (some ⟨g,o,none⟩) (inp.take n):=fun _=>⟨g,o,rfl,fun i hi=>by
   have hi':i < n:=by simp at hi;omega
   rw [getD_take _ _ _ hi']
   exact hcell4 i (by omega)⟩
  have hcl:=clone_bytes (some ⟨g,o,none⟩) (inp.take n) c w4 hbs (by simp;omega)
  rw [show (inp.take n).length=n by simp;omega] at hcl
  have HS4:=Lib.hid (Sl.part (N:=N) (c:=c - n) hcell4 hg4 hN n (inp.length - n) (by omega) (by omega))
  have H6:=Lib.hid hb6
  have h00:=HT0.out
  clear hcell4 hbs hb6
  go_wp2_with fail
  refine hcl.mono ?_
  rintro e w5 ⟨v5,rfl,ho5,hb5⟩
  have hB7:=HB5.out.keep hb5 HB5.out.lt
  have c7:=hB7.cell 0 (v:=.slice (some ⟨g,o,none⟩) inp.length c) rfl
  have z7:=hB7.free 0
  have H7:=Lib.hid hB7
  have H8:=Lib.hid ho5
  have H9:=Lib.hid hb5
  clear hB7 ho5 hb5 hcl
  have ht:inp.take most=inp.take n:=by
   have:=HN.out
   rcases Nat.le_total most inp.length with h | h
   ·rw [show n=most by omega]
   ·rw [show n=inp.length by omega,List.take_of_length_le h,List.take_of_length_le (Nat.le_refl _)]
  have hd:inp.drop most=(inp.drop n).take (inp.length - n):=by
   have:=HN.out
   rw [List.take_of_length_le (by simp)]
   rcases Nat.le_total most inp.length with h | h
   ·rw [show n=most by omega]
   ·rw [show n=inp.length by omega,List.drop_of_length_le h,List.drop_of_length_le (Nat.le_refl _)]
  have hk5:Kept (fun j=>j=b) w' w5:=(Kept.of_below H6.out).trans (Kept.of_below H9.out)
  have hl:(inp.take n).length=n:=by simp;omega
  have FIN:∀ vv,Sl w5 N vv ((inp.drop n).take (inp.length - n))→∃ v,Ending.returned (.tuple #[v5,.int .i64 0])=.returned (.tuple #[v,.int .i64 0])∧Sl (w5.setCell ⟨b,0,none⟩ vv) (fun g=>w'.heap.size≤g) v (inp.take most)∧SrcAt (w5.setCell ⟨b,0,none⟩ vv) N b (inp.drop most)∧Kept (fun j=>j=b) w' (w5.setCell ⟨b,0,none⟩ vv):=by
   intro vv hvv
   rw [ht,hd]
   refine ⟨v5,rfl, ?_,⟨_,H7.out.set 0 _, ?_⟩,hk5.setCell (.inl rfl) 0 _⟩
   ·have h:=Sl.own (xs:=inp.take n) (by rw [hl];exact H8.out)
    refine (h.mono (fun g hg hN=>?_)).kept ((Kept.refl (fun j=>j=b) _).setCell (.inl rfl) 0 _) fun g hg hN=>?_
    ·have:=H6.out.size;have:=hN.1;exact (by omega:w'.heap.size≤g)
    ·rintro rfl;exact absurd hblt (by simpa using hN)
   ·refine hvv.kept ((Kept.refl (fun j=>j=b) _).setCell (.inl rfl) 0 _) fun g hg hN=>?_
    rintro rfl
    exact hNb hN
  have HF:=Lib.hid FIN
  have H10:=Lib.hid (HS4.out.below H9.out)
  have hg5:g < w5.heap.size:=Nat.lt_of_lt_of_le hg4 H9.out.size
  have hcap0:=hcap
  clear ht hd hk5 FIN hl
  go_wp2_with fail
  ·rename_i hcn
   go_ret2
   refine HF.out _ (.inr ⟨g,o,0, ?_, ?_,hg5,hN, ?_⟩)
   ·simp
   ·simp;omega
   ·intro i hi;simp at hi;omega
  ·go_ret2
   exact HF.out _ H10.out
end Go.Proofs.YtefpcacnblaokaaGreatDoor

/-
  The walk of proc.New and of call, at a process that is top. Conditions on the closure: it answers, and not 'not now'.
-/
set_option maxRecDepth 100000
set_option maxHeartbeats 4000000
namespace Go.Proofs.YtefpcacnblaokaaGreatDoor
open Go.RowKit Go.Shelf Go.Maps
def ProcAt (W:World) (p k tb:Nat) (av:Value) (buf line run held peak:Int) (may top:Bool) (steps:Int) (al:Nat):Prop:=
 Blk W p #[.pointer (some ⟨k,0,none⟩),.pointer (some ⟨tb,0,none⟩),av,.slice none 0 0,.string ⟨#[]⟩,.int .i64 buf,.int .i64 line,.int .i64 run,.int .i64 held,.int .i64 peak,.slice none 0 0,.int .i64 0,.bool may,.bool top,.bool false,.int .i64 steps,.nilIface,.pointer (some ⟨al,0,none⟩)] 109
def replyC (n:Int) (q:Option Addr) (l c:Nat) (er:Int):Array Value:=#[.int .i64 n,.int .i64 0,.slice q l c,.slice none 0 0,.int .i64 0,.bool false,.int .i64 0,.int .i64 0,.int .i64 0,.int .i64 0,.int .i64 er]
theorem reply_cells {W:World} {b:Nat} {n:Int} {q:Option Addr} {l c:Nat} {er:Int} (h:Blk W b (replyC n q l c er) 365) :
  (W.cell? ⟨b,0,none⟩=some (.int .i64 n)∧W.cell? ⟨b,1,none⟩=some (.int .i64 0)∧W.cell? ⟨b,2,none⟩=some (.slice q l c)∧W.cell? ⟨b,3,none⟩=some (.slice none 0 0)∧W.cell? ⟨b,4,none⟩=some (.int .i64 0)∧W.cell? ⟨b,5,none⟩=some (.bool false)∧W.cell? ⟨b,6,none⟩=some (.int .i64 0)∧W.cell? ⟨b,7,none⟩=some (.int .i64 0)∧W.cell? ⟨b,8,none⟩=some (.int .i64 0)∧W.cell? ⟨b,9,none⟩=some (.int .i64 0)∧W.cell? ⟨b,10,none⟩=some (.int .i64 er)) ∧
  (W.frozen? ⟨b,0,none⟩=false∧W.frozen? ⟨b,1,none⟩=false∧W.frozen? ⟨b,2,none⟩=false∧W.frozen? ⟨b,3,none⟩=false∧W.frozen? ⟨b,4,none⟩=false∧W.frozen? ⟨b,5,none⟩=false∧W.frozen? ⟨b,6,none⟩=false∧W.frozen? ⟨b,7,none⟩=false∧W.frozen? ⟨b,8,none⟩=false∧W.frozen? ⟨b,9,none⟩=false∧W.frozen? ⟨b,10,none⟩=false):=
 ⟨⟨h.cell 0 rfl,h.cell 1 rfl,h.cell 2 rfl,h.cell 3 rfl,h.cell 4 rfl,h.cell 5 rfl,h.cell 6 rfl,h.cell 7 rfl,h.cell 8 rfl,h.cell 9 rfl,h.cell 10 rfl⟩,⟨h.free 0,h.free 1,h.free 2,h.free 3,h.free 4,h.free 5,h.free 6,h.free 7,h.free 8,h.free 9,h.free 10⟩⟩
theorem Blk.setCells {b:Nat} {t:TypeId}:∀ (vs:List Value) (o:Nat) (w:World) (cs:Array Value),Blk w b cs t→∃ cs',Blk (w.setCells b o vs) b cs' t∧cs'.size=cs.size∧∀ i,i < cs.size→cs'[i]?=if o≤i∧i < o+vs.length then vs[i - o]? else cs[i]?
 | [],o,w,cs,h=>⟨cs,h,rfl,fun i _=>by rw [if_neg (by simp)]⟩
 | v :: r,o,w,cs,h=>by
  obtain ⟨cs',h1,h2,h3⟩:=Blk.setCells r (o+1) _ _ (h.set o v)
  refine ⟨cs',h1,by simpa using h2,fun i hi=>?_⟩
  rw [h3 i (by simpa using hi)]
  by_cases hio:i=o
  ·subst hio
   rw [if_neg (by omega),if_pos (by simp)]
   simp [hi]
  ·by_cases hr:o+1≤i∧i < o+1+r.length
   ·rw [if_pos hr,if_pos (by simp;omega),show i - o=(i - (o+1))+1 by omega,List.getElem?_cons_succ]
   ·rw [if_neg hr,if_neg (by simp;omega),Array.getElem?_setIfInBounds_ne (by omega)]
theorem Blk.setAll {w:World} {b:Nat} {t:TypeId} {cs vs:Array Value} (h:Blk w b cs t) (hs:vs.size=cs.size):Blk (w.setCells b 0 vs.toList) b vs t:=by
 obtain ⟨cs',h1,h2,h3⟩:=Blk.setCells vs.toList 0 w cs h
 have:cs'=vs:=by
  apply Array.ext_getElem?
  intro i
  by_cases hi:i < cs.size
  ·rw [h3 i hi,if_pos (by simp;omega)];simp
  ·rw [Array.getElem?_eq_none (by omega),Array.getElem?_eq_none (by omega)]
 subst this
 exact h1
theorem Kept.setCells {S:Nat→Prop} {w:World} {b:Nat} (hb:S b∨w.heap.size≤b):∀ (vs:List Value) (o:Nat) (w':World),Kept S w w'→Kept S w (w'.setCells b o vs)
 | [],_,_,h=>h
 | v :: r,o,_,h=>Kept.setCells hb r (o+1) _ (h.setCell hb o v)
theorem call_any (g:Nat) (hent:∀ (args:Array Value) (w:World),(callFunc g args).run Tryz.prog w=.ok (.enter g args) w) (caps:Array Value) (p k tb al:Nat) (av:Value) (buf line run held peak steps:Int) (w:World)
  (hp:ProcAt w p k tb av buf line run held peak true true steps al) (Q:Int→Option Addr→Nat→Nat→Int→World→Prop)
  (hdo:∀ w1 s,Kept (fun j=>j=p) w w1→w.heap.size < w1.heap.size→ProcAt w1 p k tb av buf line run held peak true true s al →
   Calls Tryz.prog g caps w1 fun e w2=>∃ n q l c er held' peak' s',e=.returned (.agg (replyC n q l c er))∧er≠10∧ProcAt w2 p k tb av buf line run held' peak' true true s' al∧w1.heap.size≤w2.heap.size∧w2.heap[w.heap.size]?=w1.heap[w.heap.size]?∧Q n q l c er w2) :
  Calls Tryz.prog 251 #[.pointer (some ⟨p,0,none⟩),.func (.func g) #[] caps] w fun e w'=>∃ n q l c er w2,e=.returned (.agg (replyC n q l c er))∧Q n q l c er w2∧w.heap.size < w2.heap.size∧Kept (fun j=>j=w.heap.size) w2 w':=by
 have hplt:=hp.lt
 obtain ⟨w1,hw1⟩:∃ w1,(w.alloc (.cells (replyC 0 none 0 0 0) 365))=w1:=⟨_,rfl⟩
 have hk1:Kept (fun j=>j=p) w w1:=by rw [← hw1];exact (Kept.refl _ _).alloc _
 have hp1:ProcAt w1 p k tb av buf line run held peak true true steps al:=by rw [← hw1];exact Blk.alloc hp _
 have hr1:Blk w1 w.heap.size (replyC 0 none 0 0 0) 365:=by rw [← hw1];exact Blk.new _ _ _
 have hs1:w1.heap.size=w.heap.size+1:=by rw [← hw1];simp
 have q10:=hp1.cell 10 rfl
 have q11:=hp1.cell 11 rfl
 have p10:=hp1.drew.cell 10 rfl
 have p11:=hp1.drew.cell 11 rfl
 have HP:=Lib.hid hp1
 have HR:=Lib.hid hr1
 have HK:=Lib.hid hk1
 clear hp hp1 hr1 hk1
 unfold replyC at hw1
 go_enter Tryz.func251,Tryz.ntmps251
 go_wp2_with fail
 try rw [hw1]
 go_region
 go_wp2_with fail
 have HP2:=Lib.hid (HP.out.drew)
 have HR2:=Lib.hid (HR.out.drew)
 have HK2:=Lib.hid (HK.out.drew)
 have hs2:w1.drew.heap.size=w.heap.size+1:=by simpa using hs1
 clear p10 p11 q10 q11 hw1 HP HR HK hs1
 generalize w1.drew=w2 at *
 clear w1
 have c12:=HP2.out.cell 12 (v:=.bool true) rfl
 have c13:=HP2.out.cell 13 (v:=.bool true) rfl
 have c15:=HP2.out.cell 15 (v:=.int .i64 steps) rfl
 have f12:=HP2.out.free 12
 have f15:=HP2.out.free 15
 go_loopw [5] (fun _x5 wr=>wr=w2) (fun _ _=>0)
 case atStart=>rfl
 case round=>
  obtain rfl:=hrel
  go_wp2_with fail
  have HP3:ProcAt ((wr.setCell ⟨p,12,none⟩ (.bool true)).setCell ⟨p,15,none⟩ (.int .i64 (wrap64 (steps+1)))) p k tb av buf line run held peak true true (wrap64 (steps+1)) al:=(HP2.out.set 12 (.bool true)).set 15 _
  have HK3:Kept (fun j=>j=p) w ((wr.setCell ⟨p,12,none⟩ (.bool true)).setCell ⟨p,15,none⟩ (.int .i64 (wrap64 (steps+1)))):=(HK2.out.setCell (.inl rfl) 12 _).setCell (.inl rfl) 15 _
  have HR3:Blk ((wr.setCell ⟨p,12,none⟩ (.bool true)).setCell ⟨p,15,none⟩ (.int .i64 (wrap64 (steps+1)))) w.heap.size (replyC 0 none 0 0 0) 365:=(HR2.out.setOther (by show w.heap.size≠p;omega) _).setOther (by show w.heap.size≠p;omega) _
  have hs3:((wr.setCell ⟨p,12,none⟩ (.bool true)).setCell ⟨p,15,none⟩ (.int .i64 (wrap64 (steps+1)))).heap.size=w.heap.size+1:=by simpa [World.setCell] using hs2
  have HD:=hdo _ _ HK3 (by omega) HP3
  have HR4:=Lib.hid HR3
  have HS3:=Lib.hid hs3
  clear hdo HP3 HK3 HR3 c12 c13 c15 f12 f15 hs2 hs3
  generalize ((wr.setCell ⟨p,12,none⟩ (.bool true)).setCell ⟨p,15,none⟩ (.int .i64 (wrap64 (steps+1))))=w3 at *
  refine HD.mono ?_
  rintro e w4 ⟨n,q,l,c,er,held',peak',s',rfl,her,hp4,hsz4,hbl4,hq⟩
  clear HD
  have hr4:Blk w4 w.heap.size (replyC 0 none 0 0 0) 365:=hbl4.trans HR4.out
  have hsz5:w.heap.size < w4.heap.size:=hr4.lt
  have hn:=Blk.new w4 (replyC n q l c er) 365
  have hrg:(w4.alloc (.cells (replyC n q l c er) 365)).rangeAt w4.heap.size 0 (replyC n q l c er).toList:=by
   have:=World.rangeAt_of_block hn 0 11
   exact this
  have hr5:Blk (w4.alloc (.cells (replyC n q l c er) 365)) w.heap.size (replyC 0 none 0 0 0) 365:=hr4.alloc _
  have hth:(w4.alloc (.cells (replyC n q l c er) 365)).there w.heap.size 0 (replyC n q l c er).size:=by
   obtain ⟨⟨y0,y1,y2,y3,y4,y5,y6,y7,y8,y9,y10⟩,⟨z0,z1,z2,z3,z4,z5,z6,z7,z8,z9,z10⟩⟩:=reply_cells hr5
   intro j hj
   have hj':j < 11:=hj
   obtain rfl | rfl | rfl | rfl | rfl | rfl | rfl | rfl | rfl | rfl | rfl:j=0∨j=1∨j=2∨j=3∨j=4∨j=5∨j=6∨j=7∨j=8∨j=9∨j=10:=by omega
   all_goals simp [*]
  have x10:=hn.cell 10 (v:=.int .i64 er) rfl
  have p13:=(Blk.alloc hp4 (.cells (replyC n q l c er) 365)).cell 13 (v:=.bool true) rfl
  have HRG:=Lib.hid hrg
  have HR5:=Lib.hid hr5
  have HTH:=Lib.hid hth
  have HQ:=Lib.hid hq
  have her2:(er == 10)=false:=by simpa using her
  have hinfo:(Tryz.prog.info? 365).map (·.size)=some 11:=by kernel_rfl
  have HI:=Lib.hid hinfo
  have HONE:=Lib.hid (show (replyC n q l c er).all (·.oneCell')=true by simp [replyC,Value.oneCell'])
  clear hr4 hn hp4 hq hbl4 hrg hr5 hth hinfo
  obtain ⟨w5,hw5⟩:∃ w5,(w4.alloc (.cells (replyC n q l c er) 365)).setCells w.heap.size 0 (replyC n q l c er).toList=w5:=⟨_,rfl⟩
  have HW5:=Lib.hid (hw5 ▸ Blk.setAll (vs:=replyC n q l c er) HR5.out rfl:Blk w5 w.heap.size (replyC n q l c er) 365)
  have HK5:=Lib.hid (hw5 ▸ Kept.setCells (S:=fun j=>j=w.heap.size) (.inl rfl) _ 0 _ ((Kept.refl (fun j=>j=w.heap.size) w4).alloc _):Kept (fun j=>j=w.heap.size) w4 w5)
  have HE5:=Lib.hid hw5
  clear hw5
  unfold replyC at *
  go_wp2_with (first | (refine wpList_load_mid rfl 365 _ rfl w4.heap.size 0 rfl _ _ HRG.out Tryz.underlying365 rfl HI.out ?_) | (refine wpList_store_mid rfl 365 _ _ rfl w.heap.size 0 _ rfl rfl HTH.out HI.out HONE.out ?_;rw [show World.setCells _ w.heap.size 0 _=w5 from HE5.out];obtain ⟨⟨r0,r1,r2,r3,r4,r5,r6,r7,r8,r9,r10⟩,-⟩:=reply_cells HW5.out;refine Hid.out ?_))
  refine Lib.hid ?_
  go_wp2_with fail
  refine bodyPost_ret (v:=.agg #[.int .i64 n,.int .i64 0,.slice q l c,.slice none 0 0,.int .i64 0,.bool false,.int .i64 0,.int .i64 0,.int .i64 0,.int .i64 0,.int .i64 er]) ?_ rfl ⟨n,q,l,c,er,w4,rfl,HQ.out,hsz5,HK5.out⟩
  simp [results,Tryz.results251,go_sem,r0,r1,r2,r3,r4,r5,r6,r7,r8,r9,r10]
end Go.Proofs.YtefpcacnblaokaaGreatDoor

/-
  A process that runs, with its kernel, in memory (PrAt); what keeps it. No condition.
-/
namespace Go.Proofs.YtefpcacnblaokaaGreatDoor
open Go.RowKit Go.Shelf Go.Maps
def strV (s:Bts):Value:=.string ⟨s.toArray⟩
structure Fx where
 t:Nat
 r:Nat
 a:Nat
 b:Nat
 k:Nat
 m:Nat
 tb:Nat
 s0:Nat
 s1:Nat
 s2:Nat
 p:Nat
 al:Nat
 n0:Nat
 av:Value
 args:List Bts
 buf:Nat
 line:Nat
 run:Nat
 w0:World
def thD3 (F:Fx):DataW Unit:=(((DataW.map []).put (.int .i64 ((0+1:Nat):Int)) (thD 173 F.s0)).put (.int .i64 ((1+1:Nat):Int)) (thD 177 F.s1)).put (.int .i64 ((2+1:Nat):Int)) (thD 177 F.s2)
structure FixAt (W:World) (F:Fx) (M:Nat→Prop):Prop where
 tree:TreeAt W F.t F.r F.a F.b
 kern:KernAt W F.k F.t ((2+1:Nat):Int) F.m
 things:W.ownsMap Tryz.prog 3 thElem F.m 3 (thD3 F)
 tab:TabAt W F.tb F.k (thV 173 F.s0) (thV 177 F.s1) (thV 177 F.s2)
 args:W.ownsRow 0 9 1 F.av F.args.length (F.args.map strV)
 argsOld:∀ j,F.av.ownBlock=some j→j < F.n0∧¬ M j
 argsLen:F.args.length < 1073741824
 oldT:F.t < F.n0∧¬ M F.t
 oldR:F.r < F.n0∧¬ M F.r
 oldA:F.a < F.n0∧¬ M F.a
 oldB:F.b < F.n0∧¬ M F.b
 oldK:F.k < F.n0∧¬ M F.k
 oldM:F.m < F.n0∧¬ M F.m
 oldTb:F.tb < F.n0∧¬ M F.tb
 old:Below F.w0.heap.size F.w0 W
 oldW:∀ j,M j→F.w0.heap.size≤j
 oldN:F.w0.heap.size≤F.n0
structure PrAt (W:World) (F:Fx) (M:Nat→Prop) (inp out err:Bts):Prop where
 fix:FixAt W F M
 src:SrcAt W (fun g=>g < F.n0∧¬ M g) F.s0 inp
 snk:∃ v1 v2,Blk W F.s1 #[v1] 178∧Blk W F.s2 #[v2] 178∧W.ownsRow 0 5 1 v1 out.length (out.map u8V)∧W.ownsRow 0 5 1 v2 err.length (err.map u8V) ∧
  (∀ j,v1.ownBlock=some j→M j∧j≠F.p∧j≠F.s0∧j≠F.s1∧j≠F.s2∧v2.ownBlock≠some j)∧(∀ j,v2.ownBlock=some j→M j∧j≠F.p∧j≠F.s0∧j≠F.s1∧j≠F.s2)
 proc:∃ held peak steps:Int,ProcAt W F.p F.k F.tb F.av F.buf F.line F.run held peak true true steps F.al
 mp:M F.p
 m0:M F.s0
 m1:M F.s1
 m2:M F.s2
 dist:F.p≠F.s0∧F.p≠F.s1∧F.p≠F.s2∧F.s0≠F.s1∧F.s0≠F.s2∧F.s1≠F.s2
 lt:∀ j,M j→j < W.heap.size
 n0:F.n0≤W.heap.size
 lims:1≤F.buf∧1≤F.line∧F.buf≤1099511627776∧F.line≤1099511627776
 big:inp.length≤4294967296
structure Mv (M M':Nat→Prop) (W W':World):Prop where
 kept:Kept M W W'
 new:∀ j,M' j→M j∨W.heap.size≤j
theorem Mv.refl (M:Nat→Prop) (W:World):Mv M M W W:=⟨Kept.refl _ _,fun _ h=>.inl h⟩
theorem Mv.trans {M M' M'':Nat→Prop} {W W' W'':World} (h:Mv M M' W W') (h2:Mv M' M'' W' W''):Mv M M'' W W'':=
 ⟨h.kept.trans' h2.kept fun k hk hm=>by
  rcases h.new k hm with h1 | h1
  ·exact h1
  ·omega,fun j hj=>by
  rcases h2.new j hj with h1 | h1
  ·exact h.new j h1
  ·exact .inr (Nat.le_trans h.kept.size h1)⟩
theorem Mv.below {M:Nat→Prop} {W W':World} (h:Below W.heap.size W W'):Mv M M W W':=⟨Kept.of_below h,fun _ h=>.inl h⟩
theorem Mv.not {M M':Nat→Prop} {W W':World} (h:Mv M M' W W') {j:Nat} (hj:j < W.heap.size) (hM:¬ M j):¬ M' j:=fun h1=>by
 rcases h.new j h1 with h2 | h2
 ·exact hM h2
 ·omega
theorem FixAt.kept {W W':World} {F:Fx} {M S:Nat→Prop} (h:FixAt W F M) (hk:Kept S W W') (hS:∀ j,j < F.n0→¬ M j→¬ S j):FixAt W' F M:=
 ⟨⟨h.tree.1.kept hk (hS _ h.oldT.1 h.oldT.2),h.tree.2.1.kept hk (hS _ h.oldR.1 h.oldR.2),(hk.block _ (lt_of_heap h.tree.2.2.1) (hS _ h.oldA.1 h.oldA.2)).trans h.tree.2.2.1,(hk.block _ (lt_of_heap h.tree.2.2.2) (hS _ h.oldB.1 h.oldB.2)).trans h.tree.2.2.2⟩,
  Blk.kept h.kern hk (hS _ h.oldK.1 h.oldK.2),map_same h.things (hk.block _ h.things.lt (hS _ h.oldM.1 h.oldM.2)),Blk.kept h.tab hk (hS _ h.oldTb.1 h.oldTb.2),
  own_kept h.args hk fun j hj=>hS _ (h.argsOld j hj).1 (h.argsOld j hj).2,h.argsOld,h.argsLen,h.oldT,h.oldR,h.oldA,h.oldB,h.oldK,h.oldM,h.oldTb,
  ⟨hk.os.trans h.old.os,hk.tape.trans h.old.tape,hk.output.trans h.old.output,Nat.le_trans h.old.size hk.size,fun j hj=>(hk.block j (Nat.lt_of_lt_of_le hj h.old.size) (hS j (Nat.lt_of_lt_of_le hj h.oldN) fun hm=>by have:=h.oldW j hm;omega)).trans (h.old.block j hj)⟩,h.oldW,h.oldN⟩
theorem FixAt.more {W:World} {F:Fx} {M M':Nat→Prop} (h:FixAt W F M) (hM:∀ j,j < F.n0→M' j→M j):FixAt W F M':=
 ⟨h.tree,h.kern,h.things,h.tab,h.args,fun j hj=>⟨(h.argsOld j hj).1,fun h1=>(h.argsOld j hj).2 (hM _ (h.argsOld j hj).1 h1)⟩,h.argsLen,⟨h.oldT.1,fun h1=>h.oldT.2 (hM _ h.oldT.1 h1)⟩,⟨h.oldR.1,fun h1=>h.oldR.2 (hM _ h.oldR.1 h1)⟩,⟨h.oldA.1,fun h1=>h.oldA.2 (hM _ h.oldA.1 h1)⟩,⟨h.oldB.1,fun h1=>h.oldB.2 (hM _ h.oldB.1 h1)⟩,⟨h.oldK.1,fun h1=>h.oldK.2 (hM _ h.oldK.1 h1)⟩,⟨h.oldM.1,fun h1=>h.oldM.2 (hM _ h.oldM.1 h1)⟩,⟨h.oldTb.1,fun h1=>h.oldTb.2 (hM _ h.oldTb.1 h1)⟩,h.old,fun j hj=>by
  rcases Nat.lt_or_ge j F.n0 with h1 | h1
  ·exact h.oldW j (hM j h1 hj)
  ·exact Nat.le_trans h.oldN h1,h.oldN⟩
theorem PrAt.kept {W W':World} {F:Fx} {M S:Nat→Prop} {inp out err:Bts} (h:PrAt W F M inp out err) (hk:Kept S W W') (hS:∀ j,S j→F.n0≤j∧¬ M j):PrAt W' F M inp out err:=by
 obtain ⟨hf,hs,⟨v1,v2,b1,b2,o1,o2,d1,d2⟩,⟨hd,pk,st,hp⟩,mp,m0,m1,m2,di,lt,n0,li,bg⟩:=h
 have hM:∀ j,M j→¬ S j:=fun j hj hs=>(hS j hs).2 hj
 refine ⟨hf.kept hk fun j hj _ hs=>by have:=(hS j hs).1;omega, ?_,⟨v1,v2,b1.kept hk (hM _ m1),b2.kept hk (hM _ m2),own_kept o1 hk fun j hj=>hM _ (d1 j hj).1,own_kept o2 hk fun j hj=>hM _ (d2 j hj).1,d1,d2⟩,⟨hd,pk,st,Blk.kept hp hk (hM _ mp)⟩,mp,m0,m1,m2,di,fun j hj=>Nat.lt_of_lt_of_le (lt j hj) hk.size,Nat.le_trans n0 hk.size,li,bg⟩
 obtain ⟨v,hb,hsl⟩:=hs
 exact ⟨v,hb.kept hk (hM _ m0),hsl.kept hk fun g _ hN hs=>by have:=(hS g hs).1;omega⟩
theorem PrAt.below {W W':World} {F:Fx} {M:Nat→Prop} {inp out err:Bts} (h:PrAt W F M inp out err) (hb:Below W.heap.size W W'):PrAt W' F M inp out err:=
 h.kept (Kept.of_below (S:=fun _=>False) hb) fun _ h=>h.elim
end Go.Proofs.YtefpcacnblaokaaGreatDoor
