/-
  Texts of this seat put together: GM1, GM2, GM3, GM4, GM5.
-/
import Derived.Test.YtefpcacnblaokaaGreatDoorQ16
import Derived.Test.YtefpcacnblaokaaGreatDoorQ17
import Derived.Maps.AppendAt
import Derived.Deep.RegionLaw
import Derived.Deep.AppendLies
import Derived.Deep.RegionHeld3
import Derived.Laws.OwnMore
import Derived.BigRegion

/-
  States in memory; the walk of add. Condition: there are no more than a million states.
-/
set_option maxRecDepth 100000
set_option maxHeartbeats 1600000
namespace Go.Proofs.YtefpcacnblaokaaGreatDoor.Rg
open Go.RowKit Go.Shelf Go.Maps
variable {lo:Nat}
def stV (s:Mx.St) (h:Option Nat):List Value:=[.int .i64 s.kind,.pointer (h.map fun b=>⟨b,1,none⟩),.int .i64 s.to,.int .i64 s.or]
abbrev Sts:=List (Mx.St × Option Nat)
def row (L:Sts):List Value:=L.flatMap fun x=>stV x.1 x.2
def sts (L:Sts):List Mx.St:=L.map (·.1)
theorem row_app (L K:Sts):row (L ++ K)=row L ++ row K:=by simp [row]
theorem row_len (L:Sts):(row L).length=L.length * 4:=by
 induction L with
 | nil=>rfl
 | cons x r ih=>simp [row,stV] at ih ⊢;omega
theorem sts_app (L K:Sts):sts (L ++ K)=sts L ++ sts K:=by simp [sts]
theorem sts_len (L:Sts):(sts L).length=L.length:=by simp [sts]
def HasAt (w:World) (b:Nat) (h:Rx.Has):Prop:=∀ i,i < 256→w.cell? ⟨b,1+i,none⟩=some (.bool (h (UInt8.ofNat i)))
theorem HasAt.kept {S:Nat→Prop} {w w':World} {b:Nat} {h:Rx.Has} (hh:HasAt w b h) (hk:Kept S w w') (hS:¬ S b):HasAt w' b h:=by
 intro i hi
 have:=hh i hi
 have hlt:b < w.heap.size:=World.block_lt_of_cell? _ _ this
 rw [← this]
 unfold World.cell?
 simp only
 rw [hk.block b hlt hS]
structure Pg (lo:Nat) (w:World) (q:Nat) (v:Value) (st:Int) (L:Sts):Prop where
 blk:Blk w q #[v,.int .i64 st] 282
 own:w.ownsRow (q+1) 287 4 v L.length (row L)
 has:∀ x ∈ L,x.1.kind=0→∃ b,x.2=some b∧(lo≤b∧b < q)∧HasAt w b x.1.has
theorem own_form' {w:World} {base:Nat} {e:TypeId} {size:Nat} {v:Value} {n:Nat} {xs:List Value} (h:w.ownsRow base e size v n xs):(v=.slice none 0 0∧n=0)∨∃ g c,v=.slice (some ⟨g,0,none⟩) n c∧base≤g∧n≤c:=by
 rcases h.2 with h1 | ⟨g,cap,cur,e,h2,-,h3,-⟩
 ·exact .inl h1
 ·exact .inr ⟨g,cap,e,h2,h3⟩
theorem own_kept {S:Nat→Prop} {w w':World} {B:Nat} {t:TypeId} {size n:Nat} {v:Value} {xs:List Value} (h:w.ownsRow B t size v n xs) (hk:Kept S w w') (hS:∀ k,v.ownBlock=some k→¬ S k):w'.ownsRow B t size v n xs:=by
 obtain ⟨h1,h2 | ⟨g,cap,cur,e,hg,hb,r⟩⟩:=h
 ·exact ⟨h1,.inl h2⟩
 ·exact ⟨h1,.inr ⟨g,cap,cur,e,hg,(hk.block g (lt_of_block hb) (hS g (by rw [e];rfl))).trans hb,r⟩⟩
theorem kept_grown {w w2 w1:World} {o:Option Nat} (h:Kept (fun _=>False) w w2) (hg:w2.grownBy w1 o):Kept (fun k=>o=some k) w w1:=
 ⟨hg.os.trans h.os,hg.tape.trans h.tape,hg.output.trans h.output,Nat.le_trans h.size hg.size,fun k hk hs=>(hg.block k (Nat.lt_of_lt_of_le hk h.size) fun e=>hs e.symm).trans (h.block k hk id)⟩
theorem Pg.pushed {w w1:World} {q:Nat} {v v':Value} {st:Int} {L:Sts} {s:Mx.St} {hp:Option Nat} (h:Pg lo w q v st L) (hs:s.kind=0→∃ b,hp=some b∧(lo≤b∧b < q)∧HasAt w b s.has)
  (hown1:w1.ownsRow (q+1) 287 4 v' (L.length+1) (row L ++ stV s hp)) (hk:Kept (fun k=>v.ownBlock=some k) w w1) :
  Pg lo (w1.setCell ⟨q,0,none⟩ v') q v' st (L ++ [(s,hp)])∧Below q w (w1.setCell ⟨q,0,none⟩ v'):=by
 have hob:∀ k,v.ownBlock=some k→q+1≤k:=fun k e=>(h.own.lt k e).1
 have hq:=h.blk.lt
 have hk2:Kept (fun k=>q≤k) w (w1.setCell ⟨q,0,none⟩ v'):=(hk.mono fun k _ e=>by have:=hob k e;omega).setCell (.inl (Nat.le_refl _)) 0 v'
 refine ⟨⟨?_, ?_, ?_⟩,hk2.os,hk2.tape,hk2.output,hk2.size,fun k hk'=>hk2.block k (by omega) (by omega)⟩
 ·have:=(h.blk.kept hk fun e=>by have:=hob q e;omega).set 0 v'
  exact this
 ·rw [row_app,List.length_append]
  refine own_kept (S:=(·=q)) (w:=w1) ?_ ((Kept.refl (·=q) w1).setCell (.inl rfl) 0 v') ?_
  ·simpa [row] using hown1
  ·rintro k e rfl
   have:=(hown1.lt k e).1
   omega
 ·intro x hx hx0
  rcases List.mem_append.1 hx with hx | hx
  ·obtain ⟨b,e,hb,hh⟩:=h.has x hx hx0
   exact ⟨b,e,hb,hh.kept hk2 (by omega)⟩
  ·obtain rfl:x=(s,hp):=by simpa using hx
   obtain ⟨b,e,hb,hh⟩:=hs hx0
   exact ⟨b,e,hb,hh.kept hk2 (by omega)⟩
theorem info_state:(Tryz.prog.info? 287).map (fun i=>(i.zero,i.size,i.bytes))=some (some (.agg #[.int .i64 0,.pointer none,.int .i64 0,.int .i64 0]),4,32):=by kernel_rfl
theorem cells_new (w:World) (cs:Array Value) (t:TypeId):∀ j u,cs.toList[j]?=some u→(w.alloc (.cells cs t)).cell? ((⟨w.heap.size,0,none⟩:Addr).add j)=some u:=by
 intro j u h
 rw [show ((⟨w.heap.size,0,none⟩:Addr).add j)=⟨w.heap.size,j,none⟩ by simp only [Addr.add];split <;> simp_all]
 exact Blk.cell (Blk.new w cs t) j (by simpa using h)
theorem add_any (w:World) (q:Nat) (v:Value) (st:Int) (L:Sts) (s:Mx.St) (hp:Option Nat) (h:Pg lo w q v st L) (hl:L.length≤1000000) (hs:s.kind=0→∃ b,hp=some b∧(lo≤b∧b < q)∧HasAt w b s.has) :
  Calls Tryz.prog 175 #[.pointer (some ⟨q,0,none⟩),.agg (stV s hp).toArray] w fun e w'=>(e=.returned (.int .i64 L.length)∧∃ v',Pg lo w' q v' st (L ++ [(s,hp)]))∧Below q w w':=by
 obtain ⟨i0,hi,hz0,hz1,hz2⟩:=info_parts info_state
 have c0:w.cell? ⟨q,0,none⟩=some v:=h.blk.cell 0 rfl
 have f0:=h.blk.free 0
 have hq:=h.blk.lt
 have hown:=h.own
 have hob:v.ownBlock≠some q:=fun e=>by have:=(hown.lt q e).1;omega
 have h0:=h.blk
 have H:=Lib.hid h
 have HS:=Lib.hid hs
 clear h hs
 have hob2:v.ownBlock≠some w.heap.size:=fun e=>by have:=(hown.lt _ e).2;omega
 unfold stV
 generalize hpv:(hp.map fun b=>(⟨b,1,none⟩:Addr))=pa
 have HPV:=Lib.hid hpv
 clear hpv
 obtain ⟨O,hO⟩:∃ O:Obj,O=.cells #[.int .i64 s.kind,.pointer pa,.int .i64 s.to,.int .i64 s.or] 287:=⟨_,rfl⟩
 have d0:Blk (w.alloc O) w.heap.size #[.int .i64 s.kind,.pointer pa,.int .i64 s.to,.int .i64 s.or] 287:=by rw [hO];exact Blk.new w _ _
 have d1:(w.alloc O).cell? ⟨w.heap.size,0,none⟩=some (.int .i64 s.kind):=d0.cell 0 rfl
 have hne:q≠w.heap.size:=by omega
 have d2:(w.alloc O).cell? ⟨w.heap.size,1,none⟩=some (.pointer pa):=d0.cell 1 rfl
 have d3:(w.alloc O).cell? ⟨w.heap.size,2,none⟩=some (.int .i64 s.to):=d0.cell 2 rfl
 have d4:(w.alloc O).cell? ⟨w.heap.size,3,none⟩=some (.int .i64 s.or):=d0.cell 3 rfl
 have d5:((w.alloc O).alloc O).drew.heap[w.heap.size+1]?=some O:=by
  have:=heap_alloc_new (w.alloc O) O
  show ((w.alloc O).alloc O).heap[w.heap.size+1]?=some O
  simpa using this
 have hown2:((w.alloc O).alloc O).drew.ownsRow (q+1) 287 4 v L.length (row L):=((hown.alloc O).alloc O).drew
 have hsz2:((w.alloc O).alloc O).drew.heap.size=w.heap.size+2:=by simp
 have fq2:((w.alloc O).alloc O).drew.frozen? ⟨q,0,none⟩=false:=(((h0.alloc O).alloc O).drew).free 0
 have cq1:(w.alloc O).cell? ⟨q,0,none⟩=some v:=(h0.alloc O).cell 0 rfl
 have cq2:((w.alloc O).alloc O).drew.cell? ⟨q,0,none⟩=some v:=(((h0.alloc O).alloc O).drew).cell 0 rfl
 have cq3:(w.alloc O).drew.cell? ⟨q,0,none⟩=some v:=(((h0.alloc O)).drew).cell 0 rfl
 clear h0
 subst hO
 go_enter Tryz.func175,Tryz.ntmps175
 go_wp2_with fail
 go_region_law
  ((refine step_append_lies _ (by rfl) _ _ _ (by rfl) (q+1) 287 i0 _ 4 32 Tryz.underlying280 hi hz0 hz1 hz2 rfl (by decide) v L.length (row L) (by rfl) hown2
     ⟨w.heap.size+1,0,none⟩ 1 1 [.int .i64 s.kind,.pointer pa,.int .i64 s.to,.int .i64 s.or] (by rfl) (by rfl) (World.news_of_block d5) (by simp [Value.oneCell'])
     (by decide) (by unfold maxLen;omega) (by omega) (by rw [hsz2];omega) (w.heap.size+2) hsz2 ?_;intro gg cap w1 hown1 hgrow hat hlt;have fq:=hgrow.frozen_far (a:=⟨q,0,none⟩) (by rw [hsz2];show q < _;omega) (Ne.symm hob);rw [fq2] at fq;have cq:=hgrow.cell_far ⟨q,0,none⟩ (by rw [hsz2];show q < _;omega) (Ne.symm hob);rw [cq2] at cq))
 all_goals
  have hk:Kept (fun k=>v.ownBlock=some k) w w1:=kept_grown ((((Kept.refl _ w).alloc _).alloc _).drew) hgrow
  have hpp:=H.out.pushed HS.out (by unfold stV;rw [HPV.out];exact hown1) hk
  have HPP:=Lib.hid hpp
  clear hpp hk hgrow hown1 hown2 hown d5 hsz2
  go_wp2_with fail
  go_ret
  exact ⟨⟨rfl,_,HPP.out.1⟩,HPP.out.2⟩
end Go.Proofs.YtefpcacnblaokaaGreatDoor.Rg

/-
  The walk of lay: its kinds without kids, and a row of nodes. Condition: the node lies in memory, below the states.
-/
set_option maxRecDepth 100000
set_option maxHeartbeats 3200000
namespace Go.Proofs.YtefpcacnblaokaaGreatDoor.Rg
open Go.RowKit Go.Shelf Go.Maps
variable {lo:Nat}
def LayPost (lo:Nat) (a:Nat × List Mx.St) (q:Nat) (w:World) (st:Int) (e:Ending) (w':World):Prop:=
 e=.returned (.int .i64 a.1)∧(∃ v' L',Pg lo w' q v' st L'∧sts L'=a.2)∧Below q w w'
def LayC (lo:Nat) (n:Rx.Nd) (p q:Nat) (w0:World):Prop:=
 ∀ (w:World) (v:Value) (st:Int) (L:Sts) (tgt:Nat),Below q w0 w→Pg lo w q v st L→Mx.Good (sts L)→tgt < L.length→(Mx.lay n tgt (sts L)).2.length≤1000000 →
  Calls Tryz.prog 173 #[.pointer (some ⟨q,0,none⟩),.pointer (some ⟨p,0,none⟩),.int .i64 tgt] w (LayPost lo (Mx.lay n tgt (sts L)) q w st)
theorem lay_empty (p q:Nat) (w0:World) (hb:Blk w0 p (ndCells 0 noHas 0 0 (.slice none 0 0)) 349) (hpq:p < q):LayC lo .empty p q w0:=by
 intro w v st L tgt hw hpg hgo hto hlen
 have c0:=(hb.keep hw hpq).cell 0 (nd_kind _ _ _ _ _)
 have e:Mx.lay .empty tgt (sts L)=(tgt,sts L):=by rw [Mx.lay]
 rw [e]
 unfold LayPost
 have HPG:=Lib.hid hpg
 clear hpg e
 go_enter Tryz.func173,Tryz.ntmps173
 go_wp2_with fail
 go_ret
 exact ⟨rfl,⟨_,_,HPG.out,rfl⟩,Below.refl _ _⟩
theorem lay_set (p q:Nat) (h:Rx.Has) (w0:World) (hb:Blk w0 p (setCells h) 349) (hpq:lo≤p∧p < q):LayC lo (.set h) p q w0:=by
 intro w v st L tgt hw hpg hgo hto hlen
 have hb':=hb.keep hw hpq.2
 have c0:=hb'.cell 0 (nd_kind _ _ _ _ _)
 have e:Mx.lay (.set h) tgt (sts L)=(L.length,sts L ++ [⟨0,h,tgt,0⟩]):=by rw [Mx.lay,sts_len]
 rw [e] at hlen ⊢
 have hadd:=add_any w q v st L ⟨0,h,tgt,0⟩ (some p) hpg (by simp [sts_len] at hlen;omega) fun _=>⟨p,rfl,hpq,fun i hi=>hb'.cell (1+i) (nd_has _ _ _ _ _ i hi)⟩
 unfold stV at hadd
 unfold LayPost
 clear hpg e hb hb'
 go_enter Tryz.func173,Tryz.ntmps173
 go_wp2_with fail
 refine hadd.mono ?_
 rintro e w' ⟨⟨rfl,v',hpg'⟩,hbl⟩
 have HPG:=Lib.hid hpg'
 clear hpg' hadd
 go_wp2_with fail
 go_ret
 exact ⟨rfl,⟨v',_,HPG.out,sts_app _ _⟩,hbl⟩
theorem lay_beg (p q:Nat) (w0:World) (hb:Blk w0 p (ndCells 2 noHas 0 0 (.slice none 0 0)) 349) (hpq:p < q):LayC lo .beg p q w0:=by
 intro w v st L tgt hw hpg hgo hto hlen
 have hb':=hb.keep hw hpq
 have c0:=hb'.cell 0 (nd_kind _ _ _ _ _)
 have e:Mx.lay .beg tgt (sts L)=(L.length,sts L ++ [⟨2,Mx.no,tgt,0⟩]):=by rw [Mx.lay,sts_len]
 rw [e] at hlen ⊢
 have hadd:=add_any w q v st L ⟨2,Mx.no,tgt,0⟩ none hpg (by simp [sts_len] at hlen;omega) fun h=>by simp at h
 unfold stV at hadd
 unfold LayPost
 clear hpg e hb hb'
 go_enter Tryz.func173,Tryz.ntmps173
 go_wp2_with fail
 refine hadd.mono ?_
 rintro e w' ⟨⟨rfl,v',hpg'⟩,hbl⟩
 have HPG:=Lib.hid hpg'
 clear hpg' hadd
 go_wp2_with fail
 go_ret
 exact ⟨rfl,⟨v',_,HPG.out,sts_app _ _⟩,hbl⟩
theorem lay_fin (p q:Nat) (w0:World) (hb:Blk w0 p (ndCells 3 noHas 0 0 (.slice none 0 0)) 349) (hpq:p < q):LayC lo .fin p q w0:=by
 intro w v st L tgt hw hpg hgo hto hlen
 have hb':=hb.keep hw hpq
 have c0:=hb'.cell 0 (nd_kind _ _ _ _ _)
 have e:Mx.lay .fin tgt (sts L)=(L.length,sts L ++ [⟨3,Mx.no,tgt,0⟩]):=by rw [Mx.lay,sts_len]
 rw [e] at hlen ⊢
 have hadd:=add_any w q v st L ⟨3,Mx.no,tgt,0⟩ none hpg (by simp [sts_len] at hlen;omega) fun h=>by simp at h
 unfold stV at hadd
 unfold LayPost
 clear hpg e hb hb'
 go_enter Tryz.func173,Tryz.ntmps173
 go_wp2_with fail
 refine hadd.mono ?_
 rintro e w' ⟨⟨rfl,v',hpg'⟩,hbl⟩
 have HPG:=Lib.hid hpg'
 clear hpg' hadd
 go_wp2_with fail
 go_ret
 exact ⟨rfl,⟨v',_,HPG.out,sts_app _ _⟩,hbl⟩
theorem drop_kid (l:List Rx.Nd) (i:Nat) (hi:i < l.length):l.drop i=l.getD i .empty :: l.drop (i+1):=by
 rw [List.drop_eq_getElem_cons hi]
 simp [List.getD_eq_getElem?_getD,List.getElem?_eq_getElem hi]
theorem layCat_mono (tgt:Nat) (P:List Mx.St) (hg:Mx.Good P) (ht:tgt < P.length):∀ (pre l:List Rx.Nd),(Mx.layCat l tgt P).2.length≤(Mx.layCat (pre ++ l) tgt P).2.length:=by
 intro pre l
 induction pre with
 | nil=>exact Nat.le_refl _
 | cons k r ih=>
  have h1:=Mx.layCat_ok (r ++ l) tgt P hg ht
  rw [List.cons_append,Mx.layCat]
  exact Nat.le_trans ih (Mx.lay_ok k _ _ h1.good h1.lt).le
theorem lay_cat (p q k c:Nat) (l:List Rx.Nd) (ps:List Nat) (w0:World) (hb:Blk w0 p (ndCells 4 noHas 0 0 (.slice (some ⟨k,0,none⟩) l.length c)) 349) (hpq:p < q) (hkq:k < q)
  (hc:l.length≤c∧l.length≤1073741824) (hpl:ps.length=l.length) (hps:Ptrs w0 k ps) (hn:∀ i,i < l.length→LayC lo (l.getD i .empty) (ps.getD i 0) q w0):LayC lo (.cat l) p q w0:=by
 intro w v st L tgt hw hpg hgo hto hlen
 have c0:=(hb.keep hw hpq).cell 0 (nd_kind _ _ _ _ _)
 have c3:=(hb.keep hw hpq).cell 259 (nd_kids _ _ _ _ _)
 have hto':tgt < (sts L).length:=by rw [sts_len];exact hto
 have e:Mx.lay (.cat l) tgt (sts L)=Mx.layCat l tgt (sts L):=by rw [Mx.lay]
 rw [e] at hlen ⊢
 have HOK:Hid (∀ j,Mx.LayOk (sts L) (Mx.layCat (l.drop j) tgt (sts L))∧(Mx.layCat (l.drop j) tgt (sts L)).2.length≤1000000):=fun j=>
  ⟨Mx.layCat_ok _ _ _ hgo hto',by
   have:=layCat_mono tgt (sts L) hgo hto' (l.take j) (l.drop j)
   rw [List.take_append_drop] at this
   omega⟩
 have HPS:=Lib.hid hps
 have HN:=Lib.hid hn
 have HB:=Lib.hid hb
 have HPG:=Lib.hid hpg
 have HW:=Lib.hid hw
 unfold LayPost
 clear hps hn hb hpg hw e hgo hlen
 go_enter Tryz.func173,Tryz.ntmps173
 go_wp2_with fail
 go_loopw [2,7] (fun x2 x7 wr=>∃ (j:Nat) (v':Value) (L':Sts),j≤l.length∧x2=.int .i64 (Mx.layCat (l.drop j) tgt (sts L)).1∧x7=.int .i64 ((j:Int) - 1)∧Pg lo wr q v' st L'∧sts L'=(Mx.layCat (l.drop j) tgt (sts L)).2∧Below q w wr) (fun _ x7 _=>(intOf x7+1).toNat)
 case atStart=>exact ⟨l.length,v,L,Nat.le_refl _,by simp [Mx.layCat],rfl,HPG.out,by simp [Mx.layCat],Below.refl _ _⟩
 case round=>
  obtain ⟨j,v',L',hj,rfl,rfl,hpg,hst,hbw⟩:=hrel
  cases j with
  | zero=>
   have HP2:=Lib.hid hpg
   have HS2:=Lib.hid hst
   have HB2:=Lib.hid hbw
   rw [List.drop_zero] at HS2 ⊢
   clear hpg hst hbw
   go_wp2_with fail
   go_ret
   exact ⟨rfl,⟨_,_,HP2.out,HS2.out⟩,HB2.out⟩
  | succ j=>
   have hkid:=drop_kid l j (by omega)
   have hok:=HOK.out (j+1)
   have hok2:=HOK.out j
   have hb2:=HB.out.keep (HW.out.trans hbw) hpq
   have cr0:wr.cell? ⟨p,0,none⟩=some (.int .i64 4):=hb2.cell 0 (nd_kind _ _ _ _ _)
   have cr3:wr.cell? ⟨p,259,none⟩=some (.slice (some ⟨k,0,none⟩) l.length c):=hb2.cell 259 (nd_kids _ _ _ _ _)
   have hwr:=HW.out.trans hbw
   have cq:wr.cell? ⟨k,j,none⟩=some (.pointer (some ⟨ps.getD j 0,0,none⟩)):=by
    have:=HPS.out j (by omega)
    rw [hwr.cell (p:=⟨k,j,none⟩) hkq]
    exact this
   rw [hkid,Mx.layCat] at hok2
   have HLC:Hid (Mx.layCat (l.drop j) tgt (sts L)=Mx.lay (l.getD j .empty) (Mx.layCat (l.drop (j+1)) tgt (sts L)).1 (Mx.layCat (l.drop (j+1)) tgt (sts L)).2):=by
    show _=_
    rw [hkid,Mx.layCat]
   generalize Mx.layCat (l.drop (j+1)) tgt (sts L)=a at *
   obtain ⟨t2,P2⟩:=a
   simp only at hst hok hok2 HLC ⊢
   subst hst
   have hcall:=HN.out j (by omega) wr v' st L' t2 hwr hpg hok.1.good (by have:=hok.1.lt;rw [sts_len] at this;exact this) hok2.2
   unfold LayPost at hcall
   have HBW:=Lib.hid hbw
   clear hok hok2 hkid hpg hb2 hwr hbw
   generalize Mx.lay (l.getD j .empty) t2 (sts L')=a2 at *
   generalize ps.getD j 0=pj at *
   have hj1:((j+1:Nat):Int) - 1=(j:Int):=by omega
   rw [hj1]
   go_wp2_with fail
   refine hcall.mono ?_
   rintro e w3 ⟨rfl,⟨v3,L3,hpg3,hst3⟩,hb3⟩
   have HP3:=Lib.hid hpg3
   have HS3:=Lib.hid hst3
   have HB3:=Lib.hid hb3
   clear hpg3 hst3 hb3 hcall
   go_wp2_with fail
   refine ⟨⟨j,v3,L3,by omega,by rw [HLC.out],by go_num,HP3.out,by rw [HLC.out];exact HS3.out,HBW.out.trans HB3.out⟩, ?_⟩
   show ((j:Int) - 1+1).toNat < ((j:Int)+1).toNat
   omega
end Go.Proofs.YtefpcacnblaokaaGreatDoor.Rg

/-
  The walk of lay: one of a list. Condition: the node lies in memory, below the states.
-/
set_option maxRecDepth 100000
set_option maxHeartbeats 3200000
namespace Go.Proofs.YtefpcacnblaokaaGreatDoor.Rg
open Go.RowKit Go.Shelf Go.Maps
variable {lo:Nat}
theorem Pg.drew {w:World} {q:Nat} {v:Value} {st:Int} {L:Sts} (h:Pg lo w q v st L):Pg lo w.drew q v st L:=⟨h.blk,h.own.drew,fun x hx h0=>h.has x hx h0⟩
theorem below_drew (q:Nat) (w:World):Below q w w.drew:=⟨rfl,rfl,rfl,Nat.le_refl _,fun _ _=>rfl⟩
theorem below_drew' (q:Nat) (w w':World) (h:Below q w.drew w'):Below q w w':=⟨h.os,h.tape,h.output,h.size,h.block⟩
theorem layAlt_cons (k:Rx.Nd) (r:List Rx.Nd) (hr:r≠[]) (tgt:Nat) (L:List Mx.St) :
  Mx.layAlt (k :: r) tgt L=((Mx.lay k tgt (Mx.layAlt r tgt L).2).2.length,(Mx.lay k tgt (Mx.layAlt r tgt L).2).2 ++ [⟨1,Mx.no,(Mx.lay k tgt (Mx.layAlt r tgt L).2).1,(Mx.layAlt r tgt L).1⟩]):=by
 cases r with
 | nil=>exact absurd rfl hr
 | cons k2 r=>
  rw [Mx.layAlt_two]
theorem layAlt_mono (tgt:Nat) (P:List Mx.St) (hg:Mx.Good P) (ht:tgt < P.length):∀ (pre l:List Rx.Nd),l≠[]→(Mx.layAlt l tgt P).2.length≤(Mx.layAlt (pre ++ l) tgt P).2.length:=by
 intro pre l hl
 induction pre with
 | nil=>exact Nat.le_refl _
 | cons k r ih=>
  have h1:=Mx.layAlt_ok (r ++ l) tgt P hg ht
  have h2:=Mx.lay_ok k tgt _ h1.good (Nat.lt_of_lt_of_le ht h1.le)
  rw [List.cons_append,layAlt_cons _ _ (by simp [hl])]
  have:=h2.le
  simp only [List.length_append,List.length_singleton]
  omega
theorem lay_alt (p q k c:Nat) (l:List Rx.Nd) (ps:List Nat) (w0:World) (hb:Blk w0 p (ndCells 5 noHas 0 0 (.slice (some ⟨k,0,none⟩) l.length c)) 349) (hpq:p < q) (hkq:k < q) (h1:1 < l.length)
  (hc:l.length≤c∧l.length≤1073741824) (hpl:ps.length=l.length) (hps:Ptrs w0 k ps) (hn:∀ i,i < l.length→LayC lo (l.getD i .empty) (ps.getD i 0) q w0):LayC lo (.alt l) p q w0:=by
 intro w v st L tgt hw hpg hgo hto hlen
 have c0:=(hb.keep hw hpq).cell 0 (nd_kind _ _ _ _ _)
 have c3:=(hb.keep hw hpq).cell 259 (nd_kids _ _ _ _ _)
 have hto':tgt < (sts L).length:=by rw [sts_len];exact hto
 have e:Mx.lay (.alt l) tgt (sts L)=Mx.layAlt l tgt (sts L):=by rw [Mx.lay]
 rw [e] at hlen ⊢
 have HOK:Hid (∀ j,j < l.length→Mx.LayOk (sts L) (Mx.layAlt (l.drop j) tgt (sts L))∧(Mx.layAlt (l.drop j) tgt (sts L)).2.length≤1000000):=fun j hj=>
  ⟨Mx.layAlt_ok _ _ _ hgo hto',by
   have:=layAlt_mono tgt (sts L) hgo hto' (l.take j) (l.drop j) (by intro e;have:=congrArg List.length e;simp at this;omega)
   rw [List.take_append_drop] at this
   omega⟩
 have HOL:=Lib.hid (Mx.LayOk.refl hgo hto')
 obtain ⟨N,hN⟩:∃ N,l.length=N:=⟨_,rfl⟩
 obtain ⟨m,hm⟩:∃ m,N=m+2:=⟨N - 2,by omega⟩
 have i0:(0:Int)≤(N:Int) - 1:=by omega
 have i1:(N:Int) - 1 < (N:Int):=by omega
 have cq:w.cell? ⟨k,m+1,none⟩=some (.pointer (some ⟨ps.getD (m+1) 0,0,none⟩)):=by
  have:=hps (m+1) (by omega)
  rw [hw.cell (p:=⟨k,m+1,none⟩) hkq]
  exact this
 have hlast:Mx.layAlt (l.drop (m+1)) tgt (sts L)=Mx.lay (l.getD (m+1) .empty) tgt (sts L):=by
  rw [drop_kid l (m+1) (by omega),List.drop_eq_nil_of_le (by omega),Mx.layAlt_one]
 rw [hN] at c3 hc
 have i2:IntKind.i64.wrap ((N:Int) - 1)=(N:Int) - 1:=by simp [IntKind.wrap,IntKind.signed,IntKind.bits];omega
 have i4:(1:Int)≤(N:Int):=by omega
 have i5:1≤N:=by omega
 have i6:0 < N:=by omega
 have i3:((N:Int) - 1).toNat=N - 1:=by omega
 have hcall:=hn (m+1) (by omega) w.drew v st L tgt (hw.trans (below_drew q w)) hpg.drew hgo hto (by rw [← hlast];exact (HOK.out (m+1) (by omega)).2)
 unfold LayPost at hcall
 rw [← hlast] at hcall
 have HPS:=Lib.hid hps
 have HN:=Lib.hid hn
 have HB:=Lib.hid hb
 have HW:=Lib.hid hw
 have HM:=Lib.hid hm
 have HNL:=Lib.hid hN
 have HGO:=Lib.hid hgo
 unfold LayPost
 clear hps hn hb hpg hw e hgo hlen hlast hN h1
 generalize hA:Mx.layAlt (l.drop (m+1)) tgt (sts L)=a at *
 have HA:=Lib.hid hA
 clear hA
 generalize hpj:ps.getD (m+1) 0=pj at *
 clear hpj
 rw [show m+1=N - 1 by omega] at cq
 clear hm
 go_enter Tryz.func173,Tryz.ntmps173
 go_wp2_with fail
 go_region_held3 (fun w'=>w'.cell? ⟨p,259,none⟩=some (.slice (some ⟨k,0,none⟩) N c)∧w'.cell? ⟨k,N - 1,none⟩=some (.pointer (some ⟨pj,0,none⟩)))
  (first | go_keep | (exact ⟨HK3,HQ3⟩))
  ((go_at_call 173;refine hcall.mono ?_;rintro e w3 ⟨rfl,⟨v3,L3,hpg3,hst3⟩,hb3⟩;have HK3:w3.cell? ⟨p,259,none⟩=some (.slice (some ⟨k,0,none⟩) N c):=(by rw [hb3.cell (p:=⟨p,259,none⟩) hpq];exact c3);have HQ3:w3.cell? ⟨k,N - 1,none⟩=some (.pointer (some ⟨pj,0,none⟩)):=(by rw [hb3.cell (p:=⟨k,N - 1,none⟩) hkq];exact cq)))
 have HP3:=Lib.hid hpg3
 have HS3:=Lib.hid hst3
 have HB3:=Lib.hid (below_drew' q w w3 hb3)
 clear hpg3 hst3 hb3 hcall cq HQ3 i3
 go_wp2_with fail
 go_loopw [8,9] (fun x8 x9 wr=>∃ (j:Nat) (v':Value) (L':Sts),j+1≤N∧x8=.int .i64 (Mx.layAlt (l.drop j) tgt (sts L)).1∧x9=.int .i64 ((j:Int) - 1)∧Pg lo wr q v' st L'∧sts L'=(Mx.layAlt (l.drop j) tgt (sts L)).2∧Below q w wr) (fun _ x9 _=>(intOf x9+1).toNat)
 case atStart=>exact ⟨m+1,v3,L3,by have:=HM.out;omega,by rw [HA.out],by have:=HM.out;congr 1;omega,HP3.out,by rw [HA.out];exact HS3.out,HB3.out⟩
 case round=>
  obtain ⟨j,v',L',hj,rfl,rfl,hpg,hst,hbw⟩:=hrel
  cases j with
  | zero=>
   have HP2:=Lib.hid hpg
   have HS2:=Lib.hid hst
   have HB2:=Lib.hid hbw
   rw [List.drop_zero] at HS2 ⊢
   clear hpg hst hbw
   go_wp2_with fail
   go_ret
   exact ⟨rfl,⟨_,_,HP2.out,HS2.out⟩,HB2.out⟩
  | succ j=>
   have hlN:=HNL.out
   have hkid:=drop_kid l j (by omega)
   have hok:=HOK.out (j+1) (by omega)
   have hok2:=HOK.out j (by omega)
   have hb2:=HB.out.keep (HW.out.trans hbw) hpq
   have cr0:wr.cell? ⟨p,0,none⟩=some (.int .i64 5):=hb2.cell 0 (nd_kind _ _ _ _ _)
   have cr3:wr.cell? ⟨p,259,none⟩=some (.slice (some ⟨k,0,none⟩) N c):=by have:=hb2.cell 259 (nd_kids _ _ _ _ _);rw [hlN] at this;exact this
   have hwr:=HW.out.trans hbw
   have cq:wr.cell? ⟨k,j,none⟩=some (.pointer (some ⟨ps.getD j 0,0,none⟩)):=by
    have:=HPS.out j (by omega)
    rw [hwr.cell (p:=⟨k,j,none⟩) hkq]
    exact this
   have hcons:=layAlt_cons (l.getD j .empty) (l.drop (j+1)) (by intro e;have:=congrArg List.length e;simp at this;omega) tgt (sts L)
   rw [← hkid] at hcons
   rw [hcons] at hok2
   have HLC:=Lib.hid hcons
   clear hcons hkid
   generalize Mx.layAlt (l.drop (j+1)) tgt (sts L)=a2 at *
   obtain ⟨t2,P2⟩:=a2
   simp only at hst hok hok2 HLC ⊢
   subst hst
   have hlen2:=hok2.2
   simp only [List.length_append,List.length_singleton] at hlen2
   have hle:=hok.1.le
   rw [sts_len,sts_len] at hle
   have hcall:=HN.out j (by omega) wr v' st L' tgt hwr hpg hok.1.good (by omega) (by omega)
   unfold LayPost at hcall
   have HBW:=Lib.hid hbw
   clear hok hok2 hpg hb2 hwr hbw hle c0 c3 HK3
   generalize Mx.lay (l.getD j .empty) tgt (sts L')=a3 at *
   generalize ps.getD j 0=pj2 at *
   have hj1:((j+1:Nat):Int) - 1=(j:Int):=by omega
   rw [hj1]
   go_wp2_with fail
   refine hcall.mono ?_
   rintro e w4 ⟨rfl,⟨v4,L4,hpg4,hst4⟩,hb4⟩
   have hl4:L4.length+1≤1000000:=by rw [← sts_len,hst4];exact hlen2
   have hadd:=add_any w4 q v4 st L4 ⟨1,Mx.no,a3.1,t2⟩ none hpg4 (by omega) fun h=>by simp at h
   unfold stV at hadd
   have HS4:=Lib.hid hst4
   have HB4:=Lib.hid (HBW.out.trans hb4)
   clear hpg4 hst4 hb4 hcall cq
   go_wp2_with fail
   refine hadd.mono ?_
   rintro e w5 ⟨⟨rfl,v5,hpg5⟩,hb5⟩
   have HP5:=Lib.hid hpg5
   have HB5:=Lib.hid (HB4.out.trans hb5)
   have HL4:Hid ((L4.length:Int)=a3.2.length):=by show _=_;rw [← HS4.out,sts_len]
   clear hpg5 hb5 hadd
   go_wp2_with fail
   refine ⟨⟨j,v5,_,by omega,by rw [HLC.out];simp only;rw [HL4.out],by go_num,HP5.out,by rw [HLC.out,sts_app,HS4.out];rfl,HB5.out⟩, ?_⟩
   show ((j:Int) - 1+1).toNat < ((j:Int)+1).toNat
   omega
end Go.Proofs.YtefpcacnblaokaaGreatDoor.Rg

/-
  The walk of repeat. Condition: the node lies in memory, below the states.
-/
set_option maxRecDepth 100000
set_option maxHeartbeats 3200000
namespace Go.Proofs.YtefpcacnblaokaaGreatDoor.Rg
open Go.RowKit Go.Shelf Go.Maps
variable {lo:Nat}
def setTo (L:Sts) (i t:Nat):Sts:=L.modify i fun x=>(⟨x.1.kind,x.1.has,t,x.1.or⟩,x.2)
theorem setTo_len (L:Sts) (i t:Nat):(setTo L i t).length=L.length:=by simp [setTo]
theorem setTo_sts (L:Sts) (i t:Nat):sts (setTo L i t)=Mx.setTo (sts L) i t:=by
 unfold setTo Mx.setTo sts
 apply List.ext_getElem?
 intro j
 simp only [List.getElem?_map,List.getElem?_modify]
 split <;> cases L[j]? <;> rfl
theorem setTo_row:∀ (L:Sts) (i t:Nat),row (setTo L i t)=(row L).set (i * 4+2) (.int .i64 t)
 | [],i,t=>by simp [setTo,row]
 | x :: r,0,t=>by simp [setTo,row,stV]
 | x :: r,i+1,t=>by
  have ih:=setTo_row r i t
  have e:(i+1) * 4+2=(i * 4+2)+1+1+1+1:=by omega
  rw [e]
  simpa [setTo,row,stV] using ih
theorem setTo_mem {L:Sts} {i t:Nat} {x:Mx.St × Option Nat} (h:x ∈ setTo L i t):∃ y ∈ L,x.1.kind=y.1.kind∧x.1.has=y.1.has∧x.2=y.2:=by
 obtain ⟨j,hj,rfl⟩:=List.mem_iff_getElem.1 h
 have hj2:j < L.length:=by simpa [setTo] using hj
 refine ⟨L[j],List.getElem_mem _, ?_⟩
 simp only [setTo,List.getElem_modify]
 split <;> exact ⟨rfl,rfl,rfl⟩
theorem Pg.setTo {w:World} {q g n c:Nat} {st:Int} {L:Sts} (h:Pg lo w q (.slice (some ⟨g,0,none⟩) n c) st L) (hn:n=L.length) (i t:Nat) :
  Pg lo (w.setCell ⟨g,i * 4+2,none⟩ (.int .i64 t)) q (.slice (some ⟨g,0,none⟩) n c) st (setTo L i t)∧Below q w (w.setCell ⟨g,i * 4+2,none⟩ (.int .i64 t)):=by
 subst hn
 have hg:=(h.own.lt g rfl).1
 have hk:Kept (fun k=>q+1≤k) w (w.setCell ⟨g,i * 4+2,none⟩ (.int .i64 t)):=(Kept.refl (fun k=>q+1≤k) w).setCell (.inl hg) _ _
 refine ⟨⟨h.blk.kept hk (by omega), ?_, ?_⟩,hk.os,hk.tape,hk.output,hk.size,fun k hk'=>hk.block k (by have:=h.blk.lt;omega) (by omega)⟩
 ·rw [setTo_len,setTo_row]
  exact (World.ownsRow.stored h.own (i * 4+2) _).1
 ·intro x hx hx0
  obtain ⟨y,hy,e1,e2,e3⟩:=setTo_mem hx
  obtain ⟨b,e,hb,hh⟩:=h.has y hy (by rw [← e1];exact hx0)
  exact ⟨b,by rw [e3];exact e,hb,by rw [e2];exact hh.kept hk (by omega)⟩
structure RepIn (n:Rx.Nd) (m:Nat) (most:Int) (tgt:Nat) (P:List Mx.St) (S R a0:Nat) (P0:List Mx.St):Prop where
 ok:Mx.LayOk P (a0,P0)
 eq:Hid (Mx.lay (.rep m most n) tgt P=Mx.times n R (Mx.splits n S a0 tgt P0).1 (Mx.splits n S a0 tgt P0).2)
 s:S=(most - m).toNat
 r:R≤255
theorem repeat_any (p q k kq m:Nat) (most:Int) (n:Rx.Nd) (w0:World) (hb:Blk w0 p (ndCells 6 noHas m most (.slice (some ⟨k,0,none⟩) 1 1)) 349) (hpq:p < q) (hkq:k < q)
  (hps:Ptrs w0 k [kq]) (hm:m≤255∧-1≤most∧most≤255) (hn:LayC lo n kq q w0) (w:World) (v:Value) (st:Int) (L:Sts) (tgt:Nat) (hw:Below q w0 w) (hpg:Pg lo w q v st L) (hgo:Mx.Good (sts L)) (hto:tgt < L.length)
  (hlen:(Mx.lay (.rep m most n) tgt (sts L)).2.length≤1000000) :
  Calls Tryz.prog 233 #[.pointer (some ⟨q,0,none⟩),.pointer (some ⟨p,0,none⟩),.int .i64 tgt] w (LayPost lo (Mx.lay (.rep m most n) tgt (sts L)) q w st):=by
 have hbw:=hb.keep hw hpq
 have c1:w.cell? ⟨p,257,none⟩=some (.int .i64 m):=hbw.cell 257 (nd_min _ _ _ _ _)
 have c2:w.cell? ⟨p,258,none⟩=some (.int .i64 most):=hbw.cell 258 (nd_max _ _ _ _ _)
 have c3:w.cell? ⟨p,259,none⟩=some (.slice (some ⟨k,0,none⟩) 1 1):=hbw.cell 259 (nd_kids _ _ _ _ _)
 have hto':tgt < (sts L).length:=by rw [sts_len];exact hto
 have cq:∀ w',Below q w0 w'→w'.cell? ⟨k,0,none⟩=some (.pointer (some ⟨kq,0,none⟩)):=by
  intro w' h
  rw [h.cell (p:=⟨k,0,none⟩) hkq]
  exact hps 0 (by simp)
 have HCQ:=Lib.hid cq
 have HN:=Lib.hid hn
 have HB:=Lib.hid hb
 have HPG:=Lib.hid hpg
 have HW:=Lib.hid hw
 have HGO:=Lib.hid hgo
 have HLEN:=Lib.hid hlen
 unfold LayPost
 clear hps hn hb hpg hw hgo hlen hbw cq
 go_enter Tryz.func233,Tryz.ntmps233
 go_wp2_with fail
 go_region
 go_upto_if 20 with fail
 go_cut [7,8,9] (fun s7 s8 _ wx=>∃ (S R a0:Nat) (v0:Value) (L0:Sts),s7=.int .i64 a0∧s8=.int .i64 R∧Pg lo wx q v0 st L0∧Below q w wx∧RepIn n m most tgt (sts L) S R a0 (sts L0))
 case first=>
  by_cases hlt:most < 0
  ·have hlen1:(Mx.lay n L.length (sts L ++ [⟨1,Mx.no,0,tgt⟩])).2.length≤1000000:=by
    have h:=HLEN.out
    rw [Mx.lay_rep,if_pos hlt] at h
    refine Nat.le_trans ?_ h
    rw [sts_len]
    have h1:=Mx.layOk_push HGO.out ⟨1,Mx.no,0,tgt⟩ (Nat.succ_pos _) (Nat.lt_succ_of_lt hto')
    have h2:=Mx.lay_ok n (sts L).length _ h1.good (by simp)
    have h3:=Mx.setTo_good h2.good (sts L).length _ h2.lt
    rw [sts_len] at h2 h3
    split
    ·have:=(Mx.times_ok n (fun t P=>Mx.lay_ok n t P) (m - 1) _ _ h3 (by rw [Mx.setTo_len];exact h2.lt)).le
     rw [Mx.setTo_len] at this
     exact this
    ·simp only [Mx.setTo_len];exact Nat.le_refl _
   have hadd:=add_any w.drew q v st L ⟨1,Mx.no,0,tgt⟩ none HPG.out.drew (by
    have:=(Mx.lay_ok n L.length (sts L ++ [⟨1,Mx.no,0,tgt⟩]) (Mx.good_push HGO.out _ (Nat.succ_pos _) (Nat.lt_succ_of_lt hto')) (by simp [sts_len])).le
    simp [sts_len] at this
    omega) fun h=>by simp at h
   unfold stV at hadd
   have HL1:=Lib.hid hlen1
   clear hlen1
   go_wp2_with fail
   refine hadd.mono ?_
   rintro e w2 ⟨⟨rfl,v2,hpg2⟩,hb2⟩
   have HP2:=Lib.hid hpg2
   have hb2':=below_drew' q w w2 hb2
   have HB2:=Lib.hid hb2'
   have hbn:=HB.out.keep (HW.out.trans hb2') hpq
   have cn3:w2.cell? ⟨p,259,none⟩=some (.slice (some ⟨k,0,none⟩) 1 1):=hbn.cell 259 (nd_kids _ _ _ _ _)
   have cnk:=HCQ.out w2 (HW.out.trans hb2')
   clear hpg2 hb2 hb2' hadd hbn c1 c2 c3
   go_wp2_with fail
   have hg1:Mx.Good (sts (L ++ [((⟨1,Mx.no,0,tgt⟩:Mx.St),(none:Option Nat))])):=by
    rw [sts_app]
    exact Mx.good_push HGO.out _ (Nat.succ_pos _) (Nat.lt_succ_of_lt hto')
   have hcall:=HN.out w2 v2 st (L ++ [((⟨1,Mx.no,0,tgt⟩:Mx.St),(none:Option Nat))]) L.length (HW.out.trans HB2.out) HP2.out hg1 (by simp) (by rw [sts_app];exact HL1.out)
   unfold LayPost at hcall
   rw [show sts (L ++ [((⟨1,Mx.no,0,tgt⟩:Mx.St),(none:Option Nat))])=sts L ++ [⟨1,Mx.no,0,tgt⟩] from sts_app _ _] at hcall
   have hok2:=Mx.lay_ok n L.length (sts L ++ [⟨1,Mx.no,0,tgt⟩]) (by rw [sts_app] at hg1;exact hg1) (by simp [sts_len])
   have HE:Hid (Mx.lay (.rep m most n) tgt (sts L)=if 0 < m then Mx.times n (m - 1) (Mx.lay n L.length (sts L ++ [⟨1,Mx.no,0,tgt⟩])).1 (Mx.setTo (Mx.lay n L.length (sts L ++ [⟨1,Mx.no,0,tgt⟩])).2 L.length (Mx.lay n L.length (sts L ++ [⟨1,Mx.no,0,tgt⟩])).1) else (L.length,Mx.setTo (Mx.lay n L.length (sts L ++ [⟨1,Mx.no,0,tgt⟩])).2 L.length (Mx.lay n L.length (sts L ++ [⟨1,Mx.no,0,tgt⟩])).1)):=by
    show _=_
    rw [Mx.lay_rep,if_pos hlt,sts_len]
   have hle2:=hok2.le
   simp only [List.length_append,List.length_singleton,sts_len] at hle2
   have HPRE:Hid (∃ X,Mx.setTo (Mx.lay n L.length (sts L ++ [⟨1,Mx.no,0,tgt⟩])).2 L.length (Mx.lay n L.length (sts L ++ [⟨1,Mx.no,0,tgt⟩])).1=sts L ++ X):=by
    obtain ⟨X,hX⟩:=hok2.pre
    refine ⟨Mx.setTo ([⟨1,Mx.no,0,tgt⟩] ++ X) 0 (Mx.lay n L.length (sts L ++ [⟨1,Mx.no,0,tgt⟩])).1, ?_⟩
    have:=Mx.setTo_pre (sts L) ([⟨1,Mx.no,0,tgt⟩] ++ X) (Mx.lay n L.length (sts L ++ [⟨1,Mx.no,0,tgt⟩])).1
    rw [sts_len] at this
    rw [← this,hX,List.append_assoc]
   have HG3:=Lib.hid (Mx.setTo_good hok2.good L.length _ hok2.lt)
   have HLT:=Lib.hid hok2.lt
   clear hg1 hok2 HL1
   generalize Mx.lay n L.length (sts L ++ [⟨1,Mx.no,0,tgt⟩])=a at *
   refine hcall.mono ?_
   rintro e w3 ⟨rfl,⟨v3,L3,hpg3,hst3⟩,hb3⟩
   have hl3:L.length < L3.length:=by rw [← sts_len L3,hst3];omega
   rcases own_form' hpg3.own with ⟨-,h0⟩ | ⟨g,c3',rfl,hg,hcap⟩
   ·omega
   have hb3':=HB2.out.trans hb3
   have HB3:=Lib.hid hb3'
   have HS3:=Lib.hid hst3
   have HST:=Lib.hid (hpg3.setTo rfl L.length a.1)
   have hbn:=HB.out.keep (HW.out.trans hb3') hpq
   have cn1:w3.cell? ⟨p,257,none⟩=some (.int .i64 m):=hbn.cell 257 (nd_min _ _ _ _ _)
   have cl:w3.cell? ⟨q,0,none⟩=some (.slice (some ⟨g,0,none⟩) L3.length c3'):=hpg3.blk.cell 0 rfl
   obtain ⟨ov,hov⟩:∃ ov,(row L3)[L.length * 4+2]?=some ov:=⟨_,List.getElem?_eq_getElem (by rw [row_len];omega)⟩
   have ce:w3.cell? ⟨g,L.length * 4+2,none⟩=some ov:=by
    rw [World.ownsRow.cellAt hpg3.own (L.length * 4+2) (by omega),hov]
   have fe:=World.ownsRow.frozenAt hpg3.own (L.length * 4+2)
   have j1:(0:Int)≤(L.length:Int):=Int.natCast_nonneg _
   have j2:(L.length:Int) < (L3.length:Int):=by omega
   clear hpg3 hst3 hb3 hb3' hcall cn3 cnk hbn hov
   go_wp2_with fail
   ·go_meet
    refine ⟨0,m - 1,a.1,_,setTo L3 L.length a.1,rfl,by congr 1;omega,HST.out.1,HB3.out.trans HST.out.2,⟨⟨?_, ?_, ?_⟩, ?_,by omega,by omega⟩⟩
    ·rw [setTo_sts,HS3.out];exact HG3.out
    ·rw [setTo_sts,HS3.out,Mx.setTo_len];exact HLT.out
    ·rw [setTo_sts,HS3.out];exact HPRE.out
    ·show _=_
     rename_i h0
     rw [HE.out,if_pos h0,setTo_sts,HS3.out,Mx.splits_zero]
   ·go_meet
    rename_i h0
    refine ⟨0,0,L.length,_,setTo L3 L.length a.1,rfl,by congr 1;omega,HST.out.1,HB3.out.trans HST.out.2,⟨⟨?_, ?_, ?_⟩, ?_,by omega,by omega⟩⟩
    ·rw [setTo_sts,HS3.out];exact HG3.out
    ·rw [setTo_sts,HS3.out,Mx.setTo_len];show L.length < _;omega
    ·rw [setTo_sts,HS3.out];exact HPRE.out
    ·show _=_
     rw [HE.out,if_neg h0,setTo_sts,HS3.out,Mx.splits_zero,Mx.times_zero]
  ·go_wp2_with fail
   go_meet
   refine ⟨(most - m).toNat,m,tgt,v,L,rfl,rfl,HPG.out.drew,below_drew q w,⟨Mx.LayOk.refl HGO.out hto', ?_,rfl,hm.1⟩⟩
   show _=_
   rw [Mx.lay_rep,if_neg (Int.not_lt.2 hlt)]
   rw [show most.toNat - m=(most - m).toNat by omega]
 case rest=>
  obtain ⟨S,R,a0,v0,L0,rfl,rfl,hpg0,hb0,hri⟩:=hcut
  have hbn:=HB.out.keep (HW.out.trans hb0) hpq
  have d1:wc.cell? ⟨p,257,none⟩=some (.int .i64 m):=hbn.cell 257 (nd_min _ _ _ _ _)
  have d2:wc.cell? ⟨p,258,none⟩=some (.int .i64 most):=hbn.cell 258 (nd_max _ _ _ _ _)
  have HP0:=Lib.hid hpg0
  have HB0:=Lib.hid hb0
  have HRI:=Lib.hid hri
  clear hpg0 hb0 hri hbn c1 c2 c3
  go_wp2_with fail
  have hto0:tgt < (sts L0).length:=by have:=HRI.out.ok.le;simp only at this;omega
  have hfo:=Mx.splits_ok n (fun t P=>Mx.lay_ok n t P) S a0 tgt (sts L0) HRI.out.ok.good HRI.out.ok.lt hto0
  have HEQ:=HRI.out.eq
  generalize hF:Mx.splits n S a0 tgt (sts L0)=F at HEQ hfo
  have hFl:F.2.length≤1000000:=by
   have h1:=HLEN.out
   rw [HEQ.out] at h1
   have:=(Mx.times_ok n (fun t P=>Mx.lay_ok n t P) R F.1 F.2 hfo.good hfo.lt).le
   omega
  have HF:=Lib.hid hF
  have HFO:=Lib.hid hfo
  have hS:=HRI.out.s
  have hR:=HRI.out.r
  have hle0:=HRI.out.ok.le
  rw [sts_len,sts_len] at hle0
  clear hF hfo hto0
  go_loopw [7,10] (fun x7 x10 wr=>∃ (s a1:Nat) (xi:Int) (v1:Value) (L1:Sts),x7=.int .i64 a1∧x10=.int .i64 xi∧s=(xi - m).toNat∧-1≤xi∧xi≤255∧Pg lo wr q v1 st L1∧Below q w wr∧Mx.Good (sts L1)∧a1 < L1.length∧L.length≤L1.length∧Hid (Mx.splits n s a1 tgt (sts L1)=F)) (fun _ x10 _=>(intOf x10 - m).toNat)
  case atStart=>exact ⟨S,a0,most,v0,L0,rfl,rfl,hS,hm.2.1,hm.2.2,HP0.out,HB0.out,HRI.out.ok.good,by have:=HRI.out.ok.lt;rw [sts_len] at this;exact this,hle0,HF⟩
  case round=>
   obtain ⟨s,a1,xi,v1,L1,rfl,rfl,hs,hx1,hx2,hpg1,hb1,hg1,hlt1,hle1,heq⟩:=hrel
   have hbn:=HB.out.keep (HW.out.trans hb1) hpq
   have d1:wr.cell? ⟨p,257,none⟩=some (.int .i64 m):=hbn.cell 257 (nd_min _ _ _ _ _)
   have d3:wr.cell? ⟨p,259,none⟩=some (.slice (some ⟨k,0,none⟩) 1 1):=hbn.cell 259 (nd_kids _ _ _ _ _)
   have d4:=HCQ.out wr (HW.out.trans hb1)
   have HEQ1:=Lib.hid heq
   by_cases hgt:(m:Int) < xi
   ·obtain ⟨s,rfl⟩:∃ t,s=t+1:=⟨s - 1,by omega⟩
    have hlay:=Mx.lay_ok n a1 (sts L1) hg1 (by rw [sts_len];exact hlt1)
    have hgood2:=Mx.good_push hlay.good ⟨1,Mx.no,(Mx.lay n a1 (sts L1)).1,tgt⟩ (Nat.lt_succ_of_lt hlay.lt) (by have:=hlay.le;rw [sts_len] at this;show tgt < _;omega)
    have hle3:=hlay.le
    rw [sts_len] at hle3
    have hlen3:(Mx.lay n a1 (sts L1)).2.length+1≤1000000:=by
     have h1:=HEQ1.out
     unfold Hid at h1
     rw [Mx.splits_succ] at h1
     have h2:=(Mx.splits_ok n (fun t P=>Mx.lay_ok n t P) s (Mx.lay n a1 (sts L1)).2.length tgt _ hgood2 (by simp) (by simp;omega)).le
     rw [h1] at h2
     simp only [List.length_append,List.length_singleton] at h2
     omega
    have HE2:Hid (Mx.splits n s (Mx.lay n a1 (sts L1)).2.length tgt ((Mx.lay n a1 (sts L1)).2 ++ [⟨1,Mx.no,(Mx.lay n a1 (sts L1)).1,tgt⟩])=F):=by
     have h1:=HEQ1.out
     unfold Hid at h1
     rw [Mx.splits_succ] at h1
     exact h1
    have HG2:=Lib.hid hgood2
    have hcall:=HN.out wr v1 st L1 a1 (HW.out.trans hb1) hpg1 hg1 hlt1 (by omega)
    unfold LayPost at hcall
    have HB1:=Lib.hid hb1
    clear hlay hgood2 HEQ1 heq hpg1 hg1 hb1 hbn d2
    generalize Mx.lay n a1 (sts L1)=a at *
    go_wp2_with fail
    refine hcall.mono ?_
    rintro e w2 ⟨rfl,⟨v2,L2,hpg2,hst2⟩,hb2⟩
    have hl2:L2.length=a.2.length:=by rw [← sts_len,hst2]
    have hadd:=add_any w2 q v2 st L2 ⟨1,Mx.no,a.1,tgt⟩ none hpg2 (by omega) fun h=>by simp at h
    unfold stV at hadd
    have HS2:=Lib.hid hst2
    have HB2:=Lib.hid (HB1.out.trans hb2)
    clear hpg2 hst2 hb2 hcall d1 d3 d4
    go_wp2_with fail
    refine hadd.mono ?_
    rintro e w3 ⟨⟨rfl,v3,hpg3⟩,hb3⟩
    have HP3:=Lib.hid hpg3
    have HB3:=Lib.hid (HB2.out.trans hb3)
    have HSS:Hid (sts (L2 ++ [((⟨1,Mx.no,a.1,tgt⟩:Mx.St),(none:Option Nat))])=a.2 ++ [⟨1,Mx.no,a.1,tgt⟩]):=by show _=_;rw [← HS2.out];exact sts_app _ _
    clear hpg3 hb3 hadd
    go_wp2_with fail
    refine ⟨⟨s,L2.length,xi - 1,v3,_,by rw [hl2],by go_num,by omega,by omega,by omega,HP3.out,HB3.out,by rw [HSS.out];exact HG2.out,by simp,by simp;omega,by rw [HSS.out,hl2];exact HE2⟩, ?_⟩
    show (xi - 1 - m).toNat < (xi - m).toNat
    omega
   ·obtain rfl:s=0:=by omega
    have HA1:Hid ((a1,sts L1)=F):=by
     have:=HEQ1.out
     unfold Hid at this
     rw [Mx.splits_zero] at this
     exact this
    have HP1:=Lib.hid hpg1
    have HB1:=Lib.hid hb1
    clear hbn HEQ1 heq hpg1 hg1 hb1 d2 hs
    go_wp2_with fail
    have HG1:Hid (Mx.Good F.2∧F.1 < F.2.length):=⟨HFO.out.good,HFO.out.lt⟩
    have hTL:(Mx.times n R F.1 F.2).2.length≤1000000:=by rw [← HEQ.out];exact HLEN.out
    have HT0:Hid (Mx.times n (R - 0) a1 (sts L1)=Mx.times n R F.1 F.2):=by
     show _=_
     rw [Nat.sub_zero,← HA1.out]
    have HGA:Hid (Mx.Good (sts L1)∧a1 < L1.length):=by
     have h:=HG1.out
     unfold Hid at h
     rw [← HA1.out] at h
     simp only [sts_len] at h
     exact h
    clear HF HFO HG1 HA1 hFl d1 d3 d4
    generalize Mx.times n R F.1 F.2=G at *
    go_loopw [7,73] (fun x7 x73 wr=>∃ (i a2:Nat) (v2:Value) (L2:Sts),i≤R∧x7=.int .i64 a2∧x73=.int .i64 i∧Pg lo wr q v2 st L2∧Below q w wr∧Mx.Good (sts L2)∧a2 < L2.length∧Hid (Mx.times n (R - i) a2 (sts L2)=G)) (fun _ x73 _=>R - (intOf x73).toNat)
    case atStart=>exact ⟨0,a1,v1,L1,Nat.zero_le _,rfl,rfl,HP1.out,HB1.out,HGA.out.1,HGA.out.2,HT0⟩
    case round=>
     obtain ⟨i,a2,v2,L2,hi,rfl,rfl,hpg2,hb2,hg2,hlt2,heq2⟩:=hrel
     by_cases hiR:i < R
     ·have hbn:=HB.out.keep (HW.out.trans hb2) hpq
      have d3:wr.cell? ⟨p,259,none⟩=some (.slice (some ⟨k,0,none⟩) 1 1):=hbn.cell 259 (nd_kids _ _ _ _ _)
      have d4:=HCQ.out wr (HW.out.trans hb2)
      obtain ⟨r,hr⟩:∃ r,R - i=r+1:=⟨R - i - 1,by omega⟩
      rw [hr,Mx.times_succ] at heq2
      have hlay:=Mx.lay_ok n a2 (sts L2) hg2 (by rw [sts_len];exact hlt2)
      have hle3:=(Mx.times_ok n (fun t P=>Mx.lay_ok n t P) r _ _ hlay.good hlay.lt).le
      rw [show Mx.times n r (Mx.lay n a2 (sts L2)).1 (Mx.lay n a2 (sts L2)).2=G from heq2] at hle3
      have hcall:=HN.out wr v2 st L2 a2 (HW.out.trans hb2) hpg2 hg2 hlt2 (by omega)
      unfold LayPost at hcall
      have HE2:Hid (Mx.times n (R - (i+1)) (Mx.lay n a2 (sts L2)).1 (Mx.lay n a2 (sts L2)).2=G):=by
       rw [show R - (i+1)=r by omega];exact heq2
      have HL:=Lib.hid hlay
      have HB2:=Lib.hid hb2
      clear hlay heq2 hpg2 hg2 hb2 hbn hr hle3
      generalize Mx.lay n a2 (sts L2)=a at *
      go_wp2_with fail
      refine hcall.mono ?_
      rintro e w3 ⟨rfl,⟨v3,L3,hpg3,hst3⟩,hb3⟩
      have HP3:=Lib.hid hpg3
      have HS3:=Lib.hid hst3
      have HB3:=Lib.hid (HB2.out.trans hb3)
      clear hpg3 hst3 hb3 hcall d3 d4
      go_wp2_with fail
      refine ⟨⟨i+1,a.1,v3,L3,by omega,rfl,by go_num,HP3.out,HB3.out,by rw [HS3.out];exact HL.out.good,by rw [← sts_len,HS3.out];exact HL.out.lt,by rw [HS3.out];exact HE2⟩, ?_⟩
      show R - ((i:Int)+1).toNat < R - (i:Int).toNat
      omega
     ·obtain rfl:i=R:=by omega
      have HA2:Hid ((a2,sts L2)=G):=by
       have:=heq2
       unfold Hid at this
       rw [Nat.sub_self,Mx.times_zero] at this
       exact this
      have HP2:=Lib.hid hpg2
      have HB2:=Lib.hid hb2
      clear heq2 hpg2 hg2 hb2 hi
      go_wp2_with fail
      go_ret
      refine ⟨?_,⟨_,_,HP2.out, ?_⟩,HB2.out⟩
      ·have h1:(Mx.lay (.rep m most n) tgt (sts L)).1=a2:=by have:=HEQ.out.trans HA2.out.symm;rw [this]
       rw [h1]
       rfl
      ·have h2:(Mx.lay (.rep m most n) tgt (sts L)).2=sts L2:=by have:=HEQ.out.trans HA2.out.symm;rw [this]
       rw [h2]
end Go.Proofs.YtefpcacnblaokaaGreatDoor.Rg

/-
  The walks of lay (any node) and New. Condition: the node lies in memory; it makes no more than a million states.
-/
set_option maxRecDepth 100000
set_option maxHeartbeats 3200000
namespace Go.Proofs.YtefpcacnblaokaaGreatDoor.Rg
open Go.RowKit Go.Shelf Go.Maps
variable {lo:Nat}
theorem reNode_any (w:World) (q p:Nat) (t:TypeId) (hb:Blk w q #[.pointer (some ⟨p,0,none⟩)] t) :
  Calls Tryz.prog 174 #[.pointer (some ⟨q,0,none⟩)] w fun e w'=>e=.returned (.pointer (some ⟨p,0,none⟩))∧w'=w:=by
 have c0:w.cell? ⟨q,0,none⟩=some (.pointer (some ⟨p,0,none⟩)):=hb.cell 0 rfl
 go_enter Tryz.func174,Tryz.ntmps174
 go_wp2_with fail
 go_ret
 exact ⟨rfl,rfl⟩
theorem lay_rep (p q k kq m:Nat) (most:Int) (n:Rx.Nd) (w0:World) (hb:Blk w0 p (ndCells 6 noHas m most (.slice (some ⟨k,0,none⟩) 1 1)) 349) (hpq:p < q) (hkq:k < q)
  (hps:Ptrs w0 k [kq]) (hm:m≤255∧-1≤most∧most≤255) (hn:LayC lo n kq q w0):LayC lo (.rep m most n) p q w0:=by
 intro w v st L tgt hw hpg hgo hto hlen
 have c0:=(hb.keep hw hpq).cell 0 (nd_kind _ _ _ _ _)
 have hrep:=repeat_any p q k kq m most n w0 hb hpq hkq hps hm hn w v st L tgt hw hpg hgo hto hlen
 generalize Mx.lay (.rep m most n) tgt (sts L)=a at *
 unfold LayPost at hrep ⊢
 clear hb hpg hw hps hn hgo
 go_enter Tryz.func173,Tryz.ntmps173
 go_wp2_with fail
 refine hrep.mono ?_
 rintro e w' ⟨rfl,h2,h3⟩
 have H2:=Lib.hid h2
 have H3:=Lib.hid h3
 clear h2 h3 hrep
 go_wp2_with fail
 go_ret
 exact ⟨rfl,H2.out,H3.out⟩
theorem lay_any {M:Nat→Prop} {w0:World} {p:Nat} {n:Rx.Nd} (h:NdIn w0 M p n) (q:Nat) (hM:∀ b,M b→lo≤b∧b < q):LayC lo n p q w0:=by
 induction h with
 | empty hp hb=>exact lay_empty _ q w0 hb (hM _ hp).2
 | set hp hb=>exact lay_set _ q _ w0 hb (hM _ hp)
 | beg hp hb=>exact lay_beg _ q w0 hb (hM _ hp).2
 | fin hp hb=>exact lay_fin _ q w0 hb (hM _ hp).2
 | cat hp hb h0 hc hk hl hps _ ih=>exact lay_cat _ q _ _ _ _ w0 hb (hM _ hp).2 (hM _ hk).2 hc hl hps ih
 | alt hp hb h0 hc hk hl hps _ ih=>exact lay_alt _ q _ _ _ _ w0 hb (hM _ hp).2 (hM _ hk).2 h0 hc hl hps ih
 | rep hp hb hk hps _ hm ih=>exact lay_rep _ q _ _ _ _ _ w0 hb (hM _ hp).2 (hM _ hk).2 hps hm ih
theorem Pg.start {w:World} {q:Nat} {v:Value} {st:Int} {L:Sts} (h:Pg lo w q v st L) (s:Int):Pg lo (w.setCell ⟨q,1,none⟩ (.int .i64 s)) q v s L∧Below q w (w.setCell ⟨q,1,none⟩ (.int .i64 s)):=by
 have hk:Kept (·=q) w (w.setCell ⟨q,1,none⟩ (.int .i64 s)):=(Kept.refl (·=q) w).setCell (.inl rfl) 1 _
 refine ⟨⟨h.blk.set 1 _,own_kept h.own hk ?_, ?_⟩,hk.os,hk.tape,hk.output,hk.size,fun k hk'=>hk.block k (by have:=h.blk.lt;omega) (by omega)⟩
 ·rintro k e rfl
  have:=(h.own.lt k e).1
  omega
 ·intro x hx h0
  obtain ⟨b,e,hb,hh⟩:=h.has x hx h0
  exact ⟨b,e,hb,hh.kept hk (by omega)⟩
def progOf (n:Rx.Nd):Nat × List Mx.St:=Mx.lay n 0 [⟨4,Mx.no,0,0⟩]
def NewPost (lo:Nat) (a:Nat × List Mx.St) (q:Nat) (e:Ending) (w':World):Prop:=
 e=.returned (.pointer (some ⟨q,0,none⟩))∧∃ v L,Pg lo w' q v a.1 L∧sts L=a.2
theorem New_any (B r:Nat) (n:Rx.Nd) (w:World) (h:ReAt w B r n) (hlen:(progOf n).2.length≤1000000) :
  Calls Tryz.prog 106 #[.pointer (some ⟨r,0,none⟩)] w fun e w'=>NewPost B (progOf n) w.heap.size e w'∧Below w.heap.size w w':=by
 obtain ⟨p,hb,hB,hn⟩:=h
 generalize hA:progOf n=a at hlen ⊢
 have HPO:Hid (Mx.lay n 0 (sts ([] ++ [((⟨4,Mx.no,0,0⟩:Mx.St),(none:Option Nat))]))=a):=hA
 clear hA
 unfold NewPost
 have hpg:Pg B (w.alloc (.cells #[.slice none 0 0,.int .i64 0] 282)) w.heap.size (.slice none 0 0) 0 []:=
  ⟨Blk.new w _ _,World.ownsRow_nil _ _ _ _,fun x hx=>by cases hx⟩
 have hbl:Below w.heap.size w (w.alloc (.cells #[.slice none 0 0,.int .i64 0] 282)):=(Below.refl _ _).alloc (Nat.le_refl _) _
 have HN:=Lib.hid hn
 have HB:=Lib.hid hb
 clear hb hn
 go_enter Tryz.func106,Tryz.ntmps106
 go_wp2_with fail
 have hnode:=reNode_any (w.alloc (.cells #[.slice none 0 0,.int .i64 0] 282)) r p _ (HB.out.alloc _)
 refine hnode.mono ?_
 rintro e w1 ⟨rfl,rfl⟩
 have hadd:=add_any (w.alloc (.cells #[.slice none 0 0,.int .i64 0] 282)) w.heap.size _ 0 [] ⟨4,Mx.no,0,0⟩ none hpg (by decide) fun h=>by simp at h
 unfold stV at hadd
 clear hnode
 go_wp2_with fail
 refine hadd.mono ?_
 rintro e w2 ⟨⟨rfl,v2,hpg2⟩,hb2⟩
 have hbw2:=hbl.trans hb2
 have hcall:=lay_any HN.out.lt w.heap.size (fun b hb=>hb) w2 v2 0 _ 0 hbw2 hpg2 (fun s hs=>by
  have:s=⟨4,Mx.no,0,0⟩:=by simpa [sts] using hs
  subst this
  exact ⟨by simp [sts],by simp [sts]⟩) (by simp) (by rw [HPO.out];exact hlen)
 unfold LayPost at hcall
 rw [HPO.out] at hcall
 have HB2:=Lib.hid hbw2
 clear hadd hpg hpg2 hb2 hbw2 hbl HPO
 go_wp2_with fail
 refine hcall.mono ?_
 rintro e w3 ⟨rfl,⟨v3,L3,hpg3,hst3⟩,hb3⟩
 have cq1:w3.cell? ⟨w.heap.size,1,none⟩=some (.int .i64 0):=hpg3.blk.cell 1 rfl
 have fq1:=hpg3.blk.free 1
 have HPS:=Lib.hid (hpg3.start a.1)
 have HS3:=Lib.hid hst3
 have HB3:=Lib.hid (HB2.out.trans hb3)
 clear hpg3 hst3 hb3 hcall
 go_wp2_with fail
 go_ret
 exact ⟨⟨rfl,v3,L3,HPS.out.1,HS3.out⟩,HB3.out.trans HPS.out.2⟩
end Go.Proofs.YtefpcacnblaokaaGreatDoor.Rg
