/-
  Texts of this seat put together: Sd15, Sd16, Sd17, Sd18, Sd19.
-/
import Derived.Test.YtefpcacnblaokaaGreatDoorQ23

/-
  The walk of the script reader's command: a label. Conditions: the reader lies in memory; what the library's variables hold; what the spec tells.
-/
set_option maxRecDepth 100000
set_option maxHeartbeats 8000000
namespace Go.Proofs.YtefpcacnblaokaaGreatDoor
open Go.RowKit Go.Shelf Go.Maps Go.Sort
theorem scmd_colon (B r:Nat) (hB8:8≤B) (K:Nat→Prop) (q:Sd.RS) (qs:List Nat) (x:Sd.Cmd) (s:Bts) (hwh:Sd.whereF q.s=some (x,s)) (hc:x.c=58) (hs:s.length≤1000000) (hasc:s.all (fun b=>decide (b.toNat < 128))=true) (hlt1:q.l.length < 1000000) (hne:(Sd.name s).1≠[]) (hpv:Sd.place (Sd.name s).1 (q.l ++ [labOf x (Sd.name s).1])=some q.l.length) (_hlen:q.l.length≤1000000) (w:World) (hg:Glo w) (h:RSt w K B r q qs) :
  Calls Tryz.prog 31 #[.pointer (some ⟨r,0,none⟩)] w fun e w'=>CmdDone B r ⟨(Sd.name s).2,q.l ++ [labOf x (Sd.name s).1],q.opn⟩ w e w':=by
 have HNM:=Lib.hid hs
 have HASC:=Lib.hid hasc
 clear hs hasc
 have HPV:=Lib.hid hpv
 have HNE:=Lib.hid (show ((Sd.name s).1=[])=False from eq_false hne)
 clear hpv hne
 have hr8:8≤r:=Nat.le_trans hB8 h.rb.1
 obtain ⟨lv,ov,h0,-⟩:=h.rd
 have hrl:=h.rlt
 obtain ⟨i0,hi0,hz0,hz1,hz2⟩:=info_parts info_pcm
 have hwc:=cmd_where B r hB8 K q qs x s hwh w hg h lv ov h0
 have H:=Lib.hid h
 have H0:=Lib.hid h0
 clear h h0 hwh
 go_enter Tryz.func31,Tryz.ntmps31
 go_wp2_with fail
 refine hwc.mono ?_
 rintro e w1 ⟨rfl,hin⟩
 obtain ⟨hl,-,hb⟩:=H.out.same H0.out
 have hl1:w1.ownsRow B 82 1 lv q.l.length (qs.map ptrC):=own_kept hl hin.kept fun k e e2=>(hb k e).2.1 e2
 obtain ⟨pl,cl,hlv⟩:=row_shape hl1
 subst hlv
 have HL1:=Lib.hid hl1
 obtain ⟨av,re,rv,hcb,-⟩:=hin.cm
 have HIN:=Lib.hid hin
 have c0:=Blk.cell hcb 0 cm_c
 have d1:=Blk.cell hin.rd 1 (v:=.slice pl q.l.length cl) rfl
 have f1:=Blk.free hin.rd 1
 have hsz1:B≤w1.heap.size:=Nat.le_trans H.out.base hin.kept.size
 have HSZ1:=Lib.hid hsz1
 have e1:((x.c.toNat:Int) == 123)=false:=by rw [hc];rfl
 have e2:((x.c.toNat:Int) == 125)=false:=by rw [hc];rfl
 have e2':((x.c.toNat:Int) != 125)=true:=by rw [hc];rfl
 have e3:((x.c.toNat:Int) == 35)=false:=by rw [hc];rfl
 have e3':((x.c.toNat:Int) != 35)=true:=by rw [hc];rfl
 have e4:((x.c.toNat:Int) == 97)=false:=by rw [hc];rfl
 have e5:((x.c.toNat:Int) == 105)=false:=by rw [hc];rfl
 have e6:((x.c.toNat:Int) == 99)=false:=by rw [hc];rfl
 have e7:((x.c.toNat:Int) == 98)=false:=by rw [hc];rfl
 have e8:((x.c.toNat:Int) == 116)=false:=by rw [hc];rfl
 have e9:((x.c.toNat:Int) == 58)=true:=by rw [hc];rfl
 have e10:((x.c.toNat:Int) == 121)=false:=by rw [hc];rfl
 have e11:((x.c.toNat:Int) == 115)=false:=by rw [hc];rfl
 have hbw1:Below B w w1:=hin.kept.lower (fun k e=>by have h5:k=r:=e;have:=H.out.rb.1;omega) H.out.base
 have HBW1:=Lib.hid hbw1
 have hnb:(Value.slice pl q.l.length cl).ownBlock≠some r:=fun e=>(hb r e).2.1 rfl
 have HNB:=Lib.hid hnb
 have HC:=Lib.hid hc
 clear hc
 clear hwc hin hl hb hl1 hcb hbw1 hnb
 go_upto_region 3 with fail
 go_cut [] (fun wx=>∃ v,Hid (RSt wx (fun k=>K k∨w.heap.size+1≤k∧k < w1.heap.size) B r ⟨s,q.l ++ [x],q.opn⟩ (qs ++ [w.heap.size]))∧Hid (RdB wx r s v ov)∧Hid (Below B w wx))
 case first=>
  obtain ⟨O,hO⟩:∃ O:Obj,O=.cells #[.pointer (some ⟨w.heap.size,0,none⟩)] 82:=⟨_,rfl⟩
  have f1a:(w1.alloc O).frozen? ⟨r,1,none⟩=false:=(Blk.alloc HIN.out.rd O).free 1
  have c1a:(w1.alloc O).cell? ⟨r,1,none⟩=some (.slice pl q.l.length cl):=(Blk.alloc HIN.out.rd O).cell 1 rfl
  have hnb:=HNB.out
  have hrw1:r < (w1.alloc O).heap.size:=Nat.lt_of_lt_of_le (Blk.lt HIN.out.rd) (by simp)
  subst hO
  go_wp2_with (at_builtin;refine wpList_append_own_at _ (by rfl) _ _ _ (by rfl) B 82 i0 (.pointer none) 1 8 Tryz.underlying57 hi0 hz0 hz1 hz2 rfl (by decide) _ _ _ (by rfl) (HL1.out.alloc _) ⟨w1.heap.size,0,none⟩ 1 1 [.pointer (some ⟨w.heap.size,0,none⟩)] (by rfl) (by rfl) (cells_new _ #[_] _) (by simp [Value.oneCell']) (by unfold maxLen;omega) (by omega) (by simp;omega) ?_;intro v' w2 ho2 hg2 hiff hob2;obtain ⟨pv,cv,rfl⟩:=row_shape ho2;have fq:=hg2.frozen_far (a:=⟨r,1,none⟩) hrw1 (Ne.symm hnb);rw [f1a] at fq;have cq:=hg2.cell_far ⟨r,1,none⟩ hrw1 (Ne.symm hnb);rw [c1a] at cq)
  obtain ⟨hp3,hrd3⟩:=H.out.push H0.out HIN.out.rd HIN.out.kept HIN.out.cm (Nat.le_refl _) (fun k hk=>⟨by omega,hk.2,by omega⟩) hg2 (by simpa using hob2) ho2
  have hbw3:Below B w (w2.setCell ⟨r,1,none⟩ (.slice pv (q.l.length+1) cv)):=(below_grown_at (HBW1.out.alloc HSZ1.out _) hg2 (fun k e=>(HL1.out.lt k e).1) (by have:=HSZ1.out;simp;omega)).setCell H.out.rb.1 _
  have HP3:=Lib.hid hp3
  have HR3:=Lib.hid hrd3
  have HB3:=Lib.hid hbw3
  clear hp3 hrd3 hbw3 ho2 hg2 hiff hob2 fq cq
  go_meet
  exact ⟨_,HP3,HR3,HB3⟩
 case rest=>
 obtain ⟨v3,HP3,HR3,HB3⟩:=hcut
 obtain ⟨w3,hw3⟩:∃ w3,w3=wc:=⟨_,rfl⟩
 subst hw3
 obtain ⟨av3,re3,rv3,hcb3,had3⟩:=HP3.out.last
 have c0:=Blk.cell hcb3 0 cm_c
 have hnm:=sname_any r s HNM.out HASC.out v3 ov w3 HR3.out
 have HCB3:=Lib.hid hcb3
 have HAD3:=Lib.hid had3
 clear hcb3 had3 f1 d1
 go_wp2_with fail
 refine hnm.mono ?_
 rintro e w4 ⟨⟨rfl,hr4⟩,hk4⟩
 have hnr:w.heap.size≠r:=HP3.out.notR (by simp)
 have hcb4:CmBlk w4 w.heap.size x av3 re3 rv3:=Blk.kept HCB3.out hk4 hnr
 obtain ⟨w5,hw5⟩:∃ w5,w4.setCell ⟨w.heap.size,4,none⟩ (.string ⟨(Sd.name s).1.toArray⟩)=w5:=⟨_,rfl⟩
 have hcb5:CmBlk w5 w.heap.size (labOf x (Sd.name s).1) av3 re3 rv3:=by
  rw [← hw5]
  have:=Blk.set hcb4 4 (.string ⟨(Sd.name s).1.toArray⟩)
  rw [cm_set_lab] at this
  exact this
 have hr5:RdB w5 r (Sd.name s).2 v3 ov:=by rw [← hw5];exact Blk.setOther hr4 (a:=⟨w.heap.size,4,none⟩) (Ne.symm hnr) _
 have hk5:Kept (fun k=>k=r∨k=w.heap.size) w3 w5:=by rw [← hw5];exact (hk4.mono fun _ _ e=>.inl e).setCell (.inl (.inr rfl)) 4 _
 have hcm5:CmdAt w5 (fun k=>K k∨w.heap.size+1≤k∧k < w1.heap.size) w.heap.size (labOf x (Sd.name s).1):=by
  obtain ⟨a1,a2,a3,a4⟩:=HAD3.out
  have hS:∀ k,(K k∨w.heap.size+1≤k∧k < w1.heap.size)→¬ (k=r∨k=w.heap.size):=fun k hk e=>by
   rcases e with e | e
   ·exact HP3.out.rb.2 (e ▸ hk)
   ·exact (HP3.out.own w.heap.size (by simp)).1 (e ▸ hk)
  exact ⟨av3,re3,rv3,hcb5,a1.kept hk5 hS,a2.kept hk5 hS,a3.kept hk5 hS,a4⟩
 have hp5:RSt w5 (fun k=>K k∨w.heap.size+1≤k∧k < w1.heap.size) B r ⟨(Sd.name s).2,q.l ++ [labOf x (Sd.name s).1],q.opn⟩ (qs ++ [w.heap.size]):=HP3.out.turned HR3.out hr5 hk5 hcm5 (fun _ e=>e) (fun k e=>.inl e)
 have hbw5:Below B w w5:=HB3.out.trans (hk5.lower (fun k e=>by
  rcases e with e | e
  ·have:=H.out.rb.1;omega
  ·have:=H.out.base;omega) (Nat.le_trans H.out.base HB3.out.size))
 have c4:=Blk.cell hcb4 4 cm_lab
 have f4:=Blk.free hcb4 4
 have HP5:=Lib.hid hp5
 have HR5:=Lib.hid hr5
 have HB5:=Lib.hid hbw5
 have HCB5:=Lib.hid hcb5
 have HW5:=Lib.hid hw5
 clear hnm hr4 hk4 hcb4 hcb5 hr5 hk5 hcm5 hp5 hbw5 hw5 c0
 go_upto_region 26 with fail
 rw [HW5.out]
 have c0:=Blk.cell HCB5.out 0 cm_c
 have c5:=Blk.cell HCB5.out 4 cm_lab
 clear c4 f4
 have e9b:((labOf x (Sd.name s).1).c.toNat:Int)=(x.c.toNat:Int):=rfl
 rw [e9b] at c0
 have e4b:(labOf x (Sd.name s).1).lab=(Sd.name s).1:=rfl
 rw [e4b] at c5
 obtain ⟨lp,hlp⟩:=row_shape (HP5.out.same HR5.out).1
 obtain ⟨lc,rfl⟩:=hlp
 have hlen5:(q.l ++ [labOf x (Sd.name s).1]).length=q.l.length+1:=by simp
 have hlb:=HP5.out.labs HR5.out
 have HLB:=Lib.hid hlb
 rw [show (Sd.RS.mk (Sd.name s).2 (q.l ++ [labOf x (Sd.name s).1]) q.opn).l.length=q.l.length+1 from hlen5] at HR5
 have cl:=Blk.cell HR5.out 1 (v:=.slice lp (q.l.length+1) lc) rfl
 have hpl:∀ d os,Calls Tryz.prog 33 #[.pointer (some ⟨r,0,none⟩),.string ⟨(Sd.name s).1.toArray⟩] (grow (redrawn w5 d) os) fun e w'=>e=.returned (.int .i64 q.l.length)∧∃ p:Regrown,w'=grow (redrawn w5 p.d) p.os:=fun d os=>by
  have hbb:=below_regrown w5 d os
  have h1:RdB (grow (redrawn w5 d) os) r (Sd.name s).2 (.slice lp (q.l ++ [labOf x (Sd.name s).1]).length lc) ov:=by rw [hlen5];exact HR5.out.below hbb
  have h2:LabsAt (grow (redrawn w5 d) os) lp (q.l ++ [labOf x (Sd.name s).1]):=fun h0=>by
   obtain ⟨b,o,e,hlt,hc⟩:=HLB.out.2 h0
   refine ⟨b,o,e,Nat.lt_of_lt_of_le hlt hbb.size,fun i hi=>?_⟩
   obtain ⟨y,c1,c2,c3⟩:=hc i hi
   exact ⟨y,(hbb.cell (p:=⟨b,o+i,none⟩) hlt).trans c1,(hbb.cell (p:=⟨y,0,none⟩) (World.block_lt_of_cell? _ _ c2)).trans c2,(hbb.cell (p:=⟨y,4,none⟩) (World.block_lt_of_cell? _ _ c3)).trans c3⟩
  have h3:=splace_any r (q.l ++ [labOf x (Sd.name s).1]) (Sd.name s).1 (Sd.name s).2 lp lc ov (by rw [hlen5];omega) (grow (redrawn w5 d) os) h1 h2
  have e5:placeVal (Sd.name s).1 (q.l ++ [labOf x (Sd.name s).1])=(q.l.length:Int):=by unfold placeVal;rw [HPV.out]
  rw [e5] at h3
  exact Calls.regrown_of h3
 have hwr:IntKind.i64.wrap (q.l.length:Int)=(q.l.length:Int):=by
  have:(q.l.length:Int) < 1073741824:=by omega
  simp [IntKind.wrap,IntKind.signed,IntKind.bits];omega
 have hwr2:IntKind.i64.wrap (((q.l.length+1:Nat):Int) - 1)=(q.l.length:Int):=by
  rw [show (((q.l.length+1:Nat):Int) - 1)=(q.l.length:Int) by omega]
  exact hwr
 have k0:=cell_regrown c0
 have k5:=cell_regrown c5
 have kl:=cell_regrown cl
 have en:=HNE.out
 have en3:(Sd.name s).1.isEmpty=false:=by
  cases h:(Sd.name s).1 with
  | nil=>rw [h] at en;simp at en
  | cons _ _=>rfl
 refine wp_region_quiet_below (by kernel_rfl) (by kernel_rfl) ?_
 repeat (quiet_step (first | with_reducible exact hpl _ _))
 refine wpQuiet_nil ?_
 intro _ hw'
 obtain ⟨⟨dq,osq⟩,hw''⟩:=hw'
 subst hw''
 have hbb:=below_regrown w5 dq osq
 have HBB:=Lib.hid hbb
 clear hpl k0 k5 kl hbb
 generalize grow (redrawn w5 dq) osq=w6 at *
 go_wp2_with fail
 refine bodyPost_ret (results_none rfl _ _ _) rfl ?_
 exact ⟨⟨rfl,_,_,HP5.out.step HR5.out _ (HR5.out.below HBB.out) (Kept.of_below (S:=(·=r)) HBB.out) (fun _ e=>e)⟩,HB5.out.trans (HBB.out.mono HP5.out.base)⟩
end Go.Proofs.YtefpcacnblaokaaGreatDoor

/-
  The walk of the script reader's command: an open brace. Conditions: the reader lies in memory; what the library's variables hold; what the spec tells.
-/
set_option maxRecDepth 100000
set_option maxHeartbeats 8000000
namespace Go.Proofs.YtefpcacnblaokaaGreatDoor
open Go.RowKit Go.Shelf Go.Maps Go.Sort
theorem RSt.opened {w2 w3:World} {K:Nat→Prop} {B r N:Nat} {s:Bts} {l:List Sd.Cmd} {x:Sd.Cmd} {qs:List Nat} {lv v':Value} {O:Obj} (h:RSt w3 K B r ⟨s,l ++ [x],.no⟩ (qs ++ [N])) (h0:RdB w3 r s lv (.slice none 0 0)) (hg:(w3.alloc O).grownBy w2 none) (hob:v'.ownBlock=none∨v'.ownBlock=some (w3.heap.size+1)) (ho:w2.ownsRow B 82 1 v' 1 [ptrC N]) :
  RSt (w2.setCell ⟨r,2,none⟩ v') (fun k=>K k∨k=w3.heap.size+1) B r ⟨s,l ++ [x],.at_ l.length⟩ (qs ++ [N])∧RdB (w2.setCell ⟨r,2,none⟩ v') r s lv v':=by
 obtain ⟨hl,-,hb⟩:=h.same h0
 have hrl:=h.rlt
 have hB:B≤w3.heap.size:=h.base
 obtain ⟨g,cap,cur,rfl,hBg,hgb,hcap⟩:∃ g cap cur,v'=.slice (some ⟨g,0,none⟩) 1 cap∧B≤g∧w2.heap[g]?=some (.cells cur 82 (0,0))∧1≤cap:=by
  rcases ho.2 with ⟨-,h1⟩ | ⟨g,cap,cur,h1,h2,h3,h4,-⟩
  ·cases h1
  ·exact ⟨g,cap,cur,h1,h2,h3,h4⟩
 obtain rfl:g=w3.heap.size+1:=by
  rcases hob with e | e
  ·cases e
  ·exact Option.some.inj e
 have hgl:=(ho.lt _ rfl).2
 have hk2:Kept (fun k=>(none:Option Nat)=some k) w3 w2:=kept_grown ((Kept.refl (fun _=>False) w3).alloc O) hg
 have hks:Kept (fun k=>k=r) w3 (w2.setCell ⟨r,2,none⟩ (.slice (some ⟨w3.heap.size+1,0,none⟩) 1 cap)):=(hk2.mono fun _ _ e=>by cases e).trans ((Kept.refl (fun k=>k=r) w2).setCell (.inl rfl) 2 _)
 have hrd2:RdB w2 r s lv (.slice none 0 0):=RdB.kept h0 hk2 (fun e=>by cases e)
 have hset:RdB (w2.setCell ⟨r,2,none⟩ (.slice (some ⟨w3.heap.size+1,0,none⟩) 1 cap)) r s lv (.slice (some ⟨w3.heap.size+1,0,none⟩) 1 cap):=Blk.set hrd2 2 _
 have hl2:qs.length=l.length:=by simpa using h.len
 have hcell:(w2.setCell ⟨r,2,none⟩ (.slice (some ⟨w3.heap.size+1,0,none⟩) 1 cap)).cell? ⟨w3.heap.size+1,0,none⟩=some (ptrC N):=by
  have h1:=ho.cellAt 0 (by omega)
  have h2:(w2.setCell ⟨r,2,none⟩ (.slice (some ⟨w3.heap.size+1,0,none⟩) 1 cap)).heap[w3.heap.size+1]?=w2.heap[w3.heap.size+1]?:=Below.heap_setCell w2 ⟨r,2,none⟩ _ _ (by show _≠r;omega)
  exact (World.cell?_of_block h2).trans h1
 refine ⟨⟨⟨lv,_,hset,own_kept hl hks (fun g e=>(hb g e).2.1), ?_,fun g e=>⟨fun e2=>?_,(hb g e).2⟩⟩,h.len,fun i hi=>((h.cm i hi).kept hks (h.own _ (getD_mem hi)).2.1 (fun k hk e=>h.rb.2 ((show k=r from e) ▸ hk))).mono fun _ e=>.inl e,h.nd,fun z hz=>⟨fun e=>?_,(h.own z hz).2⟩,fun k hk=>?_,h.rb.1,fun e=>?_⟩,hset⟩
 ·refine ⟨by simp;omega,_,cap,rfl,hcap,.inr rfl, ?_⟩
  rw [hcell]
  simp [List.getD_eq_getElem?_getD,← hl2]
 ·rcases e2 with e2 | e2
  ·exact (hb g e).1 e2
  ·have:=(hl.lt g e).2;omega
 ·rcases e with e | e
  ·exact (h.own z hz).1 e
  ·have:=h.qlt z hz;omega
 ·have hsz:=hks.size
  rcases hk with hk | hk
  ·exact ⟨(h.kb k hk).1,Nat.lt_of_lt_of_le (h.kb k hk).2 hsz⟩
  ·subst hk
   exact ⟨by omega,by simpa [World.setCell] using hgl⟩
 ·rcases e with e | e
  ·exact h.rb.2 e
  ·omega
theorem scmd_open (B r:Nat) (hB8:8≤B) (K:Nat→Prop) (q:Sd.RS) (qs:List Nat) (x:Sd.Cmd) (s:Bts) (hwh:Sd.whereF q.s=some (x,s)) (hc:x.c=123) (hno:q.opn=.no) (hlen:q.l.length≤1000000) (w:World) (hg:Glo w) (h:RSt w K B r q qs) :
  Calls Tryz.prog 31 #[.pointer (some ⟨r,0,none⟩)] w fun e w'=>CmdDone B r ⟨s,q.l ++ [x],.at_ q.l.length⟩ w e w':=by
 have HNO:=Lib.hid hno
 clear hno
 have hr8:8≤r:=Nat.le_trans hB8 h.rb.1
 obtain ⟨lv,ov,h0,-⟩:=h.rd
 have hrl:=h.rlt
 obtain ⟨i0,hi0,hz0,hz1,hz2⟩:=info_parts info_pcm
 have hwc:=cmd_where B r hB8 K q qs x s hwh w hg h lv ov h0
 have H:=Lib.hid h
 have H0:=Lib.hid h0
 clear h h0 hwh
 go_enter Tryz.func31,Tryz.ntmps31
 go_wp2_with fail
 refine hwc.mono ?_
 rintro e w1 ⟨rfl,hin⟩
 obtain ⟨hl,-,hb⟩:=H.out.same H0.out
 have hl1:w1.ownsRow B 82 1 lv q.l.length (qs.map ptrC):=own_kept hl hin.kept fun k e e2=>(hb k e).2.1 e2
 obtain ⟨pl,cl,hlv⟩:=row_shape hl1
 subst hlv
 have HL1:=Lib.hid hl1
 obtain ⟨av,re,rv,hcb,-⟩:=hin.cm
 have HIN:=Lib.hid hin
 have c0:=Blk.cell hcb 0 cm_c
 have d1:=Blk.cell hin.rd 1 (v:=.slice pl q.l.length cl) rfl
 have f1:=Blk.free hin.rd 1
 have hsz1:B≤w1.heap.size:=Nat.le_trans H.out.base hin.kept.size
 have HSZ1:=Lib.hid hsz1
 have e1:((x.c.toNat:Int) == 123)=true:=by rw [hc];rfl
 have e2:((x.c.toNat:Int) == 125)=false:=by rw [hc];rfl
 have e2':((x.c.toNat:Int) != 125)=true:=by rw [hc];rfl
 have e3:((x.c.toNat:Int) == 35)=false:=by rw [hc];rfl
 have e3':((x.c.toNat:Int) != 35)=true:=by rw [hc];rfl
 have e4:((x.c.toNat:Int) == 97)=false:=by rw [hc];rfl
 have e5:((x.c.toNat:Int) == 105)=false:=by rw [hc];rfl
 have e6:((x.c.toNat:Int) == 99)=false:=by rw [hc];rfl
 have e7:((x.c.toNat:Int) == 98)=false:=by rw [hc];rfl
 have e8:((x.c.toNat:Int) == 116)=false:=by rw [hc];rfl
 have e9:((x.c.toNat:Int) == 58)=false:=by rw [hc];rfl
 have e10:((x.c.toNat:Int) == 121)=false:=by rw [hc];rfl
 have e11:((x.c.toNat:Int) == 115)=false:=by rw [hc];rfl
 have hbw1:Below B w w1:=hin.kept.lower (fun k e=>by have h5:k=r:=e;have:=H.out.rb.1;omega) H.out.base
 have HBW1:=Lib.hid hbw1
 have hnb:(Value.slice pl q.l.length cl).ownBlock≠some r:=fun e=>(hb r e).2.1 rfl
 have HNB:=Lib.hid hnb
 have HC:=Lib.hid hc
 clear hc
 clear hwc hin hl hb hl1 hcb hbw1 hnb
 go_upto_region 3 with fail
 go_cut [] (fun wx=>∃ v,Hid (RSt wx (fun k=>K k∨w.heap.size+1≤k∧k < w1.heap.size) B r ⟨s,q.l ++ [x],q.opn⟩ (qs ++ [w.heap.size]))∧Hid (RdB wx r s v ov)∧Hid (Below B w wx))
 case first=>
  obtain ⟨O,hO⟩:∃ O:Obj,O=.cells #[.pointer (some ⟨w.heap.size,0,none⟩)] 82:=⟨_,rfl⟩
  have f1a:(w1.alloc O).frozen? ⟨r,1,none⟩=false:=(Blk.alloc HIN.out.rd O).free 1
  have c1a:(w1.alloc O).cell? ⟨r,1,none⟩=some (.slice pl q.l.length cl):=(Blk.alloc HIN.out.rd O).cell 1 rfl
  have hnb:=HNB.out
  have hrw1:r < (w1.alloc O).heap.size:=Nat.lt_of_lt_of_le (Blk.lt HIN.out.rd) (by simp)
  subst hO
  go_wp2_with (at_builtin;refine wpList_append_own_at _ (by rfl) _ _ _ (by rfl) B 82 i0 (.pointer none) 1 8 Tryz.underlying57 hi0 hz0 hz1 hz2 rfl (by decide) _ _ _ (by rfl) (HL1.out.alloc _) ⟨w1.heap.size,0,none⟩ 1 1 [.pointer (some ⟨w.heap.size,0,none⟩)] (by rfl) (by rfl) (cells_new _ #[_] _) (by simp [Value.oneCell']) (by unfold maxLen;omega) (by omega) (by simp;omega) ?_;intro v' w2 ho2 hg2 hiff hob2;obtain ⟨pv,cv,rfl⟩:=row_shape ho2;have fq:=hg2.frozen_far (a:=⟨r,1,none⟩) hrw1 (Ne.symm hnb);rw [f1a] at fq;have cq:=hg2.cell_far ⟨r,1,none⟩ hrw1 (Ne.symm hnb);rw [c1a] at cq)
  obtain ⟨hp3,hrd3⟩:=H.out.push H0.out HIN.out.rd HIN.out.kept HIN.out.cm (Nat.le_refl _) (fun k hk=>⟨by omega,hk.2,by omega⟩) hg2 (by simpa using hob2) ho2
  have hbw3:Below B w (w2.setCell ⟨r,1,none⟩ (.slice pv (q.l.length+1) cv)):=(below_grown_at (HBW1.out.alloc HSZ1.out _) hg2 (fun k e=>(HL1.out.lt k e).1) (by have:=HSZ1.out;simp;omega)).setCell H.out.rb.1 _
  have HP3:=Lib.hid hp3
  have HR3:=Lib.hid hrd3
  have HB3:=Lib.hid hbw3
  clear hp3 hrd3 hbw3 ho2 hg2 hiff hob2 fq cq
  go_meet
  exact ⟨_,HP3,HR3,HB3⟩
 case rest=>
 obtain ⟨v3,HP3,HR3,HB3⟩:=hcut
 obtain ⟨w3,hw3⟩:∃ w3,w3=wc:=⟨_,rfl⟩
 subst hw3
 obtain ⟨av3,re3,rv3,hcb3,had3⟩:=HP3.out.last
 have c0:=Blk.cell hcb3 0 cm_c
 have HCB3:=Lib.hid hcb3
 have HAD3:=Lib.hid had3
 have hnr:w.heap.size≠r:=HP3.out.notR (by simp)
 have hSK:∀ k,(K k∨w.heap.size+1≤k∧k < w1.heap.size)→¬ (k=r∨k=w.heap.size):=fun k hk e=>by
  rcases e with e | e
  ·exact HP3.out.rb.2 (e ▸ hk)
  ·exact (HP3.out.own w.heap.size (by simp)).1 (e ▸ hk)
 have HSK:=Lib.hid hSK
 have HNR:=Lib.hid hnr
 have hlow:∀ k,(k=r∨k=w.heap.size)→B≤k:=fun k e=>by
  rcases e with e | e
  ·have:=H.out.rb.1;omega
  ·have:=H.out.base;omega
 have HLOW:=Lib.hid hlow
 clear hcb3 had3 f1 d1 hSK hnr hlow
 have ho3:OpnAt w3 _ _ ov q.opn:=(HP3.out.same HR3.out).2.1
 rw [HNO.out] at ho3
 have ho4:ov=.slice none 0 0:=ho3
 clear ho3
 subst ho4
 have hp3':RSt w3 (fun k=>K k∨w.heap.size+1≤k∧k < w1.heap.size) B r ⟨s,q.l ++ [x],.no⟩ (qs ++ [w.heap.size]):=by
  have:=HP3.out
  rw [HNO.out] at this
  exact this
 have HPN:=Lib.hid hp3'
 clear hp3'
 obtain ⟨O,hO⟩:∃ O:Obj,O=.cells #[.pointer (some ⟨w.heap.size,0,none⟩)] 82:=⟨_,rfl⟩
 have d2:=Blk.cell HR3.out 2 (v:=.slice none 0 0) rfl
 have f2a:(w3.alloc O).frozen? ⟨r,2,none⟩=false:=(Blk.alloc HR3.out O).free 2
 have c2a:(w3.alloc O).cell? ⟨r,2,none⟩=some (.slice none 0 0):=(Blk.alloc HR3.out O).cell 2 rfl
 have hrw3:r < (w3.alloc O).heap.size:=Nat.lt_of_lt_of_le (Blk.lt HR3.out) (by simp)
 have hnb3:(Value.slice none 0 0).ownBlock≠some r:=fun e=>by cases e
 have hown3:(w3.alloc O).ownsRow B 82 1 (.slice none 0 0) 0 []:=World.ownsRow_nil _ _ _ _
 have hsz3:B≤w3.heap.size:=HP3.out.base
 subst hO
 go_wp2_with (at_builtin;refine wpList_append_own_at _ (by rfl) _ _ _ (by rfl) B 82 i0 (.pointer none) 1 8 Tryz.underlying57 hi0 hz0 hz1 hz2 rfl (by decide) _ _ _ (by rfl) hown3 ⟨w3.heap.size,0,none⟩ 1 1 [.pointer (some ⟨w.heap.size,0,none⟩)] (by rfl) (by rfl) (cells_new _ #[_] _) (by simp [Value.oneCell']) (by unfold maxLen;omega) (by omega) (by simp;omega) ?_;intro v' w2 ho2 hg2 hiff hob2;obtain ⟨pv,cv,rfl⟩:=row_shape ho2;have fq:=hg2.frozen_far (a:=⟨r,2,none⟩) hrw3 (Ne.symm hnb3);rw [f2a] at fq;have cq:=hg2.cell_far ⟨r,2,none⟩ hrw3 (Ne.symm hnb3);rw [c2a] at cq)
 refine bodyPost_ret (results_none rfl _ _ _) rfl ?_
 obtain ⟨hp5,-⟩:=HPN.out.opened HR3.out hg2 (by rcases hob2 with e | e;(· exact .inl e);(· exact .inr (by simpa using e))) ho2
 have hbw5:=(below_grown_at (HB3.out.alloc hsz3 _) hg2 (fun k e=>by cases e) (by simp;omega)).setCell (p:=⟨r,2,none⟩) H.out.rb.1 (.slice pv 1 cv)
 exact ⟨⟨rfl,_,_,hp5⟩,hbw5⟩
end Go.Proofs.YtefpcacnblaokaaGreatDoor

/-
  The walk of the script reader's command: a brace that is shut. Conditions: the reader lies in memory; what the library's variables hold; what the spec tells.
-/
set_option maxRecDepth 100000
set_option maxHeartbeats 8000000
namespace Go.Proofs.YtefpcacnblaokaaGreatDoor
open Go.RowKit Go.Shelf Go.Maps Go.Sort
theorem RSt.drew {W:World} {K:Nat→Prop} {B r:Nat} {q:Sd.RS} {qs:List Nat} (h:RSt W K B r q qs):RSt W.drew K B r q qs:=by
 obtain ⟨lv,ov,h0,-⟩:=h.rd
 exact h.step h0 q.s (Blk.drew h0) ((Kept.refl (fun _=>False) W).drew) (fun _ e=>e.elim)
theorem RdB.drew {W:World} {r:Nat} {s:Bts} {lv ov:Value} (h:RdB W r s lv ov):RdB W.drew r s lv ov:=Blk.drew h
theorem RSt.shut {W:World} {K:Nat→Prop} {B r:Nat} {s:Bts} {l:List Sd.Cmd} {o:Sd.Opn} {qs:List Nat} {lv ov:Value} (h:RSt W K B r ⟨s,l,o⟩ qs) (h0:RdB W r s lv ov) (p:Option Addr) (c:Nat):RSt (W.setCell ⟨r,2,none⟩ (.slice p 0 c)) K B r ⟨s,l,.shut⟩ qs∧RdB (W.setCell ⟨r,2,none⟩ (.slice p 0 c)) r s lv (.slice p 0 c):=by
 obtain ⟨hl,-,hb⟩:=h.same h0
 have hset:RdB (W.setCell ⟨r,2,none⟩ (.slice p 0 c)) r s lv (.slice p 0 c):=Blk.set h0 2 _
 have hk:Kept (fun k=>k=r) W (W.setCell ⟨r,2,none⟩ (.slice p 0 c)):=(Kept.refl (fun k=>k=r) W).setCell (.inl rfl) 2 _
 exact ⟨⟨⟨lv,_,hset,own_kept hl hk (fun g e=>(hb g e).2.1),⟨p,c,rfl⟩,hb⟩,h.len,fun i hi=>(h.cm i hi).kept hk (h.own _ (getD_mem hi)).2.1 (fun k hk2 e=>h.rb.2 ((show k=r from e) ▸ hk2)),h.nd,h.own,fun k hk2=>⟨(h.kb k hk2).1,Nat.lt_of_lt_of_le (h.kb k hk2).2 hk.size⟩,h.rb⟩,hset⟩
def destOf (x:Sd.Cmd) (k:Nat):Sd.Cmd:=⟨x.c,x.ads,x.neg,k,x.lab,x.tab,x.rx,x.rep,x.all,x.prt⟩
theorem setDest_set (l:List Sd.Cmd) (i k:Nat) (hi:i < l.length):Sd.setDest l i k=l.set i (destOf (l.getD i default) k):=by
 unfold Sd.setDest
 apply List.ext_getElem
 ·simp
 ·intro j h1 h2
  rw [List.getElem_modify,List.getElem_set]
  by_cases e:i=j
  ·subst e
   rw [if_pos rfl,if_pos rfl,List.getD_eq_getElem?_getD,List.getElem?_eq_getElem hi]
   rfl
  ·rw [if_neg e,if_neg e]
theorem scmd_shut (B r:Nat) (hB8:8≤B) (K:Nat→Prop) (q:Sd.RS) (qs:List Nat) (x:Sd.Cmd) (s:Bts) (hwh:Sd.whereF q.s=some (x,s)) (hc:x.c=125) (i:Nat) (hop:q.opn=.at_ i) (s1:Bts) (haf:Sd.after s=some s1) (_hlen:q.l.length≤1000000) (w:World) (hg:Glo w) (h:RSt w K B r q qs) :
  Calls Tryz.prog 31 #[.pointer (some ⟨r,0,none⟩)] w fun e w'=>CmdDone B r ⟨s1,Sd.setDest q.l i q.l.length,.shut⟩ w e w':=by
 have HOP:=Lib.hid hop
 have HAF:=Lib.hid haf
 clear hop haf
 have hr8:8≤r:=Nat.le_trans hB8 h.rb.1
 obtain ⟨lv,ov,h0,-⟩:=h.rd
 have hrl:=h.rlt
 obtain ⟨i0,hi0,hz0,hz1,hz2⟩:=info_parts info_pcm
 have hwc:=cmd_where B r hB8 K q qs x s hwh w hg h lv ov h0
 have H:=Lib.hid h
 have H0:=Lib.hid h0
 clear h h0 hwh
 go_enter Tryz.func31,Tryz.ntmps31
 go_wp2_with fail
 refine hwc.mono ?_
 rintro e w1 ⟨rfl,hin⟩
 obtain ⟨hl,-,hb⟩:=H.out.same H0.out
 have hl1:w1.ownsRow B 82 1 lv q.l.length (qs.map ptrC):=own_kept hl hin.kept fun k e e2=>(hb k e).2.1 e2
 obtain ⟨pl,cl,hlv⟩:=row_shape hl1
 subst hlv
 have HL1:=Lib.hid hl1
 obtain ⟨av,re,rv,hcb,-⟩:=hin.cm
 have HIN:=Lib.hid hin
 have c0:=Blk.cell hcb 0 cm_c
 have d1:=Blk.cell hin.rd 1 (v:=.slice pl q.l.length cl) rfl
 have f1:=Blk.free hin.rd 1
 have hsz1:B≤w1.heap.size:=Nat.le_trans H.out.base hin.kept.size
 have HSZ1:=Lib.hid hsz1
 have e1:((x.c.toNat:Int) == 123)=false:=by rw [hc];rfl
 have e2:((x.c.toNat:Int) == 125)=true:=by rw [hc];rfl
 have e2':((x.c.toNat:Int) != 125)=false:=by rw [hc];rfl
 have e3:((x.c.toNat:Int) == 35)=false:=by rw [hc];rfl
 have e3':((x.c.toNat:Int) != 35)=true:=by rw [hc];rfl
 have e4:((x.c.toNat:Int) == 97)=false:=by rw [hc];rfl
 have e5:((x.c.toNat:Int) == 105)=false:=by rw [hc];rfl
 have e6:((x.c.toNat:Int) == 99)=false:=by rw [hc];rfl
 have e7:((x.c.toNat:Int) == 98)=false:=by rw [hc];rfl
 have e8:((x.c.toNat:Int) == 116)=false:=by rw [hc];rfl
 have e9:((x.c.toNat:Int) == 58)=false:=by rw [hc];rfl
 have e10:((x.c.toNat:Int) == 121)=false:=by rw [hc];rfl
 have e11:((x.c.toNat:Int) == 115)=false:=by rw [hc];rfl
 have hbw1:Below B w w1:=hin.kept.lower (fun k e=>by have h5:k=r:=e;have:=H.out.rb.1;omega) H.out.base
 have HBW1:=Lib.hid hbw1
 have hnb:(Value.slice pl q.l.length cl).ownBlock≠some r:=fun e=>(hb r e).2.1 rfl
 have HNB:=Lib.hid hnb
 have HC:=Lib.hid hc
 clear hc
 clear hwc hin hl hb hl1 hcb hbw1 hnb
 have hp1:RSt w1 K B r ⟨s,q.l,q.opn⟩ qs:=H.out.step H0.out s HIN.out.rd HIN.out.kept (fun _ e=>e)
 have hop1:OpnAt w1 K qs ov q.opn:=(hp1.same HIN.out.rd).2.1
 rw [HOP.out] at hop1
 obtain ⟨hi1,g,c,he,hc1,hKg,hcg⟩:=hop1
 subst he
 have hil:i < q.l.length:=by have:=hp1.len;simp only at this;omega
 obtain ⟨qi,hqi⟩:∃ qi,qs.getD i 0=qi:=⟨_,rfl⟩
 obtain ⟨avi,rei,rvi,hbi,hadi⟩:=hp1.cm i hi1
 have hmi:=getD_mem hi1
 rw [hqi] at hbi hmi hcg
 have hqr:qi≠r:=hp1.notR hmi
 have hqB:B≤qi:=(hp1.own qi hmi).2.2
 have d2:=Blk.cell HIN.out.rd 2 (v:=.slice (some ⟨g,0,none⟩) 1 c) rfl
 have d1d:=Blk.cell (Blk.drew HIN.out.rd) 1 (v:=.slice pl q.l.length cl) rfl
 have d2d:=Blk.cell (Blk.drew HIN.out.rd) 2 (v:=.slice (some ⟨g,0,none⟩) 1 c) rfl
 have hcgd:w1.drew.cell? ⟨g,0,none⟩=some (.pointer (some ⟨qi,0,none⟩)):=hcg
 have x3:=Blk.cell (Blk.drew hbi) 3 cm_dest
 have y3:=Blk.free (Blk.drew hbi) 3
 have hcg1:w1.cell? ⟨g,0,none⟩=some (.pointer (some ⟨qi,0,none⟩)):=hcg
 have HP1:=Lib.hid hp1
 have HBI:=Lib.hid hbi
 have HADI:=Lib.hid hadi
 have HQI:=Lib.hid hqi
 have HMI:=Lib.hid hmi
 clear hp1 hbi hadi hqi hmi hcg
 go_upto_region 11 with fail
 go_region
 obtain ⟨w2,hw2⟩:∃ w2,(w1.setCell ⟨qi,3,none⟩ (.int .i64 q.l.length)).drew=w2:=⟨_,rfl⟩
 have hb2:CmBlk w2 qi (destOf (q.l.getD i default) q.l.length) avi rei rvi:=by
  rw [← hw2]
  have:=Blk.drew (Blk.set HBI.out 3 (.int .i64 (q.l.length:Int)))
  rw [cm_set_dest] at this
  exact this
 have hk2:Kept (fun k=>k=r∨k=qi) w1 w2:=by rw [← hw2];exact ((Kept.refl _ _).setCell (.inl (.inr rfl)) 3 _).drew
 have hr2:RdB w2 r s (.slice pl q.l.length cl) (.slice (some ⟨g,0,none⟩) 1 c):=by rw [← hw2];exact Blk.drew (Blk.setOther HIN.out.rd (a:=⟨qi,3,none⟩) (Ne.symm hqr) _)
 have hcm2:CmdAt w2 K qi (destOf (q.l.getD i default) q.l.length):=by
  obtain ⟨a1,a2,a3,a4⟩:=HADI.out
  have hS:∀ k,K k→¬ (k=r∨k=qi):=fun k hk e=>by
   rcases e with e | e
   ·exact HP1.out.rb.2 (e ▸ hk)
   ·exact (HP1.out.own qi HMI.out).1 (e ▸ hk)
  exact ⟨avi,rei,rvi,hb2,a1.kept hk2 hS,a2.kept hk2 hS,a3.kept hk2 hS,a4⟩
 have hp2:=HP1.out.upd HIN.out.rd hr2 hi1 (by rw [HQI.out];exact hk2) (K':=K) (y:=destOf (q.l.getD i default) q.l.length) (by rw [HQI.out];exact hcm2) (fun _ e=>e) (fun _ e=>.inl e)
 have hsd:=setDest_set q.l i q.l.length hil
 have HSD:=Lib.hid hsd
 obtain ⟨hp3,hr3⟩:=RSt.shut hp2 hr2 (some ⟨g,0,none⟩) c
 have hbw2:Below B w w2:=HBW1.out.trans (hk2.lower (fun k e=>by
  rcases e with e | e
  ·have:=H.out.rb.1;omega
  ·omega) HSZ1.out)
 have hbw3:=hbw2.setCell (p:=⟨r,2,none⟩) H.out.rb.1 (.slice (some ⟨g,0,none⟩) 0 c)
 have e2:=Blk.cell hr2 2 (v:=.slice (some ⟨g,0,none⟩) 1 c) rfl
 have e2d:=Blk.cell (Blk.drew hr2) 2 (v:=.slice (some ⟨g,0,none⟩) 1 c) rfl
 have g2d:=Blk.free (Blk.drew hr2) 2
 have HP3:=Lib.hid hp3
 have HR3:=Lib.hid hr3
 have HBW3:=Lib.hid hbw3
 have HR2:=Lib.hid hr2
 rw [hw2]
 clear hb2 hk2 hr2 hcm2 hp2 hsd hp3 hr3 hbw2 hbw3 hw2 d2 d1d d2d hcgd x3 y3 hcg1 c0 d1 f1
 obtain ⟨w3,hw3⟩:∃ w3,w2.setCell ⟨r,2,none⟩ (.slice (some ⟨g,0,none⟩) 0 c)=w3:=⟨_,rfl⟩
 have g2:=Blk.free HR2.out 2
 go_upto_region 35 with fail
 rw [hw3] at HP3 HR3 HBW3
 have haf3:=safter_any r s s1 HAF.out _ _ w3 HR3.out
 clear hw3 e2 e2d g2d g2
 go_wp2_with fail
 refine haf3.mono ?_
 rintro e w4 ⟨⟨rfl,hr4⟩,hk4⟩
 have hfin:=HP3.out.step HR3.out s1 hr4 hk4 (fun _ e=>e)
 have hbw4:=HBW3.out.trans (hk4.lower (fun k e=>by have h5:k=r:=e;have:=H.out.rb.1;omega) (Nat.le_trans H.out.base HBW3.out.size))
 have HFIN:=Lib.hid hfin
 have HB4:=Lib.hid hbw4
 clear haf3 hr4 hk4 hfin hbw4
 go_wp2_with fail
 go_end0
 rw [HSD.out]
 exact ⟨⟨rfl,_,_,HFIN.out⟩,HB4.out⟩
end Go.Proofs.YtefpcacnblaokaaGreatDoor

/-
  The walk of the script reader's command: y. Conditions: the reader lies in memory; what the library's variables hold; what the spec tells.
-/
set_option maxRecDepth 100000
set_option maxHeartbeats 8000000
namespace Go.Proofs.YtefpcacnblaokaaGreatDoor
open Go.RowKit Go.Shelf Go.Maps Go.Sort
theorem letters_len {s:Bts} {T:List UInt8} {t:Bts} (h:Sd.letters s=some (T,t)):T.length=256:=by
 unfold Sd.letters at h
 split at h
 ·cases h
 ·split at h
  ·cases h
  ·split at h
   ·cases h
   ·split at h
    ·cases h
    ·split at h
     ·cases h
     ·split at h
      ·simp only [Option.some.injEq,Prod.mk.injEq] at h
       rw [← h.1,tabOf_len]
       rfl
      ·cases h
theorem scmd_y (B r:Nat) (hB8:8≤B) (K:Nat→Prop) (q:Sd.RS) (qs:List Nat) (x:Sd.Cmd) (s:Bts) (hwh:Sd.whereF q.s=some (x,s)) (hc:x.c=121) (T t s1:Bts) (hx:Sd.letters s=some (T,t)) (haf:Sd.after t=some s1) (hlen:q.l.length≤1000000) (w:World) (hg:Glo w) (h:RSt w K B r q qs) :
  Calls Tryz.prog 31 #[.pointer (some ⟨r,0,none⟩)] w fun e w'=>CmdDone B r ⟨s1,q.l ++ [setTab x T],q.opn⟩ w e w':=by
 have HX:=Lib.hid hx
 have HAF:=Lib.hid haf
 clear hx haf
 have hr8:8≤r:=Nat.le_trans hB8 h.rb.1
 obtain ⟨lv,ov,h0,-⟩:=h.rd
 have hrl:=h.rlt
 obtain ⟨i0,hi0,hz0,hz1,hz2⟩:=info_parts info_pcm
 have hwc:=cmd_where B r hB8 K q qs x s hwh w hg h lv ov h0
 have H:=Lib.hid h
 have H0:=Lib.hid h0
 clear h h0 hwh
 go_enter Tryz.func31,Tryz.ntmps31
 go_wp2_with fail
 refine hwc.mono ?_
 rintro e w1 ⟨rfl,hin⟩
 obtain ⟨hl,-,hb⟩:=H.out.same H0.out
 have hl1:w1.ownsRow B 82 1 lv q.l.length (qs.map ptrC):=own_kept hl hin.kept fun k e e2=>(hb k e).2.1 e2
 obtain ⟨pl,cl,hlv⟩:=row_shape hl1
 subst hlv
 have HL1:=Lib.hid hl1
 obtain ⟨av,re,rv,hcb,-⟩:=hin.cm
 have HIN:=Lib.hid hin
 have c0:=Blk.cell hcb 0 cm_c
 have d1:=Blk.cell hin.rd 1 (v:=.slice pl q.l.length cl) rfl
 have f1:=Blk.free hin.rd 1
 have hsz1:B≤w1.heap.size:=Nat.le_trans H.out.base hin.kept.size
 have HSZ1:=Lib.hid hsz1
 have e1:((x.c.toNat:Int) == 123)=false:=by rw [hc];rfl
 have e2:((x.c.toNat:Int) == 125)=false:=by rw [hc];rfl
 have e2':((x.c.toNat:Int) != 125)=true:=by rw [hc];rfl
 have e3:((x.c.toNat:Int) == 35)=false:=by rw [hc];rfl
 have e3':((x.c.toNat:Int) != 35)=true:=by rw [hc];rfl
 have e4:((x.c.toNat:Int) == 97)=false:=by rw [hc];rfl
 have e5:((x.c.toNat:Int) == 105)=false:=by rw [hc];rfl
 have e6:((x.c.toNat:Int) == 99)=false:=by rw [hc];rfl
 have e7:((x.c.toNat:Int) == 98)=false:=by rw [hc];rfl
 have e8:((x.c.toNat:Int) == 116)=false:=by rw [hc];rfl
 have e9:((x.c.toNat:Int) == 58)=false:=by rw [hc];rfl
 have e10:((x.c.toNat:Int) == 121)=true:=by rw [hc];rfl
 have e11:((x.c.toNat:Int) == 115)=false:=by rw [hc];rfl
 have hbw1:Below B w w1:=hin.kept.lower (fun k e=>by have h5:k=r:=e;have:=H.out.rb.1;omega) H.out.base
 have HBW1:=Lib.hid hbw1
 have hnb:(Value.slice pl q.l.length cl).ownBlock≠some r:=fun e=>(hb r e).2.1 rfl
 have HNB:=Lib.hid hnb
 have HC:=Lib.hid hc
 clear hc
 clear hwc hin hl hb hl1 hcb hbw1 hnb
 go_upto_region 3 with fail
 go_cut [] (fun wx=>∃ v,Hid (RSt wx (fun k=>K k∨w.heap.size+1≤k∧k < w1.heap.size) B r ⟨s,q.l ++ [x],q.opn⟩ (qs ++ [w.heap.size]))∧Hid (RdB wx r s v ov)∧Hid (Below B w wx))
 case first=>
  obtain ⟨O,hO⟩:∃ O:Obj,O=.cells #[.pointer (some ⟨w.heap.size,0,none⟩)] 82:=⟨_,rfl⟩
  have f1a:(w1.alloc O).frozen? ⟨r,1,none⟩=false:=(Blk.alloc HIN.out.rd O).free 1
  have c1a:(w1.alloc O).cell? ⟨r,1,none⟩=some (.slice pl q.l.length cl):=(Blk.alloc HIN.out.rd O).cell 1 rfl
  have hnb:=HNB.out
  have hrw1:r < (w1.alloc O).heap.size:=Nat.lt_of_lt_of_le (Blk.lt HIN.out.rd) (by simp)
  subst hO
  go_wp2_with (at_builtin;refine wpList_append_own_at _ (by rfl) _ _ _ (by rfl) B 82 i0 (.pointer none) 1 8 Tryz.underlying57 hi0 hz0 hz1 hz2 rfl (by decide) _ _ _ (by rfl) (HL1.out.alloc _) ⟨w1.heap.size,0,none⟩ 1 1 [.pointer (some ⟨w.heap.size,0,none⟩)] (by rfl) (by rfl) (cells_new _ #[_] _) (by simp [Value.oneCell']) (by unfold maxLen;omega) (by omega) (by simp;omega) ?_;intro v' w2 ho2 hg2 hiff hob2;obtain ⟨pv,cv,rfl⟩:=row_shape ho2;have fq:=hg2.frozen_far (a:=⟨r,1,none⟩) hrw1 (Ne.symm hnb);rw [f1a] at fq;have cq:=hg2.cell_far ⟨r,1,none⟩ hrw1 (Ne.symm hnb);rw [c1a] at cq)
  obtain ⟨hp3,hrd3⟩:=H.out.push H0.out HIN.out.rd HIN.out.kept HIN.out.cm (Nat.le_refl _) (fun k hk=>⟨by omega,hk.2,by omega⟩) hg2 (by simpa using hob2) ho2
  have hbw3:Below B w (w2.setCell ⟨r,1,none⟩ (.slice pv (q.l.length+1) cv)):=(below_grown_at (HBW1.out.alloc HSZ1.out _) hg2 (fun k e=>(HL1.out.lt k e).1) (by have:=HSZ1.out;simp;omega)).setCell H.out.rb.1 _
  have HP3:=Lib.hid hp3
  have HR3:=Lib.hid hrd3
  have HB3:=Lib.hid hbw3
  clear hp3 hrd3 hbw3 ho2 hg2 hiff hob2 fq cq
  go_meet
  exact ⟨_,HP3,HR3,HB3⟩
 case rest=>
 obtain ⟨v3,HP3,HR3,HB3⟩:=hcut
 obtain ⟨w3,hw3⟩:∃ w3,w3=wc:=⟨_,rfl⟩
 subst hw3
 obtain ⟨av3,re3,rv3,hcb3,had3⟩:=HP3.out.last
 have c0:=Blk.cell hcb3 0 cm_c
 have HCB3:=Lib.hid hcb3
 have HAD3:=Lib.hid had3
 have hnr:w.heap.size≠r:=HP3.out.notR (by simp)
 have hSK:∀ k,(K k∨w.heap.size+1≤k∧k < w1.heap.size)→¬ (k=r∨k=w.heap.size):=fun k hk e=>by
  rcases e with e | e
  ·exact HP3.out.rb.2 (e ▸ hk)
  ·exact (HP3.out.own w.heap.size (by simp)).1 (e ▸ hk)
 have HSK:=Lib.hid hSK
 have HNR:=Lib.hid hnr
 have hlow:∀ k,(k=r∨k=w.heap.size)→B≤k:=fun k e=>by
  rcases e with e | e
  ·have:=H.out.rb.1;omega
  ·have:=H.out.base;omega
 have HLOW:=Lib.hid hlow
 clear hcb3 had3 f1 d1 hSK hnr hlow
 have hnm:=sletters_any r w.heap.size (Ne.symm HNR.out) x s T t HX.out HAD3.out.2.2.2 v3 ov av3 re3 rv3 w3 HR3.out HCB3.out
 go_wp2_with fail
 refine hnm.mono ?_
 rintro e w4 ⟨⟨rfl,hr4,hcb4⟩,hk4⟩
 have hcm4:CmdAt w4 (fun k=>K k∨w.heap.size+1≤k∧k < w1.heap.size) w.heap.size (setTab x T):=by
  obtain ⟨a1,a2,a3,a4⟩:=HAD3.out
  exact ⟨av3,re3,rv3,hcb4,a1.kept hk4 HSK.out,a2.kept hk4 HSK.out,a3.kept hk4 HSK.out,letters_len HX.out⟩
 have hp4:=HP3.out.turned HR3.out hr4 hk4 hcm4 (fun _ e=>e) (fun k e=>.inl e)
 have hbw4:Below B w w4:=HB3.out.trans (hk4.lower HLOW.out HP3.out.base)
 have haf4:=safter_any r t s1 HAF.out v3 ov w4 hr4
 have HP4:=Lib.hid hp4
 have HR4:=Lib.hid hr4
 have HB4:=Lib.hid hbw4
 clear hnm hr4 hcb4 hk4 hcm4 hp4 hbw4
 go_wp2_with fail
 refine haf4.mono ?_
 rintro e w5 ⟨⟨rfl,hr5⟩,hk5⟩
 have hfin:=HP4.out.step HR4.out s1 hr5 hk5 (fun _ e=>e)
 have hbw5:=HB4.out.trans (hk5.lower (fun k e=>by have h5:k=r:=e;have:=H.out.rb.1;omega) HP4.out.base)
 have HFIN:=Lib.hid hfin
 have HB5:=Lib.hid hbw5
 clear haf4 hr5 hk5 hfin hbw5
 go_wp2_with fail
 go_end0
 exact ⟨⟨rfl,_,_,HFIN.out⟩,HB5.out⟩
end Go.Proofs.YtefpcacnblaokaaGreatDoor

/-
  The walk of the script reader's command: s. Conditions: the reader lies in memory; what the library's variables hold; what the spec tells.
-/
set_option maxRecDepth 100000
set_option maxHeartbeats 8000000
namespace Go.Proofs.YtefpcacnblaokaaGreatDoor
open Go.RowKit Go.Shelf Go.Maps Go.Sort
def rxOf (x:Sd.Cmd) (b:Bts) (p:List Sd.Pc):Sd.Cmd:=⟨x.c,x.ads,x.neg,x.dest,x.lab,x.tab,some b,p,x.all,x.prt⟩
theorem flags_same:∀ (f:Nat) (x:Sd.Cmd) (s:Bts) (y:Sd.Cmd) (t:Bts),Sd.flags f x s=some (y,t)→y.ads=x.ads∧y.rx=x.rx∧y.rep=x.rep
 | 0,_,_,_,_,h=>by cases h
 | _+1,x,[],y,t,h=>by
  rw [Sd.flags] at h
  simp only [Option.some.injEq,Prod.mk.injEq] at h
  rw [← h.1]
  exact ⟨rfl,rfl,rfl⟩
 | f+1,x,c :: r,y,t,h=>by
  rw [Sd.flags] at h
  split at h
  ·have h2:=flags_same f _ r y t h
   exact h2
  ·split at h
   ·have h2:=flags_same f _ r y t h
    exact h2
   ·split at h
    ·cases h
    ·simp only [Option.some.injEq,Prod.mk.injEq] at h
     rw [← h.1]
     exact ⟨rfl,rfl,rfl⟩
theorem scmd_sbad (B r:Nat) (hB8:8≤B) (K:Nat→Prop) (q:Sd.RS) (qs:List Nat) (x:Sd.Cmd) (s:Bts) (hwh:Sd.whereF q.s=some (x,s)) (hc:x.c=115) (d:UInt8) (s0:Bts) (hsd:s=d :: s0) (hd:d≠92∧d≠10) (k0:Nat) (hrx:Sd.regex d s0=.bad k0) (hlen:q.l.length≤1000000) (w:World) (hg:Glo w) (h:RSt w K B r q qs) :
  Calls Tryz.prog 31 #[.pointer (some ⟨r,0,none⟩)] w fun e w'=>e=.panicked [{ v:=brokV k0,recovered:=false }]∧Below B w w':=by
 have HS:=Lib.hid hsd
 have HD:=Lib.hid hd
 have HG:=Lib.hid hg
 have HRX:=Lib.hid hrx
 clear hrx hsd hd
 have hr8:8≤r:=Nat.le_trans hB8 h.rb.1
 obtain ⟨lv,ov,h0,-⟩:=h.rd
 have hrl:=h.rlt
 obtain ⟨i0,hi0,hz0,hz1,hz2⟩:=info_parts info_pcm
 have hwc:=cmd_where B r hB8 K q qs x s hwh w hg h lv ov h0
 have H:=Lib.hid h
 have H0:=Lib.hid h0
 clear h h0 hwh
 go_enter Tryz.func31,Tryz.ntmps31
 go_wp2_with fail
 refine hwc.mono ?_
 rintro e w1 ⟨rfl,hin⟩
 obtain ⟨hl,-,hb⟩:=H.out.same H0.out
 have hl1:w1.ownsRow B 82 1 lv q.l.length (qs.map ptrC):=own_kept hl hin.kept fun k e e2=>(hb k e).2.1 e2
 obtain ⟨pl,cl,hlv⟩:=row_shape hl1
 subst hlv
 have HL1:=Lib.hid hl1
 obtain ⟨av,re,rv,hcb,-⟩:=hin.cm
 have HIN:=Lib.hid hin
 have c0:=Blk.cell hcb 0 cm_c
 have d1:=Blk.cell hin.rd 1 (v:=.slice pl q.l.length cl) rfl
 have f1:=Blk.free hin.rd 1
 have hsz1:B≤w1.heap.size:=Nat.le_trans H.out.base hin.kept.size
 have HSZ1:=Lib.hid hsz1
 have e1:((x.c.toNat:Int) == 123)=false:=by rw [hc];rfl
 have e2:((x.c.toNat:Int) == 125)=false:=by rw [hc];rfl
 have e2':((x.c.toNat:Int) != 125)=true:=by rw [hc];rfl
 have e3:((x.c.toNat:Int) == 35)=false:=by rw [hc];rfl
 have e3':((x.c.toNat:Int) != 35)=true:=by rw [hc];rfl
 have e4:((x.c.toNat:Int) == 97)=false:=by rw [hc];rfl
 have e5:((x.c.toNat:Int) == 105)=false:=by rw [hc];rfl
 have e6:((x.c.toNat:Int) == 99)=false:=by rw [hc];rfl
 have e7:((x.c.toNat:Int) == 98)=false:=by rw [hc];rfl
 have e8:((x.c.toNat:Int) == 116)=false:=by rw [hc];rfl
 have e9:((x.c.toNat:Int) == 58)=false:=by rw [hc];rfl
 have e10:((x.c.toNat:Int) == 121)=false:=by rw [hc];rfl
 have e11:((x.c.toNat:Int) == 115)=true:=by rw [hc];rfl
 have hbw1:Below B w w1:=hin.kept.lower (fun k e=>by have h5:k=r:=e;have:=H.out.rb.1;omega) H.out.base
 have HBW1:=Lib.hid hbw1
 have hnb:(Value.slice pl q.l.length cl).ownBlock≠some r:=fun e=>(hb r e).2.1 rfl
 have HNB:=Lib.hid hnb
 have HC:=Lib.hid hc
 clear hc
 clear hwc hin hl hb hl1 hcb hbw1 hnb
 go_upto_region 3 with fail
 go_cut [] (fun wx=>∃ v,Hid (RSt wx (fun k=>K k∨w.heap.size+1≤k∧k < w1.heap.size) B r ⟨s,q.l ++ [x],q.opn⟩ (qs ++ [w.heap.size]))∧Hid (RdB wx r s v ov)∧Hid (Below B w wx))
 case first=>
  obtain ⟨O,hO⟩:∃ O:Obj,O=.cells #[.pointer (some ⟨w.heap.size,0,none⟩)] 82:=⟨_,rfl⟩
  have f1a:(w1.alloc O).frozen? ⟨r,1,none⟩=false:=(Blk.alloc HIN.out.rd O).free 1
  have c1a:(w1.alloc O).cell? ⟨r,1,none⟩=some (.slice pl q.l.length cl):=(Blk.alloc HIN.out.rd O).cell 1 rfl
  have hnb:=HNB.out
  have hrw1:r < (w1.alloc O).heap.size:=Nat.lt_of_lt_of_le (Blk.lt HIN.out.rd) (by simp)
  subst hO
  go_wp2_with (at_builtin;refine wpList_append_own_at _ (by rfl) _ _ _ (by rfl) B 82 i0 (.pointer none) 1 8 Tryz.underlying57 hi0 hz0 hz1 hz2 rfl (by decide) _ _ _ (by rfl) (HL1.out.alloc _) ⟨w1.heap.size,0,none⟩ 1 1 [.pointer (some ⟨w.heap.size,0,none⟩)] (by rfl) (by rfl) (cells_new _ #[_] _) (by simp [Value.oneCell']) (by unfold maxLen;omega) (by omega) (by simp;omega) ?_;intro v' w2 ho2 hg2 hiff hob2;obtain ⟨pv,cv,rfl⟩:=row_shape ho2;have fq:=hg2.frozen_far (a:=⟨r,1,none⟩) hrw1 (Ne.symm hnb);rw [f1a] at fq;have cq:=hg2.cell_far ⟨r,1,none⟩ hrw1 (Ne.symm hnb);rw [c1a] at cq)
  obtain ⟨hp3,hrd3⟩:=H.out.push H0.out HIN.out.rd HIN.out.kept HIN.out.cm (Nat.le_refl _) (fun k hk=>⟨by omega,hk.2,by omega⟩) hg2 (by simpa using hob2) ho2
  have hbw3:Below B w (w2.setCell ⟨r,1,none⟩ (.slice pv (q.l.length+1) cv)):=(below_grown_at (HBW1.out.alloc HSZ1.out _) hg2 (fun k e=>(HL1.out.lt k e).1) (by have:=HSZ1.out;simp;omega)).setCell H.out.rb.1 _
  have HP3:=Lib.hid hp3
  have HR3:=Lib.hid hrd3
  have HB3:=Lib.hid hbw3
  clear hp3 hrd3 hbw3 ho2 hg2 hiff hob2 fq cq
  go_meet
  exact ⟨_,HP3,HR3,HB3⟩
 case rest=>
 obtain ⟨v3,HP3,HR3,HB3⟩:=hcut
 obtain ⟨w3,hw3⟩:∃ w3,w3=wc:=⟨_,rfl⟩
 subst hw3
 obtain ⟨av3,re3,rv3,hcb3,had3⟩:=HP3.out.last
 have c0:=Blk.cell hcb3 0 cm_c
 have HCB3:=Lib.hid hcb3
 have HAD3:=Lib.hid had3
 have hnr:w.heap.size≠r:=HP3.out.notR (by simp)
 have hSK:∀ k,(K k∨w.heap.size+1≤k∧k < w1.heap.size)→¬ (k=r∨k=w.heap.size):=fun k hk e=>by
  rcases e with e | e
  ·exact HP3.out.rb.2 (e ▸ hk)
  ·exact (HP3.out.own w.heap.size (by simp)).1 (e ▸ hk)
 have HSK:=Lib.hid hSK
 have HNR:=Lib.hid hnr
 have hlow:∀ k,(k=r∨k=w.heap.size)→B≤k:=fun k e=>by
  rcases e with e | e
  ·have:=H.out.rb.1;omega
  ·have:=H.out.base;omega
 have HLOW:=Lib.hid hlow
 clear hcb3 had3 f1 d1 hSK hnr hlow
 have hmk:=smark_any r d s0 HD.out v3 ov w3 (by have:=HR3.out;rw [HS.out] at this;exact this)
 go_wp2_with fail
 refine hmk.mono ?_
 rintro e w4 ⟨⟨rfl,hr4⟩,hk4⟩
 have hbw4:Below B w w4:=HB3.out.trans (hk4.lower (fun k e=>HLOW.out k (.inl e)) HP3.out.base)
 have hg4:Glo w4:=HG.out.kept (S:=fun k=>B≤k) ⟨hbw4.os,hbw4.tape,hbw4.output,hbw4.size,fun k _ hk=>hbw4.block k (Nat.lt_of_not_le hk)⟩ (fun k hk=>Nat.le_trans hB8 hk)
 have hrx:=sregex_any r d s0 _ HRX.out v3 ov w4 hg4 hr4 (by simp) hr8
 have HR4:=Lib.hid hr4
 have HK4:=Lib.hid hk4
 have HB4:=Lib.hid hbw4
 clear hmk hr4 hk4 hbw4 hg4
 go_wp2_with fail
 refine hrx.mono ?_
 rintro e w5 ⟨he,hk5⟩
 have he2:e=.panicked [{ v:=brokV k0,recovered:=false }]:=he
 subst he2
 have hbw5:Below B w w5:=HB4.out.trans (hk5.lower (fun k e=>HLOW.out k (.inl e)) (Nat.le_trans H.out.base HB4.out.size))
 have HB5:=Lib.hid hbw5
 clear hrx hk5 hbw5 he
 go_wp2_with fail
 exact ⟨rfl,rfl,HB5.out⟩
end Go.Proofs.YtefpcacnblaokaaGreatDoor
