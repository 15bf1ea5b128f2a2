/-
  Texts of this seat put together: Sd20, Sd21, Sd22.
-/
import Derived.Test.YtefpcacnblaokaaGreatDoorQ24
import Derived.Tactics
import Derived.Tactics2
import Derived.Defers
import Derived.Recover
import Derived.Laws.Pointers

/-
  The walk of the script reader's command: s, that is told. Conditions: the reader lies in memory; what the library's variables hold; what the spec tells.
-/
set_option maxRecDepth 100000
set_option maxHeartbeats 8000000
namespace Go.Proofs.YtefpcacnblaokaaGreatDoor
open Go.RowKit Go.Shelf Go.Maps Go.Sort
theorem scmd_s (B r:Nat) (hB8:8≤B) (K:Nat→Prop) (q:Sd.RS) (qs:List Nat) (x:Sd.Cmd) (s:Bts) (hwh:Sd.whereF q.s=some (x,s)) (hc:x.c=115) (d:UInt8) (s0:Bts) (hsd:s=d :: s0) (hd:d≠92∧d≠10) (b s1 s2 s3 s4:Bts) (hrx:Sd.regex d s0=.ok (b,s1)) (hs1:s1.length≤1000000) (p:List Sd.Pc) (hside:Sd.side d true s1 []=some (p,s2)) (y:Sd.Cmd) (hf:Sd.flags (s2.length+1) (rxOf x b p) s2=some (y,s3)) (haf:Sd.after s3=some s4) (hlen:q.l.length≤1000000) (w:World) (hg:Glo w) (h:RSt w K B r q qs) :
  Calls Tryz.prog 31 #[.pointer (some ⟨r,0,none⟩)] w fun e w'=>CmdDone B r ⟨s4,q.l ++ [y],q.opn⟩ w e w':=by
 have HS:=Lib.hid hsd
 have HD:=Lib.hid hd
 have HG:=Lib.hid hg
 have HRX:=Lib.hid hrx
 have HS1:=Lib.hid hs1
 have HSD:=Lib.hid hside
 have HF:=Lib.hid hf
 have HAF:=Lib.hid haf
 clear hrx hsd hd hs1 hside hf haf
 have hr8:8≤r:=Nat.le_trans hB8 h.rb.1
 obtain ⟨lv,ov,h0,-⟩:=h.rd
 have hrl:=h.rlt
 obtain ⟨i0,hi0,hz0,hz1,hz2⟩:=info_parts info_pcm
 have hwc:=cmd_where B r hB8 K q qs x s hwh w hg h lv ov h0
 have H:=Lib.hid h
 have H0:=Lib.hid h0
 clear h h0 hwh
 go_enter Tryz.func31,Tryz.ntmps31
 go_wp2_with fail
 refine hwc.mono ?_
 rintro e w1 ⟨rfl,hin⟩
 obtain ⟨hl,-,hb⟩:=H.out.same H0.out
 have hl1:w1.ownsRow B 82 1 lv q.l.length (qs.map ptrC):=own_kept hl hin.kept fun k e e2=>(hb k e).2.1 e2
 obtain ⟨pl,cl,hlv⟩:=row_shape hl1
 subst hlv
 have HL1:=Lib.hid hl1
 obtain ⟨av,re,rv,hcb,-⟩:=hin.cm
 have HIN:=Lib.hid hin
 have c0:=Blk.cell hcb 0 cm_c
 have d1:=Blk.cell hin.rd 1 (v:=.slice pl q.l.length cl) rfl
 have f1:=Blk.free hin.rd 1
 have hsz1:B≤w1.heap.size:=Nat.le_trans H.out.base hin.kept.size
 have HSZ1:=Lib.hid hsz1
 have e1:((x.c.toNat:Int) == 123)=false:=by rw [hc];rfl
 have e2:((x.c.toNat:Int) == 125)=false:=by rw [hc];rfl
 have e2':((x.c.toNat:Int) != 125)=true:=by rw [hc];rfl
 have e3:((x.c.toNat:Int) == 35)=false:=by rw [hc];rfl
 have e3':((x.c.toNat:Int) != 35)=true:=by rw [hc];rfl
 have e4:((x.c.toNat:Int) == 97)=false:=by rw [hc];rfl
 have e5:((x.c.toNat:Int) == 105)=false:=by rw [hc];rfl
 have e6:((x.c.toNat:Int) == 99)=false:=by rw [hc];rfl
 have e7:((x.c.toNat:Int) == 98)=false:=by rw [hc];rfl
 have e8:((x.c.toNat:Int) == 116)=false:=by rw [hc];rfl
 have e9:((x.c.toNat:Int) == 58)=false:=by rw [hc];rfl
 have e10:((x.c.toNat:Int) == 121)=false:=by rw [hc];rfl
 have e11:((x.c.toNat:Int) == 115)=true:=by rw [hc];rfl
 have hbw1:Below B w w1:=hin.kept.lower (fun k e=>by have h5:k=r:=e;have:=H.out.rb.1;omega) H.out.base
 have HBW1:=Lib.hid hbw1
 have hnb:(Value.slice pl q.l.length cl).ownBlock≠some r:=fun e=>(hb r e).2.1 rfl
 have HNB:=Lib.hid hnb
 have HC:=Lib.hid hc
 clear hc
 clear hwc hin hl hb hl1 hcb hbw1 hnb
 go_upto_region 3 with fail
 go_cut [] (fun wx=>∃ v,Hid (RSt wx (fun k=>K k∨w.heap.size+1≤k∧k < w1.heap.size) B r ⟨s,q.l ++ [x],q.opn⟩ (qs ++ [w.heap.size]))∧Hid (RdB wx r s v ov)∧Hid (Below B w wx))
 case first=>
  obtain ⟨O,hO⟩:∃ O:Obj,O=.cells #[.pointer (some ⟨w.heap.size,0,none⟩)] 82:=⟨_,rfl⟩
  have f1a:(w1.alloc O).frozen? ⟨r,1,none⟩=false:=(Blk.alloc HIN.out.rd O).free 1
  have c1a:(w1.alloc O).cell? ⟨r,1,none⟩=some (.slice pl q.l.length cl):=(Blk.alloc HIN.out.rd O).cell 1 rfl
  have hnb:=HNB.out
  have hrw1:r < (w1.alloc O).heap.size:=Nat.lt_of_lt_of_le (Blk.lt HIN.out.rd) (by simp)
  subst hO
  go_wp2_with (at_builtin;refine wpList_append_own_at _ (by rfl) _ _ _ (by rfl) B 82 i0 (.pointer none) 1 8 Tryz.underlying57 hi0 hz0 hz1 hz2 rfl (by decide) _ _ _ (by rfl) (HL1.out.alloc _) ⟨w1.heap.size,0,none⟩ 1 1 [.pointer (some ⟨w.heap.size,0,none⟩)] (by rfl) (by rfl) (cells_new _ #[_] _) (by simp [Value.oneCell']) (by unfold maxLen;omega) (by omega) (by simp;omega) ?_;intro v' w2 ho2 hg2 hiff hob2;obtain ⟨pv,cv,rfl⟩:=row_shape ho2;have fq:=hg2.frozen_far (a:=⟨r,1,none⟩) hrw1 (Ne.symm hnb);rw [f1a] at fq;have cq:=hg2.cell_far ⟨r,1,none⟩ hrw1 (Ne.symm hnb);rw [c1a] at cq)
  obtain ⟨hp3,hrd3⟩:=H.out.push H0.out HIN.out.rd HIN.out.kept HIN.out.cm (Nat.le_refl _) (fun k hk=>⟨by omega,hk.2,by omega⟩) hg2 (by simpa using hob2) ho2
  have hbw3:Below B w (w2.setCell ⟨r,1,none⟩ (.slice pv (q.l.length+1) cv)):=(below_grown_at (HBW1.out.alloc HSZ1.out _) hg2 (fun k e=>(HL1.out.lt k e).1) (by have:=HSZ1.out;simp;omega)).setCell H.out.rb.1 _
  have HP3:=Lib.hid hp3
  have HR3:=Lib.hid hrd3
  have HB3:=Lib.hid hbw3
  clear hp3 hrd3 hbw3 ho2 hg2 hiff hob2 fq cq
  go_meet
  exact ⟨_,HP3,HR3,HB3⟩
 case rest=>
 obtain ⟨v3,HP3,HR3,HB3⟩:=hcut
 obtain ⟨w3,hw3⟩:∃ w3,w3=wc:=⟨_,rfl⟩
 subst hw3
 obtain ⟨av3,re3,rv3,hcb3,had3⟩:=HP3.out.last
 have c0:=Blk.cell hcb3 0 cm_c
 have HCB3:=Lib.hid hcb3
 have HAD3:=Lib.hid had3
 have hnr:w.heap.size≠r:=HP3.out.notR (by simp)
 have hSK:∀ k,(K k∨w.heap.size+1≤k∧k < w1.heap.size)→¬ (k=r∨k=w.heap.size):=fun k hk e=>by
  rcases e with e | e
  ·exact HP3.out.rb.2 (e ▸ hk)
  ·exact (HP3.out.own w.heap.size (by simp)).1 (e ▸ hk)
 have HSK:=Lib.hid hSK
 have HNR:=Lib.hid hnr
 have hlow:∀ k,(k=r∨k=w.heap.size)→B≤k:=fun k e=>by
  rcases e with e | e
  ·have:=H.out.rb.1;omega
  ·have:=H.out.base;omega
 have HLOW:=Lib.hid hlow
 clear hcb3 had3 f1 d1 hSK hnr hlow
 have hmk:=smark_any r d s0 HD.out v3 ov w3 (by have:=HR3.out;rw [HS.out] at this;exact this)
 go_wp2_with fail
 refine hmk.mono ?_
 rintro e w4 ⟨⟨rfl,hr4⟩,hk4⟩
 have hbw4:Below B w w4:=HB3.out.trans (hk4.lower (fun k e=>HLOW.out k (.inl e)) HP3.out.base)
 have hg4:Glo w4:=HG.out.kept (S:=fun k=>B≤k) ⟨hbw4.os,hbw4.tape,hbw4.output,hbw4.size,fun k _ hk=>hbw4.block k (Nat.lt_of_not_le hk)⟩ (fun k hk=>Nat.le_trans hB8 hk)
 have hrx:=sregex_any r d s0 _ HRX.out v3 ov w4 hg4 hr4 (by simp) hr8
 have HR4:=Lib.hid hr4
 have HK4:=Lib.hid hk4
 have HB4:=Lib.hid hbw4
 clear hmk hr4 hk4 hbw4 hg4
 go_wp2_with fail
 refine hrx.mono ?_
 rintro e w5 ⟨⟨qx,rfl,hr5,hrd5⟩,hk5⟩
 unfold ptrC
 have hk35:Kept (fun k=>k=r) w3 w5:=HK4.out.trans hk5
 have hcb5:CmBlk w5 w.heap.size x av3 re3 rv3:=Blk.kept HCB3.out hk35 HNR.out
 have ht3:=HAD3.out.2.2.2
 obtain ⟨w6,hw6⟩:∃ w6,w5.setCell ⟨w.heap.size,262,none⟩ (.pointer (some ⟨qx,0,none⟩))=w6:=⟨_,rfl⟩
 have hcb6:Blk w6 w.heap.size (cmCells x.c av3 x.neg x.dest x.lab x.tab (.pointer (some ⟨qx,0,none⟩)) rv3 x.all x.prt) 88:=by
  rw [← hw6]
  have:=Blk.set hcb5 262 (.pointer (some ⟨qx,0,none⟩))
  rw [cm_set_re ht3] at this
  exact this
 have hr6:RdB w6 r s1 v3 ov:=by rw [← hw6];exact Blk.setOther hr5 (a:=⟨w.heap.size,262,none⟩) (Ne.symm HNR.out) _
 have hk6:Kept (fun k=>k=r∨k=w.heap.size) w3 w6:=by rw [← hw6];exact (hk35.mono fun _ _ e=>.inl e).setCell (.inl (.inr rfl)) 262 _
 have hrd6:RdyK w6 (fun k=>w3.heap.size≤k∧k < w6.heap.size) qx b:=by
  have hk56:Kept (fun k=>k=w.heap.size) w5 w6:=by rw [← hw6];exact (Kept.refl (fun k=>k=w.heap.size) w5).setCell (.inl rfl) 262 _
  have h4:=HK4.out.size
  have h56:=hk56.size
  refine (hrd5.kept hk56 fun k hk e=>?_).mono fun k hk=>⟨by omega,by omega⟩
  have:=HP3.out.qlt w.heap.size (by simp)
  omega
 have c262:=Blk.cell hcb5 262 (cm_re ht3)
 have f262:=Blk.free hcb5 262
 have c0b:=Blk.cell hcb5 0 cm_c
 have hsd:=sside_any r d true s1 HS1.out p s2 HSD.out v3 ov w6 hr6
 have HCB6:=Lib.hid hcb6
 have HK6:=Lib.hid hk6
 have HRD6:=Lib.hid hrd6
 have HW6:=Lib.hid hw6
 clear hrx hr5 hrd5 hk5 hk35 hcb5 hcb6 hr6 hk6 hrd6 hw6 c0
 go_upto_region 33 with fail
 rw [HW6.out]
 clear c262 f262 c0b
 go_wp2_with fail
 refine hsd.mono ?_
 rintro e w7 ⟨⟨v7,rfl,ho7,hr7⟩,hk7⟩
 obtain ⟨pv,cv,rfl⟩:=row_shape ho7
 have hk67:Kept (fun k=>k=r∨k=w.heap.size) w3 w7:=HK6.out.trans (hk7.mono fun _ _ e=>.inl e)
 have hcb7:Blk w7 w.heap.size (cmCells x.c av3 x.neg x.dest x.lab x.tab (.pointer (some ⟨qx,0,none⟩)) rv3 x.all x.prt) 88:=Blk.kept HCB6.out hk7 HNR.out
 obtain ⟨w8,hw8⟩:∃ w8,w7.setCell ⟨w.heap.size,263,none⟩ (.slice pv p.length cv)=w8:=⟨_,rfl⟩
 have hcb8:CmBlk w8 w.heap.size (rxOf x b p) av3 (.pointer (some ⟨qx,0,none⟩)) (.slice pv p.length cv):=by
  rw [← hw8]
  have:=Blk.set hcb7 263 (.slice pv p.length cv)
  rw [cm_set_rep ht3] at this
  exact this
 have hr8b:RdB w8 r s2 v3 ov:=by rw [← hw8];exact Blk.setOther hr7 (a:=⟨w.heap.size,263,none⟩) (Ne.symm HNR.out) _
 have hk8:Kept (fun k=>k=r∨k=w.heap.size) w3 w8:=by rw [← hw8];exact hk67.setCell (.inl (.inr rfl)) 263 _
 have hk68:Kept (fun k=>k=r∨k=w.heap.size) w6 w8:=by rw [← hw8];exact (hk7.mono fun _ _ e=>.inl e).setCell (.inl (.inr rfl)) 263 _
 have hw3N:w.heap.size < w3.heap.size:=HP3.out.qlt w.heap.size (by simp)
 have hrd8:RdyK w8 (fun k=>w3.heap.size≤k∧k < w8.heap.size) qx b:=by
  have h1:=hk68.size
  have h2:=HP3.out.rlt
  exact (HRD6.out.kept hk68 fun k hk e=>by rcases e with e | e <;> omega).mono fun k hk=>⟨hk.1,by omega⟩
 have hpc8:PcsAt w8 (fun k=>w3.heap.size≤k∧k < w8.heap.size) (.slice pv p.length cv) p:=by
  have h1:=HK6.out.size
  have h2:=HP3.out.rlt
  have hk78:Kept (fun k=>k=w.heap.size) w7 w8:=by rw [← hw8];exact (Kept.refl (fun k=>k=w.heap.size) w7).setCell (.inl rfl) 263 _
  have h3:=hk78.size
  have h4:=own_kept ho7 hk78 fun g e e2=>by
   have h5:g=w.heap.size:=e2
   have:=(ho7.lt g e).1
   omega
  exact ⟨own_mono h4 (Nat.zero_le _),fun g e=>by have:=ho7.lt g e;exact ⟨by omega,by omega⟩⟩
 have c263:=Blk.cell hcb7 263 (cm_rep ht3)
 have f263:=Blk.free hcb7 263
 have hfl:=sflags_any r w.heap.size (Ne.symm HNR.out) (s2.length+1) (rxOf x b p) y s2 s3 HF.out ht3 v3 ov av3 (.pointer (some ⟨qx,0,none⟩)) (.slice pv p.length cv) w8 hr8b hcb8
 have HK8:=Lib.hid hk8
 have HRD8:=Lib.hid hrd8
 have HPC8:=Lib.hid hpc8
 have HW8:=Lib.hid hw8
 clear hsd ho7 hr7 hk7 hk67 hcb7 hcb8 hr8b hk8 hk68 hrd8 hpc8 hw8
 go_upto_region 34 with fail
 rw [HW8.out]
 clear c263 f263
 go_wp2_with fail
 refine hfl.mono ?_
 rintro e w9 ⟨⟨rfl,hr9,hcb9,hty⟩,hk9⟩
 obtain ⟨y1,y2,y3⟩:=flags_same _ _ _ _ _ HF.out
 have hk39:Kept (fun k=>k=r∨k=w.heap.size) w3 w9:=HK8.out.trans hk9
 have hcm9:CmdAt w9 (fun k=>(K k∨w.heap.size+1≤k∧k < w1.heap.size)∨w3.heap.size≤k∧k < w9.heap.size) w.heap.size y:=by
  obtain ⟨a1,a2,a3,a4⟩:=HAD3.out
  have h1:=hk9.size
  have h2:=HP3.out.rlt
  have hN:∀ k,(w3.heap.size≤k∧k < w8.heap.size)→¬ (k=r∨k=w.heap.size):=fun k hk e=>by rcases e with e | e <;> omega
  refine ⟨av3,_,_,hcb9, ?_, ?_, ?_,hty⟩
  ·rw [y1]
   exact (a1.kept hk39 HSK.out).mono fun _ e=>.inl e
  ·rw [y2]
   exact ⟨qx,rfl,(HRD8.out.kept hk9 hN).mono fun k hk=>.inr ⟨hk.1,by omega⟩⟩
  ·rw [y3]
   exact (HPC8.out.kept hk9 hN).mono fun k hk=>.inr ⟨hk.1,by omega⟩
 have hp9:=HP3.out.turned HR3.out hr9 hk39 hcm9 (fun _ e=>.inl e) (fun k e=>e)
 have hbw9:Below B w w9:=HB3.out.trans (hk39.lower HLOW.out HP3.out.base)
 have haf9:=safter_any r s3 s4 HAF.out v3 ov w9 hr9
 have HP9:=Lib.hid hp9
 have HR9:=Lib.hid hr9
 have HB9:=Lib.hid hbw9
 clear hfl hr9 hcb9 hk9 hk39 hcm9 hp9 hbw9
 go_wp2_with fail
 refine haf9.mono ?_
 rintro e w10 ⟨⟨rfl,hr10⟩,hk10⟩
 have hfin:=HP9.out.step HR9.out s4 hr10 hk10 (fun _ e=>e)
 have hbw10:=HB9.out.trans (hk10.lower (fun k e=>by have h5:k=r:=e;have:=H.out.rb.1;omega) HP9.out.base)
 have HFIN:=Lib.hid hfin
 have HB10:=Lib.hid hbw10
 clear haf9 hr10 hk10 hfin hbw10
 go_wp2_with fail
 go_end0
 exact ⟨⟨rfl,_,_,HFIN.out⟩,HB10.out⟩
end Go.Proofs.YtefpcacnblaokaaGreatDoor

/-
  The walk of the script reader's command, whatever it is. Conditions: the reader lies in memory; what the library's variables hold; what the spec tells.
-/
namespace Go.Proofs.YtefpcacnblaokaaGreatDoor
open Go.RowKit Go.Shelf Go.Maps Go.Sort
theorem subst_ok {x y:Sd.Cmd} {s t:Bts} (h:Sd.subst x s=.ok (y,t)):∃ d s0 b s1 p s2 s3,s=d :: s0∧(d≠92∧d≠10)∧Sd.regex d s0=.ok (b,s1)∧s1.length≤1000000∧Sd.side d true s1 []=some (p,s2)∧Sd.flags (s2.length+1) (rxOf x b p) s2=some (y,s3)∧Sd.after s3=some t:=by
 unfold Sd.subst at h
 split at h
 ·cases h
 ·rename_i d s0
  split at h
  ·cases h
  ·rename_i hd
   split at h
   ·cases h
   ·cases h
   ·rename_i b s1 hrx
    split at h
    ·cases h
    ·rename_i hl
     split at h
     ·cases h
     ·rename_i p s2 hsd
      split at h
      ·cases h
      ·rename_i y2 s3 hf
       split at h
       ·cases h
       ·rename_i s4 haf
        simp only [Sd.Ans.ok.injEq,Prod.mk.injEq] at h
        obtain ⟨rfl,rfl⟩:=h
        exact ⟨d,s0,b,s1,p,s2,s3,rfl,by simpa [not_or] using hd,hrx,by omega,hsd,hf,haf⟩
theorem subst_bad {x:Sd.Cmd} {s:Bts} {k:Nat} (h:Sd.subst x s=.bad k):∃ d s0,s=d :: s0∧(d≠92∧d≠10)∧Sd.regex d s0=.bad k:=by
 unfold Sd.subst at h
 split at h
 ·cases h
 ·rename_i d s0
  split at h
  ·cases h
  ·rename_i hd
   split at h
   ·cases h
   ·rename_i k2 hrx
    simp only [Sd.Ans.bad.injEq] at h
    subst h
    exact ⟨d,s0,rfl,by simpa [not_or] using hd,hrx⟩
   ·split at h
    ·cases h
    ·split at h
     ·cases h
     ·split at h
      ·cases h
      ·split at h
       ·cases h
       ·cases h
theorem scmd_any (B r:Nat) (hB8:8≤B) (K:Nat→Prop) (q q2:Sd.RS) (qs:List Nat) (hx:Sd.cmd q=.ok q2) (hlen:q.l.length < 1000000) (w:World) (hg:Glo w) (h:RSt w K B r q qs) :
  Calls Tryz.prog 31 #[.pointer (some ⟨r,0,none⟩)] w fun e w'=>CmdDone B r q2 w e w':=by
 unfold Sd.cmd at hx
 split at hx
 ·cases hx
 ·rename_i x s hwh
  split at hx
  ·rename_i hc
   split at hx
   ·rename_i i hop
    split at hx
    ·cases hx
    ·rename_i s1 haf
     injection hx with hx
     subst hx
     exact scmd_shut B r hB8 K q qs x s hwh hc i hop s1 haf (by omega) w hg h
   ·cases hx
  ·split at hx
   ·rename_i hc
    split at hx
    ·rename_i hop
     injection hx with hx
     subst hx
     exact scmd_open B r hB8 K q qs x s hwh hc hop (by omega) w hg h
    ·cases hx
   ·split at hx
    ·rename_i hc
     split at hx
     ·cases hx
     ·rename_i h1
      simp only at hx
      split at hx
      ·cases hx
      ·rename_i h2
       injection hx with hx
       subst hx
       have hs:s.length≤1000000∧s.all (fun b=>decide (b.toNat < 128))=true:=by
        rw [not_or] at h1
        exact ⟨by omega,by simpa using h1.2⟩
       rcases hc with hc | hc
       ·exact scmd_b B r hB8 K q qs x s hwh hc hs.1 hs.2 (by omega) w hg h
       ·have h3:(Sd.name s).1≠[]∧Sd.place (Sd.name s).1 (q.l ++ [labOf x (Sd.name s).1])=some q.l.length:=by
         constructor
         ·intro e
          exact h2 ⟨hc,.inl e⟩
         ·apply Classical.byContradiction
          intro e
          exact h2 ⟨hc,.inr e⟩
        exact scmd_colon B r hB8 K q qs x s hwh hc hs.1 hs.2 hlen h3.1 h3.2 (by omega) w hg h
    ·split at hx
     ·rename_i hc
      split at hx
      ·cases hx
      ·rename_i T t hl
       split at hx
       ·cases hx
       ·rename_i s2 haf
        injection hx with hx
        subst hx
        exact scmd_y B r hB8 K q qs x s hwh hc T t s2 hl haf (by omega) w hg h
     ·split at hx
      ·rename_i hc
       split at hx
       ·cases hx
       ·cases hx
       ·rename_i y s1 hsb
        injection hx with hx
        subst hx
        obtain ⟨d,s0,b,t1,p,t2,t3,e1,e2,e3,e4,e5,e6,e7⟩:=subst_ok hsb
        exact scmd_s B r hB8 K q qs x s hwh hc d s0 e1 e2 b t1 t2 t3 s1 e3 e4 p e5 y e6 e7 (by omega) w hg h
      ·split at hx
       ·rename_i hlo
        split at hx
        ·cases hx
        ·rename_i s1 haf
         injection hx with hx
         subst hx
         exact scmd_lone B r hB8 K q qs x s s1 hwh hlo haf (by omega) w hg h
       ·cases hx
theorem scmd_bad (B r:Nat) (hB8:8≤B) (K:Nat→Prop) (q:Sd.RS) (qs:List Nat) (k:Nat) (hx:Sd.cmd q=.bad k) (hlen:q.l.length < 1000000) (w:World) (hg:Glo w) (h:RSt w K B r q qs) :
  Calls Tryz.prog 31 #[.pointer (some ⟨r,0,none⟩)] w fun e w'=>e=.panicked [{ v:=brokV k,recovered:=false }]∧Below B w w':=by
 unfold Sd.cmd at hx
 split at hx
 ·cases hx
 ·rename_i x s hwh
  split at hx
  ·split at hx
   ·split at hx
    ·cases hx
    ·cases hx
   ·cases hx
  ·split at hx
   ·split at hx
    ·cases hx
    ·cases hx
   ·split at hx
    ·split at hx
     ·cases hx
     ·simp only at hx
      split at hx
      ·cases hx
      ·cases hx
    ·split at hx
     ·split at hx
      ·cases hx
      ·split at hx
       ·cases hx
       ·cases hx
     ·split at hx
      ·rename_i hc
       split at hx
       ·cases hx
       ·rename_i k2 hsb
        injection hx with hx
        subst hx
        obtain ⟨d,s0,e1,e2,e3⟩:=subst_bad hsb
        exact scmd_sbad B r hB8 K q qs x s hwh hc d s0 e1 e2 k2 e3 (by omega) w hg h
       ·cases hx
      ·split at hx
       ·split at hx
        ·cases hx
        ·cases hx
       ·cases hx
end Go.Proofs.YtefpcacnblaokaaGreatDoor

/-
  A script in memory; how its jumps are linked; the script reader's deferred closure. No condition but those of each lemma.
-/
set_option maxRecDepth 100000
namespace Go.Proofs.YtefpcacnblaokaaGreatDoor
open Go.RowKit Go.Shelf Go.Maps
structure ScrAt (W:World) (S:Nat→Prop) (v:Value) (cs:List Sd.Cmd) (qs:List Nat):Prop where
 row:∃ B,W.ownsRow B 82 1 v cs.length (qs.map ptrC)
 own:∀ g,v.ownBlock=some g→S g
 len:qs.length=cs.length
 cm:∀ i,i < qs.length→CmdAt W S (qs.getD i 0) (cs.getD i default)
 nd:qs.Nodup
 set:∀ x ∈ qs,S x
theorem ScrAt.kept {S T:Nat→Prop} {W W':World} {v:Value} {cs:List Sd.Cmd} {qs:List Nat} (h:ScrAt W S v cs qs) (hk:Kept T W W') (hT:∀ k,S k→¬ T k):ScrAt W' S v cs qs:=by
 obtain ⟨⟨B,h1⟩,h2,h3,h4,h5,h6⟩:=h
 exact ⟨⟨B,own_kept h1 hk fun g e=>hT g (h2 g e)⟩,h2,h3,fun i hi=>(h4 i hi).kept hk (hT _ (h6 _ (getD_mem hi))) hT,h5,h6⟩
theorem ScrAt.mono {S T:Nat→Prop} {W:World} {v:Value} {cs:List Sd.Cmd} {qs:List Nat} (h:ScrAt W S v cs qs) (hT:∀ k,S k→T k):ScrAt W T v cs qs:=
 ⟨h.row,fun g e=>hT g (h.own g e),h.len,fun i hi=>(h.cm i hi).mono hT,h.nd,fun x hx=>hT x (h.set x hx)⟩
theorem linkAll_spec (l:List Sd.Cmd):∀ (r L:List Sd.Cmd),Sd.linkAll l r=some L→L.length=r.length∧∀ i,i < r.length→Sd.linkOne l (r.getD i default)=some (L.getD i default)
 | [],L,h=>by
  simp only [Sd.linkAll,Option.some.injEq] at h
  subst h
  exact ⟨rfl,fun i hi=>absurd hi (Nat.not_lt_zero _)⟩
 | x :: r,L,h=>by
  rw [Sd.linkAll] at h
  split at h
  ·cases h
  ·rename_i y hy
   cases h2:Sd.linkAll l r with
   | none=>rw [h2] at h;cases h
   | some L2=>
    rw [h2] at h
    simp only [Option.map_some,Option.some.injEq] at h
    subst h
    obtain ⟨a,b⟩:=linkAll_spec l r L2 h2
    refine ⟨by simp [a],fun i hi=>?_⟩
    cases i with
    | zero=>exact hy
    | succ i=>
     have:=b i (by simpa using hi)
     simpa [List.getD_eq_getElem?_getD] using this
theorem linkOne_same {l:List Sd.Cmd} {x y:Sd.Cmd} (h:Sd.linkOne l x=some y):y.c=x.c∧y.lab=x.lab:=by
 unfold Sd.linkOne at h
 split at h
 ·split at h
  ·simp only [Option.some.injEq] at h
   subst h
   exact ⟨rfl,rfl⟩
  ·cases h2:Sd.place x.lab l with
   | none=>rw [h2] at h;cases h
   | some i=>
    rw [h2] at h
    simp only [Option.map_some,Option.some.injEq] at h
    subst h
    exact ⟨rfl,rfl⟩
 ·split at h
  ·cases h
  ·simp only [Option.some.injEq] at h
   subst h
   exact ⟨rfl,rfl⟩
theorem place_same (n:Bts):∀ (l l2:List Sd.Cmd),l.length=l2.length→(∀ i,i < l.length→(l.getD i default).c=(l2.getD i default).c∧(l.getD i default).lab=(l2.getD i default).lab)→Sd.place n l=Sd.place n l2
 | [],[],_,_=>rfl
 | [],_ :: _,h,_=>by simp at h
 | _ :: _,[],h,_=>by simp at h
 | x :: r,y :: s,h,hc=>by
  obtain ⟨e1,e2⟩:=hc 0 (by simp)
  simp only [List.getD_cons_zero] at e1 e2
  rw [Sd.place,Sd.place,e1,e2,place_same n r s (by simpa using h) fun i hi=>by simpa [List.getD_eq_getElem?_getD] using hc (i+1) (by simpa using hi)]
structure Mix (l L l':List Sd.Cmd) (i:Nat):Prop where
 len:l'.length=l.length
 done:∀ j,j < i→j < l.length→l'.getD j default=L.getD j default
 rest:∀ j,i≤j→j < l.length→l'.getD j default=l.getD j default
theorem getD_set_eq (l:List Sd.Cmd) (i:Nat) (y:Sd.Cmd) (hi:i < l.length):(l.set i y).getD i default=y:=by
 rw [List.getD_eq_getElem?_getD,List.getElem?_set_self hi]
 rfl
theorem getD_set_ne (l:List Sd.Cmd) {i j:Nat} (y:Sd.Cmd) (h:i≠j):(l.set i y).getD j default=l.getD j default:=by
 rw [List.getD_eq_getElem?_getD,List.getElem?_set_ne h,← List.getD_eq_getElem?_getD]
theorem Mix.next {l L l':List Sd.Cmd} {i:Nat} (h:Mix l L l' i) (hi:i < l.length):Mix l L (l'.set i (L.getD i default)) (i+1):=by
 refine ⟨by rw [List.length_set];exact h.len,fun j hj hl=>?_,fun j hj hl=>?_⟩
 ·by_cases e:i=j
  ·subst e
   exact getD_set_eq _ _ _ (by rw [h.len];exact hi)
  ·rw [getD_set_ne _ _ e]
   exact h.done j (by omega) hl
 ·rw [getD_set_ne _ _ (by omega)]
  exact h.rest j (by omega) hl
theorem Mix.skip {l L l':List Sd.Cmd} {i:Nat} (h:Mix l L l' i) (e:i < l.length→L.getD i default=l.getD i default):Mix l L l' (i+1):=
 ⟨h.len,fun j hj hl=>by
  by_cases e2:j=i
  ·subst e2
   rw [h.rest j (Nat.le_refl _) hl,e hl]
  ·exact h.done j (by omega) hl,fun j hj hl=>h.rest j (by omega) hl⟩
theorem Mix.same {l L l':List Sd.Cmd} {i:Nat} (h:Mix l L l' i) (hL:∀ j,j < l.length→Sd.linkOne l (l.getD j default)=some (L.getD j default)):∀ j,j < l'.length→(l'.getD j default).c=(l.getD j default).c∧(l'.getD j default).lab=(l.getD j default).lab:=fun j hj=>by
 rw [h.len] at hj
 rcases Nat.lt_or_ge j i with h1 | h1
 ·rw [h.done j h1 hj]
  exact linkOne_same (hL j hj)
 ·rw [h.rest j h1 hj]
  exact ⟨rfl,rfl⟩
theorem Mix.end_ {l L l':List Sd.Cmd} (h:Mix l L l' l.length) (hL:L.length=l.length):l'=L:=by
 apply List.ext_getElem
 ·rw [h.len,hL]
 ·intro j h1 h2
  have:=h.done j (by rw [← h.len];exact h1) (by rw [← h.len];exact h1)
  rw [List.getD_eq_getElem?_getD,List.getElem?_eq_getElem h1,List.getD_eq_getElem?_getD,List.getElem?_eq_getElem h2] at this
  exact this
theorem scatch_idle (p1 p2:Addr) (w:World) :
  CallsD Tryz.prog 29 #[.pointer (some p1),.pointer (some p2)] .returning w fun e u' w'=>e=.returned (.tuple #[])∧u'=.returning∧w'=w:=by
 refine callsD_of_wpS Tryz.func29 rfl fun c₀ cs hu=>?_
 apply wpS_seq
 apply wpS_region
 simp [wpOpsS,go_sem,recoverD,hu,Tryz.ntmps29,Exit.thenS]
 refine wpS_of_wp ?_
 change Code.wp _ _ _ { tmps:=#[.pointer (some p1),.pointer (some p2),.nilIface,undef,undef,.nilIface,undef,undef,undef,undef,undef,undef,undef,undef,undef,undef,undef,undef],defers:=[] } _
 go_wp2_with fail
 cases c₀
 simp_all [bodyPostS,results,Tryz.results29]
theorem sta_broken (k:Int) (w:World):(Instr.typeAssert (.iface 75 (.agg #[.int .i64 k])) 20 75 true).run Tryz.prog w=.ok (.tuple #[.agg #[.int .i64 k],.bool true]) w:=by kernel_rfl
theorem scatch_panicking (q:Nat) (x:Value) (y:Value) (k:Int) (older:List PanicEntry) (w:World) (hq:Blk w q #[x] 57) (hq2:Blk w (q+1) #[y] 44) :
  CallsD Tryz.prog 29 #[.pointer (some ⟨q,0,none⟩),.pointer (some ⟨q+1,0,none⟩)] (.panicking ({ v:=brokV k,recovered:=false } :: older)) w fun e u' w'=>
   e=.returned (.tuple #[])∧u'=.panicking ({ v:=brokV k,recovered:=true } :: older)∧Blk w' q #[.slice none 0 0] 57∧Blk w' (q+1) #[.int .i64 k] 44∧Kept (fun j=>j=q∨j=q+1) w w':=by
 refine callsD_of_wpS Tryz.func29 rfl fun c₀ cs hu=>?_
 apply wpS_seq
 apply wpS_region
 simp [wpOpsS,go_sem,recoverD,hu,Tryz.ntmps29,Exit.thenS,brokV]
 refine wpS_of_wp ?_
 change Code.wp _ _ _ { tmps:=#[.pointer (some ⟨q,0,none⟩),.pointer (some ⟨q+1,0,none⟩),.iface 75 (.agg #[.int .i64 k]),undef,undef,.iface 75 (.agg #[.int .i64 k]),undef,undef,undef,undef,undef,undef,undef,undef,undef,undef,undef,undef],defers:=[] } _
 have hta:=sta_broken k
 go_wp2_with fail
 have hql:=Blk.lt hq
 have hql2:=Blk.lt hq2
 obtain ⟨w1,hw1⟩:∃ w1,w.alloc (.cells #[.int .i64 k] 75)=w1:=⟨_,rfl⟩
 have kb:Blk w1 w.heap.size #[.int .i64 k] 75:=by rw [← hw1];exact Blk.new _ _ _
 have k1:Blk w1 q #[x] 57:=by rw [← hw1];exact Blk.alloc hq _
 have k2:Blk w1 (q+1) #[y] 44:=by rw [← hw1];exact Blk.alloc hq2 _
 have hk1:Kept (fun j=>j=q∨j=q+1) w w1:=by rw [← hw1];exact (Kept.refl _ _).alloc _
 rw [hw1]
 have l1:Blk (w1.drew.setCell ⟨q,0,none⟩ (.slice none 0 0)) q #[.slice none 0 0] 57:=Blk.set (Blk.drew k1) 0 _
 have l2:Blk (w1.drew.setCell ⟨q,0,none⟩ (.slice none 0 0)) (q+1) #[y] 44:=Blk.setOther (Blk.drew k2) (a:=⟨q,0,none⟩) (by show q+1≠q;omega) _
 have m1:Blk ((w1.drew.setCell ⟨q,0,none⟩ (.slice none 0 0)).setCell ⟨q+1,0,none⟩ (.int .i64 k)) q #[.slice none 0 0] 57:=Blk.setOther l1 (a:=⟨q+1,0,none⟩) (by show q≠q+1;omega) _
 have m2:Blk ((w1.drew.setCell ⟨q,0,none⟩ (.slice none 0 0)).setCell ⟨q+1,0,none⟩ (.int .i64 k)) (q+1) #[.int .i64 k] 44:=Blk.set l2 0 _
 have hkm:Kept (fun j=>j=q∨j=q+1) w ((w1.drew.setCell ⟨q,0,none⟩ (.slice none 0 0)).setCell ⟨q+1,0,none⟩ (.int .i64 k)):=((hk1.drew).setCell (.inl (.inl rfl)) 0 _).setCell (.inl (.inr rfl)) 0 _
 have a0:=Blk.cell (Blk.drew kb) 0 (v:=.int .i64 k) rfl
 have a1:=Blk.cell (Blk.drew k1) 0 (v:=x) rfl
 have a2:=Blk.cell (Blk.drew k2) 0 (v:=y) rfl
 have b1:=Blk.free (Blk.drew k1) 0
 have b2:=Blk.free (Blk.drew k2) 0
 have d2:=Blk.cell l2 0 (v:=y) rfl
 have e2:=Blk.free l2 0
 have a0':=Blk.cell kb 0 (v:=.int .i64 k) rfl
 have a1':=Blk.cell k1 0 (v:=x) rfl
 have a2':=Blk.cell k2 0 (v:=y) rfl
 have b1':=Blk.free k1 0
 have b2':=Blk.free k2 0
 have g0:(w1.setCell ⟨q,0,none⟩ (.slice none 0 0)).drew.cell? ⟨w.heap.size,0,none⟩=some (.int .i64 k):=Blk.cell (Blk.drew (Blk.setOther kb (a:=⟨q,0,none⟩) (by show w.heap.size≠q;omega) _)) 0 rfl
 have M1:=Lib.hid m1
 have M2:=Lib.hid m2
 have HKM:=Lib.hid hkm
 clear hw1 kb k1 k2 hk1 l1 l2 m1 m2 hkm hta
 go_region
 simp (zetaDelta:=true) [bodyPostS,results,Tryz.results29]
 exact ⟨M1.out,M2.out,HKM.out⟩
end Go.Proofs.YtefpcacnblaokaaGreatDoor
