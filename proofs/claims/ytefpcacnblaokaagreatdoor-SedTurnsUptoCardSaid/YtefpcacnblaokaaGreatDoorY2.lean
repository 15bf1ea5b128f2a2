/-
  Texts of this seat put together: Sd53, F2.
-/
import Derived.Test.YtefpcacnblaokaaGreatDoorQ38
import Derived.Lib.QuietBelow
import Derived.Test.YtefpcacnblaokaaGreatDoorQ2

/-
  The walk of the law SedTurns. Conditions: lengths; what the library's variables hold.
-/
set_option maxRecDepth 100000
set_option maxHeartbeats 16000000
namespace Go.Proofs.YtefpcacnblaokaaGreatDoor
open Go.RowKit Go.Shelf Go.Maps Go.Sort
theorem sedTurns_any (inp:Bts) (hin:inp.length≤1048576) (pi:Option Addr) (ci:Nat) (hci:inp.length≤ci) (buf line run:Int) (w:World) (hg:Glo w) (hi:Bs w pi inp) :
  Calls Tryz.prog 4 #[.slice pi inp.length ci,.agg #[.int .i64 buf,.int .i64 line,.int .i64 run]] w fun e w'=>e=.returned (.bool true)∧Below w.heap.size w w':=by
 obtain ⟨w0,hw0⟩:∃ w0,w.alloc (.cells #[.int .i64 buf,.int .i64 line,.int .i64 run] 24)=w0:=⟨_,rfl⟩
 have hb0:Below w.heap.size w w0:=by rw [← hw0];exact (Below.refl _ _).alloc (Nat.le_refl _) _
 have hk0:Blk w0 w.heap.size #[.int .i64 buf,.int .i64 line,.int .i64 run] 24:=by rw [← hw0];exact Blk.new _ _ _
 have haw:=awake_any w0 (hg.below hb0)
 have HG:=Lib.hid (hg.below hb0)
 have HI:=Lib.hid (hi.below hb0 (Nat.le_refl _))
 have HW0:=Lib.hid hw0
 have HB0:=Lib.hid hb0
 have HLIM:=Lib.hid hk0
 have HIN:=Lib.hid hin
 have HCI:=Lib.hid hci
 clear hg hi hw0 hb0 hk0 hin hci
 go_enter Tryz.func4,Tryz.ntmps4
 go_wp2_with fail
 rw [HW0.out]
 refine haw.mono ?_
 rintro e w1 ⟨rfl,hb1⟩
 have HB1:=Lib.hid hb1
 clear haw hb1
 obtain ⟨wA,hwA⟩:∃ wA,w1.alloc (.cells #[.string ⟨#[120]⟩] 9)=wA:=⟨_,rfl⟩
 have hbA:Below w0.heap.size w0 wA:=by rw [← hwA];exact HB1.out.alloc HB1.out.size _
 have l0:=(HLIM.out.keep hbA HLIM.out.lt).cell 0 (v:=.int .i64 buf) rfl
 have l1:=(HLIM.out.keep hbA HLIM.out.lt).cell 1 (v:=.int .i64 line) rfl
 have l2:=(HLIM.out.keep hbA HLIM.out.lt).cell 2 (v:=.int .i64 run) rfl
 rw [← hwA] at l0 l1 l2
 have hmay:=rmay_any (some ⟨w1.heap.size,0,none⟩) 1 1 (by decide) buf line run wA
 have HWA:=Lib.hid hwA
 have HBA:=Lib.hid hbA
 unfold jobV at hmay
 clear hwA hbA
 go_wp2_with fail
 rw [HWA.out]
 clear l0 l1 l2
 obtain ⟨pa,hpa⟩:∃ pa,some (⟨w1.heap.size,0,none⟩:Addr)=pa:=⟨_,rfl⟩
 rw [hpa] at hmay ⊢
 refine hmay.mono ?_
 rintro e w2 ⟨rfl,hb2⟩
 have HB2:=Lib.hid (HBA.out.trans (hb2.mono HBA.out.size))
 have HFIN:=Lib.hid (HB0.out.trans (HB2.out.mono HB0.out.size))
 clear hmay hb2 hpa
 cases hm:mayB buf line run with
 | false=>
  clear hm
  go_wp2_with fail
  go_ret
  exact ⟨rfl,HFIN.out⟩
 | true=>
 have hm2:=mayB_false hm
 clear hm
 by_cases hbig:300 < inp.length
 ·have e1:decide ((300:Int) < (inp.length:Int))=true:=by simp;omega
  clear hbig hm2
  go_wp2_with fail
  go_ret
  exact ⟨rfl,HFIN.out⟩
 have e1:decide ((300:Int) < (inp.length:Int))=false:=by simp;omega
 have HSM:=Lib.hid (show inp.length≤300 by omega)
 obtain ⟨bN,rfl⟩:∃ b:Nat,buf=b:=⟨buf.toNat,by omega⟩
 obtain ⟨lN,rfl⟩:∃ b:Nat,line=b:=⟨line.toNat,by omega⟩
 obtain ⟨rN,rfl⟩:∃ b:Nat,run=b:=⟨run.toNat,by omega⟩
 have hlims:Lims bN lN rN:=⟨by omega,by omega,by omega,by omega,by omega⟩
 obtain ⟨O1,r1,t1,n1⟩:=run_turn inp HSM.out hlims
 obtain ⟨O2,r2,t2,n2⟩:=run_join inp HSM.out hlims
 obtain ⟨LG,hLG⟩:∃ LG,Sd.longs lN inp=LG:=⟨_,rfl⟩
 rw [hLG] at r1 r2 t1 t2
 obtain ⟨ST,hST⟩:∃ ST:Int,(if LG then 1 else 0)=ST:=⟨_,rfl⟩
 rw [hST] at r1 r2
 have HST:=Lib.hid hST
 have R1:=Lib.hid r1
 have T1:=Lib.hid t1
 have N1:=Lib.hid n1
 have R2:=Lib.hid r2
 have T2:=Lib.hid t2
 have N2:=Lib.hid n2
 clear r1 r2 t1 t2 n1 n2 hST hLG hlims hm2 hbig HFIN
 have l0:=(HLIM.out.keep HB2.out HLIM.out.lt).cell 0 (v:=.int .i64 bN) rfl
 have l1:=(HLIM.out.keep HB2.out HLIM.out.lt).cell 1 (v:=.int .i64 lN) rfl
 have l2:=(HLIM.out.keep HB2.out HLIM.out.lt).cell 2 (v:=.int .i64 rN) rfl
 obtain ⟨xa1,hxa1⟩:∃ x,w2.alloc (.cells #[.string ⟨#[45,110]⟩,.string ⟨#[49,33,71,59,104,59,36,112]⟩] 9)=x:=⟨_,rfl⟩
 have hbx1:Below w0.heap.size w0 xa1:=by rw [← hxa1];exact HB2.out.alloc HB2.out.size _
 have hss1:Ss xa1 (some ⟨w2.heap.size,0,none⟩) [[45,110],[49,33,71,59,104,59,36,112]]:=ss_lit (t:=9) (by rw [← hxa1];exact Blk.new _ _ _)
 have hrun1:=R1.out xa1 (some ⟨w2.heap.size,0,none⟩) 2 pi ci (HG.out.below hbx1) hss1 (HI.out.below hbx1 (Nat.le_refl _))
 have HXA1:=Lib.hid hxa1
 have HBX1:=Lib.hid hbx1
 have HRUN1:=Lib.hid hrun1
 clear hxa1 hbx1 hss1 hrun1
 go_wp2_with fail
 rw [HXA1.out]
 clear l0 l1 l2
 refine HRUN1.out.mono ?_
 rintro e v1 ⟨ov,ev,st,pk,rfl,so,se,hb2⟩
 clear HRUN1
 obtain ⟨p1,c1,rfl,hbs2,-⟩:=id so.bs
 obtain ⟨p2,c2,rfl,-,-⟩:=id se.bs
 obtain ⟨y1,hy1⟩:∃ y,v1.alloc (.cells #[.slice p1 O1.length c1,.slice p2 (errF LG).length c2,.int .i64 ST,.slice none 0 0,.int .i64 st,.int .i64 pk,.int .i64 0] 35)=y:=⟨_,rfl⟩
 obtain ⟨hres1,hbb1⟩:=resAt_new hy1 hbs2
 have hby1:=HBX1.out.trans ((hb2.trans (hbb1.mono hb2.size)).mono HBX1.out.size)
 have HY1:=Lib.hid hy1
 have HBY1:=Lib.hid hby1
 have RES1:=Lib.hid hres1
 clear so se hb2 hbs2 hy1 hres1 hbb1 hby1
 go_upto_region 6 with fail
 rw [HY1.out]
 have l0:=(HLIM.out.keep HBY1.out HLIM.out.lt).cell 0 (v:=.int .i64 bN) rfl
 have l1:=(HLIM.out.keep HBY1.out HLIM.out.lt).cell 1 (v:=.int .i64 lN) rfl
 have l2:=(HLIM.out.keep HBY1.out HLIM.out.lt).cell 2 (v:=.int .i64 rN) rfl
 obtain ⟨xa2,hxa2⟩:∃ x,y1.alloc (.cells #[.string ⟨#[45,110]⟩,.string ⟨#[58,97,59,36,33,123,78,59,98,97,10,125,59,112]⟩] 9)=x:=⟨_,rfl⟩
 have hbx2:Below w0.heap.size w0 xa2:=by rw [← hxa2];exact HBY1.out.alloc HBY1.out.size _
 have hss2:Ss xa2 (some ⟨y1.heap.size,0,none⟩) [[45,110],[58,97,59,36,33,123,78,59,98,97,10,125,59,112]]:=ss_lit (t:=9) (by rw [← hxa2];exact Blk.new _ _ _)
 have hrun2:=R2.out xa2 (some ⟨y1.heap.size,0,none⟩) 2 pi ci (HG.out.below hbx2) hss2 (HI.out.below hbx2 (Nat.le_refl _))
 have HXA2:=Lib.hid hxa2
 have HBX2:=Lib.hid hbx2
 have HRUN2:=Lib.hid hrun2
 clear hxa2 hbx2 hss2 hrun2
 go_wp2_with fail
 rw [HXA2.out]
 clear l0 l1 l2
 refine HRUN2.out.mono ?_
 rintro e v2 ⟨ov,ev,st,pk,rfl,so,se,hb2⟩
 clear HRUN2
 obtain ⟨p1,c1,rfl,hbs2,-⟩:=id so.bs
 obtain ⟨p2,c2,rfl,-,-⟩:=id se.bs
 obtain ⟨y2,hy2⟩:∃ y,v2.alloc (.cells #[.slice p1 O2.length c1,.slice p2 (errF LG).length c2,.int .i64 ST,.slice none 0 0,.int .i64 st,.int .i64 pk,.int .i64 0] 35)=y:=⟨_,rfl⟩
 obtain ⟨hres2,hbb2⟩:=resAt_new hy2 hbs2
 have hby2:=HBX2.out.trans ((hb2.trans (hbb2.mono hb2.size)).mono HBX2.out.size)
 have HY2:=Lib.hid hy2
 have HBY2:=Lib.hid hby2
 have hrs1:=RES1.out.below ((((Below.refl y1.heap.size y1).alloc (Nat.le_refl _) (.cells #[.string ⟨#[45,110]⟩,.string ⟨#[58,97,59,36,33,123,78,59,98,97,10,125,59,112]⟩] 9)).trans (by rw [HXA2.out];exact (hb2.trans (hbb2.mono hb2.size)).mono (by rw [← HXA2.out];exact ((Below.refl y1.heap.size y1).alloc (Nat.le_refl _) _).size))))
 clear RES1
 have RES1:=Lib.hid hrs1
 clear hrs1
 have RES2:=Lib.hid hres2
 clear so se hb2 hbs2 hy2 hres2 hbb2 hby2
 go_upto_region 7 with fail
 rw [HY2.out]
 have c1:=RES1.out.status
 have c2:=RES2.out.status
 cases LG with
 | true=>
  obtain rfl:ST=1:=HST.out.symm
  have HFIN:=Lib.hid (HB0.out.trans (HBY2.out.mono HB0.out.size))
  go_wp2_with fail
  go_ret
  exact ⟨rfl,HFIN.out⟩
 | false=>
 obtain rfl:ST=0:=HST.out.symm
 obtain rfl:=T1.out rfl
 obtain rfl:=T2.out rfl
 have hfl:=flat_len inp
 have hln:=lines_any inp HIN.out pi ci HCI.out y2 (HI.out.below HBY2.out (Nat.le_refl _))
 have hlw:=fun W (hb:Below y2.heap.size y2 W)=>lawLines_any inp (by have:=HSM.out;omega) pi ci HCI.out W (HI.out.below (HBY2.out.trans (hb.mono HBY2.out.size)) (Nat.le_refl _))
 obtain ⟨LS,hLS⟩:∃ LS,Wi.lines inp=LS:=⟨_,rfl⟩
 unfold LinesPost at hln
 rw [hLS] at hfl hln RES1 RES2
 simp only [hLS] at hlw
 obtain ⟨FL,hFL⟩:∃ FL,Sd.flat LS=FL:=⟨_,rfl⟩
 rw [hFL] at hfl RES2
 simp only [hFL] at hlw
 obtain ⟨RV,hRV⟩:∃ RG,Sd.flat LS.reverse=RG:=⟨_,rfl⟩
 rw [hRV] at RES1
 have HLS:=Lib.hid hLS
 have HFL:=Lib.hid hFL
 have HRV:=Lib.hid hRV
 have HFLL:=Lib.hid (show FL.length≤4000 by have:=HSM.out;omega)
 have HLW:=Lib.hid hlw
 clear hLS hFL hRV hfl hlw
 go_wp2_with fail
 refine hln.mono ?_
 rintro e z2 ⟨p,c,vs,rfl,hown,hsub,hb2⟩
 have HOWN:=Lib.hid hown
 have HSUB:=Lib.hid hsub
 have HBZ:=Lib.hid hb2
 have hbz2:=HBY2.out.trans (hb2.mono HBY2.out.size)
 have hre1:=RES1.out.below hb2
 have hre2:=RES2.out.below hb2
 have HRE1:=Lib.hid hre1
 have HRE2:=Lib.hid hre2
 have hib:Bs z2 pi inp:=HI.out.below hbz2 (Nat.le_refl _)
 have HIB:=Lib.hid hib
 have HFIN:=Lib.hid (HB0.out.trans (hbz2.mono HB0.out.size))
 have hcnt:=flat_count LS
 rw [HFL.out] at hcnt
 have hcn:LS.length≤4000:=by have:=HFLL.out;omega
 have HCN:=Lib.hid hcn
 have hwi:IntKind.i64.wrap ((LS.length:Int) - 1)=(LS.length:Int) - 1:=wrap_i64 (by omega) (by omega)
 clear c1 c2 hln hown hsub hb2 hbz2 hib hcnt hre1 hre2 hcn
 go_wp2_with fail
 go_loopw [12,13] (fun x12 x13 wr=>∃ (t:Int) (j:Nat),Hid (t+1=j)∧x13=.int .i64 t∧j≤LS.length∧x12=.string ⟨(Sd.flat (LS.drop j).reverse).toArray⟩∧wr=z2) (fun _ x13 _=>((intOf x13)+1).toNat)
 case atStart=>exact ⟨(LS.length:Int) - 1,LS.length,by show _=_;omega,by first | rfl | go_num,Nat.le_refl _,by rw [List.drop_length];rfl,rfl⟩
 case round=>
  obtain ⟨t,j,HTJ,rfl,hjl,rfl,hwr⟩:=hrel
  rw [hwr]
  clear hwr hwi
  by_cases hlt:0 < j
  ·obtain ⟨i,rfl⟩:∃ i,j=i+1:=⟨j - 1,by omega⟩
   obtain rfl:t=(i:Int):=by have:=HTJ.out;omega
   have hlt:i < LS.length:=by omega
   have hpos:0 < inp.length:=by
    rcases Nat.eq_zero_or_pos inp.length with h0 | h0
    ·have:inp=[]:=List.eq_nil_of_length_eq_zero h0
     have h2:=HLS.out
     rw [this] at h2
     rw [← h2] at hlt
     simp [Wi.lines,Wi.linesF] at hlt
    ·exact h0
   obtain ⟨bb,o,rfl,hsv⟩:=HSUB.out hpos
   obtain ⟨v,hv,hsb⟩:=hsv.2 i hlt
   obtain ⟨b',o',e1',hcc⟩:=HIB.out hpos
   injection e1' with e1'
   injection e1' with e1' e2'
   subst e1'
   subst e2'
   obtain ⟨aa,rfl,ha1,hcell⟩:=hsb.bs (W:=z2) hcc
   obtain ⟨g,rfl⟩:∃ g,p=some ⟨g,0,none⟩:=by
    obtain ⟨n,hn⟩:∃ n,LS.length=n+1:=⟨LS.length - 1,by omega⟩
    have ho:=HOWN.out
    rw [hn] at ho
    obtain ⟨g,c',e⟩:=own_slice ho
    injection e with e
    exact ⟨g,e⟩
   have hc1:=HOWN.out.cellAt i (by omega)
   rw [hv] at hc1
   have hbs:Bs z2 (some ⟨bb,o+aa,none⟩) (LS.getD i []):=fun _=>⟨bb,o+aa,rfl,hcell⟩
   have hcv:=run_str hbs (ci - aa)
   have htk:=flat_revtake LS i hlt
   have hfl2:=flat_revtake_len LS i
   have hle:(Sd.flat (LS.drop (i+1)).reverse).length+((LS.getD i []).length+1)≤200000:=by
    have:=congrArg List.length htk
    rw [List.length_append,List.length_append] at this
    have h5:=HFL.out
    have h6:=HFLL.out
    rw [h5] at hfl2
    simp only [List.length_cons,List.length_nil] at this
    omega
   generalize hli:LS.getD i []=li at *
   generalize hFI:Sd.flat (LS.drop (i+1)).reverse=FI at *
   have g1:¬ 9223372036854775807 < FI.length+li.length:=by omega
   have g2:¬ 9223372036854775807 < FI.length+li.length+1:=by omega
   have hlt2:(i:Int) < (LS.length:Int):=by omega
   have hge:decide ((0:Int)≤(i:Int))=true:=by simp
   have hw1:IntKind.i64.wrap ((i:Int) - 1)=(i:Int) - 1:=wrap_i64 (by have:=HCN.out;omega) (by have:=HCN.out;omega)
   have hseF:(⟨FI.toArray⟩:ByteArray) ++ ⟨li.toArray⟩ ++ ⟨#[10]⟩=⟨(FI ++ (li ++ [10])).toArray⟩:=by
    rw [str_app]
    exact (str_app _ [10]).trans (by rw [List.append_assoc])
   have HSEF:=Lib.hid hseF
   have HT1:=Lib.hid htk
   clear htk hfl2 hv hsv hcc hbs hli hcell hsb hseF hFI
   go_wp2_with fail
   exact ⟨⟨(i:Int) - 1,i,by show _=_;omega,by first | rfl | go_num,by omega,by rw [HT1.out];exact congrArg Value.string HSEF.out,trivial⟩,by simp only [intOf];omega⟩
  ·obtain rfl:j=0:=by omega
   obtain rfl:t=-1:=by have:=HTJ.out;omega
   rw [List.drop_zero]
   rw [HRV.out]
   have hge:decide ((0:Int)≤-1)=false:=by decide
   obtain ⟨p1,k1,d1,cv1⟩:=HRE1.out.text
   obtain ⟨p2,k2,d2,cv2⟩:=HRE2.out.text
   have kd1:=cell_regrown d1
   have kd2:=cell_regrown d2
   have hcv1:∀ d os,(convert 22 9 (.slice p1 RV.length k1)).run Tryz.prog (grow (redrawn z2 d) os)=.ok (.string ⟨RV.toArray⟩) (grow (redrawn z2 d) os):=fun d os=>by
    obtain ⟨p',k',d',cv'⟩:=(HRE1.out.below (below_regrown z2 d os)).text
    rw [cell_regrown d1 d os] at d'
    injection d' with d'
    injection d' with e1 e2 e3
    subst e1
    subst e3
    exact cv'
   have hcv2:∀ d os,(convert 22 9 (.slice p2 FL.length k2)).run Tryz.prog (grow (redrawn z2 d) os)=.ok (.string ⟨FL.toArray⟩) (grow (redrawn z2 d) os):=fun d os=>by
    obtain ⟨p',k',d',cv'⟩:=(HRE2.out.below (below_regrown z2 d os)).text
    rw [cell_regrown d2 d os] at d'
    injection d' with d'
    injection d' with e1 e2 e3
    subst e1
    subst e3
    exact cv'
   have hpa:∀ d os,Calls Tryz.prog 9 #[.slice pi inp.length ci] (grow (redrawn z2 d) os) fun e w'=>e=.returned (.string ⟨FL.toArray⟩)∧∃ p:Regrown,w'=grow (redrawn z2 p.d) p.os:=fun d os=>
    Calls.regrown_of (HLW.out _ (HBZ.out.trans ((below_regrown z2 d os).mono HBZ.out.size)))
   clear d1 d2 cv1 cv2
   go_wp2_with fail
   refine wp_region_quiet_below (by kernel_rfl) (by kernel_rfl) ?_
   repeat (quiet_step (first | with_reducible exact hpa _ _))
   refine wpQuiet_nil ?_
   intro _ hw'
   obtain ⟨⟨dq,osq⟩,hw''⟩:=hw'
   subst hw''
   have hbb:=HFIN.out.trans ((below_regrown z2 dq osq).mono HFIN.out.size)
   have HBB:=Lib.hid hbb
   clear hpa hcv1 hcv2 kd1 kd2 hbb
   generalize grow (redrawn z2 dq) osq=w2 at *
   go_wp2_with fail
   go_ret
   exact ⟨by simp,HBB.out⟩
end Go.Proofs.YtefpcacnblaokaaGreatDoor

/-
  SedTurns, its second form: the row's statement and its card.
-/
set_option maxRecDepth 100000
namespace Go.Proofs.YtefpcacnblaokaaGreatDoor.turns
open Go.ChangeShapes Go.WideShapes Go.ChangeAt Go.RowKit
theorem contract (H:Type) (enc:TypeId × Value→H) (W:World) (base:Nat) (args:Array Value) (ds gs:List (DataW H)) (before:List MemPlace)
  (hval:∀ (j:Nat) t v,Tryz.f4.params[j]?=some t→args[j]?=some v→Value.okWide Tryz.prog W .any base t v)
  (hW:DataW.Whole enc Tryz.prog Tryz.f4.params.toList Rows.sedTurnsSpec.vars false W args.toList ds gs before) (hcond:Rows.uptoSmall H (ds ++ gs)=true) (hL:laidMetH Tryz.prog Rows.sedTurnsUptoRow.laid W) (hs:W.ShapedOpen Tryz.prog) :
  Calls Tryz.prog 4 args W fun e W'=>∃ v,e=.returned v∧Rows.sedTurnsSpec.post enc Tryz.prog Tryz.f4 false true false false W args v W':=by
 have hW':=hW
 obtain ⟨p,q,hA0,hV,rfl,hfz,hnd⟩:=hW
 have hA:DataW.TrodAll enc Tryz.prog W 0 (fun _=>true) true Tryz.f4.params.toList args.toList ds p:=hA0
 rw [Tryz.params4] at hA hval
 obtain ⟨v0,v1,d0,d1,p0,p1,rfl,rfl,rfl,h0,h1⟩:=trodAll_two hA
 obtain ⟨rfl,rfl⟩:=trodVars_none hV
 obtain ⟨a0,n0,c0,rfl⟩:=okWide_slice Tryz.underlying22 (hval 0 22 v0 rfl rfl)
 obtain ⟨lb,ll,lr,rfl⟩:=open_limits (hval 1 24 v1 rfl rfl) h1
 clear hA0
 simp only [List.append_nil] at hW'
 have hlt0:∀ x ∈ p0,x.block < W.heap.size:=fun x hx=>hW'.lt x (by simp [hx])
 have hlt1:∀ x ∈ p1,x.block < W.heap.size:=fun x hx=>hW'.lt x (by simp [hx])
 have hbulk:=bulks.bound hcond
 simp only [List.append_nil,Rows.uptoBulkAll] at hbulk
 obtain ⟨xb,rfl,hcb,hnb,hbb,hlb⟩:=open_bytes h0
 have hg:=glo_of rfl hL hs
 refine (sedTurns_any xb (by omega) a0 c0 hcb lb ll lr W hg hbb).mono fun e W' ⟨he,hb⟩=>?_
 subst he
 have t0:=Below.trod (t:=22) isLaidOut (by kernel_rfl) (of_decide_eq_true (by kernel_rfl)) h0 hb (fun x hx=>hlt0 x hx)
 have t1:=Below.trod (t:=24) isLaidOut (by kernel_rfl) (of_decide_eq_true (by kernel_rfl)) h1 hb (fun x hx=>hlt1 x hx)
 exact ⟨_,rfl,_,_,_,[],_,[],hW',trodAll_cons_mk (shut_bool Tryz.underlying4 _) trodAll_mk0,trodAll_mk2 t0 t1,rfl,hb.frame _,fun h=>by cases h⟩
def witnessArgs:Array Value:=#[.slice none 0 0,.agg #[.int .i64 0,.int .i64 0,.int .i64 0]]
theorem laid_met (os:Os):laidMetH Tryz.prog Rows.sedTurnsUptoRow.laid ((World.laidAll Tryz.prog os Rows.sedTurnsUptoRow.laid).forCall (fun _ _=>0) ⟨#[],witnessArgs,[]⟩).memory:=by
 rw [MakeChecks.laidMetH_plain _ _ _ (by kernel_rfl)]
 exact laidMet_laidAll _ (by kernel_rfl) (by kernel_rfl)
theorem reads (os:Os) {H:Type} (enc:TypeId × Value→H):∃ places,DataW.whole enc Tryz.prog ((World.laidAll Tryz.prog os Rows.sedTurnsUptoRow.laid).forCall (fun _ _=>0) ⟨#[],witnessArgs,[]⟩).memory Tryz.f4.params.toList Rows.sedTurnsSpec.vars false witnessArgs.toList 8=some ([.nil,.agg [.lit (.int .i64 0),.lit (.int .i64 0),.lit (.int .i64 0)]],[],places):=
 ⟨[],by kernel_rfl⟩
theorem liftedUpto (os:Os) (started:os.Started) (H:Type) (enc:TypeId × Value→H) (F:Stop.Interp) :
  ReturnsInHanded {} Tryz.checked os 4 .any ((Rows.OpenSpec.upto Rows.sedTurnsSpec).preRow enc Tryz.prog Tryz.f4 Rows.sedTurnsUptoRow.domain false Rows.sedTurnsUptoRow.laid) (((Rows.OpenSpec.upto Rows.sedTurnsSpec).at F).post enc Tryz.prog Tryz.f4 false true false false):=by
 obtain ⟨places,hx⟩:=reads os enc
 refine returnsInHanded_of_row (C:=Tryz.checked) (s:=Rows.OpenSpec.upto Rows.sedTurnsSpec) own started (by kernel_rfl) Tryz.func4
  (witness_row_atRef (enc:=enc) (C:=Tryz.checked) false (World.laidAll Tryz.prog os Rows.sedTurnsUptoRow.laid) witnessArgs (World.laidAll_os _ _ _) (by kernel_rfl) (by kernel_rfl) (by kernel_rfl)
   (OpenSpec.preRow_of_cond 8 hx (by kernel_rfl) (fun k hk=>by cases hk;kernel_rfl) (by kernel_rfl) (laid_met os))) ?_
 intro W base args ds gs before hval hW _ hcond _ hL hs _
 exact contract H enc W base args ds gs before hval hW (hcond _ rfl) hL hs
theorem cl_inPlace:(Rows.sedTurnsUptoRow.inPlace == Tryz.pinned.checked.prog.inPlace 4)=true:=by kernel_rfl
theorem cl_unfollowed:(Rows.sedTurnsUptoRow.unfollowed == Tryz.pinned.checked.prog.unfollowed 4)=true:=by kernel_rfl
theorem cl_recurses:(Rows.sedTurnsUptoRow.recurses == Tryz.pinned.checked.prog.recurses 4)=true:=by kernel_rfl
theorem cl_named:(Rows.sedTurnsUptoRow.named == Tryz.pinned.checked.prog.varsNamed 4)=true:=by kernel_rfl
theorem closed:joinedFacts Tryz.pinned.checked.prog 4 Tryz.f4 (Rows.OpenSpec.upto Rows.sedTurnsSpec).bare Rows.sedTurnsUptoRow=true:=by
 unfold joinedFacts
 rw [cl_inPlace,cl_unfollowed,cl_recurses,cl_named]
 kernel_rfl
theorem saidUpto:Rows.SedTurnsUptoSaid:=
 OpenClaim.holds_of_cond 4 Tryz.f4 rfl rfl rfl rfl rfl rfl rfl ⟨rfl,rfl,rfl,rfl,rfl⟩ rfl rfl rfl rfl rfl (by kernel_rfl) Tryz.func4 closed
  (of_decide_eq_true (by kernel_rfl)) (by unfold Func.isWrapper;first | (rw [if_pos (by decide +kernel)];kernel_rfl) | (rw [if_neg (by decide +kernel)];exact ⟨rfl,rfl⟩))
  (fun os started H enc _ F=>by rw [OpenClaim.pre_eq_preRow];exact liftedUpto os started H enc F)
theorem plain (f:FuncId) (fn:Func) (hf:Tryz.pinned.checked.prog.funcNamed "toolchest/toolchestlaw18.SedTurns"=some f) (hfn:Tryz.pinned.checked.prog.funcs[f]?=some fn) :
  true=Tryz.pinned.checked.prog.looks []∧∀ (j:Nat) t,fn.params[j]?=some t→Tryz.pinned.checked.prog.wantsStandIn t=false:=by
 obtain rfl:f=4:=Option.some.inj ((show Tryz.prog.funcNamed "toolchest/toolchestlaw18.SedTurns"=some 4 by kernel_rfl).symm.trans hf) |>.symm
 obtain rfl:fn=Tryz.f4:=(Option.some.inj (Tryz.func4.symm.trans hfn)).symm
 refine ⟨by kernel_rfl,fun j t ht=>?_⟩
 rw [Tryz.params4] at ht
 have hm:t ∈ [22,24]:=by simpa using Array.mem_of_getElem? ht
 have hall:([22,24].all fun u=>!Tryz.prog.wantsStandIn u)=true:=by kernel_rfl
 exact (show Tryz.prog.wantsStandIn t=false by simpa using List.all_eq_true.1 hall t hm)
theorem cardUpto:Rows.SedTurnsUptoCardSaid:=
 Claim7.holds_tied_plain_at .later [] _ _ _ _ saidUpto (fun _ h=>by cases h) (by kernel_rfl) (fun _ h=>by cases h) sedTurnsUpto_row_tie rfl ⟨rfl,rfl⟩ (by kernel_rfl) rfl plain (goesBy_of goes_any rfl)
#print axioms cardUpto
end Go.Proofs.YtefpcacnblaokaaGreatDoor.turns
