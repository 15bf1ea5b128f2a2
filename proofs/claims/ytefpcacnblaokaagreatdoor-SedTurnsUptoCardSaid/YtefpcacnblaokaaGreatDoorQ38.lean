/-
  Texts of this seat put together: Sd52, Goes.
-/
import Derived.Test.YtefpcacnblaokaaGreatDoorQ37
import Derived.Test.YtefpcacnblaokaaGreatDoorCards
import Derived.KernelRfl

/-
  The walk of the law SedLines. Conditions: lengths; what the library's variables hold.
-/
set_option maxRecDepth 100000
set_option maxHeartbeats 16000000
namespace Go.Proofs.YtefpcacnblaokaaGreatDoor
open Go.RowKit Go.Shelf Go.Maps
theorem sedLines_any (inp:Bts) (hin:inp.length≤1048576) (pi:Option Addr) (ci:Nat) (hci:inp.length≤ci) (a b:Int) (buf line run:Int) (w:World) (hg:Glo w) (hi:Bs w pi inp) :
  Calls Tryz.prog 3 #[.slice pi inp.length ci,.int .i64 a,.int .i64 b,.agg #[.int .i64 buf,.int .i64 line,.int .i64 run]] w fun e w'=>e=.returned (.bool true)∧Below w.heap.size w w':=by
 obtain ⟨w0,hw0⟩:∃ w0,w.alloc (.cells #[.int .i64 buf,.int .i64 line,.int .i64 run] 24)=w0:=⟨_,rfl⟩
 have hb0:Below w.heap.size w w0:=by rw [← hw0];exact (Below.refl _ _).alloc (Nat.le_refl _) _
 have hk0:Blk w0 w.heap.size #[.int .i64 buf,.int .i64 line,.int .i64 run] 24:=by rw [← hw0];exact Blk.new _ _ _
 have haw:=awake_any w0 (hg.below hb0)
 have HG:=Lib.hid (hg.below hb0)
 have HI:=Lib.hid (hi.below hb0 (Nat.le_refl _))
 have HW0:=Lib.hid hw0
 have HB0:=Lib.hid hb0
 have HLIM:=Lib.hid hk0
 have HIN:=Lib.hid hin
 have HCI:=Lib.hid hci
 clear hg hi hw0 hb0 hk0 hin hci
 go_enter Tryz.func3,Tryz.ntmps3
 go_wp2_with fail
 rw [HW0.out]
 refine haw.mono ?_
 rintro e w1 ⟨rfl,hb1⟩
 have HB1:=Lib.hid hb1
 clear haw hb1
 by_cases hbig:2000 < inp.length
 ·have e1:decide ((2000:Int) < (inp.length:Int))=true:=by simp;omega
  have HFIN:=Lib.hid (HB0.out.trans (HB1.out.mono HB0.out.size))
  clear hbig
  go_wp2_with fail
  go_ret
  exact ⟨rfl,HFIN.out⟩
 have e1:decide ((2000:Int) < (inp.length:Int))=false:=by simp;omega
 have HSM:=Lib.hid (show inp.length≤2000 by omega)
 clear hbig
 obtain ⟨wA,hwA⟩:∃ wA,w1.alloc (.cells #[.string ⟨#[120]⟩] 9)=wA:=⟨_,rfl⟩
 have hbA:Below w0.heap.size w0 wA:=by rw [← hwA];exact HB1.out.alloc HB1.out.size _
 have l0:=(HLIM.out.keep hbA HLIM.out.lt).cell 0 (v:=.int .i64 buf) rfl
 have l1:=(HLIM.out.keep hbA HLIM.out.lt).cell 1 (v:=.int .i64 line) rfl
 have l2:=(HLIM.out.keep hbA HLIM.out.lt).cell 2 (v:=.int .i64 run) rfl
 rw [← hwA] at l0 l1 l2
 have hmay:=rmay_any (some ⟨w1.heap.size,0,none⟩) 1 1 (by decide) buf line run wA
 have HWA:=Lib.hid hwA
 have HBA:=Lib.hid hbA
 unfold jobV at hmay
 clear hwA hbA
 go_wp2_with fail
 rw [HWA.out]
 clear l0 l1 l2
 obtain ⟨pa,hpa⟩:∃ pa,some (⟨w1.heap.size,0,none⟩:Addr)=pa:=⟨_,rfl⟩
 rw [hpa] at hmay ⊢
 refine hmay.mono ?_
 rintro e w2 ⟨rfl,hb2⟩
 have HB2:=Lib.hid (HBA.out.trans (hb2.mono HBA.out.size))
 have HFIN:=Lib.hid (HB0.out.trans (HB2.out.mono HB0.out.size))
 clear hmay hb2 hpa
 cases hm:mayB buf line run with
 | false=>
  clear hm
  go_wp2_with fail
  go_ret
  exact ⟨rfl,HFIN.out⟩
 | true=>
 have hm2:=mayB_false hm
 clear hm
 by_cases ha1:a < 1
 ·have f1:decide (a < 1)=true:=by simpa using ha1
  clear ha1 hm2
  go_wp2_with fail
  go_ret
  exact ⟨rfl,HFIN.out⟩
 have f1:decide (a < 1)=false:=by simpa using ha1
 by_cases hb1:b < 1
 ·have f2:decide (b < 1)=true:=by simpa using hb1
  clear hb1 ha1 hm2
  go_wp2_with fail
  go_ret
  exact ⟨rfl,HFIN.out⟩
 have f2:decide (b < 1)=false:=by simpa using hb1
 by_cases ha9:99 < a
 ·have f3:decide (99 < a)=true:=by simpa using ha9
  clear ha9 hb1 ha1 hm2
  go_wp2_with fail
  go_ret
  exact ⟨rfl,HFIN.out⟩
 have f3:decide (99 < a)=false:=by simpa using ha9
 by_cases hb9:99 < b
 ·have f4:decide (99 < b)=true:=by simpa using hb9
  clear hb9 ha9 hb1 ha1 hm2
  go_wp2_with fail
  go_ret
  exact ⟨rfl,HFIN.out⟩
 have f4:decide (99 < b)=false:=by simpa using hb9
 obtain ⟨A,rfl⟩:∃ n:Nat,a=n:=⟨a.toNat,by omega⟩
 obtain ⟨B,rfl⟩:∃ n:Nat,b=n:=⟨b.toNat,by omega⟩
 obtain ⟨bN,rfl⟩:∃ b:Nat,buf=b:=⟨buf.toNat,by omega⟩
 obtain ⟨lN,rfl⟩:∃ b:Nat,line=b:=⟨line.toNat,by omega⟩
 obtain ⟨rN,rfl⟩:∃ b:Nat,run=b:=⟨run.toNat,by omega⟩
 have hlims:Lims bN lN rN:=⟨by omega,by omega,by omega,by omega,by omega⟩
 have hA:1≤A∧A < 100:=by omega
 have hB:1≤B∧B < 100:=by omega
 have hdA:=rdigits_any A (by omega) w2
 rw [dig_itoa A (by omega)] at hdA
 obtain ⟨O1,r1,t1,n1⟩:=run_all inp HSM.out hlims
 obtain ⟨O2,r2,t2,n2⟩:=run_p inp HSM.out hlims
 obtain ⟨O3,r3,t3,n3⟩:=run_range A B hA hB inp HSM.out hlims
 obtain ⟨O4,r4,t4,n4⟩:=run_drop A B hA hB inp HSM.out hlims
 obtain ⟨O5,r5,t5,n5⟩:=run_rest A B hA hB inp HSM.out hlims
 obtain ⟨LG,hLG⟩:∃ LG,Sd.longs lN inp=LG:=⟨_,rfl⟩
 rw [hLG] at r1 r2 r3 r4 r5 t1 t2 t3 t4 t5
 obtain ⟨ST,hST⟩:∃ ST:Int,(if LG then 1 else 0)=ST:=⟨_,rfl⟩
 rw [hST] at r1 r2 r3 r4 r5
 obtain ⟨XA,hXA⟩:∃ X,Lib.itoa (A:Int)=X:=⟨_,rfl⟩
 obtain ⟨XB,hXB⟩:∃ X,Lib.itoa (B:Int)=X:=⟨_,rfl⟩
 have hXS:Sd.XS A B=XA ++ 44 :: XB:=by rw [← hXA,← hXB];rfl
 rw [hXS] at r3 r4 r5
 have hXAl:XA.length≤2:=by rw [← hXA];exact (Sd.digits_99 A hA.2).2.2.2
 have hXBl:XB.length≤2:=by rw [← hXB];exact (Sd.digits_99 B hB.2).2.2.2
 rw [hXA] at hdA
 have HXB:=Lib.hid hXB
 have HLIMS:=Lib.hid hlims
 have HA:=Lib.hid hA
 have HB:=Lib.hid hB
 have HST:=Lib.hid hST
 have R1:=Lib.hid r1
 have T1:=Lib.hid t1
 have N1:=Lib.hid n1
 have R2:=Lib.hid r2
 have T2:=Lib.hid t2
 have N2:=Lib.hid n2
 have R3:=Lib.hid r3
 have T3:=Lib.hid t3
 have N3:=Lib.hid n3
 have R4:=Lib.hid r4
 have T4:=Lib.hid t4
 have N4:=Lib.hid n4
 have R5:=Lib.hid r5
 have T5:=Lib.hid t5
 have N5:=Lib.hid n5
 have HXAL:=Lib.hid hXAl
 have HXBL:=Lib.hid hXBl
 clear r1 r2 r3 r4 r5 t1 t2 t3 t4 t5 n1 n2 n3 n4 n5 hXA hXB hXS hST hLG hA hB hlims ha1 ha9 hb1 hb9 hm2 hXAl hXBl HFIN
 go_wp2_with fail
 refine hdA.mono ?_
 rintro e w3 ⟨rfl,hb3⟩
 have HB3:=Lib.hid (HB2.out.trans (hb3.mono HB2.out.size))
 have hdB:=rdigits_any B (by have:=HB.out;omega) w3
 rw [dig_itoa B (by have:=HB.out;omega),HXB.out] at hdB
 clear hdA hb3
 have s1:¬ 9223372036854775807 < XA.length+1:=by have:=HXAL.out;omega
 go_wp2_with fail
 refine hdB.mono ?_
 rintro e w4 ⟨rfl,hb4⟩
 have HB4:=Lib.hid (HB3.out.trans (hb4.mono HB3.out.size))
 clear hdB hb4
 have s2:¬ 9223372036854775807 < XA.length+1+XB.length:=by have:=HXAL.out;have:=HXBL.out;omega
 have s3:¬ 9223372036854775807 < XA.length+(1+XB.length):=by have:=HXAL.out;have:=HXBL.out;omega
 have hxs:(⟨XA.toArray⟩:ByteArray) ++ ⟨#[44]⟩ ++ ⟨XB.toArray⟩=⟨(XA ++ 44 :: XB).toArray⟩:=by
  rw [show (⟨#[44]⟩:ByteArray)=⟨[(44:UInt8)].toArray⟩ from rfl,str_app,str_app]
  simp
 obtain ⟨X,hX⟩:∃ X,XA ++ 44 :: XB=X:=⟨_,rfl⟩
 have hXl:X.length≤5:=by
  have:=HXAL.out
  have:=HXBL.out
  rw [← hX]
  simp only [List.length_append,List.length_cons]
  omega
 rw [hX] at hxs R3 R4 R5
 have HXS:=Lib.hid hxs
 have HXL:=Lib.hid hXl
 clear hxs hX hXl
 have l0:=(HLIM.out.keep HB4.out HLIM.out.lt).cell 0 (v:=.int .i64 bN) rfl
 have l1:=(HLIM.out.keep HB4.out HLIM.out.lt).cell 1 (v:=.int .i64 lN) rfl
 have l2:=(HLIM.out.keep HB4.out HLIM.out.lt).cell 2 (v:=.int .i64 rN) rfl
 obtain ⟨xa1,hxa1⟩:∃ x,w4.alloc (.cells #[.string ⟨#[]⟩] 9)=x:=⟨_,rfl⟩
 have hbx1:Below w0.heap.size w0 xa1:=by rw [← hxa1];exact HB4.out.alloc HB4.out.size _
 have hss1:Ss xa1 (some ⟨w4.heap.size,0,none⟩) [[]]:=ss_lit (t:=9) (by rw [← hxa1];exact Blk.new _ _ _)
 have hrun1:=R1.out xa1 (some ⟨w4.heap.size,0,none⟩) 1 pi ci (HG.out.below hbx1) hss1 (HI.out.below hbx1 (Nat.le_refl _))
 have HXA1:=Lib.hid hxa1
 have HBX1:=Lib.hid hbx1
 have HRUN1:=Lib.hid hrun1
 clear hxa1 hbx1 hss1 hrun1
 go_wp2_with fail
 rw [HXA1.out]
 clear l0 l1 l2
 refine HRUN1.out.mono ?_
 rintro e v1 ⟨ov,ev,st,pk,rfl,so,se,hb2⟩
 clear HRUN1
 obtain ⟨p1,c1,rfl,hbs2,-⟩:=id so.bs
 obtain ⟨p2,c2,rfl,-,-⟩:=id se.bs
 obtain ⟨y1,hy1⟩:∃ y,v1.alloc (.cells #[.slice p1 O1.length c1,.slice p2 (errF LG).length c2,.int .i64 ST,.slice none 0 0,.int .i64 st,.int .i64 pk,.int .i64 0] 35)=y:=⟨_,rfl⟩
 obtain ⟨hres1,hbb1⟩:=resAt_new hy1 hbs2
 have hby1:=HBX1.out.trans ((hb2.trans (hbb1.mono hb2.size)).mono HBX1.out.size)
 have HY1:=Lib.hid hy1
 have HBY1:=Lib.hid hby1
 have RES1:=Lib.hid hres1
 clear so se hb2 hbs2 hy1 hres1 hbb1 hby1
 go_upto_region 9 with fail
 rw [HY1.out]
 have l0:=(HLIM.out.keep HBY1.out HLIM.out.lt).cell 0 (v:=.int .i64 bN) rfl
 have l1:=(HLIM.out.keep HBY1.out HLIM.out.lt).cell 1 (v:=.int .i64 lN) rfl
 have l2:=(HLIM.out.keep HBY1.out HLIM.out.lt).cell 2 (v:=.int .i64 rN) rfl
 obtain ⟨xa2,hxa2⟩:∃ x,y1.alloc (.cells #[.string ⟨#[45,110]⟩,.string ⟨#[112]⟩] 9)=x:=⟨_,rfl⟩
 have hbx2:Below w0.heap.size w0 xa2:=by rw [← hxa2];exact HBY1.out.alloc HBY1.out.size _
 have hss2:Ss xa2 (some ⟨y1.heap.size,0,none⟩) [[45,110],[112]]:=ss_lit (t:=9) (by rw [← hxa2];exact Blk.new _ _ _)
 have hrun2:=R2.out xa2 (some ⟨y1.heap.size,0,none⟩) 2 pi ci (HG.out.below hbx2) hss2 (HI.out.below hbx2 (Nat.le_refl _))
 have HXA2:=Lib.hid hxa2
 have HBX2:=Lib.hid hbx2
 have HRUN2:=Lib.hid hrun2
 clear hxa2 hbx2 hss2 hrun2
 go_wp2_with fail
 rw [HXA2.out]
 clear l0 l1 l2
 refine HRUN2.out.mono ?_
 rintro e v2 ⟨ov,ev,st,pk,rfl,so,se,hb2⟩
 clear HRUN2
 obtain ⟨p1,c1,rfl,hbs2,-⟩:=id so.bs
 obtain ⟨p2,c2,rfl,-,-⟩:=id se.bs
 obtain ⟨y2,hy2⟩:∃ y,v2.alloc (.cells #[.slice p1 O2.length c1,.slice p2 (errF LG).length c2,.int .i64 ST,.slice none 0 0,.int .i64 st,.int .i64 pk,.int .i64 0] 35)=y:=⟨_,rfl⟩
 obtain ⟨hres2,hbb2⟩:=resAt_new hy2 hbs2
 have hby2:=HBX2.out.trans ((hb2.trans (hbb2.mono hb2.size)).mono HBX2.out.size)
 have HY2:=Lib.hid hy2
 have HBY2:=Lib.hid hby2
 have hrs1:=RES1.out.below ((((Below.refl y1.heap.size y1).alloc (Nat.le_refl _) (.cells #[.string ⟨#[45,110]⟩,.string ⟨#[112]⟩] 9)).trans (by rw [HXA2.out];exact (hb2.trans (hbb2.mono hb2.size)).mono (by rw [← HXA2.out];exact ((Below.refl y1.heap.size y1).alloc (Nat.le_refl _) _).size))))
 clear RES1
 have RES1:=Lib.hid hrs1
 clear hrs1
 have RES2:=Lib.hid hres2
 clear so se hb2 hbs2 hy2 hres2 hbb2 hby2
 go_upto_region 10 with fail
 rw [HY2.out]
 have l0:=(HLIM.out.keep HBY2.out HLIM.out.lt).cell 0 (v:=.int .i64 bN) rfl
 have l1:=(HLIM.out.keep HBY2.out HLIM.out.lt).cell 1 (v:=.int .i64 lN) rfl
 have l2:=(HLIM.out.keep HBY2.out HLIM.out.lt).cell 2 (v:=.int .i64 rN) rfl
 obtain ⟨xa3,hxa3⟩:∃ x,y2.alloc (.cells #[.string ⟨#[45,110]⟩,.string ⟨(X ++ [112]).toArray⟩] 9)=x:=⟨_,rfl⟩
 have hbx3:Below w0.heap.size w0 xa3:=by rw [← hxa3];exact HBY2.out.alloc HBY2.out.size _
 have hss3:Ss xa3 (some ⟨y2.heap.size,0,none⟩) [[45,110],X ++ [112]]:=ss_lit (t:=9) (by rw [← hxa3];exact Blk.new _ _ _)
 have hrun3:=R3.out xa3 (some ⟨y2.heap.size,0,none⟩) 2 pi ci (HG.out.below hbx3) hss3 (HI.out.below hbx3 (Nat.le_refl _))
 have s34:¬ 9223372036854775807 < XA.length+1+XB.length+1:=by have:=HXAL.out;have:=HXBL.out;omega
 have hcat3:(⟨XA.toArray⟩:ByteArray) ++ ⟨#[44]⟩ ++ ⟨XB.toArray⟩ ++ ⟨#[112]⟩=⟨(X ++ [112]).toArray⟩:=by rw [HXS.out];exact str_app X [112]
 have HCAT3:=Lib.hid hcat3
 clear hcat3
 have HXA3:=Lib.hid hxa3
 have HBX3:=Lib.hid hbx3
 have HRUN3:=Lib.hid hrun3
 clear hxa3 hbx3 hss3 hrun3
 go_wp2_with fail
 rw [HCAT3.out]
 rw [HXA3.out]
 clear l0 l1 l2
 refine HRUN3.out.mono ?_
 rintro e v3 ⟨ov,ev,st,pk,rfl,so,se,hb2⟩
 clear HRUN3
 obtain ⟨p1,c1,rfl,hbs2,-⟩:=id so.bs
 obtain ⟨p2,c2,rfl,-,-⟩:=id se.bs
 obtain ⟨y3,hy3⟩:∃ y,v3.alloc (.cells #[.slice p1 O3.length c1,.slice p2 (errF LG).length c2,.int .i64 ST,.slice none 0 0,.int .i64 st,.int .i64 pk,.int .i64 0] 35)=y:=⟨_,rfl⟩
 obtain ⟨hres3,hbb3⟩:=resAt_new hy3 hbs2
 have hby3:=HBX3.out.trans ((hb2.trans (hbb3.mono hb2.size)).mono HBX3.out.size)
 have HY3:=Lib.hid hy3
 have HBY3:=Lib.hid hby3
 have hrs1:=RES1.out.below ((((Below.refl y2.heap.size y2).alloc (Nat.le_refl _) (.cells #[.string ⟨#[45,110]⟩,.string ⟨(X ++ [112]).toArray⟩] 9)).trans (by rw [HXA3.out];exact (hb2.trans (hbb3.mono hb2.size)).mono (by rw [← HXA3.out];exact ((Below.refl y2.heap.size y2).alloc (Nat.le_refl _) _).size))))
 clear RES1
 have RES1:=Lib.hid hrs1
 clear hrs1
 have hrs2:=RES2.out.below ((((Below.refl y2.heap.size y2).alloc (Nat.le_refl _) (.cells #[.string ⟨#[45,110]⟩,.string ⟨(X ++ [112]).toArray⟩] 9)).trans (by rw [HXA3.out];exact (hb2.trans (hbb3.mono hb2.size)).mono (by rw [← HXA3.out];exact ((Below.refl y2.heap.size y2).alloc (Nat.le_refl _) _).size))))
 clear RES2
 have RES2:=Lib.hid hrs2
 clear hrs2
 have RES3:=Lib.hid hres3
 clear so se hb2 hbs2 hy3 hres3 hbb3 hby3
 go_upto_region 11 with fail
 rw [HY3.out]
 have l0:=(HLIM.out.keep HBY3.out HLIM.out.lt).cell 0 (v:=.int .i64 bN) rfl
 have l1:=(HLIM.out.keep HBY3.out HLIM.out.lt).cell 1 (v:=.int .i64 lN) rfl
 have l2:=(HLIM.out.keep HBY3.out HLIM.out.lt).cell 2 (v:=.int .i64 rN) rfl
 obtain ⟨xa4,hxa4⟩:∃ x,y3.alloc (.cells #[.string ⟨(X ++ [100]).toArray⟩] 9)=x:=⟨_,rfl⟩
 have hbx4:Below w0.heap.size w0 xa4:=by rw [← hxa4];exact HBY3.out.alloc HBY3.out.size _
 have hss4:Ss xa4 (some ⟨y3.heap.size,0,none⟩) [X ++ [100]]:=ss_lit (t:=9) (by rw [← hxa4];exact Blk.new _ _ _)
 have hrun4:=R4.out xa4 (some ⟨y3.heap.size,0,none⟩) 1 pi ci (HG.out.below hbx4) hss4 (HI.out.below hbx4 (Nat.le_refl _))
 have s44:¬ 9223372036854775807 < XA.length+1+XB.length+1:=by have:=HXAL.out;have:=HXBL.out;omega
 have hcat4:(⟨XA.toArray⟩:ByteArray) ++ ⟨#[44]⟩ ++ ⟨XB.toArray⟩ ++ ⟨#[100]⟩=⟨(X ++ [100]).toArray⟩:=by rw [HXS.out];exact str_app X [100]
 have HCAT4:=Lib.hid hcat4
 clear hcat4
 have HXA4:=Lib.hid hxa4
 have HBX4:=Lib.hid hbx4
 have HRUN4:=Lib.hid hrun4
 clear hxa4 hbx4 hss4 hrun4
 go_wp2_with fail
 rw [HCAT4.out]
 rw [HXA4.out]
 clear l0 l1 l2
 refine HRUN4.out.mono ?_
 rintro e v4 ⟨ov,ev,st,pk,rfl,so,se,hb2⟩
 clear HRUN4
 obtain ⟨p1,c1,rfl,hbs2,-⟩:=id so.bs
 obtain ⟨p2,c2,rfl,-,-⟩:=id se.bs
 obtain ⟨y4,hy4⟩:∃ y,v4.alloc (.cells #[.slice p1 O4.length c1,.slice p2 (errF LG).length c2,.int .i64 ST,.slice none 0 0,.int .i64 st,.int .i64 pk,.int .i64 0] 35)=y:=⟨_,rfl⟩
 obtain ⟨hres4,hbb4⟩:=resAt_new hy4 hbs2
 have hby4:=HBX4.out.trans ((hb2.trans (hbb4.mono hb2.size)).mono HBX4.out.size)
 have HY4:=Lib.hid hy4
 have HBY4:=Lib.hid hby4
 have hrs1:=RES1.out.below ((((Below.refl y3.heap.size y3).alloc (Nat.le_refl _) (.cells #[.string ⟨(X ++ [100]).toArray⟩] 9)).trans (by rw [HXA4.out];exact (hb2.trans (hbb4.mono hb2.size)).mono (by rw [← HXA4.out];exact ((Below.refl y3.heap.size y3).alloc (Nat.le_refl _) _).size))))
 clear RES1
 have RES1:=Lib.hid hrs1
 clear hrs1
 have hrs2:=RES2.out.below ((((Below.refl y3.heap.size y3).alloc (Nat.le_refl _) (.cells #[.string ⟨(X ++ [100]).toArray⟩] 9)).trans (by rw [HXA4.out];exact (hb2.trans (hbb4.mono hb2.size)).mono (by rw [← HXA4.out];exact ((Below.refl y3.heap.size y3).alloc (Nat.le_refl _) _).size))))
 clear RES2
 have RES2:=Lib.hid hrs2
 clear hrs2
 have hrs3:=RES3.out.below ((((Below.refl y3.heap.size y3).alloc (Nat.le_refl _) (.cells #[.string ⟨(X ++ [100]).toArray⟩] 9)).trans (by rw [HXA4.out];exact (hb2.trans (hbb4.mono hb2.size)).mono (by rw [← HXA4.out];exact ((Below.refl y3.heap.size y3).alloc (Nat.le_refl _) _).size))))
 clear RES3
 have RES3:=Lib.hid hrs3
 clear hrs3
 have RES4:=Lib.hid hres4
 clear so se hb2 hbs2 hy4 hres4 hbb4 hby4
 go_upto_region 12 with fail
 rw [HY4.out]
 have l0:=(HLIM.out.keep HBY4.out HLIM.out.lt).cell 0 (v:=.int .i64 bN) rfl
 have l1:=(HLIM.out.keep HBY4.out HLIM.out.lt).cell 1 (v:=.int .i64 lN) rfl
 have l2:=(HLIM.out.keep HBY4.out HLIM.out.lt).cell 2 (v:=.int .i64 rN) rfl
 obtain ⟨xa5,hxa5⟩:∃ x,y4.alloc (.cells #[.string ⟨#[45,110]⟩,.string ⟨(X ++ [33,112]).toArray⟩] 9)=x:=⟨_,rfl⟩
 have hbx5:Below w0.heap.size w0 xa5:=by rw [← hxa5];exact HBY4.out.alloc HBY4.out.size _
 have hss5:Ss xa5 (some ⟨y4.heap.size,0,none⟩) [[45,110],X ++ [33,112]]:=ss_lit (t:=9) (by rw [← hxa5];exact Blk.new _ _ _)
 have hrun5:=R5.out xa5 (some ⟨y4.heap.size,0,none⟩) 2 pi ci (HG.out.below hbx5) hss5 (HI.out.below hbx5 (Nat.le_refl _))
 have s54:¬ 9223372036854775807 < XA.length+1+XB.length+2:=by have:=HXAL.out;have:=HXBL.out;omega
 have hcat5:(⟨XA.toArray⟩:ByteArray) ++ ⟨#[44]⟩ ++ ⟨XB.toArray⟩ ++ ⟨#[33,112]⟩=⟨(X ++ [33,112]).toArray⟩:=by rw [HXS.out];exact str_app X [33,112]
 have HCAT5:=Lib.hid hcat5
 clear hcat5
 have HXA5:=Lib.hid hxa5
 have HBX5:=Lib.hid hbx5
 have HRUN5:=Lib.hid hrun5
 clear hxa5 hbx5 hss5 hrun5
 go_wp2_with fail
 rw [HCAT5.out]
 rw [HXA5.out]
 clear l0 l1 l2
 refine HRUN5.out.mono ?_
 rintro e v5 ⟨ov,ev,st,pk,rfl,so,se,hb2⟩
 clear HRUN5
 obtain ⟨p1,c1,rfl,hbs2,-⟩:=id so.bs
 obtain ⟨p2,c2,rfl,-,-⟩:=id se.bs
 obtain ⟨y5,hy5⟩:∃ y,v5.alloc (.cells #[.slice p1 O5.length c1,.slice p2 (errF LG).length c2,.int .i64 ST,.slice none 0 0,.int .i64 st,.int .i64 pk,.int .i64 0] 35)=y:=⟨_,rfl⟩
 obtain ⟨hres5,hbb5⟩:=resAt_new hy5 hbs2
 have hby5:=HBX5.out.trans ((hb2.trans (hbb5.mono hb2.size)).mono HBX5.out.size)
 have HY5:=Lib.hid hy5
 have HBY5:=Lib.hid hby5
 have hrs1:=RES1.out.below ((((Below.refl y4.heap.size y4).alloc (Nat.le_refl _) (.cells #[.string ⟨#[45,110]⟩,.string ⟨(X ++ [33,112]).toArray⟩] 9)).trans (by rw [HXA5.out];exact (hb2.trans (hbb5.mono hb2.size)).mono (by rw [← HXA5.out];exact ((Below.refl y4.heap.size y4).alloc (Nat.le_refl _) _).size))))
 clear RES1
 have RES1:=Lib.hid hrs1
 clear hrs1
 have hrs2:=RES2.out.below ((((Below.refl y4.heap.size y4).alloc (Nat.le_refl _) (.cells #[.string ⟨#[45,110]⟩,.string ⟨(X ++ [33,112]).toArray⟩] 9)).trans (by rw [HXA5.out];exact (hb2.trans (hbb5.mono hb2.size)).mono (by rw [← HXA5.out];exact ((Below.refl y4.heap.size y4).alloc (Nat.le_refl _) _).size))))
 clear RES2
 have RES2:=Lib.hid hrs2
 clear hrs2
 have hrs3:=RES3.out.below ((((Below.refl y4.heap.size y4).alloc (Nat.le_refl _) (.cells #[.string ⟨#[45,110]⟩,.string ⟨(X ++ [33,112]).toArray⟩] 9)).trans (by rw [HXA5.out];exact (hb2.trans (hbb5.mono hb2.size)).mono (by rw [← HXA5.out];exact ((Below.refl y4.heap.size y4).alloc (Nat.le_refl _) _).size))))
 clear RES3
 have RES3:=Lib.hid hrs3
 clear hrs3
 have hrs4:=RES4.out.below ((((Below.refl y4.heap.size y4).alloc (Nat.le_refl _) (.cells #[.string ⟨#[45,110]⟩,.string ⟨(X ++ [33,112]).toArray⟩] 9)).trans (by rw [HXA5.out];exact (hb2.trans (hbb5.mono hb2.size)).mono (by rw [← HXA5.out];exact ((Below.refl y4.heap.size y4).alloc (Nat.le_refl _) _).size))))
 clear RES4
 have RES4:=Lib.hid hrs4
 clear hrs4
 have RES5:=Lib.hid hres5
 clear so se hb2 hbs2 hy5 hres5 hbb5 hby5
 go_upto_region 13 with fail
 rw [HY5.out]
 have c1:=RES1.out.status
 have c2:=RES2.out.status
 cases LG with
 | true=>
  obtain rfl:ST=1:=HST.out.symm
  have HFIN:=Lib.hid (HB0.out.trans (HBY5.out.mono HB0.out.size))
  go_wp2_with fail
  go_ret
  exact ⟨rfl,HFIN.out⟩
 | false=>
 obtain rfl:ST=0:=HST.out.symm
 obtain rfl:=T1.out rfl
 obtain rfl:=T2.out rfl
 obtain rfl:=T3.out rfl
 obtain rfl:=T4.out rfl
 obtain rfl:=T5.out rfl
 have hfl:=flat_len inp
 have hlw:=lawLines_any inp (by have:=HSM.out;omega) pi ci HCI.out y5 (HI.out.below HBY5.out (Nat.le_refl _))
 obtain ⟨LS,hLS⟩:∃ LS,Wi.lines inp=LS:=⟨_,rfl⟩
 rw [hLS] at hfl hlw RES1 RES2 RES3 RES4 RES5
 obtain ⟨FL,hFL⟩:∃ FL,Sd.flat LS=FL:=⟨_,rfl⟩
 rw [hFL] at hfl hlw RES1 RES2
 obtain ⟨RG,hRG⟩:∃ RG,Sd.told (rangeK A B) 0 LS=RG:=⟨_,rfl⟩
 obtain ⟨RE,hRE⟩:∃ RG,Sd.told (restK A B) 0 LS=RG:=⟨_,rfl⟩
 rw [hRG] at RES3
 rw [hRE] at RES4 RES5
 have HLS:=Lib.hid hLS
 have HFL:=Lib.hid hFL
 have HRG:=Lib.hid hRG
 have HRE:=Lib.hid hRE
 have HFLL:=Lib.hid (show FL.length≤4000 by have:=HSM.out;omega)
 clear hLS hFL hRG hRE hfl
 go_wp2_with fail
 refine hlw.mono ?_
 rintro e z1 ⟨rfl,hb1⟩
 have HBZ:=Lib.hid (HBY5.out.trans (hb1.mono HBY5.out.size))
 have RE3:=Lib.hid (RES3.out.below hb1)
 have RE4:=Lib.hid (RES4.out.below hb1)
 obtain ⟨p1,k1,d1,cv1⟩:=(RES1.out.below hb1).text
 obtain ⟨p2,k2,d2,cv2⟩:=(RES2.out.below hb1).text
 obtain ⟨p4,k4,d4,cv4⟩:=(RES4.out.below hb1).text
 obtain ⟨p5,k5,d5,cv5⟩:=(RES5.out.below hb1).text
 have hln:=lines_any inp HIN.out pi ci HCI.out z1 (HI.out.below HBZ.out (Nat.le_refl _))
 unfold LinesPost at hln
 rw [HLS.out] at hln
 have HLN:=Lib.hid hln
 clear hlw c1 c2 hb1 hln
 go_wp2_with fail
 refine HLN.out.mono ?_
 rintro e z2 ⟨p,c,vs,rfl,hown,hsub,hb2⟩
 have HOWN:=Lib.hid hown
 have HSUB:=Lib.hid hsub
 have hbz2:=HBZ.out.trans (hb2.mono HBZ.out.size)
 obtain ⟨p3,k3,d3,cv3⟩:=(RE3.out.below hb2).text
 obtain ⟨p4',k4',d4',cv4'⟩:=(RE4.out.below hb2).text
 have hib:Bs z2 pi inp:=HI.out.below hbz2 (Nat.le_refl _)
 have HIB:=Lib.hid hib
 have HFIN:=Lib.hid (HB0.out.trans (hbz2.mono HB0.out.size))
 have hcnt:=flat_count LS
 rw [HFL.out] at hcnt
 have hcn:LS.length≤4000:=by have:=HFLL.out;omega
 have hl3:¬ RG.length=0∨RG.length=0:=(Nat.eq_zero_or_pos RG.length).elim .inr (fun h=>.inl (by omega))
 clear d1 d2 d4 d5 cv1 cv2 cv4 cv5 hown hsub hb2 hbz2 hib HLN hcnt hl3
 have HD3:=Lib.hid d3
 have HD4:=Lib.hid d4'
 have HCV3:=Lib.hid cv3
 have HCV4:=Lib.hid cv4'
 have HCN:=Lib.hid hcn
 clear d3 d4' cv3 cv4' hcn
 go_wp2_with fail
 go_loopw [24,25,26] (fun x24 x25 x26 wr=>∃ i:Nat,x26=.int .i64 i∧i≤LS.length∧x24=.string ⟨(Sd.told (rangeK A B) 0 (LS.take i)).toArray⟩∧x25=.string ⟨(Sd.told (restK A B) 0 (LS.take i)).toArray⟩∧wr=z2) (fun _ _ x26 _=>LS.length - (intOf x26).toNat)
 case atStart=>exact ⟨0,rfl,Nat.zero_le _,rfl,rfl,rfl⟩
 case round=>
  obtain ⟨i,rfl,hil,rfl,rfl,hwr⟩:=hrel
  rw [hwr]
  clear hwr
  by_cases hlt:i < LS.length
  ·have hpos:0 < inp.length:=by
    rcases Nat.eq_zero_or_pos inp.length with h0 | h0
    ·have:inp=[]:=List.eq_nil_of_length_eq_zero h0
     have h2:=HLS.out
     rw [this] at h2
     rw [← h2] at hlt
     simp [Wi.lines,Wi.linesF] at hlt
    ·exact h0
   obtain ⟨bb,o,rfl,hsv⟩:=HSUB.out hpos
   obtain ⟨v,hv,hsb⟩:=hsv.2 i hlt
   obtain ⟨b',o',e1',hcc⟩:=HIB.out hpos
   injection e1' with e1'
   injection e1' with e1' e2'
   subst e1'
   subst e2'
   obtain ⟨aa,rfl,ha1,hcell⟩:=hsb.bs (W:=z2) hcc
   obtain ⟨g,rfl⟩:∃ g,p=some ⟨g,0,none⟩:=by
    obtain ⟨n,hn⟩:∃ n,LS.length=n+1:=⟨LS.length - 1,by omega⟩
    have ho:=HOWN.out
    rw [hn] at ho
    obtain ⟨g,c',e⟩:=own_slice ho
    injection e with e
    exact ⟨g,e⟩
   have hc1:=HOWN.out.cellAt i (by omega)
   rw [hv] at hc1
   have hbs:Bs z2 (some ⟨bb,o+aa,none⟩) (LS.getD i []):=fun _=>⟨bb,o+aa,rfl,hcell⟩
   have hcv:=run_str hbs (ci - aa)
   have htk1:=told_take (rangeK A B) LS i hlt
   have htk2:=told_take (restK A B) LS i hlt
   have hfa1:=told_len (rangeK A B) (rangeK_len A B) (LS.take i) 0
   have hfa2:=told_len (restK A B) (restK_len A B) (LS.take i) 0
   have hfl0:=flat_take LS i hlt
   have hfl2:=flat_take_len LS (i+1)
   have hle:(Sd.flat (LS.take i)).length+((LS.getD i []).length+1)≤200000:=by
    have:=congrArg List.length hfl0
    rw [List.length_append,List.length_append] at this
    have h5:=HFL.out
    have h6:=HFLL.out
    rw [h5] at hfl2
    simp only [List.length_cons,List.length_nil] at this
    omega
   generalize hli:LS.getD i []=li at *
   generalize hFI:Sd.told (rangeK A B) 0 (LS.take i)=FI at *
   generalize hGI:Sd.told (restK A B) 0 (LS.take i)=GI at *
   have g1:¬ 9223372036854775807 < FI.length+li.length:=by omega
   have g2:¬ 9223372036854775807 < FI.length+li.length+1:=by omega
   have g1':¬ 9223372036854775807 < GI.length+li.length:=by omega
   have g2':¬ 9223372036854775807 < GI.length+li.length+1:=by omega
   have hlt2:(i:Int) < (LS.length:Int):=by omega
   have hw1:IntKind.i64.wrap ((i:Int)+1)=(i:Int)+1:=wrap_i64 (by have:=HCN.out;omega) (by have:=HCN.out;omega)
   have hseF:(⟨FI.toArray⟩:ByteArray) ++ ⟨li.toArray⟩ ++ ⟨#[10]⟩=⟨(FI ++ (li ++ [10])).toArray⟩:=by
    rw [str_app]
    exact (str_app _ [10]).trans (by rw [List.append_assoc])
   have hseG:(⟨GI.toArray⟩:ByteArray) ++ ⟨li.toArray⟩ ++ ⟨#[10]⟩=⟨(GI ++ (li ++ [10])).toArray⟩:=by
    rw [str_app]
    exact (str_app _ [10]).trans (by rw [List.append_assoc])
   have HSEF:=Lib.hid hseF
   have HSEG:=Lib.hid hseG
   have HT1:=Lib.hid htk1
   have HT2:=Lib.hid htk2
   clear htk1 htk2 hfa1 hfa2 hfl0 hfl2 hv hsv hcc hbs hli hcell hsb hseF hseG hFI hGI
   by_cases hia:i+1=A
   ·have q1:(((i:Int)+1) == (A:Int))=true:=by simp;omega
    have hR:rangeK A B (i+1) li=li ++ [10]:=by unfold rangeK Sd.inR;rw [hia];simp
    have hS:restK A B (i+1) li=[]:=by unfold restK Sd.inR;rw [hia];simp
    rw [hR] at HT1
    rw [hS,List.append_nil] at HT2
    clear hR hS
    have HIA:=Lib.hid hia
    clear hia
    go_wp2_with fail
    exact ⟨⟨i+1,by go_num,by omega,by rw [HT1.out];exact congrArg Value.string HSEF.out,by rw [HT2.out],trivial⟩,by show LS.length - ((i:Int)+1).toNat < LS.length - (i:Int).toNat;omega⟩
   ·have q1:(((i:Int)+1) == (A:Int))=false:=by simp;omega
    by_cases hag:A < i+1
    ·have q2:decide ((A:Int) < (i:Int)+1)=true:=by simp;omega
     by_cases hbg:i+1≤B
     ·have q3:decide ((i:Int)+1≤(B:Int))=true:=by simp;omega
      have hR:rangeK A B (i+1) li=li ++ [10]:=by unfold rangeK Sd.inR;simp [hag,hbg]
      have hS:restK A B (i+1) li=[]:=by unfold restK Sd.inR;simp [hag,hbg]
      rw [hR] at HT1
      rw [hS,List.append_nil] at HT2
      clear hR hS hia hag hbg
      go_wp2_with fail
      exact ⟨⟨i+1,by go_num,by omega,by rw [HT1.out];exact congrArg Value.string HSEF.out,by rw [HT2.out],trivial⟩,by show LS.length - ((i:Int)+1).toNat < LS.length - (i:Int).toNat;omega⟩
     ·have q3:decide ((i:Int)+1≤(B:Int))=false:=by simp;omega
      have hR:rangeK A B (i+1) li=[]:=by unfold rangeK Sd.inR;simp [hia,hag,hbg]
      have hS:restK A B (i+1) li=li ++ [10]:=by unfold restK Sd.inR;simp [hia,hag,hbg]
      rw [hR,List.append_nil] at HT1
      rw [hS] at HT2
      clear hR hS hia hag hbg
      go_wp2_with fail
      exact ⟨⟨i+1,by go_num,by omega,by rw [HT1.out],by rw [HT2.out];exact congrArg Value.string HSEG.out,trivial⟩,by show LS.length - ((i:Int)+1).toNat < LS.length - (i:Int).toNat;omega⟩
    ·have q2:decide ((A:Int) < (i:Int)+1)=false:=by simp;omega
     have hR:rangeK A B (i+1) li=[]:=by unfold rangeK Sd.inR;simp [hia,hag]
     have hS:restK A B (i+1) li=li ++ [10]:=by unfold restK Sd.inR;simp [hia,hag]
     rw [hR,List.append_nil] at HT1
     rw [hS] at HT2
     clear hR hS hia hag
     go_wp2_with fail
     exact ⟨⟨i+1,by go_num,by omega,by rw [HT1.out],by rw [HT2.out];exact congrArg Value.string HSEG.out,trivial⟩,by show LS.length - ((i:Int)+1).toNat < LS.length - (i:Int).toNat;omega⟩
  ·obtain rfl:i=LS.length:=by omega
   rw [List.take_length]
   have h3:=HD3.out
   have h4:=HD4.out
   have h5:=HCV3.out
   have h6:=HCV4.out
   rw [HRG.out,HRE.out]
   go_wp2_with fail
   go_ret
   exact ⟨by simp,HFIN.out⟩
end Go.Proofs.YtefpcacnblaokaaGreatDoor

/-
  No function of the program starts a goroutine: so no law does. No condition.
-/
namespace Go.Proofs.YtefpcacnblaokaaGreatDoor
theorem goes_any:Tryz.pinned.checked.prog.funcs.any Func.goes=false:=by kernel_rfl
theorem goes_of {P:Program} (h:P.funcs.any Func.goes=false) (f:FuncId):P.goes f=false:=by
 have hx:∀ g:FuncId,(P.funcs[g]?).any Func.goes=false:=fun g=>by
  cases hg:P.funcs[g]? with
  | none=>rfl
  | some fn=>
   obtain ⟨hlt,he⟩:=Array.getElem?_eq_some_iff.1 hg
   have:=Array.any_eq_false.1 h g hlt
   rw [he] at this
   simpa using this
 unfold Program.goes
 rw [h,Bool.and_false,Bool.or_false]
 rw [List.any_eq_false]
 intro g _
 rw [hx g]
 decide
theorem goesBy_of {P:Program} (h:P.funcs.any Func.goes=false) {c:OpenClaim} (hs:c.start=.entering):false=c.goesBy P:=by
 unfold OpenClaim.goesBy Program.goesAt Program.goesFrom
 rw [hs]
 cases P.funcNamed c.func with
 | none=>rfl
 | some f=>simp [goes_of h f]
end Go.Proofs.YtefpcacnblaokaaGreatDoor
