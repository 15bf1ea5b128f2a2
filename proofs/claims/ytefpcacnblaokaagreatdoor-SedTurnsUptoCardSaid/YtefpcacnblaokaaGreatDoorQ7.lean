/-
  Texts of this seat put together: S5, S6, S7, X1, S8.
-/
import Derived.Test.YtefpcacnblaokaaGreatDoorQ6

/-
  The walk of a reader's Line. Conditions: a reader in memory; at most 2^32 bytes.
-/
set_option maxRecDepth 100000
set_option maxHeartbeats 8000000
namespace Go.Proofs.YtefpcacnblaokaaGreatDoor
open Go.RowKit Go.Shelf Go.Maps
def LinePost (w:World) (F:Fx) (M:Nat→Prop) (rd:Nat) (tot out err:Bts) (e:Ending) (w':World):Prop:=
 MvR M M rd w w' ∧
 ((F.line < (Wi.lineOf tot).1.length∧e=.returned (.tuple #[.slice none 0 0,.bool false,.int .i64 18])∧∃ o feed over inp',RdrW w' F M rd [] o feed over inp' out err) ∨
  ((Wi.lineOf tot).1.length≤F.line∧∃ v,e=.returned (.tuple #[v,.bool ((Wi.lineOf tot).2.1 || !(Wi.lineOf tot).1.isEmpty),.int .i64 0])∧Sl w' (fun g=>w.heap.size≤g∧(∀ v2,w'.cell? ⟨rd,2,none⟩=some v2→∀ a n c,v2=.slice (some a) n c→a.block≠g)) v (Wi.lineOf tot).1∧∃ o over buf' inp',Rdr w' F M rd buf' o (Wi.lineOf tot).2.1 over inp' out err∧buf' ++ inp'=(Wi.lineOf tot).2.2))
def LinePostC (w:World) (F:Fx) (M:Nat→Prop) (rd:Nat) (tot out err:Bts) (e:Ending) (w':World):Prop:=
 MvR M M rd w w' ∧
 ((F.line < (Wi.lineOf tot).1.length∧e=.returned (.tuple #[.slice none 0 0,.bool false,.int .i64 18])∧∃ o feed over inp',RdrW w' F M rd [] o feed over inp' out err) ∨
  ((Wi.lineOf tot).1.length≤F.line∧∃ v,e=.returned (.tuple #[v,.bool ((Wi.lineOf tot).2.1 || !(Wi.lineOf tot).1.isEmpty),.int .i64 0])∧Sl w' (fun g=>w.heap.size≤g∧(∀ v2,w'.cell? ⟨rd,2,none⟩=some v2→∀ a n c,v2=.slice (some a) n c→a.block≠g)) v (Wi.lineOf tot).1∧(∀ q n c,v=.slice q n c→c≤maxLen)∧(∀ a n c,w'.cell? ⟨rd,2,none⟩=some (.slice (some a) n c)→BufIs w rd a.block)∧∃ o over buf' inp',Rdr w' F M rd buf' o (Wi.lineOf tot).2.1 over inp' out err∧buf' ++ inp'=(Wi.lineOf tot).2.2))
theorem LinePostC.post {w:World} {F:Fx} {M:Nat→Prop} {rd:Nat} {tot out err:Bts} {e:Ending} {w':World} (h:LinePostC w F M rd tot out err e w'):LinePost w F M rd tot out err e w':=by
 obtain ⟨hm,h | ⟨h1,v,h2,h3,-,h4⟩⟩:=h
 ·exact ⟨hm,.inl h⟩
 ·exact ⟨hm,.inr ⟨h1,v,h2,h3,h4.2⟩⟩
theorem row_cap {w:World} {B n size:Nat} {t:TypeId} {v:Value} {xs:List Value} (h:w.ownsRow B t size v n xs):∀ q n c,v=.slice q n c→c≤maxLen:=by
 rcases h.2 with ⟨h1,-⟩ | ⟨g,cap,cur,e,-,-,-,hc,-⟩
 ·intro q n c e2
  rw [h1] at e2
  injection e2 with _ _ e3
  rw [← e3];exact Nat.zero_le _
 ·intro q n c e2
  rw [e] at e2
  injection e2 with _ _ e3
  rw [← e3];exact hc
theorem lineC_any (F:Fx) (M:Nat→Prop) (rd:Nat) (buf:Bts) (o:Nat) (feed over:Bool) (inp out err:Bts) (w:World) (h:Rdr w F M rd buf o feed over inp out err) (htot:(buf ++ inp).length≤4294967296) :
  Calls Tryz.prog 131 #[.pointer (some ⟨rd,0,none⟩)] w fun e w'=>LinePostC w F M rd (buf ++ inp) out err e w':=by
 have hmf:∀ (fn:Fn) (first cap:Array Value) (w:World),(Instr.makeFunc fn first cap).run Tryz.prog w=.ok (.func fn first cap) w:=fun _ _ _ _=>rfl
 generalize hT:buf ++ inp=tot at *
 have HT:=Lib.hid hT
 clear hT
 obtain ⟨w1,hw1⟩:∃ w1,w.alloc (.cells #[.pointer (some ⟨rd,0,none⟩)] 210)=w1:=⟨_,rfl⟩
 have hb1:Below w.heap.size w w1:=by rw [← hw1];exact (Below.refl _ _).alloc (Nat.le_refl _) _
 have hrb1:Blk w1 w.heap.size #[.pointer (some ⟨rd,0,none⟩)] 210:=by rw [← hw1];exact Blk.new _ _ _
 have hs1:w1.heap.size=w.heap.size+1:=by rw [← hw1];simp
 obtain ⟨v0,hrb0,hsl0⟩:=h.blk
 have hrdl:=hrb0.lt
 have hr1:=h.below hb1
 have cd:=rdDrop_any F M rd buf o feed over inp out err w1 hr1.toRdrW
 have r0:=hrb1.cell 0 (v:=.pointer (some ⟨rd,0,none⟩)) rfl
 have hnew:∀ j,M j→j < w.heap.size:=h.pr.lt
 have HOV:=Lib.hid h.over_
 have H:=Lib.hid h
 have HB1:=Lib.hid hb1
 have HRB1:=Lib.hid hrb1
 clear h hb1 hrb1 hr1
 go_enter Tryz.func131,Tryz.ntmps131
 go_wp2_with fail
 try rw [hw1]
 refine cd.mono ?_
 rintro e w2 ⟨⟨u,rfl⟩,hr2,hc2,hm2⟩
 clear hw1 cd
 have hs2:w1.heap.size≤w2.heap.size:=hm2.1.size
 have hrb2:Blk w2 w.heap.size #[.pointer (some ⟨rd,0,none⟩)] 210:=HRB1.out.kept hm2.1 fun e=>by
  rcases e with e | e
  ·have:=hnew _ e;omega
  ·omega
 obtain ⟨w3,hw3⟩:∃ w3,w2.alloc (.cells #[.slice none 0 0] 22)=w3:=⟨_,rfl⟩
 have hb3:Below w2.heap.size w2 w3:=by rw [← hw3];exact (Below.refl _ _).alloc (Nat.le_refl _) _
 have hlb3:Blk w3 w2.heap.size #[.slice none 0 0] 22:=by rw [← hw3];exact Blk.new _ _ _
 have hL:LnSt w w3 F M rd w2.heap.size w.heap.size (.slice none 0 0) [] buf 0 feed over inp out err:=by
  refine ⟨⟨hr2.below hb3,HOV.out⟩,hlb3,hrb2.keep hb3 (by omega),World.ownsRow_nil _ _ _ _,fun j hj=>(by cases hj), ?_, ?_,⟨by omega,by omega,by omega,by omega⟩,hnew⟩
  ·intro v hv a n c e
   have hv1:w2.cell? ⟨rd,2,none⟩=some v:=by rw [← hv,← hw3,new_cell (hc2.trans ((HB1.out.cell (p:=⟨rd,2,none⟩) hrdl).trans (hrb0.cell 2 (v:=v0) rfl)))];exact hc2.trans ((HB1.out.cell (p:=⟨rd,2,none⟩) hrdl).trans (hrb0.cell 2 (v:=v0) rfl))
   have hv0:v0=v:=Option.some.inj (((hc2.trans ((HB1.out.cell (p:=⟨rd,2,none⟩) hrdl).trans (hrb0.cell 2 (v:=v0) rfl)))).symm.trans hv1)
   subst hv0
   have hlt:a.block < w.heap.size:=by
    rcases hsl0 with ⟨-,h1⟩ | ⟨g,o,c',h1,h2,h3,-⟩
    ·rw [h1] at e;cases e
    ·rw [h1] at e
     injection e with e
     injection e with e
     subst e
     exact h3
   exact ⟨(fun e=>by cases e),by omega,by omega,.inr ⟨a,n,c,by rw [← e];exact hrb0.cell 2 rfl,rfl⟩⟩
  ·exact ((Kept.of_below HB1.out).trans hm2.1).trans (Kept.of_below hb3)
 have HL:=Lib.hid hL
 have HM2:=Lib.hid hm2
 have HR2:=Lib.hid hr2
 clear hL hm2 hr2 hrb2 hb3 hlb3 hc2 hrb0 hsl0
 go_wp2_with fail
 try rw [hw3]
 have hline0:Wi.lineOf tot=([] ++ (Wi.lineOf (buf ++ inp)).1,(Wi.lineOf (buf ++ inp)).2.1,(Wi.lineOf (buf ++ inp)).2.2):=by rw [HT.out];rfl
 have HLINE0:=Lib.hid hline0
 have htot0:buf.length+inp.length≤4294967296:=by have:=HT.out;subst this;simpa using htot
 have hM23:MvR M M rd w w2:=⟨(Kept.of_below HB1.out).trans HM2.out.1,fun _ h=>.inl h⟩
 clear hline0 hw3 HR2 HM2 HB1 HRB1 r0
 generalize w2.heap.size=lb at *
 generalize hrbe:w.heap.size=rb at *
 have hrbw:w.heap.size=rb:=hrbe
 have HRBW:=Lib.hid hrbw
 clear hrbe hrbw
 go_loopw [7,8] (fun _x7 _x8 wr=>∃ lv L b1 f1 ov1 i1,Hid (LnSt w wr F M rd lb rb lv L b1 0 f1 ov1 i1 out err)∧Hid (Wi.lineOf tot=(L ++ (Wi.lineOf (b1 ++ i1)).1,(Wi.lineOf (b1 ++ i1)).2.1,(Wi.lineOf (b1 ++ i1)).2.2))∧L.length≤F.line∧L.length+b1.length+i1.length≤4294967296) (fun _ _ wr=>2 * lenAt wr F.s0 0+lenAt wr rd 2)
 case atStart=>exact ⟨_,[],buf,feed,over,inp,HL,HLINE0,by simp,by simpa using htot0⟩
 case round=>
  obtain ⟨lv,L,b1,f1,ov1,i1,hst,hline,hLl,htl⟩:=hrel
  obtain ⟨v,hb,hsl⟩:=hst.out.sl
  obtain ⟨q,c,rfl,-,hcap⟩:=hsl.bs
  obtain ⟨pl,cl,hlvs⟩:∃ pl cl,lv=.slice pl L.length cl:=by
   rcases hst.out.row.2 with ⟨h1,h2⟩ | ⟨g,cap,cur,e,-⟩
   ·exact ⟨none,0,by rw [h2];exact h1⟩
   ·exact ⟨_,_,e⟩
  subst hlvs
  have a0:=hst.out.rb_.cell 0 (v:=.pointer (some ⟨rd,0,none⟩)) rfl
  have a1:=hb.cell 2 (v:=.slice q b1.length c) rfl
  have a2:=hst.out.lb_.cell 0 (v:=.slice pl L.length cl) rfl
  have a4:=hb.cell 4 (v:=.bool f1) rfl
  have z4:=hb.free 4
  have hix:=idx_sl wr _ _ b1 hsl
  have HLN:=Lib.hid hst.out.r.toRdrW.lens
  have hrr:rd≠rb:=by omega
  have hrr2:rb≠rd:=by omega
  have HB:=Lib.hid hb
  have HSL:=Lib.hid hsl
  clear hb hsl HL HLINE0
  rcases idx_cases b1 with ⟨e1,hno⟩ | ⟨i,hi0,e1,hsplit,hno⟩
  ·rw [e1] at hix
   have hi1:decide ((0:Int)≤-1)=false:=by decide
   have HNO:=Lib.hid hno
   have hl:Wi.lineOf tot=((L ++ b1) ++ (Wi.lineOf i1).1,(Wi.lineOf i1).2.1,(Wi.lineOf i1).2.2):=by
    rw [hline.out,Wi.lineOf_skip _ _ hno]
    simp
   have HLE:=Lib.hid hl
   have HLL:Hid (L.length+b1.length≤(Wi.lineOf tot).1.length):=Lib.hid (by rw [hl];simp)
   clear hl hno e1
   go_wp2_with fail
   refine hix.mono ?_
   rintro e w4 ⟨rfl,rfl⟩
   clear hix
   go_wp2_with fail
   obtain ⟨w5,hw5⟩:∃ w5,w4.setCell ⟨rd,4,none⟩ (.bool false)=w5:=⟨_,rfl⟩
   have hb5:RdBlk w5 F.p rd (.slice q b1.length c) 0 false ov1:=by rw [← hw5];exact Blk.set HB.out 4 _
   have hst5:LnSt w w5 F M rd lb rb (.slice pl L.length cl) L b1 0 false ov1 i1 out err:=hst.out.turn (by rw [← hw5];exact (Kept.refl (fun j=>j=rd) _).setCell (.inl rfl) 4 _) hb5 HSL.out hst.out.r.over_
   rw [hw5]
   have b0:=hst5.rb_.cell 0 (v:=.pointer (some ⟨rd,0,none⟩)) rfl
   have b2:=hst5.lb_.cell 0 (v:=.slice pl L.length cl) rfl
   have b3:=hb5.cell 0 (v:=.pointer (some ⟨F.p,0,none⟩)) rfl
   have HLIM:=Lib.hid (lim_any F M i1 out err w5.drew (hst5.r.pr.below (below_drew2 w5)))
   have hsum:IntKind.i64.wrap ((L.length:Int)+(b1.length:Int))=(L.length:Int)+(b1.length:Int):=by simp [IntKind.wrap_i64];omega
   have hfl:=limLine
   have HB5:=Lib.hid hb5
   have HST5:=Lib.hid hst5
   clear hw5 hb5 hst5 a0 a1 a2 a4 z4 HB HSL hst
   go_region_held3 (fun w'=>w'.cell? ⟨lb,0,none⟩=some (.slice pl L.length cl)∧w'.cell? ⟨rb,0,none⟩=some (.pointer (some ⟨rd,0,none⟩))∧w'.cell? ⟨rd,0,none⟩=some (.pointer (some ⟨F.p,0,none⟩))) (first | go_keep | exact HC1.out)
    ((go_at_call 207;refine HLIM.out.mono ?_;rintro e w6 ⟨rfl,hb6⟩;have HW6:=Lib.hid ((below_drew2 w5).trans (hb6.mono (Nat.le_refl _)));have HC1:=Lib.hid (show w6.cell? ⟨lb,0,none⟩=some (.slice pl L.length cl)∧w6.cell? ⟨rb,0,none⟩=some (.pointer (some ⟨rd,0,none⟩))∧w6.cell? ⟨rd,0,none⟩=some (.pointer (some ⟨F.p,0,none⟩)) from ⟨(HW6.out.cell (p:=⟨lb,0,none⟩) HST5.out.lb_.lt).trans b2,(HW6.out.cell (p:=⟨rb,0,none⟩) HST5.out.rb_.lt).trans b0,(HW6.out.cell (p:=⟨rd,0,none⟩) HB5.out.lt).trans b3⟩);clear hb6))
   have hst6:=HST5.out.below HW6.out
   have hb6:RdBlk w6 F.p rd (.slice q b1.length c) 0 false ov1:=HB5.out.keep HW6.out HB5.out.lt
   have HST6:=Lib.hid hst6
   have HB6:=Lib.hid hb6
   clear hst6 hb6 hsum hfl b0 b2 b3
   by_cases hlong:F.line < L.length+b1.length
   ·have hd:decide ((F.line:Int) < (L.length:Int)+(b1.length:Int))=true:=by simp;omega
    have hf:=lineFails_any F M rd b1 0 false ov1 i1 out err w6 HST6.out.r.toRdrW 18 lb rb pl L.length cl (HST6.out.lb_.cell 0 rfl) (HST6.out.rb_.cell 0 rfl) (by have:=HST6.out.base;omega) (by have:=HST6.out.base;omega)
    go_wp2_with fail
    refine hf.mono ?_
    rintro e w7 ⟨rfl,hr7,hm7⟩
    have HR7:=Lib.hid hr7
    have HM7:=Lib.hid hm7
    clear hr7 hm7 hf
    go_wp2_with fail
    go_ret3
    refine ⟨?_,.inl ⟨?_,rfl,_,_,_,_,HR7.out⟩⟩
    ·exact MvR.trans ⟨HST6.out.mv,fun _ h=>.inl h⟩ HM7.out
    ·have:=HLL.out;omega
   ·have hd:decide ((F.line:Int) < (L.length:Int)+(b1.length:Int))=false:=by simp;omega
    have x0:=HST6.out.rb_.cell 0 (v:=.pointer (some ⟨rd,0,none⟩)) rfl
    have x1:=HB6.out.cell 2 (v:=.slice q b1.length c) rfl
    have x2:=HST6.out.lb_.cell 0 (v:=.slice pl L.length cl) rfl
    have hlcap:(b1.length:Int)≤c:=by omega
    have hlp:(0:Int)≤b1.length:=by omega
    have hbs:∀ W,Below w6.heap.size w6 W→Bs W q (b1.take b1.length):=by
     intro W hW
     obtain ⟨v9,hb9,hs9⟩:=HST6.out.sl
     obtain ⟨p9,c9,e9,hbs9,-⟩:=hs9.bs
     have e8:some v9=some (Value.slice q b1.length c):=(hb9.cell 2 rfl).symm.trans (HB6.out.cell 2 rfl)
     rw [e9] at e8
     injection e8 with e8
     injection e8 with e8
     subst e8
     exact (hbs9.below hW (Nat.le_refl _)).take _
    have hlen:(b1.take b1.length).length=b1.length:=by rw [List.length_take];omega
    have hrow:∀ W,Below w6.heap.size w6 W→W.ownsRow w.heap.size 5 1 (.slice pl L.length cl) L.length (L.map u8V):=fun W hW=>own_kept HST6.out.row (Kept.of_below (S:=fun _=>False) hW) fun _ _ h=>h
    have HBASE:Hid (w.heap.size≤w6.drew.heap.size):=Lib.hid (HST6.out.mv.size)
    have HBS:=Lib.hid hbs
    have HLEN:=Lib.hid hlen
    have HROW:=Lib.hid hrow
    clear hbs hlen hrow
    go_upto_region 10 with fail
    go_cut [45,46,47,48,49,50,51,52] (fun x45 x46 x47 x48 x49 x50 x51 x52 wc=>∃ p' c',Hid (LnSt w wc F M rd lb rb (.slice p' (L.length+b1.length) c') (L ++ b1.take b1.length) b1 0 false ov1 i1 out err)∧Hid (RdBlk wc F.p rd (.slice q b1.length c) 0 false ov1))
    case first=>
     go_region_law ((refine step_append_bytes (by rfl) _ _ (by rfl) w.heap.size _ _ _ (by rfl) (HROW.out _ (below_drew2 w6)) q (b1.take b1.length) c (by rw [HLEN.out];rfl) (HBS.out _ (below_drew2 w6)) (by rw [HLEN.out];omega) HBASE.out ?_;rw [HLEN.out];intro p' c' w7 hown7 hg7 ho7;have hlb7:Blk w7 lb #[.slice pl L.length cl] 22:=(hg7.block lb (by simpa using HST6.out.lb_.lt) (fun e=>(HST6.out.rowN lb e.symm).1 rfl)).trans HST6.out.lb_.drew;have d7:=hlb7.cell 0 (v:=.slice pl L.length cl) rfl;have e7:=hlb7.free 0;have HLB7:=Lib.hid hlb7;have HOWN7:=Lib.hid hown7;have HG7:=Lib.hid hg7;have HO7:=Lib.hid ho7;clear hlb7 hown7 hg7 ho7))
     all_goals
      have hg7:=HG7.out
      have hst7:LnSt w w6.drew F M rd lb rb (.slice pl L.length cl) L b1 0 false ov1 i1 out err:=HST6.out.below (below_drew2 w6)
      have hst8:=hst7.grow2 HLEN.out HOWN7.out hg7 HO7.out
      have hb8:RdBlk (w7.setCell ⟨lb,0,none⟩ (.slice p' (L.length+b1.length) c')) F.p rd (.slice q b1.length c) 0 false ov1:=by
       have h7:RdBlk w7 F.p rd (.slice q b1.length c) 0 false ov1:=(hg7.block rd (by simpa using HB6.out.lt) (fun e=>by have:=(HST6.out.row.lt rd e.symm).1;have:=HST6.out.base;omega)).trans (Blk.drew HB6.out)
       exact Blk.setOther h7 (by show rd≠lb;have:=HST6.out.base;omega) _
      go_wp2_with fail
      go_meet
      exact ⟨p',c',Lib.hid hst8,Lib.hid hb8⟩
    case rest=>
     obtain ⟨w9,hw9⟩:∃ w9,w9=wc:=⟨_,rfl⟩
     subst hw9
     obtain ⟨p',c',hst8,hb8⟩:=hcut
     clear HBASE HBS HLEN HROW HC1 HW6 HST6 HB6 HST5 HB5 HLIM x0 x1 x2 hd hlp hlcap
     have y0:=hst8.out.rb_.cell 0 (v:=.pointer (some ⟨rd,0,none⟩)) rfl
     have y4:=hb8.out.cell 4 (v:=.bool false) rfl
     have y2:=hb8.out.cell 2 (v:=.slice q b1.length c) rfl
     have yf2:=hb8.out.free 2
     have hst10:LnSt w (w9.setCell ⟨rd,2,none⟩ (.slice none 0 0)) F M rd lb rb (.slice p' (L.length+b1.length) c') (L ++ b1.take b1.length) [] 0 false ov1 i1 out err:=hst8.out.turn ((Kept.refl (fun j=>j=rd) _).setCell (.inl rfl) 2 _) (Blk.set hb8.out 2 _) (Sl.nil _ _) hst8.out.r.over_
     have hc10:(w9.setCell ⟨rd,2,none⟩ (.slice none 0 0)).cell? ⟨rd,2,none⟩=some (.slice none 0 0):=(Blk.set hb8.out 2 (.slice none 0 0)).cell 2 rfl
     have y10:=hst10.rb_.cell 0 (v:=.pointer (some ⟨rd,0,none⟩)) rfl
     have hfl:=rdFill_any F M rd 0 false ov1 i1 out err _ hst10.r
     have HST10:=Lib.hid hst10
     have HC10:=Lib.hid hc10
     clear hst10 hc10
     go_wp2_with fail
     refine hfl.mono ?_
     rintro e wf ⟨rfl,⟨ov2,hrf⟩,hcf,hmf⟩
     have hstf:=HST10.out.filled hrf (hcf.imp (fun h=>⟨h,HC10.out⟩) id) hmf
     obtain ⟨vf,hbf,hsf⟩:=hstf.r.blk
     obtain ⟨pf,cf,rfl,-⟩:=hsf.bs
     have f0:=hstf.rb_.cell 0 (v:=.pointer (some ⟨rd,0,none⟩)) rfl
     have f1:=hstf.lb_.cell 0 (v:=.slice p' (L.length+b1.length) c') rfl
     have f2:=hbf.cell 2 (v:=.slice pf (i1.take F.buf).length cf) rfl
     have f3:=hbf.cell 3 (v:=.int .i64 0) rfl
     have ff3:=hbf.free 3
     have hbl:1≤F.buf:=hstf.r.pr.lims.1
     have HSTF:=Lib.hid hstf
     have HBF:=Lib.hid hbf
     have HSF:=Lib.hid hsf
     clear hstf hbf hsf hrf hcf hfl y0 y4 y2 yf2 hst8 hb8 HST10 HC10
     obtain ⟨K2,hK2⟩:∃ K2,(i1.take F.buf).length=K2:=⟨_,rfl⟩
     have hK3:min F.buf i1.length=K2:=by rw [← hK2];simp
     rw [hK2] at f2
     have HK2:=Lib.hid hK2
     have HK3:=Lib.hid hK3
     clear hK2 hK3
     by_cases hi1e:i1=[]
     ·obtain rfl:K2=0:=by have:=HK3.out;rw [hi1e] at this;simp at this;omega
      have hlr:lb≠rd:=by have:=HSTF.out.base;omega
      have hlr2:rd≠lb:=hlr.symm
      go_wp2_with fail
      have hsum3:((L.length:Int)+(b1.length:Int))=((L.length+b1.length:Nat):Int):=by omega
      obtain ⟨wg,hwg⟩:∃ wg,wf.setCell ⟨rd,3,none⟩ (.int .i64 ((L.length:Int)+(b1.length:Int)))=wg:=⟨_,rfl⟩
      have hfin:LnSt w wg F M rd lb rb (.slice p' (L.length+b1.length) c') (L ++ b1.take b1.length) (i1.take F.buf) (L.length+b1.length) false ov2 (i1.drop F.buf) out err:=by
       rw [← hwg,hsum3]
       obtain ⟨v9,hb9,hs9⟩:=HSTF.out.sl
       have e9:some v9=some _:=(hb9.cell 2 rfl).symm.trans (HBF.out.cell 2 rfl)
       obtain rfl:=Option.some.inj e9
       exact HSTF.out.turn ((Kept.refl (fun j=>j=rd) _).setCell (.inl rfl) 3 _) (Blk.set HBF.out 3 _) hs9 HSTF.out.r.over_
      rw [hwg]
      have g1:=hfin.lb_.cell 0 (v:=.slice p' (L.length+b1.length) c') rfl
      have g2:=hfin.lb_.drew.cell 0 (v:=.slice p' (L.length+b1.length) c') rfl
      have HFIN:=Lib.hid (hfin.below (below_drew2 wg))
      clear hfin hwg f0 f1 f2 f3 ff3 HSTF HBF HSF
      have hgt:decide ((0:Int) < (L.length:Int)+(b1.length:Int))=(false || !(L ++ b1).isEmpty):=by
       cases L with
       | nil=>cases b1 with
        | nil=>rfl
        | cons _ _=>simp <;> omega
       | cons _ _=>simp <;> omega
      have HGT:=Lib.hid hgt
      clear hgt hsum3
      go_region
      go_wp2_with fail
      go_ret3
      have hl2:Wi.lineOf tot=(L ++ b1,false,[]):=by rw [HLE.out,hi1e];simp [Wi.lineOf]
      have hfin:=HFIN.out
      rw [List.take_length] at hfin
      refine ⟨⟨hfin.mv,fun _ h=>.inl h⟩,.inr ⟨?_,.slice p' (L.length+b1.length) c', ?_, ?_,row_cap hfin.row,fun a n c e=>(hfin.buf_ _ e a n c rfl).2.2.2, ?_⟩⟩
      ·rw [hl2,List.length_append];omega
      ·rw [hl2]
       exact congrArg (fun b=>Ending.returned (.tuple #[.slice p' (L.length+b1.length) c',.bool b,.int .i64 0])) HGT.out
      ·rw [hl2]
       exact (Sl.own hfin.row).mono fun g _ hg=>⟨hg.1,fun v2 hv2 a n c e e2=>(hfin.buf_ v2 hv2 a n c e).1 (e2 ▸ hg.2)⟩
      ·rw [hl2]
       exact ⟨_,_,_,_,hfin.r,by rw [hi1e];simp⟩
     ·have hK0:((K2:Int) == 0)=false:=by
       have:=HK3.out
       have:=List.length_pos_iff.2 hi1e
       simp;omega
      go_wp2_with fail
      go_roundw
      case rel=>
       refine ⟨_,L ++ b1,i1.take F.buf,_,_,i1.drop F.buf,Lib.hid (by have h:=HSTF.out;rw [List.take_length] at h;exact h),Lib.hid ?_, ?_, ?_⟩
       ·rw [HLE.out,List.take_append_drop]
       ·simp;omega
       ·simp;omega
      case measure=>
       obtain ⟨m1,m2⟩:=HSTF.out.r.toRdrW.lens
       obtain ⟨m3,m4⟩:=HLN.out
       rw [m1,m2,m3,m4]
       have:=List.length_pos_iff.2 hi1e
       simp
       omega
  ·rw [e1] at hix
   have hi1:decide ((0:Int)≤i)=true:=by simp
   have hi2:decide ((i:Int) < 0)=false:=by simp
   have HSP:=Lib.hid hsplit
   have HNO:=Lib.hid hno
   clear hsplit hno e1
   have hl:Wi.lineOf tot=(L ++ b1.take i,true,b1.drop (i+1) ++ i1):=by
    rw [hline.out]
    have e:b1 ++ i1=b1.take i ++ (10 :: (b1.drop (i+1) ++ i1)):=by
     conv=>lhs;rw [HSP.out]
     simp
    rw [e,Wi.lineOf_skip _ _ HNO.out,Wi.lineOf_feed]
    simp
   have HLE:=Lib.hid hl
   have HLL:Hid (L.length+i≤(Wi.lineOf tot).1.length):=Lib.hid (by rw [hl];simp;omega)
   clear hl
   go_wp2_with fail
   refine hix.mono ?_
   rintro e w4 ⟨rfl,rfl⟩
   clear hix
   go_wp2_with fail
   obtain ⟨w5,hw5⟩:∃ w5,w4.setCell ⟨rd,4,none⟩ (.bool true)=w5:=⟨_,rfl⟩
   have hb5:RdBlk w5 F.p rd (.slice q b1.length c) 0 true ov1:=by rw [← hw5];exact Blk.set HB.out 4 _
   have hst5:LnSt w w5 F M rd lb rb (.slice pl L.length cl) L b1 0 true ov1 i1 out err:=hst.out.turn (by rw [← hw5];exact (Kept.refl (fun j=>j=rd) _).setCell (.inl rfl) 4 _) hb5 HSL.out hst.out.r.over_
   rw [hw5]
   have b0:=hst5.rb_.cell 0 (v:=.pointer (some ⟨rd,0,none⟩)) rfl
   have b2:=hst5.lb_.cell 0 (v:=.slice pl L.length cl) rfl
   have b3:=hb5.cell 0 (v:=.pointer (some ⟨F.p,0,none⟩)) rfl
   have HLIM:=Lib.hid (lim_any F M i1 out err w5.drew (hst5.r.pr.below (below_drew2 w5)))
   have hsum:IntKind.i64.wrap ((L.length:Int)+(i:Int))=(L.length:Int)+(i:Int):=by simp [IntKind.wrap_i64];omega
   have hfl:=limLine
   have HB5:=Lib.hid hb5
   have HST5:=Lib.hid hst5
   clear hw5 hb5 hst5 a0 a1 a2 a4 z4 HB HSL hst
   go_region_held3 (fun w'=>w'.cell? ⟨lb,0,none⟩=some (.slice pl L.length cl)∧w'.cell? ⟨rb,0,none⟩=some (.pointer (some ⟨rd,0,none⟩))∧w'.cell? ⟨rd,0,none⟩=some (.pointer (some ⟨F.p,0,none⟩))) (first | go_keep | exact HC1.out)
    ((go_at_call 207;refine HLIM.out.mono ?_;rintro e w6 ⟨rfl,hb6⟩;have HW6:=Lib.hid ((below_drew2 w5).trans (hb6.mono (Nat.le_refl _)));have HC1:=Lib.hid (show w6.cell? ⟨lb,0,none⟩=some (.slice pl L.length cl)∧w6.cell? ⟨rb,0,none⟩=some (.pointer (some ⟨rd,0,none⟩))∧w6.cell? ⟨rd,0,none⟩=some (.pointer (some ⟨F.p,0,none⟩)) from ⟨(HW6.out.cell (p:=⟨lb,0,none⟩) HST5.out.lb_.lt).trans b2,(HW6.out.cell (p:=⟨rb,0,none⟩) HST5.out.rb_.lt).trans b0,(HW6.out.cell (p:=⟨rd,0,none⟩) HB5.out.lt).trans b3⟩);clear hb6))
   have hst6:=HST5.out.below HW6.out
   have hb6:RdBlk w6 F.p rd (.slice q b1.length c) 0 true ov1:=HB5.out.keep HW6.out HB5.out.lt
   have HST6:=Lib.hid hst6
   have HB6:=Lib.hid hb6
   clear hst6 hb6 hsum hfl b0 b2 b3
   by_cases hlong:F.line < L.length+i
   ·have hd:decide ((F.line:Int) < (L.length:Int)+(i:Int))=true:=by simp;omega
    have hf:=lineFails_any F M rd b1 0 true ov1 i1 out err w6 HST6.out.r.toRdrW 18 lb rb pl L.length cl (HST6.out.lb_.cell 0 rfl) (HST6.out.rb_.cell 0 rfl) (by have:=HST6.out.base;omega) (by have:=HST6.out.base;omega)
    go_wp2_with fail
    refine hf.mono ?_
    rintro e w7 ⟨rfl,hr7,hm7⟩
    have HR7:=Lib.hid hr7
    have HM7:=Lib.hid hm7
    clear hr7 hm7 hf
    go_wp2_with fail
    go_ret3
    refine ⟨?_,.inl ⟨?_,rfl,_,_,_,_,HR7.out⟩⟩
    ·exact MvR.trans ⟨HST6.out.mv,fun _ h=>.inl h⟩ HM7.out
    ·have:=HLL.out;omega
   ·have hd:decide ((F.line:Int) < (L.length:Int)+(i:Int))=false:=by simp;omega
    have x0:=HST6.out.rb_.cell 0 (v:=.pointer (some ⟨rd,0,none⟩)) rfl
    have x1:=HB6.out.cell 2 (v:=.slice q b1.length c) rfl
    have x2:=HST6.out.lb_.cell 0 (v:=.slice pl L.length cl) rfl
    have hlcap:(i:Int)≤c:=by omega
    have hlp:(0:Int)≤i:=by omega
    have hbs:∀ W,Below w6.heap.size w6 W→Bs W q (b1.take i):=by
     intro W hW
     obtain ⟨v9,hb9,hs9⟩:=HST6.out.sl
     obtain ⟨p9,c9,e9,hbs9,-⟩:=hs9.bs
     have e8:some v9=some (Value.slice q b1.length c):=(hb9.cell 2 rfl).symm.trans (HB6.out.cell 2 rfl)
     rw [e9] at e8
     injection e8 with e8
     injection e8 with e8
     subst e8
     exact (hbs9.below hW (Nat.le_refl _)).take _
    have hlen:(b1.take i).length=i:=by rw [List.length_take];omega
    have hrow:∀ W,Below w6.heap.size w6 W→W.ownsRow w.heap.size 5 1 (.slice pl L.length cl) L.length (L.map u8V):=fun W hW=>own_kept HST6.out.row (Kept.of_below (S:=fun _=>False) hW) fun _ _ h=>h
    have HBASE:Hid (w.heap.size≤w6.drew.heap.size):=Lib.hid (HST6.out.mv.size)
    have HBS:=Lib.hid hbs
    have HLEN:=Lib.hid hlen
    have HROW:=Lib.hid hrow
    clear hbs hlen hrow
    go_upto_region 10 with fail
    go_cut [45,46,47,48,49,50,51,52] (fun x45 x46 x47 x48 x49 x50 x51 x52 wc=>∃ p' c',Hid (LnSt w wc F M rd lb rb (.slice p' (L.length+i) c') (L ++ b1.take i) b1 0 true ov1 i1 out err)∧Hid (RdBlk wc F.p rd (.slice q b1.length c) 0 true ov1))
    case first=>
     go_region_law ((refine step_append_bytes (by rfl) _ _ (by rfl) w.heap.size _ _ _ (by rfl) (HROW.out _ (below_drew2 w6)) q (b1.take i) c (by rw [HLEN.out];rfl) (HBS.out _ (below_drew2 w6)) (by rw [HLEN.out];omega) HBASE.out ?_;rw [HLEN.out];intro p' c' w7 hown7 hg7 ho7;have hlb7:Blk w7 lb #[.slice pl L.length cl] 22:=(hg7.block lb (by simpa using HST6.out.lb_.lt) (fun e=>(HST6.out.rowN lb e.symm).1 rfl)).trans HST6.out.lb_.drew;have d7:=hlb7.cell 0 (v:=.slice pl L.length cl) rfl;have e7:=hlb7.free 0;have HLB7:=Lib.hid hlb7;have HOWN7:=Lib.hid hown7;have HG7:=Lib.hid hg7;have HO7:=Lib.hid ho7;clear hlb7 hown7 hg7 ho7))
     all_goals
      have hg7:=HG7.out
      have hst7:LnSt w w6.drew F M rd lb rb (.slice pl L.length cl) L b1 0 true ov1 i1 out err:=HST6.out.below (below_drew2 w6)
      have hst8:=hst7.grow2 HLEN.out HOWN7.out hg7 HO7.out
      have hb8:RdBlk (w7.setCell ⟨lb,0,none⟩ (.slice p' (L.length+i) c')) F.p rd (.slice q b1.length c) 0 true ov1:=by
       have h7:RdBlk w7 F.p rd (.slice q b1.length c) 0 true ov1:=(hg7.block rd (by simpa using HB6.out.lt) (fun e=>by have:=(HST6.out.row.lt rd e.symm).1;have:=HST6.out.base;omega)).trans (Blk.drew HB6.out)
       exact Blk.setOther h7 (by show rd≠lb;have:=HST6.out.base;omega) _
      go_wp2_with fail
      go_meet
      exact ⟨p',c',Lib.hid hst8,Lib.hid hb8⟩
    case rest=>
     obtain ⟨w9,hw9⟩:∃ w9,w9=wc:=⟨_,rfl⟩
     subst hw9
     obtain ⟨p',c',hst8,hb8⟩:=hcut
     clear HBASE HBS HLEN HROW HC1 HW6 HST6 HB6 HST5 HB5 HLIM x0 x1 x2 hd hlp hlcap
     have y0:=hst8.out.rb_.cell 0 (v:=.pointer (some ⟨rd,0,none⟩)) rfl
     have y4:=hb8.out.cell 4 (v:=.bool true) rfl
     obtain ⟨g,og,hq,hsla,hslb⟩:∃ g og,q=some ⟨g,og,none⟩∧(c=i+1→Sl w9 (fun g=>(F.n0≤g∧¬ M g∧g≠rd)∧(Value.slice p' (L.length+i) c').ownBlock≠some g∧g≠lb∧g≠rb∧BufIs w rd g) (.slice (some ⟨g,og,none⟩) (b1.length - (i+1)) 0) (b1.drop (i+1)))∧(¬ c=i+1→Sl w9 (fun g=>(F.n0≤g∧¬ M g∧g≠rd)∧(Value.slice p' (L.length+i) c').ownBlock≠some g∧g≠lb∧g≠rb∧BufIs w rd g) (.slice (some ⟨g,og+(i+1),none⟩) (b1.length - (i+1)) (c - (i+1))) (b1.drop (i+1))):=by
      obtain ⟨vv,hbv,hsv⟩:=hst8.out.sl
      have e4:some (Value.slice q b1.length c)=some vv:=(hb8.out.cell 2 rfl).symm.trans (hbv.cell 2 rfl)
      obtain rfl:=Option.some.inj e4
      rcases hsv with ⟨h1,-⟩ | ⟨g,og,c2,h1,h2,h3,h4,h5⟩
      ·subst h1;simp at hi0
      ·injection h1 with h1 _ hc2
       subst hc2
       refine ⟨g,og,h1,fun hc1=>?_,fun hc1=>?_⟩
       ·have hz:b1.length - (i+1)=0:=by omega
        have hd:b1.drop (i+1)=[]:=List.drop_of_length_le (by omega)
        rw [hz,hd]
        exact .inr ⟨g,og,0,rfl,Nat.le_refl _,h3,h4,fun j hj=>absurd hj (by simp)⟩
       ·have:=Sl.part (N:=(fun g=>(F.n0≤g∧¬ M g∧g≠rd)∧(Value.slice p' (L.length+i) c').ownBlock≠some g∧g≠lb∧g≠rb∧BufIs w rd g)) (c:=c - (i+1)) h5 h3 h4 (i+1) (b1.length - (i+1)) (by omega) (by omega)
        rw [List.take_of_length_le (by simp)] at this
        exact this
     subst hq
     have y2:=hb8.out.cell 2 (v:=.slice (some ⟨g,og,none⟩) b1.length c) rfl
     have yf2:=hb8.out.free 2
     have hs1':IntKind.i64.wrap ((i:Int)+1)=(i:Int)+1:=by simp [IntKind.wrap_i64];omega
     have hi3:(i:Int)+1≤b1.length:=by omega
     have hi4:(0:Int)≤(i:Int)+1:=by omega
     have hi5:(b1.length:Int)≤c:=by omega
     have y2d:=hb8.out.drew.cell 2 (v:=.slice (some ⟨g,og,none⟩) b1.length c) rfl
     have yf2d:=hb8.out.drew.free 2
     have y0d:=hst8.out.rb_.drew.cell 0 (v:=.pointer (some ⟨rd,0,none⟩)) rfl
     have HSLa:=Lib.hid hsla
     have HSLb:=Lib.hid hslb
     clear hsla hslb
     go_upto_region 12 with fail
     go_cut [57,58,59,60,61,62,63,64,65,66] (fun _ _ _ _ _ _ _ _ _ _ wx=>∃ vv,Hid (wx=(w9.setCell ⟨rd,2,none⟩ vv).drew)∧Hid (Sl w9 (fun g=>(F.n0≤g∧¬ M g∧g≠rd)∧(Value.slice p' (L.length+i) c').ownBlock≠some g∧g≠lb∧g≠rb∧BufIs w rd g) vv (b1.drop (i+1))))
     case first=>
      go_region
      all_goals
       (go_wp2_with fail) <;> (go_meet;first | exact ⟨_,Lib.hid rfl,Lib.hid (HSLa.out (by assumption))⟩ | exact ⟨_,Lib.hid rfl,Lib.hid (HSLb.out (by assumption))⟩)
     case rest=>
      obtain ⟨vv,hwx,hslv⟩:=hcut
      have hbd:RdBlk wc F.p rd vv 0 true ov1:=by rw [hwx.out];exact (Blk.set hb8.out 2 vv).drew
      have hkd:Kept (fun j=>j=rd) w9 wc:=by rw [hwx.out];exact ((Kept.refl (fun j=>j=rd) _).setCell (.inl rfl) 2 _).drew
      have hstd:LnSt w wc F M rd lb rb (.slice p' (L.length+i) c') (L ++ b1.take i) (b1.drop (i+1)) 0 true ov1 i1 out err:=hst8.out.turn hkd hbd hslv.out hst8.out.r.over_
      have hdr:=drop_any F M i1 out err wc hstd.r.pr 1
      have d0:=hstd.rb_.cell 0 (v:=.pointer (some ⟨rd,0,none⟩)) rfl
      have d1:=hbd.cell 0 (v:=.pointer (some ⟨F.p,0,none⟩)) rfl
      have HSTD:=Lib.hid hstd
      have HBD:=Lib.hid hbd
      clear hstd hbd hkd y0 y4 y2 yf2 y2d yf2d y0d hst8 hb8 HSLa HSLb hslv hwx
      go_wp2_with fail
      refine hdr.mono ?_
      rintro e wf ⟨⟨u2',rfl⟩,hpf,hkf⟩
      have hstf:=HSTD.out.pass hpf hkf
      have hbf:RdBlk wf F.p rd vv 0 true ov1:=Blk.kept HBD.out hkf HSTD.out.r.own
      have f0:=hstf.rb_.cell 0 (v:=.pointer (some ⟨rd,0,none⟩)) rfl
      have f1:=hstf.lb_.cell 0 (v:=.slice p' (L.length+i) c') rfl
      have f3:=hbf.cell 3 (v:=.int .i64 0) rfl
      have ff3:=hbf.free 3
      have hlr:lb≠rd:=by have:=hstf.base;omega
      have hlr2:rd≠lb:=hlr.symm
      have HSTF:=Lib.hid hstf
      have HBF:=Lib.hid hbf
      clear hstf hbf hpf hkf hdr d0 d1
      go_wp2_with fail
      go_ret3
      have hsum3:((L.length:Int)+(i:Int))=((L.length+i:Nat):Int):=by omega
      rw [hsum3]
      have hfin:LnSt w (wf.setCell ⟨rd,3,none⟩ (.int .i64 ((L.length+i:Nat):Int))) F M rd lb rb (.slice p' (L.length+i) c') (L ++ b1.take i) (b1.drop (i+1)) (L.length+i) true ov1 i1 out err:=by
       obtain ⟨v9,hb9,hs9⟩:=HSTF.out.sl
       have e9:some v9=some vv:=(hb9.cell 2 rfl).symm.trans (HBF.out.cell 2 rfl)
       obtain rfl:=Option.some.inj e9
       exact HSTF.out.turn ((Kept.refl (fun j=>j=rd) _).setCell (.inl rfl) 3 _) (Blk.set HBF.out 3 _) hs9 HSTF.out.r.over_
      have hl:=HLE.out
      have hlt:(L ++ b1.take i).length=L.length+i:=by simp;omega
      refine ⟨⟨hfin.mv,fun _ h=>.inl h⟩,.inr ⟨?_,.slice p' (L.length+i) c', ?_, ?_,row_cap hfin.row,fun a n c e=>(hfin.buf_ _ e a n c rfl).2.2.2, ?_⟩⟩
      ·rw [hl,hlt];omega
      ·rw [hl];rfl
      ·rw [hl]
       have hown:=hfin.row
       have h1:=Sl.own hown
       exact h1.mono fun g _ hg=>⟨hg.1,fun v2 hv2 a n c e e2=>(hfin.buf_ v2 hv2 a n c e).1 (e2 ▸ hg.2)⟩
      ·rw [hl]
       exact ⟨_,_,_,_,hfin.r,rfl⟩
end Go.Proofs.YtefpcacnblaokaaGreatDoor

/-
  The walk of stepio.Write to descriptor 1. Condition: a process that runs; lengths.
-/
set_option maxRecDepth 100000
set_option maxHeartbeats 4000000
namespace Go.Proofs.YtefpcacnblaokaaGreatDoor
open Go.RowKit Go.Shelf Go.Maps
def lenV:Value→Nat
 | .slice _ n _=>n
 | _=>0
theorem wrAll_any1 (F:Fx) (M:Nat→Prop) (inp out err xs:Bts) (v:Value) (w:World) (h:PrAt w F M inp out err) (hx:Sl w (fun g=>¬ M g) v xs) (hbig:out.length+xs.length≤4294967296) :
  Calls Tryz.prog 127 #[.pointer (some ⟨F.p,0,none⟩),.int .i64 1,v] w fun e w'=>e=.returned (.int .i64 0)∧∃ M',PrAt w' F M' inp (out ++ xs) err∧Mv M M' w w':=by
 by_cases hx0:xs=[]
 ·subst hx0
  obtain ⟨p,c,rfl,-,-⟩:=hx.bs
  have H:=Lib.hid h
  clear h hx
  go_enter Tryz.func127,Tryz.ntmps127
  go_wp2_with fail
  go_loopw [2,7,8] (fun x2 _x7 _x8 wr=>x2=.slice p 0 c∧wr=w) (fun _ _ _ _=>0)
  case atStart=>exact ⟨rfl,rfl⟩
  case round=>
   obtain ⟨rfl,rfl⟩:=hrel
   go_wp2_with fail
   go_ret
   refine ⟨rfl,M, ?_,Mv.refl _ _⟩
   rw [List.append_nil]
   exact H.out
 ·obtain ⟨g,o,c,rfl,hcap,hg,hN,hc⟩:∃ g o c,v=.slice (some ⟨g,o,none⟩) xs.length c∧xs.length≤c∧g < w.heap.size∧¬ M g∧∀ i,i < xs.length→w.cell? ⟨g,o+i,none⟩=some (.int .u8 (xs.getD i 0).toNat):=by
   rcases hx with ⟨h1,-⟩ | h1
   ·exact absurd h1 hx0
   ·exact h1
  have hw:=write_any1 F M inp out err xs (some ⟨g,o,none⟩) c w h (fun _=>⟨g,o,rfl,hc⟩) (fun a e=>by injection e with e;subst e;exact hN) hcap hx0 hbig
  have hpos:0 < xs.length:=List.length_pos_iff.2 hx0
  have hl1:(xs.length:Int)≤c:=by omega
  have hl2:(0:Int)≤xs.length:=by omega
  have hl3:(xs.length:Int)≤xs.length:=Int.le_refl _
  have hl4:decide ((0:Int) < xs.length)=true:=by simp;omega
  clear hx hc h
  go_enter Tryz.func127,Tryz.ntmps127
  go_wp2_with fail
  go_loopw [2,7,8] (fun x2 _x7 _x8 wr=>(x2=.slice (some ⟨g,o,none⟩) xs.length c∧wr=w)∨((∃ p' c',x2=.slice p' 0 c')∧Hid (∃ M',PrAt wr F M' inp (out ++ xs) err∧Mv M M' w wr))) (fun x2 _ _ _=>lenV x2)
  case atStart=>exact .inl ⟨rfl,rfl⟩
  case round=>
   rcases hrel with ⟨rfl,rfl⟩ | ⟨⟨p',c',rfl⟩,hf⟩
   ·go_wp2_with fail
    refine hw.mono ?_
    rintro e w1 ⟨rfl,hf⟩
    have HF:=Lib.hid hf
    clear hf hw
    (go_wp2_with fail) <;> (go_roundw;(case rel=>exact .inr ⟨⟨_,_,rfl⟩,HF⟩);(case measure=>simp [lenV];omega))
   ·go_wp2_with fail
    go_ret
    exact ⟨rfl,hf.out⟩
end Go.Proofs.YtefpcacnblaokaaGreatDoor

/-
  The walk of stepio.Write to descriptor 2. Condition: a process that runs; lengths.
-/
set_option maxRecDepth 100000
set_option maxHeartbeats 4000000
namespace Go.Proofs.YtefpcacnblaokaaGreatDoor
open Go.RowKit Go.Shelf Go.Maps
theorem wrAll_any2 (F:Fx) (M:Nat→Prop) (inp out err xs:Bts) (v:Value) (w:World) (h:PrAt w F M inp out err) (hx:Sl w (fun g=>¬ M g) v xs) (hbig:err.length+xs.length≤4294967296) :
  Calls Tryz.prog 127 #[.pointer (some ⟨F.p,0,none⟩),.int .i64 2,v] w fun e w'=>e=.returned (.int .i64 0)∧∃ M',PrAt w' F M' inp out (err ++ xs)∧Mv M M' w w':=by
 by_cases hx0:xs=[]
 ·subst hx0
  obtain ⟨p,c,rfl,-,-⟩:=hx.bs
  have H:=Lib.hid h
  clear h hx
  go_enter Tryz.func127,Tryz.ntmps127
  go_wp2_with fail
  go_loopw [2,7,8] (fun x2 _x7 _x8 wr=>x2=.slice p 0 c∧wr=w) (fun _ _ _ _=>0)
  case atStart=>exact ⟨rfl,rfl⟩
  case round=>
   obtain ⟨rfl,rfl⟩:=hrel
   go_wp2_with fail
   go_ret
   refine ⟨rfl,M, ?_,Mv.refl _ _⟩
   rw [List.append_nil]
   exact H.out
 ·obtain ⟨g,o,c,rfl,hcap,hg,hN,hc⟩:∃ g o c,v=.slice (some ⟨g,o,none⟩) xs.length c∧xs.length≤c∧g < w.heap.size∧¬ M g∧∀ i,i < xs.length→w.cell? ⟨g,o+i,none⟩=some (.int .u8 (xs.getD i 0).toNat):=by
   rcases hx with ⟨h1,-⟩ | h1
   ·exact absurd h1 hx0
   ·exact h1
  have hw:=write_any2 F M inp out err xs (some ⟨g,o,none⟩) c w h (fun _=>⟨g,o,rfl,hc⟩) (fun a e=>by injection e with e;subst e;exact hN) hcap hx0 hbig
  have hpos:0 < xs.length:=List.length_pos_iff.2 hx0
  have hl1:(xs.length:Int)≤c:=by omega
  have hl2:(0:Int)≤xs.length:=by omega
  have hl3:(xs.length:Int)≤xs.length:=Int.le_refl _
  have hl4:decide ((0:Int) < xs.length)=true:=by simp;omega
  clear hx hc h
  go_enter Tryz.func127,Tryz.ntmps127
  go_wp2_with fail
  go_loopw [2,7,8] (fun x2 _x7 _x8 wr=>(x2=.slice (some ⟨g,o,none⟩) xs.length c∧wr=w)∨((∃ p' c',x2=.slice p' 0 c')∧Hid (∃ M',PrAt wr F M' inp out (err ++ xs)∧Mv M M' w wr))) (fun x2 _ _ _=>lenV x2)
  case atStart=>exact .inl ⟨rfl,rfl⟩
  case round=>
   rcases hrel with ⟨rfl,rfl⟩ | ⟨⟨p',c',rfl⟩,hf⟩
   ·go_wp2_with fail
    refine hw.mono ?_
    rintro e w1 ⟨rfl,hf⟩
    have HF:=Lib.hid hf
    clear hf hw
    (go_wp2_with fail) <;> (go_roundw;(case rel=>exact .inr ⟨⟨_,_,rfl⟩,HF⟩);(case measure=>simp [lenV];omega))
   ·go_wp2_with fail
    go_ret
    exact ⟨rfl,hf.out⟩
end Go.Proofs.YtefpcacnblaokaaGreatDoor

/-
  The walks of text.Word, text.Diag. Condition: the error is one of those that there are.
-/
set_option maxRecDepth 100000
set_option maxHeartbeats 4000000
namespace Go.Proofs.YtefpcacnblaokaaGreatDoor
open Go.RowKit Go.Shelf Go.Maps
def wordsL:List Bts:=[[101,114,114,111,114],[110,111,32,115,117,99,104,32,102,105,108,101],[102,105,108,101,32,101,120,105,115,116,115],[110,111,116,32,97,32,100,105,114,101,99,116,111,114,121],[105,115,32,97,32,100,105,114,101,99,116,111,114,121],[100,105,114,101,99,116,111,114,121,32,110,111,116,32,101,109,112,116,121],[110,111,32,115,112,97,99,101,32,108,101,102,116],[105,110,112,117,116,47,111,117,116,112,117,116,32,101,114,114,111,114],[98,114,111,107,101,110,32,112,105,112,101],[105,110,116,101,114,114,117,112,116,101,100],[110,111,116,32,110,111,119],[98,97,100,32,100,101,115,99,114,105,112,116,111,114],[116,111,111,32,109,97,110,121],[98,97,100,32,110,97,109,101],[116,111,111,32,100,101,101,112],[98,117,115,121],[105,110,118,97,108,105,100],[98,97,100,32,97,114,103,117,109,101,110,116],[108,105,110,101,32,116,111,111,32,108,111,110,103],[117,115,97,103,101],[98,97,100,32,114,101,103,117,108,97,114,32,101,120,112,114,101,115,115,105,111,110],[98,97,100,32,115,99,114,105,112,116],[110,111,116,32,102,111,117,110,100],[115,97,109,101,32,102,105,108,101],[98,97,100,32,115,121,110,116,97,120],[110,111,116,32,97,32,110,117,109,98,101,114],[110,111,116,32,105,110,32,111,114,100,101,114]]
def wordOf (e:Nat):Bts:=wordsL.getD e []
def diagOf (tag op:Bts) (e:Nat):Bts:=tag ++ [58,32] ++ (if op=[] then [] else op ++ [58,32]) ++ wordOf e ++ [10]
theorem Blk.there {w:World} {b:Nat} {cs:Array Value} {t:TypeId} (h:Blk w b cs t) (n:Nat) (hn:n≤cs.size):w.there b 0 n:=fun j hj=>by
 rw [Nat.zero_add,h.cell j (Array.getElem?_eq_getElem (show j < cs.size by omega))]
 exact ⟨rfl,h.free j⟩
theorem word_any (e:Nat) (he:e < 27) (w:World):Calls Tryz.prog 202 #[.int .i64 e] w fun x w'=>x=.returned (strV (wordOf e))∧Below w.heap.size w w':=by
 have h1:decide ((e:Int) < 0)=false:=by simp
 have h2:decide ((27:Int)≤e)=false:=by simp;omega
 have h3:(e:Int) < 27:=by omega
 have h4:(0:Int)≤e:=by omega
 have hat:((wordsL.map strV).toArray)[e]?=some (strV (wordOf e)):=by
  have hl:e < wordsL.length:=he
  simp only [List.getElem?_toArray,List.getElem?_map]
  rw [List.getElem?_eq_getElem hl]
  simp [wordOf,List.getD_eq_getElem?_getD,List.getElem?_eq_getElem hl]
 have hinfo:(Tryz.prog.info? 368).map (·.size)=some 27:=by kernel_rfl
 have hone:(wordsL.map strV).toArray.all (·.oneCell')=true:=all_oneCell_toArray (by intro v hv;obtain ⟨s,-,rfl⟩:=List.mem_map.1 hv;rfl)
 have HAT:=Lib.hid hat
 have HI:=Lib.hid hinfo
 have HONE:=Lib.hid hone
 clear hat hinfo hone
 obtain ⟨s,hs⟩:∃ s,strV (wordOf e)=.string s:=⟨_,rfl⟩
 rw [hs] at HAT ⊢
 go_enter Tryz.func202,Tryz.ntmps202
 go_wp2_with (refine wpList_store_mid rfl 368 _ _ rfl w.heap.size 0 _ rfl rfl (Blk.there (Blk.new w _ _) _ (by decide)) HI.out HONE.out ?_;generalize hW:World.setCells _ w.heap.size 0 _=w2;refine Hid.out ?_)
 have hb2:Blk w2 w.heap.size (wordsL.map strV).toArray 368:=by rw [← hW];exact Blk.setAll (Blk.new w _ _) rfl
 have hbel:Below w.heap.size w w2:=by rw [← hW];exact (Kept.setCells (S:=fun _=>False) (.inr (Nat.le_refl _)) _ 0 _ ((Kept.refl _ w).alloc _)).below
 clear hW
 have hc:=hb2.cell e HAT.out
 have HBL:=Lib.hid hbel
 clear hb2 hbel
 refine Lib.hid ?_
 go_wp2_with fail
 go_ret
 exact ⟨rfl,HBL.out⟩
theorem conv_facts (l:Bts) (w:World):∃ c w1,(convert 9 22 (.string ⟨l.toArray⟩)).run Tryz.prog w=.ok (.slice (some ⟨w.heap.size,0,none⟩) l.length c) w1∧l.length≤c∧Below w.heap.size w w1∧Bs w1 (some ⟨w.heap.size,0,none⟩) l∧w.heap.size < w1.heap.size:=by
 have hsz:(⟨l.toArray⟩:ByteArray).size=l.length:=by simp [ByteArray.size]
 have h:=Lib.run_convert_string_bytes (P:=Tryz.prog) w 9 22 5 ⟨l.toArray⟩ Tryz.underlying9 Tryz.underlying22 Tryz.underlying5
 rw [hsz] at h
 refine ⟨_,_,h, ?_,Lib.bytesWorld_below w 5 ⟨l.toArray⟩,fun hl=>⟨_,0,rfl,fun i hi=>?_⟩, ?_⟩
 ·exact grownCap_ge _ _ _ _
 ·rw [Nat.zero_add]
  exact Lib.bytesWorld_cell w 5 ⟨l.toArray⟩ i (by rw [hsz];exact hi)
 ·simp [Lib.bytesWorld,World.freeze]
theorem str_app (a b:Bts):(⟨a.toArray⟩:ByteArray) ++ ⟨b.toArray⟩=⟨(a ++ b).toArray⟩:=by
 apply ByteArray.ext;simp
theorem wordOf_len (e:Nat):(wordOf e).length≤30:=by
 have h:∀ x ∈ wordsL,x.length≤30:=by decide
 unfold wordOf
 rw [List.getD_eq_getElem?_getD]
 cases hx:wordsL[e]? with
 | none=>simp
 | some x=>simpa using h x (List.mem_of_getElem? hx)
theorem diag_any (tag op:Bts) (e:Nat) (he:e < 27) (h1:tag.length≤1000000000) (h2:op.length≤1000000000) (w:World) :
  Calls Tryz.prog 128 #[.string ⟨tag.toArray⟩,.string ⟨op.toArray⟩,.int .i64 e] w fun x w'=>∃ v,x=.returned v∧Sl w' (fun g=>w.heap.size≤g) v (diagOf tag op e)∧Below w.heap.size w w':=by
 have hw:=word_any e he w
 unfold strV at hw
 have hwl:=wordOf_len e
 by_cases hop:op=[]
 ·subst hop
  have hA:(9223372036854775807 < tag.length+2+(wordOf e).length)=False:=by simp;omega
  have hB:(9223372036854775807 < tag.length+2+(wordOf e).length+1)=False:=by simp;omega
  go_enter Tryz.func128,Tryz.ntmps128
  go_wp2_with fail
  refine hw.mono ?_
  rintro x w1 ⟨rfl,hb1⟩
  obtain ⟨c,w2,hcv,hcl,hb2,hbs,hlt⟩:=conv_facts (diagOf tag [] e) w1
  have heq:(⟨tag.toArray⟩:ByteArray) ++ ⟨#[58,32]⟩ ++ ⟨#[]⟩ ++ ⟨(wordOf e).toArray⟩ ++ ⟨#[10]⟩=⟨(diagOf tag [] e).toArray⟩:=by
   apply ByteArray.ext;simp [diagOf]
  rw [← heq] at hcv
  have HBS:=Lib.hid hbs
  have HB2:=Lib.hid hb2
  have HB1:=Lib.hid hb1
  clear hbs hb1 hb2 heq hw
  go_wp2_with fail
  go_ret
  refine ⟨_,rfl, ?_,HB1.out.trans (HB2.out.mono HB1.out.size)⟩
  have hpos:0 < (diagOf tag [] e).length:=by simp [diagOf];omega
  obtain ⟨b,o,hq,hc⟩:=HBS.out hpos
  injection hq with hq
  injection hq with hq1 hq2
  subst hq1 hq2
  exact .inr ⟨_,0,c,rfl,hcl,hlt,HB1.out.size,hc⟩
 ·have hne:((⟨op.toArray⟩:ByteArray) == ⟨#[]⟩)=false:=by rw [str_nil];cases op with | nil=>exact absurd rfl hop | cons _ _=>rfl
  have hem:op.isEmpty=false:=by cases op with | nil=>exact absurd rfl hop | cons _ _=>rfl
  have hA:(9223372036854775807 < tag.length+2+(op.length+2)+(wordOf e).length)=False:=by simp;omega
  have hB:(9223372036854775807 < tag.length+2+(op.length+2)+(wordOf e).length+1)=False:=by simp;omega
  go_enter Tryz.func128,Tryz.ntmps128
  go_wp2_with fail
  refine hw.mono ?_
  rintro x w1 ⟨rfl,hb1⟩
  obtain ⟨c,w2,hcv,hcl,hb2,hbs,hlt⟩:=conv_facts (diagOf tag op e) w1
  have heq:(⟨tag.toArray⟩:ByteArray) ++ ⟨#[58,32]⟩ ++ (⟨op.toArray⟩ ++ ⟨#[58,32]⟩) ++ ⟨(wordOf e).toArray⟩ ++ ⟨#[10]⟩=⟨(diagOf tag op e).toArray⟩:=by
   apply ByteArray.ext;simp [diagOf,hop]
  rw [← heq] at hcv
  have HBS:=Lib.hid hbs
  have HB2:=Lib.hid hb2
  have HB1:=Lib.hid hb1
  clear hbs hb1 hb2 heq hw
  go_wp2_with fail
  go_ret
  refine ⟨_,rfl, ?_,HB1.out.trans (HB2.out.mono HB1.out.size)⟩
  have hpos:0 < (diagOf tag op e).length:=by simp [diagOf];omega
  obtain ⟨b,o,hq,hc⟩:=HBS.out hpos
  injection hq with hq
  injection hq with hq1 hq2
  subst hq1 hq2
  exact .inr ⟨_,0,c,rfl,hcl,hlt,HB1.out.size,hc⟩
end Go.Proofs.YtefpcacnblaokaaGreatDoor

/-
  The walks of Say, Feed, Open of a dash, Close of descriptor 0. Conditions: a process that runs, with arguments; lengths.
-/
set_option maxRecDepth 100000
set_option maxHeartbeats 4000000
namespace Go.Proofs.YtefpcacnblaokaaGreatDoor
open Go.RowKit Go.Shelf Go.Maps
theorem strs_cell {w:World} {B:Nat} {v:Value} {l:List Bts} (h:StrsOwn w B v l) (i:Nat) (hi:i < l.length):∃ g c,v=.slice (some ⟨g,0,none⟩) l.length c∧l.length≤c∧B≤g∧g < w.heap.size∧∀ j,j < l.length→w.cell? ⟨g,j,none⟩=some (strV (l.getD j [])):=by
 rcases h.2 with ⟨-,h2⟩ | ⟨g,cap,cur,rfl,hb,hblk,hc,r⟩
 ·omega
 ·refine ⟨g,cap,rfl,hc,hb,lt_of_block hblk,fun j hj=>?_⟩
  have:=h.cellAt j (by omega)
  rw [this]
  simp [List.getD_eq_getElem?_getD,hj]
theorem say_any (F:Fx) (M:Nat→Prop) (inp out err a0 op:Bts) (rest:List Bts) (e:Nat) (he:e < 27) (w:World) (h:PrAt w F M inp out err) (ha:F.args=a0 :: rest) (h1:a0.length≤1000000000) (h2:op.length≤1000000000) (hbig:err.length+(diagOf a0 op e).length≤4294967296) :
  Calls Tryz.prog 88 #[.pointer (some ⟨F.p,0,none⟩),.string ⟨op.toArray⟩,.int .i64 e] w fun x w'=>(∃ v,x=.returned v)∧∃ M',PrAt w' F M' inp out (err ++ diagOf a0 op e)∧Mv M M' w w':=by
 have hargs:=args_any F M inp out err w h
 have hdiag:=fun w=>diag_any a0 op e he h1 h2 w
 rw [ha] at hargs
 have H:=Lib.hid h
 clear h
 go_enter Tryz.func88,Tryz.ntmps88
 go_wp2_with fail
 refine hargs.mono ?_
 rintro x w1 ⟨v,rfl,ho1,hb1⟩
 obtain ⟨g,c,rfl,-,-,-,hc⟩:=strs_cell ho1 0 (by simp)
 have c0:=hc 0 (by simp)
 simp only [List.getD_cons_zero,strV] at c0
 have hlen:(0:Int) < ((a0 :: rest).length:Nat):=by simp
 have HB1:=Lib.hid hb1
 clear hargs ho1 hc hb1
 generalize (a0 :: rest).length=n at *
 go_wp2_with fail
 refine (hdiag _).mono ?_
 rintro x w2 ⟨v,rfl,hs2,hb2⟩
 obtain ⟨pv,cv,rfl,-⟩:=hs2.bs
 have hb12:=HB1.out.trans (hb2.mono HB1.out.size)
 have hw:=wrAll_any2 F M inp out err (diagOf a0 op e) _ w2 (H.out.below hb12) (hs2.mono fun g _ hg em=>by
  have h1:w1.heap.size≤g:=hg
  have:=HB1.out.size
  have:=H.out.lt g em
  omega) hbig
 have HB:=Lib.hid hb12
 clear hs2 hb2 hb12 hdiag c0
 go_wp2_with fail
 refine hw.mono ?_
 rintro x w3 ⟨rfl,M',hp3,hm3⟩
 have HP3:=Lib.hid hp3
 have HM3:=Lib.hid hm3
 clear hp3 hm3 hw
 go_wp2_with fail
 refine bodyPost_end (results_none rfl _ _ _) rfl ⟨⟨_,rfl⟩,M',HP3.out,(Mv.below HB.out).trans HM3.out⟩
theorem openDash_any (p:Option Addr) (w:World) :
  Calls Tryz.prog 129 #[.pointer p,.string ⟨#[45]⟩] w fun e w'=>e=.returned (.tuple #[.int .i64 0,.int .i64 0])∧w'=w:=by
 go_enter Tryz.func129,Tryz.ntmps129
 go_wp2_with fail
 go_ret2
 exact ⟨rfl,rfl⟩
end Go.Proofs.YtefpcacnblaokaaGreatDoor
