/-
  Texts of this seat put together: Sd42, Sd43, Sd44, SdLaw2, SdLaw3.
-/
import Derived.Test.YtefpcacnblaokaaGreatDoorQ32
import Derived.Test.YtefpcacnblaokaaGreatDoorQ34
import Derived.Test.YtefpcacnblaokaaGreatDoorQ12
import Derived.Deep.RegionLaw
import Derived.Test.YtefpcacnblaokaaGreatDoorQ26

/-
  The walk of sed's main. Conditions: a process called sed; options without e and f; one operand, a script that the spec tells and that begins with no number sign; what the library's variables hold.
-/
set_option maxRecDepth 100000
set_option maxHeartbeats 16000000
namespace Go.Proofs.YtefpcacnblaokaaGreatDoor
open Go.RowKit Go.Shelf Go.Maps
theorem join1_any (g o c:Nat) (s:Bts) (sep:Value) (w:World) (h:w.cell? ⟨g,o,none⟩=some (.string ⟨s.toArray⟩)) :
  Calls Tryz.prog 90 #[.slice (some ⟨g,o,none⟩) 1 c,sep] w fun e w'=>e=.returned (.string ⟨s.toArray⟩)∧w'=w:=by
 go_enter Tryz.func90,Tryz.ntmps90
 go_wp2_with fail
 go_ret
 exact ⟨rfl,rfl⟩
def resF (q:Sd.St):Int × Bts × Bts:=(if q.failed then 1 else 0,q.out,errF q.failed)
theorem Mst.main {w0 w:World} {F:Fx} {m:Mfx} {M:Nat→Prop} {q:Sd.St} (h:Mst w F m q) (h0:m.W0=w0) (hM:m.M0=M):w.cell? ⟨m.mb,1,none⟩=some (.pointer (some ⟨m.ib,0,none⟩))∧w.cell? ⟨m.ib,6,none⟩=some (.bool q.failed)∧∃ inp' M',PrAt w F M' inp' q.out (errF q.failed)∧Mv M M' w0 w:=by
 obtain ⟨U,R,k,c,o,hm,-⟩:=h
 refine ⟨Blk.cell hm.blk 1 rfl, ?_, ?_⟩
 ·rcases hm.ina.st with ⟨-,hf,⟨g,c,hb,-⟩,-⟩ | ⟨-,hf,rd,M,-,-,⟨p,c,hb⟩,-⟩ | ⟨-,-,⟨p,c,old,hb⟩,-⟩
  ·rw [hf];exact Blk.cell hb 6 rfl
  ·rw [hf];exact Blk.cell hb 6 rfl
  ·exact Blk.cell hb 6 rfl
 ·obtain ⟨M',inp',hM',hp⟩:=hm.ina.pr
  subst h0
  subst hM
  exact ⟨inp',M',hp,hm.base,fun j hj=>hm.new j (.inl (hM' j hj))⟩
theorem sedMain_any (F:Fx) (M:Nat→Prop) (inp:Bts) (rest:List Bts) (ha:F.args=tagSed :: rest) (hrest:rest≠[]) (htot:totL rest≤1000000) (L:List (UInt8 × Bts)) (script:Bts) (hp:Op.parse [110,101,58,102,58] rest=some (L,[script])) (hLN:L.length≤1000000) (hL1:Op.has L 101=false) (hL2:Op.has L 102=false)
  (hsl:script.length≤900000) (hs35:∀ r,script≠35 :: r) (hg:Glo F.w0) (hin:inp.length≤100000) (cs:List Sd.Cmd) (hrd:Sd.read script=.ok cs) (hok:ScriptOk cs) (gf f:Nat) (q:Sd.St) (hrun:Sd.run F.line (Op.has L 110) cs gf f (Sd.begun cs inp)=some q)
  (w:World) (h:PrAt w F M inp [] []) :
  Calls Tryz.prog 52 #[.pointer (some ⟨F.p,0,none⟩)] w fun e w'=>MainS F M (resF q) w e w':=by
 have hargs:=args_any F M inp [] [] w h
 rw [ha] at hargs
 have hgw:Glo w:=hg.from h.fix.old
 have H:=Lib.hid h
 have HG:=Lib.hid hgw
 have HP:=Lib.hid hp
 have HRD:=Lib.hid hrd
 have HRUN:=Lib.hid hrun
 have HOK:=Lib.hid hok
 have HS35:=Lib.hid hs35
 have hr1:1≤rest.length:=List.length_pos_iff.2 hrest
 clear h hgw hg hp hrest hrd hrun hok hs35
 go_enter Tryz.func52,Tryz.ntmps52
 go_wp2_with fail
 refine hargs.mono ?_
 rintro e w1 ⟨v,rfl,ho1,hb1⟩
 clear hargs
 obtain ⟨g,c,rfl,hcl,-,hgl,hc⟩:=strs_cell ho1 0 (by simp)
 have hss:Ss w1 (some ⟨g,1,none⟩) rest:=fun _=>⟨g,1,rfl,fun i hi=>by
  have:=hc (i+1) (by simp;omega)
  rw [Nat.add_comm 1 i,this]
  simp⟩
 simp only [List.length_cons] at hcl
 have hpa:=parse_any [110,101,58,102,58] (by decide) rest (some ⟨g,1,none⟩) (c - 1) (by omega) htot w1 hss
 rw [HP.out] at hpa
 have f1:(1:Int)≤c:=by omega
 have f2:1≤c:=by omega
 have f3:¬ c - 1=0:=by omega
 have f4:¬ c=1:=by omega
 have f5:¬ c≤1:=by omega
 have HB1:=Lib.hid hb1
 clear ho1 hb1 hc hss
 go_wp2_with fail
 refine hpa.mono ?_
 rintro e w2 ⟨hb2,lv,ov,rfl,hl2,ho2⟩
 obtain ⟨pl,cl,rfl,hlc,hat⟩:=hl2.at_
 obtain ⟨gn,cn,rfl,hcn,hgn0,hgnl,hcell⟩:=strs_cell ho2 0 (by simp)
 have n0:=hcell 0 (by simp)
 simp only [List.getD_cons_zero,strV,List.length_cons,List.length_nil,Nat.zero_add] at n0 hcn
 have HB2:=Lib.hid (HB1.out.trans (hb2.mono HB1.out.size))
 have HAT:=Lib.hid hat
 have HN0:=Lib.hid n0
 have hh1:=hasOpt_any L 101 pl cl hlc hLN w2 hat
 rw [hL1] at hh1
 clear hpa hb2 hl2 ho2 hat f1 f2 f3 f4 f5 hcell n0
 go_wp2_with fail
 refine hh1.mono ?_
 rintro e w3 ⟨rfl,hb3⟩
 have hh2:=hasOpt_any L 102 pl cl hlc hLN w3 (HAT.out.below hb3)
 rw [hL2] at hh2
 have HB3:=Lib.hid hb3
 clear hh1 hb3
 go_wp2_with fail
 refine hh2.mono ?_
 rintro e w4 ⟨rfl,hb4⟩
 have HB24:=Lib.hid (HB3.out.trans (hb4.mono HB3.out.size))
 clear hh2 hb4
 go_wp2_with fail
 go_loopw [9,45,51,58] (fun _ x45 _ _ wr=>∃ i:Nat,x45=.int .i64 i∧i≤L.length∧Hid (Below w2.heap.size w2 wr)) (fun _ x45 _ _ _=>L.length - (intOf x45).toNat)
 case atStart=>exact ⟨0,rfl,Nat.zero_le _,HB24⟩
 case round=>
  obtain ⟨i,rfl,hi,HBR⟩:=hrel
  by_cases hlt:i < L.length
  ·obtain ⟨b,o,rfl,hbl,hcc⟩:=HAT.out.below HBR.out (by omega)
   obtain ⟨d0,d1⟩:=hcc i hlt
   have hmem:L.getD i (0,[]) ∈ L:=by
    rw [List.getD_eq_getElem?_getD,List.getElem?_eq_getElem hlt]
    exact List.getElem_mem _
   have hne:∀ ch:UInt8,Op.has L ch=false→¬ (L.getD i (0,[])).1=ch:=fun ch hx e=>by
    have:Op.has L ch=true:=by
     unfold Op.has
     rw [List.any_eq_true]
     exact ⟨_,hmem,by show ((L.getD i (0,[])).1 == ch)=true;rw [e];exact beq_self_eq_true _⟩
    rw [hx] at this
    cases this
   have n1:=hne 101 hL1
   have n2:=hne 102 hL2
   generalize hoi:L.getD i (0,[])=oi at *
   have k1:(((oi.1.toNat:Nat):Int) == 101)=false:=by
    rw [Bool.eq_false_iff]
    simp only [ne_eq,beq_iff_eq]
    exact u8_lit (n:=101) n1 (by decide)
   have k2:(((oi.1.toNat:Nat):Int) == 102)=false:=by
    rw [Bool.eq_false_iff]
    simp only [ne_eq,beq_iff_eq]
    exact u8_lit (n:=102) n2 (by decide)
   have hw1:IntKind.i64.wrap ((i:Int)+1)=(i:Int)+1:=wrap_i64 (by omega) (by omega)
   have hlti:(i:Int) < (L.length:Int):=by omega
   have hbx:=HBR.out.alloc HBR.out.size (.cells #[.int .u8 oi.1.toNat,strV oi.2] 203)
   unfold strV at d1 hbx
   have HBX:=Lib.hid hbx
   clear hcc hmem hne n1 n2 hoi hbx
   go_wp2_with fail
   exact ⟨⟨i+1,by go_num,by omega,HBX⟩,by show L.length - ((i:Int)+1).toNat < L.length - (i:Int).toNat;omega⟩
  ·obtain rfl:i=L.length:=by omega
   have n5:wr.cell? ⟨gn,0,none⟩=some (.string ⟨script.toArray⟩):=(HBR.out.cell (p:=⟨gn,0,none⟩) hgnl).trans HN0.out
   have f1:(1:Int)≤cn:=by omega
   have HBW:=Lib.hid (HB2.out.trans (HBR.out.mono HB2.out.size))
   go_upto_region 21 with fail
   go_region
   have n6:wr.drew.cell? ⟨gn,0,none⟩=some (.string ⟨script.toArray⟩):=n5
   generalize hpa:(if cn=1 then some (⟨gn,0,none⟩:Addr) else some ⟨gn,1,none⟩)=pa
   obtain ⟨w5,hw5⟩:∃ w5,wr.drew=w5:=⟨_,rfl⟩
   have hb5:Below w.heap.size w w5:=by rw [← hw5];exact HBW.out.trans ((below_drew2 wr).mono HBW.out.size)
   have hat5:OptsAt w5 pl L:=by
    rw [← hw5]
    exact (HAT.out.below HBR.out).below (below_drew2 wr)
   rw [hw5] at n6 ⊢
   clear n5 hpa hw5
   have hg5:=HG.out.below hb5
   have hsr:=sread_any script (.ok cs) HRD.out (by intro h;cases h) hsl w5 hg5 hg5.big
   unfold SReadPost at hsr
   have HB5:=Lib.hid hb5
   have HAT5:=Lib.hid hat5
   clear hb5 hat5 hg5
   go_wp2_with fail
   refine (join1_any gn 0 cn script _ w5 n6).mono ?_
   rintro e w6 ⟨rfl,hw6⟩
   rw [hw6]
   clear hw6 n6
   go_wp2_with fail
   refine hsr.mono ?_
   rintro e w7 ⟨⟨v7,qs,rfl,hscr⟩,hb7⟩
   have hsh:∃ p7 c7,v7=.slice p7 cs.length c7:=by
    obtain ⟨B,hr⟩:=hscr.row
    rcases hr.2 with ⟨e,e2⟩ | ⟨g9,cap9,cs9,e,-⟩
    ·exact ⟨_,_,by rw [e,e2]⟩
    ·exact ⟨_,_,e⟩
   obtain ⟨p7,c7,rfl⟩:=hsh
   obtain ⟨w8,hw8⟩:∃ w8,w7.alloc (.cells #[.string ⟨#[45]⟩] 9)=w8:=⟨_,rfl⟩
   have hb78:Below w7.heap.size w7 w8:=by rw [← hw8];exact (Below.refl _ _).alloc (Nat.le_refl _) _
   have k8:Blk w8 w7.heap.size #[.string ⟨#[45]⟩] 9:=by rw [← hw8];exact Blk.new _ _ _
   have hb58:Below w5.heap.size w5 w8:=hb7.trans (hb78.mono hb7.size)
   have hhn:=hasOpt_any L 110 pl cl hlc hLN w8 (HAT5.out.below hb58)
   have hbgn:Hid (∀ w9:World,Below w8.heap.size w8 w9→Calls Tryz.prog 92 #[.pointer (some ⟨F.p,0,none⟩),.slice p7 cs.length c7,.bool (Op.has L 110),.slice (some ⟨w7.heap.size,0,none⟩) 1 1] w9 fun e w'=>∃ m:Mfx,e=.returned (.pointer (some ⟨m.mb,0,none⟩))∧m.cs=cs∧m.quiet=Op.has L 110∧m.W0=w∧m.M0=M∧Mst w' F m (Sd.begun cs inp)):=Lib.hid fun w9 hb89=>by
    have hb59:=hb58.trans (hb89.mono hb58.size)
    have hb9:Below w.heap.size w w9:=HB5.out.trans (hb59.mono HB5.out.size)
    have hb79:Below w7.heap.size w7 w9:=hb78.trans (hb89.mono hb78.size)
    have s5:=HB5.out.size
    have s7:=hb7.size
    have s9:=hb79.size
    exact begun_any F M (fun k=>w5.heap.size≤k∧k < w7.heap.size) w inp _ qs cs (Op.has L 110) w7.heap.size 1 w9 (H.out.below hb9) hb9 H.out.lt H.out.n0 (hscr.kept (Kept.of_below (S:=fun _=>False) hb79) fun _ _ h=>h) (fun j hj=>⟨by omega,by omega⟩) ((k8.keep hb89 k8.lt).cell 0 rfl) (by omega) (fun e=>by omega) (Nat.le_refl _) hin
   have HW8:=Lib.hid hw8
   clear hsr hscr hb7 hb78 k8 hb58 hw8
   go_upto_region 29 with fail
   rw [HW8.out]
   go_wp2_with fail
   refine hhn.mono ?_
   rintro e w9 ⟨rfl,hb89⟩
   have hbg:=hbgn.out w9 hb89
   have HRUN2:=HRUN
   clear hhn hb89
   cases hn:Op.has L 110 with
   | true=>
    rw [hn] at hbg HRUN
    clear hn
    go_wp2_with fail
    refine hbg.mono ?_
    rintro e wA ⟨m,rfl,hcs,hqt,hW0,hM0,hmA⟩
    have hrn:=mrun_st (m:=m) rest ha (by rw [hcs];exact HOK.out) gf f (by rw [hcs,hqt];exact HRUN.out) wA hmA
    clear hbg hmA
    go_wp2_with fail
    refine hrn.mono ?_
    rintro e wB ⟨⟨uB,rfl⟩,hmB⟩
    obtain ⟨i1,i6,inp',M',hpB,hmv⟩:=hmB.main hW0 hM0
    have HPB:=Lib.hid hpB
    have HMV:=Lib.hid hmv
    clear hrn hmB hpB hmv
    cases hfl:q.failed with
    | true=>
     rw [hfl] at i6 HPB
     have HFL:=Lib.hid hfl
     clear hfl
     go_wp2_with fail
     go_ret
     exact ⟨inp',M',by unfold resF;rw [HFL.out];rfl,by unfold resF;rw [HFL.out];exact HPB.out,HMV.out⟩
    | false=>
     rw [hfl] at i6 HPB
     have HFL:=Lib.hid hfl
     clear hfl
     go_wp2_with fail
     go_ret
     exact ⟨inp',M',by unfold resF;rw [HFL.out];rfl,by unfold resF;rw [HFL.out];exact HPB.out,HMV.out⟩
   | false=>
    rw [hn] at hbg HRUN
    clear hn
    have q1:¬ script=[35,110]:=HS35.out _
    have q2:((⟨script.toArray⟩:ByteArray) == ⟨#[35,110]⟩)=false:=str_ne q1
    have q3:List.isPrefixOf [35,110,10] script=false:=by
     cases hsc:script with
     | nil=>rfl
     | cons c1 r1=>
      have:¬ (35:UInt8)=c1:=fun e=>HS35.out r1 (by rw [hsc,e])
      simp [List.isPrefixOf,this]
    have q4:(script == [35,110])=false:=by
     rw [Bool.eq_false_iff]
     simpa using q1
    have hpx:=Rg.hasPrefix_any script [35,110,10] w9
    rw [q3] at hpx
    clear q3
    go_wp2_with fail
    refine hpx.mono ?_
    rintro e wP ⟨rfl,hwP⟩
    rw [hwP]
    clear hwP hpx q1 q2 q4
    go_wp2_with fail
    refine hbg.mono ?_
    rintro e wA ⟨m,rfl,hcs,hqt,hW0,hM0,hmA⟩
    have hrn:=mrun_st (m:=m) rest ha (by rw [hcs];exact HOK.out) gf f (by rw [hcs,hqt];exact HRUN.out) wA hmA
    clear hbg hmA
    go_wp2_with fail
    refine hrn.mono ?_
    rintro e wB ⟨⟨uB,rfl⟩,hmB⟩
    obtain ⟨i1,i6,inp',M',hpB,hmv⟩:=hmB.main hW0 hM0
    have HPB:=Lib.hid hpB
    have HMV:=Lib.hid hmv
    clear hrn hmB hpB hmv
    cases hfl:q.failed with
    | true=>
     rw [hfl] at i6 HPB
     have HFL:=Lib.hid hfl
     clear hfl
     go_wp2_with fail
     go_ret
     exact ⟨inp',M',by unfold resF;rw [HFL.out];rfl,by unfold resF;rw [HFL.out];exact HPB.out,HMV.out⟩
    | false=>
     rw [hfl] at i6 HPB
     have HFL:=Lib.hid hfl
     clear hfl
     go_wp2_with fail
     go_ret
     exact ⟨inp',M',by unfold resF;rw [HFL.out];rfl,by unfold resF;rw [HFL.out];exact HPB.out,HMV.out⟩
end Go.Proofs.YtefpcacnblaokaaGreatDoor

/-
  The walk of sed's main, of a script that is refused; of Check. Conditions: a process called sed; options without e and f; one operand, a script that is refused; what the library's variables hold.
-/
set_option maxRecDepth 100000
set_option maxHeartbeats 16000000
namespace Go.Proofs.YtefpcacnblaokaaGreatDoor
open Go.RowKit Go.Shelf Go.Maps
theorem diag_lenS (k:Nat):(diagOf tagSed [] k).length≤4294967296:=by
 have:=wordOf_len k
 unfold diagOf tagSed
 simp
 omega
theorem check_any (s:Bts) (quiet:Value) (cs:List Sd.Cmd) (hrd:Sd.read s=.ok cs) (hs:s.length≤900000) (w:World) (hg:Glo w) :
  Calls Tryz.prog 12 #[.string ⟨s.toArray⟩,quiet] w fun e w'=>e=.returned (.int .i64 0)∧Below w.heap.size w w':=by
 have hsr:=sread_any s (.ok cs) hrd (by intro h;cases h) hs w hg hg.big
 unfold SReadPost at hsr
 clear hg
 go_enter Tryz.func12,Tryz.ntmps12
 go_wp2_with fail
 refine hsr.mono ?_
 rintro e w1 ⟨⟨v,qs,rfl,-⟩,hb1⟩
 have HB1:=Lib.hid hb1
 clear hsr hb1
 go_wp2_with fail
 go_ret
 exact ⟨rfl,HB1.out⟩
theorem sedMain_bad (F:Fx) (M:Nat→Prop) (inp:Bts) (rest:List Bts) (ha:F.args=tagSed :: rest) (hrest:rest≠[]) (htot:totL rest≤1000000) (L:List (UInt8 × Bts)) (script:Bts) (hp:Op.parse [110,101,58,102,58] rest=some (L,[script])) (hLN:L.length≤1000000) (hL1:Op.has L 101=false) (hL2:Op.has L 102=false)
  (hsl:script.length≤900000) (hg:Glo F.w0) (kb:Nat) (hkb:0 < kb∧kb < 27) (hrd:Sd.read script=.bad kb)
  (w:World) (h:PrAt w F M inp [] []) :
  Calls Tryz.prog 52 #[.pointer (some ⟨F.p,0,none⟩)] w fun e w'=>MainS F M (1,[],diagOf tagSed [] kb) w e w':=by
 have hargs:=args_any F M inp [] [] w h
 rw [ha] at hargs
 have hgw:Glo w:=hg.from h.fix.old
 have H:=Lib.hid h
 have HG:=Lib.hid hgw
 have HP:=Lib.hid hp
 have HRD:=Lib.hid hrd
 have hr1:1≤rest.length:=List.length_pos_iff.2 hrest
 clear h hgw hg hp hrest hrd
 go_enter Tryz.func52,Tryz.ntmps52
 go_wp2_with fail
 refine hargs.mono ?_
 rintro e w1 ⟨v,rfl,ho1,hb1⟩
 clear hargs
 obtain ⟨g,c,rfl,hcl,-,hgl,hc⟩:=strs_cell ho1 0 (by simp)
 have hss:Ss w1 (some ⟨g,1,none⟩) rest:=fun _=>⟨g,1,rfl,fun i hi=>by
  have:=hc (i+1) (by simp;omega)
  rw [Nat.add_comm 1 i,this]
  simp⟩
 simp only [List.length_cons] at hcl
 have hpa:=parse_any [110,101,58,102,58] (by decide) rest (some ⟨g,1,none⟩) (c - 1) (by omega) htot w1 hss
 rw [HP.out] at hpa
 have f1:(1:Int)≤c:=by omega
 have f2:1≤c:=by omega
 have f3:¬ c - 1=0:=by omega
 have f4:¬ c=1:=by omega
 have f5:¬ c≤1:=by omega
 have HB1:=Lib.hid hb1
 clear ho1 hb1 hc hss
 go_wp2_with fail
 refine hpa.mono ?_
 rintro e w2 ⟨hb2,lv,ov,rfl,hl2,ho2⟩
 obtain ⟨pl,cl,rfl,hlc,hat⟩:=hl2.at_
 obtain ⟨gn,cn,rfl,hcn,hgn0,hgnl,hcell⟩:=strs_cell ho2 0 (by simp)
 have n0:=hcell 0 (by simp)
 simp only [List.getD_cons_zero,strV,List.length_cons,List.length_nil,Nat.zero_add] at n0 hcn
 have HB2:=Lib.hid (HB1.out.trans (hb2.mono HB1.out.size))
 have HAT:=Lib.hid hat
 have HN0:=Lib.hid n0
 have hh1:=hasOpt_any L 101 pl cl hlc hLN w2 hat
 rw [hL1] at hh1
 clear hpa hb2 hl2 ho2 hat f1 f2 f3 f4 f5 hcell n0
 go_wp2_with fail
 refine hh1.mono ?_
 rintro e w3 ⟨rfl,hb3⟩
 have hh2:=hasOpt_any L 102 pl cl hlc hLN w3 (HAT.out.below hb3)
 rw [hL2] at hh2
 have HB3:=Lib.hid hb3
 clear hh1 hb3
 go_wp2_with fail
 refine hh2.mono ?_
 rintro e w4 ⟨rfl,hb4⟩
 have HB24:=Lib.hid (HB3.out.trans (hb4.mono HB3.out.size))
 clear hh2 hb4
 go_wp2_with fail
 go_loopw [9,45,51,58] (fun _ x45 _ _ wr=>∃ i:Nat,x45=.int .i64 i∧i≤L.length∧Hid (Below w2.heap.size w2 wr)) (fun _ x45 _ _ _=>L.length - (intOf x45).toNat)
 case atStart=>exact ⟨0,rfl,Nat.zero_le _,HB24⟩
 case round=>
  obtain ⟨i,rfl,hi,HBR⟩:=hrel
  by_cases hlt:i < L.length
  ·obtain ⟨b,o,rfl,hbl,hcc⟩:=HAT.out.below HBR.out (by omega)
   obtain ⟨d0,d1⟩:=hcc i hlt
   have hmem:L.getD i (0,[]) ∈ L:=by
    rw [List.getD_eq_getElem?_getD,List.getElem?_eq_getElem hlt]
    exact List.getElem_mem _
   have hne:∀ ch:UInt8,Op.has L ch=false→¬ (L.getD i (0,[])).1=ch:=fun ch hx e=>by
    have:Op.has L ch=true:=by
     unfold Op.has
     rw [List.any_eq_true]
     exact ⟨_,hmem,by show ((L.getD i (0,[])).1 == ch)=true;rw [e];exact beq_self_eq_true _⟩
    rw [hx] at this
    cases this
   have n1:=hne 101 hL1
   have n2:=hne 102 hL2
   generalize hoi:L.getD i (0,[])=oi at *
   have k1:(((oi.1.toNat:Nat):Int) == 101)=false:=by
    rw [Bool.eq_false_iff]
    simp only [ne_eq,beq_iff_eq]
    exact u8_lit (n:=101) n1 (by decide)
   have k2:(((oi.1.toNat:Nat):Int) == 102)=false:=by
    rw [Bool.eq_false_iff]
    simp only [ne_eq,beq_iff_eq]
    exact u8_lit (n:=102) n2 (by decide)
   have hw1:IntKind.i64.wrap ((i:Int)+1)=(i:Int)+1:=wrap_i64 (by omega) (by omega)
   have hlti:(i:Int) < (L.length:Int):=by omega
   have hbx:=HBR.out.alloc HBR.out.size (.cells #[.int .u8 oi.1.toNat,strV oi.2] 203)
   unfold strV at d1 hbx
   have HBX:=Lib.hid hbx
   clear hcc hmem hne n1 n2 hoi hbx
   go_wp2_with fail
   exact ⟨⟨i+1,by go_num,by omega,HBX⟩,by show L.length - ((i:Int)+1).toNat < L.length - (i:Int).toNat;omega⟩
  ·obtain rfl:i=L.length:=by omega
   have n5:wr.cell? ⟨gn,0,none⟩=some (.string ⟨script.toArray⟩):=(HBR.out.cell (p:=⟨gn,0,none⟩) hgnl).trans HN0.out
   have f1:(1:Int)≤cn:=by omega
   have HBW:=Lib.hid (HB2.out.trans (HBR.out.mono HB2.out.size))
   go_upto_region 21 with fail
   go_region
   have n6:wr.drew.cell? ⟨gn,0,none⟩=some (.string ⟨script.toArray⟩):=n5
   generalize hpa:(if cn=1 then some (⟨gn,0,none⟩:Addr) else some ⟨gn,1,none⟩)=pa
   obtain ⟨w5,hw5⟩:∃ w5,wr.drew=w5:=⟨_,rfl⟩
   have hb5:Below w.heap.size w w5:=by rw [← hw5];exact HBW.out.trans ((below_drew2 wr).mono HBW.out.size)
   rw [hw5] at n6 ⊢
   clear n5 hpa hw5
   have hg5:=HG.out.below hb5
   have hsr:=sread_any script (.bad kb) HRD.out (by intro h;cases h) hsl w5 hg5 hg5.big
   unfold SReadPost at hsr
   have HB5:=Lib.hid hb5
   have hsy:Hid (∀ w7:World,Below w5.heap.size w5 w7→Calls Tryz.prog 88 #[.pointer (some ⟨F.p,0,none⟩),.string ⟨#[]⟩,.int .i64 kb] w7 fun x w'=>(∃ v,x=.returned v)∧∃ M',PrAt w' F M' inp [] (diagOf tagSed [] kb)∧Mv M M' w w'):=Lib.hid fun w7 hb7=>by
    have hb:=HB5.out.trans (hb7.mono HB5.out.size)
    have hs:=say_any F M inp [] [] tagSed [] rest kb hkb.2 w7 (H.out.below hb) ha (by decide) (by decide) (Nat.le_trans (Nat.le_of_eq (by simp)) (diag_lenS kb))
    refine hs.mono ?_
    rintro x w' ⟨hx,M',hp,hm⟩
    exact ⟨hx,M',hp,(Mv.below hb).trans hm⟩
   have hk1:((kb:Nat):Int)≠0:=by omega
   have hk2:(((kb:Nat):Int) == 0)=false:=by
    rw [Bool.eq_false_iff]
    simp only [ne_eq,beq_iff_eq]
    omega
   clear hb5 hg5
   go_wp2_with fail
   refine (join1_any gn 0 cn script _ w5 n6).mono ?_
   rintro e w6 ⟨rfl,hw6⟩
   rw [hw6]
   clear hw6 n6
   go_wp2_with fail
   refine hsr.mono ?_
   rintro e w7 ⟨rfl,hb7⟩
   have hs7:=hsy.out w7 hb7
   clear hsr hb7
   go_wp2_with fail
   refine hs7.mono ?_
   rintro e w8 ⟨⟨u8,rfl⟩,M',hp8,hm8⟩
   have HP8:=Lib.hid hp8
   have HM8:=Lib.hid hm8
   clear hs7 hp8 hm8
   go_wp2_with fail
   go_ret
   exact ⟨inp,M',rfl,HP8.out,HM8.out⟩
end Go.Proofs.YtefpcacnblaokaaGreatDoor

/-
  The walk of the law's run. Conditions: limits that may be; what the library's variables hold; what Start's machine does.
-/
set_option maxRecDepth 100000
set_option maxHeartbeats 8000000
namespace Go.Proofs.YtefpcacnblaokaaGreatDoor
open Go.RowKit Go.Shelf Go.Maps
theorem step_append_lit {w:World} {B g:Nat} {t0:Bts} {rest:List Bts} {pa:Option Addr} {ca:Nat} {ops:Array Oper} {o:Oper} {a:Act} {K:Act→World→Prop} {Q:Exit→Act→World→Prop} {E:Prop} (hgd:o.guard=none) (s x:Operand)
  (ho:o.op=.call { callee:=.builtin .append,args:=#[s,x],argTypes:=#[27,27] }) (hs:a.eval s=.slice (some ⟨g,0,none⟩) 1 1) (hx:a.eval x=.slice pa rest.length ca)
  (hB:B≤g) (hBw:B≤w.heap.size) (hrow:w.ownsRow B 9 1 (.slice (some ⟨g,0,none⟩) 1 1) 1 [strV t0]) (hv:Ss w pa rest) (hpos:0 < rest.length) (hlen:rest.length≤1000000)
  (h:∀ g' c' w',Ss w' (some ⟨g',0,none⟩) (t0 :: rest)→Below B w w'→K (a.put o.dst (.slice (some ⟨g',0,none⟩) (t0 :: rest).length c')) w'):if Region.wanted o (yielded ops a.tmps)=true then Oper.wp Tryz.prog o a w K Q else E:=by
 have hw:Region.wanted o (yielded ops a.tmps)=true:=by simp [Region.wanted,hgd]
 rw [if_pos hw]
 obtain ⟨i0,hi0,hz0,hz1,hz2⟩:=info_parts info_str
 obtain ⟨b,q,rfl,hc⟩:=hv hpos
 refine wp_append_own _ s x 27 ho B 9 i0 (.string ⟨#[]⟩) 1 16 Tryz.underlying27 hi0 hz0 hz1 hz2 rfl (by decide) _ 1 [strV t0] hs hrow ⟨b,q,none⟩ rest.length ca (rest.map strV) hx (by simp) ?_
  (by intro u hu;obtain ⟨y,-,rfl⟩:=List.mem_map.1 hu;rfl) (by unfold maxLen;omega) (by omega) hBw ?_
 ·intro j u hj
  have hjl:j < rest.length:=by
   have:=(List.getElem?_eq_some_iff.1 hj).1
   simpa using this
  rw [show ((⟨b,q,none⟩:Addr).add j)=⟨b,q+j,none⟩ by simp only [Addr.add];split <;> simp_all]
  rw [hc j hjl,← hj]
  simp [List.getD_eq_getElem?_getD,hjl]
 ·intro v' w' hown hg _
  have hl:1+rest.length=(t0 :: rest).length:=by simp;omega
  rw [show [strV t0] ++ rest.map strV=(t0 :: rest).map strV from rfl,hl] at hown
  have hb:Below B w w':=by
   have hk:Kept (fun k=>(Value.slice (some ⟨g,0,none⟩) 1 1).ownBlock=some k) w w':=kept_grown (Kept.refl _ w) hg
   refine ⟨hk.os,hk.tape,hk.output,hk.size,fun k hk'=>hk.block k (by omega) (by simp [Value.ownBlock];omega)⟩
  rcases id hown.2 with ⟨-,hn⟩ | ⟨g',c',cur,rfl,-,-,-,-,-,-⟩
  ·simp at hn
  ·refine h g' c' w' (fun _=>⟨g',0,rfl,fun i hi=>?_⟩) hb
   rw [Nat.zero_add,hown.cellAt i (by simpa using hi),List.getElem?_map,List.getElem?_eq_getElem hi]
   simp [List.getD_eq_getElem?_getD,List.getElem?_eq_getElem hi]
theorem step_run {w:World} {ops:Array Oper} {o:Oper} {a:Act} {K:Act→World→Prop} {Q:Exit→Act→World→Prop} {E:Prop} (hgd:o.guard=none) (x:Operand) (T:TypeId)
  (ho:o.op=.call { callee:=.value (.func 16),args:=#[x],argTypes:=#[T] }) (v:Value) (hx:a.eval x=v) (R:Ending→World→Prop) (hc:Calls Tryz.prog 16 #[v] w R)
  (h:∀ e w',R e w'→∃ r,e=.returned r∧K (a.put o.dst r) w'):if Region.wanted o (yielded ops a.tmps)=true then Oper.wp Tryz.prog o a w K Q else E:=by
 have hw:Region.wanted o (yielded ops a.tmps)=true:=by simp [Region.wanted,hgd]
 rw [if_pos hw]
 have hen:(callFunc 16 #[v]).run Tryz.prog w=.ok (.enter 16 #[v]) w:=enters_of Tryz.func16 (by kernel_rfl) rfl _ _
 unfold Oper.wp execOp
 have hx':a.eval x=v:=hx
 simp only [ho,resolve,invoke,Sem.run_bind,List.map_toArray,List.map_cons,List.map_nil,hx']
 rw [show (Deferred.ofValue (a.eval (Operand.func 16)) #[v]).run Tryz.prog w=.ok (Deferred.mk (Target.fn (Fn.func 16) #[]) #[v]) w from rfl]
 rw [Result.andThen_ok]
 show Oper.upon Tryz.prog o a K Q ((callFunc 16 #[v]).run Tryz.prog w)
 rw [hen,Oper.upon_enter]
 refine hc.mono ?_
 intro e w' hr
 obtain ⟨r,rfl,hk⟩:=h e w' hr
 exact hk
theorem lawRun_any (rest:List Bts) (hpos:0 < rest.length) (hll:rest.length≤1000) (pa:Option Addr) (ca:Nat) (pi:Option Addr) (ci:Nat) (inp:Bts) (hin:inp.length≤4294967296) (buf line run:Nat) (h1:1≤buf) (h2:1≤line) (h3:line≤run) (h4:run≤1099511627776) (h5:buf≤1099511627776)
  (Q:Int→Bts→Bts→Prop) (w:World) (hg:Glo w) (hst:∀ w1,Below w.heap.size w w1→Starts w1 28 (tagSed :: rest) buf line run inp Q) (hQ:∀ st o e,Q st o e→o.length≤4294967296∧e.length≤4294967296) (ha:Ss w pa rest) (hi:Bs w pi inp) :
  Calls Tryz.prog 8 #[.slice pi inp.length ci,.agg #[.int .i64 buf,.int .i64 line,.int .i64 run],.slice pa rest.length ca] w fun e w'=>∃ ov ev st steps peak out err,e=.returned (.tuple #[.agg #[ov,ev,.int .i64 st,.slice none 0 0,.int .i64 steps,.int .i64 peak,.int .i64 0],.bool true])∧Sl w' (fun g=>w.heap.size≤g) ov out∧Sl w' (fun g=>w.heap.size≤g) ev err∧Q st out err∧Below w.heap.size w w':=by
 obtain ⟨m,hm⟩:=hg.mx
 obtain ⟨w1,hw1⟩:∃ w1,(w.alloc (.cells #[.int .i64 (buf:Int),.int .i64 (line:Int),.int .i64 (run:Int)] 24)).alloc (.cells #[.slice none 0 0,.slice none 0 0,.int .i64 0,.slice none 0 0,.int .i64 0,.int .i64 0,.int .i64 0] 35)=w1:=⟨_,rfl⟩
 have hb1:Below w.heap.size w w1:=by rw [← hw1];exact ((Below.refl _ _).alloc (Nat.le_refl _) _).alloc (by simp) _
 have kl1:Blk w1 w.heap.size #[.int .i64 (buf:Int),.int .i64 (line:Int),.int .i64 (run:Int)] 24:=by rw [← hw1];exact (Blk.new _ _ _).alloc _
 have kr1:Blk w1 (w.heap.size+1) #[.slice none 0 0,.slice none 0 0,.int .i64 0,.slice none 0 0,.int .i64 0,.int .i64 0,.int .i64 0] 35:=by
  rw [← hw1]
  have:=Blk.new (w.alloc (.cells #[.int .i64 (buf:Int),.int .i64 (line:Int),.int .i64 (run:Int)] 24)) #[.slice none 0 0,.slice none 0 0,.int .i64 0,.slice none 0 0,.int .i64 0,.int .i64 0,.int .i64 0] 35
  simpa only [World.size_alloc] using this
 have hs1:w1.heap.size=w.heap.size+1+1:=by rw [← hw1];simp
 have hrun:Hid (∀ (g' c':Nat) (w3:World),Ss w3 (some ⟨g',0,none⟩) (tagSed :: rest)→Below w1.heap.size w1 w3→Calls Tryz.prog 16 #[jobV (.slice (some ⟨g',0,none⟩) (tagSed :: rest).length c') (.slice pi inp.length ci) buf line run] w3 fun e w'=>∃ ov ev st steps peak out err,e=.returned (.tuple #[.agg #[ov,ev,.int .i64 st,.slice none 0 0,.int .i64 steps,.int .i64 peak,.int .i64 0],.bool true])∧Sl w' (fun g=>w1.heap.size≤g) ov out∧Sl w' (fun g=>w1.heap.size≤g) ev err∧Q st out err∧Below w1.heap.size w1 w'):=Lib.hid fun g' c' w3 hs3 hb3=>by
  have hb13:=hb1.trans (hb3.mono hb1.size)
  refine (sedRun_any (tagSed :: rest) (by simp) (by simp;omega) (some ⟨g',0,none⟩) c' pi ci inp hin buf line run h1 h2 h3 h4 h5 Q m w3 (fun w2 hb2=>hst w2 (hb13.trans (hb2.mono hb13.size))) hQ ((hb13.cell (p:=⟨2,0,none⟩) (World.block_lt_of_cell? _ _ hm)).trans hm) hs3 (hi.below hb13 (Nat.le_refl _))).mono ?_
  rintro e w' ⟨ov,ev,st,steps,peak,out,err,rfl,so,se,hq,hb⟩
  exact ⟨ov,ev,st,steps,peak,out,err,rfl,so.mono fun g _ hg=>Nat.le_trans hb3.size hg,se.mono fun g _ hg=>Nat.le_trans hb3.size hg,hq,hb3.trans (hb.mono hb3.size)⟩
 have hss:Hid (∀ w3:World,Below w1.heap.size w1 w3→Ss w3 pa rest):=Lib.hid fun w3 hb3=>(ha.below (hb1.trans (hb3.mono hb1.size)))
 have HB:=Lib.hid hb1
 have HR:=Lib.hid kr1
 have HS:=Lib.hid hs1
 have hlim:Hid (∀ w3:World,Below w1.heap.size w1 w3→w3.cell? ⟨w.heap.size,0,none⟩=some (.int .i64 buf)∧w3.cell? ⟨w.heap.size,1,none⟩=some (.int .i64 line)∧w3.cell? ⟨w.heap.size,2,none⟩=some (.int .i64 run)):=Lib.hid fun w3 hb3=>⟨(kl1.keep hb3 kl1.lt).cell 0 rfl,(kl1.keep hb3 kl1.lt).cell 1 rfl,(kl1.keep hb3 kl1.lt).cell 2 rfl⟩
 have hw1d:Below w1.heap.size w1 w1.drew:=below_drew2 w1
 have hrow:=(Blk.new w1 #[.string ⟨#[115,101,100]⟩] 9).drew
 have hw1b:Below w1.heap.size w1 (w1.alloc (.cells #[.string ⟨#[115,101,100]⟩] 9)):=(Below.refl _ _).alloc (Nat.le_refl _) _
 have hw1a:Below w1.heap.size w1 (w1.alloc (.cells #[.string ⟨#[115,101,100]⟩] 9)).drew:=hw1b.trans ((below_drew2 _).mono hw1b.size)
 obtain ⟨a0,a1,a2⟩:=hlim.out _ hw1d
 obtain ⟨b0,b1,b2⟩:=hlim.out _ hw1b
 obtain ⟨e0,e1,e2⟩:=hlim.out w1 (Below.refl _ _)
 have hown:(w1.alloc (.cells #[.string ⟨#[115,101,100]⟩] 9)).drew.ownsRow w1.heap.size 9 1 (.slice (some ⟨w1.heap.size,0,none⟩) 1 1) 1 [strV tagSed]:=⟨rfl,.inr ⟨w1.heap.size,1,_,rfl,Nat.le_refl _,hrow,Nat.le_refl _,by decide,rfl,rfl⟩⟩
 have HOWN:=Lib.hid hown
 have hsa:=hss.out _ hw1a
 have HSA:=Lib.hid hsa
 have hsz1:w1.heap.size≤(w1.alloc (.cells #[.string ⟨#[115,101,100]⟩] 9)).drew.heap.size:=hw1a.size
 have hres:Hid (∀ w2:World,Below w1.heap.size w1 w2→Blk w2 (w.heap.size+1) #[.slice none 0 0,.slice none 0 0,.int .i64 0,.slice none 0 0,.int .i64 0,.int .i64 0,.int .i64 0] 35):=Lib.hid fun w2 hb2=>kr1.keep hb2 kr1.lt
 have HW1A:=Lib.hid hw1a
 have HW1:=Lib.hid hw1
 clear hst hm ha hi hb1 kl1 kr1 hs1 hg hrow hown hsa hw1d hw1a hw1b hw1
 unfold jobV at *
 go_enter Tryz.func8,Tryz.ntmps8
 go_upto_region 1 with fail
 rw [HW1.out]
 go_region_law (first
  | (refine step_append_lit (B:=w1.heap.size) (g:=w1.heap.size) (t0:=tagSed) (rest:=rest) (pa:=pa) (ca:=ca) (by rfl) _ _ (by rfl) (by rfl) (by rfl) (Nat.le_refl _) hsz1 HOWN.out HSA.out hpos (by omega) ?_;intro g' c' w3 hs3 hb3;have hb13:=HW1A.out.trans (hb3.mono (Nat.le_refl _));obtain ⟨d0,d1,d2⟩:=hlim.out w3 hb13;have HS3:=Lib.hid hs3;have HB13:=Lib.hid hb13;clear hs3 hb3 hb13)
  | (refine step_run (by rfl) _ _ (by rfl) _ (by rfl) _ (hrun.out g' c' w3 HS3.out HB13.out) ?_;rintro e w2 ⟨ov,ev,st,steps,peak,out,err,rfl,so,se,hq,hb2⟩;obtain ⟨p1,c1,rfl,-,-⟩:=id so.bs;obtain ⟨p2,c2,rfl,-,-⟩:=id se.bs;have hr2:=hres.out w2 hb2;have z0:=hr2.cell 0 (v:=.slice none 0 0) rfl;have y0:=hr2.free 0;have z1:=hr2.cell 1 (v:=.slice none 0 0) rfl;have y1:=hr2.free 1;have z2:=hr2.cell 2 (v:=.int .i64 0) rfl;have y2:=hr2.free 2;have z3:=hr2.cell 3 (v:=.slice none 0 0) rfl;have y3:=hr2.free 3;have z4:=hr2.cell 4 (v:=.int .i64 0) rfl;have y4:=hr2.free 4;have z5:=hr2.cell 5 (v:=.int .i64 0) rfl;have y5:=hr2.free 5;have z6:=hr2.cell 6 (v:=.int .i64 0) rfl;have y6:=hr2.free 6;have HR2:=Lib.hid hr2;have HSO:=Lib.hid so;have HSE:=Lib.hid se;have HQ:=Lib.hid hq;have HB2:=Lib.hid hb2;clear so se hq hb2 hr2;refine ⟨_,rfl, ?_⟩))
 all_goals
  obtain ⟨w4,hw4⟩:∃ w4,(((((((w2.setCell ⟨w.heap.size+1,0,none⟩ (.slice p1 out.length c1)).setCell ⟨w.heap.size+1,1,none⟩ (.slice p2 err.length c2)).setCell ⟨w.heap.size+1,2,none⟩ (.int .i64 st)).setCell ⟨w.heap.size+1,3,none⟩ (.slice none 0 0)).setCell ⟨w.heap.size+1,4,none⟩ (.int .i64 steps)).setCell ⟨w.heap.size+1,5,none⟩ (.int .i64 peak)).setCell ⟨w.heap.size+1,6,none⟩ (.int .i64 0))=w4:=⟨_,rfl⟩
  have hr3:Blk w4 (w.heap.size+1) #[.slice p1 out.length c1,.slice p2 err.length c2,.int .i64 st,.slice none 0 0,.int .i64 steps,.int .i64 peak,.int .i64 0] 35:=by
   rw [← hw4]
   exact (((((((HR2.out.set 0 _).set 1 _).set 2 _).set 3 _).set 4 _).set 5 _).set 6 _)
  have hk3:Kept (fun j=>j=w.heap.size+1) w2 w4:=by
   rw [← hw4]
   exact ((((((((Kept.refl (fun j=>j=w.heap.size+1) w2).setCell (.inl rfl) 0 _).setCell (.inl rfl) 1 _).setCell (.inl rfl) 2 _).setCell (.inl rfl) 3 _).setCell (.inl rfl) 4 _).setCell (.inl rfl) 5 _).setCell (.inl rfl) 6 _)
  have HW3:=Lib.hid hw4
  have HR3:=Lib.hid hr3
  have HK3:=Lib.hid hk3
  clear hw4 hr3 hk3 a0 a1 a2 b0 b1 b2 e0 e1 e2 d0 d1 d2 z0 y0 z1 y1 z2 y2 z3 y3 z4 y4 z5 y5 z6 y6
  try rw [HW3.out]
  go_wp2_with fail
  try rw [HW3.out]
  have r0:=HR3.out.cell 0 (v:=.slice p1 out.length c1) rfl
  have r1:=HR3.out.cell 1 (v:=.slice p2 err.length c2) rfl
  have r2:=HR3.out.cell 2 (v:=.int .i64 st) rfl
  have r3:=HR3.out.cell 3 (v:=.slice none 0 0) rfl
  have r4:=HR3.out.cell 4 (v:=.int .i64 steps) rfl
  have r5:=HR3.out.cell 5 (v:=.int .i64 peak) rfl
  have r6:=HR3.out.cell 6 (v:=.int .i64 0) rfl
  have hbw:Below w.heap.size w w4:=by
   have a1:=HB.out.size
   have a2:=HB.out.trans (HB2.out.mono a1)
   refine a2.trans ⟨HK3.out.os,HK3.out.tape,HK3.out.output,HK3.out.size,fun k hk=>HK3.out.block k (Nat.lt_of_lt_of_le hk a2.size) (by omega)⟩
  have hs1:=HS.out
  have sO:Sl w4 (fun g=>w.heap.size≤g) (.slice p1 out.length c1) out:=(HSO.out.kept HK3.out fun g _ hg e=>by have h:w1.heap.size≤g:=hg;omega).mono fun g _ hg=>by have h:w1.heap.size≤g:=hg;omega
  have sE:Sl w4 (fun g=>w.heap.size≤g) (.slice p2 err.length c2) err:=(HSE.out.kept HK3.out fun g _ hg e=>by have h:w1.heap.size≤g:=hg;omega).mono fun g _ hg=>by have h:w1.heap.size≤g:=hg;omega
  refine bodyPost_ret (v:=.tuple #[.agg #[.slice p1 out.length c1,.slice p2 err.length c2,.int .i64 st,.slice none 0 0,.int .i64 steps,.int .i64 peak,.int .i64 0],.bool true]) ?_ rfl ⟨_,_,_,_,_,out,err,rfl,sO,sE,HQ.out,hbw⟩
  simp [results,Tryz.results8,go_sem,r0,r1,r2,r3,r4,r5,r6]
end Go.Proofs.YtefpcacnblaokaaGreatDoor

/-
  Plain laws of sed's scripts that turn lines round and put them together. No program in sight. Conditions: those of each law.
-/
namespace Go.Proofs.YtefpcacnblaokaaGreatDoor.Sd
open Go
theorem run_end (line:Nat) (quiet:Bool) (cs:List Cmd) (g f:Nat) (q:St) (h:q.inp=[]):run line quiet cs g (f+1) q=some q:=by
 unfold run
 split
 ·rfl
 ·unfold readL
  rw [h]
  rfl
def tacCs:List Cmd:=[cmd0 71 [.num 1] true,cmd0 104 [] false,cmd0 112 [.fin] false]
def tacF (line:Nat):Nat→Nat→Bytes→Bytes→Bytes × Bool
 | 0,_,_,_=>([],false)
 | f+1,n,h,inp=>if inp=[] then ([],false) else if line < (Wi.lineOf inp).1.length then ([],true) else
   ((if (Wi.lineOf inp).2.2=[] then (if n=0 then (Wi.lineOf inp).1 else (Wi.lineOf inp).1 ++ [10] ++ h) ++ [10] else []) ++ (tacF line f (n+1) (if n=0 then (Wi.lineOf inp).1 else (Wi.lineOf inp).1 ++ [10] ++ h) (Wi.lineOf inp).2.2).1,
    (tacF line f (n+1) (if n=0 then (Wi.lineOf inp).1 else (Wi.lineOf inp).1 ++ [10] ++ h) (Wi.lineOf inp).2.2).2)
theorem tac_cycle (line:Nat) (q:St) (l:Bytes) (hp:q.pat=l) (hr:q.out.length+2 * (l.length+q.hold.length)≤8000) (_hn:1≤q.n) :
  cycle line tacCs 4 0 q=some (true,{ q with
   pat:=if q.n=1 then l else l ++ [10] ++ q.hold
   hold:=if q.n=1 then l else l ++ [10] ++ q.hold
   out:=q.out ++ (if q.inp=[] then (if q.n=1 then l else l ++ [10] ++ q.hold) ++ [10] else []) }):=by
 subst hp
 have hlen:(q.pat ++ [10] ++ q.hold).length≤8192:=by simp;omega
 have ht:∀ P:Bytes,P.length≤8000→∀ q1:St,q1.out=q.out→tell (P ++ [10]) q1=some { q1 with out:=q.out ++ (P ++ [10]) }:=by
  intro P hP q1 h1
  unfold tell
  rw [h1,if_pos (by simp;omega)]
 have hx:∀ x:Bool,(x != true)=!x:=fun x=>by cases x <;> rfl
 have hy:∀ x:Bool,(x != false)=x:=fun x=>by cases x <;> rfl
 by_cases h1:q.n=1
 ·have e1:(q.n == 1)=true:=by simpa using h1
  by_cases h2:q.inp=[]
  ·have e2:q.inp.isEmpty=true:=by rw [h2];rfl
   simp only [cycle,tacCs,chosen,cmd0,fits,List.getElem?_cons_zero,e1,e2,hx,Bool.not_true,verb]
   simp [ht q.pat (by omega),h1,h2]
  ·have e2:q.inp.isEmpty=false:=by
    cases hq:q.inp with
    | nil=>exact absurd hq h2
    | cons _ _=>rfl
   simp only [cycle,tacCs,chosen,cmd0,fits,List.getElem?_cons_zero,e1,e2,hx,Bool.not_true,verb]
   simp [h1,h2,e2]
 ·have e1:(q.n == 1)=false:=by simpa using h1
  have e3:q.pat.length+1+q.hold.length≤8192:=by omega
  by_cases h2:q.inp=[]
  ·have e2:q.inp.isEmpty=true:=by rw [h2];rfl
   simp only [cycle,tacCs,chosen,cmd0,fits,List.getElem?_cons_zero,e1,e3,hx,Bool.not_false,verb]
   have:=ht (q.pat ++ [10] ++ q.hold) (by simp;omega)
   simp [h1,h2] at this ⊢
   simp [this]
  ·have e2:q.inp.isEmpty=false:=by
    cases hq:q.inp with
    | nil=>exact absurd hq h2
    | cons _ _=>rfl
   simp only [cycle,tacCs,chosen,cmd0,fits,List.getElem?_cons_zero,e1,e3,hx,Bool.not_false,verb]
   simp [h1,h2,e2]
theorem tac_all (line:Nat):∀ (f:Nat) (q:St),q.inp.length < f→q.out.length+2 * q.hold.length+4 * q.inp.length≤4000→(q.inp≠[]→q.out=[])→q.over=false→q.failed=false →
  ∃ q',run line true tacCs 4 f q=some q'∧q'.out=q.out ++ (tacF line f q.n q.hold q.inp).1∧q'.failed=(tacF line f q.n q.hold q.inp).2:=by
 intro f
 induction f with
 | zero=>intro q hq;omega
 | succ f ih=>
  intro q hq hb h1 ho hf
  unfold run tacF
  rw [ho]
  simp only [Bool.false_eq_true,if_false]
  by_cases h0:q.inp=[]
  ·have e:readL line q=(none,q):=by unfold readL;rw [h0];rfl
   rw [e,if_pos h0]
   exact ⟨q,rfl,by simp,hf⟩
  ·rw [if_neg h0]
   have e0:q.inp.isEmpty=false:=by
    cases hq2:q.inp with
    | nil=>exact absurd hq2 h0
    | cons _ _=>rfl
   by_cases hl:line < (Wi.lineOf q.inp).1.length
   ·have e:readL line q=(none,{ q with inp:=[],failed:=true }):=by
     unfold readL
     rw [e0,if_neg (by decide),if_pos hl]
    rw [e,if_pos hl]
    exact ⟨_,rfl,by simp,rfl⟩
   ·have e:readL line q=(some (Wi.lineOf q.inp).1,{ q with inp:=(Wi.lineOf q.inp).2.2,n:=q.n+1,jumps:=0 }):=by
     unfold readL
     rw [e0,if_neg (by decide),if_neg hl]
    rw [e,if_neg hl]
    have hll:=lineOf_all q.inp
    have hlt:=lineOf_lt q.inp h0
    have hout:=h1 h0
    obtain ⟨H,hH⟩:∃ H,(if q.n=0 then (Wi.lineOf q.inp).1 else (Wi.lineOf q.inp).1 ++ [10] ++ q.hold)=H:=⟨_,rfl⟩
    have hHl:H.length≤(Wi.lineOf q.inp).1.length+1+q.hold.length:=by
     rw [← hH]
     split
     ·omega
     ·simp
      omega
    have hc:=tac_cycle line (start q) (Wi.lineOf q.inp).1 rfl (by show q.out.length+2 * ((Wi.lineOf q.inp).1.length+q.hold.length)≤8000;rw [hout];simp only [List.length_nil];omega) (by show 1≤q.n+1;omega)
    have hn1:((start q).n=1)=(q.n=0):=by
     apply propext
     show q.n+1=1↔q.n=0
     omega
    have hhold:(start q).hold=q.hold:=rfl
    simp only [hn1,hhold,hH] at hc
    unfold start at hc
    simp only at hc
    simp only [hc,hH,Bool.not_true,Bool.and_false,Bool.false_eq_true,if_false]
    by_cases hr:(Wi.lineOf q.inp).2.2=[]
    ·simp only [hr,if_true]
     have hfpos:∃ f',f=f'+1:=⟨f - 1,by omega⟩
     obtain ⟨f',rfl⟩:=hfpos
     refine ⟨_,run_end line true tacCs 4 f' _ rfl, ?_, ?_⟩
     ·simp [tacF]
     ·simp only [tacF,if_true]
      exact hf
    ·simp only [hr,if_false,List.append_nil,List.nil_append]
     obtain ⟨q',h2,h3,h4⟩:=ih { q with inp:=(Wi.lineOf q.inp).2.2,n:=q.n+1,jumps:=0,pat:=H,hold:=H,joined:=false,done:=false } (by show (Wi.lineOf q.inp).2.2.length < f;omega) (by
      show q.out.length+2 * H.length+4 * (Wi.lineOf q.inp).2.2.length≤4000
      rw [hout]
      rw [hout] at hb
      simp only [List.length_nil] at hb ⊢
      omega) (fun _=>hout) ho hf
     exact ⟨q',h2,h3,h4⟩
def joinCs:List Cmd:=[⟨58,[],false,0,[97],tab0,none,[],false,false⟩,⟨123,[.fin],true,4,[],tab0,none,[],false,false⟩,cmd0 78 [] false,⟨98,[],false,0,[97],tab0,none,[],false,false⟩,cmd0 112 [] false]
def joinF (line:Nat):Nat→Bytes→Option Bytes
 | 0,_=>some []
 | f+1,inp=>if inp=[] then some [] else if line < (Wi.lineOf inp).1.length then none else (joinF line f (Wi.lineOf inp).2.2).map fun t=>[10] ++ (Wi.lineOf inp).1 ++ t
theorem join_fuel (line:Nat):∀ (f g:Nat) (inp:Bytes),inp.length < f→inp.length < g→joinF line f inp=joinF line g inp:=by
 intro f
 induction f with
 | zero=>intro g inp h;omega
 | succ f ih=>
  intro g inp h1 h2
  obtain ⟨g',rfl⟩:∃ g',g=g'+1:=⟨g - 1,by omega⟩
  unfold joinF
  by_cases h0:inp=[]
  ·rw [if_pos h0,if_pos h0]
  ·have:=lineOf_lt inp h0
   rw [if_neg h0,if_neg h0,ih g' _ (by omega) (by omega)]
theorem join_cycle (line:Nat):∀ (f:Nat) (q:St),q.inp.length < f→q.pat.length+2 * q.inp.length≤4000→q.over=false→q.failed=false→q.out=[]→q.jumps≤1 →
  ∃ e q',cycle line joinCs (4 * f+5) 0 q=some (e,q')∧q'.inp=[]∧(match joinF line f q.inp with
   | some t=>q'.out=q.pat ++ t ++ [10]∧q'.failed=false
   | none=>q'.out=[]∧q'.failed=true):=by
 have hx:∀ x:Bool,(x != true)=!x:=fun x=>by cases x <;> rfl
 intro f
 induction f with
 | zero=>intro q hq;omega
 | succ f ih=>
  intro q hq hb ho hf hout hj
  rw [show 4 * (f+1)+5=(4 * f+5)+1+1+1+1 by omega]
  have hF:∃ F,4 * f+5=F∧F=(4 * f+4)+1:=⟨_,rfl,by omega⟩
  unfold joinF
  by_cases h0:q.inp=[]
  ·have e0:q.inp.isEmpty=true:=by rw [h0];rfl
   have ht:tell (q.pat ++ [10]) q=some { q with out:=q.pat ++ [10] }:=by
    unfold tell
    rw [hout,if_pos (by simp;omega)]
    rfl
   refine ⟨true,{ q with out:=q.pat ++ [10] }, ?_,h0, ?_⟩
   ·simp [cycle,joinCs,chosen,fits,e0,verb,cmd0,ht]
   ·rw [if_pos h0]
    exact ⟨by simp,hf⟩
  ·rw [if_neg h0]
   have e0:q.inp.isEmpty=false:=by
    cases hq2:q.inp with
    | nil=>exact absurd hq2 h0
    | cons _ _=>rfl
   have hll:=lineOf_all q.inp
   have hlt:=lineOf_lt q.inp h0
   by_cases hl:line < (Wi.lineOf q.inp).1.length
   ·have e:readL line q=(none,{ q with inp:=[],failed:=true }):=by
     unfold readL
     rw [e0,if_neg (by decide),if_pos hl]
    rw [if_pos hl]
    refine ⟨false,{ q with inp:=[],failed:=true,over:=true }, ?_,rfl,hout,rfl⟩
    simp [cycle,joinCs,chosen,fits,e0,hx,verb,cmd0,e]
   ·have e:readL line q=(some (Wi.lineOf q.inp).1,{ q with inp:=(Wi.lineOf q.inp).2.2,n:=q.n+1,jumps:=0 }):=by
     unfold readL
     rw [e0,if_neg (by decide),if_neg hl]
    rw [if_neg hl]
    obtain ⟨en,q',h1,h2,h3⟩:=ih { q with inp:=(Wi.lineOf q.inp).2.2,n:=q.n+1,pat:=q.pat ++ [10] ++ (Wi.lineOf q.inp).1,joined:=true,jumps:=1 } (by show (Wi.lineOf q.inp).2.2.length < f;omega) (by
     show (q.pat ++ [10] ++ (Wi.lineOf q.inp).1).length+2 * (Wi.lineOf q.inp).2.2.length≤4000
     simp only [List.length_append,List.length_cons,List.length_nil]
     omega) ho hf hout (Nat.le_refl _)
    obtain ⟨F,hF1,-⟩:=hF
    rw [hF1] at h1 ⊢
    have hlen:q.pat.length+1+(Wi.lineOf q.inp).1.length≤8192:=by omega
    refine ⟨en,q', ?_,h2, ?_⟩
    ·rw [← h1]
     simp [cycle,joinCs,chosen,fits,e0,hx,verb,cmd0,e,hlen]
    ·cases hj2:joinF line f (Wi.lineOf q.inp).2.2 with
     | none=>
      simp only [hj2] at h3
      exact h3
     | some t=>
      simp only [hj2] at h3
      refine ⟨?_,h3.2⟩
      rw [h3.1]
      simp
theorem join_all (line:Nat) (f:Nat) (inp:Bytes) (hf:inp.length+1 < f) (hb:inp.length≤1000) :
  ∃ q',run line true joinCs (4 * f+5) f (begun joinCs inp)=some q'∧(match (if inp=[] then some [] else joinF line f inp) with
   | some t=>q'.out=t.drop 1 ++ (if inp=[] then [] else [10])∧q'.failed=false
   | none=>q'.out=[]∧q'.failed=true):=by
 obtain ⟨f',rfl⟩:∃ f',f=f'+1+1:=⟨f - 2,by omega⟩
 by_cases h0:inp=[]
 ·subst h0
  refine ⟨begun joinCs [], ?_, ?_⟩
  ·unfold run
   rfl
  ·simp [begun]
 ·rw [if_neg h0]
  have e0:(begun joinCs inp).inp.isEmpty=false:=by
   show inp.isEmpty=false
   cases inp with
   | nil=>exact absurd rfl h0
   | cons _ _=>rfl
  have hll:=lineOf_all inp
  have hlt:=lineOf_lt inp h0
  rw [joinF,if_neg h0]
  unfold run
  rw [show (begun joinCs inp).over=false from rfl]
  simp only [Bool.false_eq_true,if_false]
  by_cases hl:line < (Wi.lineOf inp).1.length
  ·have e:readL line (begun joinCs inp)=(none,{ begun joinCs inp with inp:=[],failed:=true }):=by
    unfold readL
    rw [e0,if_neg (by decide)]
    exact if_pos hl
   rw [e,if_pos hl]
   exact ⟨_,rfl,rfl,rfl⟩
  ·have e:readL line (begun joinCs inp)=(some (Wi.lineOf inp).1,{ begun joinCs inp with inp:=(Wi.lineOf inp).2.2,n:=1,jumps:=0 }):=by
    unfold readL
    rw [e0,if_neg (by decide)]
    exact if_neg hl
   rw [e,if_neg hl]
   obtain ⟨en,q',h1,h2,h3⟩:=join_cycle line (f'+1+1) { begun joinCs inp with inp:=(Wi.lineOf inp).2.2,n:=1,jumps:=0,pat:=(Wi.lineOf inp).1,joined:=false,done:=false } (by show (Wi.lineOf inp).2.2.length < f'+1+1;omega) (by
    show (Wi.lineOf inp).1.length+2 * (Wi.lineOf inp).2.2.length≤4000
    omega) rfl rfl rfl (Nat.zero_le _)
   simp only [h1,Bool.not_true,Bool.and_false,Bool.false_eq_true,if_false]
   have hrun:run line true joinCs (4 * (f'+1+1)+5) (f'+1) q'=some q':=by
    unfold run
    by_cases hov:q'.over=true
    ·rw [if_pos hov]
    ·rw [if_neg hov]
     unfold readL
     rw [h2]
     rfl
   refine ⟨q',hrun, ?_⟩
   have hfu:joinF line (f'+1+1) (Wi.lineOf inp).2.2=joinF line (f'+1) (Wi.lineOf inp).2.2:=join_fuel line _ _ _ (by omega) (by omega)
   rw [show ({ begun joinCs inp with inp:=(Wi.lineOf inp).2.2,n:=1,jumps:=0,pat:=(Wi.lineOf inp).1,joined:=false,done:=false }:St).inp=(Wi.lineOf inp).2.2 from rfl,hfu] at h3
   cases hj:joinF line (f'+1) (Wi.lineOf inp).2.2 with
   | none=>
    simp only [hj] at h3
    exact h3
   | some t=>
    simp only [hj] at h3
    refine ⟨?_,h3.2⟩
    rw [h3.1,if_neg h0]
    simp
end Go.Proofs.YtefpcacnblaokaaGreatDoor.Sd

/-
  Plain laws: what comes of sed's scripts, told by the list of lines. No program in sight. Conditions: those of each law.
-/
namespace Go.Proofs.YtefpcacnblaokaaGreatDoor.Wi
open Go
def linesF:Nat→Bytes→List Bytes
 | 0,_=>[]
 | k+1,inp=>if inp=[] then [] else (lineOf inp).1 :: linesF k (lineOf inp).2.2
def lines (inp:Bytes):List Bytes:=linesF inp.length inp
theorem linesF_more:∀ (k m:Nat) (inp:Bytes),inp.length≤k→inp.length≤m→linesF k inp=linesF m inp:=by
 intro k
 induction k with
 | zero=>
  intro m inp hk _
  have:inp=[]:=List.eq_nil_of_length_eq_zero (by omega)
  subst this
  cases m <;> simp [linesF]
 | succ k ih=>
  intro m inp hk hm
  by_cases h0:inp=[]
  ·subst h0;cases m <;> simp [linesF]
  have hr:=Sd.lineOf_lt inp h0
  cases m with
  | zero=>exact absurd (List.eq_nil_of_length_eq_zero (by omega)) h0
  | succ m=>
   rw [linesF,linesF,if_neg h0,if_neg h0,ih m _ (by omega) (by omega)]
theorem lines_cons (inp:Bytes) (h:inp≠[]):lines inp=(lineOf inp).1 :: lines (lineOf inp).2.2:=by
 unfold lines
 have hr:=Sd.lineOf_lt inp h
 have hl:0 < inp.length:=List.length_pos_iff.2 h
 obtain ⟨n,hn⟩:∃ n,inp.length=n+1:=⟨inp.length - 1,by omega⟩
 rw [hn,linesF,if_neg h,linesF_more n _ _ (by omega) (Nat.le_refl _)]
end Go.Proofs.YtefpcacnblaokaaGreatDoor.Wi
namespace Go.Proofs.YtefpcacnblaokaaGreatDoor.Sd
open Go
def flat (l:List Bytes):Bytes:=l.flatMap fun x=>x ++ [10]
def longs (line:Nat) (inp:Bytes):Bool:=(Wi.lines inp).any fun l=>decide (line < l.length)
theorem longs_cons (line:Nat) {inp:Bytes} (h:inp≠[]):longs line inp=(decide (line < (Wi.lineOf inp).1.length) || longs line (Wi.lineOf inp).2.2):=by
 unfold longs
 rw [Wi.lines_cons inp h,List.any_cons]
def told (g:Nat→Bytes→Bytes):Nat→List Bytes→Bytes
 | _,[]=>[]
 | n,l :: r=>g (n+1) l ++ told g (n+1) r
theorem outF_told (line:Nat) (g:Nat→Bytes→Bytes→Bytes) (k:Nat→Bytes→Bytes) (hg:∀ n l r,g n l r=k n l):∀ (f n:Nat) (inp:Bytes),inp.length < f→(outF line g f n inp).2=longs line inp∧(longs line inp=false→(outF line g f n inp).1=told k n (Wi.lines inp)):=by
 intro f
 induction f with
 | zero=>intro n inp h;omega
 | succ f ih=>
  intro n inp h
  unfold outF
  by_cases h0:inp=[]
  ·subst h0;exact ⟨rfl,fun _=>rfl⟩
  rw [if_neg h0,longs_cons line h0,Wi.lines_cons inp h0]
  have hlt:=lineOf_lt inp h0
  by_cases hl:line < (Wi.lineOf inp).1.length
  ·rw [if_pos hl]
   have e:decide (line < (Wi.lineOf inp).1.length)=true:=by simpa using hl
   rw [e]
   exact ⟨rfl,fun h=>by cases h⟩
  ·rw [if_neg hl]
   have e:decide (line < (Wi.lineOf inp).1.length)=false:=by simpa using hl
   rw [e,Bool.false_or]
   obtain ⟨h1,h2⟩:=ih (n+1) (Wi.lineOf inp).2.2 (by omega)
   refine ⟨h1,fun hf=>?_⟩
   show g _ _ _ ++ _=told k n (_ :: _)
   rw [hg,h2 hf,told]
theorem told_flat (n:Nat) (l:List Bytes):told (fun _ l=>l ++ [10]) n l=flat l:=by
 induction l generalizing n with
 | nil=>rfl
 | cons x r ih=>rw [told,ih];rfl
theorem tacF_told (line:Nat):∀ (f n:Nat) (h inp:Bytes),inp.length < f→(tacF line f n h inp).2=longs line inp∧(longs line inp=false→inp≠[]→(tacF line f n h inp).1=flat (Wi.lines inp).reverse ++ (if n=0 then [] else h ++ [10])):=by
 intro f
 induction f with
 | zero=>intro n h inp hf;omega
 | succ f ih=>
  intro n h inp hf
  unfold tacF
  by_cases h0:inp=[]
  ·subst h0;exact ⟨rfl,fun _ h=>absurd rfl h⟩
  rw [if_neg h0,longs_cons line h0,Wi.lines_cons inp h0]
  have hlt:=lineOf_lt inp h0
  by_cases hl:line < (Wi.lineOf inp).1.length
  ·rw [if_pos hl]
   have e:decide (line < (Wi.lineOf inp).1.length)=true:=by simpa using hl
   rw [e]
   exact ⟨rfl,fun h=>by cases h⟩
  ·rw [if_neg hl]
   have e:decide (line < (Wi.lineOf inp).1.length)=false:=by simpa using hl
   rw [e,Bool.false_or]
   obtain ⟨h1,h2⟩:=ih (n+1) (if n=0 then (Wi.lineOf inp).1 else (Wi.lineOf inp).1 ++ [10] ++ h) (Wi.lineOf inp).2.2 (by omega)
   refine ⟨h1,fun hlo _=>?_⟩
   show (if _ then _ else _) ++ (tacF _ _ _ _ _).1=_
   have hH:(if n=0 then (Wi.lineOf inp).1 else (Wi.lineOf inp).1 ++ [10] ++ h) ++ [10]=(Wi.lineOf inp).1 ++ [10] ++ (if n=0 then [] else h ++ [10]):=by
    split <;> simp
   by_cases hr:(Wi.lineOf inp).2.2=[]
   ·rw [if_pos hr,hH]
    have e1:(tacF line f (n+1) (if n=0 then (Wi.lineOf inp).1 else (Wi.lineOf inp).1 ++ [10] ++ h) (Wi.lineOf inp).2.2).1=[]:=by
     rw [hr]
     cases f with
     | zero=>rfl
     | succ f=>rw [tacF,if_pos rfl]
    rw [e1,hr]
    have e2:Wi.lines []=[]:=rfl
    rw [e2]
    simp [flat]
   ·rw [if_neg hr,h2 hlo hr,if_neg (by omega),hH,List.nil_append,List.reverse_cons]
    unfold flat
    rw [List.flatMap_append]
    simp
theorem joinF_told (line:Nat):∀ (f:Nat) (inp:Bytes),inp.length < f→joinF line f inp=if longs line inp then none else some ((Wi.lines inp).flatMap fun x=>[10] ++ x):=by
 intro f
 induction f with
 | zero=>intro inp hf;omega
 | succ f ih=>
  intro inp hf
  unfold joinF
  by_cases h0:inp=[]
  ·subst h0;rfl
  rw [if_neg h0,longs_cons line h0,Wi.lines_cons inp h0]
  have hlt:=lineOf_lt inp h0
  by_cases hl:line < (Wi.lineOf inp).1.length
  ·have e:decide (line < (Wi.lineOf inp).1.length)=true:=by simpa using hl
   rw [if_pos hl,e]
   rfl
  ·have e:decide (line < (Wi.lineOf inp).1.length)=false:=by simpa using hl
   rw [if_neg hl,e,Bool.false_or,ih _ (by omega)]
   cases longs line (Wi.lineOf inp).2.2 with
   | true=>rfl
   | false=>simp
theorem join_flat (l:List Bytes) (h:l≠[]):(l.flatMap fun x=>[10] ++ x).drop 1 ++ [10]=flat l:=by
 have:∀ (l:List Bytes),(l.flatMap fun x=>[10] ++ x) ++ [10]=[10] ++ flat l:=by
  intro l
  induction l with
  | nil=>rfl
  | cons x r ih=>
   rw [List.flatMap_cons,List.append_assoc,ih]
   simp [flat]
 cases l with
 | nil=>exact absurd rfl h
 | cons x r=>
  have h2:=congrArg (List.drop 1) (this (x :: r))
  rw [List.drop_append_of_le_length (by simp)] at h2
  exact h2
end Go.Proofs.YtefpcacnblaokaaGreatDoor.Sd
