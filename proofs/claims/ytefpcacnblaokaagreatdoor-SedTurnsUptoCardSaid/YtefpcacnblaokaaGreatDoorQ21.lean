/-
  Texts of this seat put together: Sd4, Sd5, Sd6, Sd7.
-/
import Derived.Test.YtefpcacnblaokaaGreatDoorQ20
import Derived.Test.YtefpcacnblaokaaGreatDoorQ4

/-
  The walks of the script reader's number and regex. Conditions: the reader lies in memory; what the library's variables hold; the script is no longer than a million bytes.
-/
set_option maxRecDepth 100000
set_option maxHeartbeats 8000000
namespace Go.Proofs.YtefpcacnblaokaaGreatDoor
open Go.RowKit Go.Shelf Go.Maps Go.Sort
theorem s_number (least most:Nat) (s:Bts) (n:Nat) (t:Bts) (h:Sd.number least most s=some (n,t)):Ord.number (s.takeWhile Ord.digit) most=some (n:Int)∧least≤n∧n≤most∧s.length≤1000000∧t=s.dropWhile Ord.digit:=by
 unfold Sd.number at h
 simp only at h
 split at h
 ·rename_i hc
  simp only [Bool.and_eq_true,decide_eq_true_eq,Bool.not_eq_true'] at hc
  injection h with h
  injection h with h1 h2
  subst h1
  subst h2
  refine ⟨?_,hc.2.2.1,hc.2.1,hc.2.2.2,rfl⟩
  refine Ord.number_some_of _ _ (fun e=>by rw [e] at hc;simp at hc) List.all_takeWhile (by omega)
 ·cases h
theorem snumber_any (r least most:Nat) (hmo:most≤2147483647) (_hle:least≤2147483647) (s:Bts) (n:Nat) (t:Bts) (hn:Sd.number least most s=some (n,t)) (lv ov:Value) (w:World) (hg:Glo w) (h:RdB w r s lv ov) :
  Calls Tryz.prog 107 #[.pointer (some ⟨r,0,none⟩),.int .i64 least,.int .i64 most] w fun e w'=>(e=.returned (.int .i64 n)∧RdB w' r t lv ov)∧Kept (·=r) w w':=by
 obtain ⟨hn1,hn2,hn3,hs,rfl⟩:=s_number least most s n t hn
 have c0:=h.s
 have hrl:=Blk.lt h
 have htl:=trimL_any s [48,49,50,51,52,53,54,55,56,57] Ord.digit sdigit_contains (by decide) (by decide) w
 have hd:(s.dropWhile Ord.digit).length≤s.length:=(List.dropWhile_sublist _).length_le
 have htt:(s.takeWhile Ord.digit).length≤s.length:=(List.takeWhile_sublist _).length_le
 have hnv:numVal (s.takeWhile Ord.digit) most=.tuple #[.int .i64 n,.bool true]:=by unfold numVal;rw [hn1]
 have e1:decide ((n:Int) < (least:Int))=false:=by simp;omega
 have H:=Lib.hid h
 have HG:=Lib.hid hg
 clear h hg hn hn1
 go_enter Tryz.func107,Tryz.ntmps107
 go_wp2_with fail
 refine htl.mono ?_
 rintro e w1 ⟨rfl,hb1⟩
 have h1:=H.out.below hb1
 have HK1:=Lib.hid (Kept.of_below (S:=(·=r)) hb1)
 have hg1:=HG.out.below hb1
 have c1:=h1.s
 clear htl c0 hb1
 go_upto_region 2 with fail
 have hpa:∀ d os,Calls Tryz.prog 176 #[.string ⟨(s.takeWhile Ord.digit).toArray⟩,.int .i64 most] (grow (redrawn w1 d) os) fun e w'=>e=.returned (numVal (s.takeWhile Ord.digit) most)∧∃ p:Regrown,w'=grow (redrawn w1 p.d) p.os:=fun d os=>by
  refine Calls.regrown_of (number_any (s.takeWhile Ord.digit) most (by omega) (by omega) (by omega) _ ?_)
  exact hg1.below (below_regrown w1 d os)
 have kk:=cell_regrown c1
 have hsub:((s.length:Int) - ((s.dropWhile Ord.digit).length:Int))=(((s.takeWhile Ord.digit).length:Nat):Int):=by
  have h:=congrArg List.length (List.takeWhile_append_dropWhile (p:=Ord.digit) (l:=s))
  simp only [List.length_append] at h
  omega
 have hwr:IntKind.i64.wrap (((s.takeWhile Ord.digit).length:Nat):Int)=(((s.takeWhile Ord.digit).length:Nat):Int):=by
  have:(((s.takeWhile Ord.digit).length:Nat):Int) < 1073741824:=by omega
  simp [IntKind.wrap,IntKind.signed,IntKind.bits];omega
 have hex:(⟨s.toArray⟩:ByteArray).extract 0 (s.takeWhile Ord.digit).length=⟨(s.takeWhile Ord.digit).toArray⟩:=by
  rw [extract_take]
  congr 2
  have h:=List.takeWhile_append_dropWhile (p:=Ord.digit) (l:=s)
  have h2:(s.takeWhile Ord.digit ++ s.dropWhile Ord.digit).take (s.takeWhile Ord.digit).length=s.takeWhile Ord.digit:=List.take_left
  rw [h] at h2
  exact h2
 have hd2:(s.dropWhile Ord.digit).length < 1073741824:=by omega
 rw [hnv] at hpa
 refine wp_region_quiet_below (by kernel_rfl) (by kernel_rfl) ?_
 repeat (quiet_step (first | with_reducible exact hpa _ _))
 refine wpQuiet_nil ?_
 intro _ hw'
 obtain ⟨⟨dq,osq⟩,hw''⟩:=hw'
 subst hw''
 have hbb:=below_regrown w1 dq osq
 have HK2:Hid (Kept (·=r) w (grow (redrawn w1 dq) osq)):=HK1.out.trans (Kept.of_below hbb)
 have h2:=h1.below hbb
 clear hpa kk hbb h1 c1
 generalize grow (redrawn w1 dq) osq=w2 at *
 have c0:=h2.s
 have f0:=Blk.free h2 0
 have H2:=Lib.hid h2
 clear h2 hg1
 go_wp2_with fail
 go_ret
 exact ⟨⟨rfl,H2.out.set _⟩,HK2.out.setCell (.inl rfl) 0 _⟩
def RegexPost (W0:World) (r:Nat) (a:Sd.Ans (Bts × Bts)) (lv ov:Value) (e:Ending) (w':World):Prop:=match a with
 | .off=>True
 | .bad n=>e=.panicked [{ v:=brokV n,recovered:=false }]
 | .ok (b,t)=>∃ q,e=.returned (ptrC q)∧RdB w' r t lv ov∧RdyK w' (fun k=>W0.heap.size≤k∧k < w'.heap.size) q b
theorem Glo.rg {W:World} (h:Glo W):Rg.Glo W:=⟨h.syn,h.rng,h.mx,h.tab⟩
theorem rx_good {b:Bts} (h:Sd.rxGood b=true):∃ n,Rg.Rx.read b false false=some n∧Sd.rxNode b=n∧n.size≤10000∧(Rg.progOf n).2.length≤1000000:=by
 unfold Sd.rxGood at h
 cases hr:Rg.Rx.read b false false with
 | none=>rw [hr] at h;cases h
 | some n=>
  rw [hr] at h
  simp only [Bool.and_eq_true,decide_eq_true_eq] at h
  exact ⟨n,rfl,by unfold Sd.rxNode;rw [hr];rfl,h.1,h.2⟩
theorem bs_lits (w:World) (cs:Array Value) (l:Bts) (t:TypeId) (h:cs=(l.map u8V).toArray):Bs (w.alloc (.cells cs t)) (some ⟨w.heap.size,0,none⟩) l:=fun _=>⟨_,0,rfl,fun i hi=>by
 rw [Nat.zero_add]
 refine (Blk.new w cs t).cell i ?_
 rw [h,List.getElem?_toArray,List.getElem?_map,List.getElem?_eq_getElem hi,List.getD_eq_getElem?_getD,List.getElem?_eq_getElem hi]
 rfl⟩
theorem sregex_any (r:Nat) (d:UInt8) (s:Bts) (a:Sd.Ans (Bts × Bts)) (ha:Sd.regex d s=a) (lv ov:Value) (w:World) (hg:Glo w) (h:RdB w r s lv ov) (hna:a≠.off) (hr8:8≤r) :
  Calls Tryz.prog 63 #[.pointer (some ⟨r,0,none⟩),.int .u8 d.toNat] w fun e w'=>RegexPost w r a lv ov e w'∧Kept (·=r) w w':=by
 obtain ⟨RES,hRES⟩:∃ RES,Sd.rxText d (s.length+1) [] s=RES:=⟨_,rfl⟩
 unfold Sd.regex at ha
 have hs:s.length≤1000000:=by
  rcases Nat.lt_or_ge 1000000 s.length with h1 | h1
  ·rw [if_pos h1] at ha
   exact absurd ha.symm hna
  ·exact h1
 rw [if_neg (by omega),hRES] at ha
 have hrl:=Blk.lt h
 have HA:=Lib.hid ha
 have HNA:=Lib.hid hna
 have HG:=Lib.hid hg
 have HT:=Lib.hid hRES
 have H:=Lib.hid h
 clear ha hna hg hRES h
 go_enter Tryz.func63,Tryz.ntmps63
 go_wp2_with fail
 go_loopg [4,5,6,7,8,11,30,34,48,51,58] (s.length+1) (fun f _x4 x5 _x6 _x7 _x8 _x11 _x30 _x34 _x48 _x51 _x58 wr=>∃ (acc s1:Bts),Hid (Sd.rxText d f acc s1=RES)∧acc.length+s1.length≤s.length∧Hid (wr.ownsRow w.heap.size 5 1 x5 acc.length (acc.map u8V))∧Hid (RdB wr r s1 lv ov)∧Hid (Kept (·=r) w wr))
 case atStart=>exact ⟨[],s,HT,by simp,Lib.hid (World.ownsRow_nil _ _ _ _),H,Lib.hid (Kept.refl _ _)⟩
 case round=>
  obtain ⟨acc,s1,HE,hlen,HO,HR,HK⟩:=hrel
  have hRn:RES≠none:=fun e=>HNA.out (by have:=HA.out;rw [e] at this;exact this.symm)
  have hg1:∃ g,gk=g+1:=by
   cases gk with
   | zero=>exact absurd HE.out.symm hRn
   | succ g=>exact ⟨g,rfl⟩
  obtain ⟨g,rfl⟩:=hg1
  have HRN:=Lib.hid hRn
  clear hRn
  have ht:=stake_any r s1 lv ov wr HR.out
  unfold TakePost at ht
  have hob:∀ (W:World) (v:Value) (n:Nat) (xs:List Value),W.ownsRow w.heap.size 5 1 v n xs→∀ k,v.ownBlock=some k→¬ k=r:=fun W v n xs ho k e hk=>by
   have:=(ho.lt k e).1
   omega
  have HOB:=Lib.hid hob
  clear hob
  cases s1 with
  | nil=>
   have hx:a=.bad 21:=by
    have h1:=HE.out
    rw [show Sd.rxText d (g+1) acc []=some none from rfl] at h1
    have h2:=HA.out
    rw [← h1] at h2
    exact h2.symm
   subst hx
   go_wp2_with fail
   refine ht.mono ?_
   rintro e w1 ⟨rfl,hk⟩
   go_wp2_with fail
   exact ⟨rfl,rfl,HK.out.trans hk⟩
  | cons c t=>
   simp only at ht
   go_wp2_with fail
   refine ht.mono ?_
   rintro e w1 ⟨⟨rfl,hr1⟩,hk1⟩
   have HO1:=Lib.hid (own_kept HO.out hk1 (HOB.out _ _ _ _ HO.out))
   have HR1:=Lib.hid hr1
   have HK1:=Lib.hid (HK.out.trans hk1)
   have hsz1:=HK1.out.size
   have hlen1:acc.length+t.length+1≤s.length:=by simp at hlen;omega
   have HE1:=HE.out
   unfold Sd.rxText at HE1
   clear ht hr1 hk1 HO HR HK HE hlen
   obtain ⟨p,cap,rfl,hbs⟩:=bs_own HO1.out rfl
   by_cases hcd:c=d
   ·rw [if_pos hcd] at HE1
    have h2:=HA.out
    rw [← HE1] at h2
    simp only at h2
    by_cases hgd:(Sd.rxGood acc && !acc.isEmpty && decide (acc.length≤1000000))=true
    ·rw [if_pos hgd] at h2
     subst h2
     simp only [Bool.and_eq_true,Bool.not_eq_true',decide_eq_true_eq] at hgd
     obtain ⟨n,hrd,hnd,hsz,hpl⟩:=rx_good hgd.1.1
     have hl0:((acc.length:Int) == 0)=false:=by
      cases acc with
      | nil=>simp at hgd
      | cons _ _=>simp;omega
     have hconv:=run_str hbs cap
     have e1:((c.toNat:Int) == (d.toNat:Int))=true:=by rw [hcd];simp
     have hgl1:Glo w1:=HG.out.kept HK1.out (fun k hk=>by subst hk;exact hr8)
     have hpa:=Rg.Parse_any acc false false w1 hgl1.rg hgl1.big (by omega)
     rw [hrd] at hpa
     unfold Rg.ParsePost at hpa
     simp only [if_neg (Nat.not_lt.2 hsz)] at hpa
     have HND:=Lib.hid hnd
     have HGD:=Lib.hid hgd.1.1
     clear hgd hrd hsz hgl1 hnd HE1
     go_wp2_with fail
     refine hpa.mono ?_
     rintro e w2 ⟨⟨q0,rfl,hre⟩,hb2⟩
     have hnew:=Rg.New_any _ q0 n w2 hre hpl
     have HB2:=Lib.hid hb2
     clear hpa hb2 hre
     go_wp2_with fail
     refine hnew.mono ?_
     rintro e w3 ⟨⟨rfl,v3,L3,hpg,hst⟩,hb3⟩
     have HB3:=Lib.hid (HB2.out.trans (hb3.mono HB2.out.size))
     have HPG:=Lib.hid hpg
     have HST:=Lib.hid hst
     clear hnew hb3 hpg hst
     go_wp2_with fail
     go_ret
     have hq3:=HPG.out.blk.lt
     refine ⟨⟨_,rfl,HR1.out.below HB3.out,HGD.out,⟨w1.heap.size,v3,L3, ?_, ?_,fun k h1 h2=>⟨by omega,by omega⟩,fun k e=>?_⟩, ?_, ?_⟩,HK1.out.trans (Kept.of_below HB3.out)⟩
     ·have:=HPG.out
      unfold Sd.rxProg
      rw [HND.out]
      exact this
     ·rw [HST.out]
      unfold Sd.rxProg
      rw [HND.out]
      rfl
     ·have h1:=HPG.out.own.lt k e
      have h2:=HB2.out.size
      exact ⟨by omega,h1.2⟩
     ·have:=HB2.out.size
      omega
     ·exact hq3
    ·rw [if_neg hgd] at h2
     exact absurd h2.symm HNA.out
   ·rw [if_neg hcd] at HE1
    have e1:((c.toNat:Int) == (d.toNat:Int))=false:=by
     rw [u8_eq] at hcd
     simpa using hcd
    have HEX:=Lib.hid HE1
    have HRL:=Lib.hid hrl
    have hstep:∀ (l:Bts) (wz w4 w5:World) (v':Value),wz.ownsRow w.heap.size 5 1 (.slice p acc.length cap) acc.length (acc.map u8V)→Kept (·=r) w wz→Kept (fun _=>False) wz w4→w4.grownBy w5 (Value.slice p acc.length cap).ownBlock→w5.ownsRow w.heap.size 5 1 v' (acc.length+l.length) (acc.map u8V ++ l.map u8V)→Kept (·=r) w w5∧(∀ t' ,RdB w4 r t' lv ov→RdB w5 r t' lv ov)∧w5.ownsRow w.heap.size 5 1 v' (acc ++ l).length ((acc ++ l).map u8V):=by
     intro l wz w4 w5 v' hOz hKz hk4 hg5 ho5
     have hk5:=kept_grown hk4 hg5
     have hob:=HOB.out _ _ _ _ hOz
     have hrw1:r < w4.heap.size:=Nat.lt_of_lt_of_le (Nat.lt_of_lt_of_le HRL.out hKz.size) hk4.size
     refine ⟨⟨hk5.os.trans hKz.os,hk5.tape.trans hKz.tape,hk5.output.trans hKz.output,Nat.le_trans hKz.size hk5.size,fun k hk hs=>(hk5.block k (Nat.lt_of_lt_of_le hk hKz.size) (fun e=>by have:=(hOz.lt k e).1;omega)).trans (hKz.block k hk hs)⟩,fun t' ht'=>?_, ?_⟩
     ·exact (hg5.block r hrw1 (fun e=>hob r e.symm rfl)).trans ht'
     ·simpa using ho5
    have HSTEP:=Lib.hid hstep
    clear hstep HE1
    by_cases h10:c=10
    ·have:=HEX.out
     rw [if_pos h10] at this
     exact absurd this.symm HRN.out
    ·have e2:((c.toNat:Int) == 10)=false:=by
      rw [u8_eq] at h10
      simpa using h10
     by_cases h92:c=92
     ·have e3:((c.toNat:Int) != 92)=false:=by
       rw [h92]
       rfl
      have ht2:=stake_any r t lv ov w1 HR1.out
      unfold TakePost at ht2
      have hex:=HEX.out
      rw [if_neg h10,if_neg (by simpa using h92)] at hex
      cases t with
      | nil=>
       have hx:a=.bad 21:=by
        have h2:=HA.out
        rw [← hex] at h2
        exact h2.symm
       subst hx
       clear hex
       go_wp2_with fail
       refine ht2.mono ?_
       rintro e w2 ⟨rfl,hk⟩
       go_wp2_with fail
       exact ⟨rfl,rfl,HK1.out.trans hk⟩
      | cons c2 t2=>
       simp only at ht2 hex
       have hlen2:acc.length+t2.length+2≤s.length:=by simp at hlen1;omega
       go_wp2_with fail
       refine ht2.mono ?_
       rintro e w2 ⟨⟨rfl,hr2⟩,hk2⟩
       have HO2:=Lib.hid (own_kept HO1.out hk2 (HOB.out _ _ _ _ HO1.out))
       have HR2:=Lib.hid hr2
       have HK2:=Lib.hid (HK1.out.trans hk2)
       have hsz2:=HK2.out.size
       clear ht2 hr2 hk2
       by_cases k10:c2=10
       ·rw [if_pos k10] at hex
        exact absurd hex.symm HRN.out
       ·rw [if_neg k10] at hex
        have g1:((c2.toNat:Int) == 10)=false:=by
         rw [u8_eq] at k10
         simpa using k10
        by_cases kd:c2=d
        ·rw [if_pos kd] at hex
         have g2:((c2.toNat:Int) == (d.toNat:Int))=true:=by rw [kd];simp
         have HEX3:=Lib.hid hex
         clear hex kd k10
         have hbs1:=bs_lits w2 #[.int .u8 c2.toNat] [c2] 5 rfl
         go_wp2_with (at_builtin;refine append_bytes rfl _ _ rfl w.heap.size _ acc.length (acc.map u8V) rfl (HO2.out.alloc _) (some ⟨w2.heap.size,0,none⟩) [c2] 1 rfl hbs1 (by simp;omega) (by simp;omega) ?_;intro v' w5 ho5 hg5 hv5)
         have hst:=HSTEP.out [c2] w2 _ w5 v' HO2.out HK2.out ((Kept.refl _ w2).alloc _) hg5 ho5
         have HS5:=Lib.hid hst
         clear hst ho5 hg5 hv5 hbs1
         go_roundg g
         case measure=>omega
         case rel=>exact ⟨acc ++ [c2],t2,HEX3,by simp;omega,Lib.hid HS5.out.2.2,Lib.hid (HS5.out.2.1 t2 (Blk.alloc HR2.out _)),Lib.hid HS5.out.1⟩
        ·rw [if_neg kd] at hex
         have g2:((c2.toNat:Int) == (d.toNat:Int))=false:=by
          rw [u8_eq] at kd
          simpa using kd
         by_cases kn:c2=110
         ·rw [if_pos kn] at hex
          have g3:((c2.toNat:Int) == 110)=true:=by rw [kn];rfl
          have HEX3:=Lib.hid hex
          clear hex kd k10 kn
          have hbs1:=bs_lits w2 #[.int .u8 10] [10] 5 rfl
          go_wp2_with (at_builtin;refine append_bytes rfl _ _ rfl w.heap.size _ acc.length (acc.map u8V) rfl (HO2.out.alloc _) (some ⟨w2.heap.size,0,none⟩) [10] 1 rfl hbs1 (by simp;omega) (by simp;omega) ?_;intro v' w5 ho5 hg5 hv5)
          have hst:=HSTEP.out [10] w2 _ w5 v' HO2.out HK2.out ((Kept.refl _ w2).alloc _) hg5 ho5
          have HS5:=Lib.hid hst
          clear hst ho5 hg5 hv5 hbs1
          go_roundg g
          case measure=>omega
          case rel=>exact ⟨acc ++ [10],t2,HEX3,by simp;omega,Lib.hid HS5.out.2.2,Lib.hid (HS5.out.2.1 t2 (Blk.alloc HR2.out _)),Lib.hid HS5.out.1⟩
         ·rw [if_neg kn] at hex
          have g3:((c2.toNat:Int) == 110)=false:=by
           rw [u8_eq] at kn
           simpa using kn
          have HEX3:=Lib.hid hex
          clear hex kd k10 kn
          have hbs1:=bs_lits w2 #[.int .u8 92,.int .u8 c2.toNat] [92,c2] 5 rfl
          go_wp2_with (at_builtin;refine append_bytes rfl _ _ rfl w.heap.size _ acc.length (acc.map u8V) rfl (HO2.out.alloc _) (some ⟨w2.heap.size,0,none⟩) [92,c2] 2 rfl hbs1 (by simp;omega) (by simp;omega) ?_;intro v' w5 ho5 hg5 hv5)
          have hst:=HSTEP.out [92,c2] w2 _ w5 v' HO2.out HK2.out ((Kept.refl _ w2).alloc _) hg5 ho5
          have HS5:=Lib.hid hst
          clear hst ho5 hg5 hv5 hbs1
          go_roundg g
          case measure=>omega
          case rel=>exact ⟨acc ++ [92,c2],t2,HEX3,by simp;omega,Lib.hid HS5.out.2.2,Lib.hid (HS5.out.2.1 t2 (Blk.alloc HR2.out _)),Lib.hid HS5.out.1⟩
     ·have e3:((c.toNat:Int) != 92)=true:=by
       rw [u8_eq] at h92
       simpa using h92
      have hbs1:=bs_lits w1 #[.int .u8 c.toNat] [c] 5 rfl
      have hex:=HEX.out
      rw [if_neg h10,if_pos (by simpa using h92)] at hex
      have HEX2:=Lib.hid hex
      clear hex
      go_wp2_with (at_builtin;refine append_bytes rfl _ _ rfl w.heap.size _ acc.length (acc.map u8V) rfl (HO1.out.alloc _) (some ⟨w1.heap.size,0,none⟩) [c] 1 rfl hbs1 (by simp;omega) (by simp;omega) ?_;intro v' w5 ho5 hg5 hv5)
      have hst:=HSTEP.out [c] w1 _ w5 v' HO1.out HK1.out ((Kept.refl _ w1).alloc _) hg5 ho5
      have HS5:=Lib.hid hst
      clear hst ho5 hg5 hv5 hbs1
      go_roundg g
      case measure=>omega
      case rel=>exact ⟨acc ++ [c],t,HEX2,by simp;omega,Lib.hid HS5.out.2.2,Lib.hid (HS5.out.2.1 t (Blk.alloc HR1.out _)),Lib.hid HS5.out.1⟩
end Go.Proofs.YtefpcacnblaokaaGreatDoor

/-
  The walks of the script reader's most and side. Conditions: the reader lies in memory; what the spec tells.
-/
set_option maxRecDepth 100000
set_option maxHeartbeats 8000000
namespace Go.Proofs.YtefpcacnblaokaaGreatDoor
open Go.RowKit Go.Shelf Go.Maps Go.Sort
theorem smost_any (c:UInt8) (w:World):Calls Tryz.prog 101 #[.int .u8 c.toNat] w fun e w'=>e=.returned (.int .i64 (Sd.most c))∧w'=w:=by
 have k1:=fun w=>idxS_any [125,58,35] c w
 have k2:=fun w=>idxS_any [61,97,105,113] c w
 have k3:=fun w=>idxS_any [123,99,100,68,103,71,104,72,110,78,112,80,120,98,116,121,115] c w
 have d1:=idx_contains [125,58,35] c
 have d2:=idx_contains [61,97,105,113] c
 have d3:=idx_contains [123,99,100,68,103,71,104,72,110,78,112,80,120,98,116,121,115] c
 unfold Sd.most
 generalize Lib.indexByte [125,58,35] c=i1 at *
 generalize Lib.indexByte [61,97,105,113] c=i2 at *
 generalize Lib.indexByte [123,99,100,68,103,71,104,72,110,78,112,80,120,98,116,121,115] c=i3 at *
 generalize List.contains ([125,58,35]:Sd.Bytes) c=b1 at *
 generalize List.contains ([61,97,105,113]:Sd.Bytes) c=b2 at *
 generalize List.contains ([123,99,100,68,103,71,104,72,110,78,112,80,120,98,116,121,115]:Sd.Bytes) c=b3 at *
 go_enter Tryz.func101,Tryz.ntmps101
 go_wp2_with fail
 refine (k1 _).mono ?_
 rintro e w1 ⟨rfl,rfl⟩
 cases b1 with
 | true=>
  go_wp2_with fail
  go_ret
  exact ⟨rfl,rfl⟩
 | false=>
  go_wp2_with fail
  refine (k2 _).mono ?_
  rintro e w2 ⟨rfl,rfl⟩
  cases b2 with
  | true=>
   go_wp2_with fail
   go_ret
   exact ⟨rfl,rfl⟩
  | false=>
   go_wp2_with fail
   refine (k3 _).mono ?_
   rintro e w3 ⟨rfl,rfl⟩
   cases b3 with
   | true=>
    go_wp2_with fail
    go_ret
    exact ⟨rfl,rfl⟩
   | false=>
    go_wp2_with fail
    go_ret
    exact ⟨rfl,rfl⟩
theorem info_piece:(Tryz.prog.info? 229).map (fun i=>(i.zero,i.size,i.bytes))=some (some (.agg #[.bool false,.int .u8 0]),2,2):=by kernel_rfl
theorem pcs_app (l:List Sd.Pc) (p:Sd.Pc):(l ++ [p]).flatMap pcCells=l.flatMap pcCells ++ pcCells p:=by simp
theorem pcs_len (l:List Sd.Pc):(l.flatMap pcCells).length=l.length * 2:=by
 induction l with
 | nil=>rfl
 | cons x r ih=>rw [List.flatMap_cons,List.length_append,ih];simp [pcCells];omega
def SidePost (W0:World) (r:Nat) (L:List Sd.Pc) (t:Bts) (lv ov:Value) (e:Ending) (w':World):Prop:=∃ v,e=.returned v∧w'.ownsRow W0.heap.size 229 2 v L.length (L.flatMap pcCells)∧RdB w' r t lv ov
theorem sside_any (r:Nat) (d:UInt8) (rep:Bool) (s:Bts) (hs:s.length≤1000000) (L:List Sd.Pc) (t:Bts) (hx:Sd.side d rep s []=some (L,t)) (lv ov:Value) (w:World) (h:RdB w r s lv ov) :
  Calls Tryz.prog 64 #[.pointer (some ⟨r,0,none⟩),.int .u8 d.toNat,.bool rep] w fun e w'=>SidePost w r L t lv ov e w'∧Kept (·=r) w w':=by
 obtain ⟨i0,hi0,hz0,hz1,hz2⟩:=info_parts info_piece
 have hrl:=Blk.lt h
 have HX:=Lib.hid hx
 have H:=Lib.hid h
 clear hx h
 go_enter Tryz.func64,Tryz.ntmps64
 go_wp2_with fail
 go_loopg [6,7,8,11,16,20,30,35,39,42] s.length (fun f _x6 x7 _x8 _x11 _x16 _x20 _x30 _x35 _x39 _x42 wr=>∃ (acc:List Sd.Pc) (s1:Bts) (v7:Value),v7=x7∧Hid (Sd.side d rep s1 acc=some (L,t))∧s1.length≤f∧acc.length+s1.length≤s.length∧Hid (wr.ownsRow w.heap.size 229 2 v7 acc.length (acc.flatMap pcCells))∧Hid (RdB wr r s1 lv ov)∧Hid (Kept (·=r) w wr))
 case atStart=>exact ⟨[],s,_,rfl,HX,Nat.le_refl _,by simp,Lib.hid (World.ownsRow_nil _ _ _ _),H,Lib.hid (Kept.refl _ _)⟩
 case round=>
  obtain ⟨acc,s1,v7,hv7,HE,hf,hlen,HO,HR,HK⟩:=hrel
  subst hv7
  have ht:=stake_any r s1 lv ov wr HR.out
  unfold TakePost at ht
  cases s1 with
  | nil=>exact absurd HE.out (by unfold Sd.side;simp)
  | cons c u=>
   simp only at ht
   go_wp2_with fail
   refine ht.mono ?_
   rintro e w1 ⟨⟨rfl,hr1⟩,hk1⟩
   have hob:∀ k,v7.ownBlock=some k→¬ k=r:=fun k e hk=>by
    have:=(HO.out.lt k e).1
    omega
   have HO1:=Lib.hid (own_kept HO.out hk1 hob)
   have HR1:=Lib.hid hr1
   have HK1:=Lib.hid (HK.out.trans hk1)
   have hsz1:=HK1.out.size
   have hlen1:acc.length+u.length+1≤s.length:=by simp at hlen;omega
   have hf1:u.length < gk:=by simp at hf;omega
   have HE1:=HE.out
   unfold Sd.side at HE1
   have HRL:=Lib.hid hrl
   have HOB:=Lib.hid hob
   clear ht hr1 hk1 HO HR HK HE hlen hf hob
   have hstep:∀ (l:Sd.Pc) (w5:World) (O:Obj) (v':Value),(w1.alloc O).grownBy w5 v7.ownBlock→w5.ownsRow w.heap.size 229 2 v' (acc.length+1) (acc.flatMap pcCells ++ pcCells l)→Kept (·=r) w w5∧RdB w5 r u lv ov∧w5.ownsRow w.heap.size 229 2 v' (acc ++ [l]).length ((acc ++ [l]).flatMap pcCells):=by
    intro l w5 O v' hg5 ho5
    have hk5:=kept_grown ((Kept.refl (fun _=>False) w1).alloc O) hg5
    refine ⟨⟨hk5.os.trans HK1.out.os,hk5.tape.trans HK1.out.tape,hk5.output.trans HK1.out.output,Nat.le_trans HK1.out.size hk5.size,fun k hk hs=>(hk5.block k (Nat.lt_of_lt_of_le hk HK1.out.size) (fun e=>by have:=(HO1.out.lt k e).1;omega)).trans (HK1.out.block k hk hs)⟩,HR1.out.kept hk5 (fun e=>HOB.out r e rfl), ?_⟩
    rw [pcs_app,List.length_append]
    exact ho5
   have HSTEP:=Lib.hid hstep
   clear hstep
   by_cases hcd:c=d
   ·rw [if_pos hcd] at HE1
    injection HE1 with HE1
    injection HE1 with h1 h2
    have e1:((c.toNat:Int) == (d.toNat:Int))=true:=by rw [hcd];simp
    subst h1
    subst h2
    clear hcd
    go_wp2_with fail
    go_ret
    exact ⟨⟨_,rfl,HO1.out,HR1.out⟩,HK1.out⟩
   ·rw [if_neg hcd] at HE1
    have e1:((c.toNat:Int) == (d.toNat:Int))=false:=by
     rw [u8_eq] at hcd
     simpa using hcd
    by_cases h10:c=10∨c=92
    ·rw [if_pos h10] at HE1
     cases HE1
    ·rw [if_neg h10] at HE1
     have e2:((c.toNat:Int) == 10)=false:=by
      have:=fun h=>h10 (.inl h)
      rw [u8_eq] at this
      simpa using this
     have e3:((c.toNat:Int) == 92)=false:=by
      have:=fun h=>h10 (.inr h)
      rw [u8_eq] at this
      simpa using this
     clear hcd h10
     by_cases h38:c=38∧rep=true
     ·rw [if_pos h38] at HE1
      obtain ⟨h39,rfl⟩:=h38
      have e5:((c.toNat:Int) == 38)=true:=by rw [h39];rfl
      have HEX:=Lib.hid HE1
      clear HE1 h39
      go_wp2_with (at_builtin;refine wpList_append_own _ rfl _ _ 86 rfl w.heap.size 229 i0 (.agg #[.bool false,.int .u8 0]) 2 2 Tryz.underlying86 hi0 hz0 hz1 hz2 rfl (by decide) _ _ _ rfl (HO1.out.alloc _) ⟨w1.heap.size,0,none⟩ 1 1 [.bool true,.int .u8 0] rfl rfl (cells_new _ #[_,_] _) (by simp [Value.oneCell']) (by unfold maxLen;omega) (by omega) (by simp;omega) ?_;intro v' w5 ho5 hg5 _)
      have HS5:=Lib.hid (HSTEP.out ⟨true,0⟩ w5 _ v' hg5 ho5)
      clear ho5 hg5
      go_roundg u.length
      case measure=>exact hf1
      case rel=>exact ⟨acc ++ [⟨true,0⟩],u,_,rfl,HEX,Nat.le_refl _,by simp;omega,Lib.hid HS5.out.2.2,Lib.hid HS5.out.2.1,Lib.hid HS5.out.1⟩
     ·rw [if_neg h38] at HE1
      have e4:(((c.toNat:Int) == 38) && rep)=false:=by
       rw [u8_eq] at h38
       rw [Bool.eq_false_iff]
       intro h
       rw [Bool.and_eq_true] at h
       exact h38 ⟨by simpa using h.1,h.2⟩
      have HEX:=Lib.hid HE1
      clear HE1
      by_cases h39:c=38
      ·have hr:rep=false:=by
        cases rep with
        | true=>exact absurd ⟨h39,rfl⟩ h38
        | false=>rfl
       have e5:((c.toNat:Int) == 38)=true:=by rw [h39];rfl
       subst hr
       clear h38 e4 h39
       go_wp2_with (at_builtin;refine wpList_append_own _ rfl _ _ 86 rfl w.heap.size 229 i0 (.agg #[.bool false,.int .u8 0]) 2 2 Tryz.underlying86 hi0 hz0 hz1 hz2 rfl (by decide) _ _ _ rfl (HO1.out.alloc _) ⟨w1.heap.size,0,none⟩ 1 1 [.bool false,.int .u8 c.toNat] rfl rfl (cells_new _ #[_,_] _) (by simp [Value.oneCell']) (by unfold maxLen;omega) (by omega) (by simp;omega) ?_;intro v' w5 ho5 hg5 _)
       have HS5:=Lib.hid (HSTEP.out ⟨false,c⟩ w5 _ v' hg5 ho5)
       clear ho5 hg5
       go_roundg u.length
       case measure=>exact hf1
       case rel=>exact ⟨acc ++ [⟨false,c⟩],u,_,rfl,HEX,Nat.le_refl _,by simp;omega,Lib.hid HS5.out.2.2,Lib.hid HS5.out.2.1,Lib.hid HS5.out.1⟩
      ·have e5:((c.toNat:Int) == 38)=false:=by
        rw [u8_eq] at h39
        simpa using h39
       clear h38 h39 e4
       go_wp2_with (at_builtin;refine wpList_append_own _ rfl _ _ 86 rfl w.heap.size 229 i0 (.agg #[.bool false,.int .u8 0]) 2 2 Tryz.underlying86 hi0 hz0 hz1 hz2 rfl (by decide) _ _ _ rfl (HO1.out.alloc _) ⟨w1.heap.size,0,none⟩ 1 1 [.bool false,.int .u8 c.toNat] rfl rfl (cells_new _ #[_,_] _) (by simp [Value.oneCell']) (by unfold maxLen;omega) (by omega) (by simp;omega) ?_;intro v' w5 ho5 hg5 _)
       have HS5:=Lib.hid (HSTEP.out ⟨false,c⟩ w5 _ v' hg5 ho5)
       clear ho5 hg5
       go_roundg u.length
       case measure=>exact hf1
       case rel=>exact ⟨acc ++ [⟨false,c⟩],u,_,rfl,HEX,Nat.le_refl _,by simp;omega,Lib.hid HS5.out.2.2,Lib.hid HS5.out.2.1,Lib.hid HS5.out.1⟩
end Go.Proofs.YtefpcacnblaokaaGreatDoor

/-
  The walk of the script reader's address. Conditions: the reader lies in memory; what the library's variables hold; what the spec tells.
-/
set_option maxRecDepth 100000
set_option maxHeartbeats 8000000
namespace Go.Proofs.YtefpcacnblaokaaGreatDoor
open Go.RowKit Go.Shelf Go.Maps Go.Sort
def adAns (W0 W:World) (o:Option Sd.Adr) (av:Value):Prop:=match o with
 | none=>av=.agg #[.int .i64 0,.int .i64 0,.pointer none]
 | some a=>∃ q,av=.agg (adCells a q).toArray∧adOk W (fun k=>W0.heap.size≤k∧k < W.heap.size) a q
def AdrPost (W0:World) (r:Nat) (o:Option Sd.Adr) (t:Bts) (lv ov:Value) (e:Ending) (w':World):Prop:=∃ av,e=.returned (.tuple #[av,.bool o.isSome])∧adAns W0 w' o av∧RdB w' r t lv ov
theorem saddress_any (r:Nat) (s:Bts) (o:Option Sd.Adr) (t:Bts) (ha:Sd.adr s=some (o,t)) (lv ov:Value) (w:World) (hg:Glo w) (h:RdB w r s lv ov) (hr8:8≤r) :
  Calls Tryz.prog 97 #[.pointer (some ⟨r,0,none⟩)] w fun e w'=>AdrPost w r o t lv ov e w'∧Kept (·=r) w w':=by
 have hrl:=Blk.lt h
 obtain ⟨w0,hw0⟩:∃ w0,w.alloc (.cells #[.int .i64 0,.int .i64 0,.pointer none] 224)=w0:=⟨_,rfl⟩
 have hb0:Below w.heap.size w w0:=by rw [← hw0];exact (Below.refl _ _).alloc (Nat.le_refl _) _
 have h0:RdB w0 r s lv ov:=by rw [← hw0];exact Blk.alloc h _
 have k0:Blk w0 w.heap.size #[.int .i64 0,.int .i64 0,.pointer none] 224:=by rw [← hw0];exact Blk.new _ _ _
 have hs0:w0.heap.size=w.heap.size+1:=by rw [← hw0];simp
 have HW0:=Lib.hid hw0
 have HG:=Lib.hid (hg.below hb0)
 have HB0:=Lib.hid hb0
 have HR:=Lib.hid h0
 have HK0:=Lib.hid k0
 have HS0:=Lib.hid hs0
 have HRL:=Lib.hid hrl
 have hend:∀ (w1:World) (a b:Int) (p:Option Addr),Kept (·=r) w0 w1→Blk (((w1.setCell ⟨w.heap.size,0,none⟩ (.int .i64 a)).setCell ⟨w.heap.size,1,none⟩ (.int .i64 b)).setCell ⟨w.heap.size,2,none⟩ (.pointer p)) w.heap.size #[.int .i64 a,.int .i64 b,.pointer p] 224 ∧
   Kept (fun k=>k=w.heap.size) w1 (((w1.setCell ⟨w.heap.size,0,none⟩ (.int .i64 a)).setCell ⟨w.heap.size,1,none⟩ (.int .i64 b)).setCell ⟨w.heap.size,2,none⟩ (.pointer p)) ∧
   Kept (·=r) w (((w1.setCell ⟨w.heap.size,0,none⟩ (.int .i64 a)).setCell ⟨w.heap.size,1,none⟩ (.int .i64 b)).setCell ⟨w.heap.size,2,none⟩ (.pointer p)):=by
  intro w1 a b p hk
  have hk1:=Blk.kept HK0.out hk (fun e=>by have:=HRL.out;omega)
  refine ⟨((hk1.set 0 _).set 1 _).set 2 _,(((Kept.refl (fun k=>k=w.heap.size) w1).setCell (.inl rfl) 0 _).setCell (.inl rfl) 1 _).setCell (.inl rfl) 2 _, ?_⟩
  exact ((((Kept.of_below (S:=(·=r)) HB0.out).trans hk).setCell (.inr (Nat.le_refl _)) 0 _).setCell (.inr (Nat.le_refl _)) 1 _).setCell (.inr (Nat.le_refl _)) 2 _
 have HEND:=Lib.hid hend
 have i1:=fun w1 (h1:RdB w1 r s lv ov)=>sis_any r [48,49,50,51,52,53,54,55,56,57] s lv ov w1 h1
 have i2:=fun w1 (h1:RdB w1 r s lv ov)=>sis_any r [36] s lv ov w1 h1
 have i3:=fun w1 (h1:RdB w1 r s lv ov)=>sis_any r [47] s lv ov w1 h1
 have i4:=fun w1 (h1:RdB w1 r s lv ov)=>sis_any r [92] s lv ov w1 h1
 unfold Sd.adr at ha
 by_cases hd:Sd.isIn [48,49,50,51,52,53,54,55,56,57] s=true
 ·rw [if_pos hd] at ha
  rw [hd] at i1
  cases hn:Sd.number 1 2147483647 s with
  | none=>rw [hn] at ha;cases ha
  | some x=>
   obtain ⟨n,u⟩:=x
   rw [hn] at ha
   simp only [Option.map_some,Option.some.injEq,Prod.mk.injEq] at ha
   obtain ⟨rfl,rfl⟩:=ha
   have hnum:=snumber_any r 1 2147483647 (by decide) (by decide) s n u hn lv ov w0 HG.out HR.out
   have hi:=i1 w0 HR.out
   clear hd hn i1 i2 i3 i4 hend hw0 hb0 h0 k0 hs0 hg h hrl
   go_enter Tryz.func97,Tryz.ntmps97
   go_wp2_with fail
   rw [HW0.out]
   refine hi.mono ?_
   rintro e w1 ⟨rfl,rfl⟩
   clear hi
   go_wp2_with fail
   refine hnum.mono ?_
   rintro e w2 ⟨⟨rfl,hr2⟩,hk2⟩
   have hE:=HEND.out w2 1 n none hk2
   have kb:=Blk.kept HK0.out hk2 (fun e=>by have:=HRL.out;omega)
   have z0:=kb.cell 0 (v:=.int .i64 0) rfl
   have z1:=kb.cell 1 (v:=.int .i64 0) rfl
   have z2:=kb.cell 2 (v:=.pointer none) rfl
   have f0:=kb.free 0
   have f1:=kb.free 1
   have f2:=kb.free 2
   have HE:=Lib.hid hE
   have HR2:=Lib.hid hr2
   clear hnum hk2 hE hr2 kb
   go_wp2_with fail
   have r0:=HE.out.1.cell 0 (v:=.int .i64 1) rfl
   have r1:=HE.out.1.cell 1 (v:=.int .i64 n) rfl
   have r2:=HE.out.1.cell 2 (v:=.pointer none) rfl
   refine bodyPost_ret (v:=.tuple #[.agg #[.int .i64 1,.int .i64 n,.pointer none],.bool true]) ?_ rfl ⟨⟨_,rfl,⟨none,rfl,trivial⟩,HR2.out.kept HE.out.2.1 (fun e=>by have:=HRL.out;omega)⟩,HE.out.2.2⟩
   simp [results,Tryz.results97,go_sem,r0,r1,r2]
 ·rw [if_neg hd] at ha
  have hd':Sd.isIn [48,49,50,51,52,53,54,55,56,57] s=false:=by simpa using hd
  rw [hd'] at i1
  clear hd hd'
  cases s with
  | nil=>
   simp only [Option.some.injEq,Prod.mk.injEq] at ha
   obtain ⟨rfl,rfl⟩:=ha
   rw [show Sd.isIn [36] []=false from rfl] at i2
   rw [show Sd.isIn [47] []=false from rfl] at i3
   rw [show Sd.isIn [92] []=false from rfl] at i4
   clear hw0 hb0 h0 k0 hs0 hg h hrl hend
   go_enter Tryz.func97,Tryz.ntmps97
   go_wp2_with fail
   rw [HW0.out]
   refine (i1 _ HR.out).mono ?_
   rintro e w1 ⟨rfl,rfl⟩
   go_wp2_with fail
   refine (i2 _ HR.out).mono ?_
   rintro e w1 ⟨rfl,rfl⟩
   go_wp2_with fail
   refine (i3 _ HR.out).mono ?_
   rintro e w1 ⟨rfl,rfl⟩
   go_wp2_with fail
   refine (i4 _ HR.out).mono ?_
   rintro e w1 ⟨rfl,rfl⟩
   have hE:=HEND.out w1 0 0 none (Kept.refl _ _)
   have kb:=HK0.out
   have z0:=kb.cell 0 (v:=.int .i64 0) rfl
   have z1:=kb.cell 1 (v:=.int .i64 0) rfl
   have z2:=kb.cell 2 (v:=.pointer none) rfl
   have f0:=kb.free 0
   have f1:=kb.free 1
   have f2:=kb.free 2
   have HE:=Lib.hid hE
   clear hE kb i1 i2 i3 i4
   go_wp2_with fail
   have r0:=HE.out.1.cell 0 (v:=.int .i64 0) rfl
   have r1:=HE.out.1.cell 1 (v:=.int .i64 0) rfl
   have r2:=HE.out.1.cell 2 (v:=.pointer none) rfl
   refine bodyPost_ret (v:=.tuple #[.agg #[.int .i64 0,.int .i64 0,.pointer none],.bool false]) ?_ rfl ⟨⟨_,rfl,rfl,HR.out.kept HE.out.2.1 (fun e=>by have:=HRL.out;omega)⟩,HE.out.2.2⟩
   simp [results,Tryz.results97,go_sem,r0,r1,r2]
  | cons c u=>
   simp only at ha
   have hin:∀ k:UInt8,Sd.isIn [k] (c :: u)=(c == k):=fun k=>by
    show List.contains [k] c=_
    rw [List.contains_cons]
    simp
   rw [hin] at i2 i3 i4
   by_cases h36:c=36
   ·subst h36
    rw [if_pos rfl] at ha
    simp only [Option.some.injEq,Prod.mk.injEq] at ha
    obtain ⟨rfl,rfl⟩:=ha
    have ht:=stake_any r (36 :: u) lv ov w0 HR.out
    unfold TakePost at ht
    simp only at ht
    rw [show ((36:UInt8) == 36)=true from rfl] at i2
    clear hw0 hb0 h0 k0 hs0 hg h hrl hend i3 i4 hin
    go_enter Tryz.func97,Tryz.ntmps97
    go_wp2_with fail
    rw [HW0.out]
    refine (i1 _ HR.out).mono ?_
    rintro e w1 ⟨rfl,rfl⟩
    go_wp2_with fail
    refine (i2 _ HR.out).mono ?_
    rintro e w1 ⟨rfl,rfl⟩
    clear i1 i2
    go_wp2_with fail
    refine ht.mono ?_
    rintro e w2 ⟨⟨rfl,hr2⟩,hk2⟩
    have hE:=HEND.out w2 2 0 none hk2
    have kb:=Blk.kept HK0.out hk2 (fun e=>by have:=HRL.out;omega)
    have z0:=kb.cell 0 (v:=.int .i64 0) rfl
    have z1:=kb.cell 1 (v:=.int .i64 0) rfl
    have z2:=kb.cell 2 (v:=.pointer none) rfl
    have f0:=kb.free 0
    have f1:=kb.free 1
    have f2:=kb.free 2
    have HE:=Lib.hid hE
    have HR2:=Lib.hid hr2
    clear ht hk2 hE hr2 kb
    go_wp2_with fail
    have r0:=HE.out.1.cell 0 (v:=.int .i64 2) rfl
    have r1:=HE.out.1.cell 1 (v:=.int .i64 0) rfl
    have r2:=HE.out.1.cell 2 (v:=.pointer none) rfl
    refine bodyPost_ret (v:=.tuple #[.agg #[.int .i64 2,.int .i64 0,.pointer none],.bool true]) ?_ rfl ⟨⟨_,rfl,⟨none,rfl,trivial⟩,HR2.out.kept HE.out.2.1 (fun e=>by have:=HRL.out;omega)⟩,HE.out.2.2⟩
    simp [results,Tryz.results97,go_sem,r0,r1,r2]
   ·rw [if_neg h36] at ha
    have e36:(c == 36)=false:=by simpa using h36
    rw [e36] at i2
    by_cases h47:c=47
    ·subst h47
     rw [if_pos rfl] at ha
     have ht:=stake_any r (47 :: u) lv ov w0 HR.out
     unfold TakePost at ht
     simp only at ht
     rw [show ((47:UInt8) == 47)=true from rfl] at i3
     obtain ⟨RA,hRA⟩:∃ RA,Sd.regex 47 u=RA:=⟨_,rfl⟩
     rw [hRA] at ha
     cases RA with
     | off=>cases ha
     | bad n=>cases ha
     | ok x=>
      obtain ⟨b,u2⟩:=x
      simp only [Option.some.injEq,Prod.mk.injEq] at ha
      obtain ⟨rfl,rfl⟩:=ha
      have hrx:=fun w1 hg1 h1=>sregex_any r 47 u (.ok (b,u2)) hRA lv ov w1 hg1 h1 (fun h=>by cases h) hr8
      clear hw0 hb0 h0 k0 hs0 hg h hrl hend i4 hin hRA h36 e36
      go_enter Tryz.func97,Tryz.ntmps97
      go_wp2_with fail
      rw [HW0.out]
      refine (i1 _ HR.out).mono ?_
      rintro e w1 ⟨rfl,rfl⟩
      go_wp2_with fail
      refine (i2 _ HR.out).mono ?_
      rintro e w1 ⟨rfl,rfl⟩
      go_wp2_with fail
      refine (i3 _ HR.out).mono ?_
      rintro e w1 ⟨rfl,rfl⟩
      clear i1 i2 i3
      go_wp2_with fail
      refine ht.mono ?_
      rintro e w2 ⟨⟨rfl,hr2⟩,hk2⟩
      have hrx2:=hrx w2 (HG.out.kept hk2 (fun k hk=>by subst hk;exact hr8)) hr2
      have HK2:=Lib.hid hk2
      clear ht hrx hr2 hk2
      go_wp2_with fail
      refine hrx2.mono ?_
      rintro e w3 ⟨⟨q,rfl,hr3,hrd⟩,hk3⟩
      have hk23:=HK2.out.trans hk3
      have hE:=HEND.out w3 3 0 (some ⟨q,0,none⟩) hk23
      have kb:=Blk.kept HK0.out hk23 (fun e=>by have:=HRL.out;omega)
      have z0:=kb.cell 0 (v:=.int .i64 0) rfl
      have z1:=kb.cell 1 (v:=.int .i64 0) rfl
      have z2:=kb.cell 2 (v:=.pointer none) rfl
      have f0:=kb.free 0
      have f1:=kb.free 1
      have f2:=kb.free 2
      have HE:=Lib.hid hE
      have HR3:=Lib.hid hr3
      have HRD:=Lib.hid hrd
      have hsz:w.heap.size < w2.heap.size:=Nat.lt_of_lt_of_le (by have:=HS0.out;omega) HK2.out.size
      have HSZ:=Lib.hid hsz
      clear hrx2 hk3 hk23 hE hr3 hrd kb hsz
      unfold ptrC
      go_wp2_with fail
      have r0:=HE.out.1.cell 0 (v:=.int .i64 3) rfl
      have r1:=HE.out.1.cell 1 (v:=.int .i64 0) rfl
      have r2:=HE.out.1.cell 2 (v:=.pointer (some ⟨q,0,none⟩)) rfl
      have hfin:adOk (((w3.setCell ⟨w.heap.size,0,none⟩ (.int .i64 3)).setCell ⟨w.heap.size,1,none⟩ (.int .i64 0)).setCell ⟨w.heap.size,2,none⟩ (.pointer (some ⟨q,0,none⟩))) (fun k=>w.heap.size≤k∧k < (((w3.setCell ⟨w.heap.size,0,none⟩ (.int .i64 3)).setCell ⟨w.heap.size,1,none⟩ (.int .i64 0)).setCell ⟨w.heap.size,2,none⟩ (.pointer (some ⟨q,0,none⟩))).heap.size) (.rx b) (some q):=
       ⟨q,rfl,(HRD.out.kept HE.out.2.1 (fun k hk e=>by have:=HSZ.out;omega)).mono (fun k hk=>⟨by have:=HSZ.out;omega,Nat.lt_of_lt_of_le hk.2 HE.out.2.1.size⟩)⟩
      refine bodyPost_ret (v:=.tuple #[.agg #[.int .i64 3,.int .i64 0,.pointer (some ⟨q,0,none⟩)],.bool true]) ?_ rfl ⟨⟨_,rfl,⟨some q,rfl,hfin⟩,HR3.out.kept HE.out.2.1 (fun e=>by have:=HRL.out;omega)⟩,HE.out.2.2⟩
      simp [results,Tryz.results97,go_sem,r0,r1,r2]
    ·rw [if_neg h47] at ha
     have e47:(c == 47)=false:=by simpa using h47
     rw [e47] at i3
     by_cases h92:c=92
     ·rw [if_pos h92] at ha
      cases ha
     ·rw [if_neg h92] at ha
      have e92:(c == 92)=false:=by simpa using h92
      rw [e92] at i4
      simp only [Option.some.injEq,Prod.mk.injEq] at ha
      obtain ⟨rfl,rfl⟩:=ha
      clear hin h36 e36 h47 e47 h92 e92
      clear hw0 hb0 h0 k0 hs0 hg h hrl hend
      go_enter Tryz.func97,Tryz.ntmps97
      go_wp2_with fail
      rw [HW0.out]
      refine (i1 _ HR.out).mono ?_
      rintro e w1 ⟨rfl,rfl⟩
      go_wp2_with fail
      refine (i2 _ HR.out).mono ?_
      rintro e w1 ⟨rfl,rfl⟩
      go_wp2_with fail
      refine (i3 _ HR.out).mono ?_
      rintro e w1 ⟨rfl,rfl⟩
      go_wp2_with fail
      refine (i4 _ HR.out).mono ?_
      rintro e w1 ⟨rfl,rfl⟩
      have hE:=HEND.out w1 0 0 none (Kept.refl _ _)
      have kb:=HK0.out
      have z0:=kb.cell 0 (v:=.int .i64 0) rfl
      have z1:=kb.cell 1 (v:=.int .i64 0) rfl
      have z2:=kb.cell 2 (v:=.pointer none) rfl
      have f0:=kb.free 0
      have f1:=kb.free 1
      have f2:=kb.free 2
      have HE:=Lib.hid hE
      clear hE kb i1 i2 i3 i4
      go_wp2_with fail
      have r0:=HE.out.1.cell 0 (v:=.int .i64 0) rfl
      have r1:=HE.out.1.cell 1 (v:=.int .i64 0) rfl
      have r2:=HE.out.1.cell 2 (v:=.pointer none) rfl
      refine bodyPost_ret (v:=.tuple #[.agg #[.int .i64 0,.int .i64 0,.pointer none],.bool false]) ?_ rfl ⟨⟨_,rfl,rfl,HR.out.kept HE.out.2.1 (fun e=>by have:=HRL.out;omega)⟩,HE.out.2.2⟩
      simp [results,Tryz.results97,go_sem,r0,r1,r2]
end Go.Proofs.YtefpcacnblaokaaGreatDoor

/-
  The walks of the script reader's name and flags. Conditions: the reader and the command lie in memory; what the spec tells.
-/
set_option maxRecDepth 100000
set_option maxHeartbeats 8000000
namespace Go.Proofs.YtefpcacnblaokaaGreatDoor
open Go.RowKit Go.Shelf Go.Maps Go.Sort
theorem stop_contains (c:UInt8):List.contains [10,59] c=Sd.stop c:=by
 rw [Bool.eq_iff_iff]
 simp [Sd.stop]
theorem idxAny_stop (s:Bts):Lib.indexAny s [10,59]=if (s.dropWhile fun c=>!Sd.stop c)=[] then -1 else ((s.takeWhile fun c=>!Sd.stop c).length:Int):=by
 induction s with
 | nil=>rfl
 | cons b r ih=>
  unfold Lib.indexAny
  rw [stop_contains,List.dropWhile_cons,List.takeWhile_cons]
  cases hb:Sd.stop b with
  | true=>simp
  | false=>
   simp only [Bool.not_false,if_true,Bool.false_eq_true,if_false,List.length_cons]
   rw [ih]
   by_cases h:(r.dropWhile fun c=>!Sd.stop c)=[]
   ·rw [if_pos h,if_pos h];rfl
   ·rw [if_neg h,if_neg h]
    rw [if_neg (by simp;try omega)]
    try simp
theorem sname_any (r:Nat) (s:Bts) (hs:s.length≤1000000) (hasc:s.all (fun b=>decide (b.toNat < 128))=true) (lv ov:Value) (w:World) (h:RdB w r s lv ov) :
  Calls Tryz.prog 60 #[.pointer (some ⟨r,0,none⟩)] w fun e w'=>(e=.returned (.string ⟨(Sd.name s).1.toArray⟩)∧RdB w' r (Sd.name s).2 lv ov)∧Kept (·=r) w w':=by
 have hrl:=Blk.lt h
 have c0:=h.s
 have hix:Calls Tryz.prog 103 #[.string ⟨s.toArray⟩,.string ⟨#[10,59]⟩] w fun e w'=>e=.returned (.int .i64 (Lib.indexAny s [10,59]))∧Below w.heap.size w w':=
  Any.strings_IndexAny_laid Tryz.lays153 (by kernel_rfl) ⟨s.toArray⟩ ⟨#[10,59]⟩ w (by simp [ByteArray.size];omega) (by decide) (ascii_of_all hasc) (ascii_of_all (l:=[10,59]) (by decide))
 have htk:(s.takeWhile fun c=>!Sd.stop c).length≤s.length:=(List.takeWhile_sublist _).length_le
 have hsp:(s.takeWhile fun c=>!Sd.stop c) ++ (s.dropWhile fun c=>!Sd.stop c)=s:=List.takeWhile_append_dropWhile
 have htr:∀ (u:Bts) (W:World),u.length≤1000000→Calls Tryz.prog 104 #[.string ⟨u.toArray⟩,.string ⟨#[32,9]⟩] W fun e w'=>e=.returned (.string ⟨(Sd.trim u).toArray⟩)∧Below W.heap.size W w':=fun u W hu=>by
  have h:=Any.strings_Trim_laid Tryz.lays160 (by kernel_rfl) ⟨u.toArray⟩ ⟨#[32,9]⟩ W (by simp [ByteArray.size];omega) (by decide) (ascii_of_all (l:=[32,9]) (by decide))
  have e:Lib.trimS u [32,9]=Sd.trim u:=by
   unfold Lib.trimS Lib.trimLeftS Lib.trimRightS Sd.trim
   have:(fun c=>List.contains ([32,9]:List UInt8) c)=Sd.blank:=funext blank_contains
   rw [this]
  rw [← e]
  exact h
 rw [idxAny_stop] at hix
 unfold Sd.name
 obtain ⟨T,hT⟩:∃ T,(s.takeWhile fun c=>!Sd.stop c)=T:=⟨_,rfl⟩
 obtain ⟨D,hD⟩:∃ D,(s.dropWhile fun c=>!Sd.stop c)=D:=⟨_,rfl⟩
 rw [hT,hD] at hsp
 rw [hT] at htk
 rw [hD,hT] at hix
 simp only [hT,hD]
 have hsl:s.length=T.length+D.length:=by rw [← hsp];simp
 have hext:(⟨s.toArray⟩:ByteArray).extract 0 T.length=⟨T.toArray⟩:=by
  rw [extract_take,← hsp,List.take_left]
 have hexd:(⟨s.toArray⟩:ByteArray).extract T.length s.length=⟨D.toArray⟩:=by
  rw [extract_drop]
  congr 2
  rw [← hsp,List.drop_left]
 have H:=Lib.hid h
 have HTR:=Lib.hid htr
 have hTl:T.length≤1000000:=by omega
 have HD:=Lib.hid hD
 clear h htr hT hD hsp hasc
 have htt:=HTR.out T
 by_cases hd:D=[]
 ·rw [if_pos hd] at hix
  subst hd
  have hl:s.length=T.length:=by simpa using hsl
  rw [hl] at hexd
  clear hsl htk
  go_enter Tryz.func60,Tryz.ntmps60
  go_wp2_with fail
  refine hix.mono ?_
  rintro e w1 ⟨rfl,hb1⟩
  have h1:=H.out.below hb1
  have c1:=h1.s
  have HB1:=Lib.hid hb1
  have htw:=htt w1 hTl
  have H1:=Lib.hid h1
  clear hix hb1 h1 c0
  go_wp2_with fail
  refine htw.mono ?_
  rintro e w2 ⟨rfl,hb2⟩
  have h2:=H1.out.below hb2
  have c2:=h2.s
  have f2:=Blk.free h2 0
  have H2:=Lib.hid h2
  have HB2:=Lib.hid (HB1.out.trans (hb2.mono HB1.out.size))
  clear htw hb2 h2 c1
  go_wp2_with fail
  go_ret
  exact ⟨⟨rfl,H2.out.set _⟩,(Kept.of_below (S:=(·=r)) HB2.out).setCell (.inl rfl) 0 _⟩
 ·rw [if_neg hd] at hix
  have hl1:decide ((T.length:Int) < 0)=false:=by simp
  have hl2:(T.length:Int)≤s.length:=by omega
  clear hd hsl
  go_enter Tryz.func60,Tryz.ntmps60
  go_wp2_with fail
  refine hix.mono ?_
  rintro e w1 ⟨rfl,hb1⟩
  have h1:=H.out.below hb1
  have c1:=h1.s
  have HB1:=Lib.hid hb1
  have htw:=htt w1 hTl
  have H1:=Lib.hid h1
  clear hix hb1 h1 c0
  go_wp2_with fail
  refine htw.mono ?_
  rintro e w2 ⟨rfl,hb2⟩
  have h2:=H1.out.below hb2
  have c2:=h2.s
  have f2:=Blk.free h2 0
  have H2:=Lib.hid h2
  have HB2:=Lib.hid (HB1.out.trans (hb2.mono HB1.out.size))
  clear htw hb2 h2 c1
  go_wp2_with fail
  go_ret
  exact ⟨⟨rfl,H2.out.set _⟩,(Kept.of_below (S:=(·=r)) HB2.out).setCell (.inl rfl) 0 _⟩
theorem sflags_any (r q:Nat) (hrq:r≠q) (f0:Nat) (x y:Sd.Cmd) (s t:Bts) (hx:Sd.flags f0 x s=some (y,t)) (htab:x.tab.length=256) (lv ov av re rv:Value) (w:World) (h:RdB w r s lv ov) (hq:CmBlk w q x av re rv) :
  Calls Tryz.prog 65 #[.pointer (some ⟨r,0,none⟩),.pointer (some ⟨q,0,none⟩)] w fun e w'=>(e=.returned (.tuple #[])∧RdB w' r t lv ov∧CmBlk w' q y av re rv∧y.tab.length=256)∧Kept (fun k=>k=r∨k=q) w w':=by
 have HX:=Lib.hid hx
 have H:=Lib.hid h
 have HQ:=Lib.hid hq
 clear hx h hq
 go_enter Tryz.func65,Tryz.ntmps65
 go_wp2_with fail
 go_loopg [4,19,34] f0 (fun f _x4 _x19 _x34 wr=>∃ (x1:Sd.Cmd) (s1:Bts),Hid (Sd.flags f x1 s1=some (y,t))∧Hid (RdB wr r s1 lv ov)∧Hid (CmBlk wr q x1 av re rv)∧x1.tab.length=256∧Hid (Kept (fun k=>k=r∨k=q) w wr))
 case atStart=>exact ⟨x,s,HX,H,HQ,htab,Lib.hid (Kept.refl _ _)⟩
 case round=>
  obtain ⟨x1,s1,HE,HR,HC,htab1,HK⟩:=hrel
  have hg1:∃ g,gk=g+1:=by
   cases gk with
   | zero=>exact absurd HE.out (by unfold Sd.flags;simp)
   | succ g=>exact ⟨g,rfl⟩
  obtain ⟨g,rfl⟩:=hg1
  have i1:=sis_any r [103] s1 lv ov wr HR.out
  have i2:=sis_any r [112] s1 lv ov wr HR.out
  have i3:=sis_any r [48,49,50,51,52,53,54,55,56,57] s1 lv ov wr HR.out
  have ht:=stake_any r s1 lv ov wr HR.out
  unfold TakePost at ht
  have ca:=Blk.cell HC.out 264 (cm_all htab1)
  have cp:=Blk.cell HC.out 265 (cm_prt htab1)
  have HE1:=HE.out
  cases s1 with
  | nil=>
   rw [show Sd.flags (g+1) x1 []=some (x1,[]) from rfl] at HE1
   simp only [Option.some.injEq,Prod.mk.injEq] at HE1
   obtain ⟨rfl,rfl⟩:=HE1
   rw [show Sd.isIn [103] []=false from rfl] at i1
   rw [show Sd.isIn [112] []=false from rfl] at i2
   rw [show Sd.isIn [48,49,50,51,52,53,54,55,56,57] []=false from rfl] at i3
   clear ht HE
   go_wp2_with fail
   refine i1.mono ?_
   rintro e w1 ⟨rfl,rfl⟩
   go_wp2_with fail
   refine i2.mono ?_
   rintro e w1 ⟨rfl,rfl⟩
   go_wp2_with fail
   refine i3.mono ?_
   rintro e w1 ⟨rfl,rfl⟩
   clear i1 i2 i3
   go_wp2_with fail
   refine bodyPost_ret (results_none rfl _ _ _) rfl ?_
   exact ⟨⟨rfl,HR.out,HC.out,htab1⟩,HK.out⟩
  | cons c u=>
   have hin:∀ k:UInt8,Sd.isIn [k] (c :: u)=(c == k):=fun k=>by
    show List.contains [k] c=_
    rw [List.contains_cons]
    simp
   rw [hin] at i1 i2
   rw [show Sd.isIn [48,49,50,51,52,53,54,55,56,57] (c :: u)=Ord.digit c from sdigit_contains c] at i3
   simp only at ht
   unfold Sd.flags at HE1
   by_cases hA:c=103∧x1.all=false
   ·rw [if_pos hA] at HE1
    obtain ⟨rfl,hal⟩:=hA
    rw [show ((103:UInt8) == 103)=true from rfl] at i1
    rw [hal] at ca
    have HEX:=Lib.hid HE1
    clear HE1 i2 i3 hin HE hal
    go_wp2_with fail
    refine i1.mono ?_
    rintro e w1 ⟨rfl,rfl⟩
    clear i1
    go_wp2_with fail
    refine ht.mono ?_
    rintro e w2 ⟨⟨rfl,hr2⟩,hk2⟩
    have hc2:=Blk.kept HC.out hk2 (fun e=>hrq e.symm)
    have fz:=hc2.free 264
    have cz:=Blk.cell hc2 264 (cm_all htab1)
    have hset:=Blk.set hc2 264 (.bool true)
    rw [cm_set_all htab1] at hset
    have HR2:=Lib.hid hr2
    have HS2:=Lib.hid hset
    have HK2:=Lib.hid (HK.out.trans (hk2.mono fun _ _ e=>.inl e))
    clear ht hr2 hk2 hc2 hset ca cp
    go_wp2_with fail
    go_roundg g
    case measure=>omega
    case rel=>exact ⟨{ x1 with all:=true },u,HEX,Lib.hid (Blk.setOther HR2.out (a:=⟨q,264,none⟩) hrq _),Lib.hid HS2.out,htab1,Lib.hid (HK2.out.setCell (.inl (.inr rfl)) 264 _)⟩
   ·rw [if_neg hA] at HE1
    by_cases hB:c=112∧x1.prt=false
    ·rw [if_pos hB] at HE1
     obtain ⟨rfl,hpr⟩:=hB
     rw [show ((112:UInt8) == 103)=false from rfl] at i1
     rw [show ((112:UInt8) == 112)=true from rfl] at i2
     rw [hpr] at cp
     have HEX:=Lib.hid HE1
     clear HE1 i3 hin HE hpr hA
     go_wp2_with fail
     refine i1.mono ?_
     rintro e w1 ⟨rfl,rfl⟩
     clear i1
     go_wp2_with fail
     refine i2.mono ?_
     rintro e w1 ⟨rfl,rfl⟩
     clear i2
     go_wp2_with fail
     refine ht.mono ?_
     rintro e w2 ⟨⟨rfl,hr2⟩,hk2⟩
     have hc2:=Blk.kept HC.out hk2 (fun e=>hrq e.symm)
     have fz:=hc2.free 265
     have cz:=Blk.cell hc2 265 (cm_prt htab1)
     have hset:=Blk.set hc2 265 (.bool true)
     rw [cm_set_prt htab1] at hset
     have HR2:=Lib.hid hr2
     have HS2:=Lib.hid hset
     have HK2:=Lib.hid (HK.out.trans (hk2.mono fun _ _ e=>.inl e))
     clear ht hr2 hk2 hc2 hset ca cp
     go_wp2_with fail
     go_roundg g
     case measure=>omega
     case rel=>exact ⟨{ x1 with prt:=true },u,HEX,Lib.hid (Blk.setOther HR2.out (a:=⟨q,265,none⟩) hrq _),Lib.hid HS2.out,htab1,Lib.hid (HK2.out.setCell (.inl (.inr rfl)) 265 _)⟩
    ·rw [if_neg hB] at HE1
     by_cases hD:Ord.digit c=true
     ·rw [if_pos hD] at HE1
      cases HE1
     ·rw [if_neg hD] at HE1
      simp only [Option.some.injEq,Prod.mk.injEq] at HE1
      obtain ⟨rfl,rfl⟩:=HE1
      have hD':Ord.digit c=false:=by simpa using hD
      rw [hD'] at i3
      clear ht HE hin hD hD'
      have hend:∀ w',w'=wr→(RdB w' r (c :: u) lv ov∧CmBlk w' q x1 av re rv∧x1.tab.length=256)∧Kept (fun k=>k=r∨k=q) w w':=by
       rintro w' rfl
       exact ⟨⟨HR.out,HC.out,htab1⟩,HK.out⟩
      have HEND:=Lib.hid hend
      clear hend
      by_cases h1:c=103
      ·subst h1
       have hal:x1.all=true:=by
        cases h:x1.all with
        | true=>rfl
        | false=>exact absurd ⟨rfl,h⟩ hA
       rw [show ((103:UInt8) == 103)=true from rfl] at i1
       rw [show ((103:UInt8) == 112)=false from rfl] at i2
       rw [hal] at ca
       clear hA hB hal
       go_wp2_with fail
       refine i1.mono ?_
       rintro e w1 ⟨rfl,rfl⟩
       go_wp2_with fail
       refine i2.mono ?_
       rintro e w1 ⟨rfl,rfl⟩
       go_wp2_with fail
       refine i3.mono ?_
       rintro e w1 ⟨rfl,rfl⟩
       clear i1 i2 i3
       go_wp2_with fail
       refine bodyPost_ret (results_none rfl _ _ _) rfl ?_
       exact ⟨⟨rfl,(HEND.out _ rfl).1⟩,(HEND.out _ rfl).2⟩
      ·have e1:(c == 103)=false:=by simpa using h1
       rw [e1] at i1
       by_cases h2:c=112
       ·subst h2
        have hpr:x1.prt=true:=by
         cases h:x1.prt with
         | true=>rfl
         | false=>exact absurd ⟨rfl,h⟩ hB
        rw [show ((112:UInt8) == 112)=true from rfl] at i2
        rw [hpr] at cp
        clear hA hB hpr h1 e1
        go_wp2_with fail
        refine i1.mono ?_
        rintro e w1 ⟨rfl,rfl⟩
        go_wp2_with fail
        refine i2.mono ?_
        rintro e w1 ⟨rfl,rfl⟩
        go_wp2_with fail
        refine i3.mono ?_
        rintro e w1 ⟨rfl,rfl⟩
        clear i1 i2 i3
        go_wp2_with fail
        refine bodyPost_ret (results_none rfl _ _ _) rfl ?_
        exact ⟨⟨rfl,(HEND.out _ rfl).1⟩,(HEND.out _ rfl).2⟩
       ·have e2:(c == 112)=false:=by simpa using h2
        rw [e2] at i2
        clear hA hB h1 e1 h2 e2
        go_wp2_with fail
        refine i1.mono ?_
        rintro e w1 ⟨rfl,rfl⟩
        go_wp2_with fail
        refine i2.mono ?_
        rintro e w1 ⟨rfl,rfl⟩
        go_wp2_with fail
        refine i3.mono ?_
        rintro e w1 ⟨rfl,rfl⟩
        clear i1 i2 i3
        go_wp2_with fail
        refine bodyPost_ret (results_none rfl _ _ _) rfl ?_
        exact ⟨⟨rfl,(HEND.out _ rfl).1⟩,(HEND.out _ rfl).2⟩
end Go.Proofs.YtefpcacnblaokaaGreatDoor
