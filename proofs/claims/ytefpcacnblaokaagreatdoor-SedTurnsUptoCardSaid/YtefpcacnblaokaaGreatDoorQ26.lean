/-
  Texts of this seat put together: Sd23, SdLaw, SdIn4, SdPm.
-/
import Derived.Test.YtefpcacnblaokaaGreatDoorQ25
import Derived.Test.YtefpcacnblaokaaGreatDoorQ11
import Derived.Test.YtefpcacnblaokaaGreatDoorQ8
import Derived.Maps.OwnSet
import Derived.Laws.NewFold

/-
  The walk of the script reader as a whole. Conditions: what the library's variables hold; a script that the spec tells, of at most 900000 bytes.
-/
set_option maxRecDepth 100000
set_option maxHeartbeats 16000000
namespace Go.Proofs.YtefpcacnblaokaaGreatDoor
open Go.RowKit Go.Shelf Go.Maps Go.Sort
def SReadPost (W0:World) (a:Sd.Ans (List Sd.Cmd)) (e:Ending) (w':World):Prop:=match a with
 | .off=>True
 | .bad k=>e=.returned (.tuple #[.slice none 0 0,.int .i64 k])
 | .ok cs=>∃ v qs,e=.returned (.tuple #[v,.int .i64 0])∧ScrAt w' (fun k=>W0.heap.size≤k∧k < w'.heap.size) v cs qs
theorem RSt.scr {W:World} {K:Nat→Prop} {B r:Nat} {q:Sd.RS} {qs:List Nat} {lv ov:Value} (h:RSt W K B r q qs) (h0:RdB W r q.s lv ov):ScrAt W (fun k=>B≤k∧k < W.heap.size) lv q.l qs:=by
 obtain ⟨hl,-,-⟩:=h.same h0
 exact ⟨⟨B,hl⟩,fun g e=>hl.lt g e,h.len,fun i hi=>(h.cm i hi).mono h.kb,h.nd,fun x hx=>⟨(h.own x hx).2.2,h.qlt x hx⟩⟩
theorem RSt.dest {W:World} {K:Nat→Prop} {B r:Nat} {q:Sd.RS} {qs:List Nat} {lv ov:Value} (h:RSt W K B r q qs) (h0:RdB W r q.s lv ov) {i qi:Nat} (hi:i < qs.length) (hqi:qs.getD i 0=qi) {x:Sd.Cmd} (hx:q.l.getD i default=x) (k:Nat):RSt (W.setCell ⟨qi,3,none⟩ (.int .i64 k)) K B r ⟨q.s,q.l.set i (destOf x k),q.opn⟩ qs∧RdB (W.setCell ⟨qi,3,none⟩ (.int .i64 k)) r q.s lv ov∧Kept (fun j=>j=r∨j=qi) W (W.setCell ⟨qi,3,none⟩ (.int .i64 k)):=by
 have hmi:=getD_mem hi
 rw [hqi] at hmi
 have hqr:qi≠r:=h.notR hmi
 have hcm:=h.cm i hi
 rw [hqi,hx] at hcm
 obtain ⟨avi,rei,rvi,hbi,a1,a2,a3,a4⟩:=hcm
 have hb2:CmBlk (W.setCell ⟨qi,3,none⟩ (.int .i64 k)) qi (destOf x k) avi rei rvi:=by
  have:=Blk.set hbi 3 (.int .i64 (k:Int))
  rw [cm_set_dest] at this
  exact this
 have hk2:Kept (fun j=>j=r∨j=qi) W (W.setCell ⟨qi,3,none⟩ (.int .i64 k)):=(Kept.refl (fun j=>j=r∨j=qi) W).setCell (.inl (.inr rfl)) 3 _
 have hr2:RdB (W.setCell ⟨qi,3,none⟩ (.int .i64 k)) r q.s lv ov:=Blk.setOther h0 (a:=⟨qi,3,none⟩) (Ne.symm hqr) _
 have hS:∀ k,K k→¬ (k=r∨k=qi):=fun k hk e=>by
  rcases e with e | e
  ·exact h.rb.2 (e ▸ hk)
  ·exact (h.own qi hmi).1 (e ▸ hk)
 have hcm2:CmdAt (W.setCell ⟨qi,3,none⟩ (.int .i64 k)) K qi (destOf x k):=⟨avi,rei,rvi,hb2,a1.kept hk2 hS,a2.kept hk2 hS,a3.kept hk2 hS,a4⟩
 exact ⟨h.upd h0 hr2 hi (by rw [hqi];exact hk2) (K':=K) (y:=destOf x k) (by rw [hqi];exact hcm2) (fun _ e=>e) (fun _ e=>.inl e),hr2,hk2⟩
theorem CmdAt.free {W:World} {K:Nat→Prop} {q:Nat} {x:Sd.Cmd} (h:CmdAt W K q x) (i:Nat):W.frozen? ⟨q,i,none⟩=false:=by
 obtain ⟨av,re,rv,hb,-⟩:=h
 exact Blk.free hb i
theorem cmd_len {q q2:Sd.RS} (h:Sd.cmd q=.ok q2):q2.l.length≤q.l.length+1:=by
 unfold Sd.cmd at h
 split at h
 ·cases h
 ·split at h
  ·split at h
   ·split at h
    ·cases h
    ·injection h with h
     subst h
     simp [Sd.setDest]
   ·cases h
  ·split at h
   ·split at h
    ·injection h with h
     subst h
     simp
    ·cases h
   ·split at h
    ·split at h
     ·cases h
     ·simp only at h
      split at h
      ·cases h
      ·injection h with h
       subst h
       simp
    ·split at h
     ·split at h
      ·cases h
      ·split at h
       ·cases h
       ·injection h with h
        subst h
        simp
     ·split at h
      ·split at h
       ·cases h
       ·cases h
       ·injection h with h
        subst h
        simp
      ·split at h
       ·split at h
        ·cases h
        ·injection h with h
         subst h
         simp
       ·cases h
theorem sread_any (s:Bts) (a:Sd.Ans (List Sd.Cmd)) (ha:Sd.read s=a) (hna:a≠.off) (hs:s.length≤900000) (w:World) (hg:Glo w) (h8:8≤w.heap.size) :
  Calls Tryz.prog 17 #[.string ⟨s.toArray⟩] w fun e w'=>SReadPost w a e w'∧Below w.heap.size w w':=by
 have hmf:∀ (fn:Fn) (first cap:Array Value) (w:World),(Instr.makeFunc fn first cap).run Tryz.prog w=.ok (.func fn first cap) w:=fun _ _ _ _=>rfl
 obtain ⟨RES,hRES⟩:∃ RES,Sd.readF (s.length+1) ⟨s,[],.no⟩=RES:=⟨_,rfl⟩
 unfold Sd.read at ha
 rw [hRES] at ha
 obtain ⟨w1,hw1⟩:∃ w1,((w.alloc (.cells #[.slice none 0 0] 57)).alloc (.cells #[.int .i64 0] 44)).alloc (.cells #[.string ⟨s.toArray⟩,.slice none 0 0,.slice none 0 0] 79)=w1:=⟨_,rfl⟩
 have hqa:Blk w1 w.heap.size #[.slice none 0 0] 57:=by rw [← hw1];exact ((Blk.new w _ _).alloc _).alloc _
 have hqe:Blk w1 (w.heap.size+1) #[.int .i64 0] 44:=by
  rw [← hw1]
  have h1:=(Blk.new (w.alloc (.cells #[.slice none 0 0] 57)) #[.int .i64 0] 44).alloc (.cells #[.string ⟨s.toArray⟩,.slice none 0 0,.slice none 0 0] 79)
  simpa using h1
 have hr1:RdB w1 (w.heap.size+1+1) s (.slice none 0 0) (.slice none 0 0):=by
  rw [← hw1]
  have h1:=Blk.new ((w.alloc (.cells #[.slice none 0 0] 57)).alloc (.cells #[.int .i64 0] 44)) #[.string ⟨s.toArray⟩,.slice none 0 0,.slice none 0 0] 79
  show Blk _ _ _ _
  simpa using h1
 have hb1:Below w.heap.size w w1:=by rw [← hw1];exact (((Below.refl _ _).alloc (Nat.le_refl _) _).alloc (by simp) _).alloc (by simp;omega) _
 have hs1:w1.heap.size=w.heap.size+1+1+1:=by rw [← hw1];simp
 have hst:RSt w1 (fun _=>False) (w.heap.size+1+1) (w.heap.size+1+1) ⟨s,[],.no⟩ []:=⟨⟨_,_,hr1,World.ownsRow_nil _ _ _ _,rfl,(fun g e=>by cases e)⟩,rfl,fun i hi=>absurd hi (Nat.not_lt_zero _),List.nodup_nil,(fun x hx=>by cases hx),(fun k hk=>hk.elim),Nat.le_refl _,id⟩
 have hg1:=hg.below hb1
 have HA:=Lib.hid ha
 have HNA:=Lib.hid hna
 have HG:=Lib.hid hg1
 have HT:=Lib.hid hRES
 have HQA:=Lib.hid hqa
 have HQE:=Lib.hid hqe
 have HB1:=Lib.hid hb1
 have HST:=Lib.hid hst
 have HS1:=Lib.hid hs1
 have HW1:=Lib.hid hw1
 clear ha hna hg hg1 hRES hqa hqe hb1 hst hr1 hs1 hw1
 go_enter_defers Tryz.func17,Tryz.ntmps17
 go_wp2_with fail
 rw [HW1.out]
 go_loopg [] (s.length+1) (fun f wr=>∃ K qs q,Hid (Sd.readF f q=RES)∧q.l.length+f≤s.length+1∧Hid (RSt wr K (w.heap.size+1+1) (w.heap.size+1+1) q qs)∧Hid (Below (w.heap.size+1+1) w1 wr))
 case atStart=>exact ⟨_,[],_,HT,by simp,HST,Lib.hid (Below.refl _ _)⟩
 case round=>
  obtain ⟨K,qs,q,HE,hlen,HS,HB⟩:=hrel
  have hRn:RES≠.off:=fun e=>HNA.out (by have:=HA.out;rw [e] at this;exact this.symm)
  have hg1:∃ g,gk=g+1:=by
   cases gk with
   | zero=>exact absurd HE.out.symm hRn
   | succ g=>exact ⟨g,rfl⟩
  obtain ⟨g,rfl⟩:=hg1
  have HRN:=Lib.hid hRn
  clear hRn
  have HE1:=HE.out
  unfold Sd.readF at HE1
  obtain ⟨lv,ov,hr0,-⟩:=HS.out.rd
  have c0:=hr0.s
  have f0:=Blk.free hr0 0
  have htl:=trimL_any q.s [32,9,10,59] Sd.gap gap_contains (by decide) (by decide) wr
  have HR0:=Lib.hid hr0
  have HEE:=Lib.hid HE1
  clear hr0 HE1 f0
  obtain ⟨u,hu⟩:∃ u,q.s.dropWhile Sd.gap=u:=⟨_,rfl⟩
  rw [hu] at htl
  have HU:=Lib.hid hu
  clear hu
  go_wp2_with fail
  refine htl.mono ?_
  rintro e w2 ⟨rfl,hb2⟩
  have hr2:RdB w2 (w.heap.size+1+1) q.s lv ov:=HR0.out.below hb2
  have f2:=Blk.free hr2 0
  have c2:=hr2.s
  obtain ⟨w3,hw3⟩:∃ w3,w2.setCell ⟨w.heap.size+1+1,0,none⟩ (.string ⟨u.toArray⟩)=w3:=⟨_,rfl⟩
  have hr3:RdB w3 (w.heap.size+1+1) u lv ov:=by rw [← hw3];exact hr2.set u
  have hk3:Kept (fun k=>k=w.heap.size+1+1) wr w3:=by rw [← hw3];exact (Kept.of_below (S:=fun k=>k=w.heap.size+1+1) hb2).setCell (b:=w.heap.size+1+1) (.inl rfl) 0 _
  have hst3:=HS.out.step HR0.out u hr3 hk3 (fun _ e=>e)
  have hb3:Below (w.heap.size+1+1) w1 w3:=HB.out.trans (hk3.lower (fun k e=>by have h5:k=w.heap.size+1+1:=e;omega) HS.out.base)
  have HR3:=Lib.hid hr3
  have HST3:=Lib.hid hst3
  have HB3:=Lib.hid hb3
  have HW3:=Lib.hid hw3
  clear htl hb2 hr2 hr3 hk3 hst3 hb3 hw3 c0
  go_upto_region 4 with fail
  rw [HW3.out]
  have c3:=HR3.out.s
  clear f2 c2
  have HEE2:=HEE.out
  rw [HU.out] at HEE2
  cases u with
  | cons c t=>
   simp only at HEE2
   cases hx:Sd.cmd ⟨c :: t,q.l,q.opn⟩ with
   | off=>rw [hx] at HEE2;exact absurd HEE2.symm HRN.out
   | bad k=>
    rw [hx] at HEE2
    simp only at HEE2
    have hcm:=scmd_bad (w.heap.size+1+1) (w.heap.size+1+1) (by omega) K _ qs k hx (by simp only;omega) w3 (HG.out.kept (S:=fun k=>w.heap.size+1+1≤k) ⟨HB3.out.os,HB3.out.tape,HB3.out.output,HB3.out.size,fun k _ hk=>HB3.out.block k (Nat.lt_of_not_le hk)⟩ (fun k hk=>Nat.le_trans (by omega) hk)) HST3.out
    have hA:a=.bad k:=by have:=HA.out;rw [← HEE2] at this;exact this.symm
    subst hA
    clear HEE2 hx
    go_wp2_with fail
    refine hcm.mono ?_
    rintro e w4 ⟨rfl,hb4⟩
    clear hcm
    have HB4:=Lib.hid (HB3.out.trans hb4)
    clear hb4
    have hqa4:Blk w4 w.heap.size #[.slice none 0 0] 57:=Blk.keep HQA.out HB4.out (by omega)
    have hqe4:Blk w4 (w.heap.size+1) #[.int .i64 0] 44:=Blk.keep HQE.out HB4.out (by omega)
    go_wp2_with fail
    refine leaves_cons (f:=29) (args:=#[.pointer (some ⟨w.heap.size,0,none⟩),.pointer (some ⟨w.heap.size+1,0,none⟩)]) (by simp) (by simp [go_sem]) ?_
    refine (scatch_panicking w.heap.size (.slice none 0 0) (.int .i64 0) k [] _ hqa4 hqe4).mono ?_
    rintro e u' w9 ⟨rfl,rfl,m1,m2,hk9⟩
    have c9:=Blk.cell m1 0 (v:=.slice none 0 0) rfl
    have c10:=Blk.cell m2 0 (v:=.int .i64 k) rfl
    refine ⟨.tuple #[.slice none 0 0,.int .i64 k],by simp [results,Tryz.results17,go_sem,c9,c10], ?_⟩
    refine ⟨rfl, ?_⟩
    have h1:Below w.heap.size w1 w4:=HB4.out.mono (by omega)
    have h2:Below w.heap.size w4 w9:=hk9.lower (fun j e=>by rcases e with e | e <;> omega) (by have:=HB1.out.size;have:=HB4.out.size;omega)
    exact (HB1.out.trans h1).trans h2
   | ok q2=>
    rw [hx] at HEE2
    simp only at HEE2
    have hcm:=scmd_any (w.heap.size+1+1) (w.heap.size+1+1) (by omega) K _ q2 qs hx (by simp only;omega) w3 (HG.out.kept (S:=fun k=>w.heap.size+1+1≤k) ⟨HB3.out.os,HB3.out.tape,HB3.out.output,HB3.out.size,fun k _ hk=>HB3.out.block k (Nat.lt_of_not_le hk)⟩ (fun k hk=>Nat.le_trans (by omega) hk)) HST3.out
    have hcl:=cmd_len hx
    have HE4:=Lib.hid HEE2
    clear HEE2 hx
    go_wp2_with fail
    refine hcm.mono ?_
    rintro e w4 ⟨⟨rfl,K4,qs4,hst4⟩,hb4⟩
    have HB4:=Lib.hid (HB3.out.trans hb4)
    have HST4:=Lib.hid hst4
    clear hcm hb4 hst4
    go_wp2_with fail
    go_roundg g
    case measure=>omega
    case rel=>exact ⟨K4,qs4,q2,HE4,by omega,HST4,HB4⟩
  | nil=>
   simp only at HEE2
   have hA:=HA.out
   rw [← HEE2] at hA
   simp only at hA
   obtain ⟨po,co,hov,hno⟩:∃ po co,ov=.slice po 0 co∧∀ i,q.opn≠.at_ i:=by
    have ho:=(HST3.out.same HR3.out).2.1
    cases hqo:q.opn with
    | no=>
     have ho2:OpnAt w3 K qs ov q.opn:=ho
     rw [hqo] at ho2
     exact ⟨none,0,ho2,fun i e=>by cases e⟩
    | shut=>
     have ho2:OpnAt w3 K qs ov q.opn:=ho
     rw [hqo] at ho2
     obtain ⟨p,c,e⟩:=ho2
     exact ⟨p,c,e,fun i e=>by cases e⟩
    | at_ i=>
     rw [hqo] at hA
     exact absurd hA.symm HNA.out
   subst hov
   have hL:∃ L,Sd.linkAll q.l q.l=some L∧a=.ok L:=by
    have hA2:(match Sd.linkAll q.l q.l with
     | none=>Sd.Ans.off
     | some l=>.ok l)=a:=by
     cases hqo:q.opn with
     | no=>rw [hqo] at hA;exact hA
     | shut=>rw [hqo] at hA;exact hA
     | at_ i=>exact absurd hqo (hno i)
    cases hlk:Sd.linkAll q.l q.l with
    | none=>rw [hlk] at hA2;exact absurd hA2.symm HNA.out
    | some L=>rw [hlk] at hA2;exact ⟨L,rfl,hA2.symm⟩
   obtain ⟨L,hlk,rfl⟩:=hL
   obtain ⟨hLl,hLi⟩:=linkAll_spec q.l q.l L hlk
   obtain ⟨pl,cl,hlv⟩:=row_shape (HST3.out.same HR3.out).1
   subst hlv
   have d2:=Blk.cell HR3.out 2 (v:=.slice po 0 co) rfl
   have d1:=Blk.cell HR3.out 1 (v:=.slice pl q.l.length cl) rfl
   have hst0:RSt w3 K (w.heap.size+1+1) (w.heap.size+1+1) ⟨[],q.l,q.opn⟩ qs:=HST3.out
   have hmix0:Mix q.l L q.l 0:=⟨rfl,fun j hj=>absurd hj (Nat.not_lt_zero _),fun j _ _=>rfl⟩
   have HST0:=Lib.hid hst0
   have HMIX0:=Lib.hid hmix0
   have HLI:=Lib.hid hLi
   have HLL:=Lib.hid hLl
   clear HEE2 hA hlk hLi hLl hst0 hmix0 HST3
   obtain ⟨n,hn⟩:∃ n,q.l.length=n:=⟨_,rfl⟩
   have HN:=Lib.hid hn
   rw [hn] at d1
   have hn2:n≤900000:=by omega
   have hnr:((n:Nat):Int) < 1073741824:=by omega
   clear hn hlen hno
   have HR3b:Hid (RdB w3 (w.heap.size+1+1) [] (.slice pl n cl) (.slice po 0 co)):=Lib.hid (by have:=HR3.out;rw [HN.out] at this;exact this)
   clear HR3
   go_wp2_with fail
   go_loopw [6,38,39,53,66,80] (fun _x6 x38 _x39 _x53 _x66 _x80 wv=>∃ (i:Nat) (l':List Sd.Cmd),i≤n∧x38=.int .i64 i∧Hid (Mix q.l L l' i)∧Hid (RSt wv K (w.heap.size+1+1) (w.heap.size+1+1) ⟨[],l',q.opn⟩ qs)∧Hid (RdB wv (w.heap.size+1+1) [] (.slice pl n cl) (.slice po 0 co))∧Hid (Below (w.heap.size+1+1) w1 wv)) (fun _ x38 _ _ _ _ _=>n - (intOf x38).toNat)
   case atStart=>exact ⟨0,q.l,Nat.zero_le _,rfl,HMIX0,HST0,HR3b,HB3⟩
   case round=>
    obtain ⟨i,l',hi,rfl,HMX,HSI,HRI,HBI⟩:=hrel
    by_cases hlt:i < n
    ·have hil:i < q.l.length:=by rw [HN.out];exact hlt
     have hil':i < l'.length:=by rw [HMX.out.len];exact hil
     have hiq:i < qs.length:=by have:=HSI.out.len;simp only at this;omega
     have hlx:l'.getD i default=q.l.getD i default:=HMX.out.rest i (Nat.le_refl _) hil
     have hlo:=HLI.out i hil
     obtain ⟨x,hx⟩:∃ x,q.l.getD i default=x:=⟨_,rfl⟩
     obtain ⟨y,hy⟩:∃ y,L.getD i default=y:=⟨_,rfl⟩
     rw [hx] at hlo hlx
     rw [hy] at hlo
     obtain ⟨qi,hqi⟩:∃ qi,qs.getD i 0=qi:=⟨_,rfl⟩
     have hcmi:=HSI.out.cm i hiq
     rw [hqi] at hcmi
     simp only at hcmi
     rw [hlx] at hcmi
     have hmi:=getD_mem hiq
     rw [hqi] at hmi
     obtain ⟨c0,c4,c3⟩:=hcmi.cells
     have hl:=(HSI.out.same HRI.out).1
     simp only at hl
     rw [show l'.length=n by rw [HMX.out.len];exact HN.out] at hl
     obtain ⟨g,hg0,hgc⟩:∃ g,pl=some ⟨g,0,none⟩∧wr.cell? ⟨g,i,none⟩=some (.pointer (some ⟨qi,0,none⟩)):=by
      rcases hl.2 with ⟨-,h1⟩ | ⟨g,cap,cur,e,-⟩
      ·omega
      ·injection e with e1 e2 e3
       subst e1
       refine ⟨g,rfl, ?_⟩
       rw [hl.cellAt i (by omega),List.getElem?_map,List.getElem?_eq_getElem hiq]
       rw [List.getD_eq_getElem?_getD,List.getElem?_eq_getElem hiq] at hqi
       simp only [Option.getD_some] at hqi
       rw [hqi]
       rfl
     subst hg0
     have HX:=Lib.hid hx
     have HY:=Lib.hid hy
     have HQI:=Lib.hid hqi
     have HMI:=Lib.hid hmi
     have HCM:=Lib.hid hcmi
     have HLX:=Lib.hid hlx
     have HLO:=Lib.hid hlo
     have HIL:=Lib.hid hil
     have HIL':=Lib.hid hil'
     have HIQ:=Lib.hid hiq
     have r1:=Blk.cell HRI.out 1 (v:=.slice (some ⟨g,0,none⟩) n cl) rfl
     clear hl hx hy hqi hmi hcmi hlx hlo hil hil' hiq
     by_cases hc:x.c=98
     ·have e1:((x.c.toNat:Int) != 98)=false:=by rw [hc];rfl
      have f3:=HCM.out.free 3
      obtain ⟨w4,hw4⟩:∃ w4,wr.setCell ⟨qi,3,none⟩ (.int .i64 n)=w4:=⟨_,rfl⟩
      have hd4:=HSI.out.dest HRI.out HIQ.out HQI.out HLX.out n
      rw [hw4] at hd4
      simp only at hd4
      obtain ⟨hst4,hr4,hk4⟩:=hd4
      have hcm4:=hst4.cm i HIQ.out
      rw [HQI.out] at hcm4
      simp only at hcm4
      rw [getD_set_eq _ _ _ HIL'.out] at hcm4
      obtain ⟨-,d4,d3⟩:=hcm4.cells
      have g3:=hcm4.free 3
      have hb4:Below (w.heap.size+1+1) w1 w4:=HBI.out.trans (hk4.lower (fun j e=>by
       rcases e with e | e
       ·omega
       ·have:=(HSI.out.own qi HMI.out).2.2;omega) HSI.out.base)
      have q1:=Blk.cell hr4 1 (v:=.slice (some ⟨g,0,none⟩) n cl) rfl
      have HST4:=Lib.hid hst4
      have HR4:=Lib.hid hr4
      have HB4:=Lib.hid hb4
      have HW4:=Lib.hid hw4
      have HC:=Lib.hid hc
      clear hst4 hr4 hk4 hcm4 hb4 hw4 hc
      have d4':w4.cell? ⟨qi,4,none⟩=some (.string ⟨x.lab.toArray⟩):=d4
      have d3':w4.cell? ⟨qi,3,none⟩=some (.int .i64 n):=d3
      clear d4 d3
      go_upto_region 13 with fail
      rw [HW4.out]
      clear c0 c4 c3 f3 r1
      cases hlb:x.lab with
      | nil=>
       rw [hlb] at d4'
       have hy:y=destOf x n:=by
        have:=HLO.out
        unfold Sd.linkOne at this
        rw [if_pos HC.out,if_pos hlb] at this
        rw [← Option.some.inj this,HN.out]
        rfl
       have hmx:Mix q.l L (l'.set i (destOf x n)) (i+1):=by
        rw [← hy,← HY.out]
        exact HMX.out.next HIL.out
       have HMX2:=Lib.hid hmx
       clear hy hmx hlb
       go_wp2_with fail
       go_roundw
       case rel=>exact ⟨i+1,_,hlt,by go_num,HMX2,HST4,HR4,HB4⟩
       case measure=>simp [intOf];omega
      | cons lb0 lb1=>
       have hlne:x.lab≠[]:=by rw [hlb];simp
       obtain ⟨k,hk,hy⟩:∃ k,Sd.place x.lab q.l=some k∧y=destOf x k:=by
        have:=HLO.out
        unfold Sd.linkOne at this
        rw [if_pos HC.out,if_neg hlne] at this
        cases h2:Sd.place x.lab q.l with
        | none=>rw [h2] at this;cases this
        | some k=>
         rw [h2] at this
         simp only [Option.map_some,Option.some.injEq] at this
         exact ⟨k,rfl,this.symm⟩
       have hsm:Sd.place x.lab (l'.set i (destOf x n))=some k:=by
        rw [← hk]
        refine place_same _ _ _ (by rw [List.length_set];exact HMX.out.len) fun j hj=>?_
        by_cases e:i=j
        ·subst e
         rw [getD_set_eq _ _ _ HIL'.out,HX.out]
         exact ⟨rfl,rfl⟩
        ·rw [getD_set_ne _ _ e]
         exact HMX.out.same HLI.out j (by simpa using hj)
       have hll:(l'.set i (destOf x n)).length=n:=by rw [List.length_set,HMX.out.len];exact HN.out
       have hlabs:=(HST4.out.labs HR4.out).2
       simp only at hlabs
       have hpl:=splace_any (w.heap.size+1+1) (l'.set i (destOf x n)) x.lab [] (some ⟨g,0,none⟩) cl (.slice po 0 co) (by rw [hll];omega) w4 (by rw [hll];exact HR4.out) hlabs
       have e5:placeVal x.lab (l'.set i (destOf x n))=(k:Int):=by unfold placeVal;rw [hsm]
       rw [e5] at hpl
       have e6:(x.lab=[])=False:=eq_false hlne
       have e7:decide ((k:Int) < 0)=false:=by simp
       have e8:x.lab.isEmpty=false:=by rw [hlb];rfl
       have HYK:=Lib.hid hy
       have HPL:=Lib.hid hpl
       clear hk hy hsm hlabs e5 hll hlne hlb hpl
       go_wp2_with fail
       refine HPL.out.mono ?_
       rintro e w5 ⟨rfl,hb5⟩
       have hr5:=HR4.out.below hb5
       have hst5:=HST4.out.step HR4.out [] hr5 (Kept.of_below (S:=fun _=>False) hb5) (fun _ e=>e.elim)
       have hd6:=hst5.dest hr5 HIQ.out HQI.out (getD_set_eq _ _ _ HIL'.out) k
       have hcm5:=hst5.cm i HIQ.out
       rw [HQI.out] at hcm5
       simp only at hcm5
       rw [getD_set_eq _ _ _ HIL'.out] at hcm5
       obtain ⟨-,-,z3⟩:=hcm5.cells
       have y3:=hcm5.free 3
       obtain ⟨w6,hw6⟩:∃ w6,w5.setCell ⟨qi,3,none⟩ (.int .i64 k)=w6:=⟨_,rfl⟩
       rw [hw6] at hd6
       obtain ⟨hst6,hr6,hk6⟩:=hd6
       have hcm6:=hst6.cm i HIQ.out
       rw [HQI.out] at hcm6
       simp only at hcm6 hst6
       rw [getD_set_eq _ _ _ (by simpa using HIL'.out)] at hcm6
       obtain ⟨-,-,u3⟩:=hcm6.cells
       have u3':w6.cell? ⟨qi,3,none⟩=some (.int .i64 k):=u3
       rw [List.set_set] at hst6
       have hmx:Mix q.l L (l'.set i (destOf (destOf x n) k)) (i+1):=by
        rw [show destOf (destOf x n) k=destOf x k from rfl,← HYK.out,← HY.out]
        exact HMX.out.next HIL.out
       have hb6:Below (w.heap.size+1+1) w1 w6:=(HB4.out.trans (hb5.mono HST4.out.base)).trans (hk6.lower (fun j e=>by
        rcases e with e | e
        ·omega
        ·have:=(HSI.out.own qi HMI.out).2.2;omega) hst5.base)
       have HMX2:=Lib.hid hmx
       have HST6:=Lib.hid hst6
       have HR6:=Lib.hid hr6
       have HB6:=Lib.hid hb6
       have HW6:=Lib.hid hw6
       have z3':w5.cell? ⟨qi,3,none⟩=some (.int .i64 n):=z3
       clear hb5 hr5 hst5 hcm5 z3 hst6 hr6 hk6 hcm6 u3 hmx hb6 hw6 d3' d4' q1
       go_upto_region 15 with fail
       rw [HW6.out]
       clear z3' y3
       go_wp2_with fail
       go_roundw
       case rel=>exact ⟨i+1,_,hlt,by go_num,HMX2,HST6,HR6,HB6⟩
       case measure=>simp [intOf];omega
     ·have hyx:y=x:=by
       have:=HLO.out
       unfold Sd.linkOne at this
       rw [if_neg hc] at this
       split at this
       ·cases this
       ·exact (Option.some.inj this).symm
      have h116:x.c≠116:=fun e=>by
       have:=HLO.out
       unfold Sd.linkOne at this
       rw [if_neg hc,if_pos e] at this
       cases this
      have e1:((x.c.toNat:Int) != 98)=true:=by rw [u8_eq] at hc;simpa using hc
      have e2:((x.c.toNat:Int) != 116)=true:=by rw [Ne,u8_eq] at h116;simpa using h116
      have hmx:Mix q.l L l' (i+1):=HMX.out.skip fun _=>by rw [HX.out,HY.out,hyx]
      have HMX2:=Lib.hid hmx
      clear hyx h116 hc hmx
      go_wp2_with fail
      go_roundw
      case rel=>exact ⟨i+1,l',hlt,by go_num,HMX2,HSI,HRI,HBI⟩
      case measure=>simp [intOf];omega
    ·obtain rfl:i=n:=by omega
     have hll:l'=L:=by
      have:=HMX.out
      rw [← HN.out] at this
      exact this.end_ HLL.out
     subst hll
     have r1:=Blk.cell HRI.out 1 (v:=.slice pl i cl) rfl
     have hsc:=HSI.out.scr HRI.out
     simp only at hsc
     have hqa5:Blk wr w.heap.size #[.slice none 0 0] 57:=Blk.keep HQA.out HBI.out (by omega)
     have hqe5:Blk wr (w.heap.size+1) #[.int .i64 0] 44:=Blk.keep HQE.out HBI.out (by omega)
     have ca:=Blk.cell hqa5 0 (v:=.slice none 0 0) rfl
     have fa:=Blk.free hqa5 0
     have ce:=Blk.cell hqe5 0 (v:=.int .i64 0) rfl
     have fe:=Blk.free hqe5 0
     obtain ⟨w5,hw5⟩:∃ w5,(wr.setCell ⟨w.heap.size,0,none⟩ (.slice pl i cl)).setCell ⟨w.heap.size+1,0,none⟩ (.int .i64 0)=w5:=⟨_,rfl⟩
     have k1:Blk (wr.setCell ⟨w.heap.size,0,none⟩ (.slice pl i cl)) (w.heap.size+1) #[.int .i64 0] 44:=Blk.setOther hqe5 (a:=⟨w.heap.size,0,none⟩) (by show w.heap.size+1≠w.heap.size;omega) _
     have ce1:=Blk.cell k1 0 (v:=.int .i64 0) rfl
     have fe1:=Blk.free k1 0
     have k5e:Blk w5 (w.heap.size+1) #[.int .i64 0] 44:=by rw [← hw5];exact Blk.set k1 0 (.int .i64 0)
     have k5a:Blk w5 w.heap.size #[.slice pl i cl] 57:=by
      rw [← hw5]
      exact Blk.setOther (Blk.set hqa5 0 (.slice pl i cl)) (a:=⟨w.heap.size+1,0,none⟩) (by show w.heap.size≠w.heap.size+1;omega) _
     have hk5:Kept (fun j=>j=w.heap.size∨j=w.heap.size+1) wr w5:=by
      rw [← hw5]
      exact ((Kept.refl (fun j=>j=w.heap.size∨j=w.heap.size+1) wr).setCell (.inl (.inl rfl)) 0 _).setCell (.inl (.inr rfl)) 0 _
     have hb5:Below w.heap.size w w5:=by
      have h1:Below w.heap.size w1 wr:=HBI.out.mono (by omega)
      have h2:Below w.heap.size wr w5:=hk5.lower (fun j e=>by rcases e with e | e <;> omega) (by have:=HSI.out.base;omega)
      exact (HB1.out.trans h1).trans h2
     have hsz5:=hk5.size
     have hsc5:=(hsc.kept hk5 (fun k hk e=>by rcases e with e | e <;> omega)).mono (T:=fun k=>w.heap.size≤k∧k < w5.heap.size) fun k hk=>⟨by omega,by omega⟩
     have c9:=Blk.cell k5a 0 (v:=.slice pl i cl) rfl
     have c10:=Blk.cell k5e 0 (v:=.int .i64 0) rfl
     have HSC5:=Lib.hid hsc5
     have HB5:=Lib.hid hb5
     have HW5:=Lib.hid hw5
     have HC9:=Lib.hid c9
     have HC10:=Lib.hid c10
     clear hsc hqa5 hqe5 k1 k5e k5a hk5 hb5 hsc5 hw5 c9 c10 hsz5
     go_wp2_with fail
     refine leaves_cons (f:=29) (args:=#[.pointer (some ⟨w.heap.size,0,none⟩),.pointer (some ⟨w.heap.size+1,0,none⟩)]) (by simp) (by simp [go_sem]) ?_
     refine (scatch_idle ⟨w.heap.size,0,none⟩ ⟨w.heap.size+1,0,none⟩ _).mono ?_
     rintro e u' w9 ⟨rfl,rfl,rfl⟩
     rw [HW5.out]
     have c9:=HC9.out
     have c10:=HC10.out
     refine ⟨.tuple #[.slice pl i cl,.int .i64 0],by simp [results,Tryz.results17,go_sem,c9,c10], ?_⟩
     exact ⟨⟨_,qs,rfl,HSC5.out⟩,HB5.out⟩
end Go.Proofs.YtefpcacnblaokaaGreatDoor

/-
  Plain laws of sed's scripts: what a script comes to on all lines, line by line. No program in sight.
  Conditions: those of each law.
-/
namespace Go.Proofs.YtefpcacnblaokaaGreatDoor.Sd
open Go
def start (q:St):St:={ q with inp:=(Wi.lineOf q.inp).2.2,n:=q.n+1,jumps:=0,pat:=(Wi.lineOf q.inp).1,joined:=false,done:=false }
def outF (line:Nat) (g:Nat→Bytes→Bytes→Bytes):Nat→Nat→Bytes→Bytes × Bool
 | 0,_,_=>([],false)
 | f+1,n,inp=>if inp=[] then ([],false) else if line < (Wi.lineOf inp).1.length then ([],true) else
   (g (n+1) (Wi.lineOf inp).1 (Wi.lineOf inp).2.2 ++ (outF line g f (n+1) (Wi.lineOf inp).2.2).1,(outF line g f (n+1) (Wi.lineOf inp).2.2).2)
theorem lineOf_lt (inp:Bytes) (h:inp≠[]):(Wi.lineOf inp).2.2.length < inp.length:=by
 induction inp with
 | nil=>exact absurd rfl h
 | cons c r ih=>
  rw [Wi.lineOf]
  split
  ·simp
  ·simp only [List.length_cons]
   by_cases hr:r=[]
   ·subst hr;simp [Wi.lineOf]
   ·have:=ih hr;omega
theorem lineOf_all (inp:Bytes):(Wi.lineOf inp).1.length+(Wi.lineOf inp).2.2.length≤inp.length:=by
 induction inp with
 | nil=>simp [Wi.lineOf]
 | cons c r ih=>
  rw [Wi.lineOf]
  split
  ·simp
  ·simp only [List.length_cons];omega
theorem run_out (line:Nat) (quiet:Bool) (cs:List Cmd) (gf:Nat) (g:Nat→Bytes→Bytes→Bytes) (I:St→Prop)
  (h:∀ q:St,I q→q.inp≠[]→(Wi.lineOf q.inp).1.length≤line→q.over=false→q.failed=false→∃ e q2 q3,cycle line cs gf 0 (start q)=some (e,q2)∧(if e && !quiet then tell (q2.pat ++ [10]) q2 else some q2)=some q3∧I q3∧q3.inp=(Wi.lineOf q.inp).2.2∧q3.n=q.n+1∧q3.over=false∧q3.failed=false∧q3.out=q.out ++ g (q.n+1) (Wi.lineOf q.inp).1 (Wi.lineOf q.inp).2.2) :
  ∀ (f:Nat) (q:St),q.inp.length < f→I q→q.over=false→q.failed=false→∃ q',run line quiet cs gf f q=some q'∧q'.out=q.out ++ (outF line g f q.n q.inp).1∧q'.failed=(outF line g f q.n q.inp).2:=by
 intro f
 induction f with
 | zero=>intro q hq;omega
 | succ f ih=>
  intro q hq hI ho hf
  unfold run outF
  rw [ho]
  simp only [Bool.false_eq_true,if_false]
  by_cases h0:q.inp=[]
  ·have e:readL line q=(none,q):=by unfold readL;rw [h0];rfl
   rw [e,if_pos h0]
   exact ⟨q,rfl,by simp,hf⟩
  ·rw [if_neg h0]
   have e0:q.inp.isEmpty=false:=by
    cases hq2:q.inp with
    | nil=>exact absurd hq2 h0
    | cons _ _=>rfl
   by_cases hl:line < (Wi.lineOf q.inp).1.length
   ·have e:readL line q=(none,{ q with inp:=[],failed:=true }):=by
     unfold readL
     rw [e0,if_neg (by decide),if_pos hl]
    rw [e,if_pos hl]
    exact ⟨_,rfl,by simp,rfl⟩
   ·have e:readL line q=(some (Wi.lineOf q.inp).1,{ q with inp:=(Wi.lineOf q.inp).2.2,n:=q.n+1,jumps:=0 }):=by
     unfold readL
     rw [e0,if_neg (by decide),if_neg hl]
    rw [e,if_neg hl]
    obtain ⟨en,q2,q3,hc,ht,hI3,hi3,hn3,ho3,hf3,hout⟩:=h q hI h0 (by omega) ho hf
    have hlt:=lineOf_lt q.inp h0
    obtain ⟨q',hr,hr1,hr2⟩:=ih q3 (by rw [hi3];omega) hI3 ho3 hf3
    rw [hi3,hn3] at hr1 hr2
    have hc':cycle line cs gf 0 { q with inp:=(Wi.lineOf q.inp).2.2,n:=q.n+1,jumps:=0,pat:=(Wi.lineOf q.inp).1,joined:=false,done:=false }=some (en,q2):=hc
    simp only [hc']
    refine ⟨q', ?_, ?_,hr2⟩
    ·by_cases hq2:(en && !quiet)=true
     ·rw [if_pos hq2] at ht ⊢
      rw [ht]
      exact hr
     ·rw [if_neg hq2] at ht ⊢
      injection ht with ht
      rw [ht]
      exact hr
    ·rw [hr1,hout,List.append_assoc]
def cmd0 (c:UInt8) (l:List Adr) (neg:Bool):Cmd:=⟨c,l,neg,0,[],tab0,none,[],false,false⟩
def Room (q:St):Prop:=q.out.length+2 * q.inp.length≤1000000
theorem room_tell {q:St} (h:Room q) (h0:q.inp≠[]):q.out.length+((Wi.lineOf q.inp).1 ++ [10]).length≤4294967296∧(q.out ++ ((Wi.lineOf q.inp).1 ++ [10])).length+2 * (Wi.lineOf q.inp).2.2.length≤1000000:=by
 have h1:=lineOf_all q.inp
 have h2:=lineOf_lt q.inp h0
 unfold Room at h
 simp only [List.length_append,List.length_cons,List.length_nil]
 constructor <;> omega
theorem room_skip {q:St} (h:Room q) (h0:q.inp≠[]):q.out.length+2 * (Wi.lineOf q.inp).2.2.length≤1000000:=by
 have h2:=lineOf_lt q.inp h0
 unfold Room at h
 omega
def lineG (_:Nat) (l _:Bytes):Bytes:=l ++ [10]
theorem all_run (line:Nat) (f:Nat) (inp:Bytes) (hf:inp.length < f) (hin:inp.length≤100000):∃ q',run line false [] 1 f (begun [] inp)=some q'∧q'.out=(outF line lineG f 0 inp).1∧q'.failed=(outF line lineG f 0 inp).2:=by
 obtain ⟨q',h1,h2,h3⟩:=run_out line false [] 1 lineG Room (fun q hI h0 hl ho hfl=>by
  obtain ⟨a,b⟩:=room_tell hI h0
  refine ⟨true,start q,{ start q with out:=q.out ++ ((Wi.lineOf q.inp).1 ++ [10]) },rfl, ?_,b,rfl,rfl,ho,hfl,rfl⟩
  simp only [Bool.not_false,Bool.and_self,if_true]
  unfold tell
  exact if_pos a) f (begun [] inp) hf (by unfold Room begun;simp only [List.length_nil];omega) rfl rfl
 exact ⟨q',h1,by rw [h2];rfl,h3⟩
theorem p_run (line:Nat) (f:Nat) (inp:Bytes) (hf:inp.length < f) (hin:inp.length≤100000):∃ q',run line true [cmd0 112 [] false] 2 f (begun [cmd0 112 [] false] inp)=some q'∧q'.out=(outF line lineG f 0 inp).1∧q'.failed=(outF line lineG f 0 inp).2:=by
 obtain ⟨q',h1,h2,h3⟩:=run_out line true [cmd0 112 [] false] 2 lineG Room (fun q hI h0 hl ho hfl=>by
  obtain ⟨a,b⟩:=room_tell hI h0
  refine ⟨true,{ start q with out:=q.out ++ ((Wi.lineOf q.inp).1 ++ [10]) },{ start q with out:=q.out ++ ((Wi.lineOf q.inp).1 ++ [10]) }, ?_,rfl,b,rfl,rfl,ho,hfl,rfl⟩
  have ht:tell ((start q).pat ++ [10]) (start q)=some { start q with out:=q.out ++ ((Wi.lineOf q.inp).1 ++ [10]) }:=by
   unfold tell
   exact if_pos a
  simp [cycle,chosen,cmd0,verb,ht]) f (begun [cmd0 112 [] false] inp) hf (by unfold Room begun;simp only [List.length_nil];omega) rfl rfl
 exact ⟨q',h1,by rw [h2];rfl,h3⟩
def inR (a b n:Nat):Bool:=n == a || (decide (a < n) && decide (n≤b))
def opR (a b n:Nat):Bool:=decide (a≤n) && decide (n < b)
def InvR (a b:Nat) (q:St):Prop:=Room q∧q.opens=[opR a b q.n]
theorem chosen_R (a b:Nat) (ha:1≤a) (c:UInt8) (neg:Bool) (q:St) (n:Nat) (hn:q.n=n+1) (ho:q.opens=[opR a b n]) :
  chosen 0 (cmd0 c [.num a,.num b] neg) q=some (inR a b (n+1) != neg,{ q with opens:=[opR a b (n+1)] }):=by
 unfold chosen cmd0 fits gone reached
 rw [ho,hn]
 simp only [List.getD_cons_zero,List.set_cons_zero,List.length_cons,List.length_nil,Nat.zero_add,ne_eq,not_true_eq_false,if_false]
 unfold opR inR
 have hx:∀ x:Bool,(false != x)=x:=fun x=>by cases x <;> rfl
 have hy:∀ x:Bool,(true != x)=!x:=fun x=>by cases x <;> rfl
 by_cases h1:a≤n <;> by_cases h2:n < b
 ·have e1:decide (a≤n)=true:=by simpa using h1
  have e2:decide (n < b)=true:=by simpa using h2
  have e3:decide (b < n+1)=false:=by simp;omega
  have e4:(n+1 == a)=false:=by simp;omega
  have e5:decide (a < n+1)=true:=by simp;omega
  have e6:decide (n+1≤b)=true:=by simp;omega
  have e7:decide (a≤n+1)=true:=by simp;omega
  have e8:(!(n+1 == b))=decide (n+1 < b):=by
   by_cases h:n+1=b
   ·subst h;simp
   ·have:n+1 < b:=by omega
    simp [h,this]
  simp only [e1,e2,e3,e4,e5,e6,e7,e8,Bool.true_and,Bool.not_false,Bool.and_self,Bool.not_true,Bool.false_eq_true,if_false,Bool.or_true,hy]
 all_goals
  have e0:(decide (a≤n) && decide (n < b))=false:=by simp;omega
  simp only [e0,Bool.false_and,Bool.not_false,if_true]
  by_cases h3:n+1=a
  ·subst h3
   have e1:(!decide (b≤n+1))=(decide (n+1≤n+1) && decide (n+1 < b)):=by
    by_cases h:b≤n+1
    ·have:¬ n+1 < b:=by omega
     simp [h,this]
    ·have:n+1 < b:=by omega
     simp [h,this]
   simp only [beq_self_eq_true,Bool.not_true,Bool.false_eq_true,if_false,Bool.true_or,hy,e1]
  ·have e1:(n+1 == a)=false:=by simpa using h3
   have e2:(decide (a < n+1) && decide (n+1≤b))=false:=by simp;omega
   have e3:(decide (a≤n+1) && decide (n+1 < b))=false:=by simp;omega
   simp only [e1,e2,e3,Bool.not_false,if_true,Bool.false_or,hx]
def rangeG (a b:Nat) (n:Nat) (l _:Bytes):Bytes:=if inR a b n then l ++ [10] else []
def restG (a b:Nat) (n:Nat) (l _:Bytes):Bytes:=if inR a b n then [] else l ++ [10]
theorem opR_begun {a b:Nat} (ha:1≤a):opR a b 0=false:=by unfold opR;simp;omega
theorem range_run (line:Nat) (a b:Nat) (ha:1≤a) (neg:Bool) (f:Nat) (inp:Bytes) (hf:inp.length < f) (hin:inp.length≤100000) :
  ∃ q',run line true [cmd0 112 [.num a,.num b] neg] 2 f (begun [cmd0 112 [.num a,.num b] neg] inp)=some q'∧q'.out=(outF line (if neg then restG a b else rangeG a b) f 0 inp).1∧q'.failed=(outF line (if neg then restG a b else rangeG a b) f 0 inp).2:=by
 obtain ⟨q',h1,h2,h3⟩:=run_out line true [cmd0 112 [.num a,.num b] neg] 2 (if neg then restG a b else rangeG a b) (InvR a b) (fun q hI h0 hl ho hfl=>by
  obtain ⟨hR,hO⟩:=hI
  obtain ⟨ra,rb⟩:=room_tell hR h0
  have hc:=chosen_R a b ha 112 neg (start q) q.n rfl hO
  by_cases hin:(inR a b (q.n+1) != neg)=true
  ·refine ⟨true,{ start q with opens:=[opR a b (q.n+1)],out:=q.out ++ ((Wi.lineOf q.inp).1 ++ [10]) },{ start q with opens:=[opR a b (q.n+1)],out:=q.out ++ ((Wi.lineOf q.inp).1 ++ [10]) }, ?_,rfl,⟨rb,rfl⟩,rfl,rfl,ho,hfl, ?_⟩
   ·have ht:tell ((start q).pat ++ [10]) { start q with opens:=[opR a b (q.n+1)] }=some { start q with opens:=[opR a b (q.n+1)],out:=q.out ++ ((Wi.lineOf q.inp).1 ++ [10]) }:=by
     unfold tell
     exact if_pos ra
    rw [hin] at hc
    unfold cycle
    simp only [List.getElem?_cons_zero,hc]
    simp [cycle,cmd0,verb,ht]
   ·cases neg with
    | true=>
     have:inR a b (q.n+1)=false:=by simpa using hin
     simp [restG,this]
    | false=>
     have:inR a b (q.n+1)=true:=by simpa using hin
     simp [rangeG,this]
  ·refine ⟨true,{ start q with opens:=[opR a b (q.n+1)] },{ start q with opens:=[opR a b (q.n+1)] }, ?_,rfl,⟨room_skip hR h0,rfl⟩,rfl,rfl,ho,hfl, ?_⟩
   ·have hin2:(inR a b (q.n+1) != neg)=false:=by simpa using hin
    rw [hin2] at hc
    unfold cycle
    simp only [List.getElem?_cons_zero,hc]
    simp [cycle,cmd0]
   ·cases neg with
    | true=>
     have:inR a b (q.n+1)=true:=by simpa using hin
     simp [restG,this]
     rfl
    | false=>
     have:inR a b (q.n+1)=false:=by simpa using hin
     simp [rangeG,this]
     rfl) f (begun [cmd0 112 [.num a,.num b] neg] inp) hf ⟨by unfold Room begun;simp only [List.length_nil];omega,by rw [show (begun [cmd0 112 [.num a,.num b] neg] inp).n=0 from rfl,opR_begun ha];rfl⟩ rfl rfl
 exact ⟨q',h1,by rw [h2];rfl,h3⟩
theorem drop_run (line:Nat) (a b:Nat) (ha:1≤a) (f:Nat) (inp:Bytes) (hf:inp.length < f) (hin:inp.length≤100000) :
  ∃ q',run line false [cmd0 100 [.num a,.num b] false] 2 f (begun [cmd0 100 [.num a,.num b] false] inp)=some q'∧q'.out=(outF line (restG a b) f 0 inp).1∧q'.failed=(outF line (restG a b) f 0 inp).2:=by
 obtain ⟨q',h1,h2,h3⟩:=run_out line false [cmd0 100 [.num a,.num b] false] 2 (restG a b) (InvR a b) (fun q hI h0 hl ho hfl=>by
  obtain ⟨hR,hO⟩:=hI
  obtain ⟨ra,rb⟩:=room_tell hR h0
  have hc:=chosen_R a b ha 100 false (start q) q.n rfl hO
  by_cases hin:inR a b (q.n+1)=true
  ·refine ⟨false,{ start q with opens:=[opR a b (q.n+1)] },{ start q with opens:=[opR a b (q.n+1)] }, ?_,rfl,⟨room_skip hR h0,rfl⟩,rfl,rfl,ho,hfl, ?_⟩
   ·rw [hin] at hc
    unfold cycle
    simp only [List.getElem?_cons_zero,hc]
    simp [cmd0,verb]
   ·simp [restG,hin]
    rfl
  ·have hin2:inR a b (q.n+1)=false:=by simpa using hin
   refine ⟨true,{ start q with opens:=[opR a b (q.n+1)] },{ start q with opens:=[opR a b (q.n+1)],out:=q.out ++ ((Wi.lineOf q.inp).1 ++ [10]) }, ?_, ?_,⟨rb,rfl⟩,rfl,rfl,ho,hfl, ?_⟩
   ·rw [hin2] at hc
    unfold cycle
    simp only [List.getElem?_cons_zero,hc]
    simp [cycle,cmd0]
   ·simp only [Bool.not_false,Bool.and_self,if_true]
    unfold tell
    exact if_pos ra
   ·simp [restG,hin2]) f (begun [cmd0 100 [.num a,.num b] false] inp) hf ⟨by unfold Room begun;simp only [List.length_nil];omega,by rw [show (begun [cmd0 100 [.num a,.num b] false] inp).n=0 from rfl,opR_begun ha];rfl⟩ rfl rfl
 exact ⟨q',h1,by rw [h2];rfl,h3⟩
end Go.Proofs.YtefpcacnblaokaaGreatDoor.Sd

/-
  The walk of the inputs' next. Conditions: the inputs lie in memory; a process that runs, called sed; at most 2^32 bytes.
-/
set_option maxRecDepth 100000
set_option maxHeartbeats 8000000
namespace Go.Proofs.YtefpcacnblaokaaGreatDoor
open Go.RowKit Go.Shelf Go.Maps
theorem sline_some {inp:Bts} (h:inp≠[]):((Wi.lineOf inp).2.1 || !(Wi.lineOf inp).1.isEmpty)=true:=by
 cases inp with
 | nil=>exact absurd rfl h
 | cons c r=>
  unfold Wi.lineOf
  split <;> simp
theorem set_same {W:World} {b i:Nat} {cs:Array Value} {t:TypeId} {v:Value} (h:Blk W b cs t) (hv:cs[i]?=some v):Below W.heap.size W (W.setCell ⟨b,i,none⟩ v):=by
 have hs:=Blk.set h i v
 have he:cs.setIfInBounds i v=cs:=by
  apply Array.ext_getElem?
  intro j
  rw [Array.getElem?_setIfInBounds]
  split
  ·rename_i e
   subst e
   split
   ·exact hv.symm
   ·rename_i h1
    rw [Array.getElem?_eq_none (by omega)]
  ·rfl
 rw [he] at hs
 refine ⟨rfl,rfl,rfl,by simp [World.setCell],fun k hk=>?_⟩
 by_cases e:k=b
 ·subst e
  exact hs.trans h.symm
 ·exact Below.heap_setCell W ⟨b,i,none⟩ v k e
theorem InAt.more_v {W W2:World} {F:Fx} {U R:Nat→Prop} {ib k:Nat} {tot out:Bts} {failed:Bool} (h:InAt W F U R ib k tot out failed) (hb:Below W.heap.size W W2) {v:Value} (hv:∀ g,v.ownBlock=some g→W.heap.size≤g∧g < W2.heap.size):InAt W2 F (fun j=>U j∨v.ownBlock=some j) R ib k tot out failed:=by
 cases hx:v.ownBlock with
 | none=>
  have:(fun j=>U j∨(none:Option Nat)=some j)=U:=by
   funext j
   simp
  rw [this]
  exact h.below hb
 | some g=>
  have:(fun j=>U j∨some g=some j)=fun j=>U j∨j=g:=by
   funext j
   simp [eq_comm]
  rw [this]
  exact h.more_ hb (hv g hx).1 (hv g hx).2
def NextIn (w:World) (F:Fx) (U R:Nat→Prop) (ib:Nat) (tot out:Bts) (failed:Bool) (e:Ending) (w':World):Prop:=
 (tot=[]∧e=.returned (.tuple #[.slice none 0 0,.bool false])∧∃ R',InAt w' F U R' ib 0 [] out failed∧MvI R R' ib w w') ∨
 (tot≠[]∧F.line < (Wi.lineOf tot).1.length∧e=.returned (.tuple #[.slice none 0 0,.bool false])∧∃ R',InAt w' F U R' ib 0 [] out true∧MvI R R' ib w w') ∨
 (tot≠[]∧(Wi.lineOf tot).1.length≤F.line∧∃ v,e=.returned (.tuple #[v,.bool true])∧w'.ownsRow w.heap.size 5 1 v (Wi.lineOf tot).1.length ((Wi.lineOf tot).1.map u8V)∧∃ R' k',InAt w' F (fun j=>U j∨v.ownBlock=some j) R' ib k' (Wi.lineOf tot).2.2 out failed∧MvI R R' ib w w')
theorem next_any (F:Fx) (rest:List Bts) (ha:F.args=tagSed :: rest) (U R:Nat→Prop) (ib k:Nat) (tot out:Bts) (failed:Bool) (htot:tot.length≤4294967296) (w:World) (h:InAt w F U R ib k tot out failed) :
  Calls Tryz.prog 222 #[.pointer (some ⟨ib,0,none⟩)] w fun e w'=>NextIn w F U R ib tot out failed e w':=by
 have H:=Lib.hid h
 clear h
 go_enter Tryz.func222,Tryz.ntmps222
 go_wp2_with fail
 go_loopg [2,3,5,6,7,8,10,15,16,17,26,35,42] 3 (fun f _x2 _x3 _x5 _x6 _x7 _x8 _x10 _x15 _x16 _x17 _x26 _x35 _x42 wr=>∃ (R1:Nat→Prop) (k1:Nat) (tot1:Bts) (failed1:Bool),Hid (InAt wr F U R1 ib k1 tot1 out failed1)∧Hid (MvI R R1 ib w wr)∧((f=3∧tot1=tot∧failed1=failed)∨(f=2∧tot1=[]∧failed1=true∧tot≠[]∧F.line < (Wi.lineOf tot).1.length)))
 case atStart=>exact ⟨R,k,tot,failed,H,Lib.hid (MvI.refl _ _ _),.inl ⟨rfl,rfl,rfl⟩⟩
 case round=>
  obtain ⟨R1,k1,tot1,failed1,HI,HM,hw⟩:=hrel
  have hmo:=more_any F U R1 ib k1 tot1 out failed1 wr HI.out
  unfold MoreIn at hmo
  cases tot1 with
  | nil=>
   have HWW:Hid (NextIn w F U R ib tot out failed (.returned (.tuple #[.slice none 0 0,.bool false]))=NextIn w F U R ib tot out failed (.returned (.tuple #[.slice none 0 0,.bool false]))):=Lib.hid rfl
   have HW:=Lib.hid hw
   clear hw HWW
   go_wp2_with fail
   refine hmo.mono ?_
   rintro e w1 ⟨rfl,R2,k2,hi2,hk2,hm2⟩
   have HI2:=Lib.hid hi2
   have HM2:=Lib.hid (HM.out.trans hm2)
   have HK2:=Lib.hid hk2
   clear hmo hi2 hk2 hm2
   go_wp2_with fail
   go_ret2
   have hk0:k2=0:=HK2.out
   subst hk0
   rcases HW.out with ⟨-,e1,rfl⟩ | ⟨-,-,rfl,h1,h2⟩
   ·exact .inl ⟨e1.symm,rfl,R2,HI2.out,HM2.out⟩
   ·exact .inr (.inl ⟨h1,h2,rfl,R2,HI2.out,HM2.out⟩)
  | cons x t=>
   obtain ⟨e1,e2,e3⟩:gk=3∧x :: t=tot∧failed1=failed:=by
    rcases hw with h1 | ⟨-,h1,-⟩
    ·exact h1
    ·cases h1
   subst e1
   subst e3
   rw [e2] at hmo
   have hne:tot≠[]:=by rw [← e2];simp
   have hem:tot.isEmpty=false:=by rw [← e2];rfl
   rw [hem] at hmo
   clear hw e2 HI
   have HNE:=Lib.hid hne
   clear hne hem
   go_wp2_with fail
   refine hmo.mono ?_
   rintro e w1 ⟨rfl,R2,k2,hi2,hk2,hm2⟩
   have hk1:k2=1:=hk2
   subst hk1
   have HI2:=Lib.hid hi2
   have HM2:=Lib.hid (HM.out.trans hm2)
   clear hmo hi2 hk2 hm2 HM
   rcases HI2.out.st with ⟨hz,-⟩ | ⟨-,rfl,rd,M,hrd,hM,⟨p,c,hb⟩,hU,buf,o,feed,over,inp,hr,ht⟩ | ⟨hz,-⟩
   ·cases hz
   ·have c5:=Blk.cell hb 5 (v:=.slice none 0 0) rfl
    have c3:=Blk.cell hb 3 (v:=.pointer (some ⟨rd,0,none⟩)) rfl
    have f5:=Blk.free hb 5
    have HB:=Lib.hid hb
    have HR:=Lib.hid hr
    have HU:=Lib.hid hU
    have HMM:=Lib.hid hM
    have HRD:=Lib.hid hrd
    have HT:=Lib.hid ht
    clear hb hr hU hM hrd ht
    go_wp2_with fail
    go_loopw [5,16,17] (fun _x5 x16 _x17 wv=>x16=.int .i64 0∧wv=w1) (fun _ _ _ _=>0)
    case atStart=>exact ⟨rfl,rfl⟩
    case round=>
     obtain ⟨rfl,hwv⟩:=hrel
     rw [hwv]
     clear hwv
     obtain ⟨w2,hw2⟩:∃ w2,w1.setCell ⟨ib,5,none⟩ (.slice none 0 0)=w2:=⟨_,rfl⟩
     have hb2:Below w1.heap.size w1 w2:=by rw [← hw2];exact set_same HB.out rfl
     have kb2:InBlk w2 F.p ib (.slice p 0 c) [45] (.pointer (some ⟨rd,0,none⟩)) (.slice none 0 0) false:=Blk.keep HB.out hb2 (Blk.lt HB.out)
     have hr2:=HR.out.below hb2
     have hi2:=HI2.out.below hb2
     have hU2:∀ a n c,w2.cell? ⟨rd,2,none⟩=some (.slice (some a) n c)→¬ U a.block:=fun a n c e=>HU.out a n c (by
      obtain ⟨v0,hrb,-⟩:=HR.out.blk
      rw [← e]
      exact (World.cell?_of_block (hb2.block rd (Blk.lt hrb))).symm)
     have hln:=lineC_any F M rd buf o feed over inp out [] w2 hr2 (by rw [HT.out];exact htot)
     unfold LinePostC at hln
     rw [HT.out] at hln
     have hsome:=sline_some HNE.out
     rw [hsome] at hln
     have hMib:¬ (M ib∨ib=rd):=fun e=>by
      rcases e with e | e
      ·exact HI2.out.own.1 (HMM.out _ e)
      ·exact HI2.out.own.1 (e ▸ HRD.out)
     have k3:=Blk.cell kb2 3 (v:=.pointer (some ⟨rd,0,none⟩)) rfl
     have HM02:=Lib.hid (HM2.out.trans (MvI.below hb2))
     have KB2:=Lib.hid kb2
     have HI3:=Lib.hid hi2
     have HU2:=Lib.hid hU2
     have HW2:=Lib.hid hw2
     have HMIB:=Lib.hid hMib
     clear hb2 kb2 hr2 hi2 hU2 hw2 hMib hsome
     go_upto_region 8 with fail
     rw [HW2.out]
     clear c3 c5 f5
     go_wp2_with fail
     refine hln.mono ?_
     rintro e w3 ⟨hmv,⟨hlt,rfl,o3,feed3,over3,inp3,hr3⟩ | ⟨hle,v,rfl,hsl,hcap,hbf,o3,over3,buf3,inp3,hr3,ht3⟩⟩
     ·
      have kb3:InBlk w3 F.p ib (.slice p 0 c) [45] (.pointer (some ⟨rd,0,none⟩)) (.slice none 0 0) false:=Blk.kept KB2.out hmv.1 HMIB.out
      have hfl:=fails_any F M inp3 out [] rest ha ib (.slice p 0 c) (.pointer (some ⟨rd,0,none⟩)) (.slice none 0 0) (by simp) w3 hr3.pr (fun e=>HMIB.out (.inl e)) HI2.out.own.2 kb3
      have HLT:=Lib.hid hlt
      have HMV:=Lib.hid hmv
      clear hln hr3 kb3 hlt hmv
      go_wp2_with fail
      refine hfl.mono ?_
      rintro e w4 ⟨⟨u,rfl⟩,M4,hp4,kb4,hk4,hn4⟩
      have hlv:=leave_any F.p ib rd p c [45] true w4 kb4
      have HP4:=Lib.hid hp4
      have HK4:=Lib.hid hk4
      have HN4:=Lib.hid hn4
      clear hfl hp4 kb4 hk4 hn4
      go_wp2_with fail
      refine hlv.mono ?_
      rintro e w5 ⟨⟨u2,rfl⟩,⟨old,kb5⟩,hk5⟩
      have hsz3:=HMV.out.1.size
      have hib2:=HI3.out.ibLt
      have hM4:¬ M4 ib:=fun e=>by
       rcases HN4.out ib e with h1 | h1
       ·exact HMIB.out (.inl h1)
       ·omega
      have hp5:PrAt w5 F M4 inp3 out (errF true):=HP4.out.kept hk5 fun j e=>by
       have h5:j=ib:=e
       subst h5
       exact ⟨HI2.out.own.2,hM4⟩
      have hkk:Kept (fun j=>R2 j∨j=ib) w2 w5:=((HMV.out.1.mono fun j _ e=>by
       rcases e with e | e
       ·exact .inl (HMM.out j e)
       ·exact .inl (e ▸ HRD.out)).trans (HK4.out.mono fun j _ e=>by
       rcases e with e | e
       ·exact .inl (HMM.out j e)
       ·exact .inr e)).trans (hk5.mono fun _ _ e=>.inr e)
      have hen:=HI3.out.ended kb5 hp5 hkk fun j hj=>by
       rcases HN4.out j hj with h1 | h1
       ·exact .inl (HMM.out j h1)
       ·exact .inr (by omega)
      have HEN:=Lib.hid hen
      clear hlv kb5 hk5 hM4 hp5 hkk hen
      go_wp2_with fail
      go_roundg 2
      case measure=>omega
      case rel=>
       obtain ⟨R5,h1,h2⟩:=HEN.out
       exact ⟨R5,0,[],true,Lib.hid h1,Lib.hid (HM02.out.trans h2),.inr ⟨rfl,rfl,rfl,HNE.out,HLT.out⟩⟩
     ·
      obtain ⟨q,cq,hvq,hbs,-⟩:=hsl.bs
      subst hvq
      have hin3:=HI3.out.reading HRD.out HMM.out KB2.out HU2.out hmv hbf hr3 ht3
      have hll:(Wi.lineOf tot).1.length≤140737488355328:=by
       have:=Sd.lineOf_all tot
       omega
      have hcl:=clone_bytes q (Wi.lineOf tot).1 cq w3 hbs hll
      have HIN3:=Lib.hid hin3
      have HLE:=Lib.hid hle
      clear hln hmv hbf hr3 ht3 hsl hcap hin3 hle hbs
      go_wp2_with fail
      refine hcl.mono ?_
      rintro e w4 ⟨v4,rfl,ho4,hb4⟩
      obtain ⟨pv,cv,rfl⟩:=row_shape ho4
      have hin4:=HIN3.out.1.more_v hb4 (v:=.slice pv (Wi.lineOf tot).1.length cv) fun g e=>ho4.lt g e
      have hmo2:=more_any F _ R2 ib 1 _ out false w4 hin4
      unfold MoreIn at hmo2
      have HO4:=Lib.hid ho4
      have HB4:=Lib.hid hb4
      have HIN4:=Lib.hid hin4
      clear hcl ho4 hb4 hin4
      go_wp2_with fail
      refine hmo2.mono ?_
      rintro e w5 ⟨rfl,R5,k5,hi5,-,hm5⟩
      have HI5:=Lib.hid hi5
      have HM5:=Lib.hid hm5
      clear hmo2 hi5 hm5
      go_wp2_with fail
      go_ret2
      refine .inr (.inr ⟨HNE.out,HLE.out,_,rfl, ?_,R5,k5,HI5.out,((HM02.out.trans HIN3.out.2).trans (MvI.below HB4.out)).trans HM5.out⟩)
      have h1:w.heap.size≤w3.heap.size:=Nat.le_trans HM02.out.1.size HIN3.out.2.1.size
      exact own_mono (own_kept HO4.out HM5.out.1 fun g e e2=>by
       obtain ⟨-,b,c,-⟩:=HIN4.out.u0 g (.inr e)
       rcases e2 with e2 | e2
       ·exact b e2
       ·exact c e2) h1
   ·cases hz
end Go.Proofs.YtefpcacnblaokaaGreatDoor

/-
  A map by pointers, of one entry at most: how it is read and written. Conditions: its types are those of such a map.
-/
namespace Go.Proofs.YtefpcacnblaokaaGreatDoor
open Go.MapKept
def PtrMap (w:World) (b q:Nat) (o:Option Int):Prop:=match o with
 | none=>∃ clock,w.heap[b]?=some (.map #[] clock)
 | some k=>∃ born clock,w.heap[b]?=some (.map #[⟨.pointer (some ⟨q,0,none⟩),.int .i64 k,born⟩] clock)
theorem ptr_check {P:Program} {w:World} {k e:TypeId} (hk:P.underlying k=some (.pointer e)) (q:Value) (em:Bool) (n:Nat):(Instr.checkKey em (n+1) k q).run P w=.ok () w:=by
 unfold Instr.checkKey
 simp [run_underlying hk,Result.andThen]
theorem ptr_equal {P:Program} {w:World} {k e:TypeId} (hk:P.underlying k=some (.pointer e)) {n:Nat} (he:(sizeOf e).run P w=.ok n w) (q:Nat) :
  (Op.equal k (.pointer (some ⟨q,0,none⟩)) (.pointer (some ⟨q,0,none⟩))).run P w=.ok true w:=by
 unfold Op.equal Op.maxDepth
 rw [Op.equalIn]
 simp [run_underlying hk,he,Result.andThen,sameAddr]
theorem ptr_find0 {P:Program} {w:World} {k e:TypeId} (hk:P.underlying k=some (.pointer e)) (q:Value):(Instr.findKey k q []).run P w=.ok none w:=by
 simp [Instr.findKey,run_underlying hk,Instr.findNow,Result.andThen]
theorem ptr_find1 {P:Program} {w:World} {k e:TypeId} (hk:P.underlying k=some (.pointer e)) {n:Nat} (he:(sizeOf e).run P w=.ok n w) (q:Nat) (v:Value) (born:Nat) :
  (Instr.findKey k (.pointer (some ⟨q,0,none⟩)) [⟨.pointer (some ⟨q,0,none⟩),v,born⟩]).run P w=.ok (some (0,v)) w:=by
 simp [Instr.findKey,run_underlying hk,Instr.findNow,Instr.sameNow,Instr.findAsking,ptr_equal hk he,Result.andThen]
theorem PtrMap.look {P:Program} {w:World} {t k e el:TypeId} {b q:Nat} {o:Option Int} (h:PtrMap w b q o) (ht:P.underlying t=some (.map k el)) (hk:P.underlying k=some (.pointer e)) {n:Nat} (he:(sizeOf e).run P w=.ok n w) (hz:(zeroValue el).run P w=.ok (.int .i64 0) w) :
  (Instr.lookup t (.map (some b)) (.pointer (some ⟨q,0,none⟩)) false).run P w=.ok (.int .i64 (o.getD 0)) w:=by
 cases o with
 | none=>
  obtain ⟨clock,hb⟩:=h
  simp [Instr.lookup,run_underlying ht,MapKept.run_getObj_map hb,ptr_check hk,ptr_find0 hk,hz,Result.andThen]
 | some v=>
  obtain ⟨born,clock,hb⟩:=h
  simp [Instr.lookup,run_underlying ht,MapKept.run_getObj_map hb,ptr_check hk,ptr_find1 hk he,Result.andThen]
theorem PtrMap.put {P:Program} {w:World} {t k e el:TypeId} {b q:Nat} {o:Option Int} (h:PtrMap w b q o) (ht:P.underlying t=some (.map k el)) (hk:P.underlying k=some (.pointer e)) {n:Nat} (he:(sizeOf e).run P w=.ok n w) (v:Int) :
  ∃ w',(Instr.mapUpdate t (.map (some b)) (.pointer (some ⟨q,0,none⟩)) (.int .i64 v)).run P w=.ok () w'∧PtrMap w' b q (some v)∧w.grownBy w' (some b):=by
 cases o with
 | none=>
  obtain ⟨clock,hb⟩:=h
  refine ⟨{ w with heap:=w.heap.setIfInBounds b (.map #[⟨.pointer (some ⟨q,0,none⟩),.int .i64 v,clock⟩] (clock+1)) }, ?_,⟨clock,clock+1,(heap_set hb).1⟩,⟨rfl,rfl,rfl,by simp,fun i _ hi=>(heap_set hb).2 i fun e=>hi (by rw [e])⟩⟩
  simp [Instr.mapUpdate,run_underlying ht,MapKept.run_getObj_map hb,ptr_check hk,ptr_find0 hk,run_setObj_map _ hb,Result.andThen]
 | some x=>
  obtain ⟨born,clock,hb⟩:=h
  refine ⟨{ w with heap:=w.heap.setIfInBounds b (.map #[⟨.pointer (some ⟨q,0,none⟩),.int .i64 v,born⟩] clock) }, ?_,⟨born,clock,(heap_set hb).1⟩,⟨rfl,rfl,rfl,by simp,fun i _ hi=>(heap_set hb).2 i fun e=>hi (by rw [e])⟩⟩
  simp [Instr.mapUpdate,run_underlying ht,MapKept.run_getObj_map hb,ptr_check hk,ptr_find1 hk he,Instr.keyThatStays,Instr.sameBits,run_setObj_map _ hb,Result.andThen]
end Go.Proofs.YtefpcacnblaokaaGreatDoor
