/-
  Texts of this seat put together: Sd11, Sd12, Sd13, Sd14.
-/
import Derived.Test.YtefpcacnblaokaaGreatDoorQ22

/-
  The walk of the script reader's letters (of y). Conditions: the reader and a command lie in memory; what the spec tells.
-/
set_option maxRecDepth 100000
set_option maxHeartbeats 8000000
namespace Go.Proofs.YtefpcacnblaokaaGreatDoor
open Go.RowKit Go.Shelf Go.Maps Go.Sort
def setTab (x:Sd.Cmd) (T:List UInt8):Sd.Cmd:=⟨x.c,x.ads,x.neg,x.dest,x.lab,T,x.rx,x.rep,x.all,x.prt⟩
def tabK (old:List UInt8) (k:Nat):List UInt8:=(List.range 256).map fun i=>if i < k then UInt8.ofNat i else old.getD i 0
theorem tabK_len (old:List UInt8) (k:Nat):(tabK old k).length=256:=by simp [tabK]
theorem tabK_zero {old:List UInt8} (h:old.length=256):tabK old 0=old:=by
 apply List.ext_getElem
 ·rw [tabK_len,h]
 ·intro i h1 h2
  simp [tabK,List.getD_eq_getElem?_getD,List.getElem?_eq_getElem h2]
theorem tabK_end (old:List UInt8):tabK old 256=Sd.ident:=by
 unfold tabK Sd.ident
 apply List.map_congr_left
 intro i hi
 rw [if_pos (List.mem_range.1 hi)]
theorem tabK_set (old:List UInt8) (k:Nat) (_hk:k < 256):(tabK old k).set k (UInt8.ofNat k)=tabK old (k+1):=by
 apply List.ext_getElem
 ·simp [tabK]
 ·intro i h1 h2
  rw [List.getElem_set]
  simp only [tabK,List.getElem_map,List.getElem_range]
  by_cases h:k=i
  ·subst h
   rw [if_pos rfl,if_pos (by omega)]
  ·rw [if_neg h]
   by_cases h3:i < k
   ·rw [if_pos h3,if_pos (by omega)]
   ·rw [if_neg h3,if_neg (by omega)]
def hadC (l:List Sd.Pc):Array Value:=((List.range 256).map fun i=>Value.bool (l.any fun p=>p.c == UInt8.ofNat i)).toArray
theorem hadC_get (l:List Sd.Pc) (c:UInt8):(hadC l)[c.toNat]?=some (.bool (l.any fun p=>p.c == c)):=by
 unfold hadC
 rw [List.getElem?_toArray,List.getElem?_map,List.getElem?_range c.toNat_lt]
 simp
theorem hadC_set (l:List Sd.Pc) (p:Sd.Pc):(hadC l).setIfInBounds p.c.toNat (.bool true)=hadC (l ++ [p]):=by
 apply Array.ext'
 rw [Array.toList_setIfInBounds]
 unfold hadC
 simp only
 apply List.ext_getElem
 ·simp
 ·intro i h1 h2
  rw [List.getElem_set]
  simp only [List.getElem_map,List.getElem_range,List.any_append,List.any_cons,List.any_nil,Bool.or_false]
  have hi:i < 256:=by simpa using h2
  by_cases h:p.c.toNat=i
  ·rw [if_pos h]
   subst h
   simp
  ·rw [if_neg h]
   have:(p.c == UInt8.ofNat i)=false:=by
    rw [beq_eq_false_iff_ne]
    intro e
    apply h
    rw [e]
    simp [UInt8.toNat_ofNat']
    omega
   rw [this,Bool.or_false]
theorem tabOf_snoc:∀ (a b:List Sd.Pc) (p q:Sd.Pc) (t:List UInt8),a.length=b.length→Sd.tabOf (a ++ [p]) (b ++ [q]) t=(Sd.tabOf a b t).set p.c.toNat q.c:=by
 intro a
 induction a with
 | nil=>
  intro b p q t h
  cases b with
  | nil=>rfl
  | cons _ _=>simp at h
 | cons x r ih=>
  intro b p q t h
  cases b with
  | nil=>simp at h
  | cons y s=>
   simp only [List.cons_append,Sd.tabOf]
   exact ih s p q _ (by simpa using h)
theorem tabOf_len:∀ (a b:List Sd.Pc) (t:List UInt8),(Sd.tabOf a b t).length=t.length:=by
 intro a
 induction a with
 | nil=>intro b t;cases b <;> rfl
 | cons x r ih=>
  intro b t
  cases b with
  | nil=>rfl
  | cons y s=>
   simp only [Sd.tabOf]
   rw [ih]
   simp
theorem distinct_at:∀ (a:List Sd.Pc) (i:Nat) (hi:i < a.length),Sd.distinct a=true→((a.take i).any fun p=>p.c == a[i].c)=false:=by
 intro a
 induction a with
 | nil=>intro i hi;simp at hi
 | cons x r ih=>
  intro i hi h
  unfold Sd.distinct at h
  simp only [Bool.and_eq_true,Bool.not_eq_true'] at h
  cases i with
  | zero=>rfl
  | succ i=>
   have hi2:i < r.length:=by simp at hi;omega
   have h1:=ih i hi2 h.2
   simp only [List.take_succ_cons,List.any_cons,List.getElem_cons_succ]
   rw [h1,Bool.or_false]
   rw [beq_eq_false_iff_ne]
   intro e
   have h2:=h.1
   rw [List.any_eq_false] at h2
   exact h2 r[i] (List.getElem_mem _) (by rw [e];simp)
def PcRow (W0 W:World) (v:Value) (l:List Sd.Pc):Prop:=W.ownsRow W0.heap.size 229 2 v l.length (l.flatMap pcCells)
theorem PcRow.at_ {W0 W:World} {v:Value} {l:List Sd.Pc} (h:PcRow W0 W v l) (i:Nat) (hi:i < l.length):∃ g c,v=.slice (some ⟨g,0,none⟩) l.length c∧W0.heap.size≤g∧W.cell? ⟨g,i * 2,none⟩=some (.bool l[i].found)∧W.cell? ⟨g,i * 2+1,none⟩=some (.int .u8 l[i].c.toNat):=by
 have hf:(l.flatMap pcCells)[i * 2]?=some (.bool l[i].found)∧(l.flatMap pcCells)[i * 2+1]?=some (.int .u8 l[i].c.toNat):=by
  clear h
  induction l generalizing i with
  | nil=>simp at hi
  | cons x r ih=>
   rw [List.flatMap_cons]
   cases i with
   | zero=>exact ⟨rfl,rfl⟩
   | succ i=>
    obtain ⟨h1,h2⟩:=ih i (by simp at hi;omega)
    have e1:(i+1) * 2=(pcCells x).length+i * 2:=by simp [pcCells];omega
    have e2:(i+1) * 2+1=(pcCells x).length+(i * 2+1):=by simp [pcCells];omega
    rw [e1,List.getElem?_append_right (by omega),Nat.add_sub_cancel_left,List.getElem?_append_right (by omega),Nat.add_assoc,Nat.add_sub_cancel_left]
    exact ⟨h1,h2⟩
 rcases h.2 with ⟨-,h2⟩ | ⟨g,cap,cur,e,hb,hblk,hc,r⟩
 ·omega
 ·have hl:(l.flatMap pcCells).length=l.length * 2:=pcs_len l
  refine ⟨g,cap,e,hb, ?_, ?_⟩
  ·have:=h.cells (g:=g) (by rw [e];rfl) (i * 2) _ hf.1
   rwa [show ((⟨g,0,none⟩:Addr).add (i * 2))=⟨g,i * 2,none⟩ by simp only [Addr.add];split <;> simp_all] at this
  ·have:=h.cells (g:=g) (by rw [e];rfl) (i * 2+1) _ hf.2
   rwa [show ((⟨g,0,none⟩:Addr).add (i * 2+1))=⟨g,i * 2+1,none⟩ by simp only [Addr.add];split <;> simp_all] at this
theorem letters_form {s T t:Bts} (h:Sd.letters s=some (T,t)):∃ d s0 a r1 b,s=d :: s0∧(d≠92∧d≠10)∧s0.length≤1000000∧r1.length≤1000000∧Sd.side d false s0 []=some (a,r1)∧Sd.side d false r1 []=some (b,t)∧a.length=b.length∧Sd.distinct a=true∧T=Sd.tabOf a b Sd.ident:=by
 unfold Sd.letters at h
 cases s with
 | nil=>cases h
 | cons d s0=>
  simp only at h
  by_cases h1:d=92∨d=10∨1000000 < s0.length
  ·rw [if_pos h1] at h;cases h
  ·rw [if_neg h1] at h
   cases hs:Sd.side d false s0 [] with
   | none=>rw [hs] at h;cases h
   | some x=>
    obtain ⟨a,r1⟩:=x
    rw [hs] at h
    simp only at h
    by_cases h2:1000000 < r1.length
    ·rw [if_pos h2] at h;cases h
    ·rw [if_neg h2] at h
     cases hs2:Sd.side d false r1 [] with
     | none=>rw [hs2] at h;cases h
     | some x2=>
      obtain ⟨b,r2⟩:=x2
      rw [hs2] at h
      simp only at h
      by_cases h3:a.length=b.length∧Sd.distinct a=true
      ·rw [if_pos h3] at h
       simp only [Option.some.injEq,Prod.mk.injEq] at h
       obtain ⟨rfl,rfl⟩:=h
       exact ⟨d,s0,a,r1,b,rfl,⟨fun e=>h1 (.inl e),fun e=>h1 (.inr (.inl e))⟩,by omega,by omega,hs,hs2,h3.1,h3.2,rfl⟩
      ·rw [if_neg h3] at h;cases h
theorem side_len (d:UInt8) (rep:Bool):∀ (s:Bts) (acc l:List Sd.Pc) (t:Bts),Sd.side d rep s acc=some (l,t)→l.length≤acc.length+s.length:=by
 intro s
 induction s with
 | nil=>intro acc l t h;cases h
 | cons c r ih=>
  intro acc l t h
  unfold Sd.side at h
  split at h
  ·simp only [Option.some.injEq,Prod.mk.injEq] at h
   obtain ⟨rfl,-⟩:=h
   omega
  ·split at h
   ·cases h
   ·split at h
    ·have:=ih _ _ _ h;simp at this ⊢;omega
    ·have:=ih _ _ _ h;simp at this ⊢;omega
theorem row_shape {w:World} {B n size:Nat} {v:Value} {t:TypeId} {xs:List Value} (h:w.ownsRow B t size v n xs):∃ p c,v=.slice p n c:=by
 rcases h.2 with ⟨h1,h2⟩ | ⟨g,cap,cur,e,-⟩
 ·exact ⟨none,0,by rw [h1,h2]⟩
 ·exact ⟨_,_,e⟩
theorem had_new:Tryz.zeroCells126=hadC []:=by kernel_rfl
def LetPost (W0:World) (r q:Nat) (x:Sd.Cmd) (T:List UInt8) (t:Bts) (lv ov av re rv:Value) (e:Ending) (w':World):Prop:=(e=.returned (.tuple #[])∧RdB w' r t lv ov∧CmBlk w' q (setTab x T) av re rv)∧Kept (fun k=>k=r∨k=q) W0 w'
theorem sletters_any (r q:Nat) (hrq:r≠q) (x:Sd.Cmd) (s T t:Bts) (hx:Sd.letters s=some (T,t)) (htab:x.tab.length=256) (lv ov av re rv:Value) (w:World) (h:RdB w r s lv ov) (hq:CmBlk w q x av re rv) :
  Calls Tryz.prog 61 #[.pointer (some ⟨r,0,none⟩),.pointer (some ⟨q,0,none⟩)] w fun e w'=>LetPost w r q x T t lv ov av re rv e w':=by
 obtain ⟨d,s0,a,r1,b,rfl,hd,hl0,hl1,hs1,hs2,hab,hdis,rfl⟩:=letters_form hx
 have hm:=smark_any r d s0 hd lv ov w h
 have HRL:=Lib.hid (Blk.lt h)
 have HQL:=Lib.hid (Blk.lt hq)
 have HQ:=Lib.hid hq
 have HS1:=Lib.hid hs1
 have HS2:=Lib.hid hs2
 have HDIS:=Lib.hid hdis
 have hbl:=side_len _ _ _ _ _ _ hs2
 simp only [List.length_nil,Nat.zero_add] at hbl
 clear h hq hx hs1 hs2 hdis
 go_enter Tryz.func61,Tryz.ntmps61
 go_wp2_with fail
 refine hm.mono ?_
 rintro e w1 ⟨⟨rfl,hr1⟩,hk1⟩
 have hsd1:=sside_any r d false s0 hl0 a r1 HS1.out lv ov w1 hr1
 have HK1:=Lib.hid hk1
 clear hm hr1 hk1
 go_wp2_with fail
 refine hsd1.mono ?_
 rintro e w2 ⟨⟨v2,rfl,ho2,hr2⟩,hk2⟩
 have hsd2:=sside_any r d false r1 hl1 b t HS2.out lv ov w2 hr2
 have HK2:=Lib.hid (HK1.out.trans hk2)
 have ho2b:PcRow w w2 v2 a:=own_mono ho2 HK1.out.size
 have HO2:=Lib.hid ho2b
 clear hsd1 hr2 hk2 ho2 ho2b
 go_wp2_with fail
 refine hsd2.mono ?_
 rintro e w3 ⟨⟨v3,rfl,ho3,hr3⟩,hk3⟩
 have hrl:=HRL.out
 have hql:=HQL.out
 have ho3b:PcRow w w3 v3 b:=own_mono ho3 HK2.out.size
 have ho2b:PcRow w w3 v2 a:=own_kept HO2.out hk3 fun k e e2=>by have h1:=(HO2.out.lt k e).1;have h2:k=r:=e2;omega
 have HK3:=Lib.hid (HK2.out.trans hk3)
 have hq3:CmBlk w3 q x av re rv:=Blk.kept HQ.out HK3.out (fun e=>hrq e.symm)
 obtain ⟨p2,c2,hv2⟩:=row_shape ho2b
 obtain ⟨p3,c3,hv3⟩:=row_shape ho3b
 subst hv2
 subst hv3
 have e1:((a.length:Int) != (b.length:Int))=false:=by rw [hab];simp
 have HOA:=Lib.hid ho2b
 have HOB:=Lib.hid ho3b
 have HR3:=Lib.hid hr3
 have HQ3:=Lib.hid hq3
 clear hsd2 ho3 hr3 hk3 ho2b ho3b hq3
 go_wp2_with fail
 go_loopw [7,25] (fun _x7 x25 wr=>∃ k:Nat,k≤256∧x25=.int .i64 k∧Hid (CmBlk wr q (setTab x (tabK x.tab k)) av re rv)∧Hid (Kept (fun k=>k=q) w3 wr)) (fun _ x25 _=>256 - (intOf x25).toNat)
 case atStart=>exact ⟨0,Nat.zero_le _,rfl,Lib.hid (by rw [tabK_zero htab];exact HQ3.out),Lib.hid (Kept.refl _ _)⟩
 case round=>
  obtain ⟨k,hk,rfl,HC,HKR⟩:=hrel
  by_cases hlt:k < 256
  ·have cz:=Blk.cell HC.out (6+k) (cm_tab k (by rw [setTab,tabK_len];exact hlt))
   have fz:=Blk.free HC.out (6+k)
   have he:((UInt8.ofNat k).toNat:Int)=k:=by
    have:(UInt8.ofNat k).toNat=k:=by simp [UInt8.toNat_ofNat'];omega
    rw [this]
   have hset:=Blk.set HC.out (6+k) (.int .u8 (UInt8.ofNat k).toNat)
   rw [cm_set_tab k (by rw [setTab,tabK_len];exact hlt)] at hset
   rw [he] at hset
   have hset2:CmBlk (wr.setCell ⟨q,6+k,none⟩ (.int .u8 k)) q (setTab x (tabK x.tab (k+1))) av re rv:=by
    rw [← tabK_set _ k hlt]
    exact hset
   have HSET:=Lib.hid hset2
   clear hset hset2 he
   go_wp2_with fail
   exact ⟨⟨k+1,by omega,by go_num,HSET,Lib.hid (HKR.out.setCell (.inl rfl) _ _)⟩,by simp [intOf];omega⟩
  ·obtain rfl:k=256:=by omega
   have hc:=HC.out
   rw [tabK_end] at hc
   have HC2:=Lib.hid hc
   clear hc HC
   obtain ⟨w4,hw4⟩:∃ w4,wr.alloc (.cells Tryz.zeroCells126 126)=w4:=⟨_,rfl⟩
   have hb4:Below wr.heap.size wr w4:=by rw [← hw4];exact (Below.refl _ _).alloc (Nat.le_refl _) _
   have kh:Blk w4 wr.heap.size (hadC []) 126:=by rw [← hw4,← had_new];exact Blk.new _ _ _
   obtain ⟨hb,hhb⟩:∃ hb,wr.heap.size=hb:=⟨_,rfl⟩
   rw [hhb] at kh
   have hk34:Kept (fun k=>k=q) w3 w4:=HKR.out.trans (Kept.of_below hb4)
   have hq4:CmBlk w4 q (setTab x Sd.ident) av re rv:=Blk.kept HC2.out (Kept.of_below (S:=fun _=>False) hb4) id
   have hr4:RdB w4 r t lv ov:=RdB.kept HR3.out hk34 hrq
   have hsz3:=HK3.out.size
   have hsz4:w3.heap.size≤hb:=by rw [← hhb];exact HKR.out.size
   have hszb:hb < w4.heap.size:=Blk.lt kh
   have hoa4:PcRow w w4 (.slice p2 a.length c2) a:=own_kept HOA.out hk34 fun k e e2=>by have h1:=(HOA.out.lt k e).1;have h2:k=q:=e2;omega
   have hob4:PcRow w w4 (.slice p3 b.length c3) b:=own_kept HOB.out hk34 fun k e e2=>by have h1:=(HOB.out.lt k e).1;have h2:k=q:=e2;omega
   have hnb:(∀ g c,Value.slice p2 a.length c2=.slice (some ⟨g,0,none⟩) a.length c→g≠hb)∧(∀ g c,Value.slice p3 b.length c3=.slice (some ⟨g,0,none⟩) b.length c→g≠hb):=⟨fun g c e=>by
    have h1:=(HOA.out.lt g (by rw [e];rfl)).2
    omega,fun g c e=>by
    have h1:=(HOB.out.lt g (by rw [e];rfl)).2
    omega⟩
   have HW4:=Lib.hid hw4
   have HKH:=Lib.hid kh
   have HK34:=Lib.hid hk34
   have HQ4:=Lib.hid hq4
   have HR4:=Lib.hid hr4
   have HOA4:=Lib.hid hoa4
   have HOB4:=Lib.hid hob4
   have HNB:=Lib.hid hnb
   have HHB:=Lib.hid hhb
   clear hw4 hb4 kh hk34 hq4 hr4 hoa4 hob4 hnb HC2
   go_wp2_with fail
   rw [HW4.out]
   try rw [HHB.out]
   clear hhb
   go_loopw [9,10,38] (fun _x9 _x10 x38 wv=>∃ i:Nat,i≤b.length∧x38=.int .i64 i∧Hid (Blk wv hb (hadC (a.take i)) 126)∧Hid (CmBlk wv q (setTab x (Sd.tabOf (a.take i) (b.take i) Sd.ident)) av re rv)∧Hid (Kept (fun k=>k=q∨k=hb) w4 wv)) (fun _ _ x38 _=>b.length - (intOf x38).toNat)
   case atStart=>exact ⟨0,Nat.zero_le _,rfl,HKH,HQ4,Lib.hid (Kept.refl _ _)⟩
   case round=>
    obtain ⟨i,hi,rfl,HH,HC,HKV⟩:=hrel
    by_cases hlt:i < b.length
    ·have hia:i < a.length:=by omega
     obtain ⟨ga,ca,ea,ga0,a0,a1⟩:=HOA4.out.at_ i hia
     obtain ⟨gb,cb,eb,gb0,b0,b1⟩:=HOB4.out.at_ i hlt
     have na:=HNB.out.1 ga ca ea
     have nb:=HNB.out.2 gb cb eb
     obtain ⟨pa,hpa⟩:∃ pa,a[i]=pa:=⟨_,rfl⟩
     obtain ⟨pb,hpb⟩:∃ pb,b[i]=pb:=⟨_,rfl⟩
     rw [hpa] at a0 a1
     rw [hpb] at b0 b1
     injection ea with ea1 ea2 ea3
     injection eb with eb1 eb2 eb3
     subst ea1
     subst eb1
     have hkc:∀ g o v,w4.cell? ⟨g,o,none⟩=some v→g≠q→g≠hb→wr.cell? ⟨g,o,none⟩=some v:=fun g o v h h1 h2=>(World.cell?_of_block (HKV.out.block g (World.block_lt_of_cell? _ _ h) (fun e=>e.elim h1 h2))).trans h
     have ka0:=hkc _ _ _ a0 (by omega) na
     have ka1:=hkc _ _ _ a1 (by omega) na
     have kb1:=hkc _ _ _ b1 (by omega) nb
     have hdi:=distinct_at a i hia HDIS.out
     rw [hpa] at hdi
     have hc1:=(u8_bd pa.c).1
     have hc2:=(u8_bd pa.c).2
     have hcn:=pa.c.toNat_lt
     have HPA:=Lib.hid hpa
     have HPB:=Lib.hid hpb
     have HKB1:=Lib.hid kb1
     have HDI:=Lib.hid hdi
     have HGB0:=Lib.hid gb0
     have hhq:hb≠q:=by omega
     clear a0 a1 b0 b1 hkc kb1 hdi hpa hpb ga0 gb0
     go_upto_region 14 with fail
     obtain ⟨w5,hw5⟩:∃ w5,wr.alloc (.cells #[.bool pa.found,.int .u8 pa.c.toNat] 229)=w5:=⟨_,rfl⟩
     rw [hw5]
     have hbx5:Blk w5 wr.heap.size #[.bool pa.found,.int .u8 pa.c.toNat] 229:=by rw [← hw5];exact Blk.new _ _ _
     have hb5:Below wr.heap.size wr w5:=by rw [← hw5];exact (Below.refl _ _).alloc (Nat.le_refl _) _
     have hh5:=Blk.keep HH.out hb5 (Blk.lt HH.out)
     have hc5:=Blk.keep HC.out hb5 (Blk.lt HC.out)
     have hlh:hb < wr.heap.size:=Blk.lt HH.out
     have hlq:q < wr.heap.size:=Blk.lt HC.out
     have p1:=hbx5.cell 1 (v:=.int .u8 pa.c.toNat) rfl
     have g1:=hh5.cell _ (hadC_get (a.take i) pa.c)
     rw [HDI.out] at g1
     have g2:=hh5.free pa.c.toNat
     have hh6:=hh5.set pa.c.toNat (.bool true)
     rw [hadC_set] at hh6
     have hc6:CmBlk (w5.setCell ⟨hb,pa.c.toNat,none⟩ (.bool true)) q _ av re rv:=Blk.setOther hc5 (a:=⟨hb,pa.c.toNat,none⟩) (by show q≠hb;omega) _
     have hbx6:=hbx5.setOther (a:=⟨hb,pa.c.toNat,none⟩) (by show wr.heap.size≠hb;omega) (.bool true)
     have hk6:Kept (fun k=>k=q∨k=hb) w4 (w5.setCell ⟨hb,pa.c.toNat,none⟩ (.bool true)):=(HKV.out.trans (Kept.of_below hb5)).setCell (.inl (.inr rfl)) _ _
     have kb6:(w5.setCell ⟨hb,pa.c.toNat,none⟩ (.bool true)).cell? ⟨gb,i * 2+1,none⟩=some (.int .u8 pb.c.toNat):=by
      have hk:Kept (fun k=>k=hb) wr (w5.setCell ⟨hb,pa.c.toNat,none⟩ (.bool true)):=(Kept.of_below (S:=fun k=>k=hb) hb5).setCell (.inl rfl) _ _
      exact (World.cell?_of_block (hk.block gb (World.block_lt_of_cell? _ _ HKB1.out) nb)).trans HKB1.out
     have HH6:=Lib.hid hh6
     have HC6:=Lib.hid hc6
     have HBX6:=Lib.hid hbx6
     have HK6:=Lib.hid hk6
     clear hw5 hbx5 hb5 hh5 hc5 hh6 hc6 hbx6 hk6
     go_upto_region 17 with fail
     obtain ⟨w6,hw6⟩:∃ w6,w5.setCell ⟨hb,pa.c.toNat,none⟩ (.bool true)=w6:=⟨_,rfl⟩
     rw [hw6] at HH6 HC6 HBX6 HK6 kb6 ⊢
     have p1:=HBX6.out.cell 1 (v:=.int .u8 pa.c.toNat) rfl
     have htl:(setTab x (Sd.tabOf (a.take i) (b.take i) Sd.ident)).tab.length=256:=by
      show (Sd.tabOf (a.take i) (b.take i) Sd.ident).length=256
      rw [tabOf_len]
      simp [Sd.ident]
     have z1:=Blk.cell HC6.out (6+pa.c.toNat) (cm_tab pa.c.toNat (by rw [htl];exact hcn))
     have z2:=Blk.free HC6.out (6+pa.c.toNat)
     have p1d:=HBX6.out.drew.cell 1 (v:=.int .u8 pa.c.toNat) rfl
     have kb6d:w6.drew.cell? ⟨gb,i * 2+1,none⟩=some (.int .u8 pb.c.toNat):=kb6
     have z1d:=Blk.cell (Blk.drew HC6.out) (6+pa.c.toNat) (cm_tab pa.c.toNat (by rw [htl];exact hcn))
     have z2d:=Blk.free (Blk.drew HC6.out) (6+pa.c.toNat)
     clear hw6 g1 g2
     have hset:=Blk.set HC6.out (6+pa.c.toNat) (.int .u8 pb.c.toNat)
     rw [cm_set_tab pa.c.toNat (by rw [htl];exact hcn)] at hset
     have eta:a.take (i+1)=a.take i ++ [pa]:=by rw [List.take_succ_eq_append_getElem hia,HPA.out]
     have etb:b.take (i+1)=b.take i ++ [pb]:=by rw [List.take_succ_eq_append_getElem hlt,HPB.out]
     have htt:CmBlk (w6.setCell ⟨q,6+pa.c.toNat,none⟩ (.int .u8 pb.c.toNat)) q (setTab x (Sd.tabOf (a.take (i+1)) (b.take (i+1)) Sd.ident)) av re rv:=by
      rw [eta,etb,tabOf_snoc _ _ _ _ _ (by simp;omega)]
      exact hset
     have hh7:Blk (w6.setCell ⟨q,6+pa.c.toNat,none⟩ (.int .u8 pb.c.toNat)) hb (hadC (a.take (i+1))) 126:=by
      rw [eta]
      exact HH6.out.setOther (a:=⟨q,6+pa.c.toNat,none⟩) hhq _
     have HLT:=Lib.hid hlt
     have HTT:=Lib.hid htt
     have HH7:=Lib.hid hh7
     have HK7:=Lib.hid (HK6.out.setCell (b:=q) (.inl (.inl rfl)) (6+pa.c.toNat) (.int .u8 pb.c.toNat))
     clear hset eta etb htt hh7
     go_region
     go_wp2_with fail
     go_roundw
     case rel=>exact ⟨i+1,HLT.out,by go_num,Lib.hid HH7.out.drew,Lib.hid (Blk.drew HTT.out),Lib.hid HK7.out.drew⟩
     case measure=>have h:=HLT.out;simp [intOf];omega
    ·obtain rfl:i=b.length:=by omega
     have hta:a.take b.length=a:=List.take_of_length_le (by omega)
     have htb:b.take b.length=b:=List.take_of_length_le (Nat.le_refl _)
     have hcf:=HC.out
     rw [hta,htb] at hcf
     have HCF:=Lib.hid hcf
     clear hcf hta htb
     go_wp2_with fail
     go_end0
     refine ⟨⟨rfl,RdB.kept HR4.out HKV.out (fun e=>by rcases e with e | e;(· exact hrq e);(· omega)),HCF.out⟩, ?_⟩
     have k1:Kept (fun k=>k=r∨k=q) w w4:=(HK3.out.mono fun _ _ e=>.inl e).trans (HK34.out.mono fun _ _ e=>.inr e)
     exact k1.trans' HKV.out fun k hk e=>by
      rcases e with e | e
      ·exact .inr e
      ·omega
end Go.Proofs.YtefpcacnblaokaaGreatDoor

/-
  What keeps the script reader: a command more, a command that has turned. No condition.
-/
namespace Go.Proofs.YtefpcacnblaokaaGreatDoor
open Go.RowKit Go.Shelf Go.Maps
variable {W W':World} {K K':Nat→Prop} {B r:Nat} {q:Sd.RS} {qs:List Nat} {lv ov:Value}
theorem RSt.same (h:RSt W K B r q qs) (h0:RdB W r q.s lv ov):W.ownsRow B 82 1 lv q.l.length (qs.map ptrC)∧OpnAt W K qs ov q.opn∧∀ g,lv.ownBlock=some g→¬ K g∧g≠r∧g ∉ qs:=by
 obtain ⟨lv',ov',e0,hl,ho,hb⟩:=h.rd
 have a:=Blk.cell e0 1 (v:=lv') rfl
 have b:=Blk.cell h0 1 (v:=lv) rfl
 have c:=Blk.cell e0 2 (v:=ov') rfl
 have d:=Blk.cell h0 2 (v:=ov) rfl
 rw [a] at b
 rw [c] at d
 obtain rfl:=Option.some.inj b
 obtain rfl:=Option.some.inj d
 exact ⟨hl,ho,hb⟩
theorem RSt.rlt (h:RSt W K B r q qs):r < W.heap.size:=by
 obtain ⟨lv',ov',e0,-⟩:=h.rd
 exact Blk.lt e0
theorem RSt.qlt (h:RSt W K B r q qs):∀ x ∈ qs,x < W.heap.size:=fun x hx=>by
 obtain ⟨i,hi,rfl⟩:=List.mem_iff_getElem.1 hx
 have:=(h.cm i hi).lt
 rwa [List.getD_eq_getElem?_getD,List.getElem?_eq_getElem hi] at this
theorem getD_inj {qs:List Nat} (hnd:qs.Nodup) {i j:Nat} (hi:i < qs.length) (hj:j < qs.length) (h:qs.getD i 0=qs.getD j 0):i=j:=by
 rw [List.getD_eq_getElem?_getD,List.getElem?_eq_getElem hi,List.getD_eq_getElem?_getD,List.getElem?_eq_getElem hj] at h
 exact (List.getElem_inj hnd).1 h
theorem RSt.upd (h:RSt W K B r q qs) (h0:RdB W r q.s lv ov) {s':Bts} (h1:RdB W' r s' lv ov) {i:Nat} (hi:i < qs.length) (hk:Kept (fun k=>k=r∨k=qs.getD i 0) W W') {y:Sd.Cmd} (hy:CmdAt W' K' (qs.getD i 0) y) (hKK:∀ k,K k→K' k) (hK':∀ k,K' k→K k∨W.heap.size≤k∧k < W'.heap.size):RSt W' K' B r ⟨s',q.l.set i y,q.opn⟩ qs:=by
 obtain ⟨hl,ho,hb⟩:=h.same h0
 have hqi:=getD_mem hi
 have hS:∀ k,K k→¬ (k=r∨k=qs.getD i 0):=fun k hk2 e=>by
  rcases e with e | e
  ·exact h.rb.2 (e ▸ hk2)
  ·exact (h.own _ hqi).1 (e ▸ hk2)
 have hn:∀ k,k < W.heap.size→K' k→K k:=fun k hk2 h3=>(hK' k h3).resolve_right (fun e=>by omega)
 have hB:B≤W.heap.size:=Nat.le_trans h.rb.1 (Nat.le_of_lt h.rlt)
 refine ⟨⟨lv,ov,h1, ?_,(ho.kept hk hS).mono hKK,fun g e=>?_⟩,by rw [List.length_set];exact h.len,fun j hj=>?_,h.nd,fun x hx=>?_,fun k hk2=>?_,h.rb.1,fun e=>?_⟩
 ·rw [List.length_set]
  exact own_kept hl hk fun g e e2=>by
   rcases e2 with e2 | e2
   ·exact (hb g e).2.1 e2
   ·exact (hb g e).2.2 (e2 ▸ hqi)
 ·exact ⟨fun e3=>(hb g e).1 (hn g (hl.lt g e).2 e3),(hb g e).2⟩
 ·have hjl:j < q.l.length:=by rw [← h.len];exact hj
  by_cases hij:i=j
  ·subst hij
   have:(q.l.set i y).getD i default=y:=by rw [List.getD_eq_getElem?_getD,List.getElem?_set_self hjl];rfl
   rw [this]
   exact hy
  ·have:(q.l.set i y).getD j default=q.l.getD j default:=by rw [List.getD_eq_getElem?_getD,List.getElem?_set_ne hij,← List.getD_eq_getElem?_getD]
   rw [this]
   exact ((h.cm j hj).kept hk (fun e=>by
    rcases e with e | e
    ·exact (h.own _ (getD_mem hj)).2.1 e
    ·exact hij (getD_inj h.nd hi hj e.symm)) hS).mono hKK
 ·exact ⟨fun e=>(h.own x hx).1 (hn x (h.qlt x hx) e),(h.own x hx).2⟩
 ·rcases hK' k hk2 with h3 | h3
  ·exact ⟨(h.kb k h3).1,Nat.lt_of_lt_of_le (h.kb k h3).2 hk.size⟩
  ·exact ⟨by omega,h3.2⟩
 ·exact h.rb.2 (hn r h.rlt e)
theorem RSt.push {w w1 w2:World} (h:RSt w K B r q qs) (h0:RdB w r q.s lv ov) {t:Bts} (h1:RdB w1 r t lv ov) (hk:Kept (fun k=>k=r) w w1) {x:Nat} {y:Sd.Cmd} {Kx:Nat→Prop} (hx:CmdAt w1 Kx x y) (hxN:w.heap.size≤x) (hK:∀ k,Kx k→w.heap.size≤k∧k < w1.heap.size∧k≠x) {O:Obj} {v':Value} (hg:(w1.alloc O).grownBy w2 lv.ownBlock) (hob:v'.ownBlock=lv.ownBlock∨v'.ownBlock=some (w1.heap.size+1))
  (ho:w2.ownsRow B 82 1 v' (q.l.length+1) (qs.map ptrC ++ [ptrC x])):RSt (w2.setCell ⟨r,1,none⟩ v') (fun k=>K k∨Kx k) B r ⟨t,q.l ++ [y],q.opn⟩ (qs ++ [x])∧RdB (w2.setCell ⟨r,1,none⟩ v') r t v' ov:=by
 obtain ⟨hl,hop,hb⟩:=h.same h0
 have hxl:=hx.lt
 have hrl:=h.rlt
 have hlv:∀ g,lv.ownBlock=some g→g < w.heap.size:=fun g e=>(hl.lt g e).2
 have hk2:Kept (fun k=>lv.ownBlock=some k) w1 w2:=kept_grown ((Kept.refl (fun _=>False) w1).alloc O) hg
 have hk3:Kept (fun k=>k=r) w2 (w2.setCell ⟨r,1,none⟩ v'):=(Kept.refl (fun k=>k=r) w2).setCell (.inl rfl) 1 _
 have hrd2:RdB w2 r t lv ov:=RdB.kept h1 hk2 (fun e=>(hb r e).2.1 rfl)
 have hset:RdB (w2.setCell ⟨r,1,none⟩ v') r t v' ov:=Blk.set hrd2 1 v'
 have hks:Kept (fun k=>k=r∨lv.ownBlock=some k) w (w2.setCell ⟨r,1,none⟩ v'):=((hk.mono fun _ _ e=>.inl e).trans (hk2.mono fun _ _ e=>.inr e)).trans (hk3.mono fun _ _ e=>.inl e)
 have hkx:Kept (fun k=>k=r∨lv.ownBlock=some k) w1 (w2.setCell ⟨r,1,none⟩ v'):=(hk2.mono fun _ _ e=>.inr e).trans (hk3.mono fun _ _ e=>.inl e)
 have hSx:∀ k,w.heap.size≤k→¬ (k=r∨lv.ownBlock=some k):=fun k hk4 e=>by
  rcases e with e | e
  ·omega
  ·have:=hlv k e;omega
 have hSK:∀ k,K k→¬ (k=r∨lv.ownBlock=some k):=fun k hk4 e=>by
  rcases e with e | e
  ·exact h.rb.2 (e ▸ hk4)
  ·exact (hb k e).1 hk4
 have hsz:=hks.size
 have hsz1:=hkx.size
 have hB:B≤w.heap.size:=Nat.le_trans h.rb.1 (Nat.le_of_lt h.rlt)
 have hxr:x≠r:=by omega
 refine ⟨⟨⟨v',ov,hset, ?_, ?_,fun g e=>?_⟩,by simp [h.len],fun i hi=>?_, ?_,fun z hz=>?_,fun k hk4=>?_,h.rb.1,fun e=>?_⟩,hset⟩
 ·have e:(q.l ++ [y]).length=q.l.length+1:=by simp
  have e2:(qs ++ [x]).map ptrC=qs.map ptrC ++ [ptrC x]:=by simp
  rw [e,e2]
  exact own_kept ho hk3 fun g e e2=>by
   have h5:g=r:=e2
   subst h5
   rcases hob with h6 | h6
   ·exact (hb g (h6 ▸ e)).2.1 rfl
   ·have:=Option.some.inj (h6.symm.trans e);omega
 ·have h7:=(hop.kept hks hSK).mono (K':=fun k=>K k∨Kx k) fun _ e=>.inl e
  cases hqo:q.opn with
  | no=>rw [hqo] at h7;exact h7
  | shut=>rw [hqo] at h7;exact h7
  | at_ i=>
   rw [hqo] at h7
   obtain ⟨a1,g,c,a2,a3,a4,a5⟩:=h7
   refine ⟨by simp;omega,g,c,a2,a3,a4, ?_⟩
   rw [a5]
   simp [List.getD_eq_getElem?_getD,List.getElem?_append_left a1]
 ·have hgl:v'.ownBlock=some g→g < w.heap.size∧lv.ownBlock=some g∨g=w1.heap.size+1:=fun e=>by
   rcases hob with h6 | h6
   ·exact .inl ⟨hlv g (h6 ▸ e),h6 ▸ e⟩
   ·exact .inr (Option.some.inj (h6.symm.trans e)).symm
  rcases hgl e with ⟨h6,h7⟩ | h6
  ·refine ⟨fun e2=>?_,(hb g h7).2.1,fun e2=>?_⟩
   ·rcases e2 with e2 | e2
    ·exact (hb g h7).1 e2
    ·have:=(hK g e2).1;omega
   ·rcases List.mem_append.1 e2 with e2 | e2
    ·exact (hb g h7).2.2 e2
    ·have:g=x:=by simpa using e2
     omega
  ·have hw1:=hk.size
   refine ⟨fun e2=>?_,by omega,fun e2=>?_⟩
   ·rcases e2 with e2 | e2
    ·have:=(h.kb g e2).2;omega
    ·have:=(hK g e2).2.1;omega
   ·rcases List.mem_append.1 e2 with e2 | e2
    ·have:=h.qlt g e2;omega
    ·have:g=x:=by simpa using e2
     omega
 ·rcases Nat.lt_or_ge i qs.length with h5 | h5
  ·have e1:(qs ++ [x]).getD i 0=qs.getD i 0:=by simp [List.getD_eq_getElem?_getD,List.getElem?_append_left h5]
   have e2:(q.l ++ [y]).getD i default=q.l.getD i default:=by simp [List.getD_eq_getElem?_getD,List.getElem?_append_left (show i < q.l.length by rw [← h.len];exact h5)]
   rw [e1,e2]
   exact ((h.cm i h5).kept hks (fun e=>by
    rcases e with e | e
    ·exact (h.own _ (getD_mem h5)).2.1 e
    ·exact (hb _ e).2.2 (getD_mem h5)) hSK).mono fun _ e=>.inl e
  ·obtain rfl:i=qs.length:=by simp at hi;omega
   have e1:(qs ++ [x]).getD qs.length 0=x:=by simp [List.getD_eq_getElem?_getD]
   have e2:(q.l ++ [y]).getD qs.length default=y:=by rw [h.len];simp [List.getD_eq_getElem?_getD]
   rw [e1,e2]
   exact (hx.kept hkx (hSx x hxN) fun k hk4=>hSx k (hK k hk4).1).mono fun _ e=>.inr e
 ·rw [List.nodup_append]
  refine ⟨h.nd,by simp,fun a ha b hb2 e=>?_⟩
  have hbx:b=x:=by simpa using hb2
  have:=h.qlt a ha
  omega
 ·rcases List.mem_append.1 hz with hz | hz
  ·have:=h.qlt z hz
   refine ⟨fun e=>?_,(h.own z hz).2⟩
   rcases e with e | e
   ·exact (h.own z hz).1 e
   ·have:=(hK z e).1;omega
  ·obtain rfl:z=x:=by simpa using hz
   refine ⟨fun e=>?_,hxr,by omega⟩
   rcases e with e | e
   ·have:=(h.kb z e).2;omega
   ·exact (hK z e).2.2 rfl
 ·rcases hk4 with h5 | h5
  ·exact ⟨(h.kb k h5).1,Nat.lt_of_lt_of_le (h.kb k h5).2 hsz⟩
  ·exact ⟨by have:=(hK k h5).1;omega,Nat.lt_of_lt_of_le (hK k h5).2.1 hsz1⟩
 ·rcases e with e | e
  ·exact h.rb.2 e
  ·have:=(hK r e).1;omega
end Go.Proofs.YtefpcacnblaokaaGreatDoor

/-
  The walk of the script reader's command: a letter that stands alone. Conditions: the reader lies in memory; what the library's variables hold; what the spec tells.
-/
set_option maxRecDepth 100000
set_option maxHeartbeats 8000000
namespace Go.Proofs.YtefpcacnblaokaaGreatDoor
open Go.RowKit Go.Shelf Go.Maps Go.Sort
theorem cmd_new:Tryz.zeroCells88=cmCells 0 (.slice none 0 0) false 0 [] Sd.tab0 (.pointer none) (.slice none 0 0) false false:=by kernel_rfl
theorem info_pcm:(Tryz.prog.info? 82).map (fun i=>(i.zero,i.size,i.bytes))=some (some (.pointer none),1,8):=by kernel_rfl
def CmdDone (B r:Nat) (q':Sd.RS) (w:World) (e:Ending) (w':World):Prop:=(e=.returned (.tuple #[])∧∃ K' qs',RSt w' K' B r q' qs')∧Below B w w'
theorem RSt.base {W:World} {K:Nat→Prop} {B r:Nat} {q:Sd.RS} {qs:List Nat} (h:RSt W K B r q qs):B≤W.heap.size:=Nat.le_trans h.rb.1 (Nat.le_of_lt h.rlt)
theorem RSt.last {W:World} {K:Nat→Prop} {B r:Nat} {s:Bts} {l:List Sd.Cmd} {o:Sd.Opn} {qs:List Nat} {x:Nat} {y:Sd.Cmd} (h:RSt W K B r ⟨s,l ++ [y],o⟩ (qs ++ [x])):CmdAt W K x y:=by
 have h1:=h.len
 have hl:qs.length=l.length:=by simpa using h1
 have:=h.cm qs.length (by simp)
 have e1:(qs ++ [x]).getD qs.length 0=x:=by simp [List.getD_eq_getElem?_getD]
 have e2:(l ++ [y]).getD qs.length default=y:=by rw [hl];simp [List.getD_eq_getElem?_getD]
 rw [e1] at this
 rw [show (⟨s,l ++ [y],o⟩:Sd.RS).l=l ++ [y] from rfl,e2] at this
 exact this
theorem Kept.lower {S:Nat→Prop} {W W':World} {B:Nat} (h:Kept S W W') (hS:∀ k,S k→B≤k) (hB:B≤W.heap.size):Below B W W':=
 ⟨h.os,h.tape,h.output,h.size,fun k hk=>h.block k (by omega) (fun e=>by have:=hS k e;omega)⟩
theorem below_grown_at {W W1 W2:World} {B:Nat} {v:Value} (h:Below B W W1) (hg:W1.grownBy W2 v.ownBlock) (hv:∀ k,v.ownBlock=some k→B≤k) (hB:B≤W1.heap.size):Below B W W2:=
 ⟨hg.os.trans h.os,hg.tape.trans h.tape,hg.output.trans h.output,Nat.le_trans h.size hg.size,fun k hk=>(hg.block k (by omega) (fun e=>by have:=hv k e.symm;omega)).trans (h.block k hk)⟩
def isNot (c:UInt8) (l:List Int):Prop:=∀ k ∈ l,((c.toNat:Int) == k)=false∧((c.toNat:Int) != k)=true
theorem isNot_of (c:UInt8) (l:List Int) (h:(l.all fun k=>(c.toNat:Int) != k)=true):isNot c l:=fun k hk=>by
 have:=List.all_eq_true.1 h k hk
 exact ⟨by simpa using this,this⟩
theorem lone_not {c:UInt8} (h:Sd.lone c=true):isNot c [123,125,35,97,105,99,98,116,58,121,115]:=by
 apply isNot_of
 have:∀ n:Fin 256,Sd.lone (UInt8.ofNat n.val)=true→(([123,125,35,97,105,99,98,116,58,121,115]:List Int).all fun k=>((UInt8.ofNat n.val).toNat:Int) != k)=true:=by decide +kernel
 have h2:=this ⟨c.toNat,c.toNat_lt⟩
 rw [show UInt8.ofNat c.toNat=c by simp] at h2
 exact h2 h
structure CmIn (w w1:World) (r:Nat) (x:Sd.Cmd) (s:Bts) (lv ov:Value):Prop where
 rd:RdB w1 r s lv ov
 cm:CmdAt w1 (fun k=>w.heap.size+1≤k∧k < w1.heap.size) w.heap.size x
 kept:Kept (fun k=>k=r) w w1
 lt:w.heap.size < w1.heap.size
theorem cmd_where (B r:Nat) (hB8:8≤B) (K:Nat→Prop) (q:Sd.RS) (qs:List Nat) (x:Sd.Cmd) (s:Bts) (hwh:Sd.whereF q.s=some (x,s)) (w:World) (hg:Glo w) (h:RSt w K B r q qs) (lv ov:Value) (h0:RdB w r q.s lv ov) :
  Calls Tryz.prog 57 #[.pointer (some ⟨r,0,none⟩),.pointer (some ⟨w.heap.size,0,none⟩)] (w.alloc (.cells Tryz.zeroCells88 88)) fun e w1=>e=.returned (.tuple #[])∧CmIn w w1 r x s lv ov:=by
 have hr8:8≤r:=Nat.le_trans hB8 h.rb.1
 have hrl:=h.rlt
 rw [cmd_new]
 obtain ⟨w0,hw0⟩:∃ w0,w.alloc (.cells (cmCells 0 (.slice none 0 0) false 0 [] Sd.tab0 (.pointer none) (.slice none 0 0) false false) 88)=w0:=⟨_,rfl⟩
 have hb0:Below w.heap.size w w0:=by rw [← hw0];exact (Below.refl _ _).alloc (Nat.le_refl _) _
 have hs0:w0.heap.size=w.heap.size+1:=by rw [← hw0];simp
 have kq:CmBlk w0 w.heap.size (begC []) (.slice none 0 0) (.pointer none) (.slice none 0 0):=by rw [← hw0];exact Blk.new _ _ _
 rw [hw0]
 refine (swhere_any r w.heap.size (by omega) q.s x s hwh lv ov w0 (hg.below hb0) (h0.below hb0) kq hr8 (by have:=h.base;omega)).mono ?_
 rintro e w1 ⟨⟨rfl,hr1,hc1⟩,hk1⟩
 refine ⟨rfl,hr1,hc1.mono fun k hk=>⟨by rw [← hs0];exact hk.1,hk.2⟩, ?_,by have:=hk1.size;omega⟩
 exact (Kept.of_below hb0).trans' hk1 fun k hk e=>by
  rcases e with e | e
  ·exact e
  ·omega
theorem scmd_lone (B r:Nat) (hB8:8≤B) (K:Nat→Prop) (q:Sd.RS) (qs:List Nat) (x:Sd.Cmd) (s s1:Bts) (hwh:Sd.whereF q.s=some (x,s)) (hlo:Sd.lone x.c=true) (haf:Sd.after s=some s1) (hlen:q.l.length≤1000000) (w:World) (hg:Glo w) (h:RSt w K B r q qs) :
  Calls Tryz.prog 31 #[.pointer (some ⟨r,0,none⟩)] w fun e w'=>CmdDone B r ⟨s1,q.l ++ [x],q.opn⟩ w e w':=by
 have hr8:8≤r:=Nat.le_trans hB8 h.rb.1
 obtain ⟨lv,ov,h0,-⟩:=h.rd
 have hrl:=h.rlt
 obtain ⟨i0,hi0,hz0,hz1,hz2⟩:=info_parts info_pcm
 have hn:=lone_not hlo
 have hwc:=cmd_where B r hB8 K q qs x s hwh w hg h lv ov h0
 have HN:=Lib.hid hn
 have H:=Lib.hid h
 have H0:=Lib.hid h0
 clear h h0 hn hwh hlo
 go_enter Tryz.func31,Tryz.ntmps31
 go_wp2_with fail
 refine hwc.mono ?_
 rintro e w1 ⟨rfl,hin⟩
 obtain ⟨hl,-,hb⟩:=H.out.same H0.out
 have hl1:w1.ownsRow B 82 1 lv q.l.length (qs.map ptrC):=own_kept hl hin.kept fun k e e2=>(hb k e).2.1 e2
 obtain ⟨pl,cl,hlv⟩:=row_shape hl1
 subst hlv
 have HL1:=Lib.hid hl1
 obtain ⟨av,re,rv,hcb,-⟩:=hin.cm
 have HIN:=Lib.hid hin
 have c0:=Blk.cell hcb 0 cm_c
 have d1:=Blk.cell hin.rd 1 (v:=.slice pl q.l.length cl) rfl
 have f1:=Blk.free hin.rd 1
 have hsz1:B≤w1.heap.size:=Nat.le_trans H.out.base hin.kept.size
 have HSZ1:=Lib.hid hsz1
 obtain ⟨e1,e1'⟩:=HN.out 123 (by decide)
 obtain ⟨e2,e2'⟩:=HN.out 125 (by decide)
 obtain ⟨e3,e3'⟩:=HN.out 35 (by decide)
 obtain ⟨e4,e4'⟩:=HN.out 97 (by decide)
 obtain ⟨e5,e5'⟩:=HN.out 105 (by decide)
 obtain ⟨e6,e6'⟩:=HN.out 99 (by decide)
 obtain ⟨e7,e7'⟩:=HN.out 98 (by decide)
 obtain ⟨e8,e8'⟩:=HN.out 116 (by decide)
 obtain ⟨e9,e9'⟩:=HN.out 58 (by decide)
 obtain ⟨e10,e10'⟩:=HN.out 121 (by decide)
 obtain ⟨e11,e11'⟩:=HN.out 115 (by decide)
 have hbw1:Below B w w1:=hin.kept.lower (fun k e=>by have h5:k=r:=e;have:=H.out.rb.1;omega) H.out.base
 have HBW1:=Lib.hid hbw1
 have hnb:(Value.slice pl q.l.length cl).ownBlock≠some r:=fun e=>(hb r e).2.1 rfl
 have HNB:=Lib.hid hnb
 clear hwc hin hl hb hl1 hcb hbw1 hnb
 go_upto_region 3 with fail
 go_cut [] (fun wx=>∃ v,Hid (RSt wx (fun k=>K k∨w.heap.size+1≤k∧k < w1.heap.size) B r ⟨s,q.l ++ [x],q.opn⟩ (qs ++ [w.heap.size]))∧Hid (RdB wx r s v ov)∧Hid (Below B w wx))
 case first=>
  obtain ⟨O,hO⟩:∃ O:Obj,O=.cells #[.pointer (some ⟨w.heap.size,0,none⟩)] 82:=⟨_,rfl⟩
  have f1a:(w1.alloc O).frozen? ⟨r,1,none⟩=false:=(Blk.alloc HIN.out.rd O).free 1
  have c1a:(w1.alloc O).cell? ⟨r,1,none⟩=some (.slice pl q.l.length cl):=(Blk.alloc HIN.out.rd O).cell 1 rfl
  have hnb:=HNB.out
  have hrw1:r < (w1.alloc O).heap.size:=Nat.lt_of_lt_of_le (Blk.lt HIN.out.rd) (by simp)
  subst hO
  go_wp2_with (at_builtin;refine wpList_append_own_at _ (by rfl) _ _ _ (by rfl) B 82 i0 (.pointer none) 1 8 Tryz.underlying57 hi0 hz0 hz1 hz2 rfl (by decide) _ _ _ (by rfl) (HL1.out.alloc _) ⟨w1.heap.size,0,none⟩ 1 1 [.pointer (some ⟨w.heap.size,0,none⟩)] (by rfl) (by rfl) (cells_new _ #[_] _) (by simp [Value.oneCell']) (by unfold maxLen;omega) (by omega) (by simp;omega) ?_;intro v' w2 ho2 hg2 hiff hob2;obtain ⟨pv,cv,rfl⟩:=row_shape ho2;have fq:=hg2.frozen_far (a:=⟨r,1,none⟩) hrw1 (Ne.symm hnb);rw [f1a] at fq;have cq:=hg2.cell_far ⟨r,1,none⟩ hrw1 (Ne.symm hnb);rw [c1a] at cq)
  obtain ⟨hp3,hrd3⟩:=H.out.push H0.out HIN.out.rd HIN.out.kept HIN.out.cm (Nat.le_refl _) (fun k hk=>⟨by omega,hk.2,by omega⟩) hg2 (by simpa using hob2) ho2
  have hbw3:Below B w (w2.setCell ⟨r,1,none⟩ (.slice pv (q.l.length+1) cv)):=(below_grown_at (HBW1.out.alloc HSZ1.out _) hg2 (fun k e=>(HL1.out.lt k e).1) (by have:=HSZ1.out;simp;omega)).setCell H.out.rb.1 _
  have HP3:=Lib.hid hp3
  have HR3:=Lib.hid hrd3
  have HB3:=Lib.hid hbw3
  clear hp3 hrd3 hbw3 ho2 hg2 hiff hob2 fq cq
  go_meet
  exact ⟨_,HP3,HR3,HB3⟩
 case rest=>
 obtain ⟨v3,HP3,HR3,HB3⟩:=hcut
 obtain ⟨w3,hw3⟩:∃ w3,w3=wc:=⟨_,rfl⟩
 subst hw3
 obtain ⟨av3,re3,rv3,hcb3,-⟩:=HP3.out.last
 have c0:=Blk.cell hcb3 0 cm_c
 have haf3:=safter_any r s s1 haf v3 ov w3 HR3.out
 clear hcb3 f1 d1
 go_wp2_with fail
 refine haf3.mono ?_
 rintro e w4 ⟨⟨rfl,hr4⟩,hk4⟩
 have hfin:=HP3.out.step HR3.out s1 hr4 hk4 (fun _ e=>e)
 have hbw4:=HB3.out.trans (hk4.lower (fun k e=>by have h5:k=r:=e;have:=H.out.rb.1;omega) (Nat.le_trans H.out.base HB3.out.size))
 have HFIN:=Lib.hid hfin
 have HB4:=Lib.hid hbw4
 clear haf3 hr4 hk4 hfin hbw4
 go_wp2_with fail
 go_end0
 exact ⟨⟨rfl,_,_,HFIN.out⟩,HB4.out⟩
end Go.Proofs.YtefpcacnblaokaaGreatDoor

/-
  The walk of the script reader's command: letters with a label. Conditions: the reader lies in memory; what the library's variables hold; what the spec tells.
-/
set_option maxRecDepth 100000
set_option maxHeartbeats 8000000
namespace Go.Proofs.YtefpcacnblaokaaGreatDoor
open Go.RowKit Go.Shelf Go.Maps Go.Sort
def labOf (x:Sd.Cmd) (n:Bts):Sd.Cmd:=⟨x.c,x.ads,x.neg,x.dest,n,x.tab,x.rx,x.rep,x.all,x.prt⟩
theorem RSt.turned {W W':World} {K K':Nat→Prop} {B r:Nat} {s s':Bts} {l:List Sd.Cmd} {o:Sd.Opn} {qs:List Nat} {N:Nat} {x y:Sd.Cmd} {lv ov:Value} (h:RSt W K B r ⟨s,l ++ [x],o⟩ (qs ++ [N])) (h0:RdB W r s lv ov) (h1:RdB W' r s' lv ov) (hk:Kept (fun k=>k=r∨k=N) W W') (hy:CmdAt W' K' N y) (hKK:∀ k,K k→K' k) (hK':∀ k,K' k→K k∨W.heap.size≤k∧k < W'.heap.size):RSt W' K' B r ⟨s',l ++ [y],o⟩ (qs ++ [N]):=by
 have hl:qs.length=l.length:=by simpa using h.len
 have e1:(qs ++ [N]).getD qs.length 0=N:=by simp [List.getD_eq_getElem?_getD]
 have h3:=h.upd h0 h1 (i:=qs.length) (by simp) (hk.mono fun k _ e=>by rw [e1];exact e) (K':=K') (y:=y) (by rw [e1];exact hy) hKK hK'
 have e2:(l ++ [x]).set qs.length y=l ++ [y]:=by rw [hl];simp
 rw [show (Sd.RS.mk s (l ++ [x]) o).l=l ++ [x] from rfl,e2] at h3
 exact h3
theorem RSt.notR {W:World} {K:Nat→Prop} {B r:Nat} {q:Sd.RS} {qs:List Nat} (h:RSt W K B r q qs) {x:Nat} (hx:x ∈ qs):x≠r:=(h.own x hx).2.1
theorem CmdAt.cells {W:World} {K:Nat→Prop} {q:Nat} {x:Sd.Cmd} (h:CmdAt W K q x):W.cell? ⟨q,0,none⟩=some (.int .u8 x.c.toNat)∧W.cell? ⟨q,4,none⟩=some (.string ⟨x.lab.toArray⟩)∧W.cell? ⟨q,3,none⟩=some (.int .i64 x.dest):=by
 obtain ⟨av,re,rv,hb,-⟩:=h
 exact ⟨Blk.cell hb 0 cm_c,Blk.cell hb 4 cm_lab,Blk.cell hb 3 cm_dest⟩
theorem RSt.labs {W:World} {K:Nat→Prop} {B r:Nat} {q:Sd.RS} {qs:List Nat} {p:Option Addr} {n c:Nat} {ov:Value} (h:RSt W K B r q qs) (h0:RdB W r q.s (.slice p n c) ov):n=q.l.length∧LabsAt W p q.l:=by
 obtain ⟨hl,-,-⟩:=h.same h0
 have hn:n=q.l.length:=by
  obtain ⟨p2,c2,e⟩:=row_shape hl
  injection e
 subst hn
 refine ⟨rfl,fun hpos=>?_⟩
 rcases hl.2 with ⟨h1,h2⟩ | ⟨g,cap,cur,e,h2,-⟩
 ·omega
 ·injection e with e1 e2 e3
  subst e1
  have hlt:=(hl.lt g rfl).2
  refine ⟨g,0,rfl,hlt,fun i hi=>?_⟩
  have hi2:i < qs.length:=by rw [h.len];exact hi
  obtain ⟨c0,c4,-⟩:=(h.cm i hi2).cells
  refine ⟨qs.getD i 0, ?_,c0,c4⟩
  have:=hl.cellAt i (by omega)
  rw [show (0+i)=i by omega,this,List.getElem?_map,List.getElem?_eq_getElem hi2,List.getD_eq_getElem?_getD,List.getElem?_eq_getElem hi2]
  rfl
theorem scmd_b (B r:Nat) (hB8:8≤B) (K:Nat→Prop) (q:Sd.RS) (qs:List Nat) (x:Sd.Cmd) (s:Bts) (hwh:Sd.whereF q.s=some (x,s)) (hc:x.c=98) (hs:s.length≤1000000) (hasc:s.all (fun b=>decide (b.toNat < 128))=true) (hlen:q.l.length≤1000000) (w:World) (hg:Glo w) (h:RSt w K B r q qs) :
  Calls Tryz.prog 31 #[.pointer (some ⟨r,0,none⟩)] w fun e w'=>CmdDone B r ⟨(Sd.name s).2,q.l ++ [labOf x (Sd.name s).1],q.opn⟩ w e w':=by
 have HNM:=Lib.hid hs
 have HASC:=Lib.hid hasc
 clear hs hasc
 have hr8:8≤r:=Nat.le_trans hB8 h.rb.1
 obtain ⟨lv,ov,h0,-⟩:=h.rd
 have hrl:=h.rlt
 obtain ⟨i0,hi0,hz0,hz1,hz2⟩:=info_parts info_pcm
 have hwc:=cmd_where B r hB8 K q qs x s hwh w hg h lv ov h0
 have H:=Lib.hid h
 have H0:=Lib.hid h0
 clear h h0 hwh
 go_enter Tryz.func31,Tryz.ntmps31
 go_wp2_with fail
 refine hwc.mono ?_
 rintro e w1 ⟨rfl,hin⟩
 obtain ⟨hl,-,hb⟩:=H.out.same H0.out
 have hl1:w1.ownsRow B 82 1 lv q.l.length (qs.map ptrC):=own_kept hl hin.kept fun k e e2=>(hb k e).2.1 e2
 obtain ⟨pl,cl,hlv⟩:=row_shape hl1
 subst hlv
 have HL1:=Lib.hid hl1
 obtain ⟨av,re,rv,hcb,-⟩:=hin.cm
 have HIN:=Lib.hid hin
 have c0:=Blk.cell hcb 0 cm_c
 have d1:=Blk.cell hin.rd 1 (v:=.slice pl q.l.length cl) rfl
 have f1:=Blk.free hin.rd 1
 have hsz1:B≤w1.heap.size:=Nat.le_trans H.out.base hin.kept.size
 have HSZ1:=Lib.hid hsz1
 have e1:((x.c.toNat:Int) == 123)=false:=by rw [hc];rfl
 have e2:((x.c.toNat:Int) == 125)=false:=by rw [hc];rfl
 have e2':((x.c.toNat:Int) != 125)=true:=by rw [hc];rfl
 have e3:((x.c.toNat:Int) == 35)=false:=by rw [hc];rfl
 have e3':((x.c.toNat:Int) != 35)=true:=by rw [hc];rfl
 have e4:((x.c.toNat:Int) == 97)=false:=by rw [hc];rfl
 have e5:((x.c.toNat:Int) == 105)=false:=by rw [hc];rfl
 have e6:((x.c.toNat:Int) == 99)=false:=by rw [hc];rfl
 have e7:((x.c.toNat:Int) == 98)=true:=by rw [hc];rfl
 have e8:((x.c.toNat:Int) == 116)=false:=by rw [hc];rfl
 have e9:((x.c.toNat:Int) == 58)=false:=by rw [hc];rfl
 have e10:((x.c.toNat:Int) == 121)=false:=by rw [hc];rfl
 have e11:((x.c.toNat:Int) == 115)=false:=by rw [hc];rfl
 have hbw1:Below B w w1:=hin.kept.lower (fun k e=>by have h5:k=r:=e;have:=H.out.rb.1;omega) H.out.base
 have HBW1:=Lib.hid hbw1
 have hnb:(Value.slice pl q.l.length cl).ownBlock≠some r:=fun e=>(hb r e).2.1 rfl
 have HNB:=Lib.hid hnb
 have HC:=Lib.hid hc
 clear hc
 clear hwc hin hl hb hl1 hcb hbw1 hnb
 go_upto_region 3 with fail
 go_cut [] (fun wx=>∃ v,Hid (RSt wx (fun k=>K k∨w.heap.size+1≤k∧k < w1.heap.size) B r ⟨s,q.l ++ [x],q.opn⟩ (qs ++ [w.heap.size]))∧Hid (RdB wx r s v ov)∧Hid (Below B w wx))
 case first=>
  obtain ⟨O,hO⟩:∃ O:Obj,O=.cells #[.pointer (some ⟨w.heap.size,0,none⟩)] 82:=⟨_,rfl⟩
  have f1a:(w1.alloc O).frozen? ⟨r,1,none⟩=false:=(Blk.alloc HIN.out.rd O).free 1
  have c1a:(w1.alloc O).cell? ⟨r,1,none⟩=some (.slice pl q.l.length cl):=(Blk.alloc HIN.out.rd O).cell 1 rfl
  have hnb:=HNB.out
  have hrw1:r < (w1.alloc O).heap.size:=Nat.lt_of_lt_of_le (Blk.lt HIN.out.rd) (by simp)
  subst hO
  go_wp2_with (at_builtin;refine wpList_append_own_at _ (by rfl) _ _ _ (by rfl) B 82 i0 (.pointer none) 1 8 Tryz.underlying57 hi0 hz0 hz1 hz2 rfl (by decide) _ _ _ (by rfl) (HL1.out.alloc _) ⟨w1.heap.size,0,none⟩ 1 1 [.pointer (some ⟨w.heap.size,0,none⟩)] (by rfl) (by rfl) (cells_new _ #[_] _) (by simp [Value.oneCell']) (by unfold maxLen;omega) (by omega) (by simp;omega) ?_;intro v' w2 ho2 hg2 hiff hob2;obtain ⟨pv,cv,rfl⟩:=row_shape ho2;have fq:=hg2.frozen_far (a:=⟨r,1,none⟩) hrw1 (Ne.symm hnb);rw [f1a] at fq;have cq:=hg2.cell_far ⟨r,1,none⟩ hrw1 (Ne.symm hnb);rw [c1a] at cq)
  obtain ⟨hp3,hrd3⟩:=H.out.push H0.out HIN.out.rd HIN.out.kept HIN.out.cm (Nat.le_refl _) (fun k hk=>⟨by omega,hk.2,by omega⟩) hg2 (by simpa using hob2) ho2
  have hbw3:Below B w (w2.setCell ⟨r,1,none⟩ (.slice pv (q.l.length+1) cv)):=(below_grown_at (HBW1.out.alloc HSZ1.out _) hg2 (fun k e=>(HL1.out.lt k e).1) (by have:=HSZ1.out;simp;omega)).setCell H.out.rb.1 _
  have HP3:=Lib.hid hp3
  have HR3:=Lib.hid hrd3
  have HB3:=Lib.hid hbw3
  clear hp3 hrd3 hbw3 ho2 hg2 hiff hob2 fq cq
  go_meet
  exact ⟨_,HP3,HR3,HB3⟩
 case rest=>
 obtain ⟨v3,HP3,HR3,HB3⟩:=hcut
 obtain ⟨w3,hw3⟩:∃ w3,w3=wc:=⟨_,rfl⟩
 subst hw3
 obtain ⟨av3,re3,rv3,hcb3,had3⟩:=HP3.out.last
 have c0:=Blk.cell hcb3 0 cm_c
 have hnm:=sname_any r s HNM.out HASC.out v3 ov w3 HR3.out
 have HCB3:=Lib.hid hcb3
 have HAD3:=Lib.hid had3
 clear hcb3 had3 f1 d1
 go_wp2_with fail
 refine hnm.mono ?_
 rintro e w4 ⟨⟨rfl,hr4⟩,hk4⟩
 have hnr:w.heap.size≠r:=HP3.out.notR (by simp)
 have hcb4:CmBlk w4 w.heap.size x av3 re3 rv3:=Blk.kept HCB3.out hk4 hnr
 obtain ⟨w5,hw5⟩:∃ w5,w4.setCell ⟨w.heap.size,4,none⟩ (.string ⟨(Sd.name s).1.toArray⟩)=w5:=⟨_,rfl⟩
 have hcb5:CmBlk w5 w.heap.size (labOf x (Sd.name s).1) av3 re3 rv3:=by
  rw [← hw5]
  have:=Blk.set hcb4 4 (.string ⟨(Sd.name s).1.toArray⟩)
  rw [cm_set_lab] at this
  exact this
 have hr5:RdB w5 r (Sd.name s).2 v3 ov:=by rw [← hw5];exact Blk.setOther hr4 (a:=⟨w.heap.size,4,none⟩) (Ne.symm hnr) _
 have hk5:Kept (fun k=>k=r∨k=w.heap.size) w3 w5:=by rw [← hw5];exact (hk4.mono fun _ _ e=>.inl e).setCell (.inl (.inr rfl)) 4 _
 have hcm5:CmdAt w5 (fun k=>K k∨w.heap.size+1≤k∧k < w1.heap.size) w.heap.size (labOf x (Sd.name s).1):=by
  obtain ⟨a1,a2,a3,a4⟩:=HAD3.out
  have hS:∀ k,(K k∨w.heap.size+1≤k∧k < w1.heap.size)→¬ (k=r∨k=w.heap.size):=fun k hk e=>by
   rcases e with e | e
   ·exact HP3.out.rb.2 (e ▸ hk)
   ·exact (HP3.out.own w.heap.size (by simp)).1 (e ▸ hk)
  exact ⟨av3,re3,rv3,hcb5,a1.kept hk5 hS,a2.kept hk5 hS,a3.kept hk5 hS,a4⟩
 have hp5:RSt w5 (fun k=>K k∨w.heap.size+1≤k∧k < w1.heap.size) B r ⟨(Sd.name s).2,q.l ++ [labOf x (Sd.name s).1],q.opn⟩ (qs ++ [w.heap.size]):=HP3.out.turned HR3.out hr5 hk5 hcm5 (fun _ e=>e) (fun k e=>.inl e)
 have hbw5:Below B w w5:=HB3.out.trans (hk5.lower (fun k e=>by
  rcases e with e | e
  ·have:=H.out.rb.1;omega
  ·have:=H.out.base;omega) (Nat.le_trans H.out.base HB3.out.size))
 have c4:=Blk.cell hcb4 4 cm_lab
 have f4:=Blk.free hcb4 4
 have HP5:=Lib.hid hp5
 have HR5:=Lib.hid hr5
 have HB5:=Lib.hid hbw5
 have HCB5:=Lib.hid hcb5
 have HW5:=Lib.hid hw5
 clear hnm hr4 hk4 hcb4 hcb5 hr5 hk5 hcm5 hp5 hbw5 hw5 c0
 go_upto_region 26 with fail
 rw [HW5.out]
 have c0:=Blk.cell HCB5.out 0 cm_c
 have c5:=Blk.cell HCB5.out 4 cm_lab
 clear c4 f4
 have e9b:((labOf x (Sd.name s).1).c.toNat:Int)=(x.c.toNat:Int):=rfl
 rw [e9b] at c0
 go_quiet (fail)
 go_wp2_with fail
 refine bodyPost_ret (results_none rfl _ _ _) rfl ?_
 have hq:Below w5.heap.size w5 (w5.drewN nq):=⟨rfl,rfl,rfl,Nat.le_refl _,fun _ _=>rfl⟩
 exact ⟨⟨rfl,_,_,HP5.out.step HR5.out _ (HR5.out.below hq) (Kept.of_below (S:=(·=r)) hq) (fun _ e=>e)⟩,HB5.out.trans (hq.mono HP5.out.base)⟩
end Go.Proofs.YtefpcacnblaokaaGreatDoor
