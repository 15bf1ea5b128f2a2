/-
  Texts of this seat put together: Sd9, Sd10, Sd8.
-/
import Derived.Test.YtefpcacnblaokaaGreatDoorQ21
import Derived.Deep.QuietTactic
import Derived.Deep.RegionLaw
import Derived.Deep.AppendLies

/-
  The walk of the script reader's place: where a label stands. Conditions: the reader and its commands lie in memory.
-/
set_option maxRecDepth 100000
set_option maxHeartbeats 4000000
namespace Go.Proofs.YtefpcacnblaokaaGreatDoor
open Go.RowKit Go.Shelf Go.Maps Go.Sort
def LabsAt (w:World) (p:Option Addr) (l:List Sd.Cmd):Prop:=0 < l.length→∃ b o,p=some ⟨b,o,none⟩∧b < w.heap.size∧∀ i,i < l.length→∃ q,w.cell? ⟨b,o+i,none⟩=some (ptrC q)∧w.cell? ⟨q,0,none⟩=some (.int .u8 (l.getD i default).c.toNat)∧w.cell? ⟨q,4,none⟩=some (.string ⟨(l.getD i default).lab.toArray⟩)
def placeVal (n:Bts) (l:List Sd.Cmd):Int:=match Sd.place n l with
 | none=>-1
 | some i=>i
def isLab (n:Bts) (x:Sd.Cmd):Bool:=decide (x.c=58∧x.lab=n)
theorem place_take {n:Bts} {l:List Sd.Cmd} {k:Nat} (hk:k < l.length) (h:∀ i,i < k→isLab n (l.getD i default)=false) (hx:isLab n (l.getD k default)=true):placeVal n l=k:=by
 have:∀ (l:List Sd.Cmd) (k:Nat),k < l.length→(∀ i,i < k→isLab n (l.getD i default)=false)→isLab n (l.getD k default)=true→Sd.place n l=some k:=by
  intro l
  induction l with
  | nil=>intro k hk;simp at hk
  | cons x r ih=>
   intro k hk h hx
   unfold Sd.place
   cases k with
   | zero=>
    have h1:isLab n x=true:=hx
    unfold isLab at h1
    rw [if_pos (by simpa using h1)]
   | succ k=>
    have h1:isLab n x=false:=h 0 (by omega)
    unfold isLab at h1
    rw [if_neg (by simpa using h1),ih k (by simp at hk;omega) (fun i hi=>h (i+1) (by omega)) hx]
    rfl
 unfold placeVal
 rw [this l k hk h hx]
theorem place_none {n:Bts} {l:List Sd.Cmd} (h:∀ i,i < l.length→isLab n (l.getD i default)=false):placeVal n l=-1:=by
 have:Sd.place n l=none:=by
  induction l with
  | nil=>rfl
  | cons x r ih=>
   unfold Sd.place
   have h1:isLab n x=false:=h 0 (by simp)
   unfold isLab at h1
   rw [if_neg (by simpa using h1),ih fun i hi=>h (i+1) (by simp;omega)]
   rfl
 unfold placeVal
 rw [this]
theorem place1_any (q bx:Nat) (c:UInt8) (lab n:Bts) (w:World) (h0:w.cell? ⟨q,0,none⟩=some (.int .u8 c.toNat)) (h4:w.cell? ⟨q,4,none⟩=some (.string ⟨lab.toArray⟩)) (hb:w.cell? ⟨bx,0,none⟩=some (.string ⟨n.toArray⟩)) :
  Calls Tryz.prog 68 #[.pointer (some ⟨q,0,none⟩),.pointer (some ⟨bx,0,none⟩)] w fun e w'=>e=.returned (.bool (decide (c=58∧lab=n)))∧Below w.heap.size w w':=by
 by_cases hc:c=58
 ·subst hc
  by_cases hl:lab=n
  ·subst hl
   go_enter Tryz.func68,Tryz.ntmps68
   go_wp2_with fail
   go_quiet (fail)
   go_wp2_with fail
   go_ret
   exact ⟨ret_bool (by simp),⟨rfl,rfl,rfl,Nat.le_refl _,fun _ _=>rfl⟩⟩
  ·have e1:=str_ne hl
   have HL:=Lib.hid hl
   clear hl
   go_enter Tryz.func68,Tryz.ntmps68
   go_wp2_with fail
   go_quiet (fail)
   go_wp2_with fail
   go_ret
   exact ⟨ret_bool (by simp [HL.out]),⟨rfl,rfl,rfl,Nat.le_refl _,fun _ _=>rfl⟩⟩
 ·have e1:((c.toNat:Int) == 58)=false:=by
   have:=hc
   rw [u8_eq] at this
   simpa using this
  have HC:=Lib.hid hc
  clear hc
  go_enter Tryz.func68,Tryz.ntmps68
  go_wp2_with fail
  go_quiet (fail)
  go_wp2_with fail
  go_ret
  exact ⟨ret_bool (by simp [HC.out]),⟨rfl,rfl,rfl,Nat.le_refl _,fun _ _=>rfl⟩⟩
theorem idxLab_any (l:List Sd.Cmd) (n:Bts) (p:Option Addr) (cap:Nat) (hN:l.length≤1000000) (bx:Nat) (w:World) (h:LabsAt w p l) (hb:w.cell? ⟨bx,0,none⟩=some (.string ⟨n.toArray⟩)) :
  Calls Tryz.prog 67 #[.slice p l.length cap,.func (.func 68) #[] #[.pointer (some ⟨bx,0,none⟩)]] w fun e w'=>e=.returned (.int .i64 (placeVal n l))∧Below w.heap.size w w':=by
 have HH:=Lib.hid h
 have HB:=Lib.hid hb
 clear h hb
 go_enter Tryz.func67,Tryz.ntmps67
 go_wp2_with fail
 go_loopw [5,8] (fun _x5 i wr=>∃ k:Nat,k≤l.length∧i=.int .i64 k∧Hid (∀ i,i < k→isLab n (l.getD i default)=false)∧Hid (Below w.heap.size w wr)) (fun _ i _=>l.length - (intOf i).toNat)
 case atStart=>exact ⟨0,Nat.zero_le _,rfl,Lib.hid (fun i hi=>absurd hi (Nat.not_lt_zero _)),Lib.hid (Below.refl _ _)⟩
 case round=>
  obtain ⟨k,hk,rfl,hf,hb⟩:=hrel
  by_cases hlt:k < l.length
  ·obtain ⟨b,o,rfl,hblt,hc⟩:=HH.out (by omega)
   obtain ⟨q,c1,c2,c3⟩:=hc k hlt
   have d1:=(hb.out.cell (p:=⟨b,o+k,none⟩) hblt).trans c1
   have d2:=(hb.out.cell (p:=⟨q,0,none⟩) (World.block_lt_of_cell? _ _ c2)).trans c2
   have d3:=(hb.out.cell (p:=⟨q,4,none⟩) (World.block_lt_of_cell? _ _ c3)).trans c3
   have d4:=(hb.out.cell (p:=⟨bx,0,none⟩) (World.block_lt_of_cell? _ _ HB.out)).trans HB.out
   have h1:=place1_any q bx _ _ n wr d2 d3 d4
   obtain ⟨v,hv⟩:∃ v,decide ((l.getD k default).c=58∧(l.getD k default).lab=n)=v:=⟨_,rfl⟩
   rw [hv] at h1
   have HV:Hid (isLab n (l.getD k default)=v):=Lib.hid hv
   clear c1 c2 c3 hc d2 d3 d4 hv
   unfold ptrC at d1
   go_wp2_with fail
   refine h1.mono ?_
   rintro e w2 ⟨rfl,hb2⟩
   have HB2:=Lib.hid (hb.out.trans (hb2.mono hb.out.size))
   clear hb2 h1
   cases v with
   | true=>
    have HA:Hid (placeVal n l=k):=Lib.hid (place_take hlt hf.out HV.out)
    go_wp2_with fail
    go_ret
    exact ⟨by rw [HA.out];rfl,HB2.out⟩
   | false=>
    have HA:Hid (∀ i,i < k+1→isLab n (l.getD i default)=false):=Lib.hid fun i hi=>by
     rcases Nat.lt_or_ge i k with h | h
     ·exact hf.out i h
     ·obtain rfl:i=k:=by omega
      exact HV.out
    go_wp2_with fail
    go_roundw
    case rel=>exact ⟨k+1,by omega,by go_num,HA,HB2⟩
    case measure=>simp [intOf];omega
  ·obtain rfl:k=l.length:=by omega
   have HA:Hid (placeVal n l=-1):=Lib.hid (place_none hf.out)
   go_wp2_with fail
   go_ret
   exact ⟨by rw [HA.out];rfl,hb.out⟩
theorem splace_any (r:Nat) (l:List Sd.Cmd) (n s:Bts) (p:Option Addr) (cap:Nat) (ov:Value) (hN:l.length≤1000000) (w:World) (h:RdB w r s (.slice p l.length cap) ov) (hl:LabsAt w p l) :
  Calls Tryz.prog 33 #[.pointer (some ⟨r,0,none⟩),.string ⟨n.toArray⟩] w fun e w'=>e=.returned (.int .i64 (placeVal n l))∧Below w.heap.size w w':=by
 have hmf:∀ (fn:Fn) (first cap:Array Value) (w:World),(Instr.makeFunc fn first cap).run Tryz.prog w=.ok (.func fn first cap) w:=fun _ _ _ _=>rfl
 obtain ⟨w0,hw0⟩:∃ w0,w.alloc (.cells #[.string ⟨n.toArray⟩] 9)=w0:=⟨_,rfl⟩
 have hb0:Below w.heap.size w w0:=by rw [← hw0];exact (Below.refl _ _).alloc (Nat.le_refl _) _
 have hx:w0.cell? ⟨w.heap.size,0,none⟩=some (.string ⟨n.toArray⟩):=by rw [← hw0];exact (Blk.new w _ _).cell 0 rfl
 have hl0:LabsAt w0 p l:=fun h0=>by
  obtain ⟨b,o,e,hlt,hc⟩:=hl h0
  refine ⟨b,o,e,Nat.lt_of_lt_of_le hlt hb0.size,fun i hi=>?_⟩
  obtain ⟨q,c1,c2,c3⟩:=hc i hi
  exact ⟨q,(hb0.cell (p:=⟨b,o+i,none⟩) hlt).trans c1,(hb0.cell (p:=⟨q,0,none⟩) (World.block_lt_of_cell? _ _ c2)).trans c2,(hb0.cell (p:=⟨q,4,none⟩) (World.block_lt_of_cell? _ _ c3)).trans c3⟩
 have hi:=idxLab_any l n p cap hN w.heap.size w0 hl0 hx
 have c1:=Blk.cell (h.below hb0) 1 (v:=.slice p l.length cap) rfl
 have HW0:=Lib.hid hw0
 have HB0:=Lib.hid hb0
 clear h hl hw0 hb0 hx hl0
 go_enter Tryz.func33,Tryz.ntmps33
 go_upto_region 1 with fail
 rw [HW0.out]
 go_wp2_with fail
 refine hi.mono ?_
 rintro e w1 ⟨rfl,hb1⟩
 have HB1:=Lib.hid (HB0.out.trans (hb1.mono HB0.out.size))
 clear hi hb1
 go_wp2_with fail
 go_ret
 exact ⟨rfl,HB1.out⟩
end Go.Proofs.YtefpcacnblaokaaGreatDoor

/-
  The script reader as a whole in memory: what was read, what is open; what keeps it. No condition.
-/
namespace Go.Proofs.YtefpcacnblaokaaGreatDoor
open Go.RowKit Go.Shelf Go.Maps
def OpnAt (W:World) (K:Nat→Prop) (qs:List Nat) (ov:Value) (o:Sd.Opn):Prop:=match o with
 | .no=>ov=.slice none 0 0
 | .at_ i=>i < qs.length∧∃ g c,ov=.slice (some ⟨g,0,none⟩) 1 c∧1≤c∧K g∧W.cell? ⟨g,0,none⟩=some (ptrC (qs.getD i 0))
 | .shut=>∃ p c,ov=.slice p 0 c
structure RSt (W:World) (K:Nat→Prop) (B r:Nat) (q:Sd.RS) (qs:List Nat):Prop where
 rd:∃ lv ov,RdB W r q.s lv ov∧W.ownsRow B 82 1 lv q.l.length (qs.map ptrC)∧OpnAt W K qs ov q.opn∧∀ g,lv.ownBlock=some g→¬ K g∧g≠r∧g ∉ qs
 len:qs.length=q.l.length
 cm:∀ i,i < qs.length→CmdAt W K (qs.getD i 0) (q.l.getD i default)
 nd:qs.Nodup
 own:∀ x ∈ qs,¬ K x∧x≠r∧B≤x
 kb:∀ k,K k→B≤k∧k < W.heap.size
 rb:B≤r∧¬ K r
theorem OpnAt.kept {S K:Nat→Prop} {W W':World} {qs:List Nat} {ov:Value} {o:Sd.Opn} (h:OpnAt W K qs ov o) (hk:Kept S W W') (hS:∀ k,K k→¬ S k):OpnAt W' K qs ov o:=by
 cases o with
 | no=>exact h
 | shut=>exact h
 | at_ i=>
  obtain ⟨h1,g,c,h2,h3,h4,h5⟩:=h
  exact ⟨h1,g,c,h2,h3,h4,(World.cell?_of_block (hk.block g (World.block_lt_of_cell? _ _ h5) (hS g h4))).trans h5⟩
theorem OpnAt.mono {K K':Nat→Prop} {W:World} {qs:List Nat} {ov:Value} {o:Sd.Opn} (h:OpnAt W K qs ov o) (hK:∀ k,K k→K' k):OpnAt W K' qs ov o:=by
 cases o with
 | no=>exact h
 | shut=>exact h
 | at_ i=>
  obtain ⟨h1,g,c,h2,h3,h4,h5⟩:=h
  exact ⟨h1,g,c,h2,h3,hK g h4,h5⟩
theorem getD_mem {l:List Nat} {i:Nat} (hi:i < l.length):l.getD i 0 ∈ l:=by
 rw [List.getD_eq_getElem?_getD,List.getElem?_eq_getElem hi]
 exact List.getElem_mem _
theorem RSt.step {S:Nat→Prop} {W W':World} {K:Nat→Prop} {B r:Nat} {q:Sd.RS} {qs:List Nat} (h:RSt W K B r q qs) {lv ov:Value} (h0:RdB W r q.s lv ov) (s':Bts) (h1:RdB W' r s' lv ov) (hk:Kept S W W') (hS:∀ k,S k→k=r):RSt W' K B r ⟨s',q.l,q.opn⟩ qs:=by
 obtain ⟨lv',ov',e0,hl,ho,hb⟩:=h.rd
 have e1:lv'=lv∧ov'=ov:=by
  have a:=Blk.cell e0 1 (v:=lv') rfl
  have b:=Blk.cell h0 1 (v:=lv) rfl
  have c:=Blk.cell e0 2 (v:=ov') rfl
  have d:=Blk.cell h0 2 (v:=ov) rfl
  rw [a] at b
  rw [c] at d
  exact ⟨Option.some.inj b,Option.some.inj d⟩
 obtain ⟨rfl,rfl⟩:=e1
 have hK:∀ k,K k→¬ S k:=fun k hk hs=>h.rb.2 (hS k hs ▸ hk)
 exact ⟨⟨_,_,h1,own_kept hl hk fun g e hs=>(hb g e).2.1 (hS g hs),ho.kept hk hK,hb⟩,h.len,fun i hi=>(h.cm i hi).kept hk (fun hs=>(h.own _ (getD_mem hi)).2.1 (hS _ hs)) hK,h.nd,h.own,fun k hk'=>⟨(h.kb k hk').1,Nat.lt_of_lt_of_le (h.kb k hk').2 hk.size⟩,h.rb⟩
end Go.Proofs.YtefpcacnblaokaaGreatDoor

/-
  The walk of the script reader's where: a command's addresses, its ! and its letter. Conditions: the reader and a new command lie in memory; what the library's variables hold; what the spec tells.
-/
set_option maxRecDepth 100000
set_option maxHeartbeats 8000000
namespace Go.Proofs.YtefpcacnblaokaaGreatDoor
open Go.RowKit Go.Shelf Go.Maps Go.Sort
theorem info_adr:(Tryz.prog.info? 224).map (fun i=>(i.zero,i.size,i.bytes))=some (some (.agg #[.int .i64 0,.int .i64 0,.pointer none]),3,24):=by kernel_rfl
def begC (l:List Sd.Adr):Sd.Cmd:=⟨0,l,false,0,[],Sd.tab0,none,[],false,false⟩
theorem tab0_len:Sd.tab0.length=256:=by unfold Sd.tab0;exact List.length_replicate
theorem adCells_form (a:Sd.Adr) (q:Option Nat):∃ (k n:Int) (p:Option Addr),adCells a q=[.int .i64 k,.int .i64 n,.pointer p]:=by
 cases a with
 | num n=>exact ⟨1,n,none,rfl⟩
 | fin=>exact ⟨2,0,none,rfl⟩
 | rx b=>exact ⟨3,0,_,rfl⟩
theorem adAns_form {W0 W:World} {o:Option Sd.Adr} {av:Value} (h:adAns W0 W o av):∃ (k n:Int) (p:Option Addr),av=.agg #[.int .i64 k,.int .i64 n,.pointer p]:=by
 cases o with
 | none=>exact ⟨0,0,none,h⟩
 | some a=>
  obtain ⟨q,h1,-⟩:=h
  obtain ⟨k,n,p,h2⟩:=adCells_form a q
  exact ⟨k,n,p,by rw [h1,h2]⟩
theorem AdsAt.nil (W:World) (K:Nat→Prop):AdsAt W K (.slice none 0 0) []:=⟨[],rfl,World.ownsRow_nil _ _ _ _,fun x hx=>(by cases hx),fun g e=>(by cases e)⟩
def AdsIn (W0 W:World) (r q:Nat) (l:List Sd.Adr) (s:Bts) (lv ov:Value):Prop:=RdB W r s lv ov∧(∃ av,CmBlk W q (begC l) av (.pointer none) (.slice none 0 0)∧AdsAt W (fun k=>W0.heap.size≤k∧k < W.heap.size) av l)∧Kept (fun k=>k=r∨k=q) W0 W
def adRow (L:List (Sd.Adr × Option Nat)):List Value:=L.flatMap fun x=>adCells x.1 x.2
structure AdsW (W0 W:World) (r q:Nat) (L:List (Sd.Adr × Option Nat)) (s:Bts) (lv ov v:Value):Prop where
 rd:RdB W r s lv ov
 cm:CmBlk W q (begC (L.map (·.1))) v (.pointer none) (.slice none 0 0)
 own:W.ownsRow W0.heap.size 224 3 v L.length (adRow L)
 ok:∀ x ∈ L,∃ K:Nat→Prop,adOk W K x.1 x.2∧∀ k,K k→W0.heap.size≤k∧k < W.heap.size∧v.ownBlock≠some k
 kept:Kept (fun k=>k=r∨k=q) W0 W
theorem AdsW.in_ {W0 W:World} {r q:Nat} {L:List (Sd.Adr × Option Nat)} {s:Bts} {lv ov v:Value} (h:AdsW W0 W r q L s lv ov v):AdsIn W0 W r q (L.map (·.1)) s lv ov:=
 ⟨h.rd,⟨v,h.cm,L,rfl,own_mono h.own (Nat.zero_le _),fun x hx=>by
  obtain ⟨K,h1,h2⟩:=h.ok x hx
  exact h1.mono fun k hk=>⟨(h2 k hk).1,(h2 k hk).2.1⟩,fun g e=>h.own.lt g e⟩,h.kept⟩
theorem AdsW.go {W0 W W':World} {r q:Nat} {L:List (Sd.Adr × Option Nat)} {s s':Bts} {lv ov v:Value} (h:AdsW W0 W r q L s lv ov v) (hrq:r≠q) (hr0:r < W0.heap.size) (hk:Kept (fun k=>k=r) W W') (hr:RdB W' r s' lv ov):AdsW W0 W' r q L s' lv ov v:=
 ⟨hr,Blk.kept h.cm hk (fun e=>hrq e.symm),own_kept h.own hk (fun k e e2=>by have h1:=(h.own.lt k e).1;have h2:k=r:=e2;omega),fun x hx=>by
  obtain ⟨K,h1,h2⟩:=h.ok x hx
  exact ⟨K,h1.kept hk (fun k hk2 e=>by have h3:=(h2 k hk2).1;have h4:k=r:=e;omega),fun k hk2=>⟨(h2 k hk2).1,Nat.lt_of_lt_of_le (h2 k hk2).2.1 hk.size,(h2 k hk2).2.2⟩⟩,h.kept.trans (hk.mono fun _ _ e=>.inl e)⟩
theorem AdsW.push {W0 W w3:World} {r q g cap n:Nat} (hrq:r≠q) {L:List (Sd.Adr × Option Nat)} {s:Bts} {lv ov v:Value} (h:AdsW W0 W r q L s lv ov v) (hr0:r < W0.heap.size) (hq0:q < W0.heap.size) {O:Obj} (hg:((W.alloc O).drew).grownBy w3 v.ownBlock) (hat:v.ownBlock=some g∨g=W.heap.size+1) (a:Sd.Adr) (qa:Option Nat) {Ka:Nat→Prop} (ha:adOk W Ka a qa) (hKa:∀ k,Ka k→W0.heap.size≤k∧k < W.heap.size∧v.ownBlock≠some k) (hn:n=L.length+1)
  (ho:w3.ownsRow W0.heap.size 224 3 (.slice (some ⟨g,0,none⟩) n cap) n (adRow L ++ adCells a qa)):AdsW W0 (w3.setCell ⟨q,1,none⟩ (.slice (some ⟨g,0,none⟩) n cap)) r q (L ++ [(a,qa)]) s lv ov (.slice (some ⟨g,0,none⟩) n cap):=by
 subst hn
 have hk3:Kept (fun k=>v.ownBlock=some k) W w3:=kept_grown (((Kept.refl (fun _=>False) W).alloc O).drew) hg
 have hk34:Kept (fun k=>k=q) w3 (w3.setCell ⟨q,1,none⟩ (.slice (some ⟨g,0,none⟩) (L.length+1) cap)):=(Kept.refl (fun k=>k=q) w3).setCell (.inl rfl) 1 _
 have hnb:∀ k,k < W0.heap.size→¬ (v.ownBlock=some k):=fun k hk e=>by have:=(h.own.lt k e).1;omega
 have hcm:=Blk.kept h.cm hk3 (hnb q hq0)
 have hset:=Blk.set hcm 1 (.slice (some ⟨g,0,none⟩) (L.length+1) cap)
 rw [cm_set_at] at hset
 have hok:∀ (b:Sd.Adr) (qb:Option Nat) (K:Nat→Prop),adOk W K b qb→(∀ k,K k→W0.heap.size≤k∧k < W.heap.size∧v.ownBlock≠some k)→∃ K:Nat→Prop,adOk (w3.setCell ⟨q,1,none⟩ (.slice (some ⟨g,0,none⟩) (L.length+1) cap)) K b qb∧∀ k,K k→W0.heap.size≤k∧k < (w3.setCell ⟨q,1,none⟩ (.slice (some ⟨g,0,none⟩) (L.length+1) cap)).heap.size∧(Value.slice (some ⟨g,0,none⟩) (L.length+1) cap).ownBlock≠some k:=by
  intro b qb K h1 h2
  refine ⟨K,(h1.kept hk3 fun k hk=>(h2 k hk).2.2).kept hk34 (fun k hk e=>by have h3:=(h2 k hk).1;have h4:k=q:=e;omega),fun k hk=>⟨(h2 k hk).1,Nat.lt_of_lt_of_le (Nat.lt_of_lt_of_le (h2 k hk).2.1 hk3.size) hk34.size,fun e=>?_⟩⟩
  have e2:g=k:=Option.some.inj e
  subst e2
  rcases hat with h5 | h5
  ·exact (h2 g hk).2.2 h5
  ·have:=(h2 g hk).2.1;omega
 refine ⟨RdB.kept (RdB.kept h.rd hk3 (hnb r hr0)) hk34 (fun e=>?_), ?_, ?_,fun x hx=>?_,(h.kept.trans' hk3 fun k hk e=>absurd e (hnb k hk)).trans (hk34.mono fun _ _ e=>.inr e)⟩
 ·exact hrq e
 ·rw [List.map_append]
  exact hset
 ·have e1:adRow (L ++ [(a,qa)])=adRow L ++ adCells a qa:=by simp [adRow]
  rw [e1,List.length_append]
  exact own_kept ho hk34 fun k e e2=>by have h1:=(ho.lt k e).1;have h2:k=q:=e2;omega
 ·rcases List.mem_append.1 hx with hx | hx
  ·obtain ⟨K,h1,h2⟩:=h.ok x hx
   exact hok _ _ K h1 h2
  ·obtain rfl:x=(a,qa):=by simpa using hx
   exact hok _ _ Ka ha hKa
theorem ads_one {s:Bts} {a:Sd.Adr} {ra:Bts} (h:Sd.adr s=some (some a,ra)) (hc:Sd.isIn [44] ra=false):Sd.ads s=some ([a],ra):=by
 unfold Sd.ads
 rw [h]
 simp only
 split
 ·rename_i r1
  rw [show Sd.isIn [44] (44 :: r1)=true from rfl] at hc
  cases hc
 ·rfl
def negC (l:List Sd.Adr) (ng:Bool):Sd.Cmd:=⟨0,l,ng,0,[],Sd.tab0,none,[],false,false⟩
structure WhIn (W0 W:World) (r q:Nat) (l:List Sd.Adr) (ng:Bool) (s:Bts) (lv ov av:Value):Prop where
 rd:RdB W r s lv ov
 cm:CmBlk W q (negC l ng) av (.pointer none) (.slice none 0 0)
 ads:AdsAt W (fun k=>W0.heap.size≤k∧k < W.heap.size) av l
 kept:Kept (fun k=>k=r∨k=q) W0 W
theorem WhIn.go {W0 W W':World} {r q:Nat} {l:List Sd.Adr} {ng:Bool} {s s':Bts} {lv ov av:Value} (h:WhIn W0 W r q l ng s lv ov av) (hrq:r≠q) (hr0:r < W0.heap.size) (hk:Kept (fun k=>k=r) W W') (hr:RdB W' r s' lv ov):WhIn W0 W' r q l ng s' lv ov av:=
 ⟨hr,Blk.kept h.cm hk (fun e=>hrq e.symm),(h.ads.kept hk (fun k hk2 e=>by have h1:=hk2.1;have h2:k=r:=e;omega)).mono (fun k hk2=>⟨hk2.1,Nat.lt_of_lt_of_le hk2.2 hk.size⟩),h.kept.trans (hk.mono fun _ _ e=>.inl e)⟩
theorem WhIn.not_ {W0 W:World} {r q:Nat} {l:List Sd.Adr} {ng:Bool} {s:Bts} {lv ov av:Value} (h:WhIn W0 W r q l ng s lv ov av) (hrq:r≠q) (hq0:q < W0.heap.size):WhIn W0 (W.setCell ⟨q,2,none⟩ (.bool true)) r q l true s lv ov av:=by
 have hk:Kept (fun k=>k=q) W (W.setCell ⟨q,2,none⟩ (.bool true)):=(Kept.refl (fun k=>k=q) W).setCell (.inl rfl) 2 _
 have hset:=Blk.set h.cm 2 (.bool true)
 rw [cm_set_neg] at hset
 exact ⟨RdB.kept h.rd hk hrq,hset,(h.ads.kept hk (fun k hk2 e=>by have h1:=hk2.1;have h2:k=q:=e;omega)).mono (fun k hk2=>⟨hk2.1,Nat.lt_of_lt_of_le hk2.2 hk.size⟩),h.kept.trans (hk.mono fun _ _ e=>.inr e)⟩
def WherePost (W0:World) (r q:Nat) (y:Sd.Cmd) (t:Bts) (lv ov:Value) (e:Ending) (w':World):Prop:=e=.returned (.tuple #[])∧RdB w' r t lv ov∧CmdAt w' (fun k=>W0.heap.size≤k∧k < w'.heap.size) q y
theorem swhere_any (r q:Nat) (hrq:r≠q) (s:Bts) (y:Sd.Cmd) (t:Bts) (hx:Sd.whereF s=some (y,t)) (lv ov:Value) (w:World) (hg:Glo w) (h:RdB w r s lv ov) (hq:CmBlk w q (begC []) (.slice none 0 0) (.pointer none) (.slice none 0 0)) (hr8:8≤r) (hq8:8≤q) :
  Calls Tryz.prog 57 #[.pointer (some ⟨r,0,none⟩),.pointer (some ⟨q,0,none⟩)] w fun e w'=>WherePost w r q y t lv ov e w'∧Kept (fun k=>k=r∨k=q) w w':=by
 obtain ⟨i0,hi0,hz0,hz1,hz2⟩:=info_parts info_adr
 unfold Sd.whereF at hx
 cases hads:Sd.ads s with
 | none=>rw [hads] at hx;cases hx
 | some x=>
  obtain ⟨l,r1⟩:=x
  rw [hads] at hx
  simp only at hx
  cases hbg:Sd.bangs (r1.length+1) false (Sd.blanks r1) with
  | none=>rw [hbg] at hx;cases hx
  | some x2=>
   obtain ⟨neg,r2⟩:=x2
   rw [hbg] at hx
   simp only at hx
   cases r2 with
   | nil=>cases hx
   | cons c u=>
    simp only at hx
    by_cases hm:Sd.most c < l.length∨neg=true∧Sd.most c=0
    ·rw [if_pos hm] at hx
     cases hx
    ·rw [if_neg hm] at hx
     injection hx with hx
     injection hx with hy ht
     subst hy
     subst ht
     have HADS:=Lib.hid hads
     have HBG:=Lib.hid hbg
     have HM:=Lib.hid hm
     have H:=Lib.hid h
     have HQ:=Lib.hid hq
     have HG:=Lib.hid hg
     have HRL:=Lib.hid (Blk.lt h)
     have HQL:=Lib.hid (Blk.lt hq)
     clear hads hbg hm h hq hg
     go_enter Tryz.func57,Tryz.ntmps57
     cases hadr:Sd.adr s with
     | none=>
      have:=HADS.out
      unfold Sd.ads at this
      rw [hadr] at this
      cases this
     | some x0=>
      obtain ⟨o,ra⟩:=x0
      have hadc:=saddress_any r s o ra hadr lv ov w HG.out H.out hr8
      have HADR:=Lib.hid hadr
      clear hadr
      go_wp2_with fail
      refine hadc.mono ?_
      rintro e w1 ⟨⟨av,rfl,hans,hr1⟩,hk1⟩
      obtain ⟨k,n,p,rfl⟩:=adAns_form hans
      have HANS:=Lib.hid hans
      have HR1:=Lib.hid hr1
      have HK1:=Lib.hid hk1
      clear hadc hans hr1 hk1
      go_upto_if 14 with fail
      obtain ⟨w2,hw2⟩:∃ w2,w1.alloc (.cells #[.int .i64 k,.int .i64 n,.pointer p] 224)=w2:=⟨_,rfl⟩
      rw [hw2]
      have hbx:Blk w2 w1.heap.size #[.int .i64 k,.int .i64 n,.pointer p] 224:=by rw [← hw2];exact Blk.new _ _ _
      have hb2:Below w1.heap.size w1 w2:=by rw [← hw2];exact (Below.refl _ _).alloc (Nat.le_refl _) _
      have hr2:=HR1.out.below hb2
      have hq2:CmBlk w2 q (begC []) (.slice none 0 0) (.pointer none) (.slice none 0 0):=Blk.kept (Blk.kept HQ.out HK1.out (fun e=>hrq e.symm)) (Kept.of_below (S:=fun _=>False) hb2) id
      have HBX:=Lib.hid hbx
      have HB2:=Lib.hid hb2
      have HR2:=Lib.hid hr2
      have HQ2:=Lib.hid hq2
      clear hw2 hbx hb2 hr2 hq2
      go_cut [5,9,11,13,14] (fun _x5 _x9 _x11 _x13 _x14 wx=>Hid (AdsIn w wx r q l r1 lv ov))
      case first=>
       have hads:=HADS.out
       unfold Sd.ads at hads
       rw [HADR.out] at hads
       cases o with
       | none=>
        simp only [Option.some.injEq,Prod.mk.injEq] at hads
        obtain ⟨rfl,rfl⟩:=hads
        go_wp2_with fail
        go_meet
        exact Lib.hid ⟨HR2.out,⟨_,HQ2.out,AdsAt.nil _ _⟩,(HK1.out.mono fun _ _ e=>.inl e).trans (Kept.of_below HB2.out)⟩
       | some a=>
        obtain ⟨qa,hqa,hoka⟩:=HANS.out
        have hca:adCells a qa=[.int .i64 k,.int .i64 n,.pointer p]:=by
         have:=Value.agg.inj hqa
         exact (congrArg Array.toList this).symm
        have hA2:AdsW w w2 r q [] ra lv ov (.slice none 0 0):=⟨HR2.out,HQ2.out,World.ownsRow_nil _ _ _ _,fun x hx=>(by cases hx),(HK1.out.mono fun _ _ e=>.inl e).trans (Kept.of_below HB2.out)⟩
        have hok2:adOk w2 (fun k=>w.heap.size≤k∧k < w1.heap.size) a qa:=hoka.kept (Kept.of_below (S:=fun _=>False) HB2.out) fun _ _=>id
        have HA2:=Lib.hid hA2
        have HOK2:=Lib.hid hok2
        have hsz2:=HB2.out.size
        have hwsz:=HK1.out.size
        have hrl:=HRL.out
        clear hA2 hok2 hoka hqa
        go_upto_region 2 with fail
        go_cut [22] (fun _x22 wx=>∃ v,Hid (AdsW w wx r q [(a,qa)] ra lv ov v))
        case first=>
         have z0:=HBX.out.cell 0 (v:=.int .i64 k) rfl
         have z1:=HBX.out.cell 1 (v:=.int .i64 n) rfl
         have z2:=HBX.out.cell 2 (v:=.pointer p) rfl
         have ca:=Blk.cell HQ2.out 1 (v:=.slice none 0 0) rfl
         obtain ⟨O,hO⟩:∃ O:Obj,O=.cells #[.int .i64 k,.int .i64 n,.pointer p] 224:=⟨_,rfl⟩
         have y0:=(HBX.out.drew).cell 0 (v:=.int .i64 k) rfl
         have y1:=(HBX.out.drew).cell 1 (v:=.int .i64 n) rfl
         have y2:=(HBX.out.drew).cell 2 (v:=.pointer p) rfl
         have yc:=Blk.cell (Blk.drew HQ2.out) 1 (v:=.slice none 0 0) rfl
         have xc:=Blk.cell (Blk.drew (Blk.alloc HQ2.out O)) 1 (v:=.slice none 0 0) rfl
         have xf:=Blk.free (Blk.drew (Blk.alloc HQ2.out O)) 1
         have d5:((w2.alloc O).drew).heap[w2.heap.size]?=some O:=heap_alloc_new w2 O
         have hown:((w2.alloc O).drew).ownsRow w.heap.size 224 3 (.slice none 0 0) 0 []:=World.ownsRow_nil _ _ _ _
         have hsz:((w2.alloc O).drew).heap.size=w2.heap.size+1:=by simp
         have hob:(Value.slice none 0 0).ownBlock≠some q:=fun e=>by cases e
         have hql:=Blk.lt HQ2.out
         subst hO
         go_region_law
          ((refine step_append_lies _ (by rfl) _ _ _ (by rfl) w.heap.size 224 i0 _ 3 24 Tryz.underlying83 hi0 hz0 hz1 hz2 rfl (by decide) (.slice none 0 0) 0 [] (by rfl) hown
             ⟨w2.heap.size,0,none⟩ 1 1 [.int .i64 k,.int .i64 n,.pointer p] (by rfl) (by rfl) (World.news_of_block d5) (by simp [Value.oneCell']) (by decide) (by unfold maxLen;omega) (by omega) (by rw [hsz];omega) (w2.heap.size+1) hsz ?_;intro gg cap w3 hown1 hgrow hat hlt;have fq:=hgrow.frozen_far (a:=⟨q,1,none⟩) (by rw [hsz];show q < _;omega) (Ne.symm hob);rw [xf] at fq;have cq:=hgrow.cell_far ⟨q,1,none⟩ (by rw [hsz];show q < _;omega) (Ne.symm hob);rw [xc] at cq))
         all_goals
          have hpush:=HA2.out.push hrq hrl HQL.out hgrow hat a qa HOK2.out (fun k hk=>⟨hk.1,by omega,fun e=>by cases e⟩) (n:=0+1) rfl (by rw [hca];exact hown1)
          have HPUSH:=Lib.hid hpush
          clear hpush hgrow hown1
          go_wp2_with fail
          go_meet
          exact ⟨_,HPUSH⟩
        case rest=>
        obtain ⟨v4,HA4⟩:=hcut
        obtain ⟨w4,hw4⟩:∃ w4,w4=wc:=⟨_,rfl⟩
        subst hw4
        have hi:=sis_any r [44] ra lv ov w4 HA4.out.rd
        cases hcm:Sd.isIn [44] ra with
        | false=>
         rw [hcm] at hi
         have hl:l=[a]∧r1=ra:=by
          have h1:=ads_one HADR.out hcm
          rw [HADS.out] at h1
          simp only [Option.some.injEq,Prod.mk.injEq] at h1
          exact h1
         obtain ⟨rfl,rfl⟩:=hl
         clear hads hcm
         go_wp2_with fail
         refine hi.mono ?_
         rintro e w5 ⟨rfl,rfl⟩
         clear hi
         go_wp2_with fail
         go_meet
         exact Lib.hid HA4.out.in_
        | true=>
         rw [hcm] at hi
         obtain ⟨u,rfl⟩:∃ u,ra=44 :: u:=by
          cases ra with
          | nil=>cases hcm
          | cons c u=>
           have:List.contains [44] c=true:=hcm
           rw [List.contains_cons] at this
           simp at this
           exact ⟨u,by rw [this]⟩
         simp only at hads
         cases hadr2:Sd.adr (Sd.blanks u) with
         | none=>rw [hadr2] at hads;cases hads
         | some x3=>
          obtain ⟨o2,r3⟩:=x3
          rw [hadr2] at hads
          cases o2 with
          | none=>cases hads
          | some b=>
           simp only [Option.some.injEq,Prod.mk.injEq] at hads
           obtain ⟨rfl,rfl⟩:=hads
           have ht:=stake_any r (44 :: u) lv ov w4 HA4.out.rd
           unfold TakePost at ht
           simp only at ht
           clear hcm
           go_wp2_with fail
           refine hi.mono ?_
           rintro e w5 ⟨rfl,rfl⟩
           clear hi
           go_wp2_with fail
           refine ht.mono ?_
           rintro e w6 ⟨⟨rfl,hr6⟩,hk6⟩
           have hA6:=HA4.out.go hrq hrl hk6 hr6
           have hb6:=sblanks_any r u lv ov w6 hr6
           have HA6:=Lib.hid hA6
           clear ht hr6 hk6 hA6
           go_wp2_with fail
           refine hb6.mono ?_
           rintro e w7 ⟨rfl,hr7,hk7⟩
           have hA7:=HA6.out.go hrq hrl hk7 hr7
           have hg7:Glo w7:=HG.out.kept hA7.kept (fun k hk=>by rcases hk with hk | hk <;> (subst hk;assumption))
           have had7:=saddress_any r (Sd.blanks u) (some b) r3 hadr2 lv ov w7 hg7 hr7 hr8
           have HA7:=Lib.hid hA7
           clear hb6 hr7 hk7 hA7 hg7 hadr2
           go_wp2_with fail
           refine had7.mono ?_
           rintro e w8 ⟨⟨av2,rfl,hans2,hr8b⟩,hk8⟩
           obtain ⟨k2,n2,p2,rfl⟩:=adAns_form hans2
           have hA8:=HA7.out.go hrq hrl hk8 hr8b
           obtain ⟨qb,hqb,hokb⟩:=hans2
           have hcb:adCells b qb=[.int .i64 k2,.int .i64 n2,.pointer p2]:=by
            have:=Value.agg.inj hqb
            exact (congrArg Array.toList this).symm
           have HA8:=Lib.hid hA8
           have HOKB:=Lib.hid hokb
           have HSZ78:=Lib.hid hk8.size
           have HSZ7:=Lib.hid HA7.out.kept.size
           have HOWN7:=Lib.hid HA7.out.own
           clear had7 hr8b hk8 hA8 hokb hqb
           go_upto_region 9 with fail
           obtain ⟨w9,hw9⟩:∃ w9,w8.alloc (.cells #[.int .i64 k2,.int .i64 n2,.pointer p2] 224)=w9:=⟨_,rfl⟩
           rw [hw9]
           have hbx9:Blk w9 w8.heap.size #[.int .i64 k2,.int .i64 n2,.pointer p2] 224:=by rw [← hw9];exact Blk.new _ _ _
           have hb9:Below w8.heap.size w8 w9:=by rw [← hw9];exact (Below.refl _ _).alloc (Nat.le_refl _) _
           have hA9:AdsW w w9 r q [(a,qa)] r3 lv ov v4:=HA8.out.go hrq hrl (Kept.of_below hb9) (HA8.out.rd.below hb9)
           have hokb9:adOk w9 (fun k=>w7.heap.size≤k∧k < w8.heap.size) b qb:=HOKB.out.kept (Kept.of_below (S:=fun _=>False) hb9) fun _ _=>id
           have hvb:∀ k,v4.ownBlock=some k→k < w7.heap.size:=fun k e=>(HOWN7.out.lt k e).2
           have HA9:=Lib.hid hA9
           have HB9:=Lib.hid hb9
           have HBX9:=Lib.hid hbx9
           have HOK9:=Lib.hid hokb9
           have HVB:=Lib.hid hvb
           obtain ⟨g4,c4,rfl⟩:=own_slice (n:=0) hA9.own
           clear hw9 hbx9 hb9 hA9 hokb9 hvb
           have z0:=HBX9.out.cell 0 (v:=.int .i64 k2) rfl
           have z1:=HBX9.out.cell 1 (v:=.int .i64 n2) rfl
           have z2:=HBX9.out.cell 2 (v:=.pointer p2) rfl
           have ca:=Blk.cell HA9.out.cm 1 (v:=.slice (some ⟨g4,0,none⟩) 1 c4) rfl
           obtain ⟨O,hO⟩:∃ O:Obj,O=.cells #[.int .i64 k2,.int .i64 n2,.pointer p2] 224:=⟨_,rfl⟩
           have y0:=(HBX9.out.drew).cell 0 (v:=.int .i64 k2) rfl
           have y1:=(HBX9.out.drew).cell 1 (v:=.int .i64 n2) rfl
           have y2:=(HBX9.out.drew).cell 2 (v:=.pointer p2) rfl
           have yc:=Blk.cell (Blk.drew HA9.out.cm) 1 (v:=.slice (some ⟨g4,0,none⟩) 1 c4) rfl
           have xc:=Blk.cell (Blk.drew (Blk.alloc HA9.out.cm O)) 1 (v:=.slice (some ⟨g4,0,none⟩) 1 c4) rfl
           have xf:=Blk.free (Blk.drew (Blk.alloc HA9.out.cm O)) 1
           have d5:((w9.alloc O).drew).heap[w9.heap.size]?=some O:=heap_alloc_new w9 O
           have hown:((w9.alloc O).drew).ownsRow w.heap.size 224 3 (.slice (some ⟨g4,0,none⟩) 1 c4) 1 (adRow [(a,qa)]):=(HA9.out.own.alloc O).drew
           have hsz:((w9.alloc O).drew).heap.size=w9.heap.size+1:=by simp
           have hob:(Value.slice (some ⟨g4,0,none⟩) 1 c4).ownBlock≠some q:=fun e=>by have:=(HA9.out.own.lt q e).1;have:=HQL.out;omega
           have hql:=Blk.lt HA9.out.cm
           have hsz9:=HA9.out.kept.size
           have hsz89:=HB9.out.size
           subst hO
           go_region_law
            ((refine step_append_lies _ (by rfl) _ _ _ (by rfl) w.heap.size 224 i0 _ 3 24 Tryz.underlying83 hi0 hz0 hz1 hz2 rfl (by decide) (.slice (some ⟨g4,0,none⟩) 1 c4) 1 (adRow [(a,qa)]) (by rfl) hown
               ⟨w9.heap.size,0,none⟩ 1 1 [.int .i64 k2,.int .i64 n2,.pointer p2] (by rfl) (by rfl) (World.news_of_block d5) (by simp [Value.oneCell']) (by decide) (by unfold maxLen;omega) (by omega) (by rw [hsz];omega) (w9.heap.size+1) hsz ?_;intro gg cap w10 hown1 hgrow hat hlt;have fq:=hgrow.frozen_far (a:=⟨q,1,none⟩) (by rw [hsz];show q < _;omega) (Ne.symm hob);rw [xf] at fq;have cq:=hgrow.cell_far ⟨q,1,none⟩ (by rw [hsz];show q < _;omega) (Ne.symm hob);rw [xc] at cq))
           all_goals
            have hpush:=HA9.out.push hrq hrl HQL.out hgrow hat b qb HOK9.out (fun k hk=>⟨by have:=HSZ7.out;omega,by omega,fun e=>by have:=HVB.out k e;omega⟩) (n:=1+1) rfl (by rw [hcb];exact hown1)
            have HPUSH:=Lib.hid hpush.in_
            clear hpush hgrow hown1
            go_wp2_with fail
            go_meet
            exact HPUSH
      case rest=>
      obtain ⟨w5,hw5⟩:∃ w5,w5=wc:=⟨_,rfl⟩
      subst hw5
      obtain ⟨hrd5,⟨av,hcm5,had5⟩,hkp5⟩:=hcut.out
      obtain ⟨pa,ca,hav⟩:∃ pa ca,av=.slice pa l.length ca:=by
       obtain ⟨L,h1,h2,-,-⟩:=had5
       rw [← h1,List.length_map]
       rcases h2.2 with ⟨h3,h4⟩ | ⟨g,cap,cur,e,-⟩
       ·exact ⟨none,0,by rw [h3,h4]⟩
       ·exact ⟨_,_,e⟩
      subst hav
      have HAD5:=Lib.hid had5
      have HCM5:=Lib.hid hcm5
      have HKP5:=Lib.hid hkp5
      have hrl:=HRL.out
      have hql:=HQL.out
      have hb5:=sblanks_any r r1 lv ov w5 hrd5
      clear hcut hrd5 hcm5 had5 hkp5
      go_wp2_with fail
      refine hb5.mono ?_
      rintro e w6 ⟨rfl,hr6,hk6⟩
      have hI6:WhIn w w6 r q l false (Sd.blanks r1) lv ov (.slice pa l.length ca):=⟨hr6,Blk.kept HCM5.out hk6 (fun e=>hrq e.symm),(HAD5.out.kept hk6 (fun k hk e=>by have h1:=hk.1;have h2:k=r:=e;omega)).mono (fun k hk=>⟨hk.1,Nat.lt_of_lt_of_le hk.2 hk6.size⟩),HKP5.out.trans (hk6.mono fun _ _ e=>.inl e)⟩
      have HI6:=Lib.hid hI6
      clear hb5 hr6 hk6 hI6
      go_wp2_with fail
      go_loopg [] (r1.length+1) (fun f wr=>∃ (s1:Bts) (ng:Bool),Hid (Sd.bangs f ng s1=some (neg,c :: u))∧Hid (WhIn w wr r q l ng s1 lv ov (.slice pa l.length ca)))
      case atStart=>exact ⟨_,false,HBG,HI6⟩
      case round=>
       obtain ⟨s1,ng,HE,HI⟩:=hrel
       have hg1:∃ g,gk=g+1:=by
        cases gk with
        | zero=>exact absurd HE.out (by unfold Sd.bangs;simp)
        | succ g=>exact ⟨g,rfl⟩
       obtain ⟨g,rfl⟩:=hg1
       have hi:=sis_any r [33] s1 lv ov wr HI.out.rd
       have ht:=stake_any r s1 lv ov wr HI.out.rd
       unfold TakePost at ht
       have HE1:=HE.out
       cases hcm:Sd.isIn [33] s1 with
       | true=>
        rw [hcm] at hi
        obtain ⟨v,rfl⟩:∃ v,s1=33 :: v:=by
         cases s1 with
         | nil=>cases hcm
         | cons x v=>
          have:List.contains [33] x=true:=hcm
          rw [List.contains_cons] at this
          simp at this
          exact ⟨v,by rw [this]⟩
        simp only at ht
        have hx1:Sd.bangs g true (Sd.blanks v)=some (neg,c :: u):=HE1
        have HX1:=Lib.hid hx1
        clear HE1 HE hcm hx1
        go_wp2_with fail
        refine hi.mono ?_
        rintro e w7 ⟨rfl,rfl⟩
        clear hi
        go_wp2_with fail
        refine ht.mono ?_
        rintro e w8 ⟨⟨rfl,hr8b⟩,hk8⟩
        have hI8:=HI.out.go hrq hrl hk8 hr8b
        have c2:=Blk.cell hI8.cm 2 cm_neg
        have f2:=Blk.free hI8.cm 2
        have hI9:=hI8.not_ hrq hql
        have HI9:=Lib.hid hI9
        clear ht hr8b hk8 hI8 hI9
        go_upto_region 14 with fail
        obtain ⟨w9,hw9⟩:∃ w9,w8.setCell ⟨q,2,none⟩ (.bool true)=w9:=⟨_,rfl⟩
        rw [hw9] at HI9 ⊢
        have hb9:=sblanks_any r v lv ov w9 HI9.out.rd
        clear c2 f2 hw9
        go_wp2_with fail
        refine hb9.mono ?_
        rintro e w10 ⟨rfl,hr10,hk10⟩
        have HI10:=Lib.hid (HI9.out.go hrq hrl hk10 hr10)
        clear hb9 hr10 hk10
        go_wp2_with fail
        go_roundg g
        case measure=>omega
        case rel=>exact ⟨_,true,HX1,HI10⟩
       | false=>
        rw [hcm] at hi
        have hx1:ng=neg∧s1=c :: u:=by
         unfold Sd.bangs at HE1
         split at HE1
         ·rw [show Sd.isIn [33] (33 :: _)=true from rfl] at hcm
          cases hcm
         ·simp only [Option.some.injEq,Prod.mk.injEq] at HE1
          exact HE1
        obtain ⟨rfl,rfl⟩:=hx1
        simp only at ht
        have hmo:=smost_any c
        obtain ⟨mc,hmc⟩:∃ mc,Sd.most c=mc:=⟨_,rfl⟩
        have hm:=HM.out
        rw [hmc] at hm
        simp only [hmc] at hmo
        clear HE1 HE hcm hmc
        go_wp2_with fail
        refine hi.mono ?_
        rintro e w7 ⟨rfl,rfl⟩
        clear hi
        go_wp2_with fail
        refine ht.mono ?_
        rintro e w8 ⟨⟨rfl,hr8b⟩,hk8⟩
        have hI8:=HI.out.go hrq hrl hk8 hr8b
        have c0:=Blk.cell hI8.cm 0 cm_c
        have f0:=Blk.free hI8.cm 0
        have hset:=Blk.set hI8.cm 0 (.int .u8 c.toNat)
        rw [cm_set_c] at hset
        have hk9:Kept (fun k=>k=q) w8 (w8.setCell ⟨q,0,none⟩ (.int .u8 c.toNat)):=(Kept.refl (fun k=>k=q) w8).setCell (.inl rfl) 0 _
        have hr9:RdB (w8.setCell ⟨q,0,none⟩ (.int .u8 c.toNat)) r u lv ov:=RdB.kept hI8.rd hk9 (fun e=>hrq e)
        have had9:=(hI8.ads.kept hk9 (fun k hk e=>by have h1:=hk.1;have h2:k=q:=e;omega)).mono (K':=fun k=>w.heap.size≤k∧k < (w8.setCell ⟨q,0,none⟩ (.int .u8 c.toNat)).heap.size) (fun k hk=>⟨hk.1,Nat.lt_of_lt_of_le hk.2 hk9.size⟩)
        have hkp9:=hI8.kept.trans (hk9.mono (T:=fun k=>k=r∨k=q) fun _ _ e=>.inr e)
        have HSET:=Lib.hid hset
        have HR9:=Lib.hid hr9
        have HAD9:=Lib.hid had9
        have HKP9:=Lib.hid hkp9
        clear ht hr8b hk8 hI8 hset hk9 hr9 had9 hkp9
        go_upto_region 16 with fail
        obtain ⟨w9,hw9⟩:∃ w9,w8.setCell ⟨q,0,none⟩ (.int .u8 c.toNat)=w9:=⟨_,rfl⟩
        rw [hw9] at HSET HR9 HAD9 HKP9 ⊢
        have d0:=Blk.cell HSET.out 0 cm_c
        have d1:=Blk.cell HSET.out 1 cm_at
        have d2:=Blk.cell HSET.out 2 cm_neg
        clear hw9 c0 f0
        have e1:decide (mc < (l.length:Int))=false:=by simp;omega
        have hfin:WherePost w r q ⟨c,l,ng,0,[],Sd.tab0,none,[],false,false⟩ u lv ov (.returned (.tuple #[])) w9:=⟨rfl,HR9.out,_,_,_,HSET.out,HAD9.out,rfl,⟨World.ownsRow_nil _ _ _ _,fun g e=>(by cases e)⟩,tab0_len⟩
        have HFIN:=Lib.hid hfin
        clear hfin
        cases ng with
        | false=>
         go_wp2_with fail
         refine (hmo _).mono ?_
         rintro e w10 ⟨rfl,rfl⟩
         clear hmo
         go_wp2_with fail
         go_end0
         exact ⟨HFIN.out,HKP9.out⟩
        | true=>
         have e2:((mc:Int) == 0)=false:=by simp at hm ⊢;omega
         go_wp2_with fail
         refine (hmo _).mono ?_
         rintro e w10 ⟨rfl,rfl⟩
         clear hmo
         go_wp2_with fail
         go_end0
         exact ⟨HFIN.out,HKP9.out⟩
end Go.Proofs.YtefpcacnblaokaaGreatDoor
