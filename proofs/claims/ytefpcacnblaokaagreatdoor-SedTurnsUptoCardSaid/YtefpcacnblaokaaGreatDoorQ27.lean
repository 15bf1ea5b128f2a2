/-
  Texts of this seat put together: Sd24, Sd25, Sd26, Sd27, Sd28.
-/
import Derived.Test.YtefpcacnblaokaaGreatDoorQ26
import Derived.Test.YtefpcacnblaokaaGreatDoorQ4
import Derived.Test.YtefpcacnblaokaaGreatDoorQ7
import Derived.Test.YtefpcacnblaokaaGreatDoorQ8
import Derived.Lib.AppendZeros

/-
  A machine in memory: its cells, what they lead to, what keeps it. No condition but those of each lemma.
-/
namespace Go.Proofs.YtefpcacnblaokaaGreatDoor
open Go.RowKit Go.Shelf Go.Maps
structure Mfx where
 mb:Nat
 ib:Nat
 mo:Nat
 mv:Nat
 lv:Value
 qs:List Nat
 cs:List Sd.Cmd
 quiet:Bool
 S:Nat→Prop
 W0:World
 M0:Nat→Prop
structure Mcl where
 n:Int
 pv:Value
 hv:Value
 joined:Bool
 extra:Int
 done:Bool
 jumps:Int
 last:Value
 fin:Bool
 over:Bool
def mcArr (F:Fx) (m:Mfx) (c:Mcl):Array Value:=
 #[.pointer (some ⟨F.p,0,none⟩),.pointer (some ⟨m.ib,0,none⟩),m.lv,.map (some m.mo),.map (some m.mv),.bool m.quiet,.int .i64 c.n,c.pv,c.hv,.bool c.joined,.int .i64 c.extra,.string ⟨#[]⟩,.bool c.done,.int .i64 c.jumps,c.last,.bool c.fin,.bool c.over]
def vElem (mb:Nat):Value→Option (DataW Unit × List MemPlace)
 | .func (.func n) a b=>(match a.toList,b.toList with
  | [.pointer (some p)],[]=>if p=⟨mb,0,none⟩ then some (.lit (.int .i64 n),[]) else none
  | [],[]=>some (.lit (.int .i64 (-((n:Int)+2))),[])
  | _,_=>none)
 | .nilFunc=>some (.lit (.int .i64 (-1)),[])
 | _=>none
theorem vElem_fn (mb n:Nat):vElem mb (.func (.func n) #[.pointer (some ⟨mb,0,none⟩)] #[])=some (.lit (.int .i64 n),[]):=by simp [vElem]
theorem vElem_no (mb n:Nat):vElem mb (.func (.func n) #[] #[])=some (.lit (.int .i64 (-((n:Int)+2))),[]):=rfl
theorem vElem_inv {mb:Nat} {v:Value} {n:Nat} {ps:List MemPlace} (h:vElem mb v=some (.lit (.int .i64 n),ps)):v=.func (.func n) #[.pointer (some ⟨mb,0,none⟩)] #[]:=by
 unfold vElem at h
 split at h
 ·rename_i k a b
  split at h
  ·rename_i p e1 e2
   split at h
   ·rename_i e3
    subst e3
    simp only [Option.some.injEq,Prod.mk.injEq,DataW.lit.injEq,Lit.int.injEq,true_and] at h
    obtain rfl:=Int.ofNat.inj h.1
    rw [show a=#[.pointer (some ⟨mb,0,none⟩)] from Array.toList_inj.1 e1,show b=#[] from Array.toList_inj.1 e2]
   ·cases h
  ·simp only [Option.some.injEq,Prod.mk.injEq,DataW.lit.injEq,Lit.int.injEq,true_and] at h
   omega
  ·cases h
 ·simp only [Option.some.injEq,Prod.mk.injEq,DataW.lit.injEq,Lit.int.injEq,true_and] at h
  omega
 ·cases h
theorem vElem_inv0 {mb:Nat} {v:Value} {n:Nat} {ps:List MemPlace} (h:vElem mb v=some (.lit (.int .i64 (-((n:Int)+2))),ps)):v=.func (.func n) #[] #[]:=by
 unfold vElem at h
 split at h
 ·rename_i k a b
  split at h
  ·split at h
   ·simp only [Option.some.injEq,Prod.mk.injEq,DataW.lit.injEq,Lit.int.injEq,true_and] at h
    omega
   ·cases h
  ·rename_i e1 e2
   simp only [Option.some.injEq,Prod.mk.injEq,DataW.lit.injEq,Lit.int.injEq,true_and] at h
   have e3:∀ x y:Nat,-((x:Int)+2)=-((y:Int)+2)→x=y:=fun x y h=>by omega
   obtain rfl:=e3 k n h.1
   rw [show a=#[] from Array.toList_inj.1 e1,show b=#[] from Array.toList_inj.1 e2]
  ·cases h
 ·simp only [Option.some.injEq,Prod.mk.injEq,DataW.lit.injEq,Lit.int.injEq,true_and] at h
  omega
 ·cases h
def vPut (c:Nat) (f:Int) (D:DataW Unit):DataW Unit:=D.put (.int .u8 c) (.lit (.int .i64 f))
def vData:DataW Unit:=
 vPut 115 158 <| vPut 121 157 <| vPut 116 156 <| vPut 98 155 <|
 vPut 113 154 <| vPut 80 153 <| vPut 112 152 <| vPut 78 151 <|
 vPut 110 150 <| vPut 120 149 <| vPut 72 148 <| vPut 104 147 <|
 vPut 71 146 <| vPut 103 145 <| vPut 68 144 <| vPut 100 143 <|
 vPut 99 142 <| vPut 105 141 <| vPut 97 140 <| vPut 61 139 <|
 vPut 58 (-((138:Int)+2)) <| vPut 123 (-((138:Int)+2)) <| .map []
def PatB (U:Nat→Prop) (m:Mfx):Nat→Prop:=fun g=>U g∧g≠m.mb∧g≠m.mo
structure MacAt (W:World) (F:Fx) (m:Mfx) (U R:Nat→Prop) (k:Nat) (c:Mcl) (o:Option Int) (inp out:Bts) (failed:Bool):Prop where
 blk:Blk W m.mb (mcArr F m c) 218
 ina:InAt W F U R m.ib k inp out failed
 scr:ScrAt W m.S m.lv m.cs m.qs
 vm:W.ownsMap Tryz.prog 5 (vElem m.mb) m.mv 22 vData
 om:PtrMap W m.mo (m.qs.getD 0 0) o
 sub:∀ j,m.S j→U j
 um:U m.mb∧U m.mo∧U m.mv
 sm:¬ m.S m.mb∧¬ m.S m.mo∧¬ m.S m.mv
 dist:m.mb≠m.mo∧m.mb≠m.mv∧m.mo≠m.mv
 base:Kept m.M0 m.W0 W
 new:∀ j,R j∨U j∨j=m.ib→m.M0 j∨m.W0.heap.size≤j
variable {W W':World} {F:Fx} {m:Mfx} {U R:Nat→Prop} {k:Nat} {c c':Mcl} {o:Option Int} {inp out:Bts} {failed:Bool}
theorem PtrMap.of_block {b q:Nat} (h:PtrMap W b q o) (e:W'.heap[b]?=W.heap[b]?):PtrMap W' b q o:=by
 cases o with
 | none=>
  obtain ⟨cl,h1⟩:=h
  exact ⟨cl,e.trans h1⟩
 | some v=>
  obtain ⟨bo,cl,h1⟩:=h
  exact ⟨bo,cl,e.trans h1⟩
theorem PtrMap.lt {b q:Nat} (h:PtrMap W b q o):b < W.heap.size:=by
 cases o with
 | none=>
  obtain ⟨cl,h1⟩:=h
  exact (Array.getElem?_eq_some_iff.1 h1).1
 | some v=>
  obtain ⟨bo,cl,h1⟩:=h
  exact (Array.getElem?_eq_some_iff.1 h1).1
theorem owns_of_block {b n:Nat} {k:TypeId} {Rd:Value→Option (DataW Unit × List MemPlace)} {D:DataW Unit} (h:W.ownsMap Tryz.prog k Rd b n D) (e:W'.heap[b]?=W.heap[b]?):W'.ownsMap Tryz.prog k Rd b n D:=by
 obtain ⟨es,cl,h1,h2⟩:=h
 exact ⟨es,cl,e.trans h1,h2⟩
theorem MacAt.move (h:MacAt W F m U R k c o inp out failed) {U' R' S:Nat→Prop} {k':Nat} {inp' out':Bts} {failed':Bool} (hk:Kept S W W') (hb:Blk W' m.mb (mcArr F m c') 218)
  (hi:InAt W' F U' R' m.ib k' inp' out' failed') (hU:∀ j,U j→U' j) (hS:∀ j,S j→j=m.mb∨((R j∨j=m.ib)∧¬ U j)) (hN:∀ j,R' j∨U' j→R j∨U j∨W.heap.size≤j):MacAt W' F m U' R' k' c' o inp' out' failed':=by
 have h2:∀ j,U j→j≠m.mb→¬ S j:=fun j hj hn hs=>(hS j hs).elim hn fun h1=>h1.2 hj
 have h3:∀ j,S j→m.M0 j∨m.W0.heap.size≤j:=fun j hj=>by
  rcases hS j hj with rfl | ⟨h1 | h1,-⟩
  ·exact h.new _ (.inr (.inl h.um.1))
  ·exact h.new _ (.inl h1)
  ·exact h.new _ (.inr (.inr h1))
 refine ⟨hb,hi,h.scr.kept hk fun j hj=>h2 j (h.sub j hj) fun e=>h.sm.1 (e ▸ hj),owns_of_block h.vm (hk.block _ h.vm.lt (h2 _ h.um.2.2 (Ne.symm h.dist.2.1))),h.om.of_block (hk.block _ h.om.lt (h2 _ h.um.2.1 (Ne.symm h.dist.1))),
  fun j hj=>hU j (h.sub j hj),⟨hU _ h.um.1,hU _ h.um.2.1,hU _ h.um.2.2⟩,h.sm,h.dist,h.base.trans' hk fun k hk2 hs=>(h3 k hs).elim id fun h4=>by omega,fun j hj=>?_⟩
 have h5:∀ j,R j∨U j∨W.heap.size≤j→m.M0 j∨m.W0.heap.size≤j:=fun j hj=>by
  rcases hj with h1 | h1 | h1
  ·exact h.new _ (.inl h1)
  ·exact h.new _ (.inr (.inl h1))
  ·exact .inr (Nat.le_trans h.base.size h1)
 rcases hj with h1 | h1 | h1
 ·exact h5 j (hN j (.inl h1))
 ·exact h5 j (hN j (.inr h1))
 ·exact h.new _ (.inr (.inr h1))
theorem MacAt.set (h:MacAt W F m U R k c o inp out failed) (i:Nat) (v:Value) (hc:(mcArr F m c).setIfInBounds i v=mcArr F m c'):MacAt (W.setCell ⟨m.mb,i,none⟩ v) F m U R k c' o inp out failed:=by
 have hk:Kept (fun j=>j=m.mb) W (W.setCell ⟨m.mb,i,none⟩ v):=(Kept.refl (fun j=>j=m.mb) W).setCell (.inl rfl) i v
 have hb:=Blk.set h.blk i v
 rw [hc] at hb
 exact h.move hk hb (h.ina.kept hk fun j e=>e ▸ h.um.1) (fun _ h=>h) (fun j hj=>.inl hj) fun j hj=>hj.elim .inl fun h=>.inr (.inl h)
theorem MacAt.below (h:MacAt W F m U R k c o inp out failed) (hb:Below W.heap.size W W'):MacAt W' F m U R k c o inp out failed:=
 h.move (Kept.of_below (S:=fun _=>False) hb) (Blk.keep h.blk hb (Blk.lt h.blk)) (h.ina.below hb) (fun _ h=>h) (fun _ h=>h.elim) fun _ hj=>hj.elim .inl fun h=>.inr (.inl h)
theorem MacAt.more_v (h:MacAt W F m U R k c o inp out failed) (hb:Below W.heap.size W W') {v:Value} (hv:∀ g,v.ownBlock=some g→W.heap.size≤g∧g < W'.heap.size):MacAt W' F m (fun j=>U j∨v.ownBlock=some j) R k c o inp out failed:=
 h.move (Kept.of_below (S:=fun _=>False) hb) (Blk.keep h.blk hb (Blk.lt h.blk)) (h.ina.more_v hb hv) (fun _ h=>.inl h) (fun _ h=>h.elim) fun j hj=>hj.elim .inl fun h=>.inr (h.elim .inl fun e=>.inr (hv j e).1)
theorem InAt.prw {ib:Nat} {tot:Bts} (h:InAt W F U R ib k tot out failed):∃ M inp,(∀ j,M j→R j)∧PrAt W F M inp out (errF failed)∧∀ W' M' out',PrAt W' F M' inp out' (errF failed)→Mv M M' W W'→∃ R',InAt W' F U R' ib k tot out' failed∧MvI R R' ib W W':=by
 rcases h.st with ⟨hk,hf,⟨g,c,hb,h1,h2,h3,h4,h5⟩,M,hM,h0⟩ | ⟨hk,hf,rd,M,hrd,hM,⟨p,c,hb⟩,hU,buf,o,feed,over,inp,hr,ht⟩ | ⟨hk,ht,⟨p,c,old,hb⟩,M,inp,hM,h0⟩
 ·refine ⟨M,tot,hM,by subst hf;exact h0,fun W' M' out' hp' hm=>?_⟩
  obtain ⟨hmv,hib,hlt,h00,hu⟩:=h.grow hM hm hp'
  have hgl:g < W.heap.size:=World.block_lt_of_cell? _ _ h2
  refine ⟨_,⟨.inl ⟨hk,hf,⟨g,c,Blk.kept hb hm.kept (fun e=>h.own.1 (hM _ e)),h1,(World.cell?_of_block (hm.kept.block g hgl fun e=>h3 (hM g e))).trans h2,fun e=>?_,h4,h5⟩,M',fun j hj=>.inr hj,by subst hf;exact hp'⟩,⟨hib,h.own.2⟩,hlt,h00,hu⟩,hmv⟩
  rcases e with e | e
  ·exact h3 e
  ·rcases hm.new g e with e | e
   ·exact h3 (hM g e)
   ·omega
 ·refine ⟨M,inp,hM,by subst hf;exact hr.pr,fun W' M' out' hp' hm=>?_⟩
  obtain ⟨hmv,hib,hlt,h00,hu⟩:=h.grow hM hm hp'
  obtain ⟨v,hrb,-⟩:=hr.blk
  refine ⟨_,⟨.inr (.inl ⟨hk,hf,rd,M',.inl hrd,fun j hj=>.inr hj,⟨p,c,Blk.kept hb hm.kept (fun e=>h.own.1 (hM _ e))⟩,fun a n c e=>hU a n c ?_,buf,o,feed,over,inp,⟨hr.toRdrW.pass (by subst hf;exact hp') hm,hr.over_⟩,ht⟩),⟨hib,h.own.2⟩,hlt,h00,hu⟩,hmv⟩
  rw [← e]
  exact (World.cell?_of_block (hm.kept.block rd (Blk.lt hrb) hr.own)).symm
 ·refine ⟨M,inp,hM,h0,fun W' M' out' hp' hm=>?_⟩
  obtain ⟨hmv,hib,hlt,h00,hu⟩:=h.grow hM hm hp'
  exact ⟨_,⟨.inr (.inr ⟨hk,ht,⟨p,c,old,Blk.kept hb hm.kept (fun e=>h.own.1 (hM _ e))⟩,M',inp,fun j hj=>.inr hj,hp'⟩),⟨hib,h.own.2⟩,hlt,h00,hu⟩,hmv⟩
theorem MacAt.prw (h:MacAt W F m U R k c o inp out failed):∃ M inp0,(∀ j,M j→R j)∧PrAt W F M inp0 out (errF failed)∧∀ W' M' out',PrAt W' F M' inp0 out' (errF failed)→Mv M M' W W'→∃ R',MacAt W' F m U R' k c o inp out' failed∧Kept (fun j=>R j∨j=m.ib) W W':=by
 obtain ⟨M,inp0,hM,hp,hb⟩:=h.ina.prw
 refine ⟨M,inp0,hM,hp,fun W' M' out' hp' hmv=>?_⟩
 obtain ⟨R',hi,hm⟩:=hb W' M' out' hp' hmv
 have hu:=h.ina.u0
 exact ⟨R',h.move hm.1 (Blk.kept h.blk hm.1 fun e=>e.elim (hu _ h.um.1).2.1 (hu _ h.um.1).2.2.1) hi (fun _ h=>h) (fun j hj=>.inr ⟨hj,fun hj2=>hj.elim (hu j hj2).2.1 (hu j hj2).2.2.1⟩) fun j hj=>hj.elim (fun h1=>(hm.2 j h1).imp id .inr) fun h=>.inr (.inl h),hm.1⟩
theorem MacAt.turn (h:MacAt W F m U R k c o inp out failed) {U' R':Nat→Prop} {k':Nat} {inp' out':Bts} {failed':Bool} (hi:InAt W' F U' R' m.ib k' inp' out' failed') (hm:MvI R R' m.ib W W') (hU:∀ j,U j→U' j) (hN:∀ j,U' j→U j∨W.heap.size≤j):MacAt W' F m U' R' k' c o inp' out' failed':=by
 have hu:=h.ina.u0
 exact h.move hm.1 (Blk.kept h.blk hm.1 fun e=>e.elim (hu _ h.um.1).2.1 (hu _ h.um.1).2.2.1) hi hU (fun j hj=>.inr ⟨hj,fun hj2=>hj.elim (hu j hj2).2.1 (hu j hj2).2.2.1⟩) fun j hj=>hj.elim (fun h1=>(hm.2 j h1).imp id .inr) fun h=>.inr (hN j h)
theorem MacAt.opened (h:MacAt W F m U R k c o inp out failed) {o':Option Int} (hg:W.grownBy W' (some m.mo)) (ho:PtrMap W' m.mo (m.qs.getD 0 0) o'):MacAt W' F m U R k c o' inp out failed:=by
 have hk:Kept (fun j=>some m.mo=some j) W W':=kept_grown (Kept.refl (fun _=>False) W) hg
 have h2:∀ j,j≠m.mo→¬ (some m.mo=some j):=fun j hj e=>hj (Option.some.inj e).symm
 exact ⟨Blk.kept h.blk hk (h2 _ h.dist.1),h.ina.kept hk fun j e=>Option.some.inj e ▸ h.um.2.1,h.scr.kept hk fun j hj=>h2 j fun e=>h.sm.2.1 (e ▸ hj),owns_of_block h.vm (hk.block _ h.vm.lt (h2 _ (Ne.symm h.dist.2.2))),ho,h.sub,h.um,h.sm,h.dist,
  h.base.trans' hk fun k hk2 e=>(h.new k (.inr (.inl (Option.some.inj e ▸ h.um.2.1)))).elim id fun h4=>by omega,h.new⟩
def opV (l:List Bool):Int:=if l.getD 0 false then 1 else 0
def Mst (W:World) (F:Fx) (m:Mfx) (q:Sd.St):Prop:=∃ (U R:Nat→Prop) (k:Nat) (c:Mcl) (o:Option Int),MacAt W F m U R k c o q.inp q.out q.failed∧Sl W (PatB U m) c.pv q.pat∧Sl W (PatB U m) c.hv q.hold ∧
 c.n=q.n∧c.jumps=q.jumps∧c.joined=q.joined∧c.done=q.done∧c.over=q.over∧o.getD 0=opV q.opens ∧
 (0≤c.extra∧c.extra≤1000000)∧q.n+q.inp.length≤100000∧q.pat.length≤200000∧q.hold.length≤200000∧q.jumps≤2000∧q.out.length≤4294967296
theorem Sl.patB {v:Value} {xs:Bts} (h:Sl W (PatB U m) v xs) (hk:Kept (fun j=>j=m.mb∨j=m.mo∨¬ U j) W W'):Sl W' (PatB U m) v xs:=
 h.kept hk fun _ _ hg e=>e.elim hg.2.1 fun e=>e.elim hg.2.2 fun e=>e hg.1
theorem Sl.grow {v:Value} {xs:Bts} {U':Nat→Prop} (h:Sl W (PatB U m) v xs) (hU:∀ j,U j→U' j):Sl W (PatB U' m) v xs:=h.mono fun g _ hg=>⟨hU g hg.1,hg.2⟩
theorem MacAt.pats (h:MacAt W F m U R k c o inp out failed) {v:Value} {xs:Bts} (hs:Sl W (PatB U m) v xs) (hk:Kept (fun j=>R j∨j=m.ib) W W'):Sl W' (PatB U m) v xs:=
 hs.kept hk fun g _ hg e=>e.elim (h.ina.u0 g hg.1).2.1 (h.ina.u0 g hg.1).2.2.1
end Go.Proofs.YtefpcacnblaokaaGreatDoor

/-
  The walks of a machine's tell, flush, again and space. Conditions: the machine lies in memory; what is told is short enough.
-/
set_option maxRecDepth 100000
set_option maxHeartbeats 2000000
namespace Go.Proofs.YtefpcacnblaokaaGreatDoor
open Go.RowKit Go.Shelf Go.Maps
variable {W W':World} {F:Fx} {m:Mfx} {U R:Nat→Prop} {k:Nat} {c c':Mcl} {o:Option Int} {inp out:Bts} {failed:Bool}
theorem sl_conv {w1:World} {M:Nat→Prop} {b:Nat} {s:Bts} {c1:Nat} (hbs:Bs w1 (some ⟨b,0,none⟩) s) (hcl:s.length≤c1) (hlt:b < w1.heap.size) (hM:¬ M b):Sl w1 (fun g=>¬ M g) (.slice (some ⟨b,0,none⟩) s.length c1) s:=by
 refine .inr ⟨b,0,c1,rfl,hcl,hlt,hM,fun i hi=>hbs.at i hi⟩
theorem tell_any (s:Bts) (w:World) (h:MacAt w F m U R k c o inp out failed) (hb:out.length+s.length≤4294967296) :
  Calls Tryz.prog 162 #[.pointer (some ⟨m.mb,0,none⟩),.string ⟨s.toArray⟩] w fun e w'=>e=.returned (.int .i64 0)∧∃ R',MacAt w' F m U R' k c o inp (out ++ s) failed∧Kept (fun j=>R j∨j=m.ib) w w':=by
 have c0:=Blk.cell h.blk 0 (v:=.pointer (some ⟨F.p,0,none⟩)) rfl
 obtain ⟨c1,w1,hcv,hcl,hb1,hbs,hlt⟩:=conv_facts s w
 have h1:=h.below hb1
 obtain ⟨M,inp0,hM,hp,hback⟩:=h1.prw
 have hMn:¬ M w.heap.size:=fun e=>by
  have:=h.ina.lt _ (hM _ e)
  omega
 have hwr:=wrAll_any1 F M inp0 out _ s _ w1 hp (sl_conv hbs hcl hlt hMn) hb
 have HB:=Lib.hid hback
 have HB1:=Lib.hid hb1
 clear h h1 hp hback hb1 hbs hM hMn
 go_enter Tryz.func162,Tryz.ntmps162
 go_wp2_with fail
 refine hwr.mono ?_
 rintro e w2 ⟨rfl,M',hp2,hm2⟩
 have HP2:=Lib.hid hp2
 have HM2:=Lib.hid hm2
 clear hwr hp2 hm2
 go_wp2_with fail
 go_ret
 obtain ⟨R',h2,hk⟩:=HB.out _ _ _ HP2.out HM2.out
 exact ⟨rfl,R',h2,(Kept.of_below HB1.out).trans hk⟩
theorem flush_any (w:World) (h:MacAt w F m U R k c o inp out failed) (hb:out.length≤4294967296) :
  Calls Tryz.prog 163 #[.pointer (some ⟨m.mb,0,none⟩)] w fun e w'=>e=.returned (.int .i64 0)∧∃ R',MacAt w' F m U R' k c o inp out failed∧Kept (fun j=>R j∨j=m.ib) w w':=by
 have c11:=Blk.cell h.blk 11 (v:=.string ⟨#[]⟩) rfl
 have f11:=Blk.free h.blk 11
 have hs:=set_same h.blk (i:=11) (v:=.string ⟨#[]⟩) rfl
 have ht:=tell_any [] _ (h.below hs) (by simpa using hb)
 have HS:=Lib.hid hs
 clear h hs
 go_enter Tryz.func163,Tryz.ntmps163
 go_wp2_with fail
 refine ht.mono ?_
 rintro e w2 ⟨rfl,R',h2,hk⟩
 rw [List.append_nil] at h2
 have H2:=Lib.hid h2
 have HK:=Lib.hid hk
 clear ht h2 hk
 go_wp2_with fail
 go_ret
 exact ⟨rfl,R',H2.out,(Kept.of_below HS.out).trans HK.out⟩
theorem tell_st (s:Bts) {q q2:Sd.St} (w:World) (h:Mst w F m q) (ht:Sd.tell s q=some q2) :
  Calls Tryz.prog 162 #[.pointer (some ⟨m.mb,0,none⟩),.string ⟨s.toArray⟩] w fun e w'=>e=.returned (.int .i64 0)∧Mst w' F m q2:=by
 obtain ⟨U,R,k,c,o,hm,hp,hh,h1⟩:=h
 unfold Sd.tell at ht
 split at ht
 ·rename_i hb
  obtain rfl:=Option.some.inj ht
  refine (tell_any s w hm hb).mono ?_
  rintro e w' ⟨rfl,R',hm',hk⟩
  obtain ⟨a1,a2,a3,a4,a5,a6,a7,a8,a9,a10,a11,-⟩:=h1
  exact ⟨rfl,U,R',k,c,o,hm',hm.pats hp hk,hm.pats hh hk,a1,a2,a3,a4,a5,a6,a7,a8,a9,a10,a11,by rw [List.length_append];exact hb⟩
 ·cases ht
theorem flush_st {q:Sd.St} (w:World) (h:Mst w F m q) :
  Calls Tryz.prog 163 #[.pointer (some ⟨m.mb,0,none⟩)] w fun e w'=>e=.returned (.int .i64 0)∧Mst w' F m q:=by
 obtain ⟨U,R,k,c,o,hm,hp,hh,h1⟩:=h
 refine (flush_any w hm h1.2.2.2.2.2.2.2.2.2.2.2).mono ?_
 rintro e w' ⟨rfl,R',hm',hk⟩
 exact ⟨rfl,U,R',k,c,o,hm',hm.pats hp hk,hm.pats hh hk,h1⟩
theorem Sl.stored {v:Value} {xs:Bts} (h:Sl W (PatB U m) v xs) (i:Nat) (x:Value):Sl (W.setCell ⟨m.mb,i,none⟩ x) (PatB U m) v xs:=
 h.patB ((Kept.refl (fun j=>j=m.mb∨j=m.mo∨¬ U j) W).setCell (.inl (.inl rfl)) i x)
theorem again_st {q:Sd.St} (w:World) (h:Mst w F m q) (hj:q.jumps+1≤1000) :
  Calls Tryz.prog 215 #[.pointer (some ⟨m.mb,0,none⟩)] w fun e w'=>e=.returned (.int .i64 0)∧Mst w' F m { q with jumps:=q.jumps+1 }:=by
 obtain ⟨U,R,k,c,o,hm,hp,hh,h1,h2,h3⟩:=h
 have c13:=Blk.cell hm.blk 13 (v:=.int .i64 c.jumps) rfl
 have f13:=Blk.free hm.blk 13
 have hs:=hm.set (c':={ c with jumps:=(q.jumps:Int)+1 }) 13 (.int .i64 ((q.jumps:Int)+1)) rfl
 have hps:=hp.stored 13 (.int .i64 ((q.jumps:Int)+1))
 have hhs:=hh.stored 13 (.int .i64 ((q.jumps:Int)+1))
 have d13:=Blk.cell hs.blk 13 (v:=.int .i64 ((q.jumps:Int)+1)) rfl
 rw [h2] at c13
 have hwr:IntKind.i64.wrap ((q.jumps:Int)+1)=(q.jumps:Int)+1:=by rw [IntKind.wrap_i64];omega
 have hgt:¬ (1000:Int) < (q.jumps:Int)+1:=by omega
 have HS:=Lib.hid hs
 have HP:=Lib.hid hps
 have HH:=Lib.hid hhs
 have H1:=Lib.hid h1
 have H3:=Lib.hid h3
 clear hm hp hh h1 h2 h3 hs hps hhs
 go_enter Tryz.func215,Tryz.ntmps215
 go_wp2_with fail
 go_ret
 obtain ⟨a1,a2,a3,a4,a5,a6,a7,a8,-,a9⟩:=H3.out
 exact ⟨rfl,U,R,k,_,o,HS.out,HP.out,HH.out,H1.out,by simp,a1,a2,a3,a4,a5,a6,a7,a8,by show q.jumps+1≤2000;omega,a9⟩
theorem space_st {q:Sd.St} (w:World) {v:Value} {xs:Bts} (h:∃ U R k c o,MacAt w F m U R k c o q.inp q.out q.failed∧Sl w (PatB U m) v xs∧Sl w (PatB U m) c.hv q.hold∧c.n=q.n∧c.jumps=q.jumps∧c.joined=q.joined∧c.done=q.done∧c.over=q.over∧o.getD 0=opV q.opens ∧
   (0≤c.extra∧c.extra≤1000000)∧q.n+q.inp.length≤100000∧q.hold.length≤200000∧q.jumps≤2000∧q.out.length≤4294967296) (hx:xs.length≤8192) :
  Calls Tryz.prog 216 #[.pointer (some ⟨m.mb,0,none⟩),v] w fun e w'=>e=.returned (.int .i64 0)∧Mst w' F m { q with pat:=xs }:=by
 obtain ⟨U,R,k,c,o,hm,hp,hh,h1⟩:=h
 have f7:=Blk.free hm.blk 7
 have c7:=Blk.cell hm.blk 7 (v:=c.pv) rfl
 have hs:=hm.set (c':={ c with pv:=v }) 7 v rfl
 have hps:=hp.stored 7 v
 have hhs:=hh.stored 7 v
 obtain ⟨p,cp,rfl,-,-⟩:=hp.bs
 have hle:¬ (8192:Int) < (xs.length:Int):=by omega
 have HS:=Lib.hid hs
 have HP:=Lib.hid hps
 have HH:=Lib.hid hhs
 have H1:=Lib.hid h1
 clear hm hp hh h1 hs hps hhs
 go_enter Tryz.func216,Tryz.ntmps216
 go_wp2_with fail
 go_ret
 obtain ⟨a0,a1,a2,a3,a4,a5,a6,a7,a8,a9⟩:=H1.out
 exact ⟨rfl,U,R,k,_,o,HS.out,HP.out,HH.out,a0,a1,a2,a3,a4,a5,a6,a7,by show xs.length≤200000;omega,a8,a9⟩
end Go.Proofs.YtefpcacnblaokaaGreatDoor

/-
  The walks of a machine's held and read. Conditions: the machine lies in memory; a process called sed.
-/
set_option maxRecDepth 100000
set_option maxHeartbeats 4000000
namespace Go.Proofs.YtefpcacnblaokaaGreatDoor
open Go.RowKit Go.Shelf Go.Maps
variable {W W':World} {F:Fx} {m:Mfx} {U R:Nat→Prop} {k:Nat} {c c':Mcl} {o:Option Int} {inp out:Bts} {failed:Bool}
theorem wrap_i64 {x:Int} (h1:-9223372036854775808≤x) (h2:x≤9223372036854775807):IntKind.i64.wrap x=x:=by rw [IntKind.wrap_i64];omega
theorem held_st {q:Sd.St} (w:World) (h:Mst w F m q) :
  Calls Tryz.prog 160 #[.pointer (some ⟨m.mb,0,none⟩)] w fun e w'=>(∃ v,e=.returned v)∧Mst w' F m q:=by
 obtain ⟨U,R,k,c,o,hm,hp,hh,h1,h2,h3,h4,h5,h6,h7,h8,h9,h10,h11⟩:=h
 have c0:=Blk.cell hm.blk 0 (v:=.pointer (some ⟨F.p,0,none⟩)) rfl
 have c7:=Blk.cell hm.blk 7 (v:=c.pv) rfl
 have c8:=Blk.cell hm.blk 8 (v:=c.hv) rfl
 have c9:=Blk.cell hm.blk 9 (v:=.bool c.joined) rfl
 have c10:=Blk.cell hm.blk 10 (v:=.int .i64 c.extra) rfl
 have HP:=Lib.hid hp
 have HH:=Lib.hid hh
 have HM:=Lib.hid hm
 have HE:=Lib.hid h7
 have H1:=Lib.hid (And.intro h1 (And.intro h2 (And.intro h3 (And.intro h4 (And.intro h5 (And.intro h6 (And.intro h8 (And.intro h9 (And.intro h10 h11)))))))))
 obtain ⟨pp,pc,hpv,-,-⟩:=hp.bs
 obtain ⟨ph,hc,hhv,-,-⟩:=hh.bs
 rw [hpv] at c7
 rw [hhv] at c8
 rw [h3] at c9
 have l1:(q.pat.length:Int)≤200000:=by omega
 have l2:(q.hold.length:Int)≤200000:=by omega
 have hwr:IntKind.i64.wrap ((q.hold.length:Int)+(q.pat.length:Int))=(q.hold.length:Int)+(q.pat.length:Int):=wrap_i64 (by omega) (by omega)
 clear h1 h2 h3 h4 h5 h6 h8 h9 h10 h11 hpv hhv
 obtain ⟨N,hN,hN1,hN2⟩:∃ N:Int,N=(if q.joined then (q.hold.length:Int)+(q.pat.length:Int) else (q.hold.length:Int))∧0≤N∧N≤400000:=⟨_,rfl,by split <;> omega,by split <;> omega⟩
 have hw1:IntKind.i64.wrap (c.extra - N)=c.extra - N:=wrap_i64 (by omega) (by omega)
 have hw2:IntKind.i64.wrap (N - c.extra)=N - c.extra:=wrap_i64 (by omega) (by omega)
 have b0:∀ w':World,Below w.heap.size w w'→w'.cell? ⟨m.mb,0,none⟩=some (.pointer (some ⟨F.p,0,none⟩))∧w'.cell? ⟨m.mb,10,none⟩=some (.int .i64 c.extra):=fun w' hb=>⟨(HM.out.below hb).blk.cell 0 rfl,(HM.out.below hb).blk.cell 10 rfl⟩
 have HB0:=Lib.hid b0
 have hlt:=hm.blk.lt
 clear b0 hm hp hh h7
 have fin:∀ w2:World,(∃ R2,MacAt w2 F m U R2 k c o q.inp q.out q.failed∧Sl w2 (PatB U m) c.pv q.pat∧Sl w2 (PatB U m) c.hv q.hold)→Mst (w2.setCell ⟨m.mb,10,none⟩ (.int .i64 N)) F m q:=by
  rintro w2 ⟨R2,hm2,hp2,hh2⟩
  obtain ⟨h1,h2,h3,h4,h5,h6,h8,h9,h10,h11⟩:=H1.out
  exact ⟨U,R2,k,{ c with extra:=N },o,hm2.set 10 _ rfl,hp2.stored 10 _,hh2.stored 10 _,h1,h2,h3,h4,h5,h6,⟨hN1,by show N≤1000000;omega⟩,h8,h9,h10,h11⟩
 have HFIN:=Lib.hid fin
 clear fin
 have hdrop:∀ n:Int,Calls Tryz.prog 208 #[.pointer (some ⟨F.p,0,none⟩),.int .i64 n] w.drew fun e w'=>(∃ v,e=.returned v)∧∃ R2,MacAt w' F m U R2 k c o q.inp q.out q.failed∧Sl w' (PatB U m) c.pv q.pat∧Sl w' (PatB U m) c.hv q.hold:=fun n=>by
  have hm1:=HM.out.below (below_drew2 w)
  obtain ⟨M,inp0,hM,hpr,hback⟩:=hm1.prw
  refine (dropZ_any F M inp0 q.out _ w.drew hpr n).mono ?_
  rintro e w' ⟨he,hp1,hk1⟩
  obtain ⟨R2,hm2,hk2⟩:=hback w' M q.out hp1 ⟨hk1,fun _ h=>.inl h⟩
  exact ⟨he,R2,hm2,hm1.pats (HP.out.below (below_drew2 w)) hk2,hm1.pats (HH.out.below (below_drew2 w)) hk2⟩
 have HDROP:=Lib.hid hdrop
 clear hdrop
 have hhold:∀ (w1:World),(∃ R2,MacAt w1 F m U R2 k c o q.inp q.out q.failed∧Sl w1 (PatB U m) c.pv q.pat∧Sl w1 (PatB U m) c.hv q.hold)→∀ n:Int,Calls Tryz.prog 223 #[.pointer (some ⟨F.p,0,none⟩),.int .i64 n] w1.drew fun e w'=>(∃ v,e=.returned v)∧∃ R2,MacAt w' F m U R2 k c o q.inp q.out q.failed∧Sl w' (PatB U m) c.pv q.pat∧Sl w' (PatB U m) c.hv q.hold:=by
  rintro w1 ⟨R1,hm0,hp0,hh0⟩ n
  have hm1:=hm0.below (below_drew2 w1)
  obtain ⟨M,inp0,hM,hpr,hback⟩:=hm1.prw
  refine (holdZ_any F M inp0 q.out _ w1.drew hpr n).mono ?_
  rintro e w' ⟨he,hp1,hk1⟩
  obtain ⟨R2,hm2,hk2⟩:=hback w' M q.out hp1 ⟨hk1,fun _ h=>.inl h⟩
  exact ⟨he,R2,hm2,hm1.pats (hp0.below (below_drew2 w1)) hk2,hm1.pats (hh0.below (below_drew2 w1)) hk2⟩
 have HHOLD:=Lib.hid hhold
 clear hhold
 cases hj:q.joined
 all_goals
  rw [hj] at c9 hN
  simp only [if_true,if_false,Bool.false_eq_true] at hN
  have HN:=Lib.hid hN
  clear hN
  go_enter Tryz.func160,Tryz.ntmps160
  go_upto_region 3 with fail
  rw [← HN.out]
  clear c7 c8 c9 hwr
  have hcc:=HB0.out w (Below.refl _ _)
  go_region_held3 (fun w'=>w'.cell? ⟨m.mb,0,none⟩=some (.pointer (some ⟨F.p,0,none⟩))∧w'.cell? ⟨m.mb,10,none⟩=some (.int .i64 c.extra)) (first | go_keep | exact HC.out)
   ((go_at_call 208;refine (HDROP.out _).mono ?_;rintro e w1 ⟨⟨u,rfl⟩,hx1⟩;have HC:=Lib.hid (show w1.cell? ⟨m.mb,0,none⟩=some (.pointer (some ⟨F.p,0,none⟩))∧w1.cell? ⟨m.mb,10,none⟩=some (.int .i64 c.extra) from by
    obtain ⟨R2,hm2,-⟩:=hx1
    exact ⟨hm2.blk.cell 0 rfl,hm2.blk.cell 10 rfl⟩);have HX1:=Lib.hid hx1;clear hx1))
  obtain ⟨d0,d10⟩:=HC.out
  clear c0 c10
  go_upto_region 4 with fail
  go_region_held3 (fun w'=>w'.cell? ⟨m.mb,0,none⟩=some (.pointer (some ⟨F.p,0,none⟩))∧w'.cell? ⟨m.mb,10,none⟩=some (.int .i64 c.extra)) (first | go_keep | exact HC2.out)
   ((go_at_call 223;refine (HHOLD.out w1 HX1.out _).mono ?_;rintro e w2 ⟨⟨u2,rfl⟩,hx2⟩;have HC2:=Lib.hid (show w2.cell? ⟨m.mb,0,none⟩=some (.pointer (some ⟨F.p,0,none⟩))∧w2.cell? ⟨m.mb,10,none⟩=some (.int .i64 c.extra) from by
    obtain ⟨R2,hm2,-⟩:=hx2
    exact ⟨hm2.blk.cell 0 rfl,hm2.blk.cell 10 rfl⟩);have HX2:=Lib.hid hx2;clear hx2))
  clear d0 d10
  obtain ⟨e0,e10⟩:=HC2.out
  have f10:w2.frozen? ⟨m.mb,10,none⟩=false:=by
   obtain ⟨R2,hm2,-⟩:=HX2.out
   exact hm2.blk.free 10
  go_wp2_with fail
  exact bodyPost_end (results_none rfl _ _ _) rfl ⟨⟨_,rfl⟩,HFIN.out w2 HX2.out⟩
def ReadIn (F:Fx) (m:Mfx) (q:Sd.St) (e:Ending) (w':World):Prop:=match Sd.readL F.line q with
 | (none,t)=>e=.returned (.tuple #[.slice none 0 0,.bool false])∧Mst w' F m t
 | (some b,t)=>∃ v,e=.returned (.tuple #[v,.bool true])∧∃ U R k c o,MacAt w' F m U R k c o t.inp t.out t.failed∧Sl w' (PatB U m) v b∧Sl w' (PatB U m) c.pv q.pat∧Sl w' (PatB U m) c.hv q.hold∧c.n=t.n∧c.jumps=0∧c.joined=q.joined∧c.done=q.done∧c.over=q.over∧o.getD 0=opV q.opens ∧
    (0≤c.extra∧c.extra≤1000000)∧t.n+t.inp.length≤100000∧q.pat.length≤200000∧q.hold.length≤200000∧b.length≤100000∧t.out.length≤4294967296
theorem mread_st (rest:List Bts) (ha:F.args=tagSed :: rest) {q:Sd.St} (w:World) (h:Mst w F m q) :
  Calls Tryz.prog 159 #[.pointer (some ⟨m.mb,0,none⟩)] w fun e w'=>ReadIn F m q e w':=by
 obtain ⟨U,R,k,c,o,hm,hp,hh,h1,h2,h3,h4,h5,h6,h7,h8,h9,h10,h11⟩:=h
 have c1:=Blk.cell hm.blk 1 (v:=.pointer (some ⟨m.ib,0,none⟩)) rfl
 have hnx:=next_any F rest ha U R m.ib k q.inp q.out q.failed (by omega) w hm.ina
 have HP:=Lib.hid hp
 have HH:=Lib.hid hh
 have HM:=Lib.hid hm
 have H1:=Lib.hid (And.intro h1 (And.intro h2 (And.intro h3 (And.intro h4 (And.intro h5 (And.intro h6 (And.intro h7 (And.intro h8 (And.intro h9 (And.intro h10 h11))))))))))
 have hwr:IntKind.i64.wrap ((q.n:Int)+1)=(q.n:Int)+1:=wrap_i64 (by omega) (by omega)
 clear hm hp hh h2 h3 h4 h5 h6 h7 h8 h9 h10 h11
 unfold NextIn at hnx
 unfold ReadIn Sd.readL
 by_cases he:q.inp=[]
 ·rw [if_pos (show q.inp.isEmpty=true by rw [he];rfl)]
  go_enter Tryz.func159,Tryz.ntmps159
  go_wp2_with fail
  refine hnx.mono ?_
  rintro e w1 (⟨-,rfl,R1,hi1,hm1⟩ | ⟨hne,-⟩ | ⟨hne,-⟩)
  ·have HI1:=Lib.hid hi1
   have HM1:=Lib.hid hm1
   clear hnx hi1 hm1
   go_wp2_with fail
   go_ret2
   obtain ⟨h1,h2,h3,h4,h5,h6,h7,h8,h9,h10,h11⟩:=H1.out
   have hk:=HM1.out.1
   exact ⟨rfl,U,R1,0,c,o,by rw [he];exact HM.out.turn HI1.out HM1.out (fun _ h=>h) fun _ h=>.inl h,HM.out.pats HP.out hk,HM.out.pats HH.out hk,h1,h2,h3,h4,h5,h6,h7,h8,h9,h10,h11⟩
  ·exact absurd he hne
  ·exact absurd he hne
 ·have hie:q.inp.isEmpty=false:=by
   cases hx:q.inp with
   | nil=>exact absurd hx he
   | cons a b=>rfl
  rw [if_neg (show ¬ q.inp.isEmpty=true by rw [hie];simp)]
  by_cases hl:F.line < (Wi.lineOf q.inp).1.length
  ·rw [if_pos hl]
   go_enter Tryz.func159,Tryz.ntmps159
   go_wp2_with fail
   refine hnx.mono ?_
   rintro e w1 (⟨h0,-⟩ | ⟨-,-,rfl,R1,hi1,hm1⟩ | ⟨-,hle,-⟩)
   ·exact absurd h0 he
   ·have HI1:=Lib.hid hi1
    have HM1:=Lib.hid hm1
    clear hnx hi1 hm1
    go_wp2_with fail
    go_ret2
    obtain ⟨h1,h2,h3,h4,h5,h6,h7,h8,h9,h10,h11⟩:=H1.out
    have hk:=HM1.out.1
    exact ⟨rfl,U,R1,0,c,o,HM.out.turn HI1.out HM1.out (fun _ h=>h) fun _ h=>.inl h,HM.out.pats HP.out hk,HM.out.pats HH.out hk,h1,h2,h3,h4,h5,h6,h7,by show q.n+0≤100000;omega,h9,h10,h11⟩
   ·omega
  ·rw [if_neg hl]
   go_enter Tryz.func159,Tryz.ntmps159
   go_wp2_with fail
   refine hnx.mono ?_
   rintro e w1 (⟨h0,-⟩ | ⟨-,hlt,-⟩ | ⟨-,hle,v,rfl,hown,R1,k1,hi1,hm1⟩)
   ·exact absurd h0 he
   ·omega
   ·have hvb:∀ g,v.ownBlock=some g→w.heap.size≤g:=fun g e=>(hown.lt g e).1
    have hmac:=HM.out.turn hi1 hm1 (fun _ h=>.inl h) fun j hj=>hj.elim .inl fun e=>.inr (hvb j e)
    have hk:=hm1.1
    have hp1:=(HM.out.pats HP.out hk).grow (U':=fun j=>U j∨v.ownBlock=some j) fun _ h=>.inl h
    have hh1:=(HM.out.pats HH.out hk).grow (U':=fun j=>U j∨v.ownBlock=some j) fun _ h=>.inl h
    have hmlt:m.mb < w.heap.size∧m.mo < w.heap.size:=⟨HM.out.blk.lt,HM.out.om.lt⟩
    have hv1:Sl w1 (PatB (fun j=>U j∨v.ownBlock=some j) m) v (Wi.lineOf q.inp).1:=(Sl.own hown).mono fun g _ hg=>⟨.inr hg.2,fun e=>by omega,fun e=>by omega⟩
    obtain ⟨vp,vc,rfl,-,-⟩:=id hv1.bs
    have c6:=Blk.cell hmac.blk 6 (v:=.int .i64 c.n) rfl
    have f6:=Blk.free hmac.blk 6
    have hs1:=hmac.set (c':={ c with n:=(q.n:Int)+1 }) 6 (.int .i64 ((q.n:Int)+1)) rfl
    have d13:=Blk.cell hs1.blk 13 (v:=.int .i64 c.jumps) rfl
    have g13:=Blk.free hs1.blk 13
    have hs2:=hs1.set (c':={ c with n:=(q.n:Int)+1,jumps:=0 }) 13 (.int .i64 0) rfl
    have hx:=Lib.hid (And.intro (((hv1.stored 6 (.int .i64 ((q.n:Int)+1))).stored 13 (.int .i64 0))) (And.intro (((hp1.stored 6 (.int .i64 ((q.n:Int)+1))).stored 13 (.int .i64 0))) (((hh1.stored 6 (.int .i64 ((q.n:Int)+1))).stored 13 (.int .i64 0)))))
    rw [h1] at c6
    have HS2:=Lib.hid hs2
    have HLE:=Lib.hid hle
    clear hnx hi1 hm1 hown hvb hmac hk hp1 hh1 hv1 hs1 hs2 hle
    go_wp2_with fail
    go_ret2
    obtain ⟨h1,h2,h3,h4,h5,h6,h7,h8,h9,h10,h11⟩:=H1.out
    have hall:=Sd.lineOf_all q.inp
    have hlt:=Sd.lineOf_lt q.inp he
    exact ⟨_,rfl,_,R1,k1,_,o,HS2.out,hx.out.1,hx.out.2.1,hx.out.2.2,by simp,rfl,h3,h4,h5,h6,h7,by show q.n+1+(Wi.lineOf q.inp).2.2.length≤100000;omega,h9,h10,by omega,h11.2⟩
end Go.Proofs.YtefpcacnblaokaaGreatDoor

/-
  The walks of slices.Grow, slices.Concat of three, joinedBy. Conditions: what is put together lies in memory; fewer bytes than a million.
-/
set_option maxRecDepth 100000
set_option maxHeartbeats 4000000
namespace Go.Proofs.YtefpcacnblaokaaGreatDoor
open Go.RowKit Go.Shelf Go.Maps
theorem append_zeros {ops:Array Oper} {rest:List Oper} {o:Oper} {a:Act} {w:World} {Q:Exit→Act→World→Prop} (hgd:o.guard=none) (s x:Operand)
  (ho:o.op=.call { callee:=.builtin .append,args:=#[s,x],argTypes:=#[22,3] }) (hs:a.eval s=.slice none 0 0) (n:Nat) (hx:a.eval x=.int .i64 n) (h0:0 < n) (hn:n≤4294967296)
  (h:∀ cap cs w',n≤cap→cap≤maxLen→cs.size=cap→Blk w' w.heap.size cs 5→Below w.heap.size w w'→wpList Tryz.prog ops Q rest (a.put o.dst (.slice (some ⟨w.heap.size,0,none⟩) n cap)) w'):wpList Tryz.prog ops Q (o :: rest) a w:=by
 obtain ⟨i0,hi,hz0,hz1,hz2⟩:=info_parts info_byte
 have hr:=Lib.run_append_nil_zeros (P:=Tryz.prog) w 22 3 o.type 5 i0 (.int .u8 0) .i64 .i64 Tryz.underlying22 Tryz.underlying3 hi hz0 n h0 (by rw [hz1];decide) (by omega) (by rw [hz2];omega)
 refine wpList_plain hgd fun K hK=>?_
 unfold Oper.wp execOp
 simp only [ho,resolve,invoke,builtin,Sem.run_bind,Sem.run_pure,Result.andThen_ok,List.map_toArray,List.map_cons,List.map_nil,hs,hx,hr]
 refine hK _ _ (h _ _ _ (grownCap_ge _ _ _ _) (grownCap_le_maxLen _ _ _ _ (by unfold maxLen;omega)) ?_ (by simpa using Blk.new w.drew _ 5) ((below_drew2 w).alloc (Nat.le_refl _) _))
 have hge:=grownCap_ge w n 0 5
 simp only [Array.size_append,size_zeroCells,show (Value.int .u8 0).cells.size=1 from rfl]
 omega
theorem grow_any (n:Nat) (h0:0 < n) (hn:n≤1000000) (w:World) :
  Calls Tryz.prog 301 #[.slice none 0 0,.int .i64 n] w fun e w'=>∃ c,e=.returned (.slice (some ⟨w.heap.size,0,none⟩) 0 c)∧w'.ownsRow w.heap.size 5 1 (.slice (some ⟨w.heap.size,0,none⟩) 0 c) 0 []∧Below w.heap.size w w':=by
 have hw1:IntKind.i64.wrap (n:Int)=n:=wrap_i64 (by omega) (by omega)
 have h1:¬ ((n:Int) < 0):=by omega
 have h2:(0:Int) < n:=by omega
 have h3:¬ ((n:Int)=0):=by omega
 have h4:¬ n=0:=by omega
 go_enter Tryz.func301,Tryz.ntmps301
 go_wp2_with (at_builtin;refine append_zeros rfl _ _ rfl rfl n rfl h0 (by omega) ?_;intro cap cs w1 hc1 hc2 hc3 hb1 hbw1;have HC1:=Lib.hid hc1;have HC2:=Lib.hid hc2;have HC3:=Lib.hid hc3;have HB1:=Lib.hid hb1;have HBW:=Lib.hid hbw1;clear hc1 hc2 hc3 hb1 hbw1)
 go_ret
 exact ⟨cap,rfl,⟨rfl,.inr ⟨w.heap.size,cap,cs,rfl,Nat.le_refl _,HB1.out,Nat.zero_le _,HC2.out,by rw [HC3.out,Nat.mul_one],rfl⟩⟩,HBW.out⟩
theorem concat_any (N:Nat→Prop) (b:Nat) (v1 v2 v3:Value) (x1 x2 x3:Bts) (w:World) (hb:Blk w b #[v1,v2,v3] 22) (h1:Sl w N v1 x1) (h2:Sl w N v2 x2) (h3:Sl w N v3 x3) (hl:x1.length+x2.length+x3.length≤500000) (h0:0 < x2.length) :
  Calls Tryz.prog 265 #[.slice (some ⟨b,0,none⟩) 3 3] w fun e w'=>∃ v,e=.returned v∧w'.ownsRow w.heap.size 5 1 v (x1.length+x2.length+x3.length) (x1.map u8V ++ x2.map u8V ++ x3.map u8V)∧Below w.heap.size w w':=by
 obtain ⟨p1,c1,rfl,b1,-⟩:=id h1.bs
 obtain ⟨p2,c2,rfl,b2,-⟩:=id h2.bs
 obtain ⟨p3,c3,rfl,b3,-⟩:=id h3.bs
 have d0:=hb.cell 0 (v:=.slice p1 x1.length c1) rfl
 have d1:=hb.cell 1 (v:=.slice p2 x2.length c2) rfl
 have d2:=hb.cell 2 (v:=.slice p3 x3.length c3) rfl
 have hw1:IntKind.i64.wrap (x1.length:Int)=x1.length:=wrap_i64 (by omega) (by omega)
 have hw2:IntKind.i64.wrap ((x1.length:Int)+(x2.length:Int))=(x1.length:Int)+(x2.length:Int):=wrap_i64 (by omega) (by omega)
 have hw3:IntKind.i64.wrap ((x1.length:Int)+(x2.length:Int)+(x3.length:Int))=(x1.length:Int)+(x2.length:Int)+(x3.length:Int):=wrap_i64 (by omega) (by omega)
 have n1:¬ ((x1.length:Int) < 0):=by omega
 have n2:¬ ((x1.length:Int)+(x2.length:Int) < 0):=by omega
 have n3:¬ ((x1.length:Int)+(x2.length:Int)+(x3.length:Int) < 0):=by omega
 have hgr:=grow_any (x1.length+x2.length+x3.length) (by omega) (by omega) w
 rw [show (((x1.length+x2.length+x3.length:Nat)):Int)=(x1.length:Int)+(x2.length:Int)+(x3.length:Int) by omega] at hgr
 have HB:=Lib.hid hb
 have B1:=Lib.hid b1
 have B2:=Lib.hid b2
 have B3:=Lib.hid b3
 clear hb h1 h2 h3 b1 b2 b3
 go_enter Tryz.func265,Tryz.ntmps265
 go_wp2_with fail
 go_loopw [3,5,11] (fun x3' _x5 x11 wr=>wr=w∧((x11=.int .i64 0∧x3'=.int .i64 0)∨(x11=.int .i64 1∧x3'=.int .i64 (x1.length:Int))∨(x11=.int .i64 2∧x3'=.int .i64 ((x1.length:Int)+(x2.length:Int)))∨(x11=.int .i64 3∧x3'=.int .i64 ((x1.length:Int)+(x2.length:Int)+(x3.length:Int))))) (fun _ _ x11 _=>3 - (intOf x11).toNat)
 case atStart=>exact ⟨rfl,.inl ⟨rfl,rfl⟩⟩
 case round=>
  obtain ⟨hwr,⟨rfl,rfl⟩ | ⟨rfl,rfl⟩ | ⟨rfl,rfl⟩ | ⟨rfl,rfl⟩⟩:=hrel
  ·rw [hwr]
   clear hwr
   go_wp2_with fail
   exact ⟨⟨by trivial,.inr (.inl ⟨rfl,rfl⟩)⟩,by decide⟩
  ·rw [hwr]
   clear hwr
   go_wp2_with fail
   exact ⟨⟨by trivial,.inr (.inr (.inl ⟨rfl,rfl⟩))⟩,by decide⟩
  ·rw [hwr]
   clear hwr
   go_wp2_with fail
   exact ⟨⟨by trivial,.inr (.inr (.inr ⟨rfl,rfl⟩))⟩,by decide⟩
  ·rw [hwr]
   clear hwr
   go_wp2_with fail
   refine hgr.mono ?_
   rintro e w1 ⟨c,rfl,ho1,hb1⟩
   have HO1:=Lib.hid ho1
   have HB1:=Lib.hid hb1
   clear hgr ho1 hb1 hw1 hw2 hw3 n1 n2 n3 d0 d1 d2
   go_wp2_with fail
   go_loopw [6,8,27] (fun x6 _x8 x27 wr=>Hid (Below w.heap.size w wr)∧((x27=.int .i64 0∧Hid (wr.ownsRow w.heap.size 5 1 x6 0 []))∨(x27=.int .i64 1∧Hid (wr.ownsRow w.heap.size 5 1 x6 x1.length (x1.map u8V)))∨(x27=.int .i64 2∧Hid (wr.ownsRow w.heap.size 5 1 x6 (x1.length+x2.length) (x1.map u8V ++ x2.map u8V)))∨(x27=.int .i64 3∧Hid (wr.ownsRow w.heap.size 5 1 x6 (x1.length+x2.length+x3.length) (x1.map u8V ++ x2.map u8V ++ x3.map u8V))))) (fun _ _ x27 _=>3 - (intOf x27).toNat)
   case atStart=>exact ⟨HB1,.inl ⟨rfl,HO1⟩⟩
   case round=>
    obtain ⟨HR,⟨rfl,HO⟩ | ⟨rfl,HO⟩ | ⟨rfl,HO⟩ | ⟨rfl,HO⟩⟩:=hrel
    ·have e0:=(HB.out.keep HR.out HB.out.lt).cell 0 (v:=.slice p1 x1.length c1) rfl
     have bs:=B1.out.below HR.out (Nat.le_refl _)
     go_wp2_with (at_builtin;refine append_bytes rfl _ _ rfl w.heap.size _ 0 [] rfl HO.out p1 x1 c1 rfl bs (by omega) HR.out.size ?_;intro v' w5 ho5 hg5 hv5)
     have hb5:Below w.heap.size w w5:=HR.out.grown hg5 HR.out.size fun k e=>(HO.out.lt k e).1
     rw [Nat.zero_add,List.nil_append] at ho5
     go_wp2_with fail
     exact ⟨⟨Lib.hid hb5,.inr (.inl ⟨rfl,Lib.hid ho5⟩)⟩,by decide⟩
    ·have e0:=(HB.out.keep HR.out HB.out.lt).cell 1 (v:=.slice p2 x2.length c2) rfl
     have bs:=B2.out.below HR.out (Nat.le_refl _)
     go_wp2_with (at_builtin;refine append_bytes rfl _ _ rfl w.heap.size _ x1.length (x1.map u8V) rfl HO.out p2 x2 c2 rfl bs (by omega) HR.out.size ?_;intro v' w5 ho5 hg5 hv5)
     have hb5:Below w.heap.size w w5:=HR.out.grown hg5 HR.out.size fun k e=>(HO.out.lt k e).1
     go_wp2_with fail
     exact ⟨⟨Lib.hid hb5,.inr (.inr (.inl ⟨rfl,Lib.hid ho5⟩))⟩,by decide⟩
    ·have e0:=(HB.out.keep HR.out HB.out.lt).cell 2 (v:=.slice p3 x3.length c3) rfl
     have bs:=B3.out.below HR.out (Nat.le_refl _)
     go_wp2_with (at_builtin;refine append_bytes rfl _ _ rfl w.heap.size _ (x1.length+x2.length) (x1.map u8V ++ x2.map u8V) rfl HO.out p3 x3 c3 rfl bs (by omega) HR.out.size ?_;intro v' w5 ho5 hg5 hv5)
     have hb5:Below w.heap.size w w5:=HR.out.grown hg5 HR.out.size fun k e=>(HO.out.lt k e).1
     go_wp2_with fail
     exact ⟨⟨Lib.hid hb5,.inr (.inr (.inr ⟨rfl,Lib.hid ho5⟩))⟩,by decide⟩
    ·go_wp2_with fail
     go_ret
     exact ⟨_,rfl,HO.out,HR.out⟩
theorem joinedBy_any (N:Nat→Prop) (va vb:Value) (xa xb:Bts) (w:World) (ha:Sl w N va xa) (hb:Sl w N vb xb) (hl:xa.length+1+xb.length≤500000) :
  Calls Tryz.prog 217 #[va,vb] w fun e w'=>∃ v,e=.returned v∧w'.ownsRow w.heap.size 5 1 v (xa ++ [10] ++ xb).length ((xa ++ [10] ++ xb).map u8V)∧Below w.heap.size w w':=by
 obtain ⟨p1,c1,rfl,b1,-⟩:=id ha.bs
 obtain ⟨p3,c3,rfl,b3,-⟩:=id hb.bs
 obtain ⟨w1,hw1⟩:∃ w1,w.alloc (.cells #[.int .u8 10] 5)=w1:=⟨_,rfl⟩
 obtain ⟨w2,hw2⟩:∃ w2,w1.alloc (.cells #[.slice p1 xa.length c1,.slice (some ⟨w.heap.size,0,none⟩) 1 1,.slice p3 xb.length c3] 22)=w2:=⟨_,rfl⟩
 have hb1:Below w.heap.size w w1:=by rw [← hw1];exact (Below.refl _ _).alloc (Nat.le_refl _) _
 have hb2:Below w1.heap.size w1 w2:=by rw [← hw2];exact (Below.refl _ _).alloc (Nat.le_refl _) _
 have hbs:Below w.heap.size w w2:=hb1.trans (hb2.mono hb1.size)
 have hs1:w1.heap.size=w.heap.size+1:=by rw [← hw1];simp
 have k1:Blk w1 w.heap.size #[.int .u8 10] 5:=by rw [← hw1];exact Blk.new _ _ _
 have k2:Blk w2 w.heap.size #[.int .u8 10] 5:=k1.keep hb2 k1.lt
 have kk:Blk w2 w1.heap.size #[.slice p1 xa.length c1,.slice (some ⟨w.heap.size,0,none⟩) 1 1,.slice p3 xb.length c3] 22:=by rw [← hw2];exact Blk.new _ _ _
 have hsl:Sl w2 (fun _=>True) (.slice (some ⟨w.heap.size,0,none⟩) 1 1) [10]:=.inr ⟨w.heap.size,0,1,rfl,Nat.le_refl _,k2.lt,trivial,fun i hi=>by
  obtain rfl:i=0:=by simpa using hi
  exact k2.cell 0 rfl⟩
 have hc:=concat_any (fun _=>True) w1.heap.size _ _ _ xa [10] xb w2 kk ((ha.below hbs).mono fun _ _ _=>trivial) hsl ((hb.below hbs).mono fun _ _ _=>trivial) (by simp;omega) (by simp)
 have HB2:=Lib.hid hbs
 have HW2:=Lib.hid hw2
 clear ha hb b1 b3 hb1 hb2 hbs k1 k2 kk hsl hw2
 go_enter Tryz.func217,Tryz.ntmps217
 go_wp2_with fail
 rw [← hs1,HW2.out]
 refine hc.mono ?_
 rintro e w3 ⟨v,rfl,ho,hb3⟩
 have HO:=Lib.hid ho
 have HB3:=Lib.hid hb3
 clear hc ho hb3
 go_wp2_with fail
 go_ret
 refine ⟨_,rfl, ?_,HB2.out.trans (HB3.out.mono HB2.out.size)⟩
 have:=own_mono HO.out HB2.out.size
 simpa [Nat.add_assoc,Nat.add_comm 1] using this
end Go.Proofs.YtefpcacnblaokaaGreatDoor

/-
  The walks of a machine's letters but s and y. Conditions: the machine lies in memory; a process called sed.
-/
set_option maxRecDepth 100000
set_option maxHeartbeats 2000000
namespace Go.Proofs.YtefpcacnblaokaaGreatDoor
open Go.RowKit Go.Shelf Go.Maps
variable {F:Fx} {m:Mfx}
theorem nothing_any (x:Value) (w:World):Calls Tryz.prog 138 #[x] w fun e w'=>e=.returned (.int .i64 0)∧w'=w:=by
 go_enter Tryz.func138,Tryz.ntmps138
 go_wp2_with fail
 go_ret
 exact ⟨rfl,rfl⟩
theorem deletes_any (x y:Value) (w:World):Calls Tryz.prog 143 #[x,y] w fun e w'=>e=.returned (.int .i64 2)∧w'=w:=by
 go_enter Tryz.func143,Tryz.ntmps143
 go_wp2_with fail
 go_ret
 exact ⟨rfl,rfl⟩
theorem prints_st {q q2:Sd.St} (x:Value) (w:World) (h:Mst w F m q) (ht:Sd.tell (q.pat ++ [10]) q=some q2) :
  Calls Tryz.prog 152 #[.pointer (some ⟨m.mb,0,none⟩),x] w fun e w'=>e=.returned (.int .i64 0)∧Mst w' F m q2:=by
 have htl:=tell_st (m:=m) (F:=F) (q.pat ++ [10]) w h ht
 rw [← str_app q.pat [10]] at htl
 obtain ⟨U,R,k,c,o,hm,hp,hh,h1⟩:=h
 have c7:=Blk.cell hm.blk 7 (v:=c.pv) rfl
 obtain ⟨p,cp,hpv,hbs,-⟩:=hp.bs
 rw [hpv] at c7
 have hcv:=run_str hbs cp
 have g1:¬ 9223372036854775807 < q.pat.length+1:=by have:=h1.2.2.2.2.2.2.2.2.1;omega
 clear hm hp hh h1 hpv hbs ht
 go_enter Tryz.func152,Tryz.ntmps152
 go_wp2_with fail
 refine htl.mono ?_
 rintro e w2 ⟨rfl,hm2⟩
 have HM2:=Lib.hid hm2
 clear htl hm2
 go_wp2_with fail
 go_ret
 exact ⟨rfl,HM2.out⟩
theorem jump_st {q:Sd.St} (x:Value) (w:World) (h:Mst w F m q) (hj:q.jumps+1≤1000) :
  Calls Tryz.prog 155 #[.pointer (some ⟨m.mb,0,none⟩),x] w fun e w'=>e=.returned (.int .i64 0)∧Mst w' F m { q with jumps:=q.jumps+1 }:=by
 have ha:=again_st w h hj
 clear h
 go_enter Tryz.func155,Tryz.ntmps155
 go_wp2_with fail
 refine ha.mono ?_
 rintro e w2 ⟨rfl,hm2⟩
 have HM2:=Lib.hid hm2
 clear ha hm2
 go_wp2_with fail
 go_ret
 exact ⟨rfl,HM2.out⟩
theorem put_st {q:Sd.St} (x:Value) (w:World) (h:Mst w F m q) :
  Calls Tryz.prog 147 #[.pointer (some ⟨m.mb,0,none⟩),x] w fun e w'=>e=.returned (.int .i64 0)∧Mst w' F m { q with hold:=q.pat }:=by
 obtain ⟨U,R,k,c,o,hm,hp,hh,h1,h2,h3,h4,h5,h6,h7,h8,h9,h10,h11⟩:=h
 have c7:=Blk.cell hm.blk 7 (v:=c.pv) rfl
 have c8:=Blk.cell hm.blk 8 (v:=c.hv) rfl
 have f8:=Blk.free hm.blk 8
 have fin:Mst (w.setCell ⟨m.mb,8,none⟩ c.pv) F m { q with hold:=q.pat }:=
  ⟨U,R,k,{ c with hv:=c.pv },o,hm.set 8 c.pv rfl,hp.stored 8 _,hp.stored 8 _,h1,h2,h3,h4,h5,h6,h7,h8,h9,h9,h11⟩
 obtain ⟨p,cp,hpv,hbs,-⟩:=hp.bs
 rw [hpv] at c7 fin
 have FIN:=Lib.hid fin
 clear hm hp hh h1 h2 h3 h4 h5 h6 h7 h8 h9 h10 h11 hpv hbs fin
 go_enter Tryz.func147,Tryz.ntmps147
 go_wp2_with fail
 go_ret
 exact ⟨rfl,FIN.out⟩
theorem change_st {q:Sd.St} (x:Value) (w:World) (h:Mst w F m q) :
  Calls Tryz.prog 149 #[.pointer (some ⟨m.mb,0,none⟩),x] w fun e w'=>e=.returned (.int .i64 0)∧Mst w' F m { q with pat:=q.hold,hold:=q.pat }:=by
 obtain ⟨U,R,k,c,o,hm,hp,hh,h1,h2,h3,h4,h5,h6,h7,h8,h9,h10,h11⟩:=h
 have fin:Mst ((w.setCell ⟨m.mb,7,none⟩ c.hv).setCell ⟨m.mb,8,none⟩ c.pv).drew F m { q with pat:=q.hold,hold:=q.pat }:=by
  have hb:=below_drew2 ((w.setCell ⟨m.mb,7,none⟩ c.hv).setCell ⟨m.mb,8,none⟩ c.pv)
  exact ⟨U,R,k,{ c with pv:=c.hv,hv:=c.pv },o,((hm.set (c':={ c with pv:=c.hv }) 7 c.hv rfl).set 8 c.pv rfl).below hb,((hh.stored 7 _).stored 8 _).below hb,((hp.stored 7 _).stored 8 _).below hb,h1,h2,h3,h4,h5,h6,h7,h8,h10,h9,h11⟩
 have c7:=Blk.cell hm.blk 7 (v:=c.pv) rfl
 have c8:=Blk.cell hm.blk 8 (v:=c.hv) rfl
 have f7:=Blk.free hm.blk 7
 have f8:=Blk.free hm.blk 8
 have d7:=Blk.cell hm.blk.drew 7 (v:=c.pv) rfl
 have d8:=Blk.cell hm.blk.drew 8 (v:=c.hv) rfl
 have g7:=Blk.free hm.blk.drew 7
 have g8:=Blk.free hm.blk.drew 8
 obtain ⟨p,cp,hpv,hbs,-⟩:=hp.bs
 obtain ⟨p2,cp2,hpv2,hbs2,-⟩:=hh.bs
 rw [hpv] at c7 d7 fin
 rw [hpv2] at c8 d8 fin
 have k7:=Blk.free (Blk.set hm.blk.drew 7 (.slice p2 q.hold.length cp2)) 8
 have k8:=Blk.cell (Blk.set hm.blk.drew 7 (.slice p2 q.hold.length cp2)) 8 (v:=c.hv) rfl
 rw [hpv2] at k8
 have FIN:=Lib.hid fin
 clear hm hp hh h1 h2 h3 h4 h5 h6 h7 h8 h9 h10 h11 hpv hbs hpv2 hbs2 fin
 go_enter Tryz.func149,Tryz.ntmps149
 go_upto_region 1 with fail
 go_region
 have hf:=FIN.out
 clear c7 c8 f7 f8 d7 d8 g7 g8 k7 k8
 go_wp2_with fail
 go_ret
 exact ⟨rfl,hf⟩
theorem joined_own {w w1:World} {U R:Nat→Prop} {k:Nat} {c:Mcl} {o:Option Int} {inp out:Bts} {failed:Bool} (hm:MacAt w F m U R k c o inp out failed) {v:Value} {xs:Bts} (ho:w1.ownsRow w.heap.size 5 1 v xs.length (xs.map u8V)) (hb:Below w.heap.size w w1) :
  MacAt w1 F m (fun j=>U j∨v.ownBlock=some j) R k c o inp out failed∧Sl w1 (PatB (fun j=>U j∨v.ownBlock=some j) m) v xs:=by
 have h1:=hm.blk.lt
 have h2:=hm.om.lt
 exact ⟨hm.more_v hb fun g e=>ho.lt g e,(Sl.own ho).mono fun g _ hg=>⟨.inr hg.2,fun e=>by omega,fun e=>by omega⟩⟩
theorem getMore_st {q:Sd.St} (x:Value) (w:World) (h:Mst w F m q) (hl:q.pat.length+1+q.hold.length≤8192) :
  Calls Tryz.prog 146 #[.pointer (some ⟨m.mb,0,none⟩),x] w fun e w'=>e=.returned (.int .i64 0)∧Mst w' F m { q with pat:=q.pat ++ [10] ++ q.hold }:=by
 obtain ⟨U,R,k,c,o,hm,hp,hh,h1,h2,h3,h4,h5,h6,h7,h8,h9,h10,h11⟩:=h
 have c7:=Blk.cell hm.blk 7 (v:=c.pv) rfl
 have c8:=Blk.cell hm.blk 8 (v:=c.hv) rfl
 have d7:=Blk.cell hm.blk.drew 7 (v:=c.pv) rfl
 have d8:=Blk.cell hm.blk.drew 8 (v:=c.hv) rfl
 have HJ:Hid (Calls Tryz.prog 217 #[c.pv,c.hv] w.drew fun e w'=>∃ v,e=.returned v∧w'.ownsRow w.heap.size 5 1 v (q.pat ++ [10] ++ q.hold).length ((q.pat ++ [10] ++ q.hold).map u8V)∧Below w.heap.size w w'∧w'.cell? ⟨m.mb,7,none⟩=some c.pv∧w'.cell? ⟨m.mb,8,none⟩=some c.hv):=by
  refine Lib.hid ((joinedBy_any (PatB U m) c.pv c.hv q.pat q.hold w.drew (hp.below (below_drew2 w)) (hh.below (below_drew2 w)) (by omega)).mono ?_)
  rintro e w' ⟨v,rfl,ho,hb⟩
  have hb2:=(below_drew2 w).trans hb
  exact ⟨v,rfl,ho,hb2,(hm.below hb2).blk.cell 7 rfl,(hm.below hb2).blk.cell 8 rfl⟩
 have hsp:Hid (∀ (v:Value) (w1:World),w1.ownsRow w.heap.size 5 1 v (q.pat ++ [10] ++ q.hold).length ((q.pat ++ [10] ++ q.hold).map u8V)→Below w.heap.size w w1 →
   Calls Tryz.prog 216 #[.pointer (some ⟨m.mb,0,none⟩),v] w1 fun e w'=>e=.returned (.int .i64 0)∧Mst w' F m { q with pat:=q.pat ++ [10] ++ q.hold }):=Lib.hid fun v w1 ho hb=>by
  obtain ⟨hm1,hv1⟩:=joined_own hm ho hb
  exact space_st w1 ⟨_,R,k,c,o,hm1,hv1,(hh.below hb).grow fun _ h=>.inl h,h1,h2,h3,h4,h5,h6,h7,h8,h10,h11⟩ (by simp;omega)
 obtain ⟨p,cp,hpv,hbs,-⟩:=hp.bs
 obtain ⟨p2,cp2,hpv2,hbs2,-⟩:=hh.bs
 rw [hpv] at c7 d7 HJ
 rw [hpv2] at c8 d8 HJ
 clear hm hp hh h1 h2 h3 h4 h5 h6 h7 h8 h9 h10 h11 hpv hbs hpv2 hbs2 hl
 go_enter Tryz.func146,Tryz.ntmps146
 go_upto_region 1 with fail
 go_region_with (first
   | (go_at_call 217;refine HJ.out.mono ?_;rintro e w1 ⟨v,rfl,ho,hb,hc1,hc2⟩;have HO:=Lib.hid ho;have HB:=Lib.hid hb;clear ho hb)
   | (go_at_call 216;refine (hsp.out v w1 HO.out HB.out).mono ?_;rintro e w2 ⟨rfl,hm2⟩;have HM2:=Lib.hid hm2;clear hm2))
 all_goals
  go_wp2_with fail
  go_ret
  exact ⟨rfl,HM2.out⟩
end Go.Proofs.YtefpcacnblaokaaGreatDoor
