/-
  Texts of this seat put together: Sd29, Sd30, Sd31.
-/
import Derived.Test.YtefpcacnblaokaaGreatDoorQ27

/-
  The walks of a machine's find and fits. Conditions: the machine lies in memory; an expression that is ready.
-/
set_option maxRecDepth 100000
set_option maxHeartbeats 4000000
namespace Go.Proofs.YtefpcacnblaokaaGreatDoor
open Go.RowKit Go.Shelf Go.Maps
variable {F:Fx} {m:Mfx}
theorem mfind_st {q:Sd.St} (w:World) (h:Mst w F m q) (p:Nat) (b:Bts) (hr:RdyK w m.S p b) (fr:Nat) :
  Calls Tryz.prog 220 #[.pointer (some ⟨m.mb,0,none⟩),.pointer (some ⟨p,0,none⟩),.int .i64 fr] w fun e w'=>e=.returned (Rg.findVal (Sd.rxFind b q.pat fr))∧Mst w' F m q∧Kept (fun j=>j=m.mb) w w':=by
 obtain ⟨U,R,k,c,o,hm,hp,hh,h1⟩:=h
 have f14:=Blk.free hm.blk 14
 have c14:=Blk.cell hm.blk 14 (v:=c.last) rfl
 have hs:=hm.set (c':={ c with last:=.pointer (some ⟨p,0,none⟩) }) 14 (.pointer (some ⟨p,0,none⟩)) rfl
 have hk:Kept (fun j=>j=m.mb) w (w.setCell ⟨m.mb,14,none⟩ (.pointer (some ⟨p,0,none⟩))):=(Kept.refl (fun j=>j=m.mb) w).setCell (.inl rfl) 14 _
 have d7:=Blk.cell hs.blk 7 (v:=c.pv) rfl
 have hps:=hp.stored 14 (.pointer (some ⟨p,0,none⟩))
 have hhs:=hh.stored 14 (.pointer (some ⟨p,0,none⟩))
 have hr2:=hr.kept hk fun j hj e=>hm.sm.1 (e ▸ hj)
 obtain ⟨n,-,hn2,-,hn4⟩:=rx_good hr.good
 obtain ⟨lo,v,L,hpg,hsts,-,-⟩:=hr2.rdy
 obtain ⟨pp,cp,hpv,hbs,-⟩:=hps.bs
 have hlen:q.pat.length≤1000000000:=by have:=h1.2.2.2.2.2.2.2.2.1;omega
 have hfd:=Rg.find_ready (lo:=lo) p cp n (fr:Int) q.pat pp (w.setCell ⟨m.mb,14,none⟩ (.pointer (some ⟨p,0,none⟩))) ⟨⟨v,L,by unfold Sd.rxProg at hpg;rw [hn2] at hpg;exact hpg,by unfold Sd.rxProg at hsts;rw [hn2] at hsts;exact hsts⟩,hn4⟩ hbs hlen
 rw [show Rg.Mx.find (Rg.progOf n).2 (Rg.progOf n).1 q.pat (fr:Int).toNat=Sd.rxFind b q.pat fr by unfold Sd.rxFind Sd.rxProg;rw [hn2];rfl] at hfd
 rw [hpv] at d7
 have hv:∃ x y z,Rg.findVal (Sd.rxFind b q.pat fr)=.tuple #[.int .i64 x,.int .i64 y,.bool z]:=by
  cases Sd.rxFind b q.pat fr with
  | none=>exact ⟨_,_,_,rfl⟩
  | some z=>exact ⟨_,_,_,rfl⟩
 obtain ⟨x,y,z,hxyz⟩:=hv
 rw [hxyz] at hfd ⊢
 have HS:=Lib.hid hs
 have HK:=Lib.hid hk
 have HP:=Lib.hid hps
 have HH:=Lib.hid hhs
 have H1:=Lib.hid h1
 clear hm hp hh h1 hs hk hps hhs hr hr2 hpg hsts hbs hn2 hn4 hpv hxyz hlen
 go_enter Tryz.func220,Tryz.ntmps220
 go_wp2_with fail
 refine hfd.mono ?_
 rintro e w2 ⟨rfl,hb2⟩
 have HB2:=Lib.hid hb2
 clear hfd hb2
 go_wp2_with fail
 go_ret3
 exact ⟨rfl,⟨U,R,k,_,o,HS.out.below HB2.out,HP.out.below HB2.out,HH.out.below HB2.out,H1.out⟩,HK.out.trans (Kept.of_below HB2.out)⟩
theorem fits_st {q:Sd.St} (w:World) (h:Mst w F m q) (a:Sd.Adr) (qa:Option Nat) (hok:adOk w m.S a qa) (ha:∀ n,a=.num n→n≤1000000000) :
  Calls Tryz.prog 270 #[.pointer (some ⟨m.mb,0,none⟩),.agg (adCells a qa).toArray] w fun e w'=>e=.returned (.bool (Sd.fits q a))∧Mst w' F m q∧∀ n,a=.num n→Below w.heap.size w w':=by
 obtain ⟨U,R,k,c,o,hm,hp,hh,h1⟩:=h
 cases a with
 | num n=>
  show Calls Tryz.prog _ #[_,.agg #[.int .i64 1,.int .i64 n,.pointer none]] w _
  obtain ⟨w1,hw1⟩:∃ w1,w.alloc (.cells #[.int .i64 1,.int .i64 n,.pointer none] 224)=w1:=⟨_,rfl⟩
  have hb1:Below w.heap.size w w1:=by rw [← hw1];exact (Below.refl _ _).alloc (Nat.le_refl _) _
  have hk1:Blk w1 w.heap.size #[.int .i64 1,.int .i64 n,.pointer none] 224:=by rw [← hw1];exact Blk.new _ _ _
  have hm1:=hm.below hb1
  have e6:=Blk.cell hm1.blk 6 (v:=.int .i64 c.n) rfl
  have e0:=hk1.cell 0 (v:=.int .i64 1) rfl
  have e1:=hk1.cell 1 (v:=.int .i64 n) rfl
  rw [h1.1] at e6
  have fin:∀ nq,Mst (w1.drewN nq) F m q:=fun nq=>by
   have hq:Below w1.heap.size w1 (w1.drewN nq):=below_drewN w1 nq
   exact ⟨U,R,k,c,o,hm1.below hq,(hp.below hb1).below hq,(hh.below hb1).below hq,h1⟩
  have FIN:=Lib.hid fin
  have HB1:=Lib.hid hb1
  have hz:(((q.n:Int) == (n:Int)):Bool)=(q.n == n):=by
   rw [Bool.eq_iff_iff]
   simp only [beq_iff_eq]
   omega
  have HZ:=Lib.hid hz
  have HW1:=Lib.hid hw1
  clear hm hp hh h1 hm1 hb1 hk1 fin hz hw1 hok ha
  go_enter Tryz.func270,Tryz.ntmps270
  go_upto_region 1 with fail
  rw [HW1.out]
  go_upto_region 3 with fail
  go_quiet (fail)
  go_wp2_with fail
  go_ret
  exact ⟨ret_bool (by unfold Sd.fits;first | exact HZ.out | (rw [Bool.eq_iff_iff];simp only [decide_eq_true_eq,beq_iff_eq];omega)),FIN.out _,fun _ _=>HB1.out.trans ((below_drewN w1 _).mono HB1.out.size)⟩
 | fin=>
  show Calls Tryz.prog _ #[_,.agg #[.int .i64 2,.int .i64 0,.pointer none]] w _
  obtain ⟨w1,hw1⟩:∃ w1,w.alloc (.cells #[.int .i64 2,.int .i64 0,.pointer none] 224)=w1:=⟨_,rfl⟩
  have hb1:Below w.heap.size w w1:=by rw [← hw1];exact (Below.refl _ _).alloc (Nat.le_refl _) _
  have hk1:Blk w1 w.heap.size #[.int .i64 2,.int .i64 0,.pointer none] 224:=by rw [← hw1];exact Blk.new _ _ _
  have hm1:=hm.below hb1
  have e6:=Blk.cell hm1.blk 1 (v:=.pointer (some ⟨m.ib,0,none⟩)) rfl
  have e0:=hk1.cell 0 (v:=.int .i64 2) rfl
  have hmo:=more_any F U R m.ib k q.inp q.out q.failed w1 hm1.ina
  have HM1:=Lib.hid hm1
  have HP:=Lib.hid (hp.below hb1)
  have HH:=Lib.hid (hh.below hb1)
  have H1:=Lib.hid h1
  have HW1:=Lib.hid hw1
  clear hm hp hh h1 hm1 hb1 hk1 hw1 hok ha
  go_enter Tryz.func270,Tryz.ntmps270
  go_upto_region 1 with fail
  rw [HW1.out]
  go_wp2_with fail
  refine hmo.mono ?_
  rintro e w2 ⟨rfl,R2,k2,hi2,-,hm2⟩
  have HI2:=Lib.hid hi2
  have HM2:=Lib.hid hm2
  clear hmo hi2 hm2
  go_wp2_with fail
  go_ret
  have hk:=HM2.out.1
  exact ⟨by unfold Sd.fits;simp,⟨U,R2,k2,c,o,HM1.out.turn HI2.out HM2.out (fun _ h=>h) (fun _ h=>.inl h),HM1.out.pats HP.out hk,HM1.out.pats HH.out hk,H1.out⟩,fun n e=>by cases e⟩
 | rx b=>
  obtain ⟨p,rfl,hr⟩:=hok
  show Calls Tryz.prog _ #[_,.agg #[.int .i64 3,.int .i64 0,.pointer (some ⟨p,0,none⟩)]] w _
  obtain ⟨w1,hw1⟩:∃ w1,w.alloc (.cells #[.int .i64 3,.int .i64 0,.pointer (some ⟨p,0,none⟩)] 224)=w1:=⟨_,rfl⟩
  have hb1:Below w.heap.size w w1:=by rw [← hw1];exact (Below.refl _ _).alloc (Nat.le_refl _) _
  have hk1:Blk w1 w.heap.size #[.int .i64 3,.int .i64 0,.pointer (some ⟨p,0,none⟩)] 224:=by rw [← hw1];exact Blk.new _ _ _
  have e0:=hk1.cell 0 (v:=.int .i64 3) rfl
  have e2:=hk1.cell 2 (v:=.pointer (some ⟨p,0,none⟩)) rfl
  have hfd:=mfind_st (F:=F) (m:=m) (q:=q) w1 ⟨U,R,k,c,o,hm.below hb1,hp.below hb1,hh.below hb1,h1⟩ p b (hr.kept (Kept.of_below (S:=fun _=>False) hb1) fun _ _ h=>h) 0
  have hv:∃ x y,Rg.findVal (Sd.rxFind b q.pat 0)=.tuple #[.int .i64 x,.int .i64 y,.bool (Sd.rxFind b q.pat 0).isSome]:=by
   cases Sd.rxFind b q.pat 0 with
   | none=>exact ⟨_,_,rfl⟩
   | some z=>exact ⟨_,_,rfl⟩
  obtain ⟨x,y,hxy⟩:=hv
  rw [hxy] at hfd
  have HW1:=Lib.hid hw1
  clear hm hp hh h1 hb1 hk1 hw1 hr ha hxy
  go_enter Tryz.func270,Tryz.ntmps270
  go_upto_region 1 with fail
  rw [HW1.out]
  go_wp2_with fail
  refine hfd.mono ?_
  rintro e w2 ⟨rfl,hm2,-⟩
  have HM2:=Lib.hid hm2
  clear hfd hm2
  go_wp2_with fail
  go_ret
  exact ⟨rfl,HM2.out,fun n e=>by cases e⟩
end Go.Proofs.YtefpcacnblaokaaGreatDoor

/-
  The walk of a machine's chosen, of a command with one address at most. Conditions: the machine lies in memory; small numbers.
-/
set_option maxRecDepth 100000
set_option maxHeartbeats 4000000
namespace Go.Proofs.YtefpcacnblaokaaGreatDoor
open Go.RowKit Go.Shelf Go.Maps
variable {F:Fx} {m:Mfx}
theorem flat_get {α:Type} (f:α→List Value) (s:Nat) (hf:∀ x,(f x).length=s):∀ (L:List α) (i j:Nat),j < s→(L.flatMap f)[s * i+j]?=(L[i]?).bind fun x=>(f x)[j]?
 | [],i,j,_=>by simp
 | x :: r,0,j,h=>by
  rw [List.flatMap_cons,Nat.mul_zero,Nat.zero_add,List.getElem?_append_left (by rw [hf];exact h)]
  rfl
 | x :: r,i+1,j,h=>by
  rw [List.flatMap_cons,List.getElem?_append_right (by rw [hf,Nat.mul_succ];omega),hf,show s * (i+1)+j - s=s * i+j by rw [Nat.mul_succ];omega,flat_get f s hf r i j h]
  simp
theorem addr_add (g j:Nat):((⟨g,0,none⟩:Addr).add j)=⟨g,j,none⟩:=by
 simp only [Addr.add]
 split <;> simp_all
theorem ads_cell {W:World} {K:Nat→Prop} {v:Value} {l:List Sd.Adr} (h:AdsAt W K v l) (i:Nat) (hi:i < l.length):∃ g cp,∃ (kd n:Int) (po:Option Addr) (qa:Option Nat),v=.slice (some ⟨g,0,none⟩) l.length cp∧K g ∧
  W.cell? ⟨g,3 * i,none⟩=some (.int .i64 kd)∧W.cell? ⟨g,3 * i+1,none⟩=some (.int .i64 n)∧W.cell? ⟨g,3 * i+2,none⟩=some (.pointer po)∧adCells (l[i]) qa=[.int .i64 kd,.int .i64 n,.pointer po]∧adOk W K (l[i]) qa:=by
 obtain ⟨L,rfl,h2,h3,h4⟩:=h
 rw [List.length_map] at hi
 have hx:L[i]?=some L[i]:=List.getElem?_eq_getElem hi
 obtain ⟨kd,n,po,hf⟩:=adCells_form (L[i]).1 (L[i]).2
 have hlen:L.length=(L.length - 1)+1:=by omega
 rw [hlen] at h2
 obtain ⟨g,cp,rfl⟩:=own_slice h2
 have hc:∀ j u,j < 3→(adCells (L[i]).1 (L[i]).2)[j]?=some u→W.cell? ⟨g,3 * i+j,none⟩=some u:=fun j u hj hu=>by
  have h5:=h2.cells (g:=g) rfl (3 * i+j) u (by rw [flat_get _ 3 (fun x=>adCells_len _ _) L i j hj,hx];exact hu)
  rw [addr_add] at h5
  exact h5
 refine ⟨g,cp,kd,n,po,(L[i]).2,by rw [← hlen,List.length_map],h4 g rfl, ?_,hc 1 _ (by decide) (by rw [hf];rfl),hc 2 _ (by decide) (by rw [hf];rfl),by rw [List.getElem_map];exact hf,by rw [List.getElem_map];exact h3 _ (List.getElem_mem _)⟩
 have:=hc 0 _ (by decide) (by rw [hf];rfl)
 simpa using this
def AdrS:Sd.Adr→Prop
 | .num n=>n≤1000000000
 | _=>True
theorem Mst.fin_ {w:World} {q:Sd.St} (h:Mst w F m q) (b:Bool):Mst (w.setCell ⟨m.mb,15,none⟩ (.bool b)) F m q:=by
 obtain ⟨U,R,k,c,o,hm,hp,hh,h1⟩:=h
 exact ⟨U,R,k,{ c with fin:=b },o,hm.set 15 _ rfl,hp.stored 15 _,hh.stored 15 _,h1⟩
theorem Mst.cmd {w:World} {q:Sd.St} (h:Mst w F m q) {i:Nat} (hi:i < m.cs.length):CmdAt w m.S (m.qs.getD i 0) (m.cs.getD i default):=by
 obtain ⟨U,R,k,c,o,hm,-⟩:=h
 exact hm.scr.cm i (by rw [hm.scr.len];exact hi)
theorem Mst.cell15 {w:World} {q:Sd.St} (h:Mst w F m q):(∃ b,w.cell? ⟨m.mb,15,none⟩=some (.bool b))∧w.frozen? ⟨m.mb,15,none⟩=false:=by
 obtain ⟨U,R,k,c,o,hm,-⟩:=h
 exact ⟨⟨c.fin,Blk.cell hm.blk 15 rfl⟩,Blk.free hm.blk 15⟩
theorem Mst.below {w w':World} {q:Sd.St} (h:Mst w F m q) (hb:Below w.heap.size w w'):Mst w' F m q:=by
 obtain ⟨U,R,k,c,o,hm,hp,hh,h1⟩:=h
 exact ⟨U,R,k,c,o,hm.below hb,hp.below hb,hh.below hb,h1⟩
theorem chosen0_st {q:Sd.St} (w:World) (h:Mst w F m q) {i:Nat} (hi:i < m.cs.length) {x:Sd.Cmd} (hx:m.cs.getD i default=x) (ha:x.ads=[]) :
  Calls Tryz.prog 224 #[.pointer (some ⟨m.mb,0,none⟩),.pointer (some ⟨m.qs.getD i 0,0,none⟩)] w fun e w'=>e=.returned (.bool (!x.neg))∧Mst w' F m q:=by
 have h1:=h.fin_ true
 obtain ⟨⟨b15,c15⟩,f15⟩:=h.cell15
 obtain ⟨av,re,rv,hcb,hads,-⟩:=h1.cmd hi
 rw [hx] at hcb hads
 obtain ⟨L,hL,ho,-⟩:=hads
 rw [ha] at hL
 obtain rfl:L=[]:=List.map_eq_nil_iff.1 hL
 generalize hqi:m.qs.getD i 0=qi at *
 have c1:=Blk.cell hcb 1 cm_at
 have c2:=Blk.cell hcb 2 cm_neg
 have hav:∃ p cp,av=.slice p 0 cp:=by
  rcases ho.2 with ⟨e,-⟩ | ⟨g,cap,cs,e,-⟩
  ·exact ⟨_,_,e⟩
  ·exact ⟨_,_,e⟩
 obtain ⟨p,cp,rfl⟩:=hav
 have H1:=Lib.hid h1
 clear h h1 hcb ho hL
 go_enter Tryz.func224,Tryz.ntmps224
 go_wp2_with fail
 go_ret
 exact ⟨rfl,H1.out⟩
theorem chosen1_st {q:Sd.St} (w:World) (h:Mst w F m q) {i:Nat} (hi:i < m.cs.length) {x:Sd.Cmd} (hx:m.cs.getD i default=x) {a:Sd.Adr} (ha:x.ads=[a]) (has:AdrS a) :
  Calls Tryz.prog 224 #[.pointer (some ⟨m.mb,0,none⟩),.pointer (some ⟨m.qs.getD i 0,0,none⟩)] w fun e w'=>e=.returned (.bool (Sd.fits q a != x.neg))∧Mst w' F m q:=by
 have h1:=h.fin_ true
 obtain ⟨⟨b15,c15⟩,f15⟩:=h.cell15
 generalize hwq:w.setCell ⟨m.mb,15,none⟩ (.bool true)=w1 at *
 obtain ⟨av,re,rv,hcb,hads,-⟩:=h1.cmd hi
 rw [hx] at hcb hads
 rw [ha] at hads
 obtain ⟨g,cp,kd,n,po,qa,rfl,-,d0,d1,d2,hac,hok⟩:=ads_cell hads 0 (by simp)
 have c1:=Blk.cell hcb 1 cm_at
 have c2:=Blk.cell hcb 2 cm_neg
 have e1:=Blk.cell (Blk.drew hcb) 1 cm_at
 have e2:=Blk.cell (Blk.drew hcb) 2 cm_neg
 have hf:Hid (Calls Tryz.prog 270 #[.pointer (some ⟨m.mb,0,none⟩),.agg #[.int .i64 kd,.int .i64 n,.pointer po]] w1.drew fun e w'=>e=.returned (.bool (Sd.fits q a))∧Mst w' F m q∧w'.cell? ⟨m.qs.getD i 0,2,none⟩=some (.bool x.neg)):=by
  have:=fits_st (F:=F) (m:=m) (q:=q) w1.drew (h1.below (below_drew2 w1)) a qa (hok.kept (Kept.of_below (S:=fun _=>False) (below_drew2 w1)) fun _ _ h=>h) fun n e=>by subst e;exact has
  rw [show adCells a qa=[.int .i64 kd,.int .i64 n,.pointer po] from hac] at this
  refine Lib.hid (this.mono ?_)
  rintro e w' ⟨rfl,hm',-⟩
  obtain ⟨av',re',rv',hcb',-⟩:=hm'.cmd hi
  rw [hx] at hcb'
  exact ⟨rfl,hm',Blk.cell hcb' 2 cm_neg⟩
 simp only [Nat.mul_zero,Nat.zero_add,List.length_cons,List.length_nil] at d0 d1 d2 c1 e1
 have d0b:w1.drew.cell? ⟨g,0,none⟩=some (.int .i64 kd):=d0
 have d1b:w1.drew.cell? ⟨g,1,none⟩=some (.int .i64 n):=d1
 have d2b:w1.drew.cell? ⟨g,2,none⟩=some (.pointer po):=d2
 generalize hqi:m.qs.getD i 0=qi at *
 have HQW:=Lib.hid hwq
 clear h h1 hcb hads hac hok hwq hx
 go_enter Tryz.func224,Tryz.ntmps224
 go_upto_region 2 with fail
 rw [HQW.out]
 go_upto_region 6 with fail
 go_region_with ((go_at_call 270;refine hf.out.mono ?_;rintro e w2 ⟨rfl,hm2,c2b⟩;have HM2:=Lib.hid hm2;clear hm2))
 all_goals
  go_wp2_with fail
  go_ret
  exact ⟨rfl,HM2.out⟩
def kdOf:Sd.Adr→Int
 | .num _=>1
 | .fin=>2
 | .rx _=>3
def nOf:Sd.Adr→Nat
 | .num k=>k
 | _=>0
theorem adCells_of (a:Sd.Adr) (q:Option Nat):∃ po:Option Addr,adCells a q=[.int .i64 (kdOf a),.int .i64 (nOf a),.pointer po]:=by
 cases a <;> exact ⟨_,rfl⟩
theorem Mst.two {w:World} {q:Sd.St} (h:Mst w F m q) (hi:0 < m.cs.length) {x:Sd.Cmd} (hx:m.cs.getD 0 default=x) {a:Nat} {b:Sd.Adr} (ha:x.ads=[.num a,b]) {qi:Nat} (hq:m.qs.getD 0 0=qi):∃ g cp po qa,
  w.cell? ⟨qi,1,none⟩=some (.slice (some ⟨g,0,none⟩) 2 cp)∧w.cell? ⟨qi,2,none⟩=some (.bool x.neg)∧w.cell? ⟨g,0,none⟩=some (.int .i64 1)∧w.cell? ⟨g,1,none⟩=some (.int .i64 a)∧w.cell? ⟨g,2,none⟩=some (.pointer none) ∧
  w.cell? ⟨g,3,none⟩=some (.int .i64 (kdOf b))∧w.cell? ⟨g,4,none⟩=some (.int .i64 (nOf b))∧w.cell? ⟨g,5,none⟩=some (.pointer po)∧adCells b qa=[.int .i64 (kdOf b),.int .i64 (nOf b),.pointer po]∧adOk w m.S b qa:=by
 obtain ⟨av,re,rv,hcb,hads,-⟩:=h.cmd hi
 rw [hx] at hcb hads
 rw [hq] at hcb
 rw [ha] at hads
 obtain ⟨g,cp,kd1,n1,po1,qa1,rfl,-,d0,d1,d2,hac1,-⟩:=ads_cell hads 0 (by simp)
 obtain ⟨g',cp',kd,n,po,qa,e,-,d3,d4,d5,hac,hok⟩:=ads_cell hads 1 (by simp)
 simp only [Value.slice.injEq,Option.some.injEq,Addr.mk.injEq,and_true] at e
 obtain ⟨rfl,-,rfl⟩:=e
 obtain ⟨p2,h2⟩:=adCells_of b qa
 have e1:[Value.int .i64 1,.int .i64 a,.pointer none]=[.int .i64 kd1,.int .i64 n1,.pointer po1]:=hac1
 have e2:[Value.int .i64 (kdOf b),.int .i64 (nOf b),.pointer p2]=[.int .i64 kd,.int .i64 n,.pointer po]:=h2.symm.trans hac
 simp only [List.cons.injEq,Value.int.injEq,Value.pointer.injEq,true_and,and_true] at e1 e2
 obtain ⟨rfl,rfl,rfl⟩:=e1
 obtain ⟨rfl,rfl,rfl⟩:=e2
 exact ⟨g,cp,p2,qa,Blk.cell hcb 1 cm_at,Blk.cell hcb 2 cm_neg,d0,d1,d2,d3,d4,d5,h2,hok⟩
end Go.Proofs.YtefpcacnblaokaaGreatDoor

/-
  The walk of a machine's chosen, of a command with two addresses, the first a number. Conditions: the machine lies in memory; small numbers; the command is the script's one.
-/
set_option maxRecDepth 100000
set_option maxHeartbeats 4000000
namespace Go.Proofs.YtefpcacnblaokaaGreatDoor
open Go.RowKit Go.Shelf Go.Maps
variable {F:Fx} {m:Mfx}
theorem open_look {w:World} {q:Sd.St} (h:Mst w F m q):(Instr.lookup 215 (.map (some m.mo)) (.pointer (some ⟨m.qs.getD 0 0,0,none⟩)) false).run Tryz.prog w=.ok (.int .i64 (opV q.opens)) w:=by
 obtain ⟨U,R,k,c,o,hm,hp,hh,h1,h2,h3,h4,h5,h6,-⟩:=h
 rw [← h6]
 exact hm.om.look Tryz.underlying215 Tryz.underlying82 (Tryz.sizeOf88 w) (Tryz.zeroValue3 w)
theorem opV_set {l:List Bool} (h:l.length=1) (v:Bool):opV (l.set 0 v)=if v then 1 else 0:=by
 match l,h with
 | [y],_=>rfl
theorem open_put {w:World} {q:Sd.St} (h:Mst w F m q) (hl:q.opens.length=1) (v:Bool):∃ w',(Instr.mapUpdate 215 (.map (some m.mo)) (.pointer (some ⟨m.qs.getD 0 0,0,none⟩)) (.int .i64 (if v then 1 else 0))).run Tryz.prog w=.ok () w'∧Mst w' F m { q with opens:=q.opens.set 0 v }∧Kept (fun j=>j=m.mo) w w':=by
 obtain ⟨U,R,k,c,o,hm,hp,hh,h1,h2,h3,h4,h5,h6,h7⟩:=h
 obtain ⟨w',e,ho,hg⟩:=hm.om.put Tryz.underlying215 Tryz.underlying82 (Tryz.sizeOf88 w) (if v then 1 else 0)
 have hk:Kept (fun j=>j=m.mo) w w':=(kept_grown (Kept.refl (fun _=>False) w) hg).mono fun j _ e=>(Option.some.inj e).symm
 have hop:opV (q.opens.set 0 v)=if v then 1 else 0:=by
  match q.opens,hl with
  | [y],_=>rfl
 refine ⟨w',e,⟨U,R,k,c,_,hm.opened hg ho,hp.patB (hk.mono fun j _ e=>.inr (.inl e)),hh.patB (hk.mono fun j _ e=>.inr (.inl e)),h1,h2,h3,h4,h5, ?_,h7⟩,hk⟩
 show _=opV (q.opens.set 0 v)
 rw [hop]
 rfl
theorem Mst.mbmo {w:World} {q:Sd.St} (h:Mst w F m q):m.mb≠m.mo∧m.mb < w.heap.size∧m.mo < w.heap.size:=by
 obtain ⟨U,R,k,c,o,hm,-⟩:=h
 exact ⟨hm.dist.1,hm.blk.lt,hm.om.lt⟩
theorem Mst.cells {w:World} {q:Sd.St} (h:Mst w F m q):w.cell? ⟨m.mb,3,none⟩=some (.map (some m.mo))∧w.cell? ⟨m.mb,6,none⟩=some (.int .i64 q.n):=by
 obtain ⟨U,R,k,c,o,hm,-,-,h1,-⟩:=h
 exact ⟨hm.blk.cell 3 rfl,by rw [← h1];exact hm.blk.cell 6 rfl⟩
theorem Mst.opens_ {w:World} {q:Sd.St} {l l':List Bool} (h:Mst w F m { q with opens:=l }) (e:opV l'=opV l):Mst w F m { q with opens:=l' }:=by
 obtain ⟨U,R,k,c,o,hm,hp,hh,h1,h2,h3,h4,h5,h6,h7⟩:=h
 exact ⟨U,R,k,c,o,hm,hp,hh,h1,h2,h3,h4,h5,h6.trans e.symm,h7⟩
theorem Mst.set15 {w:World} {q:Sd.St} (h:Mst w F m q) (b:Bool):(w.setCell ⟨m.mb,15,none⟩ (.bool b)).cell? ⟨m.mb,15,none⟩=some (.bool b):=by
 obtain ⟨U,R,k,c,o,hm,-⟩:=h
 exact Blk.cell (Blk.set hm.blk 15 (.bool b)) 15 (by simp [mcArr])
theorem chosen2_a0 {q:Sd.St} (w:World) (h:Mst w F m q) (hi:0 < m.cs.length) {x:Sd.Cmd} (hx:m.cs.getD 0 default=x) {a:Nat} {b:Sd.Adr} (ha:x.ads=[.num a,b]) (has:a≤1000000000) (hB:opV q.opens=0) (hf:q.n≠a) :
  Calls Tryz.prog 224 #[.pointer (some ⟨m.mb,0,none⟩),.pointer (some ⟨m.qs.getD 0 0,0,none⟩)] w fun e w'=>e=.returned (.bool x.neg)∧Mst w' F m q:=by
 have h1:=h.fin_ true
 obtain ⟨⟨b15,c15⟩,f15⟩:=h.cell15
 generalize hwq:w.setCell ⟨m.mb,15,none⟩ (.bool true)=w1 at *
 have h2:=h1.fin_ false
 obtain ⟨⟨b16,c16⟩,f16⟩:=h1.cell15
 generalize hwq2:w1.setCell ⟨m.mb,15,none⟩ (.bool false)=w2 at *
 obtain ⟨qi,hqi⟩:∃ qi,m.qs.getD 0 0=qi:=⟨_,rfl⟩
 obtain ⟨g0,cp0,po0,qa0,c1,-⟩:=h1.two hi hx ha hqi
 obtain ⟨g,cp,po,qa,c1b,-,-,-,-,d3,d4,d5,hac,hok⟩:=h2.two hi hx ha hqi
 obtain ⟨w3,hw3⟩:∃ w3,w2.alloc (.cells #[.int .i64 (kdOf b),.int .i64 (nOf b),.pointer po] 224)=w3:=⟨_,rfl⟩
 have hb3:Below w2.heap.size w2 w3:=by rw [← hw3];exact (Below.refl _ _).alloc (Nat.le_refl _) _
 have sk:Blk w3 w2.heap.size #[.int .i64 (kdOf b),.int .i64 (nOf b),.pointer po] 224:=by rw [← hw3];exact Blk.new _ _ _
 have hm3:=h2.below hb3
 have hok4:adOk w3 m.S b qa:=hok.kept (Kept.of_below (S:=fun _=>False) hb3) fun _ _ h=>h
 obtain ⟨m3,m6⟩:=hm3.cells
 have m3b:w3.drew.cell? ⟨m.mb,3,none⟩=some (.map (some m.mo)):=m3
 have m6b:w3.drew.cell? ⟨m.mb,6,none⟩=some (.int .i64 q.n):=m6
 have s0:=sk.cell 0 (v:=.int .i64 (kdOf b)) rfl
 have s1:=sk.cell 1 (v:=.int .i64 (nOf b)) rfl
 have t0:w3.drew.cell? ⟨w2.heap.size,0,none⟩=some (.int .i64 (kdOf b)):=s0
 have t1:w3.drew.cell? ⟨w2.heap.size,1,none⟩=some (.int .i64 (nOf b)):=s1
 have hmbl:=h2.mbmo
 have lk3:=open_look hm3
 have lk4:=fun k=>open_look (hm3.below (below_drewN w3 k))
 rw [hB] at lk3
 simp only [hB] at lk4
 rw [hqi] at lk3
 simp only [hqi] at lk4
 have HF:=Lib.hid hf
 clear hf
 have HQW:=Lib.hid hwq
 have HQW2:=Lib.hid hwq2
 have HW3:=Lib.hid hw3
 have HM4:=Lib.hid hm3
 have HSK:=Lib.hid sk
 have HOK:=Lib.hid hok4
 have HAC:=Lib.hid hac
 have HX:=Lib.hid hx
 have HA:=Lib.hid ha
 have HQI:=Lib.hid hqi
 have HB:=Lib.hid hB
 have HMB:=Lib.hid hmbl
 rw [hqi]
 clear h h1 h2 hm3 hb3 sk hok hok4 hac hx ha hwq hwq2 hw3 hqi hB hmbl
 go_enter Tryz.func224,Tryz.ntmps224
 go_upto_region 2 with fail
 rw [HQW.out]
 go_upto_region 8 with fail
 rw [HQW2.out]
 go_upto_region 9 with fail
 rw [HW3.out]
 go_quiet (fail)
 all_goals
  clear c15 f15 c16 f16 c1 c1b d3 d4 d5 m3 m3b m6 m6b s0 s1 t0 t1 lk3 lk4
  obtain ⟨w4,hw4⟩:∃ w4,w3.drewN nq=w4:=⟨_,rfl⟩
  have hm4:=HM4.out.below (below_drewN w3 nq)
  have sk4:=HSK.out.drewN nq
  have hok4:=HOK.out.kept (Kept.of_below (S:=fun _=>False) (below_drewN w3 nq)) fun _ _ h=>h
  rw [hw4] at hm4 sk4 hok4
  first | rw [hw4] | skip
  clear hw4
  have m3c:=hm4.cells.1
  have lkc:=open_look hm4
  rw [HB.out,HQI.out] at lkc
  obtain ⟨g1,cp1,po1,qa1,e1,-,e2,e3,e4,-⟩:=hm4.two hi HX.out HA.out HQI.out
  have hfit:=fits_st (F:=F) (m:=m) w4 hm4 (.num a) none trivial (fun n e=>by cases e;exact has)
  rw [show Sd.fits q (.num a)=false from by unfold Sd.fits;simpa using HF.out,show (Value.agg (adCells (.num a) none).toArray)=.agg #[.int .i64 1,.int .i64 a,.pointer none] from rfl] at hfit
  have HSK4:=Lib.hid sk4
  have HLT:=Lib.hid sk4.lt
  clear hm4 sk4 hok4
  go_wp2_with fail
  refine hfit.mono ?_
  rintro e w6 ⟨rfl,hm6,hb6⟩
  clear hfit m3c lkc e1 e2 e3 e4
  obtain ⟨g2,cp2,po2,qa2,-,e5,-⟩:=hm6.two hi HX.out HA.out HQI.out
  have HM6:=Lib.hid hm6
  clear hm6 hb6
  go_wp2_with fail
  go_ret
  exact ⟨rfl,HM6.out⟩
theorem chosen2_a1 {q:Sd.St} (w:World) (h:Mst w F m q) (hi:0 < m.cs.length) {x:Sd.Cmd} (hx:m.cs.getD 0 default=x) {a:Nat} {b:Sd.Adr} (ha:x.ads=[.num a,b]) (has:a≤1000000000) (hol:q.opens.length=1) (hB:opV q.opens=0) (hf:q.n=a) (hkd:kdOf b=1) (hn:nOf b≤q.n) :
  Calls Tryz.prog 224 #[.pointer (some ⟨m.mb,0,none⟩),.pointer (some ⟨m.qs.getD 0 0,0,none⟩)] w fun e w'=>e=.returned (.bool !x.neg)∧Mst w' F m { q with opens:=q.opens.set 0 false }:=by
 have h1:=h.fin_ true
 obtain ⟨⟨b15,c15⟩,f15⟩:=h.cell15
 generalize hwq:w.setCell ⟨m.mb,15,none⟩ (.bool true)=w1 at *
 have h2:=h1.fin_ false
 obtain ⟨⟨b16,c16⟩,f16⟩:=h1.cell15
 generalize hwq2:w1.setCell ⟨m.mb,15,none⟩ (.bool false)=w2 at *
 obtain ⟨qi,hqi⟩:∃ qi,m.qs.getD 0 0=qi:=⟨_,rfl⟩
 obtain ⟨g0,cp0,po0,qa0,c1,-⟩:=h1.two hi hx ha hqi
 obtain ⟨g,cp,po,qa,c1b,-,-,-,-,d3,d4,d5,hac,hok⟩:=h2.two hi hx ha hqi
 obtain ⟨w3,hw3⟩:∃ w3,w2.alloc (.cells #[.int .i64 (kdOf b),.int .i64 (nOf b),.pointer po] 224)=w3:=⟨_,rfl⟩
 have hb3:Below w2.heap.size w2 w3:=by rw [← hw3];exact (Below.refl _ _).alloc (Nat.le_refl _) _
 have sk:Blk w3 w2.heap.size #[.int .i64 (kdOf b),.int .i64 (nOf b),.pointer po] 224:=by rw [← hw3];exact Blk.new _ _ _
 have hm3:=h2.below hb3
 have hok4:adOk w3 m.S b qa:=hok.kept (Kept.of_below (S:=fun _=>False) hb3) fun _ _ h=>h
 obtain ⟨m3,m6⟩:=hm3.cells
 have m3b:w3.drew.cell? ⟨m.mb,3,none⟩=some (.map (some m.mo)):=m3
 have m6b:w3.drew.cell? ⟨m.mb,6,none⟩=some (.int .i64 q.n):=m6
 have s0:=sk.cell 0 (v:=.int .i64 (kdOf b)) rfl
 have s1:=sk.cell 1 (v:=.int .i64 (nOf b)) rfl
 have t0:w3.drew.cell? ⟨w2.heap.size,0,none⟩=some (.int .i64 (kdOf b)):=s0
 have t1:w3.drew.cell? ⟨w2.heap.size,1,none⟩=some (.int .i64 (nOf b)):=s1
 have hmbl:=h2.mbmo
 have lk3:=open_look hm3
 have lk4:=fun k=>open_look (hm3.below (below_drewN w3 k))
 rw [hB] at lk3
 simp only [hB] at lk4
 rw [hqi] at lk3
 simp only [hqi] at lk4
 have HF:=Lib.hid hf
 clear hf
 have HKD:=Lib.hid hkd
 clear hkd
 have HQW:=Lib.hid hwq
 have HQW2:=Lib.hid hwq2
 have HW3:=Lib.hid hw3
 have HM4:=Lib.hid hm3
 have HSK:=Lib.hid sk
 have HOK:=Lib.hid hok4
 have HAC:=Lib.hid hac
 have HX:=Lib.hid hx
 have HA:=Lib.hid ha
 have HQI:=Lib.hid hqi
 have HB:=Lib.hid hB
 have HMB:=Lib.hid hmbl
 rw [hqi]
 clear h h1 h2 hm3 hb3 sk hok hok4 hac hx ha hwq hwq2 hw3 hqi hB hmbl
 go_enter Tryz.func224,Tryz.ntmps224
 go_upto_region 2 with fail
 rw [HQW.out]
 go_upto_region 8 with fail
 rw [HQW2.out]
 go_upto_region 9 with fail
 rw [HW3.out]
 go_quiet (fail)
 all_goals
  clear c15 f15 c16 f16 c1 c1b d3 d4 d5 m3 m3b m6 m6b s0 s1 t0 t1 lk3 lk4
  obtain ⟨w4,hw4⟩:∃ w4,w3.drewN nq=w4:=⟨_,rfl⟩
  have hm4:=HM4.out.below (below_drewN w3 nq)
  have sk4:=HSK.out.drewN nq
  have hok4:=HOK.out.kept (Kept.of_below (S:=fun _=>False) (below_drewN w3 nq)) fun _ _ h=>h
  rw [hw4] at hm4 sk4 hok4
  first | rw [hw4] | skip
  clear hw4
  have hn2:((nOf b:Nat):Int)≤(q.n:Int):=by omega
  have m3c:=hm4.cells.1
  have lkc:=open_look hm4
  rw [HB.out,HQI.out] at lkc
  obtain ⟨g1,cp1,po1,qa1,e1,-,e2,e3,e4,-⟩:=hm4.two hi HX.out HA.out HQI.out
  have hfit:=fits_st (F:=F) (m:=m) w4 hm4 (.num a) none trivial (fun n e=>by cases e;exact has)
  rw [show Sd.fits q (.num a)=true from by unfold Sd.fits;simpa using HF.out,show (Value.agg (adCells (.num a) none).toArray)=.agg #[.int .i64 1,.int .i64 a,.pointer none] from rfl] at hfit
  have HSK4:=Lib.hid sk4
  have HLT:=Lib.hid sk4.lt
  clear hm4 sk4 hok4
  go_wp2_with fail
  refine hfit.mono ?_
  rintro e w6 ⟨rfl,hm6,hb6⟩
  clear hfit m3c lkc e1 e2 e3 e4
  have hm7:=hm6.fin_ true
  have c15s:=Lib.hid (hm6.set15 true)
  obtain ⟨⟨b17,c17⟩,f17⟩:=hm6.cell15
  have c17b:w6.drew.cell? ⟨m.mb,15,none⟩=some (.bool b17):=c17
  have f17b:w6.drew.frozen? ⟨m.mb,15,none⟩=false:=f17
  have sk6:=HSK4.out.keep (hb6 a rfl) HLT.out
  have s0:=sk6.cell 0 (v:=.int .i64 (kdOf b)) rfl
  have s1:=sk6.cell 1 (v:=.int .i64 (nOf b)) rfl
  have t0:w6.drew.cell? ⟨w2.heap.size,0,none⟩=some (.int .i64 (kdOf b)):=s0
  have t1:w6.drew.cell? ⟨w2.heap.size,1,none⟩=some (.int .i64 (nOf b)):=s1
  have m6c:=hm6.cells.2
  have m6d:w6.drew.cell? ⟨m.mb,6,none⟩=some (.int .i64 q.n):=m6c
  rw [HKD.out] at s0 t0
  have HM7:=Lib.hid hm7
  clear hm6 hm7 hb6 sk6
  go_upto_region 14 with fail
  go_region
  all_goals
   clear c17 f17 c17b f17b s0 s1 t0 t1 m6c m6d
   obtain ⟨w8,hw8⟩:∃ w8,(w6.setCell ⟨m.mb,15,none⟩ (.bool true)).drew=w8:=⟨_,rfl⟩
   have hm8:=HM7.out.below (below_drew2 _)
   have c15:w8.cell? ⟨m.mb,15,none⟩=some (.bool true):=by
    rw [← hw8]
    exact c15s.out
   rw [hw8] at hm8
   first | rw [hw8] | skip
   clear hw8
   obtain ⟨w9,hp9,hm9,hk9⟩:=open_put hm8 hol true
   simp only [if_true] at hp9
   rw [HQI.out] at hp9
   have m38:=hm8.cells.1
   have m39:=hm9.cells.1
   have c15b:w9.cell? ⟨m.mb,15,none⟩=some (.bool true):=(World.cell?_of_block (hk9.block m.mb hm8.mbmo.2.1 HMB.out.1)).trans c15
   obtain ⟨wA,hpA,hmA,-⟩:=open_put hm9 (by rw [List.length_set];exact hol) false
   simp only [if_false,Bool.false_eq_true] at hpA
   rw [HQI.out] at hpA
   obtain ⟨g3,cp3,po3,qa3,-,e7,-⟩:=hmA.two hi HX.out HA.out HQI.out
   have HMA:=Lib.hid hmA
   clear hm8 hm9 hk9 hmA
   go_wp2_with fail
   go_ret
   exact ⟨rfl,HMA.out.opens_ (by simp [opV,List.getD_eq_getElem?_getD])⟩
theorem chosen2_a2 {q:Sd.St} (w:World) (h:Mst w F m q) (hi:0 < m.cs.length) {x:Sd.Cmd} (hx:m.cs.getD 0 default=x) {a:Nat} {b:Sd.Adr} (ha:x.ads=[.num a,b]) (has:a≤1000000000) (hol:q.opens.length=1) (hB:opV q.opens=0) (hf:q.n=a) (hkd:kdOf b=1) (hn:¬ nOf b≤q.n) :
  Calls Tryz.prog 224 #[.pointer (some ⟨m.mb,0,none⟩),.pointer (some ⟨m.qs.getD 0 0,0,none⟩)] w fun e w'=>e=.returned (.bool !x.neg)∧Mst w' F m { q with opens:=q.opens.set 0 true }:=by
 have h1:=h.fin_ true
 obtain ⟨⟨b15,c15⟩,f15⟩:=h.cell15
 generalize hwq:w.setCell ⟨m.mb,15,none⟩ (.bool true)=w1 at *
 have h2:=h1.fin_ false
 obtain ⟨⟨b16,c16⟩,f16⟩:=h1.cell15
 generalize hwq2:w1.setCell ⟨m.mb,15,none⟩ (.bool false)=w2 at *
 obtain ⟨qi,hqi⟩:∃ qi,m.qs.getD 0 0=qi:=⟨_,rfl⟩
 obtain ⟨g0,cp0,po0,qa0,c1,-⟩:=h1.two hi hx ha hqi
 obtain ⟨g,cp,po,qa,c1b,-,-,-,-,d3,d4,d5,hac,hok⟩:=h2.two hi hx ha hqi
 obtain ⟨w3,hw3⟩:∃ w3,w2.alloc (.cells #[.int .i64 (kdOf b),.int .i64 (nOf b),.pointer po] 224)=w3:=⟨_,rfl⟩
 have hb3:Below w2.heap.size w2 w3:=by rw [← hw3];exact (Below.refl _ _).alloc (Nat.le_refl _) _
 have sk:Blk w3 w2.heap.size #[.int .i64 (kdOf b),.int .i64 (nOf b),.pointer po] 224:=by rw [← hw3];exact Blk.new _ _ _
 have hm3:=h2.below hb3
 have hok4:adOk w3 m.S b qa:=hok.kept (Kept.of_below (S:=fun _=>False) hb3) fun _ _ h=>h
 obtain ⟨m3,m6⟩:=hm3.cells
 have m3b:w3.drew.cell? ⟨m.mb,3,none⟩=some (.map (some m.mo)):=m3
 have m6b:w3.drew.cell? ⟨m.mb,6,none⟩=some (.int .i64 q.n):=m6
 have s0:=sk.cell 0 (v:=.int .i64 (kdOf b)) rfl
 have s1:=sk.cell 1 (v:=.int .i64 (nOf b)) rfl
 have t0:w3.drew.cell? ⟨w2.heap.size,0,none⟩=some (.int .i64 (kdOf b)):=s0
 have t1:w3.drew.cell? ⟨w2.heap.size,1,none⟩=some (.int .i64 (nOf b)):=s1
 have hmbl:=h2.mbmo
 have lk3:=open_look hm3
 have lk4:=fun k=>open_look (hm3.below (below_drewN w3 k))
 rw [hB] at lk3
 simp only [hB] at lk4
 rw [hqi] at lk3
 simp only [hqi] at lk4
 have HF:=Lib.hid hf
 clear hf
 have HKD:=Lib.hid hkd
 clear hkd
 have HQW:=Lib.hid hwq
 have HQW2:=Lib.hid hwq2
 have HW3:=Lib.hid hw3
 have HM4:=Lib.hid hm3
 have HSK:=Lib.hid sk
 have HOK:=Lib.hid hok4
 have HAC:=Lib.hid hac
 have HX:=Lib.hid hx
 have HA:=Lib.hid ha
 have HQI:=Lib.hid hqi
 have HB:=Lib.hid hB
 have HMB:=Lib.hid hmbl
 rw [hqi]
 clear h h1 h2 hm3 hb3 sk hok hok4 hac hx ha hwq hwq2 hw3 hqi hB hmbl
 go_enter Tryz.func224,Tryz.ntmps224
 go_upto_region 2 with fail
 rw [HQW.out]
 go_upto_region 8 with fail
 rw [HQW2.out]
 go_upto_region 9 with fail
 rw [HW3.out]
 go_quiet (fail)
 all_goals
  clear c15 f15 c16 f16 c1 c1b d3 d4 d5 m3 m3b m6 m6b s0 s1 t0 t1 lk3 lk4
  obtain ⟨w4,hw4⟩:∃ w4,w3.drewN nq=w4:=⟨_,rfl⟩
  have hm4:=HM4.out.below (below_drewN w3 nq)
  have sk4:=HSK.out.drewN nq
  have hok4:=HOK.out.kept (Kept.of_below (S:=fun _=>False) (below_drewN w3 nq)) fun _ _ h=>h
  rw [hw4] at hm4 sk4 hok4
  first | rw [hw4] | skip
  clear hw4
  have hn2:¬ ((nOf b:Nat):Int)≤(q.n:Int):=by omega
  have m3c:=hm4.cells.1
  have lkc:=open_look hm4
  rw [HB.out,HQI.out] at lkc
  obtain ⟨g1,cp1,po1,qa1,e1,-,e2,e3,e4,-⟩:=hm4.two hi HX.out HA.out HQI.out
  have hfit:=fits_st (F:=F) (m:=m) w4 hm4 (.num a) none trivial (fun n e=>by cases e;exact has)
  rw [show Sd.fits q (.num a)=true from by unfold Sd.fits;simpa using HF.out,show (Value.agg (adCells (.num a) none).toArray)=.agg #[.int .i64 1,.int .i64 a,.pointer none] from rfl] at hfit
  have HSK4:=Lib.hid sk4
  have HLT:=Lib.hid sk4.lt
  clear hm4 sk4 hok4
  go_wp2_with fail
  refine hfit.mono ?_
  rintro e w6 ⟨rfl,hm6,hb6⟩
  clear hfit m3c lkc e1 e2 e3 e4
  have hm7:=hm6.fin_ false
  have c15s:=Lib.hid (hm6.set15 false)
  obtain ⟨⟨b17,c17⟩,f17⟩:=hm6.cell15
  have c17b:w6.drew.cell? ⟨m.mb,15,none⟩=some (.bool b17):=c17
  have f17b:w6.drew.frozen? ⟨m.mb,15,none⟩=false:=f17
  have sk6:=HSK4.out.keep (hb6 a rfl) HLT.out
  have s0:=sk6.cell 0 (v:=.int .i64 (kdOf b)) rfl
  have s1:=sk6.cell 1 (v:=.int .i64 (nOf b)) rfl
  have t0:w6.drew.cell? ⟨w2.heap.size,0,none⟩=some (.int .i64 (kdOf b)):=s0
  have t1:w6.drew.cell? ⟨w2.heap.size,1,none⟩=some (.int .i64 (nOf b)):=s1
  have m6c:=hm6.cells.2
  have m6d:w6.drew.cell? ⟨m.mb,6,none⟩=some (.int .i64 q.n):=m6c
  rw [HKD.out] at s0 t0
  have HM7:=Lib.hid hm7
  clear hm6 hm7 hb6 sk6
  go_upto_region 14 with fail
  go_region
  all_goals
   clear c17 f17 c17b f17b s0 s1 t0 t1 m6c m6d
   obtain ⟨w8,hw8⟩:∃ w8,(w6.setCell ⟨m.mb,15,none⟩ (.bool false)).drew=w8:=⟨_,rfl⟩
   have hm8:=HM7.out.below (below_drew2 _)
   have c15:w8.cell? ⟨m.mb,15,none⟩=some (.bool false):=by
    rw [← hw8]
    exact c15s.out
   rw [hw8] at hm8
   first | rw [hw8] | skip
   clear hw8
   obtain ⟨w9,hp9,hm9,hk9⟩:=open_put hm8 hol true
   simp only [if_true] at hp9
   rw [HQI.out] at hp9
   have m38:=hm8.cells.1
   have m39:=hm9.cells.1
   have c15b:w9.cell? ⟨m.mb,15,none⟩=some (.bool false):=(World.cell?_of_block (hk9.block m.mb hm8.mbmo.2.1 HMB.out.1)).trans c15
   obtain ⟨g3,cp3,po3,qa3,-,e7,-⟩:=hm9.two hi HX.out HA.out HQI.out
   have HMA:=Lib.hid hm9
   clear hm8 hm9 hk9
   go_wp2_with fail
   go_ret
   exact ⟨rfl,HMA.out.opens_ (by simp [opV,List.getD_eq_getElem?_getD])⟩
theorem chosen2_a3 {q:Sd.St} (w:World) (h:Mst w F m q) (hi:0 < m.cs.length) {x:Sd.Cmd} (hx:m.cs.getD 0 default=x) {a:Nat} {b:Sd.Adr} (ha:x.ads=[.num a,b]) (has:a≤1000000000) (hol:q.opens.length=1) (hB:opV q.opens=0) (hf:q.n=a) (hkd:kdOf b=3) :
  Calls Tryz.prog 224 #[.pointer (some ⟨m.mb,0,none⟩),.pointer (some ⟨m.qs.getD 0 0,0,none⟩)] w fun e w'=>e=.returned (.bool !x.neg)∧Mst w' F m { q with opens:=q.opens.set 0 true }:=by
 have h1:=h.fin_ true
 obtain ⟨⟨b15,c15⟩,f15⟩:=h.cell15
 generalize hwq:w.setCell ⟨m.mb,15,none⟩ (.bool true)=w1 at *
 have h2:=h1.fin_ false
 obtain ⟨⟨b16,c16⟩,f16⟩:=h1.cell15
 generalize hwq2:w1.setCell ⟨m.mb,15,none⟩ (.bool false)=w2 at *
 obtain ⟨qi,hqi⟩:∃ qi,m.qs.getD 0 0=qi:=⟨_,rfl⟩
 obtain ⟨g0,cp0,po0,qa0,c1,-⟩:=h1.two hi hx ha hqi
 obtain ⟨g,cp,po,qa,c1b,-,-,-,-,d3,d4,d5,hac,hok⟩:=h2.two hi hx ha hqi
 obtain ⟨w3,hw3⟩:∃ w3,w2.alloc (.cells #[.int .i64 (kdOf b),.int .i64 (nOf b),.pointer po] 224)=w3:=⟨_,rfl⟩
 have hb3:Below w2.heap.size w2 w3:=by rw [← hw3];exact (Below.refl _ _).alloc (Nat.le_refl _) _
 have sk:Blk w3 w2.heap.size #[.int .i64 (kdOf b),.int .i64 (nOf b),.pointer po] 224:=by rw [← hw3];exact Blk.new _ _ _
 have hm3:=h2.below hb3
 have hok4:adOk w3 m.S b qa:=hok.kept (Kept.of_below (S:=fun _=>False) hb3) fun _ _ h=>h
 obtain ⟨m3,m6⟩:=hm3.cells
 have m3b:w3.drew.cell? ⟨m.mb,3,none⟩=some (.map (some m.mo)):=m3
 have m6b:w3.drew.cell? ⟨m.mb,6,none⟩=some (.int .i64 q.n):=m6
 have s0:=sk.cell 0 (v:=.int .i64 (kdOf b)) rfl
 have s1:=sk.cell 1 (v:=.int .i64 (nOf b)) rfl
 have t0:w3.drew.cell? ⟨w2.heap.size,0,none⟩=some (.int .i64 (kdOf b)):=s0
 have t1:w3.drew.cell? ⟨w2.heap.size,1,none⟩=some (.int .i64 (nOf b)):=s1
 have hmbl:=h2.mbmo
 have lk3:=open_look hm3
 have lk4:=fun k=>open_look (hm3.below (below_drewN w3 k))
 rw [hB] at lk3
 simp only [hB] at lk4
 rw [hqi] at lk3
 simp only [hqi] at lk4
 have HF:=Lib.hid hf
 clear hf
 have HKD:=Lib.hid hkd
 clear hkd
 have HQW:=Lib.hid hwq
 have HQW2:=Lib.hid hwq2
 have HW3:=Lib.hid hw3
 have HM4:=Lib.hid hm3
 have HSK:=Lib.hid sk
 have HOK:=Lib.hid hok4
 have HAC:=Lib.hid hac
 have HX:=Lib.hid hx
 have HA:=Lib.hid ha
 have HQI:=Lib.hid hqi
 have HB:=Lib.hid hB
 have HMB:=Lib.hid hmbl
 rw [hqi]
 clear h h1 h2 hm3 hb3 sk hok hok4 hac hx ha hwq hwq2 hw3 hqi hB hmbl
 go_enter Tryz.func224,Tryz.ntmps224
 go_upto_region 2 with fail
 rw [HQW.out]
 go_upto_region 8 with fail
 rw [HQW2.out]
 go_upto_region 9 with fail
 rw [HW3.out]
 go_quiet (fail)
 all_goals
  clear c15 f15 c16 f16 c1 c1b d3 d4 d5 m3 m3b m6 m6b s0 s1 t0 t1 lk3 lk4
  obtain ⟨w4,hw4⟩:∃ w4,w3.drewN nq=w4:=⟨_,rfl⟩
  have hm4:=HM4.out.below (below_drewN w3 nq)
  have sk4:=HSK.out.drewN nq
  have hok4:=HOK.out.kept (Kept.of_below (S:=fun _=>False) (below_drewN w3 nq)) fun _ _ h=>h
  rw [hw4] at hm4 sk4 hok4
  first | rw [hw4] | skip
  clear hw4
  have m3c:=hm4.cells.1
  have lkc:=open_look hm4
  rw [HB.out,HQI.out] at lkc
  obtain ⟨g1,cp1,po1,qa1,e1,-,e2,e3,e4,-⟩:=hm4.two hi HX.out HA.out HQI.out
  have hfit:=fits_st (F:=F) (m:=m) w4 hm4 (.num a) none trivial (fun n e=>by cases e;exact has)
  rw [show Sd.fits q (.num a)=true from by unfold Sd.fits;simpa using HF.out,show (Value.agg (adCells (.num a) none).toArray)=.agg #[.int .i64 1,.int .i64 a,.pointer none] from rfl] at hfit
  have HSK4:=Lib.hid sk4
  have HLT:=Lib.hid sk4.lt
  clear hm4 sk4 hok4
  go_wp2_with fail
  refine hfit.mono ?_
  rintro e w6 ⟨rfl,hm6,hb6⟩
  clear hfit m3c lkc e1 e2 e3 e4
  have hm7:=hm6.fin_ false
  have c15s:=Lib.hid (hm6.set15 false)
  obtain ⟨⟨b17,c17⟩,f17⟩:=hm6.cell15
  have c17b:w6.drew.cell? ⟨m.mb,15,none⟩=some (.bool b17):=c17
  have f17b:w6.drew.frozen? ⟨m.mb,15,none⟩=false:=f17
  have sk6:=HSK4.out.keep (hb6 a rfl) HLT.out
  have s0:=sk6.cell 0 (v:=.int .i64 (kdOf b)) rfl
  have s1:=sk6.cell 1 (v:=.int .i64 (nOf b)) rfl
  have t0:w6.drew.cell? ⟨w2.heap.size,0,none⟩=some (.int .i64 (kdOf b)):=s0
  have t1:w6.drew.cell? ⟨w2.heap.size,1,none⟩=some (.int .i64 (nOf b)):=s1
  have m6c:=hm6.cells.2
  have m6d:w6.drew.cell? ⟨m.mb,6,none⟩=some (.int .i64 q.n):=m6c
  rw [HKD.out] at s0 t0
  have z1:((3:Int) == 1)=false:=rfl
  have z2:((3:Int)=1)=False:=by decide
  have z3:decide ((3:Int)=1)=false:=rfl
  have HM7:=Lib.hid hm7
  clear hm6 hm7 hb6 sk6
  go_upto_region 14 with fail
  go_region
  all_goals
   clear c17 f17 c17b f17b s0 s1 t0 t1 m6c m6d
   obtain ⟨w8,hw8⟩:∃ w8,(w6.setCell ⟨m.mb,15,none⟩ (.bool false)).drew=w8:=⟨_,rfl⟩
   have hm8:=HM7.out.below (below_drew2 _)
   have c15:w8.cell? ⟨m.mb,15,none⟩=some (.bool false):=by
    rw [← hw8]
    exact c15s.out
   rw [hw8] at hm8
   first | rw [hw8] | skip
   clear hw8
   obtain ⟨w9,hp9,hm9,hk9⟩:=open_put hm8 hol true
   simp only [if_true] at hp9
   rw [HQI.out] at hp9
   have m38:=hm8.cells.1
   have m39:=hm9.cells.1
   have c15b:w9.cell? ⟨m.mb,15,none⟩=some (.bool false):=(World.cell?_of_block (hk9.block m.mb hm8.mbmo.2.1 HMB.out.1)).trans c15
   obtain ⟨g3,cp3,po3,qa3,-,e7,-⟩:=hm9.two hi HX.out HA.out HQI.out
   have HMA:=Lib.hid hm9
   clear hm8 hm9 hk9
   go_wp2_with fail
   go_ret
   exact ⟨rfl,HMA.out.opens_ (by simp [opV,List.getD_eq_getElem?_getD])⟩
end Go.Proofs.YtefpcacnblaokaaGreatDoor
