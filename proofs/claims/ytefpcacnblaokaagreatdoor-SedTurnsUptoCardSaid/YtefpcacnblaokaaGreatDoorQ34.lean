/-
  Texts of this seat put together: SdA, O2, O3, O4.
-/
import Derived.Test.YtefpcacnblaokaaGreatDoorQ33
import Derived.Test.YtefpcacnblaokaaGreatDoorQ31
import Derived.Test.YtefpcacnblaokaaGreatDoorQ32
import Derived.WalkMore
import Derived.RangeFuncNested

/-
  The walks of sed's Start and Run. Conditions: a job without nodes; what Start's machine does (Starts).
-/
set_option maxRecDepth 100000
set_option maxHeartbeats 8000000
namespace Go.Proofs.YtefpcacnblaokaaGreatDoor
open Go.RowKit Go.Shelf Go.Maps
theorem start_sed (F:Fx) (M:Nat→Prop) (inp:Bts) (rest:List Bts) (ha:F.args=[115,101,100] :: rest) (w:World) (h:PrAt w F M inp [] []) :
  Calls Tryz.prog 28 #[.pointer (some ⟨F.p,0,none⟩)] w fun e w'=>∃ mb,e=.returned (.pointer (some ⟨mb,0,none⟩))∧w.heap.size≤mb∧MachAt w' mb F.p 52 false 0∧Below w.heap.size w w':=by
 have hargs:=args_any F M inp [] [] w h
 rw [ha] at hargs
 have H:=Lib.hid h
 clear h
 go_enter Tryz.func28,Tryz.ntmps28
 go_wp2_with fail
 refine hargs.mono ?_
 rintro e w1 ⟨v,rfl,ho1,hb1⟩
 clear hargs
 obtain ⟨g,c,rfl,-,-,-,hc⟩:=strs_cell ho1 0 (by simp)
 have c0:=hc 0 (by simp)
 simp only [List.getD_cons_zero,strV] at c0
 have hlen:(0:Int) < (([115,101,100] :: rest:List Bts).length:Nat):=by simp
 have hgo:=go_any F M inp [] [] 52 w1 (H.out.below hb1)
 have HB:=Lib.hid hb1
 clear ho1 hb1 hc
 go_wp2_with fail
 refine hgo.mono ?_
 rintro e w2 ⟨rfl,hma,hb2⟩
 have HM:=Lib.hid hma
 have HB2:=Lib.hid hb2
 clear hgo hma hb2
 go_wp2_with fail
 go_ret
 exact ⟨_,rfl,HB.out.size,HM.out,HB.out.trans (HB2.out.mono HB.out.size)⟩
theorem sedRun_any (l:List Bts) (hne:l≠[]) (hll:l.length < 1073741824) (pa:Option Addr) (ca:Nat) (pi:Option Addr) (ci:Nat) (inp:Bts) (hin:inp.length≤4294967296) (buf line run:Nat) (h1:1≤buf) (h2:1≤line) (h3:line≤run) (h4:run≤1099511627776) (h5:buf≤1099511627776)
  (Q:Int→Bts→Bts→Prop) (m:Int) (w:World) (hst:∀ w1,Below w.heap.size w w1→Starts w1 28 l buf line run inp Q) (hQ:∀ st o e,Q st o e→o.length≤4294967296∧e.length≤4294967296) (hm:w.cell? ⟨2,0,none⟩=some (.int .i64 m)) (ha:Ss w pa l) (hi:Bs w pi inp) :
  Calls Tryz.prog 16 #[jobV (.slice pa l.length ca) (.slice pi inp.length ci) buf line run] w fun e w'=>∃ ov ev st steps peak out err,e=.returned (.tuple #[.agg #[ov,ev,.int .i64 st,.slice none 0 0,.int .i64 steps,.int .i64 peak,.int .i64 0],.bool true])∧Sl w' (fun g=>w.heap.size≤g) ov out∧Sl w' (fun g=>w.heap.size≤g) ev err∧Q st out err∧Below w.heap.size w w':=by
 have hsg:∀ (args:Array Value) (w:World),(callFunc 28 args).run Tryz.prog w=.ok (.enter 28 args) w:=enters_of Tryz.func28 (by kernel_rfl) rfl
 obtain ⟨w1,hw1⟩:∃ w1,(w.alloc (.cells #[.slice pa l.length ca,.slice none 0 0,.string ⟨#[]⟩,.slice pi inp.length ci,.slice none 0 0,.int .i64 buf,.int .i64 line,.int .i64 run,.slice none 0 0,.int .i64 0,.slice none 0 0] 32)).alloc (.cells #[.slice none 0 0,.slice none 0 0,.int .i64 0,.slice none 0 0,.int .i64 0,.int .i64 0,.int .i64 0] 35)=w1:=⟨_,rfl⟩
 have hb1:Below w.heap.size w w1:=by rw [← hw1];exact ((Below.refl _ _).alloc (Nat.le_refl _) _).alloc (by simp) _
 have kj1:Blk w1 w.heap.size #[.slice pa l.length ca,.slice none 0 0,.string ⟨#[]⟩,.slice pi inp.length ci,.slice none 0 0,.int .i64 buf,.int .i64 line,.int .i64 run,.slice none 0 0,.int .i64 0,.slice none 0 0] 32:=by rw [← hw1];exact (Blk.new _ _ _).alloc _
 have kr1:Blk w1 (w.heap.size+1) #[.slice none 0 0,.slice none 0 0,.int .i64 0,.slice none 0 0,.int .i64 0,.int .i64 0,.int .i64 0] 35:=by
  rw [← hw1]
  have:=Blk.new (w.alloc (.cells #[.slice pa l.length ca,.slice none 0 0,.string ⟨#[]⟩,.slice pi inp.length ci,.slice none 0 0,.int .i64 buf,.int .i64 line,.int .i64 run,.slice none 0 0,.int .i64 0,.slice none 0 0] 32)) #[.slice none 0 0,.slice none 0 0,.int .i64 0,.slice none 0 0,.int .i64 0,.int .i64 0,.int .i64 0] 35
  simpa only [World.size_alloc] using this
 have hs1:w1.heap.size=w.heap.size+1+1:=by rw [← hw1];simp
 have hrun:=run_any l hne hll pa ca pi ci inp hin buf line run h1 h2 h3 h4 h5 _ hsg Q m w1 (hst w1 hb1) hQ ((hb1.cell (p:=⟨2,0,none⟩) (World.block_lt_of_cell? _ _ hm)).trans hm) (ha.below hb1) (hi.below hb1 (Nat.le_refl _))
 have HB:=Lib.hid hb1
 have HR:=Lib.hid kr1
 have HS:=Lib.hid hs1
 have j0:=kj1.cell 0 (v:=.slice pa l.length ca) rfl
 have j1:=kj1.cell 1 (v:=.slice none 0 0) rfl
 have j2:=kj1.cell 2 (v:=.string ⟨#[]⟩) rfl
 have j3:=kj1.cell 3 (v:=.slice pi inp.length ci) rfl
 have j4:=kj1.cell 4 (v:=.slice none 0 0) rfl
 have j5:=kj1.cell 5 (v:=.int .i64 buf) rfl
 have j6:=kj1.cell 6 (v:=.int .i64 line) rfl
 have j7:=kj1.cell 7 (v:=.int .i64 run) rfl
 have j8:=kj1.cell 8 (v:=.slice none 0 0) rfl
 have j9:=kj1.cell 9 (v:=.int .i64 0) rfl
 have j10:=kj1.cell 10 (v:=.slice none 0 0) rfl
 clear hst hm ha hi hb1 kj1 kr1 hsg hs1
 unfold jobV at *
 go_enter Tryz.func16,Tryz.ntmps16
 go_wp2_with fail
 try rw [hw1]
 refine hrun.mono ?_
 rintro e w2 ⟨ov,ev,st,steps,peak,out,err,rfl,so,se,hq,hb2⟩
 obtain ⟨p1,c1,rfl,-,-⟩:=id so.bs
 obtain ⟨p2,c2,rfl,-,-⟩:=id se.bs
 have hr2:=HR.out.keep hb2 HR.out.lt
 have z0:=hr2.cell 0 (v:=.slice none 0 0) rfl
 have y0:=hr2.free 0
 have z1:=hr2.cell 1 (v:=.slice none 0 0) rfl
 have y1:=hr2.free 1
 have z2:=hr2.cell 2 (v:=.int .i64 0) rfl
 have y2:=hr2.free 2
 have z3:=hr2.cell 3 (v:=.slice none 0 0) rfl
 have y3:=hr2.free 3
 have z4:=hr2.cell 4 (v:=.int .i64 0) rfl
 have y4:=hr2.free 4
 have z5:=hr2.cell 5 (v:=.int .i64 0) rfl
 have y5:=hr2.free 5
 have z6:=hr2.cell 6 (v:=.int .i64 0) rfl
 have y6:=hr2.free 6
 obtain ⟨w3,hw3⟩:∃ w3,(((((((w2.setCell ⟨w.heap.size+1,0,none⟩ (.slice p1 out.length c1)).setCell ⟨w.heap.size+1,1,none⟩ (.slice p2 err.length c2)).setCell ⟨w.heap.size+1,2,none⟩ (.int .i64 st)).setCell ⟨w.heap.size+1,3,none⟩ (.slice none 0 0)).setCell ⟨w.heap.size+1,4,none⟩ (.int .i64 steps)).setCell ⟨w.heap.size+1,5,none⟩ (.int .i64 peak)).setCell ⟨w.heap.size+1,6,none⟩ (.int .i64 0))=w3:=⟨_,rfl⟩
 have hr3:Blk w3 (w.heap.size+1) #[.slice p1 out.length c1,.slice p2 err.length c2,.int .i64 st,.slice none 0 0,.int .i64 steps,.int .i64 peak,.int .i64 0] 35:=by
  rw [← hw3]
  exact (((((((hr2.set 0 _).set 1 _).set 2 _).set 3 _).set 4 _).set 5 _).set 6 _)
 have hk3:Kept (fun j=>j=w.heap.size+1) w2 w3:=by
  rw [← hw3]
  exact ((((((((Kept.refl (fun j=>j=w.heap.size+1) w2).setCell (.inl rfl) 0 _).setCell (.inl rfl) 1 _).setCell (.inl rfl) 2 _).setCell (.inl rfl) 3 _).setCell (.inl rfl) 4 _).setCell (.inl rfl) 5 _).setCell (.inl rfl) 6 _)
 have HW3:=Lib.hid hw3
 have HR3:=Lib.hid hr3
 have HK3:=Lib.hid hk3
 have HSO:=Lib.hid so
 have HSE:=Lib.hid se
 have HB2:=Lib.hid hb2
 have HQ:=Lib.hid hq
 clear hrun hr2 hw3 hr3 hk3 so se hb2 hq hw1 hQ
 go_wp2_with fail
 try rw [HW3.out]
 have r0:=HR3.out.cell 0 (v:=.slice p1 out.length c1) rfl
 have r1:=HR3.out.cell 1 (v:=.slice p2 err.length c2) rfl
 have r2:=HR3.out.cell 2 (v:=.int .i64 st) rfl
 have r3:=HR3.out.cell 3 (v:=.slice none 0 0) rfl
 have r4:=HR3.out.cell 4 (v:=.int .i64 steps) rfl
 have r5:=HR3.out.cell 5 (v:=.int .i64 peak) rfl
 have r6:=HR3.out.cell 6 (v:=.int .i64 0) rfl
 have hbw:Below w.heap.size w w3:=by
  have a1:=HB.out.size
  have a2:=HB.out.trans (HB2.out.mono a1)
  refine a2.trans ⟨HK3.out.os,HK3.out.tape,HK3.out.output,HK3.out.size,fun k hk=>HK3.out.block k (Nat.lt_of_lt_of_le hk a2.size) (by omega)⟩
 have hs1:=HS.out
 have sO:Sl w3 (fun g=>w.heap.size≤g) (.slice p1 out.length c1) out:=(HSO.out.kept HK3.out fun g _ hg e=>by have h:w1.heap.size≤g:=hg;omega).mono fun g _ hg=>by have h:w1.heap.size≤g:=hg;omega
 have sE:Sl w3 (fun g=>w.heap.size≤g) (.slice p2 err.length c2) err:=(HSE.out.kept HK3.out fun g _ hg e=>by have h:w1.heap.size≤g:=hg;omega).mono fun g _ hg=>by have h:w1.heap.size≤g:=hg;omega
 refine bodyPost_ret (v:=.tuple #[.agg #[.slice p1 out.length c1,.slice p2 err.length c2,.int .i64 st,.slice none 0 0,.int .i64 steps,.int .i64 peak,.int .i64 0],.bool true]) ?_ rfl ⟨_,_,_,_,_,out,err,rfl,sO,sE,HQ.out,hbw⟩
 simp [results,Tryz.results16,go_sem,r0,r1,r2,r3,r4,r5,r6]
def EndS (r:Int × Bts × Bts) (st:Int) (o e:Bts):Prop:=st=r.1∧o=r.2.1∧e=r.2.2
def MainS (F:Fx) (M:Nat→Prop) (r:Int × Bts × Bts) (w:World) (e:Ending) (w':World):Prop:=
 ∃ inp' M',e=.returned (.int .i64 r.1)∧PrAt w' F M' inp' r.2.1 r.2.2∧Mv M M' w w'
theorem EndS.of {F:Fx} {M:Nat→Prop} {r:Int × Bts × Bts} {W W':World} {e:Ending} (h:MainS F M r W e W'):∃ st inp' out' err' M',e=.returned (.int .i64 st)∧PrAt W' F M' inp' out' err'∧Mv M M' W W'∧EndS r st out' err':=by
 obtain ⟨inp',M',he,hp,hm⟩:=h
 exact ⟨_,inp',_,_,M',he,hp,hm,rfl,rfl,rfl⟩
end Go.Proofs.YtefpcacnblaokaaGreatDoor

/-
  The walk of opt.Parse. Conditions: the arguments lie in memory; together they are short.
-/
namespace Go.Proofs.YtefpcacnblaokaaGreatDoor
open Go.RowKit Go.Shelf Go.Maps
namespace Op
def outerF (kf:UInt8→Nat) (opts:List (UInt8 × Bytes)) (rest:List Bytes):Option (List (UInt8 × Bytes) × List Bytes):=
 match parseF kf rest.length rest with
 | none=>none
 | some (l,o)=>some (opts ++ l,o)
def contF (kf:UInt8→Nat) (opts:List (UInt8 × Bytes)) (t:Bytes) (rest:List Bytes):Option (List (UInt8 × Bytes) × List Bytes):=
 match wordF kf t rest with
 | none=>none
 | some (l,r)=>outerF kf (opts ++ l) r
theorem outer_nil (kf:UInt8→Nat) (opts:List (UInt8 × Bytes)):outerF kf opts []=some (opts,[]):=by simp [outerF,parseF]
theorem outer_stop (kf:UInt8→Nat) (opts:List (UInt8 × Bytes)) (a:Bytes) (r:List Bytes) (h:a.length < 2∨a.head?≠some 45):outerF kf opts (a :: r)=some (opts,a :: r):=by
 simp only [outerF,List.length_cons,parseF,if_pos h,List.append_nil]
theorem outer_dd (kf:UInt8→Nat) (opts:List (UInt8 × Bytes)) (r:List Bytes):outerF kf opts ([45,45] :: r)=some (opts,r):=by
 simp [outerF,parseF]
theorem outer_word (kf:UInt8→Nat) (opts:List (UInt8 × Bytes)) (a:Bytes) (r:List Bytes) (h:¬ (a.length < 2∨a.head?≠some 45)) (h2:a≠[45,45]):outerF kf opts (a :: r)=contF kf opts (a.drop 1) r:=by
 unfold outerF contF
 rw [List.length_cons,parseF,if_neg h,if_neg h2]
 cases hw:wordF kf (a.drop 1) r with
 | none=>rfl
 | some x=>
  obtain ⟨l,r'⟩:=x
  have:=wordF_len kf _ _ _ _ hw
  simp only [outerF]
  rw [parse_fuel kf r.length r'.length r' this (Nat.le_refl _)]
  cases parseF kf r'.length r' with
  | none=>rfl
  | some y=>obtain ⟨l2,o⟩:=y;simp
theorem cont_nil (kf:UInt8→Nat) (opts:List (UInt8 × Bytes)) (rest:List Bytes):contF kf opts [] rest=outerF kf opts rest:=by simp [contF,wordF]
theorem cont_none (kf:UInt8→Nat) (opts:List (UInt8 × Bytes)) (c:UInt8) (t:Bytes) (rest:List Bytes) (h:kf c=0):contF kf opts (c :: t) rest=none:=by simp [contF,wordF,h]
theorem cont_alone (kf:UInt8→Nat) (opts:List (UInt8 × Bytes)) (c:UInt8) (t:Bytes) (rest:List Bytes) (h:kf c=1):contF kf opts (c :: t) rest=contF kf (opts ++ [(c,[])]) t rest:=by
 have e:wordF kf (c :: t) rest=match wordF kf t rest with
   | none=>none
   | some (l,r')=>some ((c,[]) :: l,r'):=by
  simp [wordF,h]
  cases wordF kf t rest <;> rfl
 unfold contF
 rw [e]
 cases wordF kf t rest with
 | none=>rfl
 | some y=>obtain ⟨l2,o⟩:=y;simp
theorem cont_rest (kf:UInt8→Nat) (opts:List (UInt8 × Bytes)) (c:UInt8) (t:Bytes) (rest:List Bytes) (h0:kf c≠0) (h1:kf c≠1) (ht:t≠[]):contF kf opts (c :: t) rest=outerF kf (opts ++ [(c,t)]) rest:=by
 simp [contF,wordF,h0,h1,ht]
theorem cont_miss (kf:UInt8→Nat) (opts:List (UInt8 × Bytes)) (c:UInt8) (h0:kf c≠0) (h1:kf c≠1):contF kf opts [c] []=none:=by
 simp [contF,wordF,h0,h1]
theorem cont_next (kf:UInt8→Nat) (opts:List (UInt8 × Bytes)) (c:UInt8) (x:Bytes) (rest:List Bytes) (h0:kf c≠0) (h1:kf c≠1):contF kf opts [c] (x :: rest)=contF kf (opts ++ [(c,x)]) [] rest:=by
 simp [contF,wordF,h0,h1]
end Op
def optVals (l:List (UInt8 × Bts)):List Value:=l.flatMap fun x=>[.int .u8 x.1.toNat,.string ⟨x.2.toArray⟩]
theorem optVals_at:∀ (l:List (UInt8 × Bts)) (i:Nat),i < l.length→(optVals l)[i * 2]?=some (.int .u8 (l.getD i (0,[])).1.toNat)∧(optVals l)[i * 2+1]?=some (.string ⟨(l.getD i (0,[])).2.toArray⟩)
 | [],i,h=>absurd h (by simp)
 | x :: r,0,_=>⟨rfl,rfl⟩
 | x :: r,i+1,h=>by
  have:=optVals_at r i (by simpa using h)
  have e:optVals (x :: r)=.int .u8 x.1.toNat :: .string ⟨x.2.toArray⟩ :: optVals r:=rfl
  rw [e,show (i+1) * 2=i * 2+1+1 by omega]
  exact this
theorem optVals_app (a b:List (UInt8 × Bts)):optVals (a ++ b)=optVals a ++ optVals b:=by simp [optVals]
theorem info_opt:(Tryz.prog.info? 203).map (fun i=>(i.zero,i.size,i.bytes))=some (some (.agg #[.int .u8 0,.string ⟨#[]⟩]),2,24):=by kernel_rfl
def OptsOwn (w:World) (B:Nat) (v:Value) (l:List (UInt8 × Bts)):Prop:=w.ownsRow B 203 2 v l.length (optVals l)
theorem opt_push {w wr w5:World} {base:Nat} {v v':Value} {l:List (UInt8 × Bts)} {x:UInt8 × Bts}
  (h2:OptsOwn wr base v l) (hb:Below base w wr) (hB:base≤wr.heap.size) {o:Obj}
  (hown:w5.ownsRow base 203 2 v' (l.length+1) (optVals l ++ [.int .u8 x.1.toNat,.string ⟨x.2.toArray⟩])) (hg:(wr.alloc o).grownBy w5 v.ownBlock) :
  OptsOwn w5 base v' (l ++ [x])∧Below base w w5:=by
 refine ⟨?_,(hb.alloc hB o).grown hg (by simp;omega) fun j hj=>(h2.lt j hj).1⟩
 unfold OptsOwn
 rw [optVals_app,List.length_append]
 exact hown
def ParsePost (w:World) (r:Option (List (UInt8 × Bts) × List Bts)) (e:Ending) (w':World):Prop:=
 Below w.heap.size w w'∧match r with
 | none=>e=.returned (.tuple #[.slice none 0 0,.slice none 0 0,.int .i64 19])
 | some (l,o)=>∃ lv ov,e=.returned (.tuple #[lv,ov,.int .i64 0])∧OptsOwn w' w.heap.size lv l∧StrsOwn w' w.heap.size ov o
def totL (l:List Bts):Nat:=(l.map fun a=>a.length+1).sum
theorem totL_cons (a:Bts) (r:List Bts):totL (a :: r)=a.length+1+totL r:=by simp [totL]
theorem Ss.tail {w:World} {b o:Nat} {a:Bts} {r:List Bts} (h:Ss w (some ⟨b,o,none⟩) (a :: r)):w.cell? ⟨b,o,none⟩=some (strV a)∧Ss w (some ⟨b,o+1,none⟩) r:=by
 obtain ⟨b',o',e,hc⟩:=h (by simp)
 simp at e
 obtain ⟨rfl,rfl⟩:=e
 refine ⟨by simpa using hc 0 (by simp),fun _=>⟨b,o+1,rfl,fun i hi=>?_⟩⟩
 have:=hc (i+1) (by simpa using hi)
 rw [show o+1+i=o+(i+1) by omega,this]
 simp
end Go.Proofs.YtefpcacnblaokaaGreatDoor

/-
  The walk of opt.Parse. Conditions: the arguments lie in memory; together they are short.
-/
set_option maxRecDepth 100000
set_option maxHeartbeats 8000000
namespace Go.Proofs.YtefpcacnblaokaaGreatDoor
open Go.RowKit Go.Shelf Go.Maps
theorem map_same2 {P:Program} {k:TypeId} {R:Value→Option (DataW Unit × List MemPlace)} {w w':World} {m n:Nat} {D:DataW Unit} (h:w.ownsMap P k R m n D) (e:w'.heap[m]?=w.heap[m]?):w'.ownsMap P k R m n D:=by
 obtain ⟨es,clock,hb,F,hs,hD⟩:=h
 exact ⟨es,clock,e.trans hb,F,hs,hD⟩
theorem totL_len:∀ l:List Bts,l.length≤totL l
 | []=>Nat.zero_le _
 | a :: r=>by rw [totL_cons,List.length_cons];have:=totL_len r;omega
theorem parse_any (spec:Bts) (hs:spec.length≤1000) (l:List Bts) (p:Option Addr) (c:Nat) (hc:l.length≤c) (hN:totL l≤1000000) (w:World) (h:Ss w p l) :
  Calls Tryz.prog 86 #[.slice p l.length c,.string ⟨spec.toArray⟩] w fun e w'=>ParsePost w (Op.parse spec l) e w':=by
 have hlet:=letters_any spec hs w
 obtain ⟨i0,hi0,hz0,hz1,hz2⟩:=info_parts info_opt
 have HSS:=Lib.hid h
 generalize hR:Op.parse spec l=R
 have HR0:Hid (Op.outerF (Op.kinds spec) [] l=R):=by
  show _=_
  rw [← hR]
  unfold Op.outerF Op.parse
  cases Op.parseF (Op.kinds spec) l.length l with
  | none=>rfl
  | some x=>obtain ⟨a,b⟩:=x;simp
 clear h hR
 go_enter Tryz.func86,Tryz.ntmps86
 go_wp2_with fail
 go_step3
 go_wp2_with fail
 refine hlet.mono ?_
 rintro e w1 ⟨m,n,D,rfl,hm,ho,hk,hb1⟩
 clear hlet
 generalize Op.kinds spec=kf at *
 have hmlt:=ho.lt
 have hsz1:=hb1.size
 have HO:=Lib.hid ho
 have HK:=Lib.hid hk
 have HB1:=Lib.hid hb1
 clear ho hk hb1
 have LOOK:Hid (∀ wr,Below w1.heap.size w1 wr→∀ ch:UInt8,(Instr.lookup 249 (.map (some m)) (.int .u8 ch.toNat) false).run Tryz.prog wr=.ok (.int .i64 (kf ch)) wr):=
  Lib.hid fun wr hb ch=>look1 (map_same2 HO.out (hb.block m hmlt)) HK.out ch
 have FIN:Hid (∀ (wr w':World) (lv ov:Value) (opts:List (UInt8 × Bts)) (rest:List Bts),R=some (opts,rest)→OptsOwn wr w1.heap.size lv opts→Below w1.heap.size w1 wr→StrsOwn w' wr.heap.size ov rest→Below wr.heap.size wr w'→ParsePost w R (.returned (.tuple #[lv,ov,.int .i64 0])) w'):=Lib.hid (by
  intro wr w' lv ov opts rest hR h1 h2 h3 h4
  rw [hR]
  have z:=h2.size
  refine ⟨HB1.out.trans ((h2.trans (h4.mono z)).mono hsz1),lv,ov,rfl,own_mono (own_kept h1 (Kept.of_below (S:=fun _=>False) h4) fun _ _ h=>h) hsz1,own_mono h3 (by omega)⟩)
 have NON:Hid (∀ (wr:World),R=none→Below w1.heap.size w1 wr→ParsePost w R (.returned (.tuple #[.slice none 0 0,.slice none 0 0,.int .i64 19])) wr):=Lib.hid (by
  intro wr hR h2
  rw [hR]
  exact ⟨HB1.out.trans (h2.mono hsz1),rfl⟩)
 go_wp2_with fail
 go_step3
 go_wp2_with fail
 go_loopw [0,8,9,10,11,55,58,68,85] (fun x0 x8 _x9 _x10 _x11 _x55 _x58 _x68 _x85 wr=>∃ (p':Option Addr) (c':Nat) (rest:List Bts) (opts:List (UInt8 × Bts)),x0=.slice p' rest.length c'∧rest.length≤c'∧opts.length+totL rest≤1000000∧Hid (Ss w p' rest)∧Hid (OptsOwn wr w1.heap.size x8 opts)∧Hid (Op.outerF kf opts rest=R)∧Hid (Below w1.heap.size w1 wr)) (fun x0 _ _ _ _ _ _ _ _ _=>lenV x0)
 case atStart=>exact ⟨p,c,l,[],rfl,hc,by simpa using hN,HSS,Lib.hid (World.ownsRow_nil _ _ _ _),HR0,Lib.hid (Below.refl _ _)⟩
 case round=>
  obtain ⟨p',c',rest,opts,rfl,hc',hN',HS,HOP,HR,HB⟩:=hrel
  clear hc hN HSS HR0
  have DONE:Hid (∀ (pp:Option Addr) (cc:Nat) (rs:List Bts),Op.outerF kf opts rest=some (opts,rs)→Hid (Ss w pp rs)→rs.length≤1000000→Calls Tryz.prog 76 #[.slice pp rs.length cc] wr fun e w'=>∃ ov,e=.returned ov∧ParsePost w R (.returned (.tuple #[u8,ov,.int .i64 0])) w'):=Lib.hid (by
   intro pp cc rs hrs hss hl
   have hss':Ss wr pp rs:=hss.out.below (HB1.out.trans (HB.out.mono hsz1))
   refine (clone_ss wr pp rs cc hss' (by omega)).mono ?_
   rintro e w' ⟨ov,rfl,ho,hb⟩
   exact ⟨ov,rfl,FIN.out wr w' u8 ov opts rs (by rw [← hrs];exact HR.out.symm) HOP.out HB.out ho hb⟩)
  cases rest with
  | nil=>
   have hd:=DONE.out p' c' [] (Op.outer_nil _ _) HS (by simp)
   simp only [List.length_nil] at hd
   go_wp2_with fail
   refine hd.mono ?_
   rintro e w2 ⟨ov,rfl,hf⟩
   have HF:=Lib.hid hf
   clear hd hf
   go_wp2_with fail
   rw [Exit.noGoto_ret]
   go_ret3
   exact HF.out
  | cons a r=>
   obtain ⟨b,o,hp',hss⟩:=HS.out (by simp)
   subst hp'
   obtain ⟨ca,hst⟩:=Ss.tail HS.out
   have hblt:b < w.heap.size:=World.block_lt_of_cell? _ _ ca
   have cr:=((HB1.out.trans (HB.out.mono hsz1)).cell (p:=⟨b,o,none⟩) hblt).trans ca
   have HST:=Lib.hid hst
   rw [totL_cons] at hN'
   clear hss ca hst
   unfold strV at cr
   have hasz:(⟨a.toArray⟩:ByteArray).size=a.length:=rfl
   have hl1:(0:Int) < ((a :: r).length:Nat):=by simp
   have hl2:((a :: r).length:Nat)=r.length+1:=rfl
   have hrl:r.length≤totL r:=totL_len r
   by_cases ha:a.length < 2
   ·have hd:=DONE.out (some ⟨b,o,none⟩) c' (a :: r) (Op.outer_stop _ _ _ _ (.inl ha)) HS (by simp;omega)
    have hd2:decide ((a.length:Int) < 2)=true:=by simp;omega
    simp only [hl2] at hd
    go_wp2_with fail
    refine hd.mono ?_
    rintro e w2 ⟨ov,rfl,hf⟩
    have HF:=Lib.hid hf
    clear hd hf
    go_wp2_with fail
    rw [Exit.noGoto_ret]
    go_ret3
    exact HF.out
   ·have hd2:decide ((a.length:Int) < 2)=false:=by simp;omega
    obtain ⟨a0,hdrop0,hbg0⟩:=byte_at (s:=a) (a:=0) (by omega)
    have hhead:a.head?=some a0:=by rw [List.drop_zero] at hdrop0;rw [hdrop0];rfl
    clear hdrop0
    by_cases h45:a0=45
    ·have e45:((a0.toNat:Int) != 45)=false:=by rw [h45];rfl
     have hc1:(1:Int)≤c':=by omega
     have hrc:r.length≤c' - 1:=by omega
     go_upto_region 6 with fail
     go_cut [0,29] (fun x0 x29 wx=>∃ pn:Option Addr,x0=.slice pn r.length (c' - 1)∧x29=x0∧Hid (Ss w pn r)∧wx=wr)
     case first=>
      rcases Nat.lt_or_ge 1 c' with hc2 | hc2
      ·have hz:¬ c' - 1=0:=by omega
       have hz1:¬ c'=1:=by omega
       have hz2:¬ c'≤1:=by omega
       go_wp2_with fail
       go_meet
       exact ⟨_,rfl,rfl,HST,rfl⟩
      ·obtain rfl:c'=1:=by omega
       obtain rfl:r=[]:=List.eq_nil_of_length_eq_zero (by omega)
       go_wp2_with fail
       go_meet
       exact ⟨_,rfl,rfl,Lib.hid (fun h=>absurd h (by simp)),rfl⟩
     case rest=>
     obtain ⟨pn,rfl,rfl,HSN,rfl⟩:=hcut
     clear HST
     by_cases hdd:a=[45,45]
     ·have hd:=DONE.out pn (c' - 1) r (by rw [hdd];exact Op.outer_dd _ _ _) HSN (by omega)
      subst hdd
      go_wp2_with fail
      refine hd.mono ?_
      rintro e w2 ⟨ov,rfl,hf⟩
      have HF:=Lib.hid hf
      clear hd hf
      go_wp2_with fail
      rw [Exit.noGoto_ret]
      go_ret3
      exact HF.out
     ·have hs2:(a == [45,45])=false:=by simpa using hdd
      have hs3:¬ a=[45,45]:=hdd
      have hs4:((⟨a.toArray⟩:ByteArray) == ⟨#[45,45]⟩)=false:=str_ne (t:=[45,45]) hdd
      have HCT:Hid (Op.contF kf opts (a.drop 1) r=R):=by
       show _=_
       rw [← Op.outer_word kf opts a r (by rw [hhead,h45];rintro (h | h);exact ha h;exact h rfl) hdd];exact HR.out
      have HA:Hid (1≤a.length):=Lib.hid (by omega)
      clear DONE hd2 hbg0 hhead hdd HS HR
      go_wp2_with fail
      go_loopw [0,8,10,11,55,58,68,85] (fun x0 x8 x10 _x11 _x55 _x58 _x68 _x85 wx=>∃ (p2:Option Addr) (c2:Nat) (rs:List Bts) (os:List (UInt8 × Bts)) (k:Nat),x0=.slice p2 rs.length c2∧rs.length≤c2∧rs.length≤r.length∧x10=.int .i64 k∧k≤a.length∧os.length+(a.length - k)+totL rs≤1000000∧Hid (Ss w p2 rs)∧Hid (OptsOwn wx w1.heap.size x8 os)∧Hid (Op.contF kf os (a.drop k) rs=R)∧Hid (Below w1.heap.size w1 wx)) (fun _ _ x10 _ _ _ _ _ _=>a.length - (intOf x10).toNat)
      case atStart=>exact ⟨_,_,r,opts,1,rfl,hrc,Nat.le_refl _,rfl,HA.out,by have:=HA.out;omega,HSN,HOP,HCT,HB⟩
      case round=>
       clear HSN HOP HCT HB
       obtain ⟨p2,c2,rs,os,k,rfl,hrs,hrr,rfl,hka,hN2,HS2,HOP2,HC2,HB2⟩:=hrel
       have hwz:=HB2.out.size
       by_cases hlt:k < a.length
       ·obtain ⟨ch,hdrop,hbg⟩:=byte_at hlt
        have hL:=LOOK.out wr HB2.out ch
        have HCD:Hid (Op.contF kf os (ch :: a.drop (k+1)) rs=R):=Lib.hid (by rw [← hdrop];exact HC2.out)
        clear hdrop HC2
        obtain ⟨kc,hkc⟩:∃ kc,kf ch=kc:=⟨_,rfl⟩
        rw [hkc] at hL
        have HKC:=Lib.hid hkc
        clear hkc
        by_cases h0:kc=0
        ·subst h0
         have hn:=NON.out wr (by rw [← HCD.out];exact Op.cont_none kf os ch _ rs HKC.out) HB2.out
         have HN:=Lib.hid hn
         clear hn
         go_wp2_with fail
         rw [Exit.noGoto_ret]
         go_ret3
         exact HN.out
        ·have e0:((kc:Int) == 0)=false:=by simp;omega
         by_cases h1:kc=1
         ·subst h1
          have HC3:Hid (Op.contF kf (os ++ [(ch,[])]) (a.drop (k+1)) rs=R):=Lib.hid (by rw [← HCD.out];exact (Op.cont_alone kf os ch _ rs HKC.out).symm)
          have how:wr.ownsRow w1.heap.size 203 2 u8 os.length (optVals os):=HOP2.out
          have HOW:=Lib.hid how
          clear how
          go_wp2_with (at_builtin;refine wpList_append_own _ rfl _ _ 197 rfl w1.heap.size 203 i0 (.agg #[.int .u8 0,.string ⟨#[]⟩]) 2 24 Tryz.underlying197 hi0 hz0 hz1 hz2 rfl (by decide) _ _ _ rfl (HOW.out.alloc _) ⟨wr.heap.size,0,none⟩ 1 1 [.int .u8 ch.toNat,.string ⟨#[]⟩] rfl rfl (cells_new _ #[_,_] _) (by simp [Value.oneCell']) (by unfold maxLen;omega) (by omega) (by simp;omega) ?_;intro v' w5 hown' hgrow _)
          obtain ⟨hown5,hbw5⟩:=opt_push (x:=(ch,[])) HOP2.out HB2.out hwz hown' hgrow
          have HO5:=Lib.hid hown5
          have HB5:=Lib.hid hbw5
          clear hown5 hbw5 hown' hgrow
          go_roundw
          case rel=>exact ⟨_,_,rs,os ++ [(ch,[])],k+1,rfl,hrs,hrr,by go_num,by omega,by simp;omega,HS2,HO5,HC3,HB5⟩
          case measure=>simp [intOf];omega
         ·have e1:((kc:Int) == 1)=false:=by simp;omega
          have how:wr.ownsRow w1.heap.size 203 2 u8 os.length (optVals os):=HOP2.out
          have HOW:=Lib.hid how
          clear how
          by_cases hlt2:k+1 < a.length
          ·have e2:decide (((k:Int)+1) < a.length)=true:=by simp;omega
           have hne:a.drop (k+1)≠[]:=by intro h;have:=congrArg List.length h;simp at this;omega
           have HC3:Hid (Op.outerF kf (os ++ [(ch,a.drop (k+1))]) rs=R):=Lib.hid (by rw [← HCD.out];exact (Op.cont_rest kf os ch _ rs (by rw [HKC.out];exact h0) (by rw [HKC.out];exact h1) hne).symm)
           have hex:(⟨a.toArray⟩:ByteArray).extract (k+1) a.length=⟨(a.drop (k+1)).toArray⟩:=extract_drop a (k+1)
           have HOA:Hid (((wr.alloc (.cells #[.int .u8 ch.toNat,.string ⟨(a.drop (k+1)).toArray⟩] 203)).drew).ownsRow w1.heap.size 203 2 u8 os.length (optVals os)):=Lib.hid (own_kept (HOW.out.alloc _) ((Kept.refl (fun _=>False) _).drew) fun _ _ h=>h)
           have HCE:Hid (∀ j u,[Value.int .u8 ch.toNat,.string ⟨(a.drop (k+1)).toArray⟩][j]?=some u→((wr.alloc (.cells #[.int .u8 ch.toNat,.string ⟨(a.drop (k+1)).toArray⟩] 203)).drew).cell? ((⟨wr.heap.size,0,none⟩:Addr).add j)=some u):=Lib.hid (cells_new _ #[_,_] _)
           clear hne
           have b1:(k:Int)+1≤a.length:=by omega
           have b2:(0:Int)≤(k:Int)+1:=by omega
           have b3:k+1≤a.length:=by omega
           have hwr:IntKind.i64.wrap ((k:Int)+1)=((k+1:Nat):Int):=by rw [IntKind.wrap_i64];omega
           go_wp2_with fail
           go_region_law ((refine step_append_lies _ (by rfl) _ _ _ (by rfl) w1.heap.size 203 i0 _ 2 24 Tryz.underlying197 hi0 hz0 hz1 hz2 rfl (by decide) u8 os.length (optVals os) (by go_simp) HOA.out ⟨wr.heap.size,0,none⟩ 1 1 [.int .u8 ch.toNat,.string ⟨(a.drop (k+1)).toArray⟩] (by go_simp) (by rfl) HCE.out (by simp [Value.oneCell']) (by decide) (by unfold maxLen;omega) (by omega) (by simp;omega) (wr.heap.size+1) (by simp) ?_;intro gg cap w7 hown7 hgrow hat hlt7))
           all_goals
            obtain ⟨hown5,hbw5⟩:=opt_push (x:=(ch,a.drop (k+1))) HOP2.out HB2.out hwz hown7 (show (wr.alloc (.cells #[.int .u8 ch.toNat,.string ⟨(a.drop (k+1)).toArray⟩] 203)).grownBy w7 u8.ownBlock from ⟨hgrow.os,hgrow.tape,hgrow.output,hgrow.size,hgrow.block⟩)
            have HO5:=Lib.hid hown5
            have HB5:=Lib.hid hbw5
            clear hown5 hbw5 hown7 hgrow hat hlt7
            simp only [Act.put]
            go_simp
            go_wp2_with fail
            go_roundw
            case rel=>exact ⟨_,_,rs,os ++ [(ch,a.drop (k+1))],rfl,hrs,by simp;omega,HS2,HO5,HC3,HB5⟩
            case measure=>simp [lenV];omega
          ·have e2:decide (((k:Int)+1) < a.length)=false:=by simp;omega
           have hdr:a.drop (k+1)=[]:=List.drop_of_length_le (by omega)
           cases rs with
           | nil=>
            have hn:=NON.out wr (by rw [← HCD.out,hdr];exact Op.cont_miss kf os ch (by rw [HKC.out];exact h0) (by rw [HKC.out];exact h1)) HB2.out
            have HN:=Lib.hid hn
            clear hn hdr
            go_wp2_with fail
            rw [Exit.noGoto_ret]
            go_ret3
            exact HN.out
           | cons x rs=>
            have HC3:Hid (Op.contF kf (os ++ [(ch,x)]) [] rs=R):=Lib.hid (by rw [← HCD.out,hdr];exact (Op.cont_next kf os ch x rs (by rw [HKC.out];exact h0) (by rw [HKC.out];exact h1)).symm)
            obtain ⟨b2,o2,hp2,-⟩:=HS2.out (by simp)
            subst hp2
            obtain ⟨cx,hst2⟩:=Ss.tail HS2.out
            have hb2lt:b2 < w.heap.size:=World.block_lt_of_cell? _ _ cx
            have hbww:=HB1.out.trans (HB2.out.mono hsz1)
            have cw:=(hbww.cell (p:=⟨b2,o2,none⟩) hb2lt).trans cx
            have HST2:=Lib.hid hst2
            rw [totL_cons] at hN2
            have hxl:(0:Int) < ((x :: rs).length:Nat):=by simp
            have hxl2:((x :: rs).length:Nat)=rs.length+1:=rfl
            unfold strV at cw
            have HOA:Hid (((wr.alloc (.cells #[.int .u8 ch.toNat,.string ⟨x.toArray⟩] 203)).drew).ownsRow w1.heap.size 203 2 u8 os.length (optVals os)):=Lib.hid (own_kept (HOW.out.alloc _) ((Kept.refl (fun _=>False) _).drew) fun _ _ h=>h)
            have HCE:Hid (∀ j u,[Value.int .u8 ch.toNat,.string ⟨x.toArray⟩][j]?=some u→((wr.alloc (.cells #[.int .u8 ch.toNat,.string ⟨x.toArray⟩] 203)).drew).cell? ((⟨wr.heap.size,0,none⟩:Addr).add j)=some u):=Lib.hid (cells_new _ #[_,_] _)
            have cw2:wr.drew.cell? ⟨b2,o2,none⟩=some (.string ⟨x.toArray⟩):=cw
            clear hdr cx hst2
            go_wp2_with fail
            go_upto_region 12 with fail
            go_cut [8] (fun x8 wx=>Hid (OptsOwn wx w1.heap.size x8 (os ++ [(ch,x)]))∧Hid (Below w1.heap.size w1 wx))
            case first=>
             go_region_law ((refine step_append_lies _ (by rfl) _ _ _ (by rfl) w1.heap.size 203 i0 _ 2 24 Tryz.underlying197 hi0 hz0 hz1 hz2 rfl (by decide) u8 os.length (optVals os) (by go_simp) HOA.out ⟨wr.heap.size,0,none⟩ 1 1 [.int .u8 ch.toNat,.string ⟨x.toArray⟩] (by go_simp) (by rfl) HCE.out (by simp [Value.oneCell']) (by decide) (by unfold maxLen;omega) (by omega) (by simp;omega) (wr.heap.size+1) (by simp) ?_;intro gg cap w7 hown7 hgrow hat hlt7))
             all_goals
              obtain ⟨hown5,hbw5⟩:=opt_push (x:=(ch,x)) HOP2.out HB2.out hwz hown7 (show (wr.alloc (.cells #[.int .u8 ch.toNat,.string ⟨x.toArray⟩] 203)).grownBy w7 u8.ownBlock from ⟨hgrow.os,hgrow.tape,hgrow.output,hgrow.size,hgrow.block⟩)
              have HO5:=Lib.hid hown5
              have HB5:=Lib.hid hbw5
              clear hown5 hbw5 hown7 hgrow hat hlt7
              simp only [Act.put]
              go_simp
              go_wp2_with fail
              go_meet
              exact ⟨HO5,HB5⟩
            case rest=>
             obtain ⟨HO5,HB5⟩:=hcut
             have HC4:Hid (Op.contF kf (os ++ [(ch,x)]) (a.drop (k+1)) rs=R):=Lib.hid (by rw [List.drop_of_length_le (by omega)];exact HC3.out)
             rcases Nat.lt_or_ge 1 c2 with hc2 | hc2
             ·have hz:¬ c2 - 1=0:=by omega
              have hz1:¬ c2=1:=by omega
              have hz2:¬ c2≤1:=by omega
              have hz3:(1:Int)≤c2:=by omega
              go_wp2_with fail
              go_roundw
              case rel=>exact ⟨_,_,rs,os ++ [(ch,x)],k+1,rfl,by omega,by omega,by go_num,by omega,by simp;omega,HST2,HO5,HC4,HB5⟩
              case measure=>simp [intOf];omega
             ·obtain rfl:c2=1:=by omega
              obtain rfl:rs=[]:=List.eq_nil_of_length_eq_zero (by omega)
              go_wp2_with fail
              go_roundw
              case rel=>exact ⟨_,_,[],os ++ [(ch,x)],k+1,rfl,by simp,by simp,by go_num,by omega,by simp;omega,Lib.hid (fun h=>absurd h (by simp)),HO5,HC4,HB5⟩
              case measure=>simp [intOf];omega
       ·obtain rfl:k=a.length:=by omega
        have HO2:Hid (Op.outerF kf os rs=R):=Lib.hid (by
         rw [← HC2.out,List.drop_of_length_le (Nat.le_refl _),Op.cont_nil])
        go_wp2_with fail
        go_roundw
        case rel=>exact ⟨_,_,rs,os,rfl,hrs,by omega,HS2,HOP2,HO2,HB2⟩
        case measure=>simp [lenV];omega
    ·have hd:=DONE.out (some ⟨b,o,none⟩) c' (a :: r) (Op.outer_stop _ _ _ _ (.inr (by rw [hhead];simpa using h45))) HS (by simp;omega)
     have e45:((a0.toNat:Int) != 45)=true:=by
      have:=u8_lit (n:=45) h45 (by decide)
      simpa using this
     simp only [hl2] at hd
     go_wp2_with fail
     refine hd.mono ?_
     rintro e w2 ⟨ov,rfl,hf⟩
     have HF:=Lib.hid hf
     clear hd hf
     go_wp2_with fail
     rw [Exit.noGoto_ret]
     go_ret3
     exact HF.out
end Go.Proofs.YtefpcacnblaokaaGreatDoor

/-
  The walks of opt.Has, and of Last over slices.Backward. Condition: the options lie in memory.
-/
set_option maxRecDepth 100000
set_option maxHeartbeats 4000000
namespace Go.Proofs.YtefpcacnblaokaaGreatDoor
open Go.RowKit Go.Shelf Go.Maps
attribute [local go_sem] Oper.semAt_some
def OptsAt (w:World) (p:Option Addr) (l:List (UInt8 × Bts)):Prop:=0 < l.length→∃ b o,p=some ⟨b,o,none⟩∧b < w.heap.size∧∀ i,i < l.length→w.cell? ⟨b,o+i * 2,none⟩=some (.int .u8 (l.getD i (0,[])).1.toNat)∧w.cell? ⟨b,o+i * 2+1,none⟩=some (strV (l.getD i (0,[])).2)
theorem OptsAt.below {w w':World} {p:Option Addr} {l:List (UInt8 × Bts)} (h:OptsAt w p l) (hb:Below w.heap.size w w'):OptsAt w' p l:=fun h0=>by
 obtain ⟨b,o,e,hlt,hc⟩:=h h0
 exact ⟨b,o,e,Nat.lt_of_lt_of_le hlt hb.size,fun i hi=>⟨(hb.cell (p:=⟨b,o+i * 2,none⟩) hlt).trans (hc i hi).1,(hb.cell (p:=⟨b,o+i * 2+1,none⟩) hlt).trans (hc i hi).2⟩⟩
theorem OptsOwn.at_ {w:World} {B:Nat} {v:Value} {l:List (UInt8 × Bts)} (h:OptsOwn w B v l):∃ p c,v=.slice p l.length c∧l.length≤c∧OptsAt w p l:=by
 rcases h.2 with ⟨h1,h0⟩ | ⟨g,cap,cur,rfl,hb,hblk,hc,r⟩
 ·refine ⟨none,0,by rw [h0];exact h1,by omega,fun h=>by omega⟩
 ·refine ⟨_,cap,rfl,hc,fun _=>⟨g,0,rfl,lt_of_block hblk,fun i hi=>?_⟩⟩
  obtain ⟨h1,h2⟩:=optVals_at l i hi
  rw [Nat.zero_add]
  exact ⟨by rw [h.cellAt (i * 2) (by omega)];exact h1,by rw [h.cellAt (i * 2+1) (by omega)];exact h2⟩
theorem has1_any (x c:UInt8) (s:Bts) (q:Nat) (w:World) (hq:w.cell? ⟨q,0,none⟩=some (.int .u8 c.toNat)) :
  Calls Tryz.prog 126 #[.agg #[.int .u8 x.toNat,strV s],.pointer (some ⟨q,0,none⟩)] w fun e w'=>e=.returned (.bool (x == c))∧Below w.heap.size w w':=by
 have h1:=new_cell hq (.cells #[.int .u8 x.toNat,strV s] 203)
 have h2:=(Blk.new w #[.int .u8 x.toNat,strV s] 203).cell 0 (v:=.int .u8 x.toNat) rfl
 have hb:Below w.heap.size w (w.alloc (.cells #[.int .u8 x.toNat,strV s] 203)):=(Below.refl _ _).alloc (Nat.le_refl _) _
 have e1:=u8_beq x c
 rw [e1]
 unfold strV at *
 go_enter Tryz.func126,Tryz.ntmps126
 go_wp2_with fail
 go_ret
 exact ⟨rfl,hb⟩
theorem has_take {l:List (UInt8 × Bts)} {c:UInt8} {k:Nat} (hk:k < l.length) (h:Op.has (l.take k) c=false) (hx:((l.getD k (0,[])).1 == c)=false):Op.has (l.take (k+1)) c=false:=by
 unfold Op.has at *
 rw [List.take_succ_eq_append_getElem hk,List.any_append,h]
 have e:l[k]=l.getD k (0,[]):=by simp [List.getD_eq_getElem?_getD,List.getElem?_eq_getElem hk]
 simp only [List.any_cons,List.any_nil,Bool.or_false,Bool.false_or]
 rw [e]
 exact hx
theorem has_at {l:List (UInt8 × Bts)} {c:UInt8} {k:Nat} (hk:k < l.length) (hx:((l.getD k (0,[])).1 == c)=true):Op.has l c=true:=by
 unfold Op.has
 rw [List.any_eq_true]
 have e:l[k]=l.getD k (0,[]):=by simp [List.getD_eq_getElem?_getD,List.getElem?_eq_getElem hk]
 exact ⟨l[k],List.getElem_mem hk,by rw [e];exact hx⟩
theorem idxFn_any (l:List (UInt8 × Bts)) (c:UInt8) (p:Option Addr) (cap:Nat) (_hcap:l.length≤cap) (hN:l.length≤1000000) (q:Nat) (w:World) (h:OptsAt w p l) (hq:w.cell? ⟨q,0,none⟩=some (.int .u8 c.toNat)) :
  Calls Tryz.prog 200 #[.slice p l.length cap,.func (.func 126) #[] #[.pointer (some ⟨q,0,none⟩)]] w fun e w'=>(∃ i:Int,e=.returned (.int .i64 i)∧decide (0≤i)=Op.has l c)∧Below w.heap.size w w':=by
 have HH:=Lib.hid h
 have HQ:=Lib.hid hq
 clear h hq
 go_enter Tryz.func200,Tryz.ntmps200
 go_wp2_with fail
 go_loopw [5,8] (fun _x5 i wr=>∃ k:Nat,k≤l.length∧i=.int .i64 k∧Hid (Op.has (l.take k) c=false)∧Hid (Below w.heap.size w wr)) (fun _ i _=>l.length - (intOf i).toNat)
 case atStart=>exact ⟨0,Nat.zero_le _,rfl,Lib.hid rfl,Lib.hid (Below.refl _ _)⟩
 case round=>
  obtain ⟨k,hk,rfl,hf,hb⟩:=hrel
  by_cases hlt:k < l.length
  ·obtain ⟨b,o,rfl,hblt,hc⟩:=HH.out (by omega)
   obtain ⟨c1,c2⟩:=hc k hlt
   have d1:=(hb.out.cell (p:=⟨b,o+k * 2,none⟩) hblt).trans c1
   have d2:=(hb.out.cell (p:=⟨b,o+k * 2+1,none⟩) hblt).trans c2
   have hq':=(hb.out.cell (p:=⟨q,0,none⟩) (World.block_lt_of_cell? _ _ HQ.out)).trans HQ.out
   obtain ⟨x,hx⟩:∃ x,(l.getD k (0,[])).1=x:=⟨_,rfl⟩
   obtain ⟨s,hs⟩:∃ s,(l.getD k (0,[])).2=s:=⟨_,rfl⟩
   rw [hx] at d1
   rw [hs] at d2
   have HX:=Lib.hid hx
   have h1:=has1_any x c s q wr hq'
   clear c1 c2 hc hx hs hq'
   unfold strV at *
   go_wp2_with fail
   refine h1.mono ?_
   rintro e w2 ⟨rfl,hb2⟩
   have HB2:=Lib.hid (hb.out.trans (hb2.mono hb.out.size))
   clear hb2 h1
   cases hxc:(x == c) with
   | true=>
    have HA:Hid (Op.has l c=true):=has_at hlt (by rw [HX.out];exact hxc)
    clear hxc
    go_wp2_with fail
    go_ret
    exact ⟨⟨_,rfl,by rw [HA.out];simp⟩,HB2.out⟩
   | false=>
    have HA:Hid (Op.has (l.take (k+1)) c=false):=has_take hlt hf.out (by rw [HX.out];exact hxc)
    clear hxc
    go_wp2_with fail
    go_roundw
    case rel=>exact ⟨k+1,by omega,by go_num,HA,HB2⟩
    case measure=>simp [intOf];omega
  ·obtain rfl:k=l.length:=by omega
   have HA:Hid (Op.has l c=false):=by have:=hf.out;rw [List.take_of_length_le (Nat.le_refl _)] at this;exact this
   go_wp2_with fail
   go_ret
   exact ⟨⟨_,rfl,by rw [HA.out];rfl⟩,hb.out⟩
theorem hasOpt_any (l:List (UInt8 × Bts)) (c:UInt8) (p:Option Addr) (cap:Nat) (hcap:l.length≤cap) (hN:l.length≤1000000) (w:World) (h:OptsAt w p l) :
  Calls Tryz.prog 87 #[.slice p l.length cap,.int .u8 c.toNat] w fun e w'=>e=.returned (.bool (Op.has l c))∧Below w.heap.size w w':=by
 have hmf:∀ (fn:Fn) (first cap:Array Value) (w:World),(Instr.makeFunc fn first cap).run Tryz.prog w=.ok (.func fn first cap) w:=fun _ _ _ _=>rfl
 have hb1:Below w.heap.size w (w.alloc (.cells #[.int .u8 c.toNat] 5)):=(Below.refl _ _).alloc (Nat.le_refl _) _
 have hi:=idxFn_any l c p cap hcap hN w.heap.size _ (h.below hb1) ((Blk.new w #[.int .u8 c.toNat] 5).cell 0 rfl)
 have hcf:Calls Tryz.prog 125 #[.slice p l.length cap,.func (.func 126) #[] #[.pointer (some ⟨w.heap.size,0,none⟩)]] (w.alloc (.cells #[.int .u8 c.toNat] 5)) fun e w'=>e=.returned (.bool (Op.has l c))∧Below w.heap.size w w':=by
  clear h
  go_enter Tryz.func125,Tryz.ntmps125
  go_wp2_with fail
  refine hi.mono ?_
  rintro e w2 ⟨⟨i,rfl,hd⟩,hb2⟩
  have HD:=Lib.hid hd
  have HB:=Lib.hid (hb1.trans (hb2.mono hb1.size))
  clear hd hb2 hi hb1
  go_wp2_with fail
  go_ret
  exact ⟨by rw [HD.out];rfl,HB.out⟩
 clear hi h hb1
 go_enter Tryz.func87,Tryz.ntmps87
 go_wp2_with fail
 refine hcf.mono ?_
 rintro e w2 ⟨rfl,hb2⟩
 have HB:=Lib.hid hb2
 clear hb2 hcf
 go_wp2_with fail
 go_ret
 exact ⟨rfl,HB.out⟩
end Go.Proofs.YtefpcacnblaokaaGreatDoor
