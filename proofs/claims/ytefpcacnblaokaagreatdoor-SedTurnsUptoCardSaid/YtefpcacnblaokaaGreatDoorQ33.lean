/-
  Texts of this seat put together: D2, D3, D4, D5, D6, R2.
-/
import Derived.Test.YtefpcacnblaokaaGreatDoorQ32
import Derived.Shelf.Slices.In.SortNone

/-
  The walks of slices.AppendSeq, Collect, Sorted over the keys of an empty map; of a directory's sorted names, of which there are none.
-/
set_option maxRecDepth 100000
set_option maxHeartbeats 2000000
namespace Go.Proofs.YtefpcacnblaokaaGreatDoor
open Go.RowKit Go.Shelf Go.Maps
attribute [local go_sem] Oper.semAt_some
theorem keys1_stops (k n₀ Bn a:Nat) (w:World) (hB:w.cell? ⟨Bn,0,none⟩=some (.map (some a))) (ha:w.heap[a]?=some (.map #[] 0)) :
  SeqStopsK Fence.wide k Tryz.prog 245 #[.pointer (some ⟨Bn,0,none⟩)] (fun v:ByteArray=>#[Value.string v]) (Below n₀) (fun xs=>xs=[]) (fun _=>False) 0 w:=by
 intro l J Jx W hW hJ _ _ h0
 have hl1:Bn < w.heap.size:=World.block_lt_of_cell? _ _ hB
 refine callsIn_wide.2 ((keys1_calls l Bn a W ((hW.cell (p:=⟨Bn,0,none⟩) hl1).trans hB) ((hW.block a (lt_of_heap ha)).trans ha)).mono ?_)
 rintro e W' ⟨he,rfl⟩
 exact ⟨he,.inl ⟨[],rfl,hJ _ _ _ none h0 (World.grownBy_alloc _ _ none) (fun r e=>by cases e)⟩⟩
theorem appendSeq_none (Bn a:Nat) (w:World) (hB:w.cell? ⟨Bn,0,none⟩=some (.map (some a))) (ha:w.heap[a]?=some (.map #[] 0)) :
  Calls Tryz.prog 283 #[.slice none 0 0,.func (.func 245) #[] #[.pointer (some ⟨Bn,0,none⟩)]] w fun e w'=>e=.returned (.slice none 0 0)∧Below w.heap.size w w':=by
 refine callsIn_wide.1 (callsIn_of_wp_marks (n:=2) Tryz.func283 rfl trivial ?_ rfl)
 simp only [Tryz.ntmps283,List.size_toArray,List.length_cons,List.length_nil,Nat.reduceAdd,Nat.reduceSub,Array.replicate_succ,Array.replicate_zero,List.push_toArray,List.append_toArray,List.nil_append,List.cons_append]
 gi_wp2
 have hx0:=one_new w (.slice none 0 0) 27
 have hB0:Below w.heap.size w (w.alloc (.cells #[.slice none 0 0] 27)):=(Below.refl _ w).alloc (Nat.le_refl _) _
 have aB:=(hB0.cell (p:=⟨Bn,0,none⟩) (World.block_lt_of_cell? _ _ hB)).trans hB
 have aa:=(hB0.block a (lt_of_heap ha)).trans ha
 refine wpIn_rangeFunc_ownF rfl (by decide) (gf:=245) (lb:=#[.pointer (some ⟨Bn,0,none⟩)]) rfl trivial (enters_of Tryz.func245 (by kernel_rfl) rfl)
  (keys1_stops 1 w.heap.size Bn a _ aB aa) belowK_t (belowK_b (by simp)) (Below.refl _ _) (fun _=>rfl)
  (fun pre W=>(W.cell? ⟨w.heap.size,0,none⟩=some (.slice none 0 0))∧Below w.heap.size w W)
  (fun _ _ _=>False)
  (OwnFrom.and (Own.from (fun s A B row hs hg hr=>cell_kept hs hg hr) _) (ownFrom_below (Nat.le_refl _) (by simp)))
  (fun _ _ _ _ _ hs _ _=>hs)
  ⟨hx0.1,hB0⟩
  (fun v=>{ tmps:=#[.slice none 0 0,.func (.func 245) #[] #[.pointer (some ⟨Bn,0,none⟩)],.pointer (some ⟨w.heap.size,0,none⟩),undef,.slice none 0 0,.string v,.func (.func 245) #[] #[.pointer (some ⟨Bn,0,none⟩)],.string v,undef,undef,undef,undef,undef],defers:=[] }) ?assign ?body ?done ?stop
 case assign=>
  intro l v W K hK
  gi_wp2
  exact hK
 case body=>
  intro l pre v W _ hl
  exact absurd hl (Nat.not_lt_zero _)
 case done=>
  rintro D ys W hD rfl ⟨c0,hB⟩ hK
  gi_wp2
  refine ⟨by simp,.inl ⟨_,_,rfl,run_takeDeferred hK, ?_⟩⟩
  refine ⟨.slice none 0 0, ?_,rfl,hB.trans (belowK_b (w:=w) (Nat.le_refl _) _ D _ _ (by simp at hD;omega) hK rfl rfl)⟩
  simp [results,Tryz.results283,go_sem]
 case stop=>
  rintro D c pre W _ h _ _
  exact h.elim
end Go.Proofs.YtefpcacnblaokaaGreatDoor

/-
  The walks of slices.Collect, Sorted over no keys; of a directory's sorted names, of which there are none.
-/
set_option maxRecDepth 100000
namespace Go.Proofs.YtefpcacnblaokaaGreatDoor
open Go.RowKit Go.Shelf Go.Maps
theorem collect_none (Bn a:Nat) (w:World) (hB:w.cell? ⟨Bn,0,none⟩=some (.map (some a))) (ha:w.heap[a]?=some (.map #[] 0)) :
  Calls Tryz.prog 243 #[.func (.func 245) #[] #[.pointer (some ⟨Bn,0,none⟩)]] w fun e w'=>e=.returned (.slice none 0 0)∧Below w.heap.size w w':=by
 have c:=appendSeq_none Bn a w hB ha
 clear hB ha
 go_enter Tryz.func243,Tryz.ntmps243
 go_wp2_with fail
 refine c.mono ?_
 rintro e w1 ⟨rfl,hb⟩
 have HB:=Lib.hid hb
 clear hb c
 go_wp2_with fail
 go_ret
 exact ⟨rfl,HB.out⟩
theorem sorted_none (Bn a:Nat) (w:World) (hB:w.cell? ⟨Bn,0,none⟩=some (.map (some a))) (ha:w.heap[a]?=some (.map #[] 0)) :
  Calls Tryz.prog 188 #[.func (.func 245) #[] #[.pointer (some ⟨Bn,0,none⟩)]] w fun e w'=>e=.returned (.slice none 0 0)∧Below w.heap.size w w':=by
 have c:=collect_none Bn a w hB ha
 clear hB ha
 go_enter Tryz.func188,Tryz.ntmps188
 go_wp2_with fail
 refine c.mono ?_
 rintro e w1 ⟨rfl,hb⟩
 have HB:=Lib.hid hb
 clear hb c
 go_wp2_with fail
 refine (Any.slices_Sort_string_none Tryz.lays190 none 0 _).mono ?_
 rintro e w2 ⟨rfl,rfl⟩
 go_wp2_with fail
 go_ret
 exact ⟨rfl,HB.out⟩
theorem itemSorted_none (r a:Nat) (w:World) (hr:w.cell? ⟨r,5,none⟩=some (.map (some a))) (ha:w.heap[a]?=some (.map #[] 0)) :
  Calls Tryz.prog 120 #[.pointer (some ⟨r,0,none⟩)] w fun e w'=>e=.returned (.slice none 0 0)∧Below w.heap.size w w':=by
 have hmf:∀ (fn:Fn) (first cap:Array Value) (w:World),(Instr.makeFunc fn first cap).run Tryz.prog w=.ok (.func fn first cap) w:=fun _ _ _ _=>rfl
 have hk:Calls Tryz.prog 189 #[.map (some a)] w fun e w'=>e=.returned (.func (.func 245) #[] #[.pointer (some ⟨w.heap.size,0,none⟩)])∧w'=w.alloc (.cells #[.map (some a)] 194):=by
  go_enter Tryz.func189,Tryz.ntmps189
  go_wp2_with fail
  go_ret
  exact ⟨rfl,rfl⟩
 have hlt:=lt_of_heap ha
 have hs:=sorted_none w.heap.size a (w.alloc (.cells #[.map (some a)] 194)) (one_new w _ _).1 ((Below.heap_alloc _ _ _ hlt).trans ha)
 clear ha
 go_enter Tryz.func120,Tryz.ntmps120
 go_wp2_with fail
 refine hk.mono ?_
 rintro e w1 ⟨rfl,rfl⟩
 go_wp2_with fail
 refine hs.mono ?_
 rintro e w2 ⟨rfl,hb⟩
 have HB:=Lib.hid (below_new hb)
 clear hb hs hk
 go_wp2_with fail
 go_ret
 exact ⟨rfl,HB.out⟩
end Go.Proofs.YtefpcacnblaokaaGreatDoor

/-
  The walks of a directory's walk, of its iterator: no entries. Condition: the directory has no names.
-/
set_option maxRecDepth 100000
set_option maxHeartbeats 2000000
namespace Go.Proofs.YtefpcacnblaokaaGreatDoor
open Go.RowKit Go.Shelf Go.Maps
attribute [local go_sem] Oper.semAt_some
theorem walk1_calls (l B1 B2 r a:Nat) (W:World) (h1:W.cell? ⟨B1,0,none⟩=some (.pointer (some ⟨r,0,none⟩))) (hr:W.cell? ⟨r,5,none⟩=some (.map (some a))) (ha:W.heap[a]?=some (.map #[] 0)) :
  Calls Tryz.prog 119 #[.func (.yield l) #[] #[],.pointer (some ⟨B1,0,none⟩),.pointer (some ⟨B2,0,none⟩)] W fun e W'=>(∃ v,e=.returned v)∧Below W.heap.size W W':=by
 have hs:=fun o=>itemSorted_none r a (W.alloc o) (new_cell hr o) ((Below.heap_alloc _ _ _ (lt_of_heap ha)).trans ha)
 have h1':=fun o=>new_cell h1 o
 clear ha hr
 go_enter Tryz.func119,Tryz.ntmps119
 go_wp2_with fail
 refine (hs _).mono ?_
 rintro e w1 ⟨rfl,hb⟩
 have HB:=Lib.hid (below_new hb)
 clear hb hs
 go_wp2_with fail
 go_loopw [5,6,7,8,12] (fun _x5 _x6 _x7 _x8 i wr=>i=.int .i64 0∧wr=w1) (fun _ _ _ _ _ _=>0)
 case atStart=>exact ⟨rfl,rfl⟩
 case round=>
  obtain ⟨rfl,rfl⟩:=hrel
  go_wp2_with fail
  go_end0
  exact ⟨⟨_,rfl⟩,HB.out⟩
end Go.Proofs.YtefpcacnblaokaaGreatDoor

/-
  The walks of slices.SortFunc of no elements; of a directory's walk. Condition: there is nothing to be sorted.
-/
set_option maxRecDepth 100000
set_option maxHeartbeats 2000000
namespace Go.Proofs.YtefpcacnblaokaaGreatDoor
open Go.RowKit Go.Shelf Go.Maps
attribute [local go_sem] Oper.semAt_some
theorem len0_any (w:World):Calls Tryz.prog 122 #[.int .u64 0] w fun e w'=>(∃ n,e=.returned (.int .i64 n))∧w'=w:=by
 have h:Calls Tryz.prog 199 #[.int .u64 0] w fun e w'=>(∃ n,e=.returned (.int .i64 n))∧w'=w:=by
  go_enter Tryz.func199,Tryz.ntmps199
  go_wp2_with fail
  go_ret
  exact ⟨⟨_,rfl⟩,rfl⟩
 go_enter Tryz.func122,Tryz.ntmps122
 go_wp2_with fail
 refine h.mono ?_
 rintro e w1 ⟨⟨n,rfl⟩,rfl⟩
 go_wp2_with fail
 go_ret
 exact ⟨⟨_,rfl⟩,rfl⟩
theorem sortNone_any (f:Value) (w:World):Calls Tryz.prog 83 #[.slice none 0 0,f] w fun e w'=>(∃ v,e=.returned v)∧w'=w:=by
 have hi:∀ w,Calls Tryz.prog 190 #[.slice none 0 0,.int .i64 0,.int .i64 0,f] w fun e w'=>(∃ v,e=.returned v)∧w'=w:=by
  intro w
  go_enter Tryz.func190,Tryz.ntmps190
  go_wp2_with fail
  go_loopw [8,9] (fun x8 _x9 wr=>x8=.int .i64 1∧wr=w) (fun _ _ _=>0)
  case atStart=>exact ⟨rfl,rfl⟩
  case round=>
   obtain ⟨rfl,rfl⟩:=hrel
   go_wp2_with fail
   go_end0
   exact ⟨⟨_,rfl⟩,rfl⟩
 have hp:∀ (n:Int) w,Calls Tryz.prog 121 #[.slice none 0 0,.int .i64 0,.int .i64 0,.int .i64 n,f] w fun e w'=>(∃ v,e=.returned v)∧w'=w:=by
  intro n w
  have hi':=hi
  go_enter Tryz.func121,Tryz.ntmps121
  go_wp2_with fail
  go_loopw [1,2,3,10,11,12,13,14,15,16,17,18,19,20] (fun x1 x2 x3 x10 x11 _x12 _x13 _x14 _x15 _x16 _x17 _x18 _x19 _x20 wr=>x1=.int .i64 0∧x2=.int .i64 0∧x3=.int .i64 n∧x10=.bool true∧x11=.bool true∧wr=w) (fun _ _ _ _ _ _ _ _ _ _ _ _ _ _ _=>0)
  case atStart=>exact ⟨rfl,rfl,rfl,rfl,rfl,rfl⟩
  case round=>
   obtain ⟨rfl,rfl,rfl,rfl,rfl,rfl⟩:=hrel
   go_wp2_with fail
   refine (hi' _).mono ?_
   rintro e w1 ⟨⟨u,rfl⟩,rfl⟩
   go_wp2_with fail
   (try simp only [Exit.inBlock,Exit.then])
   exact bodyPost_ret (results_none rfl _ _ _) rfl ⟨⟨_,rfl⟩,rfl⟩
 go_enter Tryz.func83,Tryz.ntmps83
 go_wp2_with fail
 refine (len0_any _).mono ?_
 rintro e w1 ⟨⟨n,rfl⟩,rfl⟩
 go_wp2_with fail
 refine (hp _ _).mono ?_
 rintro e w2 ⟨⟨u,rfl⟩,rfl⟩
 go_wp2_with fail
 exact bodyPost_end (results_none rfl _ _ _) rfl ⟨⟨_,rfl⟩,rfl⟩
end Go.Proofs.YtefpcacnblaokaaGreatDoor

/-
  The walk of tree.Dump at a tree of the root alone. Condition: the tree has the root alone.
-/
set_option maxRecDepth 100000
set_option maxHeartbeats 2000000
namespace Go.Proofs.YtefpcacnblaokaaGreatDoor
open Go.RowKit Go.Shelf Go.Maps
attribute [local go_sem] Oper.semAt_some
theorem walk_any (r:Nat) (w:World):Calls Tryz.prog 82 #[.pointer (some ⟨r,0,none⟩),.string ⟨#[]⟩] w fun e w'=>e=.returned (.func (.func 119) #[] #[.pointer (some ⟨w.heap.size,0,none⟩),.pointer (some ⟨w.heap.size+1,0,none⟩)])∧w'=(w.alloc (.cells #[.pointer (some ⟨r,0,none⟩)] 183)).alloc (.cells #[.string ⟨#[]⟩] 9):=by
 have hmf:∀ (fn:Fn) (first cap:Array Value) (w:World),(Instr.makeFunc fn first cap).run Tryz.prog w=.ok (.func fn first cap) w:=fun _ _ _ _=>rfl
 go_enter Tryz.func82,Tryz.ntmps82
 go_wp2_with fail
 go_ret
 exact ⟨rfl,rfl⟩
theorem walk1_stops (k n₀ B1 B2 r a:Nat) (w:World) (h1:w.cell? ⟨B1,0,none⟩=some (.pointer (some ⟨r,0,none⟩))) (hr:w.cell? ⟨r,5,none⟩=some (.map (some a))) (ha:w.heap[a]?=some (.map #[] 0)) :
  SeqStopsK Fence.wide k Tryz.prog 119 #[.pointer (some ⟨B1,0,none⟩),.pointer (some ⟨B2,0,none⟩)] (fun v:ByteArray × Nat=>#[Value.string v.1,Value.pointer (some ⟨v.2,0,none⟩)]) (Below n₀) (fun xs=>xs=[]) (fun _=>False) 0 w:=by
 intro l J Jx W hW hJ _ _ h0
 refine callsIn_wide.2 ((walk1_calls l B1 B2 r a W ((hW.cell (p:=⟨B1,0,none⟩) (World.block_lt_of_cell? _ _ h1)).trans h1) ((hW.cell (p:=⟨r,5,none⟩) (World.block_lt_of_cell? _ _ hr)).trans hr) ((hW.block a (lt_of_heap ha)).trans ha)).mono ?_)
 rintro e W' ⟨he,hb⟩
 exact ⟨he,.inl ⟨[],rfl,hJ _ _ _ none h0 ⟨hb.os,hb.tape,hb.output,hb.size,fun k hk _=>hb.block k hk⟩ (fun r e=>by cases e)⟩⟩
theorem dump_none (t r a b:Nat) (w:World) (h:TreeAt w t r a b) :
  Calls Tryz.prog 48 #[.pointer (some ⟨t,0,none⟩)] w fun e w'=>e=.returned (.slice none 0 0)∧Below w.heap.size w w':=by
 have c0:=new_cell (h.1.cell 0 (v:=.pointer (some ⟨r,0,none⟩)) rfl) (.cells #[.slice none 0 0] 180)
 have hr:=h.2.1.cell 5 (v:=.map (some a)) rfl
 have ha:=h.2.2.1
 clear h
 refine callsIn_wide.1 (callsIn_of_wp_marks (n:=2) Tryz.func48 rfl trivial ?_ rfl)
 simp only [Tryz.ntmps48,List.size_toArray,List.length_cons,List.length_nil,Nat.reduceAdd,Nat.reduceSub,Array.replicate_succ,Array.replicate_zero,List.push_toArray,List.append_toArray,List.nil_append,List.cons_append]
 gi_wp2_with (refine ⟨trivial, ?_⟩;gi_at_call 82;refine (callsIn_wide.2 (walk_any r _)).mono ?_;rintro e w' ⟨rfl,rfl⟩)
 have hx0:=one_new w (.slice none 0 0) 180
 have hx1:=one_new (w.alloc (.cells #[.slice none 0 0] 180)) (.pointer (some ⟨r,0,none⟩)) 183
 simp only [World.size_alloc] at hx1
 have a0:=new_cell (new_cell hx0.1 (.cells #[.pointer (some ⟨r,0,none⟩)] 183)) (.cells #[.string ⟨#[]⟩] 9)
 have a1:=new_cell hx1.1 (.cells #[.string ⟨#[]⟩] 9)
 have hB0:Below w.heap.size w (((w.alloc (.cells #[.slice none 0 0] 180)).alloc (.cells #[.pointer (some ⟨r,0,none⟩)] 183)).alloc (.cells #[.string ⟨#[]⟩] 9)):=(((Below.refl _ w).alloc (Nat.le_refl _) _).alloc (by simp) _).alloc (by simp;omega) _
 have ar:=(hB0.cell (p:=⟨r,5,none⟩) (World.block_lt_of_cell? _ _ hr)).trans hr
 have aa:=(hB0.block a (lt_of_heap ha)).trans ha
 refine wpIn_rangeFunc_ownF rfl (by decide) (gf:=119) (lb:=#[.pointer (some ⟨w.heap.size+1,0,none⟩),.pointer (some ⟨w.heap.size+1+1,0,none⟩)]) rfl trivial (enters_of Tryz.func119 (by kernel_rfl) rfl)
  (walk1_stops 1 w.heap.size (w.heap.size+1) (w.heap.size+1+1) r a _ a1 ar aa) belowK_t (belowK_b (by simp;omega)) (Below.refl _ _) (fun _=>rfl)
  (fun pre W=>(W.cell? ⟨w.heap.size,0,none⟩=some (.slice none 0 0))∧Below w.heap.size w W)
  (fun _ _ _=>False)
  (OwnFrom.and (Own.from (fun s A B row hs hg hr=>cell_kept hs hg hr) _) (ownFrom_below (Nat.le_refl _) (by simp;omega)))
  (fun _ _ _ _ _ hs _ _=>hs)
  ⟨a0,hB0⟩
  (fun v=>{ tmps:=#[.pointer (some ⟨t,0,none⟩),undef,.slice none 0 0,.pointer (some ⟨w.heap.size,0,none⟩),.string v.1,.pointer (some ⟨v.2,0,none⟩),undef,undef,undef,undef,undef,undef,.pointer (some ⟨t,0,none⟩),.pointer (some ⟨t,0,none⟩),.pointer (some ⟨t,0,none⟩),.pointer (some ⟨r,0,none⟩),.func (.func 119) #[] #[.pointer (some ⟨w.heap.size+1,0,none⟩),.pointer (some ⟨w.heap.size+1+1,0,none⟩)],.string v.1,.pointer (some ⟨v.2,0,none⟩),undef,undef,undef,undef,undef,undef,undef,undef,undef,undef,undef,undef,undef,undef,undef,undef,undef,undef,undef,undef,undef,undef,undef,undef,undef,undef,undef,undef,undef,undef,undef,undef,undef,undef,undef,undef,undef,undef,undef,undef,undef,undef,undef,undef,undef,undef,undef,undef,undef,undef,undef,undef,undef,undef,undef,undef,undef,undef,undef,undef,undef],defers:=[] }) ?assign ?body ?done ?stop
 case assign=>
  intro l v W K hK
  gi_wp2
  exact hK
 case body=>
  intro l pre v W _ hl
  exact absurd hl (Nat.not_lt_zero _)
 case done=>
  rintro D ys W hD rfl ⟨q0,hB⟩ hK
  have q1:=new_cell q0 (.map #[] 0)
  have hmk:∀ W,(Instr.makeMap 193 none).run Tryz.prog W=.ok (.map (some W.heap.size)) (W.alloc (.map #[] 0)):=fun _=>rfl
  gi_wp2_with (refine ⟨trivial, ?_⟩;gi_at_call 83;refine (callsIn_wide.2 (sortNone_any _ _)).mono ?_;rintro e w' ⟨⟨u,rfl⟩,rfl⟩)
  gi_loopw [7,8,9,10,11,30] (fun x7 _x8 _x9 _x10 _x11 i wr=>x7=.slice none 0 0∧i=.int .i64 0∧wr=w'.alloc (.map #[] 0)) (fun _ _ _ _ _ _ _=>0)
  case atStart=>exact ⟨rfl,rfl,rfl⟩
  case round=>
   obtain ⟨rfl,rfl,rfl⟩:=hrel
   gi_wp2
   have hDl:=lt_of_heap hK
   have hK2:(w'.alloc (.map #[] 0)).heap[D]?=some (.deferred (some [])):=(Below.heap_alloc _ _ _ hDl).trans hK
   refine ⟨by simp,.inl ⟨_,_,rfl,run_takeDeferred hK2, ?_⟩⟩
   refine ⟨.slice none 0 0, ?_,rfl,(hB.alloc hB.size _).trans (belowK_b (w:=w) (Nat.le_refl _) _ D _ _ (by simp at hD;omega) hK2 rfl rfl)⟩
   simp [results,Tryz.results48,go_sem]
 case stop=>
  rintro D c pre W _ h _ _
  exact h.elim
end Go.Proofs.YtefpcacnblaokaaGreatDoor

/-
  The walk of proc.Run at a job of no nodes. Conditions: limits that may be; lengths; what starts the machine, and what its main comes to.
-/
set_option maxRecDepth 100000
set_option maxHeartbeats 8000000
namespace Go.Proofs.YtefpcacnblaokaaGreatDoor
open Go.RowKit Go.Shelf Go.Maps
def Starts (w0:World) (sg:Nat) (l:List Bts) (buf line run:Nat) (inp:Bts) (Q:Int→Bts→Bts→Prop):Prop:=
 ∀ (F:Fx) (M:Nat→Prop),F.args=l→F.buf=buf→F.line=line→F.run=run→F.w0=w0→∃ g:Nat,
  (∀ (args:Array Value) (w:World),(callFunc g args).run Tryz.prog w=.ok (.enter g args) w) ∧
  (∀ W,PrAt W F M inp [] []→Calls Tryz.prog sg #[.pointer (some ⟨F.p,0,none⟩)] W fun e W'=>∃ mb,e=.returned (.pointer (some ⟨mb,0,none⟩))∧W.heap.size≤mb∧MachAt W' mb F.p g false 0∧Below W.heap.size W W') ∧
  (∀ W,PrAt W F M inp [] []→Calls Tryz.prog g #[.pointer (some ⟨F.p,0,none⟩)] W fun e W'=>∃ st inp' out' err' M',e=.returned (.int .i64 st)∧PrAt W' F M' inp' out' err'∧Mv M M' W W'∧Q st out' err')
theorem used_any (k t:Nat) (n:Int) (m:Nat) (W:World) (h:KernAt W k t n m):Calls Tryz.prog 49 #[.pointer (some ⟨k,0,none⟩)] W fun e w'=>e=.returned (.int .i64 0)∧w'=W:=by
 have c:=h.cell 3 (v:=.int .i64 0) rfl
 clear h
 go_enter Tryz.func49,Tryz.ntmps49
 go_wp2_with fail
 go_ret
 exact ⟨rfl,rfl⟩
theorem run_any (l:List Bts) (hne:l≠[]) (hll:l.length < 1073741824) (pa:Option Addr) (ca:Nat) (pi:Option Addr) (ci:Nat) (inp:Bts) (hin:inp.length≤4294967296) (buf line run:Nat) (h1:1≤buf) (h2:1≤line) (h3:line≤run) (h4:run≤1099511627776) (h5:buf≤1099511627776)
  (sg:Nat) (hsg:∀ (args:Array Value) (w:World),(callFunc sg args).run Tryz.prog w=.ok (.enter sg args) w) (Q:Int→Bts→Bts→Prop) (m:Int) (w:World) (hst:Starts w sg l buf line run inp Q) (hQ:∀ st o e,Q st o e→o.length≤4294967296∧e.length≤4294967296) (hm:w.cell? ⟨2,0,none⟩=some (.int .i64 m)) (ha:Ss w pa l) (hi:Bs w pi inp) :
  Calls Tryz.prog 27 #[jobV (.slice pa l.length ca) (.slice pi inp.length ci) buf line run,.func (.func sg) #[] #[]] w fun e w'=>∃ ov ev st steps peak out err,e=.returned (.tuple #[.agg #[ov,ev,.int .i64 st,.slice none 0 0,.int .i64 steps,.int .i64 peak,.int .i64 0],.bool true])∧Sl w' (fun g=>w.heap.size≤g) ov out∧Sl w' (fun g=>w.heap.size≤g) ev err∧Q st out err∧Below w.heap.size w w':=by
 have hpos:1≤l.length:=List.length_pos_iff.2 hne
 obtain ⟨w1,hw1⟩:∃ w1,(w.alloc (.cells #[.slice pa l.length ca,.slice none 0 0,.string ⟨#[]⟩,.slice pi inp.length ci,.slice none 0 0,.int .i64 buf,.int .i64 line,.int .i64 run,.slice none 0 0,.int .i64 0,.slice none 0 0] 32)).alloc (.cells #[.slice none 0 0,.slice none 0 0,.int .i64 0,.slice none 0 0,.int .i64 0,.int .i64 0,.int .i64 0] 35)=w1:=⟨_,rfl⟩
 have hb1:Below w.heap.size w w1:=by rw [← hw1];exact ((Below.refl _ _).alloc (Nat.le_refl _) _).alloc (by simp) _
 have hs1:w1.heap.size=w.heap.size+1+1:=by rw [← hw1];simp
 have kj1:Blk w1 w.heap.size #[.slice pa l.length ca,.slice none 0 0,.string ⟨#[]⟩,.slice pi inp.length ci,.slice none 0 0,.int .i64 buf,.int .i64 line,.int .i64 run,.slice none 0 0,.int .i64 0,.slice none 0 0] 32:=by rw [← hw1];exact (Blk.new _ _ _).alloc _
 have kr1:Blk w1 (w.heap.size+1) #[.slice none 0 0,.slice none 0 0,.int .i64 0,.slice none 0 0,.int .i64 0,.int .i64 0,.int .i64 0] 35:=by
  rw [← hw1]
  have:=Blk.new (w.alloc (.cells #[.slice pa l.length ca,.slice none 0 0,.string ⟨#[]⟩,.slice pi inp.length ci,.slice none 0 0,.int .i64 buf,.int .i64 line,.int .i64 run,.slice none 0 0,.int .i64 0,.slice none 0 0] 32)) #[.slice none 0 0,.slice none 0 0,.int .i64 0,.slice none 0 0,.int .i64 0,.int .i64 0,.int .i64 0] 35
  simpa only [World.size_alloc] using this
 have hmay:=may_yes pa l.length ca pi inp.length ci buf line run m w1 hpos (by omega) (by omega) (by omega) (by omega) (by omega) ((hb1.cell (p:=⟨2,0,none⟩) (World.block_lt_of_cell? _ _ hm)).trans hm)
 unfold jobV at *
 have HB1:=Lib.hid hb1
 have HJ1:=Lib.hid kj1
 have HR1:=Lib.hid kr1
 have HA:=Lib.hid ha
 have HI:=Lib.hid hi
 have HW1:=Lib.hid hw1
 clear hb1 kr1 ha hi hm kj1 hw1
 go_enter Tryz.func27,Tryz.ntmps27
 go_wp2_with fail
 rw [HW1.out]
 refine hmay.mono ?_
 rintro e w2 ⟨t,r,a,b,rfl,ht2,u1,u2,u3,u4,hb2⟩
 have j2:=HJ1.out.keep hb2 HJ1.out.lt
 have q8:=j2.cell 8 (v:=.slice none 0 0) rfl
 have q9:=j2.cell 9 (v:=.int .i64 0) rfl
 have HJ2:=Lib.hid j2
 have HT2:=Lib.hid ht2
 have HB2:=Lib.hid hb2
 clear hmay j2 ht2 hb2
 go_wp2_with fail
 refine (kernNew_any t w2).mono ?_
 rintro e w3 ⟨k,mp,rfl,hk3,hm3,v1,v2,hkm,hb3⟩
 have j3:=HJ2.out.keep hb3 HJ2.out.lt
 have q0:=j3.cell 0 (v:=.slice pa l.length ca) rfl
 have q1:=j3.cell 1 (v:=.slice none 0 0) rfl
 have q2:=j3.cell 2 (v:=.string ⟨#[]⟩) rfl
 have q5:=j3.cell 5 (v:=.int .i64 buf) rfl
 have q6:=j3.cell 6 (v:=.int .i64 line) rfl
 have q7:=j3.cell 7 (v:=.int .i64 run) rfl
 have hb13:=HB2.out.trans (hb3.mono HB2.out.size)
 have hpn:=procNew_any k pa l ca buf line run w3 ((HA.out.below HB1.out).below hb13) hll
 have HJ3:=Lib.hid j3
 have HT3:=Lib.hid (HT2.out.below hb3)
 have HK3:=Lib.hid hk3
 have HM3:=Lib.hid hm3
 have HB3:=Lib.hid hb13
 clear j3 hk3 hm3 hb3 hb13 q8 q9
 go_wp2_with fail
 refine hpn.mono ?_
 rintro e w4 ⟨p,tb,al,av,rfl,hp4,htb4,hal4,hav4,y1,y2,y3,y4,y5,y6,hb4⟩
 have p12:=hp4.cell 12 (v:=.bool false) rfl
 have p13:=hp4.cell 13 (v:=.bool false) rfl
 have pf12:=hp4.free 12
 have pf13:=hp4.free 13
 have hpj:p≠w.heap.size:=by have:=HJ3.out.lt;omega
 have j4:=HJ3.out.keep hb4 HJ3.out.lt
 obtain ⟨w5,hw5⟩:∃ w5,(w4.setCell ⟨p,13,none⟩ (.bool true)).setCell ⟨p,12,none⟩ (.bool true)=w5:=⟨_,rfl⟩
 have hp5:ProcAt w5 p k tb av buf line run 0 0 true true 0 al:=by rw [← hw5];exact (Blk.set hp4 13 _).set 12 _
 have hk45:Kept (fun j=>j=p) w4 w5:=by rw [← hw5];exact ((Kept.refl (fun j=>j=p) _).setCell (.inl rfl) 13 _).setCell (.inl rfl) 12 _
 have HW5:=Lib.hid hw5
 have HP5:=Lib.hid hp5
 have HK45:=Lib.hid hk45
 have HJ4:=Lib.hid j4
 have HP4:=Lib.hid hp4
 have HTB4:=Lib.hid htb4
 have HAL4:=Lib.hid hal4
 have HAV4:=Lib.hid hav4
 have HB4:=Lib.hid hb4
 clear hw5 hp5 hk45 j4 hp4 htb4 hal4 hav4 hb4 hpn q0 q1 q2 q5 q6 q7
 go_wp2_with fail
 rw [HW5.out]
 have p17:=HP5.out.cell 17 (v:=.pointer (some ⟨al,0,none⟩)) rfl
 have j5:=HJ4.out.kept HK45.out (fun e=>hpj e.symm)
 have j10:=j5.cell 10 (v:=.slice none 0 0) rfl
 have al5:=HAL4.out.kept HK45.out (fun e=>y5 e.symm)
 have alc:=al5.cell 1 (v:=.slice none 0 0) rfl
 have alf:=al5.free 1
 have alcd:=al5.drew.cell 1 (v:=.slice none 0 0) rfl
 have alfd:=al5.drew.free 1
 have HJ5:=Lib.hid j5
 have HAL5:=Lib.hid al5
 clear j5 al5 p12 p13 pf12 pf13
 have hpa:al≠p:=fun e=>y5 e.symm
 have haj:al≠w.heap.size:=by have:=HJ3.out.lt;omega
 go_region_held3 (fun w'=>w'.cell? ⟨p,17,none⟩=some (.pointer (some ⟨al,0,none⟩))∧w'.cell? ⟨w.heap.size,10,none⟩=some (.slice none 0 0)) (first | go_keep)
  ((go_at_call 42;refine (Any.slices_Clone_int_nil Tryz.laysNm215 0 0 _).mono ?_;rintro e w6 ⟨rfl,rfl⟩))
 obtain ⟨w6,hw6⟩:∃ w6,(w5.setCell ⟨al,1,none⟩ (.slice none 0 0)).drew=w6:=⟨_,rfl⟩
 have hk56:Kept (fun j=>j=al) w5 w6:=by rw [← hw6];exact ((Kept.refl (fun j=>j=al) _).setCell (.inl rfl) 1 _).drew
 rw [hw6]
 clear hw6 p17 j10 alc alf alcd alfd
 have hk46:Kept (fun j=>j=p∨j=al) w4 w6:=(HK45.out.mono fun _ _ h=>.inl h).trans (hk56.mono fun _ _ h=>.inr h)
 have hk36:Kept (fun j=>j=p∨j=al) w3 w6:=(Kept.of_below HB4.out).trans hk46
 have z3:=HB3.out.size
 have zt:=HK3.out.lt
 have zm:=lt_of_heap HM3.out
 have k6:KernAt w6 k t 0 mp:=Blk.kept HK3.out hk36 (by rintro (h | h) <;> omega)
 have m6:w6.ownsMap Tryz.prog 3 thElem mp 0 (.map []):=by
  have h6:w6.heap[mp]?=some (.map #[] 0):=(hk36.block mp zm (by rintro (h | h) <;> omega)).trans HM3.out
  exact ⟨#[],0,h6,⟨by simp,MapKept.stamped_empty 0,by simp⟩,Nat.le_refl _,rfl⟩
 have t6:TabAt w6 tb k .nilIface .nilIface .nilIface:=Blk.kept HTB4.out hk46 (by rintro (h | h) <;> omega)
 have p6:ProcAt w6 p k tb av buf line run 0 0 true true 0 al:=Blk.kept HP5.out hk56 (fun e=>hpa e.symm)
 have j6:=HJ5.out.kept hk56 (fun e=>haj e.symm)
 have hkm6:k≠mp:=hkm
 have hi6:Bs w6 pi inp:=by
  intro hl
  obtain ⟨b0,o0,hq,hc⟩:=HI.out hl
  have hb0:=World.block_lt_of_cell? _ _ (hc 0 hl)
  refine ⟨b0,o0,hq,fun j hj=>?_⟩
  have e1:=(HB1.out.cell (p:=⟨b0,o0+j,none⟩) hb0).trans (hc j hj)
  have e2:=(HB3.out.cell (p:=⟨b0,o0+j,none⟩) (World.block_lt_of_cell? _ _ e1)).trans e1
  refine (World.cell?_of_block (hk36.block b0 (World.block_lt_of_cell? _ _ e2) ?_)).trans e2
  have hb0':b0 < w.heap.size:=hb0
  rintro (h | h) <;> omega
 have hsrc:=source_any k t 0 mp (.map []) pi inp ci w6.drew (Blk.drew k6) m6.drew (by decide) hkm6 (hi6.drew 1) (by omega)
 have g1:=p6.cell 1 (v:=.pointer (some ⟨tb,0,none⟩)) rfl
 have g3:=j6.cell 3 (v:=.slice pi inp.length ci) rfl
 have HK6:=Lib.hid k6
 have HM6:=Lib.hid m6
 have HT6:=Lib.hid t6
 have HP6:=Lib.hid p6
 have HJ6:=Lib.hid j6
 have HK46:=Lib.hid hk46
 have HK36:=Lib.hid hk36
 have hlt6:w4.heap.size≤w6.heap.size:=hk46.size
 have hp6l:=p6.lt
 have ht6l:=t6.lt
 clear k6 m6 t6 p6 j6 hk46 hk36 hk56 hi6
 have HSRC:=Lib.hid hsrc
 clear hsrc
 have npk:p≠k∧p≠mp∧w.heap.size≠k∧w.heap.size≠mp:=by
  have:=HJ3.out.lt
  have hj1:=HJ1.out.lt
  have:=HB2.out.size
  exact ⟨by omega,by omega,by omega,by omega⟩
 have ntk:tb≠k∧tb≠mp:=⟨by omega,by omega⟩
 go_wp2_with fail
 go_region_held3 (fun w'=>w'.cell? ⟨p,1,none⟩=some (.pointer (some ⟨tb,0,none⟩))∧w'.cell? ⟨w.heap.size,3,none⟩=some (.slice pi inp.length ci)) (first | go_keep | exact HS7.out | exact HS8.out)
  ((first
   | (go_at_call 44;refine HSRC.out.mono ?_;rintro e w7 ⟨s0,rfl,hk7,hm7,hsrc7,hs07,hkk7⟩;have hkk:=(Kept.of_below (S:=fun j=>j=k∨j=mp) (below_drew2 w6)).trans hkk7;have hp7:=Blk.kept HP6.out hkk (by rintro (h | h);exact npk.1 h;exact npk.2.1 h);have hj7:=Blk.kept HJ6.out hkk (by rintro (h | h);exact npk.2.2.1 h;exact npk.2.2.2 h);have ht7:=Blk.kept HT6.out hkk (by rintro (h | h);exact ntk.1 h;exact ntk.2 h);have HS7:=Lib.hid (show w7.cell? ⟨p,1,none⟩=some (.pointer (some ⟨tb,0,none⟩))∧w7.cell? ⟨w.heap.size,3,none⟩=some (.slice pi inp.length ci) from ⟨hp7.cell 1 rfl,hj7.cell 3 rfl⟩);have HK7:=Lib.hid hk7;have HM7:=Lib.hid hm7;have HP7:=Lib.hid hp7;have HJ7:=Lib.hid hj7;have HT7:=Lib.hid ht7;have HSR7:=Lib.hid hsrc7;have HKK7:=Lib.hid hkk;clear hk7 hm7 hp7 hj7 ht7 hsrc7 hkk7 hkk)
   | (go_at_call 43;refine (put_any tb k t 1 mp _ 0 (by decide) 0 (by decide) _ (.inl rfl) s0 w7 HK7.out HM7.out rfl rfl (HT7.out.cell 0 rfl) (HT7.out.cell 1 rfl) (HT7.out.free 1)).mono ?_;rintro e w8 ⟨⟨u8,rfl⟩,rfl⟩;have HS8:=Lib.hid (show (w7.setCell ⟨tb,1+0,none⟩ (thV 173 s0)).cell? ⟨p,1,none⟩=some (.pointer (some ⟨tb,0,none⟩))∧(w7.setCell ⟨tb,1+0,none⟩ (thV 173 s0)).cell? ⟨w.heap.size,3,none⟩=some (.slice pi inp.length ci) from ⟨(HP7.out.setOther (a:=⟨tb,1+0,none⟩) y4 _).cell 1 rfl,(HJ7.out.setOther (a:=⟨tb,1+0,none⟩) (by show w.heap.size≠tb;have:=HJ3.out.lt;omega) _).cell 3 rfl⟩))))
 obtain ⟨w8,hw8⟩:∃ w8,w7.setCell ⟨tb,1,none⟩ (thV 173 s0)=w8:=⟨_,rfl⟩
 have hk78:Kept (fun j=>j=tb) w7 w8:=by rw [← hw8];exact (Kept.refl (fun j=>j=tb) _).setCell (.inl rfl) 1 _
 have t8:TabAt w8 tb k (thV 173 s0) .nilIface .nilIface:=by rw [← hw8];exact Blk.set HT7.out 1 _
 rw [hw8]
 have nkt:k≠tb∧mp≠tb:=⟨fun e=>ntk.1 e.symm,fun e=>ntk.2 e.symm⟩
 have nst:s0≠tb:=by have:w6.heap.size≤s0:=hs07;omega
 have k8:KernAt w8 k t ((0+1:Nat):Int) mp:=Blk.kept HK7.out hk78 nkt.1
 have m8:=map_same HM7.out (hk78.block mp HM7.out.lt nkt.2)
 have p8:ProcAt w8 p k tb av buf line run 0 0 true true 0 al:=Blk.kept HP7.out hk78 y4
 have hk68:Kept (fun j=>j=k∨j=mp∨j=tb) w6 w8:=(HKK7.out.mono fun _ _ h=>h.elim .inl fun h=>.inr (.inl h)).trans (hk78.mono fun _ _ h=>.inr (.inr h))
 have sr8:SrcAt w8 (fun g=>w6.heap.size≤g∧g < s0) s0 inp:=by
  obtain ⟨vs,hvs,hss⟩:=HSR7.out
  exact ⟨vs,hvs.kept hk78 nst,(hss.kept hk78 fun g _ hN e=>by have:=hN.1;have:w6.drew.heap.size≤g:=hN.1;have:w6.heap.size≤g:=this;omega).mono fun g _ hN=>hN⟩
 have hsk:=sink_any k t (0+1) mp _ w8 k8 m8 (by decide) hkm6
 have HT8:=Lib.hid t8
 have HP8:=Lib.hid p8
 have HK68:=Lib.hid hk68
 have HSR8:=Lib.hid sr8
 have hs08:=HSR8.out
 clear hw8 hk78 t8 k8 m8 p8 hk68 sr8 hs08 g1 g3
 go_wp2_with fail
 refine hsk.mono ?_
 rintro e w9 ⟨rfl,hk9,hm9,hb9,hkk9⟩
 have hsk2:=sink_any k t (0+1+1) mp _ w9 hk9 hm9 (by decide) hkm6
 have HB9:=Lib.hid hb9
 have HKK9:=Lib.hid hkk9
 clear hsk hk9 hm9 hb9 hkk9
 go_wp2_with fail
 refine hsk2.mono ?_
 rintro e w10 ⟨rfl,hk10,hm10,hb10,hkk10⟩
 have hk8x:Kept (fun j=>j=k∨j=mp) w8 w10:=HKK9.out.trans hkk10
 have z8:w6.heap.size≤w8.heap.size:=HK68.out.size
 have z9:w8.heap.size < w9.heap.size:=HB9.out.lt
 have z10:w9.heap.size < w10.heap.size:=hb10.lt
 have t10:TabAt w10 tb k (thV 173 s0) .nilIface .nilIface:=Blk.kept HT8.out hk8x (by rintro (h | h);exact ntk.1 h;exact ntk.2 h)
 have p10:ProcAt w10 p k tb av buf line run 0 0 true true 0 al:=Blk.kept HP8.out hk8x (by rintro (h | h);exact npk.1 h;exact npk.2.1 h)
 have b10:Blk w10 w8.heap.size #[.slice none 0 0] 178:=HB9.out.kept hkk10 (by rintro (h | h) <;> omega)
 have hp1:=put_any tb k t ((0+1+1+1:Nat):Int).toNat mp _ 1 (by decide) 1 (by decide) _ (.inr rfl) w8.heap.size w10 hk10 hm10 rfl rfl (t10.cell 0 rfl) (t10.cell 2 rfl) (t10.free 2)
 have d1:=p10.cell 1 (v:=.pointer (some ⟨tb,0,none⟩)) rfl
 have HK10:=Lib.hid hk10
 have HM10:=Lib.hid hm10
 have HT10:=Lib.hid t10
 have HP10:=Lib.hid p10
 have HB10:=Lib.hid b10
 have HC10:=Lib.hid hb10
 have HK8X:=Lib.hid hk8x
 clear hk10 hm10 t10 p10 b10 hb10 hk8x hsk2 hkk10
 go_wp2_with fail
 refine hp1.mono ?_
 rintro e w11 ⟨⟨u11,rfl⟩,rfl⟩
 obtain ⟨w11,hw11⟩:∃ w11,w10.setCell ⟨tb,1+1,none⟩ (thV 177 w8.heap.size)=w11:=⟨_,rfl⟩
 rw [hw11]
 have hk11:Kept (fun j=>j=tb) w10 w11:=by rw [← hw11];exact (Kept.refl (fun j=>j=tb) _).setCell (.inl rfl) _ _
 have t11:TabAt w11 tb k (thV 173 s0) (thV 177 w8.heap.size) .nilIface:=by rw [← hw11];exact Blk.set HT10.out 2 _
 have k11:KernAt w11 k t ((0+1+1+1:Nat):Int) mp:=Blk.kept HK10.out hk11 nkt.1
 have m11:=map_same HM10.out (hk11.block mp HM10.out.lt nkt.2)
 have p11:ProcAt w11 p k tb av buf line run 0 0 true true 0 al:=Blk.kept HP10.out hk11 y4
 have hp2:=put_any tb k t ((0+1+1+1:Nat):Int).toNat mp _ 2 (by decide) 2 (by decide) _ (.inr rfl) w9.heap.size w11 k11 m11 rfl rfl (t11.cell 0 rfl) (t11.cell 3 rfl) (t11.free 3)
 have d2:=p11.cell 1 (v:=.pointer (some ⟨tb,0,none⟩)) rfl
 have HT11:=Lib.hid t11
 have HK11:=Lib.hid k11
 have HM11:=Lib.hid m11
 have HP11:=Lib.hid p11
 have HKK11:=Lib.hid hk11
 clear hw11 t11 k11 m11 p11 hk11 hp1 d1
 go_wp2_with fail
 refine hp2.mono ?_
 rintro e w12 ⟨⟨u12,rfl⟩,rfl⟩
 obtain ⟨w12,hw12⟩:∃ w12,w11.setCell ⟨tb,1+2,none⟩ (thV 177 w9.heap.size)=w12:=⟨_,rfl⟩
 rw [hw12]
 have hk12:Kept (fun j=>j=tb) w11 w12:=by rw [← hw12];exact (Kept.refl (fun j=>j=tb) _).setCell (.inl rfl) _ _
 have t12:TabAt w12 tb k (thV 173 s0) (thV 177 w8.heap.size) (thV 177 w9.heap.size):=by rw [← hw12];exact Blk.set HT11.out 3 _
 have k12:KernAt w12 k t ((2+1:Nat):Int) mp:=Blk.kept HK11.out hk12 nkt.1
 have m12:=map_same HM11.out (hk12.block mp HM11.out.lt nkt.2)
 have p12:ProcAt w12 p k tb av buf line run 0 0 true true 0 al:=Blk.kept HP11.out hk12 y4
 have z6:w4.heap.size≤w6.heap.size:=hlt6
 have z12:w10.heap.size≤w12.heap.size:=Nat.le_trans HKK11.out.size hk12.size
 have hs06:w6.heap.size≤s0:=by have:w6.drew.heap.size≤s0:=hs07;exact this
 have hs08:s0 < w8.heap.size:=by obtain ⟨vs,hvs,-⟩:=HSR8.out;exact hvs.lt
 have hk1012:Kept (fun j=>j=tb) w10 w12:=HKK11.out.trans hk12
 have hk612:Kept (fun j=>j=k∨j=mp∨j=tb) w6 w12:=(HK68.out.trans (HK8X.out.mono fun _ _ h=>h.elim .inl fun h=>.inr (.inl h))).trans (hk1012.mono fun _ _ h=>.inr (.inr h))
 have hk312:Kept (fun j=>(j=p∨j=al)∨j=k∨j=mp∨j=tb) w3 w12:=(HK36.out.mono fun _ _ h=>.inl h).trans (hk612.mono fun _ _ h=>.inr h)
 have hk412:Kept (fun j=>(j=p∨j=al)∨j=k∨j=mp∨j=tb) w4 w12:=(HK46.out.mono fun _ _ h=>.inl h).trans (hk612.mono fun _ _ h=>.inr h)
 have hplt:p < w4.heap.size:=HP4.out.lt
 have htlt:tb < w4.heap.size:=HTB4.out.lt
 have hallt:al < w4.heap.size:=HAL4.out.lt
 have hklt:k < w3.heap.size:=HK3.out.lt
 have hmlt:mp < w3.heap.size:=lt_of_heap HM3.out
 have zb1:w.heap.size≤w1.heap.size:=HB1.out.size
 have zb3:w1.heap.size≤w3.heap.size:=HB3.out.size
 have zb2:w2.heap.size≤w3.heap.size:=by omega
 have tr2:=HT2.out
 have tlt:t < w2.heap.size∧r < w2.heap.size∧a < w2.heap.size∧b < w2.heap.size:=⟨tr2.1.lt,tr2.2.1.lt,lt_of_heap tr2.2.2.1,lt_of_heap tr2.2.2.2⟩
 have t12':TreeAt w12 t r a b:=by
  have h3:=HT3.out
  have hn:∀ j,j < w2.heap.size→¬ ((j=p∨j=al)∨j=k∨j=mp∨j=tb):=by intro j hj;omega
  exact ⟨Blk.kept h3.1 hk312 (hn _ tlt.1),Blk.kept h3.2.1 hk312 (hn _ tlt.2.1),(hk312.block _ (lt_of_heap h3.2.2.1) (hn _ tlt.2.2.1)).trans h3.2.2.1,(hk312.block _ (lt_of_heap h3.2.2.2) (hn _ tlt.2.2.2)).trans h3.2.2.2⟩
 have avb:∀ j,av.ownBlock=some j→w3.heap.size≤j∧j < w4.heap.size∧j≠p∧j≠al∧j≠tb:=by
  intro j hj
  rcases HAV4.out with ⟨-,⟨e,-⟩ | ⟨g,cap,cur,e,hg,hb,-⟩⟩
  ·rw [e] at hj;cases hj
  ·rw [e] at hj
   injection hj with hj
   subst hj
   have hne:∀ {q:Nat} {cs:Array Value} {ty:TypeId},Blk w4 q cs ty→ty≠9→g≠q:=fun hq hty e=>by
    subst e
    rw [show w4.heap[g]?=some (.cells _ _ (0,0)) from hq] at hb
    injection hb with hb
    injection hb with _ hb
    exact hty hb
   exact ⟨hg,lt_of_heap hb,hne HP4.out (by decide),hne HAL4.out (by decide),hne HTB4.out (by decide)⟩
 have av12:w12.ownsRow 0 9 1 av l.length (l.map strV):=own_kept (own_mono HAV4.out (Nat.zero_le _)) hk412 fun j hj=>by
  have:=avb j hj;omega
 have hpr:PrAt w12 ⟨t,r,a,b,k,mp,tb,s0,w8.heap.size,w9.heap.size,p,al,w12.heap.size,av,l,buf,line,run,w⟩ (fun j=>j=p∨j=s0∨j=w8.heap.size∨j=w9.heap.size) inp [] []:=by
  refine ⟨⟨t12',k12,m12,t12,av12,fun j hj=>?_,hll, ?_, ?_, ?_, ?_, ?_, ?_, ?_, ?_,fun j hj=>?_, ?_⟩, ?_,⟨.slice none 0 0,.slice none 0 0,HB10.out.kept hk1012 (by first | omega | (simp only;omega)),HC10.out.kept hk1012 (by first | omega | (simp only;omega)),World.ownsRow_nil _ _ _ _,World.ownsRow_nil _ _ _ _,fun j hj=>(by cases hj),fun j hj=>(by cases hj)⟩,⟨0,0,0,p12⟩,.inl rfl,.inr (.inl rfl),.inr (.inr (.inl rfl)),.inr (.inr (.inr rfl)), ?_,fun j hj=>?_,Nat.le_refl _, ?_,hin⟩
  ·have:=avb j hj
   first | omega | (simp only;omega)
  ·first | omega | (simp only;omega)
  ·first | omega | (simp only;omega)
  ·first | omega | (simp only;omega)
  ·first | omega | (simp only;omega)
  ·first | omega | (simp only;omega)
  ·first | omega | (simp only;omega)
  ·first | omega | (simp only;omega)
  ·exact (HB1.out.trans (HB3.out.mono zb1)).trans (below_of_kept hk312 (fun j hj=>by omega) (by omega))
  ·first | omega | (simp only at hj ⊢;omega)
  ·first | omega | (simp only;omega)
  ·obtain ⟨vs,hvs,hss⟩:=HSR8.out
   have hk812:Kept (fun j=>(j=k∨j=mp)∨j=tb) w8 w12:=(HK8X.out.mono fun _ _ h=>.inl h).trans (hk1012.mono fun _ _ h=>.inr h)
   exact ⟨vs,hvs.kept hk812 (by omega),(hss.kept hk812 fun g _ hN=>by have:=hN.1;omega).mono fun g _ hN=>by have:=hN.1;have:=hN.2;first | omega | (simp only;omega)⟩
  ·first | omega | (simp only;omega)
  ·first | omega | (simp only at hj;omega)
  ·first | omega | (simp only;omega)
 obtain ⟨F,hF⟩:∃ F:Fx,F=⟨t,r,a,b,k,mp,tb,s0,w8.heap.size,w9.heap.size,p,al,w12.heap.size,av,l,buf,line,run,w⟩:=⟨_,rfl⟩
 obtain ⟨M,hM⟩:∃ M:Nat→Prop,M=(fun j=>j=p∨j=s0∨j=w8.heap.size∨j=w9.heap.size):=⟨_,rfl⟩
 rw [← hF,← hM] at hpr
 have eP:F.p=p:=by rw [hF]
 have eK:F.k=k:=by rw [hF]
 have eT:F.t=t:=by rw [hF]
 have eTb:F.tb=tb:=by rw [hF]
 have eMp:F.m=mp:=by rw [hF]
 have eW:F.w0=w:=by rw [hF]
 have eN:F.n0=w12.heap.size:=by rw [hF]
 have eM:∀ j,M j→w.heap.size≤j∧j≠w.heap.size∧j≠w.heap.size+1:=by rw [hM];intro j hj;have hj:j=p∨j=s0∨j=w8.heap.size∨j=w9.heap.size:=hj;have:=HJ3.out.lt;have:=HR1.out.lt;omega
 obtain ⟨g,hent,hstart,hmain⟩:=hst F M (by rw [hF]) (by rw [hF]) (by rw [hF]) (by rw [hF]) (by rw [hF])
 have hs12:=hstart w12 hpr
 rw [eP] at hs12
 have r12:Blk w12 (w.heap.size+1) #[.slice none 0 0,.slice none 0 0,.int .i64 0,.slice none 0 0,.int .i64 0,.int .i64 0,.int .i64 0] 35:=by
  have h3:=HR1.out.keep HB3.out HR1.out.lt
  exact Blk.kept h3 hk312 (by have:=HR1.out.lt;have:=HB2.out.size;omega)
 have HR12:=Lib.hid r12
 have HPR:=Lib.hid hpr
 have HMAIN:=Lib.hid hmain
 clear hF hM hpr hst hstart hmain r12 k12 m12 p12 t12' av12 avb hk1012 hk612 hk312 hk412 hk12 tr2 hp2 d2 t12
 go_wp2_with fail
 refine hs12.mono ?_
 rintro e w13 ⟨mb,rfl,hmb,hma,hb13⟩
 have hmx:¬ M mb:=fun h=>by have:=HPR.out.lt mb h;omega
 have hgo:=goOn_any F M inp [] [] g mb 0 w13 (HPR.out.below hb13) (by rw [eP];exact hma) (by omega) hmx hent Q HMAIN.out
 have r13:=HR12.out.keep hb13 HR12.out.lt
 have HR13:=Lib.hid r13
 have HB13:=Lib.hid hb13
 clear hma hb13 r13 hs12
 go_wp2_with fail
 refine hgo.mono ?_
 rintro e w14 ⟨⟨u14,rfl⟩,st,out,err,hend,hma14,hk14,hq⟩
 have r14:=Blk.kept HR13.out hk14 (by
  have h1:=HR1.out.lt
  rintro (h | h | h)
  ·exact (eM _ h).2.2 rfl
  ·omega
  ·rw [eTb] at h;omega)
 obtain ⟨hdT,hdK,hdM,⟨v1,v2,hs1,hs2,ho1,ho2⟩,⟨hd,pk,stp,may,hpp⟩⟩:=hend
 rw [eP,eK,eTb] at hpp
 have g3:=hma14.cell 3 (v:=.int .i64 st) rfl
 have g15:=hpp.cell 15 (v:=.int .i64 stp) rfl
 have g9:=hpp.cell 9 (v:=.int .i64 pk) rfl
 have gn3:=hma14.lt
 have gnp:=hpp.lt
 obtain ⟨q1,c1,e1,hx1,hcp1⟩:=(Sl.own ho1).bs
 obtain ⟨q2,c2,e2,hx2,hcp2⟩:=(Sl.own ho2).bs
 obtain ⟨hol,hel⟩:=hQ _ _ _ hq
 rw [eK,eT,eMp] at hdK
 rw [eMp] at hdM
 rw [eT] at hdT
 have c1':=hs1.cell 0 (v:=v1) rfl
 have c2':=hs2.cell 0 (v:=v2) rfl
 rw [e1] at c1'
 rw [e2] at c2'
 have SAID1:Hid (∀ W,Below w14.heap.size w14 W→Calls Tryz.prog 47 #[.pointer (some ⟨k,0,none⟩),.int .i64 2] W fun e w'=>∃ v',e=.returned v'∧w'.ownsRow W.heap.size 5 1 v' out.length (out.map u8V)∧Below W.heap.size W w'):=Lib.hid (fun W hW=>
  said_any k t (2+1) mp (thD3 F) 1 (by decide) F.s1 q1 out c1 W (Blk.keep hdK hW hdK.lt) (map_same hdM (hW.block mp hdM.lt)) rfl ((hW.cell (p:=⟨F.s1,0,none⟩) hs1.lt).trans c1') (hx1.below hW (Nat.le_refl _)) (by omega))
 have SAID2:Hid (∀ W,Below w14.heap.size w14 W→Calls Tryz.prog 47 #[.pointer (some ⟨k,0,none⟩),.int .i64 3] W fun e w'=>∃ v',e=.returned v'∧w'.ownsRow W.heap.size 5 1 v' err.length (err.map u8V)∧Below W.heap.size W w'):=Lib.hid (fun W hW=>
  said_any k t (2+1) mp (thD3 F) 2 (by decide) F.s2 q2 err c2 W (Blk.keep hdK hW hdK.lt) (map_same hdM (hW.block mp hdM.lt)) rfl ((hW.cell (p:=⟨F.s2,0,none⟩) hs2.lt).trans c2') (hx2.below hW (Nat.le_refl _)) (by omega))
 have DUMP:Hid (∀ W,Below w14.heap.size w14 W→Calls Tryz.prog 48 #[.pointer (some ⟨t,0,none⟩)] W fun e w'=>e=.returned (.slice none 0 0)∧Below W.heap.size W w'):=Lib.hid (fun W hW=>dump_none t _ _ _ W (hdT.below hW))
 have USED:Hid (∀ W,Below w14.heap.size w14 W→Calls Tryz.prog 49 #[.pointer (some ⟨k,0,none⟩)] W fun e w'=>e=.returned (.int .i64 0)∧w'=W):=Lib.hid (fun W hW=>used_any k t _ mp W (Blk.keep hdK hW hdK.lt))
 have ne1:mb≠w.heap.size+1:=by have:=HR12.out.lt;have:=HB13.out.size;omega
 have ne2:p≠w.heap.size+1:=by have:=HR1.out.lt;omega
 have S0:∀ W,Below w14.heap.size w14 W→W.cell? ⟨mb,3,none⟩=some (.int .i64 st)∧W.cell? ⟨p,15,none⟩=some (.int .i64 stp)∧W.cell? ⟨p,9,none⟩=some (.int .i64 pk):=fun W hW=>
  ⟨(hW.cell (p:=⟨mb,3,none⟩) gn3).trans g3,(hW.cell (p:=⟨p,15,none⟩) gnp).trans g15,(hW.cell (p:=⟨p,9,none⟩) gnp).trans g9⟩
 have SC:∀ (W:World) (i:Nat) (v:Value),(W.cell? ⟨mb,3,none⟩=some (.int .i64 st)∧W.cell? ⟨p,15,none⟩=some (.int .i64 stp)∧W.cell? ⟨p,9,none⟩=some (.int .i64 pk))→(W.setCell ⟨w.heap.size+1,i,none⟩ v).cell? ⟨mb,3,none⟩=some (.int .i64 st)∧(W.setCell ⟨w.heap.size+1,i,none⟩ v).cell? ⟨p,15,none⟩=some (.int .i64 stp)∧(W.setCell ⟨w.heap.size+1,i,none⟩ v).cell? ⟨p,9,none⟩=some (.int .i64 pk):=fun W i v h=>
  ⟨(World.cell?_setCell_other _ _ _ _ (by simp <;> omega)).trans h.1,(World.cell?_setCell_other _ _ _ _ (by simp <;> omega)).trans h.2.1,(World.cell?_setCell_other _ _ _ _ (by simp <;> omega)).trans h.2.2⟩
 have SCH:=Lib.hid SC
 clear SC
 have KEEP:=Lib.hid S0
 have HR14:=Lib.hid r14
 have HK14:=Lib.hid hk14
 have HQ:=Lib.hid hq
 clear S0 r14 hk14 hq hdT hdK hdM hs1 hs2 ho1 ho2 hpp hma14 hgo c1' c2' e1 e2 hx1 hx2
 go_wp2_with fail
 go_region_held3 (fun w'=>w'.cell? ⟨mb,3,none⟩=some (.int .i64 st)∧w'.cell? ⟨p,15,none⟩=some (.int .i64 stp)∧w'.cell? ⟨p,9,none⟩=some (.int .i64 pk)) (first | (with_reducible exact HS18.out) | (with_reducible exact HS17.out) | (with_reducible exact HS16.out) | (with_reducible exact HS15.out) | go_keep)
  ((first
   | (go_at_call 47;refine (SAID1.out _ (below_drew2 w14)).mono ?_;clear SAID1;rintro e w15 ⟨va,rfl,hoa,hba⟩;obtain ⟨pa1,ca1,rfl,-,-⟩:=(Sl.own hoa).bs;have HB15:=Lib.hid ((below_drew2 w14).trans hba);have HOA:=Lib.hid hoa;have HS15:=Lib.hid (KEEP.out _ HB15.out);clear hoa hba)
   | (go_at_call 47;refine (SAID2.out _ HB15.out).mono ?_;clear SAID2;rintro e w16 ⟨vb,rfl,hob,hbb⟩;obtain ⟨pb1,cb1,rfl,-,-⟩:=(Sl.own hob).bs;have HBB:=Lib.hid hbb;have HB16:=Lib.hid (HB15.out.trans (hbb.mono HB15.out.size));have HOB:=Lib.hid hob;have HS16:=Lib.hid (KEEP.out _ HB16.out);clear hob hbb)
   | (go_at_call 48;refine (DUMP.out _ HB16.out).mono ?_;clear DUMP;rintro e w17 ⟨rfl,hbd⟩;have HBD:=Lib.hid hbd;have HB17:=Lib.hid (HB16.out.trans (hbd.mono HB16.out.size));have HS17:=Lib.hid (KEEP.out _ HB17.out);clear hbd)
   | (go_at_call 49;refine (USED.out _ HB17.out).mono ?_;clear USED;rintro e w18 ⟨rfl,rfl⟩;have r17:=HR14.out.keep HB17.out HR14.out.lt;have z0:=r17.cell 0 (v:=.slice none 0 0) rfl;have z1:=r17.cell 1 (v:=.slice none 0 0) rfl;have z2:=r17.cell 2 (v:=.int .i64 0) rfl;have z3:=r17.cell 3 (v:=.slice none 0 0) rfl;have z4:=r17.cell 4 (v:=.int .i64 0) rfl;have z5:=r17.cell 5 (v:=.int .i64 0) rfl;have z6:=r17.cell 6 (v:=.int .i64 0) rfl;have y0:=r17.free 0;have y1:=r17.free 1;have y2:=r17.free 2;have y3:=r17.free 3;have y4:=r17.free 4;have y5:=r17.free 5;have y6:=r17.free 6;have HR17:=Lib.hid r17;have HS18:=Lib.hid (SCH.out _ 6 (.int .i64 0) (SCH.out _ 5 (.int .i64 pk) (SCH.out _ 4 (.int .i64 stp) (SCH.out _ 3 (.slice none 0 0) (SCH.out _ 2 (.int .i64 st) (SCH.out _ 1 (.slice pb1 err.length cb1) (SCH.out _ 0 (.slice pa1 out.length ca1) HS17.out)))))));clear r17)))
 obtain ⟨w19,hw19⟩:∃ w19,((((((w18.setCell ⟨w.heap.size+1,0,none⟩ (.slice pa1 out.length ca1)).setCell ⟨w.heap.size+1,1,none⟩ (.slice pb1 err.length cb1)).setCell ⟨w.heap.size+1,2,none⟩ (.int .i64 st)).setCell ⟨w.heap.size+1,3,none⟩ (.slice none 0 0)).setCell ⟨w.heap.size+1,4,none⟩ (.int .i64 stp)).setCell ⟨w.heap.size+1,5,none⟩ (.int .i64 pk)).setCell ⟨w.heap.size+1,6,none⟩ (.int .i64 0)=w19:=⟨_,rfl⟩
 have hr19:Blk w19 (w.heap.size+1) #[.slice pa1 out.length ca1,.slice pb1 err.length cb1,.int .i64 st,.slice none 0 0,.int .i64 stp,.int .i64 pk,.int .i64 0] 35:=by
  rw [← hw19]
  exact ((((((HR17.out.set 0 _).set 1 _).set 2 _).set 3 _).set 4 _).set 5 _).set 6 _
 have hk19:Kept (fun j=>j=w.heap.size+1) w18 w19:=by
  rw [← hw19]
  exact (((((((Kept.refl (fun j=>j=w.heap.size+1) w18).setCell (.inl rfl) 0 _).setCell (.inl rfl) 1 _).setCell (.inl rfl) 2 _).setCell (.inl rfl) 3 _).setCell (.inl rfl) 4 _).setCell (.inl rfl) 5 _).setCell (.inl rfl) 6 _
 rw [hw19]
 have hold:=HPR.out.fix.old
 rw [eW] at hold
 have hM0:=HPR.out.fix.oldW
 rw [eW] at hM0
 have y12:w.heap.size≤w12.heap.size:=hold.size
 have b13:Below w.heap.size w w13:=hold.trans (HB13.out.mono y12)
 have b14:Below w.heap.size w w14:=b13.trans (below_of_kept HK14.out (by
  rintro j (h | h | h)
  ·exact hM0 j h
  ·have:=HB13.out.size;omega
  ·rw [eTb] at h;omega) b13.size)
 have y14:w.heap.size+2≤w14.heap.size:=by have:=HR14.out.lt;omega
 have b18:Below w.heap.size w w18:=b14.trans (HB17.out.mono b14.size)
 have b19:Below w.heap.size w w19:=b18.trans (below_of_kept hk19 (by rintro j rfl;omega) b18.size)
 have y15:w14.heap.size≤w15.heap.size:=HB15.out.size
 have sA:Sl w19 (fun g=>w.heap.size≤g) (.slice pa1 out.length ca1) out:=by
  have h1:Sl w18 _ _ _:=((Sl.own HOA.out).below HBB.out).below HBD.out
  exact (h1.kept hk19 fun g _ hg e=>by have h:=hg.1;have h:w14.heap.size≤g:=h;omega).mono fun g _ hg=>by have h:=hg.1;have h:w14.heap.size≤g:=h;omega
 have sB:Sl w19 (fun g=>w.heap.size≤g) (.slice pb1 err.length cb1) err:=by
  have h1:Sl w18 _ _ _:=(Sl.own HOB.out).below HBD.out
  exact (h1.kept hk19 fun g _ hg e=>by have h:=hg.1;omega).mono fun g _ hg=>by have h:=hg.1;omega
 have r0:=hr19.cell 0 (v:=.slice pa1 out.length ca1) rfl
 have r1:=hr19.cell 1 (v:=.slice pb1 err.length cb1) rfl
 have r2:=hr19.cell 2 (v:=.int .i64 st) rfl
 have r3:=hr19.cell 3 (v:=.slice none 0 0) rfl
 have r4:=hr19.cell 4 (v:=.int .i64 stp) rfl
 have r5:=hr19.cell 5 (v:=.int .i64 pk) rfl
 have r6:=hr19.cell 6 (v:=.int .i64 0) rfl
 have HSA:=Lib.hid sA
 have HSB:=Lib.hid sB
 have HB19:=Lib.hid b19
 clear hw19 hr19 hk19 hold hM0 b13 b14 b18 b19 sA sB z0 z1 z2 z3 z4 z5 z6 y0 y1 y2 y3 y4 y5 y6
 go_wp2_with fail
 refine bodyPost_ret (v:=.tuple #[.agg #[.slice pa1 out.length ca1,.slice pb1 err.length cb1,.int .i64 st,.slice none 0 0,.int .i64 stp,.int .i64 pk,.int .i64 0],.bool true]) ?_ rfl ⟨_,_,_,_,_,out,err,rfl,HSA.out,HSB.out,HQ.out,HB19.out⟩
 simp [results,Tryz.results27,go_sem,r0,r1,r2,r3,r4,r5,r6]
end Go.Proofs.YtefpcacnblaokaaGreatDoor
