/-
  Texts of this seat put together: F1.
-/
import Derived.Test.YtefpcacnblaokaaGreatDoorQ2
import Derived.Test.YtefpcacnblaokaaGreatDoorQ38

/-
  SedLines, its second form: the row's statement and its card.
-/
set_option maxRecDepth 100000
namespace Go.Proofs.YtefpcacnblaokaaGreatDoor.lines
open Go.ChangeShapes Go.WideShapes Go.ChangeAt Go.RowKit
theorem contract (H:Type) (enc:TypeId × Value→H) (W:World) (base:Nat) (args:Array Value) (ds gs:List (DataW H)) (before:List MemPlace)
  (hval:∀ (j:Nat) t v,Tryz.f3.params[j]?=some t→args[j]?=some v→Value.okWide Tryz.prog W .any base t v)
  (hW:DataW.Whole enc Tryz.prog Tryz.f3.params.toList Rows.sedLinesSpec.vars false W args.toList ds gs before) (hcond:Rows.uptoSmall H (ds ++ gs)=true) (hL:laidMetH Tryz.prog Rows.sedLinesUptoRow.laid W) (hs:W.ShapedOpen Tryz.prog) :
  Calls Tryz.prog 3 args W fun e W'=>∃ v,e=.returned v∧Rows.sedLinesSpec.post enc Tryz.prog Tryz.f3 false true false false W args v W':=by
 have hW':=hW
 obtain ⟨p,q,hA0,hV,rfl,hfz,hnd⟩:=hW
 have hA:DataW.TrodAll enc Tryz.prog W 0 (fun _=>true) true Tryz.f3.params.toList args.toList ds p:=hA0
 rw [Tryz.params3] at hA hval
 obtain ⟨v0,v1,v2,v3,d0,d1,d2,d3,p0,p1,p2,p3,rfl,rfl,rfl,h0,h1,h2,h3⟩:=trodAll_four hA
 obtain ⟨rfl,rfl⟩:=trodVars_none hV
 obtain ⟨a0,n0,c0,rfl⟩:=okWide_slice Tryz.underlying22 (hval 0 22 v0 rfl rfl)
 obtain ⟨x1,rfl,rfl,rfl,wx1⟩:=open_int Tryz.underlying3 (hval 1 3 v1 rfl rfl) h1
 obtain ⟨x2,rfl,rfl,rfl,wx2⟩:=open_int Tryz.underlying3 (hval 2 3 v2 rfl rfl) h2
 obtain ⟨lb,ll,lr,rfl⟩:=open_limits (hval 3 24 v3 rfl rfl) h3
 clear hA0
 simp only [List.append_nil] at hW'
 have hlt0:∀ x ∈ p0,x.block < W.heap.size:=fun x hx=>hW'.lt x (by simp [hx])
 have hlt3:∀ x ∈ p3,x.block < W.heap.size:=fun x hx=>hW'.lt x (by simp [hx])
 have hbulk:=bulks.bound hcond
 simp only [List.append_nil,Rows.uptoBulkAll] at hbulk
 obtain ⟨xb,rfl,hcb,hnb,hbb,hlb⟩:=open_bytes h0
 have hg:=glo_of rfl hL hs
 refine (sedLines_any xb (by omega) a0 c0 hcb x1 x2 lb ll lr W hg hbb).mono fun e W' ⟨he,hb⟩=>?_
 subst he
 have t0:=Below.trod (t:=22) isLaidOut (by kernel_rfl) (of_decide_eq_true (by kernel_rfl)) h0 hb (fun x hx=>hlt0 x hx)
 have t1:=Below.trod (t:=3) isLaidOut (by kernel_rfl) (of_decide_eq_true (by kernel_rfl)) h1 hb (fun x hx=>by cases hx)
 have t2:=Below.trod (t:=3) isLaidOut (by kernel_rfl) (of_decide_eq_true (by kernel_rfl)) h2 hb (fun x hx=>by cases hx)
 have t3:=Below.trod (t:=24) isLaidOut (by kernel_rfl) (of_decide_eq_true (by kernel_rfl)) h3 hb (fun x hx=>hlt3 x hx)
 exact ⟨_,rfl,_,_,_,[],_,[],hW',trodAll_cons_mk (shut_bool Tryz.underlying4 _) trodAll_mk0,trodAll_mk4 t0 t1 t2 t3,rfl,hb.frame _,fun h=>by cases h⟩
def witnessArgs:Array Value:=#[.slice none 0 0,.int .i64 0,.int .i64 0,.agg #[.int .i64 0,.int .i64 0,.int .i64 0]]
theorem laid_met (os:Os):laidMetH Tryz.prog Rows.sedLinesUptoRow.laid ((World.laidAll Tryz.prog os Rows.sedLinesUptoRow.laid).forCall (fun _ _=>0) ⟨#[],witnessArgs,[]⟩).memory:=by
 rw [MakeChecks.laidMetH_plain _ _ _ (by kernel_rfl)]
 exact laidMet_laidAll _ (by kernel_rfl) (by kernel_rfl)
theorem reads (os:Os) {H:Type} (enc:TypeId × Value→H):∃ places,DataW.whole enc Tryz.prog ((World.laidAll Tryz.prog os Rows.sedLinesUptoRow.laid).forCall (fun _ _=>0) ⟨#[],witnessArgs,[]⟩).memory Tryz.f3.params.toList Rows.sedLinesSpec.vars false witnessArgs.toList 8=some ([.nil,.lit (.int .i64 0),.lit (.int .i64 0),.agg [.lit (.int .i64 0),.lit (.int .i64 0),.lit (.int .i64 0)]],[],places):=
 ⟨[],by kernel_rfl⟩
theorem liftedUpto (os:Os) (started:os.Started) (H:Type) (enc:TypeId × Value→H) (F:Stop.Interp) :
  ReturnsInHanded {} Tryz.checked os 3 .any ((Rows.OpenSpec.upto Rows.sedLinesSpec).preRow enc Tryz.prog Tryz.f3 Rows.sedLinesUptoRow.domain false Rows.sedLinesUptoRow.laid) (((Rows.OpenSpec.upto Rows.sedLinesSpec).at F).post enc Tryz.prog Tryz.f3 false true false false):=by
 obtain ⟨places,hx⟩:=reads os enc
 refine returnsInHanded_of_row (C:=Tryz.checked) (s:=Rows.OpenSpec.upto Rows.sedLinesSpec) own started (by kernel_rfl) Tryz.func3
  (witness_row_atRef (enc:=enc) (C:=Tryz.checked) false (World.laidAll Tryz.prog os Rows.sedLinesUptoRow.laid) witnessArgs (World.laidAll_os _ _ _) (by kernel_rfl) (by kernel_rfl) (by kernel_rfl)
   (OpenSpec.preRow_of_cond 8 hx (by kernel_rfl) (fun k hk=>by cases hk;kernel_rfl) (by kernel_rfl) (laid_met os))) ?_
 intro W base args ds gs before hval hW _ hcond _ hL hs _
 exact contract H enc W base args ds gs before hval hW (hcond _ rfl) hL hs
theorem cl_inPlace:(Rows.sedLinesUptoRow.inPlace == Tryz.pinned.checked.prog.inPlace 3)=true:=by kernel_rfl
theorem cl_unfollowed:(Rows.sedLinesUptoRow.unfollowed == Tryz.pinned.checked.prog.unfollowed 3)=true:=by kernel_rfl
theorem cl_recurses:(Rows.sedLinesUptoRow.recurses == Tryz.pinned.checked.prog.recurses 3)=true:=by kernel_rfl
theorem cl_named:(Rows.sedLinesUptoRow.named == Tryz.pinned.checked.prog.varsNamed 3)=true:=by kernel_rfl
theorem closed:joinedFacts Tryz.pinned.checked.prog 3 Tryz.f3 (Rows.OpenSpec.upto Rows.sedLinesSpec).bare Rows.sedLinesUptoRow=true:=by
 unfold joinedFacts
 rw [cl_inPlace,cl_unfollowed,cl_recurses,cl_named]
 kernel_rfl
theorem saidUpto:Rows.SedLinesUptoSaid:=
 OpenClaim.holds_of_cond 3 Tryz.f3 rfl rfl rfl rfl rfl rfl rfl ⟨rfl,rfl,rfl,rfl,rfl⟩ rfl rfl rfl rfl rfl (by kernel_rfl) Tryz.func3 closed
  (of_decide_eq_true (by kernel_rfl)) (by unfold Func.isWrapper;first | (rw [if_pos (by decide +kernel)];kernel_rfl) | (rw [if_neg (by decide +kernel)];exact ⟨rfl,rfl⟩))
  (fun os started H enc _ F=>by rw [OpenClaim.pre_eq_preRow];exact liftedUpto os started H enc F)
theorem plain (f:FuncId) (fn:Func) (hf:Tryz.pinned.checked.prog.funcNamed "toolchest/toolchestlaw18.SedLines"=some f) (hfn:Tryz.pinned.checked.prog.funcs[f]?=some fn) :
  true=Tryz.pinned.checked.prog.looks []∧∀ (j:Nat) t,fn.params[j]?=some t→Tryz.pinned.checked.prog.wantsStandIn t=false:=by
 obtain rfl:f=3:=Option.some.inj ((show Tryz.prog.funcNamed "toolchest/toolchestlaw18.SedLines"=some 3 by kernel_rfl).symm.trans hf) |>.symm
 obtain rfl:fn=Tryz.f3:=(Option.some.inj (Tryz.func3.symm.trans hfn)).symm
 refine ⟨by kernel_rfl,fun j t ht=>?_⟩
 rw [Tryz.params3] at ht
 have hm:t ∈ [22,3,3,24]:=by simpa using Array.mem_of_getElem? ht
 have hall:([22,3,3,24].all fun u=>!Tryz.prog.wantsStandIn u)=true:=by kernel_rfl
 exact (show Tryz.prog.wantsStandIn t=false by simpa using List.all_eq_true.1 hall t hm)
theorem cardUpto:Rows.SedLinesUptoCardSaid:=
 Claim7.holds_tied_plain_at .later [] _ _ _ _ saidUpto (fun _ h=>by cases h) (by kernel_rfl) (fun _ h=>by cases h) sedLinesUpto_row_tie rfl ⟨rfl,rfl⟩ (by kernel_rfl) rfl plain (goesBy_of goes_any rfl)
#print axioms cardUpto
end Go.Proofs.YtefpcacnblaokaaGreatDoor.lines
