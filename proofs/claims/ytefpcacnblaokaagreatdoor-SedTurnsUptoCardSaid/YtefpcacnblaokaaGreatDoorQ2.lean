/-
  Texts of this seat put together: Open.
-/
import Derived.Test.YtefpcacnblaokaaGreatDoorQ1
import Derived.Test.YtefpcacnblaokaaGreatDoorCards
import Derived.Test.YtefpcacnblaokaaGreatDoorTie
import Derived.Lib.SmallJoins
import Derived.OpenShut
import Derived.ProofKit
import Derived.Lay
import Derived.MakeChecks
import Derived.Stop.LaidErr
import Derived.Deep.SlicePairs
import Derived.Deep.Strs
import Derived.Deep.DeepHandedRow
import Derived.Deep.DeepWitnessRowRef
import Derived.ChangeMaps5
import Derived.RowKit

/-
  What comes in, opened: what the row's list gives.
-/
set_option maxRecDepth 100000
namespace Go.Proofs.YtefpcacnblaokaaGreatDoor
open Go.ChangeShapes Go.WideShapes Go.ChangeAt Go.RowKit
theorem own:ownKnob Tryz.prog.godebug=none:=by kernel_rfl
theorem isLaidOut:laidOutB Tryz.prog=true:=by kernel_rfl
theorem cellsByte:Tryz.prog.cellsOf 5=1:=by kernel_rfl
theorem cellsStr:Tryz.prog.cellsOf 9=1:=by kernel_rfl
theorem cellsErr:Tryz.prog.cellsOf 459=1:=by kernel_rfl
theorem errStar: "*" ++ "errors.errorString"= "*errors.errorString":=by decide
theorem rowErr (u:TypeId) (h:Tryz.prog.typeName? 3 u=some "*errors.errorString"):u=457:=
 typeName_ptr_named (nm:= "errors.errorString") (by rw [errStar];kernel_rfl) (by kernel_rfl) (by decide) u (by rw [errStar];exact h)
theorem gRngType:(Tryz.prog.globals[5]?).map (·.type)=some 265:=by kernel_rfl
theorem gSynType:(Tryz.prog.globals[4]?).map (·.type)=some 265:=by kernel_rfl
theorem gPowType:(Tryz.prog.globals[3]?).map (·.type)=some 437:=by kernel_rfl
theorem glo_of {W:World} {L:List (String × DataW Unit)} (hL:L=Rows.sedLinesUptoRow.laid) (h:laidMetH Tryz.prog L W) (hs:W.ShapedOpen Tryz.prog):Glo W:=by
 subst hL
 rw [MakeChecks.laidMetH_plain _ _ _ (by kernel_rfl)] at h
 have h1:=h.tail
 have h2:=h1.tail
 have h4:=h2.tail.tail
 obtain ⟨a1,s1,hv1,_⟩:=laid_sentinel h4 gRng gRngType Tryz.underlying265 rowErr Tryz.underlying457 Tryz.underlying459 rfl rfl Tryz.underlying9 cellsErr cellsStr
 obtain ⟨a2,s2,hv2,_⟩:=laid_sentinel h4.tail gSyn gSynType Tryz.underlying265 rowErr Tryz.underlying457 Tryz.underlying459 rfl rfl Tryz.underlying9 cellsErr cellsStr
 have t2:Lib.TabIs Tryz.prog W "internal/strconv.uint64pow10" .u64 Lib.pow10Tab:=Lib.tabIs_of_head (n:=20) gPow gPowType Tryz.underlying437 Tryz.underlying321 (by kernel_rfl) (by kernel_rfl) h2
 have hmx:∃ m,W.cell? ⟨2,0,none⟩=some (.int .i64 m):=cell_of_shapedOpen_int (zero:=#[.int .i64 0]) (t:=3) hs (of_decide_eq_true (by kernel_rfl)) (by kernel_rfl) rfl (by kernel_rfl) (by kernel_rfl) Tryz.underlying3
 refine ⟨⟨_,_,hv2⟩,⟨_,_,hv1⟩,hmx,t2, ?_⟩
 have hx:(((begin Tryz.prog (fun _ _=>0) default).world.heap[7]?).bind Obj.row?).isSome=true:=by kernel_rfl
 obtain ⟨⟨z,t⟩,hz⟩:=Option.isSome_iff_exists.1 hx
 obtain ⟨cs,hcs,-⟩:=hs.1 7 z t (of_decide_eq_true (by kernel_rfl)) hz
 have:=(Array.getElem?_eq_some_iff.1 hcs).1
 omega
theorem add_plain' (b o k:Nat):(⟨b,o,none⟩:Addr).add k=⟨b,o+k,none⟩:=by
 simp only [Addr.add];split <;> simp_all
theorem plain_addr {W:World} {a:Addr} {v:Value} (h:W.cell? a=some v):a=⟨a.block,a.off,none⟩:=by
 obtain ⟨b,o,s⟩:=a
 unfold World.cell? at h
 cases s with
 | none=>rfl
 | some s=>
  split at h
  ·simp at h
  ·cases h
section
variable {H:Type} {enc:TypeId × Value→H} {W:World}
theorem byte_nat {z:Int} (h:(Lit.int .u8 z).wf=true):((UInt8.ofNat z.toNat).toNat:Int)=z:=by
 have h2:0≤z∧z < 256:=by
  have e1:IntKind.u8.min=0:=rfl
  have e2:IntKind.u8.max=255:=rfl
  have:=h
  simp [Lit.wf,e1,e2] at this
  omega
 have:z.toNat < 256:=by omega
 simp [UInt8.toNat_ofNat',Nat.mod_eq_of_lt this]
 omega
theorem open_bytes {a0:Option Addr} {len cap:Nat} {d0:DataW H} {p:List MemPlace} (h0:DataW.Trod enc Tryz.prog W 0 (fun _=>true) true 22 (.slice a0 len cap) d0 p) :
  ∃ b:List UInt8,b.length=len∧len≤cap∧(a0=none→cap=0)∧Bs W a0 b∧len≤Rows.uptoBulk d0:=by
 obtain ⟨fuel,hf⟩:=h0
 rcases open_ints Tryz.underlying22 Tryz.underlying5 cellsByte hf with ⟨hcs,hx⟩ | ⟨a,len',cap',zs,hcs,_,hl,hm,hz,hx,hcell,hwz⟩
 ·simp [Value.cells] at hcs
  obtain ⟨rfl,rfl,rfl⟩:=hcs
  exact ⟨[],rfl,Nat.le_refl _,fun _=>rfl,Bs.nil _ _,Nat.zero_le _⟩
 ·simp [Value.cells] at hcs
  obtain ⟨rfl,rfl,rfl⟩:=hcs
  simp only [Prod.mk.injEq] at hx
  obtain ⟨rfl,rfl⟩:=hx
  simp only [if_true] at hz
  refine ⟨(zs.take len).map fun z=>UInt8.ofNat z.toNat,by simp;omega,hl,by simp,fun hpos=>?_, ?_⟩
  ·simp at hpos
   have hc0:=hcell 0 (by omega)
   have ha:a=⟨a.block,a.off,none⟩:=plain_addr (a:=a) (by simpa [Addr.add] using hc0)
   refine ⟨a.block,a.off,by rw [← ha],fun i hi=>?_⟩
   simp at hi
   have hc:=hcell i (by omega)
   rw [ha,add_plain'] at hc
   rw [hc]
   have hw:=byte_nat (hwz (zs.getD i 0) (by simp [List.getD_eq_getElem?_getD,List.getElem?_eq_getElem (show i < zs.length by omega)]))
   congr 2
   rw [← hw]
   congr 2
   simp [List.getD_eq_getElem?_getD,show i < len by omega,List.getElem?_eq_getElem (show i < zs.length by omega)]
  ·have:=bulks.slice_le (lits (H:=H) .u8 (zs.take len)) (lits .u8 (zs.drop len))
   simp [lits] at this
   simp [lits];omega
end
section
variable {H:Type} {enc:TypeId × Value→H} {W:World}
theorem open_limits {b0:Nat} {v:Value} {d:DataW H} {p:List MemPlace} (hv:Value.okWide Tryz.prog W .any b0 24 v) (h:DataW.Trod enc Tryz.prog W 0 (fun _=>true) true 24 v d p) :
  ∃ b l r:Int,v=.agg #[.int .i64 b,.int .i64 l,.int .i64 r]:=by
 obtain ⟨v0,v1,v2,y0,y1,y2,n,rfl,-,-,h0,h1,h2⟩:=Joins.open_agg3 Tryz.underlying24 (by kernel_rfl) (by kernel_rfl) hv h
 obtain ⟨n0,e0,-,-⟩:=DataW.trod_int (t:=3) Tryz.underlying3 h0
 obtain ⟨n1,e1,-,-⟩:=DataW.trod_int (t:=3) Tryz.underlying3 h1
 obtain ⟨n2,e2,-,-⟩:=DataW.trod_int (t:=3) Tryz.underlying3 h2
 simp at e0 e1 e2
 subst e0 e1 e2
 exact ⟨_,_,_,rfl⟩
end
end Go.Proofs.YtefpcacnblaokaaGreatDoor
