/-
  Texts of this seat put together: Open.
-/
import Derived.Test.YtjdcjdclipbjhaaGreatDoorQ1
import Derived.Test.YtjdcjdclipbjhaaGreatDoorCards
import Derived.Test.YtjdcjdclipbjhaaGreatDoorTie
import Derived.Test.YtjdcjdclipbjhaaGreatDoorQ3
import Derived.Test.YtjdcjdclipbjhaaGreatDoorQ2
import Derived.Lib.SmallJoins
import Derived.OpenShut
import Derived.ProofKit
import Derived.Lay
import Derived.MakeChecks
import Derived.Stop.LaidErr
import Derived.Deep.SlicePairs
import Derived.Deep.Strs
import Derived.Deep.DeepHandedRow
import Derived.Deep.DeepWitnessRowRef
import Derived.ChangeMaps5
import Derived.RowKit

/-
  What comes in, opened: what the row's list gives.
-/
namespace Go.Proofs.YtjdcjdclipbjhaaGreatDoor
open Go.ChangeShapes Go.WideShapes Go.ChangeAt Go.RowKit

theorem own : ownKnob Tryz.prog.godebug = none := by kernel_rfl
theorem isLaidOut : laidOutB Tryz.prog = true := by kernel_rfl
theorem cellsByte : Tryz.prog.cellsOf 5 = 1 := by kernel_rfl
theorem cellsStr : Tryz.prog.cellsOf 9 = 1 := by kernel_rfl
theorem cellsErr : Tryz.prog.cellsOf 424 = 1 := by kernel_rfl
theorem errStar : "*" ++ "errors.errorString" = "*errors.errorString" := by decide
theorem rowErr (u : TypeId) (h : Tryz.prog.typeName? 3 u = some "*errors.errorString") : u = 422 :=
  typeName_ptr_named (nm := "errors.errorString") (by rw [errStar]; kernel_rfl) (by kernel_rfl) (by decide) u (by rw [errStar]; exact h)
theorem gRngType : (Tryz.prog.globals[7]?).map (·.type) = some 255 := by kernel_rfl
theorem gSynType : (Tryz.prog.globals[6]?).map (·.type) = some 255 := by kernel_rfl
theorem gPowType : (Tryz.prog.globals[1]?).map (·.type) = some 259 := by kernel_rfl

/-- What the rows' list gives. -/
theorem glo_of {W : World} {L : List (String × DataW Unit)} (hL : L = Rows.colsListsUptoRow.laid) (h : laidMetH Tryz.prog L W) (hs : W.ShapedOpen Tryz.prog) : Glo W := by
  subst hL
  rw [MakeChecks.laidMetH_plain _ _ _ (by kernel_rfl)] at h
  have h1 := h.tail
  have h2 := h1.tail
  have h4 := h2.tail.tail
  obtain ⟨a1, s1, hv1, _⟩ := laid_sentinel h4 gRng gRngType Tryz.underlying255 rowErr Tryz.underlying422 Tryz.underlying424 rfl rfl Tryz.underlying9 cellsErr cellsStr
  obtain ⟨a2, s2, hv2, _⟩ := laid_sentinel h4.tail gSyn gSynType Tryz.underlying255 rowErr Tryz.underlying422 Tryz.underlying424 rfl rfl Tryz.underlying9 cellsErr cellsStr
  have t2 : Lib.TabIs Tryz.prog W "internal/strconv.uint64pow10" .u64 Lib.pow10Tab := Lib.tabIs_of_head (n := 20) gPow gPowType Tryz.underlying259 Tryz.underlying142 (by kernel_rfl) (by kernel_rfl) h2
  have hmx : ∃ m, W.cell? ⟨0, 0, none⟩ = some (.int .i64 m) := cell_of_shapedOpen_int (zero := #[.int .i64 0]) (t := 3) hs (of_decide_eq_true (by kernel_rfl)) (by kernel_rfl) rfl (by kernel_rfl) (by kernel_rfl) Tryz.underlying3
  refine ⟨⟨_, _, hv2⟩, ⟨_, _, hv1⟩, hmx, t2, ?_⟩
  have hx : (((begin Tryz.prog (fun _ _ => 0) default).world.heap[7]?).bind Obj.row?).isSome = true := by kernel_rfl
  obtain ⟨⟨z, t⟩, hz⟩ := Option.isSome_iff_exists.1 hx
  obtain ⟨cs, hcs, -⟩ := hs.1 7 z t (of_decide_eq_true (by kernel_rfl)) hz
  have := (Array.getElem?_eq_some_iff.1 hcs).1
  omega

end Go.Proofs.YtjdcjdclipbjhaaGreatDoor
