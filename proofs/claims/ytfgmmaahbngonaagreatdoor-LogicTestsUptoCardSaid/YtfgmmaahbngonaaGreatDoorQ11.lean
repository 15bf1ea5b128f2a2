/-
  Texts of this seat put together: Open.
-/
import Derived.Test.YtfgmmaahbngonaaGreatDoorQ1
import Derived.Test.YtfgmmaahbngonaaGreatDoorCards
import Derived.Test.YtfgmmaahbngonaaGreatDoorTie
import Derived.Test.YtfgmmaahbngonaaGreatDoorQ10
import Derived.Test.YtfgmmaahbngonaaGreatDoorQ3
import Derived.Test.YtfgmmaahbngonaaGreatDoorQ2
import Derived.Lib.SmallJoins
import Derived.OpenShut
import Derived.ProofKit
import Derived.Lay
import Derived.MakeChecks
import Derived.Stop.LaidErr
import Derived.LaidHandle
import Derived.LaidLaws
import Derived.Deep.SlicePairs
import Derived.Deep.Strs
import Derived.Deep.DeepHandedRow
import Derived.Deep.DeepWitnessRowRef
import Derived.ChangeMaps5
import Derived.RowKit

/-
  What comes in, opened: what the row's list gives.
-/
namespace Go.Proofs.YtfgmmaahbngonaaGreatDoor
open Go.ChangeShapes Go.WideShapes Go.ChangeAt Go.RowKit

theorem own : ownKnob Tryz.prog.godebug = none := by kernel_rfl
theorem isLaidOut : laidOutB Tryz.prog = true := by kernel_rfl
theorem cellsByte : Tryz.prog.cellsOf 5 = 1 := by kernel_rfl
theorem cellsStr : Tryz.prog.cellsOf 9 = 1 := by kernel_rfl
theorem cellsErr : Tryz.prog.cellsOf 403 = 1 := by kernel_rfl
theorem errStar : "*" ++ "errors.errorString" = "*errors.errorString" := by decide
theorem rowErr (u : TypeId) (h : Tryz.prog.typeName? 3 u = some "*errors.errorString") : u = 401 :=
  typeName_ptr_named (nm := "errors.errorString") (by rw [errStar]; kernel_rfl) (by kernel_rfl) (by decide) u (by rw [errStar]; exact h)
theorem gRngType : (Tryz.prog.globals[6]?).map (·.type) = some 150 := by kernel_rfl
theorem gSynType : (Tryz.prog.globals[5]?).map (·.type) = some 150 := by kernel_rfl
theorem gTab64 : Tryz.prog.globalNamed "math/bits.deBruijn64tab" = some 2 := by kernel_rfl

theorem gTab64Type : (Tryz.prog.globals[2]?).map (·.type) = some 222 := by kernel_rfl
theorem gPowType : (Tryz.prog.globals[0]?).map (·.type) = some 85 := by kernel_rfl

def tab64 : List Int := [0, 1, 56, 2, 57, 49, 28, 3, 61, 58, 42, 50, 38, 29, 17, 4, 62, 47, 59, 36, 45, 43, 51, 22, 53, 39, 33, 30, 24, 18, 12, 5, 63, 55, 48, 27, 60, 41, 37, 16, 46, 35, 44, 21, 52, 32, 23, 11, 54, 26, 40, 15, 34, 20, 31, 10, 25, 14, 19, 9, 13, 8, 7, 6]

theorem gEty : Tryz.prog.globalNamed "errors.errorType" = some 3 := by kernel_rfl
theorem rtRow : (Tryz.prog.cutTypes.find? (·.1 == "internal/reflectlite.rtype")).map (·.2) = some 299 := by kernel_rfl
theorem typesSize : Tryz.prog.types.size = 451 := by kernel_rfl
theorem oneRow : ((List.range 451).filter fun t => Tryz.prog.rowNamed t [101, 114, 114, 111, 114]) = [150] := by kernel_rfl
theorem errHandle : typeHandle Tryz.prog 150 = .pointer (some ⟨9, 150, none⟩) := by kernel_rfl

/-- The list, without the handle; the handle. -/
def plainL : List (String × DataW Unit) := [("math/bits.deBruijn32tab", Rows.laid_math_bits_deBruijn32tab), ("math/bits.deBruijn64tab", Rows.laid_math_bits_deBruijn64tab), ("internal/strconv.uint64pow10", Rows.laid_internal_strconv_uint64pow10), ("unicode/utf8.acceptRanges", Rows.laid_unicode_utf8_acceptRanges), ("strconv.ErrRange", Rows.laid_strconv_ErrRange), ("strconv.ErrSyntax", Rows.laid_strconv_ErrSyntax), ("unicode/utf8.first", Rows.laid_unicode_utf8_first)]
def handL : List (String × DataW Unit) := [("errors.errorType", Rows.laid_errors_errorType)]
theorem listPlain : (Rows.logicTestsUptoRow.laid.filter fun x => x.2.handleName?.isNone) = plainL := by kernel_rfl
theorem listHand : (Rows.logicTestsUptoRow.laid.filter fun x => x.2.handleName?.isSome) = handL := by kernel_rfl
theorem laidMetH_two {W : World} (h : laidMetH Tryz.prog Rows.logicTestsUptoRow.laid W) : laidMet Tryz.prog plainL W ∧ handlesMet Tryz.prog handL W := by
  unfold laidMetH at h
  rw [listHand, listPlain] at h
  exact h

/-- What the rows' list gives. -/
theorem glo_of {W : World} {L : List (String × DataW Unit)} (hL : L = Rows.logicTestsUptoRow.laid) (h : laidMetH Tryz.prog L W) (hs : W.ShapedOpen Tryz.prog) : GloL W := by
  subst hL
  obtain ⟨h, hh⟩ := laidMetH_two h
  unfold plainL at h
  have h1 := h.tail
  have h2 := h1.tail
  have h4 := h2.tail.tail
  obtain ⟨a1, s1, hv1, _⟩ := laid_sentinel h4 gRng gRngType Tryz.underlying150 rowErr Tryz.underlying401 Tryz.underlying403 rfl rfl Tryz.underlying9 cellsErr cellsStr
  obtain ⟨a2, s2, hv2, _⟩ := laid_sentinel h4.tail gSyn gSynType Tryz.underlying150 rowErr Tryz.underlying401 Tryz.underlying403 rfl rfl Tryz.underlying9 cellsErr cellsStr
  have t1 : Lib.TabIs Tryz.prog W "math/bits.deBruijn64tab" .u8 tab64 := Lib.tabIs_of_head (n := 64) gTab64 gTab64Type Tryz.underlying222 Tryz.underlying5 (by kernel_rfl) (by kernel_rfl) h1
  have t2 : Lib.TabIs Tryz.prog W "internal/strconv.uint64pow10" .u64 Lib.pow10Tab := Lib.tabIs_of_head (n := 20) gPow gPowType Tryz.underlying85 Tryz.underlying48 (by kernel_rfl) (by kernel_rfl) h2
  have hmx : ∃ m, W.cell? ⟨4, 0, none⟩ = some (.int .i64 m) := cell_of_shapedOpen_int (zero := #[.int .i64 0]) (t := 3) hs (of_decide_eq_true (by kernel_rfl)) (by kernel_rfl) rfl (by kernel_rfl) (by kernel_rfl) Tryz.underlying3
  refine ⟨⟨⟨_, _, hv2⟩, ⟨_, _, hv1⟩, hmx, t2, ?_⟩, ?_⟩
  · have hx : (((begin Tryz.prog (fun _ _ => 0) default).world.heap[7]?).bind Obj.row?).isSome = true := by kernel_rfl
    obtain ⟨⟨z, t⟩, hz⟩ := Option.isSome_iff_exists.1 hx
    obtain ⟨cs, hcs, -⟩ := hs.1 7 z t (of_decide_eq_true (by kernel_rfl)) hz
    have := (Array.getElem?_eq_some_iff.1 hcs).1
    omega
  · obtain ⟨name, u, ty, e1, e2, e3, e4, e5⟩ := hh _ (List.mem_singleton.2 rfl)
    have en : name = [101, 114, 114, 111, 114] := (Option.some.inj e1).symm
    subst en
    obtain rfl := Option.some.inj (rtRow.symm.trans e2)
    have hm : ty ∈ (List.range 451).filter fun t => Tryz.prog.rowNamed t [101, 114, 114, 111, 114] := List.mem_filter.2 ⟨List.mem_range.2 (by rw [← typesSize]; exact e3), e4⟩
    rw [oneRow] at hm
    obtain rfl := List.mem_singleton.1 hm
    rw [errHandle] at e5
    simpa using World.var?_cell gEty e5 0

/-! The witness's world: the listed variables laid, the handle among them. -/
noncomputable def handWorld (os : Os) : World :=
  let w0 := World.holding Tryz.prog os ⟨#[], #[], []⟩
  { w0 with heap := w0.heap.modify 3 fun
      | .cells _ t frozen => .cells #[.iface 299 (.agg #[.pointer (some ⟨9, 150, none⟩)])] t frozen
      | o => o }
noncomputable def laidWorld (os : Os) : World := (handWorld os).layVars Tryz.prog plainL
theorem laidWorld_os (os : Os) : (laidWorld os).os = os := World.layVars_os _ _ _
theorem laidWorld_met (os : Os) (args : Array Value) : laidMetH Tryz.prog Rows.logicTestsUptoRow.laid ((laidWorld os).forCall (fun _ _ => 0) ⟨#[], args, []⟩).memory := by
  have e1 : (plainL.filter fun x => (plainL.map (·.1)).contains x.1) = plainL := List.filter_eq_self.2 fun x hx => List.contains_iff_mem.2 (List.mem_map.2 ⟨x, hx, rfl⟩)
  have e2 : (plainL.filter fun x => !(plainL.map (·.1)).contains x.1) = [] := List.filter_eq_nil_iff.2 fun x hx => by rw [List.contains_iff_mem.2 (List.mem_map.2 ⟨x, hx, rfl⟩)]; simp
  have hf : (handWorld os).layFits Tryz.prog plainL [] = true := by kernel_rfl
  have hi : (handWorld os).layIfaces Tryz.prog plainL (laidWorld os) = true := by kernel_rfl
  have h : laidMet Tryz.prog plainL (laidWorld os) := laidMet_layVars (w0 := handWorld os) (plainL.map (·.1)) [] (by rw [e1]; rfl) (by rw [e1]; exact hf) (by rw [e1]; exact hi) (by rw [e2]; exact LaidIn.none)
  exact laidMetH_of_parts (by rw [listPlain]; exact h.of_heap (by simp [World.memory, World.forCall, Input.heap])) (by rw [listHand]; kernel_rfl)

theorem int_in {n : Int} (h : (Lit.int .i64 n).wf = true) : -9223372036854775808 ≤ n ∧ n ≤ 9223372036854775807 := by
  have e1 : IntKind.i64.min = -9223372036854775808 := rfl
  have e2 : IntKind.i64.max = 9223372036854775807 := rfl
  simp [Lit.wf, e1, e2] at h
  exact h

end Go.Proofs.YtfgmmaahbngonaaGreatDoor
