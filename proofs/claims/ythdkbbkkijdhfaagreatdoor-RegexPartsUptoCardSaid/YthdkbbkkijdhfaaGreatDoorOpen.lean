/-
  What comes in, opened: what the row's list gives.
-/
import Derived.Test.YthdkbbkkijdhfaaGreatDoorBulk
import Derived.Test.YthdkbbkkijdhfaaGreatDoorCards
import Derived.Test.YthdkbbkkijdhfaaGreatDoorTie
import Derived.Test.YthdkbbkkijdhfaaGreatDoorW24
import Derived.ProofKit
import Derived.OpenShut
import Derived.Lay
import Derived.MakeChecks
import Derived.Stop.LaidErr
import Derived.Deep.SlicePairs
import Derived.Deep.Strs
import Derived.Deep.DeepHandedRow
import Derived.Deep.DeepWitnessRowRef
import Derived.ChangeMaps5
import Derived.RowKit
namespace Go.Proofs.YthdkbbkkijdhfaaGreatDoor
open Go.ChangeShapes Go.WideShapes Go.ChangeAt Go.RowKit

theorem own : ownKnob Tryz.prog.godebug = none := by kernel_rfl
theorem isLaidOut : laidOutB Tryz.prog = true := by kernel_rfl
theorem cellsByte : Tryz.prog.cellsOf 5 = 1 := by kernel_rfl
theorem cellsStr : Tryz.prog.cellsOf 9 = 1 := by kernel_rfl
theorem cellsErr : Tryz.prog.cellsOf 194 = 1 := by kernel_rfl
theorem errStar : "*" ++ "errors.errorString" = "*errors.errorString" := by decide
theorem rowErr (u : TypeId) (h : Tryz.prog.typeName? 3 u = some "*errors.errorString") : u = 192 :=
  typeName_ptr_named (nm := "errors.errorString") (by rw [errStar]; kernel_rfl) (by kernel_rfl) (by decide) u (by rw [errStar]; exact h)
theorem gRngType : (Tryz.prog.globals[7]?).map (·.type) = some 113 := by kernel_rfl
theorem gSynType : (Tryz.prog.globals[6]?).map (·.type) = some 113 := by kernel_rfl
theorem gTab64 : Tryz.prog.globalNamed "math/bits.deBruijn64tab" = some 3 := by kernel_rfl

theorem gTab64Type : (Tryz.prog.globals[3]?).map (·.type) = some 150 := by kernel_rfl
theorem gPowType : (Tryz.prog.globals[0]?).map (·.type) = some 129 := by kernel_rfl

def tab64 : List Int := [0, 1, 56, 2, 57, 49, 28, 3, 61, 58, 42, 50, 38, 29, 17, 4, 62, 47, 59, 36, 45, 43, 51, 22, 53, 39, 33, 30, 24, 18, 12, 5, 63, 55, 48, 27, 60, 41, 37, 16, 46, 35, 44, 21, 52, 32, 23, 11, 54, 26, 40, 15, 34, 20, 31, 10, 25, 14, 19, 9, 13, 8, 7, 6]

/-- What the rows' list gives. -/
theorem glo_of {W : World} {L : List (String × DataW Unit)} (hL : L = Rows.regexQuotesUptoRow.laid) (h : laidMetH Tryz.prog L W) (hs : W.ShapedOpen Tryz.prog) : Glo W ∧ 8 ≤ W.heap.size := by
  subst hL
  rw [MakeChecks.laidMetH_plain _ _ _ (by kernel_rfl)] at h
  have h1 := h.tail
  have h2 := h1.tail
  have h4 := h2.tail.tail
  obtain ⟨a1, s1, hv1, _⟩ := laid_sentinel h4 gRng gRngType Tryz.underlying113 rowErr Tryz.underlying192 Tryz.underlying194 rfl rfl Tryz.underlying9 cellsErr cellsStr
  obtain ⟨a2, s2, hv2, _⟩ := laid_sentinel h4.tail gSyn gSynType Tryz.underlying113 rowErr Tryz.underlying192 Tryz.underlying194 rfl rfl Tryz.underlying9 cellsErr cellsStr
  have t1 : Lib.TabIs Tryz.prog W "math/bits.deBruijn64tab" .u8 tab64 := Lib.tabIs_of_head (n := 64) gTab64 gTab64Type Tryz.underlying150 Tryz.underlying5 (by kernel_rfl) (by kernel_rfl) h1
  have t2 : Lib.TabIs Tryz.prog W "internal/strconv.uint64pow10" .u64 Lib.pow10Tab := Lib.tabIs_of_head (n := 20) gPow gPowType Tryz.underlying129 Tryz.underlying117 (by kernel_rfl) (by kernel_rfl) h2
  have hmx := Tryz.laysM145.s1_3 W hs
  refine ⟨⟨⟨_, _, hv2⟩, ⟨_, _, hv1⟩, hmx, t2, t1.cell gTab64 15 (by decide)⟩, ?_⟩
  have hb : 7 < W.heap.size := by
    unfold World.var? at hv1
    rw [gRng] at hv1
    simp only [Option.bind_some] at hv1
    rcases Nat.lt_or_ge 7 W.heap.size with h' | h'
    · exact h'
    · rw [Array.getElem?_eq_none h'] at hv1; cases hv1
  omega

end Go.Proofs.YthdkbbkkijdhfaaGreatDoor
