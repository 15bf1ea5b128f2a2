/-
  What comes in, opened: what the row's list gives.
-/
import Derived.Test.YtfoehfehnmhhmaaGreatDoorBulk
import Derived.Test.YtfoehfehnmhhmaaGreatDoorCards
import Derived.Test.YtfoehfehnmhhmaaGreatDoorTie
import Derived.Test.YtfoehfehnmhhmaaGreatDoorW36
import Derived.ProofKit
import Derived.OpenShut
import Derived.Lay
import Derived.MakeChecks
import Derived.Stop.LaidErr
import Derived.Deep.SlicePairs
import Derived.Deep.Strs
import Derived.Deep.DeepHandedRow
import Derived.Deep.DeepWitnessRowRef
import Derived.ChangeMaps5
import Derived.RowKit
namespace Go.Proofs.YtfoehfehnmhhmaaGreatDoor
open Go.ChangeShapes Go.WideShapes Go.ChangeAt Go.RowKit

theorem own : ownKnob Tryz.prog.godebug = none := by kernel_rfl
theorem isLaidOut : laidOutB Tryz.prog = true := by kernel_rfl
theorem cellsByte : Tryz.prog.cellsOf 5 = 1 := by kernel_rfl
theorem cellsStr : Tryz.prog.cellsOf 9 = 1 := by kernel_rfl
theorem gTab64 : Tryz.prog.globalNamed "math/bits.deBruijn64tab" = some 7 := by kernel_rfl

theorem gTab64Type : (Tryz.prog.globals[7]?).map (·.type) = some 166 := by kernel_rfl
theorem gPowType : (Tryz.prog.globals[1]?).map (·.type) = some 146 := by kernel_rfl

def tab64 : List Int := [0, 1, 56, 2, 57, 49, 28, 3, 61, 58, 42, 50, 38, 29, 17, 4, 62, 47, 59, 36, 45, 43, 51, 22, 53, 39, 33, 30, 24, 18, 12, 5, 63, 55, 48, 27, 60, 41, 37, 16, 46, 35, 44, 21, 52, 32, 23, 11, 54, 26, 40, 15, 34, 20, 31, 10, 25, 14, 19, 9, 13, 8, 7, 6]

/-- What the rows' list gives. -/
theorem glo_of {W : World} {L : List (String × DataW Unit)} (hL : L = Rows.wordCutsUptoRow.laid) (h : laidMetH Tryz.prog L W) (hs : W.ShapedOpen Tryz.prog) : Glo W ∧ 8 ≤ W.heap.size := by
  subst hL
  rw [MakeChecks.laidMetH_plain _ _ _ (by kernel_rfl)] at h
  have h1 := h.tail
  have h2 := h1.tail
  have t1 : Lib.TabIs Tryz.prog W "math/bits.deBruijn64tab" .u8 tab64 := Lib.tabIs_of_head (n := 64) gTab64 gTab64Type Tryz.underlying166 Tryz.underlying5 (by kernel_rfl) (by kernel_rfl) h1
  have t2 : Lib.TabIs Tryz.prog W "internal/strconv.uint64pow10" .u64 Lib.pow10Tab := Lib.tabIs_of_head (n := 20) gPow gPowType Tryz.underlying146 Tryz.underlying136 (by kernel_rfl) (by kernel_rfl) h2
  have hmx := Tryz.laysM145.s1_3 W hs
  refine ⟨⟨hmx, t2⟩, ?_⟩
  have hb := World.block_lt_of_cell? _ _ (t1.cell gTab64 15 (by decide))
  have : 7 < W.heap.size := hb
  omega

end Go.Proofs.YtfoehfehnmhhmaaGreatDoor
