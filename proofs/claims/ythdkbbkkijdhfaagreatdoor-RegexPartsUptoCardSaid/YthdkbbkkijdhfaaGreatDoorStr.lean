/-
  Bytes in memory as a string. No condition.
-/
import Derived.Test.YthdkbbkkijdhfaaGreatDoorBase
import Derived.Shelf.Bytes.SlEqualAll
namespace Go.Proofs.YthdkbbkkijdhfaaGreatDoor
open Go.RowKit Go.Shelf

def nums (xs : List UInt8) : List Int := xs.map fun c => (c.toNat : Int)
theorem nums_length (xs : List UInt8) : (nums xs).length = xs.length := by simp [nums]
theorem nums_getD (xs : List UInt8) (i : Nat) (hi : i < xs.length) : (nums xs).getD i 0 = ((xs.getD i 0).toNat : Int) := by
  simp [nums, List.getD_eq_getElem?_getD, List.getElem?_eq_getElem hi]
theorem bytesIn_of_bs {w : World} {p : Option Addr} {xs : List UInt8} (h : Bs w p xs) : Lib.BytesIn w p xs.length (nums xs) := by
  intro hn
  obtain ⟨b, o, rfl, hc⟩ := h hn
  exact ⟨b, o, rfl, fun i hi => by rw [hc i hi, nums_getD xs i hi]⟩

theorem strOf_nums (xs : List UInt8) : strOfNums (nums xs) = ⟨xs.toArray⟩ := by
  have h : (nums xs).map (fun n => UInt8.ofNat n.toNat) = xs := by
    unfold nums
    rw [List.map_map]
    conv => rhs; rw [← List.map_id xs]
    apply List.map_congr_left
    intro c _
    simp
  unfold strOfNums
  rw [h]

theorem run_str {w : World} {p : Option Addr} {xs : List UInt8} (h : Bs w p xs) (c : Nat) :
    (convert 22 9 (.slice p xs.length c)).run Tryz.prog w = .ok (.string ⟨xs.toArray⟩) w := by
  rw [← strOf_nums]
  exact (bytesIn_of_bs h).convert (nums_length xs) c 22 5 9 Tryz.underlying22 Tryz.underlying5 Tryz.underlying9

end Go.Proofs.YthdkbbkkijdhfaaGreatDoor
