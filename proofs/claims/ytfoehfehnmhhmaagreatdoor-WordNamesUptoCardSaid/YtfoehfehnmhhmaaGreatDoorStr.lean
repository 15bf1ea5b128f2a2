/-
  Bytes in memory as a string. No condition.
-/
import Derived.Test.YtfoehfehnmhhmaaGreatDoorBase
import Derived.Laws.BytesArg
namespace Go.Proofs.YtfoehfehnmhhmaaGreatDoor
open Go.RowKit Go.Shelf

def nums (xs : List UInt8) : List Int := xs.map fun c => (c.toNat : Int)
theorem nums_length (xs : List UInt8) : (nums xs).length = xs.length := by simp [nums]
theorem nums_getD (xs : List UInt8) (i : Nat) (hi : i < xs.length) : (nums xs).getD i 0 = ((xs.getD i 0).toNat : Int) := by
  simp [nums, List.getD_eq_getElem?_getD, List.getElem?_eq_getElem hi]
theorem strOf_nums (xs : List UInt8) : strOfNums (nums xs) = ⟨xs.toArray⟩ := by
  have h : (nums xs).map (fun n => UInt8.ofNat n.toNat) = xs := by
    unfold nums
    rw [List.map_map]
    conv => rhs; rw [← List.map_id xs]
    apply List.map_congr_left
    intro c _
    simp
  unfold strOfNums
  rw [h]

theorem run_str {w : World} {p : Option Addr} {xs : List UInt8} (h : Bs w p xs) (c : Nat) :
    (convert 29 9 (.slice p xs.length c)).run Tryz.prog w = .ok (.string ⟨xs.toArray⟩) w := by
  rw [← strOf_nums]
  rcases Nat.eq_zero_or_pos xs.length with hn | hn
  · obtain rfl : xs = [] := List.eq_nil_of_length_eq_zero hn
    rw [show (([] : List UInt8).length) = 0 from rfl, run_convert_bytes_string w 29 9 5 _ 0 c Tryz.underlying29 Tryz.underlying5 Tryz.underlying9]
    cases p <;> simp [Conv.bytesToString, loadCells]
    all_goals rfl
  · obtain ⟨b, o, rfl, hc⟩ := h hn
    exact run_convert_bytes_arg (P := Tryz.prog) w 29 5 Tryz.underlying29 Tryz.underlying5 b o xs.length c (nums xs) (nums_length xs) (fun i hi => by rw [hc i hi, nums_getD xs i hi]) 9 Tryz.underlying9

end Go.Proofs.YtfoehfehnmhhmaaGreatDoor
