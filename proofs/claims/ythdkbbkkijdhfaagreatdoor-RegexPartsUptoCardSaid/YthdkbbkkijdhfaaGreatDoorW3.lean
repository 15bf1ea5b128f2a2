/-
  Nodes in memory; the walks of folds, one, dot. Condition: what is told lies in memory.
-/
import Derived.Test.YthdkbbkkijdhfaaGreatDoorW2
namespace Go.Proofs.YthdkbbkkijdhfaaGreatDoor
open Go.RowKit Go.Shelf

def hasCells (h : Rx.Has) : List Value := (List.range 256).map fun i => .bool (h (UInt8.ofNat i))
/-- A node's cells. -/
def ndCells (kind : Int) (h : Rx.Has) (mn mx : Int) (kids : Value) : Array Value := (.int .i64 kind :: hasCells h ++ [.int .i64 mn, .int .i64 mx, kids]).toArray

theorem hasCells_len (h : Rx.Has) : (hasCells h).length = 256 := by simp [hasCells]
theorem nd_kind (kind : Int) (h : Rx.Has) (mn mx : Int) (kids : Value) : (ndCells kind h mn mx kids)[0]? = some (.int .i64 kind) := rfl
theorem nd_has (kind : Int) (h : Rx.Has) (mn mx : Int) (kids : Value) (i : Nat) (hi : i < 256) : (ndCells kind h mn mx kids)[1 + i]? = some (.bool (h (UInt8.ofNat i))) := by
  unfold ndCells
  rw [List.getElem?_toArray, Nat.add_comm, List.cons_append, List.getElem?_cons_succ, List.getElem?_append_left (by rw [hasCells_len]; exact hi)]
  simp [hasCells, List.getElem?_range hi]
theorem nd_min (kind : Int) (h : Rx.Has) (mn mx : Int) (kids : Value) : (ndCells kind h mn mx kids)[257]? = some (.int .i64 mn) := by
  unfold ndCells
  rw [List.getElem?_toArray, List.cons_append, List.getElem?_cons_succ, List.getElem?_append_right (by rw [hasCells_len]; omega), hasCells_len]; rfl
theorem nd_max (kind : Int) (h : Rx.Has) (mn mx : Int) (kids : Value) : (ndCells kind h mn mx kids)[258]? = some (.int .i64 mx) := by
  unfold ndCells
  rw [List.getElem?_toArray, List.cons_append, List.getElem?_cons_succ, List.getElem?_append_right (by rw [hasCells_len]; omega), hasCells_len]; rfl
theorem nd_kids (kind : Int) (h : Rx.Has) (mn mx : Int) (kids : Value) : (ndCells kind h mn mx kids)[259]? = some kids := by
  unfold ndCells
  rw [List.getElem?_toArray, List.cons_append, List.getElem?_cons_succ, List.getElem?_append_right (by rw [hasCells_len]; omega), hasCells_len]; rfl

theorem nd_set (kind : Int) (h : Rx.Has) (mn mx : Int) (kids : Value) (i : Nat) (hi : i < 256) (v : Bool) :
    (ndCells kind h mn mx kids).setIfInBounds (1 + i) (.bool v) = ndCells kind (fun c => if c.toNat = i then v else h c) mn mx kids := by
  apply Array.ext'
  unfold ndCells
  rw [Array.toList_setIfInBounds, Nat.add_comm, List.cons_append, List.cons_append, List.set_cons_succ, List.set_append_left _ _ (by rw [hasCells_len]; exact hi)]
  congr 2
  apply List.ext_getElem
  · simp [hasCells]
  · intro j h1 h2
    rw [hasCells_len] at h2
    rw [List.getElem_set]
    simp only [hasCells, List.getElem_map, List.getElem_range]
    have e : (UInt8.ofNat j).toNat = j := by simp [UInt8.toNat_ofNat']; omega
    rw [e]
    by_cases hij : i = j
    · rw [if_pos hij, if_pos hij.symm]
    · rw [if_neg hij, if_neg (fun h => hij h.symm)]

theorem nd_new (k : Int) : Tryz.zeroCells87.setIfInBounds 0 (.int .i64 k) = ndCells k (fun _ => false) 0 0 (.slice none 0 0) := by
  kernel_rfl

set_option maxHeartbeats 1600000 in
set_option maxRecDepth 100000 in
theorem dot_any (w : World) : Calls Tryz.prog 88 #[] w fun e w' => e = .returned (.pointer (some ⟨w.heap.size, 0, none⟩)) ∧ Blk w' w.heap.size (ndCells 1 (fun _ => true) 0 0 (.slice none 0 0)) 87 ∧ Below w.heap.size w w' := by
  go_enter Tryz.func88, Tryz.ntmps88
  go_upto_region 2 with fail
  rw [nd_new]
  have hb := Blk.new w (ndCells 1 (fun _ => false) 0 0 (.slice none 0 0)) 87
  have hbw : Below w.heap.size w (w.alloc (.cells (ndCells 1 (fun _ => false) 0 0 (.slice none 0 0)) 87)) := (Below.refl _ _).alloc (Nat.le_refl _) _
  generalize w.alloc (.cells (ndCells 1 (fun _ => false) 0 0 (.slice none 0 0)) 87) = w1 at *
  go_wp2_with fail
  go_loopw [2, 5] (fun _x2 x5 wr => ∃ k : Nat, k ≤ 256 ∧ x5 = .int .i64 k ∧ Blk wr w.heap.size (ndCells 1 (fun c => decide (c.toNat < k)) 0 0 (.slice none 0 0)) 87 ∧ Below w.heap.size w wr) (fun _ x5 _ => 256 - (intOf x5).toNat)
  case atStart => exact ⟨0, Nat.zero_le _, rfl, by simpa using hb, hbw⟩
  case round =>
    clear hb hbw
    obtain ⟨k, hk, rfl, hb, hbw⟩ := hrel
    have hlr := hb.lt
    by_cases hlt : k < 256
    · have c0 := hb.cell (1 + k) (nd_has _ _ _ _ _ k hlt)
      have f0 := hb.free (1 + k)
      go_wp2_with fail
      refine ⟨⟨k + 1, by omega, by go_num, ?_, hbw.setCell (Nat.le_refl _) _⟩, ?_⟩
      · have := hb.set (1 + k) (.bool true)
        rw [nd_set _ _ _ _ _ k hlt] at this
        have e : (fun c : UInt8 => if c.toNat = k then true else decide (c.toNat < k)) = fun c => decide (c.toNat < k + 1) := by
          funext c
          by_cases h : c.toNat = k
          · rw [if_pos h]; simp; omega
          · rw [if_neg h]; simp; omega
        rw [e] at this
        exact this
      · show 256 - ((k : Int) + 1).toNat < 256 - (k : Int).toNat
        omega
    · obtain rfl : k = 256 := by omega
      go_wp2_with fail
      go_ret
      refine ⟨rfl, ?_, hbw⟩
      have e : (fun c : UInt8 => decide (c.toNat < 256)) = fun _ => true := by
        funext c
        have := c.toNat_lt
        simp only [decide_eq_true_eq]
        omega
      rw [e] at hb
      exact hb

end Go.Proofs.YthdkbbkkijdhfaaGreatDoor
