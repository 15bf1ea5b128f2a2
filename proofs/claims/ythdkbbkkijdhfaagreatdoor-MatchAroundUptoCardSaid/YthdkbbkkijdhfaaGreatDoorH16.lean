/-
  Texts of this seat put together: R2.
-/
import Derived.Test.YthdkbbkkijdhfaaGreatDoorH13
import Derived.Test.YthdkbbkkijdhfaaGreatDoorH15

/-
  The walks of the reference's letter, folds (without fold), one, any. Condition: the reader lies in memory, without fold.
-/
namespace Go.Proofs.YthdkbbkkijdhfaaGreatDoor
open Go.RowKit Go.Shelf Go.Maps

theorem rletter_all : ∀ c : UInt8, Rx.letter c = ((decide (97 ≤ c.toNat) && decide (c.toNat ≤ 122)) || (decide (65 ≤ c.toNat) && decide (c.toNat ≤ 90))) :=
  Rx.u8_all (by decide +kernel)

theorem rletter_any (c : UInt8) (w : World) : Calls Tryz.prog 63 #[.int .u8 c.toNat] w fun e w' => e = .returned (.bool (Rx.letter c)) ∧ w' = w := by
  have HL := Lib.hid (rletter_all c)
  generalize Rx.letter c = R at *
  generalize c.toNat = n at *
  go_enter Tryz.func63, Tryz.ntmps63
  go_wp2_with fail
  all_goals go_ret
  all_goals
    refine ⟨ret_bool ?_, rfl⟩
    rw [HL.out]
    first | (simp [*]; done) | (simp [*]; omega) | (rw [Bool.eq_iff_iff]; simp; omega)

theorem rfolds_any (r p : Nat) (s : Rx.Bytes) (at_ : Nat) (ext bad : Bool) (w : World) (h : RfAt w r s at_ ext false bad) :
    Calls Tryz.prog 81 #[.pointer (some ⟨r, 0, none⟩), .pointer (some ⟨p, 0, none⟩)] w fun e w' => e = .returned (.tuple #[]) ∧ w' = w := by
  have c3 : w.cell? ⟨r, 3, none⟩ = some (.bool false) := Blk.cell h 3 rfl
  go_enter Tryz.func81, Tryz.ntmps81
  go_wp2_with fail
  refine bodyPost_ret (results_none rfl _ _ _) rfl ?_
  exact ⟨rfl, rfl⟩

theorem rnd_new (k : Int) : Tryz.zeroCells68.setIfInBounds 0 (.int .i64 k) = ndCells k (fun _ => false) 0 0 (.slice none 0 0) := by
  kernel_rfl

set_option maxHeartbeats 1600000 in
set_option maxRecDepth 100000 in
theorem rone_any (r : Nat) (c : UInt8) (s : Rx.Bytes) (at_ : Nat) (ext bad : Bool) (w : World) (h : RfAt w r s at_ ext false bad) :
    Calls Tryz.prog 64 #[.pointer (some ⟨r, 0, none⟩), .int .u8 c.toNat] w fun e w' => e = .returned (.pointer (some ⟨w.heap.size, 0, none⟩)) ∧ Blk w' w.heap.size (setCells fun d => d == c) 68 ∧ Below w.heap.size w w' := by
  have hc := c.toNat_lt
  go_enter Tryz.func64, Tryz.ntmps64
  go_upto_region 2 with fail
  rw [rnd_new]
  have hb := Blk.new w (ndCells 1 (fun _ => false) 0 0 (.slice none 0 0)) 68
  have hbw : Below w.heap.size w (w.alloc (.cells (ndCells 1 (fun _ => false) 0 0 (.slice none 0 0)) 68)) := (Below.refl _ _).alloc (Nat.le_refl _) _
  have hr : RfAt (w.alloc (.cells (ndCells 1 (fun _ => false) 0 0 (.slice none 0 0)) 68)) r s at_ ext false bad := Blk.alloc h _
  have hne : r ≠ w.heap.size := Nat.ne_of_lt (Blk.lt h)
  clear h
  generalize w.alloc (.cells (ndCells 1 (fun _ => false) 0 0 (.slice none 0 0)) 68) = w1 at *
  have hlr := hb.lt
  have c0 := hb.cell (1 + c.toNat) (nd_has _ _ _ _ _ c.toNat hc)
  have f0 := hb.free (1 + c.toNat)
  go_upto_region 3 with fail
  have hb2 := hb.set (1 + c.toNat) (.bool true)
  rw [nd_set _ _ _ _ _ _ hc] at hb2
  have hr2 : RfAt _ r s at_ ext false bad := Blk.setOther hr (a := ⟨w.heap.size, 1 + c.toNat, none⟩) hne (.bool true)
  have hbw2 := hbw.setCell (p := ⟨w.heap.size, 1 + c.toNat, none⟩) (Nat.le_refl _) (.bool true)
  clear hb hr hbw c0 f0 hlr
  generalize w1.setCell ⟨w.heap.size, 1 + c.toNat, none⟩ (.bool true) = w2 at *
  have hf := rfolds_any r w.heap.size s at_ ext bad w2 hr2
  go_wp2_with fail
  refine hf.mono ?_
  rintro e w' ⟨rfl, rfl⟩
  go_wp2_with fail
  go_ret
  have e : (fun d : UInt8 => if d.toNat = c.toNat then true else false) = fun d => d == c := by
    funext d
    by_cases h : d = c
    · subst h; simp
    · rw [if_neg (fun h2 => h (UInt8.toNat_inj.1 h2))]; simp [h]
  rw [e] at hb2
  exact ⟨rfl, hb2, hbw2⟩

end Go.Proofs.YthdkbbkkijdhfaaGreatDoor
