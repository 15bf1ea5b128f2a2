/-
  The walk of walk.one, of patterns without a set. Condition: lengths.
-/
import Derived.Test.YtfoehfehnmhhmaaGreatDoorW11
namespace Go.Proofs.YtfoehfehnmhhmaaGreatDoor
open Go.RowKit Go.Shelf Go.Maps

set_option maxHeartbeats 1600000 in
set_option maxRecDepth 100000 in
theorem one_any (d : UInt8) (r : Wd.Bytes) (c : UInt8) (a : Bool) (t : Wd.Bytes) (hl : r.length < 4294967296) (h : Wd.oneOf (d :: r) c = some (a, t)) (w : World) :
    Calls Tryz.prog 100 #[.string ⟨(d :: r).toArray⟩, .int .u8 c.toNat] w fun e w' => e = .returned (.tuple #[.bool a, .string ⟨t.toArray⟩]) ∧ Below w.heap.size w w' := by
  unfold Wd.oneOf at h
  simp only at h
  have i0 : ∀ h, (⟨(d :: r).toArray⟩ : ByteArray)[0]'h = d := fun _ => rfl
  have hlr : (d :: r).length = r.length + 1 := by simp
  have ex1 : (⟨(d :: r).toArray⟩ : ByteArray).extract 1 (d :: r).length = ⟨r.toArray⟩ := extract_drop (d :: r) 1
  have ex1' : (⟨(d :: r).toArray⟩ : ByteArray).extract 1 (r.length + 1) = ⟨r.toArray⟩ := extract_drop (d :: r) 1
  by_cases h1 : d = 63
  · rw [if_pos h1] at h
    subst h1
    obtain ⟨rfl, rfl⟩ : true = a ∧ r = t := by cases h; exact ⟨rfl, rfl⟩
    clear h
    go_enter Tryz.func100, Tryz.ntmps100
    go_wp2_with fail
    go_region
    all_goals go_wp2_with fail
    all_goals go_ret2
    all_goals exact ⟨rfl, below_drew _ _⟩
  · rw [if_neg h1] at h
    by_cases h2 : d = 91
    · rw [if_pos h2] at h
      cases h
    · rw [if_neg h2] at h
      have n1 : ¬ ((d.toNat : Int) = 63) := u8_lit h1 (by decide)
      have n2 : ¬ ((d.toNat : Int) = 91) := u8_lit h2 (by decide)
      clear h1 h2
      by_cases h3 : d = 92
      · rw [if_pos h3] at h
        subst h3
        clear n1 n2
        cases r with
        | nil =>
          obtain ⟨rfl, rfl⟩ : ((92 : UInt8) == c) = a ∧ [] = t := by cases h; exact ⟨rfl, rfl⟩
          clear h
          go_enter Tryz.func100, Tryz.ntmps100
          go_wp2_with fail
          go_region
          all_goals go_wp2_with fail
          all_goals go_ret2
          all_goals refine ⟨?_, below_drew _ _⟩
          all_goals (rw [u8_beq]; rfl)
        | cons d2 r2 =>
          obtain ⟨rfl, rfl⟩ : (d2 == c) = a ∧ r2 = t := by cases h; exact ⟨rfl, rfl⟩
          clear h
          have ex3 : (⟨(92 :: d2 :: r2).toArray⟩ : ByteArray).extract 1 (r2.length + 1 + 1) = ⟨(d2 :: r2).toArray⟩ := extract_drop (92 :: d2 :: r2) 1
          have ex4 : (⟨(d2 :: r2).toArray⟩ : ByteArray).extract 1 (r2.length + 1) = ⟨r2.toArray⟩ := extract_drop (d2 :: r2) 1
          have j0 : ∀ h, (⟨(d2 :: r2).toArray⟩ : ByteArray)[0]'h = d2 := fun _ => rfl
          have j1 : (1 : Int) < (r2.length : Int) + 1 + 1 := by omega
          have j2 : decide ((1 : Int) < (r2.length : Int) + 1 + 1) = true := by simpa using j1
          go_enter Tryz.func100, Tryz.ntmps100
          go_wp2_with fail
          go_region
          all_goals go_wp2_with fail
          all_goals go_ret2
          all_goals refine ⟨?_, below_drew _ _⟩
          all_goals (rw [u8_beq]; rfl)
      · rw [if_neg h3] at h
        obtain ⟨rfl, rfl⟩ : (d == c) = a ∧ r = t := by cases h; exact ⟨rfl, rfl⟩
        have n3 : ¬ ((d.toNat : Int) = 92) := u8_lit h3 (by decide)
        clear h h3
        go_enter Tryz.func100, Tryz.ntmps100
        go_wp2_with fail
        go_region
        all_goals go_wp2_with fail
        all_goals go_ret2
        all_goals refine ⟨?_, below_drew _ _⟩
        all_goals (rw [u8_beq]; rfl)

end Go.Proofs.YtfoehfehnmhhmaaGreatDoor
