/-
  The walk of RegexNodes. Conditions: the text lies in memory; the library's variables hold what they hold.
-/
import Derived.Test.YthdkbbkkijdhfaaGreatDoorW30
import Derived.Test.YthdkbbkkijdhfaaGreatDoorW24
namespace Go.Proofs.YthdkbbkkijdhfaaGreatDoor
open Go.RowKit Go.Shelf Go.Maps

theorem Node_any (w : World) (q p : Nat) (t : TypeId) (hb : Blk w q #[.pointer (some ⟨p, 0, none⟩)] t) :
    Calls Tryz.prog 19 #[.pointer (some ⟨q, 0, none⟩)] w fun e w' => e = .returned (.pointer (some ⟨p, 0, none⟩)) ∧ w' = w := by
  have c0 : w.cell? ⟨q, 0, none⟩ = some (.pointer (some ⟨p, 0, none⟩)) := hb.cell 0 rfl
  go_enter Tryz.func19, Tryz.ntmps19
  go_wp2_with fail
  go_ret
  exact ⟨rfl, rfl⟩

set_option maxHeartbeats 3200000 in
set_option maxRecDepth 100000 in
theorem RegexNodes_any (s : Rx.Bytes) (ext fold : Bool) (w : World) (hg : Glo w) (h8 : 8 ≤ w.heap.size) (hl : s.length < 1073741824) :
    Calls Tryz.prog 5 #[.string ⟨s.toArray⟩, .bool ext, .bool fold] w fun e w' => e = .returned (.bool true) ∧ Below w.heap.size w w' := by
  have ha := awake_any w hg h8
  have hp := fun w hg h8 => Parse_any s ext fold w hg h8 hl
  cases hx : Rx.read s ext fold with
  | none =>
    rw [hx] at hp
    unfold ParsePost at hp
    go_enter Tryz.func5, Tryz.ntmps5
    go_wp2_with fail
    refine ha.mono ?_
    rintro e w1 ⟨rfl, b1⟩
    obtain ⟨g1, i1⟩ := hg.step h8 b1
    go_wp2_with fail
    refine (hp w1 g1 i1).mono ?_
    rintro e w2 ⟨rfl, b2⟩
    go_wp2_with fail
    go_ret
    exact ⟨rfl, b1.trans (b2.mono b1.size)⟩
  | some n =>
    rw [hx] at hp
    unfold ParsePost at hp
    by_cases hbig : 10000 < n.size
    · simp only [if_pos hbig] at hp
      clear hbig
      go_enter Tryz.func5, Tryz.ntmps5
      go_wp2_with fail
      refine ha.mono ?_
      rintro e w1 ⟨rfl, b1⟩
      obtain ⟨g1, i1⟩ := hg.step h8 b1
      go_wp2_with fail
      refine (hp w1 g1 i1).mono ?_
      rintro e w2 ⟨rfl, b2⟩
      go_wp2_with fail
      go_ret
      exact ⟨rfl, b1.trans (b2.mono b1.size)⟩
    · simp only [if_neg hbig] at hp
      have hle := told_le n (by omega)
      have hle2 : n.told.length ≤ 140737488355000 := by omega
      have HS : Hid (n.size ≤ 10000) := Nat.le_of_not_lt hbig
      clear hbig hle
      go_enter Tryz.func5, Tryz.ntmps5
      go_wp2_with fail
      refine ha.mono ?_
      rintro e w1 ⟨rfl, b1⟩
      obtain ⟨g1, i1⟩ := hg.step h8 b1
      go_wp2_with fail
      refine (hp w1 g1 i1).mono ?_
      rintro e w2 ⟨⟨q, rfl, hre⟩, b2⟩
      obtain ⟨g2, i2⟩ := g1.step i1 b2
      have d2 := b1.trans (b2.mono b1.size)
      obtain ⟨p, hbq, hq, hn⟩ := id hre
      have c1 := Node_any w2 q p _ hbq
      have HRE := Lib.hid hre
      have HN := Lib.hid hn
      clear hp ha b1 b2 hbq hre hn
      go_wp2_with fail
      refine c1.mono ?_
      rintro e w3 ⟨rfl, rfl⟩
      have c2 := copied_any HN.out 0 (by decide) (by have := HS.out; omega) (by have := HS.out; omega) w3 (Below.refl _ _)
      unfold CopiedC at c2
      clear c1
      go_wp2_with fail
      refine c2.mono ?_
      rintro e w4 ⟨⟨k, rfl, hk⟩, b4⟩
      obtain ⟨g4, i4⟩ := g2.step i2 b4
      have d4 := d2.trans (b4.mono d2.size)
      have c3 := rtext_any hk w4 (Below.refl _ _) hle2
      have hre4 := HRE.out.keep b4 (Nat.le_refl _)
      unfold RTextC at c3
      clear c2 hk
      go_wp2_with fail
      refine c3.mono ?_
      rintro e w5 ⟨rfl, b5⟩
      obtain ⟨g5, i5⟩ := g4.step i4 b5
      have d5 := d4.trans (b5.mono d4.size)
      have c4 := String_any _ q n w5 (hre4.keep b5 (Nat.le_refl _)) g5 i5 hle2
      clear c3 hre4
      generalize n.told = T at *
      go_wp2_with fail
      refine c4.mono ?_
      rintro e w6 ⟨rfl, b6⟩
      go_wp2_with fail
      go_ret
      exact ⟨rfl, d5.trans (b6.mono d5.size)⟩

end Go.Proofs.YthdkbbkkijdhfaaGreatDoor
