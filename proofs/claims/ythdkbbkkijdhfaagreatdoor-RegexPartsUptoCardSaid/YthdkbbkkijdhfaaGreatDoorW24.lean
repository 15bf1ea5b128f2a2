/-
  The walks of the chapter's examples, and of Literal. Conditions: what is told lies in memory; the library's variables hold what they hold.
-/
import Derived.Test.YthdkbbkkijdhfaaGreatDoorW23
namespace Go.Proofs.YthdkbbkkijdhfaaGreatDoor
open Go.RowKit Go.Shelf Go.Maps

theorem Glo.step {w w' : World} (h : Glo w) (h8 : 8 ≤ w.heap.size) (hb : Below w.heap.size w w') : Glo w' ∧ 8 ≤ w'.heap.size :=
  ⟨h.kept (Kept.of_below (S := fun _ => False) hb) (fun _ h => h.elim) h8, Nat.le_trans h8 hb.size⟩

theorem tellVal_some (t : Rx.Bytes) : tellVal (some t) = .tuple #[.string ⟨t.toArray⟩, .bool true] := rfl
theorem tellVal_none : tellVal none = .tuple #[.string ⟨#[]⟩, .bool false] := rfl

set_option maxHeartbeats 3200000 in
set_option maxRecDepth 100000 in
theorem awake_any (w : World) (hg : Glo w) (h8 : 8 ≤ w.heap.size) :
    Calls Tryz.prog 16 #[] w fun e w' => e = .returned (.bool true) ∧ Below w.heap.size w w' := by
  have t1 : Rx.tellOf [97, 98, 42] false false = some [40, 60, 54, 49, 62, 60, 54, 50, 62, 123, 48, 44, 125, 41] := by decide +kernel
  have t2 : Rx.tellOf [40, 97, 124, 91, 98, 45, 100, 93, 41, 43, 36] true false = some [40, 40, 60, 54, 49, 62, 124, 60, 54, 50, 45, 54, 52, 62, 41, 123, 49, 44, 125, 36, 41] := by decide +kernel
  have t3 : Rx.tellOf [97] true true = some [60, 52, 49, 44, 54, 49, 62] := by decide +kernel
  have t4 : Rx.tellOf [42, 97] false false = some [40, 60, 50, 97, 62, 60, 54, 49, 62, 41] := by decide +kernel
  have t5 : Rx.tellOf [42, 97] true false = none := by decide +kernel
  have t6 : Rx.tellOf [91, 93, 97, 45, 93] false false = some [60, 50, 100, 44, 53, 100, 44, 54, 49, 62] := by decide +kernel
  have t7 : Rx.read [91, 122, 45, 97, 93] true false = none := by
    have : (Rx.read [91, 122, 45, 97, 93] true false).isNone = true := by decide +kernel
    exact Option.isNone_iff_eq_none.1 this
  have c1 := fun w hg h8 => told15_any [97, 98, 42] false false w hg h8 (by decide)
  have c2 := fun w hg h8 => told15_any [40, 97, 124, 91, 98, 45, 100, 93, 41, 43, 36] true false w hg h8 (by decide)
  have c3 := fun w hg h8 => told15_any [97] true true w hg h8 (by decide)
  have c4 := fun w hg h8 => told15_any [42, 97] false false w hg h8 (by decide)
  have c5 := fun w hg h8 => told15_any [42, 97] true false w hg h8 (by decide)
  have c6 := fun w hg h8 => told15_any [91, 93, 97, 45, 93] false false w hg h8 (by decide)
  have c7 := fun w hg h8 => Parse_any [91, 122, 45, 97, 93] true false w hg h8 (by decide)
  simp only [t1, tellVal_some] at c1
  simp only [t2, tellVal_some] at c2
  simp only [t3, tellVal_some] at c3
  simp only [t4, tellVal_some] at c4
  simp only [t5, tellVal_none] at c5
  simp only [t6, tellVal_some] at c6
  simp only [t7, ParsePost] at c7
  clear t1 t2 t3 t4 t5 t6 t7
  go_enter Tryz.func16, Tryz.ntmps16
  go_wp2_with fail
  refine (c1 _ hg h8).mono ?_
  rintro e w1 ⟨rfl, b1⟩
  obtain ⟨g1, i1⟩ := hg.step h8 b1
  go_wp2_with fail
  refine (c2 _ g1 i1).mono ?_
  rintro e w2 ⟨rfl, b2⟩
  obtain ⟨g2, i2⟩ := g1.step i1 b2
  have d2 := b1.trans (b2.mono b1.size)
  clear b1 b2 g1 i1
  go_wp2_with fail
  refine (c3 _ g2 i2).mono ?_
  rintro e w3 ⟨rfl, b3⟩
  obtain ⟨g3, i3⟩ := g2.step i2 b3
  have d3 := d2.trans (b3.mono d2.size)
  clear b3 g2 i2 d2
  go_wp2_with fail
  refine (c4 _ g3 i3).mono ?_
  rintro e w4 ⟨rfl, b4⟩
  obtain ⟨g4, i4⟩ := g3.step i3 b4
  have d4 := d3.trans (b4.mono d3.size)
  clear b4 g3 i3 d3
  go_wp2_with fail
  refine (c5 _ g4 i4).mono ?_
  rintro e w5 ⟨rfl, b5⟩
  obtain ⟨g5, i5⟩ := g4.step i4 b5
  have d5 := d4.trans (b5.mono d4.size)
  clear b5 g4 i4 d4
  go_wp2_with fail
  refine (c6 _ g5 i5).mono ?_
  rintro e w6 ⟨rfl, b6⟩
  obtain ⟨g6, i6⟩ := g5.step i5 b6
  have d6 := d5.trans (b6.mono d5.size)
  clear b6 g5 i5 d5
  go_wp2_with fail
  refine (c7 _ g6 i6).mono ?_
  rintro e w7 ⟨rfl, b7⟩
  have d7 := d6.trans (b7.mono d6.size)
  clear b7 g6 i6 d6 c1 c2 c3 c4 c5 c6 c7
  go_wp2_with fail
  go_ret
  exact ⟨rfl, d7⟩

end Go.Proofs.YthdkbbkkijdhfaaGreatDoor
