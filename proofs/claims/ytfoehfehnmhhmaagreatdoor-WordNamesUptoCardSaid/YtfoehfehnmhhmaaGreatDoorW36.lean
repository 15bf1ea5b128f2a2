/-
  The walk of awake. Condition: none.
-/
import Derived.Test.YtfoehfehnmhhmaaGreatDoorW35
namespace Go.Proofs.YtfoehfehnmhhmaaGreatDoor
open Go.RowKit Go.Shelf Go.Maps

theorem row_new (w : World) (l : List Wd.Bytes) (hl : l.length < 1073741824) (he : ∀ s ∈ l, s.length < 1073741824) : RowAt (w.alloc (.cells (l.map strV).toArray 9)) (.slice (some ⟨w.heap.size, 0, none⟩) l.length l.length) l := (strs_new w l hl he).row
theorem row_nil (w : World) : RowAt w (.slice none 0 0) [] := ⟨_, _, rfl, fun i hi => absurd hi (Nat.not_lt_zero i)⟩
theorem ex1 : Wd.expand scopeV scopeA 0 [97, 36, 65, 34, 36, 65, 34, 39, 36, 65, 39] = some [[97, 120], [121, 120, 32, 121, 36, 65]] := by decide +kernel
theorem ex2 : Wd.expand scopeV scopeA 0 [36, 69] = some [] := by decide +kernel
theorem ex3 : Wd.expand scopeV scopeA 0 [34, 36, 69, 34] = some [[]] := by decide +kernel
theorem ex4 : Wd.expand scopeV scopeA 0 [45, 34, 36, 64, 34, 45] = some [[45, 112], [113, 32, 114, 45]] := by decide +kernel
theorem ex5 : Wd.expand scopeV scopeA 0 [36, 123, 78, 58, 45, 98, 32, 99, 125] = some [[98], [99]] := by decide +kernel
theorem ex6 : Wd.expand scopeV scopeA 0 [36, 123, 35, 65, 125, 36, 35] = some [[51, 50]] := by decide +kernel
theorem lex1 : Wd.lex [97, 32, 50, 62, 38, 49, 124, 98, 32, 35, 99] = some [(1, [97]), (4, [50]), (3, [62, 38]), (1, [49]), (2, [124]), (1, [98])] := by decide +kernel

set_option maxHeartbeats 3200000 in
set_option maxRecDepth 100000 in
theorem awake_any (w : World) (hg : Glo w) (h8 : 8 ≤ w.heap.size) :
    Calls Tryz.prog 5 #[] w fun e w' => e = .returned (.bool true) ∧ Below w.heap.size w w' := by
  have HB0 : Hid (Below w.heap.size w w) := Below.refl _ _
  have HG := Lib.hid hg
  clear hg
  obtain ⟨w0, hw0⟩ : ∃ w0, w0 = w := ⟨_, rfl⟩
  have hb1 : Below w.heap.size w (w.alloc (.cells #[.string ⟨#[97, 120]⟩, .string ⟨#[121, 120, 32, 121, 36, 65]⟩] 9)) := HB0.out.alloc HB0.out.size _
  have hs1 := says_any (w.alloc (.cells #[.string ⟨#[97, 120]⟩, .string ⟨#[121, 120, 32, 121, 36, 65]⟩] 9)) [97, 36, 65, 34, 36, 65, 34, 39, 36, 65, 39] [[97, 120], [121, 120, 32, 121, 36, 65]] (.slice (some ⟨w.heap.size, 0, none⟩) 2 2) (row_new w [[97, 120], [121, 120, 32, 121, 36, 65]] (by decide) (by decide)) (HG.out.below hb1 h8) (by have := hb1.size; omega) (by decide) (by decide) ex1
  clear hw0 w0
  go_enter Tryz.func5, Tryz.ntmps5
  go_wp2_with fail
  refine hs1.mono ?_
  rintro e w1 ⟨rfl, hc1⟩
  have HB1 := Lib.hid (hb1.trans (hc1.mono hb1.size))
  clear hs1 hb1 hc1
  have hb2 : Below w.heap.size w w1 := HB1.out
  have hs2 := says_any w1 [36, 69] [] (.slice none 0 0) (row_nil w1) (HG.out.below hb2 h8) (by have := hb2.size; omega) (by decide) (by decide) ex2
  go_wp2_with fail
  refine hs2.mono ?_
  rintro e w2 ⟨rfl, hc2⟩
  have HB2 := Lib.hid (hb2.trans (hc2.mono hb2.size))
  clear hs2 hb2 hc2
  have hb3 : Below w.heap.size w (w2.alloc (.cells #[.string ⟨#[]⟩] 9)) := HB2.out.alloc HB2.out.size _
  have hs3 := says_any (w2.alloc (.cells #[.string ⟨#[]⟩] 9)) [34, 36, 69, 34] [[]] (.slice (some ⟨w2.heap.size, 0, none⟩) 1 1) (row_new w2 [[]] (by decide) (by decide)) (HG.out.below hb3 h8) (by have := hb3.size; omega) (by decide) (by decide) ex3
  go_wp2_with fail
  refine hs3.mono ?_
  rintro e w3 ⟨rfl, hc3⟩
  have HB3 := Lib.hid (hb3.trans (hc3.mono hb3.size))
  clear hs3 hb3 hc3
  have hb4 : Below w.heap.size w (w3.alloc (.cells #[.string ⟨#[45, 112]⟩, .string ⟨#[113, 32, 114, 45]⟩] 9)) := HB3.out.alloc HB3.out.size _
  have hs4 := says_any (w3.alloc (.cells #[.string ⟨#[45, 112]⟩, .string ⟨#[113, 32, 114, 45]⟩] 9)) [45, 34, 36, 64, 34, 45] [[45, 112], [113, 32, 114, 45]] (.slice (some ⟨w3.heap.size, 0, none⟩) 2 2) (row_new w3 [[45, 112], [113, 32, 114, 45]] (by decide) (by decide)) (HG.out.below hb4 h8) (by have := hb4.size; omega) (by decide) (by decide) ex4
  go_wp2_with fail
  refine hs4.mono ?_
  rintro e w4 ⟨rfl, hc4⟩
  have HB4 := Lib.hid (hb4.trans (hc4.mono hb4.size))
  clear hs4 hb4 hc4
  have hb5 : Below w.heap.size w (w4.alloc (.cells #[.string ⟨#[98]⟩, .string ⟨#[99]⟩] 9)) := HB4.out.alloc HB4.out.size _
  have hs5 := says_any (w4.alloc (.cells #[.string ⟨#[98]⟩, .string ⟨#[99]⟩] 9)) [36, 123, 78, 58, 45, 98, 32, 99, 125] [[98], [99]] (.slice (some ⟨w4.heap.size, 0, none⟩) 2 2) (row_new w4 [[98], [99]] (by decide) (by decide)) (HG.out.below hb5 h8) (by have := hb5.size; omega) (by decide) (by decide) ex5
  go_wp2_with fail
  refine hs5.mono ?_
  rintro e w5 ⟨rfl, hc5⟩
  have HB5 := Lib.hid (hb5.trans (hc5.mono hb5.size))
  clear hs5 hb5 hc5
  have hb6 : Below w.heap.size w (w5.alloc (.cells #[.string ⟨#[51, 50]⟩] 9)) := HB5.out.alloc HB5.out.size _
  have hs6 := says_any (w5.alloc (.cells #[.string ⟨#[51, 50]⟩] 9)) [36, 123, 35, 65, 125, 36, 35] [[51, 50]] (.slice (some ⟨w5.heap.size, 0, none⟩) 1 1) (row_new w5 [[51, 50]] (by decide) (by decide)) (HG.out.below hb6 h8) (by have := hb6.size; omega) (by decide) (by decide) ex6
  go_wp2_with fail
  refine hs6.mono ?_
  rintro e w6 ⟨rfl, hc6⟩
  have HB6 := Lib.hid (hb6.trans (hc6.mono hb6.size))
  clear hs6 hb6 hc6
  have hlex := Lex_any w6 [97, 32, 50, 62, 38, 49, 124, 98, 32, 35, 99] _ (by decide) lex1
  go_wp2_with fail
  refine hlex.mono ?_
  rintro e w7 ⟨⟨v, rfl, hown⟩, hb7⟩
  have HB7 := Lib.hid (HB6.out.trans (hb7.mono HB6.out.size))
  obtain ⟨g, c, rfl⟩ := own_slice (n := 5) hown
  have k2 : w7.cell? ⟨g, 2, none⟩ = some (.int .i64 4) := (hown.cellAt 2 (by decide)).trans rfl
  have k3 : w7.cell? ⟨g, 3, none⟩ = some (.string ⟨#[50]⟩) := (hown.cellAt 3 (by decide)).trans rfl
  have k9 : w7.cell? ⟨g, 9, none⟩ = some (.string ⟨#[124]⟩) := (hown.cellAt 9 (by decide)).trans rfl
  have k11 : w7.cell? ⟨g, 11, none⟩ = some (.string ⟨#[98]⟩) := (hown.cellAt 11 (by decide)).trans rfl
  clear hlex hown hb7
  go_wp2_with fail
  go_ret
  exact ⟨rfl, HB7.out⟩

end Go.Proofs.YtfoehfehnmhhmaaGreatDoor
