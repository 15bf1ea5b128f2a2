/-
  Texts of this seat put together: L22f, L23.
-/
import Derived.Test.YtfgmmaahbngonaaGreatDoorQ28
import Derived.Test.YtfgmmaahbngonaaGreatDoorQ29

/-
  The walk of LogicTests, one of six cases. Conditions: what the library's variables hold; lengths.
-/
namespace Go.Proofs.YtfgmmaahbngonaaGreatDoor
open Go.RowKit Go.Shelf Go.Maps

set_option maxRecDepth 100000 in
set_option maxHeartbeats 8000000 in
theorem tests_gt_other (a b : Int) (la : -9223372036854775808 ≤ a) (ga : a ≤ 9223372036854775807) (lb : -9223372036854775808 ≤ b) (gb : b ≤ 9223372036854775807) (s t : Bts) (ls : s.length ≤ 100000000) (lt : t.length ≤ 100000000) (hc : b < a) (hst : s ≠ t) (w : World) (hg : GloL w) :
    Calls Tryz.prog 3 #[.int .i64 a, .int .i64 b, .string ⟨s.toArray⟩, .string ⟨t.toArray⟩] w fun e w' => e = .returned (.bool true) ∧ Below w.heap.size w w' := by
  have hsg : Lg.sgn a b = 1 := by unfold Lg.sgn; first | (rw [if_pos (by omega)]) | (rw [if_neg (by omega), if_pos (by omega)]) | (rw [if_neg (by omega), if_neg (by omega)])
  have H0 : Hid (Lg.holds 8 [Lib.itoa a, [45, 108, 116], Lib.itoa b] = some (.ok false)) := Lib.hid (by rw [holds_cmp la ga lb gb [45, 108, 116] 4 (by decide) (by decide) rfl, hsg]; rfl)
  have H1 : Hid (Lg.holds 8 [Lib.itoa a, [45, 101, 113], Lib.itoa b] = some (.ok false)) := Lib.hid (by rw [holds_cmp la ga lb gb [45, 101, 113] 0 (by decide) (by decide) rfl, hsg]; rfl)
  have H2 : Hid (Lg.holds 8 [Lib.itoa a, [45, 103, 116], Lib.itoa b] = some (.ok true)) := Lib.hid (by rw [holds_cmp la ga lb gb [45, 103, 116] 2 (by decide) (by decide) rfl, hsg]; rfl)
  have H3 : Hid (Lg.holds 8 [Lib.itoa a, [45, 108, 101], Lib.itoa b] = some (.ok false)) := Lib.hid (by rw [holds_cmp la ga lb gb [45, 108, 101] 5 (by decide) (by decide) rfl, hsg]; rfl)
  have H4 : Hid (Lg.holds 8 [Lib.itoa a, [45, 103, 101], Lib.itoa b] = some (.ok true)) := Lib.hid (by rw [holds_cmp la ga lb gb [45, 103, 101] 3 (by decide) (by decide) rfl, hsg]; rfl)
  have H5 : Hid (Lg.holds 8 [Lib.itoa a, [45, 110, 101], Lib.itoa b] = some (.ok true)) := Lib.hid (by rw [holds_cmp la ga lb gb [45, 110, 101] 1 (by decide) (by decide) rfl, hsg]; rfl)
  have HE : Hid (Lg.holds 8 [s, [61], t] = some (.ok false)) := Lib.hid (by rw [holds_eq]; simp [hst])
  have HN : Hid (Lg.holds 8 [s, [33, 61], t] = some (.ok true)) := Lib.hid (by rw [holds_ne]; simp [hst])
  have HT : Hid (Lg.holds 8 [[33], s, [61], t] = some (.ok true)) := Lib.hid (by rw [holds_not]; simp [hst])
  have HP : Hid (Lg.holds 8 [[40], Lib.itoa a, [41]] = some (.ok true)) := Lib.hid (holds_paren (binary_num la ga) (by
    have h := Lg.num_itoa a la ga
    cases hi : Lib.itoa a with
    | nil => rw [hi] at h; cases h
    | cons c r => rfl))
  have HLX : Hid ((Lib.itoa a).length ≤ 100000000) := Lib.hid (Nat.le_trans (itoa_le la ga) (by decide))
  have HLY : Hid ((Lib.itoa b).length ≤ 100000000) := Lib.hid (Nat.le_trans (itoa_le lb gb) (by decide))
  have HLS := Lib.hid (And.intro ls lt)
  have haw := awake_any w hg
  have hdx := fun w => digits_any a la ga w
  have hdy := fun w => digits_any b lb gb w
  have HDX := Lib.hid hdx
  have HDY := Lib.hid hdy
  clear hsg ls lt hdx hdy
  generalize Lib.itoa a = X at *
  generalize Lib.itoa b = Y at *
  have x1 : decide (a < b) = false := decide_eq_false (by omega)
  have x2 : (a == b) = false := by simp; omega
  have x3 : ¬ a = b := by omega
  have x4 : ¬ a < b := by omega
  have y1 : (s == t) = false := by simpa using hst
  have y2 : ¬ s = t := hst
  have HG := Lib.hid hg
  clear hg hst
  go_enter Tryz.func3, Tryz.ntmps3
  go_wp2_with fail
  refine haw.mono ?_
  rintro e w0 ⟨rfl, hb⟩
  have B0 := Lib.hid hb
  clear haw hb
  have hd := HDX.out w0 (HG.out.below B0.out).glo
  go_wp2_with fail
  refine hd.mono ?_
  rintro e u1 ⟨rfl, hb⟩
  have B1 := Lib.hid (B0.out.trans (hb.mono B0.out.size))
  clear hd hb
  have hd := HDY.out u1 (HG.out.below B1.out).glo
  go_wp2_with fail
  refine hd.mono ?_
  rintro e x0 ⟨rfl, hb⟩
  have HX0 := Lib.hid (B1.out.trans (hb.mono B1.out.size))
  clear hd hb
  have hcl : Calls Tryz.prog 8 #[.slice (some ⟨x0.heap.size, 0, none⟩) 3 3] (x0.alloc (.cells #[.string ⟨X.toArray⟩, .string ⟨#[45, 108, 116]⟩, .string ⟨Y.toArray⟩] 9)) fun e w' => e = .returned (.int .i64 1) ∧ Below x0.heap.size x0 w' := test_lit [X, [45, 108, 116], Y] _ rfl (by simp) (by simp) (.ok false) H0.out (len3 HLX.out (by decide) HLY.out) (tame_ok _) x0 (HG.out.below HX0.out)
  go_wp2_with fail
  refine hcl.mono ?_
  rintro e x1 ⟨rfl, hb⟩
  have HX1 := Lib.hid (HX0.out.trans (hb.mono HX0.out.size))
  clear hcl hb
  have hcl : Calls Tryz.prog 8 #[.slice (some ⟨x1.heap.size, 0, none⟩) 3 3] (x1.alloc (.cells #[.string ⟨X.toArray⟩, .string ⟨#[45, 101, 113]⟩, .string ⟨Y.toArray⟩] 9)) fun e w' => e = .returned (.int .i64 1) ∧ Below x1.heap.size x1 w' := test_lit [X, [45, 101, 113], Y] _ rfl (by simp) (by simp) (.ok false) H1.out (len3 HLX.out (by decide) HLY.out) (tame_ok _) x1 (HG.out.below HX1.out)
  go_wp2_with fail
  refine hcl.mono ?_
  rintro e x2 ⟨rfl, hb⟩
  have HX2 := Lib.hid (HX1.out.trans (hb.mono HX1.out.size))
  clear hcl hb
  have hcl : Calls Tryz.prog 8 #[.slice (some ⟨x2.heap.size, 0, none⟩) 3 3] (x2.alloc (.cells #[.string ⟨X.toArray⟩, .string ⟨#[45, 103, 116]⟩, .string ⟨Y.toArray⟩] 9)) fun e w' => e = .returned (.int .i64 0) ∧ Below x2.heap.size x2 w' := test_lit [X, [45, 103, 116], Y] _ rfl (by simp) (by simp) (.ok true) H2.out (len3 HLX.out (by decide) HLY.out) (tame_ok _) x2 (HG.out.below HX2.out)
  go_wp2_with fail
  refine hcl.mono ?_
  rintro e x3 ⟨rfl, hb⟩
  have HX3 := Lib.hid (HX2.out.trans (hb.mono HX2.out.size))
  clear hcl hb
  have hcl : Calls Tryz.prog 8 #[.slice (some ⟨x3.heap.size, 0, none⟩) 3 3] (x3.alloc (.cells #[.string ⟨X.toArray⟩, .string ⟨#[45, 108, 101]⟩, .string ⟨Y.toArray⟩] 9)) fun e w' => e = .returned (.int .i64 1) ∧ Below x3.heap.size x3 w' := test_lit [X, [45, 108, 101], Y] _ rfl (by simp) (by simp) (.ok false) H3.out (len3 HLX.out (by decide) HLY.out) (tame_ok _) x3 (HG.out.below HX3.out)
  go_wp2_with fail
  refine hcl.mono ?_
  rintro e x4 ⟨rfl, hb⟩
  have HX4 := Lib.hid (HX3.out.trans (hb.mono HX3.out.size))
  clear hcl hb
  have hcl : Calls Tryz.prog 8 #[.slice (some ⟨x4.heap.size, 0, none⟩) 3 3] (x4.alloc (.cells #[.string ⟨X.toArray⟩, .string ⟨#[45, 103, 101]⟩, .string ⟨Y.toArray⟩] 9)) fun e w' => e = .returned (.int .i64 0) ∧ Below x4.heap.size x4 w' := test_lit [X, [45, 103, 101], Y] _ rfl (by simp) (by simp) (.ok true) H4.out (len3 HLX.out (by decide) HLY.out) (tame_ok _) x4 (HG.out.below HX4.out)
  go_wp2_with fail
  refine hcl.mono ?_
  rintro e x5 ⟨rfl, hb⟩
  have HX5 := Lib.hid (HX4.out.trans (hb.mono HX4.out.size))
  clear hcl hb
  have hcl : Calls Tryz.prog 8 #[.slice (some ⟨x5.heap.size, 0, none⟩) 3 3] (x5.alloc (.cells #[.string ⟨X.toArray⟩, .string ⟨#[45, 110, 101]⟩, .string ⟨Y.toArray⟩] 9)) fun e w' => e = .returned (.int .i64 0) ∧ Below x5.heap.size x5 w' := test_lit [X, [45, 110, 101], Y] _ rfl (by simp) (by simp) (.ok true) H5.out (len3 HLX.out (by decide) HLY.out) (tame_ok _) x5 (HG.out.below HX5.out)
  go_wp2_with fail
  refine hcl.mono ?_
  rintro e x6 ⟨rfl, hb⟩
  have HX6 := Lib.hid (HX5.out.trans (hb.mono HX5.out.size))
  clear hcl hb
  have hcl : Calls Tryz.prog 8 #[.slice (some ⟨x6.heap.size, 0, none⟩) 3 3] (x6.alloc (.cells #[.string ⟨s.toArray⟩, .string ⟨#[61]⟩, .string ⟨t.toArray⟩] 9)) fun e w' => e = .returned (.int .i64 1) ∧ Below x6.heap.size x6 w' := test_lit [s, [61], t] _ rfl (by simp) (by simp) (.ok false) HE.out (len3 HLS.out.1 (by decide) HLS.out.2) (tame_ok _) x6 (HG.out.below HX6.out)
  go_wp2_with fail
  refine hcl.mono ?_
  rintro e x7 ⟨rfl, hb⟩
  have HX7 := Lib.hid (HX6.out.trans (hb.mono HX6.out.size))
  clear hcl hb
  have hcl : Calls Tryz.prog 8 #[.slice (some ⟨x7.heap.size, 0, none⟩) 3 3] (x7.alloc (.cells #[.string ⟨s.toArray⟩, .string ⟨#[33, 61]⟩, .string ⟨t.toArray⟩] 9)) fun e w' => e = .returned (.int .i64 0) ∧ Below x7.heap.size x7 w' := test_lit [s, [33, 61], t] _ rfl (by simp) (by simp) (.ok true) HN.out (len3 HLS.out.1 (by decide) HLS.out.2) (tame_ok _) x7 (HG.out.below HX7.out)
  go_wp2_with fail
  refine hcl.mono ?_
  rintro e x8 ⟨rfl, hb⟩
  have HX8 := Lib.hid (HX7.out.trans (hb.mono HX7.out.size))
  clear hcl hb
  have hcl : Calls Tryz.prog 8 #[.slice (some ⟨x8.heap.size, 0, none⟩) 4 4] (x8.alloc (.cells #[.string ⟨#[33]⟩, .string ⟨s.toArray⟩, .string ⟨#[61]⟩, .string ⟨t.toArray⟩] 9)) fun e w' => e = .returned (.int .i64 0) ∧ Below x8.heap.size x8 w' := test_lit [[33], s, [61], t] _ rfl (by simp) (by simp) (.ok true) HT.out (len4 (by decide) HLS.out.1 (by decide) HLS.out.2) (tame_ok _) x8 (HG.out.below HX8.out)
  go_wp2_with fail
  refine hcl.mono ?_
  rintro e x9 ⟨rfl, hb⟩
  have HX9 := Lib.hid (HX8.out.trans (hb.mono HX8.out.size))
  clear hcl hb
  have hcl : Calls Tryz.prog 8 #[.slice (some ⟨x9.heap.size, 0, none⟩) 3 3] (x9.alloc (.cells #[.string ⟨#[40]⟩, .string ⟨X.toArray⟩, .string ⟨#[41]⟩] 9)) fun e w' => e = .returned (.int .i64 0) ∧ Below x9.heap.size x9 w' := test_lit [[40], X, [41]] _ rfl (by simp) (by simp) (.ok true) HP.out (len3 (by decide) HLX.out (by decide)) (tame_ok _) x9 (HG.out.below HX9.out)
  go_wp2_with fail
  refine hcl.mono ?_
  rintro e x10 ⟨rfl, hb⟩
  have HX10 := Lib.hid (HX9.out.trans (hb.mono HX9.out.size))
  clear hcl hb
  go_wp2_with fail
  go_ret
  exact ⟨rfl, HX10.out⟩

end Go.Proofs.YtfgmmaahbngonaaGreatDoor

/-
  LogicTests, walked. Conditions: what the library's variables hold; lengths.
-/
namespace Go.Proofs.YtfgmmaahbngonaaGreatDoor
open Go.RowKit Go.Shelf Go.Maps

theorem tests_any (a b : Int) (la : -9223372036854775808 ≤ a) (ga : a ≤ 9223372036854775807) (lb : -9223372036854775808 ≤ b) (gb : b ≤ 9223372036854775807) (s t : Bts) (ls : s.length ≤ 100000000) (lt : t.length ≤ 100000000) (w : World) (hg : GloL w) :
    Calls Tryz.prog 3 #[.int .i64 a, .int .i64 b, .string ⟨s.toArray⟩, .string ⟨t.toArray⟩] w fun e w' => e = .returned (.bool true) ∧ Below w.heap.size w w' := by
  rcases Int.lt_trichotomy a b with hc | hc | hc <;> by_cases hst : s = t
  · exact tests_lt_same a b la ga lb gb s t ls lt hc hst w hg
  · exact tests_lt_other a b la ga lb gb s t ls lt hc hst w hg
  · exact tests_eq_same a b la ga lb gb s t ls lt hc hst w hg
  · exact tests_eq_other a b la ga lb gb s t ls lt hc hst w hg
  · exact tests_gt_same a b la ga lb gb s t ls lt hc hst w hg
  · exact tests_gt_other a b la ga lb gb s t ls lt hc hst w hg

end Go.Proofs.YtfgmmaahbngonaaGreatDoor
