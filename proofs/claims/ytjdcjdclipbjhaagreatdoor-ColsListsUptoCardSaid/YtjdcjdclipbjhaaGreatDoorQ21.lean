/-
  Texts of this seat put together: C18, C19, D1, D2, D3, D4, D5, D6.
-/
import Derived.Test.YtjdcjdclipbjhaaGreatDoorQ20
import Derived.Maps.AppendAt
import Derived.Test.YtjdcjdclipbjhaaGreatDoorQ16
import Derived.Laws.IdiomRangeMap
import Derived.Maps.RangeRun
import Derived.Shelf.Slices.In.SortNone

/-
  The walk of paste -s, at its own input. Conditions: its options are read, no operands, no signs; lines that fit, none empty.
-/
namespace Go.Proofs.YtjdcjdclipbjhaaGreatDoor
open Go.RowKit Go.Shelf Go.Maps

theorem info_feedp : (Tryz.prog.info? 227).map (fun i => (i.zero, i.size, i.bytes)) = some (some (.pointer none), 1, 8) := by kernel_rfl

set_option maxRecDepth 100000 in
set_option maxHeartbeats 8000000 in
theorem pasteS_any (F : Fx) (M : Nat → Prop) (inp a0 : Bts) (rest : List Bts) (ha : F.args = a0 :: rest) (hrest : rest ≠ []) (htot : totL rest ≤ 1000000) (L : List OptA) (hp : Op.parse [115, 100, 58] rest = some (L, [])) (hLN : L.length ≤ 1000000)
    (hd : Op.last L 100 = none) (hs : Op.has L 115 = true) (hall : allL (fun l => l ≠ []) inp.length inp) (hin : inp.length ≤ F.line) (hin2 : inp.length ≤ 1000000) (hbig : (rowF [9] inp.length true inp).length ≤ 4294967296) (w : World) (h : PrAt w F M inp [] []) :
    Calls Tryz.prog 56 #[.pointer (some ⟨F.p, 0, none⟩)] w fun e w' => MainC F M (rowF [9] inp.length true inp) w e w' := by
  obtain ⟨i0, hi, hz0, hz1, hz2⟩ := info_parts info_feedp
  have hargs := args_any F M inp [] [] w h
  rw [ha] at hargs
  generalize hR : rowF [9] inp.length true inp = OUT at *
  have H := Lib.hid h
  have HR := Lib.hid hR
  have HP := Lib.hid hp
  have HD := Lib.hid hd
  have HS := Lib.hid hs
  have HAL := Lib.hid hall
  have hr1 : 1 ≤ rest.length := List.length_pos_iff.2 hrest
  clear h hR hp hall hrest hd hs
  go_enter Tryz.func56, Tryz.ntmps56
  go_wp2_with fail
  refine hargs.mono ?_
  rintro e w1 ⟨v, rfl, ho1, hb1⟩
  clear hargs
  obtain ⟨g, c, rfl, hcl, -, hgl, hc⟩ := strs_cell ho1 0 (by simp)
  have hss : Ss w1 (some ⟨g, 1, none⟩) rest := fun _ => ⟨g, 1, rfl, fun i hi => by
    have := hc (i + 1) (by simp; omega)
    rw [Nat.add_comm 1 i, this]
    simp⟩
  simp only [List.length_cons] at hcl
  have hpa := parse_any [115, 100, 58] (by decide) rest (some ⟨g, 1, none⟩) (c - 1) (by omega) htot w1 hss
  rw [HP.out] at hpa
  have f1 : (1 : Int) ≤ c := by omega
  have f2 : 1 ≤ c := by omega
  have f3 : ¬ c - 1 = 0 := by omega
  have f4 : ¬ c = 1 := by omega
  have f5 : ¬ c ≤ 1 := by omega
  have HB1 := Lib.hid hb1
  clear ho1 hb1 hc hss
  go_wp2_with fail
  refine hpa.mono ?_
  rintro e w2 ⟨hb2, lv, ov, rfl, hl2, ho2⟩
  obtain ⟨pl, cl, rfl, hlc, hat⟩ := hl2.at_
  obtain ⟨po, co, hov⟩ := strs_shape ho2
  simp only [List.length_nil] at hov
  subst hov
  have HB2 := Lib.hid (HB1.out.trans (hb2.mono HB1.out.size))
  obtain ⟨w3, hw3⟩ : ∃ w3, w2.alloc (.cells #[.string ⟨#[9]⟩] 9) = w3 := ⟨_, rfl⟩
  have hb23 : Below w2.heap.size w2 w3 := by rw [← hw3]; exact (Below.refl _ _).alloc (Nat.le_refl _) _
  have HB3 := Lib.hid (HB2.out.trans (hb23.mono HB2.out.size))
  have HK3 := Lib.hid (show Blk w3 w2.heap.size #[.string ⟨#[9]⟩] 9 by rw [← hw3]; exact Blk.new _ _ _)
  have hat3 := hat.below hb23
  have HAT3 := Lib.hid hat3
  have hla : Calls Tryz.prog 102 #[.slice pl L.length cl, .int .u8 100] w3 fun e w' => e = .returned (lastV (Op.last L 100)) ∧ Below w3.heap.size w3 w' := last_any L 100 pl cl hlc hLN w3 hat3
  rw [HD.out] at hla
  unfold lastV at hla
  simp only at hla
  have HW3 := Lib.hid hw3
  clear hpa hb2 hl2 ho2 hat hb23 hat3 f1 f2 f3 f4 f5 hw3
  go_wp2_with fail
  rw [HW3.out]
  refine hla.mono ?_
  rintro e w4 ⟨rfl, hb4⟩
  have HB4 := Lib.hid (HB3.out.trans (hb4.mono HB3.out.size))
  have HK4 := Lib.hid (HK3.out.keep hb4 HK3.out.lt)
  have hhs : Calls Tryz.prog 104 #[.slice pl L.length cl, .int .u8 115] w4 fun e w' => e = .returned (.bool (Op.has L 115)) ∧ Below w4.heap.size w4 w' := hasOpt_any L 115 pl cl hlc hLN w4 (HAT3.out.below hb4)
  rw [HS.out] at hhs
  have hlw2 : w.heap.size ≤ w2.heap.size := HB2.out.size
  clear hla hb4 HW3 HK3
  generalize w2.heap.size = lb at *
  go_wp2_with fail
  refine hhs.mono ?_
  rintro e w5 ⟨rfl, hb5⟩
  have HB5 := Lib.hid (HB4.out.trans (hb5.mono HB4.out.size))
  have HK5 := Lib.hid (HK4.out.keep hb5 HK4.out.lt)
  have hin0 := inputs0_any po co w5
  clear hhs hb5 HK4
  go_wp2_with fail
  refine hin0.mono ?_
  rintro e w6 ⟨rfl, rfl⟩
  clear hin0
  obtain ⟨w6, hw6⟩ : ∃ w6, w5.alloc (.cells #[.string ⟨#[45]⟩] 9) = w6 := ⟨_, rfl⟩
  have hb56 : Below w5.heap.size w5 w6 := by rw [← hw6]; exact (Below.refl _ _).alloc (Nat.le_refl _) _
  have HB6 := Lib.hid (HB5.out.trans (hb56.mono HB5.out.size))
  have HK6 := Lib.hid (HK5.out.keep hb56 HK5.out.lt)
  have n0 : w6.cell? ⟨w5.heap.size, 0, none⟩ = some (.string ⟨#[45]⟩) := by rw [← hw6]; exact (Blk.new w5 #[.string ⟨#[45]⟩] 9).cell 0 rfl
  have HW6 := Lib.hid hw6
  clear hw6 hb56 HK5
  go_wp2_with fail
  rw [HW6.out]
  clear HW6
  have hlb6 : lb < w6.heap.size := HK6.out.lt
  have hw6 : w.heap.size ≤ w6.heap.size := HB6.out.size
  go_loopw [9, 10, 11, 13, 14, 50] (fun x9 x10 x11 _ _ i wr => (i = .int .i64 0 ∧ x9 = .slice none 0 0 ∧ x10 = .bool true ∧ x11 = .bool false ∧ wr = w6) ∨ (i = .int .i64 1 ∧ x10 = .bool true ∧ ∃ fb gb gc, x9 = .slice (some ⟨gb, 0, none⟩) 1 gc ∧ Hid (wr.cell? ⟨fb, 3, none⟩ = some (.int .i64 0) ∧ ∀ i, i < 1 → wr.cell? ⟨gb, 0 + i, none⟩ = some (.pointer (some ⟨fb, 0, none⟩))) ∧ Hid (MainC F M OUT w (.returned (.int .i64 0)) wr))) (fun _ _ _ _ _ i _ => 1 - (intOf i).toNat)
  case atStart => exact .inl ⟨rfl, rfl, rfl, rfl, rfl⟩
  case round =>
    rcases hrel with ⟨rfl, rfl, rfl, rfl, rfl⟩ | ⟨rfl, rfl, fb, gb, gc, rfl, HF, HM⟩
    · obtain ⟨w7, hw7⟩ : ∃ w7, wr.alloc (.cells #[.string ⟨#[45]⟩, .int .i64 0, .pointer none, .int .i64 0] 229) = w7 := ⟨_, rfl⟩
      have hb67 : Below wr.heap.size wr w7 := by rw [← hw7]; exact (Below.refl _ _).alloc (Nat.le_refl _) _
      have HB7 := Lib.hid (HB6.out.trans (hb67.mono HB6.out.size))
      have HK7 := Lib.hid (HK6.out.keep hb67 HK6.out.lt)
      have hbg := begun_any F M inp [] w7 (H.out.below HB7.out)
      have HW7 := Lib.hid hw7
      have hs67 := hb67.size
      clear hw7 hb67
      go_wp2_with fail
      try rw [HW7.out]
      refine hbg.mono ?_
      rintro e w8 ⟨rd, rfl, hf8, hlt8, hb8⟩
      have HB8 := Lib.hid (HB7.out.trans (hb8.mono HB7.out.size))
      have HK8 := Lib.hid (HK7.out.keep hb8 HK7.out.lt)
      have HF8 := Lib.hid hf8
      have hs78 := hb8.size
      have hfl := hf8.own.2.2.2.2.2.1
      clear hbg hf8 hb8 n0
      generalize w7.heap.size = fb at *
      go_wp2_with (at_builtin; refine wpList_append_own _ rfl _ _ 225 rfl w8.heap.size 227 i0 (.pointer none) 1 8 Tryz.underlying225 hi hz0 hz1 hz2 rfl (by decide) _ _ _ rfl ((World.ownsRow_nil w8 w8.heap.size 227 1).alloc _) ⟨w8.heap.size, 0, none⟩ 1 1 [.pointer (some ⟨fb, 0, none⟩)] rfl rfl (cell_one_new _ _ _) (by simp [Value.oneCell']) (by unfold maxLen; first | omega | (simp <;> omega)) (by first | omega | (simp <;> omega)) (by simp) ?_; intro v' w10 hown' hgrow _)
      obtain ⟨gb, gc, rfl⟩ := own_slice hown'
      have hb10 : Below w8.heap.size w8 w10 := ((Below.refl _ w8).alloc (Nat.le_refl _) _).grown hgrow (by simp) fun j hj => by cases hj
      have hgl := hown'.lt gb rfl
      have hk10 := HK8.out.keep hb10 HK8.out.lt
      have hf10 := HF8.out.below hb10
      have hrw := row_any F M [9] (by decide) lb 0 1 fb rd inp [] hin2 hin HAL.out (by rw [HR.out, List.nil_append]; exact hbig) w10 hf10 (hk10.cell 0 rfl) ⟨fun hm => by have := H.out.lt lb hm; omega, by omega, by omega⟩
      rw [HR.out, List.nil_append] at hrw
      have HO10 := Lib.hid hown'
      have HB10 := Lib.hid (HB8.out.trans (hb10.mono HB8.out.size))
      have hrl := hf10.own.2.2.2.2.2.2
      have hrl8 := HF8.out.own.2.2.2.2.2.2
      clear hown' hgrow hb10 hk10 hf10
      go_wp2_with fail
      refine hrw.mono ?_
      rintro e w11 ⟨rfl, inp', M', hp11, hf11, hm11⟩
      have HMAIN := Lib.hid (show MainC F M OUT w (.returned (.int .i64 0)) w11 from
        ⟨inp', M', rfl, hp11, ⟨(Kept.of_below HB10.out).trans' hm11.1 fun k hk e => by
          rcases e with e | e | e
          · exact e
          · omega
          · omega, fun j hj => by
          rcases hm11.2 j hj with e | e
          · exact .inl e
          · have := HB10.out.size; exact .inr (by omega)⟩⟩)
      have HFAC := Lib.hid (show w11.cell? ⟨fb, 3, none⟩ = some (.int .i64 0) ∧ ∀ i, i < 1 → w11.cell? ⟨gb, 0 + i, none⟩ = some (.pointer (some ⟨fb, 0, none⟩)) from ⟨hf11.err, fun i hi => by
        obtain rfl : i = 0 := by omega
        have ho := own_kept HO10.out hm11.1 fun k hk e => by
          obtain rfl : gb = k := by simpa [Value.ownBlock] using hk
          rcases e with e | e | e
          · have := H.out.lt gb e; omega
          · omega
          · omega
        exact ho.cellAt 0 (by simp)⟩)
      clear hrw hp11 hf11 hm11
      go_wp2_with fail
      go_roundw
      case rel => exact .inr ⟨rfl, rfl, fb, gb, gc, rfl, HFAC, HMAIN⟩
      case measure => simp [intOf]
    · have hfa := failed_any fb gb 0 1 gc (by decide) wr HF.out.1 HF.out.2
      go_wp2_with fail
      refine hfa.mono ?_
      rintro e w11 ⟨rfl, rfl⟩
      go_wp2_with fail
      go_ret
      exact HM.out

end Go.Proofs.YtjdcjdclipbjhaaGreatDoor

/-
  The walk of paste -d , over its own input twice. Conditions: its options are read; lines that fit.
-/
namespace Go.Proofs.YtjdcjdclipbjhaaGreatDoor
open Go.RowKit Go.Shelf Go.Maps

set_option maxRecDepth 100000 in
theorem inputs2_any (p : Option Addr) (c : Nat) (w : World) :
    Calls Tryz.prog 92 #[.slice p 2 c] w fun e w' => e = .returned (.slice p 2 c) ∧ w' = w := by
  go_enter Tryz.func92, Tryz.ntmps92
  go_wp2_with fail
  go_ret
  exact ⟨rfl, rfl⟩

set_option maxRecDepth 100000 in
set_option maxHeartbeats 8000000 in
theorem pasteD_any (F : Fx) (M : Nat → Prop) (inp a0 : Bts) (rest : List Bts) (ha : F.args = a0 :: rest) (hrest : rest ≠ []) (htot : totL rest ≤ 1000000) (L : List OptA) (hp : Op.parse [115, 100, 58] rest = some (L, [[45], [45]])) (hLN : L.length ≤ 1000000)
    (hd : Op.last L 100 = some [44]) (hs : Op.has L 115 = false) (hin : inp.length ≤ F.line) (hin2 : inp.length ≤ 1000000) (hbig : (rndF [44] inp.length inp).length ≤ 4294967296) (w : World) (h : PrAt w F M inp [] []) :
    Calls Tryz.prog 56 #[.pointer (some ⟨F.p, 0, none⟩)] w fun e w' => MainC F M (rndF [44] inp.length inp) w e w' := by
  obtain ⟨i0, hi, hz0, hz1, hz2⟩ := info_parts info_feedp
  have hargs := args_any F M inp [] [] w h
  rw [ha] at hargs
  generalize hR : rndF [44] inp.length inp = OUT at *
  have H := Lib.hid h
  have HR := Lib.hid hR
  have HP := Lib.hid hp
  have HD := Lib.hid hd
  have HS := Lib.hid hs
  have hr1 : 1 ≤ rest.length := List.length_pos_iff.2 hrest
  clear h hR hp hrest hd hs
  go_enter Tryz.func56, Tryz.ntmps56
  go_wp2_with fail
  refine hargs.mono ?_
  rintro e w1 ⟨v, rfl, ho1, hb1⟩
  clear hargs
  obtain ⟨g, c, rfl, hcl, -, hgl, hc⟩ := strs_cell ho1 0 (by simp)
  have hss : Ss w1 (some ⟨g, 1, none⟩) rest := fun _ => ⟨g, 1, rfl, fun i hi => by
    have := hc (i + 1) (by simp; omega)
    rw [Nat.add_comm 1 i, this]
    simp⟩
  simp only [List.length_cons] at hcl
  have hpa := parse_any [115, 100, 58] (by decide) rest (some ⟨g, 1, none⟩) (c - 1) (by omega) htot w1 hss
  rw [HP.out] at hpa
  have f1 : (1 : Int) ≤ c := by omega
  have f2 : 1 ≤ c := by omega
  have f3 : ¬ c - 1 = 0 := by omega
  have f4 : ¬ c = 1 := by omega
  have f5 : ¬ c ≤ 1 := by omega
  have HB1 := Lib.hid hb1
  clear ho1 hb1 hc hss
  go_wp2_with fail
  refine hpa.mono ?_
  rintro e w2 ⟨hb2, lv, ov, rfl, hl2, ho2⟩
  obtain ⟨pl, cl, rfl, hlc, hat⟩ := hl2.at_
  obtain ⟨po, co, rfl, hco, hgo, hgo2, hno⟩ := strs_cell ho2 0 (by simp)
  have hn0 := hno 0 (by simp)
  have hn1 := hno 1 (by simp)
  simp only [List.getD_cons_zero, List.getD_cons_succ, strV] at hn0 hn1
  have HB2 := Lib.hid (HB1.out.trans (hb2.mono HB1.out.size))
  obtain ⟨w3, hw3⟩ : ∃ w3, w2.alloc (.cells #[.string ⟨#[9]⟩] 9) = w3 := ⟨_, rfl⟩
  have hb23 : Below w2.heap.size w2 w3 := by rw [← hw3]; exact (Below.refl _ _).alloc (Nat.le_refl _) _
  have HB3 := Lib.hid (HB2.out.trans (hb23.mono HB2.out.size))
  have HN3 := Lib.hid (show w3.cell? ⟨po, 0, none⟩ = some (.string ⟨#[45]⟩) ∧ w3.cell? ⟨po, 1, none⟩ = some (.string ⟨#[45]⟩) from ⟨(hb23.cell (p := ⟨po, 0, none⟩) hgo2).trans hn0, (hb23.cell (p := ⟨po, 1, none⟩) hgo2).trans hn1⟩)
  have HK3 := Lib.hid (show Blk w3 w2.heap.size #[.string ⟨#[9]⟩] 9 by rw [← hw3]; exact Blk.new _ _ _)
  have hat3 := hat.below hb23
  have HAT3 := Lib.hid hat3
  have hla : Calls Tryz.prog 102 #[.slice pl L.length cl, .int .u8 100] w3 fun e w' => e = .returned (lastV (Op.last L 100)) ∧ Below w3.heap.size w3 w' := last_any L 100 pl cl hlc hLN w3 hat3
  rw [HD.out] at hla
  simp only [lastV, strV] at hla
  have HW3 := Lib.hid hw3
  have hpo3 : po < w3.heap.size := Nat.lt_of_lt_of_le hgo2 hb23.size
  clear hpa hb2 hl2 ho2 hat hb23 hat3 f1 f2 f3 f4 f5 hw3 hno hn0 hn1
  go_wp2_with fail
  rw [HW3.out]
  refine hla.mono ?_
  rintro e w4 ⟨rfl, hb4⟩
  have HB4 := Lib.hid (HB3.out.trans (hb4.mono HB3.out.size))
  have HK4 := Lib.hid (HK3.out.keep hb4 HK3.out.lt)
  have hsg := signs1_any w4
  have HN4 := Lib.hid (show w4.cell? ⟨po, 0, none⟩ = some (.string ⟨#[45]⟩) ∧ w4.cell? ⟨po, 1, none⟩ = some (.string ⟨#[45]⟩) from ⟨(hb4.cell (p := ⟨po, 0, none⟩) hpo3).trans HN3.out.1, (hb4.cell (p := ⟨po, 1, none⟩) hpo3).trans HN3.out.2⟩)
  have hpo4 : po < w4.heap.size := Nat.lt_of_lt_of_le hpo3 hb4.size
  have HAT4 := Lib.hid (HAT3.out.below hb4)
  clear hla hb4 HW3 HK3 HK4 HN3 HAT3
  go_wp2_with fail
  refine hsg.mono ?_
  rintro e w5 ⟨v5, rfl, ho5, hb5⟩
  obtain ⟨lb, lc, rfl⟩ := own_slice ho5
  have hlb := ho5.lt lb rfl
  have hcl5 : w5.cell? ⟨lb, 0, none⟩ = some (.string ⟨#[44]⟩) := ho5.cellAt 0 (by simp)
  have HB5 := Lib.hid (HB4.out.trans (hb5.mono HB4.out.size))
  have hhs : Calls Tryz.prog 104 #[.slice pl L.length cl, .int .u8 115] w5 fun e w' => e = .returned (.bool (Op.has L 115)) ∧ Below w5.heap.size w5 w' := hasOpt_any L 115 pl cl hlc hLN w5 (HAT4.out.below hb5)
  rw [HS.out] at hhs
  have HN5 := Lib.hid (show w5.cell? ⟨po, 0, none⟩ = some (.string ⟨#[45]⟩) ∧ w5.cell? ⟨po, 1, none⟩ = some (.string ⟨#[45]⟩) from ⟨(hb5.cell (p := ⟨po, 0, none⟩) hpo4).trans HN4.out.1, (hb5.cell (p := ⟨po, 1, none⟩) hpo4).trans HN4.out.2⟩)
  have hpo5 : po < w5.heap.size := Nat.lt_of_lt_of_le hpo4 hb5.size
  have hw4 : w.heap.size ≤ w4.heap.size := HB4.out.size
  clear hsg hb5 ho5 HN4 HAT4
  go_wp2_with fail
  refine hhs.mono ?_
  rintro e w6 ⟨rfl, hb6⟩
  have HB6 := Lib.hid (HB5.out.trans (hb6.mono HB5.out.size))
  have HC6 := Lib.hid ((hb6.cell (p := ⟨lb, 0, none⟩) hlb.2).trans hcl5)
  have HN6 := Lib.hid (show w6.cell? ⟨po, 0, none⟩ = some (.string ⟨#[45]⟩) ∧ w6.cell? ⟨po, 1, none⟩ = some (.string ⟨#[45]⟩) from ⟨(hb6.cell (p := ⟨po, 0, none⟩) hpo5).trans HN5.out.1, (hb6.cell (p := ⟨po, 1, none⟩) hpo5).trans HN5.out.2⟩)
  have hlb6 : lb < w6.heap.size := Nat.lt_of_lt_of_le hlb.2 hb6.size
  have hpo6 : po < w6.heap.size := Nat.lt_of_lt_of_le hpo5 hb6.size
  have hin2 := inputs2_any (some ⟨po, 0, none⟩) co w6
  have hw6 : w.heap.size ≤ w6.heap.size := HB6.out.size
  clear hhs hb6 hcl5 HN5
  go_wp2_with fail
  refine hin2.mono ?_
  rintro e w7 ⟨rfl, rfl⟩
  clear hin2
  go_wp2_with fail
  go_loopw [9, 15, 17, 18, 85] (fun x9 x15 _ _ i wr => (i = .int .i64 0 ∧ x9 = .slice none 0 0 ∧ x15 = .pointer none ∧ wr = w7) ∨ (∃ fb rd gb gc, i = .int .i64 1 ∧ x9 = .slice (some ⟨gb, 0, none⟩) 1 gc ∧ x15 = .pointer (some ⟨fb, 0, none⟩) ∧ Hid (FdSt wr F M fb rd inp [] ∧ Below w7.heap.size w7 wr ∧ w7.heap.size ≤ fb ∧ w7.heap.size ≤ rd ∧ Nb wr fb rd gb ∧ gb ≠ rd ∧ gb ≠ fb ∧ wr.ownsRow w7.heap.size 227 1 (.slice (some ⟨gb, 0, none⟩) 1 gc) 1 [.pointer (some ⟨fb, 0, none⟩)])) ∨ (∃ fb rd gb gc, i = .int .i64 2 ∧ x9 = .slice (some ⟨gb, 0, none⟩) 2 gc ∧ Hid (FdSt wr F M fb rd inp [] ∧ Below w7.heap.size w7 wr ∧ w7.heap.size ≤ fb ∧ w7.heap.size ≤ rd ∧ gb ≠ rd ∧ gb ≠ fb ∧ wr.ownsRow w7.heap.size 227 1 (.slice (some ⟨gb, 0, none⟩) 2 gc) 2 [.pointer (some ⟨fb, 0, none⟩), .pointer (some ⟨fb, 0, none⟩)]))) (fun _ _ _ _ i _ => 2 - (intOf i).toNat)
  case atStart => exact .inl ⟨rfl, rfl, rfl, rfl⟩
  case round =>
    rcases hrel with ⟨rfl, rfl, rfl, rfl⟩ | ⟨fb, rd, gb, gc, rfl, rfl, rfl, HF⟩ | ⟨fb, rd, gb, gc, rfl, rfl, HF⟩
    · have n0 := HN6.out.1
      have hbg := begun_any F M inp [] wr (H.out.below HB6.out)
      go_wp2_with fail
      refine hbg.mono ?_
      rintro e w8 ⟨rd, rfl, hf8, hlt8, hb8⟩
      have HB8 := Lib.hid hb8
      have HF8 := Lib.hid hf8
      have hs78 := hb8.size
      have hal : Below w8.heap.size w8 (w8.alloc (.cells #[.pointer (some ⟨wr.heap.size, 0, none⟩)] 227)) := (Below.refl _ _).alloc (Nat.le_refl _) _
      have hfl := hf8.own.2.2.2.2.2
      have HAL := Lib.hid hal
      clear hbg hf8 hb8 n0 hal
      go_wp2_with (at_builtin; refine wpList_append_own_at _ rfl _ _ 225 rfl wr.heap.size 227 i0 (.pointer none) 1 8 Tryz.underlying225 hi hz0 hz1 hz2 rfl (by decide) _ _ _ rfl ((World.ownsRow_nil w8 wr.heap.size 227 1).alloc _) ⟨w8.heap.size, 0, none⟩ 1 1 [.pointer (some ⟨wr.heap.size, 0, none⟩)] rfl rfl (cell_one_new _ _ _) (by simp [Value.oneCell']) (by unfold maxLen; first | omega | (simp <;> omega)) (by first | omega | (simp <;> omega)) (by simp; omega) ?_; intro v' w10 hown' hgrow _ hat)
      obtain ⟨gb, gc, rfl⟩ := own_slice hown'
      have hgb : gb = (w8.alloc (.cells #[.pointer (some ⟨wr.heap.size, 0, none⟩)] 227)).heap.size := by
        rcases hat with h1 | h1
        · cases h1
        · simpa [Value.ownBlock] using h1
      have f9 := HF8.out.below HAL.out
      have nb9 := f9.bufLt gb (by omega)
      have hb10 : Below (w8.alloc (.cells #[.pointer (some ⟨wr.heap.size, 0, none⟩)] 227)).heap.size (w8.alloc (.cells #[.pointer (some ⟨wr.heap.size, 0, none⟩)] 227)) w10 := (Below.refl _ _).grown hgrow (Nat.le_refl _) fun j hj => by cases hj
      have nb10 := nb9.kept (Kept.of_below (S := fun _ => False) hb10) id id f9.own.2.2.2.2.2.1 f9.own.2.2.2.2.2.2
      have hsz := HAL.out.size
      have HALL := Lib.hid (show FdSt w10 F M wr.heap.size rd inp [] ∧ Below wr.heap.size wr w10 ∧ wr.heap.size ≤ wr.heap.size ∧ wr.heap.size ≤ rd ∧ Nb w10 wr.heap.size rd gb ∧ gb ≠ rd ∧ gb ≠ wr.heap.size ∧ w10.ownsRow wr.heap.size 227 1 (.slice (some ⟨gb, 0, none⟩) 1 gc) 1 [.pointer (some ⟨wr.heap.size, 0, none⟩)] from
        ⟨f9.below hb10, (HB8.out.trans (HAL.out.mono HB8.out.size)).trans (hb10.mono (HB8.out.trans (HAL.out.mono HB8.out.size)).size), Nat.le_refl _, Nat.le_of_lt hlt8, nb10, by omega, by omega, hown'⟩)
      clear hown' hgrow hat hgb f9 nb9 hb10 nb10 hsz
      go_roundw
      case rel => exact .inr (.inl ⟨_, rd, gb, gc, rfl, rfl, rfl, HALL⟩)
      case measure => simp [intOf]
    · obtain ⟨f1, b1, l1, l2, n1, d1, d2, o1⟩ := HF.out
      have n2 := (b1.cell (p := ⟨po, 1, none⟩) hpo6).trans HN6.out.2
      have hal : Below wr.heap.size wr (wr.alloc (.cells #[.pointer (some ⟨fb, 0, none⟩)] 227)) := (Below.refl _ _).alloc (Nat.le_refl _) _
      have hgl := o1.lt gb rfl
      have f2 := f1.below hal
      have nb2 := n1.kept (Kept.of_below (S := fun _ => False) hal) id id f1.own.2.2.2.2.2.1 f1.own.2.2.2.2.2.2
      have hn0 := f1.own.2.2.2.1
      have hMg : ¬ M gb := fun hm => by have := H.out.lt gb hm; omega
      have HO1 := Lib.hid o1
      have HF2 := Lib.hid f2
      have HNB := Lib.hid nb2
      have HB1' := Lib.hid (b1.trans (hal.mono b1.size))
      have hb17 := b1.size
      clear f1 b1 n1 o1 f2 nb2 hal
      go_wp2_with (at_builtin; refine wpList_append_own_at _ rfl _ _ 225 rfl w7.heap.size 227 i0 (.pointer none) 1 8 Tryz.underlying225 hi hz0 hz1 hz2 rfl (by decide) (.slice (some ⟨gb, 0, none⟩) 1 gc) 1 [.pointer (some ⟨fb, 0, none⟩)] rfl (HO1.out.alloc _) ⟨wr.heap.size, 0, none⟩ 1 1 [.pointer (some ⟨fb, 0, none⟩)] rfl rfl (cell_one_new _ _ _) (by simp [Value.oneCell']) (by unfold maxLen; first | omega | (simp <;> omega)) (by first | omega | (simp <;> omega)) (by simp; omega) ?_; intro v' w12 hown' hgrow _ hat)
      obtain ⟨gb2, gc2, rfl⟩ := own_slice hown'
      have f3 := HF2.out.grown hgrow fun k e => by
        have : gb = k := by simpa [Value.ownBlock] using e
        subst this
        exact ⟨hMg, d1, d2, Nat.le_trans H.out.n0 (by omega), HNB.out⟩
      have hb12 : Below w7.heap.size w7 w12 := HB1'.out.grown hgrow HB1'.out.size fun k e => by
        have : gb = k := by simpa [Value.ownBlock] using e
        omega
      have hd : gb2 ≠ rd ∧ gb2 ≠ fb := by
        rcases hat with h1 | h1
        · have : gb2 = gb := by simpa [Value.ownBlock] using h1
          exact ⟨by omega, by omega⟩
        · have h2 : gb2 = wr.heap.size + 1 := by simpa [Value.ownBlock] using h1
          have h3 := HF2.out.own.2.2.2.2.2
          have h4 : (wr.alloc (.cells #[.pointer (some ⟨fb, 0, none⟩)] 227)).heap.size = wr.heap.size + 1 := by simp
          exact ⟨by omega, by omega⟩
      have HALL := Lib.hid (show FdSt w12 F M fb rd inp [] ∧ Below w7.heap.size w7 w12 ∧ w7.heap.size ≤ fb ∧ w7.heap.size ≤ rd ∧ gb2 ≠ rd ∧ gb2 ≠ fb ∧ w12.ownsRow w7.heap.size 227 1 (.slice (some ⟨gb2, 0, none⟩) 2 gc2) 2 [.pointer (some ⟨fb, 0, none⟩), .pointer (some ⟨fb, 0, none⟩)] from
        ⟨f3, hb12, l1, l2, hd.1, hd.2, hown'⟩)
      clear hown' hgrow hat f3 hb12 hd n2
      go_roundw
      case rel => exact .inr (.inr ⟨fb, rd, gb2, gc2, rfl, rfl, HALL⟩)
      case measure => simp [intOf]
    · obtain ⟨f1, b1, l1, l2, d1, d2, o1⟩ := HF.out
      have hgl := o1.lt gb rfl
      have hMg : ¬ M gb := fun hm => by have := H.out.lt gb hm; omega
      have hMl : ¬ M lb := fun hm => by have := H.out.lt lb hm; omega
      have hg2 : ∀ i, i < 2 → wr.cell? ⟨gb, 0 + i, none⟩ = some (.pointer (some ⟨fb, 0, none⟩)) := fun i hi => by
        rw [Nat.zero_add, o1.cellAt i (by simpa using hi)]
        rcases (by omega : i = 0 ∨ i = 1) with rfl | rfl <;> rfl
      have hro := rounds_any F M [44] (by decide) (by decide) lb 0 lc gb 0 gc fb rd inp [] hin2 hin (by rw [HR.out, List.nil_append]; exact hbig) wr f1 ((b1.cell (p := ⟨lb, 0, none⟩) hlb6).trans HC6.out) ⟨hMl, by omega, by omega⟩ hg2 ⟨hMg, d2, d1⟩
      rw [HR.out, List.nil_append] at hro
      have HO1 := Lib.hid o1
      have HB1' := Lib.hid (HB6.out.trans (b1.mono HB6.out.size))
      clear f1 b1 o1 hg2
      go_wp2_with fail
      refine hro.mono ?_
      rintro e w11 ⟨rfl, M', hf11, hm11⟩
      obtain ⟨inp', hp11⟩ := hf11.pr
      have HMAIN := Lib.hid (show MainC F M OUT w (.returned (.int .i64 0)) w11 from
        ⟨inp', M', rfl, hp11, ⟨(Kept.of_below HB1'.out).trans' hm11.1 fun k hk e => by
          rcases e with e | e | e
          · exact e
          · omega
          · omega, fun j hj => by
          rcases hm11.2 j hj with e | e
          · exact .inl e
          · have := HB1'.out.size; exact .inr (by omega)⟩⟩)
      have hfa := failed_any fb gb 0 2 gc (by decide) w11 hf11.err fun i hi => by
        have ho := own_kept HO1.out hm11.1 fun k hk e => by
          obtain rfl : gb = k := by simpa [Value.ownBlock] using hk
          rcases e with e | e | e
          · exact hMg e
          · exact d1 e
          · exact d2 e
        rw [Nat.zero_add, ho.cellAt i (by simpa using hi)]
        rcases (by omega : i = 0 ∨ i = 1) with rfl | rfl <;> rfl
      clear hro hf11 hm11 hp11
      go_wp2_with fail
      refine hfa.mono ?_
      rintro e w12 ⟨rfl, rfl⟩
      go_wp2_with fail
      go_ret
      exact HMAIN.out

end Go.Proofs.YtjdcjdclipbjhaaGreatDoor

/-
  The walk of maps.Keys' iterator over an empty map. Condition: the map is empty.
-/
namespace Go.Proofs.YtjdcjdclipbjhaaGreatDoor
open Go.RowKit Go.Shelf Go.Maps

/-- A range over an empty map: it begins, and has no entry. -/
theorem range_empty (w : World) (a : Nat) (ha : w.heap[a]? = some (.map #[] 0)) : (Instr.range 203 (.map (some a))).run Tryz.prog w = .ok (.pointer (some ⟨w.heap.size, 0, none⟩)) (w.alloc (.mapIter (some a) 0 #[] 0)) :=
  run_range_map w _ _ _ a #[] 0 Tryz.underlying203 ha
theorem next_empty (w : World) (ty : TypeId) (a r : Nat) (hr : w.heap[r]? = some (.mapIter (some a) 0 #[] 0)) (ha : w.heap[a]? = some (.map #[] 0)) : (Instr.next (.pointer (some ⟨r, 0, none⟩)) false ty).run Tryz.prog w = .ok (.tuple #[.bool false]) w := by
  rcases run_next_at (P := Tryz.prog) w ty r a 0 0 #[] #[] 0 hr ha (by simp) (Nat.le_refl _) with h | ⟨e, he, -⟩
  · exact h.2
  · simp [leftOf] at he

set_option maxRecDepth 100000 in
set_option maxHeartbeats 2000000 in
theorem keys1_calls (l Bn a : Nat) (W : World) (hB : W.cell? ⟨Bn, 0, none⟩ = some (.map (some a))) (ha : W.heap[a]? = some (.map #[] 0)) :
    Calls Tryz.prog 242 #[.func (.yield l) #[] #[], .pointer (some ⟨Bn, 0, none⟩)] W fun e W' => (∃ v, e = .returned v) ∧ W' = W.alloc (.mapIter (some a) 0 #[] 0) := by
  have hr := range_empty W a ha
  obtain ⟨w1, hw1⟩ : ∃ w1, W.alloc (.mapIter (some a) 0 #[] 0) = w1 := ⟨_, rfl⟩
  have hn : ∀ ty, (Instr.next (.pointer (some ⟨W.heap.size, 0, none⟩)) false ty).run Tryz.prog w1 = .ok (.tuple #[.bool false]) w1 := fun ty => next_empty w1 ty a W.heap.size (by rw [← hw1]; exact heap_alloc_new W _) (by rw [← hw1, heap_alloc_old W _ (lt_of_heap ha)]; exact ha)
  rw [hw1] at hr ⊢
  clear hw1
  go_enter Tryz.func242, Tryz.ntmps242
  go_wp2_with fail
  go_loopw [3] (fun _x3 wr => wr = w1) (fun _ _ => 0)
  case atStart => rfl
  case round =>
    obtain rfl := hrel
    go_wp2_with fail
    go_end0
    exact ⟨⟨_, rfl⟩, rfl⟩

end Go.Proofs.YtjdcjdclipbjhaaGreatDoor

/-
  The walks of slices.AppendSeq, Collect, Sorted over the keys of an empty map; of a directory's sorted names, of which there are none.
-/
namespace Go.Proofs.YtjdcjdclipbjhaaGreatDoor
open Go.RowKit Go.Shelf Go.Maps
attribute [local go_sem] Oper.semAt_some

/-- The iterator's contract: no round. -/
theorem keys1_stops (k n₀ Bn a : Nat) (w : World) (hB : w.cell? ⟨Bn, 0, none⟩ = some (.map (some a))) (ha : w.heap[a]? = some (.map #[] 0)) :
    SeqStopsK Fence.wide k Tryz.prog 242 #[.pointer (some ⟨Bn, 0, none⟩)] (fun v : ByteArray => #[Value.string v]) (Below n₀) (fun xs => xs = []) (fun _ => False) 0 w := by
  intro l J Jx W hW hJ _ _ h0
  have hl1 : Bn < w.heap.size := World.block_lt_of_cell? _ _ hB
  refine callsIn_wide.2 ((keys1_calls l Bn a W ((hW.cell (p := ⟨Bn, 0, none⟩) hl1).trans hB) ((hW.block a (lt_of_heap ha)).trans ha)).mono ?_)
  rintro e W' ⟨he, rfl⟩
  exact ⟨he, .inl ⟨[], rfl, hJ _ _ _ none h0 (World.grownBy_alloc _ _ none) (fun r e => by cases e)⟩⟩

set_option maxRecDepth 100000 in
set_option maxHeartbeats 2000000 in
theorem appendSeq_none (Bn a : Nat) (w : World) (hB : w.cell? ⟨Bn, 0, none⟩ = some (.map (some a))) (ha : w.heap[a]? = some (.map #[] 0)) :
    Calls Tryz.prog 277 #[.slice none 0 0, .func (.func 242) #[] #[.pointer (some ⟨Bn, 0, none⟩)]] w fun e w' => e = .returned (.slice none 0 0) ∧ Below w.heap.size w w' := by
  refine callsIn_wide.1 (callsIn_of_wp_marks (n := 2) Tryz.func277 rfl trivial ?_ rfl)
  simp only [Tryz.ntmps277, List.size_toArray, List.length_cons, List.length_nil, Nat.reduceAdd, Nat.reduceSub, Array.replicate_succ, Array.replicate_zero, List.push_toArray, List.append_toArray, List.nil_append, List.cons_append]
  gi_wp2
  have hx0 := one_new w (.slice none 0 0) 37
  have hB0 : Below w.heap.size w (w.alloc (.cells #[.slice none 0 0] 37)) := (Below.refl _ w).alloc (Nat.le_refl _) _
  have aB := (hB0.cell (p := ⟨Bn, 0, none⟩) (World.block_lt_of_cell? _ _ hB)).trans hB
  have aa := (hB0.block a (lt_of_heap ha)).trans ha
  refine wpIn_rangeFunc_ownF rfl (by decide) (gf := 242) (lb := #[.pointer (some ⟨Bn, 0, none⟩)]) rfl trivial (enters_of Tryz.func242 (by kernel_rfl) rfl)
    (keys1_stops 1 w.heap.size Bn a _ aB aa) belowK_t (belowK_b (by simp)) (Below.refl _ _) (fun _ => rfl)
    (fun pre W => (W.cell? ⟨w.heap.size, 0, none⟩ = some (.slice none 0 0)) ∧ Below w.heap.size w W)
    (fun _ _ _ => False)
    (OwnFrom.and (Own.from (fun s A B row hs hg hr => cell_kept hs hg hr) _) (ownFrom_below (Nat.le_refl _) (by simp)))
    (fun _ _ _ _ _ hs _ _ => hs)
    ⟨hx0.1, hB0⟩
    (fun v => { tmps := #[.slice none 0 0, .func (.func 242) #[] #[.pointer (some ⟨Bn, 0, none⟩)], .pointer (some ⟨w.heap.size, 0, none⟩), undef, .slice none 0 0, .string v, .func (.func 242) #[] #[.pointer (some ⟨Bn, 0, none⟩)], .string v, undef, undef, undef, undef, undef], defers := [] }) ?assign ?body ?done ?stop
  case assign =>
    intro l v W K hK
    gi_wp2
    exact hK
  case body =>
    intro l pre v W _ hl
    exact absurd hl (Nat.not_lt_zero _)
  case done =>
    rintro D ys W hD rfl ⟨c0, hB⟩ hK
    gi_wp2
    refine ⟨by simp, .inl ⟨_, _, rfl, run_takeDeferred hK, ?_⟩⟩
    refine ⟨.slice none 0 0, ?_, rfl, hB.trans (belowK_b (w := w) (Nat.le_refl _) _ D _ _ (by simp at hD; omega) hK rfl rfl)⟩
    simp [results, Tryz.results277, go_sem]
  case stop =>
    rintro D c pre W _ h _ _
    exact h.elim

end Go.Proofs.YtjdcjdclipbjhaaGreatDoor

/-
  The walks of slices.Collect, Sorted over no keys; of a directory's sorted names, of which there are none.
-/
namespace Go.Proofs.YtjdcjdclipbjhaaGreatDoor
open Go.RowKit Go.Shelf Go.Maps

set_option maxRecDepth 100000 in
theorem collect_none (Bn a : Nat) (w : World) (hB : w.cell? ⟨Bn, 0, none⟩ = some (.map (some a))) (ha : w.heap[a]? = some (.map #[] 0)) :
    Calls Tryz.prog 240 #[.func (.func 242) #[] #[.pointer (some ⟨Bn, 0, none⟩)]] w fun e w' => e = .returned (.slice none 0 0) ∧ Below w.heap.size w w' := by
  have c := appendSeq_none Bn a w hB ha
  clear hB ha
  go_enter Tryz.func240, Tryz.ntmps240
  go_wp2_with fail
  refine c.mono ?_
  rintro e w1 ⟨rfl, hb⟩
  have HB := Lib.hid hb
  clear hb c
  go_wp2_with fail
  go_ret
  exact ⟨rfl, HB.out⟩

set_option maxRecDepth 100000 in
theorem sorted_none (Bn a : Nat) (w : World) (hB : w.cell? ⟨Bn, 0, none⟩ = some (.map (some a))) (ha : w.heap[a]? = some (.map #[] 0)) :
    Calls Tryz.prog 190 #[.func (.func 242) #[] #[.pointer (some ⟨Bn, 0, none⟩)]] w fun e w' => e = .returned (.slice none 0 0) ∧ Below w.heap.size w w' := by
  have c := collect_none Bn a w hB ha
  clear hB ha
  go_enter Tryz.func190, Tryz.ntmps190
  go_wp2_with fail
  refine c.mono ?_
  rintro e w1 ⟨rfl, hb⟩
  have HB := Lib.hid hb
  clear hb c
  go_wp2_with fail
  refine (Any.slices_Sort_string_none Tryz.lays190 none 0 _).mono ?_
  rintro e w2 ⟨rfl, rfl⟩
  go_wp2_with fail
  go_ret
  exact ⟨rfl, HB.out⟩

set_option maxRecDepth 100000 in
theorem itemSorted_none (r a : Nat) (w : World) (hr : w.cell? ⟨r, 5, none⟩ = some (.map (some a))) (ha : w.heap[a]? = some (.map #[] 0)) :
    Calls Tryz.prog 144 #[.pointer (some ⟨r, 0, none⟩)] w fun e w' => e = .returned (.slice none 0 0) ∧ Below w.heap.size w w' := by
  have hmf : ∀ (fn : Fn) (first cap : Array Value) (w : World), (Instr.makeFunc fn first cap).run Tryz.prog w = .ok (.func fn first cap) w := fun _ _ _ _ => rfl
  have hk : Calls Tryz.prog 191 #[.map (some a)] w fun e w' => e = .returned (.func (.func 242) #[] #[.pointer (some ⟨w.heap.size, 0, none⟩)]) ∧ w' = w.alloc (.cells #[.map (some a)] 203) := by
    go_enter Tryz.func191, Tryz.ntmps191
    go_wp2_with fail
    go_ret
    exact ⟨rfl, rfl⟩
  have hlt := lt_of_heap ha
  have hs := sorted_none w.heap.size a (w.alloc (.cells #[.map (some a)] 203)) (one_new w _ _).1 ((Below.heap_alloc _ _ _ hlt).trans ha)
  clear ha
  go_enter Tryz.func144, Tryz.ntmps144
  go_wp2_with fail
  refine hk.mono ?_
  rintro e w1 ⟨rfl, rfl⟩
  go_wp2_with fail
  refine hs.mono ?_
  rintro e w2 ⟨rfl, hb⟩
  have HB := Lib.hid (below_new hb)
  clear hb hs hk
  go_wp2_with fail
  go_ret
  exact ⟨rfl, HB.out⟩

end Go.Proofs.YtjdcjdclipbjhaaGreatDoor

/-
  The walks of a directory's walk, of its iterator: no entries. Condition: the directory has no names.
-/
namespace Go.Proofs.YtjdcjdclipbjhaaGreatDoor
open Go.RowKit Go.Shelf Go.Maps
attribute [local go_sem] Oper.semAt_some

set_option maxRecDepth 100000 in
set_option maxHeartbeats 2000000 in
theorem walk1_calls (l B1 B2 r a : Nat) (W : World) (h1 : W.cell? ⟨B1, 0, none⟩ = some (.pointer (some ⟨r, 0, none⟩))) (hr : W.cell? ⟨r, 5, none⟩ = some (.map (some a))) (ha : W.heap[a]? = some (.map #[] 0)) :
    Calls Tryz.prog 143 #[.func (.yield l) #[] #[], .pointer (some ⟨B1, 0, none⟩), .pointer (some ⟨B2, 0, none⟩)] W fun e W' => (∃ v, e = .returned v) ∧ Below W.heap.size W W' := by
  have hs := fun o => itemSorted_none r a (W.alloc o) (new_cell hr o) ((Below.heap_alloc _ _ _ (lt_of_heap ha)).trans ha)
  have h1' := fun o => new_cell h1 o
  clear ha hr
  go_enter Tryz.func143, Tryz.ntmps143
  go_wp2_with fail
  refine (hs _).mono ?_
  rintro e w1 ⟨rfl, hb⟩
  have HB := Lib.hid (below_new hb)
  clear hb hs
  go_wp2_with fail
  go_loopw [5, 6, 7, 8, 12] (fun _x5 _x6 _x7 _x8 i wr => i = .int .i64 0 ∧ wr = w1) (fun _ _ _ _ _ _ => 0)
  case atStart => exact ⟨rfl, rfl⟩
  case round =>
    obtain ⟨rfl, rfl⟩ := hrel
    go_wp2_with fail
    go_end0
    exact ⟨⟨_, rfl⟩, HB.out⟩

end Go.Proofs.YtjdcjdclipbjhaaGreatDoor

/-
  The walks of slices.SortFunc of no elements; of a directory's walk. Condition: there is nothing to be sorted.
-/
namespace Go.Proofs.YtjdcjdclipbjhaaGreatDoor
open Go.RowKit Go.Shelf Go.Maps
attribute [local go_sem] Oper.semAt_some

set_option maxRecDepth 100000 in
set_option maxHeartbeats 2000000 in
theorem len0_any (w : World) : Calls Tryz.prog 146 #[.int .u64 0] w fun e w' => (∃ n, e = .returned (.int .i64 n)) ∧ w' = w := by
  have h : Calls Tryz.prog 125 #[.int .u64 0] w fun e w' => (∃ n, e = .returned (.int .i64 n)) ∧ w' = w := by
    go_enter Tryz.func125, Tryz.ntmps125
    go_wp2_with fail
    go_ret
    exact ⟨⟨_, rfl⟩, rfl⟩
  go_enter Tryz.func146, Tryz.ntmps146
  go_wp2_with fail
  refine h.mono ?_
  rintro e w1 ⟨⟨n, rfl⟩, rfl⟩
  go_wp2_with fail
  go_ret
  exact ⟨⟨_, rfl⟩, rfl⟩

set_option maxRecDepth 100000 in
set_option maxHeartbeats 2000000 in
theorem sortNone_any (f : Value) (w : World) : Calls Tryz.prog 86 #[.slice none 0 0, f] w fun e w' => (∃ v, e = .returned v) ∧ w' = w := by
  have hi : ∀ w, Calls Tryz.prog 192 #[.slice none 0 0, .int .i64 0, .int .i64 0, f] w fun e w' => (∃ v, e = .returned v) ∧ w' = w := by
    intro w
    go_enter Tryz.func192, Tryz.ntmps192
    go_wp2_with fail
    go_loopw [8, 9] (fun x8 _x9 wr => x8 = .int .i64 1 ∧ wr = w) (fun _ _ _ => 0)
    case atStart => exact ⟨rfl, rfl⟩
    case round =>
      obtain ⟨rfl, rfl⟩ := hrel
      go_wp2_with fail
      go_end0
      exact ⟨⟨_, rfl⟩, rfl⟩
  have hp : ∀ (n : Int) w, Calls Tryz.prog 145 #[.slice none 0 0, .int .i64 0, .int .i64 0, .int .i64 n, f] w fun e w' => (∃ v, e = .returned v) ∧ w' = w := by
    intro n w
    have hi' := hi
    go_enter Tryz.func145, Tryz.ntmps145
    go_wp2_with fail
    go_loopw [1, 2, 3, 10, 11, 12, 13, 14, 15, 16, 17, 18, 19, 20] (fun x1 x2 x3 x10 x11 _x12 _x13 _x14 _x15 _x16 _x17 _x18 _x19 _x20 wr => x1 = .int .i64 0 ∧ x2 = .int .i64 0 ∧ x3 = .int .i64 n ∧ x10 = .bool true ∧ x11 = .bool true ∧ wr = w) (fun _ _ _ _ _ _ _ _ _ _ _ _ _ _ _ => 0)
    case atStart => exact ⟨rfl, rfl, rfl, rfl, rfl, rfl⟩
    case round =>
      obtain ⟨rfl, rfl, rfl, rfl, rfl, rfl⟩ := hrel
      go_wp2_with fail
      refine (hi' _).mono ?_
      rintro e w1 ⟨⟨u, rfl⟩, rfl⟩
      go_wp2_with fail
      (try simp only [Exit.inBlock, Exit.then])
      exact bodyPost_ret (results_none rfl _ _ _) rfl ⟨⟨_, rfl⟩, rfl⟩
  go_enter Tryz.func86, Tryz.ntmps86
  go_wp2_with fail
  refine (len0_any _).mono ?_
  rintro e w1 ⟨⟨n, rfl⟩, rfl⟩
  go_wp2_with fail
  refine (hp _ _).mono ?_
  rintro e w2 ⟨⟨u, rfl⟩, rfl⟩
  go_wp2_with fail
  exact bodyPost_end (results_none rfl _ _ _) rfl ⟨⟨_, rfl⟩, rfl⟩

end Go.Proofs.YtjdcjdclipbjhaaGreatDoor

/-
  The walk of tree.Dump at a tree of the root alone. Condition: the tree has the root alone.
-/
namespace Go.Proofs.YtjdcjdclipbjhaaGreatDoor
open Go.RowKit Go.Shelf Go.Maps
attribute [local go_sem] Oper.semAt_some

theorem walk_any (r : Nat) (w : World) : Calls Tryz.prog 85 #[.pointer (some ⟨r, 0, none⟩), .string ⟨#[]⟩] w fun e w' => e = .returned (.func (.func 143) #[] #[.pointer (some ⟨w.heap.size, 0, none⟩), .pointer (some ⟨w.heap.size + 1, 0, none⟩)]) ∧ w' = (w.alloc (.cells #[.pointer (some ⟨r, 0, none⟩)] 193)).alloc (.cells #[.string ⟨#[]⟩] 9) := by
  have hmf : ∀ (fn : Fn) (first cap : Array Value) (w : World), (Instr.makeFunc fn first cap).run Tryz.prog w = .ok (.func fn first cap) w := fun _ _ _ _ => rfl
  go_enter Tryz.func85, Tryz.ntmps85
  go_wp2_with fail
  go_ret
  exact ⟨rfl, rfl⟩

theorem walk1_stops (k n₀ B1 B2 r a : Nat) (w : World) (h1 : w.cell? ⟨B1, 0, none⟩ = some (.pointer (some ⟨r, 0, none⟩))) (hr : w.cell? ⟨r, 5, none⟩ = some (.map (some a))) (ha : w.heap[a]? = some (.map #[] 0)) :
    SeqStopsK Fence.wide k Tryz.prog 143 #[.pointer (some ⟨B1, 0, none⟩), .pointer (some ⟨B2, 0, none⟩)] (fun v : ByteArray × Nat => #[Value.string v.1, Value.pointer (some ⟨v.2, 0, none⟩)]) (Below n₀) (fun xs => xs = []) (fun _ => False) 0 w := by
  intro l J Jx W hW hJ _ _ h0
  refine callsIn_wide.2 ((walk1_calls l B1 B2 r a W ((hW.cell (p := ⟨B1, 0, none⟩) (World.block_lt_of_cell? _ _ h1)).trans h1) ((hW.cell (p := ⟨r, 5, none⟩) (World.block_lt_of_cell? _ _ hr)).trans hr) ((hW.block a (lt_of_heap ha)).trans ha)).mono ?_)
  rintro e W' ⟨he, hb⟩
  exact ⟨he, .inl ⟨[], rfl, hJ _ _ _ none h0 ⟨hb.os, hb.tape, hb.output, hb.size, fun k hk _ => hb.block k hk⟩ (fun r e => by cases e)⟩⟩

set_option maxRecDepth 100000 in
set_option maxHeartbeats 2000000 in
theorem dump_none (t r a b : Nat) (w : World) (h : TreeAt w t r a b) :
    Calls Tryz.prog 51 #[.pointer (some ⟨t, 0, none⟩)] w fun e w' => e = .returned (.slice none 0 0) ∧ Below w.heap.size w w' := by
  have c0 := new_cell (h.1.cell 0 (v := .pointer (some ⟨r, 0, none⟩)) rfl) (.cells #[.slice none 0 0] 190)
  have hr := h.2.1.cell 5 (v := .map (some a)) rfl
  have ha := h.2.2.1
  clear h
  refine callsIn_wide.1 (callsIn_of_wp_marks (n := 2) Tryz.func51 rfl trivial ?_ rfl)
  simp only [Tryz.ntmps51, List.size_toArray, List.length_cons, List.length_nil, Nat.reduceAdd, Nat.reduceSub, Array.replicate_succ, Array.replicate_zero, List.push_toArray, List.append_toArray, List.nil_append, List.cons_append]
  gi_wp2_with (refine ⟨trivial, ?_⟩; gi_at_call 85; refine (callsIn_wide.2 (walk_any r _)).mono ?_; rintro e w' ⟨rfl, rfl⟩)
  have hx0 := one_new w (.slice none 0 0) 190
  have hx1 := one_new (w.alloc (.cells #[.slice none 0 0] 190)) (.pointer (some ⟨r, 0, none⟩)) 193
  simp only [World.size_alloc] at hx1
  have a0 := new_cell (new_cell hx0.1 (.cells #[.pointer (some ⟨r, 0, none⟩)] 193)) (.cells #[.string ⟨#[]⟩] 9)
  have a1 := new_cell hx1.1 (.cells #[.string ⟨#[]⟩] 9)
  have hB0 : Below w.heap.size w (((w.alloc (.cells #[.slice none 0 0] 190)).alloc (.cells #[.pointer (some ⟨r, 0, none⟩)] 193)).alloc (.cells #[.string ⟨#[]⟩] 9)) := (((Below.refl _ w).alloc (Nat.le_refl _) _).alloc (by simp) _).alloc (by simp; omega) _
  have ar := (hB0.cell (p := ⟨r, 5, none⟩) (World.block_lt_of_cell? _ _ hr)).trans hr
  have aa := (hB0.block a (lt_of_heap ha)).trans ha
  refine wpIn_rangeFunc_ownF rfl (by decide) (gf := 143) (lb := #[.pointer (some ⟨w.heap.size + 1, 0, none⟩), .pointer (some ⟨w.heap.size + 1 + 1, 0, none⟩)]) rfl trivial (enters_of Tryz.func143 (by kernel_rfl) rfl)
    (walk1_stops 1 w.heap.size (w.heap.size + 1) (w.heap.size + 1 + 1) r a _ a1 ar aa) belowK_t (belowK_b (by simp; omega)) (Below.refl _ _) (fun _ => rfl)
    (fun pre W => (W.cell? ⟨w.heap.size, 0, none⟩ = some (.slice none 0 0)) ∧ Below w.heap.size w W)
    (fun _ _ _ => False)
    (OwnFrom.and (Own.from (fun s A B row hs hg hr => cell_kept hs hg hr) _) (ownFrom_below (Nat.le_refl _) (by simp; omega)))
    (fun _ _ _ _ _ hs _ _ => hs)
    ⟨a0, hB0⟩
    (fun v => { tmps := #[.pointer (some ⟨t, 0, none⟩), undef, .slice none 0 0, .pointer (some ⟨w.heap.size, 0, none⟩), .string v.1, .pointer (some ⟨v.2, 0, none⟩), undef, undef, undef, undef, undef, undef, .pointer (some ⟨t, 0, none⟩), .pointer (some ⟨t, 0, none⟩), .pointer (some ⟨t, 0, none⟩), .pointer (some ⟨r, 0, none⟩), .func (.func 143) #[] #[.pointer (some ⟨w.heap.size + 1, 0, none⟩), .pointer (some ⟨w.heap.size + 1 + 1, 0, none⟩)], .string v.1, .pointer (some ⟨v.2, 0, none⟩), undef, undef, undef, undef, undef, undef, undef, undef, undef, undef, undef, undef, undef, undef, undef, undef, undef, undef, undef, undef, undef, undef, undef, undef, undef, undef, undef, undef, undef, undef, undef, undef, undef, undef, undef, undef, undef, undef, undef, undef, undef, undef, undef, undef, undef, undef, undef, undef, undef, undef, undef, undef, undef, undef, undef, undef, undef, undef, undef, undef, undef], defers := [] }) ?assign ?body ?done ?stop
  case assign =>
    intro l v W K hK
    gi_wp2
    exact hK
  case body =>
    intro l pre v W _ hl
    exact absurd hl (Nat.not_lt_zero _)
  case done =>
    rintro D ys W hD rfl ⟨q0, hB⟩ hK
    have q1 := new_cell q0 (.map #[] 0)
    have hmk : ∀ W, (Instr.makeMap 202 none).run Tryz.prog W = .ok (.map (some W.heap.size)) (W.alloc (.map #[] 0)) := fun _ => rfl
    gi_wp2_with (refine ⟨trivial, ?_⟩; gi_at_call 86; refine (callsIn_wide.2 (sortNone_any _ _)).mono ?_; rintro e w' ⟨⟨u, rfl⟩, rfl⟩)
    gi_loopw [7, 8, 9, 10, 11, 30] (fun x7 _x8 _x9 _x10 _x11 i wr => x7 = .slice none 0 0 ∧ i = .int .i64 0 ∧ wr = w'.alloc (.map #[] 0)) (fun _ _ _ _ _ _ _ => 0)
    case atStart => exact ⟨rfl, rfl, rfl⟩
    case round =>
      obtain ⟨rfl, rfl, rfl⟩ := hrel
      gi_wp2
      have hDl := lt_of_heap hK
      have hK2 : (w'.alloc (.map #[] 0)).heap[D]? = some (.deferred (some [])) := (Below.heap_alloc _ _ _ hDl).trans hK
      refine ⟨by simp, .inl ⟨_, _, rfl, run_takeDeferred hK2, ?_⟩⟩
      refine ⟨.slice none 0 0, ?_, rfl, (hB.alloc hB.size _).trans (belowK_b (w := w) (Nat.le_refl _) _ D _ _ (by simp at hD; omega) hK2 rfl rfl)⟩
      simp [results, Tryz.results51, go_sem]
  case stop =>
    rintro D c pre W _ h _ _
    exact h.elim

end Go.Proofs.YtjdcjdclipbjhaaGreatDoor
