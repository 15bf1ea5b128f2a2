/-
  The walk of awake. Condition: the two of strconv's errors have their values.
-/
import Derived.Test.YtnhopkjichgckaaDoorW14
import Derived.Lib.SmallJoins
namespace Go.Proofs.YtnhopkjichgckaaDoor
open Go.RowKit Go.Shelf

def ordF : Ord.Ordr := ⟨8, -1, [⟨⟨1, 0⟩, ⟨0, 0⟩, 8⟩]⟩
theorem read_f : Ord.readAll [(102, [])] = some ordF := by kernel_rfl
theorem ex1 : comparesVal [] [98] [97] = 1 := by kernel_rfl
theorem ex2 : comparesVal [(110, [])] [49, 48] [57] = 1 := by kernel_rfl
theorem ex3 : comparesVal [(107, [50])] [120, 32, 97] [97, 32, 98] = -1 := by kernel_rfl
theorem ex4 : comparesVal [(116, [58]), (107, [50, 46, 50, 110, 44, 50])] [97, 58, 120, 49, 48] [98, 58, 120, 57] = 1 := by kernel_rfl
theorem ex5 : Ord.keysCmp ordF.sep [97] [65] ordF.keys = 0 := by kernel_rfl
theorem ex6 : 0 < Ord.compare ordF [97] [65] := by have : Ord.compare ordF [97] [65] = 1 := by kernel_rfl
                                                   omega
theorem ex7 : comparesVal [(107, [48])] [97] [98] = 2 := by kernel_rfl

theorem bs_mark (w : World) (c : UInt8) (t : TypeId) (fr : Nat × Nat) (n : Nat) (hn : n = w.heap.size) : Bs (w.alloc (.cells #[.int .u8 c.toNat] t fr)) (some ⟨n, 0, none⟩) [c] := by
  intro _
  refine ⟨_, 0, rfl, fun i hi => ?_⟩
  obtain rfl : i = 0 := by simp at hi; omega
  rw [Joins.cell_alloc_mark_at w _ t fr n _ hn]; rfl

theorem fitF : (∀ k ∈ ordF.keys, FitKey k) ∧ -1 ≤ ordF.sep ∧ ordF.sep < 256 := readAll_fit read_f

set_option maxHeartbeats 3200000 in
set_option maxRecDepth 100000 in
theorem awake_any (w : World) (hg : Glo w) (hB : 8 ≤ w.heap.size) :
    Calls Tryd.prog 6 #[] w fun e w' => e = .returned (.bool true) ∧ Below w.heap.size w w' := by
  have hgl : ∀ W, Below w.heap.size w W → Glo W ∧ 8 ≤ W.heap.size := fun W h => ⟨hg.below h hB, Nat.le_trans hB h.size⟩
  go_enter Tryd.func6, Tryd.ntmps6
  go_wp2_with fail
  refine (opts_is [102] [] [] [(102, [])] rfl none 0 w (StrsIn.nil _ _) (by decide) (by decide)).mono ?_
  rintro e w1 ⟨⟨q1, c1, rfl, hol1⟩, hb1⟩
  go_wp2_with fail
  have hread := Read_any [(102, [])] q1 c1 (by decide) (fun i => by cases i <;> simp) w1 hol1 (hgl _ hb1).1 (hgl _ hb1).2
  unfold ReadPost at hread
  rw [read_f] at hread
  refine hread.mono ?_
  rintro e w2 ⟨⟨ob, rfl, hob, hoa⟩, hb2⟩
  have HB2 := Lib.hid (hb1.trans (hb2.mono hb1.size))
  have HOA := Lib.hid hoa
  clear hread hoa hb1 hb2 hol1
  go_wp2_with fail
  have hc1 := compares_any [] none 0 [98] [97] w2 (OptsIn.nil _ _) (hgl _ HB2.out).1 (hgl _ HB2.out).2 (by decide) (fun i => by cases i <;> simp) (by decide) (by decide)
  rw [ex1] at hc1
  refine hc1.mono ?_
  rintro e w3 ⟨rfl, hb3⟩
  have HB3 := Lib.hid (HB2.out.trans (hb3.mono HB2.out.size))
  have HO3 := Lib.hid (HOA.out.keep hb3)
  clear hc1 hb3 HB2 HOA
  go_wp2_with fail
  refine (opts_is [110] [] [] [(110, [])] rfl _ _ _ (StrsIn.nil _ _) (by decide) (by decide)).mono ?_
  rintro e w4 ⟨⟨q4, c4, rfl, hol4⟩, hb4⟩
  have HB4 := Lib.hid (HB3.out.trans (hb4.mono HB3.out.size))
  have HO4 := Lib.hid (HO3.out.keep hb4)
  clear hb4 HB3 HO3
  go_wp2_with fail
  have hc5 := compares_any [(110, [])] q4 c4 [49, 48] [57] w4 hol4 (hgl _ HB4.out).1 (hgl _ HB4.out).2 (by decide) (fun i => by rcases i with _ | _ | i <;> simp) (by decide) (by decide)
  rw [ex2] at hc5
  refine hc5.mono ?_
  rintro e w5 ⟨rfl, hb5⟩
  have HB5 := Lib.hid (HB4.out.trans (hb5.mono HB4.out.size))
  have HO5 := Lib.hid (HO4.out.keep hb5)
  clear hc5 hb5 HB4 HO4 hol4
  have hk6 := strs_one w5 [50] 9
  have hba6 : Below w5.heap.size w5 (w5.alloc (.cells #[.string ⟨([50] : Ord.Bytes).toArray⟩] 9)) := (Below.refl _ _).alloc (Nat.le_refl _) _
  go_wp2_with fail
  refine (opts_is [] [] [[50]] [(107, [50])] rfl _ _ _ hk6 (by decide) (by decide)).mono ?_
  rintro e w6 ⟨⟨q6, c6, rfl, hol6⟩, hb6⟩
  have HB6 := Lib.hid ((HB5.out.trans (hba6.mono HB5.out.size)).trans (hb6.mono (Nat.le_trans HB5.out.size hba6.size)))
  have HO6 := Lib.hid ((HO5.out.keep hba6).keep hb6)
  clear hb6 hba6 hk6 HB5 HO5
  go_wp2_with fail
  have hc7 := compares_any [(107, [50])] q6 c6 [120, 32, 97] [97, 32, 98] w6 hol6 (hgl _ HB6.out).1 (hgl _ HB6.out).2 (by decide) (fun i => by rcases i with _ | _ | i <;> simp) (by decide) (by decide)
  rw [ex3] at hc7
  refine hc7.mono ?_
  rintro e w7 ⟨rfl, hb7⟩
  have HB7 := Lib.hid (HB6.out.trans (hb7.mono HB6.out.size))
  have HO7 := Lib.hid (HO6.out.keep hb7)
  clear hc7 hb7 HB6 HO6 hol6
  have hk8 := strs_one w7 [50, 46, 50, 110, 44, 50] 9
  have hba8 : Below w7.heap.size w7 (w7.alloc (.cells #[.string ⟨([50, 46, 50, 110, 44, 50] : Ord.Bytes).toArray⟩] 9)) := (Below.refl _ _).alloc (Nat.le_refl _) _
  go_wp2_with fail
  refine (opts_is [] [58] [[50, 46, 50, 110, 44, 50]] [(116, [58]), (107, [50, 46, 50, 110, 44, 50])] rfl _ _ _ hk8 (by decide) (by decide)).mono ?_
  rintro e w8 ⟨⟨q8, c8, rfl, hol8⟩, hb8⟩
  have HB8 := Lib.hid ((HB7.out.trans (hba8.mono HB7.out.size)).trans (hb8.mono (Nat.le_trans HB7.out.size hba8.size)))
  have HO8 := Lib.hid ((HO7.out.keep hba8).keep hb8)
  clear hb8 hba8 hk8 HB7 HO7
  go_wp2_with fail
  have hc9 := compares_any [(116, [58]), (107, [50, 46, 50, 110, 44, 50])] q8 c8 [97, 58, 120, 49, 48] [98, 58, 120, 57] w8 hol8 (hgl _ HB8.out).1 (hgl _ HB8.out).2 (by decide) (fun i => by rcases i with _ | _ | i <;> simp) (by decide) (by decide)
  rw [ex4] at hc9
  refine hc9.mono ?_
  rintro e w9 ⟨rfl, hb9⟩
  have HB9 := Lib.hid (HB8.out.trans (hb9.mono HB8.out.size))
  have HO9 := Lib.hid (HO8.out.keep hb9)
  clear hc9 hb9 HB8 HO8 hol8
  have hv10 := Joins.run_convert_bytes_const_at (P := Tryd.prog) w9 23 5 #[.int .u8 97] 1 1 w9.heap.size rfl Tryd.underlying23 Tryd.underlying5
  have hv10' := Joins.run_convert_bytes_const_at (P := Tryd.prog) (w9.alloc (.cells #[.int .u8 97] 5 (1, 2))) 23 5 #[.int .u8 65] 1 1 (w9.heap.size + 1) (by simp) Tryd.underlying23 Tryd.underlying5
  have hba10 : Below w9.heap.size w9 ((w9.alloc (.cells #[.int .u8 97] 5 (1, 2))).alloc (.cells #[.int .u8 65] 5 (1, 2))) := ((Below.refl _ _).alloc (Nat.le_refl _) _).alloc (by simp) _
  have hs10 : Bs ((w9.alloc (.cells #[.int .u8 97] 5 (1, 2))).alloc (.cells #[.int .u8 65] 5 (1, 2))) (some ⟨w9.heap.size, 0, none⟩) [97] := (bs_mark w9 97 5 (1, 2) _ rfl).below ((Below.refl _ _).alloc (Nat.le_refl _) _) (Nat.le_refl _)
  have hs10' := bs_mark (w9.alloc (.cells #[.int .u8 97] 5 (1, 2))) 65 5 (1, 2) (w9.heap.size + 1) (by simp)
  have hc10 := Keys_any ob ordF fitF.1 fitF.2.1 fitF.2.2 [97] [65] _ _ 1 1 _ (HO9.out.keep hba10) hs10 hs10' (by simp) (by simp) (by decide) (by decide) (by decide) (by decide)
  clear hs10 hs10'
  rw [ex5] at hc10
  go_wp2_with fail
  refine hc10.mono ?_
  rintro e w10 ⟨rfl, hb10⟩
  have HB10 := Lib.hid ((HB9.out.trans (hba10.mono HB9.out.size)).trans (hb10.mono (Nat.le_trans HB9.out.size hba10.size)))
  have HO10 := Lib.hid ((HO9.out.keep hba10).keep hb10)
  clear hb10 hba10 hc10 hv10 hv10' HB9 HO9
  have hpos := ex6
  have hv11 := Joins.run_convert_bytes_const_at (P := Tryd.prog) w10 23 5 #[.int .u8 97] 1 1 w10.heap.size rfl Tryd.underlying23 Tryd.underlying5
  have hv11' := Joins.run_convert_bytes_const_at (P := Tryd.prog) (w10.alloc (.cells #[.int .u8 97] 5 (1, 2))) 23 5 #[.int .u8 65] 1 1 (w10.heap.size + 1) (by simp) Tryd.underlying23 Tryd.underlying5
  have hba11 : Below w10.heap.size w10 ((w10.alloc (.cells #[.int .u8 97] 5 (1, 2))).alloc (.cells #[.int .u8 65] 5 (1, 2))) := ((Below.refl _ _).alloc (Nat.le_refl _) _).alloc (by simp) _
  have hs11 : Bs ((w10.alloc (.cells #[.int .u8 97] 5 (1, 2))).alloc (.cells #[.int .u8 65] 5 (1, 2))) (some ⟨w10.heap.size, 0, none⟩) [97] := (bs_mark w10 97 5 (1, 2) _ rfl).below ((Below.refl _ _).alloc (Nat.le_refl _) _) (Nat.le_refl _)
  have hs11' := bs_mark (w10.alloc (.cells #[.int .u8 97] 5 (1, 2))) 65 5 (1, 2) (w10.heap.size + 1) (by simp)
  have hc11 := Compare_any ob ordF fitF.1 fitF.2.1 fitF.2.2 [97] [65] _ _ 1 1 _ (HO10.out.keep hba11) hs11 hs11' (by simp) (by simp) (by decide) (by decide) (by decide) (by decide)
  clear hs11 hs11'
  generalize Ord.compare ordF [97] [65] = x6 at *
  go_wp2_with fail
  refine hc11.mono ?_
  rintro e w11 ⟨rfl, hb11⟩
  have HB11 := Lib.hid ((HB10.out.trans (hba11.mono HB10.out.size)).trans (hb11.mono (Nat.le_trans HB10.out.size hba11.size)))
  have HO11 := Lib.hid ((HO10.out.keep hba11).keep hb11)
  clear hb11 hba11 hc11 hv11 hv11' HB10 HO10
  have hk12 := strs_one w11 [48] 9
  have hba12 : Below w11.heap.size w11 (w11.alloc (.cells #[.string ⟨([48] : Ord.Bytes).toArray⟩] 9)) := (Below.refl _ _).alloc (Nat.le_refl _) _
  go_wp2_with fail
  refine (opts_is [] [] [[48]] [(107, [48])] rfl _ _ _ hk12 (by decide) (by decide)).mono ?_
  rintro e w12 ⟨⟨q12, c12, rfl, hol12⟩, hb12⟩
  have HB12 := Lib.hid ((HB11.out.trans (hba12.mono HB11.out.size)).trans (hb12.mono (Nat.le_trans HB11.out.size hba12.size)))
  have HO12 := Lib.hid ((HO11.out.keep hba12).keep hb12)
  clear hb12 hba12 hk12 HB11 HO11
  go_wp2_with fail
  have hc13 := compares_any [(107, [48])] q12 c12 [97] [98] w12 hol12 (hgl _ HB12.out).1 (hgl _ HB12.out).2 (by decide) (fun i => by rcases i with _ | _ | i <;> simp) (by decide) (by decide)
  rw [ex7] at hc13
  refine hc13.mono ?_
  rintro e w13 ⟨rfl, hb13⟩
  have HB13 := Lib.hid (HB12.out.trans (hb13.mono HB12.out.size))
  have HO13 := Lib.hid (HO12.out.keep hb13)
  clear hc13 hb13 HB12 HO12 hol12
  go_wp2_with fail
  go_ret
  exact ⟨rfl, HB13.out⟩

end Go.Proofs.YtnhopkjichgckaaDoor
