/-
  The walk of OrderNumbers. Condition: the two of strconv's errors have their values.
-/
import Derived.Test.YtnhopkjichgckaaDoorW17
namespace Go.Proofs.YtnhopkjichgckaaDoor
open Go.RowKit Go.Shelf

def ordN : Ord.Ordr := ⟨32, -1, [⟨⟨1, 0⟩, ⟨0, 0⟩, 32⟩]⟩
theorem read_n : Ord.readAll [(110, [])] = some ordN := by kernel_rfl
theorem fitN : (∀ k ∈ ordN.keys, FitKey k) ∧ -1 ≤ ordN.sep ∧ ordN.sep < 256 := readAll_fit read_n

theorem decs_len (n : Nat) : (Ord.decs n).length ≤ n + 1 := by
  induction n using Nat.strongRecOn with
  | ind n ih =>
    by_cases h : n < 10
    · rw [Ord.decs_small n h]; simp
    · rw [Ord.decs_big n h]
      have := ih (n / 10) (by omega)
      simp; omega
theorem written_len (a : Int) (z k : Nat) (h1 : -1000000000 ≤ a) (h2 : a ≤ 1000000000) (hz : z ≤ 50) (hk : k ≤ 50) : (Ord.writtenL a z k).length ≤ 140737488351232 := by
  have := decs_len a.natAbs
  unfold Ord.writtenL
  simp only [List.length_append, List.length_replicate]
  have h3 : (if a < 0 then ([45] : Ord.Bytes) else []).length ≤ 1 := by split <;> simp
  omega

set_option maxHeartbeats 1600000 in
set_option maxRecDepth 100000 in
theorem OrderNumbers_any (a b z k : Int) (w : World) (hg : Glo w) (hB : 8 ≤ w.heap.size) :
    Calls Tryd.prog 4 #[.int .i64 a, .int .i64 b, .int .i64 z, .int .i64 k] w fun e w' => e = .returned (.bool true) ∧ Below w.heap.size w w' := by
  have hgl : ∀ W, Below w.heap.size w W → Glo W ∧ 8 ≤ W.heap.size := fun W h => ⟨hg.below h hB, Nat.le_trans hB h.size⟩
  have hsign := sign_any
  obtain ⟨inr, hinr⟩ : ∃ inr : Bool, inr = decide (-1000000000 ≤ a ∧ a ≤ 1000000000 ∧ -1000000000 ≤ b ∧ b ≤ 1000000000 ∧ 0 ≤ z ∧ z ≤ 50 ∧ 0 ≤ k ∧ k ≤ 50) := ⟨_, rfl⟩
  have HI := Lib.hid hinr; clear hinr
  go_enter Tryd.func4, Tryd.ntmps4
  go_wp2_with fail
  refine (awake_any w hg hB).mono ?_
  rintro e w1 ⟨rfl, hb1⟩
  have HB1 := Lib.hid hb1; clear hb1
  go_upto_region 2 with fail
  go_cut [44] (fun s44 wx => s44 = .bool (!inr) ∧ w1 = wx)
  case first =>
    go_wp2_with fail
    all_goals
      go_meet
      refine ⟨congrArg Value.bool ?_, rfl⟩
      rw [HI.out, Bool.eq_iff_iff]
      simp
      omega
  case rest =>
    obtain ⟨rfl, rfl⟩ := hcut
    cases inr with
    | false =>
      go_wp2_with fail
      go_ret
      exact ⟨rfl, HB1.out⟩
    | true =>
      have hP := of_decide_eq_true HI.out.symm
      obtain ⟨h1, h2, h3, h4, h5, h6, h7, h8⟩ := hP
      obtain ⟨z, rfl⟩ := Int.eq_ofNat_of_zero_le h5
      obtain ⟨k, rfl⟩ := Int.eq_ofNat_of_zero_le h7
      clear HI
      go_wp2_with fail
      refine (written_any a z k w1 h1 h2 (by omega) (by omega)).mono ?_
      rintro e w2 ⟨rfl, hb2⟩
      have HB2 := Lib.hid (HB1.out.trans (hb2.mono HB1.out.size))
      clear hb2 HB1
      go_wp2_with fail
      refine (written_any b 0 0 w2 h3 h4 (by omega) (by omega)).mono ?_
      rintro e w3 ⟨rfl, hb3⟩
      have HB3 := Lib.hid (HB2.out.trans (hb3.mono HB2.out.size))
      clear hb3 HB2
      have hlaw := Ord.numbersLaw a b z k
      have hx := written_len a z k h1 h2 (by omega) (by omega)
      have hy := written_len b 0 0 h3 h4 (by omega) (by omega)
      generalize Ord.writtenL a z k = x at *
      generalize Ord.writtenL b 0 0 = y at *
      go_wp2_with fail
      refine (opts_is [110] [] [] [(110, [])] rfl _ _ _ (StrsIn.nil _ _) (by decide) (by decide)).mono ?_
      rintro e w4 ⟨⟨q4, c4, rfl, hol4⟩, hb4⟩
      have HB4 := Lib.hid (HB3.out.trans (hb4.mono HB3.out.size))
      clear hb4 HB3
      go_wp2_with fail
      have hread := Read_any [(110, [])] q4 c4 (by decide) (fun i => by cases i <;> simp) w4 hol4 (hgl _ HB4.out).1 (hgl _ HB4.out).2
      unfold ReadPost at hread
      rw [read_n] at hread
      refine hread.mono ?_
      rintro e w5 ⟨⟨ob, rfl, hob, hoa⟩, hb5⟩
      have HB5 := Lib.hid (HB4.out.trans (hb5.mono HB4.out.size))
      clear hread hb5 HB4 hol4
      obtain ⟨cx, w6, hc1, hl1, hb6, hs1⟩ := conv_facts x w5
      obtain ⟨cy, w7, hc2, hl2, hb7, hs2⟩ := conv_facts y w6
      have hs1' := hs1.below hb7 (Nat.le_refl _)
      have hoa' := (hoa.keep hb6).keep hb7
      have hkeys := Keys_any ob ordN fitN.1 fitN.2.1 fitN.2.2 x y _ _ cx cy w7 hoa' hs1' hs2 (by simp) (by simp) hl1 hl2 hx hy
      have HB7 := Lib.hid ((HB5.out.trans (hb6.mono HB5.out.size)).trans (hb7.mono (Nat.le_trans HB5.out.size hb6.size)))
      clear hs1 hs2 hs1' hoa hoa' hb6 hb7 HB5
      change Calls _ _ _ _ fun e w' => e = .returned (.int .i64 (Ord.keysCmp (-1) x y [⟨⟨1, 0⟩, ⟨0, 0⟩, 32⟩])) ∧ _ at hkeys
      generalize Ord.keysCmp (-1) x y [⟨⟨1, 0⟩, ⟨0, 0⟩, 32⟩] = r at *
      go_wp2_with fail
      refine hkeys.mono ?_
      rintro e w8 ⟨rfl, hb8⟩
      have HB8 := Lib.hid (HB7.out.trans (hb8.mono HB7.out.size))
      clear hb8 HB7 hkeys hc1 hc2
      go_wp2_with fail
      refine (hsign _ _).mono ?_
      rintro e w9 ⟨rfl, rfl⟩
      rw [hlaw]
      have hgen : Ord.sign r = Ord.sign (a - b) := hlaw
      generalize hu : Ord.sign (a - b) = u at *
      have HU := Lib.hid hu; clear hu
      go_wp2_with fail
      refine (hsign _ _).mono ?_
      rintro e w10 ⟨rfl, rfl⟩
      rw [HU.out]
      go_wp2_with fail
      go_ret
      exact ⟨rfl, HB8.out⟩

end Go.Proofs.YtnhopkjichgckaaDoor
