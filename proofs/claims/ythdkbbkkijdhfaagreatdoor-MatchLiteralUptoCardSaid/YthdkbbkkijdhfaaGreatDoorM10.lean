/-
  The walk of MatchLiteral. Conditions: the text is shorter than 2^30 bytes, the bytes lie in memory; the library's variables hold what they hold.
-/
import Derived.Test.YthdkbbkkijdhfaaGreatDoorM9
import Derived.Test.YthdkbbkkijdhfaaGreatDoorMz
import Derived.Test.YthdkbbkkijdhfaaGreatDoorStr
import Derived.BigRegion
namespace Go.Proofs.YthdkbbkkijdhfaaGreatDoor
open Go.RowKit Go.Shelf Go.Maps

theorem progOf_lit (s : Rx.Bytes) : progOf (litNd false s) = (s.length, Mx.litP s) := Mx.lay_lit s

theorem Bs.part {w : World} {bb bo : Nat} {b : Rx.Bytes} (h : Bs w (some ⟨bb, bo, none⟩) b) (a n : Nat) (hl : a + n ≤ b.length) : Bs w (some ⟨bb, bo + a, none⟩) ((b.drop a).take n) := by
  intro _
  refine ⟨bb, bo + a, rfl, fun i hi => ?_⟩
  have hi2 : i < n := by simp at hi; omega
  have := h.at (a + i) (by omega)
  rw [show bo + a + i = bo + (a + i) by omega, this]
  congr 3
  simp [List.getD_eq_getElem?_getD, hi2]

theorem run_empty (w : World) (p : Option Addr) (c : Nat) : (convert 22 9 (.slice p 0 c)).run Tryz.prog w = .ok (.string ⟨#[]⟩) w := run_str (Bs.nil w p) c

def fx (R : Option (Nat × Nat)) : Int := ((R.getD (0, 0)).1 : Nat)
def fy (R : Option (Nat × Nat)) : Int := ((R.getD (0, 0)).2 : Nat)
theorem findVal_eq (R : Option (Nat × Nat)) : findVal R = .tuple #[.int .i64 (fx R), .int .i64 (fy R), .bool R.isSome] := by cases R <;> rfl

set_option maxHeartbeats 3200000 in
set_option maxRecDepth 100000 in
theorem MatchLiteral_any (s b : Rx.Bytes) (bp : Option Addr) (bc : Nat) (from_ : Int) (w : World) (hg : Glo w) (h8 : 8 ≤ w.heap.size) (hl : s.length < 1073741824) (hlb : b.length < 1073741824) (hbs : Bs w bp b) (hbc : b.length ≤ bc) (hno : bp = none → bc = 0) :
    Calls Tryz.prog 4 #[.string ⟨s.toArray⟩, .slice bp b.length bc, .int .i64 from_] w fun e w' => e = .returned (.bool true) ∧ Below w.heap.size w w' := by
  have ha := awake16_any w hg h8
  have HG := Lib.hid hg
  have HBS := Lib.hid hbs
  have HNO := Lib.hid hno
  have hlit := fun w hg h8 => Literal_any s false w hg h8 hl
  have hpr := progOf_lit s
  have HPR := Lib.hid hpr
  clear hg hbs hno hpr
  go_enter Tryz.func4, Tryz.ntmps4
  go_wp2_with fail
  refine ha.mono ?_
  rintro e w1 ⟨rfl, b1⟩
  obtain ⟨g1, i1⟩ := HG.out.step h8 b1
  clear ha
  go_wp2_with fail
  refine (hlit w1 g1 i1).mono ?_
  rintro e w2 ⟨⟨r, rfl, hre⟩, b2⟩
  have B2 := Lib.hid (b1.trans (b2.mono b1.size))
  have HRE := Lib.hid hre
  clear hlit b1 b2 hre g1 i1
  by_cases hbig : 1000 < s.length ∨ 1000 < b.length
  · rcases hbig with hb | hb
    · have hb2 : (1000 : Int) < (s.length : Int) := by omega
      go_wp2_with fail
      all_goals go_ret
      all_goals exact ⟨rfl, B2.out⟩
    · have hb2 : (1000 : Int) < (b.length : Int) := by omega
      go_wp2_with fail
      all_goals go_ret
      all_goals exact ⟨rfl, B2.out⟩
  · have hb1 : ¬ (1000 : Int) < (s.length : Int) := by omega
    have hb2 : ¬ (1000 : Int) < (b.length : Int) := by omega
    have hnew := New_any _ r (litNd false s) w2 HRE.out (by rw [HPR.out]; simp only [Mx.litP_len]; omega)
    go_wp2_with fail
    refine hnew.mono ?_
    rintro e w3 ⟨⟨rfl, v, L, hpg, he⟩, b3⟩
    have B3 : Hid (Below w.heap.size w w3) := B2.out.trans (b3.mono B2.out.size)
    have hfind := find_ready w2.heap.size bc (litNd false s) from_ b bp w3 ⟨⟨v, L, hpg, he⟩, by rw [HPR.out]; simp only [Mx.litP_len]; omega⟩ (HBS.out.below B3.out (Nat.le_refl _)) (by omega)
    rw [HPR.out] at hfind
    simp only at hfind
    obtain ⟨R, hR⟩ : ∃ R, Mx.find (Mx.litP s) s.length b from_.toNat = R := ⟨_, rfl⟩
    rw [hR, findVal_eq] at hfind
    have HR := Lib.hid hR
    obtain ⟨X, hX⟩ : ∃ X, fx R = X := ⟨_, rfl⟩
    obtain ⟨Y, hY⟩ : ∃ Y, fy R = Y := ⟨_, rfl⟩
    obtain ⟨Z, hZ⟩ : ∃ Z, R.isSome = Z := ⟨_, rfl⟩
    rw [hX, hY, hZ] at hfind
    have HX := Lib.hid hX
    have HY := Lib.hid hY
    have HZ := Lib.hid hZ
    clear hR hpg he b3 hnew hX hY hZ
    go_wp2_with fail
    refine hfind.mono ?_
    rintro e w4 ⟨rfl, b4⟩
    have B4 : Hid (Below w.heap.size w w4) := B3.out.trans (b4.mono B3.out.size)
    clear hfind b4
    go_upto_if 52 with fail
    go_cut [13, 52] (fun s13 _ wx => s13 = .int .i64 (from_.toNat : Int) ∧ wx = w4)
    case first =>
      by_cases h0 : from_ < 0
      · have h1 : (from_.toNat : Int) = 0 := by omega
        go_wp2_with fail
        go_meet
        exact ⟨by rw [h1], rfl⟩
      · have h1 : (from_.toNat : Int) = from_ := by omega
        have H1 := Lib.hid h1
        clear h1
        go_wp2_with fail
        go_meet
        exact ⟨by rw [H1.out], rfl⟩
    case rest =>
      obtain ⟨rfl, rfl⟩ := hcut
      go_wp2_with fail
      go_loopw [13] (fun x13 wr => ∃ a f : Nat, x13 = .int .i64 a ∧ b.length < a + f ∧ Hid (Mx.findF (Mx.litP s) s.length b f a = R) ∧ Below w.heap.size w wr) (fun x13 _ => b.length + 1 - (intOf x13).toNat)
      case atStart => exact ⟨from_.toNat, b.length + 1, rfl, by omega, HR.out, B4.out⟩
      case round =>
        clear HR B4
        obtain ⟨a, f, rfl, hf, hq, hbw⟩ := hrel
        have HQ := Lib.hid hq
        have HBW := Lib.hid hbw
        clear hq
        by_cases hle : a + s.length ≤ b.length
        · obtain ⟨f, rfl⟩ : ∃ g, f = g + 1 := ⟨f - 1, by omega⟩
          have ha : a ≤ b.length := by omega
          cases hst : Mx.stands s b a with
          | true =>
            have HRS : Hid (R = some (a, a + s.length)) := by
              have h := HQ.out
              unfold Hid at h
              rw [Mx.lit_some s b f a ha hst] at h
              exact h.symm
            obtain rfl : X = (a : Int) := by rw [← HX.out, HRS.out]; rfl
            obtain rfl : Y = (a : Int) + (s.length : Int) := by rw [← HY.out, HRS.out]; simp [fy]
            obtain rfl : Z = true := by rw [← HZ.out, HRS.out]; rfl
            by_cases h0 : s = []
            · have hc0 := run_empty wr
              subst h0
              rw [List.length_nil] at hle
              clear hst hbw
              cases bp with
              | none =>
                have hz := HNO.out rfl
                have hb0 : b.length = 0 := by omega
                have ha0 : a = 0 := by omega
                subst ha0
                rw [hb0]
                clear hb1 hb2 hle hlb hbc hf ha hb0
                go_wp2_with fail
                all_goals go_ret
                all_goals exact ⟨rfl, HBW.out⟩
              | some ad =>
                go_wp2_with fail
                all_goals go_ret
                all_goals exact ⟨rfl, HBW.out⟩
            · have hs0 : 0 < s.length := List.length_pos_iff.2 h0
              have hbr := HBS.out.below hbw (Nat.le_refl _)
              obtain ⟨bb, bo, rfl, hbc'⟩ := hbr (by omega)
              have hpart := Bs.part (bb := bb) (bo := bo) hbr a s.length hle
              have hconv := run_str hpart (bc - a)
              rw [show ((b.drop a).take s.length).length = s.length by simp; omega] at hconv
              rw [Mx.stands_take, decide_eq_true_eq] at hst
              rw [hst] at hconv
              clear hbr hbc' hpart hbw hst h0
              have d1 : (0 : Int) ≤ (a : Int) := Int.natCast_nonneg _
              have d2 : (a : Int) + (s.length : Int) ≤ (b.length : Int) := by omega
              have d3 : ¬ bc = a := by omega
              go_wp2_with fail
              all_goals go_ret
              all_goals exact ⟨rfl, HBW.out⟩
          | false =>
            have HQ2 : Hid (Mx.findF (Mx.litP s) s.length b f (a + 1) = R) := by
              have h := HQ.out
              unfold Hid at h
              rwa [Mx.lit_step s b f a ha hst] at h
            have hs0 : 0 < s.length := by
              rcases Nat.eq_zero_or_pos s.length with h | h
              · rw [List.eq_nil_of_length_eq_zero h] at hst
                simp [Mx.stands] at hst
              · exact h
            have hbr := HBS.out.below hbw (Nat.le_refl _)
            obtain ⟨bb, bo, rfl, hbc'⟩ := hbr (by omega)
            have hpart := Bs.part (bb := bb) (bo := bo) hbr a s.length hle
            have hconv := run_str hpart (bc - a)
            rw [show ((b.drop a).take s.length).length = s.length by simp; omega] at hconv
            rw [Mx.stands_take, decide_eq_false_iff_not] at hst
            generalize (b.drop a).take s.length = u at *
            clear hbr hbc' hpart hbw
            have d1 : (0 : Int) ≤ (a : Int) := Int.natCast_nonneg _
            have d2 : (a : Int) + (s.length : Int) ≤ (b.length : Int) := by omega
            have d3 : ¬ bc = a := by omega
            have d4 : (u == s) = false := beq_eq_false_iff_ne.2 hst
            clear hst
            go_wp2_with fail
            refine ⟨⟨a + 1, f, by go_num, by omega, HQ2, HBW.out⟩, ?_⟩
            show b.length + 1 - ((a : Int) + 1).toNat < b.length + 1 - (a : Int).toNat
            omega
        · have HRS : Hid (R = none) := by
            have h := HQ.out
            unfold Hid at h
            rw [Mx.lit_none s b f a (by omega)] at h
            exact h.symm
          obtain rfl : X = 0 := by rw [← HX.out, HRS.out]; rfl
          obtain rfl : Y = 0 := by rw [← HY.out, HRS.out]; rfl
          obtain rfl : Z = false := by rw [← HZ.out, HRS.out]; rfl
          have d2 : ¬ (a : Int) ≤ (b.length : Int) - (s.length : Int) := by omega
          go_wp2_with fail
          all_goals go_ret
          all_goals exact ⟨rfl, HBW.out⟩

end Go.Proofs.YthdkbbkkijdhfaaGreatDoor
