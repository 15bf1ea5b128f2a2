/-
  The walk of order.read. Conditions: the string is no longer than memory allows; the library's errors lie in its variables.
-/
import Derived.Test.YtnhopkjichgckaaDoorW2
namespace Go.Proofs.YtnhopkjichgckaaDoor
open Go.RowKit Go.Shelf

set_option maxHeartbeats 3200000 in
set_option maxRecDepth 100000 in
theorem read_any (s : Ord.Bytes) (b leastC : Int) (hl : s.length ≤ 140737488351232) (w : World) (hg : Glo w) (hB : 8 ≤ w.heap.size) :
    Calls Tryd.prog 21 #[.string ⟨s.toArray⟩, .int .i64 b, .int .i64 leastC] w fun e w' => (∃ v, e = .returned v ∧ readVal s b leastC v) ∧ Below w.heap.size w w' := by
  have htl : (s.takeWhile Ord.digit).length ≤ 140737488351232 := Nat.le_trans (List.takeWhile_sublist _).length_le hl
  go_enter Tryd.func21, Tryd.ntmps21
  go_wp2_with fail
  refine (digits_any s hl _).mono ?_
  rintro e w1 ⟨rfl, hb1⟩
  have hbw := below_new hb1
  have hg1 := hg.below hbw hB
  obtain ⟨hc1, hf1⟩ := bcell hb1
  have hz1 := hb1.size
  simp only [World.size_alloc] at hz1
  have hr0 : w1.cell? ⟨w.heap.size, 0, none⟩ = some (.int .i64 0) := by rw [hc1 _ _ (by simp)]; simp [go_sem]
  have hr1 : w1.cell? ⟨w.heap.size, 1, none⟩ = some (.int .i64 0) := by rw [hc1 _ _ (by simp)]; simp [go_sem]
  have hrf0 : w1.frozen? ⟨w.heap.size, 0, none⟩ = false := by rw [hf1 _ _ (by simp)]; simp [go_sem]
  have hrf1 : w1.frozen? ⟨w.heap.size, 1, none⟩ = false := by rw [hf1 _ _ (by simp)]; simp [go_sem]
  clear hb1 hc1 hf1
  go_wp2_with fail
  refine (number_any (s.takeWhile Ord.digit) 2147483647 htl (by decide) (by decide) _ hg1 (by omega)).mono ?_
  rintro e w2 ⟨rfl, hb2⟩
  have hbw2 := hbw.trans (hb2.mono (by omega))
  have hg2 := hg.below hbw2 hB
  obtain ⟨hc2, hf2⟩ := bcell hb2
  have hz2 := hb2.size
  rw [← hc2 _ _ (by omega)] at hr0 hr1
  rw [← hf2 _ _ (by omega)] at hrf0 hrf1
  clear hb2 hc2 hf2 hbw hg1
  have hra0 := new_cell hr0
  have hra1 := new_cell hr1
  have hrb0 := new_frozen hr0 hrf0
  have hrb1 := new_frozen hr1 hrf1
  cases hnum : Ord.number (s.takeWhile Ord.digit) 2147483647 with
  | none =>
    rw [numVal_no hnum]
    have HR : Hid (Ord.read s b leastC = none) := by show Ord.read s b leastC = none; unfold Ord.read; rw [hnum]
    clear hnum
    go_wp2_with fail
    refine bodyPost_ret (v := .tuple #[.agg #[.int .i64 0, .int .i64 0], .int .i64 0, .bool false]) (by simp [results, Tryd.results21, go_sem, hra0, hra1]) rfl ⟨⟨_, rfl, by unfold readVal; rw [HR.out]; exact ⟨_, _, rfl⟩⟩, ?_⟩
    exact ((hbw2.alloc (by omega) _).setCell (Nat.le_refl _) _).setCell (Nat.le_refl _) _
  | some f =>
    rw [numVal_yes hnum]
    by_cases hf : f < 1
    · have HR : Hid (Ord.read s b leastC = none) := by show Ord.read s b leastC = none; unfold Ord.read; rw [hnum]; exact if_pos hf
      clear hnum
      go_wp2_with fail
      refine bodyPost_ret (v := .tuple #[.agg #[.int .i64 f, .int .i64 0], .int .i64 0, .bool false]) (by simp [results, Tryd.results21, go_sem, hra0, hra1]) rfl ⟨⟨_, rfl, by unfold readVal; rw [HR.out]; exact ⟨_, _, rfl⟩⟩, ?_⟩
      exact ((hbw2.alloc (by omega) _).setCell (Nat.le_refl _) _).setCell (Nat.le_refl _) _
    · have HN := Lib.hid hnum; clear hnum
      have hfd : decide (f < 1) = false := by simpa using hf
      have hsl : (s.dropWhile Ord.digit).length ≤ 140737488351232 := Nat.le_trans (List.dropWhile_sublist _).length_le hl
      go_upto_if 42 with (go_at_call 30; refine (cutPrefix_any (s.dropWhile Ord.digit) 46 _).mono ?_; rintro e w' ⟨⟨t1, is, hcp, rfl⟩, rfl⟩)
      generalize hS : s.dropWhile Ord.digit = s1 at *
      have HS := Lib.hid hS; clear hS
      obtain ⟨P, hP⟩ : ∃ P, P = w2.heap.size := ⟨_, rfl⟩
      have hp0 : (w2.alloc (.cells #[.int .i64 f, .int .i64 0] 49)).cell? ⟨P, 0, none⟩ = some (.int .i64 f) := by rw [hP]; simp [go_sem]
      have hp1 : (w2.alloc (.cells #[.int .i64 f, .int .i64 0] 49)).cell? ⟨P, 1, none⟩ = some (.int .i64 0) := by rw [hP]; simp [go_sem]
      have hpf0 : (w2.alloc (.cells #[.int .i64 f, .int .i64 0] 49)).frozen? ⟨P, 0, none⟩ = false := by rw [hP]; simp [go_sem]
      have hpf1 : (w2.alloc (.cells #[.int .i64 f, .int .i64 0] 49)).frozen? ⟨P, 1, none⟩ = false := by rw [hP]; simp [go_sem]
      have hra0 := hra0 (.cells #[.int .i64 f, .int .i64 0] 49)
      have hra1 := hra1 (.cells #[.int .i64 f, .int .i64 0] 49)
      have hrb0 := hrb0 (.cells #[.int .i64 f, .int .i64 0] 49)
      have hrb1 := hrb1 (.cells #[.int .i64 f, .int .i64 0] 49)
      have hb3 := hbw2.alloc (by omega) (.cells #[.int .i64 f, .int .i64 0] 49)
      have hz3 : P + 1 ≤ (w2.alloc (.cells #[.int .i64 f, .int .i64 0] 49)).heap.size := by rw [hP]; simp
      have hPw : w.heap.size < P := by omega
      rw [← hP]
      generalize w2.alloc (.cells #[.int .i64 f, .int .i64 0] 49) = w3 at *
      clear hP hr0 hr1 hrf0 hrf1 hbw2 hg2 hz2 hz1 
      have hg3 := hg.below hb3 hB
      go_cut [0, 9, 11] (fun s0 s9 s11 wx => ∃ (c : Int) (r : Ord.Bytes), Ord.readC s1 leastC = some (c, r) ∧ r.length ≤ 140737488351232 ∧ s0 = .string ⟨r.toArray⟩ ∧ (∃ x, s9 = .string x) ∧ (∃ x, s11 = .bool x) ∧
        wx.cell? ⟨P, 0, none⟩ = some (.int .i64 f) ∧ wx.cell? ⟨P, 1, none⟩ = some (.int .i64 c) ∧
        wx.cell? ⟨w.heap.size, 0, none⟩ = some (.int .i64 0) ∧ wx.cell? ⟨w.heap.size, 1, none⟩ = some (.int .i64 0) ∧ wx.frozen? ⟨w.heap.size, 0, none⟩ = false ∧ wx.frozen? ⟨w.heap.size, 1, none⟩ = false ∧ Below w.heap.size w wx)
      case first =>
        rcases hcp with ⟨rfl, hcp⟩ | ⟨rfl, rfl, hcp⟩
        · have htl1 : t1.length ≤ 140737488351232 := by have := congrArg List.length hcp; simp at this; omega
          have htt : (t1.takeWhile Ord.digit).length ≤ 140737488351232 := Nat.le_trans (List.takeWhile_sublist _).length_le htl1
          have HCP := Lib.hid hcp; clear hcp
          have hrp : RP w3 w.heap.size P f 0 := ⟨hra0, hra1, hrb0, hrb1, hp0, hp1, hpf0, hpf1⟩
          clear hra0 hra1 hrb0 hrb1 hp0 hp1 hpf0 hpf1
          go_wp2_with fail
          refine (digits_any t1 htl1 _).mono ?_
          rintro e w4 ⟨rfl, hb4⟩
          have hz4 := hb4.size
          have hrp4 := hrp.keep hb4
          have hbw4 := hb3.trans (hb4.mono (by omega))
          have hg4 := hg.below hbw4 hB
          clear hb4 hrp
          go_wp2_with fail
          refine (number_any (t1.takeWhile Ord.digit) 2147483647 htt (by decide) (by decide) _ hg4 (by omega)).mono ?_
          rintro e w5 ⟨rfl, hb5⟩
          have hz5 := hb5.size
          have hrp5 := hrp4.keep hb5
          have hbw5 := hbw4.trans (hb5.mono (by omega))
          clear hb5 hrp4 hg4 hbw4
          obtain ⟨q0, q1, q2, q3, q4, q5, q6, q7⟩ := hrp5
          cases hnc : Ord.number (t1.takeWhile Ord.digit) 2147483647 with
          | none =>
            rw [numVal_no hnc]
            have HR : Hid (Ord.readC s1 leastC = none) := by show Ord.readC s1 leastC = none; rw [HCP.out, readC_dot, hnc]
            clear hnc
            go_wp2_with fail
            refine bodyPost_ret (v := .tuple #[.agg #[.int .i64 f, .int .i64 0], .int .i64 0, .bool false]) (by simp [results, Tryd.results21, go_sem, q0, q1]) rfl ⟨⟨_, rfl, ?_⟩, ?_⟩
            · unfold readVal Ord.read
              rw [HN.out, HS.out]; simp only [if_neg (show ¬ f < 1 by omega), HR.out]; exact ⟨_, _, rfl⟩
            · exact ((hbw5.setCell (by simp; omega) _).setCell (Nat.le_refl _) _).setCell (Nat.le_refl _) _
          | some c =>
            rw [numVal_yes hnc]
            by_cases hcl : c < leastC
            · have HR : Hid (Ord.readC s1 leastC = none) := by show Ord.readC s1 leastC = none; rw [HCP.out, readC_dot, hnc]; exact if_pos hcl
              clear hnc
              have hcl' : decide (c < leastC) = true := by simpa using hcl
              go_wp2_with fail
              refine bodyPost_ret (v := .tuple #[.agg #[.int .i64 f, .int .i64 c], .int .i64 0, .bool false]) (by simp [results, Tryd.results21, go_sem, q0, q1]) rfl ⟨⟨_, rfl, ?_⟩, ?_⟩
              · unfold readVal Ord.read
                rw [HN.out, HS.out]; simp only [if_neg (show ¬ f < 1 by omega), HR.out]; exact ⟨_, _, rfl⟩
              · exact ((hbw5.setCell (by simp; omega) _).setCell (Nat.le_refl _) _).setCell (Nat.le_refl _) _
            · have HR : Hid (Ord.readC s1 leastC = some (c, t1.dropWhile Ord.digit)) := by show Ord.readC s1 leastC = some (c, t1.dropWhile Ord.digit); rw [HCP.out, readC_dot, hnc]; exact if_neg hcl
              clear hnc
              have hcl' : decide (c < leastC) = false := by simpa using hcl
              go_wp2_with fail
              go_meet
              refine ⟨c, t1.dropWhile Ord.digit, HR.out, Nat.le_trans (List.dropWhile_sublist _).length_le htl1, rfl, ⟨_, rfl⟩, ⟨_, rfl⟩, ?_, ?_, ?_, ?_, ?_, ?_, hbw5.setCell (by simp; omega) _⟩
              all_goals (simp [go_sem, *]; try omega)
        · have HCP := Lib.hid hcp; clear hcp
          go_wp2_with fail
          go_meet
          exact ⟨0, t1, readC_no t1 leastC HCP.out, hsl, rfl, ⟨_, rfl⟩, ⟨_, rfl⟩, hp0, hp1, hra0, hra1, hrb0, hrb1, hb3⟩
      case rest =>
        obtain ⟨c, r, hrc, hrl, rfl, ⟨x9, rfl⟩, ⟨x11, rfl⟩, hp0, hp1, hq0, hq1, hqf0, hqf1, hbx⟩ := hcut
        clear hra0 hra1 hrb0 hrb1 hpf0 hpf1 hb3 hz3 hg3 hcp
        go_wp2_with fail
        go_loop [15, 16, 17, 65] (fun fl i16 x17 i => ∃ (k : Nat) (g : Int), k ≤ r.length ∧ Ord.letters b r 0 = Ord.letters b (r.drop k) g ∧ fl = .int .i64 g ∧ i = .int .i64 k) (fun _ _ _ i => r.length - (intOf i).toNat)
        case atStart => exact ⟨0, 0, Nat.zero_le _, rfl, rfl, rfl⟩
        case round =>
          obtain ⟨k, g, hk, hlet, rfl, rfl⟩ := hrel
          have HL := Lib.hid hlet; clear hlet
          by_cases hlt : k < r.length
          · obtain ⟨ch, hch⟩ : ∃ ch, r.getD k 0 = ch := ⟨_, rfl⟩
            have hidx : (⟨r.toArray⟩ : ByteArray)[k]'(by simpa [ByteArray.size] using hlt) = ch := by
              rw [← hch]; simp [List.getD_eq_getElem?_getD, List.getElem?_eq_getElem hlt]; rfl
            have HCH := Lib.hid hch; clear hch
            by_cases hfl : Ord.flag ch b = 0
            · have hfl' : (Ord.flag ch b == 0) = true := by simpa using hfl
              have HFL := Lib.hid hfl; clear hfl
              go_wp2_with (go_at_call 15; refine (flag_any _ b _).mono ?_; rintro e w' ⟨rfl, rfl⟩)
              refine bodyPost_ret (v := .tuple #[.agg #[.int .i64 f, .int .i64 c], .int .i64 0, .bool false]) (by simp [results, Tryd.results21, go_sem, hq0, hq1]) rfl ⟨⟨_, rfl, ?_⟩, ?_⟩
              · have hend : Ord.letters b r 0 = none := by
                  rw [HL.out, Ord.drop_cons' r k hlt, HCH.out]; simp only [Ord.letters, if_pos HFL.out]
                unfold readVal Ord.read
                rw [HN.out, HS.out]; simp only [if_neg (show ¬ f < 1 by omega), hrc, hend]; exact ⟨_, _, rfl⟩
              · exact (hbx.setCell (Nat.le_refl _) _).setCell (Nat.le_refl _) _
            · have hfl' : (Ord.flag ch b == 0) = false := by simpa using hfl
              have HFL := Lib.hid hfl; clear hfl
              go_wp2_with (go_at_call 15; refine (flag_any _ b _).mono ?_; rintro e w' ⟨rfl, rfl⟩)
              go_round
              case rel =>
                refine ⟨k + 1, Ord.orI g (Ord.flag ch b), by omega, ?_, rfl, by go_num⟩
                rw [HL.out, Ord.drop_cons' r k hlt, HCH.out]; simp only [Ord.letters, if_neg HFL.out]
              case measure => simp [intOf]; omega
          · go_wp2_with fail
            obtain rfl : k = r.length := by omega
            refine bodyPost_ret (v := .tuple #[.agg #[.int .i64 f, .int .i64 c], .int .i64 g, .bool true]) (by simp [results, Tryd.results21, go_sem, hq0, hq1]) rfl ⟨⟨_, rfl, ?_⟩, ?_⟩
            · have hend : Ord.letters b r 0 = some g := by rw [HL.out]; simp [Ord.letters]
              unfold readVal Ord.read
              rw [HN.out, HS.out]; simp only [if_neg (show ¬ f < 1 by omega), hrc, hend]
            · exact (hbx.setCell (Nat.le_refl _) _).setCell (Nat.le_refl _) _

end Go.Proofs.YtnhopkjichgckaaDoor
