/-
  The walk of RegexQuotes. Conditions: the text is shorter than 2^30 bytes; the library's variables hold what they hold.
-/
import Derived.Test.YthdkbbkkijdhfaaGreatDoorW25
import Derived.Test.YthdkbbkkijdhfaaGreatDoorQLaw
namespace Go.Proofs.YthdkbbkkijdhfaaGreatDoor
open Go.RowKit Go.Shelf Go.Maps

theorem word_alnum (c : UInt8) : Rx.alnum c = ((decide ((48 : Int) ≤ c.toNat) && decide ((c.toNat : Int) ≤ 57)) || (decide ((97 : Int) ≤ c.toNat) && decide ((c.toNat : Int) ≤ 122)) || (decide ((65 : Int) ≤ c.toNat) && decide ((c.toNat : Int) ≤ 90))) := by
  have h : ∀ n : Nat, n < 256 → Rx.alnum (UInt8.ofNat n) = ((decide (48 ≤ n) && decide (n ≤ 57)) || (decide (97 ≤ n) && decide (n ≤ 122)) || (decide (65 ≤ n) && decide (n ≤ 90))) := by decide +kernel
  have := h c.toNat c.toNat_lt
  rw [UInt8.ofNat_toNat] at this
  rw [this]
  have e1 : ∀ a b : Nat, decide (a ≤ b) = decide ((a : Int) ≤ (b : Int)) := fun a b => by congr 1; apply propext; omega
  simp only [e1]
  rfl

theorem encX_append (a b : Rx.Bytes) : Rx.encX (a ++ b) = Rx.encX a ++ Rx.encX b := by
  induction a with
  | nil => rfl
  | cons c r ih => simp only [List.cons_append, Rx.encX, ih, List.append_assoc]
theorem encY_append (a b : Rx.Bytes) : Rx.encY (a ++ b) = Rx.encY a ++ Rx.encY b := by
  induction a with
  | nil => rfl
  | cons c r ih => simp only [List.cons_append, Rx.encY, ih, List.append_assoc]
theorem encX_len (a : Rx.Bytes) : (Rx.encX a).length ≤ 2 * a.length := by
  induction a with
  | nil => simp [Rx.encX]
  | cons c r ih =>
    simp only [Rx.encX, List.length_append, List.length_cons]
    split <;> simp <;> omega
theorem encY_len (a : Rx.Bytes) : (Rx.encY a).length ≤ 2 * a.length := by
  induction a with
  | nil => simp [Rx.encY]
  | cons c r ih =>
    simp only [Rx.encY, List.length_append, List.length_cons]
    split <;> simp <;> omega

theorem conv_one (c : UInt8) (W : World) : (convert 22 9 (.slice (some ⟨W.heap.size, 0, none⟩) 1 1)).run Tryz.prog (W.alloc (.cells #[.int .u8 c.toNat] 5)) = .ok (.string ⟨#[c]⟩) (W.alloc (.cells #[.int .u8 c.toNat] 5)) := by
  refine conv_tail (xs := [c]) (fun i hi => ?_) 1
  obtain rfl : i = 0 := by simpa using hi
  exact (Blk.new W #[.int .u8 c.toNat] 5).cell 0 rfl

set_option maxHeartbeats 6400000 in
set_option maxRecDepth 100000 in
theorem RegexQuotes_any (s : Rx.Bytes) (fold : Bool) (w : World) (hg : Glo w) (h8 : 8 ≤ w.heap.size) (hl : s.length < 1073741824) :
    Calls Tryz.prog 6 #[.string ⟨s.toArray⟩, .bool fold] w fun e w' => e = .returned (.bool true) ∧ Below w.heap.size w w' := by
  have hawake := awake_any w hg h8
  have HG := Lib.hid hg
  clear hg
  go_enter Tryz.func6, Tryz.ntmps6
  go_wp2_with fail
  refine hawake.mono ?_
  rintro e w1 ⟨rfl, hb1⟩
  clear hawake
  by_cases hbig : 2000 < s.length
  · have hbig2 : (2000 : Int) < (s.length : Int) := by omega
    clear hbig
    go_wp2_with fail
    go_ret
    exact ⟨rfl, hb1⟩
  · have hbig2 : ¬ (2000 : Int) < (s.length : Int) := by omega
    have hs2 : s.length ≤ 2000 := by omega
    have hcd0 : decide ((2000 : Int) < (s.length : Int)) = false := by simp; omega
    clear hbig
    go_wp2_with fail
    go_loopw [6, 7, 8, 9, 10, 11] (fun x6 x7 x8 _ _ _ wr => ∃ i : Nat, i ≤ s.length ∧ x8 = .int .i64 i ∧ x6 = .string ⟨(Rx.encX (s.take i)).toArray⟩ ∧ x7 = .string ⟨(Rx.encY (s.take i)).toArray⟩ ∧ Below w.heap.size w wr) (fun _ _ x8 _ _ _ _ => s.length - (intOf x8).toNat)
    case atStart => exact ⟨0, Nat.zero_le _, rfl, rfl, rfl, hb1⟩
    case round =>
      clear hb1
      obtain ⟨i, hi, rfl, rfl, rfl, hbw⟩ := hrel
      by_cases hlt : i < s.length
      · have hxl := encX_len (s.take i)
        have hyl := encY_len (s.take i)
        have htl : (s.take i).length ≤ 2000 := by rw [List.length_take]; omega
        have HTX : Hid (Rx.encX (s.take (i + 1)) = Rx.encX (s.take i) ++ Rx.encX [s[i]]) := by
          show _ = _
          rw [List.take_succ_eq_append_getElem hlt, encX_append]
        have HTY : Hid (Rx.encY (s.take (i + 1)) = Rx.encY (s.take i) ++ Rx.encY [s[i]]) := by
          show _ = _
          rw [List.take_succ_eq_append_getElem hlt, encY_append]
        have hxl2 : (Rx.encX (s.take i)).length ≤ 4000 := by omega
        have hyl2 : (Rx.encY (s.take i)).length ≤ 4000 := by omega
        clear hxl hyl htl
        generalize Rx.encX (s.take i) = X at *
        generalize Rx.encY (s.take i) = Y at *
        have hcd : decide ((i : Int) < (s.length : Int)) = true := by simp; omega
        have eb : ∀ h, (⟨s.toArray⟩ : ByteArray)[i]'h = s[i] := fun h => rfl
        go_upto_region 10 with fail
        clear eb
        generalize s[i] = c at *
        have hbd := u8_bd c
        go_cut [10, 31, 32, 33, 34, 35, 36, 37, 38, 39, 40, 41, 42, 43, 44, 45, 46, 47, 48, 49, 50, 51, 52] (fun s10 _ _ _ _ _ _ _ _ _ _ _ _ _ _ _ _ _ _ _ _ _ _ wx => s10 = .bool (Rx.alnum c) ∧ wx = wr)
        case first =>
          have HAL := Lib.hid (word_alnum c)
          go_wp2_with fail
          all_goals
            go_meet
            refine ⟨congrArg Value.bool ?_, rfl⟩
            rw [HAL.out]
            first | (simp [*]; done) | (simp [*]; omega)
        case rest =>
          obtain ⟨rfl, rfl⟩ := hcut
          have hcv := conv_one c
          go_upto_if 57 with fail
          have hb3 : Below w.heap.size w (wc.alloc (.cells #[.int .u8 c.toNat] 5)) := hbw.alloc hbw.size _
          clear hcv hbw
          generalize wc.alloc (.cells #[.int .u8 c.toNat] 5) = w3 at *
          have HTX2 : Hid (Rx.encX [c] = (if Rx.alnum c then [] else [92]) ++ [c]) := by
            show _ = _
            simp only [Rx.encX, List.append_nil]
            split <;> rfl
          have HTY2 : Hid (Rx.encY [c] = (if Rx.rawY c then [] else [92]) ++ [c]) := by
            show _ = _
            simp only [Rx.encY, List.append_nil]
            split <;> rfl
          go_cut [6, 7, 10, 57, 58, 59, 60, 61, 62, 63, 64, 65, 66, 67, 68, 69, 70, 71, 72, 73, 74, 75]  (fun s6 s7 _ _ _ _ _ _ _ _ _ _ _ _ _ _ _ _ _ _ _ _ wx => s6 = .string ⟨(X ++ (if Rx.alnum c then [] else [92])).toArray⟩ ∧ s7 = .string ⟨(Y ++ (if Rx.rawY c then [] else [92])).toArray⟩ ∧ wx = w3)
          case first =>
            cases hal : Rx.alnum c with
            | true =>
              have hry : Rx.rawY c = true := by unfold Rx.rawY; rw [hal]; rfl
              have HRY := Lib.hid hry
              have HAT := Lib.hid hal
              clear hry
              go_wp2_with fail
              go_meet
              refine ⟨?_, ?_, rfl⟩
              · rw [HAT.out, if_pos rfl, List.append_nil]
              · rw [HRY.out, if_pos rfl, List.append_nil]
            | false =>
              have e1 : (⟨X.toArray⟩ : ByteArray) ++ ⟨#[92]⟩ = ⟨(X ++ [92]).toArray⟩ := by apply ByteArray.ext; simp
              have e2 : (⟨Y.toArray⟩ : ByteArray) ++ ⟨#[92]⟩ = ⟨(Y ++ [92]).toArray⟩ := by apply ByteArray.ext; simp
              have HAL2 := Lib.hid hal
              have HRY : Hid (Rx.rawY c = (c == 40 || c == 41 || c == 123 || c == 125)) := by show _ = _; unfold Rx.rawY; rw [hal]; rfl
              by_cases q1 : c = 40
              · subst q1
                go_wp2_with fail
                go_meet
                exact ⟨by rw [HAL2.out]; simp, by rw [HRY.out]; simp, rfl⟩
              by_cases q2 : c = 41
              · subst q2
                go_wp2_with fail
                go_meet
                exact ⟨by rw [HAL2.out]; simp, by rw [HRY.out]; simp, rfl⟩
              by_cases q3 : c = 123
              · subst q3
                go_wp2_with fail
                go_meet
                exact ⟨by rw [HAL2.out]; simp, by rw [HRY.out]; simp, rfl⟩
              by_cases q4 : c = 125
              · subst q4
                go_wp2_with fail
                go_meet
                exact ⟨by rw [HAL2.out]; simp, by rw [HRY.out]; simp, rfl⟩
              have r1 : ¬ ((c.toNat : Int) = 40) := u8_ne q1
              have r2 : ¬ ((c.toNat : Int) = 41) := u8_ne q2
              have r3 : ¬ ((c.toNat : Int) = 123) := u8_ne q3
              have r4 : ¬ ((c.toNat : Int) = 125) := u8_ne q4
              have HRY2 : Hid (Rx.rawY c = false) := by show _ = _; rw [HRY.out]; simp [q1, q2, q3, q4]
              clear q1 q2 q3 q4
              go_wp2_with fail
              go_meet
              exact ⟨by rw [HAL2.out]; simp, by rw [HRY2.out]; simp, rfl⟩
          case rest =>
            obtain ⟨rfl, rfl, rfl⟩ := hcut
            have hp1 : (if Rx.alnum c then ([] : Rx.Bytes) else [92]).length ≤ 1 := by split <;> simp
            have hp2 : (if Rx.rawY c then ([] : Rx.Bytes) else [92]).length ≤ 1 := by split <;> simp
            generalize (if Rx.alnum c then ([] : Rx.Bytes) else [92]) = P1 at *
            generalize (if Rx.rawY c then ([] : Rx.Bytes) else [92]) = P2 at *
            have e1 : (⟨(X ++ P1).toArray⟩ : ByteArray) ++ ⟨#[c]⟩ = ⟨(X ++ P1 ++ [c]).toArray⟩ := by apply ByteArray.ext; simp
            have e2 : (⟨(Y ++ P2).toArray⟩ : ByteArray) ++ ⟨#[c]⟩ = ⟨(Y ++ P2 ++ [c]).toArray⟩ := by apply ByteArray.ext; simp
            have hx1 : (X ++ P1).length ≤ 5000 := by simp; omega
            have hx2 : (Y ++ P2).length ≤ 5000 := by simp; omega
            have EX : Hid (Rx.encX (s.take (i + 1)) = X ++ P1 ++ [c]) := by show _ = _; rw [HTX.out, HTX2.out, List.append_assoc]
            have EY : Hid (Rx.encY (s.take (i + 1)) = Y ++ P2 ++ [c]) := by show _ = _; rw [HTY.out, HTY2.out, List.append_assoc]
            clear HTX HTX2 HTY HTY2
            generalize X ++ P1 = X2 at *
            generalize Y ++ P2 = Y2 at *
            go_wp2_with fail
            refine ⟨⟨i + 1, by omega, by go_num, by rw [EX.out], by rw [EY.out], hb3⟩, ?_⟩
            show s.length - ((i : Int) + 1).toNat < s.length - (i : Int).toNat
            omega
      · obtain rfl : i = s.length := by omega
        rw [List.take_of_length_le (Nat.le_refl _)]
        have HS := HG.out.step h8 hbw
        by_cases h0 : s = []
        · subst h0
          go_wp2_with fail
          go_ret
          exact ⟨rfl, hbw⟩
        · have tx := Rx.tellX fold s h0 hs2
          have ty := Rx.tellY fold s hs2
          have hxl := encX_len s
          have hyl := encY_len s
          have c1 := Literal_any s fold _ HS.1 HS.2 hl
          have c2 := fun w hg h8 => told15_any (Rx.encX s) true fold w hg h8 (by omega)
          have c3 := fun w hg h8 => told15_any (Rx.encY s) false fold w hg h8 (by omega)
          have hT : Hid ((litNd fold s).told.length ≤ 140737488355000) := by
            show _ ≤ _
            have h1 := Rx.lit_size fold s hs2
            have h2 := told_le (litNd fold s) (by unfold litNd; omega)
            unfold litNd at h2 ⊢
            omega
          simp only [tx, tellVal_some] at c2
          simp only [ty, tellVal_some] at c3
          clear tx ty hxl hyl
          generalize Rx.encX s = X at *
          generalize Rx.encY s = Y at *
          have hT2 : Hid ((Rx.joinN .cat (s.map (Rx.one fold))).told = (litNd fold s).told) := rfl
          have h5 : ¬ (5000 : Int) < (s.length : Int) := by omega
          have he : ¬ (s = []) := h0
          go_wp2_with fail
          · go_ret
            exact ⟨rfl, hbw⟩
          · refine c1.mono ?_
            rintro e w3 ⟨⟨q, rfl, hre⟩, b3⟩
            obtain ⟨g3, i3⟩ := HS.1.step HS.2 b3
            have d3 := hbw.trans (b3.mono hbw.size)
            clear b3 c1
            go_wp2_with fail
            refine (c2 _ g3 i3).mono ?_
            rintro e w4 ⟨rfl, b4⟩
            obtain ⟨g4, i4⟩ := g3.step i3 b4
            have d4 := d3.trans (b4.mono d3.size)
            have hre4 : ReAt w4 wr.heap.size q (litNd fold s) := hre.keep b4 (Nat.le_refl _)
            clear b4 c2 g3 i3 d3 hre
            go_wp2_with fail
            refine (c3 _ g4 i4).mono ?_
            rintro e w5 ⟨rfl, b5⟩
            obtain ⟨g5, i5⟩ := g4.step i4 b5
            have d5 := d4.trans (b5.mono d4.size)
            have hre5 : ReAt w5 wr.heap.size q (litNd fold s) := hre4.keep b5 (Nat.le_refl _)
            clear b5 c3 g4 i4 d4 hre4
            have c4 := String_any wr.heap.size q (litNd fold s) w5 hre5 g5 i5 hT.out
            have hT3 : litNd fold s = Rx.joinN .cat (s.map (Rx.one fold)) := rfl
            rw [hT3] at c4
            clear hT3 hre5
            generalize (Rx.joinN .cat (s.map (Rx.one fold))).told = T at *
            go_wp2_with fail
            refine c4.mono ?_
            rintro e w6 ⟨rfl, b6⟩
            go_wp2_with fail
            go_ret
            exact ⟨rfl, d5.trans (b6.mono d5.size)⟩

end Go.Proofs.YthdkbbkkijdhfaaGreatDoor
