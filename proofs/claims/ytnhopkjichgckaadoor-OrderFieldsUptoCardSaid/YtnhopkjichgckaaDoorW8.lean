/-
  The walk of field where fields stand between blanks. Conditions: the line lies in memory as it is told; the place asked for is 1 or more.
-/
import Derived.Test.YtnhopkjichgckaaDoorW7
namespace Go.Proofs.YtnhopkjichgckaaDoor
open Go.RowKit Go.Shelf

/-- Where a run of bytes that answer yes ends. -/
def runTo (q : UInt8 → Bool) (b : Ord.Bytes) (k : Nat) : Nat := k + ((b.drop k).takeWhile q).length
theorem runTo_end (q : UInt8 → Bool) (b : Ord.Bytes) : runTo q b b.length = b.length := by simp [runTo]
theorem runTo_yes (q : UInt8 → Bool) (b : Ord.Bytes) (k : Nat) (hk : k < b.length) (h : q (b.getD k 0) = true) : runTo q b (k + 1) = runTo q b k := by
  unfold runTo
  rw [Ord.drop_cons' b k hk, List.takeWhile_cons, if_pos h]
  simp; omega
theorem runTo_no (q : UInt8 → Bool) (b : Ord.Bytes) (k : Nat) (hk : k < b.length) (h : q (b.getD k 0) = false) : runTo q b k = k := by
  unfold runTo
  rw [Ord.drop_cons' b k hk, List.takeWhile_cons, if_neg (by rw [h]; decide)]
  simp
theorem runTo_ge (q : UInt8 → Bool) (b : Ord.Bytes) (k : Nat) : k ≤ runTo q b k := by unfold runTo; omega
theorem runTo_le (q : UInt8 → Bool) (b : Ord.Bytes) (k : Nat) (h : k ≤ b.length) : runTo q b k ≤ b.length := by
  unfold runTo
  have := (List.takeWhile_sublist (p := q) (l := b.drop k)).length_le
  simp at this; omega
theorem fieldEnd_blank (sep : Int) (hs : sep < 0) (b : Ord.Bytes) (a : Nat) : Ord.fieldEnd sep b a = runTo (fun c => !Ord.blank c) b (runTo Ord.blank b a) := by
  unfold Ord.fieldEnd
  rw [if_neg (by omega)]
  rfl

set_option maxHeartbeats 1600000 in
set_option maxRecDepth 100000 in
theorem field_blank1 (ob : Nat) (sep : Int) (hsep : sep < 0) (b : Ord.Bytes) (bb bo : Nat) (cap n : Nat) (w : World) (hs : w.cell? ⟨ob, 1, none⟩ = some (.int .i64 sep))
    (hcell : ∀ i, i < b.length → w.cell? ⟨bb, bo + i, none⟩ = some (.int .u8 (b.getD i 0).toNat)) (hl : b.length ≤ 140737488351232) (hn : 1 ≤ n) (hn2 : n ≤ 2147483647) :
    Calls Tryd.prog 25 #[.pointer (some ⟨ob, 0, none⟩), .slice (some ⟨bb, bo, none⟩) b.length cap, .int .i64 n] w fun e w' => e = .returned (fieldVal sep b n) ∧ Drawn w w' := by
  have hsd : decide (0 ≤ sep) = false := by simp; omega
  have HCELL := Lib.hid hcell; clear hcell
  go_enter Tryd.func25, Tryd.ntmps25
  go_wp2_with fail
  go_loop [2, 9] (fun nn aa => ∃ m a : Nat, 1 ≤ m ∧ m ≤ n ∧ a ≤ b.length ∧ Ord.field sep b m a = Ord.field sep b n 0 ∧ nn = .int .i64 m ∧ aa = .int .i64 a) (fun nn _ => (intOf nn).toNat)
  case atStart => exact ⟨n, 0, hn, Nat.le_refl _, Nat.zero_le _, rfl, rfl, rfl⟩
  case round =>
    obtain ⟨m, a, hm, hmn, hab, hf, rfl, rfl⟩ := hrel
    have HF := Lib.hid hf; clear hf
    have HE : Hid (Ord.fieldEnd sep b a = runTo (fun c => !Ord.blank c) b (runTo Ord.blank b a)) := fieldEnd_blank sep hsep b a
    go_upto_if 16 with fail
    go_cut [10] (fun s10 wx => s10 = .int .i64 (Ord.fieldEnd sep b a) ∧ w = wx)
    case first =>
      go_wp2_with fail
      go_loop [10] (fun e => ∃ k : Nat, a ≤ k ∧ k ≤ b.length ∧ runTo Ord.blank b k = runTo Ord.blank b a ∧ e = .int .i64 k) (fun e => b.length - (intOf e).toNat)
      case atStart => exact ⟨a, Nat.le_refl _, hab, rfl, rfl⟩
      case round =>
        obtain ⟨k, hk1, hk2, hk3, rfl⟩ := hrel
        have HK := Lib.hid hk3; clear hk3
        by_cases hlt : k < b.length
        · have hck := HCELL.out k hlt
          obtain ⟨ch, hch⟩ : ∃ ch, b.getD k 0 = ch := ⟨_, rfl⟩
          rw [hch] at hck
          have HCH := Lib.hid hch; clear hch
          cases hbl : Ord.blank ch with
          | true =>
            have HB := Lib.hid hbl
            go_wp2_with (go_at_call 36; refine (blank_any ch _).mono ?_; rintro e w' ⟨rfl, rfl⟩)
            go_round
            case rel => exact ⟨k + 1, by omega, by omega, by rw [runTo_yes _ _ _ hlt (by rw [HCH.out]; exact HB.out)]; exact HK.out, by go_num⟩
            case measure => simp [intOf]; omega
          | false =>
            have HE1 : Hid (runTo Ord.blank b a = k) := by show runTo Ord.blank b a = k; rw [← HK.out, runTo_no _ _ _ hlt (by rw [HCH.out]; exact hbl)]
            go_wp2_with (go_at_call 36; refine (blank_any ch _).mono ?_; rintro e w' ⟨rfl, rfl⟩)
            clear hck hbl
            go_loop [10] (fun e => ∃ j : Nat, k ≤ j ∧ j ≤ b.length ∧ runTo (fun c => !Ord.blank c) b j = Ord.fieldEnd sep b a ∧ e = .int .i64 j) (fun e => b.length - (intOf e).toNat)
            case atStart => exact ⟨k, Nat.le_refl _, by omega, by rw [HE.out, HE1.out], rfl⟩
            case round =>
              obtain ⟨j, hj1, hj2, hj3, rfl⟩ := hrel
              have HJ := Lib.hid hj3; clear hj3
              by_cases hlt2 : j < b.length
              · have hcj := HCELL.out j hlt2
                obtain ⟨cj, hcjj⟩ : ∃ cj, b.getD j 0 = cj := ⟨_, rfl⟩
                rw [hcjj] at hcj
                have HCJ := Lib.hid hcjj; clear hcjj
                cases hbl2 : Ord.blank cj with
                | true =>
                  have HB2 := Lib.hid hbl2
                  go_wp2_with (go_at_call 36; refine (blank_any cj _).mono ?_; rintro e w' ⟨rfl, rfl⟩)
                  go_meet
                  exact ⟨congrArg (fun x : Nat => Value.int .i64 (x : Int)) (by rw [← HJ.out, runTo_no _ _ _ hlt2 (by rw [HCJ.out, HB2.out]; rfl)]), rfl⟩
                | false =>
                  have HB2 := Lib.hid hbl2
                  go_wp2_with (go_at_call 36; refine (blank_any cj _).mono ?_; rintro e w' ⟨rfl, rfl⟩)
                  go_round
                  case rel => exact ⟨j + 1, by omega, by omega, by rw [runTo_yes _ _ _ hlt2 (by rw [HCJ.out, HB2.out]; rfl)]; exact HJ.out, by go_num⟩
                  case measure => simp [intOf]; omega
              · obtain rfl : j = b.length := by omega
                go_wp2_with fail
                go_meet
                exact ⟨congrArg (fun x : Nat => Value.int .i64 (x : Int)) (by rw [← HJ.out, runTo_end]), rfl⟩
        · obtain rfl : k = b.length := by omega
          have HE1 : Hid (runTo Ord.blank b a = b.length) := by show runTo Ord.blank b a = _; rw [← HK.out, runTo_end]
          go_wp2_with fail
          refine wp_loop_rounds 1 ?_; rw [rounds_succ]
          go_wp2_with fail
          go_meet
          exact ⟨congrArg (fun x : Nat => Value.int .i64 (x : Int)) (by rw [HE.out, HE1.out, runTo_end]), rfl⟩
    case rest =>
      obtain ⟨rfl, rfl⟩ := hcut
      have hel : Ord.fieldEnd sep b a ≤ b.length := by rw [HE.out]; exact runTo_le _ _ _ (runTo_le _ _ _ hab)
      obtain ⟨E, hE⟩ : ∃ E, E = Ord.fieldEnd sep b a := ⟨_, rfl⟩
      rw [← hE] at hel
      rw [← hE]
      have HEE := Lib.hid hE; clear hE
      by_cases hm1 : m = 1
      · have hm' : ((m : Int) - 1 == 0) = true := by rw [beq_iff_eq]; omega
        have HM := Lib.hid hm1; clear hm1
        go_wp2_with fail
        go_ret3
        refine ⟨?_, Drawn.refl _⟩
        unfold fieldVal
        rw [← HF.out, HM.out, field_end, ← HEE.out]; rfl
      · have hm' : ((m : Int) - 1 == 0) = false := by rw [beq_eq_false_iff_ne]; omega
        by_cases hEl : E = b.length
        · have hE' : ((E : Int) == (b.length : Int)) = true := by rw [beq_iff_eq]; omega
          have HEl := Lib.hid hEl; clear hEl
          go_wp2_with fail
          go_ret3
          refine ⟨?_, Drawn.refl _⟩
          unfold fieldVal
          rw [← HF.out, field_none _ _ _ _ (by omega) (by rw [← HEE.out]; exact HEl.out)]; rfl
        · have hE' : ((E : Int) == (b.length : Int)) = false := by rw [beq_eq_false_iff_ne]; omega
          go_wp2_with fail
          go_round
          case rel =>
            refine ⟨m - 1, E, by omega, by omega, hel, ?_, by go_num, rfl⟩
            rw [← HF.out, field_next _ _ m a (by omega) (by rw [← HEE.out]; exact hEl), if_neg (by omega), ← HEE.out]
          case measure => simp [intOf]; omega

set_option maxHeartbeats 1600000 in
set_option maxRecDepth 100000 in
theorem field_blank0 (ob : Nat) (sep : Int) (hsep : sep < 0) (p : Option Addr) (cap n : Nat) (w : World) (hs : w.cell? ⟨ob, 1, none⟩ = some (.int .i64 sep)) (hn : 1 ≤ n) (hn2 : n ≤ 2147483647) :
    Calls Tryd.prog 25 #[.pointer (some ⟨ob, 0, none⟩), .slice p 0 cap, .int .i64 n] w fun e w' => e = .returned (fieldVal sep [] n) ∧ Drawn w w' := by
  have hsd : decide (0 ≤ sep) = false := by simp; omega
  have he : Ord.fieldEnd sep [] 0 = 0 := by rw [fieldEnd_blank sep hsep]; rfl
  have HE := Lib.hid he; clear he
  by_cases hm1 : n = 1
  · subst hm1
    go_enter Tryd.func25, Tryd.ntmps25
    go_wp2_with fail
    refine wp_loop_rounds 1 ?_; rw [rounds_succ]
    go_wp2_with fail
    refine wp_loop_rounds 1 ?_; rw [rounds_succ]
    go_wp2_with fail
    refine wp_loop_rounds 1 ?_; rw [rounds_succ]
    go_wp2_with fail
    go_ret3
    refine ⟨?_, Drawn.refl _⟩
    unfold fieldVal
    rw [field_end, HE.out]; rfl
  · have hm' : ((n : Int) - 1 == 0) = false := by rw [beq_eq_false_iff_ne]; omega
    go_enter Tryd.func25, Tryd.ntmps25
    go_wp2_with fail
    refine wp_loop_rounds 1 ?_; rw [rounds_succ]
    go_wp2_with fail
    refine wp_loop_rounds 1 ?_; rw [rounds_succ]
    go_wp2_with fail
    refine wp_loop_rounds 1 ?_; rw [rounds_succ]
    go_wp2_with fail
    go_ret3
    refine ⟨?_, Drawn.refl _⟩
    unfold fieldVal
    rw [field_none _ _ _ _ (by omega) (by rw [HE.out]; rfl)]; rfl

theorem field_any (ob : Nat) (sep : Int) (hs0 : -1 ≤ sep) (hs1 : sep < 256) (b : Ord.Bytes) (p : Option Addr) (cap n : Nat) (w : World) (hs : w.cell? ⟨ob, 1, none⟩ = some (.int .i64 sep)) (hb : Bs w p b) (hp : p = none → cap = 0)
    (hc : b.length ≤ cap) (hl : b.length ≤ 140737488351232) (hn : 1 ≤ n) (hn2 : n ≤ 2147483647) :
    Calls Tryd.prog 25 #[.pointer (some ⟨ob, 0, none⟩), .slice p b.length cap, .int .i64 n] w fun e w' => e = .returned (fieldVal sep b n) ∧ Drawn w w' := by
  by_cases h0 : 0 ≤ sep
  · obtain ⟨c, rfl⟩ : ∃ c : UInt8, sep = (c.toNat : Int) := ⟨sep.toNat.toUInt8, by simp; omega⟩
    exact field_sep ob c b p cap n w hs hb hp hc hl hn hn2
  · by_cases hb0 : b.length = 0
    · obtain rfl : b = [] := List.eq_nil_of_length_eq_zero hb0
      exact field_blank0 ob sep (by omega) p cap n w hs hn hn2
    · obtain ⟨bb, bo, rfl, hcell⟩ := hb (by omega)
      exact field_blank1 ob sep (by omega) b bb bo cap n w hs hcell hl hn hn2

end Go.Proofs.YtnhopkjichgckaaDoor
