/-
  Walks of the small functions of package order. Conditions: none beyond the arguments' own.
-/
import Derived.Test.YtnhopkjichgckaaDoorBase
import Derived.Test.YtnhopkjichgckaaDoorSpec
namespace Go.Proofs.YtnhopkjichgckaaDoor
open Go.RowKit

theorem blank_any (c : UInt8) (w : World) : Calls Tryd.prog 36 #[.int .u8 c.toNat] w fun e w' => e = .returned (.bool (Ord.blank c)) ∧ w = w' := by
  have hb : Ord.blank c = ((c.toNat : Int) == 32 || (c.toNat : Int) == 9) := by simp only [Ord.blank, u8_beq]; rfl
  rw [hb]; clear hb
  go_enter Tryd.func36, Tryd.ntmps36
  go_wp2
  all_goals
    go_ret
    exact ⟨by simp [*], rfl⟩

theorem flag_any (c : UInt8) (b : Int) (w : World) : Calls Tryd.prog 15 #[.int .u8 c.toNat, .int .i64 b] w fun e w' => e = .returned (.int .i64 (Ord.flag c b)) ∧ w = w' := by
  have hb : Ord.flag c b = (if (c.toNat : Int) == 98 then b else if (c.toNat : Int) == 100 then 4 else if (c.toNat : Int) == 102 then 8 else if (c.toNat : Int) == 105 then 16
    else if (c.toNat : Int) == 110 then 32 else if (c.toNat : Int) == 114 then 64 else 0) := by simp only [Ord.flag, u8_beq]; rfl
  have HB := Lib.hid hb; clear hb
  go_enter Tryd.func15, Tryd.ntmps15
  go_wp2
  all_goals
    go_ret
    refine ⟨?_, rfl⟩
    rw [HB.out]; simp only [*, if_true, if_false, Bool.false_eq_true]; rfl

theorem sign_any (n : Int) (w : World) : Calls Tryd.prog 8 #[.int .i64 n] w fun e w' => e = .returned (.int .i64 (Ord.sign n)) ∧ w = w' := by
  go_enter Tryd.func8, Tryd.ntmps8
  go_wp2
  all_goals
    go_ret
    refine ⟨ret_int ?_, rfl⟩
    unfold Ord.sign
    repeat' split
    all_goals omega

/-- inner: from a place up to another one. -/
theorem inner_any (b : Ord.Bytes) (p : Option Addr) (cap f t : Nat) (w : World) (hb : Bs w p b) (hft : f ≤ t) (ht : t ≤ b.length) (hl : b.length ≤ 4611686018427387904) :
    Calls Tryd.prog 26 #[.slice p b.length cap, .int .i64 f, .int .i64 t] w fun e w' => e = .returned (.int .i64 (Ord.inner b f t)) ∧ w = w' := by
  by_cases h0 : b.length = 0
  · obtain rfl : t = 0 := by omega
    obtain rfl : f = 0 := by omega
    go_enter Tryd.func26, Tryd.ntmps26
    go_wp2_with fail
    refine wp_loop_rounds 1 ?_; rw [rounds_succ]
    go_wp2
    go_ret
    exact ⟨by rw [Ord.inner_end]; rfl, rfl⟩
  · obtain ⟨bb, bo, rfl, hc⟩ := hb (by omega)
    have HL := Lib.hid h0; clear h0
    go_enter Tryd.func26, Tryd.ntmps26
    go_wp2_with fail
    go_loop [1] (fun i => ∃ k : Nat, f ≤ k ∧ k ≤ t ∧ Ord.inner b k t = Ord.inner b f t ∧ i = .int .i64 k) (fun i => t - (intOf i).toNat)
    case atStart => exact ⟨f, Nat.le_refl _, hft, rfl, rfl⟩
    case round =>
      obtain ⟨k, hk1, hk2, hk3, rfl⟩ := hrel
      have HK := Lib.hid hk3; clear hk3
      by_cases hlt : k < t
      · have hcell := hc k (by omega)
        go_wp2_with (go_at_call 36; refine (blank_any (b.getD k 0) _).mono ?_; rintro e w' ⟨rfl, rfl⟩)
        · have hy : Ord.blank (b[k]?.getD 0) = true := by assumption
          go_round
          case rel => exact ⟨k + 1, by omega, by omega, by rw [Ord.inner_yes b k t hlt ht (by simpa using hy)]; exact HK.out, by go_num⟩
          case measure => simp [intOf]; omega
        · have hy : Ord.blank (b[k]?.getD 0) = false := by assumption
          go_ret
          exact ⟨ret_int (by rw [← HK.out, Ord.inner_no b k t hlt ht (by simpa using hy)]), rfl⟩
      · go_wp2_with fail
        go_ret
        obtain rfl : k = t := by omega
        exact ⟨ret_int (by rw [← HK.out, Ord.inner_end]), rfl⟩

/-- How a key is compared: a function in a field. -/
def cmpFn (b : Nat) (fl : Int) : Value := if Ord.has fl 32 then .func (.func 23) #[] #[] else .func (.func 22) #[.pointer (some ⟨b, 0, none⟩)] #[]
/-- A key's cells. -/
def keyCells (k : Ord.Key) (v : Value) : Array Value := #[.int .i64 k.from_.f, .int .i64 k.from_.c, .int .i64 k.to_.f, .int .i64 k.to_.c, .int .i64 k.fl, v]
/-- A key in memory: where it comes from and goes to, its flags, and how it is compared. -/
def KeyAt (w : World) (b : Nat) (k : Ord.Key) : Prop := Blk w b (keyCells k (cmpFn b k.fl)) 51

theorem digit_int (c : UInt8) : Ord.digit c = (decide ((48 : Int) ≤ c.toNat) && decide ((c.toNat : Int) ≤ 57)) := by
  simp only [Ord.digit, u8_le]; rfl
theorem digit_no {c : UInt8} (h : (c.toNat : Int) < 48 ∨ 57 < (c.toNat : Int)) : Ord.digit c = false := by
  rw [digit_int]; simp; omega
theorem digit_yes {c : UInt8} (h : (48 : Int) ≤ c.toNat) (h' : (c.toNat : Int) ≤ 57) : Ord.digit c = true := by
  rw [digit_int]; simp; omega
theorem low_int (c : UInt8) : Ord.low c = (decide ((97 : Int) ≤ c.toNat) && decide ((c.toNat : Int) ≤ 122)) := by
  simp only [Ord.low, u8_le]; rfl
theorem lowor_int (c : UInt8) : Ord.low (c ||| 32) = (decide ((97 : Int) ≤ bits .or .u8 c.toNat 32) && decide (bits .or .u8 c.toNat 32 ≤ 122)) := by
  rw [low_int, ← u8_or]; rfl
theorem print_int (c : UInt8) : (decide (32 ≤ c) && decide (c ≤ 126)) = (decide ((32 : Int) ≤ c.toNat) && decide ((c.toNat : Int) ≤ 126)) := by
  simp only [u8_le]; rfl

/-- counts -/
theorem counts_any (b : Nat) (k : Ord.Key) (c : UInt8) (w : World) (hk : KeyAt w b k) :
    Calls Tryd.prog 41 #[.pointer (some ⟨b, 0, none⟩), .int .u8 c.toNat] w fun e w' => e = .returned (.bool (Ord.counts k.fl c)) ∧ w = w' := by
  have hfl : w.cell? ⟨b, 4, none⟩ = some (.int .i64 k.fl) := Blk.cell hk 4 rfl
  go_enter Tryd.func41, Tryd.ntmps41
  go_upto_region 1 with (fail)
  go_cut [5] (fun s5 wx => s5 = .bool (Ord.digit c || Ord.low (c ||| 32) || Ord.blank c) ∧ w = wx)
  case first =>
    go_wp2_with (go_at_call 36; refine (blank_any c _).mono ?_; rintro e w' ⟨rfl, rfl⟩)
    all_goals
      go_meet
      refine ⟨congrArg Value.bool ?_, rfl⟩
      rw [Bool.eq_iff_iff]
      simp only [digit_int, lowor_int, Bool.or_eq_true, Bool.and_eq_true, decide_eq_true_eq]
      cases Ord.blank c <;> simp <;> omega
  case rest =>
    obtain ⟨rfl, rfl⟩ := hcut
    have HW : Hid (Ord.counts k.fl c = ((!Ord.has k.fl 4 || (Ord.digit c || Ord.low (c ||| 32) || Ord.blank c)) && (!Ord.has k.fl 16 || (decide (32 ≤ c) && decide (c ≤ 126))))) := rfl
    rw [print_int] at HW
    generalize (Ord.digit c || Ord.low (c ||| 32) || Ord.blank c) = wd at HW ⊢
    go_wp2
    all_goals
      go_ret
      refine ⟨ret_bool ?_, rfl⟩
      rw [HW.out]
      simp only [Ord.has]
      first
        | (simp [*]; done)
        | (simp [*]; omega)

end Go.Proofs.YtnhopkjichgckaaDoor
