/-
  The walks of word's small functions: fail, head, digit, named, special. No condition.
-/
import Derived.Test.YtfoehfehnmhhmaaGreatDoorBase
import Derived.Test.YtfoehfehnmhhmaaGreatDoorSpec
namespace Go.Proofs.YtfoehfehnmhhmaaGreatDoor
open Go.RowKit Go.Shelf

/-- What a word is given up with. -/
def brokenV (e : Int) : Value := .iface 63 (.agg #[.int .i64 e])
def Fails (k : Int) (e : Ending) : Prop := e = .panicked [{ v := brokenV k, recovered := false }]

theorem fail_any (k : Int) (w : World) : Calls Tryz.prog 54 #[.int .i64 k] w fun e w' => e = .panicked [{ v := brokenV k, recovered := false }] ∧ w' = w := by
  go_enter Tryz.func54, Tryz.ntmps54
  go_wp2
  exact ⟨rfl, rfl, rfl⟩

theorem u8_all {p : UInt8 → Bool} (h : (List.range 256).all (fun n => p (UInt8.ofNat n)) = true) : ∀ c, p c = true := by
  intro c
  have := List.all_eq_true.1 h c.toNat (List.mem_range.2 c.toNat_lt)
  simpa using this
theorem head_nat (c : UInt8) : Wd.head c = ((decide (97 ≤ c.toNat) && decide (c.toNat ≤ 122)) || ((decide (65 ≤ c.toNat) && decide (c.toNat ≤ 90)) || decide (c.toNat = 95))) := by
  have h := u8_all (p := fun c => Wd.head c == ((decide (97 ≤ c.toNat) && decide (c.toNat ≤ 122)) || ((decide (65 ≤ c.toNat) && decide (c.toNat ≤ 90)) || decide (c.toNat = 95)))) (by decide +kernel) c
  exact eq_of_beq h
theorem digit_nat (c : UInt8) : Wd.digit c = (decide (48 ≤ c.toNat) && decide (c.toNat ≤ 57)) := by
  have h := u8_all (p := fun c => Wd.digit c == (decide (48 ≤ c.toNat) && decide (c.toNat ≤ 57))) (by decide +kernel) c
  exact eq_of_beq h

theorem head_any (c : UInt8) (w : World) : Calls Tryz.prog 45 #[.int .u8 c.toNat] w fun e w' => e = .returned (.bool (Wd.head c)) ∧ w' = w := by
  have HL := Lib.hid (head_nat c)
  generalize Wd.head c = R at *
  generalize c.toNat = n at *
  go_enter Tryz.func45, Tryz.ntmps45
  go_wp2_with fail
  all_goals go_ret
  all_goals
    refine ⟨ret_bool ?_, rfl⟩
    rw [HL.out]
    first | (simp [*]; done) | (simp [*]; omega) | (rw [Bool.eq_iff_iff]; simp; omega)
theorem digit_any (c : UInt8) (w : World) : Calls Tryz.prog 46 #[.int .u8 c.toNat] w fun e w' => e = .returned (.bool (Wd.digit c)) ∧ w' = w := by
  have HL := Lib.hid (digit_nat c)
  generalize Wd.digit c = R at *
  generalize c.toNat = n at *
  go_enter Tryz.func46, Tryz.ntmps46
  go_wp2_with fail
  all_goals go_ret
  all_goals
    refine ⟨ret_bool ?_, rfl⟩
    rw [HL.out]
    first | (simp [*]; done) | (simp [*]; omega) | (rw [Bool.eq_iff_iff]; simp; omega)

end Go.Proofs.YtfoehfehnmhhmaaGreatDoor
