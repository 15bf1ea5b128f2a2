/-
  The walks of regex's small functions: classes of bytes, fail. No condition.
-/
import Derived.Test.YthdkbbkkijdhfaaGreatDoorBase
import Derived.Test.YthdkbbkkijdhfaaGreatDoorSpec
namespace Go.Proofs.YthdkbbkkijdhfaaGreatDoor
open Go.RowKit

/-- What a reader gives up with. -/
def brokenV : Value := .iface 98 (.agg #[])

theorem fail_any (w : World) : Calls Tryz.prog 55 #[] w fun e w' => e = .panicked [{ v := brokenV, recovered := false }] ∧ w = w' := by
  go_enter Tryz.func55, Tryz.ntmps55
  go_wp2
  exact ⟨rfl, rfl, rfl⟩

theorem in_any (c a b : UInt8) (w : World) : Calls Tryz.prog 127 #[.int .u8 c.toNat, .int .u8 a.toNat, .int .u8 b.toNat] w fun e w' => e = .returned (.bool (Rx.within c a b)) ∧ w = w' := by
  have HV : Hid (Rx.within c a b = (decide ((a.toNat : Int) ≤ c.toNat) && decide ((c.toNat : Int) ≤ b.toNat))) := by
    show _ = _
    simp only [Rx.within, u8_le]
  go_enter Tryz.func127, Tryz.ntmps127
  go_wp2
  all_goals
    go_ret
    refine ⟨ret_bool ?_, rfl⟩
    rw [HV.out]
    first | (simp [*]; done) | (simp [*]; omega)

theorem digit_any (c : UInt8) (w : World) : Calls Tryz.prog 117 #[.int .u8 c.toNat] w fun e w' => e = .returned (.bool (Rx.digit c)) ∧ w = w' := by
  have h := in_any c 48 57
  go_enter Tryz.func117, Tryz.ntmps117
  go_wp2_with fail
  refine (h _).mono ?_
  rintro e w' ⟨rfl, rfl⟩
  go_wp2_with fail
  go_ret
  exact ⟨rfl, rfl⟩

theorem graph_any (c : UInt8) (w : World) : Calls Tryz.prog 134 #[.int .u8 c.toNat] w fun e w' => e = .returned (.bool (Rx.graph c)) ∧ w = w' := by
  have h := in_any c 33 126
  go_enter Tryz.func134, Tryz.ntmps134
  go_wp2_with fail
  refine (h _).mono ?_
  rintro e w' ⟨rfl, rfl⟩
  go_wp2_with fail
  go_ret
  exact ⟨rfl, rfl⟩

theorem or32 (c : UInt8) : bits .or .u8 (c.toNat : Int) 32 = ((c ||| 0x20).toNat : Int) := u8_or c 0x20

theorem letter_any (c : UInt8) (w : World) : Calls Tryz.prog 116 #[.int .u8 c.toNat] w fun e w' => e = .returned (.bool (Rx.letter c)) ∧ w = w' := by
  have h := in_any (c ||| 0x20) 97 122
  rw [← or32] at h
  have HV : Hid (Rx.letter c = (Rx.within (c ||| 0x20) 97 122 && decide ((c.toNat : Int) < 128))) := by
    show _ = _
    unfold Rx.letter
    simp only [u8_lt]; rfl
  generalize Rx.within (c ||| 0x20) 97 122 = x at *
  go_enter Tryz.func116, Tryz.ntmps116
  go_wp2_with fail
  refine (h _).mono ?_
  rintro e w' ⟨rfl, rfl⟩
  go_wp2_with fail
  all_goals
    go_ret
    refine ⟨ret_bool ?_, rfl⟩
    rw [HV.out]
    first | (simp [*]; done) | (simp [*]; omega)

theorem alnum_any (c : UInt8) (w : World) : Calls Tryz.prog 103 #[.int .u8 c.toNat] w fun e w' => e = .returned (.bool (Rx.alnum c)) ∧ w = w' := by
  have h1 := letter_any c
  have h2 := digit_any c
  have HV : Hid (Rx.alnum c = (Rx.letter c || Rx.digit c)) := rfl
  generalize Rx.letter c = x at *
  generalize Rx.digit c = y at *
  go_enter Tryz.func103, Tryz.ntmps103
  go_wp2_with fail
  refine (h1 _).mono ?_
  rintro e w' ⟨rfl, rfl⟩
  cases x with
  | true =>
    go_wp2_with fail
    go_ret
    exact ⟨ret_bool (by rw [HV.out]; rfl), rfl⟩
  | false =>
    go_wp2_with fail
    refine (h2 _).mono ?_
    rintro e w' ⟨rfl, rfl⟩
    go_wp2_with fail
    go_ret
    exact ⟨ret_bool (by rw [HV.out]; rfl), rfl⟩

/-! The classes' own functions. -/
theorem upper_any (c : UInt8) (w : World) : Calls Tryz.prog 135 #[.int .u8 c.toNat] w fun e w' => e = .returned (.bool (Rx.within c 65 90)) ∧ w = w' := by
  have h := in_any c 65 90
  go_enter Tryz.func135, Tryz.ntmps135
  go_wp2_with fail
  refine (h _).mono ?_
  rintro e w' ⟨rfl, rfl⟩
  go_wp2_with fail
  go_ret
  exact ⟨rfl, rfl⟩
theorem lower_any (c : UInt8) (w : World) : Calls Tryz.prog 136 #[.int .u8 c.toNat] w fun e w' => e = .returned (.bool (Rx.within c 97 122)) ∧ w = w' := by
  have h := in_any c 97 122
  go_enter Tryz.func136, Tryz.ntmps136
  go_wp2_with fail
  refine (h _).mono ?_
  rintro e w' ⟨rfl, rfl⟩
  go_wp2_with fail
  go_ret
  exact ⟨rfl, rfl⟩
theorem blank_any (c : UInt8) (w : World) : Calls Tryz.prog 137 #[.int .u8 c.toNat] w fun e w' => e = .returned (.bool (c == 32 || c == 9)) ∧ w = w' := by
  have HV : Hid ((c == 32 || c == 9) = (decide ((c.toNat : Int) = 32) || decide ((c.toNat : Int) = 9))) := by
    show _ = _
    rw [u8_beq, u8_beq]; rfl
  go_enter Tryz.func137, Tryz.ntmps137
  go_wp2
  all_goals
    go_ret
    refine ⟨ret_bool ?_, rfl⟩
    rw [HV.out, Bool.eq_iff_iff]
    simp
    omega
theorem space_any (c : UInt8) (w : World) : Calls Tryz.prog 138 #[.int .u8 c.toNat] w fun e w' => e = .returned (.bool (c == 32 || Rx.within c 9 13)) ∧ w = w' := by
  have h := in_any c 9 13
  have HV : Hid ((c == 32 || Rx.within c 9 13) = (decide ((c.toNat : Int) = 32) || Rx.within c 9 13)) := by
    show _ = _
    rw [u8_beq]; rfl
  generalize Rx.within c 9 13 = x at *
  by_cases h32 : (c.toNat : Int) = 32
  · have h32' : ((c.toNat : Int) == 32) = true := by simpa using h32
    have H32 := Lib.hid h32; clear h32
    go_enter Tryz.func138, Tryz.ntmps138
    go_wp2_with fail
    go_ret
    exact ⟨ret_bool (by rw [HV.out]; simp [H32.out]), rfl⟩
  · have h32' : ((c.toNat : Int) == 32) = false := by simpa using h32
    have H32 := Lib.hid h32; clear h32
    go_enter Tryz.func138, Tryz.ntmps138
    go_wp2_with fail
    refine (h _).mono ?_
    rintro e w' ⟨rfl, rfl⟩
    go_wp2_with fail
    go_ret
    exact ⟨ret_bool (by rw [HV.out]; simp [H32.out]), rfl⟩
theorem cntrl_any (c : UInt8) (w : World) : Calls Tryz.prog 139 #[.int .u8 c.toNat] w fun e w' => e = .returned (.bool (decide (c < 32) || c == 127)) ∧ w = w' := by
  have HV : Hid ((decide (c < 32) || c == 127) = (decide ((c.toNat : Int) < 32) || decide ((c.toNat : Int) = 127))) := by
    show _ = _
    simp only [u8_beq, u8_lt]; rfl
  go_enter Tryz.func139, Tryz.ntmps139
  go_wp2
  all_goals
    go_ret
    refine ⟨ret_bool ?_, rfl⟩
    rw [HV.out, Bool.eq_iff_iff]
    simp
    omega
theorem print_any (c : UInt8) (w : World) : Calls Tryz.prog 140 #[.int .u8 c.toNat] w fun e w' => e = .returned (.bool (Rx.within c 32 126)) ∧ w = w' := by
  have h := in_any c 32 126
  go_enter Tryz.func140, Tryz.ntmps140
  go_wp2_with fail
  refine (h _).mono ?_
  rintro e w' ⟨rfl, rfl⟩
  go_wp2_with fail
  go_ret
  exact ⟨rfl, rfl⟩
theorem punct_any (c : UInt8) (w : World) : Calls Tryz.prog 141 #[.int .u8 c.toNat] w fun e w' => e = .returned (.bool (Rx.graph c && !Rx.alnum c)) ∧ w = w' := by
  have h1 := graph_any c
  have h2 := alnum_any c
  generalize Rx.graph c = x at *
  generalize Rx.alnum c = y at *
  go_enter Tryz.func141, Tryz.ntmps141
  go_wp2_with fail
  refine (h1 _).mono ?_
  rintro e w' ⟨rfl, rfl⟩
  cases x with
  | false =>
    go_wp2_with fail
    go_ret
    exact ⟨rfl, rfl⟩
  | true =>
    go_wp2_with fail
    refine (h2 _).mono ?_
    rintro e w' ⟨rfl, rfl⟩
    go_wp2_with fail
    go_ret
    exact ⟨rfl, rfl⟩
theorem xdigit_any (c : UInt8) (w : World) : Calls Tryz.prog 142 #[.int .u8 c.toNat] w fun e w' => e = .returned (.bool (Rx.digit c || Rx.within (c ||| 0x20) 97 102)) ∧ w = w' := by
  have h1 := digit_any c
  have h2 := in_any (c ||| 0x20) 97 102
  rw [← or32] at h2
  generalize Rx.digit c = x at *
  generalize Rx.within (c ||| 0x20) 97 102 = y at *
  go_enter Tryz.func142, Tryz.ntmps142
  go_wp2_with fail
  refine (h1 _).mono ?_
  rintro e w' ⟨rfl, rfl⟩
  cases x with
  | true =>
    go_wp2_with fail
    go_ret
    exact ⟨rfl, rfl⟩
  | false =>
    go_wp2_with fail
    refine (h2 _).mono ?_
    rintro e w' ⟨rfl, rfl⟩
    go_wp2_with fail
    go_ret
    exact ⟨rfl, rfl⟩

end Go.Proofs.YthdkbbkkijdhfaaGreatDoor
