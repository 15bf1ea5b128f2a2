/-
  Texts of this seat put together: R4, R5, R6.
-/
import Derived.Test.YthdkbbkkijdhfaaGreatDoorH17

/-
  The walks of the reference's between and Class. No condition.
-/

namespace Go.Proofs.YthdkbbkkijdhfaaGreatDoor
open Go.RowKit Go.Shelf Go.Maps

def btw (c a b : Nat) : Bool := decide (a ≤ c) && decide (c ≤ b)

theorem between_any (c a b : Nat) (w : World) : Calls Tryz.prog 119 #[.int .u8 c, .int .u8 a, .int .u8 b] w fun e w' => e = .returned (.bool (btw c a b)) ∧ w' = w := by
  have HB : Hid (btw c a b = (decide (a ≤ c) && decide (c ≤ b))) := rfl
  generalize btw c a b = R at *
  go_enter Tryz.func119, Tryz.ntmps119
  go_wp2_with fail
  all_goals go_ret
  all_goals
    refine ⟨ret_bool ?_, rfl⟩
    rw [HB.out]
    first | (simp [*]; done) | (simp [*]; omega) | (rw [Bool.eq_iff_iff]; simp; omega)

/-- The document's classes. -/
def rcls (t : Rx.Bytes) (c : Nat) : Bool :=
  if t = [97, 108, 112, 104, 97] then btw c 65 90 || btw c 97 122
  else if t = [100, 105, 103, 105, 116] then btw c 48 57
  else if t = [97, 108, 110, 117, 109] then btw c 65 90 || (btw c 97 122 || btw c 48 57)
  else if t = [117, 112, 112, 101, 114] then btw c 65 90
  else if t = [108, 111, 119, 101, 114] then btw c 97 122
  else if t = [98, 108, 97, 110, 107] then c == 9 || c == 32
  else if t = [115, 112, 97, 99, 101] then (decide (9 ≤ c) && decide (c ≤ 13)) || c == 32
  else if t = [99, 110, 116, 114, 108] then decide (c < 32) || c == 127
  else if t = [112, 114, 105, 110, 116] then decide (32 ≤ c) && decide (c < 127)
  else if t = [103, 114, 97, 112, 104] then decide (32 < c) && decide (c < 127)
  else if t = [112, 117, 110, 99, 116] then decide (32 < c) && decide (c < 127) && !btw c 65 90 && !btw c 97 122 && !btw c 48 57
  else if t = [120, 100, 105, 103, 105, 116] then btw c 48 57 || (decide (65 ≤ c) && decide (c ≤ 70)) || (decide (97 ≤ c) && decide (c ≤ 102))
  else false

def rknown (t : Rx.Bytes) : Bool := [[97, 108, 112, 104, 97], [100, 105, 103, 105, 116], [97, 108, 110, 117, 109], [117, 112, 112, 101, 114], [108, 111, 119, 101, 114], [98, 108, 97, 110, 107], [115, 112, 97, 99, 101], [99, 110, 116, 114, 108], [112, 114, 105, 110, 116], [103, 114, 97, 112, 104], [112, 117, 110, 99, 116], [120, 100, 105, 103, 105, 116]].contains t

theorem rcls_all : ([[97, 108, 112, 104, 97], [100, 105, 103, 105, 116], [97, 108, 110, 117, 109], [117, 112, 112, 101, 114], [108, 111, 119, 101, 114], [98, 108, 97, 110, 107], [115, 112, 97, 99, 101], [99, 110, 116, 114, 108], [112, 114, 105, 110, 116], [103, 114, 97, 112, 104], [112, 117, 110, 99, 116], [120, 100, 105, 103, 105, 116]] : List Rx.Bytes).all (fun t => (List.range 256).all fun n => (Rx.classOf t).any fun k => k (UInt8.ofNat n) == rcls t n) = true := by decide +kernel

/-- The program's classes are the document's. -/
theorem classOf_rcls (t : Rx.Bytes) (h : rknown t = true) : ∃ k, Rx.classOf t = some k ∧ ∀ c : UInt8, k c = rcls t c.toNat := by
  have hm : t ∈ ([[97, 108, 112, 104, 97], [100, 105, 103, 105, 116], [97, 108, 110, 117, 109], [117, 112, 112, 101, 114], [108, 111, 119, 101, 114], [98, 108, 97, 110, 107], [115, 112, 97, 99, 101], [99, 110, 116, 114, 108], [112, 114, 105, 110, 116], [103, 114, 97, 112, 104], [112, 117, 110, 99, 116], [120, 100, 105, 103, 105, 116]] : List Rx.Bytes) := by
    unfold rknown at h
    exact List.contains_iff_mem.1 h
  have h1 := List.all_eq_true.1 rcls_all t hm
  cases hk : Rx.classOf t with
  | none =>
    rw [hk] at h1
    have := List.all_eq_true.1 h1 0 (by simp)
    simp at this
  | some k =>
    refine ⟨k, rfl, fun c => ?_⟩
    rw [hk] at h1
    have := List.all_eq_true.1 h1 c.toNat (List.mem_range.2 c.toNat_lt)
    simpa using this
theorem classOf_unknown (t : Rx.Bytes) (h : rknown t = false) : Rx.classOf t = none := by
  unfold rknown at h
  simp at h
  unfold Rx.classOf
  simp [h]

set_option maxHeartbeats 6400000 in
set_option maxRecDepth 100000 in
theorem rclass_any (t : Rx.Bytes) (n : Nat) (w : World) : Calls Tryz.prog 111 #[.string ⟨t.toArray⟩, .int .u8 n] w fun e w' => e = .returned (.bool (rcls t n)) ∧ w' = w := by
  have b1 := between_any n 65 90
  have b2 := between_any n 97 122
  have b3 := between_any n 48 57
  obtain ⟨U, hU⟩ : ∃ U, btw n 65 90 = U := ⟨_, rfl⟩
  obtain ⟨L, hL⟩ : ∃ L, btw n 97 122 = L := ⟨_, rfl⟩
  obtain ⟨D, hD⟩ : ∃ D, btw n 48 57 = D := ⟨_, rfl⟩
  rw [hU] at b1
  rw [hL] at b2
  rw [hD] at b3
  have HU := Lib.hid hU
  have HL := Lib.hid hL
  have HD := Lib.hid hD
  clear hU hL hD
  by_cases t0 : t = [97, 108, 112, 104, 97]
  · skip
    subst t0
    have HP : Hid (rcls [97, 108, 112, 104, 97] n = (U || L)) := by
      show _ = _
      try rw [← HU.out]
      try rw [← HL.out]
      try rw [← HD.out]
      rfl
    generalize rcls [97, 108, 112, 104, 97] n = R at *
    go_enter Tryz.func111, Tryz.ntmps111
    go_wp2_with fail
    refine (b1 w).mono ?_
    rintro e w1 ⟨rfl, rfl⟩
    go_wp2_with fail
    refine (b2 w1).mono ?_
    rintro e w2 ⟨rfl, rfl⟩
    go_wp2_with fail
    refine (b3 w2).mono ?_
    rintro e w3 ⟨rfl, rfl⟩
    go_wp2_with fail
    all_goals go_ret
    all_goals
      refine ⟨ret_bool ?_, rfl⟩
      rw [HP.out] <;>
      first | rfl | (simp [*]; done) | (simp [*]; omega; done) | (rw [Bool.eq_iff_iff]; simp [*]; done) | (rw [Bool.eq_iff_iff]; simp [*]; omega)
  by_cases t1 : t = [100, 105, 103, 105, 116]
  · clear t0
    subst t1
    have HP : Hid (rcls [100, 105, 103, 105, 116] n = (D)) := by
      show _ = _
      try rw [← HU.out]
      try rw [← HL.out]
      try rw [← HD.out]
      rfl
    generalize rcls [100, 105, 103, 105, 116] n = R at *
    go_enter Tryz.func111, Tryz.ntmps111
    go_wp2_with fail
    refine (b1 w).mono ?_
    rintro e w1 ⟨rfl, rfl⟩
    go_wp2_with fail
    refine (b2 w1).mono ?_
    rintro e w2 ⟨rfl, rfl⟩
    go_wp2_with fail
    refine (b3 w2).mono ?_
    rintro e w3 ⟨rfl, rfl⟩
    go_wp2_with fail
    all_goals go_ret
    all_goals
      refine ⟨ret_bool ?_, rfl⟩
      rw [HP.out] <;>
      first | rfl | (simp [*]; done) | (simp [*]; omega; done) | (rw [Bool.eq_iff_iff]; simp [*]; done) | (rw [Bool.eq_iff_iff]; simp [*]; omega)
  by_cases t2 : t = [97, 108, 110, 117, 109]
  · clear t0 t1
    subst t2
    have HP : Hid (rcls [97, 108, 110, 117, 109] n = (U || (L || D))) := by
      show _ = _
      try rw [← HU.out]
      try rw [← HL.out]
      try rw [← HD.out]
      rfl
    generalize rcls [97, 108, 110, 117, 109] n = R at *
    go_enter Tryz.func111, Tryz.ntmps111
    go_wp2_with fail
    refine (b1 w).mono ?_
    rintro e w1 ⟨rfl, rfl⟩
    go_wp2_with fail
    refine (b2 w1).mono ?_
    rintro e w2 ⟨rfl, rfl⟩
    go_wp2_with fail
    refine (b3 w2).mono ?_
    rintro e w3 ⟨rfl, rfl⟩
    go_wp2_with fail
    all_goals go_ret
    all_goals
      refine ⟨ret_bool ?_, rfl⟩
      rw [HP.out] <;>
      first | rfl | (simp [*]; done) | (simp [*]; omega; done) | (rw [Bool.eq_iff_iff]; simp [*]; done) | (rw [Bool.eq_iff_iff]; simp [*]; omega)
  by_cases t3 : t = [117, 112, 112, 101, 114]
  · clear t0 t1 t2
    subst t3
    have HP : Hid (rcls [117, 112, 112, 101, 114] n = (U)) := by
      show _ = _
      try rw [← HU.out]
      try rw [← HL.out]
      try rw [← HD.out]
      rfl
    generalize rcls [117, 112, 112, 101, 114] n = R at *
    go_enter Tryz.func111, Tryz.ntmps111
    go_wp2_with fail
    refine (b1 w).mono ?_
    rintro e w1 ⟨rfl, rfl⟩
    go_wp2_with fail
    refine (b2 w1).mono ?_
    rintro e w2 ⟨rfl, rfl⟩
    go_wp2_with fail
    refine (b3 w2).mono ?_
    rintro e w3 ⟨rfl, rfl⟩
    go_wp2_with fail
    all_goals go_ret
    all_goals
      refine ⟨ret_bool ?_, rfl⟩
      rw [HP.out] <;>
      first | rfl | (simp [*]; done) | (simp [*]; omega; done) | (rw [Bool.eq_iff_iff]; simp [*]; done) | (rw [Bool.eq_iff_iff]; simp [*]; omega)
  by_cases t4 : t = [108, 111, 119, 101, 114]
  · clear t0 t1 t2 t3
    subst t4
    have HP : Hid (rcls [108, 111, 119, 101, 114] n = (L)) := by
      show _ = _
      try rw [← HU.out]
      try rw [← HL.out]
      try rw [← HD.out]
      rfl
    generalize rcls [108, 111, 119, 101, 114] n = R at *
    go_enter Tryz.func111, Tryz.ntmps111
    go_wp2_with fail
    refine (b1 w).mono ?_
    rintro e w1 ⟨rfl, rfl⟩
    go_wp2_with fail
    refine (b2 w1).mono ?_
    rintro e w2 ⟨rfl, rfl⟩
    go_wp2_with fail
    refine (b3 w2).mono ?_
    rintro e w3 ⟨rfl, rfl⟩
    go_wp2_with fail
    all_goals go_ret
    all_goals
      refine ⟨ret_bool ?_, rfl⟩
      rw [HP.out] <;>
      first | rfl | (simp [*]; done) | (simp [*]; omega; done) | (rw [Bool.eq_iff_iff]; simp [*]; done) | (rw [Bool.eq_iff_iff]; simp [*]; omega)
  by_cases t5 : t = [98, 108, 97, 110, 107]
  · clear t0 t1 t2 t3 t4
    subst t5
    have HP : Hid (rcls [98, 108, 97, 110, 107] n = ((n == 9 || n == 32))) := by
      show _ = _
      try rw [← HU.out]
      try rw [← HL.out]
      try rw [← HD.out]
      rfl
    generalize rcls [98, 108, 97, 110, 107] n = R at *
    go_enter Tryz.func111, Tryz.ntmps111
    go_wp2_with fail
    refine (b1 w).mono ?_
    rintro e w1 ⟨rfl, rfl⟩
    go_wp2_with fail
    refine (b2 w1).mono ?_
    rintro e w2 ⟨rfl, rfl⟩
    go_wp2_with fail
    refine (b3 w2).mono ?_
    rintro e w3 ⟨rfl, rfl⟩
    go_wp2_with fail
    all_goals go_ret
    all_goals
      refine ⟨ret_bool ?_, rfl⟩
      rw [HP.out] <;>
      first | rfl | (simp [*]; done) | (simp [*]; omega; done) | (rw [Bool.eq_iff_iff]; simp [*]; done) | (rw [Bool.eq_iff_iff]; simp [*]; omega)
  by_cases t6 : t = [115, 112, 97, 99, 101]
  · clear t0 t1 t2 t3 t4 t5
    subst t6
    have HP : Hid (rcls [115, 112, 97, 99, 101] n = (((decide (9 ≤ n) && decide (n ≤ 13)) || n == 32))) := by
      show _ = _
      try rw [← HU.out]
      try rw [← HL.out]
      try rw [← HD.out]
      rfl
    generalize rcls [115, 112, 97, 99, 101] n = R at *
    go_enter Tryz.func111, Tryz.ntmps111
    go_wp2_with fail
    refine (b1 w).mono ?_
    rintro e w1 ⟨rfl, rfl⟩
    go_wp2_with fail
    refine (b2 w1).mono ?_
    rintro e w2 ⟨rfl, rfl⟩
    go_wp2_with fail
    refine (b3 w2).mono ?_
    rintro e w3 ⟨rfl, rfl⟩
    go_wp2_with fail
    all_goals go_ret
    all_goals
      refine ⟨ret_bool ?_, rfl⟩
      rw [HP.out] <;>
      first | rfl | (simp [*]; done) | (simp [*]; omega; done) | (rw [Bool.eq_iff_iff]; simp [*]; done) | (rw [Bool.eq_iff_iff]; simp [*]; omega)
  by_cases t7 : t = [99, 110, 116, 114, 108]
  · clear t0 t1 t2 t3 t4 t5 t6
    subst t7
    have HP : Hid (rcls [99, 110, 116, 114, 108] n = ((decide (n < 32) || n == 127))) := by
      show _ = _
      try rw [← HU.out]
      try rw [← HL.out]
      try rw [← HD.out]
      rfl
    generalize rcls [99, 110, 116, 114, 108] n = R at *
    go_enter Tryz.func111, Tryz.ntmps111
    go_wp2_with fail
    refine (b1 w).mono ?_
    rintro e w1 ⟨rfl, rfl⟩
    go_wp2_with fail
    refine (b2 w1).mono ?_
    rintro e w2 ⟨rfl, rfl⟩
    go_wp2_with fail
    refine (b3 w2).mono ?_
    rintro e w3 ⟨rfl, rfl⟩
    go_wp2_with fail
    all_goals go_ret
    all_goals
      refine ⟨ret_bool ?_, rfl⟩
      rw [HP.out] <;>
      first | rfl | (simp [*]; done) | (simp [*]; omega; done) | (rw [Bool.eq_iff_iff]; simp [*]; done) | (rw [Bool.eq_iff_iff]; simp [*]; omega)
  by_cases t8 : t = [112, 114, 105, 110, 116]
  · clear t0 t1 t2 t3 t4 t5 t6 t7
    subst t8
    have HP : Hid (rcls [112, 114, 105, 110, 116] n = ((decide (32 ≤ n) && decide (n < 127)))) := by
      show _ = _
      try rw [← HU.out]
      try rw [← HL.out]
      try rw [← HD.out]
      rfl
    generalize rcls [112, 114, 105, 110, 116] n = R at *
    go_enter Tryz.func111, Tryz.ntmps111
    go_wp2_with fail
    refine (b1 w).mono ?_
    rintro e w1 ⟨rfl, rfl⟩
    go_wp2_with fail
    refine (b2 w1).mono ?_
    rintro e w2 ⟨rfl, rfl⟩
    go_wp2_with fail
    refine (b3 w2).mono ?_
    rintro e w3 ⟨rfl, rfl⟩
    go_wp2_with fail
    all_goals go_ret
    all_goals
      refine ⟨ret_bool ?_, rfl⟩
      rw [HP.out] <;>
      first | rfl | (simp [*]; done) | (simp [*]; omega; done) | (rw [Bool.eq_iff_iff]; simp [*]; done) | (rw [Bool.eq_iff_iff]; simp [*]; omega)
  by_cases t9 : t = [103, 114, 97, 112, 104]
  · clear t0 t1 t2 t3 t4 t5 t6 t7 t8
    subst t9
    have HP : Hid (rcls [103, 114, 97, 112, 104] n = ((decide (32 < n) && decide (n < 127)))) := by
      show _ = _
      try rw [← HU.out]
      try rw [← HL.out]
      try rw [← HD.out]
      rfl
    generalize rcls [103, 114, 97, 112, 104] n = R at *
    go_enter Tryz.func111, Tryz.ntmps111
    go_wp2_with fail
    refine (b1 w).mono ?_
    rintro e w1 ⟨rfl, rfl⟩
    go_wp2_with fail
    refine (b2 w1).mono ?_
    rintro e w2 ⟨rfl, rfl⟩
    go_wp2_with fail
    refine (b3 w2).mono ?_
    rintro e w3 ⟨rfl, rfl⟩
    go_wp2_with fail
    all_goals go_ret
    all_goals
      refine ⟨ret_bool ?_, rfl⟩
      rw [HP.out] <;>
      first | rfl | (simp [*]; done) | (simp [*]; omega; done) | (rw [Bool.eq_iff_iff]; simp [*]; done) | (rw [Bool.eq_iff_iff]; simp [*]; omega)
  by_cases t10 : t = [112, 117, 110, 99, 116]
  · clear t0 t1 t2 t3 t4 t5 t6 t7 t8 t9
    subst t10
    have HP : Hid (rcls [112, 117, 110, 99, 116] n = ((decide (32 < n) && decide (n < 127) && !U && !L && !D))) := by
      show _ = _
      try rw [← HU.out]
      try rw [← HL.out]
      try rw [← HD.out]
      rfl
    generalize rcls [112, 117, 110, 99, 116] n = R at *
    go_enter Tryz.func111, Tryz.ntmps111
    go_wp2_with fail
    refine (b1 w).mono ?_
    rintro e w1 ⟨rfl, rfl⟩
    go_wp2_with fail
    refine (b2 w1).mono ?_
    rintro e w2 ⟨rfl, rfl⟩
    go_wp2_with fail
    refine (b3 w2).mono ?_
    rintro e w3 ⟨rfl, rfl⟩
    go_wp2_with fail
    all_goals go_ret
    all_goals
      refine ⟨ret_bool ?_, rfl⟩
      rw [HP.out] <;>
      first | rfl | (simp [*]; done) | (simp [*]; omega; done) | (rw [Bool.eq_iff_iff]; simp [*]; done) | (rw [Bool.eq_iff_iff]; simp [*]; omega)
  by_cases t11 : t = [120, 100, 105, 103, 105, 116]
  · clear t0 t1 t2 t3 t4 t5 t6 t7 t8 t9 t10
    subst t11
    have HP : Hid (rcls [120, 100, 105, 103, 105, 116] n = ((D || (decide (65 ≤ n) && decide (n ≤ 70)) || (decide (97 ≤ n) && decide (n ≤ 102))))) := by
      show _ = _
      try rw [← HU.out]
      try rw [← HL.out]
      try rw [← HD.out]
      rfl
    generalize rcls [120, 100, 105, 103, 105, 116] n = R at *
    go_enter Tryz.func111, Tryz.ntmps111
    go_wp2_with fail
    refine (b1 w).mono ?_
    rintro e w1 ⟨rfl, rfl⟩
    go_wp2_with fail
    refine (b2 w1).mono ?_
    rintro e w2 ⟨rfl, rfl⟩
    go_wp2_with fail
    refine (b3 w2).mono ?_
    rintro e w3 ⟨rfl, rfl⟩
    go_wp2_with fail
    all_goals go_ret
    all_goals
      refine ⟨ret_bool ?_, rfl⟩
      rw [HP.out] <;>
      first | rfl | (simp [*]; done) | (simp [*]; omega; done) | (rw [Bool.eq_iff_iff]; simp [*]; done) | (rw [Bool.eq_iff_iff]; simp [*]; omega)
  have HP : Hid (rcls t n = false) := by
    show _ = _
    unfold rcls
    simp [*]
  generalize rcls t n = R at *
  have s0 : ((t : Rx.Bytes) == [97, 108, 112, 104, 97]) = false := beq_eq_false_iff_ne.2 t0
  have s1 : ((t : Rx.Bytes) == [100, 105, 103, 105, 116]) = false := beq_eq_false_iff_ne.2 t1
  have s2 : ((t : Rx.Bytes) == [97, 108, 110, 117, 109]) = false := beq_eq_false_iff_ne.2 t2
  have s3 : ((t : Rx.Bytes) == [117, 112, 112, 101, 114]) = false := beq_eq_false_iff_ne.2 t3
  have s4 : ((t : Rx.Bytes) == [108, 111, 119, 101, 114]) = false := beq_eq_false_iff_ne.2 t4
  have s5 : ((t : Rx.Bytes) == [98, 108, 97, 110, 107]) = false := beq_eq_false_iff_ne.2 t5
  have s6 : ((t : Rx.Bytes) == [115, 112, 97, 99, 101]) = false := beq_eq_false_iff_ne.2 t6
  have s7 : ((t : Rx.Bytes) == [99, 110, 116, 114, 108]) = false := beq_eq_false_iff_ne.2 t7
  have s8 : ((t : Rx.Bytes) == [112, 114, 105, 110, 116]) = false := beq_eq_false_iff_ne.2 t8
  have s9 : ((t : Rx.Bytes) == [103, 114, 97, 112, 104]) = false := beq_eq_false_iff_ne.2 t9
  have s10 : ((t : Rx.Bytes) == [112, 117, 110, 99, 116]) = false := beq_eq_false_iff_ne.2 t10
  have s11 : ((t : Rx.Bytes) == [120, 100, 105, 103, 105, 116]) = false := beq_eq_false_iff_ne.2 t11
  clear t0 t1 t2 t3 t4 t5 t6 t7 t8 t9 t10 t11
  go_enter Tryz.func111, Tryz.ntmps111
  go_wp2_with fail
  refine (b1 w).mono ?_
  rintro e w1 ⟨rfl, rfl⟩
  go_wp2_with fail
  refine (b2 w1).mono ?_
  rintro e w2 ⟨rfl, rfl⟩
  go_wp2_with fail
  refine (b3 w2).mono ?_
  rintro e w3 ⟨rfl, rfl⟩
  go_wp2_with fail
  all_goals go_ret
  all_goals
    refine ⟨ret_bool ?_, rfl⟩
    rw [HP.out] <;>
    first | rfl | (simp [*]; done) | (simp [*]; omega; done) | (rw [Bool.eq_iff_iff]; simp [*]; done) | (rw [Bool.eq_iff_iff]; simp [*]; omega)

end Go.Proofs.YthdkbbkkijdhfaaGreatDoor

/-
  The walk of the reference's Classes. No condition.
-/
namespace Go.Proofs.YthdkbbkkijdhfaaGreatDoor
open Go.RowKit Go.Shelf Go.Maps

def rnames : List Rx.Bytes := [[97, 108, 112, 104, 97], [100, 105, 103, 105, 116], [97, 108, 110, 117, 109], [117, 112, 112, 101, 114], [108, 111, 119, 101, 114], [98, 108, 97, 110, 107], [115, 112, 97, 99, 101], [99, 110, 116, 114, 108], [112, 114, 105, 110, 116], [103, 114, 97, 112, 104], [112, 117, 110, 99, 116], [120, 100, 105, 103, 105, 116]]

theorem rknown_names (t : Rx.Bytes) : rknown t = rnames.contains t := rfl

theorem names_until (t : Rx.Bytes) (h : ∀ j, j < 12 → rnames.getD j [] ≠ t) : rknown t = false := by
  rw [rknown_names]
  rw [Bool.eq_false_iff]
  intro hc
  have := List.contains_iff_mem.1 hc
  obtain ⟨j, hj, e⟩ := List.getElem_of_mem this
  exact h j hj (by simpa [List.getD_eq_getElem?_getD, List.getElem?_eq_getElem hj] using e)
theorem names_at (t : Rx.Bytes) (j : Nat) (hj : j < 12) (h : rnames.getD j [] = t) : rknown t = true := by
  rw [rknown_names, List.contains_iff_mem]
  rw [← h]
  rw [List.getD_eq_getElem?_getD, List.getElem?_eq_getElem (show j < rnames.length from hj)]
  exact List.getElem_mem _

set_option maxHeartbeats 6400000 in
set_option maxRecDepth 100000 in
theorem rclasses_any (t : Rx.Bytes) (w : World) : Calls Tryz.prog 110 #[.string ⟨t.toArray⟩] w fun e w' => e = .returned (.bool (rknown t)) ∧ Below w.heap.size w w' := by
  obtain ⟨R, hR⟩ : ∃ R, rknown t = R := ⟨_, rfl⟩
  rw [hR]
  have HR := Lib.hid hR
  clear hR
  go_enter Tryz.func110, Tryz.ntmps110
  go_wp2_with fail
  have hb := Blk.new w (#[Value.string { data := #[97, 108, 112, 104, 97] }, Value.string { data := #[100, 105, 103, 105, 116] },
          Value.string { data := #[97, 108, 110, 117, 109] }, Value.string { data := #[117, 112, 112, 101, 114] },
          Value.string { data := #[108, 111, 119, 101, 114] }, Value.string { data := #[98, 108, 97, 110, 107] },
          Value.string { data := #[115, 112, 97, 99, 101] }, Value.string { data := #[99, 110, 116, 114, 108] },
          Value.string { data := #[112, 114, 105, 110, 116] }, Value.string { data := #[103, 114, 97, 112, 104] },
          Value.string { data := #[112, 117, 110, 99, 116] }, Value.string { data := #[120, 100, 105, 103, 105, 116] }]) 151
  have hk := ((Kept.refl (fun _ => False) w).alloc (Obj.cells (#[Value.string { data := #[97, 108, 112, 104, 97] }, Value.string { data := #[100, 105, 103, 105, 116] },
          Value.string { data := #[97, 108, 110, 117, 109] }, Value.string { data := #[117, 112, 112, 101, 114] },
          Value.string { data := #[108, 111, 119, 101, 114] }, Value.string { data := #[98, 108, 97, 110, 107] },
          Value.string { data := #[115, 112, 97, 99, 101] }, Value.string { data := #[99, 110, 116, 114, 108] },
          Value.string { data := #[112, 114, 105, 110, 116] }, Value.string { data := #[103, 114, 97, 112, 104] },
          Value.string { data := #[112, 117, 110, 99, 116] }, Value.string { data := #[120, 100, 105, 103, 105, 116] }]) 151)).below
  generalize w.alloc (Obj.cells (#[Value.string { data := #[97, 108, 112, 104, 97] }, Value.string { data := #[100, 105, 103, 105, 116] },
          Value.string { data := #[97, 108, 110, 117, 109] }, Value.string { data := #[117, 112, 112, 101, 114] },
          Value.string { data := #[108, 111, 119, 101, 114] }, Value.string { data := #[98, 108, 97, 110, 107] },
          Value.string { data := #[115, 112, 97, 99, 101] }, Value.string { data := #[99, 110, 116, 114, 108] },
          Value.string { data := #[112, 114, 105, 110, 116] }, Value.string { data := #[103, 114, 97, 112, 104] },
          Value.string { data := #[112, 117, 110, 99, 116] }, Value.string { data := #[120, 100, 105, 103, 105, 116] }]) 151) = w1 at *
  have HKK := Lib.hid hk
  clear hk
  generalize w.heap.size = b at hb ⊢
  have hcell : Hid (∀ j, j < 12 → w1.cell? ⟨b, j, none⟩ = some (.string ⟨(rnames.getD j []).toArray⟩)) := by
    intro j hj
    refine Blk.cell hb j ?_
    match j, hj with
    | 0, _ => rfl
    | 1, _ => rfl
    | 2, _ => rfl
    | 3, _ => rfl
    | 4, _ => rfl
    | 5, _ => rfl
    | 6, _ => rfl
    | 7, _ => rfl
    | 8, _ => rfl
    | 9, _ => rfl
    | 10, _ => rfl
    | 11, _ => rfl
  clear hb
  go_loop [4] (fun x => ∃ k : Nat, k ≤ 12 ∧ x = .int .i64 k ∧ Hid (∀ j, j < k → rnames.getD j [] ≠ t)) (fun x => 12 - (intOf x).toNat)
  case atStart => exact ⟨0, by omega, rfl, fun j hj => absurd hj (Nat.not_lt_zero j)⟩
  case round =>
    obtain ⟨k, hk12, rfl, HN⟩ := hrel
    by_cases hlt : k < 12
    · have hc := hcell.out k hlt
      have HE : Hid (rnames.getD k [] = rnames.getD k []) := rfl
      generalize h2 : rnames.getD k [] = nm at hc HE
      have H2 := Lib.hid h2
      clear h2 HE
      by_cases he : nm = t
      · subst he
        have HK : Hid (R = true) := HR.out.symm.trans (names_at _ k hlt H2.out)
        go_wp2_with fail
        go_ret
        exact ⟨ret_bool HK.out.symm, HKK.out⟩
      · have he2 : (nm == t) = false := beq_eq_false_iff_ne.2 he
        have HE := Lib.hid he
        clear he
        go_wp2_with fail
        refine ⟨⟨k + 1, by omega, by go_num, ?_⟩, ?_⟩
        · intro j hj
          rcases Nat.lt_or_ge j k with h1 | h1
          · exact HN.out j h1
          · obtain rfl : j = k := by omega
            rw [H2.out]; exact HE.out
        · show 12 - ((k : Int) + 1).toNat < 12 - (k : Int).toNat
          omega
    · obtain rfl : k = 12 := by omega
      have HK : Hid (R = false) := HR.out.symm.trans (names_until t HN.out)
      go_wp2_with fail
      go_ret
      exact ⟨ret_bool HK.out.symm, HKK.out⟩

end Go.Proofs.YthdkbbkkijdhfaaGreatDoor

/-
  The walk of the reference's class. Condition: the reader and the set lie in memory.
-/
namespace Go.Proofs.YthdkbbkkijdhfaaGreatDoor
open Go.RowKit Go.Shelf Go.Maps

theorem Rf_ne {w : World} {r b at_ : Nat} {s : Rx.Bytes} {ext fold bad : Bool} {cs : Array Value} (h : RfAt w r s at_ ext fold bad) (hb : Blk w b cs 68) : r ≠ b := by
  rintro rfl
  unfold RfAt Blk at h
  unfold Blk at hb
  rw [h] at hb
  have := (Obj.cells.injEq .. ▸ Option.some.inj hb).2.1
  revert this
  decide

theorem RfAt.setAt {w : World} {r at_ : Nat} {s : Rx.Bytes} {ext fold bad : Bool} (h : RfAt w r s at_ ext fold bad) (a2 : Nat) : RfAt (w.setCell ⟨r, 1, none⟩ (.int .i64 a2)) r s a2 ext fold bad := by
  have := Blk.set h 1 (.int .i64 a2)
  unfold RfAt
  simpa using this
theorem RfAt.setBad {w : World} {r at_ : Nat} {s : Rx.Bytes} {ext fold bad : Bool} (h : RfAt w r s at_ ext fold bad) (b2 : Bool) : RfAt (w.setCell ⟨r, 4, none⟩ (.bool b2)) r s at_ ext fold b2 := by
  have := Blk.set h 4 (.bool b2)
  unfold RfAt
  simpa using this
theorem RfAt.kept {S : Nat → Prop} {w w' : World} {r at_ : Nat} {s : Rx.Bytes} {ext fold bad : Bool} (h : RfAt w r s at_ ext fold bad) (hk : Kept S w w') (hS : ¬ S r) : RfAt w' r s at_ ext fold bad := Blk.kept h hk hS
theorem RfAt.c0 {w : World} {r at_ : Nat} {s : Rx.Bytes} {ext fold bad : Bool} (h : RfAt w r s at_ ext fold bad) : w.cell? ⟨r, 0, none⟩ = some (.string ⟨s.toArray⟩) := Blk.cell h 0 rfl
theorem RfAt.c1 {w : World} {r at_ : Nat} {s : Rx.Bytes} {ext fold bad : Bool} (h : RfAt w r s at_ ext fold bad) : w.cell? ⟨r, 1, none⟩ = some (.int .i64 at_) := Blk.cell h 1 rfl
theorem RfAt.c2 {w : World} {r at_ : Nat} {s : Rx.Bytes} {ext fold bad : Bool} (h : RfAt w r s at_ ext fold bad) : w.cell? ⟨r, 2, none⟩ = some (.bool ext) := Blk.cell h 2 rfl
theorem RfAt.c4 {w : World} {r at_ : Nat} {s : Rx.Bytes} {ext fold bad : Bool} (h : RfAt w r s at_ ext fold bad) : w.cell? ⟨r, 4, none⟩ = some (.bool bad) := Blk.cell h 4 rfl

theorem RfAt.free {w : World} {r at_ : Nat} {s : Rx.Bytes} {ext fold bad : Bool} (h : RfAt w r s at_ ext fold bad) (i : Nat) : w.frozen? ⟨r, i, none⟩ = false := Blk.free h i

/-- What the reference's reader keeps while a set is read. -/
structure RSet (w wx : World) (r b : Nat) (h : Rx.Has) (s : Rx.Bytes) (at_ : Nat) (ext fold bad : Bool) : Prop where
  rd : RfAt wx r s at_ ext fold bad
  nd : Blk wx b (setCells h) 68
  kept : Kept (fun k => k = r ∨ k = b) w wx

theorem RSet.ne {w wx : World} {r b : Nat} {h : Rx.Has} {s : Rx.Bytes} {at_ : Nat} {ext fold bad : Bool} (I : RSet w wx r b h s at_ ext fold bad) : r ≠ b := Rf_ne I.rd I.nd
theorem RSet.go {w wx w' : World} {r b : Nat} {h : Rx.Has} {s : Rx.Bytes} {at_ a2 : Nat} {ext fold bad b2 : Bool} (I : RSet w wx r b h s at_ ext fold bad) (hr : RfAt w' r s a2 ext fold b2) (hk : Kept (· = r) wx w') : RSet w w' r b h s a2 ext fold b2 :=
  ⟨hr, I.nd.kept hk (Ne.symm I.ne), I.kept.trans (hk.mono fun _ _ h => .inl h)⟩
theorem RSet.below {w wx w' : World} {r b : Nat} {h : Rx.Has} {s : Rx.Bytes} {at_ : Nat} {ext fold bad : Bool} (I : RSet w wx r b h s at_ ext fold bad) (hk : Below wx.heap.size wx w') : RSet w w' r b h s at_ ext fold bad :=
  I.go (I.rd.keep hk) (.of_below hk)
theorem RSet.set {w wx : World} {r b : Nat} {h : Rx.Has} {s : Rx.Bytes} {at_ : Nat} {ext fold bad : Bool} (I : RSet w wx r b h s at_ ext fold bad) (i : Nat) (hi : i < 256) (v : Bool) : RSet w (wx.setCell ⟨b, 1 + i, none⟩ (.bool v)) r b (fun c => if c.toNat = i then v else h c) s at_ ext fold bad := by
  refine ⟨Blk.setOther I.rd (a := ⟨b, 1 + i, none⟩) I.ne _, ?_, I.kept.setCell (.inl (.inr rfl)) _ _⟩
  have h5 := I.nd.set (1 + i) (.bool v)
  unfold setCells at h5 ⊢
  rw [nd_set _ _ _ _ _ _ hi] at h5
  exact h5
theorem RSet.setAt {w wx : World} {r b : Nat} {h : Rx.Has} {s : Rx.Bytes} {at_ : Nat} {ext fold bad : Bool} (I : RSet w wx r b h s at_ ext fold bad) (a2 : Nat) : RSet w (wx.setCell ⟨r, 1, none⟩ (.int .i64 a2)) r b h s a2 ext fold bad :=
  I.go (I.rd.setAt a2) ((Kept.refl (· = r) wx).setCell (.inl rfl) 1 _)
theorem RSet.setBad {w wx : World} {r b : Nat} {h : Rx.Has} {s : Rx.Bytes} {at_ : Nat} {ext fold bad : Bool} (I : RSet w wx r b h s at_ ext fold bad) (b2 : Bool) : RSet w (wx.setCell ⟨r, 4, none⟩ (.bool b2)) r b h s at_ ext fold b2 :=
  I.go (I.rd.setBad b2) ((Kept.refl (· = r) wx).setCell (.inl rfl) 4 _)

theorem RSet.drew {w wx : World} {r b : Nat} {h : Rx.Has} {s : Rx.Bytes} {at_ : Nat} {ext fold bad : Bool} (I : RSet w wx r b h s at_ ext fold bad) : RSet w wx.drew r b h s at_ ext fold bad :=
  ⟨Blk.drew I.rd, Blk.drew I.nd, I.kept.drew⟩

theorem cutShut_short (u : Rx.Bytes) (h : u.length ≤ 1) : Rx.cutShut u = none := by
  match u with
  | [] => rfl
  | [a] => simp [Rx.cutShut]
theorem cutShut_here (v : Rx.Bytes) : Rx.cutShut (58 :: 93 :: v) = some ([], v) := by simp [Rx.cutShut]
theorem cutShut_next (a b : UInt8) (v : Rx.Bytes) (h : ¬ (a = 58 ∧ b = 93)) : Rx.cutShut (a :: b :: v) = (Rx.cutShut (b :: v)).map fun x => (a :: x.1, x.2) := by
  conv => lhs; unfold Rx.cutShut
  rw [if_neg (by simpa using h)]

/-- From one place on, as from the first. -/
def CutFrom (s : Rx.Bytes) (a k : Nat) : Prop := Rx.cutShut (s.drop a) = (Rx.cutShut (s.drop k)).map fun x => ((s.drop a).take (k - a) ++ x.1, x.2)
theorem cutFrom_start (s : Rx.Bytes) (a : Nat) : CutFrom s a a := by
  unfold CutFrom
  simp
theorem cutFrom_next {s : Rx.Bytes} {a k : Nat} (h : CutFrom s a k) (hak : a ≤ k) {x y : UInt8} {v : Rx.Bytes} (hd : s.drop k = x :: y :: v) (hn : ¬ (x = 58 ∧ y = 93)) : CutFrom s a (k + 1) := by
  unfold CutFrom at h ⊢
  rw [h, hd, cutShut_next x y v hn]
  have e1 : s.drop (k + 1) = y :: v := by rw [← List.drop_drop, hd]; rfl
  rw [e1]
  have e2 : (s.drop a).take (k + 1 - a) = (s.drop a).take (k - a) ++ [x] := by
    rw [show k + 1 - a = (k - a) + 1 by omega, List.take_add_one]
    congr 1
    rw [List.getElem?_drop, show a + (k - a) = k + 0 by omega, ← List.getElem?_drop, hd]
    rfl
  rw [e2]
  cases Rx.cutShut (y :: v) with
  | none => rfl
  | some z => simp
theorem cutFrom_end {s : Rx.Bytes} {a k : Nat} (h : CutFrom s a k) (hk : s.length ≤ k + 1) : Rx.cutShut (s.drop a) = none := by
  unfold CutFrom at h
  rw [h, cutShut_short _ (by simp; omega)]
  rfl
theorem cutFrom_found {s : Rx.Bytes} {a k : Nat} (h : CutFrom s a k) {v : Rx.Bytes} (hd : s.drop k = 58 :: 93 :: v) : Rx.cutShut (s.drop a) = some ((s.drop a).take (k - a), s.drop (k + 2)) := by
  unfold CutFrom at h
  rw [h, hd, cutShut_here, ← List.drop_drop, hd]
  simp

/-- What class hands back and leaves. -/
structure RClassed (w w' : World) (r b : Nat) (h h2 : Rx.Has) (s : Rx.Bytes) (at_ a2 : Nat) (ext fold bad b2 is : Bool) : Prop where
  st : RSet w w' r b h2 s a2 ext fold b2
  no : is = false → a2 = at_ ∧ h2 = h ∧ b2 = bad ∧ Rx.cls h (s.drop at_) = some none
  yes : is = true → at_ < a2 ∧ a2 ≤ s.length ∧ (bad = true → b2 = true) ∧ (b2 = false → Rx.cls h (s.drop at_) = some (some (h2, s.drop a2)))

def RClassPost (w : World) (r b : Nat) (h : Rx.Has) (s : Rx.Bytes) (at_ : Nat) (ext fold bad : Bool) (e : Ending) (w' : World) : Prop := ∃ is a2 b2 h2, e = .returned (.bool is) ∧ RClassed w w' r b h h2 s at_ a2 ext fold bad b2 is

theorem cls_no (h : Rx.Has) (u : Rx.Bytes) (hp : ([91, 58] : Rx.Bytes).isPrefixOf u = false) : Rx.cls h u = some none := by
  unfold Rx.cls Rx.take
  rw [hp]
  rfl
theorem cls_open (h : Rx.Has) (u : Rx.Bytes) (hp : ([91, 58] : Rx.Bytes).isPrefixOf u = true) : Rx.cls h u = match Rx.cutShut (u.drop 2) with
    | none => some none
    | some (n, rest) => match Rx.classOf n with
      | none => none
      | some k => some (some (fun c => h c || k c, rest)) := by
  unfold Rx.cls Rx.take
  rw [hp]
  rfl

set_option maxHeartbeats 6400000 in
set_option maxRecDepth 100000 in
theorem rfclass_any (r b : Nat) (h : Rx.Has) (s : Rx.Bytes) (at_ : Nat) (ext fold bad : Bool) (w : World) (hr : RfAt w r s at_ ext fold bad) (hb : Blk w b (setCells h) 68) (ha : at_ ≤ s.length) (hl : s.length < 1073741824) :
    Calls Tryz.prog 98 #[.pointer (some ⟨r, 0, none⟩), .pointer (some ⟨b, 0, none⟩)] w fun e w' => RClassPost w r b h s at_ ext fold bad e w' := by
  have I : RSet w w r b h s at_ ext fold bad := ⟨hr, hb, Kept.refl _ _⟩
  have hah := ahead_any r s [91, 58] at_ ext fold bad w hr ha hl (by simp)
  obtain ⟨P, hP⟩ : ∃ P, ([91, 58] : Rx.Bytes).isPrefixOf (s.drop at_) = P := ⟨_, rfl⟩
  rw [hP] at hah
  have HP := Lib.hid hP
  have hlen2 : P = true → at_ + 2 ≤ s.length := by
    rintro rfl
    rw [prefix_take, decide_eq_true_eq] at hP
    have := hP.1
    simp at this
    omega
  clear hP hr hb
  go_enter Tryz.func98, Tryz.ntmps98
  go_wp2_with fail
  refine hah.mono ?_
  rintro e w1 ⟨rfl, hk1⟩
  have I1 := I.below hk1
  clear hk1 I hah
  cases P with
  | false =>
    go_wp2_with fail
    go_ret
    exact ⟨false, at_, bad, h, rfl, I1, fun _ => ⟨rfl, rfl, rfl, cls_no _ _ HP.out⟩, by simp⟩
  | true =>
    have hl2 := hlen2 rfl
    clear hlen2
    have c0 := I1.rd.c0
    have c1 := I1.rd.c1
    have hw : IntKind.i64.wrap ((at_ : Int) + 2) = (at_ : Int) + 2 := by simp [IntKind.wrap, IntKind.signed, IntKind.bits]; omega
    go_wp2_with fail
    go_loop [6] (fun x => ∃ k : Nat, at_ + 2 ≤ k ∧ k ≤ s.length ∧ x = .int .i64 k ∧ Hid (CutFrom s (at_ + 2) k)) (fun x => s.length - (intOf x).toNat)
    case atStart => exact ⟨at_ + 2, Nat.le_refl _, hl2, by go_num, cutFrom_start s _⟩
    case round =>
      obtain ⟨k, hka, hks, rfl, HC⟩ := hrel
      have hw2 : IntKind.i64.wrap ((k : Int) + 1) = (k : Int) + 1 := by simp [IntKind.wrap, IntKind.signed, IntKind.bits]; omega
      by_cases hlt : k + 1 < s.length
      · have hlti : (k : Int) + 1 < (s.length : Int) := by omega
        obtain ⟨x, y, v, hd⟩ : ∃ x y v, s.drop k = x :: y :: v := by
          have hlen : 2 ≤ (s.drop k).length := by simp; omega
          match hx : s.drop k with
          | [] => rw [hx] at hlen; simp at hlen
          | [_] => rw [hx] at hlen; simp at hlen
          | x :: y :: v => exact ⟨x, y, v, rfl⟩
        have gt : ∀ n (hn : k + n < s.length), s[k + n] = ((x :: y :: v)[n]?.getD 0) := fun n hn => by
          rw [← hd, List.getElem?_drop, List.getElem?_eq_getElem hn]
          rfl
        have i0 : ∀ h, (⟨s.toArray⟩ : ByteArray)[k]'h = x := fun h => gt 0 (by omega)
        have i1 : ∀ h, (⟨s.toArray⟩ : ByteArray)[k + 1]'h = y := fun h => gt 1 (by omega)
        have HD := Lib.hid hd
        clear hd gt
        by_cases hx : x = 58
        · subst hx
          by_cases hy : y = 93
          · subst hy
            have HF := cutFrom_found HC.out HD.out
            have HF2 := Lib.hid HF
            clear HF
            have ex : (⟨s.toArray⟩ : ByteArray).extract (at_ + 2) k = ⟨(((s.drop (at_ + 2)).take (k - (at_ + 2)))).toArray⟩ := by
              apply ByteArray.ext
              simp [ByteArray.data_extract, List.take_drop]
            obtain ⟨nm, hnm⟩ : ∃ nm, (s.drop (at_ + 2)).take (k - (at_ + 2)) = nm := ⟨_, rfl⟩
            rw [hnm] at ex HF2
            clear hnm
            have hka2 : (at_ : Int) + 2 ≤ (k : Int) := by omega
            have hks2 : (k : Int) ≤ (s.length : Int) := by omega
            have hcl := rclasses_any nm w1.drew
            have I1d := I1.drew
            obtain ⟨KN, hKN⟩ : ∃ KN, rknown nm = KN := ⟨_, rfl⟩
            rw [hKN] at hcl
            have HKN := Lib.hid hKN
            clear hKN
            go_wp2_with fail
            go_region
            go_wp2_with fail
            refine hcl.mono ?_
            rintro e w2 ⟨rfl, hk2⟩
            have I2 := I1d.below hk2
            clear hk2 I1 I1d hcl c0 c1
            go_upto_if 61 with fail
            go_cut [61, 62, 63, 64] (fun _s61 _s62 _s63 _s64 wx => RSet w wx r b h s at_ ext fold (bad || !KN))
            case first =>
              have f4 := I2.rd.free 4
              have x4 := I2.rd.c4
              cases KN with
              | true =>
                go_wp2_with fail
                go_meet
                simpa using I2
              | false =>
                go_wp2_with fail
                go_meet
                have := I2.setBad true
                simpa using this
            case rest =>
              clear I2
              have I3 := hcut
              clear hcut
              go_wp2_with fail
              go_loopw [9, 10] (fun x9 _x10 wr => ∃ c : Nat, c ≤ 256 ∧ x9 = .int .i64 c ∧ RSet w wr r b (fun e => h e || (decide (e.toNat < c) && rcls nm e.toNat)) s at_ ext fold (bad || !KN)) (fun x9 _x10 _ => 256 - (intOf x9).toNat)
              case atStart =>
                refine ⟨0, Nat.zero_le _, rfl, ?_⟩
                have e : (fun e : UInt8 => h e || (decide (e.toNat < 0) && rcls nm e.toNat)) = h := by funext e; simp
                rw [e]
                exact I3
              case round =>
                clear I3
                obtain ⟨c, hc, rfl, I4⟩ := hrel
                by_cases hlt2 : c < 256
                · have hcl := rclass_any nm c
                  obtain ⟨V, hV⟩ : ∃ V, rcls nm c = V := ⟨_, rfl⟩
                  rw [hV] at hcl
                  have HV := Lib.hid hV
                  clear hV
                  have c0 := I4.nd.cell (1 + c) (nd_has _ _ _ _ _ c hlt2)
                  have f0 := I4.nd.free (1 + c)
                  obtain ⟨U, hU⟩ : ∃ U, (h (UInt8.ofNat c) || (decide ((UInt8.ofNat c).toNat < c) && rcls nm (UInt8.ofNat c).toNat)) = U := ⟨_, rfl⟩
                  rw [hU] at c0
                  have HU := Lib.hid hU
                  clear hU
                  have hstep : RSet w (wr.setCell ⟨b, 1 + c, none⟩ (.bool (U || V))) r b (fun e => h e || (decide (e.toNat < c + 1) && rcls nm e.toNat)) s at_ ext fold (bad || !KN) := by
                    have I5 := I4.set c hlt2 (U || V)
                    have e : (fun e : UInt8 => if e.toNat = c then (U || V) else h e || (decide (e.toNat < c) && rcls nm e.toNat)) = fun e => h e || (decide (e.toNat < c + 1) && rcls nm e.toNat) := by
                      funext e
                      by_cases he : e.toNat = c
                      · rw [if_pos he, ← HU.out, ← HV.out]
                        have e2 : UInt8.ofNat c = e := by rw [← he]; simp
                        rw [e2, show decide (e.toNat < c) = false by simp; omega, show decide (e.toNat < c + 1) = true by simp; omega, he]
                        simp
                      · rw [if_neg he]
                        have h2 : decide (e.toNat < c + 1) = decide (e.toNat < c) := by congr 1; apply propext; omega
                        rw [h2]
                    rw [e] at I5
                    exact I5
                  have HST := Lib.hid hstep
                  clear hstep I4
                  go_wp2_with fail
                  refine (hcl _).mono ?_
                  rintro e w5 ⟨rfl, rfl⟩
                  go_wp2_with fail
                  cases U <;> cases V <;> go_region <;> go_wp2_with fail
                  all_goals
                    refine ⟨⟨c + 1, by omega, by go_num, HST.out.drew⟩, ?_⟩
                    show 256 - ((c : Int) + 1).toNat < 256 - (c : Int).toNat
                    omega
                · obtain rfl : c = 256 := by omega
                  have c1 := I4.rd.c1
                  have f1 := I4.rd.free 1
                  go_wp2_with fail
                  go_ret
                  refine ⟨true, k + 2, bad || !KN, _, rfl, I4.setAt (k + 2), by simp, fun _ => ⟨by omega, by omega, fun h => by rw [h]; rfl, fun hb2 => ?_⟩⟩
                  have hkn : rknown nm = true := by
                    rw [HKN.out]
                    have := (Bool.or_eq_false_iff.1 hb2).2
                    simpa using this
                  obtain ⟨kf, hk1, hk2⟩ := classOf_rcls nm hkn
                  rw [cls_open _ _ HP.out, List.drop_drop, HF2.out]
                  simp only [hk1, Option.some.injEq, Prod.mk.injEq, and_true]
                  funext e
                  rw [hk2, decide_eq_true (show e.toNat < 256 from e.toNat_lt), Bool.true_and]
          · have hy2 : ¬ ((y.toNat : Int) = 93) := u8_ne hy
            have HY := Lib.hid hy
            clear hy
            go_wp2_with fail
            refine ⟨⟨k + 1, by omega, by omega, by go_num, cutFrom_next HC.out hka HD.out (fun h => HY.out h.2)⟩, ?_⟩
            show s.length - ((k : Int) + 1).toNat < s.length - (k : Int).toNat
            omega
        · have hx2 : ¬ ((x.toNat : Int) = 58) := u8_ne hx
          have HX := Lib.hid hx
          clear hx
          go_wp2_with fail
          refine ⟨⟨k + 1, by omega, by omega, by go_num, cutFrom_next HC.out hka HD.out (fun h => HX.out h.1)⟩, ?_⟩
          show s.length - ((k : Int) + 1).toNat < s.length - (k : Int).toNat
          omega
      · have hlti : ((k : Int) + 1 < (s.length : Int)) = False := by simp; omega
        have HN := cutFrom_end HC.out (by omega)
        have HN2 := Lib.hid HN
        clear HN
        go_wp2_with fail
        go_ret
        refine ⟨false, at_, bad, h, rfl, I1, fun _ => ⟨rfl, rfl, rfl, ?_⟩, by simp⟩
        rw [cls_open _ _ HP.out, List.drop_drop, HN2.out]

end Go.Proofs.YthdkbbkkijdhfaaGreatDoor
