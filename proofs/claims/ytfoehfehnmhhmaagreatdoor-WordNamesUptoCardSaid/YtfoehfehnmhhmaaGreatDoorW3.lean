/-
  The library's IndexByte, HasPrefix, CutPrefix, on lists of bytes; the walk of special. No condition.
-/
import Derived.Test.YtfoehfehnmhhmaaGreatDoorW2
namespace Go.Proofs.YtfoehfehnmhhmaaGreatDoor
open Go.RowKit Go.Shelf

theorem idx_lib (s : Wd.Bytes) (c : UInt8) : Lib.indexByte s c = match Wd.idx c s with
    | none => -1
    | some n => (n : Int) := by
  induction s with
  | nil => simp [Lib.indexByte, Wd.idx]
  | cons d r ih =>
    unfold Lib.indexByte Wd.idx
    by_cases h : d = c
    · subst h; simp
    · have h1 : (d == c) = false := by simp [h]
      simp only [h1, if_neg h, Bool.false_eq_true, if_false]
      rw [ih]
      cases Wd.idx c r with
      | none => simp
      | some n =>
        simp only [Option.map_some]
        rw [if_neg (by simp)]
        simp
theorem indexByte_any (s : Wd.Bytes) (c : UInt8) (w : World) : Calls Tryz.prog 52 #[.string ⟨s.toArray⟩, .int .u8 c.toNat] w fun e w' => e = .returned (.int .i64 (match Wd.idx c s with
    | none => -1
    | some n => (n : Int))) ∧ w' = w := by
  refine (Any.strings_IndexByte Tryz.lays137 ⟨s.toArray⟩ c.toNat w).mono ?_
  rintro e w' ⟨rfl, rfl⟩
  refine ⟨?_, rfl⟩
  have e : ((c.toNat : Int).toNat.toUInt8) = c := by
    apply UInt8.toNat_inj.1
    simp
  rw [e, ← idx_lib]
theorem hasPrefix_any (s p : Wd.Bytes) (w : World) : Calls Tryz.prog 43 #[.string ⟨s.toArray⟩, .string ⟨p.toArray⟩] w fun e w' => e = .returned (.bool (Wd.pre p s)) ∧ w' = w :=
  Any.strings_HasPrefix Tryz.lays99 ⟨s.toArray⟩ ⟨p.toArray⟩ w

theorem idx_mem (c : UInt8) (s : Wd.Bytes) : (Wd.idx c s).isSome = s.contains c := by
  induction s with
  | nil => rfl
  | cons d r ih =>
    unfold Wd.idx
    by_cases h : d = c
    · subst h; simp
    · have h2 : (c == d) = false := by simp; exact fun e => h e.symm
      rw [if_neg h, Option.isSome_map, ih, List.contains_cons, h2, Bool.false_or]

set_option maxRecDepth 100000 in
theorem special_any (s : Wd.Bytes) (w : World) : Calls Tryz.prog 60 #[.string ⟨s.toArray⟩] w fun e w' => e = .returned (.bool (Wd.special s)) ∧ w' = w := by
  cases s with
  | nil =>
    go_enter Tryz.func60, Tryz.ntmps60
    go_wp2_with fail
    go_ret
    exact ⟨rfl, rfl⟩
  | cons c r =>
    have he : ((⟨(c :: r).toArray⟩ : ByteArray) == ⟨#[]⟩) = false := str_nil _
    have i0 : ∀ h, (⟨(c :: r).toArray⟩ : ByteArray)[0]'h = c := fun _ => rfl
    have hx := indexByte_any [63, 35, 64, 42] c w
    have HS : Hid (Wd.special (c :: r) = (Wd.idx c [63, 35, 64, 42]).isSome) := by
      show _ = _
      rw [idx_mem]
      simp only [Wd.special, List.contains_cons, List.contains_nil, Bool.or_false, Bool.or_assoc]
    cases hi : Wd.idx c [63, 35, 64, 42] with
    | none =>
      rw [hi] at hx HS
      clear hi
      go_enter Tryz.func60, Tryz.ntmps60
      go_wp2_with fail
      refine hx.mono ?_
      rintro e w1 ⟨rfl, rfl⟩
      go_wp2_with fail
      go_ret
      exact ⟨ret_bool HS.out.symm, rfl⟩
    | some n =>
      rw [hi] at hx HS
      clear hi
      go_enter Tryz.func60, Tryz.ntmps60
      go_wp2_with fail
      refine hx.mono ?_
      rintro e w1 ⟨rfl, rfl⟩
      go_wp2_with fail
      go_ret
      exact ⟨ret_bool (by rw [HS.out]; simp), rfl⟩

end Go.Proofs.YtfoehfehnmhhmaaGreatDoor
