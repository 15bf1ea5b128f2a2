/-
  The walk of strings.IndexRune, of a rune beyond ASCII in four ASCII bytes. No condition.
-/
import Derived.Test.YtfoehfehnmhhmaaGreatDoorW41
import Derived.Shelf.Strings.IndexAnyAll
import Derived.Shelf.Small.Utf8
import Derived.Laws.RangeAny
import Derived.Deep.QuietTactic
import Derived.Deep.RegionWith
import Derived.WalkMore
namespace Go.Proofs.YtfoehfehnmhhmaaGreatDoor
open Go.RowKit Go.Shelf Go.Maps

theorem encode_high (r : Int) (h : 128 ≤ r) (hv : r ≤ 2147483647) : (∃ b0 b1 : UInt8, Utf8.encode r = ⟨#[b0, b1]⟩ ∧ 128 ≤ b1.toNat) ∨ (∃ b0 b1 b2 : UInt8, Utf8.encode r = ⟨#[b0, b1, b2]⟩ ∧ 128 ≤ b2.toNat) ∨ (∃ b0 b1 b2 b3 : UInt8, Utf8.encode r = ⟨#[b0, b1, b2, b3]⟩ ∧ 128 ≤ b3.toNat) := by
  have hc : 128 ≤ (if Utf8.valid r then r.toNat else Utf8.runeError) := by
    split
    · omega
    · decide
  have hl : ∀ c : Nat, 128 ≤ (UInt8.ofNat (0x80 + c % 64)).toNat := by
    intro c
    rw [UInt8.toNat_ofNat', Nat.mod_eq_of_lt (by omega)]
    omega
  unfold Utf8.encode
  simp only
  generalize (if Utf8.valid r then r.toNat else Utf8.runeError) = c at *
  rw [if_neg (by omega)]
  by_cases h1 : c < 0x800
  · rw [if_pos h1]
    exact .inl ⟨_, _, rfl, hl _⟩
  · rw [if_neg h1]
    by_cases h2 : c < 0x10000
    · rw [if_pos h2]; exact .inr (.inl ⟨_, _, _, rfl, hl _⟩)
    · rw [if_neg h2]; exact .inr (.inr ⟨_, _, _, _, rfl, hl _⟩)

def four : ByteArray := ⟨#[39, 34, 92, 36]⟩
theorem four_ascii (i : Nat) (h : i < four.size) : (four[i]'h).toNat < 128 := by
  have hs : four.size = 4 := rfl
  match i, h with
  | 0, _ => exact (by decide : (39 : UInt8).toNat < 128)
  | 1, _ => exact (by decide : (34 : UInt8).toNat < 128)
  | 2, _ => exact (by decide : (92 : UInt8).toNat < 128)
  | 3, _ => exact (by decide : (36 : UInt8).toNat < 128)

set_option maxHeartbeats 3200000 in
set_option maxRecDepth 100000 in
theorem indexRune_error (w : World) : Calls Tryz.prog 65 #[.string four, .int .i32 65533] w fun e w' => e = .returned (.int .i64 (-1)) ∧ Below w.heap.size w w' := by
  have hsz : four.size = 4 := rfl
  have HSZ := Lib.hid hsz
  clear hsz
  generalize hF : four = F at *
  have hasc : ∀ i (h : i < F.size), (F[i]'h).toNat < 128 := by subst hF; exact four_ascii
  have HA := Lib.hid hasc
  clear hF hasc
  go_enter Tryz.func65, Tryz.ntmps65
  go_wp2_with fail
  go_loopg [5, 6] F.size (fun g _ _ wx => ∃ i : Nat, i + g = F.size ∧ wx = w.iter F i)
  case atStart => exact ⟨0, by omega, rfl⟩
  case round =>
    obtain ⟨i, hig, rfl⟩ := hrel
    cases gk with
    | zero =>
      obtain rfl : i = F.size := by omega
      have hnx := run_next_end (P := Tryz.prog) w F F.size
      go_wp2
      go_ret
      exact ⟨rfl, (Below.refl _ _).alloc (Nat.le_refl _) _⟩
    | succ g =>
      have hi : i < F.size := by omega
      obtain ⟨x, hx⟩ : ∃ x : UInt8, F[i]'hi = x := ⟨_, rfl⟩
      have hx128 : x.toNat < 128 := by rw [← hx]; exact HA.out i hi
      have hnx := fun ty => run_next_ascii (P := Tryz.prog) w F i ty hi (by rw [hx]; exact hx128)
      rw [hx] at hnx
      clear hx
      have hne : ¬ (x.toNat : Int) = 65533 := by omega
      go_wp2
      go_roundg g
      case measure => omega
      case rel => exact ⟨i + 1, by omega, rfl⟩

set_option maxHeartbeats 3200000 in
set_option maxRecDepth 100000 in
theorem indexRune_high (w : World) (r : Int) (h : 128 ≤ r) (hr : r ≤ 2147483647) : Calls Tryz.prog 65 #[.string four, .int .i32 r] w fun e w' => e = .returned (.int .i64 (-1)) ∧ Below w.heap.size w w' := by
  by_cases h5 : r = 65533
  · subst h5; exact indexRune_error w
  have hvr := Any.utf8_ValidRune Tryz.lays119 r w
  have k1 : (0 : Int) ≤ r := by omega
  have k2 : ¬ r < 128 := by omega
  unfold four
  cases hv : Lib.validRune r with
  | false =>
    rw [hv] at hvr
    clear hv
    go_enter Tryz.func65, Tryz.ntmps65
    go_wp2_with fail
    refine hvr.mono ?_
    rintro e w1 ⟨rfl, rfl⟩
    clear hvr
    go_wp2_with fail
    go_ret
    exact ⟨rfl, Below.refl _ _⟩
  | true =>
    rw [hv] at hvr
    clear hv
    have w2 : IntKind.i64.wrap 2 = 2 := rfl
    have w3 : IntKind.i64.wrap 3 = 3 := rfl
    have w4 : IntKind.i64.wrap 4 = 4 := rfl
    have i1 : ∀ h, (⟨#[39, 34, 92, 36]⟩ : ByteArray)[1]'h = 34 := fun _ => rfl
    have i2 : ∀ h, (⟨#[39, 34, 92, 36]⟩ : ByteArray)[2]'h = 92 := fun _ => rfl
    have i3 : ∀ h, (⟨#[39, 34, 92, 36]⟩ : ByteArray)[3]'h = 36 := fun _ => rfl
    rcases encode_high r h hr with ⟨b0, b1, he, hb⟩ | ⟨b0, b1, b2, he, hb⟩ | ⟨b0, b1, b2, b3, he, hb⟩
    · have e1 : (⟨#[39, 34, 92, 36]⟩ : ByteArray).extract 2 4 = ⟨#[92, 36]⟩ := rfl
      have j1 : ∀ h, (⟨#[b0, b1]⟩ : ByteArray)[1]'h = b1 := fun _ => rfl
      have hix := fun W => indexByte_any [92, 36] b1 W
      have hid : Wd.idx b1 [92, 36] = none := by
        have a1 : ¬ (92 : UInt8) = b1 := by rintro rfl; revert hb; decide
        have a2 : ¬ (36 : UInt8) = b1 := by rintro rfl; revert hb; decide
        simp [Wd.idx, a1, a2]
      rw [hid] at hix
      simp only at hix
      have n1 : ¬ (34 : Int) = (b1.toNat : Int) := by omega
      clear hid
      go_enter Tryz.func65, Tryz.ntmps65
      go_wp2_with fail
      refine hvr.mono ?_
      rintro e w1 ⟨rfl, rfl⟩
      clear hvr
      go_wp2_with fail
      go_step3
      go_wp2_with fail
      go_loopw [9, 10, 11, 12] (fun x9 _ _ _ wr => x9 = .int .i64 1 ∧ wr = w1) (fun _ _ _ _ _ => 0)
      case atStart => exact ⟨rfl, rfl⟩
      case round =>
        obtain ⟨rfl, rfl⟩ := hrel
        go_wp2_with fail
        go_step3
        go_wp2_with fail
        go_region
        all_goals go_wp2_with fail
        all_goals go_region_with ((go_at_call 52; refine (hix _).mono ?_; rintro e w4 ⟨rfl, rfl⟩))
        all_goals go_wp2_with fail
        all_goals
          rw [Exit.noGoto_ret]
          go_wp2_with fail
          rw [Exit.noGoto_ret]
          go_ret
          exact ⟨rfl, (Below.refl _ _).drew.drew⟩
    · have e1 : (⟨#[39, 34, 92, 36]⟩ : ByteArray).extract 3 4 = ⟨#[36]⟩ := rfl
      have j1 : ∀ h, (⟨#[b0, b1, b2]⟩ : ByteArray)[2]'h = b2 := fun _ => rfl
      have hix := fun W => indexByte_any [36] b2 W
      have hid : Wd.idx b2 [36] = none := by
        have a2 : ¬ (36 : UInt8) = b2 := by rintro rfl; revert hb; decide
        simp [Wd.idx, a2]
      rw [hid] at hix
      simp only at hix
      have n1 : ¬ (92 : Int) = (b2.toNat : Int) := by omega
      clear hid
      go_enter Tryz.func65, Tryz.ntmps65
      go_wp2_with fail
      refine hvr.mono ?_
      rintro e w1 ⟨rfl, rfl⟩
      clear hvr
      go_wp2_with fail
      go_step3
      go_wp2_with fail
      go_loopw [9, 10, 11, 12] (fun x9 _ _ _ wr => x9 = .int .i64 2 ∧ wr = w1) (fun _ _ _ _ _ => 0)
      case atStart => exact ⟨rfl, rfl⟩
      case round =>
        obtain ⟨rfl, rfl⟩ := hrel
        go_wp2_with fail
        go_step3
        go_wp2_with fail
        go_region
        all_goals go_wp2_with fail
        all_goals go_region_with ((go_at_call 52; refine (hix _).mono ?_; rintro e w4 ⟨rfl, rfl⟩))
        all_goals go_wp2_with fail
        all_goals
          rw [Exit.noGoto_ret]
          go_wp2_with fail
          rw [Exit.noGoto_ret]
          go_ret
          exact ⟨rfl, (Below.refl _ _).drew.drew⟩
    · have e1 : (⟨#[39, 34, 92, 36]⟩ : ByteArray).extract 4 4 = ⟨#[]⟩ := rfl
      have j1 : ∀ h, (⟨#[b0, b1, b2, b3]⟩ : ByteArray)[3]'h = b3 := fun _ => rfl
      have hix := fun W => indexByte_any [] b3 W
      have hid : Wd.idx b3 [] = none := by
        rfl
      rw [hid] at hix
      simp only at hix
      have n1 : ¬ (36 : Int) = (b3.toNat : Int) := by omega
      clear hid
      go_enter Tryz.func65, Tryz.ntmps65
      go_wp2_with fail
      refine hvr.mono ?_
      rintro e w1 ⟨rfl, rfl⟩
      clear hvr
      go_wp2_with fail
      go_step3
      go_wp2_with fail
      go_loopw [9, 10, 11, 12] (fun x9 _ _ _ wr => x9 = .int .i64 3 ∧ wr = w1) (fun _ _ _ _ _ => 0)
      case atStart => exact ⟨rfl, rfl⟩
      case round =>
        obtain ⟨rfl, rfl⟩ := hrel
        go_wp2_with fail
        go_step3
        go_wp2_with fail
        go_region
        all_goals go_wp2_with fail
        all_goals go_region_with ((go_at_call 52; refine (hix _).mono ?_; rintro e w4 ⟨rfl, rfl⟩))
        all_goals go_wp2_with fail
        all_goals
          rw [Exit.noGoto_ret]
          go_wp2_with fail
          rw [Exit.noGoto_ret]
          go_ret
          exact ⟨rfl, (Below.refl _ _).drew.drew⟩

end Go.Proofs.YtfoehfehnmhhmaaGreatDoor
