/-
  The reference's two and Digits (base 10). Condition: the numbers are less than 256.
-/
import Derived.Test.YthdkbbkkijdhfaaGreatDoorW26
import Derived.BigRegion
namespace Go.Proofs.YthdkbbkkijdhfaaGreatDoor
open Go.RowKit Go.Shelf Go.Maps

def hex16 : List UInt8 := [48, 49, 50, 51, 52, 53, 54, 55, 56, 57, 97, 98, 99, 100, 101, 102]
theorem hex16_dig : ∀ c : Nat, c < 16 → hex16.getD c 0 = dig c := by decide
theorem two_dig : ∀ c : Nat, c < 256 → Rx.two c = [dig (c / 16), dig (c % 16)] := by decide +kernel

theorem conv_two (a b : UInt8) (W : World) : (convert 22 9 (.slice (some ⟨W.heap.size, 0, none⟩) 2 2)).run Tryz.prog (W.alloc (.cells #[.int .u8 a.toNat, .int .u8 b.toNat] 5)).drew = .ok (.string ⟨#[a, b]⟩) (W.alloc (.cells #[.int .u8 a.toNat, .int .u8 b.toNat] 5)).drew := by
  refine conv_tail (xs := [a, b]) (fun i hi => ?_) 2
  have : i = 0 ∨ i = 1 := by simp at hi; omega
  rcases this with rfl | rfl
  · exact (Blk.new W #[.int .u8 a.toNat, .int .u8 b.toNat] 5).drew.cell 0 rfl
  · exact (Blk.new W #[.int .u8 a.toNat, .int .u8 b.toNat] 5).drew.cell 1 rfl

set_option maxHeartbeats 1600000 in
set_option maxRecDepth 100000 in
theorem rtwo_any (c : Nat) (hc : c < 256) (w : World) :
    Calls Tryz.prog 39 #[.int .i64 c] w fun e w' => e = .returned (.string ⟨(Rx.two c).toArray⟩) ∧ Below w.heap.size w w' := by
  have hcv := conv_two
  have hd : c / 16 < 16 := by omega
  have hm : c % 16 < 16 := Nat.mod_lt _ (by decide)
  have HD : Hid ((⟨hex16.toArray⟩ : ByteArray)[c / 16]'(by simp [hex16, ByteArray.size]; omega) = dig (c / 16)) := (byteAt hex16 (c / 16) _).trans (hex16_dig _ hd)
  have HM : Hid ((⟨hex16.toArray⟩ : ByteArray)[c % 16]'(by simp [hex16, ByteArray.size]; omega) = dig (c % 16)) := (byteAt hex16 (c % 16) _).trans (hex16_dig _ hm)
  have HT := Lib.hid (two_dig c hc)
  have q0 : (0 : Int) ≤ (c : Int) / 16 ∧ (c : Int) / 16 < 16 := by omega
  have q1 : (0 : Int) ≤ (c : Int) % 16 ∧ (c : Int) % 16 < 16 := by omega
  have hwr : IntKind.i64.wrap ((c : Int) / 16) = (c : Int) / 16 := by simp [IntKind.wrap, IntKind.signed, IntKind.bits]; omega
  have t0 : ((c : Int) / 16).toNat = c / 16 := by omega
  have t1 : ((c : Int) % 16).toNat = c % 16 := by omega
  obtain ⟨q2, q3⟩ := q0
  obtain ⟨q4, q5⟩ := q1
  go_enter Tryz.func39, Tryz.ntmps39
  go_wp2_with fail
  go_region
  all_goals go_wp2_with fail
  go_ret
  refine ⟨ret_str ?_, ((Kept.refl (fun _ => False) _).alloc _).drew.below⟩
  rw [HT.out, ← HD.out, ← HM.out]
  rfl

theorem dec_step : ∀ n : Nat, n < 256 → Rx.digitsF 10 20 n = (if n / 10 = 0 then [] else Rx.digitsF 10 20 (n / 10)) ++ [dig (n % 10)] := by decide +kernel

theorem catS' (c : UInt8) (s : Rx.Bytes) : (⟨#[c]⟩ : ByteArray) ++ ⟨s.toArray⟩ = ⟨(c :: s).toArray⟩ := by
  apply ByteArray.ext; simp

/-- Is a string empty? -/
def strZero : Value → Nat
  | .string s => if s.size = 0 then 1 else 0
  | _ => 0

theorem strZero_cons (c : UInt8) (l : Rx.Bytes) : strZero (.string ⟨(c :: l).toArray⟩) = 0 := by
  show (if (c :: l).toArray.size = 0 then 1 else 0) = 0
  rw [if_neg (by simp)]

set_option maxHeartbeats 1600000 in
set_option maxRecDepth 100000 in
theorem rdigits_any (c : Nat) (hc : c < 256) (w : World) :
    Calls Tryz.prog 40 #[.int .i64 c, .int .i64 10] w fun e w' => e = .returned (.string ⟨(Rx.digitsF 10 20 c).toArray⟩) ∧ Below w.heap.size w w' := by
  have hneg : ¬ ((c : Int) < 0) := by omega
  go_enter Tryz.func40, Tryz.ntmps40
  go_wp2_with fail
  go_loopw [6, 7, 8] (fun x6 x7 _ wr => ∃ (r : Nat) (out : Rx.Bytes), r < 256 ∧ x7 = .int .i64 r ∧ x6 = .string ⟨out.toArray⟩ ∧ out.length ≤ 3 ∧ Below w.heap.size w wr ∧ Hid ((out = [] ∧ r = c) ∨ (out ≠ [] ∧ Rx.digitsF 10 20 c = (if r = 0 then [] else Rx.digitsF 10 20 r) ++ out))) (fun x6 x7 _ _ => (intOf x7).toNat + strZero x6)
  case atStart => exact ⟨c, [], hc, rfl, rfl, by simp, Below.refl _ _, .inl ⟨rfl, rfl⟩⟩
  case round =>
    obtain ⟨r, out, hr, rfl, rfl, hol, hbw, HI⟩ := hrel
    have HN : Hid (r ≠ 0 → ∀ t : UInt8, t = dig (r % 10) → t :: out ≠ [] ∧ Rx.digitsF 10 20 c = (if r / 10 = 0 then [] else Rx.digitsF 10 20 (r / 10)) ++ (t :: out)) := by
      rintro h0 t rfl
      refine ⟨by simp, ?_⟩
      rcases HI.out with ⟨rfl, rfl⟩ | ⟨h1, h2⟩
      · exact dec_step r hc
      · rw [h2, if_neg h0, dec_step r hr]
        simp
    have hm : r % 10 < 16 := by omega
    have HD : Hid ((⟨hex16.toArray⟩ : ByteArray)[r % 10]'(by simp [hex16, ByteArray.size]; omega) = dig (r % 10)) := (byteAt hex16 (r % 10) _).trans (hex16_dig _ hm)
    have q2 : 0 ≤ (r : Int) % 10 := by omega
    have q3 : (r : Int) % 10 < 16 := by omega
    have hwr : IntKind.i64.wrap ((r : Int) / 10) = (r : Int) / 10 := by simp [IntKind.wrap, IntKind.signed, IntKind.bits]; omega
    have t1 : ((r : Int) % 10).toNat = r % 10 := by omega
    have q6 : ¬ ((r : Int) % 10 < 0) := by omega
    have hcv := fun v => conv_one v wr
    by_cases h0 : r = 0
    · by_cases hne : out = []
      · subst hne
        subst h0
        have hc0 : c = 0 := by rcases HI.out with ⟨-, h⟩ | ⟨h, -⟩; exact h.symm; exact absurd rfl h
        subst hc0
        have HZ : Hid ((⟨hex16.toArray⟩ : ByteArray)[0]'(by decide) = 48) := rfl
        go_wp2_with fail
        refine ⟨⟨0, [48], by decide, rfl, rfl, by decide, hbw.alloc hbw.size _, .inr ⟨by simp, by decide⟩⟩, ?_⟩
        decide
      · subst h0
        have HE : Hid (Rx.digitsF 10 20 c = out) := by
          show _ = _
          rcases HI.out with ⟨h, -⟩ | ⟨-, h⟩
          · exact absurd h hne
          · simpa using h
        have hem : List.isEmpty out = false := by cases out; exact absurd rfl hne; rfl
        go_wp2_with fail
        go_ret
        rw [HE.out]
        exact ⟨rfl, hbw⟩
    · have hr0 : ¬ ((r : Int) = 0) := by omega
      have hdl := digits10_len c hc
      go_wp2_with fail
      obtain ⟨n1, n2⟩ := HN.out h0 _ HD.out
      refine ⟨⟨r / 10, _, by omega, by simp, congrArg Value.string (catS' _ out), ?_, hbw.alloc hbw.size _, .inr ⟨n1, n2⟩⟩, ?_⟩
      · have := congrArg List.length n2
        simp only [List.length_append, List.length_cons] at this ⊢
        omega
      · show ((r : Int) / 10).toNat + strZero (.string (_ ++ _)) < (r : Int).toNat + _
        have hz : strZero (.string ((⟨#[(⟨hex16.toArray⟩ : ByteArray)[r % 10]'(by simp [hex16, ByteArray.size]; omega)]⟩ : ByteArray) ++ ⟨out.toArray⟩)) = 0 := by
          rw [catS']
          exact strZero_cons _ _
        calc ((r : Int) / 10).toNat + strZero _ = ((r : Int) / 10).toNat + 0 := congrArg (((r : Int) / 10).toNat + ·) hz
          _ < (r : Int).toNat := by omega
          _ ≤ _ := Nat.le_add_right _ _

end Go.Proofs.YthdkbbkkijdhfaaGreatDoor
