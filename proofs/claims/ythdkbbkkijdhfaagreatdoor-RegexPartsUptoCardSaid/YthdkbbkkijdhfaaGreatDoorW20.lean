/-
  The walks of text.Digits (bases 10 and 16) and two. Conditions: the numbers are less than 256; the library's variables hold what they hold.
-/
import Derived.Test.YthdkbbkkijdhfaaGreatDoorW6
import Derived.Test.YthdkbbkkijdhfaaGreatDoorStr
import Derived.Lib.QuietBelow
namespace Go.Proofs.YthdkbbkkijdhfaaGreatDoor
open Go.RowKit Go.Shelf Go.Maps Go.Sort

theorem tz64_any (w : World) (hg : Glo w) : Calls Tryz.prog 108 #[.int .u64 16] w fun e w' => e = .returned (.int .i64 4) ∧ w' = w := by
  have h : w.cell? ⟨3, (IntKind.u64.wrap (bits BinOp.and IntKind.u64 16 (IntKind.u64.wrap (-16)) * 285870213051353865) / 288230376151711744).toNat, none⟩ = some (.int .u8 4) := by
    rw [show (IntKind.u64.wrap (bits BinOp.and IntKind.u64 16 (IntKind.u64.wrap (-16)) * 285870213051353865) / 288230376151711744).toNat = 15 by decide +kernel]
    exact hg.tz
  go_enter Tryz.func108, Tryz.ntmps108
  go_wp2_with fail
  go_ret
  exact ⟨rfl, rfl⟩

theorem tz_any (w : World) (hg : Glo w) : Calls Tryz.prog 96 #[.int .u64 16] w fun e w' => e = .returned (.int .i64 4) ∧ w' = w := by
  have h := tz64_any w hg
  go_enter Tryz.func96, Tryz.ntmps96
  go_wp2_with fail
  refine h.mono ?_
  rintro e w' ⟨rfl, rfl⟩
  go_wp2_with fail
  go_ret
  exact ⟨rfl, rfl⟩

theorem pow2_any (w : World) : Calls Tryz.prog 95 #[.int .i64 16] w fun e w' => e = .returned (.bool true) ∧ w' = w := by
  go_enter Tryz.func95, Tryz.ntmps95
  go_wp2_with fail
  go_ret
  exact ⟨rfl, rfl⟩

/-- A digit. -/
def dig (d : Nat) : UInt8 := UInt8.ofNat (if d < 10 then 48 + d else 87 + d)

theorem Glo.alloc {w : World} (h : Glo w) (h8 : 8 ≤ w.heap.size) (o : Obj) : Glo (w.alloc o) := h.kept (S := fun _ => False) ((Kept.refl _ _).alloc o) (fun _ h => h.elim) h8

theorem byteAt (l : List UInt8) (c : Nat) (h : c < (⟨l.toArray⟩ : ByteArray).size) : (⟨l.toArray⟩ : ByteArray)[c] = l.getD c 0 := by
  have h2 : c < l.length := by simpa [ByteArray.size] using h
  show l.toArray[c] = _
  simp [List.getD_eq_getElem?_getD, List.getElem?_eq_getElem h2]
def hexTab : List UInt8 := [48, 49, 50, 51, 52, 53, 54, 55, 56, 57, 97, 98, 99, 100, 101, 102, 103, 104, 105, 106, 107, 108, 109, 110, 111, 112, 113, 114, 115, 116, 117, 118, 119, 120, 121, 122]
theorem hex_dig : ∀ c : Nat, c < 16 → hexTab.getD c 0 = dig c := by decide
theorem hex_one : ∀ c : Nat, c < 16 → Rx.digitsF 16 3 c = [dig c] := by decide
theorem hex_two : ∀ c : Nat, c < 256 → 16 ≤ c → Rx.digitsF 16 3 c = [dig (c / 16), dig (c % 16)] := by decide +kernel
theorem and_15 : ∀ c : Nat, c < 256 → bits .and .u64 (c : Int) 15 = ((c % 16 : Nat) : Int) := by decide +kernel

theorem conv_tail {W : World} {b o : Nat} {xs : List UInt8} (h : ∀ i, i < xs.length → W.cell? ⟨b, o + i, none⟩ = some (.int .u8 (xs.getD i 0).toNat)) (c : Nat) :
    (convert 22 9 (.slice (some ⟨b, o, none⟩) xs.length c)).run Tryz.prog W = .ok (.string ⟨xs.toArray⟩) W :=
  run_str (fun _ => ⟨b, o, rfl, h⟩) c

set_option maxHeartbeats 1600000 in
set_option maxRecDepth 100000 in
theorem bits_any (c : Nat) (hc : c < 256) (w : World) (hg : Glo w) (h8 : 8 ≤ w.heap.size) :
    Calls Tryz.prog 78 #[.slice none 0 0, .int .u64 c, .int .i64 16, .bool false, .bool false] w fun e w' => e = .returned (.tuple #[.slice none 0 0, .string ⟨(Rx.digitsF 16 3 c).toArray⟩]) ∧ Below w.heap.size w w' := by
  have hp := pow2_any (w.alloc (.cells Tryz.zeroCells131 131))
  have ht := tz_any _ (hg.alloc h8 (.cells Tryz.zeroCells131 131))
  have hb := Blk.new w Tryz.zeroCells131 131
  have hbl : Below w.heap.size w (w.alloc (.cells Tryz.zeroCells131 131)) := (Below.refl _ _).alloc (Nat.le_refl _) _
  go_enter Tryz.func78, Tryz.ntmps78
  go_wp2_with fail
  generalize w.alloc (.cells Tryz.zeroCells131 131) = w1 at *
  have c63 := hb.cell 63 (v := .int .u8 0) rfl
  have c64 := hb.cell 64 (v := .int .u8 0) rfl
  have f63 := hb.free 63
  have f64 := hb.free 64
  refine hp.mono ?_
  rintro e w' ⟨rfl, rfl⟩
  clear hp
  go_wp2_with fail
  refine ht.mono ?_
  rintro e w' ⟨rfl, rfl⟩
  clear ht
  go_wp2_with fail
  by_cases h16 : c < 16
  · go_loopw [1, 13] (fun x1 x13 wr => x1 = .int .u64 c ∧ x13 = .int .i64 65 ∧ wr = w') (fun _ _ _ => 0)
    case atStart => exact ⟨rfl, rfl, rfl⟩
    case round =>
      obtain ⟨rfl, rfl, rfl⟩ := hrel
      have hcv : ∀ v : UInt8, (convert 22 9 (.slice (some ⟨w.heap.size, 64, none⟩) 1 1)).run Tryz.prog (wr.setCell ⟨w.heap.size, 64, none⟩ (.int .u8 v.toNat)) = .ok (.string ⟨#[v]⟩) (wr.setCell ⟨w.heap.size, 64, none⟩ (.int .u8 v.toNat)) := fun v => by
        refine conv_tail (xs := [v]) (fun i hi => ?_) 1
        obtain rfl : i = 0 := by simpa using hi
        exact (hb.set 64 (.int .u8 v.toNat)).cell 64 rfl
      go_wp2_with fail
      go_ret2
      refine ⟨?_, hbl.setCell (Nat.le_refl _) _⟩
      rw [hex_one c h16, ← hex_dig c h16, ← byteAt hexTab c (by simp [hexTab, ByteArray.size]; omega)]
      rfl
  · go_loopw [1, 13] (fun x1 x13 wr => (x1 = .int .u64 c ∧ x13 = .int .i64 65 ∧ wr = w') ∨ (x1 = .int .u64 ((c / 16 : Nat) : Int) ∧ x13 = .int .i64 64 ∧ wr = w'.setCell ⟨w.heap.size, 64, none⟩ (.int .u8 (dig (c % 16)).toNat))) (fun x1 _ _ => (intOf x1).toNat)
    case atStart => exact .inl ⟨rfl, rfl, rfl⟩
    case round =>
      have ha := and_15 c hc
      have hm16 : c % 16 < 16 := Nat.mod_lt _ (by decide)
      have hd16 : c / 16 < 16 := by omega
      rcases hrel with ⟨rfl, rfl, rfl⟩ | ⟨rfl, rfl, rfl⟩
      · go_wp2_with fail
        refine ⟨.inr ⟨by simp, rfl, ?_⟩, ?_⟩
        · have e := (byteAt hexTab (c % 16) (by simp [hexTab, ByteArray.size]; omega)).trans (hex_dig _ hm16)
          show wr.setCell _ (.int .u8 (((⟨hexTab.toArray⟩ : ByteArray)[c % 16]'(by simp [hexTab, ByteArray.size]; omega)).toNat : Int)) = _
          rw [e]
        · show ((c : Int) / 16).toNat < (c : Int).toNat
          omega
      · have HD := Lib.hid (hex_two c hc (by omega))
        have hcv : ∀ v : UInt8, (convert 22 9 (.slice (some ⟨w.heap.size, 63, none⟩) 2 2)).run Tryz.prog ((w'.setCell ⟨w.heap.size, 64, none⟩ (.int .u8 (dig (c % 16)).toNat)).setCell ⟨w.heap.size, 63, none⟩ (.int .u8 v.toNat)) = .ok (.string ⟨#[v, dig (c % 16)]⟩) ((w'.setCell ⟨w.heap.size, 64, none⟩ (.int .u8 (dig (c % 16)).toNat)).setCell ⟨w.heap.size, 63, none⟩ (.int .u8 v.toNat)) := fun v => by
          refine conv_tail (xs := [v, dig (c % 16)]) (fun i hi => ?_) 2
          have hbb := (hb.set 64 (.int .u8 (dig (c % 16)).toNat)).set 63 (.int .u8 v.toNat)
          have : i = 0 ∨ i = 1 := by simp at hi; omega
          rcases this with rfl | rfl
          · exact hbb.cell 63 rfl
          · exact hbb.cell 64 rfl
        have c63' : (w'.setCell ⟨w.heap.size, 64, none⟩ (.int .u8 (dig (c % 16)).toNat)).cell? ⟨w.heap.size, 63, none⟩ = some (.int .u8 0) := (hb.set 64 (.int .u8 (dig (c % 16)).toNat)).cell 63 rfl
        have f63' := (hb.set 64 (.int .u8 (dig (c % 16)).toNat)).free 63
        have hbl2 := hbl.setCell (p := ⟨w.heap.size, 64, none⟩) (Nat.le_refl _) (.int .u8 (dig (c % 16)).toNat)
        have HB2 := Lib.hid hbl2
        clear ha hb hbl hbl2 c63 c64 f63 f64 hm16
        generalize dig (c % 16) = m at *
        generalize w'.setCell ⟨w.heap.size, 64, none⟩ (.int .u8 m.toNat) = w3 at *
        generalize c / 16 = d at *
        go_wp2_with fail
        go_ret2
        refine ⟨?_, HB2.out.setCell (Nat.le_refl _) _⟩
        rw [HD.out, ← hex_dig d hd16, ← byteAt hexTab d (by simp [hexTab, ByteArray.size]; omega)]
        rfl

set_option maxHeartbeats 1600000 in
theorem digits16_any (c : Nat) (hc : c < 256) (w : World) (hg : Glo w) (h8 : 8 ≤ w.heap.size) :
    Calls Tryz.prog 24 #[.int .i64 c, .int .i64 16] w fun e w' => e = .returned (.string ⟨(Rx.digitsF 16 3 c).toArray⟩) ∧ Below w.heap.size w w' := by
  have h1 := bits_any c hc w hg h8
  have h2 : Calls Tryz.prog 58 #[.int .i64 c, .int .i64 16] w fun e w' => e = .returned (.string ⟨(Rx.digitsF 16 3 c).toArray⟩) ∧ Below w.heap.size w w' := by
    have hneg : decide ((c : Int) < 0) = false := by simp
    go_enter Tryz.func58, Tryz.ntmps58
    go_wp2_with fail
    refine h1.mono ?_
    rintro e w' ⟨rfl, hb⟩
    go_wp2_with fail
    go_ret
    exact ⟨rfl, hb⟩
  have h3 : Calls Tryz.prog 42 #[.int .i64 c, .int .i64 16] w fun e w' => e = .returned (.string ⟨(Rx.digitsF 16 3 c).toArray⟩) ∧ Below w.heap.size w w' := by
    go_enter Tryz.func42, Tryz.ntmps42
    go_wp2_with fail
    refine h2.mono ?_
    rintro e w' ⟨rfl, hb⟩
    go_wp2_with fail
    go_ret
    exact ⟨rfl, hb⟩
  go_enter Tryz.func24, Tryz.ntmps24
  go_wp2_with fail
  refine h3.mono ?_
  rintro e w' ⟨rfl, hb⟩
  go_wp2_with fail
  go_ret
  exact ⟨rfl, hb⟩

theorem itoa_digits : ∀ c : Nat, c < 256 → Lib.itoa (c : Int) = Rx.digitsF 10 20 c := by decide +kernel

theorem digits10_any (c : Nat) (hc : c < 256) (w : World) (hg : Glo w) :
    Calls Tryz.prog 24 #[.int .i64 c, .int .i64 10] w fun e w' => e = .returned (.string ⟨(Rx.digitsF 10 20 c).toArray⟩) ∧ Below w.heap.size w w' := by
  have h3 : Calls Tryz.prog 42 #[.int .i64 c, .int .i64 10] w fun e w' => e = .returned (.string ⟨(Rx.digitsF 10 20 c).toArray⟩) ∧ Below w.heap.size w w' := by
    refine (Any.strconv_FormatInt_10 Tryz.laysM173 (c : Int) (by omega) (by omega) w hg.tab).mono ?_
    rintro e w' ⟨rfl, k, os, rfl⟩
    rw [itoa_digits c hc]
    exact ⟨rfl, below_regrown w _ os⟩
  go_enter Tryz.func24, Tryz.ntmps24
  go_wp2_with fail
  refine h3.mono ?_
  rintro e w' ⟨rfl, hb⟩
  go_wp2_with fail
  go_ret
  exact ⟨rfl, hb⟩

theorem digits16_len : ∀ c : Nat, c < 256 → (Rx.digitsF 16 3 c).length = 1 ∨ (Rx.digitsF 16 3 c).length = 2 := by decide +kernel

theorem two_any (c : Nat) (hc : c < 256) (w : World) (hg : Glo w) (h8 : 8 ≤ w.heap.size) :
    Calls Tryz.prog 71 #[.int .i64 c] w fun e w' => e = .returned (.string ⟨(Rx.two c).toArray⟩) ∧ Below w.heap.size w w' := by
  have h1 := digits16_any c hc w hg h8
  have hl := digits16_len c hc
  have HT : Hid (Rx.two c = if (Rx.digitsF 16 3 c).length = 1 then 48 :: Rx.digitsF 16 3 c else Rx.digitsF 16 3 c) := by show _ = _; rfl
  generalize Rx.digitsF 16 3 c = d at *
  go_enter Tryz.func71, Tryz.ntmps71
  go_wp2_with fail
  refine h1.mono ?_
  rintro e w' ⟨rfl, hb⟩
  rcases hl with hl | hl
  · have e1 : (⟨#[48]⟩ : ByteArray) ++ ⟨d.toArray⟩ = ⟨(48 :: d).toArray⟩ := by apply ByteArray.ext; simp
    go_wp2_with fail
    go_ret
    rw [HT.out, if_pos hl]
    exact ⟨rfl, hb⟩
  · have hl2 : ¬ (d.length = 1) := by omega
    go_wp2_with fail
    go_ret
    rw [HT.out, if_neg hl2]
    exact ⟨rfl, hb⟩

end Go.Proofs.YthdkbbkkijdhfaaGreatDoor
