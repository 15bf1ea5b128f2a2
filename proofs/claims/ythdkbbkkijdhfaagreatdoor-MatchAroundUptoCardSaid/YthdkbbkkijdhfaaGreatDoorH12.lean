/-
  Texts of this seat put together: W19, Str, W20, Join, W21.
-/
import Derived.Test.YthdkbbkkijdhfaaGreatDoorH11
import Derived.Test.YthdkbbkkijdhfaaGreatDoorH3
import Derived.Shelf.Bytes.SlEqualAll
import Derived.Test.YthdkbbkkijdhfaaGreatDoorH6
import Derived.Lib.QuietBelow
import Derived.Test.YthdkbbkkijdhfaaGreatDoorH4
import Derived.Shelf.Strings.OnBuilder
import Derived.Maps.AppendAt

/-
  The walk of Parse. Conditions: the text is shorter than 2^30 bytes; the library's variables hold what they hold.
-/
namespace Go.Proofs.YthdkbbkkijdhfaaGreatDoor
open Go.RowKit Go.Shelf Go.Maps

/-- An expression in memory. -/
def ReAt (w : World) (B q : Nat) (n : Rx.Nd) : Prop := ∃ p, Blk w q #[ptrV p] 78 ∧ B ≤ q ∧ NdAt w B p n

theorem ReAt.kept {S : Nat → Prop} {w w' : World} {B q : Nat} {n : Rx.Nd} (h : ReAt w B q n) (hk : Kept S w w') (hS : ∀ k, B ≤ k → ¬ S k) : ReAt w' B q n := by
  obtain ⟨p, hb, hq, hn⟩ := h
  exact ⟨p, hb.kept hk (hS q hq), hq, hn.kept hk hS⟩
theorem ReAt.keep {w w' : World} {B B' q : Nat} {n : Rx.Nd} (h : ReAt w B q n) (hb : Below w.heap.size w w') (hB : B' ≤ B) : ReAt w' B' q n := by
  obtain ⟨p, h1, hq, hn⟩ := h.kept (Kept.of_below (S := fun _ => False) hb) (fun _ _ h => h)
  exact ⟨p, h1, Nat.le_trans hB hq, hn.mono fun k hk => Nat.le_trans hB hk⟩

/-- What Parse hands back and leaves. -/
def ParsePost (B : Nat) (x : Option Rx.Nd) (e : Ending) (w' : World) : Prop := match x with
  | none => e = .returned (.tuple #[.pointer none, .int .i64 20])
  | some n => if 10000 < n.size then e = .returned (.tuple #[.pointer none, .int .i64 12])
    else ∃ q, e = .returned (.tuple #[.pointer (some ⟨q, 0, none⟩), .int .i64 0]) ∧ ReAt w' B q n

set_option maxHeartbeats 1600000 in
set_option maxRecDepth 100000 in
theorem Parse_any (s : Rx.Bytes) (ext fold : Bool) (w : World) (hg : Glo w) (h8 : 8 ≤ w.heap.size) (hl : s.length < 1073741824) :
    Calls Tryz.prog 17 #[.string ⟨s.toArray⟩, .bool ext, .bool fold] w fun e w' => ParsePost w.heap.size (Rx.read s ext fold) e w' ∧ Below w.heap.size w w' := by
  have HP : Hid (∀ x, Rx.read s ext fold = x → ∀ e w', ParsePost w.heap.size x e w' → ParsePost w.heap.size (Rx.read s ext fold) e w') := by
    rintro x rfl e w' h; exact h
  generalize hpost : ParsePost w.heap.size (Rx.read s ext fold) = POST at HP ⊢
  clear hpost
  have hk : Kept (· = w.heap.size) w (w.alloc (.cells #[.string ⟨s.toArray⟩, .bool ext, .bool fold] 73)) := (Kept.refl _ _).alloc _
  have hsz : (w.alloc (.cells #[.string ⟨s.toArray⟩, .bool ext, .bool fold] 73)).heap.size = w.heap.size + 1 := by simp
  have hr : Rd (w.alloc (.cells #[.string ⟨s.toArray⟩, .bool ext, .bool fold] 73)) w.heap.size s ext fold :=
    ⟨Blk.new _ _ _, hg.kept hk (fun k e => e ▸ h8) h8, h8, hl⟩
  have hread := read_any _ s ext fold _ hr
  go_enter Tryz.func17, Tryz.ntmps17
  go_wp2_with fail
  generalize w.alloc (.cells #[.string ⟨s.toArray⟩, .bool ext, .bool fold] 73) = w1 at *
  have below_of : ∀ w', Kept (· = w.heap.size) w1 w' → Below w.heap.size w w' := fun w' h => ((hk.trans h).mono (T := fun _ => False) fun k hk e => by omega).below
  have HBL := Lib.hid below_of
  clear below_of
  refine hread.mono ?_
  rintro e w2 ⟨h1, hk2⟩
  clear hread
  cases hx : Rx.read s ext fold with
  | none =>
    rw [hx] at h1
    have h1 : e = _ := h1
    subst h1
    have HX := Lib.hid hx
    clear hx
    go_wp2_with fail
    go_ret2
    exact ⟨HP.out _ HX.out _ _ rfl, HBL.out _ hk2⟩
  | some n =>
    rw [hx] at h1
    obtain ⟨p, rfl, hn⟩ := h1
    have HX := Lib.hid hx
    have hsize := size_any hn
    clear hx
    by_cases hbig : 10000 < n.size
    · have hbig2 : (10000 : Int) < (n.size : Int) := by omega
      have HB := Lib.hid hbig
      clear hbig
      go_wp2_with fail
      refine hsize.mono ?_
      rintro e w3 ⟨rfl, rfl⟩
      go_wp2_with fail
      go_ret2
      refine ⟨HP.out _ HX.out _ _ ?_, HBL.out _ hk2⟩
      show if _ then _ else _
      rw [if_pos HB.out]
      rfl
    · have hbig2 : ¬ ((10000 : Int) < (n.size : Int)) := by omega
      have HB := Lib.hid hbig
      clear hbig
      go_wp2_with fail
      refine hsize.mono ?_
      rintro e w3 ⟨rfl, rfl⟩
      go_wp2_with fail
      go_ret2
      refine ⟨HP.out _ HX.out _ _ ?_, (HBL.out _ hk2).alloc (by have := (HBL.out _ hk2).size; omega) _⟩
      show if _ then _ else _
      rw [if_neg HB.out]
      have hb3 := (HBL.out _ hk2).size
      exact ⟨_, rfl, p, Blk.new _ _ _, hb3, (hn.kept ((Kept.refl (fun _ => False) _).alloc _) fun _ _ h => h).mono fun k hk => by omega⟩

end Go.Proofs.YthdkbbkkijdhfaaGreatDoor

/-
  Bytes in memory as a string. No condition.
-/
namespace Go.Proofs.YthdkbbkkijdhfaaGreatDoor
open Go.RowKit Go.Shelf

def nums (xs : List UInt8) : List Int := xs.map fun c => (c.toNat : Int)
theorem nums_length (xs : List UInt8) : (nums xs).length = xs.length := by simp [nums]
theorem nums_getD (xs : List UInt8) (i : Nat) (hi : i < xs.length) : (nums xs).getD i 0 = ((xs.getD i 0).toNat : Int) := by
  simp [nums, List.getD_eq_getElem?_getD, List.getElem?_eq_getElem hi]
theorem bytesIn_of_bs {w : World} {p : Option Addr} {xs : List UInt8} (h : Bs w p xs) : Lib.BytesIn w p xs.length (nums xs) := by
  intro hn
  obtain ⟨b, o, rfl, hc⟩ := h hn
  exact ⟨b, o, rfl, fun i hi => by rw [hc i hi, nums_getD xs i hi]⟩

theorem strOf_nums (xs : List UInt8) : strOfNums (nums xs) = ⟨xs.toArray⟩ := by
  have h : (nums xs).map (fun n => UInt8.ofNat n.toNat) = xs := by
    unfold nums
    rw [List.map_map]
    conv => rhs; rw [← List.map_id xs]
    apply List.map_congr_left
    intro c _
    simp
  unfold strOfNums
  rw [h]

theorem run_str {w : World} {p : Option Addr} {xs : List UInt8} (h : Bs w p xs) (c : Nat) :
    (convert 22 9 (.slice p xs.length c)).run Tryz.prog w = .ok (.string ⟨xs.toArray⟩) w := by
  rw [← strOf_nums]
  exact (bytesIn_of_bs h).convert (nums_length xs) c 22 5 9 Tryz.underlying22 Tryz.underlying5 Tryz.underlying9

end Go.Proofs.YthdkbbkkijdhfaaGreatDoor

/-
  The walks of text.Digits (bases 10 and 16) and two. Conditions: the numbers are less than 256; the library's variables hold what they hold.
-/
namespace Go.Proofs.YthdkbbkkijdhfaaGreatDoor
open Go.RowKit Go.Shelf Go.Maps Go.Sort

theorem tz64_any (w : World) (hg : Glo w) : Calls Tryz.prog 108 #[.int .u64 16] w fun e w' => e = .returned (.int .i64 4) ∧ w' = w := by
  have h : w.cell? ⟨3, (IntKind.u64.wrap (bits BinOp.and IntKind.u64 16 (IntKind.u64.wrap (-16)) * 285870213051353865) / 288230376151711744).toNat, none⟩ = some (.int .u8 4) := by
    rw [show (IntKind.u64.wrap (bits BinOp.and IntKind.u64 16 (IntKind.u64.wrap (-16)) * 285870213051353865) / 288230376151711744).toNat = 15 by decide +kernel]
    exact hg.tz
  go_enter Tryz.func108, Tryz.ntmps108
  go_wp2_with fail
  go_ret
  exact ⟨rfl, rfl⟩

theorem tz_any (w : World) (hg : Glo w) : Calls Tryz.prog 96 #[.int .u64 16] w fun e w' => e = .returned (.int .i64 4) ∧ w' = w := by
  have h := tz64_any w hg
  go_enter Tryz.func96, Tryz.ntmps96
  go_wp2_with fail
  refine h.mono ?_
  rintro e w' ⟨rfl, rfl⟩
  go_wp2_with fail
  go_ret
  exact ⟨rfl, rfl⟩

theorem pow2_any (w : World) : Calls Tryz.prog 95 #[.int .i64 16] w fun e w' => e = .returned (.bool true) ∧ w' = w := by
  go_enter Tryz.func95, Tryz.ntmps95
  go_wp2_with fail
  go_ret
  exact ⟨rfl, rfl⟩

/-- A digit. -/
def dig (d : Nat) : UInt8 := UInt8.ofNat (if d < 10 then 48 + d else 87 + d)

theorem Glo.alloc {w : World} (h : Glo w) (h8 : 8 ≤ w.heap.size) (o : Obj) : Glo (w.alloc o) := h.kept (S := fun _ => False) ((Kept.refl _ _).alloc o) (fun _ h => h.elim) h8

theorem byteAt (l : List UInt8) (c : Nat) (h : c < (⟨l.toArray⟩ : ByteArray).size) : (⟨l.toArray⟩ : ByteArray)[c] = l.getD c 0 := by
  have h2 : c < l.length := by simpa [ByteArray.size] using h
  show l.toArray[c] = _
  simp [List.getD_eq_getElem?_getD, List.getElem?_eq_getElem h2]
def hexTab : List UInt8 := [48, 49, 50, 51, 52, 53, 54, 55, 56, 57, 97, 98, 99, 100, 101, 102, 103, 104, 105, 106, 107, 108, 109, 110, 111, 112, 113, 114, 115, 116, 117, 118, 119, 120, 121, 122]
theorem hex_dig : ∀ c : Nat, c < 16 → hexTab.getD c 0 = dig c := by decide
theorem hex_one : ∀ c : Nat, c < 16 → Rx.digitsF 16 3 c = [dig c] := by decide
theorem hex_two : ∀ c : Nat, c < 256 → 16 ≤ c → Rx.digitsF 16 3 c = [dig (c / 16), dig (c % 16)] := by decide +kernel
theorem and_15 : ∀ c : Nat, c < 256 → bits .and .u64 (c : Int) 15 = ((c % 16 : Nat) : Int) := by decide +kernel

theorem conv_tail {W : World} {b o : Nat} {xs : List UInt8} (h : ∀ i, i < xs.length → W.cell? ⟨b, o + i, none⟩ = some (.int .u8 (xs.getD i 0).toNat)) (c : Nat) :
    (convert 22 9 (.slice (some ⟨b, o, none⟩) xs.length c)).run Tryz.prog W = .ok (.string ⟨xs.toArray⟩) W :=
  run_str (fun _ => ⟨b, o, rfl, h⟩) c

set_option maxHeartbeats 1600000 in
set_option maxRecDepth 100000 in
theorem bits_any (c : Nat) (hc : c < 256) (w : World) (hg : Glo w) (h8 : 8 ≤ w.heap.size) :
    Calls Tryz.prog 78 #[.slice none 0 0, .int .u64 c, .int .i64 16, .bool false, .bool false] w fun e w' => e = .returned (.tuple #[.slice none 0 0, .string ⟨(Rx.digitsF 16 3 c).toArray⟩]) ∧ Below w.heap.size w w' := by
  have hp := pow2_any (w.alloc (.cells Tryz.zeroCells131 131))
  have ht := tz_any _ (hg.alloc h8 (.cells Tryz.zeroCells131 131))
  have hb := Blk.new w Tryz.zeroCells131 131
  have hbl : Below w.heap.size w (w.alloc (.cells Tryz.zeroCells131 131)) := (Below.refl _ _).alloc (Nat.le_refl _) _
  go_enter Tryz.func78, Tryz.ntmps78
  go_wp2_with fail
  generalize w.alloc (.cells Tryz.zeroCells131 131) = w1 at *
  have c63 := hb.cell 63 (v := .int .u8 0) rfl
  have c64 := hb.cell 64 (v := .int .u8 0) rfl
  have f63 := hb.free 63
  have f64 := hb.free 64
  refine hp.mono ?_
  rintro e w' ⟨rfl, rfl⟩
  clear hp
  go_wp2_with fail
  refine ht.mono ?_
  rintro e w' ⟨rfl, rfl⟩
  clear ht
  go_wp2_with fail
  by_cases h16 : c < 16
  · go_loopw [1, 13] (fun x1 x13 wr => x1 = .int .u64 c ∧ x13 = .int .i64 65 ∧ wr = w') (fun _ _ _ => 0)
    case atStart => exact ⟨rfl, rfl, rfl⟩
    case round =>
      obtain ⟨rfl, rfl, rfl⟩ := hrel
      have hcv : ∀ v : UInt8, (convert 22 9 (.slice (some ⟨w.heap.size, 64, none⟩) 1 1)).run Tryz.prog (wr.setCell ⟨w.heap.size, 64, none⟩ (.int .u8 v.toNat)) = .ok (.string ⟨#[v]⟩) (wr.setCell ⟨w.heap.size, 64, none⟩ (.int .u8 v.toNat)) := fun v => by
        refine conv_tail (xs := [v]) (fun i hi => ?_) 1
        obtain rfl : i = 0 := by simpa using hi
        exact (hb.set 64 (.int .u8 v.toNat)).cell 64 rfl
      go_wp2_with fail
      go_ret2
      refine ⟨?_, hbl.setCell (Nat.le_refl _) _⟩
      rw [hex_one c h16, ← hex_dig c h16, ← byteAt hexTab c (by simp [hexTab, ByteArray.size]; omega)]
      rfl
  · go_loopw [1, 13] (fun x1 x13 wr => (x1 = .int .u64 c ∧ x13 = .int .i64 65 ∧ wr = w') ∨ (x1 = .int .u64 ((c / 16 : Nat) : Int) ∧ x13 = .int .i64 64 ∧ wr = w'.setCell ⟨w.heap.size, 64, none⟩ (.int .u8 (dig (c % 16)).toNat))) (fun x1 _ _ => (intOf x1).toNat)
    case atStart => exact .inl ⟨rfl, rfl, rfl⟩
    case round =>
      have ha := and_15 c hc
      have hm16 : c % 16 < 16 := Nat.mod_lt _ (by decide)
      have hd16 : c / 16 < 16 := by omega
      rcases hrel with ⟨rfl, rfl, rfl⟩ | ⟨rfl, rfl, rfl⟩
      · go_wp2_with fail
        refine ⟨.inr ⟨by simp, rfl, ?_⟩, ?_⟩
        · have e := (byteAt hexTab (c % 16) (by simp [hexTab, ByteArray.size]; omega)).trans (hex_dig _ hm16)
          show wr.setCell _ (.int .u8 (((⟨hexTab.toArray⟩ : ByteArray)[c % 16]'(by simp [hexTab, ByteArray.size]; omega)).toNat : Int)) = _
          rw [e]
        · show ((c : Int) / 16).toNat < (c : Int).toNat
          omega
      · have HD := Lib.hid (hex_two c hc (by omega))
        have hcv : ∀ v : UInt8, (convert 22 9 (.slice (some ⟨w.heap.size, 63, none⟩) 2 2)).run Tryz.prog ((w'.setCell ⟨w.heap.size, 64, none⟩ (.int .u8 (dig (c % 16)).toNat)).setCell ⟨w.heap.size, 63, none⟩ (.int .u8 v.toNat)) = .ok (.string ⟨#[v, dig (c % 16)]⟩) ((w'.setCell ⟨w.heap.size, 64, none⟩ (.int .u8 (dig (c % 16)).toNat)).setCell ⟨w.heap.size, 63, none⟩ (.int .u8 v.toNat)) := fun v => by
          refine conv_tail (xs := [v, dig (c % 16)]) (fun i hi => ?_) 2
          have hbb := (hb.set 64 (.int .u8 (dig (c % 16)).toNat)).set 63 (.int .u8 v.toNat)
          have : i = 0 ∨ i = 1 := by simp at hi; omega
          rcases this with rfl | rfl
          · exact hbb.cell 63 rfl
          · exact hbb.cell 64 rfl
        have c63' : (w'.setCell ⟨w.heap.size, 64, none⟩ (.int .u8 (dig (c % 16)).toNat)).cell? ⟨w.heap.size, 63, none⟩ = some (.int .u8 0) := (hb.set 64 (.int .u8 (dig (c % 16)).toNat)).cell 63 rfl
        have f63' := (hb.set 64 (.int .u8 (dig (c % 16)).toNat)).free 63
        have hbl2 := hbl.setCell (p := ⟨w.heap.size, 64, none⟩) (Nat.le_refl _) (.int .u8 (dig (c % 16)).toNat)
        have HB2 := Lib.hid hbl2
        clear ha hb hbl hbl2 c63 c64 f63 f64 hm16
        generalize dig (c % 16) = m at *
        generalize w'.setCell ⟨w.heap.size, 64, none⟩ (.int .u8 m.toNat) = w3 at *
        generalize c / 16 = d at *
        go_wp2_with fail
        go_ret2
        refine ⟨?_, HB2.out.setCell (Nat.le_refl _) _⟩
        rw [HD.out, ← hex_dig d hd16, ← byteAt hexTab d (by simp [hexTab, ByteArray.size]; omega)]
        rfl

set_option maxHeartbeats 1600000 in
theorem digits16_any (c : Nat) (hc : c < 256) (w : World) (hg : Glo w) (h8 : 8 ≤ w.heap.size) :
    Calls Tryz.prog 24 #[.int .i64 c, .int .i64 16] w fun e w' => e = .returned (.string ⟨(Rx.digitsF 16 3 c).toArray⟩) ∧ Below w.heap.size w w' := by
  have h1 := bits_any c hc w hg h8
  have h2 : Calls Tryz.prog 58 #[.int .i64 c, .int .i64 16] w fun e w' => e = .returned (.string ⟨(Rx.digitsF 16 3 c).toArray⟩) ∧ Below w.heap.size w w' := by
    have hneg : decide ((c : Int) < 0) = false := by simp
    go_enter Tryz.func58, Tryz.ntmps58
    go_wp2_with fail
    refine h1.mono ?_
    rintro e w' ⟨rfl, hb⟩
    go_wp2_with fail
    go_ret
    exact ⟨rfl, hb⟩
  have h3 : Calls Tryz.prog 42 #[.int .i64 c, .int .i64 16] w fun e w' => e = .returned (.string ⟨(Rx.digitsF 16 3 c).toArray⟩) ∧ Below w.heap.size w w' := by
    go_enter Tryz.func42, Tryz.ntmps42
    go_wp2_with fail
    refine h2.mono ?_
    rintro e w' ⟨rfl, hb⟩
    go_wp2_with fail
    go_ret
    exact ⟨rfl, hb⟩
  go_enter Tryz.func24, Tryz.ntmps24
  go_wp2_with fail
  refine h3.mono ?_
  rintro e w' ⟨rfl, hb⟩
  go_wp2_with fail
  go_ret
  exact ⟨rfl, hb⟩

theorem itoa_digits : ∀ c : Nat, c < 256 → Lib.itoa (c : Int) = Rx.digitsF 10 20 c := by decide +kernel

theorem digits10_any (c : Nat) (hc : c < 256) (w : World) (hg : Glo w) :
    Calls Tryz.prog 24 #[.int .i64 c, .int .i64 10] w fun e w' => e = .returned (.string ⟨(Rx.digitsF 10 20 c).toArray⟩) ∧ Below w.heap.size w w' := by
  have h3 : Calls Tryz.prog 42 #[.int .i64 c, .int .i64 10] w fun e w' => e = .returned (.string ⟨(Rx.digitsF 10 20 c).toArray⟩) ∧ Below w.heap.size w w' := by
    refine (Any.strconv_FormatInt_10 Tryz.laysM173 (c : Int) (by omega) (by omega) w hg.tab).mono ?_
    rintro e w' ⟨rfl, k, os, rfl⟩
    rw [itoa_digits c hc]
    exact ⟨rfl, below_regrown w _ os⟩
  go_enter Tryz.func24, Tryz.ntmps24
  go_wp2_with fail
  refine h3.mono ?_
  rintro e w' ⟨rfl, hb⟩
  go_wp2_with fail
  go_ret
  exact ⟨rfl, hb⟩

theorem digits16_len : ∀ c : Nat, c < 256 → (Rx.digitsF 16 3 c).length = 1 ∨ (Rx.digitsF 16 3 c).length = 2 := by decide +kernel

theorem two_any (c : Nat) (hc : c < 256) (w : World) (hg : Glo w) (h8 : 8 ≤ w.heap.size) :
    Calls Tryz.prog 71 #[.int .i64 c] w fun e w' => e = .returned (.string ⟨(Rx.two c).toArray⟩) ∧ Below w.heap.size w w' := by
  have h1 := digits16_any c hc w hg h8
  have hl := digits16_len c hc
  have HT : Hid (Rx.two c = if (Rx.digitsF 16 3 c).length = 1 then 48 :: Rx.digitsF 16 3 c else Rx.digitsF 16 3 c) := by show _ = _; rfl
  generalize Rx.digitsF 16 3 c = d at *
  go_enter Tryz.func71, Tryz.ntmps71
  go_wp2_with fail
  refine h1.mono ?_
  rintro e w' ⟨rfl, hb⟩
  rcases hl with hl | hl
  · have e1 : (⟨#[48]⟩ : ByteArray) ++ ⟨d.toArray⟩ = ⟨(48 :: d).toArray⟩ := by apply ByteArray.ext; simp
    go_wp2_with fail
    go_ret
    rw [HT.out, if_pos hl]
    exact ⟨rfl, hb⟩
  · have hl2 : ¬ (d.length = 1) := by omega
    go_wp2_with fail
    go_ret
    rw [HT.out, if_neg hl2]
    exact ⟨rfl, hb⟩

end Go.Proofs.YthdkbbkkijdhfaaGreatDoor

/-
  strings.Join of a slice of strings that the call owns. Condition: what is told lies in memory, and is no longer than memory allows.
-/
namespace Go.Proofs.YthdkbbkkijdhfaaGreatDoor
open Go.RowKit Go.Shelf

theorem builderX : Builder.Extra Tryz.prog Tryz.lays156_ren := {
  sizeBuilder := by kernel_rfl
  liesBuilder := by kernel_rfl
  t5 := Tryz.underlying5
  a5 := Tryz.isAgg5
  z5 := Tryz.sizeOf5
  v5 := Tryz.zeroValue5
  infoByte := by kernel_rfl
  cellsByte := by kernel_rfl
  sizeByte := by kernel_rfl
  neB5 := by decide }

def strV (x : Rx.Bytes) : Value := .string ⟨x.toArray⟩
/-- Strings that a call owns, behind a slice. -/
structure StrsAt (w : World) (B : Nat) (v : Value) (l : List Rx.Bytes) : Prop where
  none_ : l = [] → v = .slice none 0 0
  own : w.ownsRow B 9 1 v l.length (l.map strV)

theorem StrsAt.nil (w : World) (B : Nat) : StrsAt w B (.slice none 0 0) [] := ⟨fun _ => rfl, World.ownsRow_nil _ _ _ _⟩

theorem sepBy_join (sep : Rx.Bytes) : ∀ l : List Rx.Bytes, Lib.join l sep = Rx.sepBy sep l
  | [] => rfl
  | [x] => by simp [Lib.join, Rx.sepBy]
  | x :: y :: r => by
    have ih := sepBy_join sep (y :: r)
    simp only [Lib.join, Rx.sepBy] at ih ⊢
    simp [ih]

theorem info_str : (Tryz.prog.info? 9).map (fun i => (i.zero, i.size, i.bytes)) = some (some (.string ⟨#[]⟩), 1, 16) := by kernel_rfl

theorem joinS_any (sep : Rx.Bytes) (v : Value) (l : List Rx.Bytes) (B : Nat) (w : World) (h : StrsAt w B v l) (hl : l.length ≤ 140737488355328) (hlen : (Rx.sepBy sep l).length ≤ 140737488355328) :
    Calls Tryz.prog 57 #[v, .string ⟨sep.toArray⟩] w fun e w' => e = .returned (.string ⟨(Rx.sepBy sep l).toArray⟩) ∧ Below w.heap.size w w' := by
  rcases h.own.2 with ⟨rfl, h2⟩ | ⟨g, cap, cur, e, hg, hb, hc, hm, hs, ht⟩
  · have : l = [] := List.length_eq_zero_iff.1 h2
    subst this
    refine (Any.strings_Join_none Tryz.lays156 builderX none 0 ⟨sep.toArray⟩ w).mono ?_
    rintro e w' ⟨rfl, rfl⟩
    exact ⟨rfl, Below.refl _ _⟩
  · have hmap : (l.map fun x => (⟨x.toArray⟩ : ByteArray)).map (·.data.toList) = l := by
      rw [List.map_map]
      conv => rhs; rw [← List.map_id l]
      rfl
    have := Any.strings_Join Tryz.lays156 builderX g 0 cap (l.map fun x => ⟨x.toArray⟩) ⟨sep.toArray⟩ w (fun j x hj => by
      have hx := h.own.cells (g := g) (by rw [e]; rfl) j (.string x) (by
        rw [List.getElem?_map] at hj ⊢
        rw [Option.map_eq_some_iff] at hj
        obtain ⟨y, hy, rfl⟩ := hj
        rw [hy]; rfl)
      rw [show ((⟨g, 0, none⟩ : Addr).add j) = ⟨g, 0 + j, none⟩ by simp only [Addr.add]; split <;> simp_all] at hx
      exact hx) (lt_of_block hb) (by simpa using hl) (by simpa using hc) (by
        rw [hmap, sepBy_join]; exact hlen)
    rw [hmap, sepBy_join, List.length_map] at this
    rw [e]
    exact this

end Go.Proofs.YthdkbbkkijdhfaaGreatDoor

/-
  The walk of ranges. Condition: the node lies in memory; the library's variables hold what they hold.
-/
namespace Go.Proofs.YthdkbbkkijdhfaaGreatDoor
open Go.RowKit Go.Shelf Go.Maps

theorem runEnd_ge (h : Rx.Has) : ∀ f k, k ≤ Rx.runEnd h f k := by
  intro f
  induction f with
  | zero => intro k; exact Nat.le_refl _
  | succ f ih =>
    intro k
    unfold Rx.runEnd
    split
    · have := ih (k + 1); omega
    · exact Nat.le_refl _
theorem runEnd_le (h : Rx.Has) : ∀ f k, k ≤ 255 → Rx.runEnd h f k ≤ 255 := by
  intro f
  induction f with
  | zero => intro k hk; exact hk
  | succ f ih =>
    intro k hk
    unfold Rx.runEnd
    split
    · exact ih (k + 1) (by omega)
    · exact hk

theorem two_len : ∀ c : Nat, c < 256 → (Rx.two c).length = 2 := by decide +kernel

/-- How a run is told. -/
def runText (c e : Nat) : Rx.Bytes := if c < e then Rx.two c ++ 45 :: Rx.two e else Rx.two c
theorem runText_len (c e : Nat) (hc : c < 256) (he : e < 256) : (runText c e).length ≤ 5 := by
  unfold runText
  have h1 := two_len c hc
  have h2 := two_len e he
  split <;> simp <;> omega
theorem rangesF_in (h : Rx.Has) (f c : Nat) (hc : c < 256) (hh : h (UInt8.ofNat c) = true) : Rx.rangesF h (f + 1) c = runText c (Rx.runEnd h 256 c) :: Rx.rangesF h f (Rx.runEnd h 256 c + 1) := by
  rw [Rx.rangesF, if_neg (by omega), if_pos hh]
  rfl
theorem rangesF_out (h : Rx.Has) (f c : Nat) (hc : c < 256) (hh : h (UInt8.ofNat c) = false) : Rx.rangesF h (f + 1) c = Rx.rangesF h f (c + 1) := by
  rw [Rx.rangesF, if_neg (by omega), if_neg (by rw [hh]; decide)]
theorem rangesF_end (h : Rx.Has) (f : Nat) : Rx.rangesF h f 256 = [] := by
  cases f with
  | zero => rfl
  | succ f => rw [Rx.rangesF, if_pos (Nat.le_refl _)]

/-- All runs' texts are short. -/
theorem rangesF_short (h : Rx.Has) : ∀ f c, ∀ x ∈ Rx.rangesF h f c, x.length ≤ 5 := by
  intro f
  induction f with
  | zero => intro c x hx; simp [Rx.rangesF] at hx
  | succ f ih =>
    intro c x hx
    unfold Rx.rangesF at hx
    split at hx
    · simp at hx
    · rename_i hc
      split at hx
      · rcases List.mem_cons.1 hx with rfl | hx
        · exact runText_len c _ (by omega) (by have := runEnd_le h 256 c (by omega); omega)
        · exact ih _ _ hx
      · exact ih _ _ hx
theorem rangesF_count (h : Rx.Has) : ∀ f c, (Rx.rangesF h f c).length ≤ f := by
  intro f
  induction f with
  | zero => intro c; simp [Rx.rangesF]
  | succ f ih =>
    intro c
    unfold Rx.rangesF
    split
    · simp
    · split
      · have := ih (Rx.runEnd h 256 c + 1); simp; omega
      · have := ih (c + 1); omega
theorem sepBy_len (t : Rx.Bytes) (m : Nat) : ∀ l : List Rx.Bytes, (∀ x ∈ l, x.length ≤ m) → (Rx.sepBy t l).length ≤ l.length * (m + t.length)
  | [], _ => by simp [Rx.sepBy]
  | [x], h => by have := h x (by simp); simp only [Rx.sepBy, List.length_cons, List.length_nil]; omega
  | x :: y :: r, h => by
    have ih := sepBy_len t m (y :: r) (fun z hz => h z (by simp [hz]))
    have h1 := h x (by simp)
    simp only [Rx.sepBy, List.length_append, List.length_cons] at ih ⊢
    rw [Nat.add_mul (r.length + 1) 1]
    omega

theorem StrsAt.kept {S : Nat → Prop} {w w' : World} {B : Nat} {v : Value} {l : List Rx.Bytes} (h : StrsAt w B v l) (hk : Kept S w w') (hS : ∀ k, B ≤ k → ¬ S k) : StrsAt w' B v l := by
  refine ⟨h.none_, ?_⟩
  obtain ⟨h1, h2 | ⟨g, cap, cur, e, hg, hb, r⟩⟩ := h.own
  · exact ⟨h1, .inl h2⟩
  · exact ⟨h1, .inr ⟨g, cap, cur, e, hg, (hk.block g (lt_of_block hb) (hS g hg)).trans hb, r⟩⟩

/-- What the loop of ranges keeps. -/
structure RgIn (h : Rx.Has) (w wr : World) (p c : Nat) (cs : Array Value) (v : Value) (done : List Rx.Bytes) (f : Nat) : Prop where
  strs : StrsAt wr w.heap.size v done
  nd : Blk wr p cs 87
  glo : Glo wr
  bel : Below w.heap.size w wr
  le : c ≤ 256
  len : done.length ≤ c
  fuel : 256 - c < f
  eq : Hid (Rx.rangesF h 257 0 = done ++ Rx.rangesF h f c)

set_option maxHeartbeats 3200000 in
set_option maxRecDepth 100000 in
theorem ranges_any (p : Nat) (kind mn mx : Int) (kids : Value) (h : Rx.Has) (w : World) (hb : Blk w p (ndCells kind h mn mx kids) 87) (hg : Glo w) (h8 : 8 ≤ w.heap.size) :
    Calls Tryz.prog 56 #[.pointer (some ⟨p, 0, none⟩)] w fun e w' => e = .returned (.string ⟨(Rx.ranges h).toArray⟩) ∧ Below w.heap.size w w' := by
  have I : RgIn h w w p 0 (ndCells kind h mn mx kids) (.slice none 0 0) [] 257 := ⟨StrsAt.nil _ _, hb, hg, Below.refl _ _, Nat.zero_le _, Nat.zero_le _, by omega, rfl⟩
  obtain ⟨i0, hi, hz0, hz1, hz2⟩ := info_parts info_str
  have hplt := hb.lt
  have HB0 := Lib.hid hb
  have HG0 := Lib.hid hg
  have HTXT := Lib.hid (rangesF_short h 257 0)
  have HCNT := rangesF_count h 257 0
  clear hb hg
  go_enter Tryz.func56, Tryz.ntmps56
  go_wp2_with fail
  go_loopw [3, 4, 5, 6] (fun x3 x4 _x5 _x6 wr => ∃ (c : Nat) (done : List Rx.Bytes) (f : Nat), x4 = .int .i64 c ∧ RgIn h w wr p c (ndCells kind h mn mx kids) x3 done f) (fun _ x4 _ _ _ => 256 - (intOf x4).toNat)
  case atStart => exact ⟨0, [], 257, rfl, I⟩
  case round =>
    clear I
    obtain ⟨c, done, f, rfl, I⟩ := hrel
    have hle := I.le
    obtain ⟨f, rfl⟩ : ∃ g, f = g + 1 := ⟨f - 1, by have := I.fuel; omega⟩
    by_cases hc : c < 256
    · have c0 := I.nd.cell (1 + c) (nd_has _ _ _ _ _ c hc)
      have HI := Lib.hid I
      cases hh : h (UInt8.ofNat c) with
      | false =>
        rw [hh] at c0
        have HE := Lib.hid (I.eq.out.trans (by rw [rangesF_out h f c hc hh]))
        clear I hh
        go_wp2_with fail
        refine ⟨⟨c + 1, done, f, by go_num, HI.out.strs, HI.out.nd, HI.out.glo, HI.out.bel, by omega, by have := HI.out.len; omega, by have := HI.out.fuel; omega, HE⟩, ?_⟩
        show 256 - ((c : Int) + 1).toNat < 256 - (c : Int).toNat
        omega
      | true =>
        rw [hh] at c0
        have HE := Lib.hid (I.eq.out.trans (by rw [rangesF_in h f c hc hh]))
        have hend := runEnd_le h 256 c (by omega)
        have hge := runEnd_ge h 256 c
        have hnd := I.nd
        clear I hh
        generalize hEE : Rx.runEnd h 256 c = E at HE hend hge
        have HR := Lib.hid hEE
        clear hEE
        have hcd : decide ((c : Int) < 256) = true := by simp; omega
        go_wp2_with fail
        try simp only [hcd]
        go_loopw [5] (fun x5 wx => wx = wr ∧ ∃ k g : Nat, x5 = .int .i64 k ∧ c ≤ k ∧ k ≤ 255 ∧ 255 - k < g ∧ Hid (Rx.runEnd h g k = E)) (fun x5 _ => 256 - (intOf x5).toNat)
        case atStart => exact ⟨rfl, c, 256, rfl, Nat.le_refl _, by omega, by omega, HR⟩
        case round =>
          obtain ⟨rfl, k, g, rfl, hck, hk255, hg, HK⟩ := hrel
          obtain ⟨g, rfl⟩ : ∃ q, g = q + 1 := ⟨g - 1, by omega⟩
          go_upto_region 7 with fail
          go_cut [19, 20, 21, 22, 23, 24, 25, 26, 27, 28, 29] (fun _ _ _ _ _ _ _ _ _ _ s29 wx => s29 = .bool (decide (k < 255) && h (UInt8.ofNat (k + 1))) ∧ wx = wr)
          case first =>
            by_cases hlt : k < 255
            · have c1 := hnd.cell (1 + (k + 1)) (nd_has _ _ _ _ _ (k + 1) (by omega))
              have H1 : Hid (decide (k < 255) = true) := by show _ = _; simpa using hlt
              have hlt2 : (k : Int) < 255 := by omega
              generalize h (UInt8.ofNat (k + 1)) = y at *
              go_wp2_with fail
              go_meet
              exact ⟨by rw [H1.out, Bool.true_and], rfl⟩
            · have H1 : Hid (decide (k < 255) = false) := by show _ = _; simpa using hlt
              have hlt2 : ¬ (k : Int) < 255 := by omega
              go_wp2_with fail
              go_meet
              exact ⟨by rw [H1.out, Bool.false_and], rfl⟩
          case rest =>
            obtain ⟨rfl, rfl⟩ := hcut
            cases hon : decide (k < 255) && h (UInt8.ofNat (k + 1)) with
            | true =>
              have hcon : k < 255 ∧ h (UInt8.ofNat (k + 1)) = true := by simpa using hon
              have HK2 : Hid (Rx.runEnd h g (k + 1) = E) := by
                have := HK.out
                rw [Rx.runEnd, if_pos hcon] at this
                exact this
              have hk1 := hcon.1
              clear hon hcon HK
              go_wp2_with fail
              refine ⟨⟨trivial, k + 1, g, by go_num, by omega, by omega, by omega, HK2⟩, ?_⟩
              show 256 - ((k : Int) + 1).toNat < 256 - (k : Int).toNat
              omega
            | false =>
              have hEk : E = k := by
                have := HK.out
                rw [Rx.runEnd, if_neg (fun hcon => by rw [decide_eq_true hcon.1, hcon.2] at hon; cases hon)] at this
                exact this.symm
              subst hEk
              have ht := two_any c hc _ HI.out.glo (by have := HI.out.bel.size; omega)
              clear hon HK
              go_wp2_with fail
              refine ht.mono ?_
              rintro e w3 ⟨rfl, hb3⟩
              have HG3 : Hid (Glo w3) := HI.out.glo.kept (S := fun _ => False) (Kept.of_below hb3) (fun _ h => h.elim) (by have := HI.out.bel.size; omega)
              have hsz3 := hb3.size
              have hszr := HI.out.bel.size
              have ht2 := two_any E (by omega) w3 HG3.out (by omega)
              clear ht
              go_upto_if 36 with fail
              go_cut [6, 36, 37, 38, 39, 40, 41] (fun s6 _ _ _ _ _ _ wx => s6 = .string ⟨(runText c E).toArray⟩ ∧ Below w3.heap.size w3 wx)
              case first =>
                by_cases hgt : c < E
                · have HT : Hid (runText c E = Rx.two c ++ 45 :: Rx.two E) := by show _ = _; unfold runText; rw [if_pos hgt]
                  have e1 : (⟨#[45]⟩ : ByteArray) ++ ⟨(Rx.two E).toArray⟩ = ⟨(45 :: Rx.two E).toArray⟩ := by apply ByteArray.ext; simp
                  have e2 : (⟨(Rx.two c).toArray⟩ : ByteArray) ++ ⟨(45 :: Rx.two E).toArray⟩ = ⟨(Rx.two c ++ 45 :: Rx.two E).toArray⟩ := by apply ByteArray.ext; simp
                  have hl2 := two_len E (by omega)
                  have hl1 := two_len c hc
                  generalize Rx.two E = t2 at *
                  generalize Rx.two c = t1 at *
                  go_wp2_with fail
                  refine ht2.mono ?_
                  rintro e w4 ⟨rfl, hb4⟩
                  go_wp2_with fail
                  go_meet
                  exact ⟨by rw [HT.out], hb4⟩
                · have HT : Hid (runText c E = Rx.two c) := by show _ = _; unfold runText; rw [if_neg hgt]
                  clear ht2
                  generalize Rx.two c = t1 at *
                  go_wp2_with fail
                  go_meet
                  exact ⟨by rw [HT.out], Below.refl _ _⟩
              case rest =>
                obtain ⟨rfl, hb4⟩ := hcut
                clear ht2
                have hbr : Below w.heap.size w wc := (HI.out.bel.trans (hb3.mono hszr)).trans (hb4.mono (by omega))
                have hstr : StrsAt wc w.heap.size u3 done := HI.out.strs.kept (Kept.of_below (S := fun _ => False) (hb3.trans (hb4.mono (by omega)))) (fun _ _ h => h)
                have hown := hstr.own
                have hszc := hbr.size
                have hlen := HI.out.len
                have hfuel := HI.out.fuel
                have hob : ∀ k, u3.ownBlock = some k → w.heap.size ≤ k := fun k e => (hown.lt k e).1
                have HOB := Lib.hid hob
                have HBR := Lib.hid hbr
                clear hob hbr hstr hb3 hb4 c0
                generalize hRT : runText c E = tx at *
                go_wp2_with (at_builtin; refine wpList_append_own_at _ rfl _ _ 100 rfl w.heap.size 9 i0 (.string ⟨#[]⟩) 1 16 Tryz.underlying100 hi hz0 hz1 hz2 rfl (by decide) _ _ _ rfl (hown.alloc _) ⟨wc.heap.size, 0, none⟩ 1 1 [strV tx] rfl rfl (cell_one_new _ _ _) (by simp [strV, Value.oneCell']) (by unfold maxLen; omega) (by omega) (by simp; omega) ?_; intro v' w5 hown' hgrow _ hv')
                have hgrow : (wc.alloc (.cells #[strV tx] 9)).grownBy w5 u3.ownBlock := hgrow
                have hbel5 : Below w.heap.size w w5 := ((Kept.of_below (S := fun _ => False) HBR.out).pushed hgrow HOB.out).below
                refine ⟨⟨E + 1, done ++ [tx], f, by go_num, ⟨fun e => by simp at e, by simpa using hown'⟩, HB0.out.keep hbel5 hplt, HG0.out.kept (Kept.of_below (S := fun _ => False) hbel5) (fun _ h => h.elim) h8, hbel5, by omega, by simp; omega, by omega, ?_⟩, ?_⟩
                · show _ = _
                  rw [HE.out]; simp
                · show 256 - ((E : Int) + 1).toNat < 256 - (c : Int).toNat
                  omega
    · obtain rfl : c = 256 := by omega
      have hd : Rx.rangesF h 257 0 = done := by
        have := I.eq.out
        rw [rangesF_end] at this
        simpa using this
      have HD : Hid (Rx.ranges h = 60 :: Rx.sepBy [44] done ++ [62]) := by show _ = _; unfold Rx.ranges; rw [hd]
      have hdl : done.length ≤ 257 := by rw [← hd]; exact HCNT
      have hsl := sepBy_len [44] 5 done (by rw [← hd]; exact HTXT.out)
      have hsl2 : (Rx.sepBy [44] done).length ≤ 2000 := by
        have : done.length * (5 + 1) ≤ 257 * 6 := Nat.mul_le_mul hdl (by decide)
        simp only [List.length_cons, List.length_nil] at hsl
        omega
      have hj := joinS_any [44] _ done w.heap.size _ I.strs (by omega) (by omega)
      have hbel := I.bel
      generalize Rx.sepBy [44] done = tx at *
      have e1 : (⟨#[60]⟩ : ByteArray) ++ ⟨tx.toArray⟩ = ⟨(60 :: tx).toArray⟩ := by apply ByteArray.ext; simp
      have e2 : (⟨(60 :: tx).toArray⟩ : ByteArray) ++ ⟨#[62]⟩ = ⟨(60 :: tx ++ [62]).toArray⟩ := by apply ByteArray.ext; simp
      clear I hd
      go_wp2_with fail
      refine hj.mono ?_
      rintro e w3 ⟨rfl, hb3⟩
      go_wp2_with fail
      go_ret
      refine ⟨?_, hbel.trans (hb3.mono hbel.size)⟩
      rw [HD.out]
      rfl

end Go.Proofs.YthdkbbkkijdhfaaGreatDoor
