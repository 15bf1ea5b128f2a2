/-
  Texts of this seat put together: R3.
-/
import Derived.Test.YthdkbbkkijdhfaaGreatDoorH16

/-
  The walks of the reference's any and end. Condition: the reader lies in memory.
-/
namespace Go.Proofs.YthdkbbkkijdhfaaGreatDoor
open Go.RowKit Go.Shelf Go.Maps

set_option maxHeartbeats 1600000 in
set_option maxRecDepth 100000 in
theorem rany_any (w : World) : Calls Tryz.prog 62 #[] w fun e w' => e = .returned (.pointer (some ⟨w.heap.size, 0, none⟩)) ∧ Blk w' w.heap.size (setCells fun _ => true) 68 ∧ Below w.heap.size w w' := by
  go_enter Tryz.func62, Tryz.ntmps62
  go_wp2_with fail
  rw [rnd_new]
  have hb := Blk.new w (ndCells 1 (fun _ => false) 0 0 (.slice none 0 0)) 68
  have hbw : Below w.heap.size w (w.alloc (.cells (ndCells 1 (fun _ => false) 0 0 (.slice none 0 0)) 68)) := (Below.refl _ _).alloc (Nat.le_refl _) _
  generalize w.alloc (.cells (ndCells 1 (fun _ => false) 0 0 (.slice none 0 0)) 68) = w1 at *
  go_loopw [2] (fun x2 wr => ∃ k : Nat, k ≤ 256 ∧ x2 = .int .i64 k ∧ Blk wr w.heap.size (ndCells 1 (fun c => decide (c.toNat < k)) 0 0 (.slice none 0 0)) 68 ∧ Below w.heap.size w wr) (fun x2 _ => 256 - (intOf x2).toNat)
  case atStart => exact ⟨0, Nat.zero_le _, rfl, by simpa using hb, hbw⟩
  case round =>
    clear hb hbw
    obtain ⟨k, hk, rfl, hb, hbw⟩ := hrel
    have hlr := hb.lt
    by_cases hlt : k < 256
    · have c0 := hb.cell (1 + k) (nd_has _ _ _ _ _ k hlt)
      have f0 := hb.free (1 + k)
      go_wp2_with fail
      refine ⟨⟨k + 1, by omega, by go_num, ?_, hbw.setCell (Nat.le_refl _) _⟩, ?_⟩
      · have := hb.set (1 + k) (.bool true)
        rw [nd_set _ _ _ _ _ k hlt] at this
        have e : (fun c : UInt8 => if c.toNat = k then true else decide (c.toNat < k)) = fun c => decide (c.toNat < k + 1) := by
          funext c
          by_cases h : c.toNat = k
          · rw [if_pos h]; simp; omega
          · rw [if_neg h]; simp; omega
        rw [e] at this
        exact this
      · show 256 - ((k : Int) + 1).toNat < 256 - (k : Int).toNat
        omega
    · obtain rfl : k = 256 := by omega
      go_wp2_with fail
      go_ret
      refine ⟨rfl, ?_, hbw⟩
      have e : (fun c : UInt8 => decide (c.toNat < 256)) = fun _ => true := by
        funext c
        have := c.toNat_lt
        simp only [decide_eq_true_eq]
        omega
      rw [e] at hb
      exact hb

/-- What end hands back and leaves. -/
def EndPost (r : Nat) (k : UInt8) (s : Rx.Bytes) (at_ : Nat) (ext fold bad : Bool) (e : Ending) (w' : World) : Prop := match Rx.named k (s.drop at_) with
  | some (c, _) => e = .returned (.tuple #[.int .u8 c.toNat, .bool true]) ∧ RfAt w' r s (at_ + 5) ext fold bad
  | none => e = .returned (.tuple #[.int .u8 0, .bool false]) ∧ RfAt w' r s at_ ext fold bad

theorem named_eq (k : UInt8) (u : Rx.Bytes) : Rx.named k u = if 5 ≤ u.length ∧ u.getD 0 0 = 91 ∧ u.getD 1 0 = k ∧ u.getD 3 0 = k ∧ u.getD 4 0 = 93 then some (u.getD 2 0, u.drop 5) else none := by
  unfold Rx.named
  match u with
  | [] => simp
  | [_] => simp
  | [_, _] => simp
  | [_, _, _] => simp
  | [_, _, _, _] => simp
  | a :: b :: c :: d :: e :: r => simp

set_option maxHeartbeats 1600000 in
set_option maxRecDepth 100000 in
theorem rend_any (r : Nat) (s : Rx.Bytes) (k : UInt8) (at_ : Nat) (ext fold bad : Bool) (w : World) (h : RfAt w r s at_ ext fold bad) (ha : at_ ≤ s.length) (hl : s.length < 1073741824) :
    Calls Tryz.prog 99 #[.pointer (some ⟨r, 0, none⟩), .string ⟨#[k]⟩] w fun e w' => EndPost r k s at_ ext fold bad e w' ∧ Kept (· = r) w w' := by
  have c0 : w.cell? ⟨r, 0, none⟩ = some (.string ⟨s.toArray⟩) := Blk.cell h 0 rfl
  have c1 : w.cell? ⟨r, 1, none⟩ = some (.int .i64 at_) := Blk.cell h 1 rfl
  by_cases h5 : at_ + 5 ≤ s.length
  · have hlen : 5 ≤ (s.drop at_).length := by simp; omega
    obtain ⟨a, b, c, d, f, u, hu⟩ : ∃ a b c d f u, s.drop at_ = a :: b :: c :: d :: f :: u := by
      match hx : s.drop at_ with
      | [] => rw [hx] at hlen; simp at hlen
      | [_] => rw [hx] at hlen; simp at hlen
      | [_, _] => rw [hx] at hlen; simp at hlen
      | [_, _, _] => rw [hx] at hlen; simp at hlen
      | [_, _, _, _] => rw [hx] at hlen; simp at hlen
      | a :: b :: c :: d :: f :: u => exact ⟨a, b, c, d, f, u, rfl⟩
    have hdr : ∀ n, s.drop (at_ + n) = (a :: b :: c :: d :: f :: u).drop n := fun n => by rw [← hu, List.drop_drop]
    have gt : ∀ n (hn : at_ + n < s.length), s[at_ + n] = ((a :: b :: c :: d :: f :: u)[n]?.getD 0) := fun n hn => by
      rw [← hu, List.getElem?_drop, List.getElem?_eq_getElem hn]
      rfl
    have i0 : ∀ h, (⟨s.toArray⟩ : ByteArray)[at_]'h = a := fun h => gt 0 (by omega)
    have i2 : ∀ h, (⟨s.toArray⟩ : ByteArray)[at_ + 2]'h = c := fun h => gt 2 (by omega)
    have x1 : (⟨s.toArray⟩ : ByteArray).extract (at_ + 1) (at_ + 2) = ⟨#[b]⟩ := by
      apply ByteArray.ext
      simp [ByteArray.data_extract]
      rw [hdr 1]
      rfl
    have x3 : (⟨s.toArray⟩ : ByteArray).extract (at_ + 3) (at_ + 5) = ⟨#[d, f]⟩ := by
      apply ByteArray.ext
      simp [ByteArray.data_extract]
      rw [hdr 3]
      rfl
    have k2 : (⟨#[k]⟩ : ByteArray) ++ ⟨#[93]⟩ = ⟨#[k, 93]⟩ := by apply ByteArray.ext; simp
    have y1 : (at_ : Int) + 4 < (s.length : Int) := by omega
    clear gt hdr hlen
    by_cases ha1 : a = 91
    · subst ha1
      by_cases hb1 : b = k
      · have hb2 := hb1.symm
        clear hb1
        subst hb2
        by_cases hd1 : d = k
        · have hd2 := hd1.symm
          clear hd1
          subst hd2
          by_cases hf1 : f = 93
          · subst hf1
            have HP : Hid (∀ e w', (e = .returned (.tuple #[.int .u8 c.toNat, .bool true]) ∧ RfAt w' r s (at_ + 5) ext fold bad) → EndPost r k s at_ ext fold bad e w') := fun e w' hh => by
              unfold EndPost
              rw [named_eq, if_pos (by rw [hu]; simp), hu]
              exact hh
            have H := Lib.hid h
            have f1 := Blk.free h 1
            have w2 : IntKind.i64.wrap ((at_ : Int) + 2) = (at_ : Int) + 2 := by simp [IntKind.wrap, IntKind.signed, IntKind.bits]; omega
            have w3 : (0 : Int) ≤ (at_ : Int) + 2 := by omega
            have w4 : (at_ : Int) + 2 < (s.length : Int) := by omega
            have w5 : ((at_ : Int) + 2).toNat = at_ + 2 := by omega
            generalize EndPost r k s at_ ext fold bad = POST at *
            clear h hu h5
            go_enter Tryz.func99, Tryz.ntmps99
            go_wp2_with fail
            go_region
            go_wp2_with fail
            go_region
            go_wp2_with fail
            go_ret2
            refine ⟨HP.out _ _ ⟨rfl, ?_⟩, ((Kept.setCell (S := (· = r)) (Kept.refl _ w) (.inl rfl) 1 _).drew).drew⟩
            have hs := Blk.set H.out 1 (.int .i64 ((at_ : Int) + 5))
            unfold RfAt
            exact Blk.drew (Blk.drew (by simpa using hs))
          · have q1 : (f == 93) = false := beq_eq_false_iff_ne.2 hf1
            have HP : Hid (∀ e w', (e = .returned (.tuple #[.int .u8 0, .bool false]) ∧ RfAt w' r s at_ ext fold bad) → EndPost r k s at_ ext fold bad e w') := fun e w' hh => by
              unfold EndPost
              rw [named_eq, if_neg (fun hh => by rw [hu] at hh; exact hf1 hh.2.2.2.2)]
              exact hh
            have H := Lib.hid h
            generalize EndPost r k s at_ ext fold bad = POST at *
            clear h hu h5
            go_enter Tryz.func99, Tryz.ntmps99
            go_wp2_with fail
            go_region
            go_wp2_with fail
            go_ret2
            exact ⟨HP.out _ _ ⟨rfl, Blk.drew H.out⟩, (Kept.refl (· = r) w).drew⟩
        · have q1 : (d == k) = false := beq_eq_false_iff_ne.2 hd1
          have HP : Hid (∀ e w', (e = .returned (.tuple #[.int .u8 0, .bool false]) ∧ RfAt w' r s at_ ext fold bad) → EndPost r k s at_ ext fold bad e w') := fun e w' hh => by
            unfold EndPost
            rw [named_eq, if_neg (fun hh => by rw [hu] at hh; exact hd1 hh.2.2.2.1)]
            exact hh
          have H := Lib.hid h
          generalize EndPost r k s at_ ext fold bad = POST at *
          clear h hu h5
          go_enter Tryz.func99, Tryz.ntmps99
          go_wp2_with fail
          go_region
          go_wp2_with fail
          go_ret2
          exact ⟨HP.out _ _ ⟨rfl, Blk.drew H.out⟩, (Kept.refl (· = r) w).drew⟩
      · have q1 : (b == k) = false := beq_eq_false_iff_ne.2 hb1
        have q0 : ((#[b] : Array UInt8) == #[k]) = false := by
          rw [beq_eq_false_iff_ne]
          intro e
          simp at e
          exact hb1 e
        have q2 : ((⟨#[b]⟩ : ByteArray) == ⟨#[k]⟩) = false := q0
        have HP : Hid (∀ e w', (e = .returned (.tuple #[.int .u8 0, .bool false]) ∧ RfAt w' r s at_ ext fold bad) → EndPost r k s at_ ext fold bad e w') := fun e w' hh => by
          unfold EndPost
          rw [named_eq, if_neg (fun hh => by rw [hu] at hh; exact hb1 hh.2.2.1)]
          exact hh
        have H := Lib.hid h
        generalize EndPost r k s at_ ext fold bad = POST at *
        clear h hu h5
        go_enter Tryz.func99, Tryz.ntmps99
        go_wp2_with fail
        go_region
        go_wp2_with fail
        go_ret2
        exact ⟨HP.out _ _ ⟨rfl, Blk.drew H.out⟩, (Kept.refl (· = r) w).drew⟩
    · have r1 : ¬ ((a.toNat : Int) = 91) := u8_ne ha1
      have r2 : ((a.toNat : Int) == 91) = false := by simp; omega
      have HP : Hid (∀ e w', (e = .returned (.tuple #[.int .u8 0, .bool false]) ∧ RfAt w' r s at_ ext fold bad) → EndPost r k s at_ ext fold bad e w') := fun e w' hh => by
        unfold EndPost
        rw [named_eq, if_neg (fun hh => by rw [hu] at hh; exact ha1 hh.2.1)]
        exact hh
      have H := Lib.hid h
      generalize EndPost r k s at_ ext fold bad = POST at *
      clear h hu h5 ha1
      go_enter Tryz.func99, Tryz.ntmps99
      go_wp2_with fail
      go_region
      go_wp2_with fail
      go_ret2
      exact ⟨HP.out _ _ ⟨rfl, Blk.drew H.out⟩, (Kept.refl (· = r) w).drew⟩
  · have h5' : ((at_ : Int) + 4 < (s.length : Int)) = False := by simp; omega
    have h6 : decide ((at_ : Int) + 4 < (s.length : Int)) = false := by simp; omega
    have hw : IntKind.i64.wrap ((at_ : Int) + 4) = (at_ : Int) + 4 := by simp [IntKind.wrap, IntKind.signed, IntKind.bits]; omega
    have HP : Hid (∀ e w', (e = .returned (.tuple #[.int .u8 0, .bool false]) ∧ RfAt w' r s at_ ext fold bad) → EndPost r k s at_ ext fold bad e w') := fun e w' hh => by
      unfold EndPost
      rw [named_eq, if_neg (fun hh => h5 (by have := hh.1; simp at this; omega))]
      exact hh
    have H := Lib.hid h
    generalize EndPost r k s at_ ext fold bad = POST at *
    clear h h5
    go_enter Tryz.func99, Tryz.ntmps99
    go_wp2_with fail
    go_region
    go_wp2_with fail
    go_ret2
    exact ⟨HP.out _ _ ⟨rfl, Blk.drew H.out⟩, (Kept.refl (· = r) w).drew⟩

end Go.Proofs.YthdkbbkkijdhfaaGreatDoor
