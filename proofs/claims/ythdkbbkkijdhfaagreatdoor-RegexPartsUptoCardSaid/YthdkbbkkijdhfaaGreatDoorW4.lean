/-
  The walks of folds, one. Condition: what is told lies in memory.
-/
import Derived.Test.YthdkbbkkijdhfaaGreatDoorW3
import Derived.BigRegion
namespace Go.Proofs.YthdkbbkkijdhfaaGreatDoor
open Go.RowKit Go.Shelf

/-- Both letters, of the letters from A on, below the k-th sign. -/
def foldsTo (k : Nat) (h : Rx.Has) : Rx.Has := fun c =>
  if 65 ≤ c.toNat ∧ c.toNat < k then h c || h (c + 32)
  else if 97 ≤ c.toNat ∧ c.toNat < k + 32 then h c || h (c - 32)
  else h c

theorem foldsTo_start (h : Rx.Has) : foldsTo 65 h = h := by
  funext c; unfold foldsTo
  rw [if_neg (by omega), if_neg (by omega)]

theorem foldsTo_end (h : Rx.Has) : foldsTo 91 h = Rx.folds true h := by
  funext c; unfold foldsTo Rx.folds Rx.within
  have e1 : (65 ≤ c.toNat ∧ c.toNat < 91) ↔ ((true && (decide ((65 : UInt8) ≤ c) && decide (c ≤ 90))) = true) := by
    simp only [Bool.true_and, Bool.and_eq_true, decide_eq_true_eq, UInt8.le_iff_toNat_le]
    show _ ↔ (65 ≤ c.toNat ∧ c.toNat ≤ 90)
    omega
  have e2 : (97 ≤ c.toNat ∧ c.toNat < 91 + 32) ↔ ((true && (decide ((97 : UInt8) ≤ c) && decide (c ≤ 122))) = true) := by
    simp only [Bool.true_and, Bool.and_eq_true, decide_eq_true_eq, UInt8.le_iff_toNat_le]
    show _ ↔ (97 ≤ c.toNat ∧ c.toNat ≤ 122)
    omega
  simp only [e1, e2]

theorem foldsTo_step (h : Rx.Has) (k : Nat) (h1 : 65 ≤ k) (h2 : k < 91) (both : Bool)
    (hb : (foldsTo k h (UInt8.ofNat k) || foldsTo k h (UInt8.ofNat (k + 32))) = both) :
    (fun c : UInt8 => if c.toNat = k + 32 then both else if c.toNat = k then both else foldsTo k h c) = foldsTo (k + 1) h := by
  funext c
  have ek : (UInt8.ofNat k).toNat = k := by simp [UInt8.toNat_ofNat']; omega
  have ek2 : (UInt8.ofNat (k + 32)).toNat = k + 32 := by simp [UInt8.toNat_ofNat']; omega
  have hb' : both = (h (UInt8.ofNat k) || h (UInt8.ofNat (k + 32))) := by
    rw [← hb]; unfold foldsTo
    rw [ek, ek2, if_neg (by omega), if_neg (by omega), if_neg (by omega), if_neg (by omega)]
  by_cases hc : c.toNat = k + 32
  · rw [if_pos hc]
    unfold foldsTo
    rw [if_neg (by omega), if_pos (by omega), hb']
    have e : c = UInt8.ofNat (k + 32) := UInt8.toNat_inj.1 (by rw [ek2, hc])
    have e2 : c - 32 = UInt8.ofNat k := by
      apply UInt8.toNat_inj.1
      rw [ek, UInt8.toNat_sub_of_le _ _ (by rw [UInt8.le_iff_toNat_le]; show 32 ≤ c.toNat; omega)]
      show c.toNat - 32 = k
      omega
    rw [← e, e2, Bool.or_comm]
  · rw [if_neg hc]
    by_cases hc2 : c.toNat = k
    · rw [if_pos hc2]
      unfold foldsTo
      rw [if_pos (by omega), hb']
      have e : c = UInt8.ofNat k := UInt8.toNat_inj.1 (by rw [ek, hc2])
      have e2 : c + 32 = UInt8.ofNat (k + 32) := by
        apply UInt8.toNat_inj.1
        rw [ek2, UInt8.toNat_add]
        show (c.toNat + 32) % 256 = k + 32
        omega
      rw [← e, e2]
    · rw [if_neg hc2]
      unfold foldsTo
      by_cases q1 : 65 ≤ c.toNat ∧ c.toNat < k
      · rw [if_pos q1, if_pos (by omega)]
      · rw [if_neg q1, if_neg (c := 65 ≤ c.toNat ∧ c.toNat < k + 1) (by omega)]
        by_cases q2 : 97 ≤ c.toNat ∧ c.toNat < k + 32
        · rw [if_pos q2, if_pos (by omega)]
        · rw [if_neg q2, if_neg (by omega)]

theorem or_32 : ∀ k : Nat, k < 91 → 65 ≤ k → bits .or .i32 (k : Int) 32 = (k : Int) + 32 := by decide +kernel

theorem rd_ne {w : World} {r b : Nat} {s : Rx.Bytes} {ext fold : Bool} {cs : Array Value} (h : RdAt w r s ext fold) (hb : Blk w b cs 87) : r ≠ b := by
  rintro rfl
  unfold RdAt Blk at h
  unfold Blk at hb
  rw [h] at hb
  simp at hb

set_option maxHeartbeats 1600000 in
theorem folds_any (r b : Nat) (kind mn mx : Int) (kids : Value) (h : Rx.Has) (s : Rx.Bytes) (ext fold : Bool) (w : World) (hr : RdAt w r s ext fold) (hb : Blk w b (ndCells kind h mn mx kids) 87) :
    Calls Tryz.prog 50 #[.pointer (some ⟨r, 0, none⟩), .pointer (some ⟨b, 0, none⟩)] w fun e w' => e = .returned (.pointer (some ⟨b, 0, none⟩)) ∧ Blk w' b (ndCells kind (Rx.folds fold h) mn mx kids) 87 ∧ Kept (· = b) w w' := by
  have hne := rd_ne hr hb
  cases fold with
  | false =>
    have c2 : w.cell? ⟨r, 2, none⟩ = some (.bool false) := Blk.cell hr 2 rfl
    go_enter Tryz.func50, Tryz.ntmps50
    go_wp2_with fail
    go_loopw [5, 6] (fun x5 _x6 wr => x5 = .int .i32 65 ∧ wr = w) (fun _ _ _ => 0)
    case atStart => exact ⟨rfl, rfl⟩
    case round =>
      obtain ⟨rfl, rfl⟩ := hrel
      go_wp2_with fail
      go_ret
      refine ⟨rfl, ?_, Kept.refl _ _⟩
      have e : Rx.folds false h = h := by funext c; simp [Rx.folds]
      rw [e]; exact hb
  | true =>
    go_enter Tryz.func50, Tryz.ntmps50
    go_wp2_with fail
    go_loopw [5, 6] (fun x5 _x6 wr => ∃ k : Nat, 65 ≤ k ∧ k ≤ 91 ∧ x5 = .int .i32 k ∧ Blk wr b (ndCells kind (foldsTo k h) mn mx kids) 87 ∧ RdAt wr r s ext true ∧ Kept (· = b) w wr) (fun x5 _ _ => 91 - (intOf x5).toNat)
    case atStart => exact ⟨65, by omega, by omega, rfl, by rw [foldsTo_start]; exact hb, hr, Kept.refl _ _⟩
    case round =>
      clear hb hr
      obtain ⟨k, hk1, hk, rfl, hb, hr, hK⟩ := hrel
      have c2 : wr.cell? ⟨r, 2, none⟩ = some (.bool true) := Blk.cell hr 2 rfl
      by_cases hlt : k < 91
      · have c0 := hb.cell (1 + k) (nd_has _ _ _ _ _ k (by omega))
        have f0 := hb.free (1 + k)
        have c1 := hb.cell (1 + (k + 32)) (nd_has _ _ _ _ _ (k + 32) (by omega))
        have f1 := hb.free (1 + (k + 32))
        have ho := or_32 k hlt hk1
        have HS := Lib.hid (foldsTo_step h k hk1 hlt)
        generalize foldsTo k h (UInt8.ofNat k) = x at *
        generalize foldsTo k h (UInt8.ofNat (k + 32)) = y at *
        go_wp2_with fail
        all_goals
          go_region
          go_wp2_with fail
          rename_i hx
          refine ⟨⟨k + 1, by omega, by omega, by go_num, ?_, ?_, ?_⟩, ?_⟩
          · rw [← HS.out _ rfl, ← nd_set _ _ _ _ _ _ (by omega), ← nd_set _ _ _ _ _ _ (by omega), hx]
            exact ((hb.set (1 + k) _).set (1 + (k + 32)) _).drew
          · exact ((hr.setOther (a := ⟨b, 1 + k, none⟩) hne _).setOther (a := ⟨b, 1 + (k + 32), none⟩) hne _).drew
          · exact ((hK.setCell (.inl rfl) _ _).setCell (.inl rfl) _ _).drew
          · show 91 - ((k : Int) + 1).toNat < 91 - (k : Int).toNat
            omega
      · obtain rfl : k = 91 := by omega
        go_wp2_with fail
        go_ret
        refine ⟨rfl, ?_, hK⟩
        rw [← foldsTo_end]; exact hb

theorem one_any (r : Nat) (c : UInt8) (s : Rx.Bytes) (ext fold : Bool) (w : World) (hr : RdAt w r s ext fold) :
    Calls Tryz.prog 33 #[.pointer (some ⟨r, 0, none⟩), .int .u8 c.toNat] w fun e w' => e = .returned (.pointer (some ⟨w.heap.size, 0, none⟩)) ∧ Blk w' w.heap.size (ndCells 1 (Rx.folds fold fun d => d == c) 0 0 (.slice none 0 0)) 87 ∧ Below w.heap.size w w' := by
  have hc := c.toNat_lt
  have H := Lib.hid hr
  clear hr
  go_enter Tryz.func33, Tryz.ntmps33
  go_upto_region 2 with fail
  rw [nd_new]
  have hb := Blk.new w (ndCells 1 (fun _ => false) 0 0 (.slice none 0 0)) 87
  have hbw : Below w.heap.size w (w.alloc (.cells (ndCells 1 (fun _ => false) 0 0 (.slice none 0 0)) 87)) := (Below.refl _ _).alloc (Nat.le_refl _) _
  have hr := H.out.alloc (.cells (ndCells 1 (fun _ => false) 0 0 (.slice none 0 0)) 87)
  generalize w.alloc (.cells (ndCells 1 (fun _ => false) 0 0 (.slice none 0 0)) 87) = w1 at *
  have hlr := hb.lt
  have c0 := hb.cell (1 + c.toNat) (nd_has _ _ _ _ _ c.toNat hc)
  have f0 := hb.free (1 + c.toNat)
  have hne := rd_ne hr hb
  go_upto_region 3 with fail
  have hb2 := hb.set (1 + c.toNat) (.bool true)
  rw [nd_set _ _ _ _ _ _ hc] at hb2
  have hr2 : RdAt _ r s ext fold := hr.setOther (a := ⟨w.heap.size, 1 + c.toNat, none⟩) hne (.bool true)
  have hbw2 := hbw.setCell (p := ⟨w.heap.size, 1 + c.toNat, none⟩) (Nat.le_refl _) (.bool true)
  clear hb hr hbw c0 f0 hlr
  generalize w1.setCell ⟨w.heap.size, 1 + c.toNat, none⟩ (.bool true) = w2 at *
  have hf := folds_any r w.heap.size 1 0 0 (.slice none 0 0) _ s ext fold w2 hr2 hb2
  have hlr := hb2.lt
  go_wp2_with fail
  refine hf.mono ?_
  rintro e w' ⟨rfl, hb3, hk⟩
  go_wp2_with fail
  go_ret
  have e : (fun d : UInt8 => if d.toNat = c.toNat then true else false) = fun d => d == c := by
    funext d
    by_cases h : d = c
    · subst h; simp
    · rw [if_neg (fun h2 => h (UInt8.toNat_inj.1 h2))]; simp [h]
  rw [e] at hb3
  refine ⟨rfl, hb3, ?_⟩
  exact ((Kept.of_below hbw2).trans' (S := fun _ => False) hk (fun k hk he => by omega)).below

end Go.Proofs.YthdkbbkkijdhfaaGreatDoor
