/-
  The walk of field. Conditions: the line lies in memory as it is told; the place asked for is 1 or more.
-/
import Derived.Test.YtnhopkjichgckaaDoorW6
namespace Go.Proofs.YtnhopkjichgckaaDoor
open Go.RowKit Go.Shelf

theorem idx_cases (xs : Ord.Bytes) (c : UInt8) :
    (Lib.indexByte xs c = -1 ∧ (xs.takeWhile (fun d => !((d.toNat : Int) == (c.toNat : Int)))).length = xs.length) ∨
    ∃ i : Nat, Lib.indexByte xs c = i ∧ i < xs.length ∧ (xs.takeWhile (fun d => !((d.toNat : Int) == (c.toNat : Int)))).length = i := by
  induction xs with
  | nil => left; exact ⟨rfl, rfl⟩
  | cons d r ih =>
    by_cases h : d = c
    · subst h
      right
      exact ⟨0, by simp [Lib.indexByte], by simp, by simp⟩
    · have h1 : (d == c) = false := by simpa using h
      have h2 : ((d.toNat : Int) == (c.toNat : Int)) = false := by rw [← u8_beq]; exact h1
      rcases ih with ⟨a, b⟩ | ⟨i, a, b, e⟩
      · left; exact ⟨by simp [Lib.indexByte, h1, a], by simp [h2, b]⟩
      · right
        have e1 : ¬ ((i : Int) = -1) := by omega
        exact ⟨i + 1, by simp [Lib.indexByte, h1, a, e1], by simp; omega, by simp [h2, e]⟩

/-- What field hands back. -/
def fieldVal (sep : Int) (b : Ord.Bytes) (n : Nat) : Value := match Ord.field sep b n 0 with
  | none => .tuple #[.int .i64 0, .int .i64 0, .bool false]
  | some (a, e) => .tuple #[.int .i64 a, .int .i64 e, .bool true]

/-- A hidden run of draws. -/
def Drawn (w w' : World) : Prop := ∃ n, w' = w.drewN n
theorem Drawn.refl (w : World) : Drawn w w := ⟨0, rfl⟩
theorem Drawn.more {w w' : World} (h : Drawn w w') (n : Nat) : Drawn w (w'.drewN n) := by
  obtain ⟨m, rfl⟩ := h
  exact ⟨m + n, by simp [World.drewN, Nat.add_assoc]⟩
theorem Drawn.below {w w' : World} (h : Drawn w w') : Below w.heap.size w w' := by
  obtain ⟨m, rfl⟩ := h
  exact below_drewN (Below.refl _ _) _

theorem field_end (sep : Int) (b : Ord.Bytes) (a : Nat) : Ord.field sep b 1 a = some (a, Ord.fieldEnd sep b a) := by simp [Ord.field]
theorem field_none (sep : Int) (b : Ord.Bytes) (m a : Nat) (hm : 2 ≤ m) (h : Ord.fieldEnd sep b a = b.length) : Ord.field sep b m a = none := by
  match m, hm with
  | m + 2, _ => simp [Ord.field, h]
theorem field_next (sep : Int) (b : Ord.Bytes) (m a : Nat) (hm : 2 ≤ m) (h : Ord.fieldEnd sep b a ≠ b.length) :
    Ord.field sep b m a = Ord.field sep b (m - 1) (if 0 ≤ sep then Ord.fieldEnd sep b a + 1 else Ord.fieldEnd sep b a) := by
  match m, hm with
  | m + 2, _ => simp [Ord.field, h]

set_option maxHeartbeats 1600000 in
set_option maxRecDepth 100000 in
theorem field_sep (ob : Nat) (c : UInt8) (b : Ord.Bytes) (p : Option Addr) (cap n : Nat) (w : World) (hs : w.cell? ⟨ob, 1, none⟩ = some (.int .i64 c.toNat)) (hb : Bs w p b) (hp : p = none → cap = 0)
    (hc : b.length ≤ cap) (hl : b.length ≤ 140737488351232) (hn : 1 ≤ n) (hn2 : n ≤ 2147483647) :
    Calls Tryd.prog 25 #[.pointer (some ⟨ob, 0, none⟩), .slice p b.length cap, .int .i64 n] w fun e w' => e = .returned (fieldVal c.toNat b n) ∧ Drawn w w' := by
  have hcb := u8_bd c
  go_enter Tryd.func25, Tryd.ntmps25
  go_wp2_with fail
  go_loopw [2, 9] (fun nn aa wr => ∃ m a : Nat, 1 ≤ m ∧ m ≤ n ∧ a ≤ b.length ∧ Ord.field c.toNat b m a = Ord.field c.toNat b n 0 ∧ nn = .int .i64 m ∧ aa = .int .i64 a ∧ Drawn w wr) (fun nn _ _ => (intOf nn).toNat)
  case atStart => exact ⟨n, 0, hn, Nat.le_refl _, Nat.zero_le _, rfl, rfl, rfl, Drawn.refl w⟩
  case round =>
    obtain ⟨m, a, hm, hmn, hab, hf, rfl, rfl, hd⟩ := hrel
    have HF := Lib.hid hf; clear hf
    have HD := Lib.hid hd
    have hsr : wr.cell? ⟨ob, 1, none⟩ = some (.int .i64 c.toNat) := by obtain ⟨q, rfl⟩ := hd; exact hs
    have hbr : Bs wr p b := by obtain ⟨q, rfl⟩ := hd; exact hb.drew q
    clear hd
    have hcut := fun w => run_cut p b.length cap a hab w
    have hbd : Bs wr (cutP p cap a) (b.drop a) := by have := hbr.cut hc hab b.length; rwa [List.take_of_length_le (Nat.le_refl _)] at this
    have hpn : cutP p cap a = none → cap - a = 0 := by
      intro h
      unfold cutP at h
      split at h
      · omega
      · cases p with
        | none => have := hp rfl; omega
        | some x => cases h
    have hidx : ∀ k, Calls Tryd.prog 35 #[.slice (cutP p cap a) (b.length - a) (cap - a), .int .u8 c.toNat] (wr.drewN k) fun e w' => e = .returned (.int .i64 (Lib.indexByte (b.drop a) c)) ∧ w' = wr.drewN k := fun k => by
      have := idx_any (b.drop a) (cutP p cap a) (cap - a) c (wr.drewN k) (hbd.drew k) hpn
      rwa [List.length_drop] at this
    clear hbd hpn hbr
    have hfe : Hid (Ord.fieldEnd c.toNat b a = a + ((b.drop a).takeWhile (fun d => !((d.toNat : Int) == (c.toNat : Int)))).length) := by
      show Ord.fieldEnd c.toNat b a = _
      unfold Ord.fieldEnd
      rw [if_pos (by omega)]
    rcases idx_cases (b.drop a) c with ⟨h1, h2⟩ | ⟨i, h1, h2, h3⟩
    · rw [h1] at hidx
      have HE : Hid (Ord.fieldEnd c.toNat b a = b.length) := by show Ord.fieldEnd c.toNat b a = b.length; rw [hfe.out, h2, List.length_drop]; omega
      clear h1 h2
      go_wp2_with fail
      go_quiet ((go_at_call 35; exact Calls.quiet_of_same (hidx _)))
      clear hidx hcut
      have hd2 := HD.out.more nq
      generalize wr.drewN nq = w2 at *
      have HD2 := Lib.hid hd2; clear hd2
      have hsr2 : w2.cell? ⟨ob, 1, none⟩ = some (.int .i64 c.toNat) := by obtain ⟨q, rfl⟩ := HD2.out; exact hs
      by_cases hm1 : m = 1
      · have hm' : ((m : Int) - 1 == 0) = true := by rw [beq_iff_eq]; omega
        have HM := Lib.hid hm1; clear hm1
        go_wp2_with fail
        go_ret3
        refine ⟨?_, HD2.out⟩
        unfold fieldVal
        rw [← HF.out, HM.out, field_end, HE.out]; rfl
      · have hm' : ((m : Int) - 1 == 0) = false := by rw [beq_eq_false_iff_ne]; omega
        go_wp2_with fail
        go_ret3
        refine ⟨?_, HD2.out⟩
        unfold fieldVal
        rw [← HF.out, field_none _ _ _ _ (by omega) HE.out]; rfl
    · rw [h1] at hidx
      have HE : Hid (Ord.fieldEnd c.toNat b a = a + i) := by show Ord.fieldEnd c.toNat b a = a + i; rw [hfe.out, h3]
      rw [List.length_drop] at h2
      clear h1 h3
      go_wp2_with fail
      go_quiet ((go_at_call 35; exact Calls.quiet_of_same (hidx _)))
      clear hidx hcut
      have hd2 := HD.out.more nq
      generalize wr.drewN nq = w2 at *
      have HD2 := Lib.hid hd2; clear hd2
      have hsr2 : w2.cell? ⟨ob, 1, none⟩ = some (.int .i64 c.toNat) := by obtain ⟨q, rfl⟩ := HD2.out; exact hs
      have hie : ((i : Int) + (a : Int) == (b.length : Int)) = false := by rw [beq_eq_false_iff_ne]; omega
      by_cases hm1 : m = 1
      · have hm' : ((m : Int) - 1 == 0) = true := by rw [beq_iff_eq]; omega
        have HM := Lib.hid hm1; clear hm1
        go_wp2_with fail
        go_ret3
        refine ⟨?_, HD2.out⟩
        unfold fieldVal
        rw [← HF.out, HM.out, field_end, HE.out, Nat.add_comm]; rfl
      · have hm' : ((m : Int) - 1 == 0) = false := by rw [beq_eq_false_iff_ne]; omega
        go_wp2_with fail
        go_roundw
        case rel =>
          refine ⟨m - 1, a + i + 1, by omega, by omega, by omega, ?_, by go_num, by go_num, HD2.out⟩
          rw [← HF.out, field_next _ _ m a (by omega) (by rw [HE.out]; omega), if_pos (by omega), HE.out]
        case measure => simp [intOf]; omega

end Go.Proofs.YtnhopkjichgckaaDoor
