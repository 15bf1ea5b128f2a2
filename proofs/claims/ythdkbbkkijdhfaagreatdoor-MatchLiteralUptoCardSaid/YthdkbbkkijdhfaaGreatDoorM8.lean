/-
  The walk of Find. Condition: the states and the bytes lie in memory.
-/
import Derived.Test.YthdkbbkkijdhfaaGreatDoorM7
namespace Go.Proofs.YthdkbbkkijdhfaaGreatDoor
open Go.RowKit Go.Shelf Go.Maps

/-- What Find hands back. -/
def findVal : Option (Nat × Nat) → Value
  | some (x, y) => .tuple #[.int .i64 x, .int .i64 y, .bool true]
  | none => .tuple #[.int .i64 0, .int .i64 0, .bool false]

theorem findF_past (P : List Mx.St) (start : Nat) (b : Rx.Bytes) (f a : Nat) (h : b.length < a) : Mx.findF P start b f a = none := by
  cases f with
  | zero => rfl
  | succ f => rw [Mx.findF, if_pos h]

set_option maxHeartbeats 1600000 in
set_option maxRecDepth 100000 in
theorem Find_any (q start bc : Nat) (from_ : Int) (v : Value) (L : Sts) (b : Rx.Bytes) (bp : Option Addr) (w : World) (hpg : Pg w q v start L) (hgo : Mx.Good (sts L)) (hkd : Mx.Kinds (sts L)) (hL : L.length ≤ 1000000) (hst : start < L.length)
    (hbs : Bs w bp b) (hbl : b.length ≤ 1000000000) :
    Calls Tryz.prog 13 #[.pointer (some ⟨q, 0, none⟩), .slice bp b.length bc, .int .i64 from_] w fun e w' => e = .returned (findVal (Mx.find (sts L) start b from_.toNat)) ∧ Below w.heap.size w w' := by
  have hlong : Hid (∀ (w' : World) (a : Nat), Below w.heap.size w w' → a ≤ b.length → Calls Tryz.prog 32 #[.pointer (some ⟨q, 0, none⟩), .slice bp b.length bc, .int .i64 a] w' fun e w2 => e = .returned (longVal (Mx.longest (sts L) start b a)) ∧ Below w'.heap.size w' w2) := fun w' a hb ha =>
    longest_any q start a bc v L b bp w' (hpg.kept (Kept.of_below (S := fun _ => False) hb) fun k hk => hk.elim) hgo hkd hL hst (hbs.below hb (Nat.le_refl _)) hbl ha
  generalize hR : Mx.find (sts L) start b from_.toNat = R
  have HR := Lib.hid hR
  clear hR hpg hgo hkd hbs
  go_enter Tryz.func13, Tryz.ntmps13
  go_wp2_with fail
  go_loopw [9, 10, 11] (fun x9 _x10 _x11 wr => ∃ a f : Nat, x9 = .int .i64 a ∧ b.length < a + f ∧ Hid (Mx.findF (sts L) start b f a = R) ∧ Below w.heap.size w wr) (fun x9 _ _ _ => b.length + 1 - (intOf x9).toNat)
  case atStart => exact ⟨from_.toNat, b.length + 1, by congr 1; omega, by omega, HR.out, Below.refl _ _⟩
  case round =>
    obtain ⟨a, f, rfl, hf, hq, hbw⟩ := hrel
    by_cases hle : a ≤ b.length
    · obtain ⟨f, rfl⟩ : ∃ g, f = g + 1 := ⟨f - 1, by omega⟩
      have hcall := hlong.out wr a hbw hle
      have HQ := Lib.hid hq
      have HBW := Lib.hid hbw
      have hle2 : (a : Int) ≤ (b.length : Int) := by omega
      unfold Hid at hq
      rw [Mx.findF, if_neg (by omega)] at hq
      cases hx : Mx.longest (sts L) start b a with
      | some z =>
        rw [hx] at hcall hq
        have HQ2 : Hid (some (a, z) = R) := hq
        clear hq hx hbw HQ
        unfold longVal at hcall
        go_wp2_with fail
        refine hcall.mono ?_
        rintro e w2 ⟨rfl, hb2⟩
        go_wp2_with fail
        go_ret3
        rw [← HQ2.out]
        exact ⟨rfl, HBW.out.trans (hb2.mono HBW.out.size)⟩
      | none =>
        rw [hx] at hcall hq
        have HQ2 : Hid (Mx.findF (sts L) start b f (a + 1) = R) := hq
        clear hq hx hbw HQ
        unfold longVal at hcall
        go_wp2_with fail
        refine hcall.mono ?_
        rintro e w2 ⟨rfl, hb2⟩
        have HB2 : Hid (Below w.heap.size w w2) := HBW.out.trans (hb2.mono HBW.out.size)
        clear hb2 hcall
        go_wp2_with fail
        refine ⟨⟨a + 1, f, by go_num, by omega, HQ2, HB2.out⟩, ?_⟩
        show b.length + 1 - ((a : Int) + 1).toNat < b.length + 1 - (a : Int).toNat
        omega
    · have HQ2 : Hid (none = R) := by
        unfold Hid at hq
        rw [findF_past _ _ _ _ _ (by omega)] at hq
        exact hq
      have HBW := Lib.hid hbw
      clear hq hbw
      go_wp2_with fail
      go_ret3
      rw [← HQ2.out]
      exact ⟨rfl, HBW.out⟩

end Go.Proofs.YthdkbbkkijdhfaaGreatDoor
