/-
  Walks of set, keyed and Read. Conditions: the strings are no longer than memory allows; the library's errors lie in its variables.
-/
import Derived.Test.YtnhopkjichgckaaDoorW3
import Derived.Laws.EntriesVeiled
namespace Go.Proofs.YtnhopkjichgckaaDoor
open Go.RowKit Go.Shelf

theorem has_int (fl b : Int) : Ord.has fl b = !(bits .and .i64 fl b == 0) := by unfold Ord.has; rfl

/-- set: finds how a key is compared. -/
theorem set_any (b : Nat) (k : Ord.Key) (v : Value) (w : World) (hk : Blk w b (keyCells k v) 51) :
    Calls Tryd.prog 17 #[.pointer (some ⟨b, 0, none⟩)] w fun e w' => e = .returned (.tuple #[]) ∧ KeyAt w' b k ∧ Below b w w' := by
  have hfl : w.cell? ⟨b, 4, none⟩ = some (.int .i64 k.fl) := Blk.cell hk 4 rfl
  have hc5 : w.cell? ⟨b, 5, none⟩ = some v := Blk.cell hk 5 rfl
  have hf5 : w.frozen? ⟨b, 5, none⟩ = false := Blk.free hk 5
  go_enter Tryd.func17, Tryd.ntmps17
  cases hh : Ord.has k.fl 32 with
  | true =>
    have h0 : (bits .and .i64 k.fl 32 == 0) = false := by rw [has_int] at hh; simpa using hh
    have HH := Lib.hid hh; clear hh
    go_wp2_with fail
    go_end0
    refine ⟨rfl, ?_, ((Below.refl b w).setCell (p := ⟨b, 5, none⟩) (Nat.le_refl _) _).setCell (p := ⟨b, 5, none⟩) (Nat.le_refl _) _⟩
    have h := (Blk.set hk 5 (.func (.func 22) #[.pointer (some ⟨b, 0, none⟩)] #[])).set 5 (.func (.func 23) #[] #[])
    unfold KeyAt cmpFn
    rw [HH.out]
    exact h
  | false =>
    have h0 : (bits .and .i64 k.fl 32 == 0) = true := by rw [has_int] at hh; simpa using hh
    have HH := Lib.hid hh; clear hh
    go_wp2_with fail
    go_end0
    refine ⟨rfl, ?_, (Below.refl b w).setCell (p := ⟨b, 5, none⟩) (Nat.le_refl _) _⟩
    have h := Blk.set hk 5 (.func (.func 22) #[.pointer (some ⟨b, 0, none⟩)] #[])
    unfold KeyAt cmpFn
    rw [HH.out]
    exact h

/-- What keyed hands back. -/
def KeyedPost (s : Ord.Bytes) (whole : Int) (w : World) (e : Ending) (w' : World) : Prop := match Ord.keyed s whole with
  | none => e = .returned (.tuple #[.pointer none, .bool false])
  | some k => ∃ b, e = .returned (.tuple #[.pointer (some ⟨b, 0, none⟩), .bool true]) ∧ w.heap.size ≤ b ∧ KeyAt w' b k

theorem cutComma_len (l : Ord.Bytes) : (Ord.cutComma l).1.length ≤ l.length ∧ ∀ r, (Ord.cutComma l).2 = some r → r.length ≤ l.length := by
  induction l with
  | nil => simp [Ord.cutComma]
  | cons c r ih =>
    by_cases hc : c = 44
    · simp [Ord.cutComma, hc]
    · simp only [Ord.cutComma, if_neg hc, List.length_cons]
      exact ⟨by omega, fun x hx => by have := ih.2 x hx; omega⟩

set_option maxHeartbeats 1600000 in
set_option maxRecDepth 100000 in
theorem keyed_any (s : Ord.Bytes) (whole : Int) (hl : s.length ≤ 140737488351232) (w : World) (hg : Glo w) (hB : 8 ≤ w.heap.size) :
    Calls Tryd.prog 16 #[.string ⟨s.toArray⟩, .int .i64 whole] w fun e w' => KeyedPost s whole w e w' ∧ Below w.heap.size w w' := by
  have hcl := cutComma_len s
  obtain ⟨a, ob, hcut⟩ : ∃ a ob, Ord.cutComma s = (a, ob) := ⟨_, _, rfl⟩
  have hcv : cutVal s = .tuple #[.string ⟨a.toArray⟩, .string ⟨(ob.getD []).toArray⟩, .bool ob.isSome] := by unfold cutVal; rw [hcut]
  rw [hcut] at hcl
  obtain ⟨hal, hbl⟩ := hcl
  simp only at hal hbl
  have hcall := fun w => cut_any s hl w
  rw [hcv] at hcall
  have HC := Lib.hid hcut; clear hcut hcv
  go_enter Tryd.func16, Tryd.ntmps16
  go_wp2_with fail
  refine (hcall _).mono ?_
  rintro e w1 ⟨rfl, n, rfl⟩
  clear hcall
  go_wp2_with fail
  have hk1 := Blk.new (w.drewN n) #[.int .i64 0, .int .i64 0, .int .i64 0, .int .i64 0, .int .i64 0, .nilFunc] 51
  have hb1 : Below w.heap.size w ((w.drewN n).alloc (.cells #[.int .i64 0, .int .i64 0, .int .i64 0, .int .i64 0, .int .i64 0, .nilFunc] 51)) := (below_drewN (Below.refl _ _) _).alloc (by simp) _
  have hz1 : w.heap.size + 1 ≤ ((w.drewN n).alloc (.cells #[.int .i64 0, .int .i64 0, .int .i64 0, .int .i64 0, .int .i64 0, .nilFunc] 51)).heap.size := by simp
  rw [show (w.drewN n).heap.size = w.heap.size from by simp] at hk1
  generalize (w.drewN n).alloc (.cells #[.int .i64 0, .int .i64 0, .int .i64 0, .int .i64 0, .int .i64 0, .nilFunc] 51) = w1 at *
  refine (read_any a 1 1 (by omega) _ (hg.below hb1 hB) (by omega)).mono ?_
  rintro e w2 ⟨⟨v, rfl, hv⟩, hb2⟩
  have hk2 := hk1.keep hb2 hk1.lt
  have hz2 := hb2.size
  have hbw2 := hb1.trans (hb2.mono (by omega))
  clear hk1 hb1 hb2
  have k0 := hk2.cell 0 rfl; have k1 := hk2.cell 1 rfl; have k2 := hk2.cell 2 rfl; have k3 := hk2.cell 3 rfl; have k4 := hk2.cell 4 rfl
  have f0 := hk2.free 0; have f1 := hk2.free 1; have f2 := hk2.free 2; have f3 := hk2.free 3; have f4 := hk2.free 4
  unfold readVal at hv
  cases hread : Ord.read a 1 1 with
  | none =>
    rw [hread] at hv
    obtain ⟨f, c, rfl⟩ := hv
    have HP : Hid (Ord.keyed s whole = none) := by show Ord.keyed s whole = none; unfold Ord.keyed; rw [HC.out, hread]
    clear hread
    go_wp2_with fail
    go_ret2
    refine ⟨by unfold KeyedPost; rw [HP.out]; rfl, ?_⟩
    exact ((hbw2.setCell (p := ⟨w.heap.size, 0, none⟩) (Nat.le_refl _) _).setCell (p := ⟨w.heap.size, 1, none⟩) (Nat.le_refl _) _).setCell (p := ⟨w.heap.size, 4, none⟩) (Nat.le_refl _) _
  | some pf =>
    obtain ⟨p, fl⟩ := pf
    rw [hread] at hv
    subst hv
    have HR := Lib.hid hread; clear hread
    have hk3 := ((hk2.set 0 (.int .i64 p.f)).set 1 (.int .i64 p.c)).set 4 (.int .i64 fl)
    have hb3 := ((hbw2.setCell (p := ⟨w.heap.size, 0, none⟩) (Nat.le_refl _) (.int .i64 p.f)).setCell (p := ⟨w.heap.size, 1, none⟩) (Nat.le_refl _) (.int .i64 p.c)).setCell (p := ⟨w.heap.size, 4, none⟩) (Nat.le_refl _) (.int .i64 fl)
    cases ob with
    | none =>
      by_cases hfl : fl = 0
      · have hfl' : (fl == 0) = true := by simpa using hfl
        have HP : Hid (Ord.keyed s whole = some ⟨p, ⟨0, 0⟩, whole⟩) := by show Ord.keyed s whole = _; unfold Ord.keyed; rw [HC.out, HR.out]; simp only [if_pos hfl]
        clear hfl
        go_wp2_with fail
        refine (set_any w.heap.size ⟨p, ⟨0, 0⟩, whole⟩ .nilFunc _ (hk3.set 4 (.int .i64 whole))).mono ?_
        rintro e w3 ⟨rfl, hka, hb4⟩
        go_wp2_with fail
        go_ret2
        refine ⟨by unfold KeyedPost; rw [HP.out]; exact ⟨_, rfl, Nat.le_refl _, hka⟩, ?_⟩
        exact (hb3.setCell (p := ⟨w.heap.size, 4, none⟩) (Nat.le_refl _) _).trans hb4
      · have hfl' : (fl == 0) = false := by simpa using hfl
        have HP : Hid (Ord.keyed s whole = some ⟨p, ⟨0, 0⟩, fl⟩) := by show Ord.keyed s whole = _; unfold Ord.keyed; rw [HC.out, HR.out]; simp only [if_neg hfl]
        clear hfl
        go_wp2_with fail
        refine (set_any w.heap.size ⟨p, ⟨0, 0⟩, fl⟩ .nilFunc _ hk3).mono ?_
        rintro e w3 ⟨rfl, hka, hb4⟩
        go_wp2_with fail
        go_ret2
        exact ⟨by unfold KeyedPost; rw [HP.out]; exact ⟨_, rfl, Nat.le_refl _, hka⟩, hb3.trans hb4⟩
    | some b =>
      go_wp2_with fail
      generalize ((w2.setCell ⟨w.heap.size, 0, none⟩ (.int .i64 p.f)).setCell ⟨w.heap.size, 1, none⟩ (.int .i64 p.c)).setCell ⟨w.heap.size, 4, none⟩ (.int .i64 fl) = w3 at *
      clear k0 k1 k2 k3 k4 f0 f1 f2 f3 f4 hbw2 hk2
      have hz3 := hb3.size
      refine (read_any b 2 0 (by have := hbl b rfl; omega) _ (hg.below hb3 hB) (by omega)).mono ?_
      rintro e w4 ⟨⟨v, rfl, hv⟩, hb4⟩
      have hk4 := hk3.keep hb4 hk3.lt
      have hbw4 := hb3.trans (hb4.mono (by omega))
      clear hk3 hb3 hb4
      have k2 := hk4.cell 2 rfl; have k3 := hk4.cell 3 rfl; have k4 := hk4.cell 4 rfl
      have f2 := hk4.free 2; have f3 := hk4.free 3; have f4 := hk4.free 4
      change w4.cell? _ = some (.int .i64 fl) at k4
      unfold readVal at hv
      cases hread : Ord.read b 2 0 with
      | none =>
        rw [hread] at hv
        obtain ⟨f, c, rfl⟩ := hv
        have HP : Hid (Ord.keyed s whole = none) := by show Ord.keyed s whole = none; unfold Ord.keyed; rw [HC.out, HR.out]; simp only [hread]
        clear hread
        go_wp2_with fail
        go_ret2
        refine ⟨by unfold KeyedPost; rw [HP.out]; rfl, ?_⟩
        exact (hbw4.setCell (p := ⟨w.heap.size, 2, none⟩) (Nat.le_refl _) _).setCell (p := ⟨w.heap.size, 3, none⟩) (Nat.le_refl _) _
      | some pf =>
        obtain ⟨q, fl2⟩ := pf
        rw [hread] at hv
        subst hv
        have HR2 := Lib.hid hread; clear hread
        have hk5 := ((hk4.set 2 (.int .i64 q.f)).set 3 (.int .i64 q.c)).set 4 (.int .i64 (bits .or .i64 fl fl2))
        have hb5 := ((hbw4.setCell (p := ⟨w.heap.size, 2, none⟩) (Nat.le_refl _) (.int .i64 q.f)).setCell (p := ⟨w.heap.size, 3, none⟩) (Nat.le_refl _) (.int .i64 q.c)).setCell (p := ⟨w.heap.size, 4, none⟩) (Nat.le_refl _) (.int .i64 (bits .or .i64 fl fl2))
        by_cases hfl : bits .or .i64 fl fl2 = 0
        · have hfl' : (bits .or .i64 fl fl2 == 0) = true := by simpa using hfl
          have HP : Hid (Ord.keyed s whole = some ⟨p, q, whole⟩) := by show Ord.keyed s whole = _; unfold Ord.keyed; rw [HC.out, HR.out]; simp only [HR2.out, if_pos (show Ord.orI fl fl2 = 0 from hfl)]
          clear hfl
          go_wp2_with fail
          refine (set_any w.heap.size ⟨p, q, whole⟩ .nilFunc _ (hk5.set 4 (.int .i64 whole))).mono ?_
          rintro e w3 ⟨rfl, hka, hb6⟩
          go_wp2_with fail
          go_ret2
          refine ⟨by unfold KeyedPost; rw [HP.out]; exact ⟨_, rfl, Nat.le_refl _, hka⟩, ?_⟩
          exact (hb5.setCell (p := ⟨w.heap.size, 4, none⟩) (Nat.le_refl _) _).trans hb6
        · have hfl' : (bits .or .i64 fl fl2 == 0) = false := by simpa using hfl
          have HP : Hid (Ord.keyed s whole = some ⟨p, q, bits .or .i64 fl fl2⟩) := by show Ord.keyed s whole = _; unfold Ord.keyed; rw [HC.out, HR.out]; simp only [HR2.out, if_neg (show ¬ Ord.orI fl fl2 = 0 from hfl)]; rfl
          clear hfl
          go_wp2_with fail
          refine (set_any w.heap.size ⟨p, q, bits .or .i64 fl fl2⟩ .nilFunc _ hk5).mono ?_
          rintro e w3 ⟨rfl, hka, hb6⟩
          go_wp2_with fail
          go_ret2
          exact ⟨by unfold KeyedPost; rw [HP.out]; exact ⟨_, rfl, Nat.le_refl _, hka⟩, hb5.trans hb6⟩

end Go.Proofs.YtnhopkjichgckaaDoor
