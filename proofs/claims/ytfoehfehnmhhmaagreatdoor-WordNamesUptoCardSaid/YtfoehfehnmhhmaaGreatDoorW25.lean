/-
  The walks of slices.Clone, begun, caught. Condition: lengths.
-/
import Derived.Test.YtfoehfehnmhhmaaGreatDoorW24
import Derived.Shelf.Slices.Clone
import Derived.Tactics
import Derived.Tactics2
import Derived.Defers
import Derived.Recover
import Derived.Laws.Pointers
namespace Go.Proofs.YtfoehfehnmhhmaaGreatDoor
open Go.RowKit Go.Shelf Go.Maps

def strV (s : Wd.Bytes) : Value := .string ⟨s.toArray⟩

/-- Texts in memory of the call's own. -/
structure StrsOwn (w : World) (B : Nat) (v : Value) (l : List Wd.Bytes) : Prop where
  len : l.length < 1073741824
  each : ∀ s ∈ l, s.length < 1073741824
  own : w.ownsRow B 9 1 v l.length (l.map strV)

theorem StrsOwn.shape {w : World} {B : Nat} {v : Value} {l : List Wd.Bytes} (h : StrsOwn w B v l) : ∃ p c, v = .slice p l.length c := by
  rcases h.own.2 with ⟨h1, h2⟩ | ⟨g, cap, cur, hg, -⟩
  · exact ⟨_, _, by rw [h2]; exact h1⟩
  · exact ⟨_, _, hg⟩
theorem StrsOwn.strs {w : World} {B : Nat} {v : Value} {l : List Wd.Bytes} (h : StrsOwn w B v l) : StrsAt w w.heap.size v l := by
  refine ⟨h.len, h.each, ?_⟩
  rcases h.own.2 with ⟨h1, h2⟩ | ⟨g, cap, cur, rfl, hb, hblk, hc, r⟩
  · exact .inl ⟨List.length_eq_zero_iff.1 h2, none, 0, h1⟩
  · refine .inr ⟨g, 0, cap, rfl, hc, lt_of_block hblk, fun i hi => ?_⟩
    have := h.own.cellAt i (by omega)
    rw [Nat.zero_add, this]
    simp [List.getD_eq_getElem?_getD, hi, strV]
theorem StrsOwn.below {w w' : World} {B : Nat} {v : Value} {l : List Wd.Bytes} (h : StrsOwn w B v l) (hb : Below w.heap.size w w') : StrsOwn w' B v l :=
  ⟨h.len, h.each, own_kept h.own (Kept.of_below (S := fun _ => False) hb) fun _ _ h => h⟩

theorem clone_any (w : World) (B : Nat) (v : Value) (l : List Wd.Bytes) (h : StrsAt w B v l) :
    Calls Tryz.prog 24 #[v] w fun e w' => ∃ v', e = .returned v' ∧ StrsOwn w' w.heap.size v' l ∧ Below w.heap.size w w' := by
  obtain ⟨hl, he, hc⟩ := h
  rcases hc with ⟨rfl, p, c, rfl⟩ | ⟨k, o, c, rfl, hlc, hkb, hcell⟩
  · cases p with
    | none =>
      refine (Any.slices_Clone_string_nil Tryz.laysNm216 0 c w).mono ?_
      rintro e w' ⟨rfl, rfl⟩
      exact ⟨_, rfl, ⟨hl, he, World.ownsRow_nil _ _ _ _⟩, Below.refl _ _⟩
    | some a =>
      refine (Any.slices_Clone_string_zero Tryz.laysNm216 a c w).mono ?_
      rintro e w' ⟨v', rfl, hown, -, hb⟩
      exact ⟨v', rfl, ⟨hl, he, hown⟩, hb⟩
  · refine (Any.slices_Clone_string Tryz.laysNm216 k o l.length c (l.map fun s => ⟨s.toArray⟩) w (by simp) (by omega) fun j hj => ?_).mono ?_
    · rw [List.length_map] at hj
      rw [hcell j hj]
      simp [List.getD_eq_getElem?_getD, hj]
    · rintro e w' ⟨v', rfl, hown, -, hb⟩
      refine ⟨v', rfl, ⟨hl, he, ?_⟩, hb⟩
      have e2 : ((l.map fun s => (⟨s.toArray⟩ : ByteArray)).take l.length).map Value.string = l.map strV := by
        rw [List.take_of_length_le (by simp), List.map_map]; rfl
      rw [e2] at hown
      exact hown

set_option maxHeartbeats 3200000 in
set_option maxRecDepth 100000 in
theorem begun_any (w : World) (B : Nat) (vv av : Value) (vars args : List Wd.Bytes) (st : Nat) (one : Bool) (hv : StrsAt w B vv vars) (ha : StrsAt w B av args) :
    Calls Tryz.prog 18 #[.agg #[vv, av, .int .i64 st], .bool one] w fun e w' => ∃ b vv' av', e = .returned (.pointer (some ⟨b, 0, none⟩)) ∧ w.heap.size ≤ b ∧ ExAt w' b vv' av' (Wd.begun vars args st one) (.slice none 0 0) ∧ Below w.heap.size w w' := by
  obtain ⟨p0, n0, kk0, rfl⟩ := hv.slice
  obtain ⟨p1, n1, kk1, rfl⟩ := ha.slice
  obtain ⟨O, hO⟩ : ∃ O : Obj, O = .cells #[.slice p0 n0 kk0, .slice p1 n1 kk1, .int .i64 st] 25 := ⟨_, rfl⟩
  have hbO : Below w.heap.size w (w.alloc O).drew := ((Below.refl _ _).alloc (Nat.le_refl _) _).drew
  have hblk : Blk (w.alloc O).drew w.heap.size #[.slice p0 n0 kk0, .slice p1 n1 kk1, .int .i64 st] 25 := by rw [hO]; exact Blk.new w _ _
  have k0 := hblk.cell 0 rfl
  have k1 := hblk.cell 1 rfl
  have k2 := hblk.cell 2 rfl
  have hcv := clone_any (w.alloc O).drew B _ vars (hv.below hbO)
  have hca : ∀ W, Below w.heap.size w W → Calls Tryz.prog 24 #[.slice p1 n1 kk1] W fun e w' => ∃ v', e = .returned v' ∧ StrsOwn w' W.heap.size v' args ∧ Below W.heap.size W w' := fun W hW => clone_any W B _ args (ha.below hW)
  have HCV := Lib.hid hcv
  have HCA := Lib.hid hca
  have HBO := Lib.hid hbO
  have hsz : (w.alloc O).drew.heap.size = w.heap.size + 1 := by simp
  have HSZ := Lib.hid hsz
  have HBL := Lib.hid hblk
  clear hcv hca hbO hsz hblk hv ha
  subst hO
  go_enter Tryz.func18, Tryz.ntmps18
  go_wp2_with fail
  go_region_held3 (fun w' => w'.cell? ⟨w.heap.size, 0, none⟩ = some (.slice p0 n0 kk0) ∧ w'.cell? ⟨w.heap.size, 1, none⟩ = some (.slice p1 n1 kk1) ∧ w'.cell? ⟨w.heap.size, 2, none⟩ = some (.int .i64 st))
    (first | go_keep | (exact ⟨HB4.out.cell 0 rfl, HB4.out.cell 1 rfl, HB4.out.cell 2 rfl⟩) | (exact ⟨HB5.out.cell 0 rfl, HB5.out.cell 1 rfl, HB5.out.cell 2 rfl⟩))
    ((first
      | (go_at_call 24; refine HCV.out.mono ?_; rintro e w4 ⟨v4, rfl, ho4, hb4⟩; obtain ⟨p4, c4, rfl⟩ := ho4.shape; have HB4 := Lib.hid (HBL.out.keep hb4 (by rw [HSZ.out]; omega)); have HO4 := Lib.hid ho4; have HW4 := Lib.hid (HBO.out.trans (hb4.mono (by rw [HSZ.out]; omega))); clear ho4 hb4)
      | (go_at_call 24; refine (HCA.out _ HW4.out).mono ?_; rintro e w5 ⟨v5, rfl, ho5, hb5⟩; obtain ⟨p5, c5, rfl⟩ := ho5.shape; have HB5 := Lib.hid (HB4.out.keep hb5 HB4.out.lt); have HO5 := Lib.hid ho5; have HO45 := Lib.hid (HO4.out.below hb5); have HW5 := Lib.hid (HW4.out.trans (hb5.mono HW4.out.size)); clear ho5 hb5)))
  go_wp2_with fail
  go_ret
  have hbn : Below w5.heap.size w5 (w5.alloc (.cells #[.slice p4 vars.length c4, .slice p5 args.length c5, .int .i64 st, .slice none 0 0, .bool one] 51)) := (Below.refl _ _).alloc (Nat.le_refl _) _
  refine ⟨w5.heap.size, _, _, rfl, ?_, ⟨Blk.new w5 _ _, World.ownsRow_nil _ _ _ _, ?_, ?_⟩, HW5.out.trans (hbn.mono HW5.out.size)⟩
  · exact HW5.out.size
  · exact HO45.out.strs.below hbn
  · exact HO5.out.strs.below hbn

end Go.Proofs.YtfoehfehnmhhmaaGreatDoor
